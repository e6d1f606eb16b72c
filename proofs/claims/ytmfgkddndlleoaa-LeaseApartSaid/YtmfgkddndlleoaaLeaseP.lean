/- Leave, Clear, Reclaim, List. -/
import Derived.Test.YtmfgkddndlleoaaLeaseN2
set_option linter.unusedSimpArgs false
set_option linter.unusedVariables false
namespace Go.Proofs.Ytmfgkddndlleoaa
open Go.RowKit

theorem leave1_walk (x : LE) (B : Nat) (s : Int) (w : World) (hc : w.cell? ⟨B, 0, none⟩ = some (.int .i64 s)) :
    Calls Try.prog 43 #[x.val, .pointer (some ⟨B, 0, none⟩)] w fun e w' => e = .returned (.bool (decide (x.s = s))) ∧ Below w.heap.size w w' := by
  have l1 := World.block_lt_of_cell? w _ hc
  unfold LE.val
  go_enter Try.func43, Try.ntmps43
  go_wp2
  go_ret
  exact ⟨congrArg (fun b => Ending.returned (.bool b)) (by first | rfl | simp), (Below.refl _ _).alloc (Nat.le_refl _) _⟩
theorem leave2_walk (x : LE) (B : Nat) (s : Int) (w : World) (hc : w.cell? ⟨B, 0, none⟩ = some (.int .i64 s)) :
    Calls Try.prog 44 #[x.val, .pointer (some ⟨B, 0, none⟩)] w fun e w' => e = .returned (.bool (decide (x.s = s))) ∧ Below w.heap.size w w' := by
  have l1 := World.block_lt_of_cell? w _ hc
  unfold LE.val
  go_enter Try.func44, Try.ntmps44
  go_wp2
  go_ret
  exact ⟨congrArg (fun b => Ending.returned (.bool b)) (by first | rfl | simp), (Below.refl _ _).alloc (Nat.le_refl _) _⟩
def leftP (s : Int) (l : List LE) : List LE := l.filter fun x => !decide (x.s = s)
set_option maxHeartbeats 2000000 in
theorem leave_walk (t : Nat) (born s : Int) (L Q : List LE) (A B : Option Addr) (c d : Nat) (w : World) (h : Tab w t born L Q A B c d) :
    Calls Try.prog 20 #[.pointer (some ⟨t, 0, none⟩), .int .i64 s] w fun e w' => TabEnd t born (leftP s L) (leftP s Q) A B w (.tuple #[]) e w' := by
  have hc := blk_cells h.blk
  have ht := blk_lt h.blk
  have x1 := blk_new w (.cells #[.int .i64 s] 3)
  have HB := Lib.hid ((Below.refl w.heap.size w).alloc (Nat.le_refl _) (.cells #[.int .i64 s] 3))
  have hnb : ∀ k, w.heap.size ≤ k → ¬ tabOwn t A B k := fun k hk e => by have := h.lt k e; omega
  have HNB := Lib.hid hnb
  have HT := Lib.hid h
  have HD := Lib.hid (del_list h HB.out 43 #[.pointer (some ⟨w.heap.size, 0, none⟩)] (fun x => decide (x.s = s)) (enters_of Try.func43 (by kernel_rfl) rfl)
    (fun x hx W hk => leave1_walk x w.heap.size s W (hk.cell (blk_cell x1 rfl) (fun e => hnb w.heap.size (Nat.le_refl _) (.inr (.inl e))))))
  have X1 := Lib.hid x1
  clear x1 hnb h
  go_enter Try.func20, Try.ntmps20
  go_wp2_with fail
  refine HD.out.mono ?_
  rintro e w1 ⟨rfl, hb1, hk1, hT2, hK2⟩
  have ct := blk_cells hb1
  have ft := blk_frees hb1
  have lt1 := blk_lt hb1
  have y1 := hk1.blk X1.out (fun e => HNB.out _ (Nat.le_refl _) (.inr (.inl e)))
  obtain ⟨W2, hW2⟩ : ∃ W2, W2 = w1.setCell ⟨t, 1, none⟩ (.slice A (L.filter fun x => !decide (x.s = s)).length c) := ⟨_, rfl⟩
  have y2 : W2.heap[w.heap.size]? = some (.cells #[.int .i64 s] 3 (0, 0)) := by rw [hW2]; exact ((Keep.refl (fun k => k = t) w1).setCell (fun _ => rfl) _).blk y1 (by omega)
  rw [← hW2] at hT2 hK2
  have HW2 := Lib.hid hW2
  have ct2 := blk_cells hT2.blk
  have ft2 := blk_frees hT2.blk
  have lt2 := blk_lt hT2.blk
  have hlt2 := hT2.lt
  have HD2 := Lib.hid (del_queue hT2 (Below.refl _ _) 44 #[.pointer (some ⟨w.heap.size, 0, none⟩)] (fun x => decide (x.s = s)) (enters_of Try.func44 (by kernel_rfl) rfl)
    (fun x hx W hk => leave2_walk x w.heap.size s W (hk.cell (blk_cell y2 rfl) (fun e => HNB.out w.heap.size (Nat.le_refl _) (.inr (.inr e))))))
  have HK2 := Lib.hid hK2
  clear hb1 hk1 hT2 hK2 hW2 y1 y2 hc hlt2
  go_upto_region 3 with fail
  rw [← HW2.out]
  clear ct ft lt1
  go_wp2_with fail
  refine HD2.out.mono ?_
  rintro e w3 ⟨rfl, hb3, hk3, hT4, hK4⟩
  have ct3 := blk_cells hb3
  have ft3 := blk_frees hb3
  have lt3 := blk_lt hb3
  have HT4 := Lib.hid hT4
  have HK4 := Lib.hid (HK2.out.trans hK4 (fun _ _ e => e))
  clear hb3 hk3 hT4 hK4 ct2 ft2
  go_wp2
  go_end0
  exact ⟨rfl, A, B, c, d, HT4.out, HK4.out, fun k e => .inl e⟩
def clrP (n g s m now : Int) (L : List LE) : List Int × List LE := if rightP s m = false then ([], L) else (sortP (seatsP n g s m now L), L.filter fun x => !overP n g s m now x)
def CEnd (t : Nat) (born : Int) (r : List Int × List LE) (Q : List LE) (A B : Option Addr) (w : World) (e : Ending) (w' : World) : Prop :=
  ∃ O oc c d, e = .returned (.slice O r.1.length oc) ∧ w'.ownsRow 0 3 1 (.slice O r.1.length oc) r.1.length (ints r.1) ∧ Tab w' t born r.2 Q A B c d ∧ Keep (tabOwn t A B) w w' ∧ ∀ k, O.map (·.block) = some k → w.heap.size ≤ k
set_option maxHeartbeats 1000000 in
theorem clear_walk (t : Nat) (born n g s m now : Int) (L Q : List LE) (A B : Option Addr) (c d : Nat) (w : World) (h : Tab w t born L Q A B c d) :
    Calls Try.prog 23 #[.pointer (some ⟨t, 0, none⟩), .agg #[.int .i64 n, .int .i64 g], .int .i64 s, .int .i64 m, .int .i64 now] w (CEnd t born (clrP n g s m now L) Q A B w) := by
  have HRT := Lib.hid (right_walk s m)
  have x0 := blk_new w (.cells #[.int .i64 n, .int .i64 g] 34)
  have HB := Lib.hid ((Below.refl w.heap.size w).alloc (Nat.le_refl _) (.cells #[.int .i64 n, .int .i64 g] 34))
  have HT1 := Lib.hid (h.keep ((Keep.refl (fun _ => False) w).alloc (.cells #[.int .i64 n, .int .i64 g] 34)) (fun _ _ h => h))
  cases hr : rightP s m with
  | false =>
    have hg : clrP n g s m now L = ([], L) := by simp [clrP, hr]
    rw [hg]
    rw [hr] at HRT
    clear h hr hg x0
    go_enter Try.func23, Try.ntmps23
    go_wp2_with fail
    refine (HRT.out _).mono ?_
    rintro e w1 ⟨rfl, rfl⟩
    go_wp2
    go_ret
    exact ⟨none, 0, c, d, rfl, own_nil' _ _ _ _, HT1.out, Keep.of_below HB.out, by simp⟩
  | true =>
    have hg : clrP n g s m now L = (sortP (seatsP n g s m now L), L.filter fun x => !overP n g s m now x) := by rw [clrP, if_neg (by simp [hr])]
    have HG := Lib.hid hg
    rw [hr] at HRT
    have HL := Lib.hid (sortP_length (seatsP n g s m now L))
    have c0 := blk_cells x0
    clear h hr hg x0
    go_enter Try.func23, Try.ntmps23
    go_wp2_with fail
    refine (HRT.out _).mono ?_
    rintro e w1 ⟨rfl, rfl⟩
    go_wp2_with fail
    refine (blocks_walk t born n g s m now L Q A B c d _ HT1.out).mono ?_
    rintro e w2 ⟨O, oc, rfl, hown, hO, hT, hk⟩
    have hfin : CEnd t born (sortP (seatsP n g s m now L), L.filter fun x => !overP n g s m now x) Q A B w (.returned (.slice O (seatsP n g s m now L).length oc)) w2 :=
      ⟨O, oc, c, d, by rw [HL.out], by rw [HL.out]; exact hown, hT, (Keep.of_below (S := tabOwn t A B) HB.out).trans hk (fun _ _ e => e), fun k e => Nat.le_trans HB.out.size (hO k e)⟩
    have HF := Lib.hid hfin
    clear hown hO hT hk c0 hfin
    go_wp2
    go_ret
    rw [HG.out]
    exact HF.out
def recP (born n g s m now : Int) (L Q : List LE) : Bool × List LE × List LE :=
  if rightP s m = false ∨ pastP born now 25 = true then (false, L, Q)
  else if (seatsP n g s m now L).length > 0 then (false, L.filter fun x => !overP n g s m now x, Q)
  else (true, putP ⟨n, g, s, m, clockP now⟩ (L.filter fun x => !overP n g s m now x), Q.filter fun x => !mineP n g s x)
set_option maxHeartbeats 2000000 in
theorem reclaim_walk (t : Nat) (born n g s m now : Int) (L Q : List LE) (A B : Option Addr) (c d : Nat) (w : World) (h : Tab w t born L Q A B c d) (hf : L.length + Q.length < 1000000) :
    Calls Try.prog 16 #[.pointer (some ⟨t, 0, none⟩), .agg #[.int .i64 n, .int .i64 g], .int .i64 s, .int .i64 m, .int .i64 now] w (TabEnd t born (recP born n g s m now L Q).2.1 (recP born n g s m now L Q).2.2 A B w (.bool (recP born n g s m now L Q).1)) := by
  have HRT := Lib.hid (right_walk s m)
  have x0 := blk_new w (.cells #[.int .i64 n, .int .i64 g] 34)
  have HB := Lib.hid ((Below.refl w.heap.size w).alloc (Nat.le_refl _) (.cells #[.int .i64 n, .int .i64 g] 34))
  have HT1 := Lib.hid (h.keep ((Keep.refl (fun _ => False) w).alloc (.cells #[.int .i64 n, .int .i64 g] 34)) (fun _ _ h => h))
  have HGR := Lib.hid (grace_walk t born now (w.alloc (.cells #[.int .i64 n, .int .i64 g] 34)) h.b0 h.b1 (blk_cell HT1.out.blk rfl))
  have hnb : ∀ k, w.heap.size ≤ k → ¬ tabOwn t A B k := fun k hk e => by have := h.lt k e; omega
  have HNB := Lib.hid hnb
  have X0 := Lib.hid x0
  have c0 := blk_cells x0
  cases hr : rightP s m with
  | false =>
    have hg : recP born n g s m now L Q = (false, L, Q) := by simp [recP, hr]
    rw [hg]
    rw [hr] at HRT
    clear h hr hg x0 hnb
    go_enter Try.func16, Try.ntmps16
    go_wp2_with fail
    refine (HRT.out _).mono ?_
    rintro e w1 ⟨rfl, rfl⟩
    go_wp2
    go_ret
    exact ⟨rfl, A, B, c, d, HT1.out, Keep.of_below HB.out, fun k e => .inl e⟩
  | true =>
    rw [hr] at HRT
    cases hp : pastP born now 25 with
    | true =>
      have hg : recP born n g s m now L Q = (false, L, Q) := by simp [recP, hp]
      rw [hg]
      rw [hp] at HGR
      clear h hr hg x0 hnb
      go_enter Try.func16, Try.ntmps16
      go_wp2_with fail
      refine (HRT.out _).mono ?_
      rintro e w1 ⟨rfl, rfl⟩
      go_wp2_with fail
      refine HGR.out.mono ?_
      rintro e w1 ⟨rfl, rfl⟩
      go_wp2
      go_ret
      exact ⟨rfl, A, B, c, d, HT1.out, Keep.of_below HB.out, fun k e => .inl e⟩
    | false =>
      rw [hp] at HGR
      have hg : recP born n g s m now L Q = if (seatsP n g s m now L).length > 0 then (false, L.filter fun x => !overP n g s m now x, Q)
        else (true, putP ⟨n, g, s, m, clockP now⟩ (L.filter fun x => !overP n g s m now x), Q.filter fun x => !mineP n g s x) := by rw [recP, if_neg (by simp [hr, hp])]
      have HG := Lib.hid hg
      have hfl : (L.filter fun x => !overP n g s m now x).length ≤ L.length := List.length_filter_le _ _
      clear h hr hp hg x0 hnb
      by_cases h0 : 0 < (seatsP n g s m now L).length
      · rw [HG.out, if_pos h0]
        have h0' : (0 : Int) < ((seatsP n g s m now L).length : Int) := by omega
        go_enter Try.func16, Try.ntmps16
        go_wp2_with fail
        refine (HRT.out _).mono ?_
        rintro e w1 ⟨rfl, rfl⟩
        go_wp2_with fail
        refine HGR.out.mono ?_
        rintro e w1 ⟨rfl, rfl⟩
        go_wp2_with fail
        refine (blocks_walk t born n g s m now L Q A B c d _ HT1.out).mono ?_
        rintro e w2 ⟨O, oc, rfl, hown, hO, hT, hk⟩
        have HT := Lib.hid hT
        have HK := Lib.hid ((Keep.of_below (S := tabOwn t A B) HB.out).trans hk (fun _ _ e => e))
        clear hown hO hT hk c0
        go_wp2
        go_ret
        exact ⟨rfl, A, B, c, d, HT.out, HK.out, fun k e => .inl e⟩
      · rw [HG.out, if_neg h0]
        have h0' : ((seatsP n g s m now L).length : Int) = 0 := by omega
        have h0n : (seatsP n g s m now L).length = 0 := by omega
        go_enter Try.func16, Try.ntmps16
        go_wp2_with fail
        refine (HRT.out _).mono ?_
        rintro e w1 ⟨rfl, rfl⟩
        go_wp2_with fail
        refine HGR.out.mono ?_
        rintro e w1 ⟨rfl, rfl⟩
        go_wp2_with fail
        refine (blocks_walk t born n g s m now L Q A B c d _ HT1.out).mono ?_
        rintro e w2 ⟨O, oc, rfl, hown, hO, hT, hk⟩
        have HT := Lib.hid hT
        have HK := Lib.hid ((Keep.of_below (S := tabOwn t A B) HB.out).trans hk (fun _ _ e => e))
        have c2 := blk_cells (hk.blk X0.out (HNB.out _ (Nat.le_refl _)))
        clear hown hO hT hk c0
        go_wp2_with fail
        refine (set_walk t born n g s m now _ _ A B c d w2 HT.out (by omega)).mono ?_
        rintro e w5 hend
        obtain ⟨b, he, hfin⟩ := hend
        subst he
        have HF := Lib.hid (TabEnd.after (r := .tuple #[]) (e := .returned (.tuple #[])) ⟨rfl, hfin⟩ HK.out (fun k e => .inl e))
        clear hfin
        go_wp2
        go_ret
        exact ⟨rfl, HF.out.2⟩
end Go.Proofs.Ytmfgkddndlleoaa
