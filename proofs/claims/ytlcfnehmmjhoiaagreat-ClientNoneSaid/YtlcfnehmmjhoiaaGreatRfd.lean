/- The document's requests: numbers, and Encode of a hello. -/
import Derived.Test.YtlcfnehmmjhoiaaGreatRfc
set_option linter.unusedSimpArgs false
set_option linter.unusedVariables false
namespace Go.Proofs.YtlcfnehmmjhoiaaGreat
open Go.RowKit

attribute [local go_sem ↓] Go.wp_at_zero Go.wp_at_succ
def RnI (L : List Nat) (w : World) (v3 v4 : Value) (W : World) : Prop := ∃ i : Nat, i ≤ L.length ∧ v4 = .int .i64 (i : Int) ∧ v3 = .string ⟨(numsP (L.take i)).toArray⟩ ∧ Below w.heap.size w W
set_option maxHeartbeats 1000000 in
theorem rnums_walk (L : List Nat) (X : Option Addr) (cx : Nat) (w : World) (hx : Sl w 1 (.slice X L.length cx) L.length (L.map fun (n : Nat) => Value.int .i64 (n : Int))) (hL : ∀ n ∈ L, n ≤ 4294967295) (hb : L.length ≤ 1000) :
    Calls Tryz.prog 86 #[.slice X L.length cx] w fun e w' => e = .returned (.string ⟨(numsP L).toArray⟩) ∧ Below w.heap.size w w' := by
  have HX := Lib.hid hx
  have HL := Lib.hid hL
  clear hx hL
  go_enter Tryz.func86, Tryz.ntmps86
  go_wp2_with fail
  go_loopw [3, 4] (fun v3 v4 wr => RnI L w v3 v4 wr) (fun _ v _ => L.length - (intOf v).toNat)
  case atStart => exact ⟨0, Nat.zero_le _, rfl, rfl, Below.refl _ _⟩
  case round =>
    obtain ⟨i, hi, rfl, rfl, hbe⟩ := hrel
    obtain ⟨D, hD⟩ : ∃ D, D = numsP (L.take i) := ⟨_, rfl⟩
    have hDl : D.length ≤ 4000 := by rw [hD, numsP_len, List.length_take]; omega
    rw [← hD]
    have HD := Lib.hid hD
    have HBE := Lib.hid hbe
    clear hD hbe
    by_cases hlt : i < L.length
    · obtain ⟨n, hn⟩ : ∃ n, L[i]? = some n := ⟨L[i], List.getElem?_eq_getElem hlt⟩
      have hnl := HL.out n (List.mem_of_getElem? hn)
      obtain ⟨b, o, rfl, hc⟩ : ∃ b o, X = some ⟨b, o, none⟩ ∧ wr.cell? ⟨b, o + i, none⟩ = some (.int .i64 (n : Int)) := (by
        obtain ⟨b, o, e, _, hc⟩ := sl_at (k := i) (u := .int .i64 (n : Int)) (HX.out.below HBE.out) (by rw [List.getElem?_map, hn]; rfl)
        exact ⟨b, o, e, hc⟩)
      have HNT := Lib.hid (numsP_take hn)
      have g0 : (0 : Int) ≤ (i : Int) := by omega
      have g1 : (i : Int) < (L.length : Int) := by omega
      have g2 : IntKind.i64.wrap ((i : Int) + 1) = (i : Int) + 1 := IntWalk.i64_in _ (by omega)
      have HLW := Lib.hid (little_walk n 4 (by omega) (by decide) wr)
      have ad := add_run (a := D) (b := le n 4) (c := D ++ le n 4) rfl (by omega) (by rw [le_len]; omega)
      obtain ⟨E, hE⟩ : ∃ E, E = D ++ le n 4 := ⟨_, rfl⟩
      rw [← hE] at ad
      have HP : ∀ W, Below wr.heap.size wr W → RnI L w (.string ⟨E.toArray⟩) (.int .i64 ((i : Int) + 1)) W := fun W hW => ⟨i + 1, hlt, by rw [Int.natCast_add]; rfl, by rw [HNT.out, ← HD.out, ← hE], bstep HBE.out hW⟩
      have HPP := Lib.hid HP
      clear hn hE HP
      go_wp2_with fail
      refine HLW.out.mono ?_
      rintro e w1 ⟨rfl, h1⟩
      have HP1 := Lib.hid (HPP.out _ h1)
      clear h1
      go_wp2
      go_roundw
      case rel => exact HP1.out
      case measure => simp only [intOf]; omega
    · obtain rfl : i = L.length := by omega
      have g1 : ¬ (L.length : Int) < (L.length : Int) := by omega
      go_wp2
      go_ret
      exact ⟨by rw [HD.out, List.take_length]; rfl, HBE.out⟩
theorem has1_walk (w : World) : Calls Tryz.prog 120 #[.int .i64 1] w fun e w' => e = .returned (.string ⟨#[46]⟩) ∧ w' = w := by
  go_enter Tryz.func120, Tryz.ntmps120
  go_wp2
  go_ret
  exact ⟨rfl, rfl⟩
theorem rnum_walk (n : Int) (h0 : 0 ≤ n) (h1 : n ≤ 1073741824) (w : World) : Calls Tryz.prog 121 #[.int .i64 n] w fun e w' => e = .returned (.bool true) ∧ w' = w := by
  go_enter Tryz.func121, Tryz.ntmps121
  go_wp2
  go_ret
  exact ⟨rfl, rfl⟩
def InI (v5 : Value) : Prop := ∃ i : Nat, i ≤ 1 ∧ v5 = .int .i64 (i : Int)
theorem in1_walk (b : Int) (hb : (46 == b) = false) (w : World) : Calls Tryz.prog 122 #[.string ⟨#[46]⟩, .int .u8 b] w fun e w' => e = .returned (.bool false) ∧ w' = w := by
  go_enter Tryz.func122, Tryz.ntmps122
  go_wp2_with fail
  go_loop [5] (fun v5 => InI v5) (fun v => 1 - (intOf v).toNat)
  case atStart => exact ⟨0, Nat.zero_le _, rfl⟩
  case round =>
    obtain ⟨i, hi, rfl⟩ := hrel
    by_cases hlt : i < 1
    · obtain rfl : i = 0 := by omega
      have hx : ((((⟨#[46]⟩ : ByteArray)[0]'(by decide)).toNat : Int) == b) = false := hb
      go_wp2
      exact ⟨⟨1, Nat.le_refl _, rfl⟩, by simp only [intOf]; omega⟩
    · obtain rfl : i = 1 := by omega
      go_wp2
      go_ret
      exact ⟨rfl, rfl⟩
set_option maxRecDepth 100000 in
set_option maxHeartbeats 2000000 in
theorem rgood_hello (s l q e : Int) (hs : 0 ≤ s ∧ s ≤ 7) (hl : 1 ≤ l ∧ l ≤ 1073741824) (hq : 0 ≤ q ∧ q ≤ 1073741824) (he : 0 ≤ e ∧ e ≤ 1073741824) (A : Option Addr) (c : Nat) (w : World) : Calls Tryz.prog 85 #[.agg #[.int .i64 1, .int .i64 s, .int .i64 l, .int .i64 q, .int .i64 e, .string ⟨#[]⟩, .string ⟨#[]⟩, .int .i64 0, .int .i64 0, .int .i64 0, .int .i64 0, .int .i64 0, .slice A 0 c]] w fun e' w' => e' = .returned (.bool true) ∧ Below w.heap.size w w' := by
  obtain ⟨hs0, hs1⟩ := hs
  obtain ⟨hl0, hl1⟩ := hl
  obtain ⟨hq0, hq1⟩ := hq
  obtain ⟨he0, he1⟩ := he
  have t1 : decide (s < 0) = false := decide_eq_false (by omega)
  have t2 : decide (7 < s) = false := decide_eq_false (by omega)
  have t3 : decide (l < 1) = false := decide_eq_false (by omega)
  have t4 : decide (l ≤ 0) = false := decide_eq_false (by omega)
  go_enter Tryz.func85, Tryz.ntmps85
  go_wp2_with (first
    | (go_at_call 120; refine (has1_walk _).mono ?_; rintro e' w' ⟨rfl, rfl⟩)
    | (go_at_call 121; refine (rnum_walk _ (by first | assumption | omega) (by first | assumption | omega) _).mono ?_; rintro e' w' ⟨rfl, rfl⟩)
    | (go_at_call 122; refine (in1_walk _ (by decide) _).mono ?_; rintro e' w' ⟨rfl, rfl⟩))
  go_ret
  exact ⟨rfl, (Below.refl w.heap.size w).alloc (Nat.le_refl _) _⟩
set_option maxRecDepth 100000 in
set_option maxHeartbeats 2000000 in
theorem renc_hello (s l q e : Int) (hs : 0 ≤ s ∧ s ≤ 7) (hl : 1 ≤ l ∧ l ≤ 1073741824) (hq : 0 ≤ q ∧ q ≤ 1073741824) (he : 0 ≤ e ∧ e ≤ 1073741824) (L : List Nat) (hL : L.map (fun (x : Nat) => Value.int .i64 (x : Int)) = [.int .i64 1, .int .i64 s, .int .i64 l, .int .i64 q, .int .i64 e, .int .i64 0, .int .i64 0, .int .i64 0, .int .i64 0, .int .i64 0]) (hlt : ∀ x ∈ L, x ≤ 4294967295) (A : Option Addr) (c : Nat) (w : World) (hD : Sl w 1 (.slice A 0 c) 0 (bv [])) :
    Calls Tryz.prog 53 #[.agg #[.int .i64 1, .int .i64 s, .int .i64 l, .int .i64 q, .int .i64 e, .string ⟨#[]⟩, .string ⟨#[]⟩, .int .i64 0, .int .i64 0, .int .i64 0, .int .i64 0, .int .i64 0, .slice A 0 c]] w fun e' w' => e' = .returned (.tuple #[.string ⟨(rframeP 81 (numsP L ++ [0, 0] ++ [0, 0] ++ [0, 0])).toArray⟩, .int .i64 0]) ∧ Below w.heap.size w w' := by
  have hLl : L.length = 10 := by have := congrArg List.length hL; simpa using this
  have HG := Lib.hid (fun W => rgood_hello s l q e hs hl hq he A c W)
  have HL := Lib.hid hL
  have HLT := Lib.hid hlt
  obtain ⟨w1, hw1⟩ : ∃ w1, w1 = w.alloc (.cells #[.int .i64 1, .int .i64 s, .int .i64 l, .int .i64 q, .int .i64 e, .string ⟨#[]⟩, .string ⟨#[]⟩, .int .i64 0, .int .i64 0, .int .i64 0, .int .i64 0, .int .i64 0, .slice A 0 c] 58) := ⟨_, rfl⟩
  have b1 : w1.heap[w.heap.size]? = some (.cells #[.int .i64 1, .int .i64 s, .int .i64 l, .int .i64 q, .int .i64 e, .string ⟨#[]⟩, .string ⟨#[]⟩, .int .i64 0, .int .i64 0, .int .i64 0, .int .i64 0, .int .i64 0, .slice A 0 c] 58 (0, 0)) := by rw [hw1]; exact blk_new w _
  have B1 : Below w.heap.size w w1 := by rw [hw1]; exact (Below.refl w.heap.size w).alloc (Nat.le_refl _) _
  have HW1 := Lib.hid hw1
  have HC1 := Lib.hid b1
  have HB1 := Lib.hid B1
  have c1 := blk_cells b1
  have HCC := Lib.hid c1
  have hcv : ∀ W : World, (convert 30 9 (.slice A 0 c)).run Tryz.prog W = .ok (.string ⟨#[]⟩) W := fun W => run_conv_bytes (n := 0) (d := []) W (e := 5) (by kernel_rfl) (by kernel_rfl) (by kernel_rfl) (by
    obtain ⟨A', c', e', hr, hz, hc, hl⟩ := hD
    exact ⟨A', c', e', .inl rfl, hz, hc, hl⟩)
  clear hs hl hq he hL hlt hw1 b1 B1 c1 hD
  go_enter Tryz.func53, Tryz.ntmps53
  go_wp2_with fail
  rw [← HW1.out]
  refine (HG.out w1).mono ?_
  rintro e' w2 ⟨rfl, h2⟩
  have b2 := (Keep.of_below (S := fun _ => False) h2).blk HC1.out id
  have HB2 := Lib.hid (bstep HB1.out h2)
  have c2 := blk_cells b2
  obtain ⟨w3, hw3⟩ : ∃ w3, w3 = w2.alloc (.cells #[.int .i64 1, .int .i64 s, .int .i64 l, .int .i64 q, .int .i64 e, .int .i64 0, .int .i64 0, .int .i64 0, .int .i64 0, .int .i64 0] 3) := ⟨_, rfl⟩
  have HW3 := Lib.hid hw3
  have hB3 : Below w.heap.size w w3 := by rw [hw3]; exact HB2.out.alloc HB2.out.size _
  have hC3 := blk_old b2 (.cells #[.int .i64 1, .int .i64 s, .int .i64 l, .int .i64 q, .int .i64 e, .int .i64 0, .int .i64 0, .int .i64 0, .int .i64 0, .int .i64 0] 3)
  rw [← hw3] at hC3
  have hS3 : Sl w3 1 (.slice (some ⟨w2.heap.size, 0, none⟩) L.length 10) L.length (L.map fun (x : Nat) => Value.int .i64 (x : Int)) := by
    rw [hw3, HL.out, hLl]
    exact Sl.of_own (own_new w2 #[.int .i64 1, .int .i64 s, .int .i64 l, .int .i64 q, .int .i64 e, .int .i64 0, .int .i64 0, .int .i64 0, .int .i64 0, .int .i64 0] 3 1 10 rfl (by decide))
  have hnw := rnums_walk L (some ⟨w2.heap.size, 0, none⟩) 10 w3 hS3 HLT.out (by omega)
  rw [hLl] at hnw
  have HN := Lib.hid hnw
  have HB3 := Lib.hid hB3
  have HC3 := Lib.hid hC3
  have HLl := Lib.hid hLl
  clear h2 b2 hw3 hB3 hC3 hS3 hnw hLl
  go_wp2_with fail
  rw [← HW3.out]
  refine HN.out.mono ?_
  rintro e' w4 ⟨rfl, h4⟩
  have b4 := (Keep.of_below (S := fun _ => False) h4).blk HC3.out id
  have HB4 := Lib.hid (bstep HB3.out h4)
  clear c2 h4
  go_upto_region 4 with fail
  have HS4 : Hid (∀ W, Below w4.heap.size w4 W → W.cell? ⟨w.heap.size, 5, none⟩ = some (.string ⟨#[]⟩) ∧ W.cell? ⟨w.heap.size, 6, none⟩ = some (.string ⟨#[]⟩) ∧ W.cell? ⟨w.heap.size, 12, none⟩ = some (.slice A 0 c)) := Lib.hid (fun W hW => by
    have := (Keep.of_below (S := fun _ => False) hW).blk b4 id
    exact ⟨(blk_cells this 5).trans rfl, (blk_cells this 6).trans rfl, (blk_cells this 12).trans rfl⟩)
  have HT : Hid (∀ W, Below w4.heap.size w4 W → Calls Tryz.prog 88 #[.string ⟨#[]⟩] W fun e w' => e = .returned (.string ⟨#[0, 0]⟩) ∧ Below w4.heap.size w4 w') := Lib.hid (fun W hW => (rtext_walk [] (by decide) W).mono (fun e w' q => ⟨q.1, bstep hW q.2⟩))
  obtain ⟨N, hN⟩ : ∃ N, N = numsP L := ⟨_, rfl⟩
  have hNl : N.length = 40 := by rw [hN, numsP_len, HLl.out]
  obtain ⟨a1, ha1⟩ : ∃ a1, a1 = N ++ [0, 0] := ⟨_, rfl⟩
  obtain ⟨a2, ha2⟩ : ∃ a2, a2 = a1 ++ [0, 0] := ⟨_, rfl⟩
  obtain ⟨a3, ha3⟩ : ∃ a3, a3 = a2 ++ [0, 0] := ⟨_, rfl⟩
  have l1 : a1.length = 42 := by rw [ha1, List.length_append, hNl]; rfl
  have l2 : a2.length = 44 := by rw [ha2, List.length_append, l1]; rfl
  have l3 : a3.length = 46 := by rw [ha3, List.length_append, l2]; rfl
  have ad1 := add_run (a := N) (b := [0, 0]) (c := a1) ha1 (by omega) (by decide)
  have ad2 := add_run (a := a1) (b := [0, 0]) (c := a2) ha2 (by omega) (by decide)
  have ad3 := add_run (a := a2) (b := [0, 0]) (c := a3) ha3 (by omega) (by decide)
  have HF : Hid (∀ W, Below w4.heap.size w4 W → Calls Tryz.prog 87 #[.int .u8 81, .string ⟨a3.toArray⟩] W fun e w' => e = .returned (.tuple #[.string ⟨(rframeP 81 a3).toArray⟩, .int .i64 0]) ∧ Below w4.heap.size w4 w') := Lib.hid (fun W hW => (rframe_walk 81 a3 (by omega) W).mono (fun e w' q => ⟨q.1, bstep hW q.2⟩))
  obtain ⟨F, hF⟩ : ∃ F, F = rframeP 81 a3 := ⟨_, rfl⟩
  rw [← hF] at HF
  have HFF : Hid (F = rframeP 81 (numsP L ++ [0, 0] ++ [0, 0] ++ [0, 0])) := Lib.hid (by rw [hF, ha3, ha2, ha1, hN])
  rw [← hN]
  have HB := Lib.hid ((Below.refl w4.heap.size w4).drew)
  clear hN hNl ha1 ha2 ha3 l1 l2 l3 hF b4
  have rd := HS4.out _ HB.out
  go_region_held3 (fun W => W.cell? ⟨w.heap.size, 5, none⟩ = some (.string ⟨#[]⟩) ∧ W.cell? ⟨w.heap.size, 6, none⟩ = some (.string ⟨#[]⟩) ∧ W.cell? ⟨w.heap.size, 12, none⟩ = some (.slice A 0 c)) (first | with_reducible exact HS4.out _ HB.out) (first
    | (go_at_call 88; with_reducible refine (HT.out _ HB.out).mono ?_; rintro e w5 ⟨rfl, hb5⟩; have HB := Lib.hid hb5; clear hb5)
    | (go_at_call 87; with_reducible refine (HF.out _ HB.out).mono ?_; rintro e w6 ⟨rfl, hb6⟩; have HB := Lib.hid hb6; clear hb6))
  have HE := Lib.hid (bstep HB4.out HB.out)
  clear rd
  go_wp2
  go_ret2
  exact ⟨by rw [← HFF.out]; rfl, HE.out⟩
end Go.Proofs.YtlcfnehmmjhoiaaGreat
