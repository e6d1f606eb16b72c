/- Words and contracts that the proofs of this set use; each part says what it holds. -/
import Derived.BigQuiet
import Derived.Laws.CopyOwn
import Derived.ProofKit
import Derived.SizedLaws
import Derived.Deep.Slices
import Derived.Deep.Strs
import Derived.ChangeOld
import Derived.Test.YtgedcnnbeangcaaGreatPkS5
import Derived.Test.YtgedcnnbeangcaaGreatPkS2
import Derived.Test.YtgedcnnbeangcaaGreatPkS0
/- Package store: ready, at a drive that is not. -/
set_option linter.unusedSimpArgs false
set_option linter.unusedVariables false
namespace Go.Proofs.YtgedcnnbeangcaaGreat
open Go.RowKit

attribute [local go_sem ↓] Go.wp_at_zero Go.wp_at_succ
def RbP (w : World) (r : Ending) (w' : World) : Prop := r = .returned (.tuple #[.agg #[.int .i64 0, .int .i64 0, .int .i64 0], .int .i64 2]) ∧ Below w.heap.size w w'
set_option maxRecDepth 100000 in
set_option maxHeartbeats 4000000 in
theorem rdy_none (B k : Nat) (s : DrS) (w : World) (A : Option Addr) (c : Nat) (h : DR B k s w A c none 0) (hs : s.on) (b0 : List UInt8) (hb0 : s.sure[0]? = some b0) (hd0 : decS b0 = none) :
    Calls Tryz.prog 41 #[.pointer (some ⟨k, 0, none⟩)] w (RbP w) := by
  have hl0 := hs.ok.each b0 (List.mem_of_getElem? hb0)
  obtain ⟨w0, hw0⟩ : ∃ w0, w0 = w.alloc (.cells #[.int .i64 0, .int .i64 0, .int .i64 0] 38) := ⟨_, rfl⟩
  have hbw0 : Below w.heap.size w w0 := by rw [hw0]; exact (Below.refl _ w).alloc (Nat.le_refl _) _
  have hn := blk_new w (.cells #[.int .i64 0, .int .i64 0, .int .i64 0] 38)
  rw [← hw0] at hn
  have HN := Lib.hid hn
  have HG := Lib.hid (dget_walk B k s w0 A c 0 (h.below hbw0) hs.ok hs.list hs.dead 0 _ hb0)
  have HW0 := Lib.hid hw0
  have HBW0 := Lib.hid hbw0
  have HL0 := Lib.hid hl0
  have HD0 := Lib.hid hd0
  clear h hs hb0 hd0 hl0 hw0 hbw0 hn
  go_enter Tryz.func41, Tryz.ntmps41
  go_wp2_with fail
  rw [← HW0.out]
  refine HG.out.mono ?_
  rintro r w1 ⟨g, rfl, h1, h2, hb1⟩
  have HSD := Lib.hid (sdecode_walk b0 (some ⟨g, 0, none⟩) 128 w1 (by rw [HL0.out]; exact h1) HL0.out)
  have HB1 := Lib.hid (HBW0.out.trans (hb1.mono HBW0.out.size))
  have HN1 := Lib.hid ((Keep.of_below (S := fun _ => False) hb1).blk HN.out id)
  clear h1 h2 hb1
  go_wp2_with fail
  refine HSD.out.mono ?_
  rintro r w2 hr2
  obtain ⟨hb2, he⟩ := hr2
  rw [HD0.out] at he
  subst he
  obtain ⟨w3, hw3⟩ : ∃ w3, w3 = w2.alloc (.cells #[.int .i64 0, .int .i64 0, .int .i64 0] 38) := ⟨_, rfl⟩
  have hb3 : Below w2.heap.size w2 w3 := by rw [hw3]; exact (Below.refl _ w2).alloc (Nat.le_refl _) _
  have HB3 := Lib.hid (HB1.out.trans ((bstep hb2 hb3).mono HB1.out.size))
  have HN3 := Lib.hid ((Keep.of_below (S := fun _ => False) (bstep hb2 hb3)).blk HN1.out id)
  have HW3 := Lib.hid hw3
  clear hb2 hb3 hw3
  go_upto_region 5 with fail
  rw [← HW3.out]
  go_quiet (fail)
  obtain ⟨W, hW⟩ : ∃ W, W = w3.drewN nq := ⟨_, rfl⟩
  have hnW : W.heap[w.heap.size]? = some (.cells #[.int .i64 0, .int .i64 0, .int .i64 0] 38 (0, 0)) := by rw [hW]; exact HN3.out
  have hbW : Below w.heap.size w W := by rw [hW]; exact ((Keep.of_below (S := fun j => w.heap.size ≤ j) HB3.out).drewN nq).below (fun _ h => h) (Nat.le_refl _)
  rw [← hW]
  have n0 := (blk_cells hnW 0).trans (show _ = some (.int .i64 0) from rfl)
  have n1 := (blk_cells hnW 1).trans (show _ = some (.int .i64 0) from rfl)
  have n2 := (blk_cells hnW 2).trans (show _ = some (.int .i64 0) from rfl)
  have f0 := blk_frees hnW 0
  have f1 := blk_frees hnW 1
  have f2 := blk_frees hnW 2
  have HN9 := Lib.hid hnW
  have HB9 := Lib.hid hbW
  clear hnW hbW hW
  go_wp2_with fail
  have hb := blk_set (blk_set (blk_set HN9.out (.int .i64 0) (j := 0)) (.int .i64 0) (j := 1)) (.int .i64 0) (j := 2)
  have hk : Keep (fun j => j = w.heap.size) W (((W.setCell ⟨w.heap.size, 0, none⟩ (.int .i64 0)).setCell ⟨w.heap.size, 1, none⟩ (.int .i64 0)).setCell ⟨w.heap.size, 2, none⟩ (.int .i64 0)) := ((keep_set _ _ 0 _).trans (keep_set _ _ 1 _) (fun _ _ h => h)).trans (keep_set _ _ 2 _) (fun _ _ h => h)
  have HP : Hid (Below w.heap.size w _) := Lib.hid (HB9.out.trans (hk.below (fun j (e : j = w.heap.size) => by omega) HB9.out.size))
  have e0 := (blk_cells hb 0).trans (show _ = some (.int .i64 0) from rfl)
  have e1 := (blk_cells hb 1).trans (show _ = some (.int .i64 0) from rfl)
  have e2 := (blk_cells hb 2).trans (show _ = some (.int .i64 0) from rfl)
  clear hb hk n0 n1 n2 f0 f1 f2
  generalize (((W.setCell ⟨w.heap.size, 0, none⟩ (.int .i64 0)).setCell ⟨w.heap.size, 1, none⟩ (.int .i64 0)).setCell ⟨w.heap.size, 2, none⟩ (.int .i64 0)) = w9 at e0 e1 e2 HP ⊢
  refine bodyPost_ret (by simp [results, Tryz.results41, go_sem, e0, e1, e2]; try rfl) rfl ?_
  exact ⟨rfl, HP.out⟩
set_option maxRecDepth 100000 in
set_option maxHeartbeats 4000000 in
theorem rdy_many (B k : Nat) (s : DrS) (w : World) (A : Option Addr) (c : Nat) (h : DR B k s w A c none 0) (hs : s.on) (b0 : List UInt8) (hb0 : s.sure[0]? = some b0) (sup : SuS) (hd0 : decS b0 = some sup) (hne : sup.sectors ≠ s.sure.length) :
    Calls Tryz.prog 41 #[.pointer (some ⟨k, 0, none⟩)] w (RbP w) := by
  have hl0 := hs.ok.each b0 (List.mem_of_getElem? hb0)
  obtain ⟨w0, hw0⟩ : ∃ w0, w0 = w.alloc (.cells #[.int .i64 0, .int .i64 0, .int .i64 0] 38) := ⟨_, rfl⟩
  have hbw0 : Below w.heap.size w w0 := by rw [hw0]; exact (Below.refl _ w).alloc (Nat.le_refl _) _
  have hn := blk_new w (.cells #[.int .i64 0, .int .i64 0, .int .i64 0] 38)
  rw [← hw0] at hn
  have HN := Lib.hid hn
  have HG := Lib.hid (dget_walk B k s w0 A c 0 (h.below hbw0) hs.ok hs.list hs.dead 0 _ hb0)
  have HW0 := Lib.hid hw0
  have HBW0 := Lib.hid hbw0
  have HH := Lib.hid h
  have HS := Lib.hid hs
  have HL0 := Lib.hid hl0
  have HD0 := Lib.hid hd0
  have HNE := Lib.hid hne
  clear h hs hb0 hd0 hl0 hw0 hbw0 hn hne
  go_enter Tryz.func41, Tryz.ntmps41
  go_wp2_with fail
  rw [← HW0.out]
  refine HG.out.mono ?_
  rintro r w1 ⟨g, rfl, h1, h2, hb1⟩
  have HSD := Lib.hid (sdecode_walk b0 (some ⟨g, 0, none⟩) 128 w1 (by rw [HL0.out]; exact h1) HL0.out)
  have HB1 := Lib.hid (HBW0.out.trans (hb1.mono HBW0.out.size))
  have HN1 := Lib.hid ((Keep.of_below (S := fun _ => False) hb1).blk HN.out id)
  clear h1 h2 hb1
  go_wp2_with fail
  refine HSD.out.mono ?_
  rintro r w2 hr2
  obtain ⟨hb2, he⟩ := hr2
  rw [HD0.out] at he
  subst he
  obtain ⟨s1, e1⟩ : ∃ q, q = sup.sectors := ⟨_, rfl⟩
  obtain ⟨s2, e2⟩ : ∃ q, q = sup.epoch := ⟨_, rfl⟩
  obtain ⟨s3, e3⟩ : ∃ q, q = sup.gens := ⟨_, rfl⟩
  have hv : sup.val = .agg #[.int .i64 (s1 : Int), .int .i64 (s2 : Int), .int .i64 (s3 : Int)] := by rw [e1, e2, e3]
  obtain ⟨w3, hw3⟩ : ∃ w3, w3 = w2.alloc (.cells #[.int .i64 (s1 : Int), .int .i64 (s2 : Int), .int .i64 (s3 : Int)] 38) := ⟨_, rfl⟩
  have hn3 := blk_new w2 (.cells #[.int .i64 (s1 : Int), .int .i64 (s2 : Int), .int .i64 (s3 : Int)] 38)
  have hb3 : Below w2.heap.size w2 w3 := by rw [hw3]; exact (Below.refl _ w2).alloc (Nat.le_refl _) _
  rw [← hw3] at hn3
  have q0 := (blk_cells hn3 0).trans (show _ = some (.int .i64 (s1 : Int)) from rfl)
  have h13 := bstep hb2 hb3
  have HB3 := Lib.hid (HB1.out.trans (h13.mono HB1.out.size))
  have HSE := Lib.hid (sectors_walk B k s w3.drew A c none 0 (HH.out.below HB3.out.drew))
  have HN3 := Lib.hid ((Keep.of_below (S := fun _ => False) h13).blk HN1.out id)
  have HW3 := Lib.hid hw3
  obtain ⟨m, hm⟩ : ∃ m, m = s.sure.length := ⟨_, rfl⟩
  have hn1 : ¬ (s1 : Int) = (m : Int) := by have := HNE.out; omega
  rw [← hm] at HSE
  clear hb2 hb3 hn3 h13 e1 e2 e3 hw3 hm
  rw [hv]
  clear hv
  go_upto_region 5 with fail
  rw [← HW3.out]
  go_region_law (first | (go_simp; go_at_call 47; refine HSE.out.mono ?_; rintro r w' ⟨rfl, rfl⟩))
  all_goals
    have hnW : w3.drew.heap[w.heap.size]? = some (.cells #[.int .i64 0, .int .i64 0, .int .i64 0] 38 (0, 0)) := HN3.out
    have hbW : Below w.heap.size w w3.drew := HB3.out.drew
    obtain ⟨W, hW⟩ : ∃ W, W = w3.drew := ⟨_, rfl⟩
    rw [← hW] at hnW hbW ⊢
    have n0 := (blk_cells hnW 0).trans (show _ = some (.int .i64 0) from rfl)
    have n1 := (blk_cells hnW 1).trans (show _ = some (.int .i64 0) from rfl)
    have n2 := (blk_cells hnW 2).trans (show _ = some (.int .i64 0) from rfl)
    have f0 := blk_frees hnW 0
    have f1 := blk_frees hnW 1
    have f2 := blk_frees hnW 2
    have HN9 := Lib.hid hnW
    have HB9 := Lib.hid hbW
    clear hnW hbW hW HSE
    go_wp2_with fail
    have hb := blk_set (blk_set (blk_set HN9.out (.int .i64 0) (j := 0)) (.int .i64 0) (j := 1)) (.int .i64 0) (j := 2)
    have hk : Keep (fun j => j = w.heap.size) W (((W.setCell ⟨w.heap.size, 0, none⟩ (.int .i64 0)).setCell ⟨w.heap.size, 1, none⟩ (.int .i64 0)).setCell ⟨w.heap.size, 2, none⟩ (.int .i64 0)) := ((keep_set _ _ 0 _).trans (keep_set _ _ 1 _) (fun _ _ h => h)).trans (keep_set _ _ 2 _) (fun _ _ h => h)
    have HP : Hid (Below w.heap.size w _) := Lib.hid (HB9.out.trans (hk.below (fun j (e : j = w.heap.size) => by omega) HB9.out.size))
    have e0 := (blk_cells hb 0).trans (show _ = some (.int .i64 0) from rfl)
    have e1 := (blk_cells hb 1).trans (show _ = some (.int .i64 0) from rfl)
    have e2 := (blk_cells hb 2).trans (show _ = some (.int .i64 0) from rfl)
    clear hb hk n0 n1 n2 f0 f1 f2
    generalize (((W.setCell ⟨w.heap.size, 0, none⟩ (.int .i64 0)).setCell ⟨w.heap.size, 1, none⟩ (.int .i64 0)).setCell ⟨w.heap.size, 2, none⟩ (.int .i64 0)) = w9 at e0 e1 e2 HP ⊢
    refine bodyPost_ret (by simp [results, Tryz.results41, go_sem, e0, e1, e2]; try rfl) rfl ?_
    exact ⟨rfl, HP.out⟩
def RbI (i0 : Nat) (w : World) (v : Value) (W : World) : Prop := ∃ i : Nat, i ≤ i0 ∧ v = .int .i64 (i : Int) ∧ Below w.heap.size w W
set_option maxRecDepth 100000 in
set_option maxHeartbeats 4000000 in
theorem rdy_seat (B k : Nat) (s : DrS) (w : World) (A : Option Addr) (c : Nat) (h : DR B k s w A c none 0) (hs : s.on) (b0 : List UInt8) (hb0 : s.sure[0]? = some b0) (sup : SuS) (hd0 : decS b0 = some sup) (hlen : sup.sectors = s.sure.length) (i0 : Nat) (hi0 : i0 < 8) (hgood : ∀ i, i < i0 → ∃ b x, s.sure[26 + i]? = some b ∧ decE b = some x) (b1 : List UInt8) (hb1 : s.sure[26 + i0]? = some b1) (hbad : decE b1 = none) :
    Calls Tryz.prog 41 #[.pointer (some ⟨k, 0, none⟩)] w (RbP w) := by
  have hl0 := hs.ok.each b0 (List.mem_of_getElem? hb0)
  obtain ⟨w0, hw0⟩ : ∃ w0, w0 = w.alloc (.cells #[.int .i64 0, .int .i64 0, .int .i64 0] 38) := ⟨_, rfl⟩
  have hbw0 : Below w.heap.size w w0 := by rw [hw0]; exact (Below.refl _ w).alloc (Nat.le_refl _) _
  have hn := blk_new w (.cells #[.int .i64 0, .int .i64 0, .int .i64 0] 38)
  rw [← hw0] at hn
  have HN := Lib.hid hn
  have HG := Lib.hid (dget_walk B k s w0 A c 0 (h.below hbw0) hs.ok hs.list hs.dead 0 _ hb0)
  have HW0 := Lib.hid hw0
  have HBW0 := Lib.hid hbw0
  have HH := Lib.hid h
  have HS := Lib.hid hs
  have HL0 := Lib.hid hl0
  have HD0 := Lib.hid hd0
  have HGOOD := Lib.hid hgood
  have HBAD := Lib.hid hbad
  have HB1X := Lib.hid hb1
  clear h hs hb0 hd0 hl0 hw0 hbw0 hn hgood hbad hb1
  go_enter Tryz.func41, Tryz.ntmps41
  go_wp2_with fail
  rw [← HW0.out]
  refine HG.out.mono ?_
  rintro r w1 ⟨g, rfl, h1, h2, hb1⟩
  have HSD := Lib.hid (sdecode_walk b0 (some ⟨g, 0, none⟩) 128 w1 (by rw [HL0.out]; exact h1) HL0.out)
  have HB1 := Lib.hid (HBW0.out.trans (hb1.mono HBW0.out.size))
  have HN1 := Lib.hid ((Keep.of_below (S := fun _ => False) hb1).blk HN.out id)
  clear h1 h2 hb1
  go_wp2_with fail
  refine HSD.out.mono ?_
  rintro r w2 hr2
  obtain ⟨hb2, he⟩ := hr2
  rw [HD0.out] at he
  subst he
  obtain ⟨s1, e1⟩ : ∃ q, q = sup.sectors := ⟨_, rfl⟩
  obtain ⟨s2, e2⟩ : ∃ q, q = sup.epoch := ⟨_, rfl⟩
  obtain ⟨s3, e3⟩ : ∃ q, q = sup.gens := ⟨_, rfl⟩
  have hv : sup.val = .agg #[.int .i64 (s1 : Int), .int .i64 (s2 : Int), .int .i64 (s3 : Int)] := by rw [e1, e2, e3]
  obtain ⟨w3, hw3⟩ : ∃ w3, w3 = w2.alloc (.cells #[.int .i64 (s1 : Int), .int .i64 (s2 : Int), .int .i64 (s3 : Int)] 38) := ⟨_, rfl⟩
  have hn3 := blk_new w2 (.cells #[.int .i64 (s1 : Int), .int .i64 (s2 : Int), .int .i64 (s3 : Int)] 38)
  have hb3 : Below w2.heap.size w2 w3 := by rw [hw3]; exact (Below.refl _ w2).alloc (Nat.le_refl _) _
  rw [← hw3] at hn3
  have q0 := (blk_cells hn3 0).trans (show _ = some (.int .i64 (s1 : Int)) from rfl)
  have h13 := bstep hb2 hb3
  have HB3 := Lib.hid (HB1.out.trans (h13.mono HB1.out.size))
  have HSE := Lib.hid (sectors_walk B k s w3.drew A c none 0 (HH.out.below HB3.out.drew))
  have HN3 := Lib.hid ((Keep.of_below (S := fun _ => False) h13).blk HN1.out id)
  have HW3 := Lib.hid hw3
  have hm : s1 = s.sure.length := by rw [e1, hlen]
  rw [← hm] at HSE
  clear hb2 hb3 hn3 h13 e1 e2 e3 hw3 hm
  rw [hv]
  clear hv
  go_upto_region 5 with fail
  rw [← HW3.out]
  go_region_law (first | (go_simp; go_at_call 47; refine HSE.out.mono ?_; rintro r w' ⟨rfl, rfl⟩))
  all_goals
    go_wp2_with fail
    go_loopw [36] (fun v wr => RbI i0 w3 v wr) (fun v _ => 8 - (intOf v).toNat)
    case atStart => exact ⟨0, Nat.zero_le _, rfl, (Below.refl _ _).drew⟩
    case round =>
      obtain ⟨i, hi, rfl, hbw⟩ := hrel
      have HBW := Lib.hid hbw
      obtain ⟨p, hp⟩ : ∃ p : Nat, p = 26 + i := ⟨_, rfl⟩
      have ge : (26 : Int) + (i : Int) = (p : Int) := by omega
      have ga : (i : Int) < 8 := by omega
      have gb : (0 : Int) ≤ (i : Int) := by omega
      have gc : IntKind.i64.wrap ((i : Int) + 1) = (i : Int) + 1 := IntWalk.i64_in _ (by omega)
      have gd : IntKind.i64.wrap (26 + (i : Int)) = (p : Int) := by rw [ge]; exact IntWalk.i64_in _ (by omega)
      have HBX := Lib.hid (HB3.out.trans (hbw.mono HB3.out.size))
      by_cases hlt : i < i0
      · obtain ⟨bs, x, hb, hd⟩ := HGOOD.out i hlt
        have hl := HS.out.ok.each bs (List.mem_of_getElem? hb)
        have HG2 := dget_walk B k s wr A c 0 (HH.out.below HBX.out) HS.out.ok HS.out.list HS.out.dead (26 + i) _ hb
        rw [← hp] at HG2
        have HG2 := Lib.hid HG2
        have HL := Lib.hid hl
        have HDX := Lib.hid hd
        clear hb hd hl hbw hp ge
        go_wp2_with fail
        refine HG2.out.mono ?_
        rintro r w5 ⟨g5, rfl, h1, _, hb5⟩
        have HED := Lib.hid (edecode_walk bs (some ⟨g5, 0, none⟩) 128 w5 (by rw [HL.out]; exact h1) HL.out)
        have HB5 := Lib.hid (bstep HBW.out hb5)
        clear h1 hb5
        go_wp2_with fail
        refine HED.out.mono ?_
        rintro r w6 ⟨hb6, he⟩
        rw [HDX.out] at he
        obtain ⟨A9, c9, rfl, _⟩ := he
        have HR9 : Hid (RbI i0 w3 (.int .i64 ((i : Int) + 1)) (w6.alloc (.cells #[.int .i64 (x.life : Int), .int .i64 (x.seq : Int), .slice A9 x.reply.length c9] 62))) := Lib.hid ⟨i + 1, hlt, by rw [Int.natCast_add]; rfl, (bstep HB5.out hb6).alloc (bstep HB5.out hb6).size _⟩
        clear hb6
        go_wp2_with fail
        go_roundw
        case rel => exact HR9.out
        case measure => simp only [intOf]; omega
      · obtain rfl : i = i0 := by omega
        have hl := HS.out.ok.each b1 (List.mem_of_getElem? HB1X.out)
        have HG2 := dget_walk B k s wr A c 0 (HH.out.below HBX.out) HS.out.ok HS.out.list HS.out.dead (26 + i) _ HB1X.out
        rw [← hp] at HG2
        have HG2 := Lib.hid HG2
        have HL := Lib.hid hl
        clear hl hbw hp ge
        go_wp2_with fail
        refine HG2.out.mono ?_
        rintro r w5 ⟨g5, rfl, h1, _, hb5⟩
        have HED := Lib.hid (edecode_walk b1 (some ⟨g5, 0, none⟩) 128 w5 (by rw [HL.out]; exact h1) HL.out)
        have HB5 := Lib.hid (bstep HBW.out hb5)
        clear h1 hb5
        go_wp2_with fail
        refine HED.out.mono ?_
        rintro r w6 ⟨hb6, he⟩
        rw [HBAD.out] at he
        subst he
        obtain ⟨W, hW⟩ : ∃ W, W = w6.alloc (.cells #[.int .i64 0, .int .i64 0, .slice none 0 0] 62) := ⟨_, rfl⟩
        have hbW0 : Below w3.heap.size w3 W := by rw [hW]; exact (bstep HB5.out hb6).alloc (bstep HB5.out hb6).size _
        have hnW := (Keep.of_below (S := fun _ => False) hbW0).blk HN3.out id
        have hbW := HB3.out.trans (hbW0.mono HB3.out.size)
        go_upto_region 14 with fail
        rw [← hW]
        have n0 := (blk_cells hnW 0).trans (show _ = some (.int .i64 0) from rfl)
        have n1 := (blk_cells hnW 1).trans (show _ = some (.int .i64 0) from rfl)
        have n2 := (blk_cells hnW 2).trans (show _ = some (.int .i64 0) from rfl)
        have f0 := blk_frees hnW 0
        have f1 := blk_frees hnW 1
        have f2 := blk_frees hnW 2
        have HN9 := Lib.hid hnW
        have HB9 := Lib.hid hbW
        clear hnW hbW hW hbW0 hb6
        go_wp2_with fail
        have hb := blk_set (blk_set (blk_set HN9.out (.int .i64 0) (j := 0)) (.int .i64 0) (j := 1)) (.int .i64 0) (j := 2)
        have hk : Keep (fun j => j = w.heap.size) W (((W.setCell ⟨w.heap.size, 0, none⟩ (.int .i64 0)).setCell ⟨w.heap.size, 1, none⟩ (.int .i64 0)).setCell ⟨w.heap.size, 2, none⟩ (.int .i64 0)) := ((keep_set _ _ 0 _).trans (keep_set _ _ 1 _) (fun _ _ h => h)).trans (keep_set _ _ 2 _) (fun _ _ h => h)
        have HP : Hid (Below w.heap.size w _) := Lib.hid (HB9.out.trans (hk.below (fun j (e : j = w.heap.size) => by omega) HB9.out.size))
        have e0 := (blk_cells hb 0).trans (show _ = some (.int .i64 0) from rfl)
        have e1 := (blk_cells hb 1).trans (show _ = some (.int .i64 0) from rfl)
        have e2 := (blk_cells hb 2).trans (show _ = some (.int .i64 0) from rfl)
        clear hb hk n0 n1 n2 f0 f1 f2
        generalize (((W.setCell ⟨w.heap.size, 0, none⟩ (.int .i64 0)).setCell ⟨w.heap.size, 1, none⟩ (.int .i64 0)).setCell ⟨w.heap.size, 2, none⟩ (.int .i64 0)) = w9 at e0 e1 e2 HP ⊢
        refine bodyPost_ret (by simp [results, Tryz.results41, go_sem, e0, e1, e2]; try rfl) rfl ?_
        exact ⟨rfl, HP.out⟩
end Go.Proofs.YtgedcnnbeangcaaGreat
/- Package drive: Image; package store: Mount that fails. -/
set_option linter.unusedSimpArgs false
set_option linter.unusedVariables false
namespace Go.Proofs.YtgedcnnbeangcaaGreat
open Go.RowKit

attribute [local go_sem ↓] Go.wp_at_zero Go.wp_at_succ
theorem mount_bad (B k : Nat) (s : DrS) (w : World) (A : Option Addr) (c : Nat) (h : DR B k s w A c none 0) (hs : s.on) (hh : s.sure[1]? = some (headE [])) (hrd : ∀ W, Below w.heap.size w W → Calls Tryz.prog 41 #[.pointer (some ⟨k, 0, none⟩)] W (RbP W)) :
    Calls Tryz.prog 14 #[.pointer (some ⟨k, 0, none⟩)] w fun r w' => r = .returned (.tuple #[.pointer none, .int .i64 2]) ∧ Below w.heap.size w w' := by
  have HRC := Lib.hid (recover_walk B k s w _ c h hs hh)
  have HRD := Lib.hid hrd
  clear h hs hh hrd
  go_enter Tryz.func14, Tryz.ntmps14
  go_wp2_with fail
  refine HRC.out.mono ?_
  rintro r w1 ⟨rfl, hb1⟩
  have HB1 := Lib.hid hb1
  have HR1 := Lib.hid (HRD.out w1 hb1)
  clear hb1
  go_wp2_with fail
  refine HR1.out.mono ?_
  rintro r w2 ⟨rfl, hb2⟩
  have HB2 := Lib.hid ((bstep HB1.out hb2).alloc (bstep HB1.out hb2).size (.cells #[.int .i64 0, .int .i64 0, .int .i64 0] 38))
  clear hb2
  go_wp2
  go_ret2
  exact ⟨rfl, HB2.out⟩
theorem mount_full (B k : Nat) (s : DrS) (w : World) (A : Option Addr) (c : Nat) (h : DR B k s w A c none 0) (hs : s.on) (hh : s.sure[1]? = some (headE [])) (sup : SuS) (hr : Ready s sup) (he : 1073741824 ≤ sup.epoch) :
    Calls Tryz.prog 14 #[.pointer (some ⟨k, 0, none⟩)] w fun r w' => r = .returned (.tuple #[.pointer none, .int .i64 9]) ∧ Below w.heap.size w w' := by
  have HRC := Lib.hid (recover_walk B k s w _ c h hs hh)
  obtain ⟨s1, e1⟩ : ∃ q : Int, q = (sup.sectors : Int) := ⟨_, rfl⟩
  obtain ⟨s2, e2⟩ : ∃ q : Int, q = (sup.epoch : Int) := ⟨_, rfl⟩
  obtain ⟨s3, e3⟩ : ∃ q : Int, q = (sup.gens : Int) := ⟨_, rfl⟩
  have hv : sup.val = .agg #[.int .i64 s1, .int .i64 s2, .int .i64 s3] := by rw [e1, e2, e3]
  have HRD := Lib.hid (fun W (hW : Below w.heap.size w W) => rdy_walk B k s W A c (h.below hW) hs sup hr)
  rw [hv] at HRD
  have g2 : (1073741824 : Int) ≤ s2 := by omega
  clear h hs hh hr he e1 e2 e3 hv
  go_enter Tryz.func14, Tryz.ntmps14
  go_wp2_with fail
  refine HRC.out.mono ?_
  rintro r w1 ⟨rfl, hb1⟩
  have HB1 := Lib.hid hb1
  have HR1 := Lib.hid (HRD.out w1 hb1)
  clear hb1
  go_wp2_with fail
  refine HR1.out.mono ?_
  rintro r w2 ⟨rfl, hb2⟩
  obtain ⟨W, hW⟩ : ∃ W, W = w2.alloc (.cells #[.int .i64 s1, .int .i64 s2, .int .i64 s3] 38) := ⟨_, rfl⟩
  have hn := blk_new w2 (.cells #[.int .i64 s1, .int .i64 s2, .int .i64 s3] 38)
  have HB2 : Hid (Below w.heap.size w W) := Lib.hid (by rw [hW]; exact (bstep HB1.out hb2).alloc (bstep HB1.out hb2).size _)
  rw [← hW] at hn
  have c1 := (blk_cells hn 1).trans (show _ = some (.int .i64 s2) from rfl)
  have HW := Lib.hid hW
  clear hb2 hn hW
  go_upto_region 5 with fail
  rw [← HW.out]
  go_wp2
  go_ret2
  exact ⟨rfl, HB2.out⟩
/-! ### Image -/
theorem eltBs : Elt Tryz.prog 56 45 1 24 := Elt.mk' (z := .slice none 0 0) (by kernel_rfl) (by kernel_rfl) (by kernel_rfl) (by simp [Value.oneCell', Value.cells]) (by decide)
/-- A list of byte rows, each its own. -/
def ImL (N : Nat) (L : List (List UInt8)) (v : Value) (W : World) : Prop := ∃ (es : List WE) (A : Option Addr) (c : Nat), es.map (·.d) = L ∧ v = .slice A es.length c ∧ NR N 45 1 W (.slice A es.length c) es.length (es.map WE.val) ∧ (∀ e ∈ es, NB N W e.A e.c e.d)
theorem ImL.below {N : Nat} {L : List (List UInt8)} {v : Value} {W W' : World} (h : ImL N L v W) (hb : Below W.heap.size W W') : ImL N L v W' := by
  obtain ⟨es, A, c, h1, h2, h3, h4⟩ := h
  exact ⟨es, A, c, h1, h2, h3.below hb, fun e he => (h4 e he).below hb⟩
theorem ImL.app {w W W1 W' : World} {es : List WE} {A : Option Addr} {c : Nat} {v' : Value} {L : List (List UInt8)} {u : List Value} {o : Obj} (h1 : es.map (·.d) = L) (h3 : NR w.heap.size 45 1 W (.slice A es.length c) es.length (es.map WE.val)) (h4 : ∀ e ∈ es, NB w.heap.size W e.A e.c e.d) (h5 : Below w.heap.size w W) (x : WE) (hx : NB w.heap.size W x.A x.c x.d) (hW1 : W1 = W.alloc o) (hu : u = [x.val])
    (g4 : W'.ownsRow 0 45 1 v' (es.length + 1) (es.map WE.val ++ u)) (g5 : Keep (fun k => (Value.slice A es.length c).ownBlock = some k) W1 W') (g6 : v'.ownBlock = (Value.slice A es.length c).ownBlock ∨ v'.ownBlock = some W1.heap.size) : ImL w.heap.size (L ++ [x.d]) v' W' ∧ Below w.heap.size w W' := by
  have hb1 : Below W.heap.size W W1 := by rw [hW1]; exact (Below.refl _ W).alloc (Nat.le_refl _) _
  have hG := (h3.below hb1).grown rfl (bstep h5 hb1) g4 g5 g6
  obtain ⟨A', c', rfl, _⟩ := Rd.of_own g4
  have hlen : (es ++ [x]).length = es.length + 1 := by simp
  have hd : ∀ A c d, NB w.heap.size W A c d → NB w.heap.size W' A c d := fun A c d he => by
    have he1 := he.below hb1
    refine he1.keep g5 (fun j ej hj => ?_)
    obtain ⟨_, cs, fr, hq⟩ := he1.fresh j ej
    exact own_ne_blk (h3.below hb1).own hq (by decide) hj rfl
  refine ⟨⟨es ++ [x], A', c', ?_, by rw [hlen], ?_, ?_⟩, hG.2⟩
  · rw [List.map_append, h1]
    rfl
  · rw [hlen, List.map_append]
    have := hG.1
    rw [hu] at this
    exact this
  · intro e he
    rcases List.mem_append.1 he with he | he
    · exact hd _ _ _ (h4 e he)
    · obtain rfl : e = x := by simpa using he
      exact hd _ _ _ hx
theorem sec_sl {B k : Nat} {s : DrS} {w : World} {g c : Nat} {L : Option Addr} {lc : Nat} (h : DR B k s w (some ⟨g, 0, none⟩) c L lc) (ho : s.ok) {i : Nat} {b : List UInt8} (hb : s.sure[i]? = some b) : Sl w 1 (.slice (some ⟨g, i * 128, none⟩) 128 128) 128 (bv b) := by
  have hl := ho.each b (List.mem_of_getElem? hb)
  refine ⟨_, _, rfl, .inr ⟨_, rfl, fun j u hu => ?_⟩, (fun e => by cases e), Nat.le_refl _, by rw [bv_length, hl]⟩
  have hj : j < 128 := by have := (List.getElem?_eq_some_iff.1 hu).1; rw [bv_length, hl] at this; exact this
  have h2 : (bv s.sure.flatten)[128 * i + j]? = some u := by
    rw [bv_get] at hu ⊢
    rw [flat128 s.sure ho.each i b hb j hj]
    exact hu
  have := h.sure.cells (g := g) rfl (128 * i + j) u h2
  rw [Addr.add_lit] at this ⊢
  rw [show i * 128 + j = 0 + (128 * i + j) by omega]
  exact this
def ImI (L : List (List UInt8)) (w : World) (v3 v7 : Value) (W : World) : Prop := ∃ i : Nat, i ≤ L.length ∧ v7 = .int .i64 (i : Int) ∧ ImL w.heap.size (L.take i) v3 W ∧ Below w.heap.size w W
set_option maxRecDepth 100000 in
set_option maxHeartbeats 4000000 in
theorem image_walk (B k : Nat) (s : DrS) (w : World) (g c : Nat) (L : Option Addr) (lc : Nat) (h : DR B k s w (some ⟨g, 0, none⟩) c L lc) (ho : s.ok) :
    Calls Tryz.prog 23 #[.pointer (some ⟨k, 0, none⟩)] w fun r w' => ∃ v, r = .returned v ∧ ImL w.heap.size s.sure v w' ∧ Below w.heap.size w w' := by
  have HSE := Lib.hid (sectors_walk B k s w _ c L lc h)
  have HH := Lib.hid h
  have HO := Lib.hid ho
  have hlen := ho.len
  obtain ⟨m, hm⟩ : ∃ m, m = s.sure.length := ⟨_, rfl⟩
  rw [← hm] at HSE hlen
  have HM := Lib.hid hm
  clear h ho hm
  go_enter Tryz.func23, Tryz.ntmps23
  go_wp2_with fail
  refine HSE.out.mono ?_
  rintro r' w' ⟨rfl, rfl⟩
  go_wp2_with fail
  go_loopw [3, 7] (fun v3 v7 wr => ImI s.sure w' v3 v7 wr) (fun _ v _ => m - (intOf v).toNat)
  case atStart => exact ⟨0, Nat.zero_le _, rfl, ⟨[], none, 0, rfl, rfl, NR.nil _ _ _ _, fun e he => absurd he (by simp)⟩, Below.refl _ _⟩
  case round =>
    obtain ⟨i, hi, rfl, him, hbw⟩ := hrel
    rw [← HM.out] at hi
    by_cases hlt : i < m
    · obtain ⟨b, hb⟩ : ∃ b, s.sure[i]? = some b := ⟨s.sure[i]'(by rw [← HM.out]; exact hlt), List.getElem?_eq_getElem _⟩
      have hd := HH.out.below hbw
      have hl := HO.out.each b (List.mem_of_getElem? hb)
      have c0 : wr.cell? ⟨k, 0, none⟩ = some (.slice (some ⟨g, 0, none⟩) m c) := by rw [HM.out]; exact (blk_cells hd.blk 0).trans rfl
      have HCL := clone_walk b (some ⟨g, i * 128, none⟩) 128 wr (by rw [hl]; exact sec_sl hd HO.out hb) (by omega)
      rw [hl] at HCL
      have HCL := Lib.hid HCL
      have ga : (i : Int) < (m : Int) := by omega
      have g0 : (0 : Int) ≤ (i : Int) := by omega
      have gc : IntKind.i64.wrap ((i : Int) + 1) = (i : Int) + 1 := IntWalk.i64_in _ (by omega)
      obtain ⟨es, A6, c6, hL, rfl, hnr, hall⟩ := him
      have hel : es.length = i := by
        have := congrArg List.length hL
        rw [List.length_map, List.length_take, ← HM.out] at this
        omega
      have HNR := Lib.hid hnr
      have HALL := Lib.hid hall
      have HL := Lib.hid hL
      have HBW := Lib.hid hbw
      have HLB := Lib.hid hl
      have HBB := Lib.hid hb
      have HEL := Lib.hid hel
      have hle : es.length ≤ 1024 := by omega
      clear hb hd hl hL hnr hall hbw hel
      go_wp2_with fail
      refine HCL.out.mono ?_
      rintro r' w5 ⟨A5, c5, rfl, hob, hb5⟩
      have hx5 : NB w'.heap.size w5 A5 c5 b := hob.nb.mono HBW.out.size
      have hnr5 := HNR.out.below hb5
      have hall5 : ∀ e ∈ es, NB w'.heap.size w5 e.A e.c e.d := fun e he => (HALL.out e he).below hb5
      have HN6 := Lib.hid (hnr5.below ((Below.refl _ w5).alloc (Nat.le_refl _) (.cells #[.slice A5 128 c5] 45)))
      have HAPP := Lib.hid (fun v' W' => ImL.app (v' := v') (W' := W') HL.out hnr5 hall5 (bstep HBW.out hb5) ⟨0, A5, c5, b⟩ hx5 (W1 := w5.alloc (.cells #[.slice A5 128 c5] 45)) (u := [.slice A5 128 c5]) rfl (by unfold WE.val; rw [HLB.out]))
      clear hob hb5 hx5 hnr5 hall5
      go_wp2_with (at_builtin; go_must (refine wpList_app rfl eltBs rfl rfl rfl (n := es.length) (m := 1) HN6.out.own (Sl.of_own (own_new w5 #[.slice A5 128 c5] 45 1 1 rfl (by decide))) (by simp [Value.oneCell']) (by omega) (by simp only [maxLen]; omega) ?_))
      intro v5 w7 g4 g5 g6 g7
      clear g7
      have hq := HAPP.out v5 w7 g4 g5 (g6.imp id (fun h => h.trans (by rw [World.size_alloc])))
      have HR : Hid (ImI s.sure w' v5 (.int .i64 ((i : Int) + 1)) w7) := Lib.hid ⟨i + 1, by rw [← HM.out]; exact hlt, by rw [Int.natCast_add]; rfl, by
        rw [List.take_add_one, HBB.out]
        exact hq.1, hq.2⟩
      clear hq g4 g5 g6
      go_wp2_with fail
      go_roundw
      case rel => exact HR.out
      case measure => simp only [intOf]; omega
    · obtain rfl : i = m := by omega
      have ga : ¬ (i : Int) < (i : Int) := by omega
      rw [HM.out, List.take_length] at him
      have HIM := Lib.hid him
      have HBW := Lib.hid hbw
      clear him hbw
      go_wp2
      go_ret
      exact ⟨_, rfl, HIM.out, HBW.out⟩
end Go.Proofs.YtgedcnnbeangcaaGreat
/- Package store: its methods, said of what is known. -/
set_option linter.unusedSimpArgs false
set_option linter.unusedVariables false
namespace Go.Proofs.YtgedcnnbeangcaaGreat
open Go.RowKit

theorem lfree {B : Nat} {p : StP} {s : StS} {M : List UInt8} {xs : Nat → NoS} {w : World} {T : Nat} (h : ST B p s w) (hk : Kn s M xs) (hT : MkT M T) (h1 : 43 ≤ T) (h2 : T ≤ s.sup.sectors) :
    Calls Tryz.prog 12 #[.pointer (some ⟨p.k, 0, none⟩)] w fun e w' => e = .returned (.int .i64 ((s.sup.sectors - T : Nat) : Int)) ∧ Below w.heap.size w w' :=
  (sfree_walk B p s w h hk.ok M hk.marks).mono fun e w' q => by
    obtain ⟨rfl, hb⟩ := q
    refine ⟨?_, hb⟩
    rw [hT.count]
    congr 2
    omega
theorem lsuper {B : Nat} {p : StP} {s : StS} {w : World} (h : ST B p s w) {a b c : Nat} (hs : s.sup = ⟨a, b, c⟩) :
    Calls Tryz.prog 15 #[.pointer (some ⟨p.k, 0, none⟩)] w fun e w' => e = .returned (.agg #[.int .i64 (a : Int), .int .i64 (b : Int), .int .i64 (c : Int)]) ∧ Below w.heap.size w w' := by
  have := super_walk B p s w h
  rw [hs] at this
  exact this
/-- Behind Take. -/
structure Took (B : Nat) (p : StP) (s : StS) (M : List UInt8) (xs : Nat → NoS) (T : Nat) (w : World) (s' : StS) (w' : World) : Prop where
  st : ST B p s' w'
  kn : Kn s' (setP M T true) xs
  sup : s'.sup = s.sup
  d : s'.d = s.d
  len : s'.will.length ≤ s.will.length + (if (getW 34 s.will).isSome = true then 1 else 2)
  mark : (getW 34 s'.will).isSome = true
  view : ∀ i, 43 ≤ i → i ≠ T → viewS s' i = viewS s i
  new : viewS s' T = some zero128
  keep : Keep (fun j => j = p.b) w w'
theorem ltake {B : Nat} {p : StP} {s : StS} {M : List UInt8} {xs : Nat → NoS} {w : World} {T : Nat} (h : ST B p s w) (hk : Kn s M xs) (hM : M.length = 128) (hf : firstP M 43 (s.sup.sectors - 43) = some T) (h4 : s.will.length ≤ 22) :
    Calls Tryz.prog 10 #[.pointer (some ⟨p.k, 0, none⟩)] w fun e w' => ∃ s', e = .returned (.tuple #[.int .i64 (T : Int), .int .i64 0]) ∧ Took B p s M xs T w s' w' :=
  (stake_walk B p s w h hk.ok M hk.marks T hf h4).mono fun e w' q => by
    obtain ⟨A, c, A', c', rfl, hst, hk'⟩ := q
    have hr := firstP_range hf
    have hsec := hk.ok.secs
    have hlen := hk.ok.on.ok.len
    have h64 := hk.ok.len
    have k1 : Kn (putSt s ⟨34, A, c, setP M T true⟩) (setP M T true) xs := hk.mark (by rw [setP_len]; exact hM) (.inr (by omega))
    have hl1 := put_len_le hk.ok ⟨34, A, c, setP M T true⟩
    have k2 : Kn (putSt (putSt s ⟨34, A, c, setP M T true⟩) ⟨T, A', c', List.replicate 128 0⟩) (setP M T true) xs := k1.put (by show T < s.d.sure.length; omega) hr.1 (List.length_replicate ..) (.inr (by omega))
    refine ⟨_, rfl, hst, k2, rfl, rfl, ?_, ?_, fun i h43 hi => ?_, ?_, hk'⟩
    · refine Nat.le_trans (put_len_le k1.ok _) ?_
      show (insW ⟨34, A, c, setP M T true⟩ s.will).length + 1 ≤ _
      rw [insW_len _ hk.ok.rise]
      show (s.will.length + if (getW 34 s.will).isSome = true then 0 else 1) + 1 ≤ _
      split <;> omega
    · show (getW 34 (insW _ (insW _ s.will))).isSome = true
      rw [getW_ins _ (insW_rising hk.ok.rise _), if_neg (by show ¬ T = 34; omega), getW_ins _ hk.ok.rise, if_pos rfl]
      rfl
    · rw [view_put k1.ok, if_neg (by show ¬ T = i; omega), view_put hk.ok, if_neg (by show ¬ 34 = i; omega)]
    · rw [view_put k1.ok, if_pos rfl]
      rfl
/-- Behind New. -/
structure Newed (B : Nat) (p : StP) (s : StS) (M : List UInt8) (xs : Nat → NoS) (m kind : Nat) (w : World) (s' : StS) (w' : World) : Prop where
  st : ST B p s' w'
  kn : Kn s' M (updX xs m (nwNode kind s.sup.gens (xs m)))
  sup : s'.sup = nwSup s.sup
  d : s'.d = s.d
  len : s'.will.length ≤ s.will.length + 2
  view : ∀ i, 43 ≤ i → viewS s' i = viewS s i
  keep : Keep (fun j => j = p.b ∨ j = p.k) w w'
theorem lnew {B : Nat} {p : StP} {s : StS} {M : List UInt8} {xs : Nat → NoS} {w : World} {m : Nat} (h : ST B p s w) (hk : Kn s M xs) (hm : 1 ≤ m) (hm2 : m < 32) (hne : ∀ n, 1 ≤ n → n < m → (xs n).kind ≠ 0) (h0 : (xs m).kind = 0) (hg : s.sup.gens < 1073741824) (h4 : s.will.length ≤ 22) (kind : Nat) (hkd : kind = 1 ∨ kind = 2) :
    Calls Tryz.prog 9 #[.pointer (some ⟨p.k, 0, none⟩), .int .i64 (kind : Int)] w fun e w' => ∃ s', e = .returned (.tuple #[.int .i64 (m : Int), .int .i64 0]) ∧ Newed B p s M xs m kind w s' w' := by
  obtain ⟨d, hd, _⟩ := hk.nodes m hm2
  refine (snew_walk B p s w h hk.ok m hm hm2 xs (fun n _ h2 => hk.nodes n (by omega)) hne h0 hk.sup hg h4 kind hkd d hd).mono fun e w' q => ?_
  obtain ⟨A, c, A', c', rfl, hst, hk'⟩ := q
  have k1 := hk.super (sup := nwSup s.sup) (A := A) (c := c) rfl ⟨hk.sup.1, hk.sup.2.1, hk.sup.2.2.1, by show s.sup.gens + 1 ≤ _; omega⟩ (.inr (by omega))
  have hl1 := put_len_le hk.ok ⟨0, A, c, superE (nwSup s.sup)⟩
  refine ⟨_, rfl, hst, hk.new hm2 hkd hg hd h4 (xs m) A c A' c', rfl, rfl, ?_, fun i hi => new_view hk.ok m kind (xs m) d A c A' c' k1.ok hi hm2, hk'⟩
  refine Nat.le_trans (put_len_le k1.ok _) ?_
  show (putSt s ⟨0, A, c, superE (nwSup s.sup)⟩).will.length + 1 ≤ _
  omega
/-- Behind Commit. -/
theorem lcommit {B : Nat} {p : StP} {s : StS} {M : List UInt8} {xs : Nat → NoS} {w : World} (h : ST B p s w) (hk : Kn s M xs) :
    Calls Tryz.prog 11 #[.pointer (some ⟨p.k, 0, none⟩)] w fun e w' => ∃ s', e = .returned (.int .i64 0) ∧ ST B p s' w' ∧ Kn s' M xs ∧ s'.sup = s.sup ∧ s'.will = [] ∧ (∀ i, 43 ≤ i → viewS s' i = viewS s i) ∧ Keep (fun j => j = p.kd ∨ j = p.g ∨ j = p.b ∨ w.heap.size ≤ j) w w' :=
  (scommit_walk B p s w h hk.ok).mono fun e w' q => by
    obtain ⟨rfl, hst, hk'⟩ := q
    exact ⟨_, rfl, hst, hk.com, rfl, rfl, fun i hi => view_com hk.ok (.inr (by omega)), hk'⟩
/-- Behind Mount of a drive whose store has nothing that will be. -/
theorem lmount {B kd g c : Nat} {s : StS} {M : List UInt8} {xs : Nat → NoS} {w : World} (h : DR B kd s.d w (some ⟨g, 0, none⟩) c none 0) (hk : Kn s M xs) (h0 : s.will = []) (he : s.sup.epoch < 1073741824) :
    Calls Tryz.prog 14 #[.pointer (some ⟨kd, 0, none⟩)] w fun e w' => ∃ p s', p.kd = kd ∧ p.g = g ∧ p.c = c ∧ e = .returned (.tuple #[.pointer (some ⟨p.k, 0, none⟩), .int .i64 0]) ∧ ST B p s' w' ∧ Kn s' M xs ∧ s'.sup = nextS s.sup ∧ s'.will = [] ∧ (∀ i, 43 ≤ i → viewS s' i = viewS s i) ∧ w.heap.size ≤ p.k ∧ w.heap.size ≤ p.b ∧ Keep (drvK kd g w) w w' :=
  (mount_walk B kd g c s.d w h hk.ok.on s.sup (hk.ready h0) hk.ok.head he).mono fun e w' q => by
    obtain ⟨p, A, h1, h2, h3, rfl, hst, h4, h5, h6⟩ := q
    exact ⟨p, _, h1, h2, h3, rfl, hst, hk.mount h0 he A, rfl, rfl, fun i hi => mount_view hk h0 A (by omega), h4, h5, h6⟩
theorem lnode {B : Nat} {p : StP} {s : StS} {M : List UInt8} {xs : Nat → NoS} {w : World} (h : ST B p s w) (hk : Kn s M xs) {n : Nat} (hn : n < 32) :
    Calls Tryz.prog 16 #[.pointer (some ⟨p.k, 0, none⟩), .int .i64 (n : Int)] w fun e w' => e = .returned (.tuple #[(xs n).val, .int .i64 0]) ∧ Below w.heap.size w w' :=
  snode_walk B p s w h hk.ok n hn (xs n) (hk.nodes n hn)
end Go.Proofs.YtgedcnnbeangcaaGreat
/- The law's awake. -/
set_option linter.unusedSimpArgs false
set_option linter.unusedVariables false
namespace Go.Proofs.YtgedcnnbeangcaaGreat
open Go.RowKit

attribute [local go_sem ↓] Go.wp_at_zero Go.wp_at_succ
/-- Behind begin. -/
structure Begun (n : Nat) (p : StP) (s : StS) (M : List UInt8) (w w' : World) : Prop where
  st : ST w.heap.size p s w'
  kn : Kn s M freshX
  mm : MkM M
  sup : s.sup = ⟨n, 1, 0⟩
  will : s.will = []
  view : ∀ i, 43 ≤ i → i < n → viewS s i = some zero128
  below : Below w.heap.size w w'
theorem lbegin (n : Nat) (h1 : 64 ≤ n) (h2 : n ≤ 1024) (w : World) :
    Calls Tryz.prog 7 #[.int .i64 (n : Int)] w fun r w' => ∃ p s M, r = .returned (.tuple #[.pointer (some ⟨p.kd, 0, none⟩), .pointer (some ⟨p.k, 0, none⟩)]) ∧ Begun n p s M w w' :=
  (lbegin_walk n h1 h2 w).mono fun e w' q => by
    obtain ⟨M, p, A, hM, rfl, hst, hb⟩ := q
    exact ⟨p, _, M, rfl, hst, Kn.fresh hM n h1 h2 A, hM, rfl, rfl, fun i hi hn => fresh_view hM n h1 h2 A hi hn, hb⟩
theorem sup_epoch (a b c : Int) (w : World) : (Instr.field 38 (.agg #[.int .i64 a, .int .i64 b, .int .i64 c]) 1).run Tryz.prog w = .ok (.int .i64 b) w := by kernel_rfl
theorem sup_gens (a b c : Int) (w : World) : (Instr.field 38 (.agg #[.int .i64 a, .int .i64 b, .int .i64 c]) 2).run Tryz.prog w = .ok (.int .i64 c) w := by kernel_rfl
def drvB (p : StP) (w : World) (j : Nat) : Prop := j = p.kd ∨ j = p.g ∨ j = p.b ∨ j = p.k ∨ w.heap.size ≤ j
theorem ST.newAll {B : Nat} {p : StP} {s : StS} {w : World} (h : ST B p s w) : B ≤ p.k ∧ B ≤ p.b ∧ B ≤ p.kd ∧ B ≤ p.g := ⟨h.newk, h.newb, h.drv.newk, h.drv.newA p.g rfl⟩
set_option maxRecDepth 100000 in
set_option maxHeartbeats 4000000 in
theorem awake_walk (w : World) :
    Calls Tryz.prog 8 #[] w fun r w' => r = .returned (.bool true) ∧ Below w.heap.size w w' := by
  have HBE : Hid (Calls Tryz.prog 7 #[.int .i64 64] w fun r w' => ∃ p s M, r = .returned (.tuple #[.pointer (some ⟨p.kd, 0, none⟩), .pointer (some ⟨p.k, 0, none⟩)]) ∧ Begun 64 p s M w w') := Lib.hid (lbegin 64 (by decide) (by decide) w)
  have hfe := sup_epoch 64 1 0
  have hfg := sup_gens 64 2 1
  go_enter Tryz.func8, Tryz.ntmps8
  go_wp2_with fail
  refine HBE.out.mono ?_
  rintro r' w1 ⟨p, s, M, rfl, hbg⟩
  have HBG := Lib.hid hbg
  have HSU : Hid (Calls Tryz.prog 15 #[.pointer (some ⟨p.k, 0, none⟩)] w1 fun e w' => e = .returned (.agg #[.int .i64 64, .int .i64 1, .int .i64 0]) ∧ Below w1.heap.size w1 w') := Lib.hid (lsuper hbg.st hbg.sup)
  clear hbg
  go_wp2_with fail
  refine HSU.out.mono ?_
  rintro r' w2 ⟨rfl, hb2⟩
  have HST2 := Lib.hid (HBG.out.st.below hb2)
  have HB2 := Lib.hid (HBG.out.below.trans (hb2.mono HBG.out.below.size))
  have HFR : Hid (Calls Tryz.prog 12 #[.pointer (some ⟨p.k, 0, none⟩)] w2 fun e w' => e = .returned (.int .i64 21) ∧ Below w2.heap.size w2 w') := Lib.hid (by
    have := lfree HST2.out HBG.out.kn HBG.out.mm.t (by omega) (by rw [HBG.out.sup]; show 43 ≤ 64; omega)
    rw [HBG.out.sup] at this
    exact this)
  clear hb2
  go_wp2_with fail
  refine HFR.out.mono ?_
  rintro r' w3 ⟨rfl, hb3⟩
  have HST3 := Lib.hid (HST2.out.below hb3)
  have HB3 := Lib.hid (bstep HB2.out hb3)
  have HNW : Hid (Calls Tryz.prog 9 #[.pointer (some ⟨p.k, 0, none⟩), .int .i64 1] w3 fun e w' => ∃ s', e = .returned (.tuple #[.int .i64 2, .int .i64 0]) ∧ Newed w.heap.size p s M freshX 2 1 w3 s' w') := Lib.hid (lnew (m := 2) HST3.out HBG.out.kn (by omega) (by omega) (fun n h1 h2 => by
    obtain rfl : n = 1 := by omega
    decide) (by decide) (by rw [HBG.out.sup]; show 0 < 1073741824; omega) (by rw [HBG.out.will]; show 0 ≤ 22; omega) 1 (.inl rfl))
  clear hb3
  go_wp2_with fail
  refine HNW.out.mono ?_
  rintro r' w4 ⟨s4, rfl, hn4⟩
  have HN4 := Lib.hid hn4
  have HB4 := Lib.hid (HB3.out.trans (hn4.keep.below (fun j hj => by have := HST3.out.newAll; rcases hj with hj | hj <;> omega) HB3.out.size))
  have hsup4 : s4.sup = ⟨64, 1, 1⟩ := by rw [hn4.sup, HBG.out.sup]; rfl
  have hw4 : s4.will.length ≤ 2 := by have := hn4.len; rw [HBG.out.will] at this; exact this
  have HTK : Hid (Calls Tryz.prog 10 #[.pointer (some ⟨p.k, 0, none⟩)] w4 fun e w' => ∃ s', e = .returned (.tuple #[.int .i64 43, .int .i64 0]) ∧ Took w.heap.size p s4 M (updX freshX 2 (nwNode 1 s.sup.gens (freshX 2))) 43 w4 s' w') := Lib.hid (ltake hn4.st hn4.kn HBG.out.mm.len (HBG.out.mm.t.first 43 _ (by omega) (by rw [hsup4]; show 43 < 43 + (64 - 43); omega)) (by omega))
  have HSUP4 := Lib.hid hsup4
  clear hn4 hsup4 hw4
  go_wp2_with fail
  refine HTK.out.mono ?_
  rintro r' w5 ⟨s5, rfl, ht5⟩
  have HT5 := Lib.hid ht5
  have HB5 := Lib.hid (HB4.out.trans (ht5.keep.below (fun j hj => by have := HN4.out.st.newAll; have : j = p.b := hj; omega) HB4.out.size))
  have HCM := Lib.hid (lcommit ht5.st ht5.kn)
  clear ht5
  go_wp2_with fail
  refine HCM.out.mono ?_
  rintro r' w6 ⟨s6, rfl, hst6, hkn6, hsup6, hwill6, hview6, hk6⟩
  have HST6 := Lib.hid hst6
  have HKN6 := Lib.hid hkn6
  have HSUP6 : Hid (s6.sup = ⟨64, 1, 1⟩) := Lib.hid (by rw [hsup6, HT5.out.sup, HSUP4.out])
  have HW6 := Lib.hid hwill6
  have HB6 := Lib.hid (HB5.out.trans (hk6.below (fun j hj => by have := HT5.out.st.newAll; have := HB5.out.size; rcases hj with hj | hj | hj | hj <;> omega) HB5.out.size))
  have HRS := Lib.hid (restart_walk _ _ _ w6 _ _ hst6.drv hkn6.ok.on (.slice none 0 0))
  clear hst6 hkn6 hsup6 hwill6 hview6 hk6
  go_wp2_with fail
  refine HRS.out.mono ?_
  rintro r' w7 ⟨rfl, hd7, hk7⟩
  have HB7 := Lib.hid (HB6.out.trans (hk7.below (fun j hj => by have := HST6.out.newAll; have : j = p.kd := hj; omega) HB6.out.size))
  have HMT := Lib.hid (lmount hd7 HKN6.out HW6.out (by rw [HSUP6.out]; show 1 < 1073741824; omega))
  clear hd7 hk7
  go_wp2_with fail
  refine HMT.out.mono ?_
  rintro r' w8 ⟨p8, s8, hpd, hpg, hpc, rfl, hst8, hkn8, hsup8, hw8, hv8, hpk, hpb, hk8⟩
  have HST8 := Lib.hid hst8
  have HKN8 := Lib.hid hkn8
  have HSUP8 : Hid (s8.sup = ⟨64, 2, 1⟩) := Lib.hid (by rw [hsup8, HSUP6.out]; rfl)
  have HB8 := Lib.hid (HB7.out.trans (hk8.below (fun j hj => by have := HST6.out.newAll; have := HB7.out.size; rcases hj with hj | hj | hj <;> omega) HB7.out.size))
  have HND : Hid (Calls Tryz.prog 16 #[.pointer (some ⟨p8.k, 0, none⟩), .int .i64 2] w8 fun e w' => e = .returned (.tuple #[.agg #[.int .i64 1, .int .i64 1, .int .i64 1, .int .i64 0, .int .i64 1, .int .i64 0, .int .i64 0, .int .i64 0, .int .i64 0, .int .i64 0, .int .i64 0], .int .i64 0]) ∧ Below w8.heap.size w8 w') := Lib.hid (by
    have := lnode hst8 hkn8 (n := 2) (by omega)
    rw [HBG.out.sup] at this
    exact this)
  clear hst8 hkn8 hsup8 hw8 hv8 hpk hpb hk8 hpd hpg hpc
  go_wp2_with fail
  refine HND.out.mono ?_
  rintro r' w9 ⟨rfl, hb9⟩
  have HST9 := Lib.hid (HST8.out.below hb9)
  have HB9 := Lib.hid (bstep HB8.out hb9)
  clear hb9
  go_upto_region 13 with fail
  obtain ⟨W, hW⟩ : ∃ W, W = w9.alloc (.cells #[.int .i64 1, .int .i64 1, .int .i64 1, .int .i64 0, .int .i64 1, .int .i64 0, .int .i64 0, .int .i64 0, .int .i64 0, .int .i64 0, .int .i64 0] 42) := ⟨_, rfl⟩
  have hnW := blk_new w9 (.cells #[.int .i64 1, .int .i64 1, .int .i64 1, .int .i64 0, .int .i64 1, .int .i64 0, .int .i64 0, .int .i64 0, .int .i64 0, .int .i64 0, .int .i64 0] 42)
  have hbW : Below w9.heap.size w9 W := by rw [hW]; exact (Below.refl _ w9).alloc (Nat.le_refl _) _
  rw [← hW] at hnW ⊢
  have n0 := (blk_cells hnW 0).trans (show _ = some (.int .i64 1) from rfl)
  have n2 := (blk_cells hnW 2).trans (show _ = some (.int .i64 1) from rfl)
  have hSTW := HST9.out.below hbW
  have HSTW := Lib.hid hSTW
  have HBW := Lib.hid (bstep HB9.out hbW)
  have HFW : Hid (Calls Tryz.prog 12 #[.pointer (some ⟨p8.k, 0, none⟩)] W fun e w' => e = .returned (.int .i64 20) ∧ Below W.heap.size W w') := Lib.hid (by
    have := lfree hSTW HKN8.out (HBG.out.mm.t.set (by omega)) (by omega) (by rw [HSUP8.out]; show 44 ≤ 64; omega)
    rw [HSUP8.out] at this
    exact this)
  clear hW hnW hbW hSTW
  go_wp2_with fail
  refine HFW.out.mono ?_
  rintro r' w10 ⟨rfl, hb10⟩
  have HSX : Hid (Calls Tryz.prog 15 #[.pointer (some ⟨p8.k, 0, none⟩)] w10 fun e w' => e = .returned (.agg #[.int .i64 64, .int .i64 2, .int .i64 1]) ∧ Below w10.heap.size w10 w') := Lib.hid (lsuper (HSTW.out.below hb10) HSUP8.out)
  have HB10 := Lib.hid (bstep HBW.out hb10)
  clear hb10
  go_wp2_with fail
  refine HSX.out.mono ?_
  rintro r' w11 ⟨rfl, hb11⟩
  have HB11 := Lib.hid (bstep HB10.out hb11)
  clear hb11
  go_wp2
  go_ret
  exact ⟨rfl, HB11.out⟩
end Go.Proofs.YtgedcnnbeangcaaGreat
/- copy from bytes into a row of bytes, as an equation of the run. -/
set_option linter.unusedSimpArgs false
set_option linter.unusedVariables false
namespace Go.Proofs.YtgedcnnbeangcaaGreat
open Go.RowKit

theorem run_copy_bytes {w : World} {g off dLen dCap sLen sCap m : Nat} {A : Option Addr} {cur d : List UInt8} (hg : w.heap[g]? = some (.cells (bv cur).toArray 5 (0, 0))) (hs : Sl w 1 (.slice A sLen sCap) sLen (bv d)) (hm : m = Nat.min sLen dLen) (hfit : off + m ≤ cur.length) :
    ∃ W, (∀ ty, (Builtin.copy_ #[45, 45] ty #[.slice (some ⟨g, off, none⟩) dLen dCap, .slice A sLen sCap]).run Tryz.prog w = .ok (goInt m) W) ∧ W.heap[g]? = some (.cells (bv (splice cur off (d.take m))).toArray 5 (0, 0)) ∧ Keep (fun j => j = g) w W := by
  obtain ⟨A', c', e, hr, hA, hc, hl⟩ := hs
  injection e with e1 e2 e3
  subst e1 e3
  have hd : d.length = sLen := by rw [bv_length, Nat.mul_one] at hl; exact hl
  have hml : (d.take m).length = m := by rw [List.length_take, hd, hm]; exact Nat.min_eq_left (Nat.min_le_left _ _)
  by_cases h0 : m = 0
  · subst h0
    refine ⟨w, fun ty => run_copy_none (P := Tryz.prog) w _ _ ty 5 _ _ dLen dCap sLen sCap Tryz.underlying45 (by kernel_rfl) hm.symm, ?_, Keep.refl _ _⟩
    rw [List.take_zero]
    have : splice cur off [] = cur := by unfold splice; simp
    rw [this]
    exact hg
  · rcases hr with hn | ⟨ad, rfl, hcs⟩
    · rw [bv_eq_nil] at hn
      rw [hn] at hml
      simp at hml
      omega
    · have hsrc : ∀ j v, (bv (d.take m))[j]? = some v → w.cell? (ad.add j) = some v := fun j v hv => hcs j v (by
        unfold bv at hv ⊢
        rw [List.map_take, List.getElem?_take] at hv
        split at hv
        · exact hv
        · cases hv)
      have hrun := fun ty => run_copy_row (P := Tryz.prog) w 45 45 ty 5 g off dLen dCap ad sLen sCap (bv cur).toArray 5 (bv (d.take m)) Tryz.underlying45 (by kernel_rfl) hg (by rw [bv_length, hml, hm]) hsrc (by rw [bv_length, hml]; simp only [List.size_toArray, bv_length]; exact hfit) (bv_one _)
      refine ⟨_, fun ty => by rw [hrun ty, bv_length, hml], ?_, ?_⟩
      · rw [setRow_heap w g _ _ _ _ hg]
        congr 2
        unfold splice bv
        rw [hml]
        simp only [List.map_append, List.map_take, List.map_drop, List.length_map, List.append_assoc]
      · exact ⟨rfl, rfl, rfl, by simp [World.setRow], fun k _ hk => setRow_other w g k _ hk⟩
end Go.Proofs.YtgedcnnbeangcaaGreat
/- The walk of StoreMounts. -/
set_option linter.unusedSimpArgs false
set_option linter.unusedVariables false
namespace Go.Proofs.YtgedcnnbeangcaaGreat
open Go.RowKit

attribute [local go_sem ↓] Go.wp_at_zero Go.wp_at_succ
theorem row_nb {B g : Nat} {W : World} {X : List UInt8} (h : W.heap[g]? = some (.cells (bv X).toArray 5 (0, 0))) (hB : B ≤ g) : NB B W (some ⟨g, 0, none⟩) X.length X := by
  refine ⟨⟨_, _, rfl, .inr ⟨_, rfl, fun j u hu => ?_⟩, (fun e => by cases e), Nat.le_refl _, by rw [bv_length, Nat.mul_one]⟩, fun j e => ?_⟩
  · rw [Addr.add_lit, Nat.zero_add, blk_cells h, List.getElem?_toArray]
    exact hu
  · obtain rfl : g = j := Option.some.inj e
    exact ⟨hB, _, _, h⟩
theorem splice_all (d e : List UInt8) (h : e.length = d.length) : splice d 0 e = e := by
  unfold splice
  rw [List.take_zero, List.nil_append, List.drop_of_length_le (by omega), List.append_nil]
theorem wr1_sure (s : DrS) (n : Nat) (X : List UInt8) : (wrS s [(n, X)]).sure = s.sure.set n X := rfl
theorem first_ex {P : Nat → Prop} (h : ∃ i, P i) : ∃ i, P i ∧ ∀ j, j < i → ¬ P j := by
  obtain ⟨i, hi⟩ := h
  induction i using Nat.strongRecOn with
  | ind i ih =>
    by_cases hj : ∃ j, j < i ∧ P j
    · obtain ⟨j, hji, hp⟩ := hj
      exact ih j hji hp
    · exact ⟨i, hi, fun j hji hp => hj ⟨j, hji, hp⟩⟩
theorem rdy_no (B k : Nat) (s : DrS) (w : World) (A : Option Addr) (c : Nat) (h : DR B k s w A c none 0) (hs : s.on) (h64 : 64 ≤ s.sure.length) (hr : ¬ ∃ sup, Ready s sup) :
    Calls Tryz.prog 41 #[.pointer (some ⟨k, 0, none⟩)] w (RbP w) := by
  obtain ⟨b0, hb0⟩ : ∃ b0, s.sure[0]? = some b0 := ⟨s.sure[0]'(by omega), List.getElem?_eq_getElem _⟩
  cases hd : decS b0 with
  | none => exact rdy_none B k s w A c h hs b0 hb0 hd
  | some sup =>
    by_cases hl : sup.sectors = s.sure.length
    · have hex : ∃ i, i < 8 ∧ ∃ b, s.sure[26 + i]? = some b ∧ decE b = none := by
        refine Classical.byContradiction fun hno => hr ⟨sup, ⟨b0, hb0, hd⟩, hl, fun i hi => ?_⟩
        obtain ⟨b, hb⟩ : ∃ b, s.sure[26 + i]? = some b := ⟨s.sure[26 + i]'(by omega), List.getElem?_eq_getElem _⟩
        cases hx : decE b with
        | some x => exact ⟨b, x, hb, hx⟩
        | none => exact absurd ⟨i, hi, b, hb, hx⟩ hno
      obtain ⟨i, ⟨hi, b, hb, hx⟩, hmin⟩ := first_ex hex
      refine rdy_seat B k s w A c h hs b0 hb0 sup hd hl i hi (fun j hj => ?_) b hb hx
      obtain ⟨b', hb'⟩ : ∃ b, s.sure[26 + j]? = some b := ⟨s.sure[26 + j]'(by omega), List.getElem?_eq_getElem _⟩
      cases hx' : decE b' with
      | some x => exact ⟨b', x, hb', hx'⟩
      | none => exact absurd ⟨by omega, b', hb', hx'⟩ (hmin j hj)
    · exact rdy_many B k s w A c h hs b0 hb0 sup hd hl
set_option maxRecDepth 100000 in
set_option maxHeartbeats 8000000 in
theorem mounts_walk (a cut : Nat) (ha : a ≤ 255) (hcut : cut ≤ 65535) (b : List UInt8) (A : Option Addr) (c : Nat) (w : World) (hbs : Sl w 1 (.slice A b.length c) b.length (bv b)) :
    Calls Tryz.prog 4 #[.int .u8 (a : Int), .slice A b.length c, .int .u16 (cut : Int)] w fun e w' => e = .returned (.bool true) ∧ Below w.heap.size w w' := by
  obtain ⟨n, hn⟩ : ∃ n : Nat, n = a % 43 := ⟨_, rfl⟩
  have en : (a : Int) % 43 = (n : Int) := by omega
  have en2 : IntKind.i64.wrap (n : Int) = (n : Int) := IntWalk.i64_in _ (by omega)
  have hn43 : n < 43 := by omega
  clear hn ha
  have HNEW : Hid (Calls Tryz.prog 18 #[.int .i64 100] w fun e w' => ∃ k A, e = .returned (.tuple #[.pointer (some ⟨k, 0, none⟩), .int .i64 0]) ∧ DR w.heap.size k (newS 100) w' A 100 none 0 ∧ Below w.heap.size w w') := Lib.hid (dnew_walk 100 (by decide) (by decide) w)
  have HBS := Lib.hid hbs
  obtain ⟨bl, hbl⟩ : ∃ m, m = b.length := ⟨_, rfl⟩
  rw [← hbl]
  have HBL := Lib.hid hbl
  clear hbs hbl
  go_enter Tryz.func4, Tryz.ntmps4
  go_wp2_with fail
  refine HNEW.out.mono ?_
  rintro r' w1 ⟨k, DA, rfl, hd1, hb1⟩
  have hl : (newS 100).sure.length = 100 := List.length_replicate ..
  obtain ⟨g, hg⟩ := dr_some hd1 (by rw [hl]; decide)
  subst hg
  have HD1 := Lib.hid hd1
  have HB1 := Lib.hid hb1
  have HG : Hid (w.heap.size ≤ k ∧ w.heap.size ≤ g) := Lib.hid ⟨hd1.newk, hd1.newA g rfl⟩
  clear hd1 hb1
  go_wp2_with fail
  refine (awake_walk w1).mono ?_
  rintro r' w2 ⟨rfl, hb2⟩
  have hm := make_walk _ k _ w2 g 100 (HD1.out.below hb2) (newS_on 100 (by decide)) (by rw [hl]; decide)
  unfold MkP at hm
  rw [hl] at hm
  have HM := Lib.hid hm
  have HB2 := Lib.hid (bstep HB1.out hb2)
  clear hm hb2 hl
  go_wp2_with fail
  refine HM.out.mono ?_
  rintro r' w3 ⟨M, hM, rfl, hd3, hk3⟩
  have hB3 : Below w.heap.size w w3 := HB2.out.trans (hk3.below (fun j hj => by
    have := HG.out
    have := HB2.out.size
    rcases hj with hj | hj | hj <;> omega) HB2.out.size)
  have HD3 : Hid (DR w.heap.size k (freshD M 100) w3 (some ⟨g, 0, none⟩) 100 none 0) := Lib.hid hd3
  have HB3 := Lib.hid hB3
  have HMM := Lib.hid hM
  obtain ⟨Z, hZ⟩ : ∃ Z : Array Value, Z = (bv zero128).toArray := ⟨_, rfl⟩
  have hmk : ∀ W : World, (Instr.makeSlice 45 (.int .i64 128) (.int .i64 128)).run Tryz.prog W = .ok (.slice (some ⟨W.heap.size, 0, none⟩) 128 128) (W.alloc (.cells Z 5)) := fun W => by rw [hZ]; exact make128 W
  obtain ⟨w4, hw4⟩ : ∃ w4, w4 = w3.alloc (.cells Z 5) := ⟨_, rfl⟩
  have hn4 := blk_new w3 (.cells Z 5)
  have hb4 : Below w3.heap.size w3 w4 := by rw [hw4]; exact (Below.refl _ w3).alloc (Nat.le_refl _) _
  rw [← hw4, hZ] at hn4
  have HW4 := Lib.hid hw4
  obtain ⟨w5, hcp, hx5, hk5⟩ := run_copy_bytes (off := 0) (dLen := 128) (dCap := 128) (A := A) (sLen := bl) (sCap := c) (d := b) hn4 (by rw [HBL.out]; exact HBS.out.below (bstep hB3 hb4)) (m := Nat.min bl 128) rfl (by rw [zero128_len]; have := Nat.min_le_right bl 128; show 0 + min bl 128 ≤ 128; omega)
  have hcp : (Builtin.copy_ #[45, 45] 3 #[.slice (some ⟨w3.heap.size, 0, none⟩) 128 128, .slice A bl c]).run Tryz.prog w4 = .ok (goInt (Nat.min bl 128)) w5 := hcp _
  obtain ⟨gx, hgx⟩ : ∃ gx, gx = w3.heap.size := ⟨_, rfl⟩
  have hxl : (splice zero128 0 (b.take (Nat.min bl 128))).length = 128 := by
    rw [length_splice _ _ _ (by rw [zero128_len, List.length_take]; have := Nat.min_le_right bl 128; have h : min bl 128 ≤ 128 := this; show 0 + min (min bl 128) _ ≤ 128; omega), zero128_len]
  rw [← hgx] at hx5
  have hb5 : Below w3.heap.size w3 w5 := hb4.trans (hk5.below (fun j (hj : j = w3.heap.size) => by omega) hb4.size)
  generalize splice zero128 0 (b.take (Nat.min bl 128)) = X1 at hx5 hxl
  have HX5 := Lib.hid hx5
  have HXL := Lib.hid hxl
  have HD5 := Lib.hid (HD3.out.below hb5)
  have HB5 := Lib.hid (HB3.out.trans (hb5.mono HB3.out.size))
  have HGX : Hid (w.heap.size ≤ gx ∧ k ≠ gx ∧ g ≠ gx) := Lib.hid (by
    have h1 := blk_lt HD3.out.blk
    obtain ⟨cs, hq⟩ := own_blk HD3.out.sure (k := g) rfl
    have h2 := blk_lt hq
    have h3 := HB3.out.size
    rw [hgx]
    exact ⟨h3, by omega, by omega⟩)
  have HGXE := Lib.hid hgx
  clear hM hd3 hk3 hB3 hZ hn4 hb4 hw4 hx5 hk5 hb5 hxl hgx
  go_upto_region 5 with fail
  rw [← HW4.out]
  go_upto_region 6 with fail
  rw [← HGXE.out]
  clear hcp hmk
  by_cases hn1 : n = 1
  · subst hn1
    go_wp2
    go_ret
    exact ⟨rfl, HB5.out⟩
  have kb : ((n : Int) == 1) = false := beq_eq_false_iff_ne.2 (by omega)
  have kc : ¬ (n : Int) = 1 := by omega
  have hfl := freshD_len M 100
  obtain ⟨o, ho⟩ : ∃ o, (freshD M 100).sure[n]? = some o := ⟨(freshD M 100).sure[n]'(by omega), List.getElem?_eq_getElem _⟩
  have hon := freshD_on HMM.out 100 (by decide)
  have hol := hon.ok.each o (List.mem_of_getElem? ho)
  have HON := Lib.hid hon
  have HOL := Lib.hid hol
  have HFL := Lib.hid hfl
  have HGT := Lib.hid (dget_walk _ k _ w5 _ _ 0 HD5.out hon.ok hon.list hon.dead n o ho)
  have HN1 := Lib.hid hn1
  clear hon hol hfl ho hn1
  go_wp2_with fail
  refine HGT.out.mono ?_
  rintro r' w6 ⟨g6, rfl, h6, hg6, hb6⟩
  have HX6 := Lib.hid ((Keep.of_below (S := fun _ => False) hb6).blk HX5.out id)
  have HD6 := Lib.hid (HD5.out.below hb6)
  have HB6 := Lib.hid (bstep HB5.out hb6)
  have HS6 := Lib.hid h6
  clear h6 hg6 hb6
  obtain ⟨r3, hr3⟩ : ∃ r3 : Nat, r3 = cut % 3 := ⟨_, rfl⟩
  have er3 : (cut : Int) % 3 = (r3 : Int) := by omega
  clear hr3
  rcases Nat.eq_zero_or_pos r3 with h3 | h3
  case' inl =>
    have e3 : ((r3 : Int) == 0) = true := by rw [h3]; rfl
    have e3' : (r3 : Int) = 0 := by omega
    clear h3
    obtain ⟨q, hq⟩ : ∃ q : Nat, q = cut / 3 := ⟨_, rfl⟩
    obtain ⟨z, hz⟩ : ∃ z : Nat, z = q % 128 := ⟨_, rfl⟩
    obtain ⟨s7, hs7⟩ : ∃ s : Nat, s = cut % 7 := ⟨_, rfl⟩
    obtain ⟨t7, ht7⟩ : ∃ s : Nat, s = 1 + s7 := ⟨_, rfl⟩
    have f1 : (cut : Int) / 3 = (q : Int) := by omega
    have f2 : IntKind.i64.wrap (q : Int) = (q : Int) := IntWalk.i64_in _ (by omega)
    have f3 : (q : Int) % 128 = (z : Int) := by omega
    have f4 : (cut : Int) % 7 = (s7 : Int) := by omega
    have f5 : (s7 : Int) % 256 = (s7 : Int) := by omega
    have f6 : (1 + (s7 : Int)) % 256 = (t7 : Int) := by omega
    have f6' : IntKind.u8.wrap (1 + (s7 : Int)) = (t7 : Int) := by rw [← f6]; rfl
    have f7 : (0 : Int) ≤ (z : Int) := by omega
    have f8 : (z : Int) < 128 := by omega
    have HXZ : Hid (z < 128 ∧ t7 < 256) := Lib.hid (by omega)
    clear hq hz hs7 ht7
    obtain ⟨w7, hcp, hx7, hk7⟩ := run_copy_bytes (off := 0) (dLen := 128) (dCap := 128) HX6.out HS6.out (m := 128) rfl (by rw [HXL.out]; decide)
    have hcp : (Builtin.copy_ #[45, 45] 3 #[.slice (some ⟨gx, 0, none⟩) 128 128, .slice (some ⟨g6, 0, none⟩) 128 128]).run Tryz.prog w6 = .ok (goInt 128) w7 := hcp _
    have ht128 : o.take 128 = o := List.take_of_length_le (by rw [HOL.out]; decide)
    rw [ht128, splice_all _ _ (by rw [HXL.out, HOL.out])] at hx7
    obtain ⟨x, hx⟩ : ∃ x, o[z]? = some x := ⟨o[z]'(by have := HXZ.out; have := HOL.out; omega), List.getElem?_eq_getElem _⟩
    have cz : w7.cell? ⟨gx, z, none⟩ = some (.int .u8 (x.toNat : Int)) := by
      rw [blk_cells hx7, List.getElem?_toArray, bv_get, hx]
      rfl
    have fz := blk_frees hx7 z
    have hxt := x.toNat_lt
    obtain ⟨y, hy⟩ : ∃ y : UInt8, (y.toNat : Int) = ((x.toNat ^^^ t7 : Nat) : Int) := ⟨UInt8.ofNat (x.toNat ^^^ t7), by
      rw [UInt8.toNat_ofNat', Nat.mod_eq_of_lt (Nat.xor_lt_two_pow (n := 8) (by omega) (by have := HXZ.out; omega))]⟩
    have HBX : Hid (bits .xor .u8 (x.toNat : Int) (t7 : Int) = (y.toNat : Int)) := Lib.hid (by rw [hy]; exact bits_xor_u8 _ _ (by omega) HXZ.out.2)
    have hx8 := blk_set hx7 (.int .u8 (y.toNat : Int)) (j := z)
    have hk8 := keep_set w7 gx z (.int .u8 (y.toNat : Int))
    obtain ⟨W7, hW7⟩ : ∃ W7, W7 = w7.setCell ⟨gx, z, none⟩ (.int .u8 (y.toNat : Int)) := ⟨_, rfl⟩
    rw [← hW7] at hx8 hk8
    have hX8 : W7.heap[gx]? = some (.cells (bv (o.set z y)).toArray 5 (0, 0)) := by
      rw [hx8]
      congr 2
      rw [← bv_set]
      simp
    have hk9 : Keep (fun j => j = gx) w6 W7 := hk7.trans hk8 (fun _ _ h => h)
    obtain ⟨X7, hX7, hl7, hD7, hB7⟩ : ∃ X7, W7.heap[gx]? = some (.cells (bv X7).toArray 5 (0, 0)) ∧ X7.length = 128 ∧ DR w.heap.size k (freshD M 100) W7 (some ⟨g, 0, none⟩) 100 none 0 ∧ Below w.heap.size w W7 := ⟨o.set z y, hX8, by rw [List.length_set]; exact HOL.out, HD6.out.keep hk9 HGX.out.2.1 (fun j e => by obtain rfl : g = j := Option.some.inj e; exact HGX.out.2.2) (fun j e => by cases e), HB6.out.trans (hk9.below (fun j (hj : j = gx) => by have := HGX.out; omega) HB6.out.size)⟩
    have HX7 := Lib.hid hX7
    have HL7 := Lib.hid hl7
    have HD7 := Lib.hid hD7
    have HB7 := Lib.hid hB7
    have HW7 := Lib.hid hW7
    clear ht128 hx hxt hy hx8 hk8 hX8 hk9 hX7 hl7 hD7 hB7 hW7 hx7 hk7
    go_upto_region 12 with fail
    go_upto_region 13 with fail
    rw [HBX.out, ← HW7.out]
    clear hcp cz fz
  case' inr =>
    have kb3 : ((r3 : Int) == 0) = false := beq_eq_false_iff_ne.2 (by omega)
    have kc3 : ¬ (r3 : Int) = 0 := by omega
    obtain ⟨W7, X7, hW7, hX7, hl7, hD7, hB7⟩ : ∃ W7 X7, W7 = w6 ∧ W7.heap[gx]? = some (.cells (bv X7).toArray 5 (0, 0)) ∧ X7.length = 128 ∧ DR w.heap.size k (freshD M 100) W7 (some ⟨g, 0, none⟩) 100 none 0 ∧ Below w.heap.size w W7 := ⟨w6, X1, rfl, HX6.out, HXL.out, HD6.out, HB6.out⟩
    have HX7 := Lib.hid hX7
    have HL7 := Lib.hid hl7
    have HD7 := Lib.hid hD7
    have HB7 := Lib.hid hB7
    have HW7 := Lib.hid hW7
    clear hX7 hl7 hD7 hB7 hW7
    go_upto_region 13 with fail
    rw [← HW7.out]
  all_goals
    have hsl7 := (row_nb (B := w.heap.size) HX7.out HGX.out.1).sl
    obtain ⟨W8, hW8⟩ : ∃ W8, W8 = W7.alloc (.cells #[.int .i64 (n : Int), .slice (some ⟨gx, 0, none⟩) 128 128] 55) := ⟨_, rfl⟩
    have hwr := one_wr W7 n (some ⟨gx, 0, none⟩) X7.length X7 hsl7
    rw [HL7.out, ← hW8] at hwr
    have hb8 : Below W7.heap.size W7 W8 := by rw [hW8]; exact (Below.refl _ W7).alloc (Nat.le_refl _) _
    have h1 : ∀ e ∈ [(⟨n, some ⟨gx, 0, none⟩, 128, X7⟩ : WE)], e.at_ < (freshD M 100).sure.length ∧ e.d.length = 128 := fun e he => by
      obtain rfl : e = ⟨n, some ⟨gx, 0, none⟩, 128, X7⟩ := by simpa using he
      exact ⟨by rw [HFL.out]; show n < 100; omega, HL7.out⟩
    have HPU := Lib.hid (dput_walk w.heap.size k (freshD M 100) _ 1 [⟨n, some ⟨gx, 0, none⟩, 128, X7⟩] (some ⟨g, 0, none⟩) 100 0 W8 (HD7.out.below hb8) HON.out.ok HON.out.list HON.out.fuse HON.out.dead hwr (by show 1 ≤ 1000; omega) h1)
    have HH1 := Lib.hid h1
    have HB8 := Lib.hid (bstep HB7.out hb8)
    have HW8 := Lib.hid hW8
    clear hsl7 hwr hb8 h1 hW8
    go_wp2_with fail
    rw [← HW8.out]
    refine HPU.out.mono ?_
    rintro r' W9 ⟨L9, lc9, rfl, hd9, _, hk9⟩
    have HF := Lib.hid (put_flush (w := W8) HON.out HH1.out (by show 1 ≤ 1000; omega) hd9 hk9)
    clear hd9 hk9
    go_wp2_with fail
    refine HF.out.mono ?_
    rintro r' W10 ⟨rfl, hd10, hk10⟩
    obtain ⟨D, hD⟩ : ∃ D, D = wrS (freshD M 100) [(n, X7)] := ⟨_, rfl⟩
    have hd10 : DR w.heap.size k D W10 (some ⟨g, 0, none⟩) 100 none 0 := by rw [hD]; exact hd10
    have hon : D.on := by
      rw [hD]
      exact wrS_on HON.out (fun p hp => by
        obtain rfl : p = (n, X7) := by simpa using hp
        exact HL7.out)
    have hDl : D.sure.length = 100 := by rw [hD, wr1_sure, List.length_set]; exact HFL.out
    have hhd : D.sure[1]? = some (headE []) := by
      rw [hD, wr1_sure, List.getElem?_set_ne HN1.out]
      exact (fr HMM.out 100 (by decide)).f1
    have HB10 : Hid (Below w.heap.size w W10) := Lib.hid (HB8.out.trans (hk10.below (fun j hj => by
      have := HG.out
      have := HB8.out.size
      rcases hj with hj | hj | hj <;> omega) HB8.out.size))
    have HD10 := Lib.hid hd10
    have HDON := Lib.hid hon
    have HDL := Lib.hid hDl
    have HHD := Lib.hid hhd
    have HIM := Lib.hid (image_walk _ _ D W10 g 100 none 0 hd10 hon.ok)
    clear hk10 hd10 hon hDl hhd hD
    go_wp2_with fail
    refine HIM.out.mono ?_
    rintro r' W11 ⟨vi, rfl, him, hb11⟩
    have HIM1 := Lib.hid him
    have HB11 := Lib.hid (bstep HB10.out hb11)
    have HD11 := Lib.hid (HD10.out.below hb11)
    clear him hb11
    by_cases hrdy : ∃ sup, Ready D sup ∧ sup.epoch < 1073741824
    · obtain ⟨sup, hr, he⟩ := hrdy
      have HMT := Lib.hid (mount_walk w.heap.size k g 100 D W11 HD11.out HDON.out sup hr HHD.out he)
      clear hr he
      go_wp2_with fail
      refine HMT.out.mono ?_
      rintro r' W12 ⟨p, A12, hpd, hpg, hpc, rfl, hst, hpk, hpb, hk12⟩
      obtain ⟨e1, he1⟩ : ∃ e1 : Nat, e1 = sup.epoch + 1 := ⟨_, rfl⟩
      have HSU := Lib.hid (lsuper hst (a := sup.sectors) (b := e1) (c := sup.gens) (by rw [he1]; rfl))
      have HB12 := Lib.hid (HB11.out.trans (hk12.below (fun j hj => by have := HG.out; have := HB11.out.size; rcases hj with hj | hj | hj <;> omega) HB11.out.size))
      have g1 : (1 : Int) ≤ (e1 : Int) := by omega
      have hfe := sup_epoch (sup.sectors : Int) (e1 : Int) (sup.gens : Int)
      clear hpd hpg hpc hst hpk hpb hk12 he1
      go_wp2_with fail
      refine HSU.out.mono ?_
      rintro r' W13 ⟨rfl, hb13⟩
      have HB13 := Lib.hid (bstep HB12.out hb13)
      clear hb13
      go_wp2
      go_ret
      exact ⟨rfl, HB13.out⟩
    · obtain ⟨code, hcode, hmt⟩ : ∃ code : Int, (code = 2 ∨ code = 9) ∧ Calls Tryz.prog 14 #[.pointer (some ⟨k, 0, none⟩)] W11 fun r w' => r = .returned (.tuple #[.pointer none, .int .i64 code]) ∧ Below W11.heap.size W11 w' := by
        by_cases hr : ∃ sup, Ready D sup
        · obtain ⟨sup, hr⟩ := hr
          exact ⟨9, .inr rfl, mount_full _ _ D W11 _ _ HD11.out HDON.out HHD.out sup hr (by
            rcases Nat.lt_or_ge sup.epoch 1073741824 with h | h
            · exact absurd ⟨sup, hr, h⟩ hrdy
            · exact h)⟩
        · exact ⟨2, .inl rfl, mount_bad _ _ D W11 _ _ HD11.out HDON.out HHD.out (fun W hW => rdy_no _ _ D W _ _ (HD11.out.below hW) HDON.out (by rw [HDL.out]; decide) hr)⟩
      have HMT := Lib.hid hmt
      clear hmt hrdy
      rcases hcode with rfl | rfl
      all_goals
        go_wp2_with fail
        refine HMT.out.mono ?_
        rintro r' W12 ⟨rfl, hb12⟩
        have HB12 := Lib.hid (bstep HB11.out hb12)
        have HIM2 := Lib.hid (image_walk _ _ D W12 g 100 none 0 (HD11.out.below hb12) HDON.out.ok)
        have HIMa := Lib.hid (HIM1.out.below hb12)
        clear hb12
        go_wp2_with fail
        refine HIM2.out.mono ?_
        rintro r' W13 ⟨vj, rfl, him, hb13⟩
        obtain ⟨es, A1, c1, hL1, rfl, hnr1, hall1⟩ := HIMa.out.below hb13
        obtain ⟨fs, A2, c2, hL2, rfl, hnr2, hall2⟩ := him
        have hl1 : es.length = 100 := by rw [← HDL.out, ← hL1, List.length_map]
        have hl2 : fs.length = 100 := by rw [← HDL.out, ← hL2, List.length_map]
        rw [hl1] at hnr1 ⊢
        rw [hl2] at hnr2 ⊢
        have HNR1 := Lib.hid hnr1
        have HNR2 := Lib.hid hnr2
        have HALL1 := Lib.hid hall1
        have HALL2 := Lib.hid hall2
        have HL1 := Lib.hid hL1
        have HL2 := Lib.hid hL2
        have HLE := Lib.hid (show es.length = 100 ∧ fs.length = 100 from ⟨hl1, hl2⟩)
        have HB13 := Lib.hid (bstep HB12.out hb13)
        clear hnr1 hnr2 hall1 hall2 hL1 hL2 hl1 hl2 hb13
        go_wp2_with fail
        go_loopw [17] (fun v wr => ∃ i : Nat, i ≤ 100 ∧ v = .int .i64 (i : Int) ∧ Below W13.heap.size W13 wr) (fun v _ => 100 - (intOf v).toNat)
        case atStart => exact ⟨0, Nat.zero_le _, rfl, Below.refl _ _⟩
        case round =>
          obtain ⟨i, hi, rfl, hbw⟩ := hrel
          have HBW := Lib.hid hbw
          by_cases hlt : i < 100
          · obtain ⟨e, he⟩ : ∃ e, es[i]? = some e := ⟨es[i]'(by have := HLE.out; omega), List.getElem?_eq_getElem _⟩
            obtain ⟨f, hf⟩ : ∃ f, fs[i]? = some f := ⟨fs[i]'(by have := HLE.out; omega), List.getElem?_eq_getElem _⟩
            have hde : D.sure[i]? = some e.d := by rw [← HL1.out, List.getElem?_map, he]; rfl
            have hdf : D.sure[i]? = some f.d := by rw [← HL2.out, List.getElem?_map, hf]; rfl
            have hef : f.d = e.d := Option.some.inj (hdf.symm.trans hde)
            have hdl := HDON.out.ok.each e.d (List.mem_of_getElem? hde)
            obtain ⟨b1, o1, hA1, _, hc1⟩ := sl_cell (k := i) (u := e.val) ((Sl.of_own HNR1.out.own).below hbw) (by rw [List.getElem?_map, he]; rfl)
            obtain ⟨b2, o2, hA2, _, hc2⟩ := sl_cell (k := i) (u := f.val) ((Sl.of_own HNR2.out.own).below hbw) (by rw [List.getElem?_map, hf]; rfl)
            have s1 := ((HALL1.out e (List.mem_of_getElem? he)).below hbw).sl
            have s2 := ((HALL2.out f (List.mem_of_getElem? hf)).below hbw).sl
            unfold WE.val at hc1 hc2
            rw [hef] at s2 hc2
            rw [hdl] at s1 s2 hc1 hc2
            have hcv : ∀ (W : World) A c, Sl W 1 (.slice A 128 c) 128 (bv e.d) → (convert 45 9 (.slice A 128 c)).run Tryz.prog W = .ok (.string ⟨e.d.toArray⟩) W := fun W A c h => run_conv_bytes (P := Tryz.prog) (d := e.d) W Tryz.underlying45 Tryz.underlying5 Tryz.underlying9 h
            obtain ⟨Sz, hSz⟩ : ∃ S : ByteArray, S = ⟨e.d.toArray⟩ := ⟨_, rfl⟩
            rw [← hSz] at hcv
            have k1 := hcv _ _ _ s1
            have k2 := hcv _ _ _ s2
            have k3 := hcv wr.drew e.A e.c s1
            have k4 := hcv wr.drew f.A f.c s2
            have ga : (i : Int) < 100 := by omega
            have g0 : (0 : Int) ≤ (i : Int) := by omega
            have gc : IntKind.i64.wrap ((i : Int) + 1) = (i : Int) + 1 := IntWalk.i64_in _ (by omega)
            generalize e.A = eA at hc1 k1 k3
            generalize e.c = ec at hc1 k1 k3
            generalize f.A = fA at hc2 k2 k4
            generalize f.c = fc at hc2 k2 k4
            clear hbw he hf hde hdf hef hdl s1 s2 hcv hSz
            subst hA1 hA2
            go_wp2_with fail
            go_big_region
            all_goals
              go_wp2_with fail
              go_roundw
              case rel => exact ⟨i + 1, hlt, by rw [Int.natCast_add]; rfl, HBW.out.drew⟩
              case measure => simp only [intOf]; omega
          · obtain rfl : i = 100 := by omega
            have ga : ¬ (100 : Int) < 100 := by omega
            have HBE := Lib.hid (HB13.out.trans (hbw.mono HB13.out.size))
            clear hbw
            go_wp2
            go_ret
            exact ⟨rfl, HBE.out⟩
theorem mounts_open (x y : Int) (hx : (Lit.int .u8 x).wf = true) (hy : (Lit.int .u16 y).wf = true) (b : List UInt8) (A : Option Addr) (c : Nat) (w : World) (h : Sl w 1 (.slice A b.length c) b.length (bv b)) :
    Calls Tryz.prog 4 #[.int .u8 x, .slice A b.length c, .int .u16 y] w fun e w' => e = .returned (.bool true) ∧ Below w.heap.size w w' := by
  simp only [Lit.wf, Bool.and_eq_true, decide_eq_true_eq] at hx hy
  have h1 : 0 ≤ x ∧ x ≤ 255 := hx
  have h2 : 0 ≤ y ∧ y ≤ 65535 := hy
  obtain ⟨a, rfl⟩ : ∃ a : Nat, x = (a : Int) := ⟨x.toNat, by omega⟩
  obtain ⟨d, rfl⟩ : ∃ a : Nat, y = (a : Int) := ⟨y.toNat, by omega⟩
  exact mounts_walk a d (by omega) (by omega) b A c w h
end Go.Proofs.YtgedcnnbeangcaaGreat
/- What an argument that can be read looks like, type by type: numbers, texts, bytes, structs, slices. No program in sight. -/
set_option linter.unusedSimpArgs false
set_option linter.unusedVariables false
namespace Go.Proofs.YtgedcnnbeangcaaGreat
open Go.RowKit Go.ChangeShapes Go.WideShapes Go.ChangeAt

/-- The cells cs can be read as a value of type t, and nothing in it is greater than a machine's memory. -/
def Opens (P : Program) (w : World) (t : TypeId) (cs : List Value) : Prop :=
  ∃ (H : Type) (enc : TypeId × Value → H) (fuel : Nat) (x : DataW H × List MemPlace), DataW.trod enc P w 0 (fun _ => true) true fuel t cs = some x ∧ ∀ n ∈ x.1.weights P t, n ≤ 140737488351232

theorem Opens.int {P : Program} {w : World} {t : TypeId} {cs : List Value} {k : IntKind} (ht : P.underlying t = some (.int k)) (h : Opens P w t cs) : ∃ n, cs = [.int k n] ∧ (Lit.int k n).wf = true := by
  obtain ⟨H, enc, fuel, x, hf, _⟩ := h
  obtain ⟨n, rfl, _, hw⟩ := DataW.trod_int ht hf
  exact ⟨n, rfl, hw⟩
theorem Opens.bool {P : Program} {w : World} {t : TypeId} {cs : List Value} (ht : P.underlying t = some .bool) (h : Opens P w t cs) : ∃ b, cs = [.bool b] := by
  obtain ⟨H, enc, fuel, x, hf, _⟩ := h
  obtain ⟨b, rfl, _⟩ := DataW.trod_bool ht hf
  exact ⟨b, rfl⟩
theorem Opens.string {P : Program} {w : World} {t : TypeId} {cs : List Value} (ht : P.underlying t = some .string) (h : Opens P w t cs) : ∃ s : ByteArray, cs = [.string s] ∧ s.size ≤ 140737488351232 := by
  obtain ⟨H, enc, fuel, x, hf, hw⟩ := h
  obtain ⟨s, rfl, rfl, _⟩ := DataW.trod_string ht hf
  refine ⟨s, rfl, ?_⟩
  have := hw s.data.toList.length (by simp [DataW.weights])
  rw [Array.length_toList] at this
  exact this

theorem weightsEach_mem {H : Type} {P : Program} : ∀ (fs : List Field) (xs : List (DataW H)) (i : Nat) (f : Field) (d : DataW H), fs[i]? = some f → xs[i]? = some d → ∀ n ∈ d.weights P f.type, n ∈ DataW.weightsEach P (fs.map (·.type)) xs
  | f0 :: fs, d0 :: xs, 0, f, d, hf, hd, n, hn => by
    simp only [List.getElem?_cons_zero, Option.some.injEq] at hf hd
    subst hf; subst hd
    simp only [List.map_cons, DataW.weightsEach, List.mem_append]
    exact .inl hn
  | f0 :: fs, d0 :: xs, i + 1, f, d, hf, hd, n, hn => by
    simp only [List.getElem?_cons_succ] at hf hd
    simp only [List.map_cons, DataW.weightsEach, List.mem_append]
    exact .inr (weightsEach_mem fs xs i f d hf hd n hn)
  | [], _, _, f, d, hf, _, _, _ => by simp at hf
  | _ :: _, [], _, f, d, _, hd, _, _ => by simp at hd
theorem weightsAll_mem {H : Type} {P : Program} {e : TypeId} : ∀ (xs : List (DataW H)) (d : DataW H), d ∈ xs → ∀ n ∈ d.weights P e, n ∈ DataW.weightsAll P e xs
  | [], d, hd, _, _ => by simp at hd
  | d0 :: xs, d, hd, n, hn => by
    simp only [DataW.weightsAll, List.mem_append]
    rcases List.mem_cons.1 hd with rfl | h
    · exact .inl hn
    · exact .inr (weightsAll_mem xs d h n hn)

theorem Opens.struct {P : Program} {w : World} {t : TypeId} {cs : List Value} {fs : Array Field} (ht : P.underlying t = some (.struct fs)) (h : Opens P w t cs) :
    cs.length = P.cellsOf t ∧ ∀ (i : Nat) (f : Field), fs[i]? = some f → Opens P w f.type ((cs.drop f.offset).take (P.cellsOf f.type)) := by
  obtain ⟨H, enc, fuel, x, hf, hw⟩ := h
  obtain ⟨xs, n, _, rfl, hl, hlen, hfs⟩ := DataW.trod_struct ht hf
  refine ⟨hl, fun i f hi => ?_⟩
  have hif : i < fs.size := (Array.getElem?_eq_some_iff.1 hi).1
  obtain ⟨y, hy⟩ : ∃ y, xs[i]? = some y := ⟨xs[i]'(by omega), List.getElem?_eq_getElem (by omega)⟩
  refine ⟨H, enc, n, y, (hfs i f hi).trans hy, fun m hm => hw m ?_⟩
  simp only [DataW.weights, ht]
  exact weightsEach_mem fs.toList (xs.map (·.1)) i f y.1 (by simpa using hi) (by simp [hy]) m hm

theorem flat_cells {w : World} {ad : Addr} {size : Nat} : ∀ (css : List (List Value)) (base : Nat), (∀ i c, css[i]? = some c → c.length = size ∧ ∀ j, j < size → w.cell? (ad.add (base + i * size + j)) = c[j]?) →
    ∀ k u, css.flatten[k]? = some u → w.cell? (ad.add (base + k)) = some u
  | [], _, _, k, u, hu => by simp at hu
  | c :: css, base, h, k, u, hu => by
    obtain ⟨hl, hc⟩ := h 0 c rfl
    rw [List.flatten_cons, List.getElem?_append] at hu
    split at hu
    · rename_i hk
      have := hc k (by omega)
      rw [show base + 0 * size + k = base + k by omega] at this
      rw [this]; exact hu
    · rename_i hk
      have := flat_cells css (base + size) (fun i c' hi => by
        obtain ⟨h1, h2⟩ := h (i + 1) c' (by simpa using hi)
        refine ⟨h1, fun j hj => ?_⟩
        have := h2 j hj
        rw [show base + (i + 1) * size + j = base + size + i * size + j by rw [Nat.add_mul]; omega] at this
        exact this) (k - c.length) u hu
      rw [show base + size + (k - c.length) = base + k by omega] at this
      exact this

theorem flatten_len {size : Nat} : ∀ (css : List (List Value)), (∀ c ∈ css, c.length = size) → css.flatten.length = css.length * size
  | [], _ => by simp
  | c :: css, h => by
    rw [List.flatten_cons, List.length_append, flatten_len css (fun c hc => h c (by simp [hc])), h c (by simp), List.length_cons, Nat.add_mul]
    omega

/-- A slice that came in: its elements' cells, one list each. -/
theorem Opens.slice {P : Program} {w : World} {t e : TypeId} {cs : List Value} (ht : P.underlying t = some (.slice e)) (h : Opens P w t cs) :
    ∃ (v : Value) (n : Nat) (css : List (List Value)), cs = [v] ∧ css.length = n ∧ Sl w (P.cellsOf e) v n css.flatten ∧ (∀ c ∈ css, c.length = P.cellsOf e ∧ Opens P w e c) ∧ n * P.bytesOf e ≤ 140737488351232 := by
  obtain ⟨H, enc, fuel, x, hf, hw⟩ := h
  rcases DataW.trod_slice ht hf with ⟨rfl, rfl⟩ | ⟨a, len, cap, elems, rest, n, _, rfl, rfl, hb, hl, hm, hlen, hel, _, _⟩
  · exact ⟨_, 0, [], rfl, rfl, ⟨none, 0, rfl, .inl rfl, fun _ => ⟨rfl, rfl⟩, Nat.le_refl _, by simp⟩, by simp, by simp⟩
  · have hone : ∀ i, i < len → ∃ c : List Value, c.length = P.cellsOf e ∧ (∀ j, j < P.cellsOf e → w.cell? (a.add (i * P.cellsOf e + j)) = c[j]?) ∧ Opens P w e c := by
      intro i hi
      obtain ⟨y, hy⟩ : ∃ y, elems[i]? = some y := ⟨elems[i]'(by omega), List.getElem?_eq_getElem (by omega)⟩
      have h1 := (hel i hi).trans hy
      obtain ⟨c, hc, ht'⟩ := Option.bind_eq_some_iff.1 h1
      obtain ⟨_, h2, h3⟩ := World.cells?_some hc
      refine ⟨c, h2, fun j hj => by rw [← Go.Deep.add_add]; exact h3 j hj, H, enc, n, y, ht', fun k hk => hw k ?_⟩
      simp only [DataW.weights, ht]
      refine List.mem_cons_of_mem _ (List.mem_append_left _ ?_)
      exact weightsAll_mem _ y.1 (List.mem_map.2 ⟨y, List.mem_of_getElem? hy, rfl⟩) k hk
    obtain ⟨f, hfc⟩ := Go.Deep.choose_lt (α := List Value) (n := len) (p := fun i c => c.length = P.cellsOf e ∧ (∀ j, j < P.cellsOf e → w.cell? (a.add (i * P.cellsOf e + j)) = c[j]?) ∧ Opens P w e c) hone
    have hget : ∀ i c, ((List.range len).map f)[i]? = some c → i < len ∧ f i = c := by
      intro i c hi
      rw [List.getElem?_map] at hi
      rcases Nat.lt_or_ge i len with h | h
      · simp [h] at hi; exact ⟨h, hi⟩
      · simp [List.getElem?_eq_none (show (List.range len).length ≤ i by simpa using h)] at hi
    have hall : ∀ c ∈ (List.range len).map f, c.length = P.cellsOf e ∧ Opens P w e c := by
      intro c hc
      obtain ⟨i, hi, rfl⟩ := List.mem_map.1 hc
      have := hfc i (List.mem_range.1 hi)
      exact ⟨this.1, this.2.2⟩
    refine ⟨_, len, (List.range len).map f, rfl, by simp, ⟨some a, cap, rfl, .inr ⟨a, rfl, fun k u hu => ?_⟩, (fun e => by simp at e), hl, ?_⟩, hall, ?_⟩
    · have := flat_cells (w := w) (ad := a) (size := P.cellsOf e) ((List.range len).map f) 0 (fun i c hi => by
        obtain ⟨h1, rfl⟩ := hget i c hi
        have := hfc i h1
        exact ⟨this.1, fun j hj => by rw [Nat.zero_add]; exact this.2.1 j hj⟩) k u hu
      simpa using this
    · rw [flatten_len _ (fun c hc => (hall c hc).1)]; simp
    · have := hw ((elems.length + rest.length) * P.bytesOf e) (by simp [DataW.weights, ht])
      refine Nat.le_trans (Nat.mul_le_mul_right _ ?_) this
      omega

theorem map_byte {cs : List (List Value)} (h : ∀ c ∈ cs, ∃ b : UInt8, c = [.int .u8 (b.toNat : Int)]) : ∃ d : List UInt8, cs.flatten = bv d ∧ d.length = cs.length := by
  induction cs with
  | nil => exact ⟨[], rfl, rfl⟩
  | cons c cs ih =>
    obtain ⟨b, rfl⟩ := h c (by simp)
    obtain ⟨d, hd, hl⟩ := ih (fun c hc => h c (by simp [hc]))
    exact ⟨b :: d, by simp [bv] at hd ⊢; exact hd, by simp [hl]⟩
/-- A slice of bytes that came in. -/
theorem Opens.bytes {P : Program} {w : World} {t e : TypeId} {cs : List Value} (ht : P.underlying t = some (.slice e)) (he : P.underlying e = some (.int .u8)) (hc : P.cellsOf e = 1) (hb : P.bytesOf e = 1) (h : Opens P w t cs) :
    ∃ A c d, cs = [.slice A d.length c] ∧ Sl w 1 (.slice A d.length c) d.length (bv d) ∧ d.length ≤ 140737488351232 := by
  obtain ⟨v, n, css, rfl, hn, hs, hall, hr⟩ := h.slice ht
  rw [hc] at hs hall
  rw [hb] at hr
  obtain ⟨d, hd, hl⟩ := map_byte (cs := css) (fun c hcc => by
    obtain ⟨k, rfl, hw⟩ := (hall c hcc).2.int he
    have : 0 ≤ k ∧ k < 256 := by
      simp only [Lit.wf, IntKind.min, IntKind.max, IntKind.signed, IntKind.bits, Bool.and_eq_true, decide_eq_true_eq] at hw
      simp at hw
      omega
    exact ⟨UInt8.ofNat k.toNat, by simp; omega⟩)
  rw [hd] at hs
  have hs' := hs
  obtain ⟨A, c, rfl, _⟩ := hs'
  obtain rfl : n = d.length := by omega
  exact ⟨A, c, d, rfl, hs, by omega⟩
/-- The first argument's reading out of all arguments'. -/
theorem Opens.arg {H : Type} {enc : TypeId × Value → H} {P : Program} {w : World} {t : TypeId} {v : Value} {d : DataW H} {ps : List MemPlace} {ts : List TypeId} {ds : List (DataW H)} (h : DataW.Trod enc P w 0 (fun _ => true) true t v d ps)
    (hall : (DataW.weightsEach P ts ds).all (· ≤ reachBytes) = true) {j : Nat} (h1 : ts[j]? = some t) (h2 : ds[j]? = some d) : Opens P w t v.cells.toList := by
  obtain ⟨fuel, hf⟩ := h
  refine ⟨H, enc, fuel, (d, ps), hf, fun n hn => ?_⟩
  have := List.all_eq_true.1 hall n (DataW.weights_mem_each h1 h2 n hn)
  exact of_decide_eq_true this
end Go.Proofs.YtgedcnnbeangcaaGreat
