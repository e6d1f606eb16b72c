/- play: the walk. (printed by play2.py) -/
import Derived.Test.YtmfgkddndlleoaaPlay1
import Derived.Test.YtmfgkddndlleoaaRefL7
import Derived.Test.YtmfgkddndlleoaaRefS
import Derived.StillTailTactics
import Derived.Deep.RegionLaw
import Derived.Deep.RegionHeld3
import Derived.Deep.DeepCutAuto
import Derived.Deep.CutBlock
import Derived.Deep.Light
set_option linter.unusedSimpArgs false
set_option linter.unusedVariables false
namespace Go.Proofs.Ytmfgkddndlleoaa
open Go.RowKit

/-- How play ends. -/
def PlayEnd (w : World) (X0 : Nat → Prop) (t : Nat) (born rb : Int) (N : Nat) (e : Ending) (w' : World) : Prop :=
  ∃ L Q A c ls B d qs X b, e = .returned (.tuple #[.agg #[.int .i64 rb, .slice A (List.length ls) c, .slice B (List.length qs) d], .bool b]) ∧ PS w' t born L Q A c ls B d qs X (N + 1) ∧ (∀ k, X0 k → X k) ∧ Keep (fun k => ¬ X0 k) w w'
def PMid (w : World) (X0 : Nat → Prop) (st : ST) (t : Nat) (born rb : Int) (N : Nat) (wx : World) : Prop := ∃ L Q A c ls B d qs X, PF w X0 st t born rb L Q A c ls B d qs X (N + 1) wx
theorem bstep {w w1 w2 : World} (h : Below w.heap.size w w1) (hb : Below w1.heap.size w1 w2) : Below w.heap.size w w2 := h.trans (hb.mono h.size)
set_option maxRecDepth 100000 in
set_option maxHeartbeats 4000000 in
theorem play_walk (w : World) (X0 : Nat → Prop) (st : ST) (t : Nat) (born rb : Int) (L Q : List LE) (A : Option Addr) (c : Nat) (ls : List LE) (B : Option Addr) (d : Nat) (qs : List LE) (N : Nat) (h : PS w t born L Q A c ls B d qs X0 N) (hN : N ≤ 100) :
    Calls Try.prog 7 #[.pointer (some ⟨t, 0, none⟩), .agg #[.int .i64 rb, .slice A ls.length c, .slice B qs.length d], .agg #[.int .i64 st.what, .int .i64 st.seat, .int .i64 st.mode, .int .i64 st.now, .int .i64 st.n, .int .i64 st.g]] w (PlayEnd w X0 t born rb N) := by
  obtain ⟨X1, hF⟩ := PF.start (rb := rb) (st := st) h
  obtain ⟨w0, hw0⟩ : ∃ w0, w0 = boxP w rb A B c d ls.length qs.length st := ⟨_, rfl⟩
  rw [← hw0] at hF
  have HW0 := Lib.hid hw0
  unfold boxP ST.arr ZT at HW0
  have F0 := Lib.hid hF
  have cb := blk_cells hF.bt
  have cs := blk_cells hF.bs
  have lb := blk_lt hF.bt
  have lsz := blk_lt hF.br
  have ls2 : w.heap.size + 1 < w0.heap.size := blk_lt hF.bs
  have hn1 := hF.ps.n1
  have hn2 := hF.ps.n2
  have hn3 := hF.ps.n3
  have hn4 := hF.ps.n4
  clear hF hw0 h
  obtain ⟨what, seat, mode, now, n, g⟩ := st
  unfold ST.arr at cs
  dsimp only at cs HW0 F0
  go_enter Try.func7, Try.ntmps7
  go_upto_region 1 with fail
  rw [← HW0.out]
  go_upto_block 0 with fail
  go_cut [8] (fun v wx => (∃ b, v = .bool b) ∧ PMid w X0 ⟨what, seat, mode, now, n, g⟩ t born rb N wx)
  case first =>
    by_cases h0 : what = 0
    · subst h0
      have HG := Lib.hid (grantX t born n g seat mode now L Q X1 w0 F0.out.ps.tl F0.out.ps.lt (by omega))
      go_wp2_with fail
      refine HG.out.mono ?_
      rintro e w1 ⟨O, oc, rfl, hO, hTL, hK, _⟩
      have hlen := grantP_len n g seat mode now L Q
      have HF1 := Lib.hid (F0.out.real (N' := N + 1) (hTL.less (fun k hk => .inl hk)) hK (grantP_apart F0.out.ps.ap) (by omega) (by omega) (by omega))
      have HOS := Lib.hid (Sl.of_own hO)
      have hol : (grantP n g seat mode now L Q).1.length ≤ 1000000 := by omega
      have cb1 := blk_cells HF1.out.bt
      have cs1 := blk_cells HF1.out.bs
      have lb1 := blk_lt HF1.out.bt
      have ls1 := blk_lt HF1.out.bs
      unfold ST.arr at cs1
      obtain ⟨p1, hp1⟩ : ∃ p, p = (grantP n g seat mode now L Q).2.1 := ⟨_, rfl⟩
      obtain ⟨o1, ho1⟩ : ∃ o, o = (grantP n g seat mode now L Q).1 := ⟨_, rfl⟩
      rw [← ho1] at HOS hol
      rw [← hp1, ← ho1]
      have HRG := Lib.hid (rgrant_walk rb n g seat mode now A B ls qs c d w1 HF1.out.ps.sl HF1.out.ps.sq (by omega) (by omega))
      clear hO hTL hK hlen hp1 ho1 cb cs lb
      go_wp2_with fail
      refine HRG.out.mono ?_
      rintro e w2 ⟨K, kc, ks, M, mc, ms, O2, oc2, os2, b2, rfl, sk, sm, so, lk, lm, lo, fk, fm, hb2⟩
      obtain ⟨w3, hw3⟩ : ∃ w3, w3 = w2.alloc (.cells #[.int .i64 rb, .slice K ks.length kc, .slice M ms.length mc] 29) := ⟨_, rfl⟩
      have hb3 : Below w1.heap.size w1 w3 := by rw [hw3]; exact hb2.alloc hb2.size _
      have x3 : w3.heap[w2.heap.size]? = some (.cells #[.int .i64 rb, .slice K ks.length kc, .slice M ms.length mc] 29 (0, 0)) := by rw [hw3]; exact blk_new w2 _
      have hb23 : Below w2.heap.size w2 w3 := by rw [hw3]; exact (Below.refl _ w2).alloc (Nat.le_refl _) _
      have cx3 := blk_cells x3
      have lx3 := blk_lt x3
      have y3 : w3.heap[w.heap.size]? = _ := (Keep.of_below (S := fun _ => False) hb3).blk HF1.out.bt id
      have cy3 := blk_cells y3
      have fy3 := blk_frees y3
      have ly3 := blk_lt y3
      obtain ⟨w4, hw4⟩ : ∃ w4, w4 = ((w3.setCell ⟨w.heap.size, 0, none⟩ (.int .i64 rb)).setCell ⟨w.heap.size, 1, none⟩ (.slice K ks.length kc)).setCell ⟨w.heap.size, 2, none⟩ (.slice M ms.length mc) := ⟨_, rfl⟩
      have k34 : Keep (fun i => i = w.heap.size) w3 w4 := by rw [hw4]; exact (((Keep.refl (fun i => i = w.heap.size) w3).setCell (fun _ => rfl) _).setCell (fun _ => rfl) _).setCell (fun _ => rfl) _
      have y4 : w4.heap[w.heap.size]? = some (.cells #[.int .i64 rb, .slice K ks.length kc, .slice M ms.length mc] 29 (0, 0)) := by rw [hw4]; exact blk_set (blk_set (blk_set y3 _) _) _
      obtain ⟨X4, hF4⟩ := HF1.out.turn (N' := N + 1) hb3 (sk.below hb23) (sm.below hb23) fk fm (by omega) (by omega) (Nat.le_refl _) hw4
      have HF4 := Lib.hid hF4
      have HI := Lib.hid (rints_walk O O2 o1 os2 oc oc2 w4 (sl_turn (by simp) (by simp) y3 y4 k34 (HOS.out.below hb3)) (sl_turn (by simp) (by simp) y3 y4 k34 (so.below hb23)) (by omega))
      have HW3 := Lib.hid hw3
      have HW4 := Lib.hid hw4
      clear sk sm so fk fm hb2 hb3 hb23 x3 y3 y4 k34 hF4 hw3 hw4 cb1 cs1
      go_upto_region 6 with fail
      rw [← HW3.out]
      go_upto_region 7 with fail
      rw [← HW4.out]
      clear cx3 cy3 fy3
      by_cases hpq : p1 = b2
      · subst hpq
        go_wp2_with fail
        refine HI.out.mono ?_
        rintro e w5 ⟨⟨b5, rfl⟩, hb5⟩
        have HF5 := Lib.hid (HF4.out.below hb5)
        clear hb5
        go_wp2
        go_meet
        case rel => exact ⟨⟨_, rfl⟩, _, _, _, _, _, _, _, _, _, HF5.out⟩
      · have hpq2 : (p1 == b2) = false := by simpa using hpq
        clear hpq
        go_wp2
        go_meet
        case rel => exact ⟨⟨_, rfl⟩, _, _, _, _, _, _, _, _, _, HF4.out⟩
    by_cases h1 : what = 1
    · subst h1
      have HG := Lib.hid (reclaimX t born n g seat mode now L Q X1 w0 F0.out.ps.tl F0.out.ps.lt (by omega))
      go_wp2_with fail
      refine HG.out.mono ?_
      rintro e w1 ⟨rfl, hTL, hK⟩
      have hlen := recP_len born n g seat mode now L Q
      have HF1 := Lib.hid (F0.out.real (N' := N + 1) hTL hK (recP_apart F0.out.ps.ap) (by omega) (by omega) (by omega))
      have cb1 := blk_cells HF1.out.bt
      have cs1 := blk_cells HF1.out.bs
      have lb1 := blk_lt HF1.out.bt
      have ls1 := blk_lt HF1.out.bs
      unfold ST.arr at cs1
      obtain ⟨p1, hp1⟩ : ∃ p, p = (recP born n g seat mode now L Q).1 := ⟨_, rfl⟩
      rw [← hp1]
      have HRG := Lib.hid (rreclaim_walk rb n g seat mode now A B ls qs c d w1 HF1.out.ps.sl HF1.out.ps.sq (by omega) (by omega))
      clear hTL hK hlen hp1 cb cs lb
      go_wp2_with fail
      refine HRG.out.mono ?_
      rintro e w2 ⟨K, kc, ks, M, mc, ms, b2, rfl, sk, sm, lk, lm, fk, fm, hb2⟩
      obtain ⟨w3, hw3⟩ : ∃ w3, w3 = w2.alloc (.cells #[.int .i64 rb, .slice K ks.length kc, .slice M ms.length mc] 29) := ⟨_, rfl⟩
      have hb3 : Below w1.heap.size w1 w3 := by rw [hw3]; exact hb2.alloc hb2.size _
      have x3 : w3.heap[w2.heap.size]? = some (.cells #[.int .i64 rb, .slice K ks.length kc, .slice M ms.length mc] 29 (0, 0)) := by rw [hw3]; exact blk_new w2 _
      have hb23 : Below w2.heap.size w2 w3 := by rw [hw3]; exact (Below.refl _ w2).alloc (Nat.le_refl _) _
      have cx3 := blk_cells x3
      have lx3 := blk_lt x3
      have y3 : w3.heap[w.heap.size]? = _ := (Keep.of_below (S := fun _ => False) hb3).blk HF1.out.bt id
      have cy3 := blk_cells y3
      have fy3 := blk_frees y3
      have ly3 := blk_lt y3
      obtain ⟨w4, hw4⟩ : ∃ w4, w4 = ((w3.setCell ⟨w.heap.size, 0, none⟩ (.int .i64 rb)).setCell ⟨w.heap.size, 1, none⟩ (.slice K ks.length kc)).setCell ⟨w.heap.size, 2, none⟩ (.slice M ms.length mc) := ⟨_, rfl⟩
      have k34 : Keep (fun i => i = w.heap.size) w3 w4 := by rw [hw4]; exact (((Keep.refl (fun i => i = w.heap.size) w3).setCell (fun _ => rfl) _).setCell (fun _ => rfl) _).setCell (fun _ => rfl) _
      have y4 : w4.heap[w.heap.size]? = some (.cells #[.int .i64 rb, .slice K ks.length kc, .slice M ms.length mc] 29 (0, 0)) := by rw [hw4]; exact blk_set (blk_set (blk_set y3 _) _) _
      obtain ⟨X4, hF4⟩ := HF1.out.turn (N' := N + 1) hb3 (sk.below hb23) (sm.below hb23) fk fm (by omega) (by omega) (Nat.le_refl _) hw4
      have HF4 := Lib.hid hF4
      have HW3 := Lib.hid hw3
      have HW4 := Lib.hid hw4
      clear sk sm fk fm hb2 hb3 hb23 x3 y3 y4 k34 hF4 hw3 hw4 cb1 cs1
      go_upto_region 11 with fail
      rw [← HW3.out]
      go_upto_region 12 with fail
      rw [← HW4.out]
      clear cx3 cy3 fy3
      go_wp2
      go_meet
      case rel => exact ⟨⟨_, rfl⟩, _, _, _, _, _, _, _, _, _, HF4.out⟩
    by_cases h2 : what = 2
    · subst h2
      have HG := Lib.hid (releaseX t born n g seat L Q X1 w0 F0.out.ps.tl F0.out.ps.lt)
      go_wp2_with fail
      refine HG.out.mono ?_
      rintro e w1 ⟨rfl, hTL, hK⟩
      have hlen := (relP_sub n g seat L).length_le
      have HF1 := Lib.hid (F0.out.real (N' := N + 1) hTL hK (relP_apart F0.out.ps.ap) (by omega) (by omega) (by omega))
      have cb1 := blk_cells HF1.out.bt
      have cs1 := blk_cells HF1.out.bs
      have lb1 := blk_lt HF1.out.bt
      have ls1 := blk_lt HF1.out.bs
      unfold ST.arr at cs1
      obtain ⟨p1, hp1⟩ : ∃ p, p = decide (0 ≤ idxP (mineP n g seat) L) := ⟨_, rfl⟩
      rw [← hp1]
      have HRG := Lib.hid (rrelease_walk rb n g seat A B ls c d qs.length w1 HF1.out.ps.sl (by omega))
      clear hTL hK hlen hp1 cb cs lb
      go_wp2_with fail
      refine HRG.out.mono ?_
      rintro e w2 ⟨K, kc, ks, b2, rfl, sk, lk, fk, hb2⟩
      obtain ⟨w3, hw3⟩ : ∃ w3, w3 = w2.alloc (.cells #[.int .i64 rb, .slice K ks.length kc, .slice B qs.length d] 29) := ⟨_, rfl⟩
      have hb3 : Below w1.heap.size w1 w3 := by rw [hw3]; exact hb2.alloc hb2.size _
      have x3 : w3.heap[w2.heap.size]? = some (.cells #[.int .i64 rb, .slice K ks.length kc, .slice B qs.length d] 29 (0, 0)) := by rw [hw3]; exact blk_new w2 _
      have hb23 : Below w2.heap.size w2 w3 := by rw [hw3]; exact (Below.refl _ w2).alloc (Nat.le_refl _) _
      have cx3 := blk_cells x3
      have lx3 := blk_lt x3
      have y3 : w3.heap[w.heap.size]? = _ := (Keep.of_below (S := fun _ => False) hb3).blk HF1.out.bt id
      have cy3 := blk_cells y3
      have fy3 := blk_frees y3
      have ly3 := blk_lt y3
      obtain ⟨w4, hw4⟩ : ∃ w4, w4 = ((w3.setCell ⟨w.heap.size, 0, none⟩ (.int .i64 rb)).setCell ⟨w.heap.size, 1, none⟩ (.slice K ks.length kc)).setCell ⟨w.heap.size, 2, none⟩ (.slice B qs.length d) := ⟨_, rfl⟩
      have k34 : Keep (fun i => i = w.heap.size) w3 w4 := by rw [hw4]; exact (((Keep.refl (fun i => i = w.heap.size) w3).setCell (fun _ => rfl) _).setCell (fun _ => rfl) _).setCell (fun _ => rfl) _
      have y4 : w4.heap[w.heap.size]? = some (.cells #[.int .i64 rb, .slice K ks.length kc, .slice B qs.length d] 29 (0, 0)) := by rw [hw4]; exact blk_set (blk_set (blk_set y3 _) _) _
      obtain ⟨X4, hF4⟩ := HF1.out.turn (N' := N + 1) hb3 (sk.below hb23) (HF1.out.ps.sq.below hb3) (fun k e => .inr (fk k e)) (fun k e => .inl ⟨e, rfl⟩) (by omega) (by omega) (Nat.le_refl _) hw4
      have HF4 := Lib.hid hF4
      have HW3 := Lib.hid hw3
      have HW4 := Lib.hid hw4
      clear sk fk hb2 hb3 hb23 x3 y3 y4 k34 hF4 hw3 hw4 cb1 cs1
      go_upto_region 16 with fail
      rw [← HW3.out]
      go_upto_region 17 with fail
      rw [← HW4.out]
      clear cx3 cy3 fy3
      go_wp2
      go_meet
      case rel => exact ⟨⟨_, rfl⟩, _, _, _, _, _, _, _, _, _, HF4.out⟩
    by_cases h3 : what = 3
    · subst h3
      have HG := Lib.hid (leaveX t born seat L Q X1 w0 F0.out.ps.tl F0.out.ps.lt)
      go_wp2_with fail
      refine HG.out.mono ?_
      rintro e w1 ⟨rfl, hTL, hK⟩
      have hlen : (leftP seat L).length ≤ L.length := List.length_filter_le _ _
      have hlen2 : (leftP seat Q).length ≤ Q.length := List.length_filter_le _ _
      have HF1 := Lib.hid (F0.out.real (N' := N + 1) hTL hK (leftP_apart F0.out.ps.ap) (by omega) (by omega) (by omega))
      have cb1 := blk_cells HF1.out.bt
      have cs1 := blk_cells HF1.out.bs
      have lb1 := blk_lt HF1.out.bt
      have ls1 := blk_lt HF1.out.bs
      unfold ST.arr at cs1
      have HRG := Lib.hid (rleave_walk rb seat A B ls qs c d w1 HF1.out.ps.sl HF1.out.ps.sq (by omega) (by omega))
      clear hTL hK hlen hlen2 cb cs lb
      go_wp2_with fail
      refine HRG.out.mono ?_
      rintro e w2 ⟨K, kc, ks, M, mc, ms, rfl, sk, sm, lk, lm, fk, fm, hb2⟩
      obtain ⟨w3, hw3⟩ : ∃ w3, w3 = w2 := ⟨_, rfl⟩
      have hb3 : Below w1.heap.size w1 w3 := by rw [hw3]; exact hb2
      have hb23 : Below w2.heap.size w2 w3 := by rw [hw3]; exact Below.refl _ _
      have y3 : w3.heap[w.heap.size]? = _ := (Keep.of_below (S := fun _ => False) hb3).blk HF1.out.bt id
      have cy3 := blk_cells y3
      have fy3 := blk_frees y3
      have ly3 := blk_lt y3
      obtain ⟨w4, hw4⟩ : ∃ w4, w4 = ((w3.setCell ⟨w.heap.size, 0, none⟩ (.int .i64 rb)).setCell ⟨w.heap.size, 1, none⟩ (.slice K ks.length kc)).setCell ⟨w.heap.size, 2, none⟩ (.slice M ms.length mc) := ⟨_, rfl⟩
      have k34 : Keep (fun i => i = w.heap.size) w3 w4 := by rw [hw4]; exact (((Keep.refl (fun i => i = w.heap.size) w3).setCell (fun _ => rfl) _).setCell (fun _ => rfl) _).setCell (fun _ => rfl) _
      have y4 : w4.heap[w.heap.size]? = some (.cells #[.int .i64 rb, .slice K ks.length kc, .slice M ms.length mc] 29 (0, 0)) := by rw [hw4]; exact blk_set (blk_set (blk_set y3 _) _) _
      obtain ⟨X4, hF4⟩ := HF1.out.turn (N' := N + 1) hb3 (sk.below hb23) (sm.below hb23) (fun k e => .inr (fk k e)) (fun k e => .inr (fm k e)) (by omega) (by omega) (Nat.le_refl _) hw4
      have HF4 := Lib.hid hF4
      subst hw3
      have HW4 := Lib.hid hw4
      clear sk sm fk fm hb2 hb3 hb23 y3 y4 k34 hF4 hw4 cb1 cs1
      go_wp2
      go_meet
      case rel => exact ⟨⟨_, rfl⟩, _, _, _, _, _, _, _, _, _, HW4.out ▸ HF4.out⟩
    by_cases h4 : what = 4
    · subst h4
      have HSV := Lib.hid (fun w' (k : Below w0.heap.size w0 w') => (⟨(k.cell (p := ⟨w.heap.size, 0, none⟩) lb).trans ((cb 0).trans rfl), (k.cell (p := ⟨w.heap.size, 1, none⟩) lb).trans ((cb 1).trans rfl), (k.cell (p := ⟨w.heap.size, 2, none⟩) lb).trans ((cb 2).trans rfl), (k.cell (p := ⟨w.heap.size + 1, 1, none⟩) ls2).trans ((cs 1).trans rfl), (k.cell (p := ⟨w.heap.size + 1, 2, none⟩) ls2).trans ((cs 2).trans rfl), (k.cell (p := ⟨w.heap.size + 1, 3, none⟩) ls2).trans ((cs 3).trans rfl), (k.cell (p := ⟨w.heap.size + 1, 4, none⟩) ls2).trans ((cs 4).trans rfl), (k.cell (p := ⟨w.heap.size + 1, 5, none⟩) ls2).trans ((cs 5).trans rfl)⟩ : w'.cell? ⟨w.heap.size, 0, none⟩ = some (.int .i64 rb) ∧ w'.cell? ⟨w.heap.size, 1, none⟩ = some (.slice A ls.length c) ∧ w'.cell? ⟨w.heap.size, 2, none⟩ = some (.slice B qs.length d) ∧ w'.cell? ⟨w.heap.size + 1, 1, none⟩ = some (.int .i64 seat) ∧ w'.cell? ⟨w.heap.size + 1, 2, none⟩ = some (.int .i64 mode) ∧ w'.cell? ⟨w.heap.size + 1, 3, none⟩ = some (.int .i64 now) ∧ w'.cell? ⟨w.heap.size + 1, 4, none⟩ = some (.int .i64 n) ∧ w'.cell? ⟨w.heap.size + 1, 5, none⟩ = some (.int .i64 g)))
      have HFB := Lib.hid (fun w' (k : Below w0.heap.size w0 w') => (F0.out.real (N' := N + 1) F0.out.ps.tl (Keep.refl _ _) F0.out.ps.ap (by omega) (by omega) (by omega)).below k)
      have HG := Lib.hid (fun w' (k : Below w0.heap.size w0 w') => hasX t born n g seat mode L Q X1 w' (F0.out.ps.tl.below k))
      have HR := Lib.hid (fun w' (k : Below w0.heap.size w0 w') => rhas_walk rb n g seat mode A B ls c d qs.length w' (F0.out.ps.sl.below k) (by omega))
      obtain ⟨p1, hp1⟩ : ∃ p, p = hasP n g seat mode L := ⟨_, rfl⟩
      rw [← hp1] at HG
      have K0 : Hid (Below w0.heap.size w0 w0.drew) := Lib.hid (Below.refl _ _).drew
      clear cb cs lb hn1 hn2 hn3 hn4 hN hp1 lsz
      go_upto_region 22 with fail
      go_region_held3 (fun w' => w'.cell? ⟨w.heap.size, 0, none⟩ = some (.int .i64 rb) ∧ w'.cell? ⟨w.heap.size, 1, none⟩ = some (.slice A ls.length c) ∧ w'.cell? ⟨w.heap.size, 2, none⟩ = some (.slice B qs.length d) ∧ w'.cell? ⟨w.heap.size + 1, 1, none⟩ = some (.int .i64 seat) ∧ w'.cell? ⟨w.heap.size + 1, 2, none⟩ = some (.int .i64 mode) ∧ w'.cell? ⟨w.heap.size + 1, 3, none⟩ = some (.int .i64 now) ∧ w'.cell? ⟨w.heap.size + 1, 4, none⟩ = some (.int .i64 n) ∧ w'.cell? ⟨w.heap.size + 1, 5, none⟩ = some (.int .i64 g)) (first | exact HSV.out _ KB.out | exact HSV.out _ KA.out | exact HSV.out _ K0.out)
        (first
          | (go_at_call 11; (first | (with_reducible refine (HG.out _ KB.out).mono ?_) | (with_reducible refine (HG.out _ K0.out).mono ?_)); (rintro e wA ⟨rfl, hA⟩); first | have KA := Lib.hid (bstep KB.out hA) | have KA := Lib.hid (bstep K0.out hA))
          | (go_at_call 22; (first | (with_reducible refine (HR.out _ KA.out).mono ?_) | (with_reducible refine (HR.out _ K0.out).mono ?_)); (rintro e wB ⟨⟨bB, rfl⟩, hB⟩); first | have KB := Lib.hid (bstep KA.out hB) | have KB := Lib.hid (bstep K0.out hB)))
      all_goals
        go_wp2_with fail
        go_meet
        case rel => exact ⟨⟨_, rfl⟩, _, _, _, _, _, _, _, _, _, by first | exact HFB.out _ (bstep KA.out (bstep KB.out (Below.refl _ _))) | exact HFB.out _ KA.out | exact HFB.out _ KB.out⟩
    by_cases h5 : what = 5
    · subst h5
      have HG := Lib.hid (clearX t born n g seat mode now L Q X1 w0 F0.out.ps.tl)
      go_wp2_with fail
      refine HG.out.mono ?_
      rintro e w1 ⟨O, oc, rfl, hO, hTL, hK⟩
      have hlen := clrP_len n g seat mode now L
      have HF1 := Lib.hid (F0.out.real (N' := N + 1) hTL hK (clrP_apart F0.out.ps.ap) (by omega) (by omega) (by omega))
      have HOS := Lib.hid (Sl.of_own hO)
      have hol : (clrP n g seat mode now L).1.length ≤ 1000000 := by omega
      have cb1 := blk_cells HF1.out.bt
      have cs1 := blk_cells HF1.out.bs
      have lb1 := blk_lt HF1.out.bt
      have ls1 := blk_lt HF1.out.bs
      unfold ST.arr at cs1
      obtain ⟨o1, ho1⟩ : ∃ o, o = (clrP n g seat mode now L).1 := ⟨_, rfl⟩
      rw [← ho1] at HOS hol
      rw [← ho1]
      have HRG := Lib.hid (rclear_walk rb n g seat mode now A B ls qs c d w1 HF1.out.ps.sl HF1.out.ps.sq (by omega) (by omega))
      clear hO hTL hK hlen ho1 cb cs lb
      go_wp2_with fail
      refine HRG.out.mono ?_
      rintro e w2 ⟨K, kc, ks, O2, oc2, os2, rfl, sk, so, lk, lo, fk, hb2⟩
      obtain ⟨w3, hw3⟩ : ∃ w3, w3 = w2.alloc (.cells #[.int .i64 rb, .slice K ks.length kc, .slice B qs.length d] 29) := ⟨_, rfl⟩
      have hb3 : Below w1.heap.size w1 w3 := by rw [hw3]; exact hb2.alloc hb2.size _
      have x3 : w3.heap[w2.heap.size]? = some (.cells #[.int .i64 rb, .slice K ks.length kc, .slice B qs.length d] 29 (0, 0)) := by rw [hw3]; exact blk_new w2 _
      have hb23 : Below w2.heap.size w2 w3 := by rw [hw3]; exact (Below.refl _ w2).alloc (Nat.le_refl _) _
      have cx3 := blk_cells x3
      have lx3 := blk_lt x3
      have y3 : w3.heap[w.heap.size]? = _ := (Keep.of_below (S := fun _ => False) hb3).blk HF1.out.bt id
      have cy3 := blk_cells y3
      have fy3 := blk_frees y3
      have ly3 := blk_lt y3
      obtain ⟨w4, hw4⟩ : ∃ w4, w4 = ((w3.setCell ⟨w.heap.size, 0, none⟩ (.int .i64 rb)).setCell ⟨w.heap.size, 1, none⟩ (.slice K ks.length kc)).setCell ⟨w.heap.size, 2, none⟩ (.slice B qs.length d) := ⟨_, rfl⟩
      have k34 : Keep (fun i => i = w.heap.size) w3 w4 := by rw [hw4]; exact (((Keep.refl (fun i => i = w.heap.size) w3).setCell (fun _ => rfl) _).setCell (fun _ => rfl) _).setCell (fun _ => rfl) _
      have y4 : w4.heap[w.heap.size]? = some (.cells #[.int .i64 rb, .slice K ks.length kc, .slice B qs.length d] 29 (0, 0)) := by rw [hw4]; exact blk_set (blk_set (blk_set y3 _) _) _
      obtain ⟨X4, hF4⟩ := HF1.out.turn (N' := N + 1) hb3 (sk.below hb23) (HF1.out.ps.sq.below hb3) fk (fun k e => .inl ⟨e, rfl⟩) (by omega) (by omega) (Nat.le_refl _) hw4
      have HF4 := Lib.hid hF4
      have HI := Lib.hid (rints_walk O O2 o1 os2 oc oc2 w4 (sl_turn (by simp) (by simp) y3 y4 k34 (HOS.out.below hb3)) (sl_turn (by simp) (by simp) y3 y4 k34 (so.below hb23)) (by omega))
      have HW3 := Lib.hid hw3
      have HW4 := Lib.hid hw4
      clear sk so fk hb2 hb3 hb23 x3 y3 y4 k34 hF4 hw3 hw4 cb1 cs1
      go_upto_region 26 with fail
      rw [← HW3.out]
      go_upto_region 27 with fail
      rw [← HW4.out]
      clear cx3 cy3 fy3
      go_wp2_with fail
      refine HI.out.mono ?_
      rintro e w5 ⟨⟨b5, rfl⟩, hb5⟩
      have HF5 := Lib.hid (HF4.out.below hb5)
      clear hb5
      go_wp2
      go_meet
      case rel => exact ⟨⟨_, rfl⟩, _, _, _, _, _, _, _, _, _, HF5.out⟩
    have HF4 := Lib.hid (F0.out.real (N' := N + 1) F0.out.ps.tl (Keep.refl _ _) F0.out.ps.ap (by omega) (by omega) (by omega))
    go_wp2
    go_meet
    case rel => exact ⟨⟨_, rfl⟩, _, _, _, _, _, _, _, _, _, HF4.out⟩
  case rest =>
    obtain ⟨⟨b8, rfl⟩, L8, Q8, A8, c8, ls8, B8, d8, qs8, X8, hF8⟩ := hcut
    obtain ⟨W, rfl⟩ : ∃ W : World, W = wc := ⟨_, rfl⟩
    have F8 := Lib.hid hF8
    have cb8 := blk_cells hF8.bt
    have cs8 := blk_cells hF8.bs
    have lb8 := blk_lt hF8.bt
    have ls8b := blk_lt hF8.bs
    clear hF8 cb cs lb
    have lr8 := blk_lt F8.out.br
    have h8a := F8.out.ps.n1
    have h8b := F8.out.ps.n3
    have h8c := F8.out.ps.n2
    unfold ST.arr at cs8
    dsimp only at cs8
    have HSV := Lib.hid (fun w' (k : Keep (fun i => i = w.heap.size + 1 + 1) W w') => (⟨(k.cell (a := ⟨w.heap.size, 0, none⟩) ((cb8 0).trans rfl) (by dsimp only; omega)), (k.cell (a := ⟨w.heap.size, 1, none⟩) ((cb8 1).trans rfl) (by dsimp only; omega)), (k.cell (a := ⟨w.heap.size, 2, none⟩) ((cb8 2).trans rfl) (by dsimp only; omega)), (k.cell (a := ⟨w.heap.size + 1, 3, none⟩) ((cs8 3).trans rfl) (by dsimp only; omega))⟩ : w'.cell? ⟨w.heap.size, 0, none⟩ = some (.int .i64 rb) ∧ w'.cell? ⟨w.heap.size, 1, none⟩ = some (.slice A8 ls8.length c8) ∧ w'.cell? ⟨w.heap.size, 2, none⟩ = some (.slice B8 qs8.length d8) ∧ w'.cell? ⟨w.heap.size + 1, 3, none⟩ = some (.int .i64 now)))
    have HSV2 := Lib.hid (fun w' (k : Below W.heap.size W w') => HSV.out (((w'.setCell ⟨w.heap.size + 1 + 1, 0, none⟩ (.int .i64 rb)).setCell ⟨w.heap.size + 1 + 1, 1, none⟩ (.slice A8 ls8.length c8)).setCell ⟨w.heap.size + 1 + 1, 2, none⟩ (.slice B8 qs8.length d8)) (((Keep.setCell (Keep.setCell (Keep.setCell (Keep.of_below (S := fun i => i = w.heap.size + 1 + 1) k) (fun _ => rfl) _) (fun _ => rfl) _) (fun _ => rfl) _))))
    have HBR := Lib.hid (fun w' (k : Below W.heap.size W w') => (Keep.of_below (S := fun _ => False) k).blk F8.out.br id)
    have HFN := Lib.hid (fun w' (k : Below W.heap.size W w') => (F8.out.below k).fin rfl)
    have HLI := Lib.hid (fun w' (k : Below W.heap.size W w') => listX t born L8 Q8 X8 w' (F8.out.ps.tl.below k))
    have HSM := Lib.hid (fun w' (k : Below W.heap.size W w') A' (s : Sl w' 5 (.slice A' L8.length L8.length) L8.length (flat L8)) => rsameD_walk A' A8 L8 ls8 L8.length c8 w' s (F8.out.ps.sl.below k) (by omega))
    have HGR := Lib.hid (fun w' (k : Below W.heap.size W w') => graceX t born now L8 Q8 X8 w' (F8.out.ps.tl.below k))
    have HRG := Lib.hid (fun w' => rgrace_walk rb now (.slice A8 ls8.length c8) (.slice B8 qs8.length d8) ⟨_, _, _, rfl⟩ ⟨_, _, _, rfl⟩ w')
    obtain ⟨pg, hpg⟩ : ∃ p, p = !pastP born now 25 := ⟨_, rfl⟩
    rw [← hpg] at HGR
    have K0 : Hid (Below W.heap.size W W.drew) := Lib.hid (Below.refl _ _).drew
    have R0 := blk_cells (HBR.out _ K0.out)
    have R0f := blk_frees (HBR.out _ K0.out)
    unfold ZT at R0
    clear cs8 hpg h8a h8b h8c ls2 lsz hn1 hn2 hn3 hn4 hN
    go_upto_region 28 with fail
    go_cut [7] (fun v wx => (∃ b, v = .bool b) ∧ PFin w X0 t born rb L8 Q8 A8 c8 ls8 B8 d8 qs8 X8 (N + 1) wx)
    case first =>
      cases b8 with
      | false =>
        have R1 := blk_cells F8.out.br
        have R1f := blk_frees F8.out.br
        unfold ZT at R1
        clear R0 R0f
        go_region
        go_wp2_with fail
        go_meet
        case rel => exact ⟨⟨_, rfl⟩, HFN.out _ K0.out⟩
      | true =>
        cases hq : decide (L8 = ls8) with
        | false =>
          rw [hq] at HSM
          have HBT := Lib.hid (fun w' (k : Below W.heap.size W w') => (Keep.of_below (S := fun _ => False) k).blk F8.out.bt id)
          have C0 := blk_cells (HBT.out _ K0.out)
          clear hq HGR HRG R0 R0f
          refine wp_region_held_drew (S := fun w' => w'.cell? ⟨w.heap.size, 0, none⟩ = some (.int .i64 rb) ∧ w'.cell? ⟨w.heap.size, 1, none⟩ = some (.slice A8 ls8.length c8) ∧ w'.cell? ⟨w.heap.size, 2, none⟩ = some (.slice B8 qs8.length d8) ∧ w'.cell? ⟨w.heap.size + 1, 3, none⟩ = some (.int .i64 now)) (by kernel_rfl) ?_ (fun hHeld => ?_)
          · exact HSV.out _ (Keep.of_below K0.out)
          refine wpAnyH_take (i := 0) (oi := ?oi0) (v := ?v0) ?hi0 (by kernel_rfl) (by kernel_rfl) (by kernel_rfl) ?hQ0 ?hy0 (by assumption) ?rest0
          case hi0 => (simp only [List.getElem?_toArray, List.getElem?_cons_succ, List.getElem?_cons_zero]; rfl)
          case hy0 => (refine Or.inl ⟨by rfl, ?_⟩; intro w hSw; (try dsimp only at hSw); go_simp; try with_reducible rfl)
          case hQ0 => exact fun _ _ _ h => h
          case' rest0 => try simp only [Act.put, List.setIfInBounds_toArray, List.set_cons_zero, List.set_cons_succ]
          refine wpAnyH_take (i := 1) (oi := ?oi1) (v := ?v1) ?hi1 (by kernel_rfl) (by kernel_rfl) (by kernel_rfl) ?hQ1 ?hy1 (by assumption) ?rest1
          case hi1 => (simp only [List.getElem?_toArray, List.getElem?_cons_succ, List.getElem?_cons_zero]; rfl)
          case hy1 => (refine Or.inl ⟨by rfl, ?_⟩; intro w hSw; (try dsimp only at hSw); go_simp; try with_reducible rfl)
          case hQ1 => exact fun _ _ _ h => h
          case' rest1 => try simp only [Act.put, List.setIfInBounds_toArray, List.set_cons_zero, List.set_cons_succ]
          refine wpAnyH_take (i := 2) (oi := ?oi2) (v := ?v2) ?hi2 (by kernel_rfl) (by kernel_rfl) (by kernel_rfl) ?hQ2 ?hy2 (by assumption) ?rest2
          case hi2 => (simp only [List.getElem?_toArray, List.getElem?_cons_succ, List.getElem?_cons_zero]; rfl)
          case hy2 => (refine Or.inl ⟨by rfl, ?_⟩; intro w hSw; (try dsimp only at hSw); go_simp; try with_reducible rfl)
          case hQ2 => exact fun _ _ _ h => h
          case' rest2 => try simp only [Act.put, List.setIfInBounds_toArray, List.set_cons_zero, List.set_cons_succ]
          refine wpAnyH_take (i := 3) (oi := ?oi3) (v := ?v3) ?hi3 (by kernel_rfl) (by kernel_rfl) (by kernel_rfl) ?hQ3 ?hy3 (by assumption) ?rest3
          case hi3 => (simp only [List.getElem?_toArray, List.getElem?_cons_succ, List.getElem?_cons_zero]; rfl)
          case hy3 => (refine Or.inl ⟨by rfl, ?_⟩; intro w hSw; (try dsimp only at hSw); go_simp; try with_reducible rfl)
          case hQ3 => exact fun _ _ _ h => h
          case' rest3 => try simp only [Act.put, List.setIfInBounds_toArray, List.set_cons_zero, List.set_cons_succ]
          refine wpAnyH_take (i := 5) (oi := ?oi5) (v := ?v5) ?hi5 (by kernel_rfl) (by kernel_rfl) (by kernel_rfl) ?hQ5 ?hy5 (by assumption) ?rest5
          case hi5 => (simp only [List.getElem?_toArray, List.getElem?_cons_succ, List.getElem?_cons_zero]; rfl)
          case hy5 => (refine Or.inl ⟨by rfl, ?_⟩; intro w hSw; (try dsimp only at hSw); go_simp; try with_reducible rfl)
          case hQ5 => exact fun _ _ _ h => h
          case' rest5 => try simp only [Act.put, List.setIfInBounds_toArray, List.set_cons_zero, List.set_cons_succ]
          refine wpAnyH_take (i := 6) (oi := ?oi6) (v := ?v6) ?hi6 (by kernel_rfl) (by kernel_rfl) (by kernel_rfl) ?hQ6 ?hy6 (by assumption) ?rest6
          case hi6 => (simp only [List.getElem?_toArray, List.getElem?_cons_succ, List.getElem?_cons_zero]; rfl)
          case hy6 => (refine Or.inl ⟨by rfl, ?_⟩; intro w hSw; (try dsimp only at hSw); go_simp; try with_reducible rfl)
          case hQ6 => exact fun _ _ _ h => h
          case' rest6 => try simp only [Act.put, List.setIfInBounds_toArray, List.set_cons_zero, List.set_cons_succ]
          refine wpAnyH_ready (rs := [4]) (by kernel_rfl) (by simp) ?_
          refine AllReadyH.cons (o := ?o4) ?ho4 (fun K hK => ?st4) AllReadyH.nil
          case ho4 => (simp only [List.getElem?_toArray, List.getElem?_cons_succ, List.getElem?_cons_zero]; rfl)
          go_simp
          ((go_at_call 8; (with_reducible refine (HLI.out _ K0.out).mono ?_); (rintro e wA ⟨AL, rfl, hSL, hA⟩); have KA := Lib.hid (bstep K0.out hA); have SLL := Lib.hid hSL; clear hSL hA))
          go_wp2_with fail
          refine hK.out _ _ ?_ (fun hHeld => ?_)
          · exact HSV.out _ (Keep.of_below KA.out)
          clear hK K
          try simp only [Act.put, List.setIfInBounds_toArray, List.set_cons_zero, List.set_cons_succ]
          refine wpAnyH_ready (rs := [7]) (by kernel_rfl) (by simp) ?_
          refine AllReadyH.cons (o := ?o7) ?ho7 (fun K hK => ?st7) AllReadyH.nil
          case ho7 => (simp only [List.getElem?_toArray, List.getElem?_cons_succ, List.getElem?_cons_zero]; rfl)
          go_simp
          ((go_at_call 25; (with_reducible refine (HSM.out _ KA.out _ SLL.out).mono ?_); (rintro e wB ⟨rfl, hB⟩); have KB := Lib.hid (bstep KA.out hB); have RB := blk_cells (HBR.out _ KB.out); have RBf := blk_frees (HBR.out _ KB.out); unfold ZT at RB; have RBl := blk_lt (HBR.out _ KB.out); clear hB))
          go_wp2_with fail
          refine hK.out _ _ ?_ (fun hHeld => ?_)
          · exact HSV.out _ (Keep.of_below KB.out)
          clear hK K
          try simp only [Act.put, List.setIfInBounds_toArray, List.set_cons_zero, List.set_cons_succ]
          refine wpAnyH_take (i := 8) (oi := ?oi8) (v := ?v8) ?hi8 (by kernel_rfl) (by kernel_rfl) (by kernel_rfl) ?hQ8 ?hy8 (by assumption) ?rest8
          case hi8 => (simp only [List.getElem?_toArray, List.getElem?_cons_succ, List.getElem?_cons_zero]; rfl)
          case hy8 => (refine Or.inl ⟨by rfl, ?_⟩; intro w hSw; (try dsimp only at hSw); go_simp; try with_reducible rfl)
          case hQ8 => exact fun _ _ _ h => h
          case' rest8 => try simp only [Act.put, List.setIfInBounds_toArray, List.set_cons_zero, List.set_cons_succ]
          refine wpAnyH_take (i := 9) (oi := ?oi9) (v := ?v9) ?hi9 (by kernel_rfl) (by kernel_rfl) (by kernel_rfl) ?hQ9 ?hy9 (by assumption) ?rest9
          case hi9 => (simp only [List.getElem?_toArray, List.getElem?_cons_succ, List.getElem?_cons_zero]; rfl)
          case hy9 => (refine Or.inl ⟨by rfl, ?_⟩; intro w hSw; (try dsimp only at hSw); go_simp; try with_reducible rfl)
          case hQ9 => exact fun _ _ _ h => h
          case' rest9 => try simp only [Act.put, List.setIfInBounds_toArray, List.set_cons_zero, List.set_cons_succ]
          refine wpAnyH_take (i := 10) (oi := ?oi10) (v := undef) ?hi10 (by kernel_rfl) (by kernel_rfl) (by kernel_rfl) ?hQ10 ?hy10 (by assumption) ?rest10
          case hi10 => (simp only [List.getElem?_toArray, List.getElem?_cons_succ, List.getElem?_cons_zero]; rfl)
          case hy10 => exact Or.inr ⟨by rfl, rfl⟩
          case hQ10 => exact fun _ _ _ h => h
          case' rest10 => try simp only [Act.put, List.setIfInBounds_toArray, List.set_cons_zero, List.set_cons_succ]
          refine wpAnyH_take (i := 11) (oi := ?oi11) (v := undef) ?hi11 (by kernel_rfl) (by kernel_rfl) (by kernel_rfl) ?hQ11 ?hy11 (by assumption) ?rest11
          case hi11 => (simp only [List.getElem?_toArray, List.getElem?_cons_succ, List.getElem?_cons_zero]; rfl)
          case hy11 => exact Or.inr ⟨by rfl, rfl⟩
          case hQ11 => exact fun _ _ _ h => h
          case' rest11 => try simp only [Act.put, List.setIfInBounds_toArray, List.set_cons_zero, List.set_cons_succ]
          refine wpAnyH_take (i := 12) (oi := ?oi12) (v := undef) ?hi12 (by kernel_rfl) (by kernel_rfl) (by kernel_rfl) ?hQ12 ?hy12 (by assumption) ?rest12
          case hi12 => (simp only [List.getElem?_toArray, List.getElem?_cons_succ, List.getElem?_cons_zero]; rfl)
          case hy12 => exact Or.inr ⟨by rfl, rfl⟩
          case hQ12 => exact fun _ _ _ h => h
          case' rest12 => try simp only [Act.put, List.setIfInBounds_toArray, List.set_cons_zero, List.set_cons_succ]
          refine wpAnyH_take (i := 13) (oi := ?oi13) (v := undef) ?hi13 (by kernel_rfl) (by kernel_rfl) (by kernel_rfl) ?hQ13 ?hy13 (by assumption) ?rest13
          case hi13 => (simp only [List.getElem?_toArray, List.getElem?_cons_succ, List.getElem?_cons_zero]; rfl)
          case hy13 => exact Or.inr ⟨by rfl, rfl⟩
          case hQ13 => exact fun _ _ _ h => h
          case' rest13 => try simp only [Act.put, List.setIfInBounds_toArray, List.set_cons_zero, List.set_cons_succ]
          refine wpAnyH_take (i := 14) (oi := ?oi14) (v := undef) ?hi14 (by kernel_rfl) (by kernel_rfl) (by kernel_rfl) ?hQ14 ?hy14 (by assumption) ?rest14
          case hi14 => (simp only [List.getElem?_toArray, List.getElem?_cons_succ, List.getElem?_cons_zero]; rfl)
          case hy14 => exact Or.inr ⟨by rfl, rfl⟩
          case hQ14 => exact fun _ _ _ h => h
          case' rest14 => try simp only [Act.put, List.setIfInBounds_toArray, List.set_cons_zero, List.set_cons_succ]
          refine wpAnyH_take (i := 15) (oi := ?oi15) (v := undef) ?hi15 (by kernel_rfl) (by kernel_rfl) (by kernel_rfl) ?hQ15 ?hy15 (by assumption) ?rest15
          case hi15 => (simp only [List.getElem?_toArray, List.getElem?_cons_succ, List.getElem?_cons_zero]; rfl)
          case hy15 => exact Or.inr ⟨by rfl, rfl⟩
          case hQ15 => exact fun _ _ _ h => h
          case' rest15 => try simp only [Act.put, List.setIfInBounds_toArray, List.set_cons_zero, List.set_cons_succ]
          refine wpAnyH_take (i := 16) (oi := ?oi16) (v := undef) ?hi16 (by kernel_rfl) (by kernel_rfl) (by kernel_rfl) ?hQ16 ?hy16 (by assumption) ?rest16
          case hi16 => (simp only [List.getElem?_toArray, List.getElem?_cons_succ, List.getElem?_cons_zero]; rfl)
          case hy16 => exact Or.inr ⟨by rfl, rfl⟩
          case hQ16 => exact fun _ _ _ h => h
          case' rest16 => try simp only [Act.put, List.setIfInBounds_toArray, List.set_cons_zero, List.set_cons_succ]
          refine wpAnyH_take (i := 17) (oi := ?oi17) (v := undef) ?hi17 (by kernel_rfl) (by kernel_rfl) (by kernel_rfl) ?hQ17 ?hy17 (by assumption) ?rest17
          case hi17 => (simp only [List.getElem?_toArray, List.getElem?_cons_succ, List.getElem?_cons_zero]; rfl)
          case hy17 => exact Or.inr ⟨by rfl, rfl⟩
          case hQ17 => exact fun _ _ _ h => h
          case' rest17 => try simp only [Act.put, List.setIfInBounds_toArray, List.set_cons_zero, List.set_cons_succ]
          refine wpAnyH_take (i := 18) (oi := ?oi18) (v := undef) ?hi18 (by kernel_rfl) (by kernel_rfl) (by kernel_rfl) ?hQ18 ?hy18 (by assumption) ?rest18
          case hi18 => (simp only [List.getElem?_toArray, List.getElem?_cons_succ, List.getElem?_cons_zero]; rfl)
          case hy18 => exact Or.inr ⟨by rfl, rfl⟩
          case hQ18 => exact fun _ _ _ h => h
          case' rest18 => try simp only [Act.put, List.setIfInBounds_toArray, List.set_cons_zero, List.set_cons_succ]
          refine wpAnyH_take (i := 19) (oi := ?oi19) (v := ?v19) ?hi19 (by kernel_rfl) (by kernel_rfl) (by kernel_rfl) ?hQ19 ?hy19 (by assumption) ?rest19
          case hi19 => (simp only [List.getElem?_toArray, List.getElem?_cons_succ, List.getElem?_cons_zero]; rfl)
          case hy19 => (refine Or.inl ⟨by rfl, ?_⟩; intro w hSw; (try dsimp only at hSw); go_simp; try with_reducible rfl)
          case hQ19 => exact fun _ _ _ h => h
          case' rest19 => try simp only [Act.put, List.setIfInBounds_toArray, List.set_cons_zero, List.set_cons_succ]
          refine wpAnyH_ready (rs := [20]) (by kernel_rfl) (by simp) ?_
          refine AllReadyH.cons (o := ?o20) ?ho20 (fun K hK => ?st20) AllReadyH.nil
          case ho20 => (simp only [List.getElem?_toArray, List.getElem?_cons_succ, List.getElem?_cons_zero]; rfl)
          go_simp
          refine hK.out _ _ ?_ (fun hHeld => ?_)
          · exact HSV2.out _ KB.out
          clear hK K
          try simp only [Act.put, List.setIfInBounds_toArray, List.set_cons_zero, List.set_cons_succ]
          refine wpAnyH_take (i := 21) (oi := ?oi21) (v := ?v21) ?hi21 (by kernel_rfl) (by kernel_rfl) (by kernel_rfl) ?hQ21 ?hy21 (by assumption) ?rest21
          case hi21 => (simp only [List.getElem?_toArray, List.getElem?_cons_succ, List.getElem?_cons_zero]; rfl)
          case hy21 => (refine Or.inl ⟨by rfl, ?_⟩; intro w hSw; (try dsimp only at hSw); go_simp; try with_reducible rfl)
          case hQ21 => exact fun _ _ _ h => h
          case' rest21 => try simp only [Act.put, List.setIfInBounds_toArray, List.set_cons_zero, List.set_cons_succ]
          refine wpAnyH_done (by kernel_rfl) ?_ _
          go_wp2_with fail
          go_meet
          case rel => exact ⟨⟨_, rfl⟩, HFN.out _ KB.out⟩
        | true =>
          rw [hq] at HSM
          clear hq
          go_region_held3 (fun w' => w'.cell? ⟨w.heap.size, 0, none⟩ = some (.int .i64 rb) ∧ w'.cell? ⟨w.heap.size, 1, none⟩ = some (.slice A8 ls8.length c8) ∧ w'.cell? ⟨w.heap.size, 2, none⟩ = some (.slice B8 qs8.length d8) ∧ w'.cell? ⟨w.heap.size + 1, 3, none⟩ = some (.int .i64 now)) (first | exact HSV.out _ (Keep.of_below KD.out) | exact HSV.out _ (Keep.of_below KB.out) | exact HSV.out _ (Keep.of_below KA.out) | exact HSV.out _ (Keep.of_below K0.out) | exact HSV2.out _ KD.out | exact HSV2.out _ KB.out)
            (first
              | (go_at_call 8; (with_reducible refine (HLI.out _ K0.out).mono ?_); (rintro e wA ⟨AL, rfl, hSL, hA⟩); have KA := Lib.hid (bstep K0.out hA); have SLL := Lib.hid hSL; clear hSL hA)
              | (go_at_call 25; (with_reducible refine (HSM.out _ KA.out _ SLL.out).mono ?_); (rintro e wB ⟨rfl, hB⟩); have KB := Lib.hid (bstep KA.out hB); have RB := blk_cells (HBR.out _ KB.out); have RBf := blk_frees (HBR.out _ KB.out); unfold ZT at RB; have RBl := blk_lt (HBR.out _ KB.out); clear hB)
              | (go_at_call 12; (with_reducible refine (HGR.out _ KB.out).mono ?_); (rintro e wC ⟨rfl, hC⟩); have hC2 := hC.symm; clear hC; subst hC2)
              | (go_at_call 26; (with_reducible refine (HRG.out _).mono ?_); (rintro e wD ⟨⟨bD, rfl⟩, hD⟩); have KD := Lib.hid (bstep KB.out hD); have RD := blk_cells (HBR.out _ KD.out); have RDf := blk_frees (HBR.out _ KD.out); unfold ZT at RD; have RDl := blk_lt (HBR.out _ KD.out); clear hD))
          all_goals
            go_wp2_with fail
            go_meet
            case rel => exact ⟨⟨_, rfl⟩, by first | exact HFN.out _ KD.out | exact HFN.out _ KB.out⟩
    case rest =>
      obtain ⟨⟨b7, rfl⟩, hps, hbr, hsup, hkp⟩ := hcut
      have e0 := blk_cells hbr 0
      have e1 := blk_cells hbr 1
      have e2 := blk_cells hbr 2
      have HF : Hid (PlayEnd w X0 t born rb N (.returned (.tuple #[.agg #[.int .i64 rb, .slice A8 ls8.length c8, .slice B8 qs8.length d8], .bool b7])) wc) := Lib.hid ⟨_, _, _, _, _, _, _, _, _, _, rfl, hps, hsup, hkp⟩
      clear hps hbr hsup hkp
      go_wp2
      refine bodyPost_ret (by simp [results, Try.results7, go_sem, e0, e1, e2]; try rfl) rfl ?_
      exact HF.out
end Go.Proofs.Ytmfgkddndlleoaa
