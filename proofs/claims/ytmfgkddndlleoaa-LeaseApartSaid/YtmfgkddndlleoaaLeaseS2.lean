/- set: the walk. -/
import Derived.Test.YtmfgkddndlleoaaLeaseS
import Derived.Deep.RegionHeld3
import Derived.Deep.RegionLaw
import Derived.Deep.DrawnRows
set_option linter.unusedSimpArgs false
set_option linter.unusedVariables false
namespace Go.Proofs.Ytmfgkddndlleoaa
open Go.RowKit

theorem keep5 (w : World) (b a : Nat) (v0 v1 v2 v3 v4 : Value) : Keep (fun k => k = b) w (((((w.setCell ⟨b, a, none⟩ v0).setCell ⟨b, a + 1, none⟩ v1).setCell ⟨b, a + 2, none⟩ v2).setCell ⟨b, a + 3, none⟩ v3).setCell ⟨b, a + 4, none⟩ v4) :=
  (((((Keep.refl (fun k => k = b) w).setCell (fun _ => rfl) _).setCell (fun _ => rfl) _).setCell (fun _ => rfl) _).setCell (fun _ => rfl) _).setCell (fun _ => rfl) _
/-- How set ends. -/
def SetEnd (t : Nat) (born : Int) (L' Q' : List LE) (A B : Option Addr) (w : World) (e : Ending) (w' : World) : Prop := ∃ b, TabEnd t born L' Q' A B w (.bool b) e w'
attribute [local go_sem ↓] Go.wp_at_zero Go.wp_at_succ
set_option maxHeartbeats 8000000 in
theorem set_walk (t : Nat) (born n g s m now : Int) (L Q : List LE) (A B : Option Addr) (c d : Nat) (w : World) (h : Tab w t born L Q A B c d) (hf : L.length + Q.length < 1000000) :
    Calls Try.prog 36 #[.pointer (some ⟨t, 0, none⟩), .agg #[.int .i64 n, .int .i64 g], .int .i64 s, .int .i64 m, .int .i64 now] w (SetEnd t born (putP ⟨n, g, s, m, clockP now⟩ L) (Q.filter fun x => !mineP n g s x) A B w) := by
  have hc := blk_cells h.blk
  have ht := blk_lt h.blk
  have hrange := clock_range now
  have HCL := Lib.hid (clock_walk now)
  obtain ⟨cn, hcn⟩ : ∃ cn, clockP now = cn := ⟨_, rfl⟩
  rw [hcn] at hrange HCL ⊢
  have hdq := fun (w0 : World) (hb : Below w.heap.size w w0) (hs : w.heap.size + 2 ≤ w0.heap.size) (e0 : w0.cell? ⟨w.heap.size, 0, none⟩ = some (.int .i64 n)) (e1 : w0.cell? ⟨w.heap.size, 1, none⟩ = some (.int .i64 g)) (e2 : w0.cell? ⟨w.heap.size + 1, 0, none⟩ = some (.int .i64 s)) =>
    del_queue h hb 50 #[.pointer (some ⟨w.heap.size, 0, none⟩), .pointer (some ⟨w.heap.size + 1, 0, none⟩)] (mineP n g s) (enters_of Try.func50 (by kernel_rfl) rfl)
      (fun x _ W hk => set1_walk x w.heap.size (w.heap.size + 1) n g s W (hk.cell e0 (fun e => Nat.lt_irrefl _ (h.lt _ (.inr (.inr e))))) (hk.cell e1 (fun e => Nat.lt_irrefl _ (h.lt _ (.inr (.inr e))))) (hk.cell e2 (fun e => by have := h.lt _ (.inr (.inr e)); simp at this; omega)))
  have hnb : ∀ k, w.heap.size ≤ k → ¬ tabOwn t A B k := fun k hk e => by have := h.lt k e; omega
  have HX := Lib.hid hdq
  have HNB := Lib.hid hnb
  have hfq : (Q.filter fun x => !mineP n g s x).length ≤ Q.length := List.length_filter_le _ _
  clear hdq hcn hnb h
  go_enter Try.func36, Try.ntmps36
  go_wp2_with fail
  obtain ⟨x1, x2, x3, x4, x5⟩ := two_box w n g s 34 3
  refine (HX.out _ x1 x2 x3 x4 x5).mono ?_
  rintro e w1 ⟨rfl, hb1, hk1, hT2, hK2⟩
  have q0 : ∀ k, w.heap.size ≤ k → ¬ (B.map (·.block) = some k) := fun k hk e => HNB.out k hk (.inr (.inr e))
  have y3 := hk1.cell x3 (q0 _ (Nat.le_refl _))
  have y4 := hk1.cell x4 (q0 _ (Nat.le_refl _))
  have y5 := hk1.cell x5 (q0 _ (Nat.le_succ _))
  have ct := blk_cells hb1
  have ft := blk_frees hb1
  have lt1 := blk_lt hb1
  have kq : Keep (fun k => k = t) w1 (w1.setCell ⟨t, 2, none⟩ (.slice B (Q.filter fun x => !mineP n g s x).length d)) := (Keep.refl (fun k => k = t) w1).setCell (fun _ => rfl) _
  have c0 := kq.cell y3 (by show ¬ w.heap.size = t; omega)
  have c1 := kq.cell y4 (by show ¬ w.heap.size = t; omega)
  have c2 := kq.cell y5 (by show ¬ w.heap.size + 1 = t; omega)
  have ws := hK2.size
  clear x1 x2 x3 x4 x5 hb1 hk1 hc y3 y4 y5 kq q0
  obtain ⟨W2, hW2⟩ : ∃ W2, W2 = w1.setCell ⟨t, 2, none⟩ (.slice B (Q.filter fun x => !mineP n g s x).length d) := ⟨_, rfl⟩
  rw [← hW2] at hT2 hK2 c0 c1 c2 ws
  have HS := Lib.hid (fun w' (k : Keep (fun i => W2.heap.size ≤ i) W2 w') => (⟨k.cell c0 (fun e => by have := World.block_lt_of_cell? _ _ c0; exact absurd this (Nat.not_lt.2 e)), k.cell c1 (fun e => by have := World.block_lt_of_cell? _ _ c1; exact absurd this (Nat.not_lt.2 e)), k.cell c2 (fun e => by have := World.block_lt_of_cell? _ _ c2; exact absurd this (Nat.not_lt.2 e))⟩ : w'.cell? ⟨w.heap.size, 0, none⟩ = some (.int .i64 n) ∧ w'.cell? ⟨w.heap.size, 1, none⟩ = some (.int .i64 g) ∧ w'.cell? ⟨w.heap.size + 1, 0, none⟩ = some (.int .i64 s)))
  have HT2 := Lib.hid hT2
  have HK2 := Lib.hid hK2
  have HW2 := Lib.hid hW2
  clear hT2 hK2 hW2
  go_wp2
  rw [← HW2.out]
  clear ct ft
  go_region_held3 (fun w' => w'.cell? ⟨w.heap.size, 0, none⟩ = some (.int .i64 n) ∧ w'.cell? ⟨w.heap.size, 1, none⟩ = some (.int .i64 g) ∧ w'.cell? ⟨w.heap.size + 1, 0, none⟩ = some (.int .i64 s)) (first | exact HS.out _ (Keep.refl _ W2).drew | exact HS.out _ ((Keep.refl _ W2).drew.alloc _) | exact HS.out _ (((((((Keep.refl _ W2).drew.alloc _).setCell (fun _ => Nat.le_refl _) _).setCell (fun _ => Nat.le_refl _) _).setCell (fun _ => Nat.le_refl _) _).setCell (fun _ => Nat.le_refl _) _).setCell (fun _ => Nat.le_refl _) _)) (first | (go_at_call 9; refine (HCL.out _).mono ?_; rintro e w2 ⟨rfl, rfl⟩))
  all_goals
    obtain ⟨W3, hW3⟩ : ∃ W3, W3 = boxed W2 ⟨n, g, s, m, cn⟩ := ⟨_, rfl⟩
    have hbf := boxed_fact W2 ⟨n, g, s, m, cn⟩
    rw [← hW3] at hbf
    unfold boxed at hW3
    dsimp only at hW3 hbf
    rw [← hW3]
    obtain ⟨e1, e2, e3⟩ := hbf
    have d0 := (Keep.of_below (S := fun _ => False) e2).cell c0 id
    have d1 := (Keep.of_below (S := fun _ => False) e2).cell c1 id
    have d2 := (Keep.of_below (S := fun _ => False) e2).cell c2 id
    have T3 := HT2.out.keep (Keep.of_below (S := fun _ => False) e2) (fun _ _ h => h)
    have HP := Lib.hid (place_walk t born n g s L _ A B c d W3 T3)
    have E1 := Lib.hid e1
    have E2 := Lib.hid e2
    have HT3 := Lib.hid T3
    have lt3 := blk_lt T3.blk
    clear hW3 e1 e2 T3 c0 c1 c2
    go_wp2_with fail
    refine HP.out.mono ?_
    rintro e w4 ⟨rfl, hb4⟩
    have E4 := Lib.hid hb4
    have e4 := (Keep.of_below (S := fun _ => False) hb4).blk E1.out id
    have T4 := Lib.hid (HT3.out.keep (Keep.of_below (S := fun _ => False) hb4) (fun _ _ h => h))
    have bt := blk_cells T4.out.blk
    have ft := blk_frees T4.out.blk
    have lt4 := blk_lt T4.out.blk
    have bx := blk_cells e4
    have fx := blk_frees e4
    have lx := blk_lt e4
    have B4 := Lib.hid e4
    clear hb4 e4 d0 d1 d2
    rcases first_hit (mineP n g s) L with hno | ⟨k, x, hk, hp, hno⟩
    · rw [idxP_miss hno]
      have HW := Lib.hid (putP_miss (x := ⟨n, g, s, m, cn⟩) hno)
      clear hno
      have HS4 := Lib.hid (fun w' (k : Keep (fun i => i < W2.heap.size) w4 w') => (⟨k.cell ((bx 0).trans rfl) (Nat.lt_irrefl _), k.cell ((bx 1).trans rfl) (Nat.lt_irrefl _), k.cell ((bx 2).trans rfl) (Nat.lt_irrefl _), k.cell ((bx 3).trans rfl) (Nat.lt_irrefl _), k.cell ((bx 4).trans rfl) (Nat.lt_irrefl _)⟩ : w'.cell? ⟨W2.heap.size, 0, none⟩ = some (.int .i64 n) ∧ w'.cell? ⟨W2.heap.size, 1, none⟩ = some (.int .i64 g) ∧ w'.cell? ⟨W2.heap.size, 2, none⟩ = some (.int .i64 s) ∧ w'.cell? ⟨W2.heap.size, 3, none⟩ = some (.int .i64 m) ∧ w'.cell? ⟨W2.heap.size, 4, none⟩ = some (.int .i64 cn)))
      go_wp2
      clear HS4
      go_region_law (go_must (refine step_app (by rfl) eltL (by rfl) (by rfl) (by rfl) (T4.out.keep ((Keep.refl (fun _ => False) _).drew.alloc _) (fun _ _ h => h)).ownL (Sl.of_own (own_new w4.drew #[.int .i64 n, .int .i64 g, .int .i64 s, .int .i64 m, .int .i64 cn] 39 5 1 rfl (by decide))) (by simp [Value.oneCell']) (by omega) (by simp only [maxLen]; omega) ?_; intro v2 w5 g1 g2 g3 g4; obtain ⟨A2, dd2, rfl, _⟩ := Rd.of_own g1; have GG := TabEnd.moreL (e := ⟨n, g, s, m, cn⟩) (w1 := w4.drew) (.bool false) HT2.out (E2.out.trans (E4.out.mono E2.out.size)).drew (by omega) hrange g1 g2 (by first | exact g3 | simpa using g3); have cw2 := blk_cells GG.1; have fw2 := blk_frees GG.1; have lw2 := blk_lt GG.1; have G1 := Lib.hid GG.2; clear g1 g2 g3 g4 GG))
      all_goals
        go_wp2
        go_ret
        rw [HW.out]
        refine ⟨false, ?_⟩
        exact G1.out.after HK2.out (fun k h => .inl h)
    · rw [idxP_hit hk hp hno]
      have HW := Lib.hid (putP_hit (x := ⟨n, g, s, m, cn⟩) hk hp hno)
      have hkl : k < L.length := (List.getElem?_eq_some_iff.1 hk).1
      have b1 : (0 : Int) ≤ (k : Int) := by omega
      have b2 : (k : Int) < (L.length : Int) := by omega
      have b3 : ¬ (k : Int) < 0 := by omega
      obtain ⟨b, cc, e⟩ : ∃ b cc, Value.slice A L.length c = .slice (some ⟨b, 0, none⟩) L.length cc := by
        rcases T4.out.ownL.2 with ⟨e, h0⟩ | ⟨g, cap, cur, e, _⟩
        · omega
        · exact ⟨g, cap, e⟩
      injection e with e1 _ e3
      subst e1 e3
      obtain ⟨_, _, hbr, _, r0, r1, r2, r3, r4⟩ := flat_row (Sl.of_own T4.out.ownL) hk
      injection hbr with hbr
      injection hbr with hbr1 hbr2
      subst hbr1 hbr2
      rw [Nat.zero_add] at r0 r1 r2 r3 r4
      obtain ⟨cur, hcur, _⟩ := own_row T4.out.ownL
      have fb := blk_frees hcur
      have lb := blk_lt hcur
      have hbt : ¬ b = t := fun e => own_ne_blk T4.out.ownL T4.out.blk (by decide) (by rw [ownBlock_slice]; rfl) e
      have hb2 : b < W2.heap.size := HT2.out.lt b (.inr (.inl rfl))
      have hb3 : ¬ b = W2.heap.size := by omega
      have ht3 : ¬ t = W2.heap.size := by have := HT2.out.lt t (.inl rfl); omega
      have HK := Lib.hid hk
      clear hno hp hk hcur
      go_wp2
      obtain ⟨W5, hW5⟩ : ∃ W5, W5 = w4.setCell ⟨W2.heap.size, 3, none⟩ (.int .i64 (max m x.m)) := ⟨_, rfl⟩
      have K5 : Keep (fun i => W2.heap.size ≤ i) w4 W5 := by rw [hW5]; exact (Keep.refl (fun i => W2.heap.size ≤ i) w4).setCell (p := ⟨W2.heap.size, 3, none⟩) (fun _ => Nat.le_refl _) _
      have bx5 := blk_set (j := 3) B4.out (.int .i64 (max m x.m))
      rw [← hW5] at bx5 ⊢
      have T5 := Lib.hid (T4.out.keep K5 (fun i e h => by have := HT2.out.lt i e; omega))
      have ct5 := blk_cells T5.out.blk
      have cx5 := blk_cells bx5
      obtain ⟨cur, hcur, _⟩ := own_row T5.out.ownL
      have fb5 := blk_frees hcur
      obtain ⟨x0, x1, hbr, _, s0, s1, s2, s3, s4⟩ := flat_row (Sl.of_own T5.out.ownL) HK.out
      injection hbr with hbr
      injection hbr with hbr1 hbr2
      subst hbr1 hbr2
      rw [Nat.zero_add] at s0 s1 s2 s3 s4
      have HB5 := Lib.hid ((E2.out.trans (E4.out.mono E2.out.size)).trans (K5.below (fun i h => h) (Nat.le_of_lt (World.block_lt_of_cell? _ _ (show w4.cell? ⟨W2.heap.size, 0, none⟩ = some (.int .i64 n) from (bx 0).trans rfl)))))
      have HS5 := Lib.hid (fun w' (k : Keep (fun i => i = b) W5 w') => (⟨(k.cell (ct5 1) (fun e => hbt e.symm)).trans rfl, (k.cell (cx5 0) (fun e => hb3 e.symm)).trans rfl, (k.cell (cx5 1) (fun e => hb3 e.symm)).trans rfl, (k.cell (cx5 2) (fun e => hb3 e.symm)).trans rfl, (k.cell (cx5 3) (fun e => hb3 e.symm)).trans rfl, (k.cell (cx5 4) (fun e => hb3 e.symm)).trans rfl⟩ : w'.cell? ⟨t, 1, none⟩ = some (.slice (some ⟨b, 0, none⟩) L.length c) ∧ w'.cell? ⟨W2.heap.size, 0, none⟩ = some (.int .i64 n) ∧ w'.cell? ⟨W2.heap.size, 1, none⟩ = some (.int .i64 g) ∧ w'.cell? ⟨W2.heap.size, 2, none⟩ = some (.int .i64 s) ∧ w'.cell? ⟨W2.heap.size, 3, none⟩ = some (.int .i64 (max m x.m)) ∧ w'.cell? ⟨W2.heap.size, 4, none⟩ = some (.int .i64 cn)))
      clear hW5 K5 bx5 bx fx r0 r1 r2 r3 r4 fb ct5 cx5 hcur bt ft
      go_region_held3 (fun w' => w'.cell? ⟨t, 1, none⟩ = some (.slice (some ⟨b, 0, none⟩) L.length c) ∧ w'.cell? ⟨W2.heap.size, 0, none⟩ = some (.int .i64 n) ∧ w'.cell? ⟨W2.heap.size, 1, none⟩ = some (.int .i64 g) ∧ w'.cell? ⟨W2.heap.size, 2, none⟩ = some (.int .i64 s) ∧ w'.cell? ⟨W2.heap.size, 3, none⟩ = some (.int .i64 (max m x.m)) ∧ w'.cell? ⟨W2.heap.size, 4, none⟩ = some (.int .i64 cn)) (first | exact HS5.out _ (Keep.refl _ W5).drew | exact HS5.out _ (keep5 W5 b (k * 5) _ _ _ _ _).drew) (first | fail)
      all_goals
        go_wp2
        go_ret
        rw [HW.out]
        refine ⟨true, ?_⟩
        exact (TabEnd.sameL (.bool true) ⟨n, g, s, max m x.m, cn⟩ HT2.out HB5.out.drew hkl hrange).after HK2.out (fun k h => .inl h)
end Go.Proofs.Ytmfgkddndlleoaa
