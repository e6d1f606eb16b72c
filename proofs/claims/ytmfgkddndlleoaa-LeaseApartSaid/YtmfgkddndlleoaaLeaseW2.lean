/- wait: the walk. -/
import Derived.Test.YtmfgkddndlleoaaLeaseW
import Derived.Deep.RegionHeld3
import Derived.Deep.RegionLaw
import Derived.Deep.DrawnRows
set_option linter.unusedSimpArgs false
set_option linter.unusedVariables false
namespace Go.Proofs.Ytmfgkddndlleoaa
open Go.RowKit

attribute [local go_sem ↓] Go.wp_at_zero Go.wp_at_succ
/-- A waiter was turned in its place. -/
theorem TabEnd.sameQ {t b : Nat} {born : Int} {L Q : List LE} {A : Option Addr} {c d k : Nat} {w w1 : World} {x : LE} (n g s m v : Int) (h : Tab w t born L Q A (some ⟨b, 0, none⟩) c d) (hk : Below w.heap.size w w1) (hq : Q[k]? = some x) (e1 : x.n = n) (e2 : x.g = g) (e3 : x.s = s) (hv : 0 ≤ v ∧ v ≤ 1099511627776) :
    TabEnd t born L (Q.set k ⟨n, g, s, m, v⟩) A (some ⟨b, 0, none⟩) w (.tuple #[]) (.returned (.tuple #[])) ((w1.setCell ⟨b, k * 5 + 3, none⟩ (.int .i64 m)).setCell ⟨b, k * 5 + 4, none⟩ (.int .i64 v)) := by
  subst e1 e2 e3
  have k1 : Keep (fun k => k = b) w ((w1.setCell ⟨b, k * 5 + 3, none⟩ (.int .i64 m)).setCell ⟨b, k * 5 + 4, none⟩ (.int .i64 v)) := ((Keep.of_below (S := fun k => k = b) hk).setCell (fun _ => rfl) _).setCell (fun _ => rfl) _
  have o1 := own_put (j := k * 5 + 4) (own_put (j := k * 5 + 3) (own_keep h.ownQ (Keep.of_below (S := fun _ => False) hk) (fun _ _ h => h)) (.int .i64 m)) (.int .i64 v)
  rw [flat_set2 hq m v] at o1
  have hbt : ¬ t = b := fun e => own_ne_blk h.ownQ h.blk (by decide) (by rw [ownBlock_slice]; rfl) e.symm
  have hAB : ∀ k, A.map (·.block) = some k → ¬ k = b := fun k e1 e2 => own_ne h.ownL h.ownQ (by decide) (by rw [ownBlock_slice]; exact e1) (by rw [ownBlock_slice, e2]; rfl)
  have hlen : (Q.set k ⟨x.n, x.g, x.s, m, v⟩).length = Q.length := by simp
  refine ⟨rfl, A, some ⟨b, 0, none⟩, c, d, ⟨by rw [hlen]; exact k1.blk h.blk hbt, own_keep h.ownL k1 (fun k e => hAB k (by rw [ownBlock_slice] at e; exact e)), by rw [hlen]; exact o1, h.b0, h.b1, h.cl, ?_, by rw [hlen]; exact h.few⟩, k1.mono (fun i _ e => .inr (.inr (by rw [e]; rfl))), fun k hk => .inl hk⟩
  intro a ha
  obtain ⟨j, hj⟩ := List.mem_iff_getElem?.1 ha
  rw [List.getElem?_set] at hj
  split at hj
  · split at hj
    · injection hj with hj; rw [← hj]; exact hv
    · cases hj
  · exact h.cq a (List.mem_iff_getElem?.2 ⟨j, hj⟩)
set_option maxHeartbeats 20000000 in
theorem wait_walk (t : Nat) (born n g s m now : Int) (L Q : List LE) (A B : Option Addr) (c d : Nat) (w : World) (h : Tab w t born L Q A B c d) (hf : L.length + Q.length < 1000000) :
    Calls Try.prog 35 #[.pointer (some ⟨t, 0, none⟩), .agg #[.int .i64 n, .int .i64 g], .int .i64 s, .int .i64 m, .int .i64 now] w (TabEnd t born L (waitP ⟨n, g, s, m, clockP now⟩ Q) A B w (.tuple #[])) := by
  have hc := blk_cells h.blk
  have ht := blk_lt h.blk
  have HT := Lib.hid h
  have hrange := clock_range now
  have HCL := Lib.hid (clock_walk now)
  have HR := Lib.hid hrange
  obtain ⟨cn, hcn⟩ : ∃ cn, clockP now = cn := ⟨_, rfl⟩
  rw [hcn] at hrange HCL HR ⊢
  have hidx := fun (w' : World) (hb : Below w.heap.size w w') (hs : w.heap.size + 2 ≤ w'.heap.size) (e0 : w'.cell? ⟨w.heap.size, 0, none⟩ = some (.int .i64 n)) (e1 : w'.cell? ⟨w.heap.size, 1, none⟩ = some (.int .i64 g)) (e2 : w'.cell? ⟨w.heap.size + 1, 0, none⟩ = some (.int .i64 s)) =>
    idxW B d Q w' 49 #[.pointer (some ⟨w.heap.size, 0, none⟩), .pointer (some ⟨w.heap.size + 1, 0, none⟩)] (mineP n g s) (enters_of Try.func49 (by kernel_rfl) rfl)
      (fun M _ W => M = (fun _ => False) ∧ Below w'.heap.size w' W) (fun _ => False) ⟨rfl, Below.refl _ _⟩
      (fun W M done x _ hI => (wait1_walk x w.heap.size (w.heap.size + 1) n g s W ((hI.2.cell (p := ⟨w.heap.size, 0, none⟩) (show w.heap.size < w'.heap.size by omega)).trans e0) ((hI.2.cell (p := ⟨w.heap.size, 1, none⟩) (show w.heap.size < w'.heap.size by omega)).trans e1) ((hI.2.cell (p := ⟨w.heap.size + 1, 0, none⟩) (show w.heap.size + 1 < w'.heap.size by omega)).trans e2)).mono
        fun e W' hh => ⟨hh.1, ⟨fun _ => False, rfl, hI.2.trans (hh.2.mono hI.2.size)⟩, Keep.of_below hh.2⟩)
      (fun M done W hI => ((Sl.of_own h.ownQ).below hb).below hI.2) (by have := h.few; omega)
  have HX := Lib.hid hidx
  have HF := Lib.hid (first_hit (mineP n g s) Q)
  clear hidx h hcn
  go_enter Try.func35, Try.ntmps35
  go_wp2_with fail
  obtain ⟨x1, x2, x3, x4, x5⟩ := two_box w n g s 34 3
  refine (HX.out _ x1 x2 x3 x4 x5).mono ?_
  rintro e w1 ⟨rfl, M, hM, hb⟩
  have hb1 := x1.trans (hb.mono x1.size)
  have c0 := (hb.cell (p := ⟨w.heap.size, 0, none⟩) (show w.heap.size < _ by omega)).trans x3
  have c1 := (hb.cell (p := ⟨w.heap.size, 1, none⟩) (show w.heap.size < _ by omega)).trans x4
  have c2 := (hb.cell (p := ⟨w.heap.size + 1, 0, none⟩) (show w.heap.size + 1 < _ by omega)).trans x5
  have hT1 := HT.out.keep (Keep.of_below (S := fun _ => False) hb1) (fun _ _ h => h)
  have ct := blk_cells hT1.blk
  have ft := blk_frees hT1.blk
  have lt1 := blk_lt hT1.blk
  have HB := Lib.hid hb1
  have HT1 := Lib.hid hT1
  clear x1 x2 x3 x4 x5 hb hM hb1 hT1 hc
  rcases HF.out with hno | ⟨k, x, hk, hp, hno⟩
  · rw [idxP_miss hno]
    have HW := Lib.hid (waitP_miss (x := ⟨n, g, s, m, cn⟩) hno)
    clear hno HF
    have HS := Lib.hid (fun w' (k : Keep (fun i => i < w.heap.size) w1 w') => (⟨k.cell c0 (Nat.lt_irrefl _), k.cell c1 (Nat.lt_irrefl _), k.cell c2 (by show ¬ w.heap.size + 1 < w.heap.size; omega)⟩ : w'.cell? ⟨w.heap.size, 0, none⟩ = some (.int .i64 n) ∧ w'.cell? ⟨w.heap.size, 1, none⟩ = some (.int .i64 g) ∧ w'.cell? ⟨w.heap.size + 1, 0, none⟩ = some (.int .i64 s)))
    go_wp2
    clear HX HS
    go_region_law (first | (go_simp; go_at_call 9; refine (HCL.out _).mono ?_; rintro e w2 ⟨rfl, e2⟩; have k2 : Hid (Keep (fun _ => False) w1 w2) := Lib.hid (by subst e2; exact (Keep.refl _ _).drew); have T2 := Lib.hid (HT1.out.keep k2.out (fun _ _ h => h)); have ct2 := blk_cells T2.out.blk; have ft2 := blk_frees T2.out.blk; have lt2 := blk_lt T2.out.blk; have d0 := k2.out.cell c0 id; have d1 := k2.out.cell c1 id; have d2 := k2.out.cell c2 id; clear e2 c0 c1 c2 ct ft lt1) | (go_must (refine step_app (by rfl) eltW (by rfl) (by rfl) (by rfl) (T2.out.keep ((Keep.refl (fun _ => False) _).alloc _) (fun _ _ h => h)).ownQ (Sl.of_own (own_new w2 #[.int .i64 n, .int .i64 g, .int .i64 s, .int .i64 m, .int .i64 cn] 66 5 1 rfl (by decide))) (by simp [Value.oneCell']) (by omega) (by simp only [maxLen]; omega) ?_; intro v2 w3 g1 g2 g3 g4; obtain ⟨B2, dd2, rfl, _⟩ := Rd.of_own g1; have GG := TabEnd.moreQ (e := ⟨n, g, s, m, cn⟩) HT.out (HB.out.trans (k2.out.to_below.mono HB.out.size)) hf hrange rfl g1 g2 (by first | exact g3 | simpa using g3); have cw2 := blk_cells GG.1; have fw2 := blk_frees GG.1; have lw2 := blk_lt GG.1; have G1 := Lib.hid GG.2; clear g1 g2 g3 g4 GG d0 d1 d2 ct2 ft2 lt2)))
    all_goals
      go_wp2
      go_end0
      rw [HW.out]
      exact G1.out
  · rw [idxP_hit hk hp hno]
    have hkl : k < Q.length := (List.getElem?_eq_some_iff.1 hk).1
    have b1 : (0 : Int) ≤ (k : Int) := by omega
    have b2 : (k : Int) < (Q.length : Int) := by omega
    have b3 : ¬ (k : Int) < 0 := by omega
    obtain ⟨b, dd, e⟩ : ∃ b dd, Value.slice B Q.length d = .slice (some ⟨b, 0, none⟩) Q.length dd := by
      rcases HT1.out.ownQ.2 with ⟨e, h0⟩ | ⟨g, cap, cur, e, _⟩
      · omega
      · exact ⟨g, cap, e⟩
    injection e with e1 _ e3
    subst e1 e3
    obtain ⟨m1, m2, m3⟩ := mineP_eq hp
    have HE := Lib.hid (fun w2 hk2 => TabEnd.sameQ (w1 := w2) (m := m) (v := cn) n g s HT.out hk2 hk m1 m2 m3 hrange)
    have HW := Lib.hid (waitP_hit (x := ⟨n, g, s, m, cn⟩) hk hp hno)
    obtain ⟨_, _, hbr, _, r0, r1, r2, r3, r4⟩ := flat_row (Sl.of_own HT1.out.ownQ) hk
    injection hbr with hbr
    injection hbr with hbr1 hbr2
    subst hbr1 hbr2
    rw [Nat.zero_add] at r0 r1 r2 r3 r4
    obtain ⟨cur, hcur, _⟩ := own_row HT1.out.ownQ
    have fb := blk_frees hcur
    have hbt : ¬ b = t := fun e => own_ne_blk HT1.out.ownQ HT1.out.blk (by decide) (by rw [ownBlock_slice]; rfl) e
    clear hno HF hp m1 m2 m3 hk hcur
    have HS := Lib.hid (fun w' (kk : Keep (fun i => i = b) w1 w') => ((kk.cell (ct 2) (fun e => hbt e.symm)).trans rfl : w'.cell? ⟨t, 2, none⟩ = some (.slice (some ⟨b, 0, none⟩) Q.length d)))
    go_wp2
    go_region_held3 (fun w' => w'.cell? ⟨t, 2, none⟩ = some (.slice (some ⟨b, 0, none⟩) Q.length d)) (first | exact HS.out _ ((Keep.refl _ w1).drew) | exact HS.out _ K2.out | exact HS.out _ (K2.out.setCell (fun _ => rfl) _) | exact HS.out _ ((K2.out.setCell (fun _ => rfl) _).setCell (fun _ => rfl) _)) (first | (go_at_call 9; refine (HCL.out _).mono ?_; rintro e w2 ⟨rfl, e2⟩; have k2 : Hid (Keep (fun _ => False) w1 w2) := Lib.hid (by subst e2; exact (Keep.refl _ _).drew); have K2 := Lib.hid (k2.out.mono (T := fun i => i = b) (fun _ _ h => h.elim)); have s3 := k2.out.cell r3 id; have s4 := k2.out.cell r4 id; have fb2 : ∀ j, w2.frozen? ⟨b, j, none⟩ = false := (by subst e2; exact fb); clear e2))
    all_goals
      go_wp2
      go_end0
      rw [HW.out]
      exact HE.out _ (HB.out.trans (k2.out.to_below.mono HB.out.size))
end Go.Proofs.Ytmfgkddndlleoaa
