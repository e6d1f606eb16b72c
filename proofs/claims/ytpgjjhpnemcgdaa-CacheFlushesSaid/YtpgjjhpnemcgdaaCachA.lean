/- Package cache: what is known. -/
import Derived.Test.YtpgjjhpnemcgdaaCach9
set_option linter.unusedSimpArgs false
set_option linter.unusedVariables false
namespace Go.Proofs.Ytpgjjhpnemcgdaa
open Go.RowKit

attribute [local go_sem ↓] Go.wp_at_zero Go.wp_at_succ
/-- A sound set of bytes of a file. -/
structure KB (L : List St) : Prop where
  ps : PS L
  le : ∀ p ∈ L, p.2 ≤ 9729
theorem KB.len {L : List St} (h : KB L) : L.length ≤ 9729 := by
  have := PS.len (N := 9729) (m := 0) h.ps (fun p hp => ⟨Nat.zero_le _, h.le p hp⟩) (by omega)
  omega
theorem KB.nil : KB [] := ⟨PS.nil, by simp⟩
theorem KB.single {a b : Nat} (h : a < b) (hb : b ≤ 9729) : KB [(a, b)] := ⟨PS.single ⟨h, by simp only; omega⟩, by simpa using hb⟩
theorem KB.less {A B : List St} (hA : KB A) (hB : PS B) : KB (lessP A B) ∧ ∀ n, Cov (lessP A B) n ↔ Cov A n ∧ ¬ Cov B n := by
  obtain ⟨h1, h2⟩ := less_law hA.ps hB
  exact ⟨⟨h1, cov_bound (L := A) h1 (fun n hn => ((h2 n).1 hn).1) hA.le⟩, h2⟩
theorem CA.setknown {X : Nat → Prop} {k : Nat} {s : CaS} {w w2 : World} {DA : Option Addr} {dc : Nat} {kv v2 : Value} {YA : Option Addr} {yc : Nat} {L : List ((Nat × List UInt8) × Value)} {R : List St} (h : CA X k s w DA dc kv YA yc L) (hb : Below w.heap.size w w2) (hv : SlN 0 w2 v2 R) :
    CA X k { s with known := R } (w2.setCell ⟨k, 4, none⟩ v2) DA dc v2 YA yc L ∧ Keep (fun j => ¬ X j) w (w2.setCell ⟨k, 4, none⟩ v2) := by
  have h2 := h.below hb
  have ks := (Keep.refl (fun j => j = k) w2).setCell (p := ⟨k, 4, none⟩) (fun _ => rfl) v2
  refine ⟨h2.upd ks rfl rfl (blk_set4 h2.blk _ rfl) (hv.keep ks (fun j cs fr _ hb e => ?_)), (Keep.of_below (S := fun j => ¬ X j) hb).trans ks (fun j _ e hj => ?_)⟩
  · subst e
    have := h2.blk.symm.trans hb
    injection this with this
    injection this with _ this _
    exact absurd this (by decide)
  · rw [e] at hj
    exact h.notk hj
theorem clip_walk' {X : Nat → Prop} {k : Nat} {s : CaS} {w : World} (h : Ca X k s w) (hs : s.size ≤ 9728) (hK : KB s.known) :
    Calls Try.prog 21 #[.pointer (some ⟨k, 0, none⟩)] w fun e w' => e = .returned (.tuple #[]) ∧ Ca X k { s with known := lessP s.known [(s.size, 9729)] } w' ∧ Keep (fun j => ¬ X j) w w' := by
  obtain ⟨DA, dc, kv, YA, yc, L, h⟩ := h
  have c2 : w.cell? ⟨k, 2, none⟩ = some (.int .i64 (s.size : Int)) := (blk_cells h.blk 2).trans rfl
  have c4 : w.cell? ⟨k, 4, none⟩ = some kv := (blk_cells h.blk 4).trans rfl
  have H := Lib.hid h
  have hM := make_walk (a := s.size) (b := 9729) (by omega) (by omega) w
  rw [show ((9729 : Nat) : Int) = 9729 from rfl] at hM
  have HM := Lib.hid hM
  have hB : PS [(s.size, 9729)] := PS.single ⟨by simp only; omega, by simp only; omega⟩
  obtain ⟨w1, hw1⟩ : ∃ w1, w1 = w.alloc (.cells #[.complex .f64 (fb s.size) (fb 9729)] 52) := ⟨_, rfl⟩
  have hb1 : Below w.heap.size w w1 := by rw [hw1]; exact (Below.refl _ w).alloc (Nat.le_refl _) _
  have ho := own_new w #[.complex .f64 (fb s.size) (fb 9729)] 52 1 1 rfl (by decide)
  rw [← hw1] at ho
  have HL := Lib.hid (less_walk s.known [(s.size, 9729)] kv (.slice (some ⟨w.heap.size, 0, none⟩) 1 1) w1 hK.ps.snd hB.snd (h.known.below hb1).c ⟨_, 1, rfl, Sl.of_own ho⟩ (by have := hK.len; omega) (by simp) (by have := (hK.less hB).1.len; omega))
  have HB1 := Lib.hid hb1
  have HW1 := Lib.hid hw1
  clear h hM hB ho hb1 hw1 hK
  obtain ⟨R, hR⟩ : ∃ R, R = lessP s.known [(s.size, 9729)] := ⟨_, rfl⟩
  rw [← hR] at HL ⊢
  clear hR
  go_enter Try.func21, Try.ntmps21
  go_wp2_with fail
  refine HM.out.mono ?_
  rintro e W ⟨rfl, rfl⟩
  go_wp2_with fail
  rw [← HW1.out]
  refine HL.out.mono ?_
  rintro e w2 ⟨v2, rfl, hv2, hb2⟩
  obtain ⟨A2, cc2, rfl, _⟩ := id hv2
  have hBB := HB1.out.trans (hb2.mono HB1.out.size)
  have HN := Lib.hid (H.out.setknown hBB (hv2.mono (Nat.zero_le _)))
  have h2 := H.out.below hBB
  have c4' : w2.cell? ⟨k, 4, none⟩ = some kv := (blk_cells h2.blk 4).trans rfl
  have f4' := blk_frees h2.blk 4
  clear hv2 hb2 hBB h2 c2 c4
  go_wp2
  go_end0
  exact ⟨rfl, ⟨DA, dc, _, YA, yc, L, HN.out.1⟩, HN.out.2⟩
/-- What is known, and a stretch more. -/
def Kn (K : List St) (a b : Nat) (R : List St) : Prop := KB R ∧ ∀ n, Cov R n ↔ Cov K n ∨ (a ≤ n ∧ n < b)
theorem know_walk {X : Nat → Prop} {k : Nat} {s : CaS} {w : World} (h : Ca X k s w) (hK : KB s.known) {a b : Nat} (hab : a < b) (hb : b ≤ 9729) :
    Calls Try.prog 22 #[.pointer (some ⟨k, 0, none⟩), .int .i64 (a : Int), .int .i64 (b : Int)] w fun e w' => ∃ R, Kn s.known a b R ∧ e = .returned (.tuple #[]) ∧ Ca X k { s with known := R } w' ∧ Keep (fun j => ¬ X j) w w' := by
  obtain ⟨DA, dc, kv, YA, yc, L, h⟩ := h
  have c4 : w.cell? ⟨k, 4, none⟩ = some kv := (blk_cells h.blk 4).trans rfl
  have H := Lib.hid h
  have HM := Lib.hid (make_walk (a := a) (b := b) hab (by omega) w)
  have HC := Lib.hid (clone_walk 0 s.known kv w h.known (by have := hK.len; omega))
  have hkl := hK.len
  have HK := Lib.hid hK
  have HAB := Lib.hid hab
  clear h hK hab
  go_enter Try.func22, Try.ntmps22
  go_wp2_with fail
  refine HM.out.mono ?_
  rintro e W ⟨rfl, rfl⟩
  go_wp2_with fail
  refine HC.out.mono ?_
  rintro e w1 ⟨A1, c1, rfl, ho1⟩
  have HO := Lib.hid ho1
  have HCN := Lib.hid (Sl.of_own (own_new w1 #[.complex .f64 (fb a) (fb b)] 52 1 1 rfl (by decide)))
  clear ho1
  go_wp2_with (at_builtin; go_must (refine wpList_app rfl eltC rfl rfl rfl (n := s.known.length) (m := 1) (own_keep HO.out.own ((Keep.refl (fun _ => False) _).alloc _) (fun _ _ h => h)) HCN.out (by simp [Value.oneCell']) (by omega) (by simp only [maxLen]; omega) ?_))
  intro v4 w4 g1 g2 g3 g4
  clear g4
  obtain ⟨A4, c4v, rfl, _⟩ := Rd.of_own g1
  have hO4 := HO.out.app (p := (a, b)) ((Below.refl _ w1).alloc (Nat.le_refl _) _) (Nat.le_succ _) g1 g2 g3
  have hlA : (s.known ++ [(a, b)]).length = s.known.length + 1 := by simp
  have hsn : SlN 0 w4 (.slice A4 (s.known ++ [(a, b)]).length c4v) (s.known ++ [(a, b)]) := by
    obtain ⟨x, cx', ex, hx1, hx2, hx3⟩ := hO4.n.mono (Nat.zero_le _)
    injection ex with ex _ _
    subst ex
    refine ⟨A4, c4v, rfl, Sl.of_own hO4.own, hx2, hx3⟩
  have HJ := Lib.hid (join_walk 0 (s.known ++ [(a, b)]) _ w4 hsn (by simp) (fun p hp => by
    rcases List.mem_append.1 hp with hp | hp
    · exact HK.out.ps.one p hp
    · rw [List.mem_singleton.1 hp]; exact ⟨HAB.out, by simp only; omega⟩) (by rw [hlA]; omega))
  rw [hlA] at HJ
  have HB4 := Lib.hid hO4.be
  have HLE := Lib.hid (show ∀ p ∈ s.known ++ [(a, b)], p.2 ≤ 9729 from fun p hp => by
    rcases List.mem_append.1 hp with hp | hp
    · exact HK.out.le p hp
    · rw [List.mem_singleton.1 hp]; exact hb)
  clear g1 g2 g3 hO4 hlA hsn hkl
  go_wp2_with fail
  refine HJ.out.mono ?_
  rintro e w5 ⟨R, v5, hR, hcov, rfl, hv5, hb5⟩
  obtain ⟨A5, cc5, rfl, _⟩ := id hv5
  have hBB := HB4.out.trans (hb5.mono HB4.out.size)
  have HN := Lib.hid (H.out.setknown hBB (hv5.mono (Nat.zero_le _)))
  have h2 := H.out.below hBB
  have c4' : w5.cell? ⟨k, 4, none⟩ = some kv := (blk_cells h2.blk 4).trans rfl
  have f4' := blk_frees h2.blk 4
  have HKN : Hid (Kn s.known a b R) := Lib.hid ⟨⟨hR, cov_bound hR (fun n hn => (hcov n).1 hn) HLE.out⟩, fun n => by rw [hcov n, cov_app, cov_one]⟩
  clear hv5 hb5 hBB h2 c4 hR hcov
  go_wp2
  go_end0
  exact ⟨R, HKN.out, rfl, ⟨DA, dc, _, YA, yc, L, HN.out.1⟩, HN.out.2⟩
end Go.Proofs.Ytpgjjhpnemcgdaa
