/- A letter in a list of letters. -/
import Derived.Test.YthpgdoepbkgacaaPost6
set_option linter.unusedSimpArgs false
set_option linter.unusedVariables false
namespace Go.Proofs.Ythpgdoepbkgacaa
open Go.RowKit
theorem letters_at {w : World} {A : Option Addr} {c n k : Nat} {ls : List CL} (h : Sl w 3 (.slice A n c) n (ls.flatMap CL.cells)) {l : CL} (hl : ls[k]? = some l) :
    ∃ b o, A = some ⟨b, o, none⟩ ∧ b < w.heap.size ∧ w.cell? ⟨b, o + k * 3, none⟩ = some (.int .i64 l.frm) ∧ w.cell? ⟨b, o + k * 3 + 1, none⟩ = some (.int .i64 l.dst) ∧ w.cell? ⟨b, o + k * 3 + 2, none⟩ = some (.slice l.A l.data.length l.cap) := by
  obtain ⟨A', c', e, hr, _⟩ := h
  injection e with e1 _ e2
  subst e1
  have hk := (List.getElem?_eq_some_iff.1 hl).1
  have hfl := flat_get ls k hk
  rw [(List.getElem?_eq_some_iff.1 hl).2] at hfl
  rcases hr with h0 | ⟨ad, rfl, hc⟩
  · rw [h0] at hfl; simp at hfl
  · have h0 := hc _ _ hfl.1
    have h1 := hc _ _ hfl.2.1
    have h2 := hc _ _ hfl.2.2
    obtain ⟨b, o, spot⟩ := ad
    have hp : ((⟨b, o, spot⟩ : Addr).add (k * 3 + 1)).spot = none ∨ True := .inr trivial
    have e1 : (⟨b, o, spot⟩ : Addr).add (k * 3 + 1) = ⟨b, o + (k * 3 + 1), none⟩ := by unfold Addr.add; simp
    have e2 : (⟨b, o, spot⟩ : Addr).add (k * 3 + 2) = ⟨b, o + (k * 3 + 2), none⟩ := by unfold Addr.add; simp
    have hfl0 := flat_get ls 0 (by omega)
    have hz := hc _ _ hfl0.1
    have es : spot = none := by
      have : (⟨b, o, spot⟩ : Addr).add (0 * 3) = ⟨b, o, spot⟩ := by unfold Addr.add; simp
      rw [this] at hz
      exact World.cell?_spot hz
    subst es
    rw [Addr.add_lit] at h0 h1 h2
    refine ⟨b, o, rfl, World.block_lt_of_cell? _ _ h0, h0, ?_, ?_⟩
    · rw [← Nat.add_assoc] at h1; exact h1
    · rw [← Nat.add_assoc] at h2; rw [h2]; rfl
end Go.Proofs.Ythpgdoepbkgacaa
