/- How a list of steps that came in looks. -/
import Derived.Test.YthpgdoepbkgacaaPostOpen
import Derived.Test.YthpgdoepbkgacaaPostPlaysWalk
set_option linter.unusedSimpArgs false
set_option linter.unusedVariables false
namespace Go.Proofs.Ythpgdoepbkgacaa
open Go.ChangeShapes Go.WideShapes Go.ChangeAt Go.RowKit
open lawPostPlays (St)
theorem step_open {w : World} {cs : List Value} (h : Opens Try.prog w 30 cs) : ∃ s : St, cs = s.cells ∧ s.l.good w := by
  obtain ⟨hl, hf⟩ := h.struct Try.underlying30
  have hl5 : cs.length = 5 := hl.trans (by kernel_rfl)
  obtain ⟨a, b, c, d, e, rfl⟩ : ∃ a b c d e, cs = [a, b, c, d, e] := by
    match cs, hl5 with
    | [a, b, c, d, e], _ => exact ⟨a, b, c, d, e, rfl⟩
  have c3 : Try.prog.cellsOf 3 = 1 := by kernel_rfl
  have c28 : Try.prog.cellsOf 28 = 3 := by kernel_rfl
  have h0 : Opens Try.prog w 3 (([a, b, c, d, e].drop 0).take (Try.prog.cellsOf 3)) := hf 0 _ rfl
  have h1 : Opens Try.prog w 3 (([a, b, c, d, e].drop 1).take (Try.prog.cellsOf 3)) := hf 1 _ rfl
  have h2 : Opens Try.prog w 28 (([a, b, c, d, e].drop 2).take (Try.prog.cellsOf 28)) := hf 2 _ rfl
  simp only [c3, c28] at h0 h1 h2
  obtain ⟨f, e0, _⟩ := h0.int Try.underlying3
  obtain ⟨t, e1, _⟩ := h1.int Try.underlying3
  obtain ⟨l, e2, hg⟩ := letter_open h2
  simp at e0 e1 e2
  subst e0 e1
  exact ⟨⟨f, t, l⟩, by simp [St.cells, ← e2], hg⟩
theorem steps_list {w : World} : ∀ css : List (List Value), (∀ c ∈ css, Opens Try.prog w 30 c) → ∃ ls : List St, ls.length = css.length ∧ css.flatten = ls.flatMap St.cells ∧ ∀ l ∈ ls, l.l.good w
  | [], _ => ⟨[], rfl, rfl, by simp⟩
  | c :: css, h => by
    obtain ⟨l, rfl, hg⟩ := step_open (h c (by simp))
    obtain ⟨ls, h1, h2, h3⟩ := steps_list css (fun c hc => h c (by simp [hc]))
    exact ⟨l :: ls, by simp [h1], by simp [h2], by simpa using ⟨hg, h3⟩⟩
theorem steps_open {w : World} {cs : List Value} (h : Opens Try.prog w 22 cs) : ∃ (A : Option Addr) (c : Nat) (ls : List St), cs = [.slice A ls.length c] ∧ Sl w 5 (.slice A ls.length c) ls.length (ls.flatMap St.cells) ∧ ∀ l ∈ ls, l.l.good w := by
  obtain ⟨v, n, css, rfl, hn, hs, hall, _⟩ := h.slice Try.underlying22
  obtain ⟨ls, h1, h2, h3⟩ := steps_list css (fun c hc => (hall c hc).2)
  have c5 : Try.prog.cellsOf 30 = 5 := by kernel_rfl
  rw [c5, h2] at hs
  have hs' := hs
  obtain ⟨A, c, rfl, _⟩ := hs'
  obtain rfl : n = ls.length := by omega
  exact ⟨A, c, ls, rfl, hs, h3⟩
end Go.Proofs.Ythpgdoepbkgacaa
