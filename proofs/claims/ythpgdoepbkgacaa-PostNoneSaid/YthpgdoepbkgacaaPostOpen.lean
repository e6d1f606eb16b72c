/- How a letter that came in looks. -/
import Derived.Test.YthpgdoepbkgacaaOpen
import Derived.Test.YthpgdoepbkgacaaPost1
set_option linter.unusedSimpArgs false
set_option linter.unusedVariables false
namespace Go.Proofs.Ythpgdoepbkgacaa
open Go.ChangeShapes Go.WideShapes Go.ChangeAt Go.RowKit

/-- The cells of a letter that came in. -/
theorem letter_open {w : World} {cs : List Value} (h : Opens Try.prog w 28 cs) : ∃ l : CL, cs = l.cells ∧ l.good w := by
  obtain ⟨hl, hf⟩ := h.struct Try.underlying28
  have hl3 : cs.length = 3 := hl.trans (by kernel_rfl)
  obtain ⟨a, b, c, rfl⟩ : ∃ a b c, cs = [a, b, c] := by
    match cs, hl3 with
    | [a, b, c], _ => exact ⟨a, b, c, rfl⟩
  have c3 : Try.prog.cellsOf 3 = 1 := by kernel_rfl
  have c26 : Try.prog.cellsOf 26 = 1 := by kernel_rfl
  have h0 : Opens Try.prog w 3 (([a, b, c].drop 0).take (Try.prog.cellsOf 3)) := hf 0 _ rfl
  have h1 : Opens Try.prog w 3 (([a, b, c].drop 1).take (Try.prog.cellsOf 3)) := hf 1 _ rfl
  have h2 : Opens Try.prog w 26 (([a, b, c].drop 2).take (Try.prog.cellsOf 26)) := hf 2 _ rfl
  simp only [c3, c26] at h0 h1 h2
  obtain ⟨f, e0, _⟩ := h0.int Try.underlying3
  obtain ⟨t, e1, _⟩ := h1.int Try.underlying3
  obtain ⟨A, cp, d, e2, hs, hn⟩ := h2.bytes Try.underlying26 Try.underlying5 (by kernel_rfl) (by kernel_rfl)
  simp at e0 e1 e2
  subst e0 e1 e2
  exact ⟨⟨f, t, A, cp, d⟩, rfl, hs, by simp only []; omega⟩
theorem letter_form {w : World} (cs : Array Value) (h : Opens Try.prog w 28 (Value.agg cs).cells.toList) : ∃ f t a n c, cs = #[.int .i64 f, .int .i64 t, .slice a n c] := by
  obtain ⟨l, hl, _⟩ := letter_open h
  refine ⟨l.frm, l.dst, l.A, l.data.length, l.cap, ?_⟩
  have : cs.toList = l.cells := hl
  rw [← Array.toArray_toList (xs := cs), this]
  rfl
end Go.Proofs.Ythpgdoepbkgacaa
