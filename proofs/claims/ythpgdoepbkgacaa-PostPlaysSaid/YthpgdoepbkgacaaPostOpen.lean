/- How a letter that came in looks. -/
import Derived.Test.YthpgdoepbkgacaaOpen
import Derived.Test.YthpgdoepbkgacaaPost1
set_option linter.unusedSimpArgs false
set_option linter.unusedVariables false
namespace Go.Proofs.Ythpgdoepbkgacaa
open Go.ChangeShapes Go.WideShapes Go.ChangeAt Go.RowKit

/-- The cells of a letter that came in. -/
theorem letter_open {w : World} {cs : List Value} (h : Opens Try.prog w 28 cs) : ∃ l : CL, cs = l.cells ∧ l.good w := by
  obtain ⟨hl, hf⟩ := h.struct Try.underlying28
  have hl3 : cs.length = 3 := hl.trans (by kernel_rfl)
  obtain ⟨a, b, c, rfl⟩ : ∃ a b c, cs = [a, b, c] := by
    match cs, hl3 with
    | [a, b, c], _ => exact ⟨a, b, c, rfl⟩
  have c3 : Try.prog.cellsOf 3 = 1 := by kernel_rfl
  have c26 : Try.prog.cellsOf 26 = 1 := by kernel_rfl
  have h0 : Opens Try.prog w 3 (([a, b, c].drop 0).take (Try.prog.cellsOf 3)) := hf 0 _ rfl
  have h1 : Opens Try.prog w 3 (([a, b, c].drop 1).take (Try.prog.cellsOf 3)) := hf 1 _ rfl
  have h2 : Opens Try.prog w 26 (([a, b, c].drop 2).take (Try.prog.cellsOf 26)) := hf 2 _ rfl
  simp only [c3, c26] at h0 h1 h2
  obtain ⟨f, e0, _⟩ := h0.int Try.underlying3
  obtain ⟨t, e1, _⟩ := h1.int Try.underlying3
  obtain ⟨A, cp, d, e2, hs, hn⟩ := h2.bytes Try.underlying26 Try.underlying5 (by kernel_rfl) (by kernel_rfl)
  simp at e0 e1 e2
  subst e0 e1 e2
  exact ⟨⟨f, t, A, cp, d⟩, rfl, hs, by simp only []; omega⟩
theorem letter_form {w : World} (cs : Array Value) (h : Opens Try.prog w 28 (Value.agg cs).cells.toList) : ∃ f t a n c, cs = #[.int .i64 f, .int .i64 t, .slice a n c] := by
  obtain ⟨l, hl, _⟩ := letter_open h
  refine ⟨l.frm, l.dst, l.A, l.data.length, l.cap, ?_⟩
  have : cs.toList = l.cells := hl
  rw [← Array.toArray_toList (xs := cs), this]
  rfl

theorem letters_list {w : World} : ∀ css : List (List Value), (∀ c ∈ css, Opens Try.prog w 28 c) → ∃ ls : List CL, ls.length = css.length ∧ css.flatten = ls.flatMap CL.cells ∧ ∀ l ∈ ls, l.good w
  | [], _ => ⟨[], rfl, rfl, by simp⟩
  | c :: css, h => by
    obtain ⟨l, rfl, hg⟩ := letter_open (h c (by simp))
    obtain ⟨ls, h1, h2, h3⟩ := letters_list css (fun c hc => h c (by simp [hc]))
    exact ⟨l :: ls, by simp [h1], by simp [h2], by simpa using ⟨hg, h3⟩⟩
/-- A list of letters that came in. -/
theorem letters_open {w : World} {cs : List Value} (h : Opens Try.prog w 25 cs) : ∃ (A : Option Addr) (c : Nat) (ls : List CL), cs = [.slice A ls.length c] ∧ Sl w 3 (.slice A ls.length c) ls.length (ls.flatMap CL.cells) ∧ ∀ l ∈ ls, l.good w := by
  obtain ⟨v, n, css, rfl, hn, hs, hall, _⟩ := h.slice Try.underlying25
  obtain ⟨ls, h1, h2, h3⟩ := letters_list css (fun c hc => (hall c hc).2)
  have c3 : Try.prog.cellsOf 28 = 3 := by kernel_rfl
  rw [c3, h2] at hs
  have hs' := hs
  obtain ⟨A, c, rfl, _⟩ := hs'
  obtain rfl : n = ls.length := by omega
  exact ⟨A, c, ls, rfl, hs, h3⟩
end Go.Proofs.Ythpgdoepbkgacaa
