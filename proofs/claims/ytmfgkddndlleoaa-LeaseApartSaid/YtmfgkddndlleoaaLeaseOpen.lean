/- How a handle, and the steps, that came in look. -/
import Derived.Test.YtmfgkddndlleoaaOpen
import Derived.Test.YtmfgkddndlleoaaRows
import Derived.Test.YtmfgkddndlleoaaBase
import Derived.KernelRfl
set_option linter.unusedSimpArgs false
set_option linter.unusedVariables false
namespace Go.Proofs.Ytmfgkddndlleoaa
open Go.ChangeShapes Go.WideShapes Go.ChangeAt Go.RowKit

theorem u8_in {x : Int} (h : (Lit.int .u8 x).wf = true) : 0 ≤ x ∧ x ≤ 255 := by
  simp only [Lit.wf, Bool.and_eq_true, decide_eq_true_eq] at h
  exact h
theorem two_of {α : Type} {cs : List α} (h : cs.length = 2) : ∃ a b, cs = [a, b] := by
  cases cs with
  | nil => cases h
  | cons a cs =>
    cases cs with
    | nil => cases h
    | cons b cs =>
      cases cs with
      | nil => exact ⟨a, b, rfl⟩
      | cons c cs => simp at h
theorem handle_open {w : World} {cs : List Value} (h : Opens Try.prog w 34 cs) : ∃ n g : Int, cs = [.int .i64 n, .int .i64 g] := by
  obtain ⟨hl, hf⟩ := h.struct Try.underlying34
  have hl2 : cs.length = 2 := hl.trans (by kernel_rfl)
  obtain ⟨a, b, rfl⟩ : ∃ a b, cs = [a, b] := two_of hl2
  have c3 : Try.prog.cellsOf 3 = 1 := by kernel_rfl
  have h0 : Opens Try.prog w 3 (([a, b].drop 0).take (Try.prog.cellsOf 3)) := hf 0 _ rfl
  have h1 : Opens Try.prog w 3 (([a, b].drop 1).take (Try.prog.cellsOf 3)) := hf 1 _ rfl
  simp only [c3] at h0 h1
  obtain ⟨f, e0, _⟩ := h0.int Try.underlying3
  obtain ⟨t, e1, _⟩ := h1.int Try.underlying3
  simp at e0 e1
  subst e0 e1
  exact ⟨f, t, rfl⟩
theorem handle_form {w : World} (cs : Array Value) (h : Opens Try.prog w 34 (Value.agg cs).cells.toList) : ∃ n g : Int, cs = #[.int .i64 n, .int .i64 g] := by
  obtain ⟨n, g, hl⟩ := handle_open h
  refine ⟨n, g, ?_⟩
  have : cs.toList = [.int .i64 n, .int .i64 g] := hl
  rw [← Array.toArray_toList (xs := cs), this]
end Go.Proofs.Ytmfgkddndlleoaa
