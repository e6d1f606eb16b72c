/- How a handle, a letter, and a call that came in look. -/
import Derived.Test.YtlcfnehmmjhoiaaGreatOpen
import Derived.Test.YtlcfnehmmjhoiaaGreatRows
import Derived.Test.YtlcfnehmmjhoiaaGreatBase
import Derived.KernelRfl
set_option linter.unusedSimpArgs false
set_option linter.unusedVariables false
namespace Go.Proofs.YtlcfnehmmjhoiaaGreat
open Go.ChangeShapes Go.WideShapes Go.ChangeAt Go.RowKit

theorem list2 {α : Type} {l : List α} (h : l.length = 2) : ∃ a b, l = [a, b] := by
  match l, h with
  | [a, b], _ => exact ⟨a, b, rfl⟩
theorem list3 {α : Type} {l : List α} (h : l.length = 3) : ∃ a b c, l = [a, b, c] := by
  match l, h with
  | [a, b, c], _ => exact ⟨a, b, c, rfl⟩
theorem list7 {α : Type} {l : List α} (h : l.length = 7) : ∃ a b c d e f g, l = [a, b, c, d, e, f, g] := by
  match l, h with
  | [a, b, c, d, e, f, g], _ => exact ⟨a, b, c, d, e, f, g, rfl⟩
theorem form_of {cs : Array Value} {l : List Value} (h : cs.toList = l) : cs = l.toArray := by rw [← h]
theorem handle_open {w : World} {cs : List Value} (h : Opens Tryz.prog w 39 cs) : ∃ n g : Int, cs = [.int .i64 n, .int .i64 g] := by
  obtain ⟨hl, hf⟩ := h.struct Tryz.underlying39
  have hl2 : cs.length = 2 := hl.trans (by kernel_rfl)
  obtain ⟨a, b, rfl⟩ := list2 hl2
  have c3 : Tryz.prog.cellsOf 3 = 1 := by kernel_rfl
  have h0 : Opens Tryz.prog w 3 (([a, b].drop 0).take (Tryz.prog.cellsOf 3)) := hf 0 _ rfl
  have h1 : Opens Tryz.prog w 3 (([a, b].drop 1).take (Tryz.prog.cellsOf 3)) := hf 1 _ rfl
  simp only [c3] at h0 h1
  obtain ⟨f, e0, _⟩ := h0.int Tryz.underlying3
  obtain ⟨t, e1, _⟩ := h1.int Tryz.underlying3
  simp at e0 e1
  subst e0 e1
  exact ⟨f, t, rfl⟩
theorem handle_form {w : World} (cs : Array Value) (h : Opens Tryz.prog w 39 (Value.agg cs).cells.toList) : ∃ n g : Int, cs = #[.int .i64 n, .int .i64 g] := by
  obtain ⟨n, g, hl⟩ := handle_open h
  exact ⟨n, g, form_of hl⟩
/-- The cells of a letter that came in. -/
theorem letter_open {w : World} {cs : List Value} (h : Opens Tryz.prog w 35 cs) : ∃ (f t : Int) (A : Option Addr) (c : Nat) (d : List UInt8), cs = [.int .i64 f, .int .i64 t, .slice A d.length c] ∧ Sl w 1 (.slice A d.length c) d.length (bv d) ∧ d.length ≤ 140737488351232 := by
  obtain ⟨hl, hf⟩ := h.struct Tryz.underlying35
  have hl3 : cs.length = 3 := hl.trans (by kernel_rfl)
  obtain ⟨a, b, c, rfl⟩ := list3 hl3
  have c3 : Tryz.prog.cellsOf 3 = 1 := by kernel_rfl
  have c26 : Tryz.prog.cellsOf 30 = 1 := by kernel_rfl
  have h0 : Opens Tryz.prog w 3 (([a, b, c].drop 0).take (Tryz.prog.cellsOf 3)) := hf 0 _ rfl
  have h1 : Opens Tryz.prog w 3 (([a, b, c].drop 1).take (Tryz.prog.cellsOf 3)) := hf 1 _ rfl
  have h2 : Opens Tryz.prog w 30 (([a, b, c].drop 2).take (Tryz.prog.cellsOf 30)) := hf 2 _ rfl
  simp only [c3, c26] at h0 h1 h2
  obtain ⟨f, e0, _⟩ := h0.int Tryz.underlying3
  obtain ⟨t, e1, _⟩ := h1.int Tryz.underlying3
  obtain ⟨A, cp, d, e2, hs, hn⟩ := h2.bytes Tryz.underlying30 Tryz.underlying5 (by kernel_rfl) (by kernel_rfl)
  simp at e0 e1 e2
  subst e0 e1 e2
  exact ⟨f, t, A, cp, d, rfl, hs, hn⟩
theorem letter_form {w : World} (cs : Array Value) (h : Opens Tryz.prog w 35 (Value.agg cs).cells.toList) : ∃ f t a n c, cs = #[.int .i64 f, .int .i64 t, .slice a n c] := by
  obtain ⟨f, t, A, c, d, hl, _⟩ := letter_open h
  exact ⟨f, t, A, d.length, c, form_of hl⟩
theorem call_form {w : World} (cs : Array Value) (h : Opens Tryz.prog w 32 (Value.agg cs).cells.toList) : ∃ k p o f a z A n c, cs = #[.int .i64 k, .string p, .string o, .int .i64 f, .int .i64 a, .int .i64 z, .slice A n c] := by
  obtain ⟨l, hcs⟩ : ∃ l, l = (Value.agg cs).cells.toList := ⟨_, rfl⟩
  rw [← hcs] at h
  obtain ⟨hl, hf⟩ := h.struct Tryz.underlying32
  have hl7 : l.length = 7 := hl.trans (by kernel_rfl)
  obtain ⟨a, b, c, d, e, f, g, rfl⟩ := list7 hl7
  have c3 : Tryz.prog.cellsOf 3 = 1 := by kernel_rfl
  have c9 : Tryz.prog.cellsOf 9 = 1 := by kernel_rfl
  have c26 : Tryz.prog.cellsOf 30 = 1 := by kernel_rfl
  have h0 : Opens Tryz.prog w 3 (([a, b, c, d, e, f, g].drop 0).take (Tryz.prog.cellsOf 3)) := hf 0 _ rfl
  have h1 : Opens Tryz.prog w 9 (([a, b, c, d, e, f, g].drop 1).take (Tryz.prog.cellsOf 9)) := hf 1 _ rfl
  have h2 : Opens Tryz.prog w 9 (([a, b, c, d, e, f, g].drop 2).take (Tryz.prog.cellsOf 9)) := hf 2 _ rfl
  have h3 : Opens Tryz.prog w 3 (([a, b, c, d, e, f, g].drop 3).take (Tryz.prog.cellsOf 3)) := hf 3 _ rfl
  have h4 : Opens Tryz.prog w 3 (([a, b, c, d, e, f, g].drop 4).take (Tryz.prog.cellsOf 3)) := hf 4 _ rfl
  have h5 : Opens Tryz.prog w 3 (([a, b, c, d, e, f, g].drop 5).take (Tryz.prog.cellsOf 3)) := hf 5 _ rfl
  have h6 : Opens Tryz.prog w 30 (([a, b, c, d, e, f, g].drop 6).take (Tryz.prog.cellsOf 30)) := hf 6 _ rfl
  simp only [c3, c9, c26] at h0 h1 h2 h3 h4 h5 h6
  obtain ⟨x0, e0, _⟩ := h0.int Tryz.underlying3
  obtain ⟨x1, e1, _⟩ := h1.string Tryz.underlying9
  obtain ⟨x2, e2, _⟩ := h2.string Tryz.underlying9
  obtain ⟨x3, e3, _⟩ := h3.int Tryz.underlying3
  obtain ⟨x4, e4, _⟩ := h4.int Tryz.underlying3
  obtain ⟨x5, e5, _⟩ := h5.int Tryz.underlying3
  obtain ⟨A, cp, x6, e6, hs, hn⟩ := h6.bytes Tryz.underlying30 Tryz.underlying5 (by kernel_rfl) (by kernel_rfl)
  simp at e0 e1 e2 e3 e4 e5 e6
  subst e0 e1 e2 e3 e4 e5 e6
  exact ⟨x0, x1, x2, x3, x4, x5, A, x6.length, cp, form_of hcs.symm⟩
end Go.Proofs.YtlcfnehmmjhoiaaGreat
