/- How the steps that came in look. -/
import Derived.Test.YtmfgkddndlleoaaLeaseOpen
set_option linter.unusedSimpArgs false
set_option linter.unusedVariables false
namespace Go.Proofs.Ytmfgkddndlleoaa
open Go.ChangeShapes Go.WideShapes Go.ChangeAt Go.RowKit

/-- A step: what, seat, mode, now, the handle's two numbers. -/
structure ST where
  what : Int
  seat : Int
  mode : Int
  now : Int
  n : Int
  g : Int
deriving Inhabited
def ST.cells (e : ST) : List Value := [.int .i64 e.what, .int .i64 e.seat, .int .i64 e.mode, .int .i64 e.now, .int .i64 e.n, .int .i64 e.g]
theorem six_of {α : Type} {cs : List α} (h : cs.length = 6) : ∃ a b c d e f, cs = [a, b, c, d, e, f] := by
  cases cs with
  | nil => cases h
  | cons a cs =>
    cases cs with
    | nil => cases h
    | cons b cs =>
      cases cs with
      | nil => cases h
      | cons c cs =>
        cases cs with
        | nil => cases h
        | cons d cs =>
          obtain ⟨e, f, rfl⟩ := two_of (cs := cs) (by simpa using h)
          exact ⟨a, b, c, d, e, f, rfl⟩
theorem step_open {w : World} {cs : List Value} (h : Opens Try.prog w 36 cs) : ∃ l : ST, cs = l.cells := by
  obtain ⟨hl, hf⟩ := h.struct Try.underlying36
  have hl6 : cs.length = 6 := hl.trans (by kernel_rfl)
  obtain ⟨a, b, c, d, e, f, rfl⟩ := six_of hl6
  have c3 : Try.prog.cellsOf 3 = 1 := by kernel_rfl
  have c2 : Try.prog.cellsOf 34 = 2 := by kernel_rfl
  have h0 : Opens Try.prog w 3 (([a, b, c, d, e, f].drop 0).take (Try.prog.cellsOf 3)) := hf 0 _ rfl
  have h1 : Opens Try.prog w 3 (([a, b, c, d, e, f].drop 1).take (Try.prog.cellsOf 3)) := hf 1 _ rfl
  have h2 : Opens Try.prog w 3 (([a, b, c, d, e, f].drop 2).take (Try.prog.cellsOf 3)) := hf 2 _ rfl
  have h3 : Opens Try.prog w 3 (([a, b, c, d, e, f].drop 3).take (Try.prog.cellsOf 3)) := hf 3 _ rfl
  have h4 : Opens Try.prog w 34 (([a, b, c, d, e, f].drop 4).take (Try.prog.cellsOf 34)) := hf 4 _ rfl
  simp only [c3, c2] at h0 h1 h2 h3 h4
  obtain ⟨x0, e0, _⟩ := h0.int Try.underlying3
  obtain ⟨x1, e1, _⟩ := h1.int Try.underlying3
  obtain ⟨x2, e2, _⟩ := h2.int Try.underlying3
  obtain ⟨x3, e3, _⟩ := h3.int Try.underlying3
  obtain ⟨x4, x5, e4⟩ := handle_open h4
  simp at e0 e1 e2 e3 e4
  obtain ⟨e4, e5⟩ := e4
  subst e0 e1 e2 e3 e4 e5
  exact ⟨⟨x0, x1, x2, x3, x4, x5⟩, rfl⟩
theorem steps_list {w : World} : ∀ css : List (List Value), (∀ c ∈ css, Opens Try.prog w 36 c) → ∃ ls : List ST, ls.length = css.length ∧ css.flatten = ls.flatMap ST.cells
  | [], _ => ⟨[], rfl, rfl⟩
  | c :: css, h => by
    obtain ⟨l, rfl⟩ := step_open (h c (by simp))
    obtain ⟨ls, h1, h2⟩ := steps_list css (fun c hc => h c (by simp [hc]))
    exact ⟨l :: ls, by simp [h1], by simp [h2]⟩
/-- A list of steps that came in. -/
theorem steps_open {w : World} {cs : List Value} (h : Opens Try.prog w 22 cs) : ∃ (A : Option Addr) (c : Nat) (ls : List ST), cs = [.slice A ls.length c] ∧ Sl w 6 (.slice A ls.length c) ls.length (ls.flatMap ST.cells) := by
  obtain ⟨v, n, css, rfl, hn, hs, hall, _⟩ := h.slice Try.underlying22
  obtain ⟨ls, h1, h2⟩ := steps_list css (fun c hc => (hall c hc).2)
  have c3 : Try.prog.cellsOf 36 = 6 := by kernel_rfl
  rw [c3, h2] at hs
  have hs' := hs
  obtain ⟨A, c, rfl, _⟩ := hs'
  obtain rfl : n = ls.length := by omega
  exact ⟨A, c, ls, rfl, hs⟩
theorem steps_at {l : List ST} {k : Nat} {e : ST} (h : l[k]? = some e) : (l.flatMap ST.cells)[k * 6]? = some (.int .i64 e.what) ∧ (l.flatMap ST.cells)[k * 6 + 1]? = some (.int .i64 e.seat) ∧ (l.flatMap ST.cells)[k * 6 + 2]? = some (.int .i64 e.mode) ∧ (l.flatMap ST.cells)[k * 6 + 3]? = some (.int .i64 e.now) ∧ (l.flatMap ST.cells)[k * 6 + 4]? = some (.int .i64 e.n) ∧ (l.flatMap ST.cells)[k * 6 + 5]? = some (.int .i64 e.g) := by
  induction l generalizing k with
  | nil => simp at h
  | cons a l ih =>
    cases k with
    | zero =>
      simp only [List.getElem?_cons_zero, Option.some.injEq] at h
      subst h
      simp [ST.cells]
    | succ k =>
      obtain ⟨h0, h1, h2, h3, h4, h5⟩ := ih (by simpa using h)
      have hf : (a :: l).flatMap ST.cells = a.cells ++ l.flatMap ST.cells := rfl
      have ha : a.cells.length = 6 := rfl
      refine ⟨?_, ?_, ?_, ?_, ?_, ?_⟩ <;> rw [hf, List.getElem?_append_right (by rw [ha]; omega), ha]
      · rw [show (k + 1) * 6 - 6 = k * 6 by omega]; exact h0
      · rw [show (k + 1) * 6 + 1 - 6 = k * 6 + 1 by omega]; exact h1
      · rw [show (k + 1) * 6 + 2 - 6 = k * 6 + 2 by omega]; exact h2
      · rw [show (k + 1) * 6 + 3 - 6 = k * 6 + 3 by omega]; exact h3
      · rw [show (k + 1) * 6 + 4 - 6 = k * 6 + 4 by omega]; exact h4
      · rw [show (k + 1) * 6 + 5 - 6 = k * 6 + 5 by omega]; exact h5
theorem step_row {w : World} {A : Option Addr} {c n k : Nat} {l : List ST} (h : Sl w 6 (.slice A n c) n (l.flatMap ST.cells)) {e : ST} (hl : l[k]? = some e) :
    ∃ b o, A = some ⟨b, o, none⟩ ∧ b < w.heap.size ∧ w.cell? ⟨b, o + k * 6, none⟩ = some (.int .i64 e.what) ∧ w.cell? ⟨b, o + k * 6 + 1, none⟩ = some (.int .i64 e.seat) ∧ w.cell? ⟨b, o + k * 6 + 2, none⟩ = some (.int .i64 e.mode) ∧ w.cell? ⟨b, o + k * 6 + 3, none⟩ = some (.int .i64 e.now) ∧ w.cell? ⟨b, o + k * 6 + 4, none⟩ = some (.int .i64 e.n) ∧ w.cell? ⟨b, o + k * 6 + 5, none⟩ = some (.int .i64 e.g) := by
  obtain ⟨A', c', e', hr, _⟩ := h
  injection e' with e1 _ e2
  subst e1
  obtain ⟨q0, q1, q2, q3, q4, q5⟩ := steps_at hl
  rcases hr with h0 | ⟨ad, rfl, hc⟩
  · rw [h0] at q0; simp at q0
  · have h0 := hc _ _ q0
    have h1 := hc _ _ q1
    have h2 := hc _ _ q2
    have h3 := hc _ _ q3
    have h4 := hc _ _ q4
    have h5 := hc _ _ q5
    obtain ⟨b, o, spot⟩ := ad
    obtain ⟨e0, he0⟩ : ∃ e0, l[0]? = some e0 := ⟨l[0]'(by have := (List.getElem?_eq_some_iff.1 hl).1; omega), List.getElem?_eq_getElem _⟩
    have hz := hc _ _ (steps_at he0).1
    have es : spot = none := by
      have : (⟨b, o, spot⟩ : Addr).add (0 * 6) = ⟨b, o, spot⟩ := by unfold Addr.add; simp
      rw [this] at hz
      exact World.cell?_spot hz
    subst es
    simp only [Addr.add_lit] at h0 h1 h2 h3 h4 h5
    exact ⟨b, o, rfl, World.block_lt_of_cell? w _ h0, h0, h1, h2, h3, h4, h5⟩
end Go.Proofs.Ytmfgkddndlleoaa
