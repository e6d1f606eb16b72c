/- What a table of leases is and does, in plain Lean. No program in sight. -/
import Derived.Test.YtmfgkddndlleoaaBase
import Derived.KernelRfl
set_option linter.unusedSimpArgs false
set_option linter.unusedVariables false
namespace Go.Proofs.Ytmfgkddndlleoaa
open Go.RowKit

/-- A lease, or one who waits: the handle's two numbers, the seat, the mode, since when (asked last when). -/
structure LE where
  n : Int
  g : Int
  s : Int
  m : Int
  x : Int
deriving DecidableEq, Inhabited
def LE.cells (e : LE) : List Value := [.int .i64 e.n, .int .i64 e.g, .int .i64 e.s, .int .i64 e.m, .int .i64 e.x]
def LE.val (e : LE) : Value := .agg #[.int .i64 e.n, .int .i64 e.g, .int .i64 e.s, .int .i64 e.m, .int .i64 e.x]
def flat (l : List LE) : List Value := l.flatMap LE.cells
theorem flat_length (l : List LE) : (flat l).length = l.length * 5 := by
  induction l with
  | nil => rfl
  | cons a l ih => simp only [flat, List.flatMap_cons, List.length_append] at ih ⊢; rw [ih]; simp [LE.cells]; omega
theorem flat_append (l m : List LE) : flat (l ++ m) = flat l ++ flat m := by simp [flat]
theorem flat_one (l : List LE) : ∀ u ∈ flat l, u.oneCell' = true := by
  intro u hu
  obtain ⟨e, _, h⟩ := List.mem_flatMap.1 hu
  simp only [LE.cells, List.mem_cons, List.not_mem_nil, or_false] at h
  rcases h with rfl | rfl | rfl | rfl | rfl <;> rfl
theorem flat_at {l : List LE} {k : Nat} {e : LE} (h : l[k]? = some e) : (flat l)[k * 5]? = some (.int .i64 e.n) ∧ (flat l)[k * 5 + 1]? = some (.int .i64 e.g) ∧ (flat l)[k * 5 + 2]? = some (.int .i64 e.s) ∧ (flat l)[k * 5 + 3]? = some (.int .i64 e.m) ∧ (flat l)[k * 5 + 4]? = some (.int .i64 e.x) := by
  induction l generalizing k with
  | nil => simp at h
  | cons a l ih =>
    cases k with
    | zero =>
      simp only [List.getElem?_cons_zero, Option.some.injEq] at h
      subst h
      simp [flat, LE.cells]
    | succ k =>
      obtain ⟨h0, h1, h2, h3, h4⟩ := ih (by simpa using h)
      have hf : flat (a :: l) = a.cells ++ flat l := rfl
      have ha : a.cells.length = 5 := rfl
      refine ⟨?_, ?_, ?_, ?_, ?_⟩ <;> rw [hf, List.getElem?_append_right (by rw [ha]; omega), ha]
      · rw [show (k + 1) * 5 - 5 = k * 5 by omega]; exact h0
      · rw [show (k + 1) * 5 + 1 - 5 = k * 5 + 1 by omega]; exact h1
      · rw [show (k + 1) * 5 + 2 - 5 = k * 5 + 2 by omega]; exact h2
      · rw [show (k + 1) * 5 + 3 - 5 = k * 5 + 3 by omega]; exact h3
      · rw [show (k + 1) * 5 + 4 - 5 = k * 5 + 4 by omega]; exact h4

def clockP (now : Int) : Int := max 0 (min now 1099511627776)
def pastP (since now term : Int) : Bool := decide (term ≤ clockP now - since)
def againstP (a b : Int) : Bool := decide (a = 2) || decide (b = 2)
def rightP (seat mode : Int) : Bool := decide (0 ≤ seat) && decide (seat < 8) && (decide (mode = 1) || decide (mode = 2))
def mineP (n g seat : Int) (e : LE) : Bool := decide (e.n = n ∧ e.g = g) && decide (e.s = seat)
/-- In the way, before its term is looked at. -/
def inWay (n g seat mode : Int) (e : LE) : Bool := decide (e.n = n ∧ e.g = g) && !decide (e.s = seat) && againstP e.m mode
/-- Where the first stands of which p holds; -1: nowhere. -/
def idxP (p : LE → Bool) : List LE → Int
  | [] => -1
  | e :: l => if p e then 0 else if idxP p l = -1 then -1 else idxP p l + 1
theorem idxP_hit {p : LE → Bool} {l : List LE} {k : Nat} {e : LE} (h : l[k]? = some e) (hp : p e = true) (hn : ∀ (j : Nat) a, j < k → l[j]? = some a → p a = false) : idxP p l = k := by
  induction l generalizing k with
  | nil => simp at h
  | cons a l ih =>
    cases k with
    | zero => simp only [List.getElem?_cons_zero, Option.some.injEq] at h; subst h; simp [idxP, hp]
    | succ k =>
      have h0 := hn 0 a (by omega) rfl
      have := ih (k := k) (by simpa using h) (fun j b hj hb => hn (j + 1) b (by omega) (by simpa using hb))
      simp only [idxP, h0, this]
      rw [if_neg (by simp), if_neg (by omega)]
      omega
theorem idxP_miss {p : LE → Bool} {l : List LE} (hn : ∀ (j : Nat) a, l[j]? = some a → p a = false) : idxP p l = -1 := by
  induction l with
  | nil => rfl
  | cons a l ih =>
    have := ih (fun j b hb => hn (j + 1) b (by simpa using hb))
    simp [idxP, hn 0 a rfl, this]
end Go.Proofs.Ytmfgkddndlleoaa
