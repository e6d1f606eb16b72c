/- wait. -/
import Derived.Test.YtmfgkddndlleoaaLeaseB5
import Derived.Deep.RegionLaw
import Derived.Deep.DrawnRows
set_option linter.unusedSimpArgs false
set_option linter.unusedVariables false
namespace Go.Proofs.Ytmfgkddndlleoaa
open Go.RowKit

/-- One more, or in the place of the one that is there. -/
def waitP (x : LE) : List LE → List LE
  | [] => [x]
  | a :: l => if mineP x.n x.g x.s a = true then x :: l else a :: waitP x l
theorem waitP_miss {x : LE} {l : List LE} (h : ∀ (j : Nat) a, l[j]? = some a → mineP x.n x.g x.s a = false) : waitP x l = l ++ [x] := by
  induction l with
  | nil => rfl
  | cons a l ih =>
    have h0 := h 0 a rfl
    simp only [waitP, h0, Bool.false_eq_true, if_false, List.cons_append, List.cons.injEq, true_and]
    exact ih fun j b hb => h (j + 1) b (by simpa using hb)
theorem waitP_hit {x e : LE} {l : List LE} {k : Nat} (hk : l[k]? = some e) (hp : mineP x.n x.g x.s e = true) (h : ∀ (j : Nat) a, j < k → l[j]? = some a → mineP x.n x.g x.s a = false) : waitP x l = l.set k x := by
  induction l generalizing k with
  | nil => simp at hk
  | cons a l ih =>
    cases k with
    | zero => simp only [List.getElem?_cons_zero, Option.some.injEq] at hk; subst hk; simp [waitP, hp]
    | succ k =>
      have h0 := h 0 a (by omega) rfl
      simp only [waitP, h0, Bool.false_eq_true, if_false, List.set_cons_succ, List.cons.injEq, true_and]
      exact ih (by simpa using hk) fun j b hj hb => h (j + 1) b (by omega) (by simpa using hb)
theorem mineP_eq {n g s : Int} {e : LE} (h : mineP n g s e = true) : e.n = n ∧ e.g = g ∧ e.s = s := by
  simp only [mineP, Bool.and_eq_true, decide_eq_true_eq] at h
  exact ⟨h.1.1, h.1.2, h.2⟩
theorem flat_set2 {l : List LE} {k : Nat} {e : LE} (h : l[k]? = some e) (m x : Int) : ((flat l).set (k * 5 + 3) (.int .i64 m)).set (k * 5 + 4) (.int .i64 x) = flat (l.set k ⟨e.n, e.g, e.s, m, x⟩) := by
  induction l generalizing k with
  | nil => simp at h
  | cons a l ih =>
    have hf : flat (a :: l) = a.cells ++ flat l := rfl
    have ha : a.cells.length = 5 := rfl
    cases k with
    | zero =>
      simp only [List.getElem?_cons_zero, Option.some.injEq] at h
      subst h
      rfl
    | succ k =>
      rw [hf, List.set_append_right _ _ (by omega), List.set_append_right _ _ (by omega), List.set_cons_succ, ha, show (k + 1) * 5 + 3 - 5 = k * 5 + 3 by omega, show (k + 1) * 5 + 4 - 5 = k * 5 + 4 by omega, ih (by simpa using h)]
      rfl
theorem flat_set5 {l : List LE} {k : Nat} (hk : k < l.length) (e : LE) : (((((flat l).set (k * 5) (.int .i64 e.n)).set (k * 5 + 1) (.int .i64 e.g)).set (k * 5 + 2) (.int .i64 e.s)).set (k * 5 + 3) (.int .i64 e.m)).set (k * 5 + 4) (.int .i64 e.x) = flat (l.set k e) := by
  induction l generalizing k with
  | nil => simp at hk
  | cons a l ih =>
    have hf : flat (a :: l) = a.cells ++ flat l := rfl
    have ha : a.cells.length = 5 := rfl
    cases k with
    | zero => rfl
    | succ k =>
      rw [hf, List.set_append_right _ _ (by omega), List.set_append_right _ _ (by omega), List.set_append_right _ _ (by omega), List.set_append_right _ _ (by omega), List.set_append_right _ _ (by omega), List.set_cons_succ, ha, show (k + 1) * 5 + 3 - 5 = k * 5 + 3 by omega, show (k + 1) * 5 + 4 - 5 = k * 5 + 4 by omega, show (k + 1) * 5 + 2 - 5 = k * 5 + 2 by omega, show (k + 1) * 5 + 1 - 5 = k * 5 + 1 by omega, show (k + 1) * 5 - 5 = k * 5 by omega, ih (by simpa using hk)]
      rfl
theorem own_put {w : World} {T size n b c j : Nat} {xs : List Value} (h : w.ownsRow 0 T size (.slice (some ⟨b, 0, none⟩) n c) n xs) (v : Value) :
    (w.setCell ⟨b, j, none⟩ v).ownsRow 0 T size (.slice (some ⟨b, 0, none⟩) n c) n (xs.set j v) := by
  obtain ⟨cur, hb, h1, h2, h3, h4⟩ := own_row h
  refine ⟨by rw [List.length_set]; exact h.1, .inr ⟨b, c, _, rfl, Nat.zero_le _, blk_set (j := j) hb v, h1, h2, by simpa using h3, ?_⟩⟩
  rw [← h4]
  simp [List.take_set]
/-- How a call of a table ends. -/
def TabEnd (t : Nat) (born : Int) (L' Q' : List LE) (A B : Option Addr) (w : World) (r : Value) (e : Ending) (w' : World) : Prop :=
  e = .returned r ∧ ∃ A' B' c' d', Tab w' t born L' Q' A' B' c' d' ∧ Keep (tabOwn t A B) w w' ∧ ∀ k, tabOwn t A' B' k → tabOwn t A B k ∨ w.heap.size ≤ k
theorem flat_snoc (l : List LE) (e : LE) : flat (l ++ [e]) = flat l ++ e.cells := by simp [flat]
/-- The waiting line grew by one. -/
theorem TabEnd.moreQ {t : Nat} {born : Int} {L Q : List LE} {A B : Option Addr} {c d : Nat} {w w2 : World} {e : LE} {x : Obj} {w1 : World} {B2 : Option Addr} {d2 : Nat} (h : Tab w t born L Q A B c d) (hk : Below w.heap.size w w1)
    (hf : L.length + Q.length < 1000000) (he : 0 ≤ e.x ∧ e.x ≤ 1099511627776) (hl : w1.heap.size = w1.heap.size)
    (g1 : w2.ownsRow 0 66 5 (.slice B2 (Q.length + 1) d2) (Q.length + 1) (flat Q ++ e.cells)) (g2 : Keep (fun k => (Value.slice B Q.length d).ownBlock = some k) (w1.alloc x) w2)
    (g3 : (Value.slice B2 (Q.length + 1) d2).ownBlock = (Value.slice B Q.length d).ownBlock ∨ (Value.slice B2 (Q.length + 1) d2).ownBlock = some (w1.heap.size + 1)) :
    w2.heap[t]? = some (.cells #[.int .i64 born, .slice A L.length c, .slice B Q.length d] 44 (0, 0)) ∧
    TabEnd t born L (Q ++ [e]) A B w (.tuple #[]) (.returned (.tuple #[])) (w2.setCell ⟨t, 2, none⟩ (.slice B2 (Q.length + 1) d2)) := by
  have hlt := h.lt
  have k1 : Keep (fun k => B.map (·.block) = some k) w w2 := ((Keep.of_below (S := fun k => B.map (·.block) = some k) hk).alloc x).trans g2 (fun i _ e => by rw [ownBlock_slice] at e; exact e)
  have hBt : ¬ B.map (·.block) = some t := fun e => own_ne_blk h.ownQ h.blk (by decide) (by rw [ownBlock_slice]; exact e) rfl
  have hAB : ∀ k, A.map (·.block) = some k → ¬ B.map (·.block) = some k := fun k e1 e2 => own_ne h.ownL h.ownQ (by decide) (by rw [ownBlock_slice]; exact e1) (by rw [ownBlock_slice]; exact e2)
  have hlen : (Q ++ [e]).length = Q.length + 1 := by simp
  have g1' : w2.ownsRow 0 66 5 (.slice B2 (Q ++ [e]).length d2) (Q ++ [e]).length (flat (Q ++ [e])) := by rw [hlen, flat_snoc]; exact g1
  have hin : inClock (Q ++ [e]) := by
    intro a ha
    rcases List.mem_append.1 ha with h1 | h1
    · exact h.cq a h1
    · rw [List.mem_singleton.1 h1]; exact he
  obtain ⟨t1, t2⟩ := h.putQ k1 hBt hAB g1' hin (by rw [hlen]; omega)
  refine ⟨k1.blk h.blk hBt, rfl, A, B2, c, d2, by rw [hlen] at t1; exact t1, (k1.mono (fun _ _ e => .inr (.inr e))).trans (by rw [hlen] at t2; exact t2) (fun i _ e => .inl e), ?_⟩
  rintro k (rfl | e1 | e1)
  · exact .inl (.inl rfl)
  · exact .inl (.inr (.inl e1))
  · rcases g3 with e2 | e2
    · rw [ownBlock_slice, ownBlock_slice, e1] at e2
      exact .inl (.inr (.inr e2.symm))
    · rw [ownBlock_slice, e1] at e2
      injection e2 with e2
      have := hk.size
      exact .inr (by omega)
end Go.Proofs.Ytmfgkddndlleoaa
