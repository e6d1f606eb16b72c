/- A struct that is stored whole: its cells, one behind the other. No program in sight. -/
import Derived.Test.YtlcfnehmmjhoiaaGreatBase
set_option linter.unusedSimpArgs false
set_option linter.unusedVariables false
namespace Go.Proofs.YtlcfnehmmjhoiaaGreat
open Go.RowKit

def setW (w : World) (k : Nat) : Nat → List Value → World
  | _, [] => w
  | i, v :: l => setW (w.setCell ⟨k, i, none⟩ v) k (i + 1) l
def arrW (cs : Array Value) : Nat → List Value → Array Value
  | _, [] => cs
  | i, v :: l => arrW (cs.setIfInBounds i v) (i + 1) l
theorem setW_blk {k : Nat} {t : TypeId} (l : List Value) (i : Nat) {w : World} {cs : Array Value} (h : w.heap[k]? = some (.cells cs t (0, 0))) : (setW w k i l).heap[k]? = some (.cells (arrW cs i l) t (0, 0)) := by
  induction l generalizing i w cs with
  | nil => exact h
  | cons v l ih => exact ih (i + 1) (blk_set (j := i) h v)
theorem setW_keep {k : Nat} (l : List Value) (i : Nat) (w : World) : Keep (fun j => j = k) w (setW w k i l) := by
  induction l generalizing i w with
  | nil => exact Keep.refl _ _
  | cons v l ih => exact ((Keep.refl (fun j => j = k) w).setCell (p := ⟨k, i, none⟩) (fun _ => rfl) v).trans (ih (i + 1) _) (fun _ _ h => h)
theorem arrW_get (l : List Value) (cs : Array Value) (i j : Nat) : (arrW cs i l)[j]? = if i ≤ j ∧ j < i + l.length ∧ j < cs.size then l[j - i]? else cs[j]? := by
  induction l generalizing cs i with
  | nil =>
    simp only [arrW, List.length_nil, Nat.add_zero]
    rw [if_neg (by omega)]
  | cons v l ih =>
    simp only [arrW]
    rw [ih, Array.size_setIfInBounds]
    by_cases h : i + 1 ≤ j ∧ j < i + 1 + l.length ∧ j < cs.size
    · rw [if_pos h, if_pos ⟨by omega, by rw [List.length_cons]; omega, h.2.2⟩, show j - i = (j - (i + 1)) + 1 by omega, List.getElem?_cons_succ]
    · rw [if_neg h, Array.getElem?_setIfInBounds]
      by_cases h2 : i = j
      · subst h2
        by_cases h3 : i < cs.size
        · rw [if_pos rfl, if_pos h3, if_pos ⟨Nat.le_refl _, by rw [List.length_cons]; omega, h3⟩, Nat.sub_self]
          rfl
        · rw [if_pos rfl, if_neg h3, if_neg (fun q => h3 q.2.2), Array.getElem?_eq_none (by omega)]
      · rw [if_neg h2, if_neg]
        intro q
        rw [List.length_cons] at q
        exact h ⟨by omega, by omega, q.2.2⟩
theorem arrW_size (l : List Value) (cs : Array Value) (i : Nat) : (arrW cs i l).size = cs.size := by
  induction l generalizing cs i with
  | nil => rfl
  | cons v l ih => simp only [arrW]; rw [ih, Array.size_setIfInBounds]
/-- All cells of a block written. -/
theorem setW_all {k : Nat} {t : TypeId} {w : World} {cs : Array Value} (h : w.heap[k]? = some (.cells cs t (0, 0))) (l : List Value) (hl : l.length = cs.size) : (setW w k 0 l).heap[k]? = some (.cells l.toArray t (0, 0)) := by
  rw [setW_blk l 0 h]
  have e : arrW cs 0 l = l.toArray := by
    apply Array.ext_getElem?
    intro j
    rw [arrW_get]
    by_cases hj : j < cs.size
    · rw [if_pos ⟨Nat.zero_le _, by omega, hj⟩]
      simp
    · rw [if_neg (fun q => hj q.2.2), Array.getElem?_eq_none (by omega), Array.getElem?_eq_none (by simp; omega)]
  rw [e]
end Go.Proofs.YtlcfnehmmjhoiaaGreat
