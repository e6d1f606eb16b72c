/- One more name put where it belongs: the plain law. -/
import Derived.Test.YtcganoomgdabkaaDoorEntry8
set_option linter.unusedSimpArgs false
set_option linter.unusedVariables false
namespace Go.Proofs.YtcganoomgdabkaaDoor
open Go.RowKit

abbrev leS : Str → Str → Prop := fun x y => x ≤ y
theorem sortS_sorted (o : List Str) : (sortS o).Pairwise leS := by
  have := List.pairwise_mergeSort (le := fun x y : Str => decide (x ≤ y)) (fun a b c h k => by simp at h k ⊢; exact List.le_trans h k) (fun a b => by simp; exact List.le_total a b) o
  exact this.imp (fun h => by simpa using h)
theorem sortS_perm (o : List Str) : (sortS o).Perm o := List.mergeSort_perm o _
theorem sortS_unique {o s : List Str} (h : s.Pairwise leS) (p : s.Perm o) : s = sortS o :=
  List.Perm.eq_of_pairwise (le := leS) (fun a b _ _ h k => List.le_antisymm h k) h (sortS_sorted o) (p.trans (sortS_perm o).symm)
/-- Behind how many texts a text is put: as the loop finds it, having looked at the first j. -/
def atP (x : Str) (o : List Str) : Nat → Nat
  | 0 => 0
  | j + 1 => if (o.getD j []) ≤ x then j + 1 else atP x o j
theorem atP_le (x : Str) (o : List Str) (j : Nat) : atP x o j ≤ j := by
  induction j with
  | zero => exact Nat.le_refl _
  | succ j ih => simp only [atP]; split <;> omega
theorem atP_behind (x : Str) (o : List Str) (j k : Nat) (hk : atP x o j ≤ k) (hkj : k < j) : ¬ o.getD k [] ≤ x := by
  induction j with
  | zero => omega
  | succ j ih =>
    simp only [atP] at hk
    split at hk
    · omega
    · rename_i h
      rcases Nat.lt_or_ge k j with h2 | h2
      · exact ih hk h2
      · obtain rfl : k = j := by omega
        exact h
theorem atP_last (x : Str) (o : List Str) (j : Nat) (h : 0 < atP x o j) : o.getD (atP x o j - 1) [] ≤ x := by
  induction j with
  | zero => simp [atP] at h
  | succ j ih =>
    simp only [atP] at h ⊢
    split
    · rename_i h2; simpa using h2
    · rename_i h2; rw [if_neg h2] at h; exact ih h
def insP (x : Str) (o : List Str) : List Str := o.take (atP x o o.length) ++ [x] ++ o.drop (atP x o o.length)
theorem insP_length (x : Str) (o : List Str) : (insP x o).length = o.length + 1 := by
  have := atP_le x o o.length
  simp [insP]
  omega
theorem insP_sort (x : Str) (xs : List Str) : insP x (sortS xs) = sortS (xs ++ [x]) := by
  have hs := sortS_sorted xs
  have hp := sortS_perm xs
  generalize sortS xs = o at *
  obtain ⟨a, ha⟩ : ∃ a, a = atP x o o.length := ⟨_, rfl⟩
  have hal : a ≤ o.length := ha ▸ atP_le x o o.length
  have hsa : (o.take a ++ o.drop a).Pairwise leS := by rw [List.take_append_drop]; exact hs
  rw [List.pairwise_append] at hsa
  have h1 : ∀ y ∈ o.take a, leS y x := by
    intro y hy
    obtain ⟨k, hk⟩ := List.mem_iff_getElem?.1 hy
    rw [List.getElem?_take] at hk
    split at hk
    · rename_i hka
      have hl := atP_last x o o.length (by omega)
      rw [← ha] at hl
      rcases Nat.lt_or_ge k (a - 1) with h2 | h2
      · obtain ⟨z, hz⟩ : ∃ z, o[a - 1]? = some z := ⟨o[a - 1]'(by omega), List.getElem?_eq_getElem _⟩
        rw [List.getD_eq_getElem?_getD, hz] at hl
        have hkl := (List.getElem?_eq_some_iff.1 hk).1
        have hzl := (List.getElem?_eq_some_iff.1 hz).1
        have := List.pairwise_iff_getElem.1 hs k (a - 1) hkl hzl h2
        rw [(List.getElem?_eq_some_iff.1 hk).2, (List.getElem?_eq_some_iff.1 hz).2] at this
        exact List.le_trans this hl
      · obtain rfl : k = a - 1 := by omega
        rw [List.getD_eq_getElem?_getD, hk] at hl
        exact hl
    · cases hk
  have h2 : ∀ y ∈ o.drop a, leS x y := by
    intro y hy
    obtain ⟨k, hk⟩ := List.mem_iff_getElem?.1 hy
    rw [List.getElem?_drop] at hk
    have hkl := (List.getElem?_eq_some_iff.1 hk).1
    have := atP_behind x o o.length (a + k) (by rw [← ha]; omega) hkl
    rw [List.getD_eq_getElem?_getD, hk] at this
    rcases List.le_total y x with h | h
    · exact absurd h this
    · exact h
  refine sortS_unique ?_ ?_
  · unfold insP
    rw [← ha, List.append_assoc, List.pairwise_append]
    refine ⟨hsa.1, ?_, ?_⟩
    · rw [List.singleton_append, List.pairwise_cons]
      exact ⟨h2, hsa.2.1⟩
    · intro y hy z hz
      rcases List.mem_append.1 hz with hz | hz
      · simp at hz; subst hz; exact h1 y hy
      · exact hsa.2.2 y hy z hz
  · unfold insP
    rw [← ha]
    have e : (o.take a ++ [x] ++ o.drop a).Perm (o ++ [x]) := by
      rw [List.append_assoc]
      have : (o.take a ++ ([x] ++ o.drop a)).Perm (o.take a ++ (o.drop a ++ [x])) := List.Perm.append_left _ List.perm_append_comm
      refine this.trans ?_
      rw [← List.append_assoc, List.take_append_drop]
    exact e.trans (List.Perm.append_right _ hp)
end Go.Proofs.YtcganoomgdabkaaDoor
