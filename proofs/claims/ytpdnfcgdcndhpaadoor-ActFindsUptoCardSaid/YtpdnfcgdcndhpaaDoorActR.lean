/- Plain laws of scripts: what Acts says of lines; where a line ends. -/
import Derived.Test.YtpdnfcgdcndhpaaDoorActQ
set_option linter.unusedSimpArgs false
set_option linter.unusedVariables false
namespace Go.Proofs.YtpdnfcgdcndhpaaDoor
open Go.RowKit

theorem actsGo_pre : ∀ (f : Nat) (t : Str) (out : List ActP) (n : Int), (actsGo f t out n).2.2 = 0 → ∃ r, (actsGo f t out n).1 = out ++ r
  | 0, t, out, n, _ => ⟨[], by simp [actsGo]⟩
  | f + 1, t, out, n, h => by
    rw [actsGo] at h ⊢
    by_cases ht : t = []
    · rw [if_pos ht] at h ⊢
      by_cases hb : 4096 < out.length
      · rw [if_pos hb] at h; exact absurd h (by decide)
      · rw [if_neg hb]; exact ⟨[], by simp⟩
    · rw [if_neg ht] at h ⊢
      cases ha : actOf (Lib.cut t [10]).1 with
      | none => rw [ha] at h; exact absurd h (by simp)
      | some x =>
        rw [ha] at h
        obtain ⟨r, hr⟩ := actsGo_pre f _ _ _ h
        exact ⟨x :: r, by simp only; rw [hr]; simp⟩
theorem cut_at {t : Str} {k : Nat} (hk : k ≤ t.length) (hc : ∀ c ∈ t.take k, c ≠ 10) (he : k = t.length ∨ t[k]? = some 10) : (Lib.cut t [10]).1 = t.take k ∧ (Lib.cut t [10]).2.1 = t.drop (k + 1) := by
  rcases he with rfl | he
  · rw [List.take_length] at hc ⊢
    unfold Lib.cut
    rw [index_miss 10 t hc]
    simp
  · have hd : t = t.take k ++ 10 :: t.drop (k + 1) := by
      have h1 : k < t.length := (List.getElem?_eq_some_iff.1 he).1
      have h2 := (List.getElem?_eq_some_iff.1 he).2
      rw [← h2, List.getElem_cons_drop, List.take_append_drop]
    have hi : Lib.index t [10] = (k : Int) := by
      have := index_hit 10 (t.drop (k + 1)) (t.take k) hc
      rw [← hd, List.length_take, Nat.min_eq_left hk] at this
      exact this
    unfold Lib.cut
    rw [hi, if_pos (Int.natCast_nonneg k)]
    simp
theorem line_no10 (x : ActP) : ∀ c ∈ jnW (writeP x), c ≠ 10 := fun c hc e => by
  have := (line_chars x c hc).1
  rw [e] at this
  exact absurd this (by decide)
theorem cut_ln (x : ActP) (r : Str) : (Lib.cut (lnP x ++ r) [10]).1 = jnW (writeP x) ∧ (Lib.cut (lnP x ++ r) [10]).2.1 = r := by
  have e : lnP x ++ r = jnW (writeP x) ++ 10 :: r := by unfold lnP; simp
  have := cut_at (t := lnP x ++ r) (k := (jnW (writeP x)).length) (by rw [e, List.length_append]; omega) (by rw [e, List.take_left]; exact line_no10 x) (Or.inr (by rw [e, List.getElem?_append_right (Nat.le_refl _)]; simp))
  rw [this.1, this.2, e]
  refine ⟨List.take_left, ?_⟩
  rw [List.drop_append, List.drop_of_length_le (by omega)]
  simp
theorem actsGo_lines : ∀ (xs : List ActP) (f : Nat) (out : List ActP) (n : Int), (xs.flatMap lnP).length < f → (∀ x ∈ xs, okP x = true) → actsGo f (xs.flatMap lnP) out n = if 4096 < (out ++ xs).length then ([], 0, 9) else (out ++ xs, 0, 0)
  | [], 0, _, _, h, _ => by simp at h
  | [], f + 1, out, n, _, _ => by rw [actsGo, if_pos (by rfl)]; simp
  | x :: xs, 0, _, _, h, _ => by simp at h
  | x :: xs, f + 1, out, n, h, hk => by
    rw [List.flatMap_cons] at h ⊢
    have hne : lnP x ++ xs.flatMap lnP ≠ [] := by unfold lnP; simp
    have hc := cut_ln x (xs.flatMap lnP)
    rw [actsGo, if_neg hne, hc.1, hc.2, act_of_line x (hk x (by simp))]
    simp only
    rw [actsGo_lines xs f (out ++ [x]) (n + 1) (by rw [List.length_append] at h; unfold lnP at h ⊢; simp only [List.length_append, List.length_singleton] at h ⊢; omega) (fun y hy => hk y (by simp [hy]))]
    simp
theorem acts_of_lines {xs : List ActP} (h1 : (xs.flatMap lnP).length ≤ 65536) (h2 : xs.length ≤ 4096) (hk : ∀ x ∈ xs, okP x = true) : actsP (xs.flatMap lnP) = (xs, 0, 0) := by
  unfold actsP
  rw [if_neg (by omega), actsGo_lines xs _ [] 0 (by omega) hk, if_neg (by simp; omega)]
  simp
theorem script_ok {xs : List ActP} (hk : ∀ x ∈ xs, okP x = true) : scriptP xs = if 65536 < (xs.flatMap lnP).length ∨ 4096 < xs.length then ([], 9) else (xs.flatMap lnP, 0) := by
  unfold scriptP
  rw [if_pos (List.all_eq_true.2 hk)]
theorem script_bad {xs : List ActP} {x : ActP} (hx : x ∈ xs) (h : okP x = false) : scriptP xs = ([], 1) := by
  unfold scriptP
  rw [if_neg (fun ha => by rw [List.all_eq_true.1 ha x hx] at h; cases h)]
end Go.Proofs.YtpdnfcgdcndhpaaDoor
