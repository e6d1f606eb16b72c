/- Package cache: what is missing, in plain words. -/
import Derived.Test.YtpgjjhpnemcgdaaCachO
set_option linter.unusedSimpArgs false
set_option linter.unusedVariables false
namespace Go.Proofs.Ytpgjjhpnemcgdaa
open Go.RowKit

/-- Missing's answer: nothing, and all is known; or the first stretch that is not. -/
theorem miss_law (s : CaS) (hK : KB s.known) (hs : s.size ≤ 9728) :
    (missP s 0 9728 = (0, 0, false) ∧ ∀ i, i < s.size → Cov s.known i) ∨
    ∃ p c, missP s 0 9728 = (p, c, true) ∧ 0 < c ∧ p + c ≤ s.size ∧ (∀ i, i < p → Cov s.known i) ∧ ∀ i, p ≤ i → i < p + c → ¬ Cov s.known i := by
  by_cases h0 : s.size = 0
  · left
    have hp : partN s 0 9728 = (0, 0) := by unfold partN; rw [if_pos (by omega)]
    refine ⟨?_, fun i hi => by omega⟩
    unfold missP
    rw [hp, if_neg (by decide)]
  · have hp : partN s 0 9728 = (0, s.size) := by
      unfold partN
      rw [if_neg (by omega)]
      simp only [Prod.mk.injEq, true_and]
      omega
    have hps : PS [((0, s.size) : St)] := PS.single ⟨by simp only; omega, by simp only; omega⟩
    obtain ⟨h1, h2⟩ := less_law hps hK.ps
    have hcv : ∀ n, Cov [((0, s.size) : St)] n ↔ n < s.size := fun n => by
      rw [cov_cons]
      constructor
      · rintro (⟨_, h⟩ | h)
        · exact h
        · exact absurd h (cov_nil n)
      · exact fun h => .inl ⟨Nat.zero_le _, h⟩
    have hq : ((0, s.size) : Nat × Nat).1 < ((0, s.size) : Nat × Nat).2 := by simp only; omega
    cases hL : lessP [((0, s.size) : St)] s.known with
    | nil =>
      left
      rw [hL] at h2
      have hm : missP s 0 9728 = (0, 0, false) := by unfold missP; rw [hp, if_pos hq, hL]
      refine ⟨hm, fun i hi => ?_⟩
      by_cases hc : Cov s.known i
      · exact hc
      · exact absurd ((h2 i).2 ⟨(hcv i).2 hi, hc⟩) (cov_nil i)
    | cons r T =>
      right
      rw [hL] at h2 h1
      have hm : missP s 0 9728 = (r.1, r.2 - r.1, true) := by unfold missP; rw [hp, if_pos hq, hL]
      obtain ⟨ht, hlt⟩ := h1.tail
      have hr : r.1 < r.2 := (h1.one r (by simp)).1
      have hin : ∀ i, r.1 ≤ i → i < r.2 → i < s.size ∧ ¬ Cov s.known i := fun i ha hb => by
        have := (h2 i).1 ((cov_cons r T i).2 (.inl ⟨ha, hb⟩))
        exact ⟨(hcv i).1 this.1, this.2⟩
      have hle : r.2 ≤ s.size := by have := (hin (r.2 - 1) (by omega) (by omega)).1; omega
      refine ⟨r.1, r.2 - r.1, hm, by omega, by omega, fun i hi => ?_, fun i ha hb => (hin i ha (by omega)).2⟩
      by_cases hc : Cov s.known i
      · exact hc
      · have := (h2 i).2 ⟨(hcv i).2 (by omega), hc⟩
        rcases (cov_cons r T i).1 this with h | ⟨q, hq, h, _⟩
        · omega
        · have := hlt q hq; omega
end Go.Proofs.Ytpgjjhpnemcgdaa
