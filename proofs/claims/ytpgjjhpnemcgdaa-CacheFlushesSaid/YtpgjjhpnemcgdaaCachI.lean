/- Package cache: bytes are filled in. -/
import Derived.Test.YtpgjjhpnemcgdaaCachH
set_option linter.unusedSimpArgs false
set_option linter.unusedVariables false
namespace Go.Proofs.Ytpgjjhpnemcgdaa
open Go.RowKit

attribute [local go_sem ↓] Go.wp_at_zero Go.wp_at_succ
/-- Bytes that were filled in where a set of stretches is. -/
structure FiP (f : Nat) (d D : List UInt8) (L : List St) (D' : List UInt8) : Prop where
  len : D'.length = D.length
  get : ∀ i, i < D.length → (Cov L i → D'[i]? = d[i - f]?) ∧ (¬ Cov L i → D'[i]? = D[i]?)
theorem FiP.nil (f : Nat) (d D : List UInt8) : FiP f d D [] D := ⟨rfl, fun i _ => ⟨fun h => absurd h (cov_nil i), fun _ => rfl⟩⟩
theorem FiP.snoc {f t p q : Nat} {d D D' : List UInt8} {L : List St} (h : FiP f d D L D') (hfp : f ≤ p) (hpq : p < q) (hqt : q ≤ t) (hdt : d.length = t - f) (htD : t ≤ D.length) (Z : List UInt8) (hZ : Z.length = q - p) :
    FiP f d D (L ++ [(p, q)]) (putP (putP D' p Z) p ((d.drop (p - f)).take (q - p))) := by
  have hl := h.len
  have h1 : (putP D' p Z).length = D.length := by rw [putP_len (by omega), hl]
  have h2 : ((d.drop (p - f)).take (q - p)).length = q - p := by rw [List.length_take, List.length_drop]; omega
  refine ⟨by rw [putP_len (by omega), h1], fun i hi => ?_⟩
  rw [putP_get (by omega) i, h2]
  by_cases hin : p ≤ i ∧ i < p + (q - p)
  · rw [if_pos hin]
    have he : ((d.drop (p - f)).take (q - p))[i - p]? = d[i - f]? := by
      rw [List.getElem?_take_of_lt (by omega), List.getElem?_drop]
      congr 1
      omega
    refine ⟨fun _ => he, fun hc => absurd ((cov_app _ _ _).2 (.inr ((cov_one _ _).2 ⟨hin.1, by simp only; omega⟩))) hc⟩
  · rw [if_neg hin, putP_get (by omega) i, hZ, if_neg hin]
    have hci : Cov (L ++ [(p, q)]) i ↔ Cov L i := by
      rw [cov_app, cov_one]
      simp only
      constructor
      · rintro (h | h)
        · exact h
        · omega
      · exact .inl
    rw [hci]
    exact h.get i hi
def FlInv (X : Nat → Prop) (k : Nat) (s : CaS) (f : Nat) (d : List UInt8) (R : List St) (w : World) (v48 : Value) (wr : World) : Prop := ∃ (i : Nat) (D' : List UInt8), i ≤ R.length ∧ v48 = .int .i64 (i : Int) ∧ FiP f d s.data (R.take i) D' ∧ Ca X k { s with data := D' } wr ∧ Keep (fun j => ¬ X j) w wr
end Go.Proofs.Ytpgjjhpnemcgdaa
