/- How the numbers and the bytes of the laws of fills and flushes look when they came in. -/
import Derived.Test.YtpgjjhpnemcgdaaCachFillsWalk
import Derived.Test.YtpgjjhpnemcgdaaOpen
import Derived.Test.YtpgjjhpnemcgdaaRows
import Derived.KernelRfl
set_option linter.unusedSimpArgs false
set_option linter.unusedVariables false
namespace Go.Proofs.Ytpgjjhpnemcgdaa
open Go.ChangeShapes Go.WideShapes Go.ChangeAt Go.RowKit

theorem u8_in {x : Int} (h : (Lit.int .u8 x).wf = true) : 0 ≤ x ∧ x ≤ 255 := by
  simp only [Lit.wf, Bool.and_eq_true, decide_eq_true_eq] at h
  exact h
theorem u16_in {x : Int} (h : (Lit.int .u16 x).wf = true) : 0 ≤ x ∧ x ≤ 65535 := by
  simp only [Lit.wf, Bool.and_eq_true, decide_eq_true_eq] at h
  exact h
theorem sl_blk {w : World} {A : Option Addr} {c : Nat} {b : List UInt8} (h : Sl w 1 (.slice A b.length c) b.length (bv b)) (ad : Addr) (e : A = some ad) (h0 : 0 < b.length) : ad.block < w.heap.size ∧ ∀ j v, (bv b)[j]? = some v → w.cell? (ad.add j) = some v := by
  obtain ⟨A', c', e', hr, _⟩ := h
  injection e' with e1 _ _
  subst e1 e
  have hne : bv b ≠ [] := fun e => by rw [bv_eq_nil] at e; subst e; simp at h0
  refine ⟨hr.lt hne, ?_⟩
  rcases hr with h | ⟨ad', e', h⟩
  · exact absurd h hne
  · obtain rfl := Option.some.inj e'
    exact h
theorem fills_open (x0 x1 x3 : Int) (h0 : (Lit.int .u16 x0).wf = true) (h1 : (Lit.int .u16 x1).wf = true) (h3 : (Lit.int .u8 x3).wf = true) (b : List UInt8) (A : Option Addr) (bc : Nat) (w : World) (h : Sl w 1 (.slice A b.length bc) b.length (bv b)) (hl : b.length ≤ 140737488351232) :
    Calls Try.prog 3 #[.int .u16 x0, .int .u16 x1, .slice A b.length bc, .int .u8 x3] w fun e w' => e = .returned (.bool true) ∧ Below w.heap.size w w' := by
  have a0 := u16_in h0
  have a1 := u16_in h1
  have a3 := u8_in h3
  obtain ⟨n0, rfl⟩ : ∃ n : Nat, x0 = (n : Int) := ⟨x0.toNat, by omega⟩
  obtain ⟨n1, rfl⟩ : ∃ n : Nat, x1 = (n : Int) := ⟨x1.toNat, by omega⟩
  obtain ⟨n3, rfl⟩ : ∃ n : Nat, x3 = (n : Int) := ⟨x3.toNat, by omega⟩
  refine fills_walk n0 n1 n3 (by omega) (by omega) (by omega) b A bc w ?_ ?_ hl ?_
  · obtain ⟨A', c', e', _, _, hc, _⟩ := h
    injection e' with _ _ e3
    subst e3
    exact hc
  · obtain ⟨A', c', e', _, hz, _⟩ := h
    injection e' with e1 _ _
    subst e1
    exact fun e => (hz e).1
  · exact fun ad e => sl_blk h ad e
end Go.Proofs.Ytpgjjhpnemcgdaa
