/- Package field, plain: numbers as bytes, the lowest first. No program in sight. -/
import Derived.Test.YtlcfnehmmjhoiaaGreatBase
set_option linter.unusedSimpArgs false
set_option linter.unusedVariables false
namespace Go.Proofs.YtlcfnehmmjhoiaaGreat
open Go.RowKit

def le : Nat → Nat → List UInt8
  | _, 0 => []
  | n, k + 1 => UInt8.ofNat n :: le (n / 256) k
theorem le_len (n k : Nat) : (le n k).length = k := by
  induction k generalizing n with
  | zero => rfl
  | succ k ih => simp [le, ih]
theorem le_snoc (n k : Nat) : le n (k + 1) = le n k ++ [UInt8.ofNat (n / 256 ^ k)] := by
  induction k generalizing n with
  | zero => simp [le]
  | succ k ih =>
    rw [show le n (k + 1 + 1) = UInt8.ofNat n :: le (n / 256) (k + 1) from rfl, ih (n / 256), show le n (k + 1) = UInt8.ofNat n :: le (n / 256) k from rfl, List.cons_append, Nat.div_div_eq_div_mul, Nat.pow_succ, Nat.mul_comm (256 ^ k)]
def unle : List UInt8 → Nat
  | [] => 0
  | b :: l => b.toNat + 256 * unle l
theorem unle_le (n k : Nat) (h : n < 256 ^ k) : unle (le n k) = n := by
  induction k generalizing n with
  | zero => simp at h; subst h; rfl
  | succ k ih =>
    have h2 : n / 256 < 256 ^ k := by
      rw [Nat.pow_succ] at h
      exact Nat.div_lt_of_lt_mul (by omega)
    have h3 : (UInt8.ofNat n).toNat = n % 256 := by simp
    simp only [le, unle, ih _ h2, h3]
    omega
theorem unle_lt (l : List UInt8) : unle l < 256 ^ l.length := by
  induction l with
  | nil => decide
  | cons b l ih =>
    have := b.toNat_lt
    simp only [unle, List.length_cons, Nat.pow_succ]
    omega
theorem le_unle (l : List UInt8) : le (unle l) l.length = l := by
  induction l with
  | nil => rfl
  | cons b l ih =>
    have hb := b.toNat_lt
    have h1 : (b.toNat + 256 * unle l) / 256 = unle l := by omega
    have h2 : UInt8.ofNat (b.toNat + 256 * unle l) = b := by
      apply UInt8.toNat_inj.1
      simp
    simp only [unle, List.length_cons, le, h1, h2, ih]
/-- The number that bytes are, from the last one on. -/
theorem unle_app (l : List UInt8) (x : UInt8) : unle (l ++ [x]) = unle l + 256 ^ l.length * x.toNat := by
  induction l with
  | nil => simp [unle]
  | cons b l ih =>
    simp only [List.cons_append, unle, ih, List.length_cons, Nat.pow_succ]
    rw [Nat.mul_add, Nat.mul_comm (256 ^ l.length) 256, Nat.mul_assoc]
    omega
/-- The check sum: a bit's step, a byte's, all. -/
def bitS (r : BitVec 32) : BitVec 32 := (r >>> 1) ^^^ (3988292384#32 &&& (0#32 - (r &&& 1#32)))
end Go.Proofs.YtlcfnehmmjhoiaaGreat
