/- Whole numbers as floats (plain laws): the word of a whole number, how two stand to each other, and back. -/
import Derived.WalkKit
import Derived.ProofKit
import Derived.WalkLawsBesides
set_option linter.unusedSimpArgs false
set_option linter.unusedVariables false
namespace Go.Proofs.Ytpgjjhpnemcgdaa
open Go.RowKit

/-- The word of a whole number. -/
def fb (n : Nat) : Nat := FloatKind.f64.nearest (n : Int)
theorem log_lt {m l : Nat} (h : m < 2 ^ 53) (hm : m ≠ 0) : m.log2 ≤ 52 ∧ 2 ^ m.log2 ≤ m ∧ m < 2 ^ (m.log2 + 1) := by
  have h1 := Nat.log2_self_le hm
  have h2 := Nat.lt_log2_self (n := m)
  refine ⟨?_, h1, h2⟩
  apply Nat.le_of_lt_succ
  exact (Nat.log2_lt hm).2 h
theorem fb_zero : fb 0 = 0 := by decide +kernel
theorem kept_in {m : Nat} (h : m < 2 ^ 53) (hm : m ≠ 0) : 2 ^ 52 ≤ m * 2 ^ (52 - m.log2) ∧ m * 2 ^ (52 - m.log2) < 2 ^ 53 := by
  obtain ⟨h1, h2, h3⟩ := log_lt (l := 0) h hm
  constructor
  · calc 2 ^ 52 = 2 ^ m.log2 * 2 ^ (52 - m.log2) := by rw [← Nat.pow_add]; congr 1; omega
      _ ≤ _ := Nat.mul_le_mul_right _ h2
  · calc m * 2 ^ (52 - m.log2) < 2 ^ (m.log2 + 1) * 2 ^ (52 - m.log2) := Nat.mul_lt_mul_of_pos_right h3 (Nat.two_pow_pos _)
      _ = 2 ^ 53 := by rw [← Nat.pow_add]; congr 1; omega
theorem fb_pos {m : Nat} (h : m < 2 ^ 53) (hm : m ≠ 0) : fb m = (m.log2 + 1022) * 2 ^ 52 + m * 2 ^ (52 - m.log2) := by
  obtain ⟨h1, h2, h3⟩ := log_lt (l := 0) h hm
  obtain ⟨k1, k2⟩ := kept_in h hm
  have e0 : decide ((m : Int) < 0) = false := by simp
  unfold fb FloatKind.nearest FloatKind.encode FloatKind.format
  simp only [e0, Int.natAbs_natCast, Ieee.Format.write, Ieee.Format.nearest, if_neg hm]
  have l1 : Ieee.double.leastPlace = -1074 := by decide
  have f1 : Ieee.double.fractionBits = 52 := rfl
  have b1 : Ieee.double.binade = 2 ^ 52 := rfl
  have i1 : Ieee.double.infRung = 2047 * 2 ^ 52 := by decide
  rw [l1, f1, b1, i1]
  have hl : max ((0 : Int) + (m.log2 : Int) - (52 : Nat)) (-1074) = (m.log2 : Int) - 52 := by omega
  rw [hl]
  have p1 : ((0 : Int) - ((m.log2 : Int) - 52)).toNat = 52 - m.log2 := by omega
  have p2 : ((m.log2 : Int) - 52 - 0).toNat = 0 := by omega
  have p3 : ((m.log2 : Int) - 52 - (-1074)).toNat = m.log2 + 1022 := by omega
  rw [p1, p2, p3]
  have hc : Ieee.Toward.cut .even false (m <<< (52 - m.log2)) 0 = m * 2 ^ (52 - m.log2) := by
    unfold Ieee.Toward.cut
    simp [Nat.shiftLeft_eq, Nat.mod_one]
  rw [hc]
  unfold Ieee.Format.word
  simp only [Bool.false_eq_true, if_false]
  rw [Nat.min_eq_left]
  generalize m * 2 ^ (52 - m.log2) = k at k2 ⊢
  generalize m.log2 = l at h1 ⊢
  simp only [Nat.reducePow] at k2 ⊢
  omega
theorem fb_read {m : Nat} (h : m < 2 ^ 53) (hm : m ≠ 0) : FloatKind.f64.decode (fb m) = .number false (m * 2 ^ (52 - m.log2)) ((m.log2 : Int) - 52) := by
  obtain ⟨h1, h2, h3⟩ := log_lt (l := 0) h hm
  obtain ⟨k1, k2⟩ := kept_in h hm
  rw [fb_pos h hm]
  generalize hk : m * 2 ^ (52 - m.log2) = k at k1 k2 ⊢
  generalize hl : m.log2 = l at h1 ⊢
  have s1 : Ieee.double.signWeight = 2 ^ 63 := rfl
  have l1 : Ieee.double.leastPlace = -1074 := by decide
  have b1 : Ieee.double.binade = 2 ^ 52 := rfl
  have i1 : Ieee.double.infRung = 2047 * 2 ^ 52 := by decide
  unfold FloatKind.decode FloatKind.format Ieee.Format.read
  simp only [s1, b1, i1, l1]
  have e1 : ((l + 1022) * 2 ^ 52 + k) / 2 ^ 63 = 0 := Nat.div_eq_of_lt (by omega)
  have e2 : ((l + 1022) * 2 ^ 52 + k) % 2 ^ 63 = (l + 1022) * 2 ^ 52 + k := Nat.mod_eq_of_lt (by omega)
  rw [e1, e2, if_neg (by omega), if_pos (by omega)]
  have e3 : ((l + 1022) * 2 ^ 52 + k) % 2 ^ 52 = k - 2 ^ 52 := by omega
  have e4 : ((l + 1022) * 2 ^ 52 + k) / 2 ^ 52 = l + 1023 := by omega
  rw [e3, e4]
  have e5 : 2 ^ 52 + (k - 2 ^ 52) = k := by omega
  have e6 : (-1074 : Int) + ((l + 1023 - 1 : Nat) : Int) = (l : Int) - 52 := by omega
  rw [e5, e6]
  rfl
theorem fb_read0 : FloatKind.f64.decode (fb 0) = .number false 0 (-1074) := by decide +kernel
theorem cmp_mul {a b k : Nat} (hk : 0 < k) : compare ((a * k : Nat) : Int) ((b * k : Nat) : Int) = compare (a : Int) (b : Int) := by
  simp only [compare, compareOfLessAndEq]
  have h1 : ((a * k : Nat) : Int) < ((b * k : Nat) : Int) ↔ (a : Int) < (b : Int) := by
    constructor
    · intro h
      have h : a * k < b * k := by omega
      have := Nat.lt_of_mul_lt_mul_right h
      omega
    · intro h
      have h : a < b := by omega
      have := Nat.mul_lt_mul_of_pos_right h hk
      omega
  have h2 : ((a * k : Nat) : Int) = ((b * k : Nat) : Int) ↔ (a : Int) = (b : Int) := by
    constructor
    · intro h
      have h : a * k = b * k := by omega
      have := Nat.eq_of_mul_eq_mul_right hk h
      omega
    · intro h
      have h : a = b := by omega
      rw [h]
  simp only [h1, h2]
theorem ord_pos {a b : Nat} (ha : a < 2 ^ 53) (hb : b < 2 ^ 53) (ha0 : a ≠ 0) (hb0 : b ≠ 0) : FloatKind.f64.format.order (fb a) (fb b) = some (compare (a : Int) (b : Int)) := by
  obtain ⟨h1, _, _⟩ := log_lt (l := 0) ha ha0
  obtain ⟨g1, _, _⟩ := log_lt (l := 0) hb hb0
  have ra := fb_read ha ha0
  have rb := fb_read hb hb0
  unfold FloatKind.decode at ra rb
  unfold Ieee.Format.order
  rw [ra, rb]
  unfold Ieee.Datum.order
  simp only [Ieee.signed, Bool.false_eq_true, if_false, Nat.shiftLeft_eq]
  generalize hla : a.log2 = la at h1 ⊢
  generalize hlb : b.log2 = lb at g1 ⊢
  rcases Nat.le_total la lb with hle | hle
  · rw [show min ((la : Int) - 52) ((lb : Int) - 52) = (la : Int) - 52 by omega]
    rw [show ((la : Int) - 52 - ((la : Int) - 52)).toNat = 0 by omega, show ((lb : Int) - 52 - ((la : Int) - 52)).toNat = lb - la by omega]
    rw [Nat.pow_zero, Nat.mul_one, Nat.mul_assoc, ← Nat.pow_add, show 52 - lb + (lb - la) = 52 - la by omega]
    rw [cmp_mul (Nat.two_pow_pos _)]
  · rw [show min ((la : Int) - 52) ((lb : Int) - 52) = (lb : Int) - 52 by omega]
    rw [show ((lb : Int) - 52 - ((lb : Int) - 52)).toNat = 0 by omega, show ((la : Int) - 52 - ((lb : Int) - 52)).toNat = la - lb by omega]
    rw [Nat.pow_zero, Nat.mul_one, Nat.mul_assoc, ← Nat.pow_add, show 52 - la + (la - lb) = 52 - lb by omega]
    rw [cmp_mul (Nat.two_pow_pos _)]
theorem ord_fb {a b : Nat} (ha : a < 2 ^ 53) (hb : b < 2 ^ 53) : FloatKind.f64.format.order (fb a) (fb b) = some (compare (a : Int) (b : Int)) := by
  by_cases ha0 : a = 0
  · by_cases hb0 : b = 0
    · subst ha0 hb0
      decide +kernel
    · subst ha0
      obtain ⟨k1, k2⟩ := kept_in hb hb0
      have rb := fb_read hb hb0
      have ra := fb_read0
      unfold FloatKind.decode at ra rb
      unfold Ieee.Format.order
      rw [ra, rb]
      unfold Ieee.Datum.order
      simp only [Ieee.signed, Bool.false_eq_true, if_false, Nat.shiftLeft_eq, Nat.zero_mul]
      have p : 0 < b * 2 ^ (52 - b.log2) * 2 ^ ((b.log2 : Int) - 52 - min (-1074) ((b.log2 : Int) - 52)).toNat := Nat.mul_pos (by omega) (Nat.two_pow_pos _)
      generalize b * 2 ^ (52 - b.log2) * 2 ^ ((b.log2 : Int) - 52 - min (-1074) ((b.log2 : Int) - 52)).toNat = q at p ⊢
      simp only [compare, compareOfLessAndEq]
      rw [if_pos (by omega), if_pos (by omega)]
  · by_cases hb0 : b = 0
    · subst hb0
      obtain ⟨k1, k2⟩ := kept_in ha ha0
      have ra := fb_read ha ha0
      have rb := fb_read0
      unfold FloatKind.decode at ra rb
      unfold Ieee.Format.order
      rw [ra, rb]
      unfold Ieee.Datum.order
      simp only [Ieee.signed, Bool.false_eq_true, if_false, Nat.shiftLeft_eq, Nat.zero_mul]
      have p : 0 < a * 2 ^ (52 - a.log2) * 2 ^ ((a.log2 : Int) - 52 - min ((a.log2 : Int) - 52) (-1074)).toNat := Nat.mul_pos (by omega) (Nat.two_pow_pos _)
      generalize a * 2 ^ (52 - a.log2) * 2 ^ ((a.log2 : Int) - 52 - min ((a.log2 : Int) - 52) (-1074)).toNat = q at p ⊢
      simp only [compare, compareOfLessAndEq]
      rw [if_neg (by omega), if_neg (by omega), if_neg (by omega), if_neg (by omega)]
    · exact ord_pos ha hb ha0 hb0
theorem ord_lt {a b : Nat} (hb : b < 2 ^ 53) (h : a < b) : FloatKind.f64.format.order (fb a) (fb b) = some .lt := by
  rw [ord_fb (by omega) hb]
  simp only [compare, compareOfLessAndEq]
  rw [if_pos (by omega)]
theorem ord_gt {a b : Nat} (ha : a < 2 ^ 53) (h : b < a) : FloatKind.f64.format.order (fb a) (fb b) = some .gt := by
  rw [ord_fb ha (by omega)]
  simp only [compare, compareOfLessAndEq]
  rw [if_neg (by omega), if_neg (by omega)]
theorem ord_eq {a : Nat} (ha : a < 2 ^ 53) : FloatKind.f64.format.order (fb a) (fb a) = some .eq := by
  rw [ord_fb ha ha]
  simp only [compare, compareOfLessAndEq]
  rw [if_neg (by omega)]
  simp
/-- And back. -/
theorem fb_int {m : Nat} (h : m < 2 ^ 53) : floatToIntVal .f64 (fb m) .i64 = some (m : Int) := by
  have hx : (FloatKind.f64.decode (fb m)).toInt .zero = some (m : Int) := by
    by_cases hm : m = 0
    · subst hm
      decide +kernel
    · obtain ⟨h1, h2, h3⟩ := log_lt (l := 0) h hm
      obtain ⟨k1, k2⟩ := kept_in h hm
      rw [fb_read h hm]
      unfold Ieee.Datum.toInt Ieee.Datum.integral
      simp only
      have e1 : ((m.log2 : Int) - 52).toNat = 0 := by omega
      have e2 : (-((m.log2 : Int) - 52)).toNat = 52 - m.log2 := by omega
      rw [e1, e2, Nat.shiftLeft_zero]
      have hk : (m * 2 ^ (52 - m.log2)).log2 = 52 := by
        apply Nat.le_antisymm
        · exact Nat.le_of_lt_succ ((Nat.log2_lt (by omega)).2 k2)
        · exact (Nat.le_log2 (by omega)).2 k1
      have hc : Ieee.Toward.cut .zero false (m * 2 ^ (52 - m.log2)) (52 - m.log2) = m := by
        unfold Ieee.Toward.cut
        rw [hk, Nat.min_eq_left (by omega)]
        simp [Nat.shiftLeft_eq, Nat.mul_div_cancel m (Nat.two_pow_pos _)]
      rw [hc]
      simp [Ieee.signed]
  unfold floatToIntVal
  rw [hx]
  simp only
  rw [if_pos]
  refine ⟨?_, ?_⟩
  · simp only [IntKind.min, IntKind.signed, IntKind.bits]; omega
  · simp [IntKind.max, IntKind.signed, IntKind.bits]; omega
theorem fb_end : fb 1099511627776 = 4787326403894837248 := by decide +kernel
end Go.Proofs.Ytpgjjhpnemcgdaa
