/- The document's frames: Sum, Sealed, Frame. -/
import Derived.Test.YtlcfnehmmjhoiaaGreatRfa
set_option linter.unusedSimpArgs false
set_option linter.unusedVariables false
namespace Go.Proofs.YtlcfnehmmjhoiaaGreat
open Go.RowKit

attribute [local go_sem ↓] Go.wp_at_zero Go.wp_at_succ
/-- A bit of a byte goes into the sum. -/
def bitR (x k r : Nat) : Nat := if x / 2 ^ k % 2 = r % 2 then r / 2 else (r / 2) ^^^ 3988292384
def itR (x : Nat) : Nat → Nat → Nat
  | 0, r => r
  | k + 1, r => bitR x k (itR x k r)
def accR (l : List UInt8) : Nat := l.foldl (fun r x => itR x.toNat 8 r) 4294967295
def sumR (l : List UInt8) : Nat := accR l ^^^ 4294967295
theorem bitR_lt (x k r : Nat) (h : r < 4294967296) : bitR x k r < 4294967296 := by
  unfold bitR
  split
  · omega
  · exact Nat.xor_lt_two_pow (n := 32) (by omega) (by decide)
theorem itR_lt (x k r : Nat) (h : r < 4294967296) : itR x k r < 4294967296 := by
  induction k with
  | zero => exact h
  | succ k ih => exact bitR_lt _ _ _ ih
theorem accR_lt (l : List UInt8) : accR l < 4294967296 := by
  have : ∀ (l : List UInt8) (r : Nat), r < 4294967296 → l.foldl (fun r x => itR x.toNat 8 r) r < 4294967296 := by
    intro l
    induction l with
    | nil => intro r h; exact h
    | cons x l ih => intro r h; exact ih _ (itR_lt _ 8 r h)
  exact this l _ (by decide)
theorem sumR_lt (l : List UInt8) : sumR l < 4294967296 := Nat.xor_lt_two_pow (n := 32) (accR_lt l) (by decide)
theorem accR_take {l : List UInt8} {k : Nat} {x : UInt8} (h : l[k]? = some x) : accR (l.take (k + 1)) = itR x.toNat 8 (accR (l.take k)) := by
  rw [List.take_add_one, h]
  simp [accR]
theorem bit_test (x j y : Nat) : (((x : Int) / 2 ^ j).tmod 2 != (y : Int) % 2) = !(x / 2 ^ j % 2 == y % 2) := by
  have e : (x : Int) / 2 ^ j = ((x / 2 ^ j : Nat) : Int) := by rw [Int.natCast_ediv, Int.natCast_pow]; rfl
  rw [e]
  generalize x / 2 ^ j = q
  rw [Int.tmod_eq_emod_of_nonneg (by omega)]
  by_cases h : q % 2 = y % 2
  · have h2 : (q : Int) % 2 = (y : Int) % 2 := by omega
    rw [h2, h]
    simp
  · have h2 : ¬ (q : Int) % 2 = (y : Int) % 2 := by omega
    rw [beq_eq_false_iff_ne.2 h]
    exact bne_iff_ne.2 h2
theorem wrap64_small {n : Nat} (h : n < 4294967296) : wrap64 (n : Int) = (n : Int) := by
  unfold wrap64
  omega
def RuI (l : List UInt8) (v3 v4 : Value) : Prop := ∃ k : Nat, k ≤ l.length ∧ v4 = .int .i64 (k : Int) ∧ v3 = .int .u32 ((accR (l.take k) : Nat) : Int)
def RbI (x r : Nat) (v3 v5 : Value) : Prop := ∃ k : Nat, k ≤ 8 ∧ v5 = .int .i64 (k : Int) ∧ v3 = .int .u32 ((itR x k r : Nat) : Int)
set_option maxHeartbeats 2000000 in
theorem rsum_walk (l : List UInt8) (hl : l.length ≤ 1000000000) (w : World) : Calls Tryz.prog 136 #[.string ⟨l.toArray⟩] w fun e w' => e = .returned (.int .i64 ((sumR l : Nat) : Int)) ∧ w' = w := by
  have hsz := ba_size l
  go_enter Tryz.func136, Tryz.ntmps136
  go_wp2_with fail
  go_loop [3, 4] (fun v3 v4 => RuI l v3 v4) (fun _ v => l.length - (intOf v).toNat)
  case atStart => exact ⟨0, Nat.zero_le _, rfl, rfl⟩
  case round =>
    obtain ⟨k, hk, rfl, rfl⟩ := hrel
    have hr := accR_lt (l.take k)
    obtain ⟨r, hrr⟩ : ∃ r, r = accR (l.take k) := ⟨_, rfl⟩
    rw [← hrr] at hr ⊢
    by_cases hlt : k < l.length
    · obtain ⟨x, hx⟩ : ∃ x, l[k]? = some x := ⟨l[k], List.getElem?_eq_getElem hlt⟩
      have xk := str_at hx
      have hxl := x.toNat_lt
      have g1 : (k : Int) < (l.length : Int) := by omega
      have g0 : (0 : Int) ≤ (k : Int) := by omega
      have g2 : IntKind.i64.wrap ((k : Int) + 1) = (k : Int) + 1 := IntWalk.i64_in _ (by omega)
      have HNX := Lib.hid (accR_take hx)
      have HRR := Lib.hid hrr
      clear hrr
      go_wp2_with fail
      go_loop [3, 5] (fun v3 v5 => RbI x.toNat r v3 v5) (fun _ v => 8 - (intOf v).toNat)
      case atStart => exact ⟨0, Nat.zero_le _, rfl, rfl⟩
      case round =>
        obtain ⟨j, hj, rfl, rfl⟩ := hrel
        have hy := itR_lt x.toNat j r hr
        have hin : itR x.toNat (j + 1) r = bitR x.toNat j (itR x.toNat j r) := rfl
        obtain ⟨y, hyy⟩ : ∃ y, y = itR x.toNat j r := ⟨_, rfl⟩
        rw [← hyy] at hy hin ⊢
        by_cases hlt8 : j < 8
        · have q1 : (j : Int) < 8 := by omega
          have q2 : IntKind.i64.wrap ((j : Int) + 1) = (j : Int) + 1 := IntWalk.i64_in _ (by omega)
          have HIN := Lib.hid hin
          clear hyy hin
          go_wp2
          all_goals
            rename_i hbit
            have hb2 := bit_test x.toNat j y
            rw [hb2] at hbit
            refine ⟨⟨j + 1, hlt8, by rw [Int.natCast_add]; rfl, ?_⟩, by simp only [intOf]; omega⟩
            rw [HIN.out]
            unfold bitR
          · rw [if_neg (by simpa using hbit), show (y : Int) / 2 = ((y / 2 : Nat) : Int) by omega, show (3988292384 : Int) = ((3988292384 : Nat) : Int) from rfl, bits_xor_u32 _ _ (by omega) (by decide)]
          · rw [if_pos (by simpa using hbit), show (y : Int) / 2 = ((y / 2 : Nat) : Int) by omega]
        · obtain rfl : j = 8 := by omega
          have q1 : ¬ ((8 : Nat) : Int) < 8 := by omega
          have HYE : Hid (y = accR (l.take (k + 1))) := Lib.hid (by rw [HNX.out, hyy, HRR.out])
          clear hyy hin
          go_wp2_with fail
          rw [HYE.out]
          refine ⟨⟨k + 1, hlt, by rw [Int.natCast_add]; rfl, rfl⟩, by simp only [intOf]; omega⟩
    · obtain rfl : k = l.length := by omega
      have g1 : ¬ (l.length : Int) < (l.length : Int) := by omega
      have HRR : Hid (r = accR l) := Lib.hid (by rw [hrr, List.take_length])
      clear hrr
      go_wp2
      go_ret
      refine ⟨?_, rfl⟩
      have he : wrap64 (bits .xor .u32 (r : Int) 4294967295) = ((sumR l : Nat) : Int) := by
        rw [show (4294967295 : Int) = ((4294967295 : Nat) : Int) from rfl, bits_xor_u32 r 4294967295 hr (by decide), HRR.out]
        have := sumR_lt l
        exact wrap64_small this
      exact congrArg (fun n => Ending.returned (.int .i64 n)) he
end Go.Proofs.YtlcfnehmmjhoiaaGreat
