/- Package field: the check sum. -/
import Derived.Test.YtlcfnehmmjhoiaaGreatFld4
set_option linter.unusedSimpArgs false
set_option linter.unusedVariables false
namespace Go.Proofs.YtlcfnehmmjhoiaaGreat
open Go.RowKit

attribute [local go_sem ↓] Go.wp_at_zero Go.wp_at_succ
def bitN (r : Nat) : Nat := (r / 2) ^^^ (3988292384 &&& ((4294967296 - r % 2) % 4294967296))
def itN : Nat → Nat → Nat
  | 0, r => r
  | k + 1, r => bitN (itN k r)
def byteN (r : Nat) (x : UInt8) : Nat := itN 8 (r ^^^ x.toNat)
def accN (l : List UInt8) : Nat := l.foldl byteN 4294967295
def sumP (l : List UInt8) : Nat := 4294967295 ^^^ accN l
theorem bitN_lt (r : Nat) (h : r < 4294967296) : bitN r < 4294967296 := by
  unfold bitN
  exact Nat.xor_lt_two_pow (n := 32) (by omega) (Nat.lt_of_le_of_lt Nat.and_le_left (by decide))
theorem itN_lt (k r : Nat) (h : r < 4294967296) : itN k r < 4294967296 := by
  induction k with
  | zero => exact h
  | succ k ih => exact bitN_lt _ ih
theorem xorN_lt (r : Nat) (x : UInt8) (h : r < 4294967296) : r ^^^ x.toNat < 4294967296 := Nat.xor_lt_two_pow (n := 32) (by omega) (by have := x.toNat_lt; omega)
theorem byteN_lt (r : Nat) (x : UInt8) (h : r < 4294967296) : byteN r x < 4294967296 := itN_lt 8 _ (xorN_lt r x h)
theorem accN_lt (l : List UInt8) : accN l < 4294967296 := by
  have : ∀ (l : List UInt8) (r : Nat), r < 4294967296 → l.foldl byteN r < 4294967296 := by
    intro l
    induction l with
    | nil => intro r h; exact h
    | cons x l ih => intro r h; exact ih _ (byteN_lt r x h)
  exact this l _ (by decide)
theorem sumP_lt (l : List UInt8) : sumP l < 4294967296 := Nat.xor_lt_two_pow (n := 32) (by decide) (accN_lt l)
theorem accN_take {l : List UInt8} {k : Nat} {x : UInt8} (h : l[k]? = some x) : accN (l.take (k + 1)) = byteN (accN (l.take k)) x := by
  rw [List.take_add_one, h]
  simp [accN]
theorem bit_eq (y : Nat) (h : y < 4294967296) : bits .xor .u32 ((y : Int) / 2) (bits .and .u32 3988292384 (-bits .and .u32 (y : Int) 1 % 4294967296)) = ((bitN y : Nat) : Int) := by
  have h1 : bits .and .u32 (y : Int) 1 = ((y % 2 : Nat) : Int) := by
    have := bits_and_u32 y 1 h (by decide)
    rw [Nat.and_one_is_mod] at this
    exact this
  have h2 : -((y % 2 : Nat) : Int) % 4294967296 = (((4294967296 - y % 2) % 4294967296 : Nat) : Int) := by omega
  have h3 : bits .and .u32 3988292384 ((((4294967296 - y % 2) % 4294967296 : Nat)) : Int) = ((3988292384 &&& ((4294967296 - y % 2) % 4294967296) : Nat) : Int) := bits_and_u32 3988292384 _ (by decide) (Nat.mod_lt _ (by decide))
  rw [h1, h2, h3, show (y : Int) / 2 = ((y / 2 : Nat) : Int) by omega, bits_xor_u32 _ _ (by omega) (Nat.lt_of_le_of_lt Nat.and_le_left (by decide))]
  rfl
def SUI (l : List UInt8) (v3 v8 : Value) : Prop := ∃ k : Nat, k ≤ l.length ∧ v8 = .int .i64 (k : Int) ∧ v3 = .int .u32 ((accN (l.take k) : Nat) : Int)
def SBI (r : Nat) (v3 v16 : Value) : Prop := ∃ k : Nat, k ≤ 8 ∧ v16 = .int .i64 (k : Int) ∧ v3 = .int .u32 ((itN k r : Nat) : Int)
set_option maxHeartbeats 2000000 in
theorem sum_walk (l : List UInt8) (A : Option Addr) (c : Nat) (w : World) (h : Sl w 1 (.slice A l.length c) l.length (bv l)) (hl : l.length ≤ 1000000000) :
    Calls Tryz.prog 98 #[.slice A l.length c] w fun e w' => e = .returned (.int .u32 ((sumP l : Nat) : Int)) ∧ w' = w := by
  have H := Lib.hid h
  clear h
  go_enter Tryz.func98, Tryz.ntmps98
  go_wp2_with fail
  go_loop [3, 8] (fun v3 v8 => SUI l v3 v8) (fun _ v => l.length - (intOf v).toNat)
  case atStart => exact ⟨0, Nat.zero_le _, rfl, rfl⟩
  case round =>
    obtain ⟨k, hk, rfl, rfl⟩ := hrel
    have hr := accN_lt (l.take k)
    obtain ⟨r, hrr⟩ : ∃ r, r = accN (l.take k) := ⟨_, rfl⟩
    rw [← hrr] at hr ⊢
    by_cases hlt : k < l.length
    · obtain ⟨x, hx⟩ : ∃ x, l[k]? = some x := ⟨l[k], List.getElem?_eq_getElem hlt⟩
      obtain ⟨b, o, rfl, _, hc⟩ := bv_at H.out hx
      have hxl := x.toNat_lt
      have g1 : (k : Int) < (l.length : Int) := by omega
      have g0 : (0 : Int) ≤ (k : Int) := by omega
      have g2 : IntKind.i64.wrap ((k : Int) + 1) = (k : Int) + 1 := IntWalk.i64_in _ (by omega)
      have hxo : bits .xor .u32 (r : Int) (x.toNat : Int) = ((r ^^^ x.toNat : Nat) : Int) := bits_xor_u32 r x.toNat hr (by omega)
      have hzl := xorN_lt r x hr
      obtain ⟨z, hz⟩ : ∃ z, z = r ^^^ x.toNat := ⟨_, rfl⟩
      rw [← hz] at hxo hzl
      have HNX := Lib.hid (accN_take hx)
      have HRR := Lib.hid hrr
      have HZ := Lib.hid hz
      clear hx hrr hz
      go_wp2_with fail
      go_loop [3, 16] (fun v3 v16 => SBI z v3 v16) (fun _ v => 8 - (intOf v).toNat)
      case atStart => exact ⟨0, Nat.zero_le _, rfl, rfl⟩
      case round =>
        obtain ⟨j, hj, rfl, rfl⟩ := hrel
        have hy := itN_lt j z hzl
        have hin : itN (j + 1) z = bitN (itN j z) := rfl
        obtain ⟨y, hyy⟩ : ∃ y, y = itN j z := ⟨_, rfl⟩
        rw [← hyy] at hy hin ⊢
        by_cases hlt8 : j < 8
        · have q1 : (j : Int) < 8 := by omega
          have q2 : IntKind.i64.wrap ((j : Int) + 1) = (j : Int) + 1 := IntWalk.i64_in _ (by omega)
          have HIN := Lib.hid hin
          clear hyy hin
          have HBE := Lib.hid (bit_eq y hy)
          go_wp2
          rw [HBE.out, ← HIN.out]
          exact ⟨⟨j + 1, hlt8, by rw [Int.natCast_add]; rfl, rfl⟩, by simp only [intOf]; omega⟩
        · obtain rfl : j = 8 := by omega
          have q1 : ¬ ((8 : Nat) : Int) < 8 := by omega
          have HYE : Hid (y = accN (l.take (k + 1))) := Lib.hid (by rw [HNX.out, hyy, HZ.out, HRR.out]; rfl)
          clear hyy hin
          go_wp2_with fail
          rw [HYE.out]
          refine ⟨⟨k + 1, hlt, by rw [Int.natCast_add]; rfl, rfl⟩, by simp only [intOf]; omega⟩
    · obtain rfl : k = l.length := by omega
      have g1 : ¬ (l.length : Int) < (l.length : Int) := by omega
      have HRR : Hid (r = accN l) := Lib.hid (by rw [hrr, List.take_length])
      clear hrr
      go_wp2
      go_ret
      have he : bits .xor .u32 IntKind.u32.max (r : Int) = ((sumP l : Nat) : Int) := by
        rw [show IntKind.u32.max = ((4294967295 : Nat) : Int) by decide, bits_xor_u32 4294967295 r (by decide) hr, HRR.out]
        rfl
      exact ⟨congrArg (fun n => Ending.returned (.int .u32 n)) he, rfl⟩
/-- Bytes with their sum behind. -/
def sealP (b : List UInt8) : List UInt8 := b ++ le (sumP b) 4
theorem sealP_len (b : List UInt8) : (sealP b).length = b.length + 4 := by unfold sealP; rw [List.length_append, le_len]
theorem sealed_walk (b : List UInt8) (A : Option Addr) (c : Nat) (w : World) (h : Sl w 1 (.slice A b.length c) b.length (bv b)) (hb : b.length ≤ 100000000) :
    Calls Tryz.prog 101 #[.slice A b.length c] w fun e w' => ∃ A' d, d = sealP b ∧ e = .returned (.slice A' d.length d.length) ∧ NB w.heap.size w' A' d.length d ∧ Below w.heap.size w w' := by
  have HS := Lib.hid (sum_walk b A c w h (by omega))
  have HP := Lib.hid (put_walk b A c (sumP b) 4 w h hb (sumP_lt b) (by omega))
  obtain ⟨z, hz⟩ : ∃ z, z = sumP b := ⟨_, rfl⟩
  rw [← hz] at HS HP
  have HZ := Lib.hid hz
  clear h hz
  go_enter Tryz.func101, Tryz.ntmps101
  go_wp2_with fail
  refine HS.out.mono ?_
  rintro e W ⟨rfl, hWW⟩
  have hWW' := hWW.symm
  subst hWW'
  clear hWW
  go_wp2_with fail
  refine HP.out.mono ?_
  rintro e w1 ⟨A1, d, hd, rfl, ho, hbe⟩
  have HD := Lib.hid hd
  clear hd
  go_wp2
  go_ret
  exact ⟨A1, d, by rw [HD.out, HZ.out]; rfl, rfl, ho, hbe⟩
end Go.Proofs.YtlcfnehmmjhoiaaGreat
