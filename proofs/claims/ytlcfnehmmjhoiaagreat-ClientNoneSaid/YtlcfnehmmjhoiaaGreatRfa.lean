/- The document's fields: Little, Text, Sum. -/
import Derived.Test.YtlcfnehmmjhoiaaGreatCln1
set_option linter.unusedSimpArgs false
set_option linter.unusedVariables false
namespace Go.Proofs.YtlcfnehmmjhoiaaGreat
open Go.RowKit

attribute [local go_sem ↓] Go.wp_at_zero Go.wp_at_succ
theorem ba_append (a b : List UInt8) : (⟨a.toArray⟩ : ByteArray) ++ (⟨b.toArray⟩ : ByteArray) = ⟨(a ++ b).toArray⟩ := by
  apply ByteArray.ext
  rw [ByteArray.data_append]
  simp
theorem ba_size (a : List UInt8) : (⟨a.toArray⟩ : ByteArray).size = a.length := by simp [ByteArray.size]
theorem add_run {a b c : List UInt8} (h : c = a ++ b) (ha : a.length ≤ 1000000000000) (hb : b.length ≤ 1000000000000) (w : World) : (Op.stringOp .add ⟨a.toArray⟩ ⟨b.toArray⟩).run Tryz.prog w = .ok (.string ⟨c.toArray⟩) w := by
  rw [run_string_add_sum w _ _ (by rw [ba_size, ba_size]; omega), ba_append, h]
def LiI (n k : Nat) (w : World) (v0 v5 v6 : Value) (W : World) : Prop := ∃ i : Nat, i ≤ k ∧ v6 = .int .i64 (i : Int) ∧ v0 = .int .i64 ((n / 256 ^ i : Nat) : Int) ∧ v5 = .string ⟨(le n i).toArray⟩ ∧ Below w.heap.size w W
set_option maxHeartbeats 1000000 in
theorem little_walk (n k : Nat) (hn : n ≤ 9223372036854775807) (hk : k ≤ 8) (w : World) : Calls Tryz.prog 123 #[.int .i64 (n : Int), .int .i64 (k : Int)] w fun e w' => e = .returned (.string ⟨(le n k).toArray⟩) ∧ Below w.heap.size w w' := by
  go_enter Tryz.func123, Tryz.ntmps123
  go_wp2_with fail
  go_loopw [0, 5, 6] (fun v0 v5 v6 wr => LiI n k w v0 v5 v6 wr) (fun _ _ v _ => k - (intOf v).toNat)
  case atStart => exact ⟨0, Nat.zero_le _, rfl, by simp, rfl, Below.refl _ _⟩
  case round =>
    obtain ⟨i, hi, rfl, rfl, rfl, hb⟩ := hrel
    obtain ⟨m, hm⟩ : ∃ m, m = n / 256 ^ i := ⟨_, rfl⟩
    rw [← hm]
    have hml : m ≤ 9223372036854775807 := by rw [hm]; exact Nat.le_trans (Nat.div_le_self _ _) hn
    obtain ⟨D, hD⟩ : ∃ D, D = le n i := ⟨_, rfl⟩
    have hdl : D.length ≤ 8 := by rw [hD, le_len]; omega
    rw [← hD]
    have HM := Lib.hid hm
    have HD := Lib.hid hD
    have HB := Lib.hid hb
    clear hm hD hb
    by_cases hlt : i < k
    · obtain ⟨x, hx⟩ : ∃ x : UInt8, x = UInt8.ofNat m := ⟨_, rfl⟩
      have hz : (m : Int) % 256 = (x.toNat : Int) := by rw [hx]; simp
      have hz2 : (m : Int).tmod 256 = (x.toNat : Int) := by rw [Int.tmod_eq_emod_of_nonneg (by omega)]; exact hz
      have hxl := x.toNat_lt
      have hz3 : IntKind.u8.wrap (x.toNat : Int) = (x.toNat : Int) := by unfold IntKind.wrap; simp [IntKind.signed, IntKind.bits]; omega
      obtain ⟨m2, hm2⟩ : ∃ m2, m2 = m / 256 := ⟨_, rfl⟩
      have hq : (m : Int) / 256 = (m2 : Int) := by omega
      have hq2 : (m : Int).tdiv 256 = (m2 : Int) := by rw [Int.tdiv_eq_ediv_of_nonneg (by omega)]; exact hq
      have hc : (wr.alloc (.cells #[.int .u8 (x.toNat : Int)] 5)).ownsRow 0 5 1 (.slice (some ⟨wr.heap.size, 0, none⟩) 1 1) 1 (bv [x]) := own_new wr #[.int .u8 (x.toNat : Int)] 5 1 1 rfl (by decide)
      have kc := run_conv_bytes (P := Tryz.prog) (wr.alloc (.cells #[.int .u8 (x.toNat : Int)] 5)) Tryz.underlying30 Tryz.underlying5 Tryz.underlying9 (Sl.of_own hc)
      have a0 : (0 : Int) ≤ (m : Int) := by omega
      have q1 : (i : Int) < (k : Int) := by omega
      have q2 : IntKind.i64.wrap ((i : Int) + 1) = (i : Int) + 1 := IntWalk.i64_in _ (by omega)
      have ad := add_run (a := D) (b := [x]) (c := D ++ [x]) rfl (by omega) (by simp)
      have HP : Hid (LiI n k w (.int .i64 (m2 : Int)) (.string ⟨(D ++ [x]).toArray⟩) (.int .i64 ((i : Int) + 1)) (wr.alloc (.cells #[.int .u8 (x.toNat : Int)] 5))) := Lib.hid ⟨i + 1, hlt, by rw [Int.natCast_add]; rfl, by rw [hm2, HM.out, Nat.div_div_eq_div_mul, Nat.pow_succ], by rw [le_snoc, HD.out, hx, HM.out], HB.out.alloc HB.out.size _⟩
      clear hx hc hdl hm2
      go_wp2
      go_roundw
      case rel => first | exact HP.out | (simpa using HP.out)
      case measure => simp only [intOf]; omega
    · obtain rfl : i = k := by omega
      have q1 : ¬ (i : Int) < (i : Int) := by omega
      go_wp2
      go_ret
      exact ⟨by rw [HD.out]; rfl, HB.out⟩
/-- A text as a field. -/
theorem rtext_walk (s : List UInt8) (hs : s.length ≤ 65535) (w : World) : Calls Tryz.prog 88 #[.string ⟨s.toArray⟩] w fun e w' => e = .returned (.string ⟨(le s.length 2 ++ s).toArray⟩) ∧ Below w.heap.size w w' := by
  have HL := Lib.hid (little_walk s.length 2 (by omega) (by decide) w)
  have ad := add_run (a := le s.length 2) (b := s) (c := le s.length 2 ++ s) rfl (by rw [le_len]; omega) (by omega)
  have hsz := ba_size s
  go_enter Tryz.func88, Tryz.ntmps88
  go_wp2_with fail
  refine HL.out.mono ?_
  rintro e w1 ⟨rfl, h1⟩
  have HB := Lib.hid h1
  clear h1
  go_wp2
  go_ret
  exact ⟨rfl, HB.out⟩
end Go.Proofs.YtlcfnehmmjhoiaaGreat
