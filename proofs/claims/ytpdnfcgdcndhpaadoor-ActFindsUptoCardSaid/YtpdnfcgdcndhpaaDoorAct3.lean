/- The law's own numbers. -/
import Derived.Test.YtpdnfcgdcndhpaaDoorAct2
import Derived.Lib.ItoaNum
set_option linter.unusedSimpArgs false
set_option linter.unusedVariables false
namespace Go.Proofs.YtpdnfcgdcndhpaaDoor
open Go.RowKit

/-- The last digit. -/
def dgD (k : Nat) : UInt8 := UInt8.ofNat (48 + k % 10)
/-- The digits ahead of the last one. -/
def preD (m : Nat) : Str := if m < 10 then [] else Lib.decDigits (m / 10)
theorem dec_pre (m : Nat) : Lib.decDigits m = preD m ++ [dgD m] := by
  unfold preD
  rw [Lib.decDigits]
  split
  · unfold dgD; rw [Nat.mod_eq_of_lt (by omega)]; rfl
  · rfl
theorem dec_len (k : Nat) : ∀ u, u < 10 ^ (k + 1) → (Lib.decDigits u).length ≤ k + 1 := by
  induction k with
  | zero =>
    intro u hu
    rw [Lib.decDigits, dif_pos (by omega)]
    simp
  | succ k ih =>
    intro u hu
    rw [Lib.decDigits]
    split
    · simp
    · have := ih (u / 10) (by rw [Nat.pow_succ] at hu; omega)
      simp only [List.length_append, List.length_singleton]
      omega
def DgInv (N : Nat) (w0 : World) (v0 v3 : Value) (wr : World) : Prop := ∃ (m : Nat) (t : Str), m ≤ N ∧ v0 = .int .u64 (m : Int) ∧ v3 = .string ⟨t.toArray⟩ ∧ Lib.decDigits N = preD m ++ t ∧ Below w0.heap.size w0 wr
set_option maxHeartbeats 1000000 in
theorem digits_walk (N : Nat) (w : World) (hN : N < 18446744073709551616) :
    Calls Tryd.prog 28 #[.int .u64 (N : Int)] w fun e w' => e = .returned (.string ⟨(Lib.decDigits N).toArray⟩) ∧ Below w.heap.size w w' := by
  have hlN := dec_len 19 N (by omega)
  have b0 : (0 : Int) ≤ (N : Int) := by omega
  have b1 : (48 + (N : Int) % 10) % 256 = 48 + (N : Int) % 10 := by omega
  have b2 : IntKind.u64.wrap (48 + (N : Int) % 10) = 48 + (N : Int) % 10 := by unfold IntKind.wrap; simp [IntKind.signed, IntKind.bits]; omega
  have hz : ((dgD N).toNat : Int) = 48 + (N : Int) % 10 := by unfold dgD; rw [UInt8.toNat_ofNat']; omega
  have hc : (w.alloc (.cells #[.int .u8 (48 + (N : Int) % 10)] 5)).ownsRow 0 5 1 (.slice (some ⟨w.heap.size, 0, none⟩) 1 1) 1 (bv [dgD N]) := by
    have := own_new w #[.int .u8 (48 + (N : Int) % 10)] 5 1 1 rfl (by decide)
    simp only [bv, List.map_cons, List.map_nil, hz]
    exact this
  have kc := run_conv_bytes (P := Tryd.prog) (w.alloc (.cells #[.int .u8 (48 + (N : Int) % 10)] 5)) Tryd.underlying22 Tryd.underlying5 Tryd.underlying9 (Sl.of_own hc)
  have HDP := Lib.hid (dec_pre N)
  clear hc hz
  go_enter Tryd.func28, Tryd.ntmps28
  go_upto_region 2 with fail
  clear kc b1 b2
  go_loopw [0, 3] (fun v0 v3 wr => DgInv N w v0 v3 wr) (fun v _ _ => (intOf v).toNat)
  case atStart => exact ⟨N, [dgD N], Nat.le_refl _, rfl, rfl, HDP.out, (Below.refl _ _).alloc (Nat.le_refl _) _⟩
  case round =>
    obtain ⟨m, t, hm, rfl, rfl, hd, hb⟩ := hrel
    have HB := Lib.hid hb
    have HD := Lib.hid hd
    have hsz := hb.size
    have htl : t.length ≤ 20 := by
      have := congrArg List.length hd
      rw [List.length_append] at this
      omega
    clear hb hd
    by_cases hlt : m < 10
    · have hp : preD m = [] := by unfold preD; rw [if_pos hlt]
      have HT := Lib.hid (show Lib.decDigits N = t by rw [HD.out, hp]; rfl)
      have g1 : ¬ (10 : Int) ≤ (m : Int) := by omega
      clear hp
      go_wp2
      go_ret
      exact ⟨by rw [HT.out]; rfl, HB.out⟩
    · have g1 : (10 : Int) ≤ (m : Int) := by omega
      obtain ⟨k, hk⟩ : ∃ k, k = m / 10 := ⟨_, rfl⟩
      have hkm : (m : Int) / 10 = (k : Int) := by omega
      have hkm2 : (m : Int).tdiv 10 = (k : Int) := by rw [Int.tdiv_eq_ediv_of_nonneg (by omega)]; exact hkm
      have hkN : k < m := by omega
      have c1 : (48 + (k : Int) % 10) % 256 = 48 + (k : Int) % 10 := by omega
      have c2 : IntKind.u64.wrap (48 + (k : Int) % 10) = 48 + (k : Int) % 10 := by unfold IntKind.wrap; simp [IntKind.signed, IntKind.bits]; omega
      have hz : ((dgD k).toNat : Int) = 48 + (k : Int) % 10 := by unfold dgD; rw [UInt8.toNat_ofNat']; omega
      have hc : (wr.alloc (.cells #[.int .u8 (48 + (k : Int) % 10)] 5)).ownsRow 0 5 1 (.slice (some ⟨wr.heap.size, 0, none⟩) 1 1) 1 (bv [dgD k]) := by
        have := own_new wr #[.int .u8 (48 + (k : Int) % 10)] 5 1 1 rfl (by decide)
        simp only [bv, List.map_cons, List.map_nil, hz]
        exact this
      have kc := run_conv_bytes (P := Tryd.prog) (wr.alloc (.cells #[.int .u8 (48 + (k : Int) % 10)] 5)) Tryd.underlying22 Tryd.underlying5 Tryd.underlying9 (Sl.of_own hc)
      have HD2 := Lib.hid (show Lib.decDigits N = preD k ++ ([dgD k] ++ t) by
        rw [HD.out, show preD m = Lib.decDigits k by unfold preD; rw [if_neg hlt, hk], dec_pre k, List.append_assoc])
      have hs2 := ba_size t
      clear hc hz hk
      go_wp2
      go_roundw
      case rel => exact ⟨k, _, by omega, rfl, by rw [ba_append], HD2.out, HB.out.alloc hsz _⟩
      case measure => simp [intOf]; omega
theorem itoa_len (n : Int) (h0 : -9223372036854775808 ≤ n) (h1 : n ≤ 9223372036854775807) : (Lib.itoa n).length ≤ 21 := by
  unfold Lib.itoa
  split
  · have := dec_len 19 n.natAbs (by omega)
    simp only [List.length_cons]
    omega
  · have := dec_len 19 n.toNat (by omega)
    omega
set_option maxRecDepth 100000 in
set_option maxHeartbeats 1000000 in
theorem number_walk (n : Int) (w : World) (h0 : -9223372036854775808 ≤ n) (h1 : n ≤ 9223372036854775807) :
    Calls Tryd.prog 15 #[.int .i64 n] w fun e w' => e = .returned (.string ⟨(Lib.itoa n).toArray⟩) ∧ Below w.heap.size w w' := by
  by_cases hn : 0 ≤ n
  · obtain ⟨k, rfl⟩ : ∃ k : Nat, n = (k : Int) := ⟨n.toNat, by omega⟩
    have HG := Lib.hid (digits_walk k w (by omega))
    have w1 : IntKind.u64.wrap (k : Int) = (k : Int) := by unfold IntKind.wrap; simp [IntKind.signed, IntKind.bits]; omega
    have HI := Lib.hid (show Lib.itoa (k : Int) = Lib.decDigits k by unfold Lib.itoa; rw [if_neg (by omega)]; rfl)
    go_enter Tryd.func15, Tryd.ntmps15
    go_wp2_with fail
    refine HG.out.mono ?_
    rintro e w2 ⟨rfl, hb2⟩
    have B2 := Lib.hid hb2
    clear hb2
    go_wp2
    go_ret
    exact ⟨by rw [HI.out]; rfl, B2.out⟩
  · obtain ⟨k, hk⟩ : ∃ k : Nat, k = n.natAbs := ⟨_, rfl⟩
    have HG := Lib.hid (digits_walk k w (by omega))
    have hnk : n = -(k : Int) := by omega
    subst hnk
    have HI := Lib.hid (show Lib.itoa (-(k : Int)) = [45] ++ Lib.decDigits k by unfold Lib.itoa; rw [if_pos (by omega)]; simp)
    have hl := dec_len 19 k (by omega)
    have hs2 := ba_size (Lib.decDigits k)
    have hn2 : ¬ (0 : Int) ≤ -(k : Int) := hn
    have v1 : wrap64 (-(k : Int) + 1) = -(k : Int) + 1 := by unfold wrap64; omega
    have v2 : wrap64 (-(-(k : Int) + 1)) = (k : Int) - 1 := by unfold wrap64; omega
    have v3 : IntKind.u64.wrap ((k : Int) - 1) = (k : Int) - 1 := by unfold IntKind.wrap; simp [IntKind.signed, IntKind.bits]; omega
    have v4 : IntKind.u64.wrap ((k : Int) - 1 + 1) = (k : Int) := by unfold IntKind.wrap; simp [IntKind.signed, IntKind.bits]; omega
    clear hk hn
    go_enter Tryd.func15, Tryd.ntmps15
    go_wp2_with fail
    rw [show -(-(k : Int) + 1) + 1 = (k : Int) by omega]
    refine HG.out.mono ?_
    rintro e w2 ⟨rfl, hb2⟩
    have B2 := Lib.hid hb2
    clear hb2
    go_wp2
    go_ret
    exact ⟨by rw [HI.out, ← ba_append]; rfl, B2.out⟩
end Go.Proofs.YtpdnfcgdcndhpaaDoor
