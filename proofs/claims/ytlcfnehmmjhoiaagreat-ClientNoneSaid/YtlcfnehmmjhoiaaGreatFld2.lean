/- Package field: put. -/
import Derived.Test.YtlcfnehmmjhoiaaGreatFld1
set_option linter.unusedSimpArgs false
set_option linter.unusedVariables false
namespace Go.Proofs.YtlcfnehmmjhoiaaGreat
open Go.RowKit

attribute [local go_sem ↓] Go.wp_at_zero Go.wp_at_succ
/-- The bytes as far as they are put. -/
def PI (b : List UInt8) (n k : Nat) (w : World) (v1 v7 v11 : Value) (W : World) : Prop := ∃ (i : Nat) (A : Option Addr) (c : Nat), i ≤ k ∧ v11 = .int .i64 (i : Int) ∧ v1 = .int .u32 ((n / 256 ^ i : Nat) : Int) ∧ v7 = .slice A (b ++ le n i).length c ∧ OB w.heap.size W A c (b ++ le n i) ∧ Below w.heap.size w W
set_option maxHeartbeats 1000000 in
theorem put_walk (b : List UInt8) (A : Option Addr) (c n k : Nat) (w : World) (h : Sl w 1 (.slice A b.length c) b.length (bv b)) (hb : b.length ≤ 100000000) (hn : n < 4294967296) (hk : k ≤ 4) :
    Calls Tryz.prog 102 #[.slice A b.length c, .int .u32 (n : Int), .int .i64 (k : Int)] w fun e w' => ∃ A' d, d = b ++ le n k ∧ e = .returned (.slice A' d.length d.length) ∧ NB w.heap.size w' A' d.length d ∧ Below w.heap.size w w' := by
  have HC := Lib.hid (clone_walk b A c w h (by omega))
  clear h
  go_enter Tryz.func102, Tryz.ntmps102
  go_wp2_with fail
  refine HC.out.mono ?_
  rintro e w1 ⟨A1, c1, rfl, ho, hbe⟩
  have HST : Hid (PI b n k w (.int .u32 (n : Int)) (.slice A1 b.length c1) (.int .i64 0) w1) := Lib.hid ⟨0, A1, c1, Nat.zero_le _, rfl, by simp, by simp [le], by simpa [le] using ho, hbe⟩
  clear ho hbe
  go_wp2_with fail
  go_loopw [1, 7, 11] (fun v1 v7 v11 wr => PI b n k w v1 v7 v11 wr) (fun _ _ v _ => k - (intOf v).toNat)
  case atStart => exact HST.out
  case round =>
    obtain ⟨i, A2, c2, hi, rfl, rfl, rfl, ho, hbe⟩ := hrel
    obtain ⟨m, hm⟩ : ∃ m, m = n / 256 ^ i := ⟨_, rfl⟩
    obtain ⟨D, hD⟩ : ∃ D, D = b ++ le n i := ⟨_, rfl⟩
    rw [← hm, ← hD]
    rw [← hD] at ho
    have hDl : D.length = b.length + i := by rw [hD, List.length_append, le_len]
    have hm4 : m < 4294967296 := by rw [hm]; exact Nat.lt_of_le_of_lt (Nat.div_le_self _ _) hn
    have hDb : D.length ≤ 200000000 := by omega
    have HM := Lib.hid hm
    have HD := Lib.hid hD
    have HDL := Lib.hid hDl
    have HO := Lib.hid ho
    have HBE := Lib.hid hbe
    clear hm hD hDl ho hbe
    by_cases hlt : i < k
    · have q1 : (i : Int) < (k : Int) := by omega
      have q2 : IntKind.i64.wrap ((i : Int) + 1) = (i : Int) + 1 := IntWalk.i64_in _ (by omega)
      obtain ⟨x, hx⟩ : ∃ x : UInt8, x = UInt8.ofNat m := ⟨_, rfl⟩
      have HSO := Lib.hid (own_new wr #[.int .u8 (x.toNat : Int)] 5 1 1 rfl (by decide))
      have e1 : (m : Int) % 256 = (x.toNat : Int) := by rw [hx]; simp
      have HX := Lib.hid hx
      clear hx
      go_wp2_with (at_builtin; go_must (refine wpList_app rfl eltB rfl rfl rfl (n := D.length) (m := 1) (own_keep HO.out.own ((Keep.refl (fun _ => False) _).alloc _) (fun _ _ h => h)) (Sl.of_own HSO.out) (by simp [Value.oneCell']) (by omega) (by simp only [maxLen]; omega) ?_))
      intro v8 w8 g1 g2 g3 g4
      clear g4
      obtain ⟨A8, c8, rfl, _⟩ := Rd.of_own g1
      have hap := HO.out.app (E := [x]) HBE.out HBE.out.size (by simp) g1 g2 g3
      have hDx : D ++ [x] = b ++ le n (i + 1) := by rw [HD.out, HX.out, HM.out, le_snoc, List.append_assoc]
      rw [hDx] at hap
      have hml : m / 256 = n / 256 ^ (i + 1) := by rw [HM.out, Nat.div_div_eq_div_mul, Nat.pow_succ]
      have HP : Hid (PI b n k w (.int .u32 ((m / 256 : Nat) : Int)) (.slice A8 (D.length + 1) c8) (.int .i64 ((i : Int) + 1)) w8) := Lib.hid ⟨i + 1, A8, c8, hlt, by rw [Int.natCast_add]; rfl, by rw [hml], by congr 1; rw [← hDx]; simp, hap.1, hap.2⟩
      clear g1 g2 g3 hap hDx hml
      go_wp2_with fail
      go_roundw
      case rel => exact HP.out
      case measure => simp only [intOf]; omega
    · obtain rfl : i = k := by omega
      have q1 : ¬ (i : Int) < (i : Int) := by omega
      obtain ⟨_, _, eA, _, hz, hc, _⟩ := Rd.of_own HO.out.own
      injection eA with e1 _ e2
      subst e1 e2
      have HCL := Lib.hid (clip_walk A2 D.length c2 wr hc hz (by omega))
      have HF := Lib.hid HO.out.nb.clip
      clear hz hc
      go_wp2_with fail
      refine HCL.out.mono ?_
      rintro e W ⟨rfl, hWW⟩
      have hWW' := hWW.symm
      subst hWW'
      clear hWW
      go_wp2
      go_ret
      exact ⟨A2, D, HD.out, rfl, HF.out, HBE.out⟩
/-- A number behind bytes. -/
theorem num_walk (b : List UInt8) (A : Option Addr) (c n : Nat) (w : World) (h : Sl w 1 (.slice A b.length c) b.length (bv b)) (hb : b.length ≤ 100000000) (hn : n < 4294967296) :
    Calls Tryz.prog 104 #[.slice A b.length c, .int .i64 (n : Int)] w fun e w' => ∃ A' d, d = b ++ le n 4 ∧ e = .returned (.tuple #[.slice A' d.length d.length, .int .i64 0]) ∧ NB w.heap.size w' A' d.length d ∧ Below w.heap.size w w' := by
  have HP := Lib.hid (put_walk b A c n 4 w h hb hn (by omega))
  have h1 : ¬ (n : Int) < 0 := by omega
  have h2 : ¬ (4294967295 : Int) < (n : Int) := by omega
  have h3 : IntKind.u32.wrap (n : Int) = (n : Int) := IntWalk.u32_in _ (by omega)
  clear h
  go_enter Tryz.func104, Tryz.ntmps104
  go_wp2_with fail
  refine HP.out.mono ?_
  rintro e w1 ⟨A1, d, hd, rfl, ho, hbe⟩
  have HD := Lib.hid hd
  clear hd
  go_wp2
  go_ret2
  exact ⟨A1, d, HD.out, rfl, ho, hbe⟩
end Go.Proofs.YtlcfnehmmjhoiaaGreat
