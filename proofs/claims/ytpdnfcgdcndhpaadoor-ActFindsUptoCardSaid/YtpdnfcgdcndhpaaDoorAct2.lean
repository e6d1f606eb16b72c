/- The law's own text. (printed by acttext.py) -/
import Derived.Test.YtpdnfcgdcndhpaaDoorAct1
import Derived.Deep.DeepCutAuto
import Derived.Deep.CutBlock
set_option linter.unusedSimpArgs false
set_option linter.unusedVariables false
namespace Go.Proofs.YtpdnfcgdcndhpaaDoor
open Go.RowKit

theorem ba_append (a b : Str) : (⟨a.toArray⟩ : ByteArray) ++ ⟨b.toArray⟩ = ⟨(a ++ b).toArray⟩ := by
  apply ByteArray.ext
  simp
theorem ba_size (a : Str) : (⟨a.toArray⟩ : ByteArray).size = a.length := rfl
theorem sign_all : ∀ n : Fin 256, isSign (UInt8.ofNat n.val) = (decide (97 ≤ n.val ∧ n.val ≤ 122) || decide (65 ≤ n.val ∧ n.val ≤ 90) || decide (48 ≤ n.val ∧ n.val ≤ 57) || decide (n.val = 46) || decide (n.val = 95) || decide (n.val = 45) || decide (n.val = 47)) := by decide +kernel
theorem sign_of (x : UInt8) : isSign x = (decide (97 ≤ x.toNat ∧ x.toNat ≤ 122) || decide (65 ≤ x.toNat ∧ x.toNat ≤ 90) || decide (48 ≤ x.toNat ∧ x.toNat ≤ 57) || decide (x.toNat = 46) || decide (x.toNat = 95) || decide (x.toNat = 45) || decide (x.toNat = 47)) := by
  have h := sign_all ⟨x.toNat, x.toNat_lt⟩
  simpa using h
def LtInv (s : Str) (w0 : World) (v4 v5 : Value) (wr : World) : Prop := ∃ i : Nat, i ≤ s.length ∧ v5 = .int .i64 (i : Int) ∧ v4 = .string ⟨(encS (s.take i)).toArray⟩ ∧ Below w0.heap.size w0 wr
set_option maxRecDepth 100000 in
set_option maxHeartbeats 4000000 in
theorem ltext_walk (s : Str) (w : World) (hs : s.length ≤ 1000000000000) :
    Calls Tryd.prog 16 #[.string ⟨s.toArray⟩] w fun e w' => e = .returned (.string ⟨(textP s).toArray⟩) ∧ Below w.heap.size w w' := by
  by_cases h0 : s = []
  · subst h0
    go_enter Tryd.func16, Tryd.ntmps16
    go_wp2
    go_ret
    exact ⟨rfl, Below.refl _ _⟩
  have h0a : s.isEmpty = false := by simpa using h0
  have h0b : (s == []) = false := by simpa using h0
  have hT : textP s = encS s := by unfold textP; rw [if_neg h0]
  have HT := Lib.hid hT
  clear h0 hT
  go_enter Tryd.func16, Tryd.ntmps16
  go_upto_region 6 with fail
  go_loopw [4, 5] (fun v4 v5 wr => LtInv s w v4 v5 wr) (fun _ v _ => s.length - (intOf v).toNat)
  case atStart => exact ⟨0, Nat.zero_le _, rfl, rfl, Below.refl _ _⟩
  case round =>
    obtain ⟨i, hi, rfl, rfl, hb⟩ := hrel
    have HB := Lib.hid hb
    have hsz := hb.size
    clear hb
    by_cases hlt : i < s.length
    · obtain ⟨x, hx⟩ : ∃ x, s[i]? = some x := ⟨s[i], List.getElem?_eq_getElem hlt⟩
      have i0 : (0 : Int) ≤ (i : Int) := by omega
      have i1 : (i : Int) < (s.length : Int) := by omega
      have HTK := Lib.hid (show s.take (i + 1) = s.take i ++ [x] by rw [List.take_add_one, hx]; rfl)
      have hlen : (encS (s.take i)).length ≤ 3000000000000 := by
        have h1 := (encS_len (s.take i)).2
        have h2 : (s.take i).length ≤ i := List.length_take_le _ _
        omega
      have hx2 : (⟨s.toArray⟩ : ByteArray)[i]'(show i < s.length from hlt) = x := (List.getElem?_eq_some_iff.1 hx).2
      obtain ⟨os, hos⟩ : ∃ os, os = encS (s.take i) := ⟨_, rfl⟩
      rw [← hos] at hlen ⊢
      have HOS := Lib.hid hos
      have hx256 : x.toNat < 256 := x.toNat_lt
      clear hx hos
      go_upto_region 9 with fail
      go_cut [55] (fun v wx => v = .bool (isSign x) ∧ wx = wr)
      case first =>
        have HSG := Lib.hid (sign_of x)
        have hcase : (97 ≤ x.toNat ∧ x.toNat ≤ 122) ∨ (123 ≤ x.toNat ∧ x.toNat ≤ 255) ∨ (65 ≤ x.toNat ∧ x.toNat ≤ 90) ∨ (91 ≤ x.toNat ∧ x.toNat ≤ 94) ∨ (95 ≤ x.toNat ∧ x.toNat ≤ 95) ∨ (96 ≤ x.toNat ∧ x.toNat ≤ 96) ∨ (48 ≤ x.toNat ∧ x.toNat ≤ 57) ∨ (58 ≤ x.toNat ∧ x.toNat ≤ 64) ∨ (46 ≤ x.toNat ∧ x.toNat ≤ 46) ∨ (45 ≤ x.toNat ∧ x.toNat ≤ 45) ∨ (47 ≤ x.toNat ∧ x.toNat ≤ 47) ∨ (0 ≤ x.toNat ∧ x.toNat ≤ 44) := by omega
        clear hx2
        rcases hcase with ⟨l0, l1⟩ | ⟨l0, l1⟩ | ⟨l0, l1⟩ | ⟨l0, l1⟩ | ⟨l0, l1⟩ | ⟨l0, l1⟩ | ⟨l0, l1⟩ | ⟨l0, l1⟩ | ⟨l0, l1⟩ | ⟨l0, l1⟩ | ⟨l0, l1⟩ | ⟨l0, l1⟩
        · have t97 : (97 : Int) ≤ (x.toNat : Int) := by omega
          have t65 : (65 : Int) ≤ (x.toNat : Int) := by omega
          have t48 : (48 : Int) ≤ (x.toNat : Int) := by omega
          have u122 : (x.toNat : Int) ≤ 122 := by omega
          have u90 : ¬ (x.toNat : Int) ≤ 90 := by omega
          have u57 : ¬ (x.toNat : Int) ≤ 57 := by omega
          have e46 : ((x.toNat : Int) == 46) = false := beq_eq_false_iff_ne.2 (by omega)
          have e95 : ((x.toNat : Int) == 95) = false := beq_eq_false_iff_ne.2 (by omega)
          have e45 : ((x.toNat : Int) == 45) = false := beq_eq_false_iff_ne.2 (by omega)
          have e47 : ((x.toNat : Int) == 47) = false := beq_eq_false_iff_ne.2 (by omega)
          have HR : Hid (isSign x = true) := Lib.hid (by rw [HSG.out]; simp; omega)
          clear l0 l1
          go_wp2
          go_meet
          case rel => exact ⟨congrArg Value.bool HR.out.symm, rfl⟩
        · have t97 : (97 : Int) ≤ (x.toNat : Int) := by omega
          have t65 : (65 : Int) ≤ (x.toNat : Int) := by omega
          have t48 : (48 : Int) ≤ (x.toNat : Int) := by omega
          have u122 : ¬ (x.toNat : Int) ≤ 122 := by omega
          have u90 : ¬ (x.toNat : Int) ≤ 90 := by omega
          have u57 : ¬ (x.toNat : Int) ≤ 57 := by omega
          have e46 : ((x.toNat : Int) == 46) = false := beq_eq_false_iff_ne.2 (by omega)
          have e95 : ((x.toNat : Int) == 95) = false := beq_eq_false_iff_ne.2 (by omega)
          have e45 : ((x.toNat : Int) == 45) = false := beq_eq_false_iff_ne.2 (by omega)
          have e47 : ((x.toNat : Int) == 47) = false := beq_eq_false_iff_ne.2 (by omega)
          have HR : Hid (isSign x = false) := Lib.hid (by rw [HSG.out]; simp; omega)
          clear l0 l1
          go_wp2
          go_meet
          case rel => exact ⟨congrArg Value.bool HR.out.symm, rfl⟩
        · have t97 : ¬ (97 : Int) ≤ (x.toNat : Int) := by omega
          have t65 : (65 : Int) ≤ (x.toNat : Int) := by omega
          have t48 : (48 : Int) ≤ (x.toNat : Int) := by omega
          have u122 : (x.toNat : Int) ≤ 122 := by omega
          have u90 : (x.toNat : Int) ≤ 90 := by omega
          have u57 : ¬ (x.toNat : Int) ≤ 57 := by omega
          have e46 : ((x.toNat : Int) == 46) = false := beq_eq_false_iff_ne.2 (by omega)
          have e95 : ((x.toNat : Int) == 95) = false := beq_eq_false_iff_ne.2 (by omega)
          have e45 : ((x.toNat : Int) == 45) = false := beq_eq_false_iff_ne.2 (by omega)
          have e47 : ((x.toNat : Int) == 47) = false := beq_eq_false_iff_ne.2 (by omega)
          have HR : Hid (isSign x = true) := Lib.hid (by rw [HSG.out]; simp; omega)
          clear l0 l1
          go_wp2
          go_meet
          case rel => exact ⟨congrArg Value.bool HR.out.symm, rfl⟩
        · have t97 : ¬ (97 : Int) ≤ (x.toNat : Int) := by omega
          have t65 : (65 : Int) ≤ (x.toNat : Int) := by omega
          have t48 : (48 : Int) ≤ (x.toNat : Int) := by omega
          have u122 : (x.toNat : Int) ≤ 122 := by omega
          have u90 : ¬ (x.toNat : Int) ≤ 90 := by omega
          have u57 : ¬ (x.toNat : Int) ≤ 57 := by omega
          have e46 : ((x.toNat : Int) == 46) = false := beq_eq_false_iff_ne.2 (by omega)
          have e95 : ((x.toNat : Int) == 95) = false := beq_eq_false_iff_ne.2 (by omega)
          have e45 : ((x.toNat : Int) == 45) = false := beq_eq_false_iff_ne.2 (by omega)
          have e47 : ((x.toNat : Int) == 47) = false := beq_eq_false_iff_ne.2 (by omega)
          have HR : Hid (isSign x = false) := Lib.hid (by rw [HSG.out]; simp; omega)
          clear l0 l1
          go_wp2
          go_meet
          case rel => exact ⟨congrArg Value.bool HR.out.symm, rfl⟩
        · have t97 : ¬ (97 : Int) ≤ (x.toNat : Int) := by omega
          have t65 : (65 : Int) ≤ (x.toNat : Int) := by omega
          have t48 : (48 : Int) ≤ (x.toNat : Int) := by omega
          have u122 : (x.toNat : Int) ≤ 122 := by omega
          have u90 : ¬ (x.toNat : Int) ≤ 90 := by omega
          have u57 : ¬ (x.toNat : Int) ≤ 57 := by omega
          have e46 : ((x.toNat : Int) == 46) = false := beq_eq_false_iff_ne.2 (by omega)
          have e95 : ((x.toNat : Int) == 95) = true := beq_iff_eq.2 (by omega)
          have e45 : ((x.toNat : Int) == 45) = false := beq_eq_false_iff_ne.2 (by omega)
          have e47 : ((x.toNat : Int) == 47) = false := beq_eq_false_iff_ne.2 (by omega)
          have HR : Hid (isSign x = true) := Lib.hid (by rw [HSG.out]; simp; omega)
          clear l0 l1
          go_wp2
          go_meet
          case rel => exact ⟨congrArg Value.bool HR.out.symm, rfl⟩
        · have t97 : ¬ (97 : Int) ≤ (x.toNat : Int) := by omega
          have t65 : (65 : Int) ≤ (x.toNat : Int) := by omega
          have t48 : (48 : Int) ≤ (x.toNat : Int) := by omega
          have u122 : (x.toNat : Int) ≤ 122 := by omega
          have u90 : ¬ (x.toNat : Int) ≤ 90 := by omega
          have u57 : ¬ (x.toNat : Int) ≤ 57 := by omega
          have e46 : ((x.toNat : Int) == 46) = false := beq_eq_false_iff_ne.2 (by omega)
          have e95 : ((x.toNat : Int) == 95) = false := beq_eq_false_iff_ne.2 (by omega)
          have e45 : ((x.toNat : Int) == 45) = false := beq_eq_false_iff_ne.2 (by omega)
          have e47 : ((x.toNat : Int) == 47) = false := beq_eq_false_iff_ne.2 (by omega)
          have HR : Hid (isSign x = false) := Lib.hid (by rw [HSG.out]; simp; omega)
          clear l0 l1
          go_wp2
          go_meet
          case rel => exact ⟨congrArg Value.bool HR.out.symm, rfl⟩
        · have t97 : ¬ (97 : Int) ≤ (x.toNat : Int) := by omega
          have t65 : ¬ (65 : Int) ≤ (x.toNat : Int) := by omega
          have t48 : (48 : Int) ≤ (x.toNat : Int) := by omega
          have u122 : (x.toNat : Int) ≤ 122 := by omega
          have u90 : (x.toNat : Int) ≤ 90 := by omega
          have u57 : (x.toNat : Int) ≤ 57 := by omega
          have e46 : ((x.toNat : Int) == 46) = false := beq_eq_false_iff_ne.2 (by omega)
          have e95 : ((x.toNat : Int) == 95) = false := beq_eq_false_iff_ne.2 (by omega)
          have e45 : ((x.toNat : Int) == 45) = false := beq_eq_false_iff_ne.2 (by omega)
          have e47 : ((x.toNat : Int) == 47) = false := beq_eq_false_iff_ne.2 (by omega)
          have HR : Hid (isSign x = true) := Lib.hid (by rw [HSG.out]; simp; omega)
          clear l0 l1
          go_wp2
          go_meet
          case rel => exact ⟨congrArg Value.bool HR.out.symm, rfl⟩
        · have t97 : ¬ (97 : Int) ≤ (x.toNat : Int) := by omega
          have t65 : ¬ (65 : Int) ≤ (x.toNat : Int) := by omega
          have t48 : (48 : Int) ≤ (x.toNat : Int) := by omega
          have u122 : (x.toNat : Int) ≤ 122 := by omega
          have u90 : (x.toNat : Int) ≤ 90 := by omega
          have u57 : ¬ (x.toNat : Int) ≤ 57 := by omega
          have e46 : ((x.toNat : Int) == 46) = false := beq_eq_false_iff_ne.2 (by omega)
          have e95 : ((x.toNat : Int) == 95) = false := beq_eq_false_iff_ne.2 (by omega)
          have e45 : ((x.toNat : Int) == 45) = false := beq_eq_false_iff_ne.2 (by omega)
          have e47 : ((x.toNat : Int) == 47) = false := beq_eq_false_iff_ne.2 (by omega)
          have HR : Hid (isSign x = false) := Lib.hid (by rw [HSG.out]; simp; omega)
          clear l0 l1
          go_wp2
          go_meet
          case rel => exact ⟨congrArg Value.bool HR.out.symm, rfl⟩
        · have t97 : ¬ (97 : Int) ≤ (x.toNat : Int) := by omega
          have t65 : ¬ (65 : Int) ≤ (x.toNat : Int) := by omega
          have t48 : ¬ (48 : Int) ≤ (x.toNat : Int) := by omega
          have u122 : (x.toNat : Int) ≤ 122 := by omega
          have u90 : (x.toNat : Int) ≤ 90 := by omega
          have u57 : (x.toNat : Int) ≤ 57 := by omega
          have e46 : ((x.toNat : Int) == 46) = true := beq_iff_eq.2 (by omega)
          have e95 : ((x.toNat : Int) == 95) = false := beq_eq_false_iff_ne.2 (by omega)
          have e45 : ((x.toNat : Int) == 45) = false := beq_eq_false_iff_ne.2 (by omega)
          have e47 : ((x.toNat : Int) == 47) = false := beq_eq_false_iff_ne.2 (by omega)
          have HR : Hid (isSign x = true) := Lib.hid (by rw [HSG.out]; simp; omega)
          clear l0 l1
          go_wp2
          go_meet
          case rel => exact ⟨congrArg Value.bool HR.out.symm, rfl⟩
        · have t97 : ¬ (97 : Int) ≤ (x.toNat : Int) := by omega
          have t65 : ¬ (65 : Int) ≤ (x.toNat : Int) := by omega
          have t48 : ¬ (48 : Int) ≤ (x.toNat : Int) := by omega
          have u122 : (x.toNat : Int) ≤ 122 := by omega
          have u90 : (x.toNat : Int) ≤ 90 := by omega
          have u57 : (x.toNat : Int) ≤ 57 := by omega
          have e46 : ((x.toNat : Int) == 46) = false := beq_eq_false_iff_ne.2 (by omega)
          have e95 : ((x.toNat : Int) == 95) = false := beq_eq_false_iff_ne.2 (by omega)
          have e45 : ((x.toNat : Int) == 45) = true := beq_iff_eq.2 (by omega)
          have e47 : ((x.toNat : Int) == 47) = false := beq_eq_false_iff_ne.2 (by omega)
          have HR : Hid (isSign x = true) := Lib.hid (by rw [HSG.out]; simp; omega)
          clear l0 l1
          go_wp2
          go_meet
          case rel => exact ⟨congrArg Value.bool HR.out.symm, rfl⟩
        · have t97 : ¬ (97 : Int) ≤ (x.toNat : Int) := by omega
          have t65 : ¬ (65 : Int) ≤ (x.toNat : Int) := by omega
          have t48 : ¬ (48 : Int) ≤ (x.toNat : Int) := by omega
          have u122 : (x.toNat : Int) ≤ 122 := by omega
          have u90 : (x.toNat : Int) ≤ 90 := by omega
          have u57 : (x.toNat : Int) ≤ 57 := by omega
          have e46 : ((x.toNat : Int) == 46) = false := beq_eq_false_iff_ne.2 (by omega)
          have e95 : ((x.toNat : Int) == 95) = false := beq_eq_false_iff_ne.2 (by omega)
          have e45 : ((x.toNat : Int) == 45) = false := beq_eq_false_iff_ne.2 (by omega)
          have e47 : ((x.toNat : Int) == 47) = true := beq_iff_eq.2 (by omega)
          have HR : Hid (isSign x = true) := Lib.hid (by rw [HSG.out]; simp; omega)
          clear l0 l1
          go_wp2
          go_meet
          case rel => exact ⟨congrArg Value.bool HR.out.symm, rfl⟩
        · have t97 : ¬ (97 : Int) ≤ (x.toNat : Int) := by omega
          have t65 : ¬ (65 : Int) ≤ (x.toNat : Int) := by omega
          have t48 : ¬ (48 : Int) ≤ (x.toNat : Int) := by omega
          have u122 : (x.toNat : Int) ≤ 122 := by omega
          have u90 : (x.toNat : Int) ≤ 90 := by omega
          have u57 : (x.toNat : Int) ≤ 57 := by omega
          have e46 : ((x.toNat : Int) == 46) = false := beq_eq_false_iff_ne.2 (by omega)
          have e95 : ((x.toNat : Int) == 95) = false := beq_eq_false_iff_ne.2 (by omega)
          have e45 : ((x.toNat : Int) == 45) = false := beq_eq_false_iff_ne.2 (by omega)
          have e47 : ((x.toNat : Int) == 47) = false := beq_eq_false_iff_ne.2 (by omega)
          have HR : Hid (isSign x = false) := Lib.hid (by rw [HSG.out]; simp; omega)
          clear l0 l1
          go_wp2
          go_meet
          case rel => exact ⟨congrArg Value.bool HR.out.symm, rfl⟩
      case rest =>
        obtain ⟨rfl, rfl⟩ := hcut
        cases hsg : isSign x with
        | true =>
          have HEC := Lib.hid (show encC x = [x] by unfold encC; rw [if_pos hsg])
          have hc : (wc.alloc (.cells #[.int .u8 (x.toNat : Int)] 5)).ownsRow 0 5 1 (.slice (some ⟨wc.heap.size, 0, none⟩) 1 1) 1 (bv [x]) := own_new wc #[.int .u8 (x.toNat : Int)] 5 1 1 rfl (by decide)
          have kc := run_conv_bytes (P := Tryd.prog) (wc.alloc (.cells #[.int .u8 (x.toNat : Int)] 5)) Tryd.underlying22 Tryd.underlying5 Tryd.underlying9 (Sl.of_own hc)
          have hs2 := ba_size os
          clear hc hsg hx2
          go_wp2
          go_roundw
          case rel => exact ⟨i + 1, by omega, by go_num, by rw [HTK.out, encS_snoc, HEC.out, ← HOS.out, ← ba_append], HB.out.alloc hsz _⟩
          case measure => simp [intOf]; omega
        | false =>
          have HEC := Lib.hid (show encC x = [37, hexD (x.toNat / 16), hexD (x.toNat % 16)] by unfold encC; rw [if_neg (by simp [hsg])])
          obtain ⟨hh, hhe⟩ : ∃ hh : Nat, hh = x.toNat / 16 := ⟨_, rfl⟩
          obtain ⟨ll, hll⟩ : ∃ ll : Nat, ll = x.toNat % 16 := ⟨_, rfl⟩
          have h16 : hh < 16 := by omega
          have l16 : ll < 16 := by omega
          have w16 : IntKind.u8.wrap ((x.toNat : Int) / 16 + 1) = (x.toNat : Int) / 16 + 1 := by unfold IntKind.wrap; simp [IntKind.signed, IntKind.bits]; omega
          have a0 : (0 : Int) ≤ (x.toNat : Int) / 16 := by omega
          have a1 : (x.toNat : Int) / 16 + 1 ≤ 16 := by omega
          have a2 : (x.toNat : Int) / 16 ≤ (x.toNat : Int) / 16 + 1 := by omega
          have wl : IntKind.u8.wrap ((x.toNat : Int) % 16 + 1) = (x.toNat : Int) % 16 + 1 := by unfold IntKind.wrap; simp [IntKind.signed, IntKind.bits]; omega
          have c0 : (0 : Int) ≤ (x.toNat : Int) % 16 := by omega
          have c1 : (x.toNat : Int) % 16 + 1 ≤ 16 := by omega
          have c2 : (x.toNat : Int) % 16 ≤ (x.toNat : Int) % 16 + 1 := by omega
          have hx1 : (⟨#[48, 49, 50, 51, 52, 53, 54, 55, 56, 57, 65, 66, 67, 68, 69, 70]⟩ : ByteArray).extract ((x.toNat : Int) / 16).toNat ((x.toNat : Int) / 16 + 1).toNat = ⟨#[hexD hh]⟩ := by
            rw [show ((x.toNat : Int) / 16).toNat = hh by omega, show ((x.toNat : Int) / 16 + 1).toNat = hh + 1 by omega]
            exact hex_ext hh h16
          have hy1 : (⟨#[48, 49, 50, 51, 52, 53, 54, 55, 56, 57, 65, 66, 67, 68, 69, 70]⟩ : ByteArray).extract ((x.toNat : Int) % 16).toNat ((x.toNat : Int) % 16 + 1).toNat = ⟨#[hexD ll]⟩ := by
            rw [show ((x.toNat : Int) % 16).toNat = ll by omega, show ((x.toNat : Int) % 16 + 1).toNat = ll + 1 by omega]
            exact hex_ext ll l16
          have HHL := Lib.hid hll
          have HHE := Lib.hid hhe
          have hs2 := ba_size os
          clear hll hhe hsg hx2
          go_upto_region 11 with fail
          go_quiet (fail)
          go_wp2
          go_roundw
          case rel => exact ⟨i + 1, by omega, by go_num, by rw [HTK.out, encS_snoc, HEC.out, ← HOS.out, ← ba_append, ← HHE.out, ← HHL.out]; rfl, (HB.out.trans (((Keep.refl (fun _ => False) _).drewN _).below (fun _ h => h.elim) hsz))⟩
          case measure => simp [intOf]; omega
    · obtain rfl : i = s.length := by omega
      have i1 : ¬ ((s.length : Nat) : Int) < (s.length : Int) := by omega
      rw [List.take_length]
      go_wp2
      go_ret
      exact ⟨by rw [HT.out]; rfl, HB.out⟩
end Go.Proofs.YtpdnfcgdcndhpaaDoor
