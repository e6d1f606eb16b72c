/- act.text: a text as a word. -/
import Derived.Test.YtpdnfcgdcndhpaaDoorAct0
import Derived.Deep.QuietTactic
import Derived.BigQuiet
import Derived.StillTailTactics
set_option linter.unusedSimpArgs false
set_option linter.unusedVariables false
namespace Go.Proofs.YtpdnfcgdcndhpaaDoor
open Go.RowKit

def signsL : Str := [97, 98, 99, 100, 101, 102, 103, 104, 105, 106, 107, 108, 109, 110, 111, 112, 113, 114, 115, 116, 117, 118, 119, 120, 121, 122, 65, 66, 67, 68, 69, 70, 71, 72, 73, 74, 75, 76, 77, 78, 79, 80, 81, 82, 83, 84, 85, 86, 87, 88, 89, 90, 48, 49, 50, 51, 52, 53, 54, 55, 56, 57, 46, 95, 45, 47]
def hexL : Str := [48, 49, 50, 51, 52, 53, 54, 55, 56, 57, 65, 66, 67, 68, 69, 70]
def isSign (b : UInt8) : Bool := decide (0 ≤ Lib.indexByte signsL b)
def hexD (n : Nat) : UInt8 := hexL.getD n 0
def encC (b : UInt8) : Str := if isSign b then [b] else [37, hexD (b.toNat / 16), hexD (b.toNat % 16)]
def encS (s : Str) : Str := s.flatMap encC
def textP (s : Str) : Str := if s = [] then [37] else encS s
theorem encC_len (b : UInt8) : 1 ≤ (encC b).length ∧ (encC b).length ≤ 3 := by
  unfold encC
  split <;> simp
theorem encS_snoc (s : Str) (x : UInt8) : encS (s ++ [x]) = encS s ++ encC x := by simp [encS]
theorem encS_len (s : Str) : s.length ≤ (encS s).length ∧ (encS s).length ≤ 3 * s.length := by
  induction s with
  | nil => exact ⟨Nat.le_refl _, Nat.le_refl _⟩
  | cons x s ih =>
    have h := encC_len x
    simp only [encS, List.flatMap_cons, List.length_append, List.length_cons] at ih ⊢
    omega
theorem hex_ext : ∀ k, k < 16 → (⟨#[48, 49, 50, 51, 52, 53, 54, 55, 56, 57, 65, 66, 67, 68, 69, 70]⟩ : ByteArray).extract k (k + 1) = ⟨#[hexD k]⟩
  | 0, _ => by kernel_rfl
  | 1, _ => by kernel_rfl
  | 2, _ => by kernel_rfl
  | 3, _ => by kernel_rfl
  | 4, _ => by kernel_rfl
  | 5, _ => by kernel_rfl
  | 6, _ => by kernel_rfl
  | 7, _ => by kernel_rfl
  | 8, _ => by kernel_rfl
  | 9, _ => by kernel_rfl
  | 10, _ => by kernel_rfl
  | 11, _ => by kernel_rfl
  | 12, _ => by kernel_rfl
  | 13, _ => by kernel_rfl
  | 14, _ => by kernel_rfl
  | 15, _ => by kernel_rfl
  | k + 16, h => absurd h (by omega)
theorem and15 : ∀ n : Fin 256, bits BinOp.and IntKind.u8 (n.val : Int) 15 = ((n.val % 16 : Nat) : Int) := by decide +kernel
def TxInv (s : Str) (base : Nat) (b : Nat) (w0 : World) (v : Value) (wr : World) : Prop := ∃ i : Nat, i ≤ s.length ∧ v = .int .i64 (i : Int) ∧ BD base b (encS (s.take i)) wr ∧ Below base w0 wr
set_option maxRecDepth 100000 in
set_option maxHeartbeats 2000000 in
theorem text_walk (s : Str) (w : World) (hs : s.length ≤ 1000000000000) :
    Calls Tryd.prog 30 #[.string ⟨s.toArray⟩] w fun e w' => e = .returned (.string ⟨(textP s).toArray⟩) ∧ Below w.heap.size w w' := by
  by_cases h0 : s = []
  · subst h0
    go_enter Tryd.func30, Tryd.ntmps30
    go_wp2
    go_ret
    exact ⟨rfl, Below.refl _ _⟩
  have h0a : s.isEmpty = false := by simpa using h0
  have h0b : (s == []) = false := by simpa using h0
  have hT : textP s = encS s := by unfold textP; rw [if_neg h0]
  have HT := Lib.hid hT
  have H0 := Lib.hid h0
  clear h0 hT
  obtain ⟨w1, hw1⟩ : ∃ w1, w1 = w.alloc (.cells #[.pointer none, .slice none 0 0] 67) := ⟨_, rfl⟩
  have hbd : BD w.heap.size w.heap.size [] w1 := by rw [hw1]; exact BD.new w _ (Nat.le_refl _)
  have hb1 : Below w.heap.size w w1 := by rw [hw1]; exact (Below.refl _ w).alloc (Nat.le_refl _) _
  have HW1 := Lib.hid hw1
  have HBD := Lib.hid hbd
  have HB1 := Lib.hid hb1
  have hwz : w.heap.size ≤ w1.heap.size := hb1.size
  clear hw1 hbd hb1
  go_enter Tryd.func30, Tryd.ntmps30
  go_upto_region 4 with fail
  rw [← HW1.out]
  go_upto_region 5 with fail
  go_loopw [9] (fun v wr => TxInv s w.heap.size w.heap.size w v wr) (fun v _ => s.length - (intOf v).toNat)
  case atStart => exact ⟨0, Nat.zero_le _, rfl, HBD.out, HB1.out⟩
  case round =>
    obtain ⟨i, hi, rfl, hbd, hb⟩ := hrel
    have HD := Lib.hid hbd
    have HB := Lib.hid hb
    have hwr : w.heap.size ≤ wr.heap.size := hb.size
    clear hbd hb
    by_cases hlt : i < s.length
    · obtain ⟨x, hx⟩ : ∃ x, s[i]? = some x := ⟨s[i], List.getElem?_eq_getElem hlt⟩
      have i0 : (0 : Int) ≤ (i : Int) := by omega
      have i1 : (i : Int) < (s.length : Int) := by omega
      have HTK := Lib.hid (show s.take (i + 1) = s.take i ++ [x] by rw [List.take_add_one, hx]; rfl)
      have HX := Lib.hid hx
      have hlen := (encS_len (s.take i)).2
      have htk : (s.take i).length ≤ i := List.length_take_le _ _
      have HIX := Lib.hid (fun w => Tryd.strings_IndexByte ⟨signsL.toArray⟩ (x.toNat : Int) w)
      have hx2 : (⟨s.toArray⟩ : ByteArray)[i]'(show i < s.length from hlt) = x := by
        have := (List.getElem?_eq_some_iff.1 hx).2
        exact this
      have hnx : ((x.toNat : Int).toNat.toUInt8) = x := by simp
      rw [hnx] at HIX
      have e1 : (⟨signsL.toArray⟩ : ByteArray).data.toList = signsL := rfl
      rw [e1] at HIX
      unfold signsL at HIX
      clear hx hnx e1
      by_cases hsg : isSign x = true
      · have hq : (0 : Int) ≤ Lib.indexByte signsL x := of_decide_eq_true hsg
        obtain ⟨q, hqq⟩ : ∃ q, q = Lib.indexByte signsL x := ⟨_, rfl⟩
        rw [← hqq] at hq
        unfold signsL at hqq
        rw [← hqq] at HIX
        have HEC := Lib.hid (show encC x = [x] by unfold encC; rw [if_pos hsg])
        have HWB := Lib.hid (writeByte_walk w.heap.size w.heap.size (encS (s.take i)) x wr HD.out hwr (by omega))
        clear hqq hsg
        go_wp2_with fail
        refine (HIX.out _).mono ?_
        rintro e w2 ⟨rfl, rfl⟩
        go_wp2_with fail
        refine HWB.out.mono ?_
        rintro e w3 ⟨rfl, hd3, hb3⟩
        have D3 := Lib.hid hd3
        have B3 := Lib.hid (HB.out.trans hb3)
        clear hd3 hb3
        go_wp2
        go_roundw
        case rel => exact ⟨i + 1, by omega, by go_num, by rw [HTK.out, encS_snoc, HEC.out]; exact D3.out, B3.out⟩
        case measure => simp [intOf]; omega
      · have hq : ¬ (0 : Int) ≤ Lib.indexByte signsL x := fun h => hsg (decide_eq_true h)
        obtain ⟨q, hqq⟩ : ∃ q, q = Lib.indexByte signsL x := ⟨_, rfl⟩
        rw [← hqq] at hq
        unfold signsL at hqq
        rw [← hqq] at HIX
        have HEC := Lib.hid (show encC x = [37, hexD (x.toNat / 16), hexD (x.toNat % 16)] by unfold encC; rw [if_neg hsg])
        clear hqq hsg
        go_wp2_with fail
        refine (HIX.out _).mono ?_
        rintro e w2 ⟨rfl, rfl⟩
        go_upto_region 9 with fail
        obtain ⟨hh, hhe⟩ : ∃ hh : Nat, hh = x.toNat / 16 := ⟨_, rfl⟩
        have hx256 : x.toNat < 256 := x.toNat_lt
        have h16 : hh < 16 := by omega
        have w16 : IntKind.u8.wrap ((x.toNat : Int) / 16 + 1) = (x.toNat : Int) / 16 + 1 := by unfold IntKind.wrap; simp [IntKind.signed, IntKind.bits]; omega
        have a0 : (0 : Int) ≤ (x.toNat : Int) / 16 := by omega
        have a1 : (x.toNat : Int) / 16 + 1 ≤ 16 := by omega
        have a2 : (x.toNat : Int) / 16 ≤ (x.toNat : Int) / 16 + 1 := by omega
        have hx1 : (⟨#[48, 49, 50, 51, 52, 53, 54, 55, 56, 57, 65, 66, 67, 68, 69, 70]⟩ : ByteArray).extract ((x.toNat : Int) / 16).toNat ((x.toNat : Int) / 16 + 1).toNat = ⟨#[hexD hh]⟩ := by
          rw [show ((x.toNat : Int) / 16).toNat = hh by omega, show ((x.toNat : Int) / 16 + 1).toNat = hh + 1 by omega]
          exact hex_ext hh h16
        obtain ⟨ll, hll⟩ : ∃ ll : Nat, ll = x.toNat % 16 := ⟨_, rfl⟩
        have l16 : ll < 16 := by omega
        have hb15 : bits BinOp.and IntKind.u8 (x.toNat : Int) 15 = (ll : Int) := by rw [hll]; exact and15 ⟨x.toNat, hx256⟩
        have wl : IntKind.u8.wrap ((ll : Int) + 1) = (ll : Int) + 1 := by unfold IntKind.wrap; simp [IntKind.signed, IntKind.bits]; omega
        have c0 : (0 : Int) ≤ (ll : Int) := by omega
        have c1 : (ll : Int) + 1 ≤ 16 := by omega
        have c2 : (ll : Int) ≤ (ll : Int) + 1 := by omega
        have c3 : ((ll : Int) + 1).toNat = ll + 1 := by omega
        have hy1 := hex_ext ll l16
        have HHL := Lib.hid hll
        have HHE := Lib.hid hhe
        clear hll
        go_still_tail 22, (by kernel_rfl)
        change wpList _ _ _ _ _ w2.drew
        have HBA : Hid ((⟨#[37]⟩ : ByteArray) ++ ⟨#[hexD (x.toNat / 16)]⟩ ++ ⟨#[hexD ll]⟩ = ⟨([37, hexD (x.toNat / 16), hexD (x.toNat % 16)] : Str).toArray⟩) := Lib.hid (by rw [HHL.out]; rfl)
        have HWS := Lib.hid (writeStr_walk w.heap.size w.heap.size (encS (s.take i)) [37, hexD (x.toNat / 16), hexD (x.toNat % 16)] w2.drew (HD.out.below (Below.refl _ _).drew) hwr (by simp; omega))
        rw [HBA.out]
        clear hx1 hy1 hb15 wl w16 a0 a1 a2 c0 c1 c2 c3
        go_wp2_with fail
        refine HWS.out.mono ?_
        rintro e w3 ⟨rfl, hd3, hb3⟩
        have D3 := Lib.hid hd3
        have B3 := Lib.hid (HB.out.drew.trans hb3)
        clear hd3 hb3
        go_wp2
        go_roundw
        case rel => exact ⟨i + 1, by omega, by go_num, by rw [HTK.out, encS_snoc, HEC.out]; exact D3.out, B3.out⟩
        case measure => simp [intOf]; omega
    · obtain rfl : i = s.length := by omega
      have i1 : ¬ ((s.length : Nat) : Int) < (s.length : Int) := by omega
      rw [List.take_length] at HD
      have hne : encS s ≠ [] := by
        intro h
        have h1 := (encS_len s).1
        rw [h] at h1
        exact H0.out (List.eq_nil_of_length_eq_zero (Nat.le_zero.1 h1))
      have HST := Lib.hid (Tryd.Builder_String w.heap.size w.heap.size (encS s) wr HD.out.is hne)
      clear hne
      go_wp2_with fail
      refine HST.out.mono ?_
      rintro e w3 ⟨rfl, hb3⟩
      have B3 := Lib.hid (HB.out.trans hb3)
      clear hb3
      go_wp2
      go_ret
      exact ⟨by rw [HT.out]; rfl, B3.out⟩
end Go.Proofs.YtpdnfcgdcndhpaaDoor
