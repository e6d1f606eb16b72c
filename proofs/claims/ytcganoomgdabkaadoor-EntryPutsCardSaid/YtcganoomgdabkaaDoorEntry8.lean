/- The document's answer: Find, Rows; Same at any texts. -/
import Derived.Test.YtcganoomgdabkaaDoorEntry7
set_option linter.unusedSimpArgs false
set_option linter.unusedVariables false
namespace Go.Proofs.YtcganoomgdabkaaDoor
open Go.RowKit

set_option maxHeartbeats 1000000 in
theorem rfind_walk (A : Option Addr) (c : Nat) (l : List RW) (s : Str) (w : World) (hs : Sl w 2 (.slice A l.length c) l.length (rows l)) (hn : l.length ≤ 4611686018427387904) :
    Calls Tryd.prog 15 #[.slice A l.length c, .string ⟨s.toArray⟩] w fun e w' => e = .returned (.int .i64 (numO (findP l s))) ∧ w' = w := by
  have HS := Lib.hid hs
  clear hs
  go_enter Tryd.func15, Tryd.ntmps15
  go_wp2
  go_loop [5] (fun v => ∃ i : Nat, i ≤ l.length ∧ v = .int .i64 (i : Int) ∧ ∀ (j : Nat) a, j < i → l[j]? = some a → (a.name == s && !(s == [])) = false) (fun v => l.length - (intOf v).toNat)
  case atStart => exact ⟨0, Nat.zero_le _, rfl, by intro j a hj; omega⟩
  case round =>
    obtain ⟨i, hi, rfl, hno⟩ := hrel
    have HN := Lib.hid hno
    clear hno
    by_cases hlt : i < l.length
    · obtain ⟨x, hx⟩ : ∃ x, l[i]? = some x := ⟨l[i], List.getElem?_eq_getElem hlt⟩
      obtain ⟨b, o, rfl, hb, r0, r1⟩ := row_at HS.out hx
      have b1 : (0 : Int) ≤ (i : Int) := by omega
      have b2 : (i : Int) < (l.length : Int) := by omega
      have HX := Lib.hid hx
      clear hx
      obtain ⟨xs, xn⟩ := x
      dsimp only at r0 r1
      by_cases h1 : xs = s
      · subst h1
        by_cases h2 : xs = []
        · subst h2
          go_wp2
          go_round
          case rel =>
            refine ⟨i + 1, by omega, by go_num, fun j a hj ha => ?_⟩
            rcases Nat.lt_or_ge j i with h | h
            · exact HN.out j a h ha
            · simp
          case measure => simp [intOf]; omega
        · have h2a : xs.isEmpty = false := by simpa using h2
          have h2c : (xs == []) = false := by simpa using h2
          have HF : Hid (findP l xs = some i) := Lib.hid (by
            unfold findP
            rw [if_neg h2]
            refine idxR_hit HX.out (by simp) (fun j a hj ha => ?_)
            have := HN.out j a hj ha
            rw [h2c] at this
            simpa using this)
          clear h2
          go_wp2
          go_ret
          exact ⟨congrArg (fun n => Ending.returned (.int .i64 n)) (by rw [HF.out]; rfl), rfl⟩
      · have h1a : (xs == s) = false := beq_eq_false_iff_ne.2 h1
        clear h1
        go_wp2
        go_round
        case rel =>
          refine ⟨i + 1, by omega, by go_num, fun j a hj ha => ?_⟩
          rcases Nat.lt_or_ge j i with h | h
          · exact HN.out j a h ha
          · obtain rfl : j = i := by omega
            rw [HX.out] at ha
            cases ha
            simp [h1a]
        case measure => simp [intOf]; omega
    · obtain rfl : i = l.length := by omega
      have HF : Hid (findP l s = none) := Lib.hid (by
        unfold findP
        split
        · rfl
        · rename_i h0
          refine idxR_miss (fun j a ha => ?_)
          have := HN.out j a (List.getElem?_eq_some_iff.1 ha).1 ha
          have h0' : (s == []) = false := by simpa using h0
          rw [h0'] at this
          simpa using this)
      go_wp2
      go_ret
      exact ⟨congrArg (fun n => Ending.returned (.int .i64 n)) (by rw [HF.out]; rfl), rfl⟩

theorem take_moreG {α : Type} {a b : List α} {i : Nat} {p : α} (h : a.take i = b.take i) (ha : a[i]? = some p) (hb : b[i]? = some p) : a.take (i + 1) = b.take (i + 1) := by
  rw [List.take_add_one, List.take_add_one, h, ha, hb]
def GInv {α : Type} (a b : List α) (w : World) (v : Value) (wr : World) : Prop := ∃ i : Nat, i ≤ a.length ∧ v = .int .i64 (i : Int) ∧ Below w.heap.size w wr ∧ a.take i = b.take i
set_option maxHeartbeats 1000000 in
theorem rrows_walk (A B : Option Addr) (c d : Nat) (a b : List RW) (w : World) (ha : Sl w 2 (.slice A a.length c) a.length (rows a)) (hb : Sl w 2 (.slice B b.length d) b.length (rows b)) (hn : a.length ≤ 4611686018427387904) :
    Calls Tryd.prog 16 #[.slice A a.length c, .slice B b.length d] w fun e w' => e = .returned (.bool (decide (a = b))) ∧ Below w.heap.size w w' := by
  by_cases hl : a.length = b.length
  · have HA := Lib.hid ha
    have HB := Lib.hid hb
    clear ha hb
    go_enter Tryd.func16, Tryd.ntmps16
    go_wp2
    go_loopw [5] (fun v wr => GInv a b w v wr) (fun v _ => a.length - (intOf v).toNat)
    case atStart => exact ⟨0, Nat.zero_le _, rfl, Below.refl _ _, rfl⟩
    case round =>
      obtain ⟨i, hi, rfl, hbe, htk⟩ := hrel
      have HE := Lib.hid hbe
      have HT := Lib.hid htk
      clear hbe htk
      by_cases hlt : i < a.length
      · obtain ⟨p, hp⟩ : ∃ p, a[i]? = some p := ⟨a[i], List.getElem?_eq_getElem hlt⟩
        obtain ⟨q, hq⟩ : ∃ q, b[i]? = some q := ⟨b[i]'(by omega), List.getElem?_eq_getElem _⟩
        obtain ⟨g1, o1, hA, k1, c0, c1⟩ := row_at (HA.out.below HE.out) hp
        obtain ⟨g2, o2, hB, k2, d0, d1⟩ := row_at (HB.out.below HE.out) hq
        subst hA hB
        have b1 : (0 : Int) ≤ (i : Int) := by omega
        have b2 : (i : Int) < (a.length : Int) := by omega
        have b3 : (i : Int) < (b.length : Int) := by omega
        have HP := Lib.hid hp
        have HQ := Lib.hid hq
        have HL := Lib.hid hl
        clear hp hq hl
        obtain ⟨ps, pn⟩ := p
        obtain ⟨qs, qn⟩ := q
        dsimp only at c0 c1 d0 d1
        by_cases e1 : ps = qs
        · subst e1
          by_cases e2 : pn = qn
          · subst e2
            go_wp2
            go_region
            all_goals
              go_wp2
              go_roundw
              case rel => exact ⟨i + 1, by omega, by go_num, HE.out.drew, take_moreG HT.out HP.out HQ.out⟩
              case measure => simp [intOf]; omega
          · have e2a : (pn == qn) = false := beq_eq_false_iff_ne.2 e2
            have hab : decide (a = b) = false := decide_eq_false (fun e => e2 (by have := HP.out; rw [e, HQ.out] at this; injection this with this; injection this with _ this; exact this.symm))
            have HAB := Lib.hid hab
            clear hab
            go_wp2
            go_region
            all_goals
              go_wp2
              go_ret
              exact ⟨congrArg (fun b => Ending.returned (.bool b)) HAB.out.symm, HE.out.drew⟩
        · have e1a : (ps == qs) = false := beq_eq_false_iff_ne.2 e1
          have hab : decide (a = b) = false := decide_eq_false (fun e => e1 (by have := HP.out; rw [e, HQ.out] at this; injection this with this; injection this with this _; exact this.symm))
          have HAB := Lib.hid hab
          clear hab
          go_wp2
          go_region
          all_goals
            go_wp2
            go_ret
            exact ⟨congrArg (fun b => Ending.returned (.bool b)) HAB.out.symm, HE.out.drew⟩
      · obtain rfl : i = a.length := by omega
        have hab : decide (a = b) = true := decide_eq_true (by have h := HT.out; rw [List.take_length, hl, List.take_length] at h; exact h)
        have HAB := Lib.hid hab
        clear hab hl
        go_wp2
        go_ret
        exact ⟨congrArg (fun b => Ending.returned (.bool b)) HAB.out.symm, HE.out⟩
  · have hab : decide (a = b) = false := decide_eq_false (fun e => hl (by rw [e]))
    have HAB := Lib.hid hab
    have hl' : ¬ (a.length : Int) = (b.length : Int) := by omega
    clear ha hb hab
    go_enter Tryd.func16, Tryd.ntmps16
    go_wp2
    go_ret
    exact ⟨congrArg (fun b => Ending.returned (.bool b)) HAB.out.symm, Below.refl _ _⟩
set_option maxHeartbeats 1000000 in
theorem sameN_walk (A B : Option Addr) (n m c d : Nat) (a b : List Str) (w : World) (ha : Sl w 1 (.slice A n c) n (strs a)) (hb : Sl w 1 (.slice B m d) m (strs b)) (h8 : a.length ≤ 4611686018427387904) :
    Calls Tryd.prog 19 #[.slice A n c, .slice B m d] w fun e w' => e = .returned (.bool (decide (a = b))) ∧ Below w.heap.size w w' := by
  have ln : n = a.length := by obtain ⟨_, _, _, _, _, _, h⟩ := ha; rw [strs_length] at h; omega
  have lm : m = b.length := by obtain ⟨_, _, _, _, _, _, h⟩ := hb; rw [strs_length] at h; omega
  subst ln lm
  by_cases hl : a.length = b.length
  · have HA := Lib.hid ha
    have HB := Lib.hid hb
    clear ha hb
    go_enter Tryd.func19, Tryd.ntmps19
    go_wp2
    go_loopw [5] (fun v wr => SInv a b w v wr) (fun v _ => a.length - (intOf v).toNat)
    case atStart => exact ⟨0, Nat.zero_le _, rfl, Below.refl _ _, rfl⟩
    case round =>
      obtain ⟨i, hi, rfl, hbe, htk⟩ := hrel
      have HE := Lib.hid hbe
      have HT := Lib.hid htk
      clear hbe htk
      by_cases hlt : i < a.length
      · obtain ⟨p, hp⟩ : ∃ p, a[i]? = some p := ⟨a[i], List.getElem?_eq_getElem hlt⟩
        obtain ⟨q, hq⟩ : ∃ q, b[i]? = some q := ⟨b[i]'(by omega), List.getElem?_eq_getElem _⟩
        obtain ⟨g1, o1, hA, k1, c1⟩ := strs_at HA.out hp
        obtain ⟨g2, o2, hB, k2, c2⟩ := strs_at HB.out hq
        subst hA hB
        have d1 := (HE.out.cell (p := ⟨g1, o1 + i, none⟩) k1).trans c1
        have d2 := (HE.out.cell (p := ⟨g2, o2 + i, none⟩) k2).trans c2
        have b1 : (0 : Int) ≤ (i : Int) := by omega
        have b2 : (i : Int) < (a.length : Int) := by omega
        have b3 : (i : Int) < (b.length : Int) := by omega
        clear c1 c2 b2
        rcases str_dec p q with ⟨rfl, hpq⟩ | ⟨hne, hpq⟩
        · go_wp2
          go_region
          all_goals
            go_wp2
            go_roundw
            case rel => exact ⟨i + 1, by omega, by go_num, HE.out.drew, take_more HT.out hp hq⟩
            case measure => simp [intOf]; omega
        · have hab : decide (a = b) = false := decide_eq_false (fun e => hne (by subst e; rw [hp] at hq; exact Option.some.inj hq))
          go_wp2
          go_region
          all_goals
            go_wp2
            go_ret
            exact ⟨congrArg (fun b => Ending.returned (.bool b)) hab.symm, HE.out.drew⟩
      · obtain rfl : i = a.length := by omega
        have hab : decide (a = b) = true := decide_eq_true (by have h := HT.out; rw [List.take_length, hl, List.take_length] at h; exact h)
        go_wp2
        go_ret
        exact ⟨congrArg (fun b => Ending.returned (.bool b)) hab.symm, HE.out⟩
  · have hab : decide (a = b) = false := decide_eq_false (fun e => hl (by rw [e]))
    have hl' : ¬ (a.length : Int) = (b.length : Int) := by omega
    clear ha hb
    go_enter Tryd.func19, Tryd.ntmps19
    go_wp2
    go_ret
    exact ⟨congrArg (fun b => Ending.returned (.bool b)) hab.symm, Below.refl _ _⟩
end Go.Proofs.YtcganoomgdabkaaDoor
