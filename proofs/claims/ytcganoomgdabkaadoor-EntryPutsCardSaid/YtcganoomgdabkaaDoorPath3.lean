/- Slices of texts; Same. -/
import Derived.Test.YtcganoomgdabkaaDoorPath2
set_option linter.unusedSimpArgs false
set_option linter.unusedVariables false
namespace Go.Proofs.YtcganoomgdabkaaDoor
open Go.RowKit

def strs (l : List Str) : List Value := l.map fun p => .string ⟨p.toArray⟩
theorem strs_length (l : List Str) : (strs l).length = l.length := by simp [strs]
theorem strs_one (l : List Str) : ∀ u ∈ strs l, u.oneCell' = true := by
  intro u hu
  obtain ⟨b, _, rfl⟩ := List.mem_map.1 hu
  rfl
theorem strs_at {w : World} {A : Option Addr} {c n k : Nat} {l : List Str} (h : Sl w 1 (.slice A n c) n (strs l)) {p : Str} (hl : l[k]? = some p) :
    ∃ b o, A = some ⟨b, o, none⟩ ∧ b < w.heap.size ∧ w.cell? ⟨b, o + k, none⟩ = some (.string ⟨p.toArray⟩) := by
  obtain ⟨A', c', e, hr, _⟩ := h
  injection e with e1 _ e2
  subst e1
  rcases hr with h0 | ⟨ad, rfl, hc⟩
  · have : (strs l)[k]? = some (.string ⟨p.toArray⟩) := by simp [strs, hl]
    rw [h0] at this; simp at this
  · have h1 := hc k (.string ⟨p.toArray⟩) (by simp [strs, hl])
    obtain ⟨b, o, spot⟩ := ad
    obtain ⟨p0, hp0⟩ : ∃ p0, l[0]? = some p0 := ⟨l[0]'(by have := (List.getElem?_eq_some_iff.1 hl).1; omega), List.getElem?_eq_getElem _⟩
    have hz := hc 0 (.string ⟨p0.toArray⟩) (by simp [strs, hp0])
    have es : spot = none := by
      have : (⟨b, o, spot⟩ : Addr).add 0 = ⟨b, o, spot⟩ := by unfold Addr.add; simp
      rw [this] at hz
      exact World.cell?_spot hz
    subst es
    rw [Addr.add_lit] at h1
    exact ⟨b, o, rfl, World.block_lt_of_cell? w _ h1, h1⟩

theorem str_list (p : Str) : (⟨p.toArray⟩ : ByteArray).toList = p := by rw [ByteArray.toList_eq]
theorem str_dec (p q : Str) : (p = q ∧ (p == q) = true) ∨ (p ≠ q ∧ (p == q) = false) := by
  by_cases h : p = q
  · exact .inl ⟨h, by simp [h]⟩
  · exact .inr ⟨h, by simpa using h⟩
theorem take_more {a b : List Str} {i : Nat} {p : Str} (h : a.take i = b.take i) (ha : a[i]? = some p) (hb : b[i]? = some p) : a.take (i + 1) = b.take (i + 1) := by
  rw [List.take_add_one, List.take_add_one, h, ha, hb]
def SInv (a b : List Str) (w : World) (v : Value) (wr : World) : Prop := ∃ i : Nat, i ≤ a.length ∧ v = .int .i64 (i : Int) ∧ Below w.heap.size w wr ∧ a.take i = b.take i

set_option maxHeartbeats 1000000 in
theorem same_walk (A B : Option Addr) (n m c d : Nat) (a b : List Str) (w : World) (ha : Sl w 1 (.slice A n c) n (strs a)) (hb : Sl w 1 (.slice B m d) m (strs b)) (h8 : a.length ≤ 8) :
    Calls Tryd.prog 19 #[.slice A n c, .slice B m d] w fun e w' => e = .returned (.bool (decide (a = b))) ∧ Below w.heap.size w w' := by
  have ln : n = a.length := by obtain ⟨_, _, _, _, _, _, h⟩ := ha; rw [strs_length] at h; omega
  have lm : m = b.length := by obtain ⟨_, _, _, _, _, _, h⟩ := hb; rw [strs_length] at h; omega
  subst ln lm
  by_cases hl : a.length = b.length
  · have HA := Lib.hid ha
    have HB := Lib.hid hb
    clear ha hb
    go_enter Tryd.func19, Tryd.ntmps19
    go_wp2
    go_loopw [5] (fun v wr => SInv a b w v wr) (fun v _ => a.length - (intOf v).toNat)
    case atStart => exact ⟨0, Nat.zero_le _, rfl, Below.refl _ _, rfl⟩
    case round =>
      obtain ⟨i, hi, rfl, hbe, htk⟩ := hrel
      have HE := Lib.hid hbe
      have HT := Lib.hid htk
      clear hbe htk
      by_cases hlt : i < a.length
      · obtain ⟨p, hp⟩ : ∃ p, a[i]? = some p := ⟨a[i], List.getElem?_eq_getElem hlt⟩
        obtain ⟨q, hq⟩ : ∃ q, b[i]? = some q := ⟨b[i]'(by omega), List.getElem?_eq_getElem _⟩
        obtain ⟨g1, o1, hA, k1, c1⟩ := strs_at HA.out hp
        obtain ⟨g2, o2, hB, k2, c2⟩ := strs_at HB.out hq
        subst hA hB
        have d1 := (HE.out.cell (p := ⟨g1, o1 + i, none⟩) k1).trans c1
        have d2 := (HE.out.cell (p := ⟨g2, o2 + i, none⟩) k2).trans c2
        have b1 : (0 : Int) ≤ (i : Int) := by omega
        have b2 : (i : Int) < (a.length : Int) := by omega
        have b3 : (i : Int) < (b.length : Int) := by omega
        clear c1 c2 b2
        rcases str_dec p q with ⟨rfl, hpq⟩ | ⟨hne, hpq⟩
        · go_wp2
          go_region
          all_goals
            go_wp2
            go_roundw
            case rel => exact ⟨i + 1, by omega, by go_num, HE.out.drew, take_more HT.out hp hq⟩
            case measure => simp [intOf]; omega
        · have hab : decide (a = b) = false := decide_eq_false (fun e => hne (by subst e; rw [hp] at hq; exact Option.some.inj hq))
          go_wp2
          go_region
          all_goals
            go_wp2
            go_ret
            exact ⟨congrArg (fun b => Ending.returned (.bool b)) hab.symm, HE.out.drew⟩
      · obtain rfl : i = a.length := by omega
        have hab : decide (a = b) = true := decide_eq_true (by have h := HT.out; rw [List.take_length, hl, List.take_length] at h; exact h)
        go_wp2
        go_ret
        exact ⟨congrArg (fun b => Ending.returned (.bool b)) hab.symm, HE.out⟩
  · have hab : decide (a = b) = false := decide_eq_false (fun e => hl (by rw [e]))
    have hl' : ¬ (a.length : Int) = (b.length : Int) := by omega
    clear ha hb
    go_enter Tryd.func19, Tryd.ntmps19
    go_wp2
    go_ret
    exact ⟨congrArg (fun b => Ending.returned (.bool b)) hab.symm, Below.refl _ _⟩
end Go.Proofs.YtcganoomgdabkaaDoor
