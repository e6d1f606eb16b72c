/- The reference's sign and Name. -/
import Derived.Test.YtcganoomgdabkaaDoorBase
import Derived.Test.YtcganoomgdabkaaDoorPath0
import Derived.Test.YtcganoomgdabkaaDoorPath1
import Derived.ProofKit
import Derived.OpenShut
set_option linter.unusedSimpArgs false
set_option linter.unusedVariables false
namespace Go.Proofs.YtcganoomgdabkaaDoor
open Go.RowKit

def signN (n : Nat) : Bool := (decide (97 ≤ n) && decide (n ≤ 122)) || (decide (65 ≤ n) && decide (n ≤ 90)) || (decide (48 ≤ n) && decide (n ≤ 57)) || decide (n = 46) || decide (n = 95) || decide (n = 45)
theorem isSign_eq (b : UInt8) : isSign b = signN b.toNat := by
  have h : (List.range 256).all (fun n => isSign (UInt8.ofNat n) == signN n) = true := by kernel_rfl
  have := List.all_eq_true.1 h b.toNat (List.mem_range.2 b.toNat_lt)
  simpa using this

theorem sign_walk (b : UInt8) (w : World) :
    Calls Tryd.prog 35 #[.int .u8 (b.toNat : Int)] w fun e w' => e = .returned (.bool (isSign b)) ∧ w' = w := by
  rw [isSign_eq]
  have hn := b.toNat_lt
  generalize b.toNat = n at *
  go_enter Tryd.func35, Tryd.ntmps35
  go_wp2
  all_goals
    go_ret
    exact ⟨congrArg (fun b => Ending.returned (.bool b)) (by rw [Bool.eq_iff_iff]; simp [signN]; omega), rfl⟩

def NInv (s : ByteArray) (w : World) (v : Value) (wr : World) : Prop := ∃ i : Nat, i ≤ s.size ∧ v = .int .i64 (i : Int) ∧ wr = w ∧ ∀ (j : Nat) b, j < i → s.data.toList[j]? = some b → isSign b = true

set_option maxHeartbeats 1000000 in
theorem refName_walk (s : ByteArray) (w : World) :
    Calls Tryd.prog 25 #[.string s] w fun e w' => e = .returned (.bool (isName s.data.toList)) ∧ w' = w := by
  have hr : s.data.toList.length = s.size := Array.length_toList
  by_cases h1 : s.size = 0 ∨ 24 < s.size ∨ s.toList = [46] ∨ s.toList = [46, 46]
  · have hn : isName s.data.toList = false := by
      rw [← ByteArray.toList_eq] at hr ⊢
      rw [Bool.eq_false_iff]
      intro h
      simp only [isName, Bool.and_eq_true, Bool.not_eq_true', beq_eq_false_iff_ne, decide_eq_true_eq] at h
      rcases h1 with h1 | h1 | h1 | h1
      · exact h.1.1.1.1 (List.eq_nil_of_length_eq_zero (by omega))
      · omega
      · exact h.1.1.1.2 h1
      · exact h.1.1.2 h1
    rw [hn]
    rcases h1 with h1 | h1 | h1 | h1
    all_goals
      go_enter Tryd.func25, Tryd.ntmps25
      go_wp2
      all_goals
        go_ret
        exact ⟨rfl, rfl⟩
  · have a1 : 1 ≤ s.size := by omega
    have a2 : s.size ≤ 24 := by omega
    have a3 : ¬ s.toList = [46] := fun e => h1 (.inr (.inr (.inl e)))
    have a4 : ¬ s.toList = [46, 46] := fun e => h1 (.inr (.inr (.inr e)))
    clear h1
    have c1 : decide ((s.size : Int) < 1) = false := decide_eq_false (by omega)
    have c2 : decide (24 < (s.size : Int)) = false := decide_eq_false (by omega)
    have c3 : (s.toList == [46]) = false := beq_eq_false_iff_ne.2 a3
    have c4 : (s.toList == [46, 46]) = false := beq_eq_false_iff_ne.2 a4
    go_enter Tryd.func25, Tryd.ntmps25
    go_wp2_with fail
    go_loopw [3] (fun v wr => NInv s w v wr) (fun v _ => s.size - (intOf v).toNat)
    case atStart => exact ⟨0, Nat.zero_le _, rfl, rfl, by intro j b hj; omega⟩
    case round =>
      obtain ⟨i, hi, rfl, rfl, hall⟩ := hrel
      by_cases hlt : i < s.size
      · have hb : s.data.toList[i]? = some s[i] := by rw [Array.getElem?_toList, Array.getElem?_eq_getElem hlt]; rfl
        have b1 : (0 : Int) ≤ (i : Int) := by omega
        have b2 : (i : Int) < (s.size : Int) := by omega
        have HA := Lib.hid hall
        have HB := Lib.hid hb
        clear hall hb
        go_wp2_with fail
        refine (sign_walk s[i] _).mono ?_
        rintro e w1 ⟨rfl, rfl⟩
        by_cases hs : isSign s[i] = true
        · go_wp2
          go_roundw
          case rel =>
            refine ⟨i + 1, by omega, by go_num, rfl, fun j b hj hb => ?_⟩
            rcases Nat.lt_or_ge j i with h | h
            · exact HA.out j b h hb
            · obtain rfl : j = i := by omega
              rw [HB.out] at hb
              cases hb
              exact hs
          case measure => simp [intOf]; omega
        · have hs' : isSign s[i] = false := by simpa using hs
          have hn : isName s.data.toList = false := by
            rw [Bool.eq_false_iff]
            intro h
            simp only [isName, Bool.and_eq_true] at h
            exact hs (List.all_eq_true.1 h.2 _ (List.mem_of_getElem? HB.out))
          go_wp2
          go_ret
          exact ⟨congrArg (fun b => Ending.returned (.bool b)) hn.symm, rfl⟩
      · obtain rfl : i = s.size := by omega
        have hn : isName s.data.toList = true := by
          rw [ByteArray.toList_eq] at a3 a4
          have h0 : ¬ s.data.toList = [] := by intro e; rw [e] at hr; simp at hr; omega
          simp only [isName, Bool.and_eq_true, Bool.not_eq_true', beq_eq_false_iff_ne, decide_eq_true_eq]
          refine ⟨⟨⟨⟨h0, a3⟩, a4⟩, by omega⟩, List.all_eq_true.2 fun b hb => ?_⟩
          obtain ⟨j, hj⟩ := List.mem_iff_getElem?.1 hb
          exact hall j b (by have := (List.getElem?_eq_some_iff.1 hj).1; omega) hj
        clear hall
        go_wp2
        go_ret
        exact ⟨congrArg (fun b => Ending.returned (.bool b)) hn.symm, rfl⟩
end Go.Proofs.YtcganoomgdabkaaDoor
