/- PathJoins: the walk. -/
import Derived.Test.YtelmmfaifebdkaaDoorPathA
import Derived.Deep.DeepCutAuto
import Derived.Deep.CutBlock
set_option linter.unusedSimpArgs false
set_option linter.unusedVariables false
namespace Go.Proofs.YtelmmfaifebdkaaDoor.lawPathJoins
open Go.RowKit

/-- In the loop: up to i all are names, and nothing is wanted yet; or the one ahead of i was none. -/
def LInv (l : List Str) (w1 : World) (want iv : Value) (wr : World) : Prop :=
  ∃ i : Nat, i ≤ l.length ∧ iv = .int .i64 (i : Int) ∧ wr = w1 ∧ ((want = .int .i64 0 ∧ ∀ (j : Nat) p, j < i → l[j]? = some p → isName p = true) ∨ (want = .int .i64 6 ∧ l.all isName = false))

set_option maxRecDepth 100000 in
set_option maxHeartbeats 1000000 in
theorem walk (A : Option Addr) (c : Nat) (l : List Str) (m0 : Int) (w : World) (ha : Sl w 1 (.slice A l.length c) l.length (strs l)) (hn : l.length ≤ 140737488351232) (hb : ∀ p ∈ l, p.length ≤ 140737488351232) (hm0 : w.cell? ⟨0, 0, none⟩ = some (.int .i64 m0)) :
    Calls Tryd.prog 4 #[.slice A l.length c] w fun e w' => e = .returned (.bool true) ∧ Below w.heap.size w w' := by
  have O0 := Lib.hid (On.start hm0)
  have S0 := Lib.hid ha
  have HB := Lib.hid (show ∀ p ∈ l, p.length ≤ 9223372036854775807 from fun p hp => by have := hb p hp; omega)
  clear hm0 ha hb
  by_cases h8 : 8 < l.length
  · have hj : joinP l = .error 4 := by unfold joinP; rw [if_pos h8]
    go_enter Tryd.func4, Tryd.ntmps4
    go_wp2_with fail
    refine (join_er hj _ S0.out hn HB.out).mono ?_
    rintro e w1 ⟨rfl, h1⟩
    have O1 := Lib.hid (O0.out.step h1)
    clear h1
    go_wp2
    go_loopw [5, 6] (fun want iv wr => want = .int .i64 4 ∧ iv = .int .i64 0 ∧ wr = w1) (fun _ _ _ => 0)
    case atStart => exact ⟨rfl, rfl, rfl⟩
    case round =>
      obtain ⟨rfl, rfl, rfl⟩ := hrel
      go_wp2_with fail
      refine (awake_walk m0 _ O1.out.max).mono ?_
      rintro e w2 ⟨rfl, h2⟩
      have O2 := Lib.hid (O1.out.step h2)
      clear h2
      go_wp2
      go_ret
      exact ⟨rfl, O2.out.bel⟩
  have h8' : l.length ≤ 8 := by omega
  clear h8
  cases hj : joinP l with
  | error k =>
    have hk : (k = 6 ∧ l.all isName = false) ∨ (k = 17 ∧ l.all isName = true ∧ 96 < (joinR l).length) := by
      unfold joinP at hj
      rw [if_neg (by omega)] at hj
      split at hj
      · rename_i e; cases hj; exact .inl ⟨rfl, e⟩
      · rename_i e
        split at hj
        · rename_i e2; cases hj; exact .inr ⟨rfl, by simpa using e, e2⟩
        · cases hj
    go_enter Tryd.func4, Tryd.ntmps4
    go_wp2_with fail
    refine (join_er hj _ S0.out hn HB.out).mono ?_
    rintro e w1 ⟨rfl, h1⟩
    have O1 := Lib.hid (O0.out.step h1)
    have S1 := Lib.hid (S0.out.below h1)
    have HK := Lib.hid hk
    clear h1 S0 hj hk
    go_wp2
    go_loopw [5, 6] (fun want iv wr => LInv l w1 want iv wr) (fun want iv _ => if intOf want = 0 then l.length + 1 - (intOf iv).toNat else 0)
    case atStart => exact ⟨0, Nat.zero_le _, rfl, rfl, .inl ⟨rfl, by intro j p hj; omega⟩⟩
    case round =>
      obtain ⟨i, hi, rfl, rfl, hst⟩ := hrel
      rcases hst with ⟨rfl, hall⟩ | ⟨rfl, hno⟩
      · by_cases hlt : i < l.length
        · obtain ⟨p, hp⟩ : ∃ p, l[i]? = some p := ⟨l[i], List.getElem?_eq_getElem hlt⟩
          obtain ⟨g, o, rfl, k1, c1⟩ := strs_at S1.out hp
          have b1 : (0 : Int) ≤ (i : Int) := by omega
          have b2 : (i : Int) < (l.length : Int) := by omega
          have HP := Lib.hid hp
          have HA := Lib.hid hall
          clear hp hall
          go_wp2_with fail
          refine (refName_walk ⟨p.toArray⟩ _).mono ?_
          rintro e w2 ⟨rfl, rfl⟩
          by_cases hs : isName p = true
          · go_wp2
            go_roundw
            case rel =>
              refine ⟨i + 1, by omega, by go_num, rfl, .inl ⟨rfl, fun j q hj hq => ?_⟩⟩
              rcases Nat.lt_or_ge j i with h | h
              · exact HA.out j q h hq
              · obtain rfl : j = i := by omega
                rw [HP.out] at hq
                cases hq
                exact hs
            case measure => simp [intOf]; omega
          · have hs' : isName p = false := by simpa using hs
            have hno : l.all isName = false := by
              rw [Bool.eq_false_iff]; intro h
              exact hs (List.all_eq_true.1 h p (List.mem_of_getElem? HP.out))
            go_wp2
            go_roundw
            case rel => exact ⟨i + 1, by omega, by go_num, rfl, .inr ⟨rfl, hno⟩⟩
            case measure => simp [intOf]; omega
        · obtain rfl : i = l.length := by omega
          have hn : l.all isName = true := List.all_eq_true.2 fun p hp => by
            obtain ⟨j, hj⟩ := List.mem_iff_getElem?.1 hp
            exact hall j p (List.getElem?_eq_some_iff.1 hj).1 hj
          obtain ⟨rfl, hbig⟩ : k = 17 ∧ 96 < (joinR l).length := by
            rcases HK.out with ⟨_, e⟩ | ⟨e, _, e2⟩
            · rw [hn] at e; cases e
            · exact ⟨e, e2⟩
          have h24 := Lib.hid (good_len (l := l) ⟨h8', fun p hp => List.all_eq_true.1 hn p hp⟩)
          have hne : ¬ l = [] := by rintro rfl; simp [joinR] at hbig
          have hJ := (joinS_length l).2.1 hne
          have bJ : (96 : Int) < ((joinS l).length : Int) := by rw [hJ]; omega
          obtain ⟨J, hJJ⟩ : ∃ J, joinS l = J := ⟨_, rfl⟩
          rw [hJJ] at bJ
          have HJ := Lib.hid hJJ
          clear hall hn hbig hne hJ hJJ
          go_wp2_with fail
          refine (refJoin_walk A _ c l _ S1.out (by omega) h24.out).mono ?_
          rintro e w2 ⟨rfl, rfl⟩
          rw [HJ.out]
          go_wp2_with fail
          refine (awake_walk m0 _ O1.out.max).mono ?_
          rintro e w2 ⟨rfl, h2⟩
          have O2 := Lib.hid (O1.out.step h2)
          clear h2
          go_wp2
          go_ret
          exact ⟨rfl, O2.out.bel⟩
      · obtain rfl : k = 6 := by
          rcases HK.out with ⟨e, _⟩ | ⟨_, e, _⟩
          · exact e
          · rw [hno] at e; cases e
        clear hno
        by_cases hlt : (i : Int) < (l.length : Int)
        all_goals
          go_wp2_with fail
          refine (awake_walk m0 _ O1.out.max).mono ?_
          rintro e w2 ⟨rfl, h2⟩
          have O2 := Lib.hid (O1.out.step h2)
          clear h2
          go_wp2
          go_ret
          exact ⟨rfl, O2.out.bel⟩
  | ok J =>
    obtain ⟨hg, hjl, rfl⟩ := joinP_ok hj
    obtain ⟨J, hJ⟩ : ∃ J, joinS l = J := ⟨_, rfl⟩
    have bJ : ¬ (96 : Int) < (J.length : Int) := by
      have := (joinS_length l).1
      rw [hJ] at this
      omega
    have h24 := Lib.hid (good_len hg)
    have HG := Lib.hid hg
    have HJ := Lib.hid hJ
    clear hJ hg hj
    go_enter Tryd.func4, Tryd.ntmps4
    go_wp2_with fail
    refine (join_ok A _ c l _ S0.out HG.out hjl).mono ?_
    rintro e w1 ⟨rfl, h1⟩
    have O1 := Lib.hid (O0.out.step h1)
    have S1 := Lib.hid (S0.out.below h1)
    clear h1 S0
    rw [HJ.out]
    go_wp2
    go_loopw [5, 6] (fun want iv wr => ∃ i : Nat, i ≤ l.length ∧ want = .int .i64 0 ∧ iv = .int .i64 (i : Int) ∧ wr = w1) (fun _ iv _ => l.length + 1 - (intOf iv).toNat)
    case atStart => exact ⟨0, Nat.zero_le _, rfl, rfl, rfl⟩
    case round =>
      obtain ⟨i, hi, rfl, rfl, rfl⟩ := hrel
      by_cases hlt : i < l.length
      · obtain ⟨p, hp⟩ : ∃ p, l[i]? = some p := ⟨l[i], List.getElem?_eq_getElem hlt⟩
        obtain ⟨g, o, rfl, k1, c1⟩ := strs_at S1.out hp
        have b1 : (0 : Int) ≤ (i : Int) := by omega
        have b2 : (i : Int) < (l.length : Int) := by omega
        have hs : isName p = true := HG.out.2 p (List.mem_of_getElem? hp)
        clear hp
        go_wp2_with fail
        refine (refName_walk ⟨p.toArray⟩ _).mono ?_
        rintro e w2 ⟨rfl, rfl⟩
        rw [show isName (⟨p.toArray⟩ : ByteArray).data.toList = true from hs]
        go_wp2
        go_roundw
        case rel => exact ⟨i + 1, by omega, by first | rfl | trivial, by go_num, by first | rfl | trivial⟩
        case measure => simp [intOf]; omega
      · obtain rfl : i = l.length := by omega
        go_wp2_with fail
        refine (refJoin_walk A _ c l _ S1.out (by omega) h24.out).mono ?_
        rintro e w2 ⟨rfl, rfl⟩
        rw [HJ.out]
        go_wp2_with fail
        refine (awake_walk m0 _ O1.out.max).mono ?_
        rintro e w2 ⟨rfl, h2⟩
        have O2 := Lib.hid (O1.out.step h2)
        have S2 := Lib.hid (S1.out.below h2)
        clear h2
        go_wp2_with fail
        refine (refJoin_walk A _ c l _ S2.out (by omega) h24.out).mono ?_
        rintro e w3 ⟨rfl, rfl⟩
        rw [HJ.out]
        go_wp2
        go_ret
        exact ⟨rfl, O2.out.bel⟩
end Go.Proofs.YtelmmfaifebdkaaDoor.lawPathJoins
