/- PathOnce: the walk. -/
import Derived.Test.YtelmmfaifebdkaaDoorPathA
set_option linter.unusedSimpArgs false
set_option linter.unusedVariables false
namespace Go.Proofs.YtelmmfaifebdkaaDoor.lawPathOnce
open Go.RowKit

set_option maxRecDepth 100000 in
set_option maxHeartbeats 1000000 in
theorem walk (s t : ByteArray) (m0 : Int) (w : World) (hs : s.size ≤ 140737488351232) (ht : t.size ≤ 140737488351232) (hm0 : w.cell? ⟨0, 0, none⟩ = some (.int .i64 m0)) :
    Calls Tryd.prog 7 #[.string s, .string t] w fun e w' => e = .returned (.bool true) ∧ Below w.heap.size w w' := by
  have O0 := Lib.hid (On.start hm0)
  clear hm0
  cases h : splitS s.data.toList with
  | error k =>
    have hk' : ¬ k = 0 := by have := splitS_err h; omega
    go_enter Tryd.func7, Tryd.ntmps7
    go_wp2_with fail
    refine (clean_er (clean_no h) m0 _ O0.out.max).mono ?_
    rintro e w1 ⟨rfl, h1⟩
    have O1 := Lib.hid (O0.out.step h1)
    clear h1
    go_wp2_with fail
    refine (awake_walk m0 _ O1.out.max).mono ?_
    rintro e w2 ⟨rfl, h2⟩
    have O2 := Lib.hid (O1.out.step h2)
    clear h2
    go_wp2_with fail
    refine (awake_walk m0 _ O2.out.max).mono ?_
    rintro e w3 ⟨rfl, h3⟩
    have O3 := Lib.hid (O2.out.step h3)
    clear h3
    go_wp2
    go_ret
    exact ⟨rfl, O3.out.bel⟩
  | ok l =>
    obtain ⟨hg, hjl, h96, h1s⟩ := splitS_ok h
    have hss : s.data.toList.length = s.size := Array.length_toList
    rw [hss] at hjl h96 h1s
    obtain ⟨J, hJ⟩ : ∃ J, joinS l = J := ⟨_, rfl⟩
    have hC : cleanP (⟨J.toArray⟩ : ByteArray).data.toList = .ok J := by rw [← hJ]; exact clean_ok (split_joinS hg (by omega))
    have hJl : (J.length : Int) ≤ (s.size : Int) := by
      have := (joinS_length l).1
      rw [hJ] at this
      omega
    have HC := Lib.hid hC
    have HJ := Lib.hid hJ
    have HG := Lib.hid hg
    have hl96 : (joinR l).length ≤ 96 := by omega
    clear hC hJ hg hss
    cases h2 : splitS t.data.toList with
    | error k =>
      have hk' : ¬ k = 0 := by have := splitS_err h2; omega
      have W1 : withinP s.data.toList t.data.toList = (false, k) := by unfold withinP; rw [h]; simp only; rw [h2]
      have W2 : withinP t.data.toList s.data.toList = (false, k) := by unfold withinP; rw [h2]
      go_enter Tryd.func7, Tryd.ntmps7
      go_wp2_with fail
      refine (clean_at (clean_ok h) m0 _ O0.out.max).mono ?_
      rintro e w1 ⟨rfl, h1⟩
      have O1 := Lib.hid (O0.out.step h1)
      clear h1
      rw [HJ.out]
      go_wp2_with fail
      refine (awake_walk m0 _ O1.out.max).mono ?_
      rintro e w2 ⟨rfl, h2⟩
      have O2 := Lib.hid (O1.out.step h2)
      clear h2
      go_wp2_with fail
      refine (clean_at HC.out m0 _ O2.out.max).mono ?_
      rintro e w3 ⟨rfl, h3⟩
      have O3 := Lib.hid (O2.out.step h3)
      clear h3
      go_wp2_with fail
      refine (split_ok h m0 _ O3.out.max).mono ?_
      rintro e w4 ⟨A, c, rfl, hsl, h4⟩
      have O4 := Lib.hid (O3.out.step h4)
      have SL := Lib.hid hsl
      clear hsl
      clear h4
      go_wp2_with fail
      refine (join_ok A _ c l _ SL.out HG.out (by omega)).mono ?_
      rintro e w5 ⟨rfl, h5⟩
      have O5 := Lib.hid (O4.out.step h5)
      clear h5
      rw [HJ.out]
      go_wp2_with fail
      refine (within_at (b := false) (k := k) W1 m0 _ O5.out.max).mono ?_
      rintro e w6 ⟨rfl, h6⟩
      have O6 := Lib.hid (O5.out.step h6)
      clear h6
      go_wp2_with fail
      refine (within_at (b := false) (k := k) W2 m0 _ O6.out.max).mono ?_
      rintro e w7 ⟨rfl, h7⟩
      have O7 := Lib.hid (O6.out.step h7)
      clear h7
      go_wp2
      go_ret
      exact ⟨rfl, O7.out.bel⟩
    | ok b =>
      by_cases hb : b.length < l.length ∧ l.take b.length = b
      · have W1 : withinP s.data.toList t.data.toList = (true, 0) := by rw [within_ok h h2, decide_eq_true hb]
        have W2 : withinP t.data.toList s.data.toList = (false, 0) := by rw [within_ok h2 h, decide_eq_false (fun e => by omega)]
        clear hb
        go_enter Tryd.func7, Tryd.ntmps7
        go_wp2_with fail
        refine (clean_at (clean_ok h) m0 _ O0.out.max).mono ?_
        rintro e w1 ⟨rfl, h1⟩
        have O1 := Lib.hid (O0.out.step h1)
        clear h1
        rw [HJ.out]
        go_wp2_with fail
        refine (awake_walk m0 _ O1.out.max).mono ?_
        rintro e w2 ⟨rfl, h2⟩
        have O2 := Lib.hid (O1.out.step h2)
        clear h2
        go_wp2_with fail
        refine (clean_at HC.out m0 _ O2.out.max).mono ?_
        rintro e w3 ⟨rfl, h3⟩
        have O3 := Lib.hid (O2.out.step h3)
        clear h3
        go_wp2_with fail
        refine (split_ok h m0 _ O3.out.max).mono ?_
        rintro e w4 ⟨A, c, rfl, hsl, h4⟩
        have O4 := Lib.hid (O3.out.step h4)
        have SL := Lib.hid hsl
        clear hsl
        clear h4
        go_wp2_with fail
        refine (join_ok A _ c l _ SL.out HG.out (by omega)).mono ?_
        rintro e w5 ⟨rfl, h5⟩
        have O5 := Lib.hid (O4.out.step h5)
        clear h5
        rw [HJ.out]
        go_wp2_with fail
        refine (within_at (b := true) (k := 0) W1 m0 _ O5.out.max).mono ?_
        rintro e w6 ⟨rfl, h6⟩
        have O6 := Lib.hid (O5.out.step h6)
        clear h6
        go_wp2_with fail
        refine (within_at (b := false) (k := 0) W2 m0 _ O6.out.max).mono ?_
        rintro e w7 ⟨rfl, h7⟩
        have O7 := Lib.hid (O6.out.step h7)
        clear h7
        go_wp2
        go_ret
        exact ⟨rfl, O7.out.bel⟩
      · have W1 : withinP s.data.toList t.data.toList = (false, 0) := by rw [within_ok h h2, decide_eq_false hb]
        obtain ⟨v, hv⟩ : ∃ v, withinP t.data.toList s.data.toList = (v, 0) := ⟨_, within_ok h2 h⟩
        have W2 := hv
        clear hb hv
        go_enter Tryd.func7, Tryd.ntmps7
        go_wp2_with fail
        refine (clean_at (clean_ok h) m0 _ O0.out.max).mono ?_
        rintro e w1 ⟨rfl, h1⟩
        have O1 := Lib.hid (O0.out.step h1)
        clear h1
        rw [HJ.out]
        go_wp2_with fail
        refine (awake_walk m0 _ O1.out.max).mono ?_
        rintro e w2 ⟨rfl, h2⟩
        have O2 := Lib.hid (O1.out.step h2)
        clear h2
        go_wp2_with fail
        refine (clean_at HC.out m0 _ O2.out.max).mono ?_
        rintro e w3 ⟨rfl, h3⟩
        have O3 := Lib.hid (O2.out.step h3)
        clear h3
        go_wp2_with fail
        refine (split_ok h m0 _ O3.out.max).mono ?_
        rintro e w4 ⟨A, c, rfl, hsl, h4⟩
        have O4 := Lib.hid (O3.out.step h4)
        have SL := Lib.hid hsl
        clear hsl
        clear h4
        go_wp2_with fail
        refine (join_ok A _ c l _ SL.out HG.out (by omega)).mono ?_
        rintro e w5 ⟨rfl, h5⟩
        have O5 := Lib.hid (O4.out.step h5)
        clear h5
        rw [HJ.out]
        go_wp2_with fail
        refine (within_at (b := false) (k := 0) W1 m0 _ O5.out.max).mono ?_
        rintro e w6 ⟨rfl, h6⟩
        have O6 := Lib.hid (O5.out.step h6)
        clear h6
        go_wp2_with fail
        refine (within_at (b := v) (k := 0) W2 m0 _ O6.out.max).mono ?_
        rintro e w7 ⟨rfl, h7⟩
        have O7 := Lib.hid (O6.out.step h7)
        clear h7
        go_wp2
        go_ret
        exact ⟨rfl, O7.out.bel⟩
end Go.Proofs.YtelmmfaifebdkaaDoor.lawPathOnce
