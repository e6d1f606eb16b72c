/- PathWithin: the walk. -/
import Derived.Test.YtelmmfaifebdkaaDoorPathA
set_option linter.unusedSimpArgs false
set_option linter.unusedVariables false
namespace Go.Proofs.YtelmmfaifebdkaaDoor.lawPathWithin
open Go.RowKit

set_option maxRecDepth 100000 in
set_option maxHeartbeats 1000000 in
theorem walk (s t : ByteArray) (m0 : Int) (w : World) (hs : s.size ≤ 140737488351232) (ht : t.size ≤ 140737488351232) (hm0 : w.cell? ⟨0, 0, none⟩ = some (.int .i64 m0)) :
    Calls Tryd.prog 6 #[.string s, .string t] w fun e w' => e = .returned (.bool true) ∧ Below w.heap.size w w' := by
  have O0 := Lib.hid (On.start hm0)
  clear hm0
  cases h : splitS s.data.toList with
  | error k =>
    have hk' : ¬ k = 0 := by have := splitS_err h; omega
    have hw : withinP s.data.toList t.data.toList = (false, k) := by unfold withinP; rw [h]
    obtain ⟨l, hl⟩ : ∃ l, (outS (splitS t.data.toList)).1 = l := ⟨_, rfl⟩
    obtain ⟨k2, hk2⟩ : ∃ k, (outS (splitS t.data.toList)).2 = k := ⟨_, rfl⟩
    have C2 := Lib.hid (fun w => refSplit_any t (l := l) (k := k2) hl hk2 w)
    clear hl hk2
    go_enter Tryd.func6, Tryd.ntmps6
    go_wp2_with fail
    refine (within_at hw m0 _ O0.out.max).mono ?_
    rintro e w1 ⟨rfl, h1⟩
    have O1 := Lib.hid (O0.out.step h1)
    clear h1
    go_wp2_with fail
    refine (refSplit_er h _).mono ?_
    rintro e w2 ⟨rfl, h2⟩
    have O2 := Lib.hid (O1.out.step h2)
    clear h2
    go_wp2_with fail
    refine (C2.out _).mono ?_
    rintro e w3 ⟨A, c, rfl, _, h3⟩
    have O3 := Lib.hid (O2.out.step h3)
    clear h3
    go_wp2_with fail
    refine (awake_walk m0 _ O3.out.max).mono ?_
    rintro e w4 ⟨rfl, h4⟩
    have O4 := Lib.hid (O3.out.step h4)
    clear h4
    go_wp2
    go_ret
    exact ⟨rfl, O4.out.bel⟩
  | ok a =>
    obtain ⟨hga, _, _, _⟩ := splitS_ok h
    have ha8 := hga.1
    clear hga
    cases h2 : splitS t.data.toList with
    | error k =>
      have hk' : ¬ k = 0 := by have := splitS_err h2; omega
      have hw : withinP s.data.toList t.data.toList = (false, k) := by unfold withinP; rw [h]; simp only; rw [h2]
      go_enter Tryd.func6, Tryd.ntmps6
      go_wp2_with fail
      refine (within_at hw m0 _ O0.out.max).mono ?_
      rintro e w1 ⟨rfl, h1⟩
      have O1 := Lib.hid (O0.out.step h1)
      clear h1
      go_wp2_with fail
      refine (refSplit_ok h _).mono ?_
      rintro e w2 ⟨A, c, rfl, _, h2⟩
      have O2 := Lib.hid (O1.out.step h2)
      clear h2
      go_wp2_with fail
      refine (refSplit_er h2 _).mono ?_
      rintro e w3 ⟨rfl, h3⟩
      have O3 := Lib.hid (O2.out.step h3)
      clear h3
      go_wp2_with fail
      refine (awake_walk m0 _ O3.out.max).mono ?_
      rintro e w4 ⟨rfl, h4⟩
      have O4 := Lib.hid (O3.out.step h4)
      clear h4
      go_wp2
      go_ret
      exact ⟨rfl, O4.out.bel⟩
    | ok b =>
      obtain ⟨hgb, _, _, _⟩ := splitS_ok h2
      have hb8 := hgb.1
      clear hgb
      have hw := within_ok h h2
      obtain ⟨v, hv⟩ : ∃ v, decide (b.length < a.length ∧ a.take b.length = b) = v := ⟨_, rfl⟩
      rw [hv] at hw
      by_cases hl : b.length < a.length
      · have hv2 : decide (a.take b.length = b) = v := by rw [← hv]; simp [hl]
        have HV := Lib.hid hv2
        clear hv hv2
        have b1 : (b.length : Int) < (a.length : Int) := by omega
        have hlb : (a.take b.length).length = b.length := by simp; omega
        go_enter Tryd.func6, Tryd.ntmps6
        go_wp2_with fail
        refine (within_at hw m0 _ O0.out.max).mono ?_
        rintro e w1 ⟨rfl, h1⟩
        have O1 := Lib.hid (O0.out.step h1)
        clear h1
        go_wp2_with fail
        refine (refSplit_ok h _).mono ?_
        rintro e w2 ⟨A, c, rfl, hsa, h2⟩
        have O2 := Lib.hid (O1.out.step h2)
        have SA := Lib.hid hsa
        clear hsa
        clear h2
        go_wp2_with fail
        refine (refSplit_ok h2 _).mono ?_
        rintro e w3 ⟨B, d, rfl, hsb, h3⟩
        have O3 := Lib.hid (O2.out.step h3)
        have SA3 := Lib.hid (SA.out.below h3)
        have SB := Lib.hid hsb
        clear hsb SA
        clear h3
        have hac : a.length ≤ c := by obtain ⟨_, _, e, _, _, h, _⟩ := SA3.out; injection e with _ _ e; subst e; omega
        have b2 : (b.length : Int) ≤ (c : Int) := by omega
        obtain ⟨x, hx⟩ : ∃ x, a[0]? = some x := ⟨a[0]'(by omega), List.getElem?_eq_getElem _⟩
        obtain ⟨g, o, rfl, _, _⟩ := strs_at SA3.out hx
        clear hx
        go_wp2_with fail
        refine (awake_walk m0 _ O3.out.max).mono ?_
        rintro e w4 ⟨rfl, h4⟩
        have O4 := Lib.hid (O3.out.step h4)
        have SA4 := Lib.hid (strs_take (SA3.out.below h4) (k := b.length) (by omega))
        have SB4 := Lib.hid (SB.out.below h4)
        clear SA3 SB
        clear h4
        go_wp2_with fail
        refine (same_walk (some ⟨g, o, none⟩) B _ _ c d (a.take b.length) b _ SA4.out SB4.out (by omega)).mono ?_
        rintro e w5 ⟨rfl, h5⟩
        have O5 := Lib.hid (O4.out.step h5)
        clear h5
        rw [HV.out]
        go_wp2
        go_ret
        exact ⟨rfl, O5.out.bel⟩
      · have hv2 : v = false := by rw [← hv]; exact decide_eq_false (fun h => hl h.1)
        subst hv2
        clear hv
        have b1 : ¬ (b.length : Int) < (a.length : Int) := by omega
        go_enter Tryd.func6, Tryd.ntmps6
        go_wp2_with fail
        refine (within_at hw m0 _ O0.out.max).mono ?_
        rintro e w1 ⟨rfl, h1⟩
        have O1 := Lib.hid (O0.out.step h1)
        clear h1
        go_wp2_with fail
        refine (refSplit_ok h _).mono ?_
        rintro e w2 ⟨A, c, rfl, _, h2⟩
        have O2 := Lib.hid (O1.out.step h2)
        clear h2
        go_wp2_with fail
        refine (refSplit_ok h2 _).mono ?_
        rintro e w3 ⟨B, d, rfl, _, h3⟩
        have O3 := Lib.hid (O2.out.step h3)
        clear h3
        go_wp2_with fail
        refine (awake_walk m0 _ O3.out.max).mono ?_
        rintro e w4 ⟨rfl, h4⟩
        have O4 := Lib.hid (O3.out.step h4)
        clear h4
        go_wp2
        go_ret
        exact ⟨rfl, O4.out.bel⟩
end Go.Proofs.YtelmmfaifebdkaaDoor.lawPathWithin
