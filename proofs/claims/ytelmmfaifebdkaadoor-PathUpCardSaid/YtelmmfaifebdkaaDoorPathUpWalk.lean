/- PathUp: the walk. -/
import Derived.Test.YtelmmfaifebdkaaDoorPathA
set_option linter.unusedSimpArgs false
set_option linter.unusedVariables false
namespace Go.Proofs.YtelmmfaifebdkaaDoor.lawPathUp
open Go.RowKit

theorem str_up (a x : Str) : ((⟨a.toArray⟩ : ByteArray) ++ (⟨#[47]⟩ : ByteArray)) ++ (⟨x.toArray⟩ : ByteArray) = ⟨(a ++ 47 :: x).toArray⟩ := by
  apply ByteArray.ext
  simp [ByteArray.data_append]
set_option maxRecDepth 100000 in
set_option maxHeartbeats 1000000 in
theorem walk (s : ByteArray) (m0 : Int) (w : World) (hs : s.size ≤ 140737488351232) (hm0 : w.cell? ⟨0, 0, none⟩ = some (.int .i64 m0)) :
    Calls Tryd.prog 8 #[.string s] w fun e w' => e = .returned (.bool true) ∧ Below w.heap.size w w' := by
  have O0 := Lib.hid (On.start hm0)
  clear hm0
  cases hL : lastP s.data.toList with
  | error k =>
    have hk' : ¬ k = 0 := by have := lastP_err hL; omega
    go_enter Tryd.func8, Tryd.ntmps8
    go_wp2_with fail
    refine (last_er hL m0 _ O0.out.max).mono ?_
    rintro e w1 ⟨rfl, h1⟩
    have O1 := Lib.hid (O0.out.step h1)
    clear h1
    go_wp2_with fail
    refine (awake_walk m0 _ O1.out.max).mono ?_
    rintro e w2 ⟨rfl, h2⟩
    have O2 := Lib.hid (O1.out.step h2)
    clear h2
    go_wp2_with fail
    refine (awake_walk m0 _ O2.out.max).mono ?_
    rintro e w3 ⟨rfl, h3⟩
    have O3 := Lib.hid (O2.out.step h3)
    clear h3
    go_wp2
    go_ret
    exact ⟨rfl, O3.out.bel⟩
  | ok y =>
    obtain ⟨m, x, h⟩ : ∃ m x, splitS s.data.toList = .ok (m ++ [x]) := by
      unfold lastP at hL
      cases hs : splitS s.data.toList with
      | error e => rw [hs] at hL; cases hL
      | ok l =>
        rcases List.eq_nil_or_concat l with rfl | ⟨m, x, rfl⟩
        · rw [hs] at hL; cases hL
        · exact ⟨m, x, by rw [List.concat_eq_append]⟩
    clear hL
    obtain ⟨hg, hjl, h96, h1s⟩ := splitS_ok h
    have hl96 : (joinR (m ++ [x])).length ≤ 96 := by omega
    have hgm : Good m := ⟨by have := hg.1; simp at this; omega, fun p hp => hg.2 p (by simp [hp])⟩
    have hjm : (joinR m).length ≤ 96 := by rw [joinR_append, List.length_append] at hl96; omega
    have hx : isName x = true := hg.2 x (by simp)
    obtain ⟨J, hJ⟩ : ∃ J, joinS (m ++ [x]) = J := ⟨_, rfl⟩
    obtain ⟨K, hK⟩ : ∃ K, joinS m = K := ⟨_, rfl⟩
    have hU : cleanP (⟨(K ++ 47 :: x).toArray⟩ : ByteArray).data.toList = .ok J := by rw [← hK, ← hJ]; exact clean_ok (split_up hg hl96)
    have hW : withinP s.data.toList (⟨K.toArray⟩ : ByteArray).data.toList = (true, 0) := by
      rw [within_ok h (show splitS K = .ok m by rw [← hK]; exact split_joinS hgm hjm), decide_eq_true]
      exact ⟨by simp, by simp⟩
    have hKx : (K ++ 47 :: x).length ≤ 96 := by rw [← hK]; exact joinS_up hx hl96
    have hkl : K.length ≤ 95 := by simp at hKx; omega
    have hxl : x.length ≤ 95 := by simp at hKx; omega
    have hcl := clean_ok h
    have hla := last_ok h
    rw [hJ] at hcl
    rw [hK] at hla
    have HU := Lib.hid hU
    have HW := Lib.hid hW
    have HX := Lib.hid hx
    clear hU hW hg hgm hjm hjl hJ hK hl96 h96 h1s h hKx hx
    go_enter Tryd.func8, Tryd.ntmps8
    go_wp2_with fail
    refine (last_at hla m0 _ O0.out.max).mono ?_
    rintro e w1 ⟨rfl, h1⟩
    have O1 := Lib.hid (O0.out.step h1)
    clear h1
    go_wp2_with fail
    refine (awake_walk m0 _ O1.out.max).mono ?_
    rintro e w2 ⟨rfl, h2⟩
    have O2 := Lib.hid (O1.out.step h2)
    clear h2
    go_wp2_with fail
    refine (clean_at hcl m0 _ O2.out.max).mono ?_
    rintro e w3 ⟨rfl, h3⟩
    have O3 := Lib.hid (O2.out.step h3)
    clear h3
    go_wp2_with fail
    rw [str_up]
    refine (clean_at HU.out m0 _ O3.out.max).mono ?_
    rintro e w4 ⟨rfl, h4⟩
    have O4 := Lib.hid (O3.out.step h4)
    clear h4
    go_wp2_with fail
    refine (within_at HW.out m0 _ O4.out.max).mono ?_
    rintro e w5 ⟨rfl, h5⟩
    have O5 := Lib.hid (O4.out.step h5)
    clear h5
    go_wp2_with fail
    refine (name_walk ⟨x.toArray⟩ _ (by simp [ByteArray.size]; omega)).mono ?_
    rintro e w6 ⟨rfl, h6⟩
    have O6 := Lib.hid (O5.out.step h6)
    clear h6
    rw [show isName (⟨x.toArray⟩ : ByteArray).data.toList = true from HX.out]
    go_wp2
    go_ret
    exact ⟨rfl, O6.out.bel⟩
end Go.Proofs.YtelmmfaifebdkaaDoor.lawPathUp
