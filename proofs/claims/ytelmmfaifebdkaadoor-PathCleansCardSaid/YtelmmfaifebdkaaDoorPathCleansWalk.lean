/- PathCleans: the walk. -/
import Derived.Test.YtelmmfaifebdkaaDoorPathA
set_option linter.unusedSimpArgs false
set_option linter.unusedVariables false
namespace Go.Proofs.YtelmmfaifebdkaaDoor.lawPathCleans
open Go.RowKit

set_option maxRecDepth 100000 in
set_option maxHeartbeats 1000000 in
theorem walk (s : ByteArray) (m0 : Int) (w : World) (hs : s.size ≤ 140737488351232) (hm0 : w.cell? ⟨0, 0, none⟩ = some (.int .i64 m0)) :
    Calls Tryd.prog 5 #[.string s] w fun e w' => e = .returned (.bool true) ∧ Below w.heap.size w w' := by
  have O0 := Lib.hid (On.start hm0)
  clear hm0
  cases h : splitS s.data.toList with
  | error k =>
    have hk' : ¬ k = 0 := by have := splitS_err h; omega
    go_enter Tryd.func5, Tryd.ntmps5
    go_wp2_with fail
    refine (clean_er (clean_no h) m0 _ O0.out.max).mono ?_
    rintro e w1 ⟨rfl, h1⟩
    have O1 := Lib.hid (O0.out.step h1)
    clear h1
    go_wp2_with fail
    refine (last_er (last_no h) m0 _ O1.out.max).mono ?_
    rintro e w2 ⟨rfl, h2⟩
    have O2 := Lib.hid (O1.out.step h2)
    clear h2
    go_wp2_with fail
    refine (refSplit_er h _).mono ?_
    rintro e w3 ⟨rfl, h3⟩
    have O3 := Lib.hid (O2.out.step h3)
    clear h3
    go_wp2_with fail
    refine (awake_walk m0 _ O3.out.max).mono ?_
    rintro e w4 ⟨rfl, h4⟩
    have O4 := Lib.hid (O3.out.step h4)
    clear h4
    go_wp2
    go_ret
    exact ⟨rfl, O4.out.bel⟩
  | ok l =>
    obtain ⟨hg, hjl, h96, _⟩ := splitS_ok h
    rcases List.eq_nil_or_concat l with rfl | ⟨m, x, rfl⟩
    · go_enter Tryd.func5, Tryd.ntmps5
      go_wp2_with fail
      refine (clean_at (clean_ok h) m0 _ O0.out.max).mono ?_
      rintro e w1 ⟨rfl, h1⟩
      have O1 := Lib.hid (O0.out.step h1)
      clear h1
      rw [show joinS [] = [47] from rfl]
      go_wp2_with fail
      refine (last_er (last_nil h) m0 _ O1.out.max).mono ?_
      rintro e w2 ⟨rfl, h2⟩
      have O2 := Lib.hid (O1.out.step h2)
      clear h2
      go_wp2_with fail
      refine (refSplit_ok h _).mono ?_
      rintro e w3 ⟨A, c, rfl, _, h3⟩
      have O3 := Lib.hid (O2.out.step h3)
      clear h3
      go_wp2_with fail
      refine (awake_walk m0 _ O3.out.max).mono ?_
      rintro e w4 ⟨rfl, h4⟩
      have O4 := Lib.hid (O3.out.step h4)
      clear h4
      go_wp2
      go_ret
      exact ⟨rfl, O4.out.bel⟩
    · rw [List.concat_eq_append] at *
      have hll : (m ++ [x]).length = m.length + 1 := by simp
      have h8 := hg.1
      rw [hll] at h8
      have h24 := good_len hg
      have H24 := Lib.hid h24
      have H24' := Lib.hid (show ∀ p ∈ m, p.length ≤ 24 from fun p hp => h24 p (by simp [hp]))
      have HG := Lib.hid hg
      clear h24 hg
      go_enter Tryd.func5, Tryd.ntmps5
      go_wp2_with fail
      refine (clean_at (clean_ok h) m0 _ O0.out.max).mono ?_
      rintro e w1 ⟨rfl, h1⟩
      have O1 := Lib.hid (O0.out.step h1)
      clear h1
      obtain ⟨J, hJ⟩ : ∃ J, joinS (m ++ [x]) = J := ⟨_, rfl⟩
      rw [hJ]
      have HJ := Lib.hid hJ
      clear hJ
      go_wp2_with fail
      refine (last_at (last_ok h) m0 _ O1.out.max).mono ?_
      rintro e w2 ⟨rfl, h2⟩
      have O2 := Lib.hid (O1.out.step h2)
      clear h2
      obtain ⟨K, hK⟩ : ∃ K, joinS m = K := ⟨_, rfl⟩
      rw [hK]
      have HK := Lib.hid hK
      clear hK
      go_wp2_with fail
      refine (refSplit_ok h _).mono ?_
      rintro e w3 ⟨A, c, rfl, hsl, h3⟩
      have O3 := Lib.hid (O2.out.step h3)
      clear h3
      obtain ⟨g, o, rfl, hgl, hcell⟩ := strs_at hsl (k := m.length) (p := x) (by simp)
      have hcap : m.length + 1 ≤ c := by obtain ⟨_, _, e, _, _, h, _⟩ := hsl; injection e with _ _ e; subst e; omega
      have hdl := strs_dropLast hsl
      simp only [List.dropLast_concat] at hdl
      rw [hll] at hsl
      have S3 := Lib.hid hsl
      have D3 := Lib.hid hdl
      clear hsl hdl
      rw [hll]
      have b1 : (0 : Int) ≤ (m.length : Int) := by omega
      have b2 : (m.length : Int) ≤ (c : Int) := by omega
      have HH := Lib.hid h
      clear h
      go_wp2_with fail
      refine (awake_walk m0 _ O3.out.max).mono ?_
      rintro e w4 ⟨rfl, h4⟩
      have O4 := Lib.hid (O3.out.step h4)
      have S4 := Lib.hid (S3.out.below h4)
      have D4 := Lib.hid (D3.out.below h4)
      have c4 := (h4.cell (p := ⟨g, o + m.length, none⟩) hgl).trans hcell
      clear h4 S3 D3 hcell
      go_wp2_with fail
      refine (refJoin_walk (some ⟨g, o, none⟩) _ c (m ++ [x]) _ S4.out (by omega) H24.out).mono ?_
      rintro e w5 ⟨rfl, rfl⟩
      rw [HJ.out]
      go_wp2_with fail
      refine (refJoin_walk (some ⟨g, o, none⟩) _ c m _ D4.out (by omega) H24'.out).mono ?_
      rintro e w5 ⟨rfl, rfl⟩
      rw [HK.out]
      go_wp2
      go_ret
      exact ⟨rfl, O4.out.bel⟩
end Go.Proofs.YtelmmfaifebdkaaDoor.lawPathCleans
