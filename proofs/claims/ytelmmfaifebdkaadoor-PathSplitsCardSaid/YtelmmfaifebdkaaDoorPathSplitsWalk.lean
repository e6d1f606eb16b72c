/- PathSplits: the walk. -/
import Derived.Test.YtelmmfaifebdkaaDoorPath9
set_option linter.unusedSimpArgs false
set_option linter.unusedVariables false
namespace Go.Proofs.YtelmmfaifebdkaaDoor.lawPathSplits
open Go.RowKit

set_option maxHeartbeats 1000000 in
theorem walk (s : ByteArray) (m0 : Int) (w : World) (hs : s.size ≤ 140737488351232) (hm0 : w.cell? ⟨0, 0, none⟩ = some (.int .i64 m0)) :
    Calls Tryd.prog 3 #[.string s] w fun e w' => e = .returned (.bool true) ∧ Below w.heap.size w w' := by
  have HM := Lib.hid hm0
  have h8 := outS_few (s := s.data.toList)
  obtain ⟨l, hl⟩ : ∃ l, (outS (splitS s.data.toList)).1 = l := ⟨_, rfl⟩
  obtain ⟨k, hk⟩ : ∃ k, (outS (splitS s.data.toList)).2 = k := ⟨_, rfl⟩
  have c1 := split_any s m0 (l := l) (k := k) hl hk
  have c2 := refSplit_any s (l := l) (k := k) hl hk
  rw [hl] at h8
  clear hm0 hl hk
  have C1 := Lib.hid c1
  have C2 := Lib.hid c2
  clear c1 c2
  go_enter Tryd.func3, Tryd.ntmps3
  go_wp2_with fail
  refine (C1.out _ HM.out).mono ?_
  rintro e w1 ⟨A, c, rfl, hsl, h1⟩
  have M1 := Lib.hid (maxc HM.out h1)
  have H1 := Lib.hid h1
  have S1 := Lib.hid hsl
  clear h1 hsl
  go_wp2_with fail
  refine (C2.out _).mono ?_
  rintro e w2 ⟨B, d, rfl, hsl, h2⟩
  have M2 := Lib.hid (maxc M1.out h2)
  have H2 := Lib.hid (H1.out.trans (h2.mono H1.out.size))
  have S1' := Lib.hid (S1.out.below h2)
  have S2 := Lib.hid hsl
  clear h2 hsl S1
  go_wp2_with fail
  refine (awake_walk m0 _ M2.out).mono ?_
  rintro e w3 ⟨rfl, h3⟩
  have H3 := Lib.hid (H2.out.trans (h3.mono H2.out.size))
  have S1 := Lib.hid (S1'.out.below h3)
  have S2' := Lib.hid (S2.out.below h3)
  clear h3 S1' S2
  go_wp2_with fail
  refine (same_walk A B _ _ c d l l _ S1.out S2'.out h8).mono ?_
  rintro e w4 ⟨rfl, h4⟩
  rw [show decide (l = l) = true by simp]
  have H4 := Lib.hid (H3.out.trans (h4.mono H3.out.size))
  clear h4
  go_wp2_with fail
  refine (name_walk s _ (by omega)).mono ?_
  rintro e w5 ⟨rfl, h5⟩
  have H5 := Lib.hid (H4.out.trans (h5.mono H4.out.size))
  clear h5
  go_wp2_with fail
  refine (refName_walk s _).mono ?_
  rintro e w6 ⟨rfl, rfl⟩
  go_wp2
  go_ret
  exact ⟨rfl, H5.out⟩
end Go.Proofs.YtelmmfaifebdkaaDoor.lawPathSplits
