/- PathNames: the walk. -/
import Derived.Test.YtelmmfaifebdkaaDoorPathA
set_option linter.unusedSimpArgs false
set_option linter.unusedVariables false
namespace Go.Proofs.YtelmmfaifebdkaaDoor.lawPathNames
open Go.RowKit

set_option maxRecDepth 100000 in
set_option maxHeartbeats 1000000 in
theorem walk (A : Option Addr) (c : Nat) (l : List Str) (m0 : Int) (w : World) (ha : Sl w 1 (.slice A l.length c) l.length (strs l)) (hn : l.length ≤ 140737488351232) (hb : ∀ p ∈ l, p.length ≤ 140737488351232) (hm0 : w.cell? ⟨0, 0, none⟩ = some (.int .i64 m0)) :
    Calls Tryd.prog 9 #[.slice A l.length c] w fun e w' => e = .returned (.bool true) ∧ Below w.heap.size w w' := by
  have O0 := Lib.hid (On.start hm0)
  have S0 := Lib.hid ha
  clear hm0 ha
  cases hj : joinP l with
  | error k =>
    have hk' : ¬ k = 0 := by have := joinP_err hj; omega
    have HB := Lib.hid (show ∀ p ∈ l, p.length ≤ 9223372036854775807 from fun p hp => by have := hb p hp; omega)
    clear hb
    go_enter Tryd.func9, Tryd.ntmps9
    go_wp2_with fail
    refine (join_er hj _ S0.out hn HB.out).mono ?_
    rintro e w1 ⟨rfl, h1⟩
    have O1 := Lib.hid (O0.out.step h1)
    clear h1
    go_wp2_with fail
    refine (awake_walk m0 _ O1.out.max).mono ?_
    rintro e w2 ⟨rfl, h2⟩
    have O2 := Lib.hid (O1.out.step h2)
    clear h2
    go_wp2_with fail
    refine (awake_walk m0 _ O2.out.max).mono ?_
    rintro e w3 ⟨rfl, h3⟩
    have O3 := Lib.hid (O2.out.step h3)
    clear h3
    go_wp2
    go_ret
    exact ⟨rfl, O3.out.bel⟩
  | ok J =>
    obtain ⟨hg, hjl, rfl⟩ := joinP_ok hj
    have h8 := hg.1
    obtain ⟨J, hJ⟩ : ∃ J, joinS l = J := ⟨_, rfl⟩
    have h : splitS (⟨J.toArray⟩ : ByteArray).data.toList = .ok l := by rw [← hJ]; exact split_joinS hg hjl
    have hc : cleanP (⟨J.toArray⟩ : ByteArray).data.toList = .ok J := by
      have := clean_ok h
      rw [hJ] at this; exact this
    have HC := Lib.hid hc
    have HS := Lib.hid h
    have HJ := Lib.hid hJ
    have HG := Lib.hid hg
    clear hc h hJ hg hb hj
    go_enter Tryd.func9, Tryd.ntmps9
    go_wp2_with fail
    refine (join_ok A _ c l _ S0.out HG.out hjl).mono ?_
    rintro e w1 ⟨rfl, h1⟩
    have O1 := Lib.hid (O0.out.step h1)
    have S1 := Lib.hid (S0.out.below h1)
    clear S0
    clear h1
    rw [HJ.out]
    go_wp2_with fail
    refine (awake_walk m0 _ O1.out.max).mono ?_
    rintro e w2 ⟨rfl, h2⟩
    have O2 := Lib.hid (O1.out.step h2)
    have S2 := Lib.hid (S1.out.below h2)
    clear S1
    clear h2
    go_wp2_with fail
    refine (split_ok HS.out m0 _ O2.out.max).mono ?_
    rintro e w3 ⟨B, d, rfl, hsl, h3⟩
    have O3 := Lib.hid (O2.out.step h3)
    have S3 := Lib.hid (S2.out.below h3)
    have T3 := Lib.hid hsl
    clear S2 hsl
    clear h3
    go_wp2_with fail
    refine (clean_at HC.out m0 _ O3.out.max).mono ?_
    rintro e w4 ⟨rfl, h4⟩
    have O4 := Lib.hid (O3.out.step h4)
    have S4 := Lib.hid (S3.out.below h4)
    have T4 := Lib.hid (T3.out.below h4)
    clear S3 T3
    clear h4
    go_wp2_with fail
    refine (same_walk A B _ _ c d l l _ S4.out T4.out h8).mono ?_
    rintro e w5 ⟨rfl, h5⟩
    have O5 := Lib.hid (O4.out.step h5)
    clear h5
    rw [show decide (l = l) = true by simp]
    go_wp2
    go_ret
    exact ⟨rfl, O5.out.bel⟩
end Go.Proofs.YtelmmfaifebdkaaDoor.lawPathNames
