/- LeaseNone: the walk. -/
import Derived.Test.YtndcoempdgkalaaLeaseN2
set_option linter.unusedSimpArgs false
set_option linter.unusedVariables false
namespace Go.Proofs.Ytndcoempdgkalaa.lawLeaseNone
open Go.RowKit

set_option maxHeartbeats 2000000 in
theorem walk (n g s m now : Int) (w : World) : Calls Try.prog 5 #[.agg #[.int .i64 n, .int .i64 g], .int .i64 s, .int .i64 m, .int .i64 now] w fun e w' => e = .returned (.bool true) ∧ Below w.heap.size w w' := by
  have b0 := blk_new w (.cells #[.int .i64 n, .int .i64 g] 23)
  have HB := Lib.hid ((Below.refl w.heap.size w).alloc (Nat.le_refl _) (.cells #[.int .i64 n, .int .i64 g] 23))
  have c0 := blk_cells b0
  have B0 := Lib.hid b0
  clear b0
  have z0 : w.heap.size ≤ (w.alloc (.cells #[.int .i64 n, .int .i64 g] 23)).heap.size := by simp
  go_enter Try.func5, Try.ntmps5
  go_wp2_with fail
  refine (leave_nil s _).mono ?_
  rintro e w1 ⟨rfl, h1⟩
  have B1 := Lib.hid ((Keep.of_below (S := fun _ => False) h1).blk B0.out id)
  have c1 := blk_cells B1.out
  have HB1 := Lib.hid (HB.out.trans (h1.mono z0))
  have z1 := Nat.le_trans z0 h1.size
  clear h1 c0
  go_wp2_with fail
  refine (grant_nil n g s m now _).mono ?_
  rintro e w2 ⟨rfl, h2⟩
  have B2 := Lib.hid ((Keep.of_below (S := fun _ => False) h2).blk B1.out id)
  have c2 := blk_cells B2.out
  have HB2 := Lib.hid (HB1.out.trans (h2.mono z1))
  have z2 := Nat.le_trans z1 h2.size
  clear h2 c1
  go_wp2_with fail
  refine (awake_walk _).mono ?_
  rintro e w3 ⟨rfl, h3⟩
  have B3 := Lib.hid ((Keep.of_below (S := fun _ => False) h3).blk B2.out id)
  have c3 := blk_cells B3.out
  have HB3 := Lib.hid (HB2.out.trans (h3.mono z2))
  have z3 := Nat.le_trans z2 h3.size
  clear h3 c2
  go_wp2_with fail
  refine (reclaim_nil n g s m now _).mono ?_
  rintro e w4 ⟨rfl, h4⟩
  have B4 := Lib.hid ((Keep.of_below (S := fun _ => False) h4).blk B3.out id)
  have c4 := blk_cells B4.out
  have HB4 := Lib.hid (HB3.out.trans (h4.mono z3))
  have z4 := Nat.le_trans z3 h4.size
  clear h4 c3
  go_wp2_with fail
  refine (release_nil n g s _).mono ?_
  rintro e w5 ⟨rfl, h5⟩
  have B5 := Lib.hid ((Keep.of_below (S := fun _ => False) h5).blk B4.out id)
  have c5 := blk_cells B5.out
  have HB5 := Lib.hid (HB4.out.trans (h5.mono z4))
  have z5 := Nat.le_trans z4 h5.size
  clear h5 c4
  go_wp2_with fail
  refine (has_nil n g s m _).mono ?_
  rintro e w6 ⟨rfl, h6⟩
  have B6 := Lib.hid ((Keep.of_below (S := fun _ => False) h6).blk B5.out id)
  have c6 := blk_cells B6.out
  have HB6 := Lib.hid (HB5.out.trans (h6.mono z5))
  have z6 := Nat.le_trans z5 h6.size
  clear h6 c5
  go_wp2_with fail
  refine (clear_nil n g s m now _).mono ?_
  rintro e w7 ⟨rfl, h7⟩
  have HB7 := Lib.hid (HB6.out.trans (h7.mono z6))
  clear h7 c6
  go_wp2_with fail
  refine (grace_nil now _).mono ?_
  rintro e w8 ⟨rfl, rfl⟩
  go_wp2_with fail
  refine (list_nil _).mono ?_
  rintro e w9 ⟨rfl, rfl⟩
  go_wp2
  go_ret
  exact ⟨rfl, HB7.out⟩
end Go.Proofs.Ytndcoempdgkalaa.lawLeaseNone
