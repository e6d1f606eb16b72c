/- clock, past, against, right, New, Grace. -/
import Derived.Test.YtmfgkddndlleoaaRows
import Derived.Test.YtmfgkddndlleoaaLease0
import Derived.WalkKit
set_option linter.unusedSimpArgs false
set_option linter.unusedVariables false
namespace Go.Proofs.Ytmfgkddndlleoaa
open Go.RowKit

theorem clock_range (now : Int) : 0 ≤ clockP now ∧ clockP now ≤ 1099511627776 := by unfold clockP; omega
theorem clock_walk (now : Int) (w : World) :
    Calls Try.prog 9 #[.int .i64 now] w fun e w' => e = .returned (.int .i64 (clockP now)) ∧ w' = w := by
  go_enter Try.func9, Try.ntmps9
  go_wp2
  all_goals
    go_ret
    exact ⟨congrArg (fun n => Ending.returned (.int .i64 n)) (by unfold clockP; omega), rfl⟩
theorem past_walk (since now term : Int) (w : World) (h0 : 0 ≤ since) (h1 : since ≤ 1099511627776) :
    Calls Try.prog 32 #[.int .i64 since, .int .i64 now, .int .i64 term] w fun e w' => e = .returned (.bool (pastP since now term)) ∧ w' = w := by
  have hc := clock_range now
  obtain ⟨c, hcc⟩ : ∃ c, clockP now = c := ⟨_, rfl⟩
  have hw := clock_walk now
  unfold pastP
  rw [hcc] at hc hw ⊢
  obtain ⟨b1, b2⟩ := hc
  clear hcc
  have HW := Lib.hid hw
  clear hw
  go_enter Try.func32, Try.ntmps32
  go_wp2_with fail
  refine (HW.out _).mono ?_
  rintro e w1 ⟨rfl, rfl⟩
  go_wp2
  go_ret
  exact ⟨rfl, rfl⟩
theorem against_walk (a b : Int) (w : World) :
    Calls Try.prog 47 #[.int .i64 a, .int .i64 b] w fun e w' => e = .returned (.bool (againstP a b)) ∧ w' = w := by
  go_enter Try.func47, Try.ntmps47
  go_wp2
  all_goals
    go_ret
    exact ⟨congrArg (fun n => Ending.returned (.bool n)) (by rw [Bool.eq_iff_iff]; simp [againstP]; try omega), rfl⟩
theorem right_walk (a b : Int) (w : World) :
    Calls Try.prog 29 #[.int .i64 a, .int .i64 b] w fun e w' => e = .returned (.bool (rightP a b)) ∧ w' = w := by
  go_enter Try.func29, Try.ntmps29
  go_wp2
  all_goals
    go_ret
    exact ⟨congrArg (fun n => Ending.returned (.bool n)) (by rw [Bool.eq_iff_iff]; simp [rightP]; try omega), rfl⟩
theorem new_walk (now : Int) (w : World) :
    Calls Try.prog 4 #[.int .i64 now] w fun e w' => e = .returned (.pointer (some ⟨w.heap.size, 0, none⟩)) ∧ w' = w.alloc (.cells #[.int .i64 (clockP now), .slice none 0 0, .slice none 0 0] 44) := by
  go_enter Try.func4, Try.ntmps4
  go_wp2_with fail
  refine (clock_walk now _).mono ?_
  rintro e w1 ⟨rfl, rfl⟩
  go_wp2
  go_ret
  exact ⟨rfl, rfl⟩
theorem grace_nil (now : Int) (w : World) :
    Calls Try.prog 12 #[.pointer none, .int .i64 now] w fun e w' => e = .returned (.bool false) ∧ w' = w := by
  go_enter Try.func12, Try.ntmps12
  go_wp2
  go_ret
  exact ⟨rfl, rfl⟩
theorem grace_walk (b : Nat) (born now : Int) (w : World) (h0 : 0 ≤ born) (h1 : born ≤ 1099511627776) (hc : w.cell? ⟨b, 0, none⟩ = some (.int .i64 born)) :
    Calls Try.prog 12 #[.pointer (some ⟨b, 0, none⟩), .int .i64 now] w fun e w' => e = .returned (.bool (!pastP born now 25)) ∧ w' = w := by
  have HP := Lib.hid (past_walk born now 25 w h0 h1)
  go_enter Try.func12, Try.ntmps12
  go_wp2_with fail
  refine HP.out.mono ?_
  rintro e w1 ⟨rfl, rfl⟩
  go_wp2
  go_ret
  exact ⟨rfl, rfl⟩
end Go.Proofs.Ytmfgkddndlleoaa
