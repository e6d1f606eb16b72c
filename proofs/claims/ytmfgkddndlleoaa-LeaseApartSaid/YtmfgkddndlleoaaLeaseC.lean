/- The function values that are handed to DeleteFunc and IndexFunc, but for blocks'. -/
import Derived.Test.YtmfgkddndlleoaaLeaseD2
set_option linter.unusedSimpArgs false
set_option linter.unusedVariables false
namespace Go.Proofs.Ytmfgkddndlleoaa
open Go.RowKit

theorem place1_walk (x : LE) (B1 B2 : Nat) (n g s : Int) (w : World) (h0 : w.cell? ⟨B1, 0, none⟩ = some (.int .i64 n)) (h1 : w.cell? ⟨B1, 1, none⟩ = some (.int .i64 g)) (h2 : w.cell? ⟨B2, 0, none⟩ = some (.int .i64 s)) :
    Calls Try.prog 52 #[x.val, .pointer (some ⟨B1, 0, none⟩), .pointer (some ⟨B2, 0, none⟩)] w fun e w' => e = .returned (.bool (mineP n g s x)) ∧ Below w.heap.size w w' := by
  have l1 := World.block_lt_of_cell? w _ h0
  have l2 := World.block_lt_of_cell? w _ h2
  unfold mineP LE.val
  go_enter Try.func52, Try.ntmps52
  go_wp2
  all_goals
    go_ret
    exact ⟨congrArg (fun b => Ending.returned (.bool b)) (by first | rfl | simp), (Below.refl _ _).alloc (Nat.le_refl _) _⟩
theorem set1_walk (x : LE) (B1 B2 : Nat) (n g s : Int) (w : World) (h0 : w.cell? ⟨B1, 0, none⟩ = some (.int .i64 n)) (h1 : w.cell? ⟨B1, 1, none⟩ = some (.int .i64 g)) (h2 : w.cell? ⟨B2, 0, none⟩ = some (.int .i64 s)) :
    Calls Try.prog 50 #[x.val, .pointer (some ⟨B1, 0, none⟩), .pointer (some ⟨B2, 0, none⟩)] w fun e w' => e = .returned (.bool (mineP n g s x)) ∧ Below w.heap.size w w' := by
  have l1 := World.block_lt_of_cell? w _ h0
  have l2 := World.block_lt_of_cell? w _ h2
  unfold mineP LE.val
  go_enter Try.func50, Try.ntmps50
  go_wp2
  all_goals
    go_ret
    exact ⟨congrArg (fun b => Ending.returned (.bool b)) (by first | rfl | simp), (Below.refl _ _).alloc (Nat.le_refl _) _⟩
theorem wait1_walk (x : LE) (B1 B2 : Nat) (n g s : Int) (w : World) (h0 : w.cell? ⟨B1, 0, none⟩ = some (.int .i64 n)) (h1 : w.cell? ⟨B1, 1, none⟩ = some (.int .i64 g)) (h2 : w.cell? ⟨B2, 0, none⟩ = some (.int .i64 s)) :
    Calls Try.prog 49 #[x.val, .pointer (some ⟨B1, 0, none⟩), .pointer (some ⟨B2, 0, none⟩)] w fun e w' => e = .returned (.bool (mineP n g s x)) ∧ Below w.heap.size w w' := by
  have l1 := World.block_lt_of_cell? w _ h0
  have l2 := World.block_lt_of_cell? w _ h2
  unfold mineP LE.val
  go_enter Try.func49, Try.ntmps49
  go_wp2
  all_goals
    go_ret
    exact ⟨congrArg (fun b => Ending.returned (.bool b)) (by first | rfl | simp), (Below.refl _ _).alloc (Nat.le_refl _) _⟩
theorem grant1_walk (x : LE) (B : Nat) (now : Int) (w : World) (h0 : 0 ≤ x.x) (h1 : x.x ≤ 1099511627776) (hc : w.cell? ⟨B, 0, none⟩ = some (.int .i64 now)) :
    Calls Try.prog 31 #[x.val, .pointer (some ⟨B, 0, none⟩)] w fun e w' => e = .returned (.bool (pastP x.x now 12)) ∧ Below w.heap.size w w' := by
  have l1 := World.block_lt_of_cell? w _ hc
  have HP := Lib.hid (past_walk x.x now 12 (h0 := h0) (h1 := h1))
  unfold LE.val
  go_enter Try.func31, Try.ntmps31
  go_wp2_with fail
  refine (HP.out _).mono ?_
  rintro e w1 ⟨rfl, rfl⟩
  go_wp2
  go_ret
  exact ⟨rfl, (Below.refl _ _).alloc (Nat.le_refl _) _⟩
end Go.Proofs.Ytmfgkddndlleoaa
