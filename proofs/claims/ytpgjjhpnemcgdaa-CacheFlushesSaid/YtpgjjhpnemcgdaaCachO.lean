/- Package cache: nothing is written. -/
import Derived.Test.YtpgjjhpnemcgdaaCachN
set_option linter.unusedSimpArgs false
set_option linter.unusedVariables false
namespace Go.Proofs.Ytpgjjhpnemcgdaa
open Go.RowKit

attribute [local go_sem ↓] Go.wp_at_zero Go.wp_at_succ
set_option maxRecDepth 100000 in
set_option maxHeartbeats 4000000 in
theorem write0_walk {X : Nat → Prop} {k : Nat} {s : CaS} {w : World} (h : Ca X k s w) (hm : s.mode = 2) (at_ : Nat) (ha : at_ ≤ 9728) (a : Option Addr) (bc : Nat) :
    Calls Try.prog 8 #[.pointer (some ⟨k, 0, none⟩), .int .i64 (at_ : Int), .slice a 0 bc] w fun e w' => e = .returned (.int .i64 0) ∧ Below w.heap.size w w' := by
  obtain ⟨DA, dc, kv, YA, yc, L, h0⟩ := h
  have c0 : w.cell? ⟨k, 0, none⟩ = some (.int .i64 2) := by have := (blk_cells h0.blk 0).trans rfl; rw [hm] at this; exact this
  have i1 : ¬ (9728 : Int) < (at_ : Int) := by omega
  have i2 : IntKind.i64.wrap (9728 - (at_ : Int)) = 9728 - (at_ : Int) := IntWalk.i64_in _ (by omega)
  have i3 : ¬ 9728 - (at_ : Int) < 0 := by omega
  have i7 : ¬ (at_ : Int) < 0 := by omega
  have fr0 := blk_frees h0.blk 0
  clear h0
  go_enter Try.func8, Try.ntmps8
  go_wp2
  go_ret
  exact ⟨rfl, Below.refl _ _⟩
end Go.Proofs.Ytpgjjhpnemcgdaa
