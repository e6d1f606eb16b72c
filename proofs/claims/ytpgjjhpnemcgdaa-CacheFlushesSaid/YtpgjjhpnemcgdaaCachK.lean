/- Package cache: is there a lease that still lasts. -/
import Derived.Test.YtpgjjhpnemcgdaaCachJ
set_option linter.unusedSimpArgs false
set_option linter.unusedVariables false
namespace Go.Proofs.Ytpgjjhpnemcgdaa
open Go.RowKit

attribute [local go_sem ↓] Go.wp_at_zero Go.wp_at_succ
set_option maxHeartbeats 2000000 in
theorem valid_walk {X : Nat → Prop} {k : Nat} {s : CaS} {w : World} (h : Ca X k s w) (hm : s.mode = 2) (now c : Int) (hc : c = max 0 (min now 1099511627776)) (hsi : 0 ≤ s.since ∧ s.since ≤ 1099511627776) :
    Calls Try.prog 16 #[.pointer (some ⟨k, 0, none⟩), .int .i64 1, .int .i64 now] w fun e w' => e = .returned (.bool (decide (c - s.since < 16))) ∧ Below w.heap.size w w' := by
  obtain ⟨DA, dc, kv, YA, yc, L, h⟩ := h
  have HC := Lib.hid (fun w => clock_walk now w)
  rw [← hc] at HC
  have HS := Lib.hid (fun (w' : World) (hk : Below w.heap.size w w') => (show w'.cell? ⟨k, 0, none⟩ = some (.int .i64 2) ∧ w'.cell? ⟨k, 1, none⟩ = some (.int .i64 s.since) from by
    have q := blk_cells (h.below hk).blk
    exact ⟨by have := (q 0).trans rfl; rw [hm] at this; exact this, (q 1).trans rfl⟩))
  have w1 : IntKind.i64.wrap (c - s.since) = c - s.since := IntWalk.i64_in _ (by omega)
  obtain ⟨si, hsi2⟩ : ∃ si, si = s.since := ⟨_, rfl⟩
  rw [← hsi2] at HS w1 ⊢
  clear h hc hsi hsi2 hm
  go_enter Try.func16, Try.ntmps16
  go_upto_region 1 with fail
  go_region_held3 (fun w' => w'.cell? ⟨k, 0, none⟩ = some (.int .i64 2) ∧ w'.cell? ⟨k, 1, none⟩ = some (.int .i64 si)) (first | exact HS.out _ ((Below.refl _ w).drew))
    (first
      | (go_at_call 18; refine (HC.out _).mono ?_; rintro e W ⟨rfl, hWW⟩; have hWW' := hWW.symm; subst hWW'; clear hWW))
  all_goals
    go_wp2
    go_ret
    exact ⟨rfl, (Below.refl _ w).drew⟩
end Go.Proofs.Ytpgjjhpnemcgdaa
