/- Package client: Tick, where a request is on the way. -/
import Derived.Test.YtlcfnehmmjhoiaaGreatCln6
set_option linter.unusedSimpArgs false
set_option linter.unusedVariables false
namespace Go.Proofs.YtlcfnehmmjhoiaaGreat
open Go.RowKit

attribute [local go_sem ↓] Go.wp_at_zero Go.wp_at_succ
theorem clkP_bd (n : Int) : 0 ≤ clkP n ∧ clkP n ≤ 1099511627776 := by unfold clkP; omega
/-- Not yet: nothing goes. -/
theorem tick_not (k f : Nat) (s l q e : Int) (gr : Bool) (L C R : Value) (p : Int) (n b : Int) (v0 v1 v2 v3 v4 v5 v6 v7 v8 v9 v10 v11 v12 v13 : Value) (w : World)
    (hk : w.heap[k]? = some (.cells (clC s l q e gr L C R p (.pointer (some ⟨f, 0, none⟩)) (.slice none 0 0)) 56 (0, 0)))
    (hf : w.heap[f]? = some (.cells #[v0, v1, v2, v3, v4, v5, v6, v7, v8, v9, v10, v11, v12, v13, .int .i64 b] 79 (0, 0)))
    (hb : 0 ≤ b ∧ b ≤ 1099511627776) (hlt : clkP n - b < 3) :
    Calls Tryz.prog 9 #[.pointer (some ⟨k, 0, none⟩), .int .i64 n] w fun r w' => r = .returned (.slice none 0 0) ∧ w'.heap[k]? = some (.cells (clC s l q e gr L C R p (.pointer (some ⟨f, 0, none⟩)) (.slice none 0 0)) 56 (0, 0)) ∧ Keep (fun j => j = k) w w' := by
  have hcb := clkP_bd n
  have c17 : w.cell? ⟨k, 17, none⟩ = some (.pointer (some ⟨f, 0, none⟩)) := (blk_cells hk 17).trans rfl
  have c14 : w.cell? ⟨f, 14, none⟩ = some (.int .i64 b) := (blk_cells hf 14).trans rfl
  have HK := Lib.hid hk
  have HC := Lib.hid (fun W => clock_walk n W)
  obtain ⟨c, hc⟩ : ∃ c, c = clkP n := ⟨_, rfl⟩
  rw [← hc] at HC hcb hlt
  have q1 : IntKind.i64.wrap (c - b) = c - b := IntWalk.i64_in _ (by omega)
  have q2 : decide (3 ≤ c - b) = false := decide_eq_false (by omega)
  clear hk hf hc
  go_enter Tryz.func9, Tryz.ntmps9
  go_upto_region 3 with fail
  go_quiet ((go_at_call 23; exact Calls.quiet_of_same (HC.out _)))
  obtain ⟨U, hU⟩ : ∃ U, U = w.drewN nq := ⟨_, rfl⟩
  rw [← hU]
  have hkU : Keep (fun j => j = k) w U := by rw [hU]; exact (Keep.refl _ w).drewN nq
  have hk2 : U.heap[k]? = some (.cells (clC s l q e gr L C R p (.pointer (some ⟨f, 0, none⟩)) (.slice none 0 0)) 56 (0, 0)) := by rw [hU]; exact HK.out
  have HKU := Lib.hid hkU
  have HK2 := Lib.hid hk2
  have HAD := Lib.hid (advance_busy k f s l q e gr L C R p (.slice none 0 0) n U hk2)
  have HFL := Lib.hid (flush_walk k s l q e gr L C R p (.pointer (some ⟨f, 0, none⟩)) none 0 0 U hk2 (Nat.le_refl _) (fun _ => ⟨rfl, rfl⟩) (by decide))
  clear hU hkU hk2 c17 c14 q1 q2
  go_wp2_with fail
  refine HAD.out.mono ?_
  rintro r w' ⟨rfl, hw'⟩
  subst hw'
  go_wp2_with fail
  refine HFL.out.mono ?_
  rintro r w3 ⟨rfl, hk3, hb3⟩
  have HK3 := Lib.hid hk3
  have HB3 := Lib.hid (HKU.out.trans hb3 (fun _ _ h => h))
  clear hk3 hb3
  go_wp2
  go_ret
  exact ⟨rfl, HK3.out, HB3.out⟩
/-- Behind a tick that says it again. -/
def TiP (k f : Nat) (s l q e : Int) (gr : Bool) (L C R : Value) (p n : Int) (v0 v1 v2 v3 v4 v5 v6 v7 v8 v9 v10 v11 v12 v13 : Value) (E : List UInt8) (w : World) (r : Ending) (w' : World) : Prop :=
  ∃ OA oc, r = .returned (.slice OA 1 1) ∧ w'.heap[k]? = some (.cells (clC s l q e gr L C R p (.pointer (some ⟨f, 0, none⟩)) (.slice none 0 0)) 56 (0, 0)) ∧
    w'.heap[f]? = some (.cells #[v0, v1, v2, v3, v4, v5, v6, v7, v8, v9, v10, v11, v12, v13, .int .i64 (clkP n)] 79 (0, 0)) ∧ LtR w.heap.size w' s E OA oc ∧ Keep (fun j => j = k ∨ j = f) w w'
set_option maxRecDepth 100000 in
set_option maxHeartbeats 4000000 in
theorem tick_again (k f : Nat) (s l q e : Int) (gr : Bool) (L C R : Value) (p : Int) (n b : Int) (hs : 0 ≤ s ∧ s ≤ 7) (v0 v1 v2 v3 v4 v5 v6 v7 v8 v9 v10 v11 v12 v13 : Value) (E : List UInt8) (w : World)
    (hk : w.heap[k]? = some (.cells (clC s l q e gr L C R p (.pointer (some ⟨f, 0, none⟩)) (.slice none 0 0)) 56 (0, 0)))
    (hf : w.heap[f]? = some (.cells #[v0, v1, v2, v3, v4, v5, v6, v7, v8, v9, v10, v11, v12, v13, .int .i64 b] 79 (0, 0)))
    (hE : ∀ W, Calls Tryz.prog 49 #[.agg #[v0, v1, v2, v3, v4, v5, v6, v7, v8, v9, v10, v11, v12]] W (TextP W.heap.size [] E W))
    (hb : 0 ≤ b ∧ b ≤ 1099511627776) (hge : 3 ≤ clkP n - b) :
    Calls Tryz.prog 9 #[.pointer (some ⟨k, 0, none⟩), .int .i64 n] w (TiP k f s l q e gr L C R p n v0 v1 v2 v3 v4 v5 v6 v7 v8 v9 v10 v11 v12 v13 E w) := by
  have hcb := clkP_bd n
  have hne : f ≠ k := fun h => by subst h; exact blk_ne hf hk (by decide) rfl
  have c17 : w.cell? ⟨k, 17, none⟩ = some (.pointer (some ⟨f, 0, none⟩)) := (blk_cells hk 17).trans rfl
  have c14 : w.cell? ⟨f, 14, none⟩ = some (.int .i64 b) := (blk_cells hf 14).trans rfl
  have HK := Lib.hid hk
  have HF := Lib.hid hf
  have HC := Lib.hid (fun W => clock_walk n W)
  have HS := Lib.hid hs
  have HE := Lib.hid hE
  have HNE := Lib.hid hne
  obtain ⟨c, hc⟩ : ∃ c, c = clkP n := ⟨_, rfl⟩
  rw [← hc] at HC hcb hge
  have HCN := Lib.hid hc
  have q1 : IntKind.i64.wrap (c - b) = c - b := IntWalk.i64_in _ (by omega)
  have q2 : decide (3 ≤ c - b) = true := decide_eq_true (by omega)
  clear hk hf hc hs hE hne
  go_enter Tryz.func9, Tryz.ntmps9
  go_upto_region 3 with fail
  go_quiet ((go_at_call 23; exact Calls.quiet_of_same (HC.out _)))
  obtain ⟨U, hU⟩ : ∃ U, U = w.drewN nq := ⟨_, rfl⟩
  rw [← hU]
  have hkU : Keep (fun j => j = k) w U := by rw [hU]; exact (Keep.refl _ w).drewN nq
  have hk2 : U.heap[k]? = some (.cells (clC s l q e gr L C R p (.pointer (some ⟨f, 0, none⟩)) (.slice none 0 0)) 56 (0, 0)) := by rw [hU]; exact HK.out
  have hf2 : U.heap[f]? = some (.cells #[v0, v1, v2, v3, v4, v5, v6, v7, v8, v9, v10, v11, v12, v13, .int .i64 b] 79 (0, 0)) := by rw [hU]; exact HF.out
  have HKU := Lib.hid hkU
  have HK2 := Lib.hid hk2
  have HF2 := Lib.hid hf2
  clear hU hkU c17 c14 q1 q2
  have u17 : U.cell? ⟨k, 17, none⟩ = some (.pointer (some ⟨f, 0, none⟩)) := (blk_cells hk2 17).trans rfl
  have u14 := (blk_cells hf2 14).trans rfl
  have uf := blk_frees hf2 14
  clear hk2 hf2
  go_upto_region 4 with fail
  have HS4 : Hid (∀ W, Keep (fun j => j = f) U W → W.cell? ⟨k, 17, none⟩ = some (.pointer (some ⟨f, 0, none⟩))) := Lib.hid (fun W hW => hW.cell u17 (fun h => HNE.out h.symm))
  have HKA := Lib.hid (Keep.refl (fun j => j = f) U)
  have HKB := Lib.hid (HKA.out.setCell (p := ⟨f, 14, none⟩) (fun _ => rfl) (.int .i64 c))
  go_region_held3 (fun W => W.cell? ⟨k, 17, none⟩ = some (.pointer (some ⟨f, 0, none⟩))) (first | with_reducible exact HS4.out _ HKA.out | with_reducible exact HS4.out _ HKA.out.drew | with_reducible exact HS4.out _ HKB.out | with_reducible exact HS4.out _ HKB.out.drew) (first | (go_at_call 23; with_reducible refine (HC.out _).mono ?_; rintro r w' ⟨rfl, rfl⟩))
  obtain ⟨w4, hw4⟩ : ∃ w4, w4 = (U.setCell ⟨f, 14, none⟩ (.int .i64 c)).drew := ⟨_, rfl⟩
  have hk4 : w4.heap[k]? = some (.cells (clC s l q e gr L C R p (.pointer (some ⟨f, 0, none⟩)) (.slice none 0 0)) 56 (0, 0)) := by rw [hw4]; exact HKB.out.drew.blk HK2.out (fun h => HNE.out h.symm)
  have hf4 : w4.heap[f]? = some (.cells #[v0, v1, v2, v3, v4, v5, v6, v7, v8, v9, v10, v11, v12, v13, .int .i64 c] 79 (0, 0)) := by rw [hw4, drew_blk]; exact blk_set HF2.out _
  have hb4 : Keep (fun j => j = k ∨ j = f) w w4 := by rw [hw4]; exact (HKU.out.mono (fun _ _ h => .inl h)).trans HKB.out.drew (fun _ _ h => .inr h)
  rw [← hw4]
  have HAGN := Lib.hid (again_walk k f s l q e gr L C R p HS.out _ _ _ _ _ _ _ _ _ _ _ _ _ _ _ E w4 hk4 hf4 HE.out)
  have HF4 := Lib.hid hf4
  have HB4 := Lib.hid hb4
  clear hw4 hk4 hf4 hb4 u17 u14 uf HKA HKB HS4
  go_wp2_with fail
  refine HAGN.out.mono ?_
  rintro r w5 ⟨OA, oc, rfl, hk5, hl5, hb5⟩
  have HF5 := Lib.hid (hb5.blk HF4.out (fun h => HNE.out h))
  have HB5 := Lib.hid (HB4.out.trans hb5 (fun _ _ h => .inl h))
  have HL5 := Lib.hid (hl5.mono HB4.out.size)
  have HAD := Lib.hid (advance_busy k f s l q e gr L C R p (.slice OA 1 oc) n w5 hk5)
  have HFL := Lib.hid (flush_walk k s l q e gr L C R p (.pointer (some ⟨f, 0, none⟩)) OA 1 oc w5 hk5 hl5.cap.1 hl5.cap.2 (by decide))
  have HKL : Hid (k < w.heap.size) := Lib.hid (blk_lt HK.out)
  clear hk5 hl5 hb5
  go_wp2_with fail
  refine HAD.out.mono ?_
  rintro r w' ⟨rfl, hw'⟩
  subst hw'
  go_wp2_with fail
  refine HFL.out.mono ?_
  rintro r w6 ⟨rfl, hk6, hb6⟩
  have HFIN : Hid (TiP k f s l q e gr L C R p n v0 v1 v2 v3 v4 v5 v6 v7 v8 v9 v10 v11 v12 v13 E w (.returned (.slice OA 1 1)) w6) := Lib.hid ⟨OA, oc, rfl, hk6, by rw [← HCN.out]; exact hb6.blk HF5.out HNE.out, HL5.out.keep hb6 (fun j h1 _ e => by have := HKL.out; omega), HB5.out.trans hb6 (fun _ _ h => .inl h)⟩
  clear hk6 hb6
  go_wp2
  go_ret
  exact HFIN.out
end Go.Proofs.YtlcfnehmmjhoiaaGreat
