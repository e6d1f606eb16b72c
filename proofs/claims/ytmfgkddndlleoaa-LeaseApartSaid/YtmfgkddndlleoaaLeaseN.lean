/- A nil table; a table beside the law's own memory; awake. -/
import Derived.Test.YtmfgkddndlleoaaLeaseR
set_option linter.unusedSimpArgs false
set_option linter.unusedVariables false
namespace Go.Proofs.Ytmfgkddndlleoaa
open Go.RowKit

theorem reclaim_nil (n g s m now : Int) (w : World) :
    Calls Try.prog 16 #[.pointer none, .agg #[.int .i64 n, .int .i64 g], .int .i64 s, .int .i64 m, .int .i64 now] w fun e w' => e = .returned (.bool false) ∧ Below w.heap.size w w' := by
  have x1 := (Below.refl w.heap.size w).alloc (Nat.le_refl _) (.cells #[.int .i64 n, .int .i64 g] 34)
  go_enter Try.func16, Try.ntmps16
  go_wp2
  go_ret
  exact ⟨rfl, x1⟩
theorem clear_nil (n g s m now : Int) (w : World) :
    Calls Try.prog 23 #[.pointer none, .agg #[.int .i64 n, .int .i64 g], .int .i64 s, .int .i64 m, .int .i64 now] w fun e w' => e = .returned (.slice none 0 0) ∧ Below w.heap.size w w' := by
  have x1 := (Below.refl w.heap.size w).alloc (Nat.le_refl _) (.cells #[.int .i64 n, .int .i64 g] 34)
  go_enter Try.func23, Try.ntmps23
  go_wp2
  go_ret
  exact ⟨rfl, x1⟩
theorem leave_nil (s : Int) (w : World) :
    Calls Try.prog 20 #[.pointer none, .int .i64 s] w fun e w' => e = .returned (.tuple #[]) ∧ Below w.heap.size w w' := by
  have x1 := (Below.refl w.heap.size w).alloc (Nat.le_refl _) (.cells #[.int .i64 s] 3)
  go_enter Try.func20, Try.ntmps20
  go_wp2
  go_end0
  exact ⟨rfl, x1⟩
theorem list_nil (w : World) :
    Calls Try.prog 8 #[.pointer none] w fun e w' => e = .returned (.slice none 0 0) ∧ w' = w := by
  go_enter Try.func8, Try.ntmps8
  go_wp2
  go_ret
  exact ⟨rfl, rfl⟩

/-- A table whose memory is none of X. -/
def TL (w : World) (t : Nat) (born : Int) (L Q : List LE) (X : Nat → Prop) : Prop := ∃ A B c d, Tab w t born L Q A B c d ∧ ∀ k, tabOwn t A B k → ¬ X k
theorem TL.keep {w w' : World} {t : Nat} {born : Int} {L Q : List LE} {X S : Nat → Prop} (h : TL w t born L Q X) (hk : Keep S w w') (hS : ∀ k, k < w.heap.size → S k → X k) : TL w' t born L Q X := by
  obtain ⟨A, B, c, d, hT, hX⟩ := h
  exact ⟨A, B, c, d, hT.keep hk (fun k e h => hX k e (hS k (hT.lt k e) h)), hX⟩
theorem TL.below {w w' : World} {t : Nat} {born : Int} {L Q : List LE} {X : Nat → Prop} (h : TL w t born L Q X) (hk : Below w.heap.size w w') : TL w' t born L Q X := h.keep (Keep.of_below (S := fun _ => False) hk) (fun _ _ h => h.elim)
/-- More that is not the table's: what is new. -/
theorem TL.more {w w' : World} {t : Nat} {born : Int} {L Q : List LE} {X Y : Nat → Prop} (h : TL w t born L Q X) (hk : Below w.heap.size w w') (hY : ∀ k, Y k → X k ∨ w.heap.size ≤ k) : TL w' t born L Q Y := by
  obtain ⟨A, B, c, d, hT, hX⟩ := h
  refine ⟨A, B, c, d, hT.keep (Keep.of_below (S := fun _ => False) hk) (fun _ _ h => h), fun k hk hy => ?_⟩
  rcases hY k hy with h | h
  · exact hX k hk h
  · have := hT.lt k hk; omega
theorem tabEnd_TL {w w' : World} {t : Nat} {born : Int} {L' Q' : List LE} {A B : Option Addr} {X : Nat → Prop} {r : Value} {e : Ending} (hX : ∀ k, tabOwn t A B k → ¬ X k) (hlt : ∀ k, X k → k < w.heap.size) (h : TabEnd t born L' Q' A B w r e w') : e = .returned r ∧ TL w' t born L' Q' X ∧ Keep (fun k => ¬ X k) w w' := by
  obtain ⟨he, A', B', c', d', hT, hk, h2⟩ := h
  refine ⟨he, ⟨A', B', c', d', hT, fun k e hx => ?_⟩, hk.mono (fun i _ e => hX i e)⟩
  rcases h2 k e with h | h
  · exact hX k h hx
  · have := hlt k hx; omega
def GEnd (t : Nat) (born : Int) (r : List Int × Bool × List LE × List LE) (X : Nat → Prop) (w : World) (e : Ending) (w' : World) : Prop :=
  ∃ O oc, e = .returned (.tuple #[.slice O r.1.length oc, .bool r.2.1]) ∧ w'.ownsRow 0 3 1 (.slice O r.1.length oc) r.1.length (ints r.1) ∧ TL w' t born r.2.2.1 r.2.2.2 (fun k => X k ∨ O.map (·.block) = some k) ∧ Keep (fun k => ¬ X k) w w' ∧ ∀ k, O.map (·.block) = some k → w.heap.size ≤ k
theorem grantX (t : Nat) (born n g s m now : Int) (L Q : List LE) (X : Nat → Prop) (w : World) (h : TL w t born L Q X) (hlt : ∀ k, X k → k < w.heap.size) (hf : L.length + Q.length < 1000000) :
    Calls Try.prog 10 #[.pointer (some ⟨t, 0, none⟩), .agg #[.int .i64 n, .int .i64 g], .int .i64 s, .int .i64 m, .int .i64 now] w (GEnd t born (grantP n g s m now L Q) X w) := by
  obtain ⟨A, B, c, d, hT, hX⟩ := h
  refine (grant_walk t born n g s m now L Q A B c d w hT hf).mono ?_
  rintro e w' ⟨O, oc, A', B', c', d', he, hown, hT', hk, h2, hO⟩
  refine ⟨O, oc, he, hown, ⟨A', B', c', d', hT', fun k e hx => ?_⟩, hk.mono (fun i _ e => hX i e), hO⟩
  rcases hx with hx | hx
  · rcases h2 k e with h | h
    · exact hX k h hx
    · have := hlt k hx; omega
  · rcases e with rfl | e | e
    · exact own_ne_blk hown hT'.blk (by decide) (by rw [ownBlock_slice]; exact hx) rfl
    · exact own_ne hown hT'.ownL (by decide) (by rw [ownBlock_slice]; exact hx) (by rw [ownBlock_slice]; exact e)
    · exact own_ne hown hT'.ownQ (by decide) (by rw [ownBlock_slice]; exact hx) (by rw [ownBlock_slice]; exact e)
theorem releaseX (t : Nat) (born n g s : Int) (L Q : List LE) (X : Nat → Prop) (w : World) (h : TL w t born L Q X) (hlt : ∀ k, X k → k < w.heap.size) :
    Calls Try.prog 18 #[.pointer (some ⟨t, 0, none⟩), .agg #[.int .i64 n, .int .i64 g], .int .i64 s] w fun e w' => e = .returned (.bool (decide (0 ≤ idxP (mineP n g s) L))) ∧ TL w' t born (relP n g s L) Q X ∧ Keep (fun k => ¬ X k) w w' := by
  obtain ⟨A, B, c, d, hT, hX⟩ := h
  exact (release_walk t born n g s L Q A B c d w hT).mono fun e w' h => tabEnd_TL hX hlt h
theorem hasX (t : Nat) (born n g s m : Int) (L Q : List LE) (X : Nat → Prop) (w : World) (h : TL w t born L Q X) :
    Calls Try.prog 11 #[.pointer (some ⟨t, 0, none⟩), .agg #[.int .i64 n, .int .i64 g], .int .i64 s, .int .i64 m] w fun e w' => e = .returned (.bool (hasP n g s m L)) ∧ Below w.heap.size w w' := by
  obtain ⟨A, B, c, d, hT, hX⟩ := h
  exact has_walk t born n g s m L Q A B c d w hT
theorem graceX (t : Nat) (born now : Int) (L Q : List LE) (X : Nat → Prop) (w : World) (h : TL w t born L Q X) :
    Calls Try.prog 12 #[.pointer (some ⟨t, 0, none⟩), .int .i64 now] w fun e w' => e = .returned (.bool (!pastP born now 25)) ∧ w' = w := by
  obtain ⟨A, B, c, d, hT, hX⟩ := h
  exact grace_walk t born now w hT.b0 hT.b1 (blk_cell hT.blk rfl)
theorem newX (now : Int) (w : World) :
    Calls Try.prog 4 #[.int .i64 now] w fun e w' => e = .returned (.pointer (some ⟨w.heap.size, 0, none⟩)) ∧ TL w' w.heap.size (clockP now) [] [] (fun k => k < w.heap.size) ∧ Below w.heap.size w w' ∧ w.heap.size < w'.heap.size := by
  refine (new_walk now w).mono ?_
  rintro e w' ⟨rfl, rfl⟩
  refine ⟨rfl, ⟨none, none, 0, 0, ⟨blk_new _ _, own_nil' _ _ _ _, own_nil' _ _ _ _, (clock_range now).1, (clock_range now).2, (by intro e h; cases h), (by intro e h; cases h), by simp⟩, ?_⟩, (Below.refl _ _).alloc (Nat.le_refl _) _, by simp⟩
  rintro k (rfl | e | e)
  · exact Nat.lt_irrefl _
  · cases e
  · cases e
theorem one_cell {w : World} {O : Option Addr} {oc : Nat} {v : Int} (h : w.ownsRow 0 3 1 (.slice O 1 oc) 1 (ints [v])) : ∃ b, O = some ⟨b, 0, none⟩ ∧ w.cell? ⟨b, 0, none⟩ = some (.int .i64 v) := by
  obtain ⟨b, cap, cur, e, hb, q1, q2, q3, q4⟩ := own_form h (by omega)
  injection e with e1 _ e3
  subst e1 e3
  refine ⟨b, rfl, ?_⟩
  have := h.cells (g := b) rfl 0 (.int .i64 v) (by simp [ints])
  rw [Addr.add_lit] at this
  exact this
end Go.Proofs.Ytmfgkddndlleoaa
