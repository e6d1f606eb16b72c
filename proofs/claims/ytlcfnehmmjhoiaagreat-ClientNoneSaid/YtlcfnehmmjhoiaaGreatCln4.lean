/- Package client: what a client is in memory; New, clock, again, flush. -/
import Derived.Test.YtlcfnehmmjhoiaaGreatCln3
set_option linter.unusedSimpArgs false
set_option linter.unusedVariables false
namespace Go.Proofs.YtlcfnehmmjhoiaaGreat
open Go.RowKit

attribute [local go_sem ↓] Go.wp_at_zero Go.wp_at_succ
theorem eltLt : Elt Tryz.prog 22 35 3 40 := Elt.mk' (z := .agg #[.int .i64 0, .int .i64 0, .slice none 0 0]) (by kernel_rfl) (by kernel_rfl) (by kernel_rfl) (by intro u hu; simp [Value.cells] at hu; rcases hu with rfl | rfl | rfl <;> rfl) (by decide)
/-- A client's cells: no file is open. -/
@[reducible] def clC (s l q e : Int) (gr : Bool) (L C R : Value) (p : Int) (F O : Value) : Array Value :=
  #[.int .i64 s, .int .i64 l, .int .i64 q, .int .i64 e, .bool gr, L, .pointer none, .pointer none, .pointer none, .pointer none, .pointer none, .pointer none, .pointer none, .pointer none, C, R, .int .i64 p, F, O]
theorem cnew_ok (s l n : Int) (hs : 0 ≤ s ∧ s ≤ 7) (hl : 1 ≤ l ∧ l ≤ 1073741824) (w : World) : Calls Tryz.prog 5 #[.int .i64 s, .int .i64 l, .int .i64 n] w fun e w' => e = .returned (.tuple #[.pointer (some ⟨w.heap.size, 0, none⟩), .int .i64 0]) ∧ w' = w.alloc (.cells (clC s l 0 0 false (.slice none 0 0) (.pointer none) (.pointer none) 0 (.pointer none) (.slice none 0 0)) 56) := by
  obtain ⟨hs0, hs1⟩ := hs
  obtain ⟨hl0, hl1⟩ := hl
  have t1 : decide (s < 0) = false := decide_eq_false (by omega)
  have t2 : decide (8 ≤ s) = false := decide_eq_false (by omega)
  have t3 : decide (l < 1) = false := decide_eq_false (by omega)
  have t4 : decide (1073741824 < l) = false := decide_eq_false (by omega)
  have t5 : decide (l ≤ 0) = false := decide_eq_false (by omega)
  go_enter Tryz.func5, Tryz.ntmps5
  go_wp2
  go_ret2
  exact ⟨rfl, rfl⟩
theorem cnew_bad (s l n : Int) (h : ¬ (0 ≤ s ∧ s ≤ 7 ∧ 1 ≤ l ∧ l ≤ 1073741824)) (w : World) : Calls Tryz.prog 5 #[.int .i64 s, .int .i64 l, .int .i64 n] w fun e w' => e = .returned (.tuple #[.pointer none, .int .i64 1]) ∧ w' = w := by
  have t : (decide (s < 0) || decide (8 ≤ s) || decide (l < 1) || decide (1073741824 < l)) = true := by
    rcases Int.lt_or_le s 0 with a | a
    · simp [a]
    rcases Int.lt_or_le 7 s with b | b
    · simp [show 8 ≤ s by omega]
    rcases Int.lt_or_le l 1 with c | c
    · simp [c]
    simp [show 1073741824 < l by omega]
  go_enter Tryz.func5, Tryz.ntmps5
  go_wp2
  all_goals (first | (go_ret2; exact ⟨rfl, rfl⟩) | (exfalso; simp_all; omega))
def clkP (n : Int) : Int := max 0 (min n 1099511627776)
theorem clock_walk (n : Int) (w : World) : Calls Tryz.prog 23 #[.int .i64 n] w fun e w' => e = .returned (.int .i64 (clkP n)) ∧ w' = w := by
  go_enter Tryz.func23, Tryz.ntmps23
  go_wp2
  all_goals
    go_ret
    exact ⟨congrArg (fun n => Ending.returned (.int .i64 n)) (by unfold clkP; omega), rfl⟩
/-- What a letter that goes is. -/
structure LtR (B : Nat) (w : World) (s : Int) (E : List UInt8) (OA : Option Addr) (oc : Nat) : Prop where
  own : ∃ A, w.ownsRow 0 35 3 (.slice OA 1 oc) 1 [.int .i64 (s + 1), .int .i64 0, .slice A E.length E.length] ∧ NB B w A E.length E
  fresh : ∀ j, OA.map (·.block) = some j → B ≤ j
theorem LtR.keep {S : Nat → Prop} {B : Nat} {w w' : World} {s : Int} {E : List UInt8} {OA : Option Addr} {oc : Nat} (h : LtR B w s E OA oc) (hk : Keep S w w') (hS : ∀ j, B ≤ j → j < w.heap.size → ¬ S j) : LtR B w' s E OA oc := by
  obtain ⟨⟨A, h1, h2⟩, h3⟩ := h
  refine ⟨⟨A, own_keep h1 hk (fun j e => hS j (h3 j (by rw [ownB_slice] at e; exact e)) (own_lt h1 e)), h2.keep hk (fun j e => ?_)⟩, h3⟩
  obtain ⟨hb, cs, fr, hq⟩ := h2.fresh j e
  exact hS j hb (blk_lt hq)
theorem LtR.mono {B B' : Nat} {w : World} {s : Int} {E : List UInt8} {OA : Option Addr} {oc : Nat} (h : LtR B w s E OA oc) (hB : B' ≤ B) : LtR B' w s E OA oc := by
  obtain ⟨⟨A, h1, h2⟩, h3⟩ := h
  exact ⟨⟨A, h1, h2.mono hB⟩, fun j e => Nat.le_trans hB (h3 j e)⟩
/-- Behind again: one letter is to go. -/
def AgP (k : Nat) (s l q e : Int) (gr : Bool) (L C R : Value) (p : Int) (F : Value) (E : List UInt8) (w : World) (r : Ending) (w' : World) : Prop :=
  ∃ OA oc, r = .returned (.tuple #[]) ∧ w'.heap[k]? = some (.cells (clC s l q e gr L C R p F (.slice OA 1 oc)) 56 (0, 0)) ∧ LtR w.heap.size w' s E OA oc ∧ Keep (fun j => j = k) w w'
theorem again_end {k : Nat} {s l q e : Int} {gr : Bool} {L C R : Value} {p : Int} {F : Value} {E : List UInt8} {w w1 W w3 : World} {A1 A3 : Option Addr} {c3 : Nat}
    (hk : w1.heap[k]? = some (.cells (clC s l q e gr L C R p F (.slice none 0 0)) 56 (0, 0))) (hkw : k < w.heap.size) (hB : Below w.heap.size w w1) (hn : NB w.heap.size w1 A1 E.length E) (hW : Below w1.heap.size w1 W)
    (g1 : w3.ownsRow 0 35 3 (.slice A3 1 c3) 1 [.int .i64 (s + 1), .int .i64 0, .slice A1 E.length E.length]) (g2 : Keep (fun k => (Value.slice none 0 0).ownBlock = some k) W w3) (g3 : (Value.slice A3 1 c3).ownBlock = (Value.slice none 0 0).ownBlock ∨ (Value.slice A3 1 c3).ownBlock = some W.heap.size) :
    (w3.cell? ⟨k, 18, none⟩ = some (.slice none 0 0) ∧ w3.frozen? ⟨k, 18, none⟩ = false) ∧ AgP k s l q e gr L C R p F E w (.returned (.tuple #[])) (w3.setCell ⟨k, 18, none⟩ (.slice A3 1 c3)) := by
  have k1 : Keep (fun _ => False) w1 w3 := (Keep.of_below (S := fun _ => False) hW).trans (g2.mono (fun j _ e => by cases e)) (fun _ _ h => h)
  have hk3 := k1.blk hk id
  have k2 : Keep (fun j => j = k) w3 (w3.setCell ⟨k, 18, none⟩ (.slice A3 1 c3)) := (Keep.refl (fun j => j = k) w3).setCell (p := ⟨k, 18, none⟩) (fun _ => rfl) _
  refine ⟨⟨(blk_cells hk3 18).trans rfl, blk_frees hk3 18⟩, A3, c3, rfl, blk_set hk3 _, ⟨⟨A1, ?_, ?_⟩, ?_⟩, ?_⟩
  · refine own_keep g1 k2 (fun j e e2 => ?_)
    rcases g3 with h | h <;> rw [e] at h
    · cases h
    · have := Option.some.inj h
      have := hW.size
      have := blk_lt hk
      omega
  · refine (hn.keep k1 (fun _ _ h => h)).keep k2 (fun j e e2 => ?_)
    have := (hn.fresh j e).1
    omega
  · intro j e
    rcases g3 with h | h <;> rw [ownB_slice] at h
    · rw [h] at e; cases e
    · rw [h] at e
      have := Option.some.inj e
      have := hW.size
      have := hB.size
      omega
  · exact ((Keep.of_below (S := fun j => j = k) hB).trans k1 (fun _ _ h => h.elim)).trans k2 (fun _ _ h => h)
set_option maxRecDepth 100000 in
set_option maxHeartbeats 4000000 in
theorem again_walk (k f : Nat) (s l q e : Int) (gr : Bool) (L C R : Value) (p : Int) (hs : 0 ≤ s ∧ s ≤ 7) (v0 v1 v2 v3 v4 v5 v6 v7 v8 v9 v10 v11 v12 v13 v14 : Value) (E : List UInt8) (w : World)
    (hk : w.heap[k]? = some (.cells (clC s l q e gr L C R p (.pointer (some ⟨f, 0, none⟩)) (.slice none 0 0)) 56 (0, 0)))
    (hf : w.heap[f]? = some (.cells #[v0, v1, v2, v3, v4, v5, v6, v7, v8, v9, v10, v11, v12, v13, v14] 79 (0, 0)))
    (hE : ∀ W, Calls Tryz.prog 49 #[.agg #[v0, v1, v2, v3, v4, v5, v6, v7, v8, v9, v10, v11, v12]] W (TextP W.heap.size [] E W)) :
    Calls Tryz.prog 24 #[.pointer (some ⟨k, 0, none⟩)] w (AgP k s l q e gr L C R p (.pointer (some ⟨f, 0, none⟩)) E w) := by
  have c0 : w.cell? ⟨k, 0, none⟩ = some (.int .i64 s) := (blk_cells hk 0).trans rfl
  have c17 : w.cell? ⟨k, 17, none⟩ = some (.pointer (some ⟨f, 0, none⟩)) := (blk_cells hk 17).trans rfl
  have cf := blk_cells hf
  have hs1 : IntKind.i64.wrap (s + 1) = s + 1 := IntWalk.i64_in _ (by omega)
  have HE := Lib.hid hE
  have HK := Lib.hid hk
  clear hE hk hs
  go_enter Tryz.func24, Tryz.ntmps24
  go_wp2_with fail
  refine (HE.out w).mono ?_
  rintro r w1 ⟨A1, D, hD, rfl, hn, h1⟩
  have hDE : D = E := by rw [hD, List.nil_append]
  subst hDE
  have hk1 := (Keep.of_below (S := fun _ => False) h1).blk HK.out id
  have c0 : w1.cell? ⟨k, 0, none⟩ = some (.int .i64 s) := (blk_cells hk1 0).trans rfl
  have c18 : w1.cell? ⟨k, 18, none⟩ = some (.slice none 0 0) := (blk_cells hk1 18).trans rfl
  have HK1 := Lib.hid hk1
  have HN := Lib.hid hn
  have HB1 := Lib.hid h1
  have HKW := Lib.hid (blk_lt HK.out)
  have HW1 := Lib.hid ((Below.refl w1.heap.size w1).alloc (Nat.le_refl _) (.cells #[.int .i64 (s + 1), .int .i64 0, .slice A1 D.length D.length] 35))
  have HW2 := Lib.hid (((Below.refl w1.heap.size w1).alloc (Nat.le_refl _) (.cells #[.int .i64 (s + 1), .int .i64 0, .slice A1 D.length D.length] 35)).drew)
  have HS1 := Lib.hid (Sl.of_own (own_new w1 #[.int .i64 (s + 1), .int .i64 0, .slice A1 D.length D.length] 35 3 1 rfl (by decide)))
  have HS2 := Lib.hid (Sl.of_own (own_keep (own_new w1 #[.int .i64 (s + 1), .int .i64 0, .slice A1 D.length D.length] 35 3 1 rfl (by decide)) ((Keep.refl (fun _ => False) _).drew) (fun _ _ h => h)))
  have d0 := ((Keep.refl (fun _ => False) w1).alloc (.cells #[.int .i64 (s + 1), .int .i64 0, .slice A1 D.length D.length] 35)).cell c18 id
  have d1 := (((Keep.refl (fun _ => False) w1).alloc (.cells #[.int .i64 (s + 1), .int .i64 0, .slice A1 D.length D.length] 35)).drew).cell c18 id
  clear hk1 hn h1 hD cf c17
  go_upto_region 2 with fail
  go_region_law (go_must (refine step_app (by rfl) eltLt (by rfl) (by rfl) (by rfl) (n := 0) (m := 1) (own_nil' _ _ _ _) (by first | exact HS1.out | exact HS2.out) (by intro u hu; simp at hu; rcases hu with rfl | rfl | rfl <;> rfl) (by decide) (by simp only [maxLen]; omega) ?_; intro v3 w3 g1 g2 g3 g4; clear g4; obtain ⟨A3, c3, rfl, _⟩ := Rd.of_own g1; have G := again_end HK1.out HKW.out HB1.out HN.out (by first | exact HW1.out | exact HW2.out) g1 g2 g3; have q18 := G.1.1; have f18 := G.1.2; have HG := Lib.hid G.2; clear G g1 g2 g3))
  all_goals
    go_wp2
    refine bodyPost_end (results_none rfl _ _ _) rfl ?_
    exact HG.out
end Go.Proofs.YtlcfnehmmjhoiaaGreat
