/- Words and contracts that the proofs of this set use; each part says what it holds. -/
import Derived.Test.YtehfoopefefpnaaGreatSk8
/- Package space: no store, no such node, one that is free. -/
set_option linter.unusedSimpArgs false
set_option linter.unusedVariables false
namespace Go.Proofs.YtehfoopefefpnaaGreat
open Go.RowKit

attribute [local go_sem ↓] Go.wp_at_zero Go.wp_at_succ
set_option maxHeartbeats 1000000 in
theorem node_nil (n : Int) (w : World) : Calls Tryz.prog 42 #[.pointer none, .int .i64 n] w fun e w' => e = .returned (.tuple #[.agg #[.int .i64 0, .int .i64 0, .int .i64 0, .int .i64 0, .int .i64 0, .int .i64 0, .int .i64 0, .int .i64 0, .int .i64 0, .int .i64 0, .int .i64 0], .int .i64 1]) ∧ Below w.heap.size w w' := by
  obtain ⟨w0, hw0⟩ : ∃ w0, w0 = w.alloc (.cells #[.int .i64 0, .int .i64 0, .int .i64 0, .int .i64 0, .int .i64 0, .int .i64 0, .int .i64 0, .int .i64 0, .int .i64 0, .int .i64 0, .int .i64 0] 69) := ⟨_, rfl⟩
  have hb0 : Below w.heap.size w w0 := by rw [hw0]; exact (Below.refl _ w).alloc (Nat.le_refl _) _
  have hn := blk_new w (.cells #[.int .i64 0, .int .i64 0, .int .i64 0, .int .i64 0, .int .i64 0, .int .i64 0, .int .i64 0, .int .i64 0, .int .i64 0, .int .i64 0, .int .i64 0] 69)
  rw [← hw0] at hn
  have rx := blk_cells hn
  have rf := blk_frees hn
  have HN := Lib.hid hn
  have HB := Lib.hid hb0
  have HW := Lib.hid hw0
  clear hn hb0 hw0
  go_enter Tryz.func42, Tryz.ntmps42
  go_wp2_with fail
  rw [← HW.out]
  refine (live_nil _).mono ?_
  rintro r w' ⟨rfl, rfl⟩
  go_wp2
  have e11 := set11 HN.out (.int .i64 0) (.int .i64 0) (.int .i64 0) (.int .i64 0) (.int .i64 0) (.int .i64 0) (.int .i64 0) (.int .i64 0) (.int .i64 0) (.int .i64 0) (.int .i64 0)
  have ke := setL_keep (k := w.heap.size) [.int .i64 0, .int .i64 0, .int .i64 0, .int .i64 0, .int .i64 0, .int .i64 0, .int .i64 0, .int .i64 0, .int .i64 0, .int .i64 0, .int .i64 0] 0 w'
  have hf := HB.out.trans (ke.below (B := w.heap.size) (fun i e => by omega) HB.out.size)
  clear ke
  generalize hWf : setL w' w.heap.size 0 [.int .i64 0, .int .i64 0, .int .i64 0, .int .i64 0, .int .i64 0, .int .i64 0, .int .i64 0, .int .i64 0, .int .i64 0, .int .i64 0, .int .i64 0] = Wf at e11 hf
  simp only [setL, Nat.zero_add, Nat.reduceAdd] at hWf
  rw [hWf]
  clear hWf
  have HF := Lib.hid hf
  have q0' := (blk_cells e11 0).trans rfl
  have q1' := (blk_cells e11 1).trans rfl
  have q2' := (blk_cells e11 2).trans rfl
  have q3' := (blk_cells e11 3).trans rfl
  have q4' := (blk_cells e11 4).trans rfl
  have q5' := (blk_cells e11 5).trans rfl
  have q6' := (blk_cells e11 6).trans rfl
  have q7' := (blk_cells e11 7).trans rfl
  have q8' := (blk_cells e11 8).trans rfl
  have q9' := (blk_cells e11 9).trans rfl
  have q10' := (blk_cells e11 10).trans rfl
  clear hf e11 rx rf
  refine bodyPost_ret (by simp [results, Tryz.results42, go_sem, q0', q1', q2', q3', q4', q5', q6', q7', q8', q9', q10']; try rfl) rfl ?_
  exact ⟨rfl, HF.out⟩
theorem node_rng {B : Nat} {p : StP} {s : StS} (n : Int) (w : World) (h : ST B p s w) (hn : n < 0 ∨ 31 < n) : Calls Tryz.prog 42 #[.pointer (some ⟨p.k, 0, none⟩), .int .i64 n] w fun e w' => e = .returned (.tuple #[.agg #[.int .i64 0, .int .i64 0, .int .i64 0, .int .i64 0, .int .i64 0, .int .i64 0, .int .i64 0, .int .i64 0, .int .i64 0, .int .i64 0, .int .i64 0], .int .i64 4]) ∧ Below w.heap.size w w' := by
  obtain ⟨w0, hw0⟩ : ∃ w0, w0 = w.alloc (.cells #[.int .i64 0, .int .i64 0, .int .i64 0, .int .i64 0, .int .i64 0, .int .i64 0, .int .i64 0, .int .i64 0, .int .i64 0, .int .i64 0, .int .i64 0] 69) := ⟨_, rfl⟩
  have hb0 : Below w.heap.size w w0 := by rw [hw0]; exact (Below.refl _ w).alloc (Nat.le_refl _) _
  have hnn := blk_new w (.cells #[.int .i64 0, .int .i64 0, .int .i64 0, .int .i64 0, .int .i64 0, .int .i64 0, .int .i64 0, .int .i64 0, .int .i64 0, .int .i64 0, .int .i64 0] 69)
  rw [← hw0] at hnn
  have rx := blk_cells hnn
  have rf := blk_frees hnn
  have HLV := Lib.hid (live_walk B p s w0 (h.below hb0))
  have HN := Lib.hid hnn
  have HB := Lib.hid hb0
  have HW := Lib.hid hw0
  clear hnn hb0 hw0 h
  rcases (by omega : n < 0 ∨ (¬ n < 0 ∧ 32 ≤ n)) with g | ⟨g, g2⟩
  all_goals
    clear hn
    go_enter Tryz.func42, Tryz.ntmps42
    go_wp2_with fail
    rw [← HW.out]
    refine HLV.out.mono ?_
    rintro r w' ⟨rfl, rfl⟩
    go_wp2
    have e11 := set11 HN.out (.int .i64 0) (.int .i64 0) (.int .i64 0) (.int .i64 0) (.int .i64 0) (.int .i64 0) (.int .i64 0) (.int .i64 0) (.int .i64 0) (.int .i64 0) (.int .i64 0)
    have ke := setL_keep (k := w.heap.size) [.int .i64 0, .int .i64 0, .int .i64 0, .int .i64 0, .int .i64 0, .int .i64 0, .int .i64 0, .int .i64 0, .int .i64 0, .int .i64 0, .int .i64 0] 0 w'
    have hf := HB.out.trans (ke.below (B := w.heap.size) (fun i e => by omega) HB.out.size)
    clear ke
    generalize hWf : setL w' w.heap.size 0 [.int .i64 0, .int .i64 0, .int .i64 0, .int .i64 0, .int .i64 0, .int .i64 0, .int .i64 0, .int .i64 0, .int .i64 0, .int .i64 0, .int .i64 0] = Wf at e11 hf
    simp only [setL, Nat.zero_add, Nat.reduceAdd] at hWf
    rw [hWf]
    clear hWf
    have HF := Lib.hid hf
    have q0' := (blk_cells e11 0).trans rfl
    have q1' := (blk_cells e11 1).trans rfl
    have q2' := (blk_cells e11 2).trans rfl
    have q3' := (blk_cells e11 3).trans rfl
    have q4' := (blk_cells e11 4).trans rfl
    have q5' := (blk_cells e11 5).trans rfl
    have q6' := (blk_cells e11 6).trans rfl
    have q7' := (blk_cells e11 7).trans rfl
    have q8' := (blk_cells e11 8).trans rfl
    have q9' := (blk_cells e11 9).trans rfl
    have q10' := (blk_cells e11 10).trans rfl
    clear hf e11 rx rf
    refine bodyPost_ret (by simp [results, Tryz.results42, go_sem, q0', q1', q2', q3', q4', q5', q6', q7', q8', q9', q10']; try rfl) rfl ?_
    exact ⟨rfl, HF.out⟩
/-- What open answers where there is nothing. -/
def OnP (e7 : Int) (w : World) (e : Ending) (w' : World) : Prop := e = .returned (.tuple #[.pointer none, .int .i64 e7]) ∧ Below w.heap.size w w'
theorem open_nil (n : Int) (w : World) : Calls Tryz.prog 27 #[.pointer none, .int .i64 n] w (OnP 1 w) := by
  have HN := Lib.hid (node_nil n w)
  go_enter Tryz.func27, Tryz.ntmps27
  go_wp2_with fail
  refine HN.out.mono ?_
  rintro r w1 ⟨rfl, hb1⟩
  have HB1 := Lib.hid hb1
  clear hb1
  go_wp2
  go_ret2
  exact ⟨rfl, (HB1.out.alloc HB1.out.size _)⟩
/-- Read, Write, Trunc, Sectors where open answers so. -/
theorem read_no {v : Value} {n : Int} {e7 : Int} {w : World} (h : Calls Tryz.prog 27 #[v, .int .i64 n] w (OnP e7 w)) (h0 : e7 ≠ 0) (at_ sz : Int) :
    Calls Tryz.prog 10 #[v, .int .i64 n, .int .i64 at_, .int .i64 sz] w fun e w' => e = .returned (.tuple #[.slice none 0 0, .int .i64 e7]) ∧ Below w.heap.size w w' := by
  have HO := Lib.hid h
  have g0 : (e7 == 0) = false := beq_eq_false_iff_ne.2 h0
  clear h
  go_enter Tryz.func10, Tryz.ntmps10
  go_wp2_with fail
  refine HO.out.mono ?_
  rintro r w1 ⟨rfl, hb1⟩
  have HB1 := Lib.hid hb1
  clear hb1
  go_wp2
  go_ret2
  exact ⟨rfl, HB1.out⟩
theorem write_no {v : Value} {n : Int} {e7 : Int} {w : World} (h : Calls Tryz.prog 27 #[v, .int .i64 n] w (OnP e7 w)) (h0 : e7 ≠ 0) (at_ : Int) (A : Option Addr) (l c : Nat) :
    Calls Tryz.prog 12 #[v, .int .i64 n, .int .i64 at_, .slice A l c] w fun e w' => e = .returned (.int .i64 e7) ∧ Below w.heap.size w w' := by
  have HO := Lib.hid h
  have g0 : (e7 == 0) = false := beq_eq_false_iff_ne.2 h0
  clear h
  go_enter Tryz.func12, Tryz.ntmps12
  go_wp2_with fail
  refine HO.out.mono ?_
  rintro r w1 ⟨rfl, hb1⟩
  have HB1 := Lib.hid hb1
  clear hb1
  go_wp2
  go_ret
  exact ⟨rfl, HB1.out⟩
theorem trunc_no {v : Value} {n : Int} {e7 : Int} {w : World} (h : Calls Tryz.prog 27 #[v, .int .i64 n] w (OnP e7 w)) (h0 : e7 ≠ 0) (sz : Int) :
    Calls Tryz.prog 13 #[v, .int .i64 n, .int .i64 sz] w fun e w' => e = .returned (.int .i64 e7) ∧ Below w.heap.size w w' := by
  have HO := Lib.hid h
  have g0 : (e7 == 0) = false := beq_eq_false_iff_ne.2 h0
  clear h
  go_enter Tryz.func13, Tryz.ntmps13
  go_wp2_with fail
  refine HO.out.mono ?_
  rintro r w1 ⟨rfl, hb1⟩
  have HB1 := Lib.hid hb1
  clear hb1
  go_wp2
  go_ret
  exact ⟨rfl, HB1.out⟩
theorem sectors_no {v : Value} {n : Int} {e7 : Int} {w : World} (h : Calls Tryz.prog 27 #[v, .int .i64 n] w (OnP e7 w)) (h0 : e7 ≠ 0) :
    Calls Tryz.prog 11 #[v, .int .i64 n] w fun e w' => e = .returned (.tuple #[.slice none 0 0, .int .i64 e7]) ∧ Below w.heap.size w w' := by
  have HO := Lib.hid h
  have g0 : (e7 == 0) = false := beq_eq_false_iff_ne.2 h0
  clear h
  go_enter Tryz.func11, Tryz.ntmps11
  go_wp2_with fail
  refine HO.out.mono ?_
  rintro r w1 ⟨rfl, hb1⟩
  have HB1 := Lib.hid hb1
  clear hb1
  go_wp2
  go_ret2
  exact ⟨rfl, HB1.out⟩
end Go.Proofs.YtehfoopefefpnaaGreat
