/- Words and contracts that the proofs of this set use; each part says what it holds. -/
import Derived.ProofKit
import Derived.SizedLaws
import Derived.Deep.Slices
import Derived.Deep.Strs
import Derived.ChangeOld
import Derived.Test.YtgedcnnbeangcaaGreatRows
import Derived.OpenShut
import Derived.KernelRfl
import Derived.Test.YtgedcnnbeangcaaGreatPkS5
import Derived.Test.YtgedcnnbeangcaaGreatPkS0
/- Package store: no store. -/
set_option linter.unusedSimpArgs false
set_option linter.unusedVariables false
namespace Go.Proofs.YtgedcnnbeangcaaGreat
open Go.RowKit

attribute [local go_sem ↓] Go.wp_at_zero Go.wp_at_succ
theorem drop_nil (w : World) : Calls Tryz.prog 24 #[.pointer none] w fun e w' => e = .returned (.tuple #[]) ∧ w' = w := by
  go_enter Tryz.func24, Tryz.ntmps24
  go_wp2_with fail
  refine (live_nil w).mono ?_
  rintro r w' ⟨rfl, rfl⟩
  go_wp2
  refine bodyPost_ret (results_none rfl _ _ _) rfl ?_
  exact ⟨rfl, rfl⟩
theorem get_nil (n : Int) (w : World) : Calls Tryz.prog 17 #[.pointer none, .int .i64 n] w fun e w' => e = .returned (.tuple #[.slice none 0 0, .int .i64 1]) ∧ w' = w := by
  go_enter Tryz.func17, Tryz.ntmps17
  go_wp2_with fail
  refine (live_nil w).mono ?_
  rintro r w' ⟨rfl, rfl⟩
  go_wp2
  go_ret2
  exact ⟨rfl, rfl⟩
theorem put_nil (n : Int) (v : Value) (w : World) : Calls Tryz.prog 28 #[.pointer none, .int .i64 n, v] w fun e w' => e = .returned (.int .i64 1) ∧ w' = w := by
  go_enter Tryz.func28, Tryz.ntmps28
  go_wp2_with fail
  refine (live_nil w).mono ?_
  rintro r w' ⟨rfl, rfl⟩
  go_wp2
  go_ret
  exact ⟨rfl, rfl⟩
theorem new_nil (n : Int) (w : World) : Calls Tryz.prog 9 #[.pointer none, .int .i64 n] w fun e w' => e = .returned (.tuple #[.int .i64 0, .int .i64 1]) ∧ w' = w := by
  go_enter Tryz.func9, Tryz.ntmps9
  go_wp2_with fail
  refine (live_nil w).mono ?_
  rintro r w' ⟨rfl, rfl⟩
  go_wp2
  go_ret2
  exact ⟨rfl, rfl⟩
theorem take_nil (w : World) : Calls Tryz.prog 10 #[.pointer none] w fun e w' => e = .returned (.tuple #[.int .i64 0, .int .i64 1]) ∧ w' = w := by
  go_enter Tryz.func10, Tryz.ntmps10
  go_wp2_with fail
  refine (get_nil 34 w).mono ?_
  rintro r w' ⟨rfl, rfl⟩
  go_wp2
  go_ret2
  exact ⟨rfl, rfl⟩
theorem give_nil (n : Int) (w : World) : Calls Tryz.prog 25 #[.pointer none, .int .i64 n] w fun e w' => e = .returned (.int .i64 1) ∧ w' = w := by
  go_enter Tryz.func25, Tryz.ntmps25
  go_wp2_with fail
  refine (live_nil w).mono ?_
  rintro r w' ⟨rfl, rfl⟩
  go_wp2
  go_ret
  exact ⟨rfl, rfl⟩
theorem commit_nil (w : World) : Calls Tryz.prog 11 #[.pointer none] w fun e w' => e = .returned (.int .i64 1) ∧ w' = w := by
  go_enter Tryz.func11, Tryz.ntmps11
  go_wp2_with fail
  refine (live_nil w).mono ?_
  rintro r w' ⟨rfl, rfl⟩
  go_wp2
  go_ret
  exact ⟨rfl, rfl⟩
theorem free_nil (w : World) : Calls Tryz.prog 12 #[.pointer none] w fun e w' => e = .returned (.int .i64 0) ∧ w' = w := by
  go_enter Tryz.func12, Tryz.ntmps12
  go_wp2_with fail
  refine (get_nil 34 w).mono ?_
  rintro r w' ⟨rfl, rfl⟩
  go_wp2
  go_ret
  exact ⟨rfl, rfl⟩
theorem mount_nil (w : World) : Calls Tryz.prog 14 #[.pointer none] w fun e w' => e = .returned (.tuple #[.pointer none, .int .i64 1]) ∧ w' = w := by
  go_enter Tryz.func14, Tryz.ntmps14
  go_wp2_with fail
  refine (recover_nil w).mono ?_
  rintro r w' ⟨rfl, rfl⟩
  go_wp2
  go_ret2
  exact ⟨rfl, rfl⟩
theorem make_nil (w : World) : Calls Tryz.prog 19 #[.pointer none] w fun e w' => e = .returned (.int .i64 1) ∧ w' = w := by
  go_enter Tryz.func19, Tryz.ntmps19
  go_wp2
  go_ret
  exact ⟨rfl, rfl⟩
theorem setnode_nil (n a0 a1 a2 a3 a4 a5 a6 a7 a8 a9 a10 : Int) (w : World) : Calls Tryz.prog 29 #[.pointer none, .int .i64 n, .agg #[.int .i64 a0, .int .i64 a1, .int .i64 a2, .int .i64 a3, .int .i64 a4, .int .i64 a5, .int .i64 a6, .int .i64 a7, .int .i64 a8, .int .i64 a9, .int .i64 a10]] w fun e w' => e = .returned (.int .i64 1) ∧ Below w.heap.size w w' := by
  go_enter Tryz.func29, Tryz.ntmps29
  go_wp2_with fail
  refine (live_nil _).mono ?_
  rintro r w' ⟨rfl, rfl⟩
  go_wp2
  go_ret
  exact ⟨rfl, (Below.refl _ w).alloc (Nat.le_refl _) _⟩
theorem setseat_nil (n a0 a1 : Int) (A : Option Addr) (l c : Nat) (w : World) : Calls Tryz.prog 30 #[.pointer none, .int .i64 n, .agg #[.int .i64 a0, .int .i64 a1, .slice A l c]] w fun e w' => e = .returned (.int .i64 1) ∧ Below w.heap.size w w' := by
  go_enter Tryz.func30, Tryz.ntmps30
  go_wp2_with fail
  refine (live_nil _).mono ?_
  rintro r w' ⟨rfl, rfl⟩
  go_wp2
  go_ret
  exact ⟨rfl, (Below.refl _ w).alloc (Nat.le_refl _) _⟩
theorem super_nil (w : World) : Calls Tryz.prog 15 #[.pointer none] w fun e w' => e = .returned (.agg #[.int .i64 0, .int .i64 0, .int .i64 0]) ∧ Below w.heap.size w w' := by
  obtain ⟨w0, hw0⟩ : ∃ w0, w0 = w.alloc (.cells #[.int .i64 0, .int .i64 0, .int .i64 0] 38) := ⟨_, rfl⟩
  have hb0 : Below w.heap.size w w0 := by rw [hw0]; exact (Below.refl _ w).alloc (Nat.le_refl _) _
  have hn := blk_new w (.cells #[.int .i64 0, .int .i64 0, .int .i64 0] 38)
  rw [← hw0] at hn
  have n0 := (blk_cells hn 0).trans (show _ = some (.int .i64 0) from rfl)
  have n1 := (blk_cells hn 1).trans (show _ = some (.int .i64 0) from rfl)
  have n2 := (blk_cells hn 2).trans (show _ = some (.int .i64 0) from rfl)
  have f0 := blk_frees hn 0
  have f1 := blk_frees hn 1
  have f2 := blk_frees hn 2
  have HN := Lib.hid hn
  have HB := Lib.hid hb0
  have HW := Lib.hid hw0
  clear hn hb0 hw0
  go_enter Tryz.func15, Tryz.ntmps15
  go_wp2_with fail
  rw [← HW.out]
  refine (live_nil _).mono ?_
  rintro r w' ⟨rfl, rfl⟩
  go_wp2
  have hb := blk_set (blk_set (blk_set HN.out (.int .i64 0) (j := 0)) (.int .i64 0) (j := 1)) (.int .i64 0) (j := 2)
  have hk : Keep (fun j => j = w.heap.size) w' (((w'.setCell ⟨w.heap.size, 0, none⟩ (.int .i64 0)).setCell ⟨w.heap.size, 1, none⟩ (.int .i64 0)).setCell ⟨w.heap.size, 2, none⟩ (.int .i64 0)) := ((keep_set _ _ 0 _).trans (keep_set _ _ 1 _) (fun _ _ h => h)).trans (keep_set _ _ 2 _) (fun _ _ h => h)
  have HP : Hid (Below w.heap.size w _) := Lib.hid (HB.out.trans (hk.below (fun j (e : j = w.heap.size) => by omega) HB.out.size))
  have e0 := (blk_cells hb 0).trans (show _ = some (.int .i64 0) from rfl)
  have e1 := (blk_cells hb 1).trans (show _ = some (.int .i64 0) from rfl)
  have e2 := (blk_cells hb 2).trans (show _ = some (.int .i64 0) from rfl)
  clear hb hk n0 n1 n2 f0 f1 f2
  generalize (((w'.setCell ⟨w.heap.size, 0, none⟩ (.int .i64 0)).setCell ⟨w.heap.size, 1, none⟩ (.int .i64 0)).setCell ⟨w.heap.size, 2, none⟩ (.int .i64 0)) = w9 at e0 e1 e2 HP ⊢
  refine bodyPost_ret (by simp [results, Tryz.results15, go_sem, e0, e1, e2]; try rfl) rfl ?_
  exact ⟨rfl, HP.out⟩
theorem seat_nil (n : Int) (w : World) : Calls Tryz.prog 26 #[.pointer none, .int .i64 n] w fun e w' => e = .returned (.tuple #[.agg #[.int .i64 0, .int .i64 0, .slice none 0 0], .int .i64 1]) ∧ Below w.heap.size w w' := by
  obtain ⟨w0, hw0⟩ : ∃ w0, w0 = w.alloc (.cells #[.int .i64 0, .int .i64 0, .slice none 0 0] 62) := ⟨_, rfl⟩
  have hb0 : Below w.heap.size w w0 := by rw [hw0]; exact (Below.refl _ w).alloc (Nat.le_refl _) _
  have hn := blk_new w (.cells #[.int .i64 0, .int .i64 0, .slice none 0 0] 62)
  rw [← hw0] at hn
  have n0 := (blk_cells hn 0).trans (show _ = some (.int .i64 0) from rfl)
  have n1 := (blk_cells hn 1).trans (show _ = some (.int .i64 0) from rfl)
  have n2 := (blk_cells hn 2).trans (show _ = some (.slice none 0 0) from rfl)
  have f0 := blk_frees hn 0
  have f1 := blk_frees hn 1
  have f2 := blk_frees hn 2
  have HN := Lib.hid hn
  have HB := Lib.hid hb0
  have HW := Lib.hid hw0
  clear hn hb0 hw0
  go_enter Tryz.func26, Tryz.ntmps26
  go_wp2_with fail
  rw [← HW.out]
  refine (live_nil _).mono ?_
  rintro r w' ⟨rfl, rfl⟩
  go_wp2
  have hb := blk_set (blk_set (blk_set HN.out (.int .i64 0) (j := 0)) (.int .i64 0) (j := 1)) (.slice none 0 0) (j := 2)
  have hk : Keep (fun j => j = w.heap.size) w' (((w'.setCell ⟨w.heap.size, 0, none⟩ (.int .i64 0)).setCell ⟨w.heap.size, 1, none⟩ (.int .i64 0)).setCell ⟨w.heap.size, 2, none⟩ (.slice none 0 0)) := ((keep_set _ _ 0 _).trans (keep_set _ _ 1 _) (fun _ _ h => h)).trans (keep_set _ _ 2 _) (fun _ _ h => h)
  have HP : Hid (Below w.heap.size w _) := Lib.hid (HB.out.trans (hk.below (fun j (e : j = w.heap.size) => by omega) HB.out.size))
  have e0 := (blk_cells hb 0).trans (show _ = some (.int .i64 0) from rfl)
  have e1 := (blk_cells hb 1).trans (show _ = some (.int .i64 0) from rfl)
  have e2 := (blk_cells hb 2).trans (show _ = some (.slice none 0 0) from rfl)
  clear hb hk n0 n1 n2 f0 f1 f2
  generalize (((w'.setCell ⟨w.heap.size, 0, none⟩ (.int .i64 0)).setCell ⟨w.heap.size, 1, none⟩ (.int .i64 0)).setCell ⟨w.heap.size, 2, none⟩ (.slice none 0 0)) = w9 at e0 e1 e2 HP ⊢
  refine bodyPost_ret (by simp [results, Tryz.results26, go_sem, e0, e1, e2]; try rfl) rfl ?_
  exact ⟨rfl, HP.out⟩
set_option maxRecDepth 100000 in
set_option maxHeartbeats 1000000 in
theorem node_nil (n : Int) (w : World) : Calls Tryz.prog 16 #[.pointer none, .int .i64 n] w fun e w' => e = .returned (.tuple #[.agg #[.int .i64 0, .int .i64 0, .int .i64 0, .int .i64 0, .int .i64 0, .int .i64 0, .int .i64 0, .int .i64 0, .int .i64 0, .int .i64 0, .int .i64 0], .int .i64 1]) ∧ Below w.heap.size w w' := by
  obtain ⟨w0, hw0⟩ : ∃ w0, w0 = w.alloc (.cells #[.int .i64 0, .int .i64 0, .int .i64 0, .int .i64 0, .int .i64 0, .int .i64 0, .int .i64 0, .int .i64 0, .int .i64 0, .int .i64 0, .int .i64 0] 42) := ⟨_, rfl⟩
  have hb0 : Below w.heap.size w w0 := by rw [hw0]; exact (Below.refl _ w).alloc (Nat.le_refl _) _
  have hn := blk_new w (.cells #[.int .i64 0, .int .i64 0, .int .i64 0, .int .i64 0, .int .i64 0, .int .i64 0, .int .i64 0, .int .i64 0, .int .i64 0, .int .i64 0, .int .i64 0] 42)
  rw [← hw0] at hn
  have rx := blk_cells hn
  have rf := blk_frees hn
  have HN := Lib.hid hn
  have HB := Lib.hid hb0
  have HW := Lib.hid hw0
  clear hn hb0 hw0
  go_enter Tryz.func16, Tryz.ntmps16
  go_wp2_with fail
  rw [← HW.out]
  refine (live_nil _).mono ?_
  rintro r w' ⟨rfl, rfl⟩
  go_wp2
  have e11 := set11 HN.out (.int .i64 0) (.int .i64 0) (.int .i64 0) (.int .i64 0) (.int .i64 0) (.int .i64 0) (.int .i64 0) (.int .i64 0) (.int .i64 0) (.int .i64 0) (.int .i64 0)
  have ke := setL_keep (k := w.heap.size) [.int .i64 0, .int .i64 0, .int .i64 0, .int .i64 0, .int .i64 0, .int .i64 0, .int .i64 0, .int .i64 0, .int .i64 0, .int .i64 0, .int .i64 0] 0 w'
  have hf := HB.out.trans (ke.below (B := w.heap.size) (fun i e => by omega) HB.out.size)
  clear ke
  generalize hWf : setL w' w.heap.size 0 [.int .i64 0, .int .i64 0, .int .i64 0, .int .i64 0, .int .i64 0, .int .i64 0, .int .i64 0, .int .i64 0, .int .i64 0, .int .i64 0, .int .i64 0] = Wf at e11 hf
  simp only [setL, Nat.zero_add, Nat.reduceAdd] at hWf
  rw [hWf]
  clear hWf
  have HF := Lib.hid hf
  have q0' := (blk_cells e11 0).trans rfl
  have q1' := (blk_cells e11 1).trans rfl
  have q2' := (blk_cells e11 2).trans rfl
  have q3' := (blk_cells e11 3).trans rfl
  have q4' := (blk_cells e11 4).trans rfl
  have q5' := (blk_cells e11 5).trans rfl
  have q6' := (blk_cells e11 6).trans rfl
  have q7' := (blk_cells e11 7).trans rfl
  have q8' := (blk_cells e11 8).trans rfl
  have q9' := (blk_cells e11 9).trans rfl
  have q10' := (blk_cells e11 10).trans rfl
  clear hf e11 rx rf
  refine bodyPost_ret (by simp [results, Tryz.results16, go_sem, q0', q1', q2', q3', q4', q5', q6', q7', q8', q9', q10']; try rfl) rfl ?_
  exact ⟨rfl, HF.out⟩
end Go.Proofs.YtgedcnnbeangcaaGreat
/- Package drive: Put where the power goes at once; a drive without power. -/
set_option linter.unusedSimpArgs false
set_option linter.unusedVariables false
namespace Go.Proofs.YtgedcnnbeangcaaGreat
open Go.RowKit

attribute [local go_sem ↓] Go.wp_at_zero Go.wp_at_succ
def deadS (s : DrS) : DrS := ⟨s.sure, s.list, s.fuse, true⟩
set_option maxRecDepth 100000 in
set_option maxHeartbeats 4000000 in
theorem dput0_walk (B k : Nat) (s : DrS) (X : Option Addr) (cx : Nat) (es : List WE) (A : Option Addr) (c lc : Nat) (w : World) (h : DR B k s w A c none lc) (ho : s.ok) (hl : s.list = []) (hf : s.fuse = 0) (hd : s.dead = false) (hw : WR w X cx es) (hn : es.length ≤ 1000) (hp : 0 < es.length) (h1 : ∀ e ∈ es, e.at_ < s.sure.length ∧ e.d.length = 128) :
    Calls Tryz.prog 21 #[.pointer (some ⟨k, 0, none⟩), .slice X es.length cx] w fun r w' => r = .returned (.int .i64 11) ∧ DR B k (deadS s) w' A c none lc ∧ Keep (fun j => j = k ∨ w.heap.size ≤ j) w w' := by
  have hkw := blk_lt h.blk
  obtain ⟨w0, hw0⟩ : ∃ w0, w0 = w.alloc (.cells #[.pointer (some ⟨k, 0, none⟩)] 23) := ⟨_, rfl⟩
  have hp0 := blk_new w (.cells #[.pointer (some ⟨k, 0, none⟩)] 23)
  have hb0 := (Below.refl w.heap.size w).alloc (Nat.le_refl _) (.cells #[.pointer (some ⟨k, 0, none⟩)] 23)
  rw [← hw0] at hp0 hb0
  have h0 := h.below hb0
  have hw0r := hw.below hb0
  have HP0 := Lib.hid hp0
  have HB0 := Lib.hid hb0
  have H0 := Lib.hid h0
  have HWR := Lib.hid hw0r
  have HRD := Lib.hid (fun W (hW : Below w0.heap.size w0 W) => (ready_walk B k s W A c none lc (h0.below hW)).mono (fun e w' q => (show e = .returned (.int .i64 0) ∧ w' = W from by rw [hd] at q; exact q)))
  have HC1 := Lib.hid (p1_cf X cx es w.heap.size w0 hw0r (by omega) (fun e he W hW => put1_walk w.heap.size k e.at_ e.A e.d.length e.c B s A c none lc W ((Keep.of_below (S := fun _ => False) hW).cell (show w0.cell? ⟨w.heap.size, 0, none⟩ = _ from (blk_cells hp0 0).trans rfl) id) (h0.below hW) (h1 e he).1 ho))
  have HC2 := Lib.hid (fun W (hW : Below w0.heap.size w0 W) => p2_cf X cx es W (hw0r.below hW) (by omega) (fun e he W' hW' => by rw [(h1 e he).2]; exact put2_walk e.at_ e.A e.c W'))
  have HW0 := Lib.hid hw0
  have HBN := Lib.hid (fun W (hW : Below w0.heap.size w0 W) => (burn_walk B k s W A c none lc (h0.below hW) (by omega) (by omega)).mono (fun e w' q => (show e = .returned (.bool false) ∧ DR B k (deadS s) w' A c none lc ∧ Keep (fun j => j = k) W w' from by
    have e1 : burnS s = (deadS s, false) := if_pos hf
    rw [e1] at q
    exact q)))
  obtain ⟨x, hx⟩ : ∃ x, es[0]? = some x := ⟨es[0], List.getElem?_eq_getElem hp⟩
  have HXX : Hid (∀ W, Below w0.heap.size w0 W → ∃ b o, X = some ⟨b, o, none⟩ ∧ W.cell? ⟨b, o, none⟩ = some (.int .i64 (x.at_ : Int)) ∧ W.cell? ⟨b, o + 1, none⟩ = some (.slice x.A x.d.length x.c)) := Lib.hid (fun W hW => by
    obtain ⟨b, o, e, e1, e2⟩ := (hw0r.below hW).at hx
    exact ⟨b, o, e, by simpa using e1, by simpa using e2⟩)
  have HKW := Lib.hid hkw
  have gp : (0 : Int) < (es.length : Int) := by omega
  have cp0 := blk_cells hp0
  clear h ho hl hf hd hw h1 hw0 hp0 hb0 h0 hw0r hkw hx hp
  go_enter Tryz.func21, Tryz.ntmps21
  go_upto_region 1 with fail
  rw [← HW0.out]
  go_wp2_with fail
  refine (HRD.out _ (Below.refl _ _)).mono ?_
  rintro r w' ⟨rfl, hw'⟩
  subst hw'
  go_wp2_with fail
  refine HC1.out.mono ?_
  rintro r wa ⟨rfl, ha⟩
  have HA := Lib.hid ha
  clear ha cp0
  go_wp2_with fail
  refine (HC2.out _ HA.out).mono ?_
  rintro r wb ⟨rfl, hb⟩
  have hb' := HA.out.trans (hb.mono HA.out.size)
  have hp : wb.heap[w.heap.size]? = _ := (Keep.of_below (S := fun _ => False) hb').blk HP0.out id
  have HPB := Lib.hid hp
  have HB := Lib.hid hb'
  obtain ⟨b, o, rfl, c0, c1⟩ := HXX.out wb hb'
  clear hb hb' hp
  go_wp2_with fail
  go_loopw [20] (fun v20 wr => v20 = .int .i64 0 ∧ wr = wb) (fun v _ => 0)
  case atStart => exact ⟨rfl, rfl⟩
  case round =>
    obtain ⟨rfl, rfl⟩ := hrel
    have cpb := blk_cells HPB.out
    obtain ⟨w1, hw1⟩ : ∃ w1, w1 = wr.alloc (.cells #[.int .i64 (x.at_ : Int), .slice x.A x.d.length x.c] 55) := ⟨_, rfl⟩
    have hb1 : Below wr.heap.size wr w1 := by rw [hw1]; exact (Below.refl _ wr).alloc (Nat.le_refl _) _
    have hB1 := HB.out.trans (hb1.mono HB.out.size)
    have HBN1 := Lib.hid (HBN.out w1 hB1)
    have cp1 := (Keep.of_below (S := fun _ => False) hb1).cell (show wr.cell? ⟨w.heap.size, 0, none⟩ = some (.pointer (some ⟨k, 0, none⟩)) from (cpb 0).trans rfl) id
    have HB1 := Lib.hid hB1
    have HW1 := Lib.hid hw1
    have cp1a := cp1
    rw [hw1] at cp1a
    clear hb1 hB1 hw1
    go_wp2_with fail
    rw [← HW1.out]
    refine HBN1.out.mono ?_
    rintro r w2 ⟨rfl, hd2, hk2⟩
    have HD2 := Lib.hid hd2
    have HK2 : Hid (Keep (fun j => j = k ∨ w.heap.size ≤ j) w w2) := Lib.hid ((Keep.of_below (S := fun j => j = k ∨ w.heap.size ≤ j) (HB0.out.trans (HB1.out.mono HB0.out.size))).trans hk2 (fun j _ h => .inl h))
    clear hd2 hk2
    go_wp2
    go_ret
    exact ⟨rfl, HD2.out, HK2.out⟩
theorem dget_dead (B k : Nat) (s : DrS) (w : World) (A : Option Addr) (c : Nat) (L : Option Addr) (lc : Nat) (h : DR B k s w A c L lc) (hd : s.dead = true) (n : Int) :
    Calls Tryz.prog 20 #[.pointer (some ⟨k, 0, none⟩), .int .i64 n] w fun r w' => r = .returned (.tuple #[.slice none 0 0, .int .i64 11]) ∧ Below w.heap.size w w' := by
  have HR := Lib.hid (ready_walk B k s _ A c L lc (h.below ((Below.refl _ w).alloc (Nat.le_refl _) (.cells #[.int .i64 n] 3))))
  rw [hd] at HR
  clear h hd
  go_enter Tryz.func20, Tryz.ntmps20
  go_wp2_with fail
  refine HR.out.mono ?_
  rintro r w' ⟨rfl, rfl⟩
  go_wp2
  go_ret2
  exact ⟨rfl, (Below.refl _ w).alloc (Nat.le_refl _) _⟩
theorem recover_dead (B k : Nat) (s : DrS) (w : World) (A : Option Addr) (c : Nat) (L : Option Addr) (lc : Nat) (h : DR B k s w A c L lc) (hd : s.dead = true) :
    Calls Tryz.prog 40 #[.pointer (some ⟨k, 0, none⟩)] w fun r w' => r = .returned (.int .i64 11) ∧ Below w.heap.size w w' := by
  have HG := Lib.hid (dget_dead B k s w A c L lc h hd 1)
  clear h hd
  have HW : Hid (Calls Tryz.prog 68 #[.pointer (some ⟨k, 0, none⟩)] w fun r w' => r = .returned (.tuple #[.slice none 0 0, .int .i64 11]) ∧ Below w.heap.size w w') := Lib.hid (by
    go_enter Tryz.func68, Tryz.ntmps68
    go_wp2_with fail
    refine HG.out.mono ?_
    rintro r w' ⟨rfl, hb⟩
    have HB := Lib.hid hb
    clear hb
    go_wp2
    go_ret2
    exact ⟨rfl, HB.out⟩)
  go_enter Tryz.func40, Tryz.ntmps40
  go_wp2_with fail
  refine HW.out.mono ?_
  rintro r w' ⟨rfl, hb⟩
  have HB := Lib.hid hb
  clear hb
  go_wp2
  go_ret
  exact ⟨rfl, HB.out⟩
theorem mount_dead (B k : Nat) (s : DrS) (w : World) (A : Option Addr) (c : Nat) (L : Option Addr) (lc : Nat) (h : DR B k s w A c L lc) (hd : s.dead = true) :
    Calls Tryz.prog 14 #[.pointer (some ⟨k, 0, none⟩)] w fun r w' => r = .returned (.tuple #[.pointer none, .int .i64 11]) ∧ Below w.heap.size w w' := by
  have HG := Lib.hid (recover_dead B k s w A c L lc h hd)
  clear h hd
  go_enter Tryz.func14, Tryz.ntmps14
  go_wp2_with fail
  refine HG.out.mono ?_
  rintro r w' ⟨rfl, hb⟩
  have HB := Lib.hid hb
  clear hb
  go_wp2
  go_ret2
  exact ⟨rfl, HB.out⟩
set_option maxHeartbeats 1000000 in
theorem make0_walk (B k : Nat) (s : DrS) (w : World) (A : Option Addr) (c lc : Nat) (h : DR B k s w A c none lc) (ho : s.ok) (hl : s.list = []) (hf : s.fuse = 0) (hd : s.dead = false) (h64 : 64 ≤ s.sure.length) :
    Calls Tryz.prog 19 #[.pointer (some ⟨k, 0, none⟩)] w fun r w' => r = .returned (.int .i64 11) ∧ DR B k (deadS s) w' A c none lc ∧ Keep (fun j => j = k ∨ w.heap.size ≤ j) w w' := by
  have HSE := Lib.hid (sectors_walk B k s w _ c none lc h)
  have HB := Lib.hid (blank_walk s.sure.length h64 ho.len w)
  obtain ⟨m, hm⟩ : ∃ m, m = s.sure.length := ⟨_, rfl⟩
  have hHB : ∃ M, MkM M ∧ Calls Tryz.prog 46 #[.int .i64 (m : Int)] w fun r w' => ∃ v, r = .returned v ∧ BkL w (blankM M m) v w' := ⟨mkB 43, mkB_ok, by rw [hm]; exact HB.out⟩
  clear HB
  obtain ⟨M, hM, hHB⟩ := hHB
  have HB := Lib.hid hHB
  have HMM := Lib.hid hM
  rw [← hm] at HSE
  have HPU : Hid (∀ W es X cx, Below w.heap.size w W → WR W X cx es → esW es = blankM M m → Calls Tryz.prog 21 #[.pointer (some ⟨k, 0, none⟩), .slice X es.length cx] W fun r w' => r = .returned (.int .i64 11) ∧ DR B k (deadS s) w' A c none lc ∧ Keep (fun j => j = k ∨ w.heap.size ≤ j) w w') := Lib.hid (fun W es X cx hW hwr hL => by
    have hlen : es.length = 19 := by
      have := congrArg List.length hL
      rw [blankM_len] at this
      unfold esW at this
      rw [List.length_map] at this
      exact this
    refine (dput0_walk B k s X cx es A c lc W (h.below hW) ho hl hf hd hwr (by omega) (by omega) (fun e he => ?_)).mono (fun e w' q => ⟨q.1, q.2.1, (Keep.of_below (S := fun j => j = k ∨ w.heap.size ≤ j) hW).trans q.2.2 (fun j _ h => h.imp id (fun h => Nat.le_trans hW.size h))⟩)
    have : (e.at_, e.d) ∈ blankM M m := by rw [← hL]; exact List.mem_map.2 ⟨e, he, rfl⟩
    have := blankM_mem HMM.out.len this
    exact ⟨by have h43 : e.at_ < 43 := this.1; omega, this.2⟩)
  clear h ho hl hf hd h64 hm hM hHB
  go_enter Tryz.func19, Tryz.ntmps19
  go_wp2_with fail
  refine HSE.out.mono ?_
  rintro r' w' ⟨rfl, rfl⟩
  go_wp2_with fail
  refine HB.out.mono ?_
  rintro r' w1 ⟨v, rfl, es, A', cx, hL, rfl, hnr, hall, hb⟩
  have HP1 := Lib.hid (HPU.out w1 es A' cx hb ⟨Sl.of_own hnr.own, fun e he => (hall e he).sl⟩ hL)
  clear hL hnr hall hb
  go_wp2_with fail
  refine HP1.out.mono ?_
  rintro r' w3 ⟨rfl, hd3, hk3⟩
  have HD3 := Lib.hid hd3
  have HK3 := Lib.hid hk3
  clear hd3 hk3
  go_wp2
  go_ret
  exact ⟨rfl, HD3.out, HK3.out⟩
end Go.Proofs.YtgedcnnbeangcaaGreat
/- The walk of StoreNone. -/
set_option linter.unusedSimpArgs false
set_option linter.unusedVariables false
namespace Go.Proofs.YtgedcnnbeangcaaGreat
open Go.RowKit

attribute [local go_sem ↓] Go.wp_at_zero Go.wp_at_succ
set_option maxRecDepth 100000 in
set_option maxHeartbeats 4000000 in
theorem snone_walk (n : Int) (v : Value) (a0 a1 a2 a3 a4 a5 a6 a7 a8 a9 a10 b0 b1 : Int) (bA : Option Addr) (bl bc : Nat) (w : World) :
    Calls Tryz.prog 6 #[.int .i64 n, v, .agg #[.int .i64 a0, .int .i64 a1, .int .i64 a2, .int .i64 a3, .int .i64 a4, .int .i64 a5, .int .i64 a6, .int .i64 a7, .int .i64 a8, .int .i64 a9, .int .i64 a10], .agg #[.int .i64 b0, .int .i64 b1, .slice bA bl bc]] w fun e w' => e = .returned (.bool true) ∧ Below w.heap.size w w' := by
  obtain ⟨W, hW⟩ : ∃ W, W = (w.alloc (.cells #[.int .i64 a0, .int .i64 a1, .int .i64 a2, .int .i64 a3, .int .i64 a4, .int .i64 a5, .int .i64 a6, .int .i64 a7, .int .i64 a8, .int .i64 a9, .int .i64 a10] 42)).alloc (.cells #[.int .i64 b0, .int .i64 b1, .slice bA bl bc] 62) := ⟨_, rfl⟩
  have hb : Below w.heap.size w W := by rw [hW]; exact ((Below.refl _ w).alloc (Nat.le_refl _) _).alloc (by simp) _
  have hx : W.heap[w.heap.size]? = some (.cells #[.int .i64 a0, .int .i64 a1, .int .i64 a2, .int .i64 a3, .int .i64 a4, .int .i64 a5, .int .i64 a6, .int .i64 a7, .int .i64 a8, .int .i64 a9, .int .i64 a10] 42 (0, 0)) := by rw [hW]; exact blk_old (blk_new w _) _
  have hy : W.heap[w.heap.size + 1]? = some (.cells #[.int .i64 b0, .int .i64 b1, .slice bA bl bc] 62 (0, 0)) := by
    rw [hW]
    have := blk_new (w.alloc (.cells #[.int .i64 a0, .int .i64 a1, .int .i64 a2, .int .i64 a3, .int .i64 a4, .int .i64 a5, .int .i64 a6, .int .i64 a7, .int .i64 a8, .int .i64 a9, .int .i64 a10] 42)) (.cells #[.int .i64 b0, .int .i64 b1, .slice bA bl bc] 62)
    rw [World.size_alloc] at this
    exact this
  have HW := Lib.hid hW
  have HB := Lib.hid hb
  have HX := Lib.hid hx
  have HY := Lib.hid hy
  clear hW hb hx hy
  go_enter Tryz.func6, Tryz.ntmps6
  go_upto_region 2 with fail
  rw [← HW.out]
  go_wp2_with fail
  refine (drop_nil W).mono ?_
  rintro r' w' ⟨rfl, rfl⟩
  go_wp2_with fail
  refine (get_nil n w').mono ?_
  rintro r' w'' ⟨rfl, rfl⟩
  go_wp2_with fail
  refine (node_nil n w'').mono ?_
  rintro r' w1 ⟨rfl, hb1⟩
  have HB1 := Lib.hid hb1
  clear hb1
  go_upto_region 5 with fail
  obtain ⟨w2, hw2⟩ : ∃ w2, w2 = w1.alloc (.cells #[.int .i64 0, .int .i64 0, .int .i64 0, .int .i64 0, .int .i64 0, .int .i64 0, .int .i64 0, .int .i64 0, .int .i64 0, .int .i64 0, .int .i64 0] 42) := ⟨_, rfl⟩
  rw [← hw2]
  have HB2 : Hid (Below w''.heap.size w'' w2) := Lib.hid (by rw [hw2]; exact HB1.out.alloc HB1.out.size _)
  clear hw2
  go_wp2_with fail
  refine (new_nil n w2).mono ?_
  rintro r' w3 ⟨rfl, hw3⟩
  subst hw3
  go_wp2_with fail
  refine (seat_nil n w3).mono ?_
  rintro r' w4 ⟨rfl, hb4⟩
  have HB4 := Lib.hid (bstep HB2.out hb4)
  clear hb4
  go_upto_region 7 with fail
  obtain ⟨w5, hw5⟩ : ∃ w5, w5 = w4.alloc (.cells #[.int .i64 0, .int .i64 0, .slice none 0 0] 62) := ⟨_, rfl⟩
  rw [← hw5]
  have HB5 : Hid (Below w''.heap.size w'' w5) := Lib.hid (by rw [hw5]; exact HB4.out.alloc HB4.out.size _)
  clear hw5
  go_wp2_with fail
  refine (take_nil w5).mono ?_
  rintro r' w6 ⟨rfl, hw6⟩
  subst hw6
  go_wp2_with fail
  refine (mount_nil w6).mono ?_
  rintro r' w7 ⟨rfl, hw7⟩
  subst hw7
  have HNEW : Hid (Calls Tryz.prog 18 #[.int .i64 70] w7 fun e w' => ∃ k A, e = .returned (.tuple #[.pointer (some ⟨k, 0, none⟩), .int .i64 0]) ∧ DR w7.heap.size k (newS 70) w' A 70 none 0 ∧ Below w7.heap.size w7 w') := Lib.hid (dnew_walk 70 (by decide) (by decide) w7)
  go_wp2_with fail
  refine HNEW.out.mono ?_
  rintro r' w8 ⟨k, A, rfl, hd8, hb8⟩
  have HFU := Lib.hid (fuse_walk _ _ _ w8 _ _ _ _ hd8 0)
  have HB8 := Lib.hid (bstep HB5.out hb8)
  have HK8 : Hid (w''.heap.size ≤ k) := Lib.hid (Nat.le_trans HB5.out.size hd8.newk)
  clear hd8 hb8
  go_wp2_with fail
  refine HFU.out.mono ?_
  rintro r' w9 ⟨rfl, hd9, hk9⟩
  have HB9 := Lib.hid (HB8.out.trans (hk9.below (fun j hj => by have := HK8.out; have : j = k := hj; omega) HB8.out.size))
  have ho9 : (⟨(newS 70).sure, (newS 70).list, max 0 (-1), (newS 70).dead⟩ : DrS).ok := ⟨(newS_ok 70 (by decide)).len, (newS_ok 70 (by decide)).each, (newS_ok 70 (by decide)).wait, by show -1 ≤ max (0 : Int) (-1); decide, by show max (0 : Int) (-1) ≤ _; decide⟩
  have HMK := Lib.hid (make0_walk _ _ _ w9 _ _ _ hd9 ho9 rfl rfl rfl (by show 64 ≤ (List.replicate 70 (List.replicate 128 (0 : UInt8))).length; rw [List.length_replicate]; decide))
  clear hd9 hk9 ho9
  go_wp2_with fail
  refine HMK.out.mono ?_
  rintro r' w10 ⟨rfl, hd10, hk10⟩
  have HB10 := Lib.hid (HB9.out.trans (hk10.below (fun j hj => by have := HK8.out; have := HB9.out.size; rcases hj with hj | hj <;> omega) HB9.out.size))
  have HMT := Lib.hid (mount_dead _ _ _ w10 _ _ _ _ hd10 rfl)
  clear hd10 hk10
  go_wp2_with fail
  refine HMT.out.mono ?_
  rintro r' w11 ⟨rfl, hb11⟩
  have HB11 := Lib.hid (bstep HB10.out hb11)
  clear hb11
  go_wp2_with fail
  refine (awake_walk w11).mono ?_
  rintro r' w12 ⟨rfl, hb12⟩
  have hb12' := bstep HB11.out hb12
  have HB12 := Lib.hid hb12'
  have cx := blk_cells ((Keep.of_below (S := fun _ => False) hb12').blk HX.out id)
  clear hb12 hb12'
  go_wp2_with fail
  refine (make_nil w12).mono ?_
  rintro r' w13 ⟨rfl, hw13⟩
  subst hw13
  go_wp2_with fail
  refine (put_nil n v w13).mono ?_
  rintro r' w14 ⟨rfl, hw14⟩
  subst hw14
  go_wp2_with fail
  refine (setnode_nil n a0 a1 a2 a3 a4 a5 a6 a7 a8 a9 a10 w14).mono ?_
  rintro r' w15 ⟨rfl, hb15⟩
  have hb15' := bstep HB12.out hb15
  have HB15 := Lib.hid hb15'
  have cy := blk_cells ((Keep.of_below (S := fun _ => False) hb15').blk HY.out id)
  clear hb15 hb15' cx
  go_wp2_with fail
  refine (setseat_nil n b0 b1 bA bl bc w15).mono ?_
  rintro r' w16 ⟨rfl, hb16⟩
  have HB16 := Lib.hid (bstep HB15.out hb16)
  clear hb16 cy
  go_wp2_with fail
  refine (give_nil n w16).mono ?_
  rintro r' w17 ⟨rfl, hw17⟩
  subst hw17
  go_wp2_with fail
  refine (commit_nil w17).mono ?_
  rintro r' w18 ⟨rfl, hw18⟩
  subst hw18
  go_wp2_with fail
  refine (free_nil w18).mono ?_
  rintro r' w19 ⟨rfl, hw19⟩
  subst hw19
  go_wp2_with fail
  refine (super_nil w19).mono ?_
  rintro r' w20 ⟨rfl, hb20⟩
  have HB20 := Lib.hid (HB.out.trans ((bstep HB16.out hb20).mono HB.out.size))
  clear hb20
  have heq : ∀ W, (Op.equalIn 10000 38 (.agg #[.int .i64 0, .int .i64 0, .int .i64 0]) (.agg #[.int .i64 0, .int .i64 0, .int .i64 0])).run Tryz.prog W = .ok true W := fun _ => by kernel_rfl
  go_wp2
  go_ret
  exact ⟨rfl, HB20.out⟩
end Go.Proofs.YtgedcnnbeangcaaGreat
/- What an argument that can be read looks like, type by type: numbers, texts, bytes, structs, slices. No program in sight. -/
set_option linter.unusedSimpArgs false
set_option linter.unusedVariables false
namespace Go.Proofs.YtgedcnnbeangcaaGreat
open Go.RowKit Go.ChangeShapes Go.WideShapes Go.ChangeAt

/-- The cells cs can be read as a value of type t, and nothing in it is greater than a machine's memory. -/
def Opens (P : Program) (w : World) (t : TypeId) (cs : List Value) : Prop :=
  ∃ (H : Type) (enc : TypeId × Value → H) (fuel : Nat) (x : DataW H × List MemPlace), DataW.trod enc P w 0 (fun _ => true) true fuel t cs = some x ∧ ∀ n ∈ x.1.weights P t, n ≤ 140737488351232

theorem Opens.int {P : Program} {w : World} {t : TypeId} {cs : List Value} {k : IntKind} (ht : P.underlying t = some (.int k)) (h : Opens P w t cs) : ∃ n, cs = [.int k n] ∧ (Lit.int k n).wf = true := by
  obtain ⟨H, enc, fuel, x, hf, _⟩ := h
  obtain ⟨n, rfl, _, hw⟩ := DataW.trod_int ht hf
  exact ⟨n, rfl, hw⟩
theorem Opens.bool {P : Program} {w : World} {t : TypeId} {cs : List Value} (ht : P.underlying t = some .bool) (h : Opens P w t cs) : ∃ b, cs = [.bool b] := by
  obtain ⟨H, enc, fuel, x, hf, _⟩ := h
  obtain ⟨b, rfl, _⟩ := DataW.trod_bool ht hf
  exact ⟨b, rfl⟩
theorem Opens.string {P : Program} {w : World} {t : TypeId} {cs : List Value} (ht : P.underlying t = some .string) (h : Opens P w t cs) : ∃ s : ByteArray, cs = [.string s] ∧ s.size ≤ 140737488351232 := by
  obtain ⟨H, enc, fuel, x, hf, hw⟩ := h
  obtain ⟨s, rfl, rfl, _⟩ := DataW.trod_string ht hf
  refine ⟨s, rfl, ?_⟩
  have := hw s.data.toList.length (by simp [DataW.weights])
  rw [Array.length_toList] at this
  exact this

theorem weightsEach_mem {H : Type} {P : Program} : ∀ (fs : List Field) (xs : List (DataW H)) (i : Nat) (f : Field) (d : DataW H), fs[i]? = some f → xs[i]? = some d → ∀ n ∈ d.weights P f.type, n ∈ DataW.weightsEach P (fs.map (·.type)) xs
  | f0 :: fs, d0 :: xs, 0, f, d, hf, hd, n, hn => by
    simp only [List.getElem?_cons_zero, Option.some.injEq] at hf hd
    subst hf; subst hd
    simp only [List.map_cons, DataW.weightsEach, List.mem_append]
    exact .inl hn
  | f0 :: fs, d0 :: xs, i + 1, f, d, hf, hd, n, hn => by
    simp only [List.getElem?_cons_succ] at hf hd
    simp only [List.map_cons, DataW.weightsEach, List.mem_append]
    exact .inr (weightsEach_mem fs xs i f d hf hd n hn)
  | [], _, _, f, d, hf, _, _, _ => by simp at hf
  | _ :: _, [], _, f, d, _, hd, _, _ => by simp at hd
theorem weightsAll_mem {H : Type} {P : Program} {e : TypeId} : ∀ (xs : List (DataW H)) (d : DataW H), d ∈ xs → ∀ n ∈ d.weights P e, n ∈ DataW.weightsAll P e xs
  | [], d, hd, _, _ => by simp at hd
  | d0 :: xs, d, hd, n, hn => by
    simp only [DataW.weightsAll, List.mem_append]
    rcases List.mem_cons.1 hd with rfl | h
    · exact .inl hn
    · exact .inr (weightsAll_mem xs d h n hn)

theorem Opens.struct {P : Program} {w : World} {t : TypeId} {cs : List Value} {fs : Array Field} (ht : P.underlying t = some (.struct fs)) (h : Opens P w t cs) :
    cs.length = P.cellsOf t ∧ ∀ (i : Nat) (f : Field), fs[i]? = some f → Opens P w f.type ((cs.drop f.offset).take (P.cellsOf f.type)) := by
  obtain ⟨H, enc, fuel, x, hf, hw⟩ := h
  obtain ⟨xs, n, _, rfl, hl, hlen, hfs⟩ := DataW.trod_struct ht hf
  refine ⟨hl, fun i f hi => ?_⟩
  have hif : i < fs.size := (Array.getElem?_eq_some_iff.1 hi).1
  obtain ⟨y, hy⟩ : ∃ y, xs[i]? = some y := ⟨xs[i]'(by omega), List.getElem?_eq_getElem (by omega)⟩
  refine ⟨H, enc, n, y, (hfs i f hi).trans hy, fun m hm => hw m ?_⟩
  simp only [DataW.weights, ht]
  exact weightsEach_mem fs.toList (xs.map (·.1)) i f y.1 (by simpa using hi) (by simp [hy]) m hm

theorem flat_cells {w : World} {ad : Addr} {size : Nat} : ∀ (css : List (List Value)) (base : Nat), (∀ i c, css[i]? = some c → c.length = size ∧ ∀ j, j < size → w.cell? (ad.add (base + i * size + j)) = c[j]?) →
    ∀ k u, css.flatten[k]? = some u → w.cell? (ad.add (base + k)) = some u
  | [], _, _, k, u, hu => by simp at hu
  | c :: css, base, h, k, u, hu => by
    obtain ⟨hl, hc⟩ := h 0 c rfl
    rw [List.flatten_cons, List.getElem?_append] at hu
    split at hu
    · rename_i hk
      have := hc k (by omega)
      rw [show base + 0 * size + k = base + k by omega] at this
      rw [this]; exact hu
    · rename_i hk
      have := flat_cells css (base + size) (fun i c' hi => by
        obtain ⟨h1, h2⟩ := h (i + 1) c' (by simpa using hi)
        refine ⟨h1, fun j hj => ?_⟩
        have := h2 j hj
        rw [show base + (i + 1) * size + j = base + size + i * size + j by rw [Nat.add_mul]; omega] at this
        exact this) (k - c.length) u hu
      rw [show base + size + (k - c.length) = base + k by omega] at this
      exact this

theorem flatten_len {size : Nat} : ∀ (css : List (List Value)), (∀ c ∈ css, c.length = size) → css.flatten.length = css.length * size
  | [], _ => by simp
  | c :: css, h => by
    rw [List.flatten_cons, List.length_append, flatten_len css (fun c hc => h c (by simp [hc])), h c (by simp), List.length_cons, Nat.add_mul]
    omega

/-- A slice that came in: its elements' cells, one list each. -/
theorem Opens.slice {P : Program} {w : World} {t e : TypeId} {cs : List Value} (ht : P.underlying t = some (.slice e)) (h : Opens P w t cs) :
    ∃ (v : Value) (n : Nat) (css : List (List Value)), cs = [v] ∧ css.length = n ∧ Sl w (P.cellsOf e) v n css.flatten ∧ (∀ c ∈ css, c.length = P.cellsOf e ∧ Opens P w e c) ∧ n * P.bytesOf e ≤ 140737488351232 := by
  obtain ⟨H, enc, fuel, x, hf, hw⟩ := h
  rcases DataW.trod_slice ht hf with ⟨rfl, rfl⟩ | ⟨a, len, cap, elems, rest, n, _, rfl, rfl, hb, hl, hm, hlen, hel, _, _⟩
  · exact ⟨_, 0, [], rfl, rfl, ⟨none, 0, rfl, .inl rfl, fun _ => ⟨rfl, rfl⟩, Nat.le_refl _, by simp⟩, by simp, by simp⟩
  · have hone : ∀ i, i < len → ∃ c : List Value, c.length = P.cellsOf e ∧ (∀ j, j < P.cellsOf e → w.cell? (a.add (i * P.cellsOf e + j)) = c[j]?) ∧ Opens P w e c := by
      intro i hi
      obtain ⟨y, hy⟩ : ∃ y, elems[i]? = some y := ⟨elems[i]'(by omega), List.getElem?_eq_getElem (by omega)⟩
      have h1 := (hel i hi).trans hy
      obtain ⟨c, hc, ht'⟩ := Option.bind_eq_some_iff.1 h1
      obtain ⟨_, h2, h3⟩ := World.cells?_some hc
      refine ⟨c, h2, fun j hj => by rw [← Go.Deep.add_add]; exact h3 j hj, H, enc, n, y, ht', fun k hk => hw k ?_⟩
      simp only [DataW.weights, ht]
      refine List.mem_cons_of_mem _ (List.mem_append_left _ ?_)
      exact weightsAll_mem _ y.1 (List.mem_map.2 ⟨y, List.mem_of_getElem? hy, rfl⟩) k hk
    obtain ⟨f, hfc⟩ := Go.Deep.choose_lt (α := List Value) (n := len) (p := fun i c => c.length = P.cellsOf e ∧ (∀ j, j < P.cellsOf e → w.cell? (a.add (i * P.cellsOf e + j)) = c[j]?) ∧ Opens P w e c) hone
    have hget : ∀ i c, ((List.range len).map f)[i]? = some c → i < len ∧ f i = c := by
      intro i c hi
      rw [List.getElem?_map] at hi
      rcases Nat.lt_or_ge i len with h | h
      · simp [h] at hi; exact ⟨h, hi⟩
      · simp [List.getElem?_eq_none (show (List.range len).length ≤ i by simpa using h)] at hi
    have hall : ∀ c ∈ (List.range len).map f, c.length = P.cellsOf e ∧ Opens P w e c := by
      intro c hc
      obtain ⟨i, hi, rfl⟩ := List.mem_map.1 hc
      have := hfc i (List.mem_range.1 hi)
      exact ⟨this.1, this.2.2⟩
    refine ⟨_, len, (List.range len).map f, rfl, by simp, ⟨some a, cap, rfl, .inr ⟨a, rfl, fun k u hu => ?_⟩, (fun e => by simp at e), hl, ?_⟩, hall, ?_⟩
    · have := flat_cells (w := w) (ad := a) (size := P.cellsOf e) ((List.range len).map f) 0 (fun i c hi => by
        obtain ⟨h1, rfl⟩ := hget i c hi
        have := hfc i h1
        exact ⟨this.1, fun j hj => by rw [Nat.zero_add]; exact this.2.1 j hj⟩) k u hu
      simpa using this
    · rw [flatten_len _ (fun c hc => (hall c hc).1)]; simp
    · have := hw ((elems.length + rest.length) * P.bytesOf e) (by simp [DataW.weights, ht])
      refine Nat.le_trans (Nat.mul_le_mul_right _ ?_) this
      omega

theorem map_byte {cs : List (List Value)} (h : ∀ c ∈ cs, ∃ b : UInt8, c = [.int .u8 (b.toNat : Int)]) : ∃ d : List UInt8, cs.flatten = bv d ∧ d.length = cs.length := by
  induction cs with
  | nil => exact ⟨[], rfl, rfl⟩
  | cons c cs ih =>
    obtain ⟨b, rfl⟩ := h c (by simp)
    obtain ⟨d, hd, hl⟩ := ih (fun c hc => h c (by simp [hc]))
    exact ⟨b :: d, by simp [bv] at hd ⊢; exact hd, by simp [hl]⟩
/-- A slice of bytes that came in. -/
theorem Opens.bytes {P : Program} {w : World} {t e : TypeId} {cs : List Value} (ht : P.underlying t = some (.slice e)) (he : P.underlying e = some (.int .u8)) (hc : P.cellsOf e = 1) (hb : P.bytesOf e = 1) (h : Opens P w t cs) :
    ∃ A c d, cs = [.slice A d.length c] ∧ Sl w 1 (.slice A d.length c) d.length (bv d) ∧ d.length ≤ 140737488351232 := by
  obtain ⟨v, n, css, rfl, hn, hs, hall, hr⟩ := h.slice ht
  rw [hc] at hs hall
  rw [hb] at hr
  obtain ⟨d, hd, hl⟩ := map_byte (cs := css) (fun c hcc => by
    obtain ⟨k, rfl, hw⟩ := (hall c hcc).2.int he
    have : 0 ≤ k ∧ k < 256 := by
      simp only [Lit.wf, IntKind.min, IntKind.max, IntKind.signed, IntKind.bits, Bool.and_eq_true, decide_eq_true_eq] at hw
      simp at hw
      omega
    exact ⟨UInt8.ofNat k.toNat, by simp; omega⟩)
  rw [hd] at hs
  have hs' := hs
  obtain ⟨A, c, rfl, _⟩ := hs'
  obtain rfl : n = d.length := by omega
  exact ⟨A, c, d, rfl, hs, by omega⟩
/-- The first argument's reading out of all arguments'. -/
theorem Opens.arg {H : Type} {enc : TypeId × Value → H} {P : Program} {w : World} {t : TypeId} {v : Value} {d : DataW H} {ps : List MemPlace} {ts : List TypeId} {ds : List (DataW H)} (h : DataW.Trod enc P w 0 (fun _ => true) true t v d ps)
    (hall : (DataW.weightsEach P ts ds).all (· ≤ reachBytes) = true) {j : Nat} (h1 : ts[j]? = some t) (h2 : ds[j]? = some d) : Opens P w t v.cells.toList := by
  obtain ⟨fuel, hf⟩ := h
  refine ⟨H, enc, fuel, (d, ps), hf, fun n hn => ?_⟩
  have := List.all_eq_true.1 hall n (DataW.weights_mem_each h1 h2 n hn)
  exact of_decide_eq_true this
end Go.Proofs.YtgedcnnbeangcaaGreat
/- How a node and a seat that came in look. -/
set_option linter.unusedSimpArgs false
set_option linter.unusedVariables false
namespace Go.Proofs.YtgedcnnbeangcaaGreat
open Go.ChangeShapes Go.WideShapes Go.ChangeAt Go.RowKit

theorem Opens.array {P : Program} {w : World} {t e : TypeId} {n : Nat} {cs : List Value} (ht : P.underlying t = some (.array n e)) (h : Opens P w t cs) :
    cs.length = P.cellsOf t ∧ ∀ i, i < n → Opens P w e ((cs.drop (i * P.cellsOf e)).take (P.cellsOf e)) := by
  obtain ⟨H, enc, fuel, x, hf, hw⟩ := h
  obtain ⟨xs, m, _, rfl, hl, hlen, hfs⟩ := DataW.trod_array ht hf
  refine ⟨hl, fun i hi => ?_⟩
  obtain ⟨y, hy⟩ : ∃ y, xs[i]? = some y := ⟨xs[i]'(by omega), List.getElem?_eq_getElem (by omega)⟩
  refine ⟨H, enc, m, y, (hfs i hi).trans hy, fun k hk => hw k ?_⟩
  simp only [DataW.weights, ht]
  exact weightsAll_mem _ y.1 (List.mem_map.2 ⟨y, List.mem_of_getElem? hy, rfl⟩) k hk
theorem list3 {α : Type} {l : List α} (h : l.length = 3) : ∃ a b c, l = [a, b, c] := by
  match l, h with
  | [a, b, c], _ => exact ⟨a, b, c, rfl⟩
theorem list11 {α : Type} {l : List α} (h : l.length = 11) : ∃ a b c d e f g i j k m, l = [a, b, c, d, e, f, g, i, j, k, m] := by
  match l, h with
  | [a, b, c, d, e, f, g, i, j, k, m], _ => exact ⟨a, b, c, d, e, f, g, i, j, k, m, rfl⟩
theorem form_of {cs : Array Value} {l : List Value} (h : cs.toList = l) : cs = l.toArray := by rw [← h]
theorem node_open {w : World} {cs : List Value} (h : Opens Tryz.prog w 42 cs) : ∃ a0 a1 a2 a3 a4 a5 a6 a7 a8 a9 a10 : Int, cs = [.int .i64 a0, .int .i64 a1, .int .i64 a2, .int .i64 a3, .int .i64 a4, .int .i64 a5, .int .i64 a6, .int .i64 a7, .int .i64 a8, .int .i64 a9, .int .i64 a10] := by
  obtain ⟨hl, hf⟩ := h.struct Tryz.underlying42
  have hl2 : cs.length = 11 := hl.trans (by kernel_rfl)
  obtain ⟨a, b, c, d, e, f, g, i, j, k, m, rfl⟩ := list11 hl2
  have c3 : Tryz.prog.cellsOf 3 = 1 := by kernel_rfl
  have c4 : Tryz.prog.cellsOf 40 = 4 := by kernel_rfl
  have h0 : Opens Tryz.prog w 3 (([a, b, c, d, e, f, g, i, j, k, m].drop 0).take (Tryz.prog.cellsOf 3)) := hf 0 _ rfl
  have h1 : Opens Tryz.prog w 3 (([a, b, c, d, e, f, g, i, j, k, m].drop 1).take (Tryz.prog.cellsOf 3)) := hf 1 _ rfl
  have h2 : Opens Tryz.prog w 3 (([a, b, c, d, e, f, g, i, j, k, m].drop 2).take (Tryz.prog.cellsOf 3)) := hf 2 _ rfl
  have h3 : Opens Tryz.prog w 3 (([a, b, c, d, e, f, g, i, j, k, m].drop 3).take (Tryz.prog.cellsOf 3)) := hf 3 _ rfl
  have h4 : Opens Tryz.prog w 3 (([a, b, c, d, e, f, g, i, j, k, m].drop 4).take (Tryz.prog.cellsOf 3)) := hf 4 _ rfl
  have h5 : Opens Tryz.prog w 40 (([a, b, c, d, e, f, g, i, j, k, m].drop 5).take (Tryz.prog.cellsOf 40)) := hf 5 _ rfl
  have h6 : Opens Tryz.prog w 3 (([a, b, c, d, e, f, g, i, j, k, m].drop 9).take (Tryz.prog.cellsOf 3)) := hf 6 _ rfl
  have h7 : Opens Tryz.prog w 3 (([a, b, c, d, e, f, g, i, j, k, m].drop 10).take (Tryz.prog.cellsOf 3)) := hf 7 _ rfl
  simp only [c3, c4] at h0 h1 h2 h3 h4 h5 h6 h7
  obtain ⟨_, ha⟩ := h5.array Tryz.underlying40
  have g0 := ha 0 (by decide)
  have g1 := ha 1 (by decide)
  have g2 := ha 2 (by decide)
  have g3 := ha 3 (by decide)
  simp only [c3] at g0 g1 g2 g3
  obtain ⟨x0, e0, _⟩ := h0.int Tryz.underlying3
  obtain ⟨x1, e1, _⟩ := h1.int Tryz.underlying3
  obtain ⟨x2, e2, _⟩ := h2.int Tryz.underlying3
  obtain ⟨x3, e3, _⟩ := h3.int Tryz.underlying3
  obtain ⟨x4, e4, _⟩ := h4.int Tryz.underlying3
  obtain ⟨x5, e5, _⟩ := g0.int Tryz.underlying3
  obtain ⟨x6, e6, _⟩ := g1.int Tryz.underlying3
  obtain ⟨x7, e7, _⟩ := g2.int Tryz.underlying3
  obtain ⟨x8, e8, _⟩ := g3.int Tryz.underlying3
  obtain ⟨x9, e9, _⟩ := h6.int Tryz.underlying3
  obtain ⟨x10, e10, _⟩ := h7.int Tryz.underlying3
  simp at e0 e1 e2 e3 e4 e5 e6 e7 e8 e9 e10
  subst e0 e1 e2 e3 e4 e5 e6 e7 e8 e9 e10
  exact ⟨_, _, _, _, _, _, _, _, _, _, _, rfl⟩
theorem node_form {w : World} (cs : Array Value) (h : Opens Tryz.prog w 42 (Value.agg cs).cells.toList) : ∃ a0 a1 a2 a3 a4 a5 a6 a7 a8 a9 a10 : Int, cs = #[.int .i64 a0, .int .i64 a1, .int .i64 a2, .int .i64 a3, .int .i64 a4, .int .i64 a5, .int .i64 a6, .int .i64 a7, .int .i64 a8, .int .i64 a9, .int .i64 a10] := by
  obtain ⟨a0, a1, a2, a3, a4, a5, a6, a7, a8, a9, a10, hl⟩ := node_open h
  exact ⟨a0, a1, a2, a3, a4, a5, a6, a7, a8, a9, a10, form_of hl⟩
theorem seat_open {w : World} {cs : List Value} (h : Opens Tryz.prog w 62 cs) : ∃ (f t : Int) (A : Option Addr) (c : Nat) (d : List UInt8), cs = [.int .i64 f, .int .i64 t, .slice A d.length c] ∧ Sl w 1 (.slice A d.length c) d.length (bv d) ∧ d.length ≤ 140737488351232 := by
  obtain ⟨hl, hf⟩ := h.struct Tryz.underlying62
  have hl3 : cs.length = 3 := hl.trans (by kernel_rfl)
  obtain ⟨a, b, c, rfl⟩ := list3 hl3
  have c3 : Tryz.prog.cellsOf 3 = 1 := by kernel_rfl
  have c26 : Tryz.prog.cellsOf 45 = 1 := by kernel_rfl
  have h0 : Opens Tryz.prog w 3 (([a, b, c].drop 0).take (Tryz.prog.cellsOf 3)) := hf 0 _ rfl
  have h1 : Opens Tryz.prog w 3 (([a, b, c].drop 1).take (Tryz.prog.cellsOf 3)) := hf 1 _ rfl
  have h2 : Opens Tryz.prog w 45 (([a, b, c].drop 2).take (Tryz.prog.cellsOf 45)) := hf 2 _ rfl
  simp only [c3, c26] at h0 h1 h2
  obtain ⟨f, e0, _⟩ := h0.int Tryz.underlying3
  obtain ⟨t, e1, _⟩ := h1.int Tryz.underlying3
  obtain ⟨A, cp, d, e2, hs, hn⟩ := h2.bytes Tryz.underlying45 Tryz.underlying5 (by kernel_rfl) (by kernel_rfl)
  simp at e0 e1 e2
  subst e0 e1 e2
  exact ⟨f, t, A, cp, d, rfl, hs, hn⟩
theorem seat_form {w : World} (cs : Array Value) (h : Opens Tryz.prog w 62 (Value.agg cs).cells.toList) : ∃ f t a n c, cs = #[.int .i64 f, .int .i64 t, .slice a n c] := by
  obtain ⟨f, t, A, c, d, hl, _⟩ := seat_open h
  exact ⟨f, t, A, d.length, c, form_of hl⟩
end Go.Proofs.YtgedcnnbeangcaaGreat
