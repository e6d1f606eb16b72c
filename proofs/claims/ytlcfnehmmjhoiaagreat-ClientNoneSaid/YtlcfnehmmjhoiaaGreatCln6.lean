/- Package client: advance, where nothing was sent, and where something is on the way. -/
import Derived.Test.YtlcfnehmmjhoiaaGreatCln5
set_option linter.unusedSimpArgs false
set_option linter.unusedVariables false
namespace Go.Proofs.YtlcfnehmmjhoiaaGreat
open Go.RowKit

attribute [local go_sem ↓] Go.wp_at_zero Go.wp_at_succ
def freeM (k : Nat) (W : World) : Nat := match W.cell? ⟨k, 17, none⟩ with
  | some (.pointer none) => 1
  | _ => 0
/-- Something is on the way: nothing is done. -/
theorem advance_busy (k f : Nat) (s l q e : Int) (gr : Bool) (L C R : Value) (p : Int) (O : Value) (n : Int) (w : World) (hk : w.heap[k]? = some (.cells (clC s l q e gr L C R p (.pointer (some ⟨f, 0, none⟩)) O) 56 (0, 0))) :
    Calls Tryz.prog 17 #[.pointer (some ⟨k, 0, none⟩), .int .i64 n] w fun r w' => r = .returned (.tuple #[]) ∧ w' = w := by
  have c17 : w.cell? ⟨k, 17, none⟩ = some (.pointer (some ⟨f, 0, none⟩)) := (blk_cells hk 17).trans rfl
  clear hk
  go_enter Tryz.func17, Tryz.ntmps17
  go_wp2_with fail
  go_loopw [4] (fun v4 wr => wr = w) (fun v4 wr => 0)
  case atStart => rfl
  case round =>
    subst hrel
    go_wp2
    refine bodyPost_end (results_none rfl _ _ _) rfl ?_
    exact ⟨rfl, rfl⟩
def AdR (w : World) (P : World → Prop) (wr : World) : Prop := wr = w ∨ P wr
/-- A client that was not greeted yet says hello. -/
theorem advance_hello (k : Nat) (s l q e : Int) (L C R : Value) (p : Int) (hs : 0 ≤ s ∧ s ≤ 7) (n : Int) (E : List UInt8) (w : World)
    (hk : w.heap[k]? = some (.cells (clC s l q e false L C R p (.pointer none) (.slice none 0 0)) 56 (0, 0)))
    (hE : ∀ W, Calls Tryz.prog 49 #[.agg #[.int .i64 1, .int .i64 s, .int .i64 l, .int .i64 q, .int .i64 e, .string ⟨#[]⟩, .string ⟨#[]⟩, .int .i64 0, .int .i64 0, .int .i64 0, .int .i64 0, .int .i64 0, .slice none 0 0]] W (TextP W.heap.size [] E W)) :
    Calls Tryz.prog 17 #[.pointer (some ⟨k, 0, none⟩), .int .i64 n] w (SnP k s l q e false L C R p 1 ⟨#[]⟩ ⟨#[]⟩ 0 0 0 0 0 n E w) := by
  have HSE := Lib.hid (send_walk k s l q q e false L C R p hs 1 ⟨#[]⟩ ⟨#[]⟩ 0 0 0 0 0 n (.inl ⟨rfl, rfl⟩) E w hk hE)
  have HK := Lib.hid hk
  clear hE hk
  go_enter Tryz.func17, Tryz.ntmps17
  go_wp2_with fail
  go_loopw [4] (fun v4 wr => AdR w (SnP k s l q e false L C R p 1 ⟨#[]⟩ ⟨#[]⟩ 0 0 0 0 0 n E w (.returned (.tuple #[]))) wr) (fun v4 wr => freeM k wr)
  case atStart => exact .inl rfl
  case round =>
    rcases hrel with h | h
    · subst h
      have c17 : wr.cell? ⟨k, 17, none⟩ = some (.pointer none) := (blk_cells HK.out 17).trans rfl
      have c4 : wr.cell? ⟨k, 4, none⟩ = some (.bool false) := (blk_cells HK.out 4).trans rfl
      go_wp2_with fail
      refine HSE.out.mono ?_
      rintro r w1 h1
      have hr : r = .returned (.tuple #[]) := by obtain ⟨_, _, _, h, _⟩ := h1; exact h
      subst hr
      have HP := Lib.hid h1
      have HM : Hid (freeM k w1 < freeM k wr) := Lib.hid (by
        obtain ⟨fl, OA, oc, _, _, h2, _⟩ := h1
        have e1 : w1.cell? ⟨k, 17, none⟩ = some (.pointer (some ⟨fl, 0, none⟩)) := (blk_cells h2 17).trans rfl
        unfold freeM
        rw [c17, e1]
        exact Nat.zero_lt_one)
      clear h1 c17 c4
      go_wp2_with fail
      go_roundw
      case rel => exact .inr HP.out
      case measure => exact HM.out
    · have HP := Lib.hid h
      obtain ⟨fl, OA, oc, _, _, h2, _⟩ := h
      have c17 : wr.cell? ⟨k, 17, none⟩ = some (.pointer (some ⟨fl, 0, none⟩)) := (blk_cells h2 17).trans rfl
      clear h2
      go_wp2
      refine bodyPost_end (results_none rfl _ _ _) rfl ?_
      exact HP.out
theorem LtR.sl {B : Nat} {w : World} {s : Int} {E : List UInt8} {OA : Option Addr} {oc : Nat} (h : LtR B w s E OA oc) : ∃ A, Sl w 3 (.slice OA 1 1) 1 [.int .i64 (s + 1), .int .i64 0, .slice A E.length E.length] ∧ NB B w A E.length E := by
  obtain ⟨⟨A, h1, h2⟩, h3⟩ := h
  refine ⟨A, ?_, h2⟩
  obtain ⟨A', c', e, hr, hz, hc, hl⟩ := Sl.of_own h1
  injection e with e1 _ e2
  subst e1 e2
  exact ⟨_, _, rfl, hr, fun e => ⟨(hz e).1, (hz e).1⟩, Nat.le_refl _, hl⟩
theorem LtR.cap {B : Nat} {w : World} {s : Int} {E : List UInt8} {OA : Option Addr} {oc : Nat} (h : LtR B w s E OA oc) : 1 ≤ oc ∧ (OA = none → 1 = 0 ∧ oc = 0) := by
  obtain ⟨⟨A, h1, h2⟩, h3⟩ := h
  obtain ⟨A', c', e, hr, hz, hc, hl⟩ := Sl.of_own h1
  injection e with e1 _ e2
  subst e1 e2
  exact ⟨hc, hz⟩
theorem good_stat (w : World) : Calls Tryz.prog 15 #[.agg #[.int .i64 8, .string ⟨#[47]⟩, .string ⟨#[]⟩, .int .i64 0, .int .i64 0, .int .i64 0, .slice none 0 0]] w fun r w' => r = .returned (.bool true) ∧ Below w.heap.size w w' := by
  have HB := Lib.hid ((Below.refl w.heap.size w).alloc (Nat.le_refl _) (.cells #[.int .i64 8, .string ⟨#[47]⟩, .string ⟨#[]⟩, .int .i64 0, .int .i64 0, .int .i64 0, .slice none 0 0] 32))
  go_enter Tryz.func15, Tryz.ntmps15
  go_wp2
  go_ret
  exact ⟨rfl, HB.out⟩
/-- Behind the first call: a letter has gone, the hello is on the way. -/
def CaP (k : Nat) (s l q e : Int) (L : Value) (p n : Int) (E : List UInt8) (w : World) (r : Ending) (w' : World) : Prop :=
  ∃ fl OA oc xb, r = .returned (.tuple #[.slice OA 1 1, .int .i64 0]) ∧ w.heap.size ≤ fl ∧ w'.heap[k]? = some (.cells (clC s l q e false L (.pointer (some ⟨xb, 0, none⟩)) (.pointer none) p (.pointer (some ⟨fl, 0, none⟩)) (.slice none 0 0)) 56 (0, 0)) ∧
    w'.heap[fl]? = some (.cells #[.int .i64 1, .int .i64 s, .int .i64 l, .int .i64 q, .int .i64 e, .string ⟨#[]⟩, .string ⟨#[]⟩, .int .i64 0, .int .i64 0, .int .i64 0, .int .i64 0, .int .i64 0, .slice none 0 0, .int .i64 (clkP n), .int .i64 (clkP n)] 79 (0, 0)) ∧ LtR w.heap.size w' s E OA oc ∧ Keep (fun j => j = k) w w' ∧
    w.heap.size ≤ xb ∧ (∃ DA dc, w'.heap[xb]? = some (.cells #[.int .i64 8, .string ⟨#[47]⟩, .string ⟨#[]⟩, .int .i64 0, .int .i64 0, .int .i64 0, .slice DA 0 dc] 32 (0, 0)))
set_option maxRecDepth 100000 in
set_option maxHeartbeats 4000000 in
theorem call_stat (k : Nat) (s l q e : Int) (L : Value) (p : Int) (hs : 0 ≤ s ∧ s ≤ 7) (n : Int) (E : List UInt8) (w : World)
    (hk : w.heap[k]? = some (.cells (clC s l q e false L (.pointer none) (.pointer none) p (.pointer none) (.slice none 0 0)) 56 (0, 0)))
    (hE : ∀ W, Calls Tryz.prog 49 #[.agg #[.int .i64 1, .int .i64 s, .int .i64 l, .int .i64 q, .int .i64 e, .string ⟨#[]⟩, .string ⟨#[]⟩, .int .i64 0, .int .i64 0, .int .i64 0, .int .i64 0, .int .i64 0, .slice none 0 0]] W (TextP W.heap.size [] E W)) :
    Calls Tryz.prog 7 #[.pointer (some ⟨k, 0, none⟩), .agg #[.int .i64 8, .string ⟨#[47]⟩, .string ⟨#[]⟩, .int .i64 0, .int .i64 0, .int .i64 0, .slice none 0 0], .int .i64 n] w (CaP k s l q e L p n E w) := by
  have HE := Lib.hid hE
  have HS := Lib.hid hs
  have hkw := blk_lt hk
  obtain ⟨w1, hw1⟩ : ∃ w1, w1 = w.alloc (.cells #[.int .i64 8, .string ⟨#[47]⟩, .string ⟨#[]⟩, .int .i64 0, .int .i64 0, .int .i64 0, .slice none 0 0] 32) := ⟨_, rfl⟩
  have hx1 := blk_new w (.cells #[.int .i64 8, .string ⟨#[47]⟩, .string ⟨#[]⟩, .int .i64 0, .int .i64 0, .int .i64 0, .slice none 0 0] 32)
  have hk1 := blk_old hk (.cells #[.int .i64 8, .string ⟨#[47]⟩, .string ⟨#[]⟩, .int .i64 0, .int .i64 0, .int .i64 0, .slice none 0 0] 32)
  have hb1 := (Below.refl w.heap.size w).alloc (Nat.le_refl _) (.cells #[.int .i64 8, .string ⟨#[47]⟩, .string ⟨#[]⟩, .int .i64 0, .int .i64 0, .int .i64 0, .slice none 0 0] 32)
  rw [← hw1] at hx1 hk1 hb1
  have HX1 := Lib.hid hx1
  have HK1 := Lib.hid hk1
  have HB1 := Lib.hid hb1
  have HW1 := Lib.hid hw1
  have HKW := Lib.hid hkw
  have cx1 := blk_cells hx1
  clear hE hs hk hx1 hk1 hb1 hkw hw1
  go_enter Tryz.func7, Tryz.ntmps7
  go_upto_region 1 with fail
  rw [← HW1.out]
  go_wp2_with fail
  refine (good_stat w1).mono ?_
  rintro r w2 ⟨rfl, h2⟩
  have hk2 := (Keep.of_below (S := fun _ => False) h2).blk HK1.out id
  have hx2 := (Keep.of_below (S := fun _ => False) h2).blk HX1.out id
  have HB2 := Lib.hid (bstep HB1.out h2)
  have HK2 := Lib.hid hk2
  have HX2 := Lib.hid hx2
  have c14 : w2.cell? ⟨k, 14, none⟩ = some (.pointer none) := (blk_cells hk2 14).trans rfl
  have c15 : w2.cell? ⟨k, 15, none⟩ = some (.pointer none) := (blk_cells hk2 15).trans rfl
  have x6 : w2.cell? ⟨w.heap.size, 6, none⟩ = some (.slice none 0 0) := (blk_cells hx2 6).trans rfl
  have HCL := Lib.hid (show Calls Tryz.prog 16 #[.slice none 0 0] w2 fun e w' => ∃ A' c', e = .returned (.slice A' 0 c') ∧ Below w2.heap.size w2 w' from (clone_walk [] none 0 w2 (NB.nil 0 w2).sl (by decide)).mono (fun e w' ⟨A', c', h1, _, h3⟩ => ⟨A', c', h1, h3⟩))
  clear hk2 hx2 h2 cx1
  go_wp2_with fail
  refine HCL.out.mono ?_
  rintro r w3 ⟨DA, dc, rfl, h3⟩
  have hk3 := (Keep.of_below (S := fun _ => False) h3).blk HK2.out id
  have hx3 := (Keep.of_below (S := fun _ => False) h3).blk HX2.out id
  have HB3 := Lib.hid (bstep HB2.out h3)
  have y6 : w3.cell? ⟨w.heap.size, 6, none⟩ = some (.slice none 0 0) := (blk_cells hx3 6).trans rfl
  have f6 := blk_frees hx3 6
  have hk3b : (w3.setCell ⟨w.heap.size, 6, none⟩ (.slice DA 0 dc)).heap[k]? = _ := (blk_set_ne (a := ⟨w.heap.size, 6, none⟩) _ (show k ≠ w.heap.size by have := HKW.out; omega)).trans hk3
  have y14 : (w3.setCell ⟨w.heap.size, 6, none⟩ (.slice DA 0 dc)).cell? ⟨k, 14, none⟩ = some (.pointer none) := (blk_cells hk3b 14).trans rfl
  have f14 := blk_frees hk3b 14
  obtain ⟨w4, hw4⟩ : ∃ w4, w4 = (w3.setCell ⟨w.heap.size, 6, none⟩ (.slice DA 0 dc)).setCell ⟨k, 14, none⟩ (.pointer (some ⟨w.heap.size, 0, none⟩)) := ⟨_, rfl⟩
  have hk4 := blk_set (j := 14) hk3b (.pointer (some ⟨w.heap.size, 0, none⟩))
  have hx4 : ((w3.setCell ⟨w.heap.size, 6, none⟩ (.slice DA 0 dc)).setCell ⟨k, 14, none⟩ (.pointer (some ⟨w.heap.size, 0, none⟩))).heap[w.heap.size]? = _ := (blk_set_ne (a := ⟨k, 14, none⟩) _ (show w.heap.size ≠ k by have := HKW.out; omega)).trans (blk_set (j := 6) hx3 (.slice DA 0 dc))
  have hkk : Keep (fun j => j = k) w ((w3.setCell ⟨w.heap.size, 6, none⟩ (.slice DA 0 dc)).setCell ⟨k, 14, none⟩ (.pointer (some ⟨w.heap.size, 0, none⟩))) := ((Keep.of_below (S := fun j => j = k) HB3.out).setCell (p := ⟨w.heap.size, 6, none⟩) (fun h => by have h : w.heap.size < w.heap.size := h; omega) _).setCell (p := ⟨k, 14, none⟩) (fun _ => rfl) _
  rw [← hw4] at hk4 hx4 hkk
  have HW4 := Lib.hid hw4
  have HX4 := Lib.hid hx4
  have HK4 := Lib.hid hkk
  have HAD := Lib.hid (advance_hello k s l q e L (.pointer (some ⟨w.heap.size, 0, none⟩)) (.pointer none) p HS.out n E w4 hk4 HE.out)
  clear hk3 hx3 h3 hk3b hw4 hk4 hx4 hkk
  go_wp2_with fail
  rw [← HW4.out]
  refine HAD.out.mono ?_
  rintro r w5 ⟨fl, OA, oc, rfl, hfl, hk5, hf5, hl5, hb5⟩
  have HX5 := Lib.hid (hb5.blk HX4.out (by have := HKW.out; omega))
  have HB5 := Lib.hid (HK4.out.trans hb5 (fun _ _ h => h))
  have HFK : Hid (fl ≠ k ∧ w.heap.size ≠ k ∧ w.heap.size ≤ fl) := Lib.hid ⟨by have := HK4.out.size; have := HKW.out; omega, by have := HKW.out; omega, Nat.le_trans HK4.out.size hfl⟩
  have HFL := Lib.hid (flush_walk k s l q e false L (.pointer (some ⟨w.heap.size, 0, none⟩)) (.pointer none) p (.pointer (some ⟨fl, 0, none⟩)) OA 1 oc w5 hk5 hl5.cap.1 hl5.cap.2 (by decide))
  have HF5 := Lib.hid hf5
  have HL5 := Lib.hid (hl5.mono HK4.out.size)
  clear hk5 hf5 hl5 hb5 hfl
  go_wp2_with fail
  refine HFL.out.mono ?_
  rintro r w6 ⟨rfl, hk6, hb6⟩
  have HFIN : Hid (CaP k s l q e L p n E w (.returned (.tuple #[.slice OA 1 1, .int .i64 0])) w6) := Lib.hid ⟨fl, OA, oc, w.heap.size, rfl, HFK.out.2.2, hk6, hb6.blk HF5.out HFK.out.1, HL5.out.keep hb6 (fun j h1 _ e => by have := HKW.out; omega), HB5.out.trans hb6 (fun _ _ h => h), Nat.le_refl _, DA, dc, hb6.blk HX5.out HFK.out.2.1⟩
  clear hk6 hb6
  go_wp2
  go_ret2
  exact HFIN.out
end Go.Proofs.YtlcfnehmmjhoiaaGreat
