/- Package cache: what was written first. -/
import Derived.Test.YtpgjjhpnemcgdaaCachK
set_option linter.unusedSimpArgs false
set_option linter.unusedVariables false
namespace Go.Proofs.Ytpgjjhpnemcgdaa
open Go.RowKit

attribute [local go_sem ↓] Go.wp_at_zero Go.wp_at_succ
set_option maxHeartbeats 2000000 in
theorem first_walk {X : Nat → Prop} {k at_ : Nat} {s : CaS} {w : World} {d : List UInt8} {rest : List (Nat × List UInt8)} (h : Ca X k s w) (hd : s.dirty = (at_, d) :: rest) (hl : d.length ≤ 1000000) (hn : s.dirty.length ≤ 1000000) :
    Calls Try.prog 13 #[.pointer (some ⟨k, 0, none⟩)] w fun e w' => ∃ v, e = .returned (.tuple #[.agg #[.int .i64 (at_ : Int), v], .bool true]) ∧ BN w w' v d := by
  obtain ⟨w0, hw0⟩ : ∃ w0, w0 = w.alloc (.cells #[.int .i64 0, .slice none 0 0] 39) := ⟨_, rfl⟩
  have hb0 : Below w.heap.size w w0 := by rw [hw0]; exact (Below.refl _ w).alloc (Nat.le_refl _) _
  have hx0 : w0.heap[w.heap.size]? = some (.cells #[.int .i64 0, .slice none 0 0] 39 (0, 0)) := by rw [hw0]; exact blk_new w _
  obtain ⟨DA, dc, kv, YA, yc, L, hc⟩ := h
  have h0 := hc.below hb0
  have HDW := Lib.hid (dirty_walk (⟨DA, dc, kv, YA, yc, L, h0⟩ : Ca X k s w0))
  obtain ⟨⟨p0, dv⟩, L', rfl⟩ : ∃ p L', L = p :: L' := by
    cases L with
    | nil => have := h0.names; rw [hd] at this; cases this
    | cons p L' => exact ⟨p, L', rfl⟩
  have hp0 : p0 = (at_, d) := by have := h0.names; rw [hd] at this; simpa using (List.cons.inj this).1
  subst hp0
  obtain ⟨PA, pc, e1, hsl, _⟩ := h0.pieces ((at_, d), dv) (List.mem_cons_self ..)
  replace e1 : dv = .slice PA d.length pc := e1
  replace hsl : Sl w0 1 (.slice PA d.length pc) d.length (bv d) := hsl
  subst e1
  have hlen : 0 < s.dirty.length := by rw [hd]; simp
  obtain ⟨y, ycap, ycur, eY, hyb, _, _, _, hyt⟩ := own_form h0.dirty hlen
  injection eY with eY _ _
  subst eY
  have y0 : w0.cell? ⟨y, 0, none⟩ = some (.int .i64 (at_ : Int)) := by
    have := h0.dirty.cells (g := y) rfl 0 (.int .i64 (at_ : Int)) rfl
    simpa [Addr.add_lit] using this
  have y1 : w0.cell? ⟨y, 1, none⟩ = some (.slice PA d.length pc) := by
    have := h0.dirty.cells (g := y) rfl 1 (.slice PA d.length pc) rfl
    simpa [Addr.add_lit] using this
  have c5 : w0.cell? ⟨k, 5, none⟩ = some (.slice (some ⟨y, 0, none⟩) s.dirty.length yc) := (blk_cells h0.blk 5).trans rfl
  have e0 : ((s.dirty.length : Int) == 0) = false := beq_eq_false_iff_ne.2 (by omega)
  have z0 : (0 : Int) < (s.dirty.length : Int) := by omega
  have HW0 := Lib.hid hw0
  have HB0 := Lib.hid hb0
  have HX0 := Lib.hid hx0
  have HSL := Lib.hid hsl
  clear hw0 hb0 hx0 hc h0 hd hsl hyb hyt hlen hn
  go_enter Try.func13, Try.ntmps13
  go_wp2_with fail
  rw [← HW0.out]
  refine HDW.out.mono ?_
  rintro e W ⟨rfl, hWW⟩
  have hWW' := hWW.symm
  subst hWW'
  clear hWW
  go_upto_region 4 with fail
  obtain ⟨w1, hw1⟩ : ∃ w1, w1 = w0.alloc (.cells #[.int .i64 (at_ : Int), .slice PA d.length pc] 39) := ⟨_, rfl⟩
  rw [← hw1]
  have hb1 : Below w0.heap.size w0 w1 := by rw [hw1]; exact (Below.refl _ w0).alloc (Nat.le_refl _) _
  have hx1 : w1.heap[w0.heap.size]? = some (.cells #[.int .i64 (at_ : Int), .slice PA d.length pc] 39 (0, 0)) := by rw [hw1]; exact blk_new w0 _
  have t0 : w1.cell? ⟨w0.heap.size, 0, none⟩ = some (.int .i64 (at_ : Int)) := (blk_cells hx1 0).trans rfl
  have t1 : w1.cell? ⟨w0.heap.size, 1, none⟩ = some (.slice PA d.length pc) := (blk_cells hx1 1).trans rfl
  have HBC := Lib.hid (bclone_walk d PA pc w1.drew ((HSL.out.below hb1).below (Below.refl w1.heap.size w1).drew) (by omega))
  have HB1 := Lib.hid (HB0.out.trans (hb1.mono HB0.out.size))
  have HX1 := Lib.hid hx1
  have HX01 := Lib.hid ((Keep.of_below (S := fun _ => False) hb1).blk HX0.out id)
  clear hw1 hb1 hx1 y0 y1 c5 z0
  go_region_law (first | (go_simp; go_at_call 23; refine HBC.out.mono ?_; rintro e w2 ⟨pv, rfl, hbn⟩; have HBN := Lib.hid hbn; obtain ⟨PV, pvc, rfl, _⟩ := Rd.of_own hbn.own; have hbb : Below w1.heap.size w1 w2 := (Below.refl w1.heap.size w1).drew.trans hbn.be; have HB2 := Lib.hid hbb; have u0 := ((Keep.of_below (S := fun _ => False) hbb).cell t0 id); have r2 := (Keep.of_below (S := fun _ => False) hbb).blk HX01.out id; have HR2 := Lib.hid r2; have v0 : w2.cell? ⟨w.heap.size, 0, none⟩ = some (.int .i64 0) := (blk_cells r2 0).trans rfl; have v1 : w2.cell? ⟨w.heap.size, 1, none⟩ = some (.slice none 0 0) := (blk_cells r2 1).trans rfl; have x0 := blk_frees r2 0; have x1 := blk_frees r2 1; clear hbn hbb r2))
  all_goals
    go_wp2
    have ks := ((Keep.refl (fun j => j = w.heap.size) w2).setCell (p := ⟨w.heap.size, 0, none⟩) (fun _ => rfl) (.int .i64 (at_ : Int))).setCell (p := ⟨w.heap.size, 1, none⟩) (fun _ => rfl) (.slice PV d.length pvc)
    have bf := blk_set4 (blk_set4 HR2.out (j := 0) (.int .i64 (at_ : Int)) rfl) (j := 1) (.slice PV d.length pvc) rfl
    have HF : Hid (BN w ((w2.setCell ⟨w.heap.size, 0, none⟩ (.int .i64 (at_ : Int))).setCell ⟨w.heap.size, 1, none⟩ (.slice PV d.length pvc)) (.slice PV d.length pvc) d) := Lib.hid ⟨own_keep HBN.out.own ks (fun j e hj => own_ne_blk HBN.out.own HR2.out (by decide) e hj), fun j e => Nat.le_trans HB1.out.size (HBN.out.fresh j e), (HB1.out.trans (HB2.out.mono HB1.out.size)).trans (ks.below (fun j e => by omega) (Nat.le_trans HB1.out.size HB2.out.size))⟩
    generalize (w2.setCell ⟨w.heap.size, 0, none⟩ (.int .i64 (at_ : Int))).setCell ⟨w.heap.size, 1, none⟩ (.slice PV d.length pvc) = Wf at bf HF ⊢
    have e0 := (blk_cells bf 0).trans rfl
    have e1 := (blk_cells bf 1).trans rfl
    clear ks bf
    refine bodyPost_ret (v := .tuple #[.agg #[.int .i64 (at_ : Int), .slice PV d.length pvc], .bool true]) (by simp [results, Try.results13, go_sem, e0, e1]; try rfl) rfl ?_
    exact ⟨_, rfl, HF.out⟩
end Go.Proofs.Ytpgjjhpnemcgdaa
