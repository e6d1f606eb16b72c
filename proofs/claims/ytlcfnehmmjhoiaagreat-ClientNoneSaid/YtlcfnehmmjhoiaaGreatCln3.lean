/- The law of clients: parse, of a hello. -/
import Derived.Test.YtlcfnehmmjhoiaaGreatCln2
set_option linter.unusedSimpArgs false
set_option linter.unusedVariables false
namespace Go.Proofs.YtlcfnehmmjhoiaaGreat
open Go.RowKit

attribute [local go_sem ↓] Go.wp_at_zero Go.wp_at_succ
theorem drew_blk (w : World) (k : Nat) : w.drew.heap[k]? = w.heap[k]? := rfl
set_option maxRecDepth 100000 in
set_option maxHeartbeats 4000000 in
theorem lparse_hel (X : Option Addr) (c : Nat) (A : Option Addr) (cd : Nat) (w : World) (hX : Sl w 3 (.slice X 1 c) 1 [.int .i64 3, .int .i64 0, .slice A 53 cd]) (hA : Sl w 1 (.slice A 53 cd) 53 (bv helB)) :
    Calls Tryz.prog 14 #[.slice X 1 c] w fun e w' => (∃ A c, e = .returned (.tuple #[helV (.slice A 0 c), .bool true])) ∧ Below w.heap.size w w' := by
  obtain ⟨b, o, rfl, hbl, x0⟩ := sl_at (k := 0) hX rfl
  obtain ⟨_, _, e1, _, x1⟩ := sl_at (k := 1) hX rfl
  obtain ⟨_, _, e2, _, x2⟩ := sl_at (k := 2) hX rfl
  injection e1 with e1; injection e1 with e1 e1' _; subst e1 e1'
  injection e2 with e2; injection e2 with e2 e2' _; subst e2 e2'
  rw [Nat.add_zero] at x0
  obtain ⟨w0, hw0⟩ : ∃ w0, w0 = w.alloc (.cells #[.int .i64 0, .int .i64 0, .int .i64 0, .int .i64 0, .int .i64 0, .string ⟨#[]⟩, .string ⟨#[]⟩, .int .i64 0, .int .i64 0, .int .i64 0, .int .i64 0, .int .i64 0, .slice none 0 0] 58) := ⟨_, rfl⟩
  have hb0 := blk_new w (.cells #[.int .i64 0, .int .i64 0, .int .i64 0, .int .i64 0, .int .i64 0, .string ⟨#[]⟩, .string ⟨#[]⟩, .int .i64 0, .int .i64 0, .int .i64 0, .int .i64 0, .int .i64 0, .slice none 0 0] 58)
  have hbe0 := (Below.refl w.heap.size w).alloc (Nat.le_refl _) (.cells #[.int .i64 0, .int .i64 0, .int .i64 0, .int .i64 0, .int .i64 0, .string ⟨#[]⟩, .string ⟨#[]⟩, .int .i64 0, .int .i64 0, .int .i64 0, .int .i64 0, .int .i64 0, .slice none 0 0] 58)
  rw [← hw0] at hb0 hbe0
  have k0 := Keep.of_below (S := fun _ => False) hbe0
  have y1 := k0.cell x1 id
  have y2 := k0.cell x2 id
  have HX0 := Lib.hid (k0.cell x0 id)
  have hA0 := hA.below hbe0
  have kc : (convert 30 9 (.slice A 53 cd)).run Tryz.prog w0 = .ok (.string ⟨helB.toArray⟩) w0 := run_conv_bytes (P := Tryz.prog) (d := helB) w0 Tryz.underlying30 Tryz.underlying5 Tryz.underlying9 hA0
  have HR := Lib.hid (lread_hel w0)
  obtain ⟨s, hs⟩ : ∃ s, s = helB := ⟨_, rfl⟩
  rw [← hs] at kc HR
  have HW0 := Lib.hid hw0
  have HB0 := Lib.hid hb0
  have HBE0 := Lib.hid hbe0
  clear hw0 hb0 hbe0 k0 x0 x1 x2 hA hA0 hX hs
  go_enter Tryz.func14, Tryz.ntmps14
  go_upto_region 1 with fail
  rw [← HW0.out]
  go_wp2_with fail
  refine HR.out.mono ?_
  rintro e w1 ⟨⟨DA, dc, rfl⟩, h1⟩
  have HBE1 := Lib.hid (bstep HBE0.out h1)
  have hz := (Keep.of_below (S := fun _ => False) h1).blk HB0.out id
  have hx := (Keep.of_below (S := fun _ => False) h1).cell HX0.out id
  have HZ1 := Lib.hid hz
  have HX1 := Lib.hid hx
  have hpl := blk_lt hz
  clear hz hx h1 y1 y2 kc
  go_upto_region 4 with fail
  obtain ⟨U, hU⟩ : ∃ U, U = w1.alloc (.cells #[.int .i64 1, .int .i64 2, .int .i64 1, .int .i64 0, .int .i64 0, .string ⟨#[]⟩, .string ⟨#[]⟩, .int .i64 0, .int .i64 0, .int .i64 0, .int .i64 0, .int .i64 0, .slice DA 0 dc] 58) := ⟨_, rfl⟩
  have hpv := blk_new w1 (.cells #[.int .i64 1, .int .i64 2, .int .i64 1, .int .i64 0, .int .i64 0, .string ⟨#[]⟩, .string ⟨#[]⟩, .int .i64 0, .int .i64 0, .int .i64 0, .int .i64 0, .int .i64 0, .slice DA 0 dc] 58)
  have hzz := blk_old HZ1.out (.cells #[.int .i64 1, .int .i64 2, .int .i64 1, .int .i64 0, .int .i64 0, .string ⟨#[]⟩, .string ⟨#[]⟩, .int .i64 0, .int .i64 0, .int .i64 0, .int .i64 0, .int .i64 0, .slice DA 0 dc] 58)
  have hxx := ((Keep.refl (fun _ => False) w1).alloc (.cells #[.int .i64 1, .int .i64 2, .int .i64 1, .int .i64 0, .int .i64 0, .string ⟨#[]⟩, .string ⟨#[]⟩, .int .i64 0, .int .i64 0, .int .i64 0, .int .i64 0, .int .i64 0, .slice DA 0 dc] 58)).cell HX1.out id
  have hbe := HBE1.out.alloc HBE1.out.size (.cells #[.int .i64 1, .int .i64 2, .int .i64 1, .int .i64 0, .int .i64 0, .string ⟨#[]⟩, .string ⟨#[]⟩, .int .i64 0, .int .i64 0, .int .i64 0, .int .i64 0, .int .i64 0, .slice DA 0 dc] 58)
  rw [← hU] at hpv hzz hxx hbe ⊢
  obtain ⟨P, hP⟩ : ∃ P, P = w1.heap.size := ⟨_, rfl⟩
  rw [← hP] at hpv hpl ⊢
  have HZZ := Lib.hid hzz
  have HBE := Lib.hid hbe
  have HS : Hid (∀ W, Keep (fun k => k = w.heap.size) U W → W.cell? ⟨P, 0, none⟩ = some (.int .i64 1) ∧ W.cell? ⟨P, 1, none⟩ = some (.int .i64 2) ∧ W.cell? ⟨P, 2, none⟩ = some (.int .i64 1) ∧ W.cell? ⟨P, 3, none⟩ = some (.int .i64 0) ∧ W.cell? ⟨P, 4, none⟩ = some (.int .i64 0) ∧ W.cell? ⟨P, 5, none⟩ = some (.string ⟨#[]⟩) ∧ W.cell? ⟨P, 6, none⟩ = some (.string ⟨#[]⟩) ∧ W.cell? ⟨P, 7, none⟩ = some (.int .i64 0) ∧ W.cell? ⟨P, 8, none⟩ = some (.int .i64 0) ∧ W.cell? ⟨P, 9, none⟩ = some (.int .i64 0) ∧ W.cell? ⟨P, 10, none⟩ = some (.int .i64 0) ∧ W.cell? ⟨P, 11, none⟩ = some (.int .i64 0) ∧ W.cell? ⟨P, 12, none⟩ = some (.slice DA 0 dc) ∧ W.cell? ⟨b, o, none⟩ = some (.int .i64 3)) := Lib.hid (fun W hW => by
    have hq := hW.blk hpv (by omega)
    have cq := blk_cells hq
    exact ⟨(cq 0).trans rfl, (cq 1).trans rfl, (cq 2).trans rfl, (cq 3).trans rfl, (cq 4).trans rfl, (cq 5).trans rfl, (cq 6).trans rfl, (cq 7).trans rfl, (cq 8).trans rfl, (cq 9).trans rfl, (cq 10).trans rfl, (cq 11).trans rfl, (cq 12).trans rfl, hW.cell hxx (fun e => by have e : b = w.heap.size := e; omega)⟩)
  have HK0 := Lib.hid ((Keep.refl (fun k => k = w.heap.size) U).drew)
  have HKS : Hid (Keep (fun k => k = w.heap.size) U (((((((((((((U.setCell ⟨w.heap.size, 0, none⟩ (.int .i64 1)).setCell ⟨w.heap.size, 1, none⟩ (.int .i64 2)).setCell ⟨w.heap.size, 2, none⟩ (.int .i64 1)).setCell ⟨w.heap.size, 3, none⟩ (.int .i64 0)).setCell ⟨w.heap.size, 4, none⟩ (.int .i64 0)).setCell ⟨w.heap.size, 5, none⟩ (.string ⟨#[]⟩)).setCell ⟨w.heap.size, 6, none⟩ (.string ⟨#[]⟩)).setCell ⟨w.heap.size, 7, none⟩ (.int .i64 0)).setCell ⟨w.heap.size, 8, none⟩ (.int .i64 0)).setCell ⟨w.heap.size, 9, none⟩ (.int .i64 0)).setCell ⟨w.heap.size, 10, none⟩ (.int .i64 0)).setCell ⟨w.heap.size, 11, none⟩ (.int .i64 0)).setCell ⟨w.heap.size, 12, none⟩ (.slice DA 0 dc)).drew) := Lib.hid ((setW_keep (k := w.heap.size) [.int .i64 1, .int .i64 2, .int .i64 1, .int .i64 0, .int .i64 0, .string ⟨#[]⟩, .string ⟨#[]⟩, .int .i64 0, .int .i64 0, .int .i64 0, .int .i64 0, .int .i64 0, .slice DA 0 dc] 0 U).drew)
  have fz := blk_frees hzz
  have cz := blk_cells hzz
  have q3 : IntKind.i64.wrap 3 = 3 := by decide
  have rd := HS.out _ HK0.out
  clear hU hP hpv hxx hbe hzz
  go_region_held3 (fun W => W.cell? ⟨P, 0, none⟩ = some (.int .i64 1) ∧ W.cell? ⟨P, 1, none⟩ = some (.int .i64 2) ∧ W.cell? ⟨P, 2, none⟩ = some (.int .i64 1) ∧ W.cell? ⟨P, 3, none⟩ = some (.int .i64 0) ∧ W.cell? ⟨P, 4, none⟩ = some (.int .i64 0) ∧ W.cell? ⟨P, 5, none⟩ = some (.string ⟨#[]⟩) ∧ W.cell? ⟨P, 6, none⟩ = some (.string ⟨#[]⟩) ∧ W.cell? ⟨P, 7, none⟩ = some (.int .i64 0) ∧ W.cell? ⟨P, 8, none⟩ = some (.int .i64 0) ∧ W.cell? ⟨P, 9, none⟩ = some (.int .i64 0) ∧ W.cell? ⟨P, 10, none⟩ = some (.int .i64 0) ∧ W.cell? ⟨P, 11, none⟩ = some (.int .i64 0) ∧ W.cell? ⟨P, 12, none⟩ = some (.slice DA 0 dc) ∧ W.cell? ⟨b, o, none⟩ = some (.int .i64 3)) (first | with_reducible exact HS.out _ HK0.out | with_reducible exact HS.out _ HKS.out) (first | (fail))
  obtain ⟨W12, hW12⟩ : ∃ W12, W12 = (setW U w.heap.size 0 [.int .i64 1, .int .i64 2, .int .i64 1, .int .i64 0, .int .i64 0, .string ⟨#[]⟩, .string ⟨#[]⟩, .int .i64 0, .int .i64 0, .int .i64 0, .int .i64 0, .int .i64 0, .slice DA 0 dc]).drew := ⟨_, rfl⟩
  have hz := setW_all HZZ.out [.int .i64 1, .int .i64 2, .int .i64 1, .int .i64 0, .int .i64 0, .string ⟨#[]⟩, .string ⟨#[]⟩, .int .i64 0, .int .i64 0, .int .i64 0, .int .i64 0, .int .i64 0, .slice DA 0 dc] rfl
  have hk := HKS.out
  show Exit.then _ _ _ _ (setW U w.heap.size 0 [.int .i64 1, .int .i64 2, .int .i64 1, .int .i64 0, .int .i64 0, .string ⟨#[]⟩, .string ⟨#[]⟩, .int .i64 0, .int .i64 0, .int .i64 0, .int .i64 0, .int .i64 0, .slice DA 0 dc]).drew
  rw [← hW12]
  have hz2 : W12.heap[w.heap.size]? = some (.cells #[.int .i64 1, .int .i64 2, .int .i64 1, .int .i64 0, .int .i64 0, .string ⟨#[]⟩, .string ⟨#[]⟩, .int .i64 0, .int .i64 0, .int .i64 0, .int .i64 0, .int .i64 0, .slice DA 0 dc] 58 (0, 0)) := by rw [hW12, drew_blk]; exact hz
  have HE : Hid (Below w.heap.size w W12) := Lib.hid (HBE.out.trans ((show Keep (fun k => k = w.heap.size) U W12 from by rw [hW12]; exact hk).below (B := w.heap.size) (fun i e => by omega) HBE.out.size))
  clear hW12 hz hk rd cz fz
  have hc : ∀ j, W12.cell? ⟨w.heap.size, j, none⟩ = (#[.int .i64 1, .int .i64 2, .int .i64 1, .int .i64 0, .int .i64 0, .string ⟨#[]⟩, .string ⟨#[]⟩, .int .i64 0, .int .i64 0, .int .i64 0, .int .i64 0, .int .i64 0, .slice DA 0 dc] : Array Value)[j]? := blk_cells hz2
  go_wp2
  refine bodyPost_ret (v := .tuple #[helV (.slice DA 0 dc), .bool true]) (by simp [results, Tryz.results14, go_sem, hc]; try rfl) rfl ⟨⟨_, _, rfl⟩, HE.out⟩
end Go.Proofs.YtlcfnehmmjhoiaaGreat
