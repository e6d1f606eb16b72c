/- Package cache: the piece that was written first is gone; there is none. -/
import Derived.Test.YtpgjjhpnemcgdaaCachQ
set_option linter.unusedSimpArgs false
set_option linter.unusedVariables false
namespace Go.Proofs.Ytpgjjhpnemcgdaa
open Go.RowKit

attribute [local go_sem ↓] Go.wp_at_zero Go.wp_at_succ
theorem pclone_walk (L : List ((Nat × List UInt8) × Value)) (ad : Addr) (c : Nat) (w : World) (h : Sl w 2 (.slice (some ad) L.length c) L.length (pcs L)) (h1 : ∀ u ∈ pcs L, u.oneCell' = true) (hn : L.length ≤ 1000000) :
    Calls Try.prog 28 #[.slice (some ad) L.length c] w fun e w' => ∃ A4 c4, e = .returned (.slice A4 L.length c4) ∧ w'.ownsRow 0 39 2 (.slice A4 L.length c4) L.length (pcs L) ∧ (∀ j, A4.map (·.block) = some j → w.heap.size ≤ j) ∧ Below w.heap.size w w' := by
  have hnil := fun w => Lib.run_eql_slice_nil (P := Try.prog) w 44 39 (some ad) L.length c 0 0 Try.underlying44
  have HS := Lib.hid (h.below ((Below.refl w.heap.size w).alloc (Nat.le_refl _) (.cells #[] 39)))
  have HO := Lib.hid (own_new w #[] 39 2 0 rfl (by decide))
  have H1 := Lib.hid h1
  clear h h1
  go_enter Try.func28, Try.ntmps28
  go_wp2_with (at_builtin; go_must (refine wpList_app rfl eltP rfl rfl rfl (n := 0) (m := L.length) HO.out HS.out H1.out (by omega) (by simp only [maxLen]; omega) ?_))
  intro v4 w4 g1 g2 g3 g4
  clear g4
  obtain ⟨A4, c4, rfl, _⟩ := Rd.of_own g1
  have HN : Hid (w4.ownsRow 0 39 2 (.slice A4 L.length c4) L.length (pcs L) ∧ (∀ j, A4.map (·.block) = some j → w.heap.size ≤ j) ∧ Below w.heap.size w w4) := Lib.hid ⟨by simpa using g1, fun j e => by
      rcases g3 with g3 | g3 <;> rw [ownBlock_slice, e] at g3
      · injection g3 with g3
        have g3 : j = w.heap.size := g3
        omega
      · injection g3 with g3
        have : (w.alloc (.cells #[] 39)).heap.size = w.heap.size + 1 := by simp
        omega, ((Below.refl w.heap.size w).alloc (Nat.le_refl _) _).trans (g2.below (fun j e => by rw [ownBlock_slice] at e; injection e with e; have e : w.heap.size = j := e; omega) (by simp))⟩
  clear g1 g2 g3
  go_wp2
  go_ret
  exact ⟨A4, c4, by simp, HN.out.1, HN.out.2.1, HN.out.2.2⟩
theorem pcs_one {DA : Option Addr} {w : World} {L : List ((Nat × List UInt8) × Value)} (h : ∀ p ∈ L, PD DA w p) : ∀ u ∈ pcs L, u.oneCell' = true := by
  intro u hu
  unfold pcs at hu
  obtain ⟨p, hp, hu⟩ := List.mem_flatMap.1 hu
  obtain ⟨A, c, e, _⟩ := h p hp
  rw [e] at hu
  simp only [List.mem_cons, List.not_mem_nil, or_false] at hu
  rcases hu with rfl | rfl <;> rfl
theorem CA.flushed {X : Nat → Prop} {k : Nat} {s : CaS} {w w4 : World} {DA A4 : Option Addr} {dc c4 : Nat} {kv : Value} {YA : Option Addr} {yc : Nat} {p0 : (Nat × List UInt8) × Value} {L : List ((Nat × List UInt8) × Value)} {rest : List (Nat × List UInt8)} (h : CA X k s w DA dc kv YA yc (p0 :: L)) (hd : s.dirty = p0.1 :: rest) (hb : Below w.heap.size w w4)
    (g1 : w4.ownsRow 0 39 2 (.slice A4 L.length c4) L.length (pcs L)) (g3 : ∀ j, A4.map (·.block) = some j → w.heap.size ≤ j) :
    CA X k { s with dirty := rest } (w4.setCell ⟨k, 5, none⟩ (.slice A4 L.length c4)) DA dc kv A4 c4 L ∧ Keep (fun j => j = k) w (w4.setCell ⟨k, 5, none⟩ (.slice A4 L.length c4)) := by
  have h1 := h.below hb
  have ks := (Keep.refl (fun j => j = k) w4).setCell (p := ⟨k, 5, none⟩) (fun _ => rfl) (.slice A4 L.length c4)
  have hnm : L.map Prod.fst = rest := by have := h.names; rw [hd] at this; exact (List.cons.inj this).2
  have hll : L.length = rest.length := by rw [← hnm, List.length_map]
  refine ⟨⟨?_, own_keep h1.data ks (fun j e hj => own_ne_blk h1.data h1.blk (by decide) e hj), h1.known.keep ks (fun j cs fr _ hb' e => blk_clash h1.blk hb' (by decide) e), ?_, hnm, fun p hp => ?_, fun j hj => Nat.lt_of_lt_of_le (h1.old j hj) ks.size, h.notk, h.notd, fun j e hj => ?_⟩, ((Keep.of_below (S := fun j => j = k) hb).trans ks (fun _ _ h => h))⟩
  · have := blk_set4 h1.blk (j := 5) (.slice A4 L.length c4) rfl
    rw [hll] at this
    simpa [hll] using this
  · have := own_keep g1 ks (fun j e hj => own_ne_blk g1 h1.blk (by decide) e hj)
    rw [hll] at this
    simpa [hll] using this
  · obtain ⟨A, c, e, hs, hA⟩ := h1.pieces p (List.mem_cons_of_mem _ hp)
    have n2 : ∀ j, A.map (·.block) = some j → ¬ j = k := fun j hj => by
      obtain ⟨_, cs, fr, h2⟩ := hA j hj
      exact blk_clash h1.blk h2 (by decide)
    refine ⟨A, c, e, hs.keep ks (fun j ej _ => n2 j (by rw [ownBlock_slice] at ej; exact ej)), fun j hj => ?_⟩
    obtain ⟨q1, cs, fr, h2⟩ := hA j hj
    exact ⟨q1, cs, fr, ks.blk h2 (n2 j hj)⟩
  · have := g3 j e
    have := h.old j hj
    omega
set_option maxHeartbeats 2000000 in
theorem flushed_walk {X : Nat → Prop} {k : Nat} {s : CaS} {w : World} {DA : Option Addr} {dc : Nat} {kv : Value} {YA : Option Addr} {yc : Nat} {p0 : (Nat × List UInt8) × Value} {L : List ((Nat × List UInt8) × Value)} {rest : List (Nat × List UInt8)} (h : CA X k s w DA dc kv YA yc (p0 :: L)) (hd : s.dirty = p0.1 :: rest) (hn : L.length ≤ 1000) :
    Calls Try.prog 14 #[.pointer (some ⟨k, 0, none⟩)] w fun e w' => ∃ A4 c4, e = .returned (.tuple #[]) ∧ CA X k { s with dirty := rest } w' DA dc kv A4 c4 L ∧ Keep (fun j => j = k) w w' := by
  have HDW := Lib.hid (dirty_walk (⟨DA, dc, kv, YA, yc, p0 :: L, h⟩ : Ca X k s w))
  have hlen : s.dirty.length = L.length + 1 := by rw [← h.names]; simp
  obtain ⟨y, ycap, ycur, eY, hyb, hyc, _, _, hyt⟩ := own_form h.dirty (by omega)
  injection eY with eY _ eY2
  subst eY eY2
  have c5 : w.cell? ⟨k, 5, none⟩ = some (.slice (some ⟨y, 0, none⟩) s.dirty.length yc) := (blk_cells h.blk 5).trans rfl
  have z0 : (0 : Int) < (s.dirty.length : Int) := by omega
  have z1 : (1 : Int) ≤ (s.dirty.length : Int) := by omega
  have z2 : (s.dirty.length : Int) ≤ (yc : Int) := by omega
  have z3 : ((s.dirty.length : Int) - 1).toNat = L.length := by omega
  have z4 : s.dirty.length - 1 = L.length := by omega
  have H := Lib.hid h
  have HD := Lib.hid hd
  have HO := Lib.hid (pcs_one h.pieces)
  have H1 : Hid (∀ u ∈ pcs L, u.oneCell' = true) := Lib.hid (fun u hu => HO.out u (by
    unfold pcs at hu ⊢
    rw [List.flatMap_cons]
    exact List.mem_append_right _ hu))
  have HF : Hid (∀ (o : Nat), (1 < s.dirty.length → o = 2) → Sl w 2 (.slice (some ⟨y, o, none⟩) L.length (yc - 1)) L.length (pcs L)) := Lib.hid (fun o ho => Sl.from_ h.dirty 1 (by omega) rfl ho (by omega) rfl)
  clear h hd hyb hyt hlen
  go_enter Try.func14, Try.ntmps14
  go_wp2_with fail
  refine HDW.out.mono ?_
  rintro e W ⟨rfl, hWW⟩
  have hWW' := hWW.symm
  subst hWW'
  clear hWW
  by_cases hy1 : yc = 1
  · have HPC := Lib.hid (pclone_walk L ⟨y, 0, none⟩ (yc - 1) w (HF.out 0 (fun h => by omega)) H1.out (by omega))
    rw [show yc - 1 = 0 by omega] at HPC
    go_wp2_with fail
    refine HPC.out.mono ?_
    rintro e w1 ⟨A4, c4, rfl, ho, hf, hb⟩
    have h1 := H.out.below hb
    have c51 : w1.cell? ⟨k, 5, none⟩ = some (.slice (some ⟨y, 0, none⟩) s.dirty.length yc) := (blk_cells h1.blk 5).trans rfl
    have f51 := blk_frees h1.blk 5
    have HR := Lib.hid (H.out.flushed HD.out hb ho hf)
    clear h1 ho hf hb
    go_wp2
    go_end0
    exact ⟨A4, c4, rfl, HR.out.1, HR.out.2⟩
  · have HPC := Lib.hid (pclone_walk L ⟨y, 2, none⟩ (yc - 1) w (HF.out 2 (fun h => rfl)) H1.out (by omega))
    go_wp2_with fail
    refine HPC.out.mono ?_
    rintro e w1 ⟨A4, c4, rfl, ho, hf, hb⟩
    have h1 := H.out.below hb
    have c51 : w1.cell? ⟨k, 5, none⟩ = some (.slice (some ⟨y, 0, none⟩) s.dirty.length yc) := (blk_cells h1.blk 5).trans rfl
    have f51 := blk_frees h1.blk 5
    have HR := Lib.hid (H.out.flushed HD.out hb ho hf)
    clear h1 ho hf hb
    go_wp2
    go_end0
    exact ⟨A4, c4, rfl, HR.out.1, HR.out.2⟩
/-- There is none. -/
theorem first0_walk {X : Nat → Prop} {k : Nat} {s : CaS} {w : World} (h : Ca X k s w) (hd : s.dirty = []) :
    Calls Try.prog 13 #[.pointer (some ⟨k, 0, none⟩)] w fun e w' => e = .returned (.tuple #[.agg #[.int .i64 0, .slice none 0 0], .bool false]) ∧ Below w.heap.size w w' := by
  obtain ⟨w0, hw0⟩ : ∃ w0, w0 = w.alloc (.cells #[.int .i64 0, .slice none 0 0] 39) := ⟨_, rfl⟩
  have hb0 : Below w.heap.size w w0 := by rw [hw0]; exact (Below.refl _ w).alloc (Nat.le_refl _) _
  have hx0 : w0.heap[w.heap.size]? = some (.cells #[.int .i64 0, .slice none 0 0] 39 (0, 0)) := by rw [hw0]; exact blk_new w _
  obtain ⟨DA, dc, kv, YA, yc, L, hc⟩ := h
  have h0 := hc.below hb0
  have hDW := dirty_walk (⟨DA, dc, kv, YA, yc, L, h0⟩ : Ca X k s w0)
  rw [hd] at hDW
  have HDW := Lib.hid hDW
  have HW0 := Lib.hid hw0
  have HB0 := Lib.hid hb0
  have HX0 := Lib.hid hx0
  have e0 : ((0 : Int) == 0) = true := rfl
  clear hw0 hb0 hx0 hc h0 hd hDW
  go_enter Try.func13, Try.ntmps13
  go_wp2_with fail
  rw [← HW0.out]
  refine HDW.out.mono ?_
  rintro e W ⟨rfl, hWW⟩
  have hWW' := hWW.symm
  subst hWW'
  clear hWW
  rw [show ([] : List (Nat × List UInt8)).length = 0 from rfl]
  have cx0 : w0.cell? ⟨w.heap.size, 0, none⟩ = some (.int .i64 0) := (blk_cells HX0.out 0).trans rfl
  have cx1 : w0.cell? ⟨w.heap.size, 1, none⟩ = some (.slice none 0 0) := (blk_cells HX0.out 1).trans rfl
  have fx0 := blk_frees HX0.out 0
  have fx1 := blk_frees HX0.out 1
  go_wp2
  have ks := ((Keep.refl (fun j => j = w.heap.size) w0).setCell (p := ⟨w.heap.size, 0, none⟩) (fun _ => rfl) (.int .i64 0)).setCell (p := ⟨w.heap.size, 1, none⟩) (fun _ => rfl) (.slice none 0 0)
  have bf := blk_set4 (blk_set4 HX0.out (j := 0) (.int .i64 0) rfl) (j := 1) (.slice none 0 0) rfl
  have HF := Lib.hid (HB0.out.trans (ks.below (fun j e => by have e : j = w.heap.size := e; rw [e]; exact Nat.le_refl _) HB0.out.size))
  generalize (w0.setCell ⟨w.heap.size, 0, none⟩ (.int .i64 0)).setCell ⟨w.heap.size, 1, none⟩ (.slice none 0 0) = Wf at bf HF ⊢
  have q0 := (blk_cells bf 0).trans rfl
  have q1 := (blk_cells bf 1).trans rfl
  clear ks bf
  refine bodyPost_ret (v := .tuple #[.agg #[.int .i64 0, .slice none 0 0], .bool false]) (by simp [results, Try.results13, go_sem, q0, q1]; try rfl) rfl ?_
  exact ⟨rfl, HF.out⟩
end Go.Proofs.Ytpgjjhpnemcgdaa
