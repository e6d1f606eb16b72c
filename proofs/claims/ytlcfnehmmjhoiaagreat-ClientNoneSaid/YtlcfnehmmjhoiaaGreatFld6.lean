/- Package field: fields, read one by one. -/
import Derived.Test.YtlcfnehmmjhoiaaGreatFld5
import Derived.StillTailTactics
import Derived.WalkMore
set_option linter.unusedSimpArgs false
set_option linter.unusedVariables false
namespace Go.Proofs.YtlcfnehmmjhoiaaGreat
open Go.RowKit

attribute [local go_sem ↓] Go.wp_at_zero Go.wp_at_succ
/-- A form in block k: what is left of it. -/
structure FO (k B : Nat) (w : World) (d : List UInt8) : Prop where
  ex : ∃ A c, w.heap[k]? = some (.cells #[.slice A d.length c, .bool false] 131 (0, 0)) ∧ NB B w A c d
theorem NB.drop {B g o c : Nat} {w : World} {d : List UInt8} (h : NB B w (some ⟨g, o, none⟩) c d) (n : Nat) (hn : n ≤ d.length) : NB B w (some ⟨g, o + n, none⟩) (c - n) (d.drop n) := by
  obtain ⟨A', c', e, hr, _, hc, hl⟩ := h.sl
  injection e with e1 _ e2
  subst e1 e2
  refine ⟨⟨_, _, by rw [List.length_drop], ?_, (fun e => by cases e), by rw [List.length_drop]; omega, by rw [bv_length, Nat.mul_one]⟩, fun j e => h.fresh j e⟩
  have := hr.drop n
  simpa [bv] using this
theorem NB.nil' {B g o c : Nat} {w : World} {d : List UInt8} (h : NB B w (some ⟨g, o, none⟩) c d) (c' : Nat) : NB B w (some ⟨g, o, none⟩) c' [] :=
  ⟨⟨_, c', rfl, .inl rfl, (fun e => by cases e), Nat.zero_le _, rfl⟩, h.fresh⟩
theorem NB.take {B g o c : Nat} {w : World} {d : List UInt8} (h : NB B w (some ⟨g, o, none⟩) c d) (n : Nat) (hn : n ≤ d.length) : NB B w (some ⟨g, o, none⟩) c (d.take n) := by
  obtain ⟨A', c', e, hr, _, hc, hl⟩ := h.sl
  injection e with e1 _ e2
  subst e1 e2
  have hl2 : (d.take n).length = n := by rw [List.length_take]; omega
  refine ⟨⟨_, _, by rw [hl2], ?_, (fun e => by cases e), by rw [hl2]; omega, by rw [bv_length, Nat.mul_one]⟩, fun j e => h.fresh j e⟩
  have := hr.take n
  simpa [bv, List.map_take] using this
theorem NB.some {B c : Nat} {w : World} {A : Option Addr} {d : List UInt8} (h : NB B w A c d) (h0 : 0 < d.length) : ∃ g o, A = Option.some ⟨g, o, Option.none⟩ := by
  obtain ⟨x, hx⟩ : ∃ x, d[0]? = Option.some x := ⟨d[0], List.getElem?_eq_getElem h0⟩
  obtain ⟨b, o, e, _⟩ := bv_at h.sl hx
  exact ⟨b, o, e⟩
theorem NB.le {B c : Nat} {w : World} {A : Option Addr} {d : List UInt8} (h : NB B w A c d) : d.length ≤ c := by
  obtain ⟨_, _, e, _, _, hc, _⟩ := h.sl
  injection e with _ _ e
  subst e
  exact hc
theorem read_walk (d : List UInt8) (A : Option Addr) (c : Nat) (w : World) (h : Sl w 1 (.slice A d.length c) d.length (bv d)) (hn : d.length ≤ 1000000000) :
    Calls Tryz.prog 65 #[.slice A d.length c] w fun e w' => ∃ k, e = .returned (.pointer (some ⟨k, 0, none⟩)) ∧ w.heap.size ≤ k ∧ FO k w.heap.size w' d ∧ Below w.heap.size w w' := by
  have HC := Lib.hid (clone_walk d A c w h hn)
  clear h
  go_enter Tryz.func65, Tryz.ntmps65
  go_wp2_with fail
  refine HC.out.mono ?_
  rintro e w1 ⟨A1, c1, rfl, ho, hbe⟩
  have HO := Lib.hid ho
  have HB := Lib.hid hbe
  clear ho hbe
  go_wp2
  go_ret
  have hb2 : Below w1.heap.size w1 (w1.alloc (.cells #[.slice A1 d.length c1, .bool false] 131)) := (Below.refl _ w1).alloc (Nat.le_refl _) _
  exact ⟨w1.heap.size, rfl, HB.out.size, ⟨A1, c1, blk_new w1 _, HO.out.nb.below hb2⟩, HB.out.trans (hb2.mono HB.out.size)⟩
theorem take_end {d : List UInt8} {k B n g o c c' : Nat} {A' : Option Addr} {w W : World} (hn : n ≤ d.length) (h : NB B w (some ⟨g, o, none⟩) c d) (hk : Keep (fun j => j = k) w W) (hbw : w.heap[k]? = some (.cells #[.slice (some ⟨g, o, none⟩) d.length c, .bool false] 131 (0, 0))) (hb : W.heap[k]? = some (.cells #[.slice (some ⟨g, o, none⟩) d.length c, .bool false] 131 (0, 0))) (hr : NB B w A' c' (d.drop n)) :
    NB B (W.setCell ⟨k, 0, none⟩ (.slice A' (d.length - n) c')) (some ⟨g, o, none⟩) c (d.take n) ∧ FO k B (W.setCell ⟨k, 0, none⟩ (.slice A' (d.length - n) c')) (d.drop n) ∧ Keep (fun j => j = k) w (W.setCell ⟨k, 0, none⟩ (.slice A' (d.length - n) c')) := by
  have ks := hk.trans ((Keep.refl (fun j => j = k) W).setCell (p := ⟨k, 0, none⟩) (fun _ => rfl) (.slice A' (d.length - n) c')) (fun _ _ h => h)
  have hw : ∀ (A : Option Addr) (c : Nat) (d : List UInt8), NB B w A c d → ∀ j, A.map (·.block) = some j → ¬ j = k := fun A c d h j e => by
    obtain ⟨_, cs, fr, hj⟩ := h.fresh j e
    exact blk_ne hj hbw (by decide)
  refine ⟨(h.take n hn).keep ks (hw _ _ _ h), ⟨A', c', ?_, hr.keep ks (hw _ _ _ hr)⟩, ks⟩
  have := blk_set (j := 0) hb (.slice A' (d.length - n) c')
  rw [List.length_drop]
  simpa using this
set_option maxRecDepth 100000 in
set_option maxHeartbeats 4000000 in
theorem take_walk (d : List UInt8) (k B n : Nat) (w : World) (h : FO k B w d) (hn : n ≤ d.length) (h0 : 0 < n) (hd : d.length ≤ 1000000000) :
    Calls Tryz.prog 67 #[.pointer (some ⟨k, 0, none⟩), .int .i64 (n : Int)] w fun e w' => ∃ A c, e = .returned (.slice A (d.take n).length c) ∧ NB B w' A c (d.take n) ∧ FO k B w' (d.drop n) ∧ Keep (fun j => j = k) w w' := by
  obtain ⟨⟨A, c, hb, hnb⟩⟩ := h
  obtain ⟨g, o, rfl⟩ := hnb.some (by omega)
  have hcap := hnb.le
  have c0 : w.cell? ⟨k, 0, none⟩ = some (.slice (some ⟨g, o, none⟩) d.length c) := (blk_cells hb 0).trans rfl
  have c1 : w.cell? ⟨k, 1, none⟩ = some (.bool false) := (blk_cells hb 1).trans rfl
  have f0 := blk_frees hb 0
  have i0 : ¬ (d.length : Int) < (n : Int) := by omega
  have i1 : (0 : Int) ≤ (n : Int) := by omega
  have i2 : (n : Int) ≤ (c : Int) := by omega
  have i3 : (n : Int) ≤ (d.length : Int) := by omega
  have i4 : (d.length : Int) ≤ (c : Int) := by omega
  have HB := Lib.hid hb
  have HN := Lib.hid hnb
  clear hb hnb
  go_enter Tryz.func67, Tryz.ntmps67
  go_wp2_with fail
  go_step3
  go_wp2_with fail
  have c0r : World.cell? { heap := w.heap, tape := w.tape, drawn := w.drawn + 1, os := w.os, output := w.output } ⟨k, 0, none⟩ = some (.slice (some ⟨g, o, none⟩) d.length c) := c0
  have hlt : (d.take n).length = n := by rw [List.length_take]; omega
  by_cases hcn : c = n
  · subst hcn
    have hdl : d.length = c := by omega
    have HLT := Lib.hid hlt
    have HDL := Lib.hid hdl
    clear hlt hdl
    go_still_tail 16, (by kernel_rfl)
    change wpList _ _ _ _ _ w.drew
    obtain ⟨W, hW⟩ : ∃ W : World, W = w.drew := ⟨_, rfl⟩
    rw [← hW]
    have hkW : Keep (fun j => j = k) w W := by rw [hW]; exact (Keep.refl _ w).drew
    have hbW : W.heap[k]? = some (.cells #[.slice (some ⟨g, o, none⟩) d.length c, .bool false] 131 (0, 0)) := by rw [hW]; exact HB.out
    have c0W : W.cell? ⟨k, 0, none⟩ = some (.slice (some ⟨g, o, none⟩) d.length c) := (blk_cells hbW 0).trans rfl
    have f0W := blk_frees hbW 0
    have HKW := Lib.hid hkW
    have HBW := Lib.hid hbW
    clear hkW hbW hW c0 c0r c1 f0
    have HR := Lib.hid (take_end (n := c) hn HN.out HKW.out HB.out HBW.out (A' := some ⟨g, o, none⟩) (c' := 0) (by rw [List.drop_of_length_le (by omega)]; exact HN.out.nil' 0))
    rw [HDL.out, Nat.sub_self] at HR
    go_wp2
    rw [Exit.noGoto_ret]
    go_ret
    exact ⟨some ⟨g, o, none⟩, c, by rw [HLT.out]; rfl, HR.out.1, HR.out.2.1, HR.out.2.2⟩
  · have z1 : (d.length : Int) - (n : Int) = ((d.length - n : Nat) : Int) := by omega
    have HLT := Lib.hid hlt
    clear hlt
    go_still_tail 16, (by kernel_rfl)
    change wpList _ _ _ _ _ w.drew
    obtain ⟨W, hW⟩ : ∃ W : World, W = w.drew := ⟨_, rfl⟩
    rw [← hW]
    have hkW : Keep (fun j => j = k) w W := by rw [hW]; exact (Keep.refl _ w).drew
    have hbW : W.heap[k]? = some (.cells #[.slice (some ⟨g, o, none⟩) d.length c, .bool false] 131 (0, 0)) := by rw [hW]; exact HB.out
    have c0W : W.cell? ⟨k, 0, none⟩ = some (.slice (some ⟨g, o, none⟩) d.length c) := (blk_cells hbW 0).trans rfl
    have f0W := blk_frees hbW 0
    have HKW := Lib.hid hkW
    have HBW := Lib.hid hbW
    clear hkW hbW hW c0 c0r c1 f0
    have HR := Lib.hid (take_end (n := n) hn HN.out HKW.out HB.out HBW.out (HN.out.drop n hn))
    go_wp2
    rw [Exit.noGoto_ret]
    go_ret
    exact ⟨some ⟨g, o, none⟩, c, by rw [HLT.out]; rfl, HR.out.1, HR.out.2.1, HR.out.2.2⟩
/-- The next number. -/
theorem fnum_walk (d : List UInt8) (k B : Nat) (w : World) (h : FO k B w d) (hn : 4 ≤ d.length) (hd : d.length ≤ 1000000000) (hk : B ≤ k) (hB : B ≤ w.heap.size) :
    Calls Tryz.prog 35 #[.pointer (some ⟨k, 0, none⟩)] w fun e w' => e = .returned (.int .i64 ((unle (d.take 4) : Nat) : Int)) ∧ FO k B w' (d.drop 4) ∧ Below B w w' ∧ Keep (fun j => j = k) w w' := by
  have HT := Lib.hid (take_walk d k B 4 w h hn (by omega) hd)
  have hul := unle_lt (d.take 4)
  have hlt : (d.take 4).length = 4 := by rw [List.length_take]; omega
  rw [hlt] at hul
  have hconv : IntKind.i64.wrap ((unle (d.take 4) : Nat) : Int) = ((unle (d.take 4) : Nat) : Int) := IntWalk.i64_in _ (by omega)
  obtain ⟨T, hT⟩ : ∃ T, T = d.take 4 := ⟨_, rfl⟩
  rw [← hT] at HT hul hlt hconv ⊢
  have HLT := Lib.hid hlt
  clear h hT hul hlt
  go_enter Tryz.func35, Tryz.ntmps35
  go_wp2_with fail
  refine HT.out.mono ?_
  rintro e w1 ⟨A1, c1, rfl, hnb, hfo, hkp⟩
  have HG := Lib.hid (get_walk T A1 c1 w1 hnb.sl (by have := HLT.out; omega))
  have HFO := Lib.hid hfo
  have HKP := Lib.hid hkp
  clear hnb hfo hkp
  go_wp2_with fail
  refine HG.out.mono ?_
  rintro e w2 ⟨rfl, hb2⟩
  have HB2 := Lib.hid hb2
  clear hb2
  go_wp2
  go_ret
  refine ⟨rfl, ?_, (HKP.out.below (fun j e => by rw [e]; exact hk) hB).trans (HB2.out.mono (Nat.le_trans hB HKP.out.size)), HKP.out.trans (Keep.of_below (S := fun _ => False) HB2.out) (fun _ _ h => h.elim)⟩
  obtain ⟨⟨A, c, hb, hnb⟩⟩ := HFO.out
  exact ⟨A, c, (Keep.of_below (S := fun _ => False) HB2.out).blk hb id, hnb.below HB2.out⟩
end Go.Proofs.YtlcfnehmmjhoiaaGreat
