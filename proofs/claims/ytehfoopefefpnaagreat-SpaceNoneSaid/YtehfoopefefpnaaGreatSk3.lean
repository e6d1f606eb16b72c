/- Words and contracts that the proofs of this set use; each part says what it holds. -/
import Derived.Lib.SlBytesConst
import Derived.Maps.OwnSet
import Derived.Lib.SlKeysI
import Derived.Test.YtehfoopefefpnaaGreatSk2
/- Package drive: Put, with power, where nothing waits. -/
set_option linter.unusedSimpArgs false
set_option linter.unusedVariables false
namespace Go.Proofs.YtehfoopefefpnaaGreat
open Go.RowKit

attribute [local go_sem ↓] Go.wp_at_zero Go.wp_at_succ
/-- What is read is not the drive's own block. -/
theorem sl_ne4 {w : World} {Ad : Option Addr} {n c size k : Nat} {xs : List Value} {cs : Array Value} {t : TypeId} {fr : Nat × Nat} (h : Sl w size (.slice Ad n c) n xs) (hk : w.heap[k]? = some (.cells cs t fr)) (hl : cs.size < xs.length) : ∀ j, Ad.map (·.block) = some j → j ≠ k := by
  intro j e hj
  subst hj
  obtain ⟨u, hu⟩ : ∃ u, xs[cs.size]? = some u := ⟨xs[cs.size], List.getElem?_eq_getElem hl⟩
  obtain ⟨b, o, rfl, _, hc⟩ := sl_cell h hu
  have : b = j := Option.some.inj e
  subst this
  rw [blk_cells hk, Array.getElem?_eq_none (by omega)] at hc
  cases hc
theorem wr_ne {w : World} {X : Option Addr} {c k : Nat} {es : List WE} {A : Option Addr} {n1 c1 : Nat} {L : Option Addr} {n2 c2 : Nat} {f : Int} {b : Bool} {t : TypeId} {fr : Nat × Nat} (h : WR w X c es) (hk : w.heap[k]? = some (.cells #[.slice A n1 c1, .slice L n2 c2, .int .i64 f, .bool b] t fr)) (hn : es ≠ []) : ∀ j, X.map (·.block) = some j → j ≠ k := by
  intro j e hj
  subst hj
  obtain ⟨x, hx⟩ : ∃ x, es[0]? = some x := by
    cases es with
    | nil => exact absurd rfl hn
    | cons x es => exact ⟨x, rfl⟩
  obtain ⟨bb, o, rfl, h0, h1⟩ := h.at hx
  have : bb = j := Option.some.inj e
  subst this
  rw [blk_cells hk] at h0 h1
  simp only [Nat.zero_mul, Nat.add_zero] at h0 h1
  match o, h0, h1 with
  | 0, h0, _ => simp at h0
  | 1, h0, _ => simp at h0
  | 2, _, h1 => simp at h1
  | 3, h0, _ => simp at h0
  | o + 4, h0, _ => simp at h0
theorem WR.keepD {w w' : World} {X : Option Addr} {c k : Nat} {es : List WE} {A : Option Addr} {n1 c1 : Nat} {L : Option Addr} {n2 c2 : Nat} {f : Int} {b : Bool} {t : TypeId} {fr : Nat × Nat} (h : WR w X c es) (hk : w.heap[k]? = some (.cells #[.slice A n1 c1, .slice L n2 c2, .int .i64 f, .bool b] t fr)) (h128 : ∀ e ∈ es, e.d.length = 128) (hK : Keep (fun j => j = k ∨ w.heap.size ≤ j) w w') : WR w' X c es := by
  refine ⟨h.sl.keep hK (fun j e hx hS => ?_), fun e he => (h.each e he).keep hK (fun j e' hx hS => ?_)⟩
  · have hn : es ≠ [] := by rintro rfl; exact hx rfl
    rcases hS with hS | hS
    · exact wr_ne h hk hn j (by rw [ownB_slice] at e; exact e) hS
    · have := h.sl.lt e hx; omega
  · rcases hS with hS | hS
    · exact sl_ne4 (h.each e he) hk (by rw [bv_length, h128 e he]; exact (by decide : 4 < 128)) j (by rw [ownB_slice] at e'; exact e') hS
    · have := (h.each e he).lt e' hx; omega
theorem infoW : (Tryz.prog.info? 121).map (fun i => (i.zero, i.size, i.bytes)) = some (some (.agg Tryz.zeroCells121), 129, 136) := by kernel_rfl
theorem eltW : Elt Tryz.prog 111 121 129 136 := Elt.mk' (z := .agg Tryz.zeroCells121) (by kernel_rfl) infoW (by kernel_rfl) (by
  have h : Tryz.zeroCells121.toList.all (fun u => u.oneCell') = true := by kernel_rfl
  exact fun u hu => List.all_eq_true.1 h u hu) (by decide)
def putS (s : DrS) (es : List WE) : DrS := ⟨s.sure, s.list ++ es.map (fun e => (e.at_, e.d)), s.fuse, s.dead⟩
theorem wts_app (l : List (Nat × List UInt8)) (a : Nat) (d : List UInt8) : wts (l ++ [(a, d)]) = wts l ++ (.int .i64 (a : Int) :: bv d) := by
  unfold wts
  simp
/-- Between two rounds. -/
def PuI (B k P : Nat) (s : DrS) (es : List WE) (A : Option Addr) (c : Nat) (w w0 : World) (v20 : Value) (W : World) : Prop :=
  ∃ (i : Nat) (L : Option Addr) (lc : Nat), i ≤ es.length ∧ v20 = .int .i64 (i : Int) ∧ DR B k (putS s (es.take i)) W A c L lc ∧ (∀ j, L.map (·.block) = some j → w0.heap.size ≤ j) ∧ Keep (fun j => j = k ∨ w.heap.size ≤ j) w W ∧ Keep (fun j => j = k ∨ w0.heap.size ≤ j) w0 W
/-- Behind Put: all of it waits. -/
def PuP (B k : Nat) (s : DrS) (es : List WE) (A : Option Addr) (c : Nat) (w : World) (r : Ending) (w' : World) : Prop := ∃ L lc', r = .returned (.int .i64 0) ∧ DR B k (putS s es) w' A c L lc' ∧ (∀ j, L.map (·.block) = some j → w.heap.size ≤ j) ∧ Keep (fun j => j = k ∨ w.heap.size ≤ j) w w'
set_option maxRecDepth 100000 in
set_option maxHeartbeats 8000000 in
theorem dput_walk (B k : Nat) (s : DrS) (X : Option Addr) (cx : Nat) (es : List WE) (A : Option Addr) (c lc : Nat) (w : World) (h : DR B k s w A c none lc) (ho : s.ok) (hl : s.list = []) (hf : s.fuse = -1) (hd : s.dead = false) (hw : WR w X cx es) (hn : es.length ≤ 1000) (h1 : ∀ e ∈ es, e.at_ < s.sure.length ∧ e.d.length = 128) :
    Calls Tryz.prog 53 #[.pointer (some ⟨k, 0, none⟩), .slice X es.length cx] w (PuP B k s es A c w) := by
  have hkw := blk_lt h.blk
  obtain ⟨w0, hw0⟩ : ∃ w0, w0 = w.alloc (.cells #[.pointer (some ⟨k, 0, none⟩)] 51) := ⟨_, rfl⟩
  have hp0 := blk_new w (.cells #[.pointer (some ⟨k, 0, none⟩)] 51)
  have hb0 := (Below.refl w.heap.size w).alloc (Nat.le_refl _) (.cells #[.pointer (some ⟨k, 0, none⟩)] 51)
  rw [← hw0] at hp0 hb0
  have h0 := h.below hb0
  have hw0r := hw.below hb0
  have HP0 := Lib.hid hp0
  have HB0 := Lib.hid hb0
  have H0 := Lib.hid h0
  have HWR := Lib.hid hw0r
  have HRD := Lib.hid (fun W (hW : Below w0.heap.size w0 W) => (ready_walk B k s W A c none lc (h0.below hW)).mono (fun e w' q => (show e = .returned (.int .i64 0) ∧ w' = W from by rw [hd] at q; exact q)))
  have HC1 := Lib.hid (p1_cf X cx es w.heap.size w0 hw0r (by omega) (fun e he W hW => put1_walk w.heap.size k e.at_ e.A e.d.length e.c B s A c none lc W ((Keep.of_below (S := fun _ => False) hW).cell (show w0.cell? ⟨w.heap.size, 0, none⟩ = _ from (blk_cells hp0 0).trans rfl) id) (h0.below hW) (h1 e he).1 ho))
  have HC2 := Lib.hid (fun W (hW : Below w0.heap.size w0 W) => p2_cf X cx es W (hw0r.below hW) (by omega) (fun e he W' hW' => by rw [(h1 e he).2]; exact put2_walk e.at_ e.A e.c W'))
  have HW0 := Lib.hid hw0
  have HO := Lib.hid ho
  have HL := Lib.hid hl
  have HF := Lib.hid hf
  have HD := Lib.hid hd
  have H1 := Lib.hid h1
  have HKW := Lib.hid hkw
  have HWRw := Lib.hid hw
  have HW := Lib.hid h
  have cp0 := blk_cells hp0
  clear h ho hl hf hd hw h1 hw0 hp0 hb0 h0 hw0r hkw
  go_enter Tryz.func53, Tryz.ntmps53
  go_upto_region 1 with fail
  rw [← HW0.out]
  go_wp2_with fail
  refine (HRD.out _ (Below.refl _ _)).mono ?_
  rintro r w' ⟨rfl, hw'⟩
  subst hw'
  go_wp2_with fail
  refine HC1.out.mono ?_
  rintro r wa ⟨rfl, ha⟩
  have HA := Lib.hid ha
  clear ha cp0
  go_wp2_with fail
  refine (HC2.out _ HA.out).mono ?_
  rintro r wb ⟨rfl, hb⟩
  have hb' := HA.out.trans (hb.mono HA.out.size)
  have hp : wb.heap[w.heap.size]? = _ := (Keep.of_below (S := fun _ => False) hb').blk HP0.out id
  have HPB := Lib.hid hp
  have HB := Lib.hid hb'
  have HST : Hid (PuI B k w.heap.size s es A c w wb (.int .i64 0) wb) := Lib.hid ⟨0, none, lc, Nat.zero_le _, rfl, by
      have : putS s (es.take 0) = s := by unfold putS; simp
      rw [this]
      exact H0.out.below hb', (fun j e => by cases e), (Keep.of_below (HB0.out.trans (hb'.mono HB0.out.size))), Keep.refl _ _⟩
  clear hb hb' hp
  go_wp2_with fail
  go_loopw [20] (fun v20 wr => PuI B k w.heap.size s es A c w wb v20 wr) (fun v _ => es.length - (intOf v).toNat)
  case atStart => exact HST.out
  case round =>
    obtain ⟨i, L, lc2, hi, rfl, hdr, hLf, hkk, hkb⟩ := hrel
    have HDR := Lib.hid hdr
    have HWB : Hid (w.heap.size ≤ wb.heap.size) := Lib.hid (by have := HB0.out.size; have := HB.out.size; omega)
    have HLF : Hid (∀ j, L.map (·.block) = some j → w.heap.size ≤ j) := Lib.hid (fun j e => Nat.le_trans HWB.out (hLf j e))
    have HLF2 := Lib.hid hLf
    have HKK := Lib.hid hkk
    have HKB := Lib.hid hkb
    by_cases hlt : i < es.length
    · obtain ⟨x, hx⟩ : ∃ x, es[i]? = some x := ⟨es[i], List.getElem?_eq_getElem hlt⟩
      have hxm := List.mem_of_getElem? hx
      have hwr := HWRw.out.keepD HW.out.blk (fun e he => (H1.out e he).2) hkk
      obtain ⟨b, o, rfl, c0, c1⟩ := hwr.at hx
      have hxd := hwr.each x hxm
      have hx128 := (H1.out x hxm).2
      have g0 : (0 : Int) ≤ (i : Int) := by omega
      have g1 : (i : Int) < (es.length : Int) := by omega
      have g2 : IntKind.i64.wrap ((i : Int) + 1) = (i : Int) + 1 := IntWalk.i64_in _ (by omega)
      rw [hx128] at c1 hxd
      have HXD := Lib.hid hxd
      have HX := Lib.hid hx
      have HX128 := Lib.hid hx128
      obtain ⟨w1, hw1⟩ : ∃ w1, w1 = wr.alloc (.cells #[.int .i64 (x.at_ : Int), .slice x.A 128 x.c] 100) := ⟨_, rfl⟩
      have hq1 := blk_new wr (.cells #[.int .i64 (x.at_ : Int), .slice x.A 128 x.c] 100)
      have hb1 := (Below.refl wr.heap.size wr).alloc (Nat.le_refl _) (.cells #[.int .i64 (x.at_ : Int), .slice x.A 128 x.c] 100)
      rw [← hw1] at hq1 hb1
      have HQ1 := Lib.hid hq1
      have HB1 := Lib.hid hb1
      have HW1 := Lib.hid hw1
      have p1 : w1.cell? ⟨w.heap.size, 0, none⟩ = some (.pointer (some ⟨k, 0, none⟩)) := ((Keep.of_below (S := fun _ => False) hb1).cell (show wr.cell? ⟨w.heap.size, 0, none⟩ = _ from hkb.cell (show wb.cell? ⟨w.heap.size, 0, none⟩ = _ from (blk_cells HPB.out 0).trans rfl) (by have := HKW.out; have := blk_lt HPB.out; show ¬ (w.heap.size = k ∨ wb.heap.size ≤ w.heap.size); omega)) id)
      have p1a := p1
      rw [HW1.out] at p1a
      have HBU := Lib.hid (burn_walk B k _ w1 A c L lc2 (hdr.below hb1) (by show (-1 : Int) ≤ s.fuse; rw [HF.out]; decide) (by show s.fuse ≤ 9223372036854775807; rw [HF.out]; decide))
      have hbs : burnS (putS s (es.take i)) = (putS s (es.take i), true) := by
        unfold burnS
        rw [if_neg (by show ¬ s.fuse = 0; rw [HF.out]; decide)]
        show ((⟨s.sure, s.list ++ (es.take i).map (fun e => (e.at_, e.d)), max (s.fuse - 1) (-1), s.dead⟩ : DrS), true) = _
        rw [HF.out]
        show ((⟨s.sure, s.list ++ (es.take i).map (fun e => (e.at_, e.d)), -1, s.dead⟩ : DrS), true) = ((⟨s.sure, s.list ++ (es.take i).map (fun e => (e.at_, e.d)), s.fuse, s.dead⟩ : DrS), true)
        rw [HF.out]
      rw [hbs] at HBU
      clear hx hxm hwr hxd hx128 hq1 hb1 hw1 hdr hLf hkk hkb hbs
      go_wp2_with fail
      rw [← HW1.out]
      refine HBU.out.mono ?_
      rintro r w2 ⟨rfl, hdr2, hk2⟩
      have HDR2 := Lib.hid hdr2
      have HK2 := Lib.hid hk2
      clear c0 c1 p1a
      have p2 : w2.cell? ⟨w.heap.size, 0, none⟩ = some (.pointer (some ⟨k, 0, none⟩)) := hk2.cell p1 (by have := HKW.out; show ¬ w.heap.size = k; omega)
      have q2 := hk2.blk HQ1.out (by have := HKW.out; have := HKK.out.size; omega)
      clear hdr2 hk2 p1
      go_upto_region 13 with fail
      obtain ⟨db, dof, hxA⟩ : ∃ db dof, x.A = some ⟨db, dof, none⟩ := by
        obtain ⟨g, o', e, _⟩ := sl_cell (k := 0) (u := (bv x.d)[0]'(by rw [bv_length, HX128.out]; decide)) HXD.out (List.getElem?_eq_getElem _)
        exact ⟨g, o', e⟩
      rw [hxA] at q2 HXD
      have hdlt : db < w.heap.size := by
        have h0 := HWRw.out.each x (List.mem_of_getElem? HX.out)
        rw [hxA] at h0
        exact h0.lt rfl (fun e => by rw [bv_eq_nil] at e; have := HX128.out; rw [e] at this; simp at this)
      have hLb : ∀ j, L.map (·.block) = some j → j < wr.heap.size ∧ j ≠ w.heap.size ∧ w.heap.size ≤ j := fun j e => ⟨own_lt HDR.out.list (by rw [ownB_slice]; exact e), fun e2 => by
        obtain ⟨cs, hq⟩ := own_blk HDR.out.list (k := j) (by rw [ownB_slice]; exact e)
        exact blk_ne hq (show wr.heap[w.heap.size]? = _ from HKB.out.blk HPB.out (by have := HKW.out; have := blk_lt HPB.out; show ¬ (w.heap.size = k ∨ wb.heap.size ≤ w.heap.size); omega)) (by decide) e2, HLF.out j e⟩
      have hsz1 : wr.heap.size < w1.heap.size := blk_lt HQ1.out
      have hszw : w.heap.size < wr.heap.size := by have := blk_lt HPB.out; have := HKB.out.size; omega
      have HS : Hid (∀ W, Keep (fun j => j = k ∨ L.map (·.block) = some j ∨ w2.heap.size ≤ j) w2 W → W.cell? ⟨w.heap.size, 0, none⟩ = some (.pointer (some ⟨k, 0, none⟩)) ∧ W.cell? ⟨wr.heap.size, 0, none⟩ = some (.int .i64 (x.at_ : Int)) ∧ W.cell? ⟨wr.heap.size, 1, none⟩ = some (.slice (some ⟨db, dof, none⟩) 128 x.c) ∧ W.rangeAt db dof (bv x.d)) := Lib.hid (fun W hW => by
        have hk2s := HK2.out.size
        have hkw := HKW.out
        refine ⟨hW.cell p2 ?_, hW.cell ((blk_cells q2 0).trans rfl) ?_, hW.cell ((blk_cells q2 1).trans rfl) ?_, fun j v hv => hW.cell (show w2.cell? ⟨db, dof + j, none⟩ = some v from ?_) ?_⟩
        · show ¬ (w.heap.size = k ∨ L.map (·.block) = some w.heap.size ∨ w2.heap.size ≤ w.heap.size)
          rintro (h | h | h)
          · omega
          · exact (hLb _ h).2.1 rfl
          · omega
        · show ¬ (wr.heap.size = k ∨ L.map (·.block) = some wr.heap.size ∨ w2.heap.size ≤ wr.heap.size)
          rintro (h | h | h)
          · omega
          · have := (hLb _ h).1; omega
          · omega
        · show ¬ (wr.heap.size = k ∨ L.map (·.block) = some wr.heap.size ∨ w2.heap.size ≤ wr.heap.size)
          rintro (h | h | h)
          · omega
          · have := (hLb _ h).1; omega
          · omega
        · obtain ⟨bb, oo, ee, _, hcc⟩ := sl_cell HXD.out hv
          injection ee with ee
          injection ee with ee ee2 _
          subst ee ee2
          refine HK2.out.cell ((Keep.of_below (S := fun _ => False) HB1.out).cell hcc id) ?_
          show ¬ db = k
          exact sl_ne4 HXD.out HDR.out.blk (by rw [bv_length, HX128.out]; exact (by decide : 4 < 128)) db rfl
        · show ¬ (db = k ∨ L.map (·.block) = some db ∨ w2.heap.size ≤ db)
          rintro (h | h | h)
          · exact sl_ne4 HXD.out HDR.out.blk (by rw [bv_length, HX128.out]; exact (by decide : 4 < 128)) db rfl h
          · have := (hLb _ h).2.2; omega
          · omega)
      have HK0 := Lib.hid (Keep.refl (fun j => j = k ∨ L.map (·.block) = some j ∨ w2.heap.size ≤ j) w2)
      have hld : ∀ W : World, W.rangeAt db dof (bv x.d) → (Instr.loadAt 119 (.pointer (some ⟨db, dof, none⟩))).run Tryz.prog W = .ok (.agg (bv x.d).toArray) W := fun W hW => run_loadAt_mid W db dof _ _ _ hW (show Tryz.prog.underlying 119 = some (.array 128 5) from by kernel_rfl) rfl (by rw [bv_length, HX128.out]; kernel_rfl)
      have hat : ∀ W : World, (Instr.arrayAt 119 (.slice (some ⟨db, dof, none⟩) 128 x.c)).run Tryz.prog W = .ok (.pointer (some ⟨db, dof, none⟩)) W := fun W => run_arrayAt W 119 5 128 _ 128 _ (by kernel_rfl) (Nat.le_refl _)
      have HBL : Hid ((bv x.d).length = 128) := Lib.hid (by rw [bv_length, HX128.out])
      obtain ⟨m, hm⟩ : ∃ m, m = (putS s (es.take i)).list.length := ⟨_, rfl⟩
      have hml : m ≤ 1000 := by rw [hm]; show (s.list ++ (es.take i).map (fun e => (e.at_, e.d))).length ≤ 1000; rw [HL.out, List.nil_append, List.length_map, List.length_take]; omega
      have hkblk := HDR2.out.blk
      rw [← hm] at hkblk
      have hown2 := HDR2.out.list
      rw [← hm] at hown2
      have r1 : w2.cell? ⟨k, 1, none⟩ = some (.slice L m lc2) := (blk_cells hkblk 1).trans rfl
      have r1a : (w2.drew.alloc (.cells (Value.int .i64 (x.at_ : Int) :: bv x.d).toArray 121)).cell? ⟨k, 1, none⟩ = some (.slice L m lc2) := ((Keep.refl (fun _ => False) w2).drew.alloc _).cell r1 id
      have r1b : (w2.alloc (.cells (Value.int .i64 (x.at_ : Int) :: bv x.d).toArray 121)).cell? ⟨k, 1, none⟩ = some (.slice L m lc2) := ((Keep.refl (fun _ => False) w2).alloc _).cell r1 id
      have HCL : Hid ((Value.int .i64 (x.at_ : Int) :: bv x.d).length = 129) := Lib.hid (by rw [List.length_cons, HBL.out])
      have HOW := Lib.hid (own_keep hown2 ((Keep.refl (fun _ => False) w2).drew.alloc (.cells (Value.int .i64 (x.at_ : Int) :: bv x.d).toArray 121)) (fun _ _ h => h))
      have HSR := Lib.hid (Sl.of_own (own_new w2.drew (Value.int .i64 (x.at_ : Int) :: bv x.d).toArray 121 129 1 (by rw [List.size_toArray, HCL.out]) (by decide)))
      have HON : Hid (∀ u ∈ (Value.int .i64 (x.at_ : Int) :: bv x.d).toArray.toList, u.oneCell' = true) := Lib.hid (by
        intro u hu
        rcases List.mem_cons.1 (by simpa using hu) with rfl | hu
        · rfl
        · exact bv_one _ u hu)
      have HM1 : Hid ((m + 1) * 136 ≤ 140737488355328) := Lib.hid (by omega)
      have HM2 : Hid (m + 1 ≤ maxLen) := Lib.hid (by simp only [maxLen]; omega)
      have HEND : Hid (∀ (A3 : Option Addr) (c3 : Nat) (w3 : World), w3.ownsRow 0 121 129 (.slice A3 (m + 1) c3) (m + 1) (wts (putS s (es.take i)).list ++ (Value.int .i64 (x.at_ : Int) :: bv x.d).toArray.toList) → Keep (fun j => (Value.slice L m lc2).ownBlock = some j) (w2.drew.alloc (.cells (Value.int .i64 (x.at_ : Int) :: bv x.d).toArray 121)) w3 → ((Value.slice A3 (m + 1) c3).ownBlock = (Value.slice L m lc2).ownBlock ∨ (Value.slice A3 (m + 1) c3).ownBlock = some (w2.drew.alloc (.cells (Value.int .i64 (x.at_ : Int) :: bv x.d).toArray 121)).heap.size) →
        w3.cell? ⟨k, 1, none⟩ = some (.slice L m lc2) ∧ w3.frozen? ⟨k, 1, none⟩ = false ∧ Keep (fun j => j = k ∨ L.map (·.block) = some j ∨ w2.heap.size ≤ j) w2 w3 ∧ Keep (fun j => j = k ∨ L.map (·.block) = some j ∨ w2.heap.size ≤ j) w2 (w3.setCell ⟨k, 1, none⟩ (.slice A3 (m + 1) c3)) ∧ PuI B k w.heap.size s es A c w wb (.int .i64 ((i : Int) + 1)) (w3.setCell ⟨k, 1, none⟩ (.slice A3 (m + 1) c3))) := Lib.hid (by
        intro A3 c3 w3 g1 g2 g3
        have k1 : Keep (fun j => L.map (·.block) = some j) w2 w3 := ((Keep.refl (fun j => L.map (·.block) = some j) w2).drew.alloc _).trans g2 (fun j _ e => by rw [ownB_slice] at e; exact e)
        have hLk : ∀ j, L.map (·.block) = some j → j ≠ k := fun j e => own_ne_blk hown2 hkblk (by decide) (k := j) (by rw [ownB_slice]; exact e)
        have hk3 := k1.blk hkblk (fun e => hLk k e rfl)
        have hA3k : ∀ j, A3.map (·.block) = some j → j ≠ k := fun j e => own_ne_blk g1 hk3 (by decide) (k := j) (by rw [ownB_slice]; exact e)
        have ks : Keep (fun j => j = k) w3 (w3.setCell ⟨k, 1, none⟩ (.slice A3 (m + 1) c3)) := (Keep.refl (fun j => j = k) w3).setCell (p := ⟨k, 1, none⟩) (fun _ => rfl) _
        have k2 : Keep (fun j => j = k ∨ L.map (·.block) = some j ∨ w2.heap.size ≤ j) w2 w3 := k1.mono (fun _ _ h => .inr (.inl h))
        have k3 := k2.trans ks (fun j _ h => .inl h)
        have htk : es.take (i + 1) = es.take i ++ [x] := by rw [List.take_add_one, HX.out]; rfl
        have hls : (putS s (es.take (i + 1))).list = (putS s (es.take i)).list ++ [(x.at_, x.d)] := by
          show s.list ++ (es.take (i + 1)).map (fun e => (e.at_, e.d)) = (s.list ++ (es.take i).map (fun e => (e.at_, e.d))) ++ [(x.at_, x.d)]
          rw [htk, List.map_append, List.append_assoc]
          rfl
        have hll : (putS s (es.take (i + 1))).list.length = m + 1 := by rw [hls, List.length_append, ← hm]; rfl
        have hsz2 : wr.heap.size ≤ w2.heap.size := by have := HK2.out.size; omega
        have hA3 : ∀ j, A3.map (·.block) = some j → w.heap.size ≤ j ∧ B ≤ j ∧ wb.heap.size ≤ j := fun j e => by
          rcases g3 with g3 | g3 <;> rw [ownB_slice] at g3
          · rw [ownB_slice] at g3
            exact ⟨HLF.out j (by rw [← g3]; exact e), HDR2.out.newL j (by rw [← g3]; exact e), HLF2.out j (by rw [← g3]; exact e)⟩
          · rw [g3] at e
            have e := Option.some.inj e
            have h9 : (w2.drew.alloc (.cells (Value.int .i64 (x.at_ : Int) :: bv x.d).toArray 121)).heap.size = w2.heap.size + 1 := by simp
            rw [h9] at e
            have := HDR2.out.newk
            have := HKW.out
            have := HKB.out.size
            omega
        have hsk : ∀ j, A.map (·.block) = some j → ¬ (L.map (·.block) = some j) ∧ j ≠ k := fun j e => ⟨own_ne HDR2.out.sure hown2 (by decide) (k := j) (by rw [ownB_slice]; exact e) ∘ (fun h => by rw [ownB_slice]; exact h), own_ne_blk HDR2.out.sure hkblk (by decide) (k := j) (by rw [ownB_slice]; exact e)⟩
        refine ⟨(blk_cells hk3 1).trans rfl, blk_frees hk3 1, k2, k3, i + 1, A3, c3, hlt, by rw [Int.natCast_add]; rfl, ⟨?_, ?_, ?_, HDR2.out.newA, fun j e => (hA3 j e).2.1, HDR2.out.newk⟩, fun j e => (hA3 j e).2.2, ?_, ?_⟩
        · rw [hll]
          exact blk_set (j := 1) hk3 _
        · exact own_keep (own_keep HDR2.out.sure k1 (fun j e => (hsk j (by rw [ownB_slice] at e; exact e)).1)) ks (fun j e => (hsk j (by rw [ownB_slice] at e; exact e)).2)
        · rw [hll, hls, wts_app]
          refine own_keep ?_ ks (fun j e => hA3k j (by rw [ownB_slice] at e; exact e))
          simpa using g1
        · exact HKK.out.trans (((Keep.of_below (S := fun j => j = k ∨ w.heap.size ≤ j) HB1.out).trans (HK2.out.mono (fun _ _ h => .inl h)) (fun _ _ h => h)).trans (k3.mono (T := fun j => j = k ∨ w.heap.size ≤ j) (fun j _ h => by
            rcases h with h | h | h
            · exact .inl h
            · exact .inr (HLF.out j h)
            · right; omega)) (fun _ _ h => h)) (fun _ _ h => h)
        · refine HKB.out.trans (((Keep.of_below (S := fun j => j = k ∨ wb.heap.size ≤ j) HB1.out).trans (HK2.out.mono (fun _ _ h => .inl h)) (fun _ _ h => h)).trans (k3.mono (T := fun j => j = k ∨ wb.heap.size ≤ j) (fun j _ h => by
            rcases h with h | h | h
            · exact .inl h
            · exact .inr (HLF2.out j h)
            · right; have := HKB.out.size; omega)) (fun _ _ h => h)) (fun _ _ h => h))
      clear hkblk hown2 hm
      refine wp_region_held_drew (S := fun W => W.cell? ⟨w.heap.size, 0, none⟩ = some (.pointer (some ⟨k, 0, none⟩)) ∧ W.cell? ⟨wr.heap.size, 0, none⟩ = some (.int .i64 (x.at_ : Int)) ∧ W.cell? ⟨wr.heap.size, 1, none⟩ = some (.slice (some ⟨db, dof, none⟩) 128 x.c) ∧ W.rangeAt db dof (bv x.d)) (by kernel_rfl) ?_ (fun hHeld => ?_)
      · exact HS.out _ HK0.out.drew
      refine wpAnyH_take (i := 0) (oi := ?oiz1) (v := ?vz1) ?hiz1 (by kernel_rfl) (by kernel_rfl) (by kernel_rfl) ?hQz1 ?hyz1 (by assumption) ?restz1
      case hiz1 => (simp only [List.getElem?_toArray, List.getElem?_cons_succ, List.getElem?_cons_zero]; rfl)
      case hyz1 => (refine Or.inl ⟨by rfl, ?_⟩; intro W hSw; (try dsimp only at hSw); obtain ⟨s0, s1, s2, s3⟩ := hSw; have s4 := hld W s3; go_simp; try with_reducible rfl)
      case hQz1 => exact fun _ _ _ h => h
      case' restz1 => try simp only [Act.put, List.setIfInBounds_toArray, List.set_cons_zero, List.set_cons_succ]
      refine wpAnyH_take (i := 1) (oi := ?oiz2) (v := ?vz2) ?hiz2 (by kernel_rfl) (by kernel_rfl) (by kernel_rfl) ?hQz2 ?hyz2 (by assumption) ?restz2
      case hiz2 => (simp only [List.getElem?_toArray, List.getElem?_cons_succ, List.getElem?_cons_zero]; rfl)
      case hyz2 => (refine Or.inl ⟨by rfl, ?_⟩; intro W hSw; (try dsimp only at hSw); obtain ⟨s0, s1, s2, s3⟩ := hSw; have s4 := hld W s3; go_simp; try with_reducible rfl)
      case hQz2 => exact fun _ _ _ h => h
      case' restz2 => try simp only [Act.put, List.setIfInBounds_toArray, List.set_cons_zero, List.set_cons_succ]
      refine wpAnyH_take (i := 2) (oi := ?oiz3) (v := ?vz3) ?hiz3 (by kernel_rfl) (by kernel_rfl) (by kernel_rfl) ?hQz3 ?hyz3 (by assumption) ?restz3
      case hiz3 => (simp only [List.getElem?_toArray, List.getElem?_cons_succ, List.getElem?_cons_zero]; rfl)
      case hyz3 => (refine Or.inl ⟨by rfl, ?_⟩; intro W hSw; (try dsimp only at hSw); obtain ⟨s0, s1, s2, s3⟩ := hSw; have s4 := hld W s3; go_simp; try with_reducible rfl)
      case hQz3 => exact fun _ _ _ h => h
      case' restz3 => try simp only [Act.put, List.setIfInBounds_toArray, List.set_cons_zero, List.set_cons_succ]
      refine wpAnyH_take (i := 3) (oi := ?oiz4) (v := ?vz4) ?hiz4 (by kernel_rfl) (by kernel_rfl) (by kernel_rfl) ?hQz4 ?hyz4 (by assumption) ?restz4
      case hiz4 => (simp only [List.getElem?_toArray, List.getElem?_cons_succ, List.getElem?_cons_zero]; rfl)
      case hyz4 => (refine Or.inl ⟨by rfl, ?_⟩; intro W hSw; (try dsimp only at hSw); obtain ⟨s0, s1, s2, s3⟩ := hSw; have s4 := hld W s3; go_simp; try with_reducible rfl)
      case hQz4 => exact fun _ _ _ h => h
      case' restz4 => try simp only [Act.put, List.setIfInBounds_toArray, List.set_cons_zero, List.set_cons_succ]
      refine wpAnyH_take (i := 5) (oi := ?oiz5) (v := ?vz5) ?hiz5 (by kernel_rfl) (by kernel_rfl) (by kernel_rfl) ?hQz5 ?hyz5 (by assumption) ?restz5
      case hiz5 => (simp only [List.getElem?_toArray, List.getElem?_cons_succ, List.getElem?_cons_zero]; rfl)
      case hyz5 => (refine Or.inl ⟨by rfl, ?_⟩; intro W hSw; (try dsimp only at hSw); obtain ⟨s0, s1, s2, s3⟩ := hSw; have s4 := hld W s3; go_simp; try with_reducible rfl)
      case hQz5 => exact fun _ _ _ h => h
      case' restz5 => try simp only [Act.put, List.setIfInBounds_toArray, List.set_cons_zero, List.set_cons_succ]
      refine wpAnyH_take (i := 6) (oi := ?oiz6) (v := ?vz6) ?hiz6 (by kernel_rfl) (by kernel_rfl) (by kernel_rfl) ?hQz6 ?hyz6 (by assumption) ?restz6
      case hiz6 => (simp only [List.getElem?_toArray, List.getElem?_cons_succ, List.getElem?_cons_zero]; rfl)
      case hyz6 => (refine Or.inl ⟨by rfl, ?_⟩; intro W hSw; (try dsimp only at hSw); obtain ⟨s0, s1, s2, s3⟩ := hSw; have s4 := hld W s3; go_simp; try with_reducible rfl)
      case hQz6 => exact fun _ _ _ h => h
      case' restz6 => try simp only [Act.put, List.setIfInBounds_toArray, List.set_cons_zero, List.set_cons_succ]
      refine wpAnyH_take (i := 7) (oi := ?oiz7) (v := ?vz7) ?hiz7 (by kernel_rfl) (by kernel_rfl) (by kernel_rfl) ?hQz7 ?hyz7 (by assumption) ?restz7
      case hiz7 => (simp only [List.getElem?_toArray, List.getElem?_cons_succ, List.getElem?_cons_zero]; rfl)
      case hyz7 => (refine Or.inl ⟨by rfl, ?_⟩; intro W hSw; (try dsimp only at hSw); obtain ⟨s0, s1, s2, s3⟩ := hSw; have s4 := hld W s3; go_simp; try with_reducible rfl)
      case hQz7 => exact fun _ _ _ h => h
      case' restz7 => try simp only [Act.put, List.setIfInBounds_toArray, List.set_cons_zero, List.set_cons_succ]
      refine wpAnyH_take (i := 8) (oi := ?oiz8) (v := ?vz8) ?hiz8 (by kernel_rfl) (by kernel_rfl) (by kernel_rfl) ?hQz8 ?hyz8 (by assumption) ?restz8
      case hiz8 => (simp only [List.getElem?_toArray, List.getElem?_cons_succ, List.getElem?_cons_zero]; rfl)
      case hyz8 => (refine Or.inl ⟨by rfl, ?_⟩; intro W hSw; (try dsimp only at hSw); obtain ⟨s0, s1, s2, s3⟩ := hSw; have s4 := hld W s3; go_simp; try with_reducible rfl)
      case hQz8 => exact fun _ _ _ h => h
      case' restz8 => try simp only [Act.put, List.setIfInBounds_toArray, List.set_cons_zero, List.set_cons_succ]
      refine wpAnyH_take (i := 9) (oi := ?oiz9) (v := ?vz9) ?hiz9 (by kernel_rfl) (by kernel_rfl) (by kernel_rfl) ?hQz9 ?hyz9 (by assumption) ?restz9
      case hiz9 => (simp only [List.getElem?_toArray, List.getElem?_cons_succ, List.getElem?_cons_zero]; rfl)
      case hyz9 => (refine Or.inl ⟨by rfl, ?_⟩; intro W hSw; (try dsimp only at hSw); obtain ⟨s0, s1, s2, s3⟩ := hSw; have s4 := hld W s3; go_simp; try with_reducible rfl)
      case hQz9 => exact fun _ _ _ h => h
      case' restz9 => try simp only [Act.put, List.setIfInBounds_toArray, List.set_cons_zero, List.set_cons_succ]
      refine wpAnyH_take (i := 10) (oi := ?oiz10) (v := .agg (bv x.d).toArray) ?hiz10 (by kernel_rfl) (by kernel_rfl) (by kernel_rfl) ?hQz10 ?hyz10 (by assumption) ?restz10
      case hiz10 => (simp only [List.getElem?_toArray, List.getElem?_cons_succ, List.getElem?_cons_zero]; rfl)
      case hyz10 => (refine Or.inl ⟨by rfl, ?_⟩; intro W hSw; (try dsimp only at hSw); exact exec_load (by rfl) (by rfl) (hld W hSw.2.2.2))
      case hQz10 => exact fun _ _ _ h => h
      case' restz10 => try simp only [Act.put, List.setIfInBounds_toArray, List.set_cons_zero, List.set_cons_succ]
      refine wpAnyH_take (i := 11) (oi := ?oiz11) (v := .agg (.int .i64 (x.at_ : Int) :: bv x.d).toArray) ?hiz11 (by kernel_rfl) (by kernel_rfl) (by kernel_rfl) ?hQz11 ?hyz11 (by assumption) ?restz11
      case hiz11 => (simp only [List.getElem?_toArray, List.getElem?_cons_succ, List.getElem?_cons_zero]; rfl)
      case hyz11 => (refine Or.inl ⟨by rfl, ?_⟩; intro W hSw; (try dsimp only at hSw); exact exec_build (by rfl) (by rfl) (by rfl) (buildW W _ _ HBL.out))
      case hQz11 => exact fun _ _ _ h => h
      case' restz11 => try simp only [Act.put, List.setIfInBounds_toArray, List.set_cons_zero, List.set_cons_succ]
      refine wpAnyH_ready (rs := [4, 12]) (by kernel_rfl) (by simp) ?_
      refine AllReadyH.cons (o := ?oz22) ?hoz22 (fun K hK => ?stz22) (AllReadyH.cons (o := ?oz23) ?hoz23 (fun K hK => ?stz23) AllReadyH.nil)
      case hoz22 => (simp only [List.getElem?_toArray, List.getElem?_cons_succ, List.getElem?_cons_zero]; rfl)
      case hoz23 => (simp only [List.getElem?_toArray, List.getElem?_cons_succ, List.getElem?_cons_zero]; rfl)
      · go_simp
        refine hK.out _ _ ?_ (fun hHeld => ?_)
        · exact HS.out _ HK0.out.drew
        clear hK K
        try simp only [Act.put, List.setIfInBounds_toArray, List.set_cons_zero, List.set_cons_succ]
        refine wpAnyH_ready (rs := [12]) (by kernel_rfl) (by simp) ?_
        refine AllReadyH.cons (o := ?oz16) ?hoz16 (fun K hK => ?stz16) AllReadyH.nil
        case hoz16 => (simp only [List.getElem?_toArray, List.getElem?_cons_succ, List.getElem?_cons_zero]; rfl)
        refine step_run (by rfl) (exec_buildSlice (by rfl) (by rfl) (buildSW _ _ HCL.out)) ?_
        refine hK.out _ _ ?_ (fun hHeld => ?_)
        · exact HS.out _ (HK0.out.drew.alloc (.cells (Value.int .i64 (x.at_ : Int) :: bv x.d).toArray 121))
        clear hK K
        try simp only [Act.put, List.setIfInBounds_toArray, List.set_cons_zero, List.set_cons_succ]
        refine wpAnyH_ready (rs := [13]) (by kernel_rfl) (by simp) ?_
        refine AllReadyH.cons (o := ?oz15) ?hoz15 (fun K hK => ?stz15) AllReadyH.nil
        case hoz15 => (simp only [List.getElem?_toArray, List.getElem?_cons_succ, List.getElem?_cons_zero]; rfl)
        refine step_app (by rfl) eltW (by rfl) (by rfl) (by rfl) (n := m) (m := 1) HOW.out HSR.out HON.out HM1.out HM2.out ?_
        intro v3 w3 g1 g2 g3 g4
        clear g4
        obtain ⟨A3, c3, rfl, _⟩ := Rd.of_own g1
        have G := HEND.out A3 c3 w3 g1 g2 g3
        have q1 := G.1
        have f1 := G.2.1
        have HG := Lib.hid G.2.2
        clear G g1 g2 g3
        refine hK.out _ _ ?_ (fun hHeld => ?_)
        · exact HS.out _ HG.out.1
        clear hK K
        try simp only [Act.put, List.setIfInBounds_toArray, List.set_cons_zero, List.set_cons_succ]
        refine wpAnyH_take (i := 14) (oi := ?oiz12) (v := ?vz12) ?hiz12 (by kernel_rfl) (by kernel_rfl) (by kernel_rfl) ?hQz12 ?hyz12 (by assumption) ?restz12
        case hiz12 => (simp only [List.getElem?_toArray, List.getElem?_cons_succ, List.getElem?_cons_zero]; rfl)
        case hyz12 => (refine Or.inl ⟨by rfl, ?_⟩; intro W hSw; (try dsimp only at hSw); obtain ⟨s0, s1, s2, s3⟩ := hSw; have s4 := hld W s3; go_simp; try with_reducible rfl)
        case hQz12 => exact fun _ _ _ h => h
        case' restz12 => try simp only [Act.put, List.setIfInBounds_toArray, List.set_cons_zero, List.set_cons_succ]
        refine wpAnyH_take (i := 15) (oi := ?oiz13) (v := ?vz13) ?hiz13 (by kernel_rfl) (by kernel_rfl) (by kernel_rfl) ?hQz13 ?hyz13 (by assumption) ?restz13
        case hiz13 => (simp only [List.getElem?_toArray, List.getElem?_cons_succ, List.getElem?_cons_zero]; rfl)
        case hyz13 => (refine Or.inl ⟨by rfl, ?_⟩; intro W hSw; (try dsimp only at hSw); obtain ⟨s0, s1, s2, s3⟩ := hSw; have s4 := hld W s3; go_simp; try with_reducible rfl)
        case hQz13 => exact fun _ _ _ h => h
        case' restz13 => try simp only [Act.put, List.setIfInBounds_toArray, List.set_cons_zero, List.set_cons_succ]
        refine wpAnyH_ready (rs := [16]) (by kernel_rfl) (by simp) ?_
        refine AllReadyH.cons (o := ?oz14) ?hoz14 (fun K hK => ?stz14) AllReadyH.nil
        case hoz14 => (simp only [List.getElem?_toArray, List.getElem?_cons_succ, List.getElem?_cons_zero]; rfl)
        go_simp
        refine hK.out _ _ ?_ (fun hHeld => ?_)
        · exact HS.out _ HG.out.2.1
        clear hK K
        try simp only [Act.put, List.setIfInBounds_toArray, List.set_cons_zero, List.set_cons_succ]
        refine wpAnyH_done (by kernel_rfl) ?_ _
        go_wp2_with fail
        go_roundw
        case rel => exact HG.out.2.2
        case measure => simp only [intOf]; omega
      · refine step_run (by rfl) (exec_buildSlice (by rfl) (by rfl) (buildSW _ _ HCL.out)) ?_
        refine hK.out _ _ ?_ (fun hHeld => ?_)
        · exact HS.out _ (HK0.out.drew.alloc (.cells (Value.int .i64 (x.at_ : Int) :: bv x.d).toArray 121))
        clear hK K
        try simp only [Act.put, List.setIfInBounds_toArray, List.set_cons_zero, List.set_cons_succ]
        refine wpAnyH_ready (rs := [4]) (by kernel_rfl) (by simp) ?_
        refine AllReadyH.cons (o := ?oz21) ?hoz21 (fun K hK => ?stz21) AllReadyH.nil
        case hoz21 => (simp only [List.getElem?_toArray, List.getElem?_cons_succ, List.getElem?_cons_zero]; rfl)
        go_simp
        refine hK.out _ _ ?_ (fun hHeld => ?_)
        · exact HS.out _ (HK0.out.drew.alloc (.cells (Value.int .i64 (x.at_ : Int) :: bv x.d).toArray 121))
        clear hK K
        try simp only [Act.put, List.setIfInBounds_toArray, List.set_cons_zero, List.set_cons_succ]
        refine wpAnyH_ready (rs := [13]) (by kernel_rfl) (by simp) ?_
        refine AllReadyH.cons (o := ?oz20) ?hoz20 (fun K hK => ?stz20) AllReadyH.nil
        case hoz20 => (simp only [List.getElem?_toArray, List.getElem?_cons_succ, List.getElem?_cons_zero]; rfl)
        refine step_app (by rfl) eltW (by rfl) (by rfl) (by rfl) (n := m) (m := 1) HOW.out HSR.out HON.out HM1.out HM2.out ?_
        intro v3 w3 g1 g2 g3 g4
        clear g4
        obtain ⟨A3, c3, rfl, _⟩ := Rd.of_own g1
        have G := HEND.out A3 c3 w3 g1 g2 g3
        have q1 := G.1
        have f1 := G.2.1
        have HG := Lib.hid G.2.2
        clear G g1 g2 g3
        refine hK.out _ _ ?_ (fun hHeld => ?_)
        · exact HS.out _ HG.out.1
        clear hK K
        try simp only [Act.put, List.setIfInBounds_toArray, List.set_cons_zero, List.set_cons_succ]
        refine wpAnyH_take (i := 14) (oi := ?oiz17) (v := ?vz17) ?hiz17 (by kernel_rfl) (by kernel_rfl) (by kernel_rfl) ?hQz17 ?hyz17 (by assumption) ?restz17
        case hiz17 => (simp only [List.getElem?_toArray, List.getElem?_cons_succ, List.getElem?_cons_zero]; rfl)
        case hyz17 => (refine Or.inl ⟨by rfl, ?_⟩; intro W hSw; (try dsimp only at hSw); obtain ⟨s0, s1, s2, s3⟩ := hSw; have s4 := hld W s3; go_simp; try with_reducible rfl)
        case hQz17 => exact fun _ _ _ h => h
        case' restz17 => try simp only [Act.put, List.setIfInBounds_toArray, List.set_cons_zero, List.set_cons_succ]
        refine wpAnyH_take (i := 15) (oi := ?oiz18) (v := ?vz18) ?hiz18 (by kernel_rfl) (by kernel_rfl) (by kernel_rfl) ?hQz18 ?hyz18 (by assumption) ?restz18
        case hiz18 => (simp only [List.getElem?_toArray, List.getElem?_cons_succ, List.getElem?_cons_zero]; rfl)
        case hyz18 => (refine Or.inl ⟨by rfl, ?_⟩; intro W hSw; (try dsimp only at hSw); obtain ⟨s0, s1, s2, s3⟩ := hSw; have s4 := hld W s3; go_simp; try with_reducible rfl)
        case hQz18 => exact fun _ _ _ h => h
        case' restz18 => try simp only [Act.put, List.setIfInBounds_toArray, List.set_cons_zero, List.set_cons_succ]
        refine wpAnyH_ready (rs := [16]) (by kernel_rfl) (by simp) ?_
        refine AllReadyH.cons (o := ?oz19) ?hoz19 (fun K hK => ?stz19) AllReadyH.nil
        case hoz19 => (simp only [List.getElem?_toArray, List.getElem?_cons_succ, List.getElem?_cons_zero]; rfl)
        go_simp
        refine hK.out _ _ ?_ (fun hHeld => ?_)
        · exact HS.out _ HG.out.2.1
        clear hK K
        try simp only [Act.put, List.setIfInBounds_toArray, List.set_cons_zero, List.set_cons_succ]
        refine wpAnyH_done (by kernel_rfl) ?_ _
        go_wp2_with fail
        go_roundw
        case rel => exact HG.out.2.2
        case measure => simp only [intOf]; omega
    · obtain rfl : i = es.length := by omega
      have g1 : ¬ (es.length : Int) < (es.length : Int) := by omega
      have HFIN : Hid (DR B k (putS s es) wr A c L lc2) := Lib.hid (by have := HDR.out; rw [List.take_length] at this; exact this)
      clear hdr hLf hkk hkb
      go_wp2
      go_ret
      exact ⟨L, lc2, rfl, HFIN.out, HLF.out, HKK.out⟩
end Go.Proofs.YtehfoopefefpnaaGreat
/- Package drive: a sector of the drive's row is written anew. -/
set_option linter.unusedSimpArgs false
set_option linter.unusedVariables false
namespace Go.Proofs.YtehfoopefefpnaaGreat
open Go.RowKit

theorem setW_cells (w : World) (k : Nat) (l : List Value) (o : Nat) : setW w k o l = w.setCells k o l := by
  induction l generalizing w o with
  | nil => rfl
  | cons v l ih => exact ih _ _
theorem keep_setCells (w : World) (k : Nat) (l : List Value) (o : Nat) : Keep (fun j => j = k) w (w.setCells k o l) := by rw [← setW_cells]; exact setW_keep l o w
theorem bv_get (l : List UInt8) (j : Nat) : (bv l)[j]? = (l[j]?).map (fun b => Value.int .u8 (b.toNat : Int)) := by unfold bv; rw [List.getElem?_map]
theorem flat_len (l : List (List UInt8)) (h : ∀ d ∈ l, d.length = 128) : l.flatten.length = 128 * l.length := by
  induction l with
  | nil => rfl
  | cons d l ih => rw [List.flatten_cons, List.length_append, ih (fun d hd => h d (List.mem_cons_of_mem _ hd)), h d (List.mem_cons_self ..), List.length_cons]; omega
theorem set_each (l : List (List UInt8)) (h : ∀ d ∈ l, d.length = 128) (i : Nat) (x : List UInt8) (hx : x.length = 128) : ∀ d ∈ l.set i x, d.length = 128 := by
  intro d hd
  rcases List.mem_or_eq_of_mem_set hd with hd | rfl
  · exact h d hd
  · exact hx
theorem flat_set (l : List (List UInt8)) (h : ∀ d ∈ l, d.length = 128) (i : Nat) (hi : i < l.length) (x : List UInt8) (hx : x.length = 128) (j : Nat) : (l.set i x).flatten[j]? = if i * 128 ≤ j ∧ j < i * 128 + 128 then x[j - i * 128]? else l.flatten[j]? := by
  have hs := set_each l h i x hx
  by_cases hj : j < 128 * l.length
  · obtain ⟨q, r, rfl, hr⟩ : ∃ q r, j = 128 * q + r ∧ r < 128 := ⟨j / 128, j % 128, by omega, by omega⟩
    have hq : q < l.length := by omega
    obtain ⟨b, hb⟩ : ∃ b, l[q]? = some b := ⟨l[q], List.getElem?_eq_getElem hq⟩
    by_cases hqi : q = i
    · subst hqi
      rw [if_pos (by omega), show 128 * q + r - q * 128 = r by omega]
      exact flat128 _ hs q x (by rw [List.getElem?_set_self hq]) r hr
    · rw [if_neg (by omega), flat128 l h q b hb r hr]
      exact flat128 _ hs q b (by rw [List.getElem?_set_ne (fun e => hqi e.symm)]; exact hb) r hr
  · rw [if_neg (by omega), List.getElem?_eq_none (by rw [flat_len _ hs, List.length_set]; omega), List.getElem?_eq_none (by rw [flat_len _ h]; omega)]
/-- The drive's row, behind the store of a sector. -/
theorem own_sector {w : World} {g c N i : Nat} {l : List (List UInt8)} (ho : w.ownsRow 0 119 128 (.slice (some ⟨g, 0, none⟩) N c) N (bv l.flatten)) (hN : l.length = N) (h : ∀ d ∈ l, d.length = 128) (hi : i < N) (x : List UInt8) (hx : x.length = 128) :
    (w.setCells g (i * 128) (bv x)).ownsRow 0 119 128 (.slice (some ⟨g, 0, none⟩) N c) N (bv (l.set i x).flatten) := by
  rcases ho.2 with ⟨e, _⟩ | ⟨g', cap, cur, e, _, hb, h1, h2, h3, h4⟩
  · cases e
  · injection e with e1 _ e2
    injection e1 with e1
    injection e1 with e1 _ _
    subst e1 e2
    have hb2 := setW_blk (bv x) (i * 128) hb
    rw [setW_cells] at hb2
    refine ⟨by rw [bv_length, flat_len _ (set_each l h i x hx), List.length_set, hN, Nat.mul_comm], .inr ⟨g, c, _, rfl, Nat.zero_le _, hb2, h1, h2, by rw [arrW_size]; exact h3, ?_⟩⟩
    apply List.ext_getElem?
    intro j
    rw [bv_get, flat_set l h i (by omega) x hx, List.getElem?_take]
    have h4j : (cur.toList.take (N * 128))[j]? = (bv l.flatten)[j]? := by rw [h4]
    rw [List.getElem?_take, bv_get] at h4j
    by_cases hj : j < N * 128
    · rw [if_pos hj] at h4j ⊢
      rw [Array.getElem?_toList, arrW_get, bv_length, hx]
      by_cases hin : i * 128 ≤ j ∧ j < i * 128 + 128
      · rw [if_pos hin, if_pos ⟨hin.1, hin.2, by have : N * 128 ≤ c * 128 := Nat.mul_le_mul_right _ h1; omega⟩, bv_get]
      · rw [if_neg hin, if_neg (fun q => hin ⟨q.1, q.2.1⟩), ← Array.getElem?_toList, h4j]
    · rw [if_neg hj] at h4j ⊢
      rw [if_neg (by omega)]
      exact h4j
theorem own_there {w : World} {g c N i : Nat} {xs : List Value} (ho : w.ownsRow 0 119 128 (.slice (some ⟨g, 0, none⟩) N c) N xs) (hi : i < N) : w.there g (i * 128) 128 := by
  rcases ho.2 with ⟨e, _⟩ | ⟨g', cap, cur, e, _, hb, h1, h2, h3, h4⟩
  · cases e
  · injection e with e1 _ e2
    injection e1 with e1
    injection e1 with e1 _ _
    subst e1 e2
    have hcn : N * 128 ≤ c * 128 := Nat.mul_le_mul_right _ h1
    intro j hj
    refine ⟨?_, blk_frees hb _⟩
    rw [blk_cells hb, Array.getElem?_eq_getElem (by omega)]
    rfl
/-- A sector that is written. -/
def secS (s : DrS) (i : Nat) (x : List UInt8) : DrS := ⟨s.sure.set i x, s.list, s.fuse, s.dead⟩
theorem DR.sector {B k : Nat} {s : DrS} {w w' : World} {g c : Nat} {L : Option Addr} {lc : Nat} (h : DR B k s w (some ⟨g, 0, none⟩) c L lc) (ho : ∀ d ∈ s.sure, d.length = 128) {i : Nat} (hi : i < s.sure.length) {x : List UInt8} (hx : x.length = 128) : DR B k (secS s i x) (w.setCells g (i * 128) (bv x)) (some ⟨g, 0, none⟩) c L lc := by
  have hk := keep_setCells w g (bv x) (i * 128)
  have hne : ¬ k = g := fun e => by
    obtain ⟨cs, hq⟩ := own_blk h.sure (k := g) rfl
    exact blk_ne hq h.blk (by decide) e.symm
  have hl : (secS s i x).sure.length = s.sure.length := List.length_set ..
  refine ⟨?_, ?_, own_keep h.list hk (fun j e e2 => own_ne h.list h.sure (by decide) e (by rw [e2]; rfl)), h.newA, h.newL, h.newk⟩
  · rw [hl]; exact hk.blk h.blk hne
  · rw [hl]; exact own_sector h.sure rfl ho hi x hx
end Go.Proofs.YtehfoopefefpnaaGreat
/- Package drive: Flush, with power. -/
set_option linter.unusedSimpArgs false
set_option linter.unusedVariables false
namespace Go.Proofs.YtehfoopefefpnaaGreat
open Go.RowKit

attribute [local go_sem ↓] Go.wp_at_zero Go.wp_at_succ
theorem wts_get (l : List (Nat × List UInt8)) (h : ∀ p ∈ l, p.2.length = 128) (i : Nat) (p : Nat × List UInt8) (hp : l[i]? = some p) (j : Nat) (hj : j < 129) : (wts l)[129 * i + j]? = (Value.int .i64 (p.1 : Int) :: bv p.2)[j]? := by
  induction l generalizing i with
  | nil => cases hp
  | cons q l ih =>
    have hq : (Value.int .i64 (q.1 : Int) :: bv q.2).length = 129 := by rw [List.length_cons, bv_length, h q (List.mem_cons_self ..)]
    have e : wts (q :: l) = (Value.int .i64 (q.1 : Int) :: bv q.2) ++ wts l := rfl
    rw [e]
    cases i with
    | zero =>
      obtain rfl : q = p := by simpa using hp
      rw [List.getElem?_append_left (by omega), show 129 * 0 + j = j by omega]
    | succ i =>
      rw [List.getElem?_append_right (by omega), hq, show 129 * (i + 1) + j - 129 = 129 * i + j by omega]
      exact ih (fun p' h' => h p' (List.mem_cons_of_mem _ h')) i (by simpa using hp)
/-- What waits, in the drive's list. -/
theorem DR.wait {B k : Nat} {s : DrS} {w : World} {A : Option Addr} {c : Nat} {L : Option Addr} {lc : Nat} (h : DR B k s w A c L lc) (ho : ∀ p ∈ s.list, p.2.length = 128) {i : Nat} {p : Nat × List UInt8} (hp : s.list[i]? = some p) : ∃ g, L = some ⟨g, 0, none⟩ ∧ w.rangeAt g (i * 129) (Value.int .i64 (p.1 : Int) :: bv p.2) := by
  have hpl : p.2.length = 128 := ho p (List.mem_of_getElem? hp)
  have hi : i < s.list.length := (List.getElem?_eq_some_iff.1 hp).1
  obtain ⟨hlen, hor⟩ := h.list
  rcases hor with ⟨_, h0⟩ | ⟨g, cap, cur, e, _, hcur, h1, h2, h3, h4⟩
  · omega
  injection e with e1 _ e2
  refine ⟨g, e1, fun j v hj => ?_⟩
  have hj2 : j < 129 := by have := (List.getElem?_eq_some_iff.1 hj).1; rw [List.length_cons, bv_length] at this; omega
  rw [cell_of_row w g (i * 129 + j) cur _ _ hcur]
  have hx : (cur.toList.take (s.list.length * 129))[i * 129 + j]? = some v := by
    rw [h4, Nat.mul_comm i 129, wts_get s.list ho i p hp j hj2]
    exact hj
  rw [List.getElem?_take_of_lt (by omega)] at hx
  simpa using hx
def flF (l : List (List UInt8)) (ws : List (Nat × List UInt8)) : List (List UInt8) := ws.foldl (fun acc p => acc.set p.1 p.2) l
theorem flF_len (l : List (List UInt8)) (ws : List (Nat × List UInt8)) : (flF l ws).length = l.length := by
  induction ws generalizing l with
  | nil => rfl
  | cons p ws ih =>
    show (flF (l.set p.1 p.2) ws).length = _
    rw [ih, List.length_set]
theorem flF_each (l : List (List UInt8)) (ws : List (Nat × List UInt8)) (h : ∀ d ∈ l, d.length = 128) (hw : ∀ p ∈ ws, p.2.length = 128) : ∀ d ∈ flF l ws, d.length = 128 := by
  induction ws generalizing l with
  | nil => exact h
  | cons p ws ih => exact ih (l.set p.1 p.2) (set_each l h p.1 p.2 (hw p (List.mem_cons_self ..))) (fun q hq => hw q (List.mem_cons_of_mem _ hq))
theorem flF_take {l : List (List UInt8)} {ws : List (Nat × List UInt8)} {i : Nat} {p : Nat × List UInt8} (hp : ws[i]? = some p) : flF l (ws.take (i + 1)) = (flF l (ws.take i)).set p.1 p.2 := by
  unfold flF
  rw [List.take_add_one, hp]
  simp
/-- So many sectors are written. -/
def flS (s : DrS) (i : Nat) : DrS := ⟨flF s.sure (s.list.take i), s.list, s.fuse, s.dead⟩
def flushS (s : DrS) : DrS := ⟨flF s.sure s.list, [], s.fuse, s.dead⟩
theorem flS_zero (s : DrS) : flS s 0 = s := rfl
theorem flS_succ {s : DrS} {i : Nat} {p : Nat × List UInt8} (hp : s.list[i]? = some p) : flS s (i + 1) = secS (flS s i) p.1 p.2 := by
  unfold flS secS
  rw [flF_take hp]
def FlI (B k : Nat) (s : DrS) (g c : Nat) (L : Option Addr) (lc : Nat) (w : World) (v19 : Value) (W : World) : Prop :=
  ∃ i : Nat, i ≤ s.list.length ∧ v19 = .int .i64 (i : Int) ∧ DR B k (flS s i) W (some ⟨g, 0, none⟩) c L lc ∧ Keep (fun j => j = k ∨ j = g) w W
/-- Behind Flush: nothing waits. -/
def FlP (B k : Nat) (s : DrS) (g c : Nat) (w : World) (r : Ending) (w' : World) : Prop := r = .returned (.int .i64 0) ∧ DR B k (flushS s) w' (some ⟨g, 0, none⟩) c none 0 ∧ Keep (fun j => j = k ∨ j = g) w w'
theorem flS_step {B k : Nat} {s : DrS} {w : World} {g c : Nat} {L : Option Addr} {lc i : Nat} {p : Nat × List UInt8} (h : DR B k (flS s i) w (some ⟨g, 0, none⟩) c L lc) (ho : s.ok) (hp : s.list[i]? = some p) (h1 : p.1 < (flS s i).sure.length) (h2 : p.2.length = 128) : DR B k (flS s (i + 1)) (w.drew.setCells g (p.1 * 128) (bv p.2)) (some ⟨g, 0, none⟩) c L lc := by
  have hd : DR B k (flS s i) w.drew (some ⟨g, 0, none⟩) c L lc := h.keep (Keep.refl (fun _ => False) w).drew id (fun _ _ => id) (fun _ _ => id)
  have hx := DR.sector (w' := w) hd (flF_each _ _ ho.each (fun q hq => (ho.wait q (List.mem_of_mem_take hq)).2)) h1 h2
  rw [flS_succ hp]
  exact hx
/-- The list is let go. -/
theorem DR.flushed {B k : Nat} {s : DrS} {w : World} {g c : Nat} {L : Option Addr} {lc : Nat} (h : DR B k (flS s s.list.length) w (some ⟨g, 0, none⟩) c L lc) : DR B k (flushS s) (w.setCell ⟨k, 1, none⟩ (.slice none 0 0)) (some ⟨g, 0, none⟩) c none 0 := by
  have e : flF s.sure (s.list.take s.list.length) = flF s.sure s.list := by rw [List.take_length]
  have hk := keep_set w k 1 (.slice none 0 0)
  have hb := blk_set h.blk (.slice none 0 0) (j := 1)
  unfold flS at h hb
  rw [e] at h hb
  exact ⟨hb.trans rfl, own_keep h.sure hk (fun j e hj => by obtain ⟨cs, hq⟩ := own_blk h.sure e; exact blk_ne hq h.blk (by decide) hj), own_nil' _ _ _ _, h.newA, (fun j e => by cases e), h.newk⟩
theorem infoWt : (Tryz.prog.info? 121).map (·.size) = some 129 := by kernel_rfl
theorem allocW (W : World) : (Instr.alloc 121 true (.tuple #[])).run Tryz.prog W = .ok (.pointer (some ⟨W.heap.size, 0, none⟩)) (W.alloc (.cells Tryz.zeroCells121 121)) := by
  simp [go_sem]
theorem wait_there (W : World) : (W.alloc (.cells Tryz.zeroCells121 121)).there W.heap.size 0 129 := fun j hj => by
  have hx := blk_new W (.cells Tryz.zeroCells121 121)
  refine ⟨?_, blk_frees hx _⟩
  rw [blk_cells hx, Nat.zero_add, Array.getElem?_eq_getElem (by rw [wait_size]; exact hj)]
  rfl
set_option maxRecDepth 100000 in
set_option maxHeartbeats 8000000 in
theorem flush_walk (B k : Nat) (s : DrS) (g c : Nat) (L : Option Addr) (lc : Nat) (w : World) (h : DR B k s w (some ⟨g, 0, none⟩) c L lc) (ho : s.ok) (hf : s.fuse = -1) (hd : s.dead = false) (hn : s.list.length ≤ 100000) :
    Calls Tryz.prog 56 #[.pointer (some ⟨k, 0, none⟩)] w (FlP B k s g c w) := by
  have HRD := Lib.hid ((ready_walk B k s w _ c L lc h).mono (fun e w' q => (show e = .returned (.int .i64 0) ∧ w' = w from by rw [hd] at q; exact q)))
  have HBU := Lib.hid (burn_walk B k s w _ c L lc h (by rw [hf]; decide) (by rw [hf]; decide))
  have hbs : burnS s = (s, true) := by
    unfold burnS
    rw [if_neg (by rw [hf]; decide)]
    have : max (s.fuse - 1) (-1) = s.fuse := by rw [hf]; decide
    rw [this]
  rw [hbs] at HBU
  have HO := Lib.hid ho
  have HF := Lib.hid hf
  have HD := Lib.hid hd
  clear h ho hf hd hbs
  go_enter Tryz.func56, Tryz.ntmps56
  go_wp2_with fail
  refine HRD.out.mono ?_
  rintro r w0 ⟨rfl, hw0⟩
  subst hw0
  go_wp2_with fail
  refine HBU.out.mono ?_
  rintro r w1 ⟨rfl, h1, hk1⟩
  obtain ⟨n, hnn⟩ : ∃ n, n = s.list.length := ⟨_, rfl⟩
  have c1 : w1.cell? ⟨k, 1, none⟩ = some (.slice L n lc) := by rw [hnn]; exact (blk_cells h1.blk 1).trans rfl
  have HST : Hid (FlI B k s g c L lc w0 (.int .i64 0) w1) := Lib.hid ⟨0, Nat.zero_le _, rfl, by rw [flS_zero]; exact h1, hk1.mono (fun _ _ h => .inl h)⟩
  have HNN := Lib.hid hnn
  rw [← hnn] at hn
  clear h1 hk1 hnn
  go_wp2_with fail
  go_loopw [19] (fun v19 wr => FlI B k s g c L lc w0 v19 wr) (fun v _ => n - (intOf v).toNat)
  case atStart => exact HST.out
  case round =>
    obtain ⟨i, hi, rfl, hdr, hkk⟩ := hrel
    rw [← HNN.out] at hi
    have HDR := Lib.hid hdr
    have HKK := Lib.hid hkk
    by_cases hlt : i < n
    · have hlt' : i < s.list.length := by rw [← HNN.out]; exact hlt
      obtain ⟨p, hp⟩ : ∃ p, s.list[i]? = some p := ⟨s.list[i], List.getElem?_eq_getElem hlt'⟩
      obtain ⟨hp1, hp2⟩ := HO.out.wait p (List.mem_of_getElem? hp)
      have HP := Lib.hid hp
      obtain ⟨gL, rfl, hra⟩ := hdr.wait (fun p hp => (HO.out.wait p hp).2) (p := p) (i := i) hp
      have hcl : (Value.int .i64 (p.1 : Int) :: bv p.2).length = 129 := by rw [List.length_cons, bv_length, hp2]
      have g0 : (0 : Int) ≤ (i : Int) := by omega
      have g1 : (i : Int) < (n : Int) := by omega
      have g2 : IntKind.i64.wrap ((i : Int) + 1) = (i : Int) + 1 := IntWalk.i64_in _ (by omega)
      have HCL := Lib.hid hcl
      have HON : Hid (∀ u ∈ (Value.int .i64 (p.1 : Int) :: bv p.2), u.oneCell' = true) := Lib.hid (by
        intro u hu
        rcases List.mem_cons.1 hu with rfl | hu
        · rfl
        · exact bv_one _ u hu)
      have HRA := Lib.hid hra
      have HTH : Hid ((wr.alloc (.cells Tryz.zeroCells121 121)).there wr.heap.size 0 (Value.int .i64 (p.1 : Int) :: bv p.2).toArray.size) := Lib.hid (by
        have e : (Value.int .i64 (p.1 : Int) :: bv p.2).toArray.size = 129 := by rw [List.size_toArray, hcl]
        rw [e]
        exact wait_there wr)
      have HP1 := Lib.hid hp1
      have HP2 := Lib.hid hp2
      clear hdr hkk hp hra hcl hp1 hp2 hlt'
      go_upto_region 8 with fail
      refine wp_region_lit ?_
      refine wpList_run (v := .pointer (some ⟨gL, i * 129, none⟩)) (w' := wr) (by rfl) (by go_simp) ?_
      refine wpList_load_mid (by rfl) 121 (.tmp 21) (by rfl) gL (i * 129) (by rfl) (.int .i64 (p.1 : Int) :: bv p.2) _ HRA.out Tryz.underlying121 rfl (by rw [HCL.out]; exact infoWt) ?_
      refine wpList_run (v := .pointer (some ⟨wr.heap.size, 0, none⟩)) (w' := wr.alloc (.cells Tryz.zeroCells121 121)) (by rfl) (exec_alloc (by rfl) (allocW wr)) ?_
      refine wpList_store_mid (by rfl) 121 (.tmp 5) (.tmp 22) (by rfl) wr.heap.size 0 (Value.int .i64 (p.1 : Int) :: bv p.2).toArray (by rfl) (by rfl) HTH.out (by rw [List.size_toArray, HCL.out]; exact infoWt) (all_oneCell_toArray HON.out) ?_
      refine wpList_nil ?_
      simp only [Act.put, List.setIfInBounds_toArray, List.set_cons_zero, List.set_cons_succ]
      obtain ⟨w2, hw2⟩ : ∃ w2, w2 = (wr.alloc (.cells Tryz.zeroCells121 121)).setCells wr.heap.size 0 (Value.int .i64 (p.1 : Int) :: bv p.2) := ⟨_, rfl⟩
      have hr2 : w2.rangeAt wr.heap.size 0 (Value.int .i64 (p.1 : Int) :: bv p.2) := by
        have hth := HTH.out
        have e : (Value.int .i64 (p.1 : Int) :: bv p.2).toArray.size = (Value.int .i64 (p.1 : Int) :: bv p.2).length := List.size_toArray
        rw [e] at hth
        rw [hw2]
        exact World.rangeAt_setCells_same _ _ _ _ hth
      have hk2 : Keep (fun j => wr.heap.size ≤ j) wr w2 := by
        rw [hw2]
        exact ((Keep.refl (fun j => wr.heap.size ≤ j) wr).alloc _).trans (keep_setCells _ _ _ _) (fun j _ h => by have h : j = wr.heap.size := h; omega)
      show Exit.then _ _ _ _ ((wr.alloc (.cells Tryz.zeroCells121 121)).setCells wr.heap.size 0 (Value.int .i64 (p.1 : Int) :: bv p.2))
      rw [← hw2]
      have hdr2 := HDR.out.keep hk2 (by have := blk_lt HDR.out.blk; omega) (fun j e => by have := own_lt HDR.out.sure (k := j) (by rw [ownB_slice]; exact e); omega) (fun j e => by have := own_lt HDR.out.list (k := j) (by rw [ownB_slice]; exact e); omega)
      have hQk : k < wr.heap.size := blk_lt HDR.out.blk
      have hQg : g < wr.heap.size := own_lt HDR.out.sure (k := g) rfl
      have hgk : ¬ k = g := fun e => by
        obtain ⟨cs, hq⟩ := own_blk HDR.out.sure (k := g) rfl
        exact blk_ne hq HDR.out.blk (by decide) e.symm
      obtain ⟨N, hN⟩ : ∃ N, N = (flS s i).sure.length := ⟨_, rfl⟩
      have hNs : N = s.sure.length := by rw [hN]; exact flF_len _ _
      have hpN : p.1 < N := by rw [hNs]; exact HP1.out
      have hN1 : N ≤ 1024 := by rw [hNs]; exact HO.out.len
      have q0 : w2.cell? ⟨wr.heap.size, 0, none⟩ = some (.int .i64 (p.1 : Int)) := hr2 0 _ rfl
      have qr : w2.rangeAt wr.heap.size 1 (bv p.2) := fun j v hv => by
        have := hr2 (j + 1) v (by rw [List.getElem?_cons_succ]; exact hv)
        rw [show 0 + (j + 1) = 1 + j by omega] at this
        exact this
      have ks : w2.cell? ⟨k, 0, none⟩ = some (.slice (some ⟨g, 0, none⟩) N c) := by rw [hN]; exact (blk_cells hdr2.blk 0).trans rfl
      have hth2 : w2.there g (p.1 * 128) 128 := own_there hdr2.sure (by rw [← hN]; exact hpN)
      have HDR2 := Lib.hid hdr2
      have HK2 := Lib.hid hk2
      have HS : Hid (∀ W, Keep (fun j => j = g) w2 W → (∀ o, w2.there g o 128 → W.there g o 128) → W.cell? ⟨k, 0, none⟩ = some (.slice (some ⟨g, 0, none⟩) N c) ∧ W.cell? ⟨wr.heap.size, 0, none⟩ = some (.int .i64 (p.1 : Int)) ∧ W.rangeAt wr.heap.size 1 (bv p.2) ∧ W.there g (p.1 * 128) 128) := Lib.hid (fun W hW hT => ⟨hW.cell ks hgk, hW.cell q0 (by show ¬ wr.heap.size = g; omega), fun j v hv => hW.cell (qr j v hv) (by show ¬ wr.heap.size = g; omega), hT _ hth2⟩)
      have HK0 := Lib.hid (Keep.refl (fun j => j = g) w2)
      have HKS := Lib.hid ((Keep.refl (fun j => j = g) w2).drew.trans (keep_setCells w2.drew g (bv p.2) (p.1 * 128)) (fun _ _ h => h))
      have HT0 : Hid (∀ o, w2.there g o 128 → w2.there g o 128) := Lib.hid (fun _ h => h)
      have HTD : Hid (∀ o, w2.there g o 128 → w2.drew.there g o 128) := Lib.hid (fun _ h => h)
      have HTS : Hid (∀ o, w2.there g o 128 → (w2.drew.setCells g (p.1 * 128) (bv p.2)).there g o 128) := Lib.hid (fun o h => World.there_setCells (HTD.out o h) _ _ _)
      have undA : Tryz.prog.underlying 119 = some (.array 128 5) := by kernel_rfl
      have h1v := bv_one p.2
      have infS : (Tryz.prog.info? 119).map (·.size) = some (bv p.2).length := by rw [bv_length, HP2.out]; kernel_rfl
      have hbl : (bv p.2).length = 128 := by rw [bv_length, HP2.out]
      have rd := HS.out _ HK0.out HT0.out
      have p0 : (0 : Int) ≤ (p.1 : Int) := by omega
      have p1 : (p.1 : Int) < (N : Int) := by omega
      have HNE : Hid (k < wr.heap.size ∧ g < wr.heap.size ∧ N = (flS s i).sure.length ∧ p.1 < N) := Lib.hid ⟨hQk, hQg, hN, hpN⟩
      clear hw2 hr2 hk2 hdr2 hN hNs q0 qr ks hth2 hQk hQg hgk hpN
      go_upto_region 9 with fail
      go_region_held3 (fun W => W.cell? ⟨k, 0, none⟩ = some (.slice (some ⟨g, 0, none⟩) N c) ∧ W.cell? ⟨wr.heap.size, 0, none⟩ = some (.int .i64 (p.1 : Int)) ∧ W.rangeAt wr.heap.size 1 (bv p.2) ∧ W.there g (p.1 * 128) 128) (first | with_reducible exact HS.out _ HK0.out HT0.out | with_reducible exact HS.out _ HK0.out.drew HTD.out | with_reducible exact HS.out _ HKS.out HTS.out) (first | (fail))
      have HDR3 : Hid (DR B k (flS s (i + 1)) (w2.drew.setCells g (p.1 * 128) (bv p.2)) (some ⟨g, 0, none⟩) c (some ⟨gL, 0, none⟩) lc) := Lib.hid (flS_step HDR2.out HO.out HP.out (by rw [← HNE.out.2.2.1]; exact HNE.out.2.2.2) HP2.out)
      have HK3 : Hid (Keep (fun j => j = k ∨ j = g) w0 (w2.drew.setCells g (p.1 * 128) (bv p.2))) := Lib.hid ((HKK.out.trans HK2.out (fun j hj h => absurd hj (by have h : wr.heap.size ≤ j := h; have := HKK.out.size; omega))).trans HKS.out (fun j _ h => .inr h))
      go_wp2_with fail
      go_roundw
      case rel =>
        exact ⟨i + 1, by rw [← HNN.out]; omega, rfl, HDR3.out, HK3.out⟩
      case measure =>
        show n - ((i : Int) + 1).toNat < n - ((i : Int)).toNat
        omega
    · obtain rfl : i = n := by omega
      have g1 : ¬ ((i : Int) < (i : Int)) := by omega
      have f1 := blk_frees hdr.blk 1
      have c1 := blk_cells hdr.blk 1
      clear hdr hkk
      go_wp2_with fail
      go_ret
      refine ⟨rfl, ?_, HKK.out.trans (keep_set wr k 1 (.slice none 0 0)) (fun j _ h => .inl h)⟩
      have hx := HDR.out
      rw [HNN.out] at hx
      exact hx.flushed
end Go.Proofs.YtehfoopefefpnaaGreat
/- Package redo: numbers that may be in a head. -/
set_option linter.unusedSimpArgs false
set_option linter.unusedVariables false
namespace Go.Proofs.YtehfoopefefpnaaGreat
open Go.RowKit

attribute [local go_sem ↓] Go.wp_at_zero Go.wp_at_succ
def nv (l : List Nat) : List Value := l.map fun (n : Nat) => Value.int .i64 (n : Int)
theorem nv_len (l : List Nat) : (nv l).length = l.length := by unfold nv; rw [List.length_map]
structure goodL (l : List Nat) : Prop where
  len : l.length ≤ 24
  each : ∀ n ∈ l, n < 1024 ∧ (n < 1 ∨ 26 ≤ n)
  nd : l.Nodup
def GdI (l : List Nat) (v11 : Value) : Prop := ∃ i : Nat, i ≤ l.length ∧ v11 = .int .i64 (i : Int)
theorem not_before {l : List Nat} (h : l.Nodup) {i n : Nat} (hn : l[i]? = some n) : (((l.map fun (x : Nat) => (x : Int)).take i).contains (n : Int)) = false := by
  rw [Bool.eq_false_iff]
  intro hc
  rw [List.contains_iff_mem, ← List.map_take, List.mem_map] at hc
  obtain ⟨x, hx, e⟩ := hc
  obtain rfl : x = n := by omega
  obtain ⟨j, hj⟩ := List.mem_iff_getElem?.1 hx
  have hji : j < i := by have := (List.getElem?_eq_some_iff.1 hj).1; rw [List.length_take] at this; omega
  rw [List.getElem?_take_of_lt hji] at hj
  have hi := (List.getElem?_eq_some_iff.1 hn).1
  have := (List.getElem?_inj (i := j) (j := i) (by omega) h).1 (hj.trans hn.symm)
  omega
set_option maxHeartbeats 2000000 in
theorem good_yes (l : List Nat) (A : Option Addr) (c : Nat) (w : World) (h : Sl w 1 (.slice A l.length c) l.length (nv l)) (hg : goodL l) :
    Calls Tryz.prog 124 #[.slice A l.length c] w fun e w' => e = .returned (.bool true) ∧ w' = w := by
  have HX := Lib.hid h
  have HG := Lib.hid hg
  have hl := hg.len
  have t0 : ¬ (24 : Int) < (l.length : Int) := by omega
  clear h hg
  go_enter Tryz.func124, Tryz.ntmps124
  go_wp2_with fail
  go_loop [11] (fun v => GdI l v) (fun v => l.length - (intOf v).toNat)
  case atStart => exact ⟨0, Nat.zero_le _, rfl⟩
  case round =>
    obtain ⟨i, hi, rfl⟩ := hrel
    by_cases hlt : i < l.length
    · obtain ⟨n, hn⟩ : ∃ n, l[i]? = some n := ⟨l[i], List.getElem?_eq_getElem hlt⟩
      have hnl := HG.out.each n (List.mem_of_getElem? hn)
      obtain ⟨b, o, rfl, hc⟩ : ∃ b o, A = some ⟨b, o, none⟩ ∧ w.cell? ⟨b, o + i, none⟩ = some (.int .i64 (n : Int)) := (by
        obtain ⟨b, o, e, _, hc⟩ := sl_cell (k := i) (u := .int .i64 (n : Int)) HX.out (by unfold nv; rw [List.getElem?_map, hn]; rfl)
        exact ⟨b, o, e, hc⟩)
      have g0 : (0 : Int) ≤ (i : Int) := by omega
      have g1 : (i : Int) < (l.length : Int) := by omega
      have g2 : IntKind.i64.wrap ((i : Int) + 1) = (i : Int) + 1 := IntWalk.i64_in _ (by omega)
      have g3 : ¬ (n : Int) < 0 := by omega
      have g4 : ¬ (1024 : Int) ≤ (n : Int) := by omega
      have HCC : Hid (Calls Tryz.prog 145 #[.slice (some ⟨b, o, none⟩) i c, .int .i64 (n : Int)] w fun e w' => e = .returned (.bool false) ∧ w' = w) := Lib.hid (by
        have hz : i ≤ (l.map fun (x : Nat) => (x : Int)).length := by rw [List.length_map]; omega
        have hx := Tryz.slices_Contains_int b o i c (l.map fun (x : Nat) => (x : Int)) (n : Int) w hz (by omega) (fun j hj => by
          rw [List.length_map] at hj
          obtain ⟨b', o', e, _, hc'⟩ := sl_cell (k := j) (u := .int .i64 (l[j] : Int)) HX.out (by unfold nv; rw [List.getElem?_map, List.getElem?_eq_getElem hj]; rfl)
          injection e with e
          injection e with e1 e2 _
          subst e1; subst e2
          rw [hc']
          simp [hj])
        rw [not_before HG.out.nd hn] at hx
        exact hx)
      have hic : i ≤ c := by
        obtain ⟨A', c', e', _, _, h2, _⟩ := HX.out
        injection e' with _ _ e2
        omega
      clear hn
      rcases hnl.2 with h26 | h26
      · have g6 : ¬ (1 : Int) ≤ (n : Int) := by omega
        go_wp2_with fail
        refine HCC.out.mono ?_
        rintro e w' ⟨rfl, rfl⟩
        go_wp2
        exact ⟨⟨i + 1, hlt, by rw [Int.natCast_add]; rfl⟩, by simp only [intOf]; omega⟩
      · have g6 : (1 : Int) ≤ (n : Int) := by omega
        have g7 : ¬ (n : Int) < 26 := by omega
        have g8 : ¬ (n : Int) < 1 := by omega
        go_wp2_with fail
        refine HCC.out.mono ?_
        rintro e w' ⟨rfl, rfl⟩
        go_wp2
        exact ⟨⟨i + 1, hlt, by rw [Int.natCast_add]; rfl⟩, by simp only [intOf]; omega⟩
    · obtain rfl : i = l.length := by omega
      have g1 : ¬ (l.length : Int) < (l.length : Int) := by omega
      go_wp2
      go_ret
      exact ⟨rfl, rfl⟩
end Go.Proofs.YtehfoopefefpnaaGreat
/- Package redo: Head. -/
set_option linter.unusedSimpArgs false
set_option linter.unusedVariables false
namespace Go.Proofs.YtehfoopefefpnaaGreat
open Go.RowKit

attribute [local go_sem ↓] Go.wp_at_zero Go.wp_at_succ
def headN (l : List Nat) : List UInt8 := l.flatMap fun n => [UInt8.ofNat n, UInt8.ofNat (n / 256)]
theorem headN_len (l : List Nat) : (headN l).length = 2 * l.length := by
  induction l with
  | nil => rfl
  | cons a l ih =>
    show (UInt8.ofNat a :: UInt8.ofNat (a / 256) :: headN l).length = _
    simp only [List.length_cons, ih]
    omega
theorem headN_take {l : List Nat} {i n : Nat} (hn : l[i]? = some n) : headN (l.take (i + 1)) = headN (l.take i) ++ [UInt8.ofNat n, UInt8.ofNat (n / 256)] := by
  unfold headN
  rw [List.take_add_one, hn]
  simp
/-- What is in a head behind so many numbers. -/
def headI (l : List Nat) (i : Nat) : List UInt8 := [82, 69, 68, 79] ++ le l.length 4 ++ headN (l.take i)
def headE (l : List Nat) : List UInt8 := sealP ([82, 69, 68, 79] ++ le l.length 4 ++ headN l ++ List.replicate (116 - 2 * l.length) 0)
theorem headE_len (l : List Nat) (h : l.length ≤ 24) : (headE l).length = 128 := by
  unfold headE
  rw [sealP_len]
  simp only [List.length_append, le_len, headN_len, List.length_replicate, List.length_cons, List.length_nil]
  omega
def HeI (l : List Nat) (w : World) (v4 v21 : Value) (W : World) : Prop := ∃ (i : Nat) (A : Option Addr) (c : Nat) (d : List UInt8), i ≤ l.length ∧ d = headI l i ∧ v21 = .int .i64 (i : Int) ∧ v4 = .slice A d.length c ∧ AB w.heap.size W A c d ∧ Below w.heap.size w W
def HeP (l : List Nat) (w : World) (e : Ending) (w' : World) : Prop := ∃ A' d, d = headE l ∧ e = .returned (.tuple #[.slice A' d.length d.length, .int .i64 0]) ∧ NB w.heap.size w' A' d.length d ∧ Below w.heap.size w w'
set_option maxRecDepth 100000 in
set_option maxHeartbeats 4000000 in
theorem head_walk (l : List Nat) (A : Option Addr) (c : Nat) (w : World) (h : Sl w 1 (.slice A l.length c) l.length (nv l)) (hg : goodL l) :
    Calls Tryz.prog 90 #[.slice A l.length c] w (HeP l w) := by
  have HG := Lib.hid (good_yes l A c w h hg)
  have HX := Lib.hid h
  have HE := Lib.hid hg.each
  have hl := hg.len
  obtain ⟨m, hm⟩ : ∃ m, m = l.length := ⟨_, rfl⟩
  have hcv := fun (w : World) (C : Array Value) (n c : Nat) => Lib.run_convert_bytes_const (P := Tryz.prog) w 22 5 C n c Tryz.underlying22 Tryz.underlying5
  have hown := const_nb w.heap.size w [82, 69, 68, 79] (4, 5) (Nat.le_refl _)
  have hb3 : Below w.heap.size w (w.alloc (.cells #[.int .u8 82, .int .u8 69, .int .u8 68, .int .u8 79] 5 (4, 5))) := (Below.refl _ w).alloc (Nat.le_refl _) _
  have HB3 := Lib.hid hb3
  have HNW := Lib.hid (num_walk [82, 69, 68, 79] _ 4 l.length _ hown.sl (by decide) (by omega))
  clear h hg hown hb3
  go_enter Tryz.func90, Tryz.ntmps90
  go_wp2_with fail
  refine HG.out.mono ?_
  rintro e w1 ⟨rfl, hw1⟩
  subst hw1
  go_wp2_with fail
  refine (HNW.out).mono ?_
  rintro e w2 ⟨A2, d2, hd2, rfl, hn2, hb2⟩
  have HB2 := Lib.hid (HB3.out.trans (hb2.mono HB3.out.size))
  have HST : Hid (HeI l w1 (.slice A2 d2.length d2.length) (.int .i64 0) w2) := Lib.hid ⟨0, A2, d2.length, d2, Nat.zero_le _, by rw [hd2]; unfold headI; simp [headN], rfl, rfl, (hn2.mono HB3.out.size).ab, HB2.out⟩
  clear hd2 hn2 hb2 hcv
  go_wp2_with fail
  go_loopw [4, 21] (fun v4 v21 wr => HeI l w1 v4 v21 wr) (fun _ v _ => l.length - (intOf v).toNat)
  case atStart => exact HST.out
  case round =>
    obtain ⟨i, A4, c4, d, hi, hd, rfl, rfl, hab, hbw⟩ := hrel
    have HAB0 := Lib.hid hab
    have HBW := Lib.hid hbw
    have hdl : d.length = 8 + 2 * i := by rw [hd]; unfold headI; simp only [List.length_append, le_len, headN_len, List.length_cons, List.length_nil, List.length_take]; omega
    have HD := Lib.hid hd
    clear hd hab hbw
    by_cases hlt : i < l.length
    · obtain ⟨n, hn⟩ : ∃ n, l[i]? = some n := ⟨l[i], List.getElem?_eq_getElem hlt⟩
      have hnl := (HE.out n (List.mem_of_getElem? hn)).1
      obtain ⟨b, o, rfl, hc⟩ : ∃ b o, A = some ⟨b, o, none⟩ ∧ wr.cell? ⟨b, o + i, none⟩ = some (.int .i64 (n : Int)) := (by
        obtain ⟨b, o, e, _, hc⟩ := sl_cell (k := i) (u := .int .i64 (n : Int)) (HX.out.below HBW.out) (by unfold nv; rw [List.getElem?_map, hn]; rfl)
        exact ⟨b, o, e, hc⟩)
      obtain ⟨v1, hv1⟩ : ∃ u : UInt8, u = UInt8.ofNat n := ⟨_, rfl⟩
      obtain ⟨v2, hv2⟩ : ∃ u : UInt8, u = UInt8.ofNat (n / 256) := ⟨_, rfl⟩
      have e1 : (n : Int) % 256 = (v1.toNat : Int) := by rw [hv1]; simp
      have e2 : (n : Int) / 256 % 256 = (v2.toNat : Int) := by rw [hv2, UInt8.toNat_ofNat']; omega
      have e3 : (n : Int) / 256 = (v2.toNat : Int) := by rw [hv2, UInt8.toNat_ofNat']; omega
      have g1 : (i : Int) < (l.length : Int) := by omega
      have g0 : (0 : Int) ≤ (i : Int) := by omega
      have g2 : IntKind.i64.wrap ((i : Int) + 1) = (i : Int) + 1 := IntWalk.i64_in _ (by omega)
      have HNT := Lib.hid (headN_take hn)
      have HV1 := Lib.hid hv1
      have HV2 := Lib.hid hv2
      have hl3 : d.length + 2 ≤ 1000000000 := by omega
      have HSO := Lib.hid (Sl.of_own (own_new wr #[.int .u8 (v1.toNat : Int), .int .u8 (v2.toNat : Int)] 5 1 2 rfl (by decide)))
      have HABB := Lib.hid (HAB0.out.below ((Below.refl wr.heap.size wr).alloc (Nat.le_refl _) (.cells #[.int .u8 (v1.toNat : Int), .int .u8 (v2.toNat : Int)] 5)))
      have HB1 : Hid (w1.heap.size ≤ (wr.alloc (.cells #[.int .u8 (v1.toNat : Int), .int .u8 (v2.toNat : Int)] 5)).heap.size) := Lib.hid (by have := HBW.out.size; simp; omega)
      clear hn hv1 hv2 hdl
      go_wp2_with (at_builtin; go_must (refine wpList_appB (B := w1.heap.size) (n := d.length) (m := 2) (d := d) (e := [v1, v2]) rfl rfl rfl rfl rfl rfl HABB.out HSO.out (.inl (by decide)) HB1.out hl3 ?_))
      intro A8 c8 w8 h8
      obtain ⟨D, hD⟩ : ∃ D, D = d ++ [v1, v2] := ⟨_, rfl⟩
      rw [← hD] at h8
      have hl8 : D.length = d.length + 2 := by rw [hD, List.length_append]; rfl
      rw [← hl8]
      have HR : Hid (HeI l w1 (.slice A8 D.length c8) (.int .i64 ((i : Int) + 1)) w8) := Lib.hid ⟨i + 1, A8, c8, D, hlt, by rw [hD, HD.out, HV1.out, HV2.out]; unfold headI; rw [HNT.out, ← List.append_assoc], by rw [Int.natCast_add]; rfl, rfl, h8.ab, HBW.out.trans (((Below.refl wr.heap.size wr).alloc (Nat.le_refl _) _).mono HBW.out.size |>.trans h8.be)⟩
      clear hD h8 hl8
      go_wp2_with fail
      go_roundw
      case rel => exact HR.out
      case measure => simp only [intOf]; omega
    · obtain rfl : i = l.length := by omega
      obtain ⟨z, hz⟩ : ∃ z : Nat, z = 116 - 2 * l.length := ⟨_, rfl⟩
      have e0 : IntKind.i64.wrap (124 - (d.length : Int)) = (z : Int) := by rw [IntWalk.i64_in _ (by omega)]; omega
      have h16 : 0 < d.length ∧ 0 < z ∧ d.length + z ≤ 1000000000 := by omega
      have g1 : ¬ (l.length : Int) < (l.length : Int) := by omega
      have HZ := Lib.hid hz
      have H124 : Hid (d.length + z = 124) := Lib.hid (by omega)
      have hB4 : w1.heap.size ≤ wr.heap.size := HBW.out.size
      clear hz hdl
      go_wp2_with (at_builtin; go_must (refine wpList_zerosB rfl rfl (n := d.length) (m := z) rfl rfl rfl HAB0.out h16.1 h16.2.1 hB4 h16.2.2 ?_))
      intro A6 c6 w6 hab6
      obtain ⟨D, hD⟩ : ∃ D, D = d ++ List.replicate z 0 := ⟨_, rfl⟩
      rw [← hD] at hab6
      have hl6 : D.length = d.length + z := by rw [hD]; simp
      rw [← hl6]
      have HSE := Lib.hid (sealed_walk D A6 c6 w6 hab6.ab.nb.sl (by have := H124.out; omega))
      have HB6 := Lib.hid hab6.be
      have HDD := Lib.hid hD
      clear hab6 hl6 hD
      go_wp2_with fail
      refine HSE.out.mono ?_
      rintro e w7 ⟨A7, d7, hd7, rfl, hnb, hbe⟩
      have HD7 : Hid (d7 = headE l) := Lib.hid (by rw [hd7, HDD.out, HD.out, HZ.out]; unfold headE headI; rw [List.take_length])
      have HB7 := Lib.hid (HBW.out.trans (HB6.out.trans (hbe.mono (Nat.le_trans hB4 HB6.out.size))))
      have HNB := Lib.hid (hnb.mono (Nat.le_trans hB4 HB6.out.size))
      clear hd7 hnb hbe
      go_wp2
      go_ret2
      exact ⟨A7, d7, HD7.out, rfl, HNB.out, HB7.out⟩
end Go.Proofs.YtehfoopefefpnaaGreat
/- Package redo: Heads of an empty head; waits; mark. -/
set_option linter.unusedSimpArgs false
set_option linter.unusedVariables false
namespace Go.Proofs.YtehfoopefefpnaaGreat
open Go.RowKit

attribute [local go_sem ↓] Go.wp_at_zero Go.wp_at_succ
theorem good_nil : goodL [] where
  len := by decide
  each := fun n h => absurd h (by simp)
  nd := List.nodup_nil
theorem sl_nilv (w : World) : Sl w 1 (.slice none 0 0) ([] : List Nat).length (nv []) := ⟨none, 0, rfl, .inl rfl, fun _ => ⟨rfl, rfl⟩, Nat.le_refl _, rfl⟩
set_option maxHeartbeats 400000 in
theorem heads0_walk (A : Option Addr) (c : Nat) (w : World) (h : Sl w 1 (.slice A 128 c) 128 (bv (headE []))) :
    Calls Tryz.prog 125 #[.slice A 128 c] w fun e w' => e = .returned (.tuple #[.slice none 0 0, .int .i64 0]) ∧ Below w.heap.size w w' := by
  have hl := headE_len [] (by decide)
  obtain ⟨b, o, rfl, _, hc⟩ := sl_cell (k := 4) (u := .int .u8 0) h rfl
  obtain ⟨H, hH⟩ : ∃ H, H = headE [] := ⟨_, rfl⟩
  rw [← hH] at h hl
  have HX := Lib.hid h
  have HL := Lib.hid hl
  have HEH := Lib.hid hH
  have hh : Calls Tryz.prog 90 #[.slice none 0 0] w (HeP [] w) := head_walk [] none 0 w (sl_nilv w) good_nil
  unfold HeP at hh
  rw [← hH] at hh
  have HH := Lib.hid hh
  clear h hl hH hh
  go_enter Tryz.func125, Tryz.ntmps125
  go_wp2_with fail
  go_loop [4, 19] (fun u v => u = .slice none 0 0 ∧ v = .int .i64 0) (fun _ v => 0)
  case atStart => exact ⟨rfl, rfl⟩
  case round =>
    obtain ⟨rfl, rfl⟩ := hrel
    go_wp2_with fail
    refine HH.out.mono ?_
    rintro e w1 ⟨A', d, hd, rfl, hn, hb⟩
    have HE := Lib.hid (equal_walk d H A' (some ⟨b, o, none⟩) d.length c w1 hn.sl (by rw [HL.out]; exact HX.out.below hb))
    rw [HL.out] at HE
    have hq : (d == H) = true := by rw [hd, HEH.out]; exact beq_self_eq_true _
    rw [hq] at HE
    have HB := Lib.hid hb
    clear hd hn hb hq
    go_wp2_with fail
    refine HE.out.mono ?_
    rintro e w2 ⟨rfl, rfl⟩
    go_wp2
    go_ret2
    exact ⟨rfl, HB.out⟩
end Go.Proofs.YtehfoopefefpnaaGreat
/- Package redo: waits, mark. -/
set_option linter.unusedSimpArgs false
set_option linter.unusedVariables false
namespace Go.Proofs.YtehfoopefefpnaaGreat
open Go.RowKit

attribute [local go_sem ↓] Go.wp_at_zero Go.wp_at_succ
/-- A drive with power, where nothing waits. -/
structure DrS.on (s : DrS) : Prop where
  ok : s.ok
  list : s.list = []
  fuse : s.fuse = -1
  dead : s.dead = false
def esW (es : List WE) : List (Nat × List UInt8) := es.map fun e => (e.at_, e.d)
/-- Sectors are written. -/
def wrS (s : DrS) (ws : List (Nat × List UInt8)) : DrS := ⟨flF s.sure ws, [], s.fuse, s.dead⟩
theorem wrS_on {s : DrS} (h : s.on) {ws : List (Nat × List UInt8)} (hw : ∀ p ∈ ws, p.2.length = 128) : (wrS s ws).on where
  ok := ⟨by show (flF _ _).length ≤ _; rw [flF_len]; exact h.ok.len, flF_each _ _ h.ok.each hw, (fun p hp => by cases hp), h.ok.lo, h.ok.hi⟩
  list := rfl
  fuse := h.fuse
  dead := h.dead
theorem flush_put (s : DrS) (es : List WE) (h : s.list = []) : flushS (putS s es) = wrS s (esW es) := by
  unfold flushS putS wrS esW
  rw [h]
  rfl
theorem putS_ok {s : DrS} (h : s.on) {es : List WE} (h1 : ∀ e ∈ es, e.at_ < s.sure.length ∧ e.d.length = 128) : (putS s es).ok := by
  unfold putS
  refine ⟨h.ok.len, h.ok.each, fun p hp => ?_, h.ok.lo, h.ok.hi⟩
  rw [h.list] at hp
  simp at hp
  obtain ⟨e, he, rfl⟩ := hp
  exact h1 e he
theorem bstep {w w1 w2 : World} (h : Below w.heap.size w w1) (hb : Below w1.heap.size w1 w2) : Below w.heap.size w w2 := h.trans (hb.mono h.size)
theorem waits_walk (B k : Nat) (s : DrS) (w : World) (A : Option Addr) (c : Nat) (h : DR B k s w A c none 0) (hs : s.on) (hb : s.sure[1]? = some (headE [])) :
    Calls Tryz.prog 80 #[.pointer (some ⟨k, 0, none⟩)] w fun e w' => e = .returned (.tuple #[.slice none 0 0, .int .i64 0]) ∧ Below w.heap.size w w' := by
  have HG := Lib.hid (dget_walk B k s w A c 0 h hs.ok hs.list hs.dead 1 _ hb)
  clear h hs hb
  go_enter Tryz.func80, Tryz.ntmps80
  go_wp2_with fail
  refine HG.out.mono ?_
  rintro e w1 ⟨g, rfl, h1, _, hb1⟩
  have HH := Lib.hid (heads0_walk _ _ w1 h1)
  have HB := Lib.hid hb1
  clear h1 hb1
  go_wp2_with fail
  refine HH.out.mono ?_
  rintro e w2 ⟨rfl, hb2⟩
  have HB2 := Lib.hid (bstep HB.out hb2)
  clear hb2
  go_wp2
  go_ret2
  exact ⟨rfl, HB2.out⟩
/-- A drive's blocks: its own, its row of sectors, and what is new. -/
abbrev drvK (k g : Nat) (w : World) : Nat → Prop := fun j => j = k ∨ j = g ∨ w.heap.size ≤ j
def WrP (B k : Nat) (s : DrS) (g c : Nat) (ws : List (Nat × List UInt8)) (w : World) (r : Ending) (w' : World) : Prop := r = .returned (.int .i64 0) ∧ DR B k (wrS s ws) w' (some ⟨g, 0, none⟩) c none 0 ∧ Keep (drvK k g w) w w'
/-- The list of one write, laid by a call. -/
theorem one_wr (w : World) (a : Nat) (A : Option Addr) (c : Nat) (d : List UInt8) (h : Sl w 1 (.slice A d.length c) d.length (bv d)) : WR (w.alloc (.cells #[.int .i64 (a : Int), .slice A d.length c] 100)) (some ⟨w.heap.size, 0, none⟩) 1 [⟨a, A, c, d⟩] := by
  have hb : Below w.heap.size w (w.alloc (.cells #[.int .i64 (a : Int), .slice A d.length c] 100)) := (Below.refl _ w).alloc (Nat.le_refl _) _
  refine ⟨Sl.of_own (own_new w #[.int .i64 (a : Int), .slice A d.length c] 100 2 1 rfl (by decide)), fun e he => ?_⟩
  obtain rfl : e = ⟨a, A, c, d⟩ := by simpa using he
  exact h.below hb
/-- Flush behind Put. -/
theorem put_flush {B k : Nat} {s : DrS} {es : List WE} {g c : Nat} {w w3 : World} {L : Option Addr} {lc : Nat} (hs : s.on) (h1 : ∀ e ∈ es, e.at_ < s.sure.length ∧ e.d.length = 128) (hn : es.length ≤ 1000) (hd : DR B k (putS s es) w3 (some ⟨g, 0, none⟩) c L lc) (hk : Keep (fun j => j = k ∨ w.heap.size ≤ j) w w3) :
    Calls Tryz.prog 56 #[.pointer (some ⟨k, 0, none⟩)] w3 (WrP B k s g c (esW es) w) :=
  (flush_walk B k (putS s es) g c L lc w3 hd (putS_ok hs h1) hs.fuse hs.dead (by show (s.list ++ es.map _).length ≤ _; rw [hs.list, List.nil_append, List.length_map]; omega)).mono fun e w4 q => by
    obtain ⟨rfl, hd4, hk4⟩ := q
    rw [flush_put s es hs.list] at hd4
    exact ⟨rfl, hd4, (hk.mono (T := drvK k g w) (fun j _ h => h.imp id .inr)).trans hk4 (fun j _ h => h.imp id .inl)⟩
set_option maxHeartbeats 1000000 in
theorem mark_walk (B k : Nat) (s : DrS) (w : World) (g c : Nat) (h : DR B k s w (some ⟨g, 0, none⟩) c none 0) (hs : s.on) (h1 : 1 < s.sure.length) (l : List Nat) (A : Option Addr) (cl : Nat) (hl : Sl w 1 (.slice A l.length cl) l.length (nv l)) (hg : goodL l) :
    Calls Tryz.prog 81 #[.pointer (some ⟨k, 0, none⟩), .slice A l.length cl] w (WrP B k s g c [(1, headE l)] w) := by
  have HH := Lib.hid (head_walk l A cl w hl hg)
  have HHL := Lib.hid (headE_len l hg.len)
  have HD := Lib.hid h
  have HS := Lib.hid hs
  have H1 := Lib.hid h1
  clear h hs h1 hl hg
  go_enter Tryz.func81, Tryz.ntmps81
  go_wp2_with fail
  refine HH.out.mono ?_
  rintro e w1 ⟨A', d, hd, rfl, hn, hb⟩
  have hdl : d.length = 128 := by rw [hd]; exact HHL.out
  obtain ⟨w2, hw2⟩ : ∃ w2, w2 = w1.alloc (.cells #[.int .i64 ((1 : Nat) : Int), .slice A' d.length d.length] 100) := ⟨_, rfl⟩
  have hb12 : Below w1.heap.size w1 w2 := by rw [hw2]; exact (Below.refl _ w1).alloc (Nat.le_refl _) _
  have HB2 := Lib.hid (bstep hb hb12)
  have hwr := one_wr w1 1 A' d.length d hn.sl
  rw [← hw2] at hwr
  have HPU := Lib.hid (dput_walk B k s _ 1 [⟨1, A', d.length, d⟩] (some ⟨g, 0, none⟩) c 0 w2 (HD.out.below HB2.out) HS.out.ok HS.out.list HS.out.fuse HS.out.dead hwr (by show 1 ≤ 1000; omega) (fun e he => by
    obtain rfl : e = ⟨1, A', d.length, d⟩ := by simpa using he
    exact ⟨H1.out, hdl⟩))
  have HDD := Lib.hid hd
  have HDL := Lib.hid hdl
  have HW2 := Lib.hid hw2
  clear hd hn hb hdl hw2 hb12 hwr
  go_wp2_with fail
  rw [show (Value.int .i64 1) = .int .i64 ((1 : Nat) : Int) from rfl, ← HW2.out]
  refine HPU.out.mono ?_
  rintro e w3 ⟨L, lc, rfl, hd3, _, hk3⟩
  have HF := Lib.hid (put_flush (w := w2) HS.out (fun e he => by
    obtain rfl : e = ⟨1, A', d.length, d⟩ := by simpa using he
    exact ⟨H1.out, HDL.out⟩) (by show 1 ≤ 1000; omega) hd3 hk3)
  clear hd3 hk3
  go_wp2_with fail
  refine HF.out.mono ?_
  rintro e w4 ⟨rfl, hd4, hk4⟩
  have HD4 : Hid (DR B k (wrS s [(1, headE l)]) w4 (some ⟨g, 0, none⟩) c none 0) := Lib.hid (by rw [← HDD.out]; exact hd4)
  have HK4 : Hid (Keep (drvK k g w) w w4) := Lib.hid ((Keep.of_below (S := drvK k g w) HB2.out).trans hk4 (fun j _ h => h.imp id (.imp id (fun h => Nat.le_trans HB2.out.size h))))
  clear hd4 hk4
  go_wp2
  go_ret
  exact ⟨rfl, HD4.out, HK4.out⟩
theorem wrS_app (s : DrS) (a b : List (Nat × List UInt8)) : wrS (wrS s a) b = wrS s (a ++ b) := by
  unfold wrS flF
  rw [List.foldl_append]
theorem WrP.then_ {B k : Nat} {s : DrS} {g c : Nat} {a b : List (Nat × List UInt8)} {w w1 w2 : World} {r r' : Ending} (h : WrP B k s g c a w r w1) (h2 : WrP B k (wrS s a) g c b w1 r' w2) : WrP B k s g c (a ++ b) w r' w2 := by
  obtain ⟨_, _, hk1⟩ := h
  obtain ⟨e2, hd2, hk2⟩ := h2
  rw [wrS_app] at hd2
  exact ⟨e2, hd2, hk1.trans hk2 (fun j hj h => h.imp id (.imp id (fun h => absurd hj (by have h : w1.heap.size ≤ j := h; have := hk1.size; omega))))⟩
set_option maxHeartbeats 1000000 in
theorem home_walk (B k : Nat) (s : DrS) (w : World) (g c : Nat) (h : DR B k s w (some ⟨g, 0, none⟩) c none 0) (hs : s.on) (hlt : 1 < s.sure.length) (X : Option Addr) (cx : Nat) (es : List WE) (hw : WR w X cx es) (hn : es.length ≤ 1000) (h1 : ∀ e ∈ es, e.at_ < s.sure.length ∧ e.d.length = 128) :
    Calls Tryz.prog 82 #[.pointer (some ⟨k, 0, none⟩), .slice X es.length cx] w (WrP B k s g c (esW es ++ [(1, headE [])]) w) := by
  have HPU := Lib.hid (dput_walk B k s X cx es (some ⟨g, 0, none⟩) c 0 w h hs.ok hs.list hs.fuse hs.dead hw hn h1)
  have HS := Lib.hid hs
  have H1 := Lib.hid h1
  have HLT := Lib.hid hlt
  clear h hs h1 hlt hw
  go_enter Tryz.func82, Tryz.ntmps82
  go_wp2_with fail
  refine HPU.out.mono ?_
  rintro e w3 ⟨L, lc, rfl, hd3, _, hk3⟩
  have HF := Lib.hid (put_flush (w := w) HS.out H1.out hn hd3 hk3)
  clear hd3 hk3
  go_wp2_with fail
  refine HF.out.mono ?_
  intro e w4 hq
  have HQ := Lib.hid hq
  obtain ⟨rfl, hd4, hk4⟩ := hq
  have hon := wrS_on HS.out (ws := esW es) (fun p hp => by
    obtain ⟨e, he, rfl⟩ := List.mem_map.1 hp
    exact (H1.out e he).2)
  have HM := Lib.hid (mark_walk B k _ w4 g c hd4 hon (by show 1 < (flF _ _).length; rw [flF_len]; exact HLT.out) [] none 0 (sl_nilv w4) good_nil)
  clear hd4 hk4 hon
  go_wp2_with fail
  refine HM.out.mono ?_
  intro e w5 hq
  have HR := Lib.hid (HQ.out.then_ hq)
  obtain ⟨rfl, _, _⟩ := hq
  go_wp2
  go_ret
  exact HR.out
end Go.Proofs.YtehfoopefefpnaaGreat
/- Package redo: targets. -/
set_option linter.unusedSimpArgs false
set_option linter.unusedVariables false
namespace Go.Proofs.YtehfoopefefpnaaGreat
open Go.RowKit

attribute [local go_sem ↓] Go.wp_at_zero Go.wp_at_succ
/-- A new row that only grows. -/
structure NR (N : Nat) (T : TypeId) (size : Nat) (w : World) (v : Value) (n : Nat) (xs : List Value) : Prop where
  own : w.ownsRow 0 T size v n xs
  fresh : ∀ j, v.ownBlock = some j → N ≤ j
theorem NR.nil (N : Nat) (T : TypeId) (size : Nat) (w : World) : NR N T size w (.slice none 0 0) 0 [] := ⟨own_nil' _ _ _ _, fun j e => by rw [ownBlock_slice] at e; cases e⟩
theorem NR.below {N : Nat} {T : TypeId} {size : Nat} {w w' : World} {v : Value} {n : Nat} {xs : List Value} (h : NR N T size w v n xs) (hb : Below w.heap.size w w') : NR N T size w' v n xs := ⟨own_keep h.own (Keep.of_below (S := fun _ => False) hb) (fun _ _ h => h), h.fresh⟩
/-- It has grown. -/
theorem NR.grown {N : Nat} {T : TypeId} {size : Nat} {w w0 w1 w' : World} {v v' : Value} {n n' : Nat} {xs ys : List Value} (h : NR N T size w v n xs) (hN : N = w0.heap.size) (h0 : Below N w0 w1) (g1 : w'.ownsRow 0 T size v' n' ys) (g2 : Keep (fun k => v.ownBlock = some k) w1 w') (g3 : v'.ownBlock = v.ownBlock ∨ v'.ownBlock = some w1.heap.size) : NR N T size w' v' n' ys ∧ Below N w0 w' := by
  have hs : N ≤ w1.heap.size := by rw [hN]; exact h0.size
  refine ⟨⟨g1, fun j e => ?_⟩, ?_⟩
  · rcases g3 with g3 | g3
    · exact h.fresh j (by rw [← g3]; exact e)
    · rw [g3] at e
      have := Option.some.inj e
      omega
  · exact h0.trans (g2.below (fun j e => h.fresh j e) hs)
def TgI (es : List WE) (w : World) (v6 v11 : Value) (W : World) : Prop := ∃ (i : Nat) (A : Option Addr) (c : Nat), i ≤ es.length ∧ v11 = .int .i64 (i : Int) ∧ v6 = .slice A i c ∧ NR w.heap.size 3 1 W (.slice A i c) i (nv ((es.map (·.at_)).take i)) ∧ Below w.heap.size w W
def TgP (l : List Nat) (w : World) (r : Ending) (w' : World) : Prop := ∃ A c, r = .returned (.tuple #[.slice A l.length c, .bool true]) ∧ NR w.heap.size 3 1 w' (.slice A l.length c) l.length (nv l) ∧ Below w.heap.size w w'
set_option maxHeartbeats 4000000 in
theorem targets_walk (B k : Nat) (s : DrS) (w : World) (A : Option Addr) (c : Nat) (h : DR B k s w A c none 0) (hlen : s.sure.length ≤ 1024) (X : Option Addr) (cx : Nat) (es : List WE) (hw : WR w X cx es) (h1 : ∀ e ∈ es, e.at_ < s.sure.length ∧ e.d.length = 128) (hg : goodL (es.map (·.at_))) :
    Calls Tryz.prog 79 #[.pointer (some ⟨k, 0, none⟩), .slice X es.length cx] w (TgP (es.map (·.at_)) w) := by
  have HD := Lib.hid h
  have H1 := Lib.hid h1
  have HG := Lib.hid hg
  have HW := Lib.hid hw
  have hn : es.length ≤ 24 := by have := hg.len; rwa [List.length_map] at this
  have hkw : k < w.heap.size := blk_lt h.blk
  clear h h1 hg hw
  go_enter Tryz.func79, Tryz.ntmps79
  go_wp2_with fail
  go_loopw [6, 11] (fun v6 v11 wr => TgI es w v6 v11 wr) (fun _ v _ => es.length - (intOf v).toNat)
  case atStart => exact ⟨0, none, 0, Nat.zero_le _, rfl, rfl, NR.nil _ _ _ _, Below.refl _ _⟩
  case round =>
    obtain ⟨i, A6, c6, hi, rfl, rfl, hnr, hbw⟩ := hrel
    have HNR := Lib.hid hnr
    have HBW := Lib.hid hbw
    clear hnr hbw
    by_cases hlt : i < es.length
    · obtain ⟨x, hx⟩ : ∃ x, es[i]? = some x := ⟨es[i], List.getElem?_eq_getElem hlt⟩
      obtain ⟨ha, hdl⟩ := H1.out x (List.mem_of_getElem? hx)
      obtain ⟨b, o, rfl, hc0, hc1⟩ := (HW.out.below HBW.out).at hx
      have g1 : (i : Int) < (es.length : Int) := by omega
      have g0 : (0 : Int) ≤ (i : Int) := by omega
      have g2 : IntKind.i64.wrap ((i : Int) + 1) = (i : Int) + 1 := IntWalk.i64_in _ (by omega)
      obtain ⟨m, hm⟩ : ∃ m, m = s.sure.length := ⟨_, rfl⟩
      rw [← hm] at ha
      have g3 : ¬ (m : Int) ≤ (x.at_ : Int) := by omega
      rw [hdl] at hc1
      obtain ⟨w2, hw2⟩ : ∃ w2, w2 = wr.alloc (.cells #[.int .i64 (x.at_ : Int), .slice x.A 128 x.c] 100) := ⟨_, rfl⟩
      have hb2 := blk_new wr (.cells #[.int .i64 (x.at_ : Int), .slice x.A 128 x.c] 100)
      have hB2 : Below wr.heap.size wr w2 := by rw [hw2]; exact (Below.refl _ wr).alloc (Nat.le_refl _) _
      rw [← hw2] at hb2
      have q0 := (blk_cells hb2 0).trans (show _ = some (.int .i64 (x.at_ : Int)) from rfl)
      have q1 := (blk_cells hb2 1).trans (show _ = some (.slice x.A 128 x.c) from rfl)
      have HB2 := Lib.hid (bstep HBW.out hB2)
      have HSE := Lib.hid (sectors_walk B k s w2.drew A c none 0 (HD.out.below HB2.out.drew))
      rw [← hm] at HSE
      have HNR2 := Lib.hid ((HNR.out.below hB2).below ((Below.refl _ w2).drew.alloc (Nat.le_refl _) (.cells #[.int .i64 (x.at_ : Int)] 3)))
      have HB3 := Lib.hid (HB2.out.drew.trans (((Below.refl _ w2.drew).alloc (Nat.le_refl _) (.cells #[.int .i64 (x.at_ : Int)] 3)).mono HB2.out.size))
      have HW2 := Lib.hid hw2
      have HXX := Lib.hid hx
      clear hw2 hb2 hB2 hx hm hdl
      go_upto_region 5 with fail
      rw [← HW2.out]
      go_region_law (first | (go_simp; go_at_call 55; refine HSE.out.mono ?_; rintro e w' ⟨rfl, rfl⟩))
      all_goals
        clear HSE
        go_wp2_with (at_builtin; go_must (refine wpList_app rfl eltI rfl rfl rfl (n := i) (m := 1) HNR2.out.own (Sl.of_own (own_new w2.drew #[.int .i64 (x.at_ : Int)] 3 1 1 rfl (by decide))) (by simp [Value.oneCell']) (by omega) (by simp only [maxLen]; omega) ?_))
        intro v3 w3 g4 g5 g6 g7
        clear g7
        obtain ⟨A3, c3, rfl, _⟩ := Rd.of_own g4
        have hG := HNR2.out.grown rfl HB3.out g4 g5 (g6.imp id (fun h => h.trans (by rw [World.size_alloc]; rfl)))
        have HR : Hid (TgI es w (.slice A3 (i + 1) c3) (.int .i64 ((i : Int) + 1)) w3) := Lib.hid ⟨i + 1, A3, c3, hlt, by rw [Int.natCast_add]; rfl, rfl, by
          have e : nv ((es.map (·.at_)).take (i + 1)) = nv ((es.map (·.at_)).take i) ++ [.int .i64 (x.at_ : Int)] := by
            unfold nv
            rw [List.take_add_one, List.map_append, List.getElem?_map, HXX.out]
            rfl
          rw [e]
          exact hG.1, hG.2⟩
        clear hG g4 g5 g6
        go_wp2_with fail
        go_roundw
        case rel => exact HR.out
        case measure => simp only [intOf]; omega
    · obtain rfl : i = es.length := by omega
      have g1 : ¬ (es.length : Int) < (es.length : Int) := by omega
      have hl : (es.map (·.at_)).length = es.length := by rw [List.length_map]
      have hnr := HNR.out
      rw [show (es.map (·.at_)).take es.length = es.map (·.at_) by rw [← hl, List.take_length]] at hnr
      have HGD := Lib.hid (good_yes (es.map (·.at_)) A6 c6 wr (by rw [hl]; exact Sl.of_own hnr.own) HG.out)
      rw [hl] at HGD
      have HN := Lib.hid hnr
      have HL := Lib.hid hl
      clear hnr hl
      go_wp2_with fail
      refine HGD.out.mono ?_
      rintro e w' ⟨rfl, rfl⟩
      go_wp2
      go_ret2
      unfold TgP
      rw [HL.out]
      exact ⟨A6, c6, rfl, HN.out, HBW.out⟩
end Go.Proofs.YtehfoopefefpnaaGreat
/- Package redo: Commit. -/
set_option linter.unusedSimpArgs false
set_option linter.unusedVariables false
namespace Go.Proofs.YtehfoopefefpnaaGreat
open Go.RowKit

attribute [local go_sem ↓] Go.wp_at_zero Go.wp_at_succ
def bodyW : Nat → List WE → List WE
  | _, [] => []
  | j, x :: es => ⟨2 + j, x.A, x.c, x.d⟩ :: bodyW (j + 1) es
theorem bodyW_len (j : Nat) (es : List WE) : (bodyW j es).length = es.length := by
  induction es generalizing j with
  | nil => rfl
  | cons x es ih => simp [bodyW, ih]
theorem bodyW_get {es : List WE} {i : Nat} {x : WE} (h : es[i]? = some x) (j : Nat) : (bodyW j es)[i]? = some ⟨2 + (j + i), x.A, x.c, x.d⟩ := by
  induction es generalizing i j with
  | nil => cases h
  | cons y es ih =>
    cases i with
    | zero =>
      obtain rfl : y = x := by simpa using h
      rfl
    | succ i =>
      have := ih (i := i) (by simpa using h) (j + 1)
      rw [show (j + 1) + i = j + (i + 1) by omega] at this
      simpa [bodyW] using this
theorem bodyW_all {es : List WE} {P : WE → Prop} {e : WE} (h : e ∈ bodyW 0 es) (hp : ∀ i x, i < es.length → es[i]? = some x → P ⟨2 + i, x.A, x.c, x.d⟩) : P e := by
  obtain ⟨i, hi⟩ := List.mem_iff_getElem?.1 h
  have hl : i < es.length := by have := (List.getElem?_eq_some_iff.1 hi).1; rwa [bodyW_len] at this
  have hx : es[i]? = some es[i] := List.getElem?_eq_getElem hl
  have := bodyW_get hx 0
  rw [hi] at this
  injection this with this
  rw [this, Nat.zero_add]
  exact hp i _ hl hx
theorem eltWr : Elt Tryz.prog 94 100 2 32 := Elt.mk' (z := .agg #[.int .i64 0, .slice none 0 0]) (by kernel_rfl) (by kernel_rfl) (by kernel_rfl) (by simp [Value.oneCell', Value.cells]) (by decide)
def CoI (es : List WE) (w : World) (v9 v38 : Value) (W : World) : Prop := ∃ (i : Nat) (A : Option Addr) (c : Nat), i ≤ es.length ∧ v38 = .int .i64 (i : Int) ∧ v9 = .slice A i c ∧ NR w.heap.size 100 2 W (.slice A i c) i (((bodyW 0 es).take i).flatMap WE.cells) ∧ Below w.heap.size w W
/-- What Commit writes. -/
def comW (es : List WE) : List (Nat × List UInt8) := esW (bodyW 0 es) ++ ([(1, headE (es.map (·.at_)))] ++ (esW es ++ [(1, headE [])]))
theorem commit0_walk (k : Nat) (w : World) (X : Option Addr) (cx : Nat) :
    Calls Tryz.prog 48 #[.pointer (some ⟨k, 0, none⟩), .slice X 0 cx] w fun e w' => e = .returned (.int .i64 0) ∧ w' = w := by
  go_enter Tryz.func48, Tryz.ntmps48
  go_wp2
  go_ret
  exact ⟨rfl, rfl⟩
set_option maxHeartbeats 4000000 in
theorem commit_walk (B k : Nat) (s : DrS) (w : World) (g c : Nat) (h : DR B k s w (some ⟨g, 0, none⟩) c none 0) (hs : s.on) (h64 : 64 ≤ s.sure.length) (hh : s.sure[1]? = some (headE [])) (X : Option Addr) (cx : Nat) (es : List WE) (hw : WR w X cx es) (hne : 0 < es.length) (h1 : ∀ e ∈ es, e.at_ < s.sure.length ∧ e.d.length = 128) (hg : goodL (es.map (·.at_))) (hsv : ∀ W, Keep (drvK k g w) w W → WR W X cx es) :
    Calls Tryz.prog 48 #[.pointer (some ⟨k, 0, none⟩), .slice X es.length cx] w (WrP B k s g c (comW es) w) := by
  have HTG := Lib.hid (targets_walk B k s w _ c h hs.ok.len X cx es hw h1 hg)
  have HD := Lib.hid h
  have HS := Lib.hid hs
  have HHD := Lib.hid hh
  have HW := Lib.hid hw
  have H1 := Lib.hid h1
  have HG := Lib.hid hg
  have H64 := Lib.hid h64
  have HSV := Lib.hid hsv
  have HK : Hid (k < w.heap.size ∧ g < w.heap.size) := Lib.hid ⟨blk_lt h.blk, own_lt h.sure (k := g) rfl⟩
  have hn : es.length ≤ 24 := by have := hg.len; rwa [List.length_map] at this
  have g0 : ¬ (es.length : Int) = 0 := by omega
  clear h hs h64 hh hw h1 hg hsv
  go_enter Tryz.func48, Tryz.ntmps48
  go_wp2_with fail
  refine HTG.out.mono ?_
  rintro e w1 ⟨A1, c1, rfl, hnr, hb1⟩
  have HNR := Lib.hid hnr
  have HB1 := Lib.hid hb1
  have HWT := Lib.hid (waits_walk B k s w1 _ c (HD.out.below hb1) HS.out HHD.out)
  clear hnr hb1
  go_wp2_with fail
  refine HWT.out.mono ?_
  rintro e w2 ⟨rfl, hb2⟩
  have HB2 := Lib.hid (bstep HB1.out hb2)
  have HNR2 := Lib.hid (HNR.out.below hb2)
  clear hb2
  go_wp2_with fail
  go_loopw [9, 38] (fun v9 v38 wr => CoI es w2 v9 v38 wr) (fun _ v _ => es.length - (intOf v).toNat)
  case atStart => exact ⟨0, none, 0, Nat.zero_le _, rfl, rfl, NR.nil _ _ _ _, Below.refl _ _⟩
  case round =>
    obtain ⟨i, A6, c6, hi, rfl, rfl, hnr, hbw⟩ := hrel
    have HN6 := Lib.hid hnr
    have HBW := Lib.hid hbw
    clear hnr hbw
    by_cases hlt : i < es.length
    · obtain ⟨x, hx⟩ : ∃ x, es[i]? = some x := ⟨es[i], List.getElem?_eq_getElem hlt⟩
      obtain ⟨b, o, rfl, hc0, hc1⟩ := (HW.out.below (bstep HB2.out HBW.out)).at hx
      have ga : (i : Int) < (es.length : Int) := by omega
      have gb : (0 : Int) ≤ (i : Int) := by omega
      have gc : IntKind.i64.wrap ((i : Int) + 1) = (i : Int) + 1 := IntWalk.i64_in _ (by omega)
      have gd : IntKind.i64.wrap (2 + (i : Int)) = 2 + (i : Int) := IntWalk.i64_in _ (by omega)
      obtain ⟨w3, hw3⟩ : ∃ w3, w3 = wr.alloc (.cells #[.int .i64 (x.at_ : Int), .slice x.A x.d.length x.c] 100) := ⟨_, rfl⟩
      have hb3 := blk_new wr (.cells #[.int .i64 (x.at_ : Int), .slice x.A x.d.length x.c] 100)
      have hB3 : Below wr.heap.size wr w3 := by rw [hw3]; exact (Below.refl _ wr).alloc (Nat.le_refl _) _
      rw [← hw3] at hb3
      have q1 := (blk_cells hb3 1).trans (show _ = some (.slice x.A x.d.length x.c) from rfl)
      have HW3 := Lib.hid hw3
      have HXX := Lib.hid hx
      obtain ⟨p, hp⟩ : ∃ p : Nat, p = 2 + i := ⟨_, rfl⟩
      have ge : (2 : Int) + (i : Int) = (p : Int) := by omega
      rw [ge] at gd
      have HPP := Lib.hid hp
      have HN3 := Lib.hid ((HN6.out.below hB3).below ((Below.refl _ w3).alloc (Nat.le_refl _) (.cells #[.int .i64 (p : Int), .slice x.A x.d.length x.c] 100)))
      have HB3 := Lib.hid ((bstep HBW.out hB3).trans (((Below.refl _ w3).alloc (Nat.le_refl _) (.cells #[.int .i64 (p : Int), .slice x.A x.d.length x.c] 100)).mono (bstep HBW.out hB3).size))
      clear hw3 hb3 hB3 hx hp
      go_upto_region 15 with fail
      rw [← HW3.out]
      go_wp2_with (at_builtin; go_must (refine wpList_app rfl eltWr rfl rfl rfl (n := i) (m := 1) HN3.out.own (Sl.of_own (own_new w3 #[.int .i64 (p : Int), .slice x.A x.d.length x.c] 100 2 1 rfl (by decide))) (by simp [Value.oneCell']) (by omega) (by simp only [maxLen]; omega) ?_))
      intro v5 w5 g4 g5 g6 g7
      clear g7
      obtain ⟨A5, c5, rfl, _⟩ := Rd.of_own g4
      have hG := HN3.out.grown rfl HB3.out g4 g5 (g6.imp id (fun h => h.trans (by rw [World.size_alloc])))
      have HR : Hid (CoI es w2 (.slice A5 (i + 1) c5) (.int .i64 ((i : Int) + 1)) w5) := Lib.hid ⟨i + 1, A5, c5, hlt, by rw [Int.natCast_add]; rfl, rfl, by
        have e : ((bodyW 0 es).take (i + 1)).flatMap WE.cells = ((bodyW 0 es).take i).flatMap WE.cells ++ [.int .i64 (p : Int), .slice x.A x.d.length x.c] := by
          rw [List.take_add_one, bodyW_get HXX.out, Nat.zero_add, ← HPP.out]
          simp [WE.cells]
        rw [e]
        exact hG.1, hG.2⟩
      clear hG g4 g5 g6
      go_wp2_with fail
      go_roundw
      case rel => exact HR.out
      case measure => simp only [intOf]; omega
    · obtain rfl : i = es.length := by omega
      have ga : ¬ (es.length : Int) < (es.length : Int) := by omega
      have hB := bstep HB2.out HBW.out
      have hbl := bodyW_len 0 es
      have hfull : (bodyW 0 es).take es.length = bodyW 0 es := by rw [← hbl, List.take_length]
      have hwr : WR wr A6 c6 (bodyW 0 es) := by
        refine ⟨?_, fun e he => bodyW_all (P := fun e => Sl wr 1 (.slice e.A e.d.length e.c) e.d.length (bv e.d)) he (fun i x _ hx => (HW.out.below hB).each x (List.mem_of_getElem? hx))⟩
        have := Sl.of_own HN6.out.own
        rw [hfull] at this
        rw [hbl]
        exact this
      have hb1 : ∀ e ∈ bodyW 0 es, e.at_ < s.sure.length ∧ e.d.length = 128 := fun e he => bodyW_all (P := fun e => e.at_ < s.sure.length ∧ e.d.length = 128) he (fun i x hi hx => ⟨by show 2 + i < _; have := H64.out; omega, (H1.out x (List.mem_of_getElem? hx)).2⟩)
      have HB := Lib.hid hB
      have hB' := hB
      have HBB := Lib.hid hb1
      have hPU := dput_walk B k s A6 c6 (bodyW 0 es) (some ⟨g, 0, none⟩) c 0 wr (HD.out.below hB) HS.out.ok HS.out.list HS.out.fuse HS.out.dead hwr (by rw [hbl]; omega) hb1
      rw [hbl] at hPU
      have HPU := Lib.hid hPU
      have HBL := Lib.hid hbl
      clear hB hbl hfull hwr hb1 hPU
      go_wp2_with fail
      refine HPU.out.mono ?_
      rintro e w3 ⟨L, lc, rfl, hd3, _, hk3⟩
      have HF := Lib.hid (put_flush (w := wr) HS.out HBB.out (by rw [HBL.out]; omega) hd3 hk3)
      clear hd3 hk3
      go_wp2_with fail
      refine HF.out.mono ?_
      intro e w4 hq
      have HQ := Lib.hid hq
      obtain ⟨rfl, hd4, hk4⟩ := hq
      have hon := wrS_on HS.out (ws := esW (bodyW 0 es)) (fun p hp => by
        obtain ⟨e, he, rfl⟩ := List.mem_map.1 hp
        exact (HBB.out e he).2)
      have HON := Lib.hid hon
      have hlen : (wrS s (esW (bodyW 0 es))).sure.length = s.sure.length := flF_len _ _
      have HLEN := Lib.hid hlen
      have hnl : (es.map (·.at_)).length = es.length := by rw [List.length_map]
      have hnw := Sl.of_own (HNR2.out.below HBW.out).own
      have hnk : Sl w4 1 (.slice A1 (es.map (·.at_)).length c1) (es.map (·.at_)).length (nv (es.map (·.at_))) := hnw.keep hk4 (fun j e _ => by
        have h2 := HNR2.out.fresh j e
        have h3 := own_lt (HNR2.out.below HBW.out).own e
        have h4 := HK.out
        show ¬ (j = k ∨ j = g ∨ wr.heap.size ≤ j)
        omega)
      have hMK := mark_walk B k _ w4 g c hd4 hon (by rw [hlen]; have := H64.out; omega) (es.map (·.at_)) A1 c1 hnk HG.out
      rw [hnl] at hMK
      have HMK := Lib.hid hMK
      have HWK : Hid (∀ W, Keep (drvK k g wr) wr W → WR W X cx es) := Lib.hid (fun W hW => HSV.out W ((Keep.of_below (S := drvK k g w) hB').trans hW (fun j _ h => h.imp id (.imp id (fun h => Nat.le_trans hB'.size h)))))
      clear hd4 hk4 hon hlen hnl hnw hnk hMK hB'
      go_wp2_with fail
      refine HMK.out.mono ?_
      intro e w5 hq
      have HQ5 := Lib.hid (HQ.out.then_ hq)
      obtain ⟨rfl, hd5, hk5⟩ := hq
      have HM := Lib.hid (home_walk B k _ w5 g c hd5 (wrS_on HON.out (fun p hp => by
        obtain rfl : p = (1, headE (es.map (·.at_))) := by simpa using hp
        exact headE_len _ HG.out.len)) (by show 1 < (flF _ _).length; rw [flF_len, HLEN.out]; have := H64.out; omega) X cx es (HWK.out w5 (HQ5.out.2.2)) (by omega) (fun e he => ⟨by show _ < (flF _ _).length; rw [flF_len, HLEN.out]; exact (H1.out e he).1, (H1.out e he).2⟩))
      clear hd5 hk5
      go_wp2_with fail
      refine HM.out.mono ?_
      intro e w6 hq
      have hq6 := HQ5.out.then_ (by rw [← wrS_app]; exact hq)
      have HQ6 : Hid (WrP B k s g c (comW es) w e w6) := Lib.hid (by
        obtain ⟨r1, r2, r3⟩ := hq6
        refine ⟨r1, ?_, (Keep.of_below (S := drvK k g w) HB.out).trans r3 (fun j _ h => h.imp id (.imp id (fun h => Nat.le_trans HB.out.size h)))⟩
        unfold comW
        rw [← List.append_assoc]
        exact r2)
      obtain ⟨rfl, _, _⟩ := hq
      clear hq6
      go_wp2
      go_ret
      exact HQ6.out
end Go.Proofs.YtehfoopefefpnaaGreat
/- Package redo: Recover where nothing waits; what Commit leaves. -/
set_option linter.unusedSimpArgs false
set_option linter.unusedVariables false
namespace Go.Proofs.YtehfoopefefpnaaGreat
open Go.RowKit

attribute [local go_sem ↓] Go.wp_at_zero Go.wp_at_succ
theorem recover_nil (w : World) : Calls Tryz.prog 57 #[.pointer none] w fun e w' => e = .returned (.int .i64 1) ∧ w' = w := by
  go_enter Tryz.func57, Tryz.ntmps57
  go_wp2
  go_ret
  exact ⟨rfl, rfl⟩
theorem recover_walk (B k : Nat) (s : DrS) (w : World) (A : Option Addr) (c : Nat) (h : DR B k s w A c none 0) (hs : s.on) (hb : s.sure[1]? = some (headE [])) :
    Calls Tryz.prog 57 #[.pointer (some ⟨k, 0, none⟩)] w fun e w' => e = .returned (.int .i64 0) ∧ Below w.heap.size w w' := by
  have HW := Lib.hid (waits_walk B k s w A c h hs hb)
  clear h hs hb
  go_enter Tryz.func57, Tryz.ntmps57
  go_wp2_with fail
  refine HW.out.mono ?_
  rintro e w1 ⟨rfl, hb1⟩
  have HB := Lib.hid hb1
  clear hb1
  go_wp2
  go_ret
  exact ⟨rfl, HB.out⟩
theorem flF_app (l : List (List UInt8)) (a b : List (Nat × List UInt8)) : flF l (a ++ b) = flF (flF l a) b := by unfold flF; rw [List.foldl_append]
theorem flF_not {l : List (List UInt8)} {ws : List (Nat × List UInt8)} {i : Nat} (h : ∀ p ∈ ws, p.1 ≠ i) : (flF l ws)[i]? = l[i]? := by
  induction ws generalizing l with
  | nil => rfl
  | cons p ws ih =>
    show (flF (l.set p.1 p.2) ws)[i]? = _
    rw [ih (fun q hq => h q (List.mem_cons_of_mem _ hq)), List.getElem?_set_ne (h p (List.mem_cons_self ..))]
theorem flF_congr {l l' : List (List UInt8)} {ws : List (Nat × List UInt8)} {i : Nat} (hl : l.length = l'.length) (h : l[i]? = l'[i]?) : (flF l ws)[i]? = (flF l' ws)[i]? := by
  induction ws generalizing l l' with
  | nil => exact h
  | cons p ws ih =>
    refine ih (l := l.set p.1 p.2) (l' := l'.set p.1 p.2) (by rw [List.length_set, List.length_set, hl]) ?_
    rw [List.getElem?_set, List.getElem?_set, hl, h]
/-- Behind Commit: outside of the log. -/
theorem comW_get (l : List (List UInt8)) (es : List WE) (hn : es.length ≤ 24) {i : Nat} (hi : i < 1 ∨ 26 ≤ i) : (flF l (comW es))[i]? = (flF l (esW es))[i]? := by
  unfold comW
  rw [flF_app, flF_app, flF_app, flF_not (ws := [(1, headE [])]) (fun p hp => by
    obtain rfl : p = (1, headE []) := by simpa using hp
    show (1 : Nat) ≠ i
    omega)]
  refine flF_congr (by rw [flF_len, flF_len]) ?_
  rw [flF_not (fun p hp => by
    obtain rfl : p = (1, headE (es.map (·.at_))) := by simpa using hp
    show (1 : Nat) ≠ i
    omega), flF_not (fun p hp => by
    obtain ⟨e, he, rfl⟩ := List.mem_map.1 hp
    exact bodyW_all (P := fun e => e.at_ ≠ i) he (fun j x hj _ => by show 2 + j ≠ i; omega))]
theorem comW_head (l : List (List UInt8)) (es : List WE) (hl : 1 < l.length) : (flF l (comW es))[1]? = some (headE []) := by
  unfold comW
  rw [← List.append_assoc, ← List.append_assoc, flF_app]
  show ((flF l _).set 1 (headE []))[1]? = _
  rw [List.getElem?_set_self (by rw [flF_len]; exact hl)]
end Go.Proofs.YtehfoopefefpnaaGreat
/- Package drive: Restart where nothing waits. -/
set_option linter.unusedSimpArgs false
set_option linter.unusedVariables false
namespace Go.Proofs.YtehfoopefefpnaaGreat
open Go.RowKit

attribute [local go_sem ↓] Go.wp_at_zero Go.wp_at_succ
set_option maxHeartbeats 1000000 in
theorem restart_walk (B k : Nat) (s : DrS) (w : World) (A : Option Addr) (c : Nat) (h : DR B k s w A c none 0) (hs : s.on) (v : Value) :
    Calls Tryz.prog 26 #[.pointer (some ⟨k, 0, none⟩), v] w fun e w' => e = .returned (.tuple #[]) ∧ DR B k s w' A c none 0 ∧ Keep (fun j => j = k) w w' := by
  obtain ⟨m, hm⟩ : ∃ m, m = s.sure.length := ⟨_, rfl⟩
  have c0 : w.cell? ⟨k, 0, none⟩ = some (.slice A m c) := by rw [hm]; exact (blk_cells h.blk 0).trans rfl
  have c1 : w.cell? ⟨k, 1, none⟩ = some (.slice none 0 0) := (blk_cells h.blk 1).trans (by rw [hs.list]; rfl)
  have c2 : w.cell? ⟨k, 2, none⟩ = some (.int .i64 (-1)) := (blk_cells h.blk 2).trans (by rw [hs.fuse]; rfl)
  have c3 : w.cell? ⟨k, 3, none⟩ = some (.bool false) := (blk_cells h.blk 3).trans (by rw [hs.dead]; rfl)
  have f1 := blk_frees h.blk 1
  have f2 := blk_frees h.blk 2
  have f3 := blk_frees h.blk 3
  have HH := Lib.hid h
  have HS := Lib.hid hs
  clear h hs hm
  go_enter Tryz.func26, Tryz.ntmps26
  go_wp2_with fail
  go_loop [13] (fun v => v = .int .i64 0) (fun _ => 0)
  case atStart => exact rfl
  case round =>
    obtain rfl := hrel
    go_wp2
    refine bodyPost_end (results_none rfl _ _ _) rfl ?_
    have hk : Keep (fun j => j = k) w (((w.setCell ⟨k, 1, none⟩ (.slice none 0 0)).setCell ⟨k, 2, none⟩ (.int .i64 (-1))).setCell ⟨k, 3, none⟩ (.bool false)) := ((keep_set _ k 1 _).trans (keep_set _ k 2 _) (fun _ _ h => h)).trans (keep_set _ k 3 _) (fun _ _ h => h)
    have hb := blk_set (blk_set (blk_set HH.out.blk (.slice none 0 0) (j := 1)) (.int .i64 (-1)) (j := 2)) (.bool false) (j := 3)
    have hu := HH.out.upd hk (-1) false (hb.trans (by rw [HS.out.list]; rfl))
    refine ⟨rfl, ?_, hk⟩
    have e : (⟨s.sure, s.list, -1, false⟩ : DrS) = s := by rw [← HS.out.fuse, ← HS.out.dead]
    rw [← e]
    exact hu
end Go.Proofs.YtehfoopefefpnaaGreat
/- A map from numbers to slices: what it holds, as a list in order. -/
set_option linter.unusedSimpArgs false
set_option linter.unusedVariables false
namespace Go.Proofs.YtehfoopefefpnaaGreat
open Go.RowKit

def Rv (v : Value) : Option (DataW Value × List MemPlace) := some (.held v, [])
def WE.val (e : WE) : Value := .slice e.A e.d.length e.c
def WE.ent (e : WE) : Lit × DataW Value := (.int .i64 (e.at_ : Int), .held e.val)
def mapD (es : List WE) : DataW Value := .map (es.map WE.ent)
def Rising (es : List WE) : Prop := es.Pairwise fun a b => a.at_ < b.at_
def insW (x : WE) : List WE → List WE
  | [] => [x]
  | e :: es => if x.at_ < e.at_ then x :: e :: es else if e.at_ = x.at_ then x :: es else e :: insW x es
def getW (n : Nat) : List WE → Option WE
  | [] => none
  | e :: es => if e.at_ = n then some e else getW n es
theorem same_iff (a b : Nat) : (Lit.int .i64 (a : Int)).sameKey (.int .i64 (b : Int)) = decide (a = b) := by
  simp only [Lit.sameKey, true_and]
  exact decide_eq_decide.2 Int.ofNat_inj
theorem before_iff (a b : Nat) : (Lit.int .i64 (a : Int)).before (.int .i64 (b : Int)) = decide (a < b) := by
  simp only [Lit.before]
  exact decide_eq_decide.2 Int.ofNat_lt
theorem filter_far {es : List WE} {n : Nat} (h : ∀ e ∈ es, e.at_ ≠ n) : (es.map WE.ent).filter (fun p => !p.1.sameKey (.int .i64 (n : Int))) = es.map WE.ent := by
  rw [List.filter_eq_self]
  intro p hp
  obtain ⟨e, he, rfl⟩ := List.mem_map.1 hp
  show (!(Lit.int .i64 (e.at_ : Int)).sameKey (.int .i64 (n : Int))) = true
  rw [same_iff, decide_eq_false (h e he)]
  rfl
theorem insert_far {es : List WE} {x : WE} (h : ∀ e ∈ es, x.at_ < e.at_) : DataW.insert x.ent (es.map WE.ent) = x.ent :: es.map WE.ent := by
  cases es with
  | nil => rfl
  | cons e es =>
    show (if x.ent.1.before e.ent.1 then _ else _) = _
    have : x.ent.1.before e.ent.1 = true := by
      show (Lit.int .i64 (x.at_ : Int)).before (.int .i64 (e.at_ : Int)) = true
      rw [before_iff, decide_eq_true (h e (List.mem_cons_self ..))]
    rw [if_pos this]
    rfl
theorem insW_put {es : List WE} (h : Rising es) (x : WE) : (mapD es).put (.int .i64 (x.at_ : Int)) (.held x.val) = mapD (insW x es) := by
  show DataW.map (DataW.insert x.ent ((es.map WE.ent).filter fun p => !p.1.sameKey (.int .i64 (x.at_ : Int)))) = _
  unfold mapD
  congr 1
  induction es with
  | nil => rfl
  | cons e es ih =>
    obtain ⟨h1, h2⟩ := List.pairwise_cons.1 h
    unfold insW
    by_cases hlt : x.at_ < e.at_
    · rw [if_pos hlt]
      have hf : ∀ y ∈ e :: es, x.at_ < y.at_ := fun y hy => by
        rcases List.mem_cons.1 hy with rfl | hy
        · exact hlt
        · have := h1 y hy; omega
      rw [filter_far (fun y hy => by have := hf y hy; omega), insert_far hf]
      rfl
    · rw [if_neg hlt]
      by_cases heq : e.at_ = x.at_
      · rw [if_pos heq]
        have hf : ∀ y ∈ es, x.at_ < y.at_ := fun y hy => by have := h1 y hy; omega
        have hd : (!e.ent.1.sameKey (.int .i64 (x.at_ : Int))) = false := by
          show (!(Lit.int .i64 (e.at_ : Int)).sameKey (.int .i64 (x.at_ : Int))) = false
          rw [same_iff, decide_eq_true heq]
          rfl
        rw [List.map_cons, List.filter_cons, if_neg (by rw [hd]; decide), filter_far (fun y hy => by have := hf y hy; omega), insert_far hf]
        rfl
      · rw [if_neg heq]
        have hd : (!e.ent.1.sameKey (.int .i64 (x.at_ : Int))) = true := by
          show (!(Lit.int .i64 (e.at_ : Int)).sameKey (.int .i64 (x.at_ : Int))) = true
          rw [same_iff, decide_eq_false heq]
          rfl
        rw [List.map_cons, List.filter_cons, if_pos hd]
        show (if x.ent.1.before e.ent.1 then _ else _) = _
        have : ¬ x.ent.1.before e.ent.1 = true := by
          show ¬ (Lit.int .i64 (x.at_ : Int)).before (.int .i64 (e.at_ : Int)) = true
          rw [before_iff, decide_eq_false hlt]
          decide
        rw [if_neg this, ih h2]
        rfl
theorem insW_mem {x e : WE} {es : List WE} (h : e ∈ insW x es) : e = x ∨ e ∈ es := by
  induction es with
  | nil => exact .inl (by simpa [insW] using h)
  | cons y es ih =>
    unfold insW at h
    split at h
    · rcases List.mem_cons.1 h with h | h
      · exact .inl h
      · exact .inr h
    · split at h
      · rcases List.mem_cons.1 h with h | h
        · exact .inl h
        · exact .inr (List.mem_cons_of_mem _ h)
      · rcases List.mem_cons.1 h with rfl | h
        · exact .inr (List.mem_cons_self ..)
        · exact (ih h).imp id (List.mem_cons_of_mem _)
theorem insW_rising {es : List WE} (h : Rising es) (x : WE) : Rising (insW x es) := by
  induction es with
  | nil => exact List.pairwise_singleton _ _
  | cons e es ih =>
    obtain ⟨h1, h2⟩ := List.pairwise_cons.1 h
    unfold insW
    split
    · rename_i hlt
      refine List.pairwise_cons.2 ⟨fun y hy => ?_, h⟩
      rcases List.mem_cons.1 hy with rfl | hy
      · exact hlt
      · have := h1 y hy; omega
    · split
      · rename_i _ heq
        exact List.pairwise_cons.2 ⟨fun y hy => by have := h1 y hy; omega, h2⟩
      · rename_i hn hne
        refine List.pairwise_cons.2 ⟨fun y hy => ?_, ih h2⟩
        rcases insW_mem hy with rfl | hy
        · omega
        · exact h1 y hy
theorem getW_find (es : List WE) (n : Nat) : (es.map WE.ent).find? (fun p => p.1.sameKey (.int .i64 (n : Int))) = (getW n es).map WE.ent := by
  induction es with
  | nil => rfl
  | cons e es ih =>
    rw [List.map_cons, List.find?_cons]
    unfold getW
    by_cases h : e.at_ = n
    · rw [if_pos h]
      have : e.ent.1.sameKey (.int .i64 (n : Int)) = true := (same_iff _ _).trans (decide_eq_true h)
      rw [this]
      rfl
    · rw [if_neg h]
      have : e.ent.1.sameKey (.int .i64 (n : Int)) = false := (same_iff _ _).trans (decide_eq_false h)
      rw [this]
      exact ih
theorem getW_at (es : List WE) (n : Nat) (z : DataW Value) : (mapD es).atKey (.int .i64 (n : Int)) z = ((getW n es).map (fun e => DataW.held e.val)).getD z := by
  unfold mapD DataW.atKey
  simp only [getW_find]
  cases getW n es <;> rfl
theorem getW_has (es : List WE) (n : Nat) : Maps.has (mapD es) (.int .i64 (n : Int)) = (getW n es).isSome := by
  show (es.map WE.ent).any _ = _
  induction es with
  | nil => rfl
  | cons e es ih =>
    rw [List.map_cons, List.any_cons, ih, getW]
    by_cases h : e.at_ = n
    · rw [if_pos h]
      have : e.ent.1.sameKey (.int .i64 (n : Int)) = true := (same_iff _ _).trans (decide_eq_true h)
      rw [this]
      rfl
    · rw [if_neg h]
      have : e.ent.1.sameKey (.int .i64 (n : Int)) = false := (same_iff _ _).trans (decide_eq_false h)
      rw [this]
      rfl
theorem getW_mem {es : List WE} {n : Nat} {e : WE} (h : getW n es = some e) : e ∈ es ∧ e.at_ = n := by
  induction es with
  | nil => cases h
  | cons y es ih =>
    unfold getW at h
    split at h
    · rename_i hy
      obtain rfl := Option.some.inj h
      exact ⟨List.mem_cons_self .., hy⟩
    · exact ⟨List.mem_cons_of_mem _ (ih h).1, (ih h).2⟩
theorem getW_none {es : List WE} {n : Nat} (h : getW n es = none) : ∀ e ∈ es, e.at_ ≠ n := by
  induction es with
  | nil => exact fun e he => by cases he
  | cons y es ih =>
    unfold getW at h
    split at h
    · cases h
    · rename_i hy
      intro e he
      rcases List.mem_cons.1 he with rfl | he
      · exact hy
      · exact ih h e he
theorem getW_ins (x : WE) {es : List WE} (h : Rising es) (n : Nat) : getW n (insW x es) = if x.at_ = n then some x else getW n es := by
  induction es with
  | nil => rfl
  | cons e es ih =>
    obtain ⟨h1, h2⟩ := List.pairwise_cons.1 h
    by_cases hlt : x.at_ < e.at_
    · rw [insW, if_pos hlt]
      rfl
    · by_cases heq : e.at_ = x.at_
      · rw [insW, if_neg hlt, if_pos heq]
        simp only [getW]
        by_cases hx : x.at_ = n
        · rw [if_pos hx, if_pos hx]
        · rw [if_neg hx, if_neg hx, if_neg (show ¬ e.at_ = n by omega)]
      · rw [insW, if_neg hlt, if_neg heq]
        simp only [getW]
        rw [ih h2]
        by_cases hx : x.at_ = n
        · rw [if_pos hx, if_pos hx, if_neg (show ¬ e.at_ = n by omega)]
        · rw [if_neg hx, if_neg hx]
theorem insW_len (x : WE) {es : List WE} (h : Rising es) : (insW x es).length = es.length + if (getW x.at_ es).isSome then 0 else 1 := by
  induction es with
  | nil => rfl
  | cons e es ih =>
    obtain ⟨h1, h2⟩ := List.pairwise_cons.1 h
    by_cases hlt : x.at_ < e.at_
    · rw [insW, if_pos hlt, getW, if_neg (show ¬ e.at_ = x.at_ by omega)]
      have hg : getW x.at_ es = none := by
        cases hc : getW x.at_ es with
        | none => rfl
        | some y =>
          obtain ⟨hy, ha⟩ := getW_mem hc
          have := h1 y hy
          omega
      rw [hg]
      rfl
    · by_cases heq : e.at_ = x.at_
      · rw [insW, if_neg hlt, if_pos heq, getW, if_pos (show e.at_ = x.at_ from heq)]
        rfl
      · rw [insW, if_neg hlt, if_neg heq, getW, if_neg (show ¬ e.at_ = x.at_ from heq), List.length_cons, List.length_cons, ih h2]
        omega
theorem mapD_keys (es : List WE) : intKeys (mapD es) = es.map fun e => (e.at_ : Int) := by
  show (es.map WE.ent).map _ = _
  rw [List.map_map]
  rfl
theorem mapD_size (es : List WE) : Maps.size (mapD es) = es.length := by
  show (es.map WE.ent).length = _
  rw [List.length_map]
/-- The will, in memory. -/
def MW (w : World) (b : Nat) (es : List WE) : Prop := w.ownsMap Tryz.prog 3 Rv b es.length (mapD es)
theorem MW.of {w : World} {b n : Nat} {es : List WE} (h : w.ownsMap Tryz.prog 3 Rv b n (mapD es)) : MW w b es := by
  obtain ⟨xs, clock, hb, F, hs, hD⟩ := h
  refine ⟨xs, clock, hb, F, ?_, hD⟩
  have := congrArg Maps.size hD
  rw [mapD_size] at this
  rw [this]
  show _ ≤ ((xs.toList.map _).foldr DataW.insert []).length
  rw [length_read]
  exact Nat.le_refl _
end Go.Proofs.YtehfoopefefpnaaGreat
