/- Words and contracts that the proofs of this set use; each part says what it holds. -/
import Derived.BigQuiet
import Derived.Test.YtehfoopefefpnaaGreatSk6
/- Package space: Write. -/
set_option linter.unusedSimpArgs false
set_option linter.unusedVariables false
namespace Go.Proofs.YtehfoopefefpnaaGreat
open Go.RowKit

attribute [local go_sem ↓] Go.wp_at_zero Go.wp_at_succ
theorem pcells_get (ps : List PtS) (i : Nat) (q : PtS) (h : ps[i]? = some q) : (ps.flatMap PtS.cells)[i * 3]? = some (.int .i64 (q.b : Int)) ∧ (ps.flatMap PtS.cells)[i * 3 + 1]? = some (.int .i64 (q.f : Int)) ∧ (ps.flatMap PtS.cells)[i * 3 + 2]? = some (.int .i64 (q.t : Int)) := by
  induction ps generalizing i with
  | nil => cases h
  | cons x ps ih =>
    rw [List.flatMap_cons]
    cases i with
    | zero =>
      obtain rfl : x = q := by simpa using h
      exact ⟨rfl, rfl, rfl⟩
    | succ i =>
      obtain ⟨h1, h2, h3⟩ := ih i (by simpa using h)
      have hl : x.cells.length = 3 := rfl
      rw [List.getElem?_append_right (by rw [hl]; omega), List.getElem?_append_right (by rw [hl]; omega), List.getElem?_append_right (by rw [hl]; omega), hl, show (i + 1) * 3 - 3 = i * 3 by omega, show (i + 1) * 3 + 1 - 3 = i * 3 + 1 by omega, show (i + 1) * 3 + 2 - 3 = i * 3 + 2 by omega]
      exact ⟨h1, h2, h3⟩
theorem part_at {w : World} {A : Option Addr} {n c : Nat} {ps : List PtS} (h : Sl w 3 (.slice A n c) n (ps.flatMap PtS.cells)) {i : Nat} {q : PtS} (hq : ps[i]? = some q) :
    ∃ b o, A = some ⟨b, o, none⟩ ∧ w.cell? ⟨b, o + i * 3, none⟩ = some (.int .i64 (q.b : Int)) ∧ w.cell? ⟨b, o + i * 3 + 1, none⟩ = some (.int .i64 (q.f : Int)) ∧ w.cell? ⟨b, o + i * 3 + 2, none⟩ = some (.int .i64 (q.t : Int)) := by
  obtain ⟨g1, g2, g3⟩ := pcells_get ps i q hq
  obtain ⟨b, o, hX, _, h1⟩ := sl_cell h g1
  obtain ⟨b', o', hX', _, h2⟩ := sl_cell h g2
  obtain ⟨b'', o'', hX'', _, h3⟩ := sl_cell h g3
  subst hX
  injection hX' with e1
  injection e1 with e1 e2 _
  injection hX'' with e3
  injection e3 with e3 e4 _
  subst e1 e2 e3 e4
  exact ⟨b, o, rfl, h1, by rw [Nat.add_assoc]; exact h2, by rw [Nat.add_assoc]; exact h3⟩
def inRange (p l b : Nat) : Prop := p / 128 ≤ b ∧ b ≤ (p + l - 1) / 128
def wroteN (x y : NoS) (e : Nat) : Prop := y.kind = x.kind ∧ y.links = x.links ∧ y.gen = x.gen ∧ y.size = max x.size e ∧ y.change = min (x.change + 1) 1073741824
def rangeS (p l t : Nat) : Prop := ∃ b, inRange p l b ∧ onWay b t
def FwK (c : SWc) (w w' : World) : Prop := Keep (fun j => j = c.p.b ∨ w.heap.size ≤ j) w w'
def FwP (B : Nat) (c : SWc) (xs : Nat → NoS) (n : Nat) (base T : List Nat) (V : Nat → List UInt8) (m : Nat → Bool) (a : Nat → Nat) (p : Nat) (d : List UInt8) (w : World) (e : Ending) (w' : World) : Prop := ∃ V' m' a', FwK c w w' ∧
  ((e = .returned (.int .i64 0) ∧ ∃ y, SW B c V' m' (updF xs n y) (base ++ T.map a') w' ∧ TreeOk V' m' c.N y a' ∧ Wrt c.N V m a V' m' a' (rangeS p d.length) p d ∧ (∀ b, inRange p d.length b → a' (sb b) ≠ 0) ∧ wroteN (xs n) y (p + d.length)) ∨
   (e = .returned (.int .i64 10) ∧ SW B c V' m' xs (base ++ T.map a') w' ∧ (∃ q, Wrt c.N V m a V' m' a' (rangeS p d.length) p (d.take q)) ∧ (∃ y, TreeOk V' m' c.N y a') ∧ (∀ i, 43 ≤ i → i < c.N → m' i = true) ∧ ∃ b, inRange p d.length b ∧ a' (sb b) = 0))
def FwI (B : Nat) (c : SWc) (xs : Nat → NoS) (kf n : Nat) (base T : List Nat) (V : Nat → List UInt8) (m : Nat → Bool) (a : Nat → Nat) (p : Nat) (d : List UInt8) (PA A : Option Addr) (w1 : World) (v3 v62 : Value) (W : World) : Prop := ∃ (j pos s f : Nat) (V' : Nat → List UInt8) (m' : Nat → Bool) (x' : NoS) (a' : Nat → Nat) (A' : Option Addr) (cc : Nat), j ≤ (partsL p d.length).length ∧ v62 = .int .i64 (j : Int) ∧ v3 = .slice A' s cc ∧ (partsL p d.length).drop j = partsF f pos s ∧ s ≤ f ∧ pos + s = p + d.length ∧ p ≤ pos ∧ Sl W 1 (.slice A' s cc) s (bv (d.drop (pos - p))) ∧ A'.map (·.block) = A.map (·.block) ∧ SW B c V' m' xs (base ++ T.map a') W ∧ FI c.p.k kf n x' W ∧ TreeOk V' m' c.N x' a' ∧ SameN (xs n) x' ∧ Wrt c.N V m a V' m' a' (rangeS p d.length) p (d.take (pos - p)) ∧ (p < pos → ∀ b, p / 128 ≤ b → b * 128 < pos → a' (sb b) ≠ 0) ∧ MkK c kf w1 W ∧ Sl W 3 (.slice PA (partsL p d.length).length (partsL p d.length).length) (partsL p d.length).length ((partsL p d.length).flatMap PtS.cells)
/-- What MkK leaves of a slice in a block that is none of those. -/
theorem MkK.sl {c : SWc} {kf : Nat} {w w' : World} {size n : Nat} {v : Value} {xs : List Value} (hk : MkK c kf w w') (h : Sl w size v n xs) (hb : ∀ j, v.ownBlock = some j → j ≠ c.p.b ∧ j ≠ kf) : Sl w' size v n xs :=
  h.keep hk (fun j e hne hS => by
    have h1 := h.lt e hne
    obtain ⟨h2, h3⟩ := hb j e
    rcases hS with hS | hS | hS
    · exact h2 hS
    · exact h3 hS
    · omega)
theorem MkK.trans {c : SWc} {kf : Nat} {w w1 w2 : World} (h : MkK c kf w w1) (k : MkK c kf w1 w2) : MkK c kf w w2 := Keep.trans h k (fun j hj e => e.imp id (.imp id (fun e => absurd hj (by have := Keep.size h; omega))))
theorem SW.bne {B : Nat} {c : SWc} {V : Nat → List UInt8} {m : Nat → Bool} {xs : Nat → NoS} {U : List Nat} {w : World} (h : SW B c V m xs U w) : c.p.b < w.heap.size := h.news.2.2.2.2.2.1
theorem node_ok_of {V : Nat → List UInt8} {m : Nat → Bool} {N : Nat} {y : NoS} {a : Nat → Nat} (h : TreeOk V m N y a) (hN : N ≤ 1024) (h1 : y.gen ≤ 1073741824) (h2 : y.change ≤ 1073741824) (h3 : y.okK) : y.ok := by
  have hp : ∀ i, i < 6 → ptrB (y.ptr i) = true := fun i hi => by
    rw [h.top i hi]
    unfold ptrB
    by_cases h0 : a i = 0
    · exact decide_eq_true (.inl h0)
    · obtain ⟨r1, r2, _⟩ := h.rng i (by omega) h0
      exact decide_eq_true (.inr ⟨r1, by omega⟩)
  exact ⟨h1, h2, hp 0 (by omega), hp 1 (by omega), hp 2 (by omega), hp 3 (by omega), hp 4 (by omega), hp 5 (by omega), h3⟩
theorem TreeOk.node {V : Nat → List UInt8} {m : Nat → Bool} {N : Nat} {x y : NoS} {a : Nat → Nat} (h : TreeOk V m N x a) (hy : ∀ i, i < 6 → y.ptr i = x.ptr i) : TreeOk V m N y a := ⟨h.inj, h.rng, fun i hi => (hy i hi).trans (h.top i hi), h.kid, h.none_⟩
def NoS.sized (x : NoS) (z : Nat) : NoS := { x with size := z }
theorem filC_size (k n : Nat) (x : NoS) (z : Nat) : (filC k n x).setIfInBounds 5 (.int .i64 (z : Int)) = filC k n (x.sized z) := rfl
theorem sized_ptr (x : NoS) (z i : Nat) (hi : i < 6) : ((x.sized z).tick).ptr i = x.ptr i := by
  rcases (by omega : i = 0 ∨ i = 1 ∨ i = 2 ∨ i = 3 ∨ i = 4 ∨ i = 5) with rfl | rfl | rfl | rfl | rfl | rfl <;> rfl
theorem fwk_of {c : SWc} {kf : Nat} {w w1 w2 : World} (hb : Below w.heap.size w w1) (hkf : w.heap.size ≤ kf) (hk : MkK c kf w1 w2) : FwK c w w2 := Keep.trans (Keep.of_below (S := fun j => j = c.p.b ∨ w.heap.size ≤ j) hb) hk (fun j _ h => by
  have := hb.size
  rcases h with h | h | h
  · exact .inl h
  · exact .inr (by omega)
  · exact .inr (by omega))
set_option maxRecDepth 100000 in
set_option maxHeartbeats 16000000 in
theorem fwrite_walk {B : Nat} {c : SWc} {V : Nat → List UInt8} {m : Nat → Bool} {xs : Nat → NoS} {base T : List Nat} {w : World} {n : Nat} {a : Nat → Nat} (h : SW B c V m xs (base ++ T.map a) w) (hn : n < 32) (ht : TreeOk V m c.N (xs n) a) (p : Nat) (d : List UInt8) (hd : 0 < d.length) (hpd : p + d.length ≤ 9728) (hkd : (xs n).kind = 1 ∨ (xs n).kind = 2 ∧ max (xs n).size (p + d.length) % 32 = 0) (A : Option Addr) (cc : Nat) (hsl : Sl w 1 (.slice A d.length cc) d.length (bv d)) (hA : ∀ j, A.map (·.block) = some j → j ≠ c.p.b) (hU : base.length + T.length ≤ 22) (h00 : 0 ∈ base) (h34 : 34 ∈ base) (h35 : 35 + n / 4 ∈ base) (hT : ∀ b, inRange p d.length b → ∀ k, k < (wayL b).length → stp b k ∈ T) :
    Calls Tryz.prog 12 #[.pointer (some ⟨c.p.k, 0, none⟩), .int .i64 (n : Int), .int .i64 (p : Int), .slice A d.length cc] w (FwP B c xs n base T V m a p d w) := by
  have HOP := Lib.hid (open_walk h hn (by omega))
  have hxo := h.node_ok hn
  obtain ⟨l, hl⟩ : ∃ l, l = d.length := ⟨_, rfl⟩
  rw [← hl] at hd hpd hsl hT ⊢
  have HPA := Lib.hid (fun W => parts_walk p l (by omega) hpd W)
  obtain ⟨pl, hpl⟩ : ∃ z, z = (partsL p l).length := ⟨_, rfl⟩
  have hplen : pl ≤ 9728 := by rw [hpl]; exact Nat.le_trans (partsF_len _ _ _) (by omega)
  have HPL := Lib.hid hpl
  have HL := Lib.hid hl
  have HH := Lib.hid h
  have HT := Lib.hid ht
  have HSL := Lib.hid hsl
  have HA := Lib.hid hA
  have HTT := Lib.hid hT
  have HXO := Lib.hid hxo
  have HKD := Lib.hid hkd
  have HX := Lib.hid (show base.length + T.length ≤ 22 ∧ 0 ∈ base ∧ 34 ∈ base ∧ 35 + n / 4 ∈ base ∧ n < 32 from ⟨hU, h00, h34, h35, hn⟩)
  have HUL : Hid (∀ a : Nat → Nat, (base ++ T.map a).length ≤ 22) := Lib.hid (fun a => by rw [List.length_append, List.length_map]; exact hU)
  obtain ⟨en, hen⟩ : ∃ z : Nat, z = p + l := ⟨_, rfl⟩
  have g0 : ¬ (p : Int) < 0 := by omega
  have g1 : ((l : Int) == 0) = false := beq_eq_false_iff_ne.2 (by omega)
  have g1' : ¬ (l : Int) = 0 := by omega
  have g2 : ¬ (9728 : Int) < (p : Int) := by omega
  have g3 : IntKind.i64.wrap (9728 - (p : Int)) = 9728 - (p : Int) := IntWalk.i64_in _ (by omega)
  have g4 : ¬ (9728 - (p : Int)) < (l : Int) := by omega
  have g5 : IntKind.i64.wrap ((p : Int) + (l : Int)) = (en : Int) := by rw [IntWalk.i64_in _ (by omega)]; omega
  have HEN := Lib.hid (show en = p + l ∧ 0 < l ∧ p + l ≤ 9728 from ⟨hen, hd, hpd⟩)
  clear h ht hsl hA hT hxo hkd hU h00 h34 h35 hn hl hd hpd hpl hen
  go_enter Tryz.func12, Tryz.ntmps12
  go_wp2_with fail
  refine HOP.out.mono ?_
  rintro r w1 ⟨kf, rfl, hfi1, hkf, hb1⟩
  have HFI1 := Lib.hid hfi1
  have HB1 := Lib.hid hb1
  have HKF := Lib.hid hkf
  have HKFL : Hid (kf < w1.heap.size) := Lib.hid (blk_lt hfi1)
  clear hfi1 hkf hb1
  go_wp2_with fail
  refine (HPA.out w1).mono ?_
  rintro r w2 ⟨PA, rfl, hps, hpf, hb2⟩
  rw [← HPL.out] at hps ⊢
  have HPF := Lib.hid hpf
  have HI : Hid (FwI B c xs kf n base T V m a p d PA A w1 (.slice A l cc) (.int .i64 0) w2) := Lib.hid ⟨0, p, l, l, V, m, xs n, a, A, cc, Nat.zero_le _, rfl, rfl, by rw [← HL.out]; rfl, Nat.le_refl _, by rw [← HL.out], Nat.le_refl _, by
    rw [Nat.sub_self, List.drop_zero]
    exact HSL.out.below (bstep HB1.out hb2), rfl, HH.out.below (bstep HB1.out hb2), HFI1.out.below hb2, HT.out, SameN.refl _, by rw [Nat.sub_self, List.take_zero]; exact Wrt.start _ _ _ _ _ _, fun h => absurd h (Nat.lt_irrefl _), MkK.below (Keep.refl _ _) hb2, by rw [← HL.out, ← HPL.out]; exact hps⟩
  clear hps hpf hb2
  go_wp2_with fail
  go_loopw [3, 62] (fun v3 v62 wr => FwI B c xs kf n base T V m a p d PA A w1 v3 v62 wr) (fun _ v _ => pl - (intOf v).toNat)
  case atStart => exact HI.out
  case round =>
    obtain ⟨j, pos, s, f, V', m', x', a', A', cc', hj, rfl, rfl, hdr, hsf, hps, hpp, hsl, hab, hsw, hfi, htr, hsn, hwr, hal, hmk, hpt⟩ := hrel
    rw [← HL.out, ← HPL.out] at hj
    rw [← HL.out] at hdr hps hwr hpt
    rw [← HPL.out] at hpt
    by_cases hlt : j < pl
    · obtain ⟨q, hq⟩ : ∃ q, (partsL p l)[j]? = some q := ⟨(partsL p l)[j]'(by rw [← HPL.out]; exact hlt), List.getElem?_eq_getElem _⟩
      have hdr2 := List.drop_eq_getElem_cons (l := partsL p l) (i := j) (by rw [← HPL.out]; exact hlt)
      have hqq : (partsL p l)[j]'(by rw [← HPL.out]; exact hlt) = q := by
        rw [List.getElem?_eq_getElem (by rw [← HPL.out]; exact hlt)] at hq
        exact Option.some.inj hq
      rw [hqq, hdr] at hdr2
      have hEN := HEN.out
      have hs0 : s ≠ 0 := by
        rintro rfl
        rw [partsF_zero] at hdr2
        cases hdr2
      obtain ⟨f', rfl⟩ : ∃ f', f = f' + 1 := ⟨f - 1, by omega⟩
      obtain ⟨b, hb⟩ : ∃ z : Nat, z = pos / 128 := ⟨_, rfl⟩
      obtain ⟨fr, hfr⟩ : ∃ z : Nat, z = pos % 128 := ⟨_, rfl⟩
      obtain ⟨nn, hnn⟩ : ∃ z : Nat, z = min s (128 - fr) := ⟨_, rfl⟩
      obtain ⟨tq, htq⟩ : ∃ z : Nat, z = fr + nn := ⟨_, rfl⟩
      have hst : partsF (f' + 1) pos s = ⟨b, fr, tq⟩ :: partsF f' (pos + nn) (s - nn) := by
        rw [partsF, if_neg hs0, htq, hnn, hfr, hb]
      rw [hst] at hdr2
      obtain ⟨hq1, hdr3⟩ := List.cons.inj hdr2
      rw [← hq1] at hq
      obtain ⟨gb, go, hPA, hc0, hc1, hc2⟩ := part_at hpt hq
      subst hPA
      obtain ⟨w3, hw3⟩ : ∃ w3, w3 = wr.alloc (.cells #[.int .i64 (b : Int), .int .i64 (fr : Int), .int .i64 (tq : Int)] 76) := ⟨_, rfl⟩
      have hn3 := blk_new wr (.cells #[.int .i64 (b : Int), .int .i64 (fr : Int), .int .i64 (tq : Int)] 76)
      have hb3 : Below wr.heap.size wr w3 := by rw [hw3]; exact (Below.refl _ wr).alloc (Nat.le_refl _) _
      rw [← hw3] at hn3
      have hin : inRange p l b := ⟨by rw [hb]; exact Nat.div_le_div_right hpp, by rw [hb]; exact Nat.div_le_div_right (by omega)⟩
      have hb76 : b < 76 := by omega
      have HMK := Lib.hid (fmake_walk (hsw.below hb3) (hfi.below hb3) htr hb76 HX.out.1 HX.out.2.1 HX.out.2.2.1 (HTT.out b hin))
      have p0 := (blk_cells hn3 0).trans (show _ = some (.int .i64 (b : Int)) from rfl)
      have ga : (j : Int) < (pl : Int) := by omega
      have gj0 : (0 : Int) ≤ (j : Int) := by omega
      have gc : IntKind.i64.wrap ((j : Int) + 1) = (j : Int) + 1 := IntWalk.i64_in _ (by omega)
      have HN3 := Lib.hid hn3
      have HIN := Lib.hid hin
      have HB76 := Lib.hid hb76
      have HPOS := Lib.hid (show b = pos / 128 ∧ fr = pos % 128 ∧ nn = min s (128 - fr) ∧ tq = fr + nn ∧ s ≠ 0 ∧ s ≤ f' + 1 ∧ pos + s = p + l ∧ p ≤ pos from ⟨hb, hfr, hnn, htq, hs0, hsf, hps, hpp⟩)
      have HTR := Lib.hid htr
      have HSN := Lib.hid hsn
      have HWR := Lib.hid hwr
      have HAL := Lib.hid hal
      have HAB := Lib.hid hab
      have HMKK := Lib.hid (hmk.below hb3)
      have HPT := Lib.hid (hpt.below hb3)
      have HDR := Lib.hid hdr3
      have HSD := Lib.hid (hsl.below hb3)
      have HLT := Lib.hid hlt
      have HW3 := Lib.hid hw3
      have HGQ : Hid (wr.heap.size ≠ c.p.b ∧ wr.heap.size ≠ kf ∧ wr.heap.size < w3.heap.size ∧ w1.heap.size ≤ wr.heap.size) := Lib.hid ⟨by have := hsw.bne; omega, by have := blk_lt hfi; omega, blk_lt hn3, Keep.size hmk⟩
      have HAJ : Hid (∀ z, (Value.slice A' s cc').ownBlock = some z → z ≠ c.p.b ∧ z ≠ kf ∧ z < wr.heap.size) := Lib.hid (fun z hz => by
        rw [ownBlock_slice, hab] at hz
        have h1 := HA.out z hz
        have h2 := HSL.out.lt (k := z) (by rw [ownBlock_slice]; exact hz) (by
          intro e0
          rw [bv_eq_nil] at e0
          have := HL.out
          rw [e0] at this
          have hl0 : l = 0 := this
          omega)
        have h3 := HKF.out
        have h4 := HB1.out.size
        have h5 := Keep.size hmk
        exact ⟨h1, by omega, by omega⟩)
      have HGB : Hid (gb ≠ c.p.b ∧ gb ≠ kf ∧ gb < wr.heap.size) := Lib.hid (by
        have h1 : w1.heap.size ≤ gb := HPF.out gb rfl
        have h2 := HKFL.out
        have h3 := (HH.out.below HB1.out).bne
        exact ⟨by omega, by omega, World.block_lt_of_cell? _ _ hc0⟩)
      clear hdr hdr2 hqq hq hq1 hdr3 hst hs0 hb hfr hnn htq hn3 hb3 hin hb76 hsf hps hpp hsl hab hsw hfi htr hsn hwr hal hmk hpt hlt hw3 hEN hj
      go_upto_region 17 with fail
      rw [← HW3.out]
      go_wp2_with fail
      refine HMK.out.mono ?_
      rintro r w4 ⟨V1, m1, x1, a1, hms, hk4, hres⟩
      have HMS := Lib.hid hms
      have HK4 := Lib.hid hk4
      rcases hres with ⟨rfl, hne⟩ | ⟨rfl, hno, hz⟩
      · have hq86 := sb_lt HB76.out
        obtain ⟨r1, r2, _⟩ := hms.tr.rng _ hq86 hne
        have hvl := hms.sw.each r1 r2
        have hgt := wgetO hms.sw r1 r2
        obtain ⟨qs, hqs⟩ : ∃ z : Nat, z = a1 (sb b) := ⟨_, rfl⟩
        rw [← hqs] at hgt hvl r1 r2 ⊢
        have HGT := Lib.hid hgt
        have HQS := Lib.hid hqs
        have HVL := Lib.hid hvl
        have HR12 := Lib.hid (show 43 ≤ qs ∧ qs < c.N from ⟨r1, r2⟩)
        have HNE := Lib.hid hne
        have hn4 := hk4.blk HN3.out (fun h => by
          have h1 := HGQ.out
          rcases h with h | h | h
          · exact h1.1 h
          · exact h1.2.1 h
          · omega)
        have HN4 := Lib.hid hn4
        have HSD4 := Lib.hid (MkK.sl hk4 HSD.out (fun z hz => ⟨(HAJ.out z hz).1, (HAJ.out z hz).2.1⟩))
        have HGK : Hid (wr.heap.size < w4.heap.size ∧ w3.heap.size ≤ w4.heap.size) := Lib.hid ⟨Nat.lt_of_lt_of_le HGQ.out.2.2.1 (Keep.size hk4), Keep.size hk4⟩
        clear hms hk4 hq86 hvl hgt hqs r1 r2 hne hn4 hc0 hc1 hc2 p0
        go_wp2_with fail
        refine HGT.out.mono ?_
        rintro r w5 ⟨g5, cur, ty, rfl, hg5, hblk5, htk5, hb5⟩
        have hn5 := (Keep.of_below (S := fun _ => False) hb5).blk HN4.out id
        have q1 := (blk_cells hn5 1).trans (show _ = some (.int .i64 (fr : Int)) from rfl)
        have q2 := (blk_cells hn5 2).trans (show _ = some (.int .i64 (tq : Int)) from rfl)
        have hPO := HPOS.out
        have hsp : ∀ W : World, (Instr.slice 22 (.slice (some ⟨g5, 0, none⟩) 128 128) (some (.int .i64 (fr : Int))) (some (.int .i64 (tq : Int))) none).run Tryz.prog W = .ok (.slice (some ⟨g5, fr, none⟩) nn (128 - fr)) W := fun W => by
          have := slice_part g5 fr tq (by omega) (by omega) W
          rw [show tq - fr = nn by omega] at this
          exact this
        have hsd5 := HSD4.out.below hb5
        obtain ⟨w6, cur6, hcp0, hblk6, htk6, hk6⟩ := run_copy_own (off := fr) (dLen := nn) (dCap := 128 - fr) (q := nn) hblk5 htk5 HVL.out hsd5 (by show nn = min s nn; omega) (by omega) (by omega)
        have hcp : (Builtin.copy_ #[22, 22] 3 #[.slice (some ⟨g5, fr, none⟩) nn (128 - fr), .slice A' s cc']).run Tryz.prog w5 = .ok (goInt nn) w6 := hcp0 _
        have hgk := HGK.out
        have q1' := hk6.cell q1 (by show ¬ wr.heap.size = g5; omega)
        have q2' := hk6.cell q2 (by show ¬ wr.heap.size = g5; omega)
        have hsd6 := hsd5.keep hk6 (fun z hz _ => by have := (HAJ.out z hz).2.2; show ¬ z = g5; omega)
        obtain ⟨A7, hsf7, hsl7, hab7⟩ := slice_from hsd6 (by omega) (show nn ≤ s by omega)
        have gw : IntKind.i64.wrap ((tq : Int) - (fr : Int)) = (nn : Int) := by rw [IntWalk.i64_in _ (by omega)]; omega
        have hb46 : Below w4.heap.size w4 w6 := hb5.trans (hk6.below (fun z (hz : z = g5) => by omega) hb5.size)
        have htl : (((d.drop (pos - p)).take nn)).length = nn := by
          rw [List.length_take, List.length_drop, ← HL.out]
          omega
        have hspl : (splice (V1 qs) fr ((d.drop (pos - p)).take nn)).length = 128 := by rw [length_splice _ _ _ (by rw [htl, HVL.out]; omega)]; exact HVL.out
        have hsbT : sb b ∈ T := by
          have h1 := way_len b
          have h2 := way_end (b := b) (k := (wayL b).length - 1) (by omega)
          rw [← h2]
          exact HTT.out b HIN.out _ (by omega)
        have hmem : qs ∈ base ++ T.map a1 := List.mem_append_right _ (List.mem_map.2 ⟨sb b, hsbT, HQS.out.symm⟩)
        have HPUT := Lib.hid (wput (HMS.out.sw.below hb46) (by have := HUL.out a1; omega) hmem HR12.out.1 HR12.out.2 _ _ _ (row128 hblk6 htk6 hspl))
        have HB46 := Lib.hid hb46
        have HSL7 := Lib.hid hsl7
        have HAB7 := Lib.hid hab7
        have HTL := Lib.hid htl
        have HSPL := Lib.hid hspl
        have hms2 : s - nn < s := by omega
        clear hg5 hblk5 htk5 hb5 hn5 hPO hsd5 hblk6 htk6 hk6 hgk hsd6 hsl7 hab7 hb46 htl hspl hsbT hmem hcp0
        go_wp2_with fail
        refine HPUT.out.mono ?_
        rintro r w7 ⟨rfl, hsw7, hk7⟩
        have hR : FwI B c xs kf n base T V m a p d (some ⟨gb, go, none⟩) A w1 (.slice A7 (s - nn) (cc' - nn)) (.int .i64 ((j : Int) + 1)) w7 := by
          have hPO := HPOS.out
          have hEN := HEN.out
          have hk47 : MkK c kf w4 w7 := (MkK.below (Keep.refl _ _) HB46.out).put hk7
          have hkall : MkK c kf w3 w7 := HK4.out.trans hk47
          refine ⟨j + 1, pos + nn, s - nn, f', updF V1 qs (splice (V1 qs) fr ((d.drop (pos - p)).take nn)), m1, x1, a1, A7, cc' - nn, by rw [← HL.out, ← HPL.out]; exact HLT.out, by rw [Int.natCast_add]; rfl, rfl, by rw [← HL.out]; exact HDR.out.symm, by omega, by rw [← HL.out]; omega, by omega, ?_, HAB7.out.trans HAB.out, hsw7, ?_, ?_, HSN.out.trans HMS.out.nd, ?_, fun _ b' h1 h2 => ?_, HMKK.out.trans hkall, ?_⟩
          · rw [show pos + nn - p = (pos - p) + nn by omega, ← List.drop_drop]
            exact HSL7.out.keep hk7 (fun z hz _ => by
              have h1 := HAB7.out
              have h2 : (Value.slice A' s cc').ownBlock = some z := by
                rw [ownBlock_slice] at hz ⊢
                rw [← h1]; exact hz
              exact (HAJ.out z h2).1)
          · exact HMS.out.fi.keep (Keep.trans (Keep.of_below (S := fun j => j = c.p.b) HB46.out) hk7 (fun _ _ h => h)) (fun e => HMS.out.sw.b_ne HMS.out.fi e)
          · rw [HQS.out]
            exact HMS.out.tr.putData (sb_lt HB76.out) (sb_notP HB76.out) HNE.out _
          · have hg := HWR.out.grow HMS.out.gr HTR.out (fun t ht => ⟨b, HIN.out, ht⟩)
            have hl1 : (d.take (pos - p)).length = pos - p := by rw [List.length_take, ← HL.out]; omega
            have := hg.put HMS.out.tr (b := b) (f := fr) (e := (d.drop (pos - p)).take nn) HB76.out HNE.out (by rw [← HQS.out]; exact HVL.out) (by rw [HTL.out]; omega) (by rw [hl1]; omega)
            rw [← HQS.out] at this
            have he : d.take (pos - p) ++ (d.drop (pos - p)).take nn = d.take (pos + nn - p) := by
              rw [show pos + nn - p = (pos - p) + nn by omega, List.take_add]
            rw [he] at this
            rw [← HL.out]
            exact this
          · by_cases hbb : b' = b
            · rw [hbb]; exact HNE.out
            · have h3 := HAL.out (by omega) b' h1 (by omega)
              rw [HMS.out.gr.old _ (sb_lt (by omega)) h3]
              exact h3
          · rw [← HL.out, ← HPL.out]
            exact MkK.sl hkall HPT.out (fun z hz => by
              obtain rfl := Option.some.inj hz
              exact ⟨HGB.out.1, HGB.out.2.1⟩)
        have HR := Lib.hid hR
        clear hR hsw7 hk7 hcp hsp q1 q2 q1' q2' hsf7 gw
        go_wp2_with fail
        go_roundw
        case rel => exact HR.out
        case measure => simp only [intOf]; omega
      · have HFIN : Hid (FwP B c xs n base T V m a p d w (.returned (.int .i64 10)) w4) := Lib.hid ⟨V1, m1, a1, fwk_of HB1.out HKF.out (HMKK.out.trans hk4), .inr ⟨rfl, hms.sw, ⟨pos - p, by
          rw [← HL.out]
          exact HWR.out.grow hms.gr HTR.out (fun t ht => ⟨b, HIN.out, ht⟩)⟩, ⟨x1, hms.tr⟩, hno, b, by rw [← HL.out]; exact HIN.out, hz⟩⟩
        clear hms hk4 hno hz hc0 hc1 hc2 p0
        go_wp2
        go_ret
        exact HFIN.out
    · obtain rfl : j = pl := by omega
      have hEN := HEN.out
      have hnil : (partsL p l).drop j = [] := List.drop_eq_nil_iff.2 (by rw [← HPL.out]; exact Nat.le_refl _)
      have hs0 : s = 0 := partsF_nil hsf (hdr.symm.trans hnil)
      obtain ⟨sz, hsz⟩ : ∃ z : Nat, z = x'.size := ⟨_, rfl⟩
      obtain ⟨mx, hmx⟩ : ∃ z : Nat, z = max sz en := ⟨_, rfl⟩
      have gm : max (sz : Int) (en : Int) = (mx : Int) := by omega
      have ga : ¬ (j : Int) < (j : Int) := by omega
      have c5 : wr.cell? ⟨kf, 5, none⟩ = some (.int .i64 (sz : Int)) := by rw [hsz]; exact (blk_cells hfi 5).trans rfl
      have f5 := blk_frees hfi 5
      obtain ⟨w3, hw3⟩ : ∃ w3, w3 = wr.setCell ⟨kf, 5, none⟩ (.int .i64 (mx : Int)) := ⟨_, rfl⟩
      have hk3 := keep_set wr kf 5 (.int .i64 (mx : Int))
      have hfi3 : FI c.p.k kf n (x'.sized mx) w3 := by
        rw [hw3]
        unfold FI
        rw [blk_set hfi (.int .i64 (mx : Int)) (j := 5), filC_size]
      rw [← hw3] at hk3
      have hsw3 := hsw.file hfi hk3
      have hxo := HXO.out
      have htr2 : TreeOk V' m' c.N ((x'.sized mx).tick) a' := htr.node (fun i hi => sized_ptr x' mx i hi)
      have hszx : sz = (xs n).size := by rw [hsz]; exact hsn.2.2.2.1
      have hokk : ((x'.sized mx).tick).okK := by
        have hk := hxo.kd
        have hkd := HKD.out
        rw [← HL.out, ← hEN.1, ← hszx, ← hmx] at hkd
        obtain ⟨e1, e2, _⟩ := hsn
        show ((x'.kind = 0 ∧ _) ∨ (x'.kind = 1 ∧ 1 ≤ x'.links ∧ x'.links ≤ 255 ∧ mx ≤ 9728) ∨ (x'.kind = 2 ∧ x'.links = 1 ∧ mx ≤ 9728 ∧ mx % 32 = 0))
        rw [e1, e2]
        unfold NoS.okK at hk
        rcases hkd with h1 | ⟨h1, h2⟩
        · right; left
          rcases hk with h | h | h
          · omega
          · exact ⟨h1, h.2.1, h.2.2.1, by omega⟩
          · omega
        · right; right
          rcases hk with h | h | h
          · omega
          · omega
          · exact ⟨h1, h.2.1, by omega, h2⟩
      have hyok := node_ok_of htr2 hsw.le.2 (by show x'.gen ≤ _; rw [hsn.2.2.1]; exact hxo.gen) (by show min _ _ ≤ _; exact Nat.min_le_right _ _) hokk
      have HSV := Lib.hid (save_walk hsw3 hfi3 HX.out.2.2.2.2 hyok (by show x'.change ≤ _; rw [hsn.2.2.2.2]; exact hxo.change) (by have := HUL.out a'; omega) (List.mem_append_left _ HX.out.2.2.2.1))
      have HEND : Hid (∀ W, SW B c V' m' (updF xs n ((x'.sized mx).tick)) (base ++ T.map a') W → MkK c kf w3 W → FwP B c xs n base T V m a p d w (.returned (.int .i64 0)) W) := Lib.hid (fun W h1 h2 => by
        have htk : d.take (pos - p) = d := List.take_of_length_le (by rw [← HL.out]; omega)
        rw [htk] at hwr
        refine ⟨V', m', a', fwk_of HB1.out HKF.out ((hmk.file hk3).trans h2), .inl ⟨rfl, _, h1, htr2, by rw [← HL.out]; exact hwr, fun b hb => hal (by omega) b hb.1 (by have := hb.2; rw [← HL.out] at this; omega), hsn.1, hsn.2.1, hsn.2.2.1, ?_, ?_⟩⟩
        · show mx = _
          rw [hmx, hszx, ← HL.out, hEN.1]
        · show min (x'.change + 1) _ = _
          rw [hsn.2.2.2.2])
      have HW3 := Lib.hid hw3
      clear hdr hsf hps hpp hsl hab hsw hfi htr hsn hwr hal hmk hpt hlt hw3 hk3 hfi3 hsw3 hxo htr2 hszx hokk hyok hnil hs0 hsz hmx hEN hj
      go_upto_region 30 with fail
      rw [← HW3.out]
      go_wp2_with fail
      refine HSV.out.mono ?_
      rintro r w4 ⟨rfl, hsw4, _, hk4⟩
      have HF := Lib.hid (HEND.out w4 hsw4 hk4)
      clear hsw4 hk4
      go_wp2
      go_ret
      exact HF.out
end Go.Proofs.YtehfoopefefpnaaGreat
/- Package space: Read. -/
set_option linter.unusedSimpArgs false
set_option linter.unusedVariables false
namespace Go.Proofs.YtehfoopefefpnaaGreat
open Go.RowKit

attribute [local go_sem ↓] Go.wp_at_zero Go.wp_at_succ
/-- A file's bytes from p on. -/
def ctL (V : Nat → List UInt8) (a : Nat → Nat) (p s : Nat) : List UInt8 := (List.range s).map fun i => Ct V a (p + i)
theorem ctL_len (V : Nat → List UInt8) (a : Nat → Nat) (p s : Nat) : (ctL V a p s).length = s := by unfold ctL; simp
theorem ctL_get (V : Nat → List UInt8) (a : Nat → Nat) (p s i : Nat) (h : i < s) : (ctL V a p s)[i]? = some (Ct V a (p + i)) := by
  unfold ctL
  rw [List.getElem?_map, List.getElem?_range h]
  rfl
theorem ctL_more (V : Nat → List UInt8) (a : Nat → Nat) (p s : Nat) (e : List UInt8) (h : ∀ i, i < e.length → e.getD i 0 = Ct V a (p + s + i)) : ctL V a p s ++ e = ctL V a p (s + e.length) := by
  apply List.ext_getElem?
  intro i
  by_cases h1 : i < s
  · rw [List.getElem?_append_left (by rw [ctL_len]; exact h1), ctL_get _ _ _ _ _ h1, ctL_get _ _ _ _ _ (by omega)]
  · rw [List.getElem?_append_right (by rw [ctL_len]; omega), ctL_len]
    by_cases h2 : i < s + e.length
    · rw [ctL_get _ _ _ _ _ h2, List.getElem?_eq_getElem (by omega)]
      have := h (i - s) (by omega)
      rw [List.getD_eq_getElem?_getD, List.getElem?_eq_getElem (by omega)] at this
      rw [show p + s + (i - s) = p + i by omega] at this
      rw [← this]
      rfl
    · rw [List.getElem?_eq_none (by omega), List.getElem?_eq_none (by rw [ctL_len]; omega)]
/-- A part of a row of 128 bytes. -/
theorem row_part {g : Nat} {W : World} {cur : Array Value} {t : TypeId} {fr : Nat × Nat} {X : List UInt8} (h : W.heap[g]? = some (.cells cur t fr)) (hx : cur.toList.take 128 = bv X) (hl : X.length = 128) {f n : Nat} (hn : f + n ≤ 128) (hn0 : 0 < n) : Sl W 1 (.slice (some ⟨g, f, none⟩) n (128 - f)) n (bv ((X.drop f).take n)) := by
  refine ⟨_, _, rfl, .inr ⟨_, rfl, fun j u hu => ?_⟩, (fun e => by cases e), by omega, by rw [bv_length, List.length_take, List.length_drop, hl]; omega⟩
  rw [Addr.add_lit, blk_cells h, ← Array.getElem?_toList]
  unfold bv at hu hx
  rw [List.map_take, List.map_drop, List.getElem?_take] at hu
  split at hu
  · rw [List.getElem?_drop, ← hx, List.getElem?_take] at hu
    split at hu
    · exact hu
    · cases hu
  · cases hu
def FrP (V : Nat → List UInt8) (a : Nat → Nat) (p l : Nat) (w : World) (e : Ending) (w' : World) : Prop := ∃ A, e = .returned (.tuple #[.slice A l l, .int .i64 0]) ∧ NB w.heap.size w' A l (ctL V a p l) ∧ Below w.heap.size w w'
def FrI (V : Nat → List UInt8) (a : Nat → Nat) (p l : Nat) (w2 : World) (v13 v64 : Value) (W : World) : Prop := ∃ (j pos s f : Nat) (A' : Option Addr) (c' : Nat), j ≤ (partsL p l).length ∧ v64 = .int .i64 (j : Int) ∧ v13 = .slice A' (pos - p) c' ∧ (partsL p l).drop j = partsF f pos s ∧ s ≤ f ∧ pos + s = p + l ∧ p ≤ pos ∧ AB w2.heap.size W A' c' (ctL V a p (pos - p)) ∧ Below w2.heap.size w2 W
set_option maxRecDepth 100000 in
set_option maxHeartbeats 16000000 in
theorem fread_walk {B : Nat} {c : SWc} {V : Nat → List UInt8} {m : Nat → Bool} {xs : Nat → NoS} {U : List Nat} {w : World} {n : Nat} {a : Nat → Nat} (h : SW B c V m xs U w) (hn : n < 32) (hk : (xs n).kind ≠ 0) (ht : TreeOk V m c.N (xs n) a) (p sz l : Nat) (hp : p ≤ 1000000000) (hz : sz ≤ 9728) (hl : l = min sz ((xs n).size - p)) :
    Calls Tryz.prog 10 #[.pointer (some ⟨c.p.k, 0, none⟩), .int .i64 (n : Int), .int .i64 (p : Int), .int .i64 (sz : Int)] w (FrP V a p l w) := by
  have HOP := Lib.hid (open_walk h hn hk)
  have hxo := h.node_ok hn
  have hs9 : (xs n).size ≤ 9728 := by
    have := hxo.kd
    unfold NoS.okK at this
    omega
  obtain ⟨x, hx⟩ : ∃ x, x = xs n := ⟨_, rfl⟩
  rw [← hx] at HOP ht hl hs9
  have HH := Lib.hid h
  have HT := Lib.hid ht
  have HNN : Hid (n < 32) := Lib.hid hn
  obtain ⟨xz, hxz⟩ : ∃ z : Nat, z = x.size := ⟨_, rfl⟩
  rw [← hxz] at hl hs9
  have HXZ := Lib.hid hxz
  have g0 : ¬ (p : Int) < 0 := by omega
  have g1 : ¬ (sz : Int) < 0 := by omega
  have g2 : ¬ (9728 : Int) < (sz : Int) := by omega
  clear h ht hk hxo hx hxz hn
  go_enter Tryz.func10, Tryz.ntmps10
  go_wp2_with fail
  refine HOP.out.mono ?_
  rintro r w1 ⟨kf, rfl, hfi1, hkf, hb1⟩
  have c5 : w1.cell? ⟨kf, 5, none⟩ = some (.int .i64 (xz : Int)) := by rw [HXZ.out]; exact (blk_cells hfi1 5).trans rfl
  have HFI1 := Lib.hid hfi1
  have HB1 := Lib.hid hb1
  clear hfi1 hkf hb1
  by_cases hpz : xz ≤ p
  · have g3 : (xz : Int) ≤ (p : Int) := by omega
    obtain rfl : l = 0 := by omega
    clear hl hpz
    go_wp2
    go_ret2
    exact ⟨none, rfl, NB.nil _ _, HB1.out⟩
  · have g3 : ¬ (xz : Int) ≤ (p : Int) := by omega
    have hpl : p + l ≤ 9728 := by omega
    have g4 : IntKind.i64.wrap ((xz : Int) - (p : Int)) = (xz : Int) - (p : Int) := IntWalk.i64_in _ (by omega)
    have g5 : min (sz : Int) ((xz : Int) - (p : Int)) = (l : Int) := by omega
    have HPA := Lib.hid (fun W => parts_walk p l (by omega) hpl W)
    obtain ⟨pl, hpl'⟩ : ∃ z, z = (partsL p l).length := ⟨_, rfl⟩
    have hplen : pl ≤ 9728 := by rw [hpl']; exact Nat.le_trans (partsF_len _ _ _) (by omega)
    have HPL := Lib.hid hpl'
    have HPZ := Lib.hid (show p + l ≤ 9728 ∧ l ≤ xz from ⟨hpl, by omega⟩)
    clear hl hpz hpl hpl' g2
    go_wp2_with fail
    refine (HPA.out w1).mono ?_
    rintro r w2 ⟨PA, rfl, hps, hpf, hb2⟩
    rw [← HPL.out] at hps ⊢
    have HPS := Lib.hid hps
    have HSW2 := Lib.hid (HH.out.below (bstep HB1.out hb2))
    have HFI2 := Lib.hid (HFI1.out.below hb2)
    have HB2 := Lib.hid (bstep HB1.out hb2)
    have HI : Hid (FrI V a p l w2 (.slice none 0 0) (.int .i64 0) w2) := Lib.hid ⟨0, p, l, l, none, 0, Nat.zero_le _, rfl, by rw [Nat.sub_self], rfl, Nat.le_refl _, rfl, Nat.le_refl _, by rw [Nat.sub_self]; exact (show NB w2.heap.size w2 none ([] : List UInt8).length [] from NB.nil _ _).ab, Below.refl _ _⟩
    clear hps hpf hb2 c5
    go_wp2_with fail
    go_loopw [13, 64] (fun v13 v64 wr => FrI V a p l w2 v13 v64 wr) (fun _ v _ => pl - (intOf v).toNat)
    case atStart => exact HI.out
    case round =>
      obtain ⟨j, pos, s, f, A', c', hj, rfl, rfl, hdr, hsf, hpo, hpp, hab, hbw⟩ := hrel
      rw [← HPL.out] at hj
      by_cases hlt : j < pl
      · obtain ⟨q, hq⟩ : ∃ q, (partsL p l)[j]? = some q := ⟨(partsL p l)[j]'(by rw [← HPL.out]; exact hlt), List.getElem?_eq_getElem _⟩
        have hdr2 := List.drop_eq_getElem_cons (l := partsL p l) (i := j) (by rw [← HPL.out]; exact hlt)
        have hqq : (partsL p l)[j]'(by rw [← HPL.out]; exact hlt) = q := by
          rw [List.getElem?_eq_getElem (by rw [← HPL.out]; exact hlt)] at hq
          exact Option.some.inj hq
        rw [hqq, hdr] at hdr2
        have hPZ := HPZ.out
        have hs0 : s ≠ 0 := by
          rintro rfl
          rw [partsF_zero] at hdr2
          cases hdr2
        obtain ⟨f', rfl⟩ : ∃ f', f = f' + 1 := ⟨f - 1, by omega⟩
        obtain ⟨b, hb⟩ : ∃ z : Nat, z = pos / 128 := ⟨_, rfl⟩
        obtain ⟨fr, hfr⟩ : ∃ z : Nat, z = pos % 128 := ⟨_, rfl⟩
        obtain ⟨nn, hnn⟩ : ∃ z : Nat, z = min s (128 - fr) := ⟨_, rfl⟩
        obtain ⟨tq, htq⟩ : ∃ z : Nat, z = fr + nn := ⟨_, rfl⟩
        have hst : partsF (f' + 1) pos s = ⟨b, fr, tq⟩ :: partsF f' (pos + nn) (s - nn) := by
          rw [partsF, if_neg hs0, htq, hnn, hfr, hb]
        rw [hst] at hdr2
        obtain ⟨hq1, hdr3⟩ := List.cons.inj hdr2
        rw [← hq1] at hq
        obtain ⟨gb, go, hPA, hc0, hc1, hc2⟩ := part_at (HPS.out.below hbw) hq
        subst hPA
        have hb76 : b < 76 := by omega
        obtain ⟨w3, hw3⟩ : ∃ w3, w3 = wr.alloc (.cells #[.int .i64 (b : Int), .int .i64 (fr : Int), .int .i64 (tq : Int)] 76) := ⟨_, rfl⟩
        have hn3 := blk_new wr (.cells #[.int .i64 (b : Int), .int .i64 (fr : Int), .int .i64 (tq : Int)] 76)
        have hb3 : Below wr.heap.size wr w3 := by rw [hw3]; exact (Below.refl _ wr).alloc (Nat.le_refl _) _
        rw [← hw3] at hn3
        obtain ⟨Z, hZ⟩ : ∃ Z, Z = (bv (List.replicate 128 0)).toArray := ⟨_, rfl⟩
        have hmk : (Instr.makeSlice 22 (.int .i64 128) (.int .i64 128)).run Tryz.prog w3 = .ok (.slice (some ⟨w3.heap.size, 0, none⟩) 128 128) (w3.alloc (.cells Z 5)) := by rw [hZ]; exact make128 w3
        obtain ⟨w4, hw4⟩ : ∃ w4, w4 = w3.alloc (.cells Z 5) := ⟨_, rfl⟩
        have hz4 := blk_new w3 (.cells Z 5)
        have hb4 : Below w3.heap.size w3 w4 := by rw [hw4]; exact (Below.refl _ w3).alloc (Nat.le_refl _) _
        rw [← hw4] at hz4 hmk
        have hn4 := (Keep.of_below (S := fun _ => False) hb4).blk hn3 id
        have hbw4 := bstep hbw (bstep hb3 hb4)
        have HFD := Lib.hid (find_walk (HSW2.out.below hbw4) (HFI2.out.below hbw4) HT.out hb76)
        have ga : (j : Int) < (pl : Int) := by omega
        have gj0 : (0 : Int) ≤ (j : Int) := by omega
        have gc : IntKind.i64.wrap ((j : Int) + 1) = (j : Int) + 1 := IntWalk.i64_in _ (by omega)
        have p0 := (blk_cells hn4 0).trans (show _ = some (.int .i64 (b : Int)) from rfl)
        have HN4 := Lib.hid hn4
        have HZ4 := Lib.hid hz4
        have HB34 := Lib.hid (show Below w2.heap.size w2 w4 from hbw4)
        have HAB4 := Lib.hid (hab.below (bstep hb3 hb4))
        have HZZ := Lib.hid hZ
        have HPOS := Lib.hid (show b = pos / 128 ∧ fr = pos % 128 ∧ nn = min s (128 - fr) ∧ tq = fr + nn ∧ s ≠ 0 ∧ s ≤ f' + 1 ∧ pos + s = p + l ∧ p ≤ pos ∧ b < 76 from ⟨hb, hfr, hnn, htq, hs0, hsf, hpo, hpp, hb76⟩)
        have HDR := Lib.hid hdr3
        have HLT := Lib.hid hlt
        have HW3 := Lib.hid hw3
        have HW4 := Lib.hid hw4
        obtain ⟨z, hzz⟩ : ∃ z : Nat, z = a (sb b) := ⟨_, rfl⟩
        rw [← hzz] at HFD
        have HZE := Lib.hid hzz
        clear hdr hdr2 hqq hq hq1 hdr3 hst hs0 hb hfr hnn htq hn3 hb3 hz4 hb4 hn4 hbw4 hb76 hsf hpo hpp hab hlt hw3 hw4 hPZ hj hZ hzz hbw
        go_upto_region 15 with fail
        rw [← HW3.out]
        go_wp2_with fail
        refine HFD.out.mono ?_
        rintro r w5 ⟨rfl, hb5⟩
        have HB5 := Lib.hid hb5
        have hn5 := (Keep.of_below (S := fun _ => False) hb5).blk HN4.out id
        have hz5 := (Keep.of_below (S := fun _ => False) hb5).blk HZ4.out id
        by_cases hz0 : z = 0
        case' pos =>
          have e0 : ((z : Int) == 0) = true := by rw [hz0]; rfl
          have e0' : (z : Int) = 0 := by rw [hz0]; rfl
          obtain ⟨w6, hw6⟩ : ∃ w6, w6 = w5 := ⟨_, rfl⟩
          obtain ⟨g6, hg6⟩ : ∃ g6, g6 = w3.heap.size := ⟨_, rfl⟩
          have HROW : Hid (∃ cur ty Y, w6.heap[g6]? = some (.cells cur ty (0, 0)) ∧ cur.toList.take 128 = bv Y ∧ Y.length = 128 ∧ (∀ i, i < 128 → Y.getD i 0 = Ct V a (b * 128 + i))) := Lib.hid (by
            refine ⟨Z, _, List.replicate 128 0, by rw [hw6, hg6]; exact hz5, by rw [HZZ.out]; rfl, List.length_replicate .., fun i hi => ?_⟩
            unfold Ct
            rw [show (b * 128 + i) / 128 = b by omega, ← HZE.out, if_pos hz0, List.getD_eq_getElem?_getD, List.getElem?_replicate]
            split <;> rfl)
          have HB6 : Hid (Below w5.heap.size w5 w6) := Lib.hid (by rw [hw6]; exact Below.refl _ _)
          rw [← hw6, ← hg6]
          clear hw6 hg6 hz0
        case' neg =>
          have e0 : ((z : Int) == 0) = false := beq_eq_false_iff_ne.2 (by omega)
          have e0' : ¬ (z : Int) = 0 := by omega
          have hq86 := sb_lt HPOS.out.2.2.2.2.2.2.2.2
          obtain ⟨r1, r2, _⟩ := HT.out.rng _ hq86 (by rw [← HZE.out]; exact hz0)
          rw [← HZE.out] at r1 r2
          have hsw5 := HSW2.out.below (bstep HB34.out hb5)
          have HVL := Lib.hid (hsw5.each r1 r2)
          have HGT := Lib.hid (wgetO hsw5 r1 r2)
          have HZ0 := Lib.hid hz0
          clear hsw5 r1 r2 hq86 hz0
          go_wp2_with fail
          refine HGT.out.mono ?_
          rintro r w6 ⟨g6, cur, ty, rfl, hg6, hblk6, htk6, hb6⟩
          have HROW : Hid (∃ cur ty Y, w6.heap[g6]? = some (.cells cur ty (0, 0)) ∧ cur.toList.take 128 = bv Y ∧ Y.length = 128 ∧ (∀ i, i < 128 → Y.getD i 0 = Ct V a (b * 128 + i))) := Lib.hid (by
            refine ⟨cur, ty, V z, hblk6, htk6, HVL.out, fun i hi => ?_⟩
            unfold Ct
            rw [show (b * 128 + i) / 128 = b by omega, ← HZE.out, if_neg HZ0.out, show (b * 128 + i) % 128 = i by omega])
          have HB6 : Hid (Below w5.heap.size w5 w6) := Lib.hid hb6
          clear hg6 hblk6 htk6 hb6
        all_goals
          obtain ⟨cur6, ty6, Y, hblk6, htk6, hYl, hYc⟩ := HROW.out
          have hn6 := (Keep.of_below (S := fun _ => False) HB6.out).blk hn5 id
          have hPO := HPOS.out
          have q1 := (blk_cells hn6 1).trans (show _ = some (.int .i64 (fr : Int)) from rfl)
          have q2 := (blk_cells hn6 2).trans (show _ = some (.int .i64 (tq : Int)) from rfl)
          have hsp : ∀ W : World, (Instr.slice 22 (.slice (some ⟨g6, 0, none⟩) 128 128) (some (.int .i64 (fr : Int))) (some (.int .i64 (tq : Int))) none).run Tryz.prog W = .ok (.slice (some ⟨g6, fr, none⟩) nn (128 - fr)) W := fun W => by
            have := slice_part g6 fr tq (by omega) (by omega) W
            rw [show tq - fr = nn by omega] at this
            exact this
          have HSL6 := Lib.hid (row_part hblk6 htk6 hYl (f := fr) (n := nn) (by omega) (by omega))
          have HAB6 := Lib.hid ((HAB4.out.below hb5).below HB6.out)
          have HYL : Hid (((Y.drop fr).take nn).length = nn) := Lib.hid (by rw [List.length_take, List.length_drop, hYl]; omega)
          have hct : ctL V a p (pos - p) ++ (Y.drop fr).take nn = ctL V a p (pos - p + nn) := by
            have := ctL_more V a p (pos - p) ((Y.drop fr).take nn) (fun i hi => by
              rw [HYL.out] at hi
              rw [List.getD_eq_getElem?_getD, List.getElem?_take_of_lt hi, List.getElem?_drop, ← List.getD_eq_getElem?_getD, hYc _ (by omega)]
              congr 1
              omega)
            rw [HYL.out] at this
            exact this
          have HCT := Lib.hid hct
          have HB26 := Lib.hid (bstep (bstep HB34.out hb5) HB6.out)
          have HSZ : Hid (w2.heap.size ≤ w6.heap.size) := Lib.hid HB26.out.size
          have HLE : Hid (pos - p + nn ≤ 1000000000 ∧ 0 < nn) := Lib.hid ⟨by have := HPZ.out; omega, by omega⟩
          have hms2 : s - nn < s := by omega
          clear hblk6 htk6 hYl hYc hn6 hPO hct hb5 hn5 hz5
          go_wp2_with (at_builtin; go_must (refine wpList_appB (B := w2.heap.size) (n := pos - p) (m := nn) (d := ctL V a p (pos - p)) (e := (Y.drop fr).take nn) rfl rfl (ctL_len _ _ _ _) HYL.out rfl rfl HAB6.out HSL6.out (.inl HLE.out.2) HSZ.out HLE.out.1 ?_))
          intro A8 c8 w8 h8
          have HR : Hid (FrI V a p l w2 (.slice A8 (pos - p + nn) c8) (.int .i64 ((j : Int) + 1)) w8) := Lib.hid (by
            have hPO := HPOS.out
            refine ⟨j + 1, pos + nn, s - nn, f', A8, c8, by rw [← HPL.out]; exact HLT.out, by rw [Int.natCast_add]; rfl, by rw [show pos + nn - p = pos - p + nn by omega], HDR.out.symm, by omega, by omega, by omega, ?_, ?_⟩
            · have := h8.ab
              rw [HCT.out] at this
              rw [show pos + nn - p = pos - p + nn by omega]
              exact this
            · exact HB26.out.trans h8.be)
          clear h8 q1 q2 hsp
          go_wp2_with fail
          go_roundw
          case rel => exact HR.out
          case measure => simp only [intOf]; omega
      · obtain rfl : j = pl := by omega
        have hnil : (partsL p l).drop j = [] := List.drop_eq_nil_iff.2 (by rw [← HPL.out]; exact Nat.le_refl _)
        have hs0 : s = 0 := partsF_nil hsf (hdr.symm.trans hnil)
        have he : pos - p = l := by omega
        rw [he] at hab ⊢
        have ga : ¬ (j : Int) < (j : Int) := by omega
        have hnb := hab.nb
        obtain ⟨A1, c1, e1, _, hz1, hc1, _⟩ := hnb.sl
        rw [ctL_len] at e1 hc1
        injection e1 with e1 _ e2
        subst e1 e2
        have HCL := Lib.hid (clip_walk A' l c' wr hc1 (fun e => by
          have := hz1 e
          rw [ctL_len] at this
          exact this) (by have := HPZ.out; omega))
        have HF : Hid (FrP V a p l w (.returned (.tuple #[.slice A' l l, .int .i64 0])) wr) := Lib.hid ⟨A', rfl, by
          have := hnb.clip.mono HB2.out.size
          rw [ctL_len] at this
          exact this, bstep HB2.out hbw⟩
        clear hdr hsf hpo hpp hab hbw hlt hnil hs0 hnb hz1 hc1 he hj
        go_wp2_with fail
        refine HCL.out.mono ?_
        rintro r w9 ⟨rfl, hw9⟩
        subst hw9
        go_wp2
        go_ret2
        exact HF.out
end Go.Proofs.YtehfoopefefpnaaGreat
/- slices.Clone and slices.Equal at numbers. -/
set_option linter.unusedSimpArgs false
set_option linter.unusedVariables false
namespace Go.Proofs.YtehfoopefefpnaaGreat
open Go.RowKit

attribute [local go_sem ↓] Go.wp_at_zero Go.wp_at_succ
theorem nv_one (l : List Nat) : ∀ v ∈ nv l, v.oneCell' = true := by
  intro v hv
  unfold nv at hv
  obtain ⟨n, _, rfl⟩ := List.mem_map.1 hv
  rfl
def NewR (l : List Nat) (w : World) (e : Ending) (w' : World) : Prop := ∃ A' c', e = .returned (.slice A' l.length c') ∧ Sl w' 1 (.slice A' l.length c') l.length (nv l) ∧ (∀ j, A'.map (·.block) = some j → w.heap.size ≤ j) ∧ Below w.heap.size w w'
theorem cloneI_walk (l : List Nat) (A : Option Addr) (c : Nat) (w : World) (h : Sl w 1 (.slice A l.length c) l.length (nv l)) (h0 : 0 < l.length) (hn : l.length ≤ 1000000000) :
    Calls Tryz.prog 114 #[.slice A l.length c] w (NewR l w) := by
  cases A with
  | none =>
    obtain ⟨A', c', e', _, hz, _, _⟩ := h
    injection e' with e1 e2 e3
    subst e1 e3
    obtain ⟨h1, h2⟩ := hz rfl
    omega
  | some ad =>
    have hnil := fun w => Lib.run_eql_slice_nil (P := Tryz.prog) w 29 3 (some ad) l.length c 0 0 Tryz.underlying29
    have HS := Lib.hid (h.below ((Below.refl w.heap.size w).alloc (Nat.le_refl _) (.cells #[] 3)))
    have HO := Lib.hid (own_new w #[] 3 1 0 rfl (by decide))
    clear h
    go_enter Tryz.func114, Tryz.ntmps114
    go_wp2_with (at_builtin; go_must (refine wpList_app rfl eltI rfl rfl rfl (n := 0) (m := l.length) HO.out HS.out (nv_one l) (by omega) (by simp only [maxLen]; omega) ?_))
    intro v4 w4 g1 g2 g3 g4
    clear g4
    obtain ⟨A4, c4, rfl, _⟩ := Rd.of_own g1
    have HN : Hid (Sl w4 1 (.slice A4 l.length c4) l.length (nv l) ∧ (∀ j, A4.map (·.block) = some j → w.heap.size ≤ j) ∧ Below w.heap.size w w4) := Lib.hid ⟨by simpa using Sl.of_own g1, fun j e => by
      rcases g3 with g3 | g3 <;> rw [ownB_slice, e] at g3
      · injection g3 with g3
        have g3 : j = w.heap.size := g3
        omega
      · injection g3 with g3
        have : (w.alloc (.cells #[] 3)).heap.size = w.heap.size + 1 := by simp
        omega, ((Below.refl w.heap.size w).alloc (Nat.le_refl _) _).trans (g2.below (fun j e => by rw [ownB_slice] at e; injection e with e; have e : w.heap.size = j := e; omega) (by simp))⟩
    clear g1 g2 g3
    go_wp2
    go_ret
    exact ⟨A4, c4, by simp, HN.out⟩
set_option maxHeartbeats 1000000 in
theorem equalI_walk (l k : List Nat) (A D : Option Addr) (c d N : Nat) (w : World) (hl : l.length = N) (hk : k.length = N) (h : Sl w 1 (.slice A N c) N (nv l)) (h2 : Sl w 1 (.slice D N d) N (nv k)) (hn : N ≤ 1000000000) :
    Calls Tryz.prog 117 #[.slice A N c, .slice D N d] w fun e w' => e = .returned (.bool (decide (l = k))) ∧ Below w.heap.size w w' := by
  have H := Lib.hid h
  have H2 := Lib.hid h2
  have HLK := Lib.hid (show l.length = N ∧ k.length = N from ⟨hl, hk⟩)
  clear h h2 hl hk
  go_enter Tryz.func117, Tryz.ntmps117
  go_wp2_with fail
  go_loopw [13] (fun v13 wr => Below w.heap.size w wr ∧ ∃ j : Nat, v13 = .int .i64 (j : Int) ∧ j ≤ N ∧ l.take j = k.take j) (fun v _ => N - (intOf v).toNat)
  case atStart => exact ⟨Below.refl _ _, 0, rfl, Nat.zero_le _, by simp⟩
  case round =>
    obtain ⟨hbw, j, rfl, hj, htk⟩ := hrel
    have HBW := Lib.hid hbw
    clear hbw
    have HTK := Lib.hid htk
    clear htk
    by_cases hlt : j < N
    · obtain ⟨p, hp⟩ : ∃ p, l[j]? = some p := ⟨l[j]'(by rw [HLK.out.1]; exact hlt), List.getElem?_eq_getElem _⟩
      obtain ⟨q, hq⟩ : ∃ q, k[j]? = some q := ⟨k[j]'(by rw [HLK.out.2]; exact hlt), List.getElem?_eq_getElem _⟩
      obtain ⟨b1, o1, hA1, _, hc1⟩ := sl_cell (H.out.below HBW.out) (show (nv l)[j]? = some (.int .i64 (p : Int)) from by unfold nv; rw [List.getElem?_map, hp]; rfl)
      obtain ⟨b2, o2, hA2, _, hc2⟩ := sl_cell (H2.out.below HBW.out) (show (nv k)[j]? = some (.int .i64 (q : Int)) from by unfold nv; rw [List.getElem?_map, hq]; rfl)
      subst hA1 hA2
      have ga : (j : Int) < (N : Int) := by omega
      have gj0 : (0 : Int) ≤ (j : Int) := by omega
      have gc : IntKind.i64.wrap ((j : Int) + 1) = (j : Int) + 1 := IntWalk.i64_in _ (by omega)
      by_cases e : p = q
      · have ge : ((p : Int) == (q : Int)) = true := by rw [e]; exact beq_self_eq_true _
        have ge' : (p : Int) = (q : Int) := by rw [e]
        have HR : Hid (l.take (j + 1) = k.take (j + 1)) := Lib.hid (by rw [List.take_add_one, List.take_add_one, hp, hq, HTK.out, e])
        have HLT := Lib.hid hlt
        clear e hp hq
        go_upto_region 6 with fail
        go_quiet (fail)
        go_wp2_with fail
        go_roundw
        case rel => exact ⟨bstep HBW.out ((Keep.refl _ wr).drewN nq).to_below, j + 1, by rw [Int.natCast_add]; rfl, HLT.out, HR.out⟩
        case measure => simp only [intOf]; have := HLT.out; omega
      · have ge : ((p : Int) == (q : Int)) = false := beq_eq_false_iff_ne.2 (by omega)
        have ge' : ¬ (p : Int) = (q : Int) := by omega
        have HF : Hid (decide (l = k) = false) := Lib.hid (decide_eq_false (fun ee => by
          rw [ee, hq] at hp
          exact e (Option.some.inj hp).symm))
        clear e hp hq
        go_upto_region 6 with fail
        go_quiet (fail)
        go_wp2
        go_ret
        exact ⟨by rw [HF.out]; rfl, bstep HBW.out ((Keep.refl _ wr).drewN nq).to_below⟩
    · obtain rfl : j = N := by omega
      have ga : ¬ (j : Int) < (j : Int) := by omega
      have HF : Hid (decide (l = k) = true) := Lib.hid (decide_eq_true (by
        have := HTK.out
        rw [List.take_of_length_le (by rw [HLK.out.1]; exact Nat.le_refl _), List.take_of_length_le (by rw [HLK.out.2]; exact Nat.le_refl _)] at this
        exact this))
      clear hlt
      go_wp2
      go_ret
      exact ⟨by rw [HF.out]; rfl, HBW.out⟩
end Go.Proofs.YtehfoopefefpnaaGreat
/- What is left of a file's tree when it is cut, plain. -/
set_option linter.unusedSimpArgs false
set_option linter.unusedVariables false
namespace Go.Proofs.YtehfoopefefpnaaGreat
open Go.RowKit

/-- What stands below a place. -/
def sub (t u : Nat) : Prop := u = t ∨ (t = 4 ∧ 6 ≤ u ∧ u < 14) ∨ (t = 5 ∧ 14 ≤ u ∧ u < 86) ∨ (14 ≤ t ∧ t < 22 ∧ 8 * t - 90 ≤ u ∧ u < 8 * t - 82)
theorem isP_cases {t : Nat} (h : isP t) : (t = 4 ∧ kb t = 6) ∨ (t = 5 ∧ kb t = 14) ∨ (14 ≤ t ∧ t < 22 ∧ kb t = 8 * t - 90) := by
  unfold isP at h
  unfold kb
  rcases h with rfl | rfl | ⟨h1, h2⟩
  · exact .inl ⟨rfl, rfl⟩
  · exact .inr (.inl ⟨rfl, rfl⟩)
  · right; right
    exact ⟨h1, h2, by rw [if_neg (by omega), if_neg (by omega)]⟩
theorem sub_self (t : Nat) : sub t t := .inl rfl
theorem sub_leaf {t u : Nat} (h : ¬ isP t) : sub t u ↔ u = t := by
  unfold isP at h
  unfold sub
  constructor
  · intro h; omega
  · exact .inl
theorem sub_kids {t u : Nat} (h : isP t) : sub t u ↔ u = t ∨ ∃ k, k < 8 ∧ sub (kb t + k) u := by
  rcases isP_cases h with ⟨rfl, e⟩ | ⟨rfl, e⟩ | ⟨h1, h2, e⟩
  · rw [e]
    unfold sub
    constructor
    · rintro (h | h | h | h)
      · exact .inl h
      · exact .inr ⟨u - 6, by omega, by omega⟩
      · omega
      · omega
    · rintro (h | ⟨k, hk, h⟩)
      · exact .inl h
      · omega
  · rw [e]
    unfold sub
    constructor
    · rintro (h | h | h | h)
      · exact .inl h
      · omega
      · by_cases h3 : u < 22
        · exact .inr ⟨u - 14, by omega, by omega⟩
        · exact .inr ⟨(u - 22) / 8, by omega, by omega⟩
      · omega
    · rintro (h | ⟨k, hk, h⟩)
      · exact .inl h
      · omega
  · rw [e]
    unfold sub
    constructor
    · rintro (h | h | h | h)
      · exact .inl h
      · omega
      · omega
      · exact .inr ⟨u - (8 * t - 90), by omega, by omega⟩
    · rintro (h | ⟨k, hk, h⟩)
      · exact .inl h
      · omega
theorem sub_disj {t u i k : Nat} (h : isP t) (hi : i < 8) (hk : k < 8) (h1 : sub (kb t + i) u) (h2 : sub (kb t + k) u) : i = k := by
  rcases isP_cases h with ⟨rfl, e⟩ | ⟨rfl, e⟩ | ⟨h3, h4, e⟩ <;> rw [e] at h1 h2 <;> unfold sub at h1 h2 <;> omega
theorem sub_not {t k : Nat} (h : isP t) (hk : k < 8) : ¬ sub (kb t + k) t := by
  rcases isP_cases h with ⟨rfl, e⟩ | ⟨rfl, e⟩ | ⟨h3, h4, e⟩ <;> rw [e] <;> unfold sub <;> omega
theorem sub_lt {t u : Nat} (ht : t < 86) (h : sub t u) : u < 86 := by
  unfold sub at h
  omega
/-- The block of a place. -/
def bk (t : Nat) : Nat := if t < 4 then t else if t < 14 then t - 2 else t - 10
theorem bk_sb {b : Nat} (h : b < 76) : bk (sb b) = b := by
  unfold bk sb
  split
  · rfl
  · split
    · rw [if_neg (by omega), if_pos (by omega)]; omega
    · rw [if_neg (by omega), if_neg (by omega)]; omega
theorem sb_bk {t : Nat} (h : t < 86) (hp : ¬ isP t) : sb (bk t) = t ∧ bk t < 76 := by
  unfold isP at hp
  unfold bk sb
  by_cases h1 : t < 4
  · rw [if_pos h1, if_pos h1]
    exact ⟨rfl, by omega⟩
  · rw [if_neg h1]
    by_cases h2 : t < 14
    · rw [if_pos h2, if_neg (by omega), if_pos (by omega)]
      exact ⟨by omega, by omega⟩
    · rw [if_neg h2, if_neg (by omega), if_neg (by omega)]
      exact ⟨by omega, by omega⟩
/-- The first block below a place; how many stand below each of its pointers. -/
def fs (t : Nat) : Nat := if t = 4 then 4 else if t = 5 then 12 else if 14 ≤ t ∧ t < 22 then 12 + 8 * (t - 14) else bk t
def ec (t : Nat) : Nat := if t = 5 then 8 else if t = 4 ∨ 14 ≤ t ∧ t < 22 then 1 else 0
theorem fs_kid0 : ∀ t, t < 22 → isP t → ∀ i, i < 8 → fs (kb t + i) = fs t + i * ec t ∧ ec (kb t + i) = ec t / 8 := by decide
theorem fs_kid {t i : Nat} (h : isP t) (hi : i < 8) : fs (kb t + i) = fs t + i * ec t ∧ ec (kb t + i) = ec t / 8 := fs_kid0 t (by unfold isP at h; omega) h i hi
theorem ec_pos {t : Nat} (h : isP t) : 1 ≤ ec t ∧ ec t ≤ 8 := by
  rcases isP_cases h with ⟨rfl, _⟩ | ⟨rfl, _⟩ | ⟨h3, h4, _⟩
  · exact ⟨by decide, by decide⟩
  · exact ⟨by decide, by decide⟩
  · unfold ec
    rw [if_neg (by omega), if_pos (.inr ⟨h3, h4⟩)]
    omega
theorem ec_leaf {t : Nat} (h : ¬ isP t) : ec t = 0 ∧ fs t = bk t := by
  unfold isP at h
  unfold ec fs
  rw [if_neg (by omega), if_neg (by omega), if_neg (by omega), if_neg (by omega), if_neg (by omega)]
  exact ⟨rfl, rfl⟩
theorem fs_le (t : Nat) (h : t < 86) : fs t ≤ 76 := by
  unfold fs bk
  split
  · omega
  · split
    · omega
    · split
      · omega
      · split
        · omega
        · split <;> omega
/-- What is left at each place. -/
def cutL (fr : Nat) (a : Nat → Nat) (t : Nat) : Nat := if fr ≤ bk t then 0 else a t
def allZ (f : Nat → Nat) : Bool := (List.range 8).all fun i => f i == 0
theorem allZ_iff (f : Nat → Nat) : allZ f = true ↔ ∀ i, i < 8 → f i = 0 := by
  unfold allZ
  rw [List.all_eq_true]
  exact ⟨fun h i hi => by simpa using h i (List.mem_range.2 hi), fun h i hi => by simpa using h i (List.mem_range.1 hi)⟩
theorem allZ_congr {f g : Nat → Nat} (h : ∀ i, i < 8 → f i = g i) : allZ f = allZ g := by
  rw [Bool.eq_iff_iff, allZ_iff, allZ_iff]
  exact ⟨fun k i hi => (h i hi).symm.trans (k i hi), fun k i hi => (h i hi).trans (k i hi)⟩
def cutK (fr : Nat) (a : Nat → Nat) (q : Nat) : Nat := if allZ (fun i => cutL fr a (kb q + i)) = true then 0 else a q
def cutA (fr : Nat) (a : Nat → Nat) (t : Nat) : Nat := if t = 5 then (if allZ (fun i => cutK fr a (14 + i)) = true then 0 else a 5) else if isP t then cutK fr a t else cutL fr a t
theorem cutA_leaf (fr : Nat) (a : Nat → Nat) {t : Nat} (h : ¬ isP t) : cutA fr a t = if fr ≤ bk t then 0 else a t := by
  unfold cutA
  rw [if_neg (fun e => h (by rw [e]; exact .inr (.inl rfl))), if_neg h]
  rfl
theorem cutA_or (fr : Nat) (a : Nat → Nat) (t : Nat) : cutA fr a t = 0 ∨ cutA fr a t = a t := by
  unfold cutA cutK cutL
  split
  · rename_i e
    subst e
    split
    · exact .inl rfl
    · exact .inr rfl
  · split
    · split
      · exact .inl rfl
      · exact .inr rfl
    · split
      · exact .inl rfl
      · exact .inr rfl
theorem cutA_kids (fr : Nat) (a : Nat → Nat) {q : Nat} (h : isP q) : cutA fr a q = if allZ (fun i => cutA fr a (kb q + i)) = true then 0 else a q := by
  rcases isP_cases h with ⟨rfl, e⟩ | ⟨rfl, e⟩ | ⟨h3, h4, e⟩
  · rw [allZ_congr (g := fun i => cutL fr a (kb 4 + i)) (fun i hi => by
      unfold cutA
      rw [e, if_neg (by omega), if_neg (by unfold isP; omega)])]
    rfl
  · rw [allZ_congr (g := fun i => cutK fr a (14 + i)) (fun i hi => by
      unfold cutA
      rw [e, if_neg (by omega), if_pos (by unfold isP; omega)])]
    rfl
  · rw [allZ_congr (g := fun i => cutL fr a (kb q + i)) (fun i hi => by
      unfold cutA
      rw [e, if_neg (by omega), if_neg (by unfold isP; omega)])]
    unfold cutA
    rw [if_neg (by omega), if_pos h]
    rfl
theorem cutA_zero {V : Nat → List UInt8} {m : Nat → Bool} {N : Nat} {x : NoS} {a : Nat → Nat} (ht : TreeOk V m N x a) (fr : Nat) {q : Nat} (h : isP q) : cutA fr a q = 0 ↔ ∀ i, i < 8 → cutA fr a (kb q + i) = 0 := by
  rw [cutA_kids fr a h]
  constructor
  · intro e
    split at e
    · rename_i hz
      exact (allZ_iff _).1 hz
    · intro i hi
      have h0 := ht.none_ q h e i hi
      rcases cutA_or fr a (kb q + i) with h1 | h1
      · exact h1
      · rw [h1, h0]
  · intro e
    rw [if_pos ((allZ_iff _).2 e)]
/-- A tree of which some places are cut already. -/
structure CutS (fr : Nat) (V0 : Nat → List UInt8) (m0 : Nat → Bool) (a : Nat → Nat) (V : Nat → List UInt8) (m : Nat → Bool) (S : Nat → Prop) : Prop where
  mark : ∀ i, m i = true ↔ (m0 i = true ∧ ∀ t, S t → t < 86 → a t = i → i ≠ 0 → cutA fr a t ≠ 0)
  keep : ∀ i, (∀ q, S q → isP q → a q ≠ i) → V i = V0 i
  ptr : ∀ q, S q → isP q → cutA fr a q ≠ 0 → V (a q) = treeE (kids (cutA fr a) (kb q))
theorem CutS.congr {fr : Nat} {V0 : Nat → List UInt8} {m0 : Nat → Bool} {a : Nat → Nat} {V : Nat → List UInt8} {m : Nat → Bool} {S T : Nat → Prop} (h : CutS fr V0 m0 a V m S) (e : ∀ u, S u ↔ T u) : CutS fr V0 m0 a V m T :=
  ⟨fun i => (h.mark i).trans (and_congr_right fun _ => ⟨fun k t ht => k t ((e t).2 ht), fun k t ht => k t ((e t).1 ht)⟩), fun i k => h.keep i (fun q hq => k q ((e q).1 hq)), fun q hq => h.ptr q ((e q).2 hq)⟩
theorem CutS.start (fr : Nat) (V0 : Nat → List UInt8) (m0 : Nat → Bool) (a : Nat → Nat) : CutS fr V0 m0 a V0 m0 (fun _ => False) :=
  ⟨fun i => ⟨fun h => ⟨h, fun _ h => h.elim⟩, fun h => h.1⟩, fun _ _ => rfl, fun _ h => h.elim⟩
/-- Places where nothing stands are cut with nothing done. -/
theorem CutS.empty {fr : Nat} {V0 : Nat → List UInt8} {m0 : Nat → Bool} {a : Nat → Nat} {V : Nat → List UInt8} {m : Nat → Bool} {S T : Nat → Prop} (h : CutS fr V0 m0 a V m S) (hT : ∀ t, T t → a t = 0) : CutS fr V0 m0 a V m (fun u => S u ∨ T u) := by
  refine ⟨fun i => (h.mark i).trans (and_congr_right fun _ => ⟨fun k t ht => ?_, fun k t ht => k t (.inl ht)⟩), fun i k => h.keep i (fun q hq => k q (.inl hq)), fun q hq hp hz => ?_⟩
  · rcases ht with ht | ht
    · exact k t ht
    · intro _ e h0
      exact absurd (e.symm.trans (hT t ht)) h0
  · rcases hq with hq | hq
    · exact h.ptr q hq hp hz
    · exfalso
      rcases cutA_or fr a q with e | e
      · exact hz e
      · exact hz (e.trans (hT q hq))
/-- A place is kept as it is. -/
theorem CutS.stay {fr : Nat} {V0 : Nat → List UInt8} {m0 : Nat → Bool} {a : Nat → Nat} {V : Nat → List UInt8} {m : Nat → Bool} {S : Nat → Prop} (h : CutS fr V0 m0 a V m S) {t : Nat} (hz : cutA fr a t ≠ 0) (hp : isP t → V (a t) = treeE (kids (cutA fr a) (kb t))) : CutS fr V0 m0 a V m (fun u => S u ∨ u = t) := by
  refine ⟨fun i => (h.mark i).trans (and_congr_right fun _ => ⟨fun k u hu => ?_, fun k u hu => k u (.inl hu)⟩), fun i k => h.keep i (fun q hq => k q (.inl hq)), fun q hq hpq hzq => ?_⟩
  · rcases hu with hu | rfl
    · exact k u hu
    · exact fun _ _ _ => hz
  · rcases hq with hq | rfl
    · exact h.ptr q hq hpq hzq
    · exact hp hpq
/-- A place is cut. -/
theorem CutS.give {fr : Nat} {V0 : Nat → List UInt8} {m0 : Nat → Bool} {a : Nat → Nat} {V : Nat → List UInt8} {m : Nat → Bool} {S : Nat → Prop} {N : Nat} {x : NoS} (ht : TreeOk V0 m0 N x a) (h : CutS fr V0 m0 a V m S) {t : Nat} (h8 : t < 86) (h0 : a t ≠ 0) (hz : cutA fr a t = 0) : CutS fr V0 m0 a V (updF m (a t) false) (fun u => S u ∨ u = t) := by
  refine ⟨fun i => ?_, fun i k => h.keep i (fun q hq => k q (.inl hq)), fun q hq hpq hzq => ?_⟩
  · by_cases e : i = a t
    · rw [e, updF_same]
      constructor
      · intro h; cases h
      · intro h
        exact absurd hz (h.2 t (.inr rfl) h8 rfl h0)
    · rw [updF_ne m false e]
      refine (h.mark i).trans (and_congr_right fun _ => ⟨fun k u hu => ?_, fun k u hu => k u (.inl hu)⟩)
      rcases hu with hu | rfl
      · exact k u hu
      · exact fun _ e2 => absurd e2.symm e
  · rcases hq with hq | rfl
    · exact h.ptr q hq hpq hzq
    · exact absurd hz hzq
/-- A place's pointers are written anew. -/
theorem CutS.point {fr : Nat} {V0 : Nat → List UInt8} {m0 : Nat → Bool} {a : Nat → Nat} {V : Nat → List UInt8} {m : Nat → Bool} {S : Nat → Prop} {N : Nat} {x : NoS} (ht : TreeOk V0 m0 N x a) (h : CutS fr V0 m0 a V m S) {t : Nat} (hp : isP t) (h0 : a t ≠ 0) (hz : cutA fr a t ≠ 0) : CutS fr V0 m0 a (updF V (a t) (treeE (kids (cutA fr a) (kb t)))) m (fun u => S u ∨ u = t) := by
  have h8 : t < 86 := by unfold isP at hp; omega
  refine ⟨fun i => (h.mark i).trans (and_congr_right fun _ => ⟨fun k u hu => ?_, fun k u hu => k u (.inl hu)⟩), fun i k => ?_, fun q hq hpq hzq => ?_⟩
  · rcases hu with hu | rfl
    · exact k u hu
    · exact fun _ _ _ => hz
  · rw [updF_ne V _ (fun e => k t (.inr rfl) hp e.symm)]
    exact h.keep i (fun q hq => k q (.inl hq))
  · by_cases e : q = t
    · subst e
      rw [updF_same]
    · rcases hq with hq | hq
      · have hq8 : q < 86 := by unfold isP at hpq; omega
        have haq : a q ≠ 0 := by
          rcases cutA_or fr a q with e | e
          · exact absurd e hzq
          · rw [← e]; exact hzq
        rw [updF_ne V _ (fun e2 => e (ht.inj q t hq8 h8 e2 haq))]
        exact h.ptr q hq hpq hzq
      · exact absurd hq e
/-- All is cut: a tree again. -/
theorem CutS.tree {fr : Nat} {V0 : Nat → List UInt8} {m0 : Nat → Bool} {a : Nat → Nat} {V : Nat → List UInt8} {m : Nat → Bool} {S : Nat → Prop} {N : Nat} {x y : NoS} (ht : TreeOk V0 m0 N x a) (h : CutS fr V0 m0 a V m S) (hS : ∀ t, t < 86 → S t) (hy : ∀ i, i < 6 → y.ptr i = cutA fr a i) : TreeOk V m N y (cutA fr a) := by
  have key : ∀ t, cutA fr a t ≠ 0 → cutA fr a t = a t ∧ a t ≠ 0 := fun t hz => by
    rcases cutA_or fr a t with e | e
    · exact absurd e hz
    · exact ⟨e, by rw [← e]; exact hz⟩
  refine ⟨fun i j hi hj e hz => ?_, fun i hi hz => ?_, hy, fun q hq hz => ?_, fun q hq hz i hi => (cutA_zero ht fr hq).1 hz i hi⟩
  · obtain ⟨e1, h1⟩ := key i hz
    obtain ⟨e2, h2⟩ := key j (by rw [← e]; exact hz)
    rw [e1, e2] at e
    exact ht.inj i j hi hj e h1
  · obtain ⟨e1, h1⟩ := key i hz
    obtain ⟨r1, r2, r3⟩ := ht.rng i hi h1
    rw [e1]
    refine ⟨r1, r2, (h.mark _).2 ⟨r3, fun t _ ht8 e _ => ?_⟩⟩
    have := ht.inj t i ht8 hi e (by rw [e]; exact h1)
    rw [this]
    exact hz
  · obtain ⟨e1, h1⟩ := key q hz
    rw [e1]
    exact h.ptr q (hS q (by unfold isP at hq; omega)) hq hz
/-- The bytes that are left. -/
theorem CutS.ct {fr : Nat} {V0 : Nat → List UInt8} {m0 : Nat → Bool} {a : Nat → Nat} {V : Nat → List UInt8} {m : Nat → Bool} {S : Nat → Prop} {N : Nat} {x : NoS} (ht : TreeOk V0 m0 N x a) (h : CutS fr V0 m0 a V m S) {k : Nat} (hk : k < 9728) : Ct V (cutA fr a) k = if k / 128 < fr then Ct V0 a k else 0 := by
  have hb : k / 128 < 76 := by omega
  have hn := sb_notP hb
  have h8 := sb_lt hb
  have hc := cutA_leaf fr a hn
  rw [bk_sb hb] at hc
  unfold Ct
  by_cases h1 : k / 128 < fr
  · rw [if_neg (by omega)] at hc
    rw [if_pos h1, hc]
    by_cases h0 : a (sb (k / 128)) = 0
    · rw [if_pos h0, if_pos h0]
    · rw [if_neg h0, if_neg h0, h.keep _ (fun q _ hq e => ?_)]
      have := ht.inj q _ (by unfold isP at hq; omega) h8 e (by rw [e]; exact h0)
      rw [this] at hq
      exact hn hq
  · rw [if_pos (by omega)] at hc
    rw [if_neg h1, if_pos hc]
end Go.Proofs.YtehfoopefefpnaaGreat
/- Package space: cut. -/
set_option linter.unusedSimpArgs false
set_option linter.unusedVariables false
namespace Go.Proofs.YtehfoopefefpnaaGreat
open Go.RowKit

attribute [local go_sem ↓] Go.wp_at_zero Go.wp_at_succ
def CuP (B : Nat) (c : SWc) (xs : Nat → NoS) (U : List Nat) (fr : Nat) (V0 : Nat → List UInt8) (m0 : Nat → Bool) (a : Nat → Nat) (t : Nat) (S : Nat → Prop) (w : World) (e : Ending) (w' : World) : Prop := e = .returned (.tuple #[.bool (decide (cutA fr a t = 0)), .int .i64 0]) ∧ ∃ V' m', SW B c V' m' xs U w' ∧ CutS fr V0 m0 a V' m' (fun u => S u ∨ sub t u) ∧ Keep (fun j => j = c.p.b) w w'
def CutC (B : Nat) (c : SWc) (xs : Nat → NoS) (U : List Nat) (kf n fr : Nat) (V0 : Nat → List UInt8) (m0 : Nat → Bool) (a : Nat → Nat) (t : Nat) : Prop := ∀ (V : Nat → List UInt8) (m : Nat → Bool) (S : Nat → Prop) (x : NoS) (w : World), SW B c V m xs U w → FI c.p.k kf n x w → CutS fr V0 m0 a V m S → (∀ u, sub t u → ¬ S u) →
  Calls Tryz.prog 71 #[.pointer (some ⟨kf, 0, none⟩), .int .i64 (a t : Int), .int .i64 (fs t : Int), .int .i64 (ec t : Int), .int .i64 (fr : Int)] w (CuP B c xs U fr V0 m0 a t S w)
theorem sub_none {V0 : Nat → List UInt8} {m0 : Nat → Bool} {N : Nat} {x : NoS} {a : Nat → Nat} (ht : TreeOk V0 m0 N x a) {t : Nat} (h0 : a t = 0) : ∀ u, sub t u → a u = 0 := by
  have kid : ∀ q, isP q → a q = 0 → ∀ i, i < 8 → a (kb q + i) = 0 := ht.none_
  have leaf : ∀ q, ¬ isP q → a q = 0 → ∀ u, sub q u → a u = 0 := fun q hq h0 u hu => by rw [(sub_leaf hq).1 hu]; exact h0
  have one : ∀ q, isP q → q ≠ 5 → a q = 0 → ∀ u, sub q u → a u = 0 := fun q hq h5 h0 u hu => by
    rcases (sub_kids hq).1 hu with rfl | ⟨k, hk, hu⟩
    · exact h0
    · refine leaf _ ?_ (kid q hq h0 k hk) u hu
      rcases isP_cases hq with ⟨rfl, e⟩ | ⟨rfl, e⟩ | ⟨h1, h2, e⟩
      · rw [e]; unfold isP; omega
      · exact absurd rfl h5
      · rw [e]; unfold isP; omega
  intro u hu
  by_cases hp : isP t
  · by_cases h5 : t = 5
    · rcases (sub_kids hp).1 hu with rfl | ⟨k, hk, hu⟩
      · exact h0
      · subst h5
        exact one _ (show isP (kb 5 + k) by rw [show kb 5 = 14 from rfl]; unfold isP; omega) (by rw [show kb 5 = 14 from rfl]; omega) (kid 5 hp h0 k hk) u hu
    · exact one t hp h5 h0 u hu
  · exact leaf t hp h0 u hu
theorem CutS.down {fr : Nat} {V0 : Nat → List UInt8} {m0 : Nat → Bool} {a : Nat → Nat} {V : Nat → List UInt8} {m : Nat → Bool} {S : Nat → Prop} {t : Nat} (h : CutS fr V0 m0 a V m (fun u => S u ∨ u = t)) (hp : ¬ isP t) : CutS fr V0 m0 a V m (fun u => S u ∨ sub t u) := h.congr (fun u => or_congr_right (sub_leaf hp).symm)
set_option maxRecDepth 100000 in
set_option maxHeartbeats 4000000 in
theorem cut_leaf {B : Nat} {c : SWc} {xs : Nat → NoS} {U : List Nat} {kf n fr : Nat} {V0 : Nat → List UInt8} {m0 : Nat → Bool} {x0 : NoS} {a : Nat → Nat} (ht : TreeOk V0 m0 c.N x0 a) (hU : U.length ≤ 24) (h34 : 34 ∈ U) {t : Nat} (h8 : t < 86) (hp : ¬ isP t) : CutC B c xs U kf n fr V0 m0 a t := by
  intro V m S x w h hf hcs hd
  obtain ⟨he0, hfs⟩ := ec_leaf hp
  have hcut := cutA_leaf fr a hp
  have hFI : w.cell? ⟨kf, 0, none⟩ = some (.pointer (some ⟨c.p.k, 0, none⟩)) := (blk_cells hf 0).trans rfl
  rw [he0, hfs]
  obtain ⟨v, hv⟩ : ∃ v, v = a t := ⟨_, rfl⟩
  obtain ⟨f1, hf1⟩ : ∃ f1, f1 = bk t := ⟨_, rfl⟩
  rw [← hf1] at hcut
  by_cases h0 : v = 0
  · have e0 : ((v : Int) == 0) = true := by rw [h0]; rfl
    have e0' : (v : Int) = 0 := by rw [h0]; rfl
    have HF : Hid (CuP B c xs U fr V0 m0 a t S w (.returned (.tuple #[.bool true, .int .i64 0])) w) := Lib.hid ⟨by
      rw [decide_eq_true (show cutA fr a t = 0 from by rcases cutA_or fr a t with e | e; exact e; rw [e, ← hv, h0])], V, m, h, hcs.empty (sub_none ht (hv.symm.trans h0)), Keep.refl _ _⟩
    rw [← hv, ← hf1]
    clear h hf hcs hd he0 hfs hcut hv hf1 h0 ht
    go_enter Tryz.func71, Tryz.ntmps71
    go_wp2
    go_ret2
    exact HF.out
  · have e0 : ((v : Int) == 0) = false := beq_eq_false_iff_ne.2 (by omega)
    have e0' : ¬ (v : Int) = 0 := by omega
    by_cases h1 : f1 < fr
    · have g1 : (f1 : Int) < (fr : Int) := by omega
      have hcz : cutA fr a t ≠ 0 := by rw [hcut, if_neg (by omega), ← hv]; exact h0
      have HF : Hid (CuP B c xs U fr V0 m0 a t S w (.returned (.tuple #[.bool false, .int .i64 0])) w) := Lib.hid ⟨by
        rw [decide_eq_false hcz], V, m, h, (hcs.stay hcz (fun h => absurd h hp)).down hp, Keep.refl _ _⟩
      rw [← hv, ← hf1]
      clear h hf hcs hd he0 hfs hcut hv hf1 h0 ht hcz
      go_enter Tryz.func71, Tryz.ntmps71
      go_wp2
      go_ret2
      exact HF.out
    · have g1 : ¬ (f1 : Int) < (fr : Int) := by omega
      have hcz : cutA fr a t = 0 := by rw [hcut, if_pos (by omega)]
      obtain ⟨r1, r2, r3⟩ := ht.rng t h8 (by rw [← hv]; exact h0)
      rw [← hv] at r1 r2
      have HG := Lib.hid (wgive h hU h34 r1 r2)
      have HF : Hid (∀ W, SW B c V (updF m v false) xs U W → Keep (fun j => j = c.p.b) w W → CuP B c xs U fr V0 m0 a t S w (.returned (.tuple #[.bool true, .int .i64 0])) W) := Lib.hid (fun W h1 h2 => ⟨by
        rw [decide_eq_true hcz], V, updF m v false, h1, by
        rw [hv]
        exact (hcs.give ht h8 (by rw [← hv]; exact h0) hcz).down hp, h2⟩)
      rw [← hv, ← hf1]
      clear h hf hcs hd he0 hfs hcut hv hf1 h0 ht hcz r1 r2 r3
      go_enter Tryz.func71, Tryz.ntmps71
      go_wp2_with fail
      refine HG.out.mono ?_
      rintro r w1 ⟨rfl, hsw, hk⟩
      have HFF := Lib.hid (HF.out w1 hsw hk)
      clear hsw hk
      go_wp2
      go_ret2
      exact HFF.out
end Go.Proofs.YtehfoopefefpnaaGreat
/- Package space: cut, of a pointer. -/
set_option linter.unusedSimpArgs false
set_option linter.unusedVariables false
namespace Go.Proofs.YtehfoopefefpnaaGreat
open Go.RowKit

attribute [local go_sem ↓] Go.wp_at_zero Go.wp_at_succ
/-- A pointer's kids, of which some are cut already. -/
def mixA (fr : Nat) (a : Nat → Nat) (k i : Nat) : Nat → Nat := fun s => if s < k + i then cutA fr a s else a s
theorem mix_zero (fr : Nat) (a : Nat → Nat) (k : Nat) : kids (mixA fr a k 0) k = kids a k := kids_congr (fun i hi => by unfold mixA; rw [if_neg (by omega)])
theorem mix_all (fr : Nat) (a : Nat → Nat) (k : Nat) : kids (mixA fr a k 8) k = kids (cutA fr a) k := kids_congr (fun i hi => by unfold mixA; rw [if_pos (by omega)])
theorem mix_get (fr : Nat) (a : Nat → Nat) (k : Nat) {i : Nat} (hi : i < 8) : (kids (mixA fr a k i) k)[i]? = some (a (k + i)) := by
  rw [kids_get _ _ hi]
  unfold mixA
  rw [if_neg (by omega)]
theorem mix_step (fr : Nat) (a : Nat → Nat) (k : Nat) {i : Nat} (hi : i < 8) : (kids (mixA fr a k i) k).set i (cutA fr a (k + i)) = kids (mixA fr a k (i + 1)) k := by
  rw [kids_set _ _ hi]
  refine kids_congr (fun j hj => ?_)
  unfold updF mixA
  by_cases e : k + j = k + i
  · rw [if_pos e, if_pos (by omega), e]
  · rw [if_neg e]
    by_cases h : k + j < k + i
    · rw [if_pos h, if_pos (by omega)]
    · rw [if_neg h, if_neg (by omega)]
theorem mix_same (fr : Nat) (a : Nat → Nat) (k : Nat) {i : Nat} (hi : i < 8) (h : cutA fr a (k + i) = a (k + i)) : kids (mixA fr a k i) k = kids (mixA fr a k (i + 1)) k := by
  refine kids_congr (fun j hj => ?_)
  unfold mixA
  by_cases e : j = i
  · subst e
    rw [if_neg (by omega), if_pos (by omega), h]
  · by_cases h : k + j < k + i
    · rw [if_pos h, if_pos (by omega)]
    · rw [if_neg h, if_neg (by omega)]
def CuI (B : Nat) (c : SWc) (xs : Nat → NoS) (U : List Nat) (fr : Nat) (V0 : Nat → List UInt8) (m0 : Nat → Bool) (a : Nat → Nat) (t : Nat) (S : Nat → Prop) (g : Nat) (A : Option Addr) (cc : Nat) (w : World) (v44 : Value) (W : World) : Prop := ∃ (i : Nat) (V' : Nat → List UInt8) (m' : Nat → Bool), i ≤ 8 ∧ v44 = .int .i64 (i : Int) ∧ SW B c V' m' xs U W ∧ CutS fr V0 m0 a V' m' (fun u => S u ∨ ∃ k, k < i ∧ sub (kb t + k) u) ∧ Keep (fun j => j = c.p.b) w W ∧ W.heap[g]? = some (.cells (nv (kids (mixA fr a (kb t) i) (kb t))).toArray 3 (0, 0)) ∧ Sl W 1 (.slice A 8 cc) 8 (nv (kids a (kb t)))
theorem cutS_keep {fr : Nat} {V0 : Nat → List UInt8} {m0 : Nat → Bool} {a : Nat → Nat} {V : Nat → List UInt8} {m : Nat → Bool} {S : Nat → Prop} {N : Nat} {x : NoS} (ht : TreeOk V0 m0 N x a) (h : CutS fr V0 m0 a V m S) {t : Nat} (hp : isP t) (hS : ¬ S t) (h0 : a t ≠ 0) : V (a t) = treeE (kids a (kb t)) := by
  rw [h.keep (a t) (fun q hq hpq e => hS (by
    have := ht.inj q t (by unfold isP at hpq; omega) (by unfold isP at hp; omega) e (by rw [e]; exact h0)
    rw [← this]; exact hq))]
  exact ht.kid t hp h0
theorem kids_any (f : Nat → Nat) (k : Nat) : (kids f k).any (fun n => n != 0) = true ↔ ∃ i, i < 8 ∧ f (k + i) ≠ 0 := by
  rw [List.any_eq_true]
  constructor
  · rintro ⟨n, hn, h⟩
    obtain ⟨i, hi, rfl⟩ := List.mem_map.1 hn
    exact ⟨i, List.mem_range.1 hi, by simpa using h⟩
  · rintro ⟨i, hi, h⟩
    exact ⟨_, List.mem_map.2 ⟨i, List.mem_range.2 hi, rfl⟩, by simpa using h⟩
theorem kids_ext {f g : Nat → Nat} {k : Nat} (h : kids f k = kids g k) {i : Nat} (hi : i < 8) : f (k + i) = g (k + i) := by
  have h1 := kids_get f k hi
  rw [h, kids_get g k hi] at h1
  exact (Option.some.inj h1).symm
theorem cutA_P8 {V0 : Nat → List UInt8} {m0 : Nat → Bool} {x : NoS} {a : Nat → Nat} {N : Nat} (ht : TreeOk V0 m0 N x a) (hN : N ≤ 1024) (fr : Nat) {t : Nat} (hp : isP t) : P8 (kids (cutA fr a) (kb t)) where
  len := kids_len _ _
  each := fun n hn => by
    obtain ⟨i, hi, rfl⟩ := List.mem_map.1 hn
    rcases cutA_or fr a (kb t + i) with e | e
    · rw [e]; rfl
    · rw [e]
      exact (ht.p8 hN hp).each _ (List.mem_map.2 ⟨i, hi, rfl⟩)
theorem cut1_walk (n : Nat) (w : World) : Calls Tryz.prog 116 #[.int .i64 (n : Int)] w fun e w' => e = .returned (.bool (n != 0)) ∧ w' = w := by
  by_cases h : n = 0
  · have g0 : ((n : Int) != 0) = false := by rw [h]; rfl
    have g0' : (n : Int) = 0 := by rw [h]; rfl
    have hb : (n != 0) = false := by rw [h]; rfl
    rw [hb]
    clear h hb
    go_enter Tryz.func116, Tryz.ntmps116
    go_wp2
    go_ret
    exact ⟨by simp [g0'], rfl⟩
  · have g0' : ¬ (n : Int) = 0 := by omega
    have hb : (n != 0) = true := by simpa using h
    rw [hb]
    clear hb
    go_enter Tryz.func116, Tryz.ntmps116
    go_wp2
    go_ret
    exact ⟨by simp [g0', h], rfl⟩
set_option maxRecDepth 100000 in
set_option maxHeartbeats 16000000 in
theorem cut_node {B : Nat} {c : SWc} {xs : Nat → NoS} {U : List Nat} {kf n fr : Nat} {V0 : Nat → List UInt8} {m0 : Nat → Bool} {x0 : NoS} {a : Nat → Nat} (ht : TreeOk V0 m0 c.N x0 a) (hU : U.length ≤ 24) (h34 : 34 ∈ U) {t : Nat} (hp : isP t) (hUp : cutA fr a t ≠ 0 → (∃ i, i < 8 ∧ cutA fr a (kb t + i) ≠ a (kb t + i)) → a t ∈ U)
    (hkids : ∀ i, i < 8 → CutC B c xs U kf n fr V0 m0 a (kb t + i)) : CutC B c xs U kf n fr V0 m0 a t := by
  intro V m S x w h hf hcs hd
  have hep := ec_pos hp
  have h8 : t < 86 := by unfold isP at hp; omega
  have hfs := fs_le t h8
  obtain ⟨v, hv⟩ : ∃ v, v = a t := ⟨_, rfl⟩
  obtain ⟨f1, hf1⟩ : ∃ f1, f1 = fs t := ⟨_, rfl⟩
  obtain ⟨q8, hq8⟩ : ∃ q8, q8 = ec t := ⟨_, rfl⟩
  by_cases h0 : v = 0
  · have e0 : ((v : Int) == 0) = true := by rw [h0]; rfl
    have e0' : (v : Int) = 0 := by rw [h0]; rfl
    have HF : Hid (CuP B c xs U fr V0 m0 a t S w (.returned (.tuple #[.bool true, .int .i64 0])) w) := Lib.hid ⟨by
      rw [decide_eq_true (show cutA fr a t = 0 from by rcases cutA_or fr a t with e | e; exact e; rw [e, ← hv, h0])], V, m, h, hcs.empty (sub_none ht (hv.symm.trans h0)), Keep.refl _ _⟩
    rw [← hv, ← hf1, ← hq8]
    clear h hf hcs hd hv hf1 h0 ht hq8 hep hfs hkids hUp
    go_enter Tryz.func71, Tryz.ntmps71
    go_wp2
    go_ret2
    exact HF.out
  · have e0 : ((v : Int) == 0) = false := beq_eq_false_iff_ne.2 (by omega)
    have e0' : ¬ (v : Int) = 0 := by omega
    have q0 : ((q8 : Int) == 0) = false := beq_eq_false_iff_ne.2 (by omega)
    have q0' : ¬ (q8 : Int) = 0 := by omega
    have hle := h.le
    have hat : a t ≠ 0 := by rw [← hv]; exact h0
    obtain ⟨r1, r2, r3⟩ := ht.rng t h8 hat
    rw [← hv] at r1 r2
    have hVt := cutS_keep ht hcs hp (hd t (sub_self t)) hat
    rw [← hv] at hVt
    have HPO := Lib.hid (pointers_file h hf r1 r2 (ht.p8 hle.2 hp) hVt)
    have HH := Lib.hid h
    have HFI := Lib.hid hf
    have HCS := Lib.hid hcs
    have HD := Lib.hid hd
    have HT := Lib.hid ht
    have HKS := Lib.hid hkids
    have HUP := Lib.hid hUp
    have HV := Lib.hid hv
    have HF1 := Lib.hid hf1
    have HQ8 := Lib.hid hq8
    have HR := Lib.hid (show 43 ≤ v ∧ v < c.N ∧ U.length ≤ 24 ∧ 34 ∈ U ∧ c.N ≤ 1024 ∧ isP t ∧ a t ≠ 0 ∧ t < 86 from ⟨r1, r2, hU, h34, hle.2, hp, hat, h8⟩)
    have HN1 := Lib.hid (show f1 ≤ 76 ∧ q8 ≤ 8 ∧ 1 ≤ q8 from ⟨by omega, by omega, by omega⟩)
    rw [← hv, ← hf1, ← hq8]
    clear h hf hcs hd hv hf1 h0 ht hq8 hep hfs hkids hUp hle hat r1 r2 r3 hVt hU h34 hp h8
    go_enter Tryz.func71, Tryz.ntmps71
    go_wp2_with fail
    refine HPO.out.mono ?_
    rintro r w1 ⟨g, rfl, hnp, hb1⟩
    have HB1 := Lib.hid hb1
    have HNP := Lib.hid hnp
    have hsl := hnp.sl
    rw [kids_len] at hsl
    have hcl := cloneI_walk (kids a (kb t)) (some ⟨g, 0, none⟩) 8 w1 (by rw [kids_len]; exact hsl) (by rw [kids_len]; decide) (by rw [kids_len]; decide)
    rw [kids_len] at hcl
    have HCL := Lib.hid hcl
    clear hb1 hnp hsl hcl
    go_wp2_with fail
    refine HCL.out.mono ?_
    rintro r w2 ⟨A, cc, rfl, hslA, hfA, hb2⟩
    rw [kids_len] at hslA ⊢
    have HFA := Lib.hid hfA
    have HSZ : Hid (w.heap.size ≤ g ∧ g < w1.heap.size ∧ w.heap.size ≤ w1.heap.size) := Lib.hid ⟨HNP.out.1, blk_lt HNP.out.2, HB1.out.size⟩
    have HI : Hid (CuI B c xs U fr V0 m0 a t S g A cc w (.int .i64 0) w2) := Lib.hid ⟨0, V, m, Nat.zero_le _, rfl, HH.out.below (bstep HB1.out hb2), HCS.out.congr (fun u => ⟨.inl, fun h => by
      rcases h with h | ⟨k, hk, _⟩
      · exact h
      · omega⟩), Keep.of_below (bstep HB1.out hb2), by
      rw [mix_zero]
      exact (Keep.of_below (S := fun _ => False) hb2).blk HNP.out.2 id, hslA⟩
    clear hslA hfA hb2
    go_wp2_with fail
    go_loopw [44] (fun v44 wr => CuI B c xs U fr V0 m0 a t S g A cc w v44 wr) (fun v _ => 8 - (intOf v).toNat)
    case atStart => exact HI.out
    case round =>
      obtain ⟨i, V', m', hi8, rfl, hsw, hct, hkp, hrow, hsA⟩ := hrel
      by_cases hlt : i < 8
      · have ga : (i : Int) < 8 := by omega
        have gj0 : (0 : Int) ≤ (i : Int) := by omega
        have gc : IntKind.i64.wrap ((i : Int) + 1) = (i : Int) + 1 := IntWalk.i64_in _ (by omega)
        obtain ⟨u, hu⟩ : ∃ u, u = a (kb t + i) := ⟨_, rfl⟩
        obtain ⟨mm, hmm⟩ : ∃ mm : Nat, mm = i * q8 := ⟨_, rfl⟩
        have hmm1 : mm ≤ 64 := by
          have hn := HN1.out
          rw [hmm]
          exact Nat.le_trans (Nat.mul_le_mul (show i ≤ 8 by omega) hn.2.1) (by decide)
        have g1 : IntKind.i64.wrap ((i : Int) * (q8 : Int)) = (mm : Int) := by
          rw [← Int.natCast_mul, ← hmm]
          exact IntWalk.i64_in _ (by omega)
        have g2 : IntKind.i64.wrap ((f1 : Int) + (mm : Int)) = ((f1 + mm : Nat) : Int) := by
          have hn := HN1.out
          rw [Int.natCast_add]
          exact IntWalk.i64_in _ (by omega)
        have g3 : (q8 : Int) / 8 = ((q8 / 8 : Nat) : Int) := by omega
        have g4 : IntKind.i64.wrap ((q8 / 8 : Nat) : Int) = ((q8 / 8 : Nat) : Int) := by
          have hn := HN1.out
          exact IntWalk.i64_in _ (by omega)
        obtain ⟨f2, hf2⟩ : ∃ f2, f2 = f1 + mm := ⟨_, rfl⟩
        obtain ⟨e2, he2⟩ : ∃ e2, e2 = q8 / 8 := ⟨_, rfl⟩
        rw [← hf2] at g2
        rw [← he2] at g3 g4
        have hcg : wr.cell? ⟨g, i, none⟩ = some (.int .i64 (u : Int)) := by
          rw [blk_cells hrow, List.getElem?_toArray]
          unfold nv
          rw [List.getElem?_map, mix_get fr a (kb t) hlt, hu]
          rfl
        have hfi := HFI.out.keep hkp (fun e => HH.out.b_ne HFI.out e)
        have hP := HR.out.2.2.2.2.2.1
        have hkid := HKS.out i hlt V' m' _ x wr hsw hfi hct (fun z hz hS => by
          rcases hS with hS | ⟨k, hk, hS⟩
          · exact HD.out z ((sub_kids hP).2 (.inr ⟨i, hlt, hz⟩)) hS
          · have := sub_disj hP hlt (by omega) hz hS
            omega)
        obtain ⟨fk1, fk2⟩ := fs_kid hP hlt
        rw [fk1, fk2, ← HF1.out, ← HQ8.out, ← hmm, ← hf2, ← he2, ← hu] at hkid
        have HKID := Lib.hid hkid
        have HU := Lib.hid hu
        have HLT := Lib.hid hlt
        have HROW := Lib.hid hrow
        have HSA := Lib.hid hsA
        have HKP := Lib.hid hkp
        have HSW := Lib.hid hsw
        have HAN : Hid (∀ j, (Value.slice A 8 cc).ownBlock = some j → j ≠ c.p.b ∧ j ≠ g) := Lib.hid (fun j hj => by
          rw [ownBlock_slice] at hj
          have h1 := HFA.out j hj
          have h2 := HSZ.out
          have h3 := HH.out.bne
          exact ⟨by omega, by omega⟩)
        clear hi8 hsw hct hkp hrow hsA hfi hkid fk1 fk2 hu hlt hf2 he2 hmm hmm1
        go_wp2_with fail
        refine HKID.out.mono ?_
        rintro r w3 ⟨rfl, V3, m3, hsw3, hct3, hk3⟩
        have hgb : ¬ g = c.p.b := fun e => HSW.out.b_ne HROW.out e
        have hrow3 := hk3.blk HROW.out (fun e => hgb e)
        have hsA3 := HSA.out.keep hk3 (fun j hj _ => (HAN.out j hj).1)
        have hkw3 := HKP.out.trans hk3 (fun j _ e => e)
        have hct3' : CutS fr V0 m0 a V3 m3 (fun u => S u ∨ ∃ k, k < i + 1 ∧ sub (kb t + k) u) := hct3.congr (fun u => by
          constructor
          · rintro ((h | ⟨k, hk, h⟩) | h)
            · exact .inl h
            · exact .inr ⟨k, by omega, h⟩
            · exact .inr ⟨i, by omega, h⟩
          · rintro (h | ⟨k, hk, h⟩)
            · exact .inl (.inl h)
            · by_cases e : k = i
              · subst e; exact .inr h
              · exact .inl (.inr ⟨k, by omega, h⟩))
        by_cases hz : cutA fr a (kb t + i) = 0
        · rw [decide_eq_true hz]
          have hc6 : ∃ v, w3.cell? ⟨g, i, none⟩ = some v := ⟨_, hk3.cell hcg (fun e => hgb e)⟩
          obtain ⟨v6, hc6⟩ := hc6
          have hf6 := blk_frees hrow3 i
          have hk7 := keep_set w3 g i (.int .i64 0)
          have hr7 := blk_set hrow3 (.int .i64 0) (j := i)
          have hnv : (nv (kids (mixA fr a (kb t) i) (kb t))).toArray.setIfInBounds i (.int .i64 0) = (nv (kids (mixA fr a (kb t) (i + 1)) (kb t))).toArray := by
            rw [← mix_step fr a (kb t) HLT.out, hz, ← nv_set]
            simp
          rw [hnv] at hr7
          have HREL : Hid (CuI B c xs U fr V0 m0 a t S g A cc w (.int .i64 ((i : Int) + 1)) (w3.setCell ⟨g, i, none⟩ (.int .i64 0))) := Lib.hid ⟨i + 1, V3, m3, HLT.out, by rw [Int.natCast_add]; rfl, hsw3.row hrow3 hk7, hct3', Keep.trans hkw3 hk7 (fun j hj e => by
            have e : j = g := e
            have := HSZ.out
            omega), hr7, hsA3.keep hk7 (fun j hj _ => (HAN.out j hj).2)⟩
          clear hsw3 hct3 hk3 hrow3 hsA3 hkw3 hct3' hz hk7 hr7 hnv
          go_wp2_with fail
          go_roundw
          case rel => exact HREL.out
          case measure => simp only [intOf]; have := HLT.out; omega
        · rw [decide_eq_false hz]
          have hca : cutA fr a (kb t + i) = a (kb t + i) := by
            rcases cutA_or fr a (kb t + i) with e | e
            · exact absurd e hz
            · exact e
          rw [mix_same fr a (kb t) HLT.out hca] at hrow3
          have HREL : Hid (CuI B c xs U fr V0 m0 a t S g A cc w (.int .i64 ((i : Int) + 1)) w3) := Lib.hid ⟨i + 1, V3, m3, HLT.out, by rw [Int.natCast_add]; rfl, hsw3, hct3', hkw3, hrow3, hsA3⟩
          clear hsw3 hct3 hk3 hrow3 hsA3 hkw3 hct3' hz hca
          go_wp2_with fail
          go_roundw
          case rel => exact HREL.out
          case measure => simp only [intOf]; have := HLT.out; omega
      · obtain rfl : i = 8 := by omega
        have ga : ¬ ((8 : Nat) : Int) < 8 := by omega
        rw [mix_all] at hrow
        have hP := HR.out.2.2.2.2.2.1
        have hslC := (show NvP 0 (kids (cutA fr a) (kb t)) g wr from ⟨Nat.zero_le _, hrow⟩).sl
        rw [kids_len] at hslC
        have hcon := conC (fun n => n != 0) (kids (cutA fr a) (kb t)) (some ⟨g, 0, none⟩) 8 wr (by rw [kids_len]; exact hslC) (by rw [kids_len]; decide) (fun n _ => cut1_walk n wr)
        rw [kids_len] at hcon
        have HCON := Lib.hid hcon
        have hsub : ∀ u, ((S u ∨ ∃ k, k < 8 ∧ sub (kb t + k) u) ∨ u = t) ↔ (S u ∨ sub t u) := fun u => by
          rw [sub_kids hP]
          constructor
          · rintro ((h | h) | h)
            · exact .inl h
            · exact .inr (.inr h)
            · exact .inr (.inl h)
          · rintro (h | h | h)
            · exact .inl (.inl h)
            · exact .inr h
            · exact .inl (.inr h)
        have hfi := HFI.out.keep hkp (fun e => HH.out.b_ne HFI.out e)
        have hnt : ¬ (S t ∨ ∃ k, k < 8 ∧ sub (kb t + k) t) := by
          rintro (h | ⟨k, hk, h⟩)
          · exact HD.out t (sub_self t) h
          · exact sub_not hP hk h
        have hVt := cutS_keep HT.out hct hP hnt HR.out.2.2.2.2.2.2.1
        by_cases hz : cutA fr a t = 0
        · have hany : (kids (cutA fr a) (kb t)).any (fun n => n != 0) = false := by
            rw [Bool.eq_false_iff]
            intro e
            obtain ⟨i, hi, h⟩ := (kids_any _ _).1 e
            exact h ((cutA_zero HT.out fr hP).1 hz i hi)
          have HG := Lib.hid (wgive hsw HR.out.2.2.1 HR.out.2.2.2.1 HR.out.1 HR.out.2.1)
          have HF : Hid (∀ W, SW B c V' (updF m' v false) xs U W → Keep (fun j => j = c.p.b) wr W → CuP B c xs U fr V0 m0 a t S w (.returned (.tuple #[.bool true, .int .i64 0])) W) := Lib.hid (fun W h1 h2 => ⟨by
            rw [decide_eq_true hz], V', updF m' v false, h1, by
            rw [HV.out]
            exact (hct.give HT.out HR.out.2.2.2.2.2.2.2 HR.out.2.2.2.2.2.2.1 hz).congr hsub, hkp.trans h2 (fun j _ e => e)⟩)
          have hFI := (blk_cells hfi 0).trans (show _ = some (.pointer (some ⟨c.p.k, 0, none⟩)) from rfl)
          rw [hany] at HCON
          clear hi8 hsw hct hkp hrow hsA hlt hslC hcon hsub hfi hnt hVt hany hz
          go_wp2_with fail
          refine HCON.out.mono ?_
          rintro r w9 ⟨rfl, hw9⟩
          subst hw9
          go_wp2_with fail
          refine HG.out.mono ?_
          rintro r w5 ⟨rfl, hsw5, hk5⟩
          have HFF := Lib.hid (HF.out w5 hsw5 hk5)
          clear hsw5 hk5
          go_wp2
          go_ret2
          exact HFF.out
        · have hany : (kids (cutA fr a) (kb t)).any (fun n => n != 0) = true := by
            rw [kids_any]
            refine Classical.byContradiction fun hno => hz ((cutA_zero HT.out fr hP).2 (fun i hi => ?_))
            exact Classical.byContradiction fun h => hno ⟨i, hi, h⟩
          have HEQ := Lib.hid (equalI_walk (kids (cutA fr a) (kb t)) (kids a (kb t)) (some ⟨g, 0, none⟩) A 8 cc 8 wr (kids_len _ _) (kids_len _ _) hslC hsA (by decide))
          rw [hany] at HCON
          by_cases hek : kids (cutA fr a) (kb t) = kids a (kb t)
          · have hdk : decide (kids (cutA fr a) (kb t) = kids a (kb t)) = true := decide_eq_true hek
            rw [hdk] at HEQ
            have HF : Hid (∀ W, Below wr.heap.size wr W → CuP B c xs U fr V0 m0 a t S w (.returned (.tuple #[.bool false, .int .i64 0])) W) := Lib.hid (fun W h1 => ⟨by
              rw [decide_eq_false hz], V', m', hsw.below h1, (hct.stay hz (fun _ => by rw [hVt, hek])).congr hsub, hkp.trans (Keep.of_below (S := fun _ => False) h1) (fun j _ e => e.elim)⟩)
            clear hi8 hsw hct hkp hrow hsA hlt hslC hcon hsub hfi hnt hVt hany hz hdk hek
            go_wp2_with fail
            refine HCON.out.mono ?_
            rintro r w9 ⟨rfl, hw9⟩
            subst hw9
            go_wp2_with fail
            refine HEQ.out.mono ?_
            rintro r w5 ⟨rfl, hb5⟩
            have HFF := Lib.hid (HF.out w5 hb5)
            clear hb5
            go_wp2
            go_ret2
            exact HFF.out
          · have hdk : decide (kids (cutA fr a) (kb t) = kids a (kb t)) = false := decide_eq_false hek
            rw [hdk] at HEQ
            have hmem : v ∈ U := by
              rw [HV.out]
              refine HUP.out hz (Classical.byContradiction fun hno => hek (kids_congr (fun i hi => ?_)))
              exact Classical.byContradiction fun h => hno ⟨i, hi, h⟩
            have HPT := Lib.hid (fun (W : World) (hb : Below wr.heap.size wr W) => point_walk (hsw.below hb) (hfi.below hb) HR.out.2.2.1 hmem HR.out.1 HR.out.2.1 (cutA_P8 HT.out HR.out.2.2.2.2.1 fr hP) _ _ (hslC.below hb))
            have HF : Hid (∀ W W2, Below wr.heap.size wr W → SW B c (updF V' v (treeE (kids (cutA fr a) (kb t)))) m' xs U W2 → Keep (fun j => j = c.p.b) W W2 → CuP B c xs U fr V0 m0 a t S w (.returned (.tuple #[.bool false, .int .i64 0])) W2) := Lib.hid (fun W W2 h1 h2 h3 => ⟨by
              rw [decide_eq_false hz], _, m', h2, by
              rw [HV.out]
              exact (hct.point HT.out hP HR.out.2.2.2.2.2.2.1 hz).congr hsub, (hkp.trans (Keep.of_below (S := fun _ => False) h1) (fun j _ e => e.elim)).trans h3 (fun j _ e => e)⟩)
            clear hi8 hsw hct hkp hrow hsA hlt hslC hcon hsub hfi hnt hVt hany hz hdk hek hmem
            go_wp2_with fail
            refine HCON.out.mono ?_
            rintro r w9 ⟨rfl, hw9⟩
            subst hw9
            go_wp2_with fail
            refine HEQ.out.mono ?_
            rintro r w5 ⟨rfl, hb5⟩
            have HPT5 := Lib.hid (HPT.out w5 hb5)
            have HF5 := Lib.hid (fun W2 => HF.out w5 W2 hb5)
            clear hb5
            go_wp2_with fail
            refine HPT5.out.mono ?_
            rintro r w6 ⟨rfl, hsw6, hk6⟩
            have HFF := Lib.hid (HF5.out w6 hsw6 hk6)
            clear hsw6 hk6
            go_wp2
            go_ret2
            exact HFF.out
end Go.Proofs.YtehfoopefefpnaaGreat
/- Package space: drop. -/
set_option linter.unusedSimpArgs false
set_option linter.unusedVariables false
namespace Go.Proofs.YtehfoopefefpnaaGreat
open Go.RowKit

attribute [local go_sem ↓] Go.wp_at_zero Go.wp_at_succ
/-- All places may be cut. -/
theorem cut_all {B : Nat} {c : SWc} {xs : Nat → NoS} {U : List Nat} {kf n fr : Nat} {V0 : Nat → List UInt8} {m0 : Nat → Bool} {x0 : NoS} {a : Nat → Nat} (ht : TreeOk V0 m0 c.N x0 a) (hU : U.length ≤ 24) (h34 : 34 ∈ U) (hUp : ∀ q, isP q → cutA fr a q ≠ 0 → (∃ i, i < 8 ∧ cutA fr a (kb q + i) ≠ a (kb q + i)) → a q ∈ U) {t : Nat} (h8 : t < 86) : CutC B c xs U kf n fr V0 m0 a t := by
  have leaf : ∀ t, t < 86 → ¬ isP t → CutC B c xs U kf n fr V0 m0 a t := fun t h8 hp => cut_leaf ht hU h34 h8 hp
  have one : ∀ q, isP q → q ≠ 5 → CutC B c xs U kf n fr V0 m0 a q := fun q hq h5 => cut_node ht hU h34 hq (hUp q hq) (fun i hi => leaf _ (kb_lt hq hi) (by
    rcases isP_cases hq with ⟨rfl, e⟩ | ⟨rfl, e⟩ | ⟨h1, h2, e⟩
    · rw [e]; unfold isP; omega
    · exact absurd rfl h5
    · rw [e]; unfold isP; omega))
  by_cases hp : isP t
  · by_cases h5 : t = 5
    · subst h5
      exact cut_node ht hU h34 hp (hUp 5 hp) (fun i hi => one _ (show isP (14 + i) by unfold isP; omega) (show 14 + i ≠ 5 by omega))
    · exact one t hp h5
  · exact leaf t h8 hp
def rts : List Nat := [4, 5, 0, 1, 2, 3]
def rtC (kf t : Nat) : List Value := [.pointer (some ⟨kf, 7 + t, none⟩), .int .i64 (fs t : Int), .int .i64 (ec t : Int)]
theorem rt_get (kf : Nat) {j t : Nat} (h : rts[j]? = some t) : (rts.flatMap (rtC kf))[j * 3]? = some (.pointer (some ⟨kf, 7 + t, none⟩)) ∧ (rts.flatMap (rtC kf))[j * 3 + 1]? = some (.int .i64 (fs t : Int)) ∧ (rts.flatMap (rtC kf))[j * 3 + 2]? = some (.int .i64 (ec t : Int)) ∧ t < 6 ∧ t ∉ rts.take j ∧ j < 6 := by
  have hj : j < 6 := (List.getElem?_eq_some_iff.1 h).1
  rcases (by omega : j = 0 ∨ j = 1 ∨ j = 2 ∨ j = 3 ∨ j = 4 ∨ j = 5) with rfl | rfl | rfl | rfl | rfl | rfl <;>
    (obtain rfl := Option.some.inj h; exact ⟨rfl, rfl, rfl, by decide, by decide, by decide⟩)
theorem rts_all {u : Nat} (h : u < 86) : ∃ t, t ∈ rts ∧ sub t u := by
  unfold sub
  by_cases h1 : u < 4
  · refine ⟨u, ?_, .inl rfl⟩
    rcases (by omega : u = 0 ∨ u = 1 ∨ u = 2 ∨ u = 3) with rfl | rfl | rfl | rfl <;> decide
  · by_cases h2 : u = 5 ∨ 14 ≤ u
    · exact ⟨5, by decide, by omega⟩
    · exact ⟨4, by decide, by omega⟩
theorem eltRt : Elt Tryz.prog 134 133 3 24 := Elt.mk' (z := .agg #[.pointer none, .int .i64 0, .int .i64 0]) (by kernel_rfl) (by kernel_rfl) (by kernel_rfl) (by intro u hu; simp [Value.cells] at hu; rcases hu with rfl | rfl | rfl <;> rfl) (by decide)
def DrpP (B : Nat) (c : SWc) (xs : Nat → NoS) (U : List Nat) (kf n fr : Nat) (V0 : Nat → List UInt8) (m0 : Nat → Bool) (a : Nat → Nat) (x : NoS) (w : World) (e : Ending) (w' : World) : Prop := e = .returned (.int .i64 0) ∧ ∃ V' m' x' S, SW B c V' m' xs U w' ∧ FI c.p.k kf n x' w' ∧ CutS fr V0 m0 a V' m' S ∧ (∀ t, t < 86 → S t) ∧ SameN x x' ∧ (∀ i, i < 6 → x'.ptr i = cutA fr a i) ∧ MkK c kf w w'
def DrpI1 (kf : Nat) (w : World) (v5 v22 : Value) (W : World) : Prop := ∃ (i : Nat) (A : Option Addr) (c : Nat), i ≤ 4 ∧ v22 = .int .i64 (i : Int) ∧ v5 = .slice A (2 + i) c ∧ NR w.heap.size 133 3 W (.slice A (2 + i) c) (2 + i) ((rts.take (2 + i)).flatMap (rtC kf)) ∧ Below w.heap.size w W
def DrpI2 (B : Nat) (c : SWc) (xs : Nat → NoS) (U : List Nat) (kf n fr : Nat) (V0 : Nat → List UInt8) (m0 : Nat → Bool) (a : Nat → Nat) (x : NoS) (A : Option Addr) (cc : Nat) (w : World) (v39 : Value) (W : World) : Prop := ∃ (j : Nat) (V' : Nat → List UInt8) (m' : Nat → Bool) (x' : NoS), j ≤ 6 ∧ v39 = .int .i64 (j : Int) ∧ SW B c V' m' xs U W ∧ FI c.p.k kf n x' W ∧ CutS fr V0 m0 a V' m' (fun u => ∃ t, t ∈ rts.take j ∧ sub t u) ∧ SameN x x' ∧ (∀ i, i < 6 → x'.ptr i = if i ∈ rts.take j then cutA fr a i else a i) ∧ MkK c kf w W ∧ Sl W 3 (.slice A 6 cc) 6 (rts.flatMap (rtC kf))
set_option maxRecDepth 100000 in
set_option maxHeartbeats 16000000 in
theorem drop_walk {B : Nat} {c : SWc} {V : Nat → List UInt8} {m : Nat → Bool} {xs : Nat → NoS} {U : List Nat} {w : World} (h : SW B c V m xs U w) {kf n : Nat} {x : NoS} (hf : FI c.p.k kf n x w) {a : Nat → Nat} (ht : TreeOk V m c.N x a) (fr : Nat) (hU : U.length ≤ 24) (h34 : 34 ∈ U) (hUp : ∀ q, isP q → cutA fr a q ≠ 0 → (∃ i, i < 8 ∧ cutA fr a (kb q + i) ≠ a (kb q + i)) → a q ∈ U) :
    Calls Tryz.prog 38 #[.pointer (some ⟨kf, 0, none⟩), .int .i64 (fr : Int)] w (DrpP B c xs U kf n fr V m a x w) := by
  have HCUT := Lib.hid (fun (t : Nat) (h8 : t < 86) => cut_all (B := B) (xs := xs) (kf := kf) (n := n) (fr := fr) ht hU h34 hUp h8)
  have HH := Lib.hid h
  have HFI := Lib.hid hf
  have HT := Lib.hid ht
  clear h hf ht hU h34 hUp
  go_enter Tryz.func38, Tryz.ntmps38
  go_upto_region 1 with fail
  go_big_region
  obtain ⟨w2, hw2⟩ : ∃ w2, w2 = (w.alloc (.cells #[.pointer (some ⟨kf, 11, none⟩), .int .i64 4, .int .i64 1, .pointer (some ⟨kf, 12, none⟩), .int .i64 12, .int .i64 8] 133)).drew := ⟨_, rfl⟩
  have hown := own_new w #[.pointer (some ⟨kf, 11, none⟩), .int .i64 4, .int .i64 1, .pointer (some ⟨kf, 12, none⟩), .int .i64 12, .int .i64 8] 133 3 2 rfl (by decide)
  have hb2 : Below w.heap.size w w2 := by rw [hw2]; exact ((Below.refl _ w).alloc (Nat.le_refl _) _).drew
  have HI : Hid (DrpI1 kf w (.slice (some ⟨w.heap.size, 0, none⟩) 2 2) (.int .i64 0) w2) := Lib.hid ⟨0, some ⟨w.heap.size, 0, none⟩, 2, Nat.zero_le _, rfl, rfl, ⟨by
    rw [hw2]
    exact own_keep hown ((Keep.refl (fun _ => False) _).drew) (fun _ _ h => h), fun j e => by
    rw [ownBlock_slice] at e
    have := Option.some.inj e
    have : w.heap.size = j := this
    omega⟩, hb2⟩
  rw [← hw2]
  clear hown hb2 hw2
  go_wp2_with fail
  go_loopw [5, 22] (fun v5 v22 wr => DrpI1 kf w v5 v22 wr) (fun _ v _ => 4 - (intOf v).toNat)
  case atStart => exact HI.out
  case round =>
    obtain ⟨i, A, cc, hi, rfl, rfl, hnr, hbw⟩ := hrel
    have HBW := Lib.hid hbw
    by_cases hlt : i < 4
    · have ga : (i : Int) < 4 := by omega
      have gj0 : (0 : Int) ≤ (i : Int) := by omega
      have gc : IntKind.i64.wrap ((i : Int) + 1) = (i : Int) + 1 := IntWalk.i64_in _ (by omega)
      have HN6 := Lib.hid (hnr.below ((Below.refl _ wr).alloc (Nat.le_refl _) (.cells #[.pointer (some ⟨kf, 7 + i, none⟩), .int .i64 (i : Int), .int .i64 0] 133)))
      have hrt : (rts.take (2 + (i + 1))).flatMap (rtC kf) = (rts.take (2 + i)).flatMap (rtC kf) ++ [.pointer (some ⟨kf, 7 + i, none⟩), .int .i64 (i : Int), .int .i64 0] := by
        rcases (by omega : i = 0 ∨ i = 1 ∨ i = 2 ∨ i = 3) with rfl | rfl | rfl | rfl <;> rfl
      have HEND : Hid (∀ (v5 : Value) (W : World), W.ownsRow 0 133 3 v5 (2 + i + 1) ((rts.take (2 + i)).flatMap (rtC kf) ++ [.pointer (some ⟨kf, 7 + i, none⟩), .int .i64 (i : Int), .int .i64 0]) → Keep (fun k => (Value.slice A (2 + i) cc).ownBlock = some k) (wr.alloc (.cells #[.pointer (some ⟨kf, 7 + i, none⟩), .int .i64 (i : Int), .int .i64 0] 133)) W → (v5.ownBlock = (Value.slice A (2 + i) cc).ownBlock ∨ v5.ownBlock = some (wr.alloc (.cells #[.pointer (some ⟨kf, 7 + i, none⟩), .int .i64 (i : Int), .int .i64 0] 133)).heap.size) → DrpI1 kf w v5 (.int .i64 ((i : Int) + 1)) W) := Lib.hid (fun v5 W g4 g5 g6 => by
        obtain ⟨A5, c5, rfl, _⟩ := Rd.of_own g4
        have hG := HN6.out.grown rfl (hbw.alloc hbw.size _) g4 g5 g6
        exact ⟨i + 1, A5, c5, hlt, by rw [Int.natCast_add]; rfl, rfl, by rw [hrt]; exact hG.1, hG.2⟩)
      have HLT := Lib.hid hlt
      clear hnr hbw hrt hlt hi
      go_wp2_with (at_builtin; go_must (refine wpList_app rfl eltRt rfl rfl rfl (n := 2 + i) (m := 1) HN6.out.own (Sl.of_own (own_new wr #[.pointer (some ⟨kf, 7 + i, none⟩), .int .i64 (i : Int), .int .i64 0] 133 3 1 rfl (by decide))) (by simp [Value.oneCell']) (by have := HLT.out; omega) (by have := HLT.out; simp only [maxLen]; omega) ?_))
      intro v5 w5 g4 g5 g6 g7
      clear g7
      have HR := Lib.hid (HEND.out v5 w5 g4 g5 (g6.imp id (fun h => h.trans (by rw [World.size_alloc]))))
      clear g4 g5 g6
      go_wp2_with fail
      go_roundw
      case rel => exact HR.out
      case measure => simp only [intOf]; have := HLT.out; omega
    · obtain rfl : i = 4 := by omega
      have ga : ¬ ((4 : Nat) : Int) < 4 := by omega
      have hsl := Sl.of_own hnr.own
      have HNR := Lib.hid hnr
      have HFR : Hid (∀ j, (Value.slice A 6 cc).ownBlock = some j → w.heap.size ≤ j) := Lib.hid (fun j e => hnr.fresh j e)
      have HI2 : Hid (DrpI2 B c xs U kf n fr V m a x A cc w (.int .i64 0) wr) := Lib.hid ⟨0, V, m, x, Nat.zero_le _, rfl, HH.out.below hbw, HFI.out.below hbw, (CutS.start fr V m a).congr (fun u => ⟨fun h => h.elim, fun ⟨t, h, _⟩ => by cases h⟩), SameN.refl x, fun i hi => by
        rw [if_neg (by intro h; cases h)]
        exact HT.out.top i hi, MkK.below (Keep.refl _ _) hbw, hsl⟩
      have hlx : ((2 + 4 : Nat) : Int) = 6 := rfl
      clear hi hlt hbw hsl hnr
      go_wp2_with fail
      go_loopw [39] (fun v39 wr => DrpI2 B c xs U kf n fr V m a x A cc w v39 wr) (fun v _ => 6 - (intOf v).toNat)
      case atStart => exact HI2.out
      case round =>
        obtain ⟨j, V', m', x', hj, rfl, hsw, hfi, hct, hsn, hpt, hmk, hsl⟩ := hrel
        by_cases hlt : j < 6
        · obtain ⟨t, hq⟩ : ∃ t, rts[j]? = some t := ⟨rts[j]'(show j < 6 from hlt), List.getElem?_eq_getElem _⟩
          obtain ⟨k0, k1, k2, ht6, hnt, _⟩ := rt_get kf hq
          obtain ⟨gb, go, hA, _, hc0⟩ := sl_cell hsl k0
          obtain ⟨gb', go', hA', _, hc1⟩ := sl_cell hsl k1
          obtain ⟨gb'', go'', hA'', _, hc2⟩ := sl_cell hsl k2
          subst hA
          injection hA' with e1
          injection e1 with e1 e2 _
          injection hA'' with e3
          injection e3 with e3 e4 _
          subst e1 e2 e3 e4
          rw [← Nat.add_assoc] at hc1 hc2
          have ga : (j : Int) < 6 := by omega
          have gj0 : (0 : Int) ≤ (j : Int) := by omega
          have gc : IntKind.i64.wrap ((j : Int) + 1) = (j : Int) + 1 := IntWalk.i64_in _ (by omega)
          obtain ⟨f1, hf1⟩ : ∃ f1, f1 = fs t := ⟨_, rfl⟩
          obtain ⟨q1, hq1⟩ : ∃ q1, q1 = ec t := ⟨_, rfl⟩
          obtain ⟨v, hv⟩ : ∃ v, v = a t := ⟨_, rfl⟩
          obtain ⟨w3, hw3⟩ : ∃ w3, w3 = wr.alloc (.cells #[.pointer (some ⟨kf, 7 + t, none⟩), .int .i64 (f1 : Int), .int .i64 (q1 : Int)] 133) := ⟨_, rfl⟩
          have hn3 := blk_new wr (.cells #[.pointer (some ⟨kf, 7 + t, none⟩), .int .i64 (f1 : Int), .int .i64 (q1 : Int)] 133)
          have hb3 : Below wr.heap.size wr w3 := by rw [hw3]; exact (Below.refl _ wr).alloc (Nat.le_refl _) _
          rw [← hw3] at hn3
          have hpx : x'.ptr t = v := by
            rw [hpt t ht6, if_neg hnt, hv]
          have hcv : w3.cell? ⟨kf, 7 + t, none⟩ = some (.int .i64 (v : Int)) := by
            rw [blk_cells (hfi.below hb3), filC_ptr _ _ _ ht6, hpx]
          have p0 := (blk_cells hn3 0).trans (show _ = some (.pointer (some ⟨kf, 7 + t, none⟩)) from rfl)
          have p1 := (blk_cells hn3 1).trans (show _ = some (.int .i64 (f1 : Int)) from rfl)
          have p2 := (blk_cells hn3 2).trans (show _ = some (.int .i64 (q1 : Int)) from rfl)
          rw [← hf1] at hc1
          rw [← hq1] at hc2
          have hcc := HCUT.out t (by omega) V' m' _ x' w3.drew (hsw.below hb3.drew) (hfi.below hb3.drew) hct (fun u hu hS => by
            obtain ⟨s, hs, hsu⟩ := hS
            have hs6 : s < 6 := by
              have := List.mem_of_mem_take hs
              unfold rts at this
              simp at this
              omega
            have : s = t := by
              unfold sub at hu hsu
              omega
            rw [this] at hs
            exact hnt hs)
          rw [← hv, ← hf1, ← hq1] at hcc
          have HCC := Lib.hid hcc
          have HN3 := Lib.hid hn3
          have HFI3 := Lib.hid (show FI c.p.k kf n x' w3.drew from hfi.below hb3.drew)
          have HSL3 := Lib.hid (show Sl w3.drew 3 _ 6 _ from hsl.below hb3.drew)
          have HMK3 := Lib.hid (show MkK c kf w w3.drew from hmk.below hb3.drew)
          have HPT := Lib.hid hpt
          have HSN := Lib.hid hsn
          have HQ := Lib.hid hq
          have HT6 := Lib.hid (show t < 6 ∧ t ∉ rts.take j from ⟨ht6, hnt⟩)
          have HLT := Lib.hid hlt
          have HV := Lib.hid hv
          have HW3 := Lib.hid hw3
          have HGG : Hid (gb ≠ c.p.b ∧ gb ≠ kf ∧ wr.heap.size ≠ c.p.b ∧ wr.heap.size ≠ kf ∧ kf ≠ c.p.b) := Lib.hid (by
            have hkf := blk_lt hfi
            have hbb := hsw.bne
            have h1 := HFR.out gb rfl
            have h2 := HH.out.bne
            have h3 := blk_lt HFI.out
            refine ⟨by omega, by omega, by omega, by omega, HH.out.b_ne HFI.out⟩)
          have HNX : Hid (∀ W, Keep (fun j => j = c.p.b) w3.drew W → W.cell? ⟨wr.heap.size, 0, none⟩ = some (.pointer (some ⟨kf, 7 + t, none⟩)) ∧ W.cell? ⟨kf, 7 + t, none⟩ = some (.int .i64 (v : Int)) ∧ (∀ j, W.frozen? ⟨kf, j, none⟩ = false)) := Lib.hid (fun W hk => by
            have h1 := hk.blk (show w3.drew.heap[wr.heap.size]? = _ from HN3.out) (fun e => HGG.out.2.2.1 e)
            have h2 := HFI3.out.keep hk (fun e => HGG.out.2.2.2.2 e)
            exact ⟨(blk_cells h1 0).trans rfl, hk.cell (show w3.drew.cell? _ = _ from hcv) (fun e => HGG.out.2.2.2.2 e), blk_frees h2⟩)
          have HTK : Hid (rts.take (j + 1) = rts.take j ++ [t]) := Lib.hid (by rw [List.take_add_one, hq]; rfl)
          have HZR : Hid (∀ V4 m4 W, SW B c V4 m4 xs U W → CutS fr V m a V4 m4 (fun u => (∃ t, t ∈ rts.take j ∧ sub t u) ∨ sub t u) → Keep (fun j => j = c.p.b) w3.drew W → cutA fr a t = 0 → DrpI2 B c xs U kf n fr V m a x (some ⟨gb, go, none⟩) cc w (.int .i64 ((j : Int) + 1)) (W.setCell ⟨kf, 7 + t, none⟩ (.int .i64 0))) := Lib.hid (fun V4 m4 W h1 h2 h3 hz => by
            have hfw := HFI3.out.keep h3 (fun e => HGG.out.2.2.2.2 e)
            have hk7 := keep_set W kf (7 + t) (.int .i64 0)
            refine ⟨j + 1, V4, m4, x'.setPtr t 0, HLT.out, by rw [Int.natCast_add]; rfl, h1.file hfw hk7, hfw.set HT6.out.1 0, h2.congr (fun u => ?_), HSN.out.trans (same_setPtr _ _ _), fun i hi => ?_, (HMK3.out.put h3).file hk7, (HSL3.out.keep h3 (fun k e _ => by
              have : gb = k := Option.some.inj e
              rw [← this]; exact HGG.out.1)).keep hk7 (fun k e _ => by
              have : gb = k := Option.some.inj e
              rw [← this]; exact HGG.out.2.1)⟩
            · rw [HTK.out]
              constructor
              · rintro (⟨s, hs, h⟩ | h)
                · exact ⟨s, List.mem_append_left _ hs, h⟩
                · exact ⟨t, List.mem_append_right _ (List.mem_singleton.2 rfl), h⟩
              · rintro ⟨s, hs, h⟩
                rcases List.mem_append.1 hs with hs | hs
                · exact .inl ⟨s, hs, h⟩
                · rw [List.mem_singleton.1 hs] at h
                  exact .inr h
            · rw [setPtr_ptr x' HT6.out.1 hi 0, HTK.out]
              by_cases e : i = t
              · rw [if_pos e, if_pos (List.mem_append_right _ (List.mem_singleton.2 e)), e, hz]
              · rw [if_neg e, HPT.out i hi]
                by_cases hm : i ∈ rts.take j
                · rw [if_pos hm, if_pos (List.mem_append_left _ hm)]
                · rw [if_neg hm, if_neg (fun hh => by
                    rcases List.mem_append.1 hh with hh | hh
                    · exact hm hh
                    · exact e (List.mem_singleton.1 hh))])
          have HNZ : Hid (∀ V4 m4 W, SW B c V4 m4 xs U W → CutS fr V m a V4 m4 (fun u => (∃ t, t ∈ rts.take j ∧ sub t u) ∨ sub t u) → Keep (fun j => j = c.p.b) w3.drew W → cutA fr a t ≠ 0 → DrpI2 B c xs U kf n fr V m a x (some ⟨gb, go, none⟩) cc w (.int .i64 ((j : Int) + 1)) W) := Lib.hid (fun V4 m4 W h1 h2 h3 hz => by
            have hfw := HFI3.out.keep h3 (fun e => HGG.out.2.2.2.2 e)
            refine ⟨j + 1, V4, m4, x', HLT.out, by rw [Int.natCast_add]; rfl, h1, hfw, h2.congr (fun u => ?_), HSN.out, fun i hi => ?_, HMK3.out.put h3, HSL3.out.keep h3 (fun k e _ => by
              have : gb = k := Option.some.inj e
              rw [← this]; exact HGG.out.1)⟩
            · rw [HTK.out]
              constructor
              · rintro (⟨s, hs, h⟩ | h)
                · exact ⟨s, List.mem_append_left _ hs, h⟩
                · exact ⟨t, List.mem_append_right _ (List.mem_singleton.2 rfl), h⟩
              · rintro ⟨s, hs, h⟩
                rcases List.mem_append.1 hs with hs | hs
                · exact .inl ⟨s, hs, h⟩
                · rw [List.mem_singleton.1 hs] at h
                  exact .inr h
            · rw [HPT.out i hi, HTK.out]
              by_cases e : i = t
              · rw [if_pos (List.mem_append_right _ (List.mem_singleton.2 e)), e, if_neg HT6.out.2]
                rcases cutA_or fr a t with e2 | e2
                · exact absurd e2 hz
                · exact e2.symm
              · by_cases hm : i ∈ rts.take j
                · rw [if_pos hm, if_pos (List.mem_append_left _ hm)]
                · rw [if_neg hm, if_neg (fun hh => by
                    rcases List.mem_append.1 hh with hh | hh
                    · exact hm hh
                    · exact e (List.mem_singleton.1 hh))])
          clear hsw hfi hct hsn hpt hmk hsl k0 k1 k2 ht6 hnt hq hlt hj hf1 hq1 hv hn3 hb3 hpx hcc hw3
          go_upto_region 10 with fail
          rw [← HW3.out]
          clear hc0 hc1 hc2
          go_region_law (first | (go_simp; go_at_call 71; refine HCC.out.mono ?_; rintro r w4 ⟨rfl, V4, m4, hsw4, hct4, hk4⟩; have HSW4 := Lib.hid hsw4; have HCT4 := Lib.hid hct4; have HK4 := Lib.hid hk4; clear hsw4 hct4 hk4))
          all_goals
            obtain ⟨z0, z1, z2⟩ := HNX.out _ HK4.out
            by_cases hz : cutA fr a t = 0
            · have HR := Lib.hid (HZR.out _ _ _ HSW4.out HCT4.out HK4.out hz)
              simp only [decide_eq_true hz]
              clear hz
              go_wp2_with fail
              go_roundw
              case rel => exact HR.out
              case measure => simp only [intOf]; have := HLT.out; omega
            · have HR := Lib.hid (HNZ.out _ _ _ HSW4.out HCT4.out HK4.out hz)
              simp only [decide_eq_false hz]
              clear hz
              go_wp2_with fail
              go_roundw
              case rel => exact HR.out
              case measure => simp only [intOf]; have := HLT.out; omega
        · obtain rfl : j = 6 := by omega
          have ga : ¬ ((6 : Nat) : Int) < 6 := by omega
          have HF : Hid (DrpP B c xs U kf n fr V m a x w (.returned (.int .i64 0)) wr) := Lib.hid ⟨rfl, V', m', x', _, hsw, hfi, hct, fun t ht => rts_all ht, hsn, fun i hi => by
            rw [hpt i hi, if_pos]
            rcases (by omega : i = 0 ∨ i = 1 ∨ i = 2 ∨ i = 3 ∨ i = 4 ∨ i = 5) with rfl | rfl | rfl | rfl | rfl | rfl <;> decide, hmk⟩
          clear hsw hfi hct hsn hpt hmk hsl hlt hj
          go_wp2
          go_ret
          exact HF.out
end Go.Proofs.YtehfoopefefpnaaGreat
/- Package space: blot. -/
set_option linter.unusedSimpArgs false
set_option linter.unusedVariables false
namespace Go.Proofs.YtehfoopefefpnaaGreat
open Go.RowKit

attribute [local go_sem ↓] Go.wp_at_zero Go.wp_at_succ
theorem run_clear_own {w : World} {g off n m : Nat} {cur : Array Value} {t : TypeId} {X : List UInt8} (hg : w.heap[g]? = some (.cells cur t (0, 0))) (hx : cur.toList.take 128 = bv X) (hX : X.length = 128) (hfit : off + n ≤ 128) (hn : 0 < n) :
    ∃ W cur', (∀ ty, (Builtin.clear_ #[22] ty #[.slice (some ⟨g, off, none⟩) n m]).run Tryz.prog w = .ok (.tuple #[]) W) ∧ W.heap[g]? = some (.cells cur' t (0, 0)) ∧ cur'.toList.take 128 = bv (splice X off (List.replicate n 0)) ∧ Keep (fun j => j = g) w W := by
  have hz : (Tryz.prog.info? 5).map (fun i => (i.zero, i.size, i.bytes)) = some (some (.int .u8 0), 1, 1) := by kernel_rfl
  obtain ⟨ii, hi, hz1, hs1, _⟩ := info_parts hz
  have hcl : 128 ≤ cur.toList.length := by
    have := congrArg List.length hx
    rw [List.length_take, bv_length, hX] at this
    omega
  have hrl : (bv (List.replicate n 0)).length = n := by rw [bv_length, List.length_replicate]
  have hst := run_storeCells_at Tryz.prog g off t (bv (List.replicate n 0)) 0 cur w hg (by rw [hrl, ← Array.length_toList]; omega) (bv_one _)
  simp only [Nat.add_zero] at hst
  have hzv : (zeroValue 5).run Tryz.prog w = .ok (.int .u8 0) w := by simp [zeroValue, typeInfo, hi, hz1]
  have hzc := zeros_bv n
  obtain ⟨n', rfl⟩ : ∃ n', n = n' + 1 := ⟨n - 1, by omega⟩
  refine ⟨w.setRow g (cur.toList.take off ++ (bv (List.replicate (n' + 1) 0) ++ cur.toList.drop (off + (bv (List.replicate (n' + 1) 0)).length))).toArray, _, fun ty => by simp [Builtin.clear_, run_underlying eltB.und, hzv, hzc, hst], setRow_heap w g _ _ _ _ hg, ?_, ?_⟩
  · have ht := take_splice cur.toList (bv (List.replicate (n' + 1) 0)) off 128 (by rw [hrl]; exact hfit) hcl
    rw [hx, ← bv_splice] at ht
    unfold splice at ht
    rw [hrl] at ht
    rw [hrl]
    show List.take 128 (List.take off cur.toList ++ (bv (List.replicate (n' + 1) 0) ++ List.drop (off + (n' + 1)) cur.toList)) = bv (splice X off (List.replicate (n' + 1) 0))
    rw [ht]
    unfold splice
    rw [List.length_replicate]
  · exact ⟨rfl, rfl, rfl, by simp [World.setRow], fun k _ hk => setRow_other w g k _ hk⟩
def BltP (B : Nat) (c : SWc) (xs : Nat → NoS) (U : List Nat) (V : Nat → List UInt8) (m : Nat → Bool) (x : NoS) (a : Nat → Nat) (z : Nat) (w : World) (e : Ending) (w' : World) : Prop := e = .returned (.int .i64 0) ∧ ∃ V', SW B c V' m xs U w' ∧ TreeOk V' m c.N x a ∧ (∀ k, k < 9728 → Ct V' a k = if z % 128 ≠ 0 ∧ k / 128 = z / 128 ∧ z ≤ k then 0 else Ct V a k) ∧ (∀ i, (∀ t, t < 86 → a t ≠ i) → V' i = V i) ∧ Keep (fun j => j = c.p.b) w w'
set_option maxRecDepth 100000 in
set_option maxHeartbeats 4000000 in
theorem blot_walk {B : Nat} {c : SWc} {V : Nat → List UInt8} {m : Nat → Bool} {xs : Nat → NoS} {U : List Nat} {w : World} (h : SW B c V m xs U w) {kf n : Nat} {x : NoS} (hf : FI c.p.k kf n x w) {a : Nat → Nat} (ht : TreeOk V m c.N x a) (z : Nat) (hz : z ≤ 9728) (hU : U.length ≤ 24) (hUb : z % 128 ≠ 0 → a (sb (z / 128)) ≠ 0 → a (sb (z / 128)) ∈ U) :
    Calls Tryz.prog 40 #[.pointer (some ⟨kf, 0, none⟩), .int .i64 (z : Int)] w (BltP B c xs U V m x a z w) := by
  obtain ⟨r, hr⟩ : ∃ r : Nat, r = z % 128 := ⟨_, rfl⟩
  obtain ⟨b, hb⟩ : ∃ b : Nat, b = z / 128 := ⟨_, rfl⟩
  have m1 : (z : Int) % 128 = (r : Int) := by omega
  have m2 : (z : Int) / 128 = (b : Int) := by omega
  have m3 : IntKind.i64.wrap (b : Int) = (b : Int) := IntWalk.i64_in _ (by omega)
  have m4 : IntKind.i64.wrap (r : Int) = (r : Int) := IntWalk.i64_in _ (by omega)
  by_cases h0 : r = 0
  · have e0 : ((r : Int) == 0) = true := by rw [h0]; rfl
    have e0' : (r : Int) = 0 := by rw [h0]; rfl
    have HF : Hid (BltP B c xs U V m x a z w (.returned (.int .i64 0)) w) := Lib.hid ⟨rfl, V, h, ht, fun k _ => by rw [if_neg (fun e => e.1 (by omega))], fun _ _ => rfl, Keep.refl _ _⟩
    clear h hf ht hz hUb hr hb h0
    go_enter Tryz.func40, Tryz.ntmps40
    go_wp2
    go_ret
    exact HF.out
  · have e0 : ((r : Int) == 0) = false := beq_eq_false_iff_ne.2 (by omega)
    have e0' : ¬ (r : Int) = 0 := by omega
    have hb76 : b < 76 := by omega
    have hr128 : r < 128 := by omega
    have HFD := Lib.hid (find_walk h hf ht hb76)
    obtain ⟨q, hq⟩ : ∃ q, q = a (sb b) := ⟨_, rfl⟩
    rw [← hb, ← hq] at hUb
    rw [← hq] at HFD
    have hUb := hUb (by omega)
    have HH := Lib.hid h
    have HFI := Lib.hid hf
    have HT := Lib.hid ht
    have HUB := Lib.hid hUb
    have HQ := Lib.hid hq
    have HU := Lib.hid hU
    have c0 : w.cell? ⟨kf, 0, none⟩ = some (.pointer (some ⟨c.p.k, 0, none⟩)) := (blk_cells hf 0).trans rfl
    have HZR := Lib.hid (show r = z % 128 ∧ b = z / 128 ∧ b < 76 ∧ r < 128 ∧ r ≠ 0 from ⟨hr, hb, hb76, hr128, h0⟩)
    by_cases hq0 : q = 0
    · have f0 : ((q : Int) == 0) = true := by rw [hq0]; rfl
      have f0' : (q : Int) = 0 := by rw [hq0]; rfl
      have HF : Hid (∀ W, Below w.heap.size w W → BltP B c xs U V m x a z w (.returned (.int .i64 0)) W) := Lib.hid (fun W hW => ⟨rfl, V, h.below hW, ht, fun k _ => by
        split
        · rename_i hc
          unfold Ct
          rw [hc.2.1, ← hb, ← hq, if_pos hq0]
        · rfl, fun _ _ => rfl, Keep.of_below hW⟩)
      clear h hf ht hz hUb hr hb h0 hq hq0 hU hb76 hr128
      go_enter Tryz.func40, Tryz.ntmps40
      go_wp2_with fail
      refine HFD.out.mono ?_
      rintro rr w1 ⟨rfl, hb1⟩
      have HFF := Lib.hid (HF.out w1 hb1)
      clear hb1
      go_wp2
      go_ret
      exact HFF.out
    · have f0 : ((q : Int) == 0) = false := beq_eq_false_iff_ne.2 (by omega)
      have f0' : ¬ (q : Int) = 0 := by omega
      obtain ⟨r1, r2, _⟩ := ht.rng (sb b) (sb_lt hb76) (by rw [← hq]; exact hq0)
      rw [← hq] at r1 r2
      have HGT := Lib.hid (fun (W : World) (hb : Below w.heap.size w W) => wgetO (h.below hb) r1 r2)
      have HVL := Lib.hid (h.each r1 r2)
      have HR12 := Lib.hid (show 43 ≤ q ∧ q < c.N ∧ q ≠ 0 from ⟨r1, r2, hq0⟩)
      clear h hf ht hz hUb hr hb h0 hq hq0 hU hb76 r1 r2
      go_enter Tryz.func40, Tryz.ntmps40
      go_wp2_with fail
      refine HFD.out.mono ?_
      rintro rr w1 ⟨rfl, hb1⟩
      have HB1 := Lib.hid hb1
      have HGT1 := Lib.hid (HGT.out w1 hb1)
      have c01 := (Keep.of_below (S := fun _ => False) hb1).cell c0 id
      clear hb1
      go_wp2_with fail
      refine HGT1.out.mono ?_
      rintro rr w5 ⟨g5, cur, ty, rfl, hg5, hblk5, htk5, hb5⟩
      have c05 := (Keep.of_below (S := fun _ => False) hb5).cell c01 id
      have hsp : ∀ W : World, (Instr.slice 22 (.slice (some ⟨g5, 0, none⟩) 128 128) (some (.int .i64 (r : Int))) none none).run Tryz.prog W = .ok (.slice (some ⟨g5, r, none⟩) (128 - r) (128 - r)) W := fun W => by
        have i0 : (0 : Int) ≤ (r : Int) := by omega
        have i1 : (r : Int) ≤ 128 := by omega
        have i3 : ¬ 128 = r := by omega
        simp [go_sem, i0, i1, i3]
      obtain ⟨w6, cur6, hcl0, hblk6, htk6, hk6⟩ := run_clear_own (off := r) (n := 128 - r) (m := 128 - r) hblk5 htk5 HVL.out (by omega) (by omega)
      have hcl : (Builtin.clear_ #[22] 0 #[.slice (some ⟨g5, r, none⟩) (128 - r) (128 - r)]).run Tryz.prog w5 = .ok (.tuple #[]) w6 := hcl0 _
      have hlt5 := blk_lt hblk5
      have c06 := hk6.cell c05 (by
        have := blk_lt HFI.out
        have := HB1.out.size
        show ¬ kf = g5
        omega)
      have hb16 : Below w1.heap.size w1 w6 := hb5.trans (hk6.below (fun z (hz : z = g5) => by omega) hb5.size)
      have hspl : (splice (V q) r (List.replicate (128 - r) 0)).length = 128 := by rw [length_splice _ _ _ (by rw [List.length_replicate, HVL.out]; omega)]; exact HVL.out
      have HPUT := Lib.hid (wput (HH.out.below (bstep HB1.out hb16)) HU.out (HUB.out HR12.out.2.2) HR12.out.1 HR12.out.2.1 _ _ _ (row128 hblk6 htk6 hspl))
      have HF : Hid (∀ W, SW B c (updF V q (splice (V q) r (List.replicate (128 - r) 0))) m xs U W → Keep (fun j => j = c.p.b) w6 W → BltP B c xs U V m x a z w (.returned (.int .i64 0)) W) := Lib.hid (fun W h1 h2 => by
        have hZR := HZR.out
        have hq := HQ.out
        have h8 := sb_lt hZR.2.2.1
        refine ⟨rfl, _, h1, ?_, fun k hk => ?_, fun i hi => ?_, Keep.trans (Keep.of_below (S := fun j => j = c.p.b) (bstep HB1.out hb16)) h2 (fun _ _ e => e)⟩
        · rw [hq]
          exact HT.out.putData h8 (sb_notP hZR.2.2.1) (by rw [← hq]; exact HR12.out.2.2) _
        · rw [hq, ct_put HT.out hZR.2.2.1 (by rw [← hq]; exact HR12.out.2.2) _ hk, ← hq, ← hZR.2.1, ← hZR.1]
          by_cases e : k / 128 = b
          · rw [if_pos e, splice_get _ _ _ _ (by rw [List.length_replicate, HVL.out]; omega), List.length_replicate]
            by_cases e2 : z ≤ k
            · rw [if_pos ⟨by omega, by omega⟩, if_pos ⟨hZR.2.2.2.2, e, e2⟩, List.getD_eq_getElem?_getD, List.getElem?_replicate]
              split <;> rfl
            · rw [if_neg (by omega), if_neg (fun hh => e2 hh.2.2)]
              unfold Ct
              rw [e, ← hq, if_neg HR12.out.2.2]
          · rw [if_neg e, if_neg (fun hh => e hh.2.1)]
        · rw [updF_ne _ _ (fun e => hi _ h8 (hq.symm.trans e.symm))])
      clear hg5 hblk5 htk5 hb5 hblk6 htk6 hk6 hcl0 hlt5 hb16 hspl c0 c01 c05
      go_wp2_with fail
      refine HPUT.out.mono ?_
      rintro rr w7 ⟨rfl, hsw7, hk7⟩
      have HFF := Lib.hid (HF.out w7 hsw7 hk7)
      clear hsw7 hk7
      go_wp2
      go_ret
      exact HFF.out
end Go.Proofs.YtehfoopefefpnaaGreat
