/- Words and contracts that the proofs of this set use; each part says what it holds. -/
import Derived.Test.YtehfoopefefpnaaGreatSk7
/- Package space: Trunc. -/
set_option linter.unusedSimpArgs false
set_option linter.unusedVariables false
namespace Go.Proofs.YtehfoopefefpnaaGreat
open Go.RowKit

attribute [local go_sem ↓] Go.wp_at_zero Go.wp_at_succ
/-- A file: its tree, whose bytes behind the end are 0, with no block behind it, and no pointers for nothing. -/
structure Fl (V : Nat → List UInt8) (m : Nat → Bool) (N : Nat) (x : NoS) (a : Nat → Nat) : Prop where
  tr : TreeOk V m N x a
  tail : ∀ k, x.size ≤ k → k < 9728 → Ct V a k = 0
  far : ∀ b, b < 76 → blocksN x.size ≤ b → a (sb b) = 0
  full : ∀ q, isP q → a q ≠ 0 → ∃ i, i < 8 ∧ a (kb q + i) ≠ 0
/-- What Trunc does. -/
structure Trc (V : Nat → List UInt8) (m : Nat → Bool) (a : Nat → Nat) (V' : Nat → List UInt8) (m' : Nat → Bool) (a' : Nat → Nat) (sz : Nat) : Prop where
  old : ∀ t, a' t = 0 ∨ a' t = a t
  mark : ∀ i, m' i = true ↔ (m i = true ∧ ∀ t, t < 86 → a t = i → i ≠ 0 → a' t ≠ 0)
  view : ∀ i, i ≠ 0 → (∀ t, t < 86 → a t ≠ i) → V' i = V i
  ct : ∀ k, k < 9728 → Ct V' a' k = if k < sz then Ct V a k else 0
  blk : ∀ b, b < 76 → a' (sb b) = if blocksN sz ≤ b then 0 else a (sb b)
  full : ∀ q, isP q → a' q ≠ 0 → ∃ i, i < 8 ∧ a' (kb q + i) ≠ 0
def TrM (B : Nat) (c : SWc) (xs : Nat → NoS) (U : List Nat) (kf n : Nat) (V : Nat → List UInt8) (m : Nat → Bool) (a : Nat → Nat) (sz : Nat) (w : World) (W : World) : Prop := ∃ V' m' a' x', SW B c V' m' xs U W ∧ FI c.p.k kf n x' W ∧ SameN (xs n) x' ∧ TreeOk V' m' c.N x' a' ∧ Trc V m a V' m' a' sz ∧ MkK c kf w W
def TrnP (B : Nat) (c : SWc) (xs : Nat → NoS) (U : List Nat) (n : Nat) (V : Nat → List UInt8) (m : Nat → Bool) (a : Nat → Nat) (sz : Nat) (w : World) (e : Ending) (w' : World) : Prop := e = .returned (.int .i64 0) ∧ ∃ V' m' a' y, SW B c V' m' (updF xs n y) U w' ∧ Fl V' m' c.N y a' ∧ Trc V m a V' m' a' sz ∧ y.kind = (xs n).kind ∧ y.links = (xs n).links ∧ y.gen = (xs n).gen ∧ y.size = sz ∧ y.change = min ((xs n).change + 1) 1073741824 ∧ FwK c w w'
theorem trc_cut {V : Nat → List UInt8} {m : Nat → Bool} {N : Nat} {x : NoS} {a : Nat → Nat} (ht : TreeOk V m N x a) {sz : Nat} (hz : sz ≤ 9728) {V1 : Nat → List UInt8} {m1 : Nat → Bool} {S : Nat → Prop} (h : CutS (blocksN sz) V m a V1 m1 S) (hS : ∀ t, t < 86 → S t) {V2 : Nat → List UInt8} (h2 : ∀ k, k < 9728 → Ct V2 (cutA (blocksN sz) a) k = if sz % 128 ≠ 0 ∧ k / 128 = sz / 128 ∧ sz ≤ k then 0 else Ct V1 (cutA (blocksN sz) a) k) (h3 : ∀ i, (∀ t, t < 86 → cutA (blocksN sz) a t ≠ i) → V2 i = V1 i) : Trc V m a V2 m1 (cutA (blocksN sz) a) sz := by
  refine ⟨cutA_or _ a, fun i => ?_, fun i h0 hi => ?_, fun k hk => ?_, fun b hb => ?_, fun q hq hz => ?_⟩
  · rw [h.mark i]
    exact and_congr_right fun _ => ⟨fun k t ht => k t (hS t ht) ht, fun k t _ ht => k t ht⟩
  · rw [h3 i (fun t ht8 e => ?_), h.keep i (fun q _ hq => hi q (by unfold isP at hq; omega))]
    rcases cutA_or (blocksN sz) a t with e2 | e2
    · exact h0 (e.symm.trans e2)
    · exact hi t ht8 (e2.symm.trans e)
  · rw [h2 k hk, h.ct ht hk]
    unfold blocksN
    by_cases h4 : k < sz
    · rw [if_pos h4, if_neg (by omega), if_pos (by omega)]
    · rw [if_neg h4]
      split
      · rfl
      · rw [if_neg (by omega)]
  · rw [cutA_leaf _ a (sb_notP hb), bk_sb hb]
  · refine Classical.byContradiction fun hno => hz ((cutA_zero ht _ hq).2 (fun i hi => ?_))
    exact Classical.byContradiction fun hh => hno ⟨i, hi, hh⟩
theorem trc_same {V : Nat → List UInt8} {m : Nat → Bool} {N : Nat} {x : NoS} {a : Nat → Nat} (h : Fl V m N x a) {sz : Nat} (hz : x.size ≤ sz) : Trc V m a V m a sz := by
  refine ⟨fun _ => .inr rfl, fun i => ⟨fun h1 => ⟨h1, fun t _ e h0 => by rw [e]; exact h0⟩, fun h1 => h1.1⟩, fun _ _ _ => rfl, fun k hk => ?_, fun b hb => ?_, h.full⟩
  · split
    · rfl
    · exact h.tail k (by omega) hk
  · split
    · exact h.far b hb (by unfold blocksN at *; omega)
    · rfl
/-- Which pointers are written anew when a file is cut. -/
theorem cut_part {V : Nat → List UInt8} {m : Nat → Bool} {N : Nat} {x : NoS} {a : Nat → Nat} (ht : TreeOk V m N x a) {fr : Nat} {q : Nat} (hq : isP q) (hz : cutA fr a q ≠ 0) (hc : ∃ i, i < 8 ∧ cutA fr a (kb q + i) ≠ a (kb q + i)) : q = 4 ∨ q = 5 ∨ 12 ≤ fr ∧ q = 14 + (fr - 12) / 8 := by
  rcases isP_cases hq with ⟨rfl, e⟩ | ⟨rfl, e⟩ | ⟨h1, h2, e⟩
  · exact .inl rfl
  · exact .inr (.inl rfl)
  · right; right
    obtain ⟨i, hi, hne⟩ := hc
    have hno : ∃ j, j < 8 ∧ cutA fr a (kb q + j) ≠ 0 := by
      refine Classical.byContradiction fun hno => hz ((cutA_zero ht fr hq).2 (fun i hi => ?_))
      exact Classical.byContradiction fun h => hno ⟨i, hi, h⟩
    obtain ⟨j, hj, hnz⟩ := hno
    have hl : ∀ i, i < 8 → ¬ isP (kb q + i) := fun i hi => by rw [e]; unfold isP; omega
    have hb : ∀ i, i < 8 → bk (kb q + i) = 12 + 8 * (q - 14) + i := fun i hi => by
      unfold bk
      rw [e, if_neg (by omega), if_neg (by omega)]
      omega
    rw [cutA_leaf fr a (hl i hi), hb i hi] at hne
    rw [cutA_leaf fr a (hl j hj), hb j hj] at hnz
    have h3 : fr ≤ 12 + 8 * (q - 14) + i := by
      refine Classical.byContradiction fun h => hne ?_
      rw [if_neg h]
    have h4 : ¬ fr ≤ 12 + 8 * (q - 14) + j := fun h => hnz (if_pos h)
    omega
/-- What Trunc may touch. -/
def truT (sz : Nat) : List Nat := [4, 5, 14 + (blocksN sz - 12) / 8, sb (sz / 128)]
set_option maxRecDepth 100000 in
set_option maxHeartbeats 8000000 in
theorem trunc_walk {B : Nat} {c : SWc} {V : Nat → List UInt8} {m : Nat → Bool} {xs : Nat → NoS} {U : List Nat} {w : World} {n : Nat} {a : Nat → Nat} (h : SW B c V m xs U w) (hn : n < 32) (hfl : Fl V m c.N (xs n) a) (sz : Nat) (hz : sz ≤ 9728) (hkd : (xs n).kind = 1 ∨ (xs n).kind = 2 ∧ sz % 32 = 0) (hU : U.length ≤ 24) (h34 : 34 ∈ U) (h35 : 35 + n / 4 ∈ U) (hT : sz < (xs n).size → ∀ t ∈ truT sz, a t = 0 ∨ a t ∈ U) :
    Calls Tryz.prog 13 #[.pointer (some ⟨c.p.k, 0, none⟩), .int .i64 (n : Int), .int .i64 (sz : Int)] w (TrnP B c xs U n V m a sz w) := by
  have HOP := Lib.hid (open_walk h hn (by omega))
  have hxo := h.node_ok hn
  have HH := Lib.hid h
  have HFL := Lib.hid hfl
  have HXO := Lib.hid hxo
  have HKD := Lib.hid hkd
  have HTT := Lib.hid hT
  have HX := Lib.hid (show U.length ≤ 24 ∧ 34 ∈ U ∧ 35 + n / 4 ∈ U ∧ n < 32 ∧ sz ≤ 9728 from ⟨hU, h34, h35, hn, hz⟩)
  have HBL := Lib.hid (fun (W : World) => blocks_walk sz (by omega) W)
  obtain ⟨xz, hxz⟩ : ∃ z : Nat, z = (xs n).size := ⟨_, rfl⟩
  obtain ⟨fr, hfr⟩ : ∃ z : Nat, z = blocksN sz := ⟨_, rfl⟩
  rw [← hfr] at HBL
  have HXZ := Lib.hid hxz
  have HFR := Lib.hid hfr
  have g0 : ¬ (sz : Int) < 0 := by omega
  have g2 : ¬ (9728 : Int) < (sz : Int) := by omega
  clear h hfl hxo hkd hT hU h34 h35 hn hz hxz hfr
  go_enter Tryz.func13, Tryz.ntmps13
  go_wp2_with fail
  refine HOP.out.mono ?_
  rintro r w1 ⟨kf, rfl, hfi1, hkf, hb1⟩
  have c5 : w1.cell? ⟨kf, 5, none⟩ = some (.int .i64 (xz : Int)) := by rw [HXZ.out]; exact (blk_cells hfi1 5).trans rfl
  have HFI1 := Lib.hid hfi1
  have HB1 := Lib.hid hb1
  have HKF := Lib.hid hkf
  clear hfi1 hkf hb1
  by_cases hlt : sz < xz
  case' pos =>
    have g3 : (sz : Int) < (xz : Int) := by omega
    have HT4 := Lib.hid (HTT.out (by rw [← HXZ.out]; exact hlt))
    have HDP := Lib.hid (drop_walk (HH.out.below HB1.out) HFI1.out HFL.out.tr fr HX.out.1 HX.out.2.1 (fun q hq hzq hc => by
      have hm : q ∈ truT sz := by
        unfold truT
        rw [← HFR.out]
        rcases cut_part HFL.out.tr hq hzq hc with rfl | rfl | ⟨_, e⟩
        · simp
        · simp
        · rw [e]; simp
      rcases HT4.out q hm with h0 | h0
      · exfalso
        rcases cutA_or fr a q with e | e
        · exact hzq e
        · exact hzq (e.trans h0)
      · exact h0))
    clear hlt
    go_wp2_with fail
    refine (HBL.out w1).mono ?_
    rintro r w' ⟨rfl, hw'⟩
    rw [hw']
    clear hw'
    go_wp2_with fail
    refine HDP.out.mono ?_
    rintro r w2 ⟨rfl, V2, m2, x2, S, hsw2, hfi2, hct2, hS, hsn2, hpt2, hmk2⟩
    have htr2 := hct2.tree HFL.out.tr hS hpt2
    have HBT := Lib.hid (blot_walk hsw2 hfi2 htr2 sz HX.out.2.2.2.2 HX.out.1 (fun h1 h2 => by
      have hzz := HX.out.2.2.2.2
      have hnp : cutA fr a (sb (sz / 128)) = a (sb (sz / 128)) := by
        rcases cutA_or fr a (sb (sz / 128)) with e | e
        · exact absurd e h2
        · exact e
      rw [hnp] at h2 ⊢
      rcases HT4.out (sb (sz / 128)) (by unfold truT; simp) with h0 | h0
      · exact absurd h0 h2
      · exact h0))
    have HFI2 := Lib.hid hfi2
    have HCT2 := Lib.hid hct2
    have HSS := Lib.hid hS
    have HSN2 := Lib.hid hsn2
    have HMK2 := Lib.hid hmk2
    have HB2 : Hid (kf ≠ c.p.b) := Lib.hid (hsw2.b_ne hfi2)
    clear hsw2 hfi2 hct2 hS hsn2 hpt2 hmk2 htr2
    go_wp2_with fail
    refine HBT.out.mono ?_
    rintro r w3 ⟨rfl, V3, hsw3, htr3, hct3, hvw3, hk3⟩
    have HM : Hid (∃ w1, Below w.heap.size w w1 ∧ w.heap.size ≤ kf ∧ TrM B c xs U kf n V m a sz w1 w3) := Lib.hid ⟨w1, HB1.out, HKF.out, V3, m2, cutA fr a, x2, hsw3, HFI2.out.keep hk3 (fun e => HB2.out e), HSN2.out, htr3, by
      have := HCT2.out
      rw [HFR.out] at this hct3 hvw3 ⊢
      exact trc_cut HFL.out.tr HX.out.2.2.2.2 this HSS.out hct3 hvw3, HMK2.out.put hk3⟩
    clear hsw3 htr3 hct3 hvw3 hk3
  case' neg =>
    have g3 : ¬ (sz : Int) < (xz : Int) := by omega
    obtain ⟨w3, hw3⟩ : ∃ w3, w3 = w1 := ⟨_, rfl⟩
    subst hw3
    have HM : Hid (∃ w1, Below w.heap.size w w1 ∧ w.heap.size ≤ kf ∧ TrM B c xs U kf n V m a sz w1 w3) := Lib.hid ⟨w3, HB1.out, HKF.out, V, m, a, xs n, HH.out.below HB1.out, HFI1.out, SameN.refl _, HFL.out.tr, trc_same HFL.out (by rw [← HXZ.out]; omega), Keep.refl _ _⟩
    clear hlt
    go_upto_region 13 with fail
  all_goals
    clear c5
    obtain ⟨ws, hbs, hkfs, V3, m3, a3, x3, hsw, hfi, hsn, htr, htc, hmk⟩ := HM.out
    obtain ⟨v5, c5⟩ : ∃ v, w3.cell? ⟨kf, 5, none⟩ = some v := ⟨_, (blk_cells hfi 5).trans (show _ = some (.int .i64 (x3.size : Int)) from rfl)⟩
    have f5 := blk_frees hfi 5
    obtain ⟨w4, hw4⟩ : ∃ w4, w4 = w3.setCell ⟨kf, 5, none⟩ (.int .i64 (sz : Int)) := ⟨_, rfl⟩
    have hk4 := keep_set w3 kf 5 (.int .i64 (sz : Int))
    have hfi4 : FI c.p.k kf n (x3.sized sz) w4 := by
      rw [hw4]
      unfold FI
      rw [blk_set hfi (.int .i64 (sz : Int)) (j := 5), filC_size]
    rw [← hw4] at hk4
    have hsw4 := hsw.file hfi hk4
    have hxo := HXO.out
    have htr2 : TreeOk V3 m3 c.N ((x3.sized sz).tick) a3 := htr.node (fun i hi => sized_ptr x3 sz i hi)
    have hokk : ((x3.sized sz).tick).okK := by
      have hk := hxo.kd
      have hkd := HKD.out
      obtain ⟨e1, e2, _⟩ := hsn
      have hz9 := HX.out.2.2.2.2
      show ((x3.kind = 0 ∧ _) ∨ (x3.kind = 1 ∧ 1 ≤ x3.links ∧ x3.links ≤ 255 ∧ sz ≤ 9728) ∨ (x3.kind = 2 ∧ x3.links = 1 ∧ sz ≤ 9728 ∧ sz % 32 = 0))
      rw [e1, e2]
      unfold NoS.okK at hk
      rcases hkd with h1 | ⟨h1, h2⟩
      · right; left
        rcases hk with h | h | h
        · omega
        · exact ⟨h1, h.2.1, h.2.2.1, hz9⟩
        · omega
      · right; right
        rcases hk with h | h | h
        · omega
        · omega
        · exact ⟨h1, h.2.1, hz9, h2⟩
    have hyok := node_ok_of htr2 hsw.le.2 (by show x3.gen ≤ _; rw [hsn.2.2.1]; exact hxo.gen) (by show min _ _ ≤ _; exact Nat.min_le_right _ _) hokk
    have HSV := Lib.hid (save_walk hsw4 hfi4 HX.out.2.2.2.1 hyok (by show x3.change ≤ _; rw [hsn.2.2.2.2]; exact hxo.change) HX.out.1 HX.out.2.2.1)
    have HEND : Hid (∀ W, SW B c V3 m3 (updF xs n ((x3.sized sz).tick)) U W → MkK c kf w4 W → TrnP B c xs U n V m a sz w (.returned (.int .i64 0)) W) := Lib.hid (fun W h1 h2 => by
      refine ⟨rfl, V3, m3, a3, _, h1, ⟨htr2, fun k hk1 hk2 => ?_, fun b hb hb2 => ?_, htc.full⟩, htc, hsn.1, hsn.2.1, hsn.2.2.1, rfl, ?_, fwk_of hbs hkfs ((hmk.file hk4).trans h2)⟩
      · have hk1 : sz ≤ k := hk1
        rw [htc.ct k hk2, if_neg (by omega)]
      · have hb2 : blocksN sz ≤ b := hb2
        rw [htc.blk b hb, if_pos hb2]
      · show min (x3.change + 1) _ = _
        rw [hsn.2.2.2.2])
    have HW4 := Lib.hid hw4
    clear hbs hkfs hsw hfi hsn htr htc hmk hw4 hk4 hfi4 hsw4 hxo htr2 hokk hyok
    go_upto_region 14 with fail
    rw [← HW4.out]
    go_wp2_with fail
    refine HSV.out.mono ?_
    rintro r w5 ⟨rfl, hsw5, _, hk5⟩
    have HFF := Lib.hid (HEND.out w5 hsw5 hk5)
    clear hsw5 hk5
    go_wp2
    go_ret
    exact HFF.out
end Go.Proofs.YtehfoopefefpnaaGreat
/- Package space: all sectors of a file, plain. -/
set_option linter.unusedSimpArgs false
set_option linter.unusedVariables false
namespace Go.Proofs.YtehfoopefefpnaaGreat
open Go.RowKit

/-- The places below a place, in the order in which they are gathered. -/
def preK (q : Nat) : List Nat := q :: (List.range 8).map fun i => kb q + i
def pre (t : Nat) : List Nat := if t = 5 then 5 :: (List.range 8).flatMap (fun i => preK (14 + i)) else if isP t then preK t else [t]
def gl (a : Nat → Nat) (t : Nat) : List Nat := ((pre t).filter fun u => decide (a u ≠ 0)).map a
theorem pre_leaf {t : Nat} (h : ¬ isP t) : pre t = [t] := by
  unfold pre
  rw [if_neg (fun e => h (by rw [e]; exact .inr (.inl rfl))), if_neg h]
theorem flatMap_single {f : Nat → Nat} {g : Nat → List Nat} : ∀ {l : List Nat}, (∀ i ∈ l, g i = [f i]) → l.flatMap g = l.map f
  | [], _ => rfl
  | x :: l, h => by
    rw [List.flatMap_cons, h x (List.mem_cons_self ..), flatMap_single (fun i hi => h i (List.mem_cons_of_mem _ hi))]
    rfl
theorem pre_node {q : Nat} (h : isP q) : pre q = q :: (List.range 8).flatMap fun i => pre (kb q + i) := by
  rcases isP_cases h with ⟨rfl, _⟩ | ⟨rfl, _⟩ | ⟨h3, h4, e⟩
  · decide
  · decide
  · have hl : ∀ i, i < 8 → pre (kb q + i) = [kb q + i] := fun i hi => pre_leaf (by rw [e]; unfold isP; omega)
    have h5 : pre q = preK q := by
      unfold pre
      rw [if_neg (by omega), if_pos h]
    rw [h5]
    unfold preK
    rw [flatMap_single (f := fun i => kb q + i) (fun i hi => hl i (List.mem_range.1 hi))]
theorem pre_sub0 : ∀ t, t < 86 → ∀ u, u ∈ pre t → sub t u := by
  have : ∀ t, t < 86 → ∀ u ∈ pre t, (u = t ∨ (t = 4 ∧ 6 ≤ u ∧ u < 14) ∨ (t = 5 ∧ 14 ≤ u ∧ u < 86) ∨ (14 ≤ t ∧ t < 22 ∧ 8 * t - 90 ≤ u ∧ u < 8 * t - 82)) := by decide +kernel
  exact this
theorem gl_leaf (a : Nat → Nat) {t : Nat} (h : ¬ isP t) : gl a t = if a t = 0 then [] else [a t] := by
  unfold gl
  rw [pre_leaf h]
  by_cases h0 : a t = 0
  · rw [if_pos h0]; simp [h0]
  · rw [if_neg h0]; simp [h0]
theorem gl_zero {V : Nat → List UInt8} {m : Nat → Bool} {N : Nat} {x : NoS} {a : Nat → Nat} (ht : TreeOk V m N x a) {t : Nat} (h8 : t < 86) (h0 : a t = 0) : gl a t = [] := by
  unfold gl
  rw [List.filter_eq_nil_iff.2 (fun u hu => ?_)]
  · rfl
  · simp [sub_none ht h0 u (pre_sub0 t h8 u hu)]
theorem filter_flatMap {α β : Type} (p : β → Bool) (f : α → List β) (l : List α) : (l.flatMap f).filter p = l.flatMap (fun x => (f x).filter p) := by
  induction l with
  | nil => rfl
  | cons x l ih => rw [List.flatMap_cons, List.filter_append, ih, List.flatMap_cons]
theorem map_flatMap' {α β γ : Type} (g : β → γ) (f : α → List β) (l : List α) : (l.flatMap f).map g = l.flatMap (fun x => (f x).map g) := by
  induction l with
  | nil => rfl
  | cons x l ih => rw [List.flatMap_cons, List.map_append, ih, List.flatMap_cons]
theorem gl_node (a : Nat → Nat) {q : Nat} (h : isP q) (h0 : a q ≠ 0) : gl a q = a q :: (List.range 8).flatMap fun i => gl a (kb q + i) := by
  unfold gl
  rw [pre_node h, List.filter_cons_of_pos (by simp [h0]), List.map_cons, filter_flatMap, map_flatMap']
/-- All places, in the order in which they are gathered. -/
def allS : List Nat := pre 0 ++ pre 1 ++ pre 2 ++ pre 3 ++ pre 4 ++ pre 5
theorem allS_nodup : allS.Nodup := by decide +kernel
theorem allS_mem0 : ∀ t, t < 86 → t ∈ allS := by decide +kernel
theorem allS_lt : ∀ t ∈ allS, t < 86 := by decide +kernel
def allL (a : Nat → Nat) : List Nat := gl a 0 ++ gl a 1 ++ gl a 2 ++ gl a 3 ++ gl a 4 ++ gl a 5
theorem allL_eq (a : Nat → Nat) : allL a = (allS.filter fun u => decide (a u ≠ 0)).map a := by
  unfold allL allS gl
  simp only [List.filter_append, List.map_append]
theorem allL_mem (a : Nat → Nat) (i : Nat) : i ∈ allL a ↔ i ≠ 0 ∧ ∃ t, t < 86 ∧ a t = i := by
  rw [allL_eq, List.mem_map]
  constructor
  · rintro ⟨t, ht, rfl⟩
    obtain ⟨h1, h2⟩ := List.mem_filter.1 ht
    exact ⟨of_decide_eq_true h2, t, allS_lt t h1, rfl⟩
  · rintro ⟨h0, t, ht, rfl⟩
    exact ⟨t, List.mem_filter.2 ⟨allS_mem0 t ht, decide_eq_true h0⟩, rfl⟩
theorem nodup_map_on {f : Nat → Nat} : ∀ {l : List Nat}, l.Nodup → (∀ x ∈ l, ∀ y ∈ l, f x = f y → x = y) → (l.map f).Nodup
  | [], _, _ => List.Pairwise.nil
  | x :: l, hn, hf => by
    obtain ⟨h1, h2⟩ := List.nodup_cons.1 hn
    rw [List.map_cons, List.nodup_cons]
    refine ⟨fun hm => ?_, nodup_map_on h2 (fun y hy z hz => hf y (List.mem_cons_of_mem _ hy) z (List.mem_cons_of_mem _ hz))⟩
    obtain ⟨y, hy, e⟩ := List.mem_map.1 hm
    have := hf x (List.mem_cons_self ..) y (List.mem_cons_of_mem _ hy) e.symm
    exact h1 (this ▸ hy)
theorem allL_nodup {V : Nat → List UInt8} {m : Nat → Bool} {N : Nat} {x : NoS} {a : Nat → Nat} (ht : TreeOk V m N x a) : (allL a).Nodup := by
  rw [allL_eq]
  refine nodup_map_on (List.Pairwise.filter _ allS_nodup) (fun u hu v hv e => ?_)
  obtain ⟨h1, h2⟩ := List.mem_filter.1 hu
  obtain ⟨h3, h4⟩ := List.mem_filter.1 hv
  exact ht.inj u v (allS_lt u h1) (allS_lt v h3) e (of_decide_eq_true h2)
theorem allL_len (a : Nat → Nat) : (allL a).length ≤ 86 := by
  rw [allL_eq, List.length_map]
  exact Nat.le_trans (List.length_filter_le _ _) (by decide +kernel)
/-- How deep a place's pointers go. -/
def dp (t : Nat) : Nat := if t = 5 then 2 else if t = 4 ∨ 14 ≤ t ∧ t < 22 then 1 else 0
theorem dp_kid0 : ∀ t, t < 22 → isP t → ∀ i, i < 8 → dp (kb t + i) + 1 = dp t := by decide
theorem dp_kid {t i : Nat} (h : isP t) (hi : i < 8) : dp (kb t + i) + 1 = dp t := dp_kid0 t (by unfold isP at h; omega) h i hi
theorem dp_leaf {t : Nat} (h : ¬ isP t) : dp t = 0 := by
  unfold isP at h
  unfold dp
  rw [if_neg (by omega), if_neg (by omega)]
theorem dp_node {t : Nat} (h : isP t) : 1 ≤ dp t ∧ dp t ≤ 2 := by
  unfold isP at h
  unfold dp
  split
  · omega
  · rw [if_pos (by omega)]; omega
end Go.Proofs.YtehfoopefefpnaaGreat
/- Package space: gather; slices.Sort and slices.Clip at numbers. -/
set_option linter.unusedSimpArgs false
set_option linter.unusedVariables false
namespace Go.Proofs.YtehfoopefefpnaaGreat
open Go.RowKit

attribute [local go_sem ↓] Go.wp_at_zero Go.wp_at_succ
theorem own_row {w : World} {e size n b c : Nat} {xs : List Value} (h : w.ownsRow 0 e size (.slice (some ⟨b, 0, none⟩) n c) n xs) :
    ∃ cur, w.heap[b]? = some (.cells cur e (0, 0)) ∧ n ≤ c ∧ c ≤ maxLen ∧ cur.size = c * size ∧ cur.toList.take (n * size) = xs := by
  rcases h.2 with ⟨e', _⟩ | ⟨g, cap, cur, hv, hb, hg, r⟩
  · cases e'
  · injection hv with e1 _ e2
    injection e1 with e1
    injection e1 with e1
    subst e1 e2
    exact ⟨cur, hg, r⟩
def ints (l : List Int) : List Value := l.map fun n => .int .i64 n
theorem ints_length (l : List Int) : (ints l).length = l.length := by simp [ints]
def sortP (o : List Int) : List Int := o.mergeSort fun x y => decide (x ≤ y)
theorem sortP_length (o : List Int) : (sortP o).length = o.length := by simp [sortP]
theorem grow_block {w : World} {os : Array Obj} {k : Nat} (h : k < w.heap.size) : (Sort.grow w os).heap[k]? = w.heap[k]? := by
  simp only [Sort.grow]
  rw [Array.getElem?_append_left h]
theorem put_block {w : World} {b T : Nat} {cur : Array Value} {d : Array Int} (h : w.heap[b]? = some (.cells cur T (0, 0))) :
    (Sort.putRow (Value.int .i64) w b 0 d).heap[b]? = some (.cells (Sort.putCells (Value.int .i64) 0 d cur) T (0, 0)) := by
  simp only [Sort.putRow, Sort.mapBlock, Array.getElem?_modify, h]
  rfl
theorem sort_end {w w' : World} {g cap n : Nat} {o : List Int} {os : Array Obj} {A : Option Addr} (hA : A = some ⟨g, 0, none⟩) (hown : w.ownsRow 0 3 1 (.slice A o.length cap) o.length (ints o))
    (hw : w' = Sort.grow (Sort.putRow (Value.int .i64) (Sort.ahead w n) g 0 (sortP o).toArray) os) :
    w'.ownsRow 0 3 1 (.slice A o.length cap) o.length (ints (sortP o)) ∧ Keep (fun k => k = g) w w' := by
  subst hA hw
  obtain ⟨cur, hb, h1, h2, h3, h4⟩ := own_row hown
  have hbl := blk_lt hb
  have hb' := put_block (w := Sort.ahead w n) (d := (sortP o).toArray) hb
  have hsz : (Sort.putRow (Value.int .i64) (Sort.ahead w n) g 0 (sortP o).toArray).heap.size = w.heap.size := by simp [Sort.putRow, Sort.mapBlock, Sort.ahead]
  have hb2 := (grow_block (os := os) (by rw [hsz]; exact hbl)).trans hb'
  refine ⟨⟨by rw [ints_length, sortP_length]; simp, .inr ⟨g, cap, _, rfl, Nat.zero_le _, hb2, h1, h2, by simp [Sort.putCells, h3], ?_⟩⟩, ⟨rfl, rfl, rfl, by simp [Sort.grow, Sort.putRow, Sort.mapBlock, Sort.ahead], fun k hk hs => ?_⟩⟩
  · apply List.ext_getElem?
    intro i
    rw [List.getElem?_take, Array.getElem?_toList]
    by_cases hi : i < o.length * 1
    · rw [if_pos hi]
      have hi' : i < cur.size := by omega
      have hi2 : i < (sortP o).length := by rw [sortP_length]; omega
      simp only [Sort.putCells, Array.getElem?_mapIdx, Array.getElem?_eq_getElem hi', Option.map_some]
      rw [if_pos ⟨Nat.zero_le _, by simp; omega⟩]
      simp [ints, hi2]
    · rw [if_neg hi, List.getElem?_eq_none (by rw [ints_length, sortP_length]; omega)]
  · rw [grow_block (by rw [hsz]; exact hk)]
    simp only [Sort.putRow, Sort.mapBlock, Array.getElem?_modify, if_neg (fun e => hs (Eq.symm e)), Sort.ahead]
theorem sort_walk (A : Option Addr) (c : Nat) (o : List Int) (w : World) (hown : w.ownsRow 0 3 1 (.slice A o.length c) o.length (ints o)) (hn : o.length ≤ 1000000) :
    Calls Tryz.prog 33 #[.slice A o.length c] w fun e w' => e = .returned (.tuple #[]) ∧ w'.ownsRow 0 3 1 (.slice A o.length c) o.length (ints (sortP o)) ∧ Keep (fun k => A.map (·.block) = some k) w w' := by
  rcases hown.2 with ⟨e, h0⟩ | ⟨g, cap, cur, e, _, hg, h1, h2, h3, h4⟩
  · injection e with e1 e2 e3
    subst e1
    obtain rfl : o = [] := List.eq_nil_of_length_eq_zero h0
    refine (Tryz.slices_Sort_int_none none c w).mono ?_
    rintro e w' ⟨rfl, rfl⟩
    exact ⟨rfl, by rw [show sortP [] = [] by simp [sortP]]; exact hown, Keep.refl _ _⟩
  · injection e with e1 e2 e3
    subst e1 e3
    have hH : Sort.Holds (Value.int .i64) w g 0 o.toArray := by
      intro j hj
      have hj' : j < o.length := by simpa using hj
      have hc := hown.cells (g := g) rfl j (.int .i64 o[j]) (by simp [ints, hj'])
      rw [Addr.add_lit] at hc
      refine ⟨by rw [hc]; simp [hj'], ?_⟩
      simp [World.frozen?, hg]
    refine (Tryz.slices_Sort_int g 0 c o w hH (blk_lt hg) (by omega)).mono ?_
    rintro e w' ⟨rfl, n, os, hw⟩
    obtain ⟨r1, r2⟩ := sort_end rfl hown hw
    exact ⟨rfl, r1, r2.mono (fun k _ hk => by subst hk; rfl)⟩
/-- A list of numbers, sorted. -/
def sortN (l : List Nat) : List Nat := (sortP (l.map fun (n : Nat) => (n : Int))).map Int.toNat
theorem sortN_ints (l : List Nat) : ints (sortP (l.map fun (n : Nat) => (n : Int))) = nv (sortN l) := by
  unfold ints nv sortN
  rw [List.map_map]
  refine List.map_congr_left (fun z hz => ?_)
  have hz' := (List.mergeSort_perm (l.map fun (n : Nat) => (n : Int)) _).mem_iff.1 hz
  obtain ⟨n, _, rfl⟩ := List.mem_map.1 hz'
  rfl
theorem sortN_perm (l : List Nat) : (sortN l).Perm l := by
  unfold sortN sortP
  have h := (List.mergeSort_perm (l.map fun (n : Nat) => (n : Int)) (fun x y => decide (x ≤ y))).map Int.toNat
  rw [List.map_map] at h
  have e : l.map (Int.toNat ∘ fun (n : Nat) => (n : Int)) = l := by
    conv => rhs; rw [← List.map_id l]
    exact List.map_congr_left (fun n _ => rfl)
  rw [e] at h
  exact h
theorem sortN_rise (l : List Nat) : (sortN l).Pairwise (fun x y => x ≤ y) := by
  unfold sortN sortP
  rw [List.pairwise_map]
  exact (List.pairwise_mergeSort (le := fun (x y : Int) => decide (x ≤ y)) (fun a b c => by simp; omega) (fun a b => by simp; omega) _).imp (fun h => by
    have := of_decide_eq_true h
    omega)
theorem sortI_walk (A : Option Addr) (c N : Nat) (l : List Nat) (w : World) (h : NR N 3 1 w (.slice A l.length c) l.length (nv l)) (hl : l.length ≤ 1000000) :
    Calls Tryz.prog 33 #[.slice A l.length c] w fun e w' => e = .returned (.tuple #[]) ∧ NR N 3 1 w' (.slice A l.length c) l.length (nv (sortN l)) ∧ Keep (fun k => A.map (·.block) = some k) w w' := by
  have e : nv l = ints (l.map fun (n : Nat) => (n : Int)) := by unfold nv ints; rw [List.map_map]; rfl
  have hlm : (l.map fun (n : Nat) => (n : Int)).length = l.length := List.length_map ..
  have h1 := h.own
  rw [e] at h1
  have := sort_walk A c (l.map fun (n : Nat) => (n : Int)) w (by rw [hlm]; exact h1) (by rw [hlm]; exact hl)
  rw [hlm, sortN_ints] at this
  exact this.mono (fun r w' ⟨h1, h2, h3⟩ => ⟨h1, ⟨h2, h.fresh⟩, h3⟩)
theorem clipI_walk (A : Option Addr) (n c : Nat) (w : World) (h : n ≤ c) (hA : A = none → n = 0 ∧ c = 0) (hn : n ≤ 1000000000) : Calls Tryz.prog 34 #[.slice A n c] w fun e w' => e = .returned (.slice A n n) ∧ w' = w := by
  cases A with
  | none =>
    obtain ⟨h1, rfl⟩ := hA rfl
    rw [h1]
    clear h hA hn
    go_enter Tryz.func34, Tryz.ntmps34
    go_wp2
    go_ret
    exact ⟨rfl, rfl⟩
  | some ad =>
    have i0 : (0 : Int) ≤ (n : Int) := by omega
    have i1 : (n : Int) ≤ (c : Int) := by omega
    have hr : ∀ w, (Instr.slice 29 (.slice (some ad) n c) none (some (.int .i64 (n : Int))) (some (.int .i64 (n : Int)))).run Tryz.prog w = .ok (.slice (some ad) n n) w := by
      intro w
      simp [go_sem, i0, i1]
    go_enter Tryz.func34, Tryz.ntmps34
    go_wp2
    go_ret
    exact ⟨rfl, rfl⟩
/-! ### gather -/
def GaP (N : Nat) (a : Nat → Nat) (t : Nat) (l : List Nat) (A : Option Addr) (w : World) (e : Ending) (w' : World) : Prop := ∃ A' c', e = .returned (.tuple #[.slice A' (l ++ gl a t).length c', .int .i64 0]) ∧ NR N 3 1 w' (.slice A' (l ++ gl a t).length c') (l ++ gl a t).length (nv (l ++ gl a t)) ∧ Keep (fun j => A.map (·.block) = some j) w w' ∧ (A'.map (·.block) = A.map (·.block) ∨ ∃ j, A'.map (·.block) = some j ∧ w.heap.size ≤ j)
def GaC (w0 : World) (kf : Nat) (a : Nat → Nat) (t : Nat) : Prop := ∀ (l : List Nat) (A : Option Addr) (cc : Nat) (w : World), Below w0.heap.size w0 w → NR w0.heap.size 3 1 w (.slice A l.length cc) l.length (nv l) → l.length + (gl a t).length ≤ 10000 →
  Calls Tryz.prog 32 #[.pointer (some ⟨kf, 0, none⟩), .int .i64 (a t : Int), .int .i64 (dp t : Int), .slice A l.length cc] w (GaP w0.heap.size a t l A w)
theorem gather_none {w0 : World} {kf : Nat} {a : Nat → Nat} {t : Nat} (h0 : a t = 0) (hg : gl a t = []) : GaC w0 kf a t := by
  intro l A cc w hb hn _
  have e0 : ((a t : Int) == 0) = true := by rw [h0]; rfl
  have e0' : (a t : Int) = 0 := by rw [h0]; rfl
  have HF : Hid (GaP w0.heap.size a t l A w (.returned (.tuple #[.slice A l.length cc, .int .i64 0])) w) := Lib.hid ⟨A, cc, by rw [hg, List.append_nil], by rw [hg, List.append_nil]; exact hn, Keep.refl _ _, .inl rfl⟩
  obtain ⟨v, hv⟩ : ∃ v : Int, v = (a t : Int) := ⟨_, rfl⟩
  rw [← hv] at e0 e0' ⊢
  clear h0 hg hb hn hv
  go_enter Tryz.func32, Tryz.ntmps32
  go_wp2
  go_ret2
  exact HF.out
theorem gather_leaf {w0 : World} {kf : Nat} {a : Nat → Nat} {t : Nat} (hp : ¬ isP t) : GaC w0 kf a t := by
  by_cases h0 : a t = 0
  · exact gather_none h0 (by rw [gl_leaf a hp, if_pos h0])
  · intro l A cc w hb hn hl
    have hgl : gl a t = [a t] := by rw [gl_leaf a hp, if_neg h0]
    rw [hgl] at hl
    have hl : l.length + 1 ≤ 10000 := hl
    rw [dp_leaf hp]
    obtain ⟨v, hv⟩ : ∃ v : Nat, v = a t := ⟨_, rfl⟩
    have e0 : ((v : Int) == 0) = false := beq_eq_false_iff_ne.2 (by omega)
    have e0' : ¬ (v : Int) = 0 := by omega
    rw [← hv] at hgl ⊢
    have HN6 := Lib.hid (hn.below ((Below.refl _ w).alloc (Nat.le_refl _) (.cells #[.int .i64 (v : Int)] 3)))
    have HEND : Hid (∀ (v5 : Value) (W : World), W.ownsRow 0 3 1 v5 (l.length + 1) (nv l ++ [.int .i64 (v : Int)]) → Keep (fun k => (Value.slice A l.length cc).ownBlock = some k) (w.alloc (.cells #[.int .i64 (v : Int)] 3)) W → (v5.ownBlock = (Value.slice A l.length cc).ownBlock ∨ v5.ownBlock = some (w.alloc (.cells #[.int .i64 (v : Int)] 3)).heap.size) → GaP w0.heap.size a t l A w (.returned (.tuple #[v5, .int .i64 0])) W) := Lib.hid (fun v5 W g4 g5 g6 => by
      obtain ⟨A5, c5, rfl, _⟩ := Rd.of_own g4
      have hG := HN6.out.grown rfl (hb.alloc hb.size _) g4 g5 g6
      have hll : (l ++ [v]).length = l.length + 1 := by rw [List.length_append]; rfl
      refine ⟨A5, c5, by rw [hgl, hll], by
        rw [hgl, hll]
        have : nv (l ++ [v]) = nv l ++ [.int .i64 (v : Int)] := by unfold nv; rw [List.map_append]; rfl
        rw [this]
        exact hG.1, ?_, ?_⟩
      · exact Keep.trans (Keep.of_below (S := fun j => A.map (·.block) = some j) ((Below.refl w.heap.size w).alloc (Nat.le_refl _) _)) g5 (fun j _ e => by rw [ownBlock_slice] at e; exact e)
      · rw [ownBlock_slice, ownBlock_slice] at g6
        rcases g6 with g6 | g6
        · exact .inl g6
        · exact .inr ⟨_, g6, by rw [World.size_alloc]; omega⟩)
    clear hb hn hv h0 hgl
    go_enter Tryz.func32, Tryz.ntmps32
    go_wp2_with (at_builtin; go_must (refine wpList_app rfl eltI rfl rfl rfl (n := l.length) (m := 1) HN6.out.own (Sl.of_own (own_new w #[.int .i64 (v : Int)] 3 1 1 rfl (by decide))) (by simp [Value.oneCell']) (by omega) (by simp only [maxLen]; omega) ?_))
    intro v5 w5 g4 g5 g6 g7
    clear g7
    have HR := Lib.hid (HEND.out v5 w5 g4 g5 (g6.imp id (fun h => h.trans (by rw [World.size_alloc]))))
    clear g4 g5 g6
    go_wp2
    go_ret2
    exact HR.out
end Go.Proofs.YtehfoopefefpnaaGreat
/- Package space: gather of a pointer. -/
set_option linter.unusedSimpArgs false
set_option linter.unusedVariables false
namespace Go.Proofs.YtehfoopefefpnaaGreat
open Go.RowKit

attribute [local go_sem ↓] Go.wp_at_zero Go.wp_at_succ
def gk (a : Nat → Nat) (t i : Nat) : List Nat := (List.range i).flatMap fun i => gl a (kb t + i)
theorem gk_succ (a : Nat → Nat) (t i : Nat) : gk a t (i + 1) = gk a t i ++ gl a (kb t + i) := by
  unfold gk
  rw [List.range_succ, List.flatMap_append]
  simp
theorem gk_le (a : Nat → Nat) (t : Nat) {i j : Nat} (h : i ≤ j) : (gk a t i).length ≤ (gk a t j).length := by
  obtain ⟨d, rfl⟩ : ∃ d, j = i + d := ⟨j - i, by omega⟩
  induction d with
  | zero => exact Nat.le_refl _
  | succ d ih =>
    rw [← Nat.add_assoc, gk_succ, List.length_append]
    have := ih (by omega)
    omega
def GaI (w0 : World) (a : Nat → Nat) (t : Nat) (l : List Nat) (A : Option Addr) (g : Nat) (w : World) (v3 v11 v32 : Value) (W : World) : Prop := ∃ (i : Nat) (L : List Nat) (A' : Option Addr) (c' : Nat), i ≤ 8 ∧ v32 = .int .i64 (i : Int) ∧ v11 = .int .i64 0 ∧ L = l ++ a t :: gk a t i ∧ v3 = .slice A' L.length c' ∧ NR w0.heap.size 3 1 W (.slice A' L.length c') L.length (nv L) ∧ Below w0.heap.size w0 W ∧ Keep (fun j => A.map (·.block) = some j) w W ∧ (A'.map (·.block) = A.map (·.block) ∨ ∃ j, A'.map (·.block) = some j ∧ w.heap.size ≤ j) ∧ W.heap[g]? = some (.cells (nv (kids a (kb t))).toArray 3 (0, 0)) ∧ (∀ j, A'.map (·.block) = some j → j ≠ g)
set_option maxRecDepth 100000 in
set_option maxHeartbeats 8000000 in
theorem gather_node {B : Nat} {c : SWc} {V : Nat → List UInt8} {m : Nat → Bool} {xs : Nat → NoS} {U : List Nat} {w0 : World} {kf n : Nat} {x : NoS} {a : Nat → Nat} (h : SW B c V m xs U w0) (hf : FI c.p.k kf n x w0) (ht : TreeOk V m c.N x a) {t : Nat} (hp : isP t) (hkids : ∀ i, i < 8 → GaC w0 kf a (kb t + i)) : GaC w0 kf a t := by
  have h8 : t < 86 := by unfold isP at hp; omega
  by_cases h0 : a t = 0
  · exact gather_none h0 (gl_zero ht h8 h0)
  · intro l A cc w hb hn hl
    have hgl := gl_node a hp h0
    obtain ⟨r1, r2, r3⟩ := ht.rng t h8 h0
    have hdp := dp_node hp
    have hle := h.le
    have hgl : gl a t = a t :: gk a t 8 := hgl
    rw [hgl, List.length_cons] at hl
    obtain ⟨v, hv⟩ : ∃ v : Nat, v = a t := ⟨_, rfl⟩
    obtain ⟨d, hd⟩ : ∃ d : Nat, d = dp t := ⟨_, rfl⟩
    have hVt := ht.kid t hp h0
    rw [← hv] at r1 r2 hVt
    have HPO := Lib.hid (fun (W : World) (hW : Below w0.heap.size w0 W) => pointers_file (h.below hW) (hf.below hW) r1 r2 (ht.p8 hle.2 hp) hVt)
    have e0 : ((v : Int) == 0) = false := beq_eq_false_iff_ne.2 (by omega)
    have e0' : ¬ (v : Int) = 0 := by omega
    have d0 : ((d : Int) == 0) = false := beq_eq_false_iff_ne.2 (by omega)
    have d0' : ¬ (d : Int) = 0 := by omega
    have gd : IntKind.i64.wrap ((d : Int) - 1) = ((d - 1 : Nat) : Int) := by rw [IntWalk.i64_in _ (by omega)]; omega
    obtain ⟨d1, hd1⟩ : ∃ d1, d1 = d - 1 := ⟨_, rfl⟩
    rw [← hd1] at gd
    have HKS := Lib.hid (fun (i : Nat) (hi : i < 8) => (show dp (kb t + i) = d1 from by have := dp_kid hp hi; omega))
    have HKC := Lib.hid hkids
    have HB := Lib.hid hb
    have HNR := Lib.hid hn
    have HGL := Lib.hid hgl
    have HV := Lib.hid hv
    have HL := Lib.hid (show l.length + ((gk a t 8).length + 1) ≤ 10000 from hl)
    have hl1 : l.length + 1 ≤ 10000 := by omega
    rw [← hv, ← hd]
    have HN6 := Lib.hid (hn.below ((Below.refl _ w).alloc (Nat.le_refl _) (.cells #[.int .i64 (v : Int)] 3)))
    have HEND : Hid (∀ (v5 : Value) (W : World), W.ownsRow 0 3 1 v5 (l.length + 1) (nv l ++ [.int .i64 (v : Int)]) → Keep (fun k => (Value.slice A l.length cc).ownBlock = some k) (w.alloc (.cells #[.int .i64 (v : Int)] 3)) W → (v5.ownBlock = (Value.slice A l.length cc).ownBlock ∨ v5.ownBlock = some (w.alloc (.cells #[.int .i64 (v : Int)] 3)).heap.size) → ∃ A5 c5, v5 = .slice A5 (l ++ [v]).length c5 ∧ NR w0.heap.size 3 1 W (.slice A5 (l ++ [v]).length c5) (l ++ [v]).length (nv (l ++ [v])) ∧ Below w0.heap.size w0 W ∧ Keep (fun j => A.map (·.block) = some j) w W ∧ (A5.map (·.block) = A.map (·.block) ∨ ∃ j, A5.map (·.block) = some j ∧ w.heap.size ≤ j)) := Lib.hid (fun v5 W g4 g5 g6 => by
      obtain ⟨A5, c5, rfl, _⟩ := Rd.of_own g4
      have hG := HN6.out.grown rfl (hb.alloc hb.size _) g4 g5 g6
      have hll : (l ++ [v]).length = l.length + 1 := by rw [List.length_append]; rfl
      refine ⟨A5, c5, by rw [hll], by
        rw [hll]
        have : nv (l ++ [v]) = nv l ++ [.int .i64 (v : Int)] := by unfold nv; rw [List.map_append]; rfl
        rw [this]
        exact hG.1, hG.2, ?_, ?_⟩
      · exact Keep.trans (Keep.of_below (S := fun j => A.map (·.block) = some j) ((Below.refl w.heap.size w).alloc (Nat.le_refl _) _)) g5 (fun j _ e => by rw [ownBlock_slice] at e; exact e)
      · rw [ownBlock_slice, ownBlock_slice] at g6
        rcases g6 with g6 | g6
        · exact .inl g6
        · exact .inr ⟨_, g6, by rw [World.size_alloc]; omega⟩)
    clear hb hn hl hgl r1 r2 r3 hdp hle hVt hv hd hd1 h0 hp hkids h8 h hf ht
    go_enter Tryz.func32, Tryz.ntmps32
    go_wp2_with (at_builtin; go_must (refine wpList_app rfl eltI rfl rfl rfl (n := l.length) (m := 1) HN6.out.own (Sl.of_own (own_new w #[.int .i64 (v : Int)] 3 1 1 rfl (by decide))) (by simp [Value.oneCell']) (by omega) (by simp only [maxLen]; omega) ?_))
    intro v5 w5 g4 g5 g6 g7
    clear g7
    obtain ⟨A5, c5, rfl, hnr5, hb5, hk5, ho5⟩ := HEND.out v5 w5 g4 g5 (g6.imp id (fun h => h.trans (by rw [World.size_alloc])))
    obtain ⟨z5, hz5⟩ : ∃ z, z = (l ++ [v]).length := ⟨_, rfl⟩
    have HZ5 := Lib.hid hz5
    have HPO5 := Lib.hid (HPO.out w5 hb5)
    have HNR5 := Lib.hid hnr5
    have HB5 := Lib.hid hb5
    have HK5 := Lib.hid hk5
    have HO5 := Lib.hid ho5
    rw [← hz5]
    clear g4 g5 g6 hnr5 hb5 hk5 ho5 hz5
    go_wp2_with fail
    refine HPO5.out.mono ?_
    rintro r w6 ⟨g, rfl, hnp, hb6⟩
    have HI : Hid (GaI w0 a t l A g w (.slice A5 z5 c5) (.int .i64 0) (.int .i64 0) w6) := Lib.hid ⟨0, l ++ [v], A5, c5, Nat.zero_le _, rfl, rfl, by rw [HV.out]; rfl, by rw [HZ5.out], HNR5.out.below hb6, bstep HB5.out hb6, HK5.out.trans (Keep.of_below (S := fun _ => False) hb6) (fun _ _ e => e.elim), HO5.out, hnp.2, fun j hj => by
      obtain ⟨cg, hcg⟩ := own_blk HNR5.out.own (k := j) (by rw [ownBlock_slice]; exact hj)
      have h1 := blk_lt hcg
      have h2 := hnp.1
      omega⟩
    have HG6 : Hid (w.heap.size ≤ g) := Lib.hid (Nat.le_trans (Keep.size HK5.out) hnp.1)
    clear hnp hb6
    go_wp2_with fail
    go_loopw [3, 11, 32] (fun v3 v11 v32 wr => GaI w0 a t l A g w v3 v11 v32 wr) (fun _ _ v _ => 8 - (intOf v).toNat)
    case atStart => exact HI.out
    case round =>
      obtain ⟨i, L, A', c', hi, rfl, rfl, hL, rfl, hnr, hbw, hkp, hown, hrow, hAg⟩ := hrel
      by_cases hlt : i < 8
      · have ga : (i : Int) < 8 := by omega
        have gj0 : (0 : Int) ≤ (i : Int) := by omega
        have gc : IntKind.i64.wrap ((i : Int) + 1) = (i : Int) + 1 := IntWalk.i64_in _ (by omega)
        obtain ⟨u, hu⟩ : ∃ u : Nat, u = a (kb t + i) := ⟨_, rfl⟩
        have hcg : wr.cell? ⟨g, i, none⟩ = some (.int .i64 (u : Int)) := by
          rw [blk_cells hrow, List.getElem?_toArray]
          unfold nv
          rw [List.getElem?_map, kids_get a _ hlt, hu]
          rfl
        have hgs := gk_succ a t i
        have hlen : L.length + (gl a (kb t + i)).length ≤ 10000 := by
          have h1 := gk_le a t (show i + 1 ≤ 8 by omega)
          have h2 := HL.out
          rw [hgs, List.length_append] at h1
          rw [hL, List.length_append, List.length_cons]
          omega
        have hkid := HKC.out i hlt L A' c' wr hbw hnr hlen
        rw [HKS.out i hlt, ← hu] at hkid
        have HKID := Lib.hid hkid
        have HLT := Lib.hid hlt
        have HROW := Lib.hid hrow
        have HBW := Lib.hid hbw
        have HKP := Lib.hid hkp
        have HOWN := Lib.hid hown
        have HAG := Lib.hid hAg
        have HFR : Hid (∀ j, A'.map (·.block) = some j → w0.heap.size ≤ j) := Lib.hid (fun j hj => hnr.fresh j (by rw [ownBlock_slice]; exact hj))
        have hLn : L ++ gl a (kb t + i) = l ++ a t :: gk a t (i + 1) := by
          rw [hL, hgs, List.append_assoc]
          rfl
        have HLN := Lib.hid hLn
        have HGLT : Hid (g < wr.heap.size) := Lib.hid (blk_lt hrow)
        obtain ⟨z, hz⟩ : ∃ z, z = L.length := ⟨_, rfl⟩
        rw [← hz] at HKID ⊢
        clear hi hL hnr hbw hkp hown hrow hAg hkid hlen hgs hu hlt hLn hz
        go_wp2_with fail
        refine HKID.out.mono ?_
        rintro r w7 ⟨A7, c7, rfl, hnr7, hk7, ho7⟩
        have HR : Hid (GaI w0 a t l A g w (.slice A7 (L ++ gl a (kb t + i)).length c7) (.int .i64 0) (.int .i64 ((i : Int) + 1)) w7) := Lib.hid ⟨i + 1, L ++ gl a (kb t + i), A7, c7, HLT.out, by rw [Int.natCast_add]; rfl, rfl, HLN.out, rfl, hnr7, HBW.out.trans (hk7.below (fun j e => HFR.out j e) HBW.out.size), HKP.out.trans hk7 (fun j hj e => by
          rcases HOWN.out with h | ⟨j', h, h'⟩
          · rw [← h]; exact e
          · rw [h] at e
            have := Option.some.inj e
            omega), by
          rcases ho7 with h | ⟨j, h, h'⟩
          · rw [h]; exact HOWN.out
          · exact .inr ⟨j, h, Nat.le_trans (Keep.size HKP.out) h'⟩, hk7.blk HROW.out (fun e => HAG.out g e rfl), fun j hj => by
          rcases ho7 with h | ⟨j', h, h'⟩
          · exact HAG.out j (by rw [← h]; exact hj)
          · rw [h] at hj
            have := Option.some.inj hj
            have := HGLT.out
            omega⟩
        obtain ⟨z7, hz7⟩ : ∃ z, z = (L ++ gl a (kb t + i)).length := ⟨_, rfl⟩
        rw [← hz7] at HR ⊢
        clear hnr7 hk7 ho7 hz7
        go_wp2_with fail
        go_roundw
        case rel => exact HR.out
        case measure => simp only [intOf]; have := HLT.out; omega
      · obtain rfl : i = 8 := by omega
        have ga : ¬ ((8 : Nat) : Int) < 8 := by omega
        have hLg : L = l ++ gl a t := by rw [hL, HGL.out]
        have HF : Hid (GaP w0.heap.size a t l A w (.returned (.tuple #[.slice A' L.length c', .int .i64 0])) wr) := Lib.hid ⟨A', c', by rw [← hLg], by rw [← hLg]; exact hnr, hkp, hown⟩
        clear hi hL hnr hbw hkp hown hrow hAg hlt hLg
        go_wp2
        go_ret2
        exact HF.out
theorem gather_all {B : Nat} {c : SWc} {V : Nat → List UInt8} {m : Nat → Bool} {xs : Nat → NoS} {U : List Nat} {w0 : World} {kf n : Nat} {x : NoS} {a : Nat → Nat} (h : SW B c V m xs U w0) (hf : FI c.p.k kf n x w0) (ht : TreeOk V m c.N x a) (t : Nat) : GaC w0 kf a t := by
  have leaf : ∀ t, ¬ isP t → GaC w0 kf a t := fun t hp => gather_leaf hp
  have one : ∀ q, isP q → q ≠ 5 → GaC w0 kf a q := fun q hq h5 => gather_node h hf ht hq (fun i hi => leaf _ (by
    rcases isP_cases hq with ⟨rfl, e⟩ | ⟨rfl, e⟩ | ⟨h1, h2, e⟩
    · rw [e]; unfold isP; omega
    · exact absurd rfl h5
    · rw [e]; unfold isP; omega))
  by_cases hp : isP t
  · by_cases h5 : t = 5
    · subst h5
      exact gather_node h hf ht hp (fun i hi => one _ (show isP (14 + i) by unfold isP; omega) (show 14 + i ≠ 5 by omega))
    · exact one t hp h5
  · exact leaf t hp
end Go.Proofs.YtehfoopefefpnaaGreat
/- Package space: Sectors. -/
set_option linter.unusedSimpArgs false
set_option linter.unusedVariables false
namespace Go.Proofs.YtehfoopefefpnaaGreat
open Go.RowKit

attribute [local go_sem ↓] Go.wp_at_zero Go.wp_at_succ
def g4 (a : Nat → Nat) (i : Nat) : List Nat := (List.range i).flatMap (gl a)
theorem g4_succ (a : Nat → Nat) (i : Nat) : g4 a (i + 1) = g4 a i ++ gl a i := by
  unfold g4
  rw [List.range_succ, List.flatMap_append]
  simp
theorem g4_le (a : Nat → Nat) {i j : Nat} (h : i ≤ j) : (g4 a i).length ≤ (g4 a j).length := by
  obtain ⟨d, rfl⟩ : ∃ d, j = i + d := ⟨j - i, by omega⟩
  induction d with
  | zero => exact Nat.le_refl _
  | succ d ih =>
    rw [← Nat.add_assoc, g4_succ, List.length_append]
    have := ih (by omega)
    omega
theorem g4_all (a : Nat → Nat) : (g4 a 4 ++ gl a 4) ++ gl a 5 = allL a := by
  rw [g4_succ, g4_succ, g4_succ, g4_succ]
  rfl
def ScP (a : Nat → Nat) (w : World) (e : Ending) (w' : World) : Prop := ∃ A, e = .returned (.tuple #[.slice A (allL a).length (allL a).length, .int .i64 0]) ∧ Sl w' 1 (.slice A (allL a).length (allL a).length) (allL a).length (nv (sortN (allL a))) ∧ (∀ j, A.map (·.block) = some j → w.heap.size ≤ j) ∧ Below w.heap.size w w'
def ScI (a : Nat → Nat) (w1 : World) (v8 v25 : Value) (W : World) : Prop := ∃ (i : Nat) (L : List Nat) (A : Option Addr) (c : Nat), i ≤ 4 ∧ v25 = .int .i64 (i : Int) ∧ L = g4 a i ∧ v8 = .slice A L.length c ∧ NR w1.heap.size 3 1 W (.slice A L.length c) L.length (nv L) ∧ Below w1.heap.size w1 W
/-- Append keeps what is below. -/
theorem ga_below {w0 w w' : World} {A : Option Addr} {c n : Nat} {xs : List Value} (hb : Below w0.heap.size w0 w) (hn : NR w0.heap.size 3 1 w (.slice A n c) n xs) (hk : Keep (fun j => A.map (·.block) = some j) w w') : Below w0.heap.size w0 w' :=
  hb.trans (hk.below (fun j e => hn.fresh j (by rw [ownBlock_slice]; exact e)) hb.size)
set_option maxRecDepth 100000 in
set_option maxHeartbeats 8000000 in
theorem sectors_walk_file {B : Nat} {c : SWc} {V : Nat → List UInt8} {m : Nat → Bool} {xs : Nat → NoS} {U : List Nat} {w : World} {n : Nat} {a : Nat → Nat} (h : SW B c V m xs U w) (hn : n < 32) (hk : (xs n).kind ≠ 0) (ht : TreeOk V m c.N (xs n) a) :
    Calls Tryz.prog 11 #[.pointer (some ⟨c.p.k, 0, none⟩), .int .i64 (n : Int)] w (ScP a w) := by
  have HOP := Lib.hid (open_walk h hn hk)
  have HH := Lib.hid h
  have HT := Lib.hid ht
  clear h hn hk ht
  go_enter Tryz.func11, Tryz.ntmps11
  go_wp2_with fail
  refine HOP.out.mono ?_
  rintro r w1 ⟨kf, rfl, hfi1, hkf, hb1⟩
  have HGA := Lib.hid (gather_all (HH.out.below hb1) hfi1 HT.out)
  have hfc : ∀ i, i < 6 → w1.cell? ⟨kf, 7 + i, none⟩ = some (.int .i64 (a i : Int)) := fun i hi => by
    rw [blk_cells hfi1, filC_ptr _ _ _ hi, HT.out.top i hi]
  obtain ⟨a0, h0⟩ : ∃ z : Nat, z = a 0 := ⟨_, rfl⟩
  obtain ⟨a1, h1⟩ : ∃ z : Nat, z = a 1 := ⟨_, rfl⟩
  obtain ⟨a2, h2⟩ : ∃ z : Nat, z = a 2 := ⟨_, rfl⟩
  obtain ⟨a3, h3⟩ : ∃ z : Nat, z = a 3 := ⟨_, rfl⟩
  obtain ⟨a4, h4⟩ : ∃ z : Nat, z = a 4 := ⟨_, rfl⟩
  obtain ⟨a5, h5⟩ : ∃ z : Nat, z = a 5 := ⟨_, rfl⟩
  have c0 : w1.cell? ⟨kf, 7, none⟩ = some (.int .i64 (a0 : Int)) := by rw [h0]; exact hfc 0 (by decide)
  have c1 : w1.cell? ⟨kf, 8, none⟩ = some (.int .i64 (a1 : Int)) := by rw [h1]; exact hfc 1 (by decide)
  have c2 : w1.cell? ⟨kf, 9, none⟩ = some (.int .i64 (a2 : Int)) := by rw [h2]; exact hfc 2 (by decide)
  have c3 : w1.cell? ⟨kf, 10, none⟩ = some (.int .i64 (a3 : Int)) := by rw [h3]; exact hfc 3 (by decide)
  have HC4 : Hid (w1.cell? ⟨kf, 11, none⟩ = some (.int .i64 (a4 : Int))) := Lib.hid (by rw [h4]; exact hfc 4 (by decide))
  have HC5 : Hid (w1.cell? ⟨kf, 12, none⟩ = some (.int .i64 (a5 : Int))) := Lib.hid (by rw [h5]; exact hfc 5 (by decide))
  have HB1 := Lib.hid hb1
  have HAA := Lib.hid (show a0 = a 0 ∧ a1 = a 1 ∧ a2 = a 2 ∧ a3 = a 3 ∧ a4 = a 4 ∧ a5 = a 5 from ⟨h0, h1, h2, h3, h4, h5⟩)
  have HLN : Hid ((allL a).length ≤ 86) := Lib.hid (allL_len a)
  have HI : Hid (ScI a w1 (.slice none 0 0) (.int .i64 0) w1) := Lib.hid ⟨0, [], none, 0, Nat.zero_le _, rfl, rfl, rfl, NR.nil _ _ _ _, Below.refl _ _⟩
  clear hfi1 hkf hb1 hfc h0 h1 h2 h3 h4 h5
  go_wp2_with fail
  go_loopw [8, 25] (fun v8 v25 wr => ScI a w1 v8 v25 wr) (fun _ v _ => 4 - (intOf v).toNat)
  case atStart => exact HI.out
  case round =>
    obtain ⟨i, L, A, cc, hi, rfl, hL, rfl, hnr, hbw⟩ := hrel
    by_cases hlt : i < 4
    · have hgs := g4_succ a i
      have hlen : L.length + (gl a i).length ≤ 10000 := by
        have h1 := HLN.out
        rw [← g4_all] at h1
        have h2 : (g4 a (i + 1)).length ≤ (g4 a 4).length := g4_le a (by omega)
        rw [hgs, List.length_append] at h2
        rw [List.length_append, List.length_append] at h1
        rw [hL]
        omega
      have hga := HGA.out i L A cc wr hbw hnr hlen
      have hdp : dp i = 0 := dp_leaf (by unfold isP; omega)
      rw [hdp] at hga
      have HGI := Lib.hid hga
      have HNX : Hid (∀ W, GaP w1.heap.size a i L A wr (.returned (.tuple #[.slice none 0 0, .int .i64 0])) W → True) := Lib.hid (fun _ _ => trivial)
      have HEN : Hid (∀ A7 c7 W, NR w1.heap.size 3 1 W (.slice A7 (L ++ gl a i).length c7) (L ++ gl a i).length (nv (L ++ gl a i)) → Keep (fun j => A.map (·.block) = some j) wr W → ScI a w1 (.slice A7 (L ++ gl a i).length c7) (.int .i64 ((i : Int) + 1)) W) := Lib.hid (fun A7 c7 W h1 h2 => ⟨i + 1, L ++ gl a i, A7, c7, hlt, by rw [Int.natCast_add]; rfl, by rw [hgs, hL], rfl, h1, ga_below hbw hnr h2⟩)
      obtain ⟨y, hy⟩ : ∃ y, y = L.length := ⟨_, rfl⟩
      obtain ⟨y2, hy2⟩ : ∃ y, y = (L ++ gl a i).length := ⟨_, rfl⟩
      have HGI' : Hid (Calls Tryz.prog 32 #[.pointer (some ⟨kf, 0, none⟩), .int .i64 (a i : Int), .int .i64 0, .slice A y cc] wr fun e W => ∃ A7 c7, e = .returned (.tuple #[.slice A7 y2 c7, .int .i64 0]) ∧ ScI a w1 (.slice A7 y2 c7) (.int .i64 ((i : Int) + 1)) W) := Lib.hid (by
        rw [hy, hy2]
        exact HGI.out.mono (fun e W ⟨A7, c7, h1, h2, h3, _⟩ => ⟨A7, c7, h1, HEN.out A7 c7 W h2 h3⟩))
      have hAA := HAA.out
      obtain ⟨v, hv⟩ : ∃ v, v = a i := ⟨_, rfl⟩
      have hix : ∀ W : World, (Instr.index 67 (.agg #[.int .i64 (a0 : Int), .int .i64 (a1 : Int), .int .i64 (a2 : Int), .int .i64 (a3 : Int)]) (.int .i64 (i : Int))).run Tryz.prog W = .ok (.int .i64 (v : Int)) W := fun W => by
        rcases (by omega : i = 0 ∨ i = 1 ∨ i = 2 ∨ i = 3) with rfl | rfl | rfl | rfl
        · rw [hv, ← hAA.1]; kernel_rfl
        · rw [hv, ← hAA.2.1]; kernel_rfl
        · rw [hv, ← hAA.2.2.1]; kernel_rfl
        · rw [hv, ← hAA.2.2.2.1]; kernel_rfl
      rw [← hv] at HGI'
      rw [← hy]
      have ga : (i : Int) < 4 := by omega
      have gj0 : (0 : Int) ≤ (i : Int) := by omega
      have gc : IntKind.i64.wrap ((i : Int) + 1) = (i : Int) + 1 := IntWalk.i64_in _ (by omega)
      have HLT := Lib.hid hlt
      clear hi hL hnr hbw hgs hlen hga hdp HGI HEN HNX hy hy2 hAA hv hlt
      go_wp2_with fail
      refine HGI'.out.mono ?_
      rintro r w7 ⟨A7, c7, rfl, hsc⟩
      have HSC := Lib.hid hsc
      clear hsc
      go_wp2_with fail
      go_roundw
      case rel => exact HSC.out
      case measure => simp only [intOf]; have := HLT.out; omega
    · obtain rfl : i = 4 := by omega
      have ga : ¬ ((4 : Nat) : Int) < 4 := by omega
      have hAA := HAA.out
      have hlall := HLN.out
      rw [← g4_all, ← hL, List.length_append, List.length_append] at hlall
      have c4 := (Keep.of_below (S := fun _ => False) hbw).cell HC4.out id
      have hga := HGA.out 4 L A cc wr hbw hnr (by omega)
      rw [show dp 4 = 1 from rfl, ← hAA.2.2.2.2.1] at hga
      have HGI := Lib.hid hga
      have HNR := Lib.hid hnr
      have HBW := Lib.hid hbw
      have HL := Lib.hid hL
      obtain ⟨y, hy⟩ : ∃ y, y = L.length := ⟨_, rfl⟩
      rw [← hy] at HGI ⊢
      clear hi hL hnr hbw hga hlt hAA hlall hy
      go_wp2_with fail
      refine HGI.out.mono ?_
      rintro r w7 ⟨A7, c7, rfl, hnr7, hk7, _⟩
      have hb7 := ga_below HBW.out HNR.out hk7
      have c5 := (Keep.of_below (S := fun _ => False) hb7).cell HC5.out id
      have hlall := HLN.out
      rw [← g4_all, ← HL.out, List.length_append] at hlall
      have hga := HGA.out 5 _ A7 c7 w7 hb7 hnr7 (by omega)
      rw [show dp 5 = 2 from rfl, ← HAA.out.2.2.2.2.2] at hga
      have HGI7 := Lib.hid hga
      have HNR7 := Lib.hid hnr7
      have HB7 := Lib.hid hb7
      obtain ⟨y7, hy7⟩ : ∃ y, y = (L ++ gl a 4).length := ⟨_, rfl⟩
      rw [← hy7] at HGI7 ⊢
      clear hnr7 hk7 hb7 hlall hga hy7 c4
      go_wp2_with fail
      refine HGI7.out.mono ?_
      rintro r w8 ⟨A8, c8, rfl, hnr8, hk8, _⟩
      rw [HL.out, g4_all] at hnr8 ⊢
      have hb8 := ga_below HB7.out HNR7.out hk8
      have HNR8 := Lib.hid hnr8
      have HB8 := Lib.hid hb8
      have HST := Lib.hid (sortI_walk A8 c8 w1.heap.size (allL a) w8 hnr8 (by have := HLN.out; omega))
      obtain ⟨y8, hy8⟩ : ∃ y, y = (allL a).length := ⟨_, rfl⟩
      have HY8 := Lib.hid hy8
      rw [← hy8] at HST ⊢
      clear hnr8 hk8 hb8 c5 hy8
      go_wp2_with fail
      refine HST.out.mono ?_
      rintro r w9 ⟨rfl, hnr9, hk9⟩
      obtain ⟨A9, c9, e9, _, hz9, hc9, _⟩ := Rd.of_own hnr9.own
      injection e9 with e1 _ e3
      subst e1 e3
      have HCL := Lib.hid (clipI_walk A8 y8 c8 w9 hc9 hz9 (by have := HLN.out; have := HY8.out; omega))
      have HF : Hid (ScP a w (.returned (.tuple #[.slice A8 y8 y8, .int .i64 0])) w9) := Lib.hid (by
        have hb9 := ga_below HB8.out HNR8.out hk9
        have hsl := Sl.of_own hnr9.own
        rw [HY8.out] at hsl ⊢
        obtain ⟨A7, c7, e7, hr7, hz7, _, hx7⟩ := hsl
        injection e7 with e7 _ _
        subst e7
        exact ⟨A8, rfl, ⟨A8, _, rfl, hr7, fun e => ⟨(hz7 e).1, (hz7 e).1⟩, Nat.le_refl _, hx7⟩, fun j hj => Nat.le_trans HB1.out.size (hnr9.fresh j (by rw [ownBlock_slice]; exact hj)), bstep HB1.out hb9⟩)
      clear hnr9 hk9 hz9 hc9
      go_wp2_with fail
      refine HCL.out.mono ?_
      rintro r w10 ⟨rfl, hw10⟩
      rw [hw10]
      clear hw10
      go_wp2
      go_ret2
      exact HF.out
end Go.Proofs.YtehfoopefefpnaaGreat
/- Package store at a whole: New, Free, Commit; the law's begin. -/
set_option linter.unusedSimpArgs false
set_option linter.unusedVariables false
namespace Go.Proofs.YtehfoopefefpnaaGreat
open Go.RowKit

attribute [local go_sem ↓] Go.wp_at_zero Go.wp_at_succ
/-- How many marks are set. -/
def cntM (m : Nat → Bool) (a k : Nat) : Nat := ((List.range k).filter fun i => m (a + i)).length
theorem cntM_succ (m : Nat → Bool) (a k : Nat) : cntM m a (k + 1) = cntM m a k + if m (a + k) = true then 1 else 0 := by
  unfold cntM
  rw [List.range_succ, List.filter_append, List.length_append]
  congr 1
  by_cases h : m (a + k) = true
  · rw [if_pos h, List.filter_cons_of_pos (by exact h)]; rfl
  · rw [if_neg h, List.filter_cons_of_neg (by exact h)]; rfl
theorem cntM_eq {M : List UInt8} {m : Nat → Bool} {a : Nat} : ∀ {k : Nat}, (∀ i, a ≤ i → i < a + k → onP M i = m i) → countP M a k = cntM m a k
  | 0, _ => rfl
  | k + 1, h => by
    rw [countP_snoc, cntM_succ, cntM_eq (fun i h1 h2 => h i h1 (by omega)), h (a + k) (by omega) (by omega)]
theorem cntM_le (m : Nat → Bool) (a k : Nat) : cntM m a k ≤ k := by
  unfold cntM
  exact Nat.le_trans (List.length_filter_le _ _) (by rw [List.length_range]; exact Nat.le_refl _)
theorem cntM_congr {m m' : Nat → Bool} {a : Nat} : ∀ {k : Nat}, (∀ i, a ≤ i → i < a + k → m' i = m i) → cntM m' a k = cntM m a k
  | 0, _ => rfl
  | k + 1, h => by
    rw [cntM_succ, cntM_succ, cntM_congr (fun i h1 h2 => h i h1 (by omega)), h (a + k) (by omega) (by omega)]
theorem wfree {B : Nat} {c : SWc} {V : Nat → List UInt8} {m : Nat → Bool} {xs : Nat → NoS} {U : List Nat} {w : World} (h : SW B c V m xs U w) :
    Calls Tryz.prog 17 #[.pointer (some ⟨c.p.k, 0, none⟩)] w fun e w' => e = .returned (.int .i64 ((c.N - 43 - cntM m 43 (c.N - 43) : Nat) : Int)) ∧ Below w.heap.size w w' := by
  obtain ⟨s, hst, hs, e1, e2⟩ := h
  obtain ⟨M, hk, hM, hm⟩ := hs.kn
  have hle := hs.le
  refine (sfree_walk B c.p s w hst hs.ok M hk.marks).mono fun e w' q => ?_
  obtain ⟨rfl, hb⟩ := q
  refine ⟨?_, hb⟩
  rw [hs.sec, cntM_eq (m := m) (fun i h1 h2 => hm i h1 (by omega))]
  have := cntM_le m 43 (c.N - 43)
  congr 2
  omega
def SWc.nw (c : SWc) : SWc := ⟨c.p, c.d, nwSup c.sup, c.N⟩
theorem wnew {B : Nat} {c : SWc} {V : Nat → List UInt8} {m : Nat → Bool} {xs : Nat → NoS} {U : List Nat} {w : World} (h : SW B c V m xs U w) (hU : U.length ≤ 22) (h0 : 0 ∈ U) {k : Nat} (hk1 : 1 ≤ k) (hk : k < 32) (h35 : 35 + k / 4 ∈ U) (hne : ∀ n, 1 ≤ n → n < k → (xs n).kind ≠ 0) (hz : (xs k).kind = 0) (hg : c.sup.gens < 1073741824) (kind : Nat) (hkd : kind = 1 ∨ kind = 2) :
    Calls Tryz.prog 15 #[.pointer (some ⟨c.p.k, 0, none⟩), .int .i64 (kind : Int)] w fun e w' => e = .returned (.tuple #[.int .i64 (k : Int), .int .i64 0]) ∧ SW B c.nw V m (updF xs k (nwNode kind c.sup.gens (xs k))) U w' ∧ Keep (fun j => j = c.p.b ∨ j = c.p.k) w w' := by
  obtain ⟨s, hst, hs, e1, e2⟩ := h
  obtain ⟨M, hkn, hM, hm⟩ := hs.kn
  obtain ⟨d, hd, _⟩ := hkn.nodes k hk
  have hr := hs.roomLen
  have hg' : s.sup.gens < 1073741824 := by rw [e2]; exact hg
  refine (snew_walk B c.p s w hst hs.ok k hk1 hk xs (fun n _ h2 => hkn.nodes n (by omega)) hne hz hkn.sup hg' (by omega) kind hkd d hd).mono fun e w' q => ?_
  obtain ⟨A, cc, A', c', rfl, hst', hk'⟩ := q
  have k1 := hkn.super (sup := nwSup s.sup) (A := A) (c := cc) rfl ⟨hkn.sup.1, hkn.sup.2.1, hkn.sup.2.2.1, by show s.sup.gens + 1 ≤ _; omega⟩ (.inr (by omega))
  have k2 := hkn.new hk hkd hg' hd (by omega) (xs k) A cc A' c'
  refine ⟨rfl, ⟨_, hst', ⟨⟨M, ?_, hM, hm⟩, hs.sec, fun i hi hiN => ?_, ?_⟩, e1, ?_⟩, hk'⟩
  · rw [← e2]; exact k2
  · rw [new_view hkn.ok k kind (xs k) d A cc A' c' k1.ok hi hk]
    exact hs.view i hi hiN
  · exact put_touch (s := supSt (putSt s ⟨0, A, cc, superE (nwSup s.sup)⟩) (nwSup s.sup)) (U := U) (put_touch (s := s) hs.touch h0) h35
  · show nwSup s.sup = nwSup c.sup
    rw [e2]
theorem wcommit {B : Nat} {c : SWc} {V : Nat → List UInt8} {m : Nat → Bool} {xs : Nat → NoS} {U : List Nat} {w : World} (h : SW B c V m xs U w) :
    Calls Tryz.prog 16 #[.pointer (some ⟨c.p.k, 0, none⟩)] w fun e w' => ∃ d', e = .returned (.int .i64 0) ∧ SW B ⟨c.p, d', c.sup, c.N⟩ V m xs [] w' ∧ Keep (fun j => j = c.p.kd ∨ j = c.p.g ∨ j = c.p.b ∨ w.heap.size ≤ j) w w' := by
  obtain ⟨s, hst, hs, e1, e2⟩ := h
  obtain ⟨M, hkn, hM, hm⟩ := hs.kn
  refine (scommit_walk B c.p s w hst hs.ok).mono fun e w' q => ?_
  obtain ⟨rfl, hst', hk'⟩ := q
  refine ⟨(comSt s).d, rfl, ⟨comSt s, hst', ⟨⟨M, hkn.com, hM, hm⟩, hs.sec, fun i hi hiN => ?_, fun e he => ?_⟩, rfl, e2⟩, hk'⟩
  · rw [view_com hkn.ok (.inr (by omega))]
    exact hs.view i hi hiN
  · cases he
/-! ### begin -/
theorem dr_some {B k : Nat} {s : DrS} {w : World} {A : Option Addr} {c : Nat} {L : Option Addr} {lc : Nat} (h : DR B k s w A c L lc) (hn : 0 < s.sure.length) : ∃ g, A = some ⟨g, 0, none⟩ := by
  obtain ⟨g, cap, cur, e, _⟩ := own_form h.sure hn
  injection e with e _ _
  exact ⟨g, e⟩
def m43 : Nat → Bool := fun i => decide (i < 43)
def v00 : Nat → List UInt8 := fun _ => zero128
def BgS (n : Nat) (w : World) (r : Ending) (w' : World) : Prop := ∃ c : SWc, r = .returned (.pointer (some ⟨c.p.k, 0, none⟩)) ∧ SW w.heap.size c v00 m43 freshX [] w' ∧ c.N = n ∧ c.sup = ⟨n, 1, 0⟩ ∧ Below w.heap.size w w'
set_option maxHeartbeats 2000000 in
theorem begin14_walk (n : Nat) (h1 : 64 ≤ n) (h2 : n ≤ 1024) (w : World) :
    Calls Tryz.prog 8 #[.int .i64 (n : Int)] w (BgS n w) := by
  have HN := Lib.hid (dnew_walk n h1 h2 w)
  have H1 := Lib.hid h1
  have H2 := Lib.hid h2
  clear h1 h2
  go_enter Tryz.func8, Tryz.ntmps8
  go_wp2_with fail
  refine HN.out.mono ?_
  rintro r' w1 ⟨k, A, rfl, hd1, hb1⟩
  have hl : (newS n).sure.length = n := List.length_replicate ..
  obtain ⟨g, hg⟩ := dr_some hd1 (by rw [hl]; have := H1.out; omega)
  subst hg
  have hm := make_walk _ k _ w1 g n hd1 (newS_on n H2.out) (by rw [hl]; exact H1.out)
  unfold MkP at hm
  rw [hl] at hm
  have HM := Lib.hid hm
  have HB1 := Lib.hid hb1
  have HG : Hid (w.heap.size ≤ k ∧ w.heap.size ≤ g) := Lib.hid ⟨hd1.newk, hd1.newA g rfl⟩
  clear hm hb1 hd1 hl
  go_wp2_with fail
  refine HM.out.mono ?_
  rintro r' w2 ⟨M, hM, rfl, hd2, hk2⟩
  have hB2 : Below w.heap.size w w2 := HB1.out.trans (hk2.below (fun j hj => by
    have := HG.out
    have := HB1.out.size
    rcases hj with hj | hj | hj <;> omega) HB1.out.size)
  have HD2 : Hid (DR w.heap.size k (freshD M n) w2 (some ⟨g, 0, none⟩) n none 0) := Lib.hid hd2
  have HMT := Lib.hid (mount_walk w.heap.size k g n (freshD M n) w2 HD2.out (freshD_on hM n H2.out) ⟨n, 0, 0⟩ (freshD_ready hM n H1.out H2.out) (fr hM n H1.out).f1 (by show 0 < _; omega))
  have HB2 := Lib.hid hB2
  have HMM := Lib.hid hM
  clear hM hd2 hk2 hB2
  go_wp2_with fail
  refine HMT.out.mono ?_
  rintro r' w3 ⟨p, A', hpd, hpg, hpc, rfl, hst, hpk, hpb, hk3⟩
  have HB3 : Hid (Below w.heap.size w w3) := Lib.hid (HB2.out.trans (hk3.below (fun j hj => by
    have := HG.out
    have := HB2.out.size
    rcases hj with hj | hj | hj <;> omega) HB2.out.size))
  have HF : Hid (BgS n w (.returned (.pointer (some ⟨p.k, 0, none⟩))) w3) := Lib.hid ⟨⟨p, _, _, n⟩, rfl, ⟨_, hst, ⟨⟨M, Kn.fresh HMM.out n H1.out H2.out A', HMM.out.len, fun i _ _ => HMM.out.on i⟩, rfl, fun i hi hn => fresh_view HMM.out n H1.out H2.out A' hi hn, fun e he => by cases he⟩, rfl, rfl⟩, rfl, rfl, HB3.out⟩
  clear hst hk3 hpd
  go_wp2
  go_ret
  exact HF.out
end Go.Proofs.YtehfoopefefpnaaGreat
/- What Write leaves is a file, plain. -/
set_option linter.unusedSimpArgs false
set_option linter.unusedVariables false
namespace Go.Proofs.YtehfoopefefpnaaGreat
open Go.RowKit

theorem way_isP {b k : Nat} (hb : b < 76) (hk : k < (wayL b).length) : (k + 1 = (wayL b).length ∧ stp b k = sb b) ∨ (k + 1 < (wayL b).length ∧ isP (stp b k)) := by
  by_cases h : k + 1 = (wayL b).length
  · exact .inl ⟨h, way_end h⟩
  · obtain ⟨y, _, _, hp, _⟩ := way_step hb (k := k) (by omega)
    exact .inr ⟨by omega, hp⟩
theorem way_leaf {b b' t : Nat} (hb : b < 76) (hb' : b' < 76) (h : onWay b t) (e : t = sb b') : b = b' := by
  obtain ⟨k, hk, rfl⟩ := h
  rcases way_isP hb hk with ⟨_, h⟩ | ⟨_, h⟩
  · rw [h] at e
    exact sb_inj hb hb' e
  · rw [e] at h
    exact absurd h (sb_notP hb')
/-- The places that Write may touch. -/
def wayS (b : Nat) : List Nat := (List.range (wayL b).length).map (stp b)
def wT (p l : Nat) : List Nat := (List.range ((p + l - 1) / 128 + 1 - p / 128)).flatMap fun i => wayS (p / 128 + i)
theorem wT_mem {p l b k : Nat} (h : inRange p l b) (hk : k < (wayL b).length) : stp b k ∈ wT p l := by
  unfold wT
  obtain ⟨h1, h2⟩ := h
  refine List.mem_flatMap.2 ⟨b - p / 128, List.mem_range.2 (by omega), ?_⟩
  rw [show p / 128 + (b - p / 128) = b by omega]
  exact List.mem_map.2 ⟨k, List.mem_range.2 hk, rfl⟩
theorem flatMap_len {f : Nat → List Nat} : ∀ {l : List Nat}, (∀ i, (f i).length ≤ 3) → (l.flatMap f).length ≤ 3 * l.length
  | [], _ => Nat.le_refl _
  | x :: l, h => by
    rw [List.flatMap_cons, List.length_append, List.length_cons]
    have := flatMap_len (l := l) h
    have := h x
    omega
theorem wT_len (p l : Nat) : (wT p l).length ≤ 3 * ((p + l - 1) / 128 + 1 - p / 128) := by
  unfold wT
  have := flatMap_len (f := fun i => wayS (p / 128 + i)) (l := List.range ((p + l - 1) / 128 + 1 - p / 128)) (fun i => by
    unfold wayS
    rw [List.length_map, List.length_range]
    exact (way_len _).2)
  rw [List.length_range] at this
  exact this
theorem Fl.write {V : Nat → List UInt8} {m : Nat → Bool} {N : Nat} {x y : NoS} {a : Nat → Nat} {V' : Nat → List UInt8} {m' : Nat → Bool} {a' : Nat → Nat} {p : Nat} {d : List UInt8} (h : Fl V m N x a) (ht : TreeOk V' m' N y a') (hw : Wrt N V m a V' m' a' (rangeS p d.length) p d) (hd : 0 < d.length) (hp : p + d.length ≤ 9728) (hne : ∀ b, inRange p d.length b → a' (sb b) ≠ 0) (hy : y.size = max x.size (p + d.length)) : Fl V' m' N y a' ∧ (∀ b, b < 76 → (a' (sb b) ≠ 0 ↔ (a (sb b) ≠ 0 ∨ inRange p d.length b))) := by
  have hb76 : ∀ b, inRange p d.length b → b < 76 := fun b ⟨_, h2⟩ => by omega
  have key : ∀ b, b < 76 → (a' (sb b) ≠ 0 ↔ (a (sb b) ≠ 0 ∨ inRange p d.length b)) := fun b hb => by
    constructor
    · intro h1
      by_cases h0 : a (sb b) = 0
      · right
        obtain ⟨b', hb', hw'⟩ := hw.slots _ (sb_lt hb) h0 h1
        rw [← way_leaf (hb76 b' hb') hb hw' rfl]
        exact hb'
      · exact .inl h0
    · rintro (h1 | h1)
      · rw [hw.old _ (sb_lt hb) h1]; exact h1
      · exact hne b h1
  refine ⟨⟨ht, fun k h1 h2 => ?_, fun b hb h1 => ?_, fun q hq h1 => ?_⟩, key⟩
  · rw [hw.ct k h2, if_neg (by omega)]
    exact h.tail k (by omega) h2
  · refine Classical.byContradiction fun hh => ?_
    rcases (key b hb).1 hh with h2 | h2
    · exact h2 (h.far b hb (by unfold blocksN at *; omega))
    · obtain ⟨h3, h4⟩ := h2
      unfold blocksN at h1
      omega
  · have hq8 : q < 86 := by unfold isP at hq; omega
    by_cases h0 : a q = 0
    · obtain ⟨b, hb, k, hk, e⟩ := hw.slots q hq8 h0 h1
      rcases way_isP (hb76 b hb) hk with ⟨_, e2⟩ | ⟨h2, _⟩
      · rw [e, e2] at hq
        exact absurd hq (sb_notP (hb76 b hb))
      · obtain ⟨y, hy, hy8, hp2, hs⟩ := way_step (hb76 b hb) (k := k) h2
        refine ⟨y, hy8, fun hh => hne b hb ?_⟩
        rw [e] at hh
        exact way_none ht (hb76 b hb) (k := k + 1) h2 (by rw [hs]; exact hh)
    · obtain ⟨i, hi, h2⟩ := h.full q hq h0
      exact ⟨i, hi, by rw [hw.old _ (kb_lt hq hi) h2]; exact h2⟩
theorem Fl.fresh {V : Nat → List UInt8} {m : Nat → Bool} {N : Nat} {x : NoS} (h : ∀ i, i < 6 → x.ptr i = 0) : Fl V m N x (fun _ => 0) :=
  ⟨⟨fun _ _ _ _ _ h => absurd rfl h, fun _ _ h => absurd rfl h, h, fun _ _ h => absurd rfl h, fun _ _ _ _ _ => rfl⟩, fun k _ _ => by unfold Ct; rw [if_pos rfl], fun _ _ _ => rfl, fun _ _ h => absurd rfl h⟩
/-- The marks are just those of a list. -/
theorem cntM_list {m : Nat → Bool} {a k : Nat} {L : List Nat} (hn : L.Nodup) (hm : ∀ i, i ∈ L ↔ (a ≤ i ∧ i < a + k ∧ m i = true)) : cntM m a k = L.length := by
  have h1 : (((List.range k).filter fun i => m (a + i)).map fun i => a + i).Perm L := by
    refine (List.perm_ext_iff_of_nodup ?_ hn).2 (fun i => ?_)
    · exact nodup_map_on (List.Pairwise.filter _ List.nodup_range) (fun x _ y _ e => by omega)
    · rw [hm, List.mem_map]
      constructor
      · rintro ⟨j, hj, rfl⟩
        obtain ⟨h1, h2⟩ := List.mem_filter.1 hj
        have := List.mem_range.1 h1
        exact ⟨by omega, by omega, h2⟩
      · rintro ⟨h1, h2, h3⟩
        exact ⟨i - a, List.mem_filter.2 ⟨List.mem_range.2 (by omega), by rw [show a + (i - a) = i by omega]; exact h3⟩, by omega⟩
  have := h1.length_eq
  rw [List.length_map] at this
  exact this
/-- Nothing is left of a file of no bytes. -/
theorem Trc.none_ {V : Nat → List UInt8} {m : Nat → Bool} {a : Nat → Nat} {V' : Nat → List UInt8} {m' : Nat → Bool} {a' : Nat → Nat} (h : Trc V m a V' m' a' 0) : ∀ t, t < 86 → a' t = 0 := by
  have leaf : ∀ t, t < 86 → ¬ isP t → a' t = 0 := fun t h8 hp => by
    obtain ⟨e, hb⟩ := sb_bk h8 hp
    have := h.blk (bk t) hb
    rw [e, if_pos (by unfold blocksN; omega)] at this
    exact this
  have one : ∀ q, isP q → q ≠ 5 → a' q = 0 := fun q hq h5 => Classical.byContradiction fun hz => by
    obtain ⟨i, hi, hne⟩ := h.full q hq hz
    refine hne (leaf _ (kb_lt hq hi) ?_)
    rcases isP_cases hq with ⟨rfl, e⟩ | ⟨rfl, e⟩ | ⟨h1, h2, e⟩
    · rw [e]; unfold isP; omega
    · exact absurd rfl h5
    · rw [e]; unfold isP; omega
  intro t h8
  by_cases hp : isP t
  · by_cases h5 : t = 5
    · subst h5
      refine Classical.byContradiction fun hz => ?_
      obtain ⟨i, hi, hne⟩ := h.full 5 hp hz
      exact hne (one _ (show isP (14 + i) by unfold isP; omega) (show 14 + i ≠ 5 by omega))
    · exact one t hp h5
  · exact leaf t h8 hp
end Go.Proofs.YtehfoopefefpnaaGreat
/- The law's awake. -/
set_option linter.unusedSimpArgs false
set_option linter.unusedVariables false
namespace Go.Proofs.YtehfoopefefpnaaGreat
open Go.RowKit

attribute [local go_sem ↓] Go.wp_at_zero Go.wp_at_succ
/-- There is room. -/
theorem full_space {N : Nat} {V : Nat → List UInt8} {m : Nat → Bool} {a : Nat → Nat} {V' : Nat → List UInt8} {m' : Nat → Bool} {a' : Nat → Nat} {S : Nat → Prop} {p : Nat} {d : List UInt8} (hw : Wrt N V m a V' m' a' S p d) {T : List Nat} (hS : ∀ t, S t → t ∈ T) (hall : ∀ i, 43 ≤ i → i < N → m' i = true) : N - 43 ≤ cntM m 43 (N - 43) + T.length := by
  have h1 : (((List.range (N - 43)).filter fun i => !m (43 + i)).map fun i => 43 + i).length ≤ (T.map a').length := by
    refine nodup_len _ _ ?_ (fun i hi => ?_)
    · exact nodup_map_on (List.Pairwise.filter _ List.nodup_range) (fun x _ y _ e => by omega)
    · obtain ⟨j, hj, rfl⟩ := List.mem_map.1 hi
      obtain ⟨h1, h2⟩ := List.mem_filter.1 hj
      have := List.mem_range.1 h1
      rcases (hw.mark (43 + j)).1 (hall _ (by omega) (by omega)) with h | ⟨t, h8, h0, e, hne⟩
      · rw [h] at h2; cases h2
      · exact List.mem_map.2 ⟨t, hS t (hw.slots t h8 h0 (by rw [e]; exact hne)), e⟩
  have h2 : ∀ k, ((List.range k).filter fun i => !m (43 + i)).length + cntM m 43 k = k := by
    intro k
    induction k with
    | zero => rfl
    | succ k ih =>
      rw [cntM_succ, List.range_succ, List.filter_append, List.length_append]
      by_cases h : m (43 + k) = true
      · rw [if_pos h, List.filter_cons_of_neg (by simp [h])]
        simp only [List.filter_nil, List.length_nil]
        omega
      · rw [if_neg h, List.filter_cons_of_pos (by simp [h])]
        simp only [List.filter_nil, List.length_cons, List.length_nil]
        omega
  have h3 := h2 (N - 43)
  rw [List.length_map, List.length_map] at h1
  omega
theorem rangeS_wT {p l t : Nat} (h : rangeS p l t) : t ∈ wT p l := by
  obtain ⟨b, hb, k, hk, rfl⟩ := h
  exact wT_mem hb hk
theorem cnt43 (k : Nat) : cntM m43 43 k = 0 := by
  unfold cntM
  rw [List.filter_eq_nil_iff.2 (fun i _ => by unfold m43; simp)]
  rfl
def xyz : List UInt8 := [120, 121, 122]
theorem conv_bytes {A : Option Addr} {n c : Nat} {d : List UInt8} {W : World} (h : Sl W 1 (.slice A n c) n (bv d)) : (convert 22 9 (.slice A n c)).run Tryz.prog W = .ok (.string ⟨d.toArray⟩) W :=
  run_conv_bytes (P := Tryz.prog) (d := d) W Tryz.underlying22 Tryz.underlying5 Tryz.underlying9 h
theorem fwk_below {B : Nat} {c : SWc} {V : Nat → List UInt8} {m : Nat → Bool} {xs : Nat → NoS} {U : List Nat} {w0 w w' : World} (h : SW B c V m xs U w) (hb : Below B w0 w) (hB : B = w0.heap.size) (hk : FwK c w w') : Below B w0 w' := by
  have h1 := h.news
  have h2 : B ≤ w.heap.size := by rw [hB]; exact hb.size
  exact hb.trans (hk.below (fun j hj => by rcases hj with hj | hj <;> omega) h2)
theorem nwk_below {B : Nat} {c : SWc} {V : Nat → List UInt8} {m : Nat → Bool} {xs : Nat → NoS} {U : List Nat} {w0 w w' : World} (h : SW B c V m xs U w) (hb : Below B w0 w) (hB : B = w0.heap.size) (hk : Keep (fun j => j = c.p.b ∨ j = c.p.k) w w') : Below B w0 w' := by
  have h1 := h.news
  have h2 : B ≤ w.heap.size := by rw [hB]; exact hb.size
  exact hb.trans (hk.below (fun j hj => by rcases hj with hj | hj <;> omega) h2)
def xyzO : Obj := .cells #[.int .u8 120, .int .u8 121, .int .u8 122] 5 (3, 4)
theorem ownxyz (w : World) : Sl (w.alloc xyzO) 1 (.slice (some ⟨w.heap.size, 0, none⟩) 3 3) 3 (bv xyz) := by
  have hn := blk_new w xyzO
  refine ⟨_, _, rfl, .inr ⟨_, rfl, fun j u hu => ?_⟩, (fun e => by cases e), Nat.le_refl _, rfl⟩
  rw [Addr.add_lit, Nat.zero_add, blk_cells hn]
  rw [← hu, ← Array.getElem?_toList]
  rfl
/-- Behind awake's Write: the tree. -/
theorem awake_slots {N : Nat} {V : Nat → List UInt8} {m : Nat → Bool} {V' : Nat → List UInt8} {m' : Nat → Bool} {a' : Nat → Nat} {y : NoS} (hw : Wrt N V m (fun _ => 0) V' m' a' (rangeS 700 3) 700 xyz) (ht : TreeOk V' m' N y a') (hne : ∀ b, inRange 700 3 b → a' (sb b) ≠ 0) : ∀ t, t < 86 → (a' t ≠ 0 ↔ (t = 4 ∨ t = 7)) := by
  have h5 : inRange 700 3 5 := ⟨by decide, by decide⟩
  have h7 : a' 7 ≠ 0 := hne 5 h5
  have h4 : a' 4 ≠ 0 := fun e => h7 (ht.none_ 4 (.inl rfl) e 1 (by decide))
  intro t h8
  constructor
  · intro h
    obtain ⟨b, ⟨hb1, hb2⟩, k, hk, e⟩ := hw.slots t h8 rfl h
    obtain rfl : b = 5 := by omega
    have hk2 : k < 2 := hk
    rcases (by omega : k = 0 ∨ k = 1) with rfl | rfl
    · exact .inl e
    · exact .inr e
  · rintro (rfl | rfl)
    · exact h4
    · exact h7
theorem awake_len {a' : Nat → Nat} (h : ∀ t, t < 86 → (a' t ≠ 0 ↔ (t = 4 ∨ t = 7))) : (allL a').length = 2 := by
  rw [allL_eq, List.length_map, List.filter_congr (q := fun t => decide (t = 4 ∨ t = 7)) (fun t ht => by
    have := h t (allS_lt t ht)
    by_cases e : t = 4 ∨ t = 7
    · rw [decide_eq_true e, decide_eq_true (this.2 e)]
    · rw [decide_eq_false e, decide_eq_false (fun hh => e (this.1 hh))])]
  decide +kernel
theorem awake_read {N : Nat} {V : Nat → List UInt8} {m : Nat → Bool} {V' : Nat → List UInt8} {m' : Nat → Bool} {a' : Nat → Nat} {S : Nat → Prop} (hw : Wrt N V m (fun _ => 0) V' m' a' S 700 xyz) : ctL V' a' 698 5 = [0, 0, 120, 121, 122] := by
  have h0 : ∀ k, Ct V (fun _ => 0) k = 0 := fun k => by unfold Ct; rw [if_pos rfl]
  unfold ctL
  show [Ct V' a' 698, Ct V' a' 699, Ct V' a' 700, Ct V' a' 701, Ct V' a' 702] = _
  rw [hw.ct 698 (by decide), hw.ct 699 (by decide), hw.ct 700 (by decide), hw.ct 701 (by decide), hw.ct 702 (by decide)]
  simp only [h0]
  rfl
def ub : List Nat := [0, 34, 35]
set_option maxRecDepth 100000 in
set_option maxHeartbeats 8000000 in
theorem awake14_walk (w : World) :
    Calls Tryz.prog 9 #[] w fun r w' => r = .returned (.bool true) ∧ Below w.heap.size w w' := by
  have HBE : Hid (Calls Tryz.prog 8 #[.int .i64 100] w (BgS 100 w)) := Lib.hid (begin14_walk 100 (by decide) (by decide) w)
  go_enter Tryz.func9, Tryz.ntmps9
  go_wp2_with fail
  refine HBE.out.mono ?_
  rintro r' w1 ⟨c, rfl, hsw1, hcN, hcs, hb1⟩
  have hsw1 := hsw1.mono (U' := ub) (fun i hi => by cases hi)
  have HNW : Hid (Calls Tryz.prog 15 #[.pointer (some ⟨c.p.k, 0, none⟩), .int .i64 1] w1 fun e w' => e = .returned (.tuple #[.int .i64 2, .int .i64 0]) ∧ SW w.heap.size c.nw v00 m43 (updF freshX 2 (nwNode 1 c.sup.gens (freshX 2))) ub w' ∧ Keep (fun j => j = c.p.b ∨ j = c.p.k) w1 w') := Lib.hid (wnew (k := 2) hsw1 (by decide) (by decide) (by decide) (by decide) (by decide) (fun n h1 h2 => by
    obtain rfl : n = 1 := by omega
    decide) (by decide) (by rw [hcs]; decide) 1 (.inl rfl))
  have HSW1 := Lib.hid hsw1
  have HB1 := Lib.hid hb1
  have HCN := Lib.hid hcN
  clear hsw1 hb1 hcN hcs
  go_wp2_with fail
  refine HNW.out.mono ?_
  rintro r' w2 ⟨rfl, hsw2, hk2⟩
  have HB2 := Lib.hid (nwk_below HSW1.out HB1.out rfl hk2)
  obtain ⟨xs, hxs⟩ : ∃ xs, xs = updF freshX 2 (nwNode 1 c.sup.gens (freshX 2)) := ⟨_, rfl⟩
  rw [← hxs] at hsw2
  have hx2 : xs 2 = nwNode 1 c.sup.gens (freshX 2) := by rw [hxs, updF_same]
  obtain ⟨w3, hw3⟩ : ∃ w3, w3 = w2.alloc xyzO := ⟨_, rfl⟩
  have hb3 : Below w2.heap.size w2 w3 := by rw [hw3]; exact (Below.refl _ w2).alloc (Nat.le_refl _) _
  have hsl3 := ownxyz w2
  rw [← hw3] at hsl3
  have hsw3 : SW w.heap.size c.nw v00 m43 xs (ub ++ (wT 700 3).map (fun _ => 0)) w3 := (hsw2.below hb3).mono (fun i hi => List.mem_append_left _ hi)
  have hfl : Fl v00 m43 c.nw.N (xs 2) (fun _ => 0) := Fl.fresh (fun i hi => by
    rw [hx2]
    rcases (by omega : i = 0 ∨ i = 1 ∨ i = 2 ∨ i = 3 ∨ i = 4 ∨ i = 5) with rfl | rfl | rfl | rfl | rfl | rfl <;> rfl)
  have HWR : Hid (Calls Tryz.prog 12 #[.pointer (some ⟨c.p.k, 0, none⟩), .int .i64 2, .int .i64 700, .slice (some ⟨w2.heap.size, 0, none⟩) 3 3] w3 (FwP w.heap.size c.nw xs 2 ub (wT 700 3) v00 m43 (fun _ => 0) 700 xyz w3)) := Lib.hid (fwrite_walk hsw3 (by decide) hfl.tr 700 xyz (by decide) (by decide) (.inl (by rw [hx2]; rfl)) _ 3 hsl3 (fun j hj => by
    have h1 : w2.heap.size = j := Option.some.inj hj
    have h2 := hsw2.news
    show j ≠ c.p.b
    have : c.nw.p.b = c.p.b := rfl
    omega) (by decide +kernel) (by decide) (by decide) (by decide) (fun b hb k hk => wT_mem hb hk))
  have hc22 : (convert 22 22 (.slice (some ⟨w2.heap.size, 0, none⟩) 3 3)).run Tryz.prog (w2.alloc (.cells #[.int .u8 120, .int .u8 121, .int .u8 122] 5)) = .ok (.slice (some ⟨w2.heap.size, 0, none⟩) 3 3) w3 := by
    rw [hw3]
    exact Lib.run_convert_bytes_const (P := Tryz.prog) w2 22 5 #[.int .u8 120, .int .u8 121, .int .u8 122] 3 3 Tryz.underlying22 Tryz.underlying5
  have HSW3 := Lib.hid hsw3
  have HFL := Lib.hid hfl
  have HB3 := Lib.hid (bstep HB2.out hb3)
  have HX2 := Lib.hid hx2
  have HW3 := Lib.hid hw3
  clear hsw2 hk2 hxs hx2 hb3 hsl3 hsw3 hfl hw3
  go_wp2_with fail
  refine HWR.out.mono ?_
  rintro r' w4 ⟨V4, m4, a4, hk4, hres⟩
  have hb4 := fwk_below HSW3.out HB3.out rfl hk4
  rcases hres with ⟨rfl, y, hsw4, ht4, hwr4, hne4, hwn4⟩ | ⟨_, _, ⟨q, hwr4⟩, _, hall, _⟩
  · have hsl4 := awake_slots hwr4 ht4 hne4
    have hx2 := HX2.out
    obtain ⟨hk, hl, hg, hz, hch⟩ := hwn4
    have hz : y.size = 703 := by
      rw [hz, hx2]
      rfl
    have hky : y.kind = 1 := by rw [hk, hx2]; rfl
    have hfl4 := (HFL.out.write ht4 hwr4 (by decide) (by decide) hne4 (by rw [hz, hx2]; rfl)).1
    obtain ⟨xs4, hxs4⟩ : ∃ xs4, xs4 = updF xs 2 y := ⟨_, rfl⟩
    rw [← hxs4] at hsw4
    have hy4 : xs4 2 = y := by rw [hxs4, updF_same]
    rw [← hy4] at hky hz hfl4 ht4
    have HRD : Hid (Calls Tryz.prog 10 #[.pointer (some ⟨c.p.k, 0, none⟩), .int .i64 2, .int .i64 698, .int .i64 9] w4 (FrP V4 a4 698 5 w4)) := Lib.hid (fread_walk hsw4 (by decide) (by rw [hky]; decide) ht4 698 9 5 (by decide) (by decide) (by rw [hz]; rfl))
    have HSC := Lib.hid (fun (W : World) (hb : Below w4.heap.size w4 W) => sectors_walk_file (hsw4.below hb) (n := 2) (by decide) (by rw [hky]; decide) ht4)
    have HTR := Lib.hid (fun (W : World) (hb : Below w4.heap.size w4 W) => trunc_walk (n := 2) (hsw4.below hb) (by decide) hfl4 0 (by decide) (.inl hky) (by rw [List.length_append, List.length_map]; decide +kernel) (by simp [ub]) (by simp [ub]) (fun _ t ht => by
      by_cases h0 : a4 t = 0
      · exact .inl h0
      · right
        have h8 : t < 86 := by
          have : ∀ t ∈ truT 0, t < 86 := by decide
          exact this t ht
        have h47 := (hsl4 t h8).1 h0
        refine List.mem_append_right _ (List.mem_map.2 ⟨t, ?_, rfl⟩)
        rcases h47 with rfl | rfl <;> decide +kernel))
    have HLN : Hid ((allL a4).length = 2) := Lib.hid (awake_len hsl4)
    have HRB : Hid (ctL V4 a4 698 5 = [0, 0, 120, 121, 122]) := Lib.hid (awake_read hwr4)
    have HSW4 := Lib.hid hsw4
    have HB4 := Lib.hid hb4
    have HFL4 := Lib.hid hfl4
    have HMK : Hid (∀ i, m4 i = true ↔ (m43 i = true ∨ ∃ t, t < 86 ∧ a4 t = i ∧ i ≠ 0)) := Lib.hid (fun i => by
      rw [hwr4.mark i]
      exact or_congr_right ⟨fun ⟨t, h1, _, h2, h3⟩ => ⟨t, h1, h2, h3⟩, fun ⟨t, h1, h2, h3⟩ => ⟨t, h1, rfl, h2, h3⟩⟩)
    clear hsl4 hx2 hk hl hg hz hch hky hfl4 hxs4 hsw4 hy4 ht4 hwr4 hne4 hk4 hb4
    go_wp2_with fail
    refine HRD.out.mono ?_
    rintro r' w5 ⟨A5, rfl, hnb5, hb5⟩
    have hsl5 := hnb5.sl
    rw [ctL_len, HRB.out] at hsl5
    have HSL5 := Lib.hid hsl5
    have HB5 := Lib.hid hb5
    have HSC5 := Lib.hid (HSC.out w5 hb5)
    clear hnb5 hb5 hsl5
    go_wp2_with fail
    refine HSC5.out.mono ?_
    rintro r' w6 ⟨A6, rfl, _, _, hb6⟩
    rw [HLN.out]
    have kc := conv_bytes (HSL5.out.below hb6)
    have HB6 := Lib.hid (bstep HB5.out hb6)
    have HTR6 : Hid (Calls Tryz.prog 13 #[.pointer (some ⟨c.p.k, 0, none⟩), .int .i64 2, .int .i64 0] w6 _) := Lib.hid (HTR.out w6 HB6.out)
    clear hb6
    go_wp2_with fail
    refine HTR6.out.mono ?_
    rintro r' w7 ⟨rfl, V7, m7, a7, y7, hsw7, hfl7, htc7, _, _, _, _, _, hk7⟩
    have hb7 := fwk_below (HSW4.out.below HB6.out) (bstep HB4.out HB6.out) rfl hk7
    have hm7 : ∀ i, 43 ≤ i → m7 i = false := fun i hi => by
      rw [Bool.eq_false_iff]
      intro hh
      obtain ⟨h1, h2⟩ := (htc7.mark i).1 hh
      rcases (HMK.out i).1 h1 with h3 | ⟨t, h8, e, h0⟩
      · unfold m43 at h3
        have := of_decide_eq_true h3
        omega
      · exact h2 t h8 e h0 (htc7.none_ t h8)
    have hfr := wfree hsw7
    rw [show c.nw.N = 100 from HCN.out, cntM_congr (m := m43) (m' := m7) (fun i h1 _ => by
      rw [hm7 i h1]
      unfold m43
      rw [decide_eq_false (by omega)]), cnt43] at hfr
    have HFR : Hid (Calls Tryz.prog 17 #[.pointer (some ⟨c.p.k, 0, none⟩)] w7 fun e w' => e = .returned (.int .i64 57) ∧ Below w7.heap.size w7 w') := Lib.hid hfr
    have HB7 := Lib.hid hb7
    clear hsw7 hfl7 htc7 hk7 hb7 hm7 hfr
    go_wp2_with fail
    refine HFR.out.mono ?_
    rintro r' w8 ⟨rfl, hb8⟩
    have HB8 := Lib.hid (bstep HB7.out hb8)
    clear hb8
    go_wp2
    go_ret
    exact ⟨rfl, HB8.out⟩
  · exfalso
    have := full_space hwr4 (fun t ht => rangeS_wT ht) hall
    rw [show c.nw.N = 100 from HCN.out, cnt43] at this
    revert this
    decide +kernel
end Go.Proofs.YtehfoopefefpnaaGreat
