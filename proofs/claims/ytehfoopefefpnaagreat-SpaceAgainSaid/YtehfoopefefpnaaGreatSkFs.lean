/- Words and contracts that the proofs of this set use; each part says what it holds. -/
import Derived.Test.YtehfoopefefpnaaGreatSk8
/- Two files of a store; Commit and Drop. -/
set_option linter.unusedSimpArgs false
set_option linter.unusedVariables false
namespace Go.Proofs.YtehfoopefefpnaaGreat
open Go.RowKit

/-- What lasts. -/
def Cm (c : SWc) (V : Nat → List UInt8) (m : Nat → Bool) (xs : Nat → NoS) : Prop := Sw ⟨c.d, c.sup, []⟩ c.N V m xs []
def CmtP (B : Nat) (c : SWc) (V : Nat → List UInt8) (m : Nat → Bool) (xs : Nat → NoS) (w : World) (e : Ending) (w' : World) : Prop := ∃ d', e = .returned (.int .i64 0) ∧ SW B ⟨c.p, d', c.sup, c.N⟩ V m xs [] w' ∧ Cm ⟨c.p, d', c.sup, c.N⟩ V m xs ∧ Keep (fun j => j = c.p.kd ∨ j = c.p.g ∨ j = c.p.b ∨ w.heap.size ≤ j) w w'
theorem wcommit2 {B : Nat} {c : SWc} {V : Nat → List UInt8} {m : Nat → Bool} {xs : Nat → NoS} {U : List Nat} {w : World} (h : SW B c V m xs U w) :
    Calls Tryz.prog 16 #[.pointer (some ⟨c.p.k, 0, none⟩)] w (CmtP B c V m xs w) := by
  obtain ⟨s, hst, hs, e1, e2⟩ := h
  obtain ⟨M, hkn, hM, hm⟩ := hs.kn
  refine (scommit_walk B c.p s w hst hs.ok).mono fun e w' q => ?_
  obtain ⟨rfl, hst', hk'⟩ := q
  have hsw : Sw (comSt s) c.N V m xs [] := ⟨⟨M, hkn.com, hM, hm⟩, hs.sec, fun i hi hiN => by
    rw [view_com hkn.ok (.inr (by omega))]
    exact hs.view i hi hiN, fun e he => by cases he⟩
  have hcm : Sw ⟨(comSt s).d, c.sup, []⟩ c.N V m xs [] := by
    rw [← e2]
    exact hsw
  exact ⟨(comSt s).d, rfl, ⟨comSt s, hst', hsw, rfl, e2⟩, hcm, hk'⟩
theorem wdrop {B : Nat} {c cw : SWc} {V V' : Nat → List UInt8} {m m' : Nat → Bool} {xs xs' : Nat → NoS} {U : List Nat} {w : World} (h : SW B cw V' m' xs' U w) (hp : cw.p = c.p) (hd : cw.d = c.d) (hc : Cm c V m xs) :
    Calls Tryz.prog 25 #[.pointer (some ⟨c.p.k, 0, none⟩)] w fun e w' => e = .returned (.tuple #[]) ∧ SW B c V m xs [] w' ∧ Keep (fun j => j = c.p.b ∨ j = c.p.k) w w' := by
  obtain ⟨s, hst, hs, e1, e2⟩ := h
  obtain ⟨M, hkn, hM, hm⟩ := hc.kn
  obtain ⟨b, hb, hdec⟩ := hkn.zero
  have hb' : s.d.sure[0]? = some b := by
    rw [e1, hd]
    exact hb
  rw [hp] at hst
  refine (sdrop_walk B c.p s w hst hs.ok b hb' c.sup hdec).mono fun e w' q => ?_
  obtain ⟨rfl, hst', hk'⟩ := q
  rw [e1, hd] at hst'
  exact ⟨rfl, ⟨_, hst', hc, rfl, rfl⟩, hk'.mono (fun j _ e => e.symm)⟩
/-! ### a file as the law knows it -/
structure Fs where
  size : Nat
  ct : Nat → UInt8
  blk : Nat → Bool
def Fs.nil : Fs := ⟨0, fun _ => 0, fun _ => false⟩
def Fs.write (f : Fs) (p : Nat) (d : List UInt8) : Fs := ⟨max f.size (p + d.length), fun k => if p ≤ k ∧ k < p + d.length then d.getD (k - p) 0 else f.ct k, fun b => f.blk b || (decide (p / 128 ≤ b) && decide (b ≤ (p + d.length - 1) / 128))⟩
def Fs.trunc (f : Fs) (z : Nat) : Fs := ⟨z, fun k => if k < z then f.ct k else 0, fun b => f.blk b && decide (b < blocksN z)⟩
/-- One file, as it lies in a store. -/
structure Fo (V : Nat → List UInt8) (m : Nat → Bool) (N : Nat) (x : NoS) (a : Nat → Nat) (f : Fs) : Prop where
  fl : Fl V m N x a
  kind : x.kind = 1
  size : x.size = f.size
  ct : ∀ k, k < 9728 → Ct V a k = f.ct k
  blk : ∀ b, b < 76 → (a (sb b) ≠ 0 ↔ f.blk b = true)
theorem Fo.nil {V : Nat → List UInt8} {m : Nat → Bool} {N : Nat} {x : NoS} (h1 : x.kind = 1) (h2 : x.size = 0) (h3 : ∀ i, i < 6 → x.ptr i = 0) : Fo V m N x (fun _ => 0) Fs.nil :=
  ⟨Fl.fresh h3, h1, h2, fun k _ => by unfold Ct; rw [if_pos rfl]; rfl, fun b _ => ⟨fun h => absurd rfl h, fun h => by cases h⟩⟩
/-- Another file turns: this one stays. -/
theorem Fo.other {V V' : Nat → List UInt8} {m m' : Nat → Bool} {N : Nat} {x : NoS} {a : Nat → Nat} {f : Fs} (h : Fo V m N x a f) (hV : ∀ t, t < 86 → a t ≠ 0 → V' (a t) = V (a t)) (hm : ∀ t, t < 86 → a t ≠ 0 → m' (a t) = true) : Fo V' m' N x a f := by
  have hct : ∀ k, k < 9728 → Ct V' a k = Ct V a k := fun k hk => by
    unfold Ct
    by_cases h0 : a (sb (k / 128)) = 0
    · rw [if_pos h0, if_pos h0]
    · rw [if_neg h0, if_neg h0, hV _ (sb_lt (by omega)) h0]
  refine ⟨⟨⟨h.fl.tr.inj, fun i hi h0 => ?_, h.fl.tr.top, fun q hq h0 => ?_, h.fl.tr.none_⟩, fun k h1 h2 => by rw [hct k h2]; exact h.fl.tail k h1 h2, h.fl.far, h.fl.full⟩, h.kind, h.size, fun k hk => by rw [hct k hk]; exact h.ct k hk, h.blk⟩
  · obtain ⟨r1, r2, _⟩ := h.fl.tr.rng i hi h0
    exact ⟨r1, r2, hm i hi h0⟩
  · rw [hV q (by unfold isP at hq; omega) h0]
    exact h.fl.tr.kid q hq h0
/-- It is written. -/
theorem Fo.write {V V' : Nat → List UInt8} {m m' : Nat → Bool} {N : Nat} {x y : NoS} {a a' : Nat → Nat} {f : Fs} {p : Nat} {d : List UInt8} (h : Fo V m N x a f) (ht : TreeOk V' m' N y a') (hw : Wrt N V m a V' m' a' (rangeS p d.length) p d) (hd : 0 < d.length) (hp : p + d.length ≤ 9728) (hne : ∀ b, inRange p d.length b → a' (sb b) ≠ 0) (hy : wroteN x y (p + d.length)) : Fo V' m' N y a' (f.write p d) := by
  obtain ⟨k1, k2, k3, k4, k5⟩ := hy
  obtain ⟨h1, h2⟩ := h.fl.write ht hw hd hp hne k4
  refine ⟨h1, by rw [k1]; exact h.kind, by rw [k4, h.size]; rfl, fun k hk => ?_, fun b hb => ?_⟩
  · rw [hw.ct k hk]
    show _ = if p ≤ k ∧ k < p + d.length then d.getD (k - p) 0 else f.ct k
    rw [h.ct k hk]
  · rw [h2 b hb, h.blk b hb]
    show _ ↔ (f.blk b || (decide (p / 128 ≤ b) && decide (b ≤ (p + d.length - 1) / 128))) = true
    rw [Bool.or_eq_true, Bool.and_eq_true, decide_eq_true_eq, decide_eq_true_eq]
    rfl
/-- It is cut. -/
theorem Fo.trunc {V V' : Nat → List UInt8} {m m' : Nat → Bool} {N : Nat} {x y : NoS} {a a' : Nat → Nat} {f : Fs} {z : Nat} (h : Fo V m N x a f) (hfl : Fl V' m' N y a') (ht : Trc V m a V' m' a' z) (hk : y.kind = x.kind) (hz : y.size = z) : Fo V' m' N y a' (f.trunc z) := by
  refine ⟨hfl, by rw [hk]; exact h.kind, hz, fun k hk => ?_, fun b hb => ?_⟩
  · rw [ht.ct k hk, h.ct k hk]
    rfl
  · rw [ht.blk b hb]
    show _ ↔ (f.blk b && decide (b < blocksN z)) = true
    rw [Bool.and_eq_true, decide_eq_true_eq, ← h.blk b hb]
    by_cases e : blocksN z ≤ b
    · rw [if_pos e]
      exact ⟨fun h => absurd rfl h, fun h => by omega⟩
    · rw [if_neg e]
      exact ⟨fun h => ⟨h, by omega⟩, fun h => h.1⟩
/-! ### how many sectors -/
def orR (g : Nat → Bool) : Bool := (List.range 8).any g
theorem orR_iff (g : Nat → Bool) : orR g = true ↔ ∃ i, i < 8 ∧ g i = true := by
  unfold orR
  rw [List.any_eq_true]
  exact ⟨fun ⟨i, h1, h2⟩ => ⟨i, List.mem_range.1 h1, h2⟩, fun ⟨i, h1, h2⟩ => ⟨i, List.mem_range.2 h1, h2⟩⟩
def slL (blk : Nat → Bool) (t : Nat) : Bool := blk (bk t)
def slK (blk : Nat → Bool) (q : Nat) : Bool := orR fun i => slL blk (kb q + i)
def slA (blk : Nat → Bool) (t : Nat) : Bool := if t = 5 then orR (fun i => slK blk (14 + i)) else if isP t then slK blk t else slL blk t
theorem Fo.slots {V : Nat → List UInt8} {m : Nat → Bool} {N : Nat} {x : NoS} {a : Nat → Nat} {f : Fs} (h : Fo V m N x a f) : ∀ t, t < 86 → (a t ≠ 0 ↔ slA f.blk t = true) := by
  have node : ∀ q, isP q → (a q ≠ 0 ↔ ∃ i, i < 8 ∧ a (kb q + i) ≠ 0) := fun q hq => ⟨h.fl.full q hq, fun ⟨i, hi, hne⟩ e => hne (h.fl.tr.none_ q hq e i hi)⟩
  have leaf : ∀ t, t < 86 → ¬ isP t → (a t ≠ 0 ↔ slL f.blk t = true) := fun t h8 hp => by
    obtain ⟨e, hb⟩ := sb_bk h8 hp
    have := h.blk (bk t) hb
    rw [e] at this
    exact this
  have one : ∀ q, isP q → q ≠ 5 → (a q ≠ 0 ↔ slK f.blk q = true) := fun q hq h5 => by
    rw [node q hq]
    unfold slK
    rw [orR_iff]
    have hl : ∀ i, i < 8 → ¬ isP (kb q + i) := fun i hi => by
      rcases isP_cases hq with ⟨rfl, e⟩ | ⟨rfl, e⟩ | ⟨h1, h2, e⟩
      · rw [e]; unfold isP; omega
      · exact absurd rfl h5
      · rw [e]; unfold isP; omega
    exact ⟨fun ⟨i, hi, h⟩ => ⟨i, hi, (leaf _ (kb_lt hq hi) (hl i hi)).1 h⟩, fun ⟨i, hi, h⟩ => ⟨i, hi, (leaf _ (kb_lt hq hi) (hl i hi)).2 h⟩⟩
  intro t h8
  unfold slA
  by_cases h5 : t = 5
  · subst h5
    rw [if_pos rfl, node 5 (.inr (.inl rfl)), orR_iff]
    exact ⟨fun ⟨i, hi, h⟩ => ⟨i, hi, (one _ (show isP (14 + i) by unfold isP; omega) (by omega)).1 h⟩, fun ⟨i, hi, h⟩ => ⟨i, hi, (one _ (show isP (14 + i) by unfold isP; omega) (by omega)).2 h⟩⟩
  · rw [if_neg h5]
    by_cases hp : isP t
    · rw [if_pos hp]; exact one t hp h5
    · rw [if_neg hp]; exact leaf t h8 hp
/-- How many sectors a file has. -/
def secN (blk : Nat → Bool) : Nat := (allS.filter (slA blk)).length
theorem Fo.secs {V : Nat → List UInt8} {m : Nat → Bool} {N : Nat} {x : NoS} {a : Nat → Nat} {f : Fs} (h : Fo V m N x a f) : (allL a).length = secN f.blk := by
  rw [allL_eq, List.length_map]
  unfold secN
  rw [List.filter_congr (fun t ht => ?_)]
  have := h.slots t (allS_lt t ht)
  rw [Bool.eq_iff_iff, decide_eq_true_eq]
  exact this
end Go.Proofs.YtehfoopefefpnaaGreat
/- Two files of a store, plain. -/
set_option linter.unusedSimpArgs false
set_option linter.unusedVariables false
namespace Go.Proofs.YtehfoopefefpnaaGreat
open Go.RowKit

structure Pr (N : Nat) (V : Nat → List UInt8) (m : Nat → Bool) (xs : Nat → NoS) (a : Nat → Nat → Nat) (F : Nat → Fs) : Prop where
  fo : ∀ i, i < 2 → Fo V m N (xs (2 + i)) (a i) (F i)
  dis : ∀ i j t u, i < 2 → j < 2 → i ≠ j → t < 86 → u < 86 → a i t = a j u → a i t = 0
  mark : ∀ k, 43 ≤ k → k < N → (m k = true ↔ ∃ i t, i < 2 ∧ t < 86 ∧ a i t = k)
theorem Pr.write {N : Nat} {V V' : Nat → List UInt8} {m m' : Nat → Bool} {xs : Nat → NoS} {a : Nat → Nat → Nat} {F : Nat → Fs} {i : Nat} {a' : Nat → Nat} {y : NoS} {p : Nat} {d : List UInt8} (h : Pr N V m xs a F) (hi : i < 2) (ht : TreeOk V' m' N y a') (hw : Wrt N V m (a i) V' m' a' (rangeS p d.length) p d) (hd : 0 < d.length) (hp : p + d.length ≤ 9728) (hne : ∀ b, inRange p d.length b → a' (sb b) ≠ 0) (hy : wroteN (xs (2 + i)) y (p + d.length)) : Pr N V' m' (updF xs (2 + i) y) (updF a i a') (updF F i ((F i).write p d)) := by
  have key : ∀ t, t < 86 → a' t ≠ 0 → (a i t ≠ 0 ∧ a' t = a i t) ∨ (a i t = 0 ∧ m (a' t) = false) := fun t h8 h1 => by
    by_cases h0 : a i t = 0
    · exact .inr ⟨h0, hw.new t h8 h0 h1⟩
    · exact .inl ⟨h0, hw.old t h8 h0⟩
  have hdis : ∀ j t u, j < 2 → j ≠ i → t < 86 → u < 86 → a' t = a j u → a' t = 0 := fun j t u hj hji h8 hu e => Classical.byContradiction fun hz => by
    rcases key t h8 hz with ⟨h1, h2⟩ | ⟨h1, h2⟩
    · exact h1 (h.dis i j t u hi hj (fun e => hji e.symm) h8 hu (h2.symm.trans e))
    · obtain ⟨_, _, h3⟩ := (h.fo j hj).fl.tr.rng u hu (by rw [← e]; exact hz)
      rw [← e, h2] at h3
      cases h3
  refine ⟨fun j hj => ?_, fun j l t u hj hl hjl h8 hu e => ?_, fun k h1 h2 => ?_⟩
  · by_cases e : j = i
    · subst e
      rw [updF_same, updF_same, updF_same]
      exact (h.fo j hj).write ht hw hd hp hne hy
    · rw [updF_ne _ _ (by omega), updF_ne _ _ e, updF_ne _ _ e]
      refine (h.fo j hj).other (fun t h8 h0 => ?_) (fun t h8 h0 => ?_)
      · obtain ⟨r1, r2, r3⟩ := (h.fo j hj).fl.tr.rng t h8 h0
        exact hw.view _ r1 r2 r3 (fun s hs e2 => h0 (h.dis j i t s hj hi e h8 hs e2.symm))
      · obtain ⟨_, _, r3⟩ := (h.fo j hj).fl.tr.rng t h8 h0
        exact (hw.mark _).2 (.inl r3)
  · by_cases e1 : j = i
    · subst e1
      rw [updF_same] at e ⊢
      rw [updF_ne _ _ (fun e => hjl e.symm)] at e
      exact hdis l t u hl (fun e => hjl e.symm) h8 hu e
    · rw [updF_ne _ _ e1] at e ⊢
      by_cases e2 : l = i
      · subst e2
        rw [updF_same] at e
        have := hdis j u t hj hjl hu h8 e.symm
        rw [e, this]
      · rw [updF_ne _ _ e2] at e
        exact h.dis j l t u hj hl hjl h8 hu e
  · rw [hw.mark k, h.mark k h1 h2]
    constructor
    · rintro (⟨j, t, hj, h8, e⟩ | ⟨t, h8, h0, e, _⟩)
      · by_cases e1 : j = i
        · subst e1
          exact ⟨j, t, hj, h8, by rw [updF_same, hw.old t h8 (by omega)]; exact e⟩
        · exact ⟨j, t, hj, h8, by rw [updF_ne _ _ e1]; exact e⟩
      · exact ⟨i, t, hi, h8, by rw [updF_same]; exact e⟩
    · rintro ⟨j, t, hj, h8, e⟩
      by_cases e1 : j = i
      · subst e1
        rw [updF_same] at e
        by_cases h0 : a j t = 0
        · exact .inr ⟨t, h8, h0, e, by omega⟩
        · exact .inl ⟨j, t, hj, h8, by rw [← hw.old t h8 h0]; exact e⟩
      · rw [updF_ne _ _ e1] at e
        exact .inl ⟨j, t, hj, h8, e⟩
theorem Pr.trunc {N : Nat} {V V' : Nat → List UInt8} {m m' : Nat → Bool} {xs : Nat → NoS} {a : Nat → Nat → Nat} {F : Nat → Fs} {i : Nat} {a' : Nat → Nat} {y : NoS} {z : Nat} (h : Pr N V m xs a F) (hi : i < 2) (hfl : Fl V' m' N y a') (ht : Trc V m (a i) V' m' a' z) (hk : y.kind = (xs (2 + i)).kind) (hz : y.size = z) : Pr N V' m' (updF xs (2 + i) y) (updF a i a') (updF F i ((F i).trunc z)) := by
  have hdis : ∀ j t u, j < 2 → j ≠ i → t < 86 → u < 86 → a' t = a j u → a' t = 0 := fun j t u hj hji h8 hu e => by
    rcases ht.old t with h1 | h1
    · exact h1
    · rw [h1] at e ⊢
      exact h.dis i j t u hi hj (fun e => hji e.symm) h8 hu e
  refine ⟨fun j hj => ?_, fun j l t u hj hl hjl h8 hu e => ?_, fun k h1 h2 => ?_⟩
  · by_cases e : j = i
    · subst e
      rw [updF_same, updF_same, updF_same]
      exact (h.fo j hj).trunc hfl ht hk hz
    · rw [updF_ne _ _ (by omega), updF_ne _ _ e, updF_ne _ _ e]
      refine (h.fo j hj).other (fun t h8 h0 => ?_) (fun t h8 h0 => ?_)
      · exact ht.view _ h0 (fun s hs e2 => h0 (h.dis j i t s hj hi e h8 hs e2.symm))
      · obtain ⟨_, _, r3⟩ := (h.fo j hj).fl.tr.rng t h8 h0
        exact (ht.mark _).2 ⟨r3, fun s hs e2 _ => absurd (h.dis j i t s hj hi e h8 hs e2.symm) h0⟩
  · by_cases e1 : j = i
    · subst e1
      rw [updF_same] at e ⊢
      rw [updF_ne _ _ (fun e => hjl e.symm)] at e
      exact hdis l t u hl (fun e => hjl e.symm) h8 hu e
    · rw [updF_ne _ _ e1] at e ⊢
      by_cases e2 : l = i
      · subst e2
        rw [updF_same] at e
        have := hdis j u t hj hjl hu h8 e.symm
        rw [e, this]
      · rw [updF_ne _ _ e2] at e
        exact h.dis j l t u hj hl hjl h8 hu e
  · rw [ht.mark k, h.mark k h1 h2]
    constructor
    · rintro ⟨⟨j, t, hj, h8, e⟩, hno⟩
      by_cases e1 : j = i
      · subst e1
        have hne := hno t h8 e (by omega)
        refine ⟨j, t, hj, h8, ?_⟩
        rw [updF_same]
        rcases ht.old t with h3 | h3
        · exact absurd h3 hne
        · rw [h3]; exact e
      · exact ⟨j, t, hj, h8, by rw [updF_ne _ _ e1]; exact e⟩
    · rintro ⟨j, t, hj, h8, e⟩
      by_cases e1 : j = i
      · subst e1
        rw [updF_same] at e
        have hat : a' t = a j t := by
          rcases ht.old t with h3 | h3
          · omega
          · exact h3
        refine ⟨⟨j, t, hj, h8, by rw [← hat]; exact e⟩, fun s hs e2 _ => ?_⟩
        have := (h.fo j hj).fl.tr.inj s t hs h8 (by rw [e2, ← hat, e]) (by omega)
        rw [this, e]
        omega
      · rw [updF_ne _ _ e1] at e
        refine ⟨⟨j, t, hj, h8, e⟩, fun s hs e2 h0 => ?_⟩
        exact absurd (h.dis j i t s hj hi e1 h8 hs (e.trans e2.symm)) (by omega)
/-- How many sectors are taken. -/
theorem Pr.count {N : Nat} {V : Nat → List UInt8} {m : Nat → Bool} {xs : Nat → NoS} {a : Nat → Nat → Nat} {F : Nat → Fs} (h : Pr N V m xs a F) : cntM m 43 (N - 43) = secN (F 0).blk + secN (F 1).blk := by
  have h0 := h.fo 0 (by decide)
  have h1 := h.fo 1 (by decide)
  rw [← h0.secs, ← h1.secs, ← List.length_append]
  refine cntM_list (List.nodup_append.2 ⟨allL_nodup h0.fl.tr, allL_nodup h1.fl.tr, fun x hx y hy e => ?_⟩) (fun k => ?_)
  · obtain ⟨hx0, t, ht, e1⟩ := (allL_mem _ _).1 hx
    obtain ⟨_, u, hu, e2⟩ := (allL_mem _ _).1 hy
    have := h.dis 0 1 t u (by decide) (by decide) (by decide) ht hu (by rw [e1, e2, e])
    omega
  · rw [List.mem_append, allL_mem, allL_mem]
    constructor
    · have key : ∀ i, i < 2 → (k ≠ 0 ∧ ∃ t, t < 86 ∧ a i t = k) → 43 ≤ k ∧ k < 43 + (N - 43) ∧ m k = true := fun i hi ⟨hk, t, ht, e⟩ => by
        obtain ⟨r1, r2, r3⟩ := (h.fo i hi).fl.tr.rng t ht (by omega)
        rw [e] at r1 r2 r3
        exact ⟨r1, by omega, r3⟩
      rintro (hh | hh)
      · exact key 0 (by decide) hh
      · exact key 1 (by decide) hh
    · rintro ⟨h2, h3, h4⟩
      obtain ⟨i, t, hi, ht, e⟩ := (h.mark k h2 (by omega)).1 h4
      rcases (by omega : i = 0 ∨ i = 1) with rfl | rfl
      · exact .inl ⟨by omega, t, ht, e⟩
      · exact .inr ⟨by omega, t, ht, e⟩
end Go.Proofs.YtehfoopefefpnaaGreat
/- Two files of a store: what the calls do. -/
set_option linter.unusedSimpArgs false
set_option linter.unusedVariables false
namespace Go.Proofs.YtehfoopefefpnaaGreat
open Go.RowKit

def TwoC (B : Nat) (c : SWc) (F : Nat → Fs) (K : Nat) (w : World) : Prop := ∃ V m xs a, SW B c V m xs [] w ∧ Cm c V m xs ∧ Pr c.N V m xs a F ∧ cntM m 43 (c.N - 43) ≤ K
def TwoU (B : Nat) (c : SWc) (F : Nat → Fs) (K : Nat) (w : World) : Prop := ∃ U V m xs a, SW B c V m xs U w ∧ Pr c.N V m xs a F ∧ cntM m 43 (c.N - 43) ≤ K
theorem TwoC.u {B : Nat} {c : SWc} {F : Nat → Fs} {K : Nat} {w : World} (h : TwoC B c F K w) : TwoU B c F K w := by
  obtain ⟨V, m, xs, a, h1, _, h2, h3⟩ := h
  exact ⟨[], V, m, xs, a, h1, h2, h3⟩
theorem TwoC.below {B : Nat} {c : SWc} {F : Nat → Fs} {K : Nat} {w w' : World} (h : TwoC B c F K w) (hb : Below w.heap.size w w') : TwoC B c F K w' := by
  obtain ⟨V, m, xs, a, h1, h2, h3⟩ := h
  exact ⟨V, m, xs, a, h1.below hb, h2, h3⟩
theorem TwoU.below {B : Nat} {c : SWc} {F : Nat → Fs} {K : Nat} {w w' : World} (h : TwoU B c F K w) (hb : Below w.heap.size w w') : TwoU B c F K w' := by
  obtain ⟨U, V, m, xs, a, h1, h3⟩ := h
  exact ⟨U, V, m, xs, a, h1.below hb, h3⟩
theorem cnt_write {N : Nat} {V : Nat → List UInt8} {m : Nat → Bool} {a : Nat → Nat} {V' : Nat → List UInt8} {m' : Nat → Bool} {a' : Nat → Nat} {S : Nat → Prop} {p : Nat} {d : List UInt8} (hw : Wrt N V m a V' m' a' S p d) {T : List Nat} (hS : ∀ t, S t → t ∈ T) (k : Nat) : cntM m' 43 k ≤ cntM m 43 k + T.length := by
  have h1 : (((List.range k).filter fun i => m' (43 + i)).map fun i => 43 + i).length ≤ ((((List.range k).filter fun i => m (43 + i)).map fun i => 43 + i) ++ T.map a').length := by
    refine nodup_len _ _ ?_ (fun i hi => ?_)
    · exact nodup_map_on (List.Pairwise.filter _ List.nodup_range) (fun x _ y _ e => by omega)
    · obtain ⟨j, hj, rfl⟩ := List.mem_map.1 hi
      obtain ⟨h1, h2⟩ := List.mem_filter.1 hj
      rcases (hw.mark (43 + j)).1 h2 with h | ⟨t, h8, h0, e, hne⟩
      · exact List.mem_append_left _ (List.mem_map.2 ⟨j, List.mem_filter.2 ⟨h1, h⟩, rfl⟩)
      · exact List.mem_append_right _ (List.mem_map.2 ⟨t, hS t (hw.slots t h8 h0 (by rw [e]; exact hne)), e⟩)
  rw [List.length_map, List.length_append, List.length_map, List.length_map] at h1
  exact h1
def TwwP (B : Nat) (c : SWc) (F : Nat → Fs) (K : Nat) (w : World) (e : Ending) (w' : World) : Prop := e = .returned (.int .i64 0) ∧ TwoU B c F K w' ∧ FwK c w w'
theorem two_write {B : Nat} {c : SWc} {F : Nat → Fs} {K : Nat} {w : World} (h : TwoC B c F K w) (i : Nat) (hi : i < 2) (p : Nat) (d : List UInt8) (hd : 0 < d.length) (hp : p + d.length ≤ 9728) (hT : (wT p d.length).length ≤ 18) (hK : K + (wT p d.length).length < c.N - 43) (A : Option Addr) (cc : Nat) (hsl : Sl w 1 (.slice A d.length cc) d.length (bv d)) (hA : ∀ j, A.map (·.block) = some j → j ≠ c.p.b) :
    Calls Tryz.prog 12 #[.pointer (some ⟨c.p.k, 0, none⟩), .int .i64 ((2 + i : Nat) : Int), .int .i64 (p : Int), .slice A d.length cc] w (TwwP B c (updF F i ((F i).write p d)) (K + (wT p d.length).length) w) := by
  obtain ⟨V, m, xs, a, hsw, _, hpr, hc⟩ := h
  have hfo := hpr.fo i hi
  have h35 : 35 + (2 + i) / 4 = 35 := by omega
  have hsw1 := hsw.mono (U' := ub ++ (wT p d.length).map (a i)) (fun j hj => by cases hj)
  refine (fwrite_walk hsw1 (by omega) hfo.fl.tr p d hd hp (.inl hfo.kind) A cc hsl hA (by show 3 + _ ≤ 22; omega) (by decide) (by decide) (by rw [h35]; decide) (fun b hb k hk => wT_mem hb hk)).mono ?_
  rintro e w' ⟨V', m', a', hk, ⟨rfl, y, hsw', ht', hwr, hne, hwn⟩ | ⟨_, _, ⟨q, hwr⟩, _, hall, _⟩⟩
  · exact ⟨rfl, ⟨_, V', m', _, _, hsw', hpr.write hi ht' hwr hd hp hne hwn, Nat.le_trans (cnt_write hwr (fun t ht => rangeS_wT ht) _) (by omega)⟩, hk⟩
  · exfalso
    have h1 := full_space hwr (fun t ht => rangeS_wT ht) hall
    omega
def TwcP (B : Nat) (c : SWc) (F : Nat → Fs) (K : Nat) (w : World) (e : Ending) (w' : World) : Prop := ∃ c', c'.p = c.p ∧ c'.N = c.N ∧ c'.sup = c.sup ∧ e = .returned (.int .i64 0) ∧ TwoC B c' F K w' ∧ Keep (fun j => j = c.p.kd ∨ j = c.p.g ∨ j = c.p.b ∨ w.heap.size ≤ j) w w'
theorem two_commit {B : Nat} {c : SWc} {F : Nat → Fs} {K : Nat} {w : World} (h : TwoU B c F K w) :
    Calls Tryz.prog 16 #[.pointer (some ⟨c.p.k, 0, none⟩)] w (TwcP B c F K w) := by
  obtain ⟨U, V, m, xs, a, hsw, hpr, hc⟩ := h
  refine (wcommit2 hsw).mono ?_
  rintro e w' ⟨d', rfl, hsw', hcm, hk⟩
  exact ⟨⟨c.p, d', c.sup, c.N⟩, rfl, rfl, rfl, rfl, ⟨V, m, xs, a, hsw', hcm, hpr, hc⟩, hk⟩
theorem two_free {B : Nat} {c : SWc} {F : Nat → Fs} {K : Nat} {w : World} (h : TwoU B c F K w) :
    Calls Tryz.prog 17 #[.pointer (some ⟨c.p.k, 0, none⟩)] w fun e w' => e = .returned (.int .i64 ((c.N - 43 - (secN (F 0).blk + secN (F 1).blk) : Nat) : Int)) ∧ Below w.heap.size w w' := by
  obtain ⟨U, V, m, xs, a, hsw, hpr, hc⟩ := h
  have := wfree hsw
  rw [hpr.count] at this
  exact this
theorem two_read {B : Nat} {c : SWc} {F : Nat → Fs} {K : Nat} {w : World} (h : TwoU B c F K w) (i : Nat) (hi : i < 2) (hz : (F i).size ≤ 9728) :
    Calls Tryz.prog 10 #[.pointer (some ⟨c.p.k, 0, none⟩), .int .i64 ((2 + i : Nat) : Int), .int .i64 0, .int .i64 9728] w fun e w' => ∃ A, e = .returned (.tuple #[.slice A (F i).size (F i).size, .int .i64 0]) ∧ NB w.heap.size w' A (F i).size ((List.range (F i).size).map (F i).ct) ∧ Below w.heap.size w w' := by
  obtain ⟨U, V, m, xs, a, hsw, hpr, hc⟩ := h
  have hfo := hpr.fo i hi
  refine Calls.mono (fread_walk hsw (by omega) (by rw [hfo.kind]; decide) hfo.fl.tr 0 9728 (F i).size (by decide) (by decide) (by rw [hfo.size]; omega)) ?_
  rintro e w' ⟨A, rfl, hnb, hb⟩
  refine ⟨A, rfl, ?_, hb⟩
  have : ctL V (a i) 0 (F i).size = (List.range (F i).size).map (F i).ct := by
    unfold ctL
    refine List.map_congr_left (fun k hk => ?_)
    have := List.mem_range.1 hk
    rw [Nat.zero_add]
    exact hfo.ct k (by omega)
  rw [← this]
  exact hnb
theorem two_sectors {B : Nat} {c : SWc} {F : Nat → Fs} {K : Nat} {w : World} (h : TwoU B c F K w) (i : Nat) (hi : i < 2) :
    Calls Tryz.prog 11 #[.pointer (some ⟨c.p.k, 0, none⟩), .int .i64 ((2 + i : Nat) : Int)] w fun e w' => ∃ A, e = .returned (.tuple #[.slice A (secN (F i).blk) (secN (F i).blk), .int .i64 0]) ∧ Below w.heap.size w w' := by
  obtain ⟨U, V, m, xs, a, hsw, hpr, hc⟩ := h
  have hfo := hpr.fo i hi
  refine (sectors_walk_file hsw (by omega) (by rw [hfo.kind]; decide) hfo.fl.tr).mono ?_
  rintro e w' ⟨A, rfl, _, _, hb⟩
  rw [hfo.secs]
  exact ⟨A, rfl, hb⟩
end Go.Proofs.YtehfoopefefpnaaGreat
/- The walk of SpaceHoles. -/
set_option linter.unusedSimpArgs false
set_option linter.unusedVariables false
namespace Go.Proofs.YtehfoopefefpnaaGreat
open Go.RowKit

attribute [local go_sem ↓] Go.wp_at_zero Go.wp_at_succ
set_option maxHeartbeats 1000000 in
theorem fwrite_none {B : Nat} {c : SWc} {V : Nat → List UInt8} {m : Nat → Bool} {xs : Nat → NoS} {U : List Nat} {w : World} (h : SW B c V m xs U w) {n : Nat} (hn : n < 32) (hk : (xs n).kind ≠ 0) (p : Nat) (A : Option Addr) (cc : Nat) :
    Calls Tryz.prog 12 #[.pointer (some ⟨c.p.k, 0, none⟩), .int .i64 (n : Int), .int .i64 (p : Int), .slice A 0 cc] w fun e w' => e = .returned (.int .i64 0) ∧ Below w.heap.size w w' := by
  have HOP := Lib.hid (open_walk h hn hk)
  have g0 : ¬ (p : Int) < 0 := by omega
  clear h hn hk
  go_enter Tryz.func12, Tryz.ntmps12
  go_wp2_with fail
  refine HOP.out.mono ?_
  rintro r w1 ⟨kf, rfl, _, _, hb1⟩
  have HB1 := Lib.hid hb1
  clear hb1
  go_wp2
  go_ret
  exact ⟨rfl, HB1.out⟩
/-- What a law knows of its file. -/
structure Ho (B : Nat) (c : SWc) (n en : Nat) (f : Nat → UInt8) (tt : List Nat) (w : World) : Prop where
  ex : ∃ V m a xs U, SW B c V m xs U w ∧ U.length ≤ 24 ∧ 34 ∈ U ∧ 35 + n / 4 ∈ U ∧ (xs n).kind = 1 ∧ Fl V m c.N (xs n) a ∧ (xs n).size = en ∧ (∀ k, k < 9728 → Ct V a k = f k) ∧ (∀ t ∈ tt, a t = 0 ∨ a t ∈ U)
theorem Ho.below {B : Nat} {c : SWc} {n en : Nat} {f : Nat → UInt8} {tt : List Nat} {w w' : World} (h : Ho B c n en f tt w) (hb : Below w.heap.size w w') : Ho B c n en f tt w' := by
  obtain ⟨V, m, a, xs, U, h1, h2⟩ := h.ex
  exact ⟨V, m, a, xs, U, h1.below hb, h2⟩
def HwP (B : Nat) (c : SWc) (n en : Nat) (f : Nat → UInt8) (tt : List Nat) (w0 w : World) (e : Ending) (w' : World) : Prop := e = .returned (.int .i64 0) ∧ Ho B c n en f tt w' ∧ Below B w0 w'
/-- A node that is new. -/
structure NewN (x : NoS) : Prop where
  kind : x.kind = 1
  size : x.size = 0
  ptr : ∀ i, i < 6 → x.ptr i = 0
theorem nw_new (g : Nat) (x : NoS) : NewN (nwNode 1 g x) := ⟨rfl, rfl, fun i hi => by
  rcases (by omega : i = 0 ∨ i = 1 ∨ i = 2 ∨ i = 3 ∨ i = 4 ∨ i = 5) with rfl | rfl | rfl | rfl | rfl | rfl <;> rfl⟩
theorem ct_nil (V : Nat → List UInt8) (k : Nat) : Ct V (fun _ => 0) k = 0 := by unfold Ct; rw [if_pos rfl]
theorem hole_write {B : Nat} {c : SWc} {V : Nat → List UInt8} {m : Nat → Bool} {xs : Nat → NoS} {w0 w : World} {n : Nat} (h : SW B c V m xs ub w) (hn : n < 4) (hb : Below B w0 w) (hB : B = w0.heap.size) (hx : NewN (xs n)) (hfree : cntM m 43 (c.N - 43) + 12 < c.N - 43) (p : Nat) (hp : p < 9000) (d : List UInt8) (hd : d.length ≤ 300) (A : Option Addr) (cc : Nat) (hsl : Sl w 1 (.slice A d.length cc) d.length (bv d)) (hA : d.length ≠ 0 → ∀ j, A.map (·.block) = some j → j ≠ c.p.b) (tt : List Nat) (htt : tt.length ≤ 4) :
    Calls Tryz.prog 12 #[.pointer (some ⟨c.p.k, 0, none⟩), .int .i64 (n : Int), .int .i64 (p : Int), .slice A d.length cc] w (HwP B c n (if d.length = 0 then 0 else p + d.length) (fun k => if p ≤ k ∧ k < p + d.length then d.getD (k - p) 0 else 0) tt w0 w) := by
  have hfl : Fl V m c.N (xs n) (fun _ => 0) := Fl.fresh hx.ptr
  have h35 : 35 + n / 4 = 35 := by omega
  by_cases h0 : d.length = 0
  · rw [h0, if_pos rfl]
    refine (fwrite_none h (by omega) (by rw [hx.kind]; decide) p A cc).mono ?_
    rintro e w' ⟨rfl, hb'⟩
    refine ⟨rfl, ⟨V, m, _, xs, ub, h.below hb', by decide, by decide, by rw [h35]; decide, hx.kind, hfl, hx.size, fun k hk => ?_, fun t _ => .inl rfl⟩, hb.trans (hb'.mono (by rw [hB]; exact hb.size))⟩
    rw [ct_nil, if_neg (by omega)]
  · rw [if_neg h0]
    have hT : (wT p d.length ++ tt).length ≤ 16 := by
      have := wT_len p d.length
      rw [List.length_append]
      have h3 : (p + d.length - 1) / 128 + 1 - p / 128 ≤ 4 := by omega
      omega
    have hsw := h.mono (U' := ub ++ (wT p d.length ++ tt).map (fun _ => 0)) (fun i hi => List.mem_append_left _ hi)
    refine (fwrite_walk hsw (by omega) hfl.tr p d (by omega) (by omega) (.inl hx.kind) A cc hsl (hA h0) (by show 3 + _ ≤ 22; omega) (by decide) (by decide) (by rw [h35]; decide) (fun b hb k hk => List.mem_append_left _ (wT_mem hb hk))).mono ?_
    rintro e w' ⟨V', m', a', hk, ⟨rfl, y, hsw', ht', hwr, hne, hwn⟩ | ⟨_, _, ⟨q, hwr⟩, _, hall, _⟩⟩
    · obtain ⟨k1, k2, k3, k4, k5⟩ := hwn
      rw [hx.size] at k4
      have hfl' := (hfl.write ht' hwr (by omega) (by omega) hne (by rw [k4, hx.size])).1
      refine ⟨rfl, ⟨V', m', a', updF xs n y, _, hsw', ?_, List.mem_append_left _ (by decide), List.mem_append_left _ (by rw [h35]; decide), by rw [updF_same, k1, hx.kind], by rw [updF_same]; exact hfl', by rw [updF_same, k4]; omega, fun k hk => ?_, fun t ht => .inr (List.mem_append_right _ (List.mem_map.2 ⟨t, List.mem_append_right _ ht, rfl⟩))⟩, fwk_below hsw hb hB hk⟩
      · rw [List.length_append, List.length_map]
        show 3 + _ ≤ 24
        omega
      · rw [hwr.ct k hk, ct_nil]
    · exfalso
      have h1 := full_space hwr (fun t ht => rangeS_wT ht) hall
      have := wT_len p d.length
      have h3 : (p + d.length - 1) / 128 + 1 - p / 128 ≤ 4 := by omega
      omega
/-- Trunc of such a file. -/
theorem hole_trunc {B : Nat} {c : SWc} {n en : Nat} {f : Nat → UInt8} {tt : List Nat} {w0 w : World} (h : Ho B c n en f tt w) (hn : n < 32) (hb : Below B w0 w) (hB : B = w0.heap.size) (sz : Nat) (hz : sz ≤ 9728) (htt : sz < en → ∀ t ∈ truT sz, t ∈ tt) :
    Calls Tryz.prog 13 #[.pointer (some ⟨c.p.k, 0, none⟩), .int .i64 (n : Int), .int .i64 (sz : Int)] w (HwP B c n sz (fun k => if k < sz then f k else 0) tt w0 w) := by
  obtain ⟨V, m, a, xs, U, hsw, hU, h34, h35, hk, hfl, hsz, hct, ht⟩ := h.ex
  refine (trunc_walk hsw hn hfl sz hz (.inl hk) hU h34 h35 (fun hlt t h1 => ht t (htt (by rw [← hsz]; exact hlt) t h1))).mono ?_
  rintro e w' ⟨rfl, V', m', a', y, hsw', hfl', htc, k1, k2, k3, k4, k5, hkk⟩
  refine ⟨rfl, ⟨V', m', a', updF xs n y, U, hsw', hU, h34, h35, by rw [updF_same, k1, hk], by rw [updF_same]; exact hfl', by rw [updF_same, k4], fun k hk => ?_, fun t h1 => ?_⟩, fwk_below hsw hb hB hkk⟩
  · rw [htc.ct k hk, hct k hk]
  · rcases htc.old t with e | e
    · exact .inl e
    · rw [e]; exact ht t h1
/-- Read of such a file. -/
theorem hole_read {B : Nat} {c : SWc} {n en : Nat} {f : Nat → UInt8} {tt : List Nat} {w : World} (h : Ho B c n en f tt w) (hn : n < 32) (hen : en ≤ 9728) :
    Calls Tryz.prog 10 #[.pointer (some ⟨c.p.k, 0, none⟩), .int .i64 (n : Int), .int .i64 0, .int .i64 9728] w fun e w' => ∃ A, e = .returned (.tuple #[.slice A en en, .int .i64 0]) ∧ NB w.heap.size w' A en ((List.range en).map f) ∧ Below w.heap.size w w' := by
  obtain ⟨V, m, a, xs, U, hsw, hU, h34, h35, hk, hfl, hsz, hct, ht⟩ := h.ex
  have hr := fread_walk hsw hn (by rw [hk]; decide) hfl.tr 0 9728 en (by decide) (by decide) (by rw [hsz]; omega)
  refine Calls.mono hr ?_
  rintro e w' ⟨A, rfl, hnb, hb⟩
  refine ⟨A, rfl, ?_, hb⟩
  have : ctL V a 0 en = (List.range en).map f := by
    unfold ctL
    refine List.map_congr_left (fun i hi => ?_)
    have := List.mem_range.1 hi
    rw [Nat.zero_add]
    exact hct i (by omega)
  rw [← this]
  exact hnb
theorem begin_new {w w1 : World} {c : SWc} {n : Nat} (hsw : SW w.heap.size c v00 m43 freshX [] w1) (hcs : c.sup = ⟨n, 1, 0⟩) :
    Calls Tryz.prog 15 #[.pointer (some ⟨c.p.k, 0, none⟩), .int .i64 1] w1 fun e w' => e = .returned (.tuple #[.int .i64 2, .int .i64 0]) ∧ SW w.heap.size c.nw v00 m43 (updF freshX 2 (nwNode 1 c.sup.gens (freshX 2))) ub w' ∧ Keep (fun j => j = c.p.b ∨ j = c.p.k) w1 w' :=
  wnew (k := 2) (hsw.mono (U' := ub) (fun i hi => by cases hi)) (by decide) (by decide) (by decide) (by decide) (by decide) (fun n h1 h2 => by
    obtain rfl : n = 1 := by omega
    decide) (by decide) (by rw [hcs]; show 0 < 1073741824; decide) 1 (.inl rfl)
def holeF (p less en : Nat) (d : List UInt8) (k : Nat) : UInt8 := if k < less ∧ p ≤ k ∧ k < en then d.getD (k - p) 0 else 0
set_option maxRecDepth 100000 in
set_option maxHeartbeats 8000000 in
theorem holes_walk (at_ sz ct : Nat) (ha : at_ ≤ 65535) (hs : sz ≤ 65535) (hc : ct ≤ 65535) (d : List UInt8) (A : Option Addr) (cc : Nat) (w : World) (hsl : Sl w 1 (.slice A d.length cc) d.length (bv d)) :
    Calls Tryz.prog 4 #[.int .u16 (at_ : Int), .int .u16 (sz : Int), .slice A d.length cc, .int .u16 (ct : Int)] w fun e w' => e = .returned (.bool true) ∧ Below w.heap.size w w' := by
  have HBE : Hid (Calls Tryz.prog 8 #[.int .i64 200] w (BgS 200 w)) := Lib.hid (begin14_walk 200 (by decide) (by decide) w)
  obtain ⟨dl, hdl⟩ : ∃ z, z = d.length := ⟨_, rfl⟩
  have HDL := Lib.hid hdl
  have HSL := Lib.hid hsl
  rw [← hdl]
  have v1 : IntKind.i64.wrap (at_ : Int) = (at_ : Int) := IntWalk.i64_in _ (by omega)
  have v2 : IntKind.i64.wrap (sz : Int) = (sz : Int) := IntWalk.i64_in _ (by omega)
  have v3 : IntKind.i64.wrap (ct : Int) = (ct : Int) := IntWalk.i64_in _ (by omega)
  obtain ⟨p, hp⟩ : ∃ p : Nat, p = at_ % 9000 := ⟨_, rfl⟩
  have p1 : (at_ : Int) % 9000 = (p : Int) := by omega
  have p2 : IntKind.i64.wrap (p : Int) = (p : Int) := IntWalk.i64_in _ (by omega)
  have hp9 : p < 9000 := by omega
  clear hsl hdl hp ha
  go_enter Tryz.func4, Tryz.ntmps4
  go_wp2_with fail
  refine HBE.out.mono ?_
  rintro r' w1 ⟨c, rfl, hsw1, hcN, hcs, hb1⟩
  have HAW := Lib.hid (awake14_walk w1)
  have HSW1 := Lib.hid hsw1
  have HB1 := Lib.hid hb1
  have HCN := Lib.hid hcN
  have HCS := Lib.hid hcs
  clear hsw1 hb1 hcN hcs
  go_wp2_with fail
  refine HAW.out.mono ?_
  rintro r' w2 ⟨rfl, hb2⟩
  by_cases hbig : 300 < dl
  · have g1 : (300 : Int) < (dl : Int) := by omega
    have HAW2 := Lib.hid (awake14_walk w2)
    have HB2 := Lib.hid (bstep HB1.out hb2)
    clear hb2 hbig
    go_wp2_with fail
    refine HAW2.out.mono ?_
    rintro r' w3 ⟨rfl, hb3⟩
    have HB3 := Lib.hid (bstep HB2.out hb3)
    clear hb3
    go_wp2
    go_ret
    exact ⟨rfl, HB3.out⟩
  · have g1 : ¬ (300 : Int) < (dl : Int) := by omega
    have HNW := Lib.hid (begin_new (HSW1.out.below hb2) HCS.out)
    have HB2 := Lib.hid (bstep HB1.out hb2)
    have HSW2 := Lib.hid (HSW1.out.below hb2)
    clear hb2
    go_wp2_with fail
    refine HNW.out.mono ?_
    rintro r' w3 ⟨rfl, hsw3, hk3⟩
    have hb3 := nwk_below HSW2.out HB2.out rfl hk3
    obtain ⟨en, hen⟩ : ∃ en : Nat, en = if dl = 0 then 0 else p + dl := ⟨_, rfl⟩
    obtain ⟨less, hless⟩ : ∃ l : Nat, l = ct % (en + 1) := ⟨_, rfl⟩
    obtain ⟨mr, hmr⟩ : ∃ l : Nat, l = sz % (9728 - less + 1) := ⟨_, rfl⟩
    have hen9 : en ≤ 9300 := by rw [hen]; split <;> omega
    have hle : less ≤ en := by rw [hless]; have := Nat.mod_lt ct (show 0 < en + 1 by omega); omega
    have hmm : mr ≤ 9728 - less := by rw [hmr]; have := Nat.mod_lt sz (show 0 < 9728 - less + 1 by omega); omega
    have hx2 : NewN (updF freshX 2 (nwNode 1 c.sup.gens (freshX 2)) 2) := by rw [updF_same]; exact nw_new _ _
    have hAj : d.length ≠ 0 → ∀ j, A.map (·.block) = some j → j ≠ c.nw.p.b := fun h0 j hj => by
      have h1 := hsw3.news
      have := HSL.out.lt (k := j) (by rw [ownBlock_slice]; exact hj) (by
        intro e0
        rw [bv_eq_nil] at e0
        rw [e0] at h0
        exact h0 rfl)
      omega
    have hwr := hole_write hsw3 (by decide) hb3 rfl hx2 (by rw [show c.nw.N = 200 from HCN.out, cnt43]; decide) p hp9 d (by rw [← HDL.out]; omega) A cc (HSL.out.below hb3) hAj (truT less) (Nat.le_refl _)
    rw [← HDL.out, ← hen] at hwr
    have HWR : Hid (Calls Tryz.prog 12 #[.pointer (some ⟨c.p.k, 0, none⟩), .int .i64 2, .int .i64 (p : Int), .slice A dl cc] w3 _) := Lib.hid hwr
    have HRG := Lib.hid (show en ≤ 9300 ∧ less ≤ en ∧ mr ≤ 9728 - less ∧ (dl ≠ 0 → en = p + dl) ∧ (dl = 0 → en = 0) from ⟨hen9, hle, hmm, fun h => by rw [hen, if_neg h], fun h => by rw [hen, if_pos h]⟩)
    have e1 : IntKind.i64.wrap ((en : Int) + 1) = (en : Int) + 1 := IntWalk.i64_in _ (by omega)
    have e2 : ¬ (en : Int) + 1 = 0 := by omega
    have e2' : (((en : Int) + 1) == 0) = false := beq_eq_false_iff_ne.2 (by omega)
    have e3 : (ct : Int).tmod ((en : Int) + 1) = (less : Int) := by
      rw [hless, Int.tmod_eq_emod_of_nonneg (by omega), Int.natCast_emod]
      rfl
    have e3' : (ct : Int) % ((en : Int) + 1) = (less : Int) := by
      rw [hless, Int.natCast_emod]
      rfl
    have e4 : IntKind.i64.wrap (less : Int) = (less : Int) := IntWalk.i64_in _ (by omega)
    have f1 : IntKind.i64.wrap (9728 - (less : Int)) = 9728 - (less : Int) := IntWalk.i64_in _ (by omega)
    have f2 : IntKind.i64.wrap (9728 - (less : Int) + 1) = 9728 - (less : Int) + 1 := IntWalk.i64_in _ (by omega)
    have f3 : ¬ 9728 - (less : Int) + 1 = 0 := by omega
    have f3' : ((9728 - (less : Int) + 1) == 0) = false := beq_eq_false_iff_ne.2 (by omega)
    have f4 : (sz : Int) % (9728 - (less : Int) + 1) = (mr : Int) := by
      rw [hmr, Int.natCast_emod]
      congr 1
      omega
    have f4' : (sz : Int).tmod (9728 - (less : Int) + 1) = (mr : Int) := by
      rw [hmr, Int.tmod_eq_emod_of_nonneg (by omega), Int.natCast_emod]
      congr 1
      omega
    have f5 : IntKind.i64.wrap (mr : Int) = (mr : Int) := IntWalk.i64_in _ (by omega)
    have f6 : IntKind.i64.wrap ((less : Int) + (mr : Int)) = ((less + mr : Nat) : Int) := by rw [IntWalk.i64_in _ (by omega)]; omega
    obtain ⟨more, hmore⟩ : ∃ z : Nat, z = less + mr := ⟨_, rfl⟩
    rw [← hmore] at f6
    have HMO := Lib.hid hmore
    have gdl : dl ≠ 0 → IntKind.i64.wrap ((p : Int) + (dl : Int)) = (en : Int) := fun h => by
      rw [hen, if_neg h, IntWalk.i64_in _ (by omega)]
      omega
    have GDL := Lib.hid gdl
    clear hsw3 hk3 hb3 hen hless hmr hen9 hle hmm hx2 hAj hwr hmore gdl hbig
    go_wp2_with fail
    refine HWR.out.mono ?_
    rintro r' w4 ⟨rfl, hho4, hb4⟩
    have HHO4 := Lib.hid hho4
    have HB4 := Lib.hid hb4
    have HTR := Lib.hid (hole_trunc hho4 (by decide) hb4 rfl less (by have := HRG.out; omega) (fun _ t ht => ht))
    clear hho4 hb4
    go_upto_if 53 with fail
    go_cut [13] (fun v wx => v = .int .i64 (en : Int) ∧ wx = w4)
    case first =>
      by_cases h0 : dl = 0
      · have k0 : ¬ (0 : Int) < (dl : Int) := by omega
        have hen0 := HRG.out.2.2.2.2 h0
        clear h0
        go_wp2_with fail
        go_meet
        case rel => exact ⟨by rw [hen0]; rfl, rfl⟩
      · have k0 : (0 : Int) < (dl : Int) := by omega
        have k1 := GDL.out h0
        clear h0
        go_wp2_with fail
        go_meet
        case rel => exact ⟨rfl, rfl⟩
    case rest =>
      obtain ⟨rfl, rfl⟩ := hcut
      go_wp2_with fail
      refine HTR.out.mono ?_
      rintro r' w5 ⟨rfl, hho5, hb5⟩
      have HB5 := Lib.hid hb5
      have HTR5 := Lib.hid (hole_trunc hho5 (by decide) hb5 rfl more (by have := HRG.out; have := HMO.out; omega) (fun hlt => by have := HMO.out; omega))
      clear hho5 hb5
      go_wp2_with fail
      refine HTR5.out.mono ?_
      rintro r' w6 ⟨rfl, hho6, hb6⟩
      have HB6 := Lib.hid hb6
      have HRD := Lib.hid (hole_read hho6 (by decide) (by have := HRG.out; have := HMO.out; omega))
      clear hho6 hb6
      go_wp2_with fail
      refine HRD.out.mono ?_
      rintro r' w7 ⟨A7, rfl, hnb7, hb7⟩
      have hsl7 := hnb7.sl
      rw [List.length_map, List.length_range] at hsl7
      have HSL7 := Lib.hid hsl7
      have HB7 := Lib.hid (bstep HB6.out hb7)
      have HSLB := Lib.hid (HSL.out.below (bstep HB6.out hb7))
      have gm0 : ((more : Int) == (more : Int)) = true := beq_self_eq_true _
      clear hnb7 hb7 hsl7
      go_wp2_with fail
      go_loopw [18] (fun v wr => wr = w7 ∧ ∃ i : Nat, v = .int .i64 (i : Int) ∧ i ≤ more) (fun v _ => more - (intOf v).toNat)
      case atStart => exact ⟨rfl, 0, rfl, Nat.zero_le _⟩
      case round =>
        obtain ⟨rfl, i, rfl, hi⟩ := hrel
        by_cases hlt : i < more
        · have ga : (i : Int) < (more : Int) := by omega
          have gj0 : (0 : Int) ≤ (i : Int) := by omega
          have gc : IntKind.i64.wrap ((i : Int) + 1) = (i : Int) + 1 := IntWalk.i64_in _ (by have := HRG.out; have := HMO.out; omega)
          obtain ⟨q, hq⟩ : ∃ q : UInt8, q = (if i < more then if i < less then if p ≤ i ∧ i < p + dl then d.getD (i - p) 0 else 0 else 0 else 0) := ⟨_, rfl⟩
          have hx : ((List.range more).map fun k => if k < more then if k < less then if p ≤ k ∧ k < p + dl then d.getD (k - p) 0 else 0 else 0 else 0)[i]? = some q := by
            rw [List.getElem?_map, List.getElem?_range hlt, hq]
            rfl
          obtain ⟨bx, ox, hAx, _, hcx⟩ := bv_at HSL7.out hx
          subst hAx
          rw [if_pos hlt] at hq
          by_cases hc : p ≤ i ∧ i < less ∧ i < en
          · obtain ⟨c1, c2, c3⟩ := hc
            have hdl0 : dl ≠ 0 := fun h0 => by have := HRG.out.2.2.2.2 h0; omega
            have hen := HRG.out.2.2.2.1 hdl0
            have k1 : (p : Int) ≤ (i : Int) := by omega
            have k2 : (i : Int) < (less : Int) := by omega
            have k3 : (i : Int) < (en : Int) := by omega
            obtain ⟨j, hj⟩ : ∃ j : Nat, j = i - p := ⟨_, rfl⟩
            have k4 : IntKind.i64.wrap ((i : Int) - (p : Int)) = (j : Int) := by rw [IntWalk.i64_in _ (by omega)]; omega
            have hqj : d[j]? = some q := by
              rw [if_pos c2, if_pos ⟨c1, by omega⟩, ← hj, List.getD_eq_getElem?_getD, List.getElem?_eq_getElem (by rw [← HDL.out]; omega)] at hq
              rw [hq, List.getElem?_eq_getElem (by rw [← HDL.out]; omega)]
              rfl
            have hsb := HSLB.out
            obtain ⟨bb, ob, hAb, _, hcb⟩ := bv_at hsb hqj
            subst hAb
            have k5 : (0 : Int) ≤ (j : Int) := by omega
            have k6 : (j : Int) < (dl : Int) := by omega
            have HLT := Lib.hid hlt
            clear hx hq hqj hsb hdl0 hen hj c1 c2 c3 hi hlt
            go_wp2_with fail
            go_roundw
            case rel => exact ⟨by first | rfl | trivial, i + 1, by rw [Int.natCast_add]; rfl, HLT.out⟩
            case measure => simp only [intOf]; have := HLT.out; omega
          · have hq0 : q = 0 := by
              rw [hq]
              by_cases c2 : i < less
              · rw [if_pos c2]
                by_cases c1 : p ≤ i ∧ i < p + dl
                · exfalso
                  have hdl0 : dl ≠ 0 := by omega
                  have := HRG.out.2.2.2.1 hdl0
                  exact hc ⟨c1.1, c2, by omega⟩
                · rw [if_neg c1]
              · rw [if_neg c2]
            have hcx0 : wr.cell? ⟨bx, ox + i, none⟩ = some (.int .u8 0) := by rw [hcx, hq0]; rfl
            have HLT := Lib.hid hlt
            clear hcx hx hq hq0 hi hlt
            by_cases c1 : p ≤ i
            · have k1 : (p : Int) ≤ (i : Int) := by omega
              by_cases c2 : i < less
              · have k2 : (i : Int) < (less : Int) := by omega
                have k3 : ¬ (i : Int) < (en : Int) := by omega
                clear hc c1 c2
                go_wp2_with fail
                go_roundw
                case rel => exact ⟨by first | rfl | trivial, i + 1, by rw [Int.natCast_add]; rfl, HLT.out⟩
                case measure => simp only [intOf]; have := HLT.out; omega
              · have k2 : ¬ (i : Int) < (less : Int) := by omega
                clear hc c1 c2
                go_wp2_with fail
                go_roundw
                case rel => exact ⟨by first | rfl | trivial, i + 1, by rw [Int.natCast_add]; rfl, HLT.out⟩
                case measure => simp only [intOf]; have := HLT.out; omega
            · have k1 : ¬ (p : Int) ≤ (i : Int) := by omega
              clear hc c1
              go_wp2_with fail
              go_roundw
              case rel => exact ⟨by first | rfl | trivial, i + 1, by rw [Int.natCast_add]; rfl, HLT.out⟩
              case measure => simp only [intOf]; have := HLT.out; omega
        · obtain rfl : i = more := by omega
          have ga : ¬ (i : Int) < (i : Int) := by omega
          clear hlt hi
          go_wp2
          go_ret
          exact ⟨rfl, HB7.out⟩
theorem holes_open (x y z : Int) (hx : (Lit.int .u16 x).wf = true) (hy : (Lit.int .u16 y).wf = true) (hz : (Lit.int .u16 z).wf = true) (b : List UInt8) (A : Option Addr) (c : Nat) (w : World) (h : Sl w 1 (.slice A b.length c) b.length (bv b)) :
    Calls Tryz.prog 4 #[.int .u16 x, .int .u16 y, .slice A b.length c, .int .u16 z] w fun e w' => e = .returned (.bool true) ∧ Below w.heap.size w w' := by
  simp only [Lit.wf, Bool.and_eq_true, decide_eq_true_eq] at hx hy hz
  have h1 : 0 ≤ x ∧ x ≤ 65535 := hx
  have h2 : 0 ≤ y ∧ y ≤ 65535 := hy
  have h3 : 0 ≤ z ∧ z ≤ 65535 := hz
  obtain ⟨a, rfl⟩ : ∃ a : Nat, x = (a : Int) := ⟨x.toNat, by omega⟩
  obtain ⟨d, rfl⟩ : ∃ a : Nat, y = (a : Int) := ⟨y.toNat, by omega⟩
  obtain ⟨e, rfl⟩ : ∃ a : Nat, z = (a : Int) := ⟨z.toNat, by omega⟩
  exact holes_walk a d e (by omega) (by omega) (by omega) b A c w h
end Go.Proofs.YtehfoopefefpnaaGreat
/- Two files of a store: how they begin. -/
set_option linter.unusedSimpArgs false
set_option linter.unusedVariables false
namespace Go.Proofs.YtehfoopefefpnaaGreat
open Go.RowKit

def fNil : Nat → Fs := fun _ => Fs.nil
theorem two_new {w w2 : World} {c : SWc} {B n g : Nat} {x : NoS} (hsw : SW B c.nw v00 m43 (updF freshX 2 (nwNode 1 g x)) ub w2) (hcs : c.sup = ⟨n, 1, 0⟩) :
    Calls Tryz.prog 15 #[.pointer (some ⟨c.p.k, 0, none⟩), .int .i64 1] w2 fun e w' => e = .returned (.tuple #[.int .i64 3, .int .i64 0]) ∧ TwoU B c.nw.nw fNil 0 w' ∧ Keep (fun j => j = c.p.b ∨ j = c.p.k) w2 w' := by
  refine (wnew (k := 3) hsw (by decide) (by decide) (by decide) (by decide) (by decide) (fun n h1 h2 => ?_) ?_ (by show (nwSup c.sup).gens < _; rw [hcs]; show 0 + 1 < 1073741824; decide) 1 (.inl rfl)).mono ?_
  · by_cases e : n = 2
    · subst e
      rw [updF_same]
      show (1 : Nat) ≠ 0
      decide
    · obtain rfl : n = 1 := by omega
      rw [updF_ne _ _ (by decide)]
      decide
  · rw [updF_ne _ _ (by decide)]
    decide
  · rintro e w' ⟨rfl, hsw', hk⟩
    refine ⟨rfl, ⟨ub, v00, m43, _, fun _ _ => 0, hsw', ⟨fun i hi => ?_, fun _ _ _ _ _ _ _ _ _ _ => rfl, fun k h1 h2 => ⟨fun h => ?_, fun ⟨i, t, _, _, e⟩ => by omega⟩⟩, by rw [cnt43]; exact Nat.le_refl _⟩, hk⟩
    · rcases (by omega : i = 0 ∨ i = 1) with rfl | rfl
      · have hx := nw_new g x
        rw [updF_ne _ _ (by decide), updF_same]
        exact Fo.nil hx.kind hx.size hx.ptr
      · have hx := nw_new c.nw.sup.gens (updF freshX 2 (nwNode 1 g x) 3)
        rw [updF_same]
        exact Fo.nil hx.kind hx.size hx.ptr
    · unfold m43 at h
      have := of_decide_eq_true h
      omega
theorem two_bound {B : Nat} {c : SWc} {F : Nat → Fs} {K : Nat} {w : World} (h : TwoU B c F K w) : secN (F 0).blk + secN (F 1).blk ≤ K := by
  obtain ⟨U, V, m, xs, a, hsw, hpr, hc⟩ := h
  rw [← hpr.count]
  exact hc
theorem TwoU.fwk {B : Nat} {c : SWc} {F : Nat → Fs} {K : Nat} {w0 w w' : World} (h : TwoU B c F K w) (hb : Below B w0 w) (hB : B = w0.heap.size) (hk : FwK c w w') : Below B w0 w' := by
  obtain ⟨U, V, m, xs, a, hsw, _⟩ := h
  exact fwk_below hsw hb hB hk
theorem TwoU.cmk {B : Nat} {c : SWc} {F : Nat → Fs} {K : Nat} {w0 w w' : World} (h : TwoU B c F K w) (hb : Below B w0 w) (hB : B = w0.heap.size) (hk : Keep (fun j => j = c.p.kd ∨ j = c.p.g ∨ j = c.p.b ∨ w.heap.size ≤ j) w w') : Below B w0 w' := by
  obtain ⟨U, V, m, xs, a, hsw, _⟩ := h
  have h1 := hsw.news
  have h2 : B ≤ w.heap.size := by rw [hB]; exact hb.size
  exact hb.trans (hk.below (fun j hj => by rcases hj with hj | hj | hj | hj <;> omega) h2)
theorem TwoU.nw {B : Nat} {c : SWc} {F : Nat → Fs} {K : Nat} {w : World} (h : TwoU B c F K w) : B ≤ c.p.b := by
  obtain ⟨U, V, m, xs, a, hsw, _⟩ := h
  exact hsw.news.2.1
theorem two_none {B : Nat} {c : SWc} {F : Nat → Fs} {K : Nat} {w : World} (h : TwoU B c F K w) (i : Nat) (hi : i < 2) (p : Nat) (A : Option Addr) (cc : Nat) :
    Calls Tryz.prog 12 #[.pointer (some ⟨c.p.k, 0, none⟩), .int .i64 ((2 + i : Nat) : Int), .int .i64 (p : Int), .slice A 0 cc] w fun e w' => e = .returned (.int .i64 0) ∧ TwoU B c F K w' ∧ Below w.heap.size w w' := by
  obtain ⟨U, V, m, xs, a, hsw, hpr, hc⟩ := h
  have hfo := hpr.fo i hi
  refine (fwrite_none hsw (by omega) (by rw [hfo.kind]; decide) p A cc).mono ?_
  rintro e w' ⟨rfl, hb⟩
  exact ⟨rfl, ⟨U, V, m, xs, a, hsw.below hb, hpr, hc⟩, hb⟩
/-! ### what is written in two pieces -/
theorem again_blk (p : Nat) (d : List UInt8) : ((Fs.nil.write p d).write p d).blk = (Fs.nil.write p d).blk := by
  funext b
  have e : ∀ x : Bool, ((false || x) || x) = (false || x) := by decide
  exact e _
theorem again_ct (p : Nat) (d : List UInt8) : ((Fs.nil.write p d).write p d).ct = (Fs.nil.write p d).ct := by
  funext k
  show (if _ then _ else (if _ then _ else _)) = (if _ then _ else _)
  split
  · rfl
  · rfl
theorem parted {p k : Nat} {d : List UInt8} (h1 : 0 < k) (h2 : k < d.length) : (((Fs.nil.write p (d.take k)).write (p + k) (d.drop k)).size = p + d.length) ∧ ((Fs.nil.write p (d.take k)).write (p + k) (d.drop k)).ct = (Fs.nil.write p d).ct ∧ ((Fs.nil.write p (d.take k)).write (p + k) (d.drop k)).blk = (Fs.nil.write p d).blk := by
  have l1 : (d.take k).length = k := by rw [List.length_take]; omega
  have l2 : (d.drop k).length = d.length - k := List.length_drop ..
  refine ⟨?_, ?_, ?_⟩
  · show max (max 0 (p + (d.take k).length)) (p + k + (d.drop k).length) = _
    rw [l1, l2]
    omega
  · funext j
    show (if p + k ≤ j ∧ j < p + k + (d.drop k).length then (d.drop k).getD (j - (p + k)) 0 else (if p ≤ j ∧ j < p + (d.take k).length then (d.take k).getD (j - p) 0 else 0)) = (if p ≤ j ∧ j < p + d.length then d.getD (j - p) 0 else 0)
    rw [l1, l2]
    by_cases e1 : p + k ≤ j ∧ j < p + k + (d.length - k)
    · rw [if_pos e1, if_pos (by omega), List.getD_eq_getElem?_getD, List.getElem?_drop, ← List.getD_eq_getElem?_getD]
      congr 1
      omega
    · rw [if_neg e1]
      by_cases e2 : p ≤ j ∧ j < p + k
      · rw [if_pos e2, if_pos (by omega), List.getD_eq_getElem?_getD, List.getElem?_take_of_lt (by omega), ← List.getD_eq_getElem?_getD]
      · rw [if_neg e2, if_neg (by omega)]
  · funext b
    show ((false || (decide (p / 128 ≤ b) && decide (b ≤ (p + (d.take k).length - 1) / 128))) || (decide ((p + k) / 128 ≤ b) && decide (b ≤ (p + k + (d.drop k).length - 1) / 128))) = (false || (decide (p / 128 ≤ b) && decide (b ≤ (p + d.length - 1) / 128)))
    rw [l1, l2, Bool.false_or, Bool.false_or, Bool.eq_iff_iff]
    simp only [Bool.or_eq_true, Bool.and_eq_true, decide_eq_true_eq]
    omega
end Go.Proofs.YtehfoopefefpnaaGreat
