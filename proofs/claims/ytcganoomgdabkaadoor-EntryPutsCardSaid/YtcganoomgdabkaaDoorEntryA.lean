/- The document's answer: Names. -/
import Derived.Test.YtcganoomgdabkaaDoorEntry9
import Derived.Deep.QuietTactic
import Derived.BigQuiet
import Derived.Handy
import Derived.Deep.CutBlock
import Derived.Deep.RegionHeld3
import Derived.Deep.RegionLaw
import Derived.Deep.DrawnRows
import Derived.Sort.Walk0
set_option linter.unusedSimpArgs false
set_option linter.unusedVariables false
namespace Go.Proofs.YtcganoomgdabkaaDoor
open Go.RowKit

/-- A row of texts of one's own, made anew. -/
def FrT (base : Nat) (wr : World) (v : Value) (os : List Str) : Prop := ∃ o c, v = .slice (some ⟨o, 0, none⟩) os.length c ∧ wr.ownsRow 0 9 1 (.slice (some ⟨o, 0, none⟩) os.length c) os.length (strs os) ∧ base ≤ o
theorem FrT.keep {base : Nat} {w w' : World} {v : Value} {ks : List Str} {S : Nat → Prop} (h : FrT base w v ks) (hk : Keep S w w') (hS : ∀ k, base ≤ k → k < w.heap.size → ¬ S k) : FrT base w' v ks := by
  obtain ⟨o, c, hv, ho, hb⟩ := h
  exact ⟨o, c, hv, own_keep ho hk (fun k e => by have hl := own_lt ho e; injection e with e; subst e; exact hS _ hb hl), hb⟩
theorem FrT.new (w : World) (base : Nat) (h : base ≤ w.heap.size) : FrT base (w.alloc (.cells #[] 9)) (.slice (some ⟨w.heap.size, 0, none⟩) 0 0) [] :=
  ⟨_, 0, rfl, own_new w #[] 9 1 0 rfl (by decide), h⟩
theorem FrT.of {base : Nat} {w : World} {v : Value} {n : Nat} {xs : List Value} (os : List Str) (h : w.ownsRow 0 9 1 v n xs) (hn : n = os.length) (hp : 0 < n) (hx : xs = strs os) (hb : ∀ k, v.ownBlock = some k → base ≤ k) : FrT base w v os := by
  subst hn hx
  obtain ⟨o, c, _, rfl, _⟩ := own_form h hp
  exact ⟨o, c, rfl, h, hb o rfl⟩
theorem splice_strs (os : List Str) (a : Nat) (s : Str) : ((([] : List Value) ++ (strs os).take (a * 1)) ++ [.string ⟨s.toArray⟩]) ++ (strs os).drop (a * 1) = strs (os.take a ++ [s] ++ os.drop a) := by
  simp [strs, List.map_take, List.map_drop]
theorem grow_keep {N : Nat} {w1 w2 : World} {v : Value} (k : Keep (fun k => v.ownBlock = some k) w1 w2) (hv : ∀ k, v.ownBlock = some k → N ≤ k) : Keep (fun k => N ≤ k) w1 w2 := k.mono (fun i _ e => hv i e)
theorem grow_new {N sz : Nat} {v v' : Value} (a : v'.ownBlock = v.ownBlock ∨ v'.ownBlock = some sz) (hv : ∀ k, v.ownBlock = some k → N ≤ k) (hs : N ≤ sz) : ∀ k, v'.ownBlock = some k → N ≤ k := by
  intro k hk
  rcases a with e | e
  · exact hv k (e ▸ hk)
  · rw [e] at hk; injection hk with hk; omega
theorem stepA {N sz : Nat} {w0 W w5 : World} {v v5 : Value} (kW : Keep (fun _ => False) w0 W) (k5 : Keep (fun k => v.ownBlock = some k) W w5) (hv : ∀ k, v.ownBlock = some k → N ≤ k) (a5 : v5.ownBlock = v.ownBlock ∨ v5.ownBlock = some sz) (hs : N ≤ sz) :
    Keep (fun k => N ≤ k) w0 w5 ∧ ∀ k, v5.ownBlock = some k → N ≤ k :=
  ⟨(kW.mono (T := fun k => N ≤ k) (fun _ _ h => h.elim)).trans k5 (fun i _ e => hv i e), grow_new a5 hv hs⟩

def RnInv (l : List RW) (w : World) (v vi : Value) (wr : World) : Prop :=
  ∃ i : Nat, i ≤ l.length ∧ vi = .int .i64 (i : Int) ∧ FrT w.heap.size wr v (sortS (rawN (l.take i))) ∧ Below w.heap.size w wr
def RaInv (x : Str) (o : List Str) (w3 : World) (va vj : Value) (wq : World) : Prop := ∃ j : Nat, va = .int .i64 ((atP x o j : Nat) : Int) ∧ vj = .int .i64 (j : Int) ∧ j ≤ o.length ∧ Below w3.heap.size w3 wq
theorem leq_str (a b : Str) : (Op.bytesLess a b || a == b) = decide (a ≤ b) := by
  rw [bytesLess_eq, Bool.eq_iff_iff]
  simp
  constructor
  · rintro (h | rfl)
    · exact List.le_of_lt h
    · exact List.le_refl _
  · intro h
    rcases Decidable.em (a < b) with h2 | h2
    · exact .inl h2
    · exact .inr (List.le_antisymm h (List.not_lt.1 h2))
theorem names_end' {w w3 : World} {o oc : Nat} {xs : List Str} (h : w3.ownsRow 0 9 1 (.slice (some ⟨o, 0, none⟩) (sortS xs).length oc) (sortS xs).length (strs (sortS xs))) (hb : Below w.heap.size w w3) :
    NamesEnd (sortS xs) w (.returned (.slice (some ⟨o, 0, none⟩) (sortS xs).length oc)) w3 := ⟨some ⟨o, 0, none⟩, oc, rfl, Sl.of_own h, hb⟩
set_option maxRecDepth 100000 in
set_option maxHeartbeats 8000000 in
theorem rnames_walk (A : Option Addr) (c : Nat) (l : List RW) (w : World) (hs : Sl w 2 (.slice A l.length c) l.length (rows l)) (hn : l.length ≤ 8000000000000) :
    Calls Tryd.prog 21 #[.slice A l.length c] w (NamesEnd (namesP l) w) := by
  have HS := Lib.hid hs
  clear hs
  go_enter Tryd.func21, Tryd.ntmps21
  go_wp2
  go_loopw [3, 4] (fun v vi wr => RnInv l w v vi wr) (fun _ v _ => l.length - (intOf v).toNat)
  case atStart => exact ⟨0, Nat.zero_le _, rfl, by rw [show sortS (rawN (l.take 0)) = [] by simp [rawN, sortS]]; exact FrT.new w w.heap.size (Nat.le_refl _), (Below.refl _ _).alloc (Nat.le_refl _) _⟩
  case round =>
    obtain ⟨i, hi, rfl, ⟨o, oc, rfl, hown, hob⟩, hb⟩ := hrel
    have HB := Lib.hid hb
    have HO := Lib.hid hown
    have HOb := Lib.hid hob
    have hwz : w.heap.size ≤ wr.heap.size := hb.size
    clear hb hown
    by_cases hlt : i < l.length
    · obtain ⟨x, hx⟩ : ∃ x, l[i]? = some x := ⟨l[i], List.getElem?_eq_getElem hlt⟩
      obtain ⟨b, off, rfl, hbl0, r0, r1⟩ := row_at (HS.out.below HB.out) hx
      have b1 : (0 : Int) ≤ (i : Int) := by omega
      have b2 : (i : Int) < (l.length : Int) := by omega
      have HT := Lib.hid (take_snocR hx)
      have hle := rawN_length (l.take i)
      have hle2 : (sortS (rawN (l.take i))).length ≤ 8000000000000 := by have : (l.take i).length ≤ i := List.length_take_le _ _; rw [sortS_length]; omega
      clear hx hle
      obtain ⟨xs, xn⟩ := x
      dsimp only at r0 r1
      obtain ⟨os, hos⟩ : ∃ os, os = sortS (rawN (l.take i)) := ⟨_, rfl⟩
      rw [← hos] at HO hle2 ⊢
      have HOS := Lib.hid hos
      clear hos
      by_cases h1 : xs = []
      · subst h1
        go_wp2
        go_roundw
        case rel => exact ⟨i + 1, by omega, by go_num, by rw [HT.out, rawN_snoc, if_pos rfl, List.append_nil, ← HOS.out]; exact ⟨o, oc, rfl, HO.out, HOb.out⟩, HB.out⟩
        case measure => simp [intOf]; omega
      · have h1a : xs.isEmpty = false := by simpa using h1
        have h1d : (xs == []) = false := by simpa using h1
        have H1 := Lib.hid h1
        obtain ⟨w3, rfl⟩ : ∃ w3 : World, w3 = wr := ⟨_, rfl⟩
        clear h1
        go_wp2
        go_loopw [5, 6] (fun va vj wq => RaInv xs os w3 va vj wq) (fun _ v _ => os.length - (intOf v).toNat)
        case atStart => exact ⟨0, rfl, rfl, Nat.zero_le _, Below.refl _ _⟩
        case round =>
          obtain ⟨j, rfl, rfl, hj, hbq⟩ := hrel
          have OQ := Lib.hid (own_keep HO.out (Keep.of_below (S := fun _ => False) hbq) (fun _ _ h => h))
          have q0 := (hbq.cell (p := ⟨b, off + i * 2, none⟩) hbl0).trans r0
          have hbl : b < wr.heap.size := Nat.lt_of_lt_of_le hbl0 hbq.size
          have HBQ := Lib.hid hbq
          have HB2 := Lib.hid (bstep HB.out hbq)
          clear hbq r0 r1
          have r0 := q0
          clear q0
          by_cases hjl : j < os.length
          · obtain ⟨y, hy⟩ : ∃ y, os[j]? = some y := ⟨os[j], List.getElem?_eq_getElem hjl⟩
            have d1 : (0 : Int) ≤ (j : Int) := by omega
            have d2 : (j : Int) < (os.length : Int) := by omega
            obtain ⟨_, _, he, _, t0⟩ := strs_at (Sl.of_own OQ.out) hy
            injection he with he
            injection he with he1 he2
            subst he1 he2
            rw [Nat.zero_add] at t0
            have HY := Lib.hid (show os.getD j [] = y by rw [List.getD_eq_getElem?_getD, hy]; rfl)
            have HQ := Lib.hid (leq_str y xs)
            clear hy
            cases hb1 : Op.bytesLess y xs with
            | true =>
              have HT2 : Hid (atP xs os (j + 1) = j + 1) := Lib.hid (by rw [atP, HY.out, if_pos]; have := HQ.out; rw [hb1] at this; simpa using this.symm)
              go_wp2
              go_quiet (fail)
              go_wp2
              go_roundw
              case rel => exact ⟨j + 1, by rw [HT2.out]; go_num, by go_num, by omega, bstep HBQ.out (((Keep.refl (fun _ => False) _).drewN _).to_below)⟩
              case measure => simp [intOf]; omega
            | false =>
              cases hb2 : (y == xs) with
              | true =>
                have HT2 : Hid (atP xs os (j + 1) = j + 1) := Lib.hid (by rw [atP, HY.out, if_pos]; have := HQ.out; rw [hb1, hb2] at this; simpa using this.symm)
                go_wp2
                go_quiet (fail)
                go_wp2
                go_roundw
                case rel => exact ⟨j + 1, by rw [HT2.out]; go_num, by go_num, by omega, bstep HBQ.out (((Keep.refl (fun _ => False) _).drewN _).to_below)⟩
                case measure => simp [intOf]; omega
              | false =>
                have HT2 : Hid (atP xs os (j + 1) = atP xs os j) := Lib.hid (by rw [atP, HY.out, if_neg]; have := HQ.out; rw [hb1, hb2] at this; simpa using this.symm)
                go_wp2
                go_quiet (fail)
                go_wp2
                go_roundw
                case rel => exact ⟨j + 1, by rw [HT2.out], by go_num, by omega, bstep HBQ.out (((Keep.refl (fun _ => False) _).drewN _).to_below)⟩
                case measure => simp [intOf]; omega
          · obtain rfl : j = os.length := by omega
            obtain ⟨a, ha⟩ : ∃ a, a = atP xs os os.length := ⟨_, rfl⟩
            have hal : a ≤ os.length := ha ▸ atP_le xs os os.length
            have HA : Hid (atP xs os os.length = a) := Lib.hid ha.symm
            rw [← ha]
            clear ha
            have d1 : (0 : Int) ≤ (a : Int) := by omega
            have d2 : (a : Int) ≤ (os.length : Int) := by omega
            have d3 : (os.length : Int) ≤ (oc : Int) := by have := OQ.out; obtain ⟨_, _, e, _, _, h, _⟩ := Sl.of_own this; injection e with _ _ e; omega
            have d4 : (a : Int) ≤ (oc : Int) := by omega
            obtain ⟨_, _, eo, _, _, hle, _⟩ := Sl.of_own OQ.out
            have hN : w.heap.size ≤ wr.heap.size := HB2.out.size
            have hoN : o < wr.heap.size := own_lt OQ.out rfl
            have E1 := Lib.hid (own_new wr #[] 9 1 0 rfl (by decide))
            have E2 := Lib.hid (own_keep E1.out ((Keep.refl (fun _ => False) _).alloc (.cells #[.string ⟨xs.toArray⟩] 9)) (fun _ _ h => h))
            have zS : (wr.alloc (.cells #[.string ⟨xs.toArray⟩] 9)).heap.size = wr.heap.size + 1 := by simp
            have zE : (wr.alloc (.cells #[] 9)).heap.size = wr.heap.size + 1 := by simp
            have e3 := own_new (wr.alloc (.cells #[.string ⟨xs.toArray⟩] 9)) #[] 9 1 0 rfl (by decide)
            rw [zS] at e3
            have E3 := Lib.hid e3
            have s2 := own_new (wr.alloc (.cells #[] 9)) #[.string ⟨xs.toArray⟩] 9 1 1 rfl (by decide)
            rw [zE] at s2
            have S2 := Lib.hid s2
            have S3 := Lib.hid (own_keep (own_new wr #[.string ⟨xs.toArray⟩] 9 1 1 rfl (by decide)) ((Keep.refl (fun _ => False) _).alloc (.cells #[] 9)) (fun _ _ h => h))
            have HSC := Lib.hid (fun w' (k : Keep (fun i => wr.heap.size ≤ i) wr w') => (k.cell r0 (fun e => absurd e (Nat.not_le.2 hbl)) : w'.cell? ⟨b, off + i * 2, none⟩ = some (.string ⟨xs.toArray⟩)))
            have HI1 := Lib.hid (strs_one os)
            have V1 : Hid (∀ k, (Value.slice (some ⟨wr.heap.size, 0, none⟩) 0 0).ownBlock = some k → wr.heap.size ≤ k) := Lib.hid (fun k e => by rw [ownBlock_slice] at e; injection e with e; exact Nat.le_of_eq e)
            have V2 : Hid (∀ k, (Value.slice (some ⟨wr.heap.size + 1, 0, none⟩) 0 0).ownBlock = some k → wr.heap.size ≤ k) := Lib.hid (fun k e => by rw [ownBlock_slice] at e; injection e with e; exact Nat.le_of_lt (Nat.lt_of_lt_of_eq (Nat.lt_succ_self _) e))
            have SSB := Lib.hid (fun (w5 : World) (k5 : Keep (fun k => (Value.slice (some ⟨wr.heap.size, 0, none⟩) 0 0).ownBlock = some k) ((wr.alloc (.cells #[] 9)).alloc (.cells #[.string ⟨xs.toArray⟩] 9)).drew w5) => Sl.keep (Sl.of_own S2.out.drew) k5 (fun k e _ h => by rw [ownBlock_slice] at e h; injection e with e; injection h with h; dsimp only at e h; omega))
            have SSC := Lib.hid (fun (w5 : World) (k5 : Keep (fun k => (Value.slice (some ⟨wr.heap.size + 1, 0, none⟩) 0 0).ownBlock = some k) ((wr.alloc (.cells #[.string ⟨xs.toArray⟩] 9)).alloc (.cells #[] 9)).drew w5) => Sl.keep (Sl.of_own S3.out.drew) k5 (fun k e _ h => by rw [ownBlock_slice] at e h; injection e with e; injection h with h; dsimp only at e h; omega))
            have KD1 := Lib.hid (((Keep.refl (fun _ => False) wr).alloc (.cells #[] 9)).drew)
            have KD2 := Lib.hid ((((Keep.refl (fun _ => False) wr).alloc (.cells #[] 9)).alloc (.cells #[.string ⟨xs.toArray⟩] 9)).drew)
            have KD3 := Lib.hid ((((Keep.refl (fun _ => False) wr).alloc (.cells #[.string ⟨xs.toArray⟩] 9)).alloc (.cells #[] 9)).drew)
            have OQk := Lib.hid (fun (w6 : World) (k : Keep (fun i => wr.heap.size ≤ i) wr w6) => own_keep OQ.out k (fun k e h => by rw [ownBlock_slice] at e; injection e with e; dsimp only at e; omega))
            by_cases hce : oc = a
            · have hce2 := hce.symm
              clear hce
              subst hce2
              go_wp2
              go_region_held3 (fun w' => w'.cell? ⟨b, off + i * 2, none⟩ = some (.string ⟨xs.toArray⟩)) (first | exact HSC.out _ (Keep.refl _ wr).drew | exact HSC.out _ ((Keep.refl _ wr).alloc _).drew | exact HSC.out _ (((Keep.refl _ wr).alloc _).alloc _).drew | exact HSC.out _ K7.out | exact HSC.out _ K6.out | exact HSC.out _ KN.out.1 | exact HSC.out _ (KN.out.1.alloc _)) (first | (refine step_app (by rfl) eltS (by rfl) (by rfl) (by rfl) (n := 0) (xs := []) E1.out.drew ((Sl.upto OQ.out a (by omega)).keep KD1.out (fun _ _ _ h => h)) (fun u hu => HI1.out u (List.mem_of_mem_take hu)) (by omega) (by simp only [maxLen]; omega) ?_; intro v5 w5 o5 k5 a5 _; have KN := Lib.hid (stepA (N := wr.heap.size) KD1.out k5 V1.out a5 (by first | omega | (simp; done) | (simp; omega))); have O5 := Lib.hid o5; clear o5 k5 a5) | (refine step_app (by rfl) eltS (by rfl) (by rfl) (by rfl) (n := 0) (xs := []) E2.out.drew ((Sl.upto OQ.out a (by omega)).keep KD2.out (fun _ _ _ h => h)) (fun u hu => HI1.out u (List.mem_of_mem_take hu)) (by omega) (by simp only [maxLen]; omega) ?_; intro v5 w5 o5 k5 a5 _; have KN := Lib.hid (stepA (N := wr.heap.size) KD2.out k5 V1.out a5 (by first | omega | (simp; done) | (simp; omega))); have SS := Lib.hid (SSB.out w5 k5); have O5 := Lib.hid o5; clear o5 k5 a5) | (refine step_app (by rfl) eltS (by rfl) (by rfl) (by rfl) (n := 0) (xs := []) E3.out.drew ((Sl.upto OQ.out a (by omega)).keep KD3.out (fun _ _ _ h => h)) (fun u hu => HI1.out u (List.mem_of_mem_take hu)) (by omega) (by simp only [maxLen]; omega) ?_; intro v5 w5 o5 k5 a5 _; have KN := Lib.hid (stepA (N := wr.heap.size) KD3.out k5 V2.out a5 (by first | omega | (simp; done) | (simp; omega))); have SS := Lib.hid (SSC.out w5 k5); have O5 := Lib.hid o5; clear o5 k5 a5) | (refine step_app (by rfl) eltS (by rfl) (by rfl) (by rfl) O5.out SS.out (by simp [Value.oneCell']) (by omega) (by simp only [maxLen]; omega) ?_; intro v6 w6 o6 k6 a6 _; have K6 := Lib.hid (KN.out.1.trans (grow_keep k6 KN.out.2) (fun _ _ h => h)); have N6 := Lib.hid (grow_new (N := wr.heap.size) a6 KN.out.2 (by have := KN.out.1.size; first | omega | (simp; omega))); have O6 := Lib.hid o6; have OQ6 := Lib.hid (OQk.out w6 K6.out); clear o6 k6 a6) | (refine step_app (by rfl) eltS (by rfl) (by rfl) (by rfl) (own_keep O5.out ((Keep.refl (fun _ => False) _).alloc _) (fun _ _ h => h)) (Sl.of_own (own_new w5 #[.string ⟨xs.toArray⟩] 9 1 1 rfl (by decide))) (by simp [Value.oneCell']) (by omega) (by simp only [maxLen]; omega) ?_; intro v6 w6 o6 k6 a6 _; have K6 := Lib.hid ((KN.out.1.alloc _).trans (grow_keep k6 KN.out.2) (fun _ _ h => h)); have N6 := Lib.hid (grow_new (N := wr.heap.size) a6 KN.out.2 (by have := KN.out.1.size; first | omega | (simp; omega))); have O6 := Lib.hid o6; have OQ6 := Lib.hid (OQk.out w6 K6.out); clear o6 k6 a6) | (refine step_app (by rfl) eltS (by rfl) (by rfl) (by rfl) O6.out (Sl.from_ OQ6.out a (by omega) (by rfl) (by omega) (by omega) (by omega)) (fun u hu => HI1.out u (List.mem_of_mem_drop hu)) (by omega) (by simp only [maxLen]; omega) ?_; intro v7 w7 o7 k7 a7 _; have K7 := Lib.hid (K6.out.trans (grow_keep k7 N6.out) (fun _ _ h => h)); have N7 := Lib.hid (grow_new (N := wr.heap.size) a7 N6.out (by have := K6.out.size; first | omega | (simp; omega))); have O7 := Lib.hid o7; clear o7 k7 a7))
              all_goals
                have O7s := O7.out
                rw [splice_strs] at O7s
                have F7 := Lib.hid (FrT.of (base := w.heap.size) (os.take a ++ [xs] ++ os.drop a) O7s (by simp <;> omega) (by omega) rfl (fun k e => Nat.le_trans hN (N7.out k e)))
                have B7 := Lib.hid (HB2.out.trans (K7.out.below (B := w.heap.size) (fun i h => Nat.le_trans hN h) hN))
                clear O7s
                go_wp2
                go_roundw
                case rel => exact ⟨i + 1, by omega, by go_num, by rw [HT.out, rawN_snoc, if_neg H1.out, ← insP_sort, ← HOS.out]; exact (show insP xs os = os.take a ++ [xs] ++ os.drop a by unfold insP; rw [HA.out]) ▸ F7.out, B7.out⟩
                case measure => simp [intOf]; omega
            · go_wp2
              go_region_held3 (fun w' => w'.cell? ⟨b, off + i * 2, none⟩ = some (.string ⟨xs.toArray⟩)) (first | exact HSC.out _ (Keep.refl _ wr).drew | exact HSC.out _ ((Keep.refl _ wr).alloc _).drew | exact HSC.out _ (((Keep.refl _ wr).alloc _).alloc _).drew | exact HSC.out _ K7.out | exact HSC.out _ K6.out | exact HSC.out _ KN.out.1 | exact HSC.out _ (KN.out.1.alloc _)) (first | (refine step_app (by rfl) eltS (by rfl) (by rfl) (by rfl) (n := 0) (xs := []) E1.out.drew ((Sl.upto OQ.out a (by omega)).keep KD1.out (fun _ _ _ h => h)) (fun u hu => HI1.out u (List.mem_of_mem_take hu)) (by omega) (by simp only [maxLen]; omega) ?_; intro v5 w5 o5 k5 a5 _; have KN := Lib.hid (stepA (N := wr.heap.size) KD1.out k5 V1.out a5 (by first | omega | (simp; done) | (simp; omega))); have O5 := Lib.hid o5; clear o5 k5 a5) | (refine step_app (by rfl) eltS (by rfl) (by rfl) (by rfl) (n := 0) (xs := []) E2.out.drew ((Sl.upto OQ.out a (by omega)).keep KD2.out (fun _ _ _ h => h)) (fun u hu => HI1.out u (List.mem_of_mem_take hu)) (by omega) (by simp only [maxLen]; omega) ?_; intro v5 w5 o5 k5 a5 _; have KN := Lib.hid (stepA (N := wr.heap.size) KD2.out k5 V1.out a5 (by first | omega | (simp; done) | (simp; omega))); have SS := Lib.hid (SSB.out w5 k5); have O5 := Lib.hid o5; clear o5 k5 a5) | (refine step_app (by rfl) eltS (by rfl) (by rfl) (by rfl) (n := 0) (xs := []) E3.out.drew ((Sl.upto OQ.out a (by omega)).keep KD3.out (fun _ _ _ h => h)) (fun u hu => HI1.out u (List.mem_of_mem_take hu)) (by omega) (by simp only [maxLen]; omega) ?_; intro v5 w5 o5 k5 a5 _; have KN := Lib.hid (stepA (N := wr.heap.size) KD3.out k5 V2.out a5 (by first | omega | (simp; done) | (simp; omega))); have SS := Lib.hid (SSC.out w5 k5); have O5 := Lib.hid o5; clear o5 k5 a5) | (refine step_app (by rfl) eltS (by rfl) (by rfl) (by rfl) O5.out SS.out (by simp [Value.oneCell']) (by omega) (by simp only [maxLen]; omega) ?_; intro v6 w6 o6 k6 a6 _; have K6 := Lib.hid (KN.out.1.trans (grow_keep k6 KN.out.2) (fun _ _ h => h)); have N6 := Lib.hid (grow_new (N := wr.heap.size) a6 KN.out.2 (by have := KN.out.1.size; first | omega | (simp; omega))); have O6 := Lib.hid o6; have OQ6 := Lib.hid (OQk.out w6 K6.out); clear o6 k6 a6) | (refine step_app (by rfl) eltS (by rfl) (by rfl) (by rfl) (own_keep O5.out ((Keep.refl (fun _ => False) _).alloc _) (fun _ _ h => h)) (Sl.of_own (own_new w5 #[.string ⟨xs.toArray⟩] 9 1 1 rfl (by decide))) (by simp [Value.oneCell']) (by omega) (by simp only [maxLen]; omega) ?_; intro v6 w6 o6 k6 a6 _; have K6 := Lib.hid ((KN.out.1.alloc _).trans (grow_keep k6 KN.out.2) (fun _ _ h => h)); have N6 := Lib.hid (grow_new (N := wr.heap.size) a6 KN.out.2 (by have := KN.out.1.size; first | omega | (simp; omega))); have O6 := Lib.hid o6; have OQ6 := Lib.hid (OQk.out w6 K6.out); clear o6 k6 a6) | (refine step_app (by rfl) eltS (by rfl) (by rfl) (by rfl) O6.out (Sl.from_ OQ6.out a (by omega) (by rfl) (by omega) (by omega) (by omega)) (fun u hu => HI1.out u (List.mem_of_mem_drop hu)) (by omega) (by simp only [maxLen]; omega) ?_; intro v7 w7 o7 k7 a7 _; have K7 := Lib.hid (K6.out.trans (grow_keep k7 N6.out) (fun _ _ h => h)); have N7 := Lib.hid (grow_new (N := wr.heap.size) a7 N6.out (by have := K6.out.size; first | omega | (simp; omega))); have O7 := Lib.hid o7; clear o7 k7 a7))
              all_goals
                have O7s := O7.out
                rw [splice_strs] at O7s
                have F7 := Lib.hid (FrT.of (base := w.heap.size) (os.take a ++ [xs] ++ os.drop a) O7s (by simp <;> omega) (by omega) rfl (fun k e => Nat.le_trans hN (N7.out k e)))
                have B7 := Lib.hid (HB2.out.trans (K7.out.below (B := w.heap.size) (fun i h => Nat.le_trans hN h) hN))
                clear O7s
                go_wp2
                go_roundw
                case rel => exact ⟨i + 1, by omega, by go_num, by rw [HT.out, rawN_snoc, if_neg H1.out, ← insP_sort, ← HOS.out]; exact (show insP xs os = os.take a ++ [xs] ++ os.drop a by unfold insP; rw [HA.out]) ▸ F7.out, B7.out⟩
                case measure => simp [intOf]; omega
    · obtain rfl : i = l.length := by omega
      rw [List.take_length] at HO ⊢
      go_wp2
      go_ret
      have HN := names_end' HO.out HB.out
      exact HN
end Go.Proofs.YtcganoomgdabkaaDoor
