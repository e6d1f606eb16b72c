/- Words and contracts that the proofs of this set use; each part says what it holds. -/
import Derived.ProofKit
import Derived.SizedLaws
import Derived.Deep.Slices
import Derived.Deep.Strs
import Derived.ChangeOld
import Derived.Test.YtgedcnnbeangcaaGreatPkS5
import Derived.Test.YtgedcnnbeangcaaGreatPkS0
/- The walk of StoreBack. -/
set_option linter.unusedSimpArgs false
set_option linter.unusedVariables false
namespace Go.Proofs.YtgedcnnbeangcaaGreat
open Go.RowKit

attribute [local go_sem ↓] Go.wp_at_zero Go.wp_at_succ
theorem eltInt : Elt Tryz.prog 22 3 1 8 := Elt.mk' (z := .int .i64 0) (by kernel_rfl) (by kernel_rfl) (by kernel_rfl) (by simp [Value.oneCell', Value.cells]) (by decide)
/-- Blocks of another kind turn: the store stays. -/
theorem ST.turn {S : Nat → Prop} {B : Nat} {p : StP} {s : StS} {w w' : World} (h : ST B p s w) (hk : Keep S w w') (hS : ∀ j, S j → ∃ cs t fr, w.heap[j]? = some (.cells cs t fr) ∧ t ≠ 72 ∧ t ≠ 86 ∧ t ≠ 87 ∧ t ≠ 5) : ST B p s w' := by
  obtain ⟨xs, clock, hbl, _⟩ := h.will
  obtain ⟨cg, hg⟩ := own_blk h.drv.sure (k := p.g) rfl
  refine h.keep hk (fun e => ?_) (fun e => ?_) (fun e => ?_) (fun e => ?_) (fun x hx j ej e => ?_)
  · obtain ⟨cs, t, fr, hj, h1, _⟩ := hS _ e
    exact blk_ne hj h.blk h1 rfl
  · obtain ⟨cs, t, fr, hj, _, h1, _⟩ := hS _ e
    exact blk_ne hj h.drv.blk h1 rfl
  · obtain ⟨cs, t, fr, hj, _, _, h1, _⟩ := hS _ e
    exact blk_ne hj hg h1 rfl
  · obtain ⟨cs, t, fr, hj, _⟩ := hS _ e
    rw [hbl] at hj
    cases hj
  · obtain ⟨cs, t, fr, hj, _, _, _, h1⟩ := hS _ e
    obtain ⟨_, cs', fr', hq⟩ := (h.data x hx).fresh j ej
    exact blk_ne hj hq h1 rfl
/-- A row of another kind lies apart from the will. -/
theorem ST.b_ne {B : Nat} {p : StP} {s : StS} {w : World} (h : ST B p s w) {j : Nat} {cs : Array Value} {t : TypeId} {fr : Nat × Nat} (hj : w.heap[j]? = some (.cells cs t fr)) : j ≠ p.b := by
  obtain ⟨xs, clock, hbl, _⟩ := h.will
  rintro rfl
  rw [hbl] at hj
  cases hj
def upL (i : Nat) : List Nat := (List.range i).map fun k => 43 + k
theorem upL_len (i : Nat) : (upL i).length = i := by unfold upL; simp
theorem upL_succ (i : Nat) : nv (upL (i + 1)) = nv (upL i) ++ [.int .i64 ((43 + i : Nat) : Int)] := by unfold upL nv; rw [List.range_succ, List.map_append, List.map_append]; rfl
theorem upL_get {i j : Nat} (h : j < i) : (nv (upL i))[j]? = some (.int .i64 ((43 + j : Nat) : Int)) := by
  unfold upL nv
  rw [List.getElem?_map, List.getElem?_map, List.getElem?_range h]
  rfl
def BaI (B cnt : Nat) (p : StP) (d : DrS) (w : World) (v8 v9 : Value) (W : World) : Prop := ∃ (i : Nat) (s : StS) (M : List UInt8) (A : Option Addr) (c : Nat), i ≤ cnt ∧ v9 = .int .i64 (i : Int) ∧ v8 = .slice A i c ∧ ST B p s W ∧ Kn s M freshX ∧ MkT M (43 + i) ∧ s.sup = ⟨100, 1, 0⟩ ∧ s.d = d ∧ (i = 0 ∧ s.will = [] ∨ (getW 34 s.will).isSome = true ∧ s.will.length ≤ i + 1) ∧ NR w.heap.size 3 1 W (.slice A i c) i (nv (upL i)) ∧ Below w.heap.size w W
def BbI (B cnt : Nat) (p : StP) (A : Option Addr) (c : Nat) (w : World) (v12 : Value) (W : World) : Prop := ∃ (j : Nat) (s : StS) (M : List UInt8), j ≤ cnt ∧ v12 = .int .i64 (j : Int) ∧ ST B p s W ∧ Kn s M freshX ∧ M.length = 128 ∧ (∀ m, onP M m = decide (m < 43 ∨ 43 + j ≤ m ∧ m < 43 + cnt)) ∧ s.sup = ⟨100, 1, 0⟩ ∧ (cnt = 0 ∨ (getW 34 s.will).isSome = true) ∧ NR w.heap.size 3 1 W (.slice A cnt c) cnt (nv (upL cnt)) ∧ Below w.heap.size w W
theorem st_eq (s : StS) (h : s.will = []) : (⟨s.d, s.sup, []⟩ : StS) = s := by
  cases s
  cases h
  rfl
theorem b0_row (w : World) : NR w.heap.size 3 1 (w.alloc (.cells #[] 3)) (.slice (some ⟨w.heap.size, 0, none⟩) 0 0) 0 (nv (upL 0)) :=
  ⟨own_new w #[] 3 1 0 rfl (by decide), fun j e => by obtain rfl := Option.some.inj e; exact Nat.le_refl _⟩
set_option maxRecDepth 100000 in
set_option maxHeartbeats 4000000 in
theorem back_walk (a : Nat) (ha : a ≤ 255) (drop : Bool) (w : World) :
    Calls Tryz.prog 5 #[.int .u8 (a : Int), .bool drop] w fun e w' => e = .returned (.bool true) ∧ Below w.heap.size w w' := by
  have HBE : Hid (Calls Tryz.prog 7 #[.int .i64 100] w fun r w' => ∃ p s M, r = .returned (.tuple #[.pointer (some ⟨p.kd, 0, none⟩), .pointer (some ⟨p.k, 0, none⟩)]) ∧ Begun 100 p s M w w') := Lib.hid (lbegin 100 (by decide) (by decide) w)
  obtain ⟨cnt, hcnt⟩ : ∃ k : Nat, k = a % 20 := ⟨_, rfl⟩
  have e2 : (a : Int) % 20 = (cnt : Int) := by omega
  have e3 : IntKind.i64.wrap (cnt : Int) = (cnt : Int) := IntWalk.i64_in _ (by omega)
  have hc20 : cnt < 20 := by omega
  clear hcnt ha
  go_enter Tryz.func5, Tryz.ntmps5
  go_wp2_with fail
  refine HBE.out.mono ?_
  rintro r' w1 ⟨p, s, M, rfl, hbg⟩
  have HBG := Lib.hid hbg
  clear hbg
  go_wp2_with fail
  refine (awake_walk w1).mono ?_
  rintro r' w2 ⟨rfl, hb2⟩
  have HB2 := Lib.hid (HBG.out.below.trans (hb2.mono HBG.out.below.size))
  have HST2 := Lib.hid (HBG.out.st.below hb2)
  have HFREE : Hid (∀ W s M T f, ST w.heap.size p s W → Kn s M freshX → MkT M T → 43 ≤ T → T ≤ 100 → s.sup = ⟨100, 1, 0⟩ → f = ((100 - T : Nat) : Int) → Calls Tryz.prog 12 #[.pointer (some ⟨p.k, 0, none⟩)] W fun e w' => e = .returned (.int .i64 f) ∧ Below W.heap.size W w') := Lib.hid (fun W s M T f h1 h2 h3 h4 h5 h6 h7 => by
    have := lfree h1 h2 h3 h4 (by rw [h6]; exact h5)
    rw [h6] at this
    rw [h7]
    exact this)
  have HF2 := Lib.hid (HFREE.out w2 s M 43 57 HST2.out HBG.out.kn HBG.out.mm.t (by omega) (by omega) HBG.out.sup rfl)
  clear hb2
  go_wp2_with fail
  refine HF2.out.mono ?_
  rintro r' w3 ⟨rfl, hb3⟩
  have hba : Below w3.heap.size w3 (w3.alloc (.cells #[] 3)) := (Below.refl _ w3).alloc (Nat.le_refl _) _
  have HI0 : Hid (BaI w.heap.size cnt p s.d w (.slice (some ⟨w3.heap.size, 0, none⟩) 0 0) (.int .i64 0) (w3.alloc (.cells #[] 3))) := Lib.hid ⟨0, s, M, _, _, Nat.zero_le _, rfl, rfl, (HST2.out.below hb3).below hba, HBG.out.kn, HBG.out.mm.t, HBG.out.sup, rfl, .inl ⟨rfl, HBG.out.will⟩, ⟨(b0_row w3).own, fun j e => Nat.le_trans (bstep HB2.out hb3).size ((b0_row w3).fresh j e)⟩, bstep (bstep HB2.out hb3) hba⟩
  clear hb3 hba
  go_wp2_with fail
  go_loopw [8, 9] (fun v8 v9 wr => BaI w.heap.size cnt p s.d w v8 v9 wr) (fun _ v _ => 20 - (intOf v).toNat)
  case atStart => exact HI0.out
  case round =>
    obtain ⟨i, si, Mi, Ai, ci, hi, rfl, rfl, hst, hkn, hmk, hsup, hd, hwl, hnr, hbw⟩ := hrel
    have HST := Lib.hid hst
    have HKN := Lib.hid hkn
    have HMK := Lib.hid hmk
    have HSUP := Lib.hid hsup
    have HD := Lib.hid hd
    have HNR := Lib.hid hnr
    have HBW := Lib.hid hbw
    by_cases hlt : i < cnt
    · have ga : (i : Int) < (cnt : Int) := by omega
      have gb : IntKind.i64.wrap ((i : Int) + 1) = (i : Int) + 1 := IntWalk.i64_in _ (by omega)
      obtain ⟨q, hq⟩ : ∃ q : Nat, q = 43 + i := ⟨_, rfl⟩
      have htk := ltake hst hkn hmk.len (hmk.first 43 _ (by omega) (by rw [hsup]; show 43 + i < 43 + (100 - 43); omega)) (by rcases hwl with ⟨_, h⟩ | h; rw [h]; show 0 ≤ 22; omega; omega)
      rw [← hq] at htk
      have HTK := Lib.hid htk
      have HWL := Lib.hid hwl
      have HQ := Lib.hid hq
      clear hst hkn hmk hsup hd hwl hnr hbw htk hq
      go_wp2_with fail
      refine HTK.out.mono ?_
      rintro r' w4 ⟨s4, rfl, ht⟩
      have HT := Lib.hid ht
      have hrow4 : NR w.heap.size 3 1 w4 (.slice Ai i ci) i (nv (upL i)) := ⟨own_keep HNR.out.own ht.keep (fun k e => by obtain ⟨cs, hq⟩ := own_blk HNR.out.own e; exact HST.out.b_ne hq), HNR.out.fresh⟩
      have HR4 := Lib.hid hrow4
      have HB4 := Lib.hid (HBW.out.trans (ht.keep.below (fun j hj => by have := HST.out.newAll; have : j = p.b := hj; omega) HBW.out.size))
      have hmk4 := HMK.out.set (by omega : 43 + i < 1024)
      have HMK4 := Lib.hid hmk4
      have hba4 : Below w4.heap.size w4 (w4.alloc (.cells #[.int .i64 (q : Int)] 3)) := (Below.refl _ w4).alloc (Nat.le_refl _) _
      have HN6 := Lib.hid (hrow4.below hba4)
      have HS6 := Lib.hid (ht.st.below hba4)
      have HBA4 := Lib.hid hba4
      have HEND : Hid (∀ (v5 : Value) (W : World), W.ownsRow 0 3 1 v5 (i + 1) (nv (upL i) ++ [.int .i64 (q : Int)]) → Keep (fun k => (Value.slice Ai i ci).ownBlock = some k) (w4.alloc (.cells #[.int .i64 (q : Int)] 3)) W → (v5.ownBlock = (Value.slice Ai i ci).ownBlock ∨ v5.ownBlock = some (w4.alloc (.cells #[.int .i64 (q : Int)] 3)).heap.size) → BaI w.heap.size cnt p s.d w v5 (.int .i64 ((i : Int) + 1)) W) := Lib.hid (fun v5 W g4 g5 g6 => by
        obtain ⟨A5, c5, rfl, _⟩ := Rd.of_own g4
        have hG := HN6.out.grown rfl (bstep HB4.out HBA4.out) g4 g5 g6
        refine ⟨i + 1, s4, setP Mi (43 + i) true, A5, c5, hlt, by rw [Int.natCast_add]; rfl, rfl, HS6.out.turn g5 (fun j e => ?_), ?_, HMK4.out, ?_, ?_, .inr ⟨HT.out.mark, ?_⟩, ?_, hG.2⟩
        · obtain ⟨cs, hq⟩ := own_blk HN6.out.own e
          exact ⟨cs, _, _, hq, by decide, by decide, by decide, by decide⟩
        · rw [← HQ.out]; exact HT.out.kn
        · rw [HT.out.sup, HSUP.out]
        · rw [HT.out.d, HD.out]
        · have := HT.out.len
          rcases HWL.out with ⟨h1, h2⟩ | ⟨h1, h2⟩
          · rw [h2] at this
            have this : s4.will.length ≤ 2 := this
            omega
          · rw [if_pos h1] at this
            omega
        · rw [upL_succ, ← HQ.out]; exact hG.1)
      clear ht hrow4 hmk4 hba4
      by_cases hz : i = 0
      · have k0 : ¬ (0 : Int) < (i : Int) := by omega
        clear hz
        go_wp2_with (at_builtin; go_must (refine wpList_app rfl eltInt rfl rfl rfl (n := i) (m := 1) HN6.out.own (Sl.of_own (own_new w4 #[.int .i64 (q : Int)] 3 1 1 rfl (by decide))) (by simp [Value.oneCell']) (by omega) (by simp only [maxLen]; omega) ?_))
        intro v5 w5 g4 g5 g6 g7
        clear g7
        have HR := Lib.hid (HEND.out v5 w5 g4 g5 (g6.imp id (fun h => h.trans (by rw [World.size_alloc]))))
        clear g4 g5 g6
        go_wp2_with fail
        go_roundw
        case rel => exact HR.out
        case measure => simp only [intOf]; omega
      · obtain ⟨j, hj⟩ : ∃ j : Nat, i = j + 1 := ⟨i - 1, by omega⟩
        have k0 : (0 : Int) < (i : Int) := by omega
        have k1 : IntKind.i64.wrap ((i : Int) - 1) = (j : Int) := by rw [IntWalk.i64_in _ (by omega)]; omega
        have k2 : (0 : Int) ≤ (j : Int) := by omega
        have k3 : (j : Int) < (i : Int) := by omega
        obtain ⟨z, hz'⟩ : ∃ z : Nat, z = 43 + j := ⟨_, rfl⟩
        have k4 : ¬ (q : Int) ≤ (z : Int) := by have := HQ.out; omega
        obtain ⟨b, o, hA, _, hc⟩ := sl_cell (Sl.of_own HR4.out.own) (upL_get (show j < i by omega))
        subst hA
        rw [← hz'] at hc
        clear hz' hz hj
        go_wp2_with (at_builtin; go_must (refine wpList_app rfl eltInt rfl rfl rfl (n := i) (m := 1) HN6.out.own (Sl.of_own (own_new w4 #[.int .i64 (q : Int)] 3 1 1 rfl (by decide))) (by simp [Value.oneCell']) (by omega) (by simp only [maxLen]; omega) ?_))
        intro v5 w5 g4 g5 g6 g7
        clear g7
        have HR := Lib.hid (HEND.out v5 w5 g4 g5 (g6.imp id (fun h => h.trans (by rw [World.size_alloc]))))
        clear g4 g5 g6
        go_wp2_with fail
        go_roundw
        case rel => exact HR.out
        case measure => simp only [intOf]; omega
    · obtain rfl : i = cnt := by omega
      have ga : ¬ (i : Int) < (i : Int) := by omega
      have HF := Lib.hid (HFREE.out wr si Mi (43 + i) (57 - (i : Int)) hst hkn hmk (by omega) (by omega) hsup (by omega))
      have gw : IntKind.i64.wrap (57 - (i : Int)) = 57 - (i : Int) := IntWalk.i64_in _ (by omega)
      have HWL := Lib.hid hwl
      clear hst hkn hmk hsup hd hwl hnr hbw
      go_wp2_with fail
      refine HF.out.mono ?_
      rintro r' w4 ⟨rfl, hb4⟩
      have HST4 := Lib.hid (HST.out.below hb4)
      have HNR4 := Lib.hid (HNR.out.below hb4)
      have HB4 := Lib.hid (bstep HBW.out hb4)
      clear hb4
      cases drop
      · go_wp2_with fail
        go_loopw [12] (fun v wr => BbI w.heap.size i p Ai ci w v wr) (fun v _ => 20 - (intOf v).toNat)
        case atStart => exact ⟨0, si, Mi, Nat.zero_le _, rfl, HST4.out, HKN.out, HMK.out.len, fun m => by
          rw [HMK.out.on]
          by_cases hm : m < 43 + i
          · rw [decide_eq_true hm, decide_eq_true (by omega)]
          · rw [decide_eq_false hm, decide_eq_false (by omega)], HSUP.out, HWL.out.imp (fun h => h.1) (fun h => h.1), HNR4.out, HB4.out⟩
        case round =>
          obtain ⟨j, sj, Mj, hj, rfl, hst, hkn, hlen, hon, hsup, hwl, hnr, hbw⟩ := hrel
          have HSTj := Lib.hid hst
          have HKNj := Lib.hid hkn
          have HLEN := Lib.hid hlen
          have HON := Lib.hid hon
          have HSUPj := Lib.hid hsup
          have HNRj := Lib.hid hnr
          have HBWj := Lib.hid hbw
          by_cases hlt2 : j < i
          · have gj : (j : Int) < (i : Int) := by omega
            have g0 : (0 : Int) ≤ (j : Int) := by omega
            have gb : IntKind.i64.wrap ((j : Int) + 1) = (j : Int) + 1 := IntWalk.i64_in _ (by omega)
            have h34 : (getW 34 sj.will).isSome = true := by rcases hwl with h | h; omega; exact h
            obtain ⟨q, hq⟩ : ∃ q : Nat, q = 43 + j := ⟨_, rfl⟩
            obtain ⟨b, o, hA, _, hc⟩ := sl_cell (Sl.of_own hnr.own) (upL_get hlt2)
            subst hA
            rw [← hq] at hc
            have HG := Lib.hid (sgive_walk _ p sj _ hst hkn.ok q (by have := hkn.len; rw [hsup] at this; have this : sj.d.sure.length = 100 := this; omega) (by omega) Mj hkn.marks (.inl h34))
            have H34 := Lib.hid h34
            have HQ := Lib.hid hq
            clear hst hkn hlen hon hsup hwl hnr hbw h34 hq
            go_wp2_with fail
            refine HG.out.mono ?_
            rintro r' w5 ⟨A5, c5, rfl, hst5, hk5⟩
            have HR : Hid (BbI w.heap.size i p (some ⟨b, o, none⟩) ci w (.int .i64 ((j : Int) + 1)) w5) := Lib.hid (by
              have hkn5 := HKNj.out.mark (A := A5) (c := c5) (M' := setP Mj q false) (by rw [setP_len]; exact HLEN.out) (.inl H34.out)
              refine ⟨j + 1, _, setP Mj q false, hlt2, by rw [Int.natCast_add]; rfl, hst5, hkn5, by rw [setP_len]; exact HLEN.out, fun m => ?_, HSUPj.out, .inr ?_, ⟨own_keep HNRj.out.own hk5 (fun k e => by obtain ⟨cs, hq⟩ := own_blk HNRj.out.own e; exact HSTj.out.b_ne hq), HNRj.out.fresh⟩, HBWj.out.trans (hk5.below (fun j hj => by have := HSTj.out.newAll; have : j = p.b := hj; omega) HBWj.out.size)⟩
              · rw [onP_set _ HLEN.out q (by have := HQ.out; omega) false m, HON.out]
                have := HQ.out
                by_cases hm : m = q
                · rw [if_pos hm, decide_eq_false (by omega)]
                · rw [if_neg hm]
                  by_cases h2 : m < 43 ∨ 43 + j ≤ m ∧ m < 43 + i
                  · rw [decide_eq_true h2, decide_eq_true (by omega)]
                  · rw [decide_eq_false h2, decide_eq_false (by omega)]
              · show (getW 34 (insW _ sj.will)).isSome = true
                rw [getW_ins _ HKNj.out.ok.rise, if_pos rfl]
                rfl)
            clear hst5 hk5
            go_wp2_with fail
            go_roundw
            case rel => exact HR.out
            case measure => simp only [intOf]; omega
          · obtain rfl : j = i := by omega
            have gj : ¬ (j : Int) < (j : Int) := by omega
            have hmt : MkT Mj 43 := ⟨hlen, fun m => by
              rw [hon]
              by_cases hm : m < 43
              · rw [decide_eq_true hm, decide_eq_true (by omega)]
              · rw [decide_eq_false hm, decide_eq_false (by omega)]⟩
            have HF1 := Lib.hid (HFREE.out _ sj Mj 43 57 hst hkn hmt (by omega) (by omega) hsup rfl)
            have HMT := Lib.hid hmt
            clear hst hkn hlen hon hsup hwl hnr hbw hmt
            go_wp2_with fail
            refine HF1.out.mono ?_
            rintro r' w5 ⟨rfl, hb5⟩
            have HC5 := Lib.hid (lcommit (HSTj.out.below hb5) HKNj.out)
            have HST5 := Lib.hid (HSTj.out.below hb5)
            have HB5 := Lib.hid (bstep HBWj.out hb5)
            clear hb5
            go_wp2_with fail
            refine HC5.out.mono ?_
            rintro r' w6 ⟨s6, rfl, hst6, hkn6, hsup6, _, _, hk6⟩
            have HB6 := Lib.hid (HB5.out.trans (hk6.below (fun j hj => by have := HST5.out.newAll; have := HB5.out.size; rcases hj with hj | hj | hj | hj <;> omega) HB5.out.size))
            have HF6 := Lib.hid (HFREE.out w6 s6 Mj 43 57 hst6 hkn6 HMT.out (by omega) (by omega) (by rw [hsup6, HSUPj.out]) rfl)
            clear hst6 hkn6 hsup6 hk6
            go_wp2_with fail
            refine HF6.out.mono ?_
            rintro r' w7 ⟨rfl, hb7⟩
            have HB7 := Lib.hid (bstep HB6.out hb7)
            clear hb7
            go_wp2
            go_ret
            exact ⟨rfl, HB7.out⟩
      · obtain ⟨b, hb, hdb⟩ := HBG.out.kn.zero
        rw [view_nil HBG.out.will, ← HD.out] at hb
        have HDR := Lib.hid (sdrop_walk _ p si w4 HST4.out HKN.out.ok b hb s.sup hdb)
        clear hb hdb
        go_wp2_with fail
        refine HDR.out.mono ?_
        rintro r' w5 ⟨rfl, hst5, hk5⟩
        rw [HD.out, st_eq s HBG.out.will] at hst5
        have HST5 := Lib.hid hst5
        have HB5 := Lib.hid (HB4.out.trans (hk5.below (fun j hj => by have := HST4.out.newAll; rcases hj with hj | hj <;> omega) HB4.out.size))
        have HF5 := Lib.hid (HFREE.out w5 s M 43 57 hst5 HBG.out.kn HBG.out.mm.t (by omega) (by omega) HBG.out.sup rfl)
        clear hst5 hk5
        go_wp2_with fail
        refine HF5.out.mono ?_
        rintro r' w6 ⟨rfl, hb6⟩
        have HC6 := Lib.hid (lcommit (HST5.out.below hb6) HBG.out.kn)
        have HST6 := Lib.hid (HST5.out.below hb6)
        have HB6 := Lib.hid (bstep HB5.out hb6)
        clear hb6
        go_wp2_with fail
        refine HC6.out.mono ?_
        rintro r' w7 ⟨s7, rfl, hst7, hkn7, _, _, _, hk7⟩
        have HB7 := Lib.hid (HB6.out.trans (hk7.below (fun j hj => by have := HST6.out.newAll; have := HB6.out.size; rcases hj with hj | hj | hj | hj <;> omega) HB6.out.size))
        clear hst7 hkn7 hk7
        go_wp2
        go_ret
        exact ⟨rfl, HB7.out⟩
theorem back_open (x : Int) (b : Bool) (hx : (Lit.int .u8 x).wf = true) (w : World) :
    Calls Tryz.prog 5 #[.int .u8 x, .bool b] w fun e w' => e = .returned (.bool true) ∧ Below w.heap.size w w' := by
  simp only [Lit.wf, Bool.and_eq_true, decide_eq_true_eq] at hx
  have h : 0 ≤ x ∧ x ≤ 255 := hx
  obtain ⟨a, rfl⟩ : ∃ a : Nat, x = (a : Int) := ⟨x.toNat, by omega⟩
  exact back_walk a (by omega) b w
end Go.Proofs.YtgedcnnbeangcaaGreat
/- What an argument that can be read looks like, type by type: numbers, texts, bytes, structs, slices. No program in sight. -/
set_option linter.unusedSimpArgs false
set_option linter.unusedVariables false
namespace Go.Proofs.YtgedcnnbeangcaaGreat
open Go.RowKit Go.ChangeShapes Go.WideShapes Go.ChangeAt

/-- The cells cs can be read as a value of type t, and nothing in it is greater than a machine's memory. -/
def Opens (P : Program) (w : World) (t : TypeId) (cs : List Value) : Prop :=
  ∃ (H : Type) (enc : TypeId × Value → H) (fuel : Nat) (x : DataW H × List MemPlace), DataW.trod enc P w 0 (fun _ => true) true fuel t cs = some x ∧ ∀ n ∈ x.1.weights P t, n ≤ 140737488351232

theorem Opens.int {P : Program} {w : World} {t : TypeId} {cs : List Value} {k : IntKind} (ht : P.underlying t = some (.int k)) (h : Opens P w t cs) : ∃ n, cs = [.int k n] ∧ (Lit.int k n).wf = true := by
  obtain ⟨H, enc, fuel, x, hf, _⟩ := h
  obtain ⟨n, rfl, _, hw⟩ := DataW.trod_int ht hf
  exact ⟨n, rfl, hw⟩
theorem Opens.bool {P : Program} {w : World} {t : TypeId} {cs : List Value} (ht : P.underlying t = some .bool) (h : Opens P w t cs) : ∃ b, cs = [.bool b] := by
  obtain ⟨H, enc, fuel, x, hf, _⟩ := h
  obtain ⟨b, rfl, _⟩ := DataW.trod_bool ht hf
  exact ⟨b, rfl⟩
theorem Opens.string {P : Program} {w : World} {t : TypeId} {cs : List Value} (ht : P.underlying t = some .string) (h : Opens P w t cs) : ∃ s : ByteArray, cs = [.string s] ∧ s.size ≤ 140737488351232 := by
  obtain ⟨H, enc, fuel, x, hf, hw⟩ := h
  obtain ⟨s, rfl, rfl, _⟩ := DataW.trod_string ht hf
  refine ⟨s, rfl, ?_⟩
  have := hw s.data.toList.length (by simp [DataW.weights])
  rw [Array.length_toList] at this
  exact this

theorem weightsEach_mem {H : Type} {P : Program} : ∀ (fs : List Field) (xs : List (DataW H)) (i : Nat) (f : Field) (d : DataW H), fs[i]? = some f → xs[i]? = some d → ∀ n ∈ d.weights P f.type, n ∈ DataW.weightsEach P (fs.map (·.type)) xs
  | f0 :: fs, d0 :: xs, 0, f, d, hf, hd, n, hn => by
    simp only [List.getElem?_cons_zero, Option.some.injEq] at hf hd
    subst hf; subst hd
    simp only [List.map_cons, DataW.weightsEach, List.mem_append]
    exact .inl hn
  | f0 :: fs, d0 :: xs, i + 1, f, d, hf, hd, n, hn => by
    simp only [List.getElem?_cons_succ] at hf hd
    simp only [List.map_cons, DataW.weightsEach, List.mem_append]
    exact .inr (weightsEach_mem fs xs i f d hf hd n hn)
  | [], _, _, f, d, hf, _, _, _ => by simp at hf
  | _ :: _, [], _, f, d, _, hd, _, _ => by simp at hd
theorem weightsAll_mem {H : Type} {P : Program} {e : TypeId} : ∀ (xs : List (DataW H)) (d : DataW H), d ∈ xs → ∀ n ∈ d.weights P e, n ∈ DataW.weightsAll P e xs
  | [], d, hd, _, _ => by simp at hd
  | d0 :: xs, d, hd, n, hn => by
    simp only [DataW.weightsAll, List.mem_append]
    rcases List.mem_cons.1 hd with rfl | h
    · exact .inl hn
    · exact .inr (weightsAll_mem xs d h n hn)

theorem Opens.struct {P : Program} {w : World} {t : TypeId} {cs : List Value} {fs : Array Field} (ht : P.underlying t = some (.struct fs)) (h : Opens P w t cs) :
    cs.length = P.cellsOf t ∧ ∀ (i : Nat) (f : Field), fs[i]? = some f → Opens P w f.type ((cs.drop f.offset).take (P.cellsOf f.type)) := by
  obtain ⟨H, enc, fuel, x, hf, hw⟩ := h
  obtain ⟨xs, n, _, rfl, hl, hlen, hfs⟩ := DataW.trod_struct ht hf
  refine ⟨hl, fun i f hi => ?_⟩
  have hif : i < fs.size := (Array.getElem?_eq_some_iff.1 hi).1
  obtain ⟨y, hy⟩ : ∃ y, xs[i]? = some y := ⟨xs[i]'(by omega), List.getElem?_eq_getElem (by omega)⟩
  refine ⟨H, enc, n, y, (hfs i f hi).trans hy, fun m hm => hw m ?_⟩
  simp only [DataW.weights, ht]
  exact weightsEach_mem fs.toList (xs.map (·.1)) i f y.1 (by simpa using hi) (by simp [hy]) m hm

theorem flat_cells {w : World} {ad : Addr} {size : Nat} : ∀ (css : List (List Value)) (base : Nat), (∀ i c, css[i]? = some c → c.length = size ∧ ∀ j, j < size → w.cell? (ad.add (base + i * size + j)) = c[j]?) →
    ∀ k u, css.flatten[k]? = some u → w.cell? (ad.add (base + k)) = some u
  | [], _, _, k, u, hu => by simp at hu
  | c :: css, base, h, k, u, hu => by
    obtain ⟨hl, hc⟩ := h 0 c rfl
    rw [List.flatten_cons, List.getElem?_append] at hu
    split at hu
    · rename_i hk
      have := hc k (by omega)
      rw [show base + 0 * size + k = base + k by omega] at this
      rw [this]; exact hu
    · rename_i hk
      have := flat_cells css (base + size) (fun i c' hi => by
        obtain ⟨h1, h2⟩ := h (i + 1) c' (by simpa using hi)
        refine ⟨h1, fun j hj => ?_⟩
        have := h2 j hj
        rw [show base + (i + 1) * size + j = base + size + i * size + j by rw [Nat.add_mul]; omega] at this
        exact this) (k - c.length) u hu
      rw [show base + size + (k - c.length) = base + k by omega] at this
      exact this

theorem flatten_len {size : Nat} : ∀ (css : List (List Value)), (∀ c ∈ css, c.length = size) → css.flatten.length = css.length * size
  | [], _ => by simp
  | c :: css, h => by
    rw [List.flatten_cons, List.length_append, flatten_len css (fun c hc => h c (by simp [hc])), h c (by simp), List.length_cons, Nat.add_mul]
    omega

/-- A slice that came in: its elements' cells, one list each. -/
theorem Opens.slice {P : Program} {w : World} {t e : TypeId} {cs : List Value} (ht : P.underlying t = some (.slice e)) (h : Opens P w t cs) :
    ∃ (v : Value) (n : Nat) (css : List (List Value)), cs = [v] ∧ css.length = n ∧ Sl w (P.cellsOf e) v n css.flatten ∧ (∀ c ∈ css, c.length = P.cellsOf e ∧ Opens P w e c) ∧ n * P.bytesOf e ≤ 140737488351232 := by
  obtain ⟨H, enc, fuel, x, hf, hw⟩ := h
  rcases DataW.trod_slice ht hf with ⟨rfl, rfl⟩ | ⟨a, len, cap, elems, rest, n, _, rfl, rfl, hb, hl, hm, hlen, hel, _, _⟩
  · exact ⟨_, 0, [], rfl, rfl, ⟨none, 0, rfl, .inl rfl, fun _ => ⟨rfl, rfl⟩, Nat.le_refl _, by simp⟩, by simp, by simp⟩
  · have hone : ∀ i, i < len → ∃ c : List Value, c.length = P.cellsOf e ∧ (∀ j, j < P.cellsOf e → w.cell? (a.add (i * P.cellsOf e + j)) = c[j]?) ∧ Opens P w e c := by
      intro i hi
      obtain ⟨y, hy⟩ : ∃ y, elems[i]? = some y := ⟨elems[i]'(by omega), List.getElem?_eq_getElem (by omega)⟩
      have h1 := (hel i hi).trans hy
      obtain ⟨c, hc, ht'⟩ := Option.bind_eq_some_iff.1 h1
      obtain ⟨_, h2, h3⟩ := World.cells?_some hc
      refine ⟨c, h2, fun j hj => by rw [← Go.Deep.add_add]; exact h3 j hj, H, enc, n, y, ht', fun k hk => hw k ?_⟩
      simp only [DataW.weights, ht]
      refine List.mem_cons_of_mem _ (List.mem_append_left _ ?_)
      exact weightsAll_mem _ y.1 (List.mem_map.2 ⟨y, List.mem_of_getElem? hy, rfl⟩) k hk
    obtain ⟨f, hfc⟩ := Go.Deep.choose_lt (α := List Value) (n := len) (p := fun i c => c.length = P.cellsOf e ∧ (∀ j, j < P.cellsOf e → w.cell? (a.add (i * P.cellsOf e + j)) = c[j]?) ∧ Opens P w e c) hone
    have hget : ∀ i c, ((List.range len).map f)[i]? = some c → i < len ∧ f i = c := by
      intro i c hi
      rw [List.getElem?_map] at hi
      rcases Nat.lt_or_ge i len with h | h
      · simp [h] at hi; exact ⟨h, hi⟩
      · simp [List.getElem?_eq_none (show (List.range len).length ≤ i by simpa using h)] at hi
    have hall : ∀ c ∈ (List.range len).map f, c.length = P.cellsOf e ∧ Opens P w e c := by
      intro c hc
      obtain ⟨i, hi, rfl⟩ := List.mem_map.1 hc
      have := hfc i (List.mem_range.1 hi)
      exact ⟨this.1, this.2.2⟩
    refine ⟨_, len, (List.range len).map f, rfl, by simp, ⟨some a, cap, rfl, .inr ⟨a, rfl, fun k u hu => ?_⟩, (fun e => by simp at e), hl, ?_⟩, hall, ?_⟩
    · have := flat_cells (w := w) (ad := a) (size := P.cellsOf e) ((List.range len).map f) 0 (fun i c hi => by
        obtain ⟨h1, rfl⟩ := hget i c hi
        have := hfc i h1
        exact ⟨this.1, fun j hj => by rw [Nat.zero_add]; exact this.2.1 j hj⟩) k u hu
      simpa using this
    · rw [flatten_len _ (fun c hc => (hall c hc).1)]; simp
    · have := hw ((elems.length + rest.length) * P.bytesOf e) (by simp [DataW.weights, ht])
      refine Nat.le_trans (Nat.mul_le_mul_right _ ?_) this
      omega

theorem map_byte {cs : List (List Value)} (h : ∀ c ∈ cs, ∃ b : UInt8, c = [.int .u8 (b.toNat : Int)]) : ∃ d : List UInt8, cs.flatten = bv d ∧ d.length = cs.length := by
  induction cs with
  | nil => exact ⟨[], rfl, rfl⟩
  | cons c cs ih =>
    obtain ⟨b, rfl⟩ := h c (by simp)
    obtain ⟨d, hd, hl⟩ := ih (fun c hc => h c (by simp [hc]))
    exact ⟨b :: d, by simp [bv] at hd ⊢; exact hd, by simp [hl]⟩
/-- A slice of bytes that came in. -/
theorem Opens.bytes {P : Program} {w : World} {t e : TypeId} {cs : List Value} (ht : P.underlying t = some (.slice e)) (he : P.underlying e = some (.int .u8)) (hc : P.cellsOf e = 1) (hb : P.bytesOf e = 1) (h : Opens P w t cs) :
    ∃ A c d, cs = [.slice A d.length c] ∧ Sl w 1 (.slice A d.length c) d.length (bv d) ∧ d.length ≤ 140737488351232 := by
  obtain ⟨v, n, css, rfl, hn, hs, hall, hr⟩ := h.slice ht
  rw [hc] at hs hall
  rw [hb] at hr
  obtain ⟨d, hd, hl⟩ := map_byte (cs := css) (fun c hcc => by
    obtain ⟨k, rfl, hw⟩ := (hall c hcc).2.int he
    have : 0 ≤ k ∧ k < 256 := by
      simp only [Lit.wf, IntKind.min, IntKind.max, IntKind.signed, IntKind.bits, Bool.and_eq_true, decide_eq_true_eq] at hw
      simp at hw
      omega
    exact ⟨UInt8.ofNat k.toNat, by simp; omega⟩)
  rw [hd] at hs
  have hs' := hs
  obtain ⟨A, c, rfl, _⟩ := hs'
  obtain rfl : n = d.length := by omega
  exact ⟨A, c, d, rfl, hs, by omega⟩
/-- The first argument's reading out of all arguments'. -/
theorem Opens.arg {H : Type} {enc : TypeId × Value → H} {P : Program} {w : World} {t : TypeId} {v : Value} {d : DataW H} {ps : List MemPlace} {ts : List TypeId} {ds : List (DataW H)} (h : DataW.Trod enc P w 0 (fun _ => true) true t v d ps)
    (hall : (DataW.weightsEach P ts ds).all (· ≤ reachBytes) = true) {j : Nat} (h1 : ts[j]? = some t) (h2 : ds[j]? = some d) : Opens P w t v.cells.toList := by
  obtain ⟨fuel, hf⟩ := h
  refine ⟨H, enc, fuel, (d, ps), hf, fun n hn => ?_⟩
  have := List.all_eq_true.1 hall n (DataW.weights_mem_each h1 h2 n hn)
  exact of_decide_eq_true this
end Go.Proofs.YtgedcnnbeangcaaGreat
