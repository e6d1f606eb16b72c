/- The document's answer for leases: Grant. -/
import Derived.Test.YtmfgkddndlleoaaRefL6
import Derived.Test.YtmfgkddndlleoaaLeaseS2
import Derived.Deep.QuietTactic
import Derived.BigQuiet
import Derived.Handy
import Derived.Deep.CutBlock
import Derived.Deep.RegionHeld3
import Derived.Deep.RegionLaw
import Derived.Deep.DrawnRows
import Derived.Deep.Light
set_option linter.unusedSimpArgs false
set_option linter.unusedVariables false
namespace Go.Proofs.Ytmfgkddndlleoaa
open Go.RowKit

/-- How Grant ends. -/
def GrEnd (born : Int) (A B : Option Addr) (ls qs : List LE) (nl nq : Nat) (w : World) (e : Ending) (w' : World) : Prop :=
  ∃ K kc ks M mc ms O oc os b, e = .returned (.tuple #[.agg #[.int .i64 born, .slice K (List.length ks) kc, .slice M (List.length ms) mc], .slice O (List.length os) oc, .bool b]) ∧ Sl w' 5 (.slice K ks.length kc) ks.length (flat ks) ∧ Sl w' 5 (.slice M ms.length mc) ms.length (flat ms) ∧ Sl w' 1 (.slice O os.length oc) os.length (ints os) ∧
    ks.length ≤ nl + 1 ∧ ms.length ≤ nq + 1 ∧ os.length ≤ nl ∧ (∀ k, K.map (·.block) = some k → (A.map (·.block) = some k ∧ ks = ls) ∨ w.heap.size ≤ k) ∧ (∀ k, M.map (·.block) = some k → (B.map (·.block) = some k ∧ ms = qs) ∨ w.heap.size ≤ k) ∧ Below w.heap.size w w'
def PlInv (nq : Nat) (w0 : World) (vp vi : Value) (wr : World) : Prop := ∃ (p : Nat) (i : Int), p ≤ nq ∧ vp = .int .i64 (p : Int) ∧ vi = .int .i64 i ∧ -1 ≤ i ∧ i < (nq : Int) ∧ Keep (fun _ => False) w0 wr
def AhInv (p : Nat) (w0 : World) (va vi : Value) (wr : World) : Prop := ∃ (b : Bool) (i : Nat), va = .bool b ∧ vi = .int .i64 (i : Int) ∧ i ≤ p ∧ Keep (fun _ => False) w0 wr
theorem grant_fin {w wv wf : World} {born : Int} {A B L2 M O : Option Addr} {lc2 mc oc n7 nl nq : Nat} {l2 ms ls qs : List LE} {os : List Int} (kf : Keep (fun i => i = w.heap.size + 1 + 1) wv wf) (hn : ms.length = n7) (SR : Sl wv 5 (.slice L2 l2.length lc2) l2.length (flat l2)) (OM : wv.ownsRow 0 72 5 (.slice M n7 mc) n7 (flat ms)) (SO : Sl wv 1 (.slice O os.length oc) os.length (ints os))
    (HB : Below w.heap.size w wv) (hsz : w.heap.size + 3 ≤ wv.heap.size) (h1 : l2.length ≤ nl) (h2 : n7 ≤ nq + 1) (h3 : os.length ≤ nl) (fL : ∀ k, L2.map (·.block) = some k → w.heap.size + 3 ≤ k) (fM : ∀ k, M.map (·.block) = some k → w.heap.size + 3 ≤ k) (fO : ∀ k, O.map (·.block) = some k → w.heap.size + 3 ≤ k) :
    GrEnd born A B ls qs nl nq w (.returned (.tuple #[.agg #[.int .i64 born, .slice L2 l2.length lc2, .slice M n7 mc], .slice O os.length oc, .bool false])) wf := by
  subst hn
  exact ⟨L2, lc2, l2, M, mc, ms, O, oc, os, false, rfl, SR.keep kf (fun k e hx h => by have := fL k (by rw [ownBlock_slice] at e; exact e); omega), Sl.of_own (own_keep OM kf (fun k e h => by have := fM k (by rw [ownBlock_slice] at e; exact e); omega)), SO.keep kf (fun k e hx h => by have := fO k (by rw [ownBlock_slice] at e; exact e); omega), by omega, h2, h3, fun k e => .inr (by have := fL k e; omega), fun k e => .inr (by have := fM k e; omega), HB.trans (kf.below (fun i h => by omega) (by omega))⟩
/-- What stands behind the new one who waits. -/
def G28 (born : Int) (nm : Nat) (L2 : Option Addr) (lc2 : Nat) (l2 : List LE) (O : Option Addr) (oc : Nat) (os : List Int) (A7 : Option Addr) (c7 : Nat) (w wx : World) : Prop :=
  ∃ ms, (List.length ms : Nat) = nm ∧ wx.heap[w.heap.size]? = some (.cells #[.int .i64 born, .slice L2 l2.length lc2, .slice A7 nm c7] 29 (0, 0)) ∧ wx.heap[w.heap.size + 2]? = some (.cells #[.int .i64 0, .slice none 0 0, .slice none 0 0] 29 (0, 0)) ∧
    wx.ownsRow 0 72 5 (.slice A7 nm c7) nm (flat ms) ∧ (∀ k, A7.map (·.block) = some k → w.heap.size + 3 ≤ k) ∧ Sl wx 5 (.slice L2 l2.length lc2) l2.length (flat l2) ∧ Sl wx 1 (.slice O os.length oc) os.length (ints os) ∧ Below w.heap.size w wx ∧ w.heap.size + 3 ≤ wx.heap.size
theorem line_app {w w5 w7 : World} {born : Int} {L2 K O A7 : Option Addr} {lc2 kc nk oc c7 n7 N : Nat} {l2 ms : List LE} {os : List Int} (T5 : w5.heap[w.heap.size]? = some (.cells #[.int .i64 born, .slice L2 l2.length lc2, .slice K nk kc] 29 (0, 0)))
    (R5 : w5.heap[w.heap.size + 2]? = some (.cells #[.int .i64 0, .slice none 0 0, .slice none 0 0] 29 (0, 0))) (SR : Sl w5 5 (.slice L2 l2.length lc2) l2.length (flat l2)) (SO : Sl w5 1 (.slice O os.length oc) os.length (ints os)) (HB : Below w.heap.size w w5) (hN : N = w5.heap.size) (hsz : w.heap.size + 3 ≤ w5.heap.size)
    (fL : ∀ k, L2.map (·.block) = some k → w.heap.size + 3 ≤ k) (fO : ∀ k, O.map (·.block) = some k → w.heap.size + 3 ≤ k)
    (K7 : Keep (fun k => N ≤ k) w5 w7) (hn : ms.length = n7) (o7 : w7.ownsRow 0 72 5 (.slice A7 n7 c7) n7 (flat ms)) (b7 : ∀ k, (Value.slice A7 n7 c7).ownBlock = some k → N ≤ k) :
    w7.heap[w.heap.size]? = some (.cells #[.int .i64 born, .slice L2 l2.length lc2, .slice K nk kc] 29 (0, 0)) ∧ G28 born n7 L2 lc2 l2 O oc os A7 c7 w (w7.setCell ⟨w.heap.size, 2, none⟩ (.slice A7 n7 c7)) := by
  subst hN
  have T7 := K7.blk T5 (by omega)
  have R7 := K7.blk R5 (by omega)
  have KV : Keep (fun k => k = w.heap.size) w7 (w7.setCell ⟨w.heap.size, 2, none⟩ (.slice A7 n7 c7)) := (Keep.refl (fun k => k = w.heap.size) w7).setCell (fun _ => rfl) _
  have s7 := K7.size
  have sV := KV.size
  have b7' : ∀ k, A7.map (·.block) = some k → w5.heap.size ≤ k := fun k e => b7 k (by rw [ownBlock_slice]; exact e)
  exact ⟨T7, ms, hn, blk_set (j := 2) T7 (.slice A7 n7 c7), KV.blk R7 (by omega), own_keep o7 KV (fun k e h => by have := b7 k e; omega), fun k e => by have := b7' k e; omega,
    (SR.keep K7 (fun k e hx h => by have := SR.lt e hx; omega)).keep KV (fun k e hx h => by have := fL k (by rw [ownBlock_slice] at e; exact e); omega), (SO.keep K7 (fun k e hx h => by have := SO.lt e hx; omega)).keep KV (fun k e hx h => by have := fO k (by rw [ownBlock_slice] at e; exact e); omega),
    (HB.trans (K7.below (fun i h => by omega) (by omega))).trans (KV.below (fun i h => by omega) (by omega)), by omega⟩
set_option maxRecDepth 100000 in
set_option maxHeartbeats 16000000 in
theorem rgrant_walk (born n g s m now : Int) (A B : Option Addr) (ls qs : List LE) (c d : Nat) (w : World) (h1 : Sl w 5 (.slice A ls.length c) ls.length (flat ls)) (h2 : Sl w 5 (.slice B qs.length d) qs.length (flat qs)) (hf : ls.length ≤ 1000000) (hq : qs.length ≤ 1000000) :
    Calls Try.prog 14 #[.agg #[.int .i64 born, .slice A ls.length c, .slice B qs.length d], .agg #[.int .i64 n, .int .i64 g], .int .i64 s, .int .i64 m, .int .i64 now] w (GrEnd born A B ls qs ls.length qs.length w) := by
  obtain ⟨w0, hw0⟩ : ∃ w0, w0 = box3 w born n g A B c d ls.length qs.length := ⟨_, rfl⟩
  obtain ⟨q1, q2, q3, q4⟩ := box3_fact w born n g A B c d ls.length qs.length
  rw [← hw0] at q1 q2 q3 q4
  unfold box3 at hw0
  have HW0 := Lib.hid hw0
  have Q1 := Lib.hid q1
  have Q3 := Lib.hid q3
  have Q4 := Lib.hid q4
  have H1 := Lib.hid h1
  have H2 := Lib.hid h2
  have HCL := Lib.hid (rclock_walk now)
  have HRT := Lib.hid (rright_walk s m)
  obtain ⟨cn, hcn⟩ : ∃ cn, clockP now = cn := ⟨_, rfl⟩
  rw [hcn] at HCL
  have ct := blk_cells q3.tab
  have c4 : ∀ j, w0.cell? ⟨w.heap.size + 1 + 1, j, none⟩ = (#[.int .i64 0, .slice none 0 0, .slice none 0 0] : Array Value)[j]? := blk_cells q4
  have f4 : ∀ j, w0.frozen? ⟨w.heap.size + 1 + 1, j, none⟩ = false := blk_frees q4
  have l4 : w.heap.size + 1 + 1 < w0.heap.size := by omega
  clear h1 h2 hw0 q1 q3 q4 hcn
  cases hr : rightP s m with
  | false =>
    rw [hr] at HRT
    clear hr
    have Z2 := Lib.hid q2
    clear q2
    go_enter Try.func14, Try.ntmps14
    go_upto_region 1 with fail
    rw [← HW0.out]
    go_wp2_with fail
    refine (HRT.out _).mono ?_
    rintro e w1 ⟨rfl, rfl⟩
    go_wp2
    obtain ⟨kf, bf⟩ := stored2 (wr := w1) (.int .i64 born) (.slice A ls.length c) (.slice B qs.length d) Q4.out
    obtain ⟨wf, hwf⟩ : ∃ wf, wf = (((w1.setCell ⟨w.heap.size + 1 + 1, 0, none⟩ (.int .i64 born)).setCell ⟨w.heap.size + 1 + 1, 1, none⟩ (.slice A ls.length c)).setCell ⟨w.heap.size + 1 + 1, 2, none⟩ (.slice B qs.length d)) := ⟨_, rfl⟩
    rw [← hwf] at kf bf ⊢
    have e0 := bf 0
    have e1 := bf 1
    have e2 := bf 2
    have HF := Lib.hid (show GrEnd born A B ls qs ls.length qs.length w (.returned (.tuple #[.agg #[.int .i64 born, .slice A ls.length c, .slice B qs.length d], .slice none 0 0, .bool false])) wf from ⟨A, c, ls, B, d, qs, none, 0, [], false, rfl, sl_lt_keep H1.out (H1.out.below Q1.out) kf (fun k h => by omega), sl_lt_keep H2.out (H2.out.below Q1.out) kf (fun k h => by omega), ⟨none, 0, rfl, .inl rfl, fun _ => ⟨rfl, rfl⟩, Nat.le_refl _, rfl⟩, Nat.le_succ _, Nat.le_succ _, Nat.zero_le _, fun k e => .inl ⟨e, rfl⟩, fun k e => .inl ⟨e, rfl⟩, Q1.out.trans (kf.below (fun i h => by omega) (by omega))⟩)
    refine bodyPost_ret (by simp [results, Try.results14, go_sem, e0, e1, e2]; try rfl) rfl ?_
    exact HF.out
  | true =>
    rw [hr] at HRT
    clear hr
    go_enter Try.func14, Try.ntmps14
    go_upto_region 1 with fail
    rw [← HW0.out]
    go_wp2_with fail
    refine (HRT.out _).mono ?_
    rintro e w1 ⟨rfl, rfl⟩
    clear ct c4 f4 l4
    go_wp2
    go_loopw [13, 14] (fun vk vi wr => CopInv (w.heap.size + 3) qs.length 72 w1 vk vi wr) (fun _ v _ => qs.length - (intOf v).toNat)
    case atStart => exact ⟨0, [], Nat.zero_le _, rfl, by have := Fr.new w1 (w.heap.size + 3) 72 (by omega); rw [q2] at this; exact this, Nat.le_refl _, (Keep.refl _ w1).alloc _⟩
    case round =>
      obtain ⟨i, ks, hi, rfl, hfr, hks, hk⟩ := hrel
      have HK := Lib.hid hk
      have X := Lib.hid (Q3.out.keep hk (by omega) (by omega))
      have X4 := Lib.hid (hk.blk Q4.out (by omega))
      have ct := blk_cells X.out.tab
      have sz := hk.size
      have ft := blk_frees X.out.tab
      have HBr := Lib.hid (Q1.out.trans (hk.below (B := w.heap.size) (fun i h => by omega) (by omega)))
      have HS2 := Lib.hid (H2.out.below HBr.out)
      obtain ⟨K, kc, rfl, hown, hKb⟩ := hfr
      have HO := Lib.hid hown
      have HKb := Lib.hid hKb
      clear hk hown hKb
      by_cases hlt : i < qs.length
      · obtain ⟨x, hx⟩ : ∃ x, qs[i]? = some x := ⟨qs[i], List.getElem?_eq_getElem hlt⟩
        have b1 : (0 : Int) ≤ (i : Int) := by omega
        have b2 : (i : Int) < (qs.length : Int) := by omega
        obtain ⟨b, off, rfl, _, r0, r1, r2, r3, r4⟩ := flat_row HS2.out hx
        clear hx
        go_wp2
        go_quiet (first | (go_at_call 13; refine Calls.quiet_of_same (HCL.out _)))
        go_wp2_with (at_builtin; go_must (refine wpList_app rfl eltR rfl rfl rfl (n := ks.length) (m := 1) (own_keep HO.out (((Keep.refl (fun _ => False) wr).drewN nq).alloc _) (fun _ _ h => h)) (Sl.of_own (own_new (wr.drewN nq) #[.int .i64 x.n, .int .i64 x.g, .int .i64 x.s, .int .i64 x.m, .int .i64 x.x] 72 5 1 rfl (by decide))) (by simp [Value.oneCell']) (by omega) (by simp only [maxLen]; omega) ?_))
        · intro v2 w3 g1 g2 g3 _
          obtain ⟨A2, c2, rfl, _⟩ := Rd.of_own g1
          have HA := Lib.hid (Fr.app (x := x) HKb.out (by show w.heap.size + 3 ≤ wr.heap.size; omega) g1 g2 (by first | exact g3 | simpa using g3))
          clear g1 g2 g3
          go_wp2
          go_roundw
          case rel => exact ⟨i + 1, ks ++ [x], by omega, by go_num, HA.out.1, by simp; omega, (HK.out.drewN nq).trans HA.out.2 (fun _ _ h => h)⟩
          case measure => simp [intOf]; omega
        · go_roundw
          case rel => exact ⟨i + 1, ks, by omega, by go_num, ⟨K, kc, rfl, own_keep HO.out ((Keep.refl (fun _ => False) wr).drewN nq) (fun _ _ h => h), HKb.out⟩, by omega, HK.out.drewN nq⟩
          case measure => simp [intOf]; omega
      · obtain rfl : i = qs.length := by omega
        go_upto_region 10 with fail
        obtain ⟨V1, hV1⟩ : ∃ V1, V1 = wr.setCell ⟨w.heap.size, 2, none⟩ (.slice K ks.length kc) := ⟨_, rfl⟩
        have K1 : Keep (fun k => k = w.heap.size) wr V1 := by rw [hV1]; exact (Keep.refl (fun k => k = w.heap.size) wr).setCell (fun _ => rfl) _
        have t1 := blk_set (j := 2) X.out.tab (.slice K ks.length kc)
        rw [← hV1] at t1 ⊢
        have T1 := Lib.hid t1
        have N1 := Lib.hid (K1.blk X.out.hnd (by omega))
        have R1 := Lib.hid (K1.blk X4.out (by omega))
        have O1 := Lib.hid (own_keep HO.out K1 (fun k e h => by have := HKb.out k (by rw [ownBlock_slice] at e; exact e); omega))
        have HB1 := Lib.hid (HBr.out.trans (K1.below (B := w.heap.size) (fun i h => by omega) (by omega)))
        have ct1 := blk_cells t1
        have ch1 := blk_cells N1.out
        have sz1 := K1.size
        have HWY := Lib.hid (rways_walk born n g s m now A K ls c kc ks.length V1 (H1.out.below HB1.out) hf)
        clear hV1 K1 t1 ct ft HS2
        go_wp2_with fail
        refine HWY.out.mono ?_
        rintro e w2 ⟨L2, lc2, l2, O, oc, os, rfl, hs1, hs2, hk1, hk2, hf1, hf2, hb⟩
        have T2 := Lib.hid ((Keep.of_below (S := fun _ => False) hb).blk T1.out id)
        have N2 := Lib.hid ((Keep.of_below (S := fun _ => False) hb).blk N1.out id)
        have R2 := Lib.hid ((Keep.of_below (S := fun _ => False) hb).blk R1.out id)
        have O2 := Lib.hid (own_keep O1.out (Keep.of_below (S := fun _ => False) hb) (fun _ _ h => h))
        have HB2 := Lib.hid (HB1.out.trans (hb.mono (by omega)))
        have HS1 := Lib.hid hs1
        have HS2 := Lib.hid hs2
        have HF1 := Lib.hid hf1
        have HF2 := Lib.hid hf2
        have ct2 := blk_cells T2.out
        have ft2 := blk_frees T2.out
        have sz2 : V1.heap.size ≤ w2.heap.size := hb.size
        have l02 : w.heap.size < w2.heap.size := by omega
        clear hb hs1 hs2 hf1 hf2 ct1 ch1
        go_upto_region 11 with fail
        obtain ⟨V, hV⟩ : ∃ V, V = ((w2.setCell ⟨w.heap.size, 0, none⟩ (.int .i64 born)).setCell ⟨w.heap.size, 1, none⟩ (.slice L2 l2.length lc2)).setCell ⟨w.heap.size, 2, none⟩ (.slice K ks.length kc) := ⟨_, rfl⟩
        have KV : Keep (fun k => k = w.heap.size) w2 V := by rw [hV]; exact (((Keep.refl (fun k => k = w.heap.size) w2).setCell (fun _ => rfl) _).setCell (fun _ => rfl) _).setCell (fun _ => rfl) _
        have tv := blk_set (j := 2) (blk_set (j := 1) (blk_set (j := 0) T2.out (.int .i64 born)) (.slice L2 l2.length lc2)) (.slice K ks.length kc)
        rw [← hV] at tv ⊢
        have TV := Lib.hid tv
        have NV := Lib.hid (KV.blk N2.out (by omega))
        have RV := Lib.hid (KV.blk R2.out (by omega))
        have HBV := Lib.hid (HB2.out.trans (KV.below (B := w.heap.size) (fun i h => by omega) (by omega)))
        have SV := Lib.hid (HS1.out.keep KV (fun k e hx h => by have := HF1.out k (by rw [ownBlock_slice] at e; exact e); omega))
        have SO := Lib.hid (HS2.out.keep KV (fun k e hx h => by have := HF2.out k (by rw [ownBlock_slice] at e; exact e); omega))
        have OV := Lib.hid (own_keep O2.out KV (fun k e h => by have := HKb.out k (by rw [ownBlock_slice] at e; exact e); omega))
        have szv := KV.size
        have GF1 := Lib.hid (fun k (e : L2.map (·.block) = some k) => (by have := HF1.out k e; omega : w.heap.size + 3 ≤ k))
        have GF2 := Lib.hid (fun k (e : O.map (·.block) = some k) => (by have := HF2.out k e; omega : w.heap.size + 3 ≤ k))
        have hVs : w.heap.size + 3 ≤ V.heap.size := by omega
        have ctv := blk_cells tv
        clear hV KV tv ct2 ft2 HWY T1 N1 R1 O1 HB1 T2 N2 R2 O2 HB2 HS1 HS2 HF1 HF2 X X4 HO HBr HK H1 H2 Q1 Q3 Q4 HW0 q2
        go_wp2
        go_loopw [16, 17] (fun vp vi wr => PlInv ks.length V vp vi wr) (fun _ v _ => (intOf v + 1).toNat)
        case atStart => exact ⟨ks.length, (ks.length : Int) - 1, Nat.le_refl _, rfl, by go_num, by omega, by omega, Keep.refl _ _⟩
        case round =>
          obtain ⟨p, i, hp, rfl, rfl, hi1, hi2, hkr⟩ := hrel
          have HR := Lib.hid hkr
          have ct := blk_cells (hkr.blk TV.out id)
          have ch := blk_cells (hkr.blk NV.out id)
          have OR := Lib.hid (own_keep OV.out hkr (fun _ _ h => h))
          clear hkr ctv
          by_cases h0 : 0 ≤ i
          · obtain ⟨j, rfl⟩ : ∃ j : Nat, i = (j : Int) := ⟨i.toNat, by omega⟩
            obtain ⟨x, hx⟩ : ∃ x, ks[j]? = some x := ⟨ks[j]'(by omega), List.getElem?_eq_getElem (by omega)⟩
            obtain ⟨b, off, rfl, _, r0, r1, r2, r3, r4⟩ := flat_row (Sl.of_own OR.out) hx
            clear hx
            by_cases e1 : x.n = n
            · by_cases e2 : x.g = g
              · subst e1 e2
                by_cases e3 : x.s = s
                · subst e3
                  go_wp2
                  go_quiet (fail)
                  go_wp2
                  go_roundw
                  case rel => exact ⟨j, (j : Int) - 1, by omega, rfl, by go_num, by omega, by omega, HR.out.drewN _⟩
                  case measure => simp [intOf] <;> omega
                · have f3 : (x.s == s) = false := beq_eq_false_iff_ne.2 e3
                  go_wp2
                  go_quiet (fail)
                  go_wp2
                  go_roundw
                  case rel => exact ⟨p, (j : Int) - 1, hp, rfl, by go_num, by omega, by omega, HR.out.drewN _⟩
                  case measure => simp [intOf] <;> omega
              · have f2 : (x.g == g) = false := beq_eq_false_iff_ne.2 e2
                go_wp2
                go_quiet (fail)
                go_wp2
                go_roundw
                case rel => exact ⟨p, (j : Int) - 1, hp, rfl, by go_num, by omega, by omega, HR.out.drewN _⟩
                case measure => simp [intOf] <;> omega
            · have f1 : (x.n == n) = false := beq_eq_false_iff_ne.2 e1
              go_wp2
              go_quiet (fail)
              go_wp2
              go_roundw
              case rel => exact ⟨p, (j : Int) - 1, hp, rfl, by go_num, by omega, by omega, HR.out.drewN _⟩
              case measure => simp [intOf] <;> omega
          · go_wp2
            go_loopw [18, 19] (fun va vi wr => AhInv p V va vi wr) (fun _ v _ => p - (intOf v).toNat)
            case atStart => exact ⟨false, 0, rfl, rfl, Nat.zero_le _, HR.out⟩
            case round =>
              obtain ⟨ah, i, rfl, rfl, hip, hkr⟩ := hrel
              have HR := Lib.hid hkr
              have T3 := Lib.hid (hkr.blk TV.out id)
              have N3 := Lib.hid (hkr.blk NV.out id)
              have R3 := Lib.hid (hkr.blk RV.out id)
              have ct := blk_cells T3.out
              have ch := blk_cells N3.out
              have OR := Lib.hid (own_keep OV.out hkr (fun _ _ h => h))
              have szr := hkr.size
              clear hkr
              by_cases hlt : i < p
              · obtain ⟨x, hx⟩ : ∃ x, ks[i]? = some x := ⟨ks[i]'(by omega), List.getElem?_eq_getElem (by omega)⟩
                have b1 : (0 : Int) ≤ (i : Int) := by omega
                have b2 : (i : Int) < (ks.length : Int) := by omega
                have b3 : (i : Int) < (p : Int) := by omega
                obtain ⟨b, off, rfl, _, r0, r1, r2, r3, r4⟩ := flat_row (Sl.of_own OR.out) hx
                clear hx
                cases ah with
                | true =>
                  go_wp2
                  go_quiet (fail)
                  go_wp2
                  go_roundw
                  case rel => exact ⟨_, i + 1, rfl, by go_num, by omega, HR.out.drewN _⟩
                  case measure => simp [intOf] <;> omega
                | false =>
                  by_cases e1 : x.n = n
                  · by_cases e2 : x.g = g
                    · subst e1 e2
                      by_cases e3 : x.m = 2
                      · have f3 : (x.m == 2) = true := by rw [e3]; rfl
                        go_wp2
                        go_quiet (fail)
                        go_wp2
                        go_roundw
                        case rel => exact ⟨_, i + 1, rfl, by go_num, by omega, HR.out.drewN _⟩
                        case measure => simp [intOf] <;> omega
                      · have f3 : (x.m == 2) = false := beq_eq_false_iff_ne.2 e3
                        by_cases e4 : m = 2
                        · subst e4
                          go_wp2
                          go_quiet (fail)
                          go_wp2
                          go_roundw
                          case rel => exact ⟨_, i + 1, rfl, by go_num, by omega, HR.out.drewN _⟩
                          case measure => simp [intOf] <;> omega
                        · have f4 : (m == 2) = false := beq_eq_false_iff_ne.2 e4
                          go_wp2
                          go_quiet (fail)
                          go_wp2
                          go_roundw
                          case rel => exact ⟨_, i + 1, rfl, by go_num, by omega, HR.out.drewN _⟩
                          case measure => simp [intOf] <;> omega
                    · have f2 : (x.g == g) = false := beq_eq_false_iff_ne.2 e2
                      go_wp2
                      go_quiet (fail)
                      go_wp2
                      go_roundw
                      case rel => exact ⟨_, i + 1, rfl, by go_num, by omega, HR.out.drewN _⟩
                      case measure => simp [intOf] <;> omega
                  · have f1 : (x.n == n) = false := beq_eq_false_iff_ne.2 e1
                    go_wp2
                    go_quiet (fail)
                    go_wp2
                    go_roundw
                    case rel => exact ⟨_, i + 1, rfl, by go_num, by omega, HR.out.drewN _⟩
                    case measure => simp [intOf] <;> omega
              · obtain rfl : i = p := by omega
                have c4 : ∀ j, wr.cell? ⟨w.heap.size + 1 + 1, j, none⟩ = (#[.int .i64 0, .slice none 0 0, .slice none 0 0] : Array Value)[j]? := blk_cells R3.out
                have f4 : ∀ j, wr.frozen? ⟨w.heap.size + 1 + 1, j, none⟩ = false := blk_frees R3.out
                have l4 : w.heap.size + 1 + 1 < wr.heap.size := by omega
                have ft := blk_frees T3.out
                have l0 : w.heap.size < wr.heap.size := by omega
                have HBr := Lib.hid (HBV.out.trans (HR.out.below (B := w.heap.size) (fun i h => h.elim) (by omega)))
                have SR := Lib.hid (SV.out.keep HR.out (fun _ _ _ h => h))
                have SOR := Lib.hid (SO.out.keep HR.out (fun _ _ _ h => h))
                go_upto_region 22 with fail
                go_cut [128] (fun v wx => v = .bool (decide (os.length = 0) && !ah) ∧ wx = wr)
                case first =>
                  by_cases h0 : os.length = 0
                  · have h0' : ((os.length : Int) == 0) = true := by rw [h0]; rfl
                    cases ah
                    all_goals
                      go_wp2
                      go_meet
                      case rel => exact ⟨by simp [h0], rfl⟩
                  · have h0' : ((os.length : Int) == 0) = false := beq_eq_false_iff_ne.2 (by omega)
                    go_wp2
                    go_meet
                    case rel => exact ⟨by simp [h0], rfl⟩
                case rest =>
                  obtain ⟨rfl, hwc⟩ := hcut
                  have hwc2 := hwc.symm
                  clear hwc
                  subst hwc2
                  cases hB : (decide (os.length = 0) && !ah) with
                  | true =>
                    have HGV := Lib.hid (rgive_walk born n g s m now L2 K l2 ks lc2 kc wr SR.out (Sl.of_own OR.out) (by omega) (by omega))
                    clear hB
                    go_wp2_with fail
                    refine HGV.out.mono ?_
                    rintro e w5 ⟨K5, kc5, ks5, M5, mc5, ms5, rfl, hs5, hm5, hk5, hn5, hf5, hg5, hb⟩
                    have R5 := Lib.hid ((Keep.of_below (S := fun _ => False) hb).blk R3.out id)
                    have HB5 := Lib.hid (HBr.out.trans (hb.mono (by omega)))
                    have HS5 := Lib.hid hs5
                    have HM5 := Lib.hid hm5
                    have HF5 := Lib.hid hf5
                    have HG5 := Lib.hid hg5
                    have c45 : ∀ j, w5.cell? ⟨w.heap.size + 1 + 1, j, none⟩ = (#[.int .i64 0, .slice none 0 0, .slice none 0 0] : Array Value)[j]? := blk_cells R5.out
                    have f45 : ∀ j, w5.frozen? ⟨w.heap.size + 1 + 1, j, none⟩ = false := blk_frees R5.out
                    have sz5 := hb.size
                    have l45 : w.heap.size + 1 + 1 < w5.heap.size := by omega
                    clear hb hs5 hm5 hf5 hg5 ct ch c4 f4 ft
                    go_wp2
                    obtain ⟨kf, bf⟩ := stored2 (wr := w5) (.int .i64 born) (.slice K5 ks5.length kc5) (.slice M5 ms5.length mc5) R5.out
                    obtain ⟨wf, hwf⟩ : ∃ wf, wf = (((w5.setCell ⟨w.heap.size + 1 + 1, 0, none⟩ (.int .i64 born)).setCell ⟨w.heap.size + 1 + 1, 1, none⟩ (.slice K5 ks5.length kc5)).setCell ⟨w.heap.size + 1 + 1, 2, none⟩ (.slice M5 ms5.length mc5)) := ⟨_, rfl⟩
                    rw [← hwf] at kf bf ⊢
                    have e0 := bf 0
                    have e1 := bf 1
                    have e2 := bf 2
                    have HF := Lib.hid (show GrEnd born A B ls qs ls.length qs.length w (.returned (.tuple #[.agg #[.int .i64 born, .slice K5 ks5.length kc5, .slice M5 ms5.length mc5], .slice none 0 0, .bool true])) wf from ⟨K5, kc5, ks5, M5, mc5, ms5, none, 0, [], true, rfl, HS5.out.keep kf (fun k e hx h => by have := HF5.out k (by rw [ownBlock_slice] at e; exact e); omega), HM5.out.keep kf (fun k e hx h => by have := HG5.out k (by rw [ownBlock_slice] at e; exact e); omega), ⟨none, 0, rfl, .inl rfl, fun _ => ⟨rfl, rfl⟩, Nat.le_refl _, rfl⟩, by omega, by omega, Nat.zero_le _, fun k e => .inr (by have := HF5.out k e; omega), fun k e => .inr (by have := HG5.out k e; omega), HB5.out.trans (kf.below (fun i h => by omega) (by omega))⟩)
                    refine bodyPost_ret (by simp [results, Try.results14, go_sem, e0, e1, e2]; try rfl) rfl ?_
                    exact HF.out
                  | false =>
                    clear hB
                    have HS24 := Lib.hid (fun w' (k : Keep (fun _ => False) wr w') => (⟨(k.cell (ch 0) id).trans rfl, (k.cell (ch 1) id).trans rfl⟩ : w'.cell? ⟨w.heap.size + 1, 0, none⟩ = some (.int .i64 n) ∧ w'.cell? ⟨w.heap.size + 1, 1, none⟩ = some (.int .i64 g)))
                    go_upto_region 24 with fail
                    go_cut [20] (fun v wx => v = .pointer (some ⟨wr.heap.size, 0, none⟩) ∧ wx = (wr.alloc (.cells #[.int .i64 n, .int .i64 g, .int .i64 s, .int .i64 m, .int .i64 cn] 72)).drew)
                    case first =>
                      go_region_held3 (fun w' => w'.cell? ⟨w.heap.size + 1, 0, none⟩ = some (.int .i64 n) ∧ w'.cell? ⟨w.heap.size + 1, 1, none⟩ = some (.int .i64 g)) (first | exact HS24.out _ (Keep.refl _ wr).drew | exact HS24.out _ ((Keep.refl _ wr).alloc _).drew | exact HS24.out _ ((Keep.refl _ wr).drew.alloc _)) (first | (go_at_call 13; refine (HCL.out _).mono ?_; rintro e w5 ⟨rfl, rfl⟩))
                      all_goals
                        go_wp2_with fail
                        go_meet
                        case rel => exact ⟨rfl, rfl⟩
                    case rest =>
                      obtain ⟨rfl, hwc⟩ := hcut
                      have bw := blk_new wr (.cells #[.int .i64 n, .int .i64 g, .int .i64 s, .int .i64 m, .int .i64 cn] 72)
                      have k5 := ((Keep.refl (fun _ => False) wr).alloc (.cells #[.int .i64 n, .int .i64 g, .int .i64 s, .int .i64 m, .int .i64 cn] 72)).drew
                      have z5 : (wr.alloc (.cells #[.int .i64 n, .int .i64 g, .int .i64 s, .int .i64 m, .int .i64 cn] 72)).heap.size = wr.heap.size + 1 := by simp
                      have bw5 : wc.heap[wr.heap.size]? = some (.cells #[.int .i64 n, .int .i64 g, .int .i64 s, .int .i64 m, .int .i64 cn] 72 (0, 0)) := by rw [hwc]; exact bw
                      have zc : wc.heap.size = wr.heap.size + 1 := by rw [hwc]; exact z5
                      rw [← hwc] at k5
                      have T5 := Lib.hid (k5.blk T3.out id)
                      have R5 := Lib.hid (k5.blk R3.out id)
                      have OR5 := Lib.hid (own_keep OR.out k5 (fun _ _ h => h))
                      have SR5 := Lib.hid (SR.out.keep k5 (fun _ _ _ h => h))
                      have SOR5 := Lib.hid (SOR.out.keep k5 (fun _ _ _ h => h))
                      have HB5 := Lib.hid (HBr.out.trans (k5.below (B := w.heap.size) (fun i h => h.elim) (by omega)))
                      have BW5 := Lib.hid bw5
                      have ZC := Lib.hid zc
                      have ct5 := blk_cells T5.out
                      have ft5 := blk_frees T5.out
                      have cw5 := blk_cells bw5
                      have zlt : wr.heap.size < wc.heap.size := by omega
                      clear hwc bw k5 z5 bw5 zc ct ch c4 f4 ft HS24
                      generalize hRW : wr.heap.size = RW at *
                      have l0c : w.heap.size < wc.heap.size := by omega
                      by_cases hpl : i < ks.length
                      · have hpl' : (i : Int) < (ks.length : Int) := by omega
                        have b1 : (0 : Int) ≤ (i : Int) := by omega
                        go_wp2_with (at_builtin; go_must (refine wpList_app rfl eltR rfl rfl rfl (n := 0) (m := ks.length) (xs := []) (own_new wc #[] _ 5 0 rfl (by decide)) ((Sl.of_own OR5.out).below ((Below.refl _ _).alloc (Nat.le_refl _) _)) (flat_one ks) (by omega) (by simp only [maxLen]; omega) ?_))
                        intro v1 w6 g1 g2 g3 g4
                        clear g4
                        have o6 : w6.ownsRow 0 72 5 v1 ks.length (flat ks) := by simpa using g1
                        obtain ⟨b6, c6, cur6, e6, hb6, -⟩ := own_form o6 (by omega)
                        subst e6
                        have k6 : Keep (fun k => wc.heap.size ≤ k) wc w6 := ((Keep.refl _ wc).alloc _).trans g2 (fun i _ e => by rw [ownBlock_slice] at e; injection e with e; exact Nat.le_of_eq e)
                        have hb6N : wc.heap.size ≤ b6 := by
                          rcases g3 with e3 | e3 <;> rw [ownBlock_slice] at e3
                          · rw [ownBlock_slice] at e3; injection e3 with e3; exact Nat.le_of_eq e3.symm
                          · injection e3 with e3; dsimp only at e3; omega
                        have zc := ZC.out
                        have GG := line_app T5.out R5.out SR5.out SOR5.out HB5.out rfl (by omega) GF1.out GF2.out k6 rfl o6 (fun k e => by rw [ownBlock_slice] at e; injection e with e; exact e ▸ hb6N)
                        have ct6 := blk_cells GG.1
                        have ft6 := blk_frees GG.1
                        have lt6 := blk_lt GG.1
                        have bw6 := k6.blk BW5.out (by omega)
                        have G6 := Lib.hid GG.2
                        have BW6 := Lib.hid bw6
                        clear g1 g2 g3 k6 o6 GG bw6 hb6 zc ct5 ft5 cw5
                        go_upto_region 27 with fail
                        obtain ⟨V6, hV6⟩ : ∃ V6, V6 = w6.setCell ⟨w.heap.size, 2, none⟩ (.slice (some ⟨b6, 0, none⟩) ks.length c6) := ⟨_, rfl⟩
                        have bw7 : V6.heap[RW]? = some (.cells #[.int .i64 n, .int .i64 g, .int .i64 s, .int .i64 m, .int .i64 cn] 72 (0, 0)) := by rw [hV6]; exact ((Keep.refl (fun k => k = w.heap.size) w6).setCell (fun _ => rfl) _).blk BW6.out (by omega)
                        rw [← hV6] at G6 ⊢
                        obtain ⟨ms, hms, T7, R7, O7, f7, SR7, SO7, HB7, hs7⟩ := G6.out
                        have zc := ZC.out
                        have ct7 := blk_cells T7
                        have cw7 := blk_cells bw7
                        obtain ⟨x, hx⟩ : ∃ x, ms[i]? = some x := ⟨ms[i]'(by omega), List.getElem?_eq_getElem (by omega)⟩
                        obtain ⟨_, _, hbr, hbl, r0, r1, r2, r3, r4⟩ := flat_row (Sl.of_own O7) hx
                        injection hbr with hbr
                        injection hbr with hbr1 hbr2 hbr3
                        clear hbr3
                        subst hbr1 hbr2
                        rw [Nat.zero_add] at r0 r1 r2 r3 r4
                        obtain ⟨cur7, hcur7, -⟩ := own_row O7
                        have fb7 := blk_frees hcur7
                        have o8 := own_put (j := i * 5 + 4) (own_put (j := i * 5 + 3) (own_put (j := i * 5 + 2) (own_put (j := i * 5 + 1) (own_put (j := i * 5) O7 (.int .i64 n)) (.int .i64 g)) (.int .i64 s)) (.int .i64 m)) (.int .i64 cn)
                        have fs5 := flat_set5 (l := ms) (k := i) (by omega) ⟨n, g, s, m, cn⟩
                        dsimp only at fs5
                        rw [fs5] at o8
                        have k8 := keep5 V6 b6 (i * 5) (.int .i64 n) (.int .i64 g) (.int .i64 s) (.int .i64 m) (.int .i64 cn)
                        have T8 := Lib.hid (k8.blk T7 (by omega))
                        have R8 := Lib.hid (k8.blk R7 (by omega))
                        have SR8 := Lib.hid (SR7.keep k8 (fun k e hx h => by have := GF1.out k (by rw [ownBlock_slice] at e; exact e); have := SR5.out.lt e hx; omega))
                        have SO8 := Lib.hid (SO7.keep k8 (fun k e hx h => by have := SOR5.out.lt e hx; omega))
                        have O8 := Lib.hid o8
                        have HB8 := Lib.hid (HB7.trans (k8.below (B := w.heap.size) (fun i h => by omega) (by omega)))
                        have s8 := k8.size
                        have ne1 : ¬ w.heap.size = b6 := by omega
                        have ne2 : ¬ RW = b6 := by omega
                        have hml : (ms.set i (⟨n, g, s, m, cn⟩ : LE)).length = ks.length := by simp [hms]
                        clear hV6 T7 R7 O7 SR7 SO7 HB7 k8 o8 hcur7 hx bw7 zc fs5 ct6 ft6
                        go_upto_region 29 with fail
                        obtain ⟨V8, hV8⟩ : ∃ V8, V8 = ((((V6.setCell ⟨b6, i * 5, none⟩ (.int .i64 n)).setCell ⟨b6, i * 5 + 1, none⟩ (.int .i64 g)).setCell ⟨b6, i * 5 + 2, none⟩ (.int .i64 s)).setCell ⟨b6, i * 5 + 3, none⟩ (.int .i64 m)).setCell ⟨b6, i * 5 + 4, none⟩ (.int .i64 cn) := ⟨_, rfl⟩
                        rw [← hV8] at T8 R8 SR8 SO8 O8 HB8 s8 ⊢
                        have ct8 := blk_cells T8.out
                        have c48 : ∀ j, V8.cell? ⟨w.heap.size + 1 + 1, j, none⟩ = (#[.int .i64 0, .slice none 0 0, .slice none 0 0] : Array Value)[j]? := blk_cells R8.out
                        have f48 : ∀ j, V8.frozen? ⟨w.heap.size + 1 + 1, j, none⟩ = false := blk_frees R8.out
                        have l48 : w.heap.size + 1 + 1 < V8.heap.size := by omega
                        have HML := Lib.hid hml
                        have HF7 := Lib.hid f7
                        clear hV8 r0 r1 r2 r3 r4 fb7 ct7 cw7 hml f7 hms hpl hpl' b1 ct ch hRW
                        rename_i hK29
                        revert hK29
                        go_light
                        intro hK29
                        go_wp2
                        obtain ⟨kf, bf⟩ := stored2 (wr := V8) (.int .i64 born) (.slice L2 l2.length lc2) (.slice (some ⟨b6, 0, none⟩) ks.length c6) R8.out
                        obtain ⟨wf, hwf⟩ : ∃ wf, wf = (((V8.setCell ⟨w.heap.size + 1 + 1, 0, none⟩ (.int .i64 born)).setCell ⟨w.heap.size + 1 + 1, 1, none⟩ (.slice L2 l2.length lc2)).setCell ⟨w.heap.size + 1 + 1, 2, none⟩ (.slice (some ⟨b6, 0, none⟩) ks.length c6)) := ⟨_, rfl⟩
                        rw [← hwf] at kf bf ⊢
                        have e0 := bf 0
                        have e1 := bf 1
                        have e2 := bf 2
                        have HF := Lib.hid (grant_fin (born := born) (A := A) (B := B) (ls := ls) (qs := qs) (nl := ls.length) (nq := qs.length) (n7 := ks.length) kf HML.out SR8.out O8.out SO8.out HB8.out (by omega) hk1 (by omega) hk2 GF1.out HF7.out GF2.out)
                        refine bodyPost_ret (by simp [results, Try.results14, go_sem, e0, e1, e2]; try rfl) rfl ?_
                        exact HF.out
                      · have hpl' : ¬ (i : Int) < (ks.length : Int) := by omega
                        have E1 := Lib.hid (own_new wc #[] 72 5 0 rfl (by decide))
                        have E2 := Lib.hid (own_keep E1.out ((Keep.refl (fun _ => False) _).alloc (.cells #[.int .i64 n, .int .i64 g, .int .i64 s, .int .i64 m, .int .i64 cn] 72)) (fun _ _ h => h))
                        have zS : (wc.alloc (.cells #[.int .i64 n, .int .i64 g, .int .i64 s, .int .i64 m, .int .i64 cn] 72)).heap.size = wc.heap.size + 1 := by simp
                        have zE : (wc.alloc (.cells #[] 72)).heap.size = wc.heap.size + 1 := by simp
                        have e3 := own_new (wc.alloc (.cells #[.int .i64 n, .int .i64 g, .int .i64 s, .int .i64 m, .int .i64 cn] 72)) #[] 72 5 0 rfl (by decide)
                        rw [zS] at e3
                        have E3 := Lib.hid e3
                        have s2 := own_new (wc.alloc (.cells #[] 72)) #[.int .i64 n, .int .i64 g, .int .i64 s, .int .i64 m, .int .i64 cn] 72 5 1 rfl (by decide)
                        rw [zE] at s2
                        have S2 := Lib.hid s2
                        have S3 := Lib.hid (own_keep (own_new wc #[.int .i64 n, .int .i64 g, .int .i64 s, .int .i64 m, .int .i64 cn] 72 5 1 rfl (by decide)) ((Keep.refl (fun _ => False) _).alloc (.cells #[] 72)) (fun _ _ h => h))
                        have V1 : Hid (∀ k, (Value.slice (some ⟨wc.heap.size, 0, none⟩) 0 0).ownBlock = some k → wc.heap.size ≤ k) := Lib.hid (fun k e => by rw [ownBlock_slice] at e; injection e with e; exact Nat.le_of_eq e)
                        have V2 : Hid (∀ k, (Value.slice (some ⟨wc.heap.size + 1, 0, none⟩) 0 0).ownBlock = some k → wc.heap.size ≤ k) := Lib.hid (fun k e => by rw [ownBlock_slice] at e; injection e with e; exact Nat.le_of_lt (Nat.lt_of_lt_of_eq (Nat.lt_succ_self _) e))
                        have SSB := Lib.hid (fun (w5 : World) (k5 : Keep (fun k => (Value.slice (some ⟨wc.heap.size, 0, none⟩) 0 0).ownBlock = some k) ((wc.alloc (.cells #[] 72)).alloc (.cells #[.int .i64 n, .int .i64 g, .int .i64 s, .int .i64 m, .int .i64 cn] 72)).drew w5) => Sl.keep (Sl.of_own S2.out.drew) k5 (fun k e _ h => by rw [ownBlock_slice] at e h; injection e with e; injection h with h; dsimp only at e h; omega))
                        have SSC := Lib.hid (fun (w5 : World) (k5 : Keep (fun k => (Value.slice (some ⟨wc.heap.size + 1, 0, none⟩) 0 0).ownBlock = some k) ((wc.alloc (.cells #[.int .i64 n, .int .i64 g, .int .i64 s, .int .i64 m, .int .i64 cn] 72)).alloc (.cells #[] 72)).drew w5) => Sl.keep (Sl.of_own S3.out.drew) k5 (fun k e _ h => by rw [ownBlock_slice] at e h; injection e with e; injection h with h; dsimp only at e h; omega))
                        have KD1 := Lib.hid (((Keep.refl (fun _ => False) wc).alloc (.cells #[] 72)).drew)
                        have KD2 := Lib.hid ((((Keep.refl (fun _ => False) wc).alloc (.cells #[] 72)).alloc (.cells #[.int .i64 n, .int .i64 g, .int .i64 s, .int .i64 m, .int .i64 cn] 72)).drew)
                        have KD3 := Lib.hid ((((Keep.refl (fun _ => False) wc).alloc (.cells #[.int .i64 n, .int .i64 g, .int .i64 s, .int .i64 m, .int .i64 cn] 72)).alloc (.cells #[] 72)).drew)
                        have hwc3 : w.heap.size < wc.heap.size := by omega
                        clear e3 s2 zS zE HRT HCL TV NV RV HBV SV SO OV T3 N3 R3 OR HBr SR SOR
                        go_upto_region 28 with fail
                        go_cut [20] (fun v wx => v = .pointer (some ⟨RW, 0, none⟩) ∧ ∃ A7 c7, G28 born (ks.length + 1) L2 lc2 l2 O oc os A7 c7 w wx)
                        case first =>
                          rename_i hJ28 hM28
                          revert hJ28 hM28
                          go_light
                          intro hJ28 hM28
                          go_region_law (first | (refine step_app (by rfl) eltR (by rfl) (by rfl) (by rfl) (n := 0) (xs := []) E1.out.drew ((Sl.of_own OR5.out).keep KD1.out (fun _ _ _ h => h)) (flat_one ks) (by omega) (by simp only [maxLen]; omega) ?_; intro v5 w6 o5 k5 a5 _; have KN := Lib.hid (stepA (N := wc.heap.size) KD1.out k5 V1.out a5 (by first | omega | (simp; done) | (simp; omega))); have O5 := Lib.hid o5; have bw6 := KN.out.1.blk BW5.out (by omega); have cw6 := blk_cells bw6; have ct6 := blk_cells (KN.out.1.blk T5.out (by omega)); clear o5 k5 a5 bw6) | (refine step_app (by rfl) eltR (by rfl) (by rfl) (by rfl) (n := 0) (xs := []) E2.out.drew ((Sl.of_own OR5.out).keep KD2.out (fun _ _ _ h => h)) (flat_one ks) (by omega) (by simp only [maxLen]; omega) ?_; intro v5 w6 o5 k5 a5 _; have KN := Lib.hid (stepA (N := wc.heap.size) KD2.out k5 V1.out a5 (by first | omega | (simp; done) | (simp; omega))); have SS := Lib.hid (SSB.out w6 k5); have O5 := Lib.hid o5; have bw6 := KN.out.1.blk BW5.out (by omega); have cw6 := blk_cells bw6; have ct6 := blk_cells (KN.out.1.blk T5.out (by omega)); clear o5 k5 a5 bw6) | (refine step_app (by rfl) eltR (by rfl) (by rfl) (by rfl) (n := 0) (xs := []) E3.out.drew ((Sl.of_own OR5.out).keep KD3.out (fun _ _ _ h => h)) (flat_one ks) (by omega) (by simp only [maxLen]; omega) ?_; intro v5 w6 o5 k5 a5 _; have KN := Lib.hid (stepA (N := wc.heap.size) KD3.out k5 V2.out a5 (by first | omega | (simp; done) | (simp; omega))); have SS := Lib.hid (SSC.out w6 k5); have O5 := Lib.hid o5; have bw6 := KN.out.1.blk BW5.out (by omega); have cw6 := blk_cells bw6; have ct6 := blk_cells (KN.out.1.blk T5.out (by omega)); clear o5 k5 a5 bw6) | (refine step_app (by rfl) eltR (by rfl) (by rfl) (by rfl) O5.out SS.out (by simp [Value.oneCell']) (by omega) (by simp only [maxLen]; omega) ?_; intro v6 w7 o6 k6 a6 _; have K7 := Lib.hid (KN.out.1.trans (grow_keep k6 KN.out.2) (fun _ _ h => h)); have N7 := Lib.hid (grow_new (N := wc.heap.size) a6 KN.out.2 (by have := KN.out.1.size; first | omega | (simp; omega))); rw [Nat.zero_add, List.nil_append] at o6; obtain ⟨A7, c7, rfl, _⟩ := Rd.of_own o6; have GG := line_app T5.out R5.out SR5.out SOR5.out HB5.out rfl (by have := ZC.out; omega) GF1.out GF2.out K7.out (by simp : (ks ++ [(⟨n, g, s, m, cn⟩ : LE)]).length = ks.length + 1) (by rw [flat_snoc]; exact o6) N7.out; have ct7 := blk_cells GG.1; have ft7 := blk_frees GG.1; have lt7 := blk_lt GG.1; have G7 := Lib.hid GG.2; clear o6 k6 a6 GG) | (refine step_app (by rfl) eltR (by rfl) (by rfl) (by rfl) (own_keep O5.out ((Keep.refl (fun _ => False) _).alloc _) (fun _ _ h => h)) (Sl.of_own (own_new w6 #[.int .i64 n, .int .i64 g, .int .i64 s, .int .i64 m, .int .i64 cn] 72 5 1 rfl (by decide))) (by simp [Value.oneCell']) (by omega) (by simp only [maxLen]; omega) ?_; intro v6 w7 o6 k6 a6 _; have K7 := Lib.hid ((KN.out.1.alloc _).trans (grow_keep k6 KN.out.2) (fun _ _ h => h)); have N7 := Lib.hid (grow_new (N := wc.heap.size) a6 KN.out.2 (by have := KN.out.1.size; first | omega | (simp; omega))); rw [Nat.zero_add, List.nil_append] at o6; obtain ⟨A7, c7, rfl, _⟩ := Rd.of_own o6; have GG := line_app T5.out R5.out SR5.out SOR5.out HB5.out rfl (by have := ZC.out; omega) GF1.out GF2.out K7.out (by simp : (ks ++ [(⟨n, g, s, m, cn⟩ : LE)]).length = ks.length + 1) (by rw [flat_snoc]; exact o6) N7.out; have ct7 := blk_cells GG.1; have ft7 := blk_frees GG.1; have lt7 := blk_lt GG.1; have G7 := Lib.hid GG.2; clear o6 k6 a6 GG))
                          all_goals
                            go_wp2_with fail
                            go_meet
                            case rel => exact ⟨rfl, A7, c7, G7.out⟩
                        case rest =>
                          obtain ⟨rfl, A7, c7, ms, hms, T7, R7, O7, f7, SR7, SO7, HB7, hs7⟩ := hcut
                          have ct8 := blk_cells T7
                          have c48 : ∀ j, wc.cell? ⟨w.heap.size + 1 + 1, j, none⟩ = (#[.int .i64 0, .slice none 0 0, .slice none 0 0] : Array Value)[j]? := blk_cells R7
                          have f48 : ∀ j, wc.frozen? ⟨w.heap.size + 1 + 1, j, none⟩ = false := blk_frees R7
                          have l48 : w.heap.size + 1 + 1 < wc.heap.size := by omega
                          have RR7 := Lib.hid R7
                          have OO7 := Lib.hid O7
                          have HMS := Lib.hid hms
                          have SSR := Lib.hid SR7
                          have SSO := Lib.hid SO7
                          have HHB := Lib.hid HB7
                          have FF7 := Lib.hid f7
                          clear T7 R7 O7 SR7 SO7 HB7 hms f7
                          rename_i hK29
                          revert hK29
                          go_light
                          intro hK29
                          go_wp2
                          obtain ⟨kf, bf⟩ := stored2 (wr := wc) (.int .i64 born) (.slice L2 l2.length lc2) (.slice A7 (ks.length + 1) c7) RR7.out
                          obtain ⟨wf, hwf⟩ : ∃ wf, wf = (((wc.setCell ⟨w.heap.size + 1 + 1, 0, none⟩ (.int .i64 born)).setCell ⟨w.heap.size + 1 + 1, 1, none⟩ (.slice L2 l2.length lc2)).setCell ⟨w.heap.size + 1 + 1, 2, none⟩ (.slice A7 (ks.length + 1) c7)) := ⟨_, rfl⟩
                          rw [← hwf] at kf bf ⊢
                          have e0 := bf 0
                          have e1 := bf 1
                          have e2 := bf 2
                          have HF := Lib.hid (grant_fin (born := born) (A := A) (B := B) (ls := ls) (qs := qs) (nl := ls.length) (nq := qs.length) (n7 := (ks.length + 1)) kf HMS.out SSR.out OO7.out SSO.out HHB.out (by omega) hk1 (by omega) hk2 GF1.out FF7.out GF2.out)
                          refine bodyPost_ret (by simp [results, Try.results14, go_sem, e0, e1, e2]; try rfl) rfl ?_
                          exact HF.out
end Go.Proofs.Ytmfgkddndlleoaa
