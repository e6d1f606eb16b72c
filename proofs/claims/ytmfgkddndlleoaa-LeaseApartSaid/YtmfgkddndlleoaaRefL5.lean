/- The document's answer for leases: give. -/
import Derived.Test.YtmfgkddndlleoaaRefL4
import Derived.Deep.QuietTactic
import Derived.BigQuiet
import Derived.Handy
import Derived.Deep.CutBlock
import Derived.Deep.RegionHeld3
import Derived.Deep.RegionLaw
import Derived.Deep.DrawnRows
set_option linter.unusedSimpArgs false
set_option linter.unusedVariables false
namespace Go.Proofs.Ytmfgkddndlleoaa
open Go.RowKit

theorem eltR : Elt Try.prog 27 72 5 40 := Elt.mk' (z := .agg #[.int .i64 0, .int .i64 0, .int .i64 0, .int .i64 0, .int .i64 0]) (by kernel_rfl) (by kernel_rfl) (by kernel_rfl) (by simp [Value.cells, Value.oneCell']) (by decide)
def CopInv (base nl : Nat) (T : TypeId) (w0 : World) (vk vi : Value) (wr : World) : Prop := ∃ (i : Nat) (ks : List LE), i ≤ nl ∧ vi = .int .i64 (i : Int) ∧ Fr base wr T vk ks ∧ ks.length ≤ i ∧ Keep (fun k => base ≤ k) w0 wr
def StepInv (nl : Nat) (w0 : World) (vi : Value) (wr : World) : Prop := ∃ i : Nat, i ≤ nl ∧ vi = .int .i64 (i : Int) ∧ Keep (fun _ => False) w0 wr
/-- How give ends. -/
def GiveEnd (born : Int) (nl nq : Nat) (w : World) (e : Ending) (w' : World) : Prop :=
  ∃ K kc ks M mc ms, e = .returned (.agg #[.int .i64 born, .slice K (List.length ks) kc, .slice M (List.length ms) mc]) ∧ Sl w' 5 (.slice K ks.length kc) ks.length (flat ks) ∧ Sl w' 5 (.slice M ms.length mc) ms.length (flat ms) ∧ ks.length ≤ nl + 1 ∧ ms.length ≤ nq ∧ (∀ k, K.map (·.block) = some k → w.heap.size ≤ k) ∧ (∀ k, M.map (·.block) = some k → w.heap.size ≤ k) ∧ Below w.heap.size w w'
theorem flat_set1 {l : List LE} {k : Nat} {e : LE} (h : l[k]? = some e) (x : Int) : (flat l).set (k * 5 + 4) (.int .i64 x) = flat (l.set k ⟨e.n, e.g, e.s, e.m, x⟩) := by
  induction l generalizing k with
  | nil => simp at h
  | cons a l ih =>
    have hf : flat (a :: l) = a.cells ++ flat l := rfl
    have ha : a.cells.length = 5 := rfl
    cases k with
    | zero =>
      simp only [List.getElem?_cons_zero, Option.some.injEq] at h
      subst h
      rfl
    | succ k =>
      rw [hf, List.set_append_right _ _ (by omega), List.set_cons_succ, ha, show (k + 1) * 5 + 4 - 5 = k * 5 + 4 by omega, ih (by simpa using h)]
      rfl
theorem give_close {w wv : World} {born : Int} {A1 K : Option Addr} {c1 kc n nm nl nq : Nat} {ks ms : List LE} {v0 v1 v2 : Value} (hB : Below w.heap.size w wv) (hsz : w.heap.size + 3 ≤ wv.heap.size) (R : wv.heap[w.heap.size + 2]? = some (.cells #[v0, v1, v2] 29 (0, 0)))
    (hn : ks.length = n) (OA : wv.ownsRow 0 39 5 (.slice A1 n c1) n (flat ks)) (bA : ∀ k, A1.map (·.block) = some k → w.heap.size + 3 ≤ k) (hnm : ms.length = nm) (OM : wv.ownsRow 0 72 5 (.slice K nm kc) nm (flat ms)) (bK : ∀ k, K.map (·.block) = some k → w.heap.size + 3 ≤ k) (hl : n ≤ nl + 1) (hm : nm ≤ nq) :
    (∀ j, (((wv.setCell ⟨w.heap.size + 1 + 1, 0, none⟩ (.int .i64 born)).setCell ⟨w.heap.size + 1 + 1, 1, none⟩ (.slice A1 n c1)).setCell ⟨w.heap.size + 1 + 1, 2, none⟩ (.slice K nm kc)).cell? ⟨w.heap.size + 1 + 1, j, none⟩ = (#[.int .i64 born, .slice A1 n c1, .slice K nm kc] : Array Value)[j]?) ∧
    GiveEnd born nl nq w (.returned (.agg #[.int .i64 born, .slice A1 n c1, .slice K nm kc])) (((wv.setCell ⟨w.heap.size + 1 + 1, 0, none⟩ (.int .i64 born)).setCell ⟨w.heap.size + 1 + 1, 1, none⟩ (.slice A1 n c1)).setCell ⟨w.heap.size + 1 + 1, 2, none⟩ (.slice K nm kc)) := by
  subst hn hnm
  have kf : Keep (fun k => k = w.heap.size + 1 + 1) wv (((wv.setCell ⟨w.heap.size + 1 + 1, 0, none⟩ (.int .i64 born)).setCell ⟨w.heap.size + 1 + 1, 1, none⟩ (.slice A1 ks.length c1)).setCell ⟨w.heap.size + 1 + 1, 2, none⟩ (.slice K ms.length kc)) := (((Keep.refl (fun k => k = w.heap.size + 1 + 1) wv).setCell (fun _ => rfl) _).setCell (fun _ => rfl) _).setCell (fun _ => rfl) _
  have h3 := blk_set (j := 2) (blk_set (j := 1) (blk_set (j := 0) (k := w.heap.size + 1 + 1) R (.int .i64 born)) (.slice A1 ks.length c1)) (.slice K ms.length kc)
  exact ⟨blk_cells h3, A1, c1, ks, K, kc, ms, rfl, Sl.of_own (own_keep OA kf (fun k e h => by have := bA k (by rw [ownBlock_slice] at e; exact e); omega)), Sl.of_own (own_keep OM kf (fun k e h => by have := bK k (by rw [ownBlock_slice] at e; exact e); omega)), hl, hm, fun k e => Nat.le_trans (Nat.le_add_right _ 3) (bA k e), fun k e => Nat.le_trans (Nat.le_add_right _ 3) (bK k e), hB.trans (kf.below (fun i h => by omega) (by omega))⟩
/-- What stands behind the last append of give, and its store. -/
def G17 (born : Int) (nl : Nat) (K : Option Addr) (kc nk : Nat) (ms : List LE) (w wx : World) : Prop :=
  ∃ A6 c6 ks, (List.length ks : Nat) = nl + 1 ∧ wx.heap[w.heap.size]? = some (.cells #[.int .i64 born, .slice A6 (nl + 1) c6, .slice K nk kc] 29 (0, 0)) ∧ wx.heap[w.heap.size + 2]? = some (.cells #[.int .i64 0, .slice none 0 0, .slice none 0 0] 29 (0, 0)) ∧
    wx.ownsRow 0 39 5 (.slice A6 (nl + 1) c6) (nl + 1) (flat ks) ∧ (∀ k, A6.map (·.block) = some k → w.heap.size + 3 ≤ k) ∧ wx.ownsRow 0 72 5 (.slice K nk kc) nk (flat ms) ∧ Below w.heap.size w wx ∧ w.heap.size + 3 ≤ wx.heap.size
theorem give_app {w w5 w6 : World} {born : Int} {A1 K A6 : Option Addr} {c1 c6 kc nl nk : Nat} {ks ms : List LE} {e : LE} {x : Obj} (T5 : w5.heap[w.heap.size]? = some (.cells #[.int .i64 born, .slice A1 nl c1, .slice K nk kc] 29 (0, 0)))
    (R5 : w5.heap[w.heap.size + 2]? = some (.cells #[.int .i64 0, .slice none 0 0, .slice none 0 0] 29 (0, 0))) (OA : w5.ownsRow 0 39 5 (.slice A1 nl c1) nl (flat ks)) (O5 : w5.ownsRow 0 72 5 (.slice K nk kc) nk (flat ms)) (hn : ks.length = nl)
    (bA : ∀ k, A1.map (·.block) = some k → w.heap.size + 3 ≤ k) (bK : ∀ k, K.map (·.block) = some k → w.heap.size + 3 ≤ k) (hsz : w.heap.size + 3 ≤ w5.heap.size) (HB : Below w.heap.size w w5)
    (g1 : w6.ownsRow 0 39 5 (.slice A6 (nl + 1) c6) (nl + 1) (flat ks ++ e.cells)) (g2 : Keep (fun k => (Value.slice A1 nl c1).ownBlock = some k) (w5.alloc x) w6)
    (g3 : (Value.slice A6 (nl + 1) c6).ownBlock = (Value.slice A1 nl c1).ownBlock ∨ (Value.slice A6 (nl + 1) c6).ownBlock = some (w5.heap.size + 1)) :
    w6.heap[w.heap.size]? = some (.cells #[.int .i64 born, .slice A1 nl c1, .slice K nk kc] 29 (0, 0)) ∧ G17 born nl K kc nk ms w (w6.setCell ⟨w.heap.size, 1, none⟩ (.slice A6 (nl + 1) c6)) := by
  subst hn
  obtain ⟨⟨A7, c7, e7, o7, b7⟩, HA⟩ := Fr.app (x := e) (base := w.heap.size + 3) bA hsz g1 g2 g3
  injection e7 with e71 e72 e73
  subst e71 e73
  have T6 := HA.blk T5 (by omega)
  have R6 := HA.blk R5 (by omega)
  have k6 : Keep (fun k => (Value.slice A1 ks.length c1).ownBlock = some k) w5 w6 := ((Keep.refl _ w5).alloc x).trans g2 (fun _ _ h => h)
  have O6 := own_keep O5 k6 (fun k e h => own_ne OA O5 (by decide) h e)
  have KV : Keep (fun k => k = w.heap.size) w6 (w6.setCell ⟨w.heap.size, 1, none⟩ (.slice A6 (ks.length + 1) c6)) := (Keep.refl (fun k => k = w.heap.size) w6).setCell (fun _ => rfl) _
  have szA := HA.size
  have szV := KV.size
  rw [← e72] at o7
  refine ⟨T6, A6, c6, ks ++ [e], by simp, blk_set (j := 1) T6 (.slice A6 (ks.length + 1) c6), KV.blk R6 (by omega), own_keep o7 KV (fun k e h => by have := b7 k (by rw [ownBlock_slice] at e; exact e); omega), b7, own_keep O6 KV (fun k e h => by have := bK k (by rw [ownBlock_slice] at e; exact e); omega), ?_, by omega⟩
  exact (HB.trans (HA.below (fun i h => by omega) (by omega))).trans (KV.below (fun i h => by omega) (by omega))
set_option maxRecDepth 100000 in
set_option maxHeartbeats 8000000 in
theorem rgive_walk (born n g s m now : Int) (A B : Option Addr) (ls qs : List LE) (c d : Nat) (w : World) (h1 : Sl w 5 (.slice A ls.length c) ls.length (flat ls)) (h2 : Sl w 5 (.slice B qs.length d) qs.length (flat qs)) (hf : ls.length ≤ 1000000) (hq : qs.length ≤ 1000000) :
    Calls Try.prog 40 #[.agg #[.int .i64 born, .slice A ls.length c, .slice B qs.length d], .agg #[.int .i64 n, .int .i64 g], .int .i64 s, .int .i64 m, .int .i64 now] w (GiveEnd born ls.length qs.length w) := by
  obtain ⟨w0, hw0⟩ : ∃ w0, w0 = box3 w born n g A B c d ls.length qs.length := ⟨_, rfl⟩
  obtain ⟨q1, q2, q3, q4⟩ := box3_fact w born n g A B c d ls.length qs.length
  rw [← hw0] at q1 q2 q3 q4
  unfold box3 at hw0
  have HW0 := Lib.hid hw0
  have Q1 := Lib.hid q1
  have Q3 := Lib.hid q3
  have Q4 := Lib.hid q4
  have H1 := Lib.hid (h1.below q1)
  have H1w := Lib.hid h1
  have H2 := Lib.hid (h2.below q1)
  have HCL := Lib.hid (rclock_walk now)
  obtain ⟨cn, hcn⟩ : ∃ cn, clockP now = cn := ⟨_, rfl⟩
  rw [hcn] at HCL
  clear h1 h2 hw0 q1 q3 q4 hcn
  go_enter Try.func40, Try.ntmps40
  go_upto_region 1 with fail
  rw [← HW0.out]
  go_wp2
  go_loopw [11, 12] (fun vk vi wr => CopInv (w.heap.size + 3) qs.length 72 w0 vk vi wr) (fun _ v _ => qs.length - (intOf v).toNat)
  case atStart => exact ⟨0, [], Nat.zero_le _, rfl, by have := Fr.new w0 (w.heap.size + 3) 72 (by omega); rw [q2] at this; exact this, Nat.le_refl _, (Keep.refl _ w0).alloc _⟩
  case round =>
    obtain ⟨i, ks, hi, rfl, hfr, hks, hk⟩ := hrel
    have HK := Lib.hid hk
    have X := Lib.hid (Q3.out.keep hk (by omega) (by omega))
    have X4 := Lib.hid (hk.blk Q4.out (by omega))
    have ct := blk_cells X.out.tab
    have ch := blk_cells X.out.hnd
    have sz := hk.size
    have ft := blk_frees X.out.tab
    have HS2 := Lib.hid (H2.out.keep hk (fun k e hx h => by have := H2.out.lt e hx; omega))
    have HS1 := Lib.hid (H1.out.keep hk (fun k e hx h => by have := H1.out.lt e hx; omega))
    obtain ⟨K, kc, rfl, hown, hKb⟩ := hfr
    have HO := Lib.hid hown
    have HKb := Lib.hid hKb
    clear hk hown hKb
    by_cases hlt : i < qs.length
    · obtain ⟨x, hx⟩ : ∃ x, qs[i]? = some x := ⟨qs[i], List.getElem?_eq_getElem hlt⟩
      have b1 : (0 : Int) ≤ (i : Int) := by omega
      have b2 : (i : Int) < (qs.length : Int) := by omega
      obtain ⟨b, off, rfl, _, r0, r1, r2, r3, r4⟩ := flat_row HS2.out hx
      clear hx
      go_upto_if 39 with fail
      go_cut [39] (fun v wx => (∃ t, v = .bool t) ∧ ∃ m, wx = wr.drewN m)
      case first =>
        by_cases e1 : x.n = n
        · by_cases e2 : x.g = g
          · subst e1 e2
            by_cases e3 : x.s = s
            · subst e3
              go_wp2
              go_quiet (fail)
              go_wp2
              go_meet
              case rel => exact ⟨⟨_, rfl⟩, _, rfl⟩
            · have f3 : (x.s == s) = false := beq_eq_false_iff_ne.2 e3
              go_wp2
              go_quiet (fail)
              go_wp2
              go_meet
              case rel => exact ⟨⟨_, rfl⟩, _, rfl⟩
          · have f2 : (x.g == g) = false := beq_eq_false_iff_ne.2 e2
            go_wp2
            go_quiet (fail)
            go_wp2
            go_meet
            case rel => exact ⟨⟨_, rfl⟩, _, rfl⟩
        · have f1 : (x.n == n) = false := beq_eq_false_iff_ne.2 e1
          go_wp2
          go_quiet (fail)
          go_wp2
          go_meet
          case rel => exact ⟨⟨_, rfl⟩, _, rfl⟩
      case rest =>
        obtain ⟨⟨t, rfl⟩, mm, hwx⟩ := hcut
        have k2 : Keep (fun _ => False) wr wc := by rw [hwx]; exact (Keep.refl _ wr).drewN mm
        have X2 := Lib.hid (X.out.keep k2 id id)
        have ct2 := blk_cells X2.out.tab
        have s0 := k2.cell r0 id
        have s1 := k2.cell r1 id
        have s2 := k2.cell r2 id
        have s3 := k2.cell r3 id
        have s4 := k2.cell r4 id
        have HO2 := Lib.hid (own_keep HO.out k2 (fun _ _ h => h))
        have HK2 := Lib.hid (HK.out.trans k2 (fun _ _ h => h.elim))
        have sz2 := k2.size
        clear hwx k2 r0 r1 r2 r3 r4 ct ch ft
        cases t with
        | false =>
          go_wp2
          go_roundw
          case rel => exact ⟨i + 1, ks, by omega, by go_num, ⟨K, kc, rfl, HO2.out, HKb.out⟩, by omega, HK2.out⟩
          case measure => simp [intOf]; omega
        | true =>
          go_wp2_with (at_builtin; go_must (refine wpList_app rfl eltR rfl rfl rfl (n := ks.length) (m := 1) (own_keep HO2.out ((Keep.refl (fun _ => False) _).alloc _) (fun _ _ h => h)) (Sl.of_own (own_new wc #[.int .i64 x.n, .int .i64 x.g, .int .i64 x.s, .int .i64 x.m, .int .i64 x.x] 72 5 1 rfl (by decide))) (by simp [Value.oneCell']) (by omega) (by simp only [maxLen]; omega) ?_))
          intro v2 w3 g1 g2 g3 _
          obtain ⟨A2, c2, rfl, _⟩ := Rd.of_own g1
          have HA := Lib.hid (Fr.app (x := x) HKb.out (by omega) g1 g2 (by first | exact g3 | simpa using g3))
          clear g1 g2 g3
          go_wp2
          go_roundw
          case rel => exact ⟨i + 1, ks ++ [x], by omega, by go_num, HA.out.1, by simp; omega, HK2.out.trans HA.out.2 (fun _ _ h => h)⟩
          case measure => simp [intOf]; omega
    · obtain rfl : i = qs.length := by omega
      go_upto_region 8 with fail
      obtain ⟨W1, hW1⟩ : ∃ W1, W1 = wr.setCell ⟨w.heap.size, 2, none⟩ (.slice K ks.length kc) := ⟨_, rfl⟩
      have K1 : Keep (fun k => k = w.heap.size) wr W1 := by rw [hW1]; exact (Keep.refl (fun k => k = w.heap.size) wr).setCell (fun _ => rfl) _
      have t1 := blk_set (j := 2) X.out.tab (.slice K ks.length kc)
      rw [← hW1] at t1 ⊢
      have ct1 := blk_cells t1
      have ft1 := blk_frees t1
      have lt1 := blk_lt t1
      have T1 := Lib.hid t1
      have N1 := Lib.hid (K1.blk X.out.hnd (by omega))
      have R1 := Lib.hid (K1.blk X4.out (by omega))
      have O1 := Lib.hid (own_keep HO.out K1 (fun k e h => by have := HKb.out k (by rw [ownBlock_slice] at e; exact e); omega))
      have HB1 := Lib.hid ((Q1.out.trans (HK.out.below (fun i h => by omega) (by omega))).trans (K1.below (B := w.heap.size) (fun i h => by omega) (by omega)))
      have S1 := Lib.hid (H1w.out.below HB1.out)
      have hwb : w.heap.size + 3 ≤ W1.heap.size := by have := K1.size; omega
      have hWb := Lib.hid hwb
      clear hW1 K1 t1 ct ch ft HS1 HS2
      go_wp2_with (at_builtin; go_must (refine wpList_app rfl eltL rfl rfl rfl (n := 0) (m := ls.length) (xs := []) (own_new W1 #[] _ 5 0 rfl (by decide)) (S1.out.below ((Below.refl _ _).alloc (Nat.le_refl _) _)) (flat_one ls) (by omega) (by simp only [maxLen]; omega) ?_))
      intro v1 w2 g1 g2 g3 _
      obtain ⟨A1, c1, rfl, _⟩ := Rd.of_own g1
      have k2 : Keep (fun k => W1.heap.size ≤ k) W1 w2 := ((Keep.refl _ W1).alloc _).trans g2 (fun i _ e => by rw [ownBlock_slice] at e; injection e with e; exact Nat.le_of_eq e)
      have bA : ∀ k, A1.map (·.block) = some k → W1.heap.size ≤ k := fun k e => by
        rcases g3 with e3 | e3 <;> rw [ownBlock_slice] at e3
        · rw [ownBlock_slice, e] at e3; injection e3 with e3; exact Nat.le_of_eq e3.symm
        · rw [e] at e3; injection e3 with e3; omega
      have BA := Lib.hid bA
      have t2 := k2.blk T1.out (by have := hWb.out; omega)
      have ct2 := blk_cells t2
      have ft2 := blk_frees t2
      have lt2 := blk_lt t2
      have T2 := Lib.hid t2
      have N2 := Lib.hid (k2.blk N1.out (by have := hWb.out; omega))
      have R2 := Lib.hid (k2.blk R1.out (by have := hWb.out; omega))
      have O2 := Lib.hid (own_keep O1.out k2 (fun k e h => by have := own_lt O1.out e; omega))
      have OA : w2.ownsRow 0 39 5 (.slice A1 ls.length c1) ls.length (flat ls) := by simpa using g1
      have OA2 := Lib.hid OA
      have HB2 := Lib.hid (HB1.out.trans (k2.below (B := w.heap.size) (fun i h => by have := hWb.out; omega) (by have := hWb.out; omega)))
      have sz2 := k2.size
      clear g1 g2 g3 k2 bA t2 ct1 ft1 OA
      go_upto_region 9 with fail
      obtain ⟨W2, hW2⟩ : ∃ W2, W2 = w2.setCell ⟨w.heap.size, 1, none⟩ (.slice A1 ls.length c1) := ⟨_, rfl⟩
      have K2 : Keep (fun k => k = w.heap.size) w2 W2 := by rw [hW2]; exact (Keep.refl (fun k => k = w.heap.size) w2).setCell (fun _ => rfl) _
      have t3 := blk_set (j := 1) T2.out (.slice A1 ls.length c1)
      rw [← hW2] at t3 ⊢
      have T3 := Lib.hid t3
      have N3 := Lib.hid (K2.blk N2.out (by omega))
      have R3 := Lib.hid (K2.blk R2.out (by omega))
      have O3 := Lib.hid (own_keep O2.out K2 (fun k e h => by have := HKb.out k (by rw [ownBlock_slice] at e; exact e); omega))
      have OA3 := Lib.hid (own_keep OA2.out K2 (fun k e h => by have := BA.out k (by rw [ownBlock_slice] at e; exact e); have := hWb.out; omega))
      have HB3 := Lib.hid (HB2.out.trans (K2.below (B := w.heap.size) (fun i h => by omega) (by have := hWb.out; omega)))
      have sz3 := K2.size
      have hW3 : w.heap.size + 3 ≤ W2.heap.size := by have := hWb.out; omega
      clear hW2 K2 t3 ct2 ft2
      go_wp2
      go_loopw [13] (fun v wr => StepInv ls.length W2 v wr) (fun v _ => ls.length - (intOf v).toNat)
      case atStart => exact ⟨0, Nat.zero_le _, rfl, Keep.refl _ _⟩
      case round =>
        obtain ⟨j, hj, rfl, hkj⟩ := hrel
        have HJ := Lib.hid hkj
        have T4 := Lib.hid (hkj.blk T3.out id)
        have N4 := Lib.hid (hkj.blk N3.out id)
        have R4 := Lib.hid (hkj.blk R3.out id)
        have O4 := Lib.hid (own_keep O3.out hkj (fun _ _ h => h))
        have OA4 := Lib.hid (own_keep OA3.out hkj (fun _ _ h => h))
        have ct := blk_cells T4.out
        have ft := blk_frees T4.out
        have ch := blk_cells N4.out
        have c4 : ∀ j, wr.cell? ⟨w.heap.size + 1 + 1, j, none⟩ = (#[.int .i64 0, .slice none 0 0, .slice none 0 0] : Array Value)[j]? := blk_cells R4.out
        have f4 : ∀ j, wr.frozen? ⟨w.heap.size + 1 + 1, j, none⟩ = false := blk_frees R4.out
        have l4 : w.heap.size + 1 + 1 < wr.heap.size := by have := hkj.size; omega
        have lt := blk_lt T4.out
        clear hkj
        by_cases hjl : j < ls.length
        · obtain ⟨x, hx⟩ : ∃ x, ls[j]? = some x := ⟨ls[j], List.getElem?_eq_getElem hjl⟩
          have b1 : (0 : Int) ≤ (j : Int) := by omega
          have b2 : (j : Int) < (ls.length : Int) := by omega
          obtain ⟨b, cc, cur, e, hcur, _⟩ := own_form OA4.out (by omega)
          injection e with e1 _ e3
          subst e1 e3
          obtain ⟨_, _, hbr, _, r0, r1, r2, r3, r4⟩ := flat_row (Sl.of_own OA4.out) hx
          injection hbr with hbr
          injection hbr with hbr1 hbr2
          subst hbr1 hbr2
          rw [Nat.zero_add] at r0 r1 r2 r3 r4
          have fb := blk_frees hcur
          have hbN : w.heap.size + 3 ≤ b := by have := BA.out b rfl; have := hWb.out; omega
          have HXJ := Lib.hid hx
          clear hx hcur
          by_cases e1 : x.n = n
          · by_cases e2 : x.g = g
            · subst e1 e2
              by_cases e3 : x.s = s
              · subst e3
                go_wp2
                go_quiet (fail)
                go_wp2
                · obtain ⟨V, hV⟩ : ∃ V, V = (wr.drewN nq).setCell ⟨b, j * 5 + 3, none⟩ (.int .i64 m) := ⟨_, rfl⟩
                  have KV : Keep (fun k => k = b) wr V := by rw [hV]; exact ((Keep.refl (fun k => k = b) wr).drewN nq).setCell (fun _ => rfl) _
                  have OV := own_put (j := j * 5 + 3) (own_keep OA4.out ((Keep.refl (fun _ => False) wr).drewN nq) (fun _ _ h => h)) (.int .i64 m)
                  rw [← hV] at OV ⊢
                  have OV5 := Lib.hid (own_put (j := j * 5 + 4) OV (.int .i64 cn))
                  rw [flat_set2 HXJ.out m cn] at OV5
                  have TV := Lib.hid (KV.blk T4.out (by omega))
                  have RV := Lib.hid (KV.blk R4.out (by omega))
                  have OMV := Lib.hid (own_keep O4.out KV (fun k e h => own_ne OA4.out O4.out (by decide) (k := b) (by rw [ownBlock_slice]; rfl) (by rw [← h]; exact e)))
                  have HBV := Lib.hid ((HB3.out.trans (HJ.out.below (B := w.heap.size) (fun i h => h.elim) (by omega))).trans (KV.below (B := w.heap.size) (fun i h => by omega) (by omega)))
                  have ctv := blk_cells TV.out
                  obtain ⟨curv, hcurv, _⟩ := own_row OV
                  have fbv := blk_frees hcurv
                  obtain ⟨uv, huv⟩ : ∃ uv, V.cell? ⟨b, j * 5 + 4, none⟩ = some uv := by
                    have h5 := OV.cells (g := b) rfl (j * 5 + 4)
                    obtain ⟨y, hy⟩ : ∃ y, (((flat ls).set (j * 5 + 3) (.int .i64 m)))[j * 5 + 4]? = some y := ⟨_, List.getElem?_eq_getElem (by simp [flat_length]; omega)⟩
                    have := h5 y hy
                    rw [Addr.add_lit] at this
                    exact ⟨y, by simpa using this⟩
                  have hszV := KV.size
                  have HSV := Lib.hid (fun w' (k : Keep (fun i => i = b) V w') => ((k.cell (ctv 1) (fun e => by have e' : w.heap.size = b := e; omega)).trans rfl : w'.cell? ⟨w.heap.size, 1, none⟩ = some (.slice (some ⟨b, 0, none⟩) ls.length c1)))
                  clear hV OV hcurv r0 r1 r2 r3 r4 fb ct ft ch c4 f4
                  go_region_held3 (fun w' => w'.cell? ⟨w.heap.size, 1, none⟩ = some (.slice (some ⟨b, 0, none⟩) ls.length c1)) (first | exact HSV.out _ (Keep.refl _ V).drew | exact HSV.out _ ((Keep.refl (fun i => i = b) V).setCell (fun _ => rfl) _).drew) (first | (go_at_call 13; refine (HCL.out _).mono ?_; rintro e w5 ⟨rfl, rfl⟩))
                  all_goals
                    obtain ⟨V5, hV5⟩ : ∃ V5, V5 = (V.setCell ⟨b, j * 5 + 4, none⟩ (.int .i64 cn)).drew := ⟨_, rfl⟩
                    have K5 : Keep (fun k => k = b) V V5 := by rw [hV5]; exact ((Keep.refl (fun k => k = b) V).setCell (fun _ => rfl) _).drew
                    have OV6 := OV5.out.drew
                    rw [← hV5] at OV6 ⊢
                    have t5 := K5.blk TV.out (by omega)
                    have r5 := K5.blk RV.out (by omega)
                    have ct5 := blk_cells t5
                    have c5 : ∀ j, V5.cell? ⟨w.heap.size + 1 + 1, j, none⟩ = (#[.int .i64 0, .slice none 0 0, .slice none 0 0] : Array Value)[j]? := blk_cells r5
                    have f5 : ∀ j, V5.frozen? ⟨w.heap.size + 1 + 1, j, none⟩ = false := blk_frees r5
                    have l5 : w.heap.size + 1 + 1 < V5.heap.size := by have := K5.size; omega
                    have HC := Lib.hid (give_close (born := born) (nl := ls.length) (nq := qs.length) (HBV.out.trans (K5.below (B := w.heap.size) (fun i h => by omega) (by omega))) (by omega) r5 (by simp : (ls.set j ⟨x.n, x.g, x.s, m, cn⟩).length = ls.length) OV6 (fun k e => by injection e with e; dsimp only at e; omega) rfl (own_keep OMV.out K5 (fun k e h => own_ne OA4.out O4.out (by decide) (k := b) (by rw [ownBlock_slice]; rfl) (by rw [← h]; exact e))) HKb.out (by omega) hks)
                    clear hV5 ctv fbv huv OV6 t5 r5 K5
                    go_wp2
                    obtain ⟨wf, hwf⟩ : ∃ wf, wf = ((V5.setCell ⟨w.heap.size + 1 + 1, 0, none⟩ (.int .i64 born)).setCell ⟨w.heap.size + 1 + 1, 1, none⟩ (.slice (some ⟨b, 0, none⟩) ls.length c1)).setCell ⟨w.heap.size + 1 + 1, 2, none⟩ (.slice K ks.length kc) := ⟨_, rfl⟩
                    rw [← hwf] at HC ⊢
                    have z0 := HC.out.1 0
                    have z1 := HC.out.1 1
                    have z2 := HC.out.1 2
                    refine bodyPost_ret (by simp [results, Try.results40, go_sem, z0, z1, z2]; try rfl) rfl ?_
                    exact HC.out.2
                · obtain ⟨V, hV⟩ : ∃ V, V = wr.drewN nq := ⟨_, rfl⟩
                  have KV : Keep (fun k => k = b) wr V := by rw [hV]; exact (Keep.refl (fun k => k = b) wr).drewN nq
                  have OV := own_keep OA4.out ((Keep.refl (fun _ => False) wr).drewN nq) (fun _ _ h => h)
                  rw [← hV] at OV ⊢
                  have OV5 := Lib.hid (own_put (j := j * 5 + 4) OV (.int .i64 cn))
                  rw [flat_set1 HXJ.out cn] at OV5
                  have TV := Lib.hid (KV.blk T4.out (by omega))
                  have RV := Lib.hid (KV.blk R4.out (by omega))
                  have OMV := Lib.hid (own_keep O4.out KV (fun k e h => own_ne OA4.out O4.out (by decide) (k := b) (by rw [ownBlock_slice]; rfl) (by rw [← h]; exact e)))
                  have HBV := Lib.hid ((HB3.out.trans (HJ.out.below (B := w.heap.size) (fun i h => h.elim) (by omega))).trans (KV.below (B := w.heap.size) (fun i h => by omega) (by omega)))
                  have ctv := blk_cells TV.out
                  obtain ⟨curv, hcurv, _⟩ := own_row OV
                  have fbv := blk_frees hcurv
                  obtain ⟨uv, huv⟩ : ∃ uv, V.cell? ⟨b, j * 5 + 4, none⟩ = some uv := by
                    have h5 := OV.cells (g := b) rfl (j * 5 + 4)
                    obtain ⟨y, hy⟩ : ∃ y, ((flat ls))[j * 5 + 4]? = some y := ⟨_, List.getElem?_eq_getElem (by simp [flat_length]; omega)⟩
                    have := h5 y hy
                    rw [Addr.add_lit] at this
                    exact ⟨y, by simpa using this⟩
                  have hszV := KV.size
                  have HSV := Lib.hid (fun w' (k : Keep (fun i => i = b) V w') => ((k.cell (ctv 1) (fun e => by have e' : w.heap.size = b := e; omega)).trans rfl : w'.cell? ⟨w.heap.size, 1, none⟩ = some (.slice (some ⟨b, 0, none⟩) ls.length c1)))
                  clear hV OV hcurv r0 r1 r2 r3 r4 fb ct ft ch c4 f4
                  go_region_held3 (fun w' => w'.cell? ⟨w.heap.size, 1, none⟩ = some (.slice (some ⟨b, 0, none⟩) ls.length c1)) (first | exact HSV.out _ (Keep.refl _ V).drew | exact HSV.out _ ((Keep.refl (fun i => i = b) V).setCell (fun _ => rfl) _).drew) (first | (go_at_call 13; refine (HCL.out _).mono ?_; rintro e w5 ⟨rfl, rfl⟩))
                  all_goals
                    obtain ⟨V5, hV5⟩ : ∃ V5, V5 = (V.setCell ⟨b, j * 5 + 4, none⟩ (.int .i64 cn)).drew := ⟨_, rfl⟩
                    have K5 : Keep (fun k => k = b) V V5 := by rw [hV5]; exact ((Keep.refl (fun k => k = b) V).setCell (fun _ => rfl) _).drew
                    have OV6 := OV5.out.drew
                    rw [← hV5] at OV6 ⊢
                    have t5 := K5.blk TV.out (by omega)
                    have r5 := K5.blk RV.out (by omega)
                    have ct5 := blk_cells t5
                    have c5 : ∀ j, V5.cell? ⟨w.heap.size + 1 + 1, j, none⟩ = (#[.int .i64 0, .slice none 0 0, .slice none 0 0] : Array Value)[j]? := blk_cells r5
                    have f5 : ∀ j, V5.frozen? ⟨w.heap.size + 1 + 1, j, none⟩ = false := blk_frees r5
                    have l5 : w.heap.size + 1 + 1 < V5.heap.size := by have := K5.size; omega
                    have HC := Lib.hid (give_close (born := born) (nl := ls.length) (nq := qs.length) (HBV.out.trans (K5.below (B := w.heap.size) (fun i h => by omega) (by omega))) (by omega) r5 (by simp : (ls.set j ⟨x.n, x.g, x.s, x.m, cn⟩).length = ls.length) OV6 (fun k e => by injection e with e; dsimp only at e; omega) rfl (own_keep OMV.out K5 (fun k e h => own_ne OA4.out O4.out (by decide) (k := b) (by rw [ownBlock_slice]; rfl) (by rw [← h]; exact e))) HKb.out (by omega) hks)
                    clear hV5 ctv fbv huv OV6 t5 r5 K5
                    go_wp2
                    obtain ⟨wf, hwf⟩ : ∃ wf, wf = ((V5.setCell ⟨w.heap.size + 1 + 1, 0, none⟩ (.int .i64 born)).setCell ⟨w.heap.size + 1 + 1, 1, none⟩ (.slice (some ⟨b, 0, none⟩) ls.length c1)).setCell ⟨w.heap.size + 1 + 1, 2, none⟩ (.slice K ks.length kc) := ⟨_, rfl⟩
                    rw [← hwf] at HC ⊢
                    have z0 := HC.out.1 0
                    have z1 := HC.out.1 1
                    have z2 := HC.out.1 2
                    refine bodyPost_ret (by simp [results, Try.results40, go_sem, z0, z1, z2]; try rfl) rfl ?_
                    exact HC.out.2
              · have f3 : (x.s == s) = false := beq_eq_false_iff_ne.2 e3
                go_wp2
                go_quiet (fail)
                go_wp2
                go_roundw
                case rel => exact ⟨j + 1, by omega, by go_num, HJ.out.drewN _⟩
                case measure => simp [intOf]; omega
            · have f2 : (x.g == g) = false := beq_eq_false_iff_ne.2 e2
              go_wp2
              go_quiet (fail)
              go_wp2
              go_roundw
              case rel => exact ⟨j + 1, by omega, by go_num, HJ.out.drewN _⟩
              case measure => simp [intOf]; omega
          · have f1 : (x.n == n) = false := beq_eq_false_iff_ne.2 e1
            go_wp2
            go_quiet (fail)
            go_wp2
            go_roundw
            case rel => exact ⟨j + 1, by omega, by go_num, HJ.out.drewN _⟩
            case measure => simp [intOf]; omega
        · obtain rfl : j = ls.length := by omega
          have hx1 : (1 : Nat) ≤ 1000000 := by omega
          have szr := HJ.out.size
          have hsr : w.heap.size + 3 ≤ wr.heap.size := by omega
          have HBr := Lib.hid (HB3.out.trans (HJ.out.below (B := w.heap.size) (fun i h => h.elim) (by omega)))
          have BA2 := Lib.hid (fun k (e : A1.map (·.block) = some k) => Nat.le_trans hWb.out (BA.out k e))
          clear H1 H1w H2 Q1 Q3 Q4 HK X X4 HO S1 T1 N1 R1 O1 HB1 BA T2 N2 R2 O2 OA2 HB2 T3 N3 R3 O3 OA3 HB3 HJ HW0 q2
          go_upto_region 17 with fail
          go_cut [13] (fun v wx => G17 born ls.length K kc ks.length ks w wx)
          case first =>
            go_region_law (first | (go_simp; go_at_call 13; refine (HCL.out _).mono ?_; rintro e w5 ⟨rfl, e5⟩; have k5 : Hid (Keep (fun _ => False) wr w5) := Lib.hid (by subst e5; exact (Keep.refl _ _).drew); have T5 := Lib.hid (k5.out.blk T4.out id); have OA5 := Lib.hid (own_keep OA4.out k5.out (fun _ _ h => h)); have ct5 := blk_cells T5.out; have ft5 := blk_frees T5.out; have lt5 := blk_lt T5.out; have ch5 := blk_cells (k5.out.blk N4.out id); have sz5 := k5.out.size; clear e5 ct ft ch c4 f4 l4 lt) | (go_must (refine step_app (by rfl) eltL (by rfl) (by rfl) (by rfl) (own_keep OA5.out ((Keep.refl (fun _ => False) _).alloc _) (fun _ _ h => h)) (Sl.of_own (own_new w5 #[.int .i64 n, .int .i64 g, .int .i64 s, .int .i64 m, .int .i64 cn] 39 5 1 rfl (by decide))) (by simp [Value.oneCell']) (by omega) (by simp only [maxLen]; omega) ?_; intro v6 w6 g1 g2 g3 g4; obtain ⟨A6, c6, rfl, _⟩ := Rd.of_own g1; have GG := give_app (e := ⟨n, g, s, m, cn⟩) T5.out (k5.out.blk R4.out id) OA5.out (own_keep O4.out k5.out (fun _ _ h => h)) rfl BA2.out HKb.out (by omega) (HBr.out.trans (k5.out.below (B := w.heap.size) (fun i h => h.elim) (by omega))) g1 g2 (by first | exact g3 | simpa using g3); have ct6 := blk_cells GG.1; have ft6 := blk_frees GG.1; have lt6 := blk_lt GG.1; have G6 := Lib.hid GG.2; clear g1 g2 g3 g4 GG ct5 ft5 ch5)))
            all_goals
              go_wp2_with fail
              go_meet
              case rel => exact G6.out
          case rest =>
            obtain ⟨A6, c6, ks6, e6, TV, RV, o6, b6, om, HBV, hsV⟩ := hcut
            have ctv := blk_cells TV
            have c5 : ∀ j, wc.cell? ⟨w.heap.size + 1 + 1, j, none⟩ = (#[.int .i64 0, .slice none 0 0, .slice none 0 0] : Array Value)[j]? := blk_cells RV
            have f5 : ∀ j, wc.frozen? ⟨w.heap.size + 1 + 1, j, none⟩ = false := blk_frees RV
            have l5 : w.heap.size + 1 + 1 < wc.heap.size := by omega
            have HC := Lib.hid (give_close (born := born) (nl := ls.length) (nq := qs.length) HBV hsV RV e6 o6 b6 rfl om HKb.out (by omega) hks)
            clear TV RV HBV o6 b6 om e6 ct ft ch c4 f4 l4 lt
            go_wp2
            obtain ⟨wf, hwf⟩ : ∃ wf, wf = ((wc.setCell ⟨w.heap.size + 1 + 1, 0, none⟩ (.int .i64 born)).setCell ⟨w.heap.size + 1 + 1, 1, none⟩ (.slice A6 (ls.length + 1) c6)).setCell ⟨w.heap.size + 1 + 1, 2, none⟩ (.slice K ks.length kc) := ⟨_, rfl⟩
            rw [← hwf] at HC ⊢
            have z0 := HC.out.1 0
            have z1 := HC.out.1 1
            have z2 := HC.out.1 2
            refine bodyPost_ret (by simp [results, Try.results40, go_sem, z0, z1, z2]; try rfl) rfl ?_
            exact HC.out.2
end Go.Proofs.Ytmfgkddndlleoaa
