/- The document's answer for leases: Clear, Reclaim. -/
import Derived.Test.YtmfgkddndlleoaaRefL5
import Derived.Handy
set_option linter.unusedSimpArgs false
set_option linter.unusedVariables false
namespace Go.Proofs.Ytmfgkddndlleoaa
open Go.RowKit

theorem stored2 {wr : World} {k : Nat} {v0 v1 v2 : Value} {T : TypeId} (x0 x1 x2 : Value) (h : wr.heap[k + 2]? = some (.cells #[v0, v1, v2] T (0, 0))) :
    Keep (fun i => i = k + 1 + 1) wr (((wr.setCell ⟨k + 1 + 1, 0, none⟩ x0).setCell ⟨k + 1 + 1, 1, none⟩ x1).setCell ⟨k + 1 + 1, 2, none⟩ x2) ∧
    ∀ j, (((wr.setCell ⟨k + 1 + 1, 0, none⟩ x0).setCell ⟨k + 1 + 1, 1, none⟩ x1).setCell ⟨k + 1 + 1, 2, none⟩ x2).cell? ⟨k + 1 + 1, j, none⟩ = (#[x0, x1, x2] : Array Value)[j]? := by
  refine ⟨(((Keep.refl (fun i => i = k + 1 + 1) wr).setCell (fun _ => rfl) _).setCell (fun _ => rfl) _).setCell (fun _ => rfl) _, ?_⟩
  exact blk_cells (blk_set (j := 2) (blk_set (j := 1) (blk_set (j := 0) (k := k + 1 + 1) h x0) x1) x2)
theorem sl_lt_keep {w w1 w2 : World} {A : Option Addr} {n c : Nat} {xs : List Value} {size : Nat} {S : Nat → Prop} (h : Sl w size (.slice A n c) n xs) (h1 : Sl w1 size (.slice A n c) n xs) (hk : Keep S w1 w2) (hS : ∀ k, k < w.heap.size → ¬ S k) : Sl w2 size (.slice A n c) n xs :=
  h1.keep hk (fun k e hx => hS k (h.lt e hx))
/-- How Clear ends. -/
def ClrEnd (born : Int) (A B : Option Addr) (ls : List LE) (d nl nq : Nat) (w : World) (e : Ending) (w' : World) : Prop :=
  ∃ K kc ks O oc os, e = .returned (.tuple #[.agg #[.int .i64 born, .slice K (List.length ks) kc, .slice B nq d], .slice O (List.length os) oc]) ∧ Sl w' 5 (.slice K ks.length kc) ks.length (flat ks) ∧ Sl w' 1 (.slice O os.length oc) os.length (ints os) ∧ ks.length ≤ nl ∧ os.length ≤ nl ∧ (∀ k, K.map (·.block) = some k → (A.map (·.block) = some k ∧ ks = ls) ∨ w.heap.size ≤ k) ∧ Below w.heap.size w w'
/-- How Reclaim ends. -/
def RecEnd (born : Int) (A B : Option Addr) (ls qs : List LE) (nl nq : Nat) (w : World) (e : Ending) (w' : World) : Prop :=
  ∃ K kc ks M mc ms b, e = .returned (.tuple #[.agg #[.int .i64 born, .slice K (List.length ks) kc, .slice M (List.length ms) mc], .bool b]) ∧ Sl w' 5 (.slice K ks.length kc) ks.length (flat ks) ∧ Sl w' 5 (.slice M ms.length mc) ms.length (flat ms) ∧ ks.length ≤ nl + 1 ∧ ms.length ≤ nq ∧
    (∀ k, K.map (·.block) = some k → (A.map (·.block) = some k ∧ ks = ls) ∨ w.heap.size ≤ k) ∧ (∀ k, M.map (·.block) = some k → (B.map (·.block) = some k ∧ ms = qs) ∨ w.heap.size ≤ k) ∧ Below w.heap.size w w'
set_option maxRecDepth 100000 in
set_option maxHeartbeats 2000000 in
theorem rclear_walk (born n g s m now : Int) (A B : Option Addr) (ls qs : List LE) (c d : Nat) (w : World) (h1 : Sl w 5 (.slice A ls.length c) ls.length (flat ls)) (h2 : Sl w 5 (.slice B qs.length d) qs.length (flat qs)) (hf : ls.length ≤ 1000000) (hq : qs.length ≤ 1000000) :
    Calls Try.prog 24 #[.agg #[.int .i64 born, .slice A ls.length c, .slice B qs.length d], .agg #[.int .i64 n, .int .i64 g], .int .i64 s, .int .i64 m, .int .i64 now] w (ClrEnd born A B ls d ls.length qs.length w) := by
  obtain ⟨w0, hw0⟩ : ∃ w0, w0 = box3 w born n g A B c d ls.length qs.length := ⟨_, rfl⟩
  obtain ⟨q1, q2, q3, q4⟩ := box3_fact w born n g A B c d ls.length qs.length
  rw [← hw0] at q1 q2 q3 q4
  unfold box3 at hw0
  have HW0 := Lib.hid hw0
  have Q1 := Lib.hid q1
  have Q3 := Lib.hid q3
  have Q4 := Lib.hid q4
  have H1 := Lib.hid h1
  have H2 := Lib.hid h2
  have HRT := Lib.hid (rright_walk s m)
  have ct := blk_cells q3.tab
  have ch := blk_cells q3.hnd
  have c4 : ∀ j, w0.cell? ⟨w.heap.size + 1 + 1, j, none⟩ = (#[.int .i64 0, .slice none 0 0, .slice none 0 0] : Array Value)[j]? := blk_cells q4
  have f4 : ∀ j, w0.frozen? ⟨w.heap.size + 1 + 1, j, none⟩ = false := blk_frees q4
  have ft := blk_frees q3.tab
  have l0 : w.heap.size < w0.heap.size := by omega
  have l1 : w.heap.size + 1 < w0.heap.size := by omega
  have l4 : w.heap.size + 1 + 1 < w0.heap.size := by omega
  have Z2 := Lib.hid q2
  clear h1 h2 hw0 q1 q3 q4 q2
  cases hr : rightP s m with
  | false =>
    rw [hr] at HRT
    clear hr
    go_enter Try.func24, Try.ntmps24
    go_upto_region 1 with fail
    rw [← HW0.out]
    go_wp2_with fail
    refine (HRT.out _).mono ?_
    rintro e w1 ⟨rfl, rfl⟩
    go_wp2
    obtain ⟨kf, bf⟩ := stored2 (wr := w1) (.int .i64 born) (.slice A ls.length c) (.slice B qs.length d) Q4.out
    obtain ⟨wf, hwf⟩ : ∃ wf, wf = (((w1.setCell ⟨w.heap.size + 1 + 1, 0, none⟩ (.int .i64 born)).setCell ⟨w.heap.size + 1 + 1, 1, none⟩ (.slice A ls.length c)).setCell ⟨w.heap.size + 1 + 1, 2, none⟩ (.slice B qs.length d)) := ⟨_, rfl⟩
    rw [← hwf] at kf bf ⊢
    have e0 := bf 0
    have e1 := bf 1
    have e2 := bf 2
    have HF := Lib.hid (show ClrEnd born A B ls d ls.length qs.length w (.returned (.tuple #[.agg #[.int .i64 born, .slice A ls.length c, .slice B qs.length d], .slice none 0 0])) wf from ⟨A, c, ls, none, 0, [], rfl, sl_lt_keep H1.out (H1.out.below Q1.out) kf (fun k h => by omega), ⟨none, 0, rfl, .inl rfl, fun _ => ⟨rfl, rfl⟩, Nat.le_refl _, rfl⟩, Nat.le_refl _, Nat.zero_le _, fun k e => .inl ⟨e, rfl⟩, Q1.out.trans (kf.below (fun i h => by omega) (by omega))⟩)
    refine bodyPost_ret (by simp [results, Try.results24, go_sem, e0, e1, e2]; try rfl) rfl ?_
    exact HF.out
  | true =>
    rw [hr] at HRT
    have HWY := Lib.hid (rways_walk born n g s m now A B ls c d qs.length w0 (H1.out.below Q1.out) hf)
    clear hr
    go_enter Try.func24, Try.ntmps24
    go_upto_region 1 with fail
    rw [← HW0.out]
    go_wp2_with fail
    refine (HRT.out _).mono ?_
    rintro e w1 ⟨rfl, rfl⟩
    go_wp2_with fail
    refine HWY.out.mono ?_
    rintro e w2 ⟨K, kc, ks, O, oc, os, rfl, hs1, hs2, hk1, hk2, hf1, hf2, hb⟩
    have HS1 := Lib.hid hs1
    have HS2 := Lib.hid hs2
    have HB := Lib.hid hb
    have R4 := Lib.hid ((Keep.of_below (S := fun _ => False) hb).blk Q4.out id)
    have c5 : ∀ j, w2.cell? ⟨w.heap.size + 1 + 1, j, none⟩ = (#[.int .i64 0, .slice none 0 0, .slice none 0 0] : Array Value)[j]? := blk_cells R4.out
    have f5 : ∀ j, w2.frozen? ⟨w.heap.size + 1 + 1, j, none⟩ = false := blk_frees R4.out
    have l5 : w.heap.size + 1 + 1 < w2.heap.size := by have := hb.size; omega
    clear hs1 hs2 hb ct ch c4 f4 ft
    go_wp2
    obtain ⟨kf, bf⟩ := stored2 (wr := w2) (.int .i64 born) (.slice K ks.length kc) (.slice B qs.length d) R4.out
    obtain ⟨wf, hwf⟩ : ∃ wf, wf = (((w2.setCell ⟨w.heap.size + 1 + 1, 0, none⟩ (.int .i64 born)).setCell ⟨w.heap.size + 1 + 1, 1, none⟩ (.slice K ks.length kc)).setCell ⟨w.heap.size + 1 + 1, 2, none⟩ (.slice B qs.length d)) := ⟨_, rfl⟩
    rw [← hwf] at kf bf ⊢
    have e0 := bf 0
    have e1 := bf 1
    have e2 := bf 2
    have HF := Lib.hid (show ClrEnd born A B ls d ls.length qs.length w (.returned (.tuple #[.agg #[.int .i64 born, .slice K ks.length kc, .slice B qs.length d], .slice O os.length oc])) wf from ⟨K, kc, ks, O, oc, os, rfl, HS1.out.keep kf (fun k e hx h => by have := hf1 k (by rw [ownBlock_slice] at e; exact e); omega), HS2.out.keep kf (fun k e hx h => by have := hf2 k (by rw [ownBlock_slice] at e; exact e); omega), hk1, hk2, fun k e => .inr (by have := hf1 k e; omega), (Q1.out.trans (HB.out.mono (by omega))).trans (kf.below (fun i h => by omega) (by have := HB.out.size; omega))⟩)
    refine bodyPost_ret (by simp [results, Try.results24, go_sem, e0, e1, e2]; try rfl) rfl ?_
    exact HF.out
set_option maxRecDepth 100000 in
set_option maxHeartbeats 4000000 in
theorem rreclaim_walk (born n g s m now : Int) (A B : Option Addr) (ls qs : List LE) (c d : Nat) (w : World) (h1 : Sl w 5 (.slice A ls.length c) ls.length (flat ls)) (h2 : Sl w 5 (.slice B qs.length d) qs.length (flat qs)) (hf : ls.length ≤ 1000000) (hq : qs.length ≤ 1000000) :
    Calls Try.prog 17 #[.agg #[.int .i64 born, .slice A ls.length c, .slice B qs.length d], .agg #[.int .i64 n, .int .i64 g], .int .i64 s, .int .i64 m, .int .i64 now] w (RecEnd born A B ls qs ls.length qs.length w) := by
  obtain ⟨w0, hw0⟩ : ∃ w0, w0 = box3 w born n g A B c d ls.length qs.length := ⟨_, rfl⟩
  obtain ⟨q1, q2, q3, q4⟩ := box3_fact w born n g A B c d ls.length qs.length
  rw [← hw0] at q1 q2 q3 q4
  unfold box3 at hw0
  have HW0 := Lib.hid hw0
  have Q1 := Lib.hid q1
  have Q3 := Lib.hid q3
  have Q4 := Lib.hid q4
  have H1 := Lib.hid h1
  have H2 := Lib.hid h2
  have HRT := Lib.hid (rright_walk s m)
  have ct := blk_cells q3.tab
  have ch := blk_cells q3.hnd
  have c4 : ∀ j, w0.cell? ⟨w.heap.size + 1 + 1, j, none⟩ = (#[.int .i64 0, .slice none 0 0, .slice none 0 0] : Array Value)[j]? := blk_cells q4
  have f4 : ∀ j, w0.frozen? ⟨w.heap.size + 1 + 1, j, none⟩ = false := blk_frees q4
  have ft := blk_frees q3.tab
  have l0 : w.heap.size < w0.heap.size := by omega
  have l1 : w.heap.size + 1 < w0.heap.size := by omega
  have l4 : w.heap.size + 1 + 1 < w0.heap.size := by omega
  have Z2 := Lib.hid q2
  clear h1 h2 hw0 q1 q3 q4 q2
  cases hr : rightP s m with
  | false =>
    rw [hr] at HRT
    clear hr
    go_enter Try.func17, Try.ntmps17
    go_upto_region 1 with fail
    rw [← HW0.out]
    go_wp2_with fail
    refine (HRT.out _).mono ?_
    rintro e w1 ⟨rfl, rfl⟩
    go_wp2
    obtain ⟨kf, bf⟩ := stored2 (wr := w1) (.int .i64 born) (.slice A ls.length c) (.slice B qs.length d) Q4.out
    obtain ⟨wf, hwf⟩ : ∃ wf, wf = (((w1.setCell ⟨w.heap.size + 1 + 1, 0, none⟩ (.int .i64 born)).setCell ⟨w.heap.size + 1 + 1, 1, none⟩ (.slice A ls.length c)).setCell ⟨w.heap.size + 1 + 1, 2, none⟩ (.slice B qs.length d)) := ⟨_, rfl⟩
    rw [← hwf] at kf bf ⊢
    have e0 := bf 0
    have e1 := bf 1
    have e2 := bf 2
    have HF := Lib.hid (show RecEnd born A B ls qs ls.length qs.length w (.returned (.tuple #[.agg #[.int .i64 born, .slice A ls.length c, .slice B qs.length d], .bool false])) wf from ⟨A, c, ls, B, d, qs, false, rfl, sl_lt_keep H1.out (H1.out.below Q1.out) kf (fun k h => by omega), sl_lt_keep H2.out (H2.out.below Q1.out) kf (fun k h => by omega), Nat.le_succ _, Nat.le_refl _, fun k e => .inl ⟨e, rfl⟩, fun k e => .inl ⟨e, rfl⟩, Q1.out.trans (kf.below (fun i h => by omega) (by omega))⟩)
    refine bodyPost_ret (by simp [results, Try.results17, go_sem, e0, e1, e2]; try rfl) rfl ?_
    exact HF.out
  | true =>
    rw [hr] at HRT
    have HGR := Lib.hid (rgrace_walk born now (.slice A ls.length c) (.slice B qs.length d) ⟨_, _, _, rfl⟩ ⟨_, _, _, rfl⟩ w0)
    clear hr
    go_enter Try.func17, Try.ntmps17
    go_upto_region 1 with fail
    rw [← HW0.out]
    go_wp2_with fail
    refine (HRT.out _).mono ?_
    rintro e w1 ⟨rfl, rfl⟩
    go_wp2_with fail
    refine HGR.out.mono ?_
    rintro e w2 ⟨⟨bb, rfl⟩, hb⟩
    have T2 := Lib.hid ((Keep.of_below (S := fun _ => False) hb).blk Q3.out.tab id)
    have N2 := Lib.hid ((Keep.of_below (S := fun _ => False) hb).blk Q3.out.hnd id)
    have R2 := Lib.hid ((Keep.of_below (S := fun _ => False) hb).blk Q4.out id)
    have HB2 := Lib.hid (Q1.out.trans (hb.mono (by omega)))
    have ct2 := blk_cells T2.out
    have ft2 := blk_frees T2.out
    have ch2 := blk_cells N2.out
    have c42 : ∀ j, w2.cell? ⟨w.heap.size + 1 + 1, j, none⟩ = (#[.int .i64 0, .slice none 0 0, .slice none 0 0] : Array Value)[j]? := blk_cells R2.out
    have f42 : ∀ j, w2.frozen? ⟨w.heap.size + 1 + 1, j, none⟩ = false := blk_frees R2.out
    have sz2 : w1.heap.size ≤ w2.heap.size := hb.size
    have l02 : w.heap.size < w2.heap.size := by omega
    have l42 : w.heap.size + 1 + 1 < w2.heap.size := by omega
    clear hb ct ch c4 f4 ft
    cases bb with
    | false =>
      go_wp2
      obtain ⟨kf, bf⟩ := stored2 (wr := w2) (.int .i64 born) (.slice A ls.length c) (.slice B qs.length d) R2.out
      obtain ⟨wf, hwf⟩ : ∃ wf, wf = (((w2.setCell ⟨w.heap.size + 1 + 1, 0, none⟩ (.int .i64 born)).setCell ⟨w.heap.size + 1 + 1, 1, none⟩ (.slice A ls.length c)).setCell ⟨w.heap.size + 1 + 1, 2, none⟩ (.slice B qs.length d)) := ⟨_, rfl⟩
      rw [← hwf] at kf bf ⊢
      have e0 := bf 0
      have e1 := bf 1
      have e2 := bf 2
      have HF := Lib.hid (show RecEnd born A B ls qs ls.length qs.length w (.returned (.tuple #[.agg #[.int .i64 born, .slice A ls.length c, .slice B qs.length d], .bool false])) wf from ⟨A, c, ls, B, d, qs, false, rfl, sl_lt_keep H1.out (H1.out.below HB2.out) kf (fun k h => by omega), sl_lt_keep H2.out (H2.out.below HB2.out) kf (fun k h => by omega), Nat.le_succ _, Nat.le_refl _, fun k e => .inl ⟨e, rfl⟩, fun k e => .inl ⟨e, rfl⟩, HB2.out.trans (kf.below (fun i h => by omega) (by omega))⟩)
      refine bodyPost_ret (by simp [results, Try.results17, go_sem, e0, e1, e2]; try rfl) rfl ?_
      exact HF.out
    | true =>
      have HWY := Lib.hid (rways_walk born n g s m now A B ls c d qs.length w2 (H1.out.below HB2.out) hf)
      go_wp2_with fail
      refine HWY.out.mono ?_
      rintro e w3 ⟨K, kc, ks, O, oc, os, rfl, hs1, hs2, hk1, hk2, hf1, hf2, hb⟩
      have T3 := Lib.hid ((Keep.of_below (S := fun _ => False) hb).blk T2.out id)
      have N3 := Lib.hid ((Keep.of_below (S := fun _ => False) hb).blk N2.out id)
      have R3 := Lib.hid ((Keep.of_below (S := fun _ => False) hb).blk R2.out id)
      have HB3 := Lib.hid (HB2.out.trans (hb.mono (by omega)))
      have HS1 := Lib.hid hs1
      have HF1 := Lib.hid hf1
      have ct3 := blk_cells T3.out
      have ft3 := blk_frees T3.out
      have sz3 : w2.heap.size ≤ w3.heap.size := hb.size
      have l03 : w.heap.size < w3.heap.size := by omega
      clear hb hs1 hs2 hf1 hf2 ct2 ft2 ch2 c42 f42
      go_upto_region 4 with fail
      obtain ⟨V, hV⟩ : ∃ V, V = ((w3.setCell ⟨w.heap.size, 0, none⟩ (.int .i64 born)).setCell ⟨w.heap.size, 1, none⟩ (.slice K ks.length kc)).setCell ⟨w.heap.size, 2, none⟩ (.slice B qs.length d) := ⟨_, rfl⟩
      have KV : Keep (fun k => k = w.heap.size) w3 V := by rw [hV]; exact (((Keep.refl (fun k => k = w.heap.size) w3).setCell (fun _ => rfl) _).setCell (fun _ => rfl) _).setCell (fun _ => rfl) _
      have tv := blk_set (j := 2) (blk_set (j := 1) (blk_set (j := 0) T3.out (.int .i64 born)) (.slice K ks.length kc)) (.slice B qs.length d)
      rw [← hV] at tv ⊢
      have TV := Lib.hid tv
      have NV := Lib.hid (KV.blk N3.out (by omega))
      have RV := Lib.hid (KV.blk R3.out (by omega))
      have HBV := Lib.hid (HB3.out.trans (KV.below (B := w.heap.size) (fun i h => by omega) (by omega)))
      have SV := Lib.hid (HS1.out.keep KV (fun k e hx h => by have := HF1.out k (by rw [ownBlock_slice] at e; exact e); omega))
      have ctv := blk_cells tv
      have ftv := blk_frees tv
      have chv := blk_cells NV.out
      have c4v : ∀ j, V.cell? ⟨w.heap.size + 1 + 1, j, none⟩ = (#[.int .i64 0, .slice none 0 0, .slice none 0 0] : Array Value)[j]? := blk_cells RV.out
      have f4v : ∀ j, V.frozen? ⟨w.heap.size + 1 + 1, j, none⟩ = false := blk_frees RV.out
      have szv := KV.size
      have lv0 : w.heap.size < V.heap.size := by omega
      have lv4 : w.heap.size + 1 + 1 < V.heap.size := by omega
      clear hV KV tv ct3 ft3
      by_cases h0 : 0 < os.length
      · have h0' : (0 : Int) < (os.length : Int) := by omega
        go_wp2
        obtain ⟨kf, bf⟩ := stored2 (wr := V) (.int .i64 born) (.slice K ks.length kc) (.slice B qs.length d) RV.out
        obtain ⟨wf, hwf⟩ : ∃ wf, wf = (((V.setCell ⟨w.heap.size + 1 + 1, 0, none⟩ (.int .i64 born)).setCell ⟨w.heap.size + 1 + 1, 1, none⟩ (.slice K ks.length kc)).setCell ⟨w.heap.size + 1 + 1, 2, none⟩ (.slice B qs.length d)) := ⟨_, rfl⟩
        rw [← hwf] at kf bf ⊢
        have e0 := bf 0
        have e1 := bf 1
        have e2 := bf 2
        have HF := Lib.hid (show RecEnd born A B ls qs ls.length qs.length w (.returned (.tuple #[.agg #[.int .i64 born, .slice K ks.length kc, .slice B qs.length d], .bool false])) wf from ⟨K, kc, ks, B, d, qs, false, rfl, SV.out.keep kf (fun k e hx h => by have := HF1.out k (by rw [ownBlock_slice] at e; exact e); omega), sl_lt_keep H2.out (H2.out.below HBV.out) kf (fun k h => by omega), by omega, Nat.le_refl _, fun k e => .inr (by have := HF1.out k e; omega), fun k e => .inl ⟨e, rfl⟩, HBV.out.trans (kf.below (fun i h => by omega) (by omega))⟩)
        refine bodyPost_ret (by simp [results, Try.results17, go_sem, e0, e1, e2]; try rfl) rfl ?_
        exact HF.out
      · have h0' : (os.length : Int) = 0 := by omega
        have h0n : os.length = 0 := by omega
        have HGV := Lib.hid (rgive_walk born n g s m now K B ks qs kc d V SV.out (H2.out.below HBV.out) (by omega) hq)
        go_wp2_with fail
        refine HGV.out.mono ?_
        rintro e w5 ⟨K5, kc5, ks5, M5, mc5, ms5, rfl, hs5, hm5, hk5, hn5, hf5, hg5, hb⟩
        have R5 := Lib.hid ((Keep.of_below (S := fun _ => False) hb).blk RV.out id)
        have HB5 := Lib.hid (HBV.out.trans (hb.mono (by omega)))
        have HS5 := Lib.hid hs5
        have HM5 := Lib.hid hm5
        have HF5 := Lib.hid hf5
        have HG5 := Lib.hid hg5
        have c45 : ∀ j, w5.cell? ⟨w.heap.size + 1 + 1, j, none⟩ = (#[.int .i64 0, .slice none 0 0, .slice none 0 0] : Array Value)[j]? := blk_cells R5.out
        have f45 : ∀ j, w5.frozen? ⟨w.heap.size + 1 + 1, j, none⟩ = false := blk_frees R5.out
        have sz5 := hb.size
        have l45 : w.heap.size + 1 + 1 < w5.heap.size := by omega
        clear hb hs5 hm5 hf5 hg5 ctv ftv chv c4v f4v
        go_wp2
        obtain ⟨kf, bf⟩ := stored2 (wr := w5) (.int .i64 born) (.slice K5 ks5.length kc5) (.slice M5 ms5.length mc5) R5.out
        obtain ⟨wf, hwf⟩ : ∃ wf, wf = (((w5.setCell ⟨w.heap.size + 1 + 1, 0, none⟩ (.int .i64 born)).setCell ⟨w.heap.size + 1 + 1, 1, none⟩ (.slice K5 ks5.length kc5)).setCell ⟨w.heap.size + 1 + 1, 2, none⟩ (.slice M5 ms5.length mc5)) := ⟨_, rfl⟩
        rw [← hwf] at kf bf ⊢
        have e0 := bf 0
        have e1 := bf 1
        have e2 := bf 2
        have HF := Lib.hid (show RecEnd born A B ls qs ls.length qs.length w (.returned (.tuple #[.agg #[.int .i64 born, .slice K5 ks5.length kc5, .slice M5 ms5.length mc5], .bool true])) wf from ⟨K5, kc5, ks5, M5, mc5, ms5, true, rfl, HS5.out.keep kf (fun k e hx h => by have := HF5.out k (by rw [ownBlock_slice] at e; exact e); omega), HM5.out.keep kf (fun k e hx h => by have := HG5.out k (by rw [ownBlock_slice] at e; exact e); omega), by omega, by omega, fun k e => .inr (by have := HF5.out k e; omega), fun k e => .inr (by have := HG5.out k e; omega), HB5.out.trans (kf.below (fun i h => by omega) (by omega))⟩)
        refine bodyPost_ret (by simp [results, Try.results17, go_sem, e0, e1, e2]; try rfl) rfl ?_
        exact HF.out
end Go.Proofs.Ytmfgkddndlleoaa
