/- The document's answer for leases: Release. -/
import Derived.Test.YtmfgkddndlleoaaRefL2
import Derived.Test.YtmfgkddndlleoaaLeaseS
import Derived.Deep.QuietTactic
import Derived.BigQuiet
import Derived.Handy
import Derived.Deep.CutBlock
set_option linter.unusedSimpArgs false
set_option linter.unusedVariables false
namespace Go.Proofs.Ytmfgkddndlleoaa
open Go.RowKit

/-- A row of one's own, made anew. -/
def Fr (base : Nat) (wr : World) (T : TypeId) (v : Value) (ks : List LE) : Prop := ∃ K c, v = .slice K ks.length c ∧ wr.ownsRow 0 T 5 (.slice K ks.length c) ks.length (flat ks) ∧ ∀ k, K.map (·.block) = some k → base ≤ k
theorem Fr.keep {base : Nat} {w w' : World} {T : TypeId} {v : Value} {ks : List LE} {S : Nat → Prop} (h : Fr base w T v ks) (hk : Keep S w w') (hS : ∀ k, base ≤ k → k < w.heap.size → ¬ S k) : Fr base w' T v ks := by
  obtain ⟨K, c, hv, ho, hb⟩ := h
  exact ⟨K, c, hv, own_keep ho hk (fun k e => hS k (hb k (by rw [ownBlock_slice] at e; exact e)) (own_lt ho e)), hb⟩
theorem Fr.same {base : Nat} {w w' : World} {T : TypeId} {v : Value} {ks : List LE} (h : Fr base w T v ks) (hk : Keep (fun _ => False) w w') : Fr base w' T v ks := h.keep hk (fun _ _ _ h => h)
theorem Fr.new (w : World) (base : Nat) (T : TypeId) (h : base ≤ w.heap.size) : Fr base (w.alloc (.cells #[] T)) T (.slice (some ⟨w.heap.size, 0, none⟩) 0 0) [] :=
  ⟨_, 0, rfl, own_new w #[] T 5 0 rfl (by decide), fun k e => by injection e with e; subst e; exact h⟩
theorem Fr.sl {base : Nat} {w : World} {T : TypeId} {K : Option Addr} {n c : Nat} {ks : List LE} (h : Fr base w T (.slice K n c) ks) : n = ks.length ∧ Sl w 5 (.slice K ks.length c) ks.length (flat ks) := by
  obtain ⟨K', c', hv, ho, _⟩ := h
  injection hv with e1 e2 e3
  subst e1 e2 e3
  exact ⟨rfl, Sl.of_own ho⟩
/-- Behind an append of one element. -/
theorem Fr.app {base : Nat} {w1 w2 : World} {T : TypeId} {K A2 : Option Addr} {c c2 : Nat} {ks : List LE} {x : LE} {o : Obj} (hb : ∀ k, K.map (·.block) = some k → base ≤ k) (hw : base ≤ w1.heap.size)
    (g1 : w2.ownsRow 0 T 5 (.slice A2 (ks.length + 1) c2) (ks.length + 1) (flat ks ++ x.cells)) (g2 : Keep (fun k => (Value.slice K ks.length c).ownBlock = some k) (w1.alloc o) w2)
    (g3 : (Value.slice A2 (ks.length + 1) c2).ownBlock = (Value.slice K ks.length c).ownBlock ∨ (Value.slice A2 (ks.length + 1) c2).ownBlock = some (w1.heap.size + 1)) :
    Fr base w2 T (.slice A2 (ks.length + 1) c2) (ks ++ [x]) ∧ Keep (fun k => base ≤ k) w1 w2 := by
  have hlen : (ks ++ [x]).length = ks.length + 1 := by simp
  refine ⟨⟨A2, c2, by rw [hlen], by rw [hlen, flat_snoc]; exact g1, fun k e => ?_⟩, ((Keep.refl (fun k => base ≤ k) w1).alloc o).trans g2 (fun i _ e => hb i (by rw [ownBlock_slice] at e; exact e))⟩
  rcases g3 with e3 | e3
  · rw [ownBlock_slice, ownBlock_slice, e] at e3
    exact hb k e3.symm
  · rw [ownBlock_slice, e] at e3
    injection e3 with e3
    omega
def box3 (w : World) (born n g : Int) (A B : Option Addr) (c d nl nq : Nat) : World :=
  ((w.alloc (.cells #[.int .i64 born, .slice A nl c, .slice B nq d] 29)).alloc (.cells #[.int .i64 n, .int .i64 g] 34)).alloc (.cells #[.int .i64 0, .slice none 0 0, .slice none 0 0] 29)
theorem box3_fact (w : World) (born n g : Int) (A B : Option Addr) (c d nl nq : Nat) :
    Below w.heap.size w (box3 w born n g A B c d nl nq) ∧ (box3 w born n g A B c d nl nq).heap.size = w.heap.size + 3 ∧ Boxes (box3 w born n g A B c d nl nq) w.heap.size (w.heap.size + 1) n g born A B c d nl nq ∧
    (box3 w born n g A B c d nl nq).heap[w.heap.size + 2]? = some (.cells #[.int .i64 0, .slice none 0 0, .slice none 0 0] 29 (0, 0)) := by
  unfold box3
  have a1 := blk_new w (.cells #[.int .i64 born, .slice A nl c, .slice B nq d] 29)
  have k1 := (Keep.refl (fun _ => False) w).alloc (.cells #[.int .i64 born, .slice A nl c, .slice B nq d] 29)
  generalize hw1 : w.alloc (.cells #[.int .i64 born, .slice A nl c, .slice B nq d] 29) = v1 at *
  have z1 : v1.heap.size = w.heap.size + 1 := by subst hw1; simp
  have a2 := blk_new v1 (.cells #[.int .i64 n, .int .i64 g] 34)
  have b1 := blk_old a1 (.cells #[.int .i64 n, .int .i64 g] 34)
  have k2 := k1.alloc (.cells #[.int .i64 n, .int .i64 g] 34)
  generalize hw2 : v1.alloc (.cells #[.int .i64 n, .int .i64 g] 34) = v2 at *
  have z2 : v2.heap.size = w.heap.size + 2 := by subst hw2; simp; omega
  have a3 := blk_new v2 (.cells #[.int .i64 0, .slice none 0 0, .slice none 0 0] 29)
  have c1 := blk_old b1 (.cells #[.int .i64 0, .slice none 0 0, .slice none 0 0] 29)
  have c2 := blk_old a2 (.cells #[.int .i64 0, .slice none 0 0, .slice none 0 0] 29)
  rw [z1] at c2
  rw [z2] at a3
  exact ⟨(k2.alloc _).to_below, by simp; omega, ⟨c1, c2⟩, a3⟩
/-- The table's variable, and the result's, behind the stores at a return. -/
theorem stored3 {wr : World} {k : Nat} {v0 v1 v2 : Value} {T : TypeId} (u x0 x1 x2 : Value) (h : wr.heap[k + 2]? = some (.cells #[v0, v1, v2] T (0, 0))) :
    Keep (fun i => k ≤ i ∧ i < k + 3) wr ((((wr.setCell ⟨k, 1, none⟩ u).setCell ⟨k + 1 + 1, 0, none⟩ x0).setCell ⟨k + 1 + 1, 1, none⟩ x1).setCell ⟨k + 1 + 1, 2, none⟩ x2) ∧
    ∀ j, ((((wr.setCell ⟨k, 1, none⟩ u).setCell ⟨k + 1 + 1, 0, none⟩ x0).setCell ⟨k + 1 + 1, 1, none⟩ x1).setCell ⟨k + 1 + 1, 2, none⟩ x2).cell? ⟨k + 1 + 1, j, none⟩ = (#[x0, x1, x2] : Array Value)[j]? := by
  refine ⟨((((Keep.refl (fun i => k ≤ i ∧ i < k + 3) wr).setCell (fun _ => by show k ≤ k ∧ k < k + 3; omega) _).setCell (fun _ => by show k ≤ k + 1 + 1 ∧ k + 1 + 1 < k + 3; omega) _).setCell (fun _ => by show k ≤ k + 1 + 1 ∧ k + 1 + 1 < k + 3; omega) _).setCell (fun _ => by show k ≤ k + 1 + 1 ∧ k + 1 + 1 < k + 3; omega) _, ?_⟩
  have h1 : (wr.setCell ⟨k, 1, none⟩ u).heap[k + 1 + 1]? = some (.cells #[v0, v1, v2] T (0, 0)) := (blk_set_ne u (show k + 1 + 1 ≠ k by omega)).trans h
  have h2 := blk_set (j := 2) (blk_set (j := 1) (blk_set (j := 0) h1 x0) x1) x2
  exact blk_cells h2
def RelInv (base nl : Nat) (w0 : World) (vk vi : Value) (wr : World) : Prop := ∃ (i : Nat) (ks : List LE), i ≤ nl ∧ vi = .int .i64 (i : Int) ∧ Fr base wr 39 vk ks ∧ ks.length ≤ i ∧ Keep (fun k => base ≤ k) w0 wr
/-- How Release ends. -/
def RelEnd (born : Int) (B : Option Addr) (d nl nq : Nat) (w : World) (e : Ending) (w' : World) : Prop :=
  ∃ K kc ks b, e = .returned (.tuple #[.agg #[.int .i64 born, .slice K ks.length kc, .slice B nq d], .bool b]) ∧ Sl w' 5 (.slice K ks.length kc) ks.length (flat ks) ∧ ks.length ≤ nl ∧ (∀ k, K.map (·.block) = some k → w.heap.size ≤ k) ∧ Below w.heap.size w w'
set_option maxRecDepth 100000 in
set_option maxHeartbeats 4000000 in
theorem rrelease_walk (born n g s : Int) (A B : Option Addr) (ls : List LE) (c d nq : Nat) (w : World) (h1 : Sl w 5 (.slice A ls.length c) ls.length (flat ls)) (hf : ls.length ≤ 1000000) :
    Calls Try.prog 19 #[.agg #[.int .i64 born, .slice A ls.length c, .slice B nq d], .agg #[.int .i64 n, .int .i64 g], .int .i64 s] w (RelEnd born B d ls.length nq w) := by
  obtain ⟨w0, hw0⟩ : ∃ w0, w0 = box3 w born n g A B c d ls.length nq := ⟨_, rfl⟩
  obtain ⟨q1, q2, q3, q4⟩ := box3_fact w born n g A B c d ls.length nq
  rw [← hw0] at q1 q2 q3 q4
  unfold box3 at hw0
  have HW0 := Lib.hid hw0
  have Q1 := Lib.hid q1
  have Q3 := Lib.hid q3
  have Q4 := Lib.hid q4
  have H1 := Lib.hid (h1.below q1)
  clear h1 hw0 q1 q3 q4
  go_enter Try.func19, Try.ntmps19
  go_upto_region 1 with fail
  rw [← HW0.out]
  go_wp2
  go_loopw [8, 9] (fun vk vi wr => RelInv (w.heap.size + 3) ls.length w0 vk vi wr) (fun _ v _ => ls.length - (intOf v).toNat)
  case atStart => exact ⟨0, [], Nat.zero_le _, rfl, by have := Fr.new w0 (w.heap.size + 3) 39 (by omega); rw [q2] at this; exact this, Nat.le_refl _, (Keep.refl _ w0).alloc _⟩
  case round =>
    obtain ⟨i, ks, hi, rfl, hfr, hks, hk⟩ := hrel
    have HK := Lib.hid hk
    have X := Lib.hid (Q3.out.keep hk (by omega) (by omega))
    have X4 := Lib.hid (hk.blk Q4.out (by omega))
    have ct := blk_cells X.out.tab
    have ch := blk_cells X.out.hnd
    have sz := hk.size
    have ft := blk_frees X.out.tab
    have c4 : ∀ j, wr.cell? ⟨w.heap.size + 1 + 1, j, none⟩ = (#[.int .i64 0, .slice none 0 0, .slice none 0 0] : Array Value)[j]? := blk_cells X4.out
    have f4 : ∀ j, wr.frozen? ⟨w.heap.size + 1 + 1, j, none⟩ = false := blk_frees X4.out
    have l4 : w.heap.size + 1 + 1 < wr.heap.size := by omega
    have HS := Lib.hid (H1.out.keep hk (fun k e hx h => by have := H1.out.lt e hx; omega))
    obtain ⟨K, kc, rfl, hown, hKb⟩ := hfr
    have HO := Lib.hid hown
    have HKb := Lib.hid hKb
    clear hk hown hKb
    by_cases hlt : i < ls.length
    · obtain ⟨x, hx⟩ : ∃ x, ls[i]? = some x := ⟨ls[i], List.getElem?_eq_getElem hlt⟩
      have b1 : (0 : Int) ≤ (i : Int) := by omega
      have b2 : (i : Int) < (ls.length : Int) := by omega
      obtain ⟨b, off, rfl, _, r0, r1, r2, r3, r4⟩ := flat_row HS.out hx
      clear hx
      go_upto_if 36 with fail
      go_cut [36] (fun v wx => (∃ t, v = .bool t) ∧ ∃ m, wx = wr.drewN m)
      case first =>
        by_cases e1 : x.n = n
        · by_cases e2 : x.g = g
          · subst e1 e2
            by_cases e3 : x.s = s
            · subst e3
              go_wp2
              go_quiet (fail)
              go_wp2
              go_meet
              case rel => exact ⟨⟨_, rfl⟩, _, rfl⟩
            · have f3 : (x.s == s) = false := beq_eq_false_iff_ne.2 e3
              go_wp2
              go_quiet (fail)
              go_wp2
              go_meet
              case rel => exact ⟨⟨_, rfl⟩, _, rfl⟩
          · have f2 : (x.g == g) = false := beq_eq_false_iff_ne.2 e2
            go_wp2
            go_quiet (fail)
            go_wp2
            go_meet
            case rel => exact ⟨⟨_, rfl⟩, _, rfl⟩
        · have f1 : (x.n == n) = false := beq_eq_false_iff_ne.2 e1
          go_wp2
          go_quiet (fail)
          go_wp2
          go_meet
          case rel => exact ⟨⟨_, rfl⟩, _, rfl⟩
      case rest =>
        obtain ⟨⟨t, rfl⟩, m, hwx⟩ := hcut
        have k2 : Keep (fun _ => False) wr wc := by rw [hwx]; exact (Keep.refl _ wr).drewN m
        have X2 := Lib.hid (X.out.keep k2 id id)
        have ct2 := blk_cells X2.out.tab
        have s0 := k2.cell r0 id
        have s1 := k2.cell r1 id
        have s2 := k2.cell r2 id
        have s3 := k2.cell r3 id
        have s4 := k2.cell r4 id
        have HO2 := Lib.hid (own_keep HO.out k2 (fun _ _ h => h))
        have HK2 := Lib.hid (HK.out.trans k2 (fun _ _ h => h.elim))
        have sz2 := k2.size
        clear hwx k2 r0 r1 r2 r3 r4 ct ch ft c4 f4
        cases t with
        | false =>
          go_wp2
          go_roundw
          case rel => exact ⟨i + 1, ks, by omega, by go_num, ⟨K, kc, rfl, HO2.out, HKb.out⟩, by omega, HK2.out⟩
          case measure => simp [intOf]; omega
        | true =>
          go_wp2_with (at_builtin; go_must (refine wpList_app rfl eltL rfl rfl rfl (n := ks.length) (m := 1) (own_keep HO2.out ((Keep.refl (fun _ => False) _).alloc _) (fun _ _ h => h)) (Sl.of_own (own_new wc #[.int .i64 x.n, .int .i64 x.g, .int .i64 x.s, .int .i64 x.m, .int .i64 x.x] 39 5 1 rfl (by decide))) (by simp [Value.oneCell']) (by omega) (by simp only [maxLen]; omega) ?_))
          intro v2 w3 g1 g2 g3 _
          obtain ⟨A2, c2, rfl, _⟩ := Rd.of_own g1
          have HA := Lib.hid (Fr.app (x := x) HKb.out (by omega) g1 g2 (by first | exact g3 | simpa using g3))
          clear g1 g2 g3
          go_wp2
          go_roundw
          case rel => exact ⟨i + 1, ks ++ [x], by omega, by go_num, HA.out.1, by simp; omega, HK2.out.trans HA.out.2 (fun _ _ h => h)⟩
          case measure => simp [intOf]; omega
    · obtain rfl : i = ls.length := by omega
      go_wp2
      obtain ⟨wf, hwf⟩ : ∃ wf, wf = (((wr.setCell ⟨w.heap.size, 1, none⟩ (.slice K ks.length kc)).setCell ⟨w.heap.size + 1 + 1, 0, none⟩ (.int .i64 born)).setCell ⟨w.heap.size + 1 + 1, 1, none⟩ (.slice K ks.length kc)).setCell ⟨w.heap.size + 1 + 1, 2, none⟩ (.slice B nq d) := ⟨_, rfl⟩
      obtain ⟨kf, bf⟩ := stored3 (.slice K ks.length kc) (.int .i64 born) (.slice K ks.length kc) (.slice B nq d) X4.out
      rw [← hwf] at kf bf ⊢
      have e0 := bf 0
      have e1 := bf 1
      have e2 := bf 2
      have HF : Hid (RelEnd born B d ls.length nq w (.returned (.tuple #[.agg #[.int .i64 born, .slice K ks.length kc, .slice B nq d], .bool (decide (ks.length < ls.length))])) wf) := Lib.hid ⟨K, kc, ks, _, rfl, Sl.of_own (own_keep HO.out kf (fun k e h => by have := HKb.out k (by rw [ownBlock_slice] at e; exact e); omega)), by omega, (fun k e => by have := HKb.out k e; omega),
        (Q1.out.trans (HK.out.below (fun i h => by omega) (by omega))).trans (kf.below (fun i h => h.1) (by omega))⟩
      refine bodyPost_ret (by simp [results, Try.results19, go_sem, e0, e1, e2]; try rfl) rfl ?_
      exact HF.out
end Go.Proofs.Ytmfgkddndlleoaa
