/- The document's answer for leases: Leave. -/
import Derived.Test.YtmfgkddndlleoaaRefL5
import Derived.Handy
set_option linter.unusedSimpArgs false
set_option linter.unusedVariables false
namespace Go.Proofs.Ytmfgkddndlleoaa
open Go.RowKit

theorem Fr.keepOwn {base : Nat} {w w' : World} {T : TypeId} {v : Value} {ks : List LE} {S : Nat → Prop} (h : Fr base w T v ks) (hk : Keep S w w') (hS : ∀ k, v.ownBlock = some k → ¬ S k) : Fr base w' T v ks := by
  obtain ⟨K, c, rfl, ho, hb⟩ := h
  exact ⟨K, c, rfl, own_keep ho hk hS, hb⟩
theorem Fr.ne {base : Nat} {w : World} {T U : TypeId} {v : Value} {ks ms : List LE} {K : Option Addr} {c : Nat} (h : Fr base w T v ks) (h' : w.ownsRow 0 U 5 (.slice K ms.length c) ms.length (flat ms)) (hn : T ≠ U) {k : Nat} (e : v.ownBlock = some k) : ¬ (Value.slice K ms.length c).ownBlock = some k := by
  obtain ⟨K', c', rfl, ho, hb⟩ := h
  exact own_ne ho h' hn e
/-- How Leave ends. -/
def LvEnd (born : Int) (nl nq : Nat) (w : World) (e : Ending) (w' : World) : Prop :=
  ∃ K kc ks M mc ms, e = .returned (.agg #[.int .i64 born, .slice K (List.length ks) kc, .slice M (List.length ms) mc]) ∧ Sl w' 5 (.slice K ks.length kc) ks.length (flat ks) ∧ Sl w' 5 (.slice M ms.length mc) ms.length (flat ms) ∧ ks.length ≤ nl ∧ ms.length ≤ nq ∧ (∀ k, K.map (·.block) = some k → w.heap.size ≤ k) ∧ (∀ k, M.map (·.block) = some k → w.heap.size ≤ k) ∧ Below w.heap.size w w'
def box2 (w : World) (born : Int) (A B : Option Addr) (c d nl nq : Nat) : World :=
  (w.alloc (.cells #[.int .i64 born, .slice A nl c, .slice B nq d] 29)).alloc (.cells #[.int .i64 0, .slice none 0 0, .slice none 0 0] 29)
theorem box2_fact (w : World) (born : Int) (A B : Option Addr) (c d nl nq : Nat) :
    Below w.heap.size w (box2 w born A B c d nl nq) ∧ (box2 w born A B c d nl nq).heap.size = w.heap.size + 2 ∧ (box2 w born A B c d nl nq).heap[w.heap.size]? = some (.cells #[.int .i64 born, .slice A nl c, .slice B nq d] 29 (0, 0)) ∧
    (box2 w born A B c d nl nq).heap[w.heap.size + 1]? = some (.cells #[.int .i64 0, .slice none 0 0, .slice none 0 0] 29 (0, 0)) := by
  unfold box2
  have a1 := blk_new w (.cells #[.int .i64 born, .slice A nl c, .slice B nq d] 29)
  have k1 := (Keep.refl (fun _ => False) w).alloc (.cells #[.int .i64 born, .slice A nl c, .slice B nq d] 29)
  generalize hw1 : w.alloc (.cells #[.int .i64 born, .slice A nl c, .slice B nq d] 29) = v1 at *
  have z1 : v1.heap.size = w.heap.size + 1 := by subst hw1; simp
  have a2 := blk_new v1 (.cells #[.int .i64 0, .slice none 0 0, .slice none 0 0] 29)
  have b1 := blk_old a1 (.cells #[.int .i64 0, .slice none 0 0, .slice none 0 0] 29)
  rw [z1] at a2
  exact ⟨(k1.alloc _).to_below, by simp; omega, b1, a2⟩
def LvInv (base nl : Nat) (T U : TypeId) (w0 : World) (other : Value) (ms : List LE) (vk vi : Value) (wr : World) : Prop := ∃ (i : Nat) (ks : List LE), i ≤ nl ∧ vi = .int .i64 (i : Int) ∧ Fr base wr T vk ks ∧ Fr base wr U other ms ∧ ks.length ≤ i ∧ Keep (fun k => base ≤ k) w0 wr
theorem stored4 {wr : World} {k : Nat} {v0 v1 v2 : Value} {T : TypeId} (u1 u2 x0 x1 x2 : Value) (h : wr.heap[k + 1]? = some (.cells #[v0, v1, v2] T (0, 0))) :
    Keep (fun i => k ≤ i ∧ i < k + 2) wr (((((wr.setCell ⟨k, 1, none⟩ u1).setCell ⟨k, 2, none⟩ u2).setCell ⟨k + 1, 0, none⟩ x0).setCell ⟨k + 1, 1, none⟩ x1).setCell ⟨k + 1, 2, none⟩ x2) ∧
    ∀ j, (((((wr.setCell ⟨k, 1, none⟩ u1).setCell ⟨k, 2, none⟩ u2).setCell ⟨k + 1, 0, none⟩ x0).setCell ⟨k + 1, 1, none⟩ x1).setCell ⟨k + 1, 2, none⟩ x2).cell? ⟨k + 1, j, none⟩ = (#[x0, x1, x2] : Array Value)[j]? := by
  refine ⟨(((((Keep.refl (fun i => k ≤ i ∧ i < k + 2) wr).setCell (fun _ => by show k ≤ k ∧ k < k + 2; omega) _).setCell (fun _ => by show k ≤ k ∧ k < k + 2; omega) _).setCell (fun _ => by show k ≤ k + 1 ∧ k + 1 < k + 2; omega) _).setCell (fun _ => by show k ≤ k + 1 ∧ k + 1 < k + 2; omega) _).setCell (fun _ => by show k ≤ k + 1 ∧ k + 1 < k + 2; omega) _, ?_⟩
  have h1 : ((wr.setCell ⟨k, 1, none⟩ u1).setCell ⟨k, 2, none⟩ u2).heap[k + 1]? = some (.cells #[v0, v1, v2] T (0, 0)) := (blk_set_ne u2 (show k + 1 ≠ k by omega)).trans ((blk_set_ne u1 (show k + 1 ≠ k by omega)).trans h)
  exact blk_cells (blk_set (j := 2) (blk_set (j := 1) (blk_set (j := 0) h1 x0) x1) x2)
set_option maxRecDepth 100000 in
set_option maxHeartbeats 4000000 in
theorem rleave_walk (born s : Int) (A B : Option Addr) (ls qs : List LE) (c d : Nat) (w : World) (h1 : Sl w 5 (.slice A ls.length c) ls.length (flat ls)) (h2 : Sl w 5 (.slice B qs.length d) qs.length (flat qs)) (hf : ls.length ≤ 1000000) (hq : qs.length ≤ 1000000) :
    Calls Try.prog 21 #[.agg #[.int .i64 born, .slice A ls.length c, .slice B qs.length d], .int .i64 s] w (LvEnd born ls.length qs.length w) := by
  obtain ⟨w0, hw0⟩ : ∃ w0, w0 = box2 w born A B c d ls.length qs.length := ⟨_, rfl⟩
  obtain ⟨q1, q2, q3, q4⟩ := box2_fact w born A B c d ls.length qs.length
  rw [← hw0] at q1 q2 q3 q4
  unfold box2 at hw0
  have HW0 := Lib.hid hw0
  have Q1 := Lib.hid q1
  have Q3 := Lib.hid q3
  have Q4 := Lib.hid q4
  have H1 := Lib.hid h1
  have H2 := Lib.hid h2
  clear h1 h2 hw0 q1 q3 q4
  go_enter Try.func21, Try.ntmps21
  go_upto_region 1 with fail
  rw [← HW0.out]
  go_wp2
  go_loopw [5, 7] (fun vk vi wr => LvInv (w.heap.size + 2) ls.length 39 72 w0 (.slice (some ⟨w.heap.size + 2 + 1, 0, none⟩) 0 0) [] vk vi wr) (fun _ v _ => ls.length - (intOf v).toNat)
  case atStart =>
    refine ⟨0, [], Nat.zero_le _, rfl, ?_, ?_, Nat.le_refl _, ((Keep.refl _ w0).alloc _).alloc _⟩
    · have := (Fr.new w0 (w.heap.size + 2) 39 (by omega)).same ((Keep.refl (fun _ => False) _).alloc (.cells #[] 72))
      rw [q2] at this; exact this
    · have := Fr.new (w0.alloc (.cells #[] 39)) (w.heap.size + 2) 72 (by simp; omega)
      simpa [q2] using this
  case round =>
    obtain ⟨i, ks, hi, rfl, hfr, hfo, hks, hk⟩ := hrel
    have HK := Lib.hid hk
    have HP := Lib.hid hfo
    have X := Lib.hid (hk.blk Q3.out (by omega))
    have X4 := Lib.hid (hk.blk Q4.out (by omega))
    have ct := blk_cells X.out
    have sz := hk.size
    have HBr := Lib.hid (Q1.out.trans (hk.below (B := w.heap.size) (fun i h => by omega) (by omega)))
    have HS := Lib.hid (H1.out.below HBr.out)
    obtain ⟨K, kc, rfl, hown, hKb⟩ := hfr
    have HO := Lib.hid hown
    have HKb := Lib.hid hKb
    clear hk hown hKb hfo
    by_cases hlt : i < ls.length
    · skip
      obtain ⟨x, hx⟩ : ∃ x, ls[i]? = some x := ⟨ls[i], List.getElem?_eq_getElem hlt⟩
      have b1 : (0 : Int) ≤ (i : Int) := by omega
      have b2 : (i : Int) < (ls.length : Int) := by omega
      obtain ⟨b, off, rfl, _, r0, r1, r2, r3, r4⟩ := flat_row HS.out hx
      clear hx
      by_cases e3 : x.s = s
      · subst e3
        go_wp2
        go_roundw
        case rel => exact ⟨i + 1, ks, by omega, by go_num, ⟨K, kc, rfl, HO.out, HKb.out⟩, HP.out, by omega, HK.out⟩
        case measure => simp [intOf]; omega
      · have f3 : (x.s == s) = false := beq_eq_false_iff_ne.2 e3
        go_wp2_with (at_builtin; go_must (refine wpList_app rfl eltL rfl rfl rfl (n := ks.length) (m := 1) (own_keep HO.out ((Keep.refl (fun _ => False) _).alloc _) (fun _ _ h => h)) (Sl.of_own (own_new wr #[.int .i64 x.n, .int .i64 x.g, .int .i64 x.s, .int .i64 x.m, .int .i64 x.x] 39 5 1 rfl (by decide))) (by simp [Value.oneCell']) (by omega) (by simp only [maxLen]; omega) ?_))
        intro v2 w3 g1 g2 g3 _
        obtain ⟨A2, c2, rfl, _⟩ := Rd.of_own g1
        have k3 : Keep (fun k => (Value.slice K ks.length kc).ownBlock = some k) wr w3 := ((Keep.refl _ wr).alloc _).trans g2 (fun _ _ h => h)
        have HA := Lib.hid (Fr.app (x := x) (base := w.heap.size + 2) HKb.out (by omega) g1 g2 (by first | exact g3 | simpa using g3))
        have HP3 := Lib.hid (HP.out.keepOwn k3 (fun k e h => Fr.ne HP.out HO.out (by decide) e h))
        clear g1 g2 g3 k3
        go_wp2
        go_roundw
        case rel => exact ⟨i + 1, ks ++ [x], by omega, by go_num, HA.out.1, HP3.out, by simp; omega, HK.out.trans HA.out.2 (fun _ _ h => h)⟩
        case measure => simp [intOf]; omega
    · obtain rfl : i = ls.length := by omega
      have HPK := Lib.hid (⟨K, kc, rfl, HO.out, HKb.out⟩ : Fr (w.heap.size + 2) wr 39 (.slice K ks.length kc) ks)
      obtain ⟨K1, hK1⟩ : ∃ K1, K1 = K := ⟨_, rfl⟩
      rw [← hK1] at HPK ⊢
      clear hK1
      obtain ⟨kl, hkl⟩ : ∃ kl, kl = ks := ⟨_, rfl⟩
      rw [← hkl] at HPK ⊢
      have hks1 : kl.length ≤ ls.length := by rw [hkl]; exact hks
      clear hkl hks
      obtain ⟨kc1, hkc1⟩ : ∃ kc1, kc1 = kc := ⟨_, rfl⟩
      rw [← hkc1] at HPK ⊢
      clear hkc1 HO HKb
      go_wp2
      go_loopw [6, 8] (fun vk vi wr => LvInv (w.heap.size + 2) qs.length 72 39 w0 (.slice K1 kl.length kc1) kl vk vi wr) (fun _ v _ => qs.length - (intOf v).toNat)
      case atStart => exact ⟨0, [], Nat.zero_le _, rfl, HP.out, HPK.out, Nat.le_refl _, HK.out⟩
      case round =>
        obtain ⟨i, ks, hi, rfl, hfr, hfo, hks, hk⟩ := hrel
        have HK := Lib.hid hk
        have HP := Lib.hid hfo
        have X := Lib.hid (hk.blk Q3.out (by omega))
        have X4 := Lib.hid (hk.blk Q4.out (by omega))
        have ct := blk_cells X.out
        have ft := blk_frees X.out
        have sz := hk.size
        have c4 : ∀ j, wr.cell? ⟨w.heap.size + 1, j, none⟩ = (#[.int .i64 0, .slice none 0 0, .slice none 0 0] : Array Value)[j]? := blk_cells X4.out
        have f4 : ∀ j, wr.frozen? ⟨w.heap.size + 1, j, none⟩ = false := blk_frees X4.out
        have l4 : w.heap.size + 1 < wr.heap.size := by omega
        have l0 : w.heap.size < wr.heap.size := by omega
        have HBr := Lib.hid (Q1.out.trans (hk.below (B := w.heap.size) (fun i h => by omega) (by omega)))
        have HS := Lib.hid (H2.out.below HBr.out)
        obtain ⟨K, kc, rfl, hown, hKb⟩ := hfr
        have HO := Lib.hid hown
        have HKb := Lib.hid hKb
        clear hk hown hKb hfo
        by_cases hlt : i < qs.length
        · skip
          obtain ⟨x, hx⟩ : ∃ x, qs[i]? = some x := ⟨qs[i], List.getElem?_eq_getElem hlt⟩
          have b1 : (0 : Int) ≤ (i : Int) := by omega
          have b2 : (i : Int) < (qs.length : Int) := by omega
          obtain ⟨b, off, rfl, _, r0, r1, r2, r3, r4⟩ := flat_row HS.out hx
          clear hx
          by_cases e3 : x.s = s
          · subst e3
            go_wp2
            go_roundw
            case rel => exact ⟨i + 1, ks, by omega, by go_num, ⟨K, kc, rfl, HO.out, HKb.out⟩, HP.out, by omega, HK.out⟩
            case measure => simp [intOf]; omega
          · have f3 : (x.s == s) = false := beq_eq_false_iff_ne.2 e3
            go_wp2_with (at_builtin; go_must (refine wpList_app rfl eltR rfl rfl rfl (n := ks.length) (m := 1) (own_keep HO.out ((Keep.refl (fun _ => False) _).alloc _) (fun _ _ h => h)) (Sl.of_own (own_new wr #[.int .i64 x.n, .int .i64 x.g, .int .i64 x.s, .int .i64 x.m, .int .i64 x.x] 72 5 1 rfl (by decide))) (by simp [Value.oneCell']) (by omega) (by simp only [maxLen]; omega) ?_))
            intro v2 w3 g1 g2 g3 _
            obtain ⟨A2, c2, rfl, _⟩ := Rd.of_own g1
            have k3 : Keep (fun k => (Value.slice K ks.length kc).ownBlock = some k) wr w3 := ((Keep.refl _ wr).alloc _).trans g2 (fun _ _ h => h)
            have HA := Lib.hid (Fr.app (x := x) (base := w.heap.size + 2) HKb.out (by omega) g1 g2 (by first | exact g3 | simpa using g3))
            have HP3 := Lib.hid (HP.out.keepOwn k3 (fun k e h => Fr.ne HP.out HO.out (by decide) e h))
            clear g1 g2 g3 k3
            go_wp2
            go_roundw
            case rel => exact ⟨i + 1, ks ++ [x], by omega, by go_num, HA.out.1, HP3.out, by simp; omega, HK.out.trans HA.out.2 (fun _ _ h => h)⟩
            case measure => simp [intOf]; omega
        · obtain rfl : i = qs.length := by omega
          obtain ⟨K2, kc2, e2, o2, b2⟩ := HP.out
          injection e2 with e21 e22 e23
          subst e21 e23
          have OK2 := Lib.hid o2
          have BK2 := Lib.hid b2
          clear o2 b2 e22
          go_wp2
          obtain ⟨kf, bf⟩ := stored4 (.slice K1 kl.length kc1) (.slice K ks.length kc) (.int .i64 born) (.slice K1 kl.length kc1) (.slice K ks.length kc) X4.out
          obtain ⟨wf, hwf⟩ : ∃ wf, wf = (((((wr.setCell ⟨w.heap.size, 1, none⟩ (.slice K1 kl.length kc1)).setCell ⟨w.heap.size, 2, none⟩ (.slice K ks.length kc)).setCell ⟨w.heap.size + 1, 0, none⟩ (.int .i64 born)).setCell ⟨w.heap.size + 1, 1, none⟩ (.slice K1 kl.length kc1)).setCell ⟨w.heap.size + 1, 2, none⟩ (.slice K ks.length kc)) := ⟨_, rfl⟩
          rw [← hwf] at kf bf ⊢
          have e0 := bf 0
          have e1 := bf 1
          have e2 := bf 2
          have HF := Lib.hid (show LvEnd born ls.length qs.length w (.returned (.agg #[.int .i64 born, .slice K1 kl.length kc1, .slice K ks.length kc])) wf from ⟨K1, kc1, kl, K, kc, ks, rfl, Sl.of_own (own_keep OK2.out kf (fun k e h => by have := BK2.out k (by rw [ownBlock_slice] at e; exact e); omega)), Sl.of_own (own_keep HO.out kf (fun k e h => by have := HKb.out k (by rw [ownBlock_slice] at e; exact e); omega)), hks1, hks, fun k e => by have := BK2.out k e; omega, fun k e => by have := HKb.out k e; omega, HBr.out.trans (kf.below (fun i h => h.1) (by omega))⟩)
          refine bodyPost_ret (by simp [results, Try.results21, go_sem, e0, e1, e2]; try rfl) rfl ?_
          exact HF.out
end Go.Proofs.Ytmfgkddndlleoaa
