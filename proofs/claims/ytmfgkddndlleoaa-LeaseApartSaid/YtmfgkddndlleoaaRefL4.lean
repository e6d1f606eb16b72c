/- The document's answer for leases: ways. -/
import Derived.Test.YtmfgkddndlleoaaRefL3
import Derived.Deep.QuietTactic
import Derived.BigQuiet
import Derived.Handy
import Derived.Deep.CutBlock
import Derived.Deep.RegionHeld3
import Derived.Deep.RegionLaw
import Derived.Deep.DrawnRows
set_option linter.unusedSimpArgs false
set_option linter.unusedVariables false
namespace Go.Proofs.Ytmfgkddndlleoaa
open Go.RowKit

theorem ints_one (l : List Int) : ∀ u ∈ ints l, u.oneCell' = true := by
  intro u hu
  obtain ⟨n, _, rfl⟩ := List.mem_map.1 hu
  rfl
/-- A row of numbers of one's own, made anew. -/
def FrI (base : Nat) (wr : World) (v : Value) (os : List Int) : Prop := ∃ o c, v = .slice (some ⟨o, 0, none⟩) os.length c ∧ wr.ownsRow 0 3 1 (.slice (some ⟨o, 0, none⟩) os.length c) os.length (ints os) ∧ base ≤ o
theorem FrI.keep {base : Nat} {w w' : World} {v : Value} {ks : List Int} {S : Nat → Prop} (h : FrI base w v ks) (hk : Keep S w w') (hS : ∀ k, base ≤ k → k < w.heap.size → ¬ S k) : FrI base w' v ks := by
  obtain ⟨o, c, hv, ho, hb⟩ := h
  exact ⟨o, c, hv, own_keep ho hk (fun k e => by have hl := own_lt ho e; injection e with e; subst e; exact hS _ hb hl), hb⟩
theorem FrI.new (w : World) (base : Nat) (h : base ≤ w.heap.size) : FrI base (w.alloc (.cells #[] 3)) (.slice (some ⟨w.heap.size, 0, none⟩) 0 0) [] :=
  ⟨_, 0, rfl, own_new w #[] 3 1 0 rfl (by decide), h⟩
theorem FrI.of {base : Nat} {w : World} {v : Value} {n : Nat} {xs : List Value} (os : List Int) (h : w.ownsRow 0 3 1 v n xs) (hn : n = os.length) (hp : 0 < n) (hx : xs = ints os) (hb : ∀ k, v.ownBlock = some k → base ≤ k) : FrI base w v os := by
  subst hn hx
  obtain ⟨o, c, _, rfl, _⟩ := own_form h hp
  exact ⟨o, c, rfl, h, hb o rfl⟩
theorem splice_ints (os : List Int) (a : Nat) (s : Int) : ((([] : List Value) ++ (ints os).take (a * 1)) ++ [.int .i64 s]) ++ (ints os).drop (a * 1) = ints (os.take a ++ [s] ++ os.drop a) := by
  simp [ints, List.map_take, List.map_drop]
theorem grow_keep {N : Nat} {w1 w2 : World} {v : Value} (k : Keep (fun k => v.ownBlock = some k) w1 w2) (hv : ∀ k, v.ownBlock = some k → N ≤ k) : Keep (fun k => N ≤ k) w1 w2 := k.mono (fun i _ e => hv i e)
theorem grow_new {N sz : Nat} {v v' : Value} (a : v'.ownBlock = v.ownBlock ∨ v'.ownBlock = some sz) (hv : ∀ k, v.ownBlock = some k → N ≤ k) (hs : N ≤ sz) : ∀ k, v'.ownBlock = some k → N ≤ k := by
  intro k hk
  rcases a with e | e
  · exact hv k (e ▸ hk)
  · rw [e] at hk; injection hk with hk; omega
theorem stepA {N sz : Nat} {w0 W w5 : World} {v v5 : Value} (kW : Keep (fun _ => False) w0 W) (k5 : Keep (fun k => v.ownBlock = some k) W w5) (hv : ∀ k, v.ownBlock = some k → N ≤ k) (a5 : v5.ownBlock = v.ownBlock ∨ v5.ownBlock = some sz) (hs : N ≤ sz) :
    Keep (fun k => N ≤ k) w0 w5 ∧ ∀ k, v5.ownBlock = some k → N ≤ k :=
  ⟨(kW.mono (T := fun k => N ≤ k) (fun _ _ h => h.elim)).trans k5 (fun i _ e => hv i e), grow_new a5 hv hs⟩
def WaInv (base nl : Nat) (w0 : World) (vk vo vi : Value) (wr : World) : Prop :=
  ∃ (i : Nat) (ks : List LE) (os : List Int), i ≤ nl ∧ vi = .int .i64 (i : Int) ∧ Fr base wr 39 vk ks ∧ FrI base wr vo os ∧ ks.length ≤ i ∧ os.length ≤ i ∧ Keep (fun k => base ≤ k) w0 wr
def AtInv (n : Nat) (w3 : World) (va vj : Value) (wq : World) : Prop := ∃ a j : Nat, va = .int .i64 (a : Int) ∧ vj = .int .i64 (j : Int) ∧ a ≤ n ∧ j ≤ n ∧ a ≤ j ∧ Keep (fun _ => False) w3 wq
/-- How ways ends. -/
def WaysEnd (born : Int) (B : Option Addr) (d nl lq : Nat) (w : World) (e : Ending) (w' : World) : Prop :=
  ∃ K kc ks O oc os, e = .returned (.tuple #[.agg #[.int .i64 born, .slice K ks.length kc, .slice B lq d], .slice O os.length oc]) ∧ Sl w' 5 (.slice K ks.length kc) ks.length (flat ks) ∧ Sl w' 1 (.slice O os.length oc) os.length (ints os) ∧ ks.length ≤ nl ∧ os.length ≤ nl ∧ (∀ k, K.map (·.block) = some k → w.heap.size ≤ k) ∧ (∀ k, O.map (·.block) = some k → w.heap.size ≤ k) ∧ Below w.heap.size w w'
set_option maxRecDepth 100000 in
set_option maxHeartbeats 8000000 in
theorem rways_walk (born n g s m now : Int) (A B : Option Addr) (ls : List LE) (c d lq : Nat) (w : World) (h1 : Sl w 5 (.slice A ls.length c) ls.length (flat ls)) (hf : ls.length ≤ 1000000) :
    Calls Try.prog 39 #[.agg #[.int .i64 born, .slice A ls.length c, .slice B lq d], .agg #[.int .i64 n, .int .i64 g], .int .i64 s, .int .i64 m, .int .i64 now] w (WaysEnd born B d ls.length lq w) := by
  obtain ⟨w0, hw0⟩ : ∃ w0, w0 = box3 w born n g A B c d ls.length lq := ⟨_, rfl⟩
  obtain ⟨q1, q2, q3, q4⟩ := box3_fact w born n g A B c d ls.length lq
  rw [← hw0] at q1 q2 q3 q4
  unfold box3 at hw0
  have HW0 := Lib.hid hw0
  have Q1 := Lib.hid q1
  have Q3 := Lib.hid q3
  have Q4 := Lib.hid q4
  have H1 := Lib.hid (h1.below q1)
  have HCL := Lib.hid (rclock_walk now)
  clear h1 hw0 q1 q3 q4
  go_enter Try.func39, Try.ntmps39
  go_upto_region 1 with fail
  rw [← HW0.out]
  go_wp2
  go_loopw [12, 13, 14] (fun vk vo vi wr => WaInv (w.heap.size + 3) ls.length w0 vk vo vi wr) (fun _ _ v _ => ls.length - (intOf v).toNat)
  case atStart =>
    refine ⟨0, [], [], Nat.zero_le _, rfl, ?_, ?_, Nat.le_refl _, Nat.le_refl _, ((Keep.refl _ w0).alloc _).alloc _⟩
    · have := (Fr.new w0 (w.heap.size + 3) 39 (by omega)).same ((Keep.refl (fun _ => False) _).alloc (.cells #[] 3))
      rw [q2] at this; exact this
    · have := FrI.new (w0.alloc (.cells #[] 39)) (w.heap.size + 3) (by simp; omega)
      simpa [q2] using this
  case round =>
    obtain ⟨i, ks, os, hi, rfl, hfr, hfo, hks, hos, hk⟩ := hrel
    have HK := Lib.hid hk
    have X := Lib.hid (Q3.out.keep hk (by omega) (by omega))
    have X4 := Lib.hid (hk.blk Q4.out (by omega))
    have ct := blk_cells X.out.tab
    have ch := blk_cells X.out.hnd
    have sz := hk.size
    have ft := blk_frees X.out.tab
    have c4 : ∀ j, wr.cell? ⟨w.heap.size + 1 + 1, j, none⟩ = (#[.int .i64 0, .slice none 0 0, .slice none 0 0] : Array Value)[j]? := blk_cells X4.out
    have f4 : ∀ j, wr.frozen? ⟨w.heap.size + 1 + 1, j, none⟩ = false := blk_frees X4.out
    have l4 : w.heap.size + 1 + 1 < wr.heap.size := by omega
    have HS := Lib.hid (H1.out.keep hk (fun k e hx h => by have := H1.out.lt e hx; omega))
    obtain ⟨K, kc, rfl, hown, hKb⟩ := hfr
    obtain ⟨o, oc, rfl, hownO, hOb⟩ := hfo
    have HO := Lib.hid hown
    have HKb := Lib.hid hKb
    have HOO := Lib.hid hownO
    have HOb := Lib.hid hOb
    clear hk hown hKb hownO hOb
    by_cases hlt : i < ls.length
    · obtain ⟨x, hx⟩ : ∃ x, ls[i]? = some x := ⟨ls[i], List.getElem?_eq_getElem hlt⟩
      have b1 : (0 : Int) ≤ (i : Int) := by omega
      have b2 : (i : Int) < (ls.length : Int) := by omega
      obtain ⟨b, off, rfl, _, r0, r1, r2, r3, r4⟩ := flat_row HS.out hx
      clear hx ft c4 f4 l4
      have l1 : w.heap.size + 1 < wr.heap.size := by omega
      have l0 : w.heap.size < wr.heap.size := by omega
      go_upto_region 7 with fail
      go_cut [15, 16] (fun a p wx => a = .pointer (some ⟨wr.heap.size, 0, none⟩) ∧ (∃ t, p = .bool t) ∧ wx = wr.alloc (.cells #[.int .i64 x.n, .int .i64 x.g, .int .i64 x.s, .int .i64 x.m, .int .i64 x.x] 39))
      case first =>
        by_cases e1 : x.n = n
        · by_cases e2 : x.g = g
          · subst e1 e2
            by_cases e3 : x.s = s
            · subst e3
              go_wp2
              go_meet
              case rel => exact ⟨rfl, ⟨_, rfl⟩, by first | rfl | (rw [e4]; done) | (rw [e1]; done) | (rw [e4]) | (rw [e1])⟩
            · have f3 : (x.s == s) = false := beq_eq_false_iff_ne.2 e3
              by_cases e4 : x.m = 2
              · have f4 : (x.m == 2) = true := by rw [e4]; rfl
                go_wp2
                go_meet
                case rel => exact ⟨rfl, ⟨_, rfl⟩, by first | rfl | (rw [e4]; done) | (rw [e1]; done) | (rw [e4]) | (rw [e1])⟩
              · have f4 : (x.m == 2) = false := beq_eq_false_iff_ne.2 e4
                go_wp2
                go_meet
                case rel => exact ⟨rfl, ⟨_, rfl⟩, by first | rfl | (rw [e4]; done) | (rw [e1]; done) | (rw [e4]) | (rw [e1])⟩
          · have f2 : (x.g == g) = false := beq_eq_false_iff_ne.2 e2
            go_wp2
            go_meet
            case rel => exact ⟨rfl, ⟨_, rfl⟩, by first | rfl | (rw [e4]; done) | (rw [e1]; done) | (rw [e4]) | (rw [e1])⟩
        · have f1 : (x.n == n) = false := beq_eq_false_iff_ne.2 e1
          go_wp2
          go_meet
          case rel => exact ⟨rfl, ⟨_, rfl⟩, by first | rfl | (rw [e4]; done) | (rw [e1]; done) | (rw [e4]) | (rw [e1])⟩
      case rest =>
        obtain ⟨rfl, ⟨tin, rfl⟩, hwx⟩ := hcut
        have bl := blk_new wr (.cells #[.int .i64 x.n, .int .i64 x.g, .int .i64 x.s, .int .i64 x.m, .int .i64 x.x] 39)
        have k2 := (Keep.refl (fun _ => False) wr).alloc (.cells #[.int .i64 x.n, .int .i64 x.g, .int .i64 x.s, .int .i64 x.m, .int .i64 x.x] 39)
        have z2 : (wr.alloc (.cells #[.int .i64 x.n, .int .i64 x.g, .int .i64 x.s, .int .i64 x.m, .int .i64 x.x] 39)).heap.size = wr.heap.size + 1 := by simp
        rw [← hwx] at bl k2 z2
        have HK2 := Lib.hid (HK.out.trans k2 (fun _ _ h => h.elim))
        have HO2 := Lib.hid (own_keep HO.out k2 (fun _ _ h => h))
        have HOO2 := Lib.hid (own_keep HOO.out k2 (fun _ _ h => h))
        have BL := Lib.hid bl
        have cl := blk_cells bl
        have Z2 := Lib.hid z2
        have zw : wr.heap.size < wc.heap.size := by omega
        clear hwx k2 r0 r1 r2 r3 r4 ct ch bl z2
        generalize hR : wr.heap.size = R at *
        cases tin with
        | false =>
          go_wp2
          go_quiet (fail)
          go_wp2_with (at_builtin; go_must (refine wpList_app rfl eltL rfl rfl rfl (n := ks.length) (m := 1) (own_keep HO2.out (((Keep.refl (fun _ => False) wc).drewN nq).alloc _) (fun _ _ h => h)) (Sl.of_own (own_new (wc.drewN nq) #[.int .i64 x.n, .int .i64 x.g, .int .i64 x.s, .int .i64 x.m, .int .i64 x.x] 39 5 1 rfl (by decide))) (by simp [Value.oneCell']) (by omega) (by simp only [maxLen]; omega) ?_))
          intro v2 w3 g1 g2 g3 _
          obtain ⟨A2, c2, rfl, _⟩ := Rd.of_own g1
          have k3 : Keep (fun k => (Value.slice K ks.length kc).ownBlock = some k) wc w3 := (((Keep.refl _ wc).drewN nq).alloc _).trans g2 (fun _ _ h => h)
          have HA := Lib.hid (Fr.app (x := x) (base := w.heap.size + 3) HKb.out (by show w.heap.size + 3 ≤ wc.heap.size; omega) g1 g2 (by first | exact g3 | simpa using g3))
          have OO3 := Lib.hid (own_keep HOO2.out k3 (fun k e h => own_ne HO2.out HOO2.out (by decide) h e))
          have B3 := k3.blk BL.out (fun h => by have := own_lt HO.out h; omega)
          have HK3 := Lib.hid (HK2.out.trans k3 (fun i _ h => HKb.out i (by rw [ownBlock_slice] at h; exact h)))
          have cl3 := blk_cells B3
          have sz3 := k3.size
          have l3 := blk_lt B3
          have HB3 := Lib.hid B3
          clear g1 g2 g3 k3 B3 cl
          go_wp2
          go_roundw
          case rel => exact ⟨i + 1, ks ++ [x], os, by omega, by go_num, HA.out.1, ⟨o, oc, rfl, OO3.out, HOb.out⟩, by simp; omega, by omega, HK3.out⟩
          case measure => simp [intOf]; omega
        | true =>
          go_wp2
          go_quiet (first | (go_at_call 13; refine Calls.quiet_of_same (HCL.out _)))
          go_wp2_with (at_builtin; go_must (refine wpList_app rfl eltL rfl rfl rfl (n := ks.length) (m := 1) (own_keep HO2.out (((Keep.refl (fun _ => False) wc).drewN nq).alloc _) (fun _ _ h => h)) (Sl.of_own (own_new (wc.drewN nq) #[.int .i64 x.n, .int .i64 x.g, .int .i64 x.s, .int .i64 x.m, .int .i64 x.x] 39 5 1 rfl (by decide))) (by simp [Value.oneCell']) (by omega) (by simp only [maxLen]; omega) ?_))
          · go_roundw
            case rel => exact ⟨i + 1, ks, os, by omega, by go_num, ⟨K, kc, rfl, own_keep HO2.out ((Keep.refl (fun _ => False) wc).drewN nq) (fun _ _ h => h), HKb.out⟩, ⟨o, oc, rfl, own_keep HOO2.out ((Keep.refl (fun _ => False) wc).drewN nq) (fun _ _ h => h), HOb.out⟩, by omega, by omega, HK2.out.drewN nq⟩
            case measure => simp [intOf]; omega
          · intro v2 w3 g1 g2 g3 _
            obtain ⟨A2, c2, rfl, _⟩ := Rd.of_own g1
            have k3 : Keep (fun k => (Value.slice K ks.length kc).ownBlock = some k) wc w3 := (((Keep.refl _ wc).drewN nq).alloc _).trans g2 (fun _ _ h => h)
            have HA := Lib.hid (Fr.app (x := x) (base := w.heap.size + 3) HKb.out (by show w.heap.size + 3 ≤ wc.heap.size; omega) g1 g2 (by first | exact g3 | simpa using g3))
            have OO3 := Lib.hid (own_keep HOO2.out k3 (fun k e h => own_ne HO2.out HOO2.out (by decide) h e))
            have B3 := k3.blk BL.out (fun h => by have := own_lt HO.out h; omega)
            have HK3 := Lib.hid (HK2.out.trans k3 (fun i _ h => HKb.out i (by rw [ownBlock_slice] at h; exact h)))
            have cl3 := blk_cells B3
            have sz3 := k3.size
            have l3 := blk_lt B3
            have HB3 := Lib.hid B3
            clear g1 g2 g3 k3 B3 cl
            go_wp2
            go_loopw [17, 18] (fun va vj wq => AtInv os.length w3 va vj wq) (fun _ v _ => os.length - (intOf v).toNat)
            case atStart => exact ⟨0, 0, rfl, rfl, Nat.zero_le _, Nat.zero_le _, Nat.le_refl _, Keep.refl _ _⟩
            case round =>
              obtain ⟨a, j, rfl, rfl, ha, hj, haj, hkq⟩ := hrel
              have HKQ := Lib.hid hkq
              have BQ := Lib.hid (hkq.blk HB3.out id)
              have clq := blk_cells BQ.out
              have OQ := Lib.hid (own_keep OO3.out hkq (fun _ _ h => h))
              have szq := hkq.size
              clear hkq cl3
              by_cases hjl : j < os.length
              · obtain ⟨y, hy⟩ : ∃ y, os[j]? = some y := ⟨os[j], List.getElem?_eq_getElem hjl⟩
                have d1 : (0 : Int) ≤ (j : Int) := by omega
                have d2 : (j : Int) < (os.length : Int) := by omega
                obtain ⟨_, _, he, t0⟩ := int_row (Sl.of_own OQ.out) hy
                injection he with he
                injection he with he1 he2
                subst he1 he2
                rw [Nat.zero_add] at t0
                clear hy
                go_wp2
                go_quiet (fail)
                go_wp2
                · go_roundw
                  case rel => exact ⟨j + 1, j + 1, by go_num, by go_num, by omega, by omega, by omega, HKQ.out.drewN _⟩
                  case measure => simp [intOf]; omega
                · go_roundw
                  case rel => exact ⟨a, j + 1, rfl, by go_num, ha, by omega, by omega, HKQ.out.drewN _⟩
                  case measure => simp [intOf]; omega
              · obtain rfl : j = os.length := by omega
                have d1 : (0 : Int) ≤ (a : Int) := by omega
                have d2 : (a : Int) ≤ (os.length : Int) := by omega
                have d3 : (os.length : Int) ≤ (oc : Int) := by have := OQ.out; obtain ⟨_, _, e, _, _, h, _⟩ := Sl.of_own this; injection e with _ _ e; omega
                have d4 : (a : Int) ≤ (oc : Int) := by omega
                obtain ⟨_, _, eo, _, _, hle, _⟩ := Sl.of_own OQ.out
                have hN : w.heap.size + 3 ≤ wr.heap.size := by omega
                have hoN : o < wr.heap.size := own_lt OQ.out rfl
                have E1 := Lib.hid (own_new wr #[] 3 1 0 rfl (by decide))
                have E2 := Lib.hid (own_keep E1.out ((Keep.refl (fun _ => False) _).alloc (.cells #[.int .i64 x.s] 3)) (fun _ _ h => h))
                have zS : (wr.alloc (.cells #[.int .i64 x.s] 3)).heap.size = wr.heap.size + 1 := by simp
                have zE : (wr.alloc (.cells #[] 3)).heap.size = wr.heap.size + 1 := by simp
                have e3 := own_new (wr.alloc (.cells #[.int .i64 x.s] 3)) #[] 3 1 0 rfl (by decide)
                rw [zS] at e3
                have E3 := Lib.hid e3
                have s2 := own_new (wr.alloc (.cells #[] 3)) #[.int .i64 x.s] 3 1 1 rfl (by decide)
                rw [zE] at s2
                have S2 := Lib.hid s2
                have S3 := Lib.hid (own_keep (own_new wr #[.int .i64 x.s] 3 1 1 rfl (by decide)) ((Keep.refl (fun _ => False) _).alloc (.cells #[] 3)) (fun _ _ h => h))
                have HSC := Lib.hid (fun w' (k : Keep (fun i => wr.heap.size ≤ i) wr w') => ((k.cell (clq 2) (fun e => by have := World.block_lt_of_cell? _ _ ((clq 2).trans rfl : wr.cell? ⟨R, 2, none⟩ = some (.int .i64 x.s)); exact absurd e (Nat.not_le.2 this))).trans rfl : w'.cell? ⟨R, 2, none⟩ = some (.int .i64 x.s)))
                have HI1 := Lib.hid (ints_one os)
                have V1 : Hid (∀ k, (Value.slice (some ⟨wr.heap.size, 0, none⟩) 0 0).ownBlock = some k → wr.heap.size ≤ k) := Lib.hid (fun k e => by rw [ownBlock_slice] at e; injection e with e; exact Nat.le_of_eq e)
                have V2 : Hid (∀ k, (Value.slice (some ⟨wr.heap.size + 1, 0, none⟩) 0 0).ownBlock = some k → wr.heap.size ≤ k) := Lib.hid (fun k e => by rw [ownBlock_slice] at e; injection e with e; exact Nat.le_of_lt (Nat.lt_of_lt_of_eq (Nat.lt_succ_self _) e))
                have SSB := Lib.hid (fun (w5 : World) (k5 : Keep (fun k => (Value.slice (some ⟨wr.heap.size, 0, none⟩) 0 0).ownBlock = some k) ((wr.alloc (.cells #[] 3)).alloc (.cells #[.int .i64 x.s] 3)).drew w5) => Sl.keep (Sl.of_own S2.out.drew) k5 (fun k e _ h => by rw [ownBlock_slice] at e h; injection e with e; injection h with h; dsimp only at e h; omega))
                have SSC := Lib.hid (fun (w5 : World) (k5 : Keep (fun k => (Value.slice (some ⟨wr.heap.size + 1, 0, none⟩) 0 0).ownBlock = some k) ((wr.alloc (.cells #[.int .i64 x.s] 3)).alloc (.cells #[] 3)).drew w5) => Sl.keep (Sl.of_own S3.out.drew) k5 (fun k e _ h => by rw [ownBlock_slice] at e h; injection e with e; injection h with h; dsimp only at e h; omega))
                have KD1 := Lib.hid (((Keep.refl (fun _ => False) wr).alloc (.cells #[] 3)).drew)
                have KD2 := Lib.hid ((((Keep.refl (fun _ => False) wr).alloc (.cells #[] 3)).alloc (.cells #[.int .i64 x.s] 3)).drew)
                have KD3 := Lib.hid ((((Keep.refl (fun _ => False) wr).alloc (.cells #[.int .i64 x.s] 3)).alloc (.cells #[] 3)).drew)
                have OQk := Lib.hid (fun (w6 : World) (k : Keep (fun i => wr.heap.size ≤ i) wr w6) => own_keep OQ.out k (fun k e h => by rw [ownBlock_slice] at e; injection e with e; dsimp only at e; omega))
                clear e3 s2 zS zE clq eo hle
                by_cases hce : oc = a
                · have hce2 := hce.symm
                  clear hce
                  subst hce2
                  go_wp2
                  go_region_held3 (fun w' => w'.cell? ⟨R, 2, none⟩ = some (.int .i64 x.s)) (first | exact HSC.out _ (Keep.refl _ wr).drew | exact HSC.out _ ((Keep.refl _ wr).alloc _).drew | exact HSC.out _ (((Keep.refl _ wr).alloc _).alloc _).drew | exact HSC.out _ K7.out | exact HSC.out _ K6.out | exact HSC.out _ KN.out.1 | exact HSC.out _ (KN.out.1.alloc _)) (first | (refine step_app (by rfl) eltInt (by rfl) (by rfl) (by rfl) (n := 0) (xs := []) E1.out.drew ((Sl.upto OQ.out a (by omega)).keep KD1.out (fun _ _ _ h => h)) (fun u hu => HI1.out u (List.mem_of_mem_take hu)) (by omega) (by simp only [maxLen]; omega) ?_; intro v5 w5 o5 k5 a5 _; have KN := Lib.hid (stepA (N := wr.heap.size) KD1.out k5 V1.out a5 (by first | omega | (simp; done) | (simp; omega))); have O5 := Lib.hid o5; clear o5 k5 a5) | (refine step_app (by rfl) eltInt (by rfl) (by rfl) (by rfl) (n := 0) (xs := []) E2.out.drew ((Sl.upto OQ.out a (by omega)).keep KD2.out (fun _ _ _ h => h)) (fun u hu => HI1.out u (List.mem_of_mem_take hu)) (by omega) (by simp only [maxLen]; omega) ?_; intro v5 w5 o5 k5 a5 _; have KN := Lib.hid (stepA (N := wr.heap.size) KD2.out k5 V1.out a5 (by first | omega | (simp; done) | (simp; omega))); have SS := Lib.hid (SSB.out w5 k5); have O5 := Lib.hid o5; clear o5 k5 a5) | (refine step_app (by rfl) eltInt (by rfl) (by rfl) (by rfl) (n := 0) (xs := []) E3.out.drew ((Sl.upto OQ.out a (by omega)).keep KD3.out (fun _ _ _ h => h)) (fun u hu => HI1.out u (List.mem_of_mem_take hu)) (by omega) (by simp only [maxLen]; omega) ?_; intro v5 w5 o5 k5 a5 _; have KN := Lib.hid (stepA (N := wr.heap.size) KD3.out k5 V2.out a5 (by first | omega | (simp; done) | (simp; omega))); have SS := Lib.hid (SSC.out w5 k5); have O5 := Lib.hid o5; clear o5 k5 a5) | (refine step_app (by rfl) eltInt (by rfl) (by rfl) (by rfl) O5.out SS.out (by simp [Value.oneCell']) (by omega) (by simp only [maxLen]; omega) ?_; intro v6 w6 o6 k6 a6 _; have K6 := Lib.hid (KN.out.1.trans (grow_keep k6 KN.out.2) (fun _ _ h => h)); have N6 := Lib.hid (grow_new (N := wr.heap.size) a6 KN.out.2 (by have := KN.out.1.size; first | omega | (simp; omega))); have O6 := Lib.hid o6; have OQ6 := Lib.hid (OQk.out w6 K6.out); clear o6 k6 a6) | (refine step_app (by rfl) eltInt (by rfl) (by rfl) (by rfl) (own_keep O5.out ((Keep.refl (fun _ => False) _).alloc _) (fun _ _ h => h)) (Sl.of_own (own_new w5 #[.int .i64 x.s] 3 1 1 rfl (by decide))) (by simp [Value.oneCell']) (by omega) (by simp only [maxLen]; omega) ?_; intro v6 w6 o6 k6 a6 _; have K6 := Lib.hid ((KN.out.1.alloc _).trans (grow_keep k6 KN.out.2) (fun _ _ h => h)); have N6 := Lib.hid (grow_new (N := wr.heap.size) a6 KN.out.2 (by have := KN.out.1.size; first | omega | (simp; omega))); have O6 := Lib.hid o6; have OQ6 := Lib.hid (OQk.out w6 K6.out); clear o6 k6 a6) | (refine step_app (by rfl) eltInt (by rfl) (by rfl) (by rfl) O6.out (Sl.from_ OQ6.out a (by omega) (by rfl) (by omega) (by omega) (by omega)) (fun u hu => HI1.out u (List.mem_of_mem_drop hu)) (by omega) (by simp only [maxLen]; omega) ?_; intro v7 w7 o7 k7 a7 _; have K7 := Lib.hid (K6.out.trans (grow_keep k7 N6.out) (fun _ _ h => h)); have N7 := Lib.hid (grow_new (N := wr.heap.size) a7 N6.out (by have := K6.out.size; first | omega | (simp; omega))); have O7 := Lib.hid o7; clear o7 k7 a7))
                  all_goals
                    have O7s := O7.out
                    rw [splice_ints] at O7s
                    have F7 := Lib.hid (FrI.of (base := w.heap.size + 3) (os.take a ++ [x.s] ++ os.drop a) O7s (by simp <;> omega) (by omega) rfl (fun k e => Nat.le_trans hN (N7.out k e)))
                    have F7k := Lib.hid ((HA.out.1.same HKQ.out).keep K7.out (fun k _ h1 h2 => absurd h2 (Nat.not_le.2 h1)))
                    clear O7s
                    go_wp2
                    go_roundw
                    case rel => exact ⟨i + 1, ks ++ [x], os.take a ++ [x.s] ++ os.drop a, by omega, by go_num, F7k.out, F7.out, by simp; omega, by simp; omega, (HK3.out.trans HKQ.out (fun _ _ h => h.elim)).trans K7.out (fun i _ h => Nat.le_trans hN h)⟩
                    case measure => simp [intOf]; omega
                · go_wp2
                  go_region_held3 (fun w' => w'.cell? ⟨R, 2, none⟩ = some (.int .i64 x.s)) (first | exact HSC.out _ (Keep.refl _ wr).drew | exact HSC.out _ ((Keep.refl _ wr).alloc _).drew | exact HSC.out _ (((Keep.refl _ wr).alloc _).alloc _).drew | exact HSC.out _ K7.out | exact HSC.out _ K6.out | exact HSC.out _ KN.out.1 | exact HSC.out _ (KN.out.1.alloc _)) (first | (refine step_app (by rfl) eltInt (by rfl) (by rfl) (by rfl) (n := 0) (xs := []) E1.out.drew ((Sl.upto OQ.out a (by omega)).keep KD1.out (fun _ _ _ h => h)) (fun u hu => HI1.out u (List.mem_of_mem_take hu)) (by omega) (by simp only [maxLen]; omega) ?_; intro v5 w5 o5 k5 a5 _; have KN := Lib.hid (stepA (N := wr.heap.size) KD1.out k5 V1.out a5 (by first | omega | (simp; done) | (simp; omega))); have O5 := Lib.hid o5; clear o5 k5 a5) | (refine step_app (by rfl) eltInt (by rfl) (by rfl) (by rfl) (n := 0) (xs := []) E2.out.drew ((Sl.upto OQ.out a (by omega)).keep KD2.out (fun _ _ _ h => h)) (fun u hu => HI1.out u (List.mem_of_mem_take hu)) (by omega) (by simp only [maxLen]; omega) ?_; intro v5 w5 o5 k5 a5 _; have KN := Lib.hid (stepA (N := wr.heap.size) KD2.out k5 V1.out a5 (by first | omega | (simp; done) | (simp; omega))); have SS := Lib.hid (SSB.out w5 k5); have O5 := Lib.hid o5; clear o5 k5 a5) | (refine step_app (by rfl) eltInt (by rfl) (by rfl) (by rfl) (n := 0) (xs := []) E3.out.drew ((Sl.upto OQ.out a (by omega)).keep KD3.out (fun _ _ _ h => h)) (fun u hu => HI1.out u (List.mem_of_mem_take hu)) (by omega) (by simp only [maxLen]; omega) ?_; intro v5 w5 o5 k5 a5 _; have KN := Lib.hid (stepA (N := wr.heap.size) KD3.out k5 V2.out a5 (by first | omega | (simp; done) | (simp; omega))); have SS := Lib.hid (SSC.out w5 k5); have O5 := Lib.hid o5; clear o5 k5 a5) | (refine step_app (by rfl) eltInt (by rfl) (by rfl) (by rfl) O5.out SS.out (by simp [Value.oneCell']) (by omega) (by simp only [maxLen]; omega) ?_; intro v6 w6 o6 k6 a6 _; have K6 := Lib.hid (KN.out.1.trans (grow_keep k6 KN.out.2) (fun _ _ h => h)); have N6 := Lib.hid (grow_new (N := wr.heap.size) a6 KN.out.2 (by have := KN.out.1.size; first | omega | (simp; omega))); have O6 := Lib.hid o6; have OQ6 := Lib.hid (OQk.out w6 K6.out); clear o6 k6 a6) | (refine step_app (by rfl) eltInt (by rfl) (by rfl) (by rfl) (own_keep O5.out ((Keep.refl (fun _ => False) _).alloc _) (fun _ _ h => h)) (Sl.of_own (own_new w5 #[.int .i64 x.s] 3 1 1 rfl (by decide))) (by simp [Value.oneCell']) (by omega) (by simp only [maxLen]; omega) ?_; intro v6 w6 o6 k6 a6 _; have K6 := Lib.hid ((KN.out.1.alloc _).trans (grow_keep k6 KN.out.2) (fun _ _ h => h)); have N6 := Lib.hid (grow_new (N := wr.heap.size) a6 KN.out.2 (by have := KN.out.1.size; first | omega | (simp; omega))); have O6 := Lib.hid o6; have OQ6 := Lib.hid (OQk.out w6 K6.out); clear o6 k6 a6) | (refine step_app (by rfl) eltInt (by rfl) (by rfl) (by rfl) O6.out (Sl.from_ OQ6.out a (by omega) (by rfl) (by omega) (by omega) (by omega)) (fun u hu => HI1.out u (List.mem_of_mem_drop hu)) (by omega) (by simp only [maxLen]; omega) ?_; intro v7 w7 o7 k7 a7 _; have K7 := Lib.hid (K6.out.trans (grow_keep k7 N6.out) (fun _ _ h => h)); have N7 := Lib.hid (grow_new (N := wr.heap.size) a7 N6.out (by have := K6.out.size; first | omega | (simp; omega))); have O7 := Lib.hid o7; clear o7 k7 a7))
                  all_goals
                    have O7s := O7.out
                    rw [splice_ints] at O7s
                    have F7 := Lib.hid (FrI.of (base := w.heap.size + 3) (os.take a ++ [x.s] ++ os.drop a) O7s (by simp <;> omega) (by omega) rfl (fun k e => Nat.le_trans hN (N7.out k e)))
                    have F7k := Lib.hid ((HA.out.1.same HKQ.out).keep K7.out (fun k _ h1 h2 => absurd h2 (Nat.not_le.2 h1)))
                    clear O7s
                    go_wp2
                    go_roundw
                    case rel => exact ⟨i + 1, ks ++ [x], os.take a ++ [x.s] ++ os.drop a, by omega, by go_num, F7k.out, F7.out, by simp; omega, by simp; omega, (HK3.out.trans HKQ.out (fun _ _ h => h.elim)).trans K7.out (fun i _ h => Nat.le_trans hN h)⟩
                    case measure => simp [intOf]; omega
    · obtain rfl : i = ls.length := by omega
      go_wp2
      obtain ⟨wf, hwf⟩ : ∃ wf, wf = (((wr.setCell ⟨w.heap.size, 1, none⟩ (.slice K ks.length kc)).setCell ⟨w.heap.size + 1 + 1, 0, none⟩ (.int .i64 born)).setCell ⟨w.heap.size + 1 + 1, 1, none⟩ (.slice K ks.length kc)).setCell ⟨w.heap.size + 1 + 1, 2, none⟩ (.slice B lq d) := ⟨_, rfl⟩
      obtain ⟨kf, bf⟩ := stored3 (.slice K ks.length kc) (.int .i64 born) (.slice K ks.length kc) (.slice B lq d) X4.out
      rw [← hwf] at kf bf ⊢
      have e0 := bf 0
      have e1 := bf 1
      have e2 := bf 2
      have HF : Hid (WaysEnd born B d ls.length lq w (.returned (.tuple #[.agg #[.int .i64 born, .slice K ks.length kc, .slice B lq d], .slice (some ⟨o, 0, none⟩) os.length oc])) wf) := Lib.hid ⟨K, kc, ks, some ⟨o, 0, none⟩, oc, os, rfl, Sl.of_own (own_keep HO.out kf (fun k e h => by have := HKb.out k (by rw [ownBlock_slice] at e; exact e); omega)), Sl.of_own (own_keep HOO.out kf (fun k e h => by rw [ownBlock_slice] at e; injection e with e; have := HOb.out; dsimp only at e; omega)), by omega, by omega, (fun k e => by have := HKb.out k e; omega), (fun k e => by injection e with e; have := HOb.out; dsimp only at e; omega),
        (Q1.out.trans (HK.out.below (fun i h => by omega) (by omega))).trans (kf.below (fun i h => h.1) (by omega))⟩
      refine bodyPost_ret (by simp [results, Try.results39, go_sem, e0, e1, e2]; try rfl) rfl ?_
      exact HF.out
end Go.Proofs.Ytmfgkddndlleoaa
