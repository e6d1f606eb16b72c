/- Words and contracts that the proofs of this set use; each part says what it holds. -/
import Derived.ProofKit
import Derived.SizedLaws
import Derived.Deep.Slices
import Derived.Deep.Strs
import Derived.ChangeOld
import Derived.Test.YtehfoopefefpnaaGreatSk8
import Derived.Test.YtehfoopefefpnaaGreatSk0
/- The walk of SpaceHoles. -/
set_option linter.unusedSimpArgs false
set_option linter.unusedVariables false
namespace Go.Proofs.YtehfoopefefpnaaGreat
open Go.RowKit

attribute [local go_sem ↓] Go.wp_at_zero Go.wp_at_succ
set_option maxHeartbeats 1000000 in
theorem fwrite_none {B : Nat} {c : SWc} {V : Nat → List UInt8} {m : Nat → Bool} {xs : Nat → NoS} {U : List Nat} {w : World} (h : SW B c V m xs U w) {n : Nat} (hn : n < 32) (hk : (xs n).kind ≠ 0) (p : Nat) (A : Option Addr) (cc : Nat) :
    Calls Tryz.prog 12 #[.pointer (some ⟨c.p.k, 0, none⟩), .int .i64 (n : Int), .int .i64 (p : Int), .slice A 0 cc] w fun e w' => e = .returned (.int .i64 0) ∧ Below w.heap.size w w' := by
  have HOP := Lib.hid (open_walk h hn hk)
  have g0 : ¬ (p : Int) < 0 := by omega
  clear h hn hk
  go_enter Tryz.func12, Tryz.ntmps12
  go_wp2_with fail
  refine HOP.out.mono ?_
  rintro r w1 ⟨kf, rfl, _, _, hb1⟩
  have HB1 := Lib.hid hb1
  clear hb1
  go_wp2
  go_ret
  exact ⟨rfl, HB1.out⟩
/-- What a law knows of its file. -/
structure Ho (B : Nat) (c : SWc) (n en : Nat) (f : Nat → UInt8) (tt : List Nat) (w : World) : Prop where
  ex : ∃ V m a xs U, SW B c V m xs U w ∧ U.length ≤ 24 ∧ 34 ∈ U ∧ 35 + n / 4 ∈ U ∧ (xs n).kind = 1 ∧ Fl V m c.N (xs n) a ∧ (xs n).size = en ∧ (∀ k, k < 9728 → Ct V a k = f k) ∧ (∀ t ∈ tt, a t = 0 ∨ a t ∈ U)
theorem Ho.below {B : Nat} {c : SWc} {n en : Nat} {f : Nat → UInt8} {tt : List Nat} {w w' : World} (h : Ho B c n en f tt w) (hb : Below w.heap.size w w') : Ho B c n en f tt w' := by
  obtain ⟨V, m, a, xs, U, h1, h2⟩ := h.ex
  exact ⟨V, m, a, xs, U, h1.below hb, h2⟩
def HwP (B : Nat) (c : SWc) (n en : Nat) (f : Nat → UInt8) (tt : List Nat) (w0 w : World) (e : Ending) (w' : World) : Prop := e = .returned (.int .i64 0) ∧ Ho B c n en f tt w' ∧ Below B w0 w'
/-- A node that is new. -/
structure NewN (x : NoS) : Prop where
  kind : x.kind = 1
  size : x.size = 0
  ptr : ∀ i, i < 6 → x.ptr i = 0
theorem nw_new (g : Nat) (x : NoS) : NewN (nwNode 1 g x) := ⟨rfl, rfl, fun i hi => by
  rcases (by omega : i = 0 ∨ i = 1 ∨ i = 2 ∨ i = 3 ∨ i = 4 ∨ i = 5) with rfl | rfl | rfl | rfl | rfl | rfl <;> rfl⟩
theorem ct_nil (V : Nat → List UInt8) (k : Nat) : Ct V (fun _ => 0) k = 0 := by unfold Ct; rw [if_pos rfl]
theorem hole_write {B : Nat} {c : SWc} {V : Nat → List UInt8} {m : Nat → Bool} {xs : Nat → NoS} {w0 w : World} {n : Nat} (h : SW B c V m xs ub w) (hn : n < 4) (hb : Below B w0 w) (hB : B = w0.heap.size) (hx : NewN (xs n)) (hfree : cntM m 43 (c.N - 43) + 12 < c.N - 43) (p : Nat) (hp : p < 9000) (d : List UInt8) (hd : d.length ≤ 300) (A : Option Addr) (cc : Nat) (hsl : Sl w 1 (.slice A d.length cc) d.length (bv d)) (hA : d.length ≠ 0 → ∀ j, A.map (·.block) = some j → j ≠ c.p.b) (tt : List Nat) (htt : tt.length ≤ 4) :
    Calls Tryz.prog 12 #[.pointer (some ⟨c.p.k, 0, none⟩), .int .i64 (n : Int), .int .i64 (p : Int), .slice A d.length cc] w (HwP B c n (if d.length = 0 then 0 else p + d.length) (fun k => if p ≤ k ∧ k < p + d.length then d.getD (k - p) 0 else 0) tt w0 w) := by
  have hfl : Fl V m c.N (xs n) (fun _ => 0) := Fl.fresh hx.ptr
  have h35 : 35 + n / 4 = 35 := by omega
  by_cases h0 : d.length = 0
  · rw [h0, if_pos rfl]
    refine (fwrite_none h (by omega) (by rw [hx.kind]; decide) p A cc).mono ?_
    rintro e w' ⟨rfl, hb'⟩
    refine ⟨rfl, ⟨V, m, _, xs, ub, h.below hb', by decide, by decide, by rw [h35]; decide, hx.kind, hfl, hx.size, fun k hk => ?_, fun t _ => .inl rfl⟩, hb.trans (hb'.mono (by rw [hB]; exact hb.size))⟩
    rw [ct_nil, if_neg (by omega)]
  · rw [if_neg h0]
    have hT : (wT p d.length ++ tt).length ≤ 16 := by
      have := wT_len p d.length
      rw [List.length_append]
      have h3 : (p + d.length - 1) / 128 + 1 - p / 128 ≤ 4 := by omega
      omega
    have hsw := h.mono (U' := ub ++ (wT p d.length ++ tt).map (fun _ => 0)) (fun i hi => List.mem_append_left _ hi)
    refine (fwrite_walk hsw (by omega) hfl.tr p d (by omega) (by omega) (.inl hx.kind) A cc hsl (hA h0) (by show 3 + _ ≤ 22; omega) (by decide) (by decide) (by rw [h35]; decide) (fun b hb k hk => List.mem_append_left _ (wT_mem hb hk))).mono ?_
    rintro e w' ⟨V', m', a', hk, ⟨rfl, y, hsw', ht', hwr, hne, hwn⟩ | ⟨_, _, ⟨q, hwr⟩, _, hall, _⟩⟩
    · obtain ⟨k1, k2, k3, k4, k5⟩ := hwn
      rw [hx.size] at k4
      have hfl' := (hfl.write ht' hwr (by omega) (by omega) hne (by rw [k4, hx.size])).1
      refine ⟨rfl, ⟨V', m', a', updF xs n y, _, hsw', ?_, List.mem_append_left _ (by decide), List.mem_append_left _ (by rw [h35]; decide), by rw [updF_same, k1, hx.kind], by rw [updF_same]; exact hfl', by rw [updF_same, k4]; omega, fun k hk => ?_, fun t ht => .inr (List.mem_append_right _ (List.mem_map.2 ⟨t, List.mem_append_right _ ht, rfl⟩))⟩, fwk_below hsw hb hB hk⟩
      · rw [List.length_append, List.length_map]
        show 3 + _ ≤ 24
        omega
      · rw [hwr.ct k hk, ct_nil]
    · exfalso
      have h1 := full_space hwr (fun t ht => rangeS_wT ht) hall
      have := wT_len p d.length
      have h3 : (p + d.length - 1) / 128 + 1 - p / 128 ≤ 4 := by omega
      omega
/-- Trunc of such a file. -/
theorem hole_trunc {B : Nat} {c : SWc} {n en : Nat} {f : Nat → UInt8} {tt : List Nat} {w0 w : World} (h : Ho B c n en f tt w) (hn : n < 32) (hb : Below B w0 w) (hB : B = w0.heap.size) (sz : Nat) (hz : sz ≤ 9728) (htt : sz < en → ∀ t ∈ truT sz, t ∈ tt) :
    Calls Tryz.prog 13 #[.pointer (some ⟨c.p.k, 0, none⟩), .int .i64 (n : Int), .int .i64 (sz : Int)] w (HwP B c n sz (fun k => if k < sz then f k else 0) tt w0 w) := by
  obtain ⟨V, m, a, xs, U, hsw, hU, h34, h35, hk, hfl, hsz, hct, ht⟩ := h.ex
  refine (trunc_walk hsw hn hfl sz hz (.inl hk) hU h34 h35 (fun hlt t h1 => ht t (htt (by rw [← hsz]; exact hlt) t h1))).mono ?_
  rintro e w' ⟨rfl, V', m', a', y, hsw', hfl', htc, k1, k2, k3, k4, k5, hkk⟩
  refine ⟨rfl, ⟨V', m', a', updF xs n y, U, hsw', hU, h34, h35, by rw [updF_same, k1, hk], by rw [updF_same]; exact hfl', by rw [updF_same, k4], fun k hk => ?_, fun t h1 => ?_⟩, fwk_below hsw hb hB hkk⟩
  · rw [htc.ct k hk, hct k hk]
  · rcases htc.old t with e | e
    · exact .inl e
    · rw [e]; exact ht t h1
/-- Read of such a file. -/
theorem hole_read {B : Nat} {c : SWc} {n en : Nat} {f : Nat → UInt8} {tt : List Nat} {w : World} (h : Ho B c n en f tt w) (hn : n < 32) (hen : en ≤ 9728) :
    Calls Tryz.prog 10 #[.pointer (some ⟨c.p.k, 0, none⟩), .int .i64 (n : Int), .int .i64 0, .int .i64 9728] w fun e w' => ∃ A, e = .returned (.tuple #[.slice A en en, .int .i64 0]) ∧ NB w.heap.size w' A en ((List.range en).map f) ∧ Below w.heap.size w w' := by
  obtain ⟨V, m, a, xs, U, hsw, hU, h34, h35, hk, hfl, hsz, hct, ht⟩ := h.ex
  have hr := fread_walk hsw hn (by rw [hk]; decide) hfl.tr 0 9728 en (by decide) (by decide) (by rw [hsz]; omega)
  refine Calls.mono hr ?_
  rintro e w' ⟨A, rfl, hnb, hb⟩
  refine ⟨A, rfl, ?_, hb⟩
  have : ctL V a 0 en = (List.range en).map f := by
    unfold ctL
    refine List.map_congr_left (fun i hi => ?_)
    have := List.mem_range.1 hi
    rw [Nat.zero_add]
    exact hct i (by omega)
  rw [← this]
  exact hnb
theorem begin_new {w w1 : World} {c : SWc} {n : Nat} (hsw : SW w.heap.size c v00 m43 freshX [] w1) (hcs : c.sup = ⟨n, 1, 0⟩) :
    Calls Tryz.prog 15 #[.pointer (some ⟨c.p.k, 0, none⟩), .int .i64 1] w1 fun e w' => e = .returned (.tuple #[.int .i64 2, .int .i64 0]) ∧ SW w.heap.size c.nw v00 m43 (updF freshX 2 (nwNode 1 c.sup.gens (freshX 2))) ub w' ∧ Keep (fun j => j = c.p.b ∨ j = c.p.k) w1 w' :=
  wnew (k := 2) (hsw.mono (U' := ub) (fun i hi => by cases hi)) (by decide) (by decide) (by decide) (by decide) (by decide) (fun n h1 h2 => by
    obtain rfl : n = 1 := by omega
    decide) (by decide) (by rw [hcs]; show 0 < 1073741824; decide) 1 (.inl rfl)
def holeF (p less en : Nat) (d : List UInt8) (k : Nat) : UInt8 := if k < less ∧ p ≤ k ∧ k < en then d.getD (k - p) 0 else 0
set_option maxRecDepth 100000 in
set_option maxHeartbeats 8000000 in
theorem holes_walk (at_ sz ct : Nat) (ha : at_ ≤ 65535) (hs : sz ≤ 65535) (hc : ct ≤ 65535) (d : List UInt8) (A : Option Addr) (cc : Nat) (w : World) (hsl : Sl w 1 (.slice A d.length cc) d.length (bv d)) :
    Calls Tryz.prog 4 #[.int .u16 (at_ : Int), .int .u16 (sz : Int), .slice A d.length cc, .int .u16 (ct : Int)] w fun e w' => e = .returned (.bool true) ∧ Below w.heap.size w w' := by
  have HBE : Hid (Calls Tryz.prog 8 #[.int .i64 200] w (BgS 200 w)) := Lib.hid (begin14_walk 200 (by decide) (by decide) w)
  obtain ⟨dl, hdl⟩ : ∃ z, z = d.length := ⟨_, rfl⟩
  have HDL := Lib.hid hdl
  have HSL := Lib.hid hsl
  rw [← hdl]
  have v1 : IntKind.i64.wrap (at_ : Int) = (at_ : Int) := IntWalk.i64_in _ (by omega)
  have v2 : IntKind.i64.wrap (sz : Int) = (sz : Int) := IntWalk.i64_in _ (by omega)
  have v3 : IntKind.i64.wrap (ct : Int) = (ct : Int) := IntWalk.i64_in _ (by omega)
  obtain ⟨p, hp⟩ : ∃ p : Nat, p = at_ % 9000 := ⟨_, rfl⟩
  have p1 : (at_ : Int) % 9000 = (p : Int) := by omega
  have p2 : IntKind.i64.wrap (p : Int) = (p : Int) := IntWalk.i64_in _ (by omega)
  have hp9 : p < 9000 := by omega
  clear hsl hdl hp ha
  go_enter Tryz.func4, Tryz.ntmps4
  go_wp2_with fail
  refine HBE.out.mono ?_
  rintro r' w1 ⟨c, rfl, hsw1, hcN, hcs, hb1⟩
  have HAW := Lib.hid (awake14_walk w1)
  have HSW1 := Lib.hid hsw1
  have HB1 := Lib.hid hb1
  have HCN := Lib.hid hcN
  have HCS := Lib.hid hcs
  clear hsw1 hb1 hcN hcs
  go_wp2_with fail
  refine HAW.out.mono ?_
  rintro r' w2 ⟨rfl, hb2⟩
  by_cases hbig : 300 < dl
  · have g1 : (300 : Int) < (dl : Int) := by omega
    have HAW2 := Lib.hid (awake14_walk w2)
    have HB2 := Lib.hid (bstep HB1.out hb2)
    clear hb2 hbig
    go_wp2_with fail
    refine HAW2.out.mono ?_
    rintro r' w3 ⟨rfl, hb3⟩
    have HB3 := Lib.hid (bstep HB2.out hb3)
    clear hb3
    go_wp2
    go_ret
    exact ⟨rfl, HB3.out⟩
  · have g1 : ¬ (300 : Int) < (dl : Int) := by omega
    have HNW := Lib.hid (begin_new (HSW1.out.below hb2) HCS.out)
    have HB2 := Lib.hid (bstep HB1.out hb2)
    have HSW2 := Lib.hid (HSW1.out.below hb2)
    clear hb2
    go_wp2_with fail
    refine HNW.out.mono ?_
    rintro r' w3 ⟨rfl, hsw3, hk3⟩
    have hb3 := nwk_below HSW2.out HB2.out rfl hk3
    obtain ⟨en, hen⟩ : ∃ en : Nat, en = if dl = 0 then 0 else p + dl := ⟨_, rfl⟩
    obtain ⟨less, hless⟩ : ∃ l : Nat, l = ct % (en + 1) := ⟨_, rfl⟩
    obtain ⟨mr, hmr⟩ : ∃ l : Nat, l = sz % (9728 - less + 1) := ⟨_, rfl⟩
    have hen9 : en ≤ 9300 := by rw [hen]; split <;> omega
    have hle : less ≤ en := by rw [hless]; have := Nat.mod_lt ct (show 0 < en + 1 by omega); omega
    have hmm : mr ≤ 9728 - less := by rw [hmr]; have := Nat.mod_lt sz (show 0 < 9728 - less + 1 by omega); omega
    have hx2 : NewN (updF freshX 2 (nwNode 1 c.sup.gens (freshX 2)) 2) := by rw [updF_same]; exact nw_new _ _
    have hAj : d.length ≠ 0 → ∀ j, A.map (·.block) = some j → j ≠ c.nw.p.b := fun h0 j hj => by
      have h1 := hsw3.news
      have := HSL.out.lt (k := j) (by rw [ownBlock_slice]; exact hj) (by
        intro e0
        rw [bv_eq_nil] at e0
        rw [e0] at h0
        exact h0 rfl)
      omega
    have hwr := hole_write hsw3 (by decide) hb3 rfl hx2 (by rw [show c.nw.N = 200 from HCN.out, cnt43]; decide) p hp9 d (by rw [← HDL.out]; omega) A cc (HSL.out.below hb3) hAj (truT less) (Nat.le_refl _)
    rw [← HDL.out, ← hen] at hwr
    have HWR : Hid (Calls Tryz.prog 12 #[.pointer (some ⟨c.p.k, 0, none⟩), .int .i64 2, .int .i64 (p : Int), .slice A dl cc] w3 _) := Lib.hid hwr
    have HRG := Lib.hid (show en ≤ 9300 ∧ less ≤ en ∧ mr ≤ 9728 - less ∧ (dl ≠ 0 → en = p + dl) ∧ (dl = 0 → en = 0) from ⟨hen9, hle, hmm, fun h => by rw [hen, if_neg h], fun h => by rw [hen, if_pos h]⟩)
    have e1 : IntKind.i64.wrap ((en : Int) + 1) = (en : Int) + 1 := IntWalk.i64_in _ (by omega)
    have e2 : ¬ (en : Int) + 1 = 0 := by omega
    have e2' : (((en : Int) + 1) == 0) = false := beq_eq_false_iff_ne.2 (by omega)
    have e3 : (ct : Int).tmod ((en : Int) + 1) = (less : Int) := by
      rw [hless, Int.tmod_eq_emod_of_nonneg (by omega), Int.natCast_emod]
      rfl
    have e3' : (ct : Int) % ((en : Int) + 1) = (less : Int) := by
      rw [hless, Int.natCast_emod]
      rfl
    have e4 : IntKind.i64.wrap (less : Int) = (less : Int) := IntWalk.i64_in _ (by omega)
    have f1 : IntKind.i64.wrap (9728 - (less : Int)) = 9728 - (less : Int) := IntWalk.i64_in _ (by omega)
    have f2 : IntKind.i64.wrap (9728 - (less : Int) + 1) = 9728 - (less : Int) + 1 := IntWalk.i64_in _ (by omega)
    have f3 : ¬ 9728 - (less : Int) + 1 = 0 := by omega
    have f3' : ((9728 - (less : Int) + 1) == 0) = false := beq_eq_false_iff_ne.2 (by omega)
    have f4 : (sz : Int) % (9728 - (less : Int) + 1) = (mr : Int) := by
      rw [hmr, Int.natCast_emod]
      congr 1
      omega
    have f4' : (sz : Int).tmod (9728 - (less : Int) + 1) = (mr : Int) := by
      rw [hmr, Int.tmod_eq_emod_of_nonneg (by omega), Int.natCast_emod]
      congr 1
      omega
    have f5 : IntKind.i64.wrap (mr : Int) = (mr : Int) := IntWalk.i64_in _ (by omega)
    have f6 : IntKind.i64.wrap ((less : Int) + (mr : Int)) = ((less + mr : Nat) : Int) := by rw [IntWalk.i64_in _ (by omega)]; omega
    obtain ⟨more, hmore⟩ : ∃ z : Nat, z = less + mr := ⟨_, rfl⟩
    rw [← hmore] at f6
    have HMO := Lib.hid hmore
    have gdl : dl ≠ 0 → IntKind.i64.wrap ((p : Int) + (dl : Int)) = (en : Int) := fun h => by
      rw [hen, if_neg h, IntWalk.i64_in _ (by omega)]
      omega
    have GDL := Lib.hid gdl
    clear hsw3 hk3 hb3 hen hless hmr hen9 hle hmm hx2 hAj hwr hmore gdl hbig
    go_wp2_with fail
    refine HWR.out.mono ?_
    rintro r' w4 ⟨rfl, hho4, hb4⟩
    have HHO4 := Lib.hid hho4
    have HB4 := Lib.hid hb4
    have HTR := Lib.hid (hole_trunc hho4 (by decide) hb4 rfl less (by have := HRG.out; omega) (fun _ t ht => ht))
    clear hho4 hb4
    go_upto_if 53 with fail
    go_cut [13] (fun v wx => v = .int .i64 (en : Int) ∧ wx = w4)
    case first =>
      by_cases h0 : dl = 0
      · have k0 : ¬ (0 : Int) < (dl : Int) := by omega
        have hen0 := HRG.out.2.2.2.2 h0
        clear h0
        go_wp2_with fail
        go_meet
        case rel => exact ⟨by rw [hen0]; rfl, rfl⟩
      · have k0 : (0 : Int) < (dl : Int) := by omega
        have k1 := GDL.out h0
        clear h0
        go_wp2_with fail
        go_meet
        case rel => exact ⟨rfl, rfl⟩
    case rest =>
      obtain ⟨rfl, rfl⟩ := hcut
      go_wp2_with fail
      refine HTR.out.mono ?_
      rintro r' w5 ⟨rfl, hho5, hb5⟩
      have HB5 := Lib.hid hb5
      have HTR5 := Lib.hid (hole_trunc hho5 (by decide) hb5 rfl more (by have := HRG.out; have := HMO.out; omega) (fun hlt => by have := HMO.out; omega))
      clear hho5 hb5
      go_wp2_with fail
      refine HTR5.out.mono ?_
      rintro r' w6 ⟨rfl, hho6, hb6⟩
      have HB6 := Lib.hid hb6
      have HRD := Lib.hid (hole_read hho6 (by decide) (by have := HRG.out; have := HMO.out; omega))
      clear hho6 hb6
      go_wp2_with fail
      refine HRD.out.mono ?_
      rintro r' w7 ⟨A7, rfl, hnb7, hb7⟩
      have hsl7 := hnb7.sl
      rw [List.length_map, List.length_range] at hsl7
      have HSL7 := Lib.hid hsl7
      have HB7 := Lib.hid (bstep HB6.out hb7)
      have HSLB := Lib.hid (HSL.out.below (bstep HB6.out hb7))
      have gm0 : ((more : Int) == (more : Int)) = true := beq_self_eq_true _
      clear hnb7 hb7 hsl7
      go_wp2_with fail
      go_loopw [18] (fun v wr => wr = w7 ∧ ∃ i : Nat, v = .int .i64 (i : Int) ∧ i ≤ more) (fun v _ => more - (intOf v).toNat)
      case atStart => exact ⟨rfl, 0, rfl, Nat.zero_le _⟩
      case round =>
        obtain ⟨rfl, i, rfl, hi⟩ := hrel
        by_cases hlt : i < more
        · have ga : (i : Int) < (more : Int) := by omega
          have gj0 : (0 : Int) ≤ (i : Int) := by omega
          have gc : IntKind.i64.wrap ((i : Int) + 1) = (i : Int) + 1 := IntWalk.i64_in _ (by have := HRG.out; have := HMO.out; omega)
          obtain ⟨q, hq⟩ : ∃ q : UInt8, q = (if i < more then if i < less then if p ≤ i ∧ i < p + dl then d.getD (i - p) 0 else 0 else 0 else 0) := ⟨_, rfl⟩
          have hx : ((List.range more).map fun k => if k < more then if k < less then if p ≤ k ∧ k < p + dl then d.getD (k - p) 0 else 0 else 0 else 0)[i]? = some q := by
            rw [List.getElem?_map, List.getElem?_range hlt, hq]
            rfl
          obtain ⟨bx, ox, hAx, _, hcx⟩ := bv_at HSL7.out hx
          subst hAx
          rw [if_pos hlt] at hq
          by_cases hc : p ≤ i ∧ i < less ∧ i < en
          · obtain ⟨c1, c2, c3⟩ := hc
            have hdl0 : dl ≠ 0 := fun h0 => by have := HRG.out.2.2.2.2 h0; omega
            have hen := HRG.out.2.2.2.1 hdl0
            have k1 : (p : Int) ≤ (i : Int) := by omega
            have k2 : (i : Int) < (less : Int) := by omega
            have k3 : (i : Int) < (en : Int) := by omega
            obtain ⟨j, hj⟩ : ∃ j : Nat, j = i - p := ⟨_, rfl⟩
            have k4 : IntKind.i64.wrap ((i : Int) - (p : Int)) = (j : Int) := by rw [IntWalk.i64_in _ (by omega)]; omega
            have hqj : d[j]? = some q := by
              rw [if_pos c2, if_pos ⟨c1, by omega⟩, ← hj, List.getD_eq_getElem?_getD, List.getElem?_eq_getElem (by rw [← HDL.out]; omega)] at hq
              rw [hq, List.getElem?_eq_getElem (by rw [← HDL.out]; omega)]
              rfl
            have hsb := HSLB.out
            obtain ⟨bb, ob, hAb, _, hcb⟩ := bv_at hsb hqj
            subst hAb
            have k5 : (0 : Int) ≤ (j : Int) := by omega
            have k6 : (j : Int) < (dl : Int) := by omega
            have HLT := Lib.hid hlt
            clear hx hq hqj hsb hdl0 hen hj c1 c2 c3 hi hlt
            go_wp2_with fail
            go_roundw
            case rel => exact ⟨by first | rfl | trivial, i + 1, by rw [Int.natCast_add]; rfl, HLT.out⟩
            case measure => simp only [intOf]; have := HLT.out; omega
          · have hq0 : q = 0 := by
              rw [hq]
              by_cases c2 : i < less
              · rw [if_pos c2]
                by_cases c1 : p ≤ i ∧ i < p + dl
                · exfalso
                  have hdl0 : dl ≠ 0 := by omega
                  have := HRG.out.2.2.2.1 hdl0
                  exact hc ⟨c1.1, c2, by omega⟩
                · rw [if_neg c1]
              · rw [if_neg c2]
            have hcx0 : wr.cell? ⟨bx, ox + i, none⟩ = some (.int .u8 0) := by rw [hcx, hq0]; rfl
            have HLT := Lib.hid hlt
            clear hcx hx hq hq0 hi hlt
            by_cases c1 : p ≤ i
            · have k1 : (p : Int) ≤ (i : Int) := by omega
              by_cases c2 : i < less
              · have k2 : (i : Int) < (less : Int) := by omega
                have k3 : ¬ (i : Int) < (en : Int) := by omega
                clear hc c1 c2
                go_wp2_with fail
                go_roundw
                case rel => exact ⟨by first | rfl | trivial, i + 1, by rw [Int.natCast_add]; rfl, HLT.out⟩
                case measure => simp only [intOf]; have := HLT.out; omega
              · have k2 : ¬ (i : Int) < (less : Int) := by omega
                clear hc c1 c2
                go_wp2_with fail
                go_roundw
                case rel => exact ⟨by first | rfl | trivial, i + 1, by rw [Int.natCast_add]; rfl, HLT.out⟩
                case measure => simp only [intOf]; have := HLT.out; omega
            · have k1 : ¬ (p : Int) ≤ (i : Int) := by omega
              clear hc c1
              go_wp2_with fail
              go_roundw
              case rel => exact ⟨by first | rfl | trivial, i + 1, by rw [Int.natCast_add]; rfl, HLT.out⟩
              case measure => simp only [intOf]; have := HLT.out; omega
        · obtain rfl : i = more := by omega
          have ga : ¬ (i : Int) < (i : Int) := by omega
          clear hlt hi
          go_wp2
          go_ret
          exact ⟨rfl, HB7.out⟩
theorem holes_open (x y z : Int) (hx : (Lit.int .u16 x).wf = true) (hy : (Lit.int .u16 y).wf = true) (hz : (Lit.int .u16 z).wf = true) (b : List UInt8) (A : Option Addr) (c : Nat) (w : World) (h : Sl w 1 (.slice A b.length c) b.length (bv b)) :
    Calls Tryz.prog 4 #[.int .u16 x, .int .u16 y, .slice A b.length c, .int .u16 z] w fun e w' => e = .returned (.bool true) ∧ Below w.heap.size w w' := by
  simp only [Lit.wf, Bool.and_eq_true, decide_eq_true_eq] at hx hy hz
  have h1 : 0 ≤ x ∧ x ≤ 65535 := hx
  have h2 : 0 ≤ y ∧ y ≤ 65535 := hy
  have h3 : 0 ≤ z ∧ z ≤ 65535 := hz
  obtain ⟨a, rfl⟩ : ∃ a : Nat, x = (a : Int) := ⟨x.toNat, by omega⟩
  obtain ⟨d, rfl⟩ : ∃ a : Nat, y = (a : Int) := ⟨y.toNat, by omega⟩
  obtain ⟨e, rfl⟩ : ∃ a : Nat, z = (a : Int) := ⟨z.toNat, by omega⟩
  exact holes_walk a d e (by omega) (by omega) (by omega) b A c w h
end Go.Proofs.YtehfoopefefpnaaGreat
/- What an argument that can be read looks like, type by type: numbers, texts, bytes, structs, slices. No program in sight. -/
set_option linter.unusedSimpArgs false
set_option linter.unusedVariables false
namespace Go.Proofs.YtehfoopefefpnaaGreat
open Go.RowKit Go.ChangeShapes Go.WideShapes Go.ChangeAt

/-- The cells cs can be read as a value of type t, and nothing in it is greater than a machine's memory. -/
def Opens (P : Program) (w : World) (t : TypeId) (cs : List Value) : Prop :=
  ∃ (H : Type) (enc : TypeId × Value → H) (fuel : Nat) (x : DataW H × List MemPlace), DataW.trod enc P w 0 (fun _ => true) true fuel t cs = some x ∧ ∀ n ∈ x.1.weights P t, n ≤ 140737488351232

theorem Opens.int {P : Program} {w : World} {t : TypeId} {cs : List Value} {k : IntKind} (ht : P.underlying t = some (.int k)) (h : Opens P w t cs) : ∃ n, cs = [.int k n] ∧ (Lit.int k n).wf = true := by
  obtain ⟨H, enc, fuel, x, hf, _⟩ := h
  obtain ⟨n, rfl, _, hw⟩ := DataW.trod_int ht hf
  exact ⟨n, rfl, hw⟩
theorem Opens.bool {P : Program} {w : World} {t : TypeId} {cs : List Value} (ht : P.underlying t = some .bool) (h : Opens P w t cs) : ∃ b, cs = [.bool b] := by
  obtain ⟨H, enc, fuel, x, hf, _⟩ := h
  obtain ⟨b, rfl, _⟩ := DataW.trod_bool ht hf
  exact ⟨b, rfl⟩
theorem Opens.string {P : Program} {w : World} {t : TypeId} {cs : List Value} (ht : P.underlying t = some .string) (h : Opens P w t cs) : ∃ s : ByteArray, cs = [.string s] ∧ s.size ≤ 140737488351232 := by
  obtain ⟨H, enc, fuel, x, hf, hw⟩ := h
  obtain ⟨s, rfl, rfl, _⟩ := DataW.trod_string ht hf
  refine ⟨s, rfl, ?_⟩
  have := hw s.data.toList.length (by simp [DataW.weights])
  rw [Array.length_toList] at this
  exact this

theorem weightsEach_mem {H : Type} {P : Program} : ∀ (fs : List Field) (xs : List (DataW H)) (i : Nat) (f : Field) (d : DataW H), fs[i]? = some f → xs[i]? = some d → ∀ n ∈ d.weights P f.type, n ∈ DataW.weightsEach P (fs.map (·.type)) xs
  | f0 :: fs, d0 :: xs, 0, f, d, hf, hd, n, hn => by
    simp only [List.getElem?_cons_zero, Option.some.injEq] at hf hd
    subst hf; subst hd
    simp only [List.map_cons, DataW.weightsEach, List.mem_append]
    exact .inl hn
  | f0 :: fs, d0 :: xs, i + 1, f, d, hf, hd, n, hn => by
    simp only [List.getElem?_cons_succ] at hf hd
    simp only [List.map_cons, DataW.weightsEach, List.mem_append]
    exact .inr (weightsEach_mem fs xs i f d hf hd n hn)
  | [], _, _, f, d, hf, _, _, _ => by simp at hf
  | _ :: _, [], _, f, d, _, hd, _, _ => by simp at hd
theorem weightsAll_mem {H : Type} {P : Program} {e : TypeId} : ∀ (xs : List (DataW H)) (d : DataW H), d ∈ xs → ∀ n ∈ d.weights P e, n ∈ DataW.weightsAll P e xs
  | [], d, hd, _, _ => by simp at hd
  | d0 :: xs, d, hd, n, hn => by
    simp only [DataW.weightsAll, List.mem_append]
    rcases List.mem_cons.1 hd with rfl | h
    · exact .inl hn
    · exact .inr (weightsAll_mem xs d h n hn)

theorem Opens.struct {P : Program} {w : World} {t : TypeId} {cs : List Value} {fs : Array Field} (ht : P.underlying t = some (.struct fs)) (h : Opens P w t cs) :
    cs.length = P.cellsOf t ∧ ∀ (i : Nat) (f : Field), fs[i]? = some f → Opens P w f.type ((cs.drop f.offset).take (P.cellsOf f.type)) := by
  obtain ⟨H, enc, fuel, x, hf, hw⟩ := h
  obtain ⟨xs, n, _, rfl, hl, hlen, hfs⟩ := DataW.trod_struct ht hf
  refine ⟨hl, fun i f hi => ?_⟩
  have hif : i < fs.size := (Array.getElem?_eq_some_iff.1 hi).1
  obtain ⟨y, hy⟩ : ∃ y, xs[i]? = some y := ⟨xs[i]'(by omega), List.getElem?_eq_getElem (by omega)⟩
  refine ⟨H, enc, n, y, (hfs i f hi).trans hy, fun m hm => hw m ?_⟩
  simp only [DataW.weights, ht]
  exact weightsEach_mem fs.toList (xs.map (·.1)) i f y.1 (by simpa using hi) (by simp [hy]) m hm

theorem flat_cells {w : World} {ad : Addr} {size : Nat} : ∀ (css : List (List Value)) (base : Nat), (∀ i c, css[i]? = some c → c.length = size ∧ ∀ j, j < size → w.cell? (ad.add (base + i * size + j)) = c[j]?) →
    ∀ k u, css.flatten[k]? = some u → w.cell? (ad.add (base + k)) = some u
  | [], _, _, k, u, hu => by simp at hu
  | c :: css, base, h, k, u, hu => by
    obtain ⟨hl, hc⟩ := h 0 c rfl
    rw [List.flatten_cons, List.getElem?_append] at hu
    split at hu
    · rename_i hk
      have := hc k (by omega)
      rw [show base + 0 * size + k = base + k by omega] at this
      rw [this]; exact hu
    · rename_i hk
      have := flat_cells css (base + size) (fun i c' hi => by
        obtain ⟨h1, h2⟩ := h (i + 1) c' (by simpa using hi)
        refine ⟨h1, fun j hj => ?_⟩
        have := h2 j hj
        rw [show base + (i + 1) * size + j = base + size + i * size + j by rw [Nat.add_mul]; omega] at this
        exact this) (k - c.length) u hu
      rw [show base + size + (k - c.length) = base + k by omega] at this
      exact this

theorem flatten_len {size : Nat} : ∀ (css : List (List Value)), (∀ c ∈ css, c.length = size) → css.flatten.length = css.length * size
  | [], _ => by simp
  | c :: css, h => by
    rw [List.flatten_cons, List.length_append, flatten_len css (fun c hc => h c (by simp [hc])), h c (by simp), List.length_cons, Nat.add_mul]
    omega

/-- A slice that came in: its elements' cells, one list each. -/
theorem Opens.slice {P : Program} {w : World} {t e : TypeId} {cs : List Value} (ht : P.underlying t = some (.slice e)) (h : Opens P w t cs) :
    ∃ (v : Value) (n : Nat) (css : List (List Value)), cs = [v] ∧ css.length = n ∧ Sl w (P.cellsOf e) v n css.flatten ∧ (∀ c ∈ css, c.length = P.cellsOf e ∧ Opens P w e c) ∧ n * P.bytesOf e ≤ 140737488351232 := by
  obtain ⟨H, enc, fuel, x, hf, hw⟩ := h
  rcases DataW.trod_slice ht hf with ⟨rfl, rfl⟩ | ⟨a, len, cap, elems, rest, n, _, rfl, rfl, hb, hl, hm, hlen, hel, _, _⟩
  · exact ⟨_, 0, [], rfl, rfl, ⟨none, 0, rfl, .inl rfl, fun _ => ⟨rfl, rfl⟩, Nat.le_refl _, by simp⟩, by simp, by simp⟩
  · have hone : ∀ i, i < len → ∃ c : List Value, c.length = P.cellsOf e ∧ (∀ j, j < P.cellsOf e → w.cell? (a.add (i * P.cellsOf e + j)) = c[j]?) ∧ Opens P w e c := by
      intro i hi
      obtain ⟨y, hy⟩ : ∃ y, elems[i]? = some y := ⟨elems[i]'(by omega), List.getElem?_eq_getElem (by omega)⟩
      have h1 := (hel i hi).trans hy
      obtain ⟨c, hc, ht'⟩ := Option.bind_eq_some_iff.1 h1
      obtain ⟨_, h2, h3⟩ := World.cells?_some hc
      refine ⟨c, h2, fun j hj => by rw [← Go.Deep.add_add]; exact h3 j hj, H, enc, n, y, ht', fun k hk => hw k ?_⟩
      simp only [DataW.weights, ht]
      refine List.mem_cons_of_mem _ (List.mem_append_left _ ?_)
      exact weightsAll_mem _ y.1 (List.mem_map.2 ⟨y, List.mem_of_getElem? hy, rfl⟩) k hk
    obtain ⟨f, hfc⟩ := Go.Deep.choose_lt (α := List Value) (n := len) (p := fun i c => c.length = P.cellsOf e ∧ (∀ j, j < P.cellsOf e → w.cell? (a.add (i * P.cellsOf e + j)) = c[j]?) ∧ Opens P w e c) hone
    have hget : ∀ i c, ((List.range len).map f)[i]? = some c → i < len ∧ f i = c := by
      intro i c hi
      rw [List.getElem?_map] at hi
      rcases Nat.lt_or_ge i len with h | h
      · simp [h] at hi; exact ⟨h, hi⟩
      · simp [List.getElem?_eq_none (show (List.range len).length ≤ i by simpa using h)] at hi
    have hall : ∀ c ∈ (List.range len).map f, c.length = P.cellsOf e ∧ Opens P w e c := by
      intro c hc
      obtain ⟨i, hi, rfl⟩ := List.mem_map.1 hc
      have := hfc i (List.mem_range.1 hi)
      exact ⟨this.1, this.2.2⟩
    refine ⟨_, len, (List.range len).map f, rfl, by simp, ⟨some a, cap, rfl, .inr ⟨a, rfl, fun k u hu => ?_⟩, (fun e => by simp at e), hl, ?_⟩, hall, ?_⟩
    · have := flat_cells (w := w) (ad := a) (size := P.cellsOf e) ((List.range len).map f) 0 (fun i c hi => by
        obtain ⟨h1, rfl⟩ := hget i c hi
        have := hfc i h1
        exact ⟨this.1, fun j hj => by rw [Nat.zero_add]; exact this.2.1 j hj⟩) k u hu
      simpa using this
    · rw [flatten_len _ (fun c hc => (hall c hc).1)]; simp
    · have := hw ((elems.length + rest.length) * P.bytesOf e) (by simp [DataW.weights, ht])
      refine Nat.le_trans (Nat.mul_le_mul_right _ ?_) this
      omega

theorem map_byte {cs : List (List Value)} (h : ∀ c ∈ cs, ∃ b : UInt8, c = [.int .u8 (b.toNat : Int)]) : ∃ d : List UInt8, cs.flatten = bv d ∧ d.length = cs.length := by
  induction cs with
  | nil => exact ⟨[], rfl, rfl⟩
  | cons c cs ih =>
    obtain ⟨b, rfl⟩ := h c (by simp)
    obtain ⟨d, hd, hl⟩ := ih (fun c hc => h c (by simp [hc]))
    exact ⟨b :: d, by simp [bv] at hd ⊢; exact hd, by simp [hl]⟩
/-- A slice of bytes that came in. -/
theorem Opens.bytes {P : Program} {w : World} {t e : TypeId} {cs : List Value} (ht : P.underlying t = some (.slice e)) (he : P.underlying e = some (.int .u8)) (hc : P.cellsOf e = 1) (hb : P.bytesOf e = 1) (h : Opens P w t cs) :
    ∃ A c d, cs = [.slice A d.length c] ∧ Sl w 1 (.slice A d.length c) d.length (bv d) ∧ d.length ≤ 140737488351232 := by
  obtain ⟨v, n, css, rfl, hn, hs, hall, hr⟩ := h.slice ht
  rw [hc] at hs hall
  rw [hb] at hr
  obtain ⟨d, hd, hl⟩ := map_byte (cs := css) (fun c hcc => by
    obtain ⟨k, rfl, hw⟩ := (hall c hcc).2.int he
    have : 0 ≤ k ∧ k < 256 := by
      simp only [Lit.wf, IntKind.min, IntKind.max, IntKind.signed, IntKind.bits, Bool.and_eq_true, decide_eq_true_eq] at hw
      simp at hw
      omega
    exact ⟨UInt8.ofNat k.toNat, by simp; omega⟩)
  rw [hd] at hs
  have hs' := hs
  obtain ⟨A, c, rfl, _⟩ := hs'
  obtain rfl : n = d.length := by omega
  exact ⟨A, c, d, rfl, hs, by omega⟩
/-- The first argument's reading out of all arguments'. -/
theorem Opens.arg {H : Type} {enc : TypeId × Value → H} {P : Program} {w : World} {t : TypeId} {v : Value} {d : DataW H} {ps : List MemPlace} {ts : List TypeId} {ds : List (DataW H)} (h : DataW.Trod enc P w 0 (fun _ => true) true t v d ps)
    (hall : (DataW.weightsEach P ts ds).all (· ≤ reachBytes) = true) {j : Nat} (h1 : ts[j]? = some t) (h2 : ds[j]? = some d) : Opens P w t v.cells.toList := by
  obtain ⟨fuel, hf⟩ := h
  refine ⟨H, enc, fuel, (d, ps), hf, fun n hn => ?_⟩
  have := List.all_eq_true.1 hall n (DataW.weights_mem_each h1 h2 n hn)
  exact of_decide_eq_true this
end Go.Proofs.YtehfoopefefpnaaGreat
