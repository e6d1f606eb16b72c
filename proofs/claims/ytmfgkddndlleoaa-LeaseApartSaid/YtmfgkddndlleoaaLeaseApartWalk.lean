/- LeaseApart: the walk. -/
import Derived.Test.YtmfgkddndlleoaaPlay2
import Derived.Test.YtmfgkddndlleoaaApartOpen
import Derived.Deep.QuietTactic
import Derived.BigQuiet
set_option linter.unusedSimpArgs false
set_option linter.unusedVariables false
namespace Go.Proofs.Ytmfgkddndlleoaa.lawLeaseApart
open Go.RowKit

theorem step_row {w : World} {A : Option Addr} {c n k : Nat} {l : List ST} (h : Sl w 6 (.slice A n c) n (l.flatMap ST.cells)) {e : ST} (hl : l[k]? = some e) :
    ∃ b o, A = some ⟨b, o, none⟩ ∧ b < w.heap.size ∧ w.cell? ⟨b, o + k * 6, none⟩ = some (.int .i64 e.what) ∧ w.cell? ⟨b, o + k * 6 + 1, none⟩ = some (.int .i64 e.seat) ∧ w.cell? ⟨b, o + k * 6 + 2, none⟩ = some (.int .i64 e.mode) ∧ w.cell? ⟨b, o + k * 6 + 3, none⟩ = some (.int .i64 e.now) ∧ w.cell? ⟨b, o + k * 6 + 4, none⟩ = some (.int .i64 e.n) ∧ w.cell? ⟨b, o + k * 6 + 5, none⟩ = some (.int .i64 e.g) := by
  obtain ⟨A', c', e', hr, _⟩ := h
  injection e' with e1 _ e2
  subst e1
  obtain ⟨q0, q1, q2, q3, q4, q5⟩ := steps_at hl
  rcases hr with h0 | ⟨ad, rfl, hc⟩
  · rw [h0] at q0; simp at q0
  · have h0 := hc _ _ q0
    have h1 := hc _ _ q1
    have h2 := hc _ _ q2
    have h3 := hc _ _ q3
    have h4 := hc _ _ q4
    have h5 := hc _ _ q5
    obtain ⟨b, o, spot⟩ := ad
    obtain ⟨e0, he0⟩ : ∃ e0, l[0]? = some e0 := ⟨l[0]'(by have := (List.getElem?_eq_some_iff.1 hl).1; omega), List.getElem?_eq_getElem _⟩
    have hz := hc _ _ (steps_at he0).1
    have es : spot = none := by
      have : (⟨b, o, spot⟩ : Addr).add (0 * 6) = ⟨b, o, spot⟩ := by unfold Addr.add; simp
      rw [this] at hz
      exact World.cell?_spot hz
    subst es
    simp only [Addr.add_lit] at h0 h1 h2 h3 h4 h5
    exact ⟨b, o, rfl, World.block_lt_of_cell? w _ h0, h0, h1, h2, h3, h4, h5⟩
/-- A row of leases is no block of three cells. -/
theorem row_ne {w : World} {A : Option Addr} {c B : Nat} {l : List LE} {x y z : Value} {T : TypeId} {fr : Nat × Nat} (h : Sl w 5 (.slice A l.length c) l.length (flat l)) (hb : w.heap[B]? = some (.cells #[x, y, z] T fr)) : ∀ k, A.map (·.block) = some k → l ≠ [] → k ≠ B := by
  rintro k e hn rfl
  obtain ⟨a, ha⟩ : ∃ a, l[0]? = some a := ⟨l[0]'(List.length_pos_iff.2 hn), List.getElem?_eq_getElem _⟩
  obtain ⟨b, o, rfl, _, _, _, _, _, r4⟩ := flat_row h ha
  injection e with e
  have e : b = k := e
  subst e
  rw [cell_of_row w b _ _ _ _ hb] at r4
  have := (Array.getElem?_eq_some_iff.1 r4).1
  simp at this
  omega
theorem apart_at {l : List LE} (h : Apart l) {i j : Nat} {x y : LE} (hij : i < j) (hx : l[i]? = some x) (hy : l[j]? = some y) : ¬ clash y x := by
  obtain ⟨h1, rfl⟩ := List.getElem?_eq_some_iff.1 hx
  obtain ⟨h2, rfl⟩ := List.getElem?_eq_some_iff.1 hy
  exact fun hc => List.pairwise_iff_getElem.1 h i j h1 h2 hij (clash_symm hc)
/-- Between two steps. -/
structure LS (w : World) (t b6 : Nat) (born rb : Int) (SA : Option Addr) (n c : Nat) (ss : List ST) (N : Nat) (wr : World) : Prop where
  ps : ∃ L Q A c ls B d qs X, PS wr t born L Q A c ls B d qs X N ∧ wr.heap[b6]? = some (.cells #[.int .i64 rb, .slice A ls.length c, .slice B qs.length d] 29 (0, 0)) ∧ X b6 ∧ (∀ k, k < w.heap.size → X k)
  low : w.heap.size ≤ b6
  bel : Below w.heap.size w wr
theorem LS.below {w : World} {t b6 : Nat} {born rb : Int} {SA : Option Addr} {n c : Nat} {ss : List ST} {N : Nat} {wr wr' : World} (h : LS w t b6 born rb SA n c ss N wr) (hb : Below wr.heap.size wr wr') : LS w t b6 born rb SA n c ss N wr' := by
  obtain ⟨⟨L, Q, A, c, ls, B, d, qs, X, h1, h2, h3, h4⟩, h5, h6⟩ := h
  exact ⟨⟨L, Q, A, c, ls, B, d, qs, X, h1.below hb, (Keep.of_below (S := fun _ => False) hb).blk h2 id, h3, h4⟩, h5, bstep h6 hb⟩
/-- Behind the call of play. -/
def CS (w : World) (t b6 : Nat) (born rb : Int) (X0 : Nat → Prop) (N : Nat) (wr : World) (v : Value) (wx : World) : Prop :=
  ∃ b8 L Q A c ls B d qs X x y, v = .pointer (some ⟨b8, 0, none⟩) ∧ wx.heap[b8]? = some (.cells #[.int .i64 rb, .slice A (List.length ls) c, .slice B (List.length qs) d] 29 (0, 0)) ∧ b8 ≠ b6 ∧ PS wx t born L Q A c ls B d qs X N ∧ (∀ k, X0 k → X k) ∧ Keep (fun k => ¬ X0 k) wr wx ∧ wx.heap[b6]? = some (.cells #[.int .i64 rb, x, y] 29 (0, 0))
theorem cs1 {w wr w5 : World} {t b6 : Nat} {born rb : Int} {X : Nat → Prop} {N : Nat} {L Q ls qs : List LE} {A B : Option Addr} {c d : Nat} {X5 : Nat → Prop} {x y : Value} (K5 : Keep (fun k => ¬ X k) wr w5) (P5 : PS w5 t born L Q A c ls B d qs X5 N) (U5 : ∀ k, X k → X5 k)
    (hb : wr.heap[b6]? = some (.cells #[.int .i64 rb, x, y] 29 (0, 0))) (xb : X b6) :
    CS w t b6 born rb X N wr (.pointer (some ⟨w5.heap.size, 0, none⟩)) (w5.alloc (.cells #[.int .i64 rb, .slice A ls.length c, .slice B qs.length d] 29)) := by
  have h1 := blk_lt hb
  have h2 := K5.size
  have k5 := K5.alloc (.cells #[.int .i64 rb, .slice A ls.length c, .slice B qs.length d] 29)
  exact ⟨w5.heap.size, L, Q, A, c, ls, B, d, qs, X5, x, y, rfl, blk_new w5 _, by omega, P5.below ((Below.refl _ w5).alloc (Nat.le_refl _) _), U5, k5, k5.blk hb (fun h => h xb)⟩
theorem cs2 {w wr w5 : World} {t b6 : Nat} {born rb : Int} {X : Nat → Prop} {N : Nat} {L Q ls qs : List LE} {A B : Option Addr} {c d : Nat} {X5 : Nat → Prop} {x y p q r : Value} (K5 : Keep (fun k => ¬ X k) wr w5) (P5 : PS w5 t born L Q A c ls B d qs X5 N) (U5 : ∀ k, (X k ∨ k = wr.heap.size) → X5 k)
    (hb : wr.heap[b6]? = some (.cells #[.int .i64 rb, x, y] 29 (0, 0))) (xb : X b6) (hz : w5.heap[wr.heap.size]? = some (.cells #[p, q, r] 29 (0, 0))) :
    CS w t b6 born rb X N wr (.pointer (some ⟨wr.heap.size, 0, none⟩)) (((w5.setCell ⟨wr.heap.size, 0, none⟩ (.int .i64 rb)).setCell ⟨wr.heap.size, 1, none⟩ (.slice A ls.length c)).setCell ⟨wr.heap.size, 2, none⟩ (.slice B qs.length d)) := by
  have h1 := blk_lt hb
  have kz : Keep (fun i => i = wr.heap.size) w5 (((w5.setCell ⟨wr.heap.size, 0, none⟩ (.int .i64 rb)).setCell ⟨wr.heap.size, 1, none⟩ (.slice A ls.length c)).setCell ⟨wr.heap.size, 2, none⟩ (.slice B qs.length d)) := (((Keep.refl (fun i => i = wr.heap.size) w5).setCell (fun _ => rfl) _).setCell (fun _ => rfl) _).setCell (fun _ => rfl) _
  refine ⟨wr.heap.size, L, Q, A, c, ls, B, d, qs, X5, x, y, rfl, blk_set (blk_set (blk_set hz _) _) _, by omega, P5.stored kz (fun k e => U5 k (.inr e)) (fun k e hn => row_ne P5.sl hz k e hn) (fun k e hn => row_ne P5.sq hz k e hn), fun k hk => U5 k (.inl hk), K5.trans kz (fun i hi e => by omega), ?_⟩
  exact kz.blk (K5.blk hb (fun h => h xb)) (by omega)
def AInv (L : List LE) (w8 : World) (v : Value) (wr : World) : Prop := ∃ a : Nat, a ≤ L.length ∧ v = .int .i64 (a : Int) ∧ Below w8.heap.size w8 wr
def BInv (a : Nat) (w8 : World) (v : Value) (wr : World) : Prop := ∃ b : Nat, b ≤ a ∧ v = .int .i64 (b : Int) ∧ Below w8.heap.size w8 wr
set_option maxRecDepth 100000 in
set_option maxHeartbeats 4000000 in
theorem walk (now : Int) (SA : Option Addr) (n c : Nat) (ss : List ST) (w : World) (hn : ss.length = n) (hs : Sl w 6 (.slice SA n c) n (ss.flatMap ST.cells)) :
    Calls Try.prog 3 #[.int .i64 now, .slice SA n c] w fun e w' => e = .returned (.bool true) ∧ Below w.heap.size w w' := by
  have HN := Lib.hid (newX now w)
  have HSS := Lib.hid hs
  have HNS := Lib.hid hn
  clear hs hn
  go_enter Try.func3, Try.ntmps3
  go_wp2_with fail
  refine HN.out.mono ?_
  rintro e w1 ⟨rfl, hT1, hb1, hz1⟩
  have B1 := Lib.hid hb1
  have T1 := Lib.hid hT1
  clear hb1 hT1
  go_wp2_with fail
  refine (awake_walk w1).mono ?_
  rintro e w2 ⟨rfl, hb2⟩
  have B2 := Lib.hid (bstep B1.out hb2)
  have T2 := Lib.hid (T1.out.below hb2)
  have hz2 : w.heap.size < w2.heap.size := Nat.lt_of_lt_of_le hz1 hb2.size
  clear hb2 hz1
  go_wp2_with fail
  refine (rnew_walk now w2).mono ?_
  rintro e w3 ⟨rfl, hb3⟩
  obtain ⟨rb, hrb⟩ : ∃ rb, rb = clockP now := ⟨_, rfl⟩
  rw [← hrb] at T2 ⊢
  obtain ⟨w4, hw4⟩ : ∃ w4, w4 = w3.alloc (.cells #[.int .i64 rb, .slice none 0 0, .slice none 0 0] 29) := ⟨_, rfl⟩
  have hb4 : Below w3.heap.size w3 w4 := by rw [hw4]; exact (Below.refl _ w3).alloc (Nat.le_refl _) _
  have x4 : w4.heap[w3.heap.size]? = some (.cells #[.int .i64 rb, .slice none 0 0, .slice none 0 0] 29 (0, 0)) := by rw [hw4]; exact blk_new w3 _
  have z4 : w4.heap.size = w3.heap.size + 1 := by rw [hw4]; simp
  have z3 := hb3.size
  obtain ⟨b6, hb6⟩ : ∃ b6, b6 = w3.heap.size := ⟨_, rfl⟩
  have HST : Hid (LS w w.heap.size b6 rb rb SA n c ss 0 w4) := Lib.hid (by
    refine ⟨⟨[], [], none, 0, [], none, 0, [], fun k => k < w.heap.size ∨ k = b6, ⟨?_, List.Pairwise.nil, ⟨none, 0, rfl, .inl rfl, fun _ => ⟨rfl, rfl⟩, Nat.le_refl _, rfl⟩, ⟨none, 0, rfl, .inl rfl, fun _ => ⟨rfl, rfl⟩, Nat.le_refl _, rfl⟩, by simp, by simp, ?_, Nat.le_refl _, Nat.le_refl _, Nat.le_refl _, Nat.le_refl _⟩, by rw [hb6]; exact x4, .inr rfl, fun k hk => .inl hk⟩, by omega, bstep B2.out (bstep hb3 hb4)⟩
    · refine T2.out.more (bstep hb3 hb4) (fun k hk => ?_)
      rcases hk with hk | hk
      · exact .inl hk
      · exact .inr (by omega)
    · rintro k (hk | hk) <;> omega)
  have HW4 := Lib.hid hw4
  clear hb3 hb4 x4 z4 z3 hw4 hrb
  go_upto_region 5 with fail
  rw [← HW4.out, ← hb6]
  clear hb6
  go_upto_region 6 with fail
  go_loopw [7] (fun v wr => ∃ i : Nat, i ≤ 60 ∧ v = .int .i64 (i : Int) ∧ LS w w.heap.size b6 rb rb SA n c ss i wr) (fun v _ => 60 - (intOf v).toNat)
  case atStart => exact ⟨0, by omega, rfl, HST.out⟩
  case round =>
    obtain ⟨i, hi, rfl, hls⟩ := hrel
    have HL := Lib.hid hls
    clear hls
    by_cases hlt : i < n ∧ i < 60
    · obtain ⟨hin, hi6⟩ := hlt
      obtain ⟨L, Q, A, ac, ls, B, d, qs, X, hps, hbx, hxb, hxl⟩ := HL.out.ps
      have hbel := HL.out.bel
      have hlow := HL.out.low
      obtain ⟨st, hst⟩ : ∃ st, ss[i]? = some st := ⟨ss[i]'(by rw [HNS.out]; exact hin), List.getElem?_eq_getElem _⟩
      have hsr : Sl wr 6 (.slice SA n c) n (ss.flatMap ST.cells) := HSS.out.keep (Keep.of_belowB (S := fun k => w.heap.size ≤ k) hbel (fun k _ h => h)) (fun k e hx h => by have := HSS.out.lt e hx; omega)
      obtain ⟨sb, so, rfl, hsb, s0, s1, s2, s3, s4, s5⟩ := step_row hsr hst
      have cb := blk_cells hbx
      have lb := blk_lt hbx
      have PSH := Lib.hid hps
      have BX := Lib.hid hbx
      have XB := Lib.hid hxb
      have XL := Lib.hid hxl
      have BE := Lib.hid hbel
      have i0 : (0 : Int) ≤ (i : Int) := by omega
      have i1 : (i : Int) < (n : Int) := by omega
      have i2 : (i : Int) < 60 := by omega
      obtain ⟨swhat, sseat, smode, snow, sn, sg⟩ := st
      dsimp only at s0 s1 s2 s3 s4 s5
      have HPL := Lib.hid (fun W (k : Below wr.heap.size wr W) => play_walk W X ⟨swhat, sseat, smode, snow, sn, sg⟩ w.heap.size rb rb L Q A ac ls B d qs i (PSH.out.below k) (by omega))
      dsimp only at HPL
      have hsw : sb < w.heap.size := by
        obtain ⟨sb2, so2, e2, hs2, _⟩ := step_row HSS.out hst
        injection e2 with e2
        injection e2 with e2 _
        rw [e2]; exact hs2
      have hxs : X sb := hxl sb hsw
      have HSV := Lib.hid (fun w' (k : Keep (fun k => ¬ X k) wr w') => (⟨(k.cell (a := ⟨b6, 0, none⟩) ((cb 0).trans rfl) (fun h => h hxb)), (k.cell (a := ⟨b6, 1, none⟩) ((cb 1).trans rfl) (fun h => h hxb)), (k.cell (a := ⟨b6, 2, none⟩) ((cb 2).trans rfl) (fun h => h hxb)), (k.cell s0 (fun h => h hxs)), (k.cell s1 (fun h => h hxs)), (k.cell s2 (fun h => h hxs)), (k.cell s3 (fun h => h hxs)), (k.cell s4 (fun h => h hxs)), (k.cell s5 (fun h => h hxs))⟩ :
        w'.cell? ⟨b6, 0, none⟩ = some (.int .i64 rb) ∧ w'.cell? ⟨b6, 1, none⟩ = some (.slice A ls.length ac) ∧ w'.cell? ⟨b6, 2, none⟩ = some (.slice B qs.length d) ∧ w'.cell? ⟨sb, so + i * 6, none⟩ = some (.int .i64 swhat) ∧ w'.cell? ⟨sb, so + i * 6 + 1, none⟩ = some (.int .i64 sseat) ∧ w'.cell? ⟨sb, so + i * 6 + 2, none⟩ = some (.int .i64 smode) ∧ w'.cell? ⟨sb, so + i * 6 + 3, none⟩ = some (.int .i64 snow) ∧ w'.cell? ⟨sb, so + i * 6 + 4, none⟩ = some (.int .i64 sn) ∧ w'.cell? ⟨sb, so + i * 6 + 5, none⟩ = some (.int .i64 sg)))
      have K0 : Hid (Keep (fun k => ¬ X k) wr wr.drew) := Lib.hid (Keep.refl _ wr).drew
      have B0 : Hid (Below wr.heap.size wr wr.drew) := Lib.hid (Below.refl _ wr).drew
      obtain ⟨WA, hWA⟩ : ∃ WA, WA = (wr.alloc (.cells #[.int .i64 0, .slice none 0 0, .slice none 0 0] 29)).drew := ⟨_, rfl⟩
      have BA : Below wr.heap.size wr WA := by rw [hWA]; exact ((Below.refl _ wr).alloc (Nat.le_refl _) _).drew
      have zA : WA.heap.size = wr.heap.size + 1 := by rw [hWA]; exact (by simp : (wr.alloc (.cells #[.int .i64 0, .slice none 0 0, .slice none 0 0] 29)).heap.size = wr.heap.size + 1)
      have HZA : Hid (WA.heap[wr.heap.size]? = some (.cells #[.int .i64 0, .slice none 0 0, .slice none 0 0] 29 (0, 0))) := Lib.hid (by rw [hWA]; exact blk_new wr _)
      have KA : Hid (Keep (fun k => ¬ X k) wr WA) := Lib.hid (Keep.of_below BA)
      have HPL2 := Lib.hid (play_walk WA (fun k => X k ∨ k = wr.heap.size) ⟨swhat, sseat, smode, snow, sn, sg⟩ w.heap.size rb rb L Q A ac ls B d qs i (PSH.out.own BA (fun k => k = wr.heap.size) (fun k hk => by subst hk; exact ⟨Nat.le_refl _, by omega⟩)) (by omega))
      dsimp only at HPL2
      have HSV6 := Lib.hid (fun w' (k : Keep (fun k => ¬ X k) wr w') a b c => HSV.out (((w'.setCell ⟨wr.heap.size, 0, none⟩ a).setCell ⟨wr.heap.size, 1, none⟩ b).setCell ⟨wr.heap.size, 2, none⟩ c) (((k.setCell (fun h => absurd h (Nat.lt_irrefl _)) _).setCell (fun h => absurd h (Nat.lt_irrefl _)) _).setCell (fun h => absurd h (Nat.lt_irrefl _)) _))
      rw [hWA] at HPL2 KA HZA
      clear BA zA hWA
      clear hps hbx hxb hxl hbel hst hsr s0 s1 s2 s3 s4 s5 cb
      go_upto_region 8 with fail
      go_cut [8] (fun v wx => CS w w.heap.size b6 rb rb X (i + 1) wr v wx)
      case first =>
        go_region_held3 (fun w' => w'.cell? ⟨b6, 0, none⟩ = some (.int .i64 rb) ∧ w'.cell? ⟨b6, 1, none⟩ = some (.slice A ls.length ac) ∧ w'.cell? ⟨b6, 2, none⟩ = some (.slice B qs.length d) ∧ w'.cell? ⟨sb, so + i * 6, none⟩ = some (.int .i64 swhat) ∧ w'.cell? ⟨sb, so + i * 6 + 1, none⟩ = some (.int .i64 sseat) ∧ w'.cell? ⟨sb, so + i * 6 + 2, none⟩ = some (.int .i64 smode) ∧ w'.cell? ⟨sb, so + i * 6 + 3, none⟩ = some (.int .i64 snow) ∧ w'.cell? ⟨sb, so + i * 6 + 4, none⟩ = some (.int .i64 sn) ∧ w'.cell? ⟨sb, so + i * 6 + 5, none⟩ = some (.int .i64 sg)) (first | exact HSV.out _ (K5.out.alloc _) | exact HSV6.out _ K6.out _ _ _ | exact HSV.out _ K5.out | exact HSV.out _ K6.out | exact HSV.out _ KA.out | exact HSV.out _ K0.out)
          (first
            | (go_at_call 7; (with_reducible refine (HPL.out _ B0.out).mono ?_); (rintro e w5 ⟨L5, Q5, A5, c5, ls5, B5, d5, qs5, X5, q5, rfl, P5, U5, K5h⟩); have K5 := Lib.hid (show Keep (fun k => ¬ X k) wr w5 from (K0.out.trans K5h (fun _ _ h => h))); have PP5 := Lib.hid P5; have UU5 := Lib.hid U5; clear P5 U5 K5h)
            | (go_at_call 7; (with_reducible refine HPL2.out.mono ?_); (rintro e w5 ⟨L5, Q5, A5, c5, ls5, B5, d5, qs5, X5, q5, rfl, P5, U5, K5h⟩); have K6 := Lib.hid (show Keep (fun k => ¬ X k) wr w5 from (KA.out.trans K5h (fun _ _ h e => h (.inl e)))); have HZ5 := Lib.hid (K5h.blk HZA.out (fun h => h (.inr rfl))); have cz := blk_cells HZ5.out; have fz := blk_frees HZ5.out; have lz := blk_lt HZ5.out; have PP5 := Lib.hid P5; have UU5 := Lib.hid U5; clear P5 U5 K5h))
        all_goals
          go_wp2_with fail
          go_meet
          case rel => first | exact cs1 K5.out PP5.out UU5.out BX.out XB.out | exact cs2 K6.out PP5.out UU5.out BX.out XB.out HZ5.out
      case rest =>
        obtain ⟨b8, L5, Q5, A5, c5, ls5, B5, d5, qs5, X5, x5, y5, rfl, hb8, hne, P5, U5, K5, hb6⟩ := hcut
        have c8 := blk_cells hb8
        have l8 := blk_lt hb8
        have c6 := blk_cells hb6
        have f6 := blk_frees hb6
        have l6 := blk_lt hb6
        obtain ⟨w7, hw7⟩ : ∃ w7, w7 = ((wc.setCell ⟨b6, 0, none⟩ (.int .i64 rb)).setCell ⟨b6, 1, none⟩ (.slice A5 ls5.length c5)).setCell ⟨b6, 2, none⟩ (.slice B5 qs5.length d5) := ⟨_, rfl⟩
        have kz : Keep (fun i => i = b6) wc w7 := by rw [hw7]; exact (((Keep.refl (fun i => i = b6) wc).setCell (fun _ => rfl) _).setCell (fun _ => rfl) _).setCell (fun _ => rfl) _
        have P7 := P5.stored kz (fun k e => by rw [e]; exact U5 b6 XB.out) (fun k e hn => row_ne P5.sl hb6 k e hn) (fun k e hn => row_ne P5.sq hb6 k e hn)
        have hb7 : w7.heap[b6]? = some (.cells #[.int .i64 rb, .slice A5 ls5.length c5, .slice B5 qs5.length d5] 29 (0, 0)) := by rw [hw7]; exact blk_set (blk_set (blk_set hb6 _) _) _
        have hbe : Below w.heap.size w w7 := (BE.out.trans (K5.below (B := w.heap.size) (fun i hX => by rcases Nat.lt_or_ge i w.heap.size with h | h; exact absurd (XL.out i h) hX; exact h) BE.out.size)).trans (kz.below (B := w.heap.size) (fun i e => by omega) (by have := K5.size; have := BE.out.size; omega))
        have HL7 : Hid (LS w w.heap.size b6 rb rb (some ⟨sb, so, none⟩) n c ss (i + 1) w7) := Lib.hid ⟨⟨L5, Q5, A5, c5, ls5, B5, d5, qs5, X5, P7, hb7, U5 b6 XB.out, fun k hk => U5 k (XL.out k hk)⟩, hlow, hbe⟩
        have HLX := Lib.hid (listX w.heap.size rb L5 Q5 X5 w7 P7.tl)
        have HAP := Lib.hid P7.ap
        have hl5 : L5.length ≤ 61 := Nat.le_trans P7.n1 (by omega)
        have HW7 := Lib.hid hw7
        clear hb8 hb6 P5 U5 K5 kz P7 hb7 hbe hw7 HPL HPL2 HSV HSV6 KA HZA K0 B0 PSH
        go_upto_region 10 with fail
        rw [← HW7.out]
        clear c8 c6 f6
        go_wp2_with fail
        refine HLX.out.mono ?_
        rintro e w9 ⟨A9, rfl, hs9, hb9⟩
        have S9 := Lib.hid hs9
        have HL9 := Lib.hid (HL7.out.below hb9)
        clear hs9 hb9 HL7 HLX
        go_upto_region 12 with fail
        go_loopw [11] (fun v wq => AInv L5 w9 v wq) (fun v _ => L5.length - (intOf v).toNat)
        case atStart => exact ⟨0, Nat.zero_le _, rfl, Below.refl _ _⟩
        case round =>
          obtain ⟨a, ha, rfl, hba⟩ := hrel
          have BA := Lib.hid hba
          clear hba
          by_cases hal : a < L5.length
          · have a0 : (0 : Int) ≤ (a : Int) := by omega
            have a1 : (a : Int) < (L5.length : Int) := by omega
            obtain ⟨x, hx⟩ : ∃ x, L5[a]? = some x := ⟨L5[a], List.getElem?_eq_getElem hal⟩
            have HX := Lib.hid hx
            clear hx
            go_upto_region 15 with fail
            go_loopw [12] (fun v wq => BInv a w9 v wq) (fun v _ => a - (intOf v).toNat)
            case atStart => exact ⟨0, Nat.zero_le _, rfl, BA.out⟩
            case round =>
              obtain ⟨b, hbl, rfl, hbb⟩ := hrel
              have BB := Lib.hid hbb
              clear hbb
              by_cases hbl2 : b < a
              · have b0 : (0 : Int) ≤ (b : Int) := by omega
                have b1 : (b : Int) < (a : Int) := by omega
                have b2 : (b : Int) < (L5.length : Int) := by omega
                obtain ⟨y, hy⟩ : ∃ y, L5[b]? = some y := ⟨L5[b]'(by omega), List.getElem?_eq_getElem (by omega)⟩
                have hno := apart_at HAP.out hbl2 hy HX.out
                obtain ⟨g, o, rfl, _, r0, r1, r2, r3, r4⟩ := flat_row (S9.out.below BB.out) HX.out
                obtain ⟨g2, o2, e2, _, q0, q1, q2, q3, q4⟩ := flat_row (S9.out.below BB.out) hy
                injection e2 with e2
                injection e2 with e21 e22
                subst e21 e22
                clear hy
                obtain ⟨x1, x2, x3, x4, x5z⟩ := x
                obtain ⟨y1, y2, y3, y4, y5z⟩ := y
                dsimp only at r0 r1 r2 r3 r4 q0 q1 q2 q3 q4
                unfold clash at hno
                dsimp only at hno
                by_cases e0 : x1 = y1
                · subst e0
                  by_cases e1 : x2 = y2
                  · subst e1
                    have f2 : (x3 == y3) = false := beq_eq_false_iff_ne.2 (fun e => hno ⟨⟨rfl, rfl⟩, .inl e⟩)
                    have f3 : (x4 == 2) = false := beq_eq_false_iff_ne.2 (fun e => hno ⟨⟨rfl, rfl⟩, .inr (.inl e)⟩)
                    have f4 : (y4 == 2) = false := beq_eq_false_iff_ne.2 (fun e => hno ⟨⟨rfl, rfl⟩, .inr (.inr e)⟩)
                    clear hno
                    go_wp2
                    go_quiet (fail)
                    go_wp2
                    go_roundw
                    case rel => exact ⟨b + 1, by omega, by go_num, below_drewN BB.out _⟩
                    case measure => simp [intOf]; omega
                  · have f1 : (x2 == y2) = false := beq_eq_false_iff_ne.2 e1
                    clear hno
                    go_wp2
                    go_quiet (fail)
                    go_wp2
                    go_roundw
                    case rel => exact ⟨b + 1, by omega, by go_num, below_drewN BB.out _⟩
                    case measure => simp [intOf]; omega
                · have f0 : (x1 == y1) = false := beq_eq_false_iff_ne.2 e0
                  clear hno
                  go_wp2
                  go_quiet (fail)
                  go_wp2
                  go_roundw
                  case rel => exact ⟨b + 1, by omega, by go_num, below_drewN BB.out _⟩
                  case measure => simp [intOf]; omega
              · have b1 : ¬ (b : Int) < (a : Int) := by omega
                go_wp2
                go_roundw
                case rel => exact ⟨a + 1, by omega, by go_num, BB.out⟩
                case measure => simp [intOf]; omega
          · have a1 : ¬ (a : Int) < (L5.length : Int) := by omega
            have HLE := Lib.hid (HL9.out.below BA.out)
            go_wp2
            go_roundw
            case rel => exact ⟨i + 1, by omega, by go_num, HLE.out⟩
            case measure => simp [intOf]; omega
    · have hbel := Lib.hid HL.out.bel
      by_cases h1 : i < n
      · have i1 : (i : Int) < (n : Int) := by omega
        have i2 : ¬ (i : Int) < 60 := by omega
        go_wp2
        go_ret
        exact ⟨rfl, hbel.out⟩
      · have i1 : ¬ (i : Int) < (n : Int) := by omega
        go_wp2
        go_ret
        exact ⟨rfl, hbel.out⟩
end Go.Proofs.Ytmfgkddndlleoaa.lawLeaseApart
