/- Package reach: all that is in stretches. (printed by cachjoin.py) -/
import Derived.Test.YtpgjjhpnemcgdaaCach4
import Derived.Test.YtpgjjhpnemcgdaaCach5
import Derived.StillTailTactics
set_option linter.unusedSimpArgs false
set_option linter.unusedVariables false
namespace Go.Proofs.Ytpgjjhpnemcgdaa
open Go.RowKit

attribute [local go_sem ↓] Go.wp_at_zero Go.wp_at_succ
theorem run_store_complex {P : Program} {w : World} {a : Addr} {m : Mode} (k : FloatKind) (x y : Nat) : (store a (.complex k x y) m).run P w = stored P w a (.complex k x y) m := run_store P w a _ m rfl
attribute [local go_sem] run_store_complex
theorem max_run {P : Program} (ts : Array TypeId) (t : TypeId) {a b : Nat} (ha : a < 2 ^ 53) (hb : b < 2 ^ 53) (w : World) : (Builtin.max_ ts t #[.float .f64 (fb a), .float .f64 (fb b)]).run P w = .ok (.float .f64 (fb (max a b))) w := by
  have h0 : Builtin.max_ ts t #[.float .f64 (fb a), .float .f64 (fb b)] = Builtin.max2 (.float .f64 (fb a)) (.float .f64 (fb b)) := by
    unfold Builtin.max_
    simp
  rw [h0]
  unfold Builtin.max2
  simp only
  rcases Nat.lt_trichotomy a b with h | h | h
  · rw [ord_lt hb h, Nat.max_eq_right (by omega)]
    rfl
  · subst h
    rw [ord_eq ha, Nat.max_self]
    simp only
    split <;> rfl
  · rw [ord_gt ha h, Nat.max_eq_left (by omega)]
    rfl
theorem cov_bound {L R : List St} {N : Nat} (hR : PS R) (hc : ∀ n, Cov R n → Cov L n) (hL : ∀ p ∈ L, p.2 ≤ N) : ∀ p ∈ R, p.2 ≤ N := by
  intro p hp
  have h1 := (hR.one p hp).1
  obtain ⟨q, hq, h2, h3⟩ := hc (p.2 - 1) ⟨p, hp, by omega, by omega⟩
  have := hL q hq
  omega
theorem clone_walk (base : Nat) (L : List St) (v : Value) (w : World) (hv : SlN base w v L) (hn : L.length ≤ 1000000000) :
    Calls Try.prog 30 #[v] w fun e w' => ∃ A c, e = .returned (.slice A L.length c) ∧ OC w w' L A c := by
  obtain ⟨A, c, rfl, hs, _, hA⟩ := hv
  rcases hA with rfl | ⟨b, rfl⟩
  · obtain ⟨A', c', e', _, hz, _, _⟩ := hs
    injection e' with e1 e2 e3
    subst e1
    obtain ⟨h1, _⟩ := hz rfl
    have hL : L = [] := List.eq_nil_of_length_eq_zero h1
    subst hL
    refine (Try.slices_Clone_nil 0 c w).mono ?_
    rintro e w' ⟨rfl, rfl⟩
    exact ⟨none, 0, rfl, OC.nil _⟩
  · have hi : (Try.prog.info? 52).isSome = true := by kernel_rfl
    obtain ⟨i0, hi0⟩ := Option.isSome_iff_exists.1 hi
    have hz : (Try.prog.info? 52).map (fun i => (i.zero, i.size, i.bytes)) = some (some (.complex .f64 0 0), 1, 16) := by kernel_rfl
    rw [hi0] at hz
    simp only [Option.map_some, Option.some.injEq, Prod.mk.injEq] at hz
    refine (Try.slices_Clone i0 (.complex .f64 0 0) 1 16 hi0 hz.1 hz.2.1 hz.2.2 rfl (by decide) Try.sizeOf52 b 0 L.length c (cxs L) w (by rw [cxs_len, Nat.mul_one]) (by simp only [maxLen]; omega) (by omega) (fun j u hu => ?_) (fun u hu => ?_)).mono ?_
    · obtain ⟨b', o', e', _, hc⟩ := sl_row hs hu
      injection e' with e'
      injection e' with e1 e2 _
      subst e1 e2
      exact hc
    · obtain ⟨q, _, rfl⟩ := List.mem_map.1 hu
      rfl
    · rintro e w' ⟨v', rfl, ho, _, hb⟩
      obtain ⟨h1, h2⟩ := ho
      rcases h2 with ⟨rfl, h3⟩ | ⟨g, cap, cur, rfl, hg, h4⟩
      · have hL : L = [] := List.eq_nil_of_length_eq_zero h3
        subst hL
        exact ⟨none, 0, rfl, ⟨own_nil' _ 0 _ 1, fun k e => by simp at e, hb⟩⟩
      · exact ⟨some ⟨g, 0, none⟩, cap, rfl, ⟨h1, .inr ⟨g, cap, cur, rfl, Nat.zero_le _, h4⟩⟩, fun k e => by injection e with e; have e : g = k := e; omega, hb⟩
def JoinPost (L : List St) (w : World) (e : Ending) (w' : World) : Prop := ∃ R v, PS R ∧ (∀ n, Cov R n ↔ Cov L n) ∧ e = .returned (.tuple #[v, .int .i64 0]) ∧ SlN w.heap.size w' v R ∧ Below w.heap.size w w'
theorem joinGo_ge : ∀ (L out : List St), out.length ≤ (joinGo L out).length
  | [], out => Nat.le_refl _
  | z :: L, out => by
    unfold joinGo
    split
    · have := joinGo_ge L (out ++ [z]); simp at this; omega
    · rename_i p hp
      obtain ⟨r, rfl⟩ := List.getLast?_eq_some_iff.1 hp
      split
      · have := joinGo_ge L (r ++ [p] ++ [z]); simp at this ⊢; omega
      · have := joinGo_ge L ((r ++ [p]).dropLast ++ [(p.1, max p.2 z.2)])
        simp at this ⊢
        omega
def JoInv (L R : List St) (w : World) (v5 v15 : Value) (wr : World) : Prop := ∃ (i : Nat) (out : List St) (Ao : Option Addr) (co : Nat), i ≤ L.length ∧ v15 = .int .i64 (i : Int) ∧ v5 = .slice Ao out.length co ∧ OC w wr out Ao co ∧ joinGo (L.drop i) out = R ∧ ∀ p ∈ out, p.2 ≤ 1099511627776
theorem own_last {w0 w : World} {out r : List St} {p : St} {A : Option Addr} {c : Nat} (h : OC w0 w out A c) (ho : out = r ++ [p]) : ∃ g cur, A = some ⟨g, 0, none⟩ ∧ w0.heap.size ≤ g ∧ w.heap[g]? = some (.cells cur 52 (0, 0)) ∧ w.cell? ⟨g, r.length, none⟩ = some (.complex .f64 (fb p.1) (fb p.2)) ∧
    ∀ q : St, OC w0 (w.setCell ⟨g, r.length, none⟩ (.complex .f64 (fb q.1) (fb q.2))) (r ++ [q]) A c := by
  subst ho
  obtain ⟨hl, hcase⟩ := h.own
  rcases hcase with ⟨_, hz⟩ | ⟨g, cap, cur, hv, hb0, hb, h1, h2, h3, h4⟩
  · simp at hz
  injection hv with e1 _ e2
  subst e1 e2
  have hf := h.fresh g rfl
  have hrc : r.length < cur.size := by simp at h1; omega
  have hcell : cur[r.length]? = some (.complex .f64 (fb p.1) (fb p.2)) := by
    have : (cur.toList.take ((r ++ [p]).length * 1))[r.length]? = (cxs (r ++ [p]))[r.length]? := by rw [h4]
    rw [List.getElem?_take_of_lt (by simp), Array.getElem?_toList] at this
    rw [this]
    simp [cxs, cx]
  refine ⟨g, cur, rfl, hf, hb, (blk_cells hb r.length).trans hcell, fun q => ?_⟩
  have hs := blk_set hb (j := r.length) (.complex .f64 (fb q.1) (fb q.2))
  refine ⟨⟨by simp [cxs], .inr ⟨g, c, _, by simp, hb0, hs, by simpa using h1, h2, by simpa using h3, ?_⟩⟩, h.fresh, h.be.trans (((Keep.refl (fun k => k = g) w).setCell (fun _ => rfl) _).below (fun k e => by omega) h.be.size)⟩
  apply List.ext_getElem?
  intro j
  have h5 : ∀ j, j < r.length + 1 → cur[j]? = (cxs (r ++ [p]))[j]? := fun j hj => by
    rw [← h4, List.getElem?_take_of_lt (by simp; omega), Array.getElem?_toList]
  by_cases hj : j < r.length
  · rw [List.getElem?_take_of_lt (by simp; omega), Array.getElem?_toList, Array.getElem?_setIfInBounds_ne (by omega), h5 j (by omega)]
    rw [cxs, cxs, List.map_append, List.map_append, List.getElem?_append_left (by simpa using hj), List.getElem?_append_left (by simpa using hj)]
  · by_cases hj2 : j = r.length
    · subst hj2
      rw [List.getElem?_take_of_lt (by simp), Array.getElem?_toList]
      simp [Array.getElem?_setIfInBounds, hrc, cxs, cx]
    · rw [List.getElem?_take_eq_none (by simp; omega), List.getElem?_eq_none (by simp [cxs]; omega)]
set_option maxRecDepth 100000 in
set_option maxHeartbeats 4000000 in
theorem join_walk (base : Nat) (L : List St) (v : Value) (w : World) (hv : SlN base w v L) (hne : L ≠ []) (h1 : ∀ p ∈ L, Str1 p) (hn : L.length ≤ 500000000) :
    Calls Try.prog 29 #[v] w (JoinPost L w) := by
  have HC := Lib.hid (clone_walk base L v w hv (by omega))
  have HNE := Lib.hid hne
  have H1 := Lib.hid h1
  clear hv hne h1
  go_enter Try.func29, Try.ntmps29
  go_wp2_with fail
  refine HC.out.mono ?_
  rintro e W1 ⟨A1, c1, rfl, ho1⟩
  have HS := Lib.hid (sort_walk L A1 c1 w W1 ho1 HNE.out H1.out (by omega))
  clear ho1 HC
  go_wp2_with fail
  refine HS.out.mono ?_
  rintro e W2 ⟨rfl, L', hp, hsort, ho2⟩
  have hlen := hp.length_eq
  have hJ := join_law hsort (fun p hpm => H1.out p (hp.mem_iff.1 hpm))
  have HZ := Lib.hid (fun p (hpm : p ∈ L') => H1.out p (hp.mem_iff.1 hpm))
  obtain ⟨R, hR⟩ : ∃ R, R = joinGo L' [] := ⟨_, rfl⟩
  rw [← hR] at hJ
  have HR := Lib.hid hR
  have HJ := Lib.hid (show PS R ∧ ∀ n, Cov R n ↔ Cov L n from ⟨hJ.1, fun n => (hJ.2 n).trans (cov_perm hp n)⟩)
  have HRL := Lib.hid (show R.length ≤ L.length by rw [hR, ← hlen]; simpa using joinGo_len L' [])
  have HA := Lib.hid (Sl.of_own ho2.own)
  have BW := Lib.hid ho2.be
  rw [← hlen] at hn ⊢
  clear hp hsort ho2 hJ hR HS
  have hn' : L'.length ≤ 500000000 := hn
  go_upto_region 5 with fail
  go_loopw [5, 15] (fun v5 v15 wr => JoInv L' R W2 v5 v15 wr) (fun _ v _ => L'.length - (intOf v).toNat)
  case atStart => exact ⟨0, [], none, 0, Nat.zero_le _, rfl, rfl, OC.nil _, HR.out.symm, by simp⟩
  case round =>
    obtain ⟨i, out, Ao, co, hi, rfl, rfl, ho, hgo, hop⟩ := hrel
    have HOP := Lib.hid hop
    clear hop
    have HO := Lib.hid ho
    have HGO := Lib.hid hgo
    clear ho hgo
    by_cases hlt : i < L'.length
    · obtain ⟨z, hz⟩ : ∃ z, L'[i]? = some z := ⟨L'[i], List.getElem?_eq_getElem hlt⟩
      have hz1 := HZ.out z (List.mem_of_getElem? hz)
      obtain ⟨b, o, rfl, _, hc⟩ := sl_row (HA.out.below HO.out.be) (cxs_get hz)
      have hGZ : joinGo (z :: L'.drop (i + 1)) out = R := by rw [← HGO.out, drop_get hz]
      obtain ⟨za, zb⟩ := z
      have hz2 : za < zb := hz1.1
      have hz3 : zb ≤ 1099511627776 := hz1.2
      simp only at hc
      have HG := Lib.hid (good_walk hz2 hz3 wr)
      have i0 : (0 : Int) ≤ (i : Int) := by omega
      have i1 : (i : Int) < (L'.length : Int) := by omega
      have hol : out.length ≤ 500000000 := by
        have := joinGo_ge (L'.drop i) out
        rw [HGO.out] at this
        have := HRL.out
        omega
      clear hz hz1
      go_wp2_with fail
      refine HG.out.mono ?_
      rintro e W ⟨rfl, rfl⟩
      clear hc
      cases hl : out.getLast? with
      | none =>
        have ho0 : out = [] := List.getLast?_eq_none_iff.1 hl
        have HNX : Hid (joinGo (L'.drop (i + 1)) (out ++ [(za, zb)]) = R) := Lib.hid (by rw [joinGo, hl] at hGZ; exact hGZ)
        have e0 : ((out.length : Int) == 0) = true := by rw [ho0]; rfl
        clear hl hGZ ho0
        have HPP : Hid (∀ p ∈ out ++ [(za, zb)], p.2 ≤ 1099511627776) := Lib.hid (fun p hpm => by
          rcases List.mem_append.1 hpm with hpm | hpm
          · exact HOP.out p hpm
          · rw [List.mem_singleton.1 hpm]; exact hz3)
        have hcn := own_new W #[.complex .f64 (fb za) (fb zb)] 52 1 1 rfl (by decide)
        have HCN := Lib.hid (Sl.of_own hcn)
        clear hcn
        go_wp2_with (at_builtin; go_must (refine wpList_app rfl eltC rfl rfl rfl (n := out.length) (m := 1) (own_keep HO.out.own ((Keep.refl (fun _ => False) _).alloc _) (fun _ _ h => h)) HCN.out (by simp [Value.oneCell']) (by omega) (by simp only [maxLen]; omega) ?_))
        intro v4 w4 g1 g2 g3 g4
        clear g4
        obtain ⟨A4, c4, rfl, _⟩ := Rd.of_own g1
        have HE := Lib.hid (HO.out.app (p := (za, zb)) ((Below.refl _ W).alloc (Nat.le_refl _) _) (Nat.le_succ _) g1 g2 g3)
        clear g1 g2 g3
        go_wp2
        go_roundw
        case rel => exact ⟨i + 1, out ++ [(za, zb)], A4, c4, by omega, by go_num, by rw [List.length_append]; rfl, HE.out, HNX.out, HPP.out⟩
        case measure => simp [intOf]; omega
      | some p =>
        obtain ⟨r, hro⟩ := List.getLast?_eq_some_iff.1 hl
        obtain ⟨g, cur, rfl, hg0, hcur, hcell, hset⟩ := own_last HO.out hro
        obtain ⟨pa, pb⟩ := p
        have hrl : out.length = r.length + 1 := by rw [hro]; simp
        have HRLN := Lib.hid hrl
        have hpb : pb ≤ 1099511627776 := HOP.out (pa, pb) (by rw [hro]; simp)
        have e0 : ((out.length : Int) == 0) = false := beq_eq_false_iff_ne.2 (by omega)
        have n4 : IntKind.i64.wrap ((out.length : Int) - 1) = (r.length : Int) := (congrArg IntKind.i64.wrap (by omega)).trans (IntWalk.i64_in _ (by omega))
        have n0 : (0 : Int) ≤ (r.length : Int) := by omega
        have n5 : IntKind.i64.wrap (r.length : Int) = (r.length : Int) := IntWalk.i64_in _ (by omega)
        have n6 : (r.length : Int) < (r.length : Int) + 1 := by omega
        have n1 : (r.length : Int) < (out.length : Int) := by omega
        simp only at hcell
        by_cases hgt : pb < za
        · have og : FloatKind.f64.format.order (fb za) (fb pb) = some .gt := ord_gt (by omega) hgt
          have HNX : Hid (joinGo (L'.drop (i + 1)) (out ++ [(za, zb)]) = R) := Lib.hid (by rw [joinGo, hl] at hGZ; simp only at hGZ; rw [if_pos hgt] at hGZ; exact hGZ)
          clear hl hGZ hro hcur hset hrl
          have HPP : Hid (∀ p ∈ out ++ [(za, zb)], p.2 ≤ 1099511627776) := Lib.hid (fun p hpm => by
            rcases List.mem_append.1 hpm with hpm | hpm
            · exact HOP.out p hpm
            · rw [List.mem_singleton.1 hpm]; exact hz3)
          have hcn := own_new W #[.complex .f64 (fb za) (fb zb)] 52 1 1 rfl (by decide)
          have HCN := Lib.hid (Sl.of_own hcn)
          clear hcn
          go_wp2_with (at_builtin; go_must (refine wpList_app rfl eltC rfl rfl rfl (n := out.length) (m := 1) (own_keep HO.out.own ((Keep.refl (fun _ => False) _).alloc _) (fun _ _ h => h)) HCN.out (by simp [Value.oneCell']) (by omega) (by simp only [maxLen]; omega) ?_))
          intro v4 w4 g1 g2 g3 g4
          clear g4
          obtain ⟨A4, c4, rfl, _⟩ := Rd.of_own g1
          have HE := Lib.hid (HO.out.app (p := (za, zb)) ((Below.refl _ W).alloc (Nat.le_refl _) _) (Nat.le_succ _) g1 g2 g3)
          clear g1 g2 g3
          go_wp2
          go_roundw
          case rel => exact ⟨i + 1, out ++ [(za, zb)], A4, c4, by omega, by go_num, by rw [List.length_append]; rfl, HE.out, HNX.out, HPP.out⟩
          case measure => simp [intOf]; omega
        · have HNX : Hid (joinGo (L'.drop (i + 1)) (r ++ [(pa, max pb zb)]) = R) := Lib.hid (by rw [joinGo, hl] at hGZ; simp only at hGZ; rw [if_neg hgt, hro, List.dropLast_concat] at hGZ; exact hGZ)
          have HPP : Hid (∀ p ∈ r ++ [(pa, max pb zb)], p.2 ≤ 1099511627776) := Lib.hid (fun p hpm => by
            rcases List.mem_append.1 hpm with hpm | hpm
            · exact HOP.out p (by rw [hro]; simp [hpm])
            · rw [List.mem_singleton.1 hpm]; simp only; omega)
          have hmx := fun w => max_run (P := Try.prog) #[64, 64] 64 (a := pb) (b := zb) (by omega) (by omega) w
          obtain ⟨w2, hw2⟩ : ∃ w2, w2 = W.drew := ⟨_, rfl⟩
          obtain ⟨g', cur', eA, _, hcur2, hcell2, hset2⟩ := own_last (HO.out.on (show Below W.heap.size W w2 by rw [hw2]; exact (Below.refl _ W).drew)) hro
          injection eA with eA
          injection eA with eA _ _
          subst eA
          simp only at hcell2
          have HE := Lib.hid (hset2 (pa, max pb zb))
          have hf1 := blk_frees hcur2 r.length
          have HRL2 := Lib.hid (show out.length = (r ++ [(pa, max pb zb)]).length by rw [hro]; simp)
          have HW2 := Lib.hid hw2
          clear hset hset2 hcur hcur2 hw2
          rcases Nat.lt_or_eq_of_le (Nat.not_lt.1 hgt) with hlt2 | heq2
          · skip
            have og : FloatKind.f64.format.order (fb za) (fb pb) = some .lt := ord_lt (by omega) hlt2
            clear hl hGZ hro hgt hlt2
            go_upto_region 12 with fail
            have hcl : World.cell? { heap := W.heap, tape := W.tape, drawn := W.drawn + 1, os := W.os, output := W.output } ⟨g, r.length, none⟩ = some (.complex .f64 (fb pa) (fb pb)) := by have := hcell2; rw [HW2.out] at this; exact this
            clear og
            go_still_tail 20, (by kernel_rfl)
            change wpList _ _ _ _ _ W.drew
            rw [← HW2.out]
            go_wp2
            go_roundw
            case rel => exact ⟨i + 1, r ++ [(pa, max pb zb)], _, co, by omega, by go_num, (by first | (simp; done) | (rw [HRLN.out]; simp)), HE.out, HNX.out, HPP.out⟩
            case measure => simp [intOf]; omega
          · skip
            have og : FloatKind.f64.format.order (fb za) (fb pb) = some .eq := by rw [heq2]; exact ord_eq (by omega)
            clear hl hGZ hro hgt heq2
            go_upto_region 12 with fail
            have hcl : World.cell? { heap := W.heap, tape := W.tape, drawn := W.drawn + 1, os := W.os, output := W.output } ⟨g, r.length, none⟩ = some (.complex .f64 (fb pa) (fb pb)) := by have := hcell2; rw [HW2.out] at this; exact this
            clear og
            go_still_tail 20, (by kernel_rfl)
            change wpList _ _ _ _ _ W.drew
            rw [← HW2.out]
            go_wp2
            go_roundw
            case rel => exact ⟨i + 1, r ++ [(pa, max pb zb)], _, co, by omega, by go_num, (by first | (simp; done) | (rw [HRLN.out]; simp)), HE.out, HNX.out, HPP.out⟩
            case measure => simp [intOf]; omega
    · obtain rfl : i = L'.length := by omega
      have i1 : ¬ ((L'.length : Nat) : Int) < (L'.length : Int) := by omega
      have hRR : out = R := by rw [← HGO.out, List.drop_length]; rfl
      subst hRR
      have HCL := Lib.hid (clip_walk out W2 Ao co wr HO.out (by have := HRL.out; omega))
      go_wp2_with fail
      refine HCL.out.mono ?_
      rintro e W3 ⟨rfl, rfl⟩
      go_wp2
      go_ret2
      exact ⟨out, _, HJ.out.1, HJ.out.2, rfl, HO.out.n.mono BW.out.size, BW.out.trans (HO.out.be.mono BW.out.size)⟩
end Go.Proofs.Ytpgjjhpnemcgdaa
