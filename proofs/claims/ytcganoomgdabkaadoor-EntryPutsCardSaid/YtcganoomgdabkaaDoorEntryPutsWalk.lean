/- EntryPuts: the walk. (printed by entputs.py) -/
import Derived.Test.YtcganoomgdabkaaDoorEntryP
import Derived.Deep.DeepCutAuto
import Derived.Deep.CutBlock
import Derived.BigQuiet
import Derived.Deep.QuietTactic
set_option linter.unusedSimpArgs false
set_option linter.unusedVariables false
namespace Go.Proofs.YtcganoomgdabkaaDoor.lawEntryPuts
open Go.RowKit

/-- What stands behind the put. -/
def Put (l : List RW) (r : RW) (base : Nat) (w : World) (v : Value) (wx : World) : Prop := ∃ A c, v = .slice A (putP l r).length c ∧ Sl wx 2 (.slice A (putP l r).length c) (putP l r).length (rows (putP l r)) ∧ Below base w wx
set_option maxRecDepth 100000 in
set_option maxHeartbeats 4000000 in
theorem walk (A : Option Addr) (n c : Nat) (b s : Str) (nd : Nat) (w : World) (hb : Sl w 1 (.slice A n c) n (bv b)) (hn : n ≤ 140737488351232) (hc : c ≤ 9223372036854775807) (hs : s.length ≤ 140737488351232) (hnd : nd < 256) :
    Calls Tryd.prog 7 #[.slice A n c, .string ⟨s.toArray⟩, .int .u8 (nd : Int)] w fun e w' => e = .returned (.bool true) ∧ Below w.heap.size w w' := by
  have hnb : b.length = n := by
    obtain ⟨_, _, _, _, _, _, h⟩ := hb
    simpa [bv] using h
  obtain ⟨m, hm⟩ : ∃ m, m = nd % 31 := ⟨_, rfl⟩
  have hm31 : m < 31 := by omega
  have hmi : ((nd : Int) % 31) = (m : Int) := by omega
  have hmt : ((nd : Int).tmod 31) = (m : Int) := by rw [Int.tmod_eq_emod_of_nonneg (by omega)]; exact hmi
  cases hsl : slotsP b with
  | none =>
    have HS := Lib.hid (slots_no hsl w hb hn hc)
    clear hb hsl hnb hm
    go_enter Tryd.func7, Tryd.ntmps7
    go_wp2_with fail
    refine HS.out.mono ?_
    rintro e w1 ⟨rfl, hb1⟩
    have B2 := Lib.hid (hb1.trans (((Below.refl _ w1).alloc (Nat.le_refl _) (.cells #[.string ⟨s.toArray⟩, .int .i64 (1 + (m : Int))] 23)).mono hb1.size))
    have HF := Lib.hid (fun W => find_no (A := none) (c := 0) (l := []) (s := s) (by unfold findP; split <;> rfl) W ⟨none, 0, rfl, .inl rfl, fun _ => ⟨rfl, rfl⟩, Nat.le_refl _, rfl⟩ (by decide))
    dsimp only [List.length_nil] at HF
    clear hb1
    go_wp2_with fail
    refine (HF.out _).mono ?_
    rintro e w3 ⟨rfl, hb3⟩
    have B3 := Lib.hid (bstep B2.out hb3)
    clear hb3
    go_wp2_with fail
    refine (awake_walk w3).mono ?_
    rintro e w4 ⟨rfl, hb4⟩
    have B4 := Lib.hid (bstep B3.out hb4)
    clear hb4
    go_wp2_with fail
    refine (awake_walk w4).mono ?_
    rintro e w5 ⟨rfl, hb5⟩
    have B5 := Lib.hid (bstep B4.out hb5)
    clear hb5
    go_wp2
    go_ret
    exact ⟨rfl, B5.out⟩
  | some l =>
    have HS := Lib.hid (slots_yes hsl w hb hn hc)
    have HLL := Lib.hid (slotsP_all hsl).1
    have HND := Lib.hid (slots_nodup hsl)
    have hll : l.length ≤ 4398046511104 := by have := HLL.out; omega
    clear hb hsl hm hnb
    go_enter Tryd.func7, Tryd.ntmps7
    go_wp2_with fail
    refine HS.out.mono ?_
    rintro e w1 ⟨A1, rfl, hs1, hb1⟩
    obtain ⟨w2, hw2⟩ : ∃ w2, w2 = w1.alloc (.cells #[.string ⟨s.toArray⟩, .int .i64 (1 + (m : Int))] 23) := ⟨_, rfl⟩
    have hb2 : Below w1.heap.size w1 w2 := by rw [hw2]; exact (Below.refl _ w1).alloc (Nat.le_refl _) _
    have X2 := Lib.hid (show w2.heap[w1.heap.size]? = some (.cells #[.string ⟨s.toArray⟩, .int .i64 (1 + (m : Int))] 23 (0, 0)) by rw [hw2]; exact blk_new w1 _)
    have B2 := Lib.hid (bstep hb1 hb2)
    have S2 := Lib.hid (hs1.below hb2)
    have HW2 := Lib.hid hw2
    clear hb1 hb2 hs1 hw2
    go_upto_region 3 with fail
    rw [← HW2.out]
    cases hf : findP l s with
    | some k0 =>
      have HF := Lib.hid (find_yes hf w2 S2.out (by omega))
      clear hf
      go_wp2_with fail
      refine HF.out.mono ?_
      rintro e w3 ⟨rfl, hb3⟩
      have B3 := Lib.hid (bstep B2.out hb3)
      clear hb3
      go_wp2_with fail
      refine (awake_walk w3).mono ?_
      rintro e w4 ⟨rfl, hb4⟩
      have B4 := Lib.hid (bstep B3.out hb4)
      clear hb4
      go_wp2_with fail
      refine (awake_walk w4).mono ?_
      rintro e w5 ⟨rfl, hb5⟩
      have B5 := Lib.hid (bstep B4.out hb5)
      clear hb5
      go_wp2
      go_ret
      exact ⟨rfl, B5.out⟩
    | none =>
      have HF := Lib.hid (find_no hf w2 S2.out (by omega))
      have HFN := Lib.hid hf
      clear hf
      go_wp2_with fail
      refine HF.out.mono ?_
      rintro e w3 ⟨rfl, hb3⟩
      have B3 := Lib.hid (bstep B2.out hb3)
      have S3 := Lib.hid (S2.out.below hb3)
      have X3 := Lib.hid ((Keep.of_below (S := fun _ => False) hb3).blk X2.out id)
      clear hb3
      go_wp2_with fail
      refine (awake_walk w3).mono ?_
      rintro e w4 ⟨rfl, hb4⟩
      have B4 := Lib.hid (bstep B3.out hb4)
      have S4 := Lib.hid (S3.out.below hb4)
      have X4 := Lib.hid ((Keep.of_below (S := fun _ => False) hb4).blk X3.out id)
      have c4 := blk_cells X4.out
      have l4 := blk_lt X4.out
      have HSO := Lib.hid (sound_walk ⟨s, 1 + (m : Int)⟩ w4 hs)
      unfold RW.val at HSO
      dsimp only at HSO
      clear hb4
      cases hq : soundP ⟨s, 1 + (m : Int)⟩ with
      | false =>
        rw [hq] at HSO
        clear hq
        go_wp2_with fail
        refine HSO.out.mono ?_
        rintro e w5 ⟨rfl, hb5⟩
        have B5 := Lib.hid (bstep B4.out hb5)
        clear hb5 c4 l4
        go_wp2_with fail
        refine (awake_walk w5).mono ?_
        rintro e w6 ⟨rfl, hb6⟩
        have B6 := Lib.hid (bstep B5.out hb6)
        clear hb6
        go_wp2
        go_ret
        exact ⟨rfl, B6.out⟩
      | true =>
        rw [hq] at HSO
        have hne : s ≠ [] := by
          have h1 := (isName_len (soundP_iff.1 hq).1).1
          rintro rfl
          simp at h1
        have HPF := Lib.hid (put_find (r := ⟨s, 1 + (m : Int)⟩) HFN.out hne)
        have HPR := Lib.hid (put_raw (r := ⟨s, 1 + (m : Int)⟩) HND.out HFN.out hne)
        clear hq hne
        go_wp2_with fail
        refine HSO.out.mono ?_
        rintro e w5 ⟨rfl, hb5⟩
        have B5 := Lib.hid (bstep B4.out hb5)
        have S5 := Lib.hid (S4.out.below hb5)
        have X5 := Lib.hid ((Keep.of_below (S := fun _ => False) hb5).blk X4.out id)
        have HPL := Lib.hid (place_walk A1 l.length l w5 S5.out (by omega))
        obtain ⟨pn, hpn⟩ : ∃ pn, pn = placeP l := ⟨_, rfl⟩
        have hpl : pn ≤ l.length := by rw [hpn]; exact place_le l
        have HPN := Lib.hid hpn
        rw [← hpn] at HPL HPF
        clear hb5 c4 l4 hpn
        go_wp2_with fail
        refine HPL.out.mono ?_
        rintro e w6 ⟨rfl, hb6⟩
        have B6 := Lib.hid (bstep B5.out hb6)
        have S6 := Lib.hid (S5.out.below hb6)
        have X6 := Lib.hid ((Keep.of_below (S := fun _ => False) hb6).blk X5.out id)
        have hO6 := own_new w6 #[] 23 2 0 rfl (by decide)
        have HO6 := Lib.hid hO6
        have S6b := Lib.hid (S6.out.below ((Below.refl _ w6).alloc (Nat.le_refl _) (.cells #[] 23)))
        have HNE := Lib.hid (rows_one l)
        clear hb6 hO6
        go_wp2_with (at_builtin; go_must (refine wpList_app rfl eltRow rfl rfl rfl (n := 0) (m := l.length) HO6.out S6b.out HNE.out (by omega) (by simp only [maxLen]; omega) ?_))
        intro v7 w7 g1 g2 g3 g4
        clear g4
        have g1' : w7.ownsRow 0 23 2 v7 l.length (rows l) := g1
        obtain ⟨A7, c7, rfl, _⟩ := Rd.of_own g1'
        have k7 : Keep (fun k => w6.heap.size ≤ k) w6 w7 := (((Keep.refl (fun _ => False) w6).alloc _).mono (T := fun k => w6.heap.size ≤ k) (fun _ _ h => h.elim)).trans g2 (fun j _ e => by rw [ownBlock_slice] at e; injection e with e; exact Nat.le_of_eq e)
        have b7 : Below w6.heap.size w6 w7 := k7.below (fun _ h => h) (Nat.le_refl _)
        have hnew : ∀ k, A7.map (·.block) = some k → w6.heap.size ≤ k := by
          intro k e
          rcases g3 with h | h <;> rw [ownBlock_slice] at h
          · rw [ownBlock_slice, e] at h; injection h with h; exact Nat.le_of_eq h.symm
          · rw [e] at h; injection h with h; first | omega | (simp at h; omega)
        have HNW := Lib.hid hnew
        have O7 := Lib.hid g1'
        have B7 := Lib.hid (bstep B6.out b7)
        have S7 := Lib.hid (S6.out.below b7)
        have X7 := Lib.hid ((Keep.of_below (S := fun _ => False) b7).blk X6.out id)
        have hw67 := b7.size
        have HB67 := Lib.hid b7
        have hlow : w1.heap.size < w6.heap.size := by exact blk_lt X6.out
        clear g1 g1' g2 g3 k7 b7 hnew
        go_upto_if 58 with fail
        go_cut [13] (fun v wx => Put l ⟨s, 1 + (m : Int)⟩ w6.heap.size w7 v wx)
        case first =>
          by_cases hlt : pn < l.length
          · have b1 : (0 : Int) ≤ (pn : Int) := by omega
            have b2 : (pn : Int) < (l.length : Int) := by omega
            obtain ⟨g, rfl⟩ : ∃ g, A7 = some ⟨g, 0, none⟩ := by
              rcases O7.out.2 with ⟨e, _⟩ | ⟨g, _, _, e, _⟩
              · injection e with _ e _; omega
              · injection e with e _ _; exact ⟨g, e⟩
            obtain ⟨cur, hcur, hc1, hc2, hc3, hc4⟩ := own_row' O7.out
            obtain ⟨e0, he0⟩ : ∃ e0, l[pn]? = some e0 := ⟨l[pn], List.getElem?_eq_getElem hlt⟩
            obtain ⟨_, _, eA, _, r0, r1⟩ := row_at (Sl.of_own O7.out) he0
            injection eA with eA
            injection eA with eA1 eA2
            subst eA1 eA2
            simp only [Nat.zero_add] at r0 r1
            clear he0
            have hg6 : w6.heap.size ≤ g := HNW.out g rfl
            have c7x := blk_cells X7.out
            have l7x := blk_lt X7.out
            have l7g := blk_lt hcur
            have f7g := blk_frees hcur
            have HCU := Lib.hid hcur
            clear hcur hc1 hc2 hc3 hc4
            go_wp2
            go_meet
            case rel =>
              have e1 := own_put2 (j := pn * 2 + 1) (own_put2 (j := pn * 2) O7.out (.string ⟨s.toArray⟩)) (.int .i64 (1 + (m : Int)))
              rw [rows_set l ⟨s, 1 + (m : Int)⟩ pn hlt] at e1
              have hpu : putP l ⟨s, 1 + (m : Int)⟩ = l.set pn ⟨s, 1 + (m : Int)⟩ := by unfold putP; rw [← HPN.out, if_pos hlt]
              have hpl2 : (l.set pn (⟨s, 1 + (m : Int)⟩ : RW)).length = l.length := by simp
              refine ⟨some ⟨g, 0, none⟩, c7, by rw [hpu, hpl2], ?_, ?_⟩
              · rw [hpu, hpl2]; exact Sl.of_own e1
              · exact (((Below.refl w6.heap.size w7).setCell hg6 _).setCell hg6 _)
          · obtain rfl : pn = l.length := by omega
            have c7x := blk_cells X7.out
            have l7x := blk_lt X7.out
            have hS8 := own_new w7 #[.string ⟨s.toArray⟩, .int .i64 (1 + (m : Int))] 23 2 1 rfl (by decide)
            have HSO8 := Lib.hid hS8
            clear hS8
            go_wp2_with (at_builtin; go_must (refine wpList_app rfl eltRow rfl rfl rfl (n := l.length) (m := 1) (own_keep O7.out ((Keep.refl (fun _ => False) _).alloc _) (fun _ _ h => h)) (Sl.of_own HSO8.out) (by simp [Value.oneCell']) (by omega) (by simp only [maxLen]; omega) ?_))
            intro v8 w8 g1 g2 g3 g4
            clear g4
            obtain ⟨A8, c8, rfl, _⟩ := Rd.of_own g1
            have k8 : Keep (fun k => w6.heap.size ≤ k) w7 w8 := (((Keep.refl (fun _ => False) w7).alloc _).mono (T := fun k => w6.heap.size ≤ k) (fun _ _ h => h.elim)).trans g2 (fun j _ e => HNW.out j (by rw [ownBlock_slice] at e; exact e))
            have hpu : putP l ⟨s, 1 + (m : Int)⟩ = l ++ [⟨s, 1 + (m : Int)⟩] := by unfold putP; rw [← HPN.out, if_neg (Nat.lt_irrefl _)]
            have HR : Hid (Put l ⟨s, 1 + (m : Int)⟩ w6.heap.size w7 (.slice A8 (l.length + 1) c8) w8) := Lib.hid ⟨A8, c8, by rw [hpu]; simp, by rw [hpu, List.length_append, rows_snoc]; exact Sl.of_own g1, k8.below (fun _ h => h) hw67⟩
            clear g1 g2 g3 k8 hpu c7x l7x
            go_wp2
            go_meet
            case rel => exact HR.out
        case rest =>
          obtain ⟨A8, c8, rfl, S8, B8⟩ := hcut
          have HB8 : Hid (Below w.heap.size w wc) := Lib.hid (B6.out.trans ((HB67.out.trans B8).mono B6.out.size))
          have S8l := Lib.hid (S6.out.below (HB67.out.trans B8))
          have S8m := Lib.hid S8
          have hml : (putP l ⟨s, 1 + (m : Int)⟩).length ≤ 8000000000000 := by have := put_len l ⟨s, 1 + (m : Int)⟩; omega
          have HF8 := Lib.hid (find_yes HPF.out wc S8 (by omega))
          obtain ⟨L, hL⟩ : ∃ L, L = putP l ⟨s, 1 + (m : Int)⟩ := ⟨_, rfl⟩
          rw [← hL] at S8m hml HF8 HPR ⊢
          clear S8 B8 hL
          obtain ⟨W, rfl⟩ : ∃ W : World, W = wc := ⟨_, rfl⟩
          go_wp2_with fail
          refine HF8.out.mono ?_
          rintro e w9 ⟨rfl, hb9⟩
          have B9 := Lib.hid (bstep HB8.out hb9)
          have S9l := Lib.hid (S8l.out.below hb9)
          have HNM := Lib.hid (names_walk A8 c8 L w9 (S8m.out.below hb9) hml)
          clear hb9
          go_wp2_with fail
          refine HNM.out.mono ?_
          rintro e w10 ⟨A10, c10, rfl, hs10, hb10⟩
          have B10 := Lib.hid (bstep B9.out hb10)
          have S10 := Lib.hid (S9l.out.below hb10)
          have N10 := Lib.hid hs10
          have HR10 := Lib.hid (fun (k : Nat) (a b : Str) => names_rise (l := L) (k := k) (a := a) (b := b) HPR.out.2)
          have hlen : ((namesP L).length : Int) = ((namesP l).length : Int) + 1 := by rw [names_len, names_len, HPR.out.1]; omega
          have hnl : (namesP L).length ≤ 8000000000000 := by rw [names_len]; exact Nat.le_trans (rawN_length L) hml
          obtain ⟨ns, hns⟩ : ∃ ns, ns = namesP L := ⟨_, rfl⟩
          rw [← hns] at N10 hlen hnl HR10 ⊢
          clear hb10 hs10 hns hml
          have HLEN := Lib.hid hlen
          clear hlen
          go_upto_region 14 with fail
          go_loopw [17] (fun v wr => ∃ k : Nat, 1 ≤ k ∧ v = .int .i64 (k : Int) ∧ (k = 1 ∨ k ≤ ns.length) ∧ Below w10.heap.size w10 wr) (fun v _ => ns.length - (intOf v).toNat)
          case atStart => exact ⟨1, Nat.le_refl _, rfl, .inl rfl, Below.refl _ _⟩
          case round =>
            obtain ⟨k, hk1, rfl, hk2, hbk⟩ := hrel
            have BK := Lib.hid hbk
            clear hbk
            by_cases hlt : k < ns.length
            · obtain ⟨j, rfl⟩ : ∃ j, k = j + 1 := ⟨k - 1, by omega⟩
              obtain ⟨x, hx⟩ : ∃ x, ns[j]? = some x := ⟨ns[j], List.getElem?_eq_getElem (by omega)⟩
              obtain ⟨y, hy⟩ : ∃ y, ns[j + 1]? = some y := ⟨ns[j + 1], List.getElem?_eq_getElem (by omega)⟩
              obtain ⟨g, o, rfl, _, t0⟩ := strs_at (N10.out.below BK.out) hx
              obtain ⟨_, _, he, _, t1⟩ := strs_at (N10.out.below BK.out) hy
              injection he with he
              injection he with he1 he2
              subst he1 he2
              have d1 : (0 : Int) ≤ ((j + 1 : Nat) : Int) := by omega
              have d2 : ((j + 1 : Nat) : Int) < (ns.length : Int) := by omega
              have d3 : ((j + 1 : Nat) : Int) - 1 = (j : Int) := by omega
              have d4 : (0 : Int) ≤ (j : Int) := by omega
              have d5 : (j : Int) < (ns.length : Int) := by omega
              have hq := leq_str y x
              rw [decide_eq_false (HR10.out j x y hx hy), Bool.or_eq_false_iff] at hq
              obtain ⟨q1, q2⟩ := hq
              obtain ⟨kk, hkk⟩ : ∃ kk, kk = j + 1 := ⟨_, rfl⟩
              rw [← hkk] at d1 d2 d3 t1 ⊢
              have HKK := Lib.hid hkk
              clear hx hy hk2 hkk hk1 hlt
              go_wp2
              go_quiet (fail)
              go_wp2
              go_roundw
              case rel => exact ⟨kk + 1, by omega, by go_num, .inr (by have := HKK.out; omega), bstep BK.out (((Keep.refl (fun _ => False) _).drewN _).to_below)⟩
              case measure => simp [intOf]; omega
            · have d2 : ¬ (k : Int) < (ns.length : Int) := by omega
              have HN2 := Lib.hid (names_walk A1 l.length l wr (S10.out.below BK.out) (by omega))
              have BW := Lib.hid (bstep B10.out BK.out)
              have b3 : (pn : Int) ≤ (l.length : Int) := by omega
              clear hk2 hk1
              go_wp2_with fail
              refine HN2.out.mono ?_
              rintro e w12 ⟨A12, c12, rfl, _, hb12⟩
              have B12 := Lib.hid (bstep BW.out hb12)
              have hl2 : ((namesP l).length : Int) + 1 = (ns.length : Int) := HLEN.out.symm
              have hl3 : (namesP l).length ≤ 8000000000000 := by rw [names_len]; exact Nat.le_trans (rawN_length l) (by omega)
              clear hb12
              go_wp2
              go_ret
              exact ⟨rfl, B12.out⟩
end Go.Proofs.YtcganoomgdabkaaDoor.lawEntryPuts
