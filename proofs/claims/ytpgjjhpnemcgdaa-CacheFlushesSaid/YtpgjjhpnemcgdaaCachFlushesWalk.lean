/- CacheFlushes: the walk. -/
import Derived.Test.YtpgjjhpnemcgdaaCachS
set_option linter.unusedSimpArgs false
set_option linter.unusedVariables false
namespace Go.Proofs.Ytpgjjhpnemcgdaa
open Go.RowKit

attribute [local go_sem ↓] Go.wp_at_zero Go.wp_at_succ
theorem sl_x {X : Nat → Prop} {w w4 W : World} {size n : Nat} {v : Value} {xs : List Value} (h : Sl w size v n xs) (hX : ∀ j, j < w.heap.size → X j) (hb : Below w.heap.size w w4) (hk : Keep (fun j => ¬ X j) w4 W) : Sl W size v n xs :=
  (h.below hb).keep hk (fun j e hx hn => hn (hX j (h.lt e hx)))
theorem fo_x {X : Nat → Prop} {w w4 W : World} {ad : Addr} {d : List UInt8} (h1 : ad.block < w.heap.size) (h : ∀ j v, (bv d)[j]? = some v → w.cell? (ad.add j) = some v) (hX : ∀ j, j < w.heap.size → X j) (hb : Below w.heap.size w w4) (hk : Keep (fun j => ¬ X j) w4 W) : Fo X W ad d :=
  ⟨hX _ h1, fun j v hj => hk.cell ((Keep.of_below (S := fun _ => False) hb).cell (h j v hj) id) (fun hn => hn (by
    have e : (ad.add j).block = ad.block := by unfold Addr.add; split <;> rfl
    rw [e]
    exact hX _ h1))⟩
theorem sl_some {w : World} {A : Option Addr} {d : List UInt8} {c : Nat} (h : Sl w 1 (.slice A d.length c) d.length (bv d)) (h0 : 0 < d.length) : ∃ ad, A = some ad ∧ ad.block < w.heap.size ∧ d.length ≤ c ∧ ∀ j v, (bv d)[j]? = some v → w.cell? (ad.add j) = some v := by
  have h' := h
  obtain ⟨A', c', e', hr, hz, hc, _⟩ := h
  injection e' with e1 _ e3
  subst e1 e3
  have hne : bv d ≠ [] := fun e => by rw [bv_eq_nil] at e; subst e; simp at h0
  rcases hr with h | ⟨ad, rfl, hcl⟩
  · exact absurd h hne
  · exact ⟨ad, rfl, h'.lt rfl hne, hc, hcl⟩
set_option maxRecDepth 100000 in
set_option maxHeartbeats 4000000 in
theorem flushes_walk (l0 : List Nat) (A0 : Option Addr) (c0 : Nat) (l1 : List BS) (A1 : Option Addr) (c1 : Nat) (w : World) (h0 : Sl w 1 (.slice A0 l0.length c0) l0.length (u16s l0)) (h1 : Sl w 1 (.slice A1 l1.length c1) l1.length (bss l1)) (hl0 : l0.length ≤ 140737488351232) (hl1 : l1.length ≤ 140737488351232)
    (hu : ∀ n ∈ l0, n < 65536) (hb : ∀ p ∈ l1, Sl w 1 (.slice p.1 p.2.1.length p.2.2) p.2.1.length (bv p.2.1) ∧ p.2.1.length ≤ 140737488351232) :
    Calls Try.prog 4 #[.slice A0 l0.length c0, .slice A1 l1.length c1] w fun e w' => e = .returned (.bool true) ∧ Below w.heap.size w w' := by
  have HN := Lib.hid (new_walk (fun j => j < w.heap.size) w (fun _ h => h))
  have H0 := Lib.hid h0
  have H1 := Lib.hid h1
  have HU := Lib.hid hu
  have HB := Lib.hid hb
  clear h0 h1 hu hb
  go_enter Try.func4, Try.ntmps4
  go_wp2_with fail
  refine HN.out.mono ?_
  rintro e w1 ⟨rfl, h1, hb1⟩
  have HC1 := Lib.hid h1
  have B1 := Lib.hid hb1
  clear h1 hb1
  go_wp2_with fail
  refine (awake_walk _).mono ?_
  rintro e w2 ⟨rfl, hb2⟩
  have B2 := Lib.hid (B1.out.trans (hb2.mono B1.out.size))
  have HLE := Lib.hid (lease_walk (by obtain ⟨a1, a2, a3, a4, a5, a6, h⟩ := HC1.out; exact ⟨a1, a2, a3, a4, a5, a6, h.below hb2⟩) rfl 0 0 (by omega) (by decide))
  clear hb2
  go_wp2_with fail
  refine HLE.out.mono ?_
  rintro e w3 ⟨rfl, h3, hk3⟩
  have B3 := Lib.hid (B2.out.trans (hk3.below (fun j hj => Nat.le_of_not_lt hj) B2.out.size))
  have HC3 := Lib.hid h3
  clear h3 hk3
  have hmk : ∀ W : World, (Instr.makeSlice 23 (.int .i64 0) (.int .i64 0)).run Try.prog W = .ok (.slice (some ⟨W.heap.size, 0, none⟩) 0 0) (W.alloc (.cells #[] 5)) := fun W => by kernel_rfl
  go_upto_region 6 with fail
  obtain ⟨w4, hw4⟩ : ∃ w4, w4 = w3.alloc (.cells #[] 5) := ⟨_, rfl⟩
  rw [← hw4]
  have hb34 : Below w3.heap.size w3 w4 := by rw [hw4]; exact (Below.refl _ w3).alloc (Nat.le_refl _) _
  have hx4 : w4.heap[w3.heap.size]? = some (.cells #[] 5 (0, 0)) := by rw [hw4]; exact blk_new w3 _
  have HX4 := Lib.hid hx4
  have HOW := own_new w3 #[] 5 1 0 rfl (by decide)
  rw [← hw4] at HOW
  replace HOW := Lib.hid HOW
  have B4 := Lib.hid (B3.out.trans (hb34.mono B3.out.size))
  obtain ⟨k, hk⟩ : ∃ k : Nat, k = w.heap.size := ⟨_, rfl⟩
  obtain ⟨T, hT⟩ : ∃ T : Nat, T = w3.heap.size := ⟨_, rfl⟩
  have hC4 : Ca (fun j => j < w.heap.size ∨ j = T) w.heap.size (leaseP CaS.new 0 0) w4 := by
    rw [hT]
    obtain ⟨a1, a2, a3, a4, a5, a6, h⟩ := HC3.out
    exact ⟨a1, a2, a3, a4, a5, a6, h.addNew hb34 (by rw [hw4]; simp)⟩
  obtain ⟨X, hX⟩ : ∃ X : Nat → Prop, X = fun j => j < w.heap.size ∨ j = T := ⟨_, rfl⟩
  rw [← hX, ← hk] at hC4
  rw [← hT] at HX4 HOW
  have HC4 := Lib.hid hC4
  have HX := Lib.hid hX
  have HK := Lib.hid hk
  have HT := Lib.hid hT
  rw [← hk, ← hT]
  clear hmk hx4 hw4 hb34 hC4 hX hk hT
  go_upto_block 0 with fail
  go_cut [7] (fun v wx => WE X k w4 v wx)
  case first =>
    go_wp2_with fail
    go_loopw [7, 8] (fun v7 v8 wr => WI X k l0.length w4 v7 v8 wr) (fun _ v _ => l0.length - (intOf v).toNat)
    case atStart => exact ⟨0, [], _, by omega, rfl, rfl, by simp, FW.lease, HC4.out, Keep.refl _ _⟩
    case round =>
      obtain ⟨i, L, s, hi, rfl, rfl, hL, hfw, hca, hkp⟩ := hrel
      have HFW := Lib.hid hfw
      have HCA := Lib.hid hca
      have HKP := Lib.hid hkp
      clear hfw hca hkp
      have g2 : IntKind.i64.wrap ((i : Int) + 1) = (i : Int) + 1 := IntWalk.i64_in _ (by omega)
      by_cases hlt : i < l0.length
      · have a1 : (i : Int) < (l0.length : Int) := by omega
        have a0 : (0 : Int) ≤ (i : Int) := by omega
        by_cases hlt1 : i < l1.length
        · have a2 : (i : Int) < (l1.length : Int) := by omega
          by_cases hL16 : L.length < 16
          · have a3 : (L.length : Int) < 16 := by omega
            have g3 : IntKind.i64.wrap ((L.length : Int) + 1) = (L.length : Int) + 1 := IntWalk.i64_in _ (by omega)
            obtain ⟨m, hm⟩ : ∃ m, l0[i]? = some m := ⟨l0[i], List.getElem?_eq_getElem hlt⟩
            obtain ⟨⟨Ad, d, dc⟩, hp⟩ : ∃ p, l1[i]? = some p := ⟨l1[i], List.getElem?_eq_getElem hlt1⟩
            have hm6 := HU.out m (List.mem_of_getElem? hm)
            obtain ⟨hsd, hdl⟩ := HB.out _ (List.mem_of_getElem? hp)
            replace hsd : Sl w 1 (.slice Ad d.length dc) d.length (bv d) := hsd
            replace hdl : d.length ≤ 140737488351232 := hdl
            have hXs : ∀ j, j < w.heap.size → X j := fun j hj => by rw [HX.out]; exact .inl hj
            obtain ⟨b0, o0, rfl, _, q0⟩ := sl_row (sl_x H0.out hXs B4.out HKP.out) (u16s_get hm)
            obtain ⟨b1, o1, rfl, _, q1⟩ := sl_row (sl_x H1.out hXs B4.out HKP.out) (bss_get hp)
            replace q1 : wr.cell? ⟨b1, o1 + i, none⟩ = some (.slice Ad d.length dc) := q1
            obtain ⟨fr, hfr⟩ : ∃ fr : Nat, fr = m % 2000 := ⟨_, rfl⟩
            have e1 : IntKind.i64.wrap (m : Int) = (m : Int) := IntWalk.i64_in _ (by omega)
            have e2 : (m : Int) % 2000 = (fr : Int) := by omega
            have hfr2 : fr < 2000 := by omega
            have HSD := Lib.hid hsd
            have HXS := Lib.hid hXs
            clear hm hp hsd hXs hfr
            by_cases hd0 : d.length = 0
            · have t0 : ((d.length : Int) == 0) = true := beq_iff_eq.2 (by omega)
              clear hd0
              go_wp2_with fail
              go_roundw
              case rel => exact ⟨i + 1, L, s, by omega, by rw [Int.natCast_add]; rfl, rfl, hL, HFW.out, HCA.out, HKP.out⟩
              case measure => simp only [intOf]; omega
            · have t0 : ((d.length : Int) == 0) = false := beq_eq_false_iff_ne.2 (by omega)
              by_cases hd3 : 300 < d.length
              · have t1 : (300 : Int) < (d.length : Int) := by omega
                clear hd0
                go_wp2_with fail
                go_roundw
                case rel => exact ⟨i + 1, L, s, by omega, by rw [Int.natCast_add]; rfl, rfl, hL, HFW.out, HCA.out, HKP.out⟩
                case measure => simp only [intOf]; omega
              · have t1 : ¬ (300 : Int) < (d.length : Int) := by omega
                obtain ⟨ad, rfl, hb1, hdc, hcl⟩ := sl_some HSD.out (by omega)
                have hle := HFW.out.le
                have hss : s.size = s.data.length := by rw [HFW.out.size, HFW.out.data]
                have HWW := Lib.hid (write_walk HCA.out HFW.out.mode (by rw [HFW.out.dirty]; exact hL16) HFW.out.kb (by omega) (by omega) (by omega) fr d dc ad hdc (by omega) (by omega) (fo_x hb1 hcl HXS.out B4.out HKP.out))
                have HD0 := Lib.hid hd0
                clear hd0 hb1 hdc hcl hle hss
                go_wp2_with fail
                refine HWW.out.mono ?_
                rintro e w5 ⟨s', hw, rfl, h5, hk5⟩
                have HF5 : Hid (FW (L ++ [(fr, d)]) s') := Lib.hid (HFW.out.write hfr2 (by have := HD0.out; omega) (by omega) hw)
                have HC5 := Lib.hid h5
                have HK5 := Lib.hid (HKP.out.trans hk5 (fun _ _ h => h))
                clear hw h5 hk5
                go_wp2_with fail
                go_roundw
                case rel => exact ⟨i + 1, L ++ [(fr, d)], s', by omega, by rw [Int.natCast_add]; rfl, by rw [List.length_append, Int.natCast_add]; rfl, by rw [List.length_append]; exact hL16, HF5.out, HC5.out, HK5.out⟩
                case measure => simp only [intOf]; omega
          · have a3 : ¬ (L.length : Int) < 16 := by omega
            go_wp2_with fail
            go_meet
            case rel => exact ⟨L, s, rfl, hL, HFW.out, HCA.out, HKP.out⟩
        · have a2 : ¬ (i : Int) < (l1.length : Int) := by omega
          go_wp2_with fail
          go_meet
          case rel => exact ⟨L, s, rfl, hL, HFW.out, HCA.out, HKP.out⟩
      · have a1 : ¬ (i : Int) < (l0.length : Int) := by omega
        go_wp2_with fail
        go_meet
        case rel => exact ⟨L, s, rfl, hL, HFW.out, HCA.out, HKP.out⟩
  case rest =>
    obtain ⟨L, s, rfl, hL, hfw, hca, hkp⟩ := hcut
    have hXT : X T := by rw [HX.out]; exact .inr rfl
    have hAL := al_start hca (hkp.blk HX4.out (fun h => h hXT)) hXT (fun p hp => (hfw.one p (by rw [← hfw.dirty]; exact hp)).2.1)
    have hzz : s.size = s.data.length := by rw [hfw.size, hfw.data]
    have hle := hfw.le
    have HRD := Lib.hid (read_walk hca (by omega) (by omega) 0 9728 (by omega) (by omega))
    have hrd : readP s 0 9728 = ovl L := by
      obtain ⟨r1, r2⟩ := read_all' (s := s) (by omega) (by omega)
      rw [← hfw.data]
      apply List.ext_getElem?
      intro j
      by_cases hj : j < s.size
      · exact r2 j hj
      · rw [List.getElem?_eq_none (by omega), List.getElem?_eq_none (by omega)]
    rw [hrd] at HRD
    have HOW5 := Lib.hid (own_keep HOW.out hkp (fun j e hn => hn (by have e : T = j := Option.some.inj e; rw [← e]; exact hXT)))
    have HAL := Lib.hid hAL
    have HFW := Lib.hid hfw
    have B5 := Lib.hid (B4.out.trans (hkp.below (fun j hj => Nat.le_of_not_lt (fun h => hj (by rw [HX.out]; exact .inl h))) B4.out.size))
    have hTB : w.heap.size ≤ T := by rw [HT.out]; exact B3.out.size
    have hD : (ovl L).length ≤ 2300 := by rw [← hfw.size]; exact hle
    clear hXT hAL hle hzz hrd hfw hca hkp
    go_wp2_with fail
    refine HRD.out.mono ?_
    rintro e w5 ⟨v, rfl, hbn⟩
    have kc := run_conv_bytes (P := Try.prog) w5 Try.underlying23 Try.underlying5 Try.underlying9 (Sl.of_own hbn.own)
    have HOW6 := Lib.hid (own_keep HOW5.out (Keep.of_below (S := fun _ => False) hbn.be) (fun _ _ h => h))
    have HAL6 := Lib.hid (HAL.out.below hbn.be)
    have B6 := Lib.hid (B5.out.trans (hbn.be.mono B5.out.size))
    obtain ⟨A5, c5, rfl, _⟩ := Rd.of_own hbn.own
    clear hbn
    go_upto_region 16 with fail
    clear kc
    go_upto_region 17 with fail
    have HST : Hid (LI k w.heap.size L s w5 (.int .i64 0) (.slice (some ⟨T, 0, none⟩) 0 0) w5) := Lib.hid ⟨0, some ⟨T, 0, none⟩, 0, by omega, rfl, rfl, HOW6.out, by have := HAL6.out; rw [List.drop_zero, ← HFW.out.dirty]; exact this, fun j e => by have e : T = j := Option.some.inj e; omega, Below.refl _ _⟩
    go_loopw [6, 11] (fun v6 v11 wr => LI k w.heap.size L s w5 v11 v6 wr) (fun _ v _ => L.length - (intOf v).toNat)
    case atStart => exact HST.out
    case round =>
      obtain ⟨i, A, c, hi, rfl, rfl, ho, hal, hbA, hbe⟩ := hrel
      obtain ⟨wo, hwo⟩ : ∃ W : World, W = wr := ⟨_, rfl⟩
      subst hwo
      obtain ⟨D, hDD⟩ : ∃ D, D = ovl (L.take i) := ⟨_, rfl⟩
      rw [← hDD] at ho ⊢
      have HO := Lib.hid ho
      have HA := Lib.hid hal
      have HBA := Lib.hid hbA
      have BE := Lib.hid hbe
      have HDD := Lib.hid hDD
      clear ho hal hbA hbe hDD
      by_cases hlt : i < L.length
      · have a1 : (i : Int) < (L.length : Int) := by omega
        have g2 : IntKind.i64.wrap ((i : Int) + 1) = (i : Int) + 1 := IntWalk.i64_in _ (by omega)
        obtain ⟨⟨fr, d⟩, hp⟩ : ∃ p, L[i]? = some p := ⟨L[i], List.getElem?_eq_getElem hlt⟩
        have hdr : L.drop i = (fr, d) :: L.drop (i + 1) := by rw [List.drop_eq_getElem_cons hlt]; congr 1; rw [List.getElem?_eq_getElem hlt] at hp; exact Option.some.inj hp
        have htk : ovl (L.take (i + 1)) = ov1 D (fr, d) := by rw [List.take_add_one, hp, HDD.out]; exact ovl_snoc _ _
        have hone := HFW.out.one _ (List.mem_of_getElem? hp)
        obtain ⟨hf2, hd0, hd3⟩ : fr < 2000 ∧ 0 < d.length ∧ d.length ≤ 300 := hone
        have hll : (L.drop (i + 1)).length ≤ 16 := by rw [List.length_drop]; omega
        have hDl : D.length ≤ 2300 := by rw [HDD.out]; exact ovl_le 2300 _ (fun p hp => by have := HFW.out.one p (List.mem_of_mem_take hp); omega)
        have HFI := Lib.hid (al_first HA.out hdr (by omega) (by show (L.drop i).length ≤ _; rw [List.length_drop]; omega))
        have HDR := Lib.hid hdr
        have HTK := Lib.hid htk
        have HLL := Lib.hid hll
        clear hp hdr htk hll
        go_wp2_with fail
        refine HFI.out.mono ?_
        rintro e w6 ⟨v, rfl, hbn⟩
        obtain ⟨AV, cv, rfl, _⟩ := Rd.of_own hbn.own
        obtain ⟨adv, rfl, _, hdcv, _⟩ := sl_some (Sl.of_own hbn.own) hd0
        have HBN := Lib.hid hbn
        clear hbn
        go_upto_region 20 with fail
        obtain ⟨w7, hw7⟩ : ∃ w7, w7 = w6.alloc (.cells #[.int .i64 (fr : Int), .slice (some adv) d.length cv] 39) := ⟨_, rfl⟩
        obtain ⟨P, hP⟩ : ∃ P, P = w6.heap.size := ⟨_, rfl⟩
        rw [← hw7, ← hP]
        have hb67 : Below w6.heap.size w6 w7 := by rw [hw7]; exact (Below.refl _ w6).alloc (Nat.le_refl _) _
        have HP7 : Hid (w7.heap[P]? = some (.cells #[.int .i64 (fr : Int), .slice (some adv) d.length cv] 39 (0, 0))) := Lib.hid (by rw [hw7, hP]; exact blk_new w6 _)
        have hbr7 := HBN.out.be.trans (hb67.mono HBN.out.be.size)
        have HO7 := Lib.hid (own_keep HO.out (Keep.of_below (S := fun _ => False) hbr7) (fun _ _ h => h))
        have HA7 := Lib.hid (HA.out.below hbr7)
        have HSV := Lib.hid ((Sl.of_own HBN.out.own).below hb67)
        have BE7 := Lib.hid (BE.out.trans (hbr7.mono (Nat.le_trans B6.out.size BE.out.size)))
        have hPr : wo.heap.size ≤ P := by rw [hP]; exact HBN.out.be.size
        have HAP : Hid (∀ j, A.map (·.block) = some j → j < wo.heap.size) := Lib.hid (fun j e => by
          obtain ⟨cs, hb⟩ := own_blk HO.out (k := j) (by rw [ownBlock_slice]; exact e)
          exact blk_lt hb)
        have hB7 : w.heap.size ≤ w7.heap.size := Nat.le_trans (Nat.le_trans B6.out.size BE.out.size) hbr7.size
        have HAV : Hid (∀ j, (some P = some j ∨ (some adv).map (·.block) = some j) → ¬ A.map (·.block) = some j) := Lib.hid (fun j e hj => by
          have := HAP.out j hj
          rcases e with e | e
          · have := Option.some.inj e; omega
          · have := HBN.out.fresh j (by rw [ownBlock_slice]; exact e); omega)
        have HPS := Lib.hid hPr
        clear hw7 hP hb67 hbr7
        go_upto_region 22 with fail
        have HST2 : Hid (ZI k { s with dirty := L.drop i } D (fr + d.length) w.heap.size A w7 (.slice A D.length c) w7) := Lib.hid ⟨D.length, A, c, Nat.le_refl _, by omega, rfl, by rw [growP_self]; exact HO7.out, HA7.out, fun j e => ⟨HBA.out j e, .inl e⟩, Keep.refl _ _⟩
        go_loopw [6] (fun v6 wr => ZI k { s with dirty := L.drop i } D (fr + d.length) w.heap.size A w7 v6 wr) (fun v _ => fr + d.length - slLen v)
        case atStart => exact HST2.out
        case round =>
          obtain ⟨m, A2, c2, h1, h2, rfl, ho, hal, hA2, hk⟩ := hrel
          have hpb := hk.blk HP7.out (fun h => HAV.out P (.inl rfl) h)
          have p0 : wr.cell? ⟨P, 0, none⟩ = some (.int .i64 (fr : Int)) := (blk_cells hpb 0).trans rfl
          have p1 : wr.cell? ⟨P, 1, none⟩ = some (.slice (some adv) d.length cv) := (blk_cells hpb 1).trans rfl
          have HO2 := Lib.hid ho
          have HA2 := Lib.hid hal
          have HAB := Lib.hid hA2
          have HK2 := Lib.hid hk
          have z1 : IntKind.i64.wrap ((fr : Int) + (d.length : Int)) = (fr : Int) + (d.length : Int) := IntWalk.i64_in _ (by omega)
          clear ho hal hA2 hk hpb
          by_cases hm : m < fr + d.length
          · have m1 : (m : Int) < (fr : Int) + (d.length : Int) := by omega
            have HM : Hid (m < max D.length (fr + d.length)) := Lib.hid (by omega)
            have HSO := Lib.hid (own_new wr #[.int .u8 0] 5 1 1 rfl (by decide))
            go_wp2_with (at_builtin; go_must (refine wpList_app rfl eltB rfl rfl rfl (n := m) (m := 1) (own_keep HO2.out ((Keep.refl (fun _ => False) _).alloc _) (fun _ _ h => h)) (Sl.of_own HSO.out) (by simp [Value.oneCell']) (by omega) (by simp only [maxLen]; omega) ?_))
            intro v8 w8 g1 g2 g3 g4
            clear g4
            obtain ⟨A8, c8, rfl, _⟩ := Rd.of_own g1
            have HZ := Lib.hid (zi_step h1 HM.out HO2.out HA2.out HAB.out HK2.out hB7 g1 g2 g3)
            clear g1 g2 g3
            go_wp2_with fail
            go_roundw
            case rel => exact HZ.out
            case measure => have := HM.out; simp only [slLen]; omega
          · have m1 : ¬ (m : Int) < (fr : Int) + (d.length : Int) := by omega
            have hmm : m = max D.length (fr + d.length) := by omega
            obtain ⟨g, cap, cur, eg, hgb, hcap, _, hcur, _⟩ := own_form HO2.out (show 0 < m by omega)
            injection eg with eg _ egc
            subst eg egc
            have hcap' : m ≤ c2 := hcap
            have hcur' : cur.size = c2 := by rw [hcur, Nat.mul_one]
            obtain ⟨W9, hW9⟩ : ∃ W, W = wr.drew := ⟨_, rfl⟩
            have HPUT := Lib.hid (zi_put hmm HO2.out HA2.out hgb hW9)
            have HGB : Hid (W9.heap[g]? = some (.cells cur 5 (0, 0))) := Lib.hid (by rw [hW9]; exact hgb)
            have HSRC : Hid (∀ j v, (bv d)[j]? = some v → W9.cell? (adv.add j) = some v) := Lib.hid (by
              rw [hW9]
              obtain ⟨_, e, _, _, h⟩ := sl_some ((HSV.out.keep HK2.out (fun j e _ => HAV.out j (.inr (by rw [ownBlock_slice] at e; exact e)))).below ((Below.refl wr.heap.size wr).drew)) hd0
              obtain rfl := Option.some.inj e
              exact h)
            have HMIN := Lib.hid (show (bv d).length = Nat.min d.length (m - fr) by rw [bv_length]; exact (Nat.min_eq_left (by omega)).symm)
            have HFIT := Lib.hid (show fr + (bv d).length ≤ cur.size by rw [bv_length]; omega)
            have HGP : Hid (w.heap.size ≤ g) := Lib.hid ((HAB.out g rfl).1)
            have p0r : World.cell? { heap := wr.heap, tape := wr.tape, drawn := wr.drawn + 1, os := wr.os, output := wr.output } ⟨P, 0, none⟩ = some (.int .i64 (fr : Int)) := p0
            have p1r : World.cell? { heap := wr.heap, tape := wr.tape, drawn := wr.drawn + 1, os := wr.os, output := wr.output } ⟨P, 1, none⟩ = some (.slice (some adv) d.length cv) := p1
            have i0 : (0 : Int) ≤ (fr : Int) := by omega
            have i1 : (fr : Int) ≤ (m : Int) := by omega
            have i2 : (m : Int) ≤ (c2 : Int) := by omega
            have i3 : ¬ c2 = fr := by omega
            have HW9 := Lib.hid hW9
            have HMM := Lib.hid (show max D.length (fr + d.length) = m from hmm.symm)
            clear hmm hgb hcap hcur hcap' hcur' hW9
            go_upto_region 24 with fail
            go_still_tail 6, (by kernel_rfl)
            change wpList _ _ _ _ _ wr.drew
            rw [← HW9.out]
            clear p0 p1 p0r p1r
            go_wp2_with ((with_reducible show wpList _ _ _ (⟨some 105, _, _, _, _, _⟩ :: _) _ _); refine wpList_copy_own rfl (.tmp 102) (.tmp 104) 23 23 rfl 5 Try.underlying23 (by kernel_rfl) g fr (m - fr) (c2 - fr) adv d.length cv rfl rfl cur 5 HGB.out (bv d) HMIN.out HSRC.out HFIT.out (bv_one d) ?_)
            refine (al_flushed HPUT.out.2.1 HDR.out (Nat.le_trans HLL.out (by decide))).mono ?_
            rintro e w11 ⟨rfl, hal, hk⟩
            have HRES : Hid (LI k w.heap.size L s w5 (.int .i64 ((i : Int) + 1)) (.slice (some ⟨g, 0, none⟩) m c2) w11) := Lib.hid ⟨i + 1, some ⟨g, 0, none⟩, c2, hlt, by rw [Int.natCast_add]; rfl, by rw [HTK.out, ov1_len, HMM.out], by rw [HTK.out]; exact own_keep HPUT.out.1 hk (fun j e hj => HPUT.out.2.1.ne HPUT.out.1 j e hj), hal, fun j e => by have e : g = j := Option.some.inj e; rw [← e]; exact HGP.out, (((BE7.out.trans (HK2.out.below (fun j e => HBA.out j e) hB7)).trans (HPUT.out.2.2.below (fun j e => by have e : j = g := e; rw [e]; exact HGP.out) (Nat.le_trans hB7 HK2.out.size))).trans (hk.below (fun j e => by have e : j = k := e; rw [e, HK.out]; exact Nat.le_refl _) (Nat.le_trans (Nat.le_trans hB7 HK2.out.size) HPUT.out.2.2.size)))⟩
            clear hal hk
            go_wp2_with fail
            go_roundw
            case rel => exact HRES.out
            case measure => simp only [intOf]; omega
      · obtain rfl : i = L.length := by omega
        have a1 : ¬ (L.length : Int) < (L.length : Int) := by omega
        have hDe : D = ovl L := by have := HDD.out; rw [List.take_length] at this; exact this
        subst hDe
        have hAL : AL k { s with dirty := [] } A wo := by have := HA.out; rw [List.drop_length] at this; exact this
        obtain ⟨X1, hca⟩ := hAL.ca
        have HFN := Lib.hid (first0_walk hca rfl)
        have HCA := Lib.hid hca
        clear hAL hca
        go_wp2_with fail
        refine HFN.out.mono ?_
        rintro e w6 ⟨rfl, hb6⟩
        have HB6 := Lib.hid hb6
        clear hb6
        go_upto_region 27 with fail
        obtain ⟨w7, hw7⟩ : ∃ w7, w7 = w6.alloc (.cells #[.int .i64 0, .slice none 0 0] 39) := ⟨_, rfl⟩
        rw [← hw7]
        have hb7 : Below wo.heap.size wo w7 := by rw [hw7]; exact HB6.out.trans ((Below.refl _ w6).alloc HB6.out.size _)
        have hca7 : Ca X1 k { s with dirty := [] } w7 := by obtain ⟨a1, a2, a3, a4, a5, a6, h⟩ := HCA.out; exact ⟨a1, a2, a3, a4, a5, a6, h.below hb7⟩
        have hDW := dirty_walk hca7
        have hSZ := size_walk hca7
        replace hSZ : Calls Try.prog 12 #[.pointer (some ⟨k, 0, none⟩)] w7 fun e w' => e = .returned (.int .i64 (s.size : Int)) ∧ w' = w7 := hSZ
        rw [HFW.out.size] at hSZ
        have HDW := Lib.hid hDW
        have HSZ := Lib.hid hSZ
        have B7 := Lib.hid ((B6.out.trans BE.out).trans (hb7.mono (Nat.le_trans B6.out.size BE.out.size)))
        have kc := run_conv_bytes (P := Try.prog) w7 Try.underlying23 Try.underlying5 Try.underlying9 ((Sl.of_own HO.out).below hb7)
        have hes : ∀ D : List UInt8, (D.toArray.size == D.length) = true := fun D => by simp
        clear hw7 hb7 hca7 hDW hSZ
        go_wp2_with fail
        refine HDW.out.mono ?_
        rintro e W ⟨rfl, hWW⟩
        have hWW' := hWW.symm
        subst hWW'
        clear hWW
        go_wp2_with fail
        refine HSZ.out.mono ?_
        rintro e W ⟨rfl, hWW⟩
        have hWW' := hWW.symm
        subst hWW'
        clear hWW
        go_wp2
        go_ret
        exact ⟨rfl, B7.out⟩
end Go.Proofs.Ytpgjjhpnemcgdaa
