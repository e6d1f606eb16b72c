/- Package cache: Fill. -/
import Derived.Test.YtpgjjhpnemcgdaaCachI
set_option linter.unusedSimpArgs false
set_option linter.unusedVariables false
namespace Go.Proofs.Ytpgjjhpnemcgdaa
open Go.RowKit

attribute [local go_sem ↓] Go.wp_at_zero Go.wp_at_succ
theorem CA.addX {X P : Nat → Prop} {k : Nat} {s : CaS} {w : World} {DA : Option Addr} {dc : Nat} {kv : Value} {YA : Option Addr} {yc : Nat} {L : List ((Nat × List UInt8) × Value)} (h : CA X k s w DA dc kv YA yc L) (hP : ∀ j, P j → ∃ cs fr, w.heap[j]? = some (.cells cs 52 fr)) : CA (fun j => X j ∨ P j) k s w DA dc kv YA yc L := by
  refine ⟨h.blk, h.data, h.known, h.dirty, h.names, h.pieces, fun j hj => ?_, fun hj => ?_, fun j e hj => ?_, fun j e hj => ?_⟩
  · rcases hj with hj | hj
    · exact h.old j hj
    · obtain ⟨cs, fr, hb⟩ := hP j hj
      exact blk_lt hb
  · rcases hj with hj | hj
    · exact h.notk hj
    · obtain ⟨cs, fr, hb⟩ := hP k hj
      exact blk_clash h.blk hb (by decide) rfl
  · rcases hj with hj | hj
    · exact h.notd j e hj
    · obtain ⟨cs, fr, hb⟩ := hP j hj
      exact own_ne_blk h.data hb (by decide) (k := j) (by rw [ownBlock_slice]; exact e) rfl
  · rcases hj with hj | hj
    · exact h.noty j e hj
    · obtain ⟨cs, fr, hb⟩ := hP j hj
      exact own_ne_blk h.dirty hb (by decide) (k := j) (by rw [ownBlock_slice]; exact e) rfl
theorem CA.lessX {X Y : Nat → Prop} {k : Nat} {s : CaS} {w : World} {DA : Option Addr} {dc : Nat} {kv : Value} {YA : Option Addr} {yc : Nat} {L : List ((Nat × List UInt8) × Value)} (h : CA Y k s w DA dc kv YA yc L) (hX : ∀ j, X j → Y j) : CA X k s w DA dc kv YA yc L :=
  ⟨h.blk, h.data, h.known, h.dirty, h.names, h.pieces, fun j hj => h.old j (hX j hj), fun hj => h.notk (hX _ hj), fun j e hj => h.notd j e (hX _ hj), fun j e hj => h.noty j e (hX _ hj)⟩
set_option maxRecDepth 100000 in
set_option maxHeartbeats 4000000 in
theorem fill_walk {X : Nat → Prop} {k : Nat} {s : CaS} {w : World} (h : Ca X k s w) (hK : KB s.known) (hs : s.size ≤ 9728) (hsd : s.size ≤ s.data.length) (hdl : s.data.length ≤ 1000000) (a z f t : Nat) (ha : a ≤ 1000000) (hz : z ≤ 1000000) (hpt : partN s a z = (f, t)) (hft : f < t) (d : List UInt8) (bc gb go : Nat) (hd : d.length = t - f) (hbc : d.length ≤ bc) (hB : Fo X w ⟨gb, go, none⟩ d) :
    Calls Try.prog 10 #[.pointer (some ⟨k, 0, none⟩), .int .i64 (a : Int), .int .i64 (z : Int), .slice (some ⟨gb, go, none⟩) d.length bc] w fun e w' => ∃ D' R, FiP f d s.data (lessP [(f, t)] s.known) D' ∧ Kn s.known f t R ∧ e = .returned (.tuple #[]) ∧ Ca X k { s with data := D', known := R } w' ∧ Keep (fun j => ¬ X j) w w' := by
  have hP := part_walk h (a : Int) (z : Int) (by omega) (by omega) (by omega)
  rw [part_n, hpt] at hP
  simp only at hP
  have hle : t ≤ s.size := by have := part_le s a z; rw [hpt] at this; exact this
  have HP := Lib.hid hP
  have HB := Lib.hid hB
  have HK := Lib.hid hK
  have HM := Lib.hid (fun w => make_walk (a := f) (b := t) hft (by omega) w)
  have hA : PS [(f, t)] := PS.single ⟨hft, by simp only; omega⟩
  have hless := KB.less (KB.single hft (by omega)) hK.ps
  obtain ⟨DA, dc, kv, YA, yc, L, h0⟩ := h
  have H := Lib.hid h0
  have HD := Lib.hid hd
  obtain ⟨R, hR⟩ : ∃ R, R = lessP [(f, t)] s.known := ⟨_, rfl⟩
  rw [← hR] at hless ⊢
  have HRE := Lib.hid hR
  clear hP hB h0 hd hR
  go_enter Try.func10, Try.ntmps10
  go_wp2_with fail
  refine HP.out.mono ?_
  rintro e w1 ⟨rfl, hb1⟩
  have HB1 := Lib.hid hb1
  have h1 := H.out.below hb1
  have H1 := Lib.hid h1
  have c4 : w1.cell? ⟨k, 4, none⟩ = some kv := (blk_cells h1.blk 4).trans rfl
  clear h1 hb1
  go_wp2_with fail
  refine (HM.out _).mono ?_
  rintro e W ⟨rfl, rfl⟩
  obtain ⟨w2, hw2⟩ : ∃ w2, w2 = W.alloc (.cells #[.complex .f64 (fb f) (fb t)] 52) := ⟨_, rfl⟩
  have hb2 : Below W.heap.size W w2 := by rw [hw2]; exact (Below.refl _ W).alloc (Nat.le_refl _) _
  have ho := own_new W #[.complex .f64 (fb f) (fb t)] 52 1 1 rfl (by decide)
  rw [← hw2] at ho
  have HL := Lib.hid (less_walk [(f, t)] s.known (.slice (some ⟨W.heap.size, 0, none⟩) 1 1) kv w2 hA.snd hK.ps.snd ⟨_, 1, rfl, Sl.of_own ho⟩ (H1.out.known.below hb2).c (by simp) (by have := hK.len; omega) (by rw [← HRE.out]; have := hless.1.len; omega))
  rw [← HRE.out] at HL
  have c4a : (W.alloc (.cells #[.complex .f64 (fb f) (fb t)] 52)).cell? ⟨k, 4, none⟩ = some kv := by rw [← hw2]; exact (blk_cells (H1.out.below hb2).blk 4).trans rfl
  have HB2 := Lib.hid (HB1.out.trans (hb2.mono HB1.out.size))
  have HW2 := Lib.hid hw2
  have HLK := Lib.hid hless
  clear ho hb2 hw2 hA hless hK
  go_wp2_with fail
  rw [← HW2.out]
  refine HL.out.mono ?_
  rintro e w3 ⟨v3, rfl, hv3, hb3⟩
  obtain ⟨A3, c3, rfl, hs3, hA3, _⟩ := hv3
  have hB3 := HB2.out.trans (hb3.mono HB2.out.size)
  have hC0 := (H.out.below hB3).addX (P := fun j => A3.map (·.block) = some j) (fun j hj => (hA3 j hj).2)
  have HS3 := Lib.hid hs3
  have HB3 := Lib.hid hB3
  have HST : Hid (FlInv (fun j => X j ∨ A3.map (·.block) = some j) k s f d R w3 (.int .i64 0) w3) := Lib.hid ⟨0, s.data, Nat.zero_le _, rfl, FiP.nil f d s.data, ⟨DA, dc, kv, YA, yc, L, hC0⟩, Keep.refl _ _⟩
  have hRl := HLK.out.1.len
  clear hs3 hA3 hb3 hB3 hC0 c4 c4a
  go_upto_region 6 with fail
  go_loopw [48] (fun v wr => FlInv (fun j => X j ∨ A3.map (·.block) = some j) k s f d R w3 v wr) (fun v _ => R.length - (intOf v).toNat)
  case atStart => exact HST.out
  case round =>
    obtain ⟨i, D', hi, rfl, hfi, hca, hkp⟩ := hrel
    have HFI := Lib.hid hfi
    have HKP := Lib.hid hkp
    have HCA := Lib.hid hca
    clear hfi hkp hca
    by_cases hlt : i < R.length
    · obtain ⟨pq, hpq⟩ : ∃ pq, R[i]? = some pq := ⟨R[i], List.getElem?_eq_getElem hlt⟩
      have hmem := List.mem_of_getElem? hpq
      have hp1 := HLK.out.1.ps.one pq hmem
      have hcv := HLK.out.2
      have HTK := Lib.hid (show R.take (i + 1) = R.take i ++ [pq] by rw [List.take_add_one, hpq]; rfl)
      obtain ⟨b, o, rfl, _, hc⟩ := sl_row (HS3.out.keep HKP.out (fun j e _ hn => hn (.inr (by rw [ownBlock_slice] at e; exact e)))) (cxs_get hpq)
      obtain ⟨p, q⟩ := pq
      have hpq1 : p < q := hp1.1
      have hq2 : q ≤ 1099511627776 := hp1.2
      have hfpt : f ≤ p ∧ q ≤ t := by
        have e1 := (cov_one _ _).1 ((hcv p).1 ⟨(p, q), hmem, Nat.le_refl _, hpq1⟩).1
        have e2 := (cov_one _ _).1 ((hcv (q - 1)).1 ⟨(p, q), hmem, by simp only; omega, by simp only; omega⟩).1
        simp only at e1 e2
        omega
      obtain ⟨hfp, hqt⟩ := hfpt
      simp only at hc
      have HE := Lib.hid (fun w => ends_walk hpq1 hq2 w)
      have hd := HD.out
      obtain ⟨DA1, dc1, kv1, YA1, yc1, L1, h1⟩ := HCA.out
      have hDl : D'.length = s.data.length := HFI.out.len
      obtain ⟨g, cap, cur, eg, hb, hcap, _, hcur, _⟩ := own_form h1.data (show 0 < D'.length by omega)
      injection eg with eg _ egc
      subst eg egc
      have hcap' : D'.length ≤ dc1 := hcap
      have hcur' : cur.size = dc1 := by rw [hcur, Nat.mul_one]
      have c3 : wr.cell? ⟨k, 3, none⟩ = some (.slice (some ⟨g, 0, none⟩) D'.length dc1) := (blk_cells h1.blk 3).trans rfl
      have hzl : (List.replicate (q - p) (0 : UInt8)).length = q - p := List.length_replicate ..
      obtain ⟨W5, hW5⟩ : ∃ W5, W5 = wr.setRow g (cur.toList.take p ++ (bv (List.replicate (q - p) 0) ++ cur.toList.drop (p + (bv (List.replicate (q - p) 0)).length))).toArray := ⟨_, rfl⟩
      have hput := h1.put (o := p) (cs := List.replicate (q - p) 0) hb (show p + _ ≤ D'.length by rw [hzl]; omega)
      rw [← hW5] at hput
      obtain ⟨cur5, hcur5⟩ : ∃ c5, c5 = (cur.toList.take p ++ (bv (List.replicate (q - p) 0) ++ cur.toList.drop (p + (bv (List.replicate (q - p) 0)).length))).toArray := ⟨_, rfl⟩
      have hb5 : W5.heap[g]? = some (.cells cur5 5 (0, 0)) := by rw [hW5, hcur5]; exact setRow_heap wr g cur _ _ _ hb
      have hs5 : cur5.size = dc1 := by rw [hcur5]; simp only [List.size_toArray, List.length_append, List.length_take, List.length_drop, Array.length_toList, bv_length, hzl]; omega
      obtain ⟨D5, hD5⟩ : ∃ D5, D5 = putP D' p (List.replicate (q - p) 0) := ⟨_, rfl⟩
      have hD5l : D5.length = D'.length := by rw [hD5]; exact putP_len (by rw [hzl]; omega)
      rw [← hD5] at hput
      have c35 : W5.cell? ⟨k, 3, none⟩ = some (.slice (some ⟨g, 0, none⟩) D'.length dc1) := by have := (blk_cells hput.1.blk 3).trans rfl; simp only [hD5l] at this; exact this
      have c35r : World.cell? { heap := W5.heap, tape := W5.tape, drawn := W5.drawn + 1, os := W5.os, output := W5.output } ⟨k, 3, none⟩ = some (.slice (some ⟨g, 0, none⟩) D'.length dc1) := c35
      obtain ⟨W6, hW6⟩ : ∃ W6, W6 = W5.drew := ⟨_, rfl⟩
      have h6 := hput.1.below (show Below W5.heap.size W5 W6 by rw [hW6]; exact (Below.refl _ W5).drew)
      have hb6 : W6.heap[g]? = some (.cells cur5 5 (0, 0)) := by rw [hW6]; exact hb5
      obtain ⟨cs, hcs⟩ : ∃ cs, cs = (d.drop (p - f)).take (q - p) := ⟨_, rfl⟩
      have hcsl : cs.length = q - p := by rw [hcs, List.length_take, List.length_drop]; omega
      have HPUT2 := Lib.hid (h6.put (o := p) (cs := cs) hb6 (show p + _ ≤ D5.length by rw [hcsl]; omega))
      have HFO := Lib.hid (show ∀ j v, (bv cs)[j]? = some v → W6.cell? ((⟨gb, go + (p - f), none⟩ : Addr).add j) = some v from fun j v hj => by
        have hk6 : Keep (fun j => ¬ X j) w W6 := by
          rw [hW6]
          exact (((Keep.of_below (S := fun j => ¬ X j) HB3.out).trans HKP.out (fun j _ h hj => h (.inl hj))).trans hput.2 (fun j _ h hj => h (.inl hj))).drew
        have := HB.out.below_keep hk6 (p - f + j) v (by
          rw [hcs] at hj
          simp only [bv, List.map_take, List.map_drop] at hj
          rw [List.getElem?_take] at hj
          split at hj
          · rw [List.getElem?_drop] at hj
            exact hj
          · cases hj)
        rw [Addr.add_lit] at this ⊢
        rw [Nat.add_assoc]
        exact this)
      have HMIN := Lib.hid (show (bv cs).length = Nat.min (d.length - (p - f)) (q - p) by rw [bv_length, hcsl]; exact (Nat.min_eq_right (by omega)).symm)
      have HFIT1 := Lib.hid (show p + (q - p) ≤ cur.size by omega)
      have HFIT2 := Lib.hid (show p + (bv cs).length ≤ cur5.size by rw [bv_length, hcsl]; omega)
      have HBA := Lib.hid hb
      have HB6 := Lib.hid hb6
      have HW5 := Lib.hid hW5
      have HW6 := Lib.hid hW6
      have HNX : Hid (FiP f d s.data (R.take (i + 1)) (putP D5 p cs)) := Lib.hid (by rw [HTK.out, hD5, hcs]; exact HFI.out.snoc hfp hpq1 hqt hd (by omega) _ hzl)
      have HK56 := Lib.hid (show Keep (fun j => ¬ (X j ∨ (some (⟨b, o, none⟩ : Addr)).map (·.block) = some j)) w3 W6 by rw [hW6]; exact (HKP.out.trans hput.2 (fun _ _ h => h)).drew)
      have i0 : (0 : Int) ≤ (i : Int) := by omega
      have i1 : (i : Int) < (R.length : Int) := by omega
      have p0 : (0 : Int) ≤ (p : Int) := by omega
      have p1 : (p : Int) ≤ (q : Int) := by omega
      have p2 : (q : Int) ≤ (dc1 : Int) := by omega
      have p3 : ¬ dc1 = p := by omega
      have m0 : IntKind.i64.wrap ((p : Int) - (f : Int)) = (p : Int) - (f : Int) := IntWalk.i64_in _ (by omega)
      have m1 : ¬ (d.length : Int) < (p : Int) - (f : Int) := by omega
      have m2 : (0 : Int) ≤ (p : Int) - (f : Int) := by omega
      have m3 : (p : Int) - (f : Int) ≤ (d.length : Int) := by omega
      have m6 : ((p : Int) - (f : Int)).toNat = p - f := by omega
      have m7 : min ((p : Int) - (f : Int)) (d.length : Int) = (p : Int) - (f : Int) := by omega
      have m4 : ¬ bc = p - f := by omega
      have m5 : (d.length : Int) ≤ (bc : Int) := by omega
      clear hpq hmem hp1 hcv hd h1 hDl hb hcap hcur hcap' hcur' hzl hW5 hput hcur5 hb5 hs5 hD5 hD5l hW6 h6 hb6 hcs hcsl
      go_wp2_with fail
      refine (HE.out _).mono ?_
      rintro e W ⟨rfl, hWW⟩
      have hWW' := hWW.symm
      subst hWW'
      clear hc
      go_upto_region 10 with ((with_reducible show wpList _ _ _ (⟨none, _, _, _, _, _⟩ :: _) _ _); refine wpList_clear_bytes (s := .tmp 64) rfl rfl rfl HBA.out HFIT1.out ?_)
      rw [← HW5.out]
      clear c3
      go_still_tail 15, (by kernel_rfl)
      change wpList _ _ _ _ _ W5.drew
      rw [← HW6.out]
      clear c35 c35r
      go_wp2_with ((with_reducible show wpList _ _ _ (⟨some 80, _, _, _, _, _⟩ :: _) _ _); refine wpList_copy_own rfl (.tmp 71) (.tmp 79) 23 23 rfl 5 Try.underlying23 (by kernel_rfl) g p (q - p) (dc1 - p) ⟨gb, go + (p - f), none⟩ (d.length - (p - f)) (bc - (p - f)) rfl rfl cur5 5 HB6.out (bv cs) HMIN.out HFO.out HFIT2.out (bv_one cs) ?_)
      go_roundw
      case rel => exact ⟨i + 1, _, by omega, by go_num, HNX.out, ⟨_, _, _, _, _, _, HPUT2.out.1⟩, HK56.out.trans HPUT2.out.2 (fun _ _ h => h)⟩
      case measure => simp [intOf]; omega
    · obtain rfl : i = R.length := by omega
      have i1 : ¬ ((R.length : Nat) : Int) < (R.length : Int) := by omega
      have HFF : Hid (FiP f d s.data R D') := Lib.hid (by have := HFI.out; rw [List.take_length] at this; exact this)
      have hcx : Ca X k { s with data := D' } wr := by
        obtain ⟨a1, a2, a3, a4, a5, a6, hc⟩ := HCA.out
        exact ⟨a1, a2, a3, a4, a5, a6, hc.lessX (fun j hj => .inl hj)⟩
      have HKW := Lib.hid (know_walk hcx HK.out (a := f) (b := t) (by omega) (by omega))
      clear hcx
      go_wp2_with fail
      refine HKW.out.mono ?_
      rintro e w5 ⟨R2, hR2, rfl, h5, hk5⟩
      have H5 := Lib.hid h5
      have HR2 := Lib.hid hR2
      have HK5 := Lib.hid hk5
      clear h5 hR2 hk5
      go_wp2
      go_end0
      exact ⟨D', R2, HFF.out, HR2.out, rfl, H5.out, ((Keep.of_below (S := fun j => ¬ X j) HB3.out).trans HKP.out (fun j _ h hj => h (.inl hj))).trans HK5.out (fun _ _ h => h)⟩
end Go.Proofs.Ytpgjjhpnemcgdaa
