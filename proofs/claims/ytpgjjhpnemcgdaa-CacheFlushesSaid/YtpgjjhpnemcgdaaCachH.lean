/- Package cache: bytes are others. (printed by cachwrite.py) -/
import Derived.Test.YtpgjjhpnemcgdaaCachG
import Derived.StillTailTactics
set_option linter.unusedSimpArgs false
set_option linter.unusedVariables false
namespace Go.Proofs.Ytpgjjhpnemcgdaa
open Go.RowKit

attribute [local go_sem ↓] Go.wp_at_zero Go.wp_at_succ
theorem growP_len (d : List UInt8) (n : Nat) : (growP d n).length = max d.length n := by
  unfold growP
  rw [List.length_append, List.length_replicate]
  omega
/-- What a write makes. -/
structure WrP (s : CaS) (at_ : Nat) (d : List UInt8) (s' : CaS) : Prop where
  mode : s'.mode = s.mode
  since : s'.since = s.since
  lost : s'.lost = s.lost
  size : s'.size = max s.size (at_ + d.length)
  dirty : s'.dirty = s.dirty ++ [(at_, d)]
  data : s'.data = putP (if s.size < at_ then putP (growP s.data (at_ + d.length)) s.size (List.replicate (at_ - s.size) 0) else growP s.data (at_ + d.length)) at_ d
  known : KB s'.known
  cov : ∀ n, Cov s'.known n ↔ Cov s.known n ∨ (s.size ≤ n ∧ n < at_) ∨ (at_ ≤ n ∧ n < at_ + d.length)
/-- Another's bytes. -/
def Fo (X : Nat → Prop) (w : World) (ad : Addr) (d : List UInt8) : Prop := X ad.block ∧ ∀ j v, (bv d)[j]? = some v → w.cell? (ad.add j) = some v
theorem Fo.below_keep {X : Nat → Prop} {w w' : World} {ad : Addr} {d : List UInt8} (h : Fo X w ad d) (hk : Keep (fun j => ¬ X j) w w') : ∀ j v, (bv d)[j]? = some v → w'.cell? (ad.add j) = some v := fun j v hj =>
  hk.cell (h.2 j v hj) (fun hn => hn (by have : (ad.add j).block = ad.block := by unfold Addr.add; split <;> rfl
                                         rw [this]; exact h.1))
set_option maxRecDepth 100000 in
set_option maxHeartbeats 4000000 in
theorem write_walk {X : Nat → Prop} {k : Nat} {s : CaS} {w : World} (h : Ca X k s w) (hm : s.mode = 2) (hdy : s.dirty.length < 16) (hK : KB s.known) (hs : s.size ≤ 9728) (hsd : s.size ≤ s.data.length) (hdl : s.data.length ≤ 1000000) (at_ : Nat) (d : List UInt8) (bc : Nat) (ad : Addr) (hbc : d.length ≤ bc) (hat : at_ + d.length ≤ 9728) (hne : 0 < d.length) (hB : Fo X w ad d) :
    Calls Try.prog 8 #[.pointer (some ⟨k, 0, none⟩), .int .i64 (at_ : Int), .slice (some ad) d.length bc] w fun e w' => ∃ s', WrP s at_ d s' ∧ e = .returned (.int .i64 0) ∧ Ca X k s' w' ∧ Keep (fun j => ¬ X j) w w' := by
  have hG := grow_walk h (at_ + d.length) (by omega) hdl
  rw [Int.natCast_add] at hG
  have HG := Lib.hid hG
  have HBL := Lib.hid hB
  have HK := Lib.hid hK
  have HBC := Lib.hid hbc
  have hnk : ¬ X k := by obtain ⟨DA, dc, kv, YA, yc, L, h⟩ := h; exact h.notk
  have HNK := Lib.hid hnk
  obtain ⟨DA, dc, kv, YA, yc, L, h0⟩ := h
  have c0 : w.cell? ⟨k, 0, none⟩ = some (.int .i64 2) := by have := (blk_cells h0.blk 0).trans rfl; rw [hm] at this; exact this
  have c5 : w.cell? ⟨k, 5, none⟩ = some (.slice YA s.dirty.length yc) := (blk_cells h0.blk 5).trans rfl
  have i1 : ¬ (9728 : Int) < (at_ : Int) := by omega
  have i2 : IntKind.i64.wrap (9728 - (at_ : Int)) = 9728 - (at_ : Int) := IntWalk.i64_in _ (by omega)
  have i3 : ¬ 9728 - (at_ : Int) < (d.length : Int) := by omega
  have i4 : ((d.length : Int) == 0) = false := beq_eq_false_iff_ne.2 (by omega)
  have i5 : ¬ (16 : Int) ≤ (s.dirty.length : Int) := by omega
  have i6 : IntKind.i64.wrap ((at_ : Int) + (d.length : Int)) = (at_ : Int) + (d.length : Int) := IntWalk.i64_in _ (by omega)
  have i7 : ¬ (at_ : Int) < 0 := by omega
  clear h0 hG hB hK hnk hbc
  go_enter Try.func8, Try.ntmps8
  go_wp2_with fail
  refine HG.out.mono ?_
  rintro e w1 ⟨rfl, h1, hk1⟩
  obtain ⟨D, hD⟩ : ∃ D, D = growP s.data (at_ + d.length) := ⟨_, rfl⟩
  have hDl : D.length = max s.data.length (at_ + d.length) := by rw [hD, growP_len]
  rw [← hD] at h1
  have HDL := Lib.hid hDl
  have H1 := Lib.hid h1
  have HK1 := Lib.hid hk1
  have HDD := Lib.hid hD
  obtain ⟨DA1, dc1, kv1, YA1, yc1, L1, h1'⟩ := id h1
  have c2 : w1.cell? ⟨k, 2, none⟩ = some (.int .i64 (s.size : Int)) := (blk_cells h1'.blk 2).trans rfl
  clear hD h1 hk1 c0 c5 i1 i2 i3 i4 i5 i7
  by_cases hgt : s.size < at_
  · skip
    obtain ⟨g1, cap1, cur1, e1, hb1, hcap1, _, hcur1, _⟩ := own_form h1'.data (show 0 < D.length by omega)
    injection e1 with e1 _ e1c
    subst e1 e1c
    have hcap1' : D.length ≤ dc1 := hcap1
    have hcur1' : cur1.size = dc1 := by rw [hcur1, Nat.mul_one]
    obtain ⟨w2, hw2⟩ : ∃ w2, w2 = w1.drew := ⟨_, rfl⟩
    have c3 : w1.cell? ⟨k, 3, none⟩ = some (.slice (some ⟨g1, 0, none⟩) D.length dc1) := (blk_cells h1'.blk 3).trans rfl
    have c3r : World.cell? { heap := w1.heap, tape := w1.tape, drawn := w1.drawn + 1, os := w1.os, output := w1.output } ⟨k, 3, none⟩ = some (.slice (some ⟨g1, 0, none⟩) D.length dc1) := c3
    have c2r : World.cell? { heap := w1.heap, tape := w1.tape, drawn := w1.drawn + 1, os := w1.os, output := w1.output } ⟨k, 2, none⟩ = some (.int .i64 (s.size : Int)) := c2
    have h2' := h1'.below (show Below w1.heap.size w1 w2 by rw [hw2]; exact (Below.refl _ w1).drew)
    have hb1' : w2.heap[g1]? = some (.cells cur1 5 (0, 0)) := by rw [hw2]; exact hb1
    have hzl : (List.replicate (at_ - s.size) (0 : UInt8)).length = at_ - s.size := List.length_replicate ..
    have HPZ := Lib.hid (h2'.put (o := s.size) (cs := List.replicate (at_ - s.size) 0) hb1' (show s.size + _ ≤ D.length by rw [hzl]; omega))
    have HB1 := Lib.hid hb1'
    have HFIT := Lib.hid (show s.size + (at_ - s.size) ≤ cur1.size by omega)
    have HKD := Lib.hid (show Keep (fun j => ¬ X j) w w2 by rw [hw2]; exact HK1.out.drew)
    have HW2 := Lib.hid hw2
    obtain ⟨D2, hD2⟩ : ∃ D2, D2 = putP D s.size (List.replicate (at_ - s.size) 0) := ⟨_, rfl⟩
    have hD2l : D2.length = D.length := by rw [hD2]; exact putP_len (by rw [hzl]; omega)
    have HD2E := Lib.hid hD2
    have k0 : (0 : Int) ≤ (s.size : Int) := by omega
    have k1 : (s.size : Int) ≤ (at_ : Int) := by omega
    have k2 : (at_ : Int) ≤ (dc1 : Int) := by omega
    have k3 : ¬ dc1 = s.size := by omega
    have z2 := (blk_cells HPZ.out.1.blk 2).trans rfl
    have g1' : (s.size : Int) < (at_ : Int) := by omega
    have HDL2' := Lib.hid (show D2.length = max s.data.length (at_ + d.length) by rw [hD2l, hDl])
    clear h1' hcap1 hcur1 hb1 hw2 h2' hb1' hzl hD2 hD2l hcap1' hcur1' hDl
    go_upto_region 14 with fail
    go_still_tail 10, (by kernel_rfl)
    change wpList _ _ _ _ _ w1.drew
    rw [← HW2.out]
    clear c2 c3 c2r c3r
    go_wp2_with ((with_reducible show wpList _ _ _ (⟨none, _, _, _, _, _⟩ :: _) _ _); refine wpList_clear_bytes (s := .tmp 64) rfl rfl rfl HB1.out HFIT.out ?_)
    have HKW1 := Lib.hid (know_walk ⟨_, _, _, _, _, _, HPZ.out.1⟩ HK.out (a := s.size) (b := at_) hgt (by omega))
    refine HKW1.out.mono ?_
    rintro e wa ⟨R1, hR1, rfl, h3, hk3⟩
    have HR1 := Lib.hid hR1
    have HC : Hid (Ca X k { s with data := D2, known := R1 } wa) := Lib.hid (by have := h3; rw [← HD2E.out] at this; exact this)
    have HKX : Hid (Keep (fun j => ¬ X j) w wa) := Lib.hid ((HKD.out.trans HPZ.out.2 (fun _ _ h => h)).trans hk3 (fun _ _ h => h))
    have HKB : Hid (KB R1) := Lib.hid hR1.1
    have hDl := HDL2'.out
    have c2 : True := trivial
    clear hR1 h3 hk3 k0 k1 k2 k3 z2 g1'
    obtain ⟨DA2, dc2, kv2, YA2, yc2, L2, h2⟩ := HC.out
    obtain ⟨g2, cap2, cur2, e2, hb2, hcap2, _, hcur2, _⟩ := own_form h2.data (show 0 < D2.length by omega)
    injection e2 with e2 _ e2c
    subst e2 e2c
    have hcap3 : D2.length ≤ dc2 := hcap2
    have hcur3 : cur2.size = dc2 := by rw [hcur2, Nat.mul_one]
    have HCS := Lib.hid (show at_ + d.length ≤ cur2.size by omega)
    have c3 : wa.cell? ⟨k, 3, none⟩ = some (.slice (some ⟨g2, 0, none⟩) D2.length dc2) := (blk_cells h2.blk 3).trans rfl
    have HPUT := Lib.hid (h2.put (o := at_) (cs := d) hb2 (show at_ + d.length ≤ D2.length by omega))
    have HLAST := Lib.hid (show (d.length : Nat) = Nat.min d.length (D2.length - at_) from (Nat.min_eq_left (by omega)).symm)
    have HSD := Lib.hid (HBL.out.below_keep HKX.out)
    have j0 : (0 : Int) ≤ (at_ : Int) := by omega
    have j1 : (at_ : Int) ≤ (D2.length : Int) := by omega
    have j2 : (D2.length : Int) ≤ (dc2 : Int) := by omega
    have j3 : ¬ dc2 = at_ := by omega
    have HB2 := Lib.hid hb2
    clear h2 hcap2 hcur2 hcur3 hcap3 hDl
    go_upto_region 16 with fail
    go_wp2_with ((with_reducible show wpList _ _ _ (⟨some 79, _, _, _, _, _⟩ :: _) _ _); refine wpList_copy_own rfl (.tmp 77) (.tmp 78) 23 23 rfl 5 Try.underlying23 (by kernel_rfl) g2 at_ (D2.length - at_) (dc2 - at_) ad d.length bc rfl rfl cur2 5 HB2.out (bv d) (by rw [bv_length]; exact HLAST.out) HSD.out (by rw [bv_length]; exact HCS.out) (bv_one d) ?_)
    have HKW := Lib.hid (know_walk ⟨_, _, _, _, _, _, HPUT.out.1⟩ HKB.out (a := at_) (b := at_ + d.length) (by omega) (by omega))
    rw [Int.natCast_add] at HKW
    refine HKW.out.mono ?_
    rintro e w3 ⟨R, hR, rfl, h3, hk3⟩
    have HR := Lib.hid hR
    have HK3 := Lib.hid ((HKX.out.trans HPUT.out.2 (fun _ _ h => h)).trans hk3 (fun _ _ h => h))
    obtain ⟨DA3, dc3, kv3, YA3, yc3, L3, h3'⟩ := h3
    have H3 := Lib.hid h3'
    have d2 : w3.cell? ⟨k, 2, none⟩ = some (.int .i64 (s.size : Int)) := (blk_cells h3'.blk 2).trans rfl
    have d5 : w3.cell? ⟨k, 5, none⟩ = some (.slice YA3 s.dirty.length yc3) := (blk_cells h3'.blk 5).trans rfl
    have fr2 := blk_frees h3'.blk 2
    clear hR h3' hk3 c3 c2 j0 j1 j2 j3
    obtain ⟨m, hmx⟩ : ∃ m : Nat, m = max s.size (at_ + d.length) := ⟨_, rfl⟩
    have hmx2 : max (s.size : Int) ((at_ : Int) + (d.length : Int)) = (m : Int) := by omega
    have HMX := Lib.hid hmx
    have HMX2 := Lib.hid hmx2
    clear hmx hmx2
    go_wp2_with fail
    rw [HMX2.out]
    obtain ⟨w4, hw4⟩ : ∃ w4, w4 = w3.setCell ⟨k, 2, none⟩ (.int .i64 (m : Int)) := ⟨_, rfl⟩
    rw [← hw4]
    have k4 : Keep (fun j => j = k) w3 w4 := by rw [hw4]; exact (Keep.refl (fun j => j = k) w3).setCell (p := ⟨k, 2, none⟩) (fun _ => rfl) (.int .i64 (m : Int))
    have h4 : CA X k { s with data := putP D2 at_ d, known := R, size := m } w4 DA3 dc3 kv3 YA3 yc3 L3 := H3.out.upd k4 rfl rfl (by rw [hw4]; exact blk_set4 H3.out.blk _ rfl) (H3.out.known_on k4)
    have H4 := Lib.hid h4
    have HK4 := Lib.hid (HK3.out.trans k4 (fun j _ e hj => HNK.out (by rw [← e]; exact hj)))
    have e5 : w4.cell? ⟨k, 5, none⟩ = some (.slice YA3 s.dirty.length yc3) := (blk_cells h4.blk 5).trans rfl
    have fe5 := blk_frees h4.blk 5
    have HSL := Lib.hid (show Sl w4.drew 1 (.slice (some ad) d.length bc) d.length (bv d) from ⟨some ad, bc, rfl, .inr ⟨ad, rfl, fun j v hj => HBL.out.below_keep HK4.out j v hj⟩, (fun e => by cases e), HBC.out, by rw [bv_length, Nat.mul_one]⟩)
    have HDL2 := Lib.hid (show d.length ≤ 1000000000 by omega)
    clear k4 h4 hw4 d2 d5 fr2
    have HM1 := Lib.hid (show (s.dirty.length + 1) * 32 ≤ 140737488355328 by omega)
    have HM2 := Lib.hid (show s.dirty.length + 1 ≤ maxLen by simp only [maxLen]; omega)
    go_region_law (first | (go_simp; go_at_call 23; refine (bclone_walk d (some ad) bc _ HSL.out HDL2.out).mono ?_; rintro e w5 ⟨pv, rfl, hbn⟩; have HBN := Lib.hid (show BN w4 w5 pv d from ⟨hbn.own, hbn.fresh, (Below.refl w4.heap.size w4).drew.trans hbn.be⟩); obtain ⟨PA, pc, rfl, _⟩ := Rd.of_own hbn.own; have h5 := H4.out.below HBN.out.be; have e5b : w5.cell? ⟨k, 5, none⟩ = some (.slice YA3 s.dirty.length yc3) := (blk_cells h5.blk 5).trans rfl; have e5c : (w5.alloc (.cells #[.int .i64 (at_ : Int), .slice PA d.length pc] 39)).cell? ⟨k, 5, none⟩ = some (.slice YA3 s.dirty.length yc3) := ((Keep.refl (fun _ => False) w5).alloc _).cell e5b id; have HRM := Lib.hid (H4.out.room (at_ := at_) HBN.out); have HAP := Lib.hid (H4.out.appended (at_ := at_) HBN.out); have HON := Lib.hid (show ∀ u ∈ [Value.int .i64 (at_ : Int), Value.slice PA d.length pc], u.oneCell' = true by simp [Value.oneCell']); clear hbn h5) | (go_must (refine step_app (by rfl) eltP (by rfl) (by rfl) (by rfl) (n := s.dirty.length) (m := 1) HRM.out.1 HRM.out.2 HON.out HM1.out HM2.out ?_; intro v6 w6 g1 g2 g3 g4; obtain ⟨A6, c6, rfl, _⟩ := Rd.of_own g1; obtain ⟨e6, fe6, hn6, hk6⟩ := HAP.out w6 A6 c6 g1 g2 g3; have HN := Lib.hid hn6; have HK6 := Lib.hid hk6; clear g1 g2 g3 g4 hn6 hk6)))
    all_goals
      go_wp2
      go_ret
      refine ⟨_, ?_, rfl, ⟨_, _, _, _, _, _, HN.out⟩, HK4.out.trans HK6.out (fun _ _ h => h)⟩
      refine ⟨rfl, rfl, rfl, HMX.out, rfl, by rw [if_pos hgt, ← HDD.out, ← HD2E.out], HR.out.1, fun n => (HR.out.2 n).trans ⟨fun h => ?_, fun h => ?_⟩⟩
      · rcases h with h | h
        · rcases (HR1.out.2 n).1 h with h | h
          · exact .inl h
          · exact .inr (.inl h)
        · exact .inr (.inr h)
      · rcases h with h | h | h
        · exact .inl ((HR1.out.2 n).2 (.inl h))
        · exact .inl ((HR1.out.2 n).2 (.inr h))
        · exact .inr h
  · have g1 : ¬ (s.size : Int) < (at_ : Int) := by omega
    have HC : Hid (Ca X k { s with data := D } w1) := H1
    have HKX : Hid (Keep (fun j => ¬ X j) w w1) := HK1
    have HKB := HK
    clear h1'
    obtain ⟨DA2, dc2, kv2, YA2, yc2, L2, h2⟩ := HC.out
    obtain ⟨g2, cap2, cur2, e2, hb2, hcap2, _, hcur2, _⟩ := own_form h2.data (show 0 < D.length by omega)
    injection e2 with e2 _ e2c
    subst e2 e2c
    have hcap3 : D.length ≤ dc2 := hcap2
    have hcur3 : cur2.size = dc2 := by rw [hcur2, Nat.mul_one]
    have HCS := Lib.hid (show at_ + d.length ≤ cur2.size by omega)
    have c3 : w1.cell? ⟨k, 3, none⟩ = some (.slice (some ⟨g2, 0, none⟩) D.length dc2) := (blk_cells h2.blk 3).trans rfl
    have HPUT := Lib.hid (h2.put (o := at_) (cs := d) hb2 (show at_ + d.length ≤ D.length by omega))
    have HLAST := Lib.hid (show (d.length : Nat) = Nat.min d.length (D.length - at_) from (Nat.min_eq_left (by omega)).symm)
    have HSD := Lib.hid (HBL.out.below_keep HKX.out)
    have j0 : (0 : Int) ≤ (at_ : Int) := by omega
    have j1 : (at_ : Int) ≤ (D.length : Int) := by omega
    have j2 : (D.length : Int) ≤ (dc2 : Int) := by omega
    have j3 : ¬ dc2 = at_ := by omega
    have HB2 := Lib.hid hb2
    clear h2 hcap2 hcur2 hcur3 hcap3 hDl
    go_upto_region 16 with fail
    go_wp2_with ((with_reducible show wpList _ _ _ (⟨some 79, _, _, _, _, _⟩ :: _) _ _); refine wpList_copy_own rfl (.tmp 77) (.tmp 78) 23 23 rfl 5 Try.underlying23 (by kernel_rfl) g2 at_ (D.length - at_) (dc2 - at_) ad d.length bc rfl rfl cur2 5 HB2.out (bv d) (by rw [bv_length]; exact HLAST.out) HSD.out (by rw [bv_length]; exact HCS.out) (bv_one d) ?_)
    have HKW := Lib.hid (know_walk ⟨_, _, _, _, _, _, HPUT.out.1⟩ HKB.out (a := at_) (b := at_ + d.length) (by omega) (by omega))
    rw [Int.natCast_add] at HKW
    refine HKW.out.mono ?_
    rintro e w3 ⟨R, hR, rfl, h3, hk3⟩
    have HR := Lib.hid hR
    have HK3 := Lib.hid ((HKX.out.trans HPUT.out.2 (fun _ _ h => h)).trans hk3 (fun _ _ h => h))
    obtain ⟨DA3, dc3, kv3, YA3, yc3, L3, h3'⟩ := h3
    have H3 := Lib.hid h3'
    have d2 : w3.cell? ⟨k, 2, none⟩ = some (.int .i64 (s.size : Int)) := (blk_cells h3'.blk 2).trans rfl
    have d5 : w3.cell? ⟨k, 5, none⟩ = some (.slice YA3 s.dirty.length yc3) := (blk_cells h3'.blk 5).trans rfl
    have fr2 := blk_frees h3'.blk 2
    clear hR h3' hk3 c3 c2 j0 j1 j2 j3
    obtain ⟨m, hmx⟩ : ∃ m : Nat, m = max s.size (at_ + d.length) := ⟨_, rfl⟩
    have hmx2 : max (s.size : Int) ((at_ : Int) + (d.length : Int)) = (m : Int) := by omega
    have HMX := Lib.hid hmx
    have HMX2 := Lib.hid hmx2
    clear hmx hmx2
    go_wp2_with fail
    rw [HMX2.out]
    obtain ⟨w4, hw4⟩ : ∃ w4, w4 = w3.setCell ⟨k, 2, none⟩ (.int .i64 (m : Int)) := ⟨_, rfl⟩
    rw [← hw4]
    have k4 : Keep (fun j => j = k) w3 w4 := by rw [hw4]; exact (Keep.refl (fun j => j = k) w3).setCell (p := ⟨k, 2, none⟩) (fun _ => rfl) (.int .i64 (m : Int))
    have h4 : CA X k { s with data := putP D at_ d, known := R, size := m } w4 DA3 dc3 kv3 YA3 yc3 L3 := H3.out.upd k4 rfl rfl (by rw [hw4]; exact blk_set4 H3.out.blk _ rfl) (H3.out.known_on k4)
    have H4 := Lib.hid h4
    have HK4 := Lib.hid (HK3.out.trans k4 (fun j _ e hj => HNK.out (by rw [← e]; exact hj)))
    have e5 : w4.cell? ⟨k, 5, none⟩ = some (.slice YA3 s.dirty.length yc3) := (blk_cells h4.blk 5).trans rfl
    have fe5 := blk_frees h4.blk 5
    have HSL := Lib.hid (show Sl w4.drew 1 (.slice (some ad) d.length bc) d.length (bv d) from ⟨some ad, bc, rfl, .inr ⟨ad, rfl, fun j v hj => HBL.out.below_keep HK4.out j v hj⟩, (fun e => by cases e), HBC.out, by rw [bv_length, Nat.mul_one]⟩)
    have HDL2 := Lib.hid (show d.length ≤ 1000000000 by omega)
    clear k4 h4 hw4 d2 d5 fr2
    have HM1 := Lib.hid (show (s.dirty.length + 1) * 32 ≤ 140737488355328 by omega)
    have HM2 := Lib.hid (show s.dirty.length + 1 ≤ maxLen by simp only [maxLen]; omega)
    go_region_law (first | (go_simp; go_at_call 23; refine (bclone_walk d (some ad) bc _ HSL.out HDL2.out).mono ?_; rintro e w5 ⟨pv, rfl, hbn⟩; have HBN := Lib.hid (show BN w4 w5 pv d from ⟨hbn.own, hbn.fresh, (Below.refl w4.heap.size w4).drew.trans hbn.be⟩); obtain ⟨PA, pc, rfl, _⟩ := Rd.of_own hbn.own; have h5 := H4.out.below HBN.out.be; have e5b : w5.cell? ⟨k, 5, none⟩ = some (.slice YA3 s.dirty.length yc3) := (blk_cells h5.blk 5).trans rfl; have e5c : (w5.alloc (.cells #[.int .i64 (at_ : Int), .slice PA d.length pc] 39)).cell? ⟨k, 5, none⟩ = some (.slice YA3 s.dirty.length yc3) := ((Keep.refl (fun _ => False) w5).alloc _).cell e5b id; have HRM := Lib.hid (H4.out.room (at_ := at_) HBN.out); have HAP := Lib.hid (H4.out.appended (at_ := at_) HBN.out); have HON := Lib.hid (show ∀ u ∈ [Value.int .i64 (at_ : Int), Value.slice PA d.length pc], u.oneCell' = true by simp [Value.oneCell']); clear hbn h5) | (go_must (refine step_app (by rfl) eltP (by rfl) (by rfl) (by rfl) (n := s.dirty.length) (m := 1) HRM.out.1 HRM.out.2 HON.out HM1.out HM2.out ?_; intro v6 w6 g1 g2 g3 g4; obtain ⟨A6, c6, rfl, _⟩ := Rd.of_own g1; obtain ⟨e6, fe6, hn6, hk6⟩ := HAP.out w6 A6 c6 g1 g2 g3; have HN := Lib.hid hn6; have HK6 := Lib.hid hk6; clear g1 g2 g3 g4 hn6 hk6)))
    all_goals
      go_wp2
      go_ret
      refine ⟨_, ?_, rfl, ⟨_, _, _, _, _, _, HN.out⟩, HK4.out.trans HK6.out (fun _ _ h => h)⟩
      refine ⟨rfl, rfl, rfl, HMX.out, rfl, by rw [if_neg hgt, ← HDD.out], HR.out.1, fun n => (HR.out.2 n).trans ⟨fun h => h.elim .inl (fun h => .inr (.inr h)), fun h => ?_⟩⟩
      rcases h with h | h | h
      · exact .inl h
      · omega
      · exact .inr h
end Go.Proofs.Ytpgjjhpnemcgdaa
