/- Package cache: awake. -/
import Derived.Test.YtpgjjhpnemcgdaaCachM
import Derived.Lib.SlBytesConst
set_option linter.unusedSimpArgs false
set_option linter.unusedVariables false
namespace Go.Proofs.Ytpgjjhpnemcgdaa
open Go.RowKit

attribute [local go_sem ↓] Go.wp_at_zero Go.wp_at_succ
set_option maxRecDepth 100000 in
set_option maxHeartbeats 4000000 in
theorem awake_walk (w : World) : Calls Try.prog 6 #[] w fun e w' => e = .returned (.bool true) ∧ Below w.heap.size w w' := by
  have HN := Lib.hid (new_walk (fun j => j < w.heap.size) w (fun _ h => h))
  go_enter Try.func6, Try.ntmps6
  go_wp2_with fail
  refine HN.out.mono ?_
  rintro e w1 ⟨rfl, h1, hb1⟩
  have HL := Lib.hid (lease_walk h1 rfl 5 10 (by decide) (by decide))
  have B1 := Lib.hid hb1
  have hcv := fun (w : World) (C : Array Value) (n c : Nat) => Lib.run_convert_bytes_const (P := Try.prog) w 23 5 C n c Try.underlying23 Try.underlying5
  clear h1 hb1
  go_wp2_with fail
  refine HL.out.mono ?_
  rintro e w2 ⟨rfl, h2, hk2⟩
  rw [aw_lease] at h2
  have B2 := Lib.hid (B1.out.trans (hk2.below (fun j hj => Nat.le_of_not_lt hj) B1.out.size))
  have hM := missing_walk h2 KB.nil (by decide) 0 99 (by decide) (by decide)
  rw [aw_miss] at hM
  have HM := Lib.hid hM
  have H2 := Lib.hid h2
  clear h2 hk2 hM
  go_wp2_with fail
  refine HM.out.mono ?_
  rintro e w3 ⟨rfl, hb3⟩
  have B3 := Lib.hid (B2.out.trans (hb3.mono B2.out.size))
  obtain ⟨w4, hw4⟩ : ∃ w4, w4 = w3.alloc (.cells #[.int .u8 48, .int .u8 49, .int .u8 50, .int .u8 51, .int .u8 52, .int .u8 53, .int .u8 54, .int .u8 55, .int .u8 56, .int .u8 57] 5 (10, 11)) := ⟨_, rfl⟩
  have hb4 : Below w3.heap.size w3 w4 := by rw [hw4]; exact (Below.refl _ w3).alloc (Nat.le_refl _) _
  have hx4 : w4.heap[w3.heap.size]? = some (.cells #[.int .u8 48, .int .u8 49, .int .u8 50, .int .u8 51, .int .u8 52, .int .u8 53, .int .u8 54, .int .u8 55, .int .u8 56, .int .u8 57] 5 (10, 11)) := by rw [hw4]; exact blk_new w3 _
  have h4 : Ca (fun j => j < w.heap.size ∨ j = w3.heap.size) w.heap.size awS w4 := by
    obtain ⟨a1, a2, a3, a4, a5, a6, h⟩ := H2.out
    exact ⟨a1, a2, a3, a4, a5, a6, (h.below hb3).addNew hb4 (by rw [hw4]; simp)⟩
  have hF : Fo (fun j => j < w.heap.size ∨ j = w3.heap.size) w4 ⟨w3.heap.size, 0, none⟩ aw10 := ⟨.inr rfl, fun j v hj => by rw [Addr.add_lit, Nat.zero_add]; exact (blk_cells hx4 j).trans (by rw [← Array.getElem?_toList]; exact hj)⟩
  have HF := Lib.hid (fill_walk h4 KB.nil (by decide) (by decide) (by decide) 0 10 0 10 (by decide) (by decide) aw_part10 (by decide) aw10 10 w3.heap.size 0 rfl (by decide) hF)
  have B4 := Lib.hid (B3.out.trans (hb4.mono B3.out.size))
  have HW4 := Lib.hid hw4
  clear hb3 hb4 hx4 h4 hF hw4
  go_wp2_with fail
  rw [← HW4.out]
  refine HF.out.mono ?_
  rintro e w5 ⟨D', R, hfi, hR, rfl, h5, hk5⟩
  obtain rfl := aw_fill hfi
  have B5 := Lib.hid (B4.out.trans (hk5.below (fun j hj => Nat.le_of_not_lt (fun h => hj (.inl h))) B4.out.size))
  have H5 := Lib.hid h5
  have HR := Lib.hid hR
  obtain ⟨w6, hw6⟩ : ∃ w6, w6 = w5.alloc (.cells #[.int .u8 97, .int .u8 98] 5 (2, 3)) := ⟨_, rfl⟩
  have hb6 : Below w5.heap.size w5 w6 := by rw [hw6]; exact (Below.refl _ w5).alloc (Nat.le_refl _) _
  have hx6 : w6.heap[w5.heap.size]? = some (.cells #[.int .u8 97, .int .u8 98] 5 (2, 3)) := by rw [hw6]; exact blk_new w5 _
  have h6 : Ca (fun j => (j < w.heap.size ∨ j = w3.heap.size) ∨ j = w5.heap.size) w.heap.size { awS with data := aw10, known := R } w6 := by
    obtain ⟨a1, a2, a3, a4, a5, a6, h⟩ := H5.out
    exact ⟨a1, a2, a3, a4, a5, a6, h.addNew hb6 (by rw [hw6]; simp)⟩
  have hF6 : Fo (fun j => (j < w.heap.size ∨ j = w3.heap.size) ∨ j = w5.heap.size) w6 ⟨w5.heap.size, 0, none⟩ [97, 98] := ⟨.inr rfl, fun j v hj => by rw [Addr.add_lit, Nat.zero_add]; exact (blk_cells hx6 j).trans (by rw [← Array.getElem?_toList]; exact hj)⟩
  have HWR := Lib.hid (write_walk h6 rfl (by show 0 < 16; decide) hR.1 (by show 10 ≤ 9728; decide) (by show 10 ≤ 10; decide) (by show 10 ≤ 1000000; decide) 3 [97, 98] 2 ⟨w5.heap.size, 0, none⟩ (by decide) (by decide) (by decide) hF6)
  have B6 := Lib.hid (B5.out.trans (hb6.mono B5.out.size))
  have HW6 := Lib.hid hw6
  clear hb6 hx6 h6 hF6 hw6 hfi hR h5 hk5
  go_wp2_with fail
  rw [← HW6.out]
  refine HWR.out.mono ?_
  rintro e w7 ⟨s7, hwr, rfl, h7, hk7⟩
  have hd7 := aw_write hwr rfl rfl
  have hdy : s7.dirty = [(3, [97, 98])] := hwr.dirty
  have HFI := Lib.hid (first_walk h7 hdy (by decide) (by rw [hdy]; decide))
  have B7 := Lib.hid (B6.out.trans (hk7.below (fun j hj => Nat.le_of_not_lt (fun h => hj (.inl (.inl h)))) B6.out.size))
  have H7 := Lib.hid h7
  have HWRP := Lib.hid hwr
  have HD7 := Lib.hid hd7
  have HDY := Lib.hid hdy
  clear h7 hk7 hwr hd7 hdy
  go_wp2_with fail
  refine HFI.out.mono ?_
  rintro e w8 ⟨pv, rfl, hbn⟩
  obtain ⟨PV, pvc, rfl, _⟩ := Rd.of_own hbn.own
  have HBN := Lib.hid hbn
  clear hbn
  go_upto_region 9 with fail
  obtain ⟨w9, hw9⟩ : ∃ w9, w9 = w8.alloc (.cells #[.int .i64 3, .slice PV 2 pvc] 39) := ⟨_, rfl⟩
  have hb9 : Below w8.heap.size w8 w9 := by rw [hw9]; exact (Below.refl _ w8).alloc (Nat.le_refl _) _
  have p0 : w9.cell? ⟨w8.heap.size, 0, none⟩ = some (.int .i64 3) := by rw [hw9]; exact (blk_cells (blk_new w8 _) 0).trans rfl
  have B9 := Lib.hid ((B7.out.trans (HBN.out.be.mono B7.out.size)).trans (hb9.mono (Nat.le_trans B7.out.size HBN.out.be.size)))
  have HCA : ∀ W, Below w9.heap.size w9 W → Ca (fun j => (j < w.heap.size ∨ j = w3.heap.size) ∨ j = w5.heap.size) w.heap.size s7 W := fun W hW => by
    obtain ⟨a1, a2, a3, a4, a5, a6, h⟩ := H7.out
    exact ⟨a1, a2, a3, a4, a5, a6, ((h.below HBN.out.be).below hb9).below hW⟩
  have hrd : readP s7 2 4 = [50, 97, 98, 53] := by
    unfold readP partN
    rw [HD7.out.2, HD7.out.1]
    decide
  have hRD := read_walk (HCA w9 (Below.refl _ _)) (by rw [HD7.out.2]; decide) (by rw [HD7.out.2, HD7.out.1]; decide) 2 4 (by decide) (by decide)
  rw [hrd] at hRD
  have HRD := Lib.hid hRD
  have HCAH := Lib.hid HCA
  have hsin : s7.since = 5 := HWRP.out.since
  have hmod : s7.mode = 2 := HWRP.out.mode
  have HV1 := Lib.hid (fun W hW => valid_walk (HCA W hW) hmod 20 20 (by decide) (by rw [hsin]; decide))
  have HV2 := Lib.hid (fun W hW => valid_walk (HCA W hW) hmod 21 21 (by decide) (by rw [hsin]; decide))
  rw [hsin] at HV1 HV2
  have hDW := fun W hW => dirty_walk (HCA W hW)
  rw [show s7.dirty.length = 1 by rw [HDY.out]; rfl] at hDW
  have HDW := Lib.hid hDW
  have HW9 := Lib.hid hw9
  clear hw9 hb9 HCA hrd hRD hsin hmod hDW
  go_wp2_with fail
  rw [← HW9.out]
  refine HRD.out.mono ?_
  rintro e w10 ⟨rv, rfl, hrb⟩
  obtain ⟨RV, rvc, rfl, _⟩ := Rd.of_own hrb.own
  have kc : (convert 23 9 (.slice RV 4 rvc)).run Try.prog w10 = .ok (.string ⟨#[50, 97, 98, 53]⟩) w10 := run_conv_bytes (P := Try.prog) w10 Try.underlying23 Try.underlying5 Try.underlying9 (Sl.of_own hrb.own)
  have HB10 := Lib.hid hrb.be
  clear hrb
  go_wp2_with fail
  refine (HV1.out w10 HB10.out).mono ?_
  rintro e w11 ⟨rfl, hb11⟩
  have HB11 := Lib.hid (HB10.out.trans (hb11.mono HB10.out.size))
  clear hb11
  go_wp2_with fail
  refine (HV2.out w11 HB11.out).mono ?_
  rintro e w12 ⟨rfl, hb12⟩
  have HB12 := Lib.hid (HB11.out.trans (hb12.mono HB11.out.size))
  clear hb12
  go_wp2_with fail
  refine (HDW.out w12 HB12.out).mono ?_
  rintro e w13 ⟨rfl, hw13⟩
  subst hw13
  go_wp2
  go_ret
  exact ⟨rfl, B9.out.trans (HB12.out.mono B9.out.size)⟩
end Go.Proofs.Ytpgjjhpnemcgdaa
