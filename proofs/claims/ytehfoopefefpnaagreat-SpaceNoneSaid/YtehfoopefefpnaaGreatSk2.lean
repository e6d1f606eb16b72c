/- Words and contracts that the proofs of this set use; each part says what it holds. -/
import Derived.Laws.CopyOwn
import Derived.Deep.RegionLaw
import Derived.Deep.MidRow
import Derived.BigQuiet
import Derived.Laws.Cover3
import Derived.Test.YtehfoopefefpnaaGreatSk1
import Derived.Test.YtehfoopefefpnaaGreatSk0
/- Package node: decode, the walk. -/
set_option linter.unusedSimpArgs false
set_option linter.unusedVariables false
namespace Go.Proofs.YtehfoopefefpnaaGreat
open Go.RowKit

attribute [local go_sem ↓] Go.wp_at_zero Go.wp_at_succ
set_option maxRecDepth 100000 in
set_option maxHeartbeats 8000000 in
theorem ndecode_walk (x : NoS) (hx : x.ok) (A : Option Addr) (c : Nat) (w : World) (h : Sl w 1 (.slice A (nodeE x).length c) (nodeE x).length (bv (nodeE x))) : Calls Tryz.prog 118 #[.slice A 32 c] w fun e w' => e = .returned (.tuple #[x.val, .bool true]) ∧ Below w.heap.size w w' := by
  obtain ⟨g, o, rfl, hg, hc0⟩ := bv_at h (nodeE_0 x).1
  obtain ⟨_, _, e1, _, hc1⟩ := bv_at h (nodeE_0 x).2
  injection e1 with e1; injection e1 with e1 e2; subst e1 e2
  have hlen : (nodeE x).length = 32 := nodeE_len x
  have hcap : 32 ≤ c := by obtain ⟨_, _, e, _, _, hc, _⟩ := h; injection e with _ _ e; subst e; omega
  have hpt : ∀ i n, x.ptrN[i]? = some n → w.cell? ⟨g, o + (14 + 2 * i), none⟩ = some (.int .u8 (((UInt8.ofNat n).toNat : Nat) : Int)) ∧ w.cell? ⟨g, o + (15 + 2 * i), none⟩ = some (.int .u8 (((UInt8.ofNat (n / 256)).toNat : Nat) : Int)) := fun i n hi => by
    obtain ⟨h1, h2⟩ := nodeE_ptr x i n hi
    obtain ⟨_, _, e1, _, q1⟩ := bv_at h h1
    obtain ⟨_, _, e2, _, q2⟩ := bv_at h h2
    injection e1 with e1; injection e1 with e1 e1'; subst e1 e1'
    injection e2 with e2; injection e2 with e2 e2'; subst e2 e2'
    exact ⟨q1, q2⟩
  have hkl : x.kind ≤ 2 ∧ x.links ≤ 255 ∧ x.size ≤ 9728 := by
    rcases hx.kd with ⟨k1, k2, k3, _⟩ | ⟨k1, k2, k3, k4⟩ | ⟨k1, k2, k3, k4⟩ <;> omega
  obtain ⟨hk2, hl2, hs2⟩ := hkl
  have e0 : (((UInt8.ofNat x.kind).toNat : Nat) : Int) = (x.kind : Int) := by rw [UInt8.toNat_ofNat']; omega
  have e1 : (((UInt8.ofNat x.links).toNat : Nat) : Int) = (x.links : Int) := by rw [UInt8.toNat_ofNat']; omega
  rw [e0] at hc0
  rw [e1] at hc1
  simp only [Nat.add_zero] at hc0
  have w0b : Below w.heap.size w (w.alloc (.cells #[.int .i64 0, .int .i64 0, .int .i64 0, .int .i64 0, .int .i64 0, .int .i64 0, .int .i64 0, .int .i64 0, .int .i64 0, .int .i64 0, .int .i64 0] 69)) := (Below.refl _ _).alloc (Nat.le_refl _) _
  have hx0 := blk_new w (.cells #[.int .i64 0, .int .i64 0, .int .i64 0, .int .i64 0, .int .i64 0, .int .i64 0, .int .i64 0, .int .i64 0, .int .i64 0, .int .i64 0, .int .i64 0] 69)
  obtain ⟨w0, hw0⟩ : ∃ w0, w0 = w.alloc (.cells #[.int .i64 0, .int .i64 0, .int .i64 0, .int .i64 0, .int .i64 0, .int .i64 0, .int .i64 0, .int .i64 0, .int .i64 0, .int .i64 0, .int .i64 0] 69) := ⟨_, rfl⟩
  have hz0 : w0.heap.size = w.heap.size + 1 := by rw [hw0]; simp
  rw [← hw0] at w0b hx0
  have hd2 := (h.below w0b).part 2 12 (by omega)
  rw [nodeE_drop2] at hd2
  obtain ⟨d, hd⟩ : ∃ d, d = le x.gen 4 ++ (le x.size 4 ++ le x.change 4) := ⟨_, rfl⟩
  rw [← hd] at hd2
  have hdl : d.length = 12 := by rw [hd]; simp [le_len]
  have hrd := read_walk d (some ⟨g, o + 2, none⟩) (c - 2) w0 hd2 (by omega)
  rw [hdl] at hrd
  have hd1 : unle (d.take 4) = x.gen ∧ unle ((d.drop 4).take 4) = x.size ∧ unle (((d.drop 4).drop 4).take 4) = x.change := by
    have := hx.gen; have := hx.change
    rw [hd]
    refine ⟨?_, ?_, ?_⟩
    · rw [take_le, unle_le _ _ (by omega)]
    · rw [drop_le, take_le, unle_le _ _ (by omega)]
    · rw [drop_le, drop_le, List.take_of_length_le (by rw [le_len]; exact Nat.le_refl _), unle_le _ _ (by omega)]
  obtain ⟨v1, v2, v3⟩ := hd1
  have HRD := Lib.hid hrd
  have HDL := Lib.hid hdl
  have HV1 := Lib.hid v1
  have HV2 := Lib.hid v2
  have HV3 := Lib.hid v3
  have HW0 := Lib.hid hw0
  have HX0 := Lib.hid hx0
  have B0 := Lib.hid w0b
  have HZ0 := Lib.hid hz0
  have HSL := Lib.hid h
  have HOK := Lib.hid hx
  have HPT := Lib.hid hpt
  have HC0 := Lib.hid hc0
  have HC1 := Lib.hid hc1
  have q2 : (14 : Int) ≤ (c : Int) := by omega
  have q3 : ¬ c = 2 := by omega
  have q4 : (2 : Int) ≤ 14 := by omega
  clear hd2 hrd hdl hd v1 v2 v3 hw0 hx0 w0b hz0 h hpt hc0 hc1 e0 e1 hlen hx
  go_enter Tryz.func118, Tryz.ntmps118
  go_wp2_with fail
  rw [← HW0.out]
  refine HRD.out.mono ?_
  rintro e w1 ⟨k, rfl, hk, hfo, hb1⟩
  have B1 := Lib.hid (B0.out.trans (hb1.mono B0.out.size))
  have HN1 := Lib.hid (fun (W : World) (hW : Below w1.heap.size w1 W) => fnum_walk d k w0.heap.size W (hfo.keep (Keep.of_below (S := fun _ => False) hW) id (fun _ _ _ _ h => h)) (by have := HDL.out; omega) (by have := HDL.out; omega) hk (Nat.le_trans hb1.size hW.size))
  have HX1 := Lib.hid ((Keep.of_below (S := fun _ => False) hb1).blk HX0.out id)
  have HK := Lib.hid hk
  have HKL : Hid (k < w1.heap.size) := Lib.hid (by obtain ⟨⟨_, _, hb, _⟩⟩ := hfo; exact blk_lt hb)
  have HCC := Lib.hid (fun (W : World) (hW : Below w.heap.size w W) => (show W.cell? ⟨g, o, none⟩ = some (.int .u8 (x.kind : Int)) ∧ W.cell? ⟨g, o + 1, none⟩ = some (.int .u8 (x.links : Int)) from ⟨(Keep.of_below (S := fun _ => False) hW).cell HC0.out id, (Keep.of_below (S := fun _ => False) hW).cell HC1.out id⟩))
  have HD1 := Lib.hid ((Below.refl w1.heap.size w1).drew)
  have BD1 := Lib.hid (B1.out.trans (HD1.out.mono B1.out.size))
  have HZ1 : Hid (w.heap.size ≤ w0.heap.size ∧ w0.heap.size ≤ w1.heap.size) := Lib.hid ⟨by have := HZ0.out; omega, hb1.size⟩
  clear hfo hb1 hk
  have HZ2 : Hid (w.heap.size ≤ w1.heap.size) := Lib.hid (Nat.le_trans HZ1.out.1 HZ1.out.2)
  have HDA := Lib.hid (((Below.refl w1.heap.size w1).alloc (Nat.le_refl _) (.cells #[.int .i64 0, .int .i64 0, .int .i64 0, .int .i64 0, .int .i64 0, .int .i64 0, .int .i64 0, .int .i64 0, .int .i64 0, .int .i64 0, .int .i64 0] 69)).drew)
  have BDA := Lib.hid (B1.out.trans (HDA.out.mono B1.out.size))
  have HXA : Hid ((w1.alloc (.cells #[.int .i64 0, .int .i64 0, .int .i64 0, .int .i64 0, .int .i64 0, .int .i64 0, .int .i64 0, .int .i64 0, .int .i64 0, .int .i64 0, .int .i64 0] 69)).drew.heap[w1.heap.size]? = some (.cells #[.int .i64 0, .int .i64 0, .int .i64 0, .int .i64 0, .int .i64 0, .int .i64 0, .int .i64 0, .int .i64 0, .int .i64 0, .int .i64 0, .int .i64 0] 69 (0, 0))) := Lib.hid (blk_new w1 _)
  have wk : IntKind.i64.wrap (x.kind : Int) = (x.kind : Int) := IntWalk.i64_in _ (by omega)
  have wl : IntKind.i64.wrap (x.links : Int) = (x.links : Int) := IntWalk.i64_in _ (by omega)
  go_upto_region 2 with fail
  go_cut [5] (fun v wx => NDI x k w0.heap.size d w w1 v wx)
  case first =>
    go_region_held3 (fun w' => w'.cell? ⟨g, o, none⟩ = some (.int .u8 (x.kind : Int)) ∧ w'.cell? ⟨g, o + 1, none⟩ = some (.int .u8 (x.links : Int))) (first | with_reducible exact HCC.out _ BD1.out | with_reducible exact HCC.out _ BDA.out | with_reducible exact HCC.out _ B2.out | with_reducible exact HCC.out _ (B2.out.alloc B2.out.size _) | with_reducible exact HCC.out _ (below11 B2.out HZ2.out _ _ _ _ _ _ _ _ _ _ _)) (first | (go_at_call 95; with_reducible refine (HN1.out _ HD1.out).mono ?_; rintro e w2 ⟨rfl, hfo, hb2, hk2⟩; have HFO := Lib.hid hfo; have HK2 := Lib.hid (((Keep.refl (fun j => j = k) w1).drew).trans hk2 (fun _ _ h => h)); have B2 := Lib.hid (BD1.out.trans (hb2.mono HZ1.out.1)); clear hfo hb2 hk2) | (go_at_call 95; with_reducible refine (HN1.out _ HDA.out).mono ?_; rintro e w2 ⟨rfl, hfo, hb2, hk2⟩; have HFO := Lib.hid hfo; have hpx := hk2.blk HXA.out (by have := HKL.out; omega); have HPX := Lib.hid hpx; have HK2 := Lib.hid (((Keep.of_below (S := fun j => w1.heap.size ≤ j ∨ j = k) HDA.out)).trans hk2 (fun _ _ h => .inr h)); have B2 := Lib.hid (BDA.out.trans (hb2.mono HZ1.out.1)); have px := blk_cells hpx; have fx := blk_frees hpx; clear hfo hb2 hk2 hpx))
    · go_wp2_with fail
      go_meet
      case rel => exact NDI.mk1 HFO.out HKL.out HK2.out B2.out HV1.out
    · go_wp2_with fail
      go_meet
      case rel => exact NDI.mk2 HFO.out HKL.out HK2.out B2.out HZ2.out HV1.out HPX.out
  case rest =>
    obtain ⟨P, rfl, hkP, hP1, hpx, hfo, hbc, hkc⟩ := hcut
    have hdl4 : (d.drop 4).length = 8 := by rw [List.length_drop, HDL.out]
    have HPK : Hid (¬ P = k) := Lib.hid (by omega)
    have HPG : Hid (w.heap.size < P) := Lib.hid (by have := HZ0.out; have := HZ1.out; omega)
    have hrs : wc.heap[w.heap.size]? = some (.cells #[.int .i64 0, .int .i64 0, .int .i64 0, .int .i64 0, .int .i64 0, .int .i64 0, .int .i64 0, .int .i64 0, .int .i64 0, .int .i64 0, .int .i64 0] 69 (0, 0)) := hkc.blk HX1.out (by have := HZ0.out; have := HZ1.out; have := HK.out; omega)
    have HN2 := Lib.hid (fnum_walk (d.drop 4) k w0.heap.size wc hfo (by omega) (by omega) HK.out (Nat.le_trans HZ1.out.2 hkc.size))
    have HPX := Lib.hid hpx
    have HBC := Lib.hid hbc
    have HRS := Lib.hid hrs
    have HKS : Hid (¬ w.heap.size = k ∧ w0.heap.size ≤ wc.heap.size) := Lib.hid ⟨by have := HZ0.out; have := HK.out; omega, Nat.le_trans HZ1.out.2 hkc.size⟩
    clear hkP hP1 hpx hfo hbc hkc hrs hdl4
    go_wp2_with fail
    with_reducible refine HN2.out.mono ?_
    rintro e w3 ⟨he, hfo3, hb3, hk3⟩
    rw [HV2.out] at he
    subst he
    have hpx3 := hk3.blk HPX.out HPK.out
    have px3 := blk_cells hpx3
    have fx3 := blk_frees hpx3
    have HPX3 := Lib.hid hpx3
    have HRS3 := Lib.hid (hk3.blk HRS.out HKS.out.1)
    have HFO3 := Lib.hid hfo3
    have HBC3 := Lib.hid (HBC.out.trans (hb3.mono HZ1.out.1))
    have HS3 : Hid (w0.heap.size ≤ w3.heap.size) := Lib.hid (Nat.le_trans HKS.out.2 hb3.size)
    clear hfo3 hb3 hk3 hpx3
    go_upto_region 4 with fail
    obtain ⟨w4, hw4⟩ : ∃ w4, w4 = w3.setCell ⟨P, 3, none⟩ (.int .i64 (x.size : Int)) := ⟨_, rfl⟩
    rw [← hw4]
    have hk4 := keep_set w3 P 3 (.int .i64 (x.size : Int))
    rw [← hw4] at hk4
    have hpx4 : w4.heap[P]? = some (.cells #[.int .i64 (x.kind : Int), .int .i64 (x.links : Int), .int .i64 (x.gen : Int), .int .i64 (x.size : Int), .int .i64 0, .int .i64 0, .int .i64 0, .int .i64 0, .int .i64 0, .int .i64 0, .int .i64 0] 69 (0, 0)) := by rw [hw4, blk_set HPX3.out]; rfl
    have hdl8 : ((d.drop 4).drop 4).length = 4 := by rw [List.length_drop, List.length_drop, HDL.out]
    have HN3 := Lib.hid (fnum_walk ((d.drop 4).drop 4) k w0.heap.size w4 (HFO3.out.keep hk4 (fun e => HPK.out e.symm) (fun j cs fr h e => blk_ne h HPX3.out (by decide) e)) (by omega) (by omega) HK.out (Nat.le_trans HS3.out hk4.size))
    have HPX4 := Lib.hid hpx4
    have HRS4 := Lib.hid (hk4.blk HRS3.out (by have := HPG.out; omega))
    have HBC4 := Lib.hid (HBC3.out.trans (hk4.below (fun i e => by have := HPG.out; omega) HBC3.out.size))
    clear hw4 hk4 hpx4 hdl8 px3 fx3
    go_wp2_with fail
    with_reducible refine HN3.out.mono ?_
    rintro e w5 ⟨he, hfo5, hb5, hk5⟩
    rw [HV3.out] at he
    subst he
    have hpx5 := hk5.blk HPX4.out HPK.out
    have px5 := blk_cells hpx5
    have fx5 := blk_frees hpx5
    have HPX5 := Lib.hid hpx5
    have HRS5 := Lib.hid (hk5.blk HRS4.out HKS.out.1)
    have HBC5 := Lib.hid (HBC4.out.trans (hb5.mono HZ1.out.1))
    clear hfo5 hb5 hk5 hpx5
    go_upto_region 5 with fail
    obtain ⟨w6, hw6⟩ : ∃ w6, w6 = w5.setCell ⟨P, 4, none⟩ (.int .i64 (x.change : Int)) := ⟨_, rfl⟩
    rw [← hw6]
    have hk6 := keep_set w5 P 4 (.int .i64 (x.change : Int))
    rw [← hw6] at hk6
    have hpx6 : w6.heap[P]? = some (.cells #[.int .i64 (x.kind : Int), .int .i64 (x.links : Int), .int .i64 (x.gen : Int), .int .i64 (x.size : Int), .int .i64 (x.change : Int), .int .i64 0, .int .i64 0, .int .i64 0, .int .i64 0, .int .i64 0, .int .i64 0] 69 (0, 0)) := by rw [hw6, blk_set HPX5.out]; rfl
    have HPX6 := Lib.hid hpx6
    have HRS6 := Lib.hid (hk6.blk HRS5.out (by have := HPG.out; omega))
    have HBC6 := Lib.hid (HBC5.out.trans (hk6.below (fun i e => by have := HPG.out; omega) HBC5.out.size))
    clear hw6 hk6 hpx6 px5 fx5
    clear HN3 HN2 HFO3 HPX3 HPX4 HPX5 HRS3 HRS4 HRS5 HBC3 HBC4 HBC5 HN1 HV1 HV2 HV3 HDL HK HKL
    go_upto_block 0 with fail
    obtain ⟨w7, hw7⟩ : ∃ w7, w7 = w6.alloc (.cells #[.int .i64 0, .int .i64 0, .int .i64 0, .int .i64 0, .int .i64 0, .int .i64 0] 203) := ⟨_, rfl⟩
    rw [← hw7]
    have HST : Hid (NQI x w6 (.int .i64 0) w7) := Lib.hid ⟨0, by omega, rfl, by rw [hw7]; exact blk_new w6 _, by rw [hw7]; exact (Keep.refl _ w6).alloc _⟩
    have HW67 : Hid (w6.heap.size < w7.heap.size) := Lib.hid (by rw [hw7]; simp)
    clear hw7 HW0 HX0 B0 HZ0 HRD HX1 B1 HCC HD1 BD1 HDA BDA HXA hg hcap
    go_wp2_with fail
    go_loopw [28] (fun v28 wr => NQI x w6 v28 wr) (fun v _ => 6 - (intOf v).toNat)
    case atStart => exact HST.out
    case round =>
    obtain ⟨i, hi, rfl, hx, hkr⟩ := hrel
    have HX := Lib.hid hx
    have HKR := Lib.hid hkr
    by_cases hlt : i < 6
    · obtain ⟨n, hn⟩ : ∃ n, x.ptrN[i]? = some n := ⟨_, List.getElem?_eq_getElem (show i < x.ptrN.length from hlt)⟩
      have hn2 : n < 1024 := ptr_lt (HOK.out.ptrB n (List.mem_of_getElem? hn))
      obtain ⟨q14, q15⟩ := HPT.out i n hn
      obtain ⟨j1, hj1⟩ : ∃ j : Nat, j = 14 + 2 * i := ⟨_, rfl⟩
      obtain ⟨j2, hj2⟩ : ∃ j : Nat, j = 15 + 2 * i := ⟨_, rfl⟩
      obtain ⟨y1, hy1⟩ : ∃ y : Nat, y = (UInt8.ofNat n).toNat := ⟨_, rfl⟩
      obtain ⟨y2, hy2⟩ : ∃ y : Nat, y = (UInt8.ofNat (n / 256)).toNat := ⟨_, rfl⟩
      rw [← hj1, ← hy1] at q14
      rw [← hj2, ← hy2] at q15
      have l1 := (HBC6.out.cell (World.block_lt_of_cell? w _ q14)).trans q14
      have l2 := (HBC6.out.cell (World.block_lt_of_cell? w _ q15)).trans q15
      replace l1 := hkr.cell l1 id
      replace l2 := hkr.cell l2 id
      rw [UInt8.toNat_ofNat'] at hy1 hy2
      have b1 : y1 < 256 := by omega
      have b2 : y2 < 256 := by omega
      have m0 : IntKind.i64.wrap (2 * (i : Int)) = 2 * (i : Int) := IntWalk.i64_in _ (by omega)
      have m1 : IntKind.i64.wrap (14 + 2 * (i : Int)) = (j1 : Int) := by rw [IntWalk.i64_in _ (by omega)]; omega
      have m2 : IntKind.i64.wrap (15 + 2 * (i : Int)) = (j2 : Int) := by rw [IntWalk.i64_in _ (by omega)]; omega
      have p1 : (j1 : Int) < 32 := by omega
      have p2 : (j2 : Int) < 32 := by omega
      have k1 : IntKind.i64.wrap (y1 : Int) = (y1 : Int) := IntWalk.i64_in _ (by omega)
      have k2 : IntKind.i64.wrap (y2 : Int) = (y2 : Int) := IntWalk.i64_in _ (by omega)
      have k3 : IntKind.i64.wrap ((y2 : Int) * 256) = (y2 : Int) * 256 := IntWalk.i64_in _ (by omega)
      have k4 : bits .or .i64 (y1 : Int) ((y2 : Int) * 256) = (n : Int) := by rw [or_i64 y1 y2 b1 b2]; omega
      have g1 : (i : Int) < 6 := by omega
      have g2 : IntKind.i64.wrap ((i : Int) + 1) = (i : Int) + 1 := IntWalk.i64_in _ (by omega)
      have HN := Lib.hid hn
      clear hn hn2 hj1 hj2 hy1 hy2 q14 q15 b1 b2 hx hkr
      go_wp2_with fail
      go_still_tail 18, (by kernel_rfl)
      change wpList _ _ _ _ _ wr.drew
      obtain ⟨W, hW⟩ : ∃ W : World, W = wr.drew := ⟨_, rfl⟩
      rw [← hW]
      have hxW : W.heap[w6.heap.size]? = some (.cells (arr6 x.ptrN i) 203 (0, 0)) := by rw [hW]; exact HX.out
      have cW : W.cell? ⟨w6.heap.size, i, none⟩ = some (.int .i64 0) := (blk_cells hxW i).trans (arr6_get rfl hlt)
      have fW := blk_frees hxW i
      have HR := Lib.hid (NQI.step HN.out HX.out HKR.out hW)
      clear hxW hW l1 l2
      go_wp2
      go_roundw
      case rel => exact HR.out
      case measure => simp only [intOf]; omega
    · obtain rfl : i = 6 := by omega
      have g1 : ¬ ((6 : Nat) : Int) < 6 := by omega
      clear hx hkr
      go_wp2_with fail
      go_upto_region 11 with fail
      go_still_tail 3, (by kernel_rfl)
      change wpList _ _ _ _ _ wr.drew
      obtain ⟨W, hW⟩ : ∃ W : World, W = wr.drew := ⟨_, rfl⟩
      rw [← hW]
      have hkW : Keep (fun _ => False) w6 W := by rw [hW]; exact HKR.out.drew
      have HXW : Hid (W.heap[w6.heap.size]? = some (.cells (arr6 x.ptrN 6) 203 (0, 0))) := Lib.hid (by rw [hW]; exact HX.out)
      have HPW := Lib.hid (hkW.blk HPX6.out id)
      have HRW := Lib.hid (hkW.blk HRS6.out id)
      have HBW := Lib.hid (HBC6.out.trans ((hkW.to_below).mono HBC6.out.size))
      have HSW : Hid (w6.heap.size ≠ P) := Lib.hid (by have := blk_lt HPX6.out; omega)
      have HCS : Hid (∀ (j : Nat) (v : Value), [Value.int .i64 (x.p0 : Int), .int .i64 (x.p1 : Int), .int .i64 (x.p2 : Int), .int .i64 (x.p3 : Int)][j]? = some v → W.cell? ((⟨w6.heap.size, 0, none⟩ : Addr).add j) = some v) := Lib.hid (by
        intro j v hj
        have hj4 : j < 4 := (List.getElem?_eq_some_iff.1 hj).1
        have := blk_cells HXW.out j
        rcases (by omega : j = 0 ∨ j = 1 ∨ j = 2 ∨ j = 3) with e | e | e | e <;> subst e <;> exact this.trans hj)
      have HC1L : Hid (∀ v ∈ [Value.int .i64 (x.p0 : Int), .int .i64 (x.p1 : Int), .int .i64 (x.p2 : Int), .int .i64 (x.p3 : Int)], v.oneCell' = true) := Lib.hid (by
        intro v hv
        simp only [List.mem_cons, List.not_mem_nil, or_false] at hv
        rcases hv with rfl | rfl | rfl | rfl <;> rfl)
      clear hW hkW
      refine (wpList_copy_own rfl (.tmp 51) (.tmp 52) 29 29 rfl 3 Tryz.underlying29 (by kernel_rfl) P 5 4 4 ⟨w6.heap.size, 0, none⟩ 6 6 rfl rfl _ 69 HPW.out [.int .i64 (x.p0 : Int), .int .i64 (x.p1 : Int), .int .i64 (x.p2 : Int), .int .i64 (x.p3 : Int)] rfl (HCS.out) (Nat.le_of_ble_eq_true rfl) (HC1L.out) (named (p := fun w8 => wpList _ _ _ _ _ w8) ?_))
      intro w8 hw8
      have hx8 : w8.heap[P]? = some (.cells #[.int .i64 (x.kind : Int), .int .i64 (x.links : Int), .int .i64 (x.gen : Int), .int .i64 (x.size : Int), .int .i64 (x.change : Int), .int .i64 (x.p0 : Int), .int .i64 (x.p1 : Int), .int .i64 (x.p2 : Int), .int .i64 (x.p3 : Int), .int .i64 0, .int .i64 0] 69 (0, 0)) := by rw [hw8]; exact setRow_heap _ _ _ _ _ _ HPW.out
      have hk8 : Keep (fun j => j = P) W w8 := by rw [hw8]; exact keep_setRow _ _ _
      have hxa := hk8.blk HXW.out HSW.out
      have a4 : w8.cell? ⟨w6.heap.size, 4, none⟩ = some (.int .i64 (x.one : Int)) := (blk_cells hxa 4).trans rfl
      have a5 : w8.cell? ⟨w6.heap.size, 5, none⟩ = some (.int .i64 (x.two : Int)) := (blk_cells hxa 5).trans rfl
      have px8 := blk_cells hx8
      have fx8 := blk_frees hx8
      have HX8 := Lib.hid hx8
      have HR8 := Lib.hid (hk8.blk HRW.out (by have := HPG.out; omega))
      have HB8 := Lib.hid (HBW.out.trans (hk8.below (fun i e => by have := HPG.out; omega) HBW.out.size))
      clear hw8 hk8 hxa hx8
      go_upto_region 13 with fail
      obtain ⟨w9, hw9⟩ : ∃ w9, w9 = (w8.setCell ⟨P, 9, none⟩ (.int .i64 (x.one : Int))).setCell ⟨P, 10, none⟩ (.int .i64 (x.two : Int)) := ⟨_, rfl⟩
      rw [← hw9]
      have hx9 : w9.heap[P]? = some (.cells #[.int .i64 (x.kind : Int), .int .i64 (x.links : Int), .int .i64 (x.gen : Int), .int .i64 (x.size : Int), .int .i64 (x.change : Int), .int .i64 (x.p0 : Int), .int .i64 (x.p1 : Int), .int .i64 (x.p2 : Int), .int .i64 (x.p3 : Int), .int .i64 (x.one : Int), .int .i64 (x.two : Int)] 69 (0, 0)) := by rw [hw9, blk_set (blk_set HX8.out _)]; rfl
      have hk9 : Keep (fun j => j = P) w8 w9 := by rw [hw9]; exact (keep_set _ _ _ _).trans (keep_set _ _ _ _) (fun _ _ h => h)
      have HX9 := Lib.hid hx9
      have HR9 := Lib.hid (hk9.blk HR8.out (by have := HPG.out; omega))
      have HB9 := Lib.hid (HB8.out.trans (hk9.below (fun i e => by have := HPG.out; omega) HB8.out.size))
      clear hw9 hk9 hx9 px8 fx8 a4 a5
      have HC9 : Hid (∀ W : World, Below w9.heap.size w9 W → W.cell? ⟨P, 0, none⟩ = some (.int .i64 (x.kind : Int)) ∧ W.cell? ⟨P, 1, none⟩ = some (.int .i64 (x.links : Int)) ∧ W.cell? ⟨P, 2, none⟩ = some (.int .i64 (x.gen : Int)) ∧ W.cell? ⟨P, 3, none⟩ = some (.int .i64 (x.size : Int)) ∧ W.cell? ⟨P, 4, none⟩ = some (.int .i64 (x.change : Int)) ∧ W.cell? ⟨P, 5, none⟩ = some (.int .i64 (x.p0 : Int)) ∧ W.cell? ⟨P, 6, none⟩ = some (.int .i64 (x.p1 : Int)) ∧ W.cell? ⟨P, 7, none⟩ = some (.int .i64 (x.p2 : Int)) ∧ W.cell? ⟨P, 8, none⟩ = some (.int .i64 (x.p3 : Int)) ∧ W.cell? ⟨P, 9, none⟩ = some (.int .i64 (x.one : Int)) ∧ W.cell? ⟨P, 10, none⟩ = some (.int .i64 (x.two : Int))) := Lib.hid (fun W hW => by
        have hb := (Keep.of_below (S := fun _ => False) hW).blk HX9.out id
        have hc := blk_cells hb
        exact ⟨hc 0, hc 1, hc 2, hc 3, hc 4, hc 5, hc 6, hc 7, hc 8, hc 9, hc 10⟩)
      have HC9b : Hid (∀ W : World, Below w9.heap.size w9 W → ∀ y0 y1 y2 y3 y4 y5 y6 y7 y8 y9 y10 : Value, ∀ V : World, V = (((((((((((W.setCell ⟨w.heap.size, 0, none⟩ y0).setCell ⟨w.heap.size, 1, none⟩ y1).setCell ⟨w.heap.size, 2, none⟩ y2).setCell ⟨w.heap.size, 3, none⟩ y3).setCell ⟨w.heap.size, 4, none⟩ y4).setCell ⟨w.heap.size, 5, none⟩ y5).setCell ⟨w.heap.size, 6, none⟩ y6).setCell ⟨w.heap.size, 7, none⟩ y7).setCell ⟨w.heap.size, 8, none⟩ y8).setCell ⟨w.heap.size, 9, none⟩ y9).setCell ⟨w.heap.size, 10, none⟩ y10) → V.cell? ⟨P, 0, none⟩ = some (.int .i64 (x.kind : Int)) ∧ V.cell? ⟨P, 1, none⟩ = some (.int .i64 (x.links : Int)) ∧ V.cell? ⟨P, 2, none⟩ = some (.int .i64 (x.gen : Int)) ∧ V.cell? ⟨P, 3, none⟩ = some (.int .i64 (x.size : Int)) ∧ V.cell? ⟨P, 4, none⟩ = some (.int .i64 (x.change : Int)) ∧ V.cell? ⟨P, 5, none⟩ = some (.int .i64 (x.p0 : Int)) ∧ V.cell? ⟨P, 6, none⟩ = some (.int .i64 (x.p1 : Int)) ∧ V.cell? ⟨P, 7, none⟩ = some (.int .i64 (x.p2 : Int)) ∧ V.cell? ⟨P, 8, none⟩ = some (.int .i64 (x.p3 : Int)) ∧ V.cell? ⟨P, 9, none⟩ = some (.int .i64 (x.one : Int)) ∧ V.cell? ⟨P, 10, none⟩ = some (.int .i64 (x.two : Int))) := Lib.hid (fun W hW y0 y1 y2 y3 y4 y5 y6 y7 y8 y9 y10 V hV => by
        have hb := (Keep.of_below (S := fun _ => False) hW).blk HX9.out id
        have hb2 : V.heap[P]? = some (.cells #[.int .i64 (x.kind : Int), .int .i64 (x.links : Int), .int .i64 (x.gen : Int), .int .i64 (x.size : Int), .int .i64 (x.change : Int), .int .i64 (x.p0 : Int), .int .i64 (x.p1 : Int), .int .i64 (x.p2 : Int), .int .i64 (x.p3 : Int), .int .i64 (x.one : Int), .int .i64 (x.two : Int)] 69 (0, 0)) := by rw [hV]; exact (setL_keep [y0, y1, y2, y3, y4, y5, y6, y7, y8, y9, y10] 0 W).blk hb (by have := HPG.out; omega)
        have hc := blk_cells hb2
        exact ⟨hc 0, hc 1, hc 2, hc 3, hc 4, hc 5, hc 6, hc 7, hc 8, hc 9, hc 10⟩)
      have HNS : Hid (∀ W : World, Below w9.heap.size w9 W → Calls Tryz.prog 121 #[.agg #[.int .i64 (x.kind : Int), .int .i64 (x.links : Int), .int .i64 (x.gen : Int), .int .i64 (x.size : Int), .int .i64 (x.change : Int), .int .i64 (x.p0 : Int), .int .i64 (x.p1 : Int), .int .i64 (x.p2 : Int), .int .i64 (x.p3 : Int), .int .i64 (x.one : Int), .int .i64 (x.two : Int)]] W fun e w' => e = .returned (.bool true) ∧ Below w9.heap.size w9 w') := Lib.hid (fun W hW => (nsound_walk x HOK.out W).mono (fun e w' h => ⟨h.1, hW.trans (h.2.mono hW.size)⟩))
      have HNE : Hid (∀ W : World, Below w9.heap.size w9 W → Calls Tryz.prog 122 #[.agg #[.int .i64 (x.kind : Int), .int .i64 (x.links : Int), .int .i64 (x.gen : Int), .int .i64 (x.size : Int), .int .i64 (x.change : Int), .int .i64 (x.p0 : Int), .int .i64 (x.p1 : Int), .int .i64 (x.p2 : Int), .int .i64 (x.p3 : Int), .int .i64 (x.one : Int), .int .i64 (x.two : Int)]] W fun e w' => ∃ A c, e = .returned (.slice A 32 c) ∧ AB w9.heap.size w' A c (nodeE x) ∧ Below w9.heap.size w9 w') := Lib.hid (fun W hW => (nencode_walk x HOK.out W).mono (fun e w' h => by obtain ⟨A, c, h1, h2, h3⟩ := h; exact ⟨A, c, h1, h2.mono hW.size, hW.trans (h3.mono hW.size)⟩))
      have HEQ : Hid (∀ (W : World) (A8 : Option Addr) (c8 : Nat), AB w9.heap.size W A8 c8 (nodeE x) → Below w9.heap.size w9 W → Calls Tryz.prog 96 #[.slice A8 32 c8, .slice (some ⟨g, o, none⟩) 32 c] W fun r w' => r = .returned (.bool true) ∧ w' = W) := Lib.hid (fun W A8 c8 hab hb => by
        have := equal_walk (nodeE x) (nodeE x) A8 (some ⟨g, o, none⟩) c8 c W hab.nb.sl (HSL.out.below (HB9.out.trans (hb.mono HB9.out.size)))
        rw [beq_self_eq_true, nodeE_len] at this
        exact this)
      have HD9 := Lib.hid ((Below.refl w9.heap.size w9).drew)
      have rd := HC9.out _ HD9.out
      go_region_held3 (fun W => W.cell? ⟨P, 0, none⟩ = some (.int .i64 (x.kind : Int)) ∧ W.cell? ⟨P, 1, none⟩ = some (.int .i64 (x.links : Int)) ∧ W.cell? ⟨P, 2, none⟩ = some (.int .i64 (x.gen : Int)) ∧ W.cell? ⟨P, 3, none⟩ = some (.int .i64 (x.size : Int)) ∧ W.cell? ⟨P, 4, none⟩ = some (.int .i64 (x.change : Int)) ∧ W.cell? ⟨P, 5, none⟩ = some (.int .i64 (x.p0 : Int)) ∧ W.cell? ⟨P, 6, none⟩ = some (.int .i64 (x.p1 : Int)) ∧ W.cell? ⟨P, 7, none⟩ = some (.int .i64 (x.p2 : Int)) ∧ W.cell? ⟨P, 8, none⟩ = some (.int .i64 (x.p3 : Int)) ∧ W.cell? ⟨P, 9, none⟩ = some (.int .i64 (x.one : Int)) ∧ W.cell? ⟨P, 10, none⟩ = some (.int .i64 (x.two : Int))) (first | with_reducible exact HC9.out _ HD9.out | with_reducible exact HC9.out _ BA.out | with_reducible exact HC9.out _ BB.out | with_reducible exact HC9b.out _ BB.out _ _ _ _ _ _ _ _ _ _ _ _ rfl) (first | (go_at_call 121; with_reducible refine (HNS.out _ HD9.out).mono ?_; rintro e wa ⟨rfl, hba⟩; have BA := Lib.hid hba; clear hba) | (go_at_call 122; with_reducible refine (HNE.out _ BA.out).mono ?_; rintro e wb ⟨A8, c8, rfl, hab, hbb⟩; have BB := Lib.hid hbb; have HEQ2 := Lib.hid (HEQ.out wb A8 c8 hab BB.out); have rb := (Keep.of_below (S := fun _ => False) BB.out).blk HR9.out id; have rx := blk_cells rb; have rf := blk_frees rb; have HRB := Lib.hid rb; clear hab hbb rb) | (go_at_call 96; with_reducible refine HEQ2.out.mono ?_; rintro e wq ⟨rfl, hq⟩; subst hq))
      all_goals
        have e11 := set11 HRB.out (.int .i64 (x.kind : Int)) (.int .i64 (x.links : Int)) (.int .i64 (x.gen : Int)) (.int .i64 (x.size : Int)) (.int .i64 (x.change : Int)) (.int .i64 (x.p0 : Int)) (.int .i64 (x.p1 : Int)) (.int .i64 (x.p2 : Int)) (.int .i64 (x.p3 : Int)) (.int .i64 (x.one : Int)) (.int .i64 (x.two : Int))
        have ke := setL_keep (k := w.heap.size) [.int .i64 (x.kind : Int), .int .i64 (x.links : Int), .int .i64 (x.gen : Int), .int .i64 (x.size : Int), .int .i64 (x.change : Int), .int .i64 (x.p0 : Int), .int .i64 (x.p1 : Int), .int .i64 (x.p2 : Int), .int .i64 (x.p3 : Int), .int .i64 (x.one : Int), .int .i64 (x.two : Int)] 0 wq
        have hf := (HB9.out.trans (BB.out.mono HB9.out.size)).trans (ke.below (B := w.heap.size) (fun i e => by omega) (HB9.out.trans (BB.out.mono HB9.out.size)).size)
        clear ke
        generalize hWf : setL wq w.heap.size 0 [.int .i64 (x.kind : Int), .int .i64 (x.links : Int), .int .i64 (x.gen : Int), .int .i64 (x.size : Int), .int .i64 (x.change : Int), .int .i64 (x.p0 : Int), .int .i64 (x.p1 : Int), .int .i64 (x.p2 : Int), .int .i64 (x.p3 : Int), .int .i64 (x.one : Int), .int .i64 (x.two : Int)] = Wf at e11 hf
        simp only [setL, Nat.zero_add, Nat.reduceAdd] at hWf
        rw [hWf]
        clear hWf
        have HF := Lib.hid hf
        have q0' := (blk_cells e11 0).trans rfl
        have q1' := (blk_cells e11 1).trans rfl
        have q2' := (blk_cells e11 2).trans rfl
        have q3' := (blk_cells e11 3).trans rfl
        have q4' := (blk_cells e11 4).trans rfl
        have q5' := (blk_cells e11 5).trans rfl
        have q6' := (blk_cells e11 6).trans rfl
        have q7' := (blk_cells e11 7).trans rfl
        have q8' := (blk_cells e11 8).trans rfl
        have q9' := (blk_cells e11 9).trans rfl
        have q10' := (blk_cells e11 10).trans rfl
        clear hf e11 rx rf
        go_wp2
        refine bodyPost_ret (v := .tuple #[x.val, .bool true]) (by simp [results, Tryz.results118, go_sem, q0', q1', q2', q3', q4', q5', q6', q7', q8', q9', q10']; try rfl) rfl ?_
        exact ⟨rfl, HF.out⟩
end Go.Proofs.YtehfoopefefpnaaGreat
/- Package node: Get. -/
set_option linter.unusedSimpArgs false
set_option linter.unusedVariables false
namespace Go.Proofs.YtehfoopefefpnaaGreat
open Go.RowKit

attribute [local go_sem ↓] Go.wp_at_zero Go.wp_at_succ
set_option maxRecDepth 100000 in
set_option maxHeartbeats 8000000 in
theorem nget_walk (x : NoS) (hx : x.ok) (d : List UInt8) (hd : d.length = 128) (i : Nat) (hi : i < 4) (he : (d.drop (32 * i)).take 32 = nodeE x) (A : Option Addr) (c : Nat) (w : World) (h : Sl w 1 (.slice A d.length c) d.length (bv d)) :
    Calls Tryz.prog 72 #[.slice A 128 c, .int .i64 (i : Int)] w fun e w' => e = .returned (.tuple #[x.val, .int .i64 0]) ∧ Below w.heap.size w w' := by
  obtain ⟨v0, hv0⟩ : ∃ v, d[0]? = some v := ⟨_, List.getElem?_eq_getElem (by omega)⟩
  obtain ⟨g, o, rfl, hg, _⟩ := bv_at h hv0
  have hcap : 128 ≤ c := by obtain ⟨_, _, e, _, _, hc, _⟩ := h; injection e with _ _ e; subst e; omega
  have HND : Hid (∀ W : World, Below w.heap.size w W → Calls Tryz.prog 118 #[.slice (some ⟨g, o + 32 * i, none⟩) 32 (c - 32 * i)] W fun e w' => e = .returned (.tuple #[.agg #[.int .i64 (x.kind : Int), .int .i64 (x.links : Int), .int .i64 (x.gen : Int), .int .i64 (x.size : Int), .int .i64 (x.change : Int), .int .i64 (x.p0 : Int), .int .i64 (x.p1 : Int), .int .i64 (x.p2 : Int), .int .i64 (x.p3 : Int), .int .i64 (x.one : Int), .int .i64 (x.two : Int)], .bool true]) ∧ Below w.heap.size w w' ∧ Below W.heap.size W w') := Lib.hid (fun W hW => by
    have hp := (h.below hW).part (32 * i) 32 (by omega)
    rw [he] at hp
    have := ndecode_walk x hx (some ⟨g, o + 32 * i, none⟩) (c - 32 * i) W (by rw [nodeE_len]; exact hp)
    exact this.mono (fun e w' q => ⟨q.1, hW.trans (q.2.mono hW.size), q.2⟩))
  have B0 := Lib.hid ((Below.refl w.heap.size w).alloc (Nat.le_refl _) (.cells #[.int .i64 0, .int .i64 0, .int .i64 0, .int .i64 0, .int .i64 0, .int .i64 0, .int .i64 0, .int .i64 0, .int .i64 0, .int .i64 0, .int .i64 0] 69))
  have HX0 : Hid ((w.alloc (.cells #[.int .i64 0, .int .i64 0, .int .i64 0, .int .i64 0, .int .i64 0, .int .i64 0, .int .i64 0, .int .i64 0, .int .i64 0, .int .i64 0, .int .i64 0] 69)).heap[w.heap.size]? = some (.cells #[.int .i64 0, .int .i64 0, .int .i64 0, .int .i64 0, .int .i64 0, .int .i64 0, .int .i64 0, .int .i64 0, .int .i64 0, .int .i64 0, .int .i64 0] 69 (0, 0))) := Lib.hid (blk_new w _)
  obtain ⟨j1, hj1⟩ : ∃ j : Nat, j = 32 * i := ⟨_, rfl⟩
  have m1 : IntKind.i64.wrap ((i : Int) * 32) = (j1 : Int) := by rw [IntWalk.i64_in _ (by omega)]; omega
  have m2 : IntKind.i64.wrap ((i : Int) + 1) = (i : Int) + 1 := IntWalk.i64_in _ (by omega)
  have m3 : IntKind.i64.wrap (((i : Int) + 1) * 32) = (j1 : Int) + 32 := by rw [IntWalk.i64_in _ (by omega)]; omega
  have p1 : (0 : Int) ≤ (j1 : Int) := by omega
  have p2 : (j1 : Int) ≤ (j1 : Int) + 32 := by omega
  have p3 : (j1 : Int) + 32 ≤ (c : Int) := by omega
  have p4 : ¬ c = j1 := by omega
  have p5 : (j1 : Int) + 32 - (j1 : Int) = 32 := by omega
  have g0 : ¬ (i : Int) < 0 := by omega
  have g1 : ¬ (4 : Int) ≤ (i : Int) := by omega
  rw [← hj1] at HND
  clear hj1 hi hd he h hv0 hcap hg
  go_enter Tryz.func72, Tryz.ntmps72
  go_wp2_with fail
  with_reducible refine (HND.out _ B0.out).mono ?_
  rintro e w2 ⟨rfl, hb, hb2⟩
  have HB2 := Lib.hid hb
  have HR2 := Lib.hid ((Keep.of_below (S := fun _ => False) hb2).blk HX0.out id)
  clear hb hb2
  go_upto_region 6 with fail
  have hx3 := blk_new w2 (.cells #[.int .i64 (x.kind : Int), .int .i64 (x.links : Int), .int .i64 (x.gen : Int), .int .i64 (x.size : Int), .int .i64 (x.change : Int), .int .i64 (x.p0 : Int), .int .i64 (x.p1 : Int), .int .i64 (x.p2 : Int), .int .i64 (x.p3 : Int), .int .i64 (x.one : Int), .int .i64 (x.two : Int)] 69)
  have hk3 := (Keep.refl (fun _ => False) w2).alloc (.cells #[.int .i64 (x.kind : Int), .int .i64 (x.links : Int), .int .i64 (x.gen : Int), .int .i64 (x.size : Int), .int .i64 (x.change : Int), .int .i64 (x.p0 : Int), .int .i64 (x.p1 : Int), .int .i64 (x.p2 : Int), .int .i64 (x.p3 : Int), .int .i64 (x.one : Int), .int .i64 (x.two : Int)] 69)
  obtain ⟨w3, hw3⟩ : ∃ w3, w3 = w2.alloc (.cells #[.int .i64 (x.kind : Int), .int .i64 (x.links : Int), .int .i64 (x.gen : Int), .int .i64 (x.size : Int), .int .i64 (x.change : Int), .int .i64 (x.p0 : Int), .int .i64 (x.p1 : Int), .int .i64 (x.p2 : Int), .int .i64 (x.p3 : Int), .int .i64 (x.one : Int), .int .i64 (x.two : Int)] 69) := ⟨_, rfl⟩
  rw [← hw3] at hx3 hk3 ⊢
  have px := blk_cells hx3
  have hr3 := hk3.blk HR2.out id
  have rx := blk_cells hr3
  have rf := blk_frees hr3
  have HR3 := Lib.hid hr3
  have HB3 := Lib.hid (HB2.out.trans ((hk3.to_below).mono HB2.out.size))
  clear hw3 hx3 hk3 hr3
  go_wp2
  have e11 := set11 HR3.out (.int .i64 (x.kind : Int)) (.int .i64 (x.links : Int)) (.int .i64 (x.gen : Int)) (.int .i64 (x.size : Int)) (.int .i64 (x.change : Int)) (.int .i64 (x.p0 : Int)) (.int .i64 (x.p1 : Int)) (.int .i64 (x.p2 : Int)) (.int .i64 (x.p3 : Int)) (.int .i64 (x.one : Int)) (.int .i64 (x.two : Int))
  have ke := setL_keep (k := w.heap.size) [.int .i64 (x.kind : Int), .int .i64 (x.links : Int), .int .i64 (x.gen : Int), .int .i64 (x.size : Int), .int .i64 (x.change : Int), .int .i64 (x.p0 : Int), .int .i64 (x.p1 : Int), .int .i64 (x.p2 : Int), .int .i64 (x.p3 : Int), .int .i64 (x.one : Int), .int .i64 (x.two : Int)] 0 w3
  have hf := HB3.out.trans (ke.below (B := w.heap.size) (fun i e => by omega) HB3.out.size)
  clear ke
  generalize hWf : setL w3 w.heap.size 0 [.int .i64 (x.kind : Int), .int .i64 (x.links : Int), .int .i64 (x.gen : Int), .int .i64 (x.size : Int), .int .i64 (x.change : Int), .int .i64 (x.p0 : Int), .int .i64 (x.p1 : Int), .int .i64 (x.p2 : Int), .int .i64 (x.p3 : Int), .int .i64 (x.one : Int), .int .i64 (x.two : Int)] = Wf at e11 hf
  simp only [setL, Nat.zero_add, Nat.reduceAdd] at hWf
  rw [hWf]
  clear hWf
  have HF := Lib.hid hf
  have q0' := (blk_cells e11 0).trans rfl
  have q1' := (blk_cells e11 1).trans rfl
  have q2' := (blk_cells e11 2).trans rfl
  have q3' := (blk_cells e11 3).trans rfl
  have q4' := (blk_cells e11 4).trans rfl
  have q5' := (blk_cells e11 5).trans rfl
  have q6' := (blk_cells e11 6).trans rfl
  have q7' := (blk_cells e11 7).trans rfl
  have q8' := (blk_cells e11 8).trans rfl
  have q9' := (blk_cells e11 9).trans rfl
  have q10' := (blk_cells e11 10).trans rfl
  clear hf e11 rx rf
  refine bodyPost_ret (v := .tuple #[x.val, .int .i64 0]) (by simp [results, Tryz.results72, go_sem, q0', q1', q2', q3', q4', q5', q6', q7', q8', q9', q10']; try rfl) rfl ?_
  exact ⟨rfl, HF.out⟩
end Go.Proofs.YtehfoopefefpnaaGreat
/- Package node: Put. -/
set_option linter.unusedSimpArgs false
set_option linter.unusedVariables false
namespace Go.Proofs.YtehfoopefefpnaaGreat
open Go.RowKit

attribute [local go_sem ↓] Go.wp_at_zero Go.wp_at_succ
theorem bv_splice (d e : List UInt8) (o : Nat) : bv (splice d o e) = splice (bv d) o (bv e) := by
  unfold bv splice
  rw [List.map_append, List.map_append, List.map_take, List.map_drop, List.length_map]
theorem take_splice {α : Type} (L cs : List α) (o n : Nat) (h : o + cs.length ≤ n) (hn : n ≤ L.length) : (splice L o cs).take n = splice (L.take n) o cs := by
  unfold splice
  have h1 : (L.take o).length = o := by rw [List.length_take]; omega
  rw [List.take_append, h1, List.take_append, List.take_take, List.take_of_length_le (by omega : (cs.length ≤ n - o)), List.take_take, List.drop_take, Nat.min_eq_right (by omega), Nat.min_eq_left (by omega), show n - o - cs.length = n - (o + cs.length) by omega]
theorem OB.splice {B g c o : Nat} {w' : World} {d e : List UInt8} {cur : Array Value} (hg : B ≤ g) (hc : d.length ≤ c) (hm : c ≤ maxLen) (hs : cur.size = c) (ht : cur.toList.take d.length = bv d) (ho : o + e.length ≤ d.length) (hw : w'.heap[g]? = some (.cells (Go.splice cur.toList o (bv e)).toArray 5 (0, 0))) : OB B w' (some ⟨g, 0, none⟩) c (Go.splice d o e) := by
  have hl : (Go.splice d o e).length = d.length := length_splice d o e ho
  have hcl : cur.toList.length = c := by simpa using hs
  refine ⟨⟨by rw [bv_length, Nat.mul_one], .inr ⟨g, c, _, rfl, Nat.zero_le _, hw, by rw [hl]; exact hc, hm, ?_, ?_⟩⟩, fun j e => by obtain rfl := Option.some.inj e; exact hg⟩
  · rw [Nat.mul_one]
    show (Go.splice cur.toList o (bv e)).length = c
    rw [length_splice _ _ _ (by rw [bv_length, hcl]; omega), hcl]
  · rw [hl, Nat.mul_one]
    show (Go.splice cur.toList o (bv e)).take d.length = _
    rw [take_splice _ _ _ _ (by rw [bv_length]; exact ho) (by rw [hcl]; exact hc), ht, bv_splice]
theorem sl_src {w : World} {A : Option Addr} {n c : Nat} {e : List UInt8} (h : Sl w 1 (.slice A n c) n (bv e)) (hp : 0 < e.length) : ∃ ad, A = some ad ∧ ∀ j v, (bv e)[j]? = some v → w.cell? (ad.add j) = some v := by
  obtain ⟨u0, hu0⟩ : ∃ v, e[0]? = some v := ⟨_, List.getElem?_eq_getElem hp⟩
  obtain ⟨g, o, rfl, _, _⟩ := bv_at h hu0
  refine ⟨_, rfl, fun j v hj => ?_⟩
  obtain ⟨u, hu, rfl⟩ : ∃ u, e[j]? = some u ∧ .int .u8 ((u.toNat : Nat) : Int) = v := by
    unfold bv at hj
    rw [List.getElem?_map] at hj
    cases hq : e[j]? with
    | none => rw [hq] at hj; cases hj
    | some u => rw [hq] at hj; exact ⟨u, rfl, Option.some.inj hj⟩
  obtain ⟨_, _, e1, _, hc⟩ := bv_at h hu
  injection e1 with e1
  injection e1 with e1 e2
  subst e1 e2
  by_cases hj0 : j = 0
  · subst hj0; simpa [Addr.add] using hc
  · simpa [Addr.add, hj0] using hc
set_option maxRecDepth 100000 in
set_option maxHeartbeats 8000000 in
theorem nput_walk (x : NoS) (hx : x.ok) (d : List UInt8) (hd : d.length = 128) (i : Nat) (hi : i < 4) (A : Option Addr) (c : Nat) (w : World) (h : Sl w 1 (.slice A d.length c) d.length (bv d)) :
    Calls Tryz.prog 76 #[.slice A 128 c, .int .i64 (i : Int), x.val] w fun e w' => ∃ A', e = .returned (.tuple #[.slice A' 128 128, .int .i64 0]) ∧ NB w.heap.size w' A' 128 (splice d (32 * i) (nodeE x)) ∧ Below w.heap.size w w' := by
  have B0 := Lib.hid ((Below.refl w.heap.size w).alloc (Nat.le_refl _) (.cells #[.int .i64 (x.kind : Int), .int .i64 (x.links : Int), .int .i64 (x.gen : Int), .int .i64 (x.size : Int), .int .i64 (x.change : Int), .int .i64 (x.p0 : Int), .int .i64 (x.p1 : Int), .int .i64 (x.p2 : Int), .int .i64 (x.p3 : Int), .int .i64 (x.one : Int), .int .i64 (x.two : Int)] 69))
  have HX0 : Hid ((w.alloc (.cells #[.int .i64 (x.kind : Int), .int .i64 (x.links : Int), .int .i64 (x.gen : Int), .int .i64 (x.size : Int), .int .i64 (x.change : Int), .int .i64 (x.p0 : Int), .int .i64 (x.p1 : Int), .int .i64 (x.p2 : Int), .int .i64 (x.p3 : Int), .int .i64 (x.one : Int), .int .i64 (x.two : Int)] 69)).heap[w.heap.size]? = some (.cells #[.int .i64 (x.kind : Int), .int .i64 (x.links : Int), .int .i64 (x.gen : Int), .int .i64 (x.size : Int), .int .i64 (x.change : Int), .int .i64 (x.p0 : Int), .int .i64 (x.p1 : Int), .int .i64 (x.p2 : Int), .int .i64 (x.p3 : Int), .int .i64 (x.one : Int), .int .i64 (x.two : Int)] 69 (0, 0))) := Lib.hid (blk_new w _)
  have HNS : Hid (∀ W : World, Below w.heap.size w W → W.heap[w.heap.size]? = some (.cells #[.int .i64 (x.kind : Int), .int .i64 (x.links : Int), .int .i64 (x.gen : Int), .int .i64 (x.size : Int), .int .i64 (x.change : Int), .int .i64 (x.p0 : Int), .int .i64 (x.p1 : Int), .int .i64 (x.p2 : Int), .int .i64 (x.p3 : Int), .int .i64 (x.one : Int), .int .i64 (x.two : Int)] 69 (0, 0)) → Calls Tryz.prog 121 #[.agg #[.int .i64 (x.kind : Int), .int .i64 (x.links : Int), .int .i64 (x.gen : Int), .int .i64 (x.size : Int), .int .i64 (x.change : Int), .int .i64 (x.p0 : Int), .int .i64 (x.p1 : Int), .int .i64 (x.p2 : Int), .int .i64 (x.p3 : Int), .int .i64 (x.one : Int), .int .i64 (x.two : Int)]] W fun e w' => e = .returned (.bool true) ∧ Below w.heap.size w w' ∧ w'.heap[w.heap.size]? = some (.cells #[.int .i64 (x.kind : Int), .int .i64 (x.links : Int), .int .i64 (x.gen : Int), .int .i64 (x.size : Int), .int .i64 (x.change : Int), .int .i64 (x.p0 : Int), .int .i64 (x.p1 : Int), .int .i64 (x.p2 : Int), .int .i64 (x.p3 : Int), .int .i64 (x.one : Int), .int .i64 (x.two : Int)] 69 (0, 0))) := Lib.hid (fun W hW hB => (nsound_walk x hx W).mono (fun e w' q => ⟨q.1, hW.trans (q.2.mono hW.size), (Keep.of_below (S := fun _ => False) q.2).blk hB id⟩))
  have HNE : Hid (∀ W : World, Below w.heap.size w W → Calls Tryz.prog 122 #[.agg #[.int .i64 (x.kind : Int), .int .i64 (x.links : Int), .int .i64 (x.gen : Int), .int .i64 (x.size : Int), .int .i64 (x.change : Int), .int .i64 (x.p0 : Int), .int .i64 (x.p1 : Int), .int .i64 (x.p2 : Int), .int .i64 (x.p3 : Int), .int .i64 (x.one : Int), .int .i64 (x.two : Int)]] W fun e w' => ∃ A c, e = .returned (.slice A 32 c) ∧ AB W.heap.size w' A c (nodeE x) ∧ Below w.heap.size w w' ∧ Below W.heap.size W w') := Lib.hid (fun W hW => (nencode_walk x hx W).mono (fun e w' q => by obtain ⟨A, c, h1, h2, h3⟩ := q; exact ⟨A, c, h1, h2, hW.trans (h3.mono hW.size), h3⟩))
  have HCL : Hid (∀ W : World, Below w.heap.size w W → W.heap[w.heap.size]? = some (.cells #[.int .i64 (x.kind : Int), .int .i64 (x.links : Int), .int .i64 (x.gen : Int), .int .i64 (x.size : Int), .int .i64 (x.change : Int), .int .i64 (x.p0 : Int), .int .i64 (x.p1 : Int), .int .i64 (x.p2 : Int), .int .i64 (x.p3 : Int), .int .i64 (x.one : Int), .int .i64 (x.two : Int)] 69 (0, 0)) → Calls Tryz.prog 65 #[.slice A 128 c] W fun e w' => ∃ A' c', e = .returned (.slice A' 128 c') ∧ OB w.heap.size w' A' c' d ∧ Below w.heap.size w w' ∧ w'.heap[w.heap.size]? = some (.cells #[.int .i64 (x.kind : Int), .int .i64 (x.links : Int), .int .i64 (x.gen : Int), .int .i64 (x.size : Int), .int .i64 (x.change : Int), .int .i64 (x.p0 : Int), .int .i64 (x.p1 : Int), .int .i64 (x.p2 : Int), .int .i64 (x.p3 : Int), .int .i64 (x.one : Int), .int .i64 (x.two : Int)] 69 (0, 0))) := Lib.hid (fun W hW hB => by
    have := clone_walk d A c W (h.below hW) (by omega)
    rw [hd] at this
    exact this.mono (fun e w' q => by obtain ⟨A', c', h1, h2, h3⟩ := q; exact ⟨A', c', h1, ⟨h2.own, fun j e => Nat.le_trans hW.size (h2.fresh j e)⟩, hW.trans (h3.mono hW.size), (Keep.of_below (S := fun _ => False) h3).blk hB id⟩))
  obtain ⟨j1, hj1⟩ : ∃ j : Nat, j = 32 * i := ⟨_, rfl⟩
  have m1 : IntKind.i64.wrap ((i : Int) * 32) = (j1 : Int) := by rw [IntWalk.i64_in _ (by omega)]; omega
  have p1 : (0 : Int) ≤ (j1 : Int) := by omega
  have p2 : (j1 : Int) ≤ 128 := by omega
  have p6 : j1 + 32 ≤ 128 := by omega
  have g0 : ¬ (i : Int) < 0 := by omega
  have g1 : ¬ (4 : Int) ≤ (i : Int) := by omega
  rw [← hj1]
  have HD := Lib.hid hd
  clear hj1 hi hd h hx
  show Calls Tryz.prog 76 #[.slice A 128 c, .int .i64 (i : Int), .agg #[.int .i64 (x.kind : Int), .int .i64 (x.links : Int), .int .i64 (x.gen : Int), .int .i64 (x.size : Int), .int .i64 (x.change : Int), .int .i64 (x.p0 : Int), .int .i64 (x.p1 : Int), .int .i64 (x.p2 : Int), .int .i64 (x.p3 : Int), .int .i64 (x.one : Int), .int .i64 (x.two : Int)]] w _
  have px0 := blk_cells HX0.out
  go_enter Tryz.func76, Tryz.ntmps76
  go_wp2_with fail
  with_reducible refine (HNS.out _ B0.out HX0.out).mono ?_
  rintro e w2 ⟨rfl, hb2, hx2⟩
  have HC2 := Lib.hid (HCL.out w2 hb2 hx2)
  clear hb2 hx2 px0
  go_wp2_with fail
  refine HC2.out.mono ?_
  rintro e w3 ⟨A3, c3, rfl, hob, hb3, hx3⟩
  obtain ⟨hlen, hor⟩ := hob.own
  rcases hor with ⟨_, h0⟩ | ⟨g2, cap, cur, e, _, hcur, h1, h2, h3, h4⟩
  · have := HD.out; omega
  injection e with e1 _ e2
  subst e1 e2
  rw [HD.out] at h1 h4
  have hg2 : w.heap.size ≤ g2 := hob.fresh _ rfl
  have hcl : cur.toList.length = c3 := by simpa using h3
  have HG3 : Hid (w3.drew.heap[g2]? = some (.cells cur.toList.toArray 5 (0, 0))) := Lib.hid hcur
  have hx3d : w3.drew.heap[w.heap.size]? = some (.cells #[.int .i64 (x.kind : Int), .int .i64 (x.links : Int), .int .i64 (x.gen : Int), .int .i64 (x.size : Int), .int .i64 (x.change : Int), .int .i64 (x.p0 : Int), .int .i64 (x.p1 : Int), .int .i64 (x.p2 : Int), .int .i64 (x.p3 : Int), .int .i64 (x.one : Int), .int .i64 (x.two : Int)] 69 (0, 0)) := hx3
  have px3 := blk_cells hx3
  have px3d := blk_cells hx3d
  have HB3 : Hid (Below w.heap.size w w3.drew) := Lib.hid hb3.drew
  have HGB : Hid (w.heap.size ≤ g2) := Lib.hid hg2
  have HFT : Hid (j1 + (bv (nodeE x)).length ≤ cur.toList.length) := Lib.hid (by rw [bv_length, nodeE_len, hcl]; omega)
  have HLN : Hid ((bv (nodeE x)).length = Nat.min 32 (128 - j1)) := Lib.hid (by rw [bv_length, nodeE_len]; exact (Nat.min_eq_left (by omega)).symm)
  have HOBS : Hid (∀ W : World, W.heap[g2]? = some (.cells (splice cur.toList j1 (bv (nodeE x))).toArray 5 (0, 0)) → OB w.heap.size W (some ⟨g2, 0, none⟩) c3 (splice d j1 (nodeE x))) := Lib.hid (fun W hW => OB.splice HGB.out (by rw [HD.out]; exact h1) h2 (by rw [h3, Nat.mul_one]) (by rw [HD.out]; simpa using h4) (by rw [nodeE_len, HD.out]; exact p6) hW)
  have p3 : (j1 : Int) ≤ (c3 : Int) := by omega
  have p4 : ¬ c3 = j1 := by omega
  have p7 : (128 : Int) ≤ (c3 : Int) := by omega
  have H1 := Lib.hid h1
  have HC3 := Lib.hid (fun W => clip_walk (some ⟨g2, 0, none⟩) 128 c3 W h1 (fun e => by cases e) (by decide))
  clear hob hlen hcur h2 h3 h4 hb3 hx3 hx3d hcl hg2 h1
  go_upto_region 6 with fail
  go_region_law (first | (go_simp; go_at_call 122; with_reducible refine (HNE.out _ HB3.out).mono ?_; rintro e w4 ⟨A8, c8, rfl, hab, hb4, hb4'⟩; have HG4 := Lib.hid ((Keep.of_below (S := fun _ => False) hb4').blk HG3.out id); have HSR := Lib.hid (sl_src hab.nb.sl (by rw [nodeE_len]; decide)); have HB4 := Lib.hid hb4; clear hab hb4 hb4') | (obtain ⟨ad, had, hsrc⟩ := HSR.out; subst had; refine step_copy_splice rfl (.tmp 28) (.tmp 30) 22 22 rfl 5 Tryz.underlying22 (by kernel_rfl) _ _ _ _ _ _ rfl rfl g2 j1 cur.toList 5 HG4.out (bv (nodeE x)) HLN.out (fun _ => ⟨rfl, _, rfl, hsrc⟩) HFT.out (bv_one _) w.heap.size w HB4.out HGB.out ?_; intro w5 hg5 hb5; have HO5 := Lib.hid (HOBS.out w5 hg5.out); have HB5 := Lib.hid hb5; clear hg5 hb5 hsrc))
  all_goals
    have HNB : Hid (NB w.heap.size w5 (some ⟨g2, 0, none⟩) 128 (splice d j1 (nodeE x))) := Lib.hid (by
      have := HO5.out.nb.clip
      rw [length_splice d j1 (nodeE x) (by rw [nodeE_len, HD.out]; exact p6), HD.out] at this
      exact this)
    go_wp2_with fail
    with_reducible refine (HC3.out w5).mono ?_
    rintro e w6 ⟨rfl, hw6⟩
    subst hw6
    go_wp2
    refine bodyPost_ret (v := .tuple #[.slice (some ⟨g2, 0, none⟩) 128 128, .int .i64 0]) (by simp [results, Tryz.results76, go_sem]; try rfl) rfl ?_
    exact ⟨_, rfl, HNB.out, HB5.out⟩
end Go.Proofs.YtehfoopefefpnaaGreat
/- Package drive: what lies in memory; the small methods. -/
set_option linter.unusedSimpArgs false
set_option linter.unusedVariables false
namespace Go.Proofs.YtehfoopefefpnaaGreat
open Go.RowKit

attribute [local go_sem ↓] Go.wp_at_zero Go.wp_at_succ
structure DrS where
  sure : List (List UInt8)
  list : List (Nat × List UInt8)
  fuse : Int
  dead : Bool
structure DrS.ok (s : DrS) : Prop where
  len : s.sure.length ≤ 1024
  each : ∀ d ∈ s.sure, d.length = 128
  wait : ∀ p ∈ s.list, p.1 < s.sure.length ∧ p.2.length = 128
  lo : -1 ≤ s.fuse
  hi : s.fuse ≤ 9223372036854775807
/-- What waits, as cells. -/
def wts (l : List (Nat × List UInt8)) : List Value := l.flatMap fun p => .int .i64 (p.1 : Int) :: bv p.2
/-- A drive in block k, all of it from block B on. -/
structure DR (B k : Nat) (s : DrS) (w : World) (A : Option Addr) (c : Nat) (L : Option Addr) (lc : Nat) : Prop where
  blk : w.heap[k]? = some (.cells #[.slice A s.sure.length c, .slice L s.list.length lc, .int .i64 s.fuse, .bool s.dead] 113 (0, 0))
  sure : w.ownsRow 0 119 128 (.slice A s.sure.length c) s.sure.length (bv s.sure.flatten)
  list : w.ownsRow 0 121 129 (.slice L s.list.length lc) s.list.length (wts s.list)
  newA : ∀ j, A.map (·.block) = some j → B ≤ j
  newL : ∀ j, L.map (·.block) = some j → B ≤ j
  newk : B ≤ k
theorem DR.keep {S : Nat → Prop} {B k : Nat} {s : DrS} {w w' : World} {A : Option Addr} {c : Nat} {L : Option Addr} {lc : Nat} (h : DR B k s w A c L lc) (hk : Keep S w w') (hS : ¬ S k) (hA : ∀ j, A.map (·.block) = some j → ¬ S j) (hL : ∀ j, L.map (·.block) = some j → ¬ S j) : DR B k s w' A c L lc :=
  ⟨hk.blk h.blk hS, own_keep h.sure hk (fun j e => hA j (by rw [ownB_slice] at e; exact e)), own_keep h.list hk (fun j e => hL j (by rw [ownB_slice] at e; exact e)), h.newA, h.newL, h.newk⟩
theorem DR.below {B k : Nat} {s : DrS} {w w' : World} {A : Option Addr} {c : Nat} {L : Option Addr} {lc : Nat} (h : DR B k s w A c L lc) (hb : Below w.heap.size w w') : DR B k s w' A c L lc :=
  h.keep (S := fun _ => False) (Keep.of_below hb) id (fun _ _ => id) (fun _ _ => id)
/-- The drive's own block is written anew: the fuse, the power. -/
theorem DR.upd {B k : Nat} {s : DrS} {w w' : World} {A : Option Addr} {c : Nat} {L : Option Addr} {lc : Nat} (h : DR B k s w A c L lc) (hk : Keep (fun j => j = k) w w') (f : Int) (dd : Bool) (hb : w'.heap[k]? = some (.cells #[.slice A s.sure.length c, .slice L s.list.length lc, .int .i64 f, .bool dd] 113 (0, 0))) : DR B k ⟨s.sure, s.list, f, dd⟩ w' A c L lc :=
  ⟨hb, own_keep h.sure hk (fun j e hj => by obtain ⟨cs, hq⟩ := own_blk h.sure e; exact blk_ne hq h.blk (by decide) hj), own_keep h.list hk (fun j e hj => by obtain ⟨cs, hq⟩ := own_blk h.list e; exact blk_ne hq h.blk (by decide) hj), h.newA, h.newL, h.newk⟩
/-- One thing more is done, if there is power. -/
def burnS (s : DrS) : DrS × Bool := if s.fuse = 0 then (⟨s.sure, s.list, s.fuse, true⟩, false) else (⟨s.sure, s.list, max (s.fuse - 1) (-1), s.dead⟩, true)
theorem ready_walk (B k : Nat) (s : DrS) (w : World) (A : Option Addr) (c : Nat) (L : Option Addr) (lc : Nat) (h : DR B k s w A c L lc) : Calls Tryz.prog 85 #[.pointer (some ⟨k, 0, none⟩)] w fun e w' => e = .returned (.int .i64 (if s.dead then 11 else 0)) ∧ w' = w := by
  have c3 : w.cell? ⟨k, 3, none⟩ = some (.bool s.dead) := (blk_cells h.blk 3).trans rfl
  obtain ⟨q, hq⟩ : ∃ q, q = s.dead := ⟨_, rfl⟩
  rw [← hq] at c3 ⊢
  clear h hq
  cases q
  all_goals
    go_enter Tryz.func85, Tryz.ntmps85
    go_wp2
    go_ret
    exact ⟨rfl, rfl⟩
theorem sectors_walk (B k : Nat) (s : DrS) (w : World) (A : Option Addr) (c : Nat) (L : Option Addr) (lc : Nat) (h : DR B k s w A c L lc) : Calls Tryz.prog 55 #[.pointer (some ⟨k, 0, none⟩)] w fun e w' => e = .returned (.int .i64 (s.sure.length : Int)) ∧ w' = w := by
  have c0 : w.cell? ⟨k, 0, none⟩ = some (.slice A s.sure.length c) := (blk_cells h.blk 0).trans rfl
  obtain ⟨q, hq⟩ : ∃ q, q = s.sure.length := ⟨_, rfl⟩
  rw [← hq] at c0 ⊢
  clear h hq
  go_enter Tryz.func55, Tryz.ntmps55
  go_wp2
  go_ret
  exact ⟨rfl, rfl⟩
theorem burn_walk (B k : Nat) (s : DrS) (w : World) (A : Option Addr) (c : Nat) (L : Option Addr) (lc : Nat) (h : DR B k s w A c L lc) (hlo : -1 ≤ s.fuse) (hhi : s.fuse ≤ 9223372036854775807) : Calls Tryz.prog 89 #[.pointer (some ⟨k, 0, none⟩)] w fun e w' => e = .returned (.bool (burnS s).2) ∧ DR B k (burnS s).1 w' A c L lc ∧ Keep (fun j => j = k) w w' := by
  have c2 : w.cell? ⟨k, 2, none⟩ = some (.int .i64 s.fuse) := (blk_cells h.blk 2).trans rfl
  have c3 : w.cell? ⟨k, 3, none⟩ = some (.bool s.dead) := (blk_cells h.blk 3).trans rfl
  have f2 := blk_frees h.blk
  have HH := Lib.hid h
  obtain ⟨f, hf⟩ : ∃ f, f = s.fuse := ⟨_, rfl⟩
  obtain ⟨q, hq⟩ : ∃ q, q = s.dead := ⟨_, rfl⟩
  rw [← hf] at c2 hlo hhi
  rw [← hq] at c3
  have HF := Lib.hid hf
  have HQ := Lib.hid hq
  clear h hf hq
  by_cases h0 : f = 0
  · have hbs : burnS s = (⟨s.sure, s.list, s.fuse, true⟩, false) := if_pos (by rw [← HF.out]; exact h0)
    rw [hbs]
    clear hbs
    subst h0
    go_enter Tryz.func89, Tryz.ntmps89
    go_wp2
    go_ret
    have hk := keep_set w k 3 (.bool true)
    exact ⟨rfl, HH.out.upd hk _ _ ((blk_set HH.out.blk _).trans rfl), hk⟩
  · have hbs : burnS s = (⟨s.sure, s.list, max (s.fuse - 1) (-1), s.dead⟩, true) := if_neg (by rw [← HF.out]; exact h0)
    rw [hbs]
    have g1 : IntKind.i64.wrap (f - 1) = f - 1 := IntWalk.i64_in _ (by omega)
    rw [← HF.out, ← HQ.out]
    clear hbs hlo hhi
    go_enter Tryz.func89, Tryz.ntmps89
    go_wp2
    go_ret
    have hk := keep_set w k 2 (.int .i64 (max (f - 1) (-1)))
    exact ⟨rfl, HH.out.upd hk _ _ ((blk_set HH.out.blk _).trans (by rw [← HQ.out]; rfl)), hk⟩
end Go.Proofs.YtehfoopefefpnaaGreat
/- Package drive: New. -/
set_option linter.unusedSimpArgs false
set_option linter.unusedVariables false
namespace Go.Proofs.YtehfoopefefpnaaGreat
open Go.RowKit

attribute [local go_sem ↓] Go.wp_at_zero Go.wp_at_succ
theorem infoS : (Tryz.prog.info? 119).map (fun i => (i.zero, i.size, i.bytes)) = some (some (.agg (Array.replicate 128 (.int .u8 0))), 128, 128) := by kernel_rfl
theorem undS : Tryz.prog.underlying 110 = some (.slice 119) := by kernel_rfl
theorem makeS (w : World) (n : Nat) (hn : n ≤ 1024) : (Instr.makeSlice 110 (.int .i64 (n : Int)) (.int .i64 (n : Int))).run Tryz.prog w = .ok (.slice (some ⟨w.heap.size, 0, none⟩) n n) (w.alloc (.cells (Array.replicate (n * 128) (.int .u8 0)) 119)) := by
  obtain ⟨i, hi, h1, h2, h3⟩ := info_parts infoS
  have h := Go.run_make (P := Tryz.prog) w 110 119 i _ undS hi h1 .i64 .i64 (n : Int) (n : Int) (by omega) (by omega) (by rw [h3]; omega) (by omega)
  rw [h2] at h
  have e : madeCells (Value.agg (Array.replicate 128 (.int .u8 0))).cells ((n : Int).toNat * 128) = Array.replicate (n * 128) (.int .u8 0) := by
    apply Array.ext
    · simp [madeCells]
    · intro j h1 h2
      simp [madeCells, Value.cells]
      rw [getElem!_pos _ _ (by simp; omega)]
      simp
  rw [e] at h
  simpa using h
/-- A new drive of n sectors. -/
def newS (n : Nat) : DrS := ⟨List.replicate n (List.replicate 128 0), [], -1, false⟩
theorem newS_ok (n : Nat) (hn : n ≤ 1024) : (newS n).ok := ⟨by simp [newS]; exact hn, fun d hd => (by obtain rfl := List.eq_of_mem_replicate hd; simp), fun p hp => (by cases hp), (by show (-1 : Int) ≤ -1; decide), (by show (-1 : Int) ≤ 9223372036854775807; decide)⟩
theorem newS_bytes (n : Nat) : bv (newS n).sure.flatten = (Array.replicate (n * 128) (Value.int .u8 0)).toList := by
  show bv (List.replicate n (List.replicate 128 (0 : UInt8))).flatten = _
  rw [List.flatten_replicate_replicate]
  unfold bv
  rw [List.map_replicate]
  simp
set_option maxRecDepth 100000 in
set_option maxHeartbeats 4000000 in
theorem dnew_walk (n : Nat) (h1 : 64 ≤ n) (h2 : n ≤ 1024) (w : World) : Calls Tryz.prog 21 #[.int .i64 (n : Int)] w fun e w' => ∃ k A, e = .returned (.tuple #[.pointer (some ⟨k, 0, none⟩), .int .i64 0]) ∧ DR w.heap.size k (newS n) w' A n none 0 ∧ Below w.heap.size w w' := by
  have hmk : ∀ W : World, (Instr.makeSlice 110 (.int .i64 (n : Int)) (.int .i64 (n : Int))).run Tryz.prog W = .ok (.slice (some ⟨W.heap.size, 0, none⟩) n n) (W.alloc (.cells (Array.replicate (n * 128) (.int .u8 0)) 119)) := fun W => makeS W n h2
  obtain ⟨Z, hZ⟩ : ∃ Z : Array Value, Z = Array.replicate (n * 128) (.int .u8 0) := ⟨_, rfl⟩
  rw [← hZ] at hmk
  have g1 : ¬ (n : Int) < 64 := by omega
  have g2 : ¬ (1024 : Int) < (n : Int) := by omega
  have HO := Lib.hid (own_new w Z 119 128 n (by rw [hZ]; simp) (by simp only [maxLen]; omega))
  have HZ := Lib.hid hZ
  have HB : Hid (newS n).ok := Lib.hid (newS_ok n h2)
  clear hZ h1 h2
  go_enter Tryz.func21, Tryz.ntmps21
  go_wp2
  refine bodyPost_ret (v := .tuple #[.pointer (some ⟨w.heap.size + 1, 0, none⟩), .int .i64 0]) (by simp [results, Tryz.results21, go_sem]; try rfl) rfl ?_
  have hb1 := (Below.refl w.heap.size w).alloc (Nat.le_refl _) (.cells Z 119)
  have hn := blk_new (w.alloc (.cells Z 119)) (.cells #[.slice (some ⟨w.heap.size, 0, none⟩) n n, .slice none 0 0, .int .i64 (-1), .bool false] 113)
  have hk := (Keep.refl (fun _ => False) (w.alloc (.cells Z 119))).alloc (.cells #[.slice (some ⟨w.heap.size, 0, none⟩) n n, .slice none 0 0, .int .i64 (-1), .bool false] 113)
  have hz : (w.alloc (.cells Z 119)).heap.size = w.heap.size + 1 := by simp
  rw [hz] at hn
  have hl : (newS n).sure.length = n := by simp [newS]
  refine ⟨w.heap.size + 1, rfl, ⟨some ⟨w.heap.size, 0, none⟩, ⟨?_, ?_, own_nil' _ _ _ _, fun j e => ?_, fun j e => (by cases e), Nat.le_succ _⟩⟩, hb1.alloc hb1.size _⟩
  · rw [hl]; exact hn
  · have := own_keep HO.out hk (fun _ _ h => h)
    rw [hl, newS_bytes, ← HZ.out]
    exact this
  · obtain rfl := Option.some.inj e
    exact Nat.le_refl _
end Go.Proofs.YtehfoopefefpnaaGreat
/- Package drive: Get, where nothing waits. -/
set_option linter.unusedSimpArgs false
set_option linter.unusedVariables false
namespace Go.Proofs.YtehfoopefefpnaaGreat
open Go.RowKit

attribute [local go_sem ↓] Go.wp_at_zero Go.wp_at_succ
theorem flat128 (l : List (List UInt8)) (h : ∀ d ∈ l, d.length = 128) (i : Nat) (b : List UInt8) (hb : l[i]? = some b) (j : Nat) (hj : j < 128) : l.flatten[128 * i + j]? = b[j]? := by
  induction l generalizing i with
  | nil => cases hb
  | cons d l ih =>
    have hd : d.length = 128 := h d (List.mem_cons_self ..)
    rw [List.flatten_cons]
    cases i with
    | zero =>
      obtain rfl : d = b := by simpa using hb
      rw [List.getElem?_append_left (by omega), show 128 * 0 + j = j by omega]
    | succ i =>
      rw [List.getElem?_append_right (by omega), hd, show 128 * (i + 1) + j - 128 = 128 * i + j by omega]
      exact ih (fun d' h' => h d' (List.mem_cons_of_mem _ h')) i (by simpa using hb)
/-- A sector's cells, in the drive's row. -/
theorem DR.range {B k : Nat} {s : DrS} {w : World} {A : Option Addr} {c : Nat} {L : Option Addr} {lc : Nat} (h : DR B k s w A c L lc) (ho : s.ok) {i : Nat} {b : List UInt8} (hb : s.sure[i]? = some b) : ∃ g, A = some ⟨g, 0, none⟩ ∧ w.rangeAt g (128 * i) (bv b) := by
  have hbl : b.length = 128 := ho.each b (List.mem_of_getElem? hb)
  have hi : i < s.sure.length := (List.getElem?_eq_some_iff.1 hb).1
  obtain ⟨hlen, hor⟩ := h.sure
  rcases hor with ⟨_, h0⟩ | ⟨g, cap, cur, e, _, hcur, h1, h2, h3, h4⟩
  · omega
  injection e with e1 _ e2
  refine ⟨g, e1, fun j v hj => ?_⟩
  have hj2 : j < 128 := by have := (List.getElem?_eq_some_iff.1 hj).1; rw [bv_length] at this; omega
  rw [cell_of_row w g (128 * i + j) cur _ _ hcur]
  have hx : (cur.toList.take (s.sure.length * 128))[128 * i + j]? = some v := by
    rw [h4]
    unfold bv at hj ⊢
    rw [List.getElem?_map] at hj ⊢
    rw [flat128 s.sure ho.each i b hb j hj2]
    exact hj
  rw [List.getElem?_take_of_lt (by omega)] at hx
  simpa using hx
theorem below_setCells {B k : Nat} {a : World} (vs : List Value) (o : Nat) {W : World} (h : Below B a W) (hk : B ≤ k) : Below B a (W.setCells k o vs) := by
  induction vs generalizing o W with
  | nil => exact h
  | cons v vs ih => exact ih (o + 1) (h.setCell (p := ⟨k, o, none⟩) hk v)
theorem zero_size : (Tryz.zeroCells119).size = 128 := by kernel_rfl
theorem zero_there (U : World) (b : List UInt8) (hb : b.length = 128) : (U.alloc (.cells Tryz.zeroCells119 119)).drew.there U.heap.size 0 (bv b).length := fun j hj => by
  have hx : (U.alloc (.cells Tryz.zeroCells119 119)).drew.heap[U.heap.size]? = some (.cells Tryz.zeroCells119 119 (0, 0)) := blk_new U _
  rw [bv_length, hb] at hj
  refine ⟨?_, blk_frees hx _⟩
  rw [blk_cells hx, Nat.zero_add, Array.getElem?_eq_getElem (by rw [zero_size]; exact hj)]
  rfl
end Go.Proofs.YtehfoopefefpnaaGreat
/- slices.Backward at what waits in a drive: nothing. -/
set_option linter.unusedSimpArgs false
set_option linter.unusedVariables false
namespace Go.Proofs.YtehfoopefefpnaaGreat
open Go.RowKit Go.Shelf

attribute [local go_sem] Oper.semAt_some
set_option maxHeartbeats 1000000 in
theorem wback_in (F : Fence) (n : Nat) (hf : F.fn 98) (hro : F.round = none) (a : Option Addr) (len cap : Nat) (w : World) :
    CallsIn F n Tryz.prog 98 #[.slice a len cap] w fun e w' => e = .returned (.func (.func 132) #[] #[.pointer (some ⟨w.heap.size, 0, none⟩)]) ∧
      w' = w.alloc (.cells #[.slice a len cap] 111) := by
  refine callsIn_of_wp Tryz.func98 rfl hf ?_ hro
  simp only [Tryz.ntmps98, List.size_toArray, List.length_cons, List.length_nil, Nat.reduceAdd, Nat.reduceSub, Array.replicate_succ, Array.replicate_zero, List.push_toArray, List.append_toArray, List.nil_append, List.cons_append]
  gi_wp2
  go_ret
  exact ⟨rfl, rfl⟩
set_option maxRecDepth 100000 in
set_option maxHeartbeats 2000000 in
theorem wback1_in (F : Fence) (n : Nat) (hf : F.fn 132) (hro : F.round = none) (l Bs cap : Nat) (A : Option Addr) (W : World) (hBs : W.cell? ⟨Bs, 0, none⟩ = some (.slice A 0 cap)) :
    CallsIn F n Tryz.prog 132 #[.func (.yield l) #[] #[], .pointer (some ⟨Bs, 0, none⟩)] W fun e W' => (∃ v, e = .returned v) ∧ W' = W := by
  refine callsIn_of_wp Tryz.func132 rfl hf ?_ hro
  simp only [Tryz.ntmps132, List.size_toArray, List.length_cons, List.length_nil, Nat.reduceAdd, Nat.reduceSub, Array.replicate_succ, Array.replicate_zero, List.push_toArray, List.append_toArray, List.nil_append, List.cons_append]
  gi_wp2
  gi_loopw [3] (fun i wr => i = .int .i64 (-1) ∧ wr = W) (fun i _ => 0)
  case atStart => exact ⟨rfl, rfl⟩
  case round =>
    obtain ⟨rfl, rfl⟩ := hrel
    gi_wp2
    go_end0
    exact ⟨⟨_, rfl⟩, rfl⟩
/-- What the loop over an empty list gets. -/
theorem wback_stops (F : Fence) (n : Nat) (hf : F.fn 132) (hro : F.round = none) (Bs cap : Nat) (A : Option Addr) (S : Nat → Prop) (w : World) (hBs : Bs < w.heap.size) (hcs : w.cell? ⟨Bs, 0, none⟩ = some (.slice A 0 cap)) :
    SeqStopsK F n Tryz.prog 132 #[.pointer (some ⟨Bs, 0, none⟩)] (fun (_ : Fin 0) => (#[] : Array Value)) (Keep S) (fun ys => ys = []) (fun _ => False) 0 w := fun l J Jx W hW hJ _ hY h0 => by
  have hcs' := (hW.cell (p := ⟨Bs, 0, none⟩) hBs).trans hcs
  exact (wback1_in F n hf hro l Bs cap A W hcs').mono (fun e W' q => ⟨q.1, .inl ⟨[], rfl, by rw [q.2]; exact h0⟩⟩)
end Go.Proofs.YtehfoopefefpnaaGreat
/- Package drive: Get, where nothing waits; the walk. -/
set_option linter.unusedSimpArgs false
set_option linter.unusedVariables false
namespace Go.Proofs.YtehfoopefefpnaaGreat
open Go.RowKit Go.Shelf

attribute [local go_sem ↓] Go.wp_at_zero Go.wp_at_succ
set_option maxRecDepth 100000 in
set_option maxHeartbeats 4000000 in
theorem dget_walk (B k : Nat) (s : DrS) (w : World) (A : Option Addr) (c : Nat) (lc : Nat) (h : DR B k s w A c none lc) (ho : s.ok) (hl : s.list = []) (hd : s.dead = false) (i : Nat) (b : List UInt8) (hb : s.sure[i]? = some b) :
    Calls Tryz.prog 66 #[.pointer (some ⟨k, 0, none⟩), .int .i64 (i : Int)] w fun e w' => ∃ g, e = .returned (.tuple #[.slice (some ⟨g, 0, none⟩) 128 128, .int .i64 0]) ∧ Sl w' 1 (.slice (some ⟨g, 0, none⟩) 128 128) 128 (bv b) ∧ w.heap.size ≤ g ∧ Below w.heap.size w w' := by
  obtain ⟨g, rfl, hr⟩ := h.range ho hb
  rw [Nat.mul_comm] at hr
  have hbl : b.length = 128 := ho.each b (List.mem_of_getElem? hb)
  have hi : i < s.sure.length := (List.getElem?_eq_some_iff.1 hb).1
  have hlen := ho.len
  have HRD := Lib.hid (fun (W : World) (hW : Below w.heap.size w W) => (ready_walk B k s W (some ⟨g, 0, none⟩) c none lc (h.below hW)).mono (fun e w' q => (show e = .returned (.int .i64 0) ∧ w' = W from by rw [hd] at q; exact q)))
  obtain ⟨m, hm⟩ : ∃ m, m = s.sure.length := ⟨_, rfl⟩
  have hblk := h.blk
  rw [hl, ← hm] at hblk
  rw [← hm] at hi hlen
  have B0 := Lib.hid ((Below.refl w.heap.size w).alloc (Nat.le_refl _) (.cells #[.int .i64 (i : Int)] 3))
  have HX0 := Lib.hid (blk_new w (.cells #[.int .i64 (i : Int)] 3))
  have k0 := (Keep.of_below (S := fun _ => False) B0.out)
  have HK := Lib.hid (k0.blk hblk id)
  have HR := Lib.hid (show (w.alloc (.cells #[.int .i64 (i : Int)] 3)).rangeAt g (i * 128) (bv b) from World.rangeAt_alloc hr _)
  have g0 : ¬ (i : Int) < 0 := by omega
  have g1 : (i : Int) < (m : Int) := by omega
  have d0 : decide ((i : Int) < 0) = false := decide_eq_false g0
  have d1 : decide ((m : Int) ≤ (i : Int)) = false := decide_eq_false (by omega)
  have HBL := Lib.hid hbl
  clear h ho hl hd hb hr hbl hm hblk k0 hlen
  refine callsIn_wide.1 (callsIn_of_wp_marks (F := Fence.wide) (n := 8) Tryz.func66 rfl trivial ?_ rfl)
  simp only [Tryz.ntmps66, List.size_toArray, List.length_cons, List.length_nil, Nat.reduceAdd, Nat.reduceSub, Array.replicate_succ, Array.replicate_zero, List.push_toArray, List.append_toArray, List.nil_append, List.cons_append]
  refine wpIn_wide.2 ?_
  go_wp2_with fail
  obtain ⟨w0, hw0⟩ : ∃ w0, w0 = w.alloc (.cells #[.int .i64 (i : Int)] 3) := ⟨_, rfl⟩
  have HRD0 := Lib.hid (HRD.out _ B0.out)
  rw [← hw0] at HRD0 HX0 HK HR B0 ⊢
  clear hw0
  with_reducible refine HRD0.out.mono ?_
  rintro e w1 ⟨rfl, hw1⟩
  subst hw1
  have cn : w1.cell? ⟨w.heap.size, 0, none⟩ = some (.int .i64 (i : Int)) := (blk_cells HX0.out 0).trans rfl
  have ck : w1.cell? ⟨k, 0, none⟩ = some (.slice (some ⟨g, 0, none⟩) m c) := (blk_cells HK.out 0).trans rfl
  go_upto_region 4 with fail
  go_quiet (fail)
  go_upto_region 6 with fail
  obtain ⟨U, hU⟩ : ∃ U, U = w1.drewN nq := ⟨_, rfl⟩
  rw [← hU]
  have hkU : Keep (fun _ => False) w1 U := by rw [hU]; exact (Keep.refl _ w1).drewN nq
  have HBU := Lib.hid (B0.out.trans ((hkU.to_below).mono B0.out.size))
  have hnU := hkU.blk HX0.out id
  have hdU := hkU.blk HK.out id
  have hrU : U.rangeAt g (i * 128) (bv b) := fun j v hv => hkU.cell (HR.out j v hv) id
  have HS : Hid (∀ W : World, Below U.heap.size U W → W.cell? ⟨w.heap.size, 0, none⟩ = some (.int .i64 (i : Int)) ∧ W.cell? ⟨k, 0, none⟩ = some (.slice (some ⟨g, 0, none⟩) m c) ∧ W.rangeAt g (i * 128) (bv b)) := Lib.hid (fun W hW => ⟨(blk_cells ((Keep.of_below (S := fun _ => False) hW).blk hnU id) 0).trans rfl, (blk_cells ((Keep.of_below (S := fun _ => False) hW).blk hdU id) 0).trans rfl, fun j v hv => (Keep.of_below (S := fun _ => False) hW).cell (hrU j v hv) id⟩)
  have HD0 := Lib.hid ((Below.refl U.heap.size U).drew)
  have HDA := Lib.hid ((((Below.refl U.heap.size U).alloc (Nat.le_refl _) (.cells Tryz.zeroCells119 119)).drew))
  have HDS := Lib.hid (below_setCells (bv b) 0 HDA.out (Nat.le_refl U.heap.size))
  have h1v := bv_one b
  have htt := zero_there U b HBL.out
  have rd := HS.out _ HD0.out
  have infS : (Tryz.prog.info? 119).map (·.size) = some (bv b).length := by rw [bv_length, HBL.out]; kernel_rfl
  have undA : Tryz.prog.underlying 119 = some (.array 128 5) := by kernel_rfl
  have hld : ∀ W : World, (W.cell? ⟨w.heap.size, 0, none⟩ = some (.int .i64 (i : Int)) ∧ W.cell? ⟨k, 0, none⟩ = some (.slice (some ⟨g, 0, none⟩) m c) ∧ W.rangeAt g (i * 128) (bv b)) → (Instr.loadAt 119 (.pointer (some ⟨g, i * 128, none⟩))).run Tryz.prog W = .ok (.agg (bv b).toArray) W := fun W hW => run_loadAt_mid W g (i * 128) _ _ _ hW.2.2 undA rfl infS
  have HDU := Lib.hid hdU
  clear hU hkU hnU hdU hrU cn ck hld
  go_region_held3 (fun W => W.cell? ⟨w.heap.size, 0, none⟩ = some (.int .i64 (i : Int)) ∧ W.cell? ⟨k, 0, none⟩ = some (.slice (some ⟨g, 0, none⟩) m c) ∧ W.rangeAt g (i * 128) (bv b)) (first | with_reducible exact HS.out _ HD0.out | with_reducible exact HS.out _ HDA.out | with_reducible exact HS.out _ HDS.out) (first | (fail))
  obtain ⟨W2, hW2⟩ : ∃ W2, W2 = (U.alloc (.cells Tryz.zeroCells119 119)).drew.setCells U.heap.size 0 (bv b) := ⟨_, rfl⟩
  rw [← hW2] at HDS ⊢
  have hr2 : W2.rangeAt U.heap.size 0 (bv b) := by rw [hW2]; exact World.rangeAt_setCells_same _ _ _ _ htt
  have hk2 := (Keep.of_below (S := fun _ => False) HDS.out).blk HDU.out id
  have ck1 : W2.cell? ⟨k, 1, none⟩ = some (.slice none 0 lc) := (blk_cells hk2 1).trans rfl
  have HR2 := Lib.hid hr2
  have HB2 := Lib.hid (HBU.out.trans (HDS.out.mono HBU.out.size))
  have HUW : Hid (w.heap.size ≤ U.heap.size ∧ U.heap.size < W2.heap.size) := Lib.hid ⟨HBU.out.size, by
    have hj := hr2 0 ((bv b)[0]'(by rw [bv_length, HBL.out]; decide)) (List.getElem?_eq_getElem _)
    exact World.block_lt_of_cell? _ _ hj⟩
  clear hW2 hr2 hk2 htt h1v infS undA HS HD0 HDA rd
  go_wp2_with fail
  refine (callsIn_wide.1 (wback_in Fence.wide 8 trivial rfl none 0 lc W2)).mono ?_
  rintro e w' ⟨rfl, rfl⟩
  go_wp2_with fail
  refine (wpIn_wide (n := 8)).1 ?_
  gi_wp2_with fail
  have HZ : Hid ((W2.alloc (.cells #[.slice none 0 lc] 111)).heap.size = W2.heap.size + 1) := Lib.hid (by simp)
  refine wpIn_rangeFunc_ownG (α := Fin 0) rfl (by omega) (gf := 132) (lb := #[.pointer (some ⟨W2.heap.size, 0, none⟩)]) rfl trivial (enters_of Tryz.func132 (by kernel_rfl) rfl)
    (wback_stops Fence.wide (8 - 1) trivial rfl W2.heap.size lc none (fun k => W2.heap.size + 1 ≤ k) (W2.alloc (.cells #[.slice none 0 lc] 111)) (by simp) ((blk_cells (blk_new W2 _) 0).trans rfl))
    (fun h k => h.trans k (fun _ _ h => h)) (fun W l o o' hl _ _ _ => keep_putObj o' (by have := HZ.out; omega)) (Below.refl _ _) (fun x => x.elim0)
    (fun _ W => Below w.heap.size w W ∧ W.rangeAt U.heap.size 0 (bv b)) (fun _ _ _ => False) (OwnFrom.and (ownFrom_below (Nat.le_refl _) (by have := HZ.out; have := HB2.out.size; omega)) (fun _ X Y row hs hg hr j v hv => (Keep.of_grown hg).cell (hs j v hv) (fun e => by have e' := (hr _ e).1; have e'' : (W2.alloc (.cells #[.slice none 0 lc] 111)).heap.size ≤ U.heap.size := e'; have := HZ.out; have := HUW.out; omega))) (fun c => fun _ _ _ _ h => h.elim) ?h0
    (fun x => x.elim0) ?assign ?body ?done ?stop
  case h0 => exact ⟨HB2.out.alloc HB2.out.size _, World.rangeAt_alloc HR2.out _⟩
  case assign => intro l x; exact x.elim0
  case body => intro l pre x; exact x.elim0
  case stop =>
    rintro D cc pre W hD _ h _
    exact h.elim
  case done =>
    rintro D ys W hD rfl ⟨hB, hr⟩ hK
    have HB := Lib.hid hB
    have HRW := Lib.hid hr
    have HK := Lib.hid hK
    have HD := Lib.hid hD
    clear hB hr hK hD
    go_wp2
    refine ⟨by simp, .inl ⟨_, _, rfl, run_takeDeferred HK.out, ?_⟩⟩
    have hb := belowK_b (w := W2.alloc (.cells #[.slice none 0 lc] 111)) (Nat.le_refl _) W D _ (.deferred none) HD.out HK.out rfl rfl
    have hcell : ∀ j v, (bv b)[j]? = some v → (W.putObj D (.deferred none)).cell? ⟨U.heap.size, 0 + j, none⟩ = some v := fun j v hv => (Keep.of_belowB (S := fun i => W2.heap.size + 1 ≤ i) hb (fun i _ h => by have := HZ.out; omega)).cell (HRW.out j v hv) (by have := HUW.out; show ¬ W2.heap.size + 1 ≤ U.heap.size; omega)
    refine ⟨.tuple #[.slice (some ⟨U.heap.size, 0, none⟩) 128 128, .int .i64 0], ?_, U.heap.size, rfl, ⟨_, _, rfl, .inr ⟨_, rfl, fun j u hj => by rw [Addr.add_mid]; exact hcell j u hj⟩, (fun e => by cases e), Nat.le_refl _, by rw [bv_length, HBL.out]⟩, HUW.out.1, HB.out.trans (hb.mono (by have := HZ.out; have := HB2.out.size; omega))⟩
    simp [results, Tryz.f66, go_sem]
end Go.Proofs.YtehfoopefefpnaaGreat
/- Package drive: what is to be written, in memory; the tests of Put. -/
set_option linter.unusedSimpArgs false
set_option linter.unusedVariables false
namespace Go.Proofs.YtehfoopefefpnaaGreat
open Go.RowKit

attribute [local go_sem ↓] Go.wp_at_zero Go.wp_at_succ
/-- A sector that is to be written. -/
structure WE where
  at_ : Nat
  A : Option Addr
  c : Nat
  d : List UInt8
def WE.cells (e : WE) : List Value := [.int .i64 (e.at_ : Int), .slice e.A e.d.length e.c]
/-- A list of sectors to be written. -/
structure WR (w : World) (X : Option Addr) (c : Nat) (es : List WE) : Prop where
  sl : Sl w 2 (.slice X es.length c) es.length (es.flatMap WE.cells)
  each : ∀ e ∈ es, Sl w 1 (.slice e.A e.d.length e.c) e.d.length (bv e.d)
theorem WR.below {w w' : World} {X : Option Addr} {c : Nat} {es : List WE} (h : WR w X c es) (hb : Below w.heap.size w w') : WR w' X c es :=
  ⟨h.sl.below hb, fun e he => (h.each e he).below hb⟩
theorem wcells_get (es : List WE) (i : Nat) (e : WE) (h : es[i]? = some e) : (es.flatMap WE.cells)[i * 2]? = some (.int .i64 (e.at_ : Int)) ∧ (es.flatMap WE.cells)[i * 2 + 1]? = some (.slice e.A e.d.length e.c) := by
  induction es generalizing i with
  | nil => cases h
  | cons x es ih =>
    rw [List.flatMap_cons]
    cases i with
    | zero =>
      obtain rfl : x = e := by simpa using h
      exact ⟨rfl, rfl⟩
    | succ i =>
      obtain ⟨h1, h2⟩ := ih i (by simpa using h)
      rw [show (i + 1) * 2 = (i * 2) + 2 by omega, List.getElem?_append_right (by simp [WE.cells]), List.getElem?_append_right (by simp [WE.cells])]
      simp only [WE.cells, List.length_cons, List.length_nil]
      rw [show i * 2 + 2 - (0 + 1 + 1) = i * 2 by omega, show i * 2 + 2 + 1 - (0 + 1 + 1) = i * 2 + 1 by omega]
      exact ⟨h1, h2⟩
theorem sl_cell {w : World} {A : Option Addr} {c n size k : Nat} {xs : List Value} (h : Sl w size (.slice A n c) n xs) {u : Value} (hl : xs[k]? = some u) :
    ∃ b o, A = some ⟨b, o, none⟩ ∧ b < w.heap.size ∧ w.cell? ⟨b, o + k, none⟩ = some u := by
  obtain ⟨A', c', e', hr, _⟩ := h
  injection e' with e1 _ e2
  subst e1
  rcases hr with h0 | ⟨ad, rfl, hc⟩
  · rw [h0] at hl; simp at hl
  · have h0 := hc _ _ hl
    obtain ⟨b, o, spot⟩ := ad
    obtain ⟨e0, he0⟩ : ∃ e0, xs[0]? = some e0 := ⟨xs[0]'(by have := (List.getElem?_eq_some_iff.1 hl).1; omega), List.getElem?_eq_getElem _⟩
    have hz := hc 0 e0 he0
    have es : spot = none := by
      have : (⟨b, o, spot⟩ : Addr).add 0 = ⟨b, o, spot⟩ := by unfold Addr.add; simp
      rw [this] at hz
      exact World.cell?_spot hz
    subst es
    rw [Addr.add_lit] at h0
    exact ⟨b, o, rfl, World.block_lt_of_cell? w _ h0, h0⟩
/-- An element of such a list. -/
theorem WR.at {w : World} {X : Option Addr} {c : Nat} {es : List WE} (h : WR w X c es) {i : Nat} {e : WE} (he : es[i]? = some e) :
    ∃ b o, X = some ⟨b, o, none⟩ ∧ w.cell? ⟨b, o + i * 2, none⟩ = some (.int .i64 (e.at_ : Int)) ∧ w.cell? ⟨b, o + i * 2 + 1, none⟩ = some (.slice e.A e.d.length e.c) := by
  obtain ⟨g1, g2⟩ := wcells_get es i e he
  obtain ⟨b, o, hX, _, h1⟩ := sl_cell h.sl g1
  obtain ⟨b', o', hX', _, h2⟩ := sl_cell h.sl g2
  subst hX
  injection hX' with e1
  injection e1 with e1 e2 _
  subst e1 e2
  exact ⟨b, o, rfl, h1, by rw [Nat.add_assoc]; exact h2⟩
set_option maxHeartbeats 1000000 in
theorem put1_walk (P k : Nat) (a : Nat) (A : Option Addr) (n c : Nat) (B : Nat) (s : DrS) (DA : Option Addr) (dc : Nat) (L : Option Addr) (lc : Nat) (w : World) (hP : w.cell? ⟨P, 0, none⟩ = some (.pointer (some ⟨k, 0, none⟩))) (h : DR B k s w DA dc L lc) (ha : a < s.sure.length) (ho : s.ok) :
    Calls Tryz.prog 87 #[.agg #[.int .i64 (a : Int), .slice A n c], .pointer (some ⟨P, 0, none⟩)] w fun e w' => e = .returned (.bool false) ∧ Below w.heap.size w w' := by
  have c0 : w.cell? ⟨k, 0, none⟩ = some (.slice DA s.sure.length dc) := (blk_cells h.blk 0).trans rfl
  have hl := ho.len
  have d1 := ((Keep.refl (fun _ => False) w).alloc (.cells #[.int .i64 (a : Int), .slice A n c] 100)).cell hP id
  have d2 := ((Keep.refl (fun _ => False) w).alloc (.cells #[.int .i64 (a : Int), .slice A n c] 100)).cell c0 id
  have HB := Lib.hid ((Below.refl w.heap.size w).alloc (Nat.le_refl _) (.cells #[.int .i64 (a : Int), .slice A n c] 100))
  obtain ⟨m, hm⟩ : ∃ m, m = s.sure.length := ⟨_, rfl⟩
  rw [← hm] at d2 ha hl
  have t1 : decide ((a : Int) < 0) = false := decide_eq_false (by omega)
  have t2 : decide ((m : Int) ≤ (a : Int)) = false := decide_eq_false (by omega)
  have t3 : decide (m ≤ a) = false := decide_eq_false (by omega)
  clear h ho hm hP c0 ha
  go_enter Tryz.func87, Tryz.ntmps87
  go_upto_region 1 with fail
  go_quiet (fail)
  go_wp2
  go_ret
  exact ⟨rfl, ((Keep.of_below (S := fun _ => False) HB.out).drewN nq).to_below⟩
set_option maxHeartbeats 1000000 in
theorem put2_walk (a : Int) (A : Option Addr) (c : Nat) (w : World) :
    Calls Tryz.prog 88 #[.agg #[.int .i64 a, .slice A 128 c]] w fun e w' => e = .returned (.bool false) ∧ Below w.heap.size w w' := by
  go_enter Tryz.func88, Tryz.ntmps88
  go_wp2
  go_ret
  exact ⟨rfl, (Below.refl w.heap.size w).alloc (Nat.le_refl _) _⟩
def WxI (m : Nat) (w : World) (v8 : Value) (W : World) : Prop := ∃ i : Nat, i ≤ m ∧ v8 = .int .i64 (i : Int) ∧ Below w.heap.size w W
set_option maxHeartbeats 2000000 in
theorem p1_ix (X : Option Addr) (c : Nat) (es : List WE) (P : Nat) (w : World) (h : WR w X c es) (hn : es.length ≤ 1000000) (hf : ∀ e ∈ es, ∀ W : World, Below w.heap.size w W → Calls Tryz.prog 87 #[.agg #[.int .i64 (e.at_ : Int), .slice e.A e.d.length e.c], .pointer (some ⟨P, 0, none⟩)] W fun r w' => r = .returned (.bool false) ∧ Below W.heap.size W w') :
    Calls Tryz.prog 126 #[.slice X es.length c, .func (.func 87) #[] #[.pointer (some ⟨P, 0, none⟩)]] w fun e w' => e = .returned (.int .i64 (-1)) ∧ Below w.heap.size w w' := by
  have H := Lib.hid h
  have HF := Lib.hid hf
  clear h hf
  go_enter Tryz.func126, Tryz.ntmps126
  go_wp2_with fail
  go_loopw [8] (fun v8 wr => WxI es.length w v8 wr) (fun v _ => es.length - (intOf v).toNat)
  case atStart => exact ⟨0, Nat.zero_le _, rfl, Below.refl _ _⟩
  case round =>
    obtain ⟨i, hi, rfl, hb⟩ := hrel
    have HB := Lib.hid hb
    by_cases hlt : i < es.length
    · obtain ⟨e, he⟩ : ∃ e, es[i]? = some e := ⟨es[i], List.getElem?_eq_getElem hlt⟩
      obtain ⟨b, o, rfl, c0, c1⟩ := (H.out.below hb).at he
      have HE := Lib.hid (HF.out e (List.mem_of_getElem? he) wr hb)
      have g0 : (0 : Int) ≤ (i : Int) := by omega
      have g1 : (i : Int) < (es.length : Int) := by omega
      have g2 : IntKind.i64.wrap ((i : Int) + 1) = (i : Int) + 1 := IntWalk.i64_in _ (by omega)
      clear he hb
      go_wp2_with fail
      refine HE.out.mono ?_
      rintro r w1 ⟨rfl, h1⟩
      have HP : Hid (WxI es.length w (.int .i64 ((i : Int) + 1)) w1) := Lib.hid ⟨i + 1, hlt, by rw [Int.natCast_add]; rfl, HB.out.trans (h1.mono HB.out.size)⟩
      clear h1 c0 c1
      go_wp2_with fail
      go_roundw
      case rel => exact HP.out
      case measure => simp only [intOf]; omega
    · obtain rfl : i = es.length := by omega
      have g1 : ¬ (es.length : Int) < (es.length : Int) := by omega
      clear hb
      go_wp2
      go_ret
      exact ⟨rfl, HB.out⟩
theorem p1_cf (X : Option Addr) (c : Nat) (es : List WE) (P : Nat) (w : World) (h : WR w X c es) (hn : es.length ≤ 1000000) (hf : ∀ e ∈ es, ∀ W : World, Below w.heap.size w W → Calls Tryz.prog 87 #[.agg #[.int .i64 (e.at_ : Int), .slice e.A e.d.length e.c], .pointer (some ⟨P, 0, none⟩)] W fun r w' => r = .returned (.bool false) ∧ Below W.heap.size W w') :
    Calls Tryz.prog 86 #[.slice X es.length c, .func (.func 87) #[] #[.pointer (some ⟨P, 0, none⟩)]] w fun e w' => e = .returned (.bool false) ∧ Below w.heap.size w w' := by
  have HI := Lib.hid (p1_ix X c es P w h hn hf)
  clear h hf
  go_enter Tryz.func86, Tryz.ntmps86
  go_wp2_with fail
  refine HI.out.mono ?_
  rintro r w1 ⟨rfl, h1⟩
  have HB := Lib.hid h1
  clear h1
  go_wp2
  go_ret
  exact ⟨rfl, HB.out⟩
set_option maxHeartbeats 2000000 in
theorem p2_ix (X : Option Addr) (c : Nat) (es : List WE)  (w : World) (h : WR w X c es) (hn : es.length ≤ 1000000) (hf : ∀ e ∈ es, ∀ W : World, Below w.heap.size w W → Calls Tryz.prog 88 #[.agg #[.int .i64 (e.at_ : Int), .slice e.A e.d.length e.c]] W fun r w' => r = .returned (.bool false) ∧ Below W.heap.size W w') :
    Calls Tryz.prog 126 #[.slice X es.length c, .func (.func 88) #[] #[]] w fun e w' => e = .returned (.int .i64 (-1)) ∧ Below w.heap.size w w' := by
  have H := Lib.hid h
  have HF := Lib.hid hf
  clear h hf
  go_enter Tryz.func126, Tryz.ntmps126
  go_wp2_with fail
  go_loopw [8] (fun v8 wr => WxI es.length w v8 wr) (fun v _ => es.length - (intOf v).toNat)
  case atStart => exact ⟨0, Nat.zero_le _, rfl, Below.refl _ _⟩
  case round =>
    obtain ⟨i, hi, rfl, hb⟩ := hrel
    have HB := Lib.hid hb
    by_cases hlt : i < es.length
    · obtain ⟨e, he⟩ : ∃ e, es[i]? = some e := ⟨es[i], List.getElem?_eq_getElem hlt⟩
      obtain ⟨b, o, rfl, c0, c1⟩ := (H.out.below hb).at he
      have HE := Lib.hid (HF.out e (List.mem_of_getElem? he) wr hb)
      have g0 : (0 : Int) ≤ (i : Int) := by omega
      have g1 : (i : Int) < (es.length : Int) := by omega
      have g2 : IntKind.i64.wrap ((i : Int) + 1) = (i : Int) + 1 := IntWalk.i64_in _ (by omega)
      clear he hb
      go_wp2_with fail
      refine HE.out.mono ?_
      rintro r w1 ⟨rfl, h1⟩
      have HP : Hid (WxI es.length w (.int .i64 ((i : Int) + 1)) w1) := Lib.hid ⟨i + 1, hlt, by rw [Int.natCast_add]; rfl, HB.out.trans (h1.mono HB.out.size)⟩
      clear h1 c0 c1
      go_wp2_with fail
      go_roundw
      case rel => exact HP.out
      case measure => simp only [intOf]; omega
    · obtain rfl : i = es.length := by omega
      have g1 : ¬ (es.length : Int) < (es.length : Int) := by omega
      clear hb
      go_wp2
      go_ret
      exact ⟨rfl, HB.out⟩
theorem p2_cf (X : Option Addr) (c : Nat) (es : List WE)  (w : World) (h : WR w X c es) (hn : es.length ≤ 1000000) (hf : ∀ e ∈ es, ∀ W : World, Below w.heap.size w W → Calls Tryz.prog 88 #[.agg #[.int .i64 (e.at_ : Int), .slice e.A e.d.length e.c]] W fun r w' => r = .returned (.bool false) ∧ Below W.heap.size W w') :
    Calls Tryz.prog 86 #[.slice X es.length c, .func (.func 88) #[] #[]] w fun e w' => e = .returned (.bool false) ∧ Below w.heap.size w w' := by
  have HI := Lib.hid (p2_ix X c es  w h hn hf)
  clear h hf
  go_enter Tryz.func86, Tryz.ntmps86
  go_wp2_with fail
  refine HI.out.mono ?_
  rintro r w1 ⟨rfl, h1⟩
  have HB := Lib.hid h1
  clear h1
  go_wp2
  go_ret
  exact ⟨rfl, HB.out⟩
end Go.Proofs.YtehfoopefefpnaaGreat
/- A struct that is stored whole: its cells, one behind the other. No program in sight. -/
set_option linter.unusedSimpArgs false
set_option linter.unusedVariables false
namespace Go.Proofs.YtehfoopefefpnaaGreat
open Go.RowKit

def setW (w : World) (k : Nat) : Nat → List Value → World
  | _, [] => w
  | i, v :: l => setW (w.setCell ⟨k, i, none⟩ v) k (i + 1) l
def arrW (cs : Array Value) : Nat → List Value → Array Value
  | _, [] => cs
  | i, v :: l => arrW (cs.setIfInBounds i v) (i + 1) l
theorem setW_blk {k : Nat} {t : TypeId} (l : List Value) (i : Nat) {w : World} {cs : Array Value} (h : w.heap[k]? = some (.cells cs t (0, 0))) : (setW w k i l).heap[k]? = some (.cells (arrW cs i l) t (0, 0)) := by
  induction l generalizing i w cs with
  | nil => exact h
  | cons v l ih => exact ih (i + 1) (blk_set (j := i) h v)
theorem setW_keep {k : Nat} (l : List Value) (i : Nat) (w : World) : Keep (fun j => j = k) w (setW w k i l) := by
  induction l generalizing i w with
  | nil => exact Keep.refl _ _
  | cons v l ih => exact ((Keep.refl (fun j => j = k) w).setCell (p := ⟨k, i, none⟩) (fun _ => rfl) v).trans (ih (i + 1) _) (fun _ _ h => h)
theorem arrW_get (l : List Value) (cs : Array Value) (i j : Nat) : (arrW cs i l)[j]? = if i ≤ j ∧ j < i + l.length ∧ j < cs.size then l[j - i]? else cs[j]? := by
  induction l generalizing cs i with
  | nil =>
    simp only [arrW, List.length_nil, Nat.add_zero]
    rw [if_neg (by omega)]
  | cons v l ih =>
    simp only [arrW]
    rw [ih, Array.size_setIfInBounds]
    by_cases h : i + 1 ≤ j ∧ j < i + 1 + l.length ∧ j < cs.size
    · rw [if_pos h, if_pos ⟨by omega, by rw [List.length_cons]; omega, h.2.2⟩, show j - i = (j - (i + 1)) + 1 by omega, List.getElem?_cons_succ]
    · rw [if_neg h, Array.getElem?_setIfInBounds]
      by_cases h2 : i = j
      · subst h2
        by_cases h3 : i < cs.size
        · rw [if_pos rfl, if_pos h3, if_pos ⟨Nat.le_refl _, by rw [List.length_cons]; omega, h3⟩, Nat.sub_self]
          rfl
        · rw [if_pos rfl, if_neg h3, if_neg (fun q => h3 q.2.2), Array.getElem?_eq_none (by omega)]
      · rw [if_neg h2, if_neg]
        intro q
        rw [List.length_cons] at q
        exact h ⟨by omega, by omega, q.2.2⟩
theorem arrW_size (l : List Value) (cs : Array Value) (i : Nat) : (arrW cs i l).size = cs.size := by
  induction l generalizing cs i with
  | nil => rfl
  | cons v l ih => simp only [arrW]; rw [ih, Array.size_setIfInBounds]
/-- All cells of a block written. -/
theorem setW_all {k : Nat} {t : TypeId} {w : World} {cs : Array Value} (h : w.heap[k]? = some (.cells cs t (0, 0))) (l : List Value) (hl : l.length = cs.size) : (setW w k 0 l).heap[k]? = some (.cells l.toArray t (0, 0)) := by
  rw [setW_blk l 0 h]
  have e : arrW cs 0 l = l.toArray := by
    apply Array.ext_getElem?
    intro j
    rw [arrW_get]
    by_cases hj : j < cs.size
    · rw [if_pos ⟨Nat.zero_le _, by omega, hj⟩]
      simp
    · rw [if_neg (fun q => hj q.2.2), Array.getElem?_eq_none (by omega), Array.getElem?_eq_none (by simp; omega)]
  rw [e]
end Go.Proofs.YtehfoopefefpnaaGreat
/- What a waiting sector is built of. -/
set_option linter.unusedSimpArgs false
set_option linter.unusedVariables false
namespace Go.Proofs.YtehfoopefefpnaaGreat
open Go.RowKit

theorem zip_arrW (l : List Value) (k off : Nat) (cells : Array Value) : (l.zipIdx k).foldl (fun cs x => cs.setIfInBounds (off + x.2) x.1) cells = arrW cells (off + k) l := by
  induction l generalizing k cells with
  | nil => rfl
  | cons v l ih =>
    rw [List.zipIdx_cons, List.foldl_cons, ih]
    rfl
theorem zip_arr (vs : Array Value) (off : Nat) (cells : Array Value) : vs.zipIdx.foldl (fun cs x => cs.setIfInBounds (off + x.2) x.1) cells = arrW cells off vs.toList := by
  rw [← Array.foldl_toList, Array.toList_zipIdx, zip_arrW]
  rfl
theorem fill_one (place : Nat → Option (Nat × Nat)) (cells : Array Value) (i off size : Nat) (v : Value) (rest : List (Nat × Value)) (hp : place i = some (off, size)) (hs : v.cells.size = size) (hf : off + size ≤ cells.size) :
    Instr.fill place cells ((i, v) :: rest) = Instr.fill place (arrW cells off v.cells.toList) rest := by
  conv => lhs; unfold Instr.fill
  rw [hp]
  simp only
  rw [if_neg (by simp [hs]; exact hf)]
  conv => lhs; rw [show (v.cells.zipIdx.foldl (fun cs x => match x with | (c, j) => cs.setIfInBounds (off + j) c) cells) = arrW cells off v.cells.toList from zip_arr v.cells off cells]
theorem arrW_all (cells : Array Value) (l : List Value) (h : l.length = cells.size) : arrW cells 0 l = l.toArray := by
  apply Array.ext_getElem?
  intro j
  rw [arrW_get]
  by_cases hj : j < cells.size
  · rw [if_pos ⟨Nat.zero_le _, by omega, hj⟩]
    simp
  · rw [if_neg (fun q => hj q.2.2), Array.getElem?_eq_none (by omega), Array.getElem?_eq_none (by simp; omega)]
theorem arrW_two (cells : Array Value) (v : Value) (l : List Value) (h : l.length + 1 = cells.size) : arrW (arrW cells 0 [v]) 1 l = (v :: l).toArray := by
  have : arrW (arrW cells 0 [v]) 1 l = arrW cells 0 (v :: l) := rfl
  rw [this]
  exact arrW_all cells (v :: l) (by simpa using h)
theorem wait_size : Tryz.zeroCells121.size = 129 := by kernel_rfl
theorem buildW (W : World) (a : Int) (d : List Value) (hd : d.length = 128) : (Instr.build 121 #[(0, .int .i64 a), (1, .agg d.toArray)]).run Tryz.prog W = .ok (.agg (.int .i64 a :: d).toArray) W := by
  have hz := wait_size
  have h2 : List.foldl (fun (cs : Array Value) (x : Value × Nat) => cs.setIfInBounds (1 + x.snd) x.fst) (Tryz.zeroCells121.setIfInBounds 0 (.int .i64 a)) d.zipIdx = (Value.int .i64 a :: d).toArray := by
    have h3 := arrW_two Tryz.zeroCells121 (.int .i64 a) d (by rw [hd, hz])
    generalize Tryz.zeroCells121 = Z at h3 ⊢
    rw [zip_arrW d 0 1]
    exact h3
  unfold Instr.build
  simp [go_sem]
  rw [if_neg (by omega), h2]
  rfl
/-- A row of one waiting sector. -/
theorem buildSW (W : World) (cs : List Value) (hc : cs.length = 129) : (Instr.buildSlice 111 1 #[(0, .agg cs.toArray)]).run Tryz.prog W = .ok (.slice (some ⟨W.heap.size, 0, none⟩) 1 1) (W.alloc (.cells cs.toArray 121)) := by
  have h3 : ∀ cells : Array Value, cells.size = 129 → List.foldl (fun (cs : Array Value) (x : Value × Nat) => cs.setIfInBounds x.snd x.fst) cells cs.zipIdx = cs.toArray := by
    intro cells hs
    have h4 := zip_arrW cs 0 0 cells
    simp only [Nat.zero_add] at h4
    rw [h4]
    exact arrW_all cells cs (by omega)
  unfold Instr.buildSlice
  simp [go_sem]
  rw [if_neg (by omega), h3 _ (by simp)]
  rfl
theorem exec_load {P : Program} {ρ : Operand → Value} {o : Oper} {t : TypeId} {x : Operand} {p v : Value} {W : World} (ho : o.op = .load t x) (hx : ρ x = p) (hr : (Instr.loadAt t p).run P W = .ok v W) : (execOp ρ o).run P W = .ok (.value v) W := by
  unfold execOp
  rw [ho]
  simp [hx, hr]
theorem exec_build {P : Program} {ρ : Operand → Value} {o : Oper} {t : TypeId} {i j : Nat} {x y : Operand} {p q v : Value} {W : World} (ho : o.op = .build t #[(i, x), (j, y)]) (hx : ρ x = p) (hy : ρ y = q) (hr : (Instr.build t #[(i, p), (j, q)]).run P W = .ok v W) : (execOp ρ o).run P W = .ok (.value v) W := by
  unfold execOp
  rw [ho]
  simp [hx, hy, hr]
theorem exec_buildSlice {P : Program} {ρ : Operand → Value} {o : Oper} {t : TypeId} {n i : Nat} {x : Operand} {p v : Value} {W W' : World} (ho : o.op = .buildSlice t n #[(i, x)]) (hx : ρ x = p) (hr : (Instr.buildSlice t n #[(i, p)]).run P W = .ok v W') : (execOp ρ o).run P W = .ok (.value v) W' := by
  unfold execOp
  rw [ho]
  simp [hx, hr]
/-- An operation whose run is known: one step of a region. -/
theorem step_run {P : Program} {w w' : World} {ops : Array Oper} {o : Oper} {a : Act} {K : Act → World → Prop} {Q : Exit → Act → World → Prop} {E : Prop} (hgd : o.guard = none) {v : Value} (hr : (execOp a.eval o).run P w = .ok (.value v) w') (h : K (a.put o.dst v) w') :
    if Region.wanted o (yielded ops a.tmps) = true then Oper.wp P o a w K Q else E := by
  have hw : Region.wanted o (yielded ops a.tmps) = true := by simp [Region.wanted, hgd]
  rw [if_pos hw]
  unfold Oper.wp
  rw [hr]
  exact h
theorem wpList_run {P : Program} {w w' : World} {ops : Array Oper} {rest : List Oper} {o : Oper} {a : Act} {Q : Exit → Act → World → Prop} (hgd : o.guard = none) {v : Value} (hr : (execOp a.eval o).run P w = .ok (.value v) w') (h : wpList P ops Q rest (a.put o.dst v) w') : wpList P ops Q (o :: rest) a w :=
  wpList_plain hgd fun _ hK => by
    unfold Oper.wp
    rw [hr]
    exact hK _ _ h
theorem exec_alloc {P : Program} {ρ : Operand → Value} {o : Oper} {t : TypeId} {v : Value} {W W' : World} (ho : o.op = .alloc t) (hr : (Instr.alloc t true (.tuple #[])).run P W = .ok v W') : (execOp ρ o).run P W = .ok (.value v) W' := by
  unfold execOp
  rw [ho]
  simp [hr]
end Go.Proofs.YtehfoopefefpnaaGreat
