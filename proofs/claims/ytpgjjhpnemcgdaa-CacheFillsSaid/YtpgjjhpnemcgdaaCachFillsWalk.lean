/- CacheFills: the walk. -/
import Derived.Test.YtpgjjhpnemcgdaaCachQ
import Derived.StillTailTactics
set_option linter.unusedSimpArgs false
set_option linter.unusedVariables false
namespace Go.Proofs.Ytpgjjhpnemcgdaa
open Go.RowKit

attribute [local go_sem ↓] Go.wp_at_zero Go.wp_at_succ
/-- The write, of whatever length. -/
theorem fw_any {X : Nat → Prop} {k n fr : Nat} {b : List UInt8} {w : World} (h : Ca X k (leaseP CaS.new 0 n) w) (hn : n < 2000) (hf : fr < 2000) (hb : b.length ≤ 300) (A : Option Addr) (bc : Nat) (hA : b.length ≤ bc) (hne : A = none → b.length = 0) (hB : ∀ ad, A = some ad → 0 < b.length → Fo X w ad b) :
    Calls Try.prog 8 #[.pointer (some ⟨k, 0, none⟩), .int .i64 (fr : Int), .slice A b.length bc] w fun e w' => ∃ s', FS n fr b s' ∧ e = .returned (.int .i64 0) ∧ Ca X k s' w' ∧ Keep (fun j => ¬ X j) w w' := by
  by_cases h0 : b.length = 0
  · rw [h0]
    refine (write0_walk h rfl fr (by omega) A bc).mono ?_
    rintro e w' ⟨rfl, hb'⟩
    refine ⟨_, FS.lease hn h0, rfl, ?_, Keep.of_below hb'⟩
    obtain ⟨a1, a2, a3, a4, a5, a6, h⟩ := h
    exact ⟨a1, a2, a3, a4, a5, a6, h.below hb'⟩
  · obtain ⟨ad, rfl⟩ : ∃ ad, A = some ad := by
      cases A with
      | none => exact absurd (hne rfl) h0
      | some ad => exact ⟨ad, rfl⟩
    have hd : (leaseP CaS.new 0 n).data.length = n := by simp [leaseP, CaS.new, growP]
    have hz : (leaseP CaS.new 0 n).size = n := rfl
    refine (write_walk h rfl (by show 0 < 16; decide) KB.nil (by rw [hz]; omega) (by rw [hz, hd]; exact Nat.le_refl _) (by rw [hd]; omega) fr b bc ad (by omega) (by omega) (by omega) (hB ad rfl (by omega))).mono ?_
    rintro e w' ⟨s', hw, rfl, h', hk⟩
    exact ⟨s', FS.write hn hf hb (by omega) hw, rfl, h', hk⟩
def tl (i : Nat) : List Value := bv (txtL.take i ++ List.replicate (2400 - i) 0)
theorem make2400 (w : World) : (Instr.makeSlice 23 (.int .i64 2400) (.int .i64 2400)).run Try.prog w = .ok (.slice (some ⟨w.heap.size, 0, none⟩) 2400 2400) (w.alloc (.cells (Array.replicate 2400 (.int .u8 0)) 5)) := by
  have hz : (Try.prog.info? 5).map (fun i => (i.zero, i.size, i.bytes)) = some (some (.int .u8 0), 1, 1) := by kernel_rfl
  obtain ⟨i, hi, h1, h2, h3⟩ := info_parts hz
  have h := Go.run_make (P := Try.prog) w 23 5 i _ eltB.und hi h1 .i64 .i64 2400 2400 (by decide) (by decide) (by rw [h3]; decide) (by decide)
  rw [h2] at h
  have e : madeCells (Value.int .u8 0).cells ((2400 : Int).toNat * 1) = Array.replicate 2400 (.int .u8 0) := by
    apply Array.ext
    · simp [madeCells]
    · intro j h1 h2
      simp [madeCells, Value.cells, Nat.mod_one]
  rw [e] at h
  exact h
theorem tl_zero : (Array.replicate 2400 (Value.int .u8 0)) = (tl 0).toArray := by
  unfold tl
  rw [List.take_zero, List.nil_append, Nat.sub_zero, bv, List.map_replicate]
  rfl
theorem tl_set (i : Nat) (h : i < 2400) : (tl i).set i (.int .u8 ((i : Int) % 251)) = tl (i + 1) := by
  have hx : (Value.int .u8 ((i : Int) % 251)) = .int .u8 ((txt i).toNat : Int) := by
    congr 1
    simp [txt]
    omega
  apply List.ext_getElem?
  intro j
  rw [hx]
  have hl : txtL.length = 2400 := txtL_len
  have hg := txtL_get i h
  unfold tl bv
  rw [List.getElem?_set]
  simp only [List.getElem?_map, List.getElem?_append, List.length_map, List.length_take, List.length_append, List.length_replicate, hl]
  by_cases e : i = j
  · subst e
    rw [if_pos rfl, if_pos (by omega), if_pos (by omega), List.getElem?_take_of_lt (by omega), hg]
    rfl
  · rw [if_neg e]
    by_cases e2 : j < i
    · rw [if_pos (by omega), if_pos (by omega), List.getElem?_take_of_lt (by omega), List.getElem?_take_of_lt (by omega)]
    · rw [if_neg (by omega), if_neg (by omega), List.getElem?_replicate, List.getElem?_replicate]
      by_cases e3 : j < 2400
      · rw [if_pos (by omega), if_pos (by omega)]
      · rw [if_neg (by omega), if_neg (by omega)]
/-- The text as far as it is filled. -/
def TI (T : Nat) (w5 : World) (v : Value) (W : World) : Prop := ∃ i : Nat, i ≤ 2400 ∧ v = .int .i64 (i : Int) ∧ W.heap[T]? = some (.cells (tl i).toArray 5 (0, 0)) ∧ Keep (fun j => j = T) w5 W
/-- The bytes as far as they are filled in. -/
def TL (X : Nat → Prop) (k n fr : Nat) (b : List UInt8) (w6 : World) (v : Value) (W : World) : Prop := ∃ (i : Nat) (s : CaS), i ≤ 2400 ∧ v = .int .i64 (i : Int) ∧ FS n fr b s ∧ Ca X k s W ∧ (∀ j, j < i → j < s.size → Cov s.known j) ∧ Keep (fun j => ¬ X j) w6 W
/-- All is known. -/
def TE (X : Nat → Prop) (k n fr : Nat) (b : List UInt8) (w6 : World) (W : World) : Prop := ∃ s : CaS, FS n fr b s ∧ Ca X k s W ∧ (∀ j, j < s.size → Cov s.known j) ∧ Keep (fun j => ¬ X j) w6 W
/-- What is read, as far as it was looked at. -/
def TR (z : Nat) (w8 : World) (v : Value) (W : World) : Prop := ∃ i : Nat, i ≤ z ∧ v = .int .i64 (i : Int) ∧ Below w8.heap.size w8 W
theorem read_all {s : CaS} (hd : s.size ≤ s.data.length) (hs : s.size ≤ 9728) : (readP s 0 9728).length = s.size ∧ ∀ i, i < s.size → (readP s 0 9728)[i]? = s.data[i]? := by
  have h2 : (partN s 0 9728).1 = 0 ∧ (partN s 0 9728).2 = s.size := by
    unfold partN
    split
    · exact ⟨rfl, by simp only; omega⟩
    · exact ⟨rfl, by simp only; omega⟩
  unfold readP
  rw [h2.1, h2.2, List.drop_zero, Nat.sub_zero]
  exact ⟨by rw [List.length_take]; omega, fun i hi => List.getElem?_take_of_lt hi⟩
theorem sl_arg {w : World} {A : Option Addr} {bc : Nat} {b : List UInt8} (hA : b.length ≤ bc) (hne : A = none → b.length = 0) (h0 : 0 < b.length) (hB : ∀ ad, A = some ad → 0 < b.length → ad.block < w.heap.size ∧ ∀ j v, (bv b)[j]? = some v → w.cell? (ad.add j) = some v) : Sl w 1 (.slice A b.length bc) b.length (bv b) := by
  cases A with
  | none => have := hne rfl; omega
  | some ad => exact ⟨_, bc, rfl, .inr ⟨ad, rfl, (hB ad rfl h0).2⟩, (fun e => by cases e), hA, by rw [bv_length, Nat.mul_one]⟩
theorem want_in {n fr i : Nat} {b : List UInt8} (h : fr ≤ i ∧ i < fr + b.length) : b[i - fr]? = some (want n fr b i) := by
  unfold want
  rw [if_pos h, List.getD_eq_getElem?_getD, List.getElem?_eq_getElem (by omega)]
  rfl
theorem want_txt {n fr i : Nat} {b : List UInt8} (h : ¬ (fr ≤ i ∧ i < fr + b.length)) (hi : i < n) : want n fr b i = txt i := by unfold want; rw [if_neg h, if_pos hi]
theorem want_zero {n fr i : Nat} {b : List UInt8} (h : ¬ (fr ≤ i ∧ i < fr + b.length)) (hi : ¬ i < n) : want n fr b i = 0 := by unfold want; rw [if_neg h, if_neg hi]
theorem bv_get {l : List UInt8} {i : Nat} {x : UInt8} (h : l[i]? = some x) : (bv l)[i]? = some (.int .u8 (x.toNat : Int)) := by unfold bv; rw [List.getElem?_map, h]; rfl
theorem txt_cell {T i : Nat} {w : World} (h : w.heap[T]? = some (.cells (bv txtL).toArray 5 (0, 0))) (hi : i < 2400) : w.cell? ⟨T, i, none⟩ = some (.int .u8 ((txt i).toNat : Int)) := by
  rw [blk_cells h, List.getElem?_toArray]
  exact bv_get (txtL_get i hi)
theorem step_cov {K R : List St} {i p c c' z : Nat} (hR : Kn K p (p + c') R) (h0 : 0 < c') (hc : c' ≤ c) (hcv : ∀ j, j < i → j < z → Cov K j) (hpz : p + c ≤ z) (hbel : ∀ j, j < p → Cov K j) (hun : ∀ j, p ≤ j → j < p + c → ¬ Cov K j) : ∀ j, j < i + 1 → j < z → Cov R j := fun j hj hz => by
  rw [hR.2 j]
  by_cases h1 : p ≤ j ∧ j < p + c'
  · exact .inr h1
  · by_cases h2 : j < p
    · exact .inl (hbel j h2)
    · exact absurd (hcv p (by omega) (by omega)) (hun p (Nat.le_refl _) (by omega))
theorem part_pc {s : CaS} {p c : Nat} (h0 : 0 < c) (h : p + c ≤ s.size) : partN s p c = (p, p + c) := by
  unfold partN
  rw [if_neg (by omega), Nat.min_eq_left (by omega)]
theorem txt_fo {X : Nat → Prop} {T p c : Nat} {w : World} (hX : X T) (h : w.heap[T]? = some (.cells (bv txtL).toArray 5 (0, 0))) : Fo X w ⟨T, p, none⟩ ((txtL.drop p).take c) := by
  refine ⟨hX, fun j v hj => ?_⟩
  rw [Addr.add_lit, blk_cells h, List.getElem?_toArray]
  simp only [bv, List.map_take, List.map_drop] at hj
  rw [List.getElem?_take] at hj
  split at hj
  · rw [List.getElem?_drop] at hj
    exact hj
  · cases hj
set_option maxRecDepth 100000 in
set_option maxHeartbeats 4000000 in
theorem fills_walk (sz at_ st : Nat) (hsz : sz < 65536) (hat : at_ < 65536) (hst : st < 256) (b : List UInt8) (A : Option Addr) (bc : Nat) (w : World) (hA : b.length ≤ bc) (hne : A = none → b.length = 0) (hbl : b.length ≤ 140737488351232)
    (hB : ∀ ad, A = some ad → 0 < b.length → ad.block < w.heap.size ∧ ∀ j v, (bv b)[j]? = some v → w.cell? (ad.add j) = some v) :
    Calls Try.prog 3 #[.int .u16 (sz : Int), .int .u16 (at_ : Int), .slice A b.length bc, .int .u8 (st : Int)] w fun e w' => e = .returned (.bool true) ∧ Below w.heap.size w w' := by
  have HN := Lib.hid (new_walk (fun j => j < w.heap.size) w (fun _ h => h))
  have HB := Lib.hid hB
  have HNE := Lib.hid hne
  have HA := Lib.hid hA
  clear hB hne hA
  go_enter Try.func3, Try.ntmps3
  go_wp2_with fail
  refine HN.out.mono ?_
  rintro e w1 ⟨rfl, h1, hb1⟩
  have H1 := Lib.hid h1
  have B1 := Lib.hid hb1
  clear h1 hb1
  go_wp2_with fail
  refine (awake_walk _).mono ?_
  rintro e w2 ⟨rfl, hb2⟩
  have B2 := Lib.hid (B1.out.trans (hb2.mono B1.out.size))
  have HB2 := Lib.hid hb2
  clear hb2
  by_cases h300 : (300 : Int) < (b.length : Int)
  · go_wp2_with fail
    refine (awake_walk _).mono ?_
    rintro e w3 ⟨rfl, hb3⟩
    go_wp2
    go_ret
    exact ⟨rfl, B2.out.trans (hb3.mono B2.out.size)⟩
  obtain ⟨n, hn⟩ : ∃ n : Nat, n = sz % 2000 := ⟨_, rfl⟩
  obtain ⟨fr, hfr⟩ : ∃ fr : Nat, fr = at_ % 2000 := ⟨_, rfl⟩
  have hn2 : n < 2000 := by omega
  have hfr2 : fr < 2000 := by omega
  have e1 : IntKind.i64.wrap (sz : Int) = (sz : Int) := IntWalk.i64_in _ (by omega)
  have e2 : IntKind.i64.wrap (at_ : Int) = (at_ : Int) := IntWalk.i64_in _ (by omega)
  have e3 : (sz : Int).tmod 2000 = (n : Int) := by rw [hn, Int.tmod_eq_emod_of_nonneg (by omega)]; omega
  have e4 : (at_ : Int).tmod 2000 = (fr : Int) := by rw [hfr, Int.tmod_eq_emod_of_nonneg (by omega)]; omega
  have HNN := Lib.hid hn
  have HFR := Lib.hid hfr
  have hb3 : b.length ≤ 300 := by omega
  clear hn hfr
  have HLE := Lib.hid (lease_walk (by obtain ⟨a1, a2, a3, a4, a5, a6, h⟩ := H1.out; exact ⟨a1, a2, a3, a4, a5, a6, h.below HB2.out⟩) rfl 0 n (by omega) (by decide))
  go_wp2_with fail
  refine HLE.out.mono ?_
  rintro e w3 ⟨rfl, h3, hk3⟩
  have B3 := Lib.hid (B2.out.trans (hk3.below (fun j hj => Nat.le_of_not_lt hj) B2.out.size))
  have HWR := Lib.hid (fw_any h3 hn2 hfr2 hb3 A bc HA.out HNE.out (fun ad e h0 => ⟨(HB.out ad e h0).1, Fo.below_keep (X := fun j => j < w.heap.size) ⟨(HB.out ad e h0).1, (HB.out ad e h0).2⟩ (Keep.of_below B3.out)⟩))
  clear h3 hk3
  go_wp2_with fail
  refine HWR.out.mono ?_
  rintro e w4 ⟨s4, hs4, rfl, h4, hk4⟩
  have B4 := Lib.hid (B3.out.trans (hk4.below (fun j hj => Nat.le_of_not_lt hj) B3.out.size))
  have HS4 := Lib.hid hs4
  have H4 := Lib.hid h4
  clear hs4 h4 hk4
  have hmk := make2400
  go_upto_region 10 with fail
  obtain ⟨w5, hw5⟩ : ∃ w5, w5 = w4.alloc (.cells (Array.replicate 2400 (.int .u8 0)) 5) := ⟨_, rfl⟩
  rw [← hw5]
  have hx5 : w5.heap[w4.heap.size]? = some (.cells (tl 0).toArray 5 (0, 0)) := by rw [hw5, tl_zero]; exact blk_new w4 _
  have HX5 := Lib.hid hx5
  have HW5 := Lib.hid hw5
  clear hmk hx5 hw5
  go_upto_region 11 with fail
  go_loopw [13] (fun v wr => TI w4.heap.size w5 v wr) (fun v _ => 2400 - (intOf v).toNat)
  case atStart => exact ⟨0, by omega, rfl, HX5.out, Keep.refl _ _⟩
  case round =>
    obtain ⟨i, hi, rfl, hb, hk⟩ := hrel
    have hcc := blk_cells hb
    have HB6 := Lib.hid hb
    have HK6 := Lib.hid hk
    clear hb hk
    by_cases hlt : i < 2400
    · have g1 : (i : Int) < 2400 := by omega
      have g0 : (0 : Int) ≤ (i : Int) := by omega
      have g2 : IntKind.i64.wrap ((i : Int) + 1) = (i : Int) + 1 := IntWalk.i64_in _ (by omega)
      have g3 : ¬ (i : Int) < 0 := by omega
      have g4 : (i : Int).tmod 251 = (i : Int) % 251 := Int.tmod_eq_emod_of_nonneg g0
      have hfi := blk_frees HB6.out i
      have hll : (tl i).length = 2400 := by unfold tl bv; rw [List.length_map, List.length_append, List.length_take, List.length_replicate, txtL_len]; omega
      obtain ⟨z, hz⟩ : ∃ z, wr.cell? ⟨w4.heap.size, i, none⟩ = some z := ⟨(tl i)[i], by rw [hcc i, ← Array.getElem?_toList]; exact List.getElem?_eq_getElem (show i < (tl i).length by omega)⟩
      clear hcc
      go_wp2
      refine ⟨⟨i + 1, by omega, by rw [Int.natCast_add]; rfl, ?_, HK6.out.setCell (p := ⟨w4.heap.size, i, none⟩) (fun _ => rfl) _⟩, by simp only [intOf]; omega⟩
      rw [← tl_set i hlt, ← List.setIfInBounds_toArray]
      exact blk_set HB6.out _
    · obtain rfl : i = 2400 := by omega
      have g1 : ¬ ((2400 : Nat) : Int) < 2400 := by omega
      obtain ⟨a1, a2, a3, a4, a5, a6, h4⟩ := H4.out
      have hb45 : Below w4.heap.size w4 w5 := by rw [HW5.out]; exact (Below.refl _ w4).alloc (Nat.le_refl _) _
      have h5 := h4.addNew hb45 (by rw [HW5.out]; simp)
      have h6 := h5.keep HK6.out (fun j hj => .inr hj) (fun j cs fr hj e => by
        have e : j = w4.heap.size := e
        subst e
        have := HX5.out.symm.trans hj
        injection this with this
        injection this with _ this _
        exact absurd this (by decide)) (fun p hp j hj e => by
        obtain ⟨A', c', e', _, hA'⟩ := h4.pieces p hp
        rw [e', ownBlock_slice] at hj
        obtain ⟨_, cs, fr, hb'⟩ := hA' j hj
        have := blk_lt hb'
        have e : j = w4.heap.size := e
        omega)
      have H6 : Hid (Ca (fun j => j < w.heap.size ∨ j = w4.heap.size) w.heap.size s4 wr) := Lib.hid ⟨a1, a2, a3, a4, a5, a6, h6⟩
      have B6 := Lib.hid ((B4.out.trans (hb45.mono B4.out.size)).trans (HK6.out.below (fun j e => by have e : j = w4.heap.size := e; rw [e]; exact B4.out.size) (by have := B4.out.size; have := hb45.size; omega)))
      have HT6 : Hid (wr.heap[w4.heap.size]? = some (.cells (bv txtL).toArray 5 (0, 0))) := Lib.hid (by have := HB6.out; unfold tl at this; rw [List.take_of_length_le (by rw [txtL_len]; omega), Nat.sub_self, List.replicate_zero, List.append_nil] at this; exact this)
      obtain ⟨kk, hkk⟩ : ∃ kk : Nat, kk = 1 + st % 200 := ⟨_, rfl⟩
      have q1 : 1 + (st : Int) % 200 = (kk : Int) := by omega
      have hkk0 : 0 < kk ∧ kk ≤ 200 := by omega
      clear hcc h4 hb45 h5 h6 hkk
      go_upto_region 15 with fail
      clear q1
      obtain ⟨w6, hw6⟩ : ∃ w6 : World, w6 = wr := ⟨_, rfl⟩
      subst hw6
      obtain ⟨X, hX⟩ : ∃ X : Nat → Prop, X = fun j => j < w.heap.size ∨ j = w4.heap.size := ⟨_, rfl⟩
      rw [← hX] at H6
      have HX := Lib.hid hX
      obtain ⟨k, hk⟩ : ∃ k : Nat, k = w.heap.size := ⟨_, rfl⟩
      rw [← hk] at H6
      have HK := Lib.hid hk
      obtain ⟨T, hT⟩ : ∃ T : Nat, T = w4.heap.size := ⟨_, rfl⟩
      rw [← hT] at HT6
      have HTT := Lib.hid hT
      rw [← hk, ← hT]
      clear hX hk hT
      go_upto_block 2 with fail
      go_cut [15] (fun _ wx => TE X k n fr b w6 wx)
      case first =>
        go_wp2_with fail
        go_loopw [15] (fun v wr => TL X k n fr b w6 v wr) (fun v _ => 2400 - (intOf v).toNat)
        case atStart => exact ⟨0, _, by omega, rfl, HS4.out, H6.out, fun j h => absurd h (Nat.not_lt_zero _), Keep.refl _ _⟩
        case round =>
          obtain ⟨i, s, hi, rfl, hfs, hca, hcv, hkp⟩ := hrel
          have HFS := Lib.hid hfs
          have HCA := Lib.hid hca
          have HCV := Lib.hid hcv
          have HKP := Lib.hid hkp
          have hsz : s.size < 2400 := by rw [hfs.size]; exact fsz_le hn2 hfr2 hb3
          clear hfs hca hcv hkp
          by_cases hlt : i < 2400
          · have g2 : (i : Int) < 2400 := by omega
            have hw1 : IntKind.i64.wrap ((i : Int) + 1) = (i : Int) + 1 := IntWalk.i64_in _ (by omega)
            have HMI := Lib.hid (missing_walk HCA.out HFS.out.kb (by omega) 0 9728 (by omega) (by omega))
            rcases miss_law s HFS.out.kb (by omega) with ⟨hm, hall⟩ | ⟨p, c, hm, hc0, hpc, hbel, hun⟩
            · rw [hm] at HMI
              have HAL := Lib.hid hall
              clear hm hall
              go_wp2_with fail
              refine HMI.out.mono ?_
              rintro e w7 ⟨rfl, hb7⟩
              have HB7 := Lib.hid hb7
              clear hb7
              go_wp2_with fail
              go_meet
              case rel =>
                obtain ⟨a1, a2, a3, a4, a5, a6, hh⟩ := HCA.out
                exact ⟨s, HFS.out, ⟨a1, a2, a3, a4, a5, a6, hh.below HB7.out⟩, HAL.out, HKP.out.trans (Keep.of_below (S := fun _ => False) HB7.out) (fun _ _ h => h.elim)⟩
            · rw [hm] at HMI
              have hpn : p + c ≤ n := by
                have := (HFS.out.un (p + c - 1) (by omega) (hun _ (by omega) (by omega))).1
                omega
              have HXT : Hid (X T) := Lib.hid (by rw [HX.out]; exact .inr HTT.out)
              clear hm
              go_wp2_with fail
              refine HMI.out.mono ?_
              rintro e w7 ⟨rfl, hb7⟩
              have HB7 := Lib.hid hb7
              have HC7 : Hid (Ca X k s w7) := Lib.hid (by obtain ⟨a1, a2, a3, a4, a5, a6, hh⟩ := HCA.out; exact ⟨a1, a2, a3, a4, a5, a6, hh.below hb7⟩)
              have HT7 : Hid (w7.heap[T]? = some (.cells (bv txtL).toArray 5 (0, 0))) := Lib.hid ((Keep.of_below (S := fun _ => False) hb7).blk (HKP.out.blk HT6.out (fun h => h HXT.out)) id)
              clear hb7
              by_cases hkc : kk < c
              · have hkc' : (kk : Int) < (c : Int) := by omega
                have HC1 : Hid (0 < kk ∧ kk ≤ c) := Lib.hid ⟨by omega, by omega⟩
                have hd : ((txtL.drop p).take kk).length = p + kk - p := by rw [List.length_take, List.length_drop, txtL_len]; omega
                have HFW := Lib.hid (fill_walk HC7.out HFS.out.kb (by omega) HFS.out.sd HFS.out.dl p kk p (p + kk) (by omega) (by omega) (part_pc (by omega) (by omega)) (by omega) ((txtL.drop p).take kk) (2400 - p) T p hd (by omega) (txt_fo HXT.out HT7.out))
                have hd2 : ((txtL.drop p).take kk).length = kk := by omega
                rw [hd2] at HFW
                have r1 : (p : Int) + (kk : Int) ≤ (n : Int) := by omega
                have r2 : IntKind.i64.wrap ((p : Int) + (kk : Int)) = (p : Int) + (kk : Int) := IntWalk.i64_in _ (by omega)
                have r3 : ¬ (p : Int) < 0 := by omega
                have r4 : (0 : Int) ≤ (p : Int) := by omega
                have r5 : (p : Int) ≤ (p : Int) + (kk : Int) := by omega
                have r6 : (p : Int) + (kk : Int) ≤ 2400 := by omega
                have r7 : ¬ 2400 = p := by omega
                have r8 : ((p : Int) + (kk : Int) - (p : Int)).toNat = kk := by omega
                have r9 : ((p : Int) + (kk : Int)).toNat = p + kk := by omega
                have r10 : p + kk - p = kk := by omega
                have HC0 := Lib.hid hc0
                have HPC := Lib.hid hpc
                have HUN := Lib.hid hun
                have HBE := Lib.hid hbel
                clear hd hd2 hc0 hpc hun hbel
                go_wp2_with fail
                refine HFW.out.mono ?_
                rintro e w8 ⟨D', R, hfp, hR, rfl, h8, hk8⟩
                have HRL : Hid (TL X k n fr b w6 (.int .i64 ((i : Int) + 1)) w8) := Lib.hid ⟨i + 1, _, by omega, by rw [Int.natCast_add]; rfl, FS.fill HFS.out hn2 HC1.out.1 (by have := HPC.out; have := HC1.out.2; omega) (fun j h1 h2 => HUN.out j h1 (by have := HC1.out.2; omega)) hfp hR, h8, step_cov hR HC1.out.1 HC1.out.2 HCV.out HPC.out HBE.out HUN.out, (HKP.out.trans (Keep.of_below (S := fun _ => False) HB7.out) (fun _ _ h => h.elim)).trans hk8 (fun _ _ h => h)⟩
                clear hfp hR h8 hk8
                go_wp2_with fail
                go_roundw
                case rel => exact HRL.out
                case measure => simp only [intOf]; omega
              · have hkc' : ¬ (kk : Int) < (c : Int) := by omega
                have HC1 : Hid (0 < c ∧ c ≤ c) := Lib.hid ⟨by omega, by omega⟩
                have hd : ((txtL.drop p).take c).length = p + c - p := by rw [List.length_take, List.length_drop, txtL_len]; omega
                have HFW := Lib.hid (fill_walk HC7.out HFS.out.kb (by omega) HFS.out.sd HFS.out.dl p c p (p + c) (by omega) (by omega) (part_pc (by omega) (by omega)) (by omega) ((txtL.drop p).take c) (2400 - p) T p hd (by omega) (txt_fo HXT.out HT7.out))
                have hd2 : ((txtL.drop p).take c).length = c := by omega
                rw [hd2] at HFW
                have r1 : (p : Int) + (c : Int) ≤ (n : Int) := by omega
                have r2 : IntKind.i64.wrap ((p : Int) + (c : Int)) = (p : Int) + (c : Int) := IntWalk.i64_in _ (by omega)
                have r3 : ¬ (p : Int) < 0 := by omega
                have r4 : (0 : Int) ≤ (p : Int) := by omega
                have r5 : (p : Int) ≤ (p : Int) + (c : Int) := by omega
                have r6 : (p : Int) + (c : Int) ≤ 2400 := by omega
                have r7 : ¬ 2400 = p := by omega
                have r8 : ((p : Int) + (c : Int) - (p : Int)).toNat = c := by omega
                have r9 : ((p : Int) + (c : Int)).toNat = p + c := by omega
                have r10 : p + c - p = c := by omega
                have HC0 := Lib.hid hc0
                have HPC := Lib.hid hpc
                have HUN := Lib.hid hun
                have HBE := Lib.hid hbel
                clear hd hd2 hc0 hpc hun hbel
                go_wp2_with fail
                refine HFW.out.mono ?_
                rintro e w8 ⟨D', R, hfp, hR, rfl, h8, hk8⟩
                have HRL : Hid (TL X k n fr b w6 (.int .i64 ((i : Int) + 1)) w8) := Lib.hid ⟨i + 1, _, by omega, by rw [Int.natCast_add]; rfl, FS.fill HFS.out hn2 HC1.out.1 (by have := HPC.out; have := HC1.out.2; omega) (fun j h1 h2 => HUN.out j h1 (by have := HC1.out.2; omega)) hfp hR, h8, step_cov hR HC1.out.1 HC1.out.2 HCV.out HPC.out HBE.out HUN.out, (HKP.out.trans (Keep.of_below (S := fun _ => False) HB7.out) (fun _ _ h => h.elim)).trans hk8 (fun _ _ h => h)⟩
                clear hfp hR h8 hk8
                go_wp2_with fail
                go_roundw
                case rel => exact HRL.out
                case measure => simp only [intOf]; omega
          · obtain rfl : i = 2400 := by omega
            have g2 : ¬ ((2400 : Nat) : Int) < 2400 := by omega
            go_wp2_with fail
            go_meet
            case rel => exact ⟨s, HFS.out, HCA.out, fun j hj => HCV.out j (by omega) hj, HKP.out⟩
      case rest =>
        obtain ⟨s, hfs, hca, hcv, hkp⟩ := hcut
        have hsz : s.size < 2400 := by rw [hfs.size]; exact fsz_le hn2 hfr2 hb3
        have HMI := Lib.hid (missing_walk hca hfs.kb (by omega) 0 9728 (by omega) (by omega))
        rcases miss_law s hfs.kb (by omega) with ⟨hm, _⟩ | ⟨p, c, _, h0, hpc, _, hun⟩
        case inr => exact absurd (hcv p (by omega)) (hun p (Nat.le_refl _) (by omega))
        rw [hm] at HMI
        have HXT : Hid (X T) := Lib.hid (by rw [HX.out]; exact .inr HTT.out)
        have HTC := Lib.hid (hkp.blk HT6.out (fun h => h HXT.out))
        have HKW := Lib.hid hkp
        have HCC := Lib.hid hca
        have HW0 := Lib.hid (fun i (hi : i < s.size) => hfs.ok i hi (hcv i hi))
        have HSD := Lib.hid hfs.sd
        obtain ⟨W6, hW6⟩ : ∃ W : World, W = wc := ⟨_, rfl⟩
        subst hW6
        clear hm hfs hca hcv hkp
        go_wp2_with fail
        refine HMI.out.mono ?_
        rintro e w7 ⟨rfl, hb7⟩
        have HB7 := Lib.hid hb7
        have HC7 : Hid (Ca X k s w7) := Lib.hid (by obtain ⟨a1, a2, a3, a4, a5, a6, hh⟩ := HCC.out; exact ⟨a1, a2, a3, a4, a5, a6, hh.below hb7⟩)
        have HRD := Lib.hid (read_walk HC7.out (by omega) HSD.out 0 9728 (by omega) (by omega))
        clear hb7
        go_wp2_with fail
        refine HRD.out.mono ?_
        rintro e w8 ⟨v, rfl, hbn⟩
        obtain ⟨hl, hg⟩ := read_all HSD.out (by omega)
        obtain ⟨x, hx⟩ : ∃ x, x = readP s 0 9728 := ⟨_, rfl⟩
        rw [← hx] at hbn hl hg
        have HHX := Lib.hid hx
        obtain ⟨A8, c8, rfl, _⟩ := Rd.of_own hbn.own
        have HSL := Lib.hid (Sl.of_own hbn.own)
        have HBE := Lib.hid hbn.be
        rw [hl] at HSL ⊢
        have HXG : Hid (∀ i, i < s.size → x[i]? = some (want n fr b i)) := Lib.hid (fun i hi => by rw [hg i hi]; exact HW0.out i hi)
        have HSZ : Hid _ := Lib.hid (size_walk (X := X) (k := k) (s := s) (w := w8) (by obtain ⟨a1, a2, a3, a4, a5, a6, hh⟩ := HC7.out; exact ⟨a1, a2, a3, a4, a5, a6, hh.below HBE.out⟩))
        clear hx hbn hl hg
        go_wp2_with fail
        refine HSZ.out.mono ?_
        rintro e W ⟨rfl, hWW⟩
        have hWW' := hWW.symm
        subst hWW'
        clear hWW
        have HT8 := Lib.hid ((Keep.of_below (S := fun _ => False) HBE.out).blk ((Keep.of_below (S := fun _ => False) HB7.out).blk HTC.out id) id)
        have B8 : Hid (Below w.heap.size w w8) := Lib.hid ((((B6.out.trans (HKW.out.below (fun j hj => Nat.le_of_not_lt (fun h => hj (by rw [HX.out]; exact .inl h))) B6.out.size)).trans (HB7.out.mono (Nat.le_trans B6.out.size HKW.out.size)))).trans (HBE.out.mono (Nat.le_trans (Nat.le_trans B6.out.size HKW.out.size) HB7.out.size)))
        obtain ⟨z, hz⟩ : ∃ z, z = s.size := ⟨_, rfl⟩
        rw [← hz] at HSL HXG hsz ⊢
        have HZ := Lib.hid hz
        clear hz
        go_upto_region 30 with fail
        go_loopw [23] (fun v wr => TR z w8 v wr) (fun v _ => z - (intOf v).toNat)
        case atStart => exact ⟨0, by omega, rfl, Below.refl _ _⟩
        case round =>
          obtain ⟨i, hi, rfl, hb⟩ := hrel
          have HBR := Lib.hid hb
          clear hb
          by_cases hlt : i < z
          · have z1 : (i : Int) < (z : Int) := by omega
            have z0 : (0 : Int) ≤ (i : Int) := by omega
            have z2 : IntKind.i64.wrap ((i : Int) + 1) = (i : Int) + 1 := IntWalk.i64_in _ (by omega)
            have z3 : (i : Int) < 2400 := by omega
            have z4 : IntKind.i64.wrap ((fr : Int) + (b.length : Int)) = (fr : Int) + (b.length : Int) := IntWalk.i64_in _ (by omega)
            have hx := HXG.out i hlt
            by_cases hin : fr ≤ i ∧ i < fr + b.length
            · have hq := want_in (n := n) hin
              obtain ⟨q, hqq⟩ : ∃ q, q = want n fr b i := ⟨_, rfl⟩
              rw [← hqq] at hq hx
              obtain ⟨g8, o8, rfl, _, c8x⟩ := sl_row (HSL.out.below HBR.out) (bv_get hx)
              obtain ⟨bb, bo, rfl, _, cb⟩ := sl_row ((sl_arg HA.out HNE.out (by omega) HB.out).below ((B8.out.trans (HBR.out.mono B8.out.size)))) (bv_get hq)
              have i1 : (0 : Int) < (b.length : Int) := by omega
              have i2 : (fr : Int) ≤ (i : Int) := by omega
              have i3 : (i : Int) < (fr : Int) + (b.length : Int) := by omega
              have i4 : IntKind.i64.wrap ((i : Int) - (fr : Int)) = (i : Int) - (fr : Int) := IntWalk.i64_in _ (by omega)
              have i5 : (0 : Int) ≤ (i : Int) - (fr : Int) := by omega
              have i6 : (i : Int) - (fr : Int) < (b.length : Int) := by omega
              have i7 : ((i : Int) - (fr : Int)).toNat = i - fr := by omega
              clear hq hqq hx
              by_cases hn : i < n
              · have n1 : (i : Int) < (n : Int) := by omega
                have ct := txt_cell (i := i) ((Keep.of_below (S := fun _ => False) HBR.out).blk HT8.out id) (by omega)
                clear hin
                go_wp2_with fail
                go_roundw
                case rel => exact ⟨i + 1, by omega, by rw [Int.natCast_add]; rfl, HBR.out⟩
                case measure => simp only [intOf]; omega
              · have n1 : ¬ (i : Int) < (n : Int) := by omega
                clear hin
                go_wp2_with fail
                go_roundw
                case rel => exact ⟨i + 1, by omega, by rw [Int.natCast_add]; rfl, HBR.out⟩
                case measure => simp only [intOf]; omega
            · by_cases hn : i < n
              · rw [want_txt hin hn] at hx
                obtain ⟨g8, o8, rfl, _, c8x⟩ := sl_row (HSL.out.below HBR.out) (bv_get hx)
                have n1 : (i : Int) < (n : Int) := by omega
                have ct := txt_cell (i := i) ((Keep.of_below (S := fun _ => False) HBR.out).blk HT8.out id) (by omega)
                clear hx
                by_cases h1 : 0 < b.length
                · have i1 : (0 : Int) < (b.length : Int) := by omega
                  by_cases h2 : fr ≤ i
                  · have i2 : (fr : Int) ≤ (i : Int) := by omega
                    have i3 : ¬ (i : Int) < (fr : Int) + (b.length : Int) := by omega
                    clear hin
                    go_wp2_with fail
                    go_roundw
                    case rel => exact ⟨i + 1, by omega, by rw [Int.natCast_add]; rfl, HBR.out⟩
                    case measure => simp only [intOf]; omega
                  · have i2 : ¬ (fr : Int) ≤ (i : Int) := by omega
                    clear hin
                    go_wp2_with fail
                    go_roundw
                    case rel => exact ⟨i + 1, by omega, by rw [Int.natCast_add]; rfl, HBR.out⟩
                    case measure => simp only [intOf]; omega
                · have i1 : ¬ (0 : Int) < (b.length : Int) := by omega
                  clear hin
                  go_wp2_with fail
                  go_roundw
                  case rel => exact ⟨i + 1, by omega, by rw [Int.natCast_add]; rfl, HBR.out⟩
                  case measure => simp only [intOf]; omega
              · rw [want_zero hin hn] at hx
                obtain ⟨g8, o8, rfl, _, c8x⟩ := sl_row (HSL.out.below HBR.out) (bv_get hx)
                have c8x : wr.cell? ⟨g8, o8 + i, none⟩ = some (.int .u8 0) := c8x
                have n1 : ¬ (i : Int) < (n : Int) := by omega
                clear hx
                by_cases h1 : 0 < b.length
                · have i1 : (0 : Int) < (b.length : Int) := by omega
                  by_cases h2 : fr ≤ i
                  · have i2 : (fr : Int) ≤ (i : Int) := by omega
                    have i3 : ¬ (i : Int) < (fr : Int) + (b.length : Int) := by omega
                    clear hin
                    go_wp2_with fail
                    go_roundw
                    case rel => exact ⟨i + 1, by omega, by rw [Int.natCast_add]; rfl, HBR.out⟩
                    case measure => simp only [intOf]; omega
                  · have i2 : ¬ (fr : Int) ≤ (i : Int) := by omega
                    clear hin
                    go_wp2_with fail
                    go_roundw
                    case rel => exact ⟨i + 1, by omega, by rw [Int.natCast_add]; rfl, HBR.out⟩
                    case measure => simp only [intOf]; omega
                · have i1 : ¬ (0 : Int) < (b.length : Int) := by omega
                  clear hin
                  go_wp2_with fail
                  go_roundw
                  case rel => exact ⟨i + 1, by omega, by rw [Int.natCast_add]; rfl, HBR.out⟩
                  case measure => simp only [intOf]; omega
          · obtain rfl : i = z := by omega
            have z1 : ¬ (i : Int) < (i : Int) := by omega
            go_wp2_with fail
            go_ret
            exact ⟨rfl, B8.out.trans (HBR.out.mono B8.out.size)⟩
end Go.Proofs.Ytpgjjhpnemcgdaa
