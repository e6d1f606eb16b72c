/- Words and contracts that the proofs of this set use; each part says what it holds. -/
import Derived.Lib.SlBytesConst
import Derived.Test.YtehfoopefefpnaaGreatSk0
import Derived.Test.YtehfoopefefpnaaGreatShelfS
/- bytes.Equal; package super. -/
set_option linter.unusedSimpArgs false
set_option linter.unusedVariables false
namespace Go.Proofs.YtehfoopefefpnaaGreat
open Go.RowKit

attribute [local go_sem ↓] Go.wp_at_zero Go.wp_at_succ
theorem bytesIn_of {w : World} {A : Option Addr} {c : Nat} {d : List UInt8} (h : Sl w 1 (.slice A d.length c) d.length (bv d)) : Lib.BytesIn w A d.length (d.map fun b => (b.toNat : Int)) := by
  intro h0
  obtain ⟨x, hx⟩ : ∃ x, d[0]? = some x := ⟨d[0], List.getElem?_eq_getElem h0⟩
  obtain ⟨b, o, rfl, _⟩ := bv_at h hx
  refine ⟨b, o, rfl, fun i hi => ?_⟩
  obtain ⟨y, hy⟩ : ∃ y, d[i]? = some y := ⟨d[i], List.getElem?_eq_getElem hi⟩
  obtain ⟨b', o', e, _, hc⟩ := bv_at h hy
  injection e with e
  injection e with e1 e2
  subst e1 e2
  rw [hc, List.getD_eq_getElem?_getD, List.getElem?_map, hy]
  rfl
theorem bytesOf_map (d : List UInt8) : Lib.bytesOf (d.map fun b => (b.toNat : Int)) = d := by
  unfold Lib.bytesOf
  rw [List.map_map]
  conv => rhs; rw [← List.map_id d]
  apply List.map_congr_left
  intro b _
  simp
theorem equal_walk (d e : List UInt8) (A A' : Option Addr) (c c' : Nat) (w : World) (h : Sl w 1 (.slice A d.length c) d.length (bv d)) (h' : Sl w 1 (.slice A' e.length c') e.length (bv e)) :
    Calls Tryz.prog 96 #[.slice A d.length c, .slice A' e.length c'] w fun r w' => r = .returned (.bool (d == e)) ∧ w' = w := by
  have := Tryz.bytes_Equal_all A A' d.length c e.length c' (d.map fun b => (b.toNat : Int)) (e.map fun b => (b.toNat : Int)) w (by simp) (by simp) (bytesIn_of h) (bytesIn_of h')
  rw [bytesOf_map, bytesOf_map] at this
  exact this
/-! ### super -/
structure SuS where
  sectors : Nat
  epoch : Nat
  gens : Nat
def SuS.ok (s : SuS) : Prop := 64 ≤ s.sectors ∧ s.sectors ≤ 1024 ∧ s.epoch ≤ 1073741824 ∧ s.gens ≤ 1073741824
instance (s : SuS) : Decidable s.ok := by unfold SuS.ok; infer_instance
abbrev SuS.val (s : SuS) : Value := .agg #[.int .i64 (s.sectors : Int), .int .i64 (s.epoch : Int), .int .i64 (s.gens : Int)]
def superE (s : SuS) : List UInt8 := sealP ([67, 79, 80, 89] ++ le s.sectors 4 ++ le s.epoch 4 ++ le s.gens 4 ++ List.replicate 108 0)
theorem superE_len (s : SuS) : (superE s).length = 128 := by unfold superE; rw [sealP_len]; simp [le_len]
theorem sound_yes (s : SuS) (h : s.ok) (w : World) : Calls Tryz.prog 73 #[s.val] w fun e w' => e = .returned (.bool true) ∧ Below w.heap.size w w' := by
  obtain ⟨a, b, c⟩ := s
  obtain ⟨h1, h2, h3, h4⟩ := h
  replace h1 : 64 ≤ a := h1
  replace h2 : a ≤ 1024 := h2
  replace h3 : b ≤ 1073741824 := h3
  replace h4 : c ≤ 1073741824 := h4
  have q1 : ¬ (a : Int) < 64 := by omega
  have q2 : ¬ (1024 : Int) < (a : Int) := by omega
  have q3 : (0 : Int) ≤ (b : Int) := by omega
  have q4 : (b : Int) ≤ 1073741824 := by omega
  have q5 : (0 : Int) ≤ (c : Int) := by omega
  have q6 : (c : Int) ≤ 1073741824 := by omega
  go_enter Tryz.func73, Tryz.ntmps73
  go_wp2
  go_ret
  exact ⟨rfl, (Below.refl _ _).alloc (Nat.le_refl _) _⟩
theorem sound_no (s : SuS) (h : ¬ s.ok) (w : World) : Calls Tryz.prog 73 #[s.val] w fun e w' => e = .returned (.bool false) ∧ Below w.heap.size w w' := by
  obtain ⟨a, b, c⟩ := s
  replace h : ¬ (64 ≤ a ∧ a ≤ 1024 ∧ b ≤ 1073741824 ∧ c ≤ 1073741824) := h
  have q3 : (0 : Int) ≤ (b : Int) := by omega
  have q5 : (0 : Int) ≤ (c : Int) := by omega
  by_cases h1 : a < 64
  · have q1 : (a : Int) < 64 := by omega
    go_enter Tryz.func73, Tryz.ntmps73
    go_wp2
    go_ret
    exact ⟨rfl, (Below.refl _ _).alloc (Nat.le_refl _) _⟩
  · have q1 : ¬ (a : Int) < 64 := by omega
    by_cases h2 : 1024 < a
    · have q2 : (1024 : Int) < (a : Int) := by omega
      clear h
      go_enter Tryz.func73, Tryz.ntmps73
      go_wp2
      go_ret
      exact ⟨rfl, (Below.refl _ _).alloc (Nat.le_refl _) _⟩
    · have q2 : ¬ (1024 : Int) < (a : Int) := by omega
      by_cases h3 : b ≤ 1073741824
      · have q4 : (b : Int) ≤ 1073741824 := by omega
        have q6 : ¬ (c : Int) ≤ 1073741824 := by omega
        clear h
        go_enter Tryz.func73, Tryz.ntmps73
        go_wp2
        go_ret
        exact ⟨rfl, (Below.refl _ _).alloc (Nat.le_refl _) _⟩
      · have q4 : ¬ (b : Int) ≤ 1073741824 := by omega
        clear h
        go_enter Tryz.func73, Tryz.ntmps73
        go_wp2
        go_ret
        exact ⟨rfl, (Below.refl _ _).alloc (Nat.le_refl _) _⟩
end Go.Proofs.YtehfoopefefpnaaGreat
/- Package super: Encode. -/
set_option linter.unusedSimpArgs false
set_option linter.unusedVariables false
namespace Go.Proofs.YtehfoopefefpnaaGreat
open Go.RowKit

attribute [local go_sem ↓] Go.wp_at_zero Go.wp_at_succ
/-- A constant's bytes. -/
theorem const_nb (B : Nat) (w : World) (l : List UInt8) (fr : Nat × Nat) (hB : B ≤ w.heap.size) : NB B (w.alloc (.cells (bv l).toArray 5 fr)) (some ⟨w.heap.size, 0, none⟩) l.length l := by
  have hb := blk_new w (.cells (bv l).toArray 5 fr)
  refine ⟨⟨_, _, rfl, .inr ⟨_, rfl, fun j u hu => ?_⟩, (fun e => by cases e), Nat.le_refl _, by rw [bv_length, Nat.mul_one]⟩, fun j e => ?_⟩
  · rw [Addr.add_lit, Nat.zero_add, blk_cells hb, List.getElem?_toArray]
    exact hu
  · have e : w.heap.size = j := Option.some.inj e
    subst e
    exact ⟨hB, _, _, hb⟩
/-- The bytes so far: the magic word, and the first numbers. -/
def supB (s : SuS) : Nat → List UInt8
  | 0 => [67, 79, 80, 89]
  | 1 => [67, 79, 80, 89] ++ le s.sectors 4
  | 2 => [67, 79, 80, 89] ++ le s.sectors 4 ++ le s.epoch 4
  | _ => [67, 79, 80, 89] ++ le s.sectors 4 ++ le s.epoch 4 ++ le s.gens 4
def SEI (s : SuS) (w : World) (v4 v19 : Value) (W : World) : Prop := ∃ (i : Nat) (A : Option Addr) (c : Nat) (d : List UInt8), i ≤ 3 ∧ d = supB s i ∧ v19 = .int .i64 (i : Int) ∧ v4 = .slice A d.length c ∧ AB w.heap.size W A c d ∧ Below w.heap.size w W
set_option maxRecDepth 100000 in
set_option maxHeartbeats 4000000 in
theorem sencode_walk (s : SuS) (h : s.ok) (w : World) : Calls Tryz.prog 43 #[s.val] w fun e w' => ∃ A' d, d = superE s ∧ e = .returned (.tuple #[.slice A' d.length d.length, .int .i64 0]) ∧ NB w.heap.size w' A' d.length d ∧ Below w.heap.size w w' := by
  have HS := Lib.hid (fun W => sound_yes s h W)
  obtain ⟨h1, h2, h3, h4⟩ := h
  obtain ⟨s0, hs0⟩ : ∃ s0, s0 = s := ⟨_, rfl⟩
  obtain ⟨a, b, c⟩ := s
  replace h1 : 64 ≤ a := h1
  replace h2 : a ≤ 1024 := h2
  replace h3 : b ≤ 1073741824 := h3
  replace h4 : c ≤ 1073741824 := h4
  rw [← hs0] at HS ⊢
  have hv : s0.val = .agg #[.int .i64 (a : Int), .int .i64 (b : Int), .int .i64 (c : Int)] := by rw [hs0]
  rw [hv] at HS ⊢
  have HS0 := Lib.hid hs0
  have w1b := Lib.hid (show Below w.heap.size w (w.alloc (.cells #[.int .i64 (a : Int), .int .i64 (b : Int), .int .i64 (c : Int)] 88)) from (Below.refl _ _).alloc (Nat.le_refl _) _)
  clear hs0 hv
  go_enter Tryz.func43, Tryz.ntmps43
  go_wp2_with fail
  refine (HS.out _).mono ?_
  rintro e w2 ⟨rfl, hb2⟩
  have hc := Keep.of_below (S := fun _ => False) hb2
  have c0 : w2.cell? ⟨w.heap.size, 0, none⟩ = some (.int .i64 (a : Int)) := hc.cell (blk_cell (blk_new w _) rfl) id
  have c1 : w2.cell? ⟨w.heap.size, 1, none⟩ = some (.int .i64 (b : Int)) := hc.cell (blk_cell (blk_new w _) rfl) id
  have c2 : w2.cell? ⟨w.heap.size, 2, none⟩ = some (.int .i64 (c : Int)) := hc.cell (blk_cell (blk_new w _) rfl) id
  have B2 := Lib.hid (w1b.out.trans (hb2.mono w1b.out.size))
  clear hb2 hc
  have hcv := fun (w : World) (C : Array Value) (n c : Nat) => Lib.run_convert_bytes_const (P := Tryz.prog) w 22 5 C n c Tryz.underlying22 Tryz.underlying5
  go_upto_region 4 with fail
  obtain ⟨w3, hw3⟩ : ∃ w3, w3 = w2.alloc (.cells #[.int .u8 67, .int .u8 79, .int .u8 80, .int .u8 89] 5 (4, 5)) := ⟨_, rfl⟩
  rw [← hw3]
  have hb3 : Below w2.heap.size w2 w3 := by rw [hw3]; exact (Below.refl _ w2).alloc (Nat.le_refl _) _
  have hown := const_nb w.heap.size w2 [67, 79, 80, 89] (4, 5) B2.out.size
  rw [show #[.int .u8 67, .int .u8 79, .int .u8 80, .int .u8 89] = (bv [67, 79, 80, 89]).toArray from rfl] at hw3
  rw [← hw3] at hown
  have hk3 := Keep.of_below (S := fun _ => False) hb3
  replace c0 := hk3.cell c0 id
  replace c1 := hk3.cell c1 id
  replace c2 := hk3.cell c2 id
  have hob : AB w.heap.size w3 (some ⟨w2.heap.size, 0, none⟩) 4 (supB s0 0) := hown.ab
  have HST : Hid (SEI s0 w (.slice (some ⟨w2.heap.size, 0, none⟩) 4 4) (.int .i64 0) w3) := Lib.hid ⟨0, _, 4, supB s0 0, by omega, rfl, rfl, rfl, hob, B2.out.trans (hb3.mono B2.out.size)⟩
  clear hw3 hb3 hown hk3 hob hcv
  go_wp2_with fail
  go_loopw [4, 19] (fun v4 v19 wr => SEI s0 w v4 v19 wr) (fun _ v _ => 3 - (intOf v).toNat)
  case atStart => exact HST.out
  case round =>
    obtain ⟨i, A4, c4, d, hi, hd, rfl, rfl, hab, hbw⟩ := hrel
    have HAB0 := Lib.hid hab
    have HBW := Lib.hid hbw
    have hdl : d.length = 4 + 4 * i := by rw [hd, HS0.out]; rcases (by omega : i = 0 ∨ i = 1 ∨ i = 2 ∨ i = 3) with e | e | e | e <;> subst e <;> simp [supB, le_len]
    have HD := Lib.hid hd
    have HAB : Hid (AB w.heap.size wr A4 c4 (supB s0 i)) := Lib.hid (by rw [← hd]; exact hab)
    clear hd hab hbw
    rcases (by omega : i = 0 ∨ i = 1 ∨ i = 2 ∨ i = 3) with hi0 | hi1 | hi2 | hi3
    · have hix : ∀ w, (Instr.index 139 (.agg #[.int .i64 (a : Int), .int .i64 (b : Int), .int .i64 (c : Int)]) (.int .i64 (i : Int))).run Tryz.prog w = .ok (.int .i64 (a : Int)) w := fun _ => by subst hi0; kernel_rfl
      have HNW := Lib.hid (num_walk (supB s0 i) A4 c4 a wr HAB.out.nb.sl (by rw [← HD.out, hdl]; omega) (by omega))
      rw [← HD.out] at HNW
      have HI := Lib.hid hi0
      have g1 : (i : Int) < 3 := by omega
      have g2 : IntKind.i64.wrap ((i : Int) + 1) = (i : Int) + 1 := IntWalk.i64_in _ (by omega)
      clear hdl hi0
      go_wp2_with fail
      refine HNW.out.mono ?_
      rintro e w5 ⟨A5, d5, hd5, rfl, hnb, hbe⟩
      have HR : Hid (SEI s0 w (.slice A5 d5.length d5.length) (.int .i64 ((i : Int) + 1)) w5) := Lib.hid ⟨i + 1, A5, d5.length, d5, by have := HI.out; omega, by rw [hd5, HD.out, HS0.out, HI.out]; rfl, by rw [Int.natCast_add]; rfl, rfl, (hnb.mono HBW.out.size).ab, HBW.out.trans (hbe.mono HBW.out.size)⟩
      clear hd5 hnb hbe
      go_wp2_with fail
      go_roundw
      case rel => exact HR.out
      case measure => simp only [intOf]; omega
    · have hix : ∀ w, (Instr.index 139 (.agg #[.int .i64 (a : Int), .int .i64 (b : Int), .int .i64 (c : Int)]) (.int .i64 (i : Int))).run Tryz.prog w = .ok (.int .i64 (b : Int)) w := fun _ => by subst hi1; kernel_rfl
      have HNW := Lib.hid (num_walk (supB s0 i) A4 c4 b wr HAB.out.nb.sl (by rw [← HD.out, hdl]; omega) (by omega))
      rw [← HD.out] at HNW
      have HI := Lib.hid hi1
      have g1 : (i : Int) < 3 := by omega
      have g2 : IntKind.i64.wrap ((i : Int) + 1) = (i : Int) + 1 := IntWalk.i64_in _ (by omega)
      clear hdl hi1
      go_wp2_with fail
      refine HNW.out.mono ?_
      rintro e w5 ⟨A5, d5, hd5, rfl, hnb, hbe⟩
      have HR : Hid (SEI s0 w (.slice A5 d5.length d5.length) (.int .i64 ((i : Int) + 1)) w5) := Lib.hid ⟨i + 1, A5, d5.length, d5, by have := HI.out; omega, by rw [hd5, HD.out, HS0.out, HI.out]; rfl, by rw [Int.natCast_add]; rfl, rfl, (hnb.mono HBW.out.size).ab, HBW.out.trans (hbe.mono HBW.out.size)⟩
      clear hd5 hnb hbe
      go_wp2_with fail
      go_roundw
      case rel => exact HR.out
      case measure => simp only [intOf]; omega
    · have hix : ∀ w, (Instr.index 139 (.agg #[.int .i64 (a : Int), .int .i64 (b : Int), .int .i64 (c : Int)]) (.int .i64 (i : Int))).run Tryz.prog w = .ok (.int .i64 (c : Int)) w := fun _ => by subst hi2; kernel_rfl
      have HNW := Lib.hid (num_walk (supB s0 i) A4 c4 c wr HAB.out.nb.sl (by rw [← HD.out, hdl]; omega) (by omega))
      rw [← HD.out] at HNW
      have HI := Lib.hid hi2
      have g1 : (i : Int) < 3 := by omega
      have g2 : IntKind.i64.wrap ((i : Int) + 1) = (i : Int) + 1 := IntWalk.i64_in _ (by omega)
      clear hdl hi2
      go_wp2_with fail
      refine HNW.out.mono ?_
      rintro e w5 ⟨A5, d5, hd5, rfl, hnb, hbe⟩
      have HR : Hid (SEI s0 w (.slice A5 d5.length d5.length) (.int .i64 ((i : Int) + 1)) w5) := Lib.hid ⟨i + 1, A5, d5.length, d5, by have := HI.out; omega, by rw [hd5, HD.out, HS0.out, HI.out]; rfl, by rw [Int.natCast_add]; rfl, rfl, (hnb.mono HBW.out.size).ab, HBW.out.trans (hbe.mono HBW.out.size)⟩
      clear hd5 hnb hbe
      go_wp2_with fail
      go_roundw
      case rel => exact HR.out
      case measure => simp only [intOf]; omega
    · have hdl16 : d.length = 16 := by omega
      obtain ⟨m, hm⟩ : ∃ m : Nat, m = 108 := ⟨_, rfl⟩
      have e0 : IntKind.i64.wrap (124 - (d.length : Int)) = (m : Int) := by rw [hdl16, hm]; rfl
      have hB4 : w.heap.size ≤ wr.heap.size := HBW.out.size
      have HDL3 : Hid (d = supB s0 3) := Lib.hid (by rw [HD.out, hi3])
      have h16 : 0 < d.length ∧ 0 < m ∧ d.length + m ≤ 1000000000 := by omega
      have g1 : ¬ (i : Int) < 3 := by omega
      have H124 : Hid (d.length + m = 124) := Lib.hid (by omega)
      have HM := Lib.hid hm
      clear hdl hdl16 hm
      go_wp2_with (at_builtin; go_must (refine wpList_zerosB rfl rfl (n := d.length) (m := m) rfl rfl rfl HAB0.out h16.1 h16.2.1 hB4 h16.2.2 ?_))
      intro A6 c6 w6 hab6
      obtain ⟨D, hD⟩ : ∃ D, D = d ++ List.replicate m 0 := ⟨_, rfl⟩
      rw [← hD] at hab6
      have hl6 : D.length = d.length + m := by rw [hD]; simp
      rw [← hl6]
      have HSE := Lib.hid (sealed_walk D A6 c6 w6 hab6.ab.nb.sl (by have := H124.out; omega))
      have HB6 := Lib.hid hab6.be
      have HDD := Lib.hid hD
      clear hab6 hl6 hD
      go_wp2_with fail
      refine HSE.out.mono ?_
      rintro e w7 ⟨A7, d7, hd7, rfl, hnb, hbe⟩
      have HD7 : Hid (d7 = superE s0) := Lib.hid (by rw [hd7, HDD.out, HDL3.out, HM.out]; unfold superE; rw [HS0.out]; rfl)
      have HB7 := Lib.hid (HBW.out.trans (HB6.out.trans (hbe.mono (Nat.le_trans hB4 HB6.out.size))))
      have HNB := Lib.hid (hnb.mono (Nat.le_trans hB4 HB6.out.size))
      clear hd7 hnb hbe
      go_wp2
      go_ret2
      exact ⟨A7, d7, HD7.out, rfl, HNB.out, HB7.out⟩
theorem sencode_no (s : SuS) (h : ¬ s.ok) (w : World) : Calls Tryz.prog 43 #[s.val] w fun e w' => e = .returned (.tuple #[.slice none 0 0, .int .i64 2]) ∧ Below w.heap.size w w' := by
  have HS := Lib.hid (fun W => sound_no s h W)
  obtain ⟨a, b, c⟩ := s
  have w1b := Lib.hid (show Below w.heap.size w (w.alloc (.cells #[.int .i64 (a : Int), .int .i64 (b : Int), .int .i64 (c : Int)] 88)) from (Below.refl _ _).alloc (Nat.le_refl _) _)
  clear h
  go_enter Tryz.func43, Tryz.ntmps43
  go_wp2_with fail
  refine (HS.out _).mono ?_
  rintro e w2 ⟨rfl, hb2⟩
  have B2 := Lib.hid (w1b.out.trans (hb2.mono w1b.out.size))
  clear hb2
  go_wp2
  go_ret2
  exact ⟨rfl, B2.out⟩
end Go.Proofs.YtehfoopefefpnaaGreat
/- Package super: Decode. -/
set_option linter.unusedSimpArgs false
set_option linter.unusedVariables false
namespace Go.Proofs.YtehfoopefefpnaaGreat
open Go.RowKit

attribute [local go_sem ↓] Go.wp_at_zero Go.wp_at_succ
def numsS (b : List UInt8) : SuS := ⟨unle ((b.drop 4).take 4), unle (((b.drop 4).drop 4).take 4), unle ((((b.drop 4).drop 4).drop 4).take 4)⟩
def decS (b : List UInt8) : Option SuS := if (numsS b).ok ∧ superE (numsS b) = b then some (numsS b) else none
theorem take_le (n : Nat) (l : List UInt8) : (le n 4 ++ l).take 4 = le n 4 := by rw [List.take_append_of_le_length (by rw [le_len]; exact Nat.le_refl _), List.take_of_length_le (by rw [le_len]; exact Nat.le_refl _)]
theorem drop_le (n : Nat) (l : List UInt8) : (le n 4 ++ l).drop 4 = l := by rw [List.drop_append_of_le_length (by rw [le_len]; exact Nat.le_refl _), List.drop_of_length_le (by rw [le_len]; exact Nat.le_refl _), List.nil_append]
theorem drop_magic (l : List UInt8) : ([67, 79, 80, 89] ++ l).drop 4 = l := rfl
theorem decS_enc (s : SuS) (h : s.ok) : decS (superE s) = some s := by
  have hn : numsS (superE s) = s := by
    obtain ⟨a, b, c⟩ := s
    obtain ⟨h1, h2, h3, h4⟩ := h
    have e : superE ⟨a, b, c⟩ = [67, 79, 80, 89] ++ (le a 4 ++ (le b 4 ++ (le c 4 ++ (List.replicate 108 0 ++ le (sumP ([67, 79, 80, 89] ++ le a 4 ++ le b 4 ++ le c 4 ++ List.replicate 108 0)) 4)))) := by unfold superE sealP; simp only [List.append_assoc]
    unfold numsS
    rw [e, drop_magic, take_le, drop_le, take_le, drop_le, take_le, unle_le _ _ (by simp only at h2; omega), unle_le _ _ (by simp only at h3; omega), unle_le _ _ (by simp only at h4; omega)]
  unfold decS
  rw [hn, if_pos ⟨h, rfl⟩]
theorem decS_some {b : List UInt8} {s : SuS} (h : decS b = some s) : s.ok ∧ superE s = b := by
  unfold decS at h
  split at h
  · rename_i hh
    obtain rfl := Option.some.inj h
    exact hh
  · cases h
theorem keep_set (w : World) (k o : Nat) (v : Value) : Keep (fun j => j = k) w (w.setCell ⟨k, o, none⟩ v) := (Keep.refl (fun j => j = k) w).setCell (p := ⟨k, o, none⟩) (fun _ => rfl) v
theorem set3 {w : World} {k : Nat} {t : TypeId} {x0 x1 x2 : Value} (h : w.heap[k]? = some (.cells #[x0, x1, x2] t (0, 0))) (y0 y1 y2 : Value) : (((w.setCell ⟨k, 0, none⟩ y0).setCell ⟨k, 1, none⟩ y1).setCell ⟨k, 2, none⟩ y2).heap[k]? = some (.cells #[y0, y1, y2] t (0, 0)) ∧ Keep (fun j => j = k) w (((w.setCell ⟨k, 0, none⟩ y0).setCell ⟨k, 1, none⟩ y1).setCell ⟨k, 2, none⟩ y2) := by
  have := blk_set (j := 2) (blk_set (j := 1) (blk_set (j := 0) h y0) y1) y2
  exact ⟨by simpa using this, ((keep_set _ _ _ _).trans (keep_set _ _ _ _) (fun _ _ h => h)).trans (keep_set _ _ _ _) (fun _ _ h => h)⟩
theorem FO.keep {S : Nat → Prop} {k B : Nat} {w w' : World} {d : List UInt8} (h : FO k B w d) (hk : Keep S w w') (hS : ¬ S k) (hS2 : ∀ j cs fr, w.heap[j]? = some (.cells cs 5 fr) → ¬ S j) : FO k B w' d := by
  obtain ⟨⟨A, c, hb, hnb⟩⟩ := h
  exact ⟨A, c, hk.blk hb hS, hnb.keep hk (fun j e => by obtain ⟨_, cs, fr, hj⟩ := hnb.fresh j e; exact hS2 j cs fr hj)⟩
def SDecR (b : List UInt8) (w : World) (e : Ending) (w' : World) : Prop := Below w.heap.size w w' ∧ match decS b with
  | some s => e = .returned (.tuple #[s.val, .int .i64 0])
  | none => e = .returned (.tuple #[.agg #[.int .i64 0, .int .i64 0, .int .i64 0], .int .i64 2])
set_option maxRecDepth 100000 in
set_option maxHeartbeats 4000000 in
theorem sdecode_walk (b : List UInt8) (A : Option Addr) (c : Nat) (w : World) (h : Sl w 1 (.slice A b.length c) b.length (bv b)) (hb : b.length = 128) : Calls Tryz.prog 60 #[.slice A 128 c] w (SDecR b w) := by
  obtain ⟨x, hx⟩ : ∃ x, b[0]? = some x := ⟨b[0], List.getElem?_eq_getElem (by omega)⟩
  obtain ⟨g, o, rfl, hg, _⟩ := bv_at h hx
  have hcap : 128 ≤ c := by obtain ⟨_, _, e, _, _, hc, _⟩ := h; injection e with _ _ e; subst e; omega
  have w0b : Below w.heap.size w (w.alloc (.cells #[.int .i64 0, .int .i64 0, .int .i64 0] 88)) := (Below.refl _ _).alloc (Nat.le_refl _) _
  obtain ⟨w0, hw0⟩ : ∃ w0, w0 = w.alloc (.cells #[.int .i64 0, .int .i64 0, .int .i64 0] 88) := ⟨_, rfl⟩
  rw [← hw0] at w0b
  have hx0 : w0.heap[w.heap.size]? = some (.cells #[.int .i64 0, .int .i64 0, .int .i64 0] 88 (0, 0)) := by rw [hw0]; exact blk_new w _
  have hz0 : w0.heap.size = w.heap.size + 1 := by rw [hw0]; simp
  have hd4 : Sl w0 1 (.slice (some ⟨g, o + 4, none⟩) (b.drop 4).length (c - 4)) (b.drop 4).length (bv (b.drop 4)) := by
    obtain ⟨A', c', e, hr, _, hc, hl⟩ := h.below w0b
    injection e with e1 _ e2
    subst e1 e2
    have := hr.drop 4
    refine ⟨_, _, rfl, ?_, (fun e => by cases e), by rw [List.length_drop]; omega, by rw [bv_length, Nat.mul_one]⟩
    simpa [bv] using this
  have hl4 : (b.drop 4).length = 124 := by rw [List.length_drop]; omega
  have HRD := Lib.hid (read_walk (b.drop 4) (some ⟨g, o + 4, none⟩) (c - 4) w0 hd4 (by omega))
  rw [hl4] at HRD
  have HW0 := Lib.hid hw0
  have HX0 := Lib.hid hx0
  have B0 := Lib.hid w0b
  have HSL := Lib.hid h
  have HB := Lib.hid hb
  have HZ0 := Lib.hid hz0
  have HL4 := Lib.hid hl4
  have q1 : (4 : Int) ≤ 128 := by omega
  have q2 : (128 : Int) ≤ (c : Int) := by omega
  have q3 : ¬ c = 4 := by omega
  clear h hb hx w0b hw0 hx0 hd4 hl4 hz0
  go_enter Tryz.func60, Tryz.ntmps60
  go_wp2_with fail
  rw [← HW0.out]
  refine HRD.out.mono ?_
  rintro e w1 ⟨k, rfl, hk, hfo, hb1⟩
  obtain ⟨d, hd⟩ : ∃ d, d = b.drop 4 := ⟨_, rfl⟩
  rw [← hd] at hfo HL4
  have HDD := Lib.hid hd
  have B1 := Lib.hid (B0.out.trans (hb1.mono B0.out.size))
  have HN1 := Lib.hid (fnum_walk d k w0.heap.size w1 hfo (by have := HL4.out; omega) (by have := HL4.out; omega) hk hb1.size)
  have HX1 := Lib.hid ((Keep.of_below (S := fun _ => False) hb1).blk HX0.out id)
  have HK := Lib.hid hk
  clear hfo hb1 hk hd
  go_wp2_with fail
  refine HN1.out.mono ?_
  rintro e w2 ⟨rfl, hfo, hb2, hk2⟩
  obtain ⟨n1, hn1⟩ : ∃ n, n = unle (d.take 4) := ⟨_, rfl⟩
  rw [← hn1]
  have HV1 := Lib.hid hn1
  have B2 := Lib.hid (B1.out.trans (hb2.mono (by have := HZ0.out; omega)))
  have hz1 : w0.heap.size ≤ w2.heap.size := Nat.le_trans (Nat.le_trans (by have := HK.out; exact Nat.le_refl _) (Nat.le_refl _)) (by have := hb2.size; have := HN1; have := B1.out.size; have := blk_lt (hk2.blk HX1.out (by have := HK.out; have := HZ0.out; omega)); have := HZ0.out; omega)
  have HX2 := Lib.hid (hk2.blk HX1.out (by have := HK.out; have := HZ0.out; omega))
  clear hn1
  go_upto_region 5 with fail
  obtain ⟨w3, hw3⟩ : ∃ w3, w3 = w2.alloc (.cells #[.int .i64 (n1 : Int), .int .i64 0, .int .i64 0] 88) := ⟨_, rfl⟩
  obtain ⟨P, hP⟩ : ∃ P, P = w2.heap.size := ⟨_, rfl⟩
  rw [← hw3, ← hP]
  have hb23 : Below w2.heap.size w2 w3 := by rw [hw3]; exact (Below.refl _ w2).alloc (Nat.le_refl _) _
  have hxp : w3.heap[P]? = some (.cells #[.int .i64 (n1 : Int), .int .i64 0, .int .i64 0] 88 (0, 0)) := by rw [hw3, hP]; exact blk_new w2 _
  have hfo3 := hfo.keep (Keep.of_below (S := fun _ => False) hb23) id (fun _ _ _ _ h => h)
  have hkP : k < P := by obtain ⟨⟨A, c', hbk, _⟩⟩ := hfo; have := blk_lt hbk; omega
  have hB3 : w0.heap.size ≤ w3.heap.size := Nat.le_trans hz1 hb23.size
  have HN2 := Lib.hid (fnum_walk (d.drop 4) k w0.heap.size w3 hfo3 (by rw [List.length_drop]; have := HL4.out; omega) (by rw [List.length_drop]; have := HL4.out; omega) HK.out hB3)
  have HXP := Lib.hid hxp
  have HX3 := Lib.hid ((Keep.of_below (S := fun _ => False) hb23).blk HX2.out id)
  have B3 := Lib.hid (B2.out.trans (hb23.mono B2.out.size))
  have HKP := Lib.hid hkP
  have HPP : Hid (w.heap.size + 1 ≤ P) := Lib.hid (by have := HZ0.out; omega)
  clear hw3 hP hb23 hxp hfo3 hfo hkP hb2 hk2 hz1 hB3
  go_wp2_with fail
  refine HN2.out.mono ?_
  rintro e w4 ⟨rfl, hfo, hb4, hk4⟩
  obtain ⟨n2, hn2⟩ : ∃ n, n = unle ((d.drop 4).take 4) := ⟨_, rfl⟩
  rw [← hn2]
  have HV2 := Lib.hid hn2
  have hxp4 := hk4.blk HXP.out (by have := HKP.out; omega)
  have HXP4 := Lib.hid hxp4
  have HX4 := Lib.hid (hk4.blk HX3.out (by have := HK.out; have := HZ0.out; omega))
  have B4 := Lib.hid (B3.out.trans (hb4.mono (by have := HZ0.out; omega)))
  have HFO4 := Lib.hid hfo
  have HZ4 : Hid (w0.heap.size ≤ w4.heap.size) := Lib.hid (by have := blk_lt hxp4; have := HPP.out; have := HZ0.out; omega)
  have cp1 := (blk_cells hxp4 1).trans rfl
  have fp1 := blk_frees hxp4 1
  clear hn2 hxp4 hfo hb4 hk4
  go_upto_region 6 with fail
  obtain ⟨w5, hw5⟩ : ∃ w5, w5 = w4.setCell ⟨P, 1, none⟩ (.int .i64 (n2 : Int)) := ⟨_, rfl⟩
  rw [← hw5]
  have hk5 : Keep (fun j => j = P) w4 w5 := by rw [hw5]; exact keep_set _ _ _ _
  have hxp5 : w5.heap[P]? = some (.cells #[.int .i64 (n1 : Int), .int .i64 (n2 : Int), .int .i64 0] 88 (0, 0)) := by
    have := blk_set (j := 1) HXP4.out (.int .i64 (n2 : Int))
    rw [← hw5] at this
    simpa using this
  have hfo5 := HFO4.out.keep hk5 (by have := HKP.out; omega) (fun j cs fr hj e => blk_ne hj HXP4.out (by decide) e)
  have HN3 := Lib.hid (fnum_walk ((d.drop 4).drop 4) k w0.heap.size w5 hfo5 (by rw [List.length_drop, List.length_drop]; have := HL4.out; omega) (by rw [List.length_drop, List.length_drop]; have := HL4.out; omega) HK.out (Nat.le_trans HZ4.out hk5.size))
  have HXP5 := Lib.hid hxp5
  have HX5 := Lib.hid (hk5.blk HX4.out (by have := HPP.out; omega))
  have B5 := Lib.hid (B4.out.trans (hk5.below (fun j e => by rw [e]; have := HPP.out; omega) B4.out.size))
  clear hw5 hk5 hxp5 hfo5 cp1 fp1
  go_wp2_with fail
  refine HN3.out.mono ?_
  rintro e w6 ⟨rfl, hfo, hb6, hk6⟩
  obtain ⟨n3, hn3⟩ : ∃ n, n = unle (((d.drop 4).drop 4).take 4) := ⟨_, rfl⟩
  rw [← hn3]
  have HNU : Hid (numsS b = ⟨n1, n2, n3⟩) := Lib.hid (by unfold numsS; rw [← HDD.out, ← HV1.out, ← HV2.out, ← hn3])
  have hxp6 := hk6.blk HXP5.out (by have := HKP.out; omega)
  have HXP6 := Lib.hid hxp6
  have HX6 := Lib.hid (hk6.blk HX5.out (by have := HK.out; have := HZ0.out; omega))
  have B6 := Lib.hid (B5.out.trans (hb6.mono (by have := HZ0.out; omega)))
  have cp2 := (blk_cells hxp6 2).trans rfl
  have fp2 := blk_frees hxp6 2
  clear hn3 hxp6 hfo hb6 hk6
  go_upto_region 7 with fail
  obtain ⟨w7, hw7⟩ : ∃ w7, w7 = w6.setCell ⟨P, 2, none⟩ (.int .i64 (n3 : Int)) := ⟨_, rfl⟩
  rw [← hw7]
  have hk7 : Keep (fun j => j = P) w6 w7 := by rw [hw7]; exact keep_set _ _ _ _
  have hxp7 : w7.heap[P]? = some (.cells #[.int .i64 (n1 : Int), .int .i64 (n2 : Int), .int .i64 (n3 : Int)] 88 (0, 0)) := by
    have := blk_set (j := 2) HXP6.out (.int .i64 (n3 : Int))
    rw [← hw7] at this
    simpa using this
  have c0 := (blk_cells hxp7 0).trans rfl
  have c1 := (blk_cells hxp7 1).trans rfl
  have c2 := (blk_cells hxp7 2).trans rfl
  have HXP7 := Lib.hid hxp7
  have HX7 := Lib.hid (hk7.blk HX6.out (by have := HPP.out; omega))
  have B7 := Lib.hid (B6.out.trans (hk7.below (fun j e => by rw [e]; have := HPP.out; omega) B6.out.size))
  clear hw7 hk7 hxp7 cp2 fp2
  by_cases hok : SuS.ok ⟨n1, n2, n3⟩
  · have HEN := Lib.hid (sencode_walk ⟨n1, n2, n3⟩ hok w7)
    have hok' := Lib.hid hok
    clear hok
    go_wp2_with fail
    refine HEN.out.mono ?_
    rintro e w8 ⟨A8, d8, hd8, rfl, hnb, hb8⟩
    have HEQ := Lib.hid (equal_walk d8 b A8 (some ⟨g, o, none⟩) d8.length c w8 hnb.sl (HSL.out.below (B7.out.trans (hb8.mono B7.out.size))))
    have hx8 := (Keep.of_below (S := fun _ => False) hb8).blk HX7.out id
    have r0 := (blk_cells hx8 0).trans rfl
    have r1 := (blk_cells hx8 1).trans rfl
    have r2 := (blk_cells hx8 2).trans rfl
    have f0 := blk_frees hx8 0
    have f1 := blk_frees hx8 1
    have f2 := blk_frees hx8 2
    have hxp8 := (Keep.of_below (S := fun _ => False) hb8).blk HXP7.out id
    have s0 := (blk_cells hxp8 0).trans rfl
    have s1 := (blk_cells hxp8 1).trans rfl
    have s2 := (blk_cells hxp8 2).trans rfl
    have HX8 := Lib.hid hx8
    have B8 := Lib.hid (B7.out.trans (hb8.mono B7.out.size))
    rw [HB.out] at HEQ
    have HD8 := Lib.hid hd8
    clear hx8 hxp8 hb8 c0 c1 c2 hnb hd8
    cases hde : (d8 == b) with
    | true =>
      rw [hde] at HEQ
      have HDS : Hid (decS b = some ⟨n1, n2, n3⟩) := Lib.hid (by unfold decS; rw [HNU.out, if_pos ⟨hok'.out, by rw [← HD8.out]; exact eq_of_beq hde⟩])
      clear hde
      go_wp2_with fail
      refine HEQ.out.mono ?_
      rintro e W ⟨rfl, hWW⟩
      have hWW' := hWW.symm
      subst hWW'
      clear hWW
      go_wp2
      obtain ⟨e3, ke⟩ := set3 HX8.out (.int .i64 (n1 : Int)) (.int .i64 (n2 : Int)) (.int .i64 (n3 : Int))
      have HF := Lib.hid (B8.out.trans (ke.below (fun j e => by rw [e]; exact Nat.le_refl _) B8.out.size))
      generalize ((w8.setCell ⟨w.heap.size, 0, none⟩ (.int .i64 (n1 : Int))).setCell ⟨w.heap.size, 1, none⟩ (.int .i64 (n2 : Int))).setCell ⟨w.heap.size, 2, none⟩ (.int .i64 (n3 : Int)) = Wf at e3 HF ⊢
      have q0 := (blk_cells e3 0).trans rfl
      have q1 := (blk_cells e3 1).trans rfl
      have q2 := (blk_cells e3 2).trans rfl
      clear e3 ke
      refine bodyPost_ret (v := .tuple #[.agg #[(.int .i64 (n1 : Int)), (.int .i64 (n2 : Int)), (.int .i64 (n3 : Int))], .int .i64 0]) (by simp [results, Tryz.results60, go_sem, q0, q1, q2]; try rfl) rfl ?_
      unfold SDecR
      rw [HDS.out]
      exact ⟨HF.out, rfl⟩
    | false =>
      rw [hde] at HEQ
      have HDS : Hid (decS b = none) := Lib.hid (by unfold decS; rw [HNU.out, if_neg (fun h => by rw [← HD8.out] at h; rw [h.2, beq_self_eq_true] at hde; cases hde)])
      clear hde
      go_wp2_with fail
      refine HEQ.out.mono ?_
      rintro e W ⟨rfl, hWW⟩
      have hWW' := hWW.symm
      subst hWW'
      clear hWW
      go_wp2
      obtain ⟨e3, ke⟩ := set3 HX8.out (.int .i64 0) (.int .i64 0) (.int .i64 0)
      have HF := Lib.hid (B8.out.trans (ke.below (fun j e => by rw [e]; exact Nat.le_refl _) B8.out.size))
      generalize ((w8.setCell ⟨w.heap.size, 0, none⟩ (.int .i64 0)).setCell ⟨w.heap.size, 1, none⟩ (.int .i64 0)).setCell ⟨w.heap.size, 2, none⟩ (.int .i64 0) = Wf at e3 HF ⊢
      have q0 := (blk_cells e3 0).trans rfl
      have q1 := (blk_cells e3 1).trans rfl
      have q2 := (blk_cells e3 2).trans rfl
      clear e3 ke
      refine bodyPost_ret (v := .tuple #[.agg #[(.int .i64 0), (.int .i64 0), (.int .i64 0)], .int .i64 2]) (by simp [results, Tryz.results60, go_sem, q0, q1, q2]; try rfl) rfl ?_
      unfold SDecR
      rw [HDS.out]
      exact ⟨HF.out, rfl⟩
  · have HEN := Lib.hid (sencode_no ⟨n1, n2, n3⟩ hok w7)
    have HDS : Hid (decS b = none) := Lib.hid (by unfold decS; rw [HNU.out, if_neg (fun h => hok h.1)])
    clear hok
    go_wp2_with fail
    refine HEN.out.mono ?_
    rintro e w8 ⟨rfl, hb8⟩
    have hx8 := (Keep.of_below (S := fun _ => False) hb8).blk HX7.out id
    have r0 := (blk_cells hx8 0).trans rfl
    have r1 := (blk_cells hx8 1).trans rfl
    have r2 := (blk_cells hx8 2).trans rfl
    have f0 := blk_frees hx8 0
    have f1 := blk_frees hx8 1
    have f2 := blk_frees hx8 2
    have HX8 := Lib.hid hx8
    have B8 := Lib.hid (B7.out.trans (hb8.mono B7.out.size))
    clear hx8 hb8 c0 c1 c2
    go_wp2
    obtain ⟨e3, ke⟩ := set3 HX8.out (.int .i64 0) (.int .i64 0) (.int .i64 0)
    have HF := Lib.hid (B8.out.trans (ke.below (fun j e => by rw [e]; exact Nat.le_refl _) B8.out.size))
    generalize ((w8.setCell ⟨w.heap.size, 0, none⟩ (.int .i64 0)).setCell ⟨w.heap.size, 1, none⟩ (.int .i64 0)).setCell ⟨w.heap.size, 2, none⟩ (.int .i64 0) = Wf at e3 HF ⊢
    have q0 := (blk_cells e3 0).trans rfl
    have q1 := (blk_cells e3 1).trans rfl
    have q2 := (blk_cells e3 2).trans rfl
    clear e3 ke
    refine bodyPost_ret (v := .tuple #[.agg #[(.int .i64 0), (.int .i64 0), (.int .i64 0)], .int .i64 2]) (by simp [results, Tryz.results60, go_sem, q0, q1, q2]; try rfl) rfl ?_
    unfold SDecR
    rw [HDS.out]
    exact ⟨HF.out, rfl⟩
end Go.Proofs.YtehfoopefefpnaaGreat
/- Package seat: Sound, Encode. -/
set_option linter.unusedSimpArgs false
set_option linter.unusedVariables false
namespace Go.Proofs.YtehfoopefefpnaaGreat
open Go.RowKit

attribute [local go_sem ↓] Go.wp_at_zero Go.wp_at_succ
structure SeS where
  life : Nat
  seq : Nat
  reply : List UInt8
def SeS.ok (s : SeS) : Prop := s.life ≤ 1073741824 ∧ s.seq ≤ 1073741824 ∧ s.reply.length ≤ 96
instance (s : SeS) : Decidable s.ok := by unfold SeS.ok; infer_instance
abbrev SeS.val (s : SeS) (A : Option Addr) (c : Nat) : Value := .agg #[.int .i64 (s.life : Int), .int .i64 (s.seq : Int), .slice A s.reply.length c]
def seatB (s : SeS) : List UInt8 := [83, 69, 65, 84] ++ le s.life 4 ++ le s.seq 4 ++ [UInt8.ofNat s.reply.length] ++ s.reply
def seatE (s : SeS) : List UInt8 := sealP (seatB s ++ List.replicate (111 - s.reply.length) 0)
theorem seatE_len (s : SeS) (h : s.ok) : (seatE s).length = 128 := by
  have := h.2.2
  unfold seatE seatB; rw [sealP_len]; simp [le_len]; omega
theorem seatnum_walk (n : Nat) (w : World) : Calls Tryz.prog 146 #[.int .i64 (n : Int)] w fun e w' => e = .returned (.bool (decide (n ≤ 1073741824))) ∧ w' = w := by
  have h0 : (0 : Int) ≤ (n : Int) := by omega
  by_cases h : n ≤ 1073741824
  · have h1 : (n : Int) ≤ 1073741824 := by omega
    rw [decide_eq_true h]
    go_enter Tryz.func146, Tryz.ntmps146
    go_wp2
    go_ret
    exact ⟨rfl, rfl⟩
  · have h1 : ¬ (n : Int) ≤ 1073741824 := by omega
    rw [decide_eq_false h]
    go_enter Tryz.func146, Tryz.ntmps146
    go_wp2
    go_ret
    exact ⟨rfl, rfl⟩
set_option maxRecDepth 100000 in
theorem seatsound_walk (s : SeS) (A : Option Addr) (c : Nat) (w : World) : Calls Tryz.prog 127 #[s.val A c] w fun e w' => e = .returned (.bool (decide s.ok)) ∧ Below w.heap.size w w' := by
  obtain ⟨a, b, r⟩ := s
  have w1b := Lib.hid (show Below w.heap.size w (w.alloc (.cells #[.int .i64 (a : Int), .int .i64 (b : Int), .slice A r.length c] 155)) from (Below.refl _ _).alloc (Nat.le_refl _) _)
  have HA := Lib.hid (fun W => seatnum_walk a W)
  have HB := Lib.hid (fun W => seatnum_walk b W)
  have hok : SeS.ok ⟨a, b, r⟩ ↔ a ≤ 1073741824 ∧ b ≤ 1073741824 ∧ r.length ≤ 96 := Iff.rfl
  by_cases h1 : a ≤ 1073741824
  · rw [decide_eq_true h1] at HA
    by_cases h2 : b ≤ 1073741824
    · rw [decide_eq_true h2] at HB
      by_cases h3 : r.length ≤ 96
      · have q3 : (r.length : Int) ≤ 96 := by omega
        rw [decide_eq_true (hok.2 ⟨h1, h2, h3⟩)]
        clear hok
        go_enter Tryz.func127, Tryz.ntmps127
        go_wp2_with fail
        refine (HA.out _).mono ?_
        rintro e W ⟨rfl, rfl⟩
        go_wp2_with fail
        refine (HB.out _).mono ?_
        rintro e W ⟨rfl, rfl⟩
        go_wp2
        go_ret
        exact ⟨rfl, w1b.out⟩
      · have q3 : ¬ (r.length : Int) ≤ 96 := by omega
        have H3 := Lib.hid q3
        rw [decide_eq_false (fun h => h3 (hok.1 h).2.2)]
        clear hok
        go_enter Tryz.func127, Tryz.ntmps127
        go_wp2_with fail
        refine (HA.out _).mono ?_
        rintro e W ⟨rfl, rfl⟩
        go_wp2_with fail
        refine (HB.out _).mono ?_
        rintro e W ⟨rfl, rfl⟩
        go_wp2
        go_ret
        exact ⟨by rw [decide_eq_false (Int.not_le.2 H3.out)]; rfl, w1b.out⟩
    · rw [decide_eq_false h2] at HB
      rw [decide_eq_false (fun h => h2 (hok.1 h).2.1)]
      clear hok
      go_enter Tryz.func127, Tryz.ntmps127
      go_wp2_with fail
      refine (HA.out _).mono ?_
      rintro e W ⟨rfl, rfl⟩
      go_wp2_with fail
      refine (HB.out _).mono ?_
      rintro e W ⟨rfl, rfl⟩
      go_wp2
      go_ret
      exact ⟨rfl, w1b.out⟩
  · rw [decide_eq_false h1] at HA
    rw [decide_eq_false (fun h => h1 (hok.1 h).1)]
    clear hok
    go_enter Tryz.func127, Tryz.ntmps127
    go_wp2_with fail
    refine (HA.out _).mono ?_
    rintro e W ⟨rfl, rfl⟩
    go_wp2
    go_ret
    exact ⟨rfl, w1b.out⟩
theorem seatencode_no (s : SeS) (h : ¬ s.ok) (A : Option Addr) (c : Nat) (w : World) : Calls Tryz.prog 91 #[s.val A c] w fun e w' => e = .returned (.tuple #[.slice none 0 0, .int .i64 2]) ∧ Below w.heap.size w w' := by
  have hs := fun W => seatsound_walk s A c W
  rw [decide_eq_false h] at hs
  have HS := Lib.hid hs
  obtain ⟨a, b, r⟩ := s
  have w1b := Lib.hid (show Below w.heap.size w (w.alloc (.cells #[.int .i64 (a : Int), .int .i64 (b : Int), .slice A r.length c] 155)) from (Below.refl _ _).alloc (Nat.le_refl _) _)
  clear h hs
  go_enter Tryz.func91, Tryz.ntmps91
  go_wp2_with fail
  refine (HS.out _).mono ?_
  rintro e w2 ⟨rfl, hb2⟩
  have B2 := Lib.hid (w1b.out.trans (hb2.mono w1b.out.size))
  clear hb2
  go_wp2
  go_ret2
  exact ⟨rfl, B2.out⟩
set_option maxRecDepth 100000 in
set_option maxHeartbeats 4000000 in
theorem seatencode_walk (s : SeS) (h : s.ok) (A : Option Addr) (c : Nat) (w : World) (hr : Sl w 1 (.slice A s.reply.length c) s.reply.length (bv s.reply)) : Calls Tryz.prog 91 #[s.val A c] w fun e w' => ∃ A' d, d = seatE s ∧ e = .returned (.tuple #[.slice A' d.length d.length, .int .i64 0]) ∧ NB w.heap.size w' A' d.length d ∧ Below w.heap.size w w' := by
  have hs := fun W => seatsound_walk s A c W
  rw [decide_eq_true h] at hs
  have HS := Lib.hid hs
  obtain ⟨s0, hs0⟩ : ∃ s0, s0 = s := ⟨_, rfl⟩
  obtain ⟨a, b, r⟩ := s
  obtain ⟨h1, h2, h3⟩ := h
  replace h1 : a ≤ 1073741824 := h1
  replace h2 : b ≤ 1073741824 := h2
  replace h3 : r.length ≤ 96 := h3
  replace hr : Sl w 1 (.slice A r.length c) r.length (bv r) := hr
  rw [← hs0]
  have HS0 := Lib.hid hs0
  have w1b := Lib.hid (show Below w.heap.size w (w.alloc (.cells #[.int .i64 (a : Int), .int .i64 (b : Int), .slice A r.length c] 155)) from (Below.refl _ _).alloc (Nat.le_refl _) _)
  have HR := Lib.hid hr
  have hcv := fun (w : World) (C : Array Value) (n c : Nat) => Lib.run_convert_bytes_const (P := Tryz.prog) w 22 5 C n c Tryz.underlying22 Tryz.underlying5
  have hv : s0.val A c = .agg #[.int .i64 (a : Int), .int .i64 (b : Int), .slice A r.length c] := by rw [hs0]
  rw [hv]
  clear hs0 hs hr hv
  go_enter Tryz.func91, Tryz.ntmps91
  go_wp2_with fail
  refine (HS.out _).mono ?_
  rintro e w2 ⟨rfl, hb2⟩
  have hx2 := (Keep.of_below (S := fun _ => False) hb2).blk (blk_new w (.cells #[.int .i64 (a : Int), .int .i64 (b : Int), .slice A r.length c] 155)) id
  have c0 := (blk_cells hx2 0).trans rfl
  have B2 := Lib.hid (w1b.out.trans (hb2.mono w1b.out.size))
  have HX2 := Lib.hid hx2
  have hz := blk_lt hx2
  clear hx2 hb2
  go_wp2_with fail
  obtain ⟨w3, hw3⟩ : ∃ w3, w3 = w2.alloc (.cells #[.int .u8 83, .int .u8 69, .int .u8 65, .int .u8 84] 5 (4, 5)) := ⟨_, rfl⟩
  rw [← hw3]
  have hb23 : Below w2.heap.size w2 w3 := by rw [hw3]; exact (Below.refl _ w2).alloc (Nat.le_refl _) _
  have hcn := const_nb w.heap.size w2 [83, 69, 65, 84] (4, 5) B2.out.size
  rw [show #[.int .u8 83, .int .u8 69, .int .u8 65, .int .u8 84] = (bv [83, 69, 65, 84]).toArray from rfl] at hw3
  rw [← hw3] at hcn
  have hnw := num_walk [83, 69, 65, 84] (some ⟨w2.heap.size, 0, none⟩) 4 a w3 hcn.sl (by decide) (by omega)
  have HNW : Hid (Calls Tryz.prog 74 #[.slice (some ⟨w2.heap.size, 0, none⟩) 4 4, .int .i64 (a : Int)] w3 _) := Lib.hid hnw
  have B3 := Lib.hid (B2.out.trans (hb23.mono B2.out.size))
  have HX3 := Lib.hid ((Keep.of_below (S := fun _ => False) hb23).blk HX2.out id)
  clear hw3 hb23 hcn hnw hcv hz c0
  refine HNW.out.mono ?_
  rintro e w4 ⟨A4, d4, hd4, rfl, hnb4, hb4⟩
  have hx4 := (Keep.of_below (S := fun _ => False) hb4).blk HX3.out id
  have c1 := (blk_cells hx4 1).trans rfl
  have hl4 : d4.length = 8 := by rw [hd4, List.length_append, le_len]; rfl
  have HNW2 := Lib.hid (num_walk d4 A4 d4.length b w4 hnb4.sl (by omega) (by omega))
  have HX4 := Lib.hid hx4
  have HD4 := Lib.hid hd4
  have HL4 := Lib.hid hl4
  have B4 := Lib.hid (B3.out.trans (hb4.mono B3.out.size))
  clear hx4 hd4 hl4 hnb4 hb4
  go_wp2_with fail
  refine HNW2.out.mono ?_
  rintro e w5 ⟨A5, d5, hd5, rfl, hnb5, hb5⟩
  have hl5 : d5.length = 12 := by rw [hd5, List.length_append, le_len, HL4.out]
  have hx5 := (Keep.of_below (S := fun _ => False) hb5).blk HX4.out id
  have c2 := (blk_cells hx5 2).trans rfl
  have HX5 := Lib.hid hx5
  have HD5 := Lib.hid hd5
  have HL5 := Lib.hid hl5
  have B5 := Lib.hid (B4.out.trans (hb5.mono B4.out.size))
  obtain ⟨x, hx⟩ : ∃ x : UInt8, x = UInt8.ofNat r.length := ⟨_, rfl⟩
  have hxr : (r.length : Int) % 256 = (x.toNat : Int) := by rw [hx]; simp
  have hxr2 : IntKind.u8.wrap (r.length : Int) = (x.toNat : Int) := by rw [wrap_u8N]; exact hxr
  have HXX := Lib.hid hx
  have hab5 : AB w.heap.size w5 A5 d5.length d5 := (hnb5.mono B4.out.size).ab
  have hb6 : Below w5.heap.size w5 (w5.alloc (.cells #[.int .u8 (x.toNat : Int)] 5)).drew := ((Below.refl _ w5).alloc (Nat.le_refl _) _).drew
  have HAB5 := Lib.hid (hab5.below hb6)
  have HS1 : Hid (Sl (w5.alloc (.cells #[.int .u8 (x.toNat : Int)] 5)).drew 1 (.slice (some ⟨w5.heap.size, 0, none⟩) 1 1) 1 (bv [x])) := Lib.hid (Sl.of_own (own_new w5 #[.int .u8 (x.toNat : Int)] 5 1 1 rfl (by decide)).drew)
  have HSC := Lib.hid (fun w' (k : Keep (fun j => j ≠ w.heap.size) w5 w') => (k.cell c2 (fun h => h rfl) : w'.cell? ⟨w.heap.size, 2, none⟩ = some (.slice A r.length c)))
  have HB6 := Lib.hid (B5.out.trans (hb6.mono B5.out.size))
  have HK6 := Lib.hid ((Keep.of_below (S := fun j => j ≠ w.heap.size) hb6))
  have HA5 : Hid (∀ j, A5.map (·.block) = some j → j ≠ w.heap.size) := Lib.hid (fun j e h => by
    obtain ⟨_, cs, fr, hj⟩ := hnb5.fresh j e
    exact blk_ne hj hx5 (by decide) h)
  have hBB : w.heap.size ≤ (w5.alloc (.cells #[.int .u8 (x.toNat : Int)] 5)).drew.heap.size := HB6.out.size
  have HBB := Lib.hid hBB
  clear hd5 hx5 hnb5 hb5 hab5 hb6 hx hl5 c1 hBB
  go_upto_region 5 with fail
  go_region_held3 (fun w' => w'.cell? ⟨w.heap.size, 2, none⟩ = some (.slice A r.length c)) (first | exact HSC.out _ (Keep.refl _ w5).drew | exact HSC.out _ HK6.out | exact HSC.out _ K8.out | exact HSC.out _ K7.out) (first | (refine step_appB (n := d5.length) (m := 1) (B := w.heap.size) (d := d5) (e := [x]) (by rfl) (by rfl) rfl rfl (by rfl) (by rfl) HAB5.out HS1.out (.inl (by decide)) HBB.out (by have := HL5.out; omega) ?_; intro A7 c7 w7 h7; have H7 := Lib.hid h7; have K7 := Lib.hid (HK6.out.trans h7.keep (fun j _ e => HA5.out j e)); clear h7) | (refine step_appB (n := d5.length + 1) (m := r.length) (B := w.heap.size) (d := d5 ++ [x]) (e := r) (by rfl) (by rfl) (by simp) rfl (by rfl) (by rfl) H7.out.ab (HR.out.below (HB6.out.trans H7.out.be)) (.inr (by omega)) (Nat.le_trans HBB.out H7.out.be.size) (by have := HL5.out; omega) ?_; intro A8 c8 w8 h8; have H8 := Lib.hid h8; have K8 := Lib.hid (K7.out.trans h8.keep (fun j _ e hh => by obtain ⟨_, cs, fr, hj⟩ := H7.out.ab.nb.fresh j e; exact blk_ne hj (K7.out.blk HX5.out (fun h => h rfl)) (by decide) hh)); clear h8))
  all_goals
    obtain ⟨m, hm⟩ : ∃ m : Nat, m = 111 - r.length := ⟨_, rfl⟩
    obtain ⟨d, hd⟩ : ∃ d, d = d5 ++ [x] ++ r := ⟨_, rfl⟩
    have hdl : d.length = d5.length + 1 + r.length := by rw [hd, List.length_append, List.length_append]; rfl
    have H9 : Hid (ABr w.heap.size w7 w8 A7 A8 c8 d) := Lib.hid (by rw [hd]; exact H8.out)
    have B8 := Lib.hid ((HB6.out.trans H7.out.be).trans H8.out.be)
    rw [← hdl]
    have h12 := HL5.out
    have e0 : IntKind.i64.wrap (124 - (d.length : Int)) = (m : Int) := by rw [IntWalk.i64_in _ (by omega)]; omega
    have h16 : 0 < d.length ∧ 0 < m ∧ d.length + m ≤ 1000000000 := by omega
    have H124 : Hid (d.length + m = 124) := Lib.hid (by omega)
    have HDE : Hid (d ++ List.replicate m 0 = seatB s0 ++ List.replicate (111 - s0.reply.length) 0) := Lib.hid (by rw [hd, HD5.out, HD4.out, hm, HXX.out, HS0.out]; unfold seatB; simp only [List.append_assoc])
    clear hm hd hdl h12 c2 hxr hxr2
    go_wp2_with (at_builtin; go_must (refine wpList_zerosB rfl rfl (n := d.length) (m := m) rfl rfl rfl H9.out.ab h16.1 h16.2.1 B8.out.size h16.2.2 ?_))
    intro A6 c6 w9 hab6
    obtain ⟨D, hD⟩ : ∃ D, D = d ++ List.replicate m 0 := ⟨_, rfl⟩
    rw [← hD] at hab6
    have hl6 : D.length = d.length + m := by rw [hD]; simp
    rw [← hl6]
    have HSE := Lib.hid (sealed_walk D A6 c6 w9 hab6.ab.nb.sl (by have := H124.out; omega))
    have HB9 := Lib.hid hab6.be
    have HDD := Lib.hid hD
    clear hab6 hl6 hD
    go_wp2_with fail
    refine HSE.out.mono ?_
    rintro e w10 ⟨A10, d10, hd10, rfl, hnb, hbe⟩
    have HD10 : Hid (d10 = seatE s0) := Lib.hid (by rw [hd10, HDD.out, HDE.out]; rfl)
    have HB10 := Lib.hid (B8.out.trans (HB9.out.trans (hbe.mono (Nat.le_trans B8.out.size HB9.out.size))))
    have HNB := Lib.hid (hnb.mono (Nat.le_trans B8.out.size HB9.out.size))
    clear hd10 hnb hbe
    go_wp2
    go_ret2
    exact ⟨A10, d10, HD10.out, rfl, HNB.out, HB10.out⟩
end Go.Proofs.YtehfoopefefpnaaGreat
/- Package seat: Decode. -/
set_option linter.unusedSimpArgs false
set_option linter.unusedVariables false
namespace Go.Proofs.YtehfoopefefpnaaGreat
open Go.RowKit

attribute [local go_sem ↓] Go.wp_at_zero Go.wp_at_succ
theorem bclone_walk (d : List UInt8) (A : Option Addr) (c : Nat) (w : World) (h : Sl w 1 (.slice A d.length c) d.length (bv d)) (hn : d.length ≤ 1000000000) :
    Calls Tryz.prog 129 #[.slice A d.length c] w fun e w' => ∃ A' c', e = .returned (.slice A' d.length c') ∧ OB w.heap.size w' A' c' d ∧ Below w.heap.size w w' := by
  cases A with
  | none =>
    obtain ⟨A', c', e', _, hz, _, _⟩ := h
    injection e' with e1 e2 e3
    subst e1 e3
    obtain ⟨h1, h2⟩ := hz rfl
    have hd : d = [] := List.eq_nil_of_length_eq_zero h1
    subst hd
    have hnil := fun w => Lib.run_eql_slice_nil (P := Tryz.prog) w 22 5 none 0 0 0 0 Tryz.underlying22
    subst h2
    rw [List.length_nil]
    clear h1 hz hn
    go_enter Tryz.func129, Tryz.ntmps129
    go_wp2
    go_ret
    exact ⟨none, 0, rfl, ⟨own_nil' _ 0 _ 1, fun j e => by cases e⟩, Below.refl _ _⟩
  | some ad =>
    have hnil := fun w => Lib.run_eql_slice_nil (P := Tryz.prog) w 22 5 (some ad) d.length c 0 0 Tryz.underlying22
    have HS := Lib.hid (h.below ((Below.refl w.heap.size w).alloc (Nat.le_refl _) (.cells #[] 5)))
    have HO := Lib.hid (own_new w #[] 5 1 0 rfl (by decide))
    clear h
    go_enter Tryz.func129, Tryz.ntmps129
    go_wp2_with (at_builtin; go_must (refine wpList_app rfl eltB rfl rfl rfl (n := 0) (m := d.length) HO.out HS.out (bv_one d) (by omega) (by simp only [maxLen]; omega) ?_))
    intro v4 w4 g1 g2 g3 g4
    clear g4
    obtain ⟨A4, c4, rfl, _⟩ := Rd.of_own g1
    have HN : Hid (OB w.heap.size w4 A4 c4 d ∧ Below w.heap.size w w4) := Lib.hid ⟨⟨by simpa using g1, fun j e => by
      rcases g3 with g3 | g3 <;> rw [ownB_slice, e] at g3
      · injection g3 with g3
        have g3 : j = w.heap.size := g3
        omega
      · injection g3 with g3
        have : (w.alloc (.cells #[] 5)).heap.size = w.heap.size + 1 := by simp
        omega⟩, ((Below.refl w.heap.size w).alloc (Nat.le_refl _) _).trans (g2.below (fun j e => by rw [ownB_slice] at e; injection e with e; have e : w.heap.size = j := e; omega) (by simp))⟩
    clear g1 g2 g3
    go_wp2
    go_ret
    exact ⟨A4, c4, by simp, HN.out.1, HN.out.2⟩
theorem Sl.part {w : World} {g o c : Nat} {d : List UInt8} (h : Sl w 1 (.slice (some ⟨g, o, none⟩) d.length c) d.length (bv d)) (f n : Nat) (hfn : f + n ≤ d.length) : Sl w 1 (.slice (some ⟨g, o + f, none⟩) ((d.drop f).take n).length (c - f)) ((d.drop f).take n).length (bv ((d.drop f).take n)) := by
  obtain ⟨A', c', e, hr, _, hc, hl⟩ := h
  injection e with e1 _ e2
  subst e1 e2
  have := (hr.drop f).take n
  refine ⟨_, _, rfl, ?_, (fun e => by cases e), by rw [List.length_take, List.length_drop]; omega, by rw [bv_length, Nat.mul_one]⟩
  simpa [bv] using this
def numsE (b : List UInt8) : SeS := ⟨unle ((b.drop 4).take 4), unle (((b.drop 4).drop 4).take 4), (b.drop 13).take (b.getD 12 0).toNat⟩
def decE (b : List UInt8) : Option SeS := if (b.getD 12 0).toNat ≤ 96 ∧ (numsE b).ok ∧ seatE (numsE b) = b then some (numsE b) else none
theorem drop4 (a b c d : UInt8) (l : List UInt8) : ([a, b, c, d] ++ l).drop 4 = l := rfl
theorem decE_enc (s : SeS) (h : s.ok) : decE (seatE s) = some s := by
  obtain ⟨a, b, r⟩ := s
  obtain ⟨h1, h2, h3⟩ := id h
  replace h1 : a ≤ 1073741824 := h1
  replace h2 : b ≤ 1073741824 := h2
  replace h3 : r.length ≤ 96 := h3
  obtain ⟨T, hT⟩ : ∃ T, T = List.replicate (111 - r.length) 0 ++ le (sumP (seatB ⟨a, b, r⟩ ++ List.replicate (111 - r.length) 0)) 4 := ⟨_, rfl⟩
  have e : seatE ⟨a, b, r⟩ = [83, 69, 65, 84] ++ (le a 4 ++ (le b 4 ++ ([UInt8.ofNat r.length] ++ (r ++ T)))) := by
    rw [hT]
    unfold seatE sealP
    unfold seatB
    simp only [List.append_assoc]
  have hx : (UInt8.ofNat r.length).toNat = r.length := by rw [UInt8.toNat_ofNat']; exact Nat.mod_eq_of_lt (by omega)
  have hg : (seatE ⟨a, b, r⟩).getD 12 0 = UInt8.ofNat r.length := by
    rw [e, List.getD_eq_getElem?_getD, ← List.append_assoc, ← List.append_assoc, List.getElem?_append_right (by simp [le_len])]
    simp [le_len]
  have hd : (seatE ⟨a, b, r⟩).drop 13 = r ++ T := by
    rw [e, ← List.append_assoc, ← List.append_assoc, ← List.append_assoc, List.drop_append_of_le_length (by simp [le_len]), List.drop_of_length_le (by simp [le_len]), List.nil_append]
  have hn : numsE (seatE ⟨a, b, r⟩) = ⟨a, b, r⟩ := by
    unfold numsE
    rw [hg, hx, hd, e, drop4, take_le, drop_le, take_le, unle_le _ _ (by omega), unle_le _ _ (by omega), List.take_append_of_le_length (Nat.le_refl _), List.take_length]
  unfold decE
  rw [hn, hg, hx, if_pos ⟨h3, h, rfl⟩]
theorem decE_some {b : List UInt8} {s : SeS} (h : decE b = some s) : s.ok ∧ seatE s = b := by
  unfold decE at h
  split at h
  · rename_i hh
    obtain rfl := Option.some.inj h
    exact hh.2
  · cases h
def EDecR (b : List UInt8) (w : World) (e : Ending) (w' : World) : Prop := Below w.heap.size w w' ∧ match decE b with
  | some s => ∃ A c, e = .returned (.tuple #[s.val A c, .int .i64 0]) ∧ NB w.heap.size w' A c s.reply
  | none => e = .returned (.tuple #[.agg #[.int .i64 0, .int .i64 0, .slice none 0 0], .int .i64 2])
set_option maxRecDepth 100000 in
set_option maxHeartbeats 8000000 in
theorem edecode_walk (b : List UInt8) (A : Option Addr) (c : Nat) (w : World) (h : Sl w 1 (.slice A b.length c) b.length (bv b)) (hb : b.length = 128) : Calls Tryz.prog 93 #[.slice A 128 c] w (EDecR b w) := by
  obtain ⟨y, hy⟩ : ∃ x, b[12]? = some x := ⟨b[12], List.getElem?_eq_getElem (by omega)⟩
  obtain ⟨g, o, rfl, hg, hcy⟩ := bv_at h hy
  have hyl := y.toNat_lt
  have hgy : b.getD 12 0 = y := by rw [List.getD_eq_getElem?_getD, hy]; rfl
  have hcap : 128 ≤ c := by obtain ⟨_, _, e, _, _, hc, _⟩ := h; injection e with _ _ e; subst e; omega
  have w0b : Below w.heap.size w (w.alloc (.cells #[.int .i64 0, .int .i64 0, .slice none 0 0] 155)) := (Below.refl _ _).alloc (Nat.le_refl _) _
  obtain ⟨w0, hw0⟩ : ∃ w0, w0 = w.alloc (.cells #[.int .i64 0, .int .i64 0, .slice none 0 0] 155) := ⟨_, rfl⟩
  have hcy0 : (w.alloc (.cells #[.int .i64 0, .int .i64 0, .slice none 0 0] 155)).cell? ⟨g, o + 12, none⟩ = some (.int .u8 (y.toNat : Int)) := (Keep.of_below (S := fun _ => False) w0b).cell hcy id
  have hxe0 : (w.alloc (.cells #[.int .i64 0, .int .i64 0, .slice none 0 0] 155)).heap[w.heap.size]? = some (.cells #[.int .i64 0, .int .i64 0, .slice none 0 0] 155 (0, 0)) := blk_new w _
  rw [← hw0] at w0b hcy0 hxe0
  have hz0 : w0.heap.size = w.heap.size + 1 := by rw [hw0]; simp
  have HW0 := Lib.hid hw0
  have HX0 := Lib.hid hxe0
  have B0 := Lib.hid w0b
  have HSL := Lib.hid h
  have HB := Lib.hid hb
  have HZ0 := Lib.hid hz0
  have HGY := Lib.hid hgy
  have hd4 := (h.below w0b).part 4 8 (by omega)
  have hl8 : ((b.drop 4).take 8).length = 8 := by rw [List.length_take, List.length_drop]; omega
  have hrd := read_walk ((b.drop 4).take 8) (some ⟨g, o + 4, none⟩) (c - 4) w0 hd4 (by omega)
  rw [hl8] at hrd
  have HRD := Lib.hid hrd
  have HL8 := Lib.hid hl8
  have q1 : (4 : Int) ≤ 128 := by omega
  have q2 : (12 : Int) ≤ (c : Int) := by omega
  have q3 : ¬ c = 4 := by omega
  have q4 : (128 : Int) ≤ (c : Int) := by omega
  have HCY := Lib.hid hcy
  clear h hb hy hgy w0b hxe0 hz0 hd4 hl8 hrd hcy
  by_cases hy96 : y.toNat ≤ 96
  case neg =>
    have q5 : (96 : Int) < (y.toNat : Int) := by omega
    have HDS : Hid (decE b = none) := Lib.hid (by unfold decE; rw [HGY.out, if_neg (fun h => hy96 h.1)])
    have hcyr : (w.alloc (.cells #[.int .i64 0, .int .i64 0, .slice none 0 0] 155)).cell? ⟨g, o + 12, none⟩ = some (.int .u8 (y.toNat : Int)) := by rw [← HW0.out]; exact hcy0
    clear hcy0 hw0 hy96
    go_enter Tryz.func93, Tryz.ntmps93
    go_wp2
    refine bodyPost_ret (v := .tuple #[.agg #[.int .i64 0, .int .i64 0, .slice none 0 0], .int .i64 2]) (by simp [results, Tryz.results93, go_sem]) rfl ?_
    unfold EDecR
    rw [HDS.out]
    exact ⟨by have := B0.out; rw [HW0.out] at this; exact this, rfl⟩
  have q5 : ¬ (96 : Int) < (y.toNat : Int) := by omega
  have HCL := Lib.hid (fun W (hW : Below w.heap.size w W) => bclone_walk ((b.drop 13).take y.toNat) (some ⟨g, o + 13, none⟩) (c - 13) W ((HSL.out.below hW).part 13 y.toNat (by have := HB.out; omega)) (by rw [List.length_take, List.length_drop]; omega))
  have hrl : ((b.drop 13).take y.toNat).length = y.toNat := by rw [List.length_take, List.length_drop]; have := HB.out; omega
  rw [hrl] at HCL
  obtain ⟨r, hr⟩ : ∃ r, r = (b.drop 13).take y.toNat := ⟨_, rfl⟩
  rw [← hr] at HCL hrl
  have HRR := Lib.hid hr
  have HRL := Lib.hid hrl
  have HY96 := Lib.hid hy96
  have HC0 := Lib.hid hcy0
  have hcyr : (w.alloc (.cells #[.int .i64 0, .int .i64 0, .slice none 0 0] 155)).cell? ⟨g, o + 12, none⟩ = some (.int .u8 (y.toNat : Int)) := by rw [← HW0.out]; exact hcy0
  have q6 : IntKind.i64.wrap (13 + (y.toNat : Int)) = ((13 + y.toNat : Nat) : Int) := by rw [IntWalk.i64_in _ (by omega)]; omega
  have q7 : (13 : Int) ≤ ((13 + y.toNat : Nat) : Int) := by omega
  have q8 : ((13 + y.toNat : Nat) : Int) ≤ (c : Int) := by omega
  have q9 : ¬ c = 13 := by omega
  obtain ⟨z, hz⟩ : ∃ z, z = 13 + y.toNat := ⟨_, rfl⟩
  rw [← hz] at q6 q7 q8
  have q10 : z - 13 = y.toNat := by omega
  have q11 : ((z : Int) - 13).toNat = y.toNat := by omega
  clear hcy0 hw0 hy96 hr hrl hz
  go_enter Tryz.func93, Tryz.ntmps93
  go_wp2_with fail
  rw [← HW0.out]
  refine HRD.out.mono ?_
  rintro e w1 ⟨k, rfl, hk, hfo, hb1⟩
  clear hcyr
  obtain ⟨d, hd⟩ : ∃ d, d = (b.drop 4).take 8 := ⟨_, rfl⟩
  rw [← hd] at hfo HL8
  have HDD := Lib.hid hd
  have B1 := Lib.hid (B0.out.trans (hb1.mono B0.out.size))
  have HN1 := Lib.hid (fnum_walk d k w0.heap.size w1 hfo (by have := HL8.out; omega) (by have := HL8.out; omega) hk hb1.size)
  have HX1 := Lib.hid ((Keep.of_below (S := fun _ => False) hb1).blk HX0.out id)
  have HK := Lib.hid hk
  clear hfo hb1 hk hd
  go_wp2_with fail
  refine HN1.out.mono ?_
  rintro e w2 ⟨rfl, hfo, hb2, hk2⟩
  obtain ⟨n1, hn1⟩ : ∃ n, n = unle (d.take 4) := ⟨_, rfl⟩
  rw [← hn1]
  have HV1 := Lib.hid hn1
  have B2 := Lib.hid (B1.out.trans (hb2.mono (by have := HZ0.out; omega)))
  have hz1 : w0.heap.size ≤ w2.heap.size := by have := blk_lt (hk2.blk HX1.out (by have := HK.out; have := HZ0.out; omega)); have := HZ0.out; omega
  have HX2 := Lib.hid (hk2.blk HX1.out (by have := HK.out; have := HZ0.out; omega))
  clear hn1
  go_upto_region 5 with fail
  obtain ⟨w3, hw3⟩ : ∃ w3, w3 = w2.alloc (.cells #[.int .i64 (n1 : Int), .int .i64 0, .slice none 0 0] 155) := ⟨_, rfl⟩
  obtain ⟨P, hP⟩ : ∃ P, P = w2.heap.size := ⟨_, rfl⟩
  rw [← hw3, ← hP]
  have hb23 : Below w2.heap.size w2 w3 := by rw [hw3]; exact (Below.refl _ w2).alloc (Nat.le_refl _) _
  have hxp : w3.heap[P]? = some (.cells #[.int .i64 (n1 : Int), .int .i64 0, .slice none 0 0] 155 (0, 0)) := by rw [hw3, hP]; exact blk_new w2 _
  have hfo3 := hfo.keep (Keep.of_below (S := fun _ => False) hb23) id (fun _ _ _ _ h => h)
  have hkP : k < P := by obtain ⟨⟨A, c', hbk, _⟩⟩ := hfo; have := blk_lt hbk; omega
  have hB3 : w0.heap.size ≤ w3.heap.size := Nat.le_trans hz1 hb23.size
  have HN2 := Lib.hid (fnum_walk (d.drop 4) k w0.heap.size w3 hfo3 (by rw [List.length_drop]; have := HL8.out; omega) (by rw [List.length_drop]; have := HL8.out; omega) HK.out hB3)
  have HXP := Lib.hid hxp
  have HX3 := Lib.hid ((Keep.of_below (S := fun _ => False) hb23).blk HX2.out id)
  have B3 := Lib.hid (B2.out.trans (hb23.mono B2.out.size))
  have HKP := Lib.hid hkP
  have HPP : Hid (w.heap.size + 1 ≤ P) := Lib.hid (by have := HZ0.out; omega)
  clear hw3 hP hb23 hxp hfo3 hfo hkP hb2 hk2 hz1 hB3
  go_wp2_with fail
  refine HN2.out.mono ?_
  rintro e w4 ⟨rfl, hfo, hb4, hk4⟩
  obtain ⟨n2, hn2⟩ : ∃ n, n = unle ((d.drop 4).take 4) := ⟨_, rfl⟩
  rw [← hn2]
  have hnu : numsE b = ⟨n1, n2, r⟩ := by
    unfold numsE
    rw [HGY.out, HRR.out, HV1.out, hn2, HDD.out, List.take_take, List.drop_take, List.take_take]
    rfl
  have HNU := Lib.hid hnu
  have hxp4 := hk4.blk HXP.out (by have := HKP.out; omega)
  have HXP4 := Lib.hid hxp4
  have HX4 := Lib.hid (hk4.blk HX3.out (by have := HK.out; have := HZ0.out; omega))
  have B4 := Lib.hid (B3.out.trans (hb4.mono (by have := HZ0.out; omega)))
  have cp1 := (blk_cells hxp4 1).trans rfl
  have fp1 := blk_frees hxp4 1
  clear hn2 hnu hxp4 hfo hb4 hk4
  go_upto_region 6 with fail
  obtain ⟨w5, hw5⟩ : ∃ w5, w5 = w4.setCell ⟨P, 1, none⟩ (.int .i64 (n2 : Int)) := ⟨_, rfl⟩
  rw [← hw5]
  have hk5 : Keep (fun j => j = P) w4 w5 := by rw [hw5]; exact keep_set _ _ _ _
  have hxp5 : w5.heap[P]? = some (.cells #[.int .i64 (n1 : Int), .int .i64 (n2 : Int), .slice none 0 0] 155 (0, 0)) := by
    have := blk_set (j := 1) HXP4.out (.int .i64 (n2 : Int))
    rw [← hw5] at this
    simpa using this
  have HXP5 := Lib.hid hxp5
  have HX5 := Lib.hid (hk5.blk HX4.out (by have := HPP.out; omega))
  have B5 := Lib.hid (B4.out.trans (hk5.below (fun j e => by rw [e]; have := HPP.out; omega) B4.out.size))
  have cy5 : w5.cell? ⟨g, o + 12, none⟩ = some (.int .u8 (y.toNat : Int)) := (Keep.of_below (S := fun _ => False) B5.out).cell HCY.out id
  clear hw5 hk5 hxp5 cp1 fp1
  go_wp2_with fail
  refine (HCL.out w5 B5.out).mono ?_
  rintro e w6 ⟨A6, c6, rfl, hob, hb6⟩
  have hxp6 := (Keep.of_below (S := fun _ => False) hb6).blk HXP5.out id
  have HXP6 := Lib.hid hxp6
  have HX6 := Lib.hid ((Keep.of_below (S := fun _ => False) hb6).blk HX5.out id)
  have B6 := Lib.hid (B5.out.trans (hb6.mono B5.out.size))
  have cp2 := (blk_cells hxp6 2).trans rfl
  have fp2 := blk_frees hxp6 2
  have HNB6 := Lib.hid (hob.nb.mono B5.out.size)
  clear hxp6 hb6 cy5 hob
  go_upto_region 7 with fail
  obtain ⟨w7, hw7⟩ : ∃ w7, w7 = w6.setCell ⟨P, 2, none⟩ (.slice A6 y.toNat c6) := ⟨_, rfl⟩
  rw [← hw7]
  have hk7 : Keep (fun j => j = P) w6 w7 := by rw [hw7]; exact keep_set _ _ _ _
  have hxp7 : w7.heap[P]? = some (.cells #[.int .i64 (n1 : Int), .int .i64 (n2 : Int), .slice A6 y.toNat c6] 155 (0, 0)) := by
    have := blk_set (j := 2) HXP6.out (.slice A6 y.toNat c6)
    rw [← hw7] at this
    simpa using this
  have hnb7 := HNB6.out.keep hk7 (fun j e hj => by obtain ⟨_, cs, fr, hb'⟩ := HNB6.out.fresh j e; exact blk_ne hb' HXP6.out (by decide) hj)
  have c0 := (blk_cells hxp7 0).trans rfl
  have c1 := (blk_cells hxp7 1).trans rfl
  have c2 := (blk_cells hxp7 2).trans rfl
  have HXP7 := Lib.hid hxp7
  have HX7 := Lib.hid (hk7.blk HX6.out (by have := HPP.out; omega))
  have B7 := Lib.hid (B6.out.trans (hk7.below (fun j e => by rw [e]; have := HPP.out; omega) B6.out.size))
  have HNB7 := Lib.hid hnb7
  clear hw7 hk7 hxp7 cp2 fp2 hnb7
  by_cases hok : SeS.ok ⟨n1, n2, r⟩
  · have hen := seatencode_walk ⟨n1, n2, r⟩ hok A6 c6 w7 HNB7.out.sl
    unfold SeS.val at hen
    simp only [HRL.out] at hen
    have HEN := Lib.hid hen
    have hok' := Lib.hid hok
    clear hok hen
    go_wp2_with fail
    refine HEN.out.mono ?_
    rintro e w8 ⟨A8, d8, hd8, rfl, hnb, hb8⟩
    have HEQ := Lib.hid (equal_walk d8 b A8 (some ⟨g, o, none⟩) d8.length c w8 hnb.sl (HSL.out.below (B7.out.trans (hb8.mono B7.out.size))))
    have hx8 := (Keep.of_below (S := fun _ => False) hb8).blk HX7.out id
    have r0 := (blk_cells hx8 0).trans rfl
    have r1 := (blk_cells hx8 1).trans rfl
    have r2 := (blk_cells hx8 2).trans rfl
    have f0 := blk_frees hx8 0
    have f1 := blk_frees hx8 1
    have f2 := blk_frees hx8 2
    have hxp8 := (Keep.of_below (S := fun _ => False) hb8).blk HXP7.out id
    have s0 := (blk_cells hxp8 0).trans rfl
    have s1 := (blk_cells hxp8 1).trans rfl
    have s2 := (blk_cells hxp8 2).trans rfl
    have HX8 := Lib.hid hx8
    have B8 := Lib.hid (B7.out.trans (hb8.mono B7.out.size))
    have HNB8 := Lib.hid (HNB7.out.below hb8)
    rw [HB.out] at HEQ
    have HD8 := Lib.hid hd8
    clear hx8 hxp8 hb8 c0 c1 c2 hnb hd8
    cases hde : (d8 == b) with
    | true =>
      rw [hde] at HEQ
      have HDS : Hid (decE b = some ⟨n1, n2, r⟩) := Lib.hid (by unfold decE; rw [HNU.out, HGY.out, if_pos ⟨HY96.out, hok'.out, by rw [← HD8.out]; exact eq_of_beq hde⟩])
      clear hde
      go_wp2_with fail
      refine HEQ.out.mono ?_
      rintro e W ⟨rfl, hWW⟩
      have hWW' := hWW.symm
      subst hWW'
      clear hWW
      go_wp2
      obtain ⟨e3, ke⟩ := set3 HX8.out (.int .i64 (n1 : Int)) (.int .i64 (n2 : Int)) (.slice A6 y.toNat c6)
      have HF := Lib.hid (B8.out.trans (ke.below (fun j e => by rw [e]; exact Nat.le_refl _) B8.out.size))
      have HNW := Lib.hid (HNB8.out.keep ke (fun j e hj => by obtain ⟨_, cs, fr, hb'⟩ := HNB8.out.fresh j e; exact blk_ne hb' HX8.out (by decide) hj))
      generalize ((w8.setCell ⟨w.heap.size, 0, none⟩ (.int .i64 (n1 : Int))).setCell ⟨w.heap.size, 1, none⟩ (.int .i64 (n2 : Int))).setCell ⟨w.heap.size, 2, none⟩ (.slice A6 y.toNat c6) = Wf at e3 HF HNW ⊢
      have q0 := (blk_cells e3 0).trans rfl
      have q1 := (blk_cells e3 1).trans rfl
      have q2 := (blk_cells e3 2).trans rfl
      clear e3 ke
      refine bodyPost_ret (v := .tuple #[.agg #[(.int .i64 (n1 : Int)), (.int .i64 (n2 : Int)), (.slice A6 y.toNat c6)], .int .i64 0]) (by simp [results, Tryz.results93, go_sem, q0, q1, q2]; try rfl) rfl ?_
      unfold EDecR
      rw [HDS.out]
      exact ⟨HF.out, A6, c6, by unfold SeS.val; simp only [HRL.out], HNW.out⟩
    | false =>
      rw [hde] at HEQ
      have HDS : Hid (decE b = none) := Lib.hid (by unfold decE; rw [HNU.out, if_neg (fun h => by have h := h.2; rw [← HD8.out] at h; rw [h.2, beq_self_eq_true] at hde; cases hde)])
      clear hde
      go_wp2_with fail
      refine HEQ.out.mono ?_
      rintro e W ⟨rfl, hWW⟩
      have hWW' := hWW.symm
      subst hWW'
      clear hWW
      go_wp2
      obtain ⟨e3, ke⟩ := set3 HX8.out (.int .i64 0) (.int .i64 0) (.slice none 0 0)
      have HF := Lib.hid (B8.out.trans (ke.below (fun j e => by rw [e]; exact Nat.le_refl _) B8.out.size))
      generalize ((w8.setCell ⟨w.heap.size, 0, none⟩ (.int .i64 0)).setCell ⟨w.heap.size, 1, none⟩ (.int .i64 0)).setCell ⟨w.heap.size, 2, none⟩ (.slice none 0 0) = Wf at e3 HF ⊢
      have q0 := (blk_cells e3 0).trans rfl
      have q1 := (blk_cells e3 1).trans rfl
      have q2 := (blk_cells e3 2).trans rfl
      clear e3 ke
      refine bodyPost_ret (v := .tuple #[.agg #[(.int .i64 0), (.int .i64 0), (.slice none 0 0)], .int .i64 2]) (by simp [results, Tryz.results93, go_sem, q0, q1, q2]; try rfl) rfl ?_
      unfold EDecR
      rw [HDS.out]
      exact ⟨HF.out, rfl⟩
  · have hen := seatencode_no ⟨n1, n2, r⟩ hok A6 c6 w7
    unfold SeS.val at hen
    simp only [HRL.out] at hen
    have HEN := Lib.hid hen
    have HDS : Hid (decE b = none) := Lib.hid (by unfold decE; rw [HNU.out, if_neg (fun h => hok h.2.1)])
    clear hok hen
    go_wp2_with fail
    refine HEN.out.mono ?_
    rintro e w8 ⟨rfl, hb8⟩
    have hx8 := (Keep.of_below (S := fun _ => False) hb8).blk HX7.out id
    have r0 := (blk_cells hx8 0).trans rfl
    have r1 := (blk_cells hx8 1).trans rfl
    have r2 := (blk_cells hx8 2).trans rfl
    have f0 := blk_frees hx8 0
    have f1 := blk_frees hx8 1
    have f2 := blk_frees hx8 2
    have HX8 := Lib.hid hx8
    have B8 := Lib.hid (B7.out.trans (hb8.mono B7.out.size))
    clear hx8 hb8 c0 c1 c2
    go_wp2
    obtain ⟨e3, ke⟩ := set3 HX8.out (.int .i64 0) (.int .i64 0) (.slice none 0 0)
    have HF := Lib.hid (B8.out.trans (ke.below (fun j e => by rw [e]; exact Nat.le_refl _) B8.out.size))
    generalize ((w8.setCell ⟨w.heap.size, 0, none⟩ (.int .i64 0)).setCell ⟨w.heap.size, 1, none⟩ (.int .i64 0)).setCell ⟨w.heap.size, 2, none⟩ (.slice none 0 0) = Wf at e3 HF ⊢
    have q0 := (blk_cells e3 0).trans rfl
    have q1 := (blk_cells e3 1).trans rfl
    have q2 := (blk_cells e3 2).trans rfl
    clear e3 ke
    refine bodyPost_ret (v := .tuple #[.agg #[(.int .i64 0), (.int .i64 0), (.slice none 0 0)], .int .i64 2]) (by simp [results, Tryz.results93, go_sem, q0, q1, q2]; try rfl) rfl ?_
    unfold EDecR
    rw [HDS.out]
    exact ⟨HF.out, rfl⟩
end Go.Proofs.YtehfoopefefpnaaGreat
/- Numbers in new memory: slices.Clone at int; package node: pointers. -/
set_option linter.unusedSimpArgs false
set_option linter.unusedVariables false
namespace Go.Proofs.YtehfoopefefpnaaGreat
open Go.RowKit

attribute [local go_sem ↓] Go.wp_at_zero Go.wp_at_succ
def iv (l : List Int) : List Value := l.map fun n => .int .i64 n
theorem iv_length (l : List Int) : (iv l).length = l.length := by simp [iv]
theorem iv_one (l : List Int) : ∀ u ∈ iv l, u.oneCell' = true := by
  intro u hu
  obtain ⟨b, _, rfl⟩ := List.mem_map.1 hu
  rfl
theorem iv_app (a b : List Int) : iv (a ++ b) = iv a ++ iv b := by simp [iv]
theorem eltI : Elt Tryz.prog 29 3 1 8 := Elt.mk' (z := .int .i64 0) (by kernel_rfl) (by kernel_rfl) (by kernel_rfl) (by simp [Value.oneCell', Value.cells]) (by decide)
/-- A row of numbers of one's own, new. -/
structure OI (B : Nat) (w : World) (A : Option Addr) (c : Nat) (d : List Int) : Prop where
  own : w.ownsRow 0 3 1 (.slice A d.length c) d.length (iv d)
  fresh : ∀ j, A.map (·.block) = some j → B ≤ j
theorem OI.below {B : Nat} {w w' : World} {A : Option Addr} {c : Nat} {d : List Int} (h : OI B w A c d) (hb : Below w.heap.size w w') : OI B w' A c d :=
  ⟨own_keep h.own (Keep.of_below (S := fun _ => False) hb) (fun _ _ h => h), h.fresh⟩
theorem OI.mono {B B' : Nat} {w : World} {A : Option Addr} {c : Nat} {d : List Int} (h : OI B w A c d) (hB : B' ≤ B) : OI B' w A c d := ⟨h.own, fun j e => Nat.le_trans hB (h.fresh j e)⟩
theorem iclone_walk (d : List Int) (A : Option Addr) (c : Nat) (w : World) (h : Sl w 1 (.slice A d.length c) d.length (iv d)) (hn : d.length ≤ 1000000000) :
    Calls Tryz.prog 114 #[.slice A d.length c] w fun e w' => ∃ A' c', e = .returned (.slice A' d.length c') ∧ OI w.heap.size w' A' c' d ∧ Below w.heap.size w w' := by
  cases A with
  | none =>
    obtain ⟨A', c', e', _, hz, _, _⟩ := h
    injection e' with e1 e2 e3
    subst e1 e3
    obtain ⟨h1, h2⟩ := hz rfl
    have hd : d = [] := List.eq_nil_of_length_eq_zero h1
    subst hd
    have hnil := fun w => Lib.run_eql_slice_nil (P := Tryz.prog) w 29 3 none 0 0 0 0 Tryz.underlying29
    subst h2
    rw [List.length_nil]
    clear h1 hz hn
    go_enter Tryz.func114, Tryz.ntmps114
    go_wp2
    go_ret
    exact ⟨none, 0, rfl, ⟨own_nil' _ 0 _ 1, fun j e => by cases e⟩, Below.refl _ _⟩
  | some ad =>
    have hnil := fun w => Lib.run_eql_slice_nil (P := Tryz.prog) w 29 3 (some ad) d.length c 0 0 Tryz.underlying29
    have HS := Lib.hid (h.below ((Below.refl w.heap.size w).alloc (Nat.le_refl _) (.cells #[] 3)))
    have HO := Lib.hid (own_new w #[] 3 1 0 rfl (by decide))
    clear h
    go_enter Tryz.func114, Tryz.ntmps114
    go_wp2_with (at_builtin; go_must (refine wpList_app rfl eltI rfl rfl rfl (n := 0) (m := d.length) HO.out HS.out (iv_one d) (by omega) (by simp only [maxLen]; omega) ?_))
    intro v4 w4 g1 g2 g3 g4
    clear g4
    obtain ⟨A4, c4, rfl, _⟩ := Rd.of_own g1
    have HN : Hid (OI w.heap.size w4 A4 c4 d ∧ Below w.heap.size w w4) := Lib.hid ⟨⟨by simpa using g1, fun j e => by
      rcases g3 with g3 | g3 <;> rw [ownB_slice, e] at g3
      · injection g3 with g3
        have g3 : j = w.heap.size := g3
        omega
      · injection g3 with g3
        have : (w.alloc (.cells #[] 3)).heap.size = w.heap.size + 1 := by simp
        omega⟩, ((Below.refl w.heap.size w).alloc (Nat.le_refl _) _).trans (g2.below (fun j e => by rw [ownB_slice] at e; injection e with e; have e : w.heap.size = j := e; omega) (by simp))⟩
    clear g1 g2 g3
    go_wp2
    go_ret
    exact ⟨A4, c4, by simp, HN.out.1, HN.out.2⟩
structure NoS where
  kind : Nat
  links : Nat
  gen : Nat
  size : Nat
  change : Nat
  p0 : Nat
  p1 : Nat
  p2 : Nat
  p3 : Nat
  one : Nat
  two : Nat
def NoS.cells (x : NoS) : Array Value := #[.int .i64 (x.kind : Int), .int .i64 (x.links : Int), .int .i64 (x.gen : Int), .int .i64 (x.size : Int), .int .i64 (x.change : Int), .int .i64 (x.p0 : Int), .int .i64 (x.p1 : Int), .int .i64 (x.p2 : Int), .int .i64 (x.p3 : Int), .int .i64 (x.one : Int), .int .i64 (x.two : Int)]
def NoS.val (x : NoS) : Value := .agg x.cells
def NoS.ptrs (x : NoS) : List Int := [(x.p0 : Int), x.p1, x.p2, x.p3, x.one, x.two]
set_option maxRecDepth 100000 in
set_option maxHeartbeats 4000000 in
theorem pointers_walk (x : NoS) (w : World) : Calls Tryz.prog 142 #[x.val] w fun e w' => ∃ A c, e = .returned (.slice A 6 c) ∧ OI w.heap.size w' A c x.ptrs ∧ Below w.heap.size w w' := by
  unfold NoS.val NoS.cells
  obtain ⟨w0, hw0⟩ : ∃ w0, w0 = w.alloc (.cells #[.int .i64 (x.kind : Int), .int .i64 (x.links : Int), .int .i64 (x.gen : Int), .int .i64 (x.size : Int), .int .i64 (x.change : Int), .int .i64 (x.p0 : Int), .int .i64 (x.p1 : Int), .int .i64 (x.p2 : Int), .int .i64 (x.p3 : Int), .int .i64 (x.one : Int), .int .i64 (x.two : Int)] 69) := ⟨_, rfl⟩
  have hb0 : Below w.heap.size w w0 := by rw [hw0]; exact (Below.refl _ w).alloc (Nat.le_refl _) _
  have hx0 : w0.heap[w.heap.size]? = some (.cells x.cells 69 (0, 0)) := by rw [hw0]; exact blk_new w _
  have hsl : Sl w0 1 (.slice (some ⟨w.heap.size, 5, none⟩) 4 4) 4 (iv [(x.p0 : Int), x.p1, x.p2, x.p3]) := by
    refine ⟨_, _, rfl, .inr ⟨_, rfl, fun j u hu => ?_⟩, (fun e => by cases e), Nat.le_refl _, rfl⟩
    rw [Addr.add_lit, blk_cells hx0]
    have hj : j < 4 := by have := (List.getElem?_eq_some_iff.1 hu).1; exact this
    rcases (by omega : j = 0 ∨ j = 1 ∨ j = 2 ∨ j = 3) with e | e | e | e <;> subst e <;> exact hu
  have HCL := Lib.hid (fun (W : World) (hW : Below w0.heap.size w0 W) => iclone_walk [(x.p0 : Int), x.p1, x.p2, x.p3] (some ⟨w.heap.size, 5, none⟩) 4 W (hsl.below hW) (by simp))
  have HK := Lib.hid (fun (W : World) (hW : Below w0.heap.size w0 W) => (show W.cell? ⟨w.heap.size, 9, none⟩ = some (.int .i64 (x.one : Int)) ∧ W.cell? ⟨w.heap.size, 10, none⟩ = some (.int .i64 (x.two : Int)) from by
    have h := blk_cells ((Keep.of_below (S := fun _ => False) hW).blk hx0 id)
    exact ⟨h 9, h 10⟩))
  have HW0 := Lib.hid hw0
  have HB0 := Lib.hid hb0
  obtain ⟨P, hP⟩ : ∃ P, P = w.heap.size := ⟨_, rfl⟩
  obtain ⟨y1, hy1⟩ : ∃ y : Int, y = (x.one : Int) := ⟨_, rfl⟩
  obtain ⟨y2, hy2⟩ : ∃ y : Int, y = (x.two : Int) := ⟨_, rfl⟩
  have HPT : Hid (x.ptrs = [(x.p0 : Int), x.p1, x.p2, x.p3] ++ [y1, y2]) := Lib.hid (by rw [hy1, hy2]; rfl)
  rw [← hP, ← hy1, ← hy2] at HK
  rw [← hP] at HCL
  obtain ⟨q, hq⟩ : ∃ q : List Int, q = [(x.p0 : Int), x.p1, x.p2, x.p3] := ⟨_, rfl⟩
  have hq4 : q.length = 4 := by rw [hq]; rfl
  have hcl : ∀ (W : World), Below w0.heap.size w0 W → Calls Tryz.prog 114 #[.slice (some ⟨P, 5, none⟩) 4 4] W fun e w' => ∃ A' c', e = .returned (.slice A' 4 c') ∧ (w'.ownsRow 0 3 1 (.slice A' 4 c') 4 (iv q) ∧ ∀ j, A'.map (·.block) = some j → W.heap.size ≤ j) ∧ Below W.heap.size W w' := by rw [hq]; exact fun W hW => (HCL.out W hW).mono fun e w' ⟨A', c', he, ho, hb⟩ => ⟨A', c', he, ⟨ho.own, ho.fresh⟩, hb⟩
  have HC2 := Lib.hid hcl
  rw [← hq] at HPT
  have HQ4 := Lib.hid hq4
  clear hw0 hb0 hx0 hsl hq hq4 hcl HCL hy1 hy2
  go_enter Tryz.func142, Tryz.ntmps142
  go_upto_region 1 with fail
  rw [← HW0.out, ← hP]
  clear hP
  have HD0 := Lib.hid ((Below.refl w0.heap.size w0).drew)
  have HD2 := Lib.hid (((Below.refl w0.heap.size w0).alloc (Nat.le_refl _) (.cells #[.int .i64 y1, .int .i64 y2] 3)).drew)
  have HS2 : Hid (Sl (w0.alloc (.cells #[.int .i64 y1, .int .i64 y2] 3)).drew 1 (.slice (some ⟨w0.heap.size, 0, none⟩) 2 2) 2 (iv [y1, y2])) := Lib.hid (Sl.of_own (own_new w0 #[.int .i64 y1, .int .i64 y2] 3 1 2 rfl (by decide)).drew)
  have HZ2 : Hid (w0.heap.size ≤ (w0.alloc (.cells #[.int .i64 y1, .int .i64 y2] 3)).drew.heap.size) := Lib.hid HD2.out.size
  go_region_held3 (fun w' => w'.cell? ⟨P, 9, none⟩ = some (.int .i64 y1) ∧ w'.cell? ⟨P, 10, none⟩ = some (.int .i64 y2)) (first | exact HK.out _ HD0.out | exact HK.out _ HD2.out | exact HK.out _ K3.out | exact HK.out _ K1.out | exact HK.out _ (K1.out.alloc B1.out _)) (first | (go_at_call 114; refine (HC2.out _ HD0.out).mono ?_; rintro e w1 ⟨A1, c1, rfl, ho1, hb1⟩; have HO1 := Lib.hid ho1; have K1 := Lib.hid (HD0.out.trans hb1); have B1 := Lib.hid (show w0.heap.size ≤ w1.heap.size from hb1.size); clear ho1 hb1) | (go_at_call 114; refine (HC2.out _ HD2.out).mono ?_; rintro e w1 ⟨A1, c1, rfl, ho1, hb1⟩; have HO1 := Lib.hid (show w1.ownsRow 0 3 1 (.slice A1 4 c1) 4 (iv q) ∧ ∀ j, A1.map (·.block) = some j → w0.heap.size ≤ j from ⟨ho1.1, fun j e => Nat.le_trans HZ2.out (ho1.2 j e)⟩); have K1 := Lib.hid (HD2.out.trans (hb1.mono HZ2.out)); have SS1 := Lib.hid (HS2.out.below hb1); have B1 := Lib.hid (Nat.le_trans HZ2.out hb1.size); clear ho1 hb1) | (refine step_app (by rfl) eltI (by rfl) (by rfl) (by rfl) (n := 4) (m := 2) HO1.out.1 SS1.out (iv_one _) (by decide) (by decide) ?_; intro v3 w3 o3 k3 a3 _; have O3 := Lib.hid o3; have K3 := Lib.hid (K1.out.trans (k3.below (fun j e => HO1.out.2 j (by rw [ownB_slice] at e; exact e)) B1.out)); have A3 : Hid (∀ j, v3.ownBlock = some j → w0.heap.size ≤ j) := Lib.hid (fun j e => by rcases a3 with a3 | a3; exact HO1.out.2 j (by rw [a3, ownB_slice] at e; exact e); rw [a3] at e; have := Option.some.inj e; have := B1.out; omega); clear o3 k3 a3) | (refine step_app (by rfl) eltI (by rfl) (by rfl) (by rfl) (n := 4) (m := 2) (own_keep HO1.out.1 ((Keep.refl (fun _ => False) _).alloc _) (fun _ _ h => h)) (Sl.of_own (own_new w1 #[.int .i64 y1, .int .i64 y2] 3 1 2 rfl (by decide))) (by simp [Value.oneCell']) (by decide) (by decide) ?_; intro v3 w3 o3 k3 a3 _; have O3 := Lib.hid o3; have K3 := Lib.hid ((K1.out.alloc B1.out _).trans (k3.below (fun j e => HO1.out.2 j (by rw [ownB_slice] at e; exact e)) (by have := B1.out; simp; omega))); have A3 : Hid (∀ j, v3.ownBlock = some j → w0.heap.size ≤ j) := Lib.hid (fun j e => by rcases a3 with a3 | a3; exact HO1.out.2 j (by rw [a3, ownB_slice] at e; exact e); rw [a3] at e; have e := Option.some.inj e; have hh := B1.out; rw [World.size_alloc] at e; omega); clear o3 k3 a3))
  all_goals
    obtain ⟨A4, c4, rfl, _⟩ := Rd.of_own O3.out
    have HF : Hid (OI w.heap.size w3 A4 c4 x.ptrs) := Lib.hid ⟨by rw [HPT.out, iv_app, List.length_append, HQ4.out]; exact O3.out, fun j e => Nat.le_trans HB0.out.size (A3.out j (by rw [ownB_slice]; exact e))⟩
    have HBF := Lib.hid (HB0.out.trans (K3.out.mono HB0.out.size))
    go_wp2
    go_ret
    exact ⟨A4, c4, rfl, HF.out, HBF.out⟩
end Go.Proofs.YtehfoopefefpnaaGreat
/- Package node: Sound. -/
set_option linter.unusedSimpArgs false
set_option linter.unusedVariables false
namespace Go.Proofs.YtehfoopefefpnaaGreat
open Go.RowKit

attribute [local go_sem ↓] Go.wp_at_zero Go.wp_at_succ
def ptrB (n : Nat) : Bool := decide (n = 0 ∨ 43 ≤ n ∧ n < 1024)
theorem pointer_yes (n : Nat) (h : ptrB n = true) (w : World) : Calls Tryz.prog 144 #[.int .i64 (n : Int)] w fun e w' => e = .returned (.bool true) ∧ w' = w := by
  have h' : n = 0 ∨ 43 ≤ n ∧ n < 1024 := of_decide_eq_true h
  by_cases h0 : n = 0
  · subst h0
    go_enter Tryz.func144, Tryz.ntmps144
    go_wp2
    go_ret
    exact ⟨rfl, rfl⟩
  · have e0 : ((n : Int) == 0) = false := beq_eq_false_iff_ne.2 (by omega)
    have h1 : (43 : Int) ≤ (n : Int) := by omega
    have h2 : (n : Int) < 1024 := by omega
    clear h h'
    go_enter Tryz.func144, Tryz.ntmps144
    go_wp2
    go_ret
    exact ⟨rfl, rfl⟩
theorem nopointer_walk (n : Nat) (h : ptrB n = true) (w : World) : Calls Tryz.prog 143 #[.int .i64 (n : Int)] w fun e w' => e = .returned (.bool false) ∧ w' = w := by
  have HP := Lib.hid (pointer_yes n h w)
  clear h
  go_enter Tryz.func143, Tryz.ntmps143
  go_wp2_with fail
  refine HP.out.mono ?_
  rintro e W ⟨rfl, hWW⟩
  have hWW' := hWW.symm
  subst hWW'
  clear hWW
  go_wp2
  go_ret
  exact ⟨rfl, rfl⟩
theorem iv_at {w : World} {A : Option Addr} {c n k : Nat} {l : List Int} (h : Sl w 1 (.slice A n c) n (iv l)) {e : Int} (hl : l[k]? = some e) : ∃ b o, A = some ⟨b, o, none⟩ ∧ b < w.heap.size ∧ w.cell? ⟨b, o + k, none⟩ = some (.int .i64 e) := by
  obtain ⟨A', c', e', hr, _⟩ := h
  injection e' with e1 _ e2
  subst e1
  have q0 : (iv l)[k]? = some (.int .i64 e) := by simp [iv, hl]
  rcases hr with h0 | ⟨ad, rfl, hc⟩
  · rw [h0] at q0; simp at q0
  · have h0 := hc _ _ q0
    obtain ⟨b, o, spot⟩ := ad
    obtain ⟨e0, he0⟩ : ∃ e0, l[0]? = some e0 := ⟨l[0]'(by have := (List.getElem?_eq_some_iff.1 hl).1; omega), List.getElem?_eq_getElem _⟩
    have hz := hc 0 (.int .i64 e0) (by simp [iv, he0])
    have es : spot = none := by
      have : (⟨b, o, spot⟩ : Addr).add 0 = ⟨b, o, spot⟩ := by unfold Addr.add; simp
      rw [this] at hz
      exact World.cell?_spot hz
    subst es
    rw [Addr.add_lit] at h0
    exact ⟨b, o, rfl, World.block_lt_of_cell? w _ h0, h0⟩
theorem idxfunc_none (l : List Int) (A : Option Addr) (c : Nat) (w : World) (h : Sl w 1 (.slice A l.length c) l.length (iv l)) (hl : l.length ≤ 1000000) (hp : ∀ x ∈ l, ∃ n : Nat, x = (n : Int) ∧ ptrB n = true) : Calls Tryz.prog 141 #[.slice A l.length c, .func (.func 143) #[] #[]] w fun e w' => e = .returned (.int .i64 (-1)) ∧ w' = w := by
  have H := Lib.hid h
  have HP := Lib.hid hp
  clear h hp
  go_enter Tryz.func141, Tryz.ntmps141
  go_wp2_with fail
  go_loop [8] (fun v => ∃ i : Nat, i ≤ l.length ∧ v = .int .i64 (i : Int)) (fun v => l.length - (intOf v).toNat)
  case atStart => exact ⟨0, Nat.zero_le _, rfl⟩
  case round =>
    obtain ⟨i, hi, rfl⟩ := hrel
    by_cases hlt : i < l.length
    · obtain ⟨x, hx⟩ : ∃ x, l[i]? = some x := ⟨l[i], List.getElem?_eq_getElem hlt⟩
      obtain ⟨n, rfl, hn⟩ := HP.out x (List.mem_of_getElem? hx)
      obtain ⟨b, o, rfl, _, hc⟩ := iv_at H.out hx
      have g1 : (i : Int) < (l.length : Int) := by omega
      have g0 : (0 : Int) ≤ (i : Int) := by omega
      have g2 : IntKind.i64.wrap ((i : Int) + 1) = (i : Int) + 1 := IntWalk.i64_in _ (by omega)
      have HN := Lib.hid (nopointer_walk n hn w)
      clear hx hn
      go_wp2_with fail
      refine HN.out.mono ?_
      rintro e W ⟨rfl, hWW⟩
      have hWW' := hWW.symm
      subst hWW'
      clear hWW
      go_wp2_with fail
      exact ⟨⟨i + 1, hlt, by rw [Int.natCast_add]; rfl⟩, by simp only [intOf]; omega⟩
    · obtain rfl : i = l.length := by omega
      have g1 : ¬ (l.length : Int) < (l.length : Int) := by omega
      go_wp2
      go_ret
      exact ⟨rfl, rfl⟩
theorem confunc_none (l : List Int) (A : Option Addr) (c : Nat) (w : World) (h : Sl w 1 (.slice A l.length c) l.length (iv l)) (hl : l.length ≤ 1000000) (hp : ∀ x ∈ l, ∃ n : Nat, x = (n : Int) ∧ ptrB n = true) : Calls Tryz.prog 115 #[.slice A l.length c, .func (.func 143) #[] #[]] w fun e w' => e = .returned (.bool false) ∧ w' = w := by
  have H := Lib.hid (idxfunc_none l A c w h hl hp)
  clear h hp
  go_enter Tryz.func115, Tryz.ntmps115
  go_wp2_with fail
  refine H.out.mono ?_
  rintro e W ⟨rfl, hWW⟩
  have hWW' := hWW.symm
  subst hWW'
  clear hWW
  go_wp2
  go_ret
  exact ⟨rfl, rfl⟩
def NoS.okK (x : NoS) : Prop := x.kind = 0 ∧ x.links = 0 ∧ x.size = 0 ∧ x.p0 = 0 ∧ x.p1 = 0 ∧ x.p2 = 0 ∧ x.p3 = 0 ∧ x.one = 0 ∧ x.two = 0 ∨ x.kind = 1 ∧ 1 ≤ x.links ∧ x.links ≤ 255 ∧ x.size ≤ 9728 ∨ x.kind = 2 ∧ x.links = 1 ∧ x.size ≤ 9728 ∧ x.size % 32 = 0
structure NoS.ok (x : NoS) : Prop where
  gen : x.gen ≤ 1073741824
  change : x.change ≤ 1073741824
  q0 : ptrB x.p0 = true
  q1 : ptrB x.p1 = true
  q2 : ptrB x.p2 = true
  q3 : ptrB x.p3 = true
  q4 : ptrB x.one = true
  q5 : ptrB x.two = true
  kd : x.okK
set_option maxRecDepth 100000 in
set_option maxHeartbeats 8000000 in
theorem nsound_walk (x : NoS) (h : x.ok) (w : World) : Calls Tryz.prog 121 #[x.val] w fun e w' => e = .returned (.bool true) ∧ Below w.heap.size w w' := by
  have HP := Lib.hid (fun W => pointers_walk x W)
  have HF := Lib.hid (fun (A : Option Addr) (c : Nat) (W : World) (hs : Sl W 1 (.slice A 6 c) 6 (iv x.ptrs)) => confunc_none x.ptrs A c W hs (by show 6 ≤ 1000000; decide) (by
    intro y hy
    simp only [NoS.ptrs, List.mem_cons, List.not_mem_nil, or_false] at hy
    rcases hy with e | e | e | e | e | e
    · exact ⟨x.p0, e, h.q0⟩
    · exact ⟨x.p1, e, h.q1⟩
    · exact ⟨x.p2, e, h.q2⟩
    · exact ⟨x.p3, e, h.q3⟩
    · exact ⟨x.one, e, h.q4⟩
    · exact ⟨x.two, e, h.q5⟩))
  obtain ⟨L, hL⟩ : ∃ L, L = x.ptrs := ⟨_, rfl⟩
  rw [← hL] at HP HF
  have HL6 : Hid (L.length = 6) := Lib.hid (by rw [hL]; rfl)
  obtain ⟨hg, hch, _, _, _, _, _, _, hkd⟩ := h
  obtain ⟨kind, links, gen, size, change, p0, p1, p2, p3, one, two⟩ := x
  unfold NoS.val NoS.cells at HP ⊢
  dsimp only at HP hg hch ⊢
  have w1b := Lib.hid (show Below w.heap.size w (w.alloc (.cells #[.int .i64 (kind : Int), .int .i64 (links : Int), .int .i64 (gen : Int), .int .i64 (size : Int), .int .i64 (change : Int), .int .i64 (p0 : Int), .int .i64 (p1 : Int), .int .i64 (p2 : Int), .int .i64 (p3 : Int), .int .i64 (one : Int), .int .i64 (two : Int)] 69)) from (Below.refl _ _).alloc (Nat.le_refl _) _)
  have q1 : ¬ (gen : Int) < 0 := by omega
  have q2 : ¬ (1073741824 : Int) < (gen : Int) := by omega
  have q3 : ¬ (change : Int) < 0 := by omega
  have q4 : ¬ (1073741824 : Int) < (change : Int) := by omega
  have HKD := Lib.hid hkd
  clear hL hkd
  go_enter Tryz.func121, Tryz.ntmps121
  go_wp2_with fail
  refine (HP.out _).mono ?_
  rintro e w2 ⟨A2, c2, rfl, ho2, hb2⟩
  have HF2 := Lib.hid (HF.out A2 c2 w2 (by have := Sl.of_own ho2.own; rw [HL6.out] at this; exact this))
  have B2 := Lib.hid (w1b.out.trans (hb2.mono w1b.out.size))
  have hx2 := (Keep.of_below (S := fun _ => False) hb2).blk (blk_new w _) id
  have cx := fun j => blk_cells hx2 j
  have c0 := (cx 0).trans rfl
  have c1 := (cx 1).trans rfl
  have c3 := (cx 3).trans rfl
  have c5 := (cx 5).trans rfl
  have c6 := (cx 6).trans rfl
  have c7 := (cx 7).trans rfl
  have c8 := (cx 8).trans rfl
  have c9 := (cx 9).trans rfl
  have c10 := (cx 10).trans rfl
  rw [HL6.out] at HF2
  clear cx hx2 ho2 hb2
  go_wp2_with fail
  refine HF2.out.mono ?_
  rintro e W ⟨rfl, hWW⟩
  have hWW' := hWW.symm
  subst hWW'
  clear hWW
  rcases HKD.out with ⟨k1, k2, k3, k4, k5, k6, k7, k8, k9⟩ | ⟨k1, k2, k3, k4⟩ | ⟨k1, k2, k3, k4⟩
  · dsimp only at k1 k2 k3 k4 k5 k6 k7 k8 k9
    subst k1 k2 k3 k4 k5 k6 k7 k8 k9
    have heq : ∀ w, (Op.equalIn 10000 67 (.agg #[.int .i64 0, .int .i64 0, .int .i64 0, .int .i64 0]) (.agg #[.int .i64 0, .int .i64 0, .int .i64 0, .int .i64 0])).run Tryz.prog w = .ok true w := fun _ => by kernel_rfl
    go_wp2
    go_ret
    exact ⟨rfl, B2.out⟩
  · dsimp only at k1 k2 k3 k4
    subst k1
    have r1 : (1 : Int) ≤ (links : Int) := by omega
    have r2 : (links : Int) ≤ 255 := by omega
    have r3 : (0 : Int) ≤ (size : Int) := by omega
    have r4 : (size : Int) ≤ 9728 := by omega
    go_wp2
    go_ret
    exact ⟨rfl, B2.out⟩
  · dsimp only at k1 k2 k3 k4
    subst k1 k2
    have r3 : (0 : Int) ≤ (size : Int) := by omega
    have r4 : (size : Int) ≤ 9728 := by omega
    have r5 : ((size : Int) % 32 == 0) = true := beq_iff_eq.2 (by omega)
    go_wp2
    go_ret
    exact ⟨rfl, B2.out⟩
end Go.Proofs.YtehfoopefefpnaaGreat
/- Package node: encode. -/
set_option linter.unusedSimpArgs false
set_option linter.unusedVariables false
namespace Go.Proofs.YtehfoopefefpnaaGreat
open Go.RowKit

attribute [local go_sem ↓] Go.wp_at_zero Go.wp_at_succ
def NoS.ptrN (x : NoS) : List Nat := [x.p0, x.p1, x.p2, x.p3, x.one, x.two]
def nodB (x : NoS) : Nat → List UInt8
  | 0 => [UInt8.ofNat x.kind, UInt8.ofNat x.links]
  | 1 => [UInt8.ofNat x.kind, UInt8.ofNat x.links] ++ le x.gen 4
  | 2 => [UInt8.ofNat x.kind, UInt8.ofNat x.links] ++ le x.gen 4 ++ le x.size 4
  | _ => [UInt8.ofNat x.kind, UInt8.ofNat x.links] ++ le x.gen 4 ++ le x.size 4 ++ le x.change 4
def nodC (x : NoS) (j : Nat) : List UInt8 := nodB x 3 ++ (x.ptrN.take j).flatMap (fun n => le n 2)
def nodeE (x : NoS) : List UInt8 := nodC x 6 ++ List.replicate 6 0
theorem flat2_len (l : List Nat) : (l.flatMap (fun n => le n 2)).length = 2 * l.length := by
  induction l with
  | nil => rfl
  | cons n l ih => rw [List.flatMap_cons, List.length_append, le_len, ih, List.length_cons]; omega
theorem nodC_len (x : NoS) (j : Nat) (hj : j ≤ 6) : (nodC x j).length = 14 + 2 * j := by
  unfold nodC
  rw [List.length_append, flat2_len, List.length_take]
  have : (nodB x 3).length = 14 := by simp [nodB, le_len]
  have h6 : x.ptrN.length = 6 := rfl
  rw [this, h6, Nat.min_eq_left hj]
theorem nodeE_len (x : NoS) : (nodeE x).length = 32 := by unfold nodeE; rw [List.length_append, nodC_len x 6 (by omega), List.length_replicate]
theorem nodC_succ (x : NoS) (j : Nat) (p : Nat) (h : x.ptrN[j]? = some p) : nodC x (j + 1) = nodC x j ++ [UInt8.ofNat p, UInt8.ofNat (p / 256)] := by
  unfold nodC
  rw [List.take_add_one, h, Option.toList_some, List.flatMap_append, List.append_assoc]
  rfl
def NEI (x : NoS) (w : World) (v3 v22 : Value) (W : World) : Prop := ∃ (i : Nat) (A : Option Addr) (c : Nat) (d : List UInt8), i ≤ 3 ∧ d = nodB x i ∧ v22 = .int .i64 (i : Int) ∧ v3 = .slice A d.length c ∧ AB w.heap.size W A c d ∧ Below w.heap.size w W ∧ W.heap[w.heap.size]? = some (.cells x.cells 69 (0, 0))
def NPI (L : List Int) (x : NoS) (w : World) (PA : Option Addr) (pc : Nat) (v3 v35 : Value) (W : World) : Prop := ∃ (j : Nat) (A : Option Addr) (c : Nat) (d : List UInt8), j ≤ 6 ∧ d = nodC x j ∧ v35 = .int .i64 (j : Int) ∧ v3 = .slice A d.length c ∧ AB w.heap.size W A c d ∧ Below w.heap.size w W ∧ W.ownsRow 0 3 1 (.slice PA 6 pc) 6 (iv L)
set_option maxRecDepth 100000 in
set_option maxHeartbeats 8000000 in
theorem nencode_walk (x : NoS) (h : x.ok) (w : World) : Calls Tryz.prog 122 #[x.val] w fun e w' => ∃ A c, e = .returned (.slice A 32 c) ∧ AB w.heap.size w' A c (nodeE x) ∧ Below w.heap.size w w' := by
  have HP := Lib.hid (fun W => pointers_walk x W)
  obtain ⟨hg, hch, _, _, _, _, _, _, hkd⟩ := h
  obtain ⟨x0, hx0⟩ : ∃ x0, x0 = x := ⟨_, rfl⟩
  obtain ⟨L, hL⟩ : ∃ L, L = x.ptrs := ⟨_, rfl⟩
  rw [← hL] at HP
  have HLP : Hid (∀ j p, L[j]? = some p → ∃ n : Nat, p = (n : Int) ∧ x0.ptrN[j]? = some n) := Lib.hid (by
    intro j p hj
    rw [hL] at hj
    have : x.ptrs = x.ptrN.map (fun n : Nat => (n : Int)) := rfl
    rw [this, List.getElem?_map] at hj
    cases hq : x.ptrN[j]? with
    | none => rw [hq] at hj; cases hj
    | some n => rw [hq] at hj; exact ⟨n, (Option.some.inj hj).symm, by rw [hx0]; exact hq⟩)
  have HL6 : Hid (L.length = 6) := Lib.hid (by rw [hL]; rfl)
  obtain ⟨kind, links, gen, size, change, p0, p1, p2, p3, one, two⟩ := x
  unfold NoS.val NoS.cells at HP ⊢
  dsimp only at HP hg hch ⊢
  have hkl : kind ≤ 2 ∧ links ≤ 255 ∧ size ≤ 9728 := by
    rcases hkd with ⟨k1, k2, k3, _⟩ | ⟨k1, k2, k3, k4⟩ | ⟨k1, k2, k3, k4⟩ <;> dsimp only at k1 k2 k3 <;> first | omega | (dsimp only at k4; omega)
  obtain ⟨hk2, hl2, hs2⟩ := hkl
  rw [← hx0]
  have HS0 := Lib.hid hx0
  obtain ⟨u1, hu1⟩ : ∃ u : UInt8, u = UInt8.ofNat kind := ⟨_, rfl⟩
  obtain ⟨u2, hu2⟩ : ∃ u : UInt8, u = UInt8.ofNat links := ⟨_, rfl⟩
  have hbv : [Value.int .u8 (kind : Int), .int .u8 (links : Int)] = bv [u1, u2] := by
    have h1 : u1.toNat = kind := by rw [hu1, UInt8.toNat_ofNat']; omega
    have h2 : u2.toNat = links := by rw [hu2, UInt8.toNat_ofNat']; omega
    unfold bv
    rw [List.map_cons, List.map_cons, List.map_nil, h1, h2]
  have HBV := Lib.hid hbv
  have HU1 := Lib.hid hu1
  have HU2 := Lib.hid hu2
  have w1b := Lib.hid (show Below w.heap.size w (w.alloc (.cells #[.int .i64 (kind : Int), .int .i64 (links : Int), .int .i64 (gen : Int), .int .i64 (size : Int), .int .i64 (change : Int), .int .i64 (p0 : Int), .int .i64 (p1 : Int), .int .i64 (p2 : Int), .int .i64 (p3 : Int), .int .i64 (one : Int), .int .i64 (two : Int)] 69)) from (Below.refl _ _).alloc (Nat.le_refl _) _)
  clear hL hkd hx0 hu1 hu2 hbv
  go_enter Tryz.func122, Tryz.ntmps122
  go_upto_region 2 with fail
  obtain ⟨w1, hw1⟩ : ∃ w1, w1 = w.alloc (.cells #[.int .i64 (kind : Int), .int .i64 (links : Int), .int .i64 (gen : Int), .int .i64 (size : Int), .int .i64 (change : Int), .int .i64 (p0 : Int), .int .i64 (p1 : Int), .int .i64 (p2 : Int), .int .i64 (p3 : Int), .int .i64 (one : Int), .int .i64 (two : Int)] 69) := ⟨_, rfl⟩
  have hx1 : w1.heap[w.heap.size]? = some (.cells #[.int .i64 (kind : Int), .int .i64 (links : Int), .int .i64 (gen : Int), .int .i64 (size : Int), .int .i64 (change : Int), .int .i64 (p0 : Int), .int .i64 (p1 : Int), .int .i64 (p2 : Int), .int .i64 (p3 : Int), .int .i64 (one : Int), .int .i64 (two : Int)] 69 (0, 0)) := by rw [hw1]; exact blk_new w _
  have hz1 : w1.heap.size = w.heap.size + 1 := by rw [hw1]; simp
  obtain ⟨w2, hw2⟩ : ∃ w2, w2 = w1.alloc (.cells #[.int .u8 (kind : Int), .int .u8 (links : Int)] 5) := ⟨_, rfl⟩
  rw [← hw1, ← hz1, ← hw2]
  have hb12 : Below w1.heap.size w1 w2 := by rw [hw2]; exact (Below.refl _ w1).alloc (Nat.le_refl _) _
  have hown := own_new w1 #[.int .u8 (kind : Int), .int .u8 (links : Int)] 5 1 2 rfl (by decide)
  rw [← hw2] at hown
  replace hown : w2.ownsRow 0 5 1 (.slice (some ⟨w1.heap.size, 0, none⟩) 2 2) 2 (bv [u1, u2]) := by rw [← HBV.out]; exact hown
  have B1 := w1b.out
  rw [← hw1] at B1
  have B2 := Lib.hid (B1.trans (hb12.mono B1.size))
  have hob : AB w.heap.size w2 (some ⟨w1.heap.size, 0, none⟩) 2 [u1, u2] := OB.ab ⟨hown, fun j e => by have e : w1.heap.size = j := Option.some.inj e; omega⟩
  have HST : Hid (NEI x0 w (.slice (some ⟨w1.heap.size, 0, none⟩) 2 2) (.int .i64 0) w2) := Lib.hid ⟨0, _, 2, [u1, u2], by omega, by rw [HU1.out, HU2.out, HS0.out]; rfl, rfl, rfl, hob, B2.out, by rw [HS0.out]; exact (Keep.of_below (S := fun _ => False) hb12).blk hx1 id⟩
  have hx2 := (Keep.of_below (S := fun _ => False) hb12).blk hx1 id
  have c2 := (blk_cells hx2 2).trans rfl
  have c3 := (blk_cells hx2 3).trans rfl
  have c4 := (blk_cells hx2 4).trans rfl
  have HX2 := Lib.hid hx2
  have HX2f : Hid (w2.frozen? ⟨w.heap.size, 0, none⟩ = false) := Lib.hid (blk_free hx2)
  clear hw1 hx1 hz1 hw2 hb12 hown B1 hob hx2 w1b
  go_upto_block 0 with fail
  go_cut [3] (fun v3 W => ∃ (A : Option Addr) (c : Nat) (d : List UInt8), d = nodB x0 3 ∧ v3 = .slice A d.length c ∧ AB w.heap.size W A c d ∧ Below w.heap.size w W ∧ W.heap[w.heap.size]? = some (.cells x0.cells 69 (0, 0)))
  case first =>
    go_wp2_with fail
    go_loopw [3, 22] (fun v3 v22 wr => NEI x0 w v3 v22 wr) (fun _ v _ => 3 - (intOf v).toNat)
    case atStart => exact HST.out
    case round =>
    obtain ⟨i, A4, c4, d, hi, hd, rfl, rfl, hab, hbw, hxw⟩ := hrel
    have HAB0 := Lib.hid hab
    have HBW := Lib.hid hbw
    have HXW := Lib.hid hxw
    have hdl : d.length = 2 + 4 * i := by rw [hd, HS0.out]; rcases (by omega : i = 0 ∨ i = 1 ∨ i = 2 ∨ i = 3) with e | e | e | e <;> subst e <;> simp [nodB, le_len]
    have HD := Lib.hid hd
    clear hd hab hbw hxw c2 c3
    rcases (by omega : i = 0 ∨ i = 1 ∨ i = 2 ∨ i = 3) with hi0 | hi1 | hi2 | hi3
    · have hix : ∀ w, (Instr.index 139 (.agg #[.int .i64 (gen : Int), .int .i64 (size : Int), .int .i64 (change : Int)]) (.int .i64 (i : Int))).run Tryz.prog w = .ok (.int .i64 (gen : Int)) w := fun _ => by subst hi0; kernel_rfl
      have HNW := Lib.hid (num_walk d A4 c4 gen wr HAB0.out.nb.sl (by rw [hdl]; omega) (by omega))
      have HI := Lib.hid hi0
      have g1 : (i : Int) < 3 := by omega
      have g2 : IntKind.i64.wrap ((i : Int) + 1) = (i : Int) + 1 := IntWalk.i64_in _ (by omega)
      clear hdl hi0
      go_wp2_with fail
      refine HNW.out.mono ?_
      rintro e w5 ⟨A5, d5, hd5, rfl, hnb, hbe⟩
      have HR : Hid (NEI x0 w (.slice A5 d5.length d5.length) (.int .i64 ((i : Int) + 1)) w5) := Lib.hid ⟨i + 1, A5, d5.length, d5, by have := HI.out; omega, by rw [hd5, HD.out, HS0.out, HI.out]; rfl, by rw [Int.natCast_add]; rfl, rfl, (hnb.mono HBW.out.size).ab, HBW.out.trans (hbe.mono HBW.out.size), (Keep.of_below (S := fun _ => False) hbe).blk HXW.out id⟩
      clear hd5 hnb hbe
      go_wp2_with fail
      go_roundw
      case rel => exact HR.out
      case measure => simp only [intOf]; omega
    · have hix : ∀ w, (Instr.index 139 (.agg #[.int .i64 (gen : Int), .int .i64 (size : Int), .int .i64 (change : Int)]) (.int .i64 (i : Int))).run Tryz.prog w = .ok (.int .i64 (size : Int)) w := fun _ => by subst hi1; kernel_rfl
      have HNW := Lib.hid (num_walk d A4 c4 size wr HAB0.out.nb.sl (by rw [hdl]; omega) (by omega))
      have HI := Lib.hid hi1
      have g1 : (i : Int) < 3 := by omega
      have g2 : IntKind.i64.wrap ((i : Int) + 1) = (i : Int) + 1 := IntWalk.i64_in _ (by omega)
      clear hdl hi1
      go_wp2_with fail
      refine HNW.out.mono ?_
      rintro e w5 ⟨A5, d5, hd5, rfl, hnb, hbe⟩
      have HR : Hid (NEI x0 w (.slice A5 d5.length d5.length) (.int .i64 ((i : Int) + 1)) w5) := Lib.hid ⟨i + 1, A5, d5.length, d5, by have := HI.out; omega, by rw [hd5, HD.out, HS0.out, HI.out]; rfl, by rw [Int.natCast_add]; rfl, rfl, (hnb.mono HBW.out.size).ab, HBW.out.trans (hbe.mono HBW.out.size), (Keep.of_below (S := fun _ => False) hbe).blk HXW.out id⟩
      clear hd5 hnb hbe
      go_wp2_with fail
      go_roundw
      case rel => exact HR.out
      case measure => simp only [intOf]; omega
    · have hix : ∀ w, (Instr.index 139 (.agg #[.int .i64 (gen : Int), .int .i64 (size : Int), .int .i64 (change : Int)]) (.int .i64 (i : Int))).run Tryz.prog w = .ok (.int .i64 (change : Int)) w := fun _ => by subst hi2; kernel_rfl
      have HNW := Lib.hid (num_walk d A4 c4 change wr HAB0.out.nb.sl (by rw [hdl]; omega) (by omega))
      have HI := Lib.hid hi2
      have g1 : (i : Int) < 3 := by omega
      have g2 : IntKind.i64.wrap ((i : Int) + 1) = (i : Int) + 1 := IntWalk.i64_in _ (by omega)
      clear hdl hi2
      go_wp2_with fail
      refine HNW.out.mono ?_
      rintro e w5 ⟨A5, d5, hd5, rfl, hnb, hbe⟩
      have HR : Hid (NEI x0 w (.slice A5 d5.length d5.length) (.int .i64 ((i : Int) + 1)) w5) := Lib.hid ⟨i + 1, A5, d5.length, d5, by have := HI.out; omega, by rw [hd5, HD.out, HS0.out, HI.out]; rfl, by rw [Int.natCast_add]; rfl, rfl, (hnb.mono HBW.out.size).ab, HBW.out.trans (hbe.mono HBW.out.size), (Keep.of_below (S := fun _ => False) hbe).blk HXW.out id⟩
      clear hd5 hnb hbe
      go_wp2_with fail
      go_roundw
      case rel => exact HR.out
      case measure => simp only [intOf]; omega
    · have HI := Lib.hid hi3
      have g1 : ¬ (i : Int) < 3 := by omega
      clear hi3 hdl
      go_wp2_with fail
      go_meet
      case rel => exact ⟨A4, c4, d, by rw [HD.out, HI.out], rfl, HAB0.out, HBW.out, HXW.out⟩
  case rest =>
    obtain ⟨A4, cc4, d, hd, rfl, hab, hbw, hxw⟩ := hcut
    rw [HS0.out] at hxw
    unfold NoS.cells at hxw
    dsimp only at hxw
    have cx := blk_cells hxw
    have z0 := (cx 0).trans rfl
    have z1 := (cx 1).trans rfl
    have z2 := (cx 2).trans rfl
    have z3 := (cx 3).trans rfl
    have z4 := (cx 4).trans rfl
    have z5 := (cx 5).trans rfl
    have z6 := (cx 6).trans rfl
    have z7 := (cx 7).trans rfl
    have z8 := (cx 8).trans rfl
    have z9 := (cx 9).trans rfl
    have z10 := (cx 10).trans rfl
    have HAB0 := Lib.hid hab
    have HBW := Lib.hid hbw
    have HD := Lib.hid hd
    have HPW := Lib.hid (HP.out wc)
    clear hd hab hbw hxw cx c2 c3 c4
    go_wp2_with fail
    refine HPW.out.mono ?_
    rintro e w5 ⟨PA, pc, rfl, hoi, hb5⟩
    obtain ⟨_, _, eA, _, hznil, hcp, _⟩ := Rd.of_own hoi.own
    have hpo := hoi.own
    rw [HL6.out] at hpo
    have HSL := Lib.hid hpo
    have HST2 : Hid (NPI L x0 w PA pc (.slice A4 d.length cc4) (.int .i64 0) w5) := Lib.hid ⟨0, A4, cc4, d, by omega, by rw [HD.out]; unfold nodC; simp, rfl, rfl, HAB0.out.below hb5, HBW.out.trans (hb5.mono HBW.out.size), HSL.out⟩
    have HNF : Hid (∀ j, PA.map (·.block) = some j → wc.heap.size ≤ j) := Lib.hid (fun j e => hoi.fresh j e)
    clear z0 z1 z2 z3 z4 z5 z6 z7 z8 z9 z10 hoi hb5 hznil hcp hpo
    go_upto_region 8 with fail
    go_loopw [3, 35] (fun v3 v35 wr => NPI L x0 w PA pc v3 v35 wr) (fun _ v _ => 6 - (intOf v).toNat)
    case atStart => exact HST2.out
    case round =>
      obtain ⟨j, A6, c6, d6, hj, hd6, rfl, rfl, hab, hbw, hsl⟩ := hrel
      have HAB6 := Lib.hid hab
      have HBW6 := Lib.hid hbw
      have HSL6 := Lib.hid hsl
      have hdl : d6.length = 14 + 2 * j := by rw [hd6]; exact nodC_len x0 j hj
      have HD6 := Lib.hid hd6
      clear hd6 hab hbw hsl
      by_cases hlt : j < 6
      · obtain ⟨p, hp⟩ : ∃ p, L[j]? = some p := ⟨L[j]'(by have := HL6.out; omega), List.getElem?_eq_getElem _⟩
        obtain ⟨n, rfl, hn⟩ := HLP.out j p hp
        obtain ⟨bb, oo, rfl, _, hcell⟩ := iv_at (Sl.of_own HSL6.out) hp
        obtain ⟨v1, hv1⟩ : ∃ u : UInt8, u = UInt8.ofNat n := ⟨_, rfl⟩
        obtain ⟨v2, hv2⟩ : ∃ u : UInt8, u = UInt8.ofNat (n / 256) := ⟨_, rfl⟩
        have e1 : (n : Int) % 256 = (v1.toNat : Int) := by rw [hv1]; simp
        have e2 : (n : Int) / 256 % 256 = (v2.toNat : Int) := by rw [hv2, UInt8.toNat_ofNat']; omega
        have g1 : (j : Int) < 6 := by omega
        have g0 : (0 : Int) ≤ (j : Int) := by omega
        have g2 : IntKind.i64.wrap ((j : Int) + 1) = (j : Int) + 1 := IntWalk.i64_in _ (by omega)
        have HNX := Lib.hid (nodC_succ x0 j n hn)
        have HV1 := Lib.hid hv1
        have HV2 := Lib.hid hv2
        have hl3 : d6.length + 2 ≤ 1000000000 := by omega
        have HSO := Lib.hid (Sl.of_own (own_new wr #[.int .u8 (v1.toNat : Int), .int .u8 (v2.toNat : Int)] 5 1 2 rfl (by decide)))
        have HABB := Lib.hid (HAB6.out.below ((Below.refl wr.heap.size wr).alloc (Nat.le_refl _) (.cells #[.int .u8 (v1.toNat : Int), .int .u8 (v2.toNat : Int)] 5)))
        have HB1 : Hid (w.heap.size ≤ (wr.alloc (.cells #[.int .u8 (v1.toNat : Int), .int .u8 (v2.toNat : Int)] 5)).heap.size) := Lib.hid (by have := HBW6.out.size; simp; omega)
        clear hp hn hv1 hv2 hdl
        go_wp2_with (at_builtin; go_must (refine wpList_appB (B := w.heap.size) (n := d6.length) (m := 2) (d := d6) (e := [v1, v2]) rfl rfl rfl rfl rfl rfl HABB.out HSO.out (.inl (by decide)) HB1.out hl3 ?_))
        intro A8 c8 w8 h8
        obtain ⟨D, hD⟩ : ∃ D, D = d6 ++ [v1, v2] := ⟨_, rfl⟩
        rw [← hD] at h8
        have hl8 : D.length = d6.length + 2 := by rw [hD, List.length_append]; rfl
        rw [← hl8]
        have HR : Hid (NPI L x0 w (some ⟨bb, oo, none⟩) pc (.slice A8 D.length c8) (.int .i64 ((j : Int) + 1)) w8) := Lib.hid ⟨j + 1, A8, c8, D, hlt, by rw [hD, HNX.out, HD6.out, HV1.out, HV2.out], by rw [Int.natCast_add]; rfl, rfl, h8.ab, HBW6.out.trans (((Below.refl wr.heap.size wr).alloc (Nat.le_refl _) _).mono HBW6.out.size |>.trans h8.be), own_keep (own_keep HSL6.out ((Keep.refl (fun _ => False) wr).alloc _) (fun _ _ h => h)) h8.keep (fun q e hh => by
          obtain ⟨_, cs, fr, hq⟩ := HABB.out.nb.fresh q hh
          obtain ⟨cs', hq'⟩ := own_blk (own_keep HSL6.out ((Keep.refl (fun _ => False) wr).alloc (.cells #[.int .u8 (v1.toNat : Int), .int .u8 (v2.toNat : Int)] 5)) (fun _ _ h => h)) e
          exact blk_ne hq hq' (by decide) rfl)⟩
        clear hD h8 hl8
        go_wp2_with fail
        go_roundw
        case rel => exact HR.out
        case measure => simp only [intOf]; omega
      · obtain rfl : j = 6 := by omega
        obtain ⟨jj, hjj⟩ : ∃ jj : Nat, jj = 6 := ⟨_, rfl⟩
        obtain ⟨m, hm⟩ : ∃ m : Nat, m = 6 := ⟨_, rfl⟩
        have e0 : IntKind.i64.wrap (32 - (d6.length : Int)) = (m : Int) := by rw [IntWalk.i64_in _ (by omega)]; omega
        have h16 : 0 < d6.length ∧ 0 < m ∧ d6.length + m ≤ 1000000000 := by omega
        have g1 : ¬ ((6 : Nat) : Int) < 6 := by omega
        have HM := Lib.hid hm
        have HDL := Lib.hid hdl
        have HBS : Hid (w.heap.size ≤ wr.heap.size) := Lib.hid HBW6.out.size
        clear hdl hm hjj
        go_wp2_with (at_builtin; go_must (refine wpList_zerosB rfl rfl (n := d6.length) (m := m) rfl rfl rfl HAB6.out h16.1 h16.2.1 HBS.out h16.2.2 ?_))
        intro A8 c8 w8 h8
        have HR : Hid (AB w.heap.size w8 A8 c8 (nodeE x0)) := Lib.hid (by have := h8.ab; rw [HD6.out, HM.out] at this; exact this)
        have HB8 := Lib.hid (HBW6.out.trans h8.be)
        have HL8 : Hid (d6.length + m = 32) := Lib.hid (by have := HDL.out; have := HM.out; omega)
        rw [HL8.out]
        clear h8
        go_wp2
        go_ret
        exact ⟨A8, c8, rfl, HR.out, HB8.out⟩
end Go.Proofs.YtehfoopefefpnaaGreat
/- Package node: decode. -/
set_option linter.unusedSimpArgs false
set_option linter.unusedVariables false
namespace Go.Proofs.YtehfoopefefpnaaGreat
open Go.RowKit

attribute [local go_sem ↓] Go.wp_at_zero Go.wp_at_succ
theorem or_i64 (a b : Nat) (ha : a < 256) (hb : b < 256) : bits .or .i64 (a : Int) ((b : Int) * 256) = ((a + b * 256 : Nat) : Int) := by
  have h1 : (BitVec.ofInt 64 (a : Int)).toNat = a := by
    rw [BitVec.ofInt_natCast, BitVec.toNat_ofNat]; exact Nat.mod_eq_of_lt (by omega)
  have h2 : (BitVec.ofInt 64 ((b : Int) * 256)).toNat = b * 256 := by
    rw [show (b : Int) * 256 = ((b * 256 : Nat) : Int) by omega, BitVec.ofInt_natCast, BitVec.toNat_ofNat]; exact Nat.mod_eq_of_lt (by omega)
  have h3 : a ||| b * 256 = a + b * 256 := by
    rw [Nat.or_comm, Nat.mul_comm b 256, show 256 * b = 2 ^ 8 * b from rfl, ← Nat.two_pow_add_eq_or_of_lt (by omega)]
    omega
  show IntKind.i64.wrap ((BitVec.ofInt 64 (a : Int) ||| BitVec.ofInt 64 ((b : Int) * 256)).toNat : Int) = _
  rw [BitVec.toNat_or, h1, h2, h3, IntKind.wrap_i64]
  omega
theorem ptr_lt {n : Nat} (h : ptrB n = true) : n < 1024 := by
  have : n = 0 ∨ 43 ≤ n ∧ n < 1024 := of_decide_eq_true h
  omega
theorem nodB3 (x : NoS) : nodB x 3 = [UInt8.ofNat x.kind, UInt8.ofNat x.links] ++ (le x.gen 4 ++ (le x.size 4 ++ le x.change 4)) := by simp only [nodB, List.append_assoc]
theorem nodeE_drop2 (x : NoS) : ((nodeE x).drop 2).take 12 = le x.gen 4 ++ (le x.size 4 ++ le x.change 4) := by
  have hl : (le x.gen 4 ++ (le x.size 4 ++ le x.change 4)).length = 12 := by simp [le_len]
  unfold nodeE nodC
  rw [nodB3]
  show (((le x.gen 4 ++ (le x.size 4 ++ le x.change 4)) ++ (x.ptrN.take 6).flatMap (fun n => le n 2)) ++ List.replicate 6 0).take 12 = _
  rw [List.append_assoc, List.take_append_of_le_length (by rw [hl]; exact Nat.le_refl _), List.take_of_length_le (by rw [hl]; exact Nat.le_refl _)]
theorem flat2_get (l : List Nat) (i n : Nat) (h : l[i]? = some n) : (l.flatMap (fun n => le n 2))[2 * i]? = some (UInt8.ofNat n) ∧ (l.flatMap (fun n => le n 2))[2 * i + 1]? = some (UInt8.ofNat (n / 256)) := by
  induction l generalizing i with
  | nil => cases h
  | cons m l ih =>
    rw [List.flatMap_cons]
    cases i with
    | zero =>
      obtain rfl : m = n := by simpa using h
      exact ⟨rfl, rfl⟩
    | succ i =>
      have h' : l[i]? = some n := by simpa using h
      obtain ⟨h1, h2⟩ := ih i h'
      rw [List.getElem?_append_right (by rw [le_len]; omega), List.getElem?_append_right (by rw [le_len]; omega), le_len, show 2 * (i + 1) - 2 = 2 * i by omega, show 2 * (i + 1) + 1 - 2 = 2 * i + 1 by omega]
      exact ⟨h1, h2⟩
theorem nodeE_ptr (x : NoS) (i n : Nat) (h : x.ptrN[i]? = some n) : (nodeE x)[14 + 2 * i]? = some (UInt8.ofNat n) ∧ (nodeE x)[15 + 2 * i]? = some (UInt8.ofNat (n / 256)) := by
  have hi : i < 6 := (List.getElem?_eq_some_iff.1 h).1
  have hb : (nodB x 3).length = 14 := by simp [nodB, le_len]
  have hp : x.ptrN.take 6 = x.ptrN := rfl
  have hfl : (x.ptrN.flatMap (fun n => le n 2)).length = 12 := flat2_len _
  obtain ⟨h1, h2⟩ := flat2_get x.ptrN i n h
  unfold nodeE nodC
  rw [hp, List.append_assoc]
  refine ⟨?_, ?_⟩
  · rw [List.getElem?_append_right (by omega), hb, show 14 + 2 * i - 14 = 2 * i by omega, List.getElem?_append_left (by omega)]
    exact h1
  · rw [List.getElem?_append_right (by omega), hb, show 15 + 2 * i - 14 = 2 * i + 1 by omega, List.getElem?_append_left (by omega)]
    exact h2
theorem nodeE_0 (x : NoS) : (nodeE x)[0]? = some (UInt8.ofNat x.kind) ∧ (nodeE x)[1]? = some (UInt8.ofNat x.links) := ⟨rfl, rfl⟩
/-- Cell after cell, written. -/
def setL (w : World) (k : Nat) : Nat → List Value → World
  | _, [] => w
  | i, v :: l => setL (w.setCell ⟨k, i, none⟩ v) k (i + 1) l
def arrL (cs : Array Value) : Nat → List Value → Array Value
  | _, [] => cs
  | i, v :: l => arrL (cs.setIfInBounds i v) (i + 1) l
theorem setL_blk {k : Nat} {t : TypeId} (l : List Value) (i : Nat) {w : World} {cs : Array Value} (h : w.heap[k]? = some (.cells cs t (0, 0))) : (setL w k i l).heap[k]? = some (.cells (arrL cs i l) t (0, 0)) := by
  induction l generalizing i w cs with
  | nil => exact h
  | cons v l ih => exact ih (i + 1) (blk_set (j := i) h v)
theorem setL_keep {k : Nat} (l : List Value) (i : Nat) (w : World) : Keep (fun j => j = k) w (setL w k i l) := by
  induction l generalizing i w with
  | nil => exact Keep.refl _ _
  | cons v l ih => exact (keep_set w k i v).trans (ih (i + 1) _) (fun _ _ h => h)
theorem set11 {w : World} {k : Nat} {t : TypeId} {x0 x1 x2 x3 x4 x5 x6 x7 x8 x9 x10 : Value} (h : w.heap[k]? = some (.cells #[x0, x1, x2, x3, x4, x5, x6, x7, x8, x9, x10] t (0, 0))) (y0 y1 y2 y3 y4 y5 y6 y7 y8 y9 y10 : Value) : (setL w k 0 [y0, y1, y2, y3, y4, y5, y6, y7, y8, y9, y10]).heap[k]? = some (.cells #[y0, y1, y2, y3, y4, y5, y6, y7, y8, y9, y10] t (0, 0)) := by
  rw [setL_blk [y0, y1, y2, y3, y4, y5, y6, y7, y8, y9, y10] 0 h]
  simp [arrL]
/-- Behind the first number: the node's block, and the form. -/
def NDI (x : NoS) (k B : Nat) (d : List UInt8) (w w1 : World) (v : Value) (W : World) : Prop := ∃ P : Nat, v = .pointer (some ⟨P, 0, none⟩) ∧ k < P ∧ w1.heap.size ≤ P ∧ W.heap[P]? = some (.cells #[.int .i64 (x.kind : Int), .int .i64 (x.links : Int), .int .i64 (x.gen : Int), .int .i64 0, .int .i64 0, .int .i64 0, .int .i64 0, .int .i64 0, .int .i64 0, .int .i64 0, .int .i64 0] 69 (0, 0)) ∧ FO k B W (d.drop 4) ∧ Below w.heap.size w W ∧ Keep (fun j => w1.heap.size ≤ j ∨ j = k) w1 W
theorem NDI.mk1 {x : NoS} {k B : Nat} {d : List UInt8} {w w1 w2 : World} (hfo : FO k B w2 (d.drop 4)) (hk : k < w1.heap.size) (hk2 : Keep (fun j => j = k) w1 w2) (b2 : Below w.heap.size w w2) (hv : unle (d.take 4) = x.gen) : NDI x k B d w w1 (.pointer (some ⟨w2.heap.size, 0, none⟩)) (w2.alloc (.cells #[.int .i64 (x.kind : Int), .int .i64 (x.links : Int), .int .i64 ((unle (d.take 4) : Nat) : Int), .int .i64 0, .int .i64 0, .int .i64 0, .int .i64 0, .int .i64 0, .int .i64 0, .int .i64 0, .int .i64 0] 69)) := by
  have ka := (Keep.refl (fun _ => False) w2).alloc (.cells #[.int .i64 (x.kind : Int), .int .i64 (x.links : Int), .int .i64 ((unle (d.take 4) : Nat) : Int), .int .i64 0, .int .i64 0, .int .i64 0, .int .i64 0, .int .i64 0, .int .i64 0, .int .i64 0, .int .i64 0] 69)
  refine ⟨_, rfl, Nat.lt_of_lt_of_le hk hk2.size, hk2.size, ?_, hfo.keep ka id (fun _ _ _ _ h => h), b2.alloc b2.size _, ?_⟩
  · rw [hv]; exact blk_new w2 _
  · exact (hk2.trans ka (fun _ _ h => h.elim)).mono (fun _ _ h => .inr h)
theorem NDI.mk2 {x : NoS} {k B : Nat} {d : List UInt8} {w w1 w2 : World} (hfo : FO k B w2 (d.drop 4)) (hk : k < w1.heap.size) (hk2 : Keep (fun j => w1.heap.size ≤ j ∨ j = k) w1 w2) (b2 : Below w.heap.size w w2) (b1 : w.heap.size ≤ w1.heap.size) (hv : unle (d.take 4) = x.gen) (hp : w2.heap[w1.heap.size]? = some (.cells #[.int .i64 0, .int .i64 0, .int .i64 0, .int .i64 0, .int .i64 0, .int .i64 0, .int .i64 0, .int .i64 0, .int .i64 0, .int .i64 0, .int .i64 0] 69 (0, 0))) : NDI x k B d w w1 (.pointer (some ⟨w1.heap.size, 0, none⟩)) (setL w2 w1.heap.size 0 [.int .i64 (x.kind : Int), .int .i64 (x.links : Int), .int .i64 ((unle (d.take 4) : Nat) : Int), .int .i64 0, .int .i64 0, .int .i64 0, .int .i64 0, .int .i64 0, .int .i64 0, .int .i64 0, .int .i64 0]) := by
  have ka := setL_keep (k := w1.heap.size) [.int .i64 (x.kind : Int), .int .i64 (x.links : Int), .int .i64 ((unle (d.take 4) : Nat) : Int), .int .i64 0, .int .i64 0, .int .i64 0, .int .i64 0, .int .i64 0, .int .i64 0, .int .i64 0, .int .i64 0] 0 w2
  refine ⟨_, rfl, hk, Nat.le_refl _, ?_, hfo.keep ka (by omega) (fun j cs fr h e => ?_), b2.trans ((ka.below (fun i e => by omega) (b2.size))), ?_⟩
  · rw [← hv]; exact set11 hp _ _ _ _ _ _ _ _ _ _ _
  · exact blk_ne h hp (by decide) e
  · exact hk2.trans ka (fun _ _ h => .inl (by omega))
theorem below11 {w W : World} {P : Nat} (b : Below w.heap.size w W) (hp : w.heap.size ≤ P) (y0 y1 y2 y3 y4 y5 y6 y7 y8 y9 y10 : Value) : Below w.heap.size w (((((((((((W.setCell ⟨P, 0, none⟩ y0).setCell ⟨P, 1, none⟩ y1).setCell ⟨P, 2, none⟩ y2).setCell ⟨P, 3, none⟩ y3).setCell ⟨P, 4, none⟩ y4).setCell ⟨P, 5, none⟩ y5).setCell ⟨P, 6, none⟩ y6).setCell ⟨P, 7, none⟩ y7).setCell ⟨P, 8, none⟩ y8).setCell ⟨P, 9, none⟩ y9).setCell ⟨P, 10, none⟩ y10) :=
  ((((((((((b.setCell hp y0).setCell hp y1).setCell hp y2).setCell hp y3).setCell hp y4).setCell hp y5).setCell hp y6).setCell hp y7).setCell hp y8).setCell hp y9).setCell hp y10
/-- The array of six numbers, i of them written. -/
def arr6 (L : List Nat) (i : Nat) : Array Value := ((L.take i).map (fun (n : Nat) => Value.int .i64 (n : Int)) ++ List.replicate (6 - i) (Value.int .i64 0)).toArray
theorem arr6_get {L : List Nat} (hL : L.length = 6) {i : Nat} (hi : i < 6) : (arr6 L i)[i]? = some (.int .i64 0) := by
  match L, hL with
  | [a, b, c, d, e, f], _ => rcases (by omega : i = 0 ∨ i = 1 ∨ i = 2 ∨ i = 3 ∨ i = 4 ∨ i = 5) with h | h | h | h | h | h <;> subst h <;> rfl
theorem arr6_set {L : List Nat} (hL : L.length = 6) {i n : Nat} (hi : L[i]? = some n) : (arr6 L i).setIfInBounds i (.int .i64 (n : Int)) = arr6 L (i + 1) := by
  have hl : i < 6 := by rw [← hL]; exact (List.getElem?_eq_some_iff.1 hi).1
  match L, hL with
  | [a, b, c, d, e, f], _ => rcases (by omega : i = 0 ∨ i = 1 ∨ i = 2 ∨ i = 3 ∨ i = 4 ∨ i = 5) with h | h | h | h | h | h <;> subst h <;> (obtain rfl := Option.some.inj hi; rfl)
/-- In the loop over the six numbers. -/
def NQI (x : NoS) (w6 : World) (v : Value) (W : World) : Prop := ∃ i : Nat, i ≤ 6 ∧ v = .int .i64 (i : Int) ∧ W.heap[w6.heap.size]? = some (.cells (arr6 x.ptrN i) 203 (0, 0)) ∧ Keep (fun _ => False) w6 W
theorem NQI.step {x : NoS} {w6 wr W : World} {i n : Nat} (hi : x.ptrN[i]? = some n) (hx : wr.heap[w6.heap.size]? = some (.cells (arr6 x.ptrN i) 203 (0, 0))) (hk : Keep (fun _ => False) w6 wr) (hW : W = wr.drew) : NQI x w6 (.int .i64 ((i : Int) + 1)) (W.setCell ⟨w6.heap.size, i, none⟩ (.int .i64 (n : Int))) := by
  subst hW
  have hl : i < 6 := (List.getElem?_eq_some_iff.1 hi).1
  refine ⟨i + 1, by omega, by rw [Int.natCast_add]; rfl, ?_, ?_⟩
  · have hx' : wr.drew.heap[w6.heap.size]? = some (.cells (arr6 x.ptrN i) 203 (0, 0)) := hx
    rw [blk_set hx', arr6_set rfl hi]
  · exact hk.drew.setCell (fun h => absurd h (Nat.lt_irrefl _)) _
theorem NoS.ok.ptrB {x : NoS} (h : x.ok) : ∀ n ∈ x.ptrN, Proofs.YtehfoopefefpnaaGreat.ptrB n = true := by
  intro n hn
  have h0 := h.q0; have h1 := h.q1; have h2 := h.q2; have h3 := h.q3; have h4 := h.q4; have h5 := h.q5
  simp only [NoS.ptrN, List.mem_cons, List.not_mem_nil, or_false] at hn
  rcases hn with rfl | rfl | rfl | rfl | rfl | rfl <;> assumption
theorem named {α : Type} {p : α → Prop} {x : α} (h : ∀ y, y = x → p y) : p x := h x rfl
end Go.Proofs.YtehfoopefefpnaaGreat
