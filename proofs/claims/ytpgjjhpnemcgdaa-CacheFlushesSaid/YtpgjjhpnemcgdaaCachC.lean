/- Package cache: the first bytes of some that are not known. -/
import Derived.Test.YtpgjjhpnemcgdaaCachB
set_option linter.unusedSimpArgs false
set_option linter.unusedVariables false
namespace Go.Proofs.Ytpgjjhpnemcgdaa
open Go.RowKit

attribute [local go_sem ↓] Go.wp_at_zero Go.wp_at_succ
def partN (s : CaS) (a z : Nat) : Nat × Nat := if s.size ≤ a then (0, 0) else (a, a + min z (s.size - a))
theorem part_n (s : CaS) (a z : Nat) : partP s (a : Int) (z : Int) = (((partN s a z).1 : Int), ((partN s a z).2 : Int)) := by
  unfold partP partN
  by_cases h : s.size ≤ a
  · rw [if_pos (by omega), if_pos h]; rfl
  · rw [if_neg (by omega), if_neg h]
    simp only [Prod.mk.injEq, true_and]
    omega
def missP (s : CaS) (a z : Nat) : Nat × Nat × Bool :=
  if (partN s a z).1 < (partN s a z).2 then
    match lessP [partN s a z] s.known with
    | [] => (0, 0, false)
    | r :: _ => (r.1, r.2 - r.1, true)
  else (0, 0, false)
theorem part_le (s : CaS) (a z : Nat) : (partN s a z).2 ≤ s.size := by
  unfold partN
  split
  · exact Nat.zero_le _
  · simp only; omega
theorem missing_walk {X : Nat → Prop} {k : Nat} {s : CaS} {w : World} (h : Ca X k s w) (hK : KB s.known) (hs : s.size ≤ 9728) (a z : Nat) (ha : a ≤ 1000000) (hz : z ≤ 1000000) :
    Calls Try.prog 9 #[.pointer (some ⟨k, 0, none⟩), .int .i64 (a : Int), .int .i64 (z : Int)] w fun e w' => e = .returned (.tuple #[.int .i64 ((missP s a z).1 : Int), .int .i64 ((missP s a z).2.1 : Int), .bool (missP s a z).2.2]) ∧ Below w.heap.size w w' := by
  have hP := part_walk h (a : Int) (z : Int) (by omega) (by omega) (by omega)
  rw [part_n] at hP
  simp only at hP
  have HP := Lib.hid hP
  have hle := part_le s a z
  have hm : missP s a z = if (partN s a z).1 < (partN s a z).2 then (match lessP [partN s a z] s.known with | [] => (0, 0, false) | r :: _ => (r.1, r.2 - r.1, true)) else (0, 0, false) := rfl
  obtain ⟨f, hf⟩ : ∃ f, f = (partN s a z).1 := ⟨_, rfl⟩
  obtain ⟨t, ht⟩ : ∃ t, t = (partN s a z).2 := ⟨_, rfl⟩
  rw [show partN s a z = (f, t) from by rw [hf, ht]] at HP hle hm
  simp only at HP hle hm
  clear hP hf ht
  obtain ⟨DA, dc, kv, YA, yc, L, h⟩ := h
  have H := Lib.hid h
  clear h
  by_cases hft : f < t
  · rw [if_pos hft] at hm
    have hA : PS [(f, t)] := PS.single ⟨hft, by simp only; omega⟩
    have hlk : KB (lessP [(f, t)] s.known) := (KB.less (KB.single hft (by omega)) hK.ps).1
    have HM := Lib.hid (fun w => make_walk (a := f) (b := t) hft (by omega) w)
    have HFT := Lib.hid hft
    go_enter Try.func9, Try.ntmps9
    go_wp2_with fail
    refine HP.out.mono ?_
    rintro e w1 ⟨rfl, hb1⟩
    have HB1 := Lib.hid hb1
    have h1 := H.out.below hb1
    have H1 := Lib.hid h1
    have c4 : w1.cell? ⟨k, 4, none⟩ = some kv := (blk_cells h1.blk 4).trans rfl
    clear h1 hb1
    go_wp2_with fail
    refine (HM.out _).mono ?_
    rintro e W ⟨rfl, rfl⟩
    obtain ⟨w2, hw2⟩ : ∃ w2, w2 = W.alloc (.cells #[.complex .f64 (fb f) (fb t)] 52) := ⟨_, rfl⟩
    have hb2 : Below W.heap.size W w2 := by rw [hw2]; exact (Below.refl _ W).alloc (Nat.le_refl _) _
    have ho := own_new W #[.complex .f64 (fb f) (fb t)] 52 1 1 rfl (by decide)
    rw [← hw2] at ho
    have HL := Lib.hid (less_walk [(f, t)] s.known (.slice (some ⟨W.heap.size, 0, none⟩) 1 1) kv w2 hA.snd hK.ps.snd ⟨_, 1, rfl, Sl.of_own ho⟩ (H1.out.known.below hb2).c (by simp) (by have := hK.len; omega) (by have := hlk.len; omega))
    have c4a : (W.alloc (.cells #[.complex .f64 (fb f) (fb t)] 52)).cell? ⟨k, 4, none⟩ = some kv := by rw [← hw2]; exact (blk_cells (H1.out.below hb2).blk 4).trans rfl
    have HB2 := Lib.hid (HB1.out.trans (hb2.mono HB1.out.size))
    have HW2 := Lib.hid hw2
    have HLK := Lib.hid hlk
    obtain ⟨R, hR⟩ : ∃ R, R = lessP [(f, t)] s.known := ⟨_, rfl⟩
    rw [← hR] at HL HLK hm
    clear ho hb2 hw2 hA hlk hR hK hft
    go_wp2_with fail
    rw [← HW2.out]
    refine HL.out.mono ?_
    rintro e w3 ⟨v3, rfl, hv3, hb3⟩
    obtain ⟨A3, c3, rfl, hs3, _⟩ := hv3
    have HB3 := Lib.hid (HB2.out.trans (hb3.mono HB2.out.size))
    cases R with
    | nil =>
      simp only at hm
      have HMM := Lib.hid hm
      have e0 : ((0 : Int) == 0) = true := rfl
      rw [show ([] : List St).length = 0 from rfl]
      clear hs3 hb3 hm c4 c4a
      go_wp2
      refine bodyPost_ret (v := .tuple #[.int .i64 0, .int .i64 0, .bool false]) (by simp [results, Try.results9, go_sem]) rfl ?_
      exact ⟨by rw [HMM.out]; rfl, HB3.out⟩
    | cons r R =>
      simp only at hm
      have HMM := Lib.hid hm
      obtain ⟨b0, o0, rfl, _, hc0⟩ := sl_row hs3 (cxs_get (L := r :: R) (i := 0) rfl)
      obtain ⟨p, q⟩ := r
      have hr := HLK.out.ps.one (p, q) (by simp)
      have hpq : p < q := hr.1
      have hq : q ≤ 1099511627776 := hr.2
      have HE := Lib.hid (fun w => ends_walk hpq hq w)
      simp only [Nat.add_zero] at hc0
      have hsub : (q : Int) - (p : Int) = ((q - p : Nat) : Int) := by omega
      have hwr : IntKind.i64.wrap ((q : Int) - (p : Int)) = (q : Int) - (p : Int) := IntWalk.i64_in _ (by omega)
      have HSUB := Lib.hid hsub
      have z0 : (0 : Int) < ((List.length R : Int) + 1) := by omega
      have z1 : (((p, q) :: R).length : Int) = (List.length R : Int) + 1 := by simp
      clear hs3 hb3 hm hr hsub c4 c4a
      go_wp2_with fail
      refine (HE.out _).mono ?_
      rintro e W3 ⟨rfl, rfl⟩
      clear hc0
      go_wp2
      refine bodyPost_ret (v := .tuple #[.int .i64 (p : Int), .int .i64 ((q : Int) - (p : Int)), .bool true]) (by simp [results, Try.results9, go_sem]) rfl ?_
      exact ⟨by rw [HMM.out, HSUB.out], HB3.out⟩
  · rw [if_neg hft] at hm
    have HMM := Lib.hid hm
    have HM := Lib.hid (fun w => make_none (a := (f : Int)) (b := (t : Int)) (by omega) w)
    clear hm
    go_enter Try.func9, Try.ntmps9
    go_wp2_with fail
    refine HP.out.mono ?_
    rintro e w1 ⟨rfl, hb1⟩
    have HB1 := Lib.hid hb1
    clear hb1
    go_wp2_with fail
    refine (HM.out _).mono ?_
    rintro e W ⟨⟨x, rfl⟩, rfl⟩
    go_wp2
    refine bodyPost_ret (v := .tuple #[.int .i64 0, .int .i64 0, .bool false]) (by simp [results, Try.results9, go_sem]) rfl ?_
    exact ⟨by rw [HMM.out]; rfl, HB1.out⟩
end Go.Proofs.Ytpgjjhpnemcgdaa
