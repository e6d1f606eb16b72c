/- Package cache: bytes that are read. -/
import Derived.Test.YtpgjjhpnemcgdaaCachD
set_option linter.unusedSimpArgs false
set_option linter.unusedVariables false
namespace Go.Proofs.Ytpgjjhpnemcgdaa
open Go.RowKit

attribute [local go_sem ↓] Go.wp_at_zero Go.wp_at_succ
theorem own_part {w : World} {g cap : Nat} {d : List UInt8} {n : Nat} (h : w.ownsRow 0 5 1 (.slice (some ⟨g, 0, none⟩) n cap) n (bv d)) {f t : Nat} (hft : f ≤ t) (ht : t ≤ n) (hn : n = d.length) : Sl w 1 (.slice (some ⟨g, f, none⟩) (t - f) (cap - f)) (t - f) (bv ((d.drop f).take (t - f))) := by
  obtain ⟨A, c, e, hr, _, hc, _⟩ := Rd.of_own h
  injection e with e1 _ e2
  subst e1 e2
  have h1 := (hr.drop f).take (t - f)
  rw [Nat.zero_add] at h1
  refine ⟨_, cap - f, rfl, ?_, (fun e => by cases e), by omega, ?_⟩
  · simpa [bv] using h1
  · rw [bv_length, List.length_take, List.length_drop, Nat.mul_one]
    omega
def readP (s : CaS) (a z : Nat) : List UInt8 := (s.data.drop (partN s a z).1).take ((partN s a z).2 - (partN s a z).1)
theorem part_in (s : CaS) (a z : Nat) : (partN s a z).1 ≤ (partN s a z).2 := by
  unfold partN
  split
  · exact Nat.le_refl _
  · simp only; omega
theorem read_walk {X : Nat → Prop} {k : Nat} {s : CaS} {w : World} (h : Ca X k s w) (hs : s.size ≤ 9728) (hd : s.size ≤ s.data.length) (a z : Nat) (ha : a ≤ 1000000) (hz : z ≤ 1000000) :
    Calls Try.prog 11 #[.pointer (some ⟨k, 0, none⟩), .int .i64 (a : Int), .int .i64 (z : Int)] w fun e w' => ∃ v, e = .returned v ∧ BN w w' v (readP s a z) := by
  have hP := part_walk h (a : Int) (z : Int) (by omega) (by omega) (by omega)
  rw [part_n] at hP
  simp only at hP
  have HP := Lib.hid hP
  have hle := part_le s a z
  have hin := part_in s a z
  obtain ⟨d, hdd⟩ : ∃ d, d = readP s a z := ⟨_, rfl⟩
  rw [← hdd]
  unfold readP at hdd
  obtain ⟨f, hf⟩ : ∃ f, f = (partN s a z).1 := ⟨_, rfl⟩
  obtain ⟨t, ht⟩ : ∃ t, t = (partN s a z).2 := ⟨_, rfl⟩
  rw [← hf, ← ht] at HP hin hdd
  rw [← ht] at hle
  have hdl : d.length = t - f := by rw [hdd, List.length_take, List.length_drop]; omega
  clear hP hf ht
  obtain ⟨DA, dc, kv, YA, yc, L, h⟩ := h
  have H := Lib.hid h
  have HDD := Lib.hid hdd
  have HDL := Lib.hid hdl
  obtain ⟨DA', dc', eD, _, hnone, hcap, _⟩ := Rd.of_own h.data
  injection eD with e1 _ e2
  subst e1 e2
  have hdlb : t ≤ 9728 := by omega
  rcases h.data.2 with ⟨e0, hz0⟩ | ⟨g, cap, cur, e0, _⟩
  · injection e0 with e0 _ e3
    subst e0 e3
    have ht0 : t = 0 := by omega
    have hf0 : f = 0 := by omega
    subst ht0 hf0
    have hd0 : d = [] := List.eq_nil_of_length_eq_zero hdl
    subst hd0
    have HB := Lib.hid (fun w => bclone_walk [] none 0 w ⟨none, 0, rfl, .inl rfl, fun _ => ⟨rfl, rfl⟩, Nat.le_refl _, rfl⟩ (by decide))
    clear h hdd hdl hnone hcap hle hin hdlb hd
    go_enter Try.func11, Try.ntmps11
    go_wp2_with fail
    refine HP.out.mono ?_
    rintro e w1 ⟨rfl, hb1⟩
    have h1 := H.out.below hb1
    have c3 : w1.cell? ⟨k, 3, none⟩ = some (.slice none 0 0) := by have := (blk_cells h1.blk 3).trans rfl; simp only [hz0] at this; exact this
    have HB1 := Lib.hid hb1
    clear h1 hb1
    go_wp2_with fail
    refine (HB.out _).mono ?_
    rintro e w2 ⟨v, rfl, hbn⟩
    have HBN := Lib.hid hbn
    clear hbn
    go_wp2
    go_ret
    exact ⟨_, rfl, HBN.out.own, fun j e => Nat.le_trans HB1.out.size (HBN.out.fresh j e), HB1.out.trans (HBN.out.be.mono HB1.out.size)⟩
  · injection e0 with e0 _ e3
    subst e0 e3
    have i0 : (0 : Int) ≤ (f : Int) := by omega
    have i1 : (f : Int) ≤ (t : Int) := by omega
    have i2 : (t : Int) ≤ (dc : Int) := by omega
    have hle2 : t ≤ s.data.length := by omega
    clear h hdd hdl hnone hle hd
    go_enter Try.func11, Try.ntmps11
    go_wp2_with fail
    refine HP.out.mono ?_
    rintro e w1 ⟨rfl, hb1⟩
    have h1 := H.out.below hb1
    have c3 : w1.cell? ⟨k, 3, none⟩ = some (.slice (some ⟨g, 0, none⟩) s.data.length dc) := (blk_cells h1.blk 3).trans rfl
    have HB1 := Lib.hid hb1
    have H1 := Lib.hid h1
    clear h1 hb1
    go_wp2_with fail
    case inl hdc =>
      rw [← HDL.out]
      refine (bclone_walk d _ _ w1 ⟨_, 0, rfl, .inl (by rw [show d = [] from List.eq_nil_of_length_eq_zero (by have := HDL.out; omega)]; rfl), (fun e => by cases e), (by have := HDL.out; omega), by rw [bv_length, Nat.mul_one]⟩ (by have := HDL.out; omega)).mono ?_
      rintro e w2 ⟨v, rfl, hbn⟩
      have HBN := Lib.hid hbn
      clear hbn
      go_wp2
      go_ret
      exact ⟨_, rfl, HBN.out.own, fun j e => Nat.le_trans HB1.out.size (HBN.out.fresh j e), HB1.out.trans (HBN.out.be.mono HB1.out.size)⟩
    case inr hdc =>
      rw [← HDL.out]
      refine (bclone_walk d _ _ w1 (by have := own_part H1.out.data hin (by omega) rfl; rw [← HDD.out, ← HDL.out] at this; exact this) (by have := HDL.out; omega)).mono ?_
      rintro e w2 ⟨v, rfl, hbn⟩
      have HBN := Lib.hid hbn
      clear hbn
      go_wp2
      go_ret
      exact ⟨_, rfl, HBN.out.own, fun j e => Nat.le_trans HB1.out.size (HBN.out.fresh j e), HB1.out.trans (HBN.out.be.mono HB1.out.size)⟩
end Go.Proofs.Ytpgjjhpnemcgdaa
