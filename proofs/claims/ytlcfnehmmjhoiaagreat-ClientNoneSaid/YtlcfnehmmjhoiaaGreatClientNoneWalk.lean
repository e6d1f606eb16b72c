/- ClientNone: the walk. -/
import Derived.Test.YtlcfnehmmjhoiaaGreatCln8
set_option linter.unusedSimpArgs false
set_option linter.unusedVariables false
namespace Go.Proofs.YtlcfnehmmjhoiaaGreat.lawClientNone
open Go.RowKit

set_option maxRecDepth 100000 in
set_option maxHeartbeats 8000000 in
theorem walk (seat life now : Int) (k f a z : Int) (p o : ByteArray) (D : Option Addr) (dn dc : Nat) (lf lt : Int) (LD : Option Addr) (ln lc : Nat) (n g : Int) (w : World) : Calls Tryz.prog 4 #[.int .i64 seat, .int .i64 life, .int .i64 now, .agg #[.int .i64 k, .string p, .string o, .int .i64 f, .int .i64 a, .int .i64 z, .slice D dn dc], .agg #[.int .i64 lf, .int .i64 lt, .slice LD ln lc], .agg #[.int .i64 n, .int .i64 g]] w fun r w' => r = .returned (.bool true) ∧ Below w.heap.size w w' := by
  obtain ⟨wa, hwa⟩ : ∃ wa, wa = w.alloc (.cells #[.int .i64 k, .string p, .string o, .int .i64 f, .int .i64 a, .int .i64 z, .slice D dn dc] 32) := ⟨_, rfl⟩
  have hxa := blk_new w (.cells #[.int .i64 k, .string p, .string o, .int .i64 f, .int .i64 a, .int .i64 z, .slice D dn dc] 32)
  have hba := (Below.refl w.heap.size w).alloc (Nat.le_refl _) (.cells #[.int .i64 k, .string p, .string o, .int .i64 f, .int .i64 a, .int .i64 z, .slice D dn dc] 32)
  have za : wa.heap.size = w.heap.size + 1 := by rw [hwa]; simp
  rw [← hwa] at hxa hba
  obtain ⟨wb, hwb⟩ : ∃ wb, wb = wa.alloc (.cells #[.int .i64 lf, .int .i64 lt, .slice LD ln lc] 35) := ⟨_, rfl⟩
  have hlb := blk_new wa (.cells #[.int .i64 lf, .int .i64 lt, .slice LD ln lc] 35)
  have hxb := blk_old hxa (.cells #[.int .i64 lf, .int .i64 lt, .slice LD ln lc] 35)
  have hbb := hba.alloc hba.size (.cells #[.int .i64 lf, .int .i64 lt, .slice LD ln lc] 35)
  have zb : wb.heap.size = w.heap.size + 1 + 1 := by rw [hwb]; simp [za]
  rw [← hwb] at hlb hxb hbb
  rw [za] at hlb
  obtain ⟨w0, hw0⟩ : ∃ w0, w0 = wb.alloc (.cells #[.int .i64 n, .int .i64 g] 39) := ⟨_, rfl⟩
  have hh0 := blk_new wb (.cells #[.int .i64 n, .int .i64 g] 39)
  have hl0 := blk_old hlb (.cells #[.int .i64 n, .int .i64 g] 39)
  have hx0 := blk_old hxb (.cells #[.int .i64 n, .int .i64 g] 39)
  have hb0 := hbb.alloc hbb.size (.cells #[.int .i64 n, .int .i64 g] 39)
  rw [← hw0] at hh0 hl0 hx0 hb0
  rw [zb] at hh0
  have HW : Hid (((w.alloc (.cells #[.int .i64 k, .string p, .string o, .int .i64 f, .int .i64 a, .int .i64 z, .slice D dn dc] 32)).alloc (.cells #[.int .i64 lf, .int .i64 lt, .slice LD ln lc] 35)).alloc (.cells #[.int .i64 n, .int .i64 g] 39) = w0) := Lib.hid (by rw [hw0, hwb, hwa])
  have HX := Lib.hid hx0
  have HL := Lib.hid hl0
  have HH := Lib.hid hh0
  have HB := Lib.hid hb0
  have cx := blk_cells hx0
  clear hwa hxa hba za hwb hlb hxb hbb zb hw0 hh0 hl0 hx0 hb0
  go_enter Tryz.func4, Tryz.ntmps4
  go_upto_region 2 with fail
  rw [HW.out]
  go_wp2_with fail
  refine (call_nil k f a z p o D dn dc now w0).mono ?_
  rintro r w1 ⟨rfl, h1⟩
  have HL1 := Lib.hid ((Keep.of_below (S := fun _ => False) h1).blk HL.out id)
  have HH1 := Lib.hid ((Keep.of_below (S := fun _ => False) h1).blk HH.out id)
  have HB1 := Lib.hid (bstep HB.out h1)
  clear h1 cx
  go_wp2_with fail
  refine (result_nil w1).mono ?_
  rintro r w2 ⟨rfl, h2⟩
  obtain ⟨w3, hw3⟩ : ∃ w3, w3 = w2.alloc (.cells #[.int .i64 0, .int .i64 0, .int .i64 0, .int .i64 0, .slice none 0 0, .slice none 0 0] 42) := ⟨_, rfl⟩
  have h3 := h2.alloc h2.size (.cells #[.int .i64 0, .int .i64 0, .int .i64 0, .int .i64 0, .slice none 0 0, .slice none 0 0] 42)
  rw [← hw3] at h3
  have HL3 := Lib.hid ((Keep.of_below (S := fun _ => False) h3).blk HL1.out id)
  have HH3 := Lib.hid ((Keep.of_below (S := fun _ => False) h3).blk HH1.out id)
  have HB3 := Lib.hid (bstep HB1.out h3)
  have HW3 := Lib.hid hw3
  clear hw3 h2 h3
  go_wp2_with fail
  rw [← HW3.out]
  by_cases hf : 0 ≤ seat ∧ seat ≤ 7 ∧ 1 ≤ life ∧ life ≤ 1073741824
  · have HNW := Lib.hid (cnew_ok seat life now ⟨hf.1, hf.2.1⟩ ⟨hf.2.2.1, hf.2.2.2⟩ w3)
    refine HNW.out.mono ?_
    rintro r w4 ⟨rfl, hw4⟩
    have h4 : Below w3.heap.size w3 w4 := by rw [hw4]; exact (Below.refl w3.heap.size w3).alloc (Nat.le_refl _) _
    have HL4 := Lib.hid ((Keep.of_below (S := fun _ => False) h4).blk HL3.out id)
    have HH4 := Lib.hid ((Keep.of_below (S := fun _ => False) h4).blk HH3.out id)
    have HB4 := Lib.hid (bstep HB3.out h4)
    have f1 : decide (0 ≤ seat) = true := decide_eq_true hf.1
    have f2 : decide (seat ≤ 7) = true := decide_eq_true hf.2.1
    have f3 : decide (1 ≤ life) = true := decide_eq_true hf.2.2.1
    have f4 : decide (life ≤ 1073741824) = true := decide_eq_true hf.2.2.2
    clear hw4 h4 hf HNW
    go_wp2_with fail
    refine (awake_walk w4).mono ?_
    rintro r w5 ⟨rfl, h5⟩
    have hl5 := (Keep.of_below (S := fun _ => False) h5).blk HL4.out id
    have HH5 := Lib.hid ((Keep.of_below (S := fun _ => False) h5).blk HH4.out id)
    have HB5 := Lib.hid (bstep HB4.out h5)
    have cl := blk_cells hl5
    clear h5 hl5
    go_wp2_with fail
    refine (letter_nil lf lt LD ln lc now w5).mono ?_
    rintro r w6 ⟨rfl, h6⟩
    have hh6 := (Keep.of_below (S := fun _ => False) h6).blk HH5.out id
    have HB6 := Lib.hid (bstep HB5.out h6)
    have ch := blk_cells hh6
    clear h6 hh6 cl
    go_wp2_with fail
    refine (tick_nil now w6).mono ?_
    rintro r w' ⟨rfl, hw'⟩
    subst hw'
    go_wp2_with fail
    refine (busy_nil w').mono ?_
    rintro r w7 ⟨rfl, hw7⟩
    subst hw7
    go_wp2_with fail
    refine (holds_nil now w7).mono ?_
    rintro r w8 ⟨rfl, hw8⟩
    subst hw8
    go_wp2_with fail
    refine (dirty_nil n g w8).mono ?_
    rintro r w9 ⟨rfl, h9⟩
    have HB9 := Lib.hid (bstep HB6.out h9)
    clear h9 ch
    go_wp2
    go_ret
    exact ⟨rfl, HB9.out⟩
  · have HNW := Lib.hid (cnew_bad seat life now hf w3)
    refine HNW.out.mono ?_
    rintro r w4 ⟨rfl, hw4⟩
    subst hw4
    have HL4 := HL3
    have HH4 := HH3
    have HB4 := HB3
    have hcase : seat < 0 ∨ (0 ≤ seat ∧ 7 < seat) ∨ ((0 ≤ seat ∧ seat ≤ 7) ∧ life < 1) ∨ ((0 ≤ seat ∧ seat ≤ 7) ∧ 1 ≤ life ∧ 1073741824 < life) := by omega
    clear hf HNW
    rcases hcase with hA | hA | hA | hA
    · have f1 : decide (0 ≤ seat) = false := decide_eq_false (by omega)
      clear hA
      go_wp2_with fail
      refine (awake_walk w4).mono ?_
      rintro r w5 ⟨rfl, h5⟩
      have hl5 := (Keep.of_below (S := fun _ => False) h5).blk HL4.out id
      have HH5 := Lib.hid ((Keep.of_below (S := fun _ => False) h5).blk HH4.out id)
      have HB5 := Lib.hid (bstep HB4.out h5)
      have cl := blk_cells hl5
      clear h5 hl5
      go_wp2_with fail
      refine (letter_nil lf lt LD ln lc now w5).mono ?_
      rintro r w6 ⟨rfl, h6⟩
      have hh6 := (Keep.of_below (S := fun _ => False) h6).blk HH5.out id
      have HB6 := Lib.hid (bstep HB5.out h6)
      have ch := blk_cells hh6
      clear h6 hh6 cl
      go_wp2_with fail
      refine (tick_nil now w6).mono ?_
      rintro r w' ⟨rfl, hw'⟩
      subst hw'
      go_wp2_with fail
      refine (busy_nil w').mono ?_
      rintro r w7 ⟨rfl, hw7⟩
      subst hw7
      go_wp2_with fail
      refine (holds_nil now w7).mono ?_
      rintro r w8 ⟨rfl, hw8⟩
      subst hw8
      go_wp2_with fail
      refine (dirty_nil n g w8).mono ?_
      rintro r w9 ⟨rfl, h9⟩
      have HB9 := Lib.hid (bstep HB6.out h9)
      clear h9 ch
      go_wp2
      go_ret
      exact ⟨rfl, HB9.out⟩
    · have f0 : decide (0 ≤ seat) = true := decide_eq_true hA.1
      have f1 : decide (seat ≤ 7) = false := decide_eq_false (by omega)
      clear hA
      go_wp2_with fail
      refine (awake_walk w4).mono ?_
      rintro r w5 ⟨rfl, h5⟩
      have hl5 := (Keep.of_below (S := fun _ => False) h5).blk HL4.out id
      have HH5 := Lib.hid ((Keep.of_below (S := fun _ => False) h5).blk HH4.out id)
      have HB5 := Lib.hid (bstep HB4.out h5)
      have cl := blk_cells hl5
      clear h5 hl5
      go_wp2_with fail
      refine (letter_nil lf lt LD ln lc now w5).mono ?_
      rintro r w6 ⟨rfl, h6⟩
      have hh6 := (Keep.of_below (S := fun _ => False) h6).blk HH5.out id
      have HB6 := Lib.hid (bstep HB5.out h6)
      have ch := blk_cells hh6
      clear h6 hh6 cl
      go_wp2_with fail
      refine (tick_nil now w6).mono ?_
      rintro r w' ⟨rfl, hw'⟩
      subst hw'
      go_wp2_with fail
      refine (busy_nil w').mono ?_
      rintro r w7 ⟨rfl, hw7⟩
      subst hw7
      go_wp2_with fail
      refine (holds_nil now w7).mono ?_
      rintro r w8 ⟨rfl, hw8⟩
      subst hw8
      go_wp2_with fail
      refine (dirty_nil n g w8).mono ?_
      rintro r w9 ⟨rfl, h9⟩
      have HB9 := Lib.hid (bstep HB6.out h9)
      clear h9 ch
      go_wp2
      go_ret
      exact ⟨rfl, HB9.out⟩
    · have f0 : decide (0 ≤ seat) = true := decide_eq_true hA.1.1
      have f9 : decide (seat ≤ 7) = true := decide_eq_true hA.1.2
      have f1 : decide (1 ≤ life) = false := decide_eq_false (by omega)
      clear hA
      go_wp2_with fail
      refine (awake_walk w4).mono ?_
      rintro r w5 ⟨rfl, h5⟩
      have hl5 := (Keep.of_below (S := fun _ => False) h5).blk HL4.out id
      have HH5 := Lib.hid ((Keep.of_below (S := fun _ => False) h5).blk HH4.out id)
      have HB5 := Lib.hid (bstep HB4.out h5)
      have cl := blk_cells hl5
      clear h5 hl5
      go_wp2_with fail
      refine (letter_nil lf lt LD ln lc now w5).mono ?_
      rintro r w6 ⟨rfl, h6⟩
      have hh6 := (Keep.of_below (S := fun _ => False) h6).blk HH5.out id
      have HB6 := Lib.hid (bstep HB5.out h6)
      have ch := blk_cells hh6
      clear h6 hh6 cl
      go_wp2_with fail
      refine (tick_nil now w6).mono ?_
      rintro r w' ⟨rfl, hw'⟩
      subst hw'
      go_wp2_with fail
      refine (busy_nil w').mono ?_
      rintro r w7 ⟨rfl, hw7⟩
      subst hw7
      go_wp2_with fail
      refine (holds_nil now w7).mono ?_
      rintro r w8 ⟨rfl, hw8⟩
      subst hw8
      go_wp2_with fail
      refine (dirty_nil n g w8).mono ?_
      rintro r w9 ⟨rfl, h9⟩
      have HB9 := Lib.hid (bstep HB6.out h9)
      clear h9 ch
      go_wp2
      go_ret
      exact ⟨rfl, HB9.out⟩
    · have f0 : decide (0 ≤ seat) = true := decide_eq_true hA.1.1
      have f9 : decide (seat ≤ 7) = true := decide_eq_true hA.1.2
      have f8 : decide (1 ≤ life) = true := decide_eq_true hA.2.1
      have f1 : decide (life ≤ 1073741824) = false := decide_eq_false (by omega)
      clear hA
      go_wp2_with fail
      refine (awake_walk w4).mono ?_
      rintro r w5 ⟨rfl, h5⟩
      have hl5 := (Keep.of_below (S := fun _ => False) h5).blk HL4.out id
      have HH5 := Lib.hid ((Keep.of_below (S := fun _ => False) h5).blk HH4.out id)
      have HB5 := Lib.hid (bstep HB4.out h5)
      have cl := blk_cells hl5
      clear h5 hl5
      go_wp2_with fail
      refine (letter_nil lf lt LD ln lc now w5).mono ?_
      rintro r w6 ⟨rfl, h6⟩
      have hh6 := (Keep.of_below (S := fun _ => False) h6).blk HH5.out id
      have HB6 := Lib.hid (bstep HB5.out h6)
      have ch := blk_cells hh6
      clear h6 hh6 cl
      go_wp2_with fail
      refine (tick_nil now w6).mono ?_
      rintro r w' ⟨rfl, hw'⟩
      subst hw'
      go_wp2_with fail
      refine (busy_nil w').mono ?_
      rintro r w7 ⟨rfl, hw7⟩
      subst hw7
      go_wp2_with fail
      refine (holds_nil now w7).mono ?_
      rintro r w8 ⟨rfl, hw8⟩
      subst hw8
      go_wp2_with fail
      refine (dirty_nil n g w8).mono ?_
      rintro r w9 ⟨rfl, h9⟩
      have HB9 := Lib.hid (bstep HB6.out h9)
      clear h9 ch
      go_wp2
      go_ret
      exact ⟨rfl, HB9.out⟩
end Go.Proofs.YtlcfnehmmjhoiaaGreat.lawClientNone
