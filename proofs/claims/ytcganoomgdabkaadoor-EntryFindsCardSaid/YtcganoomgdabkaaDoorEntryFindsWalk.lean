/- EntryFinds: the walk. -/
import Derived.Test.YtcganoomgdabkaaDoorEntryW
import Derived.Deep.DeepCutAuto
import Derived.Deep.CutBlock
set_option linter.unusedSimpArgs false
set_option linter.unusedVariables false
namespace Go.Proofs.YtcganoomgdabkaaDoor.lawEntryFinds
open Go.RowKit

theorem rows_take (l : List RW) : ∀ n, rows (l.take n) = (rows l).take (n * 2) := by
  induction l with
  | nil => intro n; simp [rows]
  | cons x l ih =>
    intro n
    cases n with
    | zero => simp [rows]
    | succ n =>
      have h := ih n
      simp only [rows, List.take_succ_cons, List.flatMap_cons, RW.cells] at h ⊢
      rw [h, show (n + 1) * 2 = n * 2 + 1 + 1 by omega]
      rfl
theorem sl_take {w : World} {A : Option Addr} {c : Nat} {l : List RW} (h : Sl w 2 (.slice A l.length c) l.length (rows l)) (n : Nat) : Sl w 2 (.slice A (l.take n).length c) (l.take n).length (rows (l.take n)) := by
  obtain ⟨A', c', e, hr, h1, h2, h3⟩ := h
  injection e with e1 _ e2
  subst e1 e2
  refine ⟨A, c, rfl, by rw [rows_take]; exact hr.take _, fun e => ?_, ?_, rows_length _⟩
  · have := h1 e
    simp only [List.length_take]
    omega
  · simp only [List.length_take]
    omega
theorem placeP_cons (x : RW) (t : List RW) : placeP (x :: t) = if x = RW.none then 0 else placeP t + 1 := by
  unfold placeP
  simp only [idxR]
  by_cases h : x = RW.none
  · simp [h]
  · simp only [h, decide_false, if_false, Bool.false_eq_true, List.length_cons]
    cases idxR (fun r => decide (r = RW.none)) t <;> rfl
theorem drop_at {l : List RW} {i : Nat} {x : RW} (h : l[i]? = some x) : l.drop i = x :: l.drop (i + 1) := by
  obtain ⟨h1, h2⟩ := List.getElem?_eq_some_iff.1 h
  rw [List.drop_eq_getElem_cons h1, h2]
set_option maxRecDepth 100000 in
set_option maxHeartbeats 4000000 in
theorem walk (A : Option Addr) (c : Nat) (l0 : List RW) (s : Str) (w : World) (hs0 : Sl w 2 (.slice A l0.length c) l0.length (rows l0)) (hn0 : l0.length ≤ 8000000000000) :
    Calls Tryd.prog 5 #[.slice A l0.length c, .string ⟨s.toArray⟩] w fun e w' => e = .returned (.bool true) ∧ Below w.heap.size w w' := by
  have hcap : l0.length ≤ c := by
    obtain ⟨_, _, e, _, _, h, _⟩ := hs0
    injection e with _ _ e
    omega
  obtain ⟨l, hl⟩ : ∃ l, l = l0.take 300 := ⟨_, rfl⟩
  have hsl : Sl w 2 (.slice A l.length c) l.length (rows l) := by rw [hl]; exact sl_take hs0 300
  have hlen : l.length = min 300 l0.length := by rw [hl]; exact List.length_take
  have HSL := Lib.hid hsl
  have HLL := Lib.hid hlen
  clear hsl hl hs0 hlen
  go_enter Tryd.func5, Tryd.ntmps5
  go_upto_if 12 with fail
  go_cut [0] (fun v wx => v = .slice A l.length c ∧ wx = w)
  case first =>
    by_cases hbig : l0.length > 300
    · have hb1 : (300 : Int) < (l0.length : Int) := by omega
      have hc1 : (300 : Int) ≤ (c : Int) := by omega
      go_wp2
      go_meet
      case rel => exact ⟨by rw [HLL.out, Nat.min_eq_left (by omega)], rfl⟩
    · have hb1 : ¬ (300 : Int) < (l0.length : Int) := by omega
      go_wp2
      go_meet
      case rel => exact ⟨by rw [HLL.out, Nat.min_eq_right (by omega)], rfl⟩
  case rest =>
    obtain ⟨rfl, rfl⟩ := hcut
    have hn : l.length ≤ 300 := by rw [HLL.out]; exact Nat.min_le_left _ _
    clear hcap hn0
    obtain ⟨n8, h8⟩ : ∃ n8, n8 = placeP l := ⟨_, rfl⟩
    have HN8 := Lib.hid h8
    clear h8
    cases hf : findP l s with
    | none =>
      have HF := Lib.hid (find_no hf wc HSL.out (by omega))
      have HR := Lib.hid (fun w h => rfind_walk A c l s w h (by omega))
      rw [hf] at HR
      have e1 : numO none = -1 := rfl
      rw [e1] at HR
      clear e1 hf
      go_wp2_with fail
      refine HF.out.mono ?_
      rintro e w1 ⟨rfl, hb1⟩
      have B1 := Lib.hid hb1
      have S1 := Lib.hid (HSL.out.below hb1)
      clear hb1
      go_wp2_with fail
      refine (HR.out _ S1.out).mono ?_
      rintro e w2 ⟨rfl, rfl⟩
      go_upto_region 9 with fail
      go_loop [8, 9] (fun v8 v9 => ∃ i : Nat, i ≤ l.length ∧ v8 = .int .i64 ((i + placeP (l.drop i) : Nat) : Int) ∧ v9 = .int .i64 ((i : Int) - 1)) (fun _ v => (intOf v + 1).toNat)
      case atStart => exact ⟨l.length, Nat.le_refl _, by rw [List.drop_length]; rfl, by go_num⟩
      case round =>
        obtain ⟨i, hi, rfl, rfl⟩ := hrel
        cases i with
        | zero =>
          rw [List.drop_zero, Nat.zero_add, ← HN8.out]
          go_wp2_with fail
          refine (awake_walk w2).mono ?_
          rintro e w3 ⟨rfl, hb3⟩
          have B3 := Lib.hid (bstep B1.out hb3)
          have S3 := Lib.hid (S1.out.below hb3)
          have HP := Lib.hid (place_walk A c l w3 S3.out (by omega))
          rw [← HN8.out] at HP
          clear hb3
          go_wp2_with fail
          refine HP.out.mono ?_
          rintro e w4 ⟨rfl, hb4⟩
          have B4 := Lib.hid (bstep B3.out hb4)
          have S4 := Lib.hid (S3.out.below hb4)
          clear hb4
          go_wp2_with fail
          refine (names_walk A c l w4 S4.out (by omega)).mono ?_
          rintro e w5 ⟨A5, c5, rfl, hs5, hb5⟩
          have B5 := Lib.hid (bstep B4.out hb5)
          have S5 := Lib.hid (S4.out.below hb5)
          have N5 := Lib.hid hs5
          clear hb5 hs5
          go_wp2_with fail
          refine (rnames_walk A c l w5 S5.out (by omega)).mono ?_
          rintro e w6 ⟨A6, c6, rfl, hs6, hb6⟩
          have B6 := Lib.hid (bstep B5.out hb6)
          have hln : (namesP l).length ≤ l.length := by unfold namesP; rw [sortS_length]; exact rawN_length l
          have HM := Lib.hid (sameN_walk A5 A6 _ _ c5 c6 (namesP l) (namesP l) w6 (N5.out.below hb6) hs6 (by omega))
          rw [decide_eq_true rfl] at HM
          clear hb6 hs6 hln
          go_wp2_with fail
          refine HM.out.mono ?_
          rintro e w7 ⟨rfl, hb7⟩
          have B7 := Lib.hid (bstep B6.out hb7)
          clear hb7
          go_wp2
          go_ret
          exact ⟨rfl, B7.out⟩
        | succ j =>
          have e9 : (((j + 1 : Nat) : Int) - 1) = (j : Int) := by omega
          rw [e9]
          clear e9
          have hj : j < l.length := hi
          obtain ⟨x, hx⟩ : ∃ x, l[j]? = some x := ⟨l[j], List.getElem?_eq_getElem hj⟩
          obtain ⟨b, o, rfl, hb, r0, r1⟩ := row_at S1.out hx
          have HD := Lib.hid (drop_at hx)
          have b1 : (0 : Int) ≤ (j : Int) := by omega
          have b2 : (j : Int) < (l.length : Int) := by omega
          clear hx
          obtain ⟨xs, xn⟩ := x
          dsimp only at r0 r1
          by_cases h1 : xs = []
          · subst h1
            by_cases h2 : xn = 0
            · subst h2
              have hpl : j + placeP (l.drop j) = j := by rw [HD.out, placeP_cons]; simp [RW.none]
              have HPL := Lib.hid hpl
              clear hpl
              go_wp2
              go_round
              case rel => exact ⟨j, by omega, by rw [HPL.out], by go_num⟩
              case measure => simp [intOf]
            · have hpl : j + placeP (l.drop j) = j + 1 + placeP (l.drop (j + 1)) := by rw [HD.out, placeP_cons, if_neg (by intro h; injection h with _ h; exact h2 h)]; omega
              have HPL := Lib.hid hpl
              clear hpl
              go_wp2
              go_round
              case rel => exact ⟨j, by omega, by rw [HPL.out], by go_num⟩
              case measure => simp [intOf]
          · have h1a : xs.isEmpty = false := by simpa using h1
            have h1c : (xs == []) = false := by simpa using h1
            have hpl : j + placeP (l.drop j) = j + 1 + placeP (l.drop (j + 1)) := by rw [HD.out, placeP_cons, if_neg (by intro h; injection h with h _; exact h1 h)]; omega
            have HPL := Lib.hid hpl
            clear hpl h1
            go_wp2
            go_round
            case rel => exact ⟨j, by omega, by rw [HPL.out], by go_num⟩
            case measure => simp [intOf]
    | some k0 =>
      have HF := Lib.hid (find_yes hf wc HSL.out (by omega))
      have HR := Lib.hid (fun w h => rfind_walk A c l s w h (by omega))
      rw [hf] at HR
      have e1 : numO (some k0) = (k0 : Int) := rfl
      rw [e1] at HR
      have hk0 : (0 : Int) ≤ (k0 : Int) := Int.natCast_nonneg _
      clear e1 hf
      go_wp2_with fail
      refine HF.out.mono ?_
      rintro e w1 ⟨rfl, hb1⟩
      have B1 := Lib.hid hb1
      have S1 := Lib.hid (HSL.out.below hb1)
      clear hb1
      go_wp2_with fail
      refine (HR.out _ S1.out).mono ?_
      rintro e w2 ⟨rfl, rfl⟩
      go_upto_region 9 with fail
      go_loop [8, 9] (fun v8 v9 => ∃ i : Nat, i ≤ l.length ∧ v8 = .int .i64 ((i + placeP (l.drop i) : Nat) : Int) ∧ v9 = .int .i64 ((i : Int) - 1)) (fun _ v => (intOf v + 1).toNat)
      case atStart => exact ⟨l.length, Nat.le_refl _, by rw [List.drop_length]; rfl, by go_num⟩
      case round =>
        obtain ⟨i, hi, rfl, rfl⟩ := hrel
        cases i with
        | zero =>
          rw [List.drop_zero, Nat.zero_add, ← HN8.out]
          go_wp2_with fail
          refine (awake_walk w2).mono ?_
          rintro e w3 ⟨rfl, hb3⟩
          have B3 := Lib.hid (bstep B1.out hb3)
          have S3 := Lib.hid (S1.out.below hb3)
          have HP := Lib.hid (place_walk A c l w3 S3.out (by omega))
          rw [← HN8.out] at HP
          clear hb3
          go_wp2_with fail
          refine HP.out.mono ?_
          rintro e w4 ⟨rfl, hb4⟩
          have B4 := Lib.hid (bstep B3.out hb4)
          have S4 := Lib.hid (S3.out.below hb4)
          clear hb4
          go_wp2_with fail
          refine (names_walk A c l w4 S4.out (by omega)).mono ?_
          rintro e w5 ⟨A5, c5, rfl, hs5, hb5⟩
          have B5 := Lib.hid (bstep B4.out hb5)
          have S5 := Lib.hid (S4.out.below hb5)
          have N5 := Lib.hid hs5
          clear hb5 hs5
          go_wp2_with fail
          refine (rnames_walk A c l w5 S5.out (by omega)).mono ?_
          rintro e w6 ⟨A6, c6, rfl, hs6, hb6⟩
          have B6 := Lib.hid (bstep B5.out hb6)
          have hln : (namesP l).length ≤ l.length := by unfold namesP; rw [sortS_length]; exact rawN_length l
          have HM := Lib.hid (sameN_walk A5 A6 _ _ c5 c6 (namesP l) (namesP l) w6 (N5.out.below hb6) hs6 (by omega))
          rw [decide_eq_true rfl] at HM
          clear hb6 hs6 hln
          go_wp2_with fail
          refine HM.out.mono ?_
          rintro e w7 ⟨rfl, hb7⟩
          have B7 := Lib.hid (bstep B6.out hb7)
          clear hb7
          go_wp2
          go_ret
          exact ⟨rfl, B7.out⟩
        | succ j =>
          have e9 : (((j + 1 : Nat) : Int) - 1) = (j : Int) := by omega
          rw [e9]
          clear e9
          have hj : j < l.length := hi
          obtain ⟨x, hx⟩ : ∃ x, l[j]? = some x := ⟨l[j], List.getElem?_eq_getElem hj⟩
          obtain ⟨b, o, rfl, hb, r0, r1⟩ := row_at S1.out hx
          have HD := Lib.hid (drop_at hx)
          have b1 : (0 : Int) ≤ (j : Int) := by omega
          have b2 : (j : Int) < (l.length : Int) := by omega
          clear hx
          obtain ⟨xs, xn⟩ := x
          dsimp only at r0 r1
          by_cases h1 : xs = []
          · subst h1
            by_cases h2 : xn = 0
            · subst h2
              have hpl : j + placeP (l.drop j) = j := by rw [HD.out, placeP_cons]; simp [RW.none]
              have HPL := Lib.hid hpl
              clear hpl
              go_wp2
              go_round
              case rel => exact ⟨j, by omega, by rw [HPL.out], by go_num⟩
              case measure => simp [intOf]
            · have hpl : j + placeP (l.drop j) = j + 1 + placeP (l.drop (j + 1)) := by rw [HD.out, placeP_cons, if_neg (by intro h; injection h with _ h; exact h2 h)]; omega
              have HPL := Lib.hid hpl
              clear hpl
              go_wp2
              go_round
              case rel => exact ⟨j, by omega, by rw [HPL.out], by go_num⟩
              case measure => simp [intOf]
          · have h1a : xs.isEmpty = false := by simpa using h1
            have h1c : (xs == []) = false := by simpa using h1
            have hpl : j + placeP (l.drop j) = j + 1 + placeP (l.drop (j + 1)) := by rw [HD.out, placeP_cons, if_neg (by intro h; injection h with h _; exact h1 h)]; omega
            have HPL := Lib.hid hpl
            clear hpl h1
            go_wp2
            go_round
            case rel => exact ⟨j, by omega, by rw [HPL.out], by go_num⟩
            case measure => simp [intOf]
end Go.Proofs.YtcganoomgdabkaaDoor.lawEntryFinds
