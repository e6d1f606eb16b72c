/- Package reach: whole numbers, stretches. -/
import Derived.Test.YtpgjjhpnemcgdaaRows
import Derived.Test.YtpgjjhpnemcgdaaBase
import Derived.KernelRfl
import Derived.Test.YtpgjjhpnemcgdaaCach0
import Derived.Laws.Externs
import Derived.Deep.DrawnRows
set_option linter.unusedSimpArgs false
set_option linter.unusedVariables false
namespace Go.Proofs.Ytpgjjhpnemcgdaa
open Go.RowKit

attribute [local go_sem ↓] Go.wp_at_zero Go.wp_at_succ
theorem fb_dec {m : Nat} (h : m < 2 ^ 53) : ∃ k p, FloatKind.f64.decode (fb m) = .number false k p ∧ ((Ieee.Datum.number false k p).integral .zero) = .number false m 0 := by
  by_cases hm : m = 0
  · subst hm
    exact ⟨0, -1074, by decide +kernel, by decide +kernel⟩
  · obtain ⟨h1, h2, h3⟩ := log_lt (l := 0) h hm
    obtain ⟨k1, k2⟩ := kept_in h hm
    refine ⟨_, _, fb_read h hm, ?_⟩
    unfold Ieee.Datum.integral
    simp only
    have e1 : ((m.log2 : Int) - 52).toNat = 0 := by omega
    have e2 : (-((m.log2 : Int) - 52)).toNat = 52 - m.log2 := by omega
    rw [e1, e2, Nat.shiftLeft_zero]
    have hk : (m * 2 ^ (52 - m.log2)).log2 = 52 := by
      apply Nat.le_antisymm
      · exact Nat.le_of_lt_succ ((Nat.log2_lt (by omega)).2 k2)
      · exact (Nat.le_log2 (by omega)).2 k1
    have hc : Ieee.Toward.cut .zero false (m * 2 ^ (52 - m.log2)) (52 - m.log2) = m := by
      unfold Ieee.Toward.cut
      rw [hk, Nat.min_eq_left (by omega)]
      simp [Nat.shiftLeft_eq, Nat.mul_div_cancel m (Nat.two_pow_pos _)]
    rw [hc]
theorem fb_enc (m : Nat) : FloatKind.f64.encode (.number false m 0) = fb m := by
  unfold fb FloatKind.nearest
  have e0 : decide ((m : Int) < 0) = false := by simp
  rw [e0, Int.natAbs_natCast]
theorem trunc_run {m : Nat} (h : m < 2 ^ 53) (w : World) : (callFunc 52 #[.float .f64 (fb m)]).run Try.prog w = .ok (.value (.float .f64 (fb m))) w := by
  rw [run_callFunc_extern Try.func52 (by kernel_rfl) (by kernel_rfl) (by kernel_rfl) (e := Extern.MathFloor.toIntegral "math.archTrunc" .zero) (by kernel_rfl)]
  obtain ⟨k, p, hd, hi⟩ := fb_dec h
  have : (Extern.MathFloor.toIntegral "math.archTrunc" .zero #[.float .f64 (fb m)]) = pure (Value.float .f64 (fb m)) := by
    have h0 : Extern.MathFloor.toIntegral "math.archTrunc" .zero #[.float .f64 (fb m)] = (match FloatKind.f64.decode (fb m) with
      | .nan s t => if FloatKind.f64.format.quiet t = t then pure (Value.float .f64 (fb m)) else do
        let kept ← choose (.extern "math.Floor,Ceil,Trunc,RoundToEven.signallingNaN kept" 2)
        pure (Value.float .f64 (if kept == 1 then fb m else FloatKind.f64.encode (.nan s (FloatKind.f64.format.quiet t))))
      | d => pure (Value.float .f64 (FloatKind.f64.encode (d.integral .zero)))) := rfl
    rw [h0, hd]
    show pure (Value.float .f64 (FloatKind.f64.encode ((Ieee.Datum.number false k p).integral .zero))) = _
    rw [hi, fb_enc]
  rw [this]
  rfl
theorem Trunc_walk {m : Nat} (h : m < 2 ^ 53) (w : World) : Calls Try.prog 41 #[.float .f64 (fb m)] w fun e w' => e = .returned (.float .f64 (fb m)) ∧ w' = w := by
  have HT := trunc_run h
  go_enter Try.func41, Try.ntmps41
  go_wp2
  go_ret
  exact ⟨rfl, rfl⟩
theorem whole_walk {m : Nat} (h : m ≤ 1099511627776) (w : World) : Calls Try.prog 37 #[.float .f64 (fb m)] w fun e w' => e = .returned (.bool true) ∧ w' = w := by
  have HT := Lib.hid (Trunc_walk (m := m) (by omega) w)
  have h1 : FloatKind.f64.format.order (fb m) 0 = some .gt ∨ FloatKind.f64.format.order (fb m) 0 = some .eq := by
    rw [← fb_zero]
    rcases Nat.eq_zero_or_pos m with rfl | hm
    · exact .inr (ord_eq (by omega))
    · exact .inl (ord_gt (by omega) hm)
  have h2 : FloatKind.f64.format.order (fb m) 4787326403894837248 = some .lt ∨ FloatKind.f64.format.order (fb m) 4787326403894837248 = some .eq := by
    rw [← fb_end]
    rcases Nat.lt_or_ge m 1099511627776 with hm | hm
    · exact .inl (ord_lt (by omega) hm)
    · obtain rfl : m = 1099511627776 := by omega
      exact .inr (ord_eq (by omega))
  have h3 : FloatKind.f64.format.order (fb m) (fb m) = some .eq := ord_eq (by omega)
  clear h
  rcases h1 with h1 | h1 <;> rcases h2 with h2 | h2
  all_goals
    go_enter Try.func37, Try.ntmps37
    go_wp2_with fail
    refine HT.out.mono ?_
    rintro e W ⟨rfl, rfl⟩
    go_wp2
    go_ret
    exact ⟨rfl, rfl⟩
def cx (p : Nat × Nat) : Value := .complex .f64 (fb p.1) (fb p.2)
def Str1 (p : Nat × Nat) : Prop := p.1 < p.2 ∧ p.2 ≤ 1099511627776
theorem good_walk {a b : Nat} (h : a < b) (hb : b ≤ 1099511627776) (w : World) : Calls Try.prog 33 #[.complex .f64 (fb a) (fb b)] w fun e w' => e = .returned (.bool true) ∧ w' = w := by
  have HA := Lib.hid (whole_walk (m := a) (by omega) w)
  have HB := Lib.hid (whole_walk (m := b) (by omega) w)
  have h3 : FloatKind.f64.format.order (fb a) (fb b) = some .lt := ord_lt (by omega) h
  clear h hb
  go_enter Try.func33, Try.ntmps33
  go_wp2_with fail
  refine HA.out.mono ?_
  rintro e W ⟨rfl, rfl⟩
  go_wp2_with fail
  refine HB.out.mono ?_
  rintro e W ⟨rfl, rfl⟩
  go_wp2
  go_ret
  exact ⟨rfl, rfl⟩
theorem make_walk {a b : Nat} (h : a < b) (hb : b ≤ 1099511627776) (w : World) : Calls Try.prog 24 #[.int .i64 (a : Int), .int .i64 (b : Int)] w fun e w' => e = .returned (.tuple #[.complex .f64 (fb a) (fb b), .int .i64 0]) ∧ w' = w := by
  have ca : (convert 3 64 (.int .i64 (a : Int))).run Try.prog w = .ok (.float .f64 (fb a)) w := run_convert_int_float w _ _ _ _ _ (by kernel_rfl) Try.underlying64
  have cb : (convert 3 64 (.int .i64 (b : Int))).run Try.prog w = .ok (.float .f64 (fb b)) w := run_convert_int_float w _ _ _ _ _ (by kernel_rfl) Try.underlying64
  have h0 : ¬ (a : Int) < 0 := by omega
  have h1 : ¬ (1099511627776 : Int) < (b : Int) := by omega
  have h2 : ¬ (b : Int) ≤ (a : Int) := by omega
  clear h hb
  go_enter Try.func24, Try.ntmps24
  go_wp2
  go_ret2
  exact ⟨rfl, rfl⟩
theorem make_none {a b : Int} (h : b ≤ a) (w : World) : Calls Try.prog 24 #[.int .i64 a, .int .i64 b] w fun e w' => (∃ x, e = .returned (.tuple #[x, .int .i64 1])) ∧ w' = w := by
  by_cases h0 : a < 0
  · go_enter Try.func24, Try.ntmps24
    go_wp2
    go_ret2
    exact ⟨⟨_, rfl⟩, rfl⟩
  · by_cases h1 : 1099511627776 < b
    · go_enter Try.func24, Try.ntmps24
      go_wp2
      go_ret2
      exact ⟨⟨_, rfl⟩, rfl⟩
    · go_enter Try.func24, Try.ntmps24
      go_wp2
      go_ret2
      exact ⟨⟨_, rfl⟩, rfl⟩
theorem ends_walk {a b : Nat} (h : a < b) (hb : b ≤ 1099511627776) (w : World) : Calls Try.prog 27 #[.complex .f64 (fb a) (fb b)] w fun e w' => e = .returned (.tuple #[.int .i64 (a : Int), .int .i64 (b : Int), .int .i64 0]) ∧ w' = w := by
  have HG := Lib.hid (good_walk h hb w)
  have ca : (convert 64 3 (.float .f64 (fb a))).run Try.prog w = .ok (.int .i64 (a : Int)) w := run_convert_float_int w _ _ _ _ _ _ (by kernel_rfl) Try.underlying3 (fb_int (by omega))
  have cb : (convert 64 3 (.float .f64 (fb b))).run Try.prog w = .ok (.int .i64 (b : Int)) w := run_convert_float_int w _ _ _ _ _ _ (by kernel_rfl) Try.underlying3 (fb_int (by omega))
  clear h hb
  go_enter Try.func27, Try.ntmps27
  go_wp2_with fail
  refine HG.out.mono ?_
  rintro e W ⟨rfl, rfl⟩
  go_wp2
  refine bodyPost_ret (v := .tuple #[.int .i64 (a : Int), .int .i64 (b : Int), .int .i64 0]) (by simp [results, Try.results27, go_sem]) rfl ?_
  exact ⟨rfl, rfl⟩
end Go.Proofs.Ytpgjjhpnemcgdaa
