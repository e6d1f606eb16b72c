/- The law of clients: number, text. -/
import Derived.Test.YtlcfnehmmjhoiaaGreatVrb4
set_option linter.unusedSimpArgs false
set_option linter.unusedVariables false
namespace Go.Proofs.YtlcfnehmmjhoiaaGreat
open Go.RowKit

attribute [local go_sem ↓] Go.wp_at_zero Go.wp_at_succ
theorem str_at {s : List UInt8} {i : Nat} {x : UInt8} (hx : s[i]? = some x) : (⟨s.toArray⟩ : ByteArray)[i]'(List.getElem?_eq_some_iff.1 hx).1 = x := (List.getElem?_eq_some_iff.1 hx).2
set_option maxHeartbeats 1000000 in
theorem lnum_walk (s : List UInt8) (i : Nat) (a b c d : UInt8) (hl : s.length ≤ 1000000) (ha : s[i]? = some a) (hb : s[i+1]? = some b) (hc : s[i+2]? = some c) (hd : s[i+3]? = some d) (w : World) :
    Calls Tryz.prog 51 #[.string ⟨s.toArray⟩, .int .i64 (i : Int)] w fun e w' => e = .returned (.int .i64 ((a.toNat + 256 * b.toNat + 65536 * c.toNat + 16777216 * d.toNat : Nat) : Int)) ∧ Below w.heap.size w w' := by
  have hi : i + 3 < s.length := (List.getElem?_eq_some_iff.1 hd).1
  have ba := a.toNat_lt
  have bb := b.toNat_lt
  have bc := c.toNat_lt
  have bd := d.toNat_lt
  have xa := str_at ha
  have xb := str_at hb
  have xc := str_at hc
  have xd := str_at hd
  have n1 : ((i : Int) + 1).toNat = i + 1 := by omega
  have n2 : ((i : Int) + 2).toNat = i + 2 := by omega
  have n3 : ((i : Int) + 3).toNat = i + 3 := by omega
  have g0 : (0 : Int) ≤ (i : Int) := by omega
  have g01 : (0 : Int) ≤ (i : Int) + 1 := by omega
  have g02 : (0 : Int) ≤ (i : Int) + 2 := by omega
  have g03 : (0 : Int) ≤ (i : Int) + 3 := by omega
  have l0 : (i : Int) < (s.length : Int) := by omega
  have l1 : (i : Int) + 1 < (s.length : Int) := by omega
  have l2 : (i : Int) + 2 < (s.length : Int) := by omega
  have l3 : (i : Int) + 3 < (s.length : Int) := by omega
  have q1 : IntKind.i64.wrap ((i : Int) + 1) = (i : Int) + 1 := IntWalk.i64_in _ (by omega)
  have q2 : IntKind.i64.wrap ((i : Int) + 2) = (i : Int) + 2 := IntWalk.i64_in _ (by omega)
  have q3 : IntKind.i64.wrap ((i : Int) + 3) = (i : Int) + 3 := IntWalk.i64_in _ (by omega)
  clear hl
  go_enter Tryz.func51, Tryz.ntmps51
  go_wp2_with fail
  refine wp_region_quiet_lit (by kernel_rfl) (by kernel_rfl) ?_
  repeat (any_goals (first | go_big_quiet_step (fail) | quiet_step (fail)))
  apply wpQuiet_nil
  intro _ hw'
  obtain ⟨nq, hw''⟩ := hw'
  subst hw''
  go_wp2
  go_ret
  exact ⟨congrArg (fun n => Ending.returned (.int .i64 n)) (by omega), ((Keep.refl (fun _ => False) w).drewN nq).to_below⟩
theorem str_extract (s : List UInt8) (i j : Nat) : (⟨s.toArray⟩ : ByteArray).extract i j = ⟨((s.drop i).take (j - i)).toArray⟩ := by
  apply ByteArray.ext
  rw [ByteArray.data_extract]
  apply Array.ext'
  simp
/-- A text's field: it is there whole. -/
theorem ltext_walk (s : List UInt8) (i n : Nat) (a b : UInt8) (hl : s.length ≤ 1000000) (ha : s[i]? = some a) (hb : s[i+1]? = some b) (hn : a.toNat + 256 * b.toNat = n) (hin : i + 2 + n ≤ s.length) (w : World) :
    Calls Tryz.prog 52 #[.string ⟨s.toArray⟩, .int .i64 (i : Int)] w fun e w' => e = .returned (.tuple #[.string ⟨((s.drop (i + 2)).take n).toArray⟩, .int .i64 ((i + 2 + n : Nat) : Int)]) ∧ Below w.heap.size w w' := by
  have ba := a.toNat_lt
  have bb := b.toNat_lt
  have xa := str_at ha
  have xb := str_at hb
  have n1 : ((i : Int) + 1).toNat = i + 1 := by omega
  have g0 : (0 : Int) ≤ (i : Int) := by omega
  have g01 : (0 : Int) ≤ (i : Int) + 1 := by omega
  have l0 : (i : Int) < (s.length : Int) := by omega
  have l1 : (i : Int) + 1 < (s.length : Int) := by omega
  have l2 : ¬ (s.length : Int) < (i : Int) + 2 := by omega
  have q1 : IntKind.i64.wrap ((i : Int) + 1) = (i : Int) + 1 := IntWalk.i64_in _ (by omega)
  have q2 : IntKind.i64.wrap ((i : Int) + 2) = (i : Int) + 2 := IntWalk.i64_in _ (by omega)
  go_enter Tryz.func52, Tryz.ntmps52
  go_wp2_with fail
  refine wp_region_quiet_lit (by kernel_rfl) (by kernel_rfl) ?_
  repeat (any_goals (first | go_big_quiet_step (fail) | quiet_step (fail)))
  apply wpQuiet_nil
  intro _ hw'
  obtain ⟨nq, hw''⟩ := hw'
  subst hw''
  have e2 : (a.toNat : Int) + (b.toNat : Int) * 256 = (n : Int) := by omega
  rw [e2]
  clear xa xb n1 g01 l1 q1 e2
  have l3 : ¬ (s.length : Int) < (i : Int) + 2 + (n : Int) := by omega
  have q3 : IntKind.i64.wrap ((i : Int) + 2 + (n : Int)) = (i : Int) + 2 + (n : Int) := IntWalk.i64_in _ (by omega)
  have g2 : (0 : Int) ≤ (i : Int) + 2 := by omega
  have g3 : (i : Int) + 2 ≤ (i : Int) + 2 + (n : Int) := by omega
  have l4 : (i : Int) + 2 + (n : Int) ≤ (s.length : Int) := by omega
  have m1 : ((i : Int) + 2).toNat = i + 2 := by omega
  have m2 : ((i : Int) + 2 + (n : Int)).toNat = i + 2 + n := by omega
  clear ha hb hn
  go_wp2
  go_ret2
  refine ⟨?_, ((Keep.refl (fun _ => False) w).drewN nq).to_below⟩
  have e : (⟨s.toArray⟩ : ByteArray).extract (i + 2) (i + 2 + n) = ⟨((s.drop (i + 2)).take n).toArray⟩ := by
    rw [str_extract, show i + 2 + n - (i + 2) = n by omega]
  exact congrArg (fun x => Ending.returned (.tuple #[.string x, .int .i64 ((i : Int) + 2 + (n : Int))])) e
end Go.Proofs.YtlcfnehmmjhoiaaGreat
