/- The document's answer for leases: it returns, and changes nothing of what was there. clock, right, New, Grace, Ints, Same. -/
import Derived.Test.YtmfgkddndlleoaaLeaseB1
import Derived.Deep.QuietTactic
import Derived.BigQuiet
import Derived.Handy
set_option linter.unusedSimpArgs false
set_option linter.unusedVariables false
namespace Go.Proofs.Ytmfgkddndlleoaa
open Go.RowKit

theorem rclock_walk (now : Int) (w : World) :
    Calls Try.prog 13 #[.int .i64 now] w fun e w' => e = .returned (.int .i64 (clockP now)) ∧ w' = w := by
  go_enter Try.func13, Try.ntmps13
  go_wp2
  all_goals
    go_ret
    exact ⟨congrArg (fun n => Ending.returned (.int .i64 n)) (by unfold clockP; omega), rfl⟩
theorem rright_walk (a b : Int) (w : World) :
    Calls Try.prog 38 #[.int .i64 a, .int .i64 b] w fun e w' => e = .returned (.bool (rightP a b)) ∧ w' = w := by
  go_enter Try.func38, Try.ntmps38
  go_wp2
  all_goals
    go_ret
    exact ⟨congrArg (fun n => Ending.returned (.bool n)) (by rw [Bool.eq_iff_iff]; simp [rightP]; try omega), rfl⟩
theorem rnew_walk (now : Int) (w : World) :
    Calls Try.prog 6 #[.int .i64 now] w fun e w' => e = .returned (.agg #[.int .i64 (clockP now), .slice none 0 0, .slice none 0 0]) ∧ Below w.heap.size w w' := by
  have x1 := (Below.refl w.heap.size w).alloc (Nat.le_refl _) (.cells #[.int .i64 (clockP now), .slice none 0 0, .slice none 0 0] 29)
  go_enter Try.func6, Try.ntmps6
  go_wp2_with fail
  refine (rclock_walk now _).mono ?_
  rintro e w1 ⟨rfl, rfl⟩
  go_wp2
  go_returns
  exact ⟨rfl, x1⟩
def AnyB (w : World) (e : Ending) (w' : World) : Prop := (∃ b, e = .returned (.bool b)) ∧ Below w.heap.size w w'
theorem rgrace_walk (born now : Int) (A B : Value) (hA : ∃ a n c, A = .slice a n c) (hB : ∃ a n c, B = .slice a n c) (w : World) :
    Calls Try.prog 26 #[.agg #[.int .i64 born, A, B], .int .i64 now] w (AnyB w) := by
  obtain ⟨a, n, c, rfl⟩ := hA
  obtain ⟨a2, n2, c2, rfl⟩ := hB
  have x1 := (Below.refl w.heap.size w).alloc (Nat.le_refl _) (.cells #[.int .i64 born, .slice a n c, .slice a2 n2 c2] 29)
  go_enter Try.func26, Try.ntmps26
  go_wp2
  go_quiet (first | (go_at_call 13; refine Calls.quiet_of_same (rclock_walk _ _)))
  go_wp2
  go_ret
  exact ⟨⟨_, rfl⟩, below_drewN x1 _⟩
def CInv (len : Nat) (w : World) (v : Value) (wr : World) : Prop := ∃ i : Nat, i ≤ len ∧ v = .int .i64 (i : Int) ∧ Below w.heap.size w wr
theorem below_drewN {B : Nat} {w w1 : World} (h : Below B w w1) (n : Nat) : Below B w (w1.drewN n) := ⟨h.os, h.tape, h.output, h.size, h.block⟩
theorem int_row {w : World} {A : Option Addr} {c n k : Nat} {l : List Int} (h : Sl w 1 (.slice A n c) n (ints l)) {e : Int} (hl : l[k]? = some e) :
    ∃ b o, A = some ⟨b, o, none⟩ ∧ w.cell? ⟨b, o + k, none⟩ = some (.int .i64 e) := by
  obtain ⟨A', c', e', hr, _⟩ := h
  injection e' with e1 _ e2
  subst e1
  have q0 : (ints l)[k]? = some (.int .i64 e) := by simp [ints, hl]
  rcases hr with h0 | ⟨ad, rfl, hc⟩
  · rw [h0] at q0; simp at q0
  · have h0 := hc _ _ q0
    obtain ⟨b, o, spot⟩ := ad
    obtain ⟨e0, he0⟩ : ∃ e0, l[0]? = some e0 := ⟨l[0]'(by have := (List.getElem?_eq_some_iff.1 hl).1; omega), List.getElem?_eq_getElem _⟩
    have hz := hc 0 (.int .i64 e0) (by simp [ints, he0])
    have es : spot = none := by
      have : (⟨b, o, spot⟩ : Addr).add 0 = ⟨b, o, spot⟩ := by unfold Addr.add; simp
      rw [this] at hz
      exact World.cell?_spot hz
    subst es
    simp only [Addr.add_lit] at h0
    exact ⟨b, o, rfl, h0⟩
theorem rints_walk (A B : Option Addr) (o p : List Int) (c d : Nat) (w : World) (h1 : Sl w 1 (.slice A o.length c) o.length (ints o)) (h2 : Sl w 1 (.slice B p.length d) p.length (ints p)) (hf : o.length ≤ 1000000) :
    Calls Try.prog 15 #[.slice A o.length c, .slice B p.length d] w (AnyB w) := by
  have H1 := Lib.hid h1
  have H2 := Lib.hid h2
  clear h1 h2
  by_cases hl : o.length = p.length
  · have hl' : (o.length : Int) = (p.length : Int) := by omega
    go_enter Try.func15, Try.ntmps15
    go_wp2
    go_loopw [5] (fun v wr => CInv o.length w v wr) (fun v _ => o.length - (intOf v).toNat)
    case atStart => exact ⟨0, Nat.zero_le _, rfl, Below.refl _ _⟩
    case round =>
      obtain ⟨i, hi, rfl, hb⟩ := hrel
      have HB := Lib.hid hb
      clear hb
      by_cases hlt : i < o.length
      · obtain ⟨x, hx⟩ : ∃ x, o[i]? = some x := ⟨o[i], List.getElem?_eq_getElem hlt⟩
        obtain ⟨y, hy⟩ : ∃ y, p[i]? = some y := ⟨p[i]'(by omega), List.getElem?_eq_getElem (by omega)⟩
        have b1 : (0 : Int) ≤ (i : Int) := by omega
        have b2 : (i : Int) < (o.length : Int) := by omega
        have b3 : (i : Int) < (p.length : Int) := by omega
        obtain ⟨b, off, rfl, r0⟩ := int_row (H1.out.below HB.out) hx
        obtain ⟨b', off', rfl, s0⟩ := int_row (H2.out.below HB.out) hy
        clear hx hy
        go_wp2
        go_quiet (fail)
        go_wp2
        · go_ret
          exact ⟨⟨_, rfl⟩, below_drewN HB.out _⟩
        · go_roundw
          case rel => exact ⟨i + 1, by omega, by go_num, below_drewN HB.out _⟩
          case measure => simp [intOf]; omega
      · obtain rfl : i = o.length := by omega
        go_wp2
        go_ret
        exact ⟨⟨_, rfl⟩, HB.out⟩
  · have hl' : ((o.length : Int) == (p.length : Int)) = false := beq_eq_false_iff_ne.2 (by omega)
    go_enter Try.func15, Try.ntmps15
    go_wp2
    go_ret
    exact ⟨⟨_, rfl⟩, Below.refl _ _⟩
end Go.Proofs.Ytmfgkddndlleoaa
