/- The document's answer for leases: Same, Has. -/
import Derived.Test.YtmfgkddndlleoaaRefL2
import Derived.Deep.QuietTactic
import Derived.BigQuiet
import Derived.Handy
set_option linter.unusedSimpArgs false
set_option linter.unusedVariables false
namespace Go.Proofs.Ytmfgkddndlleoaa
open Go.RowKit

theorem take_moreG {α : Type} {a b : List α} {i : Nat} {p : α} (h : a.take i = b.take i) (ha : a[i]? = some p) (hb : b[i]? = some p) : a.take (i + 1) = b.take (i + 1) := by
  rw [List.take_add_one, List.take_add_one, h, ha, hb]
def DInv (a b : List LE) (w : World) (v : Value) (wr : World) : Prop := ∃ i : Nat, i ≤ a.length ∧ v = .int .i64 (i : Int) ∧ Below w.heap.size w wr ∧ a.take i = b.take i
set_option maxHeartbeats 1000000 in
theorem rsameD_walk (A B : Option Addr) (o p : List LE) (c d : Nat) (w : World) (h1 : Sl w 5 (.slice A o.length c) o.length (flat o)) (h2 : Sl w 5 (.slice B p.length d) p.length (flat p)) (hf : o.length ≤ 1000000) :
    Calls Try.prog 25 #[.slice A o.length c, .slice B p.length d] w fun e w' => e = .returned (.bool (decide (o = p))) ∧ Below w.heap.size w w' := by
  have H1 := Lib.hid h1
  have H2 := Lib.hid h2
  clear h1 h2
  by_cases hl : o.length = p.length
  · have hl' : (o.length : Int) = (p.length : Int) := by omega
    go_enter Try.func25, Try.ntmps25
    go_wp2
    go_loopw [5] (fun v wr => DInv o p w v wr) (fun v _ => o.length - (intOf v).toNat)
    case atStart => exact ⟨0, Nat.zero_le _, rfl, Below.refl _ _, rfl⟩
    case round =>
      obtain ⟨i, hi, rfl, hb, htk⟩ := hrel
      have HB := Lib.hid hb
      have HT := Lib.hid htk
      clear hb htk
      by_cases hlt : i < o.length
      · obtain ⟨x, hx⟩ : ∃ x, o[i]? = some x := ⟨o[i], List.getElem?_eq_getElem hlt⟩
        obtain ⟨y, hy⟩ : ∃ y, p[i]? = some y := ⟨p[i]'(by omega), List.getElem?_eq_getElem (by omega)⟩
        have b1 : (0 : Int) ≤ (i : Int) := by omega
        have b2 : (i : Int) < (o.length : Int) := by omega
        have b3 : (i : Int) < (p.length : Int) := by omega
        obtain ⟨b, off, rfl, _, r0, r1, r2, r3, r4⟩ := flat_row (H1.out.below HB.out) hx
        obtain ⟨b', off', rfl, _, s0, s1, s2, s3, s4⟩ := flat_row (H2.out.below HB.out) hy
        have HX := Lib.hid hx
        have HY := Lib.hid hy
        clear hx hy
        obtain ⟨x1, x2, x3, x4, x5⟩ := x
        obtain ⟨y1, y2, y3, y4, y5⟩ := y
        dsimp only at r0 r1 r2 r3 r4 s0 s1 s2 s3 s4
        by_cases e0 : x1 = y1
        · subst e0
          by_cases e1 : x2 = y2
          · subst e1
            by_cases e2 : x3 = y3
            · subst e2
              by_cases e3 : x4 = y4
              · subst e3
                by_cases e4 : x5 = y5
                · subst e4
                  go_wp2
                  go_quiet (fail)
                  go_wp2
                  go_roundw
                  case rel => exact ⟨i + 1, by omega, by go_num, below_drewN HB.out _, take_moreG HT.out HX.out HY.out⟩
                  case measure => simp [intOf]; omega
                · have f4 : (x5 == y5) = false := beq_eq_false_iff_ne.2 e4
                  have HN : Hid (decide (o = p) = false) := Lib.hid (decide_eq_false (fun e => e4 (by have h := HX.out; rw [e, HY.out] at h; injection h with h; injection h with h0 h1 h2 h3 h4; exact h4.symm)))
                  clear e4
                  go_wp2
                  go_quiet (fail)
                  go_wp2
                  go_ret
                  exact ⟨congrArg (fun b => Ending.returned (.bool b)) HN.out.symm, below_drewN HB.out _⟩
              · have f3 : (x4 == y4) = false := beq_eq_false_iff_ne.2 e3
                have HN : Hid (decide (o = p) = false) := Lib.hid (decide_eq_false (fun e => e3 (by have h := HX.out; rw [e, HY.out] at h; injection h with h; injection h with h0 h1 h2 h3 h4; exact h3.symm)))
                clear e3
                go_wp2
                go_quiet (fail)
                go_wp2
                go_ret
                exact ⟨congrArg (fun b => Ending.returned (.bool b)) HN.out.symm, below_drewN HB.out _⟩
            · have f2 : (x3 == y3) = false := beq_eq_false_iff_ne.2 e2
              have HN : Hid (decide (o = p) = false) := Lib.hid (decide_eq_false (fun e => e2 (by have h := HX.out; rw [e, HY.out] at h; injection h with h; injection h with h0 h1 h2 h3 h4; exact h2.symm)))
              clear e2
              go_wp2
              go_quiet (fail)
              go_wp2
              go_ret
              exact ⟨congrArg (fun b => Ending.returned (.bool b)) HN.out.symm, below_drewN HB.out _⟩
          · have f1 : (x2 == y2) = false := beq_eq_false_iff_ne.2 e1
            have HN : Hid (decide (o = p) = false) := Lib.hid (decide_eq_false (fun e => e1 (by have h := HX.out; rw [e, HY.out] at h; injection h with h; injection h with h0 h1 h2 h3 h4; exact h1.symm)))
            clear e1
            go_wp2
            go_quiet (fail)
            go_wp2
            go_ret
            exact ⟨congrArg (fun b => Ending.returned (.bool b)) HN.out.symm, below_drewN HB.out _⟩
        · have f0 : (x1 == y1) = false := beq_eq_false_iff_ne.2 e0
          have HN : Hid (decide (o = p) = false) := Lib.hid (decide_eq_false (fun e => e0 (by have h := HX.out; rw [e, HY.out] at h; injection h with h; injection h with h0 h1 h2 h3 h4; exact h0.symm)))
          clear e0
          go_wp2
          go_quiet (fail)
          go_wp2
          go_ret
          exact ⟨congrArg (fun b => Ending.returned (.bool b)) HN.out.symm, below_drewN HB.out _⟩
      · obtain rfl : i = o.length := by omega
        have HN : Hid (decide (o = p) = true) := Lib.hid (decide_eq_true (by have h := HT.out; rw [List.take_length, hl, List.take_length] at h; exact h))
        clear hl
        go_wp2
        go_ret
        exact ⟨congrArg (fun b => Ending.returned (.bool b)) HN.out.symm, HB.out⟩
  · have hl' : ((o.length : Int) == (p.length : Int)) = false := beq_eq_false_iff_ne.2 (by omega)
    have HN : Hid (decide (o = p) = false) := Lib.hid (decide_eq_false (fun e => hl (by rw [e])))
    clear hl
    go_enter Try.func25, Try.ntmps25
    go_wp2
    go_ret
    exact ⟨congrArg (fun b => Ending.returned (.bool b)) HN.out.symm, Below.refl _ _⟩
end Go.Proofs.Ytmfgkddndlleoaa
