/- The document's answer for leases: Same, Has. -/
import Derived.Test.YtmfgkddndlleoaaRefL1
import Derived.Deep.QuietTactic
import Derived.BigQuiet
import Derived.Handy
set_option linter.unusedSimpArgs false
set_option linter.unusedVariables false
namespace Go.Proofs.Ytmfgkddndlleoaa
open Go.RowKit

theorem rsame_walk (A B : Option Addr) (o p : List LE) (c d : Nat) (w : World) (h1 : Sl w 5 (.slice A o.length c) o.length (flat o)) (h2 : Sl w 5 (.slice B p.length d) p.length (flat p)) (hf : o.length ≤ 1000000) :
    Calls Try.prog 25 #[.slice A o.length c, .slice B p.length d] w (AnyB w) := by
  have H1 := Lib.hid h1
  have H2 := Lib.hid h2
  clear h1 h2
  by_cases hl : o.length = p.length
  · have hl' : (o.length : Int) = (p.length : Int) := by omega
    go_enter Try.func25, Try.ntmps25
    go_wp2
    go_loopw [5] (fun v wr => CInv o.length w v wr) (fun v _ => o.length - (intOf v).toNat)
    case atStart => exact ⟨0, Nat.zero_le _, rfl, Below.refl _ _⟩
    case round =>
      obtain ⟨i, hi, rfl, hb⟩ := hrel
      have HB := Lib.hid hb
      clear hb
      by_cases hlt : i < o.length
      · obtain ⟨x, hx⟩ : ∃ x, o[i]? = some x := ⟨o[i], List.getElem?_eq_getElem hlt⟩
        obtain ⟨y, hy⟩ : ∃ y, p[i]? = some y := ⟨p[i]'(by omega), List.getElem?_eq_getElem (by omega)⟩
        have b1 : (0 : Int) ≤ (i : Int) := by omega
        have b2 : (i : Int) < (o.length : Int) := by omega
        have b3 : (i : Int) < (p.length : Int) := by omega
        obtain ⟨b, off, rfl, _, r0, r1, r2, r3, r4⟩ := flat_row (H1.out.below HB.out) hx
        obtain ⟨b', off', rfl, _, s0, s1, s2, s3, s4⟩ := flat_row (H2.out.below HB.out) hy
        clear hx hy
        obtain ⟨x1, x2, x3, x4, x5⟩ := x
        obtain ⟨y1, y2, y3, y4, y5⟩ := y
        dsimp only at r0 r1 r2 r3 r4 s0 s1 s2 s3 s4
        by_cases e0 : x1 = y1
        · subst e0
          by_cases e1 : x2 = y2
          · subst e1
            by_cases e2 : x3 = y3
            · subst e2
              by_cases e3 : x4 = y4
              · subst e3
                by_cases e4 : x5 = y5
                · subst e4
                  go_wp2
                  go_quiet (fail)
                  go_wp2
                  go_roundw
                  case rel => exact ⟨i + 1, by omega, by go_num, below_drewN HB.out _⟩
                  case measure => simp [intOf]; omega
                · have f4 : (x5 == y5) = false := beq_eq_false_iff_ne.2 e4
                  go_wp2
                  go_quiet (fail)
                  go_wp2
                  go_ret
                  exact ⟨⟨_, rfl⟩, below_drewN HB.out _⟩
              · have f3 : (x4 == y4) = false := beq_eq_false_iff_ne.2 e3
                go_wp2
                go_quiet (fail)
                go_wp2
                go_ret
                exact ⟨⟨_, rfl⟩, below_drewN HB.out _⟩
            · have f2 : (x3 == y3) = false := beq_eq_false_iff_ne.2 e2
              go_wp2
              go_quiet (fail)
              go_wp2
              go_ret
              exact ⟨⟨_, rfl⟩, below_drewN HB.out _⟩
          · have f1 : (x2 == y2) = false := beq_eq_false_iff_ne.2 e1
            go_wp2
            go_quiet (fail)
            go_wp2
            go_ret
            exact ⟨⟨_, rfl⟩, below_drewN HB.out _⟩
        · have f0 : (x1 == y1) = false := beq_eq_false_iff_ne.2 e0
          go_wp2
          go_quiet (fail)
          go_wp2
          go_ret
          exact ⟨⟨_, rfl⟩, below_drewN HB.out _⟩
      · obtain rfl : i = o.length := by omega
        go_wp2
        go_ret
        exact ⟨⟨_, rfl⟩, HB.out⟩
  · have hl' : ((o.length : Int) == (p.length : Int)) = false := beq_eq_false_iff_ne.2 (by omega)
    go_enter Try.func25, Try.ntmps25
    go_wp2
    go_ret
    exact ⟨⟨_, rfl⟩, Below.refl _ _⟩
/-- A document's table, and a handle, as a function's first two variables. -/
structure Boxes (wr : World) (k1 k2 : Nat) (n g born : Int) (A B : Option Addr) (c d nl nq : Nat) : Prop where
  tab : wr.heap[k1]? = some (.cells #[.int .i64 born, .slice A nl c, .slice B nq d] 29 (0, 0))
  hnd : wr.heap[k2]? = some (.cells #[.int .i64 n, .int .i64 g] 34 (0, 0))
theorem Boxes.keep {S : Nat → Prop} {w w' : World} {k1 k2 : Nat} {n g born : Int} {A B : Option Addr} {c d nl nq : Nat} (h : Boxes w k1 k2 n g born A B c d nl nq) (hk : Keep S w w') (h1 : ¬ S k1) (h2 : ¬ S k2) : Boxes w' k1 k2 n g born A B c d nl nq := ⟨hk.blk h.tab h1, hk.blk h.hnd h2⟩
def HInv (n g born : Int) (A B : Option Addr) (c d nl nq : Nat) (w : World) (v : Value) (wr : World) : Prop :=
  ∃ i : Nat, i ≤ nl ∧ v = .int .i64 (i : Int) ∧ Below w.heap.size w wr ∧ Boxes wr w.heap.size (w.heap.size + 1) n g born A B c d nl nq
set_option maxHeartbeats 2000000 in
theorem rhas_walk (born n g s m : Int) (A B : Option Addr) (ls : List LE) (c d nq : Nat) (w : World) (h1 : Sl w 5 (.slice A ls.length c) ls.length (flat ls)) (hf : ls.length ≤ 1000000) :
    Calls Try.prog 22 #[.agg #[.int .i64 born, .slice A ls.length c, .slice B nq d], .agg #[.int .i64 n, .int .i64 g], .int .i64 s, .int .i64 m] w (AnyB w) := by
  have x1 := blk_new w (.cells #[.int .i64 born, .slice A ls.length c, .slice B nq d] 29)
  have x2 := blk_new (w.alloc (.cells #[.int .i64 born, .slice A ls.length c, .slice B nq d] 29)) (.cells #[.int .i64 n, .int .i64 g] 34)
  have x3 := blk_old x1 (.cells #[.int .i64 n, .int .i64 g] 34)
  rw [show (w.alloc (.cells #[.int .i64 born, .slice A ls.length c, .slice B nq d] 29)).heap.size = w.heap.size + 1 by simp] at x2
  have X := Lib.hid (⟨x3, x2⟩ : Boxes _ w.heap.size (w.heap.size + 1) n g born A B c d ls.length nq)
  have H1 := Lib.hid h1
  clear h1 x1 x2 x3
  go_enter Try.func22, Try.ntmps22
  go_wp2
  go_loopw [9] (fun v wr => HInv n g born A B c d ls.length nq w v wr) (fun v _ => ls.length - (intOf v).toNat)
  case atStart => exact ⟨0, Nat.zero_le _, rfl, (((Keep.refl (fun _ => False) w).alloc _).alloc _).to_below, X.out⟩
  case round =>
    obtain ⟨i, hi, rfl, hb, hx⟩ := hrel
    have HB := Lib.hid hb
    have HX := Lib.hid hx
    have ct := blk_cells hx.tab
    have ch := blk_cells hx.hnd
    clear hb hx
    by_cases hlt : i < ls.length
    · obtain ⟨x, hx⟩ : ∃ x, ls[i]? = some x := ⟨ls[i], List.getElem?_eq_getElem hlt⟩
      have b1 : (0 : Int) ≤ (i : Int) := by omega
      have b2 : (i : Int) < (ls.length : Int) := by omega
      obtain ⟨b, off, rfl, _, r0, r1, r2, r3, r4⟩ := flat_row (H1.out.below HB.out) hx
      clear hx
      by_cases e1 : x.n = n
      · by_cases e2 : x.g = g
        · subst e1 e2
          by_cases e3 : x.s = s
          · subst e3
            go_wp2
            go_quiet (fail)
            go_wp2
            · go_ret
              exact ⟨⟨_, rfl⟩, below_drewN HB.out _⟩
            · go_roundw
              case rel => exact ⟨i + 1, by omega, by go_num, below_drewN HB.out _, HX.out.keep ((Keep.refl (fun _ => False) wr).drewN _) id id⟩
              case measure => simp [intOf]; omega
          · have f3 : (x.s == s) = false := beq_eq_false_iff_ne.2 e3
            go_wp2
            go_quiet (fail)
            go_wp2
            go_roundw
            case rel => exact ⟨i + 1, by omega, by go_num, below_drewN HB.out _, HX.out.keep ((Keep.refl (fun _ => False) wr).drewN _) id id⟩
            case measure => simp [intOf]; omega
        · have f2 : (x.g == g) = false := beq_eq_false_iff_ne.2 e2
          go_wp2
          go_quiet (fail)
          go_wp2
          go_roundw
          case rel => exact ⟨i + 1, by omega, by go_num, below_drewN HB.out _, HX.out.keep ((Keep.refl (fun _ => False) wr).drewN _) id id⟩
          case measure => simp [intOf]; omega
      · have f1 : (x.n == n) = false := beq_eq_false_iff_ne.2 e1
        go_wp2
        go_quiet (fail)
        go_wp2
        go_roundw
        case rel => exact ⟨i + 1, by omega, by go_num, below_drewN HB.out _, HX.out.keep ((Keep.refl (fun _ => False) wr).drewN _) id id⟩
        case measure => simp [intOf]; omega
    · obtain rfl : i = ls.length := by omega
      go_wp2
      go_ret
      exact ⟨⟨_, rfl⟩, HB.out⟩
end Go.Proofs.Ytmfgkddndlleoaa
