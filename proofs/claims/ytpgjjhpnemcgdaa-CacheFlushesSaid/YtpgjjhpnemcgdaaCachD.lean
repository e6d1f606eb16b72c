/- Package cache: bytes, copied; bytes that are known. -/
import Derived.Test.YtpgjjhpnemcgdaaCachC
import Derived.Lib.SliceRun
set_option linter.unusedSimpArgs false
set_option linter.unusedVariables false
namespace Go.Proofs.Ytpgjjhpnemcgdaa
open Go.RowKit

attribute [local go_sem ↓] Go.wp_at_zero Go.wp_at_succ
/-- Bytes in new memory. -/
structure BN (w0 w : World) (v : Value) (d : List UInt8) : Prop where
  own : w.ownsRow 0 5 1 v d.length (bv d)
  fresh : ∀ j, v.ownBlock = some j → w0.heap.size ≤ j
  be : Below w0.heap.size w0 w
theorem bclone_walk (d : List UInt8) (A : Option Addr) (c : Nat) (w : World) (h : Sl w 1 (.slice A d.length c) d.length (bv d)) (hn : d.length ≤ 1000000000) :
    Calls Try.prog 23 #[.slice A d.length c] w fun e w' => ∃ v, e = .returned v ∧ BN w w' v d := by
  cases A with
  | none =>
    obtain ⟨A', c', e', _, hz, _, _⟩ := h
    injection e' with e1 e2 e3
    subst e1 e3
    obtain ⟨h1, h2⟩ := hz rfl
    have hd : d = [] := List.eq_nil_of_length_eq_zero h1
    subst hd
    have hnil := fun w => Lib.run_eql_slice_nil (P := Try.prog) w 23 5 none 0 0 0 0 Try.underlying23
    subst h2
    rw [List.length_nil]
    clear h1 hz hn
    go_enter Try.func23, Try.ntmps23
    go_wp2
    go_ret
    exact ⟨_, rfl, own_nil' _ 0 _ 1, fun j e => by simp [Value.ownBlock] at e, Below.refl _ _⟩
  | some ad =>
    have hnil := fun w => Lib.run_eql_slice_nil (P := Try.prog) w 23 5 (some ad) d.length c 0 0 Try.underlying23
    have HS := Lib.hid (h.below ((Below.refl w.heap.size w).alloc (Nat.le_refl _) (.cells #[] 5)))
    have HO := Lib.hid (own_new w #[] 5 1 0 rfl (by decide))
    clear h
    go_enter Try.func23, Try.ntmps23
    go_wp2_with (at_builtin; go_must (refine wpList_app rfl eltB rfl rfl rfl (n := 0) (m := d.length) HO.out HS.out (bv_one d) (by omega) (by simp only [maxLen]; omega) ?_))
    intro v4 w4 g1 g2 g3 g4
    clear g4
    obtain ⟨A4, c4, rfl, _⟩ := Rd.of_own g1
    have HN : Hid (BN w w4 (.slice A4 d.length c4) d) := Lib.hid ⟨by simpa using g1, fun j e => by
      rcases g3 with g3 | g3
      · rw [e, ownBlock_slice] at g3
        injection g3 with g3
        have g3 : j = w.heap.size := g3
        omega
      · rw [e] at g3
        injection g3 with g3
        have : (w.alloc (.cells #[] 5)).heap.size = w.heap.size + 1 := by simp
        omega, ((Below.refl w.heap.size w).alloc (Nat.le_refl _) _).trans (g2.below (fun j e => by rw [ownBlock_slice] at e; injection e with e; have e : w.heap.size = j := e; omega) (by simp))⟩
    clear g1 g2 g3
    go_wp2
    go_ret
    exact ⟨_, rfl, by simpa using HN.out⟩
end Go.Proofs.Ytpgjjhpnemcgdaa
