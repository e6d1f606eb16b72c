/- Package cache: what is told of the size; a stretch of bytes that the file has; forget. -/
import Derived.Test.YtpgjjhpnemcgdaaCach7
set_option linter.unusedSimpArgs false
set_option linter.unusedVariables false
namespace Go.Proofs.Ytpgjjhpnemcgdaa
open Go.RowKit

attribute [local go_sem ↓] Go.wp_at_zero Go.wp_at_succ
theorem size_walk {X : Nat → Prop} {k : Nat} {s : CaS} {w : World} (h : Ca X k s w) : Calls Try.prog 12 #[.pointer (some ⟨k, 0, none⟩)] w fun e w' => e = .returned (.int .i64 (s.size : Int)) ∧ w' = w := by
  obtain ⟨DA, dc, kv, YA, yc, L, h⟩ := h
  have c2 : w.cell? ⟨k, 2, none⟩ = some (.int .i64 (s.size : Int)) := (blk_cells h.blk 2).trans rfl
  clear h
  go_enter Try.func12, Try.ntmps12
  go_wp2
  go_ret
  exact ⟨rfl, rfl⟩
theorem dirty_walk {X : Nat → Prop} {k : Nat} {s : CaS} {w : World} (h : Ca X k s w) : Calls Try.prog 15 #[.pointer (some ⟨k, 0, none⟩)] w fun e w' => e = .returned (.int .i64 (s.dirty.length : Int)) ∧ w' = w := by
  obtain ⟨DA, dc, kv, YA, yc, L, h⟩ := h
  have c5 : w.cell? ⟨k, 5, none⟩ = some (.slice YA s.dirty.length yc) := (blk_cells h.blk 5).trans rfl
  clear h
  go_enter Try.func15, Try.ntmps15
  go_wp2
  go_ret
  exact ⟨rfl, rfl⟩
/-- A stretch of bytes that the file has. -/
def partP (s : CaS) (a z : Int) : Int × Int := if a < 0 ∨ z < 0 ∨ (s.size : Int) ≤ a then (0, 0) else (a, a + min z ((s.size : Int) - a))
theorem part_walk {X : Nat → Prop} {k : Nat} {s : CaS} {w : World} (h : Ca X k s w) (a z : Int) (ha : a ≤ 1000000000000) (hz : z ≤ 1000000000000) (hs : s.size ≤ 1000000000000) :
    Calls Try.prog 25 #[.pointer (some ⟨k, 0, none⟩), .int .i64 a, .int .i64 z] w fun e w' => e = .returned (.tuple #[.int .i64 (partP s a z).1, .int .i64 (partP s a z).2]) ∧ Below w.heap.size w w' := by
  obtain ⟨DA, dc, kv, YA, yc, L, h⟩ := h
  have c2 : w.cell? ⟨k, 2, none⟩ = some (.int .i64 (s.size : Int)) := (blk_cells h.blk 2).trans rfl
  obtain ⟨n, hn⟩ : ∃ n : Int, n = (s.size : Int) := ⟨_, rfl⟩
  have hn0 : 0 ≤ n := by omega
  have hn1 : n ≤ 1000000000000 := by omega
  have HP := Lib.hid (show partP s a z = if a < 0 ∨ z < 0 ∨ n ≤ a then (0, 0) else (a, a + min z (n - a)) by rw [hn]; rfl)
  rw [← hn] at c2
  clear h hn hs
  by_cases h1 : a < 0
  · rw [HP.out, if_pos (.inl h1)]
    go_enter Try.func25, Try.ntmps25
    go_wp2
    go_ret2
    exact ⟨rfl, Below.refl _ _⟩
  · by_cases h2 : z < 0
    · rw [HP.out, if_pos (.inr (.inl h2))]
      go_enter Try.func25, Try.ntmps25
      go_wp2
      go_ret2
      exact ⟨rfl, Below.refl _ _⟩
    · by_cases h3 : n ≤ a
      · rw [HP.out, if_pos (.inr (.inr h3))]
        go_enter Try.func25, Try.ntmps25
        go_wp2
        go_ret2
        exact ⟨rfl, Below.refl _ _⟩
      · rw [HP.out, if_neg (by omega)]
        have w1 : IntKind.i64.wrap (n - a) = n - a := IntWalk.i64_in _ (by omega)
        by_cases h4 : n - a < z
        · have w2 : IntKind.i64.wrap (a + (n - a)) = a + (n - a) := IntWalk.i64_in _ (by omega)
          rw [show min z (n - a) = n - a by omega]
          go_enter Try.func25, Try.ntmps25
          go_upto_region 3 with fail
          go_quiet (fail)
          go_wp2
          all_goals
            go_ret2
            exact ⟨by first | rfl | (congr 2; omega) | (simp; omega), by first | exact Below.refl _ _ | exact (((Keep.refl (fun _ => False) _).drewN _).below (fun _ h => h.elim) (Nat.le_refl _))⟩
        · have w2 : IntKind.i64.wrap (a + z) = a + z := IntWalk.i64_in _ (by omega)
          rw [show min z (n - a) = z by omega]
          go_enter Try.func25, Try.ntmps25
          go_upto_region 3 with fail
          go_quiet (fail)
          go_wp2
          all_goals
            go_ret2
            exact ⟨by first | rfl | (congr 2; omega) | (simp; omega), by first | exact Below.refl _ _ | exact (((Keep.refl (fun _ => False) _).drewN _).below (fun _ h => h.elim) (Nat.le_refl _))⟩
theorem forget_walk {X : Nat → Prop} {k : Nat} {s : CaS} {w : World} (h : Ca X k s w) :
    Calls Try.prog 17 #[.pointer (some ⟨k, 0, none⟩)] w fun e w' => e = .returned (.tuple #[]) ∧ Ca X k { s with known := [] } w' ∧ Keep (fun j => j = k) w w' := by
  obtain ⟨DA, dc, kv, YA, yc, L, h⟩ := h
  have c4 : w.cell? ⟨k, 4, none⟩ = some kv := (blk_cells h.blk 4).trans rfl
  have f4 := blk_frees h.blk 4
  have H := Lib.hid h
  clear h
  go_enter Try.func17, Try.ntmps17
  go_wp2
  go_end0
  have hk := (Keep.refl (fun j => j = k) w).setCell (p := ⟨k, 4, none⟩) (fun _ => rfl) (.slice none 0 0)
  exact ⟨rfl, ⟨DA, dc, _, YA, yc, L, H.out.upd hk rfl rfl (blk_set4 H.out.blk _ rfl) (SlN.nil _ _)⟩, hk⟩
end Go.Proofs.Ytpgjjhpnemcgdaa
