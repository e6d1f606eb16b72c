/- The walk of PostNone. -/
import Derived.Test.YthpgdoepbkgacaaPost6
set_option linter.unusedSimpArgs false
set_option linter.unusedVariables false
namespace Go.Proofs.Ythpgdoepbkgacaa.lawPostNone
open Go.RowKit
theorem nilSl (w : World) : Sl w 1 (.slice none 0 0) 0 (bv []) := ⟨_, _, rfl, .inl rfl, fun _ => ⟨rfl, rfl⟩, Nat.le_refl _, rfl⟩
set_option maxHeartbeats 1000000 in
theorem walk (f t : Int) (A : Option Addr) (n c : Nat) (k : Int) (w : World) :
    Calls Try.prog 5 #[.agg #[.int .i64 f, .int .i64 t, .slice A n c], .int .i64 k] w fun e w' => e = .returned (.bool true) ∧ Below w.heap.size w w' := by
  go_enter Try.func5, Try.ntmps5
  go_wp2_with fail
  refine (take_nil _ _).mono ?_
  rintro e w1 ⟨rfl, h1⟩
  unfold noLetter
  have b1 : w1.heap[w.heap.size]? = some (.cells #[.int .i64 f, .int .i64 t, .slice A n c] 28) := (h1.block _ (by simp)).trans (blk_new _ _)
  have B1 := Lib.hid (((Below.refl w.heap.size w).alloc (Nat.le_refl _) (.cells #[.int .i64 f, .int .i64 t, .slice A n c] 28)).trans (h1.mono (by simp)))
  have hs1 : w.heap.size + 1 ≤ w1.heap.size := by simpa using h1.size
  clear h1
  go_wp2_with fail
  refine (awake_any _).mono ?_
  rintro e w2 ⟨rfl, h2⟩
  have b2 : w2.heap[w.heap.size]? = some (.cells #[.int .i64 f, .int .i64 t, .slice A n c] 28) := (h2.block _ (by simp; omega)).trans (blk_old b1 _)
  have b3 : w2.heap[w1.heap.size]? = some (.cells #[.int .i64 0, .int .i64 0, .slice none 0 0] 28) := (h2.block _ (by simp)).trans (blk_new _ _)
  have B2 := Lib.hid ((B1.out.alloc (by omega) (.cells #[.int .i64 0, .int .i64 0, .slice none 0 0] 28)).trans (h2.mono (by simp; omega)))
  have hs2 : w1.heap.size + 1 ≤ w2.heap.size := by simpa using h2.size
  have c2 := blk_cells b2
  have B3 := Lib.hid b3
  clear h2 b1 b2 b3
  go_wp2_with fail
  refine (send_nil _ _ _ _ _ _).mono ?_
  rintro e w3 ⟨rfl, h3⟩
  have b4 := (h3.block _ (by omega)).trans B3.out
  have B4 := Lib.hid (B2.out.trans (h3.mono (by omega)))
  have hs3 := h3.size
  have c4 := blk_cells b4
  clear h3 b4 c2 
  go_wp2_with fail
  refine (same_any _ _ _ _ _ [] _ _ _ _ _ [] _ (nilSl _) (nilSl _)).mono ?_
  rintro e w4 ⟨rfl, h4⟩
  have B5 := Lib.hid (B4.out.trans (h4.mono (by omega)))
  have e0 : SameB 0 0 [] 0 0 [] = true := rfl
  clear h4 c4
  go_wp2_with fail
  refine (twin_nil _ _).mono ?_
  rintro e w5 ⟨rfl, rfl⟩
  go_wp2_with fail
  refine (letters_nil _).mono ?_
  rintro e w6 ⟨rfl, rfl⟩
  go_wp2
  go_ret
  exact ⟨rfl, B5.out⟩
end Go.Proofs.Ythpgdoepbkgacaa.lawPostNone
