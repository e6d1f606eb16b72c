/- Contracts of package post's small functions. -/
import Derived.Test.YthpgdoepbkgacaaRows
import Derived.Test.YthpgdoepbkgacaaBase
set_option linter.unusedSimpArgs false
set_option linter.unusedVariables false
namespace Go.Proofs.Ythpgdoepbkgacaa
open Go.RowKit

theorem eltU8 : Elt Try.prog 26 5 1 1 := Elt.mk' (z := .int .u8 0) Try.underlying26 (by kernel_rfl) rfl (by simp [Value.cells, Value.oneCell']) (by decide)

set_option maxHeartbeats 400000 in
theorem bclone_nil (w : World) : Calls Try.prog 17 #[.slice none 0 0] w fun e w' => e = .returned (.slice none 0 0) ∧ w = w' := by
  have hk := fun w => Lib.run_eql_slice_nil (P := Try.prog) w 26 5 none 0 0 0 0 Try.underlying26
  go_enter Try.func17, Try.ntmps17
  go_wp2
  go_ret
  exact ⟨rfl, rfl⟩

set_option maxHeartbeats 400000 in
theorem bclone_some (ad : Addr) (n c : Nat) (d : List UInt8) (w : World) (hx : Sl w 1 (.slice (some ad) n c) n (bv d)) (hn : n ≤ 140737488355328) :
    Calls Try.prog 17 #[.slice (some ad) n c] w fun e w' => ∃ v', e = .returned v' ∧ w'.ownsRow 0 5 1 v' n (bv d) ∧ (∀ k, v'.ownBlock = some k → w.heap.size ≤ k) ∧ Below w.heap.size w w' := by
  have hk := fun w => Lib.run_eql_slice_nil (P := Try.prog) w 26 5 (some ad) n c 0 0 Try.underlying26
  have Hx := Lib.hid hx
  clear hx
  go_enter Try.func17, Try.ntmps17
  go_wp2_with (at_builtin; refine wpList_app rfl eltU8 rfl rfl rfl (n := 0) (xs := []) (own_new _ #[] _ 1 0 rfl (by decide)) (Hx.out.below ((Below.refl _ _).alloc (Nat.le_refl _) _)) (bv_one _) (by omega) (by simp only [maxLen]; omega) ?_)
  intro v' w' h1 h2 h3 _
  have H : Hid (∃ v'', Ending.returned v' = Ending.returned v'' ∧ w'.ownsRow 0 5 1 v'' n (bv d) ∧ (∀ k, v''.ownBlock = some k → w.heap.size ≤ k) ∧ Below w.heap.size w w') := by
    refine ⟨v', rfl, h1, ?_, ?_⟩
    · intro k hk
      rcases h3 with h | h <;> rw [h] at hk <;> simp [Value.ownBlock] at hk <;> omega
    · exact (((Keep.refl (fun _ => False) w).alloc _).trans h2 (by intro i hi hs; simp [Value.ownBlock] at hs; omega)).to_below
  clear h1 h2 h3
  go_wp2
  go_ret
  exact H.out

theorem bclone_any (v : Value) (n : Nat) (d : List UInt8) (w : World) (hx : Sl w 1 v n (bv d)) (hn : n ≤ 140737488355328) :
    Calls Try.prog 17 #[v] w fun e w' => ∃ A c, e = .returned (.slice A n c) ∧ w'.ownsRow 0 5 1 (.slice A n c) n (bv d) ∧ (∀ k, (Value.slice A n c).ownBlock = some k → w.heap.size ≤ k) ∧ Below w.heap.size w w' := by
  have hx' := hx
  obtain ⟨A, c, rfl, hr, h0, hc, hl⟩ := hx
  cases A with
  | none =>
    obtain ⟨rfl, rfl⟩ := h0 rfl
    have : bv d = [] := List.eq_nil_of_length_eq_zero (by simpa using hl)
    rw [this]
    refine (bclone_nil w).mono ?_
    rintro e w' ⟨rfl, rfl⟩
    exact ⟨none, 0, rfl, own_nil' _ _ _ _, by simp [Value.ownBlock], Below.refl _ _⟩
  | some ad =>
    refine (bclone_some ad n c d w hx' hn).mono ?_
    rintro e w' ⟨v', rfl, h1, h2, h3⟩
    obtain ⟨A', c', rfl, _⟩ := Rd.of_own h1
    exact ⟨A', c', rfl, h1, h2, h3⟩

/-- A letter, and where its data lie. -/
structure CL where
  frm : Int
  dst : Int
  A : Option Addr
  cap : Nat
  data : List UInt8
def CL.sl (l : CL) : Value := .slice l.A l.data.length l.cap
def CL.val (l : CL) : Value := .agg #[.int .i64 l.frm, .int .i64 l.dst, l.sl]
def CL.cells (l : CL) : List Value := [.int .i64 l.frm, .int .i64 l.dst, l.sl]
/-- The letter's data lie in the world. -/
def CL.good (w : World) (l : CL) : Prop := Sl w 1 l.sl l.data.length (bv l.data) ∧ l.data.length ≤ 140737488355328

set_option maxHeartbeats 400000 in
theorem clone_any (f t : Int) (A : Option Addr) (n c : Nat) (d : List UInt8) (w : World) (hx : Sl w 1 (.slice A n c) n (bv d)) (hn : n ≤ 140737488355328) :
    Calls Try.prog 14 #[.agg #[.int .i64 f, .int .i64 t, .slice A n c]] w fun e w' => ∃ A' c', e = .returned (.agg #[.int .i64 f, .int .i64 t, .slice A' n c']) ∧ w'.ownsRow 0 5 1 (.slice A' n c') n (bv d) ∧ (∀ k, (Value.slice A' n c').ownBlock = some k → w.heap.size ≤ k) ∧ Below w.heap.size w w' := by
  have Hx := Lib.hid hx
  clear hx
  go_enter Try.func14, Try.ntmps14
  go_wp2_with fail
  refine (bclone_any _ n d _ (Hx.out.below (((Below.refl _ _).alloc (Nat.le_refl _) _).alloc (by simp) _)) hn).mono ?_
  rintro e w1 ⟨A', c', rfl, h1, h2, h3⟩
  have h2' : ∀ k, (Value.slice A' n c').ownBlock = some k → w.heap.size + 2 ≤ k := by simpa using h2
  have hb1 : w1.heap[w.heap.size]? = some (.cells #[.int .i64 f, .int .i64 t, .slice A n c] 28) := (h3.block _ (by simp; omega)).trans (blk_old (blk_new _ _) _)
  have hb2 : w1.heap[w.heap.size + 1]? = some (.cells #[.int .i64 0, .int .i64 0, .slice none 0 0] 28) := (h3.block _ (by simp)).trans (by simpa using blk_new (w.alloc (.cells #[.int .i64 f, .int .i64 t, .slice A n c] 28)) _)
  have H3 := Lib.hid h3
  have H1 := Lib.hid h1
  have H2 := Lib.hid h2'
  have c1 := blk_cells hb1
  have c2 := blk_cells hb2
  have f1 := blk_frees hb1
  have f2 := blk_frees hb2
  clear h1 h2 h2' h3 hb1 hb2
  go_wp2
  refine bodyPost_ret (v := .agg #[.int .i64 f, .int .i64 t, .slice A' n c']) (by simp [results, Try.results14, go_sem, c2]) rfl ⟨A', c', rfl, ?_, ?_, ?_⟩
  · refine own_keep (S := fun k => k = w.heap.size ∨ k = w.heap.size + 1) H1.out (((((Keep.refl _ _).setCell (by simp) _).setCell (by simp) _).setCell (by simp) _).setCell (by simp) _) ?_
    intro k hk hs
    have := H2.out k hk
    omega
  · intro k hk
    have := H2.out k hk
    omega
  · have := H3.out
    refine (((((((Below.refl _ _).alloc (Nat.le_refl _) _).alloc (by simp) _).trans (this.mono (by simp; omega))).setCell (by simp) _).setCell (by simp) _).setCell (by simp) _).setCell (by simp) _
end Go.Proofs.Ythpgdoepbkgacaa
