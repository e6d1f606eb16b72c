/- Package cache: a new one; a lease. -/
import Derived.Test.YtpgjjhpnemcgdaaCachA
set_option linter.unusedSimpArgs false
set_option linter.unusedVariables false
namespace Go.Proofs.Ytpgjjhpnemcgdaa
open Go.RowKit

attribute [local go_sem ↓] Go.wp_at_zero Go.wp_at_succ
def CaS.new : CaS := ⟨0, 0, 0, [], [], [], 0⟩
theorem new_walk (X : Nat → Prop) (w : World) (hX : ∀ j, X j → j < w.heap.size) :
    Calls Try.prog 5 #[] w fun e w' => e = .returned (.pointer (some ⟨w.heap.size, 0, none⟩)) ∧ Ca X w.heap.size CaS.new w' ∧ Below w.heap.size w w' := by
  go_enter Try.func5, Try.ntmps5
  go_wp2
  go_ret
  refine ⟨rfl, ⟨none, 0, .slice none 0 0, none, 0, [], ?_⟩, (Below.refl _ w).alloc (Nat.le_refl _) _⟩
  exact ⟨blk_new w _, own_nil' _ 0 _ 1, SlN.nil _ _, own_nil' _ 0 _ 2, rfl, (fun p hp => by cases hp), (fun j hj => by have := hX j hj; simp; omega), (fun h => absurd (hX _ h) (Nat.lt_irrefl _)), (fun j e => by simp at e), (fun j e => by simp at e)⟩
def leaseP (s : CaS) (t : Int) (n : Nat) : CaS := { s with mode := 2, since := max 0 (min t 1099511627776), size := n, data := growP s.data n, known := [] }
set_option maxHeartbeats 1000000 in
theorem lease_walk {X : Nat → Prop} {k : Nat} {s : CaS} {w : World} (h : Ca X k s w) (hd : s.dirty = []) (t : Int) (n : Nat) (hn : n ≤ 9728) (hdl : s.data.length ≤ 1000000) :
    Calls Try.prog 7 #[.pointer (some ⟨k, 0, none⟩), .int .i64 2, .int .i64 t, .int .i64 (n : Int), .bool false] w fun e w' => e = .returned (.tuple #[]) ∧ Ca X k (leaseP s t n) w' ∧ Keep (fun j => ¬ X j) w w' := by
  have HF := Lib.hid (forget_walk h)
  have HNK := Lib.hid (show ¬ X k by obtain ⟨DA, dc, kv, YA, yc, L, h⟩ := h; exact h.notk)
  have HD := Lib.hid hd
  clear h hd
  go_enter Try.func7, Try.ntmps7
  go_wp2_with fail
  refine HF.out.mono ?_
  rintro e w1 ⟨rfl, h1, hk1⟩
  obtain ⟨DA, dc, kv, YA, yc, L, h1⟩ := h1
  have c0 : w1.cell? ⟨k, 0, none⟩ = some (.int .i64 s.mode) := (blk_cells h1.blk 0).trans rfl
  have c1 : w1.cell? ⟨k, 1, none⟩ = some (.int .i64 s.since) := (blk_cells h1.blk 1).trans rfl
  have c2 : w1.cell? ⟨k, 2, none⟩ = some (.int .i64 (s.size : Int)) := (blk_cells h1.blk 2).trans rfl
  have c5 : w1.cell? ⟨k, 5, none⟩ = some (.slice YA 0 yc) := by have := (blk_cells h1.blk 5).trans rfl; simp only [HD.out] at this; exact this
  have f0 := blk_frees h1.blk 0
  have f1 := blk_frees h1.blk 1
  have f2 := blk_frees h1.blk 2
  have H1 := Lib.hid h1
  have HK1 := Lib.hid hk1
  have HCL := Lib.hid (fun w => clock_walk t w)
  have HWI := Lib.hid (fun w => within_walk (n : Int) w)
  rw [show max 0 (min (n : Int) 9728) = (n : Int) by omega] at HWI
  obtain ⟨t', ht'⟩ : ∃ t', t' = max 0 (min t 1099511627776) := ⟨_, rfl⟩
  rw [← ht'] at HCL
  have HT := Lib.hid ht'
  clear h1 hk1 ht'
  go_wp2_with fail
  refine (HCL.out _).mono ?_
  rintro e W ⟨rfl, rfl⟩
  go_wp2_with fail
  refine (HWI.out _).mono ?_
  rintro e w2 ⟨rfl, hw2⟩
  subst hw2
  have k1 := (Keep.refl (fun j => j = k) W).setCell (p := ⟨k, 0, none⟩) (fun _ => rfl) (.int .i64 2)
  have k2 := k1.setCell (p := ⟨k, 1, none⟩) (fun _ => rfl) (.int .i64 t')
  have k3 := k2.setCell (p := ⟨k, 2, none⟩) (fun _ => rfl) (.int .i64 (n : Int))
  have b1 := blk_set4 H1.out.blk (j := 0) (.int .i64 2) rfl
  have b2 := blk_set4 b1 (j := 1) (.int .i64 t') rfl
  have b3 := blk_set4 b2 (j := 2) (.int .i64 (n : Int)) rfl
  have h3 : Ca X k { s with mode := 2, since := t', size := n, known := [] } (((W.setCell ⟨k, 0, none⟩ (.int .i64 2)).setCell ⟨k, 1, none⟩ (.int .i64 t')).setCell ⟨k, 2, none⟩ (.int .i64 (n : Int))) := ⟨DA, dc, kv, YA, yc, L, H1.out.upd k3 rfl rfl b3 (H1.out.known_on k3)⟩
  have HG := Lib.hid (grow_walk h3 n (by omega) hdl)
  have HK3 := Lib.hid k3
  clear k1 k2 k3 b1 b2 b3 h3
  go_wp2_with fail
  refine HG.out.mono ?_
  rintro e w4 ⟨rfl, h4, hk4⟩
  have HC := Lib.hid (clip_walk' h4 hn KB.nil)
  have HK4 := Lib.hid hk4
  clear h4 hk4 c0 c1 c2 c5 f0 f1 f2
  go_wp2_with fail
  refine HC.out.mono ?_
  rintro e w5 ⟨rfl, h5, hk5⟩
  have HE := Lib.hid h5
  have HK5 := Lib.hid hk5
  clear h5 hk5
  go_wp2
  go_end0
  refine ⟨rfl, ?_, (((HK1.out.mono (T := fun j => ¬ X j) (fun j _ e hj => HNK.out (by rw [← e]; exact hj))).trans HK3.out (fun j _ e hj => HNK.out (by rw [← e]; exact hj))).trans HK4.out (fun j _ h => h)).trans HK5.out (fun j _ h => h)⟩
  unfold leaseP
  rw [← HT.out]
  exact HE.out
end Go.Proofs.Ytpgjjhpnemcgdaa
