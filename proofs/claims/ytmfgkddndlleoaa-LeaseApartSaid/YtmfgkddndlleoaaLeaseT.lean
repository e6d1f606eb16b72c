/- A table of leases in memory; place. -/
import Derived.Test.YtmfgkddndlleoaaLeaseC
set_option linter.unusedSimpArgs false
set_option linter.unusedVariables false
namespace Go.Proofs.Ytmfgkddndlleoaa
open Go.RowKit

def inClock (l : List LE) : Prop := ∀ e ∈ l, 0 ≤ e.x ∧ e.x ≤ 1099511627776
/-- The blocks of a table. -/
def tabOwn (t : Nat) (A B : Option Addr) (k : Nat) : Prop := k = t ∨ A.map (·.block) = some k ∨ B.map (·.block) = some k
structure Tab (w : World) (t : Nat) (born : Int) (L Q : List LE) (A B : Option Addr) (c d : Nat) : Prop where
  blk : w.heap[t]? = some (.cells #[.int .i64 born, .slice A L.length c, .slice B Q.length d] 44 (0, 0))
  ownL : w.ownsRow 0 39 5 (.slice A L.length c) L.length (flat L)
  ownQ : w.ownsRow 0 66 5 (.slice B Q.length d) Q.length (flat Q)
  b0 : 0 ≤ born
  b1 : born ≤ 1099511627776
  cl : inClock L
  cq : inClock Q
  few : L.length + Q.length ≤ 1000000
theorem Tab.keep {w w' : World} {t : Nat} {born : Int} {L Q : List LE} {A B : Option Addr} {c d : Nat} {S : Nat → Prop} (h : Tab w t born L Q A B c d) (hk : Keep S w w') (hs : ∀ k, tabOwn t A B k → ¬ S k) : Tab w' t born L Q A B c d :=
  ⟨hk.blk h.blk (hs t (.inl rfl)), own_keep h.ownL hk (fun k e => hs k (.inr (.inl (by rw [ownBlock_slice] at e; exact e)))), own_keep h.ownQ hk (fun k e => hs k (.inr (.inr (by rw [ownBlock_slice] at e; exact e)))), h.b0, h.b1, h.cl, h.cq, h.few⟩
theorem Tab.lt {w : World} {t : Nat} {born : Int} {L Q : List LE} {A B : Option Addr} {c d : Nat} (h : Tab w t born L Q A B c d) (k : Nat) (hk : tabOwn t A B k) : k < w.heap.size := by
  rcases hk with rfl | e | e
  · exact blk_lt h.blk
  · exact own_lt h.ownL (by rw [ownBlock_slice]; exact e)
  · exact own_lt h.ownQ (by rw [ownBlock_slice]; exact e)

theorem two_box (w : World) (n g s : Int) (T1 T2 : TypeId) :
    Below w.heap.size w ((w.alloc (.cells #[.int .i64 n, .int .i64 g] T1)).alloc (.cells #[.int .i64 s] T2)) ∧ w.heap.size + 2 ≤ ((w.alloc (.cells #[.int .i64 n, .int .i64 g] T1)).alloc (.cells #[.int .i64 s] T2)).heap.size ∧
    ((w.alloc (.cells #[.int .i64 n, .int .i64 g] T1)).alloc (.cells #[.int .i64 s] T2)).cell? ⟨w.heap.size, 0, none⟩ = some (.int .i64 n) ∧ ((w.alloc (.cells #[.int .i64 n, .int .i64 g] T1)).alloc (.cells #[.int .i64 s] T2)).cell? ⟨w.heap.size, 1, none⟩ = some (.int .i64 g) ∧
    ((w.alloc (.cells #[.int .i64 n, .int .i64 g] T1)).alloc (.cells #[.int .i64 s] T2)).cell? ⟨w.heap.size + 1, 0, none⟩ = some (.int .i64 s) := by
  have h1 := blk_old (blk_new w (.cells #[.int .i64 n, .int .i64 g] T1)) (.cells #[.int .i64 s] T2)
  have h2 := blk_new (w.alloc (.cells #[.int .i64 n, .int .i64 g] T1)) (.cells #[.int .i64 s] T2)
  have e : (w.alloc (.cells #[.int .i64 n, .int .i64 g] T1)).heap.size = w.heap.size + 1 := by simp
  rw [e] at h2
  refine ⟨((Keep.refl (fun _ => False) w).alloc _ |>.alloc _).to_below, by simp, blk_cell h1 rfl, blk_cell h1 rfl, blk_cell h2 rfl⟩
set_option maxHeartbeats 1000000 in
theorem place_walk (t : Nat) (born n g s : Int) (L Q : List LE) (A B : Option Addr) (c d : Nat) (w : World) (h : Tab w t born L Q A B c d) :
    Calls Try.prog 37 #[.pointer (some ⟨t, 0, none⟩), .agg #[.int .i64 n, .int .i64 g], .int .i64 s] w fun e w' => e = .returned (.int .i64 (idxP (mineP n g s) L)) ∧ Below w.heap.size w w' := by
  have hc := blk_cells h.blk
  have ht := blk_lt h.blk
  have HT := Lib.hid h
  have hidx := fun (w' : World) (hb : Below w.heap.size w w') (hs : w.heap.size + 2 ≤ w'.heap.size) (e0 : w'.cell? ⟨w.heap.size, 0, none⟩ = some (.int .i64 n)) (e1 : w'.cell? ⟨w.heap.size, 1, none⟩ = some (.int .i64 g)) (e2 : w'.cell? ⟨w.heap.size + 1, 0, none⟩ = some (.int .i64 s)) =>
    idxL A c L w' 52 #[.pointer (some ⟨w.heap.size, 0, none⟩), .pointer (some ⟨w.heap.size + 1, 0, none⟩)] (mineP n g s) (enters_of Try.func52 (by kernel_rfl) rfl)
      (fun M _ W => M = (fun _ => False) ∧ Below w'.heap.size w' W) (fun _ => False) ⟨rfl, Below.refl _ _⟩
      (fun W M done x _ hI => (place1_walk x w.heap.size (w.heap.size + 1) n g s W ((hI.2.cell (p := ⟨w.heap.size, 0, none⟩) (show w.heap.size < w'.heap.size by omega)).trans e0) ((hI.2.cell (p := ⟨w.heap.size, 1, none⟩) (show w.heap.size < w'.heap.size by omega)).trans e1) ((hI.2.cell (p := ⟨w.heap.size + 1, 0, none⟩) (show w.heap.size + 1 < w'.heap.size by omega)).trans e2)).mono
        fun e W' hh => ⟨hh.1, ⟨fun _ => False, rfl, hI.2.trans (hh.2.mono hI.2.size)⟩, Keep.of_below hh.2⟩)
      (fun M done W hI => ((Sl.of_own h.ownL).below hb).below hI.2) (by have := h.few; omega)
  have HX := Lib.hid hidx
  clear hidx h
  go_enter Try.func37, Try.ntmps37
  go_wp2_with fail
  obtain ⟨x1, x2, x3, x4, x5⟩ := two_box w n g s 34 3
  refine (HX.out _ x1 x2 x3 x4 x5).mono ?_
  rintro e w1 ⟨rfl, M, hM, hb⟩
  have HB := Lib.hid (x1.trans (hb.mono x1.size))
  clear x1 x2 x3 x4 x5 hb hM
  go_wp2
  go_ret
  exact ⟨rfl, HB.out⟩
end Go.Proofs.Ytmfgkddndlleoaa
