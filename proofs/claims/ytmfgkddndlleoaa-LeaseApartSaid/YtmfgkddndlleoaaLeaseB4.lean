/- blocks: the walk. -/
import Derived.Test.YtmfgkddndlleoaaLeaseB3
set_option linter.unusedSimpArgs false
set_option linter.unusedVariables false
namespace Go.Proofs.Ytmfgkddndlleoaa
open Go.RowKit

/-- The world in which blocks hands its function value on: five variables. -/
def boxes (w : World) (n g s m now : Int) : World :=
  ((((w.alloc (.cells #[.int .i64 n, .int .i64 g] 34)).alloc (.cells #[.int .i64 s] 3)).alloc (.cells #[.int .i64 m] 3)).alloc (.cells #[.int .i64 now] 3)).alloc (.cells #[.slice none 0 0] 45)
theorem boxes_fact (w : World) (n g s m now : Int) : Keep (fun _ => False) w (boxes w n g s m now) ∧ (boxes w n g s m now).heap.size = w.heap.size + 5 ∧ (boxes w n g s m now).cell? ⟨w.heap.size, 0, none⟩ = some (.int .i64 n) ∧ (boxes w n g s m now).cell? ⟨w.heap.size, 1, none⟩ = some (.int .i64 g) ∧
    (boxes w n g s m now).cell? ⟨w.heap.size + 1, 0, none⟩ = some (.int .i64 s) ∧ (boxes w n g s m now).cell? ⟨w.heap.size + 2, 0, none⟩ = some (.int .i64 m) ∧ (boxes w n g s m now).cell? ⟨w.heap.size + 3, 0, none⟩ = some (.int .i64 now) ∧ (boxes w n g s m now).heap[w.heap.size + 4]? = some (.cells #[.slice none 0 0] 45 (0, 0)) := by
  unfold boxes
  have a1 := blk_new w (.cells #[.int .i64 n, .int .i64 g] 34)
  have k1 := (Keep.refl (fun _ => False) w).alloc (.cells #[.int .i64 n, .int .i64 g] 34)
  generalize hw1 : w.alloc (.cells #[.int .i64 n, .int .i64 g] 34) = v1 at *
  have z1 : v1.heap.size = w.heap.size + 1 := by subst hw1; simp
  have a2 := blk_new v1 (.cells #[.int .i64 s] 3)
  have b1 := blk_old a1 (.cells #[.int .i64 s] 3)
  have k2 := k1.alloc (.cells #[.int .i64 s] 3)
  generalize hw2 : v1.alloc (.cells #[.int .i64 s] 3) = v2 at *
  have z2 : v2.heap.size = w.heap.size + 2 := by subst hw2; simp; omega
  have a3 := blk_new v2 (.cells #[.int .i64 m] 3)
  have c1 := blk_old b1 (.cells #[.int .i64 m] 3)
  have c2 := blk_old a2 (.cells #[.int .i64 m] 3)
  have k3 := k2.alloc (.cells #[.int .i64 m] 3)
  generalize hw3 : v2.alloc (.cells #[.int .i64 m] 3) = v3 at *
  have z3 : v3.heap.size = w.heap.size + 3 := by subst hw3; simp; omega
  have a4 := blk_new v3 (.cells #[.int .i64 now] 3)
  have d1 := blk_old c1 (.cells #[.int .i64 now] 3)
  have d2 := blk_old c2 (.cells #[.int .i64 now] 3)
  have d3 := blk_old a3 (.cells #[.int .i64 now] 3)
  have k4 := k3.alloc (.cells #[.int .i64 now] 3)
  generalize hw4 : v3.alloc (.cells #[.int .i64 now] 3) = v4 at *
  have z4 : v4.heap.size = w.heap.size + 4 := by subst hw4; simp; omega
  have a5 := blk_new v4 (.cells #[.slice none 0 0] 45)
  have e1 := blk_old d1 (.cells #[.slice none 0 0] 45)
  have e2 := blk_old d2 (.cells #[.slice none 0 0] 45)
  have e3 := blk_old d3 (.cells #[.slice none 0 0] 45)
  have e4 := blk_old a4 (.cells #[.slice none 0 0] 45)
  rw [z1] at e2
  rw [z2] at e3
  rw [z3] at e4
  rw [z4] at a5
  exact ⟨k4.alloc _, by simp; omega, blk_cell e1 rfl, blk_cell e1 rfl, blk_cell e2 rfl, blk_cell e3 rfl, blk_cell e4 rfl, a5⟩
end Go.Proofs.Ytmfgkddndlleoaa
