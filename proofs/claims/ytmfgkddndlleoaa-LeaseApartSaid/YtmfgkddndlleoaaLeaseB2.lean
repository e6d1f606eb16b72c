/- slices.Sort of a row of one's own. -/
import Derived.Test.YtmfgkddndlleoaaLeaseB1
import Derived.Test.YtmfgkddndlleoaaShelfL
set_option linter.unusedSimpArgs false
set_option linter.unusedVariables false
namespace Go.Proofs.Ytmfgkddndlleoaa
open Go.RowKit

def sortP (o : List Int) : List Int := o.mergeSort fun x y => decide (x ≤ y)
theorem sortP_length (o : List Int) : (sortP o).length = o.length := by simp [sortP]
theorem grow_block {w : World} {os : Array Obj} {k : Nat} (h : k < w.heap.size) : (Sort.grow w os).heap[k]? = w.heap[k]? := by
  simp only [Sort.grow]
  rw [Array.getElem?_append_left h]
theorem put_block {w : World} {b T : Nat} {cur : Array Value} {d : Array Int} (h : w.heap[b]? = some (.cells cur T (0, 0))) :
    (Sort.putRow (Value.int .i64) w b 0 d).heap[b]? = some (.cells (Sort.putCells (Value.int .i64) 0 d cur) T (0, 0)) := by
  simp only [Sort.putRow, Sort.mapBlock, Array.getElem?_modify, h]
  rfl
theorem sort_end {w w' : World} {g cap n : Nat} {o : List Int} {os : Array Obj} {A : Option Addr} (hA : A = some ⟨g, 0, none⟩) (hown : w.ownsRow 0 3 1 (.slice A o.length cap) o.length (ints o))
    (hw : w' = Sort.grow (Sort.putRow (Value.int .i64) (Sort.ahead w n) g 0 (sortP o).toArray) os) :
    w'.ownsRow 0 3 1 (.slice A o.length cap) o.length (ints (sortP o)) ∧ Keep (fun k => k = g) w w' := by
  subst hA hw
  obtain ⟨cur, hb, h1, h2, h3, h4⟩ := own_row hown
  have hbl := blk_lt hb
  have hb' := put_block (w := Sort.ahead w n) (d := (sortP o).toArray) hb
  have hsz : (Sort.putRow (Value.int .i64) (Sort.ahead w n) g 0 (sortP o).toArray).heap.size = w.heap.size := by simp [Sort.putRow, Sort.mapBlock, Sort.ahead]
  have hb2 := (grow_block (os := os) (by rw [hsz]; exact hbl)).trans hb'
  refine ⟨⟨by rw [ints_length, sortP_length]; simp, .inr ⟨g, cap, _, rfl, Nat.zero_le _, hb2, h1, h2, by simp [Sort.putCells, h3], ?_⟩⟩, ⟨rfl, rfl, rfl, by simp [Sort.grow, Sort.putRow, Sort.mapBlock, Sort.ahead], fun k hk hs => ?_⟩⟩
  · apply List.ext_getElem?
    intro i
    rw [List.getElem?_take, Array.getElem?_toList]
    by_cases hi : i < o.length * 1
    · rw [if_pos hi]
      have hi' : i < cur.size := by omega
      have hi2 : i < (sortP o).length := by rw [sortP_length]; omega
      simp only [Sort.putCells, Array.getElem?_mapIdx, Array.getElem?_eq_getElem hi', Option.map_some]
      rw [if_pos ⟨Nat.zero_le _, by simp; omega⟩]
      simp [ints, hi2]
    · rw [if_neg hi, List.getElem?_eq_none (by rw [ints_length, sortP_length]; omega)]
  · rw [grow_block (by rw [hsz]; exact hk)]
    simp only [Sort.putRow, Sort.mapBlock, Array.getElem?_modify, if_neg (fun e => hs (Eq.symm e)), Sort.ahead]
theorem sort_walk (A : Option Addr) (c : Nat) (o : List Int) (w : World) (hown : w.ownsRow 0 3 1 (.slice A o.length c) o.length (ints o)) (hn : o.length ≤ 1000000) :
    Calls Try.prog 48 #[.slice A o.length c] w fun e w' => e = .returned (.tuple #[]) ∧ w'.ownsRow 0 3 1 (.slice A o.length c) o.length (ints (sortP o)) ∧ Keep (fun k => A.map (·.block) = some k) w w' := by
  rcases hown.2 with ⟨e, h0⟩ | ⟨g, cap, cur, e, _, hg, h1, h2, h3, h4⟩
  · injection e with e1 e2 e3
    subst e1
    obtain rfl : o = [] := List.eq_nil_of_length_eq_zero h0
    refine (Try.slices_Sort_int_none none c w).mono ?_
    rintro e w' ⟨rfl, rfl⟩
    exact ⟨rfl, by rw [show sortP [] = [] by simp [sortP]]; exact hown, Keep.refl _ _⟩
  · injection e with e1 e2 e3
    subst e1 e3
    have hH : Sort.Holds (Value.int .i64) w g 0 o.toArray := by
      intro j hj
      have hj' : j < o.length := by simpa using hj
      have hc := hown.cells (g := g) rfl j (.int .i64 o[j]) (by simp [ints, hj'])
      rw [Addr.add_lit] at hc
      refine ⟨by rw [hc]; simp [hj'], ?_⟩
      simp [World.frozen?, hg]
    refine (Try.slices_Sort_int g 0 c o w hH (blk_lt hg) (by omega)).mono ?_
    rintro e w' ⟨rfl, n, os, hw⟩
    obtain ⟨r1, r2⟩ := sort_end rfl hown hw
    exact ⟨rfl, r1, r2.mono (fun k _ hk => by subst hk; rfl)⟩
end Go.Proofs.Ytmfgkddndlleoaa
