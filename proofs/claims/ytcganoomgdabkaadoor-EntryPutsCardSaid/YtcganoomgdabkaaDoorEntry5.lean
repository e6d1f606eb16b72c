/- slices.Sort of texts of one's own; slices.Clip; entry.Names. -/
import Derived.Test.YtcganoomgdabkaaDoorEntry4
import Derived.Test.YtcganoomgdabkaaDoorPath3
set_option linter.unusedSimpArgs false
set_option linter.unusedVariables false
namespace Go.Proofs.YtcganoomgdabkaaDoor
open Go.RowKit

def sortS (o : List Str) : List Str := o.mergeSort fun x y => decide (x ≤ y)
theorem sortS_length (o : List Str) : (sortS o).length = o.length := by simp [sortS]
theorem grow_block {w : World} {os : Array Obj} {k : Nat} (h : k < w.heap.size) : (Sort.grow w os).heap[k]? = w.heap[k]? := by
  simp only [Sort.grow]
  rw [Array.getElem?_append_left h]
theorem put_block {w : World} {b T : Nat} {cur : Array Value} {d : Array Str} (h : w.heap[b]? = some (.cells cur T (0, 0))) :
    (Sort.putRow encStr w b 0 d).heap[b]? = some (.cells (Sort.putCells encStr 0 d cur) T (0, 0)) := by
  simp only [Sort.putRow, Sort.mapBlock, Array.getElem?_modify, h]
  rfl
theorem own_row' {w : World} {e size g n cap : Nat} {xs : List Value} (h : w.ownsRow 0 e size (.slice (some ⟨g, 0, none⟩) n cap) n xs) : ∃ cur, w.heap[g]? = some (.cells cur e (0, 0)) ∧ n ≤ cap ∧ cap ≤ maxLen ∧ cur.size = cap * size ∧ cur.toList.take (n * size) = xs := by
  rcases h.2 with ⟨e, _⟩ | ⟨g', cap', cur, e, _, hg, r⟩
  · cases e
  · injection e with e1 _ e2
    injection e1 with e1
    injection e1 with e1
    subst e1 e2
    exact ⟨cur, hg, r⟩
theorem sortS_end {w w' : World} {g cap n : Nat} {o : List Str} {os : Array Obj} (hown : w.ownsRow 0 9 1 (.slice (some ⟨g, 0, none⟩) o.length cap) o.length (strs o))
    (hw : w' = Sort.grow (Sort.putRow encStr (Sort.ahead w n) g 0 (sortS o).toArray) os) :
    w'.ownsRow 0 9 1 (.slice (some ⟨g, 0, none⟩) o.length cap) o.length (strs (sortS o)) ∧ Keep (fun k => k = g) w w' := by
  subst hw
  obtain ⟨cur, hb, h1, h2, h3, h4⟩ := own_row' hown
  have hbl := blk_lt hb
  have hb' := put_block (w := Sort.ahead w n) (d := (sortS o).toArray) hb
  have hsz : (Sort.putRow encStr (Sort.ahead w n) g 0 (sortS o).toArray).heap.size = w.heap.size := by simp [Sort.putRow, Sort.mapBlock, Sort.ahead]
  have hb2 := (grow_block (os := os) (by rw [hsz]; exact hbl)).trans hb'
  refine ⟨⟨by rw [strs_length, sortS_length]; simp, .inr ⟨g, cap, _, rfl, Nat.zero_le _, hb2, h1, h2, by simp [Sort.putCells, h3], ?_⟩⟩, ⟨rfl, rfl, rfl, by simp [Sort.grow, Sort.putRow, Sort.mapBlock, Sort.ahead], fun k hk hs => ?_⟩⟩
  · apply List.ext_getElem?
    intro i
    rw [List.getElem?_take, Array.getElem?_toList]
    by_cases hi : i < o.length * 1
    · rw [if_pos hi]
      have hi' : i < cur.size := by omega
      have hi2 : i < (sortS o).length := by rw [sortS_length]; omega
      simp only [Sort.putCells, Array.getElem?_mapIdx, Array.getElem?_eq_getElem hi', Option.map_some]
      rw [if_pos ⟨Nat.zero_le _, by simp; omega⟩]
      simp [strs, hi2]
    · rw [if_neg hi, List.getElem?_eq_none (by rw [strs_length, sortS_length]; omega)]
  · rw [grow_block (by rw [hsz]; exact hk)]
    simp only [Sort.putRow, Sort.mapBlock, Array.getElem?_modify, if_neg (fun e => hs (Eq.symm e)), Sort.ahead]
theorem sortS_walk (A : Option Addr) (c : Nat) (o : List Str) (w : World) (hown : w.ownsRow 0 9 1 (.slice A o.length c) o.length (strs o)) (hn : o.length ≤ 8000000000000) :
    Calls Tryd.prog 32 #[.slice A o.length c] w fun e w' => e = .returned (.tuple #[]) ∧ w'.ownsRow 0 9 1 (.slice A o.length c) o.length (strs (sortS o)) ∧ Keep (fun k => A.map (·.block) = some k) w w' := by
  rcases hown.2 with ⟨e, h0⟩ | ⟨g, cap, cur, e, _, hg, h1, h2, h3, h4⟩
  · injection e with e1 e2 e3
    subst e1
    obtain rfl : o = [] := List.eq_nil_of_length_eq_zero h0
    refine (Tryd.slices_Sort_string_none none c w).mono ?_
    rintro e w' ⟨rfl, rfl⟩
    exact ⟨rfl, by rw [show sortS [] = [] by simp [sortS]]; exact hown, Keep.refl _ _⟩
  · injection e with e1 e2 e3
    subst e1 e3
    have hH : Sort.Holds encStr w g 0 o.toArray := by
      intro j hj
      have hj' : j < o.length := by simpa using hj
      have hc := hown.cells (g := g) rfl j (encStr o[j]) (by simp [strs, hj'])
      rw [Addr.add_lit] at hc
      refine ⟨by rw [hc]; simp [hj'], ?_⟩
      simp [World.frozen?, hg]
    refine (Tryd.slices_Sort_string g 0 c o w hH (blk_lt hg) (by omega)).mono ?_
    rintro e w' ⟨rfl, n, os, hw⟩
    obtain ⟨r1, r2⟩ := sortS_end hown hw
    exact ⟨rfl, r1, r2.mono (fun k _ hk => by subst hk; rfl)⟩

theorem clipS_walk (A : Option Addr) (n c : Nat) (w : World) (hc : n ≤ c) (hA : A = none → n = 0 ∧ c = 0) :
    Calls Tryd.prog 33 #[.slice A n c] w fun e w' => e = .returned (.slice A n n) ∧ w' = w := by
  cases A with
  | none =>
    obtain ⟨rfl, rfl⟩ := hA rfl
    go_enter Tryd.func33, Tryd.ntmps33
    go_wp2
    go_ret
    exact ⟨rfl, rfl⟩
  | some p =>
    have b1 : (0 : Int) ≤ (n : Int) := by omega
    have b2 : (n : Int) ≤ (c : Int) := by omega
    clear hA
    go_enter Tryd.func33, Tryd.ntmps33
    go_wp2
    go_ret
    exact ⟨by simp, rfl⟩
theorem clipR_walk (A : Option Addr) (n c : Nat) (w : World) (hc : n ≤ c) (hA : A = none → n = 0 ∧ c = 0) :
    Calls Tryd.prog 28 #[.slice A n c] w fun e w' => e = .returned (.slice A n n) ∧ w' = w := by
  cases A with
  | none =>
    obtain ⟨rfl, rfl⟩ := hA rfl
    go_enter Tryd.func28, Tryd.ntmps28
    go_wp2
    go_ret
    exact ⟨rfl, rfl⟩
  | some p =>
    have b1 : (0 : Int) ≤ (n : Int) := by omega
    have b2 : (n : Int) ≤ (c : Int) := by omega
    clear hA
    go_enter Tryd.func28, Tryd.ntmps28
    go_wp2
    go_ret
    exact ⟨by simp, rfl⟩
end Go.Proofs.YtcganoomgdabkaaDoor
