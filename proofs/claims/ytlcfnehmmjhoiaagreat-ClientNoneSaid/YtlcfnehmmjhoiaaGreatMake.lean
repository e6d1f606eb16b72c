/- append(s, make([]T, n)...): n zeros more. No program in it. -/
import Derived.Test.YtlcfnehmmjhoiaaGreatBase
set_option linter.unusedSimpArgs false
set_option linter.unusedVariables false
namespace Go.Proofs.YtlcfnehmmjhoiaaGreat
open Go.RowKit

theorem zeros_len {z : Value} {size : Nat} (hz : z.cells.size = size) (m : Nat) : (Builtin.zeroCells z.cells m).toList.length = m * size := by rw [Array.length_toList, size_zeroCells, hz]
theorem zeros_one {z : Value} (h1 : ∀ u ∈ z.cells.toList, u.oneCell' = true) (hp : 0 < z.cells.size) (m : Nat) : ∀ v ∈ (Builtin.zeroCells z.cells m).toList, v.oneCell' = true := by
  intro v hv
  simp only [Builtin.zeroCells, Array.toList_map, List.mem_map, Array.toList_range, List.mem_range] at hv
  obtain ⟨j, hj, rfl⟩ := hv
  have hlt := Nat.mod_lt j hp
  rw [getElem!_pos z.cells (j % z.cells.size) hlt]
  exact h1 _ (by simp)
theorem run_make {P : Program} (w : World) {t ti e : TypeId} {i : TypeInfo} {z : Value} {size bytes : Nat} (hu : P.underlying t = some (.slice e)) (hi : P.info? e = some i) (hz : i.zero = some z) (hs : i.size = size) (hb : i.bytes = bytes) (hzs : z.cells.size = size) (h1 : ∀ u ∈ z.cells.toList, u.oneCell' = true) (hsz : 0 < size)
    (hti : P.underlying ti = some (.int .i64)) (ty : TypeId) {v : Value} {n m : Nat} {xs : List Value}
    (hown : w.ownsRow 0 e size v n xs) (hby : (n + m) * bytes ≤ 140737488355328) (hm : n + m ≤ maxLen) :
    ∃ v' w', (Builtin.append_ #[t, ti] ty #[v, .int .i64 (m : Int)]).run P w = .ok v' w' ∧ w'.ownsRow 0 e size v' (n + m) (xs ++ (Builtin.zeroCells z.cells m).toList) ∧ Keep (fun k => v.ownBlock = some k) w w' ∧
      (v'.ownBlock = v.ownBlock ∨ v'.ownBlock = some w.heap.size) := by
  subst hs hb
  have hmx : (m : Int) ≤ 9223372036854775807 := by simp only [maxLen] at hm; omega
  have hwr : IntKind.i64.wrap (m : Int) = (m : Int) := IntWalk.i64_in _ (by omega)
  have hneg : ¬ ((m : Int) < 0) := by omega
  have hmb : m * i.bytes ≤ 140737488355328 := Nat.le_trans (Nat.mul_le_mul_right _ (by omega)) hby
  have hmb2 : ¬ ((281474976710656 : Int) < (m : Int) * (i.bytes : Int)) := by
    have : ((m * i.bytes : Nat) : Int) ≤ 140737488355328 := by omega
    rw [Int.natCast_mul] at this
    omega
  have hai : ∀ w, (asInt (.int .i64 (m : Int))).run P w = .ok (m : Int) w := fun w => by simp [asInt, asIntOf]
  have hai0 : ∀ w, (asInt (.int .i64 (0 : Int))).run P w = .ok (0 : Int) w := fun w => by simp [asInt, asIntOf]
  have hw0 : IntKind.i64.wrap (0 : Int) = 0 := IntWalk.i64_in _ (by omega)
  have hzl := zeros_len (size := i.size) hzs m
  have hz1 := zeros_one h1 (by omega) m
  have hzv : ∀ w, (zeroValue e).run P w = .ok z w := fun w => by simp [zeroValue, typeInfo, hi, hz]
  have hlen : (xs ++ (Builtin.zeroCells z.cells m).toList).length = (n + m) * i.size := by rw [List.length_append, hown.1, hzl, Nat.add_mul]
  have grown : ∀ (old : Nat), old < n + m → ∀ (S : Nat → Prop),
      (w.drew.alloc (.cells (xs.toArray ++ Builtin.zeroCells z.cells m ++ Builtin.zeroCells z.cells (grownCap w (n + m) old e - (n + m))) e)).ownsRow 0 e i.size
        (.slice (some ⟨w.heap.size, 0, none⟩) (n + m) (grownCap w (n + m) old e)) (n + m) (xs ++ (Builtin.zeroCells z.cells m).toList) ∧
      Keep S w (w.drew.alloc (.cells (xs.toArray ++ Builtin.zeroCells z.cells m ++ Builtin.zeroCells z.cells (grownCap w (n + m) old e - (n + m))) e)) := by
    intro old ho S
    have hge := grownCap_ge w (n + m) old e
    have hcm : grownCap w (n + m) old e ≤ maxLen := grownCap_le_maxLen w (n + m) old e hm
    refine ⟨⟨hlen, .inr ⟨w.heap.size, _, _, rfl, Nat.zero_le _, heap_alloc_new w.drew _, hge, hcm, ?_, ?_⟩⟩, ((Keep.refl S w).drew.alloc _)⟩
    · simp only [Array.size_append, List.size_toArray, size_zeroCells, hzs, hown.1, ← Nat.add_mul]
      congr 1
      omega
    · simp only [Array.toList_append, List.append_assoc]
      rw [← List.append_assoc, ← hlen]
      exact List.take_left
  rcases hown.2 with ⟨rfl, rfl⟩ | ⟨g, cap, cur, rfl, hbg, hg, hnc, hcm, hcs, htake⟩
  · have hx : xs = [] := List.eq_nil_of_length_eq_zero (by simpa using hown.1)
    subst hx
    by_cases hm0 : m = 0
    · subst hm0
      refine ⟨.slice none 0 0, w, ?_, ?_, Keep.refl _ _, .inl rfl⟩
      · simp [Builtin.append_, run_underlying hu, run_underlying hti, sizeOf, typeInfo, hi, hai, hai0, hw0, hwr]
      · have : (Builtin.zeroCells z.cells 0).toList = [] := List.eq_nil_of_length_eq_zero (by simpa using hzl)
        rw [this]
        exact World.ownsRow_nil w 0 e i.size
    · have hgr := grown 0 (by omega) (fun k => Value.ownBlock (.slice none 0 0) = some k)
      simp only [Nat.zero_add, List.nil_append] at hgr ⊢
      refine ⟨_, _, ?_, hgr.1, hgr.2, .inr rfl⟩
      have h63' : ¬ (9223372036854775807 < (m : Int)) := by omega
      have h48' : ¬ (281474976710656 < Builtin.nextslicecap m 0 * i.bytes) := by rw [nextslicecap_zero (by omega)]; omega
      have hms : ¬ (m * i.size = 0) := by
        intro e
        rcases Nat.mul_eq_zero.1 e with e | e <;> omega
      have hms2 : ¬ (m = 0 ∨ i.size = 0) := by omega
      simp [Builtin.append_, run_underlying hu, run_underlying hti, sizeOf, typeInfo, hi, hz, hai, hai0, hw0, hwr, hneg, hmb2, hm0, h63', h48', hms, hms2, hzv, Question.forced, run_firstCells_none, newRow, grownCap]
  · by_cases hroom : n + m ≤ cap
    · have hfit : n * i.size + (Builtin.zeroCells z.cells m).toList.length ≤ cur.size := by rw [hzl, hcs, ← Nat.add_mul]; exact Nat.mul_le_mul_right _ hroom
      have hst := run_storeCells_at P g (n * i.size) e (Builtin.zeroCells z.cells m).toList 0 cur w hg (by simpa using hfit) hz1
      simp only [Nat.add_zero] at hst
      refine ⟨.slice (some ⟨g, 0, none⟩) (n + m) cap, w.setRow g (cur.toList.take (n * i.size) ++ (Builtin.zeroCells z.cells m).toList ++ cur.toList.drop (n * i.size + (Builtin.zeroCells z.cells m).toList.length)).toArray, ?_, ⟨hlen, .inr ⟨g, cap, _, rfl, hbg, setRow_heap w g cur _ e _ hg, hroom, hcm, ?_, ?_⟩⟩, (keep_setRow w g _).mono (fun k _ h => by rw [h]; rfl), .inl rfl⟩
      · by_cases hm0 : m * i.size = 0
        · have hz0 : Builtin.zeroCells z.cells m = #[] := Array.eq_empty_of_size_eq_zero (by rw [size_zeroCells, hzs]; exact hm0)
          rw [hz0] at hst ⊢
          have hm0' : m = 0 ∨ i.size = 0 := Nat.mul_eq_zero.1 hm0
          simp only [List.append_nil, Array.toList_empty, List.length_nil, Nat.add_zero, List.take_append_drop, Array.toArray_toList, setRow_self w g cur e (0, 0) hg]
          simp [Builtin.append_, run_underlying hu, run_underlying hti, sizeOf, typeInfo, hi, hai, hai0, hw0, hwr, hneg, hmb2, hroom, hm0, hm0', Addr.add_lit, storeCells]
        · have hm0' : ¬ (m = 0 ∨ i.size = 0) := fun h => hm0 (Nat.mul_eq_zero.2 h)
          simp [Builtin.append_, run_underlying hu, run_underlying hti, sizeOf, typeInfo, hi, hai, hai0, hw0, hwr, hneg, hmb2, hroom, hm0, hm0', hzv, Addr.add_lit, hst]
      · simp only [List.size_toArray, List.length_append, List.length_take, List.length_drop, Array.length_toList]
        simp only [Array.length_toList] at hfit
        omega
      · rw [htake, ← hlen]
        exact List.take_left
    · have holds : ∀ j u, xs[j]? = some u → w.cell? ((⟨g, 0, none⟩ : Addr).add j) = some u := hown.cells (g := g) rfl
      have hgr := grown cap (by omega) (fun k => Value.ownBlock (.slice (some ⟨g, 0, none⟩) n cap) = some k)
      refine ⟨_, _, ?_, hgr.1, hgr.2, .inr rfl⟩
      have hn : ¬ (n + m ≤ cap) := hroom
      have h63' : ¬ (9223372036854775807 < ((n : Int) + (m : Int))) := by simp only [maxLen] at hm; omega
      have h48' : ¬ (281474976710656 < Builtin.nextslicecap (n + m) cap * i.bytes) := by have := growslice_fits (need := n + m) (old := cap) (by omega) hby; omega
      have hfo := run_firstCells_some (P := P) w.drew i.size n ⟨g, 0, none⟩ n cap xs hown.1 (by simpa using holds)
      have hms : ¬ (m * i.size = 0) := by
        intro e
        rcases Nat.mul_eq_zero.1 e with e | e <;> omega
      have hms2 : ¬ (m = 0 ∨ i.size = 0) := by omega
      simp [Builtin.append_, run_underlying hu, run_underlying hti, sizeOf, typeInfo, hi, hz, hai, hai0, hw0, hwr, hneg, hmb2, hn, h63', h48', hms, hms2, hzv, Question.forced, hfo, newRow, grownCap]
end Go.Proofs.YtlcfnehmmjhoiaaGreat
