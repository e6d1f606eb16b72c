/- slices.Delete of one letter; Take, Twin. -/
import Derived.Test.YthpgdoepbkgacaaPost2
set_option linter.unusedSimpArgs false
set_option linter.unusedVariables false
namespace Go.Proofs.Ythpgdoepbkgacaa
open Go.RowKit

theorem del_close {g n cap i : Nat} {cur : Array Value} {xs : List Value} {w : World} {t : TypeId} {size : Nat} (hg : w.heap[g]? = some (.cells cur t (0, 0))) (hn : n ≤ cap) (hm : cap ≤ maxLen) (hcs : cur.size = cap * size) (hx : cur.toList.take (n * size) = xs) (hi : i < n)
    (zs : List Value) {k m : Nat} (hk : k = n - 1) (hz : zs.length = m * size) (hm1 : m = 1) (R : List Value) (hR : R = cur.toList.take (i * size) ++ (xs.drop ((i + 1) * size) ++ cur.toList.drop (i * size + (xs.length - (i + 1) * size)))) :
    ((w.drew.setRow g R.toArray).setRow g (R.take (k * size) ++ (zs ++ R.drop (k * size + zs.length))).toArray).ownsRow 0 t size (.slice (some ⟨g, 0, none⟩) k cap) k (xs.take (i * size) ++ xs.drop ((i + 1) * size)) ∧
      Keep (fun k => k = g) w ((w.drew.setRow g R.toArray).setRow g (R.take (k * size) ++ (zs ++ R.drop (k * size + zs.length))).toArray) := by
  subst hm1
  have hl : xs.length = n * size := by rw [← hx, List.length_take, Array.length_toList, hcs, Nat.min_eq_left (Nat.mul_le_mul_right _ hn)]
  have e1 : (i + 1) * size ≤ n * size := Nat.mul_le_mul_right _ hi
  have e2 : (i + 1) * size = i * size + size := Nat.succ_mul _ _
  have e3 : k * size + size = n * size := by rw [← Nat.succ_mul]; congr 1; omega
  have e4 : n * size ≤ cap * size := Nat.mul_le_mul_right _ hn
  have hti : cur.toList.take (i * size) = xs.take (i * size) := by
    rw [← hx, List.take_take, Nat.min_eq_left (by omega)]
  have hRl : R.length = cap * size := by
    rw [hR]
    simp only [List.length_append, List.length_take, List.length_drop, Array.length_toList, hl, hcs]
    omega
  have htk : R.take (k * size) = xs.take (i * size) ++ xs.drop ((i + 1) * size) := by
    rw [hR, hti, ← List.append_assoc, List.take_left' (by simp only [List.length_append, List.length_take, List.length_drop, hl]; omega)]
  refine ⟨⟨?_, .inr ⟨g, cap, _, rfl, Nat.zero_le _, setRow_heap _ g _ _ t (0, 0) (setRow_heap _ g cur _ t (0, 0) hg), by omega, hm, ?_, ?_⟩⟩, ?_⟩
  · simp only [List.length_append, List.length_take, List.length_drop, hl]; omega
  · simp only [List.size_toArray, List.length_append, List.length_take, List.length_drop, hRl, hz]; omega
  · rw [← htk]
    rw [List.take_left' (by simp only [List.length_take, hRl]; omega)]
  · exact ((Keep.refl _ w).drew.trans (keep_setRow _ g _) (fun _ _ h => h)).trans (keep_setRow _ g _) (fun _ _ h => h)

attribute [local go_sem ↓] Go.wp_at_zero Go.wp_at_succ
set_option maxHeartbeats 1000000 in
theorem del_cell (g n cap i : Nat) (cur : Array Value) (xs : List Value) (w : World) (hg : w.heap[g]? = some (.cells cur 28 (0, 0))) (hn : n ≤ cap) (hm : cap ≤ maxLen) (hcs : cur.size = cap * 3) (hx : cur.toList.take (n * 3) = xs) (hi : i < n) (h1 : ∀ u ∈ xs, u.oneCell' = true) :
    Calls Try.prog 16 #[.slice (some ⟨g, 0, none⟩) n cap, .int .i64 (i : Int), .int .i64 ((i : Int) + 1)] w fun e w' => e = .returned (.slice (some ⟨g, 0, none⟩) (n - 1) cap) ∧
      w'.ownsRow 0 28 3 (.slice (some ⟨g, 0, none⟩) (n - 1) cap) (n - 1) (xs.take (i * 3) ++ xs.drop ((i + 1) * 3)) ∧ Keep (fun k => k = g) w w' := by
  have hij : ((i : Int) == (i : Int) + 1) = false := by rw [beq_eq_false_iff_ne]; omega
  simp only [maxLen] at hm
  have b1 : (0 : Int) ≤ (i : Int) := by omega
  have b2 : (i : Int) + 1 ≤ (n : Int) := by omega
  have b3 : (n : Int) ≤ (cap : Int) := by omega
  have b4 : (i : Int) ≤ (cap : Int) := by omega
  have b5 : (0 : Int) ≤ (i : Int) + 1 := by omega
  have hown : w.ownsRow 0 28 3 (.slice (some ⟨g, 0, none⟩) n cap) n xs := ⟨by rw [← hx, List.length_take, Array.length_toList, hcs, Nat.min_eq_left (Nat.mul_le_mul_right _ hn)], .inr ⟨g, cap, cur, rfl, Nat.zero_le _, hg, hn, by simp only [maxLen]; omega, hcs, hx⟩⟩
  have hsz : (cur.toList.take (i * 3) ++ (xs.drop ((i + 1) * 3) ++ cur.toList.drop (i * 3 + (xs.length - (i + 1) * 3)))).toArray.size = cap * 3 := by
    simp only [List.size_toArray, List.length_append, List.length_take, List.length_drop, Array.length_toList, hown.1, hcs]
    omega
  have Hsz := Lib.hid hsz
  clear hsz
  have Ho := Lib.hid hown
  have H1 := Lib.hid h1
  have Hg := Lib.hid hg
  have Hx := Lib.hid hx
  have Hc := Lib.hid hcs
  clear hg hx hcs hown h1
  by_cases hcj : cap = i + 1
  · obtain rfl : n = i + 1 := by omega
    subst hcj
    have b6 : (i : Int) ≤ (i : Int) + 1 := by omega
    go_enter Try.func16, Try.ntmps16
    go_wp2
    go_region_law (go_must (refine step_app_room (by rfl) eltLetter (by rfl) (by rfl) (by rfl) Hg.out (Sl.from_ Ho.out (i + 1) (by omega) (by rfl) (by omega) (by omega) (by omega)) (fun u hu => H1.out u (List.mem_of_mem_drop hu)) (by omega) Hc.out ?_))
    go_wp2_with (refine wpList_clear_row rfl eltLetter rfl rfl (setRow_heap _ g cur _ _ _ Hg.out) (by rw [Hsz.out]; omega) ?_)
    intro zs hz
    have H := Lib.hid (del_close (size := 3) Hg.out hn (by simp only [maxLen]; omega) Hc.out Hx.out hi zs (k := i) (by omega) (m := 1) hz (by omega) _ rfl)
    clear hz
    go_wp2
    go_ret
    refine ⟨?_, ?_, H.out.2⟩
    · congr 2
    · have := H.out.1
      simpa using this
  · have b7 : ¬ cap = i + (n - (i + 1)) := by omega
    go_enter Try.func16, Try.ntmps16
    go_wp2
    go_region_law (go_must (refine step_app_room (by rfl) eltLetter (by rfl) (by rfl) (by rfl) Hg.out (Sl.from_ Ho.out (i + 1) (by omega) (by rfl) (by omega) (by omega) (by omega)) (fun u hu => H1.out u (List.mem_of_mem_drop hu)) (by omega) Hc.out ?_))
    go_wp2_with (refine wpList_clear_row rfl eltLetter rfl rfl (setRow_heap _ g cur _ _ _ Hg.out) (by rw [Hsz.out]; omega) ?_)
    intro zs hz
    have H := Lib.hid (del_close (size := 3) Hg.out hn (by simp only [maxLen]; omega) Hc.out Hx.out hi zs (k := i + (n - (i + 1))) (by omega) (m := n - (i + (n - (i + 1)))) hz (by omega) _ rfl)
    clear hz
    go_wp2
    go_ret
    refine ⟨?_, ?_, H.out.2⟩
    · rw [show i + (n - (i + 1)) = n - 1 by omega]; rfl
    · have := H.out.1
      rw [show i + (n - (i + 1)) = n - 1 by omega] at this ⊢
      exact this

end Go.Proofs.Ythpgdoepbkgacaa
