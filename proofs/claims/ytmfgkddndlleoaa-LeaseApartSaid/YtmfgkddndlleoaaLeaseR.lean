/- slices.Delete of one lease; Release; Has. -/
import Derived.Test.YtmfgkddndlleoaaLeaseG
import Derived.Deep.RegionLaw
set_option linter.unusedSimpArgs false
set_option linter.unusedVariables false
namespace Go.Proofs.Ytmfgkddndlleoaa
open Go.RowKit

theorem del_close {g n cap i : Nat} {cur : Array Value} {xs : List Value} {w : World} {t : TypeId} {size : Nat} (hg : w.heap[g]? = some (.cells cur t (0, 0))) (hn : n ≤ cap) (hm : cap ≤ maxLen) (hcs : cur.size = cap * size) (hx : cur.toList.take (n * size) = xs) (hi : i < n)
    (zs : List Value) {k m : Nat} (hk : k = n - 1) (hz : zs.length = m * size) (hm1 : m = 1) (R : List Value) (hR : R = cur.toList.take (i * size) ++ (xs.drop ((i + 1) * size) ++ cur.toList.drop (i * size + (xs.length - (i + 1) * size)))) :
    ((w.drew.setRow g R.toArray).setRow g (R.take (k * size) ++ (zs ++ R.drop (k * size + zs.length))).toArray).ownsRow 0 t size (.slice (some ⟨g, 0, none⟩) k cap) k (xs.take (i * size) ++ xs.drop ((i + 1) * size)) ∧
      Keep (fun k => k = g) w ((w.drew.setRow g R.toArray).setRow g (R.take (k * size) ++ (zs ++ R.drop (k * size + zs.length))).toArray) := by
  subst hm1
  have hl : xs.length = n * size := by rw [← hx, List.length_take, Array.length_toList, hcs, Nat.min_eq_left (Nat.mul_le_mul_right _ hn)]
  have e1 : (i + 1) * size ≤ n * size := Nat.mul_le_mul_right _ hi
  have e2 : (i + 1) * size = i * size + size := Nat.succ_mul _ _
  have e3 : k * size + size = n * size := by rw [← Nat.succ_mul]; congr 1; omega
  have e4 : n * size ≤ cap * size := Nat.mul_le_mul_right _ hn
  have hti : cur.toList.take (i * size) = xs.take (i * size) := by
    rw [← hx, List.take_take, Nat.min_eq_left (by omega)]
  have hRl : R.length = cap * size := by
    rw [hR]
    simp only [List.length_append, List.length_take, List.length_drop, Array.length_toList, hl, hcs]
    omega
  have htk : R.take (k * size) = xs.take (i * size) ++ xs.drop ((i + 1) * size) := by
    rw [hR, hti, ← List.append_assoc, List.take_left' (by simp only [List.length_append, List.length_take, List.length_drop, hl]; omega)]
  refine ⟨⟨?_, .inr ⟨g, cap, _, rfl, Nat.zero_le _, setRow_heap _ g _ _ t (0, 0) (setRow_heap _ g cur _ t (0, 0) hg), by omega, hm, ?_, ?_⟩⟩, ?_⟩
  · simp only [List.length_append, List.length_take, List.length_drop, hl]; omega
  · simp only [List.size_toArray, List.length_append, List.length_take, List.length_drop, hRl, hz]; omega
  · rw [← htk]
    rw [List.take_left' (by simp only [List.length_take, hRl]; omega)]
  · exact ((Keep.refl _ w).drew.trans (keep_setRow _ g _) (fun _ _ h => h)).trans (keep_setRow _ g _) (fun _ _ h => h)

attribute [local go_sem ↓] Go.wp_at_zero Go.wp_at_succ
set_option maxHeartbeats 1000000 in
theorem del_cell (g n cap i : Nat) (cur : Array Value) (xs : List Value) (w : World) (hg : w.heap[g]? = some (.cells cur 39 (0, 0))) (hn : n ≤ cap) (hm : cap ≤ maxLen) (hcs : cur.size = cap * 5) (hx : cur.toList.take (n * 5) = xs) (hi : i < n) (h1 : ∀ u ∈ xs, u.oneCell' = true) :
    Calls Try.prog 41 #[.slice (some ⟨g, 0, none⟩) n cap, .int .i64 (i : Int), .int .i64 ((i : Int) + 1)] w fun e w' => e = .returned (.slice (some ⟨g, 0, none⟩) (n - 1) cap) ∧
      w'.ownsRow 0 39 5 (.slice (some ⟨g, 0, none⟩) (n - 1) cap) (n - 1) (xs.take (i * 5) ++ xs.drop ((i + 1) * 5)) ∧ Keep (fun k => k = g) w w' := by
  have hij : ((i : Int) == (i : Int) + 1) = false := by rw [beq_eq_false_iff_ne]; omega
  simp only [maxLen] at hm
  have b1 : (0 : Int) ≤ (i : Int) := by omega
  have b2 : (i : Int) + 1 ≤ (n : Int) := by omega
  have b3 : (n : Int) ≤ (cap : Int) := by omega
  have b4 : (i : Int) ≤ (cap : Int) := by omega
  have b5 : (0 : Int) ≤ (i : Int) + 1 := by omega
  have hown : w.ownsRow 0 39 5 (.slice (some ⟨g, 0, none⟩) n cap) n xs := ⟨by rw [← hx, List.length_take, Array.length_toList, hcs, Nat.min_eq_left (Nat.mul_le_mul_right _ hn)], .inr ⟨g, cap, cur, rfl, Nat.zero_le _, hg, hn, by simp only [maxLen]; omega, hcs, hx⟩⟩
  have hsz : (cur.toList.take (i * 5) ++ (xs.drop ((i + 1) * 5) ++ cur.toList.drop (i * 5 + (xs.length - (i + 1) * 5)))).toArray.size = cap * 5 := by
    simp only [List.size_toArray, List.length_append, List.length_take, List.length_drop, Array.length_toList, hown.1, hcs]
    omega
  have Hsz := Lib.hid hsz
  clear hsz
  have Ho := Lib.hid hown
  have H1 := Lib.hid h1
  have Hg := Lib.hid hg
  have Hx := Lib.hid hx
  have Hc := Lib.hid hcs
  clear hg hx hcs hown h1
  by_cases hcj : cap = i + 1
  · obtain rfl : n = i + 1 := by omega
    subst hcj
    have b6 : (i : Int) ≤ (i : Int) + 1 := by omega
    go_enter Try.func41, Try.ntmps41
    go_wp2
    go_region_law (go_must (refine step_app_room (by rfl) eltL (by rfl) (by rfl) (by rfl) Hg.out (Sl.from_ Ho.out (i + 1) (by omega) (by rfl) (by omega) (by omega) (by omega)) (fun u hu => H1.out u (List.mem_of_mem_drop hu)) (by omega) Hc.out ?_))
    go_wp2_with (refine wpList_clear_row rfl eltL rfl rfl (setRow_heap _ g cur _ _ _ Hg.out) (by rw [Hsz.out]; omega) ?_)
    intro zs hz
    have H := Lib.hid (del_close (size := 5) Hg.out hn (by simp only [maxLen]; omega) Hc.out Hx.out hi zs (k := i) (by omega) (m := 1) hz (by omega) _ rfl)
    clear hz
    go_wp2
    go_ret
    refine ⟨?_, ?_, H.out.2⟩
    · congr 2
    · have := H.out.1
      simpa using this
  · have b7 : ¬ cap = i + (n - (i + 1)) := by omega
    go_enter Try.func41, Try.ntmps41
    go_wp2
    go_region_law (go_must (refine step_app_room (by rfl) eltL (by rfl) (by rfl) (by rfl) Hg.out (Sl.from_ Ho.out (i + 1) (by omega) (by rfl) (by omega) (by omega) (by omega)) (fun u hu => H1.out u (List.mem_of_mem_drop hu)) (by omega) Hc.out ?_))
    go_wp2_with (refine wpList_clear_row rfl eltL rfl rfl (setRow_heap _ g cur _ _ _ Hg.out) (by rw [Hsz.out]; omega) ?_)
    intro zs hz
    have H := Lib.hid (del_close (size := 5) Hg.out hn (by simp only [maxLen]; omega) Hc.out Hx.out hi zs (k := i + (n - (i + 1))) (by omega) (m := n - (i + (n - (i + 1)))) hz (by omega) _ rfl)
    clear hz
    go_wp2
    go_ret
    refine ⟨?_, ?_, H.out.2⟩
    · rw [show i + (n - (i + 1)) = n - 1 by omega]; rfl
    · have := H.out.1
      rw [show i + (n - (i + 1)) = n - 1 by omega] at this ⊢
      exact this


def relP (n g s : Int) : List LE → List LE
  | [] => []
  | a :: l => if mineP n g s a = true then l else a :: relP n g s l
theorem relP_miss {n g s : Int} {l : List LE} (h : ∀ (j : Nat) a, l[j]? = some a → mineP n g s a = false) : relP n g s l = l := by
  induction l with
  | nil => rfl
  | cons a l ih =>
    have h0 := h 0 a rfl
    simp only [relP, h0, Bool.false_eq_true, if_false, List.cons.injEq, true_and]
    exact ih fun j b hb => h (j + 1) b (by simpa using hb)
theorem relP_hit {n g s : Int} {e : LE} {l : List LE} {k : Nat} (hk : l[k]? = some e) (hp : mineP n g s e = true) (h : ∀ (j : Nat) a, j < k → l[j]? = some a → mineP n g s a = false) : relP n g s l = l.eraseIdx k := by
  induction l generalizing k with
  | nil => simp at hk
  | cons a l ih =>
    cases k with
    | zero => simp only [List.getElem?_cons_zero, Option.some.injEq] at hk; subst hk; simp [relP, hp]
    | succ k =>
      have h0 := h 0 a (by omega) rfl
      simp only [relP, h0, Bool.false_eq_true, if_false, List.eraseIdx_cons_succ, List.cons.injEq, true_and]
      exact ih (by simpa using hk) fun j b hj hb => h (j + 1) b (by omega) (by simpa using hb)
theorem flat_erase (l : List LE) (k : Nat) : (flat l).take (k * 5) ++ (flat l).drop ((k + 1) * 5) = flat (l.eraseIdx k) := by
  induction l generalizing k with
  | nil => simp [flat]
  | cons a l ih =>
    have hf : flat (a :: l) = a.cells ++ flat l := rfl
    have ha : a.cells.length = 5 := rfl
    cases k with
    | zero =>
      simp only [Nat.zero_mul, List.take_zero, List.nil_append, List.eraseIdx_cons_zero, Nat.zero_add, Nat.one_mul]
      rw [hf, List.drop_left' ha]
    | succ k =>
      have h1 : ∀ r : List Value, (a.cells ++ r).take ((k + 1) * 5) = a.cells ++ r.take (k * 5) := fun r => by rw [List.take_append, ha, List.take_of_length_le (by omega), show (k + 1) * 5 - 5 = k * 5 by omega]
      have h2 : ∀ r : List Value, (a.cells ++ r).drop ((k + 1 + 1) * 5) = r.drop ((k + 1) * 5) := fun r => by rw [List.drop_append, ha, List.drop_of_length_le (by omega), List.nil_append, show (k + 1 + 1) * 5 - 5 = (k + 1) * 5 by omega]
      rw [hf, h1, h2, List.append_assoc, ih]
      rfl
set_option maxHeartbeats 1000000 in
theorem release_nil (n g s : Int) (w : World) :
    Calls Try.prog 18 #[.pointer none, .agg #[.int .i64 n, .int .i64 g], .int .i64 s] w fun e w' => e = .returned (.bool false) ∧ Below w.heap.size w w' := by
  have x1 := (Below.refl w.heap.size w).alloc (Nat.le_refl _) (.cells #[.int .i64 n, .int .i64 g] 34)
  go_enter Try.func18, Try.ntmps18
  go_wp2
  go_ret
  exact ⟨rfl, x1⟩
set_option maxHeartbeats 1000000 in
theorem release_walk (t : Nat) (born n g s : Int) (L Q : List LE) (A B : Option Addr) (c d : Nat) (w : World) (h : Tab w t born L Q A B c d) :
    Calls Try.prog 18 #[.pointer (some ⟨t, 0, none⟩), .agg #[.int .i64 n, .int .i64 g], .int .i64 s] w fun e w' => TabEnd t born (relP n g s L) Q A B w (.bool (decide (0 ≤ idxP (mineP n g s) L))) e w' := by
  have ht := blk_lt h.blk
  have b1 := blk_new w (.cells #[.int .i64 n, .int .i64 g] 34)
  have x1 := (Below.refl w.heap.size w).alloc (Nat.le_refl _) (.cells #[.int .i64 n, .int .i64 g] 34)
  have HT1 := Lib.hid (h.keep ((Keep.refl (fun _ => False) w).alloc (.cells #[.int .i64 n, .int .i64 g] 34)) (fun _ _ h => h))
  have hc := blk_cells h.blk
  have HT := Lib.hid h
  have hfew := h.few
  have HX := Lib.hid x1
  clear x1 b1 h
  go_enter Try.func18, Try.ntmps18
  go_wp2_with fail
  refine (place_walk t born n g s L Q A B c d _ HT1.out).mono ?_
  rintro e w1 ⟨rfl, hb⟩
  have HB := Lib.hid (HX.out.trans (hb.mono HX.out.size))
  have T1 := Lib.hid (HT1.out.keep (Keep.of_below (S := fun _ => False) hb) (fun _ _ h => h))
  have ct := blk_cells T1.out.blk
  have ft := blk_frees T1.out.blk
  have lt1 := blk_lt T1.out.blk
  clear hb hc
  rcases first_hit (mineP n g s) L with hno | ⟨k, x, hk, hp, hno⟩
  · have HI := Lib.hid (idxP_miss hno)
    have HW := Lib.hid (relP_miss hno)
    rw [HI.out]
    clear hno
    go_wp2
    go_ret
    rw [HI.out, HW.out]
    exact ⟨rfl, A, B, c, d, T1.out, Keep.of_below HB.out, fun k h => .inl h⟩
  · have HW := Lib.hid (relP_hit hk hp hno)
    have hkl : k < L.length := (List.getElem?_eq_some_iff.1 hk).1
    have HI := Lib.hid (idxP_hit hk hp hno)
    rw [HI.out]
    have b1 : (0 : Int) ≤ (k : Int) := by omega
    have b3 : decide ((0 : Int) ≤ (k : Int)) = true := decide_eq_true b1
    have B3 := Lib.hid b3
    obtain ⟨b, cap, cur, e, hb, q1, q2, q3, q4⟩ := own_form T1.out.ownL (by omega)
    injection e with e1 _ e3
    subst e1 e3
    have HD := Lib.hid (del_cell b L.length c k cur (flat L) w1 hb q1 q2 q3 q4 hkl (flat_one L))
    have HE := Lib.hid (flat_erase L k)
    have hlen : (L.eraseIdx k).length = L.length - 1 := List.length_eraseIdx_of_lt hkl
    have HL := Lib.hid hlen
    clear hno hk hp hb q4 hlen b3
    go_wp2_with fail
    refine HD.out.mono ?_
    rintro e w2 ⟨rfl, hown, hk2⟩
    rw [HE.out, ← HL.out] at hown
    have hbt : ¬ t = b := fun e => own_ne_blk T1.out.ownL T1.out.blk (by decide) (by rw [ownBlock_slice]; rfl) e.symm
    have hAB : ∀ k, B.map (·.block) = some k → ¬ k = b := fun k e1 e2 => own_ne T1.out.ownL T1.out.ownQ (by decide) (k := k) (by rw [ownBlock_slice, e2]; rfl) (by rw [ownBlock_slice]; exact e1)
    have hfin := T1.out.putL hk2 hbt hAB hown (fun e he => T1.out.cl e (List.mem_of_mem_eraseIdx he)) (by rw [HL.out]; omega)
    have bt2 := hk2.blk T1.out.blk hbt
    have ct2 := blk_cells bt2
    have ft2 := blk_frees bt2
    have lt2 := blk_lt bt2
    have HKK := Lib.hid ((((Keep.of_below (S := tabOwn t (some ⟨b, 0, none⟩) B) HB.out)).trans hk2 (fun i _ e => .inr (.inl (by rw [e]; rfl)))).trans hfin.2 (fun i _ e => .inl e))
    rw [HL.out] at hfin
    rw [HL.out] at HKK
    have HF := Lib.hid hfin.1
    clear hown hk2 hfin bt2 ct ft
    go_wp2
    go_ret
    rw [HI.out, HW.out, B3.out]
    exact ⟨rfl, _, B, c, d, HF.out, HKK.out, fun k h => .inl h⟩
def hasP (n g s m : Int) : List LE → Bool
  | [] => false
  | a :: l => if mineP n g s a = true then decide (m ≤ a.m) else hasP n g s m l
theorem hasP_miss {n g s m : Int} {l : List LE} (h : ∀ (j : Nat) a, l[j]? = some a → mineP n g s a = false) : hasP n g s m l = false := by
  induction l with
  | nil => rfl
  | cons a l ih =>
    have h0 := h 0 a rfl
    simp only [hasP, h0, Bool.false_eq_true, if_false]
    exact ih fun j b hb => h (j + 1) b (by simpa using hb)
theorem hasP_hit {n g s m : Int} {e : LE} {l : List LE} {k : Nat} (hk : l[k]? = some e) (hp : mineP n g s e = true) (h : ∀ (j : Nat) a, j < k → l[j]? = some a → mineP n g s a = false) : hasP n g s m l = decide (m ≤ e.m) := by
  induction l generalizing k with
  | nil => simp at hk
  | cons a l ih =>
    cases k with
    | zero => simp only [List.getElem?_cons_zero, Option.some.injEq] at hk; subst hk; simp [hasP, hp]
    | succ k =>
      have h0 := h 0 a (by omega) rfl
      simp only [hasP, h0, Bool.false_eq_true, if_false]
      exact ih (by simpa using hk) fun j b hj hb => h (j + 1) b (by omega) (by simpa using hb)
theorem has_nil (n g s m : Int) (w : World) :
    Calls Try.prog 11 #[.pointer none, .agg #[.int .i64 n, .int .i64 g], .int .i64 s, .int .i64 m] w fun e w' => e = .returned (.bool false) ∧ Below w.heap.size w w' := by
  have x1 := (Below.refl w.heap.size w).alloc (Nat.le_refl _) (.cells #[.int .i64 n, .int .i64 g] 34)
  go_enter Try.func11, Try.ntmps11
  go_wp2
  go_ret
  exact ⟨rfl, x1⟩
theorem has_walk (t : Nat) (born n g s m : Int) (L Q : List LE) (A B : Option Addr) (c d : Nat) (w : World) (h : Tab w t born L Q A B c d) :
    Calls Try.prog 11 #[.pointer (some ⟨t, 0, none⟩), .agg #[.int .i64 n, .int .i64 g], .int .i64 s, .int .i64 m] w fun e w' => e = .returned (.bool (hasP n g s m L)) ∧ Below w.heap.size w w' := by
  have ht := blk_lt h.blk
  have x1 := (Below.refl w.heap.size w).alloc (Nat.le_refl _) (.cells #[.int .i64 n, .int .i64 g] 34)
  have HT1 := Lib.hid (h.keep ((Keep.refl (fun _ => False) w).alloc (.cells #[.int .i64 n, .int .i64 g] 34)) (fun _ _ h => h))
  have hc := blk_cells h.blk
  have hfew := h.few
  have HX := Lib.hid x1
  clear x1 h
  go_enter Try.func11, Try.ntmps11
  go_wp2_with fail
  refine (place_walk t born n g s L Q A B c d _ HT1.out).mono ?_
  rintro e w1 ⟨rfl, hb⟩
  have HB := Lib.hid (HX.out.trans (hb.mono HX.out.size))
  have T1 := Lib.hid (HT1.out.keep (Keep.of_below (S := fun _ => False) hb) (fun _ _ h => h))
  have ct := blk_cells T1.out.blk
  clear hb hc
  rcases first_hit (mineP n g s) L with hno | ⟨k, x, hk, hp, hno⟩
  · have HW := Lib.hid (hasP_miss (m := m) hno)
    rw [idxP_miss hno]
    clear hno
    go_wp2
    go_ret
    rw [HW.out]
    exact ⟨rfl, HB.out⟩
  · have hkl : k < L.length := (List.getElem?_eq_some_iff.1 hk).1
    have HW := Lib.hid (hasP_hit (m := m) hk hp hno)
    rw [idxP_hit hk hp hno]
    have b1 : (0 : Int) ≤ (k : Int) := by omega
    have b2 : (k : Int) < (L.length : Int) := by omega
    obtain ⟨b, o, rfl, _, r0, r1, r2, r3, r4⟩ := flat_row (Sl.of_own T1.out.ownL) hk
    clear hno hk hp
    go_wp2
    go_ret
    rw [HW.out]
    exact ⟨rfl, HB.out⟩
end Go.Proofs.Ytmfgkddndlleoaa
