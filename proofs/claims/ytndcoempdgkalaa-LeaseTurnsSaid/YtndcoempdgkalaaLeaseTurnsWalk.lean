/- LeaseTurns: the walk. -/
import Derived.Test.YtndcoempdgkalaaLeaseN2
set_option linter.unusedSimpArgs false
set_option linter.unusedVariables false
namespace Go.Proofs.Ytndcoempdgkalaa.lawLeaseTurns
open Go.RowKit

theorem clock0 : clockP 0 = 0 := by decide
theorem c100 : clockP 100 = 100 := by decide
theorem c101 : clockP 101 = 101 := by decide
theorem c102 : clockP 102 = 102 := by decide
theorem g1 (n g : Int) : grantP n g 0 2 100 [] [] = ([], true, [⟨n, g, 0, 2, 100⟩], []) := by simp [grantP, rightP, seatsP, liveQ, aheadP, putP, c100]
theorem g2 (n g m : Int) (hm : m = 1 ∨ m = 2) : grantP n g 1 m 101 [⟨n, g, 0, 2, 100⟩] [] = ([0], false, [⟨n, g, 0, 2, 100⟩], [⟨n, g, 1, m, 101⟩]) := by
  rcases hm with rfl | rfl <;> simp [grantP, rightP, seatsP, stayP, overP, inWay, againstP, pastP, liveQ, aheadP, waitP, c101, sortP, List.filter_cons]
theorem g3 (n g m k : Int) (hm : m = 1 ∨ m = 2) (hk : k = 1 ∨ k = 2) : grantP n g 2 k 102 [⟨n, g, 0, 2, 100⟩] [⟨n, g, 1, m, 101⟩] = ([0], false, [⟨n, g, 0, 2, 100⟩], [⟨n, g, 1, m, 101⟩, ⟨n, g, 2, k, 102⟩]) := by
  rcases hm with rfl | rfl <;> rcases hk with rfl | rfl <;> simp [grantP, rightP, seatsP, stayP, overP, inWay, againstP, pastP, liveQ, aheadP, waitP, c102, sortP, mineP, List.filter_cons]
theorem r4 (n g : Int) : relP n g 0 [⟨n, g, 0, 2, 100⟩] = [] := by simp [relP, mineP]
theorem i4 (n g : Int) : decide (0 ≤ idxP (mineP n g 0) [⟨n, g, 0, 2, 100⟩]) = true := by simp [idxP, mineP]
theorem clk {now : Int} (h0 : 103 ≤ now) (h1 : now ≤ 111) : clockP now = now := by unfold clockP; omega
theorem g5a (n g m k now : Int) (h0 : 103 ≤ now) (h1 : now ≤ 111) (hm : m = 1 ∨ m = 2) (hk : k = 1 ∨ k = 2) (hb : ¬ (m = 1 ∧ k = 1)) :
    grantP n g 2 k now [] [⟨n, g, 1, m, 101⟩, ⟨n, g, 2, k, 102⟩] = ([], false, [], [⟨n, g, 1, m, 101⟩, ⟨n, g, 2, k, now⟩]) := by
  have hq : liveQ now [⟨n, g, 1, m, 101⟩, ⟨n, g, 2, k, 102⟩] = [⟨n, g, 1, m, 101⟩, ⟨n, g, 2, k, 102⟩] := by
    have e1 : ¬ (12 ≤ now - 101) := by omega
    have e2 : ¬ (12 ≤ now - 102) := by omega
    simp [liveQ, pastP, clk h0 h1, e1, e2]
  rcases hm with rfl | rfl <;> rcases hk with rfl | rfl <;> first | exact absurd ⟨rfl, rfl⟩ hb | simp [grantP, hq, rightP, seatsP, stayP, overP, inWay, againstP, aheadP, waitP, clk h0 h1, sortP, mineP, List.filter_cons]
theorem g5b (n g now : Int) (h0 : 103 ≤ now) (h1 : now ≤ 111) :
    grantP n g 2 1 now [] [⟨n, g, 1, 1, 101⟩, ⟨n, g, 2, 1, 102⟩] = ([], true, [⟨n, g, 2, 1, now⟩], [⟨n, g, 1, 1, 101⟩]) := by
  have hq : liveQ now [⟨n, g, 1, 1, 101⟩, ⟨n, g, 2, 1, 102⟩] = [⟨n, g, 1, 1, 101⟩, ⟨n, g, 2, 1, 102⟩] := by
    have e1 : ¬ (12 ≤ now - 101) := by omega
    have e2 : ¬ (12 ≤ now - 102) := by omega
    simp [liveQ, pastP, clk h0 h1, e1, e2]
  simp [grantP, hq, rightP, seatsP, stayP, overP, inWay, againstP, aheadP, putP, clk h0 h1, sortP, mineP, List.filter_cons]
theorem g6a (n g m k now : Int) (h0 : 103 ≤ now) (h1 : now ≤ 111) (hm : m = 1 ∨ m = 2) :
    grantP n g 1 m now [] [⟨n, g, 1, m, 101⟩, ⟨n, g, 2, k, now⟩] = ([], true, [⟨n, g, 1, m, now⟩], [⟨n, g, 2, k, now⟩]) := by
  have hq : liveQ now [⟨n, g, 1, m, 101⟩, ⟨n, g, 2, k, now⟩] = [⟨n, g, 1, m, 101⟩, ⟨n, g, 2, k, now⟩] := by
    have e1 : ¬ (12 ≤ now - 101) := by omega
    have e2 : ¬ (12 ≤ now - now) := by omega
    simp [liveQ, pastP, clk h0 h1, e1, e2]
  rcases hm with rfl | rfl <;> simp [grantP, hq, rightP, seatsP, stayP, overP, inWay, againstP, aheadP, putP, clk h0 h1, sortP, mineP, List.filter_cons]
theorem g6b (n g now : Int) (h0 : 103 ≤ now) (h1 : now ≤ 111) :
    grantP n g 1 1 now [⟨n, g, 2, 1, now⟩] [⟨n, g, 1, 1, 101⟩] = ([], true, [⟨n, g, 2, 1, now⟩, ⟨n, g, 1, 1, now⟩], []) := by
  have hq : liveQ now [⟨n, g, 1, 1, 101⟩] = [⟨n, g, 1, 1, 101⟩] := by
    have e1 : ¬ (12 ≤ now - 101) := by omega
    simp [liveQ, pastP, clk h0 h1, e1]
  simp [grantP, hq, rightP, seatsP, stayP, overP, inWay, againstP, aheadP, putP, clk h0 h1, sortP, mineP, List.filter_cons]
set_option maxHeartbeats 4000000 in
theorem walk (n g a b l : Int) (w : World) (ha0 : 0 ≤ a) (ha1 : a ≤ 255) (hb0 : 0 ≤ b) (hb1 : b ≤ 255) (hl0 : 0 ≤ l) (hl1 : l ≤ 255) :
    Calls Try.prog 3 #[.agg #[.int .i64 n, .int .i64 g], .int .u8 a, .int .u8 b, .int .u8 l] w fun e w' => e = .returned (.bool true) ∧ Below w.heap.size w w' := by
  have b0 := blk_new w (.cells #[.int .i64 n, .int .i64 g] 23)
  have HB0 := Lib.hid ((Below.refl w.heap.size w).alloc (Nat.le_refl _) (.cells #[.int .i64 n, .int .i64 g] 23))
  have B0 := Lib.hid b0
  have hl0' := blk_lt b0
  have HN := Lib.hid (newX 0 (w.alloc (.cells #[.int .i64 n, .int .i64 g] 23)))
  obtain ⟨m, hm⟩ : ∃ m, m = 1 + a % 2 := ⟨_, rfl⟩
  obtain ⟨k, hk⟩ : ∃ k, k = 1 + b % 2 := ⟨_, rfl⟩
  have hm1 : m = 1 ∨ m = 2 := by omega
  have hk1 : k = 1 ∨ k = 2 := by omega
  clear b0
  go_enter Try.func3, Try.ntmps3
  go_wp2_with fail
  refine HN.out.mono ?_
  rintro e w1 ⟨rfl, hT, hb, hs⟩
  rw [clock0, show (w.alloc (.cells #[.int .i64 n, .int .i64 g] 23)).heap.size = w.heap.size + 1 by simp] at hT
  have B1 := Lib.hid ((Keep.of_below (S := fun _ => False) hb).blk B0.out id)
  have HB1 := Lib.hid (HB0.out.trans (hb.mono (Nat.le_of_lt hl0')))
  obtain ⟨N, hN⟩ : ∃ N, N = w.heap.size + 1 := ⟨_, rfl⟩
  have HT1 := Lib.hid (hT.less (Y := fun k => k < N) (fun k h => by omega))
  have s1 : w.heap.size + 1 < w1.heap.size := by simpa using hs
  clear hT hb
  go_wp2_with fail
  refine (awake_walk _).mono ?_
  rintro e w2 ⟨rfl, h2⟩
  have B2 := Lib.hid ((Keep.of_below (S := fun _ => False) h2).blk B1.out id)
  have HB2 := Lib.hid (HB1.out.trans (h2.mono (by omega)))
  have HT2 := Lib.hid (HT1.out.below h2)
  have s2 := h2.size
  have c2 := blk_cells B2.out
  have l2 := blk_lt B2.out
  clear h2
  go_wp2_with fail
  rw [← hm, ← hk]
  have HM := Lib.hid hm
  have HK := Lib.hid hk
  clear hm hk
  have hX : ∀ w' : World, w.heap.size + 1 ≤ w'.heap.size → ∀ k, k < N → k < w'.heap.size := fun w' h k hk => by omega
  have hZ : ∀ w1 w2 : World, Keep (fun k => ¬ k < N) w1 w2 → w.heap.size ≤ w1.heap.size → Below w.heap.size w1 w2 := fun w1 w2 hk h => hk.below (fun i hi => by omega) h
  have hb' : w.heap.size < N := by omega
  have HXX := Lib.hid hX
  have HZZ := Lib.hid hZ
  have Hb' := Lib.hid hb'
  clear hX hZ hb'
  refine (grantY (g1 n g) rfl HT2.out (HXX.out _ (by omega)) (by simp)).mono ?_
  rintro e w3 ⟨O3, oc3, rfl, hown, hT, hk', hO⟩
  have B3 := Lib.hid (hk'.blk B2.out (fun h => h Hb'.out))
  have HB3 := Lib.hid (HB2.out.trans (HZZ.out _ _ hk' (by omega)))
  have s3 := hk'.size
  have c3 := blk_cells B3.out
  have l3 := blk_lt B3.out
  have HT3 := Lib.hid (hT.less (fun k h => .inl h))
  clear hown hT hk' hO c2
  go_wp2_with fail
  refine (grantY (g2 n g m hm1) rfl HT3.out (HXX.out _ (by omega)) (by simp)).mono ?_
  rintro e w4 ⟨O4, oc4, rfl, hown, hT, hk', hO⟩
  have B4 := Lib.hid (hk'.blk B3.out (fun h => h Hb'.out))
  have HB4 := Lib.hid (HB3.out.trans (HZZ.out _ _ hk' (by omega)))
  have s4 := hk'.size
  have c4 := blk_cells B4.out
  have l4 := blk_lt B4.out
  have HT4 := Lib.hid (hT.less (fun k h => .inl h))
  obtain ⟨bl, rfl, hcell⟩ := one_cell hown
  have CL4 := Lib.hid hcell
  have HU4 := Lib.hid hT
  have hbl : ¬ bl < N := by have := hO bl rfl; omega
  have lbl := World.block_lt_of_cell? _ _ hcell
  have hX4 : ∀ w' : World, w4.heap.size ≤ w'.heap.size → ∀ k, (k < N ∨ (some (⟨bl, 0, none⟩ : Addr)).map (·.block) = some k) → k < w'.heap.size := fun w' h k hk => by
    rcases hk with hk | hk
    · exact HXX.out w' (by omega) k hk
    · injection hk with hk; subst hk; exact Nat.lt_of_lt_of_le lbl h
  have HX4 := Lib.hid hX4
  have s4' := s4
  clear hown hT hk' hO c3 hcell hX4 lbl hbl
  go_wp2_with fail
  refine (grantY (g3 n g m k hm1 hk1) rfl HU4.out (HX4.out _ (by omega)) (by simp)).mono ?_
  rintro e w5 ⟨O5, oc5, rfl, hown, hT, hk', hO⟩
  have B5 := Lib.hid (hk'.blk B4.out (fun h => h (.inl Hb'.out)))
  have CL5 := Lib.hid (hk'.cell CL4.out (fun h => h (.inr rfl)))
  have HB5 := Lib.hid (HB4.out.trans (HZZ.out _ _ (hk'.mono (fun i _ h e => h (.inl e))) (by omega)))
  have s5 := hk'.size
  have c5 := blk_cells B5.out
  have l5 := blk_lt B5.out
  have HU5 := Lib.hid (hT.less (fun k h => .inl h))
  clear hown hT hk' hO c4
  go_wp2_with fail
  refine (releaseX _ _ n g 0 _ _ _ _ HU5.out (HX4.out _ (by omega))).mono ?_
  rintro e w6 ⟨rfl, hT, hk'⟩
  rw [i4]
  rw [r4] at hT
  have B6 := Lib.hid (hk'.blk B5.out (fun h => h (.inl Hb'.out)))
  have CL6 := Lib.hid (hk'.cell CL5.out (fun h => h (.inr rfl)))
  have HB6 := Lib.hid (HB5.out.trans (HZZ.out _ _ (hk'.mono (fun i _ h e => h (.inl e))) (by omega)))
  have s6 := hk'.size
  have c6 := blk_cells B6.out
  have l6 := blk_lt B6.out
  have HU6 := Lib.hid hT
  clear hT hk' c5
  obtain ⟨now, hnow⟩ : ∃ now, now = 103 + l % 9 := ⟨_, rfl⟩
  have n0 : 103 ≤ now := by omega
  have n1 : now ≤ 111 := by omega
  go_wp2_with fail
  rw [← hnow]
  have HNOW := Lib.hid hnow
  clear hnow
  rcases hm1 with rfl | rfl <;> rcases hk1 with rfl | rfl
  · refine (grantY (g5b n g now n0 n1) rfl HU6.out (HX4.out _ (by omega)) (by simp)).mono ?_
    rintro e w7 ⟨O7, oc7, rfl, hown, hT, hk', hO⟩
    have B7 := Lib.hid (hk'.blk B6.out (fun h => h (.inl Hb'.out)))
    have CL7 := Lib.hid (hk'.cell CL6.out (fun h => h (.inr rfl)))
    have HB7 := Lib.hid (HB6.out.trans (HZZ.out _ _ (hk'.mono (fun i _ h e => h (.inl e))) (by omega)))
    have s7 := hk'.size
    have c7 := blk_cells B7.out
    have l7 := blk_lt B7.out
    have HU7 := Lib.hid (hT.less (fun k h => .inl h))
    clear hown hT hk' hO c6
    go_wp2_with fail
    refine (grantY (g6b n g now n0 n1) rfl HU7.out (HX4.out _ (by omega)) (by simp)).mono ?_
    rintro e w8 ⟨O8, oc8, rfl, hown, hT, hk', hO⟩
    have B8 := Lib.hid (hk'.blk B7.out (fun h => h (.inl Hb'.out)))
    have CL8 := Lib.hid (hk'.cell CL7.out (fun h => h (.inr rfl)))
    have HB8 := Lib.hid (HB7.out.trans (HZZ.out _ _ (hk'.mono (fun i _ h e => h (.inl e))) (by omega)))
    have s8 := hk'.size
    have c8 := blk_cells B8.out
    have l8 := blk_lt B8.out
    have HU8 := Lib.hid (hT.less (fun k h => .inl h))
    clear hown hT hk' hO c7
    have cl8 := CL8.out
    go_wp2
    go_ret
    exact ⟨rfl, HB8.out⟩
  · refine (grantY (g5a n g 1 2 now n0 n1 (by simp) (by simp) (by simp)) rfl HU6.out (HX4.out _ (by omega)) (by simp)).mono ?_
    rintro e w7 ⟨O7, oc7, rfl, hown, hT, hk', hO⟩
    have B7 := Lib.hid (hk'.blk B6.out (fun h => h (.inl Hb'.out)))
    have CL7 := Lib.hid (hk'.cell CL6.out (fun h => h (.inr rfl)))
    have HB7 := Lib.hid (HB6.out.trans (HZZ.out _ _ (hk'.mono (fun i _ h e => h (.inl e))) (by omega)))
    have s7 := hk'.size
    have c7 := blk_cells B7.out
    have l7 := blk_lt B7.out
    have HU7 := Lib.hid (hT.less (fun k h => .inl h))
    clear hown hT hk' hO c6
    go_wp2_with fail
    refine (grantY (g6a n g 1 2 now n0 n1 (by simp)) rfl HU7.out (HX4.out _ (by omega)) (by simp)).mono ?_
    rintro e w8 ⟨O8, oc8, rfl, hown, hT, hk', hO⟩
    have B8 := Lib.hid (hk'.blk B7.out (fun h => h (.inl Hb'.out)))
    have CL8 := Lib.hid (hk'.cell CL7.out (fun h => h (.inr rfl)))
    have HB8 := Lib.hid (HB7.out.trans (HZZ.out _ _ (hk'.mono (fun i _ h e => h (.inl e))) (by omega)))
    have s8 := hk'.size
    have c8 := blk_cells B8.out
    have l8 := blk_lt B8.out
    have HU8 := Lib.hid (hT.less (fun k h => .inl h))
    clear hown hT hk' hO c7
    have cl8 := CL8.out
    go_wp2
    go_ret
    exact ⟨rfl, HB8.out⟩
  · refine (grantY (g5a n g 2 1 now n0 n1 (by simp) (by simp) (by simp)) rfl HU6.out (HX4.out _ (by omega)) (by simp)).mono ?_
    rintro e w7 ⟨O7, oc7, rfl, hown, hT, hk', hO⟩
    have B7 := Lib.hid (hk'.blk B6.out (fun h => h (.inl Hb'.out)))
    have CL7 := Lib.hid (hk'.cell CL6.out (fun h => h (.inr rfl)))
    have HB7 := Lib.hid (HB6.out.trans (HZZ.out _ _ (hk'.mono (fun i _ h e => h (.inl e))) (by omega)))
    have s7 := hk'.size
    have c7 := blk_cells B7.out
    have l7 := blk_lt B7.out
    have HU7 := Lib.hid (hT.less (fun k h => .inl h))
    clear hown hT hk' hO c6
    go_wp2_with fail
    refine (grantY (g6a n g 2 1 now n0 n1 (by simp)) rfl HU7.out (HX4.out _ (by omega)) (by simp)).mono ?_
    rintro e w8 ⟨O8, oc8, rfl, hown, hT, hk', hO⟩
    have B8 := Lib.hid (hk'.blk B7.out (fun h => h (.inl Hb'.out)))
    have CL8 := Lib.hid (hk'.cell CL7.out (fun h => h (.inr rfl)))
    have HB8 := Lib.hid (HB7.out.trans (HZZ.out _ _ (hk'.mono (fun i _ h e => h (.inl e))) (by omega)))
    have s8 := hk'.size
    have c8 := blk_cells B8.out
    have l8 := blk_lt B8.out
    have HU8 := Lib.hid (hT.less (fun k h => .inl h))
    clear hown hT hk' hO c7
    have cl8 := CL8.out
    go_wp2
    go_ret
    exact ⟨rfl, HB8.out⟩
  · refine (grantY (g5a n g 2 2 now n0 n1 (by simp) (by simp) (by simp)) rfl HU6.out (HX4.out _ (by omega)) (by simp)).mono ?_
    rintro e w7 ⟨O7, oc7, rfl, hown, hT, hk', hO⟩
    have B7 := Lib.hid (hk'.blk B6.out (fun h => h (.inl Hb'.out)))
    have CL7 := Lib.hid (hk'.cell CL6.out (fun h => h (.inr rfl)))
    have HB7 := Lib.hid (HB6.out.trans (HZZ.out _ _ (hk'.mono (fun i _ h e => h (.inl e))) (by omega)))
    have s7 := hk'.size
    have c7 := blk_cells B7.out
    have l7 := blk_lt B7.out
    have HU7 := Lib.hid (hT.less (fun k h => .inl h))
    clear hown hT hk' hO c6
    go_wp2_with fail
    refine (grantY (g6a n g 2 2 now n0 n1 (by simp)) rfl HU7.out (HX4.out _ (by omega)) (by simp)).mono ?_
    rintro e w8 ⟨O8, oc8, rfl, hown, hT, hk', hO⟩
    have B8 := Lib.hid (hk'.blk B7.out (fun h => h (.inl Hb'.out)))
    have CL8 := Lib.hid (hk'.cell CL7.out (fun h => h (.inr rfl)))
    have HB8 := Lib.hid (HB7.out.trans (HZZ.out _ _ (hk'.mono (fun i _ h e => h (.inl e))) (by omega)))
    have s8 := hk'.size
    have c8 := blk_cells B8.out
    have l8 := blk_lt B8.out
    have HU8 := Lib.hid (hT.less (fun k h => .inl h))
    clear hown hT hk' hO c7
    have cl8 := CL8.out
    go_wp2
    go_ret
    exact ⟨rfl, HB8.out⟩
end Go.Proofs.Ytndcoempdgkalaa.lawLeaseTurns
