/- awake; what the calls of LeaseTurns come to. -/
import Derived.Test.YtmfgkddndlleoaaLeaseN
set_option linter.unusedSimpArgs false
set_option linter.unusedVariables false
namespace Go.Proofs.Ytmfgkddndlleoaa
open Go.RowKit

theorem sortP_one (a : Int) : sortP [a] = [a] := by simp [sortP]
theorem TL.less {w : World} {t : Nat} {born : Int} {L Q : List LE} {X Y : Nat → Prop} (h : TL w t born L Q X) (hY : ∀ k, Y k → X k) : TL w t born L Q Y := by
  obtain ⟨A, B, c, d, hT, hX⟩ := h
  exact ⟨A, B, c, d, hT, fun k e hy => hX k e (hY k hy)⟩
theorem grantY {t : Nat} {born n g s m now : Int} {L Q L' Q' : List LE} {l : List Int} {ok : Bool} {len : Nat} {X : Nat → Prop} {w : World} (hr : grantP n g s m now L Q = (l, ok, L', Q')) (hl : l.length = len) (h : TL w t born L Q X) (hlt : ∀ k, X k → k < w.heap.size) (hf : L.length + Q.length < 1000000) :
    Calls Try.prog 10 #[.pointer (some ⟨t, 0, none⟩), .agg #[.int .i64 n, .int .i64 g], .int .i64 s, .int .i64 m, .int .i64 now] w fun e w' =>
      ∃ O oc, e = .returned (.tuple #[.slice O len oc, .bool ok]) ∧ w'.ownsRow 0 3 1 (.slice O len oc) len (ints l) ∧ TL w' t born L' Q' (fun k => X k ∨ O.map (·.block) = some k) ∧ Keep (fun k => ¬ X k) w w' ∧ ∀ k, O.map (·.block) = some k → w.heap.size ≤ k := by
  have H := grantX t born n g s m now L Q X w h hlt hf
  rw [hr] at H
  subst hl
  exact H
theorem aw1 : grantP 2 1 0 1 40 [] [] = ([], true, [⟨2, 1, 0, 1, 40⟩], []) := by decide
theorem aw2 : grantP 2 1 1 2 41 [⟨2, 1, 0, 1, 40⟩] [] = ([0], false, [⟨2, 1, 0, 1, 40⟩], [⟨2, 1, 1, 2, 41⟩]) := by rw [← sortP_one]; rfl
theorem clock5 : clockP 5 = 5 := by decide
set_option maxHeartbeats 1000000 in
theorem awake_walk (w : World) : Calls Try.prog 5 #[] w fun e w' => e = .returned (.bool true) ∧ Below w.heap.size w w' := by
  have HN := Lib.hid (newX 5 w)
  go_enter Try.func5, Try.ntmps5
  go_wp2_with fail
  refine HN.out.mono ?_
  rintro e w1 ⟨rfl, hT, hb, hs⟩
  rw [clock5] at hT
  have K1 := (Keep.refl (fun _ => False) w1).alloc (.cells #[.int .i64 2, .int .i64 1] 34)
  have hT1 : TL (w1.alloc (.cells #[.int .i64 2, .int .i64 1] 34)) w.heap.size 5 [] [] (fun k => k < w.heap.size ∨ k = w1.heap.size) := hT.more K1.to_below (fun k h => by rcases h with h | h; exact .inl h; exact .inr (by omega))
  have b1 := blk_new w1 (.cells #[.int .i64 2, .int .i64 1] 34)
  have HG := Lib.hid (grantY aw1 rfl hT1 (fun k h => by have := blk_lt b1; rcases h with h | h <;> simp <;> omega) (by simp))
  have B1 := Lib.hid b1
  have HB := Lib.hid (hb.alloc (Nat.le_of_lt hs) (.cells #[.int .i64 2, .int .i64 1] 34))
  clear hT K1 hT1 b1
  go_wp2_with fail
  refine HG.out.mono ?_
  rintro e w2 ⟨O, oc, rfl, hown, hT2, hk2, hO⟩
  have b2 := hk2.blk B1.out (fun h => h (.inr rfl))
  have c2 := blk_cells b2
  have l2 := blk_lt b2
  have z2 := hk2.size
  have hs2 : w.heap.size < w2.heap.size := by simp at z2; omega
  have HG2 := Lib.hid (grantY aw2 rfl (hT2.less (Y := fun k => k < w.heap.size ∨ k = w1.heap.size) (fun k h => .inl h)) (fun k h => by rcases h with h | h <;> omega) (by simp))
  have B2 := Lib.hid b2
  have HB2 := Lib.hid (HB.out.trans (hk2.below (fun i h => Nat.not_lt.1 fun e => h (.inl e)) (by simp; omega)))
  clear hown hT2 hk2 hO b2
  go_wp2_with fail
  refine HG2.out.mono ?_
  rintro e w3 ⟨O2, oc2, rfl, hown, hT3, hk3, hO⟩
  obtain ⟨b, rfl, hcell⟩ := one_cell hown
  have b3 := hk3.blk B2.out (fun h => h (.inr rfl))
  have c3 := blk_cells b3
  have HB3 := Lib.hid (HB2.out.trans (hk3.below (fun i h => Nat.not_lt.1 fun e => h (.inl e)) (by omega)))
  have HT3 := Lib.hid hT3
  have s3 := hk3.size
  clear hown hT3 hk3 hO b3 c2
  go_wp2_with fail
  refine (hasX _ _ 2 1 0 1 _ _ _ _ HT3.out).mono ?_
  rintro e w4 ⟨rfl, h4⟩
  rw [show hasP 2 1 0 1 [⟨2, 1, 0, 1, 40⟩] = true from by decide]
  have HT4 := Lib.hid (HT3.out.below h4)
  have HB4 := Lib.hid (HB3.out.trans (h4.mono (by omega)))
  clear h4
  go_wp2_with fail
  refine (graceX _ _ 29 _ _ _ _ HT4.out).mono ?_
  rintro e w5 ⟨rfl, rfl⟩
  rw [show (!pastP 5 29 25) = true from by decide]
  go_wp2_with fail
  refine (graceX _ _ 30 _ _ _ _ HT4.out).mono ?_
  rintro e w6 ⟨rfl, rfl⟩
  rw [show (!pastP 5 30 25) = false from by decide]
  go_wp2
  go_ret
  exact ⟨rfl, HB4.out⟩
end Go.Proofs.Ytmfgkddndlleoaa
