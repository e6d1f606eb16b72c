/- awake. -/
import Derived.Test.YtcganoomgdabkaaDoorSlots2
set_option linter.unusedSimpArgs false
set_option linter.unusedVariables false
namespace Go.Proofs.YtcganoomgdabkaaDoor
open Go.RowKit

theorem eltB : Elt Tryd.prog 24 5 1 1 := by
  refine Elt.mk' (z := .int .u8 0) (by kernel_rfl) (by kernel_rfl) (by kernel_rfl) (by intro u hu; revert hu; decide +revert) (by decide)
theorem encode_yes {r : RW} {b : Str} (h : encP r = some b) (w : World) (hs : r.name.length ≤ 140737488351232) :
    Calls Tryd.prog 8 #[r.val] w fun e w' => ∃ g, e = .returned (.tuple #[.slice (some ⟨g, 0, none⟩) 32 32, .int .i64 0]) ∧ w'.ownsRow 0 5 1 (.slice (some ⟨g, 0, none⟩) 32 32) 32 (bv b) ∧ w.heap.size ≤ g ∧ Below w.heap.size w w' :=
  (encode_walk r w hs).mono fun e w' ⟨hb, h2⟩ => by rw [h] at h2; obtain ⟨g, he, ho, hg⟩ := h2; exact ⟨g, he, ho, hg, hb⟩
theorem encode_no {r : RW} (h : encP r = none) (w : World) (hs : r.name.length ≤ 140737488351232) :
    Calls Tryd.prog 8 #[r.val] w fun e w' => e = .returned (.tuple #[.slice none 0 0, .int .i64 2]) ∧ Below w.heap.size w w' :=
  (encode_walk r w hs).mono fun e w' ⟨hb, h2⟩ => by rw [h] at h2; exact ⟨h2, hb⟩
theorem slots_yes {A : Option Addr} {n c : Nat} {b : Str} {l : List RW} (h : slotsP b = some l) (w : World) (hs : Sl w 1 (.slice A n c) n (bv b)) (hn : n ≤ 140737488351232) (hc : c ≤ 9223372036854775807) :
    Calls Tryd.prog 14 #[.slice A n c] w fun e w' => ∃ A', e = .returned (.tuple #[.slice A' l.length l.length, .int .i64 0]) ∧ Sl w' 2 (.slice A' l.length l.length) l.length (rows l) ∧ Below w.heap.size w w' :=
  (slots_walk A n c b w hs hn hc).mono fun e w' ⟨hb, h2⟩ => by rw [h] at h2; obtain ⟨A', he, hs⟩ := h2; exact ⟨A', he, hs, hb⟩
theorem slots_no {A : Option Addr} {n c : Nat} {b : Str} (h : slotsP b = none) (w : World) (hs : Sl w 1 (.slice A n c) n (bv b)) (hn : n ≤ 140737488351232) (hc : c ≤ 9223372036854775807) :
    Calls Tryd.prog 14 #[.slice A n c] w fun e w' => e = .returned (.tuple #[.slice none 0 0, .int .i64 2]) ∧ Below w.heap.size w w' :=
  (slots_walk A n c b w hs hn hc).mono fun e w' ⟨hb, h2⟩ => by rw [h] at h2; exact ⟨h2, hb⟩
theorem own_cap {w : World} {base e size n c : Nat} {A : Option Addr} {xs : List Value} (h : w.ownsRow base e size (.slice A n c) n xs) : c ≤ 9223372036854775807 := by
  rcases h.2 with ⟨e, _⟩ | ⟨g, cap, cur, e, _, _, h1, h2, _⟩
  · injection e with _ _ e; omega
  · injection e with _ _ e
    simp only [maxLen] at h2
    omega
theorem bv_app (a b : Str) : bv (a ++ b) = bv a ++ bv b := by simp only [bv, List.map_append]
def ab : RW := ⟨[97, 98], 3⟩
theorem aw_enc : encP ab = some (encB ab) := by kernel_rfl
theorem aw_dec : decP (encB ab) = some ab := by kernel_rfl
theorem aw_slots : slotsP (List.replicate 32 0 ++ encB ab) = some [RW.none, ab] := by kernel_rfl
theorem aw_find : findP [RW.none, ab] [97, 98] = some 1 := by kernel_rfl
theorem aw_place : placeP [RW.none, ab] = 0 := by kernel_rfl
theorem aw_names : (namesP [RW.none, ab]).length = 1 := by unfold namesP; rw [sortS_length]; rfl
theorem aw_sound : soundP ab = true := by kernel_rfl
set_option maxRecDepth 100000 in
set_option maxHeartbeats 2000000 in
theorem awake_walk (w : World) : Calls Tryd.prog 13 #[] w fun e w' => e = .returned (.bool true) ∧ Below w.heap.size w w' := by
  have hmk := make32
  have HE := Lib.hid (encode_yes aw_enc w (by decide))
  unfold RW.val ab at HE
  go_enter Tryd.func13, Tryd.ntmps13
  go_wp2_with fail
  refine HE.out.mono ?_
  rintro e w1 ⟨g, rfl, ho1, hg1, hb1⟩
  have O1 := Lib.hid ho1
  have B1 := Lib.hid hb1
  have HD := Lib.hid (decode_yes aw_dec w1 (Sl.of_own ho1))
  clear ho1 hb1
  go_wp2_with fail
  refine HD.out.mono ?_
  rintro e w2 ⟨rfl, hb2⟩
  obtain ⟨w3, hw3⟩ : ∃ w3, w3 = w2.alloc (.cells #[.string ⟨#[97, 98]⟩, .int .i64 3] 23) := ⟨_, rfl⟩
  have hb3 : Below w2.heap.size w2 w3 := by rw [hw3]; exact (Below.refl _ w2).alloc (Nat.le_refl _) _
  have B3 := Lib.hid (bstep B1.out (bstep hb2 hb3))
  have O3 := Lib.hid (own_keep O1.out (Keep.of_below (S := fun _ => False) (bstep hb2 hb3)) (fun _ _ h => h))
  have X3 : Hid (w3.heap[w2.heap.size]? = some (.cells #[.string ⟨#[97, 98]⟩, .int .i64 3] 23 (0, 0))) := Lib.hid (by rw [hw3]; exact blk_new w2 _)
  clear hb2 hb3
  go_upto_region 3 with fail
  rw [← hw3]
  have hne : ∀ u ∈ bv (encB ab), u.oneCell' = true := bv_one _
  have HNE := Lib.hid hne
  clear hw3 hne
  go_wp2_with (at_builtin; go_must (refine wpList_app rfl eltB rfl rfl rfl (n := 32) (m := 32) (own32 w3) (Sl.of_own (own_keep O3.out ((Keep.refl (fun _ => False) _).alloc _) (fun _ _ h => h))) HNE.out (by decide) (by decide) ?_))
  intro v4 w4 g1 g2 g3 g4
  clear g4
  obtain ⟨A4, c4, rfl, _⟩ := Rd.of_own g1
  have k4 : Keep (fun k => w3.heap.size ≤ k) w3 w4 := (((Keep.refl (fun _ => False) w3).alloc (.cells Z32 5)).mono (fun _ _ h => h.elim)).trans g2 (fun i _ e => by rw [ownBlock_slice] at e; injection e with e; exact Nat.le_of_eq e)
  have b4 : Below w3.heap.size w3 w4 := k4.below (fun _ h => h) (Nat.le_refl _)
  have hg3 : g < w3.heap.size := own_lt O3.out rfl
  have g1' : w4.ownsRow 0 5 1 (.slice A4 64 c4) 64 (bv (List.replicate 32 0 ++ encB ab)) := by rw [bv_app]; exact g1
  have O4 := Lib.hid (own_keep O3.out (Keep.of_below (S := fun _ => False) b4) (fun _ _ h => h))
  have X4 := Lib.hid ((Keep.of_below (S := fun _ => False) b4).blk X3.out id)
  have B4 := Lib.hid (bstep B3.out b4)
  have HSL := Lib.hid (slots_yes aw_slots w4 (Sl.of_own g1') (by decide) (own_cap g1'))
  clear g1 g2 g3 k4 b4 g1'
  go_wp2_with fail
  refine HSL.out.mono ?_
  rintro e w5 ⟨A5, rfl, hs5, hb5⟩
  have O5 := Lib.hid (own_keep O4.out (Keep.of_below (S := fun _ => False) hb5) (fun _ _ h => h))
  have X5 := Lib.hid ((Keep.of_below (S := fun _ => False) hb5).blk X4.out id)
  have B5 := Lib.hid (bstep B4.out hb5)
  have S5 := Lib.hid hs5
  have HFI := Lib.hid (find_yes aw_find w5 hs5 (by decide))
  clear hb5 hs5
  go_wp2_with fail
  refine HFI.out.mono ?_
  rintro e w6 ⟨rfl, hb6⟩
  have O6 := Lib.hid (own_keep O5.out (Keep.of_below (S := fun _ => False) hb6) (fun _ _ h => h))
  have X6 := Lib.hid ((Keep.of_below (S := fun _ => False) hb6).blk X5.out id)
  have B6 := Lib.hid (bstep B5.out hb6)
  have S6 := Lib.hid (S5.out.below hb6)
  have HSO := Lib.hid (sound_walk ab w6 (by decide))
  rw [aw_sound] at HSO
  unfold RW.val ab at HSO
  obtain ⟨_, _, eg, _, cg⟩ := bv_at (Sl.of_own O6.out) (k := 0) (e := 2) rfl
  injection eg with eg
  injection eg with eg1 eg2 eg3
  subst eg1 eg2
  have cx := blk_cells X6.out
  have lx := blk_lt X6.out
  clear hb6 eg3
  go_wp2_with fail
  refine HSO.out.mono ?_
  rintro e w7 ⟨rfl, hb7⟩
  have B7 := Lib.hid (bstep B6.out hb7)
  have S7 := Lib.hid (S6.out.below hb7)
  have HPL := Lib.hid (place_walk A5 2 [RW.none, ab] w7 S7.out (by decide))
  rw [aw_place] at HPL
  clear hb7 cx lx cg
  go_wp2_with fail
  refine HPL.out.mono ?_
  rintro e w8 ⟨rfl, hb8⟩
  have B8 := Lib.hid (bstep B7.out hb8)
  have HNM := Lib.hid (names_walk A5 2 [RW.none, ab] w8 (S7.out.below hb8) (by decide))
  clear hb8
  go_wp2_with fail
  refine HNM.out.mono ?_
  rintro e w9 ⟨A9, c9, rfl, _, hb9⟩
  rw [aw_names]
  have B9 := Lib.hid (bstep B8.out hb9)
  clear hb9
  go_wp2
  go_ret
  exact ⟨rfl, B9.out⟩
end Go.Proofs.YtcganoomgdabkaaDoor
