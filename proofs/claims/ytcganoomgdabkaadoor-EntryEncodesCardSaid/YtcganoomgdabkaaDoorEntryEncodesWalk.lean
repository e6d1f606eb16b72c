/- EntryEncodes: the walk. -/
import Derived.Test.YtcganoomgdabkaaDoorEntryW
import Derived.Deep.DeepCutAuto
import Derived.Deep.CutBlock
set_option linter.unusedSimpArgs false
set_option linter.unusedVariables false
namespace Go.Proofs.YtcganoomgdabkaaDoor.lawEntryEncodes
open Go.RowKit

theorem rencode_no {r : RW} (h : encP r = none) (w : World) (hs : r.name.length ≤ 140737488351232) :
    Calls Tryd.prog 9 #[r.val] w fun e w' => e = .returned (.tuple #[.string ⟨#[]⟩, .int .i64 2]) ∧ Below w.heap.size w w' :=
  (rencode_walk r w hs).mono fun e w' ⟨hb, he⟩ => by rw [h] at he; exact ⟨he, hb⟩
theorem rencode_yes {r : RW} {b : Str} (h : encP r = some b) (w : World) (hs : r.name.length ≤ 140737488351232) :
    Calls Tryd.prog 9 #[r.val] w fun e w' => e = .returned (.tuple #[.string ⟨b.toArray⟩, .int .i64 0]) ∧ Below w.heap.size w w' :=
  (rencode_walk r w hs).mono fun e w' ⟨hb, he⟩ => by rw [h] at he; exact ⟨he, hb⟩
theorem dec_len {b : Str} {s : Str} {m : Int} (h : decP b = some ⟨s, m⟩) : s.length ≤ 24 := by
  have h2 := h
  unfold decP at h2
  split at h2
  · rename_i hh
    injection h2 with h2
    have : s = (rawR b).name := by rw [h2]
    rw [this]
    simp only [rawR, List.length_take]
    omega
  · cases h2
/-- What stands behind the first test. -/
def Mid (r : RW) (w : World) (wx : World) : Prop := Below w.heap.size w wx ∧ wx.heap[w.heap.size]? = some (.cells #[.string ⟨r.name.toArray⟩, .int .i64 r.node] 23 (0, 0))
set_option maxRecDepth 100000 in
set_option maxHeartbeats 4000000 in
theorem walk (s : Str) (n : Int) (A : Option Addr) (nb c : Nat) (b : Str) (w : World) (hs : s.length ≤ 140737488351232) (hb : Sl w 1 (.slice A nb c) nb (bv b)) :
    Calls Tryd.prog 3 #[.agg #[.string ⟨s.toArray⟩, .int .i64 n], .slice A nb c] w fun e w' => e = .returned (.bool true) ∧ Below w.heap.size w w' := by
  have HSB := Lib.hid hb
  obtain ⟨w0, hw0⟩ : ∃ w0, w0 = w.alloc (.cells #[.string ⟨s.toArray⟩, .int .i64 n] 23) := ⟨_, rfl⟩
  have k0 : Below w.heap.size w w0 := by rw [hw0]; exact (Below.refl _ w).alloc (Nat.le_refl _) _
  have x0 : w0.heap[w.heap.size]? = some (.cells #[.string ⟨s.toArray⟩, .int .i64 n] 23 (0, 0)) := by rw [hw0]; exact blk_new w _
  have HW := Lib.hid hw0
  have B0 := Lib.hid k0
  have X0 := Lib.hid x0
  have c0 := blk_cells x0
  have l0 := blk_lt x0
  clear hb hw0 k0 x0
  cases he : encP ⟨s, n⟩ with
  | none =>
    have HE := Lib.hid (encode_no he w0 hs)
    unfold RW.val at HE
    have HRE := Lib.hid (fun w => rencode_no he w hs)
    unfold RW.val at HRE
    clear he
    go_enter Tryd.func3, Tryd.ntmps3
    go_upto_region 1 with fail
    rw [← HW.out]
    go_wp2_with fail
    refine HE.out.mono ?_
    rintro e w1 ⟨rfl, hb1⟩
    have B1 := Lib.hid (bstep B0.out hb1)
    have X1 := Lib.hid ((Keep.of_below (S := fun _ => False) hb1).blk X0.out id)
    have c1 := blk_cells X1.out
    have l1 := blk_lt X1.out
    clear hb1 c0
    go_wp2_with fail
    refine (HRE.out _).mono ?_
    rintro e w2 ⟨rfl, hb2⟩
    have B2 := Lib.hid (bstep B1.out hb2)
    have X2 := Lib.hid ((Keep.of_below (S := fun _ => False) hb2).blk X1.out id)
    have c2 := blk_cells X2.out
    have l2 := blk_lt X2.out
    have kc := fun W => run_conv_bytes (P := Tryd.prog) W Tryd.underlying24 Tryd.underlying5 Tryd.underlying9 (v := .slice none 0 0) (n := 0) (d := []) ⟨none, 0, rfl, .inl rfl, fun _ => ⟨rfl, rfl⟩, Nat.le_refl _, rfl⟩
    have HSV := Lib.hid (fun w' (k : Below w2.heap.size w2 w') => (⟨(k.cell (p := ⟨w.heap.size, 0, none⟩) l2).trans ((c2 0).trans rfl), (k.cell (p := ⟨w.heap.size, 1, none⟩) l2).trans ((c2 1).trans rfl)⟩ : w'.cell? ⟨w.heap.size, 0, none⟩ = some (.string ⟨s.toArray⟩) ∧ w'.cell? ⟨w.heap.size, 1, none⟩ = some (.int .i64 n)))
    have HBL := Lib.hid (fun w' (k : Below w2.heap.size w2 w') => (⟨bstep B2.out k, (Keep.of_below (S := fun _ => False) k).blk X2.out id⟩ : Mid ⟨s, n⟩ w w'))
    have K0 : Hid (Below w2.heap.size w2 w2.drew) := Lib.hid (Below.refl _ _).drew
    have HSO := Lib.hid (fun w => sound_walk ⟨s, n⟩ w hs)
    have HRS := Lib.hid (fun w => rsound_walk ⟨s, n⟩ w)
    unfold RW.val at HSO HRS
    dsimp only at HSO HRS
    obtain ⟨q, hq⟩ : ∃ q, q = soundP ⟨s, n⟩ := ⟨_, rfl⟩
    rw [← hq] at HSO HRS
    clear hb2 c1 hq
    go_upto_region 3 with fail
    go_cut [40] (fun v wx => v = .bool false ∧ Mid ⟨s, n⟩ w wx)
    case first =>
      go_region_held3 (fun w' => w'.cell? ⟨w.heap.size, 0, none⟩ = some (.string ⟨s.toArray⟩) ∧ w'.cell? ⟨w.heap.size, 1, none⟩ = some (.int .i64 n)) (first | exact HSV.out _ KB.out | exact HSV.out _ KA.out | exact HSV.out _ K0.out)
        (first
          | (go_at_call 10; ((with_reducible refine (HSO.out _).mono ?_); rintro e wA ⟨rfl, hA⟩); first | have KA := Lib.hid (bstep KB.out hA) | have KA := Lib.hid (bstep K0.out hA))
          | (go_at_call 11; ((with_reducible refine (HRS.out _).mono ?_); rintro e wB ⟨rfl, hB⟩); first | have KB := Lib.hid (bstep KA.out hB) | have KB := Lib.hid (bstep K0.out hB)))
      all_goals
        go_wp2_with fail
        go_meet
        case rel => exact ⟨by simp, by first | exact HBL.out _ (bstep KA.out (bstep KB.out (Below.refl _ _))) | exact HBL.out _ KA.out | exact HBL.out _ KB.out⟩
    case rest =>
      obtain ⟨rfl, hB3, hX3⟩ := hcut
      obtain ⟨WV, rfl⟩ : ∃ WV : World, WV = wc := ⟨_, rfl⟩
      have BV := Lib.hid hB3
      clear hB3 hX3
      cases hd : decP b with
      | none =>
        have HDB := Lib.hid (decode_no hd WV (HSB.out.below BV.out))
        clear hd
        go_wp2_with fail
        refine HDB.out.mono ?_
        rintro e w7 ⟨rfl, hb7⟩
        obtain ⟨w8, hw8⟩ : ∃ w8, w8 = w7.alloc (.cells #[.string ⟨#[]⟩, .int .i64 0] 23) := ⟨_, rfl⟩
        have hb8 : Below w7.heap.size w7 w8 := by rw [hw8]; exact (Below.refl _ w7).alloc (Nat.le_refl _) _
        have X8 : w8.heap[w7.heap.size]? = some (.cells #[.string ⟨#[]⟩, .int .i64 0] 23 (0, 0)) := by rw [hw8]; exact blk_new w7 _
        have HX8 := Lib.hid X8
        have B8 := Lib.hid (bstep BV.out (bstep hb7 hb8))
        have HW8 := Lib.hid hw8
        clear hb7 hb8 hw8 X8
        go_upto_region 11 with fail
        rw [← HW8.out]
        go_wp2_with fail
        refine (awake_walk w8).mono ?_
        rintro e w9 ⟨rfl, hb9⟩
        have B9 := Lib.hid (bstep B8.out hb9)
        have X9 := (Keep.of_below (S := fun _ => False) hb9).blk HX8.out id
        have c9 := blk_cells X9
        have l9 := blk_lt X9
        clear hb9 X9
        go_wp2
        go_ret
        exact ⟨rfl, B9.out⟩
      | some rr =>
        obtain ⟨rs, rn⟩ := rr
        have HDB := Lib.hid (decode_yes hd WV (HSB.out.below BV.out))
        obtain ⟨hen, hlb⟩ := decP_enc hd
        have hrs : (⟨rs, rn⟩ : RW).name.length ≤ 140737488351232 := Nat.le_trans (dec_len hd) (by decide)
        have HRB := Lib.hid (fun w => rencode_yes hen w hrs)
        unfold RW.val at HRB
        clear hd hen hlb hrs
        go_wp2_with fail
        refine HDB.out.mono ?_
        rintro e w7 ⟨rfl, hb7⟩
        have B7 := Lib.hid (bstep BV.out (bstep hb7 ((Below.refl _ w7).alloc (Nat.le_refl _) (.cells #[.string ⟨rs.toArray⟩, .int .i64 rn] 23))))
        clear hb7
        go_wp2_with fail
        refine (HRB.out _).mono ?_
        rintro e w8 ⟨rfl, hb8⟩
        have B8 := Lib.hid (bstep B7.out hb8)
        clear hb8
        go_wp2_with fail
        refine (awake_walk w8).mono ?_
        rintro e w9 ⟨rfl, hb9⟩
        have B9 := Lib.hid (bstep B8.out hb9)
        have kc9 := run_conv_bytes (P := Tryd.prog) w9 Tryd.underlying24 Tryd.underlying5 Tryd.underlying9 (HSB.out.below B9.out)
        clear hb9
        go_wp2
        go_ret
        exact ⟨rfl, B9.out⟩
  | some a =>
    have HE := Lib.hid (encode_yes he w0 hs)
    unfold RW.val at HE
    have HRE := Lib.hid (fun w => rencode_yes he w hs)
    unfold RW.val at HRE
    have HED := Lib.hid (enc_dec he)
    clear he
    go_enter Tryd.func3, Tryd.ntmps3
    go_upto_region 1 with fail
    rw [← HW.out]
    go_wp2_with fail
    refine HE.out.mono ?_
    rintro e w1 ⟨g, rfl, ho1, hg1, hb1⟩
    have B1 := Lib.hid (bstep B0.out hb1)
    have X1 := Lib.hid ((Keep.of_below (S := fun _ => False) hb1).blk X0.out id)
    have c1 := blk_cells X1.out
    have l1 := blk_lt X1.out
    have O1 := Lib.hid ho1
    clear hb1 c0
    go_wp2_with fail
    refine (HRE.out _).mono ?_
    rintro e w2 ⟨rfl, hb2⟩
    have B2 := Lib.hid (bstep B1.out hb2)
    have X2 := Lib.hid ((Keep.of_below (S := fun _ => False) hb2).blk X1.out id)
    have c2 := blk_cells X2.out
    have l2 := blk_lt X2.out
    have O2 := Lib.hid (own_keep O1.out (Keep.of_below (S := fun _ => False) hb2) (fun _ _ h => h))
    have HSV := Lib.hid (fun w' (k : Below w2.heap.size w2 w') => (⟨(k.cell (p := ⟨w.heap.size, 0, none⟩) l2).trans ((c2 0).trans rfl), (k.cell (p := ⟨w.heap.size, 1, none⟩) l2).trans ((c2 1).trans rfl), run_conv_bytes (P := Tryd.prog) w' Tryd.underlying24 Tryd.underlying5 Tryd.underlying9 (Sl.of_own (own_keep O2.out (Keep.of_below (S := fun _ => False) k) (fun _ _ h => h)))⟩ : w'.cell? ⟨w.heap.size, 0, none⟩ = some (.string ⟨s.toArray⟩) ∧ w'.cell? ⟨w.heap.size, 1, none⟩ = some (.int .i64 n) ∧ (convert 24 9 (.slice (some ⟨g, 0, none⟩) 32 32)).run Tryd.prog w' = .ok (.string ⟨a.toArray⟩) w'))
    have HBL := Lib.hid (fun w' (k : Below w2.heap.size w2 w') => (⟨⟨bstep B2.out k, (Keep.of_below (S := fun _ => False) k).blk X2.out id⟩, own_keep O2.out (Keep.of_below (S := fun _ => False) k) (fun _ _ h => h)⟩ : Mid ⟨s, n⟩ w w' ∧ w'.ownsRow 0 5 1 (.slice (some ⟨g, 0, none⟩) 32 32) 32 (bv a)))
    have K0 : Hid (Below w2.heap.size w2 w2.drew) := Lib.hid (Below.refl _ _).drew
    have HSO := Lib.hid (fun w => sound_walk ⟨s, n⟩ w hs)
    have HRS := Lib.hid (fun w => rsound_walk ⟨s, n⟩ w)
    unfold RW.val at HSO HRS
    dsimp only at HSO HRS
    obtain ⟨q, hq⟩ : ∃ q, q = soundP ⟨s, n⟩ := ⟨_, rfl⟩
    rw [← hq] at HSO HRS
    clear hb2 c1 hq
    go_upto_region 3 with fail
    go_cut [40] (fun v wx => v = .bool false ∧ (Mid ⟨s, n⟩ w wx ∧ wx.ownsRow 0 5 1 (.slice (some ⟨g, 0, none⟩) 32 32) 32 (bv a)))
    case first =>
      go_region_held3 (fun w' => w'.cell? ⟨w.heap.size, 0, none⟩ = some (.string ⟨s.toArray⟩) ∧ w'.cell? ⟨w.heap.size, 1, none⟩ = some (.int .i64 n) ∧ (convert 24 9 (.slice (some ⟨g, 0, none⟩) 32 32)).run Tryd.prog w' = .ok (.string ⟨a.toArray⟩) w') (first | exact HSV.out _ KB.out | exact HSV.out _ KA.out | exact HSV.out _ K0.out)
        (first
          | (go_at_call 10; ((with_reducible refine (HSO.out _).mono ?_); rintro e wA ⟨rfl, hA⟩); first | have KA := Lib.hid (bstep KB.out hA) | have KA := Lib.hid (bstep K0.out hA))
          | (go_at_call 11; ((with_reducible refine (HRS.out _).mono ?_); rintro e wB ⟨rfl, hB⟩); first | have KB := Lib.hid (bstep KA.out hB) | have KB := Lib.hid (bstep K0.out hB)))
      all_goals
        go_wp2_with fail
        go_meet
        case rel => exact ⟨by simp, by first | exact HBL.out _ (bstep KA.out (bstep KB.out (Below.refl _ _))) | exact HBL.out _ KA.out | exact HBL.out _ KB.out⟩
    case rest =>
      obtain ⟨rfl, ⟨hB3, hX3⟩, hO3⟩ := hcut
      have HDX := Lib.hid (decode_yes HED.out wc (Sl.of_own hO3))
      have B3 := Lib.hid hB3
      have HX3 := Lib.hid hX3
      clear hO3 hB3 hX3
      go_wp2_with fail
      refine HDX.out.mono ?_
      rintro e w4 ⟨rfl, hb4⟩
      obtain ⟨w5, hw5⟩ : ∃ w5, w5 = w4.alloc (.cells #[.string ⟨s.toArray⟩, .int .i64 n] 23) := ⟨_, rfl⟩
      have hb5 : Below w4.heap.size w4 w5 := by rw [hw5]; exact (Below.refl _ w4).alloc (Nat.le_refl _) _
      have X5 : w5.heap[w4.heap.size]? = some (.cells #[.string ⟨s.toArray⟩, .int .i64 n] 23 (0, 0)) := by rw [hw5]; exact blk_new w4 _
      have Y5 := (Keep.of_below (S := fun _ => False) (bstep hb4 hb5)).blk HX3.out id
      have BV := Lib.hid (bstep B3.out (bstep hb4 hb5))
      have c5 := blk_cells X5
      have l5 := blk_lt X5
      have d5 := blk_cells Y5
      have m5 := blk_lt Y5
      have HW5 := Lib.hid hw5
      clear hb4 hb5 hw5 X5 Y5
      go_upto_region 7 with fail
      rw [← HW5.out]
      go_upto_region 9 with fail
      clear c5 d5 l5 m5
      obtain ⟨WV, rfl⟩ : ∃ WV : World, WV = w5 := ⟨_, rfl⟩
      cases hd : decP b with
      | none =>
        have HDB := Lib.hid (decode_no hd WV (HSB.out.below BV.out))
        clear hd
        go_wp2_with fail
        refine HDB.out.mono ?_
        rintro e w7 ⟨rfl, hb7⟩
        obtain ⟨w8, hw8⟩ : ∃ w8, w8 = w7.alloc (.cells #[.string ⟨#[]⟩, .int .i64 0] 23) := ⟨_, rfl⟩
        have hb8 : Below w7.heap.size w7 w8 := by rw [hw8]; exact (Below.refl _ w7).alloc (Nat.le_refl _) _
        have X8 : w8.heap[w7.heap.size]? = some (.cells #[.string ⟨#[]⟩, .int .i64 0] 23 (0, 0)) := by rw [hw8]; exact blk_new w7 _
        have HX8 := Lib.hid X8
        have B8 := Lib.hid (bstep BV.out (bstep hb7 hb8))
        have HW8 := Lib.hid hw8
        clear hb7 hb8 hw8 X8
        go_upto_region 11 with fail
        rw [← HW8.out]
        go_wp2_with fail
        refine (awake_walk w8).mono ?_
        rintro e w9 ⟨rfl, hb9⟩
        have B9 := Lib.hid (bstep B8.out hb9)
        have X9 := (Keep.of_below (S := fun _ => False) hb9).blk HX8.out id
        have c9 := blk_cells X9
        have l9 := blk_lt X9
        clear hb9 X9
        go_wp2
        go_ret
        exact ⟨rfl, B9.out⟩
      | some rr =>
        obtain ⟨rs, rn⟩ := rr
        have HDB := Lib.hid (decode_yes hd WV (HSB.out.below BV.out))
        obtain ⟨hen, hlb⟩ := decP_enc hd
        have hrs : (⟨rs, rn⟩ : RW).name.length ≤ 140737488351232 := Nat.le_trans (dec_len hd) (by decide)
        have HRB := Lib.hid (fun w => rencode_yes hen w hrs)
        unfold RW.val at HRB
        clear hd hen hlb hrs
        go_wp2_with fail
        refine HDB.out.mono ?_
        rintro e w7 ⟨rfl, hb7⟩
        have B7 := Lib.hid (bstep BV.out (bstep hb7 ((Below.refl _ w7).alloc (Nat.le_refl _) (.cells #[.string ⟨rs.toArray⟩, .int .i64 rn] 23))))
        clear hb7
        go_wp2_with fail
        refine (HRB.out _).mono ?_
        rintro e w8 ⟨rfl, hb8⟩
        have B8 := Lib.hid (bstep B7.out hb8)
        clear hb8
        go_wp2_with fail
        refine (awake_walk w8).mono ?_
        rintro e w9 ⟨rfl, hb9⟩
        have B9 := Lib.hid (bstep B8.out hb9)
        have kc9 := run_conv_bytes (P := Tryd.prog) w9 Tryd.underlying24 Tryd.underlying5 Tryd.underlying9 (HSB.out.below B9.out)
        clear hb9
        go_wp2
        go_ret
        exact ⟨rfl, B9.out⟩
end Go.Proofs.YtcganoomgdabkaaDoor.lawEntryEncodes
