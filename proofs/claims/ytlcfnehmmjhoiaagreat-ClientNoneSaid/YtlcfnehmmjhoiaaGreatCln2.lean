/- The law of clients: read, of a hello. -/
import Derived.Test.YtlcfnehmmjhoiaaGreatRfd
import Derived.Test.YtlcfnehmmjhoiaaGreatSetW
import Derived.Lib.ConvBytes
set_option linter.unusedSimpArgs false
set_option linter.unusedVariables false
namespace Go.Proofs.YtlcfnehmmjhoiaaGreat
open Go.RowKit

attribute [local go_sem ↓] Go.wp_at_zero Go.wp_at_succ
/-- The frame of the hello of seat 2 in its first life. -/
def helB : List UInt8 := [81, 46, 0, 1, 0, 0, 0, 2, 0, 0, 0, 1, 0, 0, 0, 0, 0, 0, 0, 0, 0, 0, 0, 0, 0, 0, 0, 0, 0, 0, 0, 0, 0, 0, 0, 0, 0, 0, 0, 0, 0, 0, 0, 0, 0, 0, 0, 0, 0, 173, 105, 254, 65]
theorem hel_enc : encP [1, 2, 1, 0, 0, 0, 0, 0, 0, 0] ⟨#[]⟩ ⟨#[]⟩ = helB := by decide +kernel
theorem hel_ref : rframeP 81 (numsP [1, 2, 1, 0, 0, 0, 0, 0, 0, 0] ++ [0, 0] ++ [0, 0] ++ [0, 0]) = helB := by decide +kernel
theorem hel_len : helB.length = 53 := by decide +kernel
theorem bw_below (w : World) (e : TypeId) (s : ByteArray) : Below w.heap.size w (Lib.bytesWorld w e s) := ⟨rfl, rfl, rfl, by rw [Lib.bytesWorld_size]; omega, fun k hk => Lib.bytesWorld_at_old w e s k hk⟩
def numAt (s : List UInt8) (i : Nat) : Nat := (s.getD i 0).toNat + 256 * (s.getD (i + 1) 0).toNat + 65536 * (s.getD (i + 2) 0).toNat + 16777216 * (s.getD (i + 3) 0).toNat
theorem lnum_at (s : List UInt8) (i : Nat) (hl : s.length ≤ 1000000) (hi : i + 3 < s.length) (w : World) : Calls Tryz.prog 51 #[.string ⟨s.toArray⟩, .int .i64 (i : Int)] w fun e w' => e = .returned (.int .i64 ((numAt s i : Nat) : Int)) ∧ Below w.heap.size w w' := by
  have g : ∀ j, j < s.length → s[j]? = some (s.getD j 0) := fun j hj => by rw [List.getD_eq_getElem?_getD, List.getElem?_eq_getElem hj]; rfl
  exact lnum_walk s i _ _ _ _ hl (g i (by omega)) (g (i + 1) (by omega)) (g (i + 2) (by omega)) (g (i + 3) hi) w
theorem ltext_hel (w : World) (i : Nat) (hi : i + 2 ≤ 53) (h0 : helB[i]? = some 0) (h1 : helB[i+1]? = some 0) : Calls Tryz.prog 52 #[.string ⟨helB.toArray⟩, .int .i64 (i : Int)] w fun e w' => e = .returned (.tuple #[.string ⟨#[]⟩, .int .i64 ((i + 2 : Nat) : Int)]) ∧ Below w.heap.size w w' := by
  have h := ltext_walk helB i 0 0 0 (by rw [hel_len]; decide) h0 h1 rfl (by rw [hel_len]; omega) w
  simpa using h
/-- The hello as a value, with empty data. -/
@[reducible] def helV (D : Value) : Value := .agg #[.int .i64 1, .int .i64 2, .int .i64 1, .int .i64 0, .int .i64 0, .string ⟨#[]⟩, .string ⟨#[]⟩, .int .i64 0, .int .i64 0, .int .i64 0, .int .i64 0, .int .i64 0, D]
set_option maxRecDepth 100000 in
set_option maxHeartbeats 4000000 in
theorem lread_hel (w : World) : Calls Tryz.prog 28 #[.string ⟨helB.toArray⟩] w fun e w' => (∃ A c, e = .returned (.tuple #[helV (.slice A 0 c), .bool true])) ∧ Below w.heap.size w w' := by
  obtain ⟨s, hs⟩ : ∃ s, s = helB := ⟨_, rfl⟩
  rw [← hs]
  have hl : s.length = 53 := by rw [hs]; exact hel_len
  have hp : 0 < (⟨s.toArray⟩ : ByteArray).size := by rw [ba_size, hl]; decide
  have x0 : (⟨s.toArray⟩ : ByteArray)[0]'hp = 81 := str_at (by rw [hs]; rfl)
  have N3 : Hid (∀ w0 W, Below w0.heap.size w0 W → Calls Tryz.prog 51 #[.string ⟨s.toArray⟩, .int .i64 3] W fun e w' => e = .returned (.int .i64 1) ∧ Below w0.heap.size w0 w') := Lib.hid (fun w0 W hW => (lnum_at s 3 (by omega) (by omega) W).mono (fun e w' q => ⟨by rw [q.1, hs]; rfl, hW.trans (q.2.mono hW.size)⟩))
  have N7 : Hid (∀ w0 W, Below w0.heap.size w0 W → Calls Tryz.prog 51 #[.string ⟨s.toArray⟩, .int .i64 7] W fun e w' => e = .returned (.int .i64 2) ∧ Below w0.heap.size w0 w') := Lib.hid (fun w0 W hW => (lnum_at s 7 (by omega) (by omega) W).mono (fun e w' q => ⟨by rw [q.1, hs]; rfl, hW.trans (q.2.mono hW.size)⟩))
  have N11 : Hid (∀ w0 W, Below w0.heap.size w0 W → Calls Tryz.prog 51 #[.string ⟨s.toArray⟩, .int .i64 11] W fun e w' => e = .returned (.int .i64 1) ∧ Below w0.heap.size w0 w') := Lib.hid (fun w0 W hW => (lnum_at s 11 (by omega) (by omega) W).mono (fun e w' q => ⟨by rw [q.1, hs]; rfl, hW.trans (q.2.mono hW.size)⟩))
  have N15 : Hid (∀ w0 W, Below w0.heap.size w0 W → Calls Tryz.prog 51 #[.string ⟨s.toArray⟩, .int .i64 15] W fun e w' => e = .returned (.int .i64 0) ∧ Below w0.heap.size w0 w') := Lib.hid (fun w0 W hW => (lnum_at s 15 (by omega) (by omega) W).mono (fun e w' q => ⟨by rw [q.1, hs]; rfl, hW.trans (q.2.mono hW.size)⟩))
  have N19 : Hid (∀ w0 W, Below w0.heap.size w0 W → Calls Tryz.prog 51 #[.string ⟨s.toArray⟩, .int .i64 19] W fun e w' => e = .returned (.int .i64 0) ∧ Below w0.heap.size w0 w') := Lib.hid (fun w0 W hW => (lnum_at s 19 (by omega) (by omega) W).mono (fun e w' q => ⟨by rw [q.1, hs]; rfl, hW.trans (q.2.mono hW.size)⟩))
  have N31 : Hid (∀ w0 W, Below w0.heap.size w0 W → Calls Tryz.prog 51 #[.string ⟨s.toArray⟩, .int .i64 31] W fun e w' => e = .returned (.int .i64 0) ∧ Below w0.heap.size w0 w') := Lib.hid (fun w0 W hW => (lnum_at s 31 (by omega) (by omega) W).mono (fun e w' q => ⟨by rw [q.1, hs]; rfl, hW.trans (q.2.mono hW.size)⟩))
  have N35 : Hid (∀ w0 W, Below w0.heap.size w0 W → Calls Tryz.prog 51 #[.string ⟨s.toArray⟩, .int .i64 35] W fun e w' => e = .returned (.int .i64 0) ∧ Below w0.heap.size w0 w') := Lib.hid (fun w0 W hW => (lnum_at s 35 (by omega) (by omega) W).mono (fun e w' q => ⟨by rw [q.1, hs]; rfl, hW.trans (q.2.mono hW.size)⟩))
  have N39 : Hid (∀ w0 W, Below w0.heap.size w0 W → Calls Tryz.prog 51 #[.string ⟨s.toArray⟩, .int .i64 39] W fun e w' => e = .returned (.int .i64 0) ∧ Below w0.heap.size w0 w') := Lib.hid (fun w0 W hW => (lnum_at s 39 (by omega) (by omega) W).mono (fun e w' q => ⟨by rw [q.1, hs]; rfl, hW.trans (q.2.mono hW.size)⟩))
  have N23 : Hid (∀ w0 W, Below w0.heap.size w0 W → Calls Tryz.prog 51 #[.string ⟨s.toArray⟩, .int .i64 23] W fun e w' => e = .returned (.int .i64 0) ∧ Below w0.heap.size w0 w') := Lib.hid (fun w0 W hW => (lnum_at s 23 (by omega) (by omega) W).mono (fun e w' q => ⟨by rw [q.1, hs]; rfl, hW.trans (q.2.mono hW.size)⟩))
  have N27 : Hid (∀ w0 W, Below w0.heap.size w0 W → Calls Tryz.prog 51 #[.string ⟨s.toArray⟩, .int .i64 27] W fun e w' => e = .returned (.int .i64 0) ∧ Below w0.heap.size w0 w') := Lib.hid (fun w0 W hW => (lnum_at s 27 (by omega) (by omega) W).mono (fun e w' q => ⟨by rw [q.1, hs]; rfl, hW.trans (q.2.mono hW.size)⟩))
  have T43 : Hid (∀ w0 W, Below w0.heap.size w0 W → Calls Tryz.prog 52 #[.string ⟨s.toArray⟩, .int .i64 43] W fun e w' => e = .returned (.tuple #[.string ⟨#[]⟩, .int .i64 45]) ∧ Below w0.heap.size w0 w') := Lib.hid (fun w0 W hW => by
    have h := ltext_hel W 43 (by decide) rfl rfl
    rw [← hs] at h
    exact h.mono (fun e w' q => ⟨q.1, hW.trans (q.2.mono hW.size)⟩))
  have T45 : Hid (∀ w0 W, Below w0.heap.size w0 W → Calls Tryz.prog 52 #[.string ⟨s.toArray⟩, .int .i64 45] W fun e w' => e = .returned (.tuple #[.string ⟨#[]⟩, .int .i64 47]) ∧ Below w0.heap.size w0 w') := Lib.hid (fun w0 W hW => by
    have h := ltext_hel W 45 (by decide) rfl rfl
    rw [← hs] at h
    exact h.mono (fun e w' q => ⟨q.1, hW.trans (q.2.mono hW.size)⟩))
  have T47 : Hid (∀ w0 W, Below w0.heap.size w0 W → Calls Tryz.prog 52 #[.string ⟨s.toArray⟩, .int .i64 47] W fun e w' => e = .returned (.tuple #[.string ⟨#[]⟩, .int .i64 49]) ∧ Below w0.heap.size w0 w') := Lib.hid (fun w0 W hW => by
    have h := ltext_hel W 47 (by decide) rfl rfl
    rw [← hs] at h
    exact h.mono (fun e w' q => ⟨q.1, hW.trans (q.2.mono hW.size)⟩))
  have RE : Hid (∀ (A : Option Addr) (c : Nat) W, Below w.heap.size w W → Sl W 1 (.slice A 0 c) 0 (bv []) → Calls Tryz.prog 53 #[helV (.slice A 0 c)] W fun e w' => e = .returned (.tuple #[.string ⟨s.toArray⟩, .int .i64 0]) ∧ Below W.heap.size W w') := Lib.hid (fun A c W hW hD => (renc_hello 2 1 0 0 (by decide) (by decide) (by decide) (by decide) [1, 2, 1, 0, 0, 0, 0, 0, 0, 0] rfl (by decide) A c W hD).mono (fun e w' q => ⟨by rw [q.1, hs, hel_ref], q.2⟩))
  have HS := Lib.hid hs
  have hsz := ba_size s
  have g1 : ¬ (s.length : Int) < 53 := by omega
  clear hs hl
  go_enter Tryz.func28, Tryz.ntmps28
  go_wp2_with fail
  obtain ⟨w0, hw0⟩ : ∃ w0, w0 = w.alloc (.cells #[.int .i64 0, .int .i64 0, .int .i64 0, .int .i64 0, .int .i64 0, .string ⟨#[]⟩, .string ⟨#[]⟩, .int .i64 0, .int .i64 0, .int .i64 0, .int .i64 0, .int .i64 0, .slice none 0 0] 58) := ⟨_, rfl⟩
  have hb0 := blk_new w (.cells #[.int .i64 0, .int .i64 0, .int .i64 0, .int .i64 0, .int .i64 0, .string ⟨#[]⟩, .string ⟨#[]⟩, .int .i64 0, .int .i64 0, .int .i64 0, .int .i64 0, .int .i64 0, .slice none 0 0] 58)
  have hbe0 := (Below.refl w.heap.size w).alloc (Nat.le_refl _) (.cells #[.int .i64 0, .int .i64 0, .int .i64 0, .int .i64 0, .int .i64 0, .string ⟨#[]⟩, .string ⟨#[]⟩, .int .i64 0, .int .i64 0, .int .i64 0, .int .i64 0, .int .i64 0, .slice none 0 0] 58)
  rw [← hw0] at hb0 hbe0 ⊢
  have HB0 := Lib.hid hb0
  have HBE0 := Lib.hid hbe0
  have HB := Lib.hid (Below.refl w0.heap.size w0)
  clear hw0 hb0 hbe0
  with_reducible refine (N3.out _ _ HB.out).mono ?_
  rintro e W0 ⟨rfl, hb⟩
  have HB := Lib.hid hb
  clear hb
  go_wp2_with fail
  with_reducible refine (N7.out _ _ HB.out).mono ?_
  rintro e W1 ⟨rfl, hb⟩
  have HB := Lib.hid hb
  clear hb
  go_wp2_with fail
  with_reducible refine (N11.out _ _ HB.out).mono ?_
  rintro e W2 ⟨rfl, hb⟩
  have HB := Lib.hid hb
  clear hb
  go_wp2_with fail
  with_reducible refine (N15.out _ _ HB.out).mono ?_
  rintro e W3 ⟨rfl, hb⟩
  have HB := Lib.hid hb
  clear hb
  go_wp2_with fail
  with_reducible refine (N19.out _ _ HB.out).mono ?_
  rintro e W4 ⟨rfl, hb⟩
  have HB := Lib.hid hb
  clear hb
  go_wp2_with fail
  with_reducible refine (N31.out _ _ HB.out).mono ?_
  rintro e W5 ⟨rfl, hb⟩
  have HB := Lib.hid hb
  clear hb
  go_wp2_with fail
  with_reducible refine (N35.out _ _ HB.out).mono ?_
  rintro e W6 ⟨rfl, hb⟩
  have HB := Lib.hid hb
  clear hb
  go_wp2_with fail
  with_reducible refine (N39.out _ _ HB.out).mono ?_
  rintro e W7 ⟨rfl, hb⟩
  have HB := Lib.hid hb
  clear hb
  go_wp2_with fail
  obtain ⟨w1, hw1⟩ : ∃ w1, w1 = W7.alloc (.cells #[.int .i64 1, .int .i64 2, .int .i64 1, .int .i64 0, .int .i64 0, .string ⟨#[]⟩, .string ⟨#[]⟩, .int .i64 0, .int .i64 0, .int .i64 0, .int .i64 0, .int .i64 0, .slice none 0 0] 58) := ⟨_, rfl⟩
  have hbz := blk_old ((Keep.of_below (S := fun _ => False) HB.out).blk HB0.out id) (.cells #[.int .i64 1, .int .i64 2, .int .i64 1, .int .i64 0, .int .i64 0, .string ⟨#[]⟩, .string ⟨#[]⟩, .int .i64 0, .int .i64 0, .int .i64 0, .int .i64 0, .int .i64 0, .slice none 0 0] 58)
  have hbv := blk_new W7 (.cells #[.int .i64 1, .int .i64 2, .int .i64 1, .int .i64 0, .int .i64 0, .string ⟨#[]⟩, .string ⟨#[]⟩, .int .i64 0, .int .i64 0, .int .i64 0, .int .i64 0, .int .i64 0, .slice none 0 0] 58)
  have hbe1 := (bstep HBE0.out HB.out).alloc (bstep HBE0.out HB.out).size (.cells #[.int .i64 1, .int .i64 2, .int .i64 1, .int .i64 0, .int .i64 0, .string ⟨#[]⟩, .string ⟨#[]⟩, .int .i64 0, .int .i64 0, .int .i64 0, .int .i64 0, .int .i64 0, .slice none 0 0] 58)
  have hpl : w.heap.size < W7.heap.size := Nat.lt_of_lt_of_le (blk_lt HB0.out) HB.out.size
  rw [← hw1] at hbz hbv hbe1 ⊢
  obtain ⟨P, hP⟩ : ∃ P, P = W7.heap.size := ⟨_, rfl⟩
  rw [← hP] at hbv hpl ⊢
  have HBZ := Lib.hid hbz
  have HBV := Lib.hid hbv
  have HBE1 := Lib.hid hbe1
  have HB := Lib.hid (Below.refl w1.heap.size w1)
  clear hw1 hbz hbv hbe1 hP
  with_reducible refine (N23.out _ _ HB.out).mono ?_
  rintro e W8 ⟨rfl, hb⟩
  have HB := Lib.hid hb
  clear hb
  go_wp2_with fail
  with_reducible refine (N27.out _ _ HB.out).mono ?_
  rintro e W9 ⟨rfl, hb⟩
  have HB := Lib.hid hb
  clear hb
  have hbz := (Keep.of_below (S := fun _ => False) HB.out).blk HBZ.out id
  have hbv := (Keep.of_below (S := fun _ => False) HB.out).blk HBV.out id
  have HZ9 := Lib.hid hbz
  have HV9 := Lib.hid hbv
  have HBE9 := Lib.hid (bstep HBE1.out HB.out)
  have cv := blk_cells hbv
  have fv := blk_frees hbv
  clear hbz hbv
  go_wp2_with fail
  obtain ⟨w2, hw2⟩ : ∃ w2, w2 = (W9.setCell ⟨P, 7, none⟩ (.int .i64 0)).setCell ⟨P, 8, none⟩ (.int .i64 0) := ⟨_, rfl⟩
  have hbv := blk_set (j := 8) (blk_set (j := 7) HV9.out (.int .i64 0)) (.int .i64 0)
  have hbz : ((W9.setCell ⟨P, 7, none⟩ (.int .i64 0)).setCell ⟨P, 8, none⟩ (.int .i64 0)).heap[w.heap.size]? = _ := (blk_set_ne (a := ⟨P, 8, none⟩) _ (by show w.heap.size ≠ P; omega)).trans ((blk_set_ne (a := ⟨P, 7, none⟩) _ (by show w.heap.size ≠ P; omega)).trans HZ9.out)
  have hbe : Below w.heap.size w ((W9.setCell ⟨P, 7, none⟩ (.int .i64 0)).setCell ⟨P, 8, none⟩ (.int .i64 0)) := (HBE9.out.setCell (p := ⟨P, 7, none⟩) (Nat.le_of_lt hpl) _).setCell (p := ⟨P, 8, none⟩) (Nat.le_of_lt hpl) _
  rw [← hw2] at hbv hbz hbe ⊢
  have HBZ := Lib.hid hbz
  have HBV := Lib.hid hbv
  have HBE2 := Lib.hid hbe
  have HB := Lib.hid (Below.refl w2.heap.size w2)
  clear hw2 hbz hbv hbe cv fv
  with_reducible refine (T43.out _ _ HB.out).mono ?_
  rintro e V0 ⟨rfl, hb⟩
  have HB := Lib.hid hb
  clear hb
  go_wp2_with fail
  with_reducible refine (T45.out _ _ HB.out).mono ?_
  rintro e V1 ⟨rfl, hb⟩
  have HB := Lib.hid hb
  clear hb
  go_wp2_with fail
  with_reducible refine (T47.out _ _ HB.out).mono ?_
  rintro e V2 ⟨rfl, hb⟩
  have HB := Lib.hid hb
  clear hb
  have hbz := (Keep.of_below (S := fun _ => False) HB.out).blk HBZ.out id
  have hbv := (Keep.of_below (S := fun _ => False) HB.out).blk HBV.out id
  have HZ3 := Lib.hid hbz
  have HV3 := Lib.hid hbv
  have HBE3 := Lib.hid (bstep HBE2.out HB.out)
  clear hbz hbv
  have kc0 := Lib.run_convert_string_bytes (P := Tryz.prog) V2 9 30 5 ⟨#[]⟩ Tryz.underlying9 Tryz.underlying30 Tryz.underlying5
  obtain ⟨c0, hc0⟩ : ∃ c0, c0 = grownCap V2 (⟨#[]⟩ : ByteArray).size 0 5 := ⟨_, rfl⟩
  obtain ⟨V3, hV3⟩ : ∃ V3, V3 = Lib.bytesWorld V2 5 ⟨#[]⟩ := ⟨_, rfl⟩
  have hb3 := bw_below V2 5 ⟨#[]⟩
  rw [← hc0, ← hV3] at kc0
  rw [← hV3] at hb3
  have kc : (convert 9 30 (.string ⟨#[]⟩)).run Tryz.prog V2 = .ok (.slice (some ⟨V2.heap.size, 0, none⟩) 0 c0) V3 := kc0
  have hbz := (Keep.of_below (S := fun _ => False) hb3).blk HZ3.out id
  have hbv := (Keep.of_below (S := fun _ => False) hb3).blk HV3.out id
  have HZ4 := Lib.hid hbz
  have HV4 := Lib.hid hbv
  have HBE4 := Lib.hid (bstep HBE3.out hb3)
  have cv := blk_cells hbv
  have fv := blk_frees hbv
  obtain ⟨Q, hQ⟩ : ∃ Q, Q = V2.heap.size := ⟨_, rfl⟩
  rw [← hQ] at kc
  clear hbz hbv hc0 hV3 hb3 kc0 hQ
  go_wp2_with fail
  obtain ⟨W10, hW10⟩ : ∃ W10, W10 = ((V3.setCell ⟨P, 5, none⟩ (.string ⟨#[]⟩)).setCell ⟨P, 6, none⟩ (.string ⟨#[]⟩)).setCell ⟨P, 12, none⟩ (.slice (some ⟨Q, 0, none⟩) 0 c0) := ⟨_, rfl⟩
  have hbv := blk_set (j := 12) (blk_set (j := 6) (blk_set (j := 5) HV4.out (.string ⟨#[]⟩)) (.string ⟨#[]⟩)) (.slice (some ⟨Q, 0, none⟩) 0 c0)
  have hbz := ((Keep.refl (fun k => k = P) V3).setCell (p := ⟨P, 5, none⟩) (fun _ => rfl) (.string ⟨#[]⟩)).setCell (p := ⟨P, 6, none⟩) (fun _ => rfl) (.string ⟨#[]⟩) |>.setCell (p := ⟨P, 12, none⟩) (fun _ => rfl) (.slice (some ⟨Q, 0, none⟩) 0 c0)
  rw [← hW10] at hbv hbz ⊢
  have HZ5 := Lib.hid (hbz.blk HZ4.out (by omega))
  have HV5 := Lib.hid hbv
  have HBE5 := Lib.hid (HBE4.out.trans (hbz.below (B := w.heap.size) (fun i e => by omega) HBE4.out.size))
  have HRE := Lib.hid (RE.out (some ⟨Q, 0, none⟩) c0 W10 HBE5.out ⟨some ⟨Q, 0, none⟩, c0, rfl, .inl rfl, (fun e => by cases e), Nat.zero_le _, rfl⟩)
  clear hW10 hbv hbz cv fv kc
  with_reducible refine (HRE.out).mono ?_
  rintro e W11 ⟨rfl, hb⟩
  have hbz := (Keep.of_below (S := fun _ => False) hb).blk HZ5.out id
  have hbv := (Keep.of_below (S := fun _ => False) hb).blk HV5.out id
  have HBE6 := Lib.hid (bstep HBE5.out hb)
  have cv : ∀ j, W11.cell? ⟨P, j, none⟩ = (#[.int .i64 1, .int .i64 2, .int .i64 1, .int .i64 0, .int .i64 0, .string ⟨#[]⟩, .string ⟨#[]⟩, .int .i64 0, .int .i64 0, .int .i64 0, .int .i64 0, .int .i64 0, .slice (some ⟨Q, 0, none⟩) 0 c0] : Array Value)[j]? := blk_cells hbv
  have cz := blk_cells hbz
  have fz := blk_frees hbz
  have HZ6 := Lib.hid hbz
  clear hbz hbv hb
  go_wp2_with fail
  obtain ⟨W12, hW12⟩ : ∃ W12, W12 = setW W11 w.heap.size 0 [.int .i64 1, .int .i64 2, .int .i64 1, .int .i64 0, .int .i64 0, .string ⟨#[]⟩, .string ⟨#[]⟩, .int .i64 0, .int .i64 0, .int .i64 0, .int .i64 0, .int .i64 0, .slice (some ⟨Q, 0, none⟩) 0 c0] := ⟨_, rfl⟩
  have hz := setW_all HZ6.out [.int .i64 1, .int .i64 2, .int .i64 1, .int .i64 0, .int .i64 0, .string ⟨#[]⟩, .string ⟨#[]⟩, .int .i64 0, .int .i64 0, .int .i64 0, .int .i64 0, .int .i64 0, .slice (some ⟨Q, 0, none⟩) 0 c0] rfl
  have hk := setW_keep (k := w.heap.size) [.int .i64 1, .int .i64 2, .int .i64 1, .int .i64 0, .int .i64 0, .string ⟨#[]⟩, .string ⟨#[]⟩, .int .i64 0, .int .i64 0, .int .i64 0, .int .i64 0, .int .i64 0, .slice (some ⟨Q, 0, none⟩) 0 c0] 0 W11
  rw [← hW12] at hz hk
  show bodyPost _ _ _ _ _ (setW W11 w.heap.size 0 [.int .i64 1, .int .i64 2, .int .i64 1, .int .i64 0, .int .i64 0, .string ⟨#[]⟩, .string ⟨#[]⟩, .int .i64 0, .int .i64 0, .int .i64 0, .int .i64 0, .int .i64 0, .slice (some ⟨Q, 0, none⟩) 0 c0])
  rw [← hW12]
  clear cv cz fz hW12
  have HE := Lib.hid (HBE6.out.trans (hk.below (B := w.heap.size) (fun i e => by omega) HBE6.out.size))
  have hc : ∀ j, W12.cell? ⟨w.heap.size, j, none⟩ = (#[.int .i64 1, .int .i64 2, .int .i64 1, .int .i64 0, .int .i64 0, .string ⟨#[]⟩, .string ⟨#[]⟩, .int .i64 0, .int .i64 0, .int .i64 0, .int .i64 0, .int .i64 0, .slice (some ⟨Q, 0, none⟩) 0 c0] : Array Value)[j]? := blk_cells hz
  refine bodyPost_ret (v := .tuple #[helV (.slice (some ⟨Q, 0, none⟩) 0 c0), .bool true]) (by simp [results, Tryz.results28, go_sem, hc]; try rfl) rfl ⟨⟨_, _, rfl⟩, HE.out⟩
end Go.Proofs.YtlcfnehmmjhoiaaGreat
