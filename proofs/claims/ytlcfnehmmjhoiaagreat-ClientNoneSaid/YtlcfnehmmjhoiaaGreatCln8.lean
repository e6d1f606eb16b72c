/- Package client: the small methods, and those of no client. -/
import Derived.Test.YtlcfnehmmjhoiaaGreatCln7
set_option linter.unusedSimpArgs false
set_option linter.unusedVariables false
namespace Go.Proofs.YtlcfnehmmjhoiaaGreat
open Go.RowKit

attribute [local go_sem ↓] Go.wp_at_zero Go.wp_at_succ
theorem result_none (k : Nat) (s l q e : Int) (gr : Bool) (L C : Value) (p : Int) (F O : Value) (w : World) (hk : w.heap[k]? = some (.cells (clC s l q e gr L C (.pointer none) p F O) 56 (0, 0))) :
    Calls Tryz.prog 10 #[.pointer (some ⟨k, 0, none⟩)] w fun r w' => r = .returned (.tuple #[.agg #[.int .i64 0, .int .i64 0, .int .i64 0, .int .i64 0, .slice none 0 0, .slice none 0 0], .bool false]) ∧ Below w.heap.size w w' := by
  have hb := blk_new w (.cells #[.int .i64 0, .int .i64 0, .int .i64 0, .int .i64 0, .slice none 0 0, .slice none 0 0] 42)
  have c15 := ((Keep.refl (fun _ => False) w).alloc (.cells #[.int .i64 0, .int .i64 0, .int .i64 0, .int .i64 0, .slice none 0 0, .slice none 0 0] 42)).cell (show w.cell? ⟨k, 15, none⟩ = some (.pointer none) from (blk_cells hk 15).trans rfl) id
  clear hk
  go_enter Tryz.func10, Tryz.ntmps10
  go_wp2
  exact bodyPost_ret (v := .tuple #[.agg #[.int .i64 0, .int .i64 0, .int .i64 0, .int .i64 0, .slice none 0 0, .slice none 0 0], .bool false]) (by simp [results, Tryz.results10, go_sem]; try rfl) rfl ⟨rfl, (Below.refl w.heap.size w).alloc (Nat.le_refl _) _⟩
theorem result_nil (w : World) :
    Calls Tryz.prog 10 #[.pointer none] w fun r w' => r = .returned (.tuple #[.agg #[.int .i64 0, .int .i64 0, .int .i64 0, .int .i64 0, .slice none 0 0, .slice none 0 0], .bool false]) ∧ Below w.heap.size w w' := by
  go_enter Tryz.func10, Tryz.ntmps10
  go_wp2
  exact bodyPost_ret (v := .tuple #[.agg #[.int .i64 0, .int .i64 0, .int .i64 0, .int .i64 0, .slice none 0 0, .slice none 0 0], .bool false]) (by simp [results, Tryz.results10, go_sem]; try rfl) rfl ⟨rfl, (Below.refl w.heap.size w).alloc (Nat.le_refl _) _⟩
theorem busy_yes (k x : Nat) (s l q e : Int) (gr : Bool) (L R : Value) (p : Int) (F O : Value) (w : World) (hk : w.heap[k]? = some (.cells (clC s l q e gr L (.pointer (some ⟨x, 0, none⟩)) R p F O) 56 (0, 0))) :
    Calls Tryz.prog 11 #[.pointer (some ⟨k, 0, none⟩)] w fun r w' => r = .returned (.bool true) ∧ w' = w := by
  have c14 : w.cell? ⟨k, 14, none⟩ = some (.pointer (some ⟨x, 0, none⟩)) := (blk_cells hk 14).trans rfl
  clear hk
  go_enter Tryz.func11, Tryz.ntmps11
  go_wp2
  go_ret
  exact ⟨rfl, rfl⟩
theorem busy_nil (w : World) : Calls Tryz.prog 11 #[.pointer none] w fun r w' => r = .returned (.bool false) ∧ w' = w := by
  go_enter Tryz.func11, Tryz.ntmps11
  go_wp2
  go_ret
  exact ⟨rfl, rfl⟩
theorem holds_nil (n : Int) (w : World) : Calls Tryz.prog 12 #[.pointer none, .int .i64 n] w fun r w' => r = .returned (.slice none 0 0) ∧ w' = w := by
  go_enter Tryz.func12, Tryz.ntmps12
  go_wp2
  go_ret
  exact ⟨rfl, rfl⟩
theorem dirty_nil (a b : Int) (w : World) : Calls Tryz.prog 13 #[.pointer none, .agg #[.int .i64 a, .int .i64 b]] w fun r w' => r = .returned (.int .i64 0) ∧ Below w.heap.size w w' := by
  go_enter Tryz.func13, Tryz.ntmps13
  go_wp2
  go_ret
  exact ⟨rfl, (Below.refl w.heap.size w).alloc (Nat.le_refl _) _⟩
theorem tick_nil (n : Int) (w : World) : Calls Tryz.prog 9 #[.pointer none, .int .i64 n] w fun r w' => r = .returned (.slice none 0 0) ∧ w' = w := by
  go_enter Tryz.func9, Tryz.ntmps9
  go_wp2
  go_ret
  exact ⟨rfl, rfl⟩
theorem call_nil (k f a z : Int) (p o : ByteArray) (D : Option Addr) (dn dc : Nat) (n : Int) (w : World) : Calls Tryz.prog 7 #[.pointer none, .agg #[.int .i64 k, .string p, .string o, .int .i64 f, .int .i64 a, .int .i64 z, .slice D dn dc], .int .i64 n] w fun r w' => r = .returned (.tuple #[.slice none 0 0, .int .i64 1]) ∧ Below w.heap.size w w' := by
  go_enter Tryz.func7, Tryz.ntmps7
  go_wp2
  go_ret2
  exact ⟨rfl, (Below.refl w.heap.size w).alloc (Nat.le_refl _) _⟩
theorem letter_nil (f t : Int) (D : Option Addr) (dn dc : Nat) (n : Int) (w : World) : Calls Tryz.prog 8 #[.pointer none, .agg #[.int .i64 f, .int .i64 t, .slice D dn dc], .int .i64 n] w fun r w' => r = .returned (.slice none 0 0) ∧ Below w.heap.size w w' := by
  have HB := Lib.hid ((Below.refl w.heap.size w).alloc (Nat.le_refl _) (.cells #[.int .i64 f, .int .i64 t, .slice D dn dc] 35))
  go_enter Tryz.func8, Tryz.ntmps8
  go_upto_region 1 with fail
  go_quiet (fail)
  go_wp2
  go_ret
  exact ⟨rfl, ((Keep.of_below (S := fun _ => False) HB.out).drewN nq).to_below⟩
theorem hel_E (W : World) : Calls Tryz.prog 49 #[.agg #[.int .i64 1, .int .i64 2, .int .i64 1, .int .i64 0, .int .i64 0, .string ⟨#[]⟩, .string ⟨#[]⟩, .int .i64 0, .int .i64 0, .int .i64 0, .int .i64 0, .int .i64 0, .slice none 0 0]] W (TextP W.heap.size [] helB W) := by
  have h := enc_walk 1 2 1 0 0 ⟨#[]⟩ ⟨#[]⟩ 0 0 0 0 0 [1, 2, 1, 0, 0, 0, 0, 0, 0, 0] rfl (by decide) (by decide) (by decide) W (fun W => good_walk 1 2 1 0 0 ⟨#[]⟩ ⟨#[]⟩ 0 0 0 0 0 (by decide) (by decide) (by decide) (by decide) (by decide) (by decide) (by decide) (by decide) (by decide) (by decide) W (fun W => own_hello 2 1 0 0 W))
  rw [hel_enc] at h
  exact h
set_option maxRecDepth 100000 in
set_option maxHeartbeats 8000000 in
theorem awake_walk (w : World) : Calls Tryz.prog 6 #[] w fun r w' => r = .returned (.bool true) ∧ Below w.heap.size w w' := by
  obtain ⟨k, hkk⟩ : ∃ k, k = w.heap.size := ⟨_, rfl⟩
  obtain ⟨w1, hw1⟩ : ∃ w1, w1 = w.alloc (.cells (clC 2 1 0 0 false (.slice none 0 0) (.pointer none) (.pointer none) 0 (.pointer none) (.slice none 0 0)) 56) := ⟨_, rfl⟩
  have hk1 := blk_new w (.cells (clC 2 1 0 0 false (.slice none 0 0) (.pointer none) (.pointer none) 0 (.pointer none) (.slice none 0 0)) 56)
  have hb1 := (Below.refl w.heap.size w).alloc (Nat.le_refl _) (.cells (clC 2 1 0 0 false (.slice none 0 0) (.pointer none) (.pointer none) 0 (.pointer none) (.slice none 0 0)) 56)
  have HNW := Lib.hid (cnew_ok 2 1 0 (by decide) (by decide) w)
  rw [← hw1] at hk1 hb1 HNW
  rw [← hkk] at hk1 HNW
  have HKB : Hid (w.heap.size ≤ k) := Lib.hid (by omega)
  have HB1 := Lib.hid hb1
  have HCA := Lib.hid (call_stat k 2 1 0 0 (.slice none 0 0) 0 (by decide) 5 helB w1 hk1 hel_E)
  clear hw1 hk1 hb1 hkk
  go_enter Tryz.func6, Tryz.ntmps6
  go_wp2_with fail
  refine HNW.out.mono ?_
  rintro r w' ⟨rfl, hw'⟩
  subst hw'
  go_wp2_with fail
  refine HCA.out.mono ?_
  rintro r w2 ⟨fl, OA, oc, xb, rfl, hfl, hk2, hf2, hl2, hb2, hxb, DA, dc, hx2⟩
  obtain ⟨A, hs3, hnb⟩ := hl2.sl
  rw [hel_len] at hs3 hnb
  have HPA := Lib.hid (lparse_hel OA 1 A 53 w2 hs3 (by have := hnb.sl; rw [hel_len] at this; exact this))
  have HK2 := Lib.hid hk2
  have HF2 := Lib.hid hf2
  have HB2 := Lib.hid (HB1.out.trans (hb2.below (B := w.heap.size) (fun i e => by have := HKB.out; omega) HB1.out.size))
  have HFLB : Hid (w.heap.size ≤ fl) := Lib.hid (Nat.le_trans HB1.out.size hfl)
  clear hk2 hf2 hl2 hb2 hxb hx2 hs3 hnb hfl
  go_wp2_with fail
  refine HPA.out.mono ?_
  rintro r w3 ⟨⟨VA, vc, rfl⟩, h3⟩
  have HK3 := Lib.hid ((Keep.of_below (S := fun _ => False) h3).blk HK2.out id)
  have HF3 := Lib.hid ((Keep.of_below (S := fun _ => False) h3).blk HF2.out id)
  have HB3 := Lib.hid (bstep HB2.out h3)
  clear h3
  obtain ⟨w4, hw4⟩ : ∃ w4, w4 = w3.alloc (.cells #[.int .i64 1, .int .i64 2, .int .i64 1, .int .i64 0, .int .i64 0, .string ⟨#[]⟩, .string ⟨#[]⟩, .int .i64 0, .int .i64 0, .int .i64 0, .int .i64 0, .int .i64 0, .slice VA 0 vc] 58) := ⟨_, rfl⟩
  have hv4 := blk_new w3 (.cells #[.int .i64 1, .int .i64 2, .int .i64 1, .int .i64 0, .int .i64 0, .string ⟨#[]⟩, .string ⟨#[]⟩, .int .i64 0, .int .i64 0, .int .i64 0, .int .i64 0, .int .i64 0, .slice VA 0 vc] 58)
  have hb4 := (Below.refl w3.heap.size w3).alloc (Nat.le_refl _) (.cells #[.int .i64 1, .int .i64 2, .int .i64 1, .int .i64 0, .int .i64 0, .string ⟨#[]⟩, .string ⟨#[]⟩, .int .i64 0, .int .i64 0, .int .i64 0, .int .i64 0, .int .i64 0, .slice VA 0 vc] 58)
  rw [← hw4] at hv4 hb4
  have HK4 := Lib.hid ((Keep.of_below (S := fun _ => False) hb4).blk HK3.out id)
  have HF4 := Lib.hid ((Keep.of_below (S := fun _ => False) hb4).blk HF3.out id)
  have HB4 := Lib.hid (bstep HB3.out hb4)
  have HV4 := Lib.hid hv4
  have HW4 := Lib.hid hw4
  clear hw4 hv4 hb4
  go_wp2_with fail
  rw [← HW4.out]
  refine (result_none _ _ _ _ _ _ _ _ _ _ _ w4 HK4.out).mono ?_
  rintro r w5 ⟨rfl, h5⟩
  have HK5 := Lib.hid ((Keep.of_below (S := fun _ => False) h5).blk HK4.out id)
  have HF5 := Lib.hid ((Keep.of_below (S := fun _ => False) h5).blk HF4.out id)
  have HV5 := Lib.hid ((Keep.of_below (S := fun _ => False) h5).blk HV4.out id)
  have HB5 := Lib.hid (bstep HB4.out h5)
  clear h5
  obtain ⟨w6, hw6⟩ : ∃ w6, w6 = w5.alloc (.cells #[.int .i64 0, .int .i64 0, .int .i64 0, .int .i64 0, .slice none 0 0, .slice none 0 0] 42) := ⟨_, rfl⟩
  have hb6 := (Below.refl w5.heap.size w5).alloc (Nat.le_refl _) (.cells #[.int .i64 0, .int .i64 0, .int .i64 0, .int .i64 0, .slice none 0 0, .slice none 0 0] 42)
  rw [← hw6] at hb6
  have HK6 := Lib.hid ((Keep.of_below (S := fun _ => False) hb6).blk HK5.out id)
  have HF6 := Lib.hid ((Keep.of_below (S := fun _ => False) hb6).blk HF5.out id)
  have hv6 := (Keep.of_below (S := fun _ => False) hb6).blk HV5.out id
  have HB6 := Lib.hid (bstep HB5.out hb6)
  have HW6 := Lib.hid hw6
  have cv := blk_cells hv6
  clear hw6 hb6 hv6
  go_wp2_with fail
  rw [← HW6.out]
  refine (busy_yes _ _ _ _ _ _ _ _ _ _ _ _ w6 HK6.out).mono ?_
  rintro r w7 ⟨rfl, hw7⟩
  subst hw7
  go_wp2_with fail
  refine (tick_not k fl 2 1 0 0 false _ _ _ 0 6 _ _ _ _ _ _ _ _ _ _ _ _ _ _ _ w7 HK6.out HF6.out (by decide) (by decide)).mono ?_
  rintro r w8 ⟨rfl, hk8, hb8⟩
  have HK8 := Lib.hid hk8
  have HNE : Hid (fl ≠ k) := Lib.hid (fun h => by have := HF6.out; subst h; exact blk_ne this HK6.out (by decide) rfl)
  have HF8 := Lib.hid (hb8.blk HF6.out HNE.out)
  have HB8 := Lib.hid (HB6.out.trans (hb8.below (B := w.heap.size) (fun i e => by have := HKB.out; omega) HB6.out.size))
  clear hk8 hb8 cv
  go_wp2_with fail
  refine (tick_again k fl 2 1 0 0 false _ _ _ 0 8 _ (by decide) _ _ _ _ _ _ _ _ _ _ _ _ _ _ helB w8 HK8.out HF8.out hel_E (by decide) (by decide)).mono ?_
  rintro r w9 ⟨OB, ob, rfl, hk9, hf9, hl9, hb9⟩
  have HB9 := Lib.hid (HB8.out.trans (hb9.below (B := w.heap.size) (fun i e => by
    rcases e with e | e
    · have := HKB.out; omega
    · have := HFLB.out; omega) HB8.out.size))
  clear hk9 hf9 hl9 hb9
  go_wp2
  go_ret
  exact ⟨rfl, HB9.out⟩
end Go.Proofs.YtlcfnehmmjhoiaaGreat
