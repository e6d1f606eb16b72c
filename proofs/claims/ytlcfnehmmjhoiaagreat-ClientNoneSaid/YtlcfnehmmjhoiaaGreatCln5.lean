/- Package client: flush, send. -/
import Derived.Test.YtlcfnehmmjhoiaaGreatCln4
set_option linter.unusedSimpArgs false
set_option linter.unusedVariables false
namespace Go.Proofs.YtlcfnehmmjhoiaaGreat
open Go.RowKit

attribute [local go_sem ↓] Go.wp_at_zero Go.wp_at_succ
theorem clipl_walk (A : Option Addr) (n c : Nat) (w : World) (h : n ≤ c) (hA : A = none → n = 0 ∧ c = 0) (hn : n ≤ 1000000000) : Calls Tryz.prog 33 #[.slice A n c] w fun e w' => e = .returned (.slice A n n) ∧ w' = w := by
  cases A with
  | none =>
    obtain ⟨h1, rfl⟩ := hA rfl
    rw [h1]
    clear h hA hn
    go_enter Tryz.func33, Tryz.ntmps33
    go_wp2
    go_ret
    exact ⟨rfl, rfl⟩
  | some ad =>
    have i0 : (0 : Int) ≤ (n : Int) := by omega
    have i1 : (n : Int) ≤ (c : Int) := by omega
    have hr : ∀ w, (Instr.slice 22 (.slice (some ad) n c) none (some (.int .i64 (n : Int))) (some (.int .i64 (n : Int)))).run Tryz.prog w = .ok (.slice (some ad) n n) w := by
      intro w
      simp [go_sem, i0, i1]
    go_enter Tryz.func33, Tryz.ntmps33
    go_wp2
    go_ret
    exact ⟨rfl, rfl⟩
/-- What goes: at most so many letters. -/
theorem flush_walk (k : Nat) (s l q e : Int) (gr : Bool) (L C R : Value) (p : Int) (F : Value) (A : Option Addr) (n c : Nat) (w : World) (hk : w.heap[k]? = some (.cells (clC s l q e gr L C R p F (.slice A n c)) 56 (0, 0))) (h : n ≤ c) (hA : A = none → n = 0 ∧ c = 0) (hn : n ≤ 1000000000) :
    Calls Tryz.prog 18 #[.pointer (some ⟨k, 0, none⟩)] w fun r w' => r = .returned (.slice A n n) ∧ w'.heap[k]? = some (.cells (clC s l q e gr L C R p F (.slice none 0 0)) 56 (0, 0)) ∧ Keep (fun j => j = k) w w' := by
  have HC := Lib.hid (clipl_walk A n c w h hA hn)
  have c18 : w.cell? ⟨k, 18, none⟩ = some (.slice A n c) := (blk_cells hk 18).trans rfl
  have f18 := blk_frees hk 18
  have HK := Lib.hid hk
  clear hk h hA hn
  go_enter Tryz.func18, Tryz.ntmps18
  go_wp2_with fail
  refine HC.out.mono ?_
  rintro r w1 ⟨rfl, hw1⟩
  subst hw1
  go_wp2
  go_ret
  exact ⟨rfl, blk_set HK.out _, (Keep.refl (fun j => j = k) w1).setCell (p := ⟨k, 18, none⟩) (fun _ => rfl) _⟩
/-- Behind send: a request is on the way, and one letter is to go. -/
def SnP (k : Nat) (s l q2 e : Int) (gr : Bool) (L C R : Value) (p : Int) (kind : Int) (pa ot : ByteArray) (nd gn a z m n : Int) (E : List UInt8) (w : World) (r : Ending) (w' : World) : Prop :=
  ∃ fl OA oc, r = .returned (.tuple #[]) ∧ w.heap.size ≤ fl ∧ w'.heap[k]? = some (.cells (clC s l q2 e gr L C R p (.pointer (some ⟨fl, 0, none⟩)) (.slice OA 1 oc)) 56 (0, 0)) ∧
    w'.heap[fl]? = some (.cells #[.int .i64 kind, .int .i64 s, .int .i64 l, .int .i64 q2, .int .i64 e, .string pa, .string ot, .int .i64 nd, .int .i64 gn, .int .i64 a, .int .i64 z, .int .i64 m, .slice none 0 0, .int .i64 (clkP n), .int .i64 (clkP n)] 79 (0, 0)) ∧ LtR w.heap.size w' s E OA oc ∧ Keep (fun j => j = k) w w'
set_option maxRecDepth 100000 in
set_option maxHeartbeats 4000000 in
theorem send_walk (k : Nat) (s l q q2 e : Int) (gr : Bool) (L C R : Value) (p : Int) (hs : 0 ≤ s ∧ s ≤ 7) (kind : Int) (pa ot : ByteArray) (nd gn a z m n : Int) (hq : (kind = 1 ∧ q2 = q) ∨ (kind ≠ 1 ∧ q2 = q + 1 ∧ 0 ≤ q ∧ q ≤ 1073741824)) (E : List UInt8) (w : World)
    (hk : w.heap[k]? = some (.cells (clC s l q e gr L C R p (.pointer none) (.slice none 0 0)) 56 (0, 0)))
    (hE : ∀ W, Calls Tryz.prog 49 #[.agg #[.int .i64 kind, .int .i64 s, .int .i64 l, .int .i64 q2, .int .i64 e, .string pa, .string ot, .int .i64 nd, .int .i64 gn, .int .i64 a, .int .i64 z, .int .i64 m, .slice none 0 0]] W (TextP W.heap.size [] E W)) :
    Calls Tryz.prog 29 #[.pointer (some ⟨k, 0, none⟩), .agg #[.int .i64 kind, .int .i64 0, .int .i64 0, .int .i64 0, .int .i64 0, .string pa, .string ot, .int .i64 nd, .int .i64 gn, .int .i64 a, .int .i64 z, .int .i64 m, .slice none 0 0], .int .i64 n] w (SnP k s l q2 e gr L C R p kind pa ot nd gn a z m n E w) := by
  have HE := Lib.hid hE
  have HAG := Lib.hid hs
  obtain ⟨w1, hw1⟩ : ∃ w1, w1 = w.alloc (.cells #[.int .i64 kind, .int .i64 0, .int .i64 0, .int .i64 0, .int .i64 0, .string pa, .string ot, .int .i64 nd, .int .i64 gn, .int .i64 a, .int .i64 z, .int .i64 m, .slice none 0 0] 58) := ⟨_, rfl⟩
  have hv1 := blk_new w (.cells #[.int .i64 kind, .int .i64 0, .int .i64 0, .int .i64 0, .int .i64 0, .string pa, .string ot, .int .i64 nd, .int .i64 gn, .int .i64 a, .int .i64 z, .int .i64 m, .slice none 0 0] 58)
  have hk1 := blk_old hk (.cells #[.int .i64 kind, .int .i64 0, .int .i64 0, .int .i64 0, .int .i64 0, .string pa, .string ot, .int .i64 nd, .int .i64 gn, .int .i64 a, .int .i64 z, .int .i64 m, .slice none 0 0] 58)
  have hb1 := (Below.refl w.heap.size w).alloc (Nat.le_refl _) (.cells #[.int .i64 kind, .int .i64 0, .int .i64 0, .int .i64 0, .int .i64 0, .string pa, .string ot, .int .i64 nd, .int .i64 gn, .int .i64 a, .int .i64 z, .int .i64 m, .slice none 0 0] 58)
  rw [← hw1] at hv1 hk1 hb1
  have hkw := blk_lt hk
  have HV1 := Lib.hid hv1
  have HK1 := Lib.hid hk1
  have HB1 := Lib.hid hb1
  have HW1 := Lib.hid hw1
  have HKW := Lib.hid hkw
  obtain ⟨w2, hk2, hv2, hb2, hgo⟩ : ∃ w2 : World, w2.heap[k]? = some (.cells (clC s l q2 e gr L C R p (.pointer none) (.slice none 0 0)) 56 (0, 0)) ∧ w2.heap[w.heap.size]? = some (.cells #[.int .i64 kind, .int .i64 0, .int .i64 0, .int .i64 0, .int .i64 0, .string pa, .string ot, .int .i64 nd, .int .i64 gn, .int .i64 a, .int .i64 z, .int .i64 m, .slice none 0 0] 58 (0, 0)) ∧ Keep (fun j => j = k) w w2 ∧ ((kind = 1 ∧ w2 = w1) ∨ (kind ≠ 1 ∧ w2 = w1.setCell ⟨k, 2, none⟩ (.int .i64 q2))) := by
    rcases hq with ⟨h1, h2⟩ | ⟨h1, h2, _, _⟩
    · subst h2
      exact ⟨w1, hk1, hv1, Keep.of_below hb1, .inl ⟨h1, rfl⟩⟩
    · refine ⟨w1.setCell ⟨k, 2, none⟩ (.int .i64 q2), blk_set hk1 _, (blk_set_ne (a := ⟨k, 2, none⟩) _ (show w.heap.size ≠ k by omega)).trans hv1, (Keep.of_below (S := fun j => j = k) hb1).trans ((Keep.refl (fun j => j = k) w1).setCell (p := ⟨k, 2, none⟩) (fun _ => rfl) _) (fun _ _ h => h), .inr ⟨h1, rfl⟩⟩
  have HGO := Lib.hid hgo
  have HK2 := Lib.hid hk2
  have HV2 := Lib.hid hv2
  have HB2 := Lib.hid hb2
  have HQ := Lib.hid hq
  clear hE hs hk hv1 hk1 hb1 hkw hgo hk2 hv2 hb2 hw1
  have cv1 := blk_cells HV1.out
  have ck1 := blk_cells HK1.out
  have fk1 := blk_frees HK1.out
  rcases HGO.out with ⟨h1, hw⟩ | ⟨h1, hw⟩
  · have hqq : q2 = q := by rcases HQ.out with ⟨_, h⟩ | ⟨h, _⟩; exact h; exact absurd h1 h
    have t1 : (kind != 1) = false := by rw [h1]; rfl
    have HWW : Hid (w2 = w1) := Lib.hid hw
    clear hw hqq h1
    go_enter Tryz.func29, Tryz.ntmps29
    go_upto_region 1 with fail
    rw [← HW1.out]
    go_upto_region 3 with fail
    rw [← HWW.out]
    clear HWW t1 cv1 ck1 fk1
    have HS : Hid (∀ W, Keep (fun j => j = w.heap.size) w2 W → W.cell? ⟨k, 0, none⟩ = some (.int .i64 s) ∧ W.cell? ⟨k, 1, none⟩ = some (.int .i64 l) ∧ W.cell? ⟨k, 2, none⟩ = some (.int .i64 q2) ∧ W.cell? ⟨k, 3, none⟩ = some (.int .i64 e)) := Lib.hid (fun W hW => by
      have hq := hW.blk HK2.out (by have := HKW.out; omega)
      have cq := blk_cells hq
      exact ⟨(cq 0).trans rfl, (cq 1).trans rfl, (cq 2).trans rfl, (cq 3).trans rfl⟩)
    have HK0 := Lib.hid ((Keep.refl (fun j => j = w.heap.size) w2))
    have HKA := Lib.hid ((Keep.refl (fun j => j = w.heap.size) w2).setCell (p := ⟨w.heap.size, 1, none⟩) (fun _ => rfl) (.int .i64 s))
    have HKB := Lib.hid (HKA.out.setCell (p := ⟨w.heap.size, 2, none⟩) (fun _ => rfl) (.int .i64 l))
    have HKC := Lib.hid (HKB.out.setCell (p := ⟨w.heap.size, 3, none⟩) (fun _ => rfl) (.int .i64 q2))
    have HKD := Lib.hid (HKC.out.setCell (p := ⟨w.heap.size, 4, none⟩) (fun _ => rfl) (.int .i64 e))
    have rd := HS.out _ HK0.out
    have cv2 := blk_cells HV2.out
    have fv2 := blk_frees HV2.out
    go_region_held3 (fun W => W.cell? ⟨k, 0, none⟩ = some (.int .i64 s) ∧ W.cell? ⟨k, 1, none⟩ = some (.int .i64 l) ∧ W.cell? ⟨k, 2, none⟩ = some (.int .i64 q2) ∧ W.cell? ⟨k, 3, none⟩ = some (.int .i64 e)) (first | with_reducible exact HS.out _ HK0.out | with_reducible exact HS.out _ HKA.out | with_reducible exact HS.out _ HKB.out | with_reducible exact HS.out _ HKC.out | with_reducible exact HS.out _ HKD.out | with_reducible exact HS.out _ HK0.out.drew | with_reducible exact HS.out _ HKA.out.drew | with_reducible exact HS.out _ HKB.out.drew | with_reducible exact HS.out _ HKC.out.drew | with_reducible exact HS.out _ HKD.out.drew) (first | (fail))
    obtain ⟨w3, hw3⟩ : ∃ w3, w3 = ((((w2.setCell ⟨w.heap.size, 1, none⟩ (.int .i64 s)).setCell ⟨w.heap.size, 2, none⟩ (.int .i64 l)).setCell ⟨w.heap.size, 3, none⟩ (.int .i64 q2)).setCell ⟨w.heap.size, 4, none⟩ (.int .i64 e)).drew := ⟨_, rfl⟩
    have hv3 := blk_set (j := 4) (blk_set (j := 3) (blk_set (j := 2) (blk_set (j := 1) HV2.out (.int .i64 s)) (.int .i64 l)) (.int .i64 q2)) (.int .i64 e)
    have hv3' : w3.heap[w.heap.size]? = some (.cells #[.int .i64 kind, .int .i64 s, .int .i64 l, .int .i64 q2, .int .i64 e, .string pa, .string ot, .int .i64 nd, .int .i64 gn, .int .i64 a, .int .i64 z, .int .i64 m, .slice none 0 0] 58 (0, 0)) := by rw [hw3, drew_blk]; exact hv3
    have hk3 : w3.heap[k]? = some (.cells (clC s l q2 e gr L C R p (.pointer none) (.slice none 0 0)) 56 (0, 0)) := by rw [hw3]; exact HKD.out.drew.blk HK2.out (by have := HKW.out; omega)
    have hb3 : Keep (fun j => j = k ∨ j = w.heap.size) w w3 := by rw [hw3]; exact (HB2.out.mono (fun _ _ h => .inl h)).trans HKD.out.drew (fun _ _ h => .inr h)
    rw [← hw3]
    have HV3 := Lib.hid hv3'
    have HK3 := Lib.hid hk3
    have HB3 := Lib.hid (show Keep (fun j => j = k) w w3 from hb3.mono (fun i hi h => by rcases h with h | h; exact h; omega))
    clear hw3 hv3 hv3' hk3 hb3 rd cv2 fv2 HKA HKB HKC HKD HS HK0
    go_upto_region 4 with fail
    have HS4 : Hid (∀ W, Keep (fun j => j = k) w3 W → W.cell? ⟨w.heap.size, 0, none⟩ = some (.int .i64 kind) ∧ W.cell? ⟨w.heap.size, 1, none⟩ = some (.int .i64 s) ∧ W.cell? ⟨w.heap.size, 2, none⟩ = some (.int .i64 l) ∧ W.cell? ⟨w.heap.size, 3, none⟩ = some (.int .i64 q2) ∧ W.cell? ⟨w.heap.size, 4, none⟩ = some (.int .i64 e) ∧ W.cell? ⟨w.heap.size, 5, none⟩ = some (.string pa) ∧ W.cell? ⟨w.heap.size, 6, none⟩ = some (.string ot) ∧ W.cell? ⟨w.heap.size, 7, none⟩ = some (.int .i64 nd) ∧ W.cell? ⟨w.heap.size, 8, none⟩ = some (.int .i64 gn) ∧ W.cell? ⟨w.heap.size, 9, none⟩ = some (.int .i64 a) ∧ W.cell? ⟨w.heap.size, 10, none⟩ = some (.int .i64 z) ∧ W.cell? ⟨w.heap.size, 11, none⟩ = some (.int .i64 m) ∧ W.cell? ⟨w.heap.size, 12, none⟩ = some (.slice none 0 0)) := Lib.hid (fun W hW => by
      have hq := hW.blk HV3.out (by have := HKW.out; omega)
      have cq := blk_cells hq
      exact ⟨(cq 0).trans rfl, (cq 1).trans rfl, (cq 2).trans rfl, (cq 3).trans rfl, (cq 4).trans rfl, (cq 5).trans rfl, (cq 6).trans rfl, (cq 7).trans rfl, (cq 8).trans rfl, (cq 9).trans rfl, (cq 10).trans rfl, (cq 11).trans rfl, (cq 12).trans rfl⟩)
    have HKA := Lib.hid (Keep.refl (fun j => j = k) w3)
    have HKB := Lib.hid (HKA.out.alloc (.cells #[.int .i64 kind, .int .i64 s, .int .i64 l, .int .i64 q2, .int .i64 e, .string pa, .string ot, .int .i64 nd, .int .i64 gn, .int .i64 a, .int .i64 z, .int .i64 m, .slice none 0 0, .int .i64 (clkP n), .int .i64 (clkP n)] 79))
    have HKC := Lib.hid (HKB.out.setCell (p := ⟨k, 17, none⟩) (fun _ => rfl) (.pointer (some ⟨w3.heap.size, 0, none⟩)))
    have HKD := Lib.hid (HKA.out.drew.alloc (.cells #[.int .i64 kind, .int .i64 s, .int .i64 l, .int .i64 q2, .int .i64 e, .string pa, .string ot, .int .i64 nd, .int .i64 gn, .int .i64 a, .int .i64 z, .int .i64 m, .slice none 0 0, .int .i64 (clkP n), .int .i64 (clkP n)] 79))
    have rd := HS4.out _ HKA.out
    have hkA := blk_old HK3.out (.cells #[.int .i64 kind, .int .i64 s, .int .i64 l, .int .i64 q2, .int .i64 e, .string pa, .string ot, .int .i64 nd, .int .i64 gn, .int .i64 a, .int .i64 z, .int .i64 m, .slice none 0 0, .int .i64 (clkP n), .int .i64 (clkP n)] 79)
    have fk := blk_frees hkA 17
    have ck : (w3.alloc (.cells #[.int .i64 kind, .int .i64 s, .int .i64 l, .int .i64 q2, .int .i64 e, .string pa, .string ot, .int .i64 nd, .int .i64 gn, .int .i64 a, .int .i64 z, .int .i64 m, .slice none 0 0, .int .i64 (clkP n), .int .i64 (clkP n)] 79)).cell? ⟨k, 17, none⟩ = some (.pointer none) := (blk_cells hkA 17).trans rfl
    have HKA1 := Lib.hid hkA
    clear hkA
    go_region_held3 (fun W => W.cell? ⟨w.heap.size, 0, none⟩ = some (.int .i64 kind) ∧ W.cell? ⟨w.heap.size, 1, none⟩ = some (.int .i64 s) ∧ W.cell? ⟨w.heap.size, 2, none⟩ = some (.int .i64 l) ∧ W.cell? ⟨w.heap.size, 3, none⟩ = some (.int .i64 q2) ∧ W.cell? ⟨w.heap.size, 4, none⟩ = some (.int .i64 e) ∧ W.cell? ⟨w.heap.size, 5, none⟩ = some (.string pa) ∧ W.cell? ⟨w.heap.size, 6, none⟩ = some (.string ot) ∧ W.cell? ⟨w.heap.size, 7, none⟩ = some (.int .i64 nd) ∧ W.cell? ⟨w.heap.size, 8, none⟩ = some (.int .i64 gn) ∧ W.cell? ⟨w.heap.size, 9, none⟩ = some (.int .i64 a) ∧ W.cell? ⟨w.heap.size, 10, none⟩ = some (.int .i64 z) ∧ W.cell? ⟨w.heap.size, 11, none⟩ = some (.int .i64 m) ∧ W.cell? ⟨w.heap.size, 12, none⟩ = some (.slice none 0 0)) (first | with_reducible exact HS4.out _ HKA.out | with_reducible exact HS4.out _ HKA.out.drew | with_reducible exact HS4.out _ HKB.out | with_reducible exact HS4.out _ HKB.out.drew | with_reducible exact HS4.out _ HKC.out | with_reducible exact HS4.out _ HKC.out.drew | with_reducible exact HS4.out _ HKD.out) (first | (go_at_call 23; with_reducible refine (clock_walk n _).mono ?_; rintro r w' ⟨rfl, rfl⟩))
    obtain ⟨w4, hw4⟩ : ∃ w4, w4 = ((w3.alloc (.cells #[.int .i64 kind, .int .i64 s, .int .i64 l, .int .i64 q2, .int .i64 e, .string pa, .string ot, .int .i64 nd, .int .i64 gn, .int .i64 a, .int .i64 z, .int .i64 m, .slice none 0 0, .int .i64 (clkP n), .int .i64 (clkP n)] 79)).setCell ⟨k, 17, none⟩ (.pointer (some ⟨w3.heap.size, 0, none⟩))).drew := ⟨_, rfl⟩
    have hk4 : w4.heap[k]? = some (.cells (clC s l q2 e gr L C R p (.pointer (some ⟨w3.heap.size, 0, none⟩)) (.slice none 0 0)) 56 (0, 0)) := by rw [hw4, drew_blk]; exact blk_set HKA1.out _
    have hf4 : w4.heap[w3.heap.size]? = some (.cells #[.int .i64 kind, .int .i64 s, .int .i64 l, .int .i64 q2, .int .i64 e, .string pa, .string ot, .int .i64 nd, .int .i64 gn, .int .i64 a, .int .i64 z, .int .i64 m, .slice none 0 0, .int .i64 (clkP n), .int .i64 (clkP n)] 79 (0, 0)) := by rw [hw4, drew_blk]; exact (blk_set_ne (a := ⟨k, 17, none⟩) _ (show w3.heap.size ≠ k by have := HKW.out; have := HB3.out.size; omega)).trans (blk_new w3 _)
    have hb4 : Keep (fun j => j = k) w w4 := by rw [hw4]; exact HB3.out.trans HKC.out.drew (fun _ _ h => h)
    rw [← hw4]
    have HAGN := Lib.hid (again_walk k w3.heap.size s l q2 e gr L C R p HAG.out _ _ _ _ _ _ _ _ _ _ _ _ _ _ _ E w4 hk4 hf4 HE.out)
    have HF4 := Lib.hid hf4
    have HB4 := Lib.hid hb4
    have HNE : Hid (w.heap.size ≤ w3.heap.size ∧ k < w.heap.size) := Lib.hid ⟨HB3.out.size, HKW.out⟩
    clear hw4 hk4 hf4 hb4 rd ck fk HKA HKB HKC HKD HS4
    go_wp2_with fail
    refine HAGN.out.mono ?_
    rintro r w5 ⟨OA, oc, rfl, hk5, hl5, hb5⟩
    have HFIN : Hid (SnP k s l q2 e gr L C R p kind pa ot nd gn a z m n E w (.returned (.tuple #[])) w5) := Lib.hid ⟨w3.heap.size, OA, oc, rfl, HNE.out.1, hk5, hb5.blk HF4.out (by have := HNE.out; omega), hl5.mono HB4.out.size, HB4.out.trans hb5 (fun _ _ h => h)⟩
    clear hk5 hl5 hb5
    go_wp2
    refine bodyPost_end (results_none rfl _ _ _) rfl ?_
    exact HFIN.out
  · have hqq : IntKind.i64.wrap (q + 1) = q2 := by
      rcases HQ.out with ⟨h, _⟩ | ⟨_, h2, h3, h4⟩
      · exact absurd h h1
      · rw [h2]; exact IntWalk.i64_in _ (by omega)
    have t1 : (kind != 1) = true := bne_iff_ne.2 h1
    have HWW : Hid (w2 = w1.setCell ⟨k, 2, none⟩ (.int .i64 q2)) := Lib.hid hw
    clear hw h1
    go_enter Tryz.func29, Tryz.ntmps29
    go_upto_region 1 with fail
    rw [← HW1.out]
    go_upto_region 3 with fail
    rw [← HWW.out]
    clear HWW t1 cv1 ck1 fk1 hqq
    have HS : Hid (∀ W, Keep (fun j => j = w.heap.size) w2 W → W.cell? ⟨k, 0, none⟩ = some (.int .i64 s) ∧ W.cell? ⟨k, 1, none⟩ = some (.int .i64 l) ∧ W.cell? ⟨k, 2, none⟩ = some (.int .i64 q2) ∧ W.cell? ⟨k, 3, none⟩ = some (.int .i64 e)) := Lib.hid (fun W hW => by
      have hq := hW.blk HK2.out (by have := HKW.out; omega)
      have cq := blk_cells hq
      exact ⟨(cq 0).trans rfl, (cq 1).trans rfl, (cq 2).trans rfl, (cq 3).trans rfl⟩)
    have HK0 := Lib.hid ((Keep.refl (fun j => j = w.heap.size) w2))
    have HKA := Lib.hid ((Keep.refl (fun j => j = w.heap.size) w2).setCell (p := ⟨w.heap.size, 1, none⟩) (fun _ => rfl) (.int .i64 s))
    have HKB := Lib.hid (HKA.out.setCell (p := ⟨w.heap.size, 2, none⟩) (fun _ => rfl) (.int .i64 l))
    have HKC := Lib.hid (HKB.out.setCell (p := ⟨w.heap.size, 3, none⟩) (fun _ => rfl) (.int .i64 q2))
    have HKD := Lib.hid (HKC.out.setCell (p := ⟨w.heap.size, 4, none⟩) (fun _ => rfl) (.int .i64 e))
    have rd := HS.out _ HK0.out
    have cv2 := blk_cells HV2.out
    have fv2 := blk_frees HV2.out
    go_region_held3 (fun W => W.cell? ⟨k, 0, none⟩ = some (.int .i64 s) ∧ W.cell? ⟨k, 1, none⟩ = some (.int .i64 l) ∧ W.cell? ⟨k, 2, none⟩ = some (.int .i64 q2) ∧ W.cell? ⟨k, 3, none⟩ = some (.int .i64 e)) (first | with_reducible exact HS.out _ HK0.out | with_reducible exact HS.out _ HKA.out | with_reducible exact HS.out _ HKB.out | with_reducible exact HS.out _ HKC.out | with_reducible exact HS.out _ HKD.out | with_reducible exact HS.out _ HK0.out.drew | with_reducible exact HS.out _ HKA.out.drew | with_reducible exact HS.out _ HKB.out.drew | with_reducible exact HS.out _ HKC.out.drew | with_reducible exact HS.out _ HKD.out.drew) (first | (fail))
    obtain ⟨w3, hw3⟩ : ∃ w3, w3 = ((((w2.setCell ⟨w.heap.size, 1, none⟩ (.int .i64 s)).setCell ⟨w.heap.size, 2, none⟩ (.int .i64 l)).setCell ⟨w.heap.size, 3, none⟩ (.int .i64 q2)).setCell ⟨w.heap.size, 4, none⟩ (.int .i64 e)).drew := ⟨_, rfl⟩
    have hv3 := blk_set (j := 4) (blk_set (j := 3) (blk_set (j := 2) (blk_set (j := 1) HV2.out (.int .i64 s)) (.int .i64 l)) (.int .i64 q2)) (.int .i64 e)
    have hv3' : w3.heap[w.heap.size]? = some (.cells #[.int .i64 kind, .int .i64 s, .int .i64 l, .int .i64 q2, .int .i64 e, .string pa, .string ot, .int .i64 nd, .int .i64 gn, .int .i64 a, .int .i64 z, .int .i64 m, .slice none 0 0] 58 (0, 0)) := by rw [hw3, drew_blk]; exact hv3
    have hk3 : w3.heap[k]? = some (.cells (clC s l q2 e gr L C R p (.pointer none) (.slice none 0 0)) 56 (0, 0)) := by rw [hw3]; exact HKD.out.drew.blk HK2.out (by have := HKW.out; omega)
    have hb3 : Keep (fun j => j = k ∨ j = w.heap.size) w w3 := by rw [hw3]; exact (HB2.out.mono (fun _ _ h => .inl h)).trans HKD.out.drew (fun _ _ h => .inr h)
    rw [← hw3]
    have HV3 := Lib.hid hv3'
    have HK3 := Lib.hid hk3
    have HB3 := Lib.hid (show Keep (fun j => j = k) w w3 from hb3.mono (fun i hi h => by rcases h with h | h; exact h; omega))
    clear hw3 hv3 hv3' hk3 hb3 rd cv2 fv2 HKA HKB HKC HKD HS HK0
    go_upto_region 4 with fail
    have HS4 : Hid (∀ W, Keep (fun j => j = k) w3 W → W.cell? ⟨w.heap.size, 0, none⟩ = some (.int .i64 kind) ∧ W.cell? ⟨w.heap.size, 1, none⟩ = some (.int .i64 s) ∧ W.cell? ⟨w.heap.size, 2, none⟩ = some (.int .i64 l) ∧ W.cell? ⟨w.heap.size, 3, none⟩ = some (.int .i64 q2) ∧ W.cell? ⟨w.heap.size, 4, none⟩ = some (.int .i64 e) ∧ W.cell? ⟨w.heap.size, 5, none⟩ = some (.string pa) ∧ W.cell? ⟨w.heap.size, 6, none⟩ = some (.string ot) ∧ W.cell? ⟨w.heap.size, 7, none⟩ = some (.int .i64 nd) ∧ W.cell? ⟨w.heap.size, 8, none⟩ = some (.int .i64 gn) ∧ W.cell? ⟨w.heap.size, 9, none⟩ = some (.int .i64 a) ∧ W.cell? ⟨w.heap.size, 10, none⟩ = some (.int .i64 z) ∧ W.cell? ⟨w.heap.size, 11, none⟩ = some (.int .i64 m) ∧ W.cell? ⟨w.heap.size, 12, none⟩ = some (.slice none 0 0)) := Lib.hid (fun W hW => by
      have hq := hW.blk HV3.out (by have := HKW.out; omega)
      have cq := blk_cells hq
      exact ⟨(cq 0).trans rfl, (cq 1).trans rfl, (cq 2).trans rfl, (cq 3).trans rfl, (cq 4).trans rfl, (cq 5).trans rfl, (cq 6).trans rfl, (cq 7).trans rfl, (cq 8).trans rfl, (cq 9).trans rfl, (cq 10).trans rfl, (cq 11).trans rfl, (cq 12).trans rfl⟩)
    have HKA := Lib.hid (Keep.refl (fun j => j = k) w3)
    have HKB := Lib.hid (HKA.out.alloc (.cells #[.int .i64 kind, .int .i64 s, .int .i64 l, .int .i64 q2, .int .i64 e, .string pa, .string ot, .int .i64 nd, .int .i64 gn, .int .i64 a, .int .i64 z, .int .i64 m, .slice none 0 0, .int .i64 (clkP n), .int .i64 (clkP n)] 79))
    have HKC := Lib.hid (HKB.out.setCell (p := ⟨k, 17, none⟩) (fun _ => rfl) (.pointer (some ⟨w3.heap.size, 0, none⟩)))
    have HKD := Lib.hid (HKA.out.drew.alloc (.cells #[.int .i64 kind, .int .i64 s, .int .i64 l, .int .i64 q2, .int .i64 e, .string pa, .string ot, .int .i64 nd, .int .i64 gn, .int .i64 a, .int .i64 z, .int .i64 m, .slice none 0 0, .int .i64 (clkP n), .int .i64 (clkP n)] 79))
    have rd := HS4.out _ HKA.out
    have hkA := blk_old HK3.out (.cells #[.int .i64 kind, .int .i64 s, .int .i64 l, .int .i64 q2, .int .i64 e, .string pa, .string ot, .int .i64 nd, .int .i64 gn, .int .i64 a, .int .i64 z, .int .i64 m, .slice none 0 0, .int .i64 (clkP n), .int .i64 (clkP n)] 79)
    have fk := blk_frees hkA 17
    have ck : (w3.alloc (.cells #[.int .i64 kind, .int .i64 s, .int .i64 l, .int .i64 q2, .int .i64 e, .string pa, .string ot, .int .i64 nd, .int .i64 gn, .int .i64 a, .int .i64 z, .int .i64 m, .slice none 0 0, .int .i64 (clkP n), .int .i64 (clkP n)] 79)).cell? ⟨k, 17, none⟩ = some (.pointer none) := (blk_cells hkA 17).trans rfl
    have HKA1 := Lib.hid hkA
    clear hkA
    go_region_held3 (fun W => W.cell? ⟨w.heap.size, 0, none⟩ = some (.int .i64 kind) ∧ W.cell? ⟨w.heap.size, 1, none⟩ = some (.int .i64 s) ∧ W.cell? ⟨w.heap.size, 2, none⟩ = some (.int .i64 l) ∧ W.cell? ⟨w.heap.size, 3, none⟩ = some (.int .i64 q2) ∧ W.cell? ⟨w.heap.size, 4, none⟩ = some (.int .i64 e) ∧ W.cell? ⟨w.heap.size, 5, none⟩ = some (.string pa) ∧ W.cell? ⟨w.heap.size, 6, none⟩ = some (.string ot) ∧ W.cell? ⟨w.heap.size, 7, none⟩ = some (.int .i64 nd) ∧ W.cell? ⟨w.heap.size, 8, none⟩ = some (.int .i64 gn) ∧ W.cell? ⟨w.heap.size, 9, none⟩ = some (.int .i64 a) ∧ W.cell? ⟨w.heap.size, 10, none⟩ = some (.int .i64 z) ∧ W.cell? ⟨w.heap.size, 11, none⟩ = some (.int .i64 m) ∧ W.cell? ⟨w.heap.size, 12, none⟩ = some (.slice none 0 0)) (first | with_reducible exact HS4.out _ HKA.out | with_reducible exact HS4.out _ HKA.out.drew | with_reducible exact HS4.out _ HKB.out | with_reducible exact HS4.out _ HKB.out.drew | with_reducible exact HS4.out _ HKC.out | with_reducible exact HS4.out _ HKC.out.drew | with_reducible exact HS4.out _ HKD.out) (first | (go_at_call 23; with_reducible refine (clock_walk n _).mono ?_; rintro r w' ⟨rfl, rfl⟩))
    obtain ⟨w4, hw4⟩ : ∃ w4, w4 = ((w3.alloc (.cells #[.int .i64 kind, .int .i64 s, .int .i64 l, .int .i64 q2, .int .i64 e, .string pa, .string ot, .int .i64 nd, .int .i64 gn, .int .i64 a, .int .i64 z, .int .i64 m, .slice none 0 0, .int .i64 (clkP n), .int .i64 (clkP n)] 79)).setCell ⟨k, 17, none⟩ (.pointer (some ⟨w3.heap.size, 0, none⟩))).drew := ⟨_, rfl⟩
    have hk4 : w4.heap[k]? = some (.cells (clC s l q2 e gr L C R p (.pointer (some ⟨w3.heap.size, 0, none⟩)) (.slice none 0 0)) 56 (0, 0)) := by rw [hw4, drew_blk]; exact blk_set HKA1.out _
    have hf4 : w4.heap[w3.heap.size]? = some (.cells #[.int .i64 kind, .int .i64 s, .int .i64 l, .int .i64 q2, .int .i64 e, .string pa, .string ot, .int .i64 nd, .int .i64 gn, .int .i64 a, .int .i64 z, .int .i64 m, .slice none 0 0, .int .i64 (clkP n), .int .i64 (clkP n)] 79 (0, 0)) := by rw [hw4, drew_blk]; exact (blk_set_ne (a := ⟨k, 17, none⟩) _ (show w3.heap.size ≠ k by have := HKW.out; have := HB3.out.size; omega)).trans (blk_new w3 _)
    have hb4 : Keep (fun j => j = k) w w4 := by rw [hw4]; exact HB3.out.trans HKC.out.drew (fun _ _ h => h)
    rw [← hw4]
    have HAGN := Lib.hid (again_walk k w3.heap.size s l q2 e gr L C R p HAG.out _ _ _ _ _ _ _ _ _ _ _ _ _ _ _ E w4 hk4 hf4 HE.out)
    have HF4 := Lib.hid hf4
    have HB4 := Lib.hid hb4
    have HNE : Hid (w.heap.size ≤ w3.heap.size ∧ k < w.heap.size) := Lib.hid ⟨HB3.out.size, HKW.out⟩
    clear hw4 hk4 hf4 hb4 rd ck fk HKA HKB HKC HKD HS4
    go_wp2_with fail
    refine HAGN.out.mono ?_
    rintro r w5 ⟨OA, oc, rfl, hk5, hl5, hb5⟩
    have HFIN : Hid (SnP k s l q2 e gr L C R p kind pa ot nd gn a z m n E w (.returned (.tuple #[])) w5) := Lib.hid ⟨w3.heap.size, OA, oc, rfl, HNE.out.1, hk5, hb5.blk HF4.out (by have := HNE.out; omega), hl5.mono HB4.out.size, HB4.out.trans hb5 (fun _ _ h => h)⟩
    clear hk5 hl5 hb5
    go_wp2
    refine bodyPost_end (results_none rfl _ _ _) rfl ?_
    exact HFIN.out
end Go.Proofs.YtlcfnehmmjhoiaaGreat
