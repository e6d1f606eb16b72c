/- bytes.Equal; entry.Decode. -/
import Derived.Test.YtcganoomgdabkaaDoorEntry2
set_option linter.unusedSimpArgs false
set_option linter.unusedVariables false
namespace Go.Proofs.YtcganoomgdabkaaDoor
open Go.RowKit

theorem bytesEqual_walk (A B : Option Addr) (n c m d : Nat) (a b : List UInt8) (w : World) (ha : Sl w 1 (.slice A n c) n (bv a)) (hb : Sl w 1 (.slice B m d) m (bv b)) :
    Calls Tryd.prog 26 #[.slice A n c, .slice B m d] w fun e w' => e = .returned (.bool (a == b)) ∧ Below w.heap.size w w' := by
  have k1 := run_conv_bytes (P := Tryd.prog) w Tryd.underlying24 Tryd.underlying5 Tryd.underlying9 ha
  have k2 := run_conv_bytes (P := Tryd.prog) w Tryd.underlying24 Tryd.underlying5 Tryd.underlying9 hb
  have HA := Lib.hid ha
  have HB := Lib.hid hb
  clear ha hb
  go_enter Tryd.func26, Tryd.ntmps26
  go_wp2
  go_ret
  exact ⟨rfl, Below.refl _ _⟩
theorem bv_at {w : World} {A : Option Addr} {c n k : Nat} {l : List UInt8} (h : Sl w 1 (.slice A n c) n (bv l)) {e : UInt8} (hl : l[k]? = some e) :
    ∃ b o, A = some ⟨b, o, none⟩ ∧ b < w.heap.size ∧ w.cell? ⟨b, o + k, none⟩ = some (.int .u8 (e.toNat : Int)) := by
  obtain ⟨A', c', e', hr, _⟩ := h
  injection e' with e1 _ e2
  subst e1
  have q0 : (bv l)[k]? = some (.int .u8 (e.toNat : Int)) := by simp [bv, hl]
  rcases hr with h0 | ⟨ad, rfl, hc⟩
  · rw [h0] at q0; simp at q0
  · have h0 := hc _ _ q0
    obtain ⟨b, o, spot⟩ := ad
    obtain ⟨e0, he0⟩ : ∃ e0, l[0]? = some e0 := ⟨l[0]'(by have := (List.getElem?_eq_some_iff.1 hl).1; omega), List.getElem?_eq_getElem _⟩
    have hz := hc 0 (.int .u8 (e0.toNat : Int)) (by simp [bv, he0])
    have es : spot = none := by
      have : (⟨b, o, spot⟩ : Addr).add 0 = ⟨b, o, spot⟩ := by unfold Addr.add; simp
      rw [this] at hz
      exact World.cell?_spot hz
    subst es
    rw [Addr.add_lit] at h0
    exact ⟨b, o, rfl, World.block_lt_of_cell? w _ h0, h0⟩
/-- Part of some bytes. -/
theorem bv_part {w : World} {b o n c : Nat} {l : List UInt8} (h : Sl w 1 (.slice (some ⟨b, o, none⟩) n c) n (bv l)) (i j k : Nat) (hij : i ≤ j) (hj : j ≤ l.length) (hk : j - i ≤ k) : Sl w 1 (.slice (some ⟨b, o + i, none⟩) (j - i) k) (j - i) (bv ((l.drop i).take (j - i))) := by
  obtain ⟨A', c', e', hr, h1, h2, h3⟩ := h
  injection e' with e1 _ e2
  subst e1 e2
  refine ⟨_, _, rfl, ?_, (fun e => by simp at e), hk, by simp [bv]; omega⟩
  have := (hr.drop i).take (j - i)
  simpa [bv, List.map_drop, List.map_take] using this

/-- How Decode ends. -/
def DecEnd (r : Option RW) (w : World) (e : Ending) (w' : World) : Prop :=
  Below w.heap.size w w' ∧ e = .returned (.tuple #[(r.getD RW.none).val, .int .i64 (if r.isSome then 0 else 2)])
theorem dec_bad {b : List UInt8} (h : b.length ≠ 32 ∨ ∃ x, b[0]? = some x ∧ 24 < x.toNat) : decP b = none := by
  unfold decP
  rw [if_neg]
  rintro ⟨h1, h2, _⟩
  rcases h with h | ⟨x, hx, h⟩
  · exact h h1
  · rw [List.getD_eq_getElem?_getD, hx] at h2
    simp at h2
    omega
theorem storedR {wr : World} {k : Nat} {v0 v1 : Value} {T : TypeId} (x0 x1 : Value) (h : wr.heap[k]? = some (.cells #[v0, v1] T (0, 0))) :
    Keep (fun i => i = k) wr ((wr.setCell ⟨k, 0, none⟩ x0).setCell ⟨k, 1, none⟩ x1) ∧ ∀ j, ((wr.setCell ⟨k, 0, none⟩ x0).setCell ⟨k, 1, none⟩ x1).cell? ⟨k, j, none⟩ = (#[x0, x1] : Array Value)[j]? := by
  refine ⟨((Keep.refl (fun i => i = k) wr).setCell (fun _ => rfl) _).setCell (fun _ => rfl) _, ?_⟩
  exact blk_cells (blk_set (j := 1) (blk_set (j := 0) (k := k) h x0) x1)
set_option maxRecDepth 100000 in
set_option maxHeartbeats 2000000 in
theorem decode_walk (A : Option Addr) (n c : Nat) (b : List UInt8) (w : World) (h : Sl w 1 (.slice A n c) n (bv b)) :
    Calls Tryd.prog 12 #[.slice A n c] w (DecEnd (decP b) w) := by
  obtain rfl : n = b.length := by obtain ⟨_, _, _, _, _, _, h3⟩ := h; simp [bv] at h3; omega
  have HS := Lib.hid h
  clear h
  have HB := Lib.hid ((Below.refl w.heap.size w).alloc (Nat.le_refl _) (.cells #[.string ⟨#[]⟩, .int .i64 0] 23))
  obtain ⟨w0, hw0⟩ : ∃ w0, w0 = w.alloc (.cells #[.string ⟨#[]⟩, .int .i64 0] 23) := ⟨_, rfl⟩
  have x0 := blk_new w (.cells #[.string ⟨#[]⟩, .int .i64 0] 23)
  have z0 : w0.heap.size = w.heap.size + 1 := by rw [hw0]; simp
  rw [← hw0] at x0 HB
  have HW := Lib.hid hw0
  have HX := Lib.hid x0
  have HZ := Lib.hid z0
  have HS0 := Lib.hid (HS.out.below HB.out)
  clear hw0 x0 z0
  by_cases h32 : b.length = 32
  · have H32 := Lib.hid h32
    obtain ⟨x, hx⟩ : ∃ x, b[0]? = some x := ⟨b[0]'(by omega), List.getElem?_eq_getElem _⟩
    obtain ⟨y, hy⟩ : ∃ y, b[25]? = some y := ⟨b[25]'(by omega), List.getElem?_eq_getElem _⟩
    obtain ⟨g, o, rfl, hg, c0⟩ := bv_at HS0.out hx
    obtain ⟨_, _, e, _, c25⟩ := bv_at HS0.out hy
    injection e with e
    injection e with e1 e2
    subst e1 e2
    simp only [Nat.add_zero] at c0
    have HX0 := Lib.hid hx
    have HY0 := Lib.hid hy
    have hxl := x.toNat_lt
    clear hx hy h32
    rw [H32.out]
    have cx := blk_cells HX.out
    have fx := blk_frees HX.out
    have lx := blk_lt HX.out
    by_cases h24 : x.toNat ≤ 24
    · have b24 : (x.toNat : Int) ≤ 24 := by omega
      have hc : 32 ≤ c := by obtain ⟨_, _, e, _, _, h2, _⟩ := HS.out; injection e with _ _ e; have := H32.out; omega
      have hc' : (32 : Int) ≤ (c : Int) := by omega
      have hsum : (1 + (x.toNat : Int)).toNat = 1 + x.toNat := by omega
      have hsub : 1 + x.toNat - 1 = x.toNat := by omega
      obtain ⟨q, hq⟩ : ∃ q, q = (b.drop 1).take x.toNat := ⟨_, rfl⟩
      have hp := bv_part (k := c - 1) HS0.out 1 (1 + x.toNat) (by omega) (by have := H32.out; omega) (by omega)
      rw [hsub, ← hq] at hp
      have kc1 := run_conv_bytes (P := Tryd.prog) w0.drew Tryd.underlying24 Tryd.underlying5 Tryd.underlying9 (hp.below ((Below.refl _ w0).drew))
      have kc2 := run_conv_bytes (P := Tryd.prog) (w0.alloc (.cells #[.string ⟨#[]⟩, .int .i64 0] 23)).drew Tryd.underlying24 Tryd.underlying5 Tryd.underlying9 (hp.below ((Below.refl _ w0).alloc (Nat.le_refl _) _).drew)
      have hql : q.length ≤ 24 := by rw [hq, List.length_take]; omega
      have e0 : b.getD 0 0 = x := by rw [List.getD_eq_getElem?_getD, HX0.out]; rfl
      have e25 : b.getD 25 0 = y := by rw [List.getD_eq_getElem?_getD, HY0.out]; rfl
      have HR : Hid (rawR b = ⟨q, (y.toNat : Int)⟩) := Lib.hid (by unfold rawR; rw [e0, e25, ← hq])
      have HD : Hid (decP b = if encP (rawR b) = some b then some (rawR b) else none) := Lib.hid (by
        unfold decP
        by_cases hh : encP (rawR b) = some b
        · rw [if_pos hh, if_pos ⟨H32.out, by rw [e0]; omega, hh⟩]
        · rw [if_neg hh, if_neg (fun h => hh h.2.2)])
      have b25 : (y.toNat : Int) < 256 := by have := y.toNat_lt; omega
      have b24d : decide (24 < (x.toNat : Int)) = false := decide_eq_false (by omega)
      obtain ⟨W5, hW5⟩ : ∃ W5, W5 = (w0.alloc (.cells #[.string ⟨q.toArray⟩, .int .i64 (y.toNat : Int)] 23)).drew := ⟨_, rfl⟩
      have K5 : Keep (fun _ => False) w0 W5 := by rw [hW5]; exact ((Keep.refl (fun _ => False) w0).alloc _).drew
      have h5 : W5.heap[w0.heap.size]? = some (.cells #[.string ⟨q.toArray⟩, .int .i64 (y.toNat : Int)] 23 (0, 0)) := by rw [hW5]; exact blk_new w0 _
      have HE := Lib.hid (encode_walk ⟨q, (y.toNat : Int)⟩ W5 (by show q.length ≤ _; omega))
      unfold RW.val at HE
      dsimp only at HE
      have HW5 := Lib.hid hW5
      have HK5 := Lib.hid K5
      have HH5 := Lib.hid h5
      have BB := Lib.hid (HB.out.trans (K5.below (B := w.heap.size) (fun i h => h.elim) (by have := HZ.out; omega)))
      clear h24 hp hq e0 e25 hW5 K5 h5
      go_enter Tryd.func12, Tryd.ntmps12
      go_upto_region 1 with fail
      rw [← HW.out]
      go_wp2
      go_region
      all_goals
        rw [← HW5.out]
        have c5 := blk_cells HH5.out
        have hr5 := blk_lt HH5.out
        have cx5 := blk_cells (HK5.out.blk HX.out id)
        have fx5 := blk_frees (HK5.out.blk HX.out id)
        have lx5 := blk_lt (HK5.out.blk HX.out id)
        clear cx fx lx c0 c25 kc1 kc2
        go_wp2_with fail
        refine HE.out.mono ?_
        rintro e w6 ⟨hb6, hr6⟩
        cases he : encP ⟨q, (y.toNat : Int)⟩ with
        | none =>
          rw [he] at hr6
          dsimp only at hr6
          subst hr6
          have K6 := Lib.hid (Keep.of_below (S := fun _ => False) hb6)
          have X6 := Lib.hid (K6.out.blk (HK5.out.blk HX.out id) id)
          have cx6 := blk_cells X6.out
          have fx6 := blk_frees X6.out
          have lx6 := blk_lt X6.out
          have R6 := Lib.hid (K6.out.blk HH5.out id)
          have cr6 := blk_cells R6.out
          have lr6 := blk_lt R6.out
          have BB6 := Lib.hid (BB.out.trans (K6.out.below (B := w.heap.size) (fun i h => h.elim) (by have := BB.out.size; omega)))
          have HS6 := Lib.hid (HS.out.below BB6.out)
          clear hb6 c5 hr5 cx5 fx5 lx5
          go_wp2
          obtain ⟨kf, bf⟩ := storedR (.string ⟨#[]⟩) (.int .i64 0) X6.out
          obtain ⟨wf, hwf⟩ : ∃ wf, wf = ((w6.setCell ⟨w.heap.size, 0, none⟩ (.string ⟨#[]⟩)).setCell ⟨w.heap.size, 1, none⟩ (.int .i64 0)) := ⟨_, rfl⟩
          rw [← hwf] at kf bf ⊢
          have e0 := bf 0
          have e1 := bf 1
          refine bodyPost_ret (by simp [results, Tryd.results12, go_sem, e0, e1]; try rfl) rfl ?_
          rw [HD.out, HR.out, he, if_neg (by intro h; cases h)]
          exact ⟨BB6.out.trans (kf.below (fun i h => by omega) (by have := BB6.out.size; omega)), rfl⟩
        | some a =>
          rw [he] at hr6
          dsimp only at hr6
          obtain ⟨g6, rfl, ho6, hg6⟩ := hr6
          have K6 := Lib.hid (Keep.of_below (S := fun _ => False) hb6)
          have X6 := Lib.hid (K6.out.blk (HK5.out.blk HX.out id) id)
          have cx6 := blk_cells X6.out
          have fx6 := blk_frees X6.out
          have lx6 := blk_lt X6.out
          have R6 := Lib.hid (K6.out.blk HH5.out id)
          have cr6 := blk_cells R6.out
          have lr6 := blk_lt R6.out
          have BB6 := Lib.hid (BB.out.trans (K6.out.below (B := w.heap.size) (fun i h => h.elim) (by have := BB.out.size; omega)))
          have HS6 := Lib.hid (HS.out.below BB6.out)
          clear hb6 c5 hr5 cx5 fx5 lx5
          have HEQ := Lib.hid (bytesEqual_walk _ _ _ _ _ _ a b w6 (Sl.of_own ho6) HS6.out)
          rw [H32.out] at HEQ
          have HE2 := Lib.hid he
          clear ho6 he
          by_cases hab : a = b
          · have hab2 : (a == b) = true := by simp [hab]
            rw [hab2] at HEQ
            have HAB := Lib.hid hab
            clear hab hab2
            go_wp2_with fail
            refine HEQ.out.mono ?_
            rintro e w7 ⟨rfl, hb7⟩
            have K7 := Lib.hid (Keep.of_below (S := fun _ => False) hb7)
            have X7 := Lib.hid (K7.out.blk X6.out id)
            have cx7 := blk_cells X7.out
            have fx7 := blk_frees X7.out
            have lx7 := blk_lt X7.out
            have R7 := Lib.hid (K7.out.blk R6.out id)
            have cr7 := blk_cells R7.out
            have lr7 := blk_lt R7.out
            have BB7 := Lib.hid (BB6.out.trans (K7.out.below (B := w.heap.size) (fun i h => h.elim) (by have := BB6.out.size; omega)))
            clear hb7 cx6 fx6 lx6 cr6 lr6
            go_wp2
            obtain ⟨kf, bf⟩ := storedR (.string ⟨q.toArray⟩) (.int .i64 (y.toNat : Int)) X7.out
            obtain ⟨wf, hwf⟩ : ∃ wf, wf = ((w7.setCell ⟨w.heap.size, 0, none⟩ (.string ⟨q.toArray⟩)).setCell ⟨w.heap.size, 1, none⟩ (.int .i64 (y.toNat : Int))) := ⟨_, rfl⟩
            rw [← hwf] at kf bf ⊢
            have e0 := bf 0
            have e1 := bf 1
            refine bodyPost_ret (by simp [results, Tryd.results12, go_sem, e0, e1]; try rfl) rfl ?_
            rw [HD.out, HR.out, HE2.out, HAB.out, if_pos rfl]
            exact ⟨BB7.out.trans (kf.below (fun i h => by omega) (by have := BB7.out.size; omega)), rfl⟩
          · have hab2 : (a == b) = false := by simp [hab]
            rw [hab2] at HEQ
            have HAB := Lib.hid hab
            clear hab hab2
            go_wp2_with fail
            refine HEQ.out.mono ?_
            rintro e w7 ⟨rfl, hb7⟩
            have K7 := Lib.hid (Keep.of_below (S := fun _ => False) hb7)
            have X7 := Lib.hid (K7.out.blk X6.out id)
            have cx7 := blk_cells X7.out
            have fx7 := blk_frees X7.out
            have lx7 := blk_lt X7.out
            have R7 := Lib.hid (K7.out.blk R6.out id)
            have cr7 := blk_cells R7.out
            have lr7 := blk_lt R7.out
            have BB7 := Lib.hid (BB6.out.trans (K7.out.below (B := w.heap.size) (fun i h => h.elim) (by have := BB6.out.size; omega)))
            clear hb7 cx6 fx6 lx6 cr6 lr6
            go_wp2
            obtain ⟨kf, bf⟩ := storedR (.string ⟨#[]⟩) (.int .i64 0) X7.out
            obtain ⟨wf, hwf⟩ : ∃ wf, wf = ((w7.setCell ⟨w.heap.size, 0, none⟩ (.string ⟨#[]⟩)).setCell ⟨w.heap.size, 1, none⟩ (.int .i64 0)) := ⟨_, rfl⟩
            rw [← hwf] at kf bf ⊢
            have e0 := bf 0
            have e1 := bf 1
            refine bodyPost_ret (by simp [results, Tryd.results12, go_sem, e0, e1]; try rfl) rfl ?_
            rw [HD.out, HR.out, HE2.out, if_neg (fun h => HAB.out (by injection h))]
            exact ⟨BB7.out.trans (kf.below (fun i h => by omega) (by have := BB7.out.size; omega)), rfl⟩
    · have hD := Lib.hid (dec_bad (b := b) (.inr ⟨x, HX0.out, by omega⟩))
      have h24' : (24 : Int) < (x.toNat : Int) := by omega
      clear h24
      go_enter Tryd.func12, Tryd.ntmps12
      go_upto_region 1 with fail
      rw [← HW.out]
      go_wp2
      obtain ⟨kf, bf⟩ := storedR (.string ⟨#[]⟩) (.int .i64 0) HX.out
      obtain ⟨wf, hwf⟩ : ∃ wf, wf = ((w0.setCell ⟨w.heap.size, 0, none⟩ (.string ⟨#[]⟩)).setCell ⟨w.heap.size, 1, none⟩ (.int .i64 0)) := ⟨_, rfl⟩
      rw [← hwf] at kf bf ⊢
      have e0 := bf 0
      have e1 := bf 1
      refine bodyPost_ret (by simp [results, Tryd.results12, go_sem, e0, e1]; try rfl) rfl ?_
      rw [hD.out]
      exact ⟨HB.out.trans (kf.below (fun i h => by omega) (by omega)), rfl⟩
  · have hD := Lib.hid (dec_bad (b := b) (.inl h32))
    have h32' : ¬ (b.length : Int) = 32 := by omega
    clear h32
    go_enter Tryd.func12, Tryd.ntmps12
    go_upto_region 1 with fail
    rw [← HW.out]
    have cx := blk_cells HX.out
    have fx := blk_frees HX.out
    have lx := blk_lt HX.out
    go_wp2
    obtain ⟨kf, bf⟩ := storedR (.string ⟨#[]⟩) (.int .i64 0) HX.out
    obtain ⟨wf, hwf⟩ : ∃ wf, wf = ((w0.setCell ⟨w.heap.size, 0, none⟩ (.string ⟨#[]⟩)).setCell ⟨w.heap.size, 1, none⟩ (.int .i64 0)) := ⟨_, rfl⟩
    rw [← hwf] at kf bf ⊢
    have e0 := bf 0
    have e1 := bf 1
    refine bodyPost_ret (by simp [results, Tryd.results12, go_sem, e0, e1]; try rfl) rfl ?_
    rw [hD.out]
    exact ⟨HB.out.trans (kf.below (fun i h => by omega) (by omega)), rfl⟩
end Go.Proofs.YtcganoomgdabkaaDoor
