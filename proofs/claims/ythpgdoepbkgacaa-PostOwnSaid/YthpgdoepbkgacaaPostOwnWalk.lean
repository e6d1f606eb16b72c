/- The walk of PostOwn. -/
import Derived.Test.YthpgdoepbkgacaaPost6
set_option linter.unusedSimpArgs false
set_option linter.unusedVariables false
namespace Go.Proofs.Ythpgdoepbkgacaa.lawPostOwn
open Go.RowKit
/-- Numbers as cells. -/
def nv (zs : List Int) : List Value := zs.map (Value.int .u8)
theorem bv_nv (d : List UInt8) : bv d = nv (d.map fun b => (b.toNat : Int)) := by simp [bv, nv]
/-- One byte of a row of one's own is written. -/
theorem own_set {w : World} {e g n c i : Nat} {zs : List Int} (h : w.ownsRow 0 e 1 (.slice (some ⟨g, 0, none⟩) n c) n (nv zs)) (hi : i < n) (x : Int) :
    (w.setCell ⟨g, i, none⟩ (.int .u8 x)).ownsRow 0 e 1 (.slice (some ⟨g, 0, none⟩) n c) n (nv (zs.set i x)) := by
  obtain ⟨g', cap, cur, hv, hb, h1, h2, h3, h4⟩ := own_form h (by omega)
  injection hv with e1 _ e2
  injection e1 with e1
  injection e1 with e1
  subst e1 e2
  have hl : zs.length = n := by simpa [nv] using h.1
  refine ⟨by simp [nv, hl], .inr ⟨g, c, _, rfl, Nat.zero_le _, blk_set hb _, h1, h2, by simpa using h3, ?_⟩⟩
  rw [Array.toList_setIfInBounds, List.take_set, h4]
  simp [nv, List.map_set]
theorem own_at {w : World} {e g n c i : Nat} {zs : List Int} (h : w.ownsRow 0 e 1 (.slice (some ⟨g, 0, none⟩) n c) n (nv zs)) (hi : i < n) :
    ∃ z, w.cell? ⟨g, i, none⟩ = some (.int .u8 z) ∧ w.frozen? ⟨g, i, none⟩ = false := by
  have hl : zs.length = n := by simpa [nv] using h.1
  have := h.cells (g := g) rfl i (.int .u8 zs[i]) (by simp [nv, hl, hi])
  rw [Addr.add_lit, Nat.zero_add] at this
  obtain ⟨cur, hb⟩ := own_blk h rfl
  exact ⟨_, this, blk_free hb⟩
/-- The block of a slice. -/
def blkOf (v : Value) (k : Nat) : Prop := v.ownBlock = some k
def Inv (w0 : World) (X : Nat → Prop) (s : Value) (n : Nat) (v : Value) (wr : World) : Prop := ∃ i : Nat, i ≤ n ∧ v = .int .i64 (i : Int) ∧ (∃ zs, wr.ownsRow 0 5 1 s n (nv zs)) ∧ Keep X w0 wr
theorem own_some {A : Option Addr} {w : World} {n c : Nat} {xs : List Value} {e : Nat} (h : w.ownsRow 0 e 1 (.slice A n c) n xs) (hn : 0 < n) : ∃ g, A = some ⟨g, 0, none⟩ := by
  obtain ⟨g, cap, cur, hv, _⟩ := own_form h hn
  injection hv with h1
  exact ⟨g, h1⟩
theorem nilSl (w : World) : Sl w 1 (.slice none 0 0) 0 (bv []) := ⟨_, _, rfl, .inl rfl, fun _ => ⟨rfl, rfl⟩, Nat.le_refl _, rfl⟩

set_option maxHeartbeats 2000000 in
theorem walk (A : Option Addr) (c : Nat) (b : List UInt8) (x : Int) (w : World) (hs : Sl w 1 (.slice A b.length c) b.length (bv b)) (hn : b.length ≤ 140737488351232) (hx : (Lit.int .u8 x).wf = true) :
    Calls Try.prog 4 #[.slice A b.length c, .int .u8 x] w fun e w' => e = .returned (.bool true) ∧ Below w.heap.size w w' := by
  have Hs := Lib.hid hs
  clear hs hx
  obtain ⟨n, hbn⟩ : ∃ n, n = b.length := ⟨_, rfl⟩
  have Hbn := Lib.hid hbn
  rw [← hbn] at hn Hs ⊢
  clear hbn
  go_enter Try.func4, Try.ntmps4
  go_wp2_with fail
  refine (new_lives _).mono ?_
  rintro e w1 ⟨g, rfl, h1⟩
  have P1 := Lib.hid h1
  have S1 := Lib.hid (Hs.out.below h1.under)
  clear h1
  go_wp2_with (at_builtin; refine wpList_app rfl eltU8 rfl rfl rfl (n := 0) (xs := []) (own_new _ #[] _ 1 0 rfl (by decide)) (S1.out.below ((Below.refl _ _).alloc (Nat.le_refl _) _)) (bv_one _) (by omega) (by simp only [maxLen]; omega) ?_)
  intro v2 w2 o2 k2 a2 _
  obtain ⟨A2, c2, rfl, _⟩ := Rd.of_own o2
  have o2' : w2.ownsRow 0 5 1 (.slice A2 n c2) n (bv b) := by simpa using o2
  have hk2 : Keep (fun _ => False) w1 w2 := ((Keep.refl (fun _ => False) w1).alloc _).trans k2 (by intro i hi h; simp [Value.ownBlock] at h; omega)
  have P2 := Lib.hid (P1.out.step (X' := blkOf (.slice A2 n c2)) hk2 (by
    intro k hk
    have hlt := own_lt o2' hk
    unfold blkOf at hk
    right
    rcases a2 with e | e <;> (try simp only [Nat.zero_add] at e) <;> rw [e] at hk <;> simp [Value.ownBlock] at hk <;> omega))
  have O2 := Lib.hid o2'
  clear o2 k2 a2 o2' hk2 P1 S1
  try simp only [Nat.zero_add]
  go_wp2_with fail
  refine (awake_any _).mono ?_
  rintro e w3 ⟨rfl, h3⟩
  have P3 := Lib.hid (P2.out.below h3)
  have O3 := Lib.hid (own_keep O2.out (Keep.of_below (S := fun _ => False) h3) (fun _ _ h => h))
  clear h3 P2 O2
  go_wp2_with fail
  refine (send_lives w _ _ _ _ P3.out _ _ _ _ _ b (by simp) (Sl.of_own O3.out) (by omega)).mono ?_
  rintro e w4 ⟨rfl, k4, A4, c4, h4⟩
  have P4 : Hid (Lives w w4 g [⟨0, 0, A4, c4, b⟩] (blkOf (.slice A2 n c2))) := Lib.hid h4
  have O4 : Hid (∃ zs, w4.ownsRow 0 5 1 (.slice A2 n c2) n (nv zs)) := Lib.hid ⟨_, bv_nv b ▸ own_keep O3.out k4 (fun k hk h => h hk)⟩
  clear k4 h4 P3 O3
  go_wp2
  go_loopw [7] (fun v wr => Inv w4 (blkOf (.slice A2 n c2)) (.slice A2 n c2) n v wr) (fun v _ => n - (intOf v).toNat)
  case atStart => exact ⟨0, Nat.zero_le _, rfl, O4.out, Keep.refl _ _⟩
  case round =>
    obtain ⟨i, hi, rfl, ⟨zs, hzs⟩, hkk⟩ := hrel
    have OZ := Lib.hid hzs
    have KK := Lib.hid hkk
    clear hzs hkk
    by_cases hlt : i < n
    · obtain ⟨g2, hA2⟩ := own_some OZ.out (by omega)
      subst hA2
      obtain ⟨z, hz, hf⟩ := own_at OZ.out hlt
      have b1 : (0 : Int) ≤ (i : Int) := by omega
      have b2 : (i : Int) < (n : Int) := by omega
      go_wp2
      go_roundw
      case rel => exact ⟨i + 1, by omega, by go_num, ⟨_, own_set OZ.out hlt _⟩, KK.out.setCell (p := ⟨g2, i, none⟩) (fun _ => rfl) _⟩
      case measure => simp [intOf]; omega
    · have P5 := Lib.hid (P4.out.step (X' := fun _ => False) KK.out (fun _ h => h.elim))
      clear P4 O4 OZ KK
      go_wp2_with fail
      refine (letters_lives w _ _ _ _ P5.out).mono ?_
      rintro e w6 ⟨A6, c6, L', rfl, h6, h6'⟩
      obtain ⟨r1, r2, r3, r4, r5⟩ := h6
      obtain ⟨l, rfl⟩ : ∃ l, L' = [l] := by
        have := congrArg List.length r4
        match L', this with
        | [l], _ => exact ⟨l, rfl⟩
      have hd : l.data = b := by simpa [CL.er] using congrArg (fun x : List (Int × Int × List UInt8) => x.map (·.2.2)) r4
      obtain ⟨g6, cap6, cur6, e6, b6, _⟩ := own_form r1 (by simp)
      injection e6 with e6 _ e6'
      subst e6 e6'
      have hl := r3 l (by simp)
      have q6 := r1.cells (g := g6) rfl 2 (.slice l.A l.data.length l.cap) (by simp [CL.cells, CL.sl])
      rw [Addr.add_lit, Nat.zero_add] at q6
      have hne : ¬ blkOf l.sl g6 := fun e => own_ne_blk hl.1 b6 (by decide) e rfl
      have P6 := Lib.hid (P5.out.step (X' := blkOf l.sl) (Keep.of_below r5) (fun k hk => .inr ⟨hl.2.2 k hk, own_lt hl.1 hk⟩))
      have O6 : Hid (∃ zs, w6.ownsRow 0 5 1 l.sl l.data.length (nv zs)) := Lib.hid ⟨_, bv_nv l.data ▸ hl.1⟩
      have Hne := Lib.hid hne
      have Hd := Lib.hid hd
      have hnl : l.data.length ≤ 140737488351232 := by rw [hd, ← Hbn.out]; exact hn
      clear h6' r1 r2 r3 r4 r5 hl b6 hne hd P5
      simp only [List.length_cons, List.length_nil, Nat.zero_add]
      go_wp2
      go_loopw [9] (fun v wr => Inv w6 (blkOf l.sl) l.sl l.data.length v wr) (fun v _ => l.data.length - (intOf v).toNat)
      case atStart => exact ⟨0, Nat.zero_le _, rfl, O6.out, Keep.refl _ _⟩
      case round =>
        obtain ⟨j, hj, rfl, ⟨ys, hys⟩, hkk⟩ := hrel
        have OY := Lib.hid hys
        have q7 := hkk.cell q6 Hne.out
        have KK := Lib.hid hkk
        clear hys hkk
        by_cases hlt2 : j < l.data.length
        · obtain ⟨g7, hA7⟩ := own_some OY.out (by omega)
          have OY' : Hid (wr.ownsRow 0 5 1 (.slice (some ⟨g7, 0, none⟩) l.data.length l.cap) l.data.length (nv ys)) := Lib.hid (by have := OY.out; unfold CL.sl at this; rw [hA7] at this; exact this)
          have HB7 : Hid (blkOf l.sl g7) := Lib.hid (by unfold blkOf CL.sl; rw [hA7]; rfl)
          rw [hA7] at q7
          obtain ⟨z, hz, hf⟩ := own_at OY'.out hlt2
          have b1 : (0 : Int) ≤ (j : Int) := by omega
          have b2 : (j : Int) < (l.data.length : Int) := by omega
          have HA7 := Lib.hid hA7
          clear hA7
          go_wp2
          go_roundw
          case rel =>
            refine ⟨j + 1, by omega, by go_num, ?_, KK.out.setCell (p := ⟨g7, j, none⟩) (fun _ => HB7.out) _⟩
            unfold CL.sl; rw [HA7.out]; exact ⟨_, own_set OY'.out hlt2 _⟩
          case measure => simp [intOf]; omega
        · have P8 := Lib.hid (P6.out.step (X' := fun _ => False) KK.out (fun _ h => h.elim))
          clear P6 O6 OY KK
          go_wp2_with fail
          refine (take_lives w _ _ _ _ P8.out 0 (by simp)).mono ?_
          rintro e w9 ⟨rfl, _, h9, h9'⟩
          have hW := h9.under
          have s1 : (convert 26 9 (.slice A4 b.length c4)).run Try.prog (w9.alloc (.cells #[.int .i64 0, .int .i64 0, .slice A4 b.length c4] 28)) = .ok (.string ⟨b.toArray⟩) (w9.alloc (.cells #[.int .i64 0, .int .i64 0, .slice A4 b.length c4] 28)) :=
            run_conv_bytes (P := Try.prog) _ Try.underlying26 Try.underlying5 Try.underlying9 (h9'.1.below ((Below.refl _ _).alloc (Nat.le_refl _) _))
          have s2 : (convert 26 9 (.slice A n c)).run Try.prog (w9.alloc (.cells #[.int .i64 0, .int .i64 0, .slice A4 b.length c4] 28)) = .ok (.string ⟨b.toArray⟩) (w9.alloc (.cells #[.int .i64 0, .int .i64 0, .slice A4 b.length c4] 28)) :=
            run_conv_bytes (P := Try.prog) _ Try.underlying26 Try.underlying5 Try.underlying9 (Hs.out.below (hW.alloc hW.size _))
          have HW := Lib.hid hW
          clear h9 h9' hW P8
          go_wp2
          go_ret
          exact ⟨rfl, HW.out.alloc HW.out.size _⟩
end Go.Proofs.Ythpgdoepbkgacaa.lawPostOwn
