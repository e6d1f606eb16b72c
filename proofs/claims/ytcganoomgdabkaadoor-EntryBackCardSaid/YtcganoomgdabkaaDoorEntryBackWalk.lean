/- EntryBack: the walk. -/
import Derived.Test.YtcganoomgdabkaaDoorEntryB
set_option linter.unusedSimpArgs false
set_option linter.unusedVariables false
namespace Go.Proofs.YtcganoomgdabkaaDoor.lawEntryBack
open Go.RowKit

/-- A row of bytes of one's own, made since. -/
def FrB (base : Nat) (wr : World) (v : Value) (bs : Str) : Prop := ∃ A c, v = .slice A bs.length c ∧ wr.ownsRow 0 5 1 (.slice A bs.length c) bs.length (bv bs) ∧ ∀ k, A.map (·.block) = some k → base ≤ k
def BkInv (b : Str) (l : List RW) (base : Nat) (w : World) (v vi : Value) (wr : World) : Prop :=
  ∃ i : Nat, i ≤ l.length ∧ vi = .int .i64 (i : Int) ∧ FrB base wr v (b.take (32 * i)) ∧ Below base w wr
set_option maxRecDepth 100000 in
set_option maxHeartbeats 4000000 in
theorem walk (A : Option Addr) (n c : Nat) (b : Str) (w : World) (hb : Sl w 1 (.slice A n c) n (bv b)) (hn : n ≤ 140737488351232) (hc : c ≤ 9223372036854775807) :
    Calls Tryd.prog 6 #[.slice A n c] w fun e w' => e = .returned (.bool true) ∧ Below w.heap.size w w' := by
  have hnb : b.length = n := by
    obtain ⟨_, _, _, _, _, _, h⟩ := hb
    simpa [bv] using h
  have HSB := Lib.hid hb
  cases hsl : slotsP b with
  | none =>
    have HS := Lib.hid (slots_no hsl w hb hn hc)
    clear hb hsl
    go_enter Tryd.func6, Tryd.ntmps6
    go_wp2_with fail
    refine HS.out.mono ?_
    rintro e w1 ⟨rfl, hb1⟩
    have B1 := Lib.hid hb1
    clear hb1
    go_wp2_with fail
    refine (awake_walk w1).mono ?_
    rintro e w2 ⟨rfl, hb2⟩
    have B2 := Lib.hid (bstep B1.out hb2)
    clear hb2
    go_wp2_with fail
    refine (awake_walk w2).mono ?_
    rintro e w3 ⟨rfl, hb3⟩
    have B3 := Lib.hid (bstep B2.out hb3)
    clear hb3
    go_wp2
    go_ret
    exact ⟨rfl, B3.out⟩
  | some l =>
    have HS := Lib.hid (slots_yes hsl w hb hn hc)
    have HLL := Lib.hid (slotsP_all hsl).1
    have HAL := Lib.hid (slotsP_all hsl).2
    clear hb hsl
    go_enter Tryd.func6, Tryd.ntmps6
    go_wp2_with fail
    refine HS.out.mono ?_
    rintro e w1 ⟨A1, rfl, hs1, hb1⟩
    have B1 := Lib.hid hb1
    have S1 := Lib.hid hs1
    clear hb1 hs1
    go_wp2_with fail
    refine (awake_walk w1).mono ?_
    rintro e w2 ⟨rfl, hb2⟩
    have B2 := Lib.hid (bstep B1.out hb2)
    have S2 := Lib.hid (S1.out.below hb2)
    clear hb2
    have hll : l.length ≤ 8000000000000 := by have := HLL.out; omega
    have HNB := Lib.hid hnb
    clear hnb
    go_upto_region 6 with fail
    go_loopw [5, 6] (fun v vi wr => BkInv b l w2.heap.size w2 v vi wr) (fun _ v _ => l.length - (intOf v).toNat)
    case atStart =>
      refine ⟨0, Nat.zero_le _, rfl, ?_, (Below.refl _ _).alloc (Nat.le_refl _) _⟩
      have hS := own_new w2 #[] 5 1 0 rfl (by decide)
      exact ⟨some ⟨w2.heap.size, 0, none⟩, 0, by simp, by simpa [bv] using hS, by simp⟩
    case round =>
      obtain ⟨i, hi, rfl, ⟨K, kc, rfl, hown, hK⟩, hb⟩ := hrel
      have HB := Lib.hid hb
      have HO := Lib.hid hown
      have HK := Lib.hid hK
      have hwz : w2.heap.size ≤ wr.heap.size := hb.size
      clear hb hown hK
      by_cases hlt : i < l.length
      · obtain ⟨x, hx, hdx⟩ := HAL.out i hlt
        obtain ⟨g0, o0, rfl, hgb, r0, r1⟩ := row_at (S2.out.below HB.out) hx
        have b1 : (0 : Int) ≤ (i : Int) := by omega
        have b2 : (i : Int) < (l.length : Int) := by omega
        have HT := Lib.hid (take_chunk b i)
        have hce : encP x = some (chunkB b i) := (decP_enc hdx).1
        have hcl : (chunkB b i).length = 32 := (decP_enc hdx).2
        obtain ⟨xs, xn⟩ := x
        have hxl : (⟨xs, xn⟩ : RW).name.length ≤ 140737488351232 := by
          have h2 := hdx
          unfold decP at h2
          split at h2
          · injection h2 with h2
            rw [← h2]
            simp only [rawR, List.length_take]
            rename_i hh
            omega
          · cases h2
        have HE := Lib.hid (encode_yes hce wr hxl)
        unfold RW.val at HE
        have HCL := Lib.hid hcl
        clear hx hdx hce hxl hcl
        dsimp only at r0 r1
        have hbs : (b.take (32 * i)).length ≤ 140737488351232 := by have := HNB.out; rw [List.length_take]; omega
        obtain ⟨bs, hbs2⟩ : ∃ bs, bs = b.take (32 * i) := ⟨_, rfl⟩
        rw [← hbs2] at HO hbs ⊢
        have HBS := Lib.hid hbs2
        obtain ⟨ck, hck⟩ : ∃ ck, ck = chunkB b i := ⟨_, rfl⟩
        rw [← hck] at HE HCL HT
        clear hbs2 hck
        go_wp2_with fail
        refine HE.out.mono ?_
        rintro e w3 ⟨g, rfl, ho3, hg3, hb3⟩
        have HB3 := Lib.hid (HB.out.trans (hb3.mono hwz))
        have HO3 := Lib.hid (own_keep HO.out (Keep.of_below (S := fun _ => False) hb3) (fun _ _ h => h))
        have HX3 := Lib.hid (Sl.of_own ho3)
        have hwz3 : w2.heap.size ≤ w3.heap.size := HB3.out.size
        have HNE := Lib.hid (bv_one ck)
        clear hb3 ho3 hg3 r0 r1 hgb
        go_wp2_with (at_builtin; go_must (refine wpList_app rfl eltB rfl rfl rfl (n := bs.length) (m := 32) HO3.out HX3.out HNE.out (by omega) (by simp only [maxLen]; omega) ?_))
        intro v4 w4 g1 g2 g3 g4
        clear g4
        obtain ⟨A4, c4, rfl, _⟩ := Rd.of_own g1
        have hk4 : Keep (fun k => w2.heap.size ≤ k) w3 w4 := g2.mono (fun j _ e => HK.out j (by rw [ownBlock_slice] at e; exact e))
        have hb4 := HB3.out.trans (hk4.below (B := w2.heap.size) (fun _ h => h) hwz3)
        have hf4 : ∀ k, A4.map (·.block) = some k → w2.heap.size ≤ k := by
          intro k e
          rcases g3 with h | h <;> rw [ownBlock_slice] at h
          · rw [ownBlock_slice] at h; exact HK.out k (h ▸ e)
          · rw [e] at h; injection h with h; omega
        have HR := Lib.hid (show FrB w2.heap.size w4 (.slice A4 (bs.length + 32) c4) (bs ++ ck) from ⟨A4, c4, by rw [List.length_append, HCL.out], by rw [List.length_append, HCL.out, bv_app]; exact g1, hf4⟩)
        have HB4 := Lib.hid hb4
        clear g1 g2 g3 hk4 hb4 hf4
        go_wp2
        go_roundw
        case rel => exact ⟨i + 1, by omega, by go_num, by rw [HT.out, ← HBS.out]; exact HR.out, HB4.out⟩
        case measure => simp [intOf]; omega
      · obtain rfl : i = l.length := by omega
        have htk : b.take (32 * l.length) = b := List.take_of_length_le (by rw [HLL.out]; exact Nat.le_refl _)
        rw [htk] at HO ⊢
        have HBW := Lib.hid (bstep B2.out HB.out)
        have k1 := run_conv_bytes (P := Tryd.prog) wr Tryd.underlying24 Tryd.underlying5 Tryd.underlying9 (Sl.of_own HO.out)
        have k2 := run_conv_bytes (P := Tryd.prog) wr Tryd.underlying24 Tryd.underlying5 Tryd.underlying9 (HSB.out.below HBW.out)
        clear htk
        go_wp2
        go_ret
        exact ⟨rfl, HBW.out⟩
end Go.Proofs.YtcganoomgdabkaaDoor.lawEntryBack
