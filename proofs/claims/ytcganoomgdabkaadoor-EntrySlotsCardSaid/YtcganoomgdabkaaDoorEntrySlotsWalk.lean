/- EntrySlots: the walk. (printed by entslots.py) -/
import Derived.Test.YtcganoomgdabkaaDoorEntryB
set_option linter.unusedSimpArgs false
set_option linter.unusedVariables false
namespace Go.Proofs.YtcganoomgdabkaaDoor.lawEntrySlots
open Go.RowKit

def stepsP (b : Str) (i : Nat) : Option (List RW) := (List.range i).foldl (fun o k => stepR o (chunkB b k)) (some [])
theorem stepsP_succ (b : Str) (i : Nat) : stepsP b (i + 1) = stepR (stepsP b i) (chunkB b i) := by simp [stepsP, List.range_succ]
theorem stepsP_none (b : Str) (i : Nat) (h : stepsP b i = none) : ∀ d, stepsP b (i + d) = none := by
  intro d
  induction d with
  | zero => exact h
  | succ d ih => rw [← Nat.add_assoc, stepsP_succ, ih]; rfl
theorem slotsP_eq (b : Str) : slotsP b = if b.length % 32 = 0 then stepsP b (b.length / 32) else none := by
  unfold slotsP stepsP foldR
  rw [show List.range (b.length / 32) = (List.finRange (b.length / 32)).map (·.val) from ?_]
  · rw [List.foldl_map]
  · apply List.ext_getElem
    · simp
    · intro i h1 h2
      simp
/-- A row of entries of one's own, made since. -/
def FrR (base : Nat) (wr : World) (v : Value) (rs : List RW) : Prop := ∃ A c, v = .slice A rs.length c ∧ wr.ownsRow 0 23 2 (.slice A rs.length c) rs.length (rows rs) ∧ ∀ k, A.map (·.block) = some k → base ≤ k
def SlInv (b : Str) (base : Nat) (w : World) (v5 v6 v7 : Value) (wr : World) : Prop :=
  ∃ i : Nat, 32 * i ≤ b.length ∧ v7 = .int .i64 ((32 * i : Nat) : Int) ∧ Below base w wr ∧
    ((v5 = .bool true ∧ b.length % 32 = 0 ∧ ∃ rs, stepsP b i = some rs ∧ rs.length ≤ i ∧ FrR base wr v6 rs) ∨ (v5 = .bool false ∧ slotsP b = none))
theorem slots_bad {b : Str} {i : Nat} (h : 32 * i + 32 ≤ b.length) (hn : stepsP b (i + 1) = none) : slotsP b = none := by
  rw [slotsP_eq]
  split
  · obtain ⟨d, hd⟩ : ∃ d, b.length / 32 = i + 1 + d := ⟨b.length / 32 - (i + 1), by omega⟩
    rw [hd]
    exact stepsP_none b (i + 1) hn d
  · rfl
theorem slots_good {b : Str} {i : Nat} {rs : List RW} (hm : b.length % 32 = 0) (h0 : 32 * i ≤ b.length) (h : ¬ 32 * i + 32 ≤ b.length) (hs : stepsP b i = some rs) : slotsP b = some rs := by
  rw [slotsP_eq, if_pos hm, show b.length / 32 = i by omega]
  exact hs
theorem dec_len {b : Str} {s : Str} {m : Int} (h : decP b = some ⟨s, m⟩) : s.length ≤ 24 := by
  have h2 := h
  unfold decP at h2
  split at h2
  · rename_i hh
    injection h2 with h2
    have : s = (rawR b).name := by rw [h2]
    rw [this]
    simp only [rawR, List.length_take]
    omega
  · cases h2
theorem sl_base {w : World} {A : Option Addr} {n c : Nat} {b : Str} (h : Sl w 1 (.slice A n c) n (bv b)) (hn : n ≠ 0) : ∃ g o, A = some ⟨g, o, none⟩ := by
  have hl : b.length = n := by
    obtain ⟨_, _, _, _, _, _, h⟩ := h
    simpa [bv] using h
  obtain ⟨e, he⟩ : ∃ e, b[0]? = some e := ⟨b[0], List.getElem?_eq_getElem (by omega)⟩
  obtain ⟨g, o, hA, _⟩ := bv_at h he
  exact ⟨g, o, hA⟩
set_option maxRecDepth 100000 in
set_option maxHeartbeats 4000000 in
theorem walk (A : Option Addr) (n c : Nat) (b : Str) (w : World) (hb : Sl w 1 (.slice A n c) n (bv b)) (hn : n ≤ 140737488351232) (hc : c ≤ 9223372036854775807) :
    Calls Tryd.prog 4 #[.slice A n c] w fun e w' => e = .returned (.bool true) ∧ Below w.heap.size w w' := by
  have hnb : b.length = n := by
    obtain ⟨_, _, _, _, _, _, h⟩ := hb
    simpa [bv] using h
  have hnc : n ≤ c := by
    obtain ⟨_, _, e, _, _, h, _⟩ := hb
    injection e with _ _ e
    omega
  have HSB := Lib.hid hb
  by_cases hbig : n > 3000
  · have b1 : (3000 : Int) < (n : Int) := by omega
    clear hb hnb
    go_enter Tryd.func4, Tryd.ntmps4
    go_wp2_with fail
    refine (awake_walk w).mono ?_
    rintro e w2 ⟨rfl, hb2⟩
    have B2 := Lib.hid hb2
    clear hb2
    go_wp2
    go_ret
    exact ⟨rfl, B2.out⟩
  have b1 : ¬ (3000 : Int) < (n : Int) := by omega
  have hn3 : n ≤ 3000 := by omega
  have HNB := Lib.hid hnb
  clear hnb hbig
  cases hsl : slotsP b with
  | none =>
    have HSN := Lib.hid hsl
    have HS := Lib.hid (slots_no hsl w hb hn hc)
    clear hb hsl
    go_enter Tryd.func4, Tryd.ntmps4
    go_wp2_with fail
    refine HS.out.mono ?_
    rintro e w1 ⟨rfl, hb1⟩
    have B1 := Lib.hid hb1
    have HBW := Lib.hid (HSB.out.below hb1)
    clear hb1
    go_upto_region 7 with fail
    go_loopw [5, 6, 7] (fun v5 v6 v7 wr => SlInv b w1.heap.size w1 v5 v6 v7 wr) (fun _ _ v _ => n - (intOf v).toNat)
    case atStart =>
      refine ⟨0, Nat.zero_le _, rfl, (Below.refl _ _).alloc (Nat.le_refl _) _, ?_⟩
      by_cases hm : b.length % 32 = 0
      · refine .inl ⟨?_, hm, [], rfl, Nat.le_refl _, ?_⟩
        · have hm2 : ((n : Int) % 32) = 0 := by have := HNB.out; omega
          first | (rw [Value.bool.injEq]; simp; omega) | (simp [hm2])
        · have hS := own_new w1 #[] 23 2 0 rfl (by decide)
          exact ⟨some ⟨w1.heap.size, 0, none⟩, 0, by simp, by simpa [rows] using hS, by simp⟩
      · refine .inr ⟨?_, by rw [slotsP_eq, if_neg hm]⟩
        have hm2 : ¬ ((n : Int) % 32) = 0 := by have := HNB.out; omega
        first | (rw [Value.bool.injEq]; simp; omega) | (simp [hm2])
    case round =>
      obtain ⟨i, hi, rfl, hb, ⟨rfl, hm, rs, hst, hrl, K, kc, rfl, hown, hK⟩ | ⟨rfl, hno⟩⟩ := hrel
      · have hi3 : i ≤ 3000 := by have := HNB.out; omega
        obtain ⟨p, hp⟩ : ∃ p, p = 32 * i := ⟨_, rfl⟩
        have hpn : p ≤ n := by rw [hp, ← HNB.out]; exact hi
        have HB := Lib.hid hb
        have HO := Lib.hid hown
        have HK := Lib.hid hK
        have HST := Lib.hid hst
        have hwz : w1.heap.size ≤ wr.heap.size := hb.size
        by_cases hlt : 32 * i + 32 ≤ b.length
        · have hlt2 : 32 * i + 32 ≤ n := by rw [← HNB.out]; exact hlt
          obtain ⟨g, o, rfl⟩ := sl_base HSB.out (by omega)
          have HCK : Hid (Sl wr 1 (.slice (some ⟨g, o + 32 * i, none⟩) 32 (c - 32 * i)) 32 (bv (chunkB b i))) := Lib.hid (by
            have h := bv_part (HBW.out.below hb) (32 * i) (32 * i + 32) (c - 32 * i) (by omega) hlt (by omega)
            rw [show 32 * i + 32 - 32 * i = 32 by omega] at h
            exact h)
          have HLT := Lib.hid hlt
          have HM := Lib.hid hm
          clear hb hown hK hst hm hlt
          have HP := Lib.hid hp
          have HI : Hid (p + 32 = 32 * (i + 1)) := Lib.hid (by omega)
          rw [← hp] at HCK hlt2 ⊢
          have p0 : (0 : Int) ≤ (p : Int) := by omega
          have p1 : (p : Int) + 32 ≤ (n : Int) := by omega
          have p2 : (p : Int) + 32 ≤ (c : Int) := by omega
          clear hp
          cases hd : decP (chunkB b i) with
          | none =>
            have hbad : slotsP b = none := slots_bad HLT.out (by rw [stepsP_succ, HST.out]; simp [stepR, hd])
            have HBAD := Lib.hid hbad
            have HD := Lib.hid (decode_no hd wr HCK.out)
            clear hd hbad
            go_wp2_with fail
            refine HD.out.mono ?_
            rintro e w4 ⟨rfl, hb4⟩
            obtain ⟨w5, hw5⟩ : ∃ w5, w5 = w4.alloc (.cells #[.string ⟨([] : Str).toArray⟩, .int .i64 0] 23) := ⟨_, rfl⟩
            have hb5 : Below w4.heap.size w4 w5 := by rw [hw5]; exact (Below.refl _ w4).alloc (Nat.le_refl _) _
            have X5 : w5.heap[w4.heap.size]? = some (.cells #[.string ⟨([] : Str).toArray⟩, .int .i64 0] 23 (0, 0)) := by rw [hw5]; exact blk_new w4 _
            have c5 := blk_cells X5
            have l5 := blk_lt X5
            have HB5 := Lib.hid (HB.out.trans ((bstep hb4 hb5).mono hwz))
            have HO5 := Lib.hid (own_keep HO.out (Keep.of_below (S := fun _ => False) (bstep hb4 hb5)) (fun _ _ h => h))
            have HW5 := Lib.hid hw5
            have hwz5 : w1.heap.size ≤ w5.heap.size := HB5.out.size
            clear hb4 hb5 hw5 X5
            go_upto_region 10 with fail
            rw [← HW5.out]
            go_upto_region 11 with fail
            have hS5 := own_new w5 #[.string ⟨([] : Str).toArray⟩, .int .i64 0] 23 2 1 rfl (by decide)
            have HSO := Lib.hid hS5
            clear hS5
            go_wp2_with (at_builtin; go_must (refine wpList_app rfl eltRow rfl rfl rfl (n := rs.length) (m := 1) (own_keep HO5.out ((Keep.refl (fun _ => False) _).alloc _) (fun _ _ h => h)) (Sl.of_own HSO.out) (by simp [Value.oneCell']) (by omega) (by simp only [maxLen]; omega) ?_))
            intro v6 w6 g1 g2 g3 g4
            clear g4
            obtain ⟨A6, c6, rfl, _⟩ := Rd.of_own g1
            have hk6 : Keep (fun k => w1.heap.size ≤ k) w5 w6 := (((Keep.refl (fun _ => False) w5).alloc _).mono (T := fun k => w1.heap.size ≤ k) (fun _ _ h => h.elim)).trans g2 (fun j _ e => HK.out j (by rw [ownBlock_slice] at e; exact e))
            have hb6 := HB5.out.trans (hk6.below (B := w1.heap.size) (fun _ h => h) hwz5)
            have hf6 : ∀ k, A6.map (·.block) = some k → w1.heap.size ≤ k := by
              intro k e
              rcases g3 with h | h <;> rw [ownBlock_slice] at h
              · rw [ownBlock_slice] at h; exact HK.out k (h ▸ e)
              · rw [e] at h; injection h with h; first | omega | (simp at h; omega)
            have HG := Lib.hid g1
            have HF6 := Lib.hid hf6
            have HB6 := Lib.hid hb6
            clear g1 g2 g3 hk6 hb6 hf6
            go_wp2
            go_roundw
            case rel => exact ⟨i + 1, by have := HLT.out; omega, by rw [← HI.out]; go_num, HB6.out, .inr ⟨rfl, HBAD.out⟩⟩
            case measure => simp [intOf]; omega
          | some rr =>
            obtain ⟨xs, xn⟩ := rr
            have hxl := dec_len hd
            have HD := Lib.hid (decode_yes hd wr HCK.out)
            cases hf : findP rs xs with
            | some k0 =>
              have hbad : slotsP b = none := slots_bad HLT.out (by rw [stepsP_succ, HST.out]; simp [stepR, hd, hf])
              have HBAD := Lib.hid hbad
              have HR := Lib.hid (fun w h => rfind_walk K kc rs xs w h (by omega))
              rw [hf, show numO (some k0) = (k0 : Int) from rfl] at HR
              have hk0 : ¬ ((k0 : Int) < 0) := by omega
              clear hd hbad hf
              go_wp2_with fail
              refine HD.out.mono ?_
              rintro e w4 ⟨rfl, hb4⟩
              obtain ⟨w5, hw5⟩ : ∃ w5, w5 = w4.alloc (.cells #[.string ⟨xs.toArray⟩, .int .i64 xn] 23) := ⟨_, rfl⟩
              have hb5 : Below w4.heap.size w4 w5 := by rw [hw5]; exact (Below.refl _ w4).alloc (Nat.le_refl _) _
              have X5 : w5.heap[w4.heap.size]? = some (.cells #[.string ⟨xs.toArray⟩, .int .i64 xn] 23 (0, 0)) := by rw [hw5]; exact blk_new w4 _
              have c5 := blk_cells X5
              have l5 := blk_lt X5
              have HB5 := Lib.hid (HB.out.trans ((bstep hb4 hb5).mono hwz))
              have HO5 := Lib.hid (own_keep HO.out (Keep.of_below (S := fun _ => False) (bstep hb4 hb5)) (fun _ _ h => h))
              have HW5 := Lib.hid hw5
              have hwz5 : w1.heap.size ≤ w5.heap.size := HB5.out.size
              clear hb4 hb5 hw5 X5
              go_upto_region 10 with fail
              rw [← HW5.out]
              go_wp2_with fail
              refine (HR.out _ (Sl.of_own HO5.out)).mono ?_
              rintro e w5b ⟨rfl, hw5b⟩
              have hw5c := hw5b.symm
              clear hw5b
              subst hw5c
              go_upto_region 11 with fail
              have hS5 := own_new w5 #[.string ⟨xs.toArray⟩, .int .i64 xn] 23 2 1 rfl (by decide)
              have HSO := Lib.hid hS5
              clear hS5
              go_wp2_with (at_builtin; go_must (refine wpList_app rfl eltRow rfl rfl rfl (n := rs.length) (m := 1) (own_keep HO5.out ((Keep.refl (fun _ => False) _).alloc _) (fun _ _ h => h)) (Sl.of_own HSO.out) (by simp [Value.oneCell']) (by omega) (by simp only [maxLen]; omega) ?_))
              intro v6 w6 g1 g2 g3 g4
              clear g4
              obtain ⟨A6, c6, rfl, _⟩ := Rd.of_own g1
              have hk6 : Keep (fun k => w1.heap.size ≤ k) w5 w6 := (((Keep.refl (fun _ => False) w5).alloc _).mono (T := fun k => w1.heap.size ≤ k) (fun _ _ h => h.elim)).trans g2 (fun j _ e => HK.out j (by rw [ownBlock_slice] at e; exact e))
              have hb6 := HB5.out.trans (hk6.below (B := w1.heap.size) (fun _ h => h) hwz5)
              have hf6 : ∀ k, A6.map (·.block) = some k → w1.heap.size ≤ k := by
                intro k e
                rcases g3 with h | h <;> rw [ownBlock_slice] at h
                · rw [ownBlock_slice] at h; exact HK.out k (h ▸ e)
                · rw [e] at h; injection h with h; first | omega | (simp at h; omega)
              have HG := Lib.hid g1
              have HF6 := Lib.hid hf6
              have HB6 := Lib.hid hb6
              clear g1 g2 g3 hk6 hb6 hf6
              go_wp2
              go_roundw
              case rel => exact ⟨i + 1, by have := HLT.out; omega, by rw [← HI.out]; go_num, HB6.out, .inr ⟨rfl, HBAD.out⟩⟩
              case measure => simp [intOf]; omega
            | none =>
              have HGOOD : Hid (stepsP b (i + 1) = some (rs ++ [⟨xs, xn⟩])) := Lib.hid (by rw [stepsP_succ, HST.out]; simp [stepR, hd, hf])
              have HR := Lib.hid (fun w h => rfind_walk K kc rs xs w h (by omega))
              rw [hf, show numO none = -1 from rfl] at HR
              clear hd hf
              go_wp2_with fail
              refine HD.out.mono ?_
              rintro e w4 ⟨rfl, hb4⟩
              obtain ⟨w5, hw5⟩ : ∃ w5, w5 = w4.alloc (.cells #[.string ⟨xs.toArray⟩, .int .i64 xn] 23) := ⟨_, rfl⟩
              have hb5 : Below w4.heap.size w4 w5 := by rw [hw5]; exact (Below.refl _ w4).alloc (Nat.le_refl _) _
              have X5 : w5.heap[w4.heap.size]? = some (.cells #[.string ⟨xs.toArray⟩, .int .i64 xn] 23 (0, 0)) := by rw [hw5]; exact blk_new w4 _
              have c5 := blk_cells X5
              have l5 := blk_lt X5
              have HB5 := Lib.hid (HB.out.trans ((bstep hb4 hb5).mono hwz))
              have HO5 := Lib.hid (own_keep HO.out (Keep.of_below (S := fun _ => False) (bstep hb4 hb5)) (fun _ _ h => h))
              have HW5 := Lib.hid hw5
              have hwz5 : w1.heap.size ≤ w5.heap.size := HB5.out.size
              clear hb4 hb5 hw5 X5
              go_upto_region 10 with fail
              rw [← HW5.out]
              go_wp2_with fail
              refine (HR.out _ (Sl.of_own HO5.out)).mono ?_
              rintro e w5b ⟨rfl, hw5b⟩
              have hw5c := hw5b.symm
              clear hw5b
              subst hw5c
              go_upto_region 11 with fail
              have hS5 := own_new w5 #[.string ⟨xs.toArray⟩, .int .i64 xn] 23 2 1 rfl (by decide)
              have HSO := Lib.hid hS5
              clear hS5
              go_wp2_with (at_builtin; go_must (refine wpList_app rfl eltRow rfl rfl rfl (n := rs.length) (m := 1) (own_keep HO5.out ((Keep.refl (fun _ => False) _).alloc _) (fun _ _ h => h)) (Sl.of_own HSO.out) (by simp [Value.oneCell']) (by omega) (by simp only [maxLen]; omega) ?_))
              intro v6 w6 g1 g2 g3 g4
              clear g4
              obtain ⟨A6, c6, rfl, _⟩ := Rd.of_own g1
              have hk6 : Keep (fun k => w1.heap.size ≤ k) w5 w6 := (((Keep.refl (fun _ => False) w5).alloc _).mono (T := fun k => w1.heap.size ≤ k) (fun _ _ h => h.elim)).trans g2 (fun j _ e => HK.out j (by rw [ownBlock_slice] at e; exact e))
              have hb6 := HB5.out.trans (hk6.below (B := w1.heap.size) (fun _ h => h) hwz5)
              have hf6 : ∀ k, A6.map (·.block) = some k → w1.heap.size ≤ k := by
                intro k e
                rcases g3 with h | h <;> rw [ownBlock_slice] at h
                · rw [ownBlock_slice] at h; exact HK.out k (h ▸ e)
                · rw [e] at h; injection h with h; first | omega | (simp at h; omega)
              have HG := Lib.hid g1
              have HF6 := Lib.hid hf6
              have HB6 := Lib.hid hb6
              clear g1 g2 g3 hk6 hb6 hf6
              go_wp2
              go_roundw
              case rel => exact ⟨i + 1, by have := HLT.out; omega, by rw [← HI.out]; go_num, HB6.out, .inl ⟨rfl, HM.out, _, HGOOD.out, by simp; omega, A6, c6, by simp, by rw [List.length_append, rows_snoc]; exact HG.out, HF6.out⟩⟩
              case measure => simp [intOf]; omega
        · have HG : Hid (slotsP b = some rs) := Lib.hid (slots_good hm hi hlt hst)
          rw [HSN.out] at HG
          exact absurd HG.out (by simp)
      · have HNO := Lib.hid hno
        have HBX := Lib.hid hb
        obtain ⟨p, hp⟩ : ∃ p, p = 32 * i := ⟨_, rfl⟩
        have hpn : p ≤ n := by rw [hp, ← HNB.out]; exact hi
        rw [← hp]
        clear hb hno hp hi
        by_cases hq : (p : Int) + 32 ≤ (n : Int)
        all_goals
          go_wp2_with fail
          refine (awake_walk wr).mono ?_
          rintro e w7 ⟨rfl, hb7⟩
          have B7 := Lib.hid (bstep (bstep B1.out HBX.out) hb7)
          clear hb7
          go_wp2
          go_ret
          exact ⟨rfl, B7.out⟩
  | some L =>
    have HSN := Lib.hid hsl
    have HS := Lib.hid (slots_yes hsl w hb hn hc)
    have hll : L.length ≤ 3000 := by have := (slotsP_all hsl).1; have := HNB.out; omega
    clear hb hsl
    go_enter Tryd.func4, Tryd.ntmps4
    go_wp2_with fail
    refine HS.out.mono ?_
    rintro e w1 ⟨A1, rfl, hs1, hb1⟩
    have B1 := Lib.hid hb1
    have HBW := Lib.hid (HSB.out.below hb1)
    have S1 := Lib.hid hs1
    clear hb1 hs1
    go_upto_region 7 with fail
    go_loopw [5, 6, 7] (fun v5 v6 v7 wr => SlInv b w1.heap.size w1 v5 v6 v7 wr) (fun _ _ v _ => n - (intOf v).toNat)
    case atStart =>
      refine ⟨0, Nat.zero_le _, rfl, (Below.refl _ _).alloc (Nat.le_refl _) _, ?_⟩
      by_cases hm : b.length % 32 = 0
      · refine .inl ⟨?_, hm, [], rfl, Nat.le_refl _, ?_⟩
        · have hm2 : ((n : Int) % 32) = 0 := by have := HNB.out; omega
          first | (rw [Value.bool.injEq]; simp; omega) | (simp [hm2])
        · have hS := own_new w1 #[] 23 2 0 rfl (by decide)
          exact ⟨some ⟨w1.heap.size, 0, none⟩, 0, by simp, by simpa [rows] using hS, by simp⟩
      · refine .inr ⟨?_, by rw [slotsP_eq, if_neg hm]⟩
        have hm2 : ¬ ((n : Int) % 32) = 0 := by have := HNB.out; omega
        first | (rw [Value.bool.injEq]; simp; omega) | (simp [hm2])
    case round =>
      obtain ⟨i, hi, rfl, hb, ⟨rfl, hm, rs, hst, hrl, K, kc, rfl, hown, hK⟩ | ⟨rfl, hno⟩⟩ := hrel
      · have hi3 : i ≤ 3000 := by have := HNB.out; omega
        obtain ⟨p, hp⟩ : ∃ p, p = 32 * i := ⟨_, rfl⟩
        have hpn : p ≤ n := by rw [hp, ← HNB.out]; exact hi
        have HB := Lib.hid hb
        have HO := Lib.hid hown
        have HK := Lib.hid hK
        have HST := Lib.hid hst
        have hwz : w1.heap.size ≤ wr.heap.size := hb.size
        by_cases hlt : 32 * i + 32 ≤ b.length
        · have hlt2 : 32 * i + 32 ≤ n := by rw [← HNB.out]; exact hlt
          obtain ⟨g, o, rfl⟩ := sl_base HSB.out (by omega)
          have HCK : Hid (Sl wr 1 (.slice (some ⟨g, o + 32 * i, none⟩) 32 (c - 32 * i)) 32 (bv (chunkB b i))) := Lib.hid (by
            have h := bv_part (HBW.out.below hb) (32 * i) (32 * i + 32) (c - 32 * i) (by omega) hlt (by omega)
            rw [show 32 * i + 32 - 32 * i = 32 by omega] at h
            exact h)
          have HLT := Lib.hid hlt
          have HM := Lib.hid hm
          clear hb hown hK hst hm hlt
          have HP := Lib.hid hp
          have HI : Hid (p + 32 = 32 * (i + 1)) := Lib.hid (by omega)
          rw [← hp] at HCK hlt2 ⊢
          have p0 : (0 : Int) ≤ (p : Int) := by omega
          have p1 : (p : Int) + 32 ≤ (n : Int) := by omega
          have p2 : (p : Int) + 32 ≤ (c : Int) := by omega
          clear hp
          cases hd : decP (chunkB b i) with
          | none =>
            have hbad : slotsP b = none := slots_bad HLT.out (by rw [stepsP_succ, HST.out]; simp [stepR, hd])
            have HBAD := Lib.hid hbad
            have HD := Lib.hid (decode_no hd wr HCK.out)
            clear hd hbad
            go_wp2_with fail
            refine HD.out.mono ?_
            rintro e w4 ⟨rfl, hb4⟩
            obtain ⟨w5, hw5⟩ : ∃ w5, w5 = w4.alloc (.cells #[.string ⟨([] : Str).toArray⟩, .int .i64 0] 23) := ⟨_, rfl⟩
            have hb5 : Below w4.heap.size w4 w5 := by rw [hw5]; exact (Below.refl _ w4).alloc (Nat.le_refl _) _
            have X5 : w5.heap[w4.heap.size]? = some (.cells #[.string ⟨([] : Str).toArray⟩, .int .i64 0] 23 (0, 0)) := by rw [hw5]; exact blk_new w4 _
            have c5 := blk_cells X5
            have l5 := blk_lt X5
            have HB5 := Lib.hid (HB.out.trans ((bstep hb4 hb5).mono hwz))
            have HO5 := Lib.hid (own_keep HO.out (Keep.of_below (S := fun _ => False) (bstep hb4 hb5)) (fun _ _ h => h))
            have HW5 := Lib.hid hw5
            have hwz5 : w1.heap.size ≤ w5.heap.size := HB5.out.size
            clear hb4 hb5 hw5 X5
            go_upto_region 10 with fail
            rw [← HW5.out]
            go_upto_region 11 with fail
            have hS5 := own_new w5 #[.string ⟨([] : Str).toArray⟩, .int .i64 0] 23 2 1 rfl (by decide)
            have HSO := Lib.hid hS5
            clear hS5
            go_wp2_with (at_builtin; go_must (refine wpList_app rfl eltRow rfl rfl rfl (n := rs.length) (m := 1) (own_keep HO5.out ((Keep.refl (fun _ => False) _).alloc _) (fun _ _ h => h)) (Sl.of_own HSO.out) (by simp [Value.oneCell']) (by omega) (by simp only [maxLen]; omega) ?_))
            intro v6 w6 g1 g2 g3 g4
            clear g4
            obtain ⟨A6, c6, rfl, _⟩ := Rd.of_own g1
            have hk6 : Keep (fun k => w1.heap.size ≤ k) w5 w6 := (((Keep.refl (fun _ => False) w5).alloc _).mono (T := fun k => w1.heap.size ≤ k) (fun _ _ h => h.elim)).trans g2 (fun j _ e => HK.out j (by rw [ownBlock_slice] at e; exact e))
            have hb6 := HB5.out.trans (hk6.below (B := w1.heap.size) (fun _ h => h) hwz5)
            have hf6 : ∀ k, A6.map (·.block) = some k → w1.heap.size ≤ k := by
              intro k e
              rcases g3 with h | h <;> rw [ownBlock_slice] at h
              · rw [ownBlock_slice] at h; exact HK.out k (h ▸ e)
              · rw [e] at h; injection h with h; first | omega | (simp at h; omega)
            have HG := Lib.hid g1
            have HF6 := Lib.hid hf6
            have HB6 := Lib.hid hb6
            clear g1 g2 g3 hk6 hb6 hf6
            go_wp2
            go_roundw
            case rel => exact ⟨i + 1, by have := HLT.out; omega, by rw [← HI.out]; go_num, HB6.out, .inr ⟨rfl, HBAD.out⟩⟩
            case measure => simp [intOf]; omega
          | some rr =>
            obtain ⟨xs, xn⟩ := rr
            have hxl := dec_len hd
            have HD := Lib.hid (decode_yes hd wr HCK.out)
            cases hf : findP rs xs with
            | some k0 =>
              have hbad : slotsP b = none := slots_bad HLT.out (by rw [stepsP_succ, HST.out]; simp [stepR, hd, hf])
              have HBAD := Lib.hid hbad
              have HR := Lib.hid (fun w h => rfind_walk K kc rs xs w h (by omega))
              rw [hf, show numO (some k0) = (k0 : Int) from rfl] at HR
              have hk0 : ¬ ((k0 : Int) < 0) := by omega
              clear hd hbad hf
              go_wp2_with fail
              refine HD.out.mono ?_
              rintro e w4 ⟨rfl, hb4⟩
              obtain ⟨w5, hw5⟩ : ∃ w5, w5 = w4.alloc (.cells #[.string ⟨xs.toArray⟩, .int .i64 xn] 23) := ⟨_, rfl⟩
              have hb5 : Below w4.heap.size w4 w5 := by rw [hw5]; exact (Below.refl _ w4).alloc (Nat.le_refl _) _
              have X5 : w5.heap[w4.heap.size]? = some (.cells #[.string ⟨xs.toArray⟩, .int .i64 xn] 23 (0, 0)) := by rw [hw5]; exact blk_new w4 _
              have c5 := blk_cells X5
              have l5 := blk_lt X5
              have HB5 := Lib.hid (HB.out.trans ((bstep hb4 hb5).mono hwz))
              have HO5 := Lib.hid (own_keep HO.out (Keep.of_below (S := fun _ => False) (bstep hb4 hb5)) (fun _ _ h => h))
              have HW5 := Lib.hid hw5
              have hwz5 : w1.heap.size ≤ w5.heap.size := HB5.out.size
              clear hb4 hb5 hw5 X5
              go_upto_region 10 with fail
              rw [← HW5.out]
              go_wp2_with fail
              refine (HR.out _ (Sl.of_own HO5.out)).mono ?_
              rintro e w5b ⟨rfl, hw5b⟩
              have hw5c := hw5b.symm
              clear hw5b
              subst hw5c
              go_upto_region 11 with fail
              have hS5 := own_new w5 #[.string ⟨xs.toArray⟩, .int .i64 xn] 23 2 1 rfl (by decide)
              have HSO := Lib.hid hS5
              clear hS5
              go_wp2_with (at_builtin; go_must (refine wpList_app rfl eltRow rfl rfl rfl (n := rs.length) (m := 1) (own_keep HO5.out ((Keep.refl (fun _ => False) _).alloc _) (fun _ _ h => h)) (Sl.of_own HSO.out) (by simp [Value.oneCell']) (by omega) (by simp only [maxLen]; omega) ?_))
              intro v6 w6 g1 g2 g3 g4
              clear g4
              obtain ⟨A6, c6, rfl, _⟩ := Rd.of_own g1
              have hk6 : Keep (fun k => w1.heap.size ≤ k) w5 w6 := (((Keep.refl (fun _ => False) w5).alloc _).mono (T := fun k => w1.heap.size ≤ k) (fun _ _ h => h.elim)).trans g2 (fun j _ e => HK.out j (by rw [ownBlock_slice] at e; exact e))
              have hb6 := HB5.out.trans (hk6.below (B := w1.heap.size) (fun _ h => h) hwz5)
              have hf6 : ∀ k, A6.map (·.block) = some k → w1.heap.size ≤ k := by
                intro k e
                rcases g3 with h | h <;> rw [ownBlock_slice] at h
                · rw [ownBlock_slice] at h; exact HK.out k (h ▸ e)
                · rw [e] at h; injection h with h; first | omega | (simp at h; omega)
              have HG := Lib.hid g1
              have HF6 := Lib.hid hf6
              have HB6 := Lib.hid hb6
              clear g1 g2 g3 hk6 hb6 hf6
              go_wp2
              go_roundw
              case rel => exact ⟨i + 1, by have := HLT.out; omega, by rw [← HI.out]; go_num, HB6.out, .inr ⟨rfl, HBAD.out⟩⟩
              case measure => simp [intOf]; omega
            | none =>
              have HGOOD : Hid (stepsP b (i + 1) = some (rs ++ [⟨xs, xn⟩])) := Lib.hid (by rw [stepsP_succ, HST.out]; simp [stepR, hd, hf])
              have HR := Lib.hid (fun w h => rfind_walk K kc rs xs w h (by omega))
              rw [hf, show numO none = -1 from rfl] at HR
              clear hd hf
              go_wp2_with fail
              refine HD.out.mono ?_
              rintro e w4 ⟨rfl, hb4⟩
              obtain ⟨w5, hw5⟩ : ∃ w5, w5 = w4.alloc (.cells #[.string ⟨xs.toArray⟩, .int .i64 xn] 23) := ⟨_, rfl⟩
              have hb5 : Below w4.heap.size w4 w5 := by rw [hw5]; exact (Below.refl _ w4).alloc (Nat.le_refl _) _
              have X5 : w5.heap[w4.heap.size]? = some (.cells #[.string ⟨xs.toArray⟩, .int .i64 xn] 23 (0, 0)) := by rw [hw5]; exact blk_new w4 _
              have c5 := blk_cells X5
              have l5 := blk_lt X5
              have HB5 := Lib.hid (HB.out.trans ((bstep hb4 hb5).mono hwz))
              have HO5 := Lib.hid (own_keep HO.out (Keep.of_below (S := fun _ => False) (bstep hb4 hb5)) (fun _ _ h => h))
              have HW5 := Lib.hid hw5
              have hwz5 : w1.heap.size ≤ w5.heap.size := HB5.out.size
              clear hb4 hb5 hw5 X5
              go_upto_region 10 with fail
              rw [← HW5.out]
              go_wp2_with fail
              refine (HR.out _ (Sl.of_own HO5.out)).mono ?_
              rintro e w5b ⟨rfl, hw5b⟩
              have hw5c := hw5b.symm
              clear hw5b
              subst hw5c
              go_upto_region 11 with fail
              have hS5 := own_new w5 #[.string ⟨xs.toArray⟩, .int .i64 xn] 23 2 1 rfl (by decide)
              have HSO := Lib.hid hS5
              clear hS5
              go_wp2_with (at_builtin; go_must (refine wpList_app rfl eltRow rfl rfl rfl (n := rs.length) (m := 1) (own_keep HO5.out ((Keep.refl (fun _ => False) _).alloc _) (fun _ _ h => h)) (Sl.of_own HSO.out) (by simp [Value.oneCell']) (by omega) (by simp only [maxLen]; omega) ?_))
              intro v6 w6 g1 g2 g3 g4
              clear g4
              obtain ⟨A6, c6, rfl, _⟩ := Rd.of_own g1
              have hk6 : Keep (fun k => w1.heap.size ≤ k) w5 w6 := (((Keep.refl (fun _ => False) w5).alloc _).mono (T := fun k => w1.heap.size ≤ k) (fun _ _ h => h.elim)).trans g2 (fun j _ e => HK.out j (by rw [ownBlock_slice] at e; exact e))
              have hb6 := HB5.out.trans (hk6.below (B := w1.heap.size) (fun _ h => h) hwz5)
              have hf6 : ∀ k, A6.map (·.block) = some k → w1.heap.size ≤ k := by
                intro k e
                rcases g3 with h | h <;> rw [ownBlock_slice] at h
                · rw [ownBlock_slice] at h; exact HK.out k (h ▸ e)
                · rw [e] at h; injection h with h; first | omega | (simp at h; omega)
              have HG := Lib.hid g1
              have HF6 := Lib.hid hf6
              have HB6 := Lib.hid hb6
              clear g1 g2 g3 hk6 hb6 hf6
              go_wp2
              go_roundw
              case rel => exact ⟨i + 1, by have := HLT.out; omega, by rw [← HI.out]; go_num, HB6.out, .inl ⟨rfl, HM.out, _, HGOOD.out, by simp; omega, A6, c6, by simp, by rw [List.length_append, rows_snoc]; exact HG.out, HF6.out⟩⟩
              case measure => simp [intOf]; omega
        · have HG : Hid (slotsP b = some rs) := Lib.hid (slots_good hm hi hlt hst)
          obtain rfl : L = rs := by have h := HG.out; rw [HSN.out] at h; injection h
          have p1 : ¬ (p : Int) + 32 ≤ (n : Int) := by have := HNB.out; omega
          rw [← hp]
          clear hb hown hK hst hm hlt hp hi
          go_wp2_with fail
          refine (awake_walk wr).mono ?_
          rintro e w7 ⟨rfl, hb7⟩
          have B7 := Lib.hid (bstep (bstep B1.out HB.out) hb7)
          have HRW := Lib.hid (rrows_walk A1 K L.length kc L L w7 (S1.out.below (bstep HB.out hb7)) ((Sl.of_own HO.out).below hb7) (by omega))
          rw [decide_eq_true rfl] at HRW
          clear hb7
          go_wp2_with fail
          refine HRW.out.mono ?_
          rintro e w8 ⟨rfl, hb8⟩
          have B8 := Lib.hid (bstep B7.out hb8)
          clear hb8
          go_wp2
          go_ret
          exact ⟨rfl, B8.out⟩
      · have HNO := Lib.hid hno
        have HBX := Lib.hid hb
        obtain ⟨p, hp⟩ : ∃ p, p = 32 * i := ⟨_, rfl⟩
        have hpn : p ≤ n := by rw [hp, ← HNB.out]; exact hi
        rw [← hp]
        clear hb hno hp hi
        have h := HNO.out
        rw [HSN.out] at h
        cases h
end Go.Proofs.YtcganoomgdabkaaDoor.lawEntrySlots
