/- act.untext: the walk. -/
import Derived.Test.YtpdnfcgdcndhpaaDoorAct4
set_option linter.unusedSimpArgs false
set_option linter.unusedVariables false
namespace Go.Proofs.YtpdnfcgdcndhpaaDoor
open Go.RowKit

theorem drop_cons {s : Str} {i : Nat} {x : UInt8} (h : s[i]? = some x) : s.drop i = x :: s.drop (i + 1) := by
  obtain ⟨h1, h2⟩ := List.getElem?_eq_some_iff.1 h
  rw [List.drop_eq_getElem_cons h1, h2]
theorem idx_hex (p : UInt8) (w : World) : Calls Tryd.prog 47 #[.string ⟨#[48, 49, 50, 51, 52, 53, 54, 55, 56, 57, 65, 66, 67, 68, 69, 70]⟩, .int .u8 (p.toNat : Int)] w fun e w' => e = .returned (.int .i64 (hexI p)) ∧ w' = w := by
  have h := Tryd.strings_IndexByte ⟨#[48, 49, 50, 51, 52, 53, 54, 55, 56, 57, 65, 66, 67, 68, 69, 70]⟩ (p.toNat : Int) w
  rw [show ((p.toNat : Int).toNat.toUInt8) = p by simp] at h
  exact h
theorem app_end {base : Nat} {bs : Str} {x : UInt8} {wr W w4 w0 : World} {K A4 : Option Addr} {kc c4 : Nat} (hb : Below base w0 wr) (hW : Below wr.heap.size wr W) (hw : base ≤ wr.heap.size) (hK : ∀ k, K.map (·.block) = some k → base ≤ k)
    (g1 : w4.ownsRow 0 5 1 (.slice A4 (bs.length + 1) c4) (bs.length + 1) (bv bs ++ [.int .u8 (x.toNat : Int)])) (g2 : Keep (fun k => (Value.slice K bs.length kc).ownBlock = some k) W w4) (g3 : (Value.slice A4 (bs.length + 1) c4).ownBlock = (Value.slice K bs.length kc).ownBlock ∨ (Value.slice A4 (bs.length + 1) c4).ownBlock = some (wr.heap.size + 1)) :
    FrB base w4 (.slice A4 (bs.length + 1) c4) (bs ++ [x]) ∧ Below base w0 w4 := by
  have hsz := hW.size
  have k4 : Keep (fun k => base ≤ k) W w4 := g2.mono (fun j _ e => hK j (by rw [ownBlock_slice] at e; exact e))
  refine ⟨⟨A4, c4, by simp, by rw [List.length_append, bv_app]; exact g1, fun k e => ?_⟩, (hb.trans (hW.mono hw)).trans (k4.below (fun _ h => h) (by omega))⟩
  rcases g3 with h | h <;> rw [ownBlock_slice] at h
  · rw [ownBlock_slice] at h; exact hK k (h ▸ e)
  · rw [e] at h; injection h with h; omega
set_option maxRecDepth 100000 in
set_option maxHeartbeats 4000000 in
theorem untext_walk (s : Str) (w : World) (hs : s.length ≤ 4000000000000) :
    Calls Tryd.prog 52 #[.string ⟨s.toArray⟩] w fun e w' => e = .returned (.string ⟨(untextP s).toArray⟩) ∧ Below w.heap.size w w' := by
  by_cases h0 : s = [37]
  · subst h0
    go_enter Tryd.func52, Tryd.ntmps52
    go_wp2
    go_ret
    exact ⟨rfl, Below.refl _ _⟩
  have h0b : (s == [37]) = false := by simpa using h0
  have HT := Lib.hid (show untextP s = untP s by unfold untextP; rw [if_neg h0])
  have hul := untP_len s.length s (Nat.le_refl _)
  clear h0
  have HIX := Lib.hid (fun c w => Tryd.strings_IndexByte ⟨#[48, 49, 50, 51, 52, 53, 54, 55, 56, 57, 65, 66, 67, 68, 69, 70]⟩ c w)
  go_enter Tryd.func52, Tryd.ntmps52
  go_upto_region 5 with fail
  go_loopw [3, 4] (fun v3 v4 wr => UnInv s w.heap.size w v3 v4 wr) (fun _ v _ => s.length - (intOf v).toNat)
  case atStart => exact ⟨0, [], Nat.zero_le _, rfl, ⟨none, 0, rfl, own_nil' _ _ _ _, by simp⟩, rfl, Below.refl _ _⟩
  case round =>
    obtain ⟨i, bs, hi, rfl, ⟨K, kc, rfl, hown, hK⟩, hun, hb⟩ := hrel
    have HB := Lib.hid hb
    have HO := Lib.hid hown
    have HK := Lib.hid hK
    have HU := Lib.hid hun
    have hwr : w.heap.size ≤ wr.heap.size := hb.size
    have hbl : bs.length ≤ s.length := by
      have := congrArg List.length hun
      rw [List.length_append] at this
      omega
    clear hb hown hK hun hul
    by_cases hlt : i < s.length
    · obtain ⟨x, hx⟩ : ∃ x, s[i]? = some x := ⟨s[i], List.getElem?_eq_getElem hlt⟩
      have i0 : (0 : Int) ≤ (i : Int) := by omega
      have i1 : (i : Int) < (s.length : Int) := by omega
      have hx2 : (⟨s.toArray⟩ : ByteArray)[i]'(List.getElem?_eq_some_iff.1 hx).1 = x := (List.getElem?_eq_some_iff.1 hx).2
      have HDX := Lib.hid (drop_cons hx)
      have hS := own_new wr #[.int .u8 (x.toNat : Int)] 5 1 1 rfl (by decide)
      have HSX := Lib.hid hS
      clear hS
      by_cases hc : x = 37 ∧ i + 2 < s.length
      · obtain ⟨rfl, hl2⟩ := hc
        obtain ⟨j, hj⟩ : ∃ j, j = i + 1 := ⟨_, rfl⟩
        obtain ⟨k, hk⟩ : ∃ k, k = i + 2 := ⟨_, rfl⟩
        obtain ⟨p, h1⟩ : ∃ p, s[j]? = some p := ⟨s[j]'(by omega), List.getElem?_eq_getElem _⟩
        obtain ⟨q, h2⟩ : ∃ q, s[k]? = some q := ⟨s[k]'(by omega), List.getElem?_eq_getElem _⟩
        have hx1 : (⟨s.toArray⟩ : ByteArray)[j]'(List.getElem?_eq_some_iff.1 h1).1 = p := (List.getElem?_eq_some_iff.1 h1).2
        have hxk : (⟨s.toArray⟩ : ByteArray)[k]'(List.getElem?_eq_some_iff.1 h2).1 = q := (List.getElem?_eq_some_iff.1 h2).2
        have HSTEP := Lib.hid (show untP s = (bs ++ [unB p q]) ++ untP (s.drop (i + 3)) by
          have d1 := drop_cons h1
          have d2 := drop_cons h2
          rw [hj] at d1
          rw [hk] at d2
          rw [HU.out, HDX.out, d1, d2, untP, if_pos rfl, List.append_assoc]
          rfl)
        have e1 : (i : Int) + 1 = (j : Int) := by omega
        have e2 : (i : Int) + 2 = (k : Int) := by omega
        have j0 : (0 : Int) ≤ (j : Int) := by omega
        have j1 : (j : Int) < (s.length : Int) := by omega
        have k0 : (0 : Int) ≤ (k : Int) := by omega
        have k1 : (k : Int) < (s.length : Int) := by omega
        have HKI := Lib.hid hk
        have hun := unB_val p q
        have HUN := Lib.hid hun
        clear hun hj hk
        go_upto_region 8 with fail
        go_quiet ((go_at_call 47; first | refine Calls.quiet_of_same (idx_hex p _) | refine Calls.quiet_of_same (idx_hex q _)))
        go_upto_region 9 with fail
        obtain ⟨a, ha⟩ : ∃ a, a = hexI p := ⟨_, rfl⟩
        obtain ⟨b, hb⟩ : ∃ b, b = hexI q := ⟨_, rfl⟩
        have hun2 := HUN.out
        rw [← ha, ← hb] at hun2
        unfold unV at hun2
        rw [← ha, ← hb]
        have hun3 := hun2.symm
        have hS2 := own_new (wr.drewN nq) #[.int .u8 ((unB p q).toNat : Int)] 5 1 1 rfl (by decide)
        have HS2 := Lib.hid hS2
        have HO2 := Lib.hid (own_keep HO.out ((Keep.refl (fun _ => False) wr).drewN nq) (fun _ _ h => h))
        clear hun2 ha hb hS2 hx1 hxk
        go_wp2_with (at_builtin; go_must (refine wpList_app rfl eltB rfl rfl rfl (n := bs.length) (m := 1) (own_keep HO2.out ((Keep.refl (fun _ => False) _).alloc _) (fun _ _ h => h)) (Sl.of_own HS2.out) (by simp [Value.oneCell']) (by omega) (by simp only [maxLen]; omega) ?_))
        intro v4 w4 g1 g2 g3 g4
        clear g4
        obtain ⟨A4, c4, rfl, _⟩ := Rd.of_own g1
        have HE := Lib.hid (app_end (x := unB p q) HB.out (((Keep.refl (fun _ => False) wr).drewN nq).to_below.alloc (Nat.le_refl _) (.cells #[.int .u8 ((unB p q).toNat : Int)] 5)) hwr HK.out g1 g2 g3)
        clear g1 g2 g3
        go_wp2
        go_roundw
        case rel => exact ⟨i + 3, _, by omega, by first | go_num | (have := HKI.out; go_num) | (have := HKI.out; congr 1; omega), HE.out.1, HSTEP.out, HE.out.2⟩
        case measure => simp [intOf]; omega
      · have HSTEP := Lib.hid (show untP s = (bs ++ [x]) ++ untP (s.drop (i + 1)) by
          rw [HU.out, HDX.out, untP_other (by
            by_cases hx37 : x = 37
            · refine .inr ?_
              rw [List.length_drop]
              have : ¬ i + 2 < s.length := fun h => hc ⟨hx37, h⟩
              omega
            · exact .inl hx37), List.append_assoc]
          rfl)
        by_cases hx37 : x = 37
        · subst hx37
          have i3 : ¬ (i : Int) + 2 < (s.length : Int) := by
            have : ¬ i + 2 < s.length := fun h => hc ⟨rfl, h⟩
            omega
          clear hc
          go_wp2_with (at_builtin; go_must (refine wpList_app rfl eltB rfl rfl rfl (n := bs.length) (m := 1) (own_keep HO.out ((Keep.refl (fun _ => False) _).alloc _) (fun _ _ h => h)) (Sl.of_own HSX.out) (by simp [Value.oneCell']) (by omega) (by simp only [maxLen]; omega) ?_))
          intro v4 w4 g1 g2 g3 g4
          clear g4
          obtain ⟨A4, c4, rfl, _⟩ := Rd.of_own g1
          have HE := Lib.hid (app_end (x := 37) HB.out ((Below.refl _ wr).alloc (Nat.le_refl _) (.cells #[.int .u8 ((37 : UInt8).toNat : Int)] 5)) hwr HK.out g1 g2 g3)
          clear g1 g2 g3
          go_wp2
          go_roundw
          case rel => exact ⟨i + 1, _, by omega, by go_num, HE.out.1, HSTEP.out, HE.out.2⟩
          case measure => simp [intOf]; omega
        · have hx37b : ((x.toNat : Int) == 37) = false := beq_eq_false_iff_ne.2 (fun e => hx37 (UInt8.toNat_inj.1 (by simpa using (show x.toNat = 37 by omega))))
          clear hc hx37
          go_wp2_with (at_builtin; go_must (refine wpList_app rfl eltB rfl rfl rfl (n := bs.length) (m := 1) (own_keep HO.out ((Keep.refl (fun _ => False) _).alloc _) (fun _ _ h => h)) (Sl.of_own HSX.out) (by simp [Value.oneCell']) (by omega) (by simp only [maxLen]; omega) ?_))
          intro v4 w4 g1 g2 g3 g4
          clear g4
          obtain ⟨A4, c4, rfl, _⟩ := Rd.of_own g1
          have HE := Lib.hid (app_end (x := x) HB.out ((Below.refl _ wr).alloc (Nat.le_refl _) (.cells #[.int .u8 (x.toNat : Int)] 5)) hwr HK.out g1 g2 g3)
          clear g1 g2 g3
          go_wp2
          go_roundw
          case rel => exact ⟨i + 1, _, by omega, by go_num, HE.out.1, HSTEP.out, HE.out.2⟩
          case measure => simp [intOf]; omega
    · obtain rfl : i = s.length := by omega
      have i1 : ¬ ((s.length : Nat) : Int) < (s.length : Int) := by omega
      have HR := Lib.hid (show untP s = bs by rw [HU.out, List.drop_length]; simp [untP])
      have kc1 := run_conv_bytes (P := Tryd.prog) wr Tryd.underlying22 Tryd.underlying5 Tryd.underlying9 (Sl.of_own HO.out)
      go_wp2
      go_ret
      exact ⟨by rw [HT.out, HR.out]; rfl, HB.out⟩
end Go.Proofs.YtpdnfcgdcndhpaaDoor
