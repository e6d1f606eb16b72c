/- Package reach: what is in one set, and not in the other one. (printed by cachless.py) -/
import Derived.Test.YtpgjjhpnemcgdaaCach2
set_option linter.unusedSimpArgs false
set_option linter.unusedVariables false
namespace Go.Proofs.Ytpgjjhpnemcgdaa
open Go.RowKit

attribute [local go_sem ↓] Go.wp_at_zero Go.wp_at_succ
/-- Stretches in a new block. -/
def SlN (base : Nat) (w : World) (v : Value) (L : List St) : Prop := ∃ A c, v = .slice A L.length c ∧ Sl w 1 (.slice A L.length c) L.length (cxs L) ∧ (∀ k, A.map (·.block) = some k → base ≤ k ∧ ∃ cs fr, w.heap[k]? = some (.cells cs 52 fr)) ∧ (A = none ∨ ∃ g, A = some ⟨g, 0, none⟩)
theorem SlN.c {base : Nat} {w : World} {v : Value} {L : List St} (h : SlN base w v L) : SlC w v L := by
  obtain ⟨A, c, rfl, hs, _⟩ := h
  exact ⟨A, c, rfl, hs⟩
theorem SlN.keep {base : Nat} {S : Nat → Prop} {w w' : World} {v : Value} {L : List St} (h : SlN base w v L) (hk : Keep S w w') (hS : ∀ k cs fr, base ≤ k → w.heap[k]? = some (.cells cs 52 fr) → ¬ S k) : SlN base w' v L := by
  obtain ⟨A, c, rfl, hs, hA, hg⟩ := h
  refine ⟨A, c, rfl, hs.keep hk (fun k e _ => ?_), fun k e => ?_, hg⟩
  · obtain ⟨h1, cs, fr, h2⟩ := hA k (by rw [ownBlock_slice] at e; exact e)
    exact hS k cs fr h1 h2
  · obtain ⟨h1, cs, fr, h2⟩ := hA k e
    exact ⟨h1, cs, fr, hk.blk h2 (hS k cs fr h1 h2)⟩
theorem SlN.below {base : Nat} {w w' : World} {v : Value} {L : List St} (h : SlN base w v L) (hk : Below w.heap.size w w') : SlN base w' v L := h.keep (Keep.of_below (S := fun _ => False) hk) (fun _ _ _ _ _ h => h)
theorem SlN.mono {base b2 : Nat} {w : World} {v : Value} {L : List St} (h : SlN base w v L) (hb : b2 ≤ base) : SlN b2 w v L := by
  obtain ⟨A, c, rfl, hs, hA, hg⟩ := h
  exact ⟨A, c, rfl, hs, fun k e => ⟨Nat.le_trans hb (hA k e).1, (hA k e).2⟩, hg⟩
theorem OC.n {w0 w : World} {L : List St} {A : Option Addr} {c : Nat} (h : OC w0 w L A c) : SlN w0.heap.size w (.slice A L.length L.length) L := by
  obtain ⟨A', c', e', hr, hnone, hle, _⟩ := Rd.of_own h.own
  injection e' with e1 _ e2
  subst e1 e2
  refine ⟨A, L.length, rfl, ⟨A, L.length, rfl, hr, fun e => ⟨(hnone e).1, (hnone e).1⟩, Nat.le_refl _, by rw [cxs_len, Nat.mul_one]⟩, fun k e => ⟨h.fresh k e, ?_⟩, ?_⟩
  · obtain ⟨cur, hc⟩ := own_blk h.own (k := k) (by rw [ownBlock_slice]; exact e)
    exact ⟨cur, _, hc⟩
  · rcases h.own.2 with ⟨e, _⟩ | ⟨g, cap, cur, e, _⟩
    · injection e with e _ _
      exact .inl e
    · injection e with e _ _
      exact .inr ⟨g, e⟩
def LessPost (R : List St) (w : World) (e : Ending) (w' : World) : Prop := ∃ v, e = .returned (.tuple #[v, .int .i64 0]) ∧ SlN w.heap.size w' v R ∧ Below w.heap.size w w'
def LeInv (A B R : List St) (w : World) (v6 v22 : Value) (wr : World) : Prop := ∃ (i : Nat) (out : List St) (Ao : Option Addr) (co : Nat), i ≤ A.length ∧ v22 = .int .i64 (i : Int) ∧ v6 = .slice Ao out.length co ∧ OC w wr out Ao co ∧ lessGo B (A.drop i) out = R
def LiInv (z : St) (B : List St) (F : List St × Nat) (w : World) (v6 v9 v30 : Value) (wr : World) : Prop := ∃ (j f : Nat) (out : List St) (Ao : Option Addr) (co : Nat), j ≤ B.length ∧ v30 = .int .i64 (j : Int) ∧ v9 = .float .f64 (fb f) ∧ f ≤ 1099511627776 ∧ v6 = .slice Ao out.length co ∧ OC w wr out Ao co ∧ lessIn z (B.drop j) f out = F
theorem drop_get {α : Type} {l : List α} {i : Nat} {x : α} (h : l[i]? = some x) : l.drop i = x :: l.drop (i + 1) := by
  have h1 : i < l.length := (List.getElem?_eq_some_iff.1 h).1
  have h2 := (List.getElem?_eq_some_iff.1 h).2
  rw [← h2, List.getElem_cons_drop]
set_option maxRecDepth 100000 in
set_option maxHeartbeats 4000000 in
theorem less_walk (A B : List St) (va vb : Value) (w : World) (sa : Snd A) (sb : Snd B) (ha : SlC w va A) (hb : SlC w vb B) (la : A.length ≤ 1000000000) (lb : B.length ≤ 1000000000) (hl : (lessP A B).length ≤ 1000000000) :
    Calls Try.prog 26 #[va, vb] w (LessPost (lessP A B) w) := by
  have HSA := Lib.hid (sound_walk A va w sa ha la)
  have HSB := Lib.hid (sound_walk B vb w sb hb lb)
  obtain ⟨AA, ac, rfl, hsa⟩ := ha
  obtain ⟨BA, bc, rfl, hsb⟩ := hb
  have HA := Lib.hid hsa
  have HB := Lib.hid hsb
  have HZ := Lib.hid sa.one
  have HQ := Lib.hid sb.one
  obtain ⟨R, hR⟩ : ∃ R, R = lessP A B := ⟨_, rfl⟩
  rw [← hR] at hl ⊢
  have HR := Lib.hid hR
  clear hsa hsb sa sb hR
  go_enter Try.func26, Try.ntmps26
  go_wp2_with fail
  refine HSA.out.mono ?_
  rintro e W ⟨rfl, rfl⟩
  go_wp2_with fail
  refine HSB.out.mono ?_
  rintro e W ⟨rfl, rfl⟩
  clear HSA HSB
  go_upto_region 5 with fail
  go_loopw [6, 22] (fun v6 v22 wr => LeInv A B R W v6 v22 wr) (fun _ v _ => A.length - (intOf v).toNat)
  case atStart => exact ⟨0, [], none, 0, Nat.zero_le _, rfl, rfl, OC.nil _, HR.out.symm⟩
  case round =>
    obtain ⟨i, out0, A0, c0, hi, rfl, rfl, ho, hgo⟩ := hrel
    have HO0 := Lib.hid ho
    have HGO := Lib.hid hgo
    have hol : out0.length ≤ R.length := by rw [← hgo]; exact lessGo_len B _ _
    clear ho hgo
    by_cases hlt : i < A.length
    · obtain ⟨z, hz⟩ : ∃ z, A[i]? = some z := ⟨A[i], List.getElem?_eq_getElem hlt⟩
      have hz1 := HZ.out z (List.mem_of_getElem? hz)
      obtain ⟨b, o, rfl, _, hc⟩ := sl_row (HA.out.below HO0.out.be) (cxs_get hz)
      have hGZ : lessGo B (A.drop (i + 1)) (lessEnd z (lessIn z B z.1 out0)) = R := by rw [← HGO.out, drop_get hz, lessGo]
      obtain ⟨za, zb⟩ := z
      simp only at hc hGZ
      have hz2 : za < zb := hz1.1
      have hz3 : zb ≤ 1099511627776 := hz1.2
      obtain ⟨F, hF⟩ : ∃ F, F = lessIn (za, zb) B za out0 := ⟨_, rfl⟩
      rw [← hF] at hGZ
      have hFl : (lessEnd (za, zb) F).length ≤ R.length := by rw [← hGZ]; exact lessGo_len B _ _
      have hFl2 := lessEnd_len (za, zb) F
      have HGZ := Lib.hid hGZ
      have HF0 := Lib.hid hF
      have i0 : (0 : Int) ≤ (i : Int) := by omega
      have i1 : (i : Int) < (A.length : Int) := by omega
      clear hz hz1 hGZ hF
      go_upto_region 9 with fail
      clear hc
      go_loopw [6, 9, 30] (fun v6 v9 v30 wx => LiInv (za, zb) B F W v6 v9 v30 wx) (fun _ _ v _ => B.length - (intOf v).toNat)
      case atStart => exact ⟨0, za, out0, A0, c0, Nat.zero_le _, rfl, rfl, by omega, rfl, HO0.out, HF0.out.symm⟩
      case round =>
        obtain ⟨j, f, out, Ao, co, hj, rfl, rfl, hfl, rfl, ho, hin⟩ := hrel
        have HO := Lib.hid ho
        have HF := Lib.hid hin
        have hol2 : out.length ≤ F.1.length := by rw [← hin]; exact lessIn_len _ _ _ _
        clear ho hin hol
        by_cases hjl : j < B.length
        · obtain ⟨q, hq⟩ : ∃ q, B[j]? = some q := ⟨B[j], List.getElem?_eq_getElem hjl⟩
          have hq1 := HQ.out q (List.mem_of_getElem? hq)
          obtain ⟨b2, o2, rfl, _, hc⟩ := sl_row (HB.out.below HO.out.be) (cxs_get hq)
          have hdj := drop_get hq
          obtain ⟨qa, qb⟩ := q
          have hq2 : qa < qb := hq1.1
          have hq3 : qb ≤ 1099511627776 := hq1.2
          simp only at hc
          have j0 : (0 : Int) ≤ (j : Int) := by omega
          have j1 : (j : Int) < (B.length : Int) := by omega
          clear hq hq1
          by_cases h1 : qb ≤ f
          · rcases Nat.lt_or_eq_of_le h1 with h1l | h1e
            · have o1 : FloatKind.f64.format.order (fb qb) (fb f) = some .lt := ord_lt (by omega) h1l
              have HNX : Hid (lessIn (za, zb) (B.drop (j + 1)) f out = F) := Lib.hid (by rw [← HF.out, hdj, lessIn, if_pos (.inl h1)])
              clear hdj h1 h1l
              go_wp2
              go_roundw
              case rel => exact ⟨j + 1, f, out, Ao, co, by omega, by go_num, rfl, hfl, rfl, HO.out, HNX.out⟩
              case measure => simp [intOf]; omega
            · subst h1e
              have o1 : FloatKind.f64.format.order (fb qb) (fb qb) = some .eq := ord_eq (by omega)
              have HNX : Hid (lessIn (za, zb) (B.drop (j + 1)) qb out = F) := Lib.hid (by rw [← HF.out, hdj, lessIn, if_pos (.inl h1)])
              clear hdj h1
              go_wp2
              go_roundw
              case rel => exact ⟨j + 1, qb, out, Ao, co, by omega, by go_num, rfl, (by omega), rfl, HO.out, HNX.out⟩
              case measure => simp [intOf]; omega
          · have o1 : FloatKind.f64.format.order (fb qb) (fb f) = some .gt := ord_gt (by omega) (by omega)
            by_cases h2 : zb ≤ qa
            · rcases Nat.lt_or_eq_of_le h2 with h2l | h2e
              · have o2' : FloatKind.f64.format.order (fb qa) (fb zb) = some .gt := ord_gt (by omega) h2l
                have HNX : Hid (lessIn (za, zb) (B.drop (j + 1)) f out = F) := Lib.hid (by rw [← HF.out, hdj, lessIn, if_pos (.inr h2)])
                clear hdj h1 h2 h2l
                go_wp2
                go_roundw
                case rel => exact ⟨j + 1, f, out, Ao, co, by omega, by go_num, rfl, hfl, rfl, HO.out, HNX.out⟩
                case measure => simp [intOf]; omega
              · have o2' : FloatKind.f64.format.order (fb qa) (fb zb) = some .eq := by rw [← h2e]; exact ord_eq (by omega)
                have HNX : Hid (lessIn (za, zb) (B.drop (j + 1)) f out = F) := Lib.hid (by rw [← HF.out, hdj, lessIn, if_pos (.inr h2)])
                clear hdj h1 h2 h2e
                go_wp2
                go_roundw
                case rel => exact ⟨j + 1, f, out, Ao, co, by omega, by go_num, rfl, hfl, rfl, HO.out, HNX.out⟩
                case measure => simp [intOf]; omega
            · have o2' : FloatKind.f64.format.order (fb qa) (fb zb) = some .lt := ord_lt (by omega) (by omega)
              have hno : ¬ (qb ≤ f ∨ zb ≤ qa) := by omega
              by_cases h3 : f < qa
              · have o3 : FloatKind.f64.format.order (fb qa) (fb f) = some .gt := ord_gt (by omega) h3
                have hNX : lessIn (za, zb) (B.drop (j + 1)) qb (out ++ [(f, qa)]) = F := by rw [← HF.out, hdj, lessIn, if_neg hno, if_pos h3]
                have hol3 : out.length + 1 ≤ F.1.length := by
                  have := lessIn_len (za, zb) (B.drop (j + 1)) qb (out ++ [(f, qa)])
                  rw [hNX, List.length_append, List.length_singleton] at this
                  exact this
                have HNX := Lib.hid hNX
                clear hdj h1 h2 h3 hno hNX
                have hcn := own_new wr #[.complex .f64 (fb f) (fb qa)] 52 1 1 rfl (by decide)
                have HCN := Lib.hid (Sl.of_own hcn)
                clear hcn
                go_wp2_with (at_builtin; go_must (refine wpList_app rfl eltC rfl rfl rfl (n := out.length) (m := 1) (own_keep HO.out.own ((Keep.refl (fun _ => False) _).alloc _) (fun _ _ h => h)) HCN.out (by simp [Value.oneCell']) (by omega) (by simp only [maxLen]; omega) ?_))
                intro v4 w4 g1 g2 g3 g4
                clear g4
                obtain ⟨A4, c4, rfl, _⟩ := Rd.of_own g1
                have HE := Lib.hid (HO.out.app (p := (f, qa)) ((Below.refl _ wr).alloc (Nat.le_refl _) _) (Nat.le_succ _) g1 g2 g3)
                clear g1 g2 g3
                go_wp2
                go_roundw
                case rel => exact ⟨j + 1, qb, out ++ [(f, qa)], A4, c4, by omega, by go_num, rfl, hq3, by rw [List.length_append]; rfl, HE.out, HNX.out⟩
                case measure => simp [intOf]; omega
              · have HNX : Hid (lessIn (za, zb) (B.drop (j + 1)) qb out = F) := Lib.hid (by rw [← HF.out, hdj, lessIn, if_neg hno, if_neg h3])
                rcases Nat.lt_or_eq_of_le (Nat.not_lt.1 h3) with h3l | h3e
                · have o3 : FloatKind.f64.format.order (fb qa) (fb f) = some .lt := ord_lt (by omega) h3l
                  clear hdj h1 h2 h3 hno h3l
                  go_wp2
                  go_roundw
                  case rel => exact ⟨j + 1, qb, out, Ao, co, by omega, by go_num, rfl, hq3, rfl, HO.out, HNX.out⟩
                  case measure => simp [intOf]; omega
                · have o3 : FloatKind.f64.format.order (fb qa) (fb f) = some .eq := by rw [← h3e]; exact ord_eq (by omega)
                  clear hdj h1 h2 h3 hno h3e
                  go_wp2
                  go_roundw
                  case rel => exact ⟨j + 1, qb, out, Ao, co, by omega, by go_num, rfl, hq3, rfl, HO.out, HNX.out⟩
                  case measure => simp [intOf]; omega
        · obtain rfl : j = B.length := by omega
          have j1 : ¬ ((B.length : Nat) : Int) < (B.length : Int) := by omega
          have hFF : F = (out, f) := by rw [← HF.out, List.drop_length]; rfl
          by_cases h4 : f < zb
          · have o4 : FloatKind.f64.format.order (fb f) (fb zb) = some .lt := ord_lt (by omega) h4
            have hNX : lessGo B (A.drop (i + 1)) (out ++ [(f, zb)]) = R := by
              have := HGZ.out
              rw [hFF, lessEnd, if_pos h4] at this
              exact this
            have hol3 : out.length + 1 ≤ R.length := by
              have := lessGo_len B (A.drop (i + 1)) (out ++ [(f, zb)])
              rw [hNX, List.length_append, List.length_singleton] at this
              exact this
            have HNX := Lib.hid hNX
            clear hFF h4 hNX
            have hcn := own_new wr #[.complex .f64 (fb f) (fb zb)] 52 1 1 rfl (by decide)
            have HCN := Lib.hid (Sl.of_own hcn)
            clear hcn
            go_wp2_with (at_builtin; go_must (refine wpList_app rfl eltC rfl rfl rfl (n := out.length) (m := 1) (own_keep HO.out.own ((Keep.refl (fun _ => False) _).alloc _) (fun _ _ h => h)) HCN.out (by simp [Value.oneCell']) (by omega) (by simp only [maxLen]; omega) ?_))
            intro v4 w4 g1 g2 g3 g4
            clear g4
            obtain ⟨A4, c4, rfl, _⟩ := Rd.of_own g1
            have HE := Lib.hid (HO.out.app (p := (f, zb)) ((Below.refl _ wr).alloc (Nat.le_refl _) _) (Nat.le_succ _) g1 g2 g3)
            clear g1 g2 g3
            go_wp2
            go_roundw
            case rel => exact ⟨i + 1, out ++ [(f, zb)], A4, c4, by omega, by go_num, by rw [List.length_append]; rfl, HE.out, HNX.out⟩
            case measure => simp [intOf]; omega
          · have HNX : Hid (lessGo B (A.drop (i + 1)) out = R) := Lib.hid (by
              have := HGZ.out
              rw [hFF, lessEnd, if_neg h4] at this
              exact this)
            rcases Nat.lt_or_eq_of_le (Nat.not_lt.1 h4) with h4l | h4e
            · have o4 : FloatKind.f64.format.order (fb f) (fb zb) = some .gt := ord_gt (by omega) h4l
              clear hFF h4 h4l
              go_wp2
              go_roundw
              case rel => exact ⟨i + 1, out, Ao, co, by omega, by go_num, rfl, HO.out, HNX.out⟩
              case measure => simp [intOf]; omega
            · have o4 : FloatKind.f64.format.order (fb f) (fb zb) = some .eq := by rw [← h4e]; exact ord_eq (by omega)
              clear hFF h4 h4e
              go_wp2
              go_roundw
              case rel => exact ⟨i + 1, out, Ao, co, by omega, by go_num, rfl, HO.out, HNX.out⟩
              case measure => simp [intOf]; omega
    · obtain rfl : i = A.length := by omega
      have i1 : ¬ ((A.length : Nat) : Int) < (A.length : Int) := by omega
      have hRR : out0 = R := by rw [← HGO.out, List.drop_length]; rfl
      subst hRR
      have HC := Lib.hid (clip_walk out0 W A0 c0 wr HO0.out (by omega))
      go_wp2_with fail
      refine HC.out.mono ?_
      rintro e W2 ⟨rfl, rfl⟩
      go_wp2
      go_ret2
      exact ⟨_, rfl, HO0.out.n, HO0.out.be⟩
end Go.Proofs.Ytpgjjhpnemcgdaa
