/- The reference's Split. -/
import Derived.Test.YtelmmfaifebdkaaDoorPath4
import Derived.Deep.DeepCutAuto
import Derived.Deep.CutBlock
set_option linter.unusedSimpArgs false
set_option linter.unusedVariables false
namespace Go.Proofs.YtelmmfaifebdkaaDoor
open Go.RowKit

def SplitEnds (w : World) (r : Except Int (List Str)) (e : Ending) (w' : World) : Prop :=
  Below w.heap.size w w' ∧ match r with
  | .ok l => ∃ A c, e = .returned (.tuple #[.slice A l.length c, .int .i64 0]) ∧ Sl w' 1 (.slice A l.length c) l.length (strs l)
  | .error k => e = .returned (.tuple #[.slice none 0 0, .int .i64 k])

def restR (S : Str) (f : Nat) : List Str := if f ≤ S.length then parts (S.drop f) else []
def RInv (S : Str) (w : World) (out fr iv : Value) (wr : World) : Prop :=
  ∃ (i f : Nat) (o : List Str) (A : Option Addr) (c : Nat), out = .slice A o.length c ∧ fr = .int .i64 (f : Int) ∧ iv = .int .i64 (i : Int) ∧ o.length ≤ 8 ∧ f ≤ i ∧ i ≤ S.length + 1 ∧ (f ≤ S.length → i ≤ S.length) ∧
    Sl wr 1 (.slice A o.length c) o.length (strs o) ∧ Below w.heap.size w wr ∧ 47 ∉ (S.drop f).take (i - f) ∧ splitS S = foldP o (restR S f)
theorem eltStr : Elt Tryd.prog 22 9 1 16 := by
  refine Elt.mk' (z := .string ⟨#[]⟩) (by kernel_rfl) (by kernel_rfl) (by kernel_rfl) (by intro u hu; revert hu; decide +revert) (by decide)

/-- A part ends at i: at a slash, or at the end. -/
theorem rest_part {S : Str} {f i : Nat} (hf : f ≤ i) (hi : i ≤ S.length) (hfree : 47 ∉ (S.drop f).take (i - f)) (hs : i < S.length → S[i]? = some 47) :
    restR S f = (S.drop f).take (i - f) :: restR S (i + 1) := by
  unfold restR
  rw [if_pos (by omega)]
  rcases Nat.lt_or_ge i S.length with h | h
  · rw [if_pos (by omega)]
    have e : S.drop f = (S.drop f).take (i - f) ++ 47 :: S.drop (i + 1) := by
      have h1 : (S.drop f).drop (i - f) = 47 :: S.drop (i + 1) := by
        rw [List.drop_drop, show f + (i - f) = i by omega]
        have := List.drop_eq_getElem_cons h
        rw [this, (List.getElem?_eq_some_iff.1 (hs h)).2]
      rw [← h1, List.take_append_drop]
    conv => lhs; rw [e]
    exact parts_slash hfree _
  · rw [if_neg (by omega)]
    have e : (S.drop f).take (i - f) = S.drop f := List.take_of_length_le (by simp; omega)
    rw [e] at hfree ⊢
    exact parts_free hfree
theorem free_more {S : Str} {f i : Nat} (hf : f ≤ i) (hi : i < S.length) (hfree : 47 ∉ (S.drop f).take (i - f)) (hs : ¬ S[i]? = some 47) : 47 ∉ (S.drop f).take (i + 1 - f) := by
  rw [show i + 1 - f = (i - f) + 1 by omega, List.take_add_one]
  intro h
  rcases List.mem_append.1 h with h | h
  · exact hfree h
  · rw [List.getElem?_drop, show f + (i - f) = i by omega] at h
    obtain ⟨x, hx⟩ : ∃ x, S[i]? = some x := ⟨S[i], List.getElem?_eq_getElem hi⟩
    rw [hx] at h hs
    simp at h hs
    exact hs h.symm
theorem start_rel {s : ByteArray} {w : World} (h0 : 0 < s.size) (hr : s.data.toList.length = s.size) (hb0 : s.data.toList[0]? = some s[0]) (h2 : s[0].toNat = 47) (h1 : s.size ≤ 96) :
    RInv s.data.toList w (.slice (some ⟨w.heap.size, 0, none⟩) 0 0) (.int .i64 1) (.int .i64 1) (w.alloc (.cells #[] 9)) := by
  refine ⟨1, 1, [], some ⟨w.heap.size, 0, none⟩, 0, rfl, rfl, rfl, by simp, Nat.le_refl _, by omega, fun h => h, Sl.of_own (own_new w #[] 9 1 0 rfl (by decide)), (Below.refl _ _).alloc (Nat.le_refl _) _, by simp, ?_⟩
  unfold splitS restR
  rw [if_neg (by omega), if_pos (by omega)]
  obtain ⟨x, l, hx⟩ : ∃ x l, s.data.toList = x :: l := by
    cases hl : s.data.toList with
    | nil => rw [hl] at hr; simp at hr; omega
    | cons x l => exact ⟨x, l, rfl⟩
  rw [hx] at hb0 ⊢
  simp only [List.getElem?_cons_zero, Option.some.injEq] at hb0
  have h47 : x = 47 := UInt8.toNat_inj.1 (by rw [hb0, h2]; rfl)
  subst h47
  rfl
theorem strs_dropLast {w : World} {A : Option Addr} {c n : Nat} {l : List Str} (h : Sl w 1 (.slice A n c) n (strs l)) : Sl w 1 (.slice A l.dropLast.length c) l.dropLast.length (strs l.dropLast) := by
  obtain ⟨A', c', e, hr, h1, h2, h3⟩ := h
  injection e with e1 _ e2
  subst e1 e2
  rw [strs_length] at h3
  have hd : strs l.dropLast = (strs l).take (l.length - 1) := by rw [strs, strs, List.dropLast_eq_take, List.map_take]
  refine ⟨_, _, rfl, by rw [hd]; exact hr.take _, fun e => ?_, by simp; omega, by rw [strs_length]; simp⟩
  obtain ⟨a, b⟩ := h1 e
  exact ⟨by simp; omega, b⟩
theorem strs_snoc (o : List Str) (p : Str) : strs (o ++ [p]) = strs o ++ [.string ⟨p.toArray⟩] := by simp [strs]
theorem app_close {w wr w1 w2 : World} {o : List Str} {p : Str} {A1 A2 : Option Addr} {c1 c2 : Nat} (hb : Below w.heap.size w wr)
    (j1 : w1.ownsRow 0 9 1 (.slice A1 o.length c1) o.length (strs o)) (j2 : Keep (fun k => (Value.slice (some ⟨wr.heap.size, 0, none⟩) 0 0).ownBlock = some k) (wr.alloc (.cells #[] 9)) w1)
    (j3 : (Value.slice A1 o.length c1).ownBlock = (Value.slice (some ⟨wr.heap.size, 0, none⟩) 0 0).ownBlock ∨ (Value.slice A1 o.length c1).ownBlock = some (wr.alloc (.cells #[] 9)).heap.size)
    (k1 : w2.ownsRow 0 9 1 (.slice A2 (o.length + 1) c2) (o.length + 1) (strs o ++ [.string ⟨p.toArray⟩])) (k2 : Keep (fun k => (Value.slice A1 o.length c1).ownBlock = some k) (w1.alloc (.cells #[.string ⟨p.toArray⟩] 9)) w2)
    (k3 : (Value.slice A2 (o.length + 1) c2).ownBlock = (Value.slice A1 o.length c1).ownBlock ∨ (Value.slice A2 (o.length + 1) c2).ownBlock = some (w1.alloc (.cells #[.string ⟨p.toArray⟩] 9)).heap.size) :
    Sl w2 1 (.slice A2 (o ++ [p]).length c2) (o ++ [p]).length (strs (o ++ [p])) ∧ Below w.heap.size w w2 := by
  have hsz := hb.size
  have s1 : wr.heap.size + 1 ≤ w1.heap.size := by simpa using j2.size
  have B1 : Keep (fun k => wr.heap.size ≤ k) wr w1 := ((Keep.refl (fun _ => False) wr).alloc _ |>.mono (fun _ _ h => h.elim)).trans j2 (fun i hi h => by simp [Value.ownBlock] at h; omega)
  have B2 : Keep (fun k => wr.heap.size ≤ k) w1 w2 := ((Keep.refl (fun _ => False) w1).alloc _ |>.mono (fun _ _ h => h.elim)).trans k2 (fun i hi h => by
    rcases j3 with e | e <;> rw [e] at h
    · simp [Value.ownBlock] at h; omega
    · simp at h; omega)
  have B3 := B1.trans B2 (fun _ _ h => h)
  refine ⟨?_, hb.trans (B3.below (fun i hi => hi) (Nat.le_refl _) |>.mono hsz)⟩
  rw [strs_snoc, List.length_append]
  exact Sl.of_own (by simpa using k1)
theorem extract_str (s : ByteArray) (f i : Nat) : s.extract f i = ⟨((s.data.toList.drop f).take (i - f)).toArray⟩ := by
  apply ByteArray.ext
  rw [ByteArray.data_extract]
  apply Array.ext'
  simp [List.extract]

set_option maxHeartbeats 1000000 in
theorem refSplit_walk (s : ByteArray) (w : World) :
    Calls Tryd.prog 11 #[.string s] w fun e w' => SplitEnds w (splitS s.data.toList) e w' := by
  have hr : s.data.toList.length = s.size := Array.length_toList
  by_cases h1 : 96 < s.size
  · have hE : splitS s.data.toList = .error 17 := by unfold splitS; rw [if_pos (by omega)]
    rw [hE]
    go_enter Tryd.func11, Tryd.ntmps11
    go_wp2
    refine bodyPost_ret (v := .tuple #[.slice none 0 0, .int .i64 17]) (by simp [results, Tryd.results11, go_sem]) rfl ⟨Below.refl _ _, rfl⟩
  have h1' : s.size ≤ 96 := by omega
  rcases Nat.eq_zero_or_pos s.size with h0 | h0
  · have hE : splitS s.data.toList = .error 5 := by
      rw [List.eq_nil_of_length_eq_zero (l := s.data.toList) (by omega)]; rfl
    rw [hE]
    go_enter Tryd.func11, Tryd.ntmps11
    go_wp2
    refine bodyPost_ret (v := .tuple #[.slice none 0 0, .int .i64 5]) (by simp [results, Tryd.results11, go_sem]) rfl ⟨Below.refl _ _, rfl⟩
  have hb0 : s.data.toList[0]? = some s[0] := by rw [Array.getElem?_toList, Array.getElem?_eq_getElem h0]; rfl
  by_cases h2 : s[0].toNat = 47
  · have c1 : ((s.size : Int) == 0) = false := beq_eq_false_iff_ne.2 (by omega)
    have c2 : ((s[0].toNat : Int) != 47) = false := by rw [bne_eq_false_iff_eq]; omega
    go_enter Tryd.func11, Tryd.ntmps11
    go_wp2_with fail
    go_loopw [4, 5, 6] (fun out fr iv wr => RInv s.data.toList w out fr iv wr) (fun _ _ iv _ => s.size + 1 - (intOf iv).toNat)
    case atStart => exact start_rel h0 hr hb0 h2 h1'
    case round =>
      obtain ⟨i, f, o, A, c, rfl, rfl, rfl, h8, hfi, hin, hfn, hsl, hbe, hfree, hrest⟩ := hrel
      have HS := Lib.hid hsl
      have HB := Lib.hid hbe
      have HF := Lib.hid hfree
      have HR := Lib.hid hrest
      clear hsl hbe hfree hrest
      rw [hr] at hin hfn
      by_cases hle : i ≤ s.size
      · by_cases hc : i < s.size ∧ ¬ s.data.toList[i]? = some 47
        · obtain ⟨hlt, hne⟩ := hc
          have hbi : s.data.toList[i]? = some s[i] := by rw [Array.getElem?_toList, Array.getElem?_eq_getElem hlt]; rfl
          have b1 : (0 : Int) ≤ (i : Int) := by omega
          have b2 : (i : Int) < (s.size : Int) := by omega
          have b4 : (i : Int) ≤ (s.size : Int) := by omega
          have b3 : ((s[i].toNat : Int) != 47) = true := by
            rw [bne_iff_ne]; intro e
            exact hne (by rw [hbi]; exact congrArg some (UInt8.toNat_inj.1 (by have : (47 : UInt8).toNat = 47 := rfl; omega)))
          have hF := Lib.hid (free_more hfi (by omega) HF.out hne)
          clear hbi hne c1 c2 hb0
          go_wp2
          go_roundw
          case rel => exact ⟨i + 1, f, o, A, c, rfl, rfl, by go_num, h8, by omega, by omega, fun h => by omega, HS.out, HB.out, hF.out, HR.out⟩
          case measure => simp [intOf]; omega
        · have hcc : (i < s.size ∧ s.data.toList[i]? = some 47) ∨ i = s.size := by
            rcases Nat.lt_or_ge i s.size with h | h
            · exact .inl ⟨h, Classical.byContradiction fun e => hc ⟨h, e⟩⟩
            · exact .inr (by omega)
          have hrest := rest_part hfi (by omega) HF.out (fun h => by rcases hcc with h' | h'; exact h'.2; omega)
          have HR' := Lib.hid (HR.out.trans (congrArg (foldP o) hrest))
          have hfs : f ≤ s.size := by omega
          clear hrest hc hb0 c1 c2
          have b1 : (0 : Int) ≤ (i : Int) := by omega
          have b4 : (i : Int) ≤ (s.size : Int) := by omega
          have b5 : (f : Int) ≤ (i : Int) := by omega
          have b6 : (0 : Int) ≤ (f : Int) := by omega
          have hex := extract_str s f i
          obtain ⟨p, hp⟩ : ∃ p, p = (s.data.toList.drop f).take (i - f) := ⟨_, rfl⟩
          rw [← hp] at hex
          have hr2 : splitS s.data.toList = foldP o (p :: restR s.data.toList (i + 1)) := by rw [hp]; exact HR'.out
          have HR2 := Lib.hid hr2
          have HEX := Lib.hid hex
          clear HR' hex hp hr2
          have hcase : ((i : Int) < (s.size : Int) ∧ ∃ h : i < s.size, ((s[i].toNat : Int) != 47) = false) ∨ ¬ (i : Int) < (s.size : Int) := by
            rcases hcc with ⟨h, h'⟩ | h
            · left
              refine ⟨by omega, h, ?_⟩
              rw [bne_eq_false_iff_eq]
              have hbi : s.data.toList[i]? = some s[i] := by rw [Array.getElem?_toList, Array.getElem?_eq_getElem h]; rfl
              rw [h'] at hbi
              have := Option.some.inj hbi
              rw [← this]; rfl
            · right; omega
          clear hcc
          rcases hcase with ⟨b2, hlt, b3⟩ | b2
          all_goals
            go_upto_region 12 with fail
            rw [HEX.out]
            by_cases e1 : p = [] ∨ p = [46]
            · have e2 : foldP o (p :: restR s.data.toList (i + 1)) = foldP o (restR s.data.toList (i + 1)) := by simp [foldP, stepP, e1]
              have HR3 := Lib.hid (HR2.out.trans e2)
              clear e2 HR2 HEX
              rcases e1 with rfl | rfl
              all_goals
                go_wp2
                go_roundw
                case rel => exact ⟨i + 1, i + 1, o, A, c, rfl, by go_num, by go_num, h8, Nat.le_refl _, by omega, fun h => h, HS.out, HB.out, by simp, HR3.out⟩
                case measure => simp [intOf]; omega
            have e1a : p.isEmpty = false := by rw [Bool.eq_false_iff]; intro e; exact e1 (.inl (List.isEmpty_iff.1 e))
            have e1b : (p == [46]) = false := by rw [beq_eq_false_iff_ne]; exact fun e => e1 (.inr e)
            by_cases e3 : p = [46, 46]
            · have e2 : foldP o (p :: restR s.data.toList (i + 1)) = foldP o.dropLast (restR s.data.toList (i + 1)) := by simp [foldP, stepP, e3]
              have HR3 := Lib.hid (HR2.out.trans e2)
              clear e2 HR2 HEX
              subst e3
              by_cases ho : o = []
              · subst ho
                go_wp2
                go_roundw
                case rel => exact ⟨i + 1, i + 1, [], A, c, rfl, by go_num, by go_num, h8, Nat.le_refl _, by omega, fun h => h, HS.out, HB.out, by simp, HR3.out⟩
                case measure => simp [intOf]; omega
              · obtain ⟨x, hx⟩ : ∃ x, o[0]? = some x := by
                  cases o with
                  | nil => exact absurd rfl ho
                  | cons x l => exact ⟨x, rfl⟩
                obtain ⟨g1, o1, hA, k1, c1⟩ := strs_at HS.out hx
                subst hA
                have l1 : 0 < o.length := by cases o with | nil => exact absurd rfl ho | cons x l => simp
                have b7 : (0 : Int) < (o.length : Int) := by omega
                have b8 : (1 : Int) ≤ (o.length : Int) := by omega
                have b9 : (o.length : Int) ≤ (c : Int) := by obtain ⟨_, _, e, _, _, h, _⟩ := HS.out; injection e with _ _ e; omega
                go_wp2
                go_roundw
                case rel => exact ⟨i + 1, i + 1, o.dropLast, some ⟨g1, o1, none⟩, c, by simp, by go_num, by go_num, by simp; omega, Nat.le_refl _, by omega, fun h => h, strs_dropLast HS.out, HB.out, by simp, HR3.out⟩
                case measure => simp [intOf]; omega
            have e3b : (p == [46, 46]) = false := by rw [beq_eq_false_iff_ne]; exact e3
            by_cases hn : isName p = true
            · have hlen : o.length < 8 ∨ o.length = 8 := by omega
              clear HEX
              go_wp2_with fail
              refine (refName_walk ⟨p.toArray⟩ _).mono ?_
              rintro e w1 ⟨rfl, rfl⟩
              go_wp2_with (at_builtin; refine wpList_app rfl eltStr rfl rfl rfl (n := 0) (m := o.length) (own_new _ #[] 9 1 0 rfl (by decide)) (HS.out.below ((Below.refl _ _).alloc (Nat.le_refl _) _)) (strs_one o) (by omega) (by simp only [maxLen]; omega) ?_)
              intro v1 w1 j1 j2 j3 _
              obtain ⟨A1, c1, rfl, _⟩ := Rd.of_own j1
              have J1 := Lib.hid j1
              have J2 := Lib.hid j2
              have J3 := Lib.hid j3
              clear j1 j2 j3
              go_wp2_with (at_builtin; refine wpList_app rfl eltStr rfl rfl rfl (n := o.length) (m := 1) (own_keep J1.out ((Keep.refl (fun _ => False) _).alloc _) (fun _ _ h => h)) (Sl.of_own (own_new w1 #[.string ⟨p.toArray⟩] 9 1 1 rfl (by decide))) (by simp [Value.oneCell']) (by omega) (by simp only [maxLen]; omega) ?_)
              intro v2 w2 j1 j2 j3 _
              obtain ⟨A2, c2, rfl, _⟩ := Rd.of_own j1
              have HK := Lib.hid (app_close HB.out J1.out J2.out (by first | exact J3.out | simpa using J3.out) j1 j2 (by first | exact j3 | simpa using j3))
              clear j1 j2 j3 J1 J2 J3
              rcases hlen with hlen | hlen
              · have e2 : foldP o (p :: restR s.data.toList (i + 1)) = foldP (o ++ [p]) (restR s.data.toList (i + 1)) := by
                  simp only [foldP, step_name hn hlen]
                have HR3 := Lib.hid (HR2.out.trans e2)
                have b7 : ¬ (8 : Int) < ((o.length + 1 : Nat) : Int) := by omega
                clear HR2 e2
                go_wp2
                go_roundw
                case rel => exact ⟨i + 1, i + 1, o ++ [p], A2, c2, by simp, by go_num, by go_num, by simp; omega, Nat.le_refl _, by omega, fun h => h, HK.out.1, HK.out.2, by simp, HR3.out⟩
                case measure => simp [intOf]; omega
              · have e2 : splitS s.data.toList = .error 4 := by
                  rw [HR2.out]
                  unfold foldP stepP
                  rw [if_neg e1, if_neg e3, if_neg (by simp [hn]), if_pos (by simp; omega)]
                have b7 : (8 : Int) < ((o.length + 1 : Nat) : Int) := by omega
                clear HR2
                go_wp2
                refine bodyPost_ret (v := .tuple #[.slice none 0 0, .int .i64 4]) (by simp [results, Tryd.results11, go_sem]) rfl (show SplitEnds w (splitS s.data.toList) _ _ from by rw [e2]; exact ⟨HK.out.2, rfl⟩)
            · have hn' : isName p = false := by simpa using hn
              have e2 : splitS s.data.toList = .error 6 := by
                rw [HR2.out]
                unfold foldP stepP
                rw [if_neg e1, if_neg e3, if_pos hn']
              clear HR2 HEX
              go_wp2_with fail
              refine (refName_walk ⟨p.toArray⟩ _).mono ?_
              rintro e w1 ⟨rfl, rfl⟩
              go_wp2
              refine bodyPost_ret (v := .tuple #[.slice none 0 0, .int .i64 6]) (by simp [results, Tryd.results11, go_sem]) rfl (show SplitEnds w (splitS s.data.toList) _ _ from by rw [e2]; exact ⟨HB.out, rfl⟩)
      · have hi1 : i = s.size + 1 := by omega
        have hfs : ¬ f ≤ s.data.toList.length := by omega
        have e2 : splitS s.data.toList = .ok o := by
          rw [HR.out]; unfold restR; rw [if_neg hfs]; rfl
        have b4 : ¬ (i : Int) ≤ (s.size : Int) := by omega
        go_wp2
        refine bodyPost_ret (v := .tuple #[.slice A o.length c, .int .i64 0]) (by simp [results, Tryd.results11, go_sem]) rfl ⟨HB.out, A, c, rfl, HS.out⟩
  · have hE : splitS s.data.toList = .error 5 := by
      unfold splitS
      rw [if_neg (by omega)]
      split
      · rename_i e; rw [e] at hb0; simp at hb0; exact absurd (by rw [← hb0]; rfl) h2
      · rfl
    have c1 : ((s.size : Int) == 0) = false := beq_eq_false_iff_ne.2 (by omega)
    have c2 : ((s[0].toNat : Int) != 47) = true := by rw [bne_iff_ne]; omega
    rw [hE]
    go_enter Tryd.func11, Tryd.ntmps11
    go_wp2
    refine bodyPost_ret (v := .tuple #[.slice none 0 0, .int .i64 5]) (by simp [results, Tryd.results11, go_sem]) rfl ⟨Below.refl _ _, rfl⟩
end Go.Proofs.YtelmmfaifebdkaaDoor
