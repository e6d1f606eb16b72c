/- Clean, Last, Within. -/
import Derived.Test.YtelmmfaifebdkaaDoorPath6
set_option linter.unusedSimpArgs false
set_option linter.unusedVariables false
namespace Go.Proofs.YtelmmfaifebdkaaDoor
open Go.RowKit

theorem stepP_err {o : List Str} {p : Str} {e : Int} (h : stepP o p = .error e) : 0 < e ∧ e < 18 := by
  unfold stepP at h
  split at h
  · cases h
  · split at h
    · cases h
    · split at h
      · cases h; decide
      · split at h
        · cases h; decide
        · cases h
theorem foldP_err {ps o : List Str} {e : Int} (h : foldP o ps = .error e) : 0 < e ∧ e < 18 := by
  induction ps generalizing o with
  | nil => cases h
  | cons p ps ih =>
    simp only [foldP] at h
    cases hs : stepP o p with
    | error k => rw [hs] at h; cases h; exact stepP_err hs
    | ok q => rw [hs] at h; exact ih h
theorem splitS_err {s : Str} {e : Int} (h : splitS s = .error e) : 0 < e ∧ e < 18 := by
  unfold splitS at h
  split at h
  · cases h; decide
  · split at h
    · exact foldP_err h
    · cases h; decide

def cleanP (s : Str) : Except Int Str := match splitS s with | .error e => .error e | .ok l => .ok (joinS l)
def lastP (s : Str) : Except Int (Str × Str) := match splitS s with | .error e => .error e | .ok l => match l.getLast? with | none => .error 13 | some x => .ok (joinS l.dropLast, x)
def withinP (s t : Str) : Bool × Int := match splitS s with
  | .error e => (false, e)
  | .ok a => match splitS t with
    | .error e => (false, e)
    | .ok b => (decide (b.length < a.length ∧ a.take b.length = b), 0)
def resL : Except Int (Str × Str) → Value
  | .ok s => .tuple #[.string ⟨s.1.toArray⟩, .string ⟨s.2.toArray⟩, .int .i64 0]
  | .error e => .tuple #[.string ⟨#[]⟩, .string ⟨#[]⟩, .int .i64 e]
def resW (x : Bool × Int) : Value := .tuple #[.bool x.1, .int .i64 x.2]

theorem split_err {s : ByteArray} {k : Int} (h : splitS s.data.toList = .error k) (m0 : Int) (w : World) (hm0 : w.cell? ⟨0, 0, none⟩ = some (.int .i64 m0)) :
    Calls Tryd.prog 10 #[.string s] w fun e w' => e = .returned (.tuple #[.slice none 0 0, .int .i64 k]) ∧ Below w.heap.size w w' :=
  (split_walk s m0 w hm0).mono fun e w' hh => by
    unfold SplitEnds at hh; rw [h] at hh; exact ⟨hh.2, hh.1⟩
theorem split_ok {s : ByteArray} {l : List Str} (h : splitS s.data.toList = .ok l) (m0 : Int) (w : World) (hm0 : w.cell? ⟨0, 0, none⟩ = some (.int .i64 m0)) :
    Calls Tryd.prog 10 #[.string s] w fun e w' => ∃ A c, e = .returned (.tuple #[.slice A l.length c, .int .i64 0]) ∧ Sl w' 1 (.slice A l.length c) l.length (strs l) ∧ Below w.heap.size w w' :=
  (split_walk s m0 w hm0).mono fun e w' hh => by
    unfold SplitEnds at hh; rw [h] at hh
    obtain ⟨hb, A, c, he, hs⟩ := hh
    exact ⟨A, c, he, hs, hb⟩
theorem good_len {l : List Str} (h : Good l) : ∀ p ∈ l, p.length ≤ 24 := fun p hp => by
  have := h.2 p hp
  simp only [isName, Bool.and_eq_true, decide_eq_true_eq] at this
  exact this.1.2
theorem join_ok (A : Option Addr) (n c : Nat) (l : List Str) (w : World) (ha : Sl w 1 (.slice A n c) n (strs l)) (hg : Good l) (hl : (joinR l).length ≤ 96) :
    Calls Tryd.prog 16 #[.slice A n c] w fun e w' => e = .returned (.tuple #[.string ⟨(joinS l).toArray⟩, .int .i64 0]) ∧ Below w.heap.size w w' :=
  (join_walk A n c l w ha (by have := hg.1; omega) (fun p hp => by have := good_len hg p hp; omega)).mono fun e w' hh => by
    rw [joinP_good hg hl] at hh; exact hh

set_option maxHeartbeats 1000000 in
theorem clean_walk (s : ByteArray) (m0 : Int) (w : World) (hm0 : w.cell? ⟨0, 0, none⟩ = some (.int .i64 m0)) :
    Calls Tryd.prog 18 #[.string s] w fun e w' => e = .returned (resJ (cleanP s.data.toList)) ∧ Below w.heap.size w w' := by
  unfold cleanP
  cases h : splitS s.data.toList with
  | error k =>
    have hk := splitS_err h
    have hk' : ¬ k = 0 := by omega
    go_enter Tryd.func18, Tryd.ntmps18
    go_wp2_with (go_at_call 10; refine (split_err h m0 _ hm0).mono ?_; rintro e w1 ⟨rfl, hb⟩)
    refine bodyPost_ret (v := .tuple #[.string ⟨#[]⟩, .int .i64 k]) (by simp [results, Tryd.results18, go_sem]) rfl ⟨rfl, hb⟩
  | ok l =>
    obtain ⟨hg, hl, hs, _⟩ := splitS_ok h
    go_enter Tryd.func18, Tryd.ntmps18
    go_wp2_with fail
    refine (split_ok h m0 _ hm0).mono ?_
    rintro e w1 ⟨A, c, rfl, hsl, hb⟩
    go_wp2_with fail
    refine (join_ok A _ c l _ hsl hg (by omega)).mono ?_
    rintro e w2 ⟨rfl, hb2⟩
    go_wp2
    refine bodyPost_ret (v := .tuple #[.string ⟨(joinS l).toArray⟩, .int .i64 0]) (by simp [results, Tryd.results18, go_sem]) rfl ⟨rfl, hb.trans (hb2.mono hb.size)⟩
set_option maxHeartbeats 1000000 in
theorem last_walk (s : ByteArray) (m0 : Int) (w : World) (hm0 : w.cell? ⟨0, 0, none⟩ = some (.int .i64 m0)) :
    Calls Tryd.prog 19 #[.string s] w fun e w' => e = .returned (resL (lastP s.data.toList)) ∧ Below w.heap.size w w' := by
  unfold lastP
  cases h : splitS s.data.toList with
  | error k =>
    have hk := splitS_err h
    have hk' : ¬ k = 0 := by omega
    go_enter Tryd.func19, Tryd.ntmps19
    go_wp2_with (go_at_call 10; refine (split_err h m0 _ hm0).mono ?_; rintro e w1 ⟨rfl, hb⟩)
    refine bodyPost_ret (v := .tuple #[.string ⟨#[]⟩, .string ⟨#[]⟩, .int .i64 k]) (by simp [results, Tryd.results19, go_sem]) rfl ⟨rfl, hb⟩
  | ok l =>
    obtain ⟨hg, hl, hs, _⟩ := splitS_ok h
    rcases List.eq_nil_or_concat l with rfl | ⟨m, x, rfl⟩
    · go_enter Tryd.func19, Tryd.ntmps19
      go_wp2_with fail
      refine (split_ok h m0 _ hm0).mono ?_
      rintro e w1 ⟨A, c, rfl, hsl, hb⟩
      go_wp2
      refine bodyPost_ret (v := .tuple #[.string ⟨#[]⟩, .string ⟨#[]⟩, .int .i64 13]) (by simp [results, Tryd.results19, go_sem]) rfl ⟨rfl, hb⟩
    · rw [List.concat_eq_append] at *
      have hr : resL (match (m ++ [x]).getLast? with | none => .error 13 | some y => .ok (joinS (m ++ [x]).dropLast, y)) = .tuple #[.string ⟨(joinS m).toArray⟩, .string ⟨x.toArray⟩, .int .i64 0] := by simp [resL]
      have hr2 := Lib.hid hr
      have h8 := hg.1
      have hx : (m ++ [x])[m.length]? = some x := by simp
      have hll : (m ++ [x]).length = m.length + 1 := by simp
      rw [hll] at h8
      show Calls _ _ _ _ fun e w' => e = .returned (resL (match (m ++ [x]).getLast? with | none => .error 13 | some y => .ok (joinS (m ++ [x]).dropLast, y))) ∧ _
      rw [hr]
      clear hr
      go_enter Tryd.func19, Tryd.ntmps19
      go_wp2_with fail
      refine (split_ok h m0 _ hm0).mono ?_
      rintro e w1 ⟨A, c, rfl, hsl, hb⟩
      obtain ⟨g, o, rfl, hgl, hcell⟩ := strs_at hsl hx
      have hdl := strs_dropLast hsl
      simp only [List.dropLast_concat] at hdl
      have hcap : m.length + 1 ≤ c := by obtain ⟨_, _, e, _, _, h, _⟩ := hsl; injection e with _ _ e; subst e; omega
      rw [hll]
      have b1 : (0 : Int) ≤ (m.length : Int) := by omega
      have b2 : (m.length : Int) ≤ (c : Int) := by omega
      have HS := Lib.hid hdl
      clear hsl hdl
      have hgm : Good m := ⟨by omega, fun p hp => hg.2 p (by simp [hp])⟩
      have hjm : (joinR m).length ≤ 96 := by rw [joinR_append, List.length_append] at hl; omega
      go_wp2_with fail
      refine (join_ok (some ⟨g, o, none⟩) _ c m _ HS.out hgm hjm).mono ?_
      rintro e w2 ⟨rfl, hb2⟩
      have d1 := (hb2.cell (p := ⟨g, o + m.length, none⟩) hgl).trans hcell
      have HB := Lib.hid (hb.trans (hb2.mono hb.size))
      clear hb hb2 hcell
      go_wp2
      go_region
      all_goals
        go_wp2
        refine bodyPost_ret (v := .tuple #[.string ⟨(joinS m).toArray⟩, .string ⟨x.toArray⟩, .int .i64 0]) (by simp [results, Tryd.results19, go_sem]) rfl ⟨rfl, HB.out.drew⟩
def WInv (a b : List Str) (w : World) (v : Value) (wr : World) : Prop := ∃ i : Nat, i ≤ b.length ∧ v = .int .i64 (i : Int) ∧ Below w.heap.size w wr ∧ a.take i = b.take i
theorem resW_eq (x : Bool × Int) : resW x = .tuple #[.bool x.1, .int .i64 x.2] := rfl
theorem within_ok {s t : Str} {a b : List Str} (h1 : splitS s = .ok a) (h2 : splitS t = .ok b) : withinP s t = (decide (b.length < a.length ∧ a.take b.length = b), 0) := by
  unfold withinP; rw [h1]; simp only; rw [h2]
set_option maxHeartbeats 1000000 in
theorem within_walk (s t : ByteArray) (m0 : Int) (w : World) (hm0 : w.cell? ⟨0, 0, none⟩ = some (.int .i64 m0)) :
    Calls Tryd.prog 20 #[.string s, .string t] w fun e w' => e = .returned (resW (withinP s.data.toList t.data.toList)) ∧ Below w.heap.size w w' := by
  cases h1 : splitS s.data.toList with
  | error k =>
    have hr : withinP s.data.toList t.data.toList = (false, k) := by unfold withinP; rw [h1]
    rw [hr]
    have hk := splitS_err h1
    have hk' : ¬ k = 0 := by omega
    go_enter Tryd.func20, Tryd.ntmps20
    go_wp2_with (go_at_call 10; refine (split_err h1 m0 _ hm0).mono ?_; rintro e w1 ⟨rfl, hb⟩)
    refine bodyPost_ret (v := .tuple #[.bool false, .int .i64 k]) (by simp [results, Tryd.results20, go_sem]) rfl ⟨rfl, hb⟩
  | ok a =>
    obtain ⟨hga, _, _, _⟩ := splitS_ok h1
    cases h2 : splitS t.data.toList with
    | error k =>
      have hr : withinP s.data.toList t.data.toList = (false, k) := by unfold withinP; rw [h1]; simp only; rw [h2]
      rw [hr]
      have hk := splitS_err h2
      have hk' : ¬ k = 0 := by omega
      go_enter Tryd.func20, Tryd.ntmps20
      go_wp2_with fail
      refine (split_ok h1 m0 _ hm0).mono ?_
      rintro e w1 ⟨A, c, rfl, hsl, hb⟩
      go_wp2_with fail
      refine (split_err h2 m0 _ ((hb.cell (World.block_lt_of_cell? w _ hm0)).trans hm0)).mono ?_
      rintro e w2 ⟨rfl, hb2⟩
      go_wp2
      refine bodyPost_ret (v := .tuple #[.bool false, .int .i64 k]) (by simp [results, Tryd.results20, go_sem]) rfl ⟨rfl, hb.trans (hb2.mono hb.size)⟩
    | ok b =>
      obtain ⟨hgb, _, _, _⟩ := splitS_ok h2
      have hr := within_ok h1 h2
      rw [hr]
      have a8 := hga.1
      have b8 := hgb.1
      go_enter Tryd.func20, Tryd.ntmps20
      go_wp2_with fail
      refine (split_ok h1 m0 _ hm0).mono ?_
      rintro e w1 ⟨A, c, rfl, hsl, hb⟩
      go_wp2_with fail
      refine (split_ok h2 m0 _ ((hb.cell (World.block_lt_of_cell? w _ hm0)).trans hm0)).mono ?_
      rintro e w2 ⟨B, d, rfl, hsl2, hb2⟩
      have HA := Lib.hid (hsl.below hb2)
      have HB := Lib.hid hsl2
      have HE := Lib.hid (hb.trans (hb2.mono hb.size))
      clear hsl hsl2 hb hb2 hm0 hr
      by_cases hl : a.length ≤ b.length
      · have hd : decide (b.length < a.length ∧ a.take b.length = b) = false := decide_eq_false (fun h => by omega)
        go_wp2
        refine bodyPost_ret (v := .tuple #[.bool false, .int .i64 0]) (by simp [results, Tryd.results20, go_sem]) rfl ⟨by rw [hd]; rfl, HE.out⟩
      · have hl' : ¬ (a.length : Int) ≤ (b.length : Int) := by omega
        go_wp2
        go_loopw [34] (fun v wr => WInv a b w2 v wr) (fun v _ => b.length - (intOf v).toNat)
        case atStart => exact ⟨0, Nat.zero_le _, rfl, Below.refl _ _, rfl⟩
        case round =>
          obtain ⟨i, hi, rfl, hbe, htk⟩ := hrel
          have HX := Lib.hid hbe
          have HT := Lib.hid htk
          clear hbe htk
          by_cases hlt : i < b.length
          · obtain ⟨p, hp⟩ : ∃ p, a[i]? = some p := ⟨a[i]'(by omega), List.getElem?_eq_getElem _⟩
            obtain ⟨q, hq⟩ : ∃ q, b[i]? = some q := ⟨b[i], List.getElem?_eq_getElem hlt⟩
            obtain ⟨g1, o1, hA, k1, c1⟩ := strs_at HA.out hp
            obtain ⟨g2, o2, hB, k2, c2⟩ := strs_at HB.out hq
            subst hA hB
            have d1 := (HX.out.cell (p := ⟨g1, o1 + i, none⟩) k1).trans c1
            have d2 := (HX.out.cell (p := ⟨g2, o2 + i, none⟩) k2).trans c2
            have b1 : (0 : Int) ≤ (i : Int) := by omega
            have b2 : (i : Int) < (a.length : Int) := by omega
            have b3 : (i : Int) < (b.length : Int) := by omega
            clear c1 c2
            rcases str_dec p q with ⟨rfl, hpq⟩ | ⟨hne, hpq⟩
            · go_wp2
              go_roundw
              case rel => exact ⟨i + 1, by omega, by go_num, HX.out, take_more HT.out hp hq⟩
              case measure => simp [intOf]; omega
            · have hd : decide (b.length < a.length ∧ a.take b.length = b) = false := decide_eq_false (fun h => by
                have e := h.2
                have : (a.take b.length)[i]? = some p := by rw [List.getElem?_take, if_pos hlt]; exact hp
                rw [e, hq] at this
                exact hne (Option.some.inj this).symm)
              go_wp2
              refine bodyPost_ret (v := .tuple #[.bool false, .int .i64 0]) (by simp [results, Tryd.results20, go_sem]) rfl ⟨by rw [hd]; rfl, HE.out.trans (HX.out.mono HE.out.size)⟩
          · obtain rfl : i = b.length := by omega
            have hd : decide (b.length < a.length ∧ a.take b.length = b) = true := decide_eq_true ⟨by omega, by have h := HT.out; rw [List.take_length] at h; exact h⟩
            go_wp2
            refine bodyPost_ret (v := .tuple #[.bool true, .int .i64 0]) (by simp [results, Tryd.results20, go_sem]) rfl ⟨by rw [hd]; rfl, HE.out.trans (HX.out.mono HE.out.size)⟩
end Go.Proofs.YtelmmfaifebdkaaDoor
