/- What a path means, in plain Lean: names, the parts of a path, split and join. No program in sight. -/
import Derived.Lib.IndexMore
import Derived.Lib.SlTrimSet
import Derived.Lib.IndexBytes
import Derived.KernelRfl
set_option linter.unusedSimpArgs false
set_option linter.unusedVariables false
namespace Go.Proofs.YtcganoomgdabkaaDoor
open Go

abbrev Str := List UInt8
def signs : Str := [97, 98, 99, 100, 101, 102, 103, 104, 105, 106, 107, 108, 109, 110, 111, 112, 113, 114, 115, 116, 117, 118, 119, 120, 121, 122,
  65, 66, 67, 68, 69, 70, 71, 72, 73, 74, 75, 76, 77, 78, 79, 80, 81, 82, 83, 84, 85, 86, 87, 88, 89, 90, 48, 49, 50, 51, 52, 53, 54, 55, 56, 57, 46, 95, 45]
def isSign (b : UInt8) : Bool := signs.contains b
def isName (s : Str) : Bool := !(s == []) && !(s == [46]) && !(s == [46, 46]) && decide (s.length ≤ 24) && s.all isSign
def parts : Str → List Str
  | [] => [[]]
  | b :: l => if b = 47 then [] :: parts l else match parts l with | p :: ps => (b :: p) :: ps | [] => [[b]]
def stepP (out : List Str) (p : Str) : Except Int (List Str) :=
  if p = [] ∨ p = [46] then .ok out else if p = [46, 46] then .ok out.dropLast else if isName p = false then .error 6 else if 8 < (out ++ [p]).length then .error 4 else .ok (out ++ [p])
def foldP (out : List Str) : List Str → Except Int (List Str)
  | [] => .ok out
  | p :: ps => match stepP out p with | .ok o => foldP o ps | .error e => .error e
def splitS (s : Str) : Except Int (List Str) := if 96 < s.length then .error 17 else match s with | 47 :: l => foldP [] (parts l) | _ => .error 5
def joinR (l : List Str) : Str := l.flatMap (fun p => 47 :: p)
def joinS (l : List Str) : Str := if joinR l = [] then [47] else joinR l
def joinP (l : List Str) : Except Int Str := if 8 < l.length then .error 4 else if l.all isName = false then .error 6 else if 96 < (joinR l).length then .error 17 else .ok (joinS l)

theorem trim_all (s cs : Str) : Lib.trimS s cs = [] ↔ ∀ b ∈ s, cs.contains b = true := by
  have hd : ∀ (l : Str), l.dropWhile (cs.contains ·) = [] ↔ ∀ b ∈ l, cs.contains b = true := by
    intro l
    induction l with
    | nil => simp
    | cons b l ih =>
      simp only [List.dropWhile_cons]
      by_cases h : cs.contains b = true
      · rw [if_pos h, ih]
        simp only [List.mem_cons, forall_eq_or_imp]
        exact ⟨fun hl => ⟨h, hl⟩, fun hl => hl.2⟩
      · rw [if_neg h]
        simp only [List.mem_cons, forall_eq_or_imp]
        exact ⟨fun e => (by cases e), fun hl => absurd hl.1 h⟩
  unfold Lib.trimS Lib.trimLeftS Lib.trimRightS
  rw [hd]
  constructor
  · intro h
    rcases Decidable.em (∀ b ∈ s.reverse, cs.contains b = true) with h' | h'
    · intro b hb; exact h' b (by simpa using hb)
    · exfalso
      have hne : s.reverse.dropWhile (cs.contains ·) ≠ [] := fun e => h' ((hd _).1 e)
      obtain ⟨x, l, hx⟩ := List.exists_cons_of_ne_nil hne
      have h1 := h x (by rw [hx]; simp)
      have h2 := List.head?_dropWhile_not (cs.contains ·) s.reverse
      rw [hx] at h2
      simp only [List.head?_cons] at h2
      rw [h1] at h2
      cases h2
  · intro h b hb
    have : b ∈ s.reverse.dropWhile (cs.contains ·) := by simpa using hb
    exact h b (by simpa using (List.dropWhile_sublist _).subset this)

theorem name_eq (s : Str) : isName s = (!(s == []) && !(s == [46]) && !(s == [46, 46]) && decide (s.length ≤ 24) && (Lib.trimS s signs == [])) := by
  unfold isName
  congr 1
  rw [Bool.eq_iff_iff, List.all_eq_true, beq_iff_eq, trim_all]
  rfl

/-! ### cut at a slash -/
theorem index_slash (s : Str) : (47 ∉ s ∧ Lib.index s [47] = -1) ∨ ∃ p r, s = p ++ 47 :: r ∧ 47 ∉ p ∧ Lib.index s [47] = p.length := by
  induction s with
  | nil => left; exact ⟨by simp, rfl⟩
  | cons b l ih =>
    by_cases hb : b = 47
    · subst hb
      right
      exact ⟨[], l, rfl, by simp, by simp [Lib.index, List.isPrefixOf]⟩
    · have hp : List.isPrefixOf [47] (b :: l) = false := by simp [List.isPrefixOf]; exact fun e => hb e.symm
      rcases ih with ⟨h1, h2⟩ | ⟨p, r, rfl, h1, h2⟩
      · left
        refine ⟨by simp [h1]; exact fun e => hb e.symm, ?_⟩
        simp [Lib.index, hp, h2]
      · right
        refine ⟨b :: p, r, rfl, by simp [h1]; exact fun e => hb e.symm, ?_⟩
        simp only [Lib.index, hp, h2]
        simp
theorem parts_free {p : Str} (h : 47 ∉ p) : parts p = [p] := by
  induction p with
  | nil => rfl
  | cons b l ih =>
    simp only [List.mem_cons, not_or] at h
    simp only [parts, if_neg (Ne.symm h.1), ih h.2]
theorem parts_slash {p : Str} (h : 47 ∉ p) (r : Str) : parts (p ++ 47 :: r) = p :: parts r := by
  induction p with
  | nil => simp [parts]
  | cons b l ih =>
    simp only [List.mem_cons, not_or] at h
    simp only [List.cons_append, parts, if_neg (Ne.symm h.1), ih h.2]
theorem cut_slash (s : Str) : (∃ h : 47 ∉ s, Lib.cut s [47] = (s, [], false) ∧ parts s = [s]) ∨ ∃ p r, s = p ++ 47 :: r ∧ 47 ∉ p ∧ Lib.cut s [47] = (p, r, true) ∧ parts s = p :: parts r := by
  rcases index_slash s with ⟨h1, h2⟩ | ⟨p, r, rfl, h1, h2⟩
  · exact .inl ⟨h1, by simp [Lib.cut, h2], parts_free h1⟩
  · refine .inr ⟨p, r, rfl, h1, ?_, parts_slash h1 r⟩
    simp only [Lib.cut, h2]
    rw [if_pos (by omega)]
    simp

/-! ### laws of split and join -/
theorem stepP_ok {out o : List Str} {p : Str} (h : stepP out p = .ok o) : (o = out ∨ o = out.dropLast) ∨ (o = out ++ [p] ∧ isName p = true ∧ o.length ≤ 8) := by
  unfold stepP at h
  split at h
  · left; left; cases h; rfl
  · split at h
    · left; right; cases h; rfl
    · split at h
      · cases h
      · rename_i hn
        split at h
        · cases h
        · cases h
          exact .inr ⟨rfl, by simpa using hn, by omega⟩
def Good (l : List Str) : Prop := l.length ≤ 8 ∧ ∀ p ∈ l, isName p = true
theorem Good.dropLast {l : List Str} (h : Good l) : Good l.dropLast := ⟨by have := h.1; simp; omega, fun p hp => h.2 p (List.dropLast_subset l hp)⟩
theorem joinR_length (l : List Str) : (joinR l).length = (l.map (fun p => p.length + 1)).sum := by
  induction l with
  | nil => rfl
  | cons p l ih => simp only [joinR, List.flatMap_cons] at ih ⊢; simp [ih]; omega
theorem joinR_append (l m : List Str) : joinR (l ++ m) = joinR l ++ joinR m := by simp [joinR]
theorem joinR_dropLast (l : List Str) : (joinR l.dropLast).length ≤ (joinR l).length := by
  rcases List.eq_nil_or_concat l with rfl | ⟨m, x, rfl⟩
  · simp
  · rw [List.concat_eq_append, List.dropLast_concat, joinR_append]; simp
theorem foldP_ok {ps out o : List Str} (hg : Good out) (h : foldP out ps = .ok o) : Good o ∧ (joinR o).length ≤ (joinR out).length + (joinR ps).length := by
  induction ps generalizing out with
  | nil => simp only [foldP, Except.ok.injEq] at h; subst h; exact ⟨hg, by omega⟩
  | cons p ps ih =>
    simp only [foldP] at h
    cases hs : stepP out p with
    | error e => rw [hs] at h; cases h
    | ok q =>
      rw [hs] at h
      have e : (joinR (p :: ps)).length = p.length + 1 + (joinR ps).length := by simp [joinR_length]
      rcases stepP_ok hs with (rfl | rfl) | ⟨rfl, hn, hl⟩
      · obtain ⟨a, b⟩ := ih hg h; exact ⟨a, by omega⟩
      · obtain ⟨a, b⟩ := ih hg.dropLast h
        have := joinR_dropLast out
        exact ⟨a, by omega⟩
      · obtain ⟨a, b⟩ := ih ⟨hl, fun x hx => by rcases List.mem_append.1 hx with hx | hx; exact hg.2 x hx; simp at hx; subst hx; exact hn⟩ h
        rw [joinR_append] at b
        simp [joinR_length] at b e ⊢
        exact ⟨a, by omega⟩
theorem joinR_parts (s : Str) : (joinR (parts s)).length = s.length + 1 := by
  induction s with
  | nil => rfl
  | cons b l ih =>
    unfold parts
    split
    · simp [joinR_length] at ih ⊢; omega
    · cases h : parts l with
      | nil => rw [h] at ih; simp [joinR] at ih
      | cons p ps => rw [h] at ih; simp [joinR_length] at ih ⊢; omega
theorem good_nil : Good [] := ⟨by simp, by simp⟩
theorem splitS_ok {s : Str} {l : List Str} (h : splitS s = .ok l) : Good l ∧ (joinR l).length ≤ s.length ∧ s.length ≤ 96 ∧ 1 ≤ s.length := by
  unfold splitS at h
  split at h
  · cases h
  · split at h
    · obtain ⟨a, b⟩ := foldP_ok good_nil h
      rw [joinR_parts] at b
      simp [joinR] at b ⊢
      exact ⟨a, by omega, by simp at *; omega⟩
    · cases h
theorem joinS_length (l : List Str) : (joinS l).length ≤ max 1 (joinR l).length ∧ (l ≠ [] → joinS l = joinR l) ∧ (l = [] → joinS l = [47]) := by
  unfold joinS
  refine ⟨?_, fun h => ?_, fun h => by subst h; rfl⟩
  · split
    · simp; omega
    · exact Nat.le_max_right _ _
  · cases l with
    | nil => exact absurd rfl h
    | cons p l => rw [if_neg (by simp [joinR])]
theorem joinP_good {l : List Str} (h : Good l) (hl : (joinR l).length ≤ 96) : joinP l = .ok (joinS l) := by
  unfold joinP
  rw [if_neg (by have := h.1; omega), if_neg (by rw [List.all_eq_true.2 h.2]; simp), if_neg (by omega)]
theorem joinP_ok {l : List Str} {s : Str} (h : joinP l = .ok s) : Good l ∧ (joinR l).length ≤ 96 ∧ s = joinS l := by
  unfold joinP at h
  split at h
  · cases h
  · split at h
    · cases h
    · split at h
      · cases h
      · cases h
        rename_i h1 h2 h3
        exact ⟨⟨by omega, fun p hp => List.all_eq_true.1 (by simpa using h2) p hp⟩, by omega, rfl⟩
theorem name_free {p : Str} (h : isName p = true) : 47 ∉ p := by
  intro hm
  simp only [isName, Bool.and_eq_true] at h
  have := List.all_eq_true.1 h.2 _ hm
  revert this
  decide
theorem parts_join (p : Str) (l : List Str) (h : ∀ q ∈ p :: l, isName q = true) : parts (p ++ joinR l) = p :: l := by
  induction l generalizing p with
  | nil => simp [joinR]; exact parts_free (name_free (h p (by simp)))
  | cons q l ih =>
    have e : joinR (q :: l) = 47 :: (q ++ joinR l) := by simp [joinR]
    rw [e, parts_slash (name_free (h p (by simp)))]
    rw [ih q (fun x hx => h x (by simp at hx ⊢; rcases hx with h | h <;> simp [h]))]
theorem step_name {out : List Str} {p : Str} (h : isName p = true) (hl : out.length < 8) : stepP out p = .ok (out ++ [p]) := by
  unfold stepP
  have h' := h
  simp only [isName, Bool.and_eq_true, Bool.not_eq_true', beq_eq_false_iff_ne, ne_eq] at h'
  rw [if_neg (by rintro (e | e) <;> simp_all), if_neg (by simp_all), if_neg (by simp [h]), if_neg (by simp; omega)]
theorem fold_names {ps out : List Str} (h : ∀ p ∈ ps, isName p = true) (hl : out.length + ps.length ≤ 8) : foldP out ps = .ok (out ++ ps) := by
  induction ps generalizing out with
  | nil => simp [foldP]
  | cons p ps ih =>
    simp only [foldP, step_name (out := out) (h p (by simp)) (by simp at hl; omega)]
    rw [ih (fun x hx => h x (by simp [hx])) (by simp at hl ⊢; omega)]
    simp
theorem split_joinS {l : List Str} (h : Good l) (hl : (joinR l).length ≤ 96) : splitS (joinS l) = .ok l := by
  cases l with
  | nil => rfl
  | cons p l =>
    rw [(joinS_length (p :: l)).2.1 (by simp)]
    unfold splitS
    rw [if_neg (by omega)]
    have e : joinR (p :: l) = 47 :: (p ++ joinR l) := by simp [joinR]
    rw [e]
    show foldP [] (parts (p ++ joinR l)) = _
    rw [parts_join p l h.2, fold_names h.2 (by have := h.1; simp at this ⊢; omega)]
    rfl
/-- What is above, a slash and the last name: the path again. -/
theorem split_up {m : List Str} {x : Str} (h : Good (m ++ [x])) (hl : (joinR (m ++ [x])).length ≤ 96) : splitS (joinS m ++ 47 :: x) = .ok (m ++ [x]) := by
  cases m with
  | nil =>
    have hx : isName x = true := h.2 x (by simp)
    have h24 : x.length ≤ 24 := by simp only [isName, Bool.and_eq_true, decide_eq_true_eq] at hx; exact hx.1.2
    show splitS (47 :: 47 :: x) = _
    unfold splitS
    rw [if_neg (by simp; omega)]
    show foldP [] (parts (47 :: x)) = _
    rw [show parts (47 :: x) = [] :: parts x from by simp [parts], parts_free (name_free hx)]
    show foldP [] [x] = _
    rw [fold_names (by simpa using hx) (by simp)]
  | cons p m =>
    rw [(joinS_length (p :: m)).2.1 (by simp)]
    have e : joinR (p :: m) ++ 47 :: x = joinR (p :: m ++ [x]) := by rw [joinR_append]; simp [joinR]
    rw [e]
    have := split_joinS h hl
    rwa [(joinS_length (p :: m ++ [x])).2.1 (by simp)] at this
theorem joinS_up {m : List Str} {x : Str} (h : isName x = true) (hl : (joinR (m ++ [x])).length ≤ 96) : (joinS m ++ 47 :: x).length ≤ 96 := by
  have h24 : x.length ≤ 24 := by simp only [isName, Bool.and_eq_true, decide_eq_true_eq] at h; exact h.1.2
  cases m with
  | nil => simp [joinS, joinR]; omega
  | cons p m =>
    rw [(joinS_length (p :: m)).2.1 (by simp)]
    have e : joinR (p :: m) ++ 47 :: x = joinR (p :: m ++ [x]) := by rw [joinR_append]; simp [joinR]
    rw [e]; exact hl
end Go.Proofs.YtcganoomgdabkaaDoor
