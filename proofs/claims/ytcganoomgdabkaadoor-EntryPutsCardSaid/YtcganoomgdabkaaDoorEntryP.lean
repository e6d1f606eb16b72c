/- Plain laws of Puts. -/
import Derived.Test.YtcganoomgdabkaaDoorEntryB
set_option linter.unusedSimpArgs false
set_option linter.unusedVariables false
namespace Go.Proofs.YtcganoomgdabkaaDoor
open Go.RowKit

theorem rawN_app (a b : List RW) : rawN (a ++ b) = rawN a ++ rawN b := by simp [rawN]
theorem mem_rawN {l : List RW} {x : Str} : x ∈ rawN l ↔ x ≠ [] ∧ ∃ r ∈ l, r.name = x := by
  unfold rawN
  simp only [List.mem_map, List.mem_filter, Bool.not_eq_true', beq_eq_false_iff_ne]
  constructor
  · rintro ⟨r, ⟨h1, h2⟩, rfl⟩
    exact ⟨h2, r, h1, rfl⟩
  · rintro ⟨h, r, h1, rfl⟩
    exact ⟨r, ⟨h1, h⟩, rfl⟩
theorem findP_none {l : List RW} {s : Str} (h : findP l s = none) (hs : s ≠ []) : ∀ r ∈ l, r.name ≠ s := by
  unfold findP at h
  rw [if_neg hs] at h
  intro r hr
  have := idxR_none h r hr
  simpa using this
theorem nodup_snoc {l : List RW} {r : RW} (h : (rawN l).Nodup) (hf : findP l r.name = none) : (rawN (l ++ [r])).Nodup := by
  rw [rawN_snoc]
  split
  · simpa using h
  · rename_i hn
    rw [List.nodup_append]
    refine ⟨h, by simp, ?_⟩
    intro a ha b hb
    simp only [List.mem_singleton] at hb
    subst hb
    obtain ⟨_, x, hx, rfl⟩ := mem_rawN.1 ha
    exact findP_none hf hn x hx
theorem fold_nodup (b : Str) {N : Nat} (pre : List (Fin N)) : ∀ l0 l, (rawN l0).Nodup → pre.foldl (fun o x => stepR o (chunkB b x.val)) (some l0) = some l → (rawN l).Nodup := by
  induction pre with
  | nil => intro l0 l h0 h; simp at h; subst h; exact h0
  | cons x pre ih =>
    intro l0 l h0 h
    simp only [List.foldl_cons] at h
    cases hp : stepR (some l0) (chunkB b x.val) with
    | none => rw [hp, foldR_none] at h; cases h
    | some l1 =>
      rw [hp] at h
      refine ih l1 l ?_ h
      simp only [stepR] at hp
      split at hp
      · rename_i r hr
        split at hp
        · cases hp
        · rename_i hf
          cases hp
          exact nodup_snoc h0 (by simpa using hf)
      · cases hp
theorem slots_nodup {b : Str} {l : List RW} (h : slotsP b = some l) : (rawN l).Nodup := by
  unfold slotsP at h
  split at h
  · exact fold_nodup b _ [] l (by simp [rawN]) h
  · cases h
theorem place_le (l : List RW) : placeP l ≤ l.length := by
  unfold placeP
  cases h : idxR (fun r => decide (r = RW.none)) l with
  | none => exact Nat.le_refl _
  | some k =>
    obtain ⟨e, he, _⟩ := idxR_some h
    have := (List.getElem?_eq_some_iff.1 he).1
    exact Nat.le_of_lt this
theorem place_none {l : List RW} (h : placeP l < l.length) : l[placeP l]? = some RW.none := by
  unfold placeP at h ⊢
  cases hi : idxR (fun r => decide (r = RW.none)) l with
  | none => rw [hi] at h; exact absurd h (Nat.lt_irrefl _)
  | some k =>
    obtain ⟨e, he, hp, _⟩ := idxR_some hi
    have : e = RW.none := by simpa using hp
    rw [Option.getD_some, he, this]
def putP (l : List RW) (r : RW) : List RW := if placeP l < l.length then l.set (placeP l) r else l ++ [r]
theorem put_at (l : List RW) (r : RW) : (putP l r)[placeP l]? = some r := by
  unfold putP
  split
  · rename_i h
    rw [List.getElem?_set]
    simp [h]
  · rename_i h
    have h2 := place_le l
    rw [show placeP l = l.length by omega]
    simp
theorem put_old {l : List RW} {r : RW} {j : Nat} (h : j < placeP l) : (putP l r)[j]? = l[j]? := by
  have h2 := place_le l
  unfold putP
  split
  · rw [List.getElem?_set]
    simp [show ¬ placeP l = j by omega]
  · rw [List.getElem?_append_left (by omega)]
theorem put_len (l : List RW) (r : RW) : (putP l r).length ≤ l.length + 1 := by
  unfold putP
  split <;> simp
theorem put_find {l : List RW} {r : RW} (h : findP l r.name = none) (hn : r.name ≠ []) : findP (putP l r) r.name = some (placeP l) := by
  unfold findP
  rw [if_neg hn]
  refine idxR_hit (put_at l r) (by simp) (fun j a hj ha => ?_)
  rw [put_old hj] at ha
  have := findP_none h hn a (List.mem_of_getElem? ha)
  simpa using this
theorem put_raw {l : List RW} {r : RW} (hd : (rawN l).Nodup) (h : findP l r.name = none) (hn : r.name ≠ []) : (rawN (putP l r)).length = (rawN l).length + 1 ∧ (rawN (putP l r)).Nodup := by
  unfold putP
  split
  · rename_i hp
    have hx := place_none hp
    generalize placeP l = k at hp hx
    have hl : l = l.take k ++ RW.none :: l.drop (k + 1) := by
      obtain ⟨h1, h2⟩ := List.getElem?_eq_some_iff.1 hx
      rw [← h2, ← List.drop_eq_getElem_cons h1, List.take_append_drop]
    have hs : l.set k r = l.take k ++ r :: l.drop (k + 1) := by rw [List.set_eq_take_append_cons_drop, if_pos hp]
    have r0 : rawN [RW.none] = [] := rfl
    have r1 : rawN [r] = [r.name] := by simp [rawN, hn]
    have e1 : rawN l = rawN (l.take k) ++ rawN (l.drop (k + 1)) := by
      have h1 := congrArg rawN hl
      rw [show l.take k ++ RW.none :: l.drop (k + 1) = l.take k ++ ([RW.none] ++ l.drop (k + 1)) from rfl, rawN_app, rawN_app, r0] at h1
      exact h1
    have e2 : rawN (l.set k r) = rawN (l.take k) ++ r.name :: rawN (l.drop (k + 1)) := by
      rw [hs, show l.take k ++ r :: l.drop (k + 1) = l.take k ++ ([r] ++ l.drop (k + 1)) from rfl, rawN_app, rawN_app, r1]
      rfl
    have hnot : r.name ∉ rawN l := by
      intro hm
      obtain ⟨_, x, hx2, he⟩ := mem_rawN.1 hm
      exact findP_none h hn x hx2 he
    rw [e1] at hd hnot ⊢
    rw [e2]
    refine ⟨by simp; omega, ?_⟩
    have hp2 : (rawN (l.take k) ++ r.name :: rawN (l.drop (k + 1))).Perm (r.name :: (rawN (l.take k) ++ rawN (l.drop (k + 1)))) := List.perm_middle
    exact hp2.nodup_iff.2 (List.nodup_cons.2 ⟨hnot, hd⟩)
  · exact ⟨by rw [rawN_snoc, if_neg hn]; simp, nodup_snoc hd h⟩
theorem names_rise {l : List RW} (hd : (rawN l).Nodup) {k : Nat} {a b : Str} (ha : (namesP l)[k]? = some a) (hb : (namesP l)[k + 1]? = some b) : ¬ b ≤ a := by
  have hs := sortS_sorted (rawN l)
  have hn : (sortS (rawN l)).Nodup := (sortS_perm (rawN l)).nodup_iff.2 hd
  unfold namesP at ha hb
  obtain ⟨h1, rfl⟩ := List.getElem?_eq_some_iff.1 ha
  obtain ⟨h2, rfl⟩ := List.getElem?_eq_some_iff.1 hb
  have h3 := List.pairwise_iff_getElem.1 hs k (k + 1) h1 h2 (Nat.lt_succ_self k)
  have h4 := List.pairwise_iff_getElem.1 hn k (k + 1) h1 h2 (Nat.lt_succ_self k)
  intro h5
  exact h4 (List.le_antisymm h3 h5)
theorem rows_set (l : List RW) (r : RW) : ∀ k, k < l.length → ((rows l).set (k * 2) (.string ⟨r.name.toArray⟩)).set (k * 2 + 1) (.int .i64 r.node) = rows (l.set k r) := by
  induction l with
  | nil => intro k hk; simp at hk
  | cons x l ih =>
    intro k hk
    have hf : rows (x :: l) = .string ⟨x.name.toArray⟩ :: .int .i64 x.node :: rows l := rfl
    cases k with
    | zero => rfl
    | succ k =>
      have h := ih k (by simpa using hk)
      rw [hf, show (k + 1) * 2 = k * 2 + 1 + 1 by omega, List.set_cons_succ, List.set_cons_succ, List.set_cons_succ, List.set_cons_succ, h]
      rfl
theorem own_put2 {w : World} {T size n b c j : Nat} {xs : List Value} (h : w.ownsRow 0 T size (.slice (some ⟨b, 0, none⟩) n c) n xs) (v : Value) :
    (w.setCell ⟨b, j, none⟩ v).ownsRow 0 T size (.slice (some ⟨b, 0, none⟩) n c) n (xs.set j v) := by
  obtain ⟨cur, hb, h1, h2, h3, h4⟩ := own_row' h
  refine ⟨by rw [List.length_set]; exact h.1, .inr ⟨b, c, _, rfl, Nat.zero_le _, blk_set (j := j) hb v, h1, h2, by simpa using h3, ?_⟩⟩
  rw [← h4]
  simp [List.take_set]
theorem names_len (l : List RW) : (namesP l).length = (rawN l).length := sortS_length _
end Go.Proofs.YtcganoomgdabkaaDoor
