/- Plain laws of Slots; a slice's room. -/
import Derived.Test.YtcganoomgdabkaaDoorEntryW
import Derived.Test.YtcganoomgdabkaaDoorEntryCard
set_option linter.unusedSimpArgs false
set_option linter.unusedVariables false
namespace Go.Proofs.YtcganoomgdabkaaDoor
open Go.RowKit

theorem trod_cap {H : Type} {enc : TypeId × Value → H} {P : Program} {w : World} {base : Nat} {spare : Nat → Bool} {held : Bool} {t e : TypeId} {A : Option Addr} {n c : Nat} {d : DataW H} {ps : List MemPlace}
    (ht : P.underlying t = some (.slice e)) (h : DataW.Trod enc P w base spare held t (.slice A n c) d ps) : c ≤ 9223372036854775807 := by
  obtain ⟨fuel, h⟩ := h
  have hc : (Value.slice A n c).cells.toList = [.slice A n c] := rfl
  rw [hc] at h
  cases fuel with
  | zero => cases h
  | succ fuel =>
    unfold DataW.trod at h
    rw [ht] at h
    cases A with
    | none =>
      cases n with
      | succ n => simp at h
      | zero => cases c with
        | zero => exact Nat.zero_le _
        | succ c => simp at h
    | some a =>
      dsimp only at h
      split at h
      · rename_i hh
        have := hh.2.2
        simp only [maxLen] at this
        omega
      · cases h
theorem foldR_all (b : Str) {N : Nat} (pre : List (Fin N)) : ∀ l0 l, pre.foldl (fun o x => stepR o (chunkB b x.val)) (some l0) = some l → ∃ t, l = l0 ++ t ∧ t.length = pre.length ∧ ∀ (k : Nat) x, pre[k]? = some x → ∃ r, t[k]? = some r ∧ decP (chunkB b x.val) = some r := by
  induction pre with
  | nil => intro l0 l h; simp at h; subst h; exact ⟨[], by simp, rfl, by simp⟩
  | cons x pre ih =>
    intro l0 l h
    simp only [List.foldl_cons] at h
    cases hp : stepR (some l0) (chunkB b x.val) with
    | none => rw [hp, foldR_none] at h; cases h
    | some l1 =>
      rw [hp] at h
      obtain ⟨t, rfl, ht, hk⟩ := ih l1 l h
      simp only [stepR] at hp
      split at hp
      · rename_i r hr
        split at hp
        · cases hp
        · cases hp
          refine ⟨r :: t, by simp, by simp [ht], fun k y hy => ?_⟩
          cases k with
          | zero => simp at hy; subst hy; exact ⟨r, rfl, hr⟩
          | succ k => simpa using hk k y (by simpa using hy)
      · cases hp
theorem slotsP_all {b : Str} {l : List RW} (h : slotsP b = some l) : b.length = 32 * l.length ∧ ∀ k, k < l.length → ∃ r, l[k]? = some r ∧ decP (chunkB b k) = some r := by
  unfold slotsP at h
  split at h
  · rename_i hm
    obtain ⟨t, ht, hl, hk⟩ := foldR_all b _ [] l h
    simp at ht
    subst ht
    rw [List.length_finRange] at hl
    refine ⟨by omega, fun k hkl => ?_⟩
    have hkn : k < b.length / 32 := by omega
    exact hk k ⟨k, hkn⟩ (by simp [List.getElem?_eq_getElem, hkn])
  · cases h
theorem take_chunk (b : Str) (i : Nat) : b.take (32 * (i + 1)) = b.take (32 * i) ++ chunkB b i := by
  rw [show 32 * (i + 1) = 32 * i + 32 by omega, List.take_add]
  rfl
end Go.Proofs.YtcganoomgdabkaaDoor
