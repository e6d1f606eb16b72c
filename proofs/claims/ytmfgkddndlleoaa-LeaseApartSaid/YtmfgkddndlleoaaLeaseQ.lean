/- DeleteFunc on the line of those who wait, and on the leases, by a function value that changes nothing. -/
import Derived.Test.YtmfgkddndlleoaaLeaseW2
set_option linter.unusedSimpArgs false
set_option linter.unusedVariables false
namespace Go.Proofs.Ytmfgkddndlleoaa
open Go.RowKit

theorem del_queue {t : Nat} {born : Int} {L Q : List LE} {A B : Option Addr} {c d : Nat} {w w0 : World} (h : Tab w t born L Q A B c d) (k0 : Below w.heap.size w w0) (g : Nat) (lb : Array Value) (p : LE → Bool) (eg : ∀ args w, (callFunc g args).run Try.prog w = .ok (.enter g args) w)
    (hcl : ∀ x ∈ Q, ∀ W, Keep (fun k => B.map (·.block) = some k) w0 W → Calls Try.prog g (#[x.val] ++ lb) W fun e W' => e = .returned (.bool (p x)) ∧ Below W.heap.size W W') :
    Calls Try.prog 30 #[.slice B Q.length d, .func (.func g) #[] lb] w0 fun e w1 => e = .returned (.slice B (Q.filter fun x => !p x).length d) ∧ w1.heap[t]? = some (.cells #[.int .i64 born, .slice A L.length c, .slice B Q.length d] 44 (0, 0)) ∧
      Keep (fun k => B.map (·.block) = some k) w0 w1 ∧ Tab (w1.setCell ⟨t, 2, none⟩ (.slice B (Q.filter fun x => !p x).length d)) t born L (Q.filter fun x => !p x) A B c d ∧ Keep (tabOwn t A B) w (w1.setCell ⟨t, 2, none⟩ (.slice B (Q.filter fun x => !p x).length d)) := by
  have hL := h.few
  have hfl : (Q.filter fun x => !p x).length ≤ Q.length := List.length_filter_le _ _
  have hBt : ¬ B.map (·.block) = some t := fun e => own_ne_blk h.ownQ h.blk (by decide) (by rw [ownBlock_slice]; exact e) rfl
  have hAB : ∀ k, A.map (·.block) = some k → ¬ B.map (·.block) = some k := fun k e1 e2 => own_ne h.ownL h.ownQ (by decide) (by rw [ownBlock_slice]; exact e1) (by rw [ownBlock_slice]; exact e2)
  have fin : ∀ w1, Keep (fun k => B.map (·.block) = some k) w0 w1 → w1.ownsRow 0 66 5 (.slice B (Q.filter fun x => !p x).length d) (Q.filter fun x => !p x).length (flat (Q.filter fun x => !p x)) →
      w1.heap[t]? = some (.cells #[.int .i64 born, .slice A L.length c, .slice B Q.length d] 44 (0, 0)) ∧
      Keep (fun k => B.map (·.block) = some k) w0 w1 ∧ Tab (w1.setCell ⟨t, 2, none⟩ (.slice B (Q.filter fun x => !p x).length d)) t born L (Q.filter fun x => !p x) A B c d ∧ Keep (tabOwn t A B) w (w1.setCell ⟨t, 2, none⟩ (.slice B (Q.filter fun x => !p x).length d)) := by
    intro w1 hk hown
    have hkt : Keep (fun k => B.map (·.block) = some k) w w1 := (Keep.of_below (S := fun k => B.map (·.block) = some k) k0).trans hk (fun i _ e => e)
    obtain ⟨t1, t2⟩ := h.putQ hkt hBt hAB hown (inClock_filter _ h.cq) (by omega)
    exact ⟨hkt.blk h.blk hBt, hk, t1, (hkt.mono (fun _ _ e => .inr (.inr e))).trans t2 (fun i _ e => .inl e)⟩
  rcases h.ownQ.2 with ⟨e, h0⟩ | ⟨b, cap, cur, e, _, hb, q1, q2, q3, q4⟩
  · injection e with ee1 ee2 ee3
    subst ee1 ee3
    obtain rfl : Q = [] := List.eq_nil_of_length_eq_zero h0
    refine (delW_nil w0 g lb eg).mono ?_
    rintro e w1 ⟨rfl, rfl⟩
    exact ⟨rfl, fin _ (Keep.refl _ _) (own_keep h.ownQ (Keep.of_below (S := fun _ => False) k0) (fun _ _ h => h))⟩
  · injection e with ee1 ee2 ee3
    subst ee1 ee3
    refine (delW b d Q w0 g lb p eg (fun M done W => M = (fun _ => False) ∧ Keep (fun k => k = b) w0 W) (fun _ => False) ⟨rfl, Keep.refl _ _⟩ ?_ (own_keep h.ownQ (Keep.of_below (S := fun _ => False) k0) (fun _ _ h => h)) ?_ ?_ (by omega)).mono ?_
    · rintro W M done x hpre ⟨rfl, hk⟩
      refine (hcl x (hpre.subset (by simp)) W (hk.mono (fun i _ e => by rw [e]; rfl))).mono ?_
      rintro e W' ⟨he, hb⟩
      exact ⟨he, ⟨fun _ => False, rfl, hk.trans (Keep.of_below (S := fun k => k = b) hb) (fun _ _ e => e)⟩, Keep.of_below hb⟩
    · rintro M done W ⟨rfl, _⟩ k hk
      exact hk.elim
    · rintro M done W W' ⟨rfl, hk⟩ hk'
      exact ⟨rfl, hk.trans hk' (fun _ _ e => e)⟩
    · rintro e w1 ⟨rfl, hown, M, rfl, hk⟩
      exact ⟨rfl, fin _ (hk.mono (fun i _ e => by rw [e]; rfl)) hown⟩
theorem del_list {t : Nat} {born : Int} {L Q : List LE} {A B : Option Addr} {c d : Nat} {w w0 : World} (h : Tab w t born L Q A B c d) (k0 : Below w.heap.size w w0) (g : Nat) (lb : Array Value) (p : LE → Bool) (eg : ∀ args w, (callFunc g args).run Try.prog w = .ok (.enter g args) w)
    (hcl : ∀ x ∈ L, ∀ W, Keep (fun k => A.map (·.block) = some k) w0 W → Calls Try.prog g (#[x.val] ++ lb) W fun e W' => e = .returned (.bool (p x)) ∧ Below W.heap.size W W') :
    Calls Try.prog 42 #[.slice A L.length c, .func (.func g) #[] lb] w0 fun e w1 => e = .returned (.slice A (L.filter fun x => !p x).length c) ∧ w1.heap[t]? = some (.cells #[.int .i64 born, .slice A L.length c, .slice B Q.length d] 44 (0, 0)) ∧
      Keep (fun k => A.map (·.block) = some k) w0 w1 ∧ Tab (w1.setCell ⟨t, 1, none⟩ (.slice A (L.filter fun x => !p x).length c)) t born (L.filter fun x => !p x) Q A B c d ∧ Keep (tabOwn t A B) w (w1.setCell ⟨t, 1, none⟩ (.slice A (L.filter fun x => !p x).length c)) := by
  have hL := h.few
  have hfl : (L.filter fun x => !p x).length ≤ L.length := List.length_filter_le _ _
  have hBt : ¬ A.map (·.block) = some t := fun e => own_ne_blk h.ownL h.blk (by decide) (by rw [ownBlock_slice]; exact e) rfl
  have hAB : ∀ k, B.map (·.block) = some k → ¬ A.map (·.block) = some k := fun k e1 e2 => own_ne h.ownL h.ownQ (by decide) (by rw [ownBlock_slice]; exact e2) (by rw [ownBlock_slice]; exact e1)
  have fin : ∀ w1, Keep (fun k => A.map (·.block) = some k) w0 w1 → w1.ownsRow 0 39 5 (.slice A (L.filter fun x => !p x).length c) (L.filter fun x => !p x).length (flat (L.filter fun x => !p x)) →
      w1.heap[t]? = some (.cells #[.int .i64 born, .slice A L.length c, .slice B Q.length d] 44 (0, 0)) ∧
      Keep (fun k => A.map (·.block) = some k) w0 w1 ∧ Tab (w1.setCell ⟨t, 1, none⟩ (.slice A (L.filter fun x => !p x).length c)) t born (L.filter fun x => !p x) Q A B c d ∧ Keep (tabOwn t A B) w (w1.setCell ⟨t, 1, none⟩ (.slice A (L.filter fun x => !p x).length c)) := by
    intro w1 hk hown
    have hkt : Keep (fun k => A.map (·.block) = some k) w w1 := (Keep.of_below (S := fun k => A.map (·.block) = some k) k0).trans hk (fun i _ e => e)
    obtain ⟨t1, t2⟩ := h.putL hkt hBt hAB hown (inClock_filter _ h.cl) (by omega)
    exact ⟨hkt.blk h.blk hBt, hk, t1, (hkt.mono (fun _ _ e => .inr (.inl e))).trans t2 (fun i _ e => .inl e)⟩
  rcases h.ownL.2 with ⟨e, h0⟩ | ⟨b, cap, cur, e, _, hb, q1, q2, q3, q4⟩
  · injection e with ee1 ee2 ee3
    subst ee1 ee3
    obtain rfl : L = [] := List.eq_nil_of_length_eq_zero h0
    refine (delL_nil w0 g lb eg).mono ?_
    rintro e w1 ⟨rfl, rfl⟩
    exact ⟨rfl, fin _ (Keep.refl _ _) (own_keep h.ownL (Keep.of_below (S := fun _ => False) k0) (fun _ _ h => h))⟩
  · injection e with ee1 ee2 ee3
    subst ee1 ee3
    refine (delL b c L w0 g lb p eg (fun M done W => M = (fun _ => False) ∧ Keep (fun k => k = b) w0 W) (fun _ => False) ⟨rfl, Keep.refl _ _⟩ ?_ (own_keep h.ownL (Keep.of_below (S := fun _ => False) k0) (fun _ _ h => h)) ?_ ?_ (by omega)).mono ?_
    · rintro W M done x hpre ⟨rfl, hk⟩
      refine (hcl x (hpre.subset (by simp)) W (hk.mono (fun i _ e => by rw [e]; rfl))).mono ?_
      rintro e W' ⟨he, hb⟩
      exact ⟨he, ⟨fun _ => False, rfl, hk.trans (Keep.of_below (S := fun k => k = b) hb) (fun _ _ e => e)⟩, Keep.of_below hb⟩
    · rintro M done W ⟨rfl, _⟩ k hk
      exact hk.elim
    · rintro M done W W' ⟨rfl, hk⟩ hk'
      exact ⟨rfl, hk.trans hk' (fun _ _ e => e)⟩
    · rintro e w1 ⟨rfl, hown, M, rfl, hk⟩
      exact ⟨rfl, fin _ (hk.mono (fun i _ e => by rw [e]; rfl)) hown⟩
end Go.Proofs.Ytmfgkddndlleoaa
