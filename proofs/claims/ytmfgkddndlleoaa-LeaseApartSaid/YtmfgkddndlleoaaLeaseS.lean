/- set. -/
import Derived.Test.YtmfgkddndlleoaaLeaseQ
import Derived.Deep.RegionHeld3
import Derived.Deep.DrawnRows
set_option linter.unusedSimpArgs false
set_option linter.unusedVariables false
namespace Go.Proofs.Ytmfgkddndlleoaa
open Go.RowKit

/-- A lease more, or in the place of the one that is there. -/
def putP (x : LE) : List LE → List LE
  | [] => [x]
  | a :: l => if mineP x.n x.g x.s a = true then ⟨x.n, x.g, x.s, max x.m a.m, x.x⟩ :: l else a :: putP x l
theorem putP_miss {x : LE} {l : List LE} (h : ∀ (j : Nat) a, l[j]? = some a → mineP x.n x.g x.s a = false) : putP x l = l ++ [x] := by
  induction l with
  | nil => rfl
  | cons a l ih =>
    have h0 := h 0 a rfl
    simp only [putP, h0, Bool.false_eq_true, if_false, List.cons_append, List.cons.injEq, true_and]
    exact ih fun j b hb => h (j + 1) b (by simpa using hb)
theorem putP_hit {x e : LE} {l : List LE} {k : Nat} (hk : l[k]? = some e) (hp : mineP x.n x.g x.s e = true) (h : ∀ (j : Nat) a, j < k → l[j]? = some a → mineP x.n x.g x.s a = false) : putP x l = l.set k ⟨x.n, x.g, x.s, max x.m e.m, x.x⟩ := by
  induction l generalizing k with
  | nil => simp at hk
  | cons a l ih =>
    cases k with
    | zero => simp only [List.getElem?_cons_zero, Option.some.injEq] at hk; subst hk; simp [putP, hp]
    | succ k =>
      have h0 := h 0 a (by omega) rfl
      simp only [putP, h0, Bool.false_eq_true, if_false, List.set_cons_succ, List.cons.injEq, true_and]
      exact ih (by simpa using hk) fun j b hj hb => h (j + 1) b (by omega) (by simpa using hb)

/-- The variable l, behind its declaration. -/
def boxed (W : World) (e : LE) : World := (W.alloc (.cells #[.int .i64 e.n, .int .i64 e.g, .int .i64 e.s, .int .i64 e.m, .int .i64 e.x] 39)).drew
theorem boxed_fact (W : World) (e : LE) : (boxed W e).heap[W.heap.size]? = some (.cells #[.int .i64 e.n, .int .i64 e.g, .int .i64 e.s, .int .i64 e.m, .int .i64 e.x] 39 (0, 0)) ∧ Below W.heap.size W (boxed W e) ∧ W.heap.size < (boxed W e).heap.size := by
  have b := blk_new W (.cells #[.int .i64 e.n, .int .i64 e.g, .int .i64 e.s, .int .i64 e.m, .int .i64 e.x] 39)
  exact ⟨b, ((Below.refl _ _).alloc (Nat.le_refl _) _).drew, blk_lt b⟩
/-- The list of leases grew by one. -/
theorem TabEnd.moreL {t : Nat} {born : Int} {L Q : List LE} {A B : Option Addr} {c d : Nat} {w w2 : World} {e : LE} {x : Obj} {w1 : World} {A2 : Option Addr} {c2 : Nat} (r : Value) (h : Tab w t born L Q A B c d) (hk : Below w.heap.size w w1)
    (hf : L.length + Q.length < 1000000) (he : 0 ≤ e.x ∧ e.x ≤ 1099511627776)
    (g1 : w2.ownsRow 0 39 5 (.slice A2 (L.length + 1) c2) (L.length + 1) (flat L ++ e.cells)) (g2 : Keep (fun k => (Value.slice A L.length c).ownBlock = some k) (w1.alloc x) w2)
    (g3 : (Value.slice A2 (L.length + 1) c2).ownBlock = (Value.slice A L.length c).ownBlock ∨ (Value.slice A2 (L.length + 1) c2).ownBlock = some (w1.heap.size + 1)) :
    w2.heap[t]? = some (.cells #[.int .i64 born, .slice A L.length c, .slice B Q.length d] 44 (0, 0)) ∧
    TabEnd t born (L ++ [e]) Q A B w r (.returned r) (w2.setCell ⟨t, 1, none⟩ (.slice A2 (L.length + 1) c2)) := by
  have hlt := h.lt
  have k1 : Keep (fun k => A.map (·.block) = some k) w w2 := ((Keep.of_below (S := fun k => A.map (·.block) = some k) hk).alloc x).trans g2 (fun i _ e => by rw [ownBlock_slice] at e; exact e)
  have hBt : ¬ A.map (·.block) = some t := fun e => own_ne_blk h.ownL h.blk (by decide) (by rw [ownBlock_slice]; exact e) rfl
  have hAB : ∀ k, B.map (·.block) = some k → ¬ A.map (·.block) = some k := fun k e1 e2 => own_ne h.ownL h.ownQ (by decide) (by rw [ownBlock_slice]; exact e2) (by rw [ownBlock_slice]; exact e1)
  have hlen : (L ++ [e]).length = L.length + 1 := by simp
  have g1' : w2.ownsRow 0 39 5 (.slice A2 (L ++ [e]).length c2) (L ++ [e]).length (flat (L ++ [e])) := by rw [hlen, flat_snoc]; exact g1
  have hin : inClock (L ++ [e]) := by
    intro a ha
    rcases List.mem_append.1 ha with h1 | h1
    · exact h.cl a h1
    · rw [List.mem_singleton.1 h1]; exact he
  obtain ⟨t1, t2⟩ := h.putL k1 hBt hAB g1' hin (by rw [hlen]; omega)
  refine ⟨k1.blk h.blk hBt, rfl, A2, B, c2, d, by rw [hlen] at t1; exact t1, (k1.mono (fun _ _ e => .inr (.inl e))).trans (by rw [hlen] at t2; exact t2) (fun i _ e => .inl e), ?_⟩
  rintro k (rfl | e1 | e1)
  · exact .inl (.inl rfl)
  · rcases g3 with e2 | e2
    · rw [ownBlock_slice, ownBlock_slice, e1] at e2
      exact .inl (.inr (.inl e2.symm))
    · rw [ownBlock_slice, e1] at e2
      injection e2 with e2
      have := hk.size
      exact .inr (by omega)
  · exact .inl (.inr (.inr e1))
/-- A lease was turned in its place. -/
theorem TabEnd.sameL {t b : Nat} {born : Int} {L Q : List LE} {B : Option Addr} {c d k : Nat} {w w1 : World} (r : Value) (e : LE) (h : Tab w t born L Q (some ⟨b, 0, none⟩) B c d) (hk : Below w.heap.size w w1) (hq : k < L.length) (hv : 0 ≤ e.x ∧ e.x ≤ 1099511627776) :
    TabEnd t born (L.set k e) Q (some ⟨b, 0, none⟩) B w r (.returned r) (((((w1.setCell ⟨b, k * 5, none⟩ (.int .i64 e.n)).setCell ⟨b, k * 5 + 1, none⟩ (.int .i64 e.g)).setCell ⟨b, k * 5 + 2, none⟩ (.int .i64 e.s)).setCell ⟨b, k * 5 + 3, none⟩ (.int .i64 e.m)).setCell ⟨b, k * 5 + 4, none⟩ (.int .i64 e.x)) := by
  have k1 : Keep (fun k => k = b) w (((((w1.setCell ⟨b, k * 5, none⟩ (.int .i64 e.n)).setCell ⟨b, k * 5 + 1, none⟩ (.int .i64 e.g)).setCell ⟨b, k * 5 + 2, none⟩ (.int .i64 e.s)).setCell ⟨b, k * 5 + 3, none⟩ (.int .i64 e.m)).setCell ⟨b, k * 5 + 4, none⟩ (.int .i64 e.x)) := (((((Keep.of_below (S := fun k => k = b) hk).setCell (fun _ => rfl) _).setCell (fun _ => rfl) _).setCell (fun _ => rfl) _).setCell (fun _ => rfl) _).setCell (fun _ => rfl) _
  have o1 := own_put (j := k * 5 + 4) (own_put (j := k * 5 + 3) (own_put (j := k * 5 + 2) (own_put (j := k * 5 + 1) (own_put (j := k * 5) (own_keep h.ownL (Keep.of_below (S := fun _ => False) hk) (fun _ _ h => h)) (.int .i64 e.n)) (.int .i64 e.g)) (.int .i64 e.s)) (.int .i64 e.m)) (.int .i64 e.x)
  rw [flat_set5 hq e] at o1
  have hbt : ¬ t = b := fun e => own_ne_blk h.ownL h.blk (by decide) (by rw [ownBlock_slice]; rfl) e.symm
  have hAB : ∀ k, B.map (·.block) = some k → ¬ k = b := fun k e1 e2 => own_ne h.ownL h.ownQ (by decide) (k := k) (by rw [ownBlock_slice, e2]; rfl) (by rw [ownBlock_slice]; exact e1)
  have hlen : (L.set k e).length = L.length := by simp
  refine ⟨rfl, some ⟨b, 0, none⟩, B, c, d, ⟨by rw [hlen]; exact k1.blk h.blk hbt, by rw [hlen]; exact o1, own_keep h.ownQ k1 (fun k e => hAB k (by rw [ownBlock_slice] at e; exact e)), h.b0, h.b1, ?_, h.cq, by rw [hlen]; exact h.few⟩, k1.mono (fun i _ e => .inr (.inl (by rw [e]; rfl))), fun k hk => .inl hk⟩
  intro a ha
  obtain ⟨j, hj⟩ := List.mem_iff_getElem?.1 ha
  rw [List.getElem?_set] at hj
  split at hj
  · injection hj with hj; rw [← hj]; exact hv
  · exact h.cl a (List.mem_iff_getElem?.2 ⟨j, hj⟩)
/-- Behind some steps of a call that turned the table, the rest. -/
theorem TabEnd.after {t : Nat} {born : Int} {L' Q' : List LE} {A B A' B' : Option Addr} {w w1 : World} {r : Value} {e : Ending} {w' : World} (h : TabEnd t born L' Q' A' B' w1 r e w') (hk : Keep (tabOwn t A B) w w1) (hab : ∀ k, tabOwn t A' B' k → tabOwn t A B k ∨ w.heap.size ≤ k) : TabEnd t born L' Q' A B w r e w' := by
  obtain ⟨he, A2, B2, c2, d2, hT, hk2, h2⟩ := h
  refine ⟨he, A2, B2, c2, d2, hT, hk.trans hk2 (fun i hi hT => ?_), fun k hk3 => ?_⟩
  · rcases hab i hT with h | h
    · exact h
    · omega
  · rcases h2 k hk3 with h | h
    · exact hab k h
    · exact .inr (Nat.le_trans hk.size h)
end Go.Proofs.Ytmfgkddndlleoaa
