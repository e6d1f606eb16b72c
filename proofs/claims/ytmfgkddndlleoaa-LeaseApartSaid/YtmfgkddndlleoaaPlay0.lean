/- The state of a play: the table, and the document's. -/
import Derived.Test.YtmfgkddndlleoaaLeaseL
set_option linter.unusedSimpArgs false
set_option linter.unusedVariables false
namespace Go.Proofs.Ytmfgkddndlleoaa
open Go.RowKit

structure PS (w : World) (t : Nat) (born : Int) (L Q : List LE) (A : Option Addr) (c : Nat) (ls : List LE) (B : Option Addr) (d : Nat) (qs : List LE) (X : Nat → Prop) (N : Nat) : Prop where
  tl : TL w t born L Q X
  ap : Apart L
  sl : Sl w 5 (.slice A ls.length c) ls.length (flat ls)
  sq : Sl w 5 (.slice B qs.length d) qs.length (flat qs)
  xl : ∀ k, A.map (·.block) = some k → ls ≠ [] → X k
  xq : ∀ k, B.map (·.block) = some k → qs ≠ [] → X k
  lt : ∀ k, X k → k < w.heap.size
  n1 : L.length ≤ N
  n2 : Q.length ≤ N
  n3 : ls.length ≤ N
  n4 : qs.length ≤ N
theorem flat_ne {l : List LE} (h : flat l ≠ []) : l ≠ [] := fun e => h (by rw [e]; rfl)
/-- Behind a call of the table. -/
theorem PS.real {w w' : World} {t : Nat} {born : Int} {L Q L' Q' : List LE} {A : Option Addr} {c : Nat} {ls : List LE} {B : Option Addr} {d : Nat} {qs : List LE} {X : Nat → Prop} {N N' : Nat} (h : PS w t born L Q A c ls B d qs X N) (ht : TL w' t born L' Q' X) (hk : Keep (fun k => ¬ X k) w w') (ha : Apart L') (h1 : L'.length ≤ N') (h2 : Q'.length ≤ N') (hN : N ≤ N') : PS w' t born L' Q' A c ls B d qs X N' :=
  ⟨ht, ha, h.sl.keep hk (fun k e hx hn => hn (h.xl k (by rw [ownBlock_slice] at e; exact e) (flat_ne hx))), h.sq.keep hk (fun k e hx hn => hn (h.xq k (by rw [ownBlock_slice] at e; exact e) (flat_ne hx))), h.xl, h.xq, fun k hx => Nat.lt_of_lt_of_le (h.lt k hx) hk.size, h1, h2, Nat.le_trans h.n3 hN, Nat.le_trans h.n4 hN⟩
/-- Behind steps that only make memory. -/
theorem PS.below {w w' : World} {t : Nat} {born : Int} {L Q : List LE} {A : Option Addr} {c : Nat} {ls : List LE} {B : Option Addr} {d : Nat} {qs : List LE} {X : Nat → Prop} {N : Nat} (h : PS w t born L Q A c ls B d qs X N) (hk : Below w.heap.size w w') : PS w' t born L Q A c ls B d qs X N :=
  ⟨h.tl.below hk, h.ap, h.sl.below hk, h.sq.below hk, h.xl, h.xq, fun k hx => Nat.lt_of_lt_of_le (h.lt k hx) hk.size, h.n1, h.n2, h.n3, h.n4⟩
/-- Blocks of the caller's own join what is not the table's; then stores into these. -/
theorem PS.own {w w' : World} {t : Nat} {born : Int} {L Q : List LE} {A : Option Addr} {c : Nat} {ls : List LE} {B : Option Addr} {d : Nat} {qs : List LE} {X : Nat → Prop} {N : Nat} (h : PS w t born L Q A c ls B d qs X N) (hk : Below w.heap.size w w') (Y : Nat → Prop) (hY : ∀ k, Y k → w.heap.size ≤ k ∧ k < w'.heap.size) : PS w' t born L Q A c ls B d qs (fun k => X k ∨ Y k) N :=
  ⟨h.tl.more hk (fun k hk2 => by rcases hk2 with h2 | h2; exact .inl h2; exact .inr (hY k h2).1), h.ap, h.sl.below hk, h.sq.below hk, fun k e hn => .inl (h.xl k e hn), fun k e hn => .inl (h.xq k e hn), fun k hx => by
    rcases hx with hx | hx
    · exact Nat.lt_of_lt_of_le (h.lt k hx) hk.size
    · exact (hY k hx).2, h.n1, h.n2, h.n3, h.n4⟩
theorem PS.stored {w w' : World} {t : Nat} {born : Int} {L Q : List LE} {A : Option Addr} {c : Nat} {ls : List LE} {B : Option Addr} {d : Nat} {qs : List LE} {X S : Nat → Prop} {N : Nat} (h : PS w t born L Q A c ls B d qs X N) (hk : Keep S w w') (hX : ∀ k, S k → X k) (hA : ∀ k, A.map (·.block) = some k → ls ≠ [] → ¬ S k) (hB : ∀ k, B.map (·.block) = some k → qs ≠ [] → ¬ S k) : PS w' t born L Q A c ls B d qs X N :=
  ⟨h.tl.keep hk (fun k _ hs => hX k hs), h.ap, h.sl.keep hk (fun k e hx => hA k (by rw [ownBlock_slice] at e; exact e) (flat_ne hx)), h.sq.keep hk (fun k e hx => hB k (by rw [ownBlock_slice] at e; exact e) (flat_ne hx)), h.xl, h.xq, fun k hx => Nat.lt_of_lt_of_le (h.lt k hx) hk.size, h.n1, h.n2, h.n3, h.n4⟩
/-- Behind a call of the document's answer: its rows are the ones that were, or made anew. -/
theorem PS.ref {w w' : World} {t : Nat} {born : Int} {L Q : List LE} {A A' : Option Addr} {c c' : Nat} {ls ls' : List LE} {B B' : Option Addr} {d d' : Nat} {qs qs' : List LE} {X : Nat → Prop} {N N' : Nat} (h : PS w t born L Q A c ls B d qs X N) (hk : Below w.heap.size w w')
    (hs : Sl w' 5 (.slice A' ls'.length c') ls'.length (flat ls')) (hq : Sl w' 5 (.slice B' qs'.length d') qs'.length (flat qs')) (hA : ∀ k, A'.map (·.block) = some k → (A.map (·.block) = some k ∧ ls ≠ []) ∨ ls' = [] ∨ w.heap.size ≤ k) (hB : ∀ k, B'.map (·.block) = some k → (B.map (·.block) = some k ∧ qs ≠ []) ∨ qs' = [] ∨ w.heap.size ≤ k)
    (h3 : ls'.length ≤ N') (h4 : qs'.length ≤ N') (hN : N ≤ N') :
    PS w' t born L Q A' c' ls' B' d' qs' (fun k => X k ∨ (w.heap.size ≤ k ∧ ((A'.map (·.block) = some k ∧ ls' ≠ []) ∨ (B'.map (·.block) = some k ∧ qs' ≠ [])))) N' := by
  refine ⟨h.tl.more hk (fun k hk2 => by rcases hk2 with h2 | h2; exact .inl h2; exact .inr h2.1), h.ap, hs, hq, fun k e hn => ?_, fun k e hn => ?_, fun k hx => ?_, Nat.le_trans h.n1 hN, Nat.le_trans h.n2 hN, h3, h4⟩
  · rcases hA k e with h1 | h1 | h1
    · exact .inl (h.xl k h1.1 h1.2)
    · exact absurd h1 hn
    · exact .inr ⟨h1, .inl ⟨e, hn⟩⟩
  · rcases hB k e with h1 | h1 | h1
    · exact .inl (h.xq k h1.1 h1.2)
    · exact absurd h1 hn
    · exact .inr ⟨h1, .inr ⟨e, hn⟩⟩
  · rcases hx with hx | ⟨_, ⟨e, hn⟩ | ⟨e, hn⟩⟩
    · exact Nat.lt_of_lt_of_le (h.lt k hx) hk.size
    · exact hs.lt (by rw [ownBlock_slice]; exact e) (fun e2 => hn (List.eq_nil_of_length_eq_zero (by have := congrArg List.length e2; rw [flat_length] at this; simp at this; omega)))
    · exact hq.lt (by rw [ownBlock_slice]; exact e) (fun e2 => hn (List.eq_nil_of_length_eq_zero (by have := congrArg List.length e2; rw [flat_length] at this; simp at this; omega)))
end Go.Proofs.Ytmfgkddndlleoaa
