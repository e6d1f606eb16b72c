/- Plain laws of sets of stretches: what is in them. -/
import Derived.Test.YtpgjjhpnemcgdaaCach3
set_option linter.unusedSimpArgs false
set_option linter.unusedVariables false
namespace Go.Proofs.Ytpgjjhpnemcgdaa

/-- Is a number in one of the stretches? -/
def Cov (L : List St) (n : Nat) : Prop := ∃ p ∈ L, p.1 ≤ n ∧ n < p.2
theorem cov_nil (n : Nat) : ¬ Cov [] n := by rintro ⟨p, hp, _⟩; cases hp
theorem cov_cons (p : St) (L : List St) (n : Nat) : Cov (p :: L) n ↔ (p.1 ≤ n ∧ n < p.2) ∨ Cov L n := by
  constructor
  · rintro ⟨q, hq, h⟩
    rcases List.mem_cons.1 hq with rfl | hq
    · exact .inl h
    · exact .inr ⟨q, hq, h⟩
  · rintro (h | ⟨q, hq, h⟩)
    · exact ⟨p, by simp, h⟩
    · exact ⟨q, by simp [hq], h⟩
theorem cov_app (a b : List St) (n : Nat) : Cov (a ++ b) n ↔ Cov a n ∨ Cov b n := by
  induction a with
  | nil => simp [cov_nil]
  | cons p a ih => rw [List.cons_append, cov_cons, cov_cons, ih, or_assoc]
theorem cov_one (p : St) (n : Nat) : Cov [p] n ↔ p.1 ≤ n ∧ n < p.2 := by simp [cov_cons, cov_nil]
theorem cov_perm {a b : List St} (h : a.Perm b) (n : Nat) : Cov a n ↔ Cov b n := by
  constructor
  · rintro ⟨p, hp, h2⟩; exact ⟨p, h.mem_iff.1 hp, h2⟩
  · rintro ⟨p, hp, h2⟩; exact ⟨p, h.mem_iff.2 hp, h2⟩
/-- A sound set: each stretch ends ahead of all later ones. -/
structure PS (L : List St) : Prop where
  one : ∀ p ∈ L, Str1 p
  two : L.Pairwise (fun p q => p.2 < q.1)
theorem PS.snd {L : List St} (h : PS L) : Snd L := ⟨h.one, fun i p q hp hq => by
  obtain ⟨h1, rfl⟩ := List.getElem?_eq_some_iff.1 hp
  obtain ⟨h2, rfl⟩ := List.getElem?_eq_some_iff.1 hq
  exact List.pairwise_iff_getElem.1 h.two i (i + 1) h1 h2 (by omega)⟩
theorem PS.nil : PS [] := ⟨by simp, List.Pairwise.nil⟩
theorem PS.single {p : St} (h : Str1 p) : PS [p] := ⟨by simpa using h, by simp⟩
theorem PS.tail {p : St} {L : List St} (h : PS (p :: L)) : PS L ∧ ∀ q ∈ L, p.2 < q.1 := ⟨⟨fun q hq => h.one q (by simp [hq]), (List.pairwise_cons.1 h.two).2⟩, (List.pairwise_cons.1 h.two).1⟩
theorem PS.snoc {L : List St} {p : St} (h : PS L) (hp : Str1 p) (hl : ∀ q ∈ L, q.2 < p.1) : PS (L ++ [p]) := by
  refine ⟨fun q hq => ?_, ?_⟩
  · rcases List.mem_append.1 hq with hq | hq
    · exact h.one q hq
    · rw [List.mem_singleton.1 hq]; exact hp
  · rw [List.pairwise_append]
    exact ⟨h.two, by simp, fun a ha b hb => by rw [List.mem_singleton.1 hb]; exact hl a ha⟩
/-- How many stretches fit below a number. -/
theorem PS.len {N : Nat} : ∀ {L : List St} {m : Nat}, PS L → (∀ p ∈ L, m ≤ p.1 ∧ p.2 ≤ N) → m ≤ N → L.length ≤ N - m
  | [], m, _, _, _ => by simp
  | p :: L, m, h, hb, hm => by
    obtain ⟨h1, h2⟩ := h.tail
    have hp := h.one p (by simp)
    have hpb := hb p (by simp)
    have := PS.len (N := N) (L := L) (m := p.2) h1 (fun q hq => ⟨Nat.le_of_lt (h2 q hq), (hb q (by simp [hq])).2⟩) hpb.2
    have := hp.1
    rw [List.length_cons]
    omega
theorem not_cov_after {L : List St} {n m : Nat} (h : ∀ q ∈ L, m < q.1) (hn : n ≤ m) : ¬ Cov L n := by
  rintro ⟨q, hq, h1, _⟩
  have := h q hq
  omega
theorem less_one (a b : Nat) (hb : b ≤ 1099511627776) : ∀ (B : List St) (f : Nat) (out : List St), PS B → PS out → (∀ p ∈ out, p.2 < f ∧ p.2 ≤ b) →
    PS (lessEnd (a, b) (lessIn (a, b) B f out)) ∧ (∀ p ∈ lessEnd (a, b) (lessIn (a, b) B f out), p.2 ≤ b) ∧ ∀ n, Cov (lessEnd (a, b) (lessIn (a, b) B f out)) n ↔ Cov out n ∨ (f ≤ n ∧ n < b ∧ ¬ Cov B n)
  | [], f, out, _, ho, hp => by
    unfold lessIn lessEnd
    simp only
    by_cases h : f < b
    · rw [if_pos h]
      refine ⟨ho.snoc ⟨h, hb⟩ (fun q hq => (hp q hq).1), fun p hpm => ?_, fun n => ?_⟩
      · rcases List.mem_append.1 hpm with hpm | hpm
        · exact (hp p hpm).2
        · rw [List.mem_singleton.1 hpm]; exact Nat.le_refl _
      · rw [cov_app, cov_one]
        simp [cov_nil]
    · rw [if_neg h]
      refine ⟨ho, fun p hpm => (hp p hpm).2, fun n => ?_⟩
      constructor
      · exact .inl
      · rintro (h1 | ⟨h1, h2, _⟩)
        · exact h1
        · omega
  | q :: B, f, out, hB, ho, hp => by
    obtain ⟨hB2, hB3⟩ := hB.tail
    have hq := hB.one q (by simp)
    unfold lessIn
    by_cases h : q.2 ≤ f ∨ b ≤ q.1
    · rw [if_pos h]
      obtain ⟨i1, i2, i3⟩ := less_one a b hb B f out hB2 ho hp
      refine ⟨i1, i2, fun n => ?_⟩
      rw [i3 n, cov_cons]
      constructor
      · rintro (h1 | ⟨h1, h2, h3⟩)
        · exact .inl h1
        · exact .inr ⟨h1, h2, fun hc => hc.elim (fun hc => by omega) h3⟩
      · rintro (h1 | ⟨h1, h2, h3⟩)
        · exact .inl h1
        · exact .inr ⟨h1, h2, fun hc => h3 (.inr hc)⟩
    · rw [if_neg h]
      have hq1 := hq.1
      by_cases h2 : f < q.1
      · rw [if_pos h2]
        obtain ⟨i1, i2, i3⟩ := less_one a b hb B q.2 (out ++ [(f, q.1)]) hB2 (ho.snoc ⟨h2, by simp only; omega⟩ (fun r hr => (hp r hr).1)) (fun r hr => by
          rcases List.mem_append.1 hr with hr | hr
          · have := hp r hr; omega
          · rw [List.mem_singleton.1 hr]; simp only; omega)
        refine ⟨i1, i2, fun n => ?_⟩
        rw [i3 n, cov_app, cov_one, cov_cons]
        simp only
        constructor
        · rintro ((h3 | ⟨h3, h4⟩) | ⟨h3, h4, h5⟩)
          · exact .inl h3
          · refine .inr ⟨h3, by omega, fun hc => ?_⟩
            rcases hc with hc | hc
            · omega
            · exact not_cov_after hB3 (by omega) hc
          · refine .inr ⟨by omega, h4, fun hc => ?_⟩
            rcases hc with hc | hc
            · omega
            · exact h5 hc
        · rintro (h3 | ⟨h3, h4, h5⟩)
          · exact .inl (.inl h3)
          · by_cases h6 : n < q.1
            · exact .inl (.inr ⟨h3, h6⟩)
            · refine .inr ⟨?_, h4, fun hc => h5 (.inr hc)⟩
              apply Nat.le_of_not_lt
              intro h7
              exact h5 (.inl ⟨by omega, h7⟩)
      · rw [if_neg h2]
        obtain ⟨i1, i2, i3⟩ := less_one a b hb B q.2 out hB2 ho (fun r hr => by have := hp r hr; omega)
        refine ⟨i1, i2, fun n => ?_⟩
        rw [i3 n, cov_cons]
        constructor
        · rintro (h3 | ⟨h3, h4, h5⟩)
          · exact .inl h3
          · refine .inr ⟨by omega, h4, fun hc => ?_⟩
            rcases hc with hc | hc
            · omega
            · exact h5 hc
        · rintro (h3 | ⟨h3, h4, h5⟩)
          · exact .inl h3
          · refine .inr ⟨?_, h4, fun hc => h5 (.inr hc)⟩
            apply Nat.le_of_not_lt
            intro h7
            exact h5 (.inl ⟨by omega, h7⟩)
theorem less_go (B : List St) (hB : PS B) : ∀ (A out : List St), PS A → PS out → (∀ p ∈ out, ∀ q ∈ A, p.2 < q.1) →
    PS (lessGo B A out) ∧ ∀ n, Cov (lessGo B A out) n ↔ Cov out n ∨ (Cov A n ∧ ¬ Cov B n)
  | [], out, _, ho, _ => ⟨ho, fun n => by simp [lessGo, cov_nil]⟩
  | z :: A, out, hA, ho, hp => by
    obtain ⟨hA2, hA3⟩ := hA.tail
    have hz := hA.one z (by simp)
    obtain ⟨a, b⟩ := z
    have hz1 : a < b := hz.1
    have hz2 : b ≤ 1099511627776 := hz.2
    obtain ⟨i1, i2, i3⟩ := less_one a b hz2 B a out hB ho (fun p hpm => by have := hp p hpm (a, b) (by simp); simp only at this; omega)
    unfold lessGo
    obtain ⟨j1, j2⟩ := less_go B hB A _ hA2 i1 (fun p hpm q hq => by have := i2 p hpm; have := hA3 q hq; simp only at this; omega)
    refine ⟨j1, fun n => ?_⟩
    rw [j2 n, i3 n, cov_cons]
    constructor
    · rintro ((h | ⟨h1, h2, h3⟩) | ⟨h1, h2⟩)
      · exact .inl h
      · exact .inr ⟨.inl ⟨h1, h2⟩, h3⟩
      · exact .inr ⟨.inr h1, h2⟩
    · rintro (h | ⟨⟨h1, h2⟩ | h1, h3⟩)
      · exact .inl (.inl h)
      · exact .inl (.inr ⟨h1, h2, h3⟩)
      · exact .inr ⟨h1, h3⟩
theorem less_law {A B : List St} (hA : PS A) (hB : PS B) : PS (lessP A B) ∧ ∀ n, Cov (lessP A B) n ↔ Cov A n ∧ ¬ Cov B n := by
  obtain ⟨h1, h2⟩ := less_go B hB A [] hA PS.nil (by simp)
  exact ⟨h1, fun n => by unfold lessP; rw [h2 n]; simp [cov_nil]⟩
/-- What the library makes of stretches that stand in order. -/
def joinGo : List St → List St → List St
  | [], out => out
  | z :: L, out => match out.getLast? with
    | none => joinGo L (out ++ [z])
    | some p => if p.2 < z.1 then joinGo L (out ++ [z]) else joinGo L (out.dropLast ++ [(p.1, max p.2 z.2)])
theorem joinGo_len : ∀ (L out : List St), (joinGo L out).length ≤ L.length + out.length
  | [], out => by simp [joinGo]
  | z :: L, out => by
    unfold joinGo
    split
    · have := joinGo_len L (out ++ [z]); simp at this ⊢; omega
    · split
      · have := joinGo_len L (out ++ [z]); simp at this ⊢; omega
      · rename_i p hp _
        have := joinGo_len L (out.dropLast ++ [(p.1, max p.2 z.2)])
        simp at this ⊢
        omega
theorem join_go : ∀ (L out : List St), L.Pairwise (fun p q => p.1 ≤ q.1) → (∀ p ∈ L, Str1 p) → PS out → (∀ p ∈ out, ∀ q ∈ L, p.1 ≤ q.1) →
    PS (joinGo L out) ∧ ∀ n, Cov (joinGo L out) n ↔ Cov out n ∨ Cov L n
  | [], out, _, _, ho, _ => ⟨ho, fun n => by simp [joinGo, cov_nil]⟩
  | z :: L, out, hL, h1, ho, hp => by
    obtain ⟨hL1, hL2⟩ := List.pairwise_cons.1 hL
    have hz := h1 z (by simp)
    have hz1 := hz.1
    have h1' : ∀ p ∈ L, Str1 p := fun p hpm => h1 p (by simp [hpm])
    have grow : (∀ q ∈ out, q.2 < z.1) → PS (joinGo L (out ++ [z])) ∧ ∀ n, Cov (joinGo L (out ++ [z])) n ↔ Cov out n ∨ Cov (z :: L) n := fun hlt => by
      obtain ⟨i1, i2⟩ := join_go L (out ++ [z]) hL2 h1' (ho.snoc hz hlt) (fun p hpm q hq => by
        rcases List.mem_append.1 hpm with hpm | hpm
        · exact hp p hpm q (by simp [hq])
        · rw [List.mem_singleton.1 hpm]; exact hL1 q hq)
      exact ⟨i1, fun n => by rw [i2 n, cov_app, cov_one, cov_cons, or_assoc]⟩
    unfold joinGo
    cases hl : out.getLast? with
    | none =>
      have : out = [] := List.getLast?_eq_none_iff.1 hl
      subst this
      exact grow (by simp)
    | some p =>
      obtain ⟨r, rfl⟩ := List.getLast?_eq_some_iff.1 hl
      have hr : PS r ∧ Str1 p ∧ ∀ q ∈ r, q.2 < p.1 := by
        have h2 := List.pairwise_append.1 ho.two
        exact ⟨⟨fun q hq => ho.one q (by simp [hq]), h2.1⟩, ho.one p (by simp), fun q hq => h2.2.2 q hq p (by simp)⟩
      have hp1 := hr.2.1.1
      simp only
      by_cases h : p.2 < z.1
      · rw [if_pos h]
        exact grow (fun q hq => by
          rcases List.mem_append.1 hq with hq | hq
          · have := hr.2.2 q hq; omega
          · rw [List.mem_singleton.1 hq]; exact h)
      · rw [if_neg h, List.dropLast_concat]
        have hpz : p.1 ≤ z.1 := hp p (by simp) z (by simp)
        obtain ⟨i1, i2⟩ := join_go L (r ++ [(p.1, max p.2 z.2)]) hL2 h1' (hr.1.snoc ⟨by simp only; omega, by have := hr.2.1.2; have := hz.2; simp only; omega⟩ hr.2.2) (fun q hq s hs => by
          rcases List.mem_append.1 hq with hq | hq
          · exact hp q (by simp [hq]) s (by simp [hs])
          · rw [List.mem_singleton.1 hq]; exact hp p (by simp) s (by simp [hs]))
        refine ⟨i1, fun n => ?_⟩
        rw [i2 n, cov_app, cov_app, cov_one, cov_one, cov_cons]
        simp only
        constructor
        · rintro ((h3 | h3) | h3)
          · exact .inl (.inl h3)
          · by_cases h4 : n < p.2
            · exact .inl (.inr ⟨h3.1, h4⟩)
            · exact .inr (.inl ⟨by omega, by omega⟩)
          · exact .inr (.inr h3)
        · rintro ((h3 | h3) | h3 | h3)
          · exact .inl (.inl h3)
          · exact .inl (.inr ⟨h3.1, by omega⟩)
          · exact .inl (.inr ⟨by omega, by omega⟩)
          · exact .inr h3
theorem join_law {L : List St} (h1 : L.Pairwise (fun p q => p.1 ≤ q.1)) (h2 : ∀ p ∈ L, Str1 p) : PS (joinGo L []) ∧ ∀ n, Cov (joinGo L []) n ↔ Cov L n := by
  obtain ⟨i1, i2⟩ := join_go L [] h1 h2 PS.nil (by simp)
  exact ⟨i1, fun n => by rw [i2 n]; simp [cov_nil]⟩
end Go.Proofs.Ytpgjjhpnemcgdaa
