/- blocks. -/
import Derived.Test.YtmfgkddndlleoaaLeaseB2
set_option linter.unusedSimpArgs false
set_option linter.unusedVariables false
namespace Go.Proofs.Ytmfgkddndlleoaa
open Go.RowKit

def seatsP (n g s m now : Int) (l : List LE) : List Int := (l.filter (stayP n g s m now)).map (·.s)
theorem seatsP_snoc (n g s m now : Int) (l : List LE) (x : LE) : seatsP n g s m now (l ++ [x]) = seatsP n g s m now l ++ if stayP n g s m now x = true then [x.s] else [] := by
  unfold seatsP
  rw [List.filter_append, List.map_append]
  congr 1
  by_cases h : stayP n g s m now x = true <;> simp [h]
theorem seatsP_length (n g s m now : Int) (l : List LE) : (seatsP n g s m now l).length ≤ l.length := by unfold seatsP; rw [List.length_map]; exact List.length_filter_le _ _
/-- The state of the deleting in blocks: from world w1 on. -/
def BSt (n g s m now : Int) (w1 : World) (b B5 : Nat) (M : Nat → Prop) (done : List LE) (W : World) : Prop :=
  (∃ O c, Outs W B5 (seatsP n g s m now done) O c ∧ M = (fun k => k = B5 ∨ (Value.slice O 0 0).ownBlock = some k) ∧ ∀ k, (Value.slice O 0 0).ownBlock = some k → w1.heap.size ≤ k ∧ k < W.heap.size) ∧ Keep (fun k => k = b ∨ k = B5) w1 W
theorem closesB {n g s m now : Int} {w1 : World} {b B1 B2 B3 B4 B5 : Nat} {L : List LE} (h0 : w1.cell? ⟨B1, 0, none⟩ = some (.int .i64 n)) (h1 : w1.cell? ⟨B1, 1, none⟩ = some (.int .i64 g)) (h2 : w1.cell? ⟨B2, 0, none⟩ = some (.int .i64 s))
    (h3 : w1.cell? ⟨B3, 0, none⟩ = some (.int .i64 m)) (h4 : w1.cell? ⟨B4, 0, none⟩ = some (.int .i64 now)) (n1 : ¬ (B1 = b ∨ B1 = B5)) (n2 : ¬ (B2 = b ∨ B2 = B5)) (n3 : ¬ (B3 = b ∨ B3 = B5)) (n4 : ¬ (B4 = b ∨ B4 = B5))
    (hc : inClock L) (hl : L.length ≤ 1000000) :
    Closes Try.prog 46 #[.pointer (some ⟨B1, 0, none⟩), .pointer (some ⟨B2, 0, none⟩), .pointer (some ⟨B3, 0, none⟩), .pointer (some ⟨B4, 0, none⟩), .pointer (some ⟨B5, 0, none⟩)] (overP n g s m now) L (BSt n g s m now w1 b B5) := by
  rintro W M done x hpre ⟨⟨O, c, ho, rfl, hO⟩, hk⟩
  have hx : x ∈ L := hpre.subset (by simp)
  have hdl : done.length ≤ L.length := by have := hpre.length_le; simp at this; omega
  have hsl := seatsP_length n g s m now done
  refine (blocks1_walk x B1 B2 B3 B4 B5 n g s m now _ O c W (hk.cell h0 n1) (hk.cell h1 n1) (hk.cell h2 n2) (hk.cell h3 n3) (hk.cell h4 n4) ho (by omega) (hc x hx).1 (hc x hx).2).mono ?_
  rintro e W' ⟨he, O', c', ho', hk', hor⟩
  refine ⟨he, ⟨_, ⟨O', c', by rw [seatsP_snoc]; exact ho', rfl, fun k hk2 => ?_⟩, ?_⟩, hk'⟩
  · rcases hor with e2 | ⟨k2, e2, h2⟩
    · rw [e2] at hk2
      exact ⟨(hO k hk2).1, Nat.lt_of_lt_of_le (hO k hk2).2 hk'.size⟩
    · rw [e2] at hk2
      injection hk2 with hk2
      subst hk2
      refine ⟨Nat.le_trans hk.size h2, own_lt ho'.own (by rw [ownBlock_slice] at e2 ⊢; exact e2)⟩
  · exact hk.trans hk' (fun i hi hT => by
      rcases hT with rfl | hT
      · exact .inr rfl
      · have := (hO i hT).1; omega)
end Go.Proofs.Ytmfgkddndlleoaa
