/- Words for the path laws' walks: the world so far; Clean and Last where they fail. -/
import Derived.Test.YtelmmfaifebdkaaDoorPath9
set_option linter.unusedSimpArgs false
set_option linter.unusedVariables false
namespace Go.Proofs.YtelmmfaifebdkaaDoor
open Go.RowKit

structure On (w : World) (m0 : Int) (w1 : World) : Prop where
  bel : Below w.heap.size w w1
  max : w1.cell? ⟨0, 0, none⟩ = some (.int .i64 m0)
theorem On.start {w : World} {m0 : Int} (h : w.cell? ⟨0, 0, none⟩ = some (.int .i64 m0)) : On w m0 w := ⟨Below.refl _ _, h⟩
theorem On.step {w w1 w2 : World} {m0 : Int} (h : On w m0 w1) (hb : Below w1.heap.size w1 w2) : On w m0 w2 := ⟨h.bel.trans (hb.mono h.bel.size), maxc h.max hb⟩

theorem clean_er {s : ByteArray} {k : Int} (h : cleanP s.data.toList = .error k) (m0 : Int) (w : World) (hm0 : w.cell? ⟨0, 0, none⟩ = some (.int .i64 m0)) :
    Calls Tryd.prog 18 #[.string s] w fun e w' => e = .returned (.tuple #[.string ⟨#[]⟩, .int .i64 k]) ∧ Below w.heap.size w w' :=
  (clean_walk s m0 w hm0).mono fun e w' hh => by rw [h] at hh; exact hh
theorem last_er {s : ByteArray} {k : Int} (h : lastP s.data.toList = .error k) (m0 : Int) (w : World) (hm0 : w.cell? ⟨0, 0, none⟩ = some (.int .i64 m0)) :
    Calls Tryd.prog 19 #[.string s] w fun e w' => e = .returned (.tuple #[.string ⟨#[]⟩, .string ⟨#[]⟩, .int .i64 k]) ∧ Below w.heap.size w w' :=
  (last_walk s m0 w hm0).mono fun e w' hh => by rw [h] at hh; exact hh
theorem join_er {A : Option Addr} {n c : Nat} {l : List Str} {k : Int} (h : joinP l = .error k) (w : World) (ha : Sl w 1 (.slice A n c) n (strs l)) (hn : l.length ≤ 140737488351232) (h24 : ∀ p ∈ l, p.length ≤ 9223372036854775807) :
    Calls Tryd.prog 16 #[.slice A n c] w fun e w' => e = .returned (.tuple #[.string ⟨#[]⟩, .int .i64 k]) ∧ Below w.heap.size w w' :=
  (join_walk A n c l w ha hn h24).mono fun e w' hh => by rw [h] at hh; exact hh
theorem refSplit_ok {s : ByteArray} {l : List Str} (h : splitS s.data.toList = .ok l) (w : World) :
    Calls Tryd.prog 11 #[.string s] w fun e w' => ∃ A c, e = .returned (.tuple #[.slice A l.length c, .int .i64 0]) ∧ Sl w' 1 (.slice A l.length c) l.length (strs l) ∧ Below w.heap.size w w' :=
  refSplit_any s (by rw [h]; rfl) (by rw [h]; rfl) w
theorem refSplit_er {s : ByteArray} {k : Int} (h : splitS s.data.toList = .error k) (w : World) :
    Calls Tryd.prog 11 #[.string s] w fun e w' => e = .returned (.tuple #[.slice none 0 0, .int .i64 k]) ∧ Below w.heap.size w w' :=
  (refSplit_walk s w).mono fun e w' hh => by unfold SplitEnds at hh; rw [h] at hh; exact ⟨hh.2, hh.1⟩
theorem joinP_err {l : List Str} {k : Int} (h : joinP l = .error k) : 0 < k ∧ k < 18 := by
  unfold joinP at h
  split at h
  · cases h; decide
  · split at h
    · cases h; decide
    · split at h
      · cases h; decide
      · cases h
theorem lastP_err {s : Str} {k : Int} (h : lastP s = .error k) : 0 < k ∧ k < 18 := by
  unfold lastP at h
  cases hs : splitS s with
  | error e => rw [hs] at h; cases h; exact splitS_err hs
  | ok l =>
    rw [hs] at h
    simp only at h
    split at h
    · cases h; decide
    · cases h
theorem clean_ok {s : Str} {l : List Str} (h : splitS s = .ok l) : cleanP s = .ok (joinS l) := by unfold cleanP; rw [h]
theorem clean_no {s : Str} {k : Int} (h : splitS s = .error k) : cleanP s = .error k := by unfold cleanP; rw [h]
theorem last_ok {s : Str} {m : List Str} {x : Str} (h : splitS s = .ok (m ++ [x])) : lastP s = .ok (joinS m, x) := by unfold lastP; rw [h]; simp
theorem last_nil {s : Str} (h : splitS s = .ok []) : lastP s = .error 13 := by unfold lastP; rw [h]; rfl
theorem last_no {s : Str} {k : Int} (h : splitS s = .error k) : lastP s = .error k := by unfold lastP; rw [h]
theorem strs_take {w : World} {A : Option Addr} {c n : Nat} {l : List Str} (h : Sl w 1 (.slice A n c) n (strs l)) {k : Nat} (hk : k ≤ l.length) : Sl w 1 (.slice A k c) k (strs (l.take k)) := by
  obtain ⟨A', c', e, hr, h1, h2, h3⟩ := h
  injection e with e1 _ e2
  subst e1 e2
  rw [strs_length] at h3
  have hd : strs (l.take k) = (strs l).take k := by rw [strs, strs, List.map_take]
  refine ⟨_, _, rfl, by rw [hd]; exact hr.take _, fun e => ?_, by omega, by rw [strs_length]; simp; omega⟩
  obtain ⟨a, b⟩ := h1 e
  exact ⟨by omega, b⟩
end Go.Proofs.YtelmmfaifebdkaaDoor
