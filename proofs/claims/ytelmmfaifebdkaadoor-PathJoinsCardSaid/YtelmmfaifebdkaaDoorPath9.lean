/- Split's two answers as one. -/
import Derived.Test.YtelmmfaifebdkaaDoorPath8
set_option linter.unusedSimpArgs false
set_option linter.unusedVariables false
namespace Go.Proofs.YtelmmfaifebdkaaDoor
open Go.RowKit

def outS : Except Int (List Str) → List Str × Int
  | .ok l => (l, 0)
  | .error k => ([], k)
theorem outS_few {s : Str} : (outS (splitS s)).1.length ≤ 8 := by
  cases h : splitS s with
  | ok l => exact (splitS_ok h).1.1
  | error k => simp [outS]
theorem sl_none (w : World) : Sl w 1 (.slice none 0 0) 0 (strs []) := ⟨none, 0, rfl, .inl rfl, fun _ => ⟨rfl, rfl⟩, Nat.le_refl _, rfl⟩
theorem ends_any {s : ByteArray} {l : List Str} {k : Int} {w w' : World} {e : Ending} (hl : (outS (splitS s.data.toList)).1 = l) (hk : (outS (splitS s.data.toList)).2 = k) (h : SplitEnds w (splitS s.data.toList) e w') :
    ∃ A c, e = .returned (.tuple #[.slice A l.length c, .int .i64 k]) ∧ Sl w' 1 (.slice A l.length c) l.length (strs l) ∧ Below w.heap.size w w' := by
  unfold SplitEnds at h
  cases hs : splitS s.data.toList with
  | ok m => rw [hs] at h hl hk; subst hl hk; obtain ⟨hb, A, c, he, hsl⟩ := h; exact ⟨A, c, he, hsl, hb⟩
  | error m => rw [hs] at h hl hk; subst hl hk; exact ⟨none, 0, h.2, sl_none _, h.1⟩
theorem split_any (s : ByteArray) (m0 : Int) {l : List Str} {k : Int} (hl : (outS (splitS s.data.toList)).1 = l) (hk : (outS (splitS s.data.toList)).2 = k) (w : World) (hm0 : w.cell? ⟨0, 0, none⟩ = some (.int .i64 m0)) :
    Calls Tryd.prog 10 #[.string s] w fun e w' => ∃ A c, e = .returned (.tuple #[.slice A l.length c, .int .i64 k]) ∧ Sl w' 1 (.slice A l.length c) l.length (strs l) ∧ Below w.heap.size w w' :=
  (split_walk s m0 w hm0).mono fun e w' hh => ends_any hl hk hh
theorem refSplit_any (s : ByteArray) {l : List Str} {k : Int} (hl : (outS (splitS s.data.toList)).1 = l) (hk : (outS (splitS s.data.toList)).2 = k) (w : World) :
    Calls Tryd.prog 11 #[.string s] w fun e w' => ∃ A c, e = .returned (.tuple #[.slice A l.length c, .int .i64 k]) ∧ Sl w' 1 (.slice A l.length c) l.length (strs l) ∧ Below w.heap.size w w' :=
  (refSplit_walk s w).mono fun e w' hh => ends_any hl hk hh
end Go.Proofs.YtelmmfaifebdkaaDoor
