/- copy from a text into a row of one's own: a step of a region, an operation of a list. -/
import Derived.Test.YtcganoomgdabkaaDoorBase
import Derived.Lib.BufferWrite
set_option linter.unusedSimpArgs false
set_option linter.unusedVariables false
namespace Go.Proofs.YtcganoomgdabkaaDoor
open Go.RowKit

theorem byteCells_bv (l : List UInt8) : Lib.byteCells l = bv l := rfl
theorem wp_copy_str {P : Program} {w : World} {o : Oper} {a : Act} {K : Act → World → Prop} {Q : Exit → Act → World → Prop} {s y : Operand} {dT sT e u : TypeId}
    (hu : P.underlying dT = some (.slice e)) (hz : (P.info? e).map (·.size) = some 1) (ho : o.op = .call { callee := .builtin .copy, args := #[s, y], argTypes := #[dT, sT] }) {g off m c : Nat} {cur : Array Value} {t : ByteArray}
    (hs : a.eval s = .slice (some ⟨g, off, none⟩) m c) (hy : a.eval y = .string t) (hg : w.heap[g]? = some (.cells cur u (0, 0))) (hle : t.size ≤ m) (hfit : off + t.size ≤ cur.size)
    (h : K (a.put o.dst (goInt t.size)) (w.setRow g (cur.toList.take off ++ bv t.data.toList ++ cur.toList.drop (off + t.size)).toArray)) : o.wp P a w K Q := by
  have hr := Lib.run_copy_row_string (P := P) w dT sT o.type e g off m c t cur u hu hz hg hle hfit
  rw [byteCells_bv] at hr
  unfold Oper.wp execOp
  simp only [ho, resolve, invoke, builtin, Sem.run_bind, Sem.run_pure, Result.andThen_ok, List.map_toArray, List.map_cons, List.map_nil, hs, hy, hr]
  exact h
theorem step_copy_str {P : Program} {w : World} {ops : Array Oper} {o : Oper} {a : Act} {K : Act → World → Prop} {Q : Exit → Act → World → Prop} {E : Prop} {s y : Operand} {dT sT e u : TypeId} (hgd : o.guard = none)
    (hu : P.underlying dT = some (.slice e)) (hz : (P.info? e).map (·.size) = some 1) (ho : o.op = .call { callee := .builtin .copy, args := #[s, y], argTypes := #[dT, sT] }) {g off m c : Nat} {cur : Array Value} {t : ByteArray}
    (hs : a.eval s = .slice (some ⟨g, off, none⟩) m c) (hy : a.eval y = .string t) (hg : w.heap[g]? = some (.cells cur u (0, 0))) (hle : t.size ≤ m) (hfit : off + t.size ≤ cur.size)
    (h : K (a.put o.dst (goInt t.size)) (w.setRow g (cur.toList.take off ++ bv t.data.toList ++ cur.toList.drop (off + t.size)).toArray)) :
    if Region.wanted o (yielded ops a.tmps) = true then Oper.wp P o a w K Q else E := by
  have hw : Region.wanted o (yielded ops a.tmps) = true := by simp [Region.wanted, hgd]
  rw [if_pos hw]
  exact wp_copy_str hu hz ho hs hy hg hle hfit h
theorem wpList_copy_str {P : Program} {w : World} {ops : Array Oper} {rest : List Oper} {o : Oper} {a : Act} {Q : Exit → Act → World → Prop} {s y : Operand} {dT sT e u : TypeId} (hgd : o.guard = none)
    (hu : P.underlying dT = some (.slice e)) (hz : (P.info? e).map (·.size) = some 1) (ho : o.op = .call { callee := .builtin .copy, args := #[s, y], argTypes := #[dT, sT] }) {g off m c : Nat} {cur : Array Value} {t : ByteArray}
    (hs : a.eval s = .slice (some ⟨g, off, none⟩) m c) (hy : a.eval y = .string t) (hg : w.heap[g]? = some (.cells cur u (0, 0))) (hle : t.size ≤ m) (hfit : off + t.size ≤ cur.size)
    (h : wpList P ops Q rest (a.put o.dst (goInt t.size)) (w.setRow g (cur.toList.take off ++ bv t.data.toList ++ cur.toList.drop (off + t.size)).toArray)) : wpList P ops Q (o :: rest) a w :=
  wpList_plain hgd fun _ hK => wp_copy_str hu hz ho hs hy hg hle hfit (hK _ _ h)
theorem blk_row {w : World} {k : Nat} {cs ds : Array Value} {t : TypeId} {fr : Nat × Nat} (h : w.heap[k]? = some (.cells cs t fr)) : (w.setRow k ds).heap[k]? = some (.cells ds t fr) := setRow_heap w k cs ds t fr h
end Go.Proofs.YtcganoomgdabkaaDoor
