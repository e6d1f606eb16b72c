/- Package cache: bytes written in place. -/
import Derived.Test.YtpgjjhpnemcgdaaCachE
import Derived.Laws.CopyOwn
set_option linter.unusedSimpArgs false
set_option linter.unusedVariables false
namespace Go.Proofs.Ytpgjjhpnemcgdaa
open Go.RowKit

/-- Bytes written over others from a place on. -/
def putP (d : List UInt8) (o : Nat) (cs : List UInt8) : List UInt8 := d.take o ++ (cs ++ d.drop (o + cs.length))
theorem putP_len {d cs : List UInt8} {o : Nat} (h : o + cs.length ≤ d.length) : (putP d o cs).length = d.length := by
  unfold putP
  rw [List.length_append, List.length_append, List.length_take, List.length_drop]
  omega
theorem putP_get {d cs : List UInt8} {o : Nat} (h : o + cs.length ≤ d.length) (j : Nat) : (putP d o cs)[j]? = if o ≤ j ∧ j < o + cs.length then cs[j - o]? else d[j]? := by
  unfold putP
  have h1 : (d.take o).length = o := by rw [List.length_take]; omega
  by_cases hj : j < o
  · rw [if_neg (by omega), List.getElem?_append_left (by omega), List.getElem?_take_of_lt hj]
  · rw [List.getElem?_append_right (by omega), h1]
    by_cases hj2 : j < o + cs.length
    · rw [if_pos (by omega), List.getElem?_append_left (by omega)]
    · rw [if_neg (by omega), List.getElem?_append_right (by omega), List.getElem?_drop]
      congr 1
      omega
/-- A row that is one's own, with bytes written in place. -/
theorem own_put {w : World} {g cap n : Nat} {d cs : List UInt8} {cur : Array Value} {o : Nat} (h : w.ownsRow 0 5 1 (.slice (some ⟨g, 0, none⟩) n cap) n (bv d)) (hg : w.heap[g]? = some (.cells cur 5 (0, 0))) (ho : o + cs.length ≤ n) (hn : n = d.length) :
    (w.setRow g (cur.toList.take o ++ (bv cs ++ cur.toList.drop (o + (bv cs).length))).toArray).ownsRow 0 5 1 (.slice (some ⟨g, 0, none⟩) n cap) n (bv (putP d o cs)) := by
  obtain ⟨hl, hcase⟩ := h
  rcases hcase with ⟨e, _⟩ | ⟨g', cap', cur', e, hb0, hg', h1, h2, h3, h4⟩
  · cases e
  injection e with e1 _ e2
  injection e1 with e1
  injection e1 with e1 _ _
  subst e1 e2
  have : cur' = cur := by
    have := hg'.symm.trans hg
    injection this with this
    injection this
  subst this
  refine ⟨by rw [bv_length, putP_len (by omega)]; omega, .inr ⟨g, cap, _, rfl, Nat.zero_le _, setRow_heap w g cur' _ _ _ hg, h1, h2, ?_, ?_⟩⟩
  · simp only [List.size_toArray, List.length_append, List.length_take, List.length_drop, Array.length_toList, bv_length]
    omega
  · rw [Nat.mul_one] at h4 ⊢
    have hcl : cur'.toList.length = cap := by rw [Array.length_toList]; omega
    have hp : bv (putP d o cs) = (bv d).take o ++ (bv cs ++ (bv d).drop (o + cs.length)) := by simp [putP, bv, List.map_take, List.map_drop]
    rw [hp, ← h4, bv_length]
    have l1 : (cur'.toList.take o).length = o := by rw [List.length_take]; omega
    have e1 : (cur'.toList.take o).take n = (cur'.toList.take n).take o := by rw [List.take_take, List.take_take, Nat.min_comm]
    have e2 : (bv cs).take (n - o) = bv cs := List.take_of_length_le (by rw [bv_length]; omega)
    have e3 : (cur'.toList.drop (o + cs.length)).take (n - o - cs.length) = (cur'.toList.take n).drop (o + cs.length) := by
      rw [List.drop_take]
      congr 1
      omega
    rw [List.take_append, List.take_append, l1, bv_length, e1, e2, e3]
theorem CA.put {X : Nat → Prop} {k g : Nat} {s : CaS} {w : World} {dc : Nat} {kv : Value} {YA : Option Addr} {yc : Nat} {L : List ((Nat × List UInt8) × Value)} {cur : Array Value} {o : Nat} {cs : List UInt8} (h : CA X k s w (some ⟨g, 0, none⟩) dc kv YA yc L)
    (hg : w.heap[g]? = some (.cells cur 5 (0, 0))) (ho : o + cs.length ≤ s.data.length) :
    CA X k { s with data := putP s.data o cs } (w.setRow g (cur.toList.take o ++ (bv cs ++ cur.toList.drop (o + (bv cs).length))).toArray) (some ⟨g, 0, none⟩) dc kv YA yc L ∧ Keep (fun j => ¬ X j) w (w.setRow g (cur.toList.take o ++ (bv cs ++ cur.toList.drop (o + (bv cs).length))).toArray) := by
  have hk := keep_setRow w g (cur.toList.take o ++ (bv cs ++ cur.toList.drop (o + (bv cs).length))).toArray
  have hd := own_put h.data hg ho rfl
  have hlen := putP_len ho
  have hkg : ¬ k = g := fun e => by
    subst e
    have := h.blk.symm.trans hg
    injection this with this
    injection this with _ this _
    exact absurd this (by decide)
  refine ⟨⟨by simp only [hlen]; exact hk.blk h.blk hkg, by simp only [hlen]; exact hd, h.known.keep hk (fun j cs' fr _ hb e => ?_), own_keep h.dirty hk (fun j e hj => own_ne_blk h.dirty hg (by decide) e hj), h.names, fun p hp => ?_, fun j hj => Nat.lt_of_lt_of_le (h.old j hj) hk.size, h.notk, h.notd, h.noty⟩, hk.mono (fun j _ e hj => h.notd g rfl (by rw [← e]; exact hj))⟩
  · subst e
    have := hg.symm.trans hb
    injection this with this
    injection this with _ this _
    exact absurd this (by decide)
  · obtain ⟨A, c, e, hs, hA⟩ := h.pieces p hp
    have hn : ∀ j, A.map (·.block) = some j → ¬ j = g := fun j hj e2 => (hA j hj).1 (by rw [e2]; rfl)
    refine ⟨A, c, e, hs.keep hk (fun j ej _ => hn j (by rw [ownBlock_slice] at ej; exact ej)), fun j hj => ?_⟩
    obtain ⟨h1, cs', fr, h2⟩ := hA j hj
    exact ⟨h1, cs', fr, hk.blk h2 (hn j hj)⟩
/-- clear of bytes. -/
theorem wpList_clear_bytes {w : World} {ops : Array Oper} {rest : List Oper} {o : Oper} {a : Act} {Q : Exit → Act → World → Prop} (hgd : o.guard = none) {s : Operand}
    (ho : o.op = .call { callee := .builtin .clear, args := #[s], argTypes := #[23] }) {g off m c : Nat} {cur : Array Value} (hs : a.eval s = .slice (some ⟨g, off, none⟩) m c)
    (hg : w.heap[g]? = some (.cells cur 5 (0, 0))) (hfit : off + m ≤ cur.size)
    (h : wpList Try.prog ops Q rest (a.put o.dst (.tuple #[])) (w.setRow g (cur.toList.take off ++ (bv (List.replicate m 0) ++ cur.toList.drop (off + (bv (List.replicate m 0)).length))).toArray)) : wpList Try.prog ops Q (o :: rest) a w := by
  have hz : (Try.prog.info? 5).map (fun i => (i.zero, i.size, i.bytes)) = some (some (.int .u8 0), 1, 1) := by kernel_rfl
  obtain ⟨ii, hi, hz1, hs1, _⟩ := info_parts hz
  have hr : (Builtin.clear_ #[23] o.type #[.slice (some ⟨g, off, none⟩) m c]).run Try.prog w = .ok (.tuple #[]) (w.setRow g (cur.toList.take off ++ (bv (List.replicate m 0) ++ cur.toList.drop (off + (bv (List.replicate m 0)).length))).toArray) := by
    cases m with
    | zero =>
      rw [show bv (List.replicate 0 0) = [] from rfl]
      simp only [List.nil_append, List.length_nil, Nat.add_zero, List.take_append_drop, Array.toArray_toList]
      rw [setRow_self w g cur 5 (0, 0) hg]
      simp [Builtin.clear_, run_underlying eltB.und]
    | succ m =>
      have hst := run_storeCells_at Try.prog g off 5 (bv (List.replicate (m + 1) 0)) 0 cur w hg (by rw [bv_length, List.length_replicate]; omega) (bv_one _)
      simp only [Nat.add_zero] at hst
      have hzv : (zeroValue 5).run Try.prog w = .ok (.int .u8 0) w := by simp [zeroValue, typeInfo, hi, hz1]
      have hzc := zeros_bv (m + 1)
      simp [Builtin.clear_, run_underlying eltB.und, hzv, hzc, hst]
  refine wpList_plain hgd fun _ hK => ?_
  unfold Oper.wp execOp
  simp only [ho, resolve, invoke, builtin, Sem.run_bind, Sem.run_pure, Result.andThen_ok, List.map_toArray, List.map_cons, List.map_nil, hs, hr]
  exact hK _ _ h
end Go.Proofs.Ytpgjjhpnemcgdaa
