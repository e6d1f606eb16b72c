/- Package cache: clip, know, grow. -/
import Derived.Test.YtpgjjhpnemcgdaaCach8
set_option linter.unusedSimpArgs false
set_option linter.unusedVariables false
namespace Go.Proofs.Ytpgjjhpnemcgdaa
open Go.RowKit

attribute [local go_sem ↓] Go.wp_at_zero Go.wp_at_succ
theorem zeros_bv (m : Nat) : (Builtin.zeroCells (Value.int .u8 0).cells m).toList = bv (List.replicate m 0) := by
  apply List.ext_getElem?
  intro j
  simp only [Builtin.zeroCells, Array.toList_map, Array.toList_range, bv, List.getElem?_map]
  have hs : (Value.int .u8 0).cells.size = 1 := rfl
  rw [hs, Nat.mul_one]
  by_cases hj : j < m
  · rw [List.getElem?_range hj, List.getElem?_replicate, if_pos hj]
    simp [Nat.mod_one, Value.cells]
  · rw [List.getElem?_eq_none (by simpa using hj), List.getElem?_replicate, if_neg hj]
    rfl
/-- append(s, make([]byte, m)...). -/
theorem wpList_make {w : World} {ops : Array Oper} {rest : List Oper} {o : Oper} {a : Act} {Q : Exit → Act → World → Prop} (hgd : o.guard = none) {s y : Operand}
    (ho : o.op = .call { callee := .builtin .append, args := #[s, y], argTypes := #[23, 3] }) {v : Value} {m : Nat} {xs : List UInt8} (hs : a.eval s = v) (hy : a.eval y = .int .i64 (m : Int))
    (hown : w.ownsRow 0 5 1 v xs.length (bv xs)) (hb : xs.length + m ≤ 140737488355328) (hm : xs.length + m ≤ maxLen)
    (h : ∀ v' w', w'.ownsRow 0 5 1 v' (xs.length + m) (bv (xs ++ List.replicate m 0)) → Keep (fun k => v.ownBlock = some k) w w' → (v'.ownBlock = v.ownBlock ∨ v'.ownBlock = some w.heap.size) → wpList Try.prog ops Q rest (a.put o.dst v') w') : wpList Try.prog ops Q (o :: rest) a w := by
  refine wpList_plain hgd fun _ hK => ?_
  have hz : (Try.prog.info? 5).map (fun i => (i.zero, i.size, i.bytes)) = some (some (.int .u8 0), 1, 1) := by kernel_rfl
  obtain ⟨i, hi, h1, h2, h3⟩ := info_parts hz
  obtain ⟨v', w', hr, g1, g2, g3⟩ := run_make (P := Try.prog) w (t := 23) (ti := 3) eltB.und hi h1 h2 h3 rfl (by simp [Value.oneCell', Value.cells]) (by decide) Try.underlying3 o.type hown (m := m) (by omega) hm
  rw [zeros_bv] at g1
  unfold Oper.wp execOp
  simp only [ho, resolve, invoke, builtin, Sem.run_bind, Sem.run_pure, Result.andThen_ok, List.map_toArray, List.map_cons, List.map_nil, hs, hy, hr]
  refine hK _ _ (h v' w' ?_ g2 g3)
  rw [bv, List.map_append]
  exact g1
/-- There is room for so many bytes. -/
def growP (d : List UInt8) (n : Nat) : List UInt8 := d ++ List.replicate (n - d.length) 0
theorem CA.newdata {X : Nat → Prop} {k : Nat} {s : CaS} {w w4 : World} {DA A4 : Option Addr} {dc c4 : Nat} {kv : Value} {YA : Option Addr} {yc : Nat} {L : List ((Nat × List UInt8) × Value)} {d : List UInt8} (h : CA X k s w DA dc kv YA yc L)
    (g1 : w4.ownsRow 0 5 1 (.slice A4 d.length c4) d.length (bv d)) (g2 : Keep (fun j => (Value.slice DA s.data.length dc).ownBlock = some j) w w4) (g3 : (Value.slice A4 d.length c4).ownBlock = (Value.slice DA s.data.length dc).ownBlock ∨ (Value.slice A4 d.length c4).ownBlock = some w.heap.size) :
    CA X k { s with data := d } (w4.setCell ⟨k, 3, none⟩ (.slice A4 d.length c4)) A4 c4 kv YA yc L ∧ Keep (fun j => ¬ X j) w (w4.setCell ⟨k, 3, none⟩ (.slice A4 d.length c4)) := by
  have hk4 : ¬ (Value.slice DA s.data.length dc).ownBlock = some k := fun e => own_ne_blk h.data h.blk (by decide) e rfl
  have hb4 := g2.blk h.blk hk4
  have ks := (Keep.refl (fun j => j = k) w4).setCell (p := ⟨k, 3, none⟩) (fun _ => rfl) (.slice A4 d.length c4)
  have hA4 : ∀ j, A4.map (·.block) = some j → DA.map (·.block) = some j ∨ j = w.heap.size := fun j e => by
    rcases g3 with g | g <;> rw [ownBlock_slice] at g
    · rw [ownBlock_slice] at g
      exact .inl (g ▸ e)
    · rw [e] at g
      injection g with g
      exact .inr g
  refine ⟨⟨blk_set4 hb4 _ rfl, own_keep g1 ks (fun j e hj => own_ne_blk g1 hb4 (by decide) e hj), ?_, own_keep (own_keep h.dirty g2 (fun j e hj => own_ne h.dirty h.data (by decide) e hj)) ks (fun j e hj => own_ne_blk (own_keep h.dirty g2 (fun j e hj => own_ne h.dirty h.data (by decide) e hj)) hb4 (by decide) e hj), h.names, fun p hp => ?_, fun j hj => Nat.lt_of_lt_of_le (h.old j hj) (Nat.le_trans g2.size ks.size), h.notk, fun j e hj => ?_, h.noty⟩, ?_⟩
  · refine (h.known.keep g2 (fun j cs fr _ hb e => ?_)).keep ks (fun j cs fr _ hb e => ?_)
    · obtain ⟨cur, hc⟩ := own_blk h.data e
      have := hc.symm.trans hb
      injection this with this
      injection this with _ this _
      exact absurd this (by decide)
    · subst e
      have := hb4.symm.trans hb
      injection this with this
      injection this with _ this _
      exact absurd this (by decide)
  · obtain ⟨A, c, e, hs, hA⟩ := h.pieces p hp
    have n1 : ∀ j, A.map (·.block) = some j → ¬ (Value.slice DA s.data.length dc).ownBlock = some j := fun j hj e2 => (hA j hj).1 (by rw [ownBlock_slice] at e2; exact e2)
    have n2 : ∀ j, A.map (·.block) = some j → ¬ j = k := fun j hj e2 => by
      obtain ⟨_, cs, fr, h2⟩ := hA j hj
      subst e2
      have := h.blk.symm.trans h2
      injection this with this
      injection this with _ this _
      exact absurd this (by decide)
    refine ⟨A, c, e, (hs.keep g2 (fun j ej _ => n1 j (by rw [ownBlock_slice] at ej; exact ej))).keep ks (fun j ej _ => n2 j (by rw [ownBlock_slice] at ej; exact ej)), fun j hj => ?_⟩
    obtain ⟨h1, cs, fr, h2⟩ := hA j hj
    refine ⟨fun e2 => ?_, cs, fr, ks.blk (g2.blk h2 (n1 j hj)) (n2 j hj)⟩
    rcases hA4 j e2 with h3 | h3
    · exact h1 h3
    · have := blk_lt h2
      omega
  · rcases hA4 j e with h3 | h3
    · exact h.notd j h3 hj
    · have := h.old j hj
      omega
  · refine (g2.mono (fun j _ e hj => h.notd j (by rw [ownBlock_slice] at e; exact e) hj)).trans ks (fun j _ e hj => ?_)
    rw [e] at hj
    exact h.notk hj
set_option maxHeartbeats 1000000 in
theorem grow_walk {X : Nat → Prop} {k : Nat} {s : CaS} {w : World} (h : Ca X k s w) (n : Nat) (hn : n ≤ 1000000) (hd : s.data.length ≤ 1000000) :
    Calls Try.prog 20 #[.pointer (some ⟨k, 0, none⟩), .int .i64 (n : Int)] w fun e w' => e = .returned (.tuple #[]) ∧ Ca X k { s with data := growP s.data n } w' ∧ Keep (fun j => ¬ X j) w w' := by
  obtain ⟨DA, dc, kv, YA, yc, L, h⟩ := h
  have c3 : w.cell? ⟨k, 3, none⟩ = some (.slice DA s.data.length dc) := (blk_cells h.blk 3).trans rfl
  have w1 : IntKind.i64.wrap ((n : Int) - (s.data.length : Int)) = (n : Int) - (s.data.length : Int) := IntWalk.i64_in _ (by omega)
  have H := Lib.hid h
  by_cases hlt : s.data.length < n
  · have g1 : (0 : Int) < (n : Int) - (s.data.length : Int) := by omega
    have e1 : (n : Int) - (s.data.length : Int) = ((n - s.data.length : Nat) : Int) := by omega
    have HE1 := Lib.hid e1
    clear h e1 hlt
    go_enter Try.func20, Try.ntmps20
    go_wp2_with (at_builtin; go_must (refine wpList_make (m := n - s.data.length) (xs := s.data) rfl rfl rfl (congrArg (Value.int IntKind.i64) HE1.out) H.out.data (by omega) (by simp only [maxLen]; omega) ?_))
    intro v4 w4 g1 g2 g3
    obtain ⟨A4, c4, rfl, _⟩ := Rd.of_own g1
    have hlt := blk_lt H.out.blk
    have hk4 : ¬ (fun j => (Value.slice DA s.data.length dc).ownBlock = some j) k := fun e => own_ne_blk H.out.data H.out.blk (by decide) e rfl
    have hb4 := g2.blk H.out.blk hk4
    have c3' : w4.cell? ⟨k, 3, none⟩ = some (.slice DA s.data.length dc) := (blk_cells hb4 3).trans rfl
    have f3' := blk_frees hb4 3
    have HN := Lib.hid (H.out.newdata (d := s.data ++ List.replicate (n - s.data.length) 0) (A4 := A4) (c4 := c4) (w4 := w4) (by simpa using g1) g2 (by simpa using g3))
    clear g1 g2 g3 hb4
    go_wp2
    go_end0
    have HN2 := HN.out
    rw [List.length_append, List.length_replicate] at HN2
    refine ⟨rfl, ?_, HN2.2⟩
    exact ⟨A4, c4, kv, YA, yc, L, HN2.1⟩
  · have g1 : ¬ (0 : Int) < (n : Int) - (s.data.length : Int) := by omega
    have HG : Hid (growP s.data n = s.data) := Lib.hid (by unfold growP; rw [show n - s.data.length = 0 by omega]; simp)
    clear h hlt
    go_enter Try.func20, Try.ntmps20
    go_wp2
    go_end0
    exact ⟨rfl, by rw [HG.out]; exact ⟨DA, dc, kv, YA, yc, L, H.out⟩, Keep.refl _ _⟩
end Go.Proofs.Ytpgjjhpnemcgdaa
