/- append to bytes that are one's own, or clipped. -/
import Derived.Test.YtlcfnehmmjhoiaaGreatFld6
import Derived.Test.YtlcfnehmmjhoiaaGreatMake
import Derived.Lib.AppendZerosOnto
import Derived.ArgAppend
set_option linter.unusedSimpArgs false
set_option linter.unusedVariables false
namespace Go.Proofs.YtlcfnehmmjhoiaaGreat
open Go.RowKit

/-- Bytes to which one may append: they are one's own, or clipped. -/
structure AB (B : Nat) (w : World) (A : Option Addr) (c : Nat) (d : List UInt8) : Prop where
  nb : NB B w A c d
  app : c = d.length ∨ w.ownsRow 0 5 1 (.slice A d.length c) d.length (bv d)
theorem OB.ab {B : Nat} {w : World} {A : Option Addr} {c : Nat} {d : List UInt8} (h : OB B w A c d) : AB B w A c d := ⟨h.nb, .inr h.own⟩
theorem NB.ab {B : Nat} {w : World} {A : Option Addr} {d : List UInt8} (h : NB B w A d.length d) : AB B w A d.length d := ⟨h, .inl rfl⟩
theorem AB.keep {S : Nat → Prop} {B : Nat} {w w' : World} {A : Option Addr} {c : Nat} {d : List UInt8} (h : AB B w A c d) (hk : Keep S w w') (hS : ∀ j, A.map (·.block) = some j → ¬ S j) : AB B w' A c d :=
  ⟨h.nb.keep hk hS, h.app.imp id (fun ho => own_keep ho hk (fun j e => hS j (by rw [ownB_slice] at e; exact e)))⟩
theorem AB.below {B : Nat} {w w' : World} {A : Option Addr} {c : Nat} {d : List UInt8} (h : AB B w A c d) (hb : Below w.heap.size w w') : AB B w' A c d :=
  h.keep (S := fun _ => False) (Keep.of_below hb) (fun _ _ h => h)
theorem AB.mono {B B' : Nat} {w : World} {A : Option Addr} {c : Nat} {d : List UInt8} (h : AB B w A c d) (hB : B' ≤ B) : AB B' w A c d := ⟨h.nb.mono hB, h.app⟩
/-- What an append leaves. -/
structure ABr (B : Nat) (w w' : World) (A A' : Option Addr) (c' : Nat) (d : List UInt8) : Prop where
  ab : AB B w' A' c' d
  keep : Keep (fun j => A.map (·.block) = some j) w w'
  be : Below B w w'
theorem run_appB {w : World} (ty : TypeId) {A Ax : Option Addr} {c cx B : Nat} {d e : List UInt8}
    (hA : AB B w A c d) (hx : Sl w 1 (.slice Ax e.length cx) e.length (bv e)) (h0 : 0 < e.length ∨ 0 < d.length) (hB : B ≤ w.heap.size) (hb : d.length + e.length ≤ 1000000000) :
    ∃ A' c' w', (Builtin.append_ #[30, 30] ty #[.slice A d.length c, .slice Ax e.length cx]).run Tryz.prog w = .ok (.slice A' (d.length + e.length) c') w' ∧ ABr B w w' A A' c' (d ++ e) := by
  have hz : (Tryz.prog.info? 5).map (fun i => (i.zero, i.size, i.bytes)) = some (some (.int .u8 0), 1, 1) := by kernel_rfl
  obtain ⟨i, hi, h1, h2, h3⟩ := info_parts hz
  have hown' : (∃ ad, A = some ad ∧ c = d.length) ∨ w.ownsRow 0 5 1 (.slice A d.length c) d.length (bv d) := by
    rcases hA.app with hc | hown
    · cases A with
      | some ad => exact .inl ⟨ad, rfl, hc⟩
      | none =>
        obtain ⟨_, _, e1, _, hz1, _, _⟩ := hA.nb.sl
        injection e1 with e1 _ e2
        subst e1 e2
        obtain ⟨h1, h2⟩ := hz1 rfl
        have hd : d = [] := List.eq_nil_of_length_eq_zero h1
        subst hd h2
        exact .inr (own_nil' w 0 _ 1)
    · exact .inr hown
  rcases hown' with ⟨b, rfl, hc⟩ | hown
  · by_cases he0 : e.length = 0
    · have he : e = [] := List.eq_nil_of_length_eq_zero he0
      subst he
      obtain ⟨g, o, eb⟩ := hA.nb.some (by simpa using h0)
      obtain rfl := Option.some.inj eb
      have hab : ABr B w w (some ⟨g, o, none⟩) (some ⟨g, o, none⟩) c (d ++ []) := by rw [List.append_nil]; exact ⟨hA, Keep.refl _ _, Below.refl _ _⟩
      refine ⟨some ⟨g, o, none⟩, c, w, ?_, hab⟩
      cases Ax with
      | some ad =>
        have := run_append_room_cells (P := Tryz.prog) w 30 ty 5 i eltB.und hi g o d.length c ad 0 cx [] (by simp) (fun j u hj => by simp at hj) (by simp) (by omega) (by simp) (by simp)
        rw [show w.setCells g (o + d.length * i.size) [] = w from rfl] at this
        exact this
      | none =>
        have hle : d.length ≤ c := by omega
        clear hx
        simp [Builtin.append_, run_underlying eltB.und, sizeOf, typeInfo, hi, Builtin.lenOf, hle, Builtin.firstCells, storeCells]
    have h0 : 0 < e.length := by omega
    obtain ⟨A1, c1, e1, hr1, hz1, hc1, _⟩ := hA.nb.sl
    injection e1 with e1 _ e1'
    subst e1 e1'
    obtain ⟨A2, c2, e2, hr2, hz2, hc2, hl2⟩ := hx
    injection e2 with e2 _ e2'
    subst e2 e2'
    have hne : bv e ≠ [] := fun hh => by rw [bv_eq_nil] at hh; subst hh; simp at h0
    obtain ⟨ad, rfl, hcx⟩ : ∃ ad, Ax = some ad ∧ ∀ j u, (bv e)[j]? = some u → w.cell? (ad.add j) = some u := by
      rcases hr2 with hh | ⟨ad, hh, hcx⟩
      · exact absurd hh hne
      · exact ⟨ad, hh, hcx⟩
    obtain ⟨v', w', hr, ho', hg'⟩ := run_append_arg_grows (P := Tryz.prog) w 30 ty 5 i (.int .u8 0) 1 1 eltB.und hi h1 h2 h3 rfl (by decide) b d.length c (bv d) (by rw [bv_length, Nat.mul_one]) (fun j u hj => by
      rcases hr1 with hh | ⟨ad', e', hcl⟩
      · rw [hh] at hj; simp at hj
      · obtain rfl := Option.some.inj e'
        exact hcl j u hj) ad e.length cx (bv e) (by rw [bv_length, Nat.mul_one]) hcx (by omega) (by simp only [maxLen]; omega) (by omega)
    obtain ⟨A', c', rfl, _⟩ := Rd.of_own ho'
    have hown0 : w'.ownsRow 0 5 1 (.slice A' (d ++ e).length c') (d ++ e).length (bv (d ++ e)) := by
      rw [List.length_append]
      have : bv (d ++ e) = bv d ++ bv e := by simp [bv]
      rw [this]
      exact ⟨ho'.1, ho'.2.imp id (fun ⟨g, cap, cur, h1, h2, h3⟩ => ⟨g, cap, cur, h1, Nat.zero_le _, h3⟩)⟩
    have hfr : ∀ j, A'.map (·.block) = some j → B ≤ j := fun j hj => by
      rcases ho'.2 with ⟨e, _⟩ | ⟨g, cap, cur, e, hg, _⟩
      · injection e with e; subst e; cases hj
      · injection e with e; subst e
        have := Option.some.inj hj
        have : g = j := this
        omega
    exact ⟨A', c', w', hr, OB.ab ⟨hown0, hfr⟩, (Keep.of_grown hg').mono (fun _ _ e => by cases e), (Keep.of_grown hg').below (fun _ e => by cases e) hB⟩
  · obtain ⟨v', w', hr, g1, g2, g3, _⟩ := run_app (P := Tryz.prog) w eltB ty hown hx (bv_one e) (by omega) (by simp only [maxLen]; omega)
    obtain ⟨A', c', rfl, _⟩ := Rd.of_own g1
    have hown0 : w'.ownsRow 0 5 1 (.slice A' (d ++ e).length c') (d ++ e).length (bv (d ++ e)) := by
      rw [List.length_append]
      have : bv (d ++ e) = bv d ++ bv e := by simp [bv]
      rw [this]
      exact g1
    have hk : Keep (fun j => A.map (·.block) = some j) w w' := g2.mono (fun j _ e => by rw [ownB_slice] at e; exact e)
    refine ⟨A', c', w', hr, OB.ab ⟨hown0, fun j hj => ?_⟩, hk, hk.below (fun j e => (hA.nb.fresh j e).1) hB⟩
    rcases g3 with g3 | g3 <;> rw [ownB_slice] at g3
    · rw [ownB_slice] at g3
      exact (hA.nb.fresh j (by rw [← g3]; exact hj)).1
    · rw [g3] at hj
      have := Option.some.inj hj
      omega
theorem wp_appB {w : World} {o : Oper} {a : Act} {K : Act → World → Prop} {Q : Exit → Act → World → Prop} {s y : Operand}
    (ho : o.op = .call { callee := .builtin .append, args := #[s, y], argTypes := #[30, 30] }) {A Ax : Option Addr} {c cx B n m : Nat} {d e : List UInt8} (hd : d.length = n) (he : e.length = m) (hs : a.eval s = .slice A n c) (hy : a.eval y = .slice Ax m cx)
    (hA : AB B w A c d) (hx : Sl w 1 (.slice Ax m cx) m (bv e)) (h0 : 0 < m ∨ 0 < n) (hB : B ≤ w.heap.size) (hb : n + m ≤ 1000000000)
    (h : ∀ A' c' w', ABr B w w' A A' c' (d ++ e) → K (a.put o.dst (.slice A' (n + m) c')) w') : o.wp Tryz.prog a w K Q := by
  subst hd he
  obtain ⟨A', c', w', hr, h2⟩ := run_appB o.type hA hx h0 hB hb
  unfold Oper.wp execOp
  simp only [ho, resolve, invoke, builtin, Sem.run_bind, Sem.run_pure, Result.andThen_ok, List.map_toArray, List.map_cons, List.map_nil, hs, hy, hr]
  exact h A' c' w' h2
theorem wpList_appB {w : World} {ops : Array Oper} {rest : List Oper} {o : Oper} {a : Act} {Q : Exit → Act → World → Prop} (hgd : o.guard = none) {s y : Operand}
    (ho : o.op = .call { callee := .builtin .append, args := #[s, y], argTypes := #[30, 30] }) {A Ax : Option Addr} {c cx B n m : Nat} {d e : List UInt8} (hd : d.length = n) (he : e.length = m) (hs : a.eval s = .slice A n c) (hy : a.eval y = .slice Ax m cx)
    (hA : AB B w A c d) (hx : Sl w 1 (.slice Ax m cx) m (bv e)) (h0 : 0 < m ∨ 0 < n) (hB : B ≤ w.heap.size) (hb : n + m ≤ 1000000000)
    (h : ∀ A' c' w', ABr B w w' A A' c' (d ++ e) → wpList Tryz.prog ops Q rest (a.put o.dst (.slice A' (n + m) c')) w') : wpList Tryz.prog ops Q (o :: rest) a w :=
  wpList_plain hgd fun _ hK => wp_appB ho hd he hs hy hA hx h0 hB hb fun A' c' w' h2 => hK _ _ (h A' c' w' h2)
theorem step_appB {w : World} {ops : Array Oper} {o : Oper} {a : Act} {K : Act → World → Prop} {Q : Exit → Act → World → Prop} {E : Prop} (hgd : o.guard = none) {s y : Operand}
    (ho : o.op = .call { callee := .builtin .append, args := #[s, y], argTypes := #[30, 30] }) {A Ax : Option Addr} {c cx B n m : Nat} {d e : List UInt8} (hd : d.length = n) (he : e.length = m) (hs : a.eval s = .slice A n c) (hy : a.eval y = .slice Ax m cx)
    (hA : AB B w A c d) (hx : Sl w 1 (.slice Ax m cx) m (bv e)) (h0 : 0 < m ∨ 0 < n) (hB : B ≤ w.heap.size) (hb : n + m ≤ 1000000000)
    (h : ∀ A' c' w', ABr B w w' A A' c' (d ++ e) → K (a.put o.dst (.slice A' (n + m) c')) w') : if Region.wanted o (yielded ops a.tmps) = true then Oper.wp Tryz.prog o a w K Q else E := by
  have hw : Region.wanted o (yielded ops a.tmps) = true := by simp [Region.wanted, hgd]
  rw [if_pos hw]
  exact wp_appB ho hd he hs hy hA hx h0 hB hb h
theorem zeros_bv (m : Nat) : (Builtin.zeroCells (Value.int .u8 0).cells m).toList = bv (List.replicate m 0) := by
  apply List.ext_getElem?
  intro j
  simp only [Builtin.zeroCells, Array.toList_map, Array.toList_range, bv, List.getElem?_map]
  have hs : (Value.int .u8 0).cells.size = 1 := rfl
  rw [hs, Nat.mul_one]
  by_cases hj : j < m
  · rw [List.getElem?_range hj, List.getElem?_replicate, if_pos hj]
    simp [Nat.mod_one, Value.cells]
  · rw [List.getElem?_eq_none (by simpa using hj), List.getElem?_replicate, if_neg hj]
    rfl
theorem wpList_zerosB {w : World} {ops : Array Oper} {rest : List Oper} {o : Oper} {a : Act} {Q : Exit → Act → World → Prop} (hgd : o.guard = none) {s y : Operand}
    (ho : o.op = .call { callee := .builtin .append, args := #[s, y], argTypes := #[30, 3] }) {A : Option Addr} {c B n m : Nat} {d : List UInt8} (hd : d.length = n) (hs : a.eval s = .slice A n c) (hy : a.eval y = .int .i64 (m : Int))
    (hA : AB B w A c d) (hn : 0 < n) (hm : 0 < m) (hB : B ≤ w.heap.size) (hb : n + m ≤ 1000000000)
    (h : ∀ A' c' w', ABr B w w' A A' c' (d ++ List.replicate m 0) → wpList Tryz.prog ops Q rest (a.put o.dst (.slice A' (n + m) c')) w') : wpList Tryz.prog ops Q (o :: rest) a w := by
  subst hd
  have hz : (Tryz.prog.info? 5).map (fun i => (i.zero, i.size, i.bytes)) = some (some (.int .u8 0), 1, 1) := by kernel_rfl
  obtain ⟨i, hi, h1, h2, h3⟩ := info_parts hz
  have hrl : (List.replicate m (0 : UInt8)).length = m := List.length_replicate ..
  have key : ∃ v' w', (Builtin.append_ #[30, 3] o.type #[.slice A d.length c, .int .i64 (m : Int)]).run Tryz.prog w = .ok v' w' ∧ w'.ownsRow 0 5 1 v' (d.length + m) (bv d ++ bv (List.replicate m 0)) ∧ Keep (fun k => A.map (·.block) = some k) w w' ∧ (v'.ownBlock = A.map (·.block) ∨ v'.ownBlock = some w.heap.size) := by
    rcases hA.app with hc | hown
    · obtain ⟨A1, c1, e1, hr1, hz1, hc1, _⟩ := hA.nb.sl
      injection e1 with e1 _ e1'
      subst e1 e1'
      have hne : bv d ≠ [] := fun hh => by rw [bv_eq_nil] at hh; subst hh; simp at hn
      obtain ⟨ad, rfl, hcx⟩ : ∃ ad, A = some ad ∧ ∀ j u, (bv d)[j]? = some u → w.cell? (ad.add j) = some u := by
        rcases hr1 with hh | ⟨ad, hh, hcx⟩
        · exact absurd hh hne
        · exact ⟨ad, hh, hcx⟩
      have hfo := run_firstCells_some (P := Tryz.prog) w.drew i.size d.length ad d.length c (bv d) (by rw [bv_length, h2, Nat.mul_one]) (by simpa using hcx)
      have hr := Lib.run_append_grow_zeros (P := Tryz.prog) w 30 3 o.type 5 i (.int .u8 0) .i64 .i64 eltB.und Tryz.underlying3 hi h1 (some ad) d.length c (bv d) hfo m hm (by rw [h2]; decide) (by omega) (by omega) (by rw [h3]; omega) (by have := growslice_fits (need := d.length + m) (old := c) (bytes := i.bytes) (by omega) (by rw [h3]; omega); omega)
      have hge := grownCap_ge w (d.length + m) c 5
      have hcm : grownCap w (d.length + m) c 5 ≤ maxLen := grownCap_le_maxLen w (d.length + m) c 5 (by simp only [maxLen]; omega)
      refine ⟨_, _, hr, ⟨by simp [bv_length], .inr ⟨w.heap.size, _, _, rfl, Nat.zero_le _, heap_alloc_new w.drew _, hge, hcm, ?_, ?_⟩⟩, ((Keep.refl _ w).drew.alloc _), .inr rfl⟩
      · simp only [Array.size_append, List.size_toArray, size_zeroCells, bv_length]
        rw [show (Value.int .u8 0).cells.size = 1 from rfl]
        omega
      · have hlen : (bv d ++ (Builtin.zeroCells (Value.int .u8 0).cells m).toList).length = (d.length + m) * 1 := by rw [zeros_bv, List.length_append, bv_length, bv_length, hrl, Nat.mul_one]
        simp only [Array.toList_append, List.append_assoc]
        rw [← List.append_assoc, ← hlen, ← zeros_bv m]
        exact List.take_left
    · obtain ⟨v', w', hr, g1, g2, g3⟩ := run_make (P := Tryz.prog) w (t := 30) (ti := 3) eltB.und hi h1 h2 h3 rfl (by simp [Value.oneCell', Value.cells]) (by decide) Tryz.underlying3 o.type hown (m := m) (by omega) (by simp only [maxLen]; omega)
      rw [zeros_bv] at g1
      exact ⟨v', w', hr, g1, g2.mono (fun j _ e => by rw [ownB_slice] at e; exact e), by rw [ownB_slice] at g3; exact g3⟩
  obtain ⟨v', w', hr, g1, g2, g3⟩ := key
  refine wpList_plain hgd fun _ hK => ?_
  unfold Oper.wp execOp
  simp only [ho, resolve, invoke, builtin, Sem.run_bind, Sem.run_pure, Result.andThen_ok, List.map_toArray, List.map_cons, List.map_nil, hs, hy, hr]
  obtain ⟨A', c', rfl, _⟩ := Rd.of_own g1
  have hown0 : w'.ownsRow 0 5 1 (.slice A' (d ++ List.replicate m 0).length c') (d ++ List.replicate m 0).length (bv (d ++ List.replicate m 0)) := by
    rw [List.length_append, hrl]
    have : bv (d ++ List.replicate m 0) = bv d ++ bv (List.replicate m 0) := by simp [bv]
    rw [this]
    exact g1
  refine hK _ _ (h A' c' w' ⟨OB.ab ⟨hown0, fun j hj => ?_⟩, g2, g2.below (fun j e => (hA.nb.fresh j e).1) hB⟩)
  rcases g3 with g3 | g3 <;> rw [ownB_slice] at g3
  · exact (hA.nb.fresh j (by rw [← g3]; exact hj)).1
  · rw [g3] at hj
    have := Option.some.inj hj
    omega
end Go.Proofs.YtlcfnehmmjhoiaaGreat
