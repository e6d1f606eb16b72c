/- strings.Builder: its methods over a row of bytes of one's own. -/
import Derived.Test.YtpdnfcgdcndhpaaDoorBase
import Derived.Test.YtpdnfcgdcndhpaaDoorShelf
import Derived.Lib.AppendStr
import Derived.KernelRfl
set_option linter.unusedSimpArgs false
set_option linter.unusedVariables false
namespace Go.Proofs.YtpdnfcgdcndhpaaDoor
open Go.RowKit

abbrev Str := List UInt8
theorem bstep {w w1 w2 : World} (h : Below w.heap.size w w1) (hb : Below w1.heap.size w1 w2) : Below w.heap.size w w2 := h.trans (hb.mono h.size)
theorem eltB : Elt Tryd.prog 22 5 1 1 := by
  refine Elt.mk' (z := .int .u8 0) (by kernel_rfl) (by kernel_rfl) (by kernel_rfl) (by intro u hu; revert hu; decide +revert) (by decide)
theorem infoM : (Tryd.prog.info? 5).map (fun i => (i.zero, i.size, i.bytes)) = some (some (.int .u8 0), 1, 1) := by kernel_rfl
theorem infoB : ∃ i, Tryd.prog.info? 5 = some i ∧ i.zero = some (.int .u8 0) ∧ i.size = 1 ∧ i.bytes = 1 := by
  have h := infoM
  cases hi : Tryd.prog.info? 5 with
  | none => rw [hi] at h; cases h
  | some i =>
    rw [hi] at h
    simp only [Option.map_some, Option.some.injEq, Prod.mk.injEq] at h
    exact ⟨i, rfl, h.1, h.2.1, h.2.2⟩
theorem own_base {w : World} {B e size n : Nat} {v : Value} {xs : List Value} (h : w.ownsRow 0 e size v n xs) (hB : ∀ k, v.ownBlock = some k → B ≤ k) : w.ownsRow B e size v n xs := by
  refine ⟨h.1, ?_⟩
  rcases h.2 with h2 | ⟨g, cap, cur, rfl, _, hb, hr⟩
  · exact .inl h2
  · exact .inr ⟨g, cap, cur, rfl, hB g rfl, hb, hr⟩
theorem own_zero {w : World} {B e size n : Nat} {v : Value} {xs : List Value} (h : w.ownsRow B e size v n xs) : w.ownsRow 0 e size v n xs := by
  refine ⟨h.1, ?_⟩
  rcases h.2 with h2 | ⟨g, cap, cur, e, _, hb, hr⟩
  · exact .inl h2
  · exact .inr ⟨g, cap, cur, e, Nat.zero_le _, hb, hr⟩
/-- A builder at block b that holds the bytes l; its memory lies from block B on. -/
def BD (B b : Nat) (l : Str) (w : World) : Prop :=
  ∃ p A c, B ≤ b ∧ w.heap[b]? = some (.cells #[p, .slice A l.length c] 67 (0, 0)) ∧ (p = .pointer none ∨ p = .pointer (some ⟨b, 0, none⟩)) ∧ w.ownsRow 0 5 1 (.slice A l.length c) l.length (bv l) ∧ ∀ k, A.map (·.block) = some k → B ≤ k ∧ k ≠ b
theorem sizeBld : (Tryd.prog.info? 67).map (·.size) = some 2 := by kernel_rfl
theorem liesBld : liesAt Tryd.prog Tryd.prog.depth 67 (2 / Tryd.prog.cellsOf 67) 0 67 1 = true := by kernel_rfl
theorem BD.lt {B b : Nat} {l : Str} {w : World} (h : BD B b l w) : b < w.heap.size := by
  obtain ⟨p, A, c, _, hb, _⟩ := h
  exact blk_lt hb
theorem BD.keep {B b : Nat} {l : Str} {w w' : World} {S : Nat → Prop} (h : BD B b l w) (hk : Keep S w w') (hS : ∀ k, B ≤ k → k < w.heap.size → ¬ S k) : BD B b l w' := by
  obtain ⟨p, A, c, h1, hb, hp, ho, hA⟩ := h
  refine ⟨p, A, c, h1, hk.blk hb (hS b h1 (blk_lt hb)), hp, own_keep ho hk (fun k e => hS k (hA k (by rw [ownBlock_slice] at e; exact e)).1 (own_lt ho e)), hA⟩
theorem BD.below {B b : Nat} {l : Str} {w w' : World} (h : BD B b l w) (hk : Below w.heap.size w w') : BD B b l w' := h.keep (Keep.of_below (S := fun _ => False) hk) (fun _ _ _ h => h)
theorem BD.is {B b : Nat} {l : Str} {w : World} (h : BD B b l w) : Lib.IsBuilder 67 5 B b (Lib.byteCells l) w := by
  obtain ⟨p, A, c, h1, hb, hp, ho, hA⟩ := h
  have hl : (Lib.byteCells l).length = l.length := by simp [Lib.byteCells]
  have hne : (Value.slice A l.length c).ownBlock ≠ some b := fun e => (hA b (by rw [ownBlock_slice] at e; exact e)).2 rfl
  have ho2 : w.ownsRow B 5 1 (.slice A l.length c) (Lib.byteCells l).length (Lib.byteCells l) := by rw [hl]; exact own_base ho (fun k e => (hA k (by rw [ownBlock_slice] at e; exact e)).1)
  rcases hp with rfl | rfl
  · exact .inl ⟨h1, _, hb, ho2, hne⟩
  · exact .inr ⟨h1, _, hb, ho2, hne⟩
theorem BD.new (w : World) (B : Nat) (h : B ≤ w.heap.size) : BD B w.heap.size [] (w.alloc (.cells #[.pointer none, .slice none 0 0] 67)) :=
  ⟨.pointer none, none, 0, h, blk_new w _, .inl rfl, own_nil' _ _ _ _, by simp⟩
set_option maxRecDepth 100000 in
theorem copyCheck_walk (B b : Nat) (l : Str) (w : World) (h : BD B b l w) :
    Calls Tryd.prog 49 #[.pointer (some ⟨b, 0, none⟩)] w fun e w' => e = .returned (.tuple #[]) ∧ BD B b l w' ∧ (w' = w ∨ w' = w.setCell ⟨b, 0, none⟩ (.pointer (some ⟨b, 0, none⟩))) := by
  obtain ⟨p, A, c, h1, hb, hp, ho, hA⟩ := h
  have cb := blk_cells hb
  have fb := blk_frees hb
  have lb := blk_lt hb
  have HBD : Hid (BD B b l (w.setCell ⟨b, 0, none⟩ (.pointer (some ⟨b, 0, none⟩)))) := Lib.hid (by
    refine ⟨.pointer (some ⟨b, 0, none⟩), A, c, h1, blk_set hb _, .inr rfl, ?_, hA⟩
    exact own_keep ho ((Keep.refl (fun k => k = b) w).setCell (fun _ => rfl) _) (fun k e e2 => (hA k (by rw [ownBlock_slice] at e; exact e)).2 e2))
  rcases hp with rfl | rfl
  · obtain ⟨j, hj, hjs⟩ := Option.map_eq_some_iff.1 sizeBld
    have hsh : w.shape? b = some (67, 2) := by simp [World.shape?, hb]
    clear hb ho hA
    go_enter Tryd.func49, Tryd.ntmps49
    go_wp2
    rw [Lib.run_to_unsafe w ⟨b, 0, none⟩ Tryd.underlying65 Tryd.underlying93 hj (by rw [hjs]; decide) hsh (Nat.zero_lt_succ 1)]
    simp only [Result.andThen]
    rw [Oper.upon_value]
    go_wp2
    rw [run_callFunc_extern Tryd.func60 (by kernel_rfl) (by kernel_rfl) (by kernel_rfl) (e := Extern.AbiNoEscape.same) (by kernel_rfl)]
    rw [Lib.run_noEscape]
    simp only [Result.andThen]
    rw [Oper.upon_value]
    go_wp2
    rw [Lib.run_from_unsafe w ⟨b, 0, none⟩ Tryd.underlying93 Tryd.underlying65 hj hsh liesBld]
    simp only [Result.andThen]
    rw [Oper.upon_value]
    go_wp2
    go_end0
    exact ⟨rfl, HBD.out, .inr rfl⟩
  · obtain ⟨j, hj, _⟩ := Option.map_eq_some_iff.1 sizeBld
    have HB0 : Hid (BD B b l w) := Lib.hid ⟨_, A, c, h1, hb, .inr rfl, ho, hA⟩
    clear hb ho hA
    go_enter Tryd.func49, Tryd.ntmps49
    go_wp2
    rw [Lib.run_neq_ptr_same w _ Tryd.underlying65 hj]
    go_wp2
    go_end0
    exact ⟨rfl, HB0.out, .inl rfl⟩
theorem cc_below {B b : Nat} {w w' : World} (hB : B ≤ b) (h : w' = w ∨ w' = w.setCell ⟨b, 0, none⟩ (.pointer (some ⟨b, 0, none⟩))) : Below B w w' := by
  rcases h with rfl | rfl
  · exact Below.refl _ _
  · exact (Below.refl _ _).setCell hB _
/-- The buffer has grown. -/
theorem BD.grown {B b : Nat} {l m : Str} {w w1 : World} {p : Value} {A A' : Option Addr} {c c' : Nat} (h1 : B ≤ b) (hb : w.heap[b]? = some (.cells #[p, .slice A l.length c] 67 (0, 0))) (hp : p = .pointer none ∨ p = .pointer (some ⟨b, 0, none⟩)) (hA : ∀ k, A.map (·.block) = some k → B ≤ k ∧ k ≠ b)
    (hw : B ≤ w.heap.size) (ho : w1.ownsRow 0 5 1 (.slice A' (l ++ m).length c') (l ++ m).length (bv (l ++ m))) (hk : Keep (fun k => A.map (·.block) = some k) w w1) (hA2 : ∀ k, A'.map (·.block) = some k → B ≤ k ∧ k ≠ b) :
    w1.heap[b]? = some (.cells #[p, .slice A l.length c] 67 (0, 0)) ∧ BD B b (l ++ m) (w1.setCell ⟨b, 1, none⟩ (.slice A' (l ++ m).length c')) ∧ Below B w (w1.setCell ⟨b, 1, none⟩ (.slice A' (l ++ m).length c')) := by
  have hbl := blk_lt hb
  have hb1 := hk.blk hb (fun e => (hA b e).2 rfl)
  refine ⟨hb1, ⟨p, A', c', h1, blk_set hb1 _, hp, own_keep ho ((Keep.refl (fun k => k = b) w1).setCell (fun _ => rfl) _) (fun k e e2 => (hA2 k (by rw [ownBlock_slice] at e; exact e)).2 e2), hA2⟩, ?_⟩
  exact (hk.below (fun k e => (hA k e).1) hw).setCell h1 _
set_option maxHeartbeats 1000000 in
theorem writeByte_walk (B b : Nat) (l : Str) (x : UInt8) (w : World) (h : BD B b l w) (hB : B ≤ w.heap.size) (hl : l.length + 1 ≤ 140737488355000) :
    Calls Tryd.prog 48 #[.pointer (some ⟨b, 0, none⟩), .int .u8 (x.toNat : Int)] w fun e w' => e = .returned .nilIface ∧ BD B b (l ++ [x]) w' ∧ Below B w w' := by
  have HC := Lib.hid (copyCheck_walk B b l w h)
  have hBb : B ≤ b := by obtain ⟨_, _, _, h1, _⟩ := h; exact h1
  clear h
  go_enter Tryd.func48, Tryd.ntmps48
  go_wp2_with fail
  refine HC.out.mono ?_
  rintro e w1 ⟨rfl, ⟨p, A, c, h1, hb, hp, ho, hA⟩, hcc⟩
  have hb1 := cc_below hBb hcc
  have B1 := Lib.hid hb1
  have hw1 : B ≤ w1.heap.size := Nat.le_trans hB hb1.size
  have cb := blk_cells hb
  have fb := blk_frees hb
  have lb := blk_lt hb
  have HB := Lib.hid hb
  have HO := Lib.hid ho
  have HA := Lib.hid hA
  have HP := Lib.hid hp
  have hS := own_new w1 #[.int .u8 (x.toNat : Int)] 5 1 1 rfl (by decide)
  have HS := Lib.hid hS
  clear hb ho hA hp hcc hb1 hS
  go_wp2_with (at_builtin; go_must (refine wpList_app rfl eltB rfl rfl rfl (n := l.length) (m := 1) (own_keep HO.out ((Keep.refl (fun _ => False) _).alloc _) (fun _ _ h => h)) (Sl.of_own HS.out) (by simp [Value.oneCell']) (by omega) (by simp only [maxLen]; omega) ?_))
  intro v2 w2 g1 g2 g3 g4
  clear g4
  obtain ⟨A2, c2, rfl, _⟩ := Rd.of_own g1
  have hk : Keep (fun k => A.map (·.block) = some k) w1 w2 := (((Keep.refl (fun _ => False) w1).alloc _).mono (T := fun k => A.map (·.block) = some k) (fun _ _ h => h.elim)).trans g2 (fun j _ e => by rw [ownBlock_slice] at e; exact e)
  have hA2 : ∀ k, A2.map (·.block) = some k → B ≤ k ∧ k ≠ b := by
    intro k e
    rcases g3 with h | h <;> rw [ownBlock_slice] at h
    · rw [ownBlock_slice] at h; exact HA.out k (h ▸ e)
    · rw [e] at h; injection h with h; exact ⟨by omega, by omega⟩
  obtain ⟨y1, y2, y3⟩ := BD.grown (m := [x]) h1 HB.out HP.out HA.out hw1 (c' := c2) (A' := A2) (by simpa [bv] using g1) hk hA2
  have cb2 := blk_cells y1
  have fb2 := blk_frees y1
  have lb2 := blk_lt y1
  rw [show (l ++ [x]).length = l.length + 1 by simp] at y2 y3
  have Y2 := Lib.hid y2
  have Y3 := Lib.hid y3
  clear g1 g2 g3 hk hA2 y1 y2 y3 cb fb lb
  go_wp2
  go_ret
  exact ⟨rfl, Y2.out, B1.out.trans Y3.out⟩
set_option maxHeartbeats 1000000 in
theorem writeStr_walk (B b : Nat) (l m : Str) (w : World) (h : BD B b l w) (hB : B ≤ w.heap.size) (hl : l.length + m.length ≤ 140737488355000) :
    Calls Tryd.prog 31 #[.pointer (some ⟨b, 0, none⟩), .string ⟨m.toArray⟩] w fun e w' => e = .returned (.tuple #[.int .i64 (m.length : Int), .nilIface]) ∧ BD B b (l ++ m) w' ∧ Below B w w' := by
  have HC := Lib.hid (copyCheck_walk B b l w h)
  have hBb : B ≤ b := by obtain ⟨_, _, _, h1, _⟩ := h; exact h1
  obtain ⟨i, i1, i2, i3, i4⟩ := infoB
  clear h
  go_enter Tryd.func31, Tryd.ntmps31
  go_wp2_with fail
  refine HC.out.mono ?_
  rintro e w1 ⟨rfl, ⟨p, A, c, h1, hb, hp, ho, hA⟩, hcc⟩
  have hb1 := cc_below hBb hcc
  have B1 := Lib.hid hb1
  have hw1 : B ≤ w1.heap.size := Nat.le_trans hB hb1.size
  have cb := blk_cells hb
  have fb := blk_frees hb
  have lb := blk_lt hb
  have HB := Lib.hid hb
  have HO := Lib.hid ho
  have HA := Lib.hid hA
  have HP := Lib.hid hp
  have HOB := Lib.hid (own_base ho (fun k e => (hA k (by rw [ownBlock_slice] at e; exact e)).1))
  have hsz : (⟨m.toArray⟩ : ByteArray).size = m.length := rfl
  clear hb ho hA hp hcc hb1
  go_wp2_with (at_builtin; go_must (refine Lib.wpList_append_own_string _ rfl _ _ 22 9 rfl B 5 i Tryd.underlying22 Tryd.underlying9 i1 i2 i3 i4 _ l.length _ rfl HOB.out ⟨m.toArray⟩ rfl (by rw [hsz]; simp only [maxLen]; omega) (by rw [hsz]; omega) hw1 ?_))
  intro v2 w2 g1 g2 g4
  clear g4
  obtain ⟨A2, c2, rfl, _⟩ := Rd.of_own g1
  have hk : Keep (fun k => A.map (·.block) = some k) w1 w2 := (Keep.of_grown g2).mono (fun j _ e => by rw [ownBlock_slice] at e; exact e)
  have hA2 : ∀ k, A2.map (·.block) = some k → B ≤ k ∧ k ≠ b := by
    intro k e
    rcases g1.2 with ⟨e2, _⟩ | ⟨g, cap, cur, e2, hB2, hbk, _⟩
    · injection e2 with e2; rw [e2] at e; cases e
    · injection e2 with e2
      rw [e2] at e
      injection e with e
      have e : g = k := e
      subst e
      refine ⟨hB2, fun e3 => ?_⟩
      have h3 := hk.blk HB.out (fun e4 => (HA.out b e4).2 rfl)
      rw [← e3, hbk] at h3
      injection h3 with h3
      injection h3 with _ h3 _
      exact absurd h3 (by decide)
  have ec : bv l ++ Lib.strCells ⟨m.toArray⟩ = bv (l ++ m) := by simp [bv, Lib.strCells]
  rw [ec] at g1
  obtain ⟨y1, y2, y3⟩ := BD.grown (m := m) h1 HB.out HP.out HA.out hw1 (c' := c2) (A' := A2) (by rw [List.length_append]; exact own_zero g1) hk hA2
  have cb2 := blk_cells y1
  have fb2 := blk_frees y1
  have lb2 := blk_lt y1
  rw [show (l ++ m).length = l.length + m.length by simp] at y2 y3
  have Y2 := Lib.hid y2
  have Y3 := Lib.hid y3
  clear g1 g2 hk hA2 y1 y2 y3 cb fb lb ec
  go_wp2
  go_ret2
  exact ⟨rfl, Y2.out, B1.out.trans Y3.out⟩
end Go.Proofs.YtpdnfcgdcndhpaaDoor
