/- Bytes in new memory: slices.Clone, slices.Clip; package field: put. -/
import Derived.Test.YtlcfnehmmjhoiaaGreatFldP
import Derived.Test.YtlcfnehmmjhoiaaGreatProg
import Derived.Test.YtlcfnehmmjhoiaaGreatRows
import Derived.Deep.DrawnRows
import Derived.Deep.DeepCutAuto
import Derived.Deep.CutBlock
import Derived.LoopTactic
import Derived.Lib.SliceRun
import Derived.IntWalk
set_option linter.unusedSimpArgs false
set_option linter.unusedVariables false
namespace Go.Proofs.YtlcfnehmmjhoiaaGreat
open Go.RowKit

attribute [local go_sem ↓] Go.wp_at_zero Go.wp_at_succ
theorem ownB_slice (A : Option Addr) (n c : Nat) : (Value.slice A n c).ownBlock = A.map (·.block) := by cases A <;> rfl
theorem eltB : Elt Tryz.prog 30 5 1 1 := Elt.mk' (z := .int .u8 0) (by kernel_rfl) (by kernel_rfl) (by kernel_rfl) (by simp [Value.oneCell', Value.cells]) (by decide)
/-- Bytes that can be read, in memory from block B on. -/
structure NB (B : Nat) (w : World) (A : Option Addr) (c : Nat) (d : List UInt8) : Prop where
  sl : Sl w 1 (.slice A d.length c) d.length (bv d)
  fresh : ∀ j, A.map (·.block) = some j → B ≤ j ∧ ∃ cs fr, w.heap[j]? = some (.cells cs 5 fr)
theorem NB.keep {S : Nat → Prop} {B : Nat} {w w' : World} {A : Option Addr} {c : Nat} {d : List UInt8} (h : NB B w A c d) (hk : Keep S w w') (hS : ∀ j, A.map (·.block) = some j → ¬ S j) : NB B w' A c d :=
  ⟨h.sl.keep hk (fun j e _ => hS j (by rw [ownB_slice] at e; exact e)), fun j e => by
    obtain ⟨h1, cs, fr, h2⟩ := h.fresh j e
    exact ⟨h1, cs, fr, hk.blk h2 (hS j e)⟩⟩
theorem NB.below {B : Nat} {w w' : World} {A : Option Addr} {c : Nat} {d : List UInt8} (h : NB B w A c d) (hb : Below w.heap.size w w') : NB B w' A c d :=
  h.keep (S := fun _ => False) (Keep.of_below hb) (fun _ _ h => h)
theorem NB.mono {B B' : Nat} {w : World} {A : Option Addr} {c : Nat} {d : List UInt8} (h : NB B w A c d) (hB : B' ≤ B) : NB B' w A c d :=
  ⟨h.sl, fun j e => ⟨Nat.le_trans hB (h.fresh j e).1, (h.fresh j e).2⟩⟩
theorem NB.of_own {B : Nat} {w : World} {A : Option Addr} {c : Nat} {d : List UInt8} (h : w.ownsRow 0 5 1 (.slice A d.length c) d.length (bv d)) (hf : ∀ j, A.map (·.block) = some j → B ≤ j) : NB B w A c d :=
  ⟨Sl.of_own h, fun j e => by
    obtain ⟨cs, hb⟩ := own_blk h (k := j) (by rw [ownB_slice]; exact e)
    exact ⟨hf j e, cs, _, hb⟩⟩
theorem NB.clip {B : Nat} {w : World} {A : Option Addr} {c : Nat} {d : List UInt8} (h : NB B w A c d) : NB B w A d.length d := by
  refine ⟨?_, h.fresh⟩
  obtain ⟨A', c', e, hr, hz, hc, hl⟩ := h.sl
  injection e with e1 _ e2
  subst e1 e2
  exact ⟨_, _, rfl, hr, fun e => ⟨(hz e).1, (hz e).1⟩, Nat.le_refl _, hl⟩
theorem NB.nil (B : Nat) (w : World) : NB B w none 0 [] := ⟨⟨none, 0, rfl, .inl rfl, fun _ => ⟨rfl, rfl⟩, Nat.le_refl _, rfl⟩, fun j e => by cases e⟩
/-- A row of bytes of one's own, new. -/
structure OB (B : Nat) (w : World) (A : Option Addr) (c : Nat) (d : List UInt8) : Prop where
  own : w.ownsRow 0 5 1 (.slice A d.length c) d.length (bv d)
  fresh : ∀ j, A.map (·.block) = some j → B ≤ j
theorem OB.nb {B : Nat} {w : World} {A : Option Addr} {c : Nat} {d : List UInt8} (h : OB B w A c d) : NB B w A c d := NB.of_own h.own h.fresh
theorem OB.below {B : Nat} {w w' : World} {A : Option Addr} {c : Nat} {d : List UInt8} (h : OB B w A c d) (hb : Below w.heap.size w w') : OB B w' A c d :=
  ⟨own_keep h.own (Keep.of_below (S := fun _ => False) hb) (fun _ _ h => h), h.fresh⟩
theorem own_put1 {w : World} {T size n b c j : Nat} {xs : List Value} (h : w.ownsRow 0 T size (.slice (some ⟨b, 0, none⟩) n c) n xs) (v : Value) :
    (w.setCell ⟨b, j, none⟩ v).ownsRow 0 T size (.slice (some ⟨b, 0, none⟩) n c) n (xs.set j v) := by
  rcases h.2 with ⟨e, _⟩ | ⟨g, cap, cur, e, _, hb, h1, h2, h3, h4⟩
  · cases e
  · injection e with e1 _ e2
    injection e1 with e1
    injection e1 with e1 _ _
    subst e1 e2
    refine ⟨by rw [List.length_set]; exact h.1, .inr ⟨b, c, _, rfl, Nat.zero_le _, blk_set (j := j) hb v, h1, h2, by simpa using h3, ?_⟩⟩
    rw [← h4]
    simp [List.take_set]
theorem bv_set (l : List UInt8) (i : Nat) (x : UInt8) : (bv l).set i (.int .u8 (x.toNat : Int)) = bv (l.set i x) := by unfold bv; rw [List.map_set]
/-- A row that is one's own, behind an append of new cells. -/
theorem OB.app {B n : Nat} {w wr w8 : World} {o : Obj} {A2 A8 : Option Addr} {c2 c8 : Nat} {D E : List UInt8} (ho : OB B wr A2 c2 D) (hbe : Below B w wr) (hB : B ≤ wr.heap.size) (hn : (D ++ E).length = n)
    (g1 : w8.ownsRow 0 5 1 (.slice A8 n c8) n (bv D ++ bv E)) (g2 : Keep (fun j => (Value.slice A2 D.length c2).ownBlock = some j) (wr.alloc o) w8) (g3 : (Value.slice A8 n c8).ownBlock = (Value.slice A2 D.length c2).ownBlock ∨ (Value.slice A8 n c8).ownBlock = some (wr.heap.size + 1)) : OB B w8 A8 c8 (D ++ E) ∧ Below B w w8 := by
  subst hn
  refine ⟨⟨by simpa [bv] using g1, fun j e => ?_⟩, (hbe.alloc hB o).trans (g2.below (fun j e => ho.fresh j (by rw [ownB_slice] at e; exact e)) (by simp; omega))⟩
  rcases g3 with h | h <;> rw [ownB_slice] at h
  · rw [ownB_slice] at h
    exact ho.fresh j (by rw [← h]; exact e)
  · rw [h] at e
    have := Option.some.inj e
    omega
theorem clone_walk (d : List UInt8) (A : Option Addr) (c : Nat) (w : World) (h : Sl w 1 (.slice A d.length c) d.length (bv d)) (hn : d.length ≤ 1000000000) :
    Calls Tryz.prog 16 #[.slice A d.length c] w fun e w' => ∃ A' c', e = .returned (.slice A' d.length c') ∧ OB w.heap.size w' A' c' d ∧ Below w.heap.size w w' := by
  cases A with
  | none =>
    obtain ⟨A', c', e', _, hz, _, _⟩ := h
    injection e' with e1 e2 e3
    subst e1 e3
    obtain ⟨h1, h2⟩ := hz rfl
    have hd : d = [] := List.eq_nil_of_length_eq_zero h1
    subst hd
    have hnil := fun w => Lib.run_eql_slice_nil (P := Tryz.prog) w 30 5 none 0 0 0 0 Tryz.underlying30
    subst h2
    rw [List.length_nil]
    clear h1 hz hn
    go_enter Tryz.func16, Tryz.ntmps16
    go_wp2
    go_ret
    exact ⟨none, 0, rfl, ⟨own_nil' _ 0 _ 1, fun j e => by cases e⟩, Below.refl _ _⟩
  | some ad =>
    have hnil := fun w => Lib.run_eql_slice_nil (P := Tryz.prog) w 30 5 (some ad) d.length c 0 0 Tryz.underlying30
    have HS := Lib.hid (h.below ((Below.refl w.heap.size w).alloc (Nat.le_refl _) (.cells #[] 5)))
    have HO := Lib.hid (own_new w #[] 5 1 0 rfl (by decide))
    clear h
    go_enter Tryz.func16, Tryz.ntmps16
    go_wp2_with (at_builtin; go_must (refine wpList_app rfl eltB rfl rfl rfl (n := 0) (m := d.length) HO.out HS.out (bv_one d) (by omega) (by simp only [maxLen]; omega) ?_))
    intro v4 w4 g1 g2 g3 g4
    clear g4
    obtain ⟨A4, c4, rfl, _⟩ := Rd.of_own g1
    have HN : Hid (OB w.heap.size w4 A4 c4 d ∧ Below w.heap.size w w4) := Lib.hid ⟨⟨by simpa using g1, fun j e => by
      rcases g3 with g3 | g3 <;> rw [ownB_slice, e] at g3
      · injection g3 with g3
        have g3 : j = w.heap.size := g3
        omega
      · injection g3 with g3
        have : (w.alloc (.cells #[] 5)).heap.size = w.heap.size + 1 := by simp
        omega⟩, ((Below.refl w.heap.size w).alloc (Nat.le_refl _) _).trans (g2.below (fun j e => by rw [ownB_slice] at e; injection e with e; have e : w.heap.size = j := e; omega) (by simp))⟩
    clear g1 g2 g3
    go_wp2
    go_ret
    exact ⟨A4, c4, by simp, HN.out.1, HN.out.2⟩
theorem clip_walk (A : Option Addr) (n c : Nat) (w : World) (h : n ≤ c) (hA : A = none → n = 0 ∧ c = 0) (hn : n ≤ 1000000000) : Calls Tryz.prog 99 #[.slice A n c] w fun e w' => e = .returned (.slice A n n) ∧ w' = w := by
  cases A with
  | none =>
    obtain ⟨h1, rfl⟩ := hA rfl
    rw [h1]
    clear h hA hn
    go_enter Tryz.func99, Tryz.ntmps99
    go_wp2
    go_ret
    exact ⟨rfl, rfl⟩
  | some ad =>
    have i0 : (0 : Int) ≤ (n : Int) := by omega
    have i1 : (n : Int) ≤ (c : Int) := by omega
    have hr : ∀ w, (Instr.slice 30 (.slice (some ad) n c) none (some (.int .i64 (n : Int))) (some (.int .i64 (n : Int)))).run Tryz.prog w = .ok (.slice (some ad) n n) w := by
      intro w
      simp [go_sem, i0, i1]
    go_enter Tryz.func99, Tryz.ntmps99
    go_wp2
    go_ret
    exact ⟨rfl, rfl⟩
end Go.Proofs.YtlcfnehmmjhoiaaGreat
