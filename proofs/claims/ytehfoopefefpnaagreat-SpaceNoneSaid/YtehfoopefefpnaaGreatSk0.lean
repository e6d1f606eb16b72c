/- Words and contracts that the proofs of this set use; each part says what it holds. -/
import Derived.WalkKit
import Derived.WalkSpells
import Derived.WalkLawsBesides
import Derived.Deep.AppendLies
import Derived.Deep.RegionHeld3
import Derived.Deep.QuietTactic
import Derived.BigQuiet
import Derived.Maps.AppendAt
import Derived.Lib.Hide
import Derived.Test.YtehfoopefefpnaaGreatProg
import Derived.Test.YtehfoopefefpnaaGreatRows
import Derived.Deep.DrawnRows
import Derived.Deep.DeepCutAuto
import Derived.Deep.CutBlock
import Derived.LoopTactic
import Derived.Lib.SliceRun
import Derived.IntWalk
import Derived.RangeFuncNested
import Derived.RangeFuncBound
import Derived.RangeFuncCalls
import Derived.RangeFuncLeaves
import Derived.RangeFuncBox
import Derived.Shelf.Abstract
import Derived.Shelf.RegionOpen
import Derived.OwnWalkIn
import Derived.TacticsInMore
import Derived.LoopNIn
import Derived.LoopIn
import Derived.Laws.Bits64b
import Derived.Laws.Entries
import Derived.StillTailTactics
import Derived.WalkMore
import Derived.Lib.AppendZerosOnto
import Derived.ArgAppend
/- Words on memory for all proofs of this set: what a call may write (Keep), slices that are read (Rd), rows that are owned, append. No program in sight. -/
set_option linter.unusedSimpArgs false
set_option linter.unusedVariables false
namespace Go.Proofs.YtehfoopefefpnaaGreat
open Go.RowKit

/-- Behind a call: of what was there, at most the blocks of S have turned. -/
structure Keep (S : Nat → Prop) (w w' : World) : Prop where
  os : w'.os = w.os
  tape : w'.tape = w.tape
  output : w'.output = w.output
  size : w.heap.size ≤ w'.heap.size
  block : ∀ k, k < w.heap.size → ¬ S k → w'.heap[k]? = w.heap[k]?

namespace Keep
variable {S T : Nat → Prop} {w w1 w2 : World}
theorem refl (S : Nat → Prop) (w : World) : Keep S w w := ⟨rfl, rfl, rfl, Nat.le_refl _, fun _ _ _ => rfl⟩
theorem trans (h : Keep S w w1) (k : Keep T w1 w2) (hT : ∀ i, i < w.heap.size → T i → S i) : Keep S w w2 :=
  ⟨k.os.trans h.os, k.tape.trans h.tape, k.output.trans h.output, Nat.le_trans h.size k.size,
   fun i hi hs => (k.block i (Nat.lt_of_lt_of_le hi h.size) (fun ht => hs (hT i hi ht))).trans (h.block i hi hs)⟩
theorem mono (h : Keep S w w1) (hT : ∀ i, i < w.heap.size → S i → T i) : Keep T w w1 :=
  ⟨h.os, h.tape, h.output, h.size, fun i hi hs => h.block i hi (fun hS => hs (hT i hi hS))⟩
theorem below {B : Nat} (h : Keep S w w1) (hS : ∀ i, S i → B ≤ i) (hB : B ≤ w.heap.size) : Below B w w1 :=
  ⟨h.os, h.tape, h.output, h.size, fun i hi => h.block i (by omega) (fun hs => by have := hS i hs; omega)⟩
theorem of_below (h : Below w.heap.size w w1) : Keep S w w1 := ⟨h.os, h.tape, h.output, h.size, fun i hi _ => h.block i hi⟩
theorem of_belowB {B : Nat} (h : Below B w w1) (hS : ∀ i, i < w.heap.size → B ≤ i → S i) : Keep S w w1 :=
  ⟨h.os, h.tape, h.output, h.size, fun i hi hs => h.block i (by rcases Nat.lt_or_ge i B with h' | h'; exact h'; exact absurd (hS i hi h') hs)⟩
theorem to_below (h : Keep (fun _ => False) w w1) : Below w.heap.size w w1 := ⟨h.os, h.tape, h.output, h.size, fun i hi => h.block i hi id⟩
theorem of_grown {row : Option Nat} (h : w.grownBy w1 row) : Keep (fun k => row = some k) w w1 :=
  ⟨h.os, h.tape, h.output, h.size, fun i hi hs => h.block i hi (fun e => hs e.symm)⟩
theorem drew (h : Keep S w w1) : Keep S w w1.drew := ⟨h.os, h.tape, h.output, h.size, h.block⟩
theorem drewL (h : Keep S w w1) : Keep S w.drew w1 := ⟨h.os, h.tape, h.output, h.size, h.block⟩
theorem drewN (h : Keep S w w1) (n : Nat) : Keep S w (w1.drewN n) := ⟨h.os, h.tape, h.output, h.size, h.block⟩
theorem alloc (h : Keep S w w1) (o : Obj) : Keep S w (w1.alloc o) :=
  ⟨h.os, h.tape, h.output, Nat.le_trans h.size (by simp), fun k hk hs => (Below.heap_alloc _ _ _ (Nat.lt_of_lt_of_le hk h.size)).trans (h.block k hk hs)⟩
theorem setCell (h : Keep S w w1) {p : Addr} (hp : p.block < w.heap.size → S p.block) (u : Value) : Keep S w (w1.setCell p u) :=
  ⟨h.os, h.tape, h.output, by simpa [World.setCell] using h.size, fun k hk hs => (Below.heap_setCell _ _ _ _ (fun e => by subst e; exact hs (hp hk))).trans (h.block k hk hs)⟩
theorem blk (h : Keep S w w1) {k : Nat} {o : Obj} (hb : w.heap[k]? = some o) (hs : ¬ S k) : w1.heap[k]? = some o :=
  (h.block k (Array.getElem?_eq_some_iff.1 hb).1 hs).trans hb
theorem cell (h : Keep S w w1) {a : Addr} {v : Value} (hc : w.cell? a = some v) (hs : ¬ S a.block) : w1.cell? a = some v :=
  (World.cell?_of_block (w := w) (h.block a.block (World.block_lt_of_cell? w a hc) hs)).trans hc
theorem frozen (h : Keep S w w1) {a : Addr} (hl : a.block < w.heap.size) (hs : ¬ S a.block) : w1.frozen? a = w.frozen? a :=
  World.frozen?_of_block (w := w) (h.block a.block hl hs)
end Keep

theorem blk_lt {w : World} {k : Nat} {o : Obj} (h : w.heap[k]? = some o) : k < w.heap.size := (Array.getElem?_eq_some_iff.1 h).1
theorem blk_cell {w : World} {k j : Nat} {cs : Array Value} {t : TypeId} {fr : Nat × Nat} {v : Value} (h : w.heap[k]? = some (.cells cs t fr)) (hv : cs[j]? = some v) : w.cell? ⟨k, j, none⟩ = some v := by
  rw [cell_of_row w k j cs t fr h]; exact hv
theorem blk_free {w : World} {k j : Nat} {cs : Array Value} {t : TypeId} (h : w.heap[k]? = some (.cells cs t (0, 0))) : w.frozen? ⟨k, j, none⟩ = false := by
  simp [World.frozen?, h]
theorem blk_cells {w : World} {k : Nat} {cs : Array Value} {t : TypeId} {fr : Nat × Nat} (h : w.heap[k]? = some (.cells cs t fr)) : ∀ j, w.cell? ⟨k, j, none⟩ = cs[j]? := fun j => cell_of_row w k j cs t fr h
theorem blk_frees {w : World} {k : Nat} {cs : Array Value} {t : TypeId} (h : w.heap[k]? = some (.cells cs t (0, 0))) : ∀ j, w.frozen? ⟨k, j, none⟩ = false := fun _ => blk_free h
theorem blk_set {w : World} {k j : Nat} {cs : Array Value} {t : TypeId} {fr : Nat × Nat} (h : w.heap[k]? = some (.cells cs t fr)) (v : Value) :
    (w.setCell ⟨k, j, none⟩ v).heap[k]? = some (.cells (cs.setIfInBounds j v) t fr) := by
  simp only [World.setCell, Array.getElem?_modify]
  simp [h]
theorem blk_set_ne {w : World} {k : Nat} {a : Addr} (v : Value) (hne : k ≠ a.block) : (w.setCell a v).heap[k]? = w.heap[k]? := Below.heap_setCell w a v k hne
theorem blk_new (w : World) (o : Obj) : (w.alloc o).heap[w.heap.size]? = some o := heap_alloc_new w o
theorem blk_old {w : World} {k : Nat} {o : Obj} (h : w.heap[k]? = some o) (x : Obj) : (w.alloc x).heap[k]? = some o := (Below.heap_alloc w x k (blk_lt h)).trans h
theorem blk_ne {w : World} {j k : Nat} {cs ds : Array Value} {t u : TypeId} {fr fs : Nat × Nat} (h : w.heap[j]? = some (.cells cs t fr)) (h' : w.heap[k]? = some (.cells ds u fs)) (hne : t ≠ u) : j ≠ k := by
  rintro rfl
  rw [h] at h'
  injection h' with h'
  injection h' with _ h2 _
  exact hne h2

/-! ### Slices that are read -/
/-- The slice with address A reads as the cells xs. -/
def Rd (w : World) (A : Option Addr) (xs : List Value) : Prop := xs = [] ∨ ∃ ad, A = some ad ∧ ∀ j u, xs[j]? = some u → w.cell? (ad.add j) = some u
theorem Rd.nil (w : World) (A : Option Addr) : Rd w A [] := .inl rfl
theorem Rd.keep {S : Nat → Prop} {w w1 : World} {A : Option Addr} {xs : List Value} (h : Rd w A xs) (hk : Keep S w w1) (hs : ∀ ad, A = some ad → xs ≠ [] → ¬ S ad.block) : Rd w1 A xs := by
  rcases h with h | ⟨ad, rfl, hc⟩
  · exact .inl h
  · refine .inr ⟨ad, rfl, fun j u hu => hk.cell (hc j u hu) ?_⟩
    have : (ad.add j).block = ad.block := by unfold Addr.add; split <;> rfl
    rw [this]
    exact hs ad rfl (by rintro rfl; simp at hu)
theorem Rd.lt {w : World} {ad : Addr} {xs : List Value} (h : Rd w (some ad) xs) (hx : xs ≠ []) : ad.block < w.heap.size := by
  rcases h with h | ⟨ad', e, hc⟩
  · exact absurd h hx
  · obtain rfl := Option.some.inj e
    cases xs with
    | nil => exact absurd rfl hx
    | cons x l =>
      have := World.block_lt_of_cell? w _ (hc 0 x rfl)
      have e : (ad.add 0).block = ad.block := by unfold Addr.add; split <;> rfl
      omega
theorem Rd.below {w w1 : World} {A : Option Addr} {xs : List Value} (h : Rd w A xs) (hk : Below w.heap.size w w1) : Rd w1 A xs :=
  h.keep (Keep.of_below (S := fun _ => False) hk) (fun _ _ _ => id)
theorem Rd.of_own {w : World} {base : Nat} {e : TypeId} {size : Nat} {v : Value} {n : Nat} {xs : List Value} (h : w.ownsRow base e size v n xs) : ∃ A c, v = .slice A n c ∧ Rd w A xs ∧ (A = none → n = 0 ∧ c = 0) ∧ n ≤ c ∧ A.map (·.block) = v.ownBlock := by
  rcases h.2 with ⟨rfl, rfl⟩ | ⟨g, cap, cur, rfl, hb, hh, h1, h2, h3, h4⟩
  · refine ⟨none, 0, rfl, .inl ?_, fun _ => ⟨rfl, rfl⟩, Nat.le_refl _, rfl⟩
    exact List.eq_nil_of_length_eq_zero (by simpa using h.1)
  · refine ⟨_, cap, rfl, .inr ⟨_, rfl, fun j u hu => h.cells (g := g) rfl j u hu⟩, (fun e => by simp at e), h1, rfl⟩

/-- A slice's value, and the cells that it reads as. -/
def Sl (w : World) (size : Nat) (v : Value) (n : Nat) (xs : List Value) : Prop :=
  ∃ A c, v = .slice A n c ∧ Rd w A xs ∧ (A = none → n = 0 ∧ c = 0) ∧ n ≤ c ∧ xs.length = n * size
theorem ownBlock_slice (A : Option Addr) (n c : Nat) : (Value.slice A n c).ownBlock = A.map (·.block) := by cases A <;> rfl
theorem Sl.keep {S : Nat → Prop} {w w1 : World} {size n : Nat} {v : Value} {xs : List Value} (h : Sl w size v n xs) (hk : Keep S w w1) (hs : ∀ k, v.ownBlock = some k → xs ≠ [] → ¬ S k) : Sl w1 size v n xs := by
  obtain ⟨A, c, rfl, hr, h1, h2, h3⟩ := h
  exact ⟨A, c, rfl, hr.keep hk (fun ad e hx => hs ad.block (by subst e; rfl) hx), h1, h2, h3⟩
theorem Sl.of_own {w : World} {base : Nat} {e : TypeId} {size : Nat} {v : Value} {n : Nat} {xs : List Value} (h : w.ownsRow base e size v n xs) : Sl w size v n xs := by
  obtain ⟨A, c, rfl, h1, h2, h3, _⟩ := Rd.of_own h
  exact ⟨A, c, rfl, h1, h2, h3, h.1⟩
theorem Sl.below {w w1 : World} {size n : Nat} {v : Value} {xs : List Value} (h : Sl w size v n xs) (hk : Below w.heap.size w w1) : Sl w1 size v n xs :=
  h.keep (Keep.of_below (S := fun _ => False) hk) (fun _ _ _ => id)
theorem Sl.lt {w : World} {size n : Nat} {v : Value} {xs : List Value} (h : Sl w size v n xs) {k : Nat} (hk : v.ownBlock = some k) (hx : xs ≠ []) : k < w.heap.size := by
  obtain ⟨A, c, rfl, hr, _⟩ := h
  cases A with
  | none => simp [Value.ownBlock] at hk
  | some ad =>
    have : ad.block = k := by simpa [Value.ownBlock] using hk
    subst this
    exact hr.lt hx

/-- The bytes of a list as cells. -/
def bv (l : List UInt8) : List Value := l.map fun b => .int .u8 (b.toNat : Int)
theorem bv_length (l : List UInt8) : (bv l).length = l.length := by simp [bv]
theorem bv_one (l : List UInt8) : ∀ u ∈ bv l, u.oneCell' = true := by
  intro u hu
  obtain ⟨b, _, rfl⟩ := List.mem_map.1 hu
  rfl
theorem bv_nil : bv [] = [] := rfl
theorem bv_eq_nil {l : List UInt8} : bv l = [] ↔ l = [] := by cases l <;> simp [bv]

/-! ### append -/
/-- The element type of a slice type: how many cells and bytes. -/
structure Elt (P : Program) (t e : TypeId) (size bytes : Nat) : Prop where
  und : P.underlying t = some (.slice e)
  info : ∃ i z, P.info? e = some i ∧ i.zero = some z ∧ i.size = size ∧ i.bytes = bytes ∧ z.cells.size = size ∧ ∀ u ∈ z.cells.toList, u.oneCell' = true
  pos : 0 < size
theorem Elt.mk' {P : Program} {t e : TypeId} {z : Value} {size bytes : Nat} (h1 : P.underlying t = some (.slice e)) (h2 : (P.info? e).map (fun i => (i.zero, i.size, i.bytes)) = some (some z, size, bytes)) (h3 : z.cells.size = size) (h5 : ∀ u ∈ z.cells.toList, u.oneCell' = true) (h4 : 0 < size) : Elt P t e size bytes := by
  obtain ⟨i, hi, a, b, c⟩ := info_parts h2
  exact ⟨h1, ⟨i, z, hi, a, b, c, h3, h5⟩, h4⟩

theorem run_app {P : Program} (w : World) {t e : TypeId} {size bytes : Nat} (he : Elt P t e size bytes) (ty : TypeId) {v x : Value} {n m : Nat} {xs ys : List Value}
    (hown : w.ownsRow 0 e size v n xs) (hx : Sl w size x m ys) (h1 : ∀ u ∈ ys, u.oneCell' = true) (hb : (n + m) * bytes ≤ 140737488355328) (hm : n + m ≤ maxLen) :
    ∃ v' w', (Builtin.append_ #[t, t] ty #[v, x]).run P w = .ok v' w' ∧ w'.ownsRow 0 e size v' (n + m) (xs ++ ys) ∧ Keep (fun k => v.ownBlock = some k) w w' ∧
      (v'.ownBlock = v.ownBlock ∨ v'.ownBlock = some w.heap.size) ∧ (v' = .slice none 0 0 ↔ v = .slice none 0 0 ∧ m = 0) := by
  obtain ⟨i, z, hi, hz, hs, hby, hzs, _⟩ := he.info
  obtain ⟨A, c, rfl, hr, hA, hc, hl⟩ := hx
  cases A with
  | none =>
    obtain ⟨rfl, rfl⟩ := hA rfl
    obtain rfl : ys = [] := List.eq_nil_of_length_eq_zero (by simpa using hl)
    refine ⟨v, w, run_append_owned_none (P := P) w 0 t ty e i size he.und hi _ n xs hown, by simpa using hown, Keep.refl _ _, .inl rfl, ?_⟩
    simp
  | some ad =>
    have hn : ∀ j u, ys[j]? = some u → w.cell? (ad.add j) = some u := by
      rcases hr with rfl | ⟨ad', e', h⟩
      · intro j u hu; simp at hu
      · obtain rfl := Option.some.inj e'; exact h
    obtain ⟨v', w', r, h2, h3, h4, h5⟩ := run_append_own_at (P := P) w 0 t ty e i z size bytes he.und hi hz hs hby hzs he.pos v n xs hown ad m c ys hl hn h1 hm hb (Nat.zero_le _)
    exact ⟨v', w', r, h2, Keep.of_grown h3, h5, h4⟩

theorem wp_app {P : Program} (w : World) {o : Oper} {a : Act} {K : Act → World → Prop} {Q : Exit → Act → World → Prop} {s y : Operand} {t e : TypeId} {size bytes : Nat} (he : Elt P t e size bytes)
    (ho : o.op = .call { callee := .builtin .append, args := #[s, y], argTypes := #[t, t] }) {v x : Value} {n m : Nat} {xs ys : List Value} (hs : a.eval s = v) (hy : a.eval y = x)
    (hown : w.ownsRow 0 e size v n xs) (hx : Sl w size x m ys) (h1 : ∀ u ∈ ys, u.oneCell' = true) (hb : (n + m) * bytes ≤ 140737488355328) (hm : n + m ≤ maxLen)
    (h : ∀ v' w', w'.ownsRow 0 e size v' (n + m) (xs ++ ys) → Keep (fun k => v.ownBlock = some k) w w' → (v'.ownBlock = v.ownBlock ∨ v'.ownBlock = some w.heap.size) → (v' = .slice none 0 0 ↔ v = .slice none 0 0 ∧ m = 0) → K (a.put o.dst v') w') : o.wp P a w K Q := by
  obtain ⟨v', w', hr, h2, h3, h4, h5⟩ := run_app (P := P) w he o.type hown hx h1 hb hm
  unfold Oper.wp execOp
  simp only [ho, resolve, invoke, builtin, Sem.run_bind, Sem.run_pure, Result.andThen_ok, List.map_toArray, List.map_cons, List.map_nil, hs, hy, hr]
  exact h v' w' h2 h3 h4 h5

theorem wpList_app {P : Program} {w : World} {ops : Array Oper} {rest : List Oper} {o : Oper} {a : Act} {Q : Exit → Act → World → Prop} (hgd : o.guard = none) {s y : Operand} {t e : TypeId} {size bytes : Nat} (he : Elt P t e size bytes)
    (ho : o.op = .call { callee := .builtin .append, args := #[s, y], argTypes := #[t, t] }) {v x : Value} {n m : Nat} {xs ys : List Value} (hs : a.eval s = v) (hy : a.eval y = x)
    (hown : w.ownsRow 0 e size v n xs) (hx : Sl w size x m ys) (h1 : ∀ u ∈ ys, u.oneCell' = true) (hb : (n + m) * bytes ≤ 140737488355328) (hm : n + m ≤ maxLen)
    (h : ∀ v' w', w'.ownsRow 0 e size v' (n + m) (xs ++ ys) → Keep (fun k => v.ownBlock = some k) w w' → (v'.ownBlock = v.ownBlock ∨ v'.ownBlock = some w.heap.size) → (v' = .slice none 0 0 ↔ v = .slice none 0 0 ∧ m = 0) → wpList P ops Q rest (a.put o.dst v') w') : wpList P ops Q (o :: rest) a w :=
  wpList_plain hgd fun _ hK => wp_app w he ho hs hy hown hx h1 hb hm fun v' w' h2 h3 h4 h5 => hK _ _ (h v' w' h2 h3 h4 h5)

theorem step_app {P : Program} {w : World} {ops : Array Oper} {o : Oper} {a : Act} {K : Act → World → Prop} {Q : Exit → Act → World → Prop} {E : Prop} (hgd : o.guard = none) {s y : Operand} {t e : TypeId} {size bytes : Nat} (he : Elt P t e size bytes)
    (ho : o.op = .call { callee := .builtin .append, args := #[s, y], argTypes := #[t, t] }) {v x : Value} {n m : Nat} {xs ys : List Value} (hs : a.eval s = v) (hy : a.eval y = x)
    (hown : w.ownsRow 0 e size v n xs) (hx : Sl w size x m ys) (h1 : ∀ u ∈ ys, u.oneCell' = true) (hb : (n + m) * bytes ≤ 140737488355328) (hm : n + m ≤ maxLen)
    (h : ∀ v' w', w'.ownsRow 0 e size v' (n + m) (xs ++ ys) → Keep (fun k => v.ownBlock = some k) w w' → (v'.ownBlock = v.ownBlock ∨ v'.ownBlock = some w.heap.size) → (v' = .slice none 0 0 ↔ v = .slice none 0 0 ∧ m = 0) → K (a.put o.dst v') w') :
    if Region.wanted o (yielded ops a.tmps) = true then Oper.wp P o a w K Q else E := by
  have hw : Region.wanted o (yielded ops a.tmps) = true := by simp [Region.wanted, hgd]
  rw [if_pos hw]
  exact wp_app w he ho hs hy hown hx h1 hb hm h

/-- A new row of its own: make, or a literal. -/
theorem own_new (w : World) (cs : Array Value) (e : TypeId) (size n : Nat) (h : cs.size = n * size) (hm : n ≤ maxLen) : (w.alloc (.cells cs e)).ownsRow 0 e size (.slice (some ⟨w.heap.size, 0, none⟩) n n) n cs.toList :=
  ⟨by simpa using h, .inr ⟨_, n, cs, rfl, Nat.zero_le _, blk_new w _, Nat.le_refl _, hm, h, by rw [← h]; simp [List.take_of_length_le]⟩⟩
theorem own_nil' (w : World) (base : Nat) (e : TypeId) (size : Nat) : w.ownsRow base e size (.slice none 0 0) 0 [] := ⟨by simp, .inl ⟨rfl, rfl⟩⟩
theorem own_keep {S : Nat → Prop} {w w1 : World} {base : Nat} {e : TypeId} {size : Nat} {v : Value} {n : Nat} {xs : List Value} (h : w.ownsRow base e size v n xs) (hk : Keep S w w1) (hs : ∀ k, v.ownBlock = some k → ¬ S k) : w1.ownsRow base e size v n xs := by
  refine ⟨h.1, ?_⟩
  rcases h.2 with hn | ⟨g, cap, cur, rfl, hb, hg, r⟩
  · exact .inl hn
  · exact .inr ⟨g, cap, cur, rfl, hb, hk.blk hg (hs g rfl), r⟩
theorem own_blk {w : World} {base : Nat} {e : TypeId} {size : Nat} {v : Value} {n : Nat} {xs : List Value} (h : w.ownsRow base e size v n xs) {k : Nat} (hk : v.ownBlock = some k) : ∃ cur, w.heap[k]? = some (.cells cur e (0, 0)) := by
  rcases h.2 with ⟨rfl, _⟩ | ⟨g, cap, cur, rfl, hb, hg, r⟩
  · simp [Value.ownBlock] at hk
  · obtain rfl : g = k := by simpa [Value.ownBlock] using hk
    exact ⟨cur, hg⟩
/-- Rows of unlike elements lie apart. -/
theorem own_ne {w : World} {b b' : Nat} {e e' : TypeId} {s s' n n' : Nat} {v v' : Value} {xs xs' : List Value} (h : w.ownsRow b e s v n xs) (h' : w.ownsRow b' e' s' v' n' xs') (hne : e ≠ e') {k : Nat} (hk : v.ownBlock = some k) : ¬ v'.ownBlock = some k := by
  intro hk'
  obtain ⟨c1, h1⟩ := own_blk h hk
  obtain ⟨c2, h2⟩ := own_blk h' hk'
  exact blk_ne h1 h2 hne rfl
theorem own_ne_blk {w : World} {b : Nat} {e u : TypeId} {s n g : Nat} {v : Value} {xs : List Value} {cs : Array Value} {fr : Nat × Nat} (h : w.ownsRow b e s v n xs) (hb : w.heap[g]? = some (.cells cs u fr)) (hne : e ≠ u) {k : Nat} (hk : v.ownBlock = some k) : ¬ k = g := by
  obtain ⟨c1, h1⟩ := own_blk h hk
  exact blk_ne h1 hb hne
theorem own_lt {w : World} {b : Nat} {e : TypeId} {s n : Nat} {v : Value} {xs : List Value} (h : w.ownsRow b e s v n xs) {k : Nat} (hk : v.ownBlock = some k) : k < w.heap.size := by
  obtain ⟨c1, h1⟩ := own_blk h hk
  exact blk_lt h1

/-! ### bytes to a string -/
theorem run_conv_bytes {P : Program} (w : World) {src e dst : TypeId} (hs : P.underlying src = some (.slice e)) (he : P.underlying e = some (.int .u8)) (hd : P.underlying dst = some .string) {v : Value} {n : Nat} {d : List UInt8} (hx : Sl w 1 v n (bv d)) :
    (convert src dst v).run P w = .ok (.string ⟨d.toArray⟩) w := by
  obtain ⟨A, c, rfl, hr, hA, hc, hl⟩ := hx
  have hn : d.length = n := by simpa [bv] using hl
  cases A with
  | none =>
    obtain ⟨rfl, rfl⟩ := hA rfl
    obtain rfl : d = [] := List.eq_nil_of_length_eq_zero hn
    exact run_convert_bytes_nil w src e hs he 0 0 dst hd
  | some ad =>
    have hc : ∀ j u, (bv d)[j]? = some u → w.cell? (ad.add j) = some u := by
      rcases hr with h | ⟨ad', e', h⟩
      · intro j u hu; rw [h] at hu; simp at hu
      · obtain rfl := Option.some.inj e'; exact h
    have hb : bv d = (d.map fun b => (b.toNat : Int)).map (Value.int .u8) := by simp [bv]
    have hl' := run_loadCells_list (P := P) w ad (bv d) hc
    rw [bv_length, hn, hb] at hl'
    rw [run_convert_bytes_string w src dst e _ n _ hs he hd, run_bytesToString w ad n _ (d.map fun b => (b.toNat : Int)) hl', foldl_push_bytes]
    congr 2
    simp [ByteArray.empty, ByteArray.emptyWithCapacity, List.map_map, Function.comp_def]
    rfl

/-! ### rows that are written in place -/
theorem keep_setRow (w : World) (g : Nat) (cs : Array Value) : Keep (fun k => k = g) w (w.setRow g cs) :=
  ⟨rfl, rfl, rfl, by simp, fun k _ hs => setRow_other w g k cs hs⟩

theorem run_app_room {P : Program} (w : World) {t e : TypeId} {size bytes : Nat} (he : Elt P t e size bytes) (ty : TypeId) {g i cap m : Nat} {cur : Array Value} {x : Value} {ys : List Value}
    (hg : w.heap[g]? = some (.cells cur e (0, 0))) (hx : Sl w size x m ys) (h1 : ∀ u ∈ ys, u.oneCell' = true) (hroom : i + m ≤ cap) (hcap : cur.size = cap * size) :
    (Builtin.append_ #[t, t] ty #[.slice (some ⟨g, 0, none⟩) i cap, x]).run P w = .ok (.slice (some ⟨g, 0, none⟩) (i + m) cap) (w.setRow g (cur.toList.take (i * size) ++ ys ++ cur.toList.drop (i * size + ys.length)).toArray) := by
  obtain ⟨ii, z, hi, hz, hs, hby, hzs, _⟩ := he.info
  obtain ⟨A, c, rfl, hr, hA, hc, hl⟩ := hx
  cases A with
  | none =>
    obtain ⟨rfl, rfl⟩ := hA rfl
    obtain rfl : ys = [] := List.eq_nil_of_length_eq_zero (by simpa using hl)
    have hw : w.setRow g (cur.toList.take (i * size) ++ [] ++ cur.toList.drop (i * size + ([] : List Value).length)).toArray = w := by
      simp only [List.append_nil, List.length_nil, Nat.add_zero, List.take_append_drop, Array.toArray_toList]
      exact setRow_self w g cur e (0, 0) hg
    rw [hw]
    have hle : i ≤ cap := by omega
    simp [Builtin.append_, run_underlying he.und, sizeOf, typeInfo, hi, Builtin.lenOf, hle, Builtin.firstCells, storeCells]
  | some ad =>
    have hn : ∀ j u, ys[j]? = some u → w.cell? (ad.add j) = some u := by
      rcases hr with rfl | ⟨ad', e', h⟩
      · intro j u hu; simp at hu
      · obtain rfl := Option.some.inj e'; exact h
    subst hs
    refine run_append_room (P := P) w t ty e ii he.und hi g i cap cur hg ad m c ys hl hn h1 hroom ?_
    rw [hl, hcap, ← Nat.add_mul]; exact Nat.mul_le_mul_right _ hroom

theorem run_clear_row {P : Program} (w : World) {t e : TypeId} {size bytes : Nat} (he : Elt P t e size bytes) (ty : TypeId) {g off m c : Nat} {cur : Array Value}
    (hg : w.heap[g]? = some (.cells cur e (0, 0))) (hfit : off + m * size ≤ cur.size) :
    ∃ zs : List Value, zs.length = m * size ∧ (Builtin.clear_ #[t] ty #[.slice (some ⟨g, off, none⟩) m c]).run P w = .ok (.tuple #[]) (w.setRow g (cur.toList.take off ++ zs ++ cur.toList.drop (off + zs.length)).toArray) := by
  obtain ⟨ii, z, hi, hz, hs, hby, hzs, h1⟩ := he.info
  cases m with
  | zero =>
    refine ⟨[], by simp, ?_⟩
    simp only [List.append_nil, List.length_nil, Nat.add_zero, List.take_append_drop, Array.toArray_toList]
    rw [setRow_self w g cur e (0, 0) hg]
    simp [Builtin.clear_, run_underlying he.und]
  | succ m =>
    have hzl : (Builtin.zeroCells z.cells (m + 1)).toList.length = (m + 1) * size := by rw [Array.length_toList, size_zeroCells, hzs]
    have hz1 : ∀ v ∈ (Builtin.zeroCells z.cells (m + 1)).toList, v.oneCell' = true := by
      intro v hv
      simp only [Builtin.zeroCells, Array.toList_map, List.mem_map, Array.toList_range, List.mem_range] at hv
      obtain ⟨j, hj, rfl⟩ := hv
      have hp : 0 < z.cells.size := by have := he.pos; omega
      have hlt := Nat.mod_lt j hp
      rw [getElem!_pos z.cells (j % z.cells.size) hlt]
      exact h1 _ (by simp)
    refine ⟨_, hzl, ?_⟩
    have hst := run_storeCells_at P g off e (Builtin.zeroCells z.cells (m + 1)).toList 0 cur w hg (by rw [hzl]; omega) hz1
    simp only [Nat.add_zero] at hst
    have hzv : (zeroValue e).run P w = .ok z w := by simp [zeroValue, typeInfo, hi, hz]
    simp [Builtin.clear_, run_underlying he.und, hzv, hst]

/-- A builtin whose run is known: one step. -/
theorem wp_app_room {P : Program} {w : World} {o : Oper} {a : Act} {K : Act → World → Prop} {Q : Exit → Act → World → Prop} {s y : Operand} {t e : TypeId} {size bytes : Nat} (he : Elt P t e size bytes)
    (ho : o.op = .call { callee := .builtin .append, args := #[s, y], argTypes := #[t, t] }) {g i cap m : Nat} {cur : Array Value} {x : Value} {ys : List Value} (hs : a.eval s = .slice (some ⟨g, 0, none⟩) i cap) (hy : a.eval y = x)
    (hg : w.heap[g]? = some (.cells cur e (0, 0))) (hx : Sl w size x m ys) (h1 : ∀ u ∈ ys, u.oneCell' = true) (hroom : i + m ≤ cap) (hcap : cur.size = cap * size)
    (h : K (a.put o.dst (.slice (some ⟨g, 0, none⟩) (i + m) cap)) (w.setRow g (cur.toList.take (i * size) ++ ys ++ cur.toList.drop (i * size + ys.length)).toArray)) : o.wp P a w K Q := by
  have hr := run_app_room (P := P) w he o.type hg hx h1 hroom hcap
  unfold Oper.wp execOp
  simp only [ho, resolve, invoke, builtin, Sem.run_bind, Sem.run_pure, Result.andThen_ok, List.map_toArray, List.map_cons, List.map_nil, hs, hy, hr]
  exact h
theorem step_app_room {P : Program} {w : World} {ops : Array Oper} {o : Oper} {a : Act} {K : Act → World → Prop} {Q : Exit → Act → World → Prop} {E : Prop} (hgd : o.guard = none) {s y : Operand} {t e : TypeId} {size bytes : Nat} (he : Elt P t e size bytes)
    (ho : o.op = .call { callee := .builtin .append, args := #[s, y], argTypes := #[t, t] }) {g i cap m : Nat} {cur : Array Value} {x : Value} {ys : List Value} (hs : a.eval s = .slice (some ⟨g, 0, none⟩) i cap) (hy : a.eval y = x)
    (hg : w.heap[g]? = some (.cells cur e (0, 0))) (hx : Sl w size x m ys) (h1 : ∀ u ∈ ys, u.oneCell' = true) (hroom : i + m ≤ cap) (hcap : cur.size = cap * size)
    (h : K (a.put o.dst (.slice (some ⟨g, 0, none⟩) (i + m) cap)) (w.setRow g (cur.toList.take (i * size) ++ ys ++ cur.toList.drop (i * size + ys.length)).toArray)) :
    if Region.wanted o (yielded ops a.tmps) = true then Oper.wp P o a w K Q else E := by
  have hw : Region.wanted o (yielded ops a.tmps) = true := by simp [Region.wanted, hgd]
  rw [if_pos hw]
  exact wp_app_room he ho hs hy hg hx h1 hroom hcap h
theorem wpList_clear_row {P : Program} {w : World} {ops : Array Oper} {rest : List Oper} {o : Oper} {a : Act} {Q : Exit → Act → World → Prop} (hgd : o.guard = none) {s : Operand} {t e : TypeId} {size bytes : Nat} (he : Elt P t e size bytes)
    (ho : o.op = .call { callee := .builtin .clear, args := #[s], argTypes := #[t] }) {g off m c : Nat} {cur : Array Value} (hs : a.eval s = .slice (some ⟨g, off, none⟩) m c)
    (hg : w.heap[g]? = some (.cells cur e (0, 0))) (hfit : off + m * size ≤ cur.size)
    (h : ∀ zs : List Value, zs.length = m * size → wpList P ops Q rest (a.put o.dst (.tuple #[])) (w.setRow g (cur.toList.take off ++ zs ++ cur.toList.drop (off + zs.length)).toArray)) : wpList P ops Q (o :: rest) a w := by
  obtain ⟨zs, hl, hr⟩ := run_clear_row (P := P) w he o.type (c := c) hg hfit
  refine wpList_plain hgd fun _ hK => ?_
  unfold Oper.wp execOp
  simp only [ho, resolve, invoke, builtin, Sem.run_bind, Sem.run_pure, Result.andThen_ok, List.map_toArray, List.map_cons, List.map_nil, hs, hr]
  exact hK _ _ (h zs hl)

/-- Part of a slice reads as part of its cells. -/
theorem Rd.drop {w : World} {b o : Nat} {xs : List Value} (h : Rd w (some ⟨b, o, none⟩) xs) (n : Nat) : Rd w (some ⟨b, o + n, none⟩) (xs.drop n) := by
  rcases h with rfl | ⟨ad, e, hc⟩
  · exact .inl (by simp)
  · obtain rfl := Option.some.inj e
    refine .inr ⟨_, rfl, fun j u hu => ?_⟩
    rw [List.getElem?_drop] at hu
    have := hc (n + j) u hu
    rw [Addr.add_lit] at this ⊢
    rw [show o + n + j = o + (n + j) by omega]
    exact this
theorem Rd.take {w : World} {A : Option Addr} {xs : List Value} (h : Rd w A xs) (n : Nat) : Rd w A (xs.take n) := by
  rcases h with rfl | ⟨ad, e, hc⟩
  · exact .inl (by simp)
  · refine .inr ⟨ad, e, fun j u hu => hc j u ?_⟩
    rw [List.getElem?_take] at hu
    split at hu
    · exact hu
    · cases hu
/-- s[i:] of a row of one's own (the address as the walk writes it, either way). -/
theorem Sl.from_ {w : World} {base e g size n cap : Nat} {xs : List Value} (h : w.ownsRow base e size (.slice (some ⟨g, 0, none⟩) n cap) n xs) (i : Nat) {off m c : Nat} (hi : i ≤ n) {A : Option Addr} (hA : A = some ⟨g, off, none⟩) (ho : i < n → off = i * size) (hm : m = n - i) (hmc : c = cap - i) :
    Sl w size (.slice A m c) m (xs.drop (i * size)) := by
  subst hm hmc
  obtain ⟨A', c', hv, hr, _, hc, _⟩ := Rd.of_own h
  injection hv with e1 _ e2
  subst e1 e2 hA
  have hl : (xs.drop (i * size)).length = (n - i) * size := by rw [List.length_drop, h.1, Nat.sub_mul]
  refine ⟨_, _, rfl, ?_, (fun e => by simp at e), by omega, hl⟩
  rcases Nat.lt_or_ge i n with hlt | hge
  · rw [ho hlt]
    simpa using hr.drop (i * size)
  · left
    apply List.eq_nil_of_length_eq_zero
    rw [hl, Nat.sub_eq_zero_of_le hge, Nat.zero_mul]
/-- s[:i] of a row of one's own. -/
theorem Sl.upto {w : World} {base e g size n cap : Nat} {xs : List Value} (h : w.ownsRow base e size (.slice (some ⟨g, 0, none⟩) n cap) n xs) (i : Nat) (hi : i ≤ n) : Sl w size (.slice (some ⟨g, 0, none⟩) i cap) i (xs.take (i * size)) := by
  obtain ⟨A', c', hv, hr, _, hc, _⟩ := Rd.of_own h
  injection hv with e1 _ e2
  subst e1 e2
  refine ⟨_, _, rfl, hr.take _, (fun e => by simp at e), by omega, ?_⟩
  rw [List.length_take, h.1, Nat.min_eq_left (Nat.mul_le_mul_right _ hi)]
theorem own_form {w : World} {base e size n : Nat} {v : Value} {xs : List Value} (h : w.ownsRow base e size v n xs) (hn : 0 < n) :
    ∃ g cap cur, v = .slice (some ⟨g, 0, none⟩) n cap ∧ w.heap[g]? = some (.cells cur e (0, 0)) ∧ n ≤ cap ∧ cap ≤ maxLen ∧ cur.size = cap * size ∧ cur.toList.take (n * size) = xs := by
  rcases h.2 with ⟨_, h0⟩ | ⟨g, cap, cur, hv, hb, hg, r⟩
  · omega
  · exact ⟨g, cap, cur, hv, hg, r⟩
end Go.Proofs.YtehfoopefefpnaaGreat
/- Package field, plain: numbers as bytes, the lowest first. No program in sight. -/
set_option linter.unusedSimpArgs false
set_option linter.unusedVariables false
namespace Go.Proofs.YtehfoopefefpnaaGreat
open Go.RowKit

def le : Nat → Nat → List UInt8
  | _, 0 => []
  | n, k + 1 => UInt8.ofNat n :: le (n / 256) k
theorem le_len (n k : Nat) : (le n k).length = k := by
  induction k generalizing n with
  | zero => rfl
  | succ k ih => simp [le, ih]
theorem le_snoc (n k : Nat) : le n (k + 1) = le n k ++ [UInt8.ofNat (n / 256 ^ k)] := by
  induction k generalizing n with
  | zero => simp [le]
  | succ k ih =>
    rw [show le n (k + 1 + 1) = UInt8.ofNat n :: le (n / 256) (k + 1) from rfl, ih (n / 256), show le n (k + 1) = UInt8.ofNat n :: le (n / 256) k from rfl, List.cons_append, Nat.div_div_eq_div_mul, Nat.pow_succ, Nat.mul_comm (256 ^ k)]
def unle : List UInt8 → Nat
  | [] => 0
  | b :: l => b.toNat + 256 * unle l
theorem unle_le (n k : Nat) (h : n < 256 ^ k) : unle (le n k) = n := by
  induction k generalizing n with
  | zero => simp at h; subst h; rfl
  | succ k ih =>
    have h2 : n / 256 < 256 ^ k := by
      rw [Nat.pow_succ] at h
      exact Nat.div_lt_of_lt_mul (by omega)
    have h3 : (UInt8.ofNat n).toNat = n % 256 := by simp
    simp only [le, unle, ih _ h2, h3]
    omega
theorem unle_lt (l : List UInt8) : unle l < 256 ^ l.length := by
  induction l with
  | nil => decide
  | cons b l ih =>
    have := b.toNat_lt
    simp only [unle, List.length_cons, Nat.pow_succ]
    omega
theorem le_unle (l : List UInt8) : le (unle l) l.length = l := by
  induction l with
  | nil => rfl
  | cons b l ih =>
    have hb := b.toNat_lt
    have h1 : (b.toNat + 256 * unle l) / 256 = unle l := by omega
    have h2 : UInt8.ofNat (b.toNat + 256 * unle l) = b := by
      apply UInt8.toNat_inj.1
      simp
    simp only [unle, List.length_cons, le, h1, h2, ih]
/-- The number that bytes are, from the last one on. -/
theorem unle_app (l : List UInt8) (x : UInt8) : unle (l ++ [x]) = unle l + 256 ^ l.length * x.toNat := by
  induction l with
  | nil => simp [unle]
  | cons b l ih =>
    simp only [List.cons_append, unle, ih, List.length_cons, Nat.pow_succ]
    rw [Nat.mul_add, Nat.mul_comm (256 ^ l.length) 256, Nat.mul_assoc]
    omega
/-- The check sum: a bit's step, a byte's, all. -/
def bitS (r : BitVec 32) : BitVec 32 := (r >>> 1) ^^^ (3988292384#32 &&& (0#32 - (r &&& 1#32)))
end Go.Proofs.YtehfoopefefpnaaGreat
/- Bytes in new memory: slices.Clone, slices.Clip; package field: put. -/
set_option linter.unusedSimpArgs false
set_option linter.unusedVariables false
namespace Go.Proofs.YtehfoopefefpnaaGreat
open Go.RowKit

attribute [local go_sem ↓] Go.wp_at_zero Go.wp_at_succ
theorem ownB_slice (A : Option Addr) (n c : Nat) : (Value.slice A n c).ownBlock = A.map (·.block) := by cases A <;> rfl
theorem eltB : Elt Tryz.prog 22 5 1 1 := Elt.mk' (z := .int .u8 0) (by kernel_rfl) (by kernel_rfl) (by kernel_rfl) (by simp [Value.oneCell', Value.cells]) (by decide)
/-- Bytes that can be read, in memory from block B on. -/
structure NB (B : Nat) (w : World) (A : Option Addr) (c : Nat) (d : List UInt8) : Prop where
  sl : Sl w 1 (.slice A d.length c) d.length (bv d)
  fresh : ∀ j, A.map (·.block) = some j → B ≤ j ∧ ∃ cs fr, w.heap[j]? = some (.cells cs 5 fr)
theorem NB.keep {S : Nat → Prop} {B : Nat} {w w' : World} {A : Option Addr} {c : Nat} {d : List UInt8} (h : NB B w A c d) (hk : Keep S w w') (hS : ∀ j, A.map (·.block) = some j → ¬ S j) : NB B w' A c d :=
  ⟨h.sl.keep hk (fun j e _ => hS j (by rw [ownB_slice] at e; exact e)), fun j e => by
    obtain ⟨h1, cs, fr, h2⟩ := h.fresh j e
    exact ⟨h1, cs, fr, hk.blk h2 (hS j e)⟩⟩
theorem NB.below {B : Nat} {w w' : World} {A : Option Addr} {c : Nat} {d : List UInt8} (h : NB B w A c d) (hb : Below w.heap.size w w') : NB B w' A c d :=
  h.keep (S := fun _ => False) (Keep.of_below hb) (fun _ _ h => h)
theorem NB.mono {B B' : Nat} {w : World} {A : Option Addr} {c : Nat} {d : List UInt8} (h : NB B w A c d) (hB : B' ≤ B) : NB B' w A c d :=
  ⟨h.sl, fun j e => ⟨Nat.le_trans hB (h.fresh j e).1, (h.fresh j e).2⟩⟩
theorem NB.of_own {B : Nat} {w : World} {A : Option Addr} {c : Nat} {d : List UInt8} (h : w.ownsRow 0 5 1 (.slice A d.length c) d.length (bv d)) (hf : ∀ j, A.map (·.block) = some j → B ≤ j) : NB B w A c d :=
  ⟨Sl.of_own h, fun j e => by
    obtain ⟨cs, hb⟩ := own_blk h (k := j) (by rw [ownB_slice]; exact e)
    exact ⟨hf j e, cs, _, hb⟩⟩
theorem NB.clip {B : Nat} {w : World} {A : Option Addr} {c : Nat} {d : List UInt8} (h : NB B w A c d) : NB B w A d.length d := by
  refine ⟨?_, h.fresh⟩
  obtain ⟨A', c', e, hr, hz, hc, hl⟩ := h.sl
  injection e with e1 _ e2
  subst e1 e2
  exact ⟨_, _, rfl, hr, fun e => ⟨(hz e).1, (hz e).1⟩, Nat.le_refl _, hl⟩
theorem NB.nil (B : Nat) (w : World) : NB B w none 0 [] := ⟨⟨none, 0, rfl, .inl rfl, fun _ => ⟨rfl, rfl⟩, Nat.le_refl _, rfl⟩, fun j e => by cases e⟩
/-- A row of bytes of one's own, new. -/
structure OB (B : Nat) (w : World) (A : Option Addr) (c : Nat) (d : List UInt8) : Prop where
  own : w.ownsRow 0 5 1 (.slice A d.length c) d.length (bv d)
  fresh : ∀ j, A.map (·.block) = some j → B ≤ j
theorem OB.nb {B : Nat} {w : World} {A : Option Addr} {c : Nat} {d : List UInt8} (h : OB B w A c d) : NB B w A c d := NB.of_own h.own h.fresh
theorem OB.below {B : Nat} {w w' : World} {A : Option Addr} {c : Nat} {d : List UInt8} (h : OB B w A c d) (hb : Below w.heap.size w w') : OB B w' A c d :=
  ⟨own_keep h.own (Keep.of_below (S := fun _ => False) hb) (fun _ _ h => h), h.fresh⟩
theorem own_put1 {w : World} {T size n b c j : Nat} {xs : List Value} (h : w.ownsRow 0 T size (.slice (some ⟨b, 0, none⟩) n c) n xs) (v : Value) :
    (w.setCell ⟨b, j, none⟩ v).ownsRow 0 T size (.slice (some ⟨b, 0, none⟩) n c) n (xs.set j v) := by
  rcases h.2 with ⟨e, _⟩ | ⟨g, cap, cur, e, _, hb, h1, h2, h3, h4⟩
  · cases e
  · injection e with e1 _ e2
    injection e1 with e1
    injection e1 with e1 _ _
    subst e1 e2
    refine ⟨by rw [List.length_set]; exact h.1, .inr ⟨b, c, _, rfl, Nat.zero_le _, blk_set (j := j) hb v, h1, h2, by simpa using h3, ?_⟩⟩
    rw [← h4]
    simp [List.take_set]
theorem bv_set (l : List UInt8) (i : Nat) (x : UInt8) : (bv l).set i (.int .u8 (x.toNat : Int)) = bv (l.set i x) := by unfold bv; rw [List.map_set]
/-- A row that is one's own, behind an append of new cells. -/
theorem OB.app {B n : Nat} {w wr w8 : World} {o : Obj} {A2 A8 : Option Addr} {c2 c8 : Nat} {D E : List UInt8} (ho : OB B wr A2 c2 D) (hbe : Below B w wr) (hB : B ≤ wr.heap.size) (hn : (D ++ E).length = n)
    (g1 : w8.ownsRow 0 5 1 (.slice A8 n c8) n (bv D ++ bv E)) (g2 : Keep (fun j => (Value.slice A2 D.length c2).ownBlock = some j) (wr.alloc o) w8) (g3 : (Value.slice A8 n c8).ownBlock = (Value.slice A2 D.length c2).ownBlock ∨ (Value.slice A8 n c8).ownBlock = some (wr.heap.size + 1)) : OB B w8 A8 c8 (D ++ E) ∧ Below B w w8 := by
  subst hn
  refine ⟨⟨by simpa [bv] using g1, fun j e => ?_⟩, (hbe.alloc hB o).trans (g2.below (fun j e => ho.fresh j (by rw [ownB_slice] at e; exact e)) (by simp; omega))⟩
  rcases g3 with h | h <;> rw [ownB_slice] at h
  · rw [ownB_slice] at h
    exact ho.fresh j (by rw [← h]; exact e)
  · rw [h] at e
    have := Option.some.inj e
    omega
theorem clone_walk (d : List UInt8) (A : Option Addr) (c : Nat) (w : World) (h : Sl w 1 (.slice A d.length c) d.length (bv d)) (hn : d.length ≤ 1000000000) :
    Calls Tryz.prog 65 #[.slice A d.length c] w fun e w' => ∃ A' c', e = .returned (.slice A' d.length c') ∧ OB w.heap.size w' A' c' d ∧ Below w.heap.size w w' := by
  cases A with
  | none =>
    obtain ⟨A', c', e', _, hz, _, _⟩ := h
    injection e' with e1 e2 e3
    subst e1 e3
    obtain ⟨h1, h2⟩ := hz rfl
    have hd : d = [] := List.eq_nil_of_length_eq_zero h1
    subst hd
    have hnil := fun w => Lib.run_eql_slice_nil (P := Tryz.prog) w 22 5 none 0 0 0 0 Tryz.underlying22
    subst h2
    rw [List.length_nil]
    clear h1 hz hn
    go_enter Tryz.func65, Tryz.ntmps65
    go_wp2
    go_ret
    exact ⟨none, 0, rfl, ⟨own_nil' _ 0 _ 1, fun j e => by cases e⟩, Below.refl _ _⟩
  | some ad =>
    have hnil := fun w => Lib.run_eql_slice_nil (P := Tryz.prog) w 22 5 (some ad) d.length c 0 0 Tryz.underlying22
    have HS := Lib.hid (h.below ((Below.refl w.heap.size w).alloc (Nat.le_refl _) (.cells #[] 5)))
    have HO := Lib.hid (own_new w #[] 5 1 0 rfl (by decide))
    clear h
    go_enter Tryz.func65, Tryz.ntmps65
    go_wp2_with (at_builtin; go_must (refine wpList_app rfl eltB rfl rfl rfl (n := 0) (m := d.length) HO.out HS.out (bv_one d) (by omega) (by simp only [maxLen]; omega) ?_))
    intro v4 w4 g1 g2 g3 g4
    clear g4
    obtain ⟨A4, c4, rfl, _⟩ := Rd.of_own g1
    have HN : Hid (OB w.heap.size w4 A4 c4 d ∧ Below w.heap.size w w4) := Lib.hid ⟨⟨by simpa using g1, fun j e => by
      rcases g3 with g3 | g3 <;> rw [ownB_slice, e] at g3
      · injection g3 with g3
        have g3 : j = w.heap.size := g3
        omega
      · injection g3 with g3
        have : (w.alloc (.cells #[] 5)).heap.size = w.heap.size + 1 := by simp
        omega⟩, ((Below.refl w.heap.size w).alloc (Nat.le_refl _) _).trans (g2.below (fun j e => by rw [ownB_slice] at e; injection e with e; have e : w.heap.size = j := e; omega) (by simp))⟩
    clear g1 g2 g3
    go_wp2
    go_ret
    exact ⟨A4, c4, by simp, HN.out.1, HN.out.2⟩
theorem clip_walk (A : Option Addr) (n c : Nat) (w : World) (h : n ≤ c) (hA : A = none → n = 0 ∧ c = 0) (hn : n ≤ 1000000000) : Calls Tryz.prog 31 #[.slice A n c] w fun e w' => e = .returned (.slice A n n) ∧ w' = w := by
  cases A with
  | none =>
    obtain ⟨h1, rfl⟩ := hA rfl
    rw [h1]
    clear h hA hn
    go_enter Tryz.func31, Tryz.ntmps31
    go_wp2
    go_ret
    exact ⟨rfl, rfl⟩
  | some ad =>
    have i0 : (0 : Int) ≤ (n : Int) := by omega
    have i1 : (n : Int) ≤ (c : Int) := by omega
    have hr : ∀ w, (Instr.slice 22 (.slice (some ad) n c) none (some (.int .i64 (n : Int))) (some (.int .i64 (n : Int)))).run Tryz.prog w = .ok (.slice (some ad) n n) w := by
      intro w
      simp [go_sem, i0, i1]
    go_enter Tryz.func31, Tryz.ntmps31
    go_wp2
    go_ret
    exact ⟨rfl, rfl⟩
end Go.Proofs.YtehfoopefefpnaaGreat
/- Package field: put. -/
set_option linter.unusedSimpArgs false
set_option linter.unusedVariables false
namespace Go.Proofs.YtehfoopefefpnaaGreat
open Go.RowKit

attribute [local go_sem ↓] Go.wp_at_zero Go.wp_at_succ
/-- The bytes as far as they are put. -/
def PI (b : List UInt8) (n k : Nat) (w : World) (v1 v7 v11 : Value) (W : World) : Prop := ∃ (i : Nat) (A : Option Addr) (c : Nat), i ≤ k ∧ v11 = .int .i64 (i : Int) ∧ v1 = .int .u32 ((n / 256 ^ i : Nat) : Int) ∧ v7 = .slice A (b ++ le n i).length c ∧ OB w.heap.size W A c (b ++ le n i) ∧ Below w.heap.size w W
set_option maxHeartbeats 1000000 in
theorem put_walk (b : List UInt8) (A : Option Addr) (c n k : Nat) (w : World) (h : Sl w 1 (.slice A b.length c) b.length (bv b)) (hb : b.length ≤ 100000000) (hn : n < 4294967296) (hk : k ≤ 4) :
    Calls Tryz.prog 119 #[.slice A b.length c, .int .u32 (n : Int), .int .i64 (k : Int)] w fun e w' => ∃ A' d, d = b ++ le n k ∧ e = .returned (.slice A' d.length d.length) ∧ NB w.heap.size w' A' d.length d ∧ Below w.heap.size w w' := by
  have HC := Lib.hid (clone_walk b A c w h (by omega))
  clear h
  go_enter Tryz.func119, Tryz.ntmps119
  go_wp2_with fail
  refine HC.out.mono ?_
  rintro e w1 ⟨A1, c1, rfl, ho, hbe⟩
  have HST : Hid (PI b n k w (.int .u32 (n : Int)) (.slice A1 b.length c1) (.int .i64 0) w1) := Lib.hid ⟨0, A1, c1, Nat.zero_le _, rfl, by simp, by simp [le], by simpa [le] using ho, hbe⟩
  clear ho hbe
  go_wp2_with fail
  go_loopw [1, 7, 11] (fun v1 v7 v11 wr => PI b n k w v1 v7 v11 wr) (fun _ _ v _ => k - (intOf v).toNat)
  case atStart => exact HST.out
  case round =>
    obtain ⟨i, A2, c2, hi, rfl, rfl, rfl, ho, hbe⟩ := hrel
    obtain ⟨m, hm⟩ : ∃ m, m = n / 256 ^ i := ⟨_, rfl⟩
    obtain ⟨D, hD⟩ : ∃ D, D = b ++ le n i := ⟨_, rfl⟩
    rw [← hm, ← hD]
    rw [← hD] at ho
    have hDl : D.length = b.length + i := by rw [hD, List.length_append, le_len]
    have hm4 : m < 4294967296 := by rw [hm]; exact Nat.lt_of_le_of_lt (Nat.div_le_self _ _) hn
    have hDb : D.length ≤ 200000000 := by omega
    have HM := Lib.hid hm
    have HD := Lib.hid hD
    have HDL := Lib.hid hDl
    have HO := Lib.hid ho
    have HBE := Lib.hid hbe
    clear hm hD hDl ho hbe
    by_cases hlt : i < k
    · have q1 : (i : Int) < (k : Int) := by omega
      have q2 : IntKind.i64.wrap ((i : Int) + 1) = (i : Int) + 1 := IntWalk.i64_in _ (by omega)
      obtain ⟨x, hx⟩ : ∃ x : UInt8, x = UInt8.ofNat m := ⟨_, rfl⟩
      have HSO := Lib.hid (own_new wr #[.int .u8 (x.toNat : Int)] 5 1 1 rfl (by decide))
      have e1 : (m : Int) % 256 = (x.toNat : Int) := by rw [hx]; simp
      have HX := Lib.hid hx
      clear hx
      go_wp2_with (at_builtin; go_must (refine wpList_app rfl eltB rfl rfl rfl (n := D.length) (m := 1) (own_keep HO.out.own ((Keep.refl (fun _ => False) _).alloc _) (fun _ _ h => h)) (Sl.of_own HSO.out) (by simp [Value.oneCell']) (by omega) (by simp only [maxLen]; omega) ?_))
      intro v8 w8 g1 g2 g3 g4
      clear g4
      obtain ⟨A8, c8, rfl, _⟩ := Rd.of_own g1
      have hap := HO.out.app (E := [x]) HBE.out HBE.out.size (by simp) g1 g2 g3
      have hDx : D ++ [x] = b ++ le n (i + 1) := by rw [HD.out, HX.out, HM.out, le_snoc, List.append_assoc]
      rw [hDx] at hap
      have hml : m / 256 = n / 256 ^ (i + 1) := by rw [HM.out, Nat.div_div_eq_div_mul, Nat.pow_succ]
      have HP : Hid (PI b n k w (.int .u32 ((m / 256 : Nat) : Int)) (.slice A8 (D.length + 1) c8) (.int .i64 ((i : Int) + 1)) w8) := Lib.hid ⟨i + 1, A8, c8, hlt, by rw [Int.natCast_add]; rfl, by rw [hml], by congr 1; rw [← hDx]; simp, hap.1, hap.2⟩
      clear g1 g2 g3 hap hDx hml
      go_wp2_with fail
      go_roundw
      case rel => exact HP.out
      case measure => simp only [intOf]; omega
    · obtain rfl : i = k := by omega
      have q1 : ¬ (i : Int) < (i : Int) := by omega
      obtain ⟨_, _, eA, _, hz, hc, _⟩ := Rd.of_own HO.out.own
      injection eA with e1 _ e2
      subst e1 e2
      have HCL := Lib.hid (clip_walk A2 D.length c2 wr hc hz (by omega))
      have HF := Lib.hid HO.out.nb.clip
      clear hz hc
      go_wp2_with fail
      refine HCL.out.mono ?_
      rintro e W ⟨rfl, hWW⟩
      have hWW' := hWW.symm
      subst hWW'
      clear hWW
      go_wp2
      go_ret
      exact ⟨A2, D, HD.out, rfl, HF.out, HBE.out⟩
/-- A number behind bytes. -/
theorem num_walk (b : List UInt8) (A : Option Addr) (c n : Nat) (w : World) (h : Sl w 1 (.slice A b.length c) b.length (bv b)) (hb : b.length ≤ 100000000) (hn : n < 4294967296) :
    Calls Tryz.prog 74 #[.slice A b.length c, .int .i64 (n : Int)] w fun e w' => ∃ A' d, d = b ++ le n 4 ∧ e = .returned (.tuple #[.slice A' d.length d.length, .int .i64 0]) ∧ NB w.heap.size w' A' d.length d ∧ Below w.heap.size w w' := by
  have HP := Lib.hid (put_walk b A c n 4 w h hb hn (by omega))
  have h1 : ¬ (n : Int) < 0 := by omega
  have h2 : ¬ (4294967295 : Int) < (n : Int) := by omega
  have h3 : IntKind.u32.wrap (n : Int) = (n : Int) := IntWalk.u32_in _ (by omega)
  clear h
  go_enter Tryz.func74, Tryz.ntmps74
  go_wp2_with fail
  refine HP.out.mono ?_
  rintro e w1 ⟨A1, d, hd, rfl, ho, hbe⟩
  have HD := Lib.hid hd
  clear hd
  go_wp2
  go_ret2
  exact ⟨A1, d, HD.out, rfl, ho, hbe⟩
end Go.Proofs.YtehfoopefefpnaaGreat
/- slices.Backward at bytes: what the loop over it is handed. -/
set_option linter.unusedSimpArgs false
set_option linter.unusedVariables false
namespace Go.Proofs.YtehfoopefefpnaaGreat
open Go.RowKit Go.Shelf

attribute [local go_sem] Oper.semAt_some
/-- What is handed out at round i: the index and the byte, from the last one on. -/
def backV (xs : List UInt8) {N : Nat} (x : Fin N) : Array Value := #[.int .i64 ((N - 1 - x.val : Nat) : Int), .int .u8 (((xs.getD (N - 1 - x.val) 0).toNat : Nat) : Int)]
theorem finRange_succ_take {N k : Nat} (h : k < N) : (List.finRange N).take (k + 1) = (List.finRange N).take k ++ [⟨k, h⟩] := by
  rw [List.take_add_one]
  congr 1
  rw [List.getElem?_eq_getElem (by simpa using h)]
  simp
set_option maxRecDepth 100000 in
set_option maxHeartbeats 4000000 in
theorem back1_in (F : Fence) (n : Nat) (hf : F.fn 150) (hro : F.round = none) (hn : 1 ≤ n) (l Bs b off cap : Nat) (A0 : Option Addr) (xs : List UInt8) (hA0 : xs.length ≠ 0 → A0 = some ⟨b, off, none⟩) (S : Nat → Prop) (hreach : xs.length ≤ 140737488351232) (hcap : xs.length ≤ cap) {J : List (Fin xs.length) → World → Prop} {Jx : List (Fin xs.length) → World → Prop}
    (hY : ∀ pre x W, J pre W → pre.length < xs.length → YieldAt F (n - 1) Tryz.prog l (backV xs x) W fun e W' =>
      (e = .returned (.bool true) ∧ J (pre ++ [x]) W' ∧ Keep S W W') ∨ (e = .returned (.bool false) ∧ Jx (pre ++ [x]) W'))
    (W : World) (hBs : W.cell? ⟨Bs, 0, none⟩ = some (.slice A0 xs.length cap)) (hs0 : ¬ S Bs) (hb0 : xs.length ≠ 0 → ¬ S b) (hc : ∀ j x, xs[j]? = some x → W.cell? ⟨b, off + j, none⟩ = some (.int .u8 (x.toNat : Int))) (h0 : J [] W) :
    CallsIn F n Tryz.prog 150 #[.func (.yield l) #[] #[], .pointer (some ⟨Bs, 0, none⟩)] W fun e W' => (∃ v, e = .returned v) ∧
      ((∃ ys, ys = List.finRange xs.length ∧ J ys W') ∨ (∃ pre, pre <+: List.finRange xs.length ∧ Jx pre W')) := by
  have HC := Lib.hid hc
  clear hc
  have e0 : IntKind.i64.wrap ((xs.length : Int) - 1) = (xs.length : Int) - 1 := IntWalk.i64_in _ (by omega)
  refine callsIn_of_wp Tryz.func150 rfl hf ?_ hro
  simp only [Tryz.ntmps150, List.size_toArray, List.length_cons, List.length_nil, Nat.reduceAdd, Nat.reduceSub, Array.replicate_succ, Array.replicate_zero, List.push_toArray, List.append_toArray, List.nil_append, List.cons_append]
  gi_wp2
  gi_loopw [3] (fun i wr => ∃ k : Nat, k ≤ xs.length ∧ i = .int .i64 ((xs.length : Int) - 1 - (k : Int)) ∧ J ((List.finRange xs.length).take k) wr ∧ Keep S W wr)
    (fun i _ => (intOf i + 1).toNat)
  case atStart => exact ⟨0, Nat.zero_le _, by simp, by simpa using h0, Keep.refl _ _⟩
  case round =>
    obtain ⟨k, hk, rfl, hJs, hnx⟩ := hrel
    have hcs := hnx.cell hBs hs0
    have HNX := Lib.hid hnx
    clear hBs hnx
    by_cases hlt : k < xs.length
    · obtain rfl := hA0 (by omega)
      obtain ⟨j, hj⟩ : ∃ j : Nat, j = xs.length - 1 - k := ⟨_, rfl⟩
      have hji : (xs.length : Int) - 1 - (k : Int) = (j : Int) := by omega
      have hjl : j < xs.length := by omega
      obtain ⟨x, hx⟩ : ∃ x, xs[j]? = some x := ⟨xs[j], List.getElem?_eq_getElem hjl⟩
      have hcc := HNX.out.cell (HC.out j x hx) (hb0 (by omega))
      have b0 : (0 : Int) ≤ (j : Int) := by omega
      have b1 : (j : Int) < (xs.length : Int) := by omega
      have b2 : IntKind.i64.wrap ((j : Int) - 1) = (j : Int) - 1 := IntWalk.i64_in _ (by omega)
      have HL := Lib.hid hlt
      have HJ := Lib.hid hj
      have HJS := Lib.hid hJs
      have hgd : xs.getD (xs.length - 1 - k) 0 = x := by rw [← hj, List.getD_eq_getElem?_getD, hx]; rfl
      have HGD := Lib.hid hgd
      rw [hji]
      clear hlt hj hJs hgd hx hji
      obtain ⟨fn, tmps, assign, body, hy, hR⟩ := hY _ ⟨k, HL.out⟩ wr HJS.out (by rw [List.length_take, List.length_finRange]; have := HL.out; omega)
      rw [show backV xs (⟨k, HL.out⟩ : Fin xs.length) = #[.int .i64 (j : Int), .int .u8 (x.toNat : Int)] by unfold backV; simp only; rw [HGD.out, HJ.out]] at hy
      gi_wp2
      refine hR.mono ?_
      rintro e W3 (⟨rfl, hJ3, hk3⟩ | ⟨rfl, hJx3⟩)
      · have HK3 := Lib.hid hk3
        clear hk3 hcs hcc
        gi_wp2
        go_roundw
        case rel => exact ⟨k + 1, by have := HL.out; omega, by congr 1; have := HL.out; have := HJ.out; omega, by rw [finRange_succ_take HL.out]; exact hJ3, HNX.out.trans HK3.out (fun _ _ h => h)⟩
        case measure => simp only [intOf]; omega
      · gi_wp2
        refine bodyPost_ret (results_none rfl _ _ _) rfl ?_
        exact ⟨⟨_, rfl⟩, .inr ⟨_, List.take_prefix (k + 1) (List.finRange xs.length), by rw [finRange_succ_take HL.out]; exact hJx3⟩⟩
    · have hkN : k = xs.length := by omega
      have c1 : (xs.length : Int) - 1 - (k : Int) = -1 := by omega
      rw [c1]
      have HKN := Lib.hid hkN
      clear hkN c1
      gi_wp2
      go_end0
      exact ⟨⟨_, rfl⟩, .inl ⟨_, rfl, by rw [List.take_of_length_le (by rw [HKN.out]; simp)] at hJs; exact hJs⟩⟩
set_option maxHeartbeats 1000000 in
/-- The iterator's value: the argument is boxed. -/
theorem back_in (F : Fence) (n : Nat) (hf : F.fn 147) (hro : F.round = none) (a : Option Addr) (len cap : Nat) (w : World) :
    CallsIn F n Tryz.prog 147 #[.slice a len cap] w fun e w' => e = .returned (.func (.func 150) #[] #[.pointer (some ⟨w.heap.size, 0, none⟩)]) ∧
      w' = w.alloc (.cells #[.slice a len cap] 22) := by
  refine callsIn_of_wp Tryz.func147 rfl hf ?_ hro
  simp only [Tryz.ntmps147, List.size_toArray, List.length_cons, List.length_nil, Nat.reduceAdd, Nat.reduceSub, Array.replicate_succ, Array.replicate_zero, List.push_toArray, List.append_toArray, List.nil_append, List.cons_append]
  gi_wp2
  go_ret
  exact ⟨rfl, rfl⟩
/-- What the loop over slices.Backward(b) gets. -/
theorem back_stops (F : Fence) (n : Nat) (hf : F.fn 150) (hro : F.round = none) (hn : 1 ≤ n) (Bs b off cap : Nat) (A0 : Option Addr) (xs : List UInt8) (hA0 : xs.length ≠ 0 → A0 = some ⟨b, off, none⟩) (S : Nat → Prop) (hreach : xs.length ≤ 140737488351232) (hcap : xs.length ≤ cap) (w : World) (hBs : Bs < w.heap.size) (hs0 : ¬ S Bs) (hb0 : xs.length ≠ 0 → ¬ S b ∧ b < w.heap.size)
    (hcs : w.cell? ⟨Bs, 0, none⟩ = some (.slice A0 xs.length cap)) (hc : ∀ j x, xs[j]? = some x → w.cell? ⟨b, off + j, none⟩ = some (.int .u8 (x.toNat : Int))) :
    SeqStopsK F n Tryz.prog 150 #[.pointer (some ⟨Bs, 0, none⟩)] (backV xs (N := xs.length)) (Keep S) (fun ys => ys = List.finRange xs.length) (fun pre => pre <+: List.finRange xs.length) xs.length w := fun l J Jx W hW hJ _ hY h0 => by
  have hcs' := (hW.cell (p := ⟨Bs, 0, none⟩) hBs).trans hcs
  exact back1_in F n hf hro hn l Bs b off cap A0 xs hA0 S hreach hcap hY W hcs' hs0 (fun h => (hb0 h).1) (fun j x hj => (hW.cell (p := ⟨b, off + j, none⟩) (hb0 (by have := (List.getElem?_eq_some_iff.1 hj).1; omega)).2).trans (hc j x hj)) h0
end Go.Proofs.YtehfoopefefpnaaGreat
/- Bitwise operations at kinds of integers, of whole numbers. No program in sight. -/
set_option linter.unusedSimpArgs false
set_option linter.unusedVariables false
namespace Go.Proofs.YtehfoopefefpnaaGreat
open Go

theorem wrap_u32N (n : Int) : IntKind.u32.wrap n = n % 4294967296 := by simp [IntKind.wrap, IntKind.bits, IntKind.signed]
theorem bits_or_u32 (a b : Nat) (ha : a < 4294967296) (hb : b < 4294967296) : bits .or .u32 (a : Int) (b : Int) = ((a ||| b : Nat) : Int) := by
  have hx : a ||| b < 2 ^ 32 := Nat.or_lt_two_pow (by omega) (by omega)
  have h1 : (BitVec.ofInt 32 (a : Int)).toNat = a := by
    rw [BitVec.ofInt_natCast, BitVec.toNat_ofNat]; exact Nat.mod_eq_of_lt (by omega)
  have h2 : (BitVec.ofInt 32 (b : Int)).toNat = b := by
    rw [BitVec.ofInt_natCast, BitVec.toNat_ofNat]; exact Nat.mod_eq_of_lt (by omega)
  show IntKind.u32.wrap ((BitVec.ofInt 32 (a : Int) ||| BitVec.ofInt 32 (b : Int)).toNat : Int) = _
  rw [BitVec.toNat_or, h1, h2, wrap_u32N]
  omega
theorem bits_and_u32 (a b : Nat) (ha : a < 4294967296) (hb : b < 4294967296) : bits .and .u32 (a : Int) (b : Int) = ((a &&& b : Nat) : Int) := by
  have hx : a &&& b < 2 ^ 32 := Nat.and_lt_two_pow _ (by omega)
  have h1 : (BitVec.ofInt 32 (a : Int)).toNat = a := by
    rw [BitVec.ofInt_natCast, BitVec.toNat_ofNat]; exact Nat.mod_eq_of_lt (by omega)
  have h2 : (BitVec.ofInt 32 (b : Int)).toNat = b := by
    rw [BitVec.ofInt_natCast, BitVec.toNat_ofNat]; exact Nat.mod_eq_of_lt (by omega)
  show IntKind.u32.wrap ((BitVec.ofInt 32 (a : Int) &&& BitVec.ofInt 32 (b : Int)).toNat : Int) = _
  rw [BitVec.toNat_and, h1, h2, wrap_u32N]
  omega
theorem bits_xor_u32 (a b : Nat) (ha : a < 4294967296) (hb : b < 4294967296) : bits .xor .u32 (a : Int) (b : Int) = ((a ^^^ b : Nat) : Int) := by
  have hx : a ^^^ b < 2 ^ 32 := Nat.xor_lt_two_pow (by omega) (by omega)
  have h1 : (BitVec.ofInt 32 (a : Int)).toNat = a := by
    rw [BitVec.ofInt_natCast, BitVec.toNat_ofNat]; exact Nat.mod_eq_of_lt (by omega)
  have h2 : (BitVec.ofInt 32 (b : Int)).toNat = b := by
    rw [BitVec.ofInt_natCast, BitVec.toNat_ofNat]; exact Nat.mod_eq_of_lt (by omega)
  show IntKind.u32.wrap ((BitVec.ofInt 32 (a : Int) ^^^ BitVec.ofInt 32 (b : Int)).toNat : Int) = _
  rw [BitVec.toNat_xor, h1, h2, wrap_u32N]
  omega
theorem wrap_u8N (n : Int) : IntKind.u8.wrap n = n % 256 := by simp [IntKind.wrap, IntKind.bits, IntKind.signed]
theorem bits_or_u8 (a b : Nat) (ha : a < 256) (hb : b < 256) : bits .or .u8 (a : Int) (b : Int) = ((a ||| b : Nat) : Int) := by
  have hx : a ||| b < 2 ^ 8 := Nat.or_lt_two_pow (by omega) (by omega)
  have h1 : (BitVec.ofInt 8 (a : Int)).toNat = a := by
    rw [BitVec.ofInt_natCast, BitVec.toNat_ofNat]; exact Nat.mod_eq_of_lt (by omega)
  have h2 : (BitVec.ofInt 8 (b : Int)).toNat = b := by
    rw [BitVec.ofInt_natCast, BitVec.toNat_ofNat]; exact Nat.mod_eq_of_lt (by omega)
  show IntKind.u8.wrap ((BitVec.ofInt 8 (a : Int) ||| BitVec.ofInt 8 (b : Int)).toNat : Int) = _
  rw [BitVec.toNat_or, h1, h2, wrap_u8N]
  omega
theorem bits_and_u8 (a b : Nat) (ha : a < 256) (hb : b < 256) : bits .and .u8 (a : Int) (b : Int) = ((a &&& b : Nat) : Int) := by
  have hx : a &&& b < 2 ^ 8 := Nat.and_lt_two_pow _ (by omega)
  have h1 : (BitVec.ofInt 8 (a : Int)).toNat = a := by
    rw [BitVec.ofInt_natCast, BitVec.toNat_ofNat]; exact Nat.mod_eq_of_lt (by omega)
  have h2 : (BitVec.ofInt 8 (b : Int)).toNat = b := by
    rw [BitVec.ofInt_natCast, BitVec.toNat_ofNat]; exact Nat.mod_eq_of_lt (by omega)
  show IntKind.u8.wrap ((BitVec.ofInt 8 (a : Int) &&& BitVec.ofInt 8 (b : Int)).toNat : Int) = _
  rw [BitVec.toNat_and, h1, h2, wrap_u8N]
  omega
theorem bits_xor_u8 (a b : Nat) (ha : a < 256) (hb : b < 256) : bits .xor .u8 (a : Int) (b : Int) = ((a ^^^ b : Nat) : Int) := by
  have hx : a ^^^ b < 2 ^ 8 := Nat.xor_lt_two_pow (by omega) (by omega)
  have h1 : (BitVec.ofInt 8 (a : Int)).toNat = a := by
    rw [BitVec.ofInt_natCast, BitVec.toNat_ofNat]; exact Nat.mod_eq_of_lt (by omega)
  have h2 : (BitVec.ofInt 8 (b : Int)).toNat = b := by
    rw [BitVec.ofInt_natCast, BitVec.toNat_ofNat]; exact Nat.mod_eq_of_lt (by omega)
  show IntKind.u8.wrap ((BitVec.ofInt 8 (a : Int) ^^^ BitVec.ofInt 8 (b : Int)).toNat : Int) = _
  rw [BitVec.toNat_xor, h1, h2, wrap_u8N]
  omega
theorem and7_i64 (n : Nat) (h : n < 4294967296) : bits .and .i64 (n : Int) 7 = ((n % 8 : Nat) : Int) := by
  have h1 : (BitVec.ofInt 64 (n : Int)).toNat = n := by
    rw [BitVec.ofInt_natCast, BitVec.toNat_ofNat]; exact Nat.mod_eq_of_lt (by omega)
  have h2 : (BitVec.ofInt 64 7).toNat = 7 := by decide
  have h3 : n &&& 7 = n % 8 := Nat.and_two_pow_sub_one_eq_mod n 3
  show IntKind.i64.wrap ((BitVec.ofInt 64 (n : Int) &&& BitVec.ofInt 64 7).toNat : Int) = _
  rw [BitVec.toNat_and, h1, h2, h3, IntKind.wrap_i64]
  omega
theorem or_low (n y : Nat) (hy : y < 256) : (n * 256 % 4294967296) ||| y = (n * 256 + y) % 4294967296 := by
  have h1 : n * 256 % 4294967296 = 2 ^ 8 * (n % 16777216) := by omega
  rw [h1, ← Nat.two_pow_add_eq_or_of_lt (by omega)]
  omega
end Go.Proofs.YtehfoopefefpnaaGreat
/- Package field: get. -/
set_option linter.unusedSimpArgs false
set_option linter.unusedVariables false
namespace Go.Proofs.YtehfoopefefpnaaGreat
open Go.RowKit Go.Shelf

attribute [local go_sem] Oper.semAt_some
theorem keep_putObj {W : World} {l : Nat} {S : Nat → Prop} (o' : Obj) (h : S l) : Keep S W (W.putObj l o') :=
  (Keep.of_grown (grownBy_putObj' W l o')).mono (fun i _ e => by injection e with e; exact e ▸ h)
theorem boxed_ownK {β : Type} (B : Nat) (t : TypeId) (v : β → Value) : Own (fun (s : β) W => Boxed W B t (v s)) := by
  intro s X Y row hv hg hrow
  refine hv.kept hg (fun e' => ?_)
  obtain ⟨o, ho, hc⟩ := hrow B e'.symm
  rw [show X.heap[B]? = _ from hv] at ho; cases ho; cases hc
/-- A byte more of a number. -/
def gacc (xs : List UInt8) (n : Nat) (x : Fin xs.length) : Nat := (n * 256 + (xs.getD (xs.length - 1 - x.val) 0).toNat) % 4294967296
/-- Between two rounds: what is read so far. -/
def GI (xs : List UInt8) (w : World) (pre : List (Fin xs.length)) (W : World) : Prop := Boxed W w.heap.size 176 (.int .u32 ((pre.foldl (gacc xs) 0 : Nat) : Int)) ∧ Below w.heap.size w W
theorem GI_own (xs : List UInt8) (w : World) (B : Nat) (hB : w.heap.size ≤ B) : OwnFrom B (GI xs w) :=
  OwnFrom.and (Own.from (boxed_ownK _ _ (fun pre : List (Fin xs.length) => .int .u32 ((pre.foldl (gacc xs) 0 : Nat) : Int))) _) (ownFrom_below (Nat.le_refl _) hB)
theorem unle_drop {xs : List UInt8} {j : Nat} {x : UInt8} (h : xs[j]? = some x) : unle (xs.drop j) = x.toNat + 256 * unle (xs.drop (j + 1)) := by
  obtain ⟨hj, rfl⟩ := List.getElem?_eq_some_iff.1 h
  rw [List.drop_eq_getElem_cons hj]
  rfl
theorem gacc_lt (xs : List UInt8) (pre : List (Fin xs.length)) : pre.foldl (gacc xs) 0 < 4294967296 := by
  have : ∀ (pre : List (Fin xs.length)) (n : Nat), n < 4294967296 → pre.foldl (gacc xs) n < 4294967296 := by
    intro pre
    induction pre with
    | nil => intro n h; exact h
    | cons x pre ih => intro n _; exact ih _ (Nat.mod_lt _ (by decide))
  exact this pre 0 (by decide)
theorem gacc_all (xs : List UInt8) (hl : xs.length ≤ 4) : (List.finRange xs.length).foldl (gacc xs) 0 = unle xs := by
  have : ∀ k, k ≤ xs.length → ((List.finRange xs.length).take k).foldl (gacc xs) 0 = unle (xs.drop (xs.length - k)) := by
    intro k
    induction k with
    | zero => intro _; simp [unle]
    | succ k ih =>
      intro hk
      have hlt : k < xs.length := by omega
      obtain ⟨x, hx⟩ : ∃ x, xs[xs.length - (k + 1)]? = some x := ⟨xs[xs.length - (k + 1)], List.getElem?_eq_getElem (by omega)⟩
      have hg : xs.getD (xs.length - 1 - k) 0 = x := by rw [List.getD_eq_getElem?_getD, show xs.length - 1 - k = xs.length - (k + 1) by omega, hx]; rfl
      have hb := unle_lt (xs.drop (xs.length - k))
      rw [List.length_drop, show xs.length - (xs.length - k) = k by omega] at hb
      have h3 : 256 ^ k ≤ 256 ^ 3 := Nat.pow_le_pow_right (by decide) (by omega)
      have hxl := x.toNat_lt
      rw [finRange_succ_take hlt, List.foldl_append, List.foldl_cons, List.foldl_nil, ih (by omega), unle_drop hx, show xs.length - (k + 1) + 1 = xs.length - k by omega]
      unfold gacc
      simp only
      rw [hg, Nat.mod_eq_of_lt (by omega)]
      omega
  have h := this xs.length (Nat.le_refl _)
  rw [List.take_of_length_le (by simp), Nat.sub_self, List.drop_zero] at h
  exact h
set_option maxRecDepth 100000 in
set_option maxHeartbeats 4000000 in
theorem get_in (xs : List UInt8) (A0 : Option Addr) (b off cap : Nat) (hA0 : xs.length ≠ 0 → A0 = some ⟨b, off, none⟩) (w : World) (hl : xs.length ≤ 4) (hcap : xs.length ≤ cap) (hbl : xs.length ≠ 0 → b < w.heap.size) (hc : ∀ j x, xs[j]? = some x → w.cell? ⟨b, off + j, none⟩ = some (.int .u8 (x.toNat : Int))) :
    CallsIn Fence.wide 8 Tryz.prog 130 #[.slice A0 xs.length cap] w fun e w' => e = .returned (.int .u32 ((unle xs : Nat) : Int)) ∧ Below w.heap.size w w' := by
  have hro : Fence.wide.round = none := rfl
  obtain ⟨w2, hw2⟩ : ∃ w2, w2 = (w.alloc (.cells #[.int .u32 0] 176)).alloc (.cells #[.slice A0 xs.length cap] 22) := ⟨_, rfl⟩
  have x1 : Boxed w2 w.heap.size 176 (.int .u32 0) := by rw [hw2]; exact (Boxed.new w _ _).alloc _
  have x2 : Boxed w2 (w.heap.size + 1) 22 (.slice A0 xs.length cap) := by
    have := Boxed.new (w.alloc (.cells #[.int .u32 0] 176)) 22 (.slice A0 xs.length cap)
    rw [← hw2] at this
    simpa using this
  have hb2 : Below w.heap.size w w2 := by rw [hw2]; exact ((Below.refl _ w).alloc (Nat.le_refl _) _).alloc (by simp) _
  have hz2 : w2.heap.size = w.heap.size + 1 + 1 := by rw [hw2]; simp
  have hc2 : ∀ j x, xs[j]? = some x → w2.cell? ⟨b, off + j, none⟩ = some (.int .u8 (x.toNat : Int)) := fun j x hj => (Keep.of_below (S := fun _ => False) hb2).cell (hc j x hj) id
  have HW := Lib.hid hw2
  have HB2 := Lib.hid hb2
  have HZ := Lib.hid hz2
  have HC := Lib.hid hc2
  clear hw2 hb2 hz2 hc hc2
  refine callsIn_of_wp_marks Tryz.func130 rfl trivial ?_ hro
  simp only [Tryz.ntmps130, List.size_toArray, List.length_cons, List.length_nil, Nat.reduceAdd, Nat.reduceSub, Array.replicate_succ, Array.replicate_zero, List.push_toArray, List.append_toArray, List.nil_append, List.cons_append]
  gi_wp2_with (refine ⟨trivial, ?_⟩; gi_at_call 147; refine (back_in Fence.wide (8 - 1) trivial rfl _ _ _ _).mono ?_; rintro e w' ⟨rfl, rfl⟩)
  rw [← HW.out]
  refine wpIn_rangeFunc_ownG hro (by omega) (gf := 150) (lb := #[.pointer (some ⟨w.heap.size + 1, 0, none⟩)]) rfl trivial (enters_of Tryz.func150 (by kernel_rfl) rfl)
    (back_stops Fence.wide (8 - 1) trivial rfl (by omega) (w.heap.size + 1) b off cap A0 xs hA0 (fun k => k = w.heap.size ∨ w.heap.size + 2 ≤ k) (by omega) hcap w2 (by have := HZ.out; omega) (by omega) (fun h => ⟨by have := hbl h; omega, by have := HZ.out; have := hbl h; omega⟩) x2.cell HC.out)
    (fun h k => h.trans k (fun _ _ h => h)) (fun W l o o' hl _ _ _ => keep_putObj o' (.inr (by have := HZ.out; omega))) (Below.refl _ _) (fun _ => rfl)
    (GI xs w) (fun _ _ _ => False) (GI_own xs w _ (by have := HZ.out; omega)) (fun c => fun _ _ _ _ h => h.elim) ?h0
    (fun x => { tmps := #[.slice A0 xs.length cap, undef, .int .u32 0, .pointer (some ⟨w.heap.size, 0, none⟩), undef, .int .u8 (((xs.getD (xs.length - 1 - x.val) 0).toNat : Nat) : Int), .slice A0 xs.length cap, .func (.func 150) #[] #[.pointer (some ⟨w.heap.size + 1, 0, none⟩)],
      .int .i64 ((xs.length - 1 - x.val : Nat) : Int), .int .u8 (((xs.getD (xs.length - 1 - x.val) 0).toNat : Nat) : Int), undef, undef, undef, undef, undef, undef], defers := [] }) ?assign ?body ?done ?stop
  case h0 => exact ⟨x1, HB2.out⟩
  case assign =>
    intro l x W K hK
    unfold backV
    gi_wp2
    exact hK
  case body =>
    rintro l pre x W ⟨hv, hB⟩ hlt
    have hvl := gacc_lt xs pre
    obtain ⟨n, hn⟩ : ∃ n, n = pre.foldl (gacc xs) 0 := ⟨_, rfl⟩
    rw [← hn] at hv hvl
    have HN := Lib.hid hn
    obtain ⟨y, hy⟩ : ∃ y, y = xs.getD (xs.length - 1 - x.val) 0 := ⟨_, rfl⟩
    rw [← hy]
    have HY := Lib.hid hy
    have hyl := y.toNat_lt
    have hcell := hv.cell
    have HV := Lib.hid hv
    have HB := Lib.hid hB
    have hbit : bits .or .u32 ((n : Int) * 256 % 4294967296) (y.toNat : Int) = ((gacc xs n x : Nat) : Int) := by
      have := bits_or_u32 (n * 256 % 4294967296) y.toNat (Nat.mod_lt _ (by decide)) (by omega)
      rw [or_low n y.toNat hyl] at this
      unfold gacc
      rw [← hy, ← this]
      congr 1
    have hfr := blk_frees hv 0
    have hgl : gacc xs n x < 4294967296 := Nat.mod_lt _ (by decide)
    obtain ⟨m, hm⟩ : ∃ m, m = gacc xs n x := ⟨_, rfl⟩
    rw [← hm] at hbit hgl
    have HM := Lib.hid hm
    clear hv hB hn hy hm x1 x2
    gi_wp2
    have hset := HV.out.set (.int .u32 (m : Int))
    have hks : Keep (fun k => k = w.heap.size ∨ w.heap.size + 2 ≤ k) W (W.setCell ⟨w.heap.size, 0, none⟩ (.int .u32 (m : Int))) := (Keep.refl _ W).setCell (fun _ => .inl rfl) _
    refine ⟨(KeepsOthers.setCell _ _ _).from _, hks, ?_, HB.out.setCell (p := ⟨w.heap.size, 0, none⟩) (Nat.le_refl _) _⟩
    rw [List.foldl_append, List.foldl_cons, List.foldl_nil, ← HN.out, ← HM.out]
    exact hset
  case done =>
    rintro D ys W hD rfl ⟨hv, hB⟩ hK
    rw [gacc_all xs hl] at hv
    have hcell := hv.cell
    have HV := Lib.hid hv
    have HB := Lib.hid hB
    have HK := Lib.hid hK
    have HD := Lib.hid (show w.heap.size ≤ D by have := HZ.out; omega)
    clear hv hB hK x1 x2
    gi_wp2
    refine ⟨by simp, .inl ⟨_, _, rfl, run_takeDeferred HK.out, ?_⟩⟩
    refine ⟨.int .u32 ((unle xs : Nat) : Int), ?_, rfl, HB.out.trans (belowK_b (w := w) (Nat.le_refl _) W D _ _ HD.out HK.out rfl rfl)⟩
    simp [results, Tryz.f130, go_sem]
  case stop =>
    rintro D c pre W hD _ h _
    exact h.elim
theorem bv_at {w : World} {A : Option Addr} {c n k : Nat} {l : List UInt8} (h : Sl w 1 (.slice A n c) n (bv l)) {e : UInt8} (hl : l[k]? = some e) :
    ∃ b o, A = some ⟨b, o, none⟩ ∧ b < w.heap.size ∧ w.cell? ⟨b, o + k, none⟩ = some (.int .u8 (e.toNat : Int)) := by
  obtain ⟨A', c', e', hr, _⟩ := h
  injection e' with e1 _ e2
  subst e1
  have q0 : (bv l)[k]? = some (.int .u8 (e.toNat : Int)) := by simp [bv, hl]
  rcases hr with h0 | ⟨ad, rfl, hc⟩
  · rw [h0] at q0; simp at q0
  · have h0 := hc _ _ q0
    obtain ⟨b, o, spot⟩ := ad
    obtain ⟨e0, he0⟩ : ∃ e0, l[0]? = some e0 := ⟨l[0]'(by have := (List.getElem?_eq_some_iff.1 hl).1; omega), List.getElem?_eq_getElem _⟩
    have hz := hc 0 (.int .u8 (e0.toNat : Int)) (by simp [bv, he0])
    have es : spot = none := by
      have : (⟨b, o, spot⟩ : Addr).add 0 = ⟨b, o, spot⟩ := by unfold Addr.add; simp
      rw [this] at hz
      exact World.cell?_spot hz
    subst es
    rw [Addr.add_lit] at h0
    exact ⟨b, o, rfl, World.block_lt_of_cell? w _ h0, h0⟩
/-- The number that bytes are, at most four. -/
theorem get_walk (xs : List UInt8) (A : Option Addr) (cap : Nat) (w : World) (h : Sl w 1 (.slice A xs.length cap) xs.length (bv xs)) (hl : xs.length ≤ 4) :
    Calls Tryz.prog 130 #[.slice A xs.length cap] w fun e w' => e = .returned (.int .u32 ((unle xs : Nat) : Int)) ∧ Below w.heap.size w w' := by
  have hcap : xs.length ≤ cap := by obtain ⟨_, _, e, _, _, hc, _⟩ := h; injection e with _ _ e; subst e; exact hc
  by_cases h0 : xs.length = 0
  · exact callsIn_wide.1 (get_in xs A 0 0 cap (fun h => absurd h0 h) w hl hcap (fun h => absurd h0 h) (fun j x hj => by have := (List.getElem?_eq_some_iff.1 hj).1; omega))
  · obtain ⟨x, hx⟩ : ∃ x, xs[0]? = some x := ⟨xs[0], List.getElem?_eq_getElem (by omega)⟩
    obtain ⟨b, o, rfl, hb, _⟩ := bv_at h hx
    refine callsIn_wide.1 (get_in xs _ b o cap (fun _ => rfl) w hl hcap (fun _ => hb) (fun j x hj => ?_))
    obtain ⟨b', o', e, _, hc⟩ := bv_at h hj
    injection e with e
    injection e with e1 e2
    subst e1 e2
    exact hc
end Go.Proofs.YtehfoopefefpnaaGreat
/- Package field: the check sum. -/
set_option linter.unusedSimpArgs false
set_option linter.unusedVariables false
namespace Go.Proofs.YtehfoopefefpnaaGreat
open Go.RowKit

attribute [local go_sem ↓] Go.wp_at_zero Go.wp_at_succ
def bitN (r : Nat) : Nat := (r / 2) ^^^ (3988292384 &&& ((4294967296 - r % 2) % 4294967296))
def itN : Nat → Nat → Nat
  | 0, r => r
  | k + 1, r => bitN (itN k r)
def byteN (r : Nat) (x : UInt8) : Nat := itN 8 (r ^^^ x.toNat)
def accN (l : List UInt8) : Nat := l.foldl byteN 4294967295
def sumP (l : List UInt8) : Nat := 4294967295 ^^^ accN l
theorem bitN_lt (r : Nat) (h : r < 4294967296) : bitN r < 4294967296 := by
  unfold bitN
  exact Nat.xor_lt_two_pow (n := 32) (by omega) (Nat.lt_of_le_of_lt Nat.and_le_left (by decide))
theorem itN_lt (k r : Nat) (h : r < 4294967296) : itN k r < 4294967296 := by
  induction k with
  | zero => exact h
  | succ k ih => exact bitN_lt _ ih
theorem xorN_lt (r : Nat) (x : UInt8) (h : r < 4294967296) : r ^^^ x.toNat < 4294967296 := Nat.xor_lt_two_pow (n := 32) (by omega) (by have := x.toNat_lt; omega)
theorem byteN_lt (r : Nat) (x : UInt8) (h : r < 4294967296) : byteN r x < 4294967296 := itN_lt 8 _ (xorN_lt r x h)
theorem accN_lt (l : List UInt8) : accN l < 4294967296 := by
  have : ∀ (l : List UInt8) (r : Nat), r < 4294967296 → l.foldl byteN r < 4294967296 := by
    intro l
    induction l with
    | nil => intro r h; exact h
    | cons x l ih => intro r h; exact ih _ (byteN_lt r x h)
  exact this l _ (by decide)
theorem sumP_lt (l : List UInt8) : sumP l < 4294967296 := Nat.xor_lt_two_pow (n := 32) (by decide) (accN_lt l)
theorem accN_take {l : List UInt8} {k : Nat} {x : UInt8} (h : l[k]? = some x) : accN (l.take (k + 1)) = byteN (accN (l.take k)) x := by
  rw [List.take_add_one, h]
  simp [accN]
theorem bit_eq (y : Nat) (h : y < 4294967296) : bits .xor .u32 ((y : Int) / 2) (bits .and .u32 3988292384 (-bits .and .u32 (y : Int) 1 % 4294967296)) = ((bitN y : Nat) : Int) := by
  have h1 : bits .and .u32 (y : Int) 1 = ((y % 2 : Nat) : Int) := by
    have := bits_and_u32 y 1 h (by decide)
    rw [Nat.and_one_is_mod] at this
    exact this
  have h2 : -((y % 2 : Nat) : Int) % 4294967296 = (((4294967296 - y % 2) % 4294967296 : Nat) : Int) := by omega
  have h3 : bits .and .u32 3988292384 ((((4294967296 - y % 2) % 4294967296 : Nat)) : Int) = ((3988292384 &&& ((4294967296 - y % 2) % 4294967296) : Nat) : Int) := bits_and_u32 3988292384 _ (by decide) (Nat.mod_lt _ (by decide))
  rw [h1, h2, h3, show (y : Int) / 2 = ((y / 2 : Nat) : Int) by omega, bits_xor_u32 _ _ (by omega) (Nat.lt_of_le_of_lt Nat.and_le_left (by decide))]
  rfl
def SUI (l : List UInt8) (v3 v8 : Value) : Prop := ∃ k : Nat, k ≤ l.length ∧ v8 = .int .i64 (k : Int) ∧ v3 = .int .u32 ((accN (l.take k) : Nat) : Int)
def SBI (r : Nat) (v3 v16 : Value) : Prop := ∃ k : Nat, k ≤ 8 ∧ v16 = .int .i64 (k : Int) ∧ v3 = .int .u32 ((itN k r : Nat) : Int)
set_option maxHeartbeats 2000000 in
theorem sum_walk (l : List UInt8) (A : Option Addr) (c : Nat) (w : World) (h : Sl w 1 (.slice A l.length c) l.length (bv l)) (hl : l.length ≤ 1000000000) :
    Calls Tryz.prog 120 #[.slice A l.length c] w fun e w' => e = .returned (.int .u32 ((sumP l : Nat) : Int)) ∧ w' = w := by
  have H := Lib.hid h
  clear h
  go_enter Tryz.func120, Tryz.ntmps120
  go_wp2_with fail
  go_loop [3, 8] (fun v3 v8 => SUI l v3 v8) (fun _ v => l.length - (intOf v).toNat)
  case atStart => exact ⟨0, Nat.zero_le _, rfl, rfl⟩
  case round =>
    obtain ⟨k, hk, rfl, rfl⟩ := hrel
    have hr := accN_lt (l.take k)
    obtain ⟨r, hrr⟩ : ∃ r, r = accN (l.take k) := ⟨_, rfl⟩
    rw [← hrr] at hr ⊢
    by_cases hlt : k < l.length
    · obtain ⟨x, hx⟩ : ∃ x, l[k]? = some x := ⟨l[k], List.getElem?_eq_getElem hlt⟩
      obtain ⟨b, o, rfl, _, hc⟩ := bv_at H.out hx
      have hxl := x.toNat_lt
      have g1 : (k : Int) < (l.length : Int) := by omega
      have g0 : (0 : Int) ≤ (k : Int) := by omega
      have g2 : IntKind.i64.wrap ((k : Int) + 1) = (k : Int) + 1 := IntWalk.i64_in _ (by omega)
      have hxo : bits .xor .u32 (r : Int) (x.toNat : Int) = ((r ^^^ x.toNat : Nat) : Int) := bits_xor_u32 r x.toNat hr (by omega)
      have hzl := xorN_lt r x hr
      obtain ⟨z, hz⟩ : ∃ z, z = r ^^^ x.toNat := ⟨_, rfl⟩
      rw [← hz] at hxo hzl
      have HNX := Lib.hid (accN_take hx)
      have HRR := Lib.hid hrr
      have HZ := Lib.hid hz
      clear hx hrr hz
      go_wp2_with fail
      go_loop [3, 16] (fun v3 v16 => SBI z v3 v16) (fun _ v => 8 - (intOf v).toNat)
      case atStart => exact ⟨0, Nat.zero_le _, rfl, rfl⟩
      case round =>
        obtain ⟨j, hj, rfl, rfl⟩ := hrel
        have hy := itN_lt j z hzl
        have hin : itN (j + 1) z = bitN (itN j z) := rfl
        obtain ⟨y, hyy⟩ : ∃ y, y = itN j z := ⟨_, rfl⟩
        rw [← hyy] at hy hin ⊢
        by_cases hlt8 : j < 8
        · have q1 : (j : Int) < 8 := by omega
          have q2 : IntKind.i64.wrap ((j : Int) + 1) = (j : Int) + 1 := IntWalk.i64_in _ (by omega)
          have HIN := Lib.hid hin
          clear hyy hin
          have HBE := Lib.hid (bit_eq y hy)
          go_wp2
          rw [HBE.out, ← HIN.out]
          exact ⟨⟨j + 1, hlt8, by rw [Int.natCast_add]; rfl, rfl⟩, by simp only [intOf]; omega⟩
        · obtain rfl : j = 8 := by omega
          have q1 : ¬ ((8 : Nat) : Int) < 8 := by omega
          have HYE : Hid (y = accN (l.take (k + 1))) := Lib.hid (by rw [HNX.out, hyy, HZ.out, HRR.out]; rfl)
          clear hyy hin
          go_wp2_with fail
          rw [HYE.out]
          refine ⟨⟨k + 1, hlt, by rw [Int.natCast_add]; rfl, rfl⟩, by simp only [intOf]; omega⟩
    · obtain rfl : k = l.length := by omega
      have g1 : ¬ (l.length : Int) < (l.length : Int) := by omega
      have HRR : Hid (r = accN l) := Lib.hid (by rw [hrr, List.take_length])
      clear hrr
      go_wp2
      go_ret
      have he : bits .xor .u32 IntKind.u32.max (r : Int) = ((sumP l : Nat) : Int) := by
        rw [show IntKind.u32.max = ((4294967295 : Nat) : Int) by decide, bits_xor_u32 4294967295 r (by decide) hr, HRR.out]
        rfl
      exact ⟨congrArg (fun n => Ending.returned (.int .u32 n)) he, rfl⟩
/-- Bytes with their sum behind. -/
def sealP (b : List UInt8) : List UInt8 := b ++ le (sumP b) 4
theorem sealP_len (b : List UInt8) : (sealP b).length = b.length + 4 := by unfold sealP; rw [List.length_append, le_len]
theorem sealed_walk (b : List UInt8) (A : Option Addr) (c : Nat) (w : World) (h : Sl w 1 (.slice A b.length c) b.length (bv b)) (hb : b.length ≤ 100000000) :
    Calls Tryz.prog 75 #[.slice A b.length c] w fun e w' => ∃ A' d, d = sealP b ∧ e = .returned (.slice A' d.length d.length) ∧ NB w.heap.size w' A' d.length d ∧ Below w.heap.size w w' := by
  have HS := Lib.hid (sum_walk b A c w h (by omega))
  have HP := Lib.hid (put_walk b A c (sumP b) 4 w h hb (sumP_lt b) (by omega))
  obtain ⟨z, hz⟩ : ∃ z, z = sumP b := ⟨_, rfl⟩
  rw [← hz] at HS HP
  have HZ := Lib.hid hz
  clear h hz
  go_enter Tryz.func75, Tryz.ntmps75
  go_wp2_with fail
  refine HS.out.mono ?_
  rintro e W ⟨rfl, hWW⟩
  have hWW' := hWW.symm
  subst hWW'
  clear hWW
  go_wp2_with fail
  refine HP.out.mono ?_
  rintro e w1 ⟨A1, d, hd, rfl, ho, hbe⟩
  have HD := Lib.hid hd
  clear hd
  go_wp2
  go_ret
  exact ⟨A1, d, by rw [HD.out, HZ.out]; rfl, rfl, ho, hbe⟩
end Go.Proofs.YtehfoopefefpnaaGreat
/- Package field: fields, read one by one. -/
set_option linter.unusedSimpArgs false
set_option linter.unusedVariables false
namespace Go.Proofs.YtehfoopefefpnaaGreat
open Go.RowKit

attribute [local go_sem ↓] Go.wp_at_zero Go.wp_at_succ
/-- A form in block k: what is left of it. -/
structure FO (k B : Nat) (w : World) (d : List UInt8) : Prop where
  ex : ∃ A c, w.heap[k]? = some (.cells #[.slice A d.length c, .bool false] 194 (0, 0)) ∧ NB B w A c d
theorem NB.drop {B g o c : Nat} {w : World} {d : List UInt8} (h : NB B w (some ⟨g, o, none⟩) c d) (n : Nat) (hn : n ≤ d.length) : NB B w (some ⟨g, o + n, none⟩) (c - n) (d.drop n) := by
  obtain ⟨A', c', e, hr, _, hc, hl⟩ := h.sl
  injection e with e1 _ e2
  subst e1 e2
  refine ⟨⟨_, _, by rw [List.length_drop], ?_, (fun e => by cases e), by rw [List.length_drop]; omega, by rw [bv_length, Nat.mul_one]⟩, fun j e => h.fresh j e⟩
  have := hr.drop n
  simpa [bv] using this
theorem NB.nil' {B g o c : Nat} {w : World} {d : List UInt8} (h : NB B w (some ⟨g, o, none⟩) c d) (c' : Nat) : NB B w (some ⟨g, o, none⟩) c' [] :=
  ⟨⟨_, c', rfl, .inl rfl, (fun e => by cases e), Nat.zero_le _, rfl⟩, h.fresh⟩
theorem NB.take {B g o c : Nat} {w : World} {d : List UInt8} (h : NB B w (some ⟨g, o, none⟩) c d) (n : Nat) (hn : n ≤ d.length) : NB B w (some ⟨g, o, none⟩) c (d.take n) := by
  obtain ⟨A', c', e, hr, _, hc, hl⟩ := h.sl
  injection e with e1 _ e2
  subst e1 e2
  have hl2 : (d.take n).length = n := by rw [List.length_take]; omega
  refine ⟨⟨_, _, by rw [hl2], ?_, (fun e => by cases e), by rw [hl2]; omega, by rw [bv_length, Nat.mul_one]⟩, fun j e => h.fresh j e⟩
  have := hr.take n
  simpa [bv, List.map_take] using this
theorem NB.some {B c : Nat} {w : World} {A : Option Addr} {d : List UInt8} (h : NB B w A c d) (h0 : 0 < d.length) : ∃ g o, A = Option.some ⟨g, o, Option.none⟩ := by
  obtain ⟨x, hx⟩ : ∃ x, d[0]? = Option.some x := ⟨d[0], List.getElem?_eq_getElem h0⟩
  obtain ⟨b, o, e, _⟩ := bv_at h.sl hx
  exact ⟨b, o, e⟩
theorem NB.le {B c : Nat} {w : World} {A : Option Addr} {d : List UInt8} (h : NB B w A c d) : d.length ≤ c := by
  obtain ⟨_, _, e, _, _, hc, _⟩ := h.sl
  injection e with _ _ e
  subst e
  exact hc
theorem read_walk (d : List UInt8) (A : Option Addr) (c : Nat) (w : World) (h : Sl w 1 (.slice A d.length c) d.length (bv d)) (hn : d.length ≤ 1000000000) :
    Calls Tryz.prog 94 #[.slice A d.length c] w fun e w' => ∃ k, e = .returned (.pointer (some ⟨k, 0, none⟩)) ∧ w.heap.size ≤ k ∧ FO k w.heap.size w' d ∧ Below w.heap.size w w' := by
  have HC := Lib.hid (clone_walk d A c w h hn)
  clear h
  go_enter Tryz.func94, Tryz.ntmps94
  go_wp2_with fail
  refine HC.out.mono ?_
  rintro e w1 ⟨A1, c1, rfl, ho, hbe⟩
  have HO := Lib.hid ho
  have HB := Lib.hid hbe
  clear ho hbe
  go_wp2
  go_ret
  have hb2 : Below w1.heap.size w1 (w1.alloc (.cells #[.slice A1 d.length c1, .bool false] 194)) := (Below.refl _ w1).alloc (Nat.le_refl _) _
  exact ⟨w1.heap.size, rfl, HB.out.size, ⟨A1, c1, blk_new w1 _, HO.out.nb.below hb2⟩, HB.out.trans (hb2.mono HB.out.size)⟩
theorem take_end {d : List UInt8} {k B n g o c c' : Nat} {A' : Option Addr} {w W : World} (hn : n ≤ d.length) (h : NB B w (some ⟨g, o, none⟩) c d) (hk : Keep (fun j => j = k) w W) (hbw : w.heap[k]? = some (.cells #[.slice (some ⟨g, o, none⟩) d.length c, .bool false] 194 (0, 0))) (hb : W.heap[k]? = some (.cells #[.slice (some ⟨g, o, none⟩) d.length c, .bool false] 194 (0, 0))) (hr : NB B w A' c' (d.drop n)) :
    NB B (W.setCell ⟨k, 0, none⟩ (.slice A' (d.length - n) c')) (some ⟨g, o, none⟩) c (d.take n) ∧ FO k B (W.setCell ⟨k, 0, none⟩ (.slice A' (d.length - n) c')) (d.drop n) ∧ Keep (fun j => j = k) w (W.setCell ⟨k, 0, none⟩ (.slice A' (d.length - n) c')) := by
  have ks := hk.trans ((Keep.refl (fun j => j = k) W).setCell (p := ⟨k, 0, none⟩) (fun _ => rfl) (.slice A' (d.length - n) c')) (fun _ _ h => h)
  have hw : ∀ (A : Option Addr) (c : Nat) (d : List UInt8), NB B w A c d → ∀ j, A.map (·.block) = some j → ¬ j = k := fun A c d h j e => by
    obtain ⟨_, cs, fr, hj⟩ := h.fresh j e
    exact blk_ne hj hbw (by decide)
  refine ⟨(h.take n hn).keep ks (hw _ _ _ h), ⟨A', c', ?_, hr.keep ks (hw _ _ _ hr)⟩, ks⟩
  have := blk_set (j := 0) hb (.slice A' (d.length - n) c')
  rw [List.length_drop]
  simpa using this
set_option maxRecDepth 100000 in
set_option maxHeartbeats 4000000 in
theorem take_walk (d : List UInt8) (k B n : Nat) (w : World) (h : FO k B w d) (hn : n ≤ d.length) (h0 : 0 < n) (hd : d.length ≤ 1000000000) :
    Calls Tryz.prog 131 #[.pointer (some ⟨k, 0, none⟩), .int .i64 (n : Int)] w fun e w' => ∃ A c, e = .returned (.slice A (d.take n).length c) ∧ NB B w' A c (d.take n) ∧ FO k B w' (d.drop n) ∧ Keep (fun j => j = k) w w' := by
  obtain ⟨⟨A, c, hb, hnb⟩⟩ := h
  obtain ⟨g, o, rfl⟩ := hnb.some (by omega)
  have hcap := hnb.le
  have c0 : w.cell? ⟨k, 0, none⟩ = some (.slice (some ⟨g, o, none⟩) d.length c) := (blk_cells hb 0).trans rfl
  have c1 : w.cell? ⟨k, 1, none⟩ = some (.bool false) := (blk_cells hb 1).trans rfl
  have f0 := blk_frees hb 0
  have i0 : ¬ (d.length : Int) < (n : Int) := by omega
  have i1 : (0 : Int) ≤ (n : Int) := by omega
  have i2 : (n : Int) ≤ (c : Int) := by omega
  have i3 : (n : Int) ≤ (d.length : Int) := by omega
  have i4 : (d.length : Int) ≤ (c : Int) := by omega
  have HB := Lib.hid hb
  have HN := Lib.hid hnb
  clear hb hnb
  go_enter Tryz.func131, Tryz.ntmps131
  go_wp2_with fail
  go_step3
  go_wp2_with fail
  have c0r : World.cell? { heap := w.heap, tape := w.tape, drawn := w.drawn + 1, os := w.os, output := w.output } ⟨k, 0, none⟩ = some (.slice (some ⟨g, o, none⟩) d.length c) := c0
  have hlt : (d.take n).length = n := by rw [List.length_take]; omega
  by_cases hcn : c = n
  · subst hcn
    have hdl : d.length = c := by omega
    have HLT := Lib.hid hlt
    have HDL := Lib.hid hdl
    clear hlt hdl
    go_still_tail 16, (by kernel_rfl)
    change wpList _ _ _ _ _ w.drew
    obtain ⟨W, hW⟩ : ∃ W : World, W = w.drew := ⟨_, rfl⟩
    rw [← hW]
    have hkW : Keep (fun j => j = k) w W := by rw [hW]; exact (Keep.refl _ w).drew
    have hbW : W.heap[k]? = some (.cells #[.slice (some ⟨g, o, none⟩) d.length c, .bool false] 194 (0, 0)) := by rw [hW]; exact HB.out
    have c0W : W.cell? ⟨k, 0, none⟩ = some (.slice (some ⟨g, o, none⟩) d.length c) := (blk_cells hbW 0).trans rfl
    have f0W := blk_frees hbW 0
    have HKW := Lib.hid hkW
    have HBW := Lib.hid hbW
    clear hkW hbW hW c0 c0r c1 f0
    have HR := Lib.hid (take_end (n := c) hn HN.out HKW.out HB.out HBW.out (A' := some ⟨g, o, none⟩) (c' := 0) (by rw [List.drop_of_length_le (by omega)]; exact HN.out.nil' 0))
    rw [HDL.out, Nat.sub_self] at HR
    go_wp2
    rw [Exit.noGoto_ret]
    go_ret
    exact ⟨some ⟨g, o, none⟩, c, by rw [HLT.out]; rfl, HR.out.1, HR.out.2.1, HR.out.2.2⟩
  · have z1 : (d.length : Int) - (n : Int) = ((d.length - n : Nat) : Int) := by omega
    have HLT := Lib.hid hlt
    clear hlt
    go_still_tail 16, (by kernel_rfl)
    change wpList _ _ _ _ _ w.drew
    obtain ⟨W, hW⟩ : ∃ W : World, W = w.drew := ⟨_, rfl⟩
    rw [← hW]
    have hkW : Keep (fun j => j = k) w W := by rw [hW]; exact (Keep.refl _ w).drew
    have hbW : W.heap[k]? = some (.cells #[.slice (some ⟨g, o, none⟩) d.length c, .bool false] 194 (0, 0)) := by rw [hW]; exact HB.out
    have c0W : W.cell? ⟨k, 0, none⟩ = some (.slice (some ⟨g, o, none⟩) d.length c) := (blk_cells hbW 0).trans rfl
    have f0W := blk_frees hbW 0
    have HKW := Lib.hid hkW
    have HBW := Lib.hid hbW
    clear hkW hbW hW c0 c0r c1 f0
    have HR := Lib.hid (take_end (n := n) hn HN.out HKW.out HB.out HBW.out (HN.out.drop n hn))
    go_wp2
    rw [Exit.noGoto_ret]
    go_ret
    exact ⟨some ⟨g, o, none⟩, c, by rw [HLT.out]; rfl, HR.out.1, HR.out.2.1, HR.out.2.2⟩
/-- The next number. -/
theorem fnum_walk (d : List UInt8) (k B : Nat) (w : World) (h : FO k B w d) (hn : 4 ≤ d.length) (hd : d.length ≤ 1000000000) (hk : B ≤ k) (hB : B ≤ w.heap.size) :
    Calls Tryz.prog 95 #[.pointer (some ⟨k, 0, none⟩)] w fun e w' => e = .returned (.int .i64 ((unle (d.take 4) : Nat) : Int)) ∧ FO k B w' (d.drop 4) ∧ Below B w w' ∧ Keep (fun j => j = k) w w' := by
  have HT := Lib.hid (take_walk d k B 4 w h hn (by omega) hd)
  have hul := unle_lt (d.take 4)
  have hlt : (d.take 4).length = 4 := by rw [List.length_take]; omega
  rw [hlt] at hul
  have hconv : IntKind.i64.wrap ((unle (d.take 4) : Nat) : Int) = ((unle (d.take 4) : Nat) : Int) := IntWalk.i64_in _ (by omega)
  obtain ⟨T, hT⟩ : ∃ T, T = d.take 4 := ⟨_, rfl⟩
  rw [← hT] at HT hul hlt hconv ⊢
  have HLT := Lib.hid hlt
  clear h hT hul hlt
  go_enter Tryz.func95, Tryz.ntmps95
  go_wp2_with fail
  refine HT.out.mono ?_
  rintro e w1 ⟨A1, c1, rfl, hnb, hfo, hkp⟩
  have HG := Lib.hid (get_walk T A1 c1 w1 hnb.sl (by have := HLT.out; omega))
  have HFO := Lib.hid hfo
  have HKP := Lib.hid hkp
  clear hnb hfo hkp
  go_wp2_with fail
  refine HG.out.mono ?_
  rintro e w2 ⟨rfl, hb2⟩
  have HB2 := Lib.hid hb2
  clear hb2
  go_wp2
  go_ret
  refine ⟨rfl, ?_, (HKP.out.below (fun j e => by rw [e]; exact hk) hB).trans (HB2.out.mono (Nat.le_trans hB HKP.out.size)), HKP.out.trans (Keep.of_below (S := fun _ => False) HB2.out) (fun _ _ h => h.elim)⟩
  obtain ⟨⟨A, c, hb, hnb⟩⟩ := HFO.out
  exact ⟨A, c, (Keep.of_below (S := fun _ => False) HB2.out).blk hb id, hnb.below HB2.out⟩
end Go.Proofs.YtehfoopefefpnaaGreat
/- append(s, make([]T, n)...): n zeros more. No program in it. -/
set_option linter.unusedSimpArgs false
set_option linter.unusedVariables false
namespace Go.Proofs.YtehfoopefefpnaaGreat
open Go.RowKit

theorem zeros_len {z : Value} {size : Nat} (hz : z.cells.size = size) (m : Nat) : (Builtin.zeroCells z.cells m).toList.length = m * size := by rw [Array.length_toList, size_zeroCells, hz]
theorem zeros_one {z : Value} (h1 : ∀ u ∈ z.cells.toList, u.oneCell' = true) (hp : 0 < z.cells.size) (m : Nat) : ∀ v ∈ (Builtin.zeroCells z.cells m).toList, v.oneCell' = true := by
  intro v hv
  simp only [Builtin.zeroCells, Array.toList_map, List.mem_map, Array.toList_range, List.mem_range] at hv
  obtain ⟨j, hj, rfl⟩ := hv
  have hlt := Nat.mod_lt j hp
  rw [getElem!_pos z.cells (j % z.cells.size) hlt]
  exact h1 _ (by simp)
theorem run_make {P : Program} (w : World) {t ti e : TypeId} {i : TypeInfo} {z : Value} {size bytes : Nat} (hu : P.underlying t = some (.slice e)) (hi : P.info? e = some i) (hz : i.zero = some z) (hs : i.size = size) (hb : i.bytes = bytes) (hzs : z.cells.size = size) (h1 : ∀ u ∈ z.cells.toList, u.oneCell' = true) (hsz : 0 < size)
    (hti : P.underlying ti = some (.int .i64)) (ty : TypeId) {v : Value} {n m : Nat} {xs : List Value}
    (hown : w.ownsRow 0 e size v n xs) (hby : (n + m) * bytes ≤ 140737488355328) (hm : n + m ≤ maxLen) :
    ∃ v' w', (Builtin.append_ #[t, ti] ty #[v, .int .i64 (m : Int)]).run P w = .ok v' w' ∧ w'.ownsRow 0 e size v' (n + m) (xs ++ (Builtin.zeroCells z.cells m).toList) ∧ Keep (fun k => v.ownBlock = some k) w w' ∧
      (v'.ownBlock = v.ownBlock ∨ v'.ownBlock = some w.heap.size) := by
  subst hs hb
  have hmx : (m : Int) ≤ 9223372036854775807 := by simp only [maxLen] at hm; omega
  have hwr : IntKind.i64.wrap (m : Int) = (m : Int) := IntWalk.i64_in _ (by omega)
  have hneg : ¬ ((m : Int) < 0) := by omega
  have hmb : m * i.bytes ≤ 140737488355328 := Nat.le_trans (Nat.mul_le_mul_right _ (by omega)) hby
  have hmb2 : ¬ ((281474976710656 : Int) < (m : Int) * (i.bytes : Int)) := by
    have : ((m * i.bytes : Nat) : Int) ≤ 140737488355328 := by omega
    rw [Int.natCast_mul] at this
    omega
  have hai : ∀ w, (asInt (.int .i64 (m : Int))).run P w = .ok (m : Int) w := fun w => by simp [asInt, asIntOf]
  have hai0 : ∀ w, (asInt (.int .i64 (0 : Int))).run P w = .ok (0 : Int) w := fun w => by simp [asInt, asIntOf]
  have hw0 : IntKind.i64.wrap (0 : Int) = 0 := IntWalk.i64_in _ (by omega)
  have hzl := zeros_len (size := i.size) hzs m
  have hz1 := zeros_one h1 (by omega) m
  have hzv : ∀ w, (zeroValue e).run P w = .ok z w := fun w => by simp [zeroValue, typeInfo, hi, hz]
  have hlen : (xs ++ (Builtin.zeroCells z.cells m).toList).length = (n + m) * i.size := by rw [List.length_append, hown.1, hzl, Nat.add_mul]
  have grown : ∀ (old : Nat), old < n + m → ∀ (S : Nat → Prop),
      (w.drew.alloc (.cells (xs.toArray ++ Builtin.zeroCells z.cells m ++ Builtin.zeroCells z.cells (grownCap w (n + m) old e - (n + m))) e)).ownsRow 0 e i.size
        (.slice (some ⟨w.heap.size, 0, none⟩) (n + m) (grownCap w (n + m) old e)) (n + m) (xs ++ (Builtin.zeroCells z.cells m).toList) ∧
      Keep S w (w.drew.alloc (.cells (xs.toArray ++ Builtin.zeroCells z.cells m ++ Builtin.zeroCells z.cells (grownCap w (n + m) old e - (n + m))) e)) := by
    intro old ho S
    have hge := grownCap_ge w (n + m) old e
    have hcm : grownCap w (n + m) old e ≤ maxLen := grownCap_le_maxLen w (n + m) old e hm
    refine ⟨⟨hlen, .inr ⟨w.heap.size, _, _, rfl, Nat.zero_le _, heap_alloc_new w.drew _, hge, hcm, ?_, ?_⟩⟩, ((Keep.refl S w).drew.alloc _)⟩
    · simp only [Array.size_append, List.size_toArray, size_zeroCells, hzs, hown.1, ← Nat.add_mul]
      congr 1
      omega
    · simp only [Array.toList_append, List.append_assoc]
      rw [← List.append_assoc, ← hlen]
      exact List.take_left
  rcases hown.2 with ⟨rfl, rfl⟩ | ⟨g, cap, cur, rfl, hbg, hg, hnc, hcm, hcs, htake⟩
  · have hx : xs = [] := List.eq_nil_of_length_eq_zero (by simpa using hown.1)
    subst hx
    by_cases hm0 : m = 0
    · subst hm0
      refine ⟨.slice none 0 0, w, ?_, ?_, Keep.refl _ _, .inl rfl⟩
      · simp [Builtin.append_, run_underlying hu, run_underlying hti, sizeOf, typeInfo, hi, hai, hai0, hw0, hwr]
      · have : (Builtin.zeroCells z.cells 0).toList = [] := List.eq_nil_of_length_eq_zero (by simpa using hzl)
        rw [this]
        exact World.ownsRow_nil w 0 e i.size
    · have hgr := grown 0 (by omega) (fun k => Value.ownBlock (.slice none 0 0) = some k)
      simp only [Nat.zero_add, List.nil_append] at hgr ⊢
      refine ⟨_, _, ?_, hgr.1, hgr.2, .inr rfl⟩
      have h63' : ¬ (9223372036854775807 < (m : Int)) := by omega
      have h48' : ¬ (281474976710656 < Builtin.nextslicecap m 0 * i.bytes) := by rw [nextslicecap_zero (by omega)]; omega
      have hms : ¬ (m * i.size = 0) := by
        intro e
        rcases Nat.mul_eq_zero.1 e with e | e <;> omega
      have hms2 : ¬ (m = 0 ∨ i.size = 0) := by omega
      simp [Builtin.append_, run_underlying hu, run_underlying hti, sizeOf, typeInfo, hi, hz, hai, hai0, hw0, hwr, hneg, hmb2, hm0, h63', h48', hms, hms2, hzv, Question.forced, run_firstCells_none, newRow, grownCap]
  · by_cases hroom : n + m ≤ cap
    · have hfit : n * i.size + (Builtin.zeroCells z.cells m).toList.length ≤ cur.size := by rw [hzl, hcs, ← Nat.add_mul]; exact Nat.mul_le_mul_right _ hroom
      have hst := run_storeCells_at P g (n * i.size) e (Builtin.zeroCells z.cells m).toList 0 cur w hg (by simpa using hfit) hz1
      simp only [Nat.add_zero] at hst
      refine ⟨.slice (some ⟨g, 0, none⟩) (n + m) cap, w.setRow g (cur.toList.take (n * i.size) ++ (Builtin.zeroCells z.cells m).toList ++ cur.toList.drop (n * i.size + (Builtin.zeroCells z.cells m).toList.length)).toArray, ?_, ⟨hlen, .inr ⟨g, cap, _, rfl, hbg, setRow_heap w g cur _ e _ hg, hroom, hcm, ?_, ?_⟩⟩, (keep_setRow w g _).mono (fun k _ h => by rw [h]; rfl), .inl rfl⟩
      · by_cases hm0 : m * i.size = 0
        · have hz0 : Builtin.zeroCells z.cells m = #[] := Array.eq_empty_of_size_eq_zero (by rw [size_zeroCells, hzs]; exact hm0)
          rw [hz0] at hst ⊢
          have hm0' : m = 0 ∨ i.size = 0 := Nat.mul_eq_zero.1 hm0
          simp only [List.append_nil, Array.toList_empty, List.length_nil, Nat.add_zero, List.take_append_drop, Array.toArray_toList, setRow_self w g cur e (0, 0) hg]
          simp [Builtin.append_, run_underlying hu, run_underlying hti, sizeOf, typeInfo, hi, hai, hai0, hw0, hwr, hneg, hmb2, hroom, hm0, hm0', Addr.add_lit, storeCells]
        · have hm0' : ¬ (m = 0 ∨ i.size = 0) := fun h => hm0 (Nat.mul_eq_zero.2 h)
          simp [Builtin.append_, run_underlying hu, run_underlying hti, sizeOf, typeInfo, hi, hai, hai0, hw0, hwr, hneg, hmb2, hroom, hm0, hm0', hzv, Addr.add_lit, hst]
      · simp only [List.size_toArray, List.length_append, List.length_take, List.length_drop, Array.length_toList]
        simp only [Array.length_toList] at hfit
        omega
      · rw [htake, ← hlen]
        exact List.take_left
    · have holds : ∀ j u, xs[j]? = some u → w.cell? ((⟨g, 0, none⟩ : Addr).add j) = some u := hown.cells (g := g) rfl
      have hgr := grown cap (by omega) (fun k => Value.ownBlock (.slice (some ⟨g, 0, none⟩) n cap) = some k)
      refine ⟨_, _, ?_, hgr.1, hgr.2, .inr rfl⟩
      have hn : ¬ (n + m ≤ cap) := hroom
      have h63' : ¬ (9223372036854775807 < ((n : Int) + (m : Int))) := by simp only [maxLen] at hm; omega
      have h48' : ¬ (281474976710656 < Builtin.nextslicecap (n + m) cap * i.bytes) := by have := growslice_fits (need := n + m) (old := cap) (by omega) hby; omega
      have hfo := run_firstCells_some (P := P) w.drew i.size n ⟨g, 0, none⟩ n cap xs hown.1 (by simpa using holds)
      have hms : ¬ (m * i.size = 0) := by
        intro e
        rcases Nat.mul_eq_zero.1 e with e | e <;> omega
      have hms2 : ¬ (m = 0 ∨ i.size = 0) := by omega
      simp [Builtin.append_, run_underlying hu, run_underlying hti, sizeOf, typeInfo, hi, hz, hai, hai0, hw0, hwr, hneg, hmb2, hn, h63', h48', hms, hms2, hzv, Question.forced, hfo, newRow, grownCap]
end Go.Proofs.YtehfoopefefpnaaGreat
/- append to bytes that are one's own, or clipped. -/
set_option linter.unusedSimpArgs false
set_option linter.unusedVariables false
namespace Go.Proofs.YtehfoopefefpnaaGreat
open Go.RowKit

/-- Bytes to which one may append: they are one's own, or clipped. -/
structure AB (B : Nat) (w : World) (A : Option Addr) (c : Nat) (d : List UInt8) : Prop where
  nb : NB B w A c d
  app : c = d.length ∨ w.ownsRow 0 5 1 (.slice A d.length c) d.length (bv d)
theorem OB.ab {B : Nat} {w : World} {A : Option Addr} {c : Nat} {d : List UInt8} (h : OB B w A c d) : AB B w A c d := ⟨h.nb, .inr h.own⟩
theorem NB.ab {B : Nat} {w : World} {A : Option Addr} {d : List UInt8} (h : NB B w A d.length d) : AB B w A d.length d := ⟨h, .inl rfl⟩
theorem AB.keep {S : Nat → Prop} {B : Nat} {w w' : World} {A : Option Addr} {c : Nat} {d : List UInt8} (h : AB B w A c d) (hk : Keep S w w') (hS : ∀ j, A.map (·.block) = some j → ¬ S j) : AB B w' A c d :=
  ⟨h.nb.keep hk hS, h.app.imp id (fun ho => own_keep ho hk (fun j e => hS j (by rw [ownB_slice] at e; exact e)))⟩
theorem AB.below {B : Nat} {w w' : World} {A : Option Addr} {c : Nat} {d : List UInt8} (h : AB B w A c d) (hb : Below w.heap.size w w') : AB B w' A c d :=
  h.keep (S := fun _ => False) (Keep.of_below hb) (fun _ _ h => h)
theorem AB.mono {B B' : Nat} {w : World} {A : Option Addr} {c : Nat} {d : List UInt8} (h : AB B w A c d) (hB : B' ≤ B) : AB B' w A c d := ⟨h.nb.mono hB, h.app⟩
/-- What an append leaves. -/
structure ABr (B : Nat) (w w' : World) (A A' : Option Addr) (c' : Nat) (d : List UInt8) : Prop where
  ab : AB B w' A' c' d
  keep : Keep (fun j => A.map (·.block) = some j) w w'
  be : Below B w w'
theorem run_appB {w : World} (ty : TypeId) {A Ax : Option Addr} {c cx B : Nat} {d e : List UInt8}
    (hA : AB B w A c d) (hx : Sl w 1 (.slice Ax e.length cx) e.length (bv e)) (h0 : 0 < e.length ∨ 0 < d.length) (hB : B ≤ w.heap.size) (hb : d.length + e.length ≤ 1000000000) :
    ∃ A' c' w', (Builtin.append_ #[22, 22] ty #[.slice A d.length c, .slice Ax e.length cx]).run Tryz.prog w = .ok (.slice A' (d.length + e.length) c') w' ∧ ABr B w w' A A' c' (d ++ e) := by
  have hz : (Tryz.prog.info? 5).map (fun i => (i.zero, i.size, i.bytes)) = some (some (.int .u8 0), 1, 1) := by kernel_rfl
  obtain ⟨i, hi, h1, h2, h3⟩ := info_parts hz
  have hown' : (∃ ad, A = some ad ∧ c = d.length) ∨ w.ownsRow 0 5 1 (.slice A d.length c) d.length (bv d) := by
    rcases hA.app with hc | hown
    · cases A with
      | some ad => exact .inl ⟨ad, rfl, hc⟩
      | none =>
        obtain ⟨_, _, e1, _, hz1, _, _⟩ := hA.nb.sl
        injection e1 with e1 _ e2
        subst e1 e2
        obtain ⟨h1, h2⟩ := hz1 rfl
        have hd : d = [] := List.eq_nil_of_length_eq_zero h1
        subst hd h2
        exact .inr (own_nil' w 0 _ 1)
    · exact .inr hown
  rcases hown' with ⟨b, rfl, hc⟩ | hown
  · by_cases he0 : e.length = 0
    · have he : e = [] := List.eq_nil_of_length_eq_zero he0
      subst he
      obtain ⟨g, o, eb⟩ := hA.nb.some (by simpa using h0)
      obtain rfl := Option.some.inj eb
      have hab : ABr B w w (some ⟨g, o, none⟩) (some ⟨g, o, none⟩) c (d ++ []) := by rw [List.append_nil]; exact ⟨hA, Keep.refl _ _, Below.refl _ _⟩
      refine ⟨some ⟨g, o, none⟩, c, w, ?_, hab⟩
      cases Ax with
      | some ad =>
        have := run_append_room_cells (P := Tryz.prog) w 22 ty 5 i eltB.und hi g o d.length c ad 0 cx [] (by simp) (fun j u hj => by simp at hj) (by simp) (by omega) (by simp) (by simp)
        rw [show w.setCells g (o + d.length * i.size) [] = w from rfl] at this
        exact this
      | none =>
        have hle : d.length ≤ c := by omega
        clear hx
        simp [Builtin.append_, run_underlying eltB.und, sizeOf, typeInfo, hi, Builtin.lenOf, hle, Builtin.firstCells, storeCells]
    have h0 : 0 < e.length := by omega
    obtain ⟨A1, c1, e1, hr1, hz1, hc1, _⟩ := hA.nb.sl
    injection e1 with e1 _ e1'
    subst e1 e1'
    obtain ⟨A2, c2, e2, hr2, hz2, hc2, hl2⟩ := hx
    injection e2 with e2 _ e2'
    subst e2 e2'
    have hne : bv e ≠ [] := fun hh => by rw [bv_eq_nil] at hh; subst hh; simp at h0
    obtain ⟨ad, rfl, hcx⟩ : ∃ ad, Ax = some ad ∧ ∀ j u, (bv e)[j]? = some u → w.cell? (ad.add j) = some u := by
      rcases hr2 with hh | ⟨ad, hh, hcx⟩
      · exact absurd hh hne
      · exact ⟨ad, hh, hcx⟩
    obtain ⟨v', w', hr, ho', hg'⟩ := run_append_arg_grows (P := Tryz.prog) w 22 ty 5 i (.int .u8 0) 1 1 eltB.und hi h1 h2 h3 rfl (by decide) b d.length c (bv d) (by rw [bv_length, Nat.mul_one]) (fun j u hj => by
      rcases hr1 with hh | ⟨ad', e', hcl⟩
      · rw [hh] at hj; simp at hj
      · obtain rfl := Option.some.inj e'
        exact hcl j u hj) ad e.length cx (bv e) (by rw [bv_length, Nat.mul_one]) hcx (by omega) (by simp only [maxLen]; omega) (by omega)
    obtain ⟨A', c', rfl, _⟩ := Rd.of_own ho'
    have hown0 : w'.ownsRow 0 5 1 (.slice A' (d ++ e).length c') (d ++ e).length (bv (d ++ e)) := by
      rw [List.length_append]
      have : bv (d ++ e) = bv d ++ bv e := by simp [bv]
      rw [this]
      exact ⟨ho'.1, ho'.2.imp id (fun ⟨g, cap, cur, h1, h2, h3⟩ => ⟨g, cap, cur, h1, Nat.zero_le _, h3⟩)⟩
    have hfr : ∀ j, A'.map (·.block) = some j → B ≤ j := fun j hj => by
      rcases ho'.2 with ⟨e, _⟩ | ⟨g, cap, cur, e, hg, _⟩
      · injection e with e; subst e; cases hj
      · injection e with e; subst e
        have := Option.some.inj hj
        have : g = j := this
        omega
    exact ⟨A', c', w', hr, OB.ab ⟨hown0, hfr⟩, (Keep.of_grown hg').mono (fun _ _ e => by cases e), (Keep.of_grown hg').below (fun _ e => by cases e) hB⟩
  · obtain ⟨v', w', hr, g1, g2, g3, _⟩ := run_app (P := Tryz.prog) w eltB ty hown hx (bv_one e) (by omega) (by simp only [maxLen]; omega)
    obtain ⟨A', c', rfl, _⟩ := Rd.of_own g1
    have hown0 : w'.ownsRow 0 5 1 (.slice A' (d ++ e).length c') (d ++ e).length (bv (d ++ e)) := by
      rw [List.length_append]
      have : bv (d ++ e) = bv d ++ bv e := by simp [bv]
      rw [this]
      exact g1
    have hk : Keep (fun j => A.map (·.block) = some j) w w' := g2.mono (fun j _ e => by rw [ownB_slice] at e; exact e)
    refine ⟨A', c', w', hr, OB.ab ⟨hown0, fun j hj => ?_⟩, hk, hk.below (fun j e => (hA.nb.fresh j e).1) hB⟩
    rcases g3 with g3 | g3 <;> rw [ownB_slice] at g3
    · rw [ownB_slice] at g3
      exact (hA.nb.fresh j (by rw [← g3]; exact hj)).1
    · rw [g3] at hj
      have := Option.some.inj hj
      omega
theorem wp_appB {w : World} {o : Oper} {a : Act} {K : Act → World → Prop} {Q : Exit → Act → World → Prop} {s y : Operand}
    (ho : o.op = .call { callee := .builtin .append, args := #[s, y], argTypes := #[22, 22] }) {A Ax : Option Addr} {c cx B n m : Nat} {d e : List UInt8} (hd : d.length = n) (he : e.length = m) (hs : a.eval s = .slice A n c) (hy : a.eval y = .slice Ax m cx)
    (hA : AB B w A c d) (hx : Sl w 1 (.slice Ax m cx) m (bv e)) (h0 : 0 < m ∨ 0 < n) (hB : B ≤ w.heap.size) (hb : n + m ≤ 1000000000)
    (h : ∀ A' c' w', ABr B w w' A A' c' (d ++ e) → K (a.put o.dst (.slice A' (n + m) c')) w') : o.wp Tryz.prog a w K Q := by
  subst hd he
  obtain ⟨A', c', w', hr, h2⟩ := run_appB o.type hA hx h0 hB hb
  unfold Oper.wp execOp
  simp only [ho, resolve, invoke, builtin, Sem.run_bind, Sem.run_pure, Result.andThen_ok, List.map_toArray, List.map_cons, List.map_nil, hs, hy, hr]
  exact h A' c' w' h2
theorem wpList_appB {w : World} {ops : Array Oper} {rest : List Oper} {o : Oper} {a : Act} {Q : Exit → Act → World → Prop} (hgd : o.guard = none) {s y : Operand}
    (ho : o.op = .call { callee := .builtin .append, args := #[s, y], argTypes := #[22, 22] }) {A Ax : Option Addr} {c cx B n m : Nat} {d e : List UInt8} (hd : d.length = n) (he : e.length = m) (hs : a.eval s = .slice A n c) (hy : a.eval y = .slice Ax m cx)
    (hA : AB B w A c d) (hx : Sl w 1 (.slice Ax m cx) m (bv e)) (h0 : 0 < m ∨ 0 < n) (hB : B ≤ w.heap.size) (hb : n + m ≤ 1000000000)
    (h : ∀ A' c' w', ABr B w w' A A' c' (d ++ e) → wpList Tryz.prog ops Q rest (a.put o.dst (.slice A' (n + m) c')) w') : wpList Tryz.prog ops Q (o :: rest) a w :=
  wpList_plain hgd fun _ hK => wp_appB ho hd he hs hy hA hx h0 hB hb fun A' c' w' h2 => hK _ _ (h A' c' w' h2)
theorem step_appB {w : World} {ops : Array Oper} {o : Oper} {a : Act} {K : Act → World → Prop} {Q : Exit → Act → World → Prop} {E : Prop} (hgd : o.guard = none) {s y : Operand}
    (ho : o.op = .call { callee := .builtin .append, args := #[s, y], argTypes := #[22, 22] }) {A Ax : Option Addr} {c cx B n m : Nat} {d e : List UInt8} (hd : d.length = n) (he : e.length = m) (hs : a.eval s = .slice A n c) (hy : a.eval y = .slice Ax m cx)
    (hA : AB B w A c d) (hx : Sl w 1 (.slice Ax m cx) m (bv e)) (h0 : 0 < m ∨ 0 < n) (hB : B ≤ w.heap.size) (hb : n + m ≤ 1000000000)
    (h : ∀ A' c' w', ABr B w w' A A' c' (d ++ e) → K (a.put o.dst (.slice A' (n + m) c')) w') : if Region.wanted o (yielded ops a.tmps) = true then Oper.wp Tryz.prog o a w K Q else E := by
  have hw : Region.wanted o (yielded ops a.tmps) = true := by simp [Region.wanted, hgd]
  rw [if_pos hw]
  exact wp_appB ho hd he hs hy hA hx h0 hB hb h
theorem zeros_bv (m : Nat) : (Builtin.zeroCells (Value.int .u8 0).cells m).toList = bv (List.replicate m 0) := by
  apply List.ext_getElem?
  intro j
  simp only [Builtin.zeroCells, Array.toList_map, Array.toList_range, bv, List.getElem?_map]
  have hs : (Value.int .u8 0).cells.size = 1 := rfl
  rw [hs, Nat.mul_one]
  by_cases hj : j < m
  · rw [List.getElem?_range hj, List.getElem?_replicate, if_pos hj]
    simp [Nat.mod_one, Value.cells]
  · rw [List.getElem?_eq_none (by simpa using hj), List.getElem?_replicate, if_neg hj]
    rfl
theorem wpList_zerosB {w : World} {ops : Array Oper} {rest : List Oper} {o : Oper} {a : Act} {Q : Exit → Act → World → Prop} (hgd : o.guard = none) {s y : Operand}
    (ho : o.op = .call { callee := .builtin .append, args := #[s, y], argTypes := #[22, 3] }) {A : Option Addr} {c B n m : Nat} {d : List UInt8} (hd : d.length = n) (hs : a.eval s = .slice A n c) (hy : a.eval y = .int .i64 (m : Int))
    (hA : AB B w A c d) (hn : 0 < n) (hm : 0 < m) (hB : B ≤ w.heap.size) (hb : n + m ≤ 1000000000)
    (h : ∀ A' c' w', ABr B w w' A A' c' (d ++ List.replicate m 0) → wpList Tryz.prog ops Q rest (a.put o.dst (.slice A' (n + m) c')) w') : wpList Tryz.prog ops Q (o :: rest) a w := by
  subst hd
  have hz : (Tryz.prog.info? 5).map (fun i => (i.zero, i.size, i.bytes)) = some (some (.int .u8 0), 1, 1) := by kernel_rfl
  obtain ⟨i, hi, h1, h2, h3⟩ := info_parts hz
  have hrl : (List.replicate m (0 : UInt8)).length = m := List.length_replicate ..
  have key : ∃ v' w', (Builtin.append_ #[22, 3] o.type #[.slice A d.length c, .int .i64 (m : Int)]).run Tryz.prog w = .ok v' w' ∧ w'.ownsRow 0 5 1 v' (d.length + m) (bv d ++ bv (List.replicate m 0)) ∧ Keep (fun k => A.map (·.block) = some k) w w' ∧ (v'.ownBlock = A.map (·.block) ∨ v'.ownBlock = some w.heap.size) := by
    rcases hA.app with hc | hown
    · obtain ⟨A1, c1, e1, hr1, hz1, hc1, _⟩ := hA.nb.sl
      injection e1 with e1 _ e1'
      subst e1 e1'
      have hne : bv d ≠ [] := fun hh => by rw [bv_eq_nil] at hh; subst hh; simp at hn
      obtain ⟨ad, rfl, hcx⟩ : ∃ ad, A = some ad ∧ ∀ j u, (bv d)[j]? = some u → w.cell? (ad.add j) = some u := by
        rcases hr1 with hh | ⟨ad, hh, hcx⟩
        · exact absurd hh hne
        · exact ⟨ad, hh, hcx⟩
      have hfo := run_firstCells_some (P := Tryz.prog) w.drew i.size d.length ad d.length c (bv d) (by rw [bv_length, h2, Nat.mul_one]) (by simpa using hcx)
      have hr := Lib.run_append_grow_zeros (P := Tryz.prog) w 22 3 o.type 5 i (.int .u8 0) .i64 .i64 eltB.und Tryz.underlying3 hi h1 (some ad) d.length c (bv d) hfo m hm (by rw [h2]; decide) (by omega) (by omega) (by rw [h3]; omega) (by have := growslice_fits (need := d.length + m) (old := c) (bytes := i.bytes) (by omega) (by rw [h3]; omega); omega)
      have hge := grownCap_ge w (d.length + m) c 5
      have hcm : grownCap w (d.length + m) c 5 ≤ maxLen := grownCap_le_maxLen w (d.length + m) c 5 (by simp only [maxLen]; omega)
      refine ⟨_, _, hr, ⟨by simp [bv_length], .inr ⟨w.heap.size, _, _, rfl, Nat.zero_le _, heap_alloc_new w.drew _, hge, hcm, ?_, ?_⟩⟩, ((Keep.refl _ w).drew.alloc _), .inr rfl⟩
      · simp only [Array.size_append, List.size_toArray, size_zeroCells, bv_length]
        rw [show (Value.int .u8 0).cells.size = 1 from rfl]
        omega
      · have hlen : (bv d ++ (Builtin.zeroCells (Value.int .u8 0).cells m).toList).length = (d.length + m) * 1 := by rw [zeros_bv, List.length_append, bv_length, bv_length, hrl, Nat.mul_one]
        simp only [Array.toList_append, List.append_assoc]
        rw [← List.append_assoc, ← hlen, ← zeros_bv m]
        exact List.take_left
    · obtain ⟨v', w', hr, g1, g2, g3⟩ := run_make (P := Tryz.prog) w (t := 22) (ti := 3) eltB.und hi h1 h2 h3 rfl (by simp [Value.oneCell', Value.cells]) (by decide) Tryz.underlying3 o.type hown (m := m) (by omega) (by simp only [maxLen]; omega)
      rw [zeros_bv] at g1
      exact ⟨v', w', hr, g1, g2.mono (fun j _ e => by rw [ownB_slice] at e; exact e), by rw [ownB_slice] at g3; exact g3⟩
  obtain ⟨v', w', hr, g1, g2, g3⟩ := key
  refine wpList_plain hgd fun _ hK => ?_
  unfold Oper.wp execOp
  simp only [ho, resolve, invoke, builtin, Sem.run_bind, Sem.run_pure, Result.andThen_ok, List.map_toArray, List.map_cons, List.map_nil, hs, hy, hr]
  obtain ⟨A', c', rfl, _⟩ := Rd.of_own g1
  have hown0 : w'.ownsRow 0 5 1 (.slice A' (d ++ List.replicate m 0).length c') (d ++ List.replicate m 0).length (bv (d ++ List.replicate m 0)) := by
    rw [List.length_append, hrl]
    have : bv (d ++ List.replicate m 0) = bv d ++ bv (List.replicate m 0) := by simp [bv]
    rw [this]
    exact g1
  refine hK _ _ (h A' c' w' ⟨OB.ab ⟨hown0, fun j hj => ?_⟩, g2, g2.below (fun j e => (hA.nb.fresh j e).1) hB⟩)
  rcases g3 with g3 | g3 <;> rw [ownB_slice] at g3
  · exact (hA.nb.fresh j (by rw [← g3]; exact hj)).1
  · rw [g3] at hj
    have := Option.some.inj hj
    omega
end Go.Proofs.YtehfoopefefpnaaGreat
