/- Words on memory for all proofs of this set: what a call may write (Keep), slices that are read (Rd), rows that are owned, append. No program in sight. -/
import Derived.WalkKit
import Derived.WalkSpells
import Derived.WalkLawsBesides
import Derived.Deep.AppendLies
import Derived.Deep.RegionHeld3
import Derived.Deep.QuietTactic
import Derived.BigQuiet
import Derived.Maps.AppendAt
import Derived.Lib.Hide
set_option linter.unusedSimpArgs false
set_option linter.unusedVariables false
namespace Go.Proofs.YtlcfnehmmjhoiaaGreat
open Go.RowKit

/-- Behind a call: of what was there, at most the blocks of S have turned. -/
structure Keep (S : Nat → Prop) (w w' : World) : Prop where
  os : w'.os = w.os
  tape : w'.tape = w.tape
  output : w'.output = w.output
  size : w.heap.size ≤ w'.heap.size
  block : ∀ k, k < w.heap.size → ¬ S k → w'.heap[k]? = w.heap[k]?

namespace Keep
variable {S T : Nat → Prop} {w w1 w2 : World}
theorem refl (S : Nat → Prop) (w : World) : Keep S w w := ⟨rfl, rfl, rfl, Nat.le_refl _, fun _ _ _ => rfl⟩
theorem trans (h : Keep S w w1) (k : Keep T w1 w2) (hT : ∀ i, i < w.heap.size → T i → S i) : Keep S w w2 :=
  ⟨k.os.trans h.os, k.tape.trans h.tape, k.output.trans h.output, Nat.le_trans h.size k.size,
   fun i hi hs => (k.block i (Nat.lt_of_lt_of_le hi h.size) (fun ht => hs (hT i hi ht))).trans (h.block i hi hs)⟩
theorem mono (h : Keep S w w1) (hT : ∀ i, i < w.heap.size → S i → T i) : Keep T w w1 :=
  ⟨h.os, h.tape, h.output, h.size, fun i hi hs => h.block i hi (fun hS => hs (hT i hi hS))⟩
theorem below {B : Nat} (h : Keep S w w1) (hS : ∀ i, S i → B ≤ i) (hB : B ≤ w.heap.size) : Below B w w1 :=
  ⟨h.os, h.tape, h.output, h.size, fun i hi => h.block i (by omega) (fun hs => by have := hS i hs; omega)⟩
theorem of_below (h : Below w.heap.size w w1) : Keep S w w1 := ⟨h.os, h.tape, h.output, h.size, fun i hi _ => h.block i hi⟩
theorem of_belowB {B : Nat} (h : Below B w w1) (hS : ∀ i, i < w.heap.size → B ≤ i → S i) : Keep S w w1 :=
  ⟨h.os, h.tape, h.output, h.size, fun i hi hs => h.block i (by rcases Nat.lt_or_ge i B with h' | h'; exact h'; exact absurd (hS i hi h') hs)⟩
theorem to_below (h : Keep (fun _ => False) w w1) : Below w.heap.size w w1 := ⟨h.os, h.tape, h.output, h.size, fun i hi => h.block i hi id⟩
theorem of_grown {row : Option Nat} (h : w.grownBy w1 row) : Keep (fun k => row = some k) w w1 :=
  ⟨h.os, h.tape, h.output, h.size, fun i hi hs => h.block i hi (fun e => hs e.symm)⟩
theorem drew (h : Keep S w w1) : Keep S w w1.drew := ⟨h.os, h.tape, h.output, h.size, h.block⟩
theorem drewL (h : Keep S w w1) : Keep S w.drew w1 := ⟨h.os, h.tape, h.output, h.size, h.block⟩
theorem drewN (h : Keep S w w1) (n : Nat) : Keep S w (w1.drewN n) := ⟨h.os, h.tape, h.output, h.size, h.block⟩
theorem alloc (h : Keep S w w1) (o : Obj) : Keep S w (w1.alloc o) :=
  ⟨h.os, h.tape, h.output, Nat.le_trans h.size (by simp), fun k hk hs => (Below.heap_alloc _ _ _ (Nat.lt_of_lt_of_le hk h.size)).trans (h.block k hk hs)⟩
theorem setCell (h : Keep S w w1) {p : Addr} (hp : p.block < w.heap.size → S p.block) (u : Value) : Keep S w (w1.setCell p u) :=
  ⟨h.os, h.tape, h.output, by simpa [World.setCell] using h.size, fun k hk hs => (Below.heap_setCell _ _ _ _ (fun e => by subst e; exact hs (hp hk))).trans (h.block k hk hs)⟩
theorem blk (h : Keep S w w1) {k : Nat} {o : Obj} (hb : w.heap[k]? = some o) (hs : ¬ S k) : w1.heap[k]? = some o :=
  (h.block k (Array.getElem?_eq_some_iff.1 hb).1 hs).trans hb
theorem cell (h : Keep S w w1) {a : Addr} {v : Value} (hc : w.cell? a = some v) (hs : ¬ S a.block) : w1.cell? a = some v :=
  (World.cell?_of_block (w := w) (h.block a.block (World.block_lt_of_cell? w a hc) hs)).trans hc
theorem frozen (h : Keep S w w1) {a : Addr} (hl : a.block < w.heap.size) (hs : ¬ S a.block) : w1.frozen? a = w.frozen? a :=
  World.frozen?_of_block (w := w) (h.block a.block hl hs)
end Keep

theorem blk_lt {w : World} {k : Nat} {o : Obj} (h : w.heap[k]? = some o) : k < w.heap.size := (Array.getElem?_eq_some_iff.1 h).1
theorem blk_cell {w : World} {k j : Nat} {cs : Array Value} {t : TypeId} {fr : Nat × Nat} {v : Value} (h : w.heap[k]? = some (.cells cs t fr)) (hv : cs[j]? = some v) : w.cell? ⟨k, j, none⟩ = some v := by
  rw [cell_of_row w k j cs t fr h]; exact hv
theorem blk_free {w : World} {k j : Nat} {cs : Array Value} {t : TypeId} (h : w.heap[k]? = some (.cells cs t (0, 0))) : w.frozen? ⟨k, j, none⟩ = false := by
  simp [World.frozen?, h]
theorem blk_cells {w : World} {k : Nat} {cs : Array Value} {t : TypeId} {fr : Nat × Nat} (h : w.heap[k]? = some (.cells cs t fr)) : ∀ j, w.cell? ⟨k, j, none⟩ = cs[j]? := fun j => cell_of_row w k j cs t fr h
theorem blk_frees {w : World} {k : Nat} {cs : Array Value} {t : TypeId} (h : w.heap[k]? = some (.cells cs t (0, 0))) : ∀ j, w.frozen? ⟨k, j, none⟩ = false := fun _ => blk_free h
theorem blk_set {w : World} {k j : Nat} {cs : Array Value} {t : TypeId} {fr : Nat × Nat} (h : w.heap[k]? = some (.cells cs t fr)) (v : Value) :
    (w.setCell ⟨k, j, none⟩ v).heap[k]? = some (.cells (cs.setIfInBounds j v) t fr) := by
  simp only [World.setCell, Array.getElem?_modify]
  simp [h]
theorem blk_set_ne {w : World} {k : Nat} {a : Addr} (v : Value) (hne : k ≠ a.block) : (w.setCell a v).heap[k]? = w.heap[k]? := Below.heap_setCell w a v k hne
theorem blk_new (w : World) (o : Obj) : (w.alloc o).heap[w.heap.size]? = some o := heap_alloc_new w o
theorem blk_old {w : World} {k : Nat} {o : Obj} (h : w.heap[k]? = some o) (x : Obj) : (w.alloc x).heap[k]? = some o := (Below.heap_alloc w x k (blk_lt h)).trans h
theorem blk_ne {w : World} {j k : Nat} {cs ds : Array Value} {t u : TypeId} {fr fs : Nat × Nat} (h : w.heap[j]? = some (.cells cs t fr)) (h' : w.heap[k]? = some (.cells ds u fs)) (hne : t ≠ u) : j ≠ k := by
  rintro rfl
  rw [h] at h'
  injection h' with h'
  injection h' with _ h2 _
  exact hne h2

/-! ### Slices that are read -/
/-- The slice with address A reads as the cells xs. -/
def Rd (w : World) (A : Option Addr) (xs : List Value) : Prop := xs = [] ∨ ∃ ad, A = some ad ∧ ∀ j u, xs[j]? = some u → w.cell? (ad.add j) = some u
theorem Rd.nil (w : World) (A : Option Addr) : Rd w A [] := .inl rfl
theorem Rd.keep {S : Nat → Prop} {w w1 : World} {A : Option Addr} {xs : List Value} (h : Rd w A xs) (hk : Keep S w w1) (hs : ∀ ad, A = some ad → xs ≠ [] → ¬ S ad.block) : Rd w1 A xs := by
  rcases h with h | ⟨ad, rfl, hc⟩
  · exact .inl h
  · refine .inr ⟨ad, rfl, fun j u hu => hk.cell (hc j u hu) ?_⟩
    have : (ad.add j).block = ad.block := by unfold Addr.add; split <;> rfl
    rw [this]
    exact hs ad rfl (by rintro rfl; simp at hu)
theorem Rd.lt {w : World} {ad : Addr} {xs : List Value} (h : Rd w (some ad) xs) (hx : xs ≠ []) : ad.block < w.heap.size := by
  rcases h with h | ⟨ad', e, hc⟩
  · exact absurd h hx
  · obtain rfl := Option.some.inj e
    cases xs with
    | nil => exact absurd rfl hx
    | cons x l =>
      have := World.block_lt_of_cell? w _ (hc 0 x rfl)
      have e : (ad.add 0).block = ad.block := by unfold Addr.add; split <;> rfl
      omega
theorem Rd.below {w w1 : World} {A : Option Addr} {xs : List Value} (h : Rd w A xs) (hk : Below w.heap.size w w1) : Rd w1 A xs :=
  h.keep (Keep.of_below (S := fun _ => False) hk) (fun _ _ _ => id)
theorem Rd.of_own {w : World} {base : Nat} {e : TypeId} {size : Nat} {v : Value} {n : Nat} {xs : List Value} (h : w.ownsRow base e size v n xs) : ∃ A c, v = .slice A n c ∧ Rd w A xs ∧ (A = none → n = 0 ∧ c = 0) ∧ n ≤ c ∧ A.map (·.block) = v.ownBlock := by
  rcases h.2 with ⟨rfl, rfl⟩ | ⟨g, cap, cur, rfl, hb, hh, h1, h2, h3, h4⟩
  · refine ⟨none, 0, rfl, .inl ?_, fun _ => ⟨rfl, rfl⟩, Nat.le_refl _, rfl⟩
    exact List.eq_nil_of_length_eq_zero (by simpa using h.1)
  · refine ⟨_, cap, rfl, .inr ⟨_, rfl, fun j u hu => h.cells (g := g) rfl j u hu⟩, (fun e => by simp at e), h1, rfl⟩

/-- A slice's value, and the cells that it reads as. -/
def Sl (w : World) (size : Nat) (v : Value) (n : Nat) (xs : List Value) : Prop :=
  ∃ A c, v = .slice A n c ∧ Rd w A xs ∧ (A = none → n = 0 ∧ c = 0) ∧ n ≤ c ∧ xs.length = n * size
theorem ownBlock_slice (A : Option Addr) (n c : Nat) : (Value.slice A n c).ownBlock = A.map (·.block) := by cases A <;> rfl
theorem Sl.keep {S : Nat → Prop} {w w1 : World} {size n : Nat} {v : Value} {xs : List Value} (h : Sl w size v n xs) (hk : Keep S w w1) (hs : ∀ k, v.ownBlock = some k → xs ≠ [] → ¬ S k) : Sl w1 size v n xs := by
  obtain ⟨A, c, rfl, hr, h1, h2, h3⟩ := h
  exact ⟨A, c, rfl, hr.keep hk (fun ad e hx => hs ad.block (by subst e; rfl) hx), h1, h2, h3⟩
theorem Sl.of_own {w : World} {base : Nat} {e : TypeId} {size : Nat} {v : Value} {n : Nat} {xs : List Value} (h : w.ownsRow base e size v n xs) : Sl w size v n xs := by
  obtain ⟨A, c, rfl, h1, h2, h3, _⟩ := Rd.of_own h
  exact ⟨A, c, rfl, h1, h2, h3, h.1⟩
theorem Sl.below {w w1 : World} {size n : Nat} {v : Value} {xs : List Value} (h : Sl w size v n xs) (hk : Below w.heap.size w w1) : Sl w1 size v n xs :=
  h.keep (Keep.of_below (S := fun _ => False) hk) (fun _ _ _ => id)
theorem Sl.lt {w : World} {size n : Nat} {v : Value} {xs : List Value} (h : Sl w size v n xs) {k : Nat} (hk : v.ownBlock = some k) (hx : xs ≠ []) : k < w.heap.size := by
  obtain ⟨A, c, rfl, hr, _⟩ := h
  cases A with
  | none => simp [Value.ownBlock] at hk
  | some ad =>
    have : ad.block = k := by simpa [Value.ownBlock] using hk
    subst this
    exact hr.lt hx

/-- The bytes of a list as cells. -/
def bv (l : List UInt8) : List Value := l.map fun b => .int .u8 (b.toNat : Int)
theorem bv_length (l : List UInt8) : (bv l).length = l.length := by simp [bv]
theorem bv_one (l : List UInt8) : ∀ u ∈ bv l, u.oneCell' = true := by
  intro u hu
  obtain ⟨b, _, rfl⟩ := List.mem_map.1 hu
  rfl
theorem bv_nil : bv [] = [] := rfl
theorem bv_eq_nil {l : List UInt8} : bv l = [] ↔ l = [] := by cases l <;> simp [bv]

/-! ### append -/
/-- The element type of a slice type: how many cells and bytes. -/
structure Elt (P : Program) (t e : TypeId) (size bytes : Nat) : Prop where
  und : P.underlying t = some (.slice e)
  info : ∃ i z, P.info? e = some i ∧ i.zero = some z ∧ i.size = size ∧ i.bytes = bytes ∧ z.cells.size = size ∧ ∀ u ∈ z.cells.toList, u.oneCell' = true
  pos : 0 < size
theorem Elt.mk' {P : Program} {t e : TypeId} {z : Value} {size bytes : Nat} (h1 : P.underlying t = some (.slice e)) (h2 : (P.info? e).map (fun i => (i.zero, i.size, i.bytes)) = some (some z, size, bytes)) (h3 : z.cells.size = size) (h5 : ∀ u ∈ z.cells.toList, u.oneCell' = true) (h4 : 0 < size) : Elt P t e size bytes := by
  obtain ⟨i, hi, a, b, c⟩ := info_parts h2
  exact ⟨h1, ⟨i, z, hi, a, b, c, h3, h5⟩, h4⟩

theorem run_app {P : Program} (w : World) {t e : TypeId} {size bytes : Nat} (he : Elt P t e size bytes) (ty : TypeId) {v x : Value} {n m : Nat} {xs ys : List Value}
    (hown : w.ownsRow 0 e size v n xs) (hx : Sl w size x m ys) (h1 : ∀ u ∈ ys, u.oneCell' = true) (hb : (n + m) * bytes ≤ 140737488355328) (hm : n + m ≤ maxLen) :
    ∃ v' w', (Builtin.append_ #[t, t] ty #[v, x]).run P w = .ok v' w' ∧ w'.ownsRow 0 e size v' (n + m) (xs ++ ys) ∧ Keep (fun k => v.ownBlock = some k) w w' ∧
      (v'.ownBlock = v.ownBlock ∨ v'.ownBlock = some w.heap.size) ∧ (v' = .slice none 0 0 ↔ v = .slice none 0 0 ∧ m = 0) := by
  obtain ⟨i, z, hi, hz, hs, hby, hzs, _⟩ := he.info
  obtain ⟨A, c, rfl, hr, hA, hc, hl⟩ := hx
  cases A with
  | none =>
    obtain ⟨rfl, rfl⟩ := hA rfl
    obtain rfl : ys = [] := List.eq_nil_of_length_eq_zero (by simpa using hl)
    refine ⟨v, w, run_append_owned_none (P := P) w 0 t ty e i size he.und hi _ n xs hown, by simpa using hown, Keep.refl _ _, .inl rfl, ?_⟩
    simp
  | some ad =>
    have hn : ∀ j u, ys[j]? = some u → w.cell? (ad.add j) = some u := by
      rcases hr with rfl | ⟨ad', e', h⟩
      · intro j u hu; simp at hu
      · obtain rfl := Option.some.inj e'; exact h
    obtain ⟨v', w', r, h2, h3, h4, h5⟩ := run_append_own_at (P := P) w 0 t ty e i z size bytes he.und hi hz hs hby hzs he.pos v n xs hown ad m c ys hl hn h1 hm hb (Nat.zero_le _)
    exact ⟨v', w', r, h2, Keep.of_grown h3, h5, h4⟩

theorem wp_app {P : Program} (w : World) {o : Oper} {a : Act} {K : Act → World → Prop} {Q : Exit → Act → World → Prop} {s y : Operand} {t e : TypeId} {size bytes : Nat} (he : Elt P t e size bytes)
    (ho : o.op = .call { callee := .builtin .append, args := #[s, y], argTypes := #[t, t] }) {v x : Value} {n m : Nat} {xs ys : List Value} (hs : a.eval s = v) (hy : a.eval y = x)
    (hown : w.ownsRow 0 e size v n xs) (hx : Sl w size x m ys) (h1 : ∀ u ∈ ys, u.oneCell' = true) (hb : (n + m) * bytes ≤ 140737488355328) (hm : n + m ≤ maxLen)
    (h : ∀ v' w', w'.ownsRow 0 e size v' (n + m) (xs ++ ys) → Keep (fun k => v.ownBlock = some k) w w' → (v'.ownBlock = v.ownBlock ∨ v'.ownBlock = some w.heap.size) → (v' = .slice none 0 0 ↔ v = .slice none 0 0 ∧ m = 0) → K (a.put o.dst v') w') : o.wp P a w K Q := by
  obtain ⟨v', w', hr, h2, h3, h4, h5⟩ := run_app (P := P) w he o.type hown hx h1 hb hm
  unfold Oper.wp execOp
  simp only [ho, resolve, invoke, builtin, Sem.run_bind, Sem.run_pure, Result.andThen_ok, List.map_toArray, List.map_cons, List.map_nil, hs, hy, hr]
  exact h v' w' h2 h3 h4 h5

theorem wpList_app {P : Program} {w : World} {ops : Array Oper} {rest : List Oper} {o : Oper} {a : Act} {Q : Exit → Act → World → Prop} (hgd : o.guard = none) {s y : Operand} {t e : TypeId} {size bytes : Nat} (he : Elt P t e size bytes)
    (ho : o.op = .call { callee := .builtin .append, args := #[s, y], argTypes := #[t, t] }) {v x : Value} {n m : Nat} {xs ys : List Value} (hs : a.eval s = v) (hy : a.eval y = x)
    (hown : w.ownsRow 0 e size v n xs) (hx : Sl w size x m ys) (h1 : ∀ u ∈ ys, u.oneCell' = true) (hb : (n + m) * bytes ≤ 140737488355328) (hm : n + m ≤ maxLen)
    (h : ∀ v' w', w'.ownsRow 0 e size v' (n + m) (xs ++ ys) → Keep (fun k => v.ownBlock = some k) w w' → (v'.ownBlock = v.ownBlock ∨ v'.ownBlock = some w.heap.size) → (v' = .slice none 0 0 ↔ v = .slice none 0 0 ∧ m = 0) → wpList P ops Q rest (a.put o.dst v') w') : wpList P ops Q (o :: rest) a w :=
  wpList_plain hgd fun _ hK => wp_app w he ho hs hy hown hx h1 hb hm fun v' w' h2 h3 h4 h5 => hK _ _ (h v' w' h2 h3 h4 h5)

theorem step_app {P : Program} {w : World} {ops : Array Oper} {o : Oper} {a : Act} {K : Act → World → Prop} {Q : Exit → Act → World → Prop} {E : Prop} (hgd : o.guard = none) {s y : Operand} {t e : TypeId} {size bytes : Nat} (he : Elt P t e size bytes)
    (ho : o.op = .call { callee := .builtin .append, args := #[s, y], argTypes := #[t, t] }) {v x : Value} {n m : Nat} {xs ys : List Value} (hs : a.eval s = v) (hy : a.eval y = x)
    (hown : w.ownsRow 0 e size v n xs) (hx : Sl w size x m ys) (h1 : ∀ u ∈ ys, u.oneCell' = true) (hb : (n + m) * bytes ≤ 140737488355328) (hm : n + m ≤ maxLen)
    (h : ∀ v' w', w'.ownsRow 0 e size v' (n + m) (xs ++ ys) → Keep (fun k => v.ownBlock = some k) w w' → (v'.ownBlock = v.ownBlock ∨ v'.ownBlock = some w.heap.size) → (v' = .slice none 0 0 ↔ v = .slice none 0 0 ∧ m = 0) → K (a.put o.dst v') w') :
    if Region.wanted o (yielded ops a.tmps) = true then Oper.wp P o a w K Q else E := by
  have hw : Region.wanted o (yielded ops a.tmps) = true := by simp [Region.wanted, hgd]
  rw [if_pos hw]
  exact wp_app w he ho hs hy hown hx h1 hb hm h

/-- A new row of its own: make, or a literal. -/
theorem own_new (w : World) (cs : Array Value) (e : TypeId) (size n : Nat) (h : cs.size = n * size) (hm : n ≤ maxLen) : (w.alloc (.cells cs e)).ownsRow 0 e size (.slice (some ⟨w.heap.size, 0, none⟩) n n) n cs.toList :=
  ⟨by simpa using h, .inr ⟨_, n, cs, rfl, Nat.zero_le _, blk_new w _, Nat.le_refl _, hm, h, by rw [← h]; simp [List.take_of_length_le]⟩⟩
theorem own_nil' (w : World) (base : Nat) (e : TypeId) (size : Nat) : w.ownsRow base e size (.slice none 0 0) 0 [] := ⟨by simp, .inl ⟨rfl, rfl⟩⟩
theorem own_keep {S : Nat → Prop} {w w1 : World} {base : Nat} {e : TypeId} {size : Nat} {v : Value} {n : Nat} {xs : List Value} (h : w.ownsRow base e size v n xs) (hk : Keep S w w1) (hs : ∀ k, v.ownBlock = some k → ¬ S k) : w1.ownsRow base e size v n xs := by
  refine ⟨h.1, ?_⟩
  rcases h.2 with hn | ⟨g, cap, cur, rfl, hb, hg, r⟩
  · exact .inl hn
  · exact .inr ⟨g, cap, cur, rfl, hb, hk.blk hg (hs g rfl), r⟩
theorem own_blk {w : World} {base : Nat} {e : TypeId} {size : Nat} {v : Value} {n : Nat} {xs : List Value} (h : w.ownsRow base e size v n xs) {k : Nat} (hk : v.ownBlock = some k) : ∃ cur, w.heap[k]? = some (.cells cur e (0, 0)) := by
  rcases h.2 with ⟨rfl, _⟩ | ⟨g, cap, cur, rfl, hb, hg, r⟩
  · simp [Value.ownBlock] at hk
  · obtain rfl : g = k := by simpa [Value.ownBlock] using hk
    exact ⟨cur, hg⟩
/-- Rows of unlike elements lie apart. -/
theorem own_ne {w : World} {b b' : Nat} {e e' : TypeId} {s s' n n' : Nat} {v v' : Value} {xs xs' : List Value} (h : w.ownsRow b e s v n xs) (h' : w.ownsRow b' e' s' v' n' xs') (hne : e ≠ e') {k : Nat} (hk : v.ownBlock = some k) : ¬ v'.ownBlock = some k := by
  intro hk'
  obtain ⟨c1, h1⟩ := own_blk h hk
  obtain ⟨c2, h2⟩ := own_blk h' hk'
  exact blk_ne h1 h2 hne rfl
theorem own_ne_blk {w : World} {b : Nat} {e u : TypeId} {s n g : Nat} {v : Value} {xs : List Value} {cs : Array Value} {fr : Nat × Nat} (h : w.ownsRow b e s v n xs) (hb : w.heap[g]? = some (.cells cs u fr)) (hne : e ≠ u) {k : Nat} (hk : v.ownBlock = some k) : ¬ k = g := by
  obtain ⟨c1, h1⟩ := own_blk h hk
  exact blk_ne h1 hb hne
theorem own_lt {w : World} {b : Nat} {e : TypeId} {s n : Nat} {v : Value} {xs : List Value} (h : w.ownsRow b e s v n xs) {k : Nat} (hk : v.ownBlock = some k) : k < w.heap.size := by
  obtain ⟨c1, h1⟩ := own_blk h hk
  exact blk_lt h1

/-! ### bytes to a string -/
theorem run_conv_bytes {P : Program} (w : World) {src e dst : TypeId} (hs : P.underlying src = some (.slice e)) (he : P.underlying e = some (.int .u8)) (hd : P.underlying dst = some .string) {v : Value} {n : Nat} {d : List UInt8} (hx : Sl w 1 v n (bv d)) :
    (convert src dst v).run P w = .ok (.string ⟨d.toArray⟩) w := by
  obtain ⟨A, c, rfl, hr, hA, hc, hl⟩ := hx
  have hn : d.length = n := by simpa [bv] using hl
  cases A with
  | none =>
    obtain ⟨rfl, rfl⟩ := hA rfl
    obtain rfl : d = [] := List.eq_nil_of_length_eq_zero hn
    exact run_convert_bytes_nil w src e hs he 0 0 dst hd
  | some ad =>
    have hc : ∀ j u, (bv d)[j]? = some u → w.cell? (ad.add j) = some u := by
      rcases hr with h | ⟨ad', e', h⟩
      · intro j u hu; rw [h] at hu; simp at hu
      · obtain rfl := Option.some.inj e'; exact h
    have hb : bv d = (d.map fun b => (b.toNat : Int)).map (Value.int .u8) := by simp [bv]
    have hl' := run_loadCells_list (P := P) w ad (bv d) hc
    rw [bv_length, hn, hb] at hl'
    rw [run_convert_bytes_string w src dst e _ n _ hs he hd, run_bytesToString w ad n _ (d.map fun b => (b.toNat : Int)) hl', foldl_push_bytes]
    congr 2
    simp [ByteArray.empty, ByteArray.emptyWithCapacity, List.map_map, Function.comp_def]
    rfl

/-! ### rows that are written in place -/
theorem keep_setRow (w : World) (g : Nat) (cs : Array Value) : Keep (fun k => k = g) w (w.setRow g cs) :=
  ⟨rfl, rfl, rfl, by simp, fun k _ hs => setRow_other w g k cs hs⟩

theorem run_app_room {P : Program} (w : World) {t e : TypeId} {size bytes : Nat} (he : Elt P t e size bytes) (ty : TypeId) {g i cap m : Nat} {cur : Array Value} {x : Value} {ys : List Value}
    (hg : w.heap[g]? = some (.cells cur e (0, 0))) (hx : Sl w size x m ys) (h1 : ∀ u ∈ ys, u.oneCell' = true) (hroom : i + m ≤ cap) (hcap : cur.size = cap * size) :
    (Builtin.append_ #[t, t] ty #[.slice (some ⟨g, 0, none⟩) i cap, x]).run P w = .ok (.slice (some ⟨g, 0, none⟩) (i + m) cap) (w.setRow g (cur.toList.take (i * size) ++ ys ++ cur.toList.drop (i * size + ys.length)).toArray) := by
  obtain ⟨ii, z, hi, hz, hs, hby, hzs, _⟩ := he.info
  obtain ⟨A, c, rfl, hr, hA, hc, hl⟩ := hx
  cases A with
  | none =>
    obtain ⟨rfl, rfl⟩ := hA rfl
    obtain rfl : ys = [] := List.eq_nil_of_length_eq_zero (by simpa using hl)
    have hw : w.setRow g (cur.toList.take (i * size) ++ [] ++ cur.toList.drop (i * size + ([] : List Value).length)).toArray = w := by
      simp only [List.append_nil, List.length_nil, Nat.add_zero, List.take_append_drop, Array.toArray_toList]
      exact setRow_self w g cur e (0, 0) hg
    rw [hw]
    have hle : i ≤ cap := by omega
    simp [Builtin.append_, run_underlying he.und, sizeOf, typeInfo, hi, Builtin.lenOf, hle, Builtin.firstCells, storeCells]
  | some ad =>
    have hn : ∀ j u, ys[j]? = some u → w.cell? (ad.add j) = some u := by
      rcases hr with rfl | ⟨ad', e', h⟩
      · intro j u hu; simp at hu
      · obtain rfl := Option.some.inj e'; exact h
    subst hs
    refine run_append_room (P := P) w t ty e ii he.und hi g i cap cur hg ad m c ys hl hn h1 hroom ?_
    rw [hl, hcap, ← Nat.add_mul]; exact Nat.mul_le_mul_right _ hroom

theorem run_clear_row {P : Program} (w : World) {t e : TypeId} {size bytes : Nat} (he : Elt P t e size bytes) (ty : TypeId) {g off m c : Nat} {cur : Array Value}
    (hg : w.heap[g]? = some (.cells cur e (0, 0))) (hfit : off + m * size ≤ cur.size) :
    ∃ zs : List Value, zs.length = m * size ∧ (Builtin.clear_ #[t] ty #[.slice (some ⟨g, off, none⟩) m c]).run P w = .ok (.tuple #[]) (w.setRow g (cur.toList.take off ++ zs ++ cur.toList.drop (off + zs.length)).toArray) := by
  obtain ⟨ii, z, hi, hz, hs, hby, hzs, h1⟩ := he.info
  cases m with
  | zero =>
    refine ⟨[], by simp, ?_⟩
    simp only [List.append_nil, List.length_nil, Nat.add_zero, List.take_append_drop, Array.toArray_toList]
    rw [setRow_self w g cur e (0, 0) hg]
    simp [Builtin.clear_, run_underlying he.und]
  | succ m =>
    have hzl : (Builtin.zeroCells z.cells (m + 1)).toList.length = (m + 1) * size := by rw [Array.length_toList, size_zeroCells, hzs]
    have hz1 : ∀ v ∈ (Builtin.zeroCells z.cells (m + 1)).toList, v.oneCell' = true := by
      intro v hv
      simp only [Builtin.zeroCells, Array.toList_map, List.mem_map, Array.toList_range, List.mem_range] at hv
      obtain ⟨j, hj, rfl⟩ := hv
      have hp : 0 < z.cells.size := by have := he.pos; omega
      have hlt := Nat.mod_lt j hp
      rw [getElem!_pos z.cells (j % z.cells.size) hlt]
      exact h1 _ (by simp)
    refine ⟨_, hzl, ?_⟩
    have hst := run_storeCells_at P g off e (Builtin.zeroCells z.cells (m + 1)).toList 0 cur w hg (by rw [hzl]; omega) hz1
    simp only [Nat.add_zero] at hst
    have hzv : (zeroValue e).run P w = .ok z w := by simp [zeroValue, typeInfo, hi, hz]
    simp [Builtin.clear_, run_underlying he.und, hzv, hst]

/-- A builtin whose run is known: one step. -/
theorem wp_app_room {P : Program} {w : World} {o : Oper} {a : Act} {K : Act → World → Prop} {Q : Exit → Act → World → Prop} {s y : Operand} {t e : TypeId} {size bytes : Nat} (he : Elt P t e size bytes)
    (ho : o.op = .call { callee := .builtin .append, args := #[s, y], argTypes := #[t, t] }) {g i cap m : Nat} {cur : Array Value} {x : Value} {ys : List Value} (hs : a.eval s = .slice (some ⟨g, 0, none⟩) i cap) (hy : a.eval y = x)
    (hg : w.heap[g]? = some (.cells cur e (0, 0))) (hx : Sl w size x m ys) (h1 : ∀ u ∈ ys, u.oneCell' = true) (hroom : i + m ≤ cap) (hcap : cur.size = cap * size)
    (h : K (a.put o.dst (.slice (some ⟨g, 0, none⟩) (i + m) cap)) (w.setRow g (cur.toList.take (i * size) ++ ys ++ cur.toList.drop (i * size + ys.length)).toArray)) : o.wp P a w K Q := by
  have hr := run_app_room (P := P) w he o.type hg hx h1 hroom hcap
  unfold Oper.wp execOp
  simp only [ho, resolve, invoke, builtin, Sem.run_bind, Sem.run_pure, Result.andThen_ok, List.map_toArray, List.map_cons, List.map_nil, hs, hy, hr]
  exact h
theorem step_app_room {P : Program} {w : World} {ops : Array Oper} {o : Oper} {a : Act} {K : Act → World → Prop} {Q : Exit → Act → World → Prop} {E : Prop} (hgd : o.guard = none) {s y : Operand} {t e : TypeId} {size bytes : Nat} (he : Elt P t e size bytes)
    (ho : o.op = .call { callee := .builtin .append, args := #[s, y], argTypes := #[t, t] }) {g i cap m : Nat} {cur : Array Value} {x : Value} {ys : List Value} (hs : a.eval s = .slice (some ⟨g, 0, none⟩) i cap) (hy : a.eval y = x)
    (hg : w.heap[g]? = some (.cells cur e (0, 0))) (hx : Sl w size x m ys) (h1 : ∀ u ∈ ys, u.oneCell' = true) (hroom : i + m ≤ cap) (hcap : cur.size = cap * size)
    (h : K (a.put o.dst (.slice (some ⟨g, 0, none⟩) (i + m) cap)) (w.setRow g (cur.toList.take (i * size) ++ ys ++ cur.toList.drop (i * size + ys.length)).toArray)) :
    if Region.wanted o (yielded ops a.tmps) = true then Oper.wp P o a w K Q else E := by
  have hw : Region.wanted o (yielded ops a.tmps) = true := by simp [Region.wanted, hgd]
  rw [if_pos hw]
  exact wp_app_room he ho hs hy hg hx h1 hroom hcap h
theorem wpList_clear_row {P : Program} {w : World} {ops : Array Oper} {rest : List Oper} {o : Oper} {a : Act} {Q : Exit → Act → World → Prop} (hgd : o.guard = none) {s : Operand} {t e : TypeId} {size bytes : Nat} (he : Elt P t e size bytes)
    (ho : o.op = .call { callee := .builtin .clear, args := #[s], argTypes := #[t] }) {g off m c : Nat} {cur : Array Value} (hs : a.eval s = .slice (some ⟨g, off, none⟩) m c)
    (hg : w.heap[g]? = some (.cells cur e (0, 0))) (hfit : off + m * size ≤ cur.size)
    (h : ∀ zs : List Value, zs.length = m * size → wpList P ops Q rest (a.put o.dst (.tuple #[])) (w.setRow g (cur.toList.take off ++ zs ++ cur.toList.drop (off + zs.length)).toArray)) : wpList P ops Q (o :: rest) a w := by
  obtain ⟨zs, hl, hr⟩ := run_clear_row (P := P) w he o.type (c := c) hg hfit
  refine wpList_plain hgd fun _ hK => ?_
  unfold Oper.wp execOp
  simp only [ho, resolve, invoke, builtin, Sem.run_bind, Sem.run_pure, Result.andThen_ok, List.map_toArray, List.map_cons, List.map_nil, hs, hr]
  exact hK _ _ (h zs hl)

/-- Part of a slice reads as part of its cells. -/
theorem Rd.drop {w : World} {b o : Nat} {xs : List Value} (h : Rd w (some ⟨b, o, none⟩) xs) (n : Nat) : Rd w (some ⟨b, o + n, none⟩) (xs.drop n) := by
  rcases h with rfl | ⟨ad, e, hc⟩
  · exact .inl (by simp)
  · obtain rfl := Option.some.inj e
    refine .inr ⟨_, rfl, fun j u hu => ?_⟩
    rw [List.getElem?_drop] at hu
    have := hc (n + j) u hu
    rw [Addr.add_lit] at this ⊢
    rw [show o + n + j = o + (n + j) by omega]
    exact this
theorem Rd.take {w : World} {A : Option Addr} {xs : List Value} (h : Rd w A xs) (n : Nat) : Rd w A (xs.take n) := by
  rcases h with rfl | ⟨ad, e, hc⟩
  · exact .inl (by simp)
  · refine .inr ⟨ad, e, fun j u hu => hc j u ?_⟩
    rw [List.getElem?_take] at hu
    split at hu
    · exact hu
    · cases hu
/-- s[i:] of a row of one's own (the address as the walk writes it, either way). -/
theorem Sl.from_ {w : World} {base e g size n cap : Nat} {xs : List Value} (h : w.ownsRow base e size (.slice (some ⟨g, 0, none⟩) n cap) n xs) (i : Nat) {off m c : Nat} (hi : i ≤ n) {A : Option Addr} (hA : A = some ⟨g, off, none⟩) (ho : i < n → off = i * size) (hm : m = n - i) (hmc : c = cap - i) :
    Sl w size (.slice A m c) m (xs.drop (i * size)) := by
  subst hm hmc
  obtain ⟨A', c', hv, hr, _, hc, _⟩ := Rd.of_own h
  injection hv with e1 _ e2
  subst e1 e2 hA
  have hl : (xs.drop (i * size)).length = (n - i) * size := by rw [List.length_drop, h.1, Nat.sub_mul]
  refine ⟨_, _, rfl, ?_, (fun e => by simp at e), by omega, hl⟩
  rcases Nat.lt_or_ge i n with hlt | hge
  · rw [ho hlt]
    simpa using hr.drop (i * size)
  · left
    apply List.eq_nil_of_length_eq_zero
    rw [hl, Nat.sub_eq_zero_of_le hge, Nat.zero_mul]
/-- s[:i] of a row of one's own. -/
theorem Sl.upto {w : World} {base e g size n cap : Nat} {xs : List Value} (h : w.ownsRow base e size (.slice (some ⟨g, 0, none⟩) n cap) n xs) (i : Nat) (hi : i ≤ n) : Sl w size (.slice (some ⟨g, 0, none⟩) i cap) i (xs.take (i * size)) := by
  obtain ⟨A', c', hv, hr, _, hc, _⟩ := Rd.of_own h
  injection hv with e1 _ e2
  subst e1 e2
  refine ⟨_, _, rfl, hr.take _, (fun e => by simp at e), by omega, ?_⟩
  rw [List.length_take, h.1, Nat.min_eq_left (Nat.mul_le_mul_right _ hi)]
theorem own_form {w : World} {base e size n : Nat} {v : Value} {xs : List Value} (h : w.ownsRow base e size v n xs) (hn : 0 < n) :
    ∃ g cap cur, v = .slice (some ⟨g, 0, none⟩) n cap ∧ w.heap[g]? = some (.cells cur e (0, 0)) ∧ n ≤ cap ∧ cap ≤ maxLen ∧ cur.size = cap * size ∧ cur.toList.take (n * size) = xs := by
  rcases h.2 with ⟨_, h0⟩ | ⟨g, cap, cur, hv, hb, hg, r⟩
  · omega
  · exact ⟨g, cap, cur, hv, hg, r⟩
end Go.Proofs.YtlcfnehmmjhoiaaGreat
