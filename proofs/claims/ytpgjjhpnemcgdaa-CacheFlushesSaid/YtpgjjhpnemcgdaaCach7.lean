/- Package cache: what lies in memory; the small methods. -/
import Derived.Test.YtpgjjhpnemcgdaaCach6
import Derived.Test.YtpgjjhpnemcgdaaMake
set_option linter.unusedSimpArgs false
set_option linter.unusedVariables false
namespace Go.Proofs.Ytpgjjhpnemcgdaa
open Go.RowKit

attribute [local go_sem ↓] Go.wp_at_zero Go.wp_at_succ
structure CaS where
  mode : Int
  since : Int
  size : Nat
  data : List UInt8
  known : List St
  dirty : List (Nat × List UInt8)
  lost : Int
theorem eltB : Elt Try.prog 23 5 1 1 := Elt.mk' (z := .int .u8 0) (by kernel_rfl) (by kernel_rfl) (by kernel_rfl) (by simp [Value.oneCell', Value.cells]) (by decide)
theorem eltP : Elt Try.prog 44 39 2 32 := Elt.mk' (z := .agg #[.int .i64 0, .slice none 0 0]) (by kernel_rfl) (by kernel_rfl) (by kernel_rfl) (by simp [Value.oneCell', Value.cells]) (by decide)
/-- Pieces and their slices' values. -/
def pcs (L : List ((Nat × List UInt8) × Value)) : List Value := L.flatMap fun p => [.int .i64 (p.1.1 : Int), p.2]
/-- Bytes that stand in a block of bytes that is none of D's. -/
def PD (D : Option Addr) (w : World) (p : (Nat × List UInt8) × Value) : Prop := ∃ A c, p.2 = .slice A p.1.2.length c ∧ Sl w 1 (.slice A p.1.2.length c) p.1.2.length (bv p.1.2) ∧ ∀ j, A.map (·.block) = some j → D.map (·.block) ≠ some j ∧ ∃ cs fr, w.heap[j]? = some (.cells cs 5 fr)
/-- A cache in block k; X: blocks that are another's. -/
structure CA (X : Nat → Prop) (k : Nat) (s : CaS) (w : World) (DA : Option Addr) (dc : Nat) (kv : Value) (YA : Option Addr) (yc : Nat) (L : List ((Nat × List UInt8) × Value)) : Prop where
  blk : w.heap[k]? = some (.cells #[.int .i64 s.mode, .int .i64 s.since, .int .i64 (s.size : Int), .slice DA s.data.length dc, kv, .slice YA s.dirty.length yc, .int .i64 s.lost] 46 (0, 0))
  data : w.ownsRow 0 5 1 (.slice DA s.data.length dc) s.data.length (bv s.data)
  known : SlN 0 w kv s.known
  dirty : w.ownsRow 0 39 2 (.slice YA s.dirty.length yc) s.dirty.length (pcs L)
  names : L.map Prod.fst = s.dirty
  pieces : ∀ p ∈ L, PD DA w p
  old : ∀ j, X j → j < w.heap.size
  notk : ¬ X k
  notd : ∀ j, DA.map (·.block) = some j → ¬ X j
  noty : ∀ j, YA.map (·.block) = some j → ¬ X j
def Ca (X : Nat → Prop) (k : Nat) (s : CaS) (w : World) : Prop := ∃ DA dc kv YA yc L, CA X k s w DA dc kv YA yc L
theorem within_walk (n : Int) (w : World) : Calls Try.prog 19 #[.int .i64 n] w fun e w' => e = .returned (.int .i64 (max 0 (min n 9728))) ∧ w' = w := by
  go_enter Try.func19, Try.ntmps19
  go_wp2
  all_goals
    go_ret
    refine ⟨congrArg (fun n => Ending.returned (.int .i64 n)) ?_, rfl⟩
    repeat' split
    all_goals omega
theorem clock_walk (n : Int) (w : World) : Calls Try.prog 18 #[.int .i64 n] w fun e w' => e = .returned (.int .i64 (max 0 (min n 1099511627776))) ∧ w' = w := by
  go_enter Try.func18, Try.ntmps18
  go_wp2
  all_goals
    go_ret
    refine ⟨congrArg (fun n => Ending.returned (.int .i64 n)) ?_, rfl⟩
    repeat' split
    all_goals omega
/-- What is kept of a cache when others' memory grows, or turns. -/
theorem CA.keep {X : Nat → Prop} {k : Nat} {s : CaS} {w w' : World} {DA : Option Addr} {dc : Nat} {kv : Value} {YA : Option Addr} {yc : Nat} {L : List ((Nat × List UInt8) × Value)} (h : CA X k s w DA dc kv YA yc L) {T : Nat → Prop} (hk : Keep T w w') (hT : ∀ j, T j → X j) (hknown : ∀ j cs fr, w.heap[j]? = some (.cells cs 52 fr) → ¬ T j) (hpc : ∀ p ∈ L, ∀ j, p.2.ownBlock = some j → ¬ T j) : CA X k s w' DA dc kv YA yc L := by
  refine ⟨hk.blk h.blk (fun hh => h.notk (hT _ hh)), own_keep h.data hk (fun j e hh => h.notd j (by rw [ownBlock_slice] at e; exact e) (hT _ hh)), h.known.keep hk (fun j cs fr _ hb => hknown j cs fr hb), own_keep h.dirty hk (fun j e hh => h.noty j (by rw [ownBlock_slice] at e; exact e) (hT _ hh)), h.names, fun p hp => ?_, fun j hj => Nat.lt_of_lt_of_le (h.old j hj) hk.size, h.notk, h.notd, h.noty⟩
  obtain ⟨A, c, e, hs, hA⟩ := h.pieces p hp
  have hn : ∀ j, A.map (·.block) = some j → ¬ T j := fun j hj => hpc p hp j (by rw [e, ownBlock_slice]; exact hj)
  refine ⟨A, c, e, hs.keep hk (fun j ej _ => hn j (by rw [ownBlock_slice] at ej; exact ej)), fun j hj => ?_⟩
  obtain ⟨h1, cs, fr, h2⟩ := hA j hj
  exact ⟨h1, cs, fr, hk.blk h2 (hn j hj)⟩
/-- When memory merely grows. -/
theorem CA.below {X : Nat → Prop} {k : Nat} {s : CaS} {w w' : World} {DA : Option Addr} {dc : Nat} {kv : Value} {YA : Option Addr} {yc : Nat} {L : List ((Nat × List UInt8) × Value)} (h : CA X k s w DA dc kv YA yc L) (hk : Below w.heap.size w w') : CA X k s w' DA dc kv YA yc L :=
  h.keep (T := fun _ => False) (Keep.of_below hk) (fun _ h => h.elim) (fun _ _ _ _ h => h) (fun _ _ _ _ h => h)
theorem CA.known_on {X : Nat → Prop} {k : Nat} {s : CaS} {w w' : World} {DA : Option Addr} {dc : Nat} {kv : Value} {YA : Option Addr} {yc : Nat} {L : List ((Nat × List UInt8) × Value)} (h : CA X k s w DA dc kv YA yc L) (hk : Keep (fun j => j = k) w w') : SlN 0 w' kv s.known :=
  h.known.keep hk (fun j cs fr _ hb e => by
    subst e
    have := h.blk.symm.trans hb
    injection this with this
    injection this with _ this _
    exact absurd this (by decide))
/-- When the cache's own cells turn. -/
theorem CA.upd {X : Nat → Prop} {k : Nat} {s s' : CaS} {w w' : World} {DA : Option Addr} {dc : Nat} {kv kv' : Value} {YA : Option Addr} {yc : Nat} {L : List ((Nat × List UInt8) × Value)} (h : CA X k s w DA dc kv YA yc L) (hk : Keep (fun j => j = k) w w') (hd : s'.data = s.data) (hy : s'.dirty = s.dirty)
    (hb : w'.heap[k]? = some (.cells #[.int .i64 s'.mode, .int .i64 s'.since, .int .i64 (s'.size : Int), .slice DA s.data.length dc, kv', .slice YA s.dirty.length yc, .int .i64 s'.lost] 46 (0, 0))) (hkn : SlN 0 w' kv' s'.known) : CA X k s' w' DA dc kv' YA yc L := by
  refine ⟨by rw [hd, hy]; exact hb, by rw [hd]; exact own_keep h.data hk (fun j e hj => own_ne_blk h.data h.blk (by decide) e hj), hkn, by rw [hy]; exact own_keep h.dirty hk (fun j e hj => own_ne_blk h.dirty h.blk (by decide) e hj), by rw [hy]; exact h.names, fun p hp => ?_, fun j hj => Nat.lt_of_lt_of_le (h.old j hj) hk.size, h.notk, h.notd, h.noty⟩
  obtain ⟨A, c, e, hs, hA⟩ := h.pieces p hp
  have hn : ∀ j, A.map (·.block) = some j → ¬ j = k := fun j hj ej => by
    obtain ⟨_, cs, fr, h2⟩ := hA j hj
    subst ej
    have := h.blk.symm.trans h2
    injection this with this
    injection this with _ this _
    exact absurd this (by decide)
  refine ⟨A, c, e, hs.keep hk (fun j ej _ => hn j (by rw [ownBlock_slice] at ej; exact ej)), fun j hj => ?_⟩
  obtain ⟨h1, cs, fr, h2⟩ := hA j hj
  exact ⟨h1, cs, fr, hk.blk h2 (hn j hj)⟩
theorem SlN.nil (base : Nat) (w : World) : SlN base w (.slice none 0 0) [] := ⟨none, 0, rfl, ⟨none, 0, rfl, .inl rfl, fun _ => ⟨rfl, rfl⟩, Nat.le_refl _, rfl⟩, fun k e => by simp at e, .inl rfl⟩
theorem blk_set4 {w : World} {k j : Nat} {cs cs' : Array Value} {t : TypeId} (h : w.heap[k]? = some (.cells cs t (0, 0))) (v : Value) (hc : cs.setIfInBounds j v = cs') : (w.setCell ⟨k, j, none⟩ v).heap[k]? = some (.cells cs' t (0, 0)) := by rw [← hc]; exact blk_set h v
end Go.Proofs.Ytpgjjhpnemcgdaa
