/- entry.Slots. -/
import Derived.Test.YtcganoomgdabkaaDoorSlots0
set_option linter.unusedSimpArgs false
set_option linter.unusedVariables false
namespace Go.Proofs.YtcganoomgdabkaaDoor
open Go.RowKit Go.Shelf

attribute [local go_sem] Oper.semAt_some

def stepR : Option (List RW) → Str → Option (List RW)
  | some l, c => match decP c with
    | some r => if (findP l r.name).isSome then none else some (l ++ [r])
    | none => none
  | none, _ => none
def chunkB (b : Str) (i : Nat) : Str := (b.drop (32 * i)).take 32
def foldR (b : Str) {N : Nat} (pre : List (Fin N)) : Option (List RW) := pre.foldl (fun o x => stepR o (chunkB b x.val)) (some [])
def slotsP (b : Str) : Option (List RW) := if b.length % 32 = 0 then foldR b (List.finRange (b.length / 32)) else none
theorem foldR_snoc (b : Str) {N : Nat} (pre : List (Fin N)) (x : Fin N) : foldR b (pre ++ [x]) = stepR (foldR b pre) (chunkB b x.val) := by simp [foldR]
theorem foldR_more (b : Str) {N : Nat} (pre rest : List (Fin N)) (h : foldR b pre = none) : foldR b (pre ++ rest) = none := by
  induction rest generalizing pre with
  | nil => simpa using h
  | cons x rest ih =>
    rw [show pre ++ x :: rest = (pre ++ [x]) ++ rest by simp]
    exact ih (pre ++ [x]) (by rw [foldR_snoc, h]; rfl)
theorem foldR_none (b : Str) {N : Nat} (pre : List (Fin N)) : pre.foldl (fun o x => stepR o (chunkB b x.val)) none = none := by
  induction pre with
  | nil => rfl
  | cons x pre ih => exact ih
theorem foldR_len (b : Str) {N : Nat} (pre : List (Fin N)) : ∀ l0 l, pre.foldl (fun o x => stepR o (chunkB b x.val)) (some l0) = some l → l.length = l0.length + pre.length := by
  induction pre with
  | nil => intro l0 l h; simp at h; subst h; rfl
  | cons x pre ih =>
    intro l0 l h
    simp only [List.foldl_cons] at h
    cases hp : stepR (some l0) (chunkB b x.val) with
    | none => rw [hp, foldR_none] at h; cases h
    | some l1 =>
      rw [hp] at h
      have h1 := ih l1 l h
      have h2 : l1.length = l0.length + 1 := by
        simp only [stepR] at hp
        split at hp
        · split at hp
          · cases hp
          · cases hp; simp
        · cases hp
      rw [h1, h2, List.length_cons]
      omega
theorem foldR_length (b : Str) {N : Nat} (pre : List (Fin N)) (l : List RW) (h : foldR b pre = some l) : l.length = pre.length := by
  have := foldR_len b pre [] l h
  simpa using this
def SlotsEnd (r : Option (List RW)) (w : World) (e : Ending) (w' : World) : Prop :=
  Below w.heap.size w w' ∧ match r with
  | some l => ∃ A, e = .returned (.tuple #[.slice A l.length l.length, .int .i64 0]) ∧ Sl w' 2 (.slice A l.length l.length) l.length (rows l)
  | none => e = .returned (.tuple #[.slice none 0 0, .int .i64 2])
theorem keepsFrom_below {B : Nat} {W W' : World} (h : Below W.heap.size W W') : KeepsFrom B W W' :=
  ⟨h.size, fun k o _ hk _ => (h.block k (Array.getElem?_eq_some_iff.1 hk).1).trans hk⟩
theorem boxed_below {W W' : World} {B : Nat} {t : TypeId} {v : Value} (h : Boxed W B t v) (hb : Below W.heap.size W W') : Boxed W' B t v := (hb.block B h.lt).trans h
theorem boxed_ownK {β : Type} (B : Nat) (t : TypeId) (v : Value) : Own (fun (_ : β) W => Boxed W B t v) := by
  intro s X Y row hv hg hrow
  refine hv.kept hg (fun e' => ?_)
  obtain ⟨o, ho, hc⟩ := hrow B e'.symm
  rw [show X.heap[B]? = _ from hv] at ho; cases ho; cases hc
/-- Between two rounds: from world w on; u: the value in the iterator's box. -/
def SI (b : Str) (N : Nat) (w : World) (u : Value) (pre : List (Fin N)) (W : World) : Prop :=
  ((∃ v, Boxed W (w.heap.size + 1 + 1) 35 v ∧ W.ownsRow w.heap.size 23 2 v ((foldR b pre).getD []).length (rows ((foldR b pre).getD [])) ∧ (foldR b pre).isSome = true) ∧
    (Boxed W w.heap.size 35 (.slice none 0 0) ∧ Boxed W (w.heap.size + 1) 25 (.int .i64 0)) ∧ Boxed W (w.heap.size + 1 + 1 + 1) 24 u ∧ Boxed W (w.heap.size + 1 + 1 + 1 + 1) 3 (.int .i64 32)) ∧ Below w.heap.size w W
def SX (b : Str) (N : Nat) (w : World) (c : Code) (pre : List (Fin N)) (W : World) : Prop :=
  ((c = .ret ∧ foldR b pre = none) ∧ (Boxed W w.heap.size 35 (.slice none 0 0) ∧ Boxed W (w.heap.size + 1) 25 (.int .i64 2))) ∧ Below w.heap.size w W
theorem own_and {β : Type} {I J : β → World → Prop} (h : Own I) (k : Own J) : Own (fun s W => I s W ∧ J s W) := fun s X Y row hs hg hr => ⟨h s X Y row hs.1 hg hr, k s X Y row hs.2 hg hr⟩
theorem SI_own (b : Str) (N : Nat) (w : World) (u : Value) (B : Nat) (hB : w.heap.size ≤ B) : OwnFrom B (SI b N w u) :=
  OwnFrom.and (Own.from (own_and (holdsRow_own w.heap.size (w.heap.size + 1 + 1) 35 23 2 (fun pre => ((foldR b pre).getD []).length) (fun pre => rows ((foldR b pre).getD [])) (fun pre _ => (foldR b pre).isSome = true))
    (own_and (own_and (boxed_ownK _ _ _) (boxed_ownK _ _ _)) (own_and (boxed_ownK _ _ _) (boxed_ownK _ _ _)))) _) (ownFrom_below (Nat.le_refl _) hB)
theorem SX_own (b : Str) (N : Nat) (w : World) (c : Code) (B : Nat) (hB : w.heap.size ≤ B) : OwnFrom B (SX b N w c) :=
  OwnFrom.and (Own.from (own_and (fun s X Y row hs hg hr => hs) (own_and (boxed_ownK _ _ _) (boxed_ownK _ _ _))) _) (ownFrom_below (Nat.le_refl _) hB)
/-- The world in which the loop begins. -/
def SW (w : World) (v : Value) : World := ((((w.alloc (.cells #[.slice none 0 0] 35)).alloc (.cells #[.int .i64 0] 25)).alloc (.cells #[.slice none 0 0] 35)).alloc (.cells #[v] 24)).alloc (.cells #[.int .i64 32] 3)
theorem SW_fact (w : World) (v : Value) : (SW w v).heap.size = w.heap.size + 1 + 1 + 1 + 1 + 1 ∧ Below w.heap.size w (SW w v) ∧ Boxed (SW w v) w.heap.size 35 (.slice none 0 0) ∧ Boxed (SW w v) (w.heap.size + 1) 25 (.int .i64 0) ∧ Boxed (SW w v) (w.heap.size + 1 + 1) 35 (.slice none 0 0) ∧
    Boxed (SW w v) (w.heap.size + 1 + 1 + 1) 24 v ∧ Boxed (SW w v) (w.heap.size + 1 + 1 + 1 + 1) 3 (.int .i64 32) := by
  unfold SW
  have x1 := Boxed.new w 35 (.slice none 0 0)
  have k1 := (Below.refl w.heap.size w).alloc (Nat.le_refl _) (.cells #[.slice none 0 0] 35)
  generalize hw1 : w.alloc (.cells #[.slice none 0 0] 35) = v1 at *
  have z1 : v1.heap.size = w.heap.size + 1 := by subst hw1; simp
  have x2 := Boxed.new v1 25 (.int .i64 0)
  have y1 := x1.alloc (.cells #[.int .i64 0] 25)
  have k2 := k1.alloc (by omega) (.cells #[.int .i64 0] 25)
  generalize hw2 : v1.alloc (.cells #[.int .i64 0] 25) = v2 at *
  have z2 : v2.heap.size = w.heap.size + 1 + 1 := by subst hw2; simp; omega
  have x3 := Boxed.new v2 35 (.slice none 0 0)
  have u1 := y1.alloc (.cells #[.slice none 0 0] 35)
  have u2 := x2.alloc (.cells #[.slice none 0 0] 35)
  have k3 := k2.alloc (by omega) (.cells #[.slice none 0 0] 35)
  generalize hw3 : v2.alloc (.cells #[.slice none 0 0] 35) = v3 at *
  have z3 : v3.heap.size = w.heap.size + 1 + 1 + 1 := by subst hw3; simp; omega
  have x4 := Boxed.new v3 24 v
  have s1 := u1.alloc (.cells #[v] 24)
  have s2 := u2.alloc (.cells #[v] 24)
  have s3 := x3.alloc (.cells #[v] 24)
  have k4 := k3.alloc (by omega) (.cells #[v] 24)
  generalize hw4 : v3.alloc (.cells #[v] 24) = v4 at *
  have z4 : v4.heap.size = w.heap.size + 1 + 1 + 1 + 1 := by subst hw4; simp; omega
  have x5 := Boxed.new v4 3 (.int .i64 32)
  rw [z1] at s2
  rw [z2] at s3
  rw [z3] at x4
  rw [z4] at x5
  exact ⟨by simp; omega, k4.alloc (by omega) _, s1.alloc _, s2.alloc _, s3.alloc _, x4.alloc _, x5⟩
/-- What a round may write. -/
def SS (w : World) : Nat → Prop := fun k => w.heap.size ≤ k ∧ k ≠ w.heap.size + 1 + 1 + 1 ∧ k ≠ w.heap.size + 1 + 1 + 1 + 1
theorem keep_putObj {W : World} {l : Nat} {S : Nat → Prop} (o' : Obj) (h : S l) : Keep S W (W.putObj l o') :=
  (Keep.of_grown (grownBy_putObj' W l o')).mono (fun i _ e => by injection e with e; exact e ▸ h)
theorem boxed_set_ne {W : World} {B C : Nat} {t : TypeId} {v u : Value} (h : Boxed W B t v) (hne : B ≠ C) : Boxed (W.setCell ⟨C, 0, none⟩ u) B t v := (Below.heap_setCell _ _ _ _ hne).trans h
/-- A round goes on: one row more. -/
theorem si_next {b : Str} {N : Nat} {w W3 w4 : World} {u : Value} {pre : List (Fin N)} {x : Fin N} {ls : List RW} {r : RW} {A : Option Addr} {c g' cap' : Nat} {tmp : Obj} (hso : foldR b (pre ++ [x]) = some (ls ++ [r])) (V3 : Boxed W3 (w.heap.size + 1 + 1) 35 (.slice A ls.length c))
    (R3 : W3.ownsRow w.heap.size 23 2 (.slice A ls.length c) ls.length (rows ls)) (E1 : Boxed W3 w.heap.size 35 (.slice none 0 0)) (E2 : Boxed W3 (w.heap.size + 1) 25 (.int .i64 0)) (E3 : Boxed W3 (w.heap.size + 1 + 1 + 1) 24 u) (E4 : Boxed W3 (w.heap.size + 1 + 1 + 1 + 1) 3 (.int .i64 32))
    (HB : Below w.heap.size w W3) (hown' : w4.ownsRow w.heap.size 23 2 (.slice (some ⟨g', 0, none⟩) (ls.length + 1) cap') (ls.length + 1) (rows ls ++ r.cells)) (hgrow : (W3.alloc tmp).grownBy w4 (Value.slice A ls.length c).ownBlock) :
    Boxed w4 (w.heap.size + 1 + 1) 35 (.slice A ls.length c) ∧ KeepsOthers W3 (w4.setCell ⟨w.heap.size + 1 + 1, 0, none⟩ (.slice (some ⟨g', 0, none⟩) (ls.length + 1) cap')) ∧ Keep (SS w) W3 (w4.setCell ⟨w.heap.size + 1 + 1, 0, none⟩ (.slice (some ⟨g', 0, none⟩) (ls.length + 1) cap')) ∧
      SI b N w u (pre ++ [x]) (w4.setCell ⟨w.heap.size + 1 + 1, 0, none⟩ (.slice (some ⟨g', 0, none⟩) (ls.length + 1) cap')) := by
  obtain ⟨hv1, hv2, hr2, hk2, hb2⟩ := V3.appended (by decide) R3 HB.size (show w.heap.size ≤ w.heap.size + 1 + 1 by omega) hown' hgrow
  have far : ∀ {B : Nat} {t : TypeId} {v : Value}, Boxed W3 B t v → t ≠ 23 → B ≠ w.heap.size + 1 + 1 → Boxed (w4.setCell ⟨w.heap.size + 1 + 1, 0, none⟩ (.slice (some ⟨g', 0, none⟩) (ls.length + 1) cap')) B t v :=
    fun h ht hne => boxed_set_ne ((h.alloc tmp).kept hgrow (h.not_row ht R3)) hne
  have hbase : ∀ k, (Value.slice A ls.length c).ownBlock = some k → w.heap.size ≤ k := by
    intro k e
    rcases R3.2 with ⟨e2, _⟩ | ⟨g, cap, cur, e2, hb, _⟩
    · rw [e2] at e; cases e
    · rw [e2] at e; injection e with e; exact e ▸ hb
  refine ⟨hv1, hk2, ?_, ⟨⟨_, hv2, by rw [hso]; simp only [Option.getD_some, rows_snoc, List.length_append, List.length_cons, List.length_nil]; exact hr2, by rw [hso]; rfl⟩, ⟨far E1 (by decide) (by omega), far E2 (by decide) (by omega)⟩, far E3 (by decide) (by omega), far E4 (by decide) (by omega)⟩, HB.trans hb2⟩
  refine ((((Keep.refl (fun _ => False) W3).alloc tmp).mono (T := SS w) (fun _ _ h => h.elim)).trans (Keep.of_grown hgrow) (fun i hi e => ?_)).setCell (fun _ => ⟨by show w.heap.size ≤ w.heap.size + 1 + 1; omega, by show w.heap.size + 1 + 1 ≠ _; omega, by show w.heap.size + 1 + 1 ≠ _; omega⟩) _
  exact ⟨hbase i e, fun h => E3.not_row (by decide) R3 (by rw [e, h]), fun h => E4.not_row (by decide) R3 (by rw [e, h])⟩
end Go.Proofs.YtcganoomgdabkaaDoor
