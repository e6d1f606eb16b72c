/- What a post is in memory; Send. -/
import Derived.Test.YthpgdoepbkgacaaPost1
import Derived.Deep.RegionLaw
import Derived.Deep.DrawnRows
set_option linter.unusedSimpArgs false
set_option linter.unusedVariables false
namespace Go.Proofs.Ythpgdoepbkgacaa
open Go.RowKit

theorem eltLetter : Elt Try.prog 25 28 3 40 := Elt.mk' (z := .agg #[.int .i64 0, .int .i64 0, .slice none 0 0]) Try.underlying25 (by kernel_rfl) rfl (by simp [Value.cells, Value.oneCell']) (by decide)

/-- A letter that the post owns. -/
def CL.own (w : World) (S : Nat → Prop) (l : CL) : Prop := w.ownsRow 0 5 1 l.sl l.data.length (bv l.data) ∧ l.data.length ≤ 140737488355328 ∧ ∀ k, l.sl.ownBlock = some k → S k

/-- The post at block g, the letters L on the way; its memory lies in S. -/
structure IsPostV (w : World) (g : Nat) (S : Nat → Prop) (L : List CL) (A : Option Addr) (c : Nat) : Prop where
  blk : w.heap[g]? = some (.cells #[.slice A L.length c] 44)
  own : w.ownsRow 0 28 3 (.slice A L.length c) L.length (L.flatMap CL.cells)
  row : ∀ k, (Value.slice A L.length c).ownBlock = some k → S k
  let_ : ∀ l ∈ L, l.own w S
  self : S g
  lt : ∀ k, S k → k < w.heap.size
  few : L.length ≤ 64
def IsPost (w : World) (g : Nat) (S : Nat → Prop) (L : List CL) : Prop := ∃ A c, IsPostV w g S L A c

theorem IsPostV.keep {w w1 : World} {g : Nat} {S T : Nat → Prop} {L : List CL} {A : Option Addr} {c : Nat} (h : IsPostV w g S L A c) (hk : Keep T w w1) (hT : ∀ k, S k → ¬ T k) : IsPostV w1 g S L A c :=
  ⟨hk.blk h.blk (hT g h.self), own_keep h.own hk (fun k hk => hT k (h.row k hk)), h.row, fun l hl => ⟨own_keep (h.let_ l hl).1 hk (fun k hk => hT k ((h.let_ l hl).2.2 k hk)), (h.let_ l hl).2⟩, h.self, fun k hs => Nat.lt_of_lt_of_le (h.lt k hs) hk.size, h.few⟩
theorem IsPost.keep {w w1 : World} {g : Nat} {S T : Nat → Prop} {L : List CL} (h : IsPost w g S L) (hk : Keep T w w1) (hT : ∀ k, S k → ¬ T k) : IsPost w1 g S L := by
  obtain ⟨A, c, h⟩ := h
  exact ⟨A, c, h.keep hk hT⟩

/-- Behind a call of the post: its letters are L', and nothing else has turned. -/
def Sent (w : World) (g : Nat) (S : Nat → Prop) (w' : World) (L' : List CL) : Prop := ∃ S' : Nat → Prop, IsPost w' g S' L' ∧ Keep S w w' ∧ ∀ k, S' k → S k ∨ w.heap.size ≤ k

set_option maxHeartbeats 400000 in
theorem send_nil (f t : Int) (A : Option Addr) (n c : Nat) (w : World) :
    Calls Try.prog 8 #[.pointer none, .agg #[.int .i64 f, .int .i64 t, .slice A n c]] w fun e w' => e = .returned (.int .i64 1) ∧ Below w.heap.size w w' := by
  go_enter Try.func8, Try.ntmps8
  go_wp2
  go_ret
  exact ⟨rfl, (Below.refl _ _).alloc (Nat.le_refl _) _⟩

set_option maxHeartbeats 400000 in
theorem send_full (f t : Int) (A : Option Addr) (n c : Nat) (w : World) (g : Nat) (S : Nat → Prop) (L : List CL) (hp : IsPost w g S L) (hL : 64 ≤ L.length) :
    Calls Try.prog 8 #[.pointer (some ⟨g, 0, none⟩), .agg #[.int .i64 f, .int .i64 t, .slice A n c]] w fun e w' => e = .returned (.int .i64 9) ∧ Below w.heap.size w w' := by
  obtain ⟨B, d, hp⟩ := hp
  have hc := blk_cells hp.blk
  have hg := blk_lt hp.blk
  have h64 : (64 : Int) ≤ L.length := by omega
  clear hp
  go_enter Try.func8, Try.ntmps8
  go_wp2
  go_ret
  exact ⟨rfl, (Below.refl _ _).alloc (Nat.le_refl _) _⟩

theorem IsPostV.ne {w : World} {g : Nat} {S : Nat → Prop} {L : List CL} {A : Option Addr} {c : Nat} (h : IsPostV w g S L A c) : ¬ (Value.slice A L.length c).ownBlock = some g := by
  intro e
  obtain ⟨cur, hc⟩ := own_blk h.own e
  exact blk_ne hc h.blk (by decide) rfl
theorem flat_len (L : List CL) : (L.flatMap CL.cells).length = L.length * 3 := by
  induction L with
  | nil => rfl
  | cons a l ih => simp only [List.flatMap_cons, List.length_append, ih, CL.cells, List.length_cons, List.length_nil]; omega

theorem sent_close {w w1 w2 : World} {g : Nat} {S : Nat → Prop} {L : List CL} {B : Option Addr} {r n : Nat} (f t : Int) {A' A2 : Option Addr} {c' c2 : Nat} {d : List UInt8} (hp : IsPostV w g S L B r) (hL : L.length < 64)
    (hn : d.length = n) (hn2 : n ≤ 140737488355328) (h1 : w1.ownsRow 0 5 1 (.slice A' n c') n (bv d)) (h2 : ∀ k, (Value.slice A' n c').ownBlock = some k → w.heap.size + 1 ≤ k)
    (hk : Keep (fun _ => False) w w1) (g1 : w2.ownsRow 0 28 3 (.slice A2 (L.length + 1) c2) (L.length + 1) (L.flatMap CL.cells ++ [.int .i64 f, .int .i64 t, .slice A' n c']))
    (g2 : Keep (fun k => (Value.slice B L.length r).ownBlock = some k) (w1.alloc (.cells #[.int .i64 f, .int .i64 t, .slice A' n c'] 28)) w2)
    (g3 : (Value.slice A2 (L.length + 1) c2).ownBlock = (Value.slice B L.length r).ownBlock ∨ (Value.slice A2 (L.length + 1) c2).ownBlock = some (w1.heap.size + 1)) :
    Sent w g S (w2.setCell ⟨g, 0, none⟩ (.slice A2 (L.length + 1) c2)) (L ++ [⟨f, t, A', c', d⟩]) := by
  subst hn
  have ht : (L ++ [(⟨f, t, A', c', d⟩ : CL)]).length = L.length + 1 := by simp
  have hp1 := hp.keep hk (fun _ _ h => h)
  -- from w to the end: the row and g
  have k2 : Keep (fun k => (Value.slice B L.length r).ownBlock = some k) w1 w2 := ((Keep.refl _ w1).alloc _).trans g2 (fun _ _ h => h)
  have k3 : Keep (fun k => (Value.slice B L.length r).ownBlock = some k ∨ k = g) w1 (w2.setCell ⟨g, 0, none⟩ (.slice A2 (L.length + 1) c2)) := (k2.mono (fun _ _ h => .inl h)).setCell (fun _ => .inr rfl) _
  have b2 := k2.blk hp1.blk hp.ne
  have hs3 : (w2.setCell ⟨g, 0, none⟩ (.slice A2 (L.length + 1) c2)).heap.size = w2.heap.size := by simp [World.setCell]
  have hrow : ∀ k, (Value.slice A2 (L.length + 1) c2).ownBlock = some k → S k ∨ w.heap.size ≤ k := by
    intro k hk'
    rcases g3 with e | e <;> rw [e] at hk'
    · exact .inl (hp.row k hk')
    · have := hk.size; right; injection hk' with hk'; omega
  refine ⟨fun k => S k ∨ (Value.slice A2 (L.length + 1) c2).ownBlock = some k ∨ (Value.slice A' d.length c').ownBlock = some k, ⟨A2, c2, ?_⟩, ?_, ?_⟩
  · refine ⟨?_, ?_, ?_, ?_, .inl hp.self, ?_, ?_⟩
    · rw [ht]; simpa using blk_set (j := 0) b2 (.slice A2 (L.length + 1) c2)
    · rw [ht]
      have : (L ++ [(⟨f, t, A', c', d⟩ : CL)]).flatMap CL.cells = L.flatMap CL.cells ++ [.int .i64 f, .int .i64 t, .slice A' d.length c'] := by simp [CL.cells, CL.sl]
      rw [this]
      exact own_keep g1 ((Keep.refl (fun k => k = g) w2).setCell (fun _ => rfl) _) (fun k hk' e => own_ne_blk g1 b2 (by decide) hk' e)
    · rw [ht]; exact fun k h => .inr (.inl h)
    · intro l hl
      rcases List.mem_append.1 hl with hl | hl
      · have h := hp1.let_ l hl
        refine ⟨own_keep h.1 k3 (fun k hk' e => ?_), h.2.1, fun k hk' => .inl (h.2.2 k hk')⟩
        rcases e with e | e
        · exact own_ne h.1 hp1.own (by decide) hk' e
        · exact own_ne_blk h.1 hp1.blk (by decide) hk' e
      · obtain rfl : l = ⟨f, t, A', c', d⟩ := by simpa using hl
        refine ⟨own_keep h1 k3 (fun k hk' e => ?_), hn2, fun k hk' => .inr (.inr hk')⟩
        rcases e with e | e
        · exact own_ne h1 hp1.own (by decide) hk' e
        · exact own_ne_blk h1 hp1.blk (by decide) hk' e
    · intro k hk'
      have := hk.size
      have := k2.size
      rcases hk' with h | h | h
      · have := hp.lt k h; omega
      · have := own_lt g1 h; omega
      · have := own_lt h1 h; omega
    · rw [ht]; omega
  · refine (hk.mono (T := S) (fun _ _ h => h.elim)).trans k3 ?_
    intro i hi h
    rcases h with h | h
    · exact hp.row i h
    · subst h; exact hp.self
  · intro k h
    rcases h with h | h | h
    · exact .inl h
    · exact hrow k h
    · have := h2 k h; exact .inr (by omega)

attribute [local go_sem ↓] Go.wp_at_zero Go.wp_at_succ
set_option maxHeartbeats 1000000 in
theorem send_ok (f t : Int) (A : Option Addr) (n c : Nat) (d : List UInt8) (w : World) (g : Nat) (S : Nat → Prop) (L : List CL) (hp : IsPost w g S L) (hL : L.length < 64) (hx : Sl w 1 (.slice A n c) n (bv d)) (hn : n ≤ 140737488355328) :
    Calls Try.prog 8 #[.pointer (some ⟨g, 0, none⟩), .agg #[.int .i64 f, .int .i64 t, .slice A n c]] w fun e w' => e = .returned (.int .i64 0) ∧ ∃ A' c', Sent w g S w' (L ++ [⟨f, t, A', c', d⟩]) := by
  obtain ⟨B, r, hp⟩ := hp
  have hc := blk_cells hp.blk
  have hf := blk_frees hp.blk
  have hg := blk_lt hp.blk
  have h64 : (L.length : Int) < 64 := by omega
  have HP := Lib.hid hp
  have Hx := Lib.hid hx
  have Hne := Lib.hid hp.ne
  clear hp hx
  go_enter Try.func8, Try.ntmps8
  go_wp2
  go_region_law (first | (go_simp; go_at_call 14; refine (clone_any f t A n c d _ (Hx.out.below ((Below.refl _ _).alloc (Nat.le_refl _) _).drew) hn).mono ?_; rintro e w1 ⟨A', c', rfl, h1, h2, h3⟩; have HP1 := Lib.hid (HP.out.keep (((Keep.refl (fun _ => False) w).alloc _).drew.trans (Keep.of_below (S := fun _ => False) h3) (fun _ _ h => h)) (fun _ _ h => h)); have c1 := blk_cells HP1.out.blk; have f1 := blk_frees HP1.out.blk; have l1 := blk_lt HP1.out.blk;  have H1 := Lib.hid h1; have H2 := Lib.hid h2; have H3 := Lib.hid h3; clear h1 h2 h3) | (go_must (refine step_app (by rfl) eltLetter (by rfl) (by rfl) (by rfl) (HP1.out.keep ((Keep.refl (fun _ => False) _).alloc _) (fun _ _ h => h)).own (Sl.of_own (own_new w1 #[.int .i64 f, .int .i64 t, .slice A' n c'] 28 3 1 rfl (by decide))) (by simp [Value.oneCell']) (by omega) (by simp only [maxLen]; omega) ?_; intro v2 w2 g1 g2 g3 g4; obtain ⟨A2, c2, rfl, _⟩ := Rd.of_own g1; have b2 := g2.blk (blk_old HP1.out.blk _) Hne.out; have cw2 := blk_cells b2; have fw2 := blk_frees b2; have G1 := Lib.hid g1; have G2 := Lib.hid g2; have G3 := Lib.hid g3; clear g1 g2 g3 g4 b2)))
  all_goals
    go_wp2
    go_ret
    exact ⟨rfl, A', c', sent_close f t HP.out hL (by obtain ⟨_, _, _, _, _, _, h⟩ := Hx.out; simpa [bv] using h) hn H1.out (by simpa using H2.out) (((Keep.refl (fun _ => False) w).alloc _).drew.trans (Keep.of_below (S := fun _ => False) H3.out) (fun _ _ h => h)) G1.out G2.out (by simpa using G3.out)⟩
end Go.Proofs.Ythpgdoepbkgacaa
