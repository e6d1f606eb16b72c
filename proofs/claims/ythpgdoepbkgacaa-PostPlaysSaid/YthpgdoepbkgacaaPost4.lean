/- Take, Twin, Letters. -/
import Derived.Test.YthpgdoepbkgacaaPost3
set_option linter.unusedSimpArgs false
set_option linter.unusedVariables false
namespace Go.Proofs.Ythpgdoepbkgacaa
open Go.RowKit

theorem there_nil (k : Int) (w : World)  :
    Calls Try.prog 15 #[.pointer none, .int .i64 k] w fun e w' => e = .returned (.int .i64 1) ∧ w = w' := by
  go_enter Try.func15, Try.ntmps15
  go_wp2
  go_ret
  exact ⟨rfl, rfl⟩
theorem there_bad (g n c : Nat) (A : Option Addr) (k : Int) (w : World) (hk : k < 0 ∨ n ≤ k) (hc : w.cell? ⟨g, 0, none⟩ = some (.slice A n c)) :
    Calls Try.prog 15 #[.pointer (some ⟨g, 0, none⟩), .int .i64 k] w fun e w' => e = .returned (.int .i64 7) ∧ w = w' := by
  by_cases h0 : k < 0
  · clear hk
    go_enter Try.func15, Try.ntmps15
    go_wp2
    go_ret
    exact ⟨rfl, rfl⟩
  · have hk' : (n : Int) ≤ k := by omega
    clear hk
    go_enter Try.func15, Try.ntmps15
    go_wp2
    go_ret
    exact ⟨rfl, rfl⟩
theorem there_ok (g n c : Nat) (A : Option Addr) (k : Int) (w : World) (hk : 0 ≤ k) (hk2 : k < n) (hc : w.cell? ⟨g, 0, none⟩ = some (.slice A n c)) :
    Calls Try.prog 15 #[.pointer (some ⟨g, 0, none⟩), .int .i64 k] w fun e w' => e = .returned (.int .i64 0) ∧ w = w' := by
  go_enter Try.func15, Try.ntmps15
  go_wp2
  go_ret
  exact ⟨rfl, rfl⟩

/-- What Take answers beside an error. -/
def noLetter : Value := .agg #[.int .i64 0, .int .i64 0, .slice none 0 0]
set_option maxHeartbeats 400000 in
theorem take_nil (k : Int) (w : World) :
    Calls Try.prog 9 #[.pointer none, .int .i64 k] w fun e w' => e = .returned (.tuple #[noLetter, .int .i64 1]) ∧ Below w.heap.size w w' := by
  go_enter Try.func9, Try.ntmps9
  go_wp2_with (go_at_call 15; refine (there_nil _ _).mono ?_; rintro e w1 ⟨rfl, rfl⟩)
  refine bodyPost_ret (v := .tuple #[noLetter, .int .i64 1]) (by simp [results, Try.results9, go_sem, noLetter]) rfl ⟨rfl, ?_⟩
  exact (((Below.refl _ _).alloc (Nat.le_refl _) _))
set_option maxHeartbeats 400000 in
theorem take_bad (g : Nat) (S : Nat → Prop) (L : List CL) (k : Int) (w : World) (hp : IsPost w g S L) (hk : k < 0 ∨ L.length ≤ k) :
    Calls Try.prog 9 #[.pointer (some ⟨g, 0, none⟩), .int .i64 k] w fun e w' => e = .returned (.tuple #[noLetter, .int .i64 7]) ∧ Below w.heap.size w w' := by
  obtain ⟨A, c, hp⟩ := hp
  have hc := blk_cells hp.blk
  have hg := blk_lt hp.blk
  have Hk := Lib.hid hk
  clear hp hk
  go_enter Try.func9, Try.ntmps9
  go_wp2_with (go_at_call 15; refine (there_bad g L.length c A k _ Hk.out (((Keep.refl (fun _ => False) _).alloc _).cell ((hc 0).trans rfl) id)).mono ?_; rintro e w1 ⟨rfl, rfl⟩)
  refine bodyPost_ret (v := .tuple #[noLetter, .int .i64 7]) (by simp [results, Try.results9, go_sem, noLetter]) rfl ⟨rfl, ?_⟩
  exact (((Below.refl _ _).alloc (Nat.le_refl _) _))

theorem flat_get (L : List CL) (k : Nat) (hk : k < L.length) : (L.flatMap CL.cells)[k * 3]? = some (.int .i64 L[k].frm) ∧ (L.flatMap CL.cells)[k * 3 + 1]? = some (.int .i64 L[k].dst) ∧ (L.flatMap CL.cells)[k * 3 + 2]? = some L[k].sl := by
  induction L generalizing k with
  | nil => simp at hk
  | cons a l ih =>
    cases k with
    | zero => simp [CL.cells]
    | succ k =>
      obtain ⟨h1, h2, h3⟩ := ih k (by simpa using hk)
      have e0 : (k + 1) * 3 = k * 3 + 3 := by omega
      simp only [List.flatMap_cons, e0, List.getElem_cons_succ]
      rw [show k * 3 + 3 = a.cells.length + k * 3 by simp [CL.cells]; omega, show a.cells.length + k * 3 + 1 = a.cells.length + (k * 3 + 1) by omega, show a.cells.length + k * 3 + 2 = a.cells.length + (k * 3 + 2) by omega]
      simp only [List.getElem?_append_right (Nat.le_add_right _ _), Nat.add_sub_cancel_left]
      exact ⟨h1, h2, h3⟩
theorem flat_one (L : List CL) : ∀ u ∈ L.flatMap CL.cells, u.oneCell' = true := by
  intro u hu
  obtain ⟨l, _, h⟩ := List.mem_flatMap.1 hu
  simp only [CL.cells, List.mem_cons, List.not_mem_nil, or_false] at h
  rcases h with rfl | rfl | rfl <;> rfl
theorem flat_erase (L : List CL) (k : Nat) : (L.flatMap CL.cells).take (k * 3) ++ (L.flatMap CL.cells).drop ((k + 1) * 3) = (L.eraseIdx k).flatMap CL.cells := by
  induction L generalizing k with
  | nil => simp
  | cons a l ih =>
    cases k with
    | zero => simp [CL.cells]
    | succ k =>
      have := ih k
      simp only [List.flatMap_cons, List.eraseIdx_cons_succ]
      have hl : a.cells.length = 3 := rfl
      rw [List.take_append, List.drop_append, List.take_of_length_le (by omega), List.drop_of_length_le (by omega), hl, List.nil_append, List.append_assoc, show (k + 1) * 3 - 3 = k * 3 by omega, show (k + 1 + 1) * 3 - 3 = (k + 1) * 3 by omega, this]

theorem take_close {w w1 : World} {g b c : Nat} {S : Nat → Prop} {L : List CL} {k : Nat} (hk : k < L.length) (hp : IsPostV w g S L (some ⟨b, 0, none⟩) c) (hk1 : Keep (fun i => i = b) w w1)
    (o1 : w1.ownsRow 0 28 3 (.slice (some ⟨b, 0, none⟩) (L.length - 1) c) (L.length - 1) ((L.flatMap CL.cells).take (k * 3) ++ (L.flatMap CL.cells).drop ((k + 1) * 3))) :
    IsPostV (w1.setCell ⟨g, 0, none⟩ (.slice (some ⟨b, 0, none⟩) (L.length - 1) c)) g S (L.eraseIdx k) (some ⟨b, 0, none⟩) c ∧ Keep S w (w1.setCell ⟨g, 0, none⟩ (.slice (some ⟨b, 0, none⟩) (L.length - 1) c)) := by
  have hl : (L.eraseIdx k).length = L.length - 1 := List.length_eraseIdx_of_lt hk
  have hgb : ¬ g = b := fun e => hp.ne (by simp [Value.ownBlock, e])
  have b1 := hk1.blk hp.blk hgb
  have k3 : Keep (fun i => i = b ∨ i = g) w (w1.setCell ⟨g, 0, none⟩ (.slice (some ⟨b, 0, none⟩) (L.length - 1) c)) := (hk1.mono (fun _ _ h => .inl h)).setCell (fun _ => .inr rfl) _
  have hSb : S b := hp.row b rfl
  refine ⟨⟨?_, ?_, ?_, ?_, hp.self, ?_, ?_⟩, k3.mono (fun i _ h => by rcases h with rfl | rfl; exact hSb; exact hp.self)⟩
  · rw [hl]; simpa using blk_set (j := 0) b1 (.slice (some ⟨b, 0, none⟩) (L.length - 1) c)
  · rw [hl, ← flat_erase]
    exact own_keep o1 ((Keep.refl (fun i => i = g) w1).setCell (fun _ => rfl) _) (fun i hi e => hgb (by simp [Value.ownBlock] at hi; omega))
  · intro i hi; simp [Value.ownBlock] at hi; subst hi; exact hSb
  · intro l hl'
    have h := hp.let_ l (List.mem_of_mem_eraseIdx hl')
    refine ⟨own_keep h.1 k3 (fun i hi e => ?_), h.2⟩
    rcases e with rfl | rfl
    · exact own_ne h.1 hp.own (by decide) hi rfl
    · exact own_ne_blk h.1 hp.blk (by decide) hi rfl
  · intro i hi; exact Nat.lt_of_lt_of_le (hp.lt i hi) k3.size
  · rw [hl]; have := hp.few; omega
theorem CL.own.good {w : World} {S : Nat → Prop} {l : CL} (h : l.own w S) : l.good w := ⟨Sl.of_own h.1, h.2.1⟩
theorem CL.own.keep {w w1 : World} {S T : Nat → Prop} {l : CL} (h : l.own w S) (hk : Keep T w w1) (hT : ∀ k, S k → ¬ T k) : l.own w1 S := ⟨own_keep h.1 hk (fun k hk => hT k (h.2.2 k hk)), h.2⟩
theorem CL.own.stay {w w1 : World} {S : Nat → Prop} {l : CL} {g b c : Nat} {L : List CL} (h : l.own w S) (hp : IsPostV w g S L (some ⟨b, 0, none⟩) c) (hk : Keep (fun i => i = b ∨ i = g) w w1) : l.own w1 S := by
  refine ⟨own_keep h.1 hk (fun i hi e => ?_), h.2⟩
  rcases e with rfl | rfl
  · exact own_ne h.1 hp.own (by decide) hi rfl
  · exact own_ne_blk h.1 hp.blk (by decide) hi rfl

theorem keep3 (w : World) (b : Nat) (v0 v1 v2 : Value) : Keep (fun i => i = b) w (((w.setCell ⟨b, 0, none⟩ v0).setCell ⟨b, 1, none⟩ v1).setCell ⟨b, 2, none⟩ v2) :=
  (((Keep.refl (fun i => i = b) w).setCell (fun _ => rfl) _).setCell (fun _ => rfl) _).setCell (fun _ => rfl) _
theorem keep_g {w w1 : World} {b g : Nat} (h : Keep (fun i => i = b) w w1) (v : Value) : Keep (fun i => i = b ∨ i = g) w (w1.setCell ⟨g, 0, none⟩ v) :=
  (h.mono (T := fun i => i = b ∨ i = g) (fun _ _ h => .inl h)).setCell (fun _ => .inr rfl) _

set_option maxHeartbeats 1000000 in
theorem take_ok (g : Nat) (S : Nat → Prop) (L : List CL) (k : Nat) (w : World) (hp : IsPost w g S L) (hk : k < L.length) :
    Calls Try.prog 9 #[.pointer (some ⟨g, 0, none⟩), .int .i64 (k : Int)] w fun e w' => e = .returned (.tuple #[.agg #[.int .i64 L[k].frm, .int .i64 L[k].dst, .slice L[k].A L[k].data.length L[k].cap], .int .i64 0]) ∧ Sent w g S w' (L.eraseIdx k) ∧ L[k].good w' ∧ L[k].own w' S := by
  obtain ⟨A, c, hp⟩ := hp
  obtain ⟨b, cap, cur, hv, hb, h1, h2, h3, h4⟩ := own_form hp.own (by omega)
  injection hv with e1 _ e2
  subst e1 e2
  have hfl := flat_get L k hk
  have hrow := hp.own.cells (g := b) rfl
  have hc := blk_cells hp.blk
  have hf := blk_frees hp.blk
  have hg := blk_lt hp.blk
  have hb' := blk_lt hb
  have r0 := hrow _ _ hfl.1
  have r1 := hrow _ _ hfl.2.1
  have r2 := hrow _ _ hfl.2.2
  simp only [Addr.add_lit, Nat.zero_add, CL.sl] at r0 r1 r2
  have b1 : (0 : Int) ≤ (k : Int) := by omega
  have b2 : (k : Int) < (L.length : Int) := by omega
  have b3 : (k : Int) < 64 := by have := hp.few; omega
  have Hne := Lib.hid hp.ne
  have H2 := Lib.hid h2
  have H3 := Lib.hid h3
  have H4 := Lib.hid h4
  clear h2 h3 h4
  have HP := Lib.hid hp
  have Hb := Lib.hid hb
  clear hp hb hrow hfl
  go_enter Try.func9, Try.ntmps9
  go_wp2_with (go_at_call 15; refine (there_ok g L.length c (some ⟨b, 0, none⟩) (k : Int) _ b1 b2 (((Keep.refl (fun _ => False) _).alloc _).cell ((hc 0).trans rfl) id)).mono ?_; rintro e w1 ⟨rfl, rfl⟩)
  refine (del_cell b L.length c k cur _ _ (blk_old (blk_old Hb.out _) _) h1 H2.out H3.out H4.out hk (flat_one L)).mono ?_
  rintro e w1 ⟨rfl, o1, k1⟩
  have kw : Keep (fun i => i = b) w w1 := (((Keep.refl _ w).alloc _).alloc _).trans k1 (fun _ _ h => h)
  have hne : ¬ g = b := fun e => Hne.out (by simp [Value.ownBlock, e])
  have B1 := Lib.hid (kw.blk HP.out.blk hne)
  have hs : w.heap.size + 2 ≤ w1.heap.size := by simpa using k1.size
  have bn0 : w1.heap[w.heap.size]? = some (.cells #[.int .i64 0, .int .i64 0, .slice none 0 0] 28) := k1.blk (blk_old (blk_new _ _) _) (by omega)
  have bn1 : w1.heap[w.heap.size + 1]? = some (.cells #[.int .i64 L[k].frm, .int .i64 L[k].dst, .slice L[k].A L[k].data.length L[k].cap] 28) := k1.blk (by simpa using blk_new (w.alloc (.cells #[.int .i64 0, .int .i64 0, .slice none 0 0] 28)) _) (by omega)
  have c1 := blk_cells B1.out
  have f1 := blk_frees B1.out
  have g1 := blk_lt B1.out
  have c2 := blk_cells bn0
  have f2 := blk_frees bn0
  have c3 := blk_cells bn1
  have n1 : ¬ g = w.heap.size := by omega
  have n2 : ¬ g = w.heap.size + 1 := by omega
  have O1 := Lib.hid o1
  have K1 := Lib.hid kw
  clear o1 k1 kw bn0 bn1 hne
  go_wp2
  have hT := take_close hk HP.out K1.out O1.out
  have hL := (HP.out.let_ _ (List.getElem_mem hk)).stay HP.out (keep_g (g := g) K1.out (.slice (some ⟨b, 0, none⟩) (L.length - 1) c))
  refine bodyPost_ret (v := .tuple #[.agg #[.int .i64 L[k].frm, .int .i64 L[k].dst, .slice L[k].A L[k].data.length L[k].cap], .int .i64 0]) (by simp [results, Try.results9, go_sem, c2, n1]) rfl ⟨rfl, ⟨S, ⟨_, _, hT.1.keep (keep3 _ _ _ _ _) ?_⟩, hT.2.trans (keep3 _ _ _ _ _) ?_, fun k h => .inl h⟩, (hL.keep (keep3 _ _ _ _ _) ?_).good, hL.keep (keep3 _ _ _ _ _) ?_⟩
  · intro i hi e; have := HP.out.lt i hi; omega
  · intro i hi e; omega
  · intro i hi e; have := HP.out.lt i hi; omega
  · intro i hi e; have := HP.out.lt i hi; omega
end Go.Proofs.Ythpgdoepbkgacaa
