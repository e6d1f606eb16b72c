/- Twin, Letters. -/
import Derived.Test.YthpgdoepbkgacaaPost4
set_option linter.unusedSimpArgs false
set_option linter.unusedVariables false
namespace Go.Proofs.Ythpgdoepbkgacaa
open Go.RowKit

set_option maxHeartbeats 400000 in
theorem twin_nil (k : Int) (w : World) :
    Calls Try.prog 11 #[.pointer none, .int .i64 k] w fun e w' => e = .returned (.int .i64 1) ∧ w = w' := by
  go_enter Try.func11, Try.ntmps11
  go_wp2_with (go_at_call 15; refine (there_nil _ _).mono ?_; rintro e w1 ⟨rfl, rfl⟩)
  go_ret
  exact ⟨rfl, rfl⟩
set_option maxHeartbeats 400000 in
theorem twin_bad (g : Nat) (S : Nat → Prop) (L : List CL) (k : Int) (w : World) (hp : IsPost w g S L) (hk : k < 0 ∨ L.length ≤ k) :
    Calls Try.prog 11 #[.pointer (some ⟨g, 0, none⟩), .int .i64 k] w fun e w' => e = .returned (.int .i64 7) ∧ w = w' := by
  obtain ⟨A, c, hp⟩ := hp
  have hc := blk_cells hp.blk
  have Hk := Lib.hid hk
  clear hp hk
  go_enter Try.func11, Try.ntmps11
  go_wp2_with (go_at_call 15; refine (there_bad g L.length c A k _ Hk.out ((hc 0).trans rfl)).mono ?_; rintro e w1 ⟨rfl, rfl⟩)
  go_ret
  exact ⟨rfl, rfl⟩

/-- The k-th letter's cells in the post's row. -/
theorem IsPostV.at_ {w : World} {g : Nat} {S : Nat → Prop} {L : List CL} {A : Option Addr} {c k : Nat} (hp : IsPostV w g S L A c) (hk : k < L.length) :
    ∃ b, A = some ⟨b, 0, none⟩ ∧ b < w.heap.size ∧ w.cell? ⟨b, k * 3, none⟩ = some (.int .i64 L[k].frm) ∧ w.cell? ⟨b, k * 3 + 1, none⟩ = some (.int .i64 L[k].dst) ∧ w.cell? ⟨b, k * 3 + 2, none⟩ = some (.slice L[k].A L[k].data.length L[k].cap) := by
  obtain ⟨b, cap, cur, hv, hb, h1, h2, h3, h4⟩ := own_form hp.own (by omega)
  injection hv with e1 _ e2
  subst e1 e2
  have hfl := flat_get L k hk
  have hrow := hp.own.cells (g := b) rfl
  have r0 := hrow _ _ hfl.1
  have r1 := hrow _ _ hfl.2.1
  have r2 := hrow _ _ hfl.2.2
  simp only [Addr.add_lit, Nat.zero_add, CL.sl] at r0 r1 r2
  exact ⟨b, rfl, blk_lt hb, r0, r1, r2⟩

set_option maxHeartbeats 400000 in
theorem twin_ok (g : Nat) (S : Nat → Prop) (L : List CL) (k : Nat) (w : World) (hp : IsPost w g S L) (hk : k < L.length) (hL : L.length < 64) :
    Calls Try.prog 11 #[.pointer (some ⟨g, 0, none⟩), .int .i64 (k : Int)] w fun e w' => e = .returned (.int .i64 0) ∧ ∃ A' c', Sent w g S w' (L ++ [⟨L[k].frm, L[k].dst, A', c', L[k].data⟩]) := by
  obtain ⟨A, c, hp⟩ := hp
  have hc := blk_cells hp.blk
  obtain ⟨b, rfl, hb, r0, r1, r2⟩ := hp.at_ hk
  have b1 : (0 : Int) ≤ (k : Int) := by omega
  have b2 : (k : Int) < (L.length : Int) := by omega
  have HP := Lib.hid hp
  clear hp
  go_enter Try.func11, Try.ntmps11
  go_wp2_with (go_at_call 15; refine (there_ok g L.length c (some ⟨b, 0, none⟩) (k : Int) _ b1 b2 ((hc 0).trans rfl)).mono ?_; rintro e w1 ⟨rfl, rfl⟩)
  refine (send_ok _ _ _ _ _ L[k].data _ g S L ⟨_, _, HP.out⟩ hL (HP.out.let_ _ (List.getElem_mem hk)).good.1 (HP.out.let_ _ (List.getElem_mem hk)).2.1).mono ?_
  rintro e w1 ⟨rfl, A', c', h⟩
  have H := Lib.hid h
  clear h
  go_wp2
  go_ret
  exact ⟨rfl, A', c', H.out⟩
set_option maxHeartbeats 400000 in
theorem twin_full (g : Nat) (S : Nat → Prop) (L : List CL) (k : Nat) (w : World) (hp : IsPost w g S L) (hk : k < L.length) (hL : 64 ≤ L.length) :
    Calls Try.prog 11 #[.pointer (some ⟨g, 0, none⟩), .int .i64 (k : Int)] w fun e w' => e = .returned (.int .i64 9) ∧ Below w.heap.size w w' := by
  obtain ⟨A, c, hp⟩ := hp
  have hc := blk_cells hp.blk
  obtain ⟨b, rfl, hb, r0, r1, r2⟩ := hp.at_ hk
  have b1 : (0 : Int) ≤ (k : Int) := by omega
  have b2 : (k : Int) < (L.length : Int) := by omega
  have HP := Lib.hid hp
  clear hp
  go_enter Try.func11, Try.ntmps11
  go_wp2_with (go_at_call 15; refine (there_ok g L.length c (some ⟨b, 0, none⟩) (k : Int) _ b1 b2 ((hc 0).trans rfl)).mono ?_; rintro e w1 ⟨rfl, rfl⟩)
  refine (send_full _ _ _ _ _ _ g S L ⟨_, _, HP.out⟩ hL).mono ?_
  rintro e w1 ⟨rfl, h⟩
  have H := Lib.hid h
  clear h
  go_wp2
  go_ret
  exact ⟨rfl, H.out⟩

/-! Letters -/
def CL.er (l : CL) : Int × Int × List UInt8 := (l.frm, l.dst, l.data)
/-- What is told: letters of new memory. -/
def Told (w w' : World) (L : List CL) (v : Value) (L' : List CL) : Prop :=
  w'.ownsRow 0 28 3 v L'.length (L'.flatMap CL.cells) ∧ (∀ k, v.ownBlock = some k → w.heap.size ≤ k) ∧ (∀ l ∈ L', l.own w' (fun k => w.heap.size ≤ k)) ∧ L'.map CL.er = L.map CL.er ∧ Below w.heap.size w w'

theorem letters_nil (w : World) :
    Calls Try.prog 12 #[.pointer none] w fun e w' => e = .returned (.slice none 0 0) ∧ w = w' := by
  go_enter Try.func12, Try.ntmps12
  go_wp2
  go_ret
  exact ⟨rfl, rfl⟩

def LInv (w : World) (L : List CL) (v : Value) (i : Value) (wr : World) : Prop := ∃ j : Nat, j ≤ L.length ∧ i = .int .i64 (j : Int) ∧ ∃ L', L'.length = j ∧ ∃ A c, v = .slice A j c ∧ Told w wr (L.take j) v L'

theorem take_snoc' (L : List CL) (j : Nat) (h : j < L.length) : L.take (j + 1) = L.take j ++ [L[j]] := by
  rw [List.take_succ_eq_append_getElem h]
theorem told_step {w wr w1 w2 : World} {L L' : List CL} {j : Nat} {A' A2 A1 : Option Addr} {c' c2 c1 : Nat} (hlt : j < L.length) (hl : L'.length = j) (h : Told w wr (L.take j) (.slice A' j c') L') (cs : Array Value)
    (hn : L[j].data.length ≤ 140737488355328) (h1 : w1.ownsRow 0 5 1 (.slice A1 L[j].data.length c1) L[j].data.length (bv L[j].data)) (h2 : ∀ k, (Value.slice A1 L[j].data.length c1).ownBlock = some k → (wr.alloc (.cells cs 28)).heap.size ≤ k)
    (h3 : Below (wr.alloc (.cells cs 28)).heap.size (wr.alloc (.cells cs 28)) w1)
    (g1 : w2.ownsRow 0 28 3 (.slice A2 (j + 1) c2) (j + 1) (L'.flatMap CL.cells ++ [.int .i64 L[j].frm, .int .i64 L[j].dst, .slice A1 L[j].data.length c1]))
    (g2 : Keep (fun k => (Value.slice A' j c').ownBlock = some k) (w1.alloc (.cells #[.int .i64 L[j].frm, .int .i64 L[j].dst, .slice A1 L[j].data.length c1] 28)) w2)
    (g3 : (Value.slice A2 (j + 1) c2).ownBlock = (Value.slice A' j c').ownBlock ∨ (Value.slice A2 (j + 1) c2).ownBlock = some ((w1.alloc (.cells #[.int .i64 L[j].frm, .int .i64 L[j].dst, .slice A1 L[j].data.length c1] 28)).heap.size)) :
    Told w w2 (L.take (j + 1)) (.slice A2 (j + 1) c2) (L' ++ [⟨L[j].frm, L[j].dst, A1, c1, L[j].data⟩]) := by
  obtain ⟨o1, o2, o3, o4, hb⟩ := h
  subst hl
  have e1 : (L' ++ [(⟨L[L'.length].frm, L[L'.length].dst, A1, c1, L[L'.length].data⟩ : CL)]).length = L'.length + 1 := by simp
  have e2 : (L' ++ [(⟨L[L'.length].frm, L[L'.length].dst, A1, c1, L[L'.length].data⟩ : CL)]).flatMap CL.cells = L'.flatMap CL.cells ++ [.int .i64 L[L'.length].frm, .int .i64 L[L'.length].dst, .slice A1 L[L'.length].data.length c1] := by simp [CL.cells, CL.sl]
  have k1 : Keep (fun _ => False) wr w1 := ((Keep.refl (fun _ => False) wr).alloc _).trans (Keep.of_below (S := fun _ => False) h3) (fun _ _ h => h)
  have k2 : Keep (fun k => (Value.slice A' L'.length c').ownBlock = some k) w1 w2 := ((Keep.refl _ w1).alloc _).trans g2 (fun _ _ h => h)
  have o1' := own_keep o1 k1 (fun _ _ h => h)
  have hsz := hb.size
  have hs1 : wr.heap.size + 1 ≤ w1.heap.size := by simpa using h3.size
  refine ⟨by rw [e1, e2]; exact g1, ?_, ?_, ?_, ?_⟩
  · intro k hk
    rcases g3 with e | e <;> rw [e] at hk
    · exact o2 k hk
    · simp at hk; omega
  · intro l hl
    rcases List.mem_append.1 hl with hl | hl
    · have h := (o3 l hl).keep k1 (fun _ _ h => h)
      exact ⟨own_keep h.1 k2 (fun k hk e => own_ne h.1 o1' (by decide) hk e), h.2⟩
    · obtain rfl : l = ⟨L[L'.length].frm, L[L'.length].dst, A1, c1, L[L'.length].data⟩ := by simpa using hl
      refine ⟨own_keep h1 k2 (fun k hk e => own_ne h1 o1' (by decide) hk e), hn, fun k hk => ?_⟩
      have := h2 k hk
      simp at this; omega
  · rw [take_snoc' L L'.length hlt, List.map_append, List.map_append, o4]; rfl
  · have hB : Below w.heap.size w w1 := hb.trans ((k1.to_below).mono hsz)
    refine hB.trans (k2.below (fun i hi => ?_) (by omega))
    exact o2 i hi

set_option maxHeartbeats 1000000 in
theorem letters_any (g : Nat) (S : Nat → Prop) (L : List CL) (w : World) (hp : IsPost w g S L) :
    Calls Try.prog 12 #[.pointer (some ⟨g, 0, none⟩)] w fun e w' => ∃ A c L', e = .returned (.slice A L'.length c) ∧ Told w w' L (.slice A L'.length c) L' := by
  obtain ⟨A, c, hp⟩ := hp
  have hc := blk_cells hp.blk
  have hg := blk_lt hp.blk
  have hf := hp.few
  have HP := Lib.hid hp
  clear hp
  go_enter Try.func12, Try.ntmps12
  go_wp2
  go_loopw [3, 13] (fun v i wr => LInv w L v i wr) (fun _ i _ => L.length - (intOf i).toNat)
  case atStart =>
    exact ⟨0, Nat.zero_le _, rfl, [], rfl, none, 0, rfl, own_nil' _ _ _ _, by simp [Value.ownBlock], by simp, by simp, Below.refl _ _⟩
  case round =>
    obtain ⟨j, hj, rfl, L', hl', A', c', rfl, ht⟩ := hrel
    have HT := Lib.hid ht
    have HL := Lib.hid hl'
    clear hc ht hl'
    by_cases hlt : j < L.length
    · obtain ⟨b, hA, hb, r0, r1, r2⟩ := HP.out.at_ hlt
      have hB := HT.out.2.2.2.2
      have q0 := (hB.cell (p := ⟨b, j * 3, none⟩) hb).trans r0
      have q1 := (hB.cell (p := ⟨b, j * 3 + 1, none⟩) hb).trans r1
      have q2 := (hB.cell (p := ⟨b, j * 3 + 2, none⟩) hb).trans r2
      have hbr : b < wr.heap.size := Nat.lt_of_lt_of_le hb hB.size
      have b1 : (0 : Int) ≤ (j : Int) := by omega
      have b2 : (j : Int) < (L.length : Int) := by omega
      have b3 : (j : Int) < 64 := by omega
      have hn := (HP.out.let_ _ (List.getElem_mem hlt)).2.1
      have HS := Lib.hid ((HP.out.let_ _ (List.getElem_mem hlt)).good.1.keep (Keep.of_belowB (S := fun k => w.heap.size ≤ k) hB (fun _ _ h => h)) (fun k hk _ => Nat.not_le.2 (own_lt (HP.out.let_ _ (List.getElem_mem hlt)).1 hk)))
      clear r0 r1 r2 hB
      subst hA
      go_wp2_with fail
      refine (clone_any _ _ _ _ _ L[j].data _ (HS.out.below ((Below.refl _ _).alloc (Nat.le_refl _) _)) hn).mono ?_
      rintro e w1 ⟨A1, c1, rfl, h1, h2, h3⟩
      have H1 := Lib.hid h1
      have H2 := Lib.hid h2
      have H3 := Lib.hid h3
      have K1 := Lib.hid (((Keep.refl (fun _ => False) wr).alloc (.cells #[.int .i64 L[j].frm, .int .i64 L[j].dst, .slice L[j].A L[j].data.length L[j].cap] 28)).trans (Keep.of_below (S := fun _ => False) h3) (fun _ _ h => h))
      clear h1 h2 h3
      go_wp2_with (at_builtin; refine wpList_app rfl eltLetter rfl rfl rfl (n := j) (own_keep (own_keep (by have := HT.out.1; rw [HL.out] at this; exact this) K1.out (fun _ _ h => h)) ((Keep.refl (fun _ => False) _).alloc _) (fun _ _ h => h)) (Sl.of_own (own_new w1 #[.int .i64 L[j].frm, .int .i64 L[j].dst, .slice A1 L[j].data.length c1] 28 3 1 rfl (by decide))) (by simp [Value.oneCell']) (by omega) (by simp only [maxLen]; omega) ?_)
      intro v2 w2 g1 g2 g3 _
      obtain ⟨A2, c2, rfl, _⟩ := Rd.of_own g1
      have HT2 := Lib.hid (told_step hlt HL.out HT.out _ hn H1.out H2.out H3.out g1 g2 (by simpa using g3))
      have HL2 := Lib.hid HL.out
      clear g1 g2 g3
      go_wp2
      go_roundw
      case rel => exact ⟨j + 1, by omega, by go_num, _, by simpa using HL2.out, A2, c2, rfl, HT2.out⟩
      case measure => simp [intOf]; omega
    · obtain rfl : j = L.length := by omega
      go_wp2
      go_ret
      obtain h := HT.out
      rw [List.take_length] at h
      rw [← HL.out] at h
      exact ⟨A', c', L', by rw [HL.out]; rfl, h⟩
end Go.Proofs.Ythpgdoepbkgacaa
