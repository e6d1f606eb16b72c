/- List; the calls beside the law's own memory. -/
import Derived.Test.YtmfgkddndlleoaaLeaseP
import Derived.Lib.SliceRun
set_option linter.unusedSimpArgs false
set_option linter.unusedVariables false
namespace Go.Proofs.Ytmfgkddndlleoaa
open Go.RowKit

theorem clip_walk (A : Option Addr) (n c : Nat) (w : World) (hc : n ≤ c) (hA : A = none → n = 0 ∧ c = 0) :
    Calls Try.prog 27 #[.slice A n c] w fun e w' => e = .returned (.slice A n n) ∧ w' = w := by
  cases A with
  | none =>
    obtain ⟨rfl, rfl⟩ := hA rfl
    go_enter Try.func27, Try.ntmps27
    go_wp2
    go_ret
    exact ⟨rfl, rfl⟩
  | some p =>
    have b1 : (0 : Int) ≤ (n : Int) := by omega
    have b2 : (n : Int) ≤ (c : Int) := by omega
    clear hA
    go_enter Try.func27, Try.ntmps27
    go_wp2
    go_ret
    exact ⟨by simp, rfl⟩
set_option maxRecDepth 100000 in
set_option maxHeartbeats 1000000 in
theorem clone_walk (A : Option Addr) (c : Nat) (L : List LE) (w : World) (h : w.ownsRow 0 39 5 (.slice A L.length c) L.length (flat L)) (hn : L.length ≤ 1000000) :
    Calls Try.prog 28 #[.slice A L.length c] w fun e w' => ∃ A' c', e = .returned (.slice A' L.length c') ∧ w'.ownsRow 0 39 5 (.slice A' L.length c') L.length (flat L) ∧ Below w.heap.size w w' := by
  rcases h.2 with ⟨e, h0⟩ | ⟨b, cap, cur, e, _⟩
  · injection e with e1 e2 e3
    subst e1 e3
    obtain rfl : L = [] := List.eq_nil_of_length_eq_zero h0
    clear h e2 h0
    have hnil := fun w => Lib.run_eql_slice_nil (P := Try.prog) w 26 39 none 0 0 0 0 Try.underlying26
    simp only [List.length_nil]
    go_enter Try.func28, Try.ntmps28
    go_wp2
    go_ret
    exact ⟨none, 0, rfl, own_nil' _ _ _ _, Below.refl _ _⟩
  · injection e with e1 e2 e3
    subst e1 e3
    have HS := Lib.hid (Sl.of_own h)
    clear h e2
    have hnil := fun w => Lib.run_eql_slice_nil (P := Try.prog) w 26 39 (some ⟨b, 0, none⟩) L.length c 0 0 Try.underlying26
    go_enter Try.func28, Try.ntmps28
    go_wp2_with (at_builtin; go_must (refine wpList_app rfl eltL rfl rfl rfl (n := 0) (m := L.length) (xs := []) (own_new _ #[] _ 5 0 rfl (by decide)) (HS.out.below ((Below.refl _ _).alloc (Nat.le_refl _) _)) (flat_one L) (by omega) (by simp only [maxLen]; omega) ?_))
    intro v1 w1 j1 j2 j3 _
    obtain ⟨A1, c1, rfl, _⟩ := Rd.of_own j1
    have HB := Lib.hid (((((Keep.refl (fun _ => False) w).alloc (.cells #[] 39)).to_below).trans (j2.below (B := w.heap.size) (fun i e => by injection e with e; subst e; exact Nat.le_refl _) (by simp))))
    have J1 := Lib.hid j1
    clear j1 j2 j3
    go_wp2
    go_ret
    refine ⟨A1, c1, rfl, ?_, HB.out⟩
    first | exact J1.out | simpa using J1.out
theorem list_walk (t : Nat) (born : Int) (L Q : List LE) (A B : Option Addr) (c d : Nat) (w : World) (h : Tab w t born L Q A B c d) :
    Calls Try.prog 8 #[.pointer (some ⟨t, 0, none⟩)] w fun e w' => ∃ A', e = .returned (.slice A' L.length L.length) ∧ Sl w' 5 (.slice A' L.length L.length) L.length (flat L) ∧ Below w.heap.size w w' := by
  have hc := blk_cells h.blk
  have ht := blk_lt h.blk
  have hf := h.few
  have HO := Lib.hid h.ownL
  clear h
  go_enter Try.func8, Try.ntmps8
  go_wp2_with fail
  refine (clone_walk A c L w HO.out (by omega)).mono ?_
  rintro e w1 ⟨A', c', rfl, h1, hb⟩
  obtain ⟨A2, c2, e2, hr, ha, hc2, hl⟩ := Sl.of_own h1
  injection e2 with e21 e22 e23
  subst e21 e23
  have HB := Lib.hid hb
  have HR := Lib.hid hr
  have HA := Lib.hid ha
  clear h1 hb hr ha hc
  go_wp2_with fail
  refine (clip_walk A' L.length c' w1 hc2 HA.out).mono ?_
  rintro e w2 ⟨rfl, rfl⟩
  go_wp2
  go_ret
  exact ⟨A', rfl, ⟨A', L.length, rfl, HR.out, fun e => ⟨(HA.out e).1, (HA.out e).1⟩, Nat.le_refl _, hl⟩, HB.out⟩

theorem reclaimX (t : Nat) (born n g s m now : Int) (L Q : List LE) (X : Nat → Prop) (w : World) (h : TL w t born L Q X) (hlt : ∀ k, X k → k < w.heap.size) (hf : L.length + Q.length < 1000000) :
    Calls Try.prog 16 #[.pointer (some ⟨t, 0, none⟩), .agg #[.int .i64 n, .int .i64 g], .int .i64 s, .int .i64 m, .int .i64 now] w fun e w' => e = .returned (.bool (recP born n g s m now L Q).1) ∧ TL w' t born (recP born n g s m now L Q).2.1 (recP born n g s m now L Q).2.2 X ∧ Keep (fun k => ¬ X k) w w' := by
  obtain ⟨A, B, c, d, hT, hX⟩ := h
  exact (reclaim_walk t born n g s m now L Q A B c d w hT hf).mono fun e w' h => tabEnd_TL hX hlt h
theorem leaveX (t : Nat) (born s : Int) (L Q : List LE) (X : Nat → Prop) (w : World) (h : TL w t born L Q X) (hlt : ∀ k, X k → k < w.heap.size) :
    Calls Try.prog 20 #[.pointer (some ⟨t, 0, none⟩), .int .i64 s] w fun e w' => e = .returned (.tuple #[]) ∧ TL w' t born (leftP s L) (leftP s Q) X ∧ Keep (fun k => ¬ X k) w w' := by
  obtain ⟨A, B, c, d, hT, hX⟩ := h
  exact (leave_walk t born s L Q A B c d w hT).mono fun e w' h => tabEnd_TL hX hlt h
def CXEnd (t : Nat) (born : Int) (r : List Int × List LE) (Q : List LE) (X : Nat → Prop) (w : World) (e : Ending) (w' : World) : Prop :=
  ∃ O oc, e = .returned (.slice O r.1.length oc) ∧ w'.ownsRow 0 3 1 (.slice O r.1.length oc) r.1.length (ints r.1) ∧ TL w' t born r.2 Q X ∧ Keep (fun k => ¬ X k) w w'
theorem clearX (t : Nat) (born n g s m now : Int) (L Q : List LE) (X : Nat → Prop) (w : World) (h : TL w t born L Q X) :
    Calls Try.prog 23 #[.pointer (some ⟨t, 0, none⟩), .agg #[.int .i64 n, .int .i64 g], .int .i64 s, .int .i64 m, .int .i64 now] w (CXEnd t born (clrP n g s m now L) Q X w) := by
  obtain ⟨A, B, c, d, hT, hX⟩ := h
  refine (clear_walk t born n g s m now L Q A B c d w hT).mono ?_
  rintro e w' ⟨O, oc, c', d', he, ho, hT', hk, _⟩
  exact ⟨O, oc, he, ho, ⟨A, B, c', d', hT', hX⟩, hk.mono (fun i _ e => hX i e)⟩
theorem listX (t : Nat) (born : Int) (L Q : List LE) (X : Nat → Prop) (w : World) (h : TL w t born L Q X) :
    Calls Try.prog 8 #[.pointer (some ⟨t, 0, none⟩)] w fun e w' => ∃ A', e = .returned (.slice A' L.length L.length) ∧ Sl w' 5 (.slice A' L.length L.length) L.length (flat L) ∧ Below w.heap.size w w' := by
  obtain ⟨A, B, c, d, hT, hX⟩ := h
  exact list_walk t born L Q A B c d w hT

/-! What is never at once. -/
def clash (a b : LE) : Prop := (a.n = b.n ∧ a.g = b.g) ∧ (a.s = b.s ∨ a.m = 2 ∨ b.m = 2)
def Apart (l : List LE) : Prop := l.Pairwise fun a b => ¬ clash a b
theorem clash_symm {a b : LE} (h : clash a b) : clash b a := ⟨⟨h.1.1.symm, h.1.2.symm⟩, by rcases h.2 with h | h | h; exact .inl h.symm; exact .inr (.inr h); exact .inr (.inl h)⟩
theorem Apart.filter {l : List LE} (p : LE → Bool) (h : Apart l) : Apart (l.filter p) := List.Pairwise.filter p h
theorem relP_sub (n g s : Int) (l : List LE) : (relP n g s l).Sublist l := by
  induction l with
  | nil => exact List.Sublist.refl _
  | cons a l ih =>
    simp only [relP]
    split
    · exact List.sublist_cons_self _ _
    · exact ih.cons_cons _
/-- Nobody is in the way. -/
def Free (x : LE) (l : List LE) : Prop := ∀ e ∈ l, (e.n = x.n ∧ e.g = x.g) → e.s ≠ x.s → e.m ≠ 2 ∧ x.m ≠ 2
theorem putP_mem {x e : LE} {l : List LE} (h : e ∈ putP x l) : e ∈ l ∨ (e.n = x.n ∧ e.g = x.g ∧ e.s = x.s ∧ (e.m = x.m ∨ ∃ a ∈ l, mineP x.n x.g x.s a = true ∧ e.m = max x.m a.m)) := by
  induction l with
  | nil => simp only [putP, List.mem_singleton] at h; subst h; exact .inr ⟨rfl, rfl, rfl, .inl rfl⟩
  | cons a l ih =>
    simp only [putP] at h
    split at h
    · rename_i hm
      rcases List.mem_cons.1 h with rfl | h
      · exact .inr ⟨rfl, rfl, rfl, .inr ⟨a, by simp, hm, rfl⟩⟩
      · exact .inl (by simp [h])
    · rcases List.mem_cons.1 h with rfl | h
      · exact .inl (by simp)
      · rcases ih h with h | ⟨h1, h2, h3, h4⟩
        · exact .inl (by simp [h])
        · refine .inr ⟨h1, h2, h3, ?_⟩
          rcases h4 with h4 | ⟨b, hb, hm, he⟩
          · exact .inl h4
          · exact .inr ⟨b, by simp [hb], hm, he⟩
theorem putP_apart {x : LE} {l : List LE} (h : Apart l) (hf : Free x l) : Apart (putP x l) := by
  induction l with
  | nil => simp [putP, Apart]
  | cons a l ih =>
    have ha : ∀ b ∈ l, ¬ clash a b := (List.pairwise_cons.1 h).1
    have hl : Apart l := (List.pairwise_cons.1 h).2
    simp only [putP]
    split
    · rename_i hm
      obtain ⟨e1, e2, e3⟩ := mineP_eq hm
      refine List.pairwise_cons.2 ⟨fun b hb hc => ?_, hl⟩
      have hab := ha b hb
      have hs : a.s ≠ b.s := fun e => hab ⟨⟨e1.trans hc.1.1, e2.trans hc.1.2⟩, .inl e⟩
      have hma : a.m ≠ 2 := fun e => hab ⟨⟨e1.trans hc.1.1, e2.trans hc.1.2⟩, .inr (.inl e)⟩
      have hmb : b.m ≠ 2 := fun e => hab ⟨⟨e1.trans hc.1.1, e2.trans hc.1.2⟩, .inr (.inr e)⟩
      have hfb := hf b (by simp [hb]) ⟨hc.1.1.symm, hc.1.2.symm⟩ (fun e => hs (e3.trans e.symm))
      have hmx : max x.m a.m ≠ 2 := by
        rcases Int.le_total x.m a.m with h | h
        · rw [Int.max_eq_right h]; exact hma
        · rw [Int.max_eq_left h]; exact hfb.2
      rcases hc.2 with h | h | h
      · exact hs (e3.trans h)
      · exact hmx h
      · exact hmb h
    · rename_i hm
      have hm' : mineP x.n x.g x.s a = false := by simpa using hm
      have hff : Free x l := fun e he => hf e (by simp [he])
      refine List.pairwise_cons.2 ⟨fun b hb hc => ?_, ih hl hff⟩
      rcases putP_mem hb with hb | ⟨b1, b2, b3, b4⟩
      · exact ha b hb hc
      · have hh : a.n = x.n ∧ a.g = x.g := ⟨hc.1.1.trans b1, hc.1.2.trans b2⟩
        have hs : a.s ≠ x.s := fun e => by simp [mineP, hh, e] at hm'
        have hfa := hf a (by simp) hh hs
        rcases hc.2 with h | h | h
        · exact hs (h.trans b3)
        · exact hfa.1 h
        · rcases b4 with b4 | ⟨c, hcm, hcc, he⟩
          · exact hfa.2 (b4.symm.trans h)
          · obtain ⟨c1, c2, c3⟩ := mineP_eq hcc
            have := ha c hcm
            have hcm2 : c.m ≠ 2 := fun e => this ⟨⟨hh.1.trans c1.symm, hh.2.trans c2.symm⟩, .inr (.inr e)⟩
            rw [he] at h
            rcases Int.le_total x.m c.m with h' | h'
            · rw [Int.max_eq_right h'] at h; exact hcm2 h
            · rw [Int.max_eq_left h'] at h; exact hfa.2 h
theorem free_of_none {n g s m now : Int} {L : List LE} {v : Int} (h : (seatsP n g s m now L).length = 0) : Free ⟨n, g, s, m, v⟩ (L.filter fun x => !overP n g s m now x) := by
  intro e he hh hs
  obtain ⟨heL, hov⟩ := List.mem_filter.1 he
  have hst : stayP n g s m now e = false := by
    have h0 : seatsP n g s m now L = [] := List.eq_nil_of_length_eq_zero h
    unfold seatsP at h0
    rw [List.map_eq_nil_iff, List.filter_eq_nil_iff] at h0
    simpa using h0 e heL
  have hiw : inWay n g s m e = false := by
    simp only [overP, stayP] at hov hst
    cases hi : inWay n g s m e with
    | false => rfl
    | true =>
      rw [hi] at hov hst
      cases hp : pastP e.x now 25 <;> rw [hp] at hov hst <;> simp at hov hst
  simp only [inWay, againstP] at hiw
  have h1 : decide (e.n = n ∧ e.g = g) = true := by simpa using hh
  have h2 : decide (e.s = s) = false := by simpa using hs
  rw [h1, h2] at hiw
  simp at hiw
  exact hiw
theorem grantP_apart {n g s m now : Int} {L Q : List LE} (h : Apart L) : Apart (grantP n g s m now L Q).2.2.1 := by
  unfold grantP
  split
  · exact h
  · split
    · exact h.filter _
    · rename_i h0
      exact putP_apart (h.filter _) (free_of_none (by omega))
theorem recP_apart {born n g s m now : Int} {L Q : List LE} (h : Apart L) : Apart (recP born n g s m now L Q).2.1 := by
  unfold recP
  split
  · exact h
  · split
    · exact h.filter _
    · rename_i h0
      exact putP_apart (h.filter _) (free_of_none (by omega))
theorem clrP_apart {n g s m now : Int} {L : List LE} (h : Apart L) : Apart (clrP n g s m now L).2 := by
  unfold clrP
  split
  · exact h
  · exact h.filter _
end Go.Proofs.Ytmfgkddndlleoaa
