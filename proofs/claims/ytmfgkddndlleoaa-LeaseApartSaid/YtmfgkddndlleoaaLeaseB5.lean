/- blocks: the walk. -/
import Derived.Test.YtmfgkddndlleoaaLeaseB4
set_option linter.unusedSimpArgs false
set_option linter.unusedVariables false
namespace Go.Proofs.Ytmfgkddndlleoaa
open Go.RowKit

theorem inClock_filter {L : List LE} (p : LE → Bool) (h : inClock L) : inClock (L.filter p) := fun e he => h e (List.mem_filter.1 he).1
/-- The table behind a store into its list. -/
theorem Tab.putL {w w1 : World} {t : Nat} {born : Int} {L L' Q : List LE} {A A' B : Option Addr} {c c' d : Nat} {S : Nat → Prop} (h : Tab w t born L Q A B c d) (hk : Keep S w w1) (hs : ¬ S t) (hB : ∀ k, B.map (·.block) = some k → ¬ S k)
    (ho : w1.ownsRow 0 39 5 (.slice A' L'.length c') L'.length (flat L')) (hc : inClock L') (hf : L'.length + Q.length ≤ 1000000) :
    Tab (w1.setCell ⟨t, 1, none⟩ (.slice A' L'.length c')) t born L' Q A' B c' d ∧ Keep (fun k => k = t) w1 (w1.setCell ⟨t, 1, none⟩ (.slice A' L'.length c')) := by
  have b1 := hk.blk h.blk hs
  have q1 := own_keep h.ownQ hk (fun k e => hB k (by rw [ownBlock_slice] at e; exact e))
  have hn : ∀ k, (Value.slice A' L'.length c').ownBlock = some k → ¬ k = t := fun k hk => own_ne_blk ho b1 (by decide) hk
  have hq : ∀ k, (Value.slice B Q.length d).ownBlock = some k → ¬ k = t := fun k hk => own_ne_blk q1 b1 (by decide) hk
  have k1 : Keep (fun k => k = t) w1 (w1.setCell ⟨t, 1, none⟩ (.slice A' L'.length c')) := (Keep.refl (fun k => k = t) w1).setCell (fun _ => rfl) _
  exact ⟨⟨by simpa using blk_set (j := 1) b1 (.slice A' L'.length c'), own_keep ho k1 (fun k e => hn k e), own_keep q1 k1 (fun k e => hq k e), h.b0, h.b1, hc, h.cq, hf⟩, k1⟩
theorem Tab.putQ {w w1 : World} {t : Nat} {born : Int} {L Q Q' : List LE} {A B B' : Option Addr} {c d d' : Nat} {S : Nat → Prop} (h : Tab w t born L Q A B c d) (hk : Keep S w w1) (hs : ¬ S t) (hA : ∀ k, A.map (·.block) = some k → ¬ S k)
    (ho : w1.ownsRow 0 66 5 (.slice B' Q'.length d') Q'.length (flat Q')) (hc : inClock Q') (hf : L.length + Q'.length ≤ 1000000) :
    Tab (w1.setCell ⟨t, 2, none⟩ (.slice B' Q'.length d')) t born L Q' A B' c d' ∧ Keep (fun k => k = t) w1 (w1.setCell ⟨t, 2, none⟩ (.slice B' Q'.length d')) := by
  have b1 := hk.blk h.blk hs
  have q1 := own_keep h.ownL hk (fun k e => hA k (by rw [ownBlock_slice] at e; exact e))
  have hn : ∀ k, (Value.slice B' Q'.length d').ownBlock = some k → ¬ k = t := fun k hk => own_ne_blk ho b1 (by decide) hk
  have hq : ∀ k, (Value.slice A L.length c).ownBlock = some k → ¬ k = t := fun k hk => own_ne_blk q1 b1 (by decide) hk
  have k1 : Keep (fun k => k = t) w1 (w1.setCell ⟨t, 2, none⟩ (.slice B' Q'.length d')) := (Keep.refl (fun k => k = t) w1).setCell (fun _ => rfl) _
  exact ⟨⟨by simpa using blk_set (j := 2) b1 (.slice B' Q'.length d'), own_keep q1 k1 (fun k e => hq k e), own_keep ho k1 (fun k e => hn k e), h.b0, h.b1, h.cl, hc, hf⟩, k1⟩

/-- How blocks ends. -/
def BlocksEnd (t : Nat) (born n g s m now : Int) (L Q : List LE) (A B : Option Addr) (c d : Nat) (w : World) (e : Ending) (w' : World) : Prop :=
  ∃ O oc, e = .returned (.slice O (seatsP n g s m now L).length oc) ∧ w'.ownsRow 0 3 1 (.slice O (seatsP n g s m now L).length oc) (seatsP n g s m now L).length (ints (sortP (seatsP n g s m now L))) ∧ (∀ k, O.map (·.block) = some k → w.heap.size ≤ k) ∧
    Tab w' t born (L.filter fun x => !overP n g s m now x) Q A B c d ∧ Keep (tabOwn t A B) w w'
/-- What stands behind the deleting, and behind the store. -/
def Deld (t : Nat) (born n g s m now : Int) (L Q : List LE) (A B : Option Addr) (c d : Nat) (w w1 : World) (O : Option Addr) (oc : Nat) : Prop :=
  Tab w1 t born (L.filter fun x => !overP n g s m now x) Q A B c d ∧ Keep (tabOwn t A B) w w1 ∧ Outs w1 (w.heap.size + 4) (seatsP n g s m now L) O oc ∧ ∀ k, O.map (·.block) = some k → w.heap.size ≤ k
theorem Deld.fin {t : Nat} {born n g s m now : Int} {L Q : List LE} {A B : Option Addr} {c d : Nat} {w w1 w2 : World} {O : Option Addr} {oc : Nat} (h : Deld t born n g s m now L Q A B c d w w1 O oc) (hl : ∀ k, tabOwn t A B k → k < w.heap.size)
    (h2 : w2.ownsRow 0 3 1 (.slice O (seatsP n g s m now L).length oc) (seatsP n g s m now L).length (ints (sortP (seatsP n g s m now L)))) (hk : Keep (fun k => O.map (·.block) = some k) w1 w2) :
    BlocksEnd t born n g s m now L Q A B c d w (.returned (.slice O (seatsP n g s m now L).length oc)) w2 :=
  ⟨O, oc, rfl, h2, h.2.2.2, h.1.keep hk (fun k ht hO => by have := h.2.2.2 k hO; have := hl k ht; omega), h.2.1.trans hk (fun i hi hT => by have := h.2.2.2 i hT; omega)⟩
theorem del_over {t : Nat} {born n g s m now : Int} {L Q : List LE} {A B : Option Addr} {c d : Nat} {w : World} (h : Tab w t born L Q A B c d) :
    Calls Try.prog 42 #[.slice A L.length c, .func (.func 46) #[] #[.pointer (some ⟨w.heap.size, 0, none⟩), .pointer (some ⟨w.heap.size + 1, 0, none⟩), .pointer (some ⟨w.heap.size + 2, 0, none⟩), .pointer (some ⟨w.heap.size + 3, 0, none⟩), .pointer (some ⟨w.heap.size + 4, 0, none⟩)]]
      (boxes w n g s m now) fun e w1 => e = .returned (.slice A (L.filter fun x => !overP n g s m now x).length c) ∧ ∃ O oc, Outs w1 (w.heap.size + 4) (seatsP n g s m now L) O oc ∧ w1.heap[t]? = some (.cells #[.int .i64 born, .slice A L.length c, .slice B Q.length d] 44 (0, 0)) ∧
        Deld t born n g s m now L Q A B c d w (w1.setCell ⟨t, 1, none⟩ (.slice A (L.filter fun x => !overP n g s m now x).length c)) O oc := by
  obtain ⟨k0, z0, e1, e2, e3, e4, e5, e6⟩ := boxes_fact w n g s m now
  have hl := h.lt
  have ht := hl t (.inl rfl)
  have hL := h.few
  have hfl : (L.filter fun x => !overP n g s m now x).length ≤ L.length := List.length_filter_le _ _
  have fin : ∀ w1 O oc (S : Nat → Prop), Outs w1 (w.heap.size + 4) (seatsP n g s m now L) O oc → Keep S (boxes w n g s m now) w1 → (∀ k, S k → k = w.heap.size + 4 ∨ A.map (·.block) = some k) → (∀ k, O.map (·.block) = some k → w.heap.size ≤ k) →
      w1.ownsRow 0 39 5 (.slice A (L.filter fun x => !overP n g s m now x).length c) (L.filter fun x => !overP n g s m now x).length (flat (L.filter fun x => !overP n g s m now x)) →
      w1.heap[t]? = some (.cells #[.int .i64 born, .slice A L.length c, .slice B Q.length d] 44 (0, 0)) ∧ Deld t born n g s m now L Q A B c d w (w1.setCell ⟨t, 1, none⟩ (.slice A (L.filter fun x => !overP n g s m now x).length c)) O oc := by
    intro w1 O oc S hO hk hS hOk hown
    have hkt : Keep (fun k => A.map (·.block) = some k) w w1 := (k0.mono (T := fun k => A.map (·.block) = some k) (fun _ _ h => h.elim)).trans hk (fun i hi hT => by
      rcases hS i hT with rfl | e
      · omega
      · exact e)
    have hAt : ¬ A.map (·.block) = some t := fun e => own_ne_blk h.ownL h.blk (by decide) (by rw [ownBlock_slice]; exact e) rfl
    have hAB : ∀ k, B.map (·.block) = some k → ¬ A.map (·.block) = some k := fun k e1 e2 => own_ne h.ownL h.ownQ (by decide) (by rw [ownBlock_slice]; exact e2) (by rw [ownBlock_slice]; exact e1)
    obtain ⟨t1, t2⟩ := h.putL hkt hAt hAB hown (inClock_filter _ h.cl) (by omega)
    refine ⟨hkt.blk h.blk hAt, t1, (hkt.mono (fun _ _ e => .inr (.inl e))).trans t2 (fun i _ e => .inl e), hO.keep t2 (by omega) (fun k e => by have := hOk k e; omega), hOk⟩
  rcases h.ownL.2 with ⟨e, h0⟩ | ⟨b, cap, cur, e, _, hb, q1, q2, q3, q4⟩
  · injection e with ee1 ee2 ee3
    subst ee1 ee3
    obtain rfl : L = [] := List.eq_nil_of_length_eq_zero h0
    refine (delL_nil (boxes w n g s m now) 46 #[.pointer (some ⟨w.heap.size, 0, none⟩), .pointer (some ⟨w.heap.size + 1, 0, none⟩), .pointer (some ⟨w.heap.size + 2, 0, none⟩), .pointer (some ⟨w.heap.size + 3, 0, none⟩), .pointer (some ⟨w.heap.size + 4, 0, none⟩)] (enters_of Try.func46 (by kernel_rfl) rfl)).mono ?_
    rintro e w1 ⟨rfl, rfl⟩
    have ho : Outs (boxes w n g s m now) (w.heap.size + 4) (seatsP n g s m now []) none 0 := ⟨e6, own_nil' _ _ _ _⟩
    exact ⟨rfl, none, 0, ho, fin _ none 0 (fun _ => False) ho (Keep.refl _ _) (fun _ h => h.elim) (by simp) (own_keep h.ownL k0 (fun _ _ h => h))⟩
  · injection e with ee1 ee2 ee3
    subst ee1 ee3
    have hbl := blk_lt hb
    have hbt : b ≠ t := own_ne_blk h.ownL h.blk (by decide) (by rw [ownBlock_slice]; rfl)
    refine (delL b c L (boxes w n g s m now) 46 #[.pointer (some ⟨w.heap.size, 0, none⟩), .pointer (some ⟨w.heap.size + 1, 0, none⟩), .pointer (some ⟨w.heap.size + 2, 0, none⟩), .pointer (some ⟨w.heap.size + 3, 0, none⟩), .pointer (some ⟨w.heap.size + 4, 0, none⟩)] (overP n g s m now) (enters_of Try.func46 (by kernel_rfl) rfl)
      (BSt n g s m now (boxes w n g s m now) b (w.heap.size + 4)) (fun k => k = w.heap.size + 4 ∨ (Value.slice none 0 0).ownBlock = some k) ?_ ?_ (own_keep h.ownL k0 (fun _ _ h => h)) ?_ ?_ (by omega)).mono ?_
    · exact ⟨⟨none, 0, ⟨e6, own_nil' _ _ _ _⟩, rfl, by simp [ownBlock_slice]⟩, Keep.refl _ _⟩
    · exact closesB e1 e2 e3 e4 e5 (by omega) (by omega) (by omega) (by omega) h.cl (by omega)
    · rintro M done W ⟨⟨O, oc, hO, rfl, hOk⟩, hk⟩ k (rfl | e)
      · exact ⟨blk_lt hO.blk, by omega⟩
      · have := hOk k e
        exact ⟨this.2, by omega⟩
    · rintro M done W W' ⟨⟨O, oc, hO, rfl, hOk⟩, hk⟩ hk'
      refine ⟨⟨O, oc, hO.keep hk' (by omega) (fun k e => ?_), rfl, fun k e => ⟨(hOk k e).1, Nat.lt_of_lt_of_le (hOk k e).2 hk'.size⟩⟩, hk.trans hk' (fun i _ e => .inl e)⟩
      have := hOk k (by rw [ownBlock_slice]; exact e)
      omega
    · rintro e w1 ⟨rfl, hown, M, ⟨⟨O, oc, hO, rfl, hOk⟩, hk⟩⟩
      exact ⟨rfl, O, oc, hO, fin _ O oc _ hO hk (fun k e => by rcases e with rfl | rfl; exact .inr rfl; exact .inl rfl) (fun k e => by have := (hOk k (by rw [ownBlock_slice]; exact e)).1; omega) hown⟩
set_option maxHeartbeats 1000000 in
theorem blocks_walk (t : Nat) (born n g s m now : Int) (L Q : List LE) (A B : Option Addr) (c d : Nat) (w : World) (h : Tab w t born L Q A B c d) :
    Calls Try.prog 33 #[.pointer (some ⟨t, 0, none⟩), .agg #[.int .i64 n, .int .i64 g], .int .i64 s, .int .i64 m, .int .i64 now] w (BlocksEnd t born n g s m now L Q A B c d w) := by
  have hc := blk_cells h.blk
  have ht := blk_lt h.blk
  have ht1 : t < w.heap.size + 1 := by omega
  have ht2 : t < w.heap.size + 1 + 1 := by omega
  have ht3 : t < w.heap.size + 1 + 1 + 1 := by omega
  have ht4 : t < w.heap.size + 1 + 1 + 1 + 1 := by omega
  have hsl := seatsP_length n g s m now L
  have hL := h.few
  have HT := Lib.hid h
  have HD := Lib.hid (del_over (n := n) (g := g) (s := s) (m := m) (now := now) h)
  have HF := Lib.hid (fun w1 w2 O oc (h1 : Deld t born n g s m now L Q A B c d w w1 O oc) => h1.fin (w2 := w2) h.lt)
  clear h
  go_enter Try.func33, Try.ntmps33
  go_wp2_with fail
  refine (HD.out).mono ?_
  rintro e w1 ⟨rfl, O, oc, hO, hb1, hdd⟩
  have c1 := blk_cells hb1
  have f1 := blk_frees hb1
  have c2 := blk_cells hdd.2.2.1.blk
  have HO := Lib.hid hdd.2.2.1.own
  have HDD := Lib.hid hdd
  clear hO hb1 hdd hc
  go_wp2_with fail
  refine (sort_walk O oc _ _ HO.out (by omega)).mono ?_
  rintro e w3 ⟨rfl, h3, k3⟩
  have hfin := HF.out _ w3 O oc HDD.out h3 k3
  have c3 := blk_cells (k3.blk HDD.out.2.2.1.blk (fun e => own_ne_blk HO.out HDD.out.2.2.1.blk (by decide) (by rw [ownBlock_slice]; exact e) rfl))
  have HFI := Lib.hid hfin
  clear h3 k3 hfin c2
  go_wp2
  go_ret
  exact HFI.out
end Go.Proofs.Ytmfgkddndlleoaa
