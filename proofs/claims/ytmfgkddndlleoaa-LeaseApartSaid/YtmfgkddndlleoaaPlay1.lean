/- The frame of play: its three boxes. -/
import Derived.Test.YtmfgkddndlleoaaPlay0
import Derived.Test.YtmfgkddndlleoaaRefL8
import Derived.Test.YtmfgkddndlleoaaApartOpen
set_option linter.unusedSimpArgs false
set_option linter.unusedVariables false
namespace Go.Proofs.Ytmfgkddndlleoaa
open Go.RowKit

theorem putP_len (x : LE) (l : List LE) : (putP x l).length ≤ l.length + 1 := by
  induction l with
  | nil => exact Nat.le_refl _
  | cons a l ih =>
    unfold putP
    split <;> simp only [List.length_cons] <;> omega
theorem waitP_len (x : LE) (l : List LE) : (waitP x l).length ≤ l.length + 1 := by
  induction l with
  | nil => exact Nat.le_refl _
  | cons a l ih =>
    unfold waitP
    split <;> simp only [List.length_cons] <;> omega
theorem grantP_len (n g s m now : Int) (L Q : List LE) : (grantP n g s m now L Q).1.length ≤ L.length ∧ (grantP n g s m now L Q).2.2.1.length ≤ L.length + 1 ∧ (grantP n g s m now L Q).2.2.2.length ≤ Q.length + 1 := by
  have h1 := seatsP_length n g s m now L
  have h2 := List.length_filter_le (fun x => !overP n g s m now x) L
  have h3 := List.length_filter_le (fun x => !pastP x.x now 12) Q
  unfold grantP
  split
  · exact ⟨Nat.zero_le _, Nat.le_succ _, Nat.le_succ _⟩
  · split
    · have h4 := waitP_len ⟨n, g, s, m, clockP now⟩ (liveQ now Q)
      unfold liveQ at h4 ⊢
      refine ⟨by rw [sortP_length]; exact h1, Nat.le_succ_of_le h2, ?_⟩
      exact Nat.le_trans h4 (by omega)
    · have h4 := putP_len ⟨n, g, s, m, clockP now⟩ (L.filter fun x => !overP n g s m now x)
      have h5 := List.length_filter_le (fun x => !mineP n g s x) (liveQ now Q)
      unfold liveQ at h5 ⊢
      exact ⟨Nat.zero_le _, Nat.le_trans h4 (by omega), by dsimp only; omega⟩
theorem recP_len (born n g s m now : Int) (L Q : List LE) : (recP born n g s m now L Q).2.1.length ≤ L.length + 1 ∧ (recP born n g s m now L Q).2.2.length ≤ Q.length := by
  have h2 := List.length_filter_le (fun x => !overP n g s m now x) L
  unfold recP
  split
  · exact ⟨Nat.le_succ _, Nat.le_refl _⟩
  · split
    · exact ⟨Nat.le_succ_of_le h2, Nat.le_refl _⟩
    · have h4 := putP_len ⟨n, g, s, m, clockP now⟩ (L.filter fun x => !overP n g s m now x)
      exact ⟨Nat.le_trans h4 (by omega), List.length_filter_le _ _⟩
theorem clrP_len (n g s m now : Int) (L : List LE) : (clrP n g s m now L).1.length ≤ L.length ∧ (clrP n g s m now L).2.length ≤ L.length := by
  have h1 := seatsP_length n g s m now L
  unfold clrP
  split
  · exact ⟨Nat.zero_le _, Nat.le_refl _⟩
  · exact ⟨by rw [sortP_length]; exact h1, List.length_filter_le _ _⟩
theorem relP_apart {n g s : Int} {L : List LE} (h : Apart L) : Apart (relP n g s L) := List.Pairwise.sublist (relP_sub n g s L) h
theorem leftP_apart {s : Int} {L : List LE} (h : Apart L) : Apart (leftP s L) := List.Pairwise.sublist (List.filter_sublist) h

/-- The cells of a step. -/
def ST.arr (e : ST) : Array Value := #[.int .i64 e.what, .int .i64 e.seat, .int .i64 e.mode, .int .i64 e.now, .int .i64 e.n, .int .i64 e.g]
def ZT : Array Value := #[.int .i64 0, .slice none 0 0, .slice none 0 0]
/-- In play, which began in w beside the blocks X0. -/
structure PF (w : World) (X0 : Nat → Prop) (st : ST) (t : Nat) (born rb : Int) (L Q : List LE) (A : Option Addr) (c : Nat) (ls : List LE) (B : Option Addr) (d : Nat) (qs : List LE) (X : Nat → Prop) (N : Nat) (wx : World) : Prop where
  ps : PS wx t born L Q A c ls B d qs X N
  bt : wx.heap[w.heap.size]? = some (.cells #[.int .i64 rb, .slice A ls.length c, .slice B qs.length d] 29 (0, 0))
  bs : wx.heap[w.heap.size + 1]? = some (.cells st.arr 36 (0, 0))
  br : wx.heap[w.heap.size + 1 + 1]? = some (.cells ZT 29 (0, 0))
  sup : ∀ k, X0 k → X k
  xt : X w.heap.size
  xs : X (w.heap.size + 1)
  xr : X (w.heap.size + 1 + 1)
  kp : Keep (fun k => ¬ X0 k) w wx
  na : ∀ k, A.map (·.block) = some k → ls ≠ [] → k ≠ w.heap.size ∧ k ≠ w.heap.size + 1 + 1
  nb : ∀ k, B.map (·.block) = some k → qs ≠ [] → k ≠ w.heap.size ∧ k ≠ w.heap.size + 1 + 1
variable {w : World} {X0 : Nat → Prop} {st : ST} {t : Nat} {born rb : Int} {L Q L' Q' : List LE} {A A' : Option Addr} {c c' : Nat} {ls ls' : List LE} {B B' : Option Addr} {d d' : Nat} {qs qs' : List LE} {X : Nat → Prop} {N N' : Nat} {wx wy wz : World}
theorem PF.below (h : PF w X0 st t born rb L Q A c ls B d qs X N wx) (hk : Below wx.heap.size wx wy) : PF w X0 st t born rb L Q A c ls B d qs X N wy :=
  have k : Keep (fun _ => False) wx wy := Keep.of_below hk
  ⟨h.ps.below hk, k.blk h.bt id, k.blk h.bs id, k.blk h.br id, h.sup, h.xt, h.xs, h.xr, h.kp.trans k (fun _ _ e => e.elim), h.na, h.nb⟩
theorem PF.real (h : PF w X0 st t born rb L Q A c ls B d qs X N wx) (ht : TL wy t born L' Q' X) (hk : Keep (fun k => ¬ X k) wx wy) (ha : Apart L') (h1 : L'.length ≤ N') (h2 : Q'.length ≤ N') (hN : N ≤ N') : PF w X0 st t born rb L' Q' A c ls B d qs X N' wy :=
  ⟨h.ps.real ht hk ha h1 h2 hN, hk.blk h.bt (fun e => e h.xt), hk.blk h.bs (fun e => e h.xs), hk.blk h.br (fun e => e h.xr), h.sup, h.xt, h.xs, h.xr, h.kp.trans hk (fun i _ e hx => e (h.sup i hx)), h.na, h.nb⟩
/-- A call of the document's answer, and the table's box written over. -/
theorem PF.turn (h : PF w X0 st t born rb L Q A c ls B d qs X N wx) (hk : Below wx.heap.size wx wy) (hs : Sl wy 5 (.slice A' ls'.length c') ls'.length (flat ls')) (hq : Sl wy 5 (.slice B' qs'.length d') qs'.length (flat qs'))
    (hA : ∀ k, A'.map (·.block) = some k → (A.map (·.block) = some k ∧ ls' = ls) ∨ wx.heap.size ≤ k) (hB : ∀ k, B'.map (·.block) = some k → (B.map (·.block) = some k ∧ qs' = qs) ∨ wx.heap.size ≤ k) (h3 : ls'.length ≤ N') (h4 : qs'.length ≤ N') (hN : N ≤ N')
    (hf : wz = ((wy.setCell ⟨w.heap.size, 0, none⟩ (.int .i64 rb)).setCell ⟨w.heap.size, 1, none⟩ (.slice A' ls'.length c')).setCell ⟨w.heap.size, 2, none⟩ (.slice B' qs'.length d')) :
    ∃ X', PF w X0 st t born rb L Q A' c' ls' B' d' qs' X' N' wz := by
  have hsz : w.heap.size + 1 + 1 < wx.heap.size := blk_lt h.br
  have hne : ∀ {l : List LE}, l ≠ [] ∨ l = [] := fun {l} => (Decidable.em (l = [])).symm
  have hA2 : ∀ k, A'.map (·.block) = some k → (A.map (·.block) = some k ∧ ls ≠ []) ∨ ls' = [] ∨ wx.heap.size ≤ k := fun k e => by
    rcases hA k e with ⟨h1, h2⟩ | h1
    · rcases @hne ls' with h5 | h5
      · exact .inl ⟨h1, h2 ▸ h5⟩
      · exact .inr (.inl h5)
    · exact .inr (.inr h1)
  have hB2 : ∀ k, B'.map (·.block) = some k → (B.map (·.block) = some k ∧ qs ≠ []) ∨ qs' = [] ∨ wx.heap.size ≤ k := fun k e => by
    rcases hB k e with ⟨h1, h2⟩ | h1
    · rcases @hne qs' with h5 | h5
      · exact .inl ⟨h1, h2 ▸ h5⟩
      · exact .inr (.inl h5)
    · exact .inr (.inr h1)
  have hps := h.ps.ref hk hs hq hA2 hB2 h3 h4 hN
  have ky : Keep (fun _ => False) wx wy := Keep.of_below hk
  have kz : Keep (fun i => i = w.heap.size) wy wz := by rw [hf]; exact (((Keep.refl (fun i => i = w.heap.size) wy).setCell (fun _ => rfl) _).setCell (fun _ => rfl) _).setCell (fun _ => rfl) _
  have na2 : ∀ k, A'.map (·.block) = some k → ls' ≠ [] → k ≠ w.heap.size ∧ k ≠ w.heap.size + 1 + 1 := fun k e hn => by
    rcases hA k e with ⟨h1, h2⟩ | h1
    · exact h.na k h1 (h2 ▸ hn)
    · omega
  have nb2 : ∀ k, B'.map (·.block) = some k → qs' ≠ [] → k ≠ w.heap.size ∧ k ≠ w.heap.size + 1 + 1 := fun k e hn => by
    rcases hB k e with ⟨h1, h2⟩ | h1
    · exact h.nb k h1 (h2 ▸ hn)
    · omega
  refine ⟨_, hps.stored kz (fun k e => .inl (e ▸ h.xt)) (fun k e hn => (na2 k e hn).1) (fun k e hn => (nb2 k e hn).1), ?_, kz.blk (ky.blk h.bs id) (by omega), kz.blk (ky.blk h.br id) (by omega), fun k hx => .inl (h.sup k hx), .inl h.xt, .inl h.xs, .inl h.xr, ?_, na2, nb2⟩
  · rw [hf]
    exact blk_set (blk_set (blk_set (ky.blk h.bt id) _) _) _
  · exact (h.kp.trans ky (fun _ _ e => e.elim)).trans kz (fun i hi e => by omega)
/-- The result is laid. -/
def PFin (w : World) (X0 : Nat → Prop) (t : Nat) (born rb : Int) (L Q : List LE) (A : Option Addr) (c : Nat) (ls : List LE) (B : Option Addr) (d : Nat) (qs : List LE) (X : Nat → Prop) (N : Nat) (wx : World) : Prop :=
  PS wx t born L Q A c ls B d qs X N ∧ wx.heap[w.heap.size + 1 + 1]? = some (.cells #[.int .i64 rb, .slice A ls.length c, .slice B qs.length d] 29 (0, 0)) ∧ (∀ k, X0 k → X k) ∧ Keep (fun k => ¬ X0 k) w wx
theorem PF.fin (h : PF w X0 st t born rb L Q A c ls B d qs X N wx) (hf : wz = ((wx.setCell ⟨w.heap.size + 1 + 1, 0, none⟩ (.int .i64 rb)).setCell ⟨w.heap.size + 1 + 1, 1, none⟩ (.slice A ls.length c)).setCell ⟨w.heap.size + 1 + 1, 2, none⟩ (.slice B qs.length d)) :
    PFin w X0 t born rb L Q A c ls B d qs X N wz := by
  have kz : Keep (fun i => i = w.heap.size + 1 + 1) wx wz := by rw [hf]; exact (((Keep.refl (fun i => i = w.heap.size + 1 + 1) wx).setCell (fun _ => rfl) _).setCell (fun _ => rfl) _).setCell (fun _ => rfl) _
  refine ⟨h.ps.stored kz (fun k e => e ▸ h.xr) (fun k e hn => (h.na k e hn).2) (fun k e hn => (h.nb k e hn).2), ?_, h.sup, h.kp.trans kz (fun i hi e => by omega)⟩
  rw [hf]
  exact blk_set (blk_set (blk_set h.br _) _) _
/-- Numbers read as they did, though the table's box was written over. -/
theorem sl_turn {w3 w4 : World} {BT : Nat} {rb : Int} {T : TypeId} {a b a' b' : Value} (ha : ∀ x, a ≠ .int .i64 x) (hb : ∀ x, b ≠ .int .i64 x) {O : Option Addr} {n oc : Nat} {os : List Int} (h3 : w3.heap[BT]? = some (.cells #[.int .i64 rb, a, b] T (0, 0))) (h4 : w4.heap[BT]? = some (.cells #[.int .i64 rb, a', b'] T (0, 0))) (k : Keep (fun i => i = BT) w3 w4)
    (h : Sl w3 1 (.slice O n oc) n (ints os)) : Sl w4 1 (.slice O n oc) n (ints os) := by
  obtain ⟨A, c, e, hr, h1, h2, h5⟩ := h
  refine ⟨A, c, e, ?_, h1, h2, h5⟩
  rcases hr with hr | ⟨ad, rfl, hc⟩
  · exact .inl hr
  · refine .inr ⟨ad, rfl, fun j u hu => ?_⟩
    have h6 := hc j u hu
    by_cases hbk : (ad.add j).block = BT
    · obtain ⟨x, rfl⟩ : ∃ x, u = .int .i64 x := by
        have := List.mem_of_getElem? hu
        simp only [ints, List.mem_map] at this
        obtain ⟨x, _, rfl⟩ := this
        exact ⟨x, rfl⟩
      generalize ad.add j = p at h6 hbk ⊢
      obtain ⟨pb, po, ps⟩ := p
      dsimp only at hbk
      subst hbk
      unfold World.cell? at h6 ⊢
      dsimp only at h6 ⊢
      rw [h3] at h6
      rw [h4]
      dsimp only at h6 ⊢
      cases ps with
      | some s => simp at h6
      | none =>
        simp only [Option.isSome_none, Bool.false_eq_true, if_false] at h6 ⊢
        match po with
        | 0 => exact h6
        | 1 => simp at h6; exact absurd h6 (ha x)
        | 2 => simp at h6; exact absurd h6 (hb x)
        | po + 3 => simp at h6
    · exact k.cell h6 hbk
/-- The boxes of play. -/
def boxP (w : World) (rb : Int) (A B : Option Addr) (c d nl nq : Nat) (st : ST) : World :=
  ((w.alloc (.cells #[.int .i64 rb, .slice A nl c, .slice B nq d] 29)).alloc (.cells st.arr 36)).alloc (.cells ZT 29)
theorem PF.start (h : PS w t born L Q A c ls B d qs X N) : ∃ X', PF w X st t born rb L Q A c ls B d qs X' N (boxP w rb A B c d ls.length qs.length st) := by
  have k1 : Below w.heap.size w (boxP w rb A B c d ls.length qs.length st) := (((Below.refl _ w).alloc (Nat.le_refl _) _).alloc (by simp) _).alloc (by simp; omega) _
  have z1 : (boxP w rb A B c d ls.length qs.length st).heap.size = w.heap.size + 3 := by simp [boxP]
  have na2 : ∀ k, A.map (·.block) = some k → ls ≠ [] → k ≠ w.heap.size ∧ k ≠ w.heap.size + 1 + 1 := fun k e hn => by
    have := h.lt k (h.xl k e hn)
    omega
  have nb2 : ∀ k, B.map (·.block) = some k → qs ≠ [] → k ≠ w.heap.size ∧ k ≠ w.heap.size + 1 + 1 := fun k e hn => by
    have := h.lt k (h.xq k e hn)
    omega
  have e1 := blk_new w (.cells #[.int .i64 rb, .slice A ls.length c, .slice B qs.length d] 29)
  have e2 := blk_new (w.alloc (.cells #[.int .i64 rb, .slice A ls.length c, .slice B qs.length d] 29)) (.cells st.arr 36)
  have e3 := blk_new ((w.alloc (.cells #[.int .i64 rb, .slice A ls.length c, .slice B qs.length d] 29)).alloc (.cells st.arr 36)) (.cells ZT 29)
  refine ⟨_, h.own k1 (fun k => w.heap.size ≤ k ∧ k < w.heap.size + 3) (fun k hk => ⟨hk.1, by rw [z1]; exact hk.2⟩), blk_old (blk_old e1 _) _, ?_, ?_, fun k hk => .inl hk, .inr ⟨by omega, by omega⟩, .inr ⟨by omega, by omega⟩, .inr ⟨by omega, by omega⟩, Keep.of_below k1, na2, nb2⟩
  · have := blk_old e2 (.cells ZT 29)
    rw [show (w.alloc (.cells #[.int .i64 rb, .slice A ls.length c, .slice B qs.length d] 29)).heap.size = w.heap.size + 1 by simp] at this
    exact this
  · rw [show ((w.alloc (.cells #[.int .i64 rb, .slice A ls.length c, .slice B qs.length d] 29)).alloc (.cells st.arr 36)).heap.size = w.heap.size + 1 + 1 by simp] at e3
    exact e3
end Go.Proofs.Ytmfgkddndlleoaa
