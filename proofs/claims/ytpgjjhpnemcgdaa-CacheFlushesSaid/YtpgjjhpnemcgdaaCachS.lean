/- Package copyholdlaw21: what the law of flushes keeps, in plain words; what lies in memory of all that was put together. -/
import Derived.Test.YtpgjjhpnemcgdaaCachR
import Derived.StillTailTactics
set_option linter.unusedSimpArgs false
set_option linter.unusedVariables false
namespace Go.Proofs.Ytpgjjhpnemcgdaa
open Go.RowKit

/-- Bytes put over others. -/
def ov1 (D : List UInt8) (p : Nat × List UInt8) : List UInt8 := putP (growP D (p.1 + p.2.length)) p.1 p.2
def ovl (L : List (Nat × List UInt8)) : List UInt8 := L.foldl ov1 []
theorem ovl_snoc (L : List (Nat × List UInt8)) (p : Nat × List UInt8) : ovl (L ++ [p]) = ov1 (ovl L) p := by simp [ovl]
theorem ov1_len (D : List UInt8) (p : Nat × List UInt8) : (ov1 D p).length = max D.length (p.1 + p.2.length) := by
  unfold ov1
  rw [putP_len (by rw [growP_len]; omega), growP_len]
structure FW (L : List (Nat × List UInt8)) (s : CaS) : Prop where
  mode : s.mode = 2
  dirty : s.dirty = L
  size : s.size = (ovl L).length
  data : s.data = ovl L
  le : s.size ≤ 2300
  kb : KB s.known
  one : ∀ p ∈ L, p.1 < 2000 ∧ 0 < p.2.length ∧ p.2.length ≤ 300
theorem FW.lease : FW [] (leaseP CaS.new 0 0) := ⟨rfl, rfl, rfl, rfl, by show 0 ≤ 2300; omega, KB.nil, fun p hp => by cases hp⟩
theorem grow_clear (D : List UInt8) (a e : Nat) (h1 : D.length < a) (h2 : a ≤ e) : putP (growP D e) D.length (List.replicate (a - D.length) 0) = growP D e := by
  have hle : D.length + (List.replicate (a - D.length) (0 : UInt8)).length ≤ (growP D e).length := by rw [growP_len, List.length_replicate]; omega
  apply List.ext_getElem?
  intro i
  rw [putP_get hle]
  split
  · rename_i hi
    rw [List.length_replicate] at hi
    unfold growP
    rw [List.getElem?_append_right (by omega), List.getElem?_replicate, List.getElem?_replicate, if_pos (by omega), if_pos (by omega)]
  · rfl
theorem FW.write {L : List (Nat × List UInt8)} {s s' : CaS} {a : Nat} {d : List UInt8} (h : FW L s) (ha : a < 2000) (h0 : 0 < d.length) (hd : d.length ≤ 300) (hw : WrP s a d s') : FW (L ++ [(a, d)]) s' := by
  have hsz : s.size = s.data.length := by rw [h.size, h.data]
  have hdat : s'.data = ov1 (ovl L) (a, d) := by
    rw [hw.data, hsz, h.data]
    unfold ov1
    split
    · rw [grow_clear _ _ _ (by assumption) (by omega)]
    · rfl
  have hl := ov1_len (ovl L) (a, d)
  simp only at hl
  have hle := h.le
  have hss := h.size
  refine ⟨hw.mode.trans h.mode, by rw [hw.dirty, h.dirty], ?_, by rw [hdat, ovl_snoc], ?_, hw.known, fun p hp => ?_⟩
  · rw [hw.size, ovl_snoc, hl, hss]
  · rw [hw.size]; omega
  · rcases List.mem_append.1 hp with hp | hp
    · exact h.one p hp
    · rw [List.mem_singleton.1 hp]
      exact ⟨ha, h0, hd⟩
/-- Numbers, and slices of bytes, as cells. -/
def u16s (l : List Nat) : List Value := l.map fun n : Nat => .int .u16 (n : Int)
theorem u16s_get {l : List Nat} {i n : Nat} (h : l[i]? = some n) : (u16s l)[i]? = some (.int .u16 (n : Int)) := by unfold u16s; rw [List.getElem?_map, h]; rfl
abbrev BS := Option Addr × List UInt8 × Nat
def bss (l : List BS) : List Value := l.map fun p => .slice p.1 p.2.1.length p.2.2
theorem bss_get {l : List BS} {i : Nat} {p : BS} (h : l[i]? = some p) : (bss l)[i]? = some (.slice p.1 p.2.1.length p.2.2) := by unfold bss; rw [List.getElem?_map, h]; rfl
/-- The pieces that are written, as far as the law came. -/
def WI (X : Nat → Prop) (k m : Nat) (w5 : World) (v7 v8 : Value) (W : World) : Prop := ∃ (i : Nat) (L : List (Nat × List UInt8)) (s : CaS), i ≤ m ∧ v8 = .int .i64 (i : Int) ∧ v7 = .int .i64 (L.length : Int) ∧ L.length ≤ 16 ∧ FW L s ∧ Ca X k s W ∧ Keep (fun j => ¬ X j) w5 W
def WE (X : Nat → Prop) (k : Nat) (w5 : World) (v7 : Value) (W : World) : Prop := ∃ (L : List (Nat × List UInt8)) (s : CaS), v7 = .int .i64 (L.length : Int) ∧ L.length ≤ 16 ∧ FW L s ∧ Ca X k s W ∧ Keep (fun j => ¬ X j) w5 W
/-- A cache whose pieces lie apart from a row that is another's. -/
def AL (k : Nat) (s : CaS) (A : Option Addr) (w : World) : Prop := ∃ X DA dc kv YA yc L, CA X k s w DA dc kv YA yc L ∧ (∀ j, A.map (·.block) = some j → X j) ∧ ∀ p ∈ L, ∀ j, p.2.ownBlock = some j → ¬ A.map (·.block) = some j
theorem AL.below {k : Nat} {s : CaS} {A : Option Addr} {w w' : World} (h : AL k s A w) (hb : Below w.heap.size w w') : AL k s A w' := by
  obtain ⟨X, DA, dc, kv, YA, yc, L, h1, h2, h3⟩ := h
  exact ⟨X, DA, dc, kv, YA, yc, L, h1.below hb, h2, h3⟩
theorem AL.ne {k n c : Nat} {s : CaS} {A : Option Addr} {w : World} {xs : List Value} (h : AL k s A w) (ho : w.ownsRow 0 5 1 (.slice A n c) n xs) (j : Nat) (e : (Value.slice A n c).ownBlock = some j) : ¬ j = k := by
  obtain ⟨X, DA, dc, kv, YA, yc, L, h1, _⟩ := h
  exact own_ne_blk ho h1.blk (by decide) e
theorem AL.ca {k : Nat} {s : CaS} {A : Option Addr} {w : World} (h : AL k s A w) : ∃ X, Ca X k s w := by
  obtain ⟨X, DA, dc, kv, YA, yc, L, h1, _⟩ := h
  exact ⟨X, DA, dc, kv, YA, yc, L, h1⟩
/-- The row turns, or is a new one. -/
theorem AL.turn {k n c n' c' : Nat} {s : CaS} {A A' : Option Addr} {w w' : World} {xs xs' : List Value} (h : AL k s A w) (ho : w.ownsRow 0 5 1 (.slice A n c) n xs) (ho' : w'.ownsRow 0 5 1 (.slice A' n' c') n' xs') (hk : Keep (fun j => A.map (·.block) = some j) w w') (hA : A'.map (·.block) = A.map (·.block) ∨ ∃ g, A'.map (·.block) = some g ∧ w.heap.size ≤ g) : AL k s A' w' := by
  obtain ⟨X, DA, dc, kv, YA, yc, L, h1, h2, h3⟩ := h
  have hlt : ∀ j, A'.map (·.block) = some j → j < w'.heap.size := fun j e => by
    obtain ⟨cs, hb⟩ := own_blk ho' (k := j) (by rw [ownBlock_slice]; exact e)
    exact blk_lt hb
  have h4 := h1.keep hk (fun j hj => h2 j hj) (fun j cs fr hb e => own_ne_blk ho hb (by decide) (k := j) (by rw [ownBlock_slice]; exact e) rfl) (fun p hp j hj => h3 p hp j hj)
  have hP : ∀ p ∈ L, ∀ j, p.2.ownBlock = some j → j < w.heap.size := fun p hp j hj => by
    obtain ⟨A1, c1, e1, _, hA1⟩ := h1.pieces p hp
    rw [e1, ownBlock_slice] at hj
    obtain ⟨_, cs, fr, hb⟩ := hA1 j hj
    exact blk_lt hb
  rcases hA with hA | ⟨g, hg, hgs⟩
  · exact ⟨X, DA, dc, kv, YA, yc, L, h4, fun j hj => h2 j (by rw [← hA]; exact hj), fun p hp j hj => by rw [hA]; exact h3 p hp j hj⟩
  · refine ⟨fun j => X j ∨ j = g, DA, dc, kv, YA, yc, L, ⟨h4.blk, h4.data, h4.known, h4.dirty, h4.names, h4.pieces, fun j hj => ?_, fun hj => ?_, fun j e hj => ?_, fun j e hj => ?_⟩, fun j hj => .inr ?_, fun p hp j hj e => ?_⟩
    · rcases hj with hj | rfl
      · exact h4.old j hj
      · exact hlt j hg
    · rcases hj with hj | hj
      · exact h4.notk hj
      · have := blk_lt h1.blk; omega
    · rcases hj with hj | hj
      · exact h4.notd j e hj
      · obtain ⟨cs, hb⟩ := own_blk h1.data (k := j) (by rw [ownBlock_slice]; exact e)
        have := blk_lt hb; omega
    · rcases hj with hj | hj
      · exact h4.noty j e hj
      · obtain ⟨cs, hb⟩ := own_blk h1.dirty (k := j) (by rw [ownBlock_slice]; exact e)
        have := blk_lt hb; omega
    · rw [hg] at hj; exact (Option.some.inj hj).symm
    · have := hP p hp j hj
      rw [hg] at e
      have := Option.some.inj e
      omega
theorem read_all' {s : CaS} (hd : s.size ≤ s.data.length) (hs : s.size ≤ 9728) : (readP s 0 9728).length = s.size ∧ ∀ i, i < s.size → (readP s 0 9728)[i]? = s.data[i]? := by
  have h2 : (partN s 0 9728).1 = 0 ∧ (partN s 0 9728).2 = s.size := by
    unfold partN
    split
    · exact ⟨rfl, by simp only; omega⟩
    · exact ⟨rfl, by simp only; omega⟩
  unfold readP
  rw [h2.1, h2.2, List.drop_zero, Nat.sub_zero]
  exact ⟨by rw [List.length_take]; omega, fun i hi => List.getElem?_take_of_lt hi⟩
/-- A row of no bytes lies apart from all pieces. -/
theorem al_start {X : Nat → Prop} {k T : Nat} {s : CaS} {W : World} (h : Ca X k s W) (hT : W.heap[T]? = some (.cells #[] 5 (0, 0))) (hX : X T) (hne : ∀ p ∈ s.dirty, 0 < p.2.length) : AL k s (some ⟨T, 0, none⟩) W := by
  obtain ⟨DA, dc, kv, YA, yc, L, h⟩ := h
  refine ⟨X, DA, dc, kv, YA, yc, L, h, fun j e => by have e : T = j := Option.some.inj e; rw [← e]; exact hX, fun p hp j hj e => ?_⟩
  have e : T = j := Option.some.inj e
  subst e
  obtain ⟨A, c, e, hs, _⟩ := h.pieces p hp
  have h0 := hne p.1 (by rw [← h.names]; exact List.mem_map.2 ⟨p, hp, rfl⟩)
  obtain ⟨u, hu⟩ : ∃ u, (bv p.1.2)[0]? = some u := ⟨_, List.getElem?_eq_getElem (by rw [bv_length]; exact h0)⟩
  obtain ⟨b, o, rfl, _, hc⟩ := sl_row hs hu
  rw [e, ownBlock_slice] at hj
  have hj : b = T := Option.some.inj hj
  subst hj
  rw [blk_cells hT] at hc
  simp at hc
theorem al_first {k at_ : Nat} {s : CaS} {A : Option Addr} {w : World} {d : List UInt8} {rest : List (Nat × List UInt8)} (h : AL k s A w) (hd : s.dirty = (at_, d) :: rest) (hl : d.length ≤ 1000000) (hn : s.dirty.length ≤ 1000000) :
    Calls Try.prog 13 #[.pointer (some ⟨k, 0, none⟩)] w fun e w' => ∃ v, e = .returned (.tuple #[.agg #[.int .i64 (at_ : Int), v], .bool true]) ∧ BN w w' v d := by
  obtain ⟨X, h⟩ := h.ca
  exact first_walk h hd hl hn
theorem al_flushed {k : Nat} {s : CaS} {A : Option Addr} {w : World} {p0 : Nat × List UInt8} {rest : List (Nat × List UInt8)} (h : AL k s A w) (hd : s.dirty = p0 :: rest) (hn : rest.length ≤ 1000) :
    Calls Try.prog 14 #[.pointer (some ⟨k, 0, none⟩)] w fun e w' => e = .returned (.tuple #[]) ∧ AL k { s with dirty := rest } A w' ∧ Keep (fun j => j = k) w w' := by
  obtain ⟨X, DA, dc, kv, YA, yc, L, h1, h2, h3⟩ := h
  obtain ⟨q, L', rfl⟩ : ∃ q L', L = q :: L' := by
    cases L with
    | nil => have := h1.names; rw [hd] at this; cases this
    | cons q L' => exact ⟨q, L', rfl⟩
  have hq : q.1 = p0 ∧ L'.map Prod.fst = rest := by have := h1.names; rw [hd] at this; exact List.cons.inj this
  refine (flushed_walk h1 (rest := rest) (by rw [hd, hq.1]) (by have := congrArg List.length hq.2; rw [List.length_map] at this; omega)).mono ?_
  rintro e w' ⟨A4, c4, he, h4, hk⟩
  exact ⟨he, ⟨X, DA, dc, kv, A4, c4, L', h4, h2, fun p hp => h3 p (List.mem_cons_of_mem _ hp)⟩, hk⟩
def slLen : Value → Nat
  | .slice _ n _ => n
  | _ => 0
/-- Zeros behind bytes. -/
def ZI (k : Nat) (s : CaS) (D : List UInt8) (e B : Nat) (A5 : Option Addr) (w5 : World) (v6 : Value) (W : World) : Prop := ∃ (m : Nat) (A : Option Addr) (c : Nat), D.length ≤ m ∧ m ≤ max D.length e ∧ v6 = .slice A m c ∧ W.ownsRow 0 5 1 (.slice A m c) m (bv (growP D m)) ∧ AL k s A W ∧ (∀ j, A.map (·.block) = some j → B ≤ j ∧ (A5.map (·.block) = some j ∨ w5.heap.size ≤ j)) ∧ Keep (fun j => A5.map (·.block) = some j) w5 W
theorem growP_self (D : List UInt8) : growP D D.length = D := by unfold growP; rw [Nat.sub_self, List.replicate_zero, List.append_nil]
theorem growP_succ (D : List UInt8) (m : Nat) (h : D.length ≤ m) : growP D m ++ [0] = growP D (m + 1) := by
  unfold growP
  rw [List.append_assoc, show m + 1 - D.length = (m - D.length) + 1 by omega, List.replicate_succ']
theorem ovl_le (N : Nat) (L : List (Nat × List UInt8)) (h : ∀ p ∈ L, p.1 + p.2.length ≤ N) : (ovl L).length ≤ N := by
  have : ∀ (L : List (Nat × List UInt8)) (D : List UInt8), D.length ≤ N → (∀ p ∈ L, p.1 + p.2.length ≤ N) → (L.foldl ov1 D).length ≤ N := by
    intro L
    induction L with
    | nil => intro D hD _; exact hD
    | cons p L ih =>
      intro D hD h
      refine ih (ov1 D p) ?_ (fun q hq => h q (List.mem_cons_of_mem _ hq))
      rw [ov1_len]
      have := h p (List.mem_cons_self ..)
      omega
  exact this L [] (Nat.zero_le _) h
theorem growP_max (D : List UInt8) (e : Nat) : growP D (max D.length e) = growP D e := by unfold growP; rw [show max D.length e - D.length = e - D.length by omega]
/-- The piece's bytes are put in. -/
theorem zi_put {k m c g a : Nat} {s : CaS} {D d : List UInt8} {w W : World} {cur : Array Value} (hm : m = max D.length (a + d.length)) (ho : w.ownsRow 0 5 1 (.slice (some ⟨g, 0, none⟩) m c) m (bv (growP D m))) (hal : AL k s (some ⟨g, 0, none⟩) w) (hb : w.heap[g]? = some (.cells cur 5 (0, 0))) (hW : W = w.drew) :
    (W.setRow g (cur.toList.take a ++ (bv d ++ cur.toList.drop (a + (bv d).length))).toArray).ownsRow 0 5 1 (.slice (some ⟨g, 0, none⟩) (ov1 D (a, d)).length c) (ov1 D (a, d)).length (bv (ov1 D (a, d))) ∧
    AL k s (some ⟨g, 0, none⟩) (W.setRow g (cur.toList.take a ++ (bv d ++ cur.toList.drop (a + (bv d).length))).toArray) ∧
    Keep (fun j => j = g) w (W.setRow g (cur.toList.take a ++ (bv d ++ cur.toList.drop (a + (bv d).length))).toArray) := by
  have hl : (ov1 D (a, d)).length = m := by rw [ov1_len, hm]
  have ho' := own_keep ho ((Keep.refl (fun _ => False) w).drew) (fun _ _ h => h)
  rw [← hW] at ho'
  have hb' : W.heap[g]? = some (.cells cur 5 (0, 0)) := by rw [hW]; exact hb
  have hk : Keep (fun j => j = g) w (W.setRow g (cur.toList.take a ++ (bv d ++ cur.toList.drop (a + (bv d).length))).toArray) := by
    have := keep_setRow W g (cur.toList.take a ++ (bv d ++ cur.toList.drop (a + (bv d).length))).toArray
    rw [hW] at this ⊢
    exact ((Keep.refl (fun j => j = g) w).drew).trans this (fun _ _ h => h)
  have hp := own_put (o := a) (cs := d) ho' hb' (by omega) (by rw [growP_len]; omega)
  have he : putP (growP D m) a d = ov1 D (a, d) := by unfold ov1; rw [hm, growP_max]
  rw [he] at hp
  refine ⟨by rw [hl]; exact hp, hal.turn ho hp (hk.mono (fun j _ e => by rw [e]; rfl)) (.inl rfl), hk⟩
theorem zi_step {k e B m c c' : Nat} {s : CaS} {D : List UInt8} {A5 A A' : Option Addr} {w5 w w' : World} (h1 : D.length ≤ m) (h2 : m < max D.length e) (ho : w.ownsRow 0 5 1 (.slice A m c) m (bv (growP D m))) (hal : AL k s A w) (hA : ∀ j, A.map (·.block) = some j → B ≤ j ∧ (A5.map (·.block) = some j ∨ w5.heap.size ≤ j)) (hk : Keep (fun j => A5.map (·.block) = some j) w5 w) (hBw : B ≤ w5.heap.size)
    (g1 : w'.ownsRow 0 5 1 (.slice A' (m + 1) c') (m + 1) (bv (growP D m) ++ [.int .u8 0])) (g2 : Keep (fun j => (Value.slice A m c).ownBlock = some j) (w.alloc (.cells #[.int .u8 0] 5)) w') (g3 : (Value.slice A' (m + 1) c').ownBlock = (Value.slice A m c).ownBlock ∨ (Value.slice A' (m + 1) c').ownBlock = some (w.heap.size + 1)) :
    ZI k s D e B A5 w5 (.slice A' (m + 1) c') w' := by
  have hk2 : Keep (fun j => A.map (·.block) = some j) w w' := by
    have := ((Keep.refl (fun j => A.map (·.block) = some j) w).alloc (.cells #[.int .u8 0] 5)).trans g2 (fun j _ h => by rw [ownBlock_slice] at h; exact h)
    exact this
  have hA2 : A'.map (·.block) = A.map (·.block) ∨ ∃ g, A'.map (·.block) = some g ∧ w.heap.size ≤ g := by
    rcases g3 with h | h <;> rw [ownBlock_slice] at h
    · rw [ownBlock_slice] at h; exact .inl h
    · exact .inr ⟨_, h, by simp⟩
  have g1' : w'.ownsRow 0 5 1 (.slice A' (m + 1) c') (m + 1) (bv (growP D (m + 1))) := by
    rw [← growP_succ D m h1]
    simpa [bv] using g1
  refine ⟨m + 1, A', c', by omega, by omega, rfl, g1', hal.turn ho g1' hk2 hA2, fun j hj => ?_, hk.trans hk2 (fun j hj h => ((hA j h).2).resolve_right (by omega))⟩
  rcases hA2 with h | ⟨g, h, hg⟩
  · rw [h] at hj; exact hA j hj
  · rw [h] at hj
    have := Option.some.inj hj
    have := hk.size
    exact ⟨by omega, .inr (by omega)⟩
/-- All that was put together. -/
def LI (k B : Nat) (L : List (Nat × List UInt8)) (s0 : CaS) (w5 : World) (v11 v6 : Value) (W : World) : Prop := ∃ (i : Nat) (A : Option Addr) (c : Nat), i ≤ L.length ∧ v11 = .int .i64 (i : Int) ∧ v6 = .slice A (ovl (L.take i)).length c ∧ W.ownsRow 0 5 1 (.slice A (ovl (L.take i)).length c) (ovl (L.take i)).length (bv (ovl (L.take i))) ∧ AL k { s0 with dirty := L.drop i } A W ∧ (∀ j, A.map (·.block) = some j → B ≤ j) ∧ Below B w5 W
end Go.Proofs.Ytpgjjhpnemcgdaa
