/- The walk of PostPlays. -/
import Derived.Test.YthpgdoepbkgacaaPostSl
import Derived.Deep.DeepCutAuto
import Derived.Deep.CutBlock
set_option linter.unusedSimpArgs false
set_option linter.unusedVariables false
namespace Go.Proofs.Ythpgdoepbkgacaa.lawPostPlays
open Go.RowKit
/-- A step that came in. -/
structure St where
  what : Int
  n : Int
  l : CL
def St.cells (s : St) : List Value := [.int .i64 s.what, .int .i64 s.n] ++ s.l.cells
theorem st_get (ss : List St) (k : Nat) {s : St} (h : ss[k]? = some s) : (ss.flatMap St.cells)[k * 5]? = some (.int .i64 s.what) ∧ (ss.flatMap St.cells)[k * 5 + 1]? = some (.int .i64 s.n) ∧ (ss.flatMap St.cells)[k * 5 + 2]? = some (.int .i64 s.l.frm) ∧ (ss.flatMap St.cells)[k * 5 + 3]? = some (.int .i64 s.l.dst) ∧ (ss.flatMap St.cells)[k * 5 + 4]? = some s.l.sl := by
  induction ss generalizing k with
  | nil => simp at h
  | cons a l ih =>
    cases k with
    | zero =>
      have : a = s := by simpa using h
      subst this
      simp [St.cells, CL.cells]
    | succ k =>
      obtain ⟨h1, h2, h3, h4, h5⟩ := ih k (by simpa using h)
      have hl : a.cells.length = 5 := rfl
      have e : ∀ j, (a.cells ++ l.flatMap St.cells)[(k + 1) * 5 + j]? = (l.flatMap St.cells)[k * 5 + j]? := by
        intro j
        rw [show (k + 1) * 5 + j = a.cells.length + (k * 5 + j) by omega, List.getElem?_append_right (Nat.le_add_right _ _), Nat.add_sub_cancel_left]
      simp only [List.flatMap_cons]
      exact ⟨(e 0).trans h1, (e 1).trans h2, (e 2).trans h3, (e 3).trans h4, (e 4).trans h5⟩
theorem steps_at {w : World} {A : Option Addr} {c n k : Nat} {ss : List St} (h : Sl w 5 (.slice A n c) n (ss.flatMap St.cells)) {s : St} (hl : ss[k]? = some s) :
    ∃ b o, A = some ⟨b, o, none⟩ ∧ b < w.heap.size ∧ w.cell? ⟨b, o + k * 5, none⟩ = some (.int .i64 s.what) ∧ w.cell? ⟨b, o + k * 5 + 1, none⟩ = some (.int .i64 s.n) ∧ w.cell? ⟨b, o + k * 5 + 2, none⟩ = some (.int .i64 s.l.frm) ∧ w.cell? ⟨b, o + k * 5 + 3, none⟩ = some (.int .i64 s.l.dst) ∧ w.cell? ⟨b, o + k * 5 + 4, none⟩ = some (.slice s.l.A s.l.data.length s.l.cap) := by
  obtain ⟨A', c', e, hr, _⟩ := h
  injection e with e1 _ e2
  subst e1
  have hfl := st_get ss k hl
  rcases hr with h0 | ⟨ad, rfl, hc⟩
  · rw [h0] at hfl; simp at hfl
  · obtain ⟨b, o, spot⟩ := ad
    have hk := (List.getElem?_eq_some_iff.1 hl).1
    have hz := hc _ _ (st_get ss 0 (List.getElem?_eq_getElem (show 0 < ss.length by omega))).1
    have es : spot = none := by
      have : (⟨b, o, spot⟩ : Addr).add (0 * 5) = ⟨b, o, spot⟩ := by unfold Addr.add; simp
      rw [this] at hz
      exact World.cell?_spot hz
    subst es
    have g : ∀ j u, (ss.flatMap St.cells)[k * 5 + j]? = some u → w.cell? ⟨b, o + k * 5 + j, none⟩ = some u := by
      intro j u hu
      have := hc _ _ hu
      rw [Addr.add_lit, ← Nat.add_assoc] at this
      exact this
    have h0 := g 0 _ hfl.1
    exact ⟨b, o, rfl, World.block_lt_of_cell? _ _ h0, h0, g 1 _ hfl.2.1, g 2 _ hfl.2.2.1, g 3 _ hfl.2.2.2.1, g 4 _ hfl.2.2.2.2⟩

def blkOf (v : Value) (k : Nat) : Prop := v.ownBlock = some k
/-- The law's own list, and the post. -/
structure Both (w wr : World) (g : Nat) (v : Value) (m : List CL) : Prop where
  own : wr.ownsRow 0 28 3 v m.length (m.flatMap CL.cells)
  good : ∀ l ∈ m, l.good w
  post : ∃ L : List CL, L.map CL.er = m.map CL.er ∧ Lives w wr g L (blkOf v)
theorem Both.len {w wr : World} {g : Nat} {v : Value} {m : List CL} (h : Both w wr g v m) : m.length ≤ 64 := by
  obtain ⟨L, h1, h2⟩ := h.post
  have := h2.few
  have e := congrArg List.length h1
  simp at e; omega
def Inv (w : World) (g : Nat) (a v : Value) (wr : World) : Prop := ∃ (j : Nat) (m : List CL) (A : Option Addr) (c : Nat), j ≤ 150 ∧ a = .int .i64 (j : Int) ∧ v = .slice A m.length c ∧ Both w wr g v m
def Mid (w : World) (g : Nat) (v e want : Value) (wr : World) : Prop := ∃ (m : List CL) (A : Option Addr) (c : Nat) (k : Int), e = .int .i64 k ∧ want = .int .i64 k ∧ v = .slice A m.length c ∧ Both w wr g v m

theorem Both.below {w wr w1 : World} {g : Nat} {v : Value} {m : List CL} (h : Both w wr g v m) (hb : Below wr.heap.size wr w1) : Both w w1 g v m := by
  obtain ⟨h1, h2, L, h3, h4⟩ := h
  exact ⟨own_keep h1 (Keep.of_below (S := fun _ => False) hb) (fun _ _ h => h), h2, L, h3, h4.below hb⟩
/-- The post has answered: the list is as it was. -/
theorem Both.keep {w wr w1 : World} {g : Nat} {v : Value} {m : List CL} (h : Both w wr g v m) (hk : Keep (fun k => ¬ blkOf v k) wr w1) : w1.ownsRow 0 28 3 v m.length (m.flatMap CL.cells) :=
  own_keep h.own hk (fun k hk h => h hk)
/-- The list is another one now. -/
theorem both_new {w w1 w2 : World} {g : Nat} {v v' : Value} {m : List CL} {L : List CL} (hp : Lives w w1 g L (blkOf v)) (hk : Keep (blkOf v) w1 w2) (ho : w2.ownsRow 0 28 3 v' m.length (m.flatMap CL.cells))
    (hv : ∀ k, v'.ownBlock = some k → v.ownBlock = some k ∨ w1.heap.size ≤ k) (hg : ∀ l ∈ m, l.good w) (hL : L.map CL.er = m.map CL.er) : Both w w2 g v' m :=
  ⟨ho, hg, L, hL, hp.step hk (fun k hk' => by
    rcases hv k hk' with h | h
    · exact .inl h
    · exact .inr ⟨h, own_lt ho hk'⟩)⟩

def span (v : Value) (a b : Nat) (k : Nat) : Prop := blkOf v k ∨ (a ≤ k ∧ k < b)
theorem lives_span {w wr w1 : World} {g : Nat} {v : Value} {L : List CL} (h : Lives w wr g L (blkOf v)) (hb : Below wr.heap.size wr w1) : Lives w w1 g L (span v wr.heap.size w1.heap.size) :=
  h.step (Keep.of_below hb) (fun k hk => hk)
theorem lives_one {w wr : World} {g a b : Nat} {v : Value} {L : List CL} (hp : Lives w wr g L (span v a b)) : Lives w wr g L (blkOf v) :=
  hp.step (Keep.refl _ _) (fun k hk => .inl (.inl hk))
abbrev xs5 (wh sn : Int) (l : CL) : Array Value := #[.int .i64 wh, .int .i64 sn, .int .i64 l.frm, .int .i64 l.dst, .slice l.A l.data.length l.cap]
theorem room2 {n n1 : Nat} {v v2 : Value} (h : n ≤ n1) (h3 : v2.ownBlock = v.ownBlock ∨ v2.ownBlock = some n1) : ∀ k, v2.ownBlock = some k → v.ownBlock = some k ∨ n ≤ k := by
  intro k hk
  rcases h3 with e | e <;> rw [e] at hk
  · exact .inl hk
  · right; injection hk with hk; omega

theorem blk_new2 (w : World) (a b : Obj) : ((w.alloc a).alloc b).heap[w.heap.size + 1]? = some b := by
  have := blk_new (w.alloc a) b
  simpa using this
theorem slice_block {h o n c i : Nat} (hi : (Value.slice (some ⟨h, o, none⟩) n c).ownBlock = some i) : h = i := by simpa [Value.ownBlock] using hi
theorem keep_new {w w5 : World} {o : Obj} (h : Keep (fun k => (Value.slice (some ⟨w.heap.size, 0, none⟩) 0 0).ownBlock = some k) (w.alloc o).drew w5) : Keep (fun _ => False) w w5 :=
  ((Keep.refl (fun _ => False) w).alloc o).drew.trans h (fun i hi e => by have := slice_block e; omega)
/-- The list without its k-th letter, made anew. -/
theorem both_erase {w wc w5 w6 : World} {g k : Nat} {v v5 v6 : Value} {m L : List CL} {o : Obj} {n6 : Nat} (hn6 : n6 = m.length - 1) (hp : Lives w wc g (L.eraseIdx k) (blkOf v)) (hL : L.map CL.er = m.map CL.er) (hk : k < m.length) (hg : ∀ l ∈ m, l.good w)
    (k5 : Keep (fun _ => False) wc w5) (a5 : v5.ownBlock = (Value.slice (some ⟨wc.heap.size, 0, none⟩) 0 0).ownBlock ∨ v5.ownBlock = some (wc.alloc o).drew.heap.size)
    (o6 : w6.ownsRow 0 28 3 v6 n6 ([] ++ (m.flatMap CL.cells).take (k * 3) ++ (m.flatMap CL.cells).drop ((k + 1) * 3))) (k6 : Keep (fun i => v5.ownBlock = some i) w5 w6) (a6 : v6.ownBlock = v5.ownBlock ∨ v6.ownBlock = some w5.heap.size) : Both w w6 g v6 (m.eraseIdx k) := by
  have hl : (m.eraseIdx k).length = n6 := by rw [List.length_eraseIdx_of_lt hk]; omega
  have h5 : ∀ i, v5.ownBlock = some i → wc.heap.size ≤ i := fun i hi => by
    rcases a5 with e | e <;> rw [e] at hi
    · have := slice_block hi; omega
    · simp at hi; have : (wc.alloc o).drew.heap.size = wc.heap.size + 1 := by simp
      omega
  have h6 : ∀ i, v6.ownBlock = some i → wc.heap.size ≤ i := fun i hi => by
    have := k5.size
    rcases a6 with e | e <;> rw [e] at hi
    · exact h5 i hi
    · injection hi with hi; omega
  have o6' : w6.ownsRow 0 28 3 v6 (m.eraseIdx k).length ((m.eraseIdx k).flatMap CL.cells) := by
    rw [hl, ← flat_erase]; simpa using o6
  refine ⟨o6', fun l hl => hg l (List.mem_of_mem_eraseIdx hl), L.eraseIdx k, ?_, hp.step (w1 := w6) ?_ (fun i hi => .inr ⟨h6 i hi, own_lt o6' hi⟩)⟩
  · have e : ∀ l : List CL, (l.eraseIdx k).map CL.er = (l.map CL.er).eraseIdx k := fun l => by simp [List.eraseIdx_eq_take_drop_succ]
    rw [e, e, hL]
  · exact (k5.trans k6 (fun i hi e => by have := h5 i e; omega)).mono (fun _ _ h => h.elim)
theorem nilSl (w : World) : Sl w 1 (.slice none 0 0) 0 (bv []) := ⟨_, _, rfl, .inl rfl, fun _ => ⟨rfl, rfl⟩, Nat.le_refl _, rfl⟩
theorem same_of_er {a b : CL} (h : a.er = b.er) : SameB a.frm a.dst a.data b.frm b.dst b.data = true := by
  simp only [CL.er, Prod.mk.injEq] at h
  simp [SameB, h.1, h.2.1, h.2.2]

set_option maxHeartbeats 2000000 in
set_option maxRecDepth 100000 in
theorem walk (A : Option Addr) (n c : Nat) (ss : List St) (w : World) (hs : Sl w 5 (.slice A n c) n (ss.flatMap St.cells)) (hn : n = ss.length) (hg : ∀ s ∈ ss, s.l.good w) :
    Calls Try.prog 3 #[.slice A n c] w fun e w' => e = .returned (.bool true) ∧ Below w.heap.size w w' := by
  have Hs := Lib.hid hs
  have Hn := Lib.hid hn
  have Hg := Lib.hid hg
  clear hs hn hg
  go_enter Try.func3, Try.ntmps3
  go_wp2_with fail
  refine (new_lives _).mono ?_
  rintro e w1 ⟨g, rfl, h1⟩
  have P1 : Hid (Both w (w1.alloc (.cells #[] 28)) g (.slice (some ⟨w1.heap.size, 0, none⟩) 0 0) []) := Lib.hid ⟨own_new _ #[] _ 3 0 rfl (by decide), by simp, [], rfl, h1.step (Keep.of_below ((Below.refl _ _).alloc (Nat.le_refl _) _)) (fun k hk => by unfold blkOf at hk; simp [Value.ownBlock] at hk; simp; omega)⟩
  clear h1
  go_wp2
  go_loopw [4, 5] (fun v a wr => Inv w g a v wr) (fun _ a _ => 150 - (intOf a).toNat)
  case atStart => exact ⟨0, [], _, _, by omega, rfl, rfl, P1.out⟩
  case round =>
    obtain ⟨j, m, A1, c1, hj, rfl, rfl, hb⟩ := hrel
    have HB := Lib.hid hb
    have hml := hb.len
    have hnn : ss.length = n := Hn.out.symm
    clear hb P1
    by_cases h12 : j < n ∧ j < 150
    · obtain ⟨h1, h2⟩ := h12
      obtain ⟨s, hl⟩ : ∃ s, ss[j]? = some s := ⟨ss[j]'(by omega), List.getElem?_eq_getElem (by omega)⟩
      obtain ⟨b, o, hA, hbw, r0, r1, r2, r3, r4⟩ := steps_at Hs.out hl
      subst hA
      obtain ⟨L, hL, hp⟩ := HB.out.post
      have hW := hp.under
      have q0 := (hW.cell (p := ⟨b, o + j * 5, none⟩) hbw).trans r0
      have q1 := (hW.cell (p := ⟨b, o + j * 5 + 1, none⟩) hbw).trans r1
      have q2 := (hW.cell (p := ⟨b, o + j * 5 + 2, none⟩) hbw).trans r2
      have q3 := (hW.cell (p := ⟨b, o + j * 5 + 3, none⟩) hbw).trans r3
      have q4 := (hW.cell (p := ⟨b, o + j * 5 + 4, none⟩) hbw).trans r4
      have HSg := Lib.hid (Hg.out _ (List.mem_of_getElem? hl))
      have HL := Lib.hid hL
      have HP := Lib.hid hp
      have b1 : (0 : Int) ≤ (j : Int) := by omega
      have b2 : (j : Int) < (n : Int) := by omega
      have b3 : (j : Int) < 150 := by omega
      have Hnn := Lib.hid hnn
      clear r0 r1 r2 r3 r4 hW hl hnn hL hp
      obtain ⟨wh, sn, l⟩ := s
      dsimp only at q0 q1 q2 q3 q4 HSg
      go_upto_region 7 with fail
      go_cut [7] (fun v wx => v = .bool (decide (0 ≤ sn ∧ sn < (m.length : Int))) ∧ wx = wr.alloc (.cells #[.int .i64 wh, .int .i64 sn, .int .i64 l.frm, .int .i64 l.dst, .slice l.A l.data.length l.cap] 30))
      case first =>
        by_cases t1 : 0 ≤ sn
        · by_cases t2 : sn < (m.length : Int)
          all_goals
            go_wp2
            go_meet
            case rel => exact ⟨by first | (simp [t1, t2]; done) | (simp; omega), rfl⟩
        · go_wp2
          go_meet
          case rel => exact ⟨by first | (simp [t1]; done) | (simp; omega), rfl⟩
      case rest =>
        obtain ⟨rfl, rfl⟩ := hcut
        obtain ⟨B, hB⟩ : ∃ B, B = decide (0 ≤ sn ∧ sn < (m.length : Int)) := ⟨_, rfl⟩
        rw [← hB]
        have HBB := Lib.hid hB
        clear hB
        go_upto_block 2 with fail
        go_cut [4, 8, 9] (fun v want e wx => Mid w g v e want wx)
        case first =>
          have hLm : L.length = m.length := by have := congrArg List.length HL.out; simpa using this
          have HLm := Lib.hid hLm
          clear hLm
          have P2 := Lib.hid (lives_span HP.out ((Below.refl _ _).alloc (Nat.le_refl _) (.cells (xs5 wh sn l) 30)))
          have O2 := Lib.hid (own_keep HB.out.own (Keep.of_below (S := fun _ => False) ((Below.refl _ _).alloc (Nat.le_refl _) (.cells (xs5 wh sn l) 30))) (fun _ _ h => h))
          have BX := Lib.hid (blk_new wr (.cells (xs5 wh sn l) 30))
          have HW2 := Lib.hid (HP.out.below ((Below.refl _ _).alloc (Nat.le_refl _) (.cells (xs5 wh sn l) 30))).under
          by_cases k0 : wh = 0
          · have e0 : (wh == 0) = true := beq_iff_eq.2 k0
            clear k0
            by_cases hf : m.length < 64
            · have hf' : (m.length : Int) < 64 := by omega
              go_wp2_with fail
              refine (send_lives w _ _ _ _ P2.out _ _ _ _ _ l.data (by rw [HLm.out]; exact hf) (HSg.out.1.below HW2.out) HSg.out.2).mono ?_
              rintro e w3 ⟨rfl, k3, A3, c3, h3⟩
              have bx := k3.blk BX.out (fun h => h (.inr ⟨Nat.le_refl _, by simp⟩))
              have cx := blk_cells bx
              have lx := blk_lt bx
              have O3 := Lib.hid (own_keep O2.out k3 (fun k hk h => h (.inl hk)))
              have P3 := Lib.hid (lives_one h3)
              clear k3 h3 bx
              go_wp2_with (at_builtin; refine wpList_app rfl eltLetter rfl rfl rfl (n := m.length) (own_keep O3.out ((Keep.refl (fun _ => False) _).alloc _) (fun _ _ h => h)) (Sl.of_own (own_new w3 #[.int .i64 l.frm, .int .i64 l.dst, .slice l.A l.data.length l.cap] 28 3 1 rfl (by decide))) (by simp [Value.oneCell']) (by omega) (by simp only [maxLen]; omega) ?_)
              intro v4 w4 o4 k4 a4 _
              obtain ⟨A4, c4, rfl, _⟩ := Rd.of_own o4
              have em : (m ++ [l]).length = m.length + 1 := by simp
              have N4 : Hid (Both w w4 g (.slice A4 (m ++ [l]).length c4) (m ++ [l])) := Lib.hid (both_new P3.out (((Keep.refl _ _).alloc _).trans k4 (fun _ _ h => h)) (by rw [em]; simpa [CL.cells, CL.sl] using o4) (by rw [em]; exact room2 (by simp) a4) (by
                intro l' hl
                rcases List.mem_append.1 hl with h | h
                · exact HB.out.good l' h
                · obtain rfl : l' = l := by simpa using h
                  exact HSg.out) (by simp [CL.er, HL.out]))
              clear o4 k4 a4
              go_wp2
              go_meet
              case rel => exact ⟨m ++ [l], A4, c4, 0, rfl, rfl, by rw [em], by have := N4.out; rw [em] at this; exact this⟩
            · have hf' : ¬ (m.length : Int) < 64 := by omega
              go_wp2_with fail
              refine (send_full_lives w _ _ _ _ P2.out _ _ _ _ _ (by rw [HLm.out]; omega)).mono ?_
              rintro e w3 ⟨rfl, b3, _⟩
              have N3 := Lib.hid (HB.out.below (((Below.refl _ _).alloc (Nat.le_refl _) _).trans (b3.mono (by simp))))
              clear b3
              go_wp2
              go_meet
              case rel => exact ⟨m, A1, c1, 9, rfl, rfl, rfl, N3.out⟩
          · have e0 : (wh == 0) = false := beq_eq_false_iff_ne.2 k0
            clear k0
            by_cases k1 : wh = 1
            · have e1 : (wh == 1) = true := beq_iff_eq.2 k1
              clear k1
              by_cases ht : 0 ≤ sn ∧ sn < (m.length : Int)
              · obtain ⟨t1, t2⟩ := ht
                obtain rfl : B = true := by rw [HBB.out]; simp; omega
                obtain ⟨k, rfl⟩ := Int.eq_ofNat_of_zero_le t1
                have hkm : k < m.length := by omega
                have b4 : (k : Int) < 64 := by omega
                have b5 : (k : Int) ≤ (m.length : Int) := by omega
                have b6 : (k : Int) + 1 ≤ (m.length : Int) := by omega
                go_wp2_with fail
                refine (take_lives' w _ _ _ _ (lives_span HP.out (((Below.refl _ _).alloc (Nat.le_refl _) (.cells (xs5 wh k l) 30)).alloc (by simp) (.cells #[.int .i64 0, .int .i64 0, .slice none 0 0] 28))) k (by rw [HLm.out]; exact hkm)).mono ?_
                rintro e w3 ⟨rfl, k3, h3, h3'⟩
                have bz := k3.blk (blk_new2 wr (.cells (xs5 wh k l) 30) (.cells #[.int .i64 0, .int .i64 0, .slice none 0 0] 28)) (fun h => h (.inr ⟨Nat.le_succ _, by simp⟩))
                have bx := k3.blk (blk_old BX.out _) (fun h => h (.inr ⟨Nat.le_refl _, by simp; omega⟩))
                have cz := blk_cells bz
                have fz := blk_frees bz
                have cx := blk_cells bx
                have lz := blk_lt bz
                have lx := blk_lt bx
                have ho := own_keep (own_keep O2.out ((Keep.refl (fun _ => False) _).alloc _) (fun _ _ h => h)) k3 (fun k hk h => h (.inl hk))
                have hP3 := lives_one h3
                obtain ⟨lk, hlk⟩ : ∃ lk, L[k]? = some lk := ⟨L[k]'(by rw [HLm.out]; exact hkm), List.getElem?_eq_getElem _⟩
                obtain ⟨mk, hmk⟩ : ∃ mk, m[k]? = some mk := ⟨m[k], List.getElem?_eq_getElem hkm⟩
                have her : lk.er = mk.er := by
                  have := congrArg (fun x : List (Int × Int × List UInt8) => x[k]?) HL.out
                  simpa [hlk, hmk] using this
                have E := same_of_er her
                have egl : L[k]'(by rw [HLm.out]; exact hkm) = lk := (List.getElem?_eq_some_iff.1 hlk).2
                rw [egl] at h3' ⊢
                obtain ⟨h, cap, cur, ev, hbk, hcap1, hcap2, hcs, hct⟩ := own_form ho (by omega)
                injection ev with ev1 _ ev2
                subst ev1 ev2
                have hfl := flat_get m k hkm
                rw [(List.getElem?_eq_some_iff.1 hmk).2] at hfl
                have hrow := ho.cells (g := h) rfl
                have y0 := hrow _ _ hfl.1
                have y1 := hrow _ _ hfl.2.1
                have y2 := hrow _ _ hfl.2.2
                simp only [Addr.add_lit, Nat.zero_add, CL.sl] at y0 y1 y2
                have lh := blk_lt hbk
                have n1 : ¬ h = wr.heap.size + 1 := by have := own_lt HB.out.own (k := h) rfl; omega
                have n2 : ¬ h = wr.heap.size := by have := own_lt HB.out.own (k := h) rfl; omega
                have hd : ∀ i, lk.sl.ownBlock = some i → ¬ i = wr.heap.size + 1 := fun i hi e => h3'.2.2 i hi (.inr ⟨by omega, by rw [e]; simp⟩)
                have HLK := Lib.hid (CL.own.keep (S := fun i => ¬ i = wr.heap.size + 1) (l := lk) ⟨h3'.1, h3'.2.1, hd⟩ (keep3 w3 (wr.heap.size + 1) (.int .i64 lk.frm) (.int .i64 lk.dst) (.slice lk.A lk.data.length lk.cap)) (fun _ h e => h e)).good
                have HMK := Lib.hid ((HB.out.good mk (List.mem_of_getElem? hmk)).1.below (hP3.under.setCell (p := ⟨wr.heap.size + 1, 0, none⟩) (by have := HP.out.under.size; simp; omega) (.int .i64 lk.frm) |>.setCell (p := ⟨wr.heap.size + 1, 1, none⟩) (by have := HP.out.under.size; simp; omega) (.int .i64 lk.dst) |>.setCell (p := ⟨wr.heap.size + 1, 2, none⟩) (by have := HP.out.under.size; simp; omega) (.slice lk.A lk.data.length lk.cap)))
                have HP3 := Lib.hid h3
                have HO := Lib.hid ho
                have HE := Lib.hid her
                have HC1 := Lib.hid hcap1
                have HC2 := Lib.hid hcap2
                have HC3 := Lib.hid hcs
                have HC4 := Lib.hid hct
                have HBK := Lib.hid hbk
                clear k3 h3 h3' hd ho hP3 her egl hlk hmk hcap1 hcap2 hcs hct hbk bz hfl hrow
                have HBX := Lib.hid bx
                clear bx
                go_upto_region 23 with fail
                go_cut [77] (fun v wx => v = .bool false ∧ Keep (fun i => i = wr.heap.size + 1) w3 wx)
                case first =>
                  go_region_law (first | (go_simp; go_at_call 10; refine (same_any _ _ _ _ _ lk.data _ _ _ _ _ mk.data _ (HLK.out.1.below (Below.refl _ _).drew) (HMK.out.below (Below.refl _ _).drew)).mono ?_; rintro e w4 ⟨rfl, h4⟩; have H4 := Lib.hid h4; clear h4))
                  all_goals
                    go_wp2
                    go_meet
                    case rel => exact ⟨rfl, (keep3 w3 (wr.heap.size + 1) (.int .i64 lk.frm) (.int .i64 lk.dst) (.slice lk.A lk.data.length lk.cap)).drew.trans (Keep.of_below (S := fun _ => False) H4.out) (fun _ _ h => h.elim)⟩
                case rest =>
                  obtain ⟨rfl, hk4⟩ := hcut
                  have bx4 := hk4.blk HBX.out (by omega)
                  have cx4 := blk_cells bx4
                  have lx4 := blk_lt bx4
                  have O4 := Lib.hid (own_keep HO.out hk4 (fun i hi e => n1 ((slice_block hi).trans e)))
                  have P4 := Lib.hid (HP3.out.step (X' := blkOf (.slice (some ⟨h, 0, none⟩) m.length c1)) (hk4.mono (fun i _ e => .inr ⟨by omega, by rw [e]; simp⟩)) (fun _ h => .inl (.inl h)))
                  have HK4 := Lib.hid hk4
                  have HBX4 := Lib.hid bx4
                  clear cx cz fz lx lz y0 y1 y2 bx4 hk4
                  have hm1 := HC1.out
                  have hkc : k + 1 ≤ c1 := by have := HC1.out; omega
                  have hkc' : (k : Int) ≤ (c1 : Int) := by omega
                  have hkc2 : k ≤ c1 := by omega
                  have hwr : IntKind.i64.wrap ((k : Int) + 1) = (k : Int) + 1 := IntWalk.i64_in _ (by omega)
                  have htn : ((k : Int) + 1).toNat = k + 1 := by omega
                  have b9 : (0 : Int) ≤ (k : Int) + 1 := by omega
                  by_cases hce : c1 = k + 1
                  · subst hce
                    have b8 : (k : Int) ≤ (k : Int) + 1 := by omega
                    go_wp2
                    go_region_held3 (fun w' => w'.cell? ⟨wr.heap.size, 1, none⟩ = some (.int .i64 (k : Int))) (first | exact (cx4 1).trans rfl | exact ((Keep.refl (fun _ => False) wc).alloc (.cells #[] 28)).drew.cell ((cx4 1).trans rfl) id | exact (cx5 1).trans rfl | exact (cx6 1).trans rfl) (first | (refine step_app (by rfl) eltLetter (by rfl) (by rfl) (by rfl) (n := 0) (xs := []) (own_new wc #[] _ 3 0 rfl (by decide)).drew ((Sl.upto O4.out k (by omega)).below ((Below.refl _ _).alloc (Nat.le_refl _) _).drew) (fun u hu => flat_one m u (List.mem_of_mem_take hu)) (by omega) (by simp only [maxLen]; omega) ?_; intro v5 w5 o5 k5 a5 _; have K5 := Lib.hid (keep_new k5); have cx5 := blk_cells (K5.out.blk HBX4.out id); have lx5 := blk_lt (K5.out.blk HBX4.out id); have O5 := Lib.hid o5; have A5 := Lib.hid a5; have N56 : Hid (¬ ((Value.slice (some ⟨wc.heap.size, 0, none⟩) 0 0).ownBlock = some wr.heap.size ∨ wc.heap.size ≤ wr.heap.size)) := Lib.hid (by rintro (h | h) <;> first | (have := slice_block h; omega) | omega); have O45 := Lib.hid (own_keep O4.out K5.out (fun _ _ h => h)); clear o5 k5 a5) | (refine step_app (by rfl) eltLetter (by rfl) (by rfl) (by rfl) O5.out (Sl.from_ O45.out (k + 1) (by omega) (by rfl) (by omega) (by omega) (by omega)) (fun u hu => flat_one m u (List.mem_of_mem_drop hu)) (by omega) (by simp only [maxLen]; omega) ?_; intro v6 w6 o6 k6 a6 _; have O6 := Lib.hid o6; have K6 := Lib.hid k6; have A6 := Lib.hid a6; have cx6 := blk_cells (K6.out.blk (K5.out.blk HBX4.out id) (fun e => N56.out (room2 (n := wc.heap.size) (by simp) A5.out _ e))); clear o6 k6 a6))
                    have N6 : Hid (Both w w6 g v6 (m.eraseIdx k)) := Lib.hid (both_erase (by omega) P4.out HL.out hkm HB.out.good K5.out A5.out O6.out K6.out A6.out)
                    obtain ⟨A7, c7, rfl, _⟩ := Rd.of_own O6.out
                    clear cx4 cx5 cx6
                    go_wp2
                    go_meet
                    case rel => exact ⟨m.eraseIdx k, A7, c7, 0, rfl, rfl, by congr 1; rw [List.length_eraseIdx_of_lt hkm]; omega, by simpa using N6.out⟩
                  · go_wp2
                    go_region_held3 (fun w' => w'.cell? ⟨wr.heap.size, 1, none⟩ = some (.int .i64 (k : Int))) (first | exact (cx4 1).trans rfl | exact ((Keep.refl (fun _ => False) wc).alloc (.cells #[] 28)).drew.cell ((cx4 1).trans rfl) id | exact (cx5 1).trans rfl | exact (cx6 1).trans rfl) (first | (refine step_app (by rfl) eltLetter (by rfl) (by rfl) (by rfl) (n := 0) (xs := []) (own_new wc #[] _ 3 0 rfl (by decide)).drew ((Sl.upto O4.out k (by omega)).below ((Below.refl _ _).alloc (Nat.le_refl _) _).drew) (fun u hu => flat_one m u (List.mem_of_mem_take hu)) (by omega) (by simp only [maxLen]; omega) ?_; intro v5 w5 o5 k5 a5 _; have K5 := Lib.hid (keep_new k5); have cx5 := blk_cells (K5.out.blk HBX4.out id); have lx5 := blk_lt (K5.out.blk HBX4.out id); have O5 := Lib.hid o5; have A5 := Lib.hid a5; have N56 : Hid (¬ ((Value.slice (some ⟨wc.heap.size, 0, none⟩) 0 0).ownBlock = some wr.heap.size ∨ wc.heap.size ≤ wr.heap.size)) := Lib.hid (by rintro (h | h) <;> first | (have := slice_block h; omega) | omega); have O45 := Lib.hid (own_keep O4.out K5.out (fun _ _ h => h)); clear o5 k5 a5) | (refine step_app (by rfl) eltLetter (by rfl) (by rfl) (by rfl) O5.out (Sl.from_ O45.out (k + 1) (by omega) (by rfl) (by omega) (by omega) (by omega)) (fun u hu => flat_one m u (List.mem_of_mem_drop hu)) (by omega) (by simp only [maxLen]; omega) ?_; intro v6 w6 o6 k6 a6 _; have O6 := Lib.hid o6; have K6 := Lib.hid k6; have A6 := Lib.hid a6; have cx6 := blk_cells (K6.out.blk (K5.out.blk HBX4.out id) (fun e => N56.out (room2 (n := wc.heap.size) (by simp) A5.out _ e))); clear o6 k6 a6))
                    have N6 : Hid (Both w w6 g v6 (m.eraseIdx k)) := Lib.hid (both_erase (by omega) P4.out HL.out hkm HB.out.good K5.out A5.out O6.out K6.out A6.out)
                    obtain ⟨A7, c7, rfl, _⟩ := Rd.of_own O6.out
                    clear cx4 cx5 cx6
                    go_wp2
                    go_meet
                    case rel => exact ⟨m.eraseIdx k, A7, c7, 0, rfl, rfl, by congr 1; rw [List.length_eraseIdx_of_lt hkm]; omega, N6.out⟩
              · obtain rfl : B = false := by rw [HBB.out]; simp; omega
                go_wp2_with fail
                refine (take_bad_lives w _ _ _ _ (P2.out.below ((Below.refl _ _).alloc (Nat.le_refl _) _)) _ (by rw [HLm.out]; omega)).mono ?_
                rintro e w3 ⟨rfl, b3, _⟩
                unfold noLetter
                have bz : w3.heap[wr.heap.size + 1]? = some (.cells #[.int .i64 0, .int .i64 0, .slice none 0 0] 28) := (b3.block _ (by simp)).trans (by simpa using blk_new (wr.alloc (.cells (xs5 wh sn l) 30)) _)
                have cz := blk_cells bz
                have fz := blk_frees bz
                have bb : Below wr.heap.size wr w3 := (((Below.refl _ _).alloc (Nat.le_refl _) _).alloc (by simp) _).trans (b3.mono (by simp; omega))
                have BB := Lib.hid bb
                clear b3 bz bb
                go_wp2_with fail
                refine (same_any _ _ _ _ _ [] _ _ _ _ _ [] _ (nilSl _) (nilSl _)).mono ?_
                rintro e w4 ⟨rfl, b4⟩
                have es : SameB 0 0 [] 0 0 [] = true := rfl
                have N4 := Lib.hid (HB.out.below ((((BB.out.setCell (by simp) _).setCell (by simp) _).setCell (by simp) _).trans (b4.mono (by have := BB.out.size; simpa [World.setCell] using this))))
                clear b4 cz fz BB
                go_wp2
                go_meet
                case rel => exact ⟨m, A1, c1, 7, rfl, rfl, rfl, N4.out⟩
            · have e1 : (wh == 1) = false := beq_eq_false_iff_ne.2 k1
              clear k1
              by_cases k2 : wh = 2
              · have e2 : (wh == 2) = true := beq_iff_eq.2 k2
                clear k2
                by_cases ht : 0 ≤ sn ∧ sn < (m.length : Int)
                · obtain ⟨t1, t2⟩ := ht
                  obtain rfl : B = true := by rw [HBB.out]; simp; omega
                  obtain ⟨k, rfl⟩ := Int.eq_ofNat_of_zero_le t1
                  have hkm : k < m.length := by omega
                  by_cases hf : m.length < 64
                  · have hf' : (m.length : Int) < 64 := by omega
                    go_wp2_with fail
                    refine (twin_lives w _ _ _ _ P2.out k (by rw [HLm.out]; exact hkm) (by rw [HLm.out]; exact hf)).mono ?_
                    rintro e w3 ⟨rfl, k3, A3, c3, h3⟩
                    have bx := k3.blk BX.out (fun h => h (.inr ⟨Nat.le_refl _, by simp⟩))
                    have cx := blk_cells bx
                    have lx := blk_lt bx
                    have ho := own_keep O2.out k3 (fun k hk h => h (.inl hk))
                    obtain ⟨lk, hlk⟩ : ∃ lk, L[k]? = some lk := ⟨L[k]'(by rw [HLm.out]; exact hkm), List.getElem?_eq_getElem _⟩
                    obtain ⟨mk, hmk⟩ : ∃ mk, m[k]? = some mk := ⟨m[k], List.getElem?_eq_getElem hkm⟩
                    have her : lk.er = mk.er := by
                      have := congrArg (fun x : List (Int × Int × List UInt8) => x[k]?) HL.out
                      simpa [hlk, hmk] using this
                    have egl : L[k]'(by rw [HLm.out]; exact hkm) = lk := (List.getElem?_eq_some_iff.1 hlk).2
                    rw [egl] at h3
                    obtain ⟨h, cap, cur, ev, hbk, hcap1, hcap2, hcs, hct⟩ := own_form ho (by omega)
                    injection ev with ev1 _ ev2
                    subst ev1 ev2
                    have hfl := flat_get m k hkm
                    rw [(List.getElem?_eq_some_iff.1 hmk).2] at hfl
                    have hrow := ho.cells (g := h) rfl
                    have y0 := hrow _ _ hfl.1
                    have y1 := hrow _ _ hfl.2.1
                    have y2 := hrow _ _ hfl.2.2
                    simp only [Addr.add_lit, Nat.zero_add, CL.sl] at y0 y1 y2
                    have lh := blk_lt hbk
                    have O3 := Lib.hid ho
                    have P3 := Lib.hid (lives_one h3)
                    have HE := Lib.hid her
                    have HMG := Lib.hid (HB.out.good mk (List.mem_of_getElem? hmk))
                    clear k3 h3 bx ho her egl hlk hmk hcap1 hcap2 hcs hct hbk hfl hrow
                    go_wp2_with (at_builtin; refine wpList_app rfl eltLetter rfl rfl rfl (n := m.length) (own_keep O3.out ((Keep.refl (fun _ => False) _).alloc _) (fun _ _ h => h)) (Sl.of_own (own_new w3 #[.int .i64 mk.frm, .int .i64 mk.dst, .slice mk.A mk.data.length mk.cap] 28 3 1 rfl (by decide))) (by simp [Value.oneCell']) (by omega) (by simp only [maxLen]; omega) ?_)
                    intro v4 w4 o4 k4 a4 _
                    obtain ⟨A4, c4, rfl, _⟩ := Rd.of_own o4
                    have em : (m ++ [mk]).length = m.length + 1 := by simp
                    have N4 : Hid (Both w w4 g (.slice A4 (m ++ [mk]).length c4) (m ++ [mk])) := Lib.hid (both_new P3.out (((Keep.refl _ _).alloc _).trans k4 (fun _ _ h => h)) (by rw [em]; simpa [CL.cells, CL.sl] using o4) (by rw [em]; exact room2 (by simp) a4) (by
                      intro l' hl
                      rcases List.mem_append.1 hl with h | h
                      · exact HB.out.good l' h
                      · obtain rfl : l' = mk := by simpa using h
                        exact HMG.out) (by
                      have := HE.out
                      rw [List.map_append, List.map_append, HL.out]
                      simpa [CL.er] using this))
                    clear o4 k4 a4 cx y0 y1 y2
                    go_wp2
                    go_meet
                    case rel => exact ⟨m ++ [mk], A4, c4, 0, rfl, rfl, by rw [em], by have := N4.out; rw [em] at this; exact this⟩
                  · have hf' : ¬ (m.length : Int) < 64 := by omega
                    go_wp2_with fail
                    refine (twin_full_lives w _ _ _ _ P2.out k (by rw [HLm.out]; exact hkm) (by rw [HLm.out]; omega)).mono ?_
                    rintro e w3 ⟨rfl, b3, _⟩
                    have N3 := Lib.hid (HB.out.below (((Below.refl _ _).alloc (Nat.le_refl _) _).trans (b3.mono (by simp))))
                    clear b3
                    go_wp2
                    go_meet
                    case rel => exact ⟨m, A1, c1, 9, rfl, rfl, rfl, N3.out⟩
                · obtain rfl : B = false := by rw [HBB.out]; simp; omega
                  go_wp2_with fail
                  refine (twin_bad_lives w _ _ _ _ P2.out _ (by rw [HLm.out]; omega)).mono ?_
                  rintro e w3 ⟨rfl, b3, _⟩
                  have N3 := Lib.hid (HB.out.below (((Below.refl _ _).alloc (Nat.le_refl _) _).trans (b3.mono (by simp))))
                  clear b3
                  go_wp2
                  go_meet
                  case rel => exact ⟨m, A1, c1, 7, rfl, rfl, rfl, N3.out⟩
              · have e2 : (wh == 2) = false := beq_eq_false_iff_ne.2 k2
                clear k2
                go_wp2
                go_meet
                case rel => exact ⟨m, A1, c1, 0, rfl, rfl, rfl, HB.out.below ((Below.refl _ _).alloc (Nat.le_refl _) _)⟩
        case rest =>
          obtain ⟨m2, A2, c2, k2, rfl, rfl, rfl, hb2⟩ := hcut
          obtain ⟨L2, hL2, hp2⟩ := hb2.post
          have HB2 := Lib.hid hb2
          have hm2 := hb2.len
          have e0 : (k2 != k2) = false := by simp
          clear hb2
          go_wp2_with fail
          refine (letters_lives w _ _ _ _ hp2).mono ?_
          rintro e w5 ⟨A5, c5, L5, rfl, h5, h5'⟩
          have hl5 : L5.length = m2.length := by have := congrArg List.length (h5.2.2.2.1.trans hL2); simpa using this
          have HE := Lib.hid (h5.2.2.2.1.trans hL2)
          have HT := Lib.hid h5
          have B5 := Lib.hid (HB2.out.below h5.2.2.2.2)
          have HU := Lib.hid h5'.under
          clear h5 h5' hL2 hp2
          rw [hl5]
          have Hl5 := Lib.hid hl5
          clear hl5
          go_wp2
          go_loopw [12] (fun a wx => ∃ i : Nat, i ≤ m2.length ∧ a = .int .i64 (i : Int) ∧ Below w5.heap.size w5 wx) (fun a _ => m2.length - (intOf a).toNat)
          case atStart => exact ⟨0, Nat.zero_le _, rfl, Below.refl _ _⟩
          case round =>
            obtain ⟨i, hi, rfl, hbx⟩ := hrel
            have HBX := Lib.hid hbx
            clear hbx
            by_cases hlt : i < m2.length
            · obtain ⟨lk, hlk⟩ : ∃ lk, L5[i]? = some lk := ⟨L5[i]'(by rw [Hl5.out]; exact hlt), List.getElem?_eq_getElem _⟩
              obtain ⟨mk, hmk⟩ : ∃ mk, m2[i]? = some mk := ⟨m2[i], List.getElem?_eq_getElem hlt⟩
              have her : lk.er = mk.er := by
                have := congrArg (fun x : List (Int × Int × List UInt8) => x[i]?) HE.out
                simpa [hlk, hmk] using this
              have E := same_of_er her
              have o5 := HT.out.1
              rw [Hl5.out] at o5
              obtain ⟨b5, p5, hA5, hb5, r0, r1, r2⟩ := letters_at (ls := L5) (Sl.of_own o5) hlk
              obtain ⟨b2, p2, hA2, hb2, s0, s1, s2⟩ := letters_at (ls := m2) (Sl.of_own B5.out.own) hmk
              subst hA5 hA2
              have q0 := (HBX.out.cell (p := ⟨b5, p5 + i * 3, none⟩) hb5).trans r0
              have q1 := (HBX.out.cell (p := ⟨b5, p5 + i * 3 + 1, none⟩) hb5).trans r1
              have q2 := (HBX.out.cell (p := ⟨b5, p5 + i * 3 + 2, none⟩) hb5).trans r2
              have t0 := (HBX.out.cell (p := ⟨b2, p2 + i * 3, none⟩) hb2).trans s0
              have t1 := (HBX.out.cell (p := ⟨b2, p2 + i * 3 + 1, none⟩) hb2).trans s1
              have t2 := (HBX.out.cell (p := ⟨b2, p2 + i * 3 + 2, none⟩) hb2).trans s2
              have S1 := Lib.hid ((HT.out.2.2.1 lk (List.mem_of_getElem? hlk)).good.1.below HBX.out)
              have S2 := Lib.hid (((B5.out.good mk (List.mem_of_getElem? hmk)).1.below HU.out).below HBX.out)
              have b1 : (0 : Int) ≤ (i : Int) := by omega
              have b2' : (i : Int) < (m2.length : Int) := by omega
              have b3 : (i : Int) < 64 := by omega
              clear r0 r1 r2 s0 s1 s2 o5 her hlk hmk
              go_wp2
              go_region_law (first | (go_simp; go_at_call 10; refine (same_any _ _ _ _ _ lk.data _ _ _ _ _ mk.data _ (S1.out.below (Below.refl _ _).drew) (S2.out.below (Below.refl _ _).drew)).mono ?_; rintro e w6 ⟨rfl, h6⟩; have H6 := Lib.hid h6; clear h6))
              all_goals
                go_wp2
                go_roundw
                case rel => exact ⟨i + 1, by omega, by go_num, HBX.out.drew.trans (H6.out.mono HBX.out.size)⟩
                case measure => simp [intOf]; omega
            · have B6 := Lib.hid (B5.out.below HBX.out)
              have b3 : (j : Int) < 150 := by omega
              go_wp2
              go_roundw
              case rel => exact ⟨j + 1, m2, A2, c2, by omega, by go_num, rfl, B6.out⟩
              case measure => simp [intOf]; omega
    · obtain ⟨L, hL, hp⟩ := HB.out.post
      have HU := Lib.hid hp.under
      clear hL hp
      have h12' : ¬ j < n ∨ (j < n ∧ ¬ j < 150) := by omega
      clear h12
      rcases h12' with h1 | ⟨h1, h2⟩
      all_goals
        go_wp2_with fail
        refine (awake_any _).mono ?_
        rintro e w5 ⟨rfl, h5⟩
        have H5 := Lib.hid (HU.out.trans (h5.mono HU.out.size))
        clear h5
        go_wp2
        go_ret
        exact ⟨rfl, H5.out⟩
end Go.Proofs.Ythpgdoepbkgacaa.lawPostPlays
