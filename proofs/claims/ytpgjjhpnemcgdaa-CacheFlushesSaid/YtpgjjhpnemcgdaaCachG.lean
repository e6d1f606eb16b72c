/- Package cache: a piece more. -/
import Derived.Test.YtpgjjhpnemcgdaaCachF
set_option linter.unusedSimpArgs false
set_option linter.unusedVariables false
namespace Go.Proofs.Ytpgjjhpnemcgdaa
open Go.RowKit

theorem pcs_app (a b : List ((Nat × List UInt8) × Value)) : pcs (a ++ b) = pcs a ++ pcs b := by simp [pcs]
theorem blk_clash {w : World} {j k : Nat} {cs ds : Array Value} {t u : TypeId} {fr fs : Nat × Nat} (h : w.heap[k]? = some (.cells cs t fr)) (h' : w.heap[j]? = some (.cells ds u fs)) (hne : t ≠ u) : ¬ j = k := fun e => by
  subst e
  have := h.symm.trans h'
  injection this with this
  injection this with _ this _
  exact hne this
theorem CA.newdirty {X : Nat → Prop} {k H at_ : Nat} {s : CaS} {w w1 w1' w4 : World} {DA A4 : Option Addr} {dc c4 : Nat} {kv pv : Value} {YA : Option Addr} {yc : Nat} {L : List ((Nat × List UInt8) × Value)} {d : List UInt8} (h : CA X k s w DA dc kv YA yc L)
    (hpv : BN w w1 pv d) (hb2 : Below w1.heap.size w1 w1') (g1 : w4.ownsRow 0 39 2 (.slice A4 (s.dirty.length + 1) c4) (s.dirty.length + 1) (pcs L ++ [.int .i64 (at_ : Int), pv]))
    (g2 : Keep (fun j => (Value.slice YA s.dirty.length yc).ownBlock = some j) w1' w4) (g3 : (Value.slice A4 (s.dirty.length + 1) c4).ownBlock = (Value.slice YA s.dirty.length yc).ownBlock ∨ (Value.slice A4 (s.dirty.length + 1) c4).ownBlock = some H) (hH : w.heap.size ≤ H) :
    CA X k { s with dirty := s.dirty ++ [(at_, d)] } (w4.setCell ⟨k, 5, none⟩ (.slice A4 (s.dirty.length + 1) c4)) DA dc kv A4 c4 (L ++ [((at_, d), pv)]) ∧ Keep (fun j => ¬ X j) w (w4.setCell ⟨k, 5, none⟩ (.slice A4 (s.dirty.length + 1) c4)) := by
  have hb := hpv.be.trans (hb2.mono hpv.be.size)
  have h1 := h.below hb
  have hk4 : ¬ (Value.slice YA s.dirty.length yc).ownBlock = some k := fun e => own_ne_blk h1.dirty h1.blk (by decide) e rfl
  have hb4 := g2.blk h1.blk hk4
  have ks := (Keep.refl (fun j => j = k) w4).setCell (p := ⟨k, 5, none⟩) (fun _ => rfl) (.slice A4 (s.dirty.length + 1) c4)
  have hA4 : ∀ j, A4.map (·.block) = some j → YA.map (·.block) = some j ∨ j = H := fun j e => by
    rcases g3 with g | g <;> rw [ownBlock_slice] at g
    · rw [ownBlock_slice] at g
      exact .inl (g ▸ e)
    · rw [e] at g
      injection g with g
      exact .inr g
  have hy1 : ∀ j cs fr, w1'.heap[j]? = some (.cells cs 5 fr) → ¬ (Value.slice YA s.dirty.length yc).ownBlock = some j := fun j cs fr hj e => own_ne_blk h1.dirty hj (by decide) e rfl
  have hdat := own_keep (own_keep h1.data g2 (fun j e hj => own_ne h1.data h1.dirty (by decide) e hj)) ks (fun j e hj => own_ne_blk (own_keep h1.data g2 (fun j e hj => own_ne h1.data h1.dirty (by decide) e hj)) hb4 (by decide) e hj)
  have hpvb := own_keep hpv.own (Keep.of_below (S := fun _ => False) hb2) (fun _ _ h => h)
  refine ⟨⟨?_, hdat, ?_, ?_, ?_, fun p hp => ?_, fun j hj => Nat.lt_of_lt_of_le (h1.old j hj) (Nat.le_trans g2.size ks.size), h.notk, h.notd, fun j e hj => ?_⟩, ?_⟩
  · have := blk_set4 hb4 (j := 5) (.slice A4 (s.dirty.length + 1) c4) rfl
    simpa using this
  · refine (h1.known.keep g2 (fun j cs fr _ hb e => own_ne_blk h1.dirty hb (by decide) e rfl)).keep ks (fun j cs fr _ hb e => ?_)
    exact blk_clash hb4 hb (by decide) e
  · have : w4.ownsRow 0 39 2 (.slice A4 (s.dirty ++ [(at_, d)]).length c4) (s.dirty ++ [(at_, d)]).length (pcs (L ++ [((at_, d), pv)])) := by
      rw [List.length_append, pcs_app]
      exact g1
    simp only [List.length_append, List.length_singleton] at this ⊢
    exact own_keep this ks (fun j e hj => own_ne_blk this hb4 (by decide) e hj)
  · rw [List.map_append, h.names]
    rfl
  · rcases List.mem_append.1 hp with hp | hp
    · obtain ⟨A, c, e, hs, hA⟩ := h1.pieces p hp
      have n1 : ∀ j, A.map (·.block) = some j → ¬ (Value.slice YA s.dirty.length yc).ownBlock = some j := fun j hj => by
        obtain ⟨_, cs, fr, h2⟩ := hA j hj
        exact hy1 j cs fr h2
      have n2 : ∀ j, A.map (·.block) = some j → ¬ j = k := fun j hj => by
        obtain ⟨_, cs, fr, h2⟩ := hA j hj
        exact blk_clash h1.blk h2 (by decide)
      refine ⟨A, c, e, (hs.keep g2 (fun j ej _ => n1 j (by rw [ownBlock_slice] at ej; exact ej))).keep ks (fun j ej _ => n2 j (by rw [ownBlock_slice] at ej; exact ej)), fun j hj => ?_⟩
      obtain ⟨q1, cs, fr, h2⟩ := hA j hj
      exact ⟨q1, cs, fr, ks.blk (g2.blk h2 (n1 j hj)) (n2 j hj)⟩
    · rw [List.mem_singleton.1 hp]
      obtain ⟨A, c, rfl, _⟩ := Rd.of_own hpvb
      have hbk : ∀ j, A.map (·.block) = some j → ∃ cs, w1'.heap[j]? = some (.cells cs 5 (0, 0)) := fun j hj => own_blk hpvb (by rw [ownBlock_slice]; exact hj)
      have n1 : ∀ j, A.map (·.block) = some j → ¬ (Value.slice YA s.dirty.length yc).ownBlock = some j := fun j hj => by
        obtain ⟨cs, h2⟩ := hbk j hj
        exact hy1 j cs _ h2
      have n2 : ∀ j, A.map (·.block) = some j → ¬ j = k := fun j hj => by
        obtain ⟨cs, h2⟩ := hbk j hj
        exact blk_clash h1.blk h2 (by decide)
      refine ⟨A, c, rfl, ((Sl.of_own hpvb).keep g2 (fun j ej _ => n1 j (by rw [ownBlock_slice] at ej; exact ej))).keep ks (fun j ej _ => n2 j (by rw [ownBlock_slice] at ej; exact ej)), fun j hj => ?_⟩
      obtain ⟨cs, h2⟩ := hbk j hj
      refine ⟨fun e => ?_, cs, _, ks.blk (g2.blk h2 (n1 j hj)) (n2 j hj)⟩
      have hf := hpv.fresh j (by rw [ownBlock_slice]; exact hj)
      obtain ⟨cur, hc⟩ := own_blk h.data (k := j) (by rw [ownBlock_slice]; exact e)
      have := blk_lt hc
      omega
  · rcases hA4 j e with h3 | h3
    · exact h.noty j h3 hj
    · have := h.old j hj
      omega
  · exact ((Keep.of_below (S := fun j => ¬ X j) hb).trans g2 (fun j _ e hj => h.noty j (by rw [ownBlock_slice] at e; exact e) hj)).trans ks (fun j _ e hj => h.notk (by rw [← e]; exact hj))
/-- The same behind append, the piece's own row being new. -/
theorem CA.appended {X : Nat → Prop} {k at_ : Nat} {s : CaS} {w w1 : World} {DA : Option Addr} {dc : Nat} {kv pv : Value} {YA : Option Addr} {yc : Nat} {L : List ((Nat × List UInt8) × Value)} {d : List UInt8} (h : CA X k s w DA dc kv YA yc L) (hpv : BN w w1 pv d) (w4 : World) (A4 : Option Addr) (c4 : Nat)
    (g1 : w4.ownsRow 0 39 2 (.slice A4 (s.dirty.length + 1) c4) (s.dirty.length + 1) (pcs L ++ [.int .i64 (at_ : Int), pv]))
    (g2 : Keep (fun j => (Value.slice YA s.dirty.length yc).ownBlock = some j) (w1.alloc (.cells #[.int .i64 (at_ : Int), pv] 39)) w4)
    (g3 : (Value.slice A4 (s.dirty.length + 1) c4).ownBlock = (Value.slice YA s.dirty.length yc).ownBlock ∨ (Value.slice A4 (s.dirty.length + 1) c4).ownBlock = some (w1.alloc (.cells #[.int .i64 (at_ : Int), pv] 39)).heap.size) :
    w4.cell? ⟨k, 5, none⟩ = some (.slice YA s.dirty.length yc) ∧ w4.frozen? ⟨k, 5, none⟩ = false ∧ CA X k { s with dirty := s.dirty ++ [(at_, d)] } (w4.setCell ⟨k, 5, none⟩ (.slice A4 (s.dirty.length + 1) c4)) DA dc kv A4 c4 (L ++ [((at_, d), pv)]) ∧ Keep (fun j => ¬ X j) w (w4.setCell ⟨k, 5, none⟩ (.slice A4 (s.dirty.length + 1) c4)) := by
  have hb2 := (Below.refl w1.heap.size w1).alloc (Nat.le_refl _) (.cells #[.int .i64 (at_ : Int), pv] 39)
  have h1 := (h.below hpv.be).below hb2
  have hk4 : ¬ (Value.slice YA s.dirty.length yc).ownBlock = some k := fun e => own_ne_blk h1.dirty h1.blk (by decide) e rfl
  have hb4 := g2.blk h1.blk hk4
  have hN := h.newdirty hpv hb2 g1 g2 g3 (Nat.le_trans hpv.be.size hb2.size)
  exact ⟨(blk_cells hb4 5).trans rfl, blk_frees hb4 5, hN.1, hN.2⟩
theorem CA.room {X : Nat → Prop} {k at_ : Nat} {s : CaS} {w w1 : World} {DA : Option Addr} {dc : Nat} {kv pv : Value} {YA : Option Addr} {yc : Nat} {L : List ((Nat × List UInt8) × Value)} {d : List UInt8} (h : CA X k s w DA dc kv YA yc L) (hpv : BN w w1 pv d) :
    (w1.alloc (.cells #[.int .i64 (at_ : Int), pv] 39)).ownsRow 0 39 2 (.slice YA s.dirty.length yc) s.dirty.length (pcs L) ∧ Sl (w1.alloc (.cells #[.int .i64 (at_ : Int), pv] 39)) 2 (.slice (some ⟨w1.heap.size, 0, none⟩) 1 1) 1 [.int .i64 (at_ : Int), pv] :=
  ⟨own_keep (h.below hpv.be).dirty ((Keep.refl (fun _ => False) _).alloc _) (fun _ _ h => h), Sl.of_own (own_new w1 #[.int .i64 (at_ : Int), pv] 39 2 1 rfl (by decide))⟩
end Go.Proofs.Ytpgjjhpnemcgdaa
