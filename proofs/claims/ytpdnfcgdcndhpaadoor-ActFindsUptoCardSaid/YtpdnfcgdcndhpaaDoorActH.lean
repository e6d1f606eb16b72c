/- The act that a line is. -/
import Derived.Test.YtpdnfcgdcndhpaaDoorActG
set_option linter.unusedSimpArgs false
set_option linter.unusedVariables false
namespace Go.Proofs.YtpdnfcgdcndhpaaDoor
open Go.RowKit

attribute [local go_sem ↓] Go.wp_at_zero Go.wp_at_succ
theorem splitK_mem (sep : Str) : ∀ (k : Nat) (s : Str), ∀ t ∈ Lib.splitK sep 0 k s, t.length ≤ s.length
  | 0, s, t, h => by
    simp only [Lib.splitK, List.mem_singleton] at h
    rw [h]; exact Nat.le_refl _
  | k + 1, s, t, h => by
    unfold Lib.splitK at h
    split at h
    · simp only [List.mem_singleton] at h
      rw [h]; exact Nat.le_refl _
    · rcases List.mem_cons.1 h with rfl | h
      · exact List.length_take_le' _ _
      · have := splitK_mem sep k _ t h
        rw [List.length_drop] at this
        omega
theorem spW_mem {s t : Str} (h : t ∈ spW s) : t.length ≤ s.length := splitK_mem _ _ _ _ h
theorem spW_le (s : Str) : (spW s).length ≤ s.length + 1 := by
  rw [spW_len]
  have := Lib.countB_le ⟨#[32]⟩ (by decide) _ ⟨s.toArray⟩ (Nat.le_refl _)
  have e : (⟨s.toArray⟩ : ByteArray).size = s.length := rfl
  omega
def actOf (s : Str) : Option ActP := if okP (actR (spW s)).1 = true ∧ jnW (writeP (actR (spW s)).1) = s then some (actR (spW s)).1 else none
def actY (s : Str) : ActP := (actOf s).getD (ActP.new 0)
def actE (s : Str) : Int := if (actOf s).isSome then 0 else 5
theorem actOf_ok {s : Str} (h : s.length ≤ 4294967280) : ActOk (actR (spW s)).1 ∧ SmallA (actR (spW s)).1 (s.length + 1) := by
  have h1 := spW_le s
  have := actR_in (N := s.length) (spW s) (fun t ht => spW_mem ht) (by omega) (by omega)
  refine ⟨this.1, ⟨⟨?_, ?_, ?_⟩, ?_⟩⟩
  · have := this.2.call.path; omega
  · have := this.2.call.other; omega
  · have := this.2.call.data; omega
  · have := this.2.keep; omega
theorem zero_ok : ActOk (ActP.new 0) ∧ SmallA (ActP.new 0) 0 := by
  have z : I64 0 := ⟨by omega, by omega⟩
  exact ⟨⟨z, z, z, ⟨z, z, z, z, Nat.zero_le _, Nat.zero_le _, Nat.zero_le _⟩, fun k hk => by simp [ActP.new] at hk, Nat.zero_le _⟩, ⟨⟨Nat.zero_le _, Nat.zero_le _, Nat.zero_le _⟩, Nat.zero_le _⟩⟩
theorem actY_ok {s : Str} (h : s.length ≤ 4294967280) : ActOk (actY s) ∧ SmallA (actY s) (s.length + 1) := by
  have h1 := actOf_ok h
  have h2 := zero_ok
  unfold actY actOf
  split
  · exact h1
  · exact ⟨h2.1, ⟨⟨Nat.zero_le _, Nat.zero_le _, Nat.zero_le _⟩, Nat.zero_le _⟩⟩
/-- An act's value, as it can be read. -/
def DataT (w : World) (dv : Value) (d : Str) : Prop := ∃ A c, dv = .slice A d.length c ∧ Sl w 1 (.slice A d.length c) d.length (bv d) ∧ ∀ k, A.map (·.block) = some k → ∃ cs fr, w.heap[k]? = some (.cells cs 5 fr)
def KeepT (w : World) (kv : Value) (l : List Int) : Prop := ∃ A c, kv = .slice A l.length c ∧ Sl w 1 (.slice A l.length c) l.length (ints l) ∧ ∀ k, A.map (·.block) = some k → ∃ cs fr, w.heap[k]? = some (.cells cs 3 fr)
theorem DataT.keep {S : Nat → Prop} {w w' : World} {dv : Value} {d : Str} (h : DataT w dv d) (hk : Keep S w w') (hS : ∀ k cs fr, w.heap[k]? = some (.cells cs 5 fr) → ¬ S k) : DataT w' dv d := by
  obtain ⟨A, c, rfl, hs, hA⟩ := h
  refine ⟨A, c, rfl, hs.keep hk (fun k e _ => ?_), fun k e => ?_⟩
  · obtain ⟨cs, fr, h2⟩ := hA k (by rw [ownBlock_slice] at e; exact e)
    exact hS k cs fr h2
  · obtain ⟨cs, fr, h2⟩ := hA k e
    exact ⟨cs, fr, hk.blk h2 (hS k cs fr h2)⟩
theorem KeepT.keep {S : Nat → Prop} {w w' : World} {kv : Value} {l : List Int} (h : KeepT w kv l) (hk : Keep S w w') (hS : ∀ k cs fr, w.heap[k]? = some (.cells cs 3 fr) → ¬ S k) : KeepT w' kv l := by
  obtain ⟨A, c, rfl, hs, hA⟩ := h
  refine ⟨A, c, rfl, hs.keep hk (fun k e _ => ?_), fun k e => ?_⟩
  · obtain ⟨cs, fr, h2⟩ := hA k (by rw [ownBlock_slice] at e; exact e)
    exact hS k cs fr h2
  · obtain ⟨cs, fr, h2⟩ := hA k e
    exact ⟨cs, fr, hk.blk h2 (hS k cs fr h2)⟩
theorem DataT.r {w : World} {dv : Value} {d : Str} (h : DataT w dv d) : DataR w dv d := by
  obtain ⟨A, c, rfl, hs, _⟩ := h
  exact ⟨A, c, rfl, hs⟩
theorem KeepT.r {w : World} {dv : Value} {d : List Int} (h : KeepT w dv d) : KeepR w dv d := by
  obtain ⟨A, c, rfl, hs, _⟩ := h
  exact ⟨A, c, rfl, hs⟩
theorem DataIs.t {X : Nat} {w : World} {dv : Value} {d : Str} (h : DataIs X w dv d) : DataT w dv d := by
  obtain ⟨A, c, rfl, hs, hA⟩ := h
  exact ⟨A, c, rfl, hs, fun k e => (hA k e).2⟩
theorem KeepIs.t {X : Nat} {w : World} {kv : Value} {l : List Int} (h : KeepIs X w kv l) : KeepT w kv l := by
  obtain ⟨A, c, rfl, hs, hA⟩ := h
  exact ⟨A, c, rfl, Sl.of_own hs, fun k e => by obtain ⟨cur, hc⟩ := own_blk hs (k := k) (by rw [ownBlock_slice]; exact e); exact ⟨cur, _, hc⟩⟩
theorem DataT.below {w w' : World} {dv : Value} {d : Str} (h : DataT w dv d) (hk : Below w.heap.size w w') : DataT w' dv d := h.keep (Keep.of_below (S := fun _ => False) hk) (fun _ _ _ _ h => h)
theorem KeepT.below {w w' : World} {kv : Value} {d : List Int} (h : KeepT w kv d) (hk : Below w.heap.size w w') : KeepT w' kv d := h.keep (Keep.of_below (S := fun _ => False) hk) (fun _ _ _ _ h => h)
def ActIs (w : World) (v : Value) (x : ActP) : Prop := ∃ dv kv, v = .agg (x.cells dv kv) ∧ DataT w dv x.call.data ∧ KeepT w kv x.keep
theorem ActIs.below {w w' : World} {v : Value} {x : ActP} (h : ActIs w v x) (hk : Below w.heap.size w w') : ActIs w' v x := by
  obtain ⟨dv, kv, rfl, h1, h2⟩ := h
  exact ⟨dv, kv, rfl, h1.below hk, h2.below hk⟩
def ActRes (s : Str) (w : World) (e : Ending) (w' : World) : Prop := ∃ v, e = .returned (.tuple #[v, .int .i64 (actE s)]) ∧ ActIs w' v (actY s) ∧ Below w.heap.size w w'
theorem DataT.nil (w : World) : DataT w (.slice none 0 0) [] := (DataIs.nil 0 w).t
theorem KeepT.nil (w : World) : KeepT w (.slice none 0 0) [] := (KeepIs.nil 0 w).t
theorem DataR.keep {S : Nat → Prop} {w w' : World} {dv : Value} {d : Str} (h : DataR w dv d) (hk : Keep S w w') (hS : ∀ k, dv.ownBlock = some k → d ≠ [] → ¬ S k) : DataR w' dv d := by
  obtain ⟨A, c, rfl, hs⟩ := h
  exact ⟨A, c, rfl, hs.keep hk (fun k e hne => hS k e (fun e2 => hne (by rw [e2]; rfl)))⟩
theorem KeepR.keep {S : Nat → Prop} {w w' : World} {kv : Value} {l : List Int} (h : KeepR w kv l) (hk : Keep S w w') (hS : ∀ k, kv.ownBlock = some k → l ≠ [] → ¬ S k) : KeepR w' kv l := by
  obtain ⟨A, c, rfl, hs⟩ := h
  exact ⟨A, c, rfl, hs.keep hk (fun k e hne => hS k e (fun e2 => hne (by rw [e2]; rfl)))⟩
set_option maxRecDepth 100000 in
set_option maxHeartbeats 4000000 in
theorem act1_walk {B : Nat} (s : Str) (w : World) (hw : WV B w) (hs : s.length ≤ 4294967280) :
    Calls Tryd.prog 12 #[.string ⟨s.toArray⟩] w (ActRes s w) := by
  have HV := Lib.hid hw
  have hok := actOf_ok hs
  have hsl := spW_le s
  have HSH : Hid (Short (spW s)) := Lib.hid (fun t ht => by have := spW_mem ht; omega)
  have HNE := Lib.hid (show spW s ≠ [] from fun e => by have := spW_len s; rw [e] at this; simp at this)
  have HY := Lib.hid (show actOf s = if okP (actR (spW s)).1 = true ∧ jnW (writeP (actR (spW s)).1) = s then some (actR (spW s)).1 else none from rfl)
  obtain ⟨ws, hws⟩ : ∃ ws, ws = spW s := ⟨_, rfl⟩
  have HSP := Lib.hid (fun W (hv : WV B W) => split_any s W hv (by omega))
  rw [← hws] at hok HSH HNE HY HSP hsl
  clear hw hws
  go_enter Tryd.func12, Tryd.ntmps12
  go_wp2_with fail
  obtain ⟨W0, hW0⟩ : ∃ W0, W0 = w.alloc (.cells #[.int .i64 0, .int .i64 0, .int .i64 0, .int .i64 0, .string ⟨#[]⟩, .string ⟨#[]⟩, .int .i64 0, .int .i64 0, .int .i64 0, .slice none 0 0, .slice none 0 0] 27) := ⟨_, rfl⟩
  have hR0 : W0.heap[w.heap.size]? = some (.cells #[.int .i64 0, .int .i64 0, .int .i64 0, .int .i64 0, .string ⟨#[]⟩, .string ⟨#[]⟩, .int .i64 0, .int .i64 0, .int .i64 0, .slice none 0 0, .slice none 0 0] 27 (0, 0)) := by rw [hW0]; exact blk_new w _
  have hb0 : Below w.heap.size w W0 := by rw [hW0]; exact (Below.refl _ w).alloc (Nat.le_refl _) _
  rw [← hW0]
  have B0 := Lib.hid hb0
  have C0 := Lib.hid hR0
  have z0 := blk_lt hR0
  clear hW0 hb0 hR0
  refine (HSP.out W0 (HV.out.below B0.out)).mono ?_
  rintro e W1 ⟨rfl, hW1⟩
  have hb1 : Below W0.heap.size W0 W1 := by rw [hW1]; exact (Below.refl _ W0).alloc (Nat.le_refl _) _
  have hbr1 : W1.heap[W0.heap.size]? = some (.cells (strs ws).toArray 9 (0, 0)) := by rw [hW1]; exact blk_new W0 _
  have B1 := Lib.hid (B0.out.trans (hb1.mono (by omega)))
  have C1 := Lib.hid ((Keep.of_below (S := fun _ => False) hb1).blk C0.out id)
  have z1 := blk_lt hbr1
  have HR : Hid (RDs W1.heap.size ws (W1.alloc (.cells #[.slice (some ⟨W0.heap.size, 0, none⟩) ws.length ws.length] 55))) := Lib.hid ⟨W0.heap.size, 0, ws.length, blk_new W1 _, fun j t ht => by
    rw [Nat.zero_add]
    refine ((Keep.refl (fun _ => False) W1).alloc _).cell (blk_cell hbr1 ?_) id
    rw [List.getElem?_toArray]
    exact strs_get ht, fun e => by omega, ⟨_, _, blk_old hbr1 _⟩, Nat.le_refl _, by omega⟩
  clear hW1 hb1 hbr1
  go_wp2_with fail
  obtain ⟨W2, hW2⟩ : ∃ W2, W2 = W1.alloc (.cells #[.slice (some ⟨W0.heap.size, 0, none⟩) ws.length ws.length] 55) := ⟨_, rfl⟩
  rw [← hW2] at HR ⊢
  have hb2 : Below W1.heap.size W1 W2 := by rw [hW2]; exact (Below.refl _ W1).alloc (Nat.le_refl _) _
  have B2 := Lib.hid (B1.out.trans (hb2.mono (by omega)))
  have C2 := Lib.hid ((Keep.of_below (S := fun _ => False) hb2).blk C1.out id)
  have z2 : W1.heap.size < W2.heap.size := by rw [hW2]; simp
  have hB := HV.out.le
  have HA := Lib.hid (act_walk W1.heap.size ws W2 HR.out (HV.out.below B2.out) (by omega) HSH.out (by omega))
  clear hW2 hb2
  refine HA.out.mono ?_
  rintro e W3 ⟨dv, kv, rfl, hd3, hk3, _, _, hkp⟩
  obtain ⟨x, hx⟩ : ∃ x, x = (actR ws).1 := ⟨_, rfl⟩
  rw [← hx] at hd3 hk3 hok HY ⊢
  have B3 := Lib.hid (B2.out.trans (hkp.below (fun k e => by omega) (by omega)))
  have C3 := Lib.hid (hkp.blk C2.out (fun e => by omega))
  have z3 := hkp.size
  obtain ⟨DA, dc, hdv, hdS, hdA⟩ := id hd3
  obtain ⟨KA, kc, hkv, hkS, hkA⟩ := id hk3
  subst hdv hkv
  have HDD := Lib.hid hd3
  have HKD := Lib.hid hk3
  have HDS := Lib.hid hdS
  have HKS := Lib.hid (Sl.of_own hkS)
  clear hkp hx hdA hkA hdS hkS hd3 hk3
  have HLW := Lib.hid (fun W (hv : WV B W) (hb : Below W3.heap.size W3 W) => line_walk x (.slice DA x.call.data.length dc) (.slice KA x.keep.length kc) W hok.1 hv ⟨DA, dc, rfl, HDS.out.below hb⟩ ⟨KA, kc, rfl, HKS.out.below hb⟩)
  unfold ActP.cells at HLW ⊢
  go_wp2_with fail
  obtain ⟨W4, hW4⟩ : ∃ W4, W4 = W3.alloc (.cells #[.int .i64 x.kind, .int .i64 x.a, .int .i64 x.n, .int .i64 x.call.kind, .string ⟨x.call.path.toArray⟩, .string ⟨x.call.other.toArray⟩, .int .i64 x.call.file, .int .i64 x.call.at_, .int .i64 x.call.size, .slice DA x.call.data.length dc, .slice KA x.keep.length kc] 27) := ⟨_, rfl⟩
  rw [← hW4]
  have hb4 : Below W3.heap.size W3 W4 := by rw [hW4]; exact (Below.refl _ W3).alloc (Nat.le_refl _) _
  have hx4 : W4.heap[W3.heap.size]? = some (.cells #[.int .i64 x.kind, .int .i64 x.a, .int .i64 x.n, .int .i64 x.call.kind, .string ⟨x.call.path.toArray⟩, .string ⟨x.call.other.toArray⟩, .int .i64 x.call.file, .int .i64 x.call.at_, .int .i64 x.call.size, .slice DA x.call.data.length dc, .slice KA x.keep.length kc] 27 (0, 0)) := by rw [hW4]; exact blk_new W3 _
  have B4 := Lib.hid (B3.out.trans (hb4.mono (by omega)))
  have C4 := Lib.hid ((Keep.of_below (S := fun _ => False) hb4).blk C3.out id)
  have hLW := HLW.out W4 (HV.out.below B4.out) hb4
  have X4 := Lib.hid hx4
  have HB4 := Lib.hid hb4
  have z4 := blk_lt hx4
  have z4b := hb4.size
  clear hW4 hb4 hx4
  refine hLW.mono ?_
  clear hLW
  rintro e W5 ⟨rfl, hb5⟩
  have B5 := Lib.hid (B4.out.trans (hb5.mono (by omega)))
  have hC5 := (Keep.of_below (S := fun _ => False) hb5).blk C4.out id
  have C5 := Lib.hid hC5
  have hX5 := (Keep.of_below (S := fun _ => False) hb5).blk X4.out id
  have HB5 := Lib.hid (HB4.out.trans (hb5.mono (by omega)))
  have z5 := hb5.size
  have bX := blk_cells hX5
  have bR := blk_cells hC5
  have fR := blk_frees hC5
  have d0 : W5.cell? ⟨W3.heap.size, 0, none⟩ = some (.int .i64 x.kind) := (bX 0).trans rfl
  have d1 : W5.cell? ⟨W3.heap.size, 1, none⟩ = some (.int .i64 x.a) := (bX 1).trans rfl
  have d2 : W5.cell? ⟨W3.heap.size, 2, none⟩ = some (.int .i64 x.n) := (bX 2).trans rfl
  have d3 : W5.cell? ⟨W3.heap.size, 3, none⟩ = some (.int .i64 x.call.kind) := (bX 3).trans rfl
  have d4 : W5.cell? ⟨W3.heap.size, 4, none⟩ = some (.string ⟨x.call.path.toArray⟩) := (bX 4).trans rfl
  have d5 : W5.cell? ⟨W3.heap.size, 5, none⟩ = some (.string ⟨x.call.other.toArray⟩) := (bX 5).trans rfl
  have d6 : W5.cell? ⟨W3.heap.size, 6, none⟩ = some (.int .i64 x.call.file) := (bX 6).trans rfl
  have d7 : W5.cell? ⟨W3.heap.size, 7, none⟩ = some (.int .i64 x.call.at_) := (bX 7).trans rfl
  have d8 : W5.cell? ⟨W3.heap.size, 8, none⟩ = some (.int .i64 x.call.size) := (bX 8).trans rfl
  have d9 : W5.cell? ⟨W3.heap.size, 9, none⟩ = some (.slice DA x.call.data.length dc) := (bX 9).trans rfl
  have d10 : W5.cell? ⟨W3.heap.size, 10, none⟩ = some (.slice KA x.keep.length kc) := (bX 10).trans rfl
  have r0 : W5.cell? ⟨w.heap.size, 0, none⟩ = some (.int .i64 0) := (bR 0).trans rfl
  have r1 : W5.cell? ⟨w.heap.size, 1, none⟩ = some (.int .i64 0) := (bR 1).trans rfl
  have r2 : W5.cell? ⟨w.heap.size, 2, none⟩ = some (.int .i64 0) := (bR 2).trans rfl
  have r3 : W5.cell? ⟨w.heap.size, 3, none⟩ = some (.int .i64 0) := (bR 3).trans rfl
  have r4 : W5.cell? ⟨w.heap.size, 4, none⟩ = some (.string ⟨#[]⟩) := (bR 4).trans rfl
  have r5 : W5.cell? ⟨w.heap.size, 5, none⟩ = some (.string ⟨#[]⟩) := (bR 5).trans rfl
  have r6 : W5.cell? ⟨w.heap.size, 6, none⟩ = some (.int .i64 0) := (bR 6).trans rfl
  have r7 : W5.cell? ⟨w.heap.size, 7, none⟩ = some (.int .i64 0) := (bR 7).trans rfl
  have r8 : W5.cell? ⟨w.heap.size, 8, none⟩ = some (.int .i64 0) := (bR 8).trans rfl
  have r9 : W5.cell? ⟨w.heap.size, 9, none⟩ = some (.slice none 0 0) := (bR 9).trans rfl
  have r10 : W5.cell? ⟨w.heap.size, 10, none⟩ = some (.slice none 0 0) := (bR 10).trans rfl
  have HLS := Lib.hid (show lineS x = if okP x then jnW (writeP x) else [] from rfl)
  have HLE := Lib.hid (show lineE x = if okP x then 0 else 1 from rfl)
  have FINE : Hid (∀ Wf, Wf.heap[w.heap.size]? = some (.cells #[.int .i64 x.kind, .int .i64 x.a, .int .i64 x.n, .int .i64 x.call.kind, .string ⟨x.call.path.toArray⟩, .string ⟨x.call.other.toArray⟩, .int .i64 x.call.file, .int .i64 x.call.at_, .int .i64 x.call.size, .slice DA x.call.data.length dc, .slice KA x.keep.length kc] 27 (0, 0)) → Keep (fun k => k = w.heap.size) W5 Wf → actOf s = some x → ActRes s w (.returned (.tuple #[.agg #[.int .i64 x.kind, .int .i64 x.a, .int .i64 x.n, .int .i64 x.call.kind, .string ⟨x.call.path.toArray⟩, .string ⟨x.call.other.toArray⟩, .int .i64 x.call.file, .int .i64 x.call.at_, .int .i64 x.call.size, .slice DA x.call.data.length dc, .slice KA x.keep.length kc], .int .i64 0])) Wf) := Lib.hid (fun Wf hf kf ho => by
    have kw : Keep (fun k => k = w.heap.size) W3 Wf := (Keep.of_below (S := fun k => k = w.heap.size) HB5.out).trans kf (fun _ _ h => h)
    refine ⟨_, by unfold actE; rw [ho]; rfl, ?_, B5.out.trans (kf.below (fun k e => by omega) B5.out.size)⟩
    rw [show actY s = x by unfold actY; rw [ho]; rfl]
    exact ⟨_, _, rfl, (HDD.out.keep kw (fun k e => by omega)).t, (HKD.out.keep kw (fun k e => by omega)).t⟩)
  have BAD : Hid (∀ Wf, Wf.heap[w.heap.size]? = some (.cells #[.int .i64 0, .int .i64 0, .int .i64 0, .int .i64 0, .string ⟨#[]⟩, .string ⟨#[]⟩, .int .i64 0, .int .i64 0, .int .i64 0, .slice none 0 0, .slice none 0 0] 27 (0, 0)) → Keep (fun k => k = w.heap.size) W5 Wf → actOf s = none → ActRes s w (.returned (.tuple #[.agg #[.int .i64 0, .int .i64 0, .int .i64 0, .int .i64 0, .string ⟨#[]⟩, .string ⟨#[]⟩, .int .i64 0, .int .i64 0, .int .i64 0, .slice none 0 0, .slice none 0 0], .int .i64 5])) Wf) := Lib.hid (fun Wf hf kf ho => by
    refine ⟨_, by unfold actE; rw [ho]; rfl, ?_, B5.out.trans (kf.below (fun k e => by omega) B5.out.size)⟩
    rw [show actY s = ActP.new 0 by unfold actY; rw [ho]; rfl]
    exact ⟨_, _, rfl, DataT.nil _, KeepT.nil _⟩)
  clear hb5 hC5 hX5 bX bR hok hB z0 z1 z2 z3 z4 z4b z5 hsl
  by_cases hq : okP x = true
  · have HL0 := Lib.hid (show lineE x = 0 by rw [HLE.out, if_pos hq])
    have HL1 := Lib.hid (show lineS x = jnW (writeP x) by rw [HLS.out, if_pos hq])
    rw [HL0.out, HL1.out]
    by_cases he : jnW (writeP x) = s
    · have he1 : (jnW (writeP x) == s) = true := by simpa using he
      have he2 : (jnW (writeP x) != s) = false := by simpa using he
      have HO := Lib.hid (show actOf s = some x by rw [HY.out, if_pos ⟨hq, he⟩])
      clear hq he
      go_wp2
      change bodyPost _ _ _ _ _ (set11 W5 w.heap.size (.int .i64 x.kind) (.int .i64 x.a) (.int .i64 x.n) (.int .i64 x.call.kind) (.string ⟨x.call.path.toArray⟩) (.string ⟨x.call.other.toArray⟩) (.int .i64 x.call.file) (.int .i64 x.call.at_) (.int .i64 x.call.size) (.slice DA x.call.data.length dc) (.slice KA x.keep.length kc))
      have hf := set11_blk C5.out (.int .i64 x.kind) (.int .i64 x.a) (.int .i64 x.n) (.int .i64 x.call.kind) (.string ⟨x.call.path.toArray⟩) (.string ⟨x.call.other.toArray⟩) (.int .i64 x.call.file) (.int .i64 x.call.at_) (.int .i64 x.call.size) (.slice DA x.call.data.length dc) (.slice KA x.keep.length kc)
      have kf := set11_keep W5 w.heap.size (.int .i64 x.kind) (.int .i64 x.a) (.int .i64 x.n) (.int .i64 x.call.kind) (.string ⟨x.call.path.toArray⟩) (.string ⟨x.call.other.toArray⟩) (.int .i64 x.call.file) (.int .i64 x.call.at_) (.int .i64 x.call.size) (.slice DA x.call.data.length dc) (.slice KA x.keep.length kc)
      generalize set11 W5 w.heap.size (.int .i64 x.kind) (.int .i64 x.a) (.int .i64 x.n) (.int .i64 x.call.kind) (.string ⟨x.call.path.toArray⟩) (.string ⟨x.call.other.toArray⟩) (.int .i64 x.call.file) (.int .i64 x.call.at_) (.int .i64 x.call.size) (.slice DA x.call.data.length dc) (.slice KA x.keep.length kc) = Wf at hf kf ⊢
      have bf := blk_cells hf
      have e0 := (bf 0).trans rfl
      have e1 := (bf 1).trans rfl
      have e2 := (bf 2).trans rfl
      have e3 := (bf 3).trans rfl
      have e4 := (bf 4).trans rfl
      have e5 := (bf 5).trans rfl
      have e6 := (bf 6).trans rfl
      have e7 := (bf 7).trans rfl
      have e8 := (bf 8).trans rfl
      have e9 := (bf 9).trans rfl
      have e10 := (bf 10).trans rfl
      have HP := Lib.hid (FINE.out Wf hf kf HO.out)
      clear hf kf bf
      refine bodyPost_ret (by simp [results, Tryd.results12, go_sem, e0, e1, e2, e3, e4, e5, e6, e7, e8, e9, e10]; try rfl) rfl HP.out
    · have he1 : (jnW (writeP x) == s) = false := by simpa using he
      have he2 : (jnW (writeP x) != s) = true := by simpa using he
      have HO := Lib.hid (show actOf s = none by rw [HY.out, if_neg (fun h => he h.2)])
      clear hq he
      go_wp2
      change bodyPost _ _ _ _ _ (set11 W5 w.heap.size (.int .i64 0) (.int .i64 0) (.int .i64 0) (.int .i64 0) (.string ⟨#[]⟩) (.string ⟨#[]⟩) (.int .i64 0) (.int .i64 0) (.int .i64 0) (.slice none 0 0) (.slice none 0 0))
      have hf := set11_blk C5.out (.int .i64 0) (.int .i64 0) (.int .i64 0) (.int .i64 0) (.string ⟨#[]⟩) (.string ⟨#[]⟩) (.int .i64 0) (.int .i64 0) (.int .i64 0) (.slice none 0 0) (.slice none 0 0)
      have kf := set11_keep W5 w.heap.size (.int .i64 0) (.int .i64 0) (.int .i64 0) (.int .i64 0) (.string ⟨#[]⟩) (.string ⟨#[]⟩) (.int .i64 0) (.int .i64 0) (.int .i64 0) (.slice none 0 0) (.slice none 0 0)
      generalize set11 W5 w.heap.size (.int .i64 0) (.int .i64 0) (.int .i64 0) (.int .i64 0) (.string ⟨#[]⟩) (.string ⟨#[]⟩) (.int .i64 0) (.int .i64 0) (.int .i64 0) (.slice none 0 0) (.slice none 0 0) = Wf at hf kf ⊢
      have bf := blk_cells hf
      have e0 := (bf 0).trans rfl
      have e1 := (bf 1).trans rfl
      have e2 := (bf 2).trans rfl
      have e3 := (bf 3).trans rfl
      have e4 := (bf 4).trans rfl
      have e5 := (bf 5).trans rfl
      have e6 := (bf 6).trans rfl
      have e7 := (bf 7).trans rfl
      have e8 := (bf 8).trans rfl
      have e9 := (bf 9).trans rfl
      have e10 := (bf 10).trans rfl
      have HP := Lib.hid (BAD.out Wf hf kf HO.out)
      clear hf kf bf
      refine bodyPost_ret (by simp [results, Tryd.results12, go_sem, e0, e1, e2, e3, e4, e5, e6, e7, e8, e9, e10]; try rfl) rfl HP.out
  · have HL0 := Lib.hid (show lineE x = 1 by rw [HLE.out, if_neg hq])
    have HL1 := Lib.hid (show lineS x = [] by rw [HLS.out, if_neg hq])
    rw [HL0.out, HL1.out]
    have HO := Lib.hid (show actOf s = none by rw [HY.out, if_neg (fun h => hq h.1)])
    clear hq
    go_wp2
    change bodyPost _ _ _ _ _ (set11 W5 w.heap.size (.int .i64 0) (.int .i64 0) (.int .i64 0) (.int .i64 0) (.string ⟨#[]⟩) (.string ⟨#[]⟩) (.int .i64 0) (.int .i64 0) (.int .i64 0) (.slice none 0 0) (.slice none 0 0))
    have hf := set11_blk C5.out (.int .i64 0) (.int .i64 0) (.int .i64 0) (.int .i64 0) (.string ⟨#[]⟩) (.string ⟨#[]⟩) (.int .i64 0) (.int .i64 0) (.int .i64 0) (.slice none 0 0) (.slice none 0 0)
    have kf := set11_keep W5 w.heap.size (.int .i64 0) (.int .i64 0) (.int .i64 0) (.int .i64 0) (.string ⟨#[]⟩) (.string ⟨#[]⟩) (.int .i64 0) (.int .i64 0) (.int .i64 0) (.slice none 0 0) (.slice none 0 0)
    generalize set11 W5 w.heap.size (.int .i64 0) (.int .i64 0) (.int .i64 0) (.int .i64 0) (.string ⟨#[]⟩) (.string ⟨#[]⟩) (.int .i64 0) (.int .i64 0) (.int .i64 0) (.slice none 0 0) (.slice none 0 0) = Wf at hf kf ⊢
    have bf := blk_cells hf
    have e0 := (bf 0).trans rfl
    have e1 := (bf 1).trans rfl
    have e2 := (bf 2).trans rfl
    have e3 := (bf 3).trans rfl
    have e4 := (bf 4).trans rfl
    have e5 := (bf 5).trans rfl
    have e6 := (bf 6).trans rfl
    have e7 := (bf 7).trans rfl
    have e8 := (bf 8).trans rfl
    have e9 := (bf 9).trans rfl
    have e10 := (bf 10).trans rfl
    have HP := Lib.hid (BAD.out Wf hf kf HO.out)
    clear hf kf bf
    refine bodyPost_ret (by simp [results, Tryd.results12, go_sem, e0, e1, e2, e3, e4, e5, e6, e7, e8, e9, e10]; try rfl) rfl HP.out
end Go.Proofs.YtpdnfcgdcndhpaaDoor
