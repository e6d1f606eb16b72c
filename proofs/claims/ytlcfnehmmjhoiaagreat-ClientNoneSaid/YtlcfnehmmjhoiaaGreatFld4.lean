/- Package field: get. -/
import Derived.Test.YtlcfnehmmjhoiaaGreatFld3
import Derived.Test.YtlcfnehmmjhoiaaGreatBits
set_option linter.unusedSimpArgs false
set_option linter.unusedVariables false
namespace Go.Proofs.YtlcfnehmmjhoiaaGreat
open Go.RowKit Go.Shelf

attribute [local go_sem] Oper.semAt_some
theorem keep_putObj {W : World} {l : Nat} {S : Nat → Prop} (o' : Obj) (h : S l) : Keep S W (W.putObj l o') :=
  (Keep.of_grown (grownBy_putObj' W l o')).mono (fun i _ e => by injection e with e; exact e ▸ h)
theorem boxed_ownK {β : Type} (B : Nat) (t : TypeId) (v : β → Value) : Own (fun (s : β) W => Boxed W B t (v s)) := by
  intro s X Y row hv hg hrow
  refine hv.kept hg (fun e' => ?_)
  obtain ⟨o, ho, hc⟩ := hrow B e'.symm
  rw [show X.heap[B]? = _ from hv] at ho; cases ho; cases hc
/-- A byte more of a number. -/
def gacc (xs : List UInt8) (n : Nat) (x : Fin xs.length) : Nat := (n * 256 + (xs.getD (xs.length - 1 - x.val) 0).toNat) % 4294967296
/-- Between two rounds: what is read so far. -/
def GI (xs : List UInt8) (w : World) (pre : List (Fin xs.length)) (W : World) : Prop := Boxed W w.heap.size 125 (.int .u32 ((pre.foldl (gacc xs) 0 : Nat) : Int)) ∧ Below w.heap.size w W
theorem GI_own (xs : List UInt8) (w : World) (B : Nat) (hB : w.heap.size ≤ B) : OwnFrom B (GI xs w) :=
  OwnFrom.and (Own.from (boxed_ownK _ _ (fun pre : List (Fin xs.length) => .int .u32 ((pre.foldl (gacc xs) 0 : Nat) : Int))) _) (ownFrom_below (Nat.le_refl _) hB)
theorem unle_drop {xs : List UInt8} {j : Nat} {x : UInt8} (h : xs[j]? = some x) : unle (xs.drop j) = x.toNat + 256 * unle (xs.drop (j + 1)) := by
  obtain ⟨hj, rfl⟩ := List.getElem?_eq_some_iff.1 h
  rw [List.drop_eq_getElem_cons hj]
  rfl
theorem gacc_lt (xs : List UInt8) (pre : List (Fin xs.length)) : pre.foldl (gacc xs) 0 < 4294967296 := by
  have : ∀ (pre : List (Fin xs.length)) (n : Nat), n < 4294967296 → pre.foldl (gacc xs) n < 4294967296 := by
    intro pre
    induction pre with
    | nil => intro n h; exact h
    | cons x pre ih => intro n _; exact ih _ (Nat.mod_lt _ (by decide))
  exact this pre 0 (by decide)
theorem gacc_all (xs : List UInt8) (hl : xs.length ≤ 4) : (List.finRange xs.length).foldl (gacc xs) 0 = unle xs := by
  have : ∀ k, k ≤ xs.length → ((List.finRange xs.length).take k).foldl (gacc xs) 0 = unle (xs.drop (xs.length - k)) := by
    intro k
    induction k with
    | zero => intro _; simp [unle]
    | succ k ih =>
      intro hk
      have hlt : k < xs.length := by omega
      obtain ⟨x, hx⟩ : ∃ x, xs[xs.length - (k + 1)]? = some x := ⟨xs[xs.length - (k + 1)], List.getElem?_eq_getElem (by omega)⟩
      have hg : xs.getD (xs.length - 1 - k) 0 = x := by rw [List.getD_eq_getElem?_getD, show xs.length - 1 - k = xs.length - (k + 1) by omega, hx]; rfl
      have hb := unle_lt (xs.drop (xs.length - k))
      rw [List.length_drop, show xs.length - (xs.length - k) = k by omega] at hb
      have h3 : 256 ^ k ≤ 256 ^ 3 := Nat.pow_le_pow_right (by decide) (by omega)
      have hxl := x.toNat_lt
      rw [finRange_succ_take hlt, List.foldl_append, List.foldl_cons, List.foldl_nil, ih (by omega), unle_drop hx, show xs.length - (k + 1) + 1 = xs.length - k by omega]
      unfold gacc
      simp only
      rw [hg, Nat.mod_eq_of_lt (by omega)]
      omega
  have h := this xs.length (Nat.le_refl _)
  rw [List.take_of_length_le (by simp), Nat.sub_self, List.drop_zero] at h
  exact h
set_option maxRecDepth 100000 in
set_option maxHeartbeats 4000000 in
theorem get_in (xs : List UInt8) (A0 : Option Addr) (b off cap : Nat) (hA0 : xs.length ≠ 0 → A0 = some ⟨b, off, none⟩) (w : World) (hl : xs.length ≤ 4) (hcap : xs.length ≤ cap) (hbl : xs.length ≠ 0 → b < w.heap.size) (hc : ∀ j x, xs[j]? = some x → w.cell? ⟨b, off + j, none⟩ = some (.int .u8 (x.toNat : Int))) :
    CallsIn Fence.wide 8 Tryz.prog 66 #[.slice A0 xs.length cap] w fun e w' => e = .returned (.int .u32 ((unle xs : Nat) : Int)) ∧ Below w.heap.size w w' := by
  have hro : Fence.wide.round = none := rfl
  obtain ⟨w2, hw2⟩ : ∃ w2, w2 = (w.alloc (.cells #[.int .u32 0] 125)).alloc (.cells #[.slice A0 xs.length cap] 30) := ⟨_, rfl⟩
  have x1 : Boxed w2 w.heap.size 125 (.int .u32 0) := by rw [hw2]; exact (Boxed.new w _ _).alloc _
  have x2 : Boxed w2 (w.heap.size + 1) 30 (.slice A0 xs.length cap) := by
    have := Boxed.new (w.alloc (.cells #[.int .u32 0] 125)) 30 (.slice A0 xs.length cap)
    rw [← hw2] at this
    simpa using this
  have hb2 : Below w.heap.size w w2 := by rw [hw2]; exact ((Below.refl _ w).alloc (Nat.le_refl _) _).alloc (by simp) _
  have hz2 : w2.heap.size = w.heap.size + 1 + 1 := by rw [hw2]; simp
  have hc2 : ∀ j x, xs[j]? = some x → w2.cell? ⟨b, off + j, none⟩ = some (.int .u8 (x.toNat : Int)) := fun j x hj => (Keep.of_below (S := fun _ => False) hb2).cell (hc j x hj) id
  have HW := Lib.hid hw2
  have HB2 := Lib.hid hb2
  have HZ := Lib.hid hz2
  have HC := Lib.hid hc2
  clear hw2 hb2 hz2 hc hc2
  refine callsIn_of_wp_marks Tryz.func66 rfl trivial ?_ hro
  simp only [Tryz.ntmps66, List.size_toArray, List.length_cons, List.length_nil, Nat.reduceAdd, Nat.reduceSub, Array.replicate_succ, Array.replicate_zero, List.push_toArray, List.append_toArray, List.nil_append, List.cons_append]
  gi_wp2_with (refine ⟨trivial, ?_⟩; gi_at_call 100; refine (back_in Fence.wide (8 - 1) trivial rfl _ _ _ _).mono ?_; rintro e w' ⟨rfl, rfl⟩)
  rw [← HW.out]
  refine wpIn_rangeFunc_ownG hro (by omega) (gf := 129) (lb := #[.pointer (some ⟨w.heap.size + 1, 0, none⟩)]) rfl trivial (enters_of Tryz.func129 (by kernel_rfl) rfl)
    (back_stops Fence.wide (8 - 1) trivial rfl (by omega) (w.heap.size + 1) b off cap A0 xs hA0 (fun k => k = w.heap.size ∨ w.heap.size + 2 ≤ k) (by omega) hcap w2 (by have := HZ.out; omega) (by omega) (fun h => ⟨by have := hbl h; omega, by have := HZ.out; have := hbl h; omega⟩) x2.cell HC.out)
    (fun h k => h.trans k (fun _ _ h => h)) (fun W l o o' hl _ _ _ => keep_putObj o' (.inr (by have := HZ.out; omega))) (Below.refl _ _) (fun _ => rfl)
    (GI xs w) (fun _ _ _ => False) (GI_own xs w _ (by have := HZ.out; omega)) (fun c => fun _ _ _ _ h => h.elim) ?h0
    (fun x => { tmps := #[.slice A0 xs.length cap, undef, .int .u32 0, .pointer (some ⟨w.heap.size, 0, none⟩), undef, .int .u8 (((xs.getD (xs.length - 1 - x.val) 0).toNat : Nat) : Int), .slice A0 xs.length cap, .func (.func 129) #[] #[.pointer (some ⟨w.heap.size + 1, 0, none⟩)],
      .int .i64 ((xs.length - 1 - x.val : Nat) : Int), .int .u8 (((xs.getD (xs.length - 1 - x.val) 0).toNat : Nat) : Int), undef, undef, undef, undef, undef, undef], defers := [] }) ?assign ?body ?done ?stop
  case h0 => exact ⟨x1, HB2.out⟩
  case assign =>
    intro l x W K hK
    unfold backV
    gi_wp2
    exact hK
  case body =>
    rintro l pre x W ⟨hv, hB⟩ hlt
    have hvl := gacc_lt xs pre
    obtain ⟨n, hn⟩ : ∃ n, n = pre.foldl (gacc xs) 0 := ⟨_, rfl⟩
    rw [← hn] at hv hvl
    have HN := Lib.hid hn
    obtain ⟨y, hy⟩ : ∃ y, y = xs.getD (xs.length - 1 - x.val) 0 := ⟨_, rfl⟩
    rw [← hy]
    have HY := Lib.hid hy
    have hyl := y.toNat_lt
    have hcell := hv.cell
    have HV := Lib.hid hv
    have HB := Lib.hid hB
    have hbit : bits .or .u32 ((n : Int) * 256 % 4294967296) (y.toNat : Int) = ((gacc xs n x : Nat) : Int) := by
      have := bits_or_u32 (n * 256 % 4294967296) y.toNat (Nat.mod_lt _ (by decide)) (by omega)
      rw [or_low n y.toNat hyl] at this
      unfold gacc
      rw [← hy, ← this]
      congr 1
    have hfr := blk_frees hv 0
    have hgl : gacc xs n x < 4294967296 := Nat.mod_lt _ (by decide)
    obtain ⟨m, hm⟩ : ∃ m, m = gacc xs n x := ⟨_, rfl⟩
    rw [← hm] at hbit hgl
    have HM := Lib.hid hm
    clear hv hB hn hy hm x1 x2
    gi_wp2
    have hset := HV.out.set (.int .u32 (m : Int))
    have hks : Keep (fun k => k = w.heap.size ∨ w.heap.size + 2 ≤ k) W (W.setCell ⟨w.heap.size, 0, none⟩ (.int .u32 (m : Int))) := (Keep.refl _ W).setCell (fun _ => .inl rfl) _
    refine ⟨(KeepsOthers.setCell _ _ _).from _, hks, ?_, HB.out.setCell (p := ⟨w.heap.size, 0, none⟩) (Nat.le_refl _) _⟩
    rw [List.foldl_append, List.foldl_cons, List.foldl_nil, ← HN.out, ← HM.out]
    exact hset
  case done =>
    rintro D ys W hD rfl ⟨hv, hB⟩ hK
    rw [gacc_all xs hl] at hv
    have hcell := hv.cell
    have HV := Lib.hid hv
    have HB := Lib.hid hB
    have HK := Lib.hid hK
    have HD := Lib.hid (show w.heap.size ≤ D by have := HZ.out; omega)
    clear hv hB hK x1 x2
    gi_wp2
    refine ⟨by simp, .inl ⟨_, _, rfl, run_takeDeferred HK.out, ?_⟩⟩
    refine ⟨.int .u32 ((unle xs : Nat) : Int), ?_, rfl, HB.out.trans (belowK_b (w := w) (Nat.le_refl _) W D _ _ HD.out HK.out rfl rfl)⟩
    simp [results, Tryz.f66, go_sem]
  case stop =>
    rintro D c pre W hD _ h _
    exact h.elim
theorem bv_at {w : World} {A : Option Addr} {c n k : Nat} {l : List UInt8} (h : Sl w 1 (.slice A n c) n (bv l)) {e : UInt8} (hl : l[k]? = some e) :
    ∃ b o, A = some ⟨b, o, none⟩ ∧ b < w.heap.size ∧ w.cell? ⟨b, o + k, none⟩ = some (.int .u8 (e.toNat : Int)) := by
  obtain ⟨A', c', e', hr, _⟩ := h
  injection e' with e1 _ e2
  subst e1
  have q0 : (bv l)[k]? = some (.int .u8 (e.toNat : Int)) := by simp [bv, hl]
  rcases hr with h0 | ⟨ad, rfl, hc⟩
  · rw [h0] at q0; simp at q0
  · have h0 := hc _ _ q0
    obtain ⟨b, o, spot⟩ := ad
    obtain ⟨e0, he0⟩ : ∃ e0, l[0]? = some e0 := ⟨l[0]'(by have := (List.getElem?_eq_some_iff.1 hl).1; omega), List.getElem?_eq_getElem _⟩
    have hz := hc 0 (.int .u8 (e0.toNat : Int)) (by simp [bv, he0])
    have es : spot = none := by
      have : (⟨b, o, spot⟩ : Addr).add 0 = ⟨b, o, spot⟩ := by unfold Addr.add; simp
      rw [this] at hz
      exact World.cell?_spot hz
    subst es
    rw [Addr.add_lit] at h0
    exact ⟨b, o, rfl, World.block_lt_of_cell? w _ h0, h0⟩
/-- The number that bytes are, at most four. -/
theorem get_walk (xs : List UInt8) (A : Option Addr) (cap : Nat) (w : World) (h : Sl w 1 (.slice A xs.length cap) xs.length (bv xs)) (hl : xs.length ≤ 4) :
    Calls Tryz.prog 66 #[.slice A xs.length cap] w fun e w' => e = .returned (.int .u32 ((unle xs : Nat) : Int)) ∧ Below w.heap.size w w' := by
  have hcap : xs.length ≤ cap := by obtain ⟨_, _, e, _, _, hc, _⟩ := h; injection e with _ _ e; subst e; exact hc
  by_cases h0 : xs.length = 0
  · exact callsIn_wide.1 (get_in xs A 0 0 cap (fun h => absurd h0 h) w hl hcap (fun h => absurd h0 h) (fun j x hj => by have := (List.getElem?_eq_some_iff.1 hj).1; omega))
  · obtain ⟨x, hx⟩ : ∃ x, xs[0]? = some x := ⟨xs[0], List.getElem?_eq_getElem (by omega)⟩
    obtain ⟨b, o, rfl, hb, _⟩ := bv_at h hx
    refine callsIn_wide.1 (get_in xs _ b o cap (fun _ => rfl) w hl hcap (fun _ => hb) (fun j x hj => ?_))
    obtain ⟨b', o', e, _, hc⟩ := bv_at h hj
    injection e with e
    injection e with e1 e2
    subst e1 e2
    exact hc
end Go.Proofs.YtlcfnehmmjhoiaaGreat
