/- Words and contracts that the proofs of this set use; each part says what it holds. -/
import Derived.ProofKit
import Derived.SizedLaws
import Derived.Deep.Slices
import Derived.Deep.Strs
import Derived.ChangeOld
import Derived.Test.YtehfoopefefpnaaGreatSkNone0
import Derived.Test.YtehfoopefefpnaaGreatSk0
/- The walk of SpaceNone. -/
set_option linter.unusedSimpArgs false
set_option linter.unusedVariables false
namespace Go.Proofs.YtehfoopefefpnaaGreat
open Go.RowKit

attribute [local go_sem ↓] Go.wp_at_zero Go.wp_at_succ
theorem open_rng {B : Nat} {c : SWc} {V : Nat → List UInt8} {m : Nat → Bool} {xs : Nat → NoS} {U : List Nat} {w : World} (h : SW B c V m xs U w) (n : Int) (hn : n < 0 ∨ 31 < n) : Calls Tryz.prog 27 #[.pointer (some ⟨c.p.k, 0, none⟩), .int .i64 n] w (OnP 4 w) := by
  obtain ⟨s, hst, _⟩ := h
  have HN := Lib.hid (node_rng n w hst hn)
  clear hst hn
  go_enter Tryz.func27, Tryz.ntmps27
  go_wp2_with fail
  refine HN.out.mono ?_
  rintro r w1 ⟨rfl, hb1⟩
  have HB1 := Lib.hid hb1
  clear hb1
  go_wp2
  go_ret2
  exact ⟨rfl, (HB1.out.alloc HB1.out.size _)⟩
theorem ints_nil (w : World) : Calls Tryz.prog 14 #[.slice none 0 0, .slice none 0 0] w fun e w' => e = .returned (.bool true) ∧ w' = w := by
  go_enter Tryz.func14, Tryz.ntmps14
  go_wp2_with fail
  go_loopw [5] (fun v wr => v = .int .i64 0 ∧ wr = w) (fun _ _ => 0)
  case atStart => exact ⟨rfl, rfl⟩
  case round =>
    obtain ⟨rfl, rfl⟩ := hrel
    go_wp2
    go_ret
    exact ⟨rfl, rfl⟩
set_option maxRecDepth 100000 in
set_option maxHeartbeats 8000000 in
theorem none_walk (n at_ sz : Int) (A : Option Addr) (l cc : Nat) (w : World) :
    Calls Tryz.prog 3 #[.int .i64 n, .int .i64 at_, .int .i64 sz, .slice A l cc] w fun e w' => e = .returned (.bool true) ∧ Below w.heap.size w w' := by
  have HBE : Hid (Calls Tryz.prog 8 #[.int .i64 64] w (BgS 64 w)) := Lib.hid (begin14_walk 64 (by decide) (by decide) w)
  have HRN := Lib.hid (fun (W : World) => read_no (open_nil n W) (by decide) at_ sz)
  have HSN := Lib.hid (fun (W : World) => sectors_no (open_nil n W) (by decide))
  have HWN := Lib.hid (fun (W : World) => write_no (open_nil n W) (by decide) at_ A l cc)
  have HTN := Lib.hid (fun (W : World) => trunc_no (open_nil n W) (by decide) sz)
  have hcs : n < 0 ∨ (¬ n < 0 ∧ 31 < n) ∨ (¬ n < 0 ∧ ¬ 31 < n ∧ n = 1) ∨ (¬ n < 0 ∧ ¬ 31 < n ∧ n ≠ 1) := by omega
  rcases hcs with g1 | ⟨g1, g2⟩ | ⟨g1, g2, rfl⟩ | ⟨g1, g2, g3⟩
  case inr.inr.inl => 
    go_enter Tryz.func3, Tryz.ntmps3
    go_wp2_with fail
    refine HBE.out.mono ?_
    rintro r' w1 ⟨c, rfl, hsw1, hcN, hcs, hb1⟩
    have HAW := Lib.hid (awake14_walk w1)
    have HB1 := Lib.hid hb1
    clear hsw1 hb1 hcN hcs
    go_wp2_with fail
    refine HAW.out.mono ?_
    rintro r' w2 ⟨rfl, hb2⟩
    have HB2 := Lib.hid (bstep HB1.out hb2)
    clear hb2
    go_wp2_with fail
    refine (HRN.out w2).mono ?_
    rintro r' w3 ⟨rfl, hb3⟩
    have HB3 := Lib.hid (bstep HB2.out hb3)
    clear hb3
    go_wp2_with fail
    refine (HSN.out w3).mono ?_
    rintro r' w4 ⟨rfl, hb4⟩
    have HB4 := Lib.hid (bstep HB3.out hb4)
    clear hb4
    go_wp2_with fail
    refine (HWN.out w4).mono ?_
    rintro r' w5 ⟨rfl, hb5⟩
    have HB5 := Lib.hid (bstep HB4.out hb5)
    clear hb5
    go_wp2_with fail
    refine (HTN.out w5).mono ?_
    rintro r' w6 ⟨rfl, hb6⟩
    have HB6 := Lib.hid (bstep HB5.out hb6)
    clear hb6
    go_wp2
    go_ret
    exact ⟨rfl, HB6.out⟩
  case' inl =>
    have HO : Hid (∀ (c : SWc) (W : World), SW w.heap.size c v00 m43 freshX [] W → Calls Tryz.prog 27 #[.pointer (some ⟨c.p.k, 0, none⟩), .int .i64 n] W (OnP 4 W)) := Lib.hid (fun c W h => open_rng h n (.inl g1))
    have e1 : (n == 1) = false := beq_eq_false_iff_ne.2 (by omega)
    have e1' : ¬ n = 1 := by omega
  case' inr.inl =>
    have HO : Hid (∀ (c : SWc) (W : World), SW w.heap.size c v00 m43 freshX [] W → Calls Tryz.prog 27 #[.pointer (some ⟨c.p.k, 0, none⟩), .int .i64 n] W (OnP 4 W)) := Lib.hid (fun c W h => open_rng h n (.inr g2))
    have e1 : (n == 1) = false := beq_eq_false_iff_ne.2 (by omega)
    have e1' : ¬ n = 1 := by omega
  case' inr.inr.inr =>
    have HO : Hid (∀ (c : SWc) (W : World), SW w.heap.size c v00 m43 freshX [] W → Calls Tryz.prog 27 #[.pointer (some ⟨c.p.k, 0, none⟩), .int .i64 n] W (OnP 7 W)) := Lib.hid (fun c W h => by
      obtain ⟨k, rfl⟩ : ∃ k : Nat, n = (k : Int) := ⟨n.toNat, by omega⟩
      exact open_free h (by omega) (by
        unfold freshX
        rw [if_neg (by omega)]
        rfl))
    have e1 : (n == 1) = false := beq_eq_false_iff_ne.2 g3
    have e1' : ¬ n = 1 := g3
  all_goals
    go_enter Tryz.func3, Tryz.ntmps3
    go_wp2_with fail
    refine HBE.out.mono ?_
    rintro r' w1 ⟨c, rfl, hsw1, hcN, hcs, hb1⟩
    have HAW := Lib.hid (awake14_walk w1)
    have HB1 := Lib.hid hb1
    have HSW := Lib.hid hsw1
    clear hsw1 hb1 hcN hcs
    go_wp2_with fail
    refine HAW.out.mono ?_
    rintro r' w2 ⟨rfl, hb2⟩
    have HB2 := Lib.hid (bstep HB1.out hb2)
    have HS2 := Lib.hid (HSW.out.below hb2)
    clear hb2
    go_wp2_with fail
    refine (HRN.out w2).mono ?_
    rintro r' w3 ⟨rfl, hb3⟩
    have HB3 := Lib.hid (bstep HB2.out hb3)
    have HS3 := Lib.hid (HS2.out.below hb3)
    clear hb3
    go_wp2_with fail
    refine (HSN.out w3).mono ?_
    rintro r' w4 ⟨rfl, hb4⟩
    have HB4 := Lib.hid (bstep HB3.out hb4)
    have HS4 := Lib.hid (HS3.out.below hb4)
    clear hb4
    go_wp2_with fail
    refine (HWN.out w4).mono ?_
    rintro r' w5 ⟨rfl, hb5⟩
    have HB5 := Lib.hid (bstep HB4.out hb5)
    have HS5 := Lib.hid (HS4.out.below hb5)
    clear hb5
    go_wp2_with fail
    refine (HTN.out w5).mono ?_
    rintro r' w6 ⟨rfl, hb6⟩
    have HB6 := Lib.hid (bstep HB5.out hb6)
    have HS6 := Lib.hid (HS5.out.below hb6)
    have HR6 := Lib.hid (read_no (HO.out c w6 HS6.out) (by decide) at_ sz)
    clear hb6
    go_wp2_with fail
    refine HR6.out.mono ?_
    rintro r' w7 ⟨rfl, hb7⟩
    have HB7 := Lib.hid (bstep HB6.out hb7)
    have HS7 := Lib.hid (HS6.out.below hb7)
    have HR7 := Lib.hid (sectors_no (HO.out c w7 HS7.out) (by decide))
    clear hb7
    go_wp2_with fail
    refine HR7.out.mono ?_
    rintro r' w8 ⟨rfl, hb8⟩
    have HB8 := Lib.hid (bstep HB7.out hb8)
    have HS8 := Lib.hid (HS7.out.below hb8)
    have HR8 := Lib.hid (write_no (HO.out c w8 HS8.out) (by decide) at_ A l cc)
    clear hb8
    go_wp2_with fail
    refine HR8.out.mono ?_
    rintro r' w9 ⟨rfl, hb9⟩
    have HB9 := Lib.hid (bstep HB8.out hb9)
    have HS9 := Lib.hid (HS8.out.below hb9)
    have HR9 := Lib.hid (trunc_no (HO.out c w9 HS9.out) (by decide) sz)
    clear hb9
    go_wp2_with fail
    refine HR9.out.mono ?_
    rintro r' w10 ⟨rfl, hb10⟩
    have HB10 := Lib.hid (bstep HB9.out hb10)
    clear hb10
    go_wp2_with fail
    refine (ints_nil w10).mono ?_
    rintro r' w11 ⟨rfl, hw11⟩
    rw [hw11]
    clear hw11
    go_wp2
    go_ret
    exact ⟨rfl, HB10.out⟩
end Go.Proofs.YtehfoopefefpnaaGreat
/- What an argument that can be read looks like, type by type: numbers, texts, bytes, structs, slices. No program in sight. -/
set_option linter.unusedSimpArgs false
set_option linter.unusedVariables false
namespace Go.Proofs.YtehfoopefefpnaaGreat
open Go.RowKit Go.ChangeShapes Go.WideShapes Go.ChangeAt

/-- The cells cs can be read as a value of type t, and nothing in it is greater than a machine's memory. -/
def Opens (P : Program) (w : World) (t : TypeId) (cs : List Value) : Prop :=
  ∃ (H : Type) (enc : TypeId × Value → H) (fuel : Nat) (x : DataW H × List MemPlace), DataW.trod enc P w 0 (fun _ => true) true fuel t cs = some x ∧ ∀ n ∈ x.1.weights P t, n ≤ 140737488351232

theorem Opens.int {P : Program} {w : World} {t : TypeId} {cs : List Value} {k : IntKind} (ht : P.underlying t = some (.int k)) (h : Opens P w t cs) : ∃ n, cs = [.int k n] ∧ (Lit.int k n).wf = true := by
  obtain ⟨H, enc, fuel, x, hf, _⟩ := h
  obtain ⟨n, rfl, _, hw⟩ := DataW.trod_int ht hf
  exact ⟨n, rfl, hw⟩
theorem Opens.bool {P : Program} {w : World} {t : TypeId} {cs : List Value} (ht : P.underlying t = some .bool) (h : Opens P w t cs) : ∃ b, cs = [.bool b] := by
  obtain ⟨H, enc, fuel, x, hf, _⟩ := h
  obtain ⟨b, rfl, _⟩ := DataW.trod_bool ht hf
  exact ⟨b, rfl⟩
theorem Opens.string {P : Program} {w : World} {t : TypeId} {cs : List Value} (ht : P.underlying t = some .string) (h : Opens P w t cs) : ∃ s : ByteArray, cs = [.string s] ∧ s.size ≤ 140737488351232 := by
  obtain ⟨H, enc, fuel, x, hf, hw⟩ := h
  obtain ⟨s, rfl, rfl, _⟩ := DataW.trod_string ht hf
  refine ⟨s, rfl, ?_⟩
  have := hw s.data.toList.length (by simp [DataW.weights])
  rw [Array.length_toList] at this
  exact this

theorem weightsEach_mem {H : Type} {P : Program} : ∀ (fs : List Field) (xs : List (DataW H)) (i : Nat) (f : Field) (d : DataW H), fs[i]? = some f → xs[i]? = some d → ∀ n ∈ d.weights P f.type, n ∈ DataW.weightsEach P (fs.map (·.type)) xs
  | f0 :: fs, d0 :: xs, 0, f, d, hf, hd, n, hn => by
    simp only [List.getElem?_cons_zero, Option.some.injEq] at hf hd
    subst hf; subst hd
    simp only [List.map_cons, DataW.weightsEach, List.mem_append]
    exact .inl hn
  | f0 :: fs, d0 :: xs, i + 1, f, d, hf, hd, n, hn => by
    simp only [List.getElem?_cons_succ] at hf hd
    simp only [List.map_cons, DataW.weightsEach, List.mem_append]
    exact .inr (weightsEach_mem fs xs i f d hf hd n hn)
  | [], _, _, f, d, hf, _, _, _ => by simp at hf
  | _ :: _, [], _, f, d, _, hd, _, _ => by simp at hd
theorem weightsAll_mem {H : Type} {P : Program} {e : TypeId} : ∀ (xs : List (DataW H)) (d : DataW H), d ∈ xs → ∀ n ∈ d.weights P e, n ∈ DataW.weightsAll P e xs
  | [], d, hd, _, _ => by simp at hd
  | d0 :: xs, d, hd, n, hn => by
    simp only [DataW.weightsAll, List.mem_append]
    rcases List.mem_cons.1 hd with rfl | h
    · exact .inl hn
    · exact .inr (weightsAll_mem xs d h n hn)

theorem Opens.struct {P : Program} {w : World} {t : TypeId} {cs : List Value} {fs : Array Field} (ht : P.underlying t = some (.struct fs)) (h : Opens P w t cs) :
    cs.length = P.cellsOf t ∧ ∀ (i : Nat) (f : Field), fs[i]? = some f → Opens P w f.type ((cs.drop f.offset).take (P.cellsOf f.type)) := by
  obtain ⟨H, enc, fuel, x, hf, hw⟩ := h
  obtain ⟨xs, n, _, rfl, hl, hlen, hfs⟩ := DataW.trod_struct ht hf
  refine ⟨hl, fun i f hi => ?_⟩
  have hif : i < fs.size := (Array.getElem?_eq_some_iff.1 hi).1
  obtain ⟨y, hy⟩ : ∃ y, xs[i]? = some y := ⟨xs[i]'(by omega), List.getElem?_eq_getElem (by omega)⟩
  refine ⟨H, enc, n, y, (hfs i f hi).trans hy, fun m hm => hw m ?_⟩
  simp only [DataW.weights, ht]
  exact weightsEach_mem fs.toList (xs.map (·.1)) i f y.1 (by simpa using hi) (by simp [hy]) m hm

theorem flat_cells {w : World} {ad : Addr} {size : Nat} : ∀ (css : List (List Value)) (base : Nat), (∀ i c, css[i]? = some c → c.length = size ∧ ∀ j, j < size → w.cell? (ad.add (base + i * size + j)) = c[j]?) →
    ∀ k u, css.flatten[k]? = some u → w.cell? (ad.add (base + k)) = some u
  | [], _, _, k, u, hu => by simp at hu
  | c :: css, base, h, k, u, hu => by
    obtain ⟨hl, hc⟩ := h 0 c rfl
    rw [List.flatten_cons, List.getElem?_append] at hu
    split at hu
    · rename_i hk
      have := hc k (by omega)
      rw [show base + 0 * size + k = base + k by omega] at this
      rw [this]; exact hu
    · rename_i hk
      have := flat_cells css (base + size) (fun i c' hi => by
        obtain ⟨h1, h2⟩ := h (i + 1) c' (by simpa using hi)
        refine ⟨h1, fun j hj => ?_⟩
        have := h2 j hj
        rw [show base + (i + 1) * size + j = base + size + i * size + j by rw [Nat.add_mul]; omega] at this
        exact this) (k - c.length) u hu
      rw [show base + size + (k - c.length) = base + k by omega] at this
      exact this

theorem flatten_len {size : Nat} : ∀ (css : List (List Value)), (∀ c ∈ css, c.length = size) → css.flatten.length = css.length * size
  | [], _ => by simp
  | c :: css, h => by
    rw [List.flatten_cons, List.length_append, flatten_len css (fun c hc => h c (by simp [hc])), h c (by simp), List.length_cons, Nat.add_mul]
    omega

/-- A slice that came in: its elements' cells, one list each. -/
theorem Opens.slice {P : Program} {w : World} {t e : TypeId} {cs : List Value} (ht : P.underlying t = some (.slice e)) (h : Opens P w t cs) :
    ∃ (v : Value) (n : Nat) (css : List (List Value)), cs = [v] ∧ css.length = n ∧ Sl w (P.cellsOf e) v n css.flatten ∧ (∀ c ∈ css, c.length = P.cellsOf e ∧ Opens P w e c) ∧ n * P.bytesOf e ≤ 140737488351232 := by
  obtain ⟨H, enc, fuel, x, hf, hw⟩ := h
  rcases DataW.trod_slice ht hf with ⟨rfl, rfl⟩ | ⟨a, len, cap, elems, rest, n, _, rfl, rfl, hb, hl, hm, hlen, hel, _, _⟩
  · exact ⟨_, 0, [], rfl, rfl, ⟨none, 0, rfl, .inl rfl, fun _ => ⟨rfl, rfl⟩, Nat.le_refl _, by simp⟩, by simp, by simp⟩
  · have hone : ∀ i, i < len → ∃ c : List Value, c.length = P.cellsOf e ∧ (∀ j, j < P.cellsOf e → w.cell? (a.add (i * P.cellsOf e + j)) = c[j]?) ∧ Opens P w e c := by
      intro i hi
      obtain ⟨y, hy⟩ : ∃ y, elems[i]? = some y := ⟨elems[i]'(by omega), List.getElem?_eq_getElem (by omega)⟩
      have h1 := (hel i hi).trans hy
      obtain ⟨c, hc, ht'⟩ := Option.bind_eq_some_iff.1 h1
      obtain ⟨_, h2, h3⟩ := World.cells?_some hc
      refine ⟨c, h2, fun j hj => by rw [← Go.Deep.add_add]; exact h3 j hj, H, enc, n, y, ht', fun k hk => hw k ?_⟩
      simp only [DataW.weights, ht]
      refine List.mem_cons_of_mem _ (List.mem_append_left _ ?_)
      exact weightsAll_mem _ y.1 (List.mem_map.2 ⟨y, List.mem_of_getElem? hy, rfl⟩) k hk
    obtain ⟨f, hfc⟩ := Go.Deep.choose_lt (α := List Value) (n := len) (p := fun i c => c.length = P.cellsOf e ∧ (∀ j, j < P.cellsOf e → w.cell? (a.add (i * P.cellsOf e + j)) = c[j]?) ∧ Opens P w e c) hone
    have hget : ∀ i c, ((List.range len).map f)[i]? = some c → i < len ∧ f i = c := by
      intro i c hi
      rw [List.getElem?_map] at hi
      rcases Nat.lt_or_ge i len with h | h
      · simp [h] at hi; exact ⟨h, hi⟩
      · simp [List.getElem?_eq_none (show (List.range len).length ≤ i by simpa using h)] at hi
    have hall : ∀ c ∈ (List.range len).map f, c.length = P.cellsOf e ∧ Opens P w e c := by
      intro c hc
      obtain ⟨i, hi, rfl⟩ := List.mem_map.1 hc
      have := hfc i (List.mem_range.1 hi)
      exact ⟨this.1, this.2.2⟩
    refine ⟨_, len, (List.range len).map f, rfl, by simp, ⟨some a, cap, rfl, .inr ⟨a, rfl, fun k u hu => ?_⟩, (fun e => by simp at e), hl, ?_⟩, hall, ?_⟩
    · have := flat_cells (w := w) (ad := a) (size := P.cellsOf e) ((List.range len).map f) 0 (fun i c hi => by
        obtain ⟨h1, rfl⟩ := hget i c hi
        have := hfc i h1
        exact ⟨this.1, fun j hj => by rw [Nat.zero_add]; exact this.2.1 j hj⟩) k u hu
      simpa using this
    · rw [flatten_len _ (fun c hc => (hall c hc).1)]; simp
    · have := hw ((elems.length + rest.length) * P.bytesOf e) (by simp [DataW.weights, ht])
      refine Nat.le_trans (Nat.mul_le_mul_right _ ?_) this
      omega

theorem map_byte {cs : List (List Value)} (h : ∀ c ∈ cs, ∃ b : UInt8, c = [.int .u8 (b.toNat : Int)]) : ∃ d : List UInt8, cs.flatten = bv d ∧ d.length = cs.length := by
  induction cs with
  | nil => exact ⟨[], rfl, rfl⟩
  | cons c cs ih =>
    obtain ⟨b, rfl⟩ := h c (by simp)
    obtain ⟨d, hd, hl⟩ := ih (fun c hc => h c (by simp [hc]))
    exact ⟨b :: d, by simp [bv] at hd ⊢; exact hd, by simp [hl]⟩
/-- A slice of bytes that came in. -/
theorem Opens.bytes {P : Program} {w : World} {t e : TypeId} {cs : List Value} (ht : P.underlying t = some (.slice e)) (he : P.underlying e = some (.int .u8)) (hc : P.cellsOf e = 1) (hb : P.bytesOf e = 1) (h : Opens P w t cs) :
    ∃ A c d, cs = [.slice A d.length c] ∧ Sl w 1 (.slice A d.length c) d.length (bv d) ∧ d.length ≤ 140737488351232 := by
  obtain ⟨v, n, css, rfl, hn, hs, hall, hr⟩ := h.slice ht
  rw [hc] at hs hall
  rw [hb] at hr
  obtain ⟨d, hd, hl⟩ := map_byte (cs := css) (fun c hcc => by
    obtain ⟨k, rfl, hw⟩ := (hall c hcc).2.int he
    have : 0 ≤ k ∧ k < 256 := by
      simp only [Lit.wf, IntKind.min, IntKind.max, IntKind.signed, IntKind.bits, Bool.and_eq_true, decide_eq_true_eq] at hw
      simp at hw
      omega
    exact ⟨UInt8.ofNat k.toNat, by simp; omega⟩)
  rw [hd] at hs
  have hs' := hs
  obtain ⟨A, c, rfl, _⟩ := hs'
  obtain rfl : n = d.length := by omega
  exact ⟨A, c, d, rfl, hs, by omega⟩
/-- The first argument's reading out of all arguments'. -/
theorem Opens.arg {H : Type} {enc : TypeId × Value → H} {P : Program} {w : World} {t : TypeId} {v : Value} {d : DataW H} {ps : List MemPlace} {ts : List TypeId} {ds : List (DataW H)} (h : DataW.Trod enc P w 0 (fun _ => true) true t v d ps)
    (hall : (DataW.weightsEach P ts ds).all (· ≤ reachBytes) = true) {j : Nat} (h1 : ts[j]? = some t) (h2 : ds[j]? = some d) : Opens P w t v.cells.toList := by
  obtain ⟨fuel, hf⟩ := h
  refine ⟨H, enc, fuel, (d, ps), hf, fun n hn => ?_⟩
  have := List.all_eq_true.1 hall n (DataW.weights_mem_each h1 h2 n hn)
  exact of_decide_eq_true this
end Go.Proofs.YtehfoopefefpnaaGreat
