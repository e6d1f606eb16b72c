/- Package verb: numbers and texts behind bytes; package field: Text. -/
import Derived.Test.YtlcfnehmmjhoiaaGreatVrb1
import Derived.Lib.AppendStr
set_option linter.unusedSimpArgs false
set_option linter.unusedVariables false
namespace Go.Proofs.YtlcfnehmmjhoiaaGreat
open Go.RowKit

attribute [local go_sem ↓] Go.wp_at_zero Go.wp_at_succ
/-- A cell of a slice that is read. -/
theorem sl_at {w : World} {A : Option Addr} {c n size k : Nat} {xs : List Value} (h : Sl w size (.slice A n c) n xs) {u : Value} (hl : xs[k]? = some u) :
    ∃ b o, A = some ⟨b, o, none⟩ ∧ b < w.heap.size ∧ w.cell? ⟨b, o + k, none⟩ = some u := by
  obtain ⟨A', c', e', hr, _⟩ := h
  injection e' with e1 _ e2
  subst e1
  rcases hr with h0 | ⟨ad, rfl, hc⟩
  · rw [h0] at hl; simp at hl
  · have h0 := hc _ _ hl
    obtain ⟨b, o, spot⟩ := ad
    obtain ⟨e0, he0⟩ : ∃ e0, xs[0]? = some e0 := ⟨xs[0]'(by have := (List.getElem?_eq_some_iff.1 hl).1; omega), List.getElem?_eq_getElem _⟩
    have hz := hc 0 e0 he0
    have es : spot = none := by
      have : (⟨b, o, spot⟩ : Addr).add 0 = ⟨b, o, spot⟩ := by unfold Addr.add; simp
      rw [this] at hz
      exact World.cell?_spot hz
    subst es
    rw [Addr.add_lit] at h0
    exact ⟨b, o, rfl, World.block_lt_of_cell? w _ h0, h0⟩
/-- Numbers as bytes. -/
def numsP (L : List Nat) : List UInt8 := L.flatMap fun n => le n 4
theorem numsP_len (L : List Nat) : (numsP L).length = 4 * L.length := by
  induction L with
  | nil => rfl
  | cons n L ih => unfold numsP at ih ⊢; rw [List.flatMap_cons, List.length_append, le_len, ih, List.length_cons]; omega
theorem numsP_take {L : List Nat} {k n : Nat} (h : L[k]? = some n) : numsP (L.take (k + 1)) = numsP (L.take k) ++ le n 4 := by
  unfold numsP
  rw [List.take_add_one, h]
  simp
/-- Bytes more behind bytes. -/
def NumP (B : Nat) (d E : List UInt8) (w : World) (e : Ending) (w' : World) : Prop := ∃ A' c' D, D = d ++ E ∧ e = .returned (.slice A' D.length c') ∧ NB B w' A' c' D ∧ Below w.heap.size w w'
/-- The bytes as far as the numbers are put. -/
def EI (B : Nat) (d : List UInt8) (L : List Nat) (w : World) (v0 v11 : Value) (W : World) : Prop := ∃ (i : Nat) (A : Option Addr) (c : Nat), i ≤ L.length ∧ v11 = .int .i64 (i : Int) ∧ v0 = .slice A (d ++ numsP (L.take i)).length c ∧ NB B W A c (d ++ numsP (L.take i)) ∧ Below w.heap.size w W
set_option maxHeartbeats 1000000 in
theorem eachint_walk (B : Nat) (d : List UInt8) (A : Option Addr) (c : Nat) (L : List Nat) (X : Option Addr) (cx : Nat) (w : World) (h : NB B w A c d) (hB : B ≤ w.heap.size) (hx : Sl w 1 (.slice X L.length cx) L.length (L.map fun (n : Nat) => Value.int .i64 (n : Int))) (hL : ∀ n ∈ L, n < 4294967296) (hb : d.length + 4 * L.length ≤ 100000000) :
    Calls Tryz.prog 103 #[.slice A d.length c, .slice X L.length cx, .func (.func 104) #[] #[]] w (NumP B d (numsP L) w) := by
  have HS0 : Hid (EI B d L w (.slice A d.length c) (.int .i64 0) w) := Lib.hid ⟨0, A, c, Nat.zero_le _, rfl, by simp [numsP], by simpa [numsP] using h, Below.refl _ _⟩
  have HX := Lib.hid hx
  have HL := Lib.hid hL
  clear h hx hL
  go_enter Tryz.func103, Tryz.ntmps103
  go_wp2_with fail
  go_loopw [0, 11] (fun v0 v11 wr => EI B d L w v0 v11 wr) (fun _ v _ => L.length - (intOf v).toNat)
  case atStart => exact HS0.out
  case round =>
    obtain ⟨i, A2, c2, hi, rfl, rfl, hn, hbe⟩ := hrel
    obtain ⟨D, hD⟩ : ∃ D, D = d ++ numsP (L.take i) := ⟨_, rfl⟩
    rw [← hD] at hn ⊢
    have hDl : D.length ≤ 100000000 := by rw [hD, List.length_append, numsP_len, List.length_take]; omega
    have HD := Lib.hid hD
    have HN := Lib.hid hn
    have HBE := Lib.hid hbe
    clear hD hn hbe
    by_cases hlt : i < L.length
    · obtain ⟨n, hn⟩ : ∃ n, L[i]? = some n := ⟨L[i], List.getElem?_eq_getElem hlt⟩
      have hnl := HL.out n (List.mem_of_getElem? hn)
      obtain ⟨ad, o, rfl, hc⟩ : ∃ b o, X = some ⟨b, o, none⟩ ∧ wr.cell? ⟨b, o + i, none⟩ = some (.int .i64 (n : Int)) := (by
        obtain ⟨b, o, e, _, hc⟩ := sl_at (k := i) (u := .int .i64 (n : Int)) (HX.out.below HBE.out) (by rw [List.getElem?_map, hn]; rfl)
        exact ⟨b, o, e, hc⟩)
      have HNT := Lib.hid (numsP_take hn)
      have g0 : (0 : Int) ≤ (i : Int) := by omega
      have g1 : (i : Int) < (L.length : Int) := by omega
      have g2 : IntKind.i64.wrap ((i : Int) + 1) = (i : Int) + 1 := IntWalk.i64_in _ (by omega)
      have HNW := Lib.hid (num_walk D A2 c2 n wr HN.out.sl hDl hnl)
      clear hn
      go_wp2_with fail
      refine HNW.out.mono ?_
      rintro e w1 ⟨A3, D3, hD3, rfl, hn3, hb3⟩
      have HP : Hid (EI B d L w (.slice A3 D3.length D3.length) (.int .i64 ((i : Int) + 1)) w1) := Lib.hid ⟨i + 1, A3, D3.length, hlt, by rw [Int.natCast_add]; rfl, by rw [HNT.out, ← List.append_assoc, ← HD.out, ← hD3], by rw [HNT.out, ← List.append_assoc, ← HD.out, ← hD3]; exact hn3.mono (Nat.le_trans hB HBE.out.size), HBE.out.trans (hb3.mono HBE.out.size)⟩
      clear hD3 hn3 hb3
      go_wp2_with fail
      go_roundw
      case rel => exact HP.out
      case measure => simp only [intOf]; omega
    · obtain rfl : i = L.length := by omega
      have g1 : ¬ (L.length : Int) < (L.length : Int) := by omega
      go_wp2
      go_ret
      exact ⟨A2, c2, D, by rw [HD.out, List.take_length], rfl, HN.out, HBE.out⟩
theorem nums_walk (B : Nat) (d : List UInt8) (A : Option Addr) (c : Nat) (L : List Nat) (X : Option Addr) (cx : Nat) (w : World) (h : NB B w A c d) (hB : B ≤ w.heap.size) (hx : Sl w 1 (.slice X L.length cx) L.length (L.map fun (n : Nat) => Value.int .i64 (n : Int))) (hL : ∀ n ∈ L, n < 4294967296) (hb : d.length + 4 * L.length ≤ 100000000) :
    Calls Tryz.prog 70 #[.slice A d.length c, .slice X L.length cx] w (NumP B d (numsP L) w) := by
  have HE := Lib.hid (eachint_walk B d A c L X cx w h hB hx hL hb)
  clear h hx hL
  go_enter Tryz.func70, Tryz.ntmps70
  go_wp2_with fail
  refine HE.out.mono ?_
  rintro e w1 ⟨A1, c1, D, hD, rfl, h1, h2⟩
  have HD := Lib.hid hD
  clear hD
  go_wp2
  go_ret
  exact ⟨A1, c1, D, HD.out, rfl, h1, h2⟩
/-- append of a text to bytes that are clipped. -/
theorem run_appS {w : World} (ty : TypeId) {B b o : Nat} {d : List UInt8} (h : NB B w (some ⟨b, o, none⟩) d.length d) (hB : B ≤ w.heap.size) (s : ByteArray) (hb : d.length + s.size ≤ 100000000) :
    ∃ A' c' w', (Builtin.append_ #[30, 9] ty #[.slice (some ⟨b, o, none⟩) d.length d.length, .string s]).run Tryz.prog w = .ok (.slice A' (d.length + s.size) c') w' ∧ NB B w' A' c' (d ++ s.data.toList) ∧ Below w.heap.size w w' := by
  have hz : (Tryz.prog.info? 5).map (fun i => (i.zero, i.size, i.bytes)) = some (some (.int .u8 0), 1, 1) := by kernel_rfl
  obtain ⟨i, hi, h1, h2, h3⟩ := info_parts hz
  have hsl : (s.data.toList).length = s.size := by rw [Array.length_toList]; rfl
  obtain ⟨A1, c1, e1, hr1, hz1, hc1, _⟩ := h.sl
  injection e1 with e1 _ e1'
  subst e1 e1'
  have hcell : ∀ j v, (bv d)[j]? = some v → w.cell? ((⟨b, o, none⟩ : Addr).add j) = some v := by
    rcases hr1 with hh | ⟨ad', e', hcl⟩
    · intro j v hj; rw [hh] at hj; simp at hj
    · obtain rfl := Option.some.inj e'
      exact hcl
  by_cases hs0 : s.size = 0
  · have hs : s.data.toList = [] := List.eq_nil_of_length_eq_zero (by omega)
    have hsd : s.data = #[] := by rw [← Array.toArray_toList (xs := s.data), hs]
    refine ⟨some ⟨b, o, none⟩, d.length, w, ?_, by rw [hs, List.append_nil]; exact h, Below.refl _ _⟩
    rw [hs0]
    have hle : d.length ≤ d.length := Nat.le_refl _
    simp [Builtin.append_, run_underlying eltB.und, run_underlying Tryz.underlying9, sizeOf, typeInfo, hi, Builtin.lenOf, hs0, hsd, Builtin.firstCells, storeCells]
  · have hr := Lib.run_append_grow_string (P := Tryz.prog) w 30 9 ty 5 i (.int .u8 0) eltB.und Tryz.underlying9 hi h1 ⟨b, o, none⟩ d.length d.length (bv d) (by rw [bv_length, h2, Nat.mul_one]) hcell s (by omega) (by omega) (by have := growslice_fits (need := d.length + s.size) (old := d.length) (bytes := i.bytes) (by omega) (by rw [h3]; omega); omega)
    have hge := grownCap_ge w (d.length + s.size) d.length 5
    have hcm : grownCap w (d.length + s.size) d.length 5 ≤ maxLen := grownCap_le_maxLen w (d.length + s.size) d.length 5 (by simp only [maxLen]; omega)
    have hbl := Below.refl w.heap.size w
    have hbl2 := hbl.drew.alloc (Nat.le_refl _) (.cells ((bv d).toArray ++ (Lib.strCells s).toArray ++ Builtin.zeroCells (Value.int .u8 0).cells (grownCap w (d.length + s.size) d.length 5 - (d.length + s.size))) 5)
    refine ⟨_, _, _, hr, ?_, hbl2⟩
    have hlen : (d ++ s.data.toList).length = d.length + s.size := by rw [List.length_append, hsl]
    have hstr : Lib.strCells s = bv s.data.toList := rfl
    have hown : (w.drew.alloc (.cells ((bv d).toArray ++ (Lib.strCells s).toArray ++ Builtin.zeroCells (Value.int .u8 0).cells (grownCap w (d.length + s.size) d.length 5 - (d.length + s.size))) 5)).ownsRow 0 5 1 (.slice (some ⟨w.heap.size, 0, none⟩) (d ++ s.data.toList).length (grownCap w (d.length + s.size) d.length 5)) (d ++ s.data.toList).length (bv (d ++ s.data.toList)) := by
      refine ⟨by rw [bv_length, Nat.mul_one], .inr ⟨w.heap.size, _, _, rfl, Nat.zero_le _, heap_alloc_new w.drew _, by omega, hcm, ?_, ?_⟩⟩
      · simp only [Array.size_append, List.size_toArray, size_zeroCells, bv_length, Lib.strCells_length]
        rw [show (Value.int .u8 0).cells.size = 1 from rfl]
        omega
      · have hl2 : (bv d ++ Lib.strCells s).length = (d ++ s.data.toList).length * 1 := by rw [List.length_append, bv_length, Lib.strCells_length, hlen, Nat.mul_one]
        simp only [Array.toList_append]
        rw [← hl2, List.take_left, hstr]
        simp [bv]
    have := NB.of_own hown (B := B) (fun j e => by have := Option.some.inj e; have : w.heap.size = j := this; omega)
    exact this
theorem wpList_appS {w : World} {ops : Array Oper} {rest : List Oper} {o : Oper} {a : Act} {Q : Exit → Act → World → Prop} (hgd : o.guard = none) {x y : Operand}
    (ho : o.op = .call { callee := .builtin .append, args := #[x, y], argTypes := #[30, 9] }) {B b f n : Nat} {d : List UInt8} {s : ByteArray} (hd : d.length = n) (hx : a.eval x = .slice (some ⟨b, f, none⟩) n n) (hy : a.eval y = .string s)
    (hA : NB B w (some ⟨b, f, none⟩) d.length d) (hB : B ≤ w.heap.size) (hb : n + s.size ≤ 100000000)
    (h : ∀ A' c' w', NB B w' A' c' (d ++ s.data.toList) → Below w.heap.size w w' → wpList Tryz.prog ops Q rest (a.put o.dst (.slice A' (n + s.size) c')) w') : wpList Tryz.prog ops Q (o :: rest) a w := by
  subst hd
  obtain ⟨A', c', w', hr, h2, h3⟩ := run_appS (w := w) o.type hA hB s hb
  refine wpList_plain hgd fun _ hK => ?_
  unfold Oper.wp execOp
  simp only [ho, resolve, invoke, builtin, Sem.run_bind, Sem.run_pure, Result.andThen_ok, List.map_toArray, List.map_cons, List.map_nil, hx, hy, hr]
  exact hK _ _ (h A' c' w' h2 h3)
end Go.Proofs.YtlcfnehmmjhoiaaGreat
