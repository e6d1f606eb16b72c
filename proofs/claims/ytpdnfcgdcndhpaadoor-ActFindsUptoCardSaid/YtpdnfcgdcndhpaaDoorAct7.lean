/- The two tables of words: maps that a call makes; what stands at a key; find. -/
import Derived.Test.YtpdnfcgdcndhpaaDoorAct6
import Derived.Maps.RangeWalk
import Derived.Maps.OwnOps
set_option linter.unusedSimpArgs false
set_option linter.unusedVariables false
namespace Go.Proofs.YtpdnfcgdcndhpaaDoor
open Go.RowKit
open Go.Maps (Keyed)

/-- A row of a table: number, word, what it has. -/
structure KR where
  k : Int
  word : Str
  has : Str
deriving DecidableEq
def KR.val (r : KR) : Value := .agg #[.string ⟨r.word.toArray⟩, .string ⟨r.has.toArray⟩]
def rowD (r : KR) : DataW Unit := .agg [.lit (.string r.word), .lit (.string r.has)]
def rdL : List Value → Option (DataW Unit × List MemPlace)
  | [.string a, .string b] => some (.agg [.lit (.string a.data.toList), .lit (.string b.data.toList)], [])
  | _ => none
def rd2 : Value → Option (DataW Unit × List MemPlace)
  | .agg cs => rdL cs.toList
  | _ => none
theorem rd2_val (r : KR) : rd2 r.val = some (rowD r, []) := rfl
theorem rd2_form {v : Value} {y : DataW Unit × List MemPlace} (h : rd2 v = some y) : ∃ r : KR, v = r.val ∧ y = (rowD r, []) := by
  cases v with
  | agg cs =>
    have h : rdL cs.toList = some y := h
    unfold rdL at h
    split at h
    · rename_i a b e
      injection h with h
      refine ⟨⟨0, a.data.toList, b.data.toList⟩, ?_, h.symm⟩
      rw [← Array.toArray_toList (xs := cs), e]
      rfl
    · cases h
  | _ => cases h
theorem rd2_inv {v : Value} {y : DataW Unit × List MemPlace} (h : rd2 v = some y) : ∃ c : Str × Str, v = .agg #[.string ⟨c.1.toArray⟩, .string ⟨c.2.toArray⟩] := by
  obtain ⟨r, rfl, _⟩ := rd2_form h
  exact ⟨(r.word, r.has), rfl⟩
theorem rowD_inj {r s : KR} (h : rowD r = rowD s) : r.val = s.val := by
  simp only [rowD, DataW.agg.injEq, List.cons.injEq, DataW.lit.injEq, Lit.string.injEq] at h
  unfold KR.val
  rw [h.1, h.2.1]
theorem rd2_row {v : Value} {r : KR} {ps : List MemPlace} (h : rd2 v = some (rowD r, ps)) : v = r.val := by
  obtain ⟨s, rfl, e⟩ := rd2_form h
  injection e with e _
  exact (rowD_inj e).symm
def mapD (T : List KR) : DataW Unit := .map (T.map fun r => (.int .i64 r.k, rowD r))
def MapIs (T : List KR) (b : Nat) (w : World) : Prop := ∃ n, w.ownsMap Tryd.prog 3 rd2 b n (mapD T)
theorem MapIs.keep {S : Nat → Prop} {T : List KR} {b : Nat} {w w' : World} (h : MapIs T b w) (hk : Keep S w w') (hS : ¬ S b) : MapIs T b w' := by
  obtain ⟨n, es, clock, hb, hr⟩ := h
  exact ⟨n, es, clock, hk.blk hb hS, hr⟩
theorem MapIs.below {T : List KR} {b : Nat} {w w' : World} (h : MapIs T b w) (hk : Below w.heap.size w w') : MapIs T b w' := h.keep (Keep.of_below (S := fun _ => False) hk) id
theorem MapIs.lt {T : List KR} {b : Nat} {w : World} (h : MapIs T b w) : b < w.heap.size := by
  obtain ⟨n, h⟩ := h
  exact h.lt
def kindOf (T : List KR) (k : Int) : KR := (T.find? (fun r => r.k == k)).getD ⟨0, [], []⟩
def hasK (T : List KR) (k : Int) : Bool := (T.find? (fun r => r.k == k)).isSome
theorem keyInt : Keyed Tryd.prog 3 := Maps.int_keyed Tryd.underlying3
theorem find_map (k : Int) : ∀ T : List KR, (T.map fun r => ((.int .i64 r.k : Lit), rowD r)).find? (fun p => p.1.sameKey (.int .i64 k)) = (T.find? (fun r => r.k == k)).map (fun r => ((.int .i64 r.k : Lit), rowD r))
  | [] => rfl
  | r :: T => by
    have e : (Lit.int .i64 r.k).sameKey (.int .i64 k) = (r.k == k) := by simp [Lit.sameKey]; rfl
    rw [List.map_cons, List.find?_cons, List.find?_cons]
    simp only [e]
    cases r.k == k
    · exact find_map k T
    · rfl
theorem at_mapD (T : List KR) (k : Int) (zd : DataW Unit) : (mapD T).atKey (.int .i64 k) zd = match T.find? (fun r => r.k == k) with | some r => rowD r | none => zd := by
  simp only [mapD, DataW.atKey, find_map]
  cases T.find? (fun r => r.k == k) <;> rfl
theorem zero2 (w : World) : (zeroValue 74).run Tryd.prog w = .ok (KR.val ⟨0, [], []⟩) w := by kernel_rfl
theorem look_run {T : List KR} {b : Nat} {w : World} (h : MapIs T b w) (k : Int) (hk : (Lit.int .i64 k).wf = true) :
    (Instr.lookup 75 (.map (some b)) (.int .i64 k) false).run Tryd.prog w = .ok (kindOf T k).val w ∧
    (Instr.lookup 75 (.map (some b)) (.int .i64 k) true).run Tryd.prog w = .ok (.tuple #[(kindOf T k).val, .bool (hasK T k)]) w := by
  obtain ⟨n, es, clock, hb, F, _, hD⟩ := h
  have hkey := Maps.keyOf_int_mk Tryd.underlying3 hk
  constructor
  · rcases Maps.fit_look false keyInt Tryd.underlying75 (zero2 w) hb F hkey with ⟨hr, _, ha⟩ | ⟨e0, y, _, _, hr, hy, ha, _⟩
    · rw [hr]
      have h0 := ha (.lit (.bool true))
      rw [← hD, at_mapD] at h0
      unfold kindOf
      cases hf : T.find? (fun r => r.k == k) with
      | none => rfl
      | some r => rw [hf] at h0; cases h0
    · rw [hr]
      have h0 := ha (.lit (.bool true))
      have h1 := ha (.lit (.bool false))
      rw [← hD, at_mapD] at h0 h1
      unfold kindOf
      cases hf : T.find? (fun r => r.k == k) with
      | none => rw [hf] at h0 h1; rw [← h0] at h1; cases h1
      | some r =>
        rw [hf] at h0
        obtain ⟨y1, y2⟩ := y
        simp only at h0
        subst h0
        rw [if_neg (by decide), rd2_row hy]
        rfl
  · rcases Maps.fit_look true keyInt Tryd.underlying75 (zero2 w) hb F hkey with ⟨hr, _, ha⟩ | ⟨e0, y, _, _, hr, hy, ha, _⟩
    · rw [hr]
      have h0 := ha (.lit (.bool true))
      rw [← hD, at_mapD] at h0
      unfold kindOf hasK
      cases hf : T.find? (fun r => r.k == k) with
      | none => rfl
      | some r => rw [hf] at h0; cases h0
    · rw [hr]
      have h0 := ha (.lit (.bool true))
      have h1 := ha (.lit (.bool false))
      rw [← hD, at_mapD] at h0 h1
      unfold kindOf hasK
      cases hf : T.find? (fun r => r.k == k) with
      | none => rw [hf] at h0 h1; rw [← h0] at h1; cases h1
      | some r =>
        rw [hf] at h0
        obtain ⟨y1, y2⟩ := y
        simp only at h0
        subst h0
        rw [if_pos rfl, rd2_row hy]
        rfl
theorem wpList_insert_own {H : Type} {P : Program} (w : World) {ops : Array Oper} {rest : List Oper} {o : Oper} {a : Act} {Q : Exit → Act → World → Prop}
    (hg : o.guard = none) (m x v : Operand) (t : TypeId) (hop : o.op = Op.insert t m x v)
    (k e : TypeId) (K : Keyed P k) (ht : P.underlying t = some (.map k e)) (R : Value → Option (DataW H × List MemPlace)) (b n : Nat) (D : DataW H)
    (hm : a.eval m = .map (some b)) (hown : w.ownsMap P k R b n D) (hn : n < maxLen) (key val : Value) (kl : Lit) (hx : a.eval x = key) (hv : a.eval v = val) (hkey : keyOf P k key = some kl)
    (d : DataW H) (ps : List MemPlace) (hval : R val = some (d, ps))
    (hK : ∀ w', w'.ownsMap P k R b (n + 1) (D.put kl d) → w.grownBy w' (some b) → wpList P ops Q rest (a.put o.dst undef) w') :
    wpList P ops Q (o :: rest) a w := by
  refine wpList_plain hg fun K' hK' => ?_
  obtain ⟨w', hrun, r1, r2⟩ := hown.update K ht hn hkey hval
  unfold Oper.wp
  simp [execOp, hop, hm, hx, hv, hrun, Result.andThen]
  exact hK' _ _ (hK w' r1 r2)
def callT : List KR := [⟨1, [111, 112, 101, 110], [112]⟩, ⟨2, [109, 97, 107, 101], [112]⟩, ⟨3, [99, 108, 111, 115, 101], [102]⟩, ⟨4, [114, 101, 97, 100], [102, 97, 115]⟩, ⟨5, [119, 114, 105, 116, 101], [102, 97, 100]⟩, ⟨6, [116, 114, 117, 110, 99], [102, 115]⟩, ⟨7, [115, 121, 110, 99], [102]⟩, ⟨8, [115, 116, 97, 116], [112]⟩, ⟨9, [109, 107, 100, 105, 114], [112]⟩, ⟨10, [108, 105, 110, 107], [112, 111]⟩, ⟨11, [117, 110, 108, 105, 110, 107], [112]⟩, ⟨12, [114, 109, 100, 105, 114], [112]⟩, ⟨13, [114, 101, 110, 97, 109, 101], [112, 111]⟩, ⟨14, [108, 105, 115, 116], [112]⟩]
def actT : List KR := [⟨1, [99, 97, 108, 108], [97, 99]⟩, ⟨2, [100, 101, 108, 105, 118, 101, 114], [97]⟩, ⟨3, [100, 114, 111, 112], [97]⟩, ⟨4, [116, 119, 105, 110], [97]⟩, ⟨5, [116, 105, 99, 107], [110, 107]⟩, ⟨6, [99, 114, 97, 115, 104], [97]⟩, ⟨7, [115, 116, 97, 114, 116], [97, 110, 107]⟩, ⟨8, [102, 117, 115, 101], [110]⟩]
def putsD (T : List KR) : DataW Unit := T.foldl (fun D r => D.put (.int .i64 r.k) (rowD r)) (.map [])
theorem puts_call : putsD callT = mapD callT := by kernel_rfl
theorem puts_act : putsD actT = mapD actT := by kernel_rfl
theorem MapIs.mk2 {T : List KR} {b n : Nat} {w : World} (h : w.ownsMap Tryd.prog 3 rd2 b n (putsD T)) (e : putsD T = mapD T) : MapIs T b w := ⟨n, e ▸ h⟩
set_option maxRecDepth 100000 in
theorem calls_walk (w : World) : Calls Tryd.prog 36 #[] w fun e w' => e = .returned (.map (some w.heap.size)) ∧ MapIs callT w.heap.size w' ∧ Below w.heap.size w w' := by
  have o0 := World.ownsMap_made w Tryd.prog 3 rd2
  have b0 : Below w.heap.size w (w.alloc (.map #[] 0)) := (Below.refl _ w).alloc (Nat.le_refl _) _
  obtain ⟨w1, r1, o1, g1⟩ := o0.update keyInt Tryd.underlying75 (by unfold maxLen; omega) (Maps.keyOf_int_mk Tryd.underlying3 (a := 1) (by decide)) (show rd2 (.agg #[.string ⟨#[111, 112, 101, 110]⟩, .string ⟨#[112]⟩]) = some (rowD ⟨1, [111, 112, 101, 110], [112]⟩, []) from rfl)
  have b1 := Below.grown b0 g1 (by have := b0.size; omega) (fun k e => by cases e; exact Nat.le_refl _)
  obtain ⟨w2, r2, o2, g2⟩ := o1.update keyInt Tryd.underlying75 (by unfold maxLen; omega) (Maps.keyOf_int_mk Tryd.underlying3 (a := 2) (by decide)) (show rd2 (.agg #[.string ⟨#[109, 97, 107, 101]⟩, .string ⟨#[112]⟩]) = some (rowD ⟨2, [109, 97, 107, 101], [112]⟩, []) from rfl)
  have b2 := Below.grown b1 g2 (by have := b1.size; omega) (fun k e => by cases e; exact Nat.le_refl _)
  obtain ⟨w3, r3, o3, g3⟩ := o2.update keyInt Tryd.underlying75 (by unfold maxLen; omega) (Maps.keyOf_int_mk Tryd.underlying3 (a := 3) (by decide)) (show rd2 (.agg #[.string ⟨#[99, 108, 111, 115, 101]⟩, .string ⟨#[102]⟩]) = some (rowD ⟨3, [99, 108, 111, 115, 101], [102]⟩, []) from rfl)
  have b3 := Below.grown b2 g3 (by have := b2.size; omega) (fun k e => by cases e; exact Nat.le_refl _)
  obtain ⟨w4, r4, o4, g4⟩ := o3.update keyInt Tryd.underlying75 (by unfold maxLen; omega) (Maps.keyOf_int_mk Tryd.underlying3 (a := 4) (by decide)) (show rd2 (.agg #[.string ⟨#[114, 101, 97, 100]⟩, .string ⟨#[102, 97, 115]⟩]) = some (rowD ⟨4, [114, 101, 97, 100], [102, 97, 115]⟩, []) from rfl)
  have b4 := Below.grown b3 g4 (by have := b3.size; omega) (fun k e => by cases e; exact Nat.le_refl _)
  obtain ⟨w5, r5, o5, g5⟩ := o4.update keyInt Tryd.underlying75 (by unfold maxLen; omega) (Maps.keyOf_int_mk Tryd.underlying3 (a := 5) (by decide)) (show rd2 (.agg #[.string ⟨#[119, 114, 105, 116, 101]⟩, .string ⟨#[102, 97, 100]⟩]) = some (rowD ⟨5, [119, 114, 105, 116, 101], [102, 97, 100]⟩, []) from rfl)
  have b5 := Below.grown b4 g5 (by have := b4.size; omega) (fun k e => by cases e; exact Nat.le_refl _)
  obtain ⟨w6, r6, o6, g6⟩ := o5.update keyInt Tryd.underlying75 (by unfold maxLen; omega) (Maps.keyOf_int_mk Tryd.underlying3 (a := 6) (by decide)) (show rd2 (.agg #[.string ⟨#[116, 114, 117, 110, 99]⟩, .string ⟨#[102, 115]⟩]) = some (rowD ⟨6, [116, 114, 117, 110, 99], [102, 115]⟩, []) from rfl)
  have b6 := Below.grown b5 g6 (by have := b5.size; omega) (fun k e => by cases e; exact Nat.le_refl _)
  obtain ⟨w7, r7, o7, g7⟩ := o6.update keyInt Tryd.underlying75 (by unfold maxLen; omega) (Maps.keyOf_int_mk Tryd.underlying3 (a := 7) (by decide)) (show rd2 (.agg #[.string ⟨#[115, 121, 110, 99]⟩, .string ⟨#[102]⟩]) = some (rowD ⟨7, [115, 121, 110, 99], [102]⟩, []) from rfl)
  have b7 := Below.grown b6 g7 (by have := b6.size; omega) (fun k e => by cases e; exact Nat.le_refl _)
  obtain ⟨w8, r8, o8, g8⟩ := o7.update keyInt Tryd.underlying75 (by unfold maxLen; omega) (Maps.keyOf_int_mk Tryd.underlying3 (a := 8) (by decide)) (show rd2 (.agg #[.string ⟨#[115, 116, 97, 116]⟩, .string ⟨#[112]⟩]) = some (rowD ⟨8, [115, 116, 97, 116], [112]⟩, []) from rfl)
  have b8 := Below.grown b7 g8 (by have := b7.size; omega) (fun k e => by cases e; exact Nat.le_refl _)
  obtain ⟨w9, r9, o9, g9⟩ := o8.update keyInt Tryd.underlying75 (by unfold maxLen; omega) (Maps.keyOf_int_mk Tryd.underlying3 (a := 9) (by decide)) (show rd2 (.agg #[.string ⟨#[109, 107, 100, 105, 114]⟩, .string ⟨#[112]⟩]) = some (rowD ⟨9, [109, 107, 100, 105, 114], [112]⟩, []) from rfl)
  have b9 := Below.grown b8 g9 (by have := b8.size; omega) (fun k e => by cases e; exact Nat.le_refl _)
  obtain ⟨w10, r10, o10, g10⟩ := o9.update keyInt Tryd.underlying75 (by unfold maxLen; omega) (Maps.keyOf_int_mk Tryd.underlying3 (a := 10) (by decide)) (show rd2 (.agg #[.string ⟨#[108, 105, 110, 107]⟩, .string ⟨#[112, 111]⟩]) = some (rowD ⟨10, [108, 105, 110, 107], [112, 111]⟩, []) from rfl)
  have b10 := Below.grown b9 g10 (by have := b9.size; omega) (fun k e => by cases e; exact Nat.le_refl _)
  obtain ⟨w11, r11, o11, g11⟩ := o10.update keyInt Tryd.underlying75 (by unfold maxLen; omega) (Maps.keyOf_int_mk Tryd.underlying3 (a := 11) (by decide)) (show rd2 (.agg #[.string ⟨#[117, 110, 108, 105, 110, 107]⟩, .string ⟨#[112]⟩]) = some (rowD ⟨11, [117, 110, 108, 105, 110, 107], [112]⟩, []) from rfl)
  have b11 := Below.grown b10 g11 (by have := b10.size; omega) (fun k e => by cases e; exact Nat.le_refl _)
  obtain ⟨w12, r12, o12, g12⟩ := o11.update keyInt Tryd.underlying75 (by unfold maxLen; omega) (Maps.keyOf_int_mk Tryd.underlying3 (a := 12) (by decide)) (show rd2 (.agg #[.string ⟨#[114, 109, 100, 105, 114]⟩, .string ⟨#[112]⟩]) = some (rowD ⟨12, [114, 109, 100, 105, 114], [112]⟩, []) from rfl)
  have b12 := Below.grown b11 g12 (by have := b11.size; omega) (fun k e => by cases e; exact Nat.le_refl _)
  obtain ⟨w13, r13, o13, g13⟩ := o12.update keyInt Tryd.underlying75 (by unfold maxLen; omega) (Maps.keyOf_int_mk Tryd.underlying3 (a := 13) (by decide)) (show rd2 (.agg #[.string ⟨#[114, 101, 110, 97, 109, 101]⟩, .string ⟨#[112, 111]⟩]) = some (rowD ⟨13, [114, 101, 110, 97, 109, 101], [112, 111]⟩, []) from rfl)
  have b13 := Below.grown b12 g13 (by have := b12.size; omega) (fun k e => by cases e; exact Nat.le_refl _)
  obtain ⟨w14, r14, o14, g14⟩ := o13.update keyInt Tryd.underlying75 (by unfold maxLen; omega) (Maps.keyOf_int_mk Tryd.underlying3 (a := 14) (by decide)) (show rd2 (.agg #[.string ⟨#[108, 105, 115, 116]⟩, .string ⟨#[112]⟩]) = some (rowD ⟨14, [108, 105, 115, 116], [112]⟩, []) from rfl)
  have b14 := Below.grown b13 g14 (by have := b13.size; omega) (fun k e => by cases e; exact Nat.le_refl _)
  have HM : Hid (MapIs callT w.heap.size w14) := Lib.hid (MapIs.mk2 o14 puts_call)
  have HB := Lib.hid b14
  clear o14 b14 o13 b13 o12 b12 o11 b11 o10 b10 o9 b9 o8 b8 o7 b7 o6 b6 o5 b5 o4 b4 o3 b3 o2 b2 o1 b1 o0 b0 g1 g2 g3 g4 g5 g6 g7 g8 g9 g10 g11 g12 g13 g14
  have hmm := @run_makeMap Tryd.prog
  go_enter Tryd.func36, Tryd.ntmps36
  go_wp2
  go_ret
  exact ⟨rfl, HM.out, HB.out⟩
set_option maxRecDepth 100000 in
theorem acts_walk (w : World) : Calls Tryd.prog 34 #[] w fun e w' => e = .returned (.map (some w.heap.size)) ∧ MapIs actT w.heap.size w' ∧ Below w.heap.size w w' := by
  have o0 := World.ownsMap_made w Tryd.prog 3 rd2
  have b0 : Below w.heap.size w (w.alloc (.map #[] 0)) := (Below.refl _ w).alloc (Nat.le_refl _) _
  obtain ⟨w1, r1, o1, g1⟩ := o0.update keyInt Tryd.underlying75 (by unfold maxLen; omega) (Maps.keyOf_int_mk Tryd.underlying3 (a := 1) (by decide)) (show rd2 (.agg #[.string ⟨#[99, 97, 108, 108]⟩, .string ⟨#[97, 99]⟩]) = some (rowD ⟨1, [99, 97, 108, 108], [97, 99]⟩, []) from rfl)
  have b1 := Below.grown b0 g1 (by have := b0.size; omega) (fun k e => by cases e; exact Nat.le_refl _)
  obtain ⟨w2, r2, o2, g2⟩ := o1.update keyInt Tryd.underlying75 (by unfold maxLen; omega) (Maps.keyOf_int_mk Tryd.underlying3 (a := 2) (by decide)) (show rd2 (.agg #[.string ⟨#[100, 101, 108, 105, 118, 101, 114]⟩, .string ⟨#[97]⟩]) = some (rowD ⟨2, [100, 101, 108, 105, 118, 101, 114], [97]⟩, []) from rfl)
  have b2 := Below.grown b1 g2 (by have := b1.size; omega) (fun k e => by cases e; exact Nat.le_refl _)
  obtain ⟨w3, r3, o3, g3⟩ := o2.update keyInt Tryd.underlying75 (by unfold maxLen; omega) (Maps.keyOf_int_mk Tryd.underlying3 (a := 3) (by decide)) (show rd2 (.agg #[.string ⟨#[100, 114, 111, 112]⟩, .string ⟨#[97]⟩]) = some (rowD ⟨3, [100, 114, 111, 112], [97]⟩, []) from rfl)
  have b3 := Below.grown b2 g3 (by have := b2.size; omega) (fun k e => by cases e; exact Nat.le_refl _)
  obtain ⟨w4, r4, o4, g4⟩ := o3.update keyInt Tryd.underlying75 (by unfold maxLen; omega) (Maps.keyOf_int_mk Tryd.underlying3 (a := 4) (by decide)) (show rd2 (.agg #[.string ⟨#[116, 119, 105, 110]⟩, .string ⟨#[97]⟩]) = some (rowD ⟨4, [116, 119, 105, 110], [97]⟩, []) from rfl)
  have b4 := Below.grown b3 g4 (by have := b3.size; omega) (fun k e => by cases e; exact Nat.le_refl _)
  obtain ⟨w5, r5, o5, g5⟩ := o4.update keyInt Tryd.underlying75 (by unfold maxLen; omega) (Maps.keyOf_int_mk Tryd.underlying3 (a := 5) (by decide)) (show rd2 (.agg #[.string ⟨#[116, 105, 99, 107]⟩, .string ⟨#[110, 107]⟩]) = some (rowD ⟨5, [116, 105, 99, 107], [110, 107]⟩, []) from rfl)
  have b5 := Below.grown b4 g5 (by have := b4.size; omega) (fun k e => by cases e; exact Nat.le_refl _)
  obtain ⟨w6, r6, o6, g6⟩ := o5.update keyInt Tryd.underlying75 (by unfold maxLen; omega) (Maps.keyOf_int_mk Tryd.underlying3 (a := 6) (by decide)) (show rd2 (.agg #[.string ⟨#[99, 114, 97, 115, 104]⟩, .string ⟨#[97]⟩]) = some (rowD ⟨6, [99, 114, 97, 115, 104], [97]⟩, []) from rfl)
  have b6 := Below.grown b5 g6 (by have := b5.size; omega) (fun k e => by cases e; exact Nat.le_refl _)
  obtain ⟨w7, r7, o7, g7⟩ := o6.update keyInt Tryd.underlying75 (by unfold maxLen; omega) (Maps.keyOf_int_mk Tryd.underlying3 (a := 7) (by decide)) (show rd2 (.agg #[.string ⟨#[115, 116, 97, 114, 116]⟩, .string ⟨#[97, 110, 107]⟩]) = some (rowD ⟨7, [115, 116, 97, 114, 116], [97, 110, 107]⟩, []) from rfl)
  have b7 := Below.grown b6 g7 (by have := b6.size; omega) (fun k e => by cases e; exact Nat.le_refl _)
  obtain ⟨w8, r8, o8, g8⟩ := o7.update keyInt Tryd.underlying75 (by unfold maxLen; omega) (Maps.keyOf_int_mk Tryd.underlying3 (a := 8) (by decide)) (show rd2 (.agg #[.string ⟨#[102, 117, 115, 101]⟩, .string ⟨#[110]⟩]) = some (rowD ⟨8, [102, 117, 115, 101], [110]⟩, []) from rfl)
  have b8 := Below.grown b7 g8 (by have := b7.size; omega) (fun k e => by cases e; exact Nat.le_refl _)
  have HM : Hid (MapIs actT w.heap.size w8) := Lib.hid (MapIs.mk2 o8 puts_act)
  have HB := Lib.hid b8
  clear o8 b8 o7 b7 o6 b6 o5 b5 o4 b4 o3 b3 o2 b2 o1 b1 o0 b0 g1 g2 g3 g4 g5 g6 g7 g8
  have hmm := @run_makeMap Tryd.prog
  go_enter Tryd.func34, Tryd.ntmps34
  go_wp2
  go_ret
  exact ⟨rfl, HM.out, HB.out⟩
end Go.Proofs.YtpdnfcgdcndhpaaDoor
