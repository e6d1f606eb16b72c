/- The words of a call. -/
import Derived.Test.YtpdnfcgdcndhpaaDoorActB
set_option linter.unusedSimpArgs false
set_option linter.unusedVariables false
namespace Go.Proofs.YtpdnfcgdcndhpaaDoor
open Go.RowKit

attribute [local go_sem ↓] Go.wp_at_zero Go.wp_at_succ
def I64 (n : Int) : Prop := -9223372036854775808 ≤ n ∧ n ≤ 9223372036854775807
theorem I64.wf {n : Int} (h : I64 n) : (Lit.int .i64 n).wf = true := by
  obtain ⟨h1, h2⟩ := h
  exact WalkArith.wf_i64 (by omega)
/-- A call within a machine's bounds. -/
structure CallOk (x : CallP) : Prop where
  kind : I64 x.kind
  file : I64 x.file
  at_ : I64 x.at_
  size : I64 x.size
  path : x.path.length ≤ 10000000000
  other : x.other.length ≤ 10000000000
  data : x.data.length ≤ 10000000000
/-- Bytes that can be read. -/
def DataR (w : World) (dv : Value) (d : Str) : Prop := ∃ A c, dv = .slice A d.length c ∧ Sl w 1 (.slice A d.length c) d.length (bv d)
theorem DataR.below {w w' : World} {dv : Value} {d : Str} (h : DataR w dv d) (hk : Below w.heap.size w w') : DataR w' dv d := by
  obtain ⟨A, c, rfl, hs⟩ := h
  exact ⟨A, c, rfl, hs.below hk⟩
theorem DataIs.r {X : Nat} {w : World} {dv : Value} {d : Str} (h : DataIs X w dv d) : DataR w dv d := by
  obtain ⟨A, c, rfl, hs, _⟩ := h
  exact ⟨A, c, rfl, hs⟩
/-- What a letter of a call's words is. -/
def fieldW (x : CallP) (c : UInt8) : List Str :=
  if c = 112 then [textP x.path]
  else if c = 111 then [textP x.other]
  else if c = 102 then [Lib.itoa x.file]
  else if c = 97 then [Lib.itoa x.at_]
  else if c = 115 then [Lib.itoa x.size]
  else if c = 100 then [textP x.data]
  else []
def wordsP (x : CallP) : List Str := (kindOf callT x.kind).word :: (kindOf callT x.kind).has.flatMap (fieldW x)
theorem ascii_kind {T : List KR} (h : (T.all fun r => asciiB r.has && decide (r.has.length ≤ 8)) = true) (k : Int) : asciiB (kindOf T k).has = true ∧ (kindOf T k).has.length ≤ 8 := by
  unfold kindOf
  cases hf : T.find? (fun r => r.k == k) with
  | none => exact ⟨rfl, by simp⟩
  | some q =>
    have := List.all_eq_true.1 h q (List.mem_of_find?_eq_some hf)
    rw [Bool.and_eq_true] at this
    exact ⟨this.1, of_decide_eq_true this.2⟩
theorem ascii_kc (k : Int) : asciiB (kindOf callT k).has = true ∧ (kindOf callT k).has.length ≤ 8 := ascii_kind (by decide +kernel) k
theorem ascii_ka (k : Int) : asciiB (kindOf actT k).has = true ∧ (kindOf actT k).has.length ≤ 8 := ascii_kind (by decide +kernel) k
theorem one_str : ∀ u ∈ (Value.string ⟨#[]⟩).cells.toList, u.oneCell' = true := by
  intro u hu
  have h : u = Value.string ⟨#[]⟩ := by simpa [Value.cells] using hu
  rw [h]
  rfl
theorem eltS : Elt Tryd.prog 43 9 1 16 := Elt.mk' (z := .string ⟨#[]⟩) (by kernel_rfl) (by kernel_rfl) (by kernel_rfl) one_str (by decide)
theorem strs_app (a b : List Str) : strs (a ++ b) = strs a ++ strs b := by simp [strs]
theorem strs_one (l : List Str) : ∀ u ∈ strs l, u.oneCell' = true := by
  intro u hu
  obtain ⟨s, _, rfl⟩ := List.mem_map.1 hu
  rfl
/-- Words that are being collected: the row's value, the block b0 of the argument, the iterator. -/
structure WI (b0 IT : Nat) (T : TypeId) (cs : Array Value) (has : Str) (w0 wr : World) (i : Nat) (out : List Str) (A : Option Addr) (c : Nat) : Prop where
  it : wr.heap[IT]? = some (.stringIter ⟨has.toArray⟩ i)
  le : i ≤ has.length
  own : wr.ownsRow 0 9 1 (.slice A out.length c) out.length (strs out)
  fresh : ∀ k, A.map (·.block) = some k → w0.heap.size ≤ k
  bx : wr.heap[b0]? = some (.cells cs T (0, 0))
  be : Below w0.heap.size w0 wr
structure WB (b0 IT B : Nat) (T : TypeId) (w0 : World) : Prop where
  b : w0.heap.size ≤ b0
  i : b0 < IT
  ty : T ≠ 9
theorem WI.row_ne {b0 IT : Nat} {T : TypeId} {cs : Array Value} {has : Str} {w0 wr : World} {i : Nat} {out : List Str} {A : Option Addr} {c : Nat} (h : WI b0 IT T cs has w0 wr i out A c) {k : Nat} {o : Obj} (hk : wr.heap[k]? = some o) (ho : ∀ cs, o ≠ .cells cs 9 (0, 0)) : ¬ A.map (·.block) = some k := by
  intro e
  obtain ⟨cur, hc⟩ := own_blk h.own (k := k) (by rw [ownBlock_slice]; exact e)
  rw [hk] at hc
  injection hc with hc
  exact ho _ hc
theorem WI.turn {b0 IT B : Nat} {T : TypeId} {cs : Array Value} {has : Str} {w0 wr : World} {i : Nat} {out : List Str} {A : Option Addr} {c : Nat} (L : WB b0 IT B T w0) (h : WI b0 IT T cs has w0 wr i out A c) (hi : i < has.length) :
    WI b0 IT T cs has w0 (wr.iterAt IT ⟨has.toArray⟩ (i + 1)) (i + 1) out A c := by
  have l1 := L.b; have l2 := L.i
  have hk : Keep (fun k => k = IT) wr (wr.iterAt IT ⟨has.toArray⟩ (i + 1)) := ⟨rfl, rfl, rfl, by rw [Lib.iterAt_size]; exact Nat.le_refl _, fun k _ hn => Lib.iterAt_other _ _ _ _ _ hn⟩
  have hne := h.row_ne h.it (fun cs e => by cases e)
  exact ⟨Lib.iterAt_heap _ _ _ _ _ h.it, hi, own_keep h.own hk (fun k e e2 => by subst e2; rw [ownBlock_slice] at e; exact hne e), h.fresh, hk.blk h.bx (fun e => by omega), h.be.trans (hk.below (fun k e => by omega) h.be.size)⟩
theorem WI.on {b0 IT : Nat} {T : TypeId} {cs : Array Value} {has : Str} {w0 wr W : World} {i : Nat} {out : List Str} {A : Option Addr} {c : Nat} (h : WI b0 IT T cs has w0 wr i out A c) (hk : Below wr.heap.size wr W) : WI b0 IT T cs has w0 W i out A c := by
  have k : Keep (fun _ => False) wr W := Keep.of_below hk
  exact ⟨k.blk h.it id, h.le, own_keep h.own k (fun _ _ h => h), h.fresh, k.blk h.bx id, h.be.trans (hk.mono h.be.size)⟩
theorem WI.app {b0 IT B : Nat} {T : TypeId} {cs : Array Value} {has : Str} {w0 wr W w4 : World} {i m : Nat} {out ys : List Str} {A A4 : Option Addr} {c c4 H : Nat} (L : WB b0 IT B T w0) (h : WI b0 IT T cs has w0 wr i out A c) (hW : Below wr.heap.size wr W) (hm : m = ys.length) (hH : wr.heap.size ≤ H)
    (g1 : w4.ownsRow 0 9 1 (.slice A4 (out.length + m) c4) (out.length + m) (strs out ++ strs ys)) (g2 : Keep (fun k => (Value.slice A out.length c).ownBlock = some k) W w4)
    (g3 : (Value.slice A4 (out.length + m) c4).ownBlock = (Value.slice A out.length c).ownBlock ∨ (Value.slice A4 (out.length + m) c4).ownBlock = some H) : WI b0 IT T cs has w0 w4 i (out ++ ys) A4 c4 := by
  subst hm
  have h1 := h.on hW
  have k2 : Keep (fun k => A.map (·.block) = some k) W w4 := g2.mono (fun k _ e => by rw [ownBlock_slice] at e; exact e)
  refine ⟨k2.blk h1.it (h1.row_ne h1.it (fun cs e => by cases e)), h.le, by rw [List.length_append, strs_app]; exact g1, fun k e => ?_, k2.blk h1.bx (h1.row_ne h1.bx (fun cs e => by injection e with _ e _; exact L.ty e)), h1.be.trans (k2.below (fun k e => h.fresh k e) h1.be.size)⟩
  rcases g3 with h3 | h3 <;> rw [ownBlock_slice] at h3
  · rw [ownBlock_slice] at h3
    exact h.fresh k (h3 ▸ e)
  · rw [e] at h3
    injection h3 with h3
    have := h.be.size
    omega
def WInv (x : CallP) (dv : Value) (b0 IT : Nat) (has : Str) (fin : List Str) (w0 : World) (v : Value) (wr : World) : Prop :=
  ∃ (i : Nat) (out : List Str) (A : Option Addr) (c : Nat), v = .slice A out.length c ∧ WI b0 IT 24 (x.cells dv) has w0 wr i out A c ∧ out ++ (has.drop i).flatMap (fieldW x) = fin
/-- A row of words of one's own, new. -/
def WordsPost (fin : List Str) (w : World) (e : Ending) (w' : World) : Prop := ∃ A c, e = .returned (.slice A fin.length c) ∧ w'.ownsRow 0 9 1 (.slice A fin.length c) fin.length (strs fin) ∧ (∀ k, A.map (·.block) = some k → w.heap.size ≤ k) ∧ Below w.heap.size w w'
/-- Behind the look at a table. -/
def KindAt (r : KR) (w0 wr : World) (v : Value) (wc : World) : Prop := ∃ b3, v = .pointer (some ⟨b3, 0, none⟩) ∧ wc.heap[b3]? = some (.cells #[.string ⟨r.word.toArray⟩, .string ⟨r.has.toArray⟩] 74 (0, 0)) ∧ Below wr.heap.size wr wc ∧ wr.heap.size ≤ b3
theorem KR.val_eq (r : KR) : r.val = .agg #[.string ⟨r.word.toArray⟩, .string ⟨r.has.toArray⟩] := rfl
def zero2A : Array Value := #[.string ⟨#[]⟩, .string ⟨#[]⟩]
theorem fieldW_len (x : CallP) (c : UInt8) : (fieldW x c).length ≤ 1 := by
  unfold fieldW
  repeat' split
  all_goals simp
theorem flat_len {α : Type} (g : α → List Str) (hg : ∀ c, (g c).length ≤ 1) : ∀ l : List α, (l.flatMap g).length ≤ l.length
  | [] => Nat.le_refl _
  | c :: l => by
    rw [List.flatMap_cons, List.length_append, List.length_cons]
    have := flat_len g hg l
    have := hg c
    omega
theorem wordsP_len (x : CallP) : (wordsP x).length ≤ 9 := by
  unfold wordsP
  have := flat_len (fieldW x) (fieldW_len x) (kindOf callT x.kind).has
  have := (ascii_kc x.kind).2
  rw [List.length_cons]
  omega
def Z2 : Obj := .cells #[.string ⟨#[]⟩, .string ⟨#[]⟩] 74
theorem look_way1 {T : List KR} {b W1 : World} {k : Int} (hk : (Lit.int .i64 k).wf = true) (hm1 : MapIs T ((b.alloc (.cells #[.string ⟨#[]⟩, .string ⟨#[]⟩] 74)).drew).heap.size W1) (hb1 : Below ((b.alloc (.cells #[.string ⟨#[]⟩, .string ⟨#[]⟩] 74)).drew).heap.size (b.alloc (.cells #[.string ⟨#[]⟩, .string ⟨#[]⟩] 74)).drew W1) :
    (Instr.lookup 75 (.map (some (b.heap.size + 1))) (.int .i64 k) false).run Tryd.prog W1 = .ok (.agg #[.string ⟨(kindOf T k).word.toArray⟩, .string ⟨(kindOf T k).has.toArray⟩]) W1 ∧
    (Instr.lookup 75 (.map (some (b.heap.size + 1))) (.int .i64 k) true).run Tryd.prog W1 = .ok (.tuple #[.agg #[.string ⟨(kindOf T k).word.toArray⟩, .string ⟨(kindOf T k).has.toArray⟩], .bool (hasK T k)]) W1 ∧
    W1.heap[b.heap.size]? = some (.cells #[.string ⟨#[]⟩, .string ⟨#[]⟩] 74 (0, 0)) ∧ Below b.heap.size b W1 := by
  have e : ((b.alloc (.cells #[.string ⟨#[]⟩, .string ⟨#[]⟩] 74)).drew).heap.size = b.heap.size + 1 := by simp
  rw [e] at hm1
  have hl := look_run hm1 k hk
  have hb2 : Below b.heap.size b (b.alloc (.cells #[.string ⟨#[]⟩, .string ⟨#[]⟩] 74)).drew := ((Below.refl b.heap.size b).alloc (Nat.le_refl _) _).drew
  refine ⟨hl.1, hl.2, ?_, hb2.trans (hb1.mono (by rw [e]; omega))⟩
  exact (Keep.of_below (S := fun _ => False) hb1).blk (o := .cells #[.string ⟨#[]⟩, .string ⟨#[]⟩] 74) (blk_new b _) id
theorem look_way2 {T : List KR} {b W1 : World} {k : Int} (hk : (Lit.int .i64 k).wf = true) (hm1 : MapIs T b.drew.heap.size W1) (hb1 : Below b.drew.heap.size b.drew W1) :
    (∀ W, Below W1.heap.size W1 W → (Instr.lookup 75 (.map (some b.heap.size)) (.int .i64 k) false).run Tryd.prog W = .ok (.agg #[.string ⟨(kindOf T k).word.toArray⟩, .string ⟨(kindOf T k).has.toArray⟩]) W ∧
    (Instr.lookup 75 (.map (some b.heap.size)) (.int .i64 k) true).run Tryd.prog W = .ok (.tuple #[.agg #[.string ⟨(kindOf T k).word.toArray⟩, .string ⟨(kindOf T k).has.toArray⟩], .bool (hasK T k)]) W) ∧ Below b.heap.size b W1 :=
  ⟨fun W hW => look_run (MapIs.below (b := b.heap.size) hm1 hW) k hk, ((Below.refl b.heap.size b).drew).trans hb1⟩
set_option maxRecDepth 100000 in
set_option maxHeartbeats 4000000 in
theorem words_walk {B : Nat} (x : CallP) (dv : Value) (w : World) (hx : CallOk x) (hw : WV B w) (hd : DataR w dv x.data) :
    Calls Tryd.prog 35 #[.agg (x.cells dv)] w (WordsPost (wordsP x) w) := by
  obtain ⟨DA, dc, rfl, hsl⟩ := hd
  have HSL := Lib.hid hsl
  have HX := Lib.hid hx
  have HV := Lib.hid hw
  obtain ⟨fin, hfin⟩ : ∃ fin, fin = wordsP x := ⟨_, rfl⟩
  rw [← hfin]
  have HFIN := Lib.hid hfin
  have hfl : fin.length ≤ 9 := by rw [hfin]; exact wordsP_len x
  obtain ⟨b, hb⟩ : ∃ b, b = w.alloc (.cells (x.cells (.slice DA x.data.length dc)) 24) := ⟨_, rfl⟩
  have hbx : b.heap[w.heap.size]? = some (.cells (x.cells (.slice DA x.data.length dc)) 24 (0, 0)) := by rw [hb]; exact blk_new w _
  have hbb : Below w.heap.size w b := by rw [hb]; exact (Below.refl _ w).alloc (Nat.le_refl _) _
  have HB := Lib.hid hbb
  have HBX := Lib.hid hbx
  have zb := blk_lt hbx
  have ck : b.cell? ⟨w.heap.size, 0, none⟩ = some (.int .i64 x.kind) := (blk_cells hbx 0).trans rfl
  unfold CallP.cells at hb ⊢
  have HBE := Lib.hid hb
  clear hsl hx hw hfin hb hbx hbb
  go_enter Tryd.func35, Tryd.ntmps35
  go_upto_region 1 with fail
  rw [← HBE.out]
  go_cut [3] (fun v wx => KindAt (kindOf callT x.kind) w b v wx)
  case first =>
    have ck2 : (b.alloc (.cells #[.string ⟨#[]⟩, .string ⟨#[]⟩] 74)).cell? ⟨w.heap.size, 0, none⟩ = some (.int .i64 x.kind) := ((Keep.refl (fun _ => False) b).alloc _).cell ck id
    have HZ := Lib.hid (blk_new b (.cells #[.string ⟨#[]⟩, .string ⟨#[]⟩] 74))
    go_region_law (first | (go_simp; go_at_call 36; (with_reducible refine (calls_walk (b.alloc (.cells #[.string ⟨#[]⟩, .string ⟨#[]⟩] 74)).drew).mono ?_); rintro e W1 ⟨rfl, hm1, hb1⟩; obtain ⟨hl1, _, hz, hbw⟩ := look_way1 HX.out.kind.wf hm1 hb1; have ck3 := (Keep.of_below (S := fun _ => False) hbw).cell ck id; have cz0 : W1.cell? ⟨b.heap.size, 0, none⟩ = some (.string ⟨#[]⟩) := (blk_cells hz 0).trans rfl; have cz1 : W1.cell? ⟨b.heap.size, 1, none⟩ = some (.string ⟨#[]⟩) := (blk_cells hz 1).trans rfl; have fz := blk_frees hz; have WAY := Lib.hid hz; have WAYB := Lib.hid hbw; clear hm1 hb1 hz hbw) | (go_simp; go_at_call 36; refine (calls_walk b.drew).mono ?_; rintro e W1 ⟨rfl, hm1, hb1⟩; obtain ⟨hl, hbw⟩ := look_way2 HX.out.kind.wf hm1 hb1; have ck3 := (Keep.of_below (S := fun _ => False) hbw).cell ck id; have ck4 : (W1.alloc (.cells #[.string ⟨#[]⟩, .string ⟨#[]⟩] 74)).cell? ⟨w.heap.size, 0, none⟩ = some (.int .i64 x.kind) := ((Keep.refl (fun _ => False) W1).alloc _).cell ck3 id; have hl1 := (hl W1 (Below.refl _ _)).1; have hl2 := (hl (W1.alloc (.cells #[.string ⟨#[]⟩, .string ⟨#[]⟩] 74)) ((Below.refl _ _).alloc (Nat.le_refl _) _)).1; have WAYB := Lib.hid hbw; clear hm1 hb1 hl hbw))
    all_goals
      go_wp2_with fail
      go_meet
      case rel => first | exact ⟨_, rfl, blk_new W1 _, WAYB.out.alloc WAYB.out.size _, WAYB.out.size⟩ | exact ⟨b.heap.size, rfl, blk_setL (blk_setL WAY.out _) _, (WAYB.out.setCell (Nat.le_refl _) _).setCell (Nat.le_refl _) _, Nat.le_refl _⟩
  case rest =>
    obtain ⟨b3, rfl, h3, hbw, hb3⟩ := hcut
    have hasc := (ascii_kc x.kind).1
    have hln := (ascii_kc x.kind).2
    obtain ⟨wd, hwd⟩ : ∃ wd, wd = (kindOf callT x.kind).word := ⟨_, rfl⟩
    obtain ⟨has, hhas⟩ : ∃ has, has = (kindOf callT x.kind).has := ⟨_, rfl⟩
    rw [← hwd, ← hhas] at h3
    rw [← hhas] at hasc hln
    have hfin : fin = [wd] ++ has.flatMap (fieldW x) := by rw [HFIN.out, hwd, hhas]; rfl
    have c30 : wc.cell? ⟨b3, 0, none⟩ = some (.string ⟨wd.toArray⟩) := (blk_cells h3 0).trans rfl
    have c31 : wc.cell? ⟨b3, 1, none⟩ = some (.string ⟨has.toArray⟩) := (blk_cells h3 1).trans rfl
    have c31b : (wc.alloc (.cells #[.string ⟨wd.toArray⟩] 9)).cell? ⟨b3, 1, none⟩ = some (.string ⟨has.toArray⟩) := ((Keep.refl (fun _ => False) wc).alloc _).cell c31 id
    have z3 := hbw.size
    have HASC := Lib.hid hasc
    have HBW := Lib.hid (HB.out.trans (hbw.mono (by omega)))
    have HCX := Lib.hid ((Keep.of_below (S := fun _ => False) hbw).blk HBX.out id)
    have L : WB w.heap.size (wc.heap.size + 1) B 24 w := ⟨Nat.le_refl _, by omega, by decide⟩
    have HST : Hid (WInv x (.slice DA x.data.length dc) w.heap.size (wc.heap.size + 1) has fin w (.slice (some ⟨wc.heap.size, 0, none⟩) 1 1) ((wc.alloc (.cells #[.string ⟨wd.toArray⟩] 9)).iter ⟨has.toArray⟩ 0)) := Lib.hid (by
      have e1 : (wc.alloc (.cells #[.string ⟨wd.toArray⟩] 9)).heap.size = wc.heap.size + 1 := by simp
      have b1 : Below wc.heap.size wc ((wc.alloc (.cells #[.string ⟨wd.toArray⟩] 9)).iter ⟨has.toArray⟩ 0) := ((Below.refl _ wc).alloc (Nat.le_refl _) _).alloc (by simp) _
      refine ⟨0, [wd], some ⟨wc.heap.size, 0, none⟩, 1, rfl, ⟨by rw [← e1]; exact World.iter_heap _ _ _, Nat.zero_le _, own_keep (own_new wc #[.string ⟨wd.toArray⟩] 9 1 1 rfl (by decide)) ((Keep.refl (fun _ => False) _).alloc _) (fun _ _ h => h), fun k e => ?_, (Keep.of_below (S := fun _ => False) b1).blk HCX.out id, HBW.out.trans (b1.mono (by omega))⟩, by rw [hfin]; rfl⟩
      injection e with e
      have e : wc.heap.size = k := e
      omega)
    have hV : wc.heap.size + 1 < 2 + wc.heap.size := by omega
    clear h3 hbw hasc hwd hhas hfin
    go_upto_region 4 with fail
    go_loopw [4] (fun v wr => WInv x (.slice DA x.data.length dc) w.heap.size (wc.heap.size + 1) has fin w v wr) (fun _ wr => has.length - wr.iterPos (wc.heap.size + 1))
    case atStart => exact HST.out
    case round =>
      obtain ⟨i, out, A, c0, rfl, hI, hf⟩ := hrel
      have HP := Lib.hid (iterPos_of hI.it)
      have HF := Lib.hid hf
      have HI := Lib.hid hI
      have hit := hI.it
      have hle := hI.le
      have hol : out.length ≤ 9 := by
        have := congrArg List.length hf
        rw [List.length_append] at this
        omega
      clear hf hI
      by_cases hlt : i < has.length
      · obtain ⟨c, hc⟩ : ∃ c, has[i]? = some c := ⟨has[i], List.getElem?_eq_getElem hlt⟩
        have hc2 : (⟨has.toArray⟩ : ByteArray)[i]'(show i < has.length from hlt) = c := (List.getElem?_eq_some_iff.1 hc).2
        have hasc2 := ascii_at HASC.out hc
        have hnx : ∀ ty, (Instr.next (.pointer (some ⟨wc.heap.size + 1, 0, none⟩)) true ty).run Tryd.prog wr = .ok (.tuple #[.bool true, .int .i64 i, .int .i32 (c.toNat : Int)]) (wr.iterAt (wc.heap.size + 1) ⟨has.toArray⟩ (i + 1)) := by
          intro ty
          have := Lib.run_next_ascii_at (P := Tryd.prog) wr (wc.heap.size + 1) ⟨has.toArray⟩ i ty hit (show i < has.length from hlt) (by rw [hc2]; exact hasc2)
          rw [hc2] at this
          exact this
        have hI1 := HI.out.turn L hlt
        obtain ⟨V, hV⟩ : ∃ V, V = wr.iterAt (wc.heap.size + 1) ⟨has.toArray⟩ (i + 1) := ⟨_, rfl⟩
        rw [← hV] at hnx hI1
        have I1 := Lib.hid hI1
        have HC := Lib.hid hc
        have HW1 := Lib.hid (HV.out.to (HI.out.be.mono HV.out.le))
        have HWV := Lib.hid (HV.out.below hI1.be)
        have HSV := Lib.hid (HSL.out.below hI1.be)
        have zV := hI1.be.size
        have hxp := HX.out.path
        have hxo := HX.out.other
        have hxd := HX.out.data
        have bX := blk_cells hI1.bx
        clear hV hI1 hc2 hc hit hasc2
        by_cases hcc : c = 112
        · subst hcc
          have HST := Lib.hid (show fieldW x 112 = [textP x.path] from rfl)
          have cX : V.cell? ⟨w.heap.size, 1, none⟩ = some (.string ⟨x.path.toArray⟩) := (bX 1).trans rfl
          clear bX
          have HW := Lib.hid (text_walk x.path V (by omega))
          obtain ⟨u0, hu0⟩ : ∃ u0, u0 = textP x.path := ⟨_, rfl⟩
          rw [← hu0] at HST HW
          clear hu0
          go_wp2_with fail
          refine HW.out.mono ?_
          rintro e V1 ⟨rfl, hb2⟩
          have I2 := Lib.hid (I1.out.on hb2)
          clear hb2
          go_wp2_with (at_builtin; go_must (refine wpList_app rfl eltS rfl rfl rfl (n := out.length) (m := 1) (own_keep I2.out.own ((Keep.refl (fun _ => False) _).alloc _) (fun _ _ h => h)) (Sl.of_own (own_new V1 #[.string ⟨u0.toArray⟩] 9 1 1 rfl (by decide))) (by simp [Value.oneCell']) (by omega) (by simp only [maxLen]; omega) ?_))
          intro v4 w4 g1 g2 g3 g4
          clear g4
          obtain ⟨A4, c4, rfl, _⟩ := Rd.of_own g1
          have I3 := Lib.hid (I2.out.app (ys := [u0]) L ((Below.refl _ V1).alloc (Nat.le_refl _) _) rfl (Nat.le_succ _) g1 g2 g3)
          clear g1 g2 g3
          go_wp2
          go_roundw
          case rel => exact ⟨i + 1, out ++ [u0], A4, c4, by rw [List.length_append]; rfl, I3.out, by have := HF.out; rw [drop_cons HC.out, List.flatMap_cons, HST.out, ← List.append_assoc] at this; exact this⟩
          case measure => rw [iterPos_of I3.out.it, HP.out]; omega
        have hn112 := u8_ne (k := 112) (by decide) hcc
        have HN112 := Lib.hid hcc
        clear hcc
        by_cases hcc : c = 111
        · subst hcc
          have HST := Lib.hid (show fieldW x 111 = [textP x.other] from rfl)
          have cX : V.cell? ⟨w.heap.size, 2, none⟩ = some (.string ⟨x.other.toArray⟩) := (bX 2).trans rfl
          clear bX
          have HW := Lib.hid (text_walk x.other V (by omega))
          obtain ⟨u0, hu0⟩ : ∃ u0, u0 = textP x.other := ⟨_, rfl⟩
          rw [← hu0] at HST HW
          clear hu0
          go_wp2_with fail
          refine HW.out.mono ?_
          rintro e V1 ⟨rfl, hb2⟩
          have I2 := Lib.hid (I1.out.on hb2)
          clear hb2
          go_wp2_with (at_builtin; go_must (refine wpList_app rfl eltS rfl rfl rfl (n := out.length) (m := 1) (own_keep I2.out.own ((Keep.refl (fun _ => False) _).alloc _) (fun _ _ h => h)) (Sl.of_own (own_new V1 #[.string ⟨u0.toArray⟩] 9 1 1 rfl (by decide))) (by simp [Value.oneCell']) (by omega) (by simp only [maxLen]; omega) ?_))
          intro v4 w4 g1 g2 g3 g4
          clear g4
          obtain ⟨A4, c4, rfl, _⟩ := Rd.of_own g1
          have I3 := Lib.hid (I2.out.app (ys := [u0]) L ((Below.refl _ V1).alloc (Nat.le_refl _) _) rfl (Nat.le_succ _) g1 g2 g3)
          clear g1 g2 g3
          go_wp2
          go_roundw
          case rel => exact ⟨i + 1, out ++ [u0], A4, c4, by rw [List.length_append]; rfl, I3.out, by have := HF.out; rw [drop_cons HC.out, List.flatMap_cons, HST.out, ← List.append_assoc] at this; exact this⟩
          case measure => rw [iterPos_of I3.out.it, HP.out]; omega
        have hn111 := u8_ne (k := 111) (by decide) hcc
        have HN111 := Lib.hid hcc
        clear hcc
        by_cases hcc : c = 102
        · subst hcc
          have HST := Lib.hid (show fieldW x 102 = [Lib.itoa x.file] from rfl)
          have cX : V.cell? ⟨w.heap.size, 3, none⟩ = some (.int .i64 x.file) := (bX 3).trans rfl
          clear bX
          have HW := Lib.hid (itoa_any x.file HX.out.file.1 HX.out.file.2 V HWV.out)
          obtain ⟨u0, hu0⟩ : ∃ u0, u0 = Lib.itoa x.file := ⟨_, rfl⟩
          rw [← hu0] at HST HW
          clear hu0
          go_wp2_with fail
          refine HW.out.mono ?_
          rintro e V1 ⟨rfl, hb2⟩
          have I2 := Lib.hid (I1.out.on hb2)
          clear hb2
          go_wp2_with (at_builtin; go_must (refine wpList_app rfl eltS rfl rfl rfl (n := out.length) (m := 1) (own_keep I2.out.own ((Keep.refl (fun _ => False) _).alloc _) (fun _ _ h => h)) (Sl.of_own (own_new V1 #[.string ⟨u0.toArray⟩] 9 1 1 rfl (by decide))) (by simp [Value.oneCell']) (by omega) (by simp only [maxLen]; omega) ?_))
          intro v4 w4 g1 g2 g3 g4
          clear g4
          obtain ⟨A4, c4, rfl, _⟩ := Rd.of_own g1
          have I3 := Lib.hid (I2.out.app (ys := [u0]) L ((Below.refl _ V1).alloc (Nat.le_refl _) _) rfl (Nat.le_succ _) g1 g2 g3)
          clear g1 g2 g3
          go_wp2
          go_roundw
          case rel => exact ⟨i + 1, out ++ [u0], A4, c4, by rw [List.length_append]; rfl, I3.out, by have := HF.out; rw [drop_cons HC.out, List.flatMap_cons, HST.out, ← List.append_assoc] at this; exact this⟩
          case measure => rw [iterPos_of I3.out.it, HP.out]; omega
        have hn102 := u8_ne (k := 102) (by decide) hcc
        have HN102 := Lib.hid hcc
        clear hcc
        by_cases hcc : c = 97
        · subst hcc
          have HST := Lib.hid (show fieldW x 97 = [Lib.itoa x.at_] from rfl)
          have cX : V.cell? ⟨w.heap.size, 4, none⟩ = some (.int .i64 x.at_) := (bX 4).trans rfl
          clear bX
          have HW := Lib.hid (itoa_any x.at_ HX.out.at_.1 HX.out.at_.2 V HWV.out)
          obtain ⟨u0, hu0⟩ : ∃ u0, u0 = Lib.itoa x.at_ := ⟨_, rfl⟩
          rw [← hu0] at HST HW
          clear hu0
          go_wp2_with fail
          refine HW.out.mono ?_
          rintro e V1 ⟨rfl, hb2⟩
          have I2 := Lib.hid (I1.out.on hb2)
          clear hb2
          go_wp2_with (at_builtin; go_must (refine wpList_app rfl eltS rfl rfl rfl (n := out.length) (m := 1) (own_keep I2.out.own ((Keep.refl (fun _ => False) _).alloc _) (fun _ _ h => h)) (Sl.of_own (own_new V1 #[.string ⟨u0.toArray⟩] 9 1 1 rfl (by decide))) (by simp [Value.oneCell']) (by omega) (by simp only [maxLen]; omega) ?_))
          intro v4 w4 g1 g2 g3 g4
          clear g4
          obtain ⟨A4, c4, rfl, _⟩ := Rd.of_own g1
          have I3 := Lib.hid (I2.out.app (ys := [u0]) L ((Below.refl _ V1).alloc (Nat.le_refl _) _) rfl (Nat.le_succ _) g1 g2 g3)
          clear g1 g2 g3
          go_wp2
          go_roundw
          case rel => exact ⟨i + 1, out ++ [u0], A4, c4, by rw [List.length_append]; rfl, I3.out, by have := HF.out; rw [drop_cons HC.out, List.flatMap_cons, HST.out, ← List.append_assoc] at this; exact this⟩
          case measure => rw [iterPos_of I3.out.it, HP.out]; omega
        have hn97 := u8_ne (k := 97) (by decide) hcc
        have HN97 := Lib.hid hcc
        clear hcc
        by_cases hcc : c = 115
        · subst hcc
          have HST := Lib.hid (show fieldW x 115 = [Lib.itoa x.size] from rfl)
          have cX : V.cell? ⟨w.heap.size, 5, none⟩ = some (.int .i64 x.size) := (bX 5).trans rfl
          clear bX
          have HW := Lib.hid (itoa_any x.size HX.out.size.1 HX.out.size.2 V HWV.out)
          obtain ⟨u0, hu0⟩ : ∃ u0, u0 = Lib.itoa x.size := ⟨_, rfl⟩
          rw [← hu0] at HST HW
          clear hu0
          go_wp2_with fail
          refine HW.out.mono ?_
          rintro e V1 ⟨rfl, hb2⟩
          have I2 := Lib.hid (I1.out.on hb2)
          clear hb2
          go_wp2_with (at_builtin; go_must (refine wpList_app rfl eltS rfl rfl rfl (n := out.length) (m := 1) (own_keep I2.out.own ((Keep.refl (fun _ => False) _).alloc _) (fun _ _ h => h)) (Sl.of_own (own_new V1 #[.string ⟨u0.toArray⟩] 9 1 1 rfl (by decide))) (by simp [Value.oneCell']) (by omega) (by simp only [maxLen]; omega) ?_))
          intro v4 w4 g1 g2 g3 g4
          clear g4
          obtain ⟨A4, c4, rfl, _⟩ := Rd.of_own g1
          have I3 := Lib.hid (I2.out.app (ys := [u0]) L ((Below.refl _ V1).alloc (Nat.le_refl _) _) rfl (Nat.le_succ _) g1 g2 g3)
          clear g1 g2 g3
          go_wp2
          go_roundw
          case rel => exact ⟨i + 1, out ++ [u0], A4, c4, by rw [List.length_append]; rfl, I3.out, by have := HF.out; rw [drop_cons HC.out, List.flatMap_cons, HST.out, ← List.append_assoc] at this; exact this⟩
          case measure => rw [iterPos_of I3.out.it, HP.out]; omega
        have hn115 := u8_ne (k := 115) (by decide) hcc
        have HN115 := Lib.hid hcc
        clear hcc
        by_cases hcc : c = 100
        · subst hcc
          have HST := Lib.hid (show fieldW x 100 = [textP x.data] from rfl)
          have cX : V.cell? ⟨w.heap.size, 6, none⟩ = some (.slice DA x.data.length dc) := (bX 6).trans rfl
          have kc := run_conv_bytes (P := Tryd.prog) V Tryd.underlying22 Tryd.underlying5 Tryd.underlying9 HSV.out
          clear bX
          have HW := Lib.hid (text_walk x.data V (by omega))
          obtain ⟨u0, hu0⟩ : ∃ u0, u0 = textP x.data := ⟨_, rfl⟩
          rw [← hu0] at HST HW
          clear hu0
          go_wp2_with fail
          refine HW.out.mono ?_
          rintro e V1 ⟨rfl, hb2⟩
          have I2 := Lib.hid (I1.out.on hb2)
          clear hb2
          go_wp2_with (at_builtin; go_must (refine wpList_app rfl eltS rfl rfl rfl (n := out.length) (m := 1) (own_keep I2.out.own ((Keep.refl (fun _ => False) _).alloc _) (fun _ _ h => h)) (Sl.of_own (own_new V1 #[.string ⟨u0.toArray⟩] 9 1 1 rfl (by decide))) (by simp [Value.oneCell']) (by omega) (by simp only [maxLen]; omega) ?_))
          intro v4 w4 g1 g2 g3 g4
          clear g4
          obtain ⟨A4, c4, rfl, _⟩ := Rd.of_own g1
          have I3 := Lib.hid (I2.out.app (ys := [u0]) L ((Below.refl _ V1).alloc (Nat.le_refl _) _) rfl (Nat.le_succ _) g1 g2 g3)
          clear g1 g2 g3
          go_wp2
          go_roundw
          case rel => exact ⟨i + 1, out ++ [u0], A4, c4, by rw [List.length_append]; rfl, I3.out, by have := HF.out; rw [drop_cons HC.out, List.flatMap_cons, HST.out, ← List.append_assoc] at this; exact this⟩
          case measure => rw [iterPos_of I3.out.it, HP.out]; omega
        have hn100 := u8_ne (k := 100) (by decide) hcc
        have HN100 := Lib.hid hcc
        clear hcc
        have HST := Lib.hid (show fieldW x c = [] by unfold fieldW; rw [if_neg HN112.out, if_neg HN111.out, if_neg HN102.out, if_neg HN97.out, if_neg HN115.out, if_neg HN100.out])
        go_wp2
        go_roundw
        case rel => exact ⟨i + 1, out, A, c0, rfl, I1.out, by have := HF.out; rw [drop_cons HC.out, List.flatMap_cons, HST.out, List.nil_append] at this; exact this⟩
        case measure => rw [iterPos_of I1.out.it, HP.out]; omega
      · obtain rfl : i = has.length := by omega
        have hnx : ∀ ty, (Instr.next (.pointer (some ⟨wc.heap.size + 1, 0, none⟩)) true ty).run Tryd.prog wr = .ok (.tuple #[.bool false]) wr := fun ty => Lib.run_next_end_at (P := Tryd.prog) wr (wc.heap.size + 1) ⟨has.toArray⟩ has.length ty hit (show ¬ has.length < has.length by omega)
        have HE : Hid (out = fin) := Lib.hid (by have := HF.out; rw [List.drop_length, List.flatMap_nil, List.append_nil] at this; exact this)
        clear hit hle
        go_wp2
        go_ret
        rw [← HE.out]
        exact ⟨A, c0, rfl, HI.out.own, HI.out.fresh, HI.out.be⟩
end Go.Proofs.YtpdnfcgdcndhpaaDoor
