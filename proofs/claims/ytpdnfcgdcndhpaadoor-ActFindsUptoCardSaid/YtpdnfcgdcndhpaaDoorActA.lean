/- A call as a list of words: what the words of a call are, read (the reader's call). -/
import Derived.Test.YtpdnfcgdcndhpaaDoorAct9
import Derived.Lib.OthersKept
import Derived.Laws.RangeAny
set_option linter.unusedSimpArgs false
set_option linter.unusedVariables false
namespace Go.Proofs.YtpdnfcgdcndhpaaDoor
open Go.RowKit

structure CallP where
  kind : Int
  path : Str
  other : Str
  file : Int
  at_ : Int
  size : Int
  data : Str
deriving DecidableEq
def CallP.new (k : Int) : CallP := ⟨k, [], [], 0, 0, 0, []⟩
def CallP.cells (x : CallP) (dv : Value) : Array Value := #[.int .i64 x.kind, .string ⟨x.path.toArray⟩, .string ⟨x.other.toArray⟩, .int .i64 x.file, .int .i64 x.at_, .int .i64 x.size, dv]
/-- A letter of what a call has: the next word is taken. -/
def stepC (p : CallP × List Str) (c : UInt8) : CallP × List Str :=
  if c = 112 then ({ p.1 with path := untextP (p.2.headD []) }, p.2.tail)
  else if c = 111 then ({ p.1 with other := untextP (p.2.headD []) }, p.2.tail)
  else if c = 102 then ({ p.1 with file := numP (p.2.headD []) }, p.2.tail)
  else if c = 97 then ({ p.1 with at_ := numP (p.2.headD []) }, p.2.tail)
  else if c = 115 then ({ p.1 with size := numP (p.2.headD []) }, p.2.tail)
  else if c = 100 then ({ p.1 with data := untextP (p.2.headD []) }, p.2.tail)
  else p
def callR (ws : List Str) : CallP × List Str :=
  (findP callT (ws.headD [])).has.foldl stepC (CallP.new (findP callT (ws.headD [])).k, ws.tail)
/-- Bytes behind block X. -/
def DataIs (X : Nat) (w : World) (dv : Value) (d : Str) : Prop := ∃ A c, dv = .slice A d.length c ∧ Sl w 1 (.slice A d.length c) d.length (bv d) ∧ ∀ k, A.map (·.block) = some k → X < k ∧ ∃ cs fr, w.heap[k]? = some (.cells cs 5 fr)
theorem DataIs.keep' {S : Nat → Prop} {X : Nat} {w w' : World} {dv : Value} {d : Str} (h : DataIs X w dv d) (hk : Keep S w w') (hS : ∀ k cs fr, X < k → w.heap[k]? = some (.cells cs 5 fr) → ¬ S k) : DataIs X w' dv d := by
  obtain ⟨A, c, rfl, hs, hA⟩ := h
  refine ⟨A, c, rfl, hs.keep hk (fun k e _ => ?_), fun k e => ?_⟩
  · obtain ⟨h1, cs, fr, h2⟩ := hA k (by rw [ownBlock_slice] at e; exact e)
    exact hS k cs fr h1 h2
  · obtain ⟨h1, cs, fr, h2⟩ := hA k e
    exact ⟨h1, cs, fr, hk.blk h2 (hS k cs fr h1 h2)⟩
theorem DataIs.keep {S : Nat → Prop} {X : Nat} {w w' : World} {dv : Value} {d : Str} (h : DataIs X w dv d) (hk : Keep S w w') (hS : ∀ k, S k → k ≤ X) : DataIs X w' dv d :=
  h.keep' hk (fun k _ _ h1 _ h2 => by have := hS k h2; omega)
theorem DataIs.mono {Y Y' : Nat} {w : World} {dv : Value} {d : Str} (h : DataIs Y w dv d) (hY : Y' ≤ Y) : DataIs Y' w dv d := by
  obtain ⟨A, c, rfl, hs, hA⟩ := h
  exact ⟨A, c, rfl, hs, fun k e => ⟨Nat.lt_of_le_of_lt hY (hA k e).1, (hA k e).2⟩⟩
theorem DataIs.nil (X : Nat) (w : World) : DataIs X w (.slice none 0 0) [] := ⟨none, 0, rfl, ⟨none, 0, rfl, .inl rfl, fun _ => ⟨rfl, rfl⟩, Nat.le_refl _, rfl⟩, by simp⟩
theorem DataIs.conv (X : Nat) (w : World) (s : Str) (h : X < w.heap.size) : DataIs X (Lib.bytesWorld w 5 ⟨s.toArray⟩) (.slice (some ⟨w.heap.size, 0, none⟩) s.length (grownCap w s.length 0 5)) s := by
  refine ⟨_, _, rfl, ⟨_, _, rfl, .inr ⟨_, rfl, fun j u hu => ?_⟩, fun e => (by cases e), ?_, by simp [bv]⟩, fun k e => ?_⟩
  · have hj : j < s.length := by
      have := (List.getElem?_eq_some_iff.1 hu).1
      simpa [bv] using this
    rw [Addr.add_lit, Nat.zero_add]
    have := Lib.bytesWorld_cell w 5 ⟨s.toArray⟩ j hj
    rw [this]
    simp only [bv, List.getElem?_map, List.getElem?_eq_getElem hj, Option.map_some] at hu
    rw [← hu]
    simp [List.getD, List.getElem?_eq_getElem hj]
  · exact grownCap_ge _ _ _ _
  · injection e with e
    have e : w.heap.size = k := e
    subst e
    exact ⟨h, _, _, Lib.bytesWorld_at_new w _ _⟩
/-- The longest of some words. -/
def Short (ws : List Str) : Prop := ∀ s ∈ ws, s.length ≤ 4000000000000
theorem Short.head {ws : List Str} (h : Short ws) : (ws.headD []).length ≤ 4000000000000 := by
  cases ws with
  | nil => simp
  | cons a l => exact h a (by simp)
theorem Short.tail {ws : List Str} (h : Short ws) : Short ws.tail := fun s hs => h s (List.mem_of_mem_tail hs)
/-- The loop over the letters: the reader r, the result's block R, the value's block X, the iterator IT. -/
structure LoopI (r R X IT B : Nat) (T : TypeId) (Z : Array Value) (has : Str) (w0 wr : World) (i : Nat) (cs : Array Value) (ws : List Str) : Prop where
  it : wr.heap[IT]? = some (.stringIter ⟨has.toArray⟩ i)
  le : i ≤ has.length
  rd : RDs r ws wr
  sh : Short ws
  bx : wr.heap[X]? = some (.cells cs T (0, 0))
  br : wr.heap[R]? = some (.cells Z T (0, 0))
  kp : Keep (fun k => k = r) w0 wr
  wv : WV B wr
/-- Where the blocks lie. -/
structure LoopB (r R X IT B : Nat) (T : TypeId) (w0 : World) : Prop where
  r0 : r < w0.heap.size
  br : B ≤ r
  r1 : w0.heap.size ≤ R
  rx : R < X
  xi : IT = X + 1
  ty : T ≠ 9
theorem LoopI.turn {r R X IT B : Nat} {T : TypeId} {Z cs : Array Value} {has : Str} {w0 wr : World} {i : Nat} {ws : List Str} (L : LoopB r R X IT B T w0) (h : LoopI r R X IT B T Z has w0 wr i cs ws) (hi : i < has.length) :
    LoopI r R X IT B T Z has w0 (wr.iterAt IT ⟨has.toArray⟩ (i + 1)) (i + 1) cs ws ∧ Keep (fun k => k = IT) wr (wr.iterAt IT ⟨has.toArray⟩ (i + 1)) := by
  have l1 := L.r0; have l2 := L.br; have l3 := L.r1; have l4 := L.rx; have l5 := L.xi
  have hk : Keep (fun k => k = IT) wr (wr.iterAt IT ⟨has.toArray⟩ (i + 1)) := ⟨rfl, rfl, rfl, by rw [Lib.iterAt_size]; exact Nat.le_refl _, fun k _ hn => Lib.iterAt_other _ _ _ _ _ hn⟩
  have hit := h.it
  refine ⟨⟨Lib.iterAt_heap _ _ _ _ _ hit, hi, h.rd.keep hk (fun e => by omega) (fun b cs fr hb e => by rw [e, hit] at hb; cases hb), h.sh, hk.blk h.bx (fun e => by omega), hk.blk h.br (fun e => by omega), h.kp.trans hk (fun k hk e => by omega), h.wv.keep hk (fun k e => by omega)⟩, hk⟩
theorem LoopI.on {r R X IT B : Nat} {T : TypeId} {Z cs : Array Value} {has : Str} {w0 wr W : World} {i : Nat} {ws ws' : List Str} (L : LoopB r R X IT B T w0) (h : LoopI r R X IT B T Z has w0 wr i cs ws) (hk : Keep (fun k => k = r) wr W) (hrd : RDs r ws' W) (hsh : Short ws') :
    LoopI r R X IT B T Z has w0 W i cs ws' := by
  have l1 := L.r0; have l2 := L.br; have l3 := L.r1; have l4 := L.rx; have l5 := L.xi
  exact ⟨hk.blk h.it (fun e => by omega), h.le, hrd, hsh, hk.blk h.bx (fun e => by omega), hk.blk h.br (fun e => by omega), h.kp.trans hk (fun _ _ h => h), h.wv.keep hk (fun k e => by omega)⟩
theorem LoopI.set {r R X IT B : Nat} {T : TypeId} {Z cs : Array Value} {has : Str} {w0 wr : World} {i : Nat} {ws : List Str} (L : LoopB r R X IT B T w0) (h : LoopI r R X IT B T Z has w0 wr i cs ws) (j : Nat) (v : Value) :
    LoopI r R X IT B T Z has w0 (wr.setCell ⟨X, j, none⟩ v) i (cs.setIfInBounds j v) ws ∧ Keep (fun k => k = X) wr (wr.setCell ⟨X, j, none⟩ v) := by
  have l1 := L.r0; have l2 := L.br; have l3 := L.r1; have l4 := L.rx; have l5 := L.xi
  have hk : Keep (fun k => k = X) wr (wr.setCell ⟨X, j, none⟩ v) := (Keep.refl (fun k => k = X) wr).setCell (fun _ => rfl) v
  refine ⟨⟨hk.blk h.it (fun e => by omega), h.le, h.rd.keep hk (fun e => by omega) (fun b cs' fr hb e => by
    subst e
    rw [h.bx] at hb
    injection hb with hb
    injection hb with _ hb _
    exact L.ty hb), h.sh, blk_set h.bx v, hk.blk h.br (fun e => by omega), h.kp.trans hk (fun k hk e => by omega), h.wv.keep hk (fun k e => by omega)⟩, hk⟩
theorem iterPos_of {w : World} {k i : Nat} {s : ByteArray} (h : w.heap[k]? = some (.stringIter s i)) : w.iterPos k = i := by simp [World.iterPos, h]
def CallInv (r R X IT B : Nat) (has : Str) (fin : CallP × List Str) (w0 wr : World) : Prop :=
  ∃ (i : Nat) (x : CallP) (ws : List Str) (dv : Value), LoopI r R X IT B 24 ((CallP.new 0).cells (.slice none 0 0)) has w0 wr i (x.cells dv) ws ∧ (has.drop i).foldl stepC (x, ws) = fin ∧ DataIs (X + 1) wr dv x.data
def CallPost (r : Nat) (fin : CallP × List Str) (w : World) (e : Ending) (w' : World) : Prop := ∃ dv, e = .returned (.agg (fin.1.cells dv)) ∧ DataIs w.heap.size w' dv fin.1.data ∧ RDs r fin.2 w' ∧ Short fin.2 ∧ Keep (fun k => k = r) w w'
def set7 (w : World) (R : Nat) (v0 v1 v2 v3 v4 v5 v6 : Value) : World := ((((((w.setCell ⟨R, 0, none⟩ v0).setCell ⟨R, 1, none⟩ v1).setCell ⟨R, 2, none⟩ v2).setCell ⟨R, 3, none⟩ v3).setCell ⟨R, 4, none⟩ v4).setCell ⟨R, 5, none⟩ v5).setCell ⟨R, 6, none⟩ v6
theorem blk_setL {w : World} {R j : Nat} {T : TypeId} {l : List Value} (h : w.heap[R]? = some (.cells l.toArray T (0, 0))) (v : Value) : (w.setCell ⟨R, j, none⟩ v).heap[R]? = some (.cells (l.set j v).toArray T (0, 0)) := by
  rw [blk_set h, List.setIfInBounds_toArray]
theorem set7_blk {w : World} {R : Nat} {T : TypeId} {z0 z1 z2 z3 z4 z5 z6 : Value} (h : w.heap[R]? = some (.cells #[z0, z1, z2, z3, z4, z5, z6] T (0, 0))) (v0 v1 v2 v3 v4 v5 v6 : Value) :
    (set7 w R v0 v1 v2 v3 v4 v5 v6).heap[R]? = some (.cells #[v0, v1, v2, v3, v4, v5, v6] T (0, 0)) :=
  blk_setL (blk_setL (blk_setL (blk_setL (blk_setL (blk_setL (blk_setL h v0) v1) v2) v3) v4) v5) v6
theorem set7_keep (w : World) (R : Nat) (v0 v1 v2 v3 v4 v5 v6 : Value) : Keep (fun k => k = R) w (set7 w R v0 v1 v2 v3 v4 v5 v6) :=
  (((((((Keep.refl (fun k => k = R) w).setCell (fun _ => rfl) v0).setCell (fun _ => rfl) v1).setCell (fun _ => rfl) v2).setCell (fun _ => rfl) v3).setCell (fun _ => rfl) v4).setCell (fun _ => rfl) v5).setCell (fun _ => rfl) v6
def asciiB (l : Str) : Bool := l.all fun c => decide (c.toNat < 128)
theorem ascii_call (s : Str) : asciiB (findP callT s).has = true := by
  have h : (callT.all fun r => asciiB r.has) = true := by decide +kernel
  unfold findP
  cases hf : callT.find? (fun r => r.word == s) with
  | none => rfl
  | some q => exact List.all_eq_true.1 h q (List.mem_of_find?_eq_some hf)
theorem ascii_at {l : Str} (h : asciiB l = true) {i : Nat} {x : UInt8} (hx : l[i]? = some x) : x.toNat < 128 := of_decide_eq_true (List.all_eq_true.1 h x (List.mem_of_getElem? hx))
theorem u8_ne {x : UInt8} {k : Nat} (hk : k < 256) (h : x ≠ UInt8.ofNat k) : ((x.toNat : Int) == (k : Int)) = false := by
  refine beq_eq_false_iff_ne.2 (fun e => h (UInt8.toNat_inj.1 ?_))
  rw [UInt8.toNat_ofNat']
  omega
set_option maxRecDepth 100000 in
set_option maxHeartbeats 4000000 in
theorem call_walk {B : Nat} (r : Nat) (ws : List Str) (w : World) (h : RDs r ws w) (hw : WV B w) (hr : B ≤ r) (hs : Short ws) :
    Calls Tryd.prog 42 #[.pointer (some ⟨r, 0, none⟩)] w (CallPost r (callR ws) w) := by
  obtain ⟨fin, hfin⟩ : ∃ fin, fin = callR ws := ⟨_, rfl⟩
  rw [← hfin]
  have HFIN := Lib.hid hfin
  clear hfin
  have hrl : r < w.heap.size := by
    obtain ⟨_, _, _, hb, _⟩ := h
    exact blk_lt hb
  have HR := Lib.hid h
  have HV := Lib.hid hw
  have HS := Lib.hid hs
  clear h hw hs
  go_enter Tryd.func42, Tryd.ntmps42
  go_wp2_with fail
  obtain ⟨W0, hW0⟩ : ∃ W0, W0 = w.alloc (.cells #[.int .i64 0, .string ⟨#[]⟩, .string ⟨#[]⟩, .int .i64 0, .int .i64 0, .int .i64 0, .slice none 0 0] 24) := ⟨_, rfl⟩
  have hb0 : Below w.heap.size w W0 := by rw [hW0]; exact (Below.refl _ w).alloc (Nat.le_refl _) _
  have hR0 : W0.heap[w.heap.size]? = some (.cells #[.int .i64 0, .string ⟨#[]⟩, .string ⟨#[]⟩, .int .i64 0, .int .i64 0, .int .i64 0, .slice none 0 0] 24 (0, 0)) := by rw [hW0]; exact blk_new w _
  rw [← hW0]
  have B0 := Lib.hid hb0
  have C0 := Lib.hid hR0
  have z0 := blk_lt hR0
  clear hW0 hb0 hR0
  refine (calls_walk W0).mono ?_
  rintro e W1 ⟨rfl, hm1, hb1⟩
  have M1 := Lib.hid hm1
  have B1 := Lib.hid hb1
  have z1 := hb1.size
  have HW := Lib.hid (word_walk r ws W1 ((HR.out.below B0.out).below hb1))
  obtain ⟨x0, hx0⟩ : ∃ x0, x0 = ws.headD [] := ⟨_, rfl⟩
  rw [← hx0] at HW
  have HX0 := Lib.hid hx0
  clear hm1 hb1 hx0
  go_wp2_with fail
  refine HW.out.mono ?_
  rintro e W2 ⟨rfl, hr2, hk2⟩
  have hbr : W0.heap.size ≠ r := by omega
  have R2 := Lib.hid hr2
  have K2 := Lib.hid hk2
  have z2 := hk2.size
  have HF := Lib.hid (find_walk callT good_call W0.heap.size x0 W2 (M1.out.keep hk2 (fun e => hbr e)))
  clear hr2 hk2 HW
  go_wp2_with fail
  refine HF.out.mono ?_
  rintro e W3 ⟨rfl, hb3⟩
  have R3 := Lib.hid (R2.out.below hb3)
  have z3 := hb3.size
  have K3 : Hid (Keep (fun k => k = r) w W3) := Lib.hid (((((Keep.of_below (S := fun k => k = r) B0.out).trans (Keep.of_below (S := fun k => k = r) B1.out) (fun _ _ h => h)).trans K2.out (fun _ _ h => h))).trans (Keep.of_below (S := fun k => k = r) hb3) (fun _ _ h => h))
  have C3 : Hid (W3.heap[w.heap.size]? = some (.cells #[.int .i64 0, .string ⟨#[]⟩, .string ⟨#[]⟩, .int .i64 0, .int .i64 0, .int .i64 0, .slice none 0 0] 24 (0, 0))) := Lib.hid ((Keep.of_below (S := fun k => k = r) hb3).blk (K2.out.blk ((Keep.of_below (S := fun k => k = r) B1.out).blk C0.out (fun e => by omega)) (fun e => by omega)) (fun e => by omega))
  clear hb3 HF
  obtain ⟨k0, hk0⟩ : ∃ k0, k0 = (findP callT x0).k := ⟨_, rfl⟩
  obtain ⟨has, hhas⟩ : ∃ has, has = (findP callT x0).has := ⟨_, rfl⟩
  rw [← hk0, ← hhas]
  have HK0 := Lib.hid hk0
  have HHAS := Lib.hid hhas
  clear hk0 hhas
  go_upto_region 4 with fail
  obtain ⟨X, hX⟩ : ∃ X, X = W3.heap.size := ⟨_, rfl⟩
  have L : LoopB r w.heap.size X (X + 1) B 24 w := ⟨hrl, hr, Nat.le_refl _, by omega, rfl, by decide⟩
  have hasc : asciiB has = true := by rw [HHAS.out]; exact ascii_call _
  have HASC := Lib.hid hasc
  have hfin : fin = has.foldl stepC (CallP.new k0, ws.tail) := by rw [HFIN.out, HHAS.out, HK0.out, HX0.out]; rfl
  have hstart : CallInv r w.heap.size X (X + 1) B has fin w ((W3.alloc (.cells #[.int .i64 k0, .string ⟨#[]⟩, .string ⟨#[]⟩, .int .i64 0, .int .i64 0, .int .i64 0, .slice none 0 0] 24)).iter ⟨has.toArray⟩ 0) := by
    have e1 : (W3.alloc (.cells #[.int .i64 k0, .string ⟨#[]⟩, .string ⟨#[]⟩, .int .i64 0, .int .i64 0, .int .i64 0, .slice none 0 0] 24)).heap.size = X + 1 := by simp [hX]
    have b1 : Below W3.heap.size W3 ((W3.alloc (.cells #[.int .i64 k0, .string ⟨#[]⟩, .string ⟨#[]⟩, .int .i64 0, .int .i64 0, .int .i64 0, .slice none 0 0] 24)).iter ⟨has.toArray⟩ 0) := ((Below.refl _ W3).alloc (Nat.le_refl _) _).alloc (by simp) _
    have k1 : Keep (fun k => k = r) W3 _ := Keep.of_below b1
    refine ⟨0, CallP.new k0, ws.tail, .slice none 0 0, ⟨by rw [← e1]; exact World.iter_heap _ _ _, Nat.zero_le _, R3.out.below b1, HS.out.tail, ?_, k1.blk C3.out (fun e => by omega), K3.out.trans k1 (fun _ _ h => h), (HV.out.keep K3.out (fun k e => by omega)).below b1⟩, by rw [hfin]; rfl, DataIs.nil _ _⟩
    rw [hX]
    exact blk_old (blk_new W3 _) _
  have HST := Lib.hid hstart
  have hrX : r < X := by omega
  rw [← hX]
  clear hstart hX hfin hasc R3 K3 C3 HX0 HK0 HHAS
  go_loopw [7] (fun _ wr => CallInv r w.heap.size X (X + 1) B has fin w wr) (fun _ wr => has.length - wr.iterPos (X + 1))
  case atStart => exact HST.out
  case round =>
    obtain ⟨i, x, ws1, dv, hL, hf, hd⟩ := hrel
    have HP := Lib.hid (iterPos_of hL.it)
    have HF := Lib.hid hf
    have HD := Lib.hid hd
    have HL := Lib.hid hL
    have hit := hL.it
    have hle := hL.le
    clear hf hd hL
    by_cases hlt : i < has.length
    · obtain ⟨c, hc⟩ : ∃ c, has[i]? = some c := ⟨has[i], List.getElem?_eq_getElem hlt⟩
      have hc2 : (⟨has.toArray⟩ : ByteArray)[i]'(show i < has.length from hlt) = c := (List.getElem?_eq_some_iff.1 hc).2
      have hasc2 := ascii_at HASC.out hc
      have hnx : ∀ ty, (Instr.next (.pointer (some ⟨X + 1, 0, none⟩)) true ty).run Tryd.prog wr = .ok (.tuple #[.bool true, .int .i64 i, .int .i32 (c.toNat : Int)]) (wr.iterAt (X + 1) ⟨has.toArray⟩ (i + 1)) := by
        intro ty
        have := Lib.run_next_ascii_at (P := Tryd.prog) wr (X + 1) ⟨has.toArray⟩ i ty hit (show i < has.length from hlt) (by rw [hc2]; exact hasc2)
        rw [hc2] at this
        exact this
      obtain ⟨hL1, hkI⟩ := HL.out.turn L hlt
      obtain ⟨V, hV⟩ : ∃ V, V = wr.iterAt (X + 1) ⟨has.toArray⟩ (i + 1) := ⟨_, rfl⟩
      rw [← hV] at hnx hL1 hkI
      have L1 := Lib.hid hL1
      have D1 := Lib.hid (HD.out.keep hkI (fun k e => by omega))
      obtain ⟨h0, hh0⟩ : ∃ h0, h0 = ws1.headD [] := ⟨_, rfl⟩
      have hsh := L1.out.sh.head
      rw [← hh0] at hsh
      have HC := Lib.hid hc
      have HH := Lib.hid hh0
      have z1 := blk_lt hL1.it
      clear hV hL1 hkI hc2 hc hh0 hit hasc2
      by_cases hcc : c = 112
      · subst hcc
        have HST := Lib.hid (show stepC (x, ws1) 112 = ({ x with path := untextP h0 }, ws1.tail) by rw [HH.out]; rfl)
        have HW := Lib.hid (word_walk r ws1 V L1.out.rd)
        rw [← HH.out] at HW
        go_wp2_with fail
        refine HW.out.mono ?_
        rintro e V1 ⟨rfl, hr1, hk1⟩
        have L2 := Lib.hid (L1.out.on L hk1 hr1 L1.out.sh.tail)
        have D2 := Lib.hid (D1.out.keep hk1 (fun k e => by omega))
        have z2 := hk1.size
        have HU := Lib.hid (untext_walk h0 V1 hsh)
        clear hr1 hk1
        go_wp2_with fail
        refine HU.out.mono ?_
        rintro e V2 ⟨rfl, hb2⟩
        have L3 := Lib.hid (L2.out.on L (Keep.of_below (S := fun k => k = r) hb2) (L2.out.rd.below hb2) L2.out.sh)
        have D3 := Lib.hid (D2.out.keep (Keep.of_below (S := fun _ => False) hb2) (fun k e => e.elim))
        have z3 := hb2.size
        have cX : V2.cell? ⟨X, 1, none⟩ = some _ := (blk_cells L3.out.bx 1).trans rfl
        have fX := blk_frees L3.out.bx
        clear hb2
        obtain ⟨u0, hu0⟩ : ∃ u0, u0 = untextP h0 := ⟨_, rfl⟩
        rw [← hu0] at HST ⊢
        clear hu0
        go_wp2
        have HQ := Lib.hid (L3.out.set L 1 (.string ⟨u0.toArray⟩))
        go_roundw
        case rel => exact ⟨i + 1, { x with path := u0 }, ws1.tail, dv, HQ.out.1, by have := HF.out; rw [drop_cons HC.out, List.foldl_cons, HST.out] at this; exact this, D3.out.keep HQ.out.2 (fun k e => by omega)⟩
        case measure => rw [iterPos_of HQ.out.1.it, HP.out]; omega
      have hn112 := u8_ne (k := 112) (by decide) hcc
      have HN112 := Lib.hid hcc
      clear hcc
      by_cases hcc : c = 111
      · subst hcc
        have HST := Lib.hid (show stepC (x, ws1) 111 = ({ x with other := untextP h0 }, ws1.tail) by rw [HH.out]; rfl)
        have HW := Lib.hid (word_walk r ws1 V L1.out.rd)
        rw [← HH.out] at HW
        go_wp2_with fail
        refine HW.out.mono ?_
        rintro e V1 ⟨rfl, hr1, hk1⟩
        have L2 := Lib.hid (L1.out.on L hk1 hr1 L1.out.sh.tail)
        have D2 := Lib.hid (D1.out.keep hk1 (fun k e => by omega))
        have z2 := hk1.size
        have HU := Lib.hid (untext_walk h0 V1 hsh)
        clear hr1 hk1
        go_wp2_with fail
        refine HU.out.mono ?_
        rintro e V2 ⟨rfl, hb2⟩
        have L3 := Lib.hid (L2.out.on L (Keep.of_below (S := fun k => k = r) hb2) (L2.out.rd.below hb2) L2.out.sh)
        have D3 := Lib.hid (D2.out.keep (Keep.of_below (S := fun _ => False) hb2) (fun k e => e.elim))
        have z3 := hb2.size
        have cX : V2.cell? ⟨X, 2, none⟩ = some _ := (blk_cells L3.out.bx 2).trans rfl
        have fX := blk_frees L3.out.bx
        clear hb2
        obtain ⟨u0, hu0⟩ : ∃ u0, u0 = untextP h0 := ⟨_, rfl⟩
        rw [← hu0] at HST ⊢
        clear hu0
        go_wp2
        have HQ := Lib.hid (L3.out.set L 2 (.string ⟨u0.toArray⟩))
        go_roundw
        case rel => exact ⟨i + 1, { x with other := u0 }, ws1.tail, dv, HQ.out.1, by have := HF.out; rw [drop_cons HC.out, List.foldl_cons, HST.out] at this; exact this, D3.out.keep HQ.out.2 (fun k e => by omega)⟩
        case measure => rw [iterPos_of HQ.out.1.it, HP.out]; omega
      have hn111 := u8_ne (k := 111) (by decide) hcc
      have HN111 := Lib.hid hcc
      clear hcc
      by_cases hcc : c = 102
      · subst hcc
        have HST := Lib.hid (show stepC (x, ws1) 102 = ({ x with file := numP h0 }, ws1.tail) by rw [HH.out]; rfl)
        have HW := Lib.hid (number_r_walk r ws1 V L1.out.rd L1.out.wv L.br (by rw [← HH.out]; omega))
        rw [← HH.out] at HW
        go_wp2_with fail
        refine HW.out.mono ?_
        rintro e V1 ⟨rfl, hr1, hk1⟩
        have L2 := Lib.hid (L1.out.on L hk1 hr1 L1.out.sh.tail)
        have D2 := Lib.hid (D1.out.keep hk1 (fun k e => by omega))
        have cX : V1.cell? ⟨X, 3, none⟩ = some _ := (blk_cells L2.out.bx 3).trans rfl
        have fX := blk_frees L2.out.bx
        clear hr1 hk1
        obtain ⟨u0, hu0⟩ : ∃ u0, u0 = numP h0 := ⟨_, rfl⟩
        rw [← hu0] at HST ⊢
        clear hu0
        go_wp2
        have HQ := Lib.hid (L2.out.set L 3 (.int .i64 u0))
        go_roundw
        case rel => exact ⟨i + 1, { x with file := u0 }, ws1.tail, dv, HQ.out.1, by have := HF.out; rw [drop_cons HC.out, List.foldl_cons, HST.out] at this; exact this, D2.out.keep HQ.out.2 (fun k e => by omega)⟩
        case measure => rw [iterPos_of HQ.out.1.it, HP.out]; omega
      have hn102 := u8_ne (k := 102) (by decide) hcc
      have HN102 := Lib.hid hcc
      clear hcc
      by_cases hcc : c = 97
      · subst hcc
        have HST := Lib.hid (show stepC (x, ws1) 97 = ({ x with at_ := numP h0 }, ws1.tail) by rw [HH.out]; rfl)
        have HW := Lib.hid (number_r_walk r ws1 V L1.out.rd L1.out.wv L.br (by rw [← HH.out]; omega))
        rw [← HH.out] at HW
        go_wp2_with fail
        refine HW.out.mono ?_
        rintro e V1 ⟨rfl, hr1, hk1⟩
        have L2 := Lib.hid (L1.out.on L hk1 hr1 L1.out.sh.tail)
        have D2 := Lib.hid (D1.out.keep hk1 (fun k e => by omega))
        have cX : V1.cell? ⟨X, 4, none⟩ = some _ := (blk_cells L2.out.bx 4).trans rfl
        have fX := blk_frees L2.out.bx
        clear hr1 hk1
        obtain ⟨u0, hu0⟩ : ∃ u0, u0 = numP h0 := ⟨_, rfl⟩
        rw [← hu0] at HST ⊢
        clear hu0
        go_wp2
        have HQ := Lib.hid (L2.out.set L 4 (.int .i64 u0))
        go_roundw
        case rel => exact ⟨i + 1, { x with at_ := u0 }, ws1.tail, dv, HQ.out.1, by have := HF.out; rw [drop_cons HC.out, List.foldl_cons, HST.out] at this; exact this, D2.out.keep HQ.out.2 (fun k e => by omega)⟩
        case measure => rw [iterPos_of HQ.out.1.it, HP.out]; omega
      have hn97 := u8_ne (k := 97) (by decide) hcc
      have HN97 := Lib.hid hcc
      clear hcc
      by_cases hcc : c = 115
      · subst hcc
        have HST := Lib.hid (show stepC (x, ws1) 115 = ({ x with size := numP h0 }, ws1.tail) by rw [HH.out]; rfl)
        have HW := Lib.hid (number_r_walk r ws1 V L1.out.rd L1.out.wv L.br (by rw [← HH.out]; omega))
        rw [← HH.out] at HW
        go_wp2_with fail
        refine HW.out.mono ?_
        rintro e V1 ⟨rfl, hr1, hk1⟩
        have L2 := Lib.hid (L1.out.on L hk1 hr1 L1.out.sh.tail)
        have D2 := Lib.hid (D1.out.keep hk1 (fun k e => by omega))
        have cX : V1.cell? ⟨X, 5, none⟩ = some _ := (blk_cells L2.out.bx 5).trans rfl
        have fX := blk_frees L2.out.bx
        clear hr1 hk1
        obtain ⟨u0, hu0⟩ : ∃ u0, u0 = numP h0 := ⟨_, rfl⟩
        rw [← hu0] at HST ⊢
        clear hu0
        go_wp2
        have HQ := Lib.hid (L2.out.set L 5 (.int .i64 u0))
        go_roundw
        case rel => exact ⟨i + 1, { x with size := u0 }, ws1.tail, dv, HQ.out.1, by have := HF.out; rw [drop_cons HC.out, List.foldl_cons, HST.out] at this; exact this, D2.out.keep HQ.out.2 (fun k e => by omega)⟩
        case measure => rw [iterPos_of HQ.out.1.it, HP.out]; omega
      have hn115 := u8_ne (k := 115) (by decide) hcc
      have HN115 := Lib.hid hcc
      clear hcc
      by_cases hcc : c = 100
      · subst hcc
        have HST := Lib.hid (show stepC (x, ws1) 100 = ({ x with data := untextP h0 }, ws1.tail) by rw [HH.out]; rfl)
        have HW := Lib.hid (word_walk r ws1 V L1.out.rd)
        rw [← HH.out] at HW
        go_wp2_with fail
        refine HW.out.mono ?_
        rintro e V1 ⟨rfl, hr1, hk1⟩
        have L2 := Lib.hid (L1.out.on L hk1 hr1 L1.out.sh.tail)
        have D2 := Lib.hid (D1.out.keep hk1 (fun k e => by omega))
        have z2 := hk1.size
        have HU := Lib.hid (untext_walk h0 V1 hsh)
        clear hr1 hk1
        go_wp2_with fail
        refine HU.out.mono ?_
        rintro e V2 ⟨rfl, hb2⟩
        have L3 := Lib.hid (L2.out.on L (Keep.of_below (S := fun k => k = r) hb2) (L2.out.rd.below hb2) L2.out.sh)
        have D3 := Lib.hid (D2.out.keep (Keep.of_below (S := fun _ => False) hb2) (fun k e => e.elim))
        have z3 := hb2.size
        have cX : V2.cell? ⟨X, 6, none⟩ = some _ := (blk_cells L3.out.bx 6).trans rfl
        have fX := blk_frees L3.out.bx
        clear hb2
        obtain ⟨u0, hu0⟩ : ∃ u0, u0 = untextP h0 := ⟨_, rfl⟩
        rw [← hu0] at HST ⊢
        clear hu0
        have kc : (convert 9 22 (.string ⟨u0.toArray⟩)).run Tryd.prog V2 = .ok (.slice (some ⟨V2.heap.size, 0, none⟩) u0.length (grownCap V2 u0.length 0 5)) (Lib.bytesWorld V2 5 ⟨u0.toArray⟩) := Lib.run_convert_string_bytes (P := Tryd.prog) V2 9 22 5 ⟨u0.toArray⟩ Tryd.underlying9 Tryd.underlying22 Tryd.underlying5
        have hb3 := Lib.bytesWorld_below V2 5 ⟨u0.toArray⟩
        have D4 := Lib.hid (DataIs.conv (X + 1) V2 u0 (by omega))
        obtain ⟨V3, hV3⟩ : ∃ V3, V3 = Lib.bytesWorld V2 5 ⟨u0.toArray⟩ := ⟨_, rfl⟩
        rw [← hV3] at kc hb3 D4
        have L4 := Lib.hid (L3.out.on L (Keep.of_below (S := fun k => k = r) hb3) (L3.out.rd.below hb3) L3.out.sh)
        have cX : V3.cell? ⟨X, 6, none⟩ = some _ := (blk_cells L4.out.bx 6).trans rfl
        have fX := blk_frees L4.out.bx
        clear hV3 hb3
        go_wp2
        have HQ := Lib.hid (L4.out.set L 6 (.slice (some ⟨V2.heap.size, 0, none⟩) u0.length (grownCap V2 u0.length 0 5)))
        go_roundw
        case rel => exact ⟨i + 1, { x with data := u0 }, ws1.tail, _, HQ.out.1, by have := HF.out; rw [drop_cons HC.out, List.foldl_cons, HST.out] at this; exact this, D4.out.keep HQ.out.2 (fun k e => by omega)⟩
        case measure => rw [iterPos_of HQ.out.1.it, HP.out]; omega
      have hn100 := u8_ne (k := 100) (by decide) hcc
      have HN100 := Lib.hid hcc
      clear hcc
      have HST := Lib.hid (show stepC (x, ws1) c = (x, ws1) by unfold stepC; rw [if_neg HN112.out, if_neg HN111.out, if_neg HN102.out, if_neg HN97.out, if_neg HN115.out, if_neg HN100.out])
      go_wp2
      go_roundw
      case rel => exact ⟨i + 1, x, ws1, dv, L1.out, by have := HF.out; rw [drop_cons HC.out, List.foldl_cons, HST.out] at this; exact this, D1.out⟩
      case measure => rw [iterPos_of L1.out.it, HP.out]; omega
    · obtain rfl : i = has.length := by omega
      have hnx : ∀ ty, (Instr.next (.pointer (some ⟨X + 1, 0, none⟩)) true ty).run Tryd.prog wr = .ok (.tuple #[.bool false]) wr := fun ty => Lib.run_next_end_at (P := Tryd.prog) wr (X + 1) ⟨has.toArray⟩ has.length ty hit (show ¬ has.length < has.length by omega)
      have HE : Hid ((x, ws1) = fin) := Lib.hid (by have := HF.out; rw [List.drop_length] at this; exact this)
      obtain ⟨A, dc, hdv, hsl, hA⟩ := HD.out
      subst hdv
      clear hsl hA
      have bX := blk_cells HL.out.bx
      have bR := blk_cells HL.out.br
      have fR := blk_frees HL.out.br
      have d0 : wr.cell? ⟨X, 0, none⟩ = some (.int .i64 x.kind) := (bX 0).trans rfl
      have d1 : wr.cell? ⟨X, 1, none⟩ = some (.string ⟨x.path.toArray⟩) := (bX 1).trans rfl
      have d2 : wr.cell? ⟨X, 2, none⟩ = some (.string ⟨x.other.toArray⟩) := (bX 2).trans rfl
      have d3 : wr.cell? ⟨X, 3, none⟩ = some (.int .i64 x.file) := (bX 3).trans rfl
      have d4 : wr.cell? ⟨X, 4, none⟩ = some (.int .i64 x.at_) := (bX 4).trans rfl
      have d5 : wr.cell? ⟨X, 5, none⟩ = some (.int .i64 x.size) := (bX 5).trans rfl
      have d6 : wr.cell? ⟨X, 6, none⟩ = some (.slice A x.data.length dc) := (bX 6).trans rfl
      have r0 : wr.cell? ⟨w.heap.size, 0, none⟩ = some (.int .i64 0) := (bR 0).trans rfl
      have r1 : wr.cell? ⟨w.heap.size, 1, none⟩ = some (.string ⟨#[]⟩) := (bR 1).trans rfl
      have r2 : wr.cell? ⟨w.heap.size, 2, none⟩ = some (.string ⟨#[]⟩) := (bR 2).trans rfl
      have r3 : wr.cell? ⟨w.heap.size, 3, none⟩ = some (.int .i64 0) := (bR 3).trans rfl
      have r4 : wr.cell? ⟨w.heap.size, 4, none⟩ = some (.int .i64 0) := (bR 4).trans rfl
      have r5 : wr.cell? ⟨w.heap.size, 5, none⟩ = some (.int .i64 0) := (bR 5).trans rfl
      have r6 : wr.cell? ⟨w.heap.size, 6, none⟩ = some (.slice none 0 0) := (bR 6).trans rfl
      clear bX bR hit hle
      go_wp2
      change bodyPost _ _ _ _ _ (set7 wr w.heap.size (.int .i64 x.kind) (.string ⟨x.path.toArray⟩) (.string ⟨x.other.toArray⟩) (.int .i64 x.file) (.int .i64 x.at_) (.int .i64 x.size) (.slice A x.data.length dc))
      have hf := set7_blk HL.out.br (.int .i64 x.kind) (.string ⟨x.path.toArray⟩) (.string ⟨x.other.toArray⟩) (.int .i64 x.file) (.int .i64 x.at_) (.int .i64 x.size) (.slice A x.data.length dc)
      have kf := set7_keep wr w.heap.size (.int .i64 x.kind) (.string ⟨x.path.toArray⟩) (.string ⟨x.other.toArray⟩) (.int .i64 x.file) (.int .i64 x.at_) (.int .i64 x.size) (.slice A x.data.length dc)
      generalize set7 wr w.heap.size (.int .i64 x.kind) (.string ⟨x.path.toArray⟩) (.string ⟨x.other.toArray⟩) (.int .i64 x.file) (.int .i64 x.at_) (.int .i64 x.size) (.slice A x.data.length dc) = Wf at hf kf ⊢
      have bf := blk_cells hf
      have e0 := (bf 0).trans rfl
      have e1 := (bf 1).trans rfl
      have e2 := (bf 2).trans rfl
      have e3 := (bf 3).trans rfl
      have e4 := (bf 4).trans rfl
      have e5 := (bf 5).trans rfl
      have e6 := (bf 6).trans rfl
      have hrw : r ≠ w.heap.size := by omega
      have hRD : RDs r ws1 Wf := HL.out.rd.keep kf hrw (fun b cs fr hb e => by
        subst e
        rw [HL.out.br] at hb
        injection hb with hb
        injection hb with _ hb _
        exact absurd hb (by decide))
      have hDD : DataIs w.heap.size Wf (.slice A x.data.length dc) x.data := (HD.out.keep kf (fun k e => by have := L.rx; omega)).mono (by have := L.rx; omega)
      have hKK : Keep (fun k => k = r) w Wf := HL.out.kp.trans kf (fun k hk e => by omega)
      have hSS := HL.out.sh
      have HPOST : Hid (CallPost r fin w (.returned (.agg (x.cells (.slice A x.data.length dc)))) Wf) := Lib.hid (by rw [← HE.out]; exact ⟨_, rfl, hDD, hRD, hSS, hKK⟩)
      clear hf kf bf hRD hDD hKK hSS
      refine bodyPost_ret (v := .agg (x.cells (.slice A x.data.length dc))) (by simp [results, Tryd.results42, go_sem, e0, e1, e2, e3, e4, e5, e6]; try rfl) rfl HPOST.out
end Go.Proofs.YtpdnfcgdcndhpaaDoor
