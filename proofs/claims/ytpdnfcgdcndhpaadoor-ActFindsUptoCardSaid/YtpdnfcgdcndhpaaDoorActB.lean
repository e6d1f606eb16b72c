/- An act as a list of words: what the words of an act are, read (the reader's act). -/
import Derived.Test.YtpdnfcgdcndhpaaDoorActA
import Derived.Deep.RegionHeld3
import Derived.Deep.RegionLaw
import Derived.Deep.DrawnRows
set_option linter.unusedSimpArgs false
set_option linter.unusedVariables false
namespace Go.Proofs.YtpdnfcgdcndhpaaDoor
open Go.RowKit

attribute [local go_sem ↓] Go.wp_at_zero Go.wp_at_succ
structure ActP where
  kind : Int
  a : Int
  n : Int
  call : CallP
  keep : List Int
deriving DecidableEq
def ActP.new (k : Int) : ActP := ⟨k, 0, 0, CallP.new 0, []⟩
def ActP.cells (x : ActP) (dv kv : Value) : Array Value := #[.int .i64 x.kind, .int .i64 x.a, .int .i64 x.n, .int .i64 x.call.kind, .string ⟨x.call.path.toArray⟩, .string ⟨x.call.other.toArray⟩, .int .i64 x.call.file, .int .i64 x.call.at_, .int .i64 x.call.size, dv, kv]
/-- A letter of what an act has: the next words are taken. -/
def stepA (p : ActP × List Str) (c : UInt8) : ActP × List Str :=
  if c = 97 then ({ p.1 with a := numP (p.2.headD []) }, p.2.tail)
  else if c = 110 then ({ p.1 with n := numP (p.2.headD []) }, p.2.tail)
  else if c = 99 then ({ p.1 with call := (callR p.2).1 }, (callR p.2).2)
  else if c = 107 then ({ p.1 with keep := p.1.keep ++ p.2.map numP }, [])
  else p
def actR (ws : List Str) : ActP × List Str :=
  (findP actT (ws.headD [])).has.foldl stepA (ActP.new (findP actT (ws.headD [])).k, ws.tail)
def ints (l : List Int) : List Value := l.map (Value.int .i64)
theorem ints_app (a b : List Int) : ints (a ++ b) = ints a ++ ints b := by simp [ints]
theorem eltI : Elt Tryd.prog 25 3 1 8 := by
  refine Elt.mk' (z := .int .i64 0) (by kernel_rfl) (by kernel_rfl) (by kernel_rfl) (by intro u hu; revert hu; decide +revert) (by decide)
/-- A row of numbers of one's own, behind block Y. -/
def KeepIs (Y : Nat) (w : World) (kv : Value) (l : List Int) : Prop := ∃ A c, kv = .slice A l.length c ∧ w.ownsRow 0 3 1 (.slice A l.length c) l.length (ints l) ∧ ∀ k, A.map (·.block) = some k → Y < k
theorem KeepIs.keep {S : Nat → Prop} {Y : Nat} {w w' : World} {kv : Value} {l : List Int} (h : KeepIs Y w kv l) (hk : Keep S w w') (hS : ∀ k, S k → k ≤ Y) : KeepIs Y w' kv l := by
  obtain ⟨A, c, rfl, hs, hA⟩ := h
  exact ⟨A, c, rfl, own_keep hs hk (fun k e hk2 => by have := hA k (by rw [ownBlock_slice] at e; exact e); have := hS k hk2; omega), hA⟩
theorem KeepIs.mono {Y Y' : Nat} {w : World} {kv : Value} {l : List Int} (h : KeepIs Y w kv l) (hY : Y' ≤ Y) : KeepIs Y' w kv l := by
  obtain ⟨A, c, rfl, hs, hA⟩ := h
  exact ⟨A, c, rfl, hs, fun k e => Nat.lt_of_le_of_lt hY (hA k e)⟩
theorem KeepIs.nil (Y : Nat) (w : World) : KeepIs Y w (.slice none 0 0) [] := ⟨none, 0, rfl, own_nil' _ _ _ _, by simp⟩
theorem LoopI.far {r R X IT B : Nat} {T : TypeId} {Z cs : Array Value} {has : Str} {w0 wr W : World} {i : Nat} {ws : List Str} {S : Nat → Prop} (L : LoopB r R X IT B T w0) (h : LoopI r R X IT B T Z has w0 wr i cs ws) (hk : Keep S wr W) (hS : ∀ k, S k → IT < k) (hS2 : ∀ b cs fr, wr.heap[b]? = some (.cells cs 9 fr) → ¬ S b) :
    LoopI r R X IT B T Z has w0 W i cs ws := by
  have l1 := L.r0; have l2 := L.br; have l3 := L.r1; have l4 := L.rx; have l5 := L.xi
  have n : ∀ k, k ≤ IT → ¬ S k := fun k hk hs => by have := hS k hs; omega
  exact ⟨hk.blk h.it (n _ (Nat.le_refl _)), h.le, h.rd.keep hk (n _ (by omega)) hS2, h.sh, hk.blk h.bx (n _ (by omega)), hk.blk h.br (n _ (by omega)), h.kp.trans hk (fun k hk hs => by have := hS k hs; omega), h.wv.keep hk (fun k hs => by have := hS k hs; omega)⟩
def ActInv (r R X IT B : Nat) (has : Str) (fin : ActP × List Str) (w0 wr : World) : Prop :=
  ∃ (i : Nat) (x : ActP) (ws : List Str) (dv kv : Value), LoopI r R X IT B 27 ((ActP.new 0).cells (.slice none 0 0) (.slice none 0 0)) has w0 wr i (x.cells dv kv) ws ∧ (has.drop i).foldl stepA (x, ws) = fin ∧ DataIs (X + 1) wr dv x.call.data ∧ KeepIs (X + 1) wr kv x.keep ∧ x.keep.length + ws.length ≤ 1000000000000
/-- The numbers at the end. -/
def KInv (r R X IT B : Nat) (has : Str) (w0 wr : World) (i : Nat) (x : ActP) (ks : List Int) (dv : Value) : Prop :=
  ∃ (ks1 : List Int) (ws : List Str) (kv : Value), LoopI r R X IT B 27 ((ActP.new 0).cells (.slice none 0 0) (.slice none 0 0)) has w0 wr i (({ x with keep := ks1 } : ActP).cells dv kv) ws ∧ ks1 ++ ws.map numP = ks ∧ DataIs (X + 1) wr dv x.call.data ∧ KeepIs (X + 1) wr kv ks1
def restLen (w : World) (r : Nat) : Nat := match w.cell? ⟨r, 0, none⟩ with | some (.slice _ n _) => n | _ => 0
theorem restLen_of {r : Nat} {ws : List Str} {w : World} (h : RDs r ws w) : restLen w r = ws.length := by
  obtain ⟨b, o, c, hb, _⟩ := h
  have := blk_cell (j := 0) hb rfl
  simp [restLen, this]
def ActPost (r : Nat) (fin : ActP × List Str) (w : World) (e : Ending) (w' : World) : Prop := ∃ dv kv, e = .returned (.agg (fin.1.cells dv kv)) ∧ DataIs w.heap.size w' dv fin.1.call.data ∧ KeepIs w.heap.size w' kv fin.1.keep ∧ RDs r fin.2 w' ∧ Short fin.2 ∧ Keep (fun k => k = r) w w'
theorem ascii_act (s : Str) : asciiB (findP actT s).has = true := by
  have h : (actT.all fun r => asciiB r.has) = true := by decide +kernel
  unfold findP
  cases hf : actT.find? (fun r => r.word == s) with
  | none => rfl
  | some q => exact List.all_eq_true.1 h q (List.mem_of_find?_eq_some hf)
def set11 (w : World) (R : Nat) (v0 v1 v2 v3 v4 v5 v6 v7 v8 v9 v10 : Value) : World := ((((((((((w.setCell ⟨R, 0, none⟩ v0).setCell ⟨R, 1, none⟩ v1).setCell ⟨R, 2, none⟩ v2).setCell ⟨R, 3, none⟩ v3).setCell ⟨R, 4, none⟩ v4).setCell ⟨R, 5, none⟩ v5).setCell ⟨R, 6, none⟩ v6).setCell ⟨R, 7, none⟩ v7).setCell ⟨R, 8, none⟩ v8).setCell ⟨R, 9, none⟩ v9).setCell ⟨R, 10, none⟩ v10
theorem set11_blk {w : World} {R : Nat} {T : TypeId} {z0 z1 z2 z3 z4 z5 z6 z7 z8 z9 z10 : Value} (h : w.heap[R]? = some (.cells #[z0, z1, z2, z3, z4, z5, z6, z7, z8, z9, z10] T (0, 0))) (v0 v1 v2 v3 v4 v5 v6 v7 v8 v9 v10 : Value) :
    (set11 w R v0 v1 v2 v3 v4 v5 v6 v7 v8 v9 v10).heap[R]? = some (.cells #[v0, v1, v2, v3, v4, v5, v6, v7, v8, v9, v10] T (0, 0)) :=
  blk_setL (blk_setL (blk_setL (blk_setL (blk_setL (blk_setL (blk_setL (blk_setL (blk_setL (blk_setL (blk_setL h v0) v1) v2) v3) v4) v5) v6) v7) v8) v9) v10
theorem set11_keep (w : World) (R : Nat) (v0 v1 v2 v3 v4 v5 v6 v7 v8 v9 v10 : Value) : Keep (fun k => k = R) w (set11 w R v0 v1 v2 v3 v4 v5 v6 v7 v8 v9 v10) :=
  (((((((((((Keep.refl (fun k => k = R) w).setCell (fun _ => rfl) v0).setCell (fun _ => rfl) v1).setCell (fun _ => rfl) v2).setCell (fun _ => rfl) v3).setCell (fun _ => rfl) v4).setCell (fun _ => rfl) v5).setCell (fun _ => rfl) v6).setCell (fun _ => rfl) v7).setCell (fun _ => rfl) v8).setCell (fun _ => rfl) v9).setCell (fun _ => rfl) v10
def setC (w : World) (X : Nat) (v0 v1 v2 v3 v4 v5 v6 : Value) : World := ((((((w.setCell ⟨X, 3, none⟩ v0).setCell ⟨X, 4, none⟩ v1).setCell ⟨X, 5, none⟩ v2).setCell ⟨X, 6, none⟩ v3).setCell ⟨X, 7, none⟩ v4).setCell ⟨X, 8, none⟩ v5).setCell ⟨X, 9, none⟩ v6
theorem setC_on {r R X IT B : Nat} {T : TypeId} {Z : Array Value} {has : Str} {w0 wr : World} {i : Nat} {ws : List Str} {x : ActP} {dv kv : Value} (L : LoopB r R X IT B T w0) (h : LoopI r R X IT B T Z has w0 wr i (x.cells dv kv) ws) (y : CallP) (dw : Value) :
    LoopI r R X IT B T Z has w0 (setC wr X (.int .i64 y.kind) (.string ⟨y.path.toArray⟩) (.string ⟨y.other.toArray⟩) (.int .i64 y.file) (.int .i64 y.at_) (.int .i64 y.size) dw) i (({ x with call := y } : ActP).cells dw kv) ws ∧
      Keep (fun k => k = X) wr (setC wr X (.int .i64 y.kind) (.string ⟨y.path.toArray⟩) (.string ⟨y.other.toArray⟩) (.int .i64 y.file) (.int .i64 y.at_) (.int .i64 y.size) dw) := by
  have k := (((((((Keep.refl (fun k => k = X) wr).setCell (p := ⟨X, 3, none⟩) (fun _ => rfl) (.int .i64 y.kind)).setCell (p := ⟨X, 4, none⟩) (fun _ => rfl) (.string ⟨y.path.toArray⟩)).setCell (p := ⟨X, 5, none⟩) (fun _ => rfl) (.string ⟨y.other.toArray⟩)).setCell (p := ⟨X, 6, none⟩) (fun _ => rfl) (.int .i64 y.file)).setCell (p := ⟨X, 7, none⟩) (fun _ => rfl) (.int .i64 y.at_)).setCell (p := ⟨X, 8, none⟩) (fun _ => rfl) (.int .i64 y.size)).setCell (p := ⟨X, 9, none⟩) (fun _ => rfl) dw
  have g := (((((((h.set L 3 (.int .i64 y.kind)).1.set L 4 (.string ⟨y.path.toArray⟩)).1.set L 5 (.string ⟨y.other.toArray⟩)).1.set L 6 (.int .i64 y.file)).1.set L 7 (.int .i64 y.at_)).1.set L 8 (.int .i64 y.size)).1.set L 9 dw).1
  have e : (((((((x.cells dv kv).setIfInBounds 3 (.int .i64 y.kind)).setIfInBounds 4 (.string ⟨y.path.toArray⟩)).setIfInBounds 5 (.string ⟨y.other.toArray⟩)).setIfInBounds 6 (.int .i64 y.file)).setIfInBounds 7 (.int .i64 y.at_)).setIfInBounds 8 (.int .i64 y.size)).setIfInBounds 9 dw = ({ x with call := y } : ActP).cells dw kv := by
    simp only [ActP.cells, List.setIfInBounds_toArray, List.set_cons_succ, List.set_cons_zero]
  rw [e] at g
  exact ⟨g, k⟩
theorem callR_len (ws : List Str) : (callR ws).2.length ≤ ws.length := by
  have h : ∀ (l : Str) (p : CallP × List Str), (l.foldl stepC p).2.length ≤ p.2.length := by
    intro l
    induction l with
    | nil => intro p; exact Nat.le_refl _
    | cons c l ih =>
      intro p
      rw [List.foldl_cons]
      refine Nat.le_trans (ih _) ?_
      unfold stepC
      repeat' split
      all_goals (try simp only [List.length_tail])
      all_goals omega
  have := h (findP callT (ws.headD [])).has (CallP.new (findP callT (ws.headD [])).k, ws.tail)
  unfold callR
  simp only [List.length_tail] at this ⊢
  omega
theorem keep_end {r R X B : Nat} {T : TypeId} {Z cs : Array Value} {has d : Str} {w0 wr V1 w3 : World} {i : Nat} {ws : List Str} {dv : Value} {ks : List Int} {n : Int} {KA A3 : Option Addr} {kc c3 : Nat} (L : LoopB r R X (X + 1) B T w0)
    (h : LoopI r R X (X + 1) B T Z has w0 V1 i cs ws) (hd : DataIs (X + 1) V1 dv d) (ho : wr.ownsRow 0 3 1 (.slice KA ks.length kc) ks.length (ints ks)) (hA : ∀ k, KA.map (·.block) = some k → X + 1 < k) (k1 : Keep (fun k => k = r) wr V1)
    (g1 : w3.ownsRow 0 3 1 (.slice A3 (ks.length + 1) c3) (ks.length + 1) (ints ks ++ [.int .i64 n])) (g2 : Keep (fun k => (Value.slice KA ks.length kc).ownBlock = some k) (V1.alloc (.cells #[.int .i64 n] 3)) w3)
    (g3 : (Value.slice A3 (ks.length + 1) c3).ownBlock = (Value.slice KA ks.length kc).ownBlock ∨ (Value.slice A3 (ks.length + 1) c3).ownBlock = some (V1.alloc (.cells #[.int .i64 n] 3)).heap.size) :
    LoopI r R X (X + 1) B T Z has w0 w3 i cs ws ∧ DataIs (X + 1) w3 dv d ∧ KeepIs (X + 1) w3 (.slice A3 (ks.length + 1) c3) (ks ++ [n]) := by
  have l1 := L.r0; have l2 := L.br; have l3 := L.r1; have l4 := L.rx
  have hIT := blk_lt h.it
  have k2 : Keep (fun k => KA.map (·.block) = some k) V1 w3 := (((Keep.refl (fun k => KA.map (·.block) = some k) V1).alloc _)).trans g2 (fun k _ e => by rw [ownBlock_slice] at e; exact e)
  have ho1 := own_keep ho k1 (fun k e e2 => by have := hA k (by rw [ownBlock_slice] at e; exact e); omega)
  have hne : ∀ (u : TypeId) b cs' fr, 3 ≠ u → V1.heap[b]? = some (.cells cs' u fr) → ¬ KA.map (·.block) = some b := fun u b cs' fr hu hb e => own_ne_blk ho1 hb hu (by rw [ownBlock_slice]; exact e) rfl
  refine ⟨h.far L k2 (fun k e => hA k e) (fun b cs' fr hb => hne _ b cs' fr (by decide) hb), hd.keep' k2 (fun k cs' fr _ hb => hne _ k cs' fr (by decide) hb), A3, c3, by simp, ?_, ?_⟩
  · rw [List.length_append, ints_app]
    exact g1
  · intro k e
    rcases g3 with h3 | h3 <;> rw [ownBlock_slice] at h3
    · rw [ownBlock_slice] at h3
      exact hA k (h3 ▸ e)
    · rw [e] at h3
      injection h3 with h3
      simp at h3
      omega
set_option maxRecDepth 100000 in
set_option maxHeartbeats 4000000 in
theorem act_walk {B : Nat} (r : Nat) (ws : List Str) (w : World) (h : RDs r ws w) (hw : WV B w) (hr : B ≤ r) (hs : Short ws) (hlen : ws.length ≤ 100000000000) :
    Calls Tryd.prog 22 #[.pointer (some ⟨r, 0, none⟩)] w (ActPost r (actR ws) w) := by
  obtain ⟨fin, hfin⟩ : ∃ fin, fin = actR ws := ⟨_, rfl⟩
  rw [← hfin]
  have HFIN := Lib.hid hfin
  clear hfin
  have hrl : r < w.heap.size := by
    obtain ⟨_, _, _, hb, _⟩ := h
    exact blk_lt hb
  have HR := Lib.hid h
  have HV := Lib.hid hw
  have HS := Lib.hid hs
  clear h hw hs
  go_enter Tryd.func22, Tryd.ntmps22
  go_wp2_with fail
  obtain ⟨W0, hW0⟩ : ∃ W0, W0 = w.alloc (.cells #[.int .i64 0, .int .i64 0, .int .i64 0, .int .i64 0, .string ⟨#[]⟩, .string ⟨#[]⟩, .int .i64 0, .int .i64 0, .int .i64 0, .slice none 0 0, .slice none 0 0] 27) := ⟨_, rfl⟩
  have hb0 : Below w.heap.size w W0 := by rw [hW0]; exact (Below.refl _ w).alloc (Nat.le_refl _) _
  have hR0 : W0.heap[w.heap.size]? = some (.cells #[.int .i64 0, .int .i64 0, .int .i64 0, .int .i64 0, .string ⟨#[]⟩, .string ⟨#[]⟩, .int .i64 0, .int .i64 0, .int .i64 0, .slice none 0 0, .slice none 0 0] 27 (0, 0)) := by rw [hW0]; exact blk_new w _
  rw [← hW0]
  have B0 := Lib.hid hb0
  have C0 := Lib.hid hR0
  have z0 := blk_lt hR0
  clear hW0 hb0 hR0
  refine (acts_walk W0).mono ?_
  rintro e W1 ⟨rfl, hm1, hb1⟩
  have M1 := Lib.hid hm1
  have B1 := Lib.hid hb1
  have z1 := hb1.size
  have HW := Lib.hid (word_walk r ws W1 ((HR.out.below B0.out).below hb1))
  obtain ⟨x0, hx0⟩ : ∃ x0, x0 = ws.headD [] := ⟨_, rfl⟩
  rw [← hx0] at HW
  have HX0 := Lib.hid hx0
  clear hm1 hb1 hx0
  go_wp2_with fail
  refine HW.out.mono ?_
  rintro e W2 ⟨rfl, hr2, hk2⟩
  have hbr : W0.heap.size ≠ r := by omega
  have R2 := Lib.hid hr2
  have K2 := Lib.hid hk2
  have z2 := hk2.size
  have HF := Lib.hid (find_walk actT good_act W0.heap.size x0 W2 (M1.out.keep hk2 (fun e => hbr e)))
  clear hr2 hk2 HW
  go_wp2_with fail
  refine HF.out.mono ?_
  rintro e W3 ⟨rfl, hb3⟩
  have R3 := Lib.hid (R2.out.below hb3)
  have z3 := hb3.size
  have K3 : Hid (Keep (fun k => k = r) w W3) := Lib.hid (((((Keep.of_below (S := fun k => k = r) B0.out).trans (Keep.of_below (S := fun k => k = r) B1.out) (fun _ _ h => h)).trans K2.out (fun _ _ h => h))).trans (Keep.of_below (S := fun k => k = r) hb3) (fun _ _ h => h))
  have C3 : Hid (W3.heap[w.heap.size]? = some (.cells #[.int .i64 0, .int .i64 0, .int .i64 0, .int .i64 0, .string ⟨#[]⟩, .string ⟨#[]⟩, .int .i64 0, .int .i64 0, .int .i64 0, .slice none 0 0, .slice none 0 0] 27 (0, 0))) := Lib.hid ((Keep.of_below (S := fun k => k = r) hb3).blk (K2.out.blk ((Keep.of_below (S := fun k => k = r) B1.out).blk C0.out (fun e => by omega)) (fun e => by omega)) (fun e => by omega))
  clear hb3 HF
  obtain ⟨k0, hk0⟩ : ∃ k0, k0 = (findP actT x0).k := ⟨_, rfl⟩
  obtain ⟨has, hhas⟩ : ∃ has, has = (findP actT x0).has := ⟨_, rfl⟩
  rw [← hk0, ← hhas]
  have HK0 := Lib.hid hk0
  have HHAS := Lib.hid hhas
  clear hk0 hhas
  go_upto_region 4 with fail
  obtain ⟨X, hX⟩ : ∃ X, X = W3.heap.size := ⟨_, rfl⟩
  have L : LoopB r w.heap.size X (X + 1) B 27 w := ⟨hrl, hr, Nat.le_refl _, by omega, rfl, by decide⟩
  have hasc : asciiB has = true := by rw [HHAS.out]; exact ascii_act _
  have HASC := Lib.hid hasc
  have hfin : fin = has.foldl stepA (ActP.new k0, ws.tail) := by rw [HFIN.out, HHAS.out, HK0.out, HX0.out]; rfl
  have hstart : ActInv r w.heap.size X (X + 1) B has fin w ((W3.alloc (.cells #[.int .i64 k0, .int .i64 0, .int .i64 0, .int .i64 0, .string ⟨#[]⟩, .string ⟨#[]⟩, .int .i64 0, .int .i64 0, .int .i64 0, .slice none 0 0, .slice none 0 0] 27)).iter ⟨has.toArray⟩ 0) := by
    have e1 : (W3.alloc (.cells #[.int .i64 k0, .int .i64 0, .int .i64 0, .int .i64 0, .string ⟨#[]⟩, .string ⟨#[]⟩, .int .i64 0, .int .i64 0, .int .i64 0, .slice none 0 0, .slice none 0 0] 27)).heap.size = X + 1 := by simp [hX]
    have b1 : Below W3.heap.size W3 ((W3.alloc (.cells #[.int .i64 k0, .int .i64 0, .int .i64 0, .int .i64 0, .string ⟨#[]⟩, .string ⟨#[]⟩, .int .i64 0, .int .i64 0, .int .i64 0, .slice none 0 0, .slice none 0 0] 27)).iter ⟨has.toArray⟩ 0) := ((Below.refl _ W3).alloc (Nat.le_refl _) _).alloc (by simp) _
    have k1 : Keep (fun k => k = r) W3 _ := Keep.of_below b1
    refine ⟨0, ActP.new k0, ws.tail, .slice none 0 0, .slice none 0 0, ⟨by rw [← e1]; exact World.iter_heap _ _ _, Nat.zero_le _, R3.out.below b1, HS.out.tail, ?_, k1.blk C3.out (fun e => by omega), K3.out.trans k1 (fun _ _ h => h), (HV.out.keep K3.out (fun k e => by omega)).below b1⟩, by rw [hfin]; rfl, DataIs.nil _ _, KeepIs.nil _ _, by simp [ActP.new]; omega⟩
    rw [hX]
    exact blk_old (blk_new W3 _) _
  have HST := Lib.hid hstart
  have hrX : r < X := by omega
  rw [← hX]
  clear hstart hX hfin hasc R3 K3 C3 HX0 HK0 HHAS
  go_loopw [7] (fun _ wr => ActInv r w.heap.size X (X + 1) B has fin w wr) (fun _ wr => has.length - wr.iterPos (X + 1))
  case atStart => exact HST.out
  case round =>
    obtain ⟨i, x, ws1, dv, kv, hL, hf, hd, hkp, hln⟩ := hrel
    have HP := Lib.hid (iterPos_of hL.it)
    have HF := Lib.hid hf
    have HD := Lib.hid hd
    have HKP := Lib.hid hkp
    have HL := Lib.hid hL
    have hit := hL.it
    have hle := hL.le
    clear hf hd hL hkp
    by_cases hlt : i < has.length
    · obtain ⟨c, hc⟩ : ∃ c, has[i]? = some c := ⟨has[i], List.getElem?_eq_getElem hlt⟩
      have hc2 : (⟨has.toArray⟩ : ByteArray)[i]'(show i < has.length from hlt) = c := (List.getElem?_eq_some_iff.1 hc).2
      have hasc2 := ascii_at HASC.out hc
      have hnx : ∀ ty, (Instr.next (.pointer (some ⟨X + 1, 0, none⟩)) true ty).run Tryd.prog wr = .ok (.tuple #[.bool true, .int .i64 i, .int .i32 (c.toNat : Int)]) (wr.iterAt (X + 1) ⟨has.toArray⟩ (i + 1)) := by
        intro ty
        have := Lib.run_next_ascii_at (P := Tryd.prog) wr (X + 1) ⟨has.toArray⟩ i ty hit (show i < has.length from hlt) (by rw [hc2]; exact hasc2)
        rw [hc2] at this
        exact this
      obtain ⟨hL1, hkI⟩ := HL.out.turn L hlt
      obtain ⟨V, hV⟩ : ∃ V, V = wr.iterAt (X + 1) ⟨has.toArray⟩ (i + 1) := ⟨_, rfl⟩
      rw [← hV] at hnx hL1 hkI
      have L1 := Lib.hid hL1
      have D1 := Lib.hid (HD.out.keep hkI (fun k e => by omega))
      have E1 := Lib.hid (HKP.out.keep hkI (fun k e => by omega))
      obtain ⟨h0, hh0⟩ : ∃ h0, h0 = ws1.headD [] := ⟨_, rfl⟩
      have hsh := L1.out.sh.head
      rw [← hh0] at hsh
      have HC := Lib.hid hc
      have HH := Lib.hid hh0
      have z1 := blk_lt hL1.it
      have htl : ws1.tail.length ≤ ws1.length := by rw [List.length_tail]; omega
      clear hV hL1 hkI hc2 hc hh0 hit hasc2
      by_cases hcc : c = 97
      · subst hcc
        have HST := Lib.hid (show stepA (x, ws1) 97 = ({ x with a := numP h0 }, ws1.tail) by rw [HH.out]; rfl)
        have HW := Lib.hid (number_r_walk r ws1 V L1.out.rd L1.out.wv L.br (by rw [← HH.out]; omega))
        rw [← HH.out] at HW
        go_wp2_with fail
        refine HW.out.mono ?_
        rintro e V1 ⟨rfl, hr1, hk1⟩
        have L2 := Lib.hid (L1.out.on L hk1 hr1 L1.out.sh.tail)
        have D2 := Lib.hid (D1.out.keep hk1 (fun k e => by omega))
        have E2 := Lib.hid (E1.out.keep hk1 (fun k e => by omega))
        have cX : V1.cell? ⟨X, 1, none⟩ = some _ := (blk_cells L2.out.bx 1).trans rfl
        have fX := blk_frees L2.out.bx
        clear hr1 hk1
        obtain ⟨u0, hu0⟩ : ∃ u0, u0 = numP h0 := ⟨_, rfl⟩
        rw [← hu0] at HST ⊢
        clear hu0
        go_wp2
        have HQ := Lib.hid (L2.out.set L 1 (.int .i64 u0))
        go_roundw
        case rel => exact ⟨i + 1, { x with a := u0 }, ws1.tail, dv, kv, HQ.out.1, by have := HF.out; rw [drop_cons HC.out, List.foldl_cons, HST.out] at this; exact this, D2.out.keep HQ.out.2 (fun k e => by omega), E2.out.keep HQ.out.2 (fun k e => by omega), by show x.keep.length + _ ≤ _; omega⟩
        case measure => rw [iterPos_of HQ.out.1.it, HP.out]; omega
      have hn97 := u8_ne (k := 97) (by decide) hcc
      have HN97 := Lib.hid hcc
      clear hcc
      by_cases hcc : c = 110
      · subst hcc
        have HST := Lib.hid (show stepA (x, ws1) 110 = ({ x with n := numP h0 }, ws1.tail) by rw [HH.out]; rfl)
        have HW := Lib.hid (number_r_walk r ws1 V L1.out.rd L1.out.wv L.br (by rw [← HH.out]; omega))
        rw [← HH.out] at HW
        go_wp2_with fail
        refine HW.out.mono ?_
        rintro e V1 ⟨rfl, hr1, hk1⟩
        have L2 := Lib.hid (L1.out.on L hk1 hr1 L1.out.sh.tail)
        have D2 := Lib.hid (D1.out.keep hk1 (fun k e => by omega))
        have E2 := Lib.hid (E1.out.keep hk1 (fun k e => by omega))
        have cX : V1.cell? ⟨X, 2, none⟩ = some _ := (blk_cells L2.out.bx 2).trans rfl
        have fX := blk_frees L2.out.bx
        clear hr1 hk1
        obtain ⟨u0, hu0⟩ : ∃ u0, u0 = numP h0 := ⟨_, rfl⟩
        rw [← hu0] at HST ⊢
        clear hu0
        go_wp2
        have HQ := Lib.hid (L2.out.set L 2 (.int .i64 u0))
        go_roundw
        case rel => exact ⟨i + 1, { x with n := u0 }, ws1.tail, dv, kv, HQ.out.1, by have := HF.out; rw [drop_cons HC.out, List.foldl_cons, HST.out] at this; exact this, D2.out.keep HQ.out.2 (fun k e => by omega), E2.out.keep HQ.out.2 (fun k e => by omega), by show x.keep.length + _ ≤ _; omega⟩
        case measure => rw [iterPos_of HQ.out.1.it, HP.out]; omega
      have hn110 := u8_ne (k := 110) (by decide) hcc
      have HN110 := Lib.hid hcc
      clear hcc
      by_cases hcc : c = 99
      · subst hcc
        have HST := Lib.hid (show stepA (x, ws1) 99 = ({ x with call := (callR ws1).1 }, (callR ws1).2) from rfl)
        have HW := Lib.hid (call_walk r ws1 V L1.out.rd L1.out.wv L.br L1.out.sh)
        have HLE := Lib.hid (callR_len ws1)
        obtain ⟨⟨y, ws2⟩, hy⟩ : ∃ y : CallP × List Str, y = callR ws1 := ⟨_, rfl⟩
        rw [← hy] at HST HW HLE
        clear hy
        go_wp2_with fail
        refine HW.out.mono ?_
        rintro e V1 ⟨dw, rfl, hd1, hr1, hs1, hk1⟩
        have L2 := Lib.hid (L1.out.on L hk1 hr1 hs1)
        have D2 := Lib.hid (hd1.mono (show X + 1 ≤ _ by omega))
        have E2 := Lib.hid (E1.out.keep hk1 (fun k e => by omega))
        obtain ⟨DA, dc, rfl, _⟩ := D2.out
        have bX := blk_cells L2.out.bx
        have c3 : V1.cell? ⟨X, 3, none⟩ = some (.int .i64 x.call.kind) := (bX 3).trans rfl
        have c4 : V1.cell? ⟨X, 4, none⟩ = some (.string ⟨x.call.path.toArray⟩) := (bX 4).trans rfl
        have c5 : V1.cell? ⟨X, 5, none⟩ = some (.string ⟨x.call.other.toArray⟩) := (bX 5).trans rfl
        have c6 : V1.cell? ⟨X, 6, none⟩ = some (.int .i64 x.call.file) := (bX 6).trans rfl
        have c7 : V1.cell? ⟨X, 7, none⟩ = some (.int .i64 x.call.at_) := (bX 7).trans rfl
        have c8 : V1.cell? ⟨X, 8, none⟩ = some (.int .i64 x.call.size) := (bX 8).trans rfl
        have c9 : V1.cell? ⟨X, 9, none⟩ = some dv := (bX 9).trans rfl
        have fX := blk_frees L2.out.bx
        clear hd1 hr1 hs1 hk1 bX
        unfold CallP.cells
        go_wp2
        have HQ := Lib.hid (setC_on L L2.out y (.slice DA y.data.length dc))
        have hle2 : ws2.length ≤ ws1.length := HLE.out
        go_roundw
        case rel => exact ⟨i + 1, { x with call := y }, ws2, .slice DA y.data.length dc, kv, HQ.out.1, by have := HF.out; rw [drop_cons HC.out, List.foldl_cons, HST.out] at this; exact this, D2.out.keep HQ.out.2 (fun k e => by omega), E2.out.keep HQ.out.2 (fun k e => by omega), by show x.keep.length + _ ≤ _; omega⟩
        case measure => exact (show has.length - (setC V1 X (.int .i64 y.kind) (.string ⟨y.path.toArray⟩) (.string ⟨y.other.toArray⟩) (.int .i64 y.file) (.int .i64 y.at_) (.int .i64 y.size) (.slice DA y.data.length dc)).iterPos (X + 1) < has.length - wr.iterPos (X + 1) by rw [iterPos_of HQ.out.1.it, HP.out]; omega)
      have hn99 := u8_ne (k := 99) (by decide) hcc
      have HN99 := Lib.hid hcc
      clear hcc
      by_cases hcc : c = 107
      · subst hcc
        have HST := Lib.hid (show stepA (x, ws1) 107 = ({ x with keep := x.keep ++ ws1.map numP }, []) from rfl)
        go_upto_region 14 with fail
        obtain ⟨wo, rfl⟩ : ∃ wo : World, wo = wr := ⟨_, rfl⟩
        have HS0 : Hid (KInv r w.heap.size X (X + 1) B has w V (i + 1) x (x.keep ++ ws1.map numP) dv) := Lib.hid ⟨x.keep, ws1, kv, L1.out, rfl, D1.out, E1.out⟩
        go_loopw [40] (fun _ wx => KInv r w.heap.size X (X + 1) B has w wx (i + 1) x (x.keep ++ ws1.map numP) dv) (fun _ wx => restLen wx r)
        case atStart => exact HS0.out
        case round =>
          obtain ⟨ks1, ws2, kv2, hL2, hks, hd2, he2⟩ := hrel
          have L2 := Lib.hid hL2
          have D2 := Lib.hid hd2
          have E2 := Lib.hid he2
          have HKS := Lib.hid hks
          have HRL := Lib.hid (restLen_of hL2.rd)
          obtain ⟨rb, ro, rc, hrb, _⟩ := hL2.rd
          have cr : wr.cell? ⟨r, 0, none⟩ = some (.slice (some ⟨rb, ro, none⟩) ws2.length rc) := (blk_cells hrb 0).trans rfl
          have hkl := congrArg List.length hks
          simp only [List.length_append, List.length_map] at hkl
          clear hL2 hks hd2 he2 hrb
          cases ws2 with
          | nil =>
            have HKL := Lib.hid hkl
            clear hkl
            simp only [List.length_nil] at cr
            go_wp2
            go_roundw
            case rel =>
              have hks := HKS.out
              rw [List.map_nil, List.append_nil] at hks
              have hkl := HKL.out
              exact ⟨i + 1, { x with keep := ks1 }, [], dv, kv2, L2.out, by have := HF.out; rw [drop_cons HC.out, List.foldl_cons, HST.out, ← hks] at this; exact this, D2.out, E2.out, by show ks1.length + 0 ≤ _; simp only [List.length_nil] at hkl; omega⟩
            case measure => rw [iterPos_of L2.out.it, HP.out]; omega
          | cons s ws3 =>
            obtain ⟨KA, kc, rfl, hown, hKA⟩ := E2.out
            have HN := Lib.hid (number_r_walk r (s :: ws3) wr.drew (L2.out.rd.below (Below.refl _ _).drew) (L2.out.wv.below (Below.refl _ _).drew) L.br (Nat.le_trans L2.out.sh.head (by omega)))
            have c10 : wr.cell? ⟨X, 10, none⟩ = some (.slice KA ks1.length kc) := (blk_cells L2.out.bx 10).trans rfl
            have hk2 : ks1.length + 1 ≤ 1000000000000 := by simp only [List.length_cons] at hkl; omega
            have HOW := Lib.hid hown
            have HKA := Lib.hid hKA
            simp only [List.length_cons] at cr
            clear hkl hown hKA
            go_wp2
            go_region_law (first | (go_simp; go_at_call 41; refine HN.out.mono ?_; rintro e V1 ⟨rfl, hr1, hk1⟩; have k1 : Hid (Keep (fun k => k = r) wr V1) := Lib.hid (((Keep.refl (fun k => k = r) wr).drew).trans hk1 (fun _ _ h => h)); have L3 := Lib.hid (L2.out.on L k1.out hr1 L2.out.sh.tail); have D3 := Lib.hid (D2.out.keep k1.out (fun k e => by omega)); have c10b : V1.cell? ⟨X, 10, none⟩ = some (.slice KA ks1.length kc) := (blk_cells L3.out.bx 10).trans rfl; have c10c : (V1.alloc (.cells #[.int .i64 (numP s)] 3)).cell? ⟨X, 10, none⟩ = some (.slice KA ks1.length kc) := ((Keep.refl (fun _ => False) V1).alloc _).cell c10b id; clear hr1 hk1 c10 cr) | (go_must (refine step_app (by rfl) eltI (by rfl) (by rfl) (by rfl) (n := ks1.length) (m := 1) (own_keep HOW.out (k1.out.alloc _) (fun k e e2 => by have := HKA.out k (by rw [ownBlock_slice] at e; exact e); omega)) (Sl.of_own (own_new V1 #[.int .i64 (numP s)] 3 1 1 rfl (by decide))) (by simp [Value.oneCell']) (by omega) (by simp only [maxLen]; omega) ?_; intro v3 w3 g1 g2 g3 g4; clear g4; obtain ⟨A3, c3, rfl, _⟩ := Rd.of_own g1; have G := keep_end L L3.out D3.out HOW.out HKA.out k1.out g1 g2 g3; have L4 := Lib.hid G.1; have D4 := Lib.hid G.2.1; have E4 := Lib.hid G.2.2; have c10d : w3.cell? ⟨X, 10, none⟩ = some (.slice KA ks1.length kc) := (blk_cells L4.out.bx 10).trans rfl; have fX := blk_frees L4.out.bx; clear G g1 g2 g3 c10b c10c)))
            all_goals
              go_wp2
              have HQ := L4.out.set L 10 (.slice A3 (ks1.length + 1) c3)
              refine ⟨⟨ks1 ++ [numP s], ws3, .slice A3 (ks1.length + 1) c3, HQ.1, by rw [List.append_assoc]; exact HKS.out, D4.out.keep HQ.2 (fun k e => by omega), E4.out.keep HQ.2 (fun k e => by omega)⟩, ?_⟩
              rw [restLen_of HQ.1.rd, HRL.out]
              exact Nat.lt_succ_self _
      have hn107 := u8_ne (k := 107) (by decide) hcc
      have HN107 := Lib.hid hcc
      clear hcc
      have HST := Lib.hid (show stepA (x, ws1) c = (x, ws1) by unfold stepA; rw [if_neg HN97.out, if_neg HN110.out, if_neg HN99.out, if_neg HN107.out])
      go_wp2
      go_roundw
      case rel => exact ⟨i + 1, x, ws1, dv, kv, L1.out, by have := HF.out; rw [drop_cons HC.out, List.foldl_cons, HST.out] at this; exact this, D1.out, E1.out, hln⟩
      case measure => rw [iterPos_of L1.out.it, HP.out]; omega
    · obtain rfl : i = has.length := by omega
      have hnx : ∀ ty, (Instr.next (.pointer (some ⟨X + 1, 0, none⟩)) true ty).run Tryd.prog wr = .ok (.tuple #[.bool false]) wr := fun ty => Lib.run_next_end_at (P := Tryd.prog) wr (X + 1) ⟨has.toArray⟩ has.length ty hit (show ¬ has.length < has.length by omega)
      have HE : Hid ((x, ws1) = fin) := Lib.hid (by have := HF.out; rw [List.drop_length] at this; exact this)
      obtain ⟨A, dc, hdv, _⟩ := HD.out
      subst hdv
      obtain ⟨KA, kc, hkv, _⟩ := HKP.out
      subst hkv
      have bX := blk_cells HL.out.bx
      have bR := blk_cells HL.out.br
      have fR := blk_frees HL.out.br
      have d0 : wr.cell? ⟨X, 0, none⟩ = some (.int .i64 x.kind) := (bX 0).trans rfl
      have d1 : wr.cell? ⟨X, 1, none⟩ = some (.int .i64 x.a) := (bX 1).trans rfl
      have d2 : wr.cell? ⟨X, 2, none⟩ = some (.int .i64 x.n) := (bX 2).trans rfl
      have d3 : wr.cell? ⟨X, 3, none⟩ = some (.int .i64 x.call.kind) := (bX 3).trans rfl
      have d4 : wr.cell? ⟨X, 4, none⟩ = some (.string ⟨x.call.path.toArray⟩) := (bX 4).trans rfl
      have d5 : wr.cell? ⟨X, 5, none⟩ = some (.string ⟨x.call.other.toArray⟩) := (bX 5).trans rfl
      have d6 : wr.cell? ⟨X, 6, none⟩ = some (.int .i64 x.call.file) := (bX 6).trans rfl
      have d7 : wr.cell? ⟨X, 7, none⟩ = some (.int .i64 x.call.at_) := (bX 7).trans rfl
      have d8 : wr.cell? ⟨X, 8, none⟩ = some (.int .i64 x.call.size) := (bX 8).trans rfl
      have d9 : wr.cell? ⟨X, 9, none⟩ = some (.slice A x.call.data.length dc) := (bX 9).trans rfl
      have d10 : wr.cell? ⟨X, 10, none⟩ = some (.slice KA x.keep.length kc) := (bX 10).trans rfl
      have r0 : wr.cell? ⟨w.heap.size, 0, none⟩ = some (.int .i64 0) := (bR 0).trans rfl
      have r1 : wr.cell? ⟨w.heap.size, 1, none⟩ = some (.int .i64 0) := (bR 1).trans rfl
      have r2 : wr.cell? ⟨w.heap.size, 2, none⟩ = some (.int .i64 0) := (bR 2).trans rfl
      have r3 : wr.cell? ⟨w.heap.size, 3, none⟩ = some (.int .i64 0) := (bR 3).trans rfl
      have r4 : wr.cell? ⟨w.heap.size, 4, none⟩ = some (.string ⟨#[]⟩) := (bR 4).trans rfl
      have r5 : wr.cell? ⟨w.heap.size, 5, none⟩ = some (.string ⟨#[]⟩) := (bR 5).trans rfl
      have r6 : wr.cell? ⟨w.heap.size, 6, none⟩ = some (.int .i64 0) := (bR 6).trans rfl
      have r7 : wr.cell? ⟨w.heap.size, 7, none⟩ = some (.int .i64 0) := (bR 7).trans rfl
      have r8 : wr.cell? ⟨w.heap.size, 8, none⟩ = some (.int .i64 0) := (bR 8).trans rfl
      have r9 : wr.cell? ⟨w.heap.size, 9, none⟩ = some (.slice none 0 0) := (bR 9).trans rfl
      have r10 : wr.cell? ⟨w.heap.size, 10, none⟩ = some (.slice none 0 0) := (bR 10).trans rfl
      clear bX bR hit hle
      go_wp2
      change bodyPost _ _ _ _ _ (set11 wr w.heap.size (.int .i64 x.kind) (.int .i64 x.a) (.int .i64 x.n) (.int .i64 x.call.kind) (.string ⟨x.call.path.toArray⟩) (.string ⟨x.call.other.toArray⟩) (.int .i64 x.call.file) (.int .i64 x.call.at_) (.int .i64 x.call.size) (.slice A x.call.data.length dc) (.slice KA x.keep.length kc))
      have hf := set11_blk HL.out.br (.int .i64 x.kind) (.int .i64 x.a) (.int .i64 x.n) (.int .i64 x.call.kind) (.string ⟨x.call.path.toArray⟩) (.string ⟨x.call.other.toArray⟩) (.int .i64 x.call.file) (.int .i64 x.call.at_) (.int .i64 x.call.size) (.slice A x.call.data.length dc) (.slice KA x.keep.length kc)
      have kf := set11_keep wr w.heap.size (.int .i64 x.kind) (.int .i64 x.a) (.int .i64 x.n) (.int .i64 x.call.kind) (.string ⟨x.call.path.toArray⟩) (.string ⟨x.call.other.toArray⟩) (.int .i64 x.call.file) (.int .i64 x.call.at_) (.int .i64 x.call.size) (.slice A x.call.data.length dc) (.slice KA x.keep.length kc)
      generalize set11 wr w.heap.size (.int .i64 x.kind) (.int .i64 x.a) (.int .i64 x.n) (.int .i64 x.call.kind) (.string ⟨x.call.path.toArray⟩) (.string ⟨x.call.other.toArray⟩) (.int .i64 x.call.file) (.int .i64 x.call.at_) (.int .i64 x.call.size) (.slice A x.call.data.length dc) (.slice KA x.keep.length kc) = Wf at hf kf ⊢
      have bf := blk_cells hf
      have e0 := (bf 0).trans rfl
      have e1 := (bf 1).trans rfl
      have e2 := (bf 2).trans rfl
      have e3 := (bf 3).trans rfl
      have e4 := (bf 4).trans rfl
      have e5 := (bf 5).trans rfl
      have e6 := (bf 6).trans rfl
      have e7 := (bf 7).trans rfl
      have e8 := (bf 8).trans rfl
      have e9 := (bf 9).trans rfl
      have e10 := (bf 10).trans rfl
      have hrw : r ≠ w.heap.size := by omega
      have hRD : RDs r ws1 Wf := HL.out.rd.keep kf hrw (fun b cs fr hb e => by
        subst e
        rw [HL.out.br] at hb
        injection hb with hb
        injection hb with _ hb _
        exact absurd hb (by decide))
      have hDD : DataIs w.heap.size Wf (.slice A x.call.data.length dc) x.call.data := (HD.out.keep kf (fun k e => by have := L.rx; omega)).mono (by have := L.rx; omega)
      have hEE : KeepIs w.heap.size Wf (.slice KA x.keep.length kc) x.keep := (HKP.out.keep kf (fun k e => by have := L.rx; omega)).mono (by have := L.rx; omega)
      have hKK : Keep (fun k => k = r) w Wf := HL.out.kp.trans kf (fun k hk e => by omega)
      have hSS := HL.out.sh
      have HPOST : Hid (ActPost r fin w (.returned (.agg (x.cells (.slice A x.call.data.length dc) (.slice KA x.keep.length kc)))) Wf) := Lib.hid (by rw [← HE.out]; exact ⟨_, _, rfl, hDD, hEE, hRD, hSS, hKK⟩)
      clear hf kf bf hRD hDD hKK hSS hEE
      refine bodyPost_ret (v := .agg (x.cells (.slice A x.call.data.length dc) (.slice KA x.keep.length kc))) (by simp [results, Tryd.results22, go_sem, e0, e1, e2, e3, e4, e5, e6, e7, e8, e9, e10]; try rfl) rfl HPOST.out
end Go.Proofs.YtpdnfcgdcndhpaaDoor
