/- The acts of a script. -/
import Derived.Test.YtpdnfcgdcndhpaaDoorActH
import Derived.WalkMore
import Derived.ScopeJumps
set_option linter.unusedSimpArgs false
set_option linter.unusedVariables false
namespace Go.Proofs.YtpdnfcgdcndhpaaDoor
open Go.RowKit

attribute [local go_sem ↓] Go.wp_at_zero Go.wp_at_succ
/-- As Q; by a goto to label l: J l. -/
def jumps (J : Nat → Act → World → Prop) (Q : Exit → Act → World → Prop) : Exit → Act → World → Prop
  | .goto l, a, w => J l a w
  | e, a, w => Q e a w
/-- A scope with labels: what holds at each jump, and a measure that every jump lowers. -/
theorem wp_scope_labels {P : Program} {a : Act} {w : World} {Q : Exit → Act → World → Prop} {c : Code} (J : Nat → Act → World → Prop) (μ : Nat → Act → World → Nat)
    (pass : ∀ l a w, J l a w → ∃ rest, findLabel c l = some (Code.skip.seq rest) ∧ rest.wp P (jumps (fun l' a' w' => J l' a' w' ∧ μ l' a' w' < μ l a w) Q) a w)
    (first : (∀ l rest a w, findLabel c l = some (Code.skip.seq rest) → J l a w → rest.wp P (jumps J Q) a w) → c.wp P (jumps J Q) a w) : (Code.scope c).wp P Q a w := by
  intro b k cs
  have key : ∀ n l a w, μ l a w = n → J l a w → ∀ rest, findLabel c l = some rest → ∃ e a' w', Q e a' w' ∧ Arrives P (lone (b.at a (.code rest :: .inScope c :: k)) cs w) b k cs e a' w' := by
    intro n
    induction n using Nat.strongRecOn with
    | _ n ih =>
      intro l a w hn hJ rest hf
      obtain ⟨rest', hf', hp⟩ := pass l a w hJ
      obtain rfl := Option.some.inj (hf.symm.trans hf')
      obtain ⟨e, a₁, w₁, hq, harr⟩ := (wp_seq (wp_skip hp) : (Code.skip.seq rest').wp P (jumps (fun l' a' w' => J l' a' w' ∧ μ l' a' w' < μ l a w) Q) a w) b (.inScope c :: k) cs
      cases e with
      | normal => exact ⟨.normal, a₁, w₁, hq, Steps.trans harr (.one step_inScope)⟩
      | exit id => exact ⟨.exit id, a₁, w₁, hq, fun k' hk => harr k' (by simp [exitTo, hk])⟩
      | goto l' =>
        obtain ⟨hJ', hlt⟩ := hq
        obtain ⟨rest2, hf2, _⟩ := pass l' a₁ w₁ hJ'
        have hg : gotoIn l' (.inScope c :: k) = some (.code (Code.skip.seq rest2) :: .inScope c :: k) := by simp [gotoIn, hf2]
        obtain ⟨e₂, a₂, w₂, hq₂, harr₂⟩ := ih _ (by omega) l' a₁ w₁ rfl hJ' _ hf2
        exact ⟨e₂, a₂, w₂, hq₂, .of_steps (harr _ hg) harr₂⟩
      | ret => exact ⟨_, a₁, w₁, hq, harr⟩
      | panic ch => exact ⟨_, a₁, w₁, hq, harr⟩
      | outgrown => exact ⟨_, a₁, w₁, hq, harr⟩
  obtain ⟨e, a₁, w₁, hq, harr⟩ := first (fun l rest a w hf hJ => by
    obtain ⟨rest', hf', hp⟩ := pass l a w hJ
    obtain rfl : rest = rest' := by injection hf.symm.trans hf' with h; injection h
    exact wp_mono hp (fun e a w h => by cases e <;> first | exact h | exact h.1)) b (.inScope c :: k) cs
  cases e with
  | normal => exact ⟨.normal, a₁, w₁, hq, .head step_scope (Steps.trans harr (.one step_inScope))⟩
  | exit id => exact ⟨.exit id, a₁, w₁, hq, fun k' hk => .head step_scope (harr k' (by simp [exitTo, hk]))⟩
  | goto l' =>
    obtain ⟨rest2, hf2, _⟩ := pass l' a₁ w₁ hq
    have hg : gotoIn l' (.inScope c :: k) = some (.code (Code.skip.seq rest2) :: .inScope c :: k) := by simp [gotoIn, hf2]
    obtain ⟨e₂, a₂, w₂, hq₂, harr₂⟩ := key _ l' a₁ w₁ rfl hq _ hf2
    exact ⟨e₂, a₂, w₂, hq₂, .of_steps (.head step_scope (harr _ hg)) harr₂⟩
  | ret => exact ⟨_, a₁, w₁, hq, .of_steps (.one step_scope) harr⟩
  | panic ch => exact ⟨_, a₁, w₁, hq, .of_steps (.one step_scope) harr⟩
  | outgrown => exact ⟨_, a₁, w₁, hq, .of_steps (.one step_scope) harr⟩
/-- An act and its two slices' values. -/
abbrev AV := ActP × Value × Value
def av (p : AV) : List Value := (p.1.cells p.2.1 p.2.2).toList
def flatA (L : List AV) : List Value := L.flatMap av
def AVok (w : World) (p : AV) : Prop := DataT w p.2.1 p.1.call.data ∧ KeepT w p.2.2 p.1.keep
theorem flatA_app (a b : List AV) : flatA (a ++ b) = flatA a ++ flatA b := by simp [flatA]
/-- Acts in a slice, as they can be read. -/
def ActsIs (w : World) (v : Value) (xs : List ActP) : Prop := ∃ (L : List AV) (A : Option Addr) (c : Nat), v = .slice A L.length c ∧ Sl w 11 (.slice A L.length c) L.length (flatA L) ∧ L.map Prod.fst = xs ∧ ∀ p ∈ L, AVok w p
theorem ActsIs.below {w w' : World} {v : Value} {xs : List ActP} (h : ActsIs w v xs) (hk : Below w.heap.size w w') : ActsIs w' v xs := by
  obtain ⟨L, A, c, rfl, hs, he, ha⟩ := h
  exact ⟨L, A, c, rfl, hs.below hk, he, fun p hp => ⟨(ha p hp).1.below hk, (ha p hp).2.below hk⟩⟩
theorem ActsIs.nil (w : World) : ActsIs w (.slice none 0 0) [] := ⟨[], none, 0, rfl, Sl.of_own (own_nil' w 0 0 11), rfl, by simp⟩
/-- Acts that are being collected. -/
structure AO (w0 wr : World) (L : List AV) (A : Option Addr) (c : Nat) : Prop where
  own : wr.ownsRow 0 27 11 (.slice A L.length c) L.length (flatA L)
  fresh : ∀ k, A.map (·.block) = some k → w0.heap.size ≤ k
  be : Below w0.heap.size w0 wr
  ok : ∀ p ∈ L, AVok wr p
theorem AO.on {w0 wr W : World} {L : List AV} {A : Option Addr} {c : Nat} (h : AO w0 wr L A c) (hk : Below wr.heap.size wr W) : AO w0 W L A c :=
  ⟨own_keep h.own (Keep.of_below (S := fun _ => False) hk) (fun _ _ h => h), h.fresh, h.be.trans (hk.mono h.be.size), fun p hp => ⟨(h.ok p hp).1.below hk, (h.ok p hp).2.below hk⟩⟩
theorem AO.app {w0 wr W w4 : World} {L : List AV} {A A4 : Option Addr} {c c4 H : Nat} (p : AV) (h : AO w0 wr L A c) (hW : Below wr.heap.size wr W) (hp : AVok wr p) (hH : wr.heap.size ≤ H)
    (g1 : w4.ownsRow 0 27 11 (.slice A4 (L.length + 1) c4) (L.length + 1) (flatA L ++ av p)) (g2 : Keep (fun k => (Value.slice A L.length c).ownBlock = some k) W w4)
    (g3 : (Value.slice A4 (L.length + 1) c4).ownBlock = (Value.slice A L.length c).ownBlock ∨ (Value.slice A4 (L.length + 1) c4).ownBlock = some H) : AO w0 w4 (L ++ [p]) A4 c4 := by
  have h1 := h.on hW
  have hp1 : AVok W p := ⟨hp.1.below hW, hp.2.below hW⟩
  have k2 : Keep (fun k => A.map (·.block) = some k) W w4 := g2.mono (fun k _ e => by rw [ownBlock_slice] at e; exact e)
  have hne : ∀ (u : TypeId) k cs fr, 27 ≠ u → W.heap[k]? = some (.cells cs u fr) → ¬ A.map (·.block) = some k := fun u k cs fr hu hb e => own_ne_blk h1.own hb hu (by rw [ownBlock_slice]; exact e) rfl
  have keep1 : ∀ q, AVok W q → AVok w4 q := fun q hq => ⟨hq.1.keep k2 (fun k cs fr hb => hne _ k cs fr (by decide) hb), hq.2.keep k2 (fun k cs fr hb => hne _ k cs fr (by decide) hb)⟩
  refine ⟨by rw [List.length_append, flatA_app]; simpa [flatA] using g1, fun k e => ?_, h1.be.trans (k2.below (fun k e => h.fresh k e) h1.be.size), fun q hq => ?_⟩
  · rcases g3 with h3 | h3 <;> rw [ownBlock_slice] at h3
    · rw [ownBlock_slice] at h3
      exact h.fresh k (h3 ▸ e)
    · rw [e] at h3
      injection h3 with h3
      have := h.be.size
      omega
  · rcases List.mem_append.1 hq with hq | hq
    · exact keep1 q (h1.ok q hq)
    · rw [List.mem_singleton.1 hq]
      exact keep1 p hp1
theorem one_act : ∀ u ∈ (Value.agg ((ActP.new 0).cells (.slice none 0 0) (.slice none 0 0))).cells.toList, u.oneCell' = true := by
  intro u hu
  have h : u ∈ ((ActP.new 0).cells (.slice none 0 0) (.slice none 0 0)).toList := hu
  simp only [ActP.cells, List.mem_cons, List.not_mem_nil, or_false] at h
  rcases h with rfl | rfl | rfl | rfl | rfl | rfl | rfl | rfl | rfl | rfl | rfl <;> rfl
theorem eltA : Elt Tryd.prog 39 27 11 136 := Elt.mk' (z := .agg ((ActP.new 0).cells (.slice none 0 0) (.slice none 0 0))) (by kernel_rfl) (by kernel_rfl) (by kernel_rfl) one_act (by decide)
def actsGo : Nat → Str → List ActP → Int → List ActP × Int × Int
  | 0, _, out, _ => (out, 0, 0)
  | f + 1, t, out, n => if t = [] then (if 4096 < out.length then ([], 0, 9) else (out, 0, 0)) else
      match actOf (Lib.cut t [10]).1 with
      | none => ([], n + 1, 5)
      | some x => actsGo f (Lib.cut t [10]).2.1 (out ++ [x]) (n + 1)
def actsP (s : Str) : List ActP × Int × Int := if 65536 < s.length then ([], 0, 9) else actsGo (s.length + 1) s [] 0
theorem cut_lt {t : Str} (h : t ≠ []) : (Lib.cut t [10]).1.length ≤ t.length ∧ (Lib.cut t [10]).2.1.length < t.length := by
  have h0 := List.length_pos_iff.2 h
  unfold Lib.cut
  split
  · refine ⟨List.length_take_le' _ _, ?_⟩
    simp only [List.length_drop, List.length_singleton]
    omega
  · exact ⟨Nat.le_refl _, h0⟩
def ActsRes (fin : List ActP × Int × Int) (w : World) (e : Ending) (w' : World) : Prop := ∃ v, e = .returned (.tuple #[v, .int .i64 fin.2.1, .int .i64 fin.2.2]) ∧ ActsIs w' v fin.1 ∧ Below w.heap.size w w'
def strLen : Value → Nat | .string b => b.data.toList.length | _ => 0
def aμ (l : Nat) (a : Act) (_ : World) : Nat := strLen (a.tmps.getD 0 undef)
def AJ (fin : List ActP × Int × Int) (w : World) (l : Nat) (a : Act) (wr : World) : Prop :=
  l = 0 ∧ ∃ (t : Str) (L : List AV) (A : Option Addr) (c : Nat) (n : Nat) (u7 u8 u9 u10 u11 u12 u13 u14 u15 u16 u17 u18 u19 u20 u21 u22 u23 u24 u25 u26 u27 u28 u29 u30 u31 u32 u33 u34 u35 u36 u37 u38 u39 u40 u41 u42 : Value), a = { tmps := #[.string ⟨t.toArray⟩, undef, .slice none 0 0, .int .i64 0, .int .i64 0, .slice A L.length c, .int .i64 n, u7, u8, u9, u10, u11, u12, u13, u14, u15, u16, u17, u18, u19, u20, u21, u22, u23, u24, u25, u26, u27, u28, u29, u30, u31, u32, u33, u34, u35, u36, u37, u38, u39, u40, u41, u42], defers := [] } ∧
    AO w wr L A c ∧ (∃ f, t.length < f ∧ actsGo f t (L.map Prod.fst) (n : Int) = fin) ∧ n + t.length ≤ 65536 ∧ L.length ≤ n
set_option maxRecDepth 100000 in
set_option maxHeartbeats 8000000 in
theorem acts1_walk {B : Nat} (s : Str) (w : World) (hw : WV B w) (hs : s.length ≤ 4000000000000) :
    Calls Tryd.prog 14 #[.string ⟨s.toArray⟩] w (ActsRes (actsP s) w) := by
  have HV := Lib.hid hw
  clear hw
  obtain ⟨fin, hfin⟩ : ∃ fin, fin = actsP s := ⟨_, rfl⟩
  rw [← hfin]
  have HFIN := Lib.hid hfin
  clear hfin
  go_enter Tryd.func14, Tryd.ntmps14
  go_wp2_with fail
  refine wp_scope_labels (AJ fin w) aμ ?_ ?_
  · rintro l a' wr ⟨rfl, t, L, A, c, n, u7, u8, u9, u10, u11, u12, u13, u14, u15, u16, u17, u18, u19, u20, u21, u22, u23, u24, u25, u26, u27, u28, u29, u30, u31, u32, u33, u34, u35, u36, u37, u38, u39, u40, u41, u42, rfl, ho, ⟨f, hf, hgo⟩, hnt, hLn⟩
    refine ⟨_, rfl, ?_⟩
    have HO := Lib.hid ho
    have HG := Lib.hid hgo
    have HWV := Lib.hid (HV.out.below ho.be)
    obtain ⟨f, rfl⟩ : ∃ g, f = g + 1 := ⟨f - 1, by omega⟩
    clear ho hgo
    by_cases ht : t = []
    · have ht1 : (t == []) = true := by rw [ht]; rfl
      have ht2 : t.isEmpty = true := by rw [ht]; rfl
      by_cases hbig : 4096 < L.length
      · have HF := Lib.hid (show fin = ([], 0, 9) by rw [← HG.out, actsGo, if_pos ht, if_pos (by rw [List.length_map]; exact hbig)])
        have hb1 : (4096 : Int) < (L.length : Int) := by omega
        clear ht
        go_wp2
        refine bodyPost_ret (v := .tuple #[.slice none 0 0, .int .i64 0, .int .i64 9]) (by simp [results, Tryd.results14, go_sem]) rfl ?_
        rw [HF.out]
        exact ⟨_, rfl, ActsIs.nil _, HO.out.be⟩
      · have HF := Lib.hid (show fin = (L.map Prod.fst, 0, 0) by rw [← HG.out, actsGo, if_pos ht, if_neg (by rw [List.length_map]; exact hbig)])
        have hb1 : ¬ (4096 : Int) < (L.length : Int) := by omega
        clear ht
        go_wp2
        refine bodyPost_ret (v := .tuple #[.slice A L.length c, .int .i64 0, .int .i64 0]) (by simp [results, Tryd.results14, go_sem]) rfl ?_
        rw [HF.out]
        exact ⟨_, rfl, ⟨L, A, c, rfl, Sl.of_own HO.out.own, rfl, HO.out.ok⟩, HO.out.be⟩
    · have ht1 : (t == []) = false := by simpa using ht
      have ht2 : t.isEmpty = false := by simpa using ht
      have hcl := cut_lt ht
      have HC := Lib.hid (cut_any t wr HWV.out (by omega))
      obtain ⟨l0, hl0⟩ : ∃ l0, l0 = (Lib.cut t [10]).1 := ⟨_, rfl⟩
      obtain ⟨r0, hr0⟩ : ∃ r0, r0 = (Lib.cut t [10]).2.1 := ⟨_, rfl⟩
      obtain ⟨b0, hb0⟩ : ∃ b0, b0 = (Lib.cut t [10]).2.2 := ⟨_, rfl⟩
      have HGO := Lib.hid (show fin = match actOf l0 with | none => ([], (n : Int) + 1, 5) | some x => actsGo f r0 (L.map Prod.fst ++ [x]) ((n : Int) + 1) by rw [← HG.out, actsGo, if_neg ht, hl0, hr0])
      rw [← hl0, ← hr0, ← hb0] at HC
      rw [← hl0, ← hr0] at hcl
      clear hl0 hr0 hb0 ht
      go_wp2_with fail
      refine HC.out.mono ?_
      rintro e W1 ⟨rfl, hb1⟩
      have O1 := Lib.hid (HO.out.on hb1)
      have HA := Lib.hid (act1_walk l0 W1 (HWV.out.below hb1) (by omega))
      clear hb1
      go_wp2_with fail
      refine HA.out.mono ?_
      rintro e W2 ⟨v, rfl, ⟨dv, kv, rfl, hd2, hk2⟩, hb2⟩
      have O2 := Lib.hid (O1.out.on hb2)
      obtain ⟨x, hx⟩ : ∃ x, x = actY l0 := ⟨_, rfl⟩
      rw [← hx] at hd2 hk2 ⊢
      have HOKP := Lib.hid (show AVok W2 (x, dv, kv) from ⟨hd2, hk2⟩)
      obtain ⟨DA, dc, rfl, _⟩ := hd2
      obtain ⟨KA, kc, rfl, _⟩ := hk2
      clear hb2
      unfold ActP.cells
      cases ha : actOf l0 with
      | none =>
        have HE := Lib.hid (show actE l0 = 5 by unfold actE; rw [ha]; rfl)
        have HF := Lib.hid (show fin = ([], (n : Int) + 1, 5) by rw [HGO.out, ha])
        rw [HE.out]
        have hn1 : (n : Int) + 1 ≤ 65537 := by omega
        clear ha hx
        go_wp2
        refine bodyPost_ret (v := .tuple #[.slice none 0 0, .int .i64 ((n : Int) + 1), .int .i64 5]) (by simp [results, Tryd.results14, go_sem]) rfl ?_
        rw [HF.out]
        exact ⟨_, rfl, ActsIs.nil _, O2.out.be.alloc O2.out.be.size _⟩
      | some y =>
        have HE := Lib.hid (show actE l0 = 0 by unfold actE; rw [ha]; rfl)
        have HXY := Lib.hid (show x = y by rw [hx]; unfold actY; rw [ha]; rfl)
        have HF := Lib.hid (show actsGo f r0 (L.map Prod.fst ++ [y]) ((n : Int) + 1) = fin by rw [HGO.out, ha])
        rw [HE.out]
        have hn1 : (n : Int) + 1 ≤ 65537 := by omega
        have hS := own_new (W2.alloc (.cells #[.int .i64 x.kind, .int .i64 x.a, .int .i64 x.n, .int .i64 x.call.kind, .string ⟨x.call.path.toArray⟩, .string ⟨x.call.other.toArray⟩, .int .i64 x.call.file, .int .i64 x.call.at_, .int .i64 x.call.size, .slice DA x.call.data.length dc, .slice KA x.keep.length kc] 27)) #[.int .i64 x.kind, .int .i64 x.a, .int .i64 x.n, .int .i64 x.call.kind, .string ⟨x.call.path.toArray⟩, .string ⟨x.call.other.toArray⟩, .int .i64 x.call.file, .int .i64 x.call.at_, .int .i64 x.call.size, .slice DA x.call.data.length dc, .slice KA x.keep.length kc] 27 11 1 rfl (by decide)
        rw [show (W2.alloc (.cells #[.int .i64 x.kind, .int .i64 x.a, .int .i64 x.n, .int .i64 x.call.kind, .string ⟨x.call.path.toArray⟩, .string ⟨x.call.other.toArray⟩, .int .i64 x.call.file, .int .i64 x.call.at_, .int .i64 x.call.size, .slice DA x.call.data.length dc, .slice KA x.keep.length kc] 27)).heap.size = W2.heap.size + 1 by simp] at hS
        have HSX := Lib.hid hS
        have HOA := Lib.hid (O2.out.on ((Below.refl _ W2).alloc (Nat.le_refl _) (.cells #[.int .i64 x.kind, .int .i64 x.a, .int .i64 x.n, .int .i64 x.call.kind, .string ⟨x.call.path.toArray⟩, .string ⟨x.call.other.toArray⟩, .int .i64 x.call.file, .int .i64 x.call.at_, .int .i64 x.call.size, .slice DA x.call.data.length dc, .slice KA x.keep.length kc] 27)))
        have h1 : ∀ u ∈ (#[.int .i64 x.kind, .int .i64 x.a, .int .i64 x.n, .int .i64 x.call.kind, .string ⟨x.call.path.toArray⟩, .string ⟨x.call.other.toArray⟩, .int .i64 x.call.file, .int .i64 x.call.at_, .int .i64 x.call.size, .slice DA x.call.data.length dc, .slice KA x.keep.length kc] : Array Value).toList, u.oneCell' = true := by
          intro u hu
          simp only [List.mem_cons, List.not_mem_nil, or_false] at hu
          rcases hu with rfl | rfl | rfl | rfl | rfl | rfl | rfl | rfl | rfl | rfl | rfl <;> rfl
        have H1 := Lib.hid h1
        clear ha hx hS h1
        go_wp2_with (at_builtin; go_must (refine wpList_app rfl eltA rfl rfl rfl (n := L.length) (m := 1) (own_keep HOA.out.own ((Keep.refl (fun _ => False) _).alloc _) (fun _ _ h => h)) (Sl.of_own HSX.out) H1.out (by omega) (by simp only [maxLen]; omega) ?_))
        intro v4 w4 g1 g2 g3 g4
        clear g4
        obtain ⟨A4, c4, rfl, _⟩ := Rd.of_own g1
        have HE4 := Lib.hid (AO.app (H := W2.heap.size + 1 + 1) (x, .slice DA x.call.data.length dc, .slice KA x.keep.length kc) O2.out (((Below.refl _ W2).alloc (Nat.le_refl _) (.cells #[.int .i64 x.kind, .int .i64 x.a, .int .i64 x.n, .int .i64 x.call.kind, .string ⟨x.call.path.toArray⟩, .string ⟨x.call.other.toArray⟩, .int .i64 x.call.file, .int .i64 x.call.at_, .int .i64 x.call.size, .slice DA x.call.data.length dc, .slice KA x.keep.length kc] 27)).alloc (by simp) (.cells #[.int .i64 x.kind, .int .i64 x.a, .int .i64 x.n, .int .i64 x.call.kind, .string ⟨x.call.path.toArray⟩, .string ⟨x.call.other.toArray⟩, .int .i64 x.call.file, .int .i64 x.call.at_, .int .i64 x.call.size, .slice DA x.call.data.length dc, .slice KA x.keep.length kc] 27)) HOKP.out (by omega) g1 g2 g3)
        clear g1 g2 g3
        go_wp2
        go_step3
        exact ⟨⟨rfl, r0, L ++ [(x, .slice DA x.call.data.length dc, .slice KA x.keep.length kc)], A4, c4, n + 1, _, _, _, _, _, _, _, _, _, _, _, _, _, _, _, _, _, _, _, _, _, _, _, _, _, _, _, _, _, _, _, _, _, _, _, _, by rw [List.length_append]; rfl, HE4.out, ⟨f, by omega, by rw [List.map_append, List.map_cons, List.map_nil, HXY.out]; exact HF.out⟩, by omega, by rw [List.length_append, List.length_singleton]; omega⟩, by show r0.length < t.length; omega⟩
  · intro hfirst
    by_cases hbig : 65536 < s.length
    · have HF := Lib.hid (show fin = ([], 0, 9) by rw [HFIN.out, actsP, if_pos hbig])
      have hb1 : (65536 : Int) < (s.length : Int) := by omega
      clear hfirst
      go_wp2
      refine bodyPost_ret (v := .tuple #[.slice none 0 0, .int .i64 0, .int .i64 9]) (by simp [results, Tryd.results14, go_sem]) rfl ?_
      rw [HF.out]
      exact ⟨_, rfl, ActsIs.nil _, Below.refl _ _⟩
    · have HF := Lib.hid (show actsGo (s.length + 1) s [] 0 = fin by rw [HFIN.out, actsP, if_neg hbig])
      have hb1 : ¬ (65536 : Int) < (s.length : Int) := by omega
      go_wp2
      go_step3
      refine (‹∀ (a : Act) (w : World), Code.wp _ _ _ a w → _›) _ _ (hfirst 0 _ _ _ rfl ?_)
      exact ⟨rfl, s, [], none, 0, 0, _, _, _, _, _, _, _, _, _, _, _, _, _, _, _, _, _, _, _, _, _, _, _, _, _, _, _, _, _, _, _, _, _, _, _, _, rfl, ⟨own_nil' _ _ _ _, by simp, Below.refl _ _, by simp⟩, ⟨s.length + 1, Nat.lt_succ_self _, HF.out⟩, by omega, Nat.le_refl _⟩
end Go.Proofs.YtpdnfcgdcndhpaaDoor
