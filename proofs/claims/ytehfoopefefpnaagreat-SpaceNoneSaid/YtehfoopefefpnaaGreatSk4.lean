/- Words and contracts that the proofs of this set use; each part says what it holds. -/
import Derived.WalkMore
import Derived.ScopeJumps
import Derived.Test.YtehfoopefefpnaaGreatSk3
import Derived.Test.YtehfoopefefpnaaGreatShelfSK
import Derived.Test.YtehfoopefefpnaaGreatShelfS
import Derived.Test.YtehfoopefefpnaaGreatSk0
import Derived.Test.YtehfoopefefpnaaGreatSk2
/- The will's keys, in order. -/
set_option linter.unusedSimpArgs false
set_option linter.unusedVariables false
namespace Go.Proofs.YtehfoopefefpnaaGreat
open Go.RowKit Go.Maps Go.Sort Go.Shelf

theorem sorts_any (m : Nat) : AnyZI.SortsIn Tryz.prog Tryz.sortedA_ren Fence.wide m :=
  ⟨fun blk off cap ss W hH hblk hsz => callsIn_wide.2 (Tryz.slices_Sort_int blk off cap ss W hH hblk hsz),
   fun p cap W => callsIn_wide.2 (Tryz.slices_Sort_int_none p cap W)⟩
theorem keys_walk (b : Nat) (w : World) : Calls Tryz.prog 46 #[.map (some b)] w fun e w' => e = .returned (.func (.func 78) #[] #[.pointer (some ⟨w.heap.size, 0, none⟩)]) ∧ w' = w.alloc (.cells #[.map (some b)] 89) :=
  (callsIn_wide (n := 5)).1 (AnyZI.keys_in Tryz.keysA Fence.wide 5 trivial rfl (some b) w)
theorem sorted_same {ss : List Int} {es : List WE} (h : Rising es) (hp : ss.Perm (intKeys (mapD es))) : ss.mergeSort (fun x y => decide (x ≤ y)) = es.map fun e => (e.at_ : Int) := by
  rw [mapD_keys] at hp
  have h1 : (ss.mergeSort (fun x y => decide (x ≤ y))).Pairwise (fun x y => x ≤ y) := (List.pairwise_mergeSort (le := fun (x y : Int) => decide (x ≤ y)) (fun a b c => by simp; omega) (fun a b => by simp; omega) ss).imp (by simp)
  have h2 : (es.map fun e => (e.at_ : Int)).Pairwise (fun x y => x ≤ y) := by
    rw [List.pairwise_map]
    exact h.imp (fun h => by omega)
  exact List.Perm.eq_of_pairwise (fun a b _ _ h3 h4 => by omega) h1 h2 ((List.mergeSort_perm ss _).trans hp)
theorem sorted_walk (b : Nat) (es : List WE) (w : World) (h : MW w b es) (hr : Rising es) (hn : es.length ≤ 1000) :
    Calls Tryz.prog 45 #[.func (.func 78) #[] #[.pointer (some ⟨w.heap.size, 0, none⟩)]] (w.alloc (.cells #[.map (some b)] 89)) fun e w' => ∃ A c, e = .returned (.slice A es.length c) ∧
      NR w.heap.size 3 1 w' (.slice A es.length c) es.length (nv (es.map (·.at_))) ∧ Below w.heap.size w w' := by
  have hbl := h.lt
  have hsz : Maps.size (mapD es) = es.length := mapD_size es
  have hseq : SeqGives Fence.wide 2 Tryz.prog 78 #[.pointer (some ⟨w.heap.size, 0, none⟩)] encZ (fun ss => ss.Perm (intKeys (mapD es))) (Maps.size (mapD es)) (w.alloc (.cells #[.map (some b)] 89)) :=
    AnyZI.keys_gives (ρ := Tryz.keysA_ren) { Tryz.keysA with } Fence.wide _ trivial rfl (by omega) w.heap.size b es.length (mapD es) _ (by simp) (by simp) (by
      obtain ⟨xs, clock, hb, Ft, hs, hD⟩ := h
      exact ⟨xs, clock, (Below.heap_alloc _ _ b hbl).trans hb, Ft, hs, hD⟩)
  have cS := AnyZI.sorted_in Tryz.sortedA Fence.wide 5 trivial trivial trivial trivial rfl (by omega) (sorts_any _) (enters_of Tryz.func33 (by kernel_rfl) rfl) 78 #[.pointer (some ⟨w.heap.size, 0, none⟩)] trivial (enters_of Tryz.func78 (by kernel_rfl) rfl) _ _ (by rw [hsz]; simp only [maxLen]; omega) (by rw [hsz]; omega) _ hseq
  change CallsIn _ _ Tryz.prog 45 _ _ _ at cS
  refine ((callsIn_wide (n := 5)).1 cS).mono ?_
  rintro e w' ⟨v, ss, rfl, hS, hrow, hnil, hb⟩
  have hl : ss.length = es.length := by rw [hS.length_eq, mapD_keys, List.length_map]
  rw [sorted_same hr hS, hl] at hrow
  have hr0 : w'.ownsRow 0 3 1 v es.length (nv (es.map (·.at_))) := by
    have := ownsRow_base_a (base' := 0) hrow (Nat.zero_le _)
    rw [List.map_map] at this
    unfold nv
    rw [List.map_map]
    exact this
  have hfr : ∀ j, v.ownBlock = some j → w.heap.size ≤ j := fun j e => by
    rcases hrow.2 with ⟨rfl, _⟩ | ⟨g, cap, cur, hv, hbg, _⟩
    · cases e
    · rw [hv] at e
      have e : g = j := Option.some.inj e
      rw [World.size_alloc] at hbg
      omega
  obtain ⟨A, c, rfl, _⟩ := Rd.of_own hr0
  exact ⟨A, c, rfl, ⟨hr0, hfr⟩, ((RowKit.Below.refl _ w).alloc (Nat.le_refl _) _).trans (hb.mono (by simp))⟩
end Go.Proofs.YtehfoopefefpnaaGreat
/- The will: its operations. -/
set_option linter.unusedSimpArgs false
set_option linter.unusedVariables false
namespace Go.Proofs.YtehfoopefefpnaaGreat
open Go.RowKit Go.ChangeMaps Go.MapKept

theorem keyedI : Maps.Keyed Tryz.prog 3 := Maps.int_keyed (q := .i64) Tryz.underlying3
theorem undM : Tryz.prog.underlying 89 = some (.map 3 22) := Tryz.underlying89
theorem wfN {n : Nat} (h : n ≤ 1000000000) : (Lit.int .i64 (n : Int)).wf = true := by
  have e1 : IntKind.i64.min = -9223372036854775808 := by decide
  have e2 : IntKind.i64.max = 9223372036854775807 := by decide
  show (decide (IntKind.i64.min ≤ (n : Int)) && decide ((n : Int) ≤ IntKind.i64.max)) = true
  rw [e1, e2, Bool.and_eq_true, decide_eq_true_eq, decide_eq_true_eq]
  omega
theorem keyN {n : Nat} (h : n ≤ 1000000000) : keyOf Tryz.prog 3 (.int .i64 (n : Int)) = some (.int .i64 (n : Int)) := Maps.keyOf_int_mk (q := .i64) Tryz.underlying3 (wfN h)
theorem zeroSl (w : World) : (zeroValue 22).run Tryz.prog w = .ok (.slice none 0 0) w := by kernel_rfl
theorem MW.look {w : World} {b : Nat} {es : List WE} (h : MW w b es) {n : Nat} (hn : n ≤ 1000000000) : (Instr.lookup 89 (.map (some b)) (.int .i64 (n : Int)) true).run Tryz.prog w = .ok (.tuple #[((getW n es).map WE.val).getD (.slice none 0 0), .bool (getW n es).isSome]) w := by
  obtain ⟨v, ps, hrun, hv⟩ := World.ownsMap.look_ok h keyedI undM (zeroSl w) (zd := .held (.slice none 0 0)) (zp := []) rfl (keyN hn)
  rw [hrun, getW_has]
  rw [getW_at] at hv
  have : v = ((getW n es).map WE.val).getD (.slice none 0 0) := by
    unfold Rv at hv
    cases hg : getW n es with
    | none => rw [hg] at hv; exact (by simpa using hv : v = _ ∧ _).1
    | some e => rw [hg] at hv; exact (by simpa using hv : v = _ ∧ _).1
  rw [this]
theorem MW.look1 {w : World} {b : Nat} {es : List WE} (h : MW w b es) {n : Nat} (hn : n ≤ 1000000000) : (Instr.lookup 89 (.map (some b)) (.int .i64 (n : Int)) false).run Tryz.prog w = .ok (((getW n es).map WE.val).getD (.slice none 0 0)) w := by
  obtain ⟨v, ps, hrun, hv⟩ := World.ownsMap.lookup h keyedI undM (zeroSl w) (zd := .held (.slice none 0 0)) (zp := []) rfl (keyN hn)
  rw [hrun]
  rw [getW_at] at hv
  have : v = ((getW n es).map WE.val).getD (.slice none 0 0) := by
    unfold Rv at hv
    cases hg : getW n es with
    | none => rw [hg] at hv; exact (by simpa using hv : v = _ ∧ _).1
    | some e => rw [hg] at hv; exact (by simpa using hv : v = _ ∧ _).1
  rw [this]
theorem turned_keep {w w' : World} {b : Nat} (h : w.mapTurned w' b) : Keep (fun j => j = b) w w' := by
  have hg := h.grown
  obtain ⟨es, clock, es', clock', hb, rfl⟩ := h
  exact ⟨rfl, rfl, rfl, by simp [setBlock], fun k hk hn => hg.block k hk (fun e => hn (Option.some.inj e))⟩
theorem MW.put {w : World} {b : Nat} {es : List WE} (h : MW w b es) (hr : Rising es) (hl : es.length ≤ 1000) (x : WE) (hn : x.at_ ≤ 1000000000) : ∃ w', (Instr.mapUpdate 89 (.map (some b)) (.int .i64 (x.at_ : Int)) x.val).run Tryz.prog w = .ok () w' ∧ MW w' b (insW x es) ∧ Keep (fun j => j = b) w w' := by
  obtain ⟨w', hrun, h1, h2⟩ := World.ownsMap.store h keyedI undM (by simp only [maxLen]; omega) (keyN hn) (val := x.val) (d := .held x.val) (ps := []) rfl
  rw [insW_put hr] at h1
  exact ⟨w', hrun, MW.of h1, turned_keep h2⟩
theorem MW.len {w : World} {b : Nat} {es : List WE} (h : MW w b es) (ty : TypeId) : (Builtin.len_ #[89] ty #[.map (some b)]).run Tryz.prog w = .ok (.int .i64 (es.length : Int)) w := by
  have := World.ownsMap.len h undM ty
  rw [mapD_size] at this
  exact this
theorem MW.clear {w : World} {b : Nat} {es : List WE} (h : MW w b es) (ty : TypeId) : ∃ w', (Builtin.clear_ #[89] ty #[.map (some b)]).run Tryz.prog w = .ok (.tuple #[]) w' ∧ MW w' b [] ∧ Keep (fun j => j = b) w w' := by
  obtain ⟨xs, clock, hb, F, hs, hD⟩ := h
  refine ⟨setBlock w b (.map #[] clock), ?_, ⟨#[], clock, heap_setBlock_same hb _, ⟨by simp, stamped_empty clock, by simp⟩, Nat.le_refl _, rfl⟩, turned_keep ⟨xs, clock, #[], clock, hb, rfl⟩⟩
  simp [Builtin.clear_, run_underlying undM, MapKept.run_getObj_map hb, MapKept.run_setObj_map _ hb, Result.andThen, setBlock]
theorem MW.keep {S : Nat → Prop} {w w' : World} {b : Nat} {es : List WE} (h : MW w b es) (hk : Keep S w w') (hS : ¬ S b) : MW w' b es := by
  have hlt := World.ownsMap.lt h
  obtain ⟨xs, clock, hb, F, hs, hD⟩ := h
  exact ⟨xs, clock, (hk.block b hlt hS).trans hb, F, hs, hD⟩
end Go.Proofs.YtehfoopefefpnaaGreat
/- Package store: what lies in memory; the small methods. -/
set_option linter.unusedSimpArgs false
set_option linter.unusedVariables false
namespace Go.Proofs.YtehfoopefefpnaaGreat
open Go.RowKit

attribute [local go_sem ↓] Go.wp_at_zero Go.wp_at_succ
structure StS where
  d : DrS
  sup : SuS
  will : List WE
structure StS.ok (s : StS) : Prop where
  on : s.d.on
  len : 64 ≤ s.d.sure.length
  secs : s.sup.sectors = s.d.sure.length
  head : s.d.sure[1]? = some (headE [])
  rise : Rising s.will
  few : s.will.length ≤ 24
  each : ∀ e ∈ s.will, e.at_ < s.d.sure.length ∧ (e.at_ < 1 ∨ 26 ≤ e.at_) ∧ e.d.length = 128
/-- Where a store lies: its block, its drive's, the row of sectors, the will. -/
structure StP where
  k : Nat
  kd : Nat
  g : Nat
  c : Nat
  b : Nat
structure ST (B : Nat) (p : StP) (s : StS) (w : World) : Prop where
  blk : w.heap[p.k]? = some (.cells #[.pointer (some ⟨p.kd, 0, none⟩), .int .i64 (s.sup.sectors : Int), .int .i64 (s.sup.epoch : Int), .int .i64 (s.sup.gens : Int), .map (some p.b), .bool false] 91 (0, 0))
  drv : DR B p.kd s.d w (some ⟨p.g, 0, none⟩) p.c none 0
  will : MW w p.b s.will
  data : ∀ e ∈ s.will, NB B w e.A e.c e.d
  newk : B ≤ p.k
  newb : B ≤ p.b
theorem ST.keep {S : Nat → Prop} {B : Nat} {p : StP} {s : StS} {w w' : World} (h : ST B p s w) (hk : Keep S w w') (h1 : ¬ S p.k) (h2 : ¬ S p.kd) (h3 : ¬ S p.g) (h4 : ¬ S p.b) (h5 : ∀ e ∈ s.will, ∀ j, e.A.map (·.block) = some j → ¬ S j) : ST B p s w' where
  blk := hk.blk h.blk h1
  drv := h.drv.keep hk h2 (fun j e => by obtain rfl : p.g = j := Option.some.inj e; exact h3) (fun j e => by cases e)
  will := h.will.keep hk h4
  data := fun e he => (h.data e he).keep hk (h5 e he)
  newk := h.newk
  newb := h.newb
theorem ST.below {B : Nat} {p : StP} {s : StS} {w w' : World} (h : ST B p s w) (hb : Below w.heap.size w w') : ST B p s w' :=
  h.keep (S := fun _ => False) (Keep.of_below hb) id id id id (fun _ _ _ _ => id)
theorem live_walk (B : Nat) (p : StP) (s : StS) (w : World) (h : ST B p s w) : Calls Tryz.prog 41 #[.pointer (some ⟨p.k, 0, none⟩)] w fun e w' => e = .returned (.int .i64 0) ∧ w' = w := by
  have c5 : w.cell? ⟨p.k, 5, none⟩ = some (.bool false) := (blk_cells h.blk 5).trans rfl
  clear h
  go_enter Tryz.func41, Tryz.ntmps41
  go_wp2
  go_ret
  exact ⟨rfl, rfl⟩
theorem live_nil (w : World) : Calls Tryz.prog 41 #[.pointer none] w fun e w' => e = .returned (.int .i64 1) ∧ w' = w := by
  go_enter Tryz.func41, Tryz.ntmps41
  go_wp2
  go_ret
  exact ⟨rfl, rfl⟩
theorem seen_walk (k : Nat) (e : Int) (he : e ≠ 11) (w : World) : Calls Tryz.prog 47 #[.pointer (some ⟨k, 0, none⟩), .int .i64 e] w fun r w' => r = .returned (.int .i64 e) ∧ w' = w := by
  have h1 : (e == 11) = false := by simpa using he
  go_enter Tryz.func47, Tryz.ntmps47
  go_wp2
  go_ret
  exact ⟨rfl, rfl⟩
end Go.Proofs.YtehfoopefefpnaaGreat
/- Package store: Get. -/
set_option linter.unusedSimpArgs false
set_option linter.unusedVariables false
namespace Go.Proofs.YtehfoopefefpnaaGreat
open Go.RowKit

attribute [local go_sem ↓] Go.wp_at_zero Go.wp_at_succ
/-- A sector, as it would be. -/
def viewS (s : StS) (n : Nat) : Option (List UInt8) := match getW n s.will with
  | some e => some e.d
  | none => s.d.sure[n]?
theorem view_len {s : StS} (h : s.ok) {n : Nat} {d : List UInt8} (hv : viewS s n = some d) : d.length = 128 := by
  unfold viewS at hv
  cases hg : getW n s.will with
  | some e =>
    rw [hg] at hv
    injection hv with hv
    rw [← hv]
    exact (h.each e (getW_mem hg).1).2.2
  | none =>
    rw [hg] at hv
    exact h.on.ok.each d (List.mem_of_getElem? hv)
theorem view_some {s : StS} (h : s.ok) {n : Nat} (hn : n < s.d.sure.length) : ∃ d, viewS s n = some d := by
  unfold viewS
  cases hg : getW n s.will with
  | some e => exact ⟨_, rfl⟩
  | none => exact ⟨_, List.getElem?_eq_getElem hn⟩
def GeP (d : List UInt8) (w : World) (r : Ending) (w' : World) : Prop := ∃ A, r = .returned (.tuple #[.slice A 128 128, .int .i64 0]) ∧ Sl w' 1 (.slice A 128 128) 128 (bv d) ∧ (∀ j, A.map (·.block) = some j → w.heap.size ≤ j) ∧ Below w.heap.size w w'
set_option maxHeartbeats 1000000 in
theorem sget_walk (B : Nat) (p : StP) (s : StS) (w : World) (h : ST B p s w) (hs : s.ok) (n : Nat) (hn : n ≤ 1000000000) (d : List UInt8) (hd : viewS s n = some d) :
    Calls Tryz.prog 30 #[.pointer (some ⟨p.k, 0, none⟩), .int .i64 (n : Int)] w (GeP d w) := by
  have HL := Lib.hid (live_walk B p s w h)
  have hl := view_len hs hd
  have c0 : w.cell? ⟨p.k, 0, none⟩ = some (.pointer (some ⟨p.kd, 0, none⟩)) := (blk_cells h.blk 0).trans rfl
  have c4 : w.cell? ⟨p.k, 4, none⟩ = some (.map (some p.b)) := (blk_cells h.blk 4).trans rfl
  have hlk := h.will.look hn
  unfold viewS at hd
  cases hg : getW n s.will with
  | some e =>
    rw [hg] at hd hlk
    injection hd with hd
    subst hd
    have hq : (.tuple #[((some e : Option WE).map WE.val).getD (.slice none 0 0), .bool (some e : Option WE).isSome] : Value) = .tuple #[.slice e.A 128 e.c, .bool true] := by
      show (.tuple #[.slice e.A e.d.length e.c, .bool true] : Value) = _
      rw [hl]
    rw [hq] at hlk
    have hnb := h.data e (getW_mem hg).1
    have HCL := Lib.hid (clone_walk e.d e.A e.c w hnb.sl (by omega))
    rw [hl] at HCL
    clear h hs hg hnb hq
    go_enter Tryz.func30, Tryz.ntmps30
    go_wp2_with fail
    refine HL.out.mono ?_
    rintro r w' ⟨rfl, rfl⟩
    go_wp2_with fail
    refine HCL.out.mono ?_
    rintro r w1 ⟨A', c', rfl, hob, hb⟩
    obtain ⟨A2, c2, e2, _, hz, hle, _⟩ := hob.nb.sl
    injection e2 with e2 _ e3
    subst e2 e3
    have HCP := Lib.hid (clip_walk A' 128 c' w1 (by omega) (fun e => by obtain ⟨h1, h2⟩ := hz e; exact absurd h1 (by omega)) (by omega))
    have HSL : Hid (Sl w1 1 (.slice A' 128 128) 128 (bv e.d)) := Lib.hid (by
      obtain ⟨A3, c3, e4, hr, _, _, hx⟩ := hob.nb.sl
      injection e4 with e4 _ _
      subst e4
      exact ⟨A', 128, rfl, hr, fun e => by obtain ⟨h1, h2⟩ := hz e; exact absurd h1 (by omega), Nat.le_refl _, by rw [bv_length, hl]⟩)
    have HF := Lib.hid hob.fresh
    have HB := Lib.hid hb
    clear hob hb hz hle
    go_wp2_with fail
    refine HCP.out.mono ?_
    rintro r w2 ⟨rfl, rfl⟩
    go_wp2
    go_ret2
    exact ⟨A', rfl, HSL.out, HF.out, HB.out⟩
  | none =>
    rw [hg] at hd hlk
    have HG := Lib.hid (dget_walk B p.kd s.d w _ p.c 0 h.drv hs.on.ok hs.on.list hs.on.dead n d hd)
    have HS := Lib.hid (fun W => seen_walk p.k 0 (by decide) W)
    replace hlk : (Instr.lookup 89 (.map (some p.b)) (.int .i64 (n : Int)) true).run Tryz.prog w = .ok (.tuple #[.slice none 0 0, .bool false]) w := hlk
    clear h hs hg hd
    go_enter Tryz.func30, Tryz.ntmps30
    go_wp2_with fail
    refine HL.out.mono ?_
    rintro r w' ⟨rfl, rfl⟩
    go_wp2_with fail
    refine HG.out.mono ?_
    rintro r w1 ⟨g, rfl, h1, h2, hb⟩
    have H1 := Lib.hid h1
    have H2 := Lib.hid h2
    have HB := Lib.hid hb
    clear h1 h2 hb
    go_wp2_with fail
    refine (HS.out _).mono ?_
    rintro r w2 ⟨rfl, rfl⟩
    go_wp2
    go_ret2
    exact ⟨_, rfl, H1.out, fun j e => by obtain rfl : g = j := Option.some.inj e; exact H2.out, HB.out⟩
end Go.Proofs.YtehfoopefefpnaaGreat
/- Package store: Put. -/
set_option linter.unusedSimpArgs false
set_option linter.unusedVariables false
namespace Go.Proofs.YtehfoopefefpnaaGreat
open Go.RowKit

attribute [local go_sem ↓] Go.wp_at_zero Go.wp_at_succ
/-- A sector will be another one. -/
def putSt (s : StS) (x : WE) : StS := ⟨s.d, s.sup, insW x s.will⟩
theorem putSt_ok {s : StS} (h : s.ok) {x : WE} (h1 : x.at_ < s.d.sure.length) (h2 : x.at_ < 1 ∨ 26 ≤ x.at_) (h3 : x.d.length = 128) (h4 : (getW x.at_ s.will).isSome = true ∨ s.will.length < 24) : (putSt s x).ok where
  on := h.on
  len := h.len
  secs := h.secs
  head := h.head
  rise := insW_rising h.rise x
  few := by
    show (insW x s.will).length ≤ 24
    rw [insW_len x h.rise]
    have := h.few
    rcases h4 with h4 | h4
    · rw [if_pos h4]; omega
    · split <;> omega
  each := fun e he => by
    rcases insW_mem he with rfl | he
    · exact ⟨h1, h2, h3⟩
    · exact h.each e he
theorem view_put {s : StS} (h : s.ok) (x : WE) (n : Nat) : viewS (putSt s x) n = if x.at_ = n then some x.d else viewS s n := by
  unfold viewS putSt
  show (match getW n (insW x s.will) with | some e => some e.d | none => s.d.sure[n]?) = _
  rw [getW_ins x h.rise]
  by_cases hx : x.at_ = n
  · rw [if_pos hx, if_pos hx]
  · rw [if_neg hx, if_neg hx]
    try rfl
def SpP (B : Nat) (p : StP) (s : StS) (n : Nat) (d : List UInt8) (w : World) (r : Ending) (w' : World) : Prop := ∃ A c, r = .returned (.int .i64 0) ∧ ST B p (putSt s ⟨n, A, c, d⟩) w' ∧ Keep (fun j => j = p.b) w w'
/-- The will is changed. -/
theorem ST.put {B : Nat} {p : StP} {s : StS} {w w1 w2 : World} (h : ST B p s w) (hb : Below w.heap.size w w1) {x : WE} (hx : OB w.heap.size w1 x.A x.c x.d) (hB : B ≤ w.heap.size) (hm : MW w2 p.b (insW x s.will)) (hk : Keep (fun j => j = p.b) w1 w2) : ST B p (putSt s x) w2 ∧ Keep (fun j => j = p.b) w w2 := by
  have h1 := h.below hb
  obtain ⟨xs, clock, hbl, _⟩ := h1.will
  have hne : ∀ j cs t fr, w1.heap[j]? = some (.cells cs t fr) → ¬ j = p.b := fun j cs t fr hj e => by
    rw [e, hbl] at hj
    cases hj
  have hnk : ¬ p.k = p.b := hne _ _ _ _ h1.blk
  have hnd : ¬ p.kd = p.b := hne _ _ _ _ h1.drv.blk
  have hng : ¬ p.g = p.b := by
    obtain ⟨cs, hq⟩ := own_blk h1.drv.sure (k := p.g) rfl
    exact hne _ _ _ _ hq
  refine ⟨⟨hk.blk h1.blk hnk, h1.drv.keep hk hnd (fun j e => by obtain rfl : p.g = j := Option.some.inj e; exact hng) (fun j e => by cases e), hm, fun e he => ?_, h.newk, h.newb⟩, (Keep.of_below hb).trans hk (fun _ _ h => h)⟩
  rcases insW_mem he with rfl | he
  · refine NB.keep (hx.nb.mono hB) hk (fun j e => ?_)
    obtain ⟨_, cs, fr, hj⟩ := hx.nb.fresh j e
    exact hne _ _ _ _ hj
  · refine (h1.data e he).keep hk (fun j e' => ?_)
    obtain ⟨_, cs, fr, hj⟩ := (h1.data e he).fresh j e'
    exact hne _ _ _ _ hj
set_option maxRecDepth 100000 in
set_option maxHeartbeats 4000000 in
theorem sput_walk (B : Nat) (p : StP) (s : StS) (w : World) (h : ST B p s w) (hs : s.ok) (n : Nat) (h1 : n < s.d.sure.length) (h2 : n < 1 ∨ 26 ≤ n) (d : List UInt8) (A : Option Addr) (c : Nat) (hd : Sl w 1 (.slice A 128 c) 128 (bv d)) (hl : d.length = 128) (h4 : (getW n s.will).isSome = true ∨ s.will.length < 24) :
    Calls Tryz.prog 36 #[.pointer (some ⟨p.k, 0, none⟩), .int .i64 (n : Int), .slice A 128 c] w (SpP B p s n d w) := by
  have HL := Lib.hid (live_walk B p s w h)
  have hlen := hs.on.ok.len
  have hn9 : n ≤ 1000000000 := by omega
  have c1 : w.cell? ⟨p.k, 1, none⟩ = some (.int .i64 (s.sup.sectors : Int)) := (blk_cells h.blk 1).trans rfl
  have c4 : w.cell? ⟨p.k, 4, none⟩ = some (.map (some p.b)) := (blk_cells h.blk 4).trans rfl
  have hlk := h.will.look (n := n) (by omega)
  obtain ⟨v, hv⟩ : ∃ v, v = ((getW n s.will).map WE.val).getD (.slice none 0 0) := ⟨_, rfl⟩
  obtain ⟨q, hq⟩ : ∃ q, q = (getW n s.will).isSome := ⟨_, rfl⟩
  obtain ⟨m, hm⟩ : ∃ m, m = s.sup.sectors := ⟨_, rfl⟩
  obtain ⟨z, hz⟩ : ∃ z, z = s.will.length := ⟨_, rfl⟩
  have hln := fun ty => h.will.len ty
  rw [← hz] at hln h4
  rw [← hv, ← hq] at hlk
  rw [← hq] at h4
  rw [← hm] at c1
  rw [← hs.secs, ← hm] at h1
  have HC := Lib.hid (fun W (hW : Below w.heap.size w W) => clone_walk d A c W (by rw [hl]; exact hd.below hW) (by omega))
  rw [hl] at HC
  have HPUT : Hid (∀ W A' c', Below w.heap.size w W → OB w.heap.size W A' c' d → ∃ W', (Instr.mapUpdate 89 (.map (some p.b)) (.int .i64 (n : Int)) (.slice A' 128 c')).run Tryz.prog W = .ok () W' ∧ SpP B p s n d w (.returned (.int .i64 0)) W') := Lib.hid (fun W A' c' hW ho => by
    obtain ⟨W', hu, hm, hk⟩ := ((h.below hW).will).put hs.rise (by have := hs.few; omega) ⟨n, A', c', d⟩ (by exact hn9)
    refine ⟨W', ?_, A', c', rfl, h.put hW ho (Nat.le_of_lt (Nat.lt_of_le_of_lt h.newk (blk_lt h.blk))) hm hk⟩
    have hx : (⟨n, A', c', d⟩ : WE).val = .slice A' 128 c' := by
      show Value.slice A' d.length c' = _
      rw [hl]
    rw [hx] at hu
    exact hu)
  have HB : Hid (B ≤ w.heap.size) := Lib.hid (Nat.le_of_lt (Nat.lt_of_le_of_lt h.newk (blk_lt h.blk)))
  have HH := Lib.hid h
  have HS := Lib.hid hs
  have HDL := Lib.hid hl
  have k0 : ¬ (n : Int) < 0 := by omega
  have k1 : ¬ (m : Int) ≤ (n : Int) := by omega
  clear h hs hd hl hv hq hm hz hlen hn9
  rcases h2 with h2 | h2
  · have k2 : ¬ (1 : Int) ≤ (n : Int) := by omega
    cases q
    · have h4 : z < 24 := by rcases h4 with h4 | h4; cases h4; exact h4
      have k3 : ¬ (24 : Int) ≤ (z : Int) := by omega
      clear h1 h2
      go_enter Tryz.func36, Tryz.ntmps36
      go_wp2_with fail
      refine HL.out.mono ?_
      rintro r w' ⟨rfl, rfl⟩
      go_upto_region 11 with fail
      go_region_law (first
        | (go_simp; go_at_call 65; refine (HC.out _ (by first | exact Below.refl _ _ | exact (Below.refl _ _).drew)).mono ?_; rintro r w1 ⟨A', c', rfl, hob, hb⟩; obtain ⟨w2, hu, hsp⟩ := HPUT.out w1 A' c' (by first | exact hb | exact (Below.refl _ w').drew.trans hb) (by exact hob); have c4b := (Keep.of_below (S := fun _ => False) hb).cell c4 id; have HSP := Lib.hid hsp; clear hob hb hsp))
      all_goals
        go_wp2_with fail
        go_ret
        exact HSP.out
    · clear h1 h2 h4
      go_enter Tryz.func36, Tryz.ntmps36
      go_wp2_with fail
      refine HL.out.mono ?_
      rintro r w' ⟨rfl, rfl⟩
      go_upto_region 11 with fail
      go_region_law (first
        | (go_simp; go_at_call 65; refine (HC.out _ (by first | exact Below.refl _ _ | exact (Below.refl _ _).drew)).mono ?_; rintro r w1 ⟨A', c', rfl, hob, hb⟩; obtain ⟨w2, hu, hsp⟩ := HPUT.out w1 A' c' (by first | exact hb | exact (Below.refl _ w').drew.trans hb) (by exact hob); have c4b := (Keep.of_below (S := fun _ => False) hb).cell c4 id; have HSP := Lib.hid hsp; clear hob hb hsp))
      all_goals
        go_wp2_with fail
        go_ret
        exact HSP.out
  · have k2 : (1 : Int) ≤ (n : Int) := by omega
    have k5 : ¬ (n : Int) < 26 := by omega
    cases q
    · have h4 : z < 24 := by rcases h4 with h4 | h4; cases h4; exact h4
      have k3 : ¬ (24 : Int) ≤ (z : Int) := by omega
      clear h1 h2
      go_enter Tryz.func36, Tryz.ntmps36
      go_wp2_with fail
      refine HL.out.mono ?_
      rintro r w' ⟨rfl, rfl⟩
      go_upto_region 11 with fail
      go_region_law (first
        | (go_simp; go_at_call 65; refine (HC.out _ (by first | exact Below.refl _ _ | exact (Below.refl _ _).drew)).mono ?_; rintro r w1 ⟨A', c', rfl, hob, hb⟩; obtain ⟨w2, hu, hsp⟩ := HPUT.out w1 A' c' (by first | exact hb | exact (Below.refl _ w').drew.trans hb) (by exact hob); have c4b := (Keep.of_below (S := fun _ => False) hb).cell c4 id; have HSP := Lib.hid hsp; clear hob hb hsp))
      all_goals
        go_wp2_with fail
        go_ret
        exact HSP.out
    · clear h1 h2 h4
      go_enter Tryz.func36, Tryz.ntmps36
      go_wp2_with fail
      refine HL.out.mono ?_
      rintro r w' ⟨rfl, rfl⟩
      go_upto_region 11 with fail
      go_region_law (first
        | (go_simp; go_at_call 65; refine (HC.out _ (by first | exact Below.refl _ _ | exact (Below.refl _ _).drew)).mono ?_; rintro r w1 ⟨A', c', rfl, hob, hb⟩; obtain ⟨w2, hu, hsp⟩ := HPUT.out w1 A' c' (by first | exact hb | exact (Below.refl _ w').drew.trans hb) (by exact hob); have c4b := (Keep.of_below (S := fun _ => False) hb).cell c4 id; have HSP := Lib.hid hsp; clear hob hb hsp))
      all_goals
        go_wp2_with fail
        go_ret
        exact HSP.out
end Go.Proofs.YtehfoopefefpnaaGreat
/- Package store: Commit. -/
set_option linter.unusedSimpArgs false
set_option linter.unusedVariables false
namespace Go.Proofs.YtehfoopefefpnaaGreat
open Go.RowKit

attribute [local go_sem ↓] Go.wp_at_zero Go.wp_at_succ
theorem getW_at_ {es : List WE} (h : Rising es) {i : Nat} {x : WE} (hx : es[i]? = some x) : getW x.at_ es = some x := by
  induction es generalizing i with
  | nil => cases hx
  | cons e es ih =>
    obtain ⟨h1, h2⟩ := List.pairwise_cons.1 h
    cases i with
    | zero =>
      obtain rfl : e = x := by simpa using hx
      rw [getW, if_pos rfl]
    | succ i =>
      have hx : es[i]? = some x := by simpa using hx
      have := h1 x (List.mem_of_getElem? hx)
      rw [getW, if_neg (show ¬ e.at_ = x.at_ by omega)]
      exact ih h2 hx
/-- All that will be is. -/
def comSt (s : StS) : StS := ⟨if s.will = [] then s.d else wrS s.d (comW s.will), s.sup, []⟩
def CmI (es : List WE) (w : World) (v4 v20 : Value) (W : World) : Prop := ∃ (i : Nat) (A : Option Addr) (c : Nat), i ≤ es.length ∧ v20 = .int .i64 (i : Int) ∧ v4 = .slice A i c ∧ NR w.heap.size 100 2 W (.slice A i c) i ((es.take i).flatMap WE.cells) ∧ Below w.heap.size w W
def CmP (B : Nat) (p : StP) (s : StS) (w : World) (r : Ending) (w' : World) : Prop := r = .returned (.int .i64 0) ∧ ST B p (comSt s) w' ∧ Keep (fun j => j = p.kd ∨ j = p.g ∨ j = p.b ∨ w.heap.size ≤ j) w w'
/-- A store's blocks are apart. -/
structure Far (p : StP) (s : StS) (w : World) : Prop where
  kkd : p.k ≠ p.kd
  kg : p.k ≠ p.g
  bk : p.b ≠ p.k
  bkd : p.b ≠ p.kd
  bg : p.b ≠ p.g
  kdg : p.kd ≠ p.g
  k : p.k < w.heap.size
  kd : p.kd < w.heap.size
  g : p.g < w.heap.size
  b : p.b < w.heap.size
  data : ∀ e ∈ s.will, ∀ j, e.A.map (·.block) = some j → j ≠ p.k ∧ j ≠ p.kd ∧ j ≠ p.g ∧ j ≠ p.b ∧ j < w.heap.size
theorem ST.far {B : Nat} {p : StP} {s : StS} {w : World} (h : ST B p s w) : Far p s w := by
  obtain ⟨xs, clock, hbl, _⟩ := h.will
  have hne : ∀ j cs t fr, w.heap[j]? = some (.cells cs t fr) → p.b ≠ j := fun j cs t fr hj e => by
    rw [← e, hbl] at hj
    cases hj
  obtain ⟨cg, hg⟩ := own_blk h.drv.sure (k := p.g) rfl
  refine ⟨fun e => blk_ne h.blk h.drv.blk (by decide) e, fun e => blk_ne h.blk hg (by decide) e, hne _ _ _ _ h.blk, hne _ _ _ _ h.drv.blk, hne _ _ _ _ hg, fun e => blk_ne h.drv.blk hg (by decide) e, blk_lt h.blk, blk_lt h.drv.blk, blk_lt hg, World.ownsMap.lt h.will, fun e he j ej => ?_⟩
  obtain ⟨_, cs, fr, hj⟩ := (h.data e he).fresh j ej
  exact ⟨fun e => blk_ne hj h.blk (by decide) e, fun e => blk_ne hj h.drv.blk (by decide) e, fun e => blk_ne hj hg (by decide) e, fun e => hne _ _ _ _ hj e.symm, blk_lt hj⟩
theorem ST.dataK {B : Nat} {p : StP} {s : StS} {w w' : World} (h : ST B p s w) (hk : Keep (drvK p.kd p.g w) w w') {e : WE} (he : e ∈ s.will) : NB B w' e.A e.c e.d :=
  (h.data e he).keep hk (fun j ej h4 => by
    obtain ⟨_, h1, h2, _, h3⟩ := h.far.data e he j ej
    rcases h4 with h4 | h4 | h4
    · exact h1 h4
    · exact h2 h4
    · omega)
theorem ST.wrote {B : Nat} {p : StP} {s : StS} {w w' : World} (h : ST B p s w) {d : DrS} (hd : DR B p.kd d w' (some ⟨p.g, 0, none⟩) p.c none 0) (hk : Keep (drvK p.kd p.g w) w w') : ST B p ⟨d, s.sup, s.will⟩ w' := by
  have F := h.far
  have n : ∀ j, j ≠ p.kd → j ≠ p.g → j < w.heap.size → ¬ drvK p.kd p.g w j := fun j h1 h2 h3 h4 => by
    rcases h4 with h4 | h4 | h4
    · exact h1 h4
    · exact h2 h4
    · omega
  exact ⟨hk.blk h.blk (n _ F.kkd F.kg F.k), hd, h.will.keep hk (n _ F.bkd F.bg F.b), fun e he => (h.data e he).keep hk (fun j ej => by obtain ⟨_, h2, h3, _, h5⟩ := F.data e he j ej; exact n j h2 h3 h5), h.newk, h.newb⟩
theorem ST.cleared {B : Nat} {p : StP} {s : StS} {w w' : World} (h : ST B p s w) (hm : MW w' p.b []) (hk : Keep (fun j => j = p.b) w w') : ST B p ⟨s.d, s.sup, []⟩ w' := by
  have F := h.far
  exact ⟨hk.blk h.blk (fun e => F.bk e.symm), h.drv.keep hk (fun e => F.bkd e.symm) (fun j e => by obtain rfl : p.g = j := Option.some.inj e; exact fun e => F.bg e.symm) (fun j e => by cases e), hm, (fun e he => absurd he (by simp)), h.newk, h.newb⟩
theorem will_good {s : StS} (hs : s.ok) : goodL (s.will.map (·.at_)) where
  len := by rw [List.length_map]; exact hs.few
  each := fun n hn => by
    obtain ⟨e, he, rfl⟩ := List.mem_map.1 hn
    have := hs.each e he
    have := hs.on.ok.len
    show e.at_ < 1024 ∧ (e.at_ < 1 ∨ 26 ≤ e.at_)
    omega
  nd := by
    unfold List.Nodup
    rw [List.pairwise_map]
    exact hs.rise.imp (fun h => by omega)
set_option maxHeartbeats 4000000 in
theorem scommit_walk (B : Nat) (p : StP) (s : StS) (w : World) (h : ST B p s w) (hs : s.ok) :
    Calls Tryz.prog 16 #[.pointer (some ⟨p.k, 0, none⟩)] w (CmP B p s w) := by
  have HL := Lib.hid (live_walk B p s w h)
  have c4 : w.cell? ⟨p.k, 4, none⟩ = some (.map (some p.b)) := (blk_cells h.blk 4).trans rfl
  have hfew := hs.few
  have HSO := Lib.hid (sorted_walk p.b s.will w h.will hs.rise (by omega))
  obtain ⟨m, hm⟩ : ∃ m, m = s.will.length := ⟨_, rfl⟩
  rw [← hm] at HSO hfew
  have HM := Lib.hid hm
  have HH := Lib.hid h
  have HS := Lib.hid hs
  clear h hs hm
  go_enter Tryz.func16, Tryz.ntmps16
  go_wp2_with fail
  refine HL.out.mono ?_
  rintro r w' ⟨rfl, rfl⟩
  go_wp2_with fail
  refine (keys_walk p.b w').mono ?_
  rintro r w1 ⟨rfl, rfl⟩
  go_wp2_with fail
  refine HSO.out.mono ?_
  rintro r w2 ⟨A2, c2, rfl, hnr, hb2⟩
  have HNR := Lib.hid hnr
  have HB2 := Lib.hid hb2
  clear hnr hb2
  go_wp2_with fail
  go_loopw [4, 20] (fun v4 v20 wr => CmI s.will w2 v4 v20 wr) (fun _ v _ => m - (intOf v).toNat)
  case atStart => exact ⟨0, none, 0, Nat.zero_le _, rfl, rfl, NR.nil _ _ _ _, Below.refl _ _⟩
  case round =>
    obtain ⟨i, A6, c6, hi, rfl, rfl, hnr6, hbw⟩ := hrel
    rw [← HM.out] at hi
    have HN6 := Lib.hid hnr6
    have HBW := Lib.hid hbw
    clear hnr6 hbw
    by_cases hlt : i < m
    · have hlt' : i < s.will.length := by rw [← HM.out]; exact hlt
      obtain ⟨x, hx⟩ : ∃ x, s.will[i]? = some x := ⟨s.will[i], List.getElem?_eq_getElem hlt'⟩
      obtain ⟨b, o, e2, _, hc0⟩ := sl_cell (k := i) (u := .int .i64 (x.at_ : Int)) ((Sl.of_own HNR.out.own).below HBW.out) (by unfold nv; rw [List.getElem?_map, List.getElem?_map, hx]; rfl)
      subst e2
      have hse := HS.out.each x (List.mem_of_getElem? hx)
      have hxa : x.at_ ≤ 1000000000 := by have := HS.out.on.ok.len; omega
      have hlk := ((HH.out.below (bstep HB2.out HBW.out)).will).look1 hxa
      rw [getW_at_ HS.out.rise hx] at hlk
      replace hlk : (Instr.lookup 89 (.map (some p.b)) (.int .i64 (x.at_ : Int)) false).run Tryz.prog wr = .ok (.slice x.A x.d.length x.c) wr := hlk
      have c4r := (Keep.of_below (S := fun _ => False) (bstep HB2.out HBW.out)).cell c4 id
      have ga : (i : Int) < (m : Int) := by omega
      have gb : (0 : Int) ≤ (i : Int) := by omega
      have gc : IntKind.i64.wrap ((i : Int) + 1) = (i : Int) + 1 := IntWalk.i64_in _ (by omega)
      have HXX := Lib.hid hx
      have HN3 := Lib.hid (HN6.out.below ((Below.refl _ wr).alloc (Nat.le_refl _) (.cells #[.int .i64 (x.at_ : Int), .slice x.A x.d.length x.c] 100)))
      have HB3 := Lib.hid (HBW.out.trans (((Below.refl _ wr).alloc (Nat.le_refl _) (.cells #[.int .i64 (x.at_ : Int), .slice x.A x.d.length x.c] 100)).mono HBW.out.size))
      clear hx hse hxa hlt'
      go_wp2_with (at_builtin; go_must (refine wpList_app rfl eltWr rfl rfl rfl (n := i) (m := 1) HN3.out.own (Sl.of_own (own_new wr #[.int .i64 (x.at_ : Int), .slice x.A x.d.length x.c] 100 2 1 rfl (by decide))) (by simp [Value.oneCell']) (by omega) (by simp only [maxLen]; omega) ?_))
      intro v5 w5 g4 g5 g6 g7
      clear g7
      obtain ⟨A5, c5, rfl, _⟩ := Rd.of_own g4
      have hG := HN3.out.grown rfl HB3.out g4 g5 (g6.imp id (fun h => h.trans (by rw [World.size_alloc])))
      have HR : Hid (CmI s.will w2 (.slice A5 (i + 1) c5) (.int .i64 ((i : Int) + 1)) w5) := Lib.hid ⟨i + 1, A5, c5, by rw [← HM.out]; exact hlt, by rw [Int.natCast_add]; rfl, rfl, by
        have e : (s.will.take (i + 1)).flatMap WE.cells = (s.will.take i).flatMap WE.cells ++ [.int .i64 (x.at_ : Int), .slice x.A x.d.length x.c] := by
          rw [List.take_add_one, HXX.out]
          simp [WE.cells]
        rw [e]
        exact hG.1, hG.2⟩
      clear hG g4 g5 g6
      go_wp2_with fail
      go_roundw
      case rel => exact HR.out
      case measure => simp only [intOf]; omega
    · obtain rfl : i = m := by omega
      have ga : ¬ (i : Int) < (i : Int) := by omega
      have hB := bstep HB2.out HBW.out
      have hST := HH.out.below hB
      have F := hST.far
      have hrow := HN6.out
      rw [HM.out, List.take_length] at hrow
      have hwr : WR wr A6 c6 s.will := ⟨Sl.of_own hrow.own, fun e he => (hST.data e he).sl⟩
      have hsv : ∀ W, Keep (drvK p.kd p.g wr) wr W → WR W A6 c6 s.will := fun W hW => ⟨(Sl.of_own hrow.own).keep hW (fun j e _ => by
        have h2 := hrow.fresh j e
        have h3 := own_lt hrow.own e
        have h4 := HH.out.far
        have h5 := h4.kd
        have h6 := h4.g
        have h7 := HB2.out.size
        show ¬ (j = p.kd ∨ j = p.g ∨ wr.heap.size ≤ j)
        omega), fun e he => (hST.dataK hW he).sl⟩
      have hB0 : Hid (w'.heap.size ≤ wr.heap.size) := Lib.hid hB.size
      have HBK := Lib.hid hB
      have HST := Lib.hid hST
      have c0 : wr.cell? ⟨p.k, 0, none⟩ = some (.pointer (some ⟨p.kd, 0, none⟩)) := (blk_cells hST.blk 0).trans rfl
      have c4r : wr.cell? ⟨p.k, 4, none⟩ = some (.map (some p.b)) := (blk_cells hST.blk 4).trans rfl
      have HSN := Lib.hid (fun W => seen_walk p.k 0 (by decide) W)
      have HEND : Hid (∀ d W, DR B p.kd d W (some ⟨p.g, 0, none⟩) p.c none 0 → Keep (drvK p.kd p.g wr) wr W → d = (comSt s).d → W.cell? ⟨p.k, 4, none⟩ = some (.map (some p.b)) ∧ ∃ W', (∀ ty, (Builtin.clear_ #[89] ty #[.map (some p.b)]).run Tryz.prog W = .ok (.tuple #[]) W') ∧ CmP B p s w' (.returned (.int .i64 0)) W') := Lib.hid (fun d W hd hk e => by
        have h1 := hST.wrote hd hk
        refine ⟨(blk_cells h1.blk 4).trans rfl, ?_⟩
        obtain ⟨W', hu, hm, hk2⟩ := h1.will.clear 0
        refine ⟨W', fun ty => ?_, rfl, ?_, ?_⟩
        · exact hu
        · have := h1.cleared hm hk2
          rw [e] at this
          exact this
        · exact ((Keep.of_below (S := fun j => j = p.kd ∨ j = p.g ∨ j = p.b ∨ w'.heap.size ≤ j) hB).trans hk (fun j _ h => h.imp id (.imp id (fun h => .inr (Nat.le_trans hB0.out h))))).trans hk2 (fun j _ h => .inr (.inr (.inl h))))
      have HSV := Lib.hid hsv
      have HWR := Lib.hid hwr
      clear hB hST F hrow hwr hsv
      by_cases hz : s.will = []
      · have hi0 : i = 0 := by rw [HM.out, hz]; rfl
        have HC := Lib.hid (commit0_walk p.kd wr A6 c6)
        subst hi0
        go_wp2_with fail
        refine HC.out.mono ?_
        rintro r w3 ⟨rfl, rfl⟩
        go_wp2_with fail
        refine (HSN.out _).mono ?_
        rintro r w4 ⟨rfl, rfl⟩
        obtain ⟨c4s, w5, hu, hp⟩ := HEND.out s.d w4 HST.out.drv (Keep.refl _ _) (by unfold comSt; rw [if_pos hz])
        have HP := Lib.hid hp
        clear hp
        go_wp2_with fail
        go_ret
        exact HP.out
      · have hpos : 0 < s.will.length := by cases hw : s.will with
          | nil => exact absurd hw hz
          | cons a l => rw [List.length_cons]; omega
        have HC := commit_walk B p.kd s.d wr p.g p.c HST.out.drv HS.out.on HS.out.len HS.out.head A6 c6 s.will HWR.out hpos (fun e he => ⟨(HS.out.each e he).1, (HS.out.each e he).2.2⟩) (will_good HS.out) HSV.out
        rw [← HM.out] at HC
        have HC := Lib.hid HC
        go_wp2_with fail
        refine HC.out.mono ?_
        rintro r w3 ⟨rfl, hd3, hk3⟩
        go_wp2_with fail
        refine (HSN.out _).mono ?_
        rintro r w4 ⟨rfl, rfl⟩
        obtain ⟨c4s, w5, hu, hp⟩ := HEND.out _ w4 hd3 hk3 (by unfold comSt; rw [if_neg hz])
        have HP := Lib.hid hp
        clear hp hd3 hk3
        go_wp2_with fail
        go_ret
        exact HP.out
end Go.Proofs.YtehfoopefefpnaaGreat
/- Package store: what Commit leaves; begin. -/
set_option linter.unusedSimpArgs false
set_option linter.unusedVariables false
namespace Go.Proofs.YtehfoopefefpnaaGreat
open Go.RowKit

attribute [local go_sem ↓] Go.wp_at_zero Go.wp_at_succ
theorem comW_each {es : List WE} (h : ∀ e ∈ es, e.d.length = 128) (hn : es.length ≤ 24) : ∀ p ∈ comW es, p.2.length = 128 := by
  intro p hp
  unfold comW at hp
  rcases List.mem_append.1 hp with hp | hp
  · obtain ⟨e, he, rfl⟩ := List.mem_map.1 hp
    exact bodyW_all (P := fun e => e.d.length = 128) he (fun i x _ hx => h x (List.mem_of_getElem? hx))
  · rcases List.mem_append.1 hp with hp | hp
    · obtain rfl : p = (1, headE (es.map (·.at_))) := by simpa using hp
      exact headE_len _ (by rw [List.length_map]; exact hn)
    · rcases List.mem_append.1 hp with hp | hp
      · obtain ⟨e, he, rfl⟩ := List.mem_map.1 hp
        exact h e he
      · obtain rfl : p = (1, headE []) := by simpa using hp
        exact headE_len _ (by decide)
theorem comSt_ok {s : StS} (h : s.ok) : (comSt s).ok := by
  unfold comSt
  by_cases hz : s.will = []
  · rw [if_pos hz]
    exact ⟨h.on, h.len, h.secs, h.head, List.Pairwise.nil, by show 0 ≤ 24; omega, fun e he => absurd he (by simp)⟩
  · rw [if_neg hz]
    have hl : (wrS s.d (comW s.will)).sure.length = s.d.sure.length := flF_len _ _
    exact ⟨wrS_on h.on (comW_each (fun e he => (h.each e he).2.2) h.few), by rw [hl]; exact h.len, by rw [hl]; exact h.secs, comW_head _ _ (by have := h.len; omega), List.Pairwise.nil, by show 0 ≤ 24; omega, fun e he => absurd he (by simp)⟩
theorem flF_get {es : List WE} (h : Rising es) (l : List (List UInt8)) (n : Nat) (hl : ∀ e ∈ es, e.at_ < l.length) : (flF l (esW es))[n]? = match getW n es with | some e => some e.d | none => l[n]? := by
  induction es generalizing l with
  | nil => rfl
  | cons e es ih =>
    obtain ⟨h1, h2⟩ := List.pairwise_cons.1 h
    show (flF (l.set e.at_ e.d) (esW es))[n]? = _
    rw [ih h2 _ (fun x hx => by rw [List.length_set]; exact hl x (List.mem_cons_of_mem _ hx)), getW]
    by_cases he : e.at_ = n
    · rw [if_pos he]
      have hg : getW n es = none := by
        cases hc : getW n es with
        | none => rfl
        | some y =>
          obtain ⟨hy, ha⟩ := getW_mem hc
          have := h1 y hy
          omega
      rw [hg]
      show (l.set e.at_ e.d)[n]? = some e.d
      rw [← he, List.getElem?_set_self (hl e (List.mem_cons_self ..))]
    · rw [if_neg he]
      cases hg : getW n es with
      | some y => rfl
      | none =>
        show (l.set e.at_ e.d)[n]? = l[n]?
        rw [List.getElem?_set_ne he]
theorem view_com {s : StS} (h : s.ok) {n : Nat} (hn : n < 1 ∨ 26 ≤ n) : viewS (comSt s) n = viewS s n := by
  show (comSt s).d.sure[n]? = _
  unfold comSt viewS
  by_cases hz : s.will = []
  · rw [if_pos hz, hz]
    rfl
  · rw [if_neg hz]
    show (flF s.d.sure (comW s.will))[n]? = _
    rw [comW_get _ _ h.few hn, flF_get h.rise _ _ (fun e he => (h.each e he).1)]
    try rfl
/-- The super will be as it is known. -/
def BgP (B : Nat) (p : StP) (s : StS) (w : World) (r : Ending) (w' : World) : Prop := ∃ A, r = .returned (.tuple #[]) ∧ ST B p (putSt s ⟨0, A, 128, superE s.sup⟩) w' ∧ Keep (fun j => j = p.b) w w'
/-- The will is changed: a sector that nothing else holds. -/
theorem ST.putN {B : Nat} {p : StP} {s : StS} {w w1 w2 : World} (h : ST B p s w) (hb : Below w.heap.size w w1) {x : WE} (hx : NB w.heap.size w1 x.A x.c x.d) (hB : B ≤ w.heap.size) (hm : MW w2 p.b (insW x s.will)) (hk : Keep (fun j => j = p.b) w1 w2) : ST B p (putSt s x) w2 ∧ Keep (fun j => j = p.b) w w2 := by
  have h1 := h.below hb
  have F := h1.far
  refine ⟨⟨hk.blk h1.blk (fun e => F.bk e.symm), h1.drv.keep hk (fun e => F.bkd e.symm) (fun j e => by obtain rfl : p.g = j := Option.some.inj e; exact fun e => F.bg e.symm) (fun j e => by cases e), hm, fun e he => ?_, h.newk, h.newb⟩, (Keep.of_below hb).trans hk (fun _ _ h => h)⟩
  rcases insW_mem he with rfl | he
  · refine NB.keep (hx.mono hB) hk (fun j e e2 => ?_)
    obtain ⟨_, cs, fr, hj⟩ := hx.fresh j e
    obtain ⟨xs, clock, hbl, _⟩ := h1.will
    rw [e2, hbl] at hj
    cases hj
  · exact (h1.data e he).keep hk (fun j e' => (F.data e he j e').2.2.2.1)
set_option maxHeartbeats 1000000 in
theorem begin_walk (B : Nat) (p : StP) (s : StS) (w : World) (h : ST B p s w) (hs : s.ok) (hok : s.sup.ok) :
    Calls Tryz.prog 59 #[.pointer (some ⟨p.k, 0, none⟩)] w (BgP B p s w) := by
  have c1 : w.cell? ⟨p.k, 1, none⟩ = some (.int .i64 (s.sup.sectors : Int)) := (blk_cells h.blk 1).trans rfl
  have c2 : w.cell? ⟨p.k, 2, none⟩ = some (.int .i64 (s.sup.epoch : Int)) := (blk_cells h.blk 2).trans rfl
  have c3 : w.cell? ⟨p.k, 3, none⟩ = some (.int .i64 (s.sup.gens : Int)) := (blk_cells h.blk 3).trans rfl
  have c4 : w.cell? ⟨p.k, 4, none⟩ = some (.map (some p.b)) := (blk_cells h.blk 4).trans rfl
  have HE := Lib.hid (sencode_walk s.sup hok w)
  have hv : s.sup.val = .agg #[.int .i64 (s.sup.sectors : Int), .int .i64 (s.sup.epoch : Int), .int .i64 (s.sup.gens : Int)] := rfl
  have HPUT : Hid (∀ W A, Below w.heap.size w W → NB w.heap.size W A 128 (superE s.sup) → W.cell? ⟨p.k, 4, none⟩ = some (.map (some p.b)) ∧ ∃ W', (Instr.mapUpdate 89 (.map (some p.b)) (.int .i64 0) (.slice A 128 128)).run Tryz.prog W = .ok () W' ∧ BgP B p s w (.returned (.tuple #[])) W') := Lib.hid (fun W A hW ho => by
    refine ⟨(blk_cells (h.below hW).blk 4).trans rfl, ?_⟩
    obtain ⟨W', hu, hm, hk⟩ := ((h.below hW).will).put hs.rise (by have := hs.few; omega) ⟨0, A, 128, superE s.sup⟩ (Nat.zero_le _)
    refine ⟨W', ?_, A, rfl, h.putN hW ho (Nat.le_of_lt (Nat.lt_of_le_of_lt h.newk (blk_lt h.blk))) hm hk⟩
    have hx : (⟨0, A, 128, superE s.sup⟩ : WE).val = .slice A 128 128 := by
      show Value.slice A (superE s.sup).length 128 = _
      rw [superE_len]
    rw [hx] at hu
    exact hu)
  rw [hv] at HE
  have HSL := Lib.hid (superE_len s.sup)
  obtain ⟨s1, e1⟩ : ∃ q, q = s.sup.sectors := ⟨_, rfl⟩
  obtain ⟨s2, e2⟩ : ∃ q, q = s.sup.epoch := ⟨_, rfl⟩
  obtain ⟨s3, e3⟩ : ∃ q, q = s.sup.gens := ⟨_, rfl⟩
  rw [← e1] at c1 HE
  rw [← e2] at c2 HE
  rw [← e3] at c3 HE
  clear h hs hok hv e1 e2 e3
  go_enter Tryz.func59, Tryz.ntmps59
  go_wp2_with fail
  refine HE.out.mono ?_
  rintro r w1 ⟨A, d, hd, rfl, hnb, hb⟩
  have hdl : d.length = 128 := by rw [hd]; exact HSL.out
  rw [hdl] at hnb ⊢
  rw [hd] at hnb
  obtain ⟨c4b, w2, hu, hp⟩ := HPUT.out w1 A hb hnb
  have HP := Lib.hid hp
  clear hp hd hnb hb hdl
  go_wp2_with fail
  refine bodyPost_end (results_none rfl _ _ _) rfl ?_
  exact HP.out
end Go.Proofs.YtehfoopefefpnaaGreat
/- Package store: ready, at a drive that is ready. -/
set_option linter.unusedSimpArgs false
set_option linter.unusedVariables false
namespace Go.Proofs.YtehfoopefefpnaaGreat
open Go.RowKit

attribute [local go_sem ↓] Go.wp_at_zero Go.wp_at_succ
/-- A drive that is ready. -/
structure Ready (s : DrS) (sup : SuS) : Prop where
  zero : ∃ b, s.sure[0]? = some b ∧ decS b = some sup
  len : sup.sectors = s.sure.length
  seats : ∀ i, i < 8 → ∃ b x, s.sure[26 + i]? = some b ∧ decE b = some x
def RyI (w : World) (v : Value) (W : World) : Prop := ∃ i : Nat, i ≤ 8 ∧ v = .int .i64 (i : Int) ∧ Below w.heap.size w W
set_option maxRecDepth 100000 in
set_option maxHeartbeats 4000000 in
theorem rdy_walk (B k : Nat) (s : DrS) (w : World) (A : Option Addr) (c : Nat) (h : DR B k s w A c none 0) (hs : s.on) (sup : SuS) (hr : Ready s sup) :
    Calls Tryz.prog 58 #[.pointer (some ⟨k, 0, none⟩)] w fun e w' => e = .returned (.tuple #[sup.val, .int .i64 0]) ∧ Below w.heap.size w w' := by
  obtain ⟨b0, hb0, hd0⟩ := hr.zero
  have hl0 := hs.ok.each b0 (List.mem_of_getElem? hb0)
  obtain ⟨w0, hw0⟩ : ∃ w0, w0 = w.alloc (.cells #[.int .i64 0, .int .i64 0, .int .i64 0] 88) := ⟨_, rfl⟩
  have hbw0 : Below w.heap.size w w0 := by rw [hw0]; exact (Below.refl _ w).alloc (Nat.le_refl _) _
  have hn := blk_new w (.cells #[.int .i64 0, .int .i64 0, .int .i64 0] 88)
  rw [← hw0] at hn
  have HN := Lib.hid hn
  have HG := Lib.hid (dget_walk B k s w0 A c 0 (h.below hbw0) hs.ok hs.list hs.dead 0 _ hb0)
  have HW0 := Lib.hid hw0
  have HBW0 := Lib.hid hbw0
  have HH := Lib.hid h
  have HS := Lib.hid hs
  have HR := Lib.hid hr
  have HL0 := Lib.hid hl0
  have HD0 := Lib.hid hd0
  clear h hs hr hb0 hd0 hl0 hw0 hbw0 hn
  go_enter Tryz.func58, Tryz.ntmps58
  go_wp2_with fail
  rw [← HW0.out]
  refine HG.out.mono ?_
  rintro r w1 ⟨g, rfl, h1, h2, hb1⟩
  have HSD := Lib.hid (sdecode_walk b0 (some ⟨g, 0, none⟩) 128 w1 (by rw [HL0.out]; exact h1) HL0.out)
  have HB1 := Lib.hid (HBW0.out.trans (hb1.mono HBW0.out.size))
  have HN1 := Lib.hid ((Keep.of_below (S := fun _ => False) hb1).blk HN.out id)
  clear h1 h2 hb1
  go_wp2_with fail
  refine HSD.out.mono ?_
  rintro r w2 hr2
  obtain ⟨hb2, he⟩ := hr2
  rw [HD0.out] at he
  subst he
  obtain ⟨s1, e1⟩ : ∃ q, q = sup.sectors := ⟨_, rfl⟩
  obtain ⟨s2, e2⟩ : ∃ q, q = sup.epoch := ⟨_, rfl⟩
  obtain ⟨s3, e3⟩ : ∃ q, q = sup.gens := ⟨_, rfl⟩
  have hv : sup.val = .agg #[.int .i64 (s1 : Int), .int .i64 (s2 : Int), .int .i64 (s3 : Int)] := by rw [e1, e2, e3]
  obtain ⟨w3, hw3⟩ : ∃ w3, w3 = w2.alloc (.cells #[.int .i64 (s1 : Int), .int .i64 (s2 : Int), .int .i64 (s3 : Int)] 88) := ⟨_, rfl⟩
  have hn3 := blk_new w2 (.cells #[.int .i64 (s1 : Int), .int .i64 (s2 : Int), .int .i64 (s3 : Int)] 88)
  have hb3 : Below w2.heap.size w2 w3 := by rw [hw3]; exact (Below.refl _ w2).alloc (Nat.le_refl _) _
  rw [← hw3] at hn3
  have q0 := (blk_cells hn3 0).trans (show _ = some (.int .i64 (s1 : Int)) from rfl)
  have h13 := bstep hb2 hb3
  have HB3 := Lib.hid (HB1.out.trans (h13.mono HB1.out.size))
  have HSE := Lib.hid (sectors_walk B k s w3.drew A c none 0 (HH.out.below HB3.out.drew))
  have hm : s1 = s.sure.length := by rw [e1, HR.out.len]
  rw [← hm] at HSE
  have HN3 := Lib.hid ((Keep.of_below (S := fun _ => False) h13).blk HN1.out id)
  have HM3 := Lib.hid hn3
  have HV := Lib.hid hv
  have HW3 := Lib.hid hw3
  have HNE : Hid (w.heap.size < w2.heap.size) := Lib.hid (by have := blk_lt HN1.out; have := hb2.size; omega)
  clear hb2 hb3 hn3 h13 hm e1 e2 e3 hw3
  rw [hv]
  clear hv
  go_upto_region 5 with fail
  rw [← HW3.out]
  go_region_law (first | (go_simp; go_at_call 55; refine HSE.out.mono ?_; rintro r w' ⟨rfl, rfl⟩))
  all_goals
    go_wp2_with fail
    go_loopw [36] (fun v wr => RyI w3 v wr) (fun v _ => 8 - (intOf v).toNat)
    case atStart => exact ⟨0, Nat.zero_le _, rfl, (Below.refl _ _).drew⟩
    case round =>
      obtain ⟨i, hi, rfl, hbw⟩ := hrel
      have HBW := Lib.hid hbw
      by_cases hlt : i < 8
      · obtain ⟨bs, x, hb, hd⟩ := HR.out.seats i hlt
        have hl := HS.out.ok.each bs (List.mem_of_getElem? hb)
        have HBX := Lib.hid (HB3.out.trans (hbw.mono HB3.out.size))
        have HG2 := dget_walk B k s wr A c 0 (HH.out.below HBX.out) HS.out.ok HS.out.list HS.out.dead (26 + i) _ hb
        obtain ⟨p, hp⟩ : ∃ p : Nat, p = 26 + i := ⟨_, rfl⟩
        rw [← hp] at HG2
        have HG2 := Lib.hid HG2
        have ge : (26 : Int) + (i : Int) = (p : Int) := by omega
        have ga : (i : Int) < 8 := by omega
        have gb : (0 : Int) ≤ (i : Int) := by omega
        have gc : IntKind.i64.wrap ((i : Int) + 1) = (i : Int) + 1 := IntWalk.i64_in _ (by omega)
        have gd : IntKind.i64.wrap (26 + (i : Int)) = (p : Int) := by rw [ge]; exact IntWalk.i64_in _ (by omega)
        have HL := Lib.hid hl
        have HDX := Lib.hid hd
        clear hb hd hl hbw hp ge
        go_wp2_with fail
        refine HG2.out.mono ?_
        rintro r w5 ⟨g5, rfl, h1, _, hb5⟩
        have HED := Lib.hid (edecode_walk bs (some ⟨g5, 0, none⟩) 128 w5 (by rw [HL.out]; exact h1) HL.out)
        have HB5 := Lib.hid (bstep HBW.out hb5)
        clear h1 hb5
        go_wp2_with fail
        refine HED.out.mono ?_
        rintro r w6 ⟨hb6, he⟩
        rw [HDX.out] at he
        obtain ⟨A9, c9, rfl, _⟩ := he
        have HR9 : Hid (RyI w3 (.int .i64 ((i : Int) + 1)) (w6.alloc (.cells #[.int .i64 (x.life : Int), .int .i64 (x.seq : Int), .slice A9 x.reply.length c9] 155))) := Lib.hid ⟨i + 1, hlt, by rw [Int.natCast_add]; rfl, (bstep HB5.out hb6).alloc (bstep HB5.out hb6).size _⟩
        clear hb6
        go_wp2_with fail
        go_roundw
        case rel => exact HR9.out
        case measure => simp only [intOf]; omega
      · obtain rfl : i = 8 := by omega
        have hk9 := Keep.of_below (S := fun _ => False) hbw
        have hn9 := hk9.blk HN3.out id
        have hm9 := hk9.blk HM3.out id
        have n0 := (blk_cells hn9 0).trans (show _ = some (.int .i64 0) from rfl)
        have n1 := (blk_cells hn9 1).trans (show _ = some (.int .i64 0) from rfl)
        have n2 := (blk_cells hn9 2).trans (show _ = some (.int .i64 0) from rfl)
        have f0 := blk_frees hn9 0
        have f1 := blk_frees hn9 1
        have f2 := blk_frees hn9 2
        have m0 := (blk_cells hm9 0).trans (show _ = some (.int .i64 (s1 : Int)) from rfl)
        have m1 := (blk_cells hm9 1).trans (show _ = some (.int .i64 (s2 : Int)) from rfl)
        have m2 := (blk_cells hm9 2).trans (show _ = some (.int .i64 (s3 : Int)) from rfl)
        have HN9 := Lib.hid hn9
        have HB9 := Lib.hid (HB3.out.trans (hbw.mono HB3.out.size))
        clear hk9 hn9 hm9 hbw q0 HSE
        go_wp2_with fail
        have hb := blk_set (blk_set (blk_set HN9.out (.int .i64 (s1 : Int)) (j := 0)) (.int .i64 (s2 : Int)) (j := 1)) (.int .i64 (s3 : Int)) (j := 2)
        have hk : Keep (fun j => j = w.heap.size) wr (((wr.setCell ⟨w.heap.size, 0, none⟩ (.int .i64 (s1 : Int))).setCell ⟨w.heap.size, 1, none⟩ (.int .i64 (s2 : Int))).setCell ⟨w.heap.size, 2, none⟩ (.int .i64 (s3 : Int))) := ((keep_set _ _ 0 _).trans (keep_set _ _ 1 _) (fun _ _ h => h)).trans (keep_set _ _ 2 _) (fun _ _ h => h)
        have HP : Hid (Below w.heap.size w _) := Lib.hid (HB9.out.trans (hk.below (fun j (e : j = w.heap.size) => by omega) HB9.out.size))
        have e0 := (blk_cells hb 0).trans (show _ = some (.int .i64 (s1 : Int)) from rfl)
        have e1 := (blk_cells hb 1).trans (show _ = some (.int .i64 (s2 : Int)) from rfl)
        have e2 := (blk_cells hb 2).trans (show _ = some (.int .i64 (s3 : Int)) from rfl)
        clear hb hk n0 n1 n2 f0 f1 f2 m0 m1 m2
        generalize (((wr.setCell ⟨w.heap.size, 0, none⟩ (.int .i64 (s1 : Int))).setCell ⟨w.heap.size, 1, none⟩ (.int .i64 (s2 : Int))).setCell ⟨w.heap.size, 2, none⟩ (.int .i64 (s3 : Int))) = w9 at e0 e1 e2 HP ⊢
        refine bodyPost_ret (by simp [results, Tryz.results58, go_sem, e0, e1, e2]; try rfl) rfl ?_
        exact ⟨by rw [HV.out], HP.out⟩
end Go.Proofs.YtehfoopefefpnaaGreat
/- Package store: Mount of a drive that is ready. -/
set_option linter.unusedSimpArgs false
set_option linter.unusedVariables false
namespace Go.Proofs.YtehfoopefefpnaaGreat
open Go.RowKit

attribute [local go_sem ↓] Go.wp_at_zero Go.wp_at_succ
theorem decS_ok {b : List UInt8} {s : SuS} (h : decS b = some s) : s.ok := by
  unfold decS at h
  split at h
  · rename_i hc
    injection h with h
    rw [← h]
    exact hc.1
  · cases h
def nextS (sup : SuS) : SuS := ⟨sup.sectors, sup.epoch + 1, sup.gens⟩
theorem nextS_ok {s : SuS} (h : s.ok) (he : s.epoch < 1073741824) : (nextS s).ok := ⟨h.1, h.2.1, by show s.epoch + 1 ≤ _; omega, h.2.2.2⟩
/-- A store that is new. -/
def newSt (d : DrS) (sup : SuS) : StS := ⟨d, nextS sup, []⟩
theorem newSt_ok {d : DrS} {sup : SuS} (h : d.on) (hr : Ready d sup) (hh : d.sure[1]? = some (headE [])) : (newSt d sup).ok := by
  obtain ⟨b, hb, hd⟩ := hr.zero
  have := decS_ok hd
  exact ⟨h, by show 64 ≤ d.sure.length; rw [← hr.len]; exact this.1, hr.len, hh, List.Pairwise.nil, by show 0 ≤ 24; omega, fun e he => absurd he (by simp [newSt])⟩
/-- Behind Mount. -/
def mountS (d : DrS) (sup : SuS) (A : Option Addr) : StS := comSt (putSt (newSt d sup) ⟨0, A, 128, superE (nextS sup)⟩)
def MtP (B : Nat) (kd g c : Nat) (d : DrS) (sup : SuS) (w : World) (r : Ending) (w' : World) : Prop := ∃ (p : StP) (A : Option Addr), p.kd = kd ∧ p.g = g ∧ p.c = c ∧ r = .returned (.tuple #[.pointer (some ⟨p.k, 0, none⟩), .int .i64 0]) ∧ ST B p (mountS d sup A) w' ∧ w.heap.size ≤ p.k ∧ w.heap.size ≤ p.b ∧ Keep (drvK kd g w) w w'
theorem mk_map (w : World) : (Instr.makeMap 89 none).run Tryz.prog w = .ok (.map (some w.heap.size)) (w.alloc (.map #[] 0)) := rfl
set_option maxRecDepth 100000 in
set_option maxHeartbeats 4000000 in
theorem mount_walk (B kd g c : Nat) (d : DrS) (w : World) (h : DR B kd d w (some ⟨g, 0, none⟩) c none 0) (hs : d.on) (sup : SuS) (hr : Ready d sup) (hh : d.sure[1]? = some (headE [])) (he : sup.epoch < 1073741824) :
    Calls Tryz.prog 23 #[.pointer (some ⟨kd, 0, none⟩)] w (MtP B kd g c d sup w) := by
  have HRC := Lib.hid (recover_walk B kd d w _ c h hs hh)
  have HH := Lib.hid h
  have HS := Lib.hid hs
  have HR := Lib.hid hr
  have HHD := Lib.hid hh
  clear h hs hr hh
  go_enter Tryz.func23, Tryz.ntmps23
  go_wp2_with fail
  refine HRC.out.mono ?_
  rintro r w1 ⟨rfl, hb1⟩
  have HB1 := Lib.hid hb1
  have HRD := rdy_walk B kd d w1 _ c (HH.out.below hb1) HS.out sup HR.out
  obtain ⟨s1, e1⟩ : ∃ q : Int, q = (sup.sectors : Int) := ⟨_, rfl⟩
  obtain ⟨s2, e2⟩ : ∃ q : Int, q = (sup.epoch : Int) := ⟨_, rfl⟩
  obtain ⟨s3, e3⟩ : ∃ q : Int, q = (sup.gens : Int) := ⟨_, rfl⟩
  have hv : sup.val = .agg #[.int .i64 s1, .int .i64 s2, .int .i64 s3] := by rw [e1, e2, e3]
  rw [hv] at HRD
  have HRD := Lib.hid HRD
  have hs2 : 0 ≤ s2 ∧ s2 < 1073741824 := by omega
  have HE := Lib.hid (show s1 = ((nextS sup).sectors : Int) ∧ s2 + 1 = ((nextS sup).epoch : Int) ∧ s3 = ((nextS sup).gens : Int) from ⟨e1, by rw [e2]; rfl, e3⟩)
  have HLT : Hid (sup.epoch < 1073741824) := Lib.hid he
  clear hb1 hv e1 e2 e3
  go_wp2_with fail
  refine HRD.out.mono ?_
  rintro r w2 ⟨rfl, hb2⟩
  have HB2 := Lib.hid (bstep HB1.out hb2)
  have g1 : ¬ (1073741824 : Int) ≤ s2 := by omega
  obtain ⟨t, ht⟩ : ∃ t : Int, t = s2 + 1 := ⟨_, rfl⟩
  have g2 : IntKind.i64.wrap (s2 + 1) = t := by rw [IntWalk.i64_in _ (by omega)]; omega
  have HT := Lib.hid ht
  clear hb2 ht hs2 he
  obtain ⟨w3, hw3⟩ : ∃ w3, w3 = w2.alloc (.cells #[.int .i64 s1, .int .i64 s2, .int .i64 s3] 88) := ⟨_, rfl⟩
  have hn3 := blk_new w2 (.cells #[.int .i64 s1, .int .i64 s2, .int .i64 s3] 88)
  have hb3 : Below w2.heap.size w2 w3 := by rw [hw3]; exact (Below.refl _ w2).alloc (Nat.le_refl _) _
  rw [← hw3] at hn3
  have q0 := (blk_cells hn3 0).trans (show _ = some (.int .i64 s1) from rfl)
  have q1 := (blk_cells hn3 1).trans (show _ = some (.int .i64 s2) from rfl)
  have q2 := (blk_cells hn3 2).trans (show _ = some (.int .i64 s3) from rfl)
  have f1 := blk_frees hn3 1
  have HN3 := Lib.hid hn3
  have HB3 := Lib.hid (bstep HB2.out hb3)
  have HW3 := Lib.hid hw3
  clear hn3 hb3 hw3
  go_upto_region 7 with fail
  rw [← HW3.out]
  go_upto_region 10 with fail
  obtain ⟨w4, hw4⟩ : ∃ w4, w4 = w3.setCell ⟨w2.heap.size, 1, none⟩ (.int .i64 t) := ⟨_, rfl⟩
  have hn4 := blk_set HN3.out (.int .i64 t) (j := 1)
  have hk4 := keep_set w3 w2.heap.size 1 (.int .i64 t)
  rw [← hw4] at hn4 hk4 ⊢
  have r0 := (blk_cells hn4 0).trans (show _ = some (.int .i64 s1) from rfl)
  have r1 := (blk_cells hn4 1).trans (show _ = some (.int .i64 t) from rfl)
  have r2 := (blk_cells hn4 2).trans (show _ = some (.int .i64 s3) from rfl)
  have HB4 := Lib.hid (HB3.out.trans (hk4.below (fun j (e : j = w2.heap.size) => by have := HB2.out.size; omega) HB3.out.size))
  clear hw4 hn4 hk4 q0 q1 q2 f1
  have hmk : (Instr.makeMap 89 none).run Tryz.prog w4 = .ok (.map (some w4.heap.size)) (w4.alloc (.map #[] 0)) := mk_map w4
  go_wp2_with fail
  have hm1 := World.ownsMap_made w4 Tryz.prog 3 Rv
  obtain ⟨w5, hw5⟩ : ∃ w5, w5 = (w4.alloc (.map #[] 0)).alloc (.cells #[.pointer (some ⟨kd, 0, none⟩), .int .i64 s1, .int .i64 t, .int .i64 s3, .map (some w4.heap.size), .bool false] 91) := ⟨_, rfl⟩
  have hb5 : Below w4.heap.size w4 w5 := by rw [hw5]; exact ((Below.refl _ w4).alloc (Nat.le_refl _) _).alloc (by simp) _
  have hn5 := blk_new (w4.alloc (.map #[] 0)) (.cells #[.pointer (some ⟨kd, 0, none⟩), .int .i64 s1, .int .i64 t, .int .i64 s3, .map (some w4.heap.size), .bool false] 91)
  have hm5 : MW w5 w4.heap.size [] := by
    rw [hw5]
    exact MW.of (World.ownsMap.alloc hm1 _)
  rw [← hw5] at hn5
  rw [World.size_alloc] at hn5
  have HB5 := Lib.hid (bstep HB4.out hb5)
  have hT : t = ((nextS sup).epoch : Int) := by rw [HT.out]; exact HE.out.2.1
  have hST : ST B ⟨w4.heap.size + 1, kd, g, c, w4.heap.size⟩ (newSt d sup) w5 := {
    blk := by
      rw [HE.out.1, hT, HE.out.2.2] at hn5
      exact hn5
    drv := HH.out.below HB5.out
    will := hm5
    data := fun e he => absurd he (by simp [newSt])
    newk := by have := HH.out.newk; have := blk_lt HH.out.blk; have := HB4.out.size; show B ≤ w4.heap.size + 1; omega
    newb := by have := HH.out.newk; have := blk_lt HH.out.blk; have := HB4.out.size; show B ≤ w4.heap.size; omega }
  have hok := newSt_ok HS.out HR.out HHD.out
  have HBG := Lib.hid (begin_walk B _ _ w5 hST hok (by obtain ⟨b, hb, hd⟩ := HR.out.zero; exact nextS_ok (decS_ok hd) (by have := HLT.out; omega)))
  rw [← hw5]
  refine HBG.out.mono ?_
  rintro r w6 ⟨A6, rfl, hst6, hk6⟩
  have hok2 := putSt_ok hok (x := ⟨0, A6, 128, superE (nextS sup)⟩) (by show 0 < d.sure.length; have := hok.len; have h64 : 64 ≤ d.sure.length := this; omega) (.inl (by show 0 < 1; omega)) (superE_len _) (.inr (by show 0 < 24; omega))
  have HCM := Lib.hid (scommit_walk B _ _ w6 hst6 hok2)
  have HK6 : Hid (Keep (fun j => w.heap.size ≤ j) w w6) := Lib.hid ((Keep.of_below (S := fun j => w.heap.size ≤ j) HB5.out).trans hk6 (fun j _ e => by have e : j = w4.heap.size := e; have := HB4.out.size; show w.heap.size ≤ j; omega))
  have HBS : Hid (w.heap.size ≤ w4.heap.size) := Lib.hid HB4.out.size
  clear hst6 hk6 hok2 hok hST hm5 hm1 hmk hn5 hb5 hT hw5
  go_wp2_with fail
  refine HCM.out.mono ?_
  rintro r w7 ⟨rfl, hst7, hk7⟩
  have HST7 := Lib.hid hst7
  have HK7 : Hid (Keep (drvK kd g w) w w7) := Lib.hid ((HK6.out.mono (T := drvK kd g w) (fun j _ h => .inr (.inr h))).trans hk7 (fun j _ h => by
    rcases h with h | h | h | h
    · exact .inl h
    · exact .inr (.inl h)
    · have h : j = w4.heap.size := h
      have := HBS.out
      exact .inr (.inr (by omega))
    · exact .inr (.inr (Nat.le_trans HK6.out.size h))))
  clear hst7 hk7
  go_wp2
  go_ret2
  exact ⟨⟨w4.heap.size + 1, kd, g, c, w4.heap.size⟩, A6, rfl, rfl, rfl, rfl, HST7.out, by have := HBS.out; show w.heap.size ≤ w4.heap.size + 1; omega, HBS.out, HK7.out⟩
end Go.Proofs.YtehfoopefefpnaaGreat
/- Package marks: a map of what is taken. -/
set_option linter.unusedSimpArgs false
set_option linter.unusedVariables false
namespace Go.Proofs.YtehfoopefefpnaaGreat
open Go.RowKit

attribute [local go_sem ↓] Go.wp_at_zero Go.wp_at_succ
/-- As Q; by a goto to label l: J l. -/
def jumps (J : Nat → Act → World → Prop) (Q : Exit → Act → World → Prop) : Exit → Act → World → Prop
  | .goto l, a, w => J l a w
  | e, a, w => Q e a w
theorem jumps_ret {J : Nat → Act → World → Prop} {Q : Exit → Act → World → Prop} {a : Act} {w : World} (h : Q .ret a w) : jumps J Q .ret a w := h
/-- A scope with labels: what holds at each jump, and a measure that every jump lowers. -/
theorem wp_scope_labels {P : Program} {a : Act} {w : World} {Q : Exit → Act → World → Prop} {c : Code} (J : Nat → Act → World → Prop) (μ : Nat → Act → World → Nat)
    (pass : ∀ l a w, J l a w → ∃ rest, findLabel c l = some (Code.skip.seq rest) ∧ rest.wp P (jumps (fun l' a' w' => J l' a' w' ∧ μ l' a' w' < μ l a w) Q) a w)
    (first : (∀ l rest a w, findLabel c l = some (Code.skip.seq rest) → J l a w → rest.wp P (jumps J Q) a w) → c.wp P (jumps J Q) a w) : (Code.scope c).wp P Q a w := by
  intro b k cs
  have key : ∀ n l a w, μ l a w = n → J l a w → ∀ rest, findLabel c l = some rest → ∃ e a' w', Q e a' w' ∧ Arrives P (lone (b.at a (.code rest :: .inScope c :: k)) cs w) b k cs e a' w' := by
    intro n
    induction n using Nat.strongRecOn with
    | _ n ih =>
      intro l a w hn hJ rest hf
      obtain ⟨rest', hf', hp⟩ := pass l a w hJ
      obtain rfl := Option.some.inj (hf.symm.trans hf')
      obtain ⟨e, a₁, w₁, hq, harr⟩ := (wp_seq (wp_skip hp) : (Code.skip.seq rest').wp P (jumps (fun l' a' w' => J l' a' w' ∧ μ l' a' w' < μ l a w) Q) a w) b (.inScope c :: k) cs
      cases e with
      | normal => exact ⟨.normal, a₁, w₁, hq, Steps.trans harr (.one step_inScope)⟩
      | exit id => exact ⟨.exit id, a₁, w₁, hq, fun k' hk => harr k' (by simp [exitTo, hk])⟩
      | goto l' =>
        obtain ⟨hJ', hlt⟩ := hq
        obtain ⟨rest2, hf2, _⟩ := pass l' a₁ w₁ hJ'
        have hg : gotoIn l' (.inScope c :: k) = some (.code (Code.skip.seq rest2) :: .inScope c :: k) := by simp [gotoIn, hf2]
        obtain ⟨e₂, a₂, w₂, hq₂, harr₂⟩ := ih _ (by omega) l' a₁ w₁ rfl hJ' _ hf2
        exact ⟨e₂, a₂, w₂, hq₂, .of_steps (harr _ hg) harr₂⟩
      | ret => exact ⟨_, a₁, w₁, hq, harr⟩
      | panic ch => exact ⟨_, a₁, w₁, hq, harr⟩
      | outgrown => exact ⟨_, a₁, w₁, hq, harr⟩
  obtain ⟨e, a₁, w₁, hq, harr⟩ := first (fun l rest a w hf hJ => by
    obtain ⟨rest', hf', hp⟩ := pass l a w hJ
    obtain rfl : rest = rest' := by injection hf.symm.trans hf' with h; injection h
    exact wp_mono hp (fun e a w h => by cases e <;> first | exact h | exact h.1)) b (.inScope c :: k) cs
  cases e with
  | normal => exact ⟨.normal, a₁, w₁, hq, .head step_scope (Steps.trans harr (.one step_inScope))⟩
  | exit id => exact ⟨.exit id, a₁, w₁, hq, fun k' hk => .head step_scope (harr k' (by simp [exitTo, hk]))⟩
  | goto l' =>
    obtain ⟨rest2, hf2, _⟩ := pass l' a₁ w₁ hq
    have hg : gotoIn l' (.inScope c :: k) = some (.code (Code.skip.seq rest2) :: .inScope c :: k) := by simp [gotoIn, hf2]
    obtain ⟨e₂, a₂, w₂, hq₂, harr₂⟩ := key _ l' a₁ w₁ rfl hq _ hf2
    exact ⟨e₂, a₂, w₂, hq₂, .of_steps (.head step_scope (harr _ hg)) harr₂⟩
  | ret => exact ⟨_, a₁, w₁, hq, .of_steps (.one step_scope) harr⟩
  | panic ch => exact ⟨_, a₁, w₁, hq, .of_steps (.one step_scope) harr⟩
  | outgrown => exact ⟨_, a₁, w₁, hq, .of_steps (.one step_scope) harr⟩
def onP (b : List UInt8) (n : Nat) : Bool := (b.getD (n / 8) 0).toNat / 2 ^ (n % 8) % 2 == 1
theorem right_walk (A : Option Addr) (c n : Nat) (hn : n < 1024) (w : World) : Calls Tryz.prog 128 #[.slice A 128 c, .int .i64 (n : Int)] w fun e w' => e = .returned (.int .i64 0) ∧ w' = w := by
  have h1 : ¬ (n : Int) < 0 := by omega
  have h2 : ¬ (1024 : Int) ≤ (n : Int) := by omega
  go_enter Tryz.func128, Tryz.ntmps128
  go_wp2
  go_ret
  exact ⟨rfl, rfl⟩
theorem stretch_walk (A : Option Addr) (c m n : Nat) (hm : m ≤ n) (hn : n ≤ 1024) (w : World) : Calls Tryz.prog 83 #[.slice A 128 c, .int .i64 (m : Int), .int .i64 (n : Int)] w fun e w' => e = .returned (.int .i64 0) ∧ w' = w := by
  have h1 : ¬ (m : Int) < 0 := by omega
  have h2 : ¬ (1024 : Int) < (n : Int) := by omega
  have h3 : ¬ (n : Int) < (m : Int) := by omega
  go_enter Tryz.func83, Tryz.ntmps83
  go_wp2
  go_ret
  exact ⟨rfl, rfl⟩
theorem on_walk (b : List UInt8) (A : Option Addr) (c n : Nat) (hn : n < 1024) (w : World) (h : Sl w 1 (.slice A 128 c) 128 (bv b)) : Calls Tryz.prog 84 #[.slice A 128 c, .int .i64 (n : Int)] w fun e w' => e = .returned (.bool (onP b n)) ∧ w' = w := by
  have hl : b.length = 128 := by obtain ⟨_, _, _, _, _, _, hl⟩ := h; simpa [bv] using hl
  obtain ⟨x, hx⟩ : ∃ x, b[n / 8]? = some x := ⟨b[n / 8], List.getElem?_eq_getElem (by omega)⟩
  obtain ⟨g, o, rfl, _, hc⟩ := bv_at h hx
  have he : onP b n = (x.toNat / 2 ^ (n % 8) % 2 == 1) := by unfold onP; rw [List.getD_eq_getElem?_getD, hx]; rfl
  have e1 : (n : Int) / 8 = ((n / 8 : Nat) : Int) := by omega
  have e2 : bits .and .i64 (n : Int) 7 = ((n % 8 : Nat) : Int) := and7_i64 n (by omega)
  obtain ⟨m, hm⟩ : ∃ m, m = n / 8 := ⟨_, rfl⟩
  obtain ⟨k, hk⟩ : ∃ k, k = n % 8 := ⟨_, rfl⟩
  rw [← hm] at e1 hc
  rw [← hk] at e2 he
  have i0 : (0 : Int) ≤ (m : Int) := by omega
  have i1 : (m : Int) < 128 := by omega
  have i2 : (0 : Int) ≤ (k : Int) := by omega
  have i3 : (k : Int) < 8 := by omega
  have HE := Lib.hid he
  clear h hx he hm hk
  go_enter Tryz.func84, Tryz.ntmps84
  have hxl := x.toNat_lt
  have hdl : x.toNat / 2 ^ k < 256 := Nat.lt_of_le_of_lt (Nat.div_le_self _ _) (by omega)
  have hb1 : bits .and .u8 ((x.toNat : Int) / 2 ^ k) 1 = ((x.toNat / 2 ^ k % 2 : Nat) : Int) := by
    have := bits_and_u8 (x.toNat / 2 ^ k) 1 hdl (by decide)
    rw [Nat.and_one_is_mod] at this
    rw [← this]
    congr 1
  have HB1 := Lib.hid hb1
  clear hb1 hdl
  go_wp2
  go_ret
  refine ⟨congrArg (fun n => Ending.returned (.bool n)) ?_, rfl⟩
  rw [HB1.out, HE.out, Bool.eq_iff_iff, beq_iff_eq, beq_iff_eq]
  omega
def firstP (b : List UInt8) : Nat → Nat → Option Nat
  | _, 0 => none
  | m, k + 1 => if onP b m then firstP b (m + 1) k else some m
def countP (b : List UInt8) : Nat → Nat → Nat
  | _, 0 => 0
  | m, k + 1 => (if onP b m then 1 else 0) + countP b (m + 1) k
theorem countP_le (b : List UInt8) (m k : Nat) : countP b m k ≤ k := by
  induction k generalizing m with
  | zero => exact Nat.le_refl _
  | succ k ih =>
    have := ih (m + 1)
    unfold countP
    split <;> omega
theorem countP_snoc (b : List UInt8) (m k : Nat) : countP b m (k + 1) = countP b m k + if onP b (m + k) then 1 else 0 := by
  induction k generalizing m with
  | zero => simp [countP]
  | succ k ih =>
    rw [countP, ih (m + 1), countP, show m + 1 + k = m + (k + 1) by omega]
    omega
def CI (b : List UInt8) (m n : Nat) (v9 v10 : Value) : Prop := ∃ k : Nat, m + k ≤ n ∧ v10 = .int .i64 ((m + k : Nat) : Int) ∧ v9 = .int .i64 (countP b m k : Int)
theorem count_walk (b : List UInt8) (A : Option Addr) (c m n : Nat) (hm : m ≤ n) (hn : n ≤ 1024) (w : World) (h : Sl w 1 (.slice A 128 c) 128 (bv b)) : Calls Tryz.prog 49 #[.slice A 128 c, .int .i64 (m : Int), .int .i64 (n : Int)] w fun e w' => e = .returned (.tuple #[.int .i64 (countP b m (n - m) : Int), .int .i64 0]) ∧ w' = w := by
  have HS := Lib.hid (stretch_walk A c m n hm hn w)
  have HO := Lib.hid (fun k hk => on_walk b A c k hk w h)
  clear h
  go_enter Tryz.func49, Tryz.ntmps49
  go_wp2_with fail
  refine HS.out.mono ?_
  rintro e W ⟨rfl, hWW⟩
  have hWW' := hWW.symm
  subst hWW'
  clear hWW
  go_wp2_with fail
  go_loop [9, 10] (fun v9 v10 => CI b m n v9 v10) (fun _ v => n - (intOf v).toNat)
  case atStart => exact ⟨0, by omega, rfl, rfl⟩
  case round =>
    obtain ⟨k, hk, rfl, rfl⟩ := hrel
    have hcl := countP_le b m k
    have hcs := countP_snoc b m k
    obtain ⟨q, hq⟩ : ∃ q, q = countP b m k := ⟨_, rfl⟩
    obtain ⟨z, hz⟩ : ∃ z, z = m + k := ⟨_, rfl⟩
    rw [← hq] at hcl hcs ⊢
    rw [← hz] at hcs hk ⊢
    have g2 : IntKind.i64.wrap ((z : Int) + 1) = (z : Int) + 1 := IntWalk.i64_in _ (by omega)
    have g3 : IntKind.i64.wrap ((q : Int) + 1) = (q : Int) + 1 := IntWalk.i64_in _ (by omega)
    by_cases hlt : z < n
    · have g1 : (z : Int) < (n : Int) := by omega
      have HZ := Lib.hid hz
      have HQ := Lib.hid hq
      have HOz := Lib.hid (HO.out z (by omega))
      cases ho : onP b z with
      | true =>
        rw [ho] at HOz hcs
        have HCS := Lib.hid hcs
        clear hz hq ho hcs
        go_wp2_with fail
        refine HOz.out.mono ?_
        rintro e W ⟨rfl, hWW⟩
        have hWW' := hWW.symm
        subst hWW'
        clear hWW
        go_wp2_with fail
        exact ⟨⟨k + 1, by have := HZ.out; omega, by congr 1; have := HZ.out; omega, by rw [HCS.out]; rfl⟩, by simp only [intOf]; omega⟩
      | false =>
        rw [ho] at HOz hcs
        have HCS := Lib.hid hcs
        clear hz hq ho hcs
        go_wp2_with fail
        refine HOz.out.mono ?_
        rintro e W ⟨rfl, hWW⟩
        have hWW' := hWW.symm
        subst hWW'
        clear hWW
        go_wp2_with fail
        exact ⟨⟨k + 1, by have := HZ.out; omega, by congr 1; have := HZ.out; omega, by rw [HCS.out]; rfl⟩, by simp only [intOf]; omega⟩
    · obtain rfl : z = n := by omega
      have g1 : ¬ (z : Int) < (z : Int) := by omega
      have HQ : Hid (q = countP b m (z - m)) := Lib.hid (by rw [hq, show z - m = k by omega])
      clear hz hq hcs
      go_wp2
      go_ret2
      exact ⟨by rw [HQ.out]; rfl, rfl⟩
def fμ (n l : Nat) (a : Act) (_ : World) : Nat := n - (intOf (a.tmps.getD 9 undef)).toNat
def FJ (b : List UInt8) (A : Option Addr) (c m n : Nat) (R : Option Nat) (w : World) (l : Nat) (a : Act) (wr : World) : Prop := l = 0 ∧ wr = w ∧ ∃ (z : Nat) (u10 u11 u12 u13 u14 u15 u16 u17 u18 u19 u20 u21 u22 u23 u24 u25 u26 : Value), z ≤ n ∧ firstP b z (n - z) = R ∧ a = { tmps := #[.slice A 128 c, .int .i64 (m : Int), .int .i64 (n : Int), undef, undef, undef, .int .i64 0, .int .i64 0, .int .i64 0, .int .i64 (z : Int), u10, u11, u12, u13, u14, u15, u16, u17, u18, u19, u20, u21, u22, u23, u24, u25, u26], defers := [] }
set_option maxHeartbeats 2000000 in
theorem first_walk (b : List UInt8) (A : Option Addr) (c m n : Nat) (hm : m ≤ n) (hn : n ≤ 1024) (w : World) (h : Sl w 1 (.slice A 128 c) 128 (bv b)) (R : Option Nat) (hR : firstP b m (n - m) = R) : Calls Tryz.prog 110 #[.slice A 128 c, .int .i64 (m : Int), .int .i64 (n : Int)] w fun e w' => e = .returned (.tuple #[.int .i64 ((R.getD 0 : Nat) : Int), .int .i64 (if R.isSome then 0 else 10)]) ∧ w' = w := by
  have HS := Lib.hid (stretch_walk A c m n hm hn w)
  have HO := Lib.hid (fun k hk => on_walk b A c k hk w h)
  have HR := Lib.hid hR
  clear h hR
  go_enter Tryz.func110, Tryz.ntmps110
  go_wp2_with fail
  refine wp_scope_labels (FJ b A c m n R w) (fμ n) ?_ ?_
  · rintro l a' wr ⟨rfl, rfl, z, u10, u11, u12, u13, u14, u15, u16, u17, u18, u19, u20, u21, u22, u23, u24, u25, u26, hz, hR, rfl⟩
    refine ⟨_, rfl, ?_⟩
    by_cases hlt : z = n
    · subst hlt
      have e0 : ((z : Int) == (z : Int)) = true := beq_iff_eq.2 rfl
      have HRR : Hid (R = none) := Lib.hid (by rw [← hR, Nat.sub_self]; rfl)
      clear hR
      go_wp2
      refine jumps_ret ?_
      go_ret2
      exact ⟨by rw [HRR.out]; rfl, rfl⟩
    · have e0 : ((z : Int) == (n : Int)) = false := beq_eq_false_iff_ne.2 (by omega)
      have hst : firstP b z (n - z) = if onP b z then firstP b (z + 1) (n - (z + 1)) else some z := by rw [show n - z = (n - (z + 1)) + 1 by omega, firstP]
      have HOz := Lib.hid (HO.out z (by omega))
      rw [hR] at hst
      cases ho : onP b z with
      | true =>
        rw [ho, if_pos rfl] at hst
        rw [ho] at HOz
        have HST := Lib.hid hst
        have g2 : IntKind.i64.wrap ((z : Int) + 1) = (z : Int) + 1 := IntWalk.i64_in _ (by omega)
        clear ho hst hR
        go_wp2_with fail
        refine HOz.out.mono ?_
        rintro e W ⟨rfl, hWW⟩
        have hWW' := hWW.symm
        subst hWW'
        clear hWW
        go_wp2
        go_step3
        exact ⟨⟨rfl, rfl, z + 1, _, _, _, _, _, _, _, _, _, _, _, _, _, _, _, _, _, by omega, HST.out.symm, by rw [Int.natCast_add]; rfl⟩, by show n - ((z : Int) + 1).toNat < n - (z : Int).toNat; omega⟩
      | false =>
        rw [ho, if_neg (by decide)] at hst
        rw [ho] at HOz
        have HST := Lib.hid hst
        clear ho hst hR
        go_wp2_with fail
        refine HOz.out.mono ?_
        rintro e W ⟨rfl, hWW⟩
        have hWW' := hWW.symm
        subst hWW'
        clear hWW
        go_wp2
        refine jumps_ret ?_
        go_ret2
        exact ⟨by rw [HST.out]; rfl, rfl⟩
  · intro hfirst
    go_wp2_with fail
    refine HS.out.mono ?_
    rintro e W ⟨rfl, hWW⟩
    have hWW' := hWW.symm
    subst hWW'
    clear hWW
    go_wp2
    go_step3
    refine (‹∀ (a : Act) (w : World), Code.wp _ _ _ a w → _›) _ _ (hfirst 0 _ _ _ rfl ?_)
    exact ⟨rfl, rfl, m, _, _, _, _, _, _, _, _, _, _, _, _, _, _, _, _, _, hm, HR.out, rfl⟩
end Go.Proofs.YtehfoopefefpnaaGreat
/- Package marks: a map in which a number is marked, or not. -/
set_option linter.unusedSimpArgs false
set_option linter.unusedVariables false
namespace Go.Proofs.YtehfoopefefpnaaGreat
open Go.RowKit

attribute [local go_sem ↓] Go.wp_at_zero Go.wp_at_succ
def flipB (x : UInt8) (k : Nat) : UInt8 := UInt8.ofNat (x.toNat ^^^ 2 ^ k)
def setP (b : List UInt8) (n : Nat) (yes : Bool) : List UInt8 := if onP b n = yes then b else b.set (n / 8) (flipB (b.getD (n / 8) 0) (n % 8))
theorem setP_len (b : List UInt8) (n : Nat) (yes : Bool) : (setP b n yes).length = b.length := by unfold setP; split <;> simp
theorem onP_bit (b : List UInt8) (n : Nat) : onP b n = (b.getD (n / 8) 0).toNat.testBit (n % 8) := by
  unfold onP
  rw [Nat.testBit_eq_decide_div_mod_eq]
  rfl
theorem flipB_bit (x : UInt8) (k j : Nat) (hk : k < 8) (hj : j < 8) : (flipB x k).toNat.testBit j = (x.toNat.testBit j != decide (k = j)) := by
  have hx := x.toNat_lt
  have h2 : (2 : Nat) ^ k < 256 := by
    have : (2 : Nat) ^ k ≤ 2 ^ 7 := Nat.pow_le_pow_right (by decide) (by omega)
    omega
  have hl : x.toNat ^^^ 2 ^ k < 256 := Nat.xor_lt_two_pow (n := 8) (by omega) (by omega)
  unfold flipB
  rw [show (UInt8.ofNat (x.toNat ^^^ 2 ^ k)).toNat = x.toNat ^^^ 2 ^ k by rw [UInt8.toNat_ofNat']; exact Nat.mod_eq_of_lt hl, Nat.testBit_xor, Nat.testBit_two_pow]
theorem onP_set (b : List UInt8) (hb : b.length = 128) (n : Nat) (hn : n < 1024) (yes : Bool) (m : Nat) : onP (setP b n yes) m = if m = n then yes else onP b m := by
  unfold setP
  split
  · rename_i h
    split
    · rename_i e; rw [e]; exact h
    · rfl
  · rename_i h
    rw [onP_bit]
    by_cases h8 : m / 8 = n / 8
    · rw [h8, List.getD_eq_getElem?_getD, List.getElem?_set_self (by omega), Option.getD_some, flipB_bit _ _ _ (Nat.mod_lt _ (by decide)) (Nat.mod_lt _ (by decide))]
      by_cases e : m = n
      · subst e
        rw [if_pos rfl, ← onP_bit, decide_eq_true rfl]
        cases ho : onP b m <;> cases yes <;> simp_all
      · rw [if_neg e, decide_eq_false (by omega), Bool.bne_false, ← h8, ← onP_bit]
    · rw [if_neg (by rintro rfl; exact h8 rfl), List.getD_eq_getElem?_getD, List.getElem?_set_ne (fun e => h8 e.symm), ← List.getD_eq_getElem?_getD, ← onP_bit]
set_option maxRecDepth 100000 in
set_option maxHeartbeats 2000000 in
theorem set_walk (b : List UInt8) (A : Option Addr) (c n : Nat) (yes : Bool) (hb : b.length = 128) (hn : n < 1024) (w : World) (h : Sl w 1 (.slice A b.length c) b.length (bv b)) : Calls Tryz.prog 92 #[.slice A 128 c, .int .i64 (n : Int), .bool yes] w fun e w' => ∃ A', e = .returned (.tuple #[.slice A' 128 128, .int .i64 0]) ∧ NB w.heap.size w' A' 128 (setP b n yes) ∧ Below w.heap.size w w' := by
  have HR := Lib.hid (right_walk A c n hn w)
  have hcl := clone_walk b A c w h (by omega)
  rw [hb] at h hcl
  have HC := Lib.hid hcl
  have HO := Lib.hid (fun w' (hw : Below w.heap.size w w') => on_walk b A c n hn w' (h.below hw))
  have HB := Lib.hid hb
  clear h hcl hb
  go_enter Tryz.func92, Tryz.ntmps92
  go_wp2_with fail
  refine HR.out.mono ?_
  rintro e W ⟨rfl, hWW⟩
  have hWW' := hWW.symm
  subst hWW'
  clear hWW
  go_wp2_with fail
  refine HC.out.mono ?_
  rintro e w1 ⟨A1, c1, rfl, ho, hbe⟩
  have HO1 := Lib.hid ho
  have HB1 := Lib.hid hbe
  clear ho hbe
  by_cases hy : onP b n = yes
  · have hon := HO.out w1 HB1.out
    rw [hy] at hon
    have HON := Lib.hid hon
    have HS : Hid (setP b n yes = b) := Lib.hid (by unfold setP; rw [if_pos hy])
    obtain ⟨_, _, eA, _, hz, hc, _⟩ := Rd.of_own HO1.out.own
    injection eA with e1 _ e2
    subst e1 e2
    have HCL := Lib.hid (clip_walk A1 128 c1 w1 (by have := HB.out; omega) (fun e => by have := (hz e).1; have := HB.out; omega) (by decide))
    clear hon hy hz hc
    go_wp2_with fail
    refine HON.out.mono ?_
    rintro e W ⟨rfl, hWW⟩
    have hWW' := hWW.symm
    subst hWW'
    clear hWW
    go_wp2_with fail
    refine HCL.out.mono ?_
    rintro e W ⟨rfl, hWW⟩
    have hWW' := hWW.symm
    subst hWW'
    clear hWW
    go_wp2
    go_ret2
    refine ⟨A1, rfl, ?_, HB1.out⟩
    have := HO1.out.nb.clip
    rw [HB.out] at this
    rw [HS.out]
    exact this
  · have hon := HO.out w1 HB1.out
    have HON := Lib.hid hon
    obtain ⟨q, hq⟩ : ∃ q, q = onP b n := ⟨_, rfl⟩
    rw [← hq] at HON
    have HS : Hid (setP b n yes = b.set (n / 8) (flipB (b.getD (n / 8) 0) (n % 8))) := Lib.hid (by unfold setP; rw [if_neg hy])
    obtain rfl : yes = !q := by rw [hq]; cases ho : onP b n <;> cases yes <;> simp_all
    obtain ⟨g, cap, cur, eg, hgb, hcap, -, hcur, htk⟩ := own_form HO1.out.own (show 0 < b.length by have := HB.out; omega)
    injection eg with eg _ egc
    subst eg egc
    obtain ⟨x, hx⟩ : ∃ x, b[n / 8]? = some x := ⟨b[n / 8]'(by have := HB.out; omega), List.getElem?_eq_getElem _⟩
    have hgd : b.getD (n / 8) 0 = x := by rw [List.getD_eq_getElem?_getD, hx]; rfl
    have hcx : w1.cell? ⟨g, n / 8, none⟩ = some (.int .u8 (x.toNat : Int)) := by
      have := HO1.out.own.cells (g := g) rfl (n / 8) (.int .u8 (x.toNat : Int)) (by unfold bv; rw [List.getElem?_map, hx]; rfl)
      simpa [Addr.add_lit] using this
    have hfr := blk_frees hgb (n / 8)
    obtain ⟨m, hm⟩ : ∃ m, m = n / 8 := ⟨_, rfl⟩
    obtain ⟨k, hk⟩ : ∃ k, k = n % 8 := ⟨_, rfl⟩
    have e1 : (n : Int) / 8 = ((m : Nat) : Int) := by omega
    have e2 : bits .and .i64 (n : Int) 7 = ((k : Nat) : Int) := by rw [hk]; exact and7_i64 n (by omega)
    rw [← hm] at hcx hfr
    have i0 : (0 : Int) ≤ (m : Int) := by omega
    have i1 : (m : Int) < 128 := by omega
    have i2 : (0 : Int) ≤ (k : Int) := by omega
    have i3 : (k : Int) < 8 := by omega
    have hk8 : k < 8 := by omega
    have h2k : (2 : Nat) ^ k < 256 := Nat.lt_of_le_of_lt (Nat.pow_le_pow_right (by decide) (show k ≤ 7 by omega)) (by decide)
    have hxl := x.toNat_lt
    obtain ⟨y, hy'⟩ : ∃ y, y = flipB x k := ⟨_, rfl⟩
    have HBX : Hid (bits .xor .u8 (x.toNat : Int) (2 ^ k % 256) = (y.toNat : Int)) := Lib.hid (by
      have := bits_xor_u8 x.toNat (2 ^ k) (by omega) h2k
      rw [hy', flipB, UInt8.toNat_ofNat', Nat.mod_eq_of_lt (Nat.xor_lt_two_pow (n := 8) (by omega) (by omega)), ← this]
      congr 1
      rw [Int.natCast_pow, Int.emod_eq_of_lt (by exact Int.pow_nonneg (by decide)) (by exact_mod_cast h2k)]
      rfl)
    have HY := Lib.hid hy'
    have hou := own_put1 (j := m) HO1.out.own (.int .u8 (y.toNat : Int))
    rw [bv_set] at hou
    have HOU := Lib.hid hou
    have HKS := Lib.hid ((Keep.refl (fun j => j = g) w1).setCell (p := ⟨g, m, none⟩) (fun _ => rfl) (.int .u8 (y.toNat : Int)))
    have HGW : Hid (w.heap.size ≤ g) := Lib.hid (HO1.out.fresh g rfl)
    have HCL := Lib.hid (fun W => clip_walk (some ⟨g, 0, none⟩) 128 c1 W (by have := HB.out; omega) (fun e => by cases e) (by decide))
    clear hk8 h2k hxl hy' hou
    have HX := Lib.hid hx
    have HGD := Lib.hid hgd
    have HM := Lib.hid hm
    have HK := Lib.hid hk
    have HGB := Lib.hid hgb
    clear hon hy hq hgb hcur htk hx hgd hm hk
    go_wp2_with fail
    refine HON.out.mono ?_
    rintro e W ⟨rfl, hWW⟩
    have hWW' := hWW.symm
    subst hWW'
    clear hWW
    go_upto_region 6 with fail
    go_wp2_with fail
    rw [HBX.out]
    refine (HCL.out _).mono ?_
    rintro e W ⟨rfl, rfl⟩
    go_wp2
    go_ret2
    refine ⟨some ⟨g, 0, none⟩, rfl, ?_, HB1.out.trans (HKS.out.below (fun j e => by rw [e]; exact HGW.out) HB1.out.size)⟩
    have hl : (b.set m y).length = b.length := List.length_set ..
    have hnb : NB w.heap.size (w1.setCell ⟨g, m, none⟩ (.int .u8 (y.toNat : Int))) (some ⟨g, 0, none⟩) c1 (b.set m y) := NB.of_own (by rw [hl]; exact HOU.out) (fun j e => HO1.out.fresh j e)
    have := hnb.clip
    rw [hl, HB.out] at this
    rw [HS.out, HGD.out, ← HM.out, ← HK.out, ← HY.out]
    exact this
end Go.Proofs.YtehfoopefefpnaaGreat
/- Package store: mark. -/
set_option linter.unusedSimpArgs false
set_option linter.unusedVariables false
namespace Go.Proofs.YtehfoopefefpnaaGreat
open Go.RowKit

attribute [local go_sem ↓] Go.wp_at_zero Go.wp_at_succ
theorem SpP.from_ {B : Nat} {p : StP} {s : StS} {n : Nat} {d : List UInt8} {w w1 w2 : World} {r : Ending} (hb : Below w.heap.size w w1) (h : SpP B p s n d w1 r w2) : SpP B p s n d w r w2 := by
  obtain ⟨A, c, e, hs, hk⟩ := h
  exact ⟨A, c, e, hs, (Keep.of_below hb).trans hk (fun _ _ h => h)⟩
set_option maxHeartbeats 1000000 in
theorem smark_walk (B : Nat) (p : StP) (s : StS) (w : World) (h : ST B p s w) (hs : s.ok) (n : Nat) (hn : n < 1024) (yes : Bool) (b : List UInt8) (hb : viewS s 34 = some b) (h4 : (getW 34 s.will).isSome = true ∨ s.will.length < 24) :
    Calls Tryz.prog 111 #[.pointer (some ⟨p.k, 0, none⟩), .int .i64 (n : Int), .bool yes] w (SpP B p s 34 (setP b n yes) w) := by
  have HG := Lib.hid (sget_walk B p s w h hs 34 (by omega) b hb)
  have hl := view_len hs hb
  have HL := Lib.hid hl
  have HH := Lib.hid h
  have HS := Lib.hid hs
  have H4 := Lib.hid h4
  have HN := Lib.hid hn
  clear h hs hb hl h4 hn
  go_enter Tryz.func111, Tryz.ntmps111
  go_wp2_with fail
  refine HG.out.mono ?_
  rintro r w1 ⟨A1, rfl, h1, _, hb1⟩
  have HM := Lib.hid (set_walk b A1 128 n yes HL.out HN.out w1 (by rw [HL.out]; exact h1))
  have HB1 := Lib.hid hb1
  clear h1 hb1
  go_wp2_with fail
  refine HM.out.mono ?_
  rintro r w2 ⟨A2, rfl, h2, hb2⟩
  have hlen : (setP b n yes).length = 128 := by rw [setP_len]; exact HL.out
  have HB2 := Lib.hid (bstep HB1.out hb2)
  have hsl := h2.sl
  rw [hlen] at hsl
  have HP := Lib.hid (sput_walk B p s w2 (HH.out.below HB2.out) HS.out 34 (by have := HS.out.len; omega) (.inr (by omega)) (setP b n yes) A2 128 hsl hlen H4.out)
  clear h2 hb2 hlen hsl
  go_wp2_with fail
  refine HP.out.mono ?_
  intro r w3 hq
  have HQ := Lib.hid (SpP.from_ HB2.out hq)
  obtain ⟨_, _, rfl, _, _⟩ := hq
  go_wp2
  go_ret
  exact HQ.out
end Go.Proofs.YtehfoopefefpnaaGreat
/- Package store: Give. -/
set_option linter.unusedSimpArgs false
set_option linter.unusedVariables false
namespace Go.Proofs.YtehfoopefefpnaaGreat
open Go.RowKit

attribute [local go_sem ↓] Go.wp_at_zero Go.wp_at_succ
set_option maxHeartbeats 1000000 in
theorem sgive_walk (B : Nat) (p : StP) (s : StS) (w : World) (h : ST B p s w) (hs : s.ok) (n : Nat) (hn : n < s.d.sure.length) (h43 : 43 ≤ n) (b : List UInt8) (hb : viewS s 34 = some b) (h4 : (getW 34 s.will).isSome = true ∨ s.will.length < 24) :
    Calls Tryz.prog 113 #[.pointer (some ⟨p.k, 0, none⟩), .int .i64 (n : Int)] w (SpP B p s 34 (setP b n false) w) := by
  have HL := Lib.hid (live_walk B p s w h)
  have hlen := hs.on.ok.len
  have HM := Lib.hid (smark_walk B p s w h hs n (by omega) false b hb h4)
  have c1 : w.cell? ⟨p.k, 1, none⟩ = some (.int .i64 (s.sup.sectors : Int)) := (blk_cells h.blk 1).trans rfl
  obtain ⟨m, hm⟩ : ∃ m : Int, m = (s.sup.sectors : Int) := ⟨_, rfl⟩
  obtain ⟨z, hz⟩ : ∃ z : Int, z = (n : Int) := ⟨_, rfl⟩
  have hsec := hs.secs
  have g1 : ¬ z < 43 := by omega
  have g2 : ¬ m ≤ z := by omega
  rw [← hm] at c1
  rw [← hz] at HM ⊢
  clear h hs hb h4 hlen hsec hm hz hn h43
  go_enter Tryz.func113, Tryz.ntmps113
  go_wp2_with fail
  refine HL.out.mono ?_
  rintro r w' ⟨rfl, rfl⟩
  go_wp2_with fail
  refine HM.out.mono ?_
  intro r w3 hq
  have HQ := Lib.hid hq
  obtain ⟨_, _, rfl, _, _⟩ := hq
  go_wp2
  go_ret
  exact HQ.out
end Go.Proofs.YtehfoopefefpnaaGreat
/- Package store: Free. -/
set_option linter.unusedSimpArgs false
set_option linter.unusedVariables false
namespace Go.Proofs.YtehfoopefefpnaaGreat
open Go.RowKit

attribute [local go_sem ↓] Go.wp_at_zero Go.wp_at_succ
set_option maxHeartbeats 1000000 in
theorem sfree_walk (B : Nat) (p : StP) (s : StS) (w : World) (h : ST B p s w) (hs : s.ok) (b : List UInt8) (hb : viewS s 34 = some b) :
    Calls Tryz.prog 17 #[.pointer (some ⟨p.k, 0, none⟩)] w fun e w' => e = .returned (.int .i64 ((s.sup.sectors : Int) - 43 - (countP b 43 (s.sup.sectors - 43) : Int))) ∧ Below w.heap.size w w' := by
  have HG := Lib.hid (sget_walk B p s w h hs 34 (by omega) b hb)
  have hsec := hs.secs
  have hlen := hs.on.ok.len
  have h64 := hs.len
  have HC := Lib.hid (fun A W (hw : Sl W 1 (.slice A 128 128) 128 (bv b)) => count_walk b A 128 43 s.sup.sectors (by omega) (by omega) W hw)
  have hcp := countP_le b 43 (s.sup.sectors - 43)
  have HH := Lib.hid h
  obtain ⟨q, hq⟩ : ∃ q : Int, q = (countP b 43 (s.sup.sectors - 43) : Int) := ⟨_, rfl⟩
  obtain ⟨m, hm⟩ : ∃ m : Int, m = (s.sup.sectors : Int) := ⟨_, rfl⟩
  have g1 : IntKind.i64.wrap (m - 43) = m - 43 := IntWalk.i64_in _ (by omega)
  have g2 : IntKind.i64.wrap (m - 43 - q) = m - 43 - q := IntWalk.i64_in _ (by omega)
  rw [← hq, ← hm] at HC
  rw [← hq, ← hm]
  have HM := Lib.hid hm
  clear h hs hb hsec hlen h64 hcp hq hm
  go_enter Tryz.func17, Tryz.ntmps17
  go_wp2_with fail
  refine HG.out.mono ?_
  rintro r w1 ⟨A1, rfl, h1, _, hb1⟩
  have c1 : w1.cell? ⟨p.k, 1, none⟩ = some (.int .i64 m) := by rw [HM.out]; exact (blk_cells (HH.out.below hb1).blk 1).trans rfl
  have HC1 := Lib.hid (HC.out A1 w1 h1)
  have HB1 := Lib.hid hb1
  clear h1 hb1
  go_wp2_with fail
  refine HC1.out.mono ?_
  rintro r w2 ⟨rfl, rfl⟩
  go_wp2
  go_ret
  exact ⟨rfl, HB1.out⟩
end Go.Proofs.YtehfoopefefpnaaGreat
/- Package store: Drop. -/
set_option linter.unusedSimpArgs false
set_option linter.unusedVariables false
namespace Go.Proofs.YtehfoopefefpnaaGreat
open Go.RowKit

attribute [local go_sem ↓] Go.wp_at_zero Go.wp_at_succ
def DpP (B : Nat) (p : StP) (s : StS) (sup : SuS) (w : World) (r : Ending) (w' : World) : Prop := r = .returned (.tuple #[]) ∧ ST B p ⟨s.d, sup, []⟩ w' ∧ Keep (fun j => j = p.k ∨ j = p.b) w w'
set_option maxHeartbeats 1000000 in
theorem sdrop_walk (B : Nat) (p : StP) (s : StS) (w : World) (h : ST B p s w) (hs : s.ok) (b : List UInt8) (hb : s.d.sure[0]? = some b) (sup : SuS) (hd : decS b = some sup) :
    Calls Tryz.prog 25 #[.pointer (some ⟨p.k, 0, none⟩)] w (DpP B p s sup w) := by
  have HL := Lib.hid (live_walk B p s w h)
  have c4 : w.cell? ⟨p.k, 4, none⟩ = some (.map (some p.b)) := (blk_cells h.blk 4).trans rfl
  obtain ⟨w1, hu, hm, hk⟩ := h.will.clear 0
  have hu : ∀ ty, (Builtin.clear_ #[89] ty #[.map (some p.b)]).run Tryz.prog w = .ok (.tuple #[]) w1 := fun ty => hu
  have h1 := h.cleared hm hk
  have hok : (⟨s.d, s.sup, []⟩ : StS).ok := ⟨hs.on, hs.len, hs.secs, hs.head, List.Pairwise.nil, by show 0 ≤ 24; omega, fun e he => absurd he (by simp)⟩
  have HG := Lib.hid (sget_walk B p _ w1 h1 hok 0 (by omega) b (by exact hb))
  have hl := hs.on.ok.each b (List.mem_of_getElem? hb)
  have HLN := Lib.hid hl
  have HK := Lib.hid hk
  have HH := Lib.hid h1
  have HDD := Lib.hid hd
  clear h hs hb hd hm hk h1 hok hl
  go_enter Tryz.func25, Tryz.ntmps25
  go_wp2_with fail
  refine HL.out.mono ?_
  rintro r w' ⟨rfl, rfl⟩
  go_wp2_with fail
  refine HG.out.mono ?_
  rintro r w2 ⟨A2, rfl, h2, _, hb2⟩
  have HSD := Lib.hid (sdecode_walk b A2 128 w2 (by rw [HLN.out]; exact h2) HLN.out)
  have HB2 := Lib.hid hb2
  clear h2 hb2
  go_wp2_with fail
  refine HSD.out.mono ?_
  rintro r w3 ⟨hb3, he⟩
  rw [HDD.out] at he
  subst he
  have hst := (HH.out.below (bstep HB2.out hb3))
  have HST := Lib.hid hst
  have k1 := (blk_cells hst.blk 1).trans (show _ = some (.int .i64 (s.sup.sectors : Int)) from rfl)
  have k2 := (blk_cells hst.blk 2).trans (show _ = some (.int .i64 (s.sup.epoch : Int)) from rfl)
  have k3 := (blk_cells hst.blk 3).trans (show _ = some (.int .i64 (s.sup.gens : Int)) from rfl)
  have f1 := blk_frees hst.blk 1
  have f2 := blk_frees hst.blk 2
  have f3 := blk_frees hst.blk 3
  have HB3 := Lib.hid (bstep HB2.out hb3)
  clear hst hb3
  go_wp2_with fail
  refine bodyPost_end (results_none rfl _ _ _) rfl ?_
  have F := HST.out.far
  have hk : Keep (fun j => j = p.k) w3 (((w3.setCell ⟨p.k, 1, none⟩ (.int .i64 (sup.sectors : Int))).setCell ⟨p.k, 2, none⟩ (.int .i64 (sup.epoch : Int))).setCell ⟨p.k, 3, none⟩ (.int .i64 (sup.gens : Int))) := ((keep_set _ _ 1 _).trans (keep_set _ _ 2 _) (fun _ _ h => h)).trans (keep_set _ _ 3 _) (fun _ _ h => h)
  have hb := blk_set (blk_set (blk_set HST.out.blk (.int .i64 (sup.sectors : Int)) (j := 1)) (.int .i64 (sup.epoch : Int)) (j := 2)) (.int .i64 (sup.gens : Int)) (j := 3)
  refine ⟨rfl, ?_, ?_⟩
  · exact ⟨hb.trans rfl, HST.out.drv.keep hk (fun e => F.kkd e.symm) (fun j e => by obtain rfl : p.g = j := Option.some.inj e; exact fun e => F.kg e.symm) (fun j e => by cases e), HST.out.will.keep hk (fun e => F.bk e), (fun e he => absurd he (by simp)), HST.out.newk, HST.out.newb⟩
  · exact ((HK.out.mono (T := fun j => j = p.k ∨ j = p.b) (fun j _ h => .inr h)).trans (Keep.of_below (S := fun _ => False) HB3.out) (fun _ _ h => h.elim)).trans hk (fun j _ h => .inl h)
end Go.Proofs.YtehfoopefefpnaaGreat
/- Package store: Take. -/
set_option linter.unusedSimpArgs false
set_option linter.unusedVariables false
namespace Go.Proofs.YtehfoopefefpnaaGreat
open Go.RowKit

attribute [local go_sem ↓] Go.wp_at_zero Go.wp_at_succ
theorem firstP_range {b : List UInt8} {m k n : Nat} (h : firstP b m k = some n) : m ≤ n ∧ n < m + k := by
  induction k generalizing m with
  | zero => cases h
  | succ k ih =>
    unfold firstP at h
    split at h
    · have := ih h
      omega
    · injection h with h
      omega
theorem make128 (w : World) : (Instr.makeSlice 22 (.int .i64 128) (.int .i64 128)).run Tryz.prog w = .ok (.slice (some ⟨w.heap.size, 0, none⟩) 128 128) (w.alloc (.cells (bv (List.replicate 128 0)).toArray 5)) := by
  kernel_rfl
def TkP (B : Nat) (p : StP) (s : StS) (n : Nat) (b : List UInt8) (w : World) (r : Ending) (w' : World) : Prop := ∃ A c A' c', r = .returned (.tuple #[.int .i64 (n : Int), .int .i64 0]) ∧ ST B p (putSt (putSt s ⟨34, A, c, setP b n true⟩) ⟨n, A', c', List.replicate 128 0⟩) w' ∧ Keep (fun j => j = p.b) w w'
set_option maxHeartbeats 1000000 in
theorem stake_walk (B : Nat) (p : StP) (s : StS) (w : World) (h : ST B p s w) (hs : s.ok) (b : List UInt8) (hb : viewS s 34 = some b) (n : Nat) (hn : firstP b 43 (s.sup.sectors - 43) = some n) (h4 : s.will.length ≤ 22) :
    Calls Tryz.prog 69 #[.pointer (some ⟨p.k, 0, none⟩)] w (TkP B p s n b w) := by
  have HG := Lib.hid (sget_walk B p s w h hs 34 (by omega) b hb)
  have hsec := hs.secs
  have hlen := hs.on.ok.len
  have h64 := hs.len
  have hrg := firstP_range hn
  have HF := Lib.hid (fun A W (hw : Sl W 1 (.slice A 128 128) 128 (bv b)) => first_walk b A 128 43 s.sup.sectors (by omega) (by omega) W hw (some n) hn)
  have HM := Lib.hid (fun W (hW : Below w.heap.size w W) => smark_walk B p s W (h.below hW) hs n (by omega) true b hb (.inr (by omega)))
  have HH := Lib.hid h
  have HS := Lib.hid hs
  have HN := Lib.hid (show 43 ≤ n ∧ n < s.d.sure.length by omega)
  have HBL := Lib.hid (view_len hs hb)
  have H4 := Lib.hid h4
  obtain ⟨m, hm⟩ : ∃ m : Int, m = (s.sup.sectors : Int) := ⟨_, rfl⟩
  obtain ⟨z, hz⟩ : ∃ z : Int, z = (n : Int) := ⟨_, rfl⟩
  rw [← hm] at HF
  have HF : Hid (∀ A W, Sl W 1 (.slice A 128 128) 128 (bv b) → Calls Tryz.prog 110 #[.slice A 128 128, .int .i64 43, .int .i64 m] W fun e w' => e = .returned (.tuple #[.int .i64 z, .int .i64 0]) ∧ w' = W) := Lib.hid (by rw [hz]; exact HF.out)
  rw [← hz] at HM
  have HMM := Lib.hid hm
  have HZ := Lib.hid hz
  clear h hs hb hsec hlen h64 hrg hn h4 hm hz
  go_enter Tryz.func69, Tryz.ntmps69
  go_wp2_with fail
  refine HG.out.mono ?_
  rintro r w1 ⟨A1, rfl, h1, _, hb1⟩
  have c1 : w1.cell? ⟨p.k, 1, none⟩ = some (.int .i64 m) := by rw [HMM.out]; exact (blk_cells (HH.out.below hb1).blk 1).trans rfl
  have HF1 := Lib.hid (HF.out A1 w1 h1)
  have HM1 := Lib.hid (HM.out w1 hb1)
  have HB1 := Lib.hid hb1
  clear h1 hb1
  go_wp2_with fail
  refine HF1.out.mono ?_
  rintro r w2 ⟨rfl, rfl⟩
  go_wp2_with fail
  refine HM1.out.mono ?_
  rintro r w3 ⟨A3, c3, rfl, hst3, hk3⟩
  have HST3 := Lib.hid hst3
  have HK3 := Lib.hid ((Keep.of_below (S := fun j => j = p.b) HB1.out).trans hk3 (fun _ _ h => h))
  clear hst3 hk3 c1
  obtain ⟨Z, hZ⟩ : ∃ Z : Array Value, Z = (bv (List.replicate 128 0)).toArray := ⟨_, rfl⟩
  have hmk : ∀ W : World, (Instr.makeSlice 22 (.int .i64 128) (.int .i64 128)).run Tryz.prog W = .ok (.slice (some ⟨W.heap.size, 0, none⟩) 128 128) (W.alloc (.cells Z 5)) := fun W => by rw [hZ]; exact make128 W
  have HMK := Lib.hid hZ
  clear hZ
  go_wp2_with fail
  obtain ⟨w4, hw4⟩ : ∃ w4, w4 = w3.alloc (.cells Z 5) := ⟨_, rfl⟩
  have hn4 := const_nb w3.heap.size w3 (List.replicate 128 0) (0, 0) (Nat.le_refl _)
  rw [← HMK.out] at hn4
  have hn4 : NB w3.heap.size w4 (some ⟨w3.heap.size, 0, none⟩) 128 (List.replicate 128 0) := by rw [hw4]; exact hn4
  have hb4 : Below w3.heap.size w3 w4 := by rw [hw4]; exact (Below.refl _ w3).alloc (Nat.le_refl _) _
  have hok3 := putSt_ok HS.out (x := ⟨34, A3, c3, setP b n true⟩) (by show 34 < s.d.sure.length; have := HS.out.len; omega) (.inr (by show 26 ≤ 34; omega)) (by show (setP b n true).length = 128; rw [setP_len]; exact HBL.out) (.inr (by have := H4.out; omega))
  have hl3 : (putSt s ⟨34, A3, c3, setP b n true⟩).will.length < 24 := by
    show (insW _ s.will).length < 24
    rw [insW_len _ HS.out.rise]
    have := H4.out
    split <;> omega
  have HP := sput_walk B p _ w4 (HST3.out.below hb4) hok3 n HN.out.2 (.inr (by have := HN.out.1; omega)) (List.replicate 128 0) (some ⟨w3.heap.size, 0, none⟩) 128 (by have := hn4.sl; rw [List.length_replicate] at this; exact this) (by rw [List.length_replicate]) (.inr hl3)
  rw [← HZ.out] at HP
  have HP := Lib.hid HP
  have HB4 := Lib.hid hb4
  clear hn4 hb4 hok3 hl3 hmk
  rw [← hw4]
  clear hw4
  refine HP.out.mono ?_
  rintro r w5 ⟨A5, c5, rfl, hst5, hk5⟩
  have HST5 := Lib.hid hst5
  have HK5 := Lib.hid ((HK3.out.trans (Keep.of_below (S := fun _ => False) HB4.out) (fun _ _ h => h.elim)).trans hk5 (fun _ _ h => h))
  clear hst5 hk5
  go_wp2
  go_ret2
  exact ⟨A3, c3, A5, c5, by rw [← HZ.out]; rfl, HST5.out, HK5.out⟩
end Go.Proofs.YtehfoopefefpnaaGreat
/- Package store: Node. -/
set_option linter.unusedSimpArgs false
set_option linter.unusedVariables false
namespace Go.Proofs.YtehfoopefefpnaaGreat
open Go.RowKit

attribute [local go_sem ↓] Go.wp_at_zero Go.wp_at_succ
/-- A node, as it would be. -/
def nodeAt (s : StS) (n : Nat) (x : NoS) : Prop := ∃ d, viewS s (35 + n / 4) = some d ∧ (d.drop (32 * (n % 4))).take 32 = nodeE x ∧ x.ok
set_option maxRecDepth 100000 in
set_option maxHeartbeats 4000000 in
theorem snode_walk (B : Nat) (p : StP) (s : StS) (w : World) (h : ST B p s w) (hs : s.ok) (n : Nat) (hn : n < 32) (x : NoS) (hx : nodeAt s n x) :
    Calls Tryz.prog 42 #[.pointer (some ⟨p.k, 0, none⟩), .int .i64 (n : Int)] w fun e w' => e = .returned (.tuple #[x.val, .int .i64 0]) ∧ Below w.heap.size w w' := by
  obtain ⟨d, hd, he, hxo⟩ := hx
  have hl := view_len hs hd
  obtain ⟨w0, hw0⟩ : ∃ w0, w0 = w.alloc (.cells #[.int .i64 0, .int .i64 0, .int .i64 0, .int .i64 0, .int .i64 0, .int .i64 0, .int .i64 0, .int .i64 0, .int .i64 0, .int .i64 0, .int .i64 0] 69) := ⟨_, rfl⟩
  have hb0 : Below w.heap.size w w0 := by rw [hw0]; exact (Below.refl _ w).alloc (Nat.le_refl _) _
  have hn0 := blk_new w (.cells #[.int .i64 0, .int .i64 0, .int .i64 0, .int .i64 0, .int .i64 0, .int .i64 0, .int .i64 0, .int .i64 0, .int .i64 0, .int .i64 0, .int .i64 0] 69)
  rw [← hw0] at hn0
  have HN0 := Lib.hid hn0
  have HB0 := Lib.hid hb0
  have HL := Lib.hid (live_walk B p s w0 (h.below hb0))
  obtain ⟨q, hq⟩ : ∃ q : Nat, q = n / 4 := ⟨_, rfl⟩
  obtain ⟨r, hr⟩ : ∃ r : Nat, r = n % 4 := ⟨_, rfl⟩
  obtain ⟨a, ha⟩ : ∃ a : Nat, a = 35 + q := ⟨_, rfl⟩
  rw [← hr] at he
  rw [← hq, ← ha] at hd
  have HG := Lib.hid (sget_walk B p s w0 (h.below hb0) hs a (by omega) d hd)
  have HNG : Hid (∀ A W, Sl W 1 (.slice A 128 128) 128 (bv d) → Calls Tryz.prog 72 #[.slice A 128 128, .int .i64 (r : Int)] W fun e w' => e = .returned (.tuple #[.agg #[.int .i64 (x.kind : Int), .int .i64 (x.links : Int), .int .i64 (x.gen : Int), .int .i64 (x.size : Int), .int .i64 (x.change : Int), .int .i64 (x.p0 : Int), .int .i64 (x.p1 : Int), .int .i64 (x.p2 : Int), .int .i64 (x.p3 : Int), .int .i64 (x.one : Int), .int .i64 (x.two : Int)], .int .i64 0]) ∧ Below W.heap.size W w') := Lib.hid (fun A W hw => nget_walk x hxo d hl r (by omega) he A 128 W (by rw [hl]; exact hw))
  have e1 : (n : Int) / 4 = (q : Int) := by omega
  have e2 : IntKind.i64.wrap (35 + (q : Int)) = (a : Int) := by rw [IntWalk.i64_in _ (by omega)]; omega
  have e3 : (n : Int) % 4 = (r : Int) := by omega
  have g1 : ¬ (n : Int) < 0 := by omega
  have g2 : ¬ (32 : Int) ≤ (n : Int) := by omega
  have HW0 := Lib.hid hw0
  clear h hs hd he hxo hl hb0 hn0 hq hr ha hn hw0
  go_enter Tryz.func42, Tryz.ntmps42
  go_wp2_with fail
  rw [← HW0.out]
  refine HL.out.mono ?_
  rintro r' w' ⟨rfl, rfl⟩
  go_wp2_with fail
  refine HG.out.mono ?_
  rintro r' w2 ⟨A2, rfl, h2, _, hb2⟩
  have HN2 := Lib.hid (HNG.out A2 w2 h2)
  have HB2 := Lib.hid (HB0.out.trans (hb2.mono HB0.out.size))
  have HR2 := Lib.hid ((Keep.of_below (S := fun _ => False) hb2).blk HN0.out id)
  clear h2 hb2
  go_wp2_with fail
  refine HN2.out.mono ?_
  rintro r' w3 ⟨rfl, hb3⟩
  have HB3 := Lib.hid (bstep HB2.out hb3)
  have hr3 := (Keep.of_below (S := fun _ => False) hb3).blk HR2.out id
  have rx := blk_cells hr3
  have rf := blk_frees hr3
  have HR3 := Lib.hid hr3
  clear hb3 hr3
  go_wp2
  have e11 := set11 HR3.out (.int .i64 (x.kind : Int)) (.int .i64 (x.links : Int)) (.int .i64 (x.gen : Int)) (.int .i64 (x.size : Int)) (.int .i64 (x.change : Int)) (.int .i64 (x.p0 : Int)) (.int .i64 (x.p1 : Int)) (.int .i64 (x.p2 : Int)) (.int .i64 (x.p3 : Int)) (.int .i64 (x.one : Int)) (.int .i64 (x.two : Int))
  have ke := setL_keep (k := w.heap.size) [.int .i64 (x.kind : Int), .int .i64 (x.links : Int), .int .i64 (x.gen : Int), .int .i64 (x.size : Int), .int .i64 (x.change : Int), .int .i64 (x.p0 : Int), .int .i64 (x.p1 : Int), .int .i64 (x.p2 : Int), .int .i64 (x.p3 : Int), .int .i64 (x.one : Int), .int .i64 (x.two : Int)] 0 w3
  have hf := HB3.out.trans (ke.below (B := w.heap.size) (fun i e => by omega) HB3.out.size)
  clear ke
  generalize hWf : setL w3 w.heap.size 0 [.int .i64 (x.kind : Int), .int .i64 (x.links : Int), .int .i64 (x.gen : Int), .int .i64 (x.size : Int), .int .i64 (x.change : Int), .int .i64 (x.p0 : Int), .int .i64 (x.p1 : Int), .int .i64 (x.p2 : Int), .int .i64 (x.p3 : Int), .int .i64 (x.one : Int), .int .i64 (x.two : Int)] = Wf at e11 hf
  simp only [setL, Nat.zero_add, Nat.reduceAdd] at hWf
  rw [hWf]
  clear hWf
  have HF := Lib.hid hf
  have q0' := (blk_cells e11 0).trans rfl
  have q1' := (blk_cells e11 1).trans rfl
  have q2' := (blk_cells e11 2).trans rfl
  have q3' := (blk_cells e11 3).trans rfl
  have q4' := (blk_cells e11 4).trans rfl
  have q5' := (blk_cells e11 5).trans rfl
  have q6' := (blk_cells e11 6).trans rfl
  have q7' := (blk_cells e11 7).trans rfl
  have q8' := (blk_cells e11 8).trans rfl
  have q9' := (blk_cells e11 9).trans rfl
  have q10' := (blk_cells e11 10).trans rfl
  clear hf e11 rx rf
  refine bodyPost_ret (v := .tuple #[x.val, .int .i64 0]) (by simp [results, Tryz.results42, go_sem, q0', q1', q2', q3', q4', q5', q6', q7', q8', q9', q10']; try rfl) rfl ?_
  exact ⟨rfl, HF.out⟩
end Go.Proofs.YtehfoopefefpnaaGreat
/- Package store: SetNode. -/
set_option linter.unusedSimpArgs false
set_option linter.unusedVariables false
namespace Go.Proofs.YtehfoopefefpnaaGreat
open Go.RowKit

attribute [local go_sem ↓] Go.wp_at_zero Go.wp_at_succ
set_option maxRecDepth 100000 in
set_option maxHeartbeats 4000000 in
theorem ssetnode_walk (B : Nat) (p : StP) (s : StS) (w : World) (h : ST B p s w) (hs : s.ok) (n : Nat) (hn : n < 32) (x : NoS) (hx : x.ok) (d : List UInt8) (hd : viewS s (35 + n / 4) = some d) (h4 : (getW (35 + n / 4) s.will).isSome = true ∨ s.will.length < 24) :
    Calls Tryz.prog 44 #[.pointer (some ⟨p.k, 0, none⟩), .int .i64 (n : Int), x.val] w (SpP B p s (35 + n / 4) (splice d (32 * (n % 4)) (nodeE x)) w) := by
  have hl := view_len hs hd
  obtain ⟨v, hv⟩ : ∃ v : Value, v = x.val := ⟨_, rfl⟩
  obtain ⟨w0, hw0⟩ : ∃ w0, w0 = w.alloc (.cells x.cells 69) := ⟨_, rfl⟩
  have hb0 : Below w.heap.size w w0 := by rw [hw0]; exact (Below.refl _ w).alloc (Nat.le_refl _) _
  have hn0 := blk_new w (.cells x.cells 69)
  rw [← hw0] at hn0
  have HN0 := Lib.hid hn0
  have HB0 := Lib.hid hb0
  have HL := Lib.hid (live_walk B p s w0 (h.below hb0))
  obtain ⟨q, hq⟩ : ∃ q : Nat, q = n / 4 := ⟨_, rfl⟩
  obtain ⟨r, hr⟩ : ∃ r : Nat, r = n % 4 := ⟨_, rfl⟩
  obtain ⟨a, ha⟩ : ∃ a : Nat, a = 35 + q := ⟨_, rfl⟩
  rw [← hr, ← hq, ← ha]
  rw [← hq, ← ha] at hd h4
  have hspl : (splice d (32 * r) (nodeE x)).length = 128 := by rw [length_splice _ _ _ (by rw [nodeE_len]; omega)]; exact hl
  have HG := Lib.hid (sget_walk B p s w0 (h.below hb0) hs a (by omega) d hd)
  have HNP := Lib.hid (fun A W (hw : Sl W 1 (.slice A 128 128) 128 (bv d)) => nput_walk x hx d hl r (by omega) A 128 W (by rw [hl]; exact hw))
  have HSP := Lib.hid (fun A W (hW : Below w.heap.size w W) (hw : Sl W 1 (.slice A 128 128) 128 (bv (splice d (32 * r) (nodeE x)))) => sput_walk B p s W (h.below hW) hs a (by have := hs.len; omega) (.inr (by omega)) _ A 128 hw hspl h4)
  have e1 : (n : Int) / 4 = (q : Int) := by omega
  have e2 : IntKind.i64.wrap (35 + (q : Int)) = (a : Int) := by rw [IntWalk.i64_in _ (by omega)]; omega
  have e3 : (n : Int) % 4 = (r : Int) := by omega
  have g1 : ¬ (n : Int) < 0 := by omega
  have g2 : ¬ (32 : Int) ≤ (n : Int) := by omega
  have HW0 := Lib.hid hw0
  have HSPL := Lib.hid hspl
  clear h hs hd hl hb0 hn0 hq hr ha hn hw0 hspl h4 hv
  show Calls Tryz.prog 44 #[.pointer (some ⟨p.k, 0, none⟩), .int .i64 (n : Int), .agg #[.int .i64 (x.kind : Int), .int .i64 (x.links : Int), .int .i64 (x.gen : Int), .int .i64 (x.size : Int), .int .i64 (x.change : Int), .int .i64 (x.p0 : Int), .int .i64 (x.p1 : Int), .int .i64 (x.p2 : Int), .int .i64 (x.p3 : Int), .int .i64 (x.one : Int), .int .i64 (x.two : Int)]] w _
  unfold NoS.cells at HW0 HN0
  go_enter Tryz.func44, Tryz.ntmps44
  go_wp2_with fail
  rw [← HW0.out]
  refine HL.out.mono ?_
  rintro r' w' ⟨rfl, rfl⟩
  go_wp2_with fail
  refine HG.out.mono ?_
  rintro r' w2 ⟨A2, rfl, h2, _, hb2⟩
  have HN2 := Lib.hid (HNP.out A2 w2 h2)
  have HB2 := Lib.hid (HB0.out.trans (hb2.mono HB0.out.size))
  have cx := blk_cells ((Keep.of_below (S := fun _ => False) hb2).blk HN0.out id)
  clear h2 hb2
  go_wp2_with fail
  refine HN2.out.mono ?_
  rintro r' w3 ⟨A3, rfl, h3, hb3⟩
  have hB3 := bstep HB2.out hb3
  have HB3 := Lib.hid hB3
  have hsl := h3.sl
  rw [HSPL.out] at hsl
  have HP := Lib.hid (HSP.out A3 w3 hB3 hsl)
  clear h3 hb3 hB3 hsl cx
  go_wp2_with fail
  refine HP.out.mono ?_
  intro r' w4 hq
  have HQ := Lib.hid (SpP.from_ HB3.out hq)
  obtain ⟨_, _, rfl, _, _⟩ := hq
  go_wp2
  go_ret
  exact HQ.out
/-- The node that was set, and the others. -/
theorem take_drop_splice (d e : List UInt8) (o : Nat) (h : o + e.length ≤ d.length) : ((splice d o e).drop o).take e.length = e := by
  unfold splice
  have h1 : (d.take o).length = o := by rw [List.length_take]; omega
  rw [List.drop_left' h1, List.take_left' rfl]
theorem splice_other (d e : List UInt8) (o i n : Nat) (h : o + e.length ≤ d.length) (hd : i + n ≤ o ∨ o + e.length ≤ i) : ((splice d o e).drop i).take n = (d.drop i).take n := by
  have h1 : (d.take o).length = o := by rw [List.length_take]; omega
  apply List.ext_getElem?
  intro j
  rw [List.getElem?_take, List.getElem?_take]
  split
  · rename_i hj
    rw [List.getElem?_drop, List.getElem?_drop]
    unfold splice
    rcases hd with hd | hd
    · rw [List.getElem?_append_left (by rw [h1]; omega), List.getElem?_take_of_lt (by omega)]
    · rw [List.getElem?_append_right (by rw [h1]; omega), h1, List.getElem?_append_right (by omega), List.getElem?_drop]
      congr 1
      omega
  · rfl
theorem nodeAt_put {s : StS} (h : s.ok) {x : WE} {n : Nat} {y : NoS} (hx : x.at_ ≠ 35 + n / 4) (hy : nodeAt s n y) : nodeAt (putSt s x) n y := by
  obtain ⟨d, hd, he, ho⟩ := hy
  exact ⟨d, by rw [view_put h, if_neg hx]; exact hd, he, ho⟩
theorem nodeAt_same {s : StS} (h : s.ok) {n : Nat} {y : NoS} {d : List UInt8} {A : Option Addr} {c : Nat} (hd : viewS s (35 + n / 4) = some d) (ho : y.ok) : nodeAt (putSt s ⟨35 + n / 4, A, c, splice d (32 * (n % 4)) (nodeE y)⟩) n y := by
  refine ⟨_, by rw [view_put h, if_pos rfl], ?_, ho⟩
  have := take_drop_splice d (nodeE y) (32 * (n % 4)) (by rw [nodeE_len, view_len h hd]; omega)
  rw [nodeE_len] at this
  exact this
theorem nodeAt_other {s : StS} (h : s.ok) {n m : Nat} {x y : NoS} {d : List UInt8} {A : Option Addr} {c : Nat} (hd : viewS s (35 + n / 4) = some d) (hm : m ≠ n) (hy : nodeAt s m y) : nodeAt (putSt s ⟨35 + n / 4, A, c, splice d (32 * (n % 4)) (nodeE x)⟩) m y := by
  by_cases hq : 35 + n / 4 = 35 + m / 4
  · obtain ⟨e, he, h1, ho⟩ := hy
    rw [← hq, hd] at he
    obtain rfl := Option.some.inj he
    refine ⟨splice d (32 * (n % 4)) (nodeE x), by rw [view_put h, if_pos hq], ?_, ho⟩
    rw [splice_other _ _ _ _ _ (by rw [nodeE_len, view_len h hd]; omega) (by rw [nodeE_len]; omega)]
    exact h1
  · exact nodeAt_put h hq hy
end Go.Proofs.YtehfoopefefpnaaGreat
