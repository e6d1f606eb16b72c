/- What of the world the library's functions ask; numbers that are read and written; Split, Join, Cut. -/
import Derived.Test.YtpdnfcgdcndhpaaDoorAct8
import Derived.Lib.AtoiErrMem
set_option linter.unusedSimpArgs false
set_option linter.unusedVariables false
namespace Go.Proofs.YtpdnfcgdcndhpaaDoor
open Go.RowKit

/-- The variables of the library that are read, below block B. -/
structure WV (B : Nat) (w : World) : Prop where
  base : 8 ≤ B
  le : B ≤ w.heap.size
  mx : ∃ m, w.cell? ⟨0, 0, none⟩ = some (.int .i64 m)
  se : ∃ ev, w.cell? ⟨2, 0, none⟩ = some ev ∧ (ev = .nilIface ∨ ∃ te pe, ev = .iface te pe)
  re : ∃ ev, w.cell? ⟨3, 0, none⟩ = some ev ∧ (ev = .nilIface ∨ ∃ te pe, ev = .iface te pe)
  tab : Lib.TabIs Tryd.prog w "internal/strconv.uint64pow10" .u64 Lib.pow10Tab
theorem gPow : Tryd.prog.globalNamed "internal/strconv.uint64pow10" = some 1 := by kernel_rfl
theorem WV.to {B : Nat} {w w' : World} (h : WV B w) (hk : Below B w w') : WV B w' := by
  have hb := h.base
  refine ⟨h.base, Nat.le_trans h.le hk.size, ?_, ?_, ?_, ?_⟩
  · obtain ⟨m, hm⟩ := h.mx
    exact ⟨m, (hk.cell (p := ⟨0, 0, none⟩) (show 0 < B by omega)).trans hm⟩
  · obtain ⟨m, hm, x⟩ := h.se
    exact ⟨m, (hk.cell (p := ⟨2, 0, none⟩) (show 2 < B by omega)).trans hm, x⟩
  · obtain ⟨m, hm, x⟩ := h.re
    exact ⟨m, (hk.cell (p := ⟨3, 0, none⟩) (show 3 < B by omega)).trans hm, x⟩
  · have := h.tab
    unfold Lib.TabIs World.var? at this ⊢
    rw [gPow] at this ⊢
    simp only [Option.bind_some] at this ⊢
    rw [hk.block 1 (by omega)]
    exact this
theorem WV.below {B : Nat} {w w' : World} (h : WV B w) (hk : Below w.heap.size w w') : WV B w' := h.to (hk.mono h.le)
theorem WV.keep {B : Nat} {S : Nat → Prop} {w w' : World} (h : WV B w) (hk : Keep S w w') (hS : ∀ k, S k → B ≤ k) : WV B w' := h.to (hk.below hS h.le)
/-- What a word is, read as a number. -/
def numP (s : Str) : Int := match Lib.atoiAll s with | .ok v => v | .range => Lib.atoiSat s | _ => 0
theorem numP_in (s : Str) : -9223372036854775808 ≤ numP s ∧ numP s ≤ 9223372036854775807 := by
  unfold numP
  split
  · exact Lib.atoiAll_bounds ‹_›
  · unfold Lib.atoiSat
    split <;> omega
  · omega
theorem atoi_any {B : Nat} (s : Str) (w : World) (hw : WV B w) (hs : s.length ≤ 140737488355328) :
    Calls Tryd.prog 51 #[.string ⟨s.toArray⟩] w fun e w' => (∃ er, e = .returned (.tuple #[.int .i64 (numP s), er])) ∧ Below w.heap.size w w' := by
  have hsz : (⟨s.toArray⟩ : ByteArray).size = s.length := rfl
  rcases h : Lib.atoiAll s with v | _ | _
  · have e1 : numP s = v := by unfold numP; rw [h]
    refine (Tryd.strconv_Atoi_ok ⟨s.toArray⟩ (by rw [hsz]; omega) v h w).mono ?_
    rintro e w' ⟨rfl, hw'⟩
    rw [e1]
    refine ⟨⟨_, rfl⟩, ?_⟩
    rcases hw' with rfl | ⟨t, rfl⟩
    · exact Below.refl _ _
    · exact Lib.bytesWorld_below _ _ _
  · have e1 : numP s = 0 := by unfold numP; rw [h]
    obtain ⟨ev, h1, h2⟩ := hw.se
    refine (Any.strconv_Atoi_syntax Tryd.laysC172 ⟨s.toArray⟩ (by rw [hsz]; omega) h ev w h1 h2).mono ?_
    rintro e w' ⟨N, rfl, _, _, hb⟩
    rw [e1]
    exact ⟨⟨_, rfl⟩, hb⟩
  · have e1 : numP s = Lib.atoiSat s := by unfold numP; rw [h]
    obtain ⟨ev, h1, h2⟩ := hw.re
    refine (Tryd.strconv_Atoi_range ⟨s.toArray⟩ (by rw [hsz]; omega) h ev w h1 h2).mono ?_
    rintro e w' ⟨N, rfl, _, _, hb⟩
    rw [e1]
    exact ⟨⟨_, rfl⟩, hb⟩
theorem grow_below' (w : World) (k : Nat) (os : Array Obj) : Below w.heap.size w (Sort.grow (w.drewN k) os) :=
  ⟨rfl, rfl, rfl, by simp [Sort.grow, World.drewN], fun j hj => by
    show (w.heap ++ os)[j]? = w.heap[j]?
    rw [Array.getElem?_append_left hj]⟩
theorem itoa_any {B : Nat} (n : Int) (h0 : -9223372036854775808 ≤ n) (h1 : n ≤ 9223372036854775807) (w : World) (hw : WV B w) :
    Calls Tryd.prog 29 #[.int .i64 n] w fun e w' => e = .returned (.string ⟨(Lib.itoa n).toArray⟩) ∧ Below w.heap.size w w' := by
  refine (Tryd.strconv_Itoa n h0 h1 w hw.tab).mono ?_
  rintro e w' ⟨rfl, k, os, rfl⟩
  exact ⟨rfl, grow_below' w k os⟩
set_option maxHeartbeats 1000000 in
theorem number_r_walk {B : Nat} (r : Nat) (ws : List Str) (w : World) (h : RDs r ws w) (hw : WV B w) (hr : B ≤ r) (hs : (ws.headD []).length ≤ 140737488355328) :
    Calls Tryd.prog 41 #[.pointer (some ⟨r, 0, none⟩)] w fun e w' => e = .returned (.int .i64 (numP (ws.headD []))) ∧ RDs r ws.tail w' ∧ Keep (fun k => k = r) w w' := by
  have HW := Lib.hid (word_walk r ws w h)
  have HV := Lib.hid hw
  obtain ⟨x, hx⟩ : ∃ x, x = ws.headD [] := ⟨_, rfl⟩
  rw [← hx] at HW hs ⊢
  clear hx h hw
  go_enter Tryd.func41, Tryd.ntmps41
  go_wp2_with fail
  refine HW.out.mono ?_
  rintro e w1 ⟨rfl, h1, k1⟩
  have R1 := Lib.hid h1
  have K1 := Lib.hid k1
  have HA := Lib.hid (atoi_any x w1 (HV.out.keep k1 (fun k e => by omega)) hs)
  clear h1 k1
  go_wp2_with fail
  refine HA.out.mono ?_
  rintro e w2 ⟨⟨er, rfl⟩, hb2⟩
  have R2 := Lib.hid (R1.out.below hb2)
  have K2 := Lib.hid (K1.out.trans (Keep.of_below (S := fun _ => False) hb2) (fun _ _ h => h.elim))
  clear hb2
  go_wp2
  go_ret
  exact ⟨rfl, R2.out, K2.out⟩
/-- Words, as a line is cut. -/
def spW (s : Str) : List Str := Lib.split s [32]
def jnW (ws : List Str) : Str := Lib.join ws [32]
theorem spW_len (s : Str) : (spW s).length = Lib.countB ⟨s.toArray⟩ ⟨#[32]⟩ + 1 := by
  have h := Lib.splitB_all ⟨#[32]⟩ (by decide) 0 _ ⟨s.toArray⟩ rfl
  have e := congrArg List.length (Lib.splitB_data ⟨#[32]⟩ 0 (Lib.countB ⟨s.toArray⟩ ⟨#[32]⟩) ⟨s.toArray⟩)
  rw [List.length_map, h] at e
  exact e.symm
theorem spW_cells (s : Str) : ((Lib.splitB ⟨#[32]⟩ 0 (Lib.countB ⟨s.toArray⟩ ⟨#[32]⟩) ⟨s.toArray⟩).map Value.string).toArray = (strs (spW s)).toArray := by
  have e : (Lib.splitB ⟨#[32]⟩ 0 (Lib.countB ⟨s.toArray⟩ ⟨#[32]⟩) ⟨s.toArray⟩).map (·.data.toList) = spW s := Lib.splitB_data _ _ _ _
  rw [← e]
  unfold strs
  rw [List.map_map]
  congr 1
theorem split_any {B : Nat} (s : Str) (w : World) (hw : WV B w) (hs : s.length < 4294967281) :
    Calls Tryd.prog 25 #[.string ⟨s.toArray⟩, .string ⟨#[32]⟩] w fun e w' => e = .returned (.slice (some ⟨w.heap.size, 0, none⟩) (spW s).length (spW s).length) ∧ w' = w.alloc (.cells (strs (spW s)).toArray 9) := by
  obtain ⟨m, hm⟩ := hw.mx
  have h := Any.strings_Split { Tryd.laysM146 with } Tryd.laysM146.i9 ⟨s.toArray⟩ ⟨#[32]⟩ m w hs hm (by decide)
  rw [spW_cells s, ← spW_len s] at h
  exact h
theorem cut_any {B : Nat} (s : Str) (w : World) (hw : WV B w) (hs : s.length < 4294967281) :
    Calls Tryd.prog 27 #[.string ⟨s.toArray⟩, .string ⟨#[10]⟩] w fun e w' => e = .returned (.tuple #[.string ⟨(Lib.cut s [10]).1.toArray⟩, .string ⟨(Lib.cut s [10]).2.1.toArray⟩, .bool (Lib.cut s [10]).2.2]) ∧ Below w.heap.size w w' := by
  obtain ⟨m, hm⟩ := hw.mx
  refine (Any.strings_Cut { Tryd.laysM145 with } ⟨s.toArray⟩ ⟨#[10]⟩ m w hs hm).mono ?_
  rintro e w' ⟨rfl, n, rfl⟩
  exact ⟨rfl, ((Keep.refl (fun _ => False) w).drewN n).to_below⟩
theorem strs_get {ws : List Str} {j : Nat} {x : Str} (h : ws[j]? = some x) : (strs ws)[j]? = some (.string ⟨x.toArray⟩) := by
  unfold strs
  rw [List.getElem?_map, h]
  rfl
theorem strs_len (ws : List Str) : (strs ws).length = ws.length := by simp [strs]
/-- strings.Join at a space. -/
theorem join_any (v : Value) (ws : List Str) (w : World) (h : w.ownsRow 0 9 1 v ws.length (strs ws)) (hne : ws ≠ []) (hl : ws.length ≤ 140737488355328) (hlen : (jnW ws).length ≤ 140737488355328) :
    Calls Tryd.prog 23 #[v, .string ⟨#[32]⟩] w fun e w' => e = .returned (.string ⟨(jnW ws).toArray⟩) ∧ Below w.heap.size w w' := by
  have h0 : 0 < ws.length := List.length_pos_iff.2 hne
  obtain ⟨g, cap, cur, rfl, hg, hc, _⟩ := own_form h h0
  have e : (ws.map fun x => (⟨x.toArray⟩ : ByteArray)).map (·.data.toList) = ws := by
    rw [List.map_map]
    exact (List.map_congr_left (fun x _ => rfl)).trans (List.map_id _)
  have c := Tryd.strings_Join g 0 cap (ws.map fun x => ⟨x.toArray⟩) ⟨#[32]⟩ w (fun j x hx => by
    rw [List.getElem?_map] at hx
    obtain ⟨y, hy, rfl⟩ := Option.map_eq_some_iff.1 hx
    have := h.cells (g := g) rfl j _ (strs_get hy)
    rw [Addr.add_lit] at this
    exact this) (blk_lt hg) (by simpa using hl) (by simpa using hc) (by rw [e]; exact hlen)
  rw [e, List.length_map] at c
  exact c
end Go.Proofs.YtpdnfcgdcndhpaaDoor
