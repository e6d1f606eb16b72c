/- What all act laws ask ahead: the variables of the library; how acts, results and texts that came in look; the bulk. -/
import Derived.Test.YtpdnfcgdcndhpaaDoorActQ
import Derived.Test.YtpdnfcgdcndhpaaDoorOpen
import Derived.Test.YtpdnfcgdcndhpaaDoorTie
import Derived.Test.YtpdnfcgdcndhpaaDoorCards
import Derived.LaidMore
import Derived.Lay
import Derived.Handed
import Derived.HandedShaped
import Derived.OpenShut
import Derived.ShutString
import Derived.Stop.Joined
import Derived.SevenTiedAt
import Derived.KernelRfl
import Derived.Deep.DeepHandedRow
import Derived.Lib.LaidTab
set_option linter.unusedSimpArgs false
set_option linter.unusedVariables false
namespace Go.Proofs.YtpdnfcgdcndhpaaDoor
open Go.ChangeShapes Go.WideShapes Go.ChangeAt Go.RowKit

def laidAll : List (String × DataW Unit) := [("math/bits.deBruijn32tab", Rows.laid_math_bits_deBruijn32tab), ("math/bits.deBruijn64tab", Rows.laid_math_bits_deBruijn64tab), ("internal/strconv.uint64pow10", Rows.laid_internal_strconv_uint64pow10), ("unicode/utf8.acceptRanges", Rows.laid_unicode_utf8_acceptRanges), ("strconv.ErrRange", Rows.laid_strconv_ErrRange), ("strconv.ErrSyntax", Rows.laid_strconv_ErrSyntax), ("unicode/utf8.first", Rows.laid_unicode_utf8_first)]
theorem own : ownKnob Tryd.prog.godebug = none := by kernel_rfl
theorem laidOut : laidOutB Tryd.prog = true := by kernel_rfl
theorem laidPlain {W : World} : laidMetH Tryd.prog laidAll W = laidMet Tryd.prog laidAll W := MakeChecks.laidMetH_plain _ _ _ (by kernel_rfl)
theorem door_met (os : Os) (args : Array Value) : laidMetH Tryd.prog laidAll ((World.laidAll Tryd.prog os laidAll).forCall (fun _ _ => 0) ⟨#[], args, []⟩).memory := by
  rw [laidPlain]
  exact laidMet_laidAll _ (by kernel_rfl) (by kernel_rfl)
theorem door_shaped (os : Os) (args : Array Value) : ((World.laidAll Tryd.prog os laidAll).forCall (fun _ _ => 0) ⟨#[], args, []⟩).Shaped Tryd.prog :=
  World.shaped_of_ZipB (by kernel_rfl) (by kernel_rfl)
theorem laid_tail {P : Program} {W : World} {x : String × DataW Unit} {r : List (String × DataW Unit)} (h : laidMet P (x :: r) W) : laidMet P r W := by
  obtain ⟨n, d⟩ := x
  obtain ⟨ps, ⟨g, t, cs, f, p, q, _, _, _, _, hq, e0⟩, hnd, hrows⟩ := h
  subst e0
  exact ⟨q, hq, (List.nodup_append.1 hnd).2.1, fun b off hm => hrows b off (List.mem_append_right _ hm)⟩
theorem laid_iface {P : Program} {W : World} {n nm : String} {d : DataW Unit} {r : List (String × DataW Unit)} {g : Nat} {t : TypeId} {ms : Array (String × TypeId)} (hg : P.globalNamed n = some g) (ht : (P.globals[g]?).map (·.type) = some t) (hu : P.underlying t = some (.interface ms)) (h : laidMet P ((n, .iface nm d) :: r) W) :
    ∃ ev, W.cell? ⟨g, 0, none⟩ = some ev ∧ (ev = .nilIface ∨ ∃ te pe, ev = .iface te pe) := by
  obtain ⟨ps, ⟨g', t', cs, f, p, q, hg', ht', hv, hd, _, _⟩, _⟩ := h
  obtain rfl := Option.some.inj (hg.symm.trans hg')
  obtain rfl := Option.some.inj (ht.symm.trans ht')
  obtain ⟨f', u, v, hc, _⟩ := iface_of_trod hu hd
  refine ⟨.iface u v, ?_, .inr ⟨u, v, rfl⟩⟩
  have := World.var?_cell hg hv 0
  rw [this, ← Array.toArray_toList (xs := cs), hc]
  rfl
theorem gErrRange : Tryd.prog.globalNamed "strconv.ErrRange" = some 3 := by kernel_rfl
theorem gErrSyntax : Tryd.prog.globalNamed "strconv.ErrSyntax" = some 2 := by kernel_rfl
theorem tErrRange : (Tryd.prog.globals[3]?).map (·.type) = some 69 := by kernel_rfl
theorem tErrSyntax : (Tryd.prog.globals[2]?).map (·.type) = some 69 := by kernel_rfl
theorem tPow : (Tryd.prog.globals[1]?).map (·.type) = some 116 := by kernel_rfl
theorem powData : (Rows.laid_internal_strconv_uint64pow10 : DataW Unit) = Lib.tabData .u64 Lib.pow10Tab := by kernel_rfl
theorem size_of {W : World} (hS : W.ShapedOpen Tryd.prog) : 8 ≤ W.heap.size := by
  obtain ⟨o, o0, h, _⟩ := hS.2 8 (of_decide_eq_true (by kernel_rfl)) (of_decide_eq_true (by kernel_rfl))
  have := (Array.getElem?_eq_some_iff.1 h).1
  omega
theorem wv_of {W : World} (hL : laidMetH Tryd.prog laidAll W) (hS : W.ShapedOpen Tryd.prog) : WV W.heap.size W := by
  have h8 := size_of hS
  rw [laidPlain] at hL
  have h3 : laidMet Tryd.prog (("internal/strconv.uint64pow10", Rows.laid_internal_strconv_uint64pow10) :: _) W := laid_tail (laid_tail hL)
  have h5 := laid_tail (laid_tail h3)
  have h6 := laid_tail h5
  refine ⟨h8, Nat.le_refl _, Tryd.laysM145.s1_3 W hS, ?_, ?_, ?_⟩
  · exact laid_iface gErrSyntax tErrSyntax Tryd.underlying69 h6
  · exact laid_iface gErrRange tErrRange Tryd.underlying69 h5
  · rw [powData] at h3
    exact Lib.tabIs_of_head gPow tPow Tryd.underlying116 Tryd.underlying64 (by kernel_rfl) (by kernel_rfl) h3
end Go.Proofs.YtpdnfcgdcndhpaaDoor
