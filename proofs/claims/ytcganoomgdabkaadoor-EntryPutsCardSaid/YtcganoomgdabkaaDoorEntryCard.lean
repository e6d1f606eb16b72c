/- What all entry laws ask ahead: the tables' data, the world's shape; how rows that came in look. -/
import Derived.Test.YtcganoomgdabkaaDoorEntryW
import Derived.Test.YtcganoomgdabkaaDoorOpen
import Derived.Test.YtcganoomgdabkaaDoorTie
import Derived.Test.YtcganoomgdabkaaDoorCards
import Derived.LaidMore
import Derived.Lay
import Derived.Handed
import Derived.HandedShaped
import Derived.OpenShut
import Derived.ShutString
import Derived.Stop.Joined
import Derived.SevenTiedAt
import Derived.KernelRfl
set_option linter.unusedSimpArgs false
set_option linter.unusedVariables false
namespace Go.Proofs.YtcganoomgdabkaaDoor
open Go.ChangeShapes Go.WideShapes Go.ChangeAt Go.RowKit

theorem handed_shaped {H : Type} {enc : TypeId × Value → H} {a : Assume} {C : Checked} {os : Os} {f : FuncId} {fn : Func} {s : ChangeSpec} {conds : List PathCond} {apart fresh handsOn again : Bool} {X : World → Array Value → Prop}
    (hX : ∀ (w w' : World) (args : Array Value), w.heap = w'.heap → X w args → X w' args)
    (own : ownKnob C.prog.godebug = none) (started : os.Started) (noInit : C.prog.inits.idxOf? f = none) (hfn : C.prog.funcs[f]? = some fn)
    (witness : ∃ (w : World) (tape : Tape) (i : Input), w.os = os ∧ (w.forCall tape i).Shaped C.prog ∧ i.vars = [] ∧ Input.okWide C.prog (w.forCall tape i) .any w.heap.size f i ∧
      ((s.pre enc C.prog fn conds apart (w.forCall tape i).memory i.args ∧ X (w.forCall tape i).memory i.args) ∧ sizedMet enc C.prog fn (OpenSpec.ofChange s) apart (w.forCall tape i).memory i.args) ∧ a.holds C.prog (lone (Frame.enter C.prog f i.args .normal) [] (w.forCall tape i)))
    (contract : ∀ (W : World) (base : Nat) (args : Array Value) (ds gs : List (DataW H)) (before : List MemPlace),
      (∀ (j : Nat) t v, fn.params[j]? = some t → args[j]? = some v → Value.okWide C.prog W .any base t v) →
      DataW.Whole enc C.prog fn.params.toList s.vars apart W args.toList ds gs before →
      (DataW.weightsEach C.prog (fn.params.toList ++ s.plain.varTypes C.prog) (ds ++ gs)).all (· ≤ reachBytes) = true →
      W.ShapedOpen C.prog →
      Calls C.prog f args W fun e W' => ∃ v, e = .returned v ∧ s.post enc C.prog fn apart fresh handsOn again W args v W') :
    ReturnsInHanded a C os f .any (fun w args => (s.pre enc C.prog fn conds apart w args ∧ X w args) ∧ sizedMet enc C.prog fn (OpenSpec.ofChange s) apart w args) (s.post enc C.prog fn apart fresh handsOn again) := by
  refine returnsInHanded_of_calls own started noInit witness ?_
  intro w tape i _ hsh _ hok hpre hholds
  obtain ⟨_, _, _, fn', hfn', _, _, _, _, hval⟩ := hok
  have e : fn' = fn := Option.some.inj (hfn'.symm.trans hfn)
  subst e
  obtain ⟨⟨⟨ds, gs, before, hw, hc⟩, hx⟩, hz⟩ := hpre
  have hw' := DataW.Whole.of_heap (w' := w.forCall tape i) (by rfl) hw
  refine (contract (w.forCall tape i) w.heap.size i.args ds gs before hval hw' (hz.weights hw) hsh).mono fun e W' ⟨v, he, hp⟩ => ?_
  subst he
  exact ChangeSpec.post_blind hp

def laidAll : List (String × DataW Unit) := [("unicode/utf8.acceptRanges", Rows.laid_unicode_utf8_acceptRanges), ("unicode/utf8.first", Rows.laid_unicode_utf8_first)]
theorem own : ownKnob Tryd.prog.godebug = none := by kernel_rfl
theorem laidOut : laidOutB Tryd.prog = true := by kernel_rfl
theorem door_met (os : Os) (args : Array Value) : laidMetH Tryd.prog laidAll ((World.laidAll Tryd.prog os laidAll).forCall (fun _ _ => 0) ⟨#[], args, []⟩).memory := by
  rw [MakeChecks.laidMetH_plain _ _ _ (by kernel_rfl)]
  exact laidMet_laidAll _ (by kernel_rfl) (by kernel_rfl)
theorem door_shaped (os : Os) (args : Array Value) : ((World.laidAll Tryd.prog os laidAll).forCall (fun _ _ => 0) ⟨#[], args, []⟩).Shaped Tryd.prog :=
  World.shaped_of_ZipB (by kernel_rfl) (by kernel_rfl)
theorem map_strs {cs : List (List Value)} (h : ∀ c ∈ cs, ∃ p : Str, c = [.string ⟨p.toArray⟩] ∧ p.length ≤ 140737488351232) : ∃ l : List Str, cs.flatten = strs l ∧ l.length = cs.length ∧ ∀ p ∈ l, p.length ≤ 140737488351232 := by
  induction cs with
  | nil => exact ⟨[], rfl, rfl, by simp⟩
  | cons c cs ih =>
    obtain ⟨p, rfl, hp⟩ := h c (by simp)
    obtain ⟨l, hd, hl, ha⟩ := ih (fun c hc => h c (by simp [hc]))
    refine ⟨p :: l, by simp [strs] at hd ⊢; exact hd, by simp [hl], fun q hq => ?_⟩
    rcases List.mem_cons.1 hq with rfl | hq
    · exact hp
    · exact ha q hq
/-- A slice of texts that came in. -/
theorem Opens.strs {P : Program} {w : World} {t e : TypeId} {cs : List Value} (ht : P.underlying t = some (.slice e)) (he : P.underlying e = some .string) (hc : P.cellsOf e = 1) (hb : P.bytesOf e = 16) (h : Opens P w t cs) :
    ∃ A c l, cs = [.slice A l.length c] ∧ Sl w 1 (.slice A l.length c) l.length (strs l) ∧ l.length ≤ 140737488351232 ∧ ∀ p ∈ l, p.length ≤ 140737488351232 := by
  obtain ⟨v, n, css, rfl, hn, hs, hall, hr⟩ := h.slice ht
  rw [hc] at hs hall
  rw [hb] at hr
  obtain ⟨l, hd, hl, ha⟩ := map_strs (cs := css) (fun c hcc => by
    obtain ⟨s, rfl, hw⟩ := (hall c hcc).2.string he
    exact ⟨s.data.toList, by simp, by simpa using hw⟩)
  rw [hd] at hs
  have hs' := hs
  obtain ⟨A, c, rfl, _⟩ := hs'
  obtain rfl : n = l.length := by omega
  exact ⟨A, c, l, rfl, hs, by omega, ha⟩
theorem strs_value {P : Program} {w : World} {t e : TypeId} {r : Reach} {base : Nat} {v : Value} {A : Option Addr} {n c : Nat} (ht : P.underlying t = some (.slice e)) (hv : Value.okWide P w r base t v) (h : v.cells.toList = [.slice A n c]) : v = .slice A n c := by
  obtain ⟨a, len, cap, rfl⟩ := okWide_slice ht hv
  injection (show [Value.slice a len cap] = [Value.slice A n c] from h) 
theorem two_of {α : Type} {cs : List α} (h : cs.length = 2) : ∃ a b, cs = [a, b] := by
  cases cs with
  | nil => cases h
  | cons a cs =>
    cases cs with
    | nil => cases h
    | cons b cs =>
      cases cs with
      | nil => exact ⟨a, b, rfl⟩
      | cons c cs => simp at h
theorem row_open {w : World} {cs : List Value} (h : Opens Tryd.prog w 23 cs) : ∃ (s : Str) (n : Int), cs = [.string ⟨s.toArray⟩, .int .i64 n] ∧ s.length ≤ 140737488351232 := by
  obtain ⟨hl, hf⟩ := h.struct Tryd.underlying23
  have hl2 : cs.length = 2 := hl.trans (by kernel_rfl)
  obtain ⟨a, b, rfl⟩ : ∃ a b, cs = [a, b] := two_of hl2
  have c3 : Tryd.prog.cellsOf 3 = 1 := by kernel_rfl
  have c9 : Tryd.prog.cellsOf 9 = 1 := by kernel_rfl
  have h0 : Opens Tryd.prog w 9 (([a, b].drop 0).take (Tryd.prog.cellsOf 9)) := hf 0 _ rfl
  have h1 : Opens Tryd.prog w 3 (([a, b].drop 1).take (Tryd.prog.cellsOf 3)) := hf 1 _ rfl
  simp only [c3, c9] at h0 h1
  obtain ⟨f, e0, z0⟩ := h0.string Tryd.underlying9
  obtain ⟨t, e1, _⟩ := h1.int Tryd.underlying3
  simp at e0 e1
  subst e0 e1
  exact ⟨f.data.toList, t, by rw [Array.toArray_toList], by rw [Array.length_toList]; exact z0⟩
theorem row_form {w : World} (cs : Array Value) (h : Opens Tryd.prog w 23 (Value.agg cs).cells.toList) : ∃ (s : Str) (n : Int), cs = #[.string ⟨s.toArray⟩, .int .i64 n] ∧ s.length ≤ 140737488351232 := by
  obtain ⟨s, n, hl, hs⟩ := row_open h
  refine ⟨s, n, ?_, hs⟩
  have : cs.toList = [.string ⟨s.toArray⟩, .int .i64 n] := hl
  rw [← Array.toArray_toList (xs := cs), this]
theorem rows_list {w : World} : ∀ css : List (List Value), (∀ c ∈ css, Opens Tryd.prog w 23 c) → ∃ ls : List RW, ls.length = css.length ∧ css.flatten = rows ls ∧ ∀ r ∈ ls, r.name.length ≤ 140737488351232
  | [], _ => ⟨[], rfl, rfl, by simp⟩
  | c :: css, h => by
    obtain ⟨s, n, rfl, hs⟩ := row_open (h c (by simp))
    obtain ⟨ls, h1, h2, h3⟩ := rows_list css (fun c hc => h c (by simp [hc]))
    exact ⟨⟨s, n⟩ :: ls, by simp [h1], by simp [h2, rows, RW.cells], fun r hr => by
      rcases List.mem_cons.1 hr with rfl | hr
      · exact hs
      · exact h3 r hr⟩
/-- Rows that came in. -/
theorem rows_open {w : World} {cs : List Value} (h : Opens Tryd.prog w 35 cs) : ∃ (A : Option Addr) (c : Nat) (ls : List RW), cs = [.slice A ls.length c] ∧ Sl w 2 (.slice A ls.length c) ls.length (rows ls) ∧ (∀ r ∈ ls, r.name.length ≤ 140737488351232) ∧ ls.length ≤ 8000000000000 := by
  obtain ⟨v, n, css, rfl, hn, hs, hall, hr⟩ := h.slice Tryd.underlying35
  obtain ⟨ls, h1, h2, h3⟩ := rows_list css (fun c hc => (hall c hc).2)
  have c3 : Tryd.prog.cellsOf 23 = 2 := by kernel_rfl
  have c4 : Tryd.prog.bytesOf 23 = 24 := by kernel_rfl
  rw [c3, h2] at hs
  rw [c4] at hr
  have hs' := hs
  obtain ⟨A, c, rfl, _⟩ := hs'
  obtain rfl : n = ls.length := by omega
  exact ⟨A, c, ls, rfl, hs, h3, by omega⟩
end Go.Proofs.YtcganoomgdabkaaDoor
