/- How the numbers and the slices of bytes of the law of flushes look when they came in. -/
import Derived.Test.YtpgjjhpnemcgdaaCachFlushesWalk
import Derived.Test.YtpgjjhpnemcgdaaOpen
import Derived.Test.YtpgjjhpnemcgdaaRows
import Derived.KernelRfl
set_option linter.unusedSimpArgs false
set_option linter.unusedVariables false
namespace Go.Proofs.Ytpgjjhpnemcgdaa
open Go.ChangeShapes Go.WideShapes Go.ChangeAt Go.RowKit

theorem map_u16 {cs : List (List Value)} (h : ∀ c ∈ cs, ∃ n : Nat, c = [.int .u16 (n : Int)] ∧ n < 65536) : ∃ l : List Nat, cs.flatten = u16s l ∧ l.length = cs.length ∧ ∀ n ∈ l, n < 65536 := by
  induction cs with
  | nil => exact ⟨[], rfl, rfl, fun n hn => by cases hn⟩
  | cons c cs ih =>
    obtain ⟨n, rfl, hn⟩ := h c (by simp)
    obtain ⟨l, hd, hl, hb⟩ := ih (fun c hc => h c (by simp [hc]))
    refine ⟨n :: l, by simp [u16s] at hd ⊢; exact hd, by simp [hl], fun m hm => ?_⟩
    rcases List.mem_cons.1 hm with rfl | hm
    · exact hn
    · exact hb m hm
theorem Opens.u16s {P : Program} {w : World} {t e : TypeId} {cs : List Value} (ht : P.underlying t = some (.slice e)) (he : P.underlying e = some (.int .u16)) (hc : P.cellsOf e = 1) (hb : P.bytesOf e = 2) (h : Opens P w t cs) :
    ∃ A c l, cs = [.slice A l.length c] ∧ Sl w 1 (.slice A l.length c) l.length (Go.Proofs.Ytpgjjhpnemcgdaa.u16s l) ∧ l.length ≤ 140737488351232 ∧ ∀ n ∈ l, n < 65536 := by
  obtain ⟨v, n, css, rfl, hn, hs, hall, hr⟩ := h.slice ht
  rw [hc] at hs hall
  rw [hb] at hr
  obtain ⟨d, hd, hl, hm⟩ := map_u16 (cs := css) (fun c hcc => by
    obtain ⟨k, rfl, hw⟩ := (hall c hcc).2.int he
    have : 0 ≤ k ∧ k ≤ 65535 := by
      simp only [Lit.wf, Bool.and_eq_true, decide_eq_true_eq] at hw
      exact hw
    exact ⟨k.toNat, by simp; omega, by omega⟩)
  rw [hd] at hs
  have hs' := hs
  obtain ⟨A, c, rfl, _⟩ := hs'
  obtain rfl : n = d.length := by omega
  exact ⟨A, c, d, rfl, hs, by omega, hm⟩
theorem map_bss {w : World} {cs : List (List Value)} (h : ∀ c ∈ cs, ∃ A c' d, c = [.slice A d.length c'] ∧ Sl w 1 (.slice A d.length c') d.length (bv d) ∧ d.length ≤ 140737488351232) : ∃ l : List BS, cs.flatten = bss l ∧ l.length = cs.length ∧ ∀ p ∈ l, Sl w 1 (.slice p.1 p.2.1.length p.2.2) p.2.1.length (bv p.2.1) ∧ p.2.1.length ≤ 140737488351232 := by
  induction cs with
  | nil => exact ⟨[], rfl, rfl, fun n hn => by cases hn⟩
  | cons c cs ih =>
    obtain ⟨A, c', d, rfl, hn⟩ := h c (by simp)
    obtain ⟨l, hd, hl, hb⟩ := ih (fun c hc => h c (by simp [hc]))
    refine ⟨(A, d, c') :: l, by simp [bss] at hd ⊢; exact hd, by simp [hl], fun m hm => ?_⟩
    rcases List.mem_cons.1 hm with rfl | hm
    · exact hn
    · exact hb m hm
theorem Opens.bss {P : Program} {w : World} {t e u : TypeId} {cs : List Value} (ht : P.underlying t = some (.slice e)) (he : P.underlying e = some (.slice u)) (hu : P.underlying u = some (.int .u8)) (hcu : P.cellsOf u = 1) (hbu : P.bytesOf u = 1) (hc : P.cellsOf e = 1) (hb : P.bytesOf e = 24) (h : Opens P w t cs) :
    ∃ A c l, cs = [.slice A l.length c] ∧ Sl w 1 (.slice A l.length c) l.length (Go.Proofs.Ytpgjjhpnemcgdaa.bss l) ∧ l.length ≤ 140737488351232 ∧ ∀ p ∈ l, Sl w 1 (.slice p.1 p.2.1.length p.2.2) p.2.1.length (bv p.2.1) ∧ p.2.1.length ≤ 140737488351232 := by
  obtain ⟨v, n, css, rfl, hn, hs, hall, hr⟩ := h.slice ht
  rw [hc] at hs hall
  rw [hb] at hr
  obtain ⟨d, hd, hl, hm⟩ := map_bss (w := w) (cs := css) (fun c hcc => by
    obtain ⟨A, c', d, rfl, h1, h2⟩ := Opens.bytes he hu hcu hbu (hall c hcc).2
    exact ⟨A, c', d, rfl, h1, h2⟩)
  rw [hd] at hs
  have hs' := hs
  obtain ⟨A, c, rfl, _⟩ := hs'
  obtain rfl : n = d.length := by omega
  exact ⟨A, c, d, rfl, hs, by omega, hm⟩
end Go.Proofs.Ytpgjjhpnemcgdaa
