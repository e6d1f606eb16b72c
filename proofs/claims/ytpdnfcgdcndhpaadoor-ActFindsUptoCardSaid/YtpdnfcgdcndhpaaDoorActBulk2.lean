/- What a result and a list of acts that can be read look like, and how much they hold. -/
import Derived.Test.YtpdnfcgdcndhpaaDoorActBulk
set_option linter.unusedSimpArgs false
set_option linter.unusedVariables false
namespace Go.Proofs.YtpdnfcgdcndhpaaDoor
open Go.ChangeShapes Go.WideShapes Go.ChangeAt Go.RowKit

theorem list6 {α : Type} {l : List α} (h : l.length = 6) : ∃ a b c d e f, l = [a, b, c, d, e, f] := by
  match l, h with
  | [a, b, c, d, e, f], _ => exact ⟨a, b, c, d, e, f, rfl⟩
theorem map_strs {w : World} {P : Program} {e : TypeId} (he : P.underlying e = some .string) : ∀ {cs : List (List Value)} {Ns : List Nat}, cs.length = Ns.length → (∀ (i : Nat) c, cs[i]? = some c → ∃ N, Ns[i]? = some N ∧ OpensB P w e c N) → ∃ l : List Str, cs.flatten = strs l ∧ l.length = cs.length ∧ tot l = Ns.sum
  | [], [], _, h => ⟨[], rfl, rfl, rfl⟩
  | [], _ :: _, hl, _ => by simp at hl
  | _ :: _, [], hl, _ => by simp at hl
  | c :: cs, N :: Ns, hl, h => by
    obtain ⟨N', hN, ho⟩ := h 0 c rfl
    simp only [List.getElem?_cons_zero, Option.some.injEq] at hN
    subst hN
    obtain ⟨s, rfl, hs⟩ := ho.string he
    obtain ⟨l, h1, h2, h3⟩ := map_strs he (cs := cs) (Ns := Ns) (by simpa using hl) (fun i c hc => by simpa using h (i + 1) c (by simpa using hc))
    refine ⟨s :: l, by simp [strs] at h1 ⊢; exact h1, by simp [h2], ?_⟩
    simp only [tot, List.sum_cons]
    omega
theorem OpensB.strs {w : World} {cs : List Value} {N : Nat} (h : OpensB Tryd.prog w 43 cs N) :
    ∃ v l, cs = [v] ∧ NamesR w v l ∧ tot l + 1 ≤ N := by
  obtain ⟨v, n, css, Ns, rfl, hn, hNs, hs, hall, hsum⟩ := h.slice Tryd.underlying43
  have c1 : Tryd.prog.cellsOf 9 = 1 := by kernel_rfl
  rw [c1] at hs
  obtain ⟨l, h1, h2, h3⟩ := map_strs (P := Tryd.prog) (w := w) Tryd.underlying9 (cs := css) (Ns := Ns) (by omega) (fun i c hc => (hall i c hc).2)
  rw [h1] at hs
  have hs' := hs
  obtain ⟨A, c, rfl, _⟩ := hs'
  obtain rfl : n = l.length := by omega
  exact ⟨_, l, rfl, ⟨A, c, rfl, hs⟩, by omega⟩
theorem res_open {w : World} {cs : List Value} {N : Nat} (hN : N ≤ 1048576) (h : OpensB Tryd.prog w 45 cs N) :
    ∃ (r : ResP) (dv nv : Value), cs = (r.cells dv nv).toList ∧ DataR w dv r.data ∧ NamesR w nv r.names ∧ ResOk r := by
  obtain ⟨hl, Ns, hNl, hsum, hf⟩ := h.struct Tryd.underlying45
  have hl6 : cs.length = 6 := hl.trans (by kernel_rfl)
  obtain ⟨a, b, c, d, e, f, rfl⟩ := list6 hl6
  obtain ⟨m0, m1, m2, m3, m4, m5, rfl⟩ := list6 (show Ns.length = 6 from hNl)
  have c28 : Tryd.prog.cellsOf 28 = 1 := by kernel_rfl
  have c3 : Tryd.prog.cellsOf 3 = 1 := by kernel_rfl
  have c22 : Tryd.prog.cellsOf 22 = 1 := by kernel_rfl
  have c43 : Tryd.prog.cellsOf 43 = 1 := by kernel_rfl
  obtain ⟨n0, e0, h0⟩ := hf 0 _ rfl
  obtain ⟨n1, e1, h1⟩ := hf 1 _ rfl
  obtain ⟨n2, e2, h2⟩ := hf 2 _ rfl
  obtain ⟨n3, e3, h3⟩ := hf 3 _ rfl
  obtain ⟨n4, e4, h4⟩ := hf 4 _ rfl
  obtain ⟨n5, e5, h5⟩ := hf 5 _ rfl
  replace h0 : OpensB Tryd.prog w 28 (([a, b, c, d, e, f].drop 0).take (Tryd.prog.cellsOf 28)) n0 := h0
  rw [c28] at h0
  replace h1 : OpensB Tryd.prog w 3 (([a, b, c, d, e, f].drop 1).take (Tryd.prog.cellsOf 3)) n1 := h1
  rw [c3] at h1
  replace h2 : OpensB Tryd.prog w 3 (([a, b, c, d, e, f].drop 2).take (Tryd.prog.cellsOf 3)) n2 := h2
  rw [c3] at h2
  replace h3 : OpensB Tryd.prog w 3 (([a, b, c, d, e, f].drop 3).take (Tryd.prog.cellsOf 3)) n3 := h3
  rw [c3] at h3
  replace h4 : OpensB Tryd.prog w 22 (([a, b, c, d, e, f].drop 4).take (Tryd.prog.cellsOf 22)) n4 := h4
  rw [c22] at h4
  replace h5 : OpensB Tryd.prog w 43 (([a, b, c, d, e, f].drop 5).take (Tryd.prog.cellsOf 43)) n5 := h5
  rw [c43] at h5
  simp only [List.getElem?_cons_zero, List.getElem?_cons_succ, Option.some.injEq] at e0 e1 e2 e3 e4 e5
  subst e0 e1 e2 e3 e4 e5
  obtain ⟨k0, q0, z0⟩ := h0.opens.int Tryd.underlying28
  obtain ⟨k1, q1, z1⟩ := h1.opens.int Tryd.underlying3
  obtain ⟨k2, q2, z2⟩ := h2.opens.int Tryd.underlying3
  obtain ⟨k3, q3, z3⟩ := h3.opens.int Tryd.underlying3
  obtain ⟨v4, s4, q4, z4, l4⟩ := h4.bytes Tryd.underlying22 Tryd.underlying5 (by kernel_rfl) (by kernel_rfl)
  obtain ⟨v5, s5, q5, z5, l5⟩ := h5.strs
  simp at q0 q1 q2 q3 q4 q5
  subst q0 q1 q2 q3 q4 q5
  simp only [List.sum_cons, List.sum_nil] at hsum
  exact ⟨⟨k0, k1, k2, k3, s4, s5⟩, _, _, rfl, z4, z5, ⟨wf_i64 z0, wf_i64 z1, wf_i64 z2, wf_i64 z3, by simp only; omega, by simp only; omega⟩⟩
theorem map_acts {w : World} : ∀ {cs : List (List Value)} {Ns : List Nat}, cs.length = Ns.length → Ns.sum ≤ 1048576 → (∀ (i : Nat) c, cs[i]? = some c → ∃ N, Ns[i]? = some N ∧ OpensB Tryd.prog w 27 c N) → ∃ L : List AV, cs.flatten = flatA L ∧ L.length = cs.length ∧ (∀ p ∈ L, AVr w p) ∧ (∀ p ∈ L, ActOk p.1 ∧ SmallA p.1 1048576) ∧ L.length * 13 ≤ Ns.sum
  | [], [], _, _, h => ⟨[], rfl, rfl, by simp, by simp, by simp⟩
  | [], _ :: _, hl, _, _ => by simp at hl
  | _ :: _, [], hl, _, _ => by simp at hl
  | c :: cs, N :: Ns, hl, hsm, h => by
    simp only [List.sum_cons] at hsm
    obtain ⟨N', hN, ho⟩ := h 0 c rfl
    simp only [List.getElem?_cons_zero, Option.some.injEq] at hN
    subst hN
    obtain ⟨x, dv, kv, rfl, hd, hk, hok, hs, h13⟩ := act_open (by omega) ho
    obtain ⟨L, h1, h2, h3, h4, h5⟩ := map_acts (cs := cs) (Ns := Ns) (by simpa using hl) (by omega) (fun i c hc => by simpa using h (i + 1) c (by simpa using hc))
    refine ⟨(x, dv, kv) :: L, ?_, by simp [h2], fun p hp => ?_, fun p hp => ?_, ?_⟩
    · rw [List.flatten_cons, h1]
      rfl
    · rcases List.mem_cons.1 hp with rfl | hp
      · exact ⟨hd, hk⟩
      · exact h3 p hp
    · rcases List.mem_cons.1 hp with rfl | hp
      · exact ⟨hok, ⟨⟨Nat.le_trans hs.call.path (by omega), Nat.le_trans hs.call.other (by omega), Nat.le_trans hs.call.data (by omega)⟩, Nat.le_trans hs.keep (by omega)⟩⟩
      · exact h4 p hp
    · simp only [List.length_cons, List.sum_cons]
      omega
theorem acts_open {w : World} {cs : List Value} {N : Nat} (hN : N ≤ 1048576) (h : OpensB Tryd.prog w 39 cs N) :
    ∃ v xs, cs = [v] ∧ ActsR w v xs ∧ (∀ x ∈ xs, ActOk x ∧ SmallA x 1048576) ∧ xs.length ≤ 100000 := by
  obtain ⟨v, n, css, Ns, rfl, hn, hNs, hs, hall, hsum⟩ := h.slice Tryd.underlying39
  have c1 : Tryd.prog.cellsOf 27 = 11 := by kernel_rfl
  rw [c1] at hs
  obtain ⟨L, h1, h2, h3, h4, h5⟩ := map_acts (w := w) (cs := css) (Ns := Ns) (by omega) (by omega) (fun i c hc => (hall i c hc).2)
  rw [h1] at hs
  have hs' := hs
  obtain ⟨A, c, rfl, _⟩ := hs'
  obtain rfl : n = L.length := by omega
  refine ⟨_, L.map Prod.fst, rfl, ⟨L, A, c, rfl, hs, rfl, h3⟩, fun x hx => ?_, by rw [List.length_map]; omega⟩
  obtain ⟨p, hp, rfl⟩ := List.mem_map.1 hx
  exact h4 p hp
end Go.Proofs.YtpdnfcgdcndhpaaDoor
