/- Package copyholdlaw21: what the law of fills keeps, in plain words. -/
import Derived.Test.YtpgjjhpnemcgdaaCachP
set_option linter.unusedSimpArgs false
set_option linter.unusedVariables false
namespace Go.Proofs.Ytpgjjhpnemcgdaa
open Go.RowKit

def txt (i : Nat) : UInt8 := UInt8.ofNat (i % 251)
def txtL : List UInt8 := (List.range 2400).map txt
theorem txtL_len : txtL.length = 2400 := by unfold txtL; rw [List.length_map, List.length_range]
theorem txtL_get (i : Nat) (h : i < 2400) : txtL[i]? = some (txt i) := by
  unfold txtL
  rw [List.getElem?_map, List.getElem?_range h]
  rfl
def want (n fr : Nat) (b : List UInt8) (i : Nat) : UInt8 := if fr ≤ i ∧ i < fr + b.length then b.getD (i - fr) 0 else if i < n then txt i else 0
def fsz (n fr : Nat) (b : List UInt8) : Nat := if b.length = 0 then n else max n (fr + b.length)
structure FS (n fr : Nat) (b : List UInt8) (s : CaS) : Prop where
  kb : KB s.known
  size : s.size = fsz n fr b
  sd : s.size ≤ s.data.length
  dl : s.data.length ≤ 1000000
  ok : ∀ i, i < s.size → Cov s.known i → s.data[i]? = some (want n fr b i)
  un : ∀ i, i < s.size → ¬ Cov s.known i → i < n ∧ ¬ (fr ≤ i ∧ i < fr + b.length)
theorem fsz_le {n fr : Nat} {b : List UInt8} (hn : n < 2000) (hf : fr < 2000) (hb : b.length ≤ 300) : fsz n fr b < 2400 := by unfold fsz; split <;> omega
/-- After the lease. -/
theorem FS.lease {n fr : Nat} {b : List UInt8} (hn : n < 2000) (hb : b.length = 0) : FS n fr b (leaseP CaS.new 0 n) := by
  have hd : (leaseP CaS.new 0 n).data = List.replicate n 0 := by simp [leaseP, CaS.new, growP]
  refine ⟨KB.nil, by unfold fsz; rw [if_pos hb]; rfl, ?_, ?_, fun i _ h => absurd h (cov_nil i), fun i hi _ => ⟨hi, by omega⟩⟩
  · rw [hd, List.length_replicate]; exact Nat.le_refl _
  · rw [hd, List.length_replicate]; omega
/-- After the write. -/
theorem FS.write {n fr : Nat} {b : List UInt8} {s' : CaS} (hn : n < 2000) (hf : fr < 2000) (hb : b.length ≤ 300) (h0 : 0 < b.length) (h : WrP (leaseP CaS.new 0 n) fr b s') : FS n fr b s' := by
  have hd : (leaseP CaS.new 0 n).data = List.replicate n 0 := by simp [leaseP, CaS.new, growP]
  have hz : (leaseP CaS.new 0 n).size = n := rfl
  have hk : (leaseP CaS.new 0 n).known = [] := rfl
  have hsz : s'.size = max n (fr + b.length) := by rw [h.size, hz]
  have hgl : (growP (List.replicate n (0 : UInt8)) (fr + b.length)).length = max n (fr + b.length) := by rw [growP_len, List.length_replicate]
  have hgg : ∀ i, i < max n (fr + b.length) → (growP (List.replicate n (0 : UInt8)) (fr + b.length))[i]? = some 0 := fun i hi => by
    unfold growP
    rw [List.length_replicate, List.replicate_append_replicate, List.getElem?_replicate, if_pos (by omega)]
  have hin : ∃ D : List UInt8, D.length = max n (fr + b.length) ∧ (∀ i, i < max n (fr + b.length) → D[i]? = some 0) ∧ s'.data = putP D fr b := by
    have hdat := h.data
    rw [hd, hz] at hdat
    by_cases hc : n < fr
    · rw [if_pos hc] at hdat
      have hle : n + (List.replicate (fr - n) (0 : UInt8)).length ≤ (growP (List.replicate n (0 : UInt8)) (fr + b.length)).length := by rw [hgl, List.length_replicate]; omega
      refine ⟨_, by rw [putP_len hle, hgl], fun i hi => ?_, hdat⟩
      rw [putP_get hle]
      split
      · rename_i hi2
        rw [List.length_replicate] at hi2
        rw [List.getElem?_replicate, if_pos (by omega)]
      · exact hgg i hi
    · rw [if_neg hc] at hdat
      exact ⟨_, hgl, hgg, hdat⟩
  obtain ⟨D, hDl, hDg, hdat⟩ := hin
  have hle : fr + b.length ≤ D.length := by rw [hDl]; omega
  have hcov : ∀ i, Cov s'.known i ↔ (n ≤ i ∧ i < fr) ∨ (fr ≤ i ∧ i < fr + b.length) := fun i => by
    rw [h.cov i, hk, hz]
    constructor
    · rintro (h | h)
      · exact absurd h (cov_nil i)
      · exact h
    · exact .inr
  refine ⟨h.known, by rw [hsz]; unfold fsz; rw [if_neg (by omega)], by rw [hdat, putP_len hle, hDl, hsz]; exact Nat.le_refl _, by rw [hdat, putP_len hle, hDl]; omega, fun i hi hc => ?_, fun i hi hc => ?_⟩
  · rw [hdat, putP_get hle]
    unfold want
    rw [hsz] at hi
    split
    · rename_i h1
      rw [List.getElem?_eq_getElem (by omega), List.getD_eq_getElem?_getD, List.getElem?_eq_getElem (by omega)]
      rfl
    · rename_i h1
      have := (hcov i).1 hc
      rw [if_neg (by omega), hDg i hi]
  · rw [hcov i] at hc
    rw [hsz] at hi
    omega
/-- A round fills the first of what is missing. -/
theorem FS.fill {n fr : Nat} {b : List UInt8} {s : CaS} {p c : Nat} {D' : List UInt8} {R : List St} (h : FS n fr b s) (hn : n < 2000) (hc0 : 0 < c) (hpc : p + c ≤ s.size) (hu : ∀ i, p ≤ i → i < p + c → ¬ Cov s.known i)
    (hf : FiP p ((txtL.drop p).take c) s.data (lessP [(p, p + c)] s.known) D') (hR : Kn s.known p (p + c) R) : FS n fr b { s with data := D', known := R } := by
  have hps : PS [((p, p + c) : St)] := PS.single ⟨by simp only; omega, by have := (h.un (p + c - 1) (by omega) (hu _ (by omega) (by omega))).1; simp only; omega⟩
  obtain ⟨h1, h2⟩ := less_law hps h.kb.ps
  have hcv : ∀ i, Cov (lessP [((p, p + c) : St)] s.known) i ↔ p ≤ i ∧ i < p + c := fun i => by
    rw [h2 i, cov_cons]
    constructor
    · rintro ⟨h | h, _⟩
      · exact h
      · exact absurd h (cov_nil i)
    · exact fun h => ⟨.inl h, hu i h.1 h.2⟩
  refine ⟨hR.1, h.size, by show s.size ≤ D'.length; rw [hf.len]; exact h.sd, by show D'.length ≤ _; rw [hf.len]; exact h.dl, fun i hi hc => ?_, fun i hi hc => h.un i hi (fun h => hc ((hR.2 i).2 (.inl h)))⟩
  show D'[i]? = _
  have hi2 : i < s.data.length := Nat.lt_of_lt_of_le hi h.sd
  by_cases hpi : p ≤ i ∧ i < p + c
  · obtain ⟨u1, u2⟩ := h.un i hi (hu i hpi.1 hpi.2)
    rw [(hf.get i hi2).1 ((hcv i).2 hpi), List.getElem?_take_of_lt (by omega), List.getElem?_drop, show p + (i - p) = i by omega, txtL_get i (by omega)]
    unfold want
    rw [if_neg u2, if_pos u1]
  · rw [(hf.get i hi2).2 (fun h => hpi ((hcv i).1 h))]
    exact h.ok i hi (((hR.2 i).1 hc).resolve_right hpi)
end Go.Proofs.Ytpgjjhpnemcgdaa
