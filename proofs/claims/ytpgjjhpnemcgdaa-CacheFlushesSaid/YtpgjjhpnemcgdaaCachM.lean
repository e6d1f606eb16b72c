/- Package cache: others' new blocks; the states that awake comes to. -/
import Derived.Test.YtpgjjhpnemcgdaaCachL
set_option linter.unusedSimpArgs false
set_option linter.unusedVariables false
namespace Go.Proofs.Ytpgjjhpnemcgdaa
open Go.RowKit

theorem CA.addNew {X : Nat → Prop} {k : Nat} {s : CaS} {w w' : World} {DA : Option Addr} {dc : Nat} {kv : Value} {YA : Option Addr} {yc : Nat} {L : List ((Nat × List UInt8) × Value)} (h : CA X k s w DA dc kv YA yc L) (hk : Below w.heap.size w w') (hs : w.heap.size < w'.heap.size) : CA (fun j => X j ∨ j = w.heap.size) k s w' DA dc kv YA yc L := by
  have h2 := h.below hk
  refine ⟨h2.blk, h2.data, h2.known, h2.dirty, h2.names, h2.pieces, fun j hj => ?_, fun hj => ?_, fun j e hj => ?_, fun j e hj => ?_⟩
  · rcases hj with hj | rfl
    · exact h2.old j hj
    · exact hs
  · rcases hj with hj | hj
    · exact h2.notk hj
    · have := blk_lt h.blk; omega
  · rcases hj with hj | hj
    · exact h2.notd j e hj
    · obtain ⟨cs, hb⟩ := own_blk h.data (k := j) (by rw [ownBlock_slice]; exact e)
      have := blk_lt hb; omega
  · rcases hj with hj | hj
    · exact h2.noty j e hj
    · obtain ⟨cs, hb⟩ := own_blk h.dirty (k := j) (by rw [ownBlock_slice]; exact e)
      have := blk_lt hb; omega
def awS : CaS := ⟨2, 5, 10, List.replicate 10 0, [], [], 0⟩
def aw10 : List UInt8 := [48, 49, 50, 51, 52, 53, 54, 55, 56, 57]
theorem aw_lease : leaseP CaS.new 5 10 = awS := by rfl
theorem aw_part : partN awS 0 99 = (0, 10) := by decide
theorem aw_part10 : partN awS 0 10 = (0, 10) := by decide
theorem aw_miss : missP awS 0 99 = (0, 10, true) := by decide +kernel
theorem aw_fill {D' : List UInt8} (h : FiP 0 aw10 (List.replicate 10 0) (lessP [(0, 10)] []) D') : D' = aw10 := by
  have hl : D'.length = 10 := h.len
  apply List.ext_getElem?
  intro i
  by_cases hi : i < 10
  · have hc : Cov (lessP [(0, 10)] []) i := by
      have := (less_law (A := [(0, 10)]) (B := []) (PS.single ⟨by decide, by decide⟩) PS.nil).2 i
      exact this.2 ⟨(cov_one _ _).2 ⟨Nat.zero_le _, hi⟩, cov_nil i⟩
    have := (h.get i (by simpa using hi)).1 hc
    simpa using this
  · rw [List.getElem?_eq_none (by omega), List.getElem?_eq_none (by simp [aw10]; omega)]
theorem aw_write {s s' : CaS} (h : WrP s 3 [97, 98] s') (hs : s.size = 10) (hd : s.data = aw10) : s'.data = [48, 49, 50, 97, 98, 53, 54, 55, 56, 57] ∧ s'.size = 10 := by
  refine ⟨?_, by rw [h.size, hs]; rfl⟩
  rw [h.data, hs, hd]
  decide +kernel
end Go.Proofs.Ytpgjjhpnemcgdaa
