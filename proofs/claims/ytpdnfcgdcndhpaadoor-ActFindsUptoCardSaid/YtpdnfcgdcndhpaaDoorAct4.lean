/- act.untext: the text that a word is. -/
import Derived.Test.YtpdnfcgdcndhpaaDoorAct3
set_option linter.unusedSimpArgs false
set_option linter.unusedVariables false
namespace Go.Proofs.YtpdnfcgdcndhpaaDoor
open Go.RowKit

def hexI (c : UInt8) : Int := Lib.indexByte hexL c
def unV (a b : Int) : Int := bits BinOp.or IntKind.i64 (wrap64 (a * 16)) (bits BinOp.and IntKind.i64 b 15) % 256
def unB (p q : UInt8) : UInt8 := UInt8.ofNat (unV (hexI p) (hexI q)).toNat
theorem unV_in (a b : Int) : 0 ≤ unV a b ∧ unV a b < 256 := by unfold unV; omega
theorem unB_val (p q : UInt8) : ((unB p q).toNat : Int) = unV (hexI p) (hexI q) := by
  have := unV_in (hexI p) (hexI q)
  unfold unB
  rw [UInt8.toNat_ofNat']
  omega
def untP : Str → Str
  | [] => []
  | [c] => [c]
  | [c, d] => [c, d]
  | c :: p :: q :: r => if c = 37 then unB p q :: untP r else c :: untP (p :: q :: r)
def untextP (w : Str) : Str := if w = [37] then [] else untP w
theorem untP_other {c : UInt8} {r : Str} (h : c ≠ 37 ∨ r.length < 2) : untP (c :: r) = c :: untP r := by
  match r with
  | [] => rfl
  | [d] => rfl
  | p :: q :: r =>
    rcases h with h | h
    · rw [untP, if_neg h]
    · simp at h; omega
theorem untP_len : ∀ (n : Nat) (s : Str), s.length ≤ n → (untP s).length ≤ s.length
  | 0, s, h => by cases s with | nil => exact Nat.le_refl _ | cons c r => simp at h
  | n + 1, s, h => by
    match s with
    | [] => exact Nat.le_refl _
    | [c] => exact Nat.le_refl _
    | [c, d] => exact Nat.le_refl _
    | c :: p :: q :: r =>
      rw [untP]
      split
      · have := untP_len n r (by simp at h; omega)
        simp only [List.length_cons]
        omega
      · have := untP_len n (p :: q :: r) (by simp at h ⊢; omega)
        simp only [List.length_cons] at this ⊢
        omega
/-- A row of bytes of one's own, made since. -/
def FrB (base : Nat) (wr : World) (v : Value) (bs : Str) : Prop := ∃ A c, v = .slice A bs.length c ∧ wr.ownsRow 0 5 1 (.slice A bs.length c) bs.length (bv bs) ∧ ∀ k, A.map (·.block) = some k → base ≤ k
theorem bv_app (a b : Str) : bv (a ++ b) = bv a ++ bv b := by simp only [bv, List.map_append]
def UnInv (s : Str) (base : Nat) (w0 : World) (v3 v4 : Value) (wr : World) : Prop := ∃ (i : Nat) (bs : Str), i ≤ s.length ∧ v4 = .int .i64 (i : Int) ∧ FrB base wr v3 bs ∧ untP s = bs ++ untP (s.drop i) ∧ Below base w0 wr
end Go.Proofs.YtpdnfcgdcndhpaaDoor
