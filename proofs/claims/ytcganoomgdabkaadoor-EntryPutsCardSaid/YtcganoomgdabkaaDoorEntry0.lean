/- What an entry of a directory means, in plain Lean: its bytes, and the entry that bytes are. No program in sight. -/
import Derived.Test.YtcganoomgdabkaaDoorBase
import Derived.Test.YtcganoomgdabkaaDoorPath0
set_option linter.unusedSimpArgs false
set_option linter.unusedVariables false
namespace Go.Proofs.YtcganoomgdabkaaDoor
open Go.RowKit

structure RW where
  name : Str
  node : Int
deriving DecidableEq
def RW.none : RW := ⟨[], 0⟩
def RW.cells (r : RW) : List Value := [.string ⟨r.name.toArray⟩, .int .i64 r.node]
def RW.val (r : RW) : Value := .agg #[.string ⟨r.name.toArray⟩, .int .i64 r.node]
def rows (l : List RW) : List Value := l.flatMap RW.cells
theorem rows_length (l : List RW) : (rows l).length = l.length * 2 := by
  induction l with
  | nil => rfl
  | cons a l ih => rw [show rows (a :: l) = a.cells ++ rows l from rfl, List.length_append, ih, show a.cells.length = 2 from rfl, List.length_cons]; omega
theorem rows_one (l : List RW) : ∀ u ∈ rows l, u.oneCell' = true := by
  intro u hu
  obtain ⟨r, _, hr⟩ := List.mem_flatMap.1 hu
  simp [RW.cells] at hr
  rcases hr with rfl | rfl <;> rfl
theorem rows_snoc (l : List RW) (r : RW) : rows (l ++ [r]) = rows l ++ r.cells := by simp [rows]
theorem rows_at {l : List RW} {k : Nat} {e : RW} (h : l[k]? = some e) : (rows l)[k * 2]? = some (.string ⟨e.name.toArray⟩) ∧ (rows l)[k * 2 + 1]? = some (.int .i64 e.node) := by
  induction l generalizing k with
  | nil => simp at h
  | cons a l ih =>
    cases k with
    | zero =>
      simp only [List.getElem?_cons_zero, Option.some.injEq] at h
      subst h
      simp [rows, RW.cells]
    | succ k =>
      obtain ⟨h0, h1⟩ := ih (by simpa using h)
      have hf : rows (a :: l) = a.cells ++ rows l := rfl
      have ha : a.cells.length = 2 := rfl
      refine ⟨?_, ?_⟩ <;> rw [hf, List.getElem?_append_right (by rw [ha]; omega), ha]
      · rw [show (k + 1) * 2 - 2 = k * 2 by omega]; exact h0
      · rw [show (k + 1) * 2 + 1 - 2 = k * 2 + 1 by omega]; exact h1
theorem row_at {w : World} {A : Option Addr} {c n k : Nat} {l : List RW} (h : Sl w 2 (.slice A n c) n (rows l)) {e : RW} (hl : l[k]? = some e) :
    ∃ b o, A = some ⟨b, o, none⟩ ∧ b < w.heap.size ∧ w.cell? ⟨b, o + k * 2, none⟩ = some (.string ⟨e.name.toArray⟩) ∧ w.cell? ⟨b, o + k * 2 + 1, none⟩ = some (.int .i64 e.node) := by
  obtain ⟨A', c', e', hr, _⟩ := h
  injection e' with e1 _ e2
  subst e1
  obtain ⟨q0, q1⟩ := rows_at hl
  rcases hr with h0 | ⟨ad, rfl, hc⟩
  · rw [h0] at q0; simp at q0
  · have h0 := hc _ _ q0
    have h1 := hc _ _ q1
    obtain ⟨b, o, spot⟩ := ad
    obtain ⟨e0, he0⟩ : ∃ e0, l[0]? = some e0 := ⟨l[0]'(by have := (List.getElem?_eq_some_iff.1 hl).1; omega), List.getElem?_eq_getElem _⟩
    have hz := hc _ _ (rows_at he0).1
    have es : spot = none := by
      have : (⟨b, o, spot⟩ : Addr).add (0 * 2) = ⟨b, o, spot⟩ := by unfold Addr.add; simp
      rw [this] at hz
      exact World.cell?_spot hz
    subst es
    simp only [Addr.add_lit] at h0 h1
    exact ⟨b, o, rfl, World.block_lt_of_cell? w _ h0, h0, h1⟩

def soundP (r : RW) : Bool := isName r.name && decide (1 ≤ r.node) && decide (r.node < 32)
/-- A number from 0 to 255 as a byte. -/
def byteOf (n : Int) : UInt8 := UInt8.ofNat n.toNat
def encB (r : RW) : List UInt8 := UInt8.ofNat r.name.length :: (r.name ++ List.replicate (24 - r.name.length) 0 ++ [byteOf r.node] ++ List.replicate 6 0)
def encP (r : RW) : Option (List UInt8) := if r = RW.none then some (List.replicate 32 0) else if soundP r = false then none else some (encB r)
theorem isName_len {s : Str} (h : isName s = true) : 1 ≤ s.length ∧ s.length ≤ 24 := by
  simp only [isName, Bool.and_eq_true, Bool.not_eq_true', beq_eq_false_iff_ne, decide_eq_true_eq] at h
  obtain ⟨⟨⟨⟨h1, _⟩, _⟩, h2⟩, _⟩ := h
  exact ⟨by cases s with | nil => exact absurd rfl h1 | cons a s => simp, h2⟩
theorem soundP_iff {r : RW} : soundP r = true ↔ isName r.name = true ∧ 1 ≤ r.node ∧ r.node < 32 := by simp [soundP, and_assoc]
theorem encB_length {r : RW} (h : soundP r = true) : (encB r).length = 32 := by
  obtain ⟨h1, _, _⟩ := soundP_iff.1 h
  have := isName_len h1
  simp [encB]
  omega
theorem encP_length {r : RW} {b : List UInt8} (h : encP r = some b) : b.length = 32 := by
  unfold encP at h
  split at h
  · cases h; rfl
  · split at h
    · cases h
    · cases h; exact encB_length (by simp_all)
def rawR (b : List UInt8) : RW := ⟨(b.drop 1).take (b.getD 0 0).toNat, ((b.getD 25 0).toNat : Int)⟩
def decP (b : List UInt8) : Option RW := if b.length = 32 ∧ (b.getD 0 0).toNat ≤ 24 ∧ encP (rawR b) = some b then some (rawR b) else none
theorem decP_enc {b : List UInt8} {r : RW} (h : decP b = some r) : encP r = some b ∧ b.length = 32 := by
  unfold decP at h
  split at h
  · rename_i hh
    cases h
    exact ⟨hh.2.2, hh.1⟩
  · cases h
theorem byteOf_nat {n : Int} (h0 : 0 ≤ n) (h1 : n < 256) : ((byteOf n).toNat : Int) = n := by
  unfold byteOf
  rw [UInt8.toNat_ofNat']
  omega
/-- An entry's bytes are just that entry. -/
theorem enc_dec {b : List UInt8} {r : RW} (h : encP r = some b) : decP b = some r := by
  have hb := encP_length h
  have hr : rawR b = r ∧ (b.getD 0 0).toNat ≤ 24 := by
    have h' := h
    unfold encP at h'
    split at h'
    · rename_i e
      cases h'
      subst e
      exact ⟨rfl, by decide⟩
    · split at h'
      · cases h'
      · rename_i hs
        have hs : soundP r = true := by simpa using hs
        cases h'
        obtain ⟨h1, h2, h3⟩ := soundP_iff.1 hs
        obtain ⟨l1, l2⟩ := isName_len h1
        have e0 : (encB r).getD 0 0 = UInt8.ofNat r.name.length := rfl
        have e1 : (UInt8.ofNat r.name.length).toNat = r.name.length := by rw [UInt8.toNat_ofNat']; omega
        have e2 : (encB r).getD 25 0 = byteOf r.node := by
          simp only [encB, List.getD_eq_getElem?_getD, List.getElem?_cons_succ]
          rw [List.append_assoc, List.getElem?_append_right (by simp; omega)]
          have h0 : 24 - (r.name ++ List.replicate (24 - r.name.length) (0 : UInt8)).length = 0 := by simp; omega
          rw [h0]
          rfl
        refine ⟨?_, by rw [e0, e1]; exact l2⟩
        unfold rawR
        rw [e2, e0, e1, byteOf_nat (by omega) (by omega)]
        have : ((encB r).drop 1).take r.name.length = r.name := by simp [encB]
        rw [this]
  unfold decP
  rw [if_pos ⟨hb, hr.2, by rw [hr.1]; exact h⟩, hr.1]
end Go.Proofs.YtcganoomgdabkaaDoor
