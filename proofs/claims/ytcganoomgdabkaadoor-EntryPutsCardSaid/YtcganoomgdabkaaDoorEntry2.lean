/- entry.Encode. -/
import Derived.Test.YtcganoomgdabkaaDoorEntry1
import Derived.Test.YtcganoomgdabkaaDoorCopy
set_option linter.unusedSimpArgs false
set_option linter.unusedVariables false
namespace Go.Proofs.YtcganoomgdabkaaDoor
open Go.RowKit

/-- How Encode ends. -/
def EncEnd (r : Option (List UInt8)) (w : World) (e : Ending) (w' : World) : Prop :=
  Below w.heap.size w w' ∧ match r with
  | some b => ∃ g, e = .returned (.tuple #[.slice (some ⟨g, 0, none⟩) 32 32, .int .i64 0]) ∧ w'.ownsRow 0 5 1 (.slice (some ⟨g, 0, none⟩) 32 32) 32 (bv b) ∧ w.heap.size ≤ g
  | none => e = .returned (.tuple #[.slice none 0 0, .int .i64 2])

/-- 32 bytes 0. -/
def Z32 : Array Value := Array.replicate 32 (.int .u8 0)
theorem make32 (w : World) : (Instr.makeSlice 24 (.int .i64 32) (.int .i64 32)).run Tryd.prog w = .ok (.slice (some ⟨w.heap.size, 0, none⟩) 32 32) (w.alloc (.cells Z32 5)) := by kernel_rfl
theorem own32 (w : World) : (w.alloc (.cells Z32 5)).ownsRow 0 5 1 (.slice (some ⟨w.heap.size, 0, none⟩) 32 32) 32 (bv (List.replicate 32 0)) := by
  have h := own_new w Z32 5 1 32 (by kernel_rfl) (by decide)
  have e : Z32.toList = bv (List.replicate 32 0) := by kernel_rfl
  rwa [e] at h

set_option maxRecDepth 100000 in
set_option maxHeartbeats 2000000 in
theorem encode_none (w : World) :
    Calls Tryd.prog 8 #[.agg #[.string ⟨#[]⟩, .int .i64 0]] w (EncEnd (some (List.replicate 32 0)) w) := by
  have HB := Lib.hid ((Below.refl w.heap.size w).alloc (Nat.le_refl _) (.cells #[.string ⟨#[]⟩, .int .i64 0] 23))
  have HO := Lib.hid (own32 (w.alloc (.cells #[.string ⟨#[]⟩, .int .i64 0] 23)))
  have hmk := make32
  go_enter Tryd.func8, Tryd.ntmps8
  go_wp2
  go_ret2
  exact ⟨HB.out.alloc (by simp) _, w.heap.size + 1, rfl, by have := HO.out; simpa using this, by omega⟩
set_option maxRecDepth 100000 in
set_option maxHeartbeats 2000000 in
theorem encode_bad (s : Str) (n : Int) (w : World) (hs : s.length ≤ 140737488351232) (hn : (⟨s, n⟩ : RW) ≠ RW.none) (hsd : soundP ⟨s, n⟩ = false) :
    Calls Tryd.prog 8 #[.agg #[.string ⟨s.toArray⟩, .int .i64 n]] w (EncEnd none w) := by
  have hS := Lib.hid (sound_walk ⟨s, n⟩ ((w.alloc (.cells #[.string ⟨s.toArray⟩, .int .i64 n] 23)).alloc (.cells Z32 5)) hs)
  rw [hsd] at hS
  have HB := Lib.hid (((Below.refl w.heap.size w).alloc (Nat.le_refl _) (.cells #[.string ⟨s.toArray⟩, .int .i64 n] 23)).alloc (by simp) (.cells Z32 5))
  have hz : w.heap.size ≤ ((w.alloc (.cells #[.string ⟨s.toArray⟩, .int .i64 n] 23)).alloc (.cells Z32 5)).heap.size := by simp; omega
  have hmk := make32
  unfold RW.val at hS
  dsimp only at hS
  clear hsd
  by_cases h0 : s = []
  · subst h0
    have h1 : ¬ n = 0 := fun e => hn (by rw [e]; rfl)
    have h1' : (n == 0) = false := beq_eq_false_iff_ne.2 h1
    clear hn
    go_enter Tryd.func8, Tryd.ntmps8
    go_wp2_with fail
    refine hS.out.mono ?_
    rintro e w1 ⟨rfl, hb⟩
    go_wp2
    go_ret2
    exact ⟨HB.out.trans (hb.mono hz), rfl⟩
  · have h1 : s.isEmpty = false := by simpa using h0
    clear hn
    go_enter Tryd.func8, Tryd.ntmps8
    go_wp2_with fail
    refine hS.out.mono ?_
    rintro e w1 ⟨rfl, hb⟩
    go_wp2
    go_ret2
    exact ⟨HB.out.trans (hb.mono hz), rfl⟩
theorem own_of_blk {w : World} {g n : Nat} {cs : Array Value} {e : TypeId} (h : w.heap[g]? = some (.cells cs e (0, 0))) (hn : cs.size = n) (hm : n ≤ maxLen) : w.ownsRow 0 e 1 (.slice (some ⟨g, 0, none⟩) n n) n cs.toList :=
  ⟨by simpa using hn, .inr ⟨g, n, cs, rfl, Nat.zero_le _, h, Nat.le_refl _, hm, by omega, by rw [List.take_of_length_le (by simp; omega)]⟩⟩
/-- The row that Encode writes. -/
theorem enc_row {s : Str} {n : Int} (h1 : s.length ≤ 24) (h2 : 1 ≤ n) (h3 : n < 32) (c0 c1 : Array Value) (e0 : c0 = Z32.setIfInBounds 0 (.int .u8 (s.length : Int))) (e1 : c1 = (c0.toList.take 1 ++ bv s ++ c0.toList.drop (1 + s.length)).toArray) :
    c0.size = 32 ∧ c1.size = 32 ∧ (c1.setIfInBounds 25 (.int .u8 n)).toList = bv (encB ⟨s, n⟩) := by
  have z : c0.size = 32 := by rw [e0, Array.size_setIfInBounds]; rfl
  have hl0 : c0.toList = .int .u8 (s.length : Int) :: List.replicate 31 (.int .u8 0) := by rw [e0]; rfl
  have hc1 : c1.toList = .int .u8 (s.length : Int) :: (bv s ++ List.replicate (31 - s.length) (.int .u8 0)) := by
    have hd : (List.replicate 31 (Value.int .u8 0)).drop s.length = List.replicate (31 - s.length) (.int .u8 0) := List.drop_replicate
    rw [e1, hl0, Nat.add_comm 1, List.drop_succ_cons, hd]
    simp
  have hz1 : c1.size = 32 := by rw [← Array.length_toList, hc1]; simp [bv]; omega
  refine ⟨z, hz1, ?_⟩
  rw [Array.toList_setIfInBounds, hc1]
  have hx : ((byteOf n).toNat : Int) = n := byteOf_nat (by omega) (by omega)
  have hy : ((UInt8.ofNat s.length).toNat : Int) = (s.length : Int) := by rw [UInt8.toNat_ofNat']; omega
  have he : encB ⟨s, n⟩ = UInt8.ofNat s.length :: (s ++ (List.replicate (24 - s.length) 0 ++ (byteOf n :: List.replicate 6 0))) := by simp [encB]
  rw [he]
  have hbv : bv (UInt8.ofNat s.length :: (s ++ (List.replicate (24 - s.length) 0 ++ (byteOf n :: List.replicate 6 0)))) = .int .u8 (s.length : Int) :: (bv s ++ (List.replicate (24 - s.length) (.int .u8 0) ++ (.int .u8 n :: List.replicate 6 (.int .u8 0)))) := by
    simp only [bv, List.map_cons, List.map_append, List.map_replicate, hx, hy]
    rfl
  rw [hbv]
  have hr : (List.replicate (31 - s.length) (Value.int .u8 0)) = List.replicate (24 - s.length) (.int .u8 0) ++ (.int .u8 0 :: List.replicate 6 (.int .u8 0)) := by
    rw [← List.replicate_succ, List.replicate_append_replicate]
    congr 1
    omega
  rw [hr, List.set_cons_succ, ← List.append_assoc, List.set_append_right _ _ (by simp [bv]; omega)]
  have h24 : 24 - (bv s ++ List.replicate (24 - s.length) (Value.int .u8 0)).length = 0 := by simp [bv]; omega
  rw [h24]
  simp
set_option maxRecDepth 100000 in
set_option maxHeartbeats 2000000 in
theorem encode_good (s : Str) (n : Int) (w : World) (hs : s.length ≤ 24) (h0 : s ≠ []) (hsd : soundP ⟨s, n⟩ = true) (n1 : 1 ≤ n) (n2 : n < 32) :
    Calls Tryd.prog 8 #[.agg #[.string ⟨s.toArray⟩, .int .i64 n]] w (EncEnd (some (encB ⟨s, n⟩)) w) := by
  obtain ⟨w0, hw0⟩ : ∃ w0, w0 = (w.alloc (.cells #[.string ⟨s.toArray⟩, .int .i64 n] 23)).alloc (.cells Z32 5) := ⟨_, rfl⟩
  have hS := Lib.hid (sound_walk ⟨s, n⟩ w0 (by show s.length ≤ _; omega))
  rw [hsd] at hS
  have HB : Hid (Below w.heap.size w w0) := Lib.hid (by rw [hw0]; exact ((Below.refl w.heap.size w).alloc (Nat.le_refl _) (.cells #[.string ⟨s.toArray⟩, .int .i64 n] 23)).alloc (by simp) (.cells Z32 5))
  have hz : w0.heap.size = w.heap.size + 1 + 1 := by rw [hw0]; simp
  have hr : w0.heap[w.heap.size]? = some (.cells #[.string ⟨s.toArray⟩, .int .i64 n] 23 (0, 0)) := by rw [hw0]; exact blk_old (blk_new _ _) _
  have ho : w0.heap[w.heap.size + 1]? = some (.cells Z32 5 (0, 0)) := by rw [hw0]; have := blk_new (w.alloc (.cells #[.string ⟨s.toArray⟩, .int .i64 n] 23)) (.cells Z32 5); simpa using this
  have hmk := make32
  unfold RW.val at hS
  dsimp only at hS
  have h1 : s.isEmpty = false := by simpa using h0
  have HW := Lib.hid hw0
  have HZ := Lib.hid hz
  have HR := Lib.hid hr
  have HO := Lib.hid ho
  clear hsd h0 hw0 hz hr ho
  go_enter Tryd.func8, Tryd.ntmps8
  go_wp2_with fail
  rw [← HW.out]
  refine hS.out.mono ?_
  rintro e w1 ⟨rfl, hb⟩
  have KB := Lib.hid (Keep.of_below (S := fun _ => False) hb)
  have R1 := Lib.hid (KB.out.blk HR.out id)
  have O1 := Lib.hid (KB.out.blk HO.out id)
  have cr := blk_cells R1.out
  have co : w1.cell? ⟨w.heap.size + 1, 0, none⟩ = some (.int .u8 0) := blk_cell O1.out rfl
  have fo := blk_free (j := 0) O1.out
  have hsi : (s.length : Int) ≤ 24 := by omega
  have lt1 : w.heap.size < w1.heap.size := blk_lt R1.out
  clear hb
  go_wp2
  obtain ⟨w2, hw2⟩ : ∃ w2, w2 = w1.setCell ⟨w.heap.size + 1, 0, none⟩ (.int .u8 (s.length : Int)) := ⟨_, rfl⟩
  obtain ⟨c0, hc0⟩ : ∃ c0, c0 = Z32.setIfInBounds 0 (.int .u8 (s.length : Int)) := ⟨_, rfl⟩
  obtain ⟨c1, hc1⟩ : ∃ c1, c1 = (c0.toList.take 1 ++ bv s ++ c0.toList.drop (1 + s.length)).toArray := ⟨_, rfl⟩
  obtain ⟨z0, z1, hf⟩ := enc_row hs n1 n2 c0 c1 hc0 hc1
  have k2 : Keep (fun k => k = w.heap.size + 1) w1 w2 := by rw [hw2]; exact (Keep.refl (fun k => k = w.heap.size + 1) w1).setCell (fun _ => rfl) _
  have o2 := blk_set (j := 0) O1.out (.int .u8 (s.length : Int))
  rw [← hw2, ← hc0] at o2
  rw [← hw2]
  have R2 := Lib.hid (k2.blk R1.out (by omega))
  have K2 := Lib.hid k2
  have O2 := Lib.hid o2
  have HF := Lib.hid hf
  have HC1 := Lib.hid hc1
  have cr2 := blk_cells R2.out
  have hsz : (⟨s.toArray⟩ : ByteArray).size = s.length := by simp [ByteArray.size]
  have HSZ := Lib.hid hsz
  have HC0 := Lib.hid hc0
  have lt2 : w.heap.size < w2.heap.size := blk_lt R2.out
  clear hw2 hc0 hc1 k2 o2 hf cr co fo hsz hmk
  go_region_law (refine step_copy_str (by rfl) Tryd.underlying24 (by kernel_rfl) (by rfl) (by rfl) (by rfl) (w := w2.drew) (g := w.heap.size + 1) (cur := c0) O2.out (by rw [HSZ.out]; omega) (by rw [HSZ.out]; omega) ?_)
  all_goals
    have HC1' := HC1.out
    rw [List.append_assoc] at HC1'
    rw [← HC1']
    obtain ⟨w3, hw3⟩ : ∃ w3, w3 = w2.drew.setRow (w.heap.size + 1) c1 := ⟨_, rfl⟩
    have k3 : Keep (fun k => k = w.heap.size + 1) w2 w3 := by rw [hw3]; exact ((Keep.refl (fun k => k = w.heap.size + 1) w2).drew).trans (keep_setRow _ _ _) (fun _ _ h => h)
    have o3 : w3.heap[w.heap.size + 1]? = some (.cells c1 5 (0, 0)) := by rw [hw3]; exact blk_row (w := w2.drew) O2.out
    rw [← hw3]
    have R3 := Lib.hid (k3.blk R2.out (by omega))
    have cr3 := blk_cells R3.out
    obtain ⟨v25, hv25⟩ : ∃ v, w3.cell? ⟨w.heap.size + 1, 25, none⟩ = some v := ⟨_, blk_cell o3 (Array.getElem?_eq_getElem (by omega))⟩
    have fo3 := blk_free (j := 25) o3
    have O3 := Lib.hid o3
    have K3 := Lib.hid k3
    have n3 : n < 256 := by omega
    clear hw3 o3 k3 cr2 HC1'
    go_wp2
    go_ret2
    refine ⟨?_, w.heap.size + 1, rfl, ?_, by omega⟩
    · exact ((((HB.out.trans ((KB.out.below (B := w.heap.size) (fun i h => h.elim) (by have := HZ.out; omega)))).trans (K2.out.below (B := w.heap.size) (fun i h => by omega) (by omega))).trans (K3.out.below (B := w.heap.size) (fun i h => by omega) (by omega)))).setCell (by show w.heap.size ≤ w.heap.size + 1; omega) _
    · have o4 := blk_set (j := 25) O3.out (.int .u8 n)
      have := own_of_blk o4 (n := 32) (by rw [Array.size_setIfInBounds]; omega) (by decide)
      rw [HF.out] at this
      exact this
theorem encode_walk (r : RW) (w : World) (hs : r.name.length ≤ 140737488351232) :
    Calls Tryd.prog 8 #[r.val] w (EncEnd (encP r) w) := by
  by_cases h : r = RW.none
  · subst h
    exact encode_none w
  · unfold encP
    rw [if_neg h]
    by_cases hq : soundP r = false
    · rw [if_pos hq]
      obtain ⟨s, n⟩ := r
      exact encode_bad s n w hs h hq
    · rw [if_neg hq]
      have hq : soundP r = true := by simpa using hq
      obtain ⟨h1, h2, h3⟩ := soundP_iff.1 hq
      obtain ⟨l1, l2⟩ := isName_len h1
      obtain ⟨s, n⟩ := r
      exact encode_good s n w l2 (by rintro rfl; simp at l1) hq h2 h3
end Go.Proofs.YtcganoomgdabkaaDoor
