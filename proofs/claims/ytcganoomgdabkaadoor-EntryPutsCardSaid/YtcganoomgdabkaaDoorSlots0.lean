/- slices.Chunk at 32 bytes: what the loop over it is handed. -/
import Derived.RangeFuncNested
import Derived.RangeFuncBound
import Derived.RangeFuncCalls
import Derived.RangeFuncLeaves
import Derived.RangeFuncBox
import Derived.Shelf.Abstract
import Derived.Shelf.RegionOpen
import Derived.WalkKit
import Derived.OwnWalkIn
import Derived.TacticsInMore
import Derived.LoopNIn
import Derived.LoopIn
import Derived.Test.YtcganoomgdabkaaDoorEntryA
set_option linter.unusedSimpArgs false
set_option linter.unusedVariables false
namespace Go.Proofs.YtcganoomgdabkaaDoor
open Go.RowKit Go.Shelf

attribute [local go_sem] Oper.semAt_some

/-- What is handed out at round i: 32 bytes. -/
def chunkV (b off : Nat) {N : Nat} (x : Fin N) : Array Value := #[.slice (some ⟨b, off + 32 * x.val, none⟩) 32 32]
theorem finRange_succ_take {N k : Nat} (h : k < N) : (List.finRange N).take (k + 1) = (List.finRange N).take k ++ [⟨k, h⟩] := by
  rw [List.take_add_one]
  congr 1
  rw [List.getElem?_eq_getElem (by simpa using h)]
  simp
set_option maxRecDepth 100000 in
set_option maxHeartbeats 4000000 in
theorem chunk1_in (F : Fence) (n : Nat) (hf : F.fn 36) (hro : F.round = none) (hn : 1 ≤ n) (l Bs Bn b off N M cap : Nat) (S : Nat → Prop) (hM0 : Hid (M = N * 32)) (hreach : M ≤ 140737488351232) (hcap : M ≤ cap) (hcap2 : cap ≤ 9223372036854775807) (J Jx : List (Fin N) → World → Prop)
    (hY : ∀ pre x W, J pre W → pre.length < N → YieldAt F (n - 1) Tryd.prog l (chunkV b off x) W fun e W' =>
      (e = .returned (.bool true) ∧ J (pre ++ [x]) W' ∧ Keep S W W') ∨ (e = .returned (.bool false) ∧ Jx (pre ++ [x]) W'))
    (W : World) (hBs : W.cell? ⟨Bs, 0, none⟩ = some (.slice (some ⟨b, off, none⟩) M cap)) (hBn : W.cell? ⟨Bn, 0, none⟩ = some (.int .i64 32)) (hs0 : ¬ S Bs) (hn0 : ¬ S Bn)
    (hJ : ∀ pre W1, J pre W1 → J pre W1.drew) (h0 : J [] W) :
    CallsIn F n Tryd.prog 36 #[.func (.yield l) #[] #[], .pointer (some ⟨Bs, 0, none⟩), .pointer (some ⟨Bn, 0, none⟩)] W fun e W' => (∃ v, e = .returned v) ∧
      ((∃ ys, ys = List.finRange N ∧ J ys W') ∨ (∃ pre, pre <+: List.finRange N ∧ Jx pre W')) := by
  refine callsIn_of_wp Tryd.func36 rfl hf ?_ hro
  simp only [Tryd.ntmps36, List.size_toArray, List.length_cons, List.length_nil, Nat.reduceAdd, Nat.reduceSub, Array.replicate_succ, Array.replicate_zero, List.push_toArray, List.append_toArray, List.nil_append, List.cons_append]
  gi_wp2
  gi_loopw [4] (fun i wr => ∃ k m : Nat, Hid (m = k * 32) ∧ k ≤ N ∧ i = .int .i64 (m : Int) ∧ J ((List.finRange N).take k) wr ∧ Keep S W wr)
    (fun i _ => M - (intOf i).toNat)
  case atStart => exact ⟨0, 0, Lib.hid rfl, Nat.zero_le _, rfl, by simpa using h0, Keep.refl _ _⟩
  case round =>
    obtain ⟨k, m, hm, hk, rfl, hJs, hnx⟩ := hrel
    have hcs := hnx.cell hBs hs0
    have hcn := hnx.cell hBn hn0
    have HNX := Lib.hid hnx
    clear hBs hBn hnx
    by_cases hlt : k < N
    · have h1 : m + 32 ≤ M := by have := hm.out; have := hM0.out; omega
      have b0 : (0 : Int) ≤ (m : Int) := by omega
      have b1 : (m : Int) < (M : Int) := by omega
      have b2 : (m : Int) ≤ (M : Int) := by omega
      have b3 : (m : Int) ≤ (cap : Int) := by omega
      have b4 : (M : Int) ≤ (cap : Int) := by omega
      have hmin : min (32 : Int) ((M - m : Nat) : Int) = 32 := by omega
      have hne : ¬ cap = m := by omega
      have b5 : (m : Int) + 32 ≤ (cap : Int) := by omega
      have b6 : (m : Int) + 32 ≤ (M : Int) := by omega
      have HL := Lib.hid hlt
      clear hlt
      gi_wp2
      gi_region
      all_goals
        obtain ⟨fn, tmps, assign, body, hy, hR⟩ := hY _ ⟨k, HL.out⟩ wr.drew (hJ _ _ hJs) (by rw [List.length_take, List.length_finRange]; have := HL.out; omega)
        rw [show chunkV b off (⟨k, HL.out⟩ : Fin N) = #[.slice (some ⟨b, off + m, none⟩) 32 32] by unfold chunkV; rw [hm.out, Nat.mul_comm]] at hy
        gi_wp2
        refine hR.mono ?_
        rintro e W3 (⟨rfl, hJ3, hk3⟩ | ⟨rfl, hJx3⟩)
        · have hcn3 := hk3.cell hcn hn0
          have HK3 := Lib.hid hk3
          clear hk3 hcs hcn hmin
          gi_wp2
          go_roundw
          case rel => exact ⟨k + 1, m + 32, Lib.hid (by rw [hm.out]; omega), by have := HL.out; omega, by go_num, by rw [finRange_succ_take HL.out]; exact hJ3, HNX.out.drew.trans HK3.out (fun _ _ h => h)⟩
          case measure => simp [intOf]; omega
        · gi_wp2
          refine bodyPost_ret (results_none rfl _ _ _) rfl ?_
          exact ⟨⟨_, rfl⟩, .inr ⟨_, List.take_prefix (k + 1) (List.finRange N), by rw [finRange_succ_take HL.out]; exact hJx3⟩⟩
    · have hkN : k = N := by omega
      subst hkN
      have h1 : m = M := hm.out.trans hM0.out.symm
      subst h1
      gi_wp2
      go_end0
      exact ⟨⟨_, rfl⟩, .inl ⟨_, rfl, by rw [List.take_of_length_le (by simp)] at hJs; exact hJs⟩⟩
set_option maxRecDepth 100000 in
set_option maxHeartbeats 1000000 in
/-- At a slice without bytes: no round. -/
theorem chunk1_none_in (F : Fence) (n : Nat) (hf : F.fn 36) (hro : F.round = none) (l Bs Bn : Nat) (A : Option Addr) (cap : Nat) (J : World → Prop) (W : World) (hBs : W.cell? ⟨Bs, 0, none⟩ = some (.slice A 0 cap)) (h0 : J W) :
    CallsIn F n Tryd.prog 36 #[.func (.yield l) #[] #[], .pointer (some ⟨Bs, 0, none⟩), .pointer (some ⟨Bn, 0, none⟩)] W fun e W' => (∃ v, e = .returned v) ∧ J W' := by
  refine callsIn_of_wp Tryd.func36 rfl hf ?_ hro
  simp only [Tryd.ntmps36, List.size_toArray, List.length_cons, List.length_nil, Nat.reduceAdd, Nat.reduceSub, Array.replicate_succ, Array.replicate_zero, List.push_toArray, List.append_toArray, List.nil_append, List.cons_append]
  gi_wp2
  gi_loopw [4] (fun i wr => i = .int .i64 0 ∧ J wr ∧ wr.cell? ⟨Bs, 0, none⟩ = some (.slice A 0 cap)) (fun _ _ => 0)
  case atStart => exact ⟨rfl, h0, hBs⟩
  case round =>
    obtain ⟨rfl, hJs, hcs⟩ := hrel
    clear hBs
    gi_wp2
    go_end0
    exact ⟨⟨_, rfl⟩, hJs⟩
set_option maxHeartbeats 1000000 in
/-- The iterator's value: both arguments are boxed. -/
theorem chunk_in (F : Fence) (n : Nat) (hf : F.fn 27) (hro : F.round = none) (a : Option Addr) (len cap : Nat) (w : World) :
    CallsIn F n Tryd.prog 27 #[.slice a len cap, .int .i64 32] w fun e w' => e = .returned (.func (.func 36) #[] #[.pointer (some ⟨w.heap.size, 0, none⟩), .pointer (some ⟨w.heap.size + 1, 0, none⟩)]) ∧
      w' = (w.alloc (.cells #[.slice a len cap] 24)).alloc (.cells #[.int .i64 32] 3) := by
  refine callsIn_of_wp Tryd.func27 rfl hf ?_ hro
  simp only [Tryd.ntmps27, List.size_toArray, List.length_cons, List.length_nil, Nat.reduceAdd, Nat.reduceSub, Array.replicate_succ, Array.replicate_zero, List.push_toArray, List.append_toArray, List.nil_append, List.cons_append]
  gi_wp2
  go_ret
  exact ⟨rfl, rfl⟩
/-- What the loop over slices.Chunk(b, 32) gets: all chunks in their order, or the first ones. -/
theorem chunk_stops (F : Fence) (n : Nat) (hf : F.fn 36) (hro : F.round = none) (hn : 1 ≤ n) (Bs Bn b off N cap : Nat) (S : Nat → Prop) (hreach : N * 32 ≤ 140737488351232) (hcap : N * 32 ≤ cap) (hcap2 : cap ≤ 9223372036854775807) (w : World) (hBs : Bs < w.heap.size) (hBn : Bn < w.heap.size) (hs0 : ¬ S Bs) (hn0 : ¬ S Bn)
    (hcs : w.cell? ⟨Bs, 0, none⟩ = some (.slice (some ⟨b, off, none⟩) (N * 32) cap)) (hcn : w.cell? ⟨Bn, 0, none⟩ = some (.int .i64 32)) :
    SeqStopsK F n Tryd.prog 36 #[.pointer (some ⟨Bs, 0, none⟩), .pointer (some ⟨Bn, 0, none⟩)] (chunkV b off (N := N)) (Keep S) (fun ys => ys = List.finRange N) (fun pre => pre <+: List.finRange N) N w := fun l J Jx W hW hJ _ hY h0 => by
  have hcs' := (hW.cell (p := ⟨Bs, 0, none⟩) hBs).trans hcs
  have hcn' := (hW.cell (p := ⟨Bn, 0, none⟩) hBn).trans hcn
  exact chunk1_in F n hf hro hn l Bs Bn b off N (N * 32) cap S (Lib.hid rfl) hreach hcap hcap2 J Jx hY W hcs' hcn' hs0 hn0 (fun pre W1 h => hJ pre W1 _ none h ⟨rfl, rfl, rfl, Nat.le_refl _, fun _ _ _ => rfl⟩ (fun r e => by cases e)) h0
theorem chunk_stops_none (F : Fence) (n : Nat) (hf : F.fn 36) (hro : F.round = none) (Bs Bn b off : Nat) (S : Nat → Prop) (A : Option Addr) (cap : Nat) (w : World) (hBs : Bs < w.heap.size)
    (hcs : w.cell? ⟨Bs, 0, none⟩ = some (.slice A 0 cap)) :
    SeqStopsK F n Tryd.prog 36 #[.pointer (some ⟨Bs, 0, none⟩), .pointer (some ⟨Bn, 0, none⟩)] (chunkV b off (N := 0)) (Keep S) (fun ys => ys = List.finRange 0) (fun pre => pre <+: List.finRange 0) 0 w := fun l J Jx W hW hJ _ hY h0 => by
  have hcs' := (hW.cell (p := ⟨Bs, 0, none⟩) hBs).trans hcs
  exact (chunk1_none_in F n hf hro l Bs Bn A cap (J []) W hcs' h0).mono fun e W' h => ⟨h.1, .inl ⟨[], rfl, h.2⟩⟩
end Go.Proofs.YtcganoomgdabkaaDoor
