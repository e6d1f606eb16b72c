/- slices.Backward at bytes: what the loop over it is handed. -/
import Derived.RangeFuncNested
import Derived.RangeFuncBound
import Derived.RangeFuncCalls
import Derived.RangeFuncLeaves
import Derived.RangeFuncBox
import Derived.Shelf.Abstract
import Derived.Shelf.RegionOpen
import Derived.WalkKit
import Derived.OwnWalkIn
import Derived.TacticsInMore
import Derived.LoopNIn
import Derived.LoopIn
import Derived.Test.YtlcfnehmmjhoiaaGreatFld2
set_option linter.unusedSimpArgs false
set_option linter.unusedVariables false
namespace Go.Proofs.YtlcfnehmmjhoiaaGreat
open Go.RowKit Go.Shelf

attribute [local go_sem] Oper.semAt_some
/-- What is handed out at round i: the index and the byte, from the last one on. -/
def backV (xs : List UInt8) {N : Nat} (x : Fin N) : Array Value := #[.int .i64 ((N - 1 - x.val : Nat) : Int), .int .u8 (((xs.getD (N - 1 - x.val) 0).toNat : Nat) : Int)]
theorem finRange_succ_take {N k : Nat} (h : k < N) : (List.finRange N).take (k + 1) = (List.finRange N).take k ++ [⟨k, h⟩] := by
  rw [List.take_add_one]
  congr 1
  rw [List.getElem?_eq_getElem (by simpa using h)]
  simp
set_option maxRecDepth 100000 in
set_option maxHeartbeats 4000000 in
theorem back1_in (F : Fence) (n : Nat) (hf : F.fn 129) (hro : F.round = none) (hn : 1 ≤ n) (l Bs b off cap : Nat) (A0 : Option Addr) (xs : List UInt8) (hA0 : xs.length ≠ 0 → A0 = some ⟨b, off, none⟩) (S : Nat → Prop) (hreach : xs.length ≤ 140737488351232) (hcap : xs.length ≤ cap) {J : List (Fin xs.length) → World → Prop} {Jx : List (Fin xs.length) → World → Prop}
    (hY : ∀ pre x W, J pre W → pre.length < xs.length → YieldAt F (n - 1) Tryz.prog l (backV xs x) W fun e W' =>
      (e = .returned (.bool true) ∧ J (pre ++ [x]) W' ∧ Keep S W W') ∨ (e = .returned (.bool false) ∧ Jx (pre ++ [x]) W'))
    (W : World) (hBs : W.cell? ⟨Bs, 0, none⟩ = some (.slice A0 xs.length cap)) (hs0 : ¬ S Bs) (hb0 : xs.length ≠ 0 → ¬ S b) (hc : ∀ j x, xs[j]? = some x → W.cell? ⟨b, off + j, none⟩ = some (.int .u8 (x.toNat : Int))) (h0 : J [] W) :
    CallsIn F n Tryz.prog 129 #[.func (.yield l) #[] #[], .pointer (some ⟨Bs, 0, none⟩)] W fun e W' => (∃ v, e = .returned v) ∧
      ((∃ ys, ys = List.finRange xs.length ∧ J ys W') ∨ (∃ pre, pre <+: List.finRange xs.length ∧ Jx pre W')) := by
  have HC := Lib.hid hc
  clear hc
  have e0 : IntKind.i64.wrap ((xs.length : Int) - 1) = (xs.length : Int) - 1 := IntWalk.i64_in _ (by omega)
  refine callsIn_of_wp Tryz.func129 rfl hf ?_ hro
  simp only [Tryz.ntmps129, List.size_toArray, List.length_cons, List.length_nil, Nat.reduceAdd, Nat.reduceSub, Array.replicate_succ, Array.replicate_zero, List.push_toArray, List.append_toArray, List.nil_append, List.cons_append]
  gi_wp2
  gi_loopw [3] (fun i wr => ∃ k : Nat, k ≤ xs.length ∧ i = .int .i64 ((xs.length : Int) - 1 - (k : Int)) ∧ J ((List.finRange xs.length).take k) wr ∧ Keep S W wr)
    (fun i _ => (intOf i + 1).toNat)
  case atStart => exact ⟨0, Nat.zero_le _, by simp, by simpa using h0, Keep.refl _ _⟩
  case round =>
    obtain ⟨k, hk, rfl, hJs, hnx⟩ := hrel
    have hcs := hnx.cell hBs hs0
    have HNX := Lib.hid hnx
    clear hBs hnx
    by_cases hlt : k < xs.length
    · obtain rfl := hA0 (by omega)
      obtain ⟨j, hj⟩ : ∃ j : Nat, j = xs.length - 1 - k := ⟨_, rfl⟩
      have hji : (xs.length : Int) - 1 - (k : Int) = (j : Int) := by omega
      have hjl : j < xs.length := by omega
      obtain ⟨x, hx⟩ : ∃ x, xs[j]? = some x := ⟨xs[j], List.getElem?_eq_getElem hjl⟩
      have hcc := HNX.out.cell (HC.out j x hx) (hb0 (by omega))
      have b0 : (0 : Int) ≤ (j : Int) := by omega
      have b1 : (j : Int) < (xs.length : Int) := by omega
      have b2 : IntKind.i64.wrap ((j : Int) - 1) = (j : Int) - 1 := IntWalk.i64_in _ (by omega)
      have HL := Lib.hid hlt
      have HJ := Lib.hid hj
      have HJS := Lib.hid hJs
      have hgd : xs.getD (xs.length - 1 - k) 0 = x := by rw [← hj, List.getD_eq_getElem?_getD, hx]; rfl
      have HGD := Lib.hid hgd
      rw [hji]
      clear hlt hj hJs hgd hx hji
      obtain ⟨fn, tmps, assign, body, hy, hR⟩ := hY _ ⟨k, HL.out⟩ wr HJS.out (by rw [List.length_take, List.length_finRange]; have := HL.out; omega)
      rw [show backV xs (⟨k, HL.out⟩ : Fin xs.length) = #[.int .i64 (j : Int), .int .u8 (x.toNat : Int)] by unfold backV; simp only; rw [HGD.out, HJ.out]] at hy
      gi_wp2
      refine hR.mono ?_
      rintro e W3 (⟨rfl, hJ3, hk3⟩ | ⟨rfl, hJx3⟩)
      · have HK3 := Lib.hid hk3
        clear hk3 hcs hcc
        gi_wp2
        go_roundw
        case rel => exact ⟨k + 1, by have := HL.out; omega, by congr 1; have := HL.out; have := HJ.out; omega, by rw [finRange_succ_take HL.out]; exact hJ3, HNX.out.trans HK3.out (fun _ _ h => h)⟩
        case measure => simp only [intOf]; omega
      · gi_wp2
        refine bodyPost_ret (results_none rfl _ _ _) rfl ?_
        exact ⟨⟨_, rfl⟩, .inr ⟨_, List.take_prefix (k + 1) (List.finRange xs.length), by rw [finRange_succ_take HL.out]; exact hJx3⟩⟩
    · have hkN : k = xs.length := by omega
      have c1 : (xs.length : Int) - 1 - (k : Int) = -1 := by omega
      rw [c1]
      have HKN := Lib.hid hkN
      clear hkN c1
      gi_wp2
      go_end0
      exact ⟨⟨_, rfl⟩, .inl ⟨_, rfl, by rw [List.take_of_length_le (by rw [HKN.out]; simp)] at hJs; exact hJs⟩⟩
set_option maxHeartbeats 1000000 in
/-- The iterator's value: the argument is boxed. -/
theorem back_in (F : Fence) (n : Nat) (hf : F.fn 100) (hro : F.round = none) (a : Option Addr) (len cap : Nat) (w : World) :
    CallsIn F n Tryz.prog 100 #[.slice a len cap] w fun e w' => e = .returned (.func (.func 129) #[] #[.pointer (some ⟨w.heap.size, 0, none⟩)]) ∧
      w' = w.alloc (.cells #[.slice a len cap] 30) := by
  refine callsIn_of_wp Tryz.func100 rfl hf ?_ hro
  simp only [Tryz.ntmps100, List.size_toArray, List.length_cons, List.length_nil, Nat.reduceAdd, Nat.reduceSub, Array.replicate_succ, Array.replicate_zero, List.push_toArray, List.append_toArray, List.nil_append, List.cons_append]
  gi_wp2
  go_ret
  exact ⟨rfl, rfl⟩
/-- What the loop over slices.Backward(b) gets. -/
theorem back_stops (F : Fence) (n : Nat) (hf : F.fn 129) (hro : F.round = none) (hn : 1 ≤ n) (Bs b off cap : Nat) (A0 : Option Addr) (xs : List UInt8) (hA0 : xs.length ≠ 0 → A0 = some ⟨b, off, none⟩) (S : Nat → Prop) (hreach : xs.length ≤ 140737488351232) (hcap : xs.length ≤ cap) (w : World) (hBs : Bs < w.heap.size) (hs0 : ¬ S Bs) (hb0 : xs.length ≠ 0 → ¬ S b ∧ b < w.heap.size)
    (hcs : w.cell? ⟨Bs, 0, none⟩ = some (.slice A0 xs.length cap)) (hc : ∀ j x, xs[j]? = some x → w.cell? ⟨b, off + j, none⟩ = some (.int .u8 (x.toNat : Int))) :
    SeqStopsK F n Tryz.prog 129 #[.pointer (some ⟨Bs, 0, none⟩)] (backV xs (N := xs.length)) (Keep S) (fun ys => ys = List.finRange xs.length) (fun pre => pre <+: List.finRange xs.length) xs.length w := fun l J Jx W hW hJ _ hY h0 => by
  have hcs' := (hW.cell (p := ⟨Bs, 0, none⟩) hBs).trans hcs
  exact back1_in F n hf hro hn l Bs b off cap A0 xs hA0 S hreach hcap hY W hcs' hs0 (fun h => (hb0 h).1) (fun j x hj => (hW.cell (p := ⟨b, off + j, none⟩) (hb0 (by have := (List.getElem?_eq_some_iff.1 hj).1; omega)).2).trans (hc j x hj)) h0
end Go.Proofs.YtlcfnehmmjhoiaaGreat
