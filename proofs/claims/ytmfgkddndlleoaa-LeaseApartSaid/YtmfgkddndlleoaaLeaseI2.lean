/- slices.IndexFunc at leases: for every function value. -/
import Derived.Test.YtmfgkddndlleoaaLeaseI1
import Derived.Shelf.Abstract
set_option linter.unusedSimpArgs false
set_option linter.unusedVariables false
namespace Go.Proofs.Ytmfgkddndlleoaa
open Go.RowKit

def LInv (p : LE → Bool) (l : List LE) (I : (Nat → Prop) → List LE → World → Prop) (v : Value) (wr : World) : Prop :=
  ∃ i : Nat, i ≤ l.length ∧ v = .int .i64 (i : Int) ∧ (∃ M, I M (l.take i) wr) ∧ ∀ (j : Nat) a, j < i → l[j]? = some a → p a = false
set_option maxHeartbeats 1000000 in
theorem idxL (A : Option Addr) (c : Nat) (l : List LE) (w : World) (g : Nat) (lb : Array Value) (p : LE → Bool) (eg : ∀ args w, (callFunc g args).run Try.prog w = .ok (.enter g args) w)
    (I : (Nat → Prop) → List LE → World → Prop) (M0 : Nat → Prop) (h0 : I M0 [] w) (hcall : Closes Try.prog g lb p l I)
    (hread : ∀ M done W, I M done W → Sl W 5 (.slice A l.length c) l.length (flat l)) (hn : l.length ≤ 4611686018427387904) :
    Calls Try.prog 51 #[.slice A l.length c, .func (.func g) #[] lb] w fun e w' => e = .returned (.int .i64 (idxP p l)) ∧ ∃ M, I M (seenP p l) w' := by
  have HC := Lib.hid hcall
  have HR := Lib.hid hread
  clear hcall hread
  go_enter Try.func51, Try.ntmps51
  go_wp2
  go_loopw [8] (fun v wr => LInv p l I v wr) (fun v _ => l.length - (intOf v).toNat)
  case atStart => exact ⟨0, Nat.zero_le _, rfl, ⟨M0, h0⟩, by intro j a hj; omega⟩
  case round =>
    obtain ⟨i, hi, rfl, ⟨M, hM⟩, hno⟩ := hrel
    have HI := Lib.hid hM
    have HN := Lib.hid hno
    clear hM hno h0
    by_cases hlt : i < l.length
    · obtain ⟨x, hx⟩ : ∃ x, l[i]? = some x := ⟨l[i], List.getElem?_eq_getElem hlt⟩
      obtain ⟨b, o, rfl, hb, r0, r1, r2, r3, r4⟩ := flat_row (HR.out _ _ _ HI.out) hx
      have b1 : (0 : Int) ≤ (i : Int) := by omega
      have b2 : (i : Int) < (l.length : Int) := by omega
      have hc := HC.out wr M (l.take i) x (by rw [← take_snoc hx]; exact List.take_prefix _ _) HI.out
      have HX := Lib.hid hx
      clear hx
      cases hq : p x with
      | true =>
        rw [hq] at hc
        go_wp2_with (go_at_fn g; refine hc.mono ?_; rintro e w1 ⟨rfl, hI1, _⟩)
        go_ret
        refine ⟨congrArg (fun n => Ending.returned (.int .i64 n)) (idxP_hit HX.out hq HN.out).symm, ?_⟩
        rw [seenP_hit HX.out hq HN.out]
        exact hI1
      | false =>
        rw [hq] at hc
        go_wp2_with (go_at_fn g; refine hc.mono ?_; rintro e w1 ⟨rfl, hI1, _⟩)
        go_roundw
        case rel =>
          refine ⟨i + 1, by omega, by go_num, by rw [take_snoc HX.out]; exact hI1, fun j a hj ha => ?_⟩
          rcases Nat.lt_or_ge j i with h | h
          · exact HN.out j a h ha
          · obtain rfl : j = i := by omega
            rw [HX.out] at ha
            cases ha
            exact hq
        case measure => simp [intOf]; omega
    · obtain rfl : i = l.length := by omega
      have hno : ∀ (j : Nat) a, l[j]? = some a → p a = false := fun j a ha => HN.out j a (List.getElem?_eq_some_iff.1 ha).1 ha
      go_wp2
      go_ret
      refine ⟨congrArg (fun n => Ending.returned (.int .i64 n)) (idxP_miss hno).symm, M, ?_⟩
      rw [seenP_miss hno]
      have := HI.out
      rwa [List.take_length] at this
end Go.Proofs.Ytmfgkddndlleoaa
