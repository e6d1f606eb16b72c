/- slices.IndexFunc at waiters: for every function value. -/
import Derived.Test.YtmfgkddndlleoaaLease1
import Derived.Shelf.Abstract
set_option linter.unusedSimpArgs false
set_option linter.unusedVariables false
namespace Go.Proofs.Ytmfgkddndlleoaa
open Go.RowKit

/-- What is asked of a function value: it answers p, and leads the state on; it turns but M. -/
def Closes (P : Program) (g : Nat) (lb : Array Value) (p : LE → Bool) (l : List LE) (I : (Nat → Prop) → List LE → World → Prop) : Prop :=
  ∀ (W : World) (M : Nat → Prop) (done : List LE) (x : LE), (done ++ [x]) <+: l → I M done W → Calls P g (#[x.val] ++ lb) W fun e W' => e = .returned (.bool (p x)) ∧ (∃ M', I M' (done ++ [x]) W') ∧ Keep M W W'
def seenP (p : LE → Bool) : List LE → List LE
  | [] => []
  | e :: l => if p e then [e] else e :: seenP p l
theorem seenP_hit {p : LE → Bool} {l : List LE} {k : Nat} {e : LE} (h : l[k]? = some e) (hp : p e = true) (hn : ∀ (j : Nat) a, j < k → l[j]? = some a → p a = false) : seenP p l = l.take k ++ [e] := by
  induction l generalizing k with
  | nil => simp at h
  | cons a l ih =>
    cases k with
    | zero => simp only [List.getElem?_cons_zero, Option.some.injEq] at h; subst h; simp [seenP, hp]
    | succ k =>
      have := ih (k := k) (by simpa using h) (fun j b hj hb => hn (j + 1) b (by omega) (by simpa using hb))
      simp [seenP, hn 0 a (by omega) rfl, this]
theorem seenP_miss {p : LE → Bool} {l : List LE} (hn : ∀ (j : Nat) a, l[j]? = some a → p a = false) : seenP p l = l := by
  induction l with
  | nil => rfl
  | cons a l ih =>
    have := ih (fun j b hb => hn (j + 1) b (by simpa using hb))
    simp [seenP, hn 0 a rfl, this]
theorem take_snoc {l : List LE} {i : Nat} {x : LE} (h : l[i]? = some x) : l.take (i + 1) = l.take i ++ [x] := by rw [List.take_add_one, h]; rfl
theorem flat_row {w : World} {A : Option Addr} {c n k : Nat} {l : List LE} (h : Sl w 5 (.slice A n c) n (flat l)) {e : LE} (hl : l[k]? = some e) :
    ∃ b o, A = some ⟨b, o, none⟩ ∧ b < w.heap.size ∧ w.cell? ⟨b, o + k * 5, none⟩ = some (.int .i64 e.n) ∧ w.cell? ⟨b, o + k * 5 + 1, none⟩ = some (.int .i64 e.g) ∧ w.cell? ⟨b, o + k * 5 + 2, none⟩ = some (.int .i64 e.s) ∧ w.cell? ⟨b, o + k * 5 + 3, none⟩ = some (.int .i64 e.m) ∧ w.cell? ⟨b, o + k * 5 + 4, none⟩ = some (.int .i64 e.x) := by
  obtain ⟨A', c', e', hr, _⟩ := h
  injection e' with e1 _ e2
  subst e1
  obtain ⟨q0, q1, q2, q3, q4⟩ := flat_at hl
  rcases hr with h0 | ⟨ad, rfl, hc⟩
  · rw [h0] at q0; simp at q0
  · have h0 := hc _ _ q0
    have h1 := hc _ _ q1
    have h2 := hc _ _ q2
    have h3 := hc _ _ q3
    have h4 := hc _ _ q4
    obtain ⟨b, o, spot⟩ := ad
    obtain ⟨e0, he0⟩ : ∃ e0, l[0]? = some e0 := ⟨l[0]'(by have := (List.getElem?_eq_some_iff.1 hl).1; omega), List.getElem?_eq_getElem _⟩
    have hz := hc _ _ (flat_at he0).1
    have es : spot = none := by
      have : (⟨b, o, spot⟩ : Addr).add (0 * 5) = ⟨b, o, spot⟩ := by unfold Addr.add; simp
      rw [this] at hz
      exact World.cell?_spot hz
    subst es
    simp only [Addr.add_lit] at h0 h1 h2 h3 h4
    exact ⟨b, o, rfl, World.block_lt_of_cell? w _ h0, h0, h1, h2, h3, h4⟩

def WInv (p : LE → Bool) (l : List LE) (I : (Nat → Prop) → List LE → World → Prop) (v : Value) (wr : World) : Prop :=
  ∃ i : Nat, i ≤ l.length ∧ v = .int .i64 (i : Int) ∧ (∃ M, I M (l.take i) wr) ∧ ∀ (j : Nat) a, j < i → l[j]? = some a → p a = false
set_option maxHeartbeats 1000000 in
theorem idxW (A : Option Addr) (c : Nat) (l : List LE) (w : World) (g : Nat) (lb : Array Value) (p : LE → Bool) (eg : ∀ args w, (callFunc g args).run Try.prog w = .ok (.enter g args) w)
    (I : (Nat → Prop) → List LE → World → Prop) (M0 : Nat → Prop) (h0 : I M0 [] w) (hcall : Closes Try.prog g lb p l I)
    (hread : ∀ M done W, I M done W → Sl W 5 (.slice A l.length c) l.length (flat l)) (hn : l.length ≤ 4611686018427387904) :
    Calls Try.prog 45 #[.slice A l.length c, .func (.func g) #[] lb] w fun e w' => e = .returned (.int .i64 (idxP p l)) ∧ ∃ M, I M (seenP p l) w' := by
  have HC := Lib.hid hcall
  have HR := Lib.hid hread
  clear hcall hread
  go_enter Try.func45, Try.ntmps45
  go_wp2
  go_loopw [8] (fun v wr => WInv p l I v wr) (fun v _ => l.length - (intOf v).toNat)
  case atStart => exact ⟨0, Nat.zero_le _, rfl, ⟨M0, h0⟩, by intro j a hj; omega⟩
  case round =>
    obtain ⟨i, hi, rfl, ⟨M, hM⟩, hno⟩ := hrel
    have HI := Lib.hid hM
    have HN := Lib.hid hno
    clear hM hno h0
    by_cases hlt : i < l.length
    · obtain ⟨x, hx⟩ : ∃ x, l[i]? = some x := ⟨l[i], List.getElem?_eq_getElem hlt⟩
      obtain ⟨b, o, rfl, hb, r0, r1, r2, r3, r4⟩ := flat_row (HR.out _ _ _ HI.out) hx
      have b1 : (0 : Int) ≤ (i : Int) := by omega
      have b2 : (i : Int) < (l.length : Int) := by omega
      have hc := HC.out wr M (l.take i) x (by rw [← take_snoc hx]; exact List.take_prefix _ _) HI.out
      have HX := Lib.hid hx
      clear hx
      cases hq : p x with
      | true =>
        rw [hq] at hc
        go_wp2_with (go_at_fn g; refine hc.mono ?_; rintro e w1 ⟨rfl, hI1, _⟩)
        go_ret
        refine ⟨congrArg (fun n => Ending.returned (.int .i64 n)) (idxP_hit HX.out hq HN.out).symm, ?_⟩
        rw [seenP_hit HX.out hq HN.out]
        exact hI1
      | false =>
        rw [hq] at hc
        go_wp2_with (go_at_fn g; refine hc.mono ?_; rintro e w1 ⟨rfl, hI1, _⟩)
        go_roundw
        case rel =>
          refine ⟨i + 1, by omega, by go_num, by rw [take_snoc HX.out]; exact hI1, fun j a hj ha => ?_⟩
          rcases Nat.lt_or_ge j i with h | h
          · exact HN.out j a h ha
          · obtain rfl : j = i := by omega
            rw [HX.out] at ha
            cases ha
            exact hq
        case measure => simp [intOf]; omega
    · obtain rfl : i = l.length := by omega
      have hno : ∀ (j : Nat) a, l[j]? = some a → p a = false := fun j a ha => HN.out j a (List.getElem?_eq_some_iff.1 ha).1 ha
      go_wp2
      go_ret
      refine ⟨congrArg (fun n => Ending.returned (.int .i64 n)) (idxP_miss hno).symm, M, ?_⟩
      rw [seenP_miss hno]
      have := HI.out
      rwa [List.take_length] at this
end Go.Proofs.Ytmfgkddndlleoaa
