/- Package reach: sets that are sound; what is in one set and not in the other one. -/
import Derived.Test.YtpgjjhpnemcgdaaCach1
import Derived.Deep.DeepCutAuto
import Derived.Deep.CutBlock
set_option linter.unusedSimpArgs false
set_option linter.unusedVariables false
namespace Go.Proofs.Ytpgjjhpnemcgdaa
open Go.RowKit

attribute [local go_sem ↓] Go.wp_at_zero Go.wp_at_succ
abbrev St := Nat × Nat
def cxs (L : List St) : List Value := L.map cx
theorem cxs_len (L : List St) : (cxs L).length = L.length := by simp [cxs]
theorem cxs_get {L : List St} {i : Nat} {p : St} (h : L[i]? = some p) : (cxs L)[i]? = some (.complex .f64 (fb p.1) (fb p.2)) := by simp [cxs, h, cx]
theorem cxs_app (a b : List St) : cxs (a ++ b) = cxs a ++ cxs b := by simp [cxs]
/-- A sound set. -/
structure Snd (L : List St) : Prop where
  one : ∀ p ∈ L, Str1 p
  two : ∀ (i : Nat) p q, L[i]? = some p → L[i + 1]? = some q → p.2 < q.1
def SlC (w : World) (v : Value) (L : List St) : Prop := ∃ A c, v = .slice A L.length c ∧ Sl w 1 (.slice A L.length c) L.length (cxs L)
theorem SlC.below {w w' : World} {v : Value} {L : List St} (h : SlC w v L) (hk : Below w.heap.size w w') : SlC w' v L := by
  obtain ⟨A, c, rfl, hs⟩ := h
  exact ⟨A, c, rfl, hs.below hk⟩
theorem sl_row {w : World} {A : Option Addr} {n c k : Nat} {xs : List Value} {u : Value} (h : Sl w 1 (.slice A n c) n xs) (hk : xs[k]? = some u) : ∃ b o, A = some ⟨b, o, none⟩ ∧ b < w.heap.size ∧ w.cell? ⟨b, o + k, none⟩ = some u := by
  obtain ⟨A', c', e', hr, _⟩ := h
  injection e' with e1 _ e2
  subst e1
  rcases hr with h0 | ⟨ad, rfl, hc⟩
  · rw [h0] at hk; simp at hk
  · have h1 := hc _ _ hk
    obtain ⟨b, o, spot⟩ := ad
    obtain ⟨u0, hu0⟩ : ∃ u0, xs[0]? = some u0 := ⟨xs[0]'(by have := (List.getElem?_eq_some_iff.1 hk).1; omega), List.getElem?_eq_getElem _⟩
    have hz := hc _ _ hu0
    have es : spot = none := by
      have : (⟨b, o, spot⟩ : Addr).add 0 = ⟨b, o, spot⟩ := by unfold Addr.add; simp
      rw [this] at hz
      exact World.cell?_spot hz
    subst es
    simp only [Addr.add_lit] at h1
    exact ⟨b, o, rfl, World.block_lt_of_cell? w _ h1, h1⟩
def SoInv (n : Nat) (w : World) (v7 : Value) (wr : World) : Prop := ∃ i : Nat, i ≤ n ∧ v7 = .int .i64 (i : Int) ∧ wr = w
theorem sound_walk (L : List St) (v : Value) (w : World) (hs : Snd L) (hv : SlC w v L) (hn : L.length ≤ 1000000000) :
    Calls Try.prog 31 #[v] w fun e w' => e = .returned (.bool true) ∧ w' = w := by
  obtain ⟨A, c, rfl, hsl⟩ := hv
  have HSL := Lib.hid hsl
  have HS := Lib.hid hs
  clear hsl hs
  go_enter Try.func31, Try.ntmps31
  go_upto_region 2 with fail
  go_loopw [7] (fun v7 wr => SoInv L.length w v7 wr) (fun v _ => L.length - (intOf v).toNat)
  case atStart => exact ⟨0, Nat.zero_le _, rfl, rfl⟩
  case round =>
    obtain ⟨i, hi, rfl, rfl⟩ := hrel
    by_cases hlt : i < L.length
    · obtain ⟨p, hp⟩ : ∃ p, L[i]? = some p := ⟨L[i], List.getElem?_eq_getElem hlt⟩
      have hp1 := HS.out.one p (List.mem_of_getElem? hp)
      obtain ⟨b, o, rfl, _, hc⟩ := sl_row HSL.out (cxs_get hp)
      obtain ⟨x, y⟩ := p
      have HG := Lib.hid (good_walk hp1.1 hp1.2 wr)
      simp only at hc HG
      have i0 : (0 : Int) ≤ (i : Int) := by omega
      have i1 : (i : Int) < (L.length : Int) := by omega
      by_cases h0 : i = 0
      · subst h0
        have z0 : ¬ (0 : Int) < ((0 : Nat) : Int) := by omega
        rw [Nat.add_zero] at hc
        clear hp hp1
        go_wp2_with fail
        refine HG.out.mono ?_
        rintro e W ⟨rfl, rfl⟩
        go_wp2
        go_roundw
        case rel => exact ⟨1, by omega, by go_num, rfl⟩
        case measure => simp [intOf]; omega
      · obtain ⟨j, hj⟩ : ∃ j, i = j + 1 := ⟨i - 1, by omega⟩
        obtain ⟨q, hq⟩ : ∃ q, L[j]? = some q := ⟨L[j], List.getElem?_eq_getElem (by omega)⟩
        obtain ⟨b2, o2, e2, _, hc2⟩ := sl_row HSL.out (cxs_get hq)
        injection e2 with e2
        injection e2 with e2 e3 _
        subst e2 e3
        have ho : FloatKind.f64.format.order (fb x) (fb q.2) = some .gt := ord_gt (by have := hp1.1; have := hp1.2; simp only at *; omega) (HS.out.two j q (x, y) hq (by rw [← hj]; exact hp))
        have z0 : (0 : Int) < (i : Int) := by omega
        have n4 : IntKind.i64.wrap ((i : Int) - 1) = (j : Int) := (congrArg IntKind.i64.wrap (by omega)).trans (IntWalk.i64_in _ (by omega))
        have j0 : (0 : Int) ≤ (j : Int) := by omega
        have j1 : (j : Int) < (L.length : Int) := by omega
        clear hp hp1 hq h0 hj
        go_wp2_with fail
        refine HG.out.mono ?_
        rintro e W ⟨rfl, rfl⟩
        go_wp2
        go_roundw
        case rel => exact ⟨i + 1, by omega, by go_num, rfl⟩
        case measure => simp [intOf]; omega
    · obtain rfl : i = L.length := by omega
      have i1 : ¬ ((L.length : Nat) : Int) < (L.length : Int) := by omega
      go_wp2
      go_ret
      exact ⟨rfl, rfl⟩
/-- Stretches of one's own. -/
structure OC (w0 wr : World) (L : List St) (A : Option Addr) (c : Nat) : Prop where
  own : wr.ownsRow 0 52 1 (.slice A L.length c) L.length (cxs L)
  fresh : ∀ k, A.map (·.block) = some k → w0.heap.size ≤ k
  be : Below w0.heap.size w0 wr
theorem OC.on {w0 wr W : World} {L : List St} {A : Option Addr} {c : Nat} (h : OC w0 wr L A c) (hk : Below wr.heap.size wr W) : OC w0 W L A c :=
  ⟨own_keep h.own (Keep.of_below (S := fun _ => False) hk) (fun _ _ h => h), h.fresh, h.be.trans (hk.mono h.be.size)⟩
theorem OC.app {w0 wr W w4 : World} {L : List St} {p : St} {A A4 : Option Addr} {c c4 H : Nat} (h : OC w0 wr L A c) (hW : Below wr.heap.size wr W) (hH : wr.heap.size ≤ H)
    (g1 : w4.ownsRow 0 52 1 (.slice A4 (L.length + 1) c4) (L.length + 1) (cxs L ++ [.complex .f64 (fb p.1) (fb p.2)])) (g2 : Keep (fun k => (Value.slice A L.length c).ownBlock = some k) W w4)
    (g3 : (Value.slice A4 (L.length + 1) c4).ownBlock = (Value.slice A L.length c).ownBlock ∨ (Value.slice A4 (L.length + 1) c4).ownBlock = some H) : OC w0 w4 (L ++ [p]) A4 c4 := by
  have h1 := h.on hW
  have k2 : Keep (fun k => A.map (·.block) = some k) W w4 := g2.mono (fun k _ e => by rw [ownBlock_slice] at e; exact e)
  refine ⟨by rw [List.length_append, cxs_app]; exact g1, fun k e => ?_, h1.be.trans (k2.below (fun k e => h.fresh k e) h1.be.size)⟩
  rcases g3 with h3 | h3 <;> rw [ownBlock_slice] at h3
  · rw [ownBlock_slice] at h3
    exact h.fresh k (h3 ▸ e)
  · rw [e] at h3
    injection h3 with h3
    have := h.be.size
    omega
theorem OC.nil (w : World) : OC w w [] none 0 := ⟨own_nil' w 0 _ 1, fun k e => by simp at e, Below.refl _ _⟩
theorem eltC : Elt Try.prog 43 52 1 16 := Elt.mk' (z := .complex .f64 0 0) (by kernel_rfl) (by kernel_rfl) (by kernel_rfl) (by simp [Value.oneCell', Value.cells]) (by decide)
def lessIn (z : St) : List St → Nat → List St → List St × Nat
  | [], from_, out => (out, from_)
  | q :: B, from_, out => if q.2 ≤ from_ ∨ z.2 ≤ q.1 then lessIn z B from_ out else lessIn z B q.2 (if from_ < q.1 then out ++ [(from_, q.1)] else out)
def lessEnd (z : St) (r : List St × Nat) : List St := if r.2 < z.2 then r.1 ++ [(r.2, z.2)] else r.1
def lessGo (B : List St) : List St → List St → List St
  | [], out => out
  | z :: A, out => lessGo B A (lessEnd z (lessIn z B z.1 out))
/-- What is in one set, and not in the other one. -/
def lessP (A B : List St) : List St := lessGo B A []
theorem lessIn_len (z : St) : ∀ (B : List St) (f : Nat) (out : List St), out.length ≤ (lessIn z B f out).1.length
  | [], f, out => Nat.le_refl _
  | q :: B, f, out => by
    unfold lessIn
    split
    · exact lessIn_len z B f out
    · refine Nat.le_trans ?_ (lessIn_len z B q.2 _)
      split <;> simp
theorem lessEnd_len (z : St) (r : List St × Nat) : r.1.length ≤ (lessEnd z r).length := by
  unfold lessEnd
  split <;> simp
theorem lessGo_len (B : List St) : ∀ (A out : List St), out.length ≤ (lessGo B A out).length
  | [], out => Nat.le_refl _
  | z :: A, out => by
    unfold lessGo
    exact Nat.le_trans (Nat.le_trans (lessIn_len z B z.1 out) (lessEnd_len z _)) (lessGo_len B A _)
theorem clip_walk (L : List St) (w0 : World) (A : Option Addr) (c : Nat) (w : World) (h : OC w0 w L A c) (hn : L.length ≤ 1000000000) :
    Calls Try.prog 32 #[.slice A L.length c] w fun e w' => e = .returned (.slice A L.length L.length) ∧ w' = w := by
  obtain ⟨A', c', e', _, hnone, hle, _⟩ := Rd.of_own h.own
  injection e' with e1 _ e2
  subst e1 e2
  clear h
  cases A with
  | none =>
    obtain ⟨h1, rfl⟩ := hnone rfl
    rw [h1]
    clear hle hnone hn
    go_enter Try.func32, Try.ntmps32
    go_wp2
    go_ret
    exact ⟨rfl, rfl⟩
  | some ad =>
    have i0 : (0 : Int) ≤ (L.length : Int) := by omega
    have i1 : (L.length : Int) ≤ (c : Int) := by omega
    have hr : ∀ w, (Instr.slice 43 (.slice (some ad) L.length c) none (some (.int .i64 (L.length : Int))) (some (.int .i64 (L.length : Int)))).run Try.prog w = .ok (.slice (some ad) L.length L.length) w := by
      intro w
      simp [go_sem, i0, i1]
    go_enter Try.func32, Try.ntmps32
    go_wp2
    go_ret
    exact ⟨rfl, rfl⟩
end Go.Proofs.Ytpgjjhpnemcgdaa
