/- ahead. -/
import Derived.Test.YtmfgkddndlleoaaLeaseT
set_option linter.unusedSimpArgs false
set_option linter.unusedVariables false
namespace Go.Proofs.Ytmfgkddndlleoaa
open Go.RowKit

def aheadP (n g s m : Int) : List LE → Bool
  | [] => false
  | e :: l => if decide (e.n = n ∧ e.g = g) = false then aheadP n g s m l else if decide (e.s = s) = true then false else if againstP e.m m = true then true else aheadP n g s m l
def AInv (n g s m : Int) (Q : List LE) (w : World) (v : Value) (wr : World) : Prop :=
  ∃ i : Nat, i ≤ Q.length ∧ v = .int .i64 (i : Int) ∧ Below w.heap.size w wr ∧ w.heap.size < wr.heap.size ∧ wr.cell? ⟨w.heap.size, 0, none⟩ = some (.int .i64 n) ∧ wr.cell? ⟨w.heap.size, 1, none⟩ = some (.int .i64 g) ∧ aheadP n g s m (Q.drop i) = aheadP n g s m Q
theorem drop_at {l : List LE} {i : Nat} {x : LE} (h : l[i]? = some x) : l.drop i = x :: l.drop (i + 1) := by
  obtain ⟨hi, rfl⟩ := List.getElem?_eq_some_iff.1 h
  exact List.drop_eq_getElem_cons hi

set_option maxHeartbeats 1000000 in
theorem ahead_walk (t : Nat) (born n g s m : Int) (L Q : List LE) (A B : Option Addr) (c d : Nat) (w : World) (h : Tab w t born L Q A B c d) :
    Calls Try.prog 34 #[.pointer (some ⟨t, 0, none⟩), .agg #[.int .i64 n, .int .i64 g], .int .i64 s, .int .i64 m] w fun e w' => e = .returned (.bool (aheadP n g s m Q)) ∧ Below w.heap.size w w' := by
  have hc := blk_cells h.blk
  have ht := blk_lt h.blk
  have hf := h.few
  have HT := Lib.hid h
  clear h
  go_enter Try.func34, Try.ntmps34
  go_wp2
  go_loopw [16] (fun v wr => AInv n g s m Q w v wr) (fun v _ => Q.length - (intOf v).toNat)
  case atStart =>
    have h1 := blk_new w (.cells #[.int .i64 n, .int .i64 g] 34)
    exact ⟨0, Nat.zero_le _, rfl, (Below.refl _ _).alloc (Nat.le_refl _) _, by simp, blk_cell h1 rfl, blk_cell h1 rfl, rfl⟩
  case round =>
    obtain ⟨i, hi, rfl, hb, hsz, e0, e1, had⟩ := hrel
    have HB := Lib.hid hb
    have HA := Lib.hid had
    clear hb had hc
    by_cases hlt : i < Q.length
    · obtain ⟨x, hx⟩ : ∃ x, Q[i]? = some x := ⟨Q[i], List.getElem?_eq_getElem hlt⟩
      obtain ⟨b, o, rfl, hbl, r0, r1, r2, r3, r4⟩ := flat_row ((Sl.of_own HT.out.ownQ).below HB.out) hx
      have b1 : (0 : Int) ≤ (i : Int) := by omega
      have b2 : (i : Int) < (Q.length : Int) := by omega
      have hd := drop_at hx
      clear hx
      have HBA := Lib.hid (fun o : Obj => HB.out.alloc (Nat.le_of_lt hsz) o)
      have HE := Lib.hid (fun o : Obj => And.intro (((Keep.refl (fun _ => False) wr).alloc o).cell e0 id) (((Keep.refl (fun _ => False) wr).alloc o).cell e1 id))
      by_cases c1 : x.n = n ∧ x.g = g
      · obtain ⟨rfl, rfl⟩ := c1
        by_cases c2 : x.s = s
        · subst c2
          have hr : aheadP x.n x.g x.s m Q = false := by rw [← HA.out, hd]; simp [aheadP]
          have HR := Lib.hid hr
          clear hr hd
          go_wp2
          go_ret
          exact ⟨congrArg (fun b => Ending.returned (.bool b)) HR.out.symm, HBA.out _⟩
        · have c2' : (x.s == s) = false := by simpa using c2
          have hr : aheadP x.n x.g s m (Q.drop i) = if againstP x.m m = true then true else aheadP x.n x.g s m (Q.drop (i + 1)) := by rw [hd]; simp [aheadP, c2]
          have HR := Lib.hid (hr.symm.trans HA.out)
          clear hr hd
          cases ha : againstP x.m m with
          | true =>
            have hw := against_walk x.m m
            rw [ha] at hw HR
            have HW := Lib.hid hw
            clear hw ha
            go_wp2_with fail
            refine (HW.out _).mono ?_
            rintro e w1 ⟨rfl, rfl⟩
            go_wp2
            go_ret
            exact ⟨congrArg (fun b => Ending.returned (.bool b)) (by rw [← HR.out]; rfl), HBA.out _⟩
          | false =>
            have hw := against_walk x.m m
            rw [ha] at hw HR
            have HW := Lib.hid hw
            clear hw ha
            go_wp2_with fail
            refine (HW.out _).mono ?_
            rintro e w1 ⟨rfl, rfl⟩
            go_wp2
            go_roundw
            case rel => exact ⟨i + 1, by omega, by go_num, HBA.out _, by simp; omega, (HE.out _).1, (HE.out _).2, HR.out⟩
            case measure => simp [intOf]; omega
      · have hr : aheadP n g s m (Q.drop i) = aheadP n g s m (Q.drop (i + 1)) := by rw [hd]; simp [aheadP, c1]
        have HR := Lib.hid (hr.symm.trans HA.out)
        have c1' : (x.n == n && x.g == g) = false := by simpa using c1
        clear hr hd
        go_wp2
        all_goals
          go_roundw
          case rel => exact ⟨i + 1, by omega, by go_num, HBA.out _, by simp; omega, (HE.out _).1, (HE.out _).2, HR.out⟩
          case measure => simp [intOf]; omega
    · obtain rfl : i = Q.length := by omega
      have hr : aheadP n g s m Q = false := by rw [← HA.out]; simp [aheadP]
      go_wp2
      go_ret
      exact ⟨congrArg (fun b => Ending.returned (.bool b)) hr.symm, HB.out⟩
end Go.Proofs.Ytmfgkddndlleoaa
