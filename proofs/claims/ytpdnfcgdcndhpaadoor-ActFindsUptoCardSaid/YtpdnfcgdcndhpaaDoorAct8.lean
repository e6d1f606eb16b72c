/- find: what has a word. -/
import Derived.Test.YtpdnfcgdcndhpaaDoorAct7
import Derived.BigQuiet
set_option linter.unusedSimpArgs false
set_option linter.unusedVariables false
namespace Go.Proofs.YtpdnfcgdcndhpaaDoor
open Go.RowKit
open Go.Maps (Keyed)

def findP (T : List KR) (s : Str) : KR := (T.find? (fun r => r.word == s)).getD ⟨0, [], []⟩
/-- A table whose words and keys differ. -/
structure GoodT (T : List KR) : Prop where
  keys : ∀ r ∈ T, (Lit.int .i64 r.k).wf = true
  apart : ∀ r ∈ T, ∀ q ∈ T, r.k = q.k → r = q
  words : ∀ r ∈ T, ∀ q ∈ T, r.word = q.word → r = q
theorem good_of {T : List KR} (h : (T.all fun r => (Lit.int .i64 r.k).wf && T.all fun q => (r.k != q.k || r == q) && (r.word != q.word || r == q)) = true) : GoodT T := by
  have h' := fun r hr => List.all_eq_true.1 h r hr
  refine ⟨fun r hr => ?_, fun r hr q hq e => ?_, fun r hr q hq e => ?_⟩
  · have := h' r hr; simp only [Bool.and_eq_true] at this; exact this.1
  · have := h' r hr
    simp only [Bool.and_eq_true] at this
    have := List.all_eq_true.1 this.2 q hq
    simp only [Bool.and_eq_true, Bool.or_eq_true, bne_iff_ne, beq_iff_eq] at this
    exact this.1.resolve_left (fun h => h e)
  · have := h' r hr
    simp only [Bool.and_eq_true] at this
    have := List.all_eq_true.1 this.2 q hq
    simp only [Bool.and_eq_true, Bool.or_eq_true, bne_iff_ne, beq_iff_eq] at this
    exact this.2.resolve_left (fun h => h e)
theorem good_call : GoodT callT := good_of (by decide +kernel)
theorem good_act : GoodT actT := good_of (by decide +kernel)
theorem findP_hit {T : List KR} (hT : GoodT T) {r : KR} (hr : r ∈ T) {s : Str} (h : r.word = s) : findP T s = r := by
  unfold findP
  cases hf : T.find? (fun r => r.word == s) with
  | none => exact absurd (by simpa using h) (List.find?_eq_none.1 hf r hr)
  | some q =>
    have h1 : q.word = s := by simpa using List.find?_some hf
    exact (hT.words r hr q (List.mem_of_find?_eq_some hf) (h.trans h1.symm)).symm
theorem findP_miss {T : List KR} {s : Str} (h : ∀ r ∈ T, r.word ≠ s) : findP T s = ⟨0, [], []⟩ := by
  unfold findP
  rw [List.find?_eq_none.2 (fun r hr => by simpa using h r hr)]
  rfl
theorem at_inv {T : List KR} {x : Int} {y : DataW Unit} (h : ∀ zd, (mapD T).atKey (.int .i64 x) zd = y) : ∃ r ∈ T, r.k = x ∧ rowD r = y := by
  have h0 := h (.lit (.bool true))
  have h1 := h (.lit (.bool false))
  rw [at_mapD] at h0 h1
  cases hf : T.find? (fun r => r.k == x) with
  | none => rw [hf] at h0 h1; rw [← h0] at h1; cases h1
  | some r =>
    rw [hf] at h0
    exact ⟨r, List.mem_of_find?_eq_some hf, by simpa using List.find?_some hf, h0⟩
def FndInv (T : List KR) (s : Str) (b r n : Nat) (w0 wr : World) : Prop := ∃ (left : Lit → Bool) (cnt : Nat), wr.ranges Tryd.prog 3 rd2 b r n (mapD T) left cnt ∧ (∀ q ∈ T, left (.int .i64 q.k) = true ∨ q.word ≠ s) ∧ Below r w0 wr
theorem fnd_start (T : List KR) : ∀ q ∈ T, Maps.has (mapD T) (.int .i64 q.k) = true := by
  intro q hq
  rw [mapD, Maps.has_eq, List.any_map, List.any_eq_true]
  exact ⟨q, hq, by simp [Lit.sameKey]⟩
set_option maxHeartbeats 1000000 in
theorem find_walk (T : List KR) (hT : GoodT T) (b : Nat) (s : Str) (w : World) (h : MapIs T b w) :
    Calls Tryd.prog 39 #[.map (some b), .string ⟨s.toArray⟩] w fun e w' => e = .returned (.tuple #[.int .i64 (findP T s).k, .string ⟨(findP T s).has.toArray⟩]) ∧ Below w.heap.size w w' := by
  have hlt := h.lt
  obtain ⟨n, hown⟩ := h
  have HS := Lib.hid (fnd_start T)
  go_enter Tryd.func39, Tryd.ntmps39
  go_wp2_with (first
    | (at_range; refine wpList_range_own _ rfl _ 75 rfl 3 74 keyInt Tryd.underlying75 _ b n _ rfl hown ?_; intro w0 hrg0 hg0 hs0)
    | go_in)
  go_frame
  have hb0 : Below w.heap.size w w0 := (Below.refl _ _).grown hg0 (Nat.le_refl _) (fun k e => by cases e)
  clear hown hg0
  go_loopw [6] (fun _ wr => FndInv T s b w.heap.size n w wr ∧ w.heap.size < wr.heap.size) (fun _ wr => wr.rangeLeft b w.heap.size)
  case atStart => exact ⟨⟨_, _, hrg0, fun q hq => .inl (HS.out q hq), hb0⟩, by omega⟩
  case round =>
    obtain ⟨⟨left, cnt, hrg, hl, hb⟩, hsz⟩ := hrel
    have HL := Lib.hid hl
    have HB := Lib.hid hb
    have HM := Lib.hid hrg.left_eq
    clear hl hb hb0 hrg0 hs0
    go_wp2_with (first
      | (at_next; refine wpList_next_ranges _ rfl _ rfl 3 keyInt rd2 (Value.int .i64) (fun c : Str × Str => .agg #[.string ⟨c.1.toArray⟩, .string ⟨c.2.toArray⟩]) (fun key kl hk => by obtain ⟨x, e, _⟩ := Maps.keyOf_int_inv Tryd.underlying3 hk; exact ⟨x, e⟩) (fun v y hy => rd2_inv hy) b w.heap.size n _ _ _ rfl hrg ?_ ?_)
      | go_in)
    · intro hc0 hl0
      have HF := Lib.hid (findP_miss (T := T) (s := s) (fun r hr => (HL.out r hr).resolve_left (by rw [hl0]; decide)))
      clear hrg
      go_wp2
      go_ret2
      exact ⟨by rw [HF.out]; rfl, HB.out⟩
    · intro x wd hh kl y1 y2 w1 cnt1 hkx hlx hy hat hrg1 hlt1 hg1 hs1 hen
      obtain ⟨x', ex, rfl, hwx⟩ := Maps.keyOf_int_inv Tryd.underlying3 hkx
      injection ex with _ ex
      subst ex
      obtain ⟨r0, hr0, rfl, hry⟩ := at_inv hat
      subst hry
      have hv := rd2_row hy
      obtain ⟨k0, word0, has0⟩ := r0
      simp only [KR.val, Value.agg.injEq] at hv
      have hv1 : wd = word0 ∧ hh = has0 := by
        simpa using hv
      obtain ⟨rfl, rfl⟩ := hv1
      simp only at hkx hlx hen hrg1 hat hwx
      have B1 := Lib.hid (HB.out.grown hg1 (by omega) (fun k e => by cases e; exact Nat.le_refl _))
      have HR := Lib.hid hr0
      have HRG := Lib.hid hrg1
      clear hv hy hat hkx hrg hg1 hlx hwx hr0
      by_cases hw : wd = s
      · have hwb : (wd == s) = true := by simpa using hw
        have HF := Lib.hid (findP_hit hT HR.out hw)
        clear hrg1 hw
        go_upto_region 5 with fail
        go_quiet (fail)
        go_wp2
        go_ret2
        exact ⟨by rw [HF.out]; rfl, (B1.out.alloc B1.out.size _).trans (((Keep.refl (fun _ => False) _).drewN nq).below (fun _ h => h.elim) (by simp; omega))⟩
      · have hwb : (wd == s) = false := by simpa using hw
        have HN := Lib.hid hw
        clear hrg1 hw
        go_wp2
        have HRA := Lib.hid (HRG.out.kept (World.grownBy_alloc w1 (.cells #[.string ⟨wd.toArray⟩, .string ⟨hh.toArray⟩] 74) none) (by simp) (by simp))
        go_roundw
        case rel =>
          refine ⟨⟨_, _, HRA.out, fun q hq => ?_, B1.out.alloc B1.out.size _⟩, by simp; omega⟩
          by_cases hk : q.k = k0
          · right
            have := hT.apart q hq _ HR.out hk
            rw [this]
            exact HN.out
          · rcases HL.out q hq with h | h
            · left
              simp only [h, Bool.true_and, Lit.sameKey]
              simp [hk]
            · exact .inr h
        case measure => rw [HRA.out.left_eq, HM.out]; exact hlt1
end Go.Proofs.YtpdnfcgdcndhpaaDoor
