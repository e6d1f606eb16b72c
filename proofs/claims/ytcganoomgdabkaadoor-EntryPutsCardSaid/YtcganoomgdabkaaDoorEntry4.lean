/- entry.Find, entry.Place. -/
import Derived.Test.YtcganoomgdabkaaDoorEntry3
import Derived.Shelf.Abstract
set_option linter.unusedSimpArgs false
set_option linter.unusedVariables false
namespace Go.Proofs.YtcganoomgdabkaaDoor
open Go.RowKit

/-- Where the first element is that p holds of; -1: nowhere. -/
def idxR (p : RW → Bool) : List RW → Option Nat
  | [] => none
  | e :: l => if p e then some 0 else (idxR p l).map (· + 1)
theorem idxR_hit {p : RW → Bool} {l : List RW} {k : Nat} {e : RW} (h : l[k]? = some e) (hp : p e = true) (hn : ∀ (j : Nat) a, j < k → l[j]? = some a → p a = false) : idxR p l = some k := by
  induction l generalizing k with
  | nil => simp at h
  | cons a l ih =>
    cases k with
    | zero => simp only [List.getElem?_cons_zero, Option.some.injEq] at h; subst h; simp [idxR, hp]
    | succ k =>
      have := ih (k := k) (by simpa using h) (fun j b hj hb => hn (j + 1) b (by omega) (by simpa using hb))
      simp [idxR, hn 0 a (by omega) rfl, this]
theorem idxR_miss {p : RW → Bool} {l : List RW} (hn : ∀ (j : Nat) a, l[j]? = some a → p a = false) : idxR p l = none := by
  induction l with
  | nil => rfl
  | cons a l ih =>
    have := ih (fun j b hb => hn (j + 1) b (by simpa using hb))
    simp [idxR, hn 0 a rfl, this]
theorem idxR_some {p : RW → Bool} {l : List RW} {k : Nat} (h : idxR p l = some k) : ∃ e, l[k]? = some e ∧ p e = true ∧ ∀ (j : Nat) a, j < k → l[j]? = some a → p a = false := by
  induction l generalizing k with
  | nil => simp [idxR] at h
  | cons a l ih =>
    simp only [idxR] at h
    split at h
    · rename_i hp
      obtain rfl := Option.some.inj h
      exact ⟨a, rfl, hp, fun j b hj => by omega⟩
    · rename_i hp
      obtain ⟨k', hk, rfl⟩ := Option.map_eq_some_iff.1 h
      obtain ⟨e, h1, h2, h3⟩ := ih hk
      refine ⟨e, by simpa using h1, h2, fun j b hj hb => ?_⟩
      cases j with
      | zero => simp at hb; subst hb; simpa using hp
      | succ j => exact h3 j b (by omega) (by simpa using hb)
theorem idxR_none {p : RW → Bool} {l : List RW} (h : idxR p l = none) : ∀ e ∈ l, p e = false := by
  induction l with
  | nil => simp
  | cons a l ih =>
    simp only [idxR] at h
    split at h
    · cases h
    · rename_i hp
      intro e he
      rcases List.mem_cons.1 he with rfl | he
      · simpa using hp
      · exact ih (by simpa using h) e he
def numO : Option Nat → Int
  | some k => (k : Int)
  | none => -1
/-- A function value that answers p, and only makes memory. -/
def ClosesB (P : Program) (g : Nat) (lb : Array Value) (p : RW → Bool) (J : World → Prop) : Prop :=
  ∀ (W : World) (x : RW), J W → Calls P g (#[x.val] ++ lb) W fun e W' => e = .returned (.bool (p x)) ∧ Below W.heap.size W W'
def IInv (p : RW → Bool) (l : List RW) (w : World) (v : Value) (wr : World) : Prop :=
  ∃ i : Nat, i ≤ l.length ∧ v = .int .i64 (i : Int) ∧ Below w.heap.size w wr ∧ ∀ (j : Nat) a, j < i → l[j]? = some a → p a = false
set_option maxHeartbeats 1000000 in
theorem idxF_walk (A : Option Addr) (c : Nat) (l : List RW) (w : World) (g : Nat) (lb : Array Value) (p : RW → Bool) (eg : ∀ args w, (callFunc g args).run Tryd.prog w = .ok (.enter g args) w)
    (J : World → Prop) (h0 : J w) (hJ : ∀ W W', J W → Below W.heap.size W W' → J W') (hcall : ClosesB Tryd.prog g lb p J) (hs : Sl w 2 (.slice A l.length c) l.length (rows l)) (hn : l.length ≤ 4611686018427387904) :
    Calls Tryd.prog 29 #[.slice A l.length c, .func (.func g) #[] lb] w fun e w' => e = .returned (.int .i64 (numO (idxR p l))) ∧ Below w.heap.size w w' := by
  have HC := Lib.hid hcall
  have HJ := Lib.hid hJ
  have HS := Lib.hid hs
  have H0 := Lib.hid h0
  clear hcall hJ hs h0
  go_enter Tryd.func29, Tryd.ntmps29
  go_wp2
  go_loopw [8] (fun v wr => IInv p l w v wr) (fun v _ => l.length - (intOf v).toNat)
  case atStart => exact ⟨0, Nat.zero_le _, rfl, Below.refl _ _, by intro j a hj; omega⟩
  case round =>
    obtain ⟨i, hi, rfl, hb, hno⟩ := hrel
    have HB := Lib.hid hb
    have HN := Lib.hid hno
    clear hb hno
    by_cases hlt : i < l.length
    · obtain ⟨x, hx⟩ : ∃ x, l[i]? = some x := ⟨l[i], List.getElem?_eq_getElem hlt⟩
      obtain ⟨b, o, rfl, hb, r0, r1⟩ := row_at (HS.out.below HB.out) hx
      have b1 : (0 : Int) ≤ (i : Int) := by omega
      have b2 : (i : Int) < (l.length : Int) := by omega
      have hc := HC.out wr x (HJ.out _ _ H0.out HB.out)
      unfold RW.val at hc
      have HX := Lib.hid hx
      clear hx
      cases hq : p x with
      | true =>
        rw [hq] at hc
        go_wp2_with (go_at_fn g; refine hc.mono ?_; rintro e w1 ⟨rfl, hb1⟩)
        go_ret
        exact ⟨congrArg (fun n => Ending.returned (.int .i64 n)) (by rw [idxR_hit HX.out hq HN.out]; rfl), HB.out.trans (hb1.mono HB.out.size)⟩
      | false =>
        rw [hq] at hc
        go_wp2_with (go_at_fn g; refine hc.mono ?_; rintro e w1 ⟨rfl, hb1⟩)
        go_roundw
        case rel =>
          refine ⟨i + 1, by omega, by go_num, HB.out.trans (hb1.mono HB.out.size), fun j a hj ha => ?_⟩
          rcases Nat.lt_or_ge j i with h | h
          · exact HN.out j a h ha
          · obtain rfl : j = i := by omega
            rw [HX.out] at ha
            cases ha
            exact hq
        case measure => simp [intOf]; omega
    · obtain rfl : i = l.length := by omega
      have hno : ∀ (j : Nat) a, l[j]? = some a → p a = false := fun j a ha => HN.out j a (List.getElem?_eq_some_iff.1 ha).1 ha
      have HM := Lib.hid (idxR_miss hno)
      clear hno
      go_wp2
      go_ret
      exact ⟨congrArg (fun n => Ending.returned (.int .i64 n)) (by rw [HM.out]; rfl), HB.out⟩
theorem find1_walk (x : RW) (B : Nat) (s : Str) (w : World) (hc : w.cell? ⟨B, 0, none⟩ = some (.string ⟨s.toArray⟩)) :
    Calls Tryd.prog 30 #[x.val, .pointer (some ⟨B, 0, none⟩)] w fun e w' => e = .returned (.bool (x.name == s)) ∧ Below w.heap.size w w' := by
  have l1 := World.block_lt_of_cell? w _ hc
  unfold RW.val
  have HB := Lib.hid ((Below.refl w.heap.size w).alloc (Nat.le_refl _) (.cells #[.string ⟨x.name.toArray⟩, .int .i64 x.node] 23))
  go_enter Tryd.func30, Tryd.ntmps30
  go_wp2
  go_ret
  exact ⟨rfl, HB.out⟩
theorem ret_ib {a b : Int} {p q : Bool} (h : a = b) (k : p = q) : Ending.returned (.tuple #[.int .i64 a, .bool p]) = Ending.returned (.tuple #[.int .i64 b, .bool q]) := by rw [h, k]
def findP (l : List RW) (s : Str) : Option Nat := if s = [] then none else idxR (fun r => r.name == s) l
def FindEnd (r : Option Nat) (w : World) (e : Ending) (w' : World) : Prop := e = .returned (.tuple #[.int .i64 ((r.getD 0 : Nat) : Int), .bool r.isSome]) ∧ Below w.heap.size w w'
set_option maxHeartbeats 1000000 in
theorem find_walk (A : Option Addr) (c : Nat) (l : List RW) (s : Str) (w : World) (hs : Sl w 2 (.slice A l.length c) l.length (rows l)) (hn : l.length ≤ 4611686018427387904) :
    Calls Tryd.prog 17 #[.slice A l.length c, .string ⟨s.toArray⟩] w (FindEnd (findP l s) w) := by
  have HB := Lib.hid ((Below.refl w.heap.size w).alloc (Nat.le_refl _) (.cells #[.string ⟨s.toArray⟩] 9))
  have HS := Lib.hid (hs.below HB.out)
  have HX := Lib.hid (blk_new w (.cells #[.string ⟨s.toArray⟩] 9))
  clear hs
  by_cases h0 : s = []
  · subst h0
    go_enter Tryd.func17, Tryd.ntmps17
    go_wp2
    go_ret2
    exact ⟨rfl, HB.out⟩
  · have h1 : s.isEmpty = false := by simpa using h0
    have HF : Hid (findP l s = idxR (fun r => r.name == s) l) := Lib.hid (by unfold findP; rw [if_neg h0])
    have HI := Lib.hid (idxF_walk A c l (w.alloc (.cells #[.string ⟨s.toArray⟩] 9)) 30 #[.pointer (some ⟨w.heap.size, 0, none⟩)] (fun r => r.name == s) (by intro args w; rfl)
      (fun W => W.cell? ⟨w.heap.size, 0, none⟩ = some (.string ⟨s.toArray⟩)) (blk_cell HX.out rfl) (fun W W' h hb => (hb.cell (World.block_lt_of_cell? W _ h)).trans h) (fun W x h => find1_walk x w.heap.size s W h) HS.out hn)
    clear h0
    go_enter Tryd.func17, Tryd.ntmps17
    go_wp2_with fail
    refine HI.out.mono ?_
    rintro e w1 ⟨rfl, hb1⟩
    have BB := Lib.hid (HB.out.trans (hb1.mono (by simp)))
    clear hb1
    rw [← HF.out]
    obtain ⟨r, hr⟩ : ∃ r, r = findP l s := ⟨_, rfl⟩
    rw [← hr]
    have HR := Lib.hid hr
    clear hr HF HI
    cases r with
    | none =>
      unfold numO
      go_wp2
      go_ret2
      rw [← HR.out]
      exact ⟨ret_ib (a := max (-1) 0) (b := 0) (by decide) rfl, BB.out⟩
    | some k =>
      unfold numO
      have b1 : (0 : Int) ≤ (k : Int) := by omega
      go_wp2
      go_ret2
      rw [← HR.out]
      exact ⟨ret_ib rfl rfl, BB.out⟩

def placeP (l : List RW) : Nat := (idxR (fun r => decide (r = RW.none)) l).getD l.length
def isNoneB (r : RW) : Bool := r.name.isEmpty && (r.node == 0)
theorem isNone_eq (r : RW) : decide (r = RW.none) = isNoneB r := by
  obtain ⟨s, n⟩ := r
  rw [Bool.eq_iff_iff]
  simp [isNoneB, RW.none]
set_option maxHeartbeats 1000000 in
theorem index_walk (A : Option Addr) (c : Nat) (l : List RW) (w : World) (hs : Sl w 2 (.slice A l.length c) l.length (rows l)) (hn : l.length ≤ 4611686018427387904) :
    Calls Tryd.prog 31 #[.slice A l.length c, .agg #[.string ⟨#[]⟩, .int .i64 0]] w fun e w' => e = .returned (.int .i64 (numO (idxR (fun r => decide (r = RW.none)) l))) ∧ Below w.heap.size w w' := by
  have HB := Lib.hid ((Below.refl w.heap.size w).alloc (Nat.le_refl _) (.cells #[.string ⟨#[]⟩, .int .i64 0] 23))
  have HS := Lib.hid (hs.below HB.out)
  have HX := Lib.hid (blk_new w (.cells #[.string ⟨#[]⟩, .int .i64 0] 23))
  obtain ⟨w0, hw0⟩ : ∃ w0, w0 = w.alloc (.cells #[.string ⟨#[]⟩, .int .i64 0] 23) := ⟨_, rfl⟩
  rw [← hw0] at HB HS HX
  have HW := Lib.hid hw0
  have HZ : Hid (w0.heap.size = w.heap.size + 1) := Lib.hid (by rw [hw0]; simp)
  clear hs hw0
  go_enter Tryd.func31, Tryd.ntmps31
  go_upto_region 1 with fail
  rw [← HW.out]
  go_wp2
  go_loopw [8] (fun v wr => IInv (fun r => decide (r = RW.none)) l w0 v wr) (fun v _ => l.length - (intOf v).toNat)
  case atStart => exact ⟨0, Nat.zero_le _, rfl, Below.refl _ _, by intro j a hj; omega⟩
  case round =>
    obtain ⟨i, hi, rfl, hb, hno⟩ := hrel
    have HB1 := Lib.hid hb
    have HN := Lib.hid hno
    have c1 := blk_cells ((Keep.of_below (S := fun _ => False) hb).blk HX.out id)
    have BB := Lib.hid (HB.out.trans (hb.mono (by have := HZ.out; omega)))
    clear hb hno
    by_cases hlt : i < l.length
    · obtain ⟨x, hx⟩ : ∃ x, l[i]? = some x := ⟨l[i], List.getElem?_eq_getElem hlt⟩
      obtain ⟨b, o, rfl, hb, r0, r1⟩ := row_at (HS.out.below HB1.out) hx
      have b1 : (0 : Int) ≤ (i : Int) := by omega
      have b2 : (i : Int) < (l.length : Int) := by omega
      have HX1 := Lib.hid hx
      have HQ := Lib.hid (isNone_eq x)
      clear hx
      obtain ⟨xs, xn⟩ := x
      unfold isNoneB at HQ
      dsimp only at r0 r1 HQ
      by_cases h1 : xs = []
      · subst h1
        by_cases h2 : xn = 0
        · subst h2
          go_wp2
          go_region
          all_goals
            go_wp2
            go_ret
            exact ⟨congrArg (fun n => Ending.returned (.int .i64 n)) (by rw [idxR_hit HX1.out (by rw [HQ.out]; rfl) HN.out]; rfl), BB.out.drew⟩
        · have h2a : (xn == 0) = false := beq_eq_false_iff_ne.2 h2
          have h2b : (0 == xn) = false := beq_eq_false_iff_ne.2 (Ne.symm h2)
          go_wp2
          go_region
          all_goals
            go_wp2
            go_roundw
            case rel =>
              refine ⟨i + 1, by omega, by go_num, HB1.out.drew, fun j a hj ha => ?_⟩
              rcases Nat.lt_or_ge j i with h | h
              · exact HN.out j a h ha
              · obtain rfl : j = i := by omega
                rw [HX1.out] at ha
                cases ha
                show decide (_ = RW.none) = false; rw [HQ.out, h2a]; rfl
            case measure => simp [intOf]; omega
      · have h1a : xs.isEmpty = false := by simpa using h1
        have h1b : ([] == xs) = false := beq_eq_false_iff_ne.2 (Ne.symm h1)
        have h1c : (xs == []) = false := beq_eq_false_iff_ne.2 h1
        go_wp2
        go_region
        all_goals
          go_wp2
          go_roundw
          case rel =>
            refine ⟨i + 1, by omega, by go_num, HB1.out.drew, fun j a hj ha => ?_⟩
            rcases Nat.lt_or_ge j i with h | h
            · exact HN.out j a h ha
            · obtain rfl : j = i := by omega
              rw [HX1.out] at ha
              cases ha
              show decide (_ = RW.none) = false; rw [HQ.out, h1a]; rfl
          case measure => simp [intOf]; omega
    · obtain rfl : i = l.length := by omega
      have hno : ∀ (j : Nat) a, l[j]? = some a → decide (a = RW.none) = false := fun j a ha => HN.out j a (List.getElem?_eq_some_iff.1 ha).1 ha
      have HM := Lib.hid (idxR_miss hno)
      clear hno
      go_wp2
      go_ret
      exact ⟨congrArg (fun n => Ending.returned (.int .i64 n)) (by rw [HM.out]; rfl), BB.out⟩
set_option maxHeartbeats 1000000 in
theorem place_walk (A : Option Addr) (c : Nat) (l : List RW) (w : World) (hs : Sl w 2 (.slice A l.length c) l.length (rows l)) (hn : l.length ≤ 4611686018427387904) :
    Calls Tryd.prog 18 #[.slice A l.length c] w fun e w' => e = .returned (.int .i64 (placeP l : Nat)) ∧ Below w.heap.size w w' := by
  have HI := Lib.hid (index_walk A c l w hs hn)
  have HP : Hid (placeP l = (idxR (fun r => decide (r = RW.none)) l).getD l.length) := Lib.hid rfl
  clear hs
  obtain ⟨r, hr⟩ : ∃ r, r = idxR (fun r => decide (r = RW.none)) l := ⟨_, rfl⟩
  rw [← hr] at HI HP
  clear hr
  go_enter Tryd.func18, Tryd.ntmps18
  go_wp2_with fail
  refine HI.out.mono ?_
  rintro e w1 ⟨rfl, hb1⟩
  have BB := Lib.hid hb1
  clear hb1 HI
  cases r with
  | none =>
    unfold numO
    go_wp2
    go_ret
    exact ⟨congrArg (fun n => Ending.returned (.int .i64 n)) (by rw [HP.out]; rfl), BB.out⟩
  | some k =>
    unfold numO
    have b1 : (0 : Int) ≤ (k : Int) := by omega
    go_wp2
    go_ret
    exact ⟨congrArg (fun n => Ending.returned (.int .i64 n)) (by rw [HP.out]; rfl), BB.out⟩
end Go.Proofs.YtcganoomgdabkaaDoor
