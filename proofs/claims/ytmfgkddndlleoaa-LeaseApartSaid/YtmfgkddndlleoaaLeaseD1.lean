/- slices.DeleteFunc at waiters: for every function value. -/
import Derived.Test.YtmfgkddndlleoaaLeaseI2
import Derived.Shelf.Abstract
import Derived.Deep.DeepCutAuto
set_option linter.unusedSimpArgs false
set_option linter.unusedVariables false
namespace Go.Proofs.Ytmfgkddndlleoaa
open Go.RowKit

theorem first_hit (p : LE → Bool) (l : List LE) : (∀ (j : Nat) a, l[j]? = some a → p a = false) ∨ ∃ (k : Nat) (x : LE), l[k]? = some x ∧ p x = true ∧ ∀ (j : Nat) a, j < k → l[j]? = some a → p a = false := by
  induction l with
  | nil => left; intro j a h; simp at h
  | cons e l ih =>
    cases he : p e with
    | true => right; exact ⟨0, e, rfl, he, by intro j a hj; omega⟩
    | false =>
      rcases ih with h | ⟨k, x, h1, h2, h3⟩
      · left
        intro j a hj
        cases j with
        | zero => simp at hj; subst hj; exact he
        | succ j => exact h j a (by simpa using hj)
      · right
        refine ⟨k + 1, x, by simpa using h1, h2, fun j a hj ha => ?_⟩
        cases j with
        | zero => simp at ha; subst ha; exact he
        | succ j => exact h3 j a (by omega) (by simpa using ha)
theorem get_some {a : Array Value} {i : Nat} (h : i < a.size) : ∃ v, a[i]? = some v := ⟨a[i], Array.getElem?_eq_getElem h⟩
theorem own_row {w : World} {e size n b c : Nat} {xs : List Value} (h : w.ownsRow 0 e size (.slice (some ⟨b, 0, none⟩) n c) n xs) :
    ∃ cur, w.heap[b]? = some (.cells cur e (0, 0)) ∧ n ≤ c ∧ c ≤ maxLen ∧ cur.size = c * size ∧ cur.toList.take (n * size) = xs := by
  rcases h.2 with ⟨e', _⟩ | ⟨g, cap, cur, hv, hb, hg, r⟩
  · cases e'
  · injection hv with e1 _ e2
    injection e1 with e1
    injection e1 with e1
    subst e1 e2
    exact ⟨cur, hg, r⟩
theorem own_same {w w' : World} {e size n b c : Nat} {xs : List Value} (h : w.ownsRow 0 e size (.slice (some ⟨b, 0, none⟩) n c) n xs) (hb : w'.heap[b]? = w.heap[b]?) : w'.ownsRow 0 e size (.slice (some ⟨b, 0, none⟩) n c) n xs := by
  obtain ⟨cur, hg, r⟩ := own_row h
  exact ⟨h.1, .inr ⟨b, c, cur, rfl, Nat.zero_le _, hb.trans hg, r⟩⟩
theorem closes_keep {P : Program} {w : World} {b g : Nat} {lb : Array Value} {p : LE → Bool} {l : List LE} {I : (Nat → Prop) → List LE → World → Prop} (hb : b < w.heap.size) (h : Closes P g lb p l I) (hlt : ∀ M done W, I M done W → ∀ k, M k → k < W.heap.size ∧ k ≠ b) :
    Closes P g lb p l (fun M done W => I M done W ∧ W.heap[b]? = w.heap[b]?) := by
  intro W M done x hpre hI
  refine (h W M done x hpre hI.1).mono fun e W' ⟨he, ⟨M', hM'⟩, hk⟩ => ⟨he, ⟨M', hM', ?_⟩, hk⟩
  have hbW : b < W.heap.size := by
    have := hI.2
    rw [Array.getElem?_eq_getElem hb] at this
    exact (Array.getElem?_eq_some_iff.1 this).1
  exact (hk.block b hbW (fun hm => (hlt M done W hI.1 b hm).2 rfl)).trans hI.2
/-- The row in the middle of a deleting: kept elements in front; from j on all is as it was. -/
structure DelRow (p : LE → Bool) (l : List LE) (c : Nat) (cur0 : Array Value) (j : Nat) (cur : Array Value) : Prop where
  size : cur.size = c * 5
  kept : cur.toList.take (((l.take j).filter (fun a => !p a)).length * 5) = flat ((l.take j).filter (fun a => !p a))
  rest : cur.toList.drop (j * 5) = cur0.toList.drop (j * 5)
theorem DelRow.at_ {p : LE → Bool} {l : List LE} {c b j T : Nat} {cur0 cur : Array Value} {w : World} (h : DelRow p l c cur0 j cur) (hb : w.heap[b]? = some (.cells cur T (0, 0))) (h3 : cur0.size = c * 5) (h4 : cur0.toList.take (l.length * 5) = flat l) (hj : j < l.length) {y : LE} (hy : l[j]? = some y) :
    w.cell? ⟨b, j * 5, none⟩ = some (.int .i64 y.n) ∧ w.cell? ⟨b, j * 5 + 1, none⟩ = some (.int .i64 y.g) ∧ w.cell? ⟨b, j * 5 + 2, none⟩ = some (.int .i64 y.s) ∧ w.cell? ⟨b, j * 5 + 3, none⟩ = some (.int .i64 y.m) ∧ w.cell? ⟨b, j * 5 + 4, none⟩ = some (.int .i64 y.x) := by
  obtain ⟨q0, q1, q2, q3, q4⟩ := flat_at hy
  have key : ∀ (t : Nat) (v : Value), t < 5 → (flat l)[j * 5 + t]? = some v → w.cell? ⟨b, j * 5 + t, none⟩ = some v := by
    intro t v ht hv
    rw [blk_cells hb]
    have e1 : cur.toList[j * 5 + t]? = cur0.toList[j * 5 + t]? := by
      have := congrArg (fun l : List Value => l[t]?) h.rest
      simpa [List.getElem?_drop] using this
    have e2 : cur0.toList[j * 5 + t]? = some v := by
      rw [← h4] at hv
      rw [List.getElem?_take] at hv
      split at hv
      · exact hv
      · cases hv
    rw [← Array.getElem?_toList, e1, e2]
  exact ⟨key 0 _ (by omega) q0, key 1 _ (by omega) q1, key 2 _ (by omega) q2, key 3 _ (by omega) q3, key 4 _ (by omega) q4⟩
theorem DelRow.skip_len {p : LE → Bool} {l : List LE} {j : Nat} {y : LE} (hy : l[j]? = some y) (hp : p y = true) : ((l.take (j + 1)).filter (fun a => !p a)).length = ((l.take j).filter (fun a => !p a)).length := by
  rw [take_snoc hy]; simp [hp]
theorem DelRow.keep_len {p : LE → Bool} {l : List LE} {j : Nat} {y : LE} (hy : l[j]? = some y) (hp : p y = false) : ((l.take (j + 1)).filter (fun a => !p a)).length = ((l.take j).filter (fun a => !p a)).length + 1 := by
  rw [take_snoc hy]; simp [hp]
theorem drop_more {A B : List Value} {j : Nat} (h : A.drop (j * 5) = B.drop (j * 5)) : A.drop ((j + 1) * 5) = B.drop ((j + 1) * 5) := by
  have := congrArg (List.drop 5) h
  rw [List.drop_drop, List.drop_drop] at this
  rw [show (j + 1) * 5 = j * 5 + 5 by omega]; exact this
theorem DelRow.skip {p : LE → Bool} {l : List LE} {c j : Nat} {cur0 cur : Array Value} (h : DelRow p l c cur0 j cur) {y : LE} (hy : l[j]? = some y) (hp : p y = true) : DelRow p l c cur0 (j + 1) cur := by
  have e : (l.take (j + 1)).filter (fun a => !p a) = (l.take j).filter (fun a => !p a) := by rw [take_snoc hy]; simp [hp]
  exact ⟨h.size, by rw [e]; exact h.kept, drop_more h.rest⟩
theorem set5 (P R : List Value) (x0 x1 x2 x3 x4 v0 v1 v2 v3 v4 : Value) {a : Nat} (ha : a = P.length) :
    (((((P ++ x0 :: x1 :: x2 :: x3 :: x4 :: R).set a v0).set (a + 1) v1).set (a + 2) v2).set (a + 3) v3).set (a + 4) v4 = P ++ v0 :: v1 :: v2 :: v3 :: v4 :: R := by
  subst ha
  simp [List.set_append]
def setc5 (cur : Array Value) (a : Nat) (v0 v1 v2 v3 v4 : Value) : Array Value := ((((cur.setIfInBounds a v0).setIfInBounds (a + 1) v1).setIfInBounds (a + 2) v2).setIfInBounds (a + 3) v3).setIfInBounds (a + 4) v4
theorem set5_blk {w : World} {b T : Nat} {cur : Array Value} (h : w.heap[b]? = some (.cells cur T (0, 0))) (a : Nat) (v0 v1 v2 v3 v4 : Value) :
    (((((w.setCell ⟨b, a, none⟩ v0).setCell ⟨b, a + 1, none⟩ v1).setCell ⟨b, a + 2, none⟩ v2).setCell ⟨b, a + 3, none⟩ v3).setCell ⟨b, a + 4, none⟩ v4).heap[b]? = some (.cells (setc5 cur a v0 v1 v2 v3 v4) T (0, 0)) ∧
    Keep (fun k => k = b) w (((((w.setCell ⟨b, a, none⟩ v0).setCell ⟨b, a + 1, none⟩ v1).setCell ⟨b, a + 2, none⟩ v2).setCell ⟨b, a + 3, none⟩ v3).setCell ⟨b, a + 4, none⟩ v4) :=
  ⟨blk_set (blk_set (blk_set (blk_set (blk_set h v0) v1) v2) v3) v4, (((((Keep.refl (fun k => k = b) w).setCell (fun _ => rfl) _).setCell (fun _ => rfl) _).setCell (fun _ => rfl) _).setCell (fun _ => rfl) _).setCell (fun _ => rfl) _⟩
theorem DelRow.keep {p : LE → Bool} {l : List LE} {c j kk : Nat} {cur0 cur : Array Value} (h : DelRow p l c cur0 j cur) {y : LE} (hy : l[j]? = some y) (hp : p y = false) (hk : ((l.take j).filter (fun a => !p a)).length = kk) (hj : j < l.length) (hc : l.length ≤ c) :
    DelRow p l c cur0 (j + 1) (setc5 cur (kk * 5) (.int .i64 y.n) (.int .i64 y.g) (.int .i64 y.s) (.int .i64 y.m) (.int .i64 y.x)) := by
  have hkj : kk ≤ j := by rw [← hk]; exact Nat.le_trans (List.length_filter_le _ _) (by simp; omega)
  have e : (l.take (j + 1)).filter (fun a => !p a) = (l.take j).filter (fun a => !p a) ++ [y] := by rw [take_snoc hy]; simp [hp]
  have hs : cur.toList.length = c * 5 := by rw [Array.length_toList]; exact h.size
  have hd5 : 5 ≤ (cur.toList.drop (kk * 5)).length := by rw [List.length_drop]; omega
  obtain ⟨x0, x1, x2, x3, x4, R, hR⟩ : ∃ x0 x1 x2 x3 x4 R, cur.toList.drop (kk * 5) = x0 :: x1 :: x2 :: x3 :: x4 :: R := by
    match hdd : cur.toList.drop (kk * 5), hd5 with
    | x0 :: x1 :: x2 :: x3 :: x4 :: R, _ => exact ⟨x0, x1, x2, x3, x4, R, rfl⟩
  have hP : (cur.toList.take (kk * 5)).length = kk * 5 := by rw [List.length_take]; omega
  have hL : cur.toList = cur.toList.take (kk * 5) ++ x0 :: x1 :: x2 :: x3 :: x4 :: R := by rw [← hR, List.take_append_drop]
  have hN : (setc5 cur (kk * 5) (.int .i64 y.n) (.int .i64 y.g) (.int .i64 y.s) (.int .i64 y.m) (.int .i64 y.x)).toList = cur.toList.take (kk * 5) ++ .int .i64 y.n :: .int .i64 y.g :: .int .i64 y.s :: .int .i64 y.m :: .int .i64 y.x :: R := by
    unfold setc5
    simp only [Array.toList_setIfInBounds]
    rw [← set5 (cur.toList.take (kk * 5)) R x0 x1 x2 x3 x4 _ _ _ _ _ hP.symm, ← hL]
  have hR2 : cur.toList.drop ((kk + 1) * 5) = R := by
    rw [show (kk + 1) * 5 = kk * 5 + 5 by omega, ← List.drop_drop, hR]; rfl
  refine ⟨by unfold setc5; simp; exact h.size, ?_, ?_⟩
  · rw [e, List.length_append, hk, flat_append, hN]
    have hkept := h.kept
    rw [hk] at hkept
    rw [← hkept, List.take_append, hP, List.take_of_length_le (by rw [hP]; simp; omega)]
    congr 1
    rw [show (kk + [y].length) * 5 - kk * 5 = 5 by simp; omega]
    rfl
  · have e2 : (setc5 cur (kk * 5) (.int .i64 y.n) (.int .i64 y.g) (.int .i64 y.s) (.int .i64 y.m) (.int .i64 y.x)).toList.drop ((kk + 1) * 5) = cur.toList.drop ((kk + 1) * 5) := by
      rw [hN, hR2, show (kk + 1) * 5 = kk * 5 + 5 by omega, ← List.drop_drop, List.drop_left' hP]
      rfl
    have e3 := congrArg (List.drop ((j - kk) * 5)) e2
    rw [List.drop_drop, List.drop_drop, show (kk + 1) * 5 + (j - kk) * 5 = (j + 1) * 5 by omega] at e3
    rw [e3]
    exact drop_more h.rest
theorem filter_first {p : LE → Bool} {l : List LE} {k : Nat} {x : LE} (h : l[k]? = some x) (hp : p x = true) (hn : ∀ (j : Nat) a, j < k → l[j]? = some a → p a = false) : (l.take (k + 1)).filter (fun a => !p a) = l.take k := by
  rw [take_snoc h, List.filter_append]
  have : (l.take k).filter (fun a => !p a) = l.take k := List.filter_eq_self.2 fun a ha => by
    obtain ⟨j, hj⟩ := List.mem_iff_getElem?.1 ha
    rw [List.getElem?_take] at hj
    split at hj
    · rename_i hjk; simp [hn j a hjk hj]
    · cases hj
  rw [this]; simp [hp]
theorem filter_lt {p : LE → Bool} {l : List LE} {k : Nat} {x : LE} (h : l[k]? = some x) (hp : p x = true) : (l.filter (fun a => !p a)).length < l.length := by
  refine List.length_filter_lt_length_iff_exists.2 ⟨x, List.mem_of_getElem? h, by simp [hp]⟩
theorem DelRow.fin {p : LE → Bool} {l : List LE} {c kk b T : Nat} {cur0 cur : Array Value} {wr : World} (h : DelRow p l c cur0 l.length cur) (hk : ((l.take l.length).filter (fun a => !p a)).length = kk) (hb : wr.heap[b]? = some (.cells cur T (0, 0)))
    (hkl : kk ≤ l.length) (h1 : l.length ≤ c) (h2 : c ≤ maxLen) {zs : List Value} (hz : zs.length = (l.length - kk) * 5) :
    (wr.setRow b (cur.toList.take (kk * 5) ++ zs ++ cur.toList.drop (kk * 5 + zs.length)).toArray).ownsRow 0 T 5 (.slice (some ⟨b, 0, none⟩) kk c) kk (flat (l.filter (fun a => !p a))) := by
  have hs : cur.toList.length = c * 5 := by rw [Array.length_toList]; exact h.size
  have hkept := h.kept
  rw [hk, List.take_length] at hkept
  refine ⟨by rw [flat_length, ← hk, List.take_length], .inr ⟨b, c, _, rfl, Nat.zero_le _, setRow_heap _ b cur _ _ _ hb, by omega, h2, ?_, ?_⟩⟩
  · simp only [List.size_toArray, List.length_append, List.length_take, List.length_drop]
    omega
  · rw [← hkept]
    have hP : (cur.toList.take (kk * 5)).length = kk * 5 := by rw [List.length_take]; omega
    simp only [List.append_assoc]
    rw [List.take_append, hP, List.take_of_length_le (by omega)]
    simp
theorem flat_take (l : List LE) (k : Nat) : (flat l).take (k * 5) = flat (l.take k) := by
  induction l generalizing k with
  | nil => simp [flat]
  | cons a l ih =>
    cases k with
    | zero => simp [flat]
    | succ k =>
      have hf : flat (a :: l) = a.cells ++ flat l := rfl
      have hf2 : flat (List.take (k + 1) (a :: l)) = a.cells ++ flat (l.take k) := rfl
      have ha : a.cells.length = 5 := rfl
      rw [hf, hf2, List.take_append, List.take_of_length_le (by rw [ha]; omega), ha, show (k + 1) * 5 - 5 = k * 5 by omega, ih]

theorem eltW : Elt Try.prog 42 66 5 40 := Elt.mk' (z := .agg #[.int .i64 0, .int .i64 0, .int .i64 0, .int .i64 0, .int .i64 0]) (by kernel_rfl) (by kernel_rfl) (by kernel_rfl) (by simp [Value.cells, Value.oneCell']) (by decide)
def WDel (p : LE → Bool) (l : List LE) (b c : Nat) (cur0 : Array Value) (I : (Nat → Prop) → List LE → World → Prop) (k jv : Value) (wr : World) : Prop :=
  ∃ (j : Nat) (cur : Array Value), j ≤ l.length ∧ jv = .int .i64 (j : Int) ∧ k = .int .i64 (((l.take j).filter (fun a => !p a)).length : Int) ∧ wr.heap[b]? = some (.cells cur 66 (0, 0)) ∧ DelRow p l c cur0 j cur ∧ ∃ M, I M (l.take j) wr
set_option maxRecDepth 100000 in
set_option maxHeartbeats 2000000 in
theorem delW (b c : Nat) (l : List LE) (w : World) (g : Nat) (lb : Array Value) (p : LE → Bool) (eg : ∀ args w, (callFunc g args).run Try.prog w = .ok (.enter g args) w)
    (I : (Nat → Prop) → List LE → World → Prop) (M0 : Nat → Prop) (h0 : I M0 [] w) (hcall : Closes Try.prog g lb p l I)
    (hrow : w.ownsRow 0 66 5 (.slice (some ⟨b, 0, none⟩) l.length c) l.length (flat l))
    (hlt : ∀ M done W, I M done W → ∀ k, M k → k < W.heap.size ∧ k ≠ b)
    (hst : ∀ M done W W', I M done W → Keep (fun k => k = b) W W' → I M done W') (hn : l.length ≤ 140737488351232) :
    Calls Try.prog 30 #[.slice (some ⟨b, 0, none⟩) l.length c, .func (.func g) #[] lb] w fun e w' =>
      e = .returned (.slice (some ⟨b, 0, none⟩) (l.filter (fun a => !p a)).length c) ∧ w'.ownsRow 0 66 5 (.slice (some ⟨b, 0, none⟩) (l.filter (fun a => !p a)).length c) (l.filter (fun a => !p a)).length (flat (l.filter (fun a => !p a))) ∧ ∃ M, I M l w' := by
  obtain ⟨cur0, hb0, q1, q2, q3, q4⟩ := own_row hrow
  have hbl := blk_lt hb0
  have hi := idxW (some ⟨b, 0, none⟩) c l w g lb p eg (fun M done W => I M done W ∧ W.heap[b]? = w.heap[b]?) M0 ⟨h0, rfl⟩ (closes_keep hbl hcall hlt) (fun M done W h => Sl.of_own (own_same hrow h.2)) (by omega)
  have HI := Lib.hid hi
  have HC := Lib.hid hcall
  have HL := Lib.hid hlt
  have HS := Lib.hid hst
  have HR := Lib.hid hrow
  clear hi hcall hlt hst hrow
  rcases first_hit p l with hno | ⟨k, x, hk, hp, hno⟩
  · have e1 := idxP_miss hno
    have e2 := seenP_miss hno
    have e3 : l.filter (fun a => !p a) = l := List.filter_eq_self.2 fun a ha => by
      obtain ⟨j, hj⟩ := List.mem_iff_getElem?.1 ha
      simp [hno j a hj]
    rw [e3]
    have HN := Lib.hid hno
    have E1 := Lib.hid e1
    have E2 := Lib.hid e2
    clear hno e1 e2 e3
    go_enter Try.func30, Try.ntmps30
    go_wp2_with fail
    refine HI.out.mono ?_
    rintro e w1 ⟨rfl, M, hI, hb⟩
    rw [E1.out]
    rw [E2.out] at hI
    go_wp2
    go_ret
    exact ⟨rfl, own_same HR.out hb, M, hI⟩
  · have e1 := idxP_hit hk hp hno
    have e2 := seenP_hit hk hp hno
    have hkl : k < l.length := (List.getElem?_eq_some_iff.1 hk).1
    have E1 := Lib.hid e1
    have E2 := Lib.hid e2
    have HK := Lib.hid hk
    have HP := Lib.hid hp
    have HN := Lib.hid hno
    have c0 : ((k : Int) == -1) = false := beq_eq_false_iff_ne.2 (by omega)
    have c0' : ((k : Int) == Int.negSucc 0) = false := beq_eq_false_iff_ne.2 (by intro h; cases h)
    clear e1 e2 hk hp hno
    have HB0 := Lib.hid hb0
    have Q3 := Lib.hid q3
    have Q4 := Lib.hid q4
    clear hb0 q3 q4 h0
    go_enter Try.func30, Try.ntmps30
    go_wp2_with fail
    refine HI.out.mono ?_
    rintro e w1 ⟨rfl, M, hI, hb⟩
    rw [E1.out]
    have HI1 := Lib.hid hI
    have HB1 := Lib.hid (hb.trans HB0.out)
    clear hI hb
    go_wp2
    try simp only [c0, c0']
    go_loopw [5, 6] (fun i j wr => WDel p l b c cur0 I i j wr) (fun _ j _ => l.length - (intOf j).toNat)
    case atStart => exact ⟨k + 1, cur0, by omega, by go_num, by rw [filter_first HK.out HP.out HN.out]; simp <;> omega, HB1.out, ⟨Q3.out, by rw [filter_first HK.out HP.out HN.out, ← flat_take, ← Q4.out, List.take_take]; congr 1; simp <;> omega, rfl⟩, M, by rw [take_snoc HK.out, ← E2.out]; exact HI1.out⟩
    case round =>
      obtain ⟨j, cur, hj, rfl, rfl, hbk, hdr, M, hI⟩ := hrel
      have HD := Lib.hid hdr
      have HI2 := Lib.hid hI
      have HBK := Lib.hid hbk
      clear hdr hI hbk
      obtain ⟨kk, hkk⟩ : ∃ kk, ((l.take j).filter (fun a => !p a)).length = kk := ⟨_, rfl⟩
      have hkj : kk ≤ j := by rw [← hkk]; exact Nat.le_trans (List.length_filter_le _ _) (by simp; omega)
      rw [hkk]
      have HKK := Lib.hid hkk
      clear hkk
      by_cases hjl : j < l.length
      · obtain ⟨y, hy⟩ : ∃ y, l[j]? = some y := ⟨l[j], List.getElem?_eq_getElem hjl⟩
        obtain ⟨r0, r1, r2, r3, r4⟩ := HD.out.at_ HBK.out Q3.out Q4.out hjl hy
        have b1 : (0 : Int) ≤ (j : Int) := by omega
        have b2 : (j : Int) < (l.length : Int) := by omega
        have hc := HC.out
        clear hc
        have HY := Lib.hid hy
        have hbw := blk_lt HBK.out
        clear hy
        have hI1 : I M (l.take j) (wr.alloc (.cells #[.int .i64 y.n, .int .i64 y.g, .int .i64 y.s, .int .i64 y.m, .int .i64 y.x] 66)) := HS.out _ _ _ _ HI2.out ((Keep.refl (fun k => k = b) wr).alloc _)
        have hc := HC.out _ M (l.take j) y (by rw [← take_snoc HY.out]; exact List.take_prefix _ _) hI1
        have hvb : ¬ M wr.heap.size := fun h => by have := (HL.out _ _ _ HI2.out _ h).1; omega
        have hMb : ¬ M b := fun h => (HL.out _ _ _ HI2.out _ h).2 rfl
        have hM := Lib.hid (And.intro hvb hMb)
        have HCC := Lib.hid hc
        have n0 := blk_cells (blk_new wr (.cells #[.int .i64 y.n, .int .i64 y.g, .int .i64 y.s, .int .i64 y.m, .int .i64 y.x] 66))
        clear hc hI1 hvb hMb
        go_upto_region 8 with fail
        go_wp2_with fail
        refine HCC.out.mono ?_
        rintro e w2 ⟨rfl, ⟨M2, hM2⟩, hk⟩
        have hbk2 := hk.blk (blk_old HBK.out _) hM.out.2
        have hv2 := hk.blk (blk_new wr (.cells #[.int .i64 y.n, .int .i64 y.g, .int .i64 y.s, .int .i64 y.m, .int .i64 y.x] 66)) hM.out.1
        have HM2 := Lib.hid hM2
        have HBK2 := Lib.hid hbk2
        have HK2 := Lib.hid hk
        clear n0 hk hM2
        cases hq : p y with
        | true =>
          go_wp2
          go_roundw
          case rel =>
           exact ⟨j + 1, cur, by omega, by go_num, by rw [DelRow.skip_len HY.out hq, HKK.out], HBK2.out, HD.out.skip HY.out hq, M2, by rw [take_snoc HY.out]; exact HM2.out⟩
          case measure => simp [intOf]; omega
        | false =>
          have n2 := blk_cells hv2
          have cb := blk_cells hbk2
          have fb := blk_frees hbk2
          have cs := HD.out.size
          obtain ⟨z0, hz0⟩ := get_some (a := cur) (i := kk * 5) (by omega)
          obtain ⟨z1, hz1⟩ := get_some (a := cur) (i := kk * 5 + 1) (by omega)
          obtain ⟨z2, hz2⟩ := get_some (a := cur) (i := kk * 5 + 2) (by omega)
          obtain ⟨z3, hz3⟩ := get_some (a := cur) (i := kk * 5 + 3) (by omega)
          obtain ⟨z4, hz4⟩ := get_some (a := cur) (i := kk * 5 + 4) (by omega)
          have d0 := (cb (kk * 5)).trans hz0
          have d1 := (cb (kk * 5 + 1)).trans hz1
          have d2 := (cb (kk * 5 + 2)).trans hz2
          have d3 := (cb (kk * 5 + 3)).trans hz3
          have d4 := (cb (kk * 5 + 4)).trans hz4
          have b3 : (0 : Int) ≤ (kk : Int) := by omega
          have b4 : (kk : Int) < (l.length : Int) := by omega
          clear cb hbk2 hv2
          go_wp2
          go_roundw
          case rel =>
            have hs5 := set5_blk HBK2.out (kk * 5) (.int .i64 y.n) (.int .i64 y.g) (.int .i64 y.s) (.int .i64 y.m) (.int .i64 y.x)
            exact ⟨j + 1, _, by omega, by go_num, by rw [DelRow.keep_len HY.out hq, HKK.out]; go_num, hs5.1, HD.out.keep HY.out hq HKK.out hjl q1, M2, by rw [take_snoc HY.out]; exact HS.out _ _ _ _ HM2.out hs5.2⟩
          case measure => simp [intOf]; omega
      · obtain rfl : j = l.length := by omega
        have hkl2 : kk ≤ l.length := hkj
        have b3 : (0 : Int) ≤ (kk : Int) := by omega
        have b4 : (kk : Int) ≤ (l.length : Int) := by omega
        have b5 : (l.length : Int) ≤ (c : Int) := by omega
        have hkc : kk < l.length := by rw [← HKK.out, List.take_length]; exact filter_lt HK.out HP.out
        have b6 : (kk : Int) < (c : Int) := by omega
        have b7 : ¬ c = kk := by omega
        obtain ⟨zs, hz, hrun⟩ := run_clear_row (P := Try.prog) wr eltW 0 (off := kk * 5) (m := l.length - kk) (c := c - kk) HBK.out (by rw [HD.out.size]; omega)
        have HRUN := Lib.hid hrun
        clear hrun
        go_wp2_with fail
        rw [HRUN.out]
        have hfin := HD.out.fin HKK.out HBK.out hkj q1 q2 hz
        have HF := Lib.hid hfin
        have HI3 := Lib.hid (HS.out _ _ _ _ HI2.out (keep_setRow wr b (cur.toList.take (kk * 5) ++ zs ++ cur.toList.drop (kk * 5 + zs.length)).toArray))
        have hfk : (l.filter (fun a => !p a)).length = kk := by rw [← HKK.out, List.take_length]
        have HFK := Lib.hid hfk
        clear hfin hz hfk
        go_wp2
        go_ret
        rw [HFK.out]
        refine ⟨rfl, by simpa only [List.append_assoc] using HF.out, M, ?_⟩
        have := HI3.out
        simpa only [List.append_assoc, List.take_length] using this
theorem delW_nil (w : World) (g : Nat) (lb : Array Value) (eg : ∀ args w, (callFunc g args).run Try.prog w = .ok (.enter g args) w) :
    Calls Try.prog 30 #[.slice none 0 0, .func (.func g) #[] lb] w fun e w' => e = .returned (.slice none 0 0) ∧ w' = w := by
  have hi := idxW none 0 [] w g lb (fun _ => false) eg (fun _ _ W => W = w) (fun _ => False) rfl (by intro W M done x hp _; have := hp.length_le; simp at this) (fun M done W _ => ⟨none, 0, rfl, .inl rfl, fun _ => ⟨rfl, rfl⟩, Nat.le_refl _, rfl⟩) (by simp)
  have HI := Lib.hid hi
  clear hi
  go_enter Try.func30, Try.ntmps30
  go_wp2_with fail
  refine HI.out.mono ?_
  rintro e w1 ⟨rfl, M, rfl⟩
  rw [show idxP (fun _ => false) [] = -1 from rfl]
  go_wp2
  go_ret
  exact ⟨rfl, rfl⟩
end Go.Proofs.Ytmfgkddndlleoaa
