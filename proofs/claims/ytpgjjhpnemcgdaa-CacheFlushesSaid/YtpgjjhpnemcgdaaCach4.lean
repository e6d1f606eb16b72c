/- Package reach: stretches, sorted by the library. -/
import Derived.Test.YtpgjjhpnemcgdaaCach3
import Derived.Test.YtpgjjhpnemcgdaaShelf
import Derived.Sort.OwnSortedInts
set_option linter.unusedSimpArgs false
set_option linter.unusedVariables false
namespace Go.Proofs.Ytpgjjhpnemcgdaa
open Go.RowKit Go.Sort Go.Lib Go.Proofs

attribute [local go_sem ↓] Go.wp_at_zero Go.wp_at_succ
/-- A pair of numbers that floats hold. -/
abbrev Sq := { p : St // p.1 ≤ 1099511627776 ∧ p.2 ≤ 1099511627776 }
instance : Inhabited Sq := ⟨⟨(0, 0), by decide⟩⟩
def cq (p : Sq) : Value := cx p.1
def cf (p q : Sq) : Int := if p.1.1 < q.1.1 then -1 else if q.1.1 < p.1.1 then 1 else 0
theorem nan_walk {m : Nat} (h : m ≤ 1099511627776) (w : World) : Calls Try.prog 40 #[.float .f64 (fb m)] w fun e w' => e = .returned (.bool false) ∧ w' = w := by
  have h3 : FloatKind.f64.format.order (fb m) (fb m) = some .eq := ord_eq (by omega)
  clear h
  go_enter Try.func40, Try.ntmps40
  go_wp2
  go_ret
  exact ⟨rfl, rfl⟩
theorem compare_walk {a b : Nat} (ha : a ≤ 1099511627776) (hb : b ≤ 1099511627776) (w : World) :
    Calls Try.prog 36 #[.float .f64 (fb a), .float .f64 (fb b)] w fun e w' => e = .returned (.int .i64 (if a < b then -1 else if b < a then 1 else 0)) ∧ w' = w := by
  have HA := Lib.hid (nan_walk ha w)
  have HB := Lib.hid (nan_walk hb w)
  rcases Nat.lt_trichotomy a b with h | h | h
  · have o : FloatKind.f64.format.order (fb a) (fb b) = some .lt := ord_lt (by omega) h
    rw [if_pos h]
    clear ha hb h
    go_enter Try.func36, Try.ntmps36
    go_wp2_with fail
    refine HA.out.mono ?_
    rintro e W ⟨rfl, rfl⟩
    go_wp2_with fail
    refine HB.out.mono ?_
    rintro e W ⟨rfl, rfl⟩
    go_wp2
    go_ret
    exact ⟨rfl, rfl⟩
  · subst h
    have o : FloatKind.f64.format.order (fb a) (fb a) = some .eq := ord_eq (by omega)
    rw [if_neg (by omega), if_neg (by omega)]
    clear ha hb
    go_enter Try.func36, Try.ntmps36
    go_wp2_with fail
    refine HA.out.mono ?_
    rintro e W ⟨rfl, rfl⟩
    go_wp2_with fail
    refine HB.out.mono ?_
    rintro e W ⟨rfl, rfl⟩
    go_wp2
    go_ret
    exact ⟨rfl, rfl⟩
  · have o : FloatKind.f64.format.order (fb a) (fb b) = some .gt := ord_gt (by omega) h
    rw [if_neg (by omega), if_pos h]
    clear ha hb h
    go_enter Try.func36, Try.ntmps36
    go_wp2_with fail
    refine HA.out.mono ?_
    rintro e W ⟨rfl, rfl⟩
    go_wp2_with fail
    refine HB.out.mono ?_
    rintro e W ⟨rfl, rfl⟩
    go_wp2
    go_ret
    exact ⟨rfl, rfl⟩
theorem cmp_walk (x y : Sq) (w : World) : Calls Try.prog 35 #[cq x, cq y] w fun e w' => e = .returned (.int .i64 (cf x y)) ∧ w' = w := by
  obtain ⟨⟨a, b⟩, h1, h2⟩ := x
  obtain ⟨⟨c, d⟩, h3, h4⟩ := y
  have HC := Lib.hid (compare_walk (a := a) (b := c) h1 h3 w)
  unfold cq cx cf
  simp only
  generalize (if a < c then (-1 : Int) else if c < a then 1 else 0) = r at HC ⊢
  clear h1 h2 h3 h4
  go_enter Try.func35, Try.ntmps35
  go_wp2_with fail
  refine HC.out.mono ?_
  rintro e W ⟨rfl, rfl⟩
  go_wp2
  go_ret
  exact ⟨rfl, rfl⟩
theorem lt_cf (x y : Sq) : ltOf cf x y = decide (x.1.1 < y.1.1) := by
  unfold ltOf cf
  by_cases h1 : x.1.1 < y.1.1
  · simp [h1]
  · by_cases h2 : y.1.1 < x.1.1 <;> simp [h1, h2]
theorem swo_cf : SWO (ltOf cf) where
  irrefl x := by rw [lt_cf]; simp
  trans x y z h1 h2 := by rw [lt_cf] at *; simp at *; omega
  ntrans x y z h1 h2 := by rw [lt_cf] at *; simp at *; omega
theorem cmp_reads (blk off size : Nat) (w : World) : CmpReads Try.prog 35 #[] cq cf blk off size w :=
  fun m os dk h x y => (cmp_walk x y _).mono fun _ _ ⟨he, hw⟩ => ⟨he, 0, by rw [hw]; rfl⟩
theorem holds_cq {w : World} {g : Nat} {cur : Array Value} {e : TypeId} {ss : List Sq} (hb : w.heap[g]? = some (.cells cur e (0, 0))) (ht : cur.toList.take ss.length = ss.map cq) : Holds cq w g 0 ss.toArray := by
  intro j hj
  have hj' : j < ss.length := by simpa using hj
  refine ⟨?_, by simp [World.frozen?, hb]⟩
  have h1 : (cur.toList.take ss.length)[j]? = (ss.map cq)[j]? := by rw [ht]
  rw [List.getElem?_take_of_lt hj'] at h1
  simp only [World.cell?, hb, Nat.zero_add]
  simp only [Option.isSome_none, Bool.false_eq_true, if_false]
  rw [← Array.getElem?_toList, h1]
  simp [hj']
theorem heap_cq {w : World} {g n : Nat} {os : Array Obj} {cur : Array Value} {e : TypeId} {fr : Nat × Nat} (d : Array Sq) (hb : w.heap[g]? = some (.cells cur e fr)) :
    (grow (putRow cq (Sort.ahead w n) g 0 d) os).heap[g]? = some (.cells (putCells cq 0 d cur) e fr) := by
  have hg : g < w.heap.size := (Array.getElem?_eq_some_iff.1 hb).1
  rw [heap_grow_old _ _ (by simpa using hg)]
  simp [putRow, mapBlock, Sort.ahead, Array.getElem?_modify, hb, onCells]
theorem grown_cq {w : World} {g n : Nat} {os : Array Obj} (d : Array Sq) : w.grownBy (grow (putRow cq (Sort.ahead w n) g 0 d) os) (some g) := by
  refine ⟨rfl, rfl, rfl, by simp, fun k hk hne => ?_⟩
  rw [heap_grow_old _ _ (by simpa using hk)]
  have : g ≠ k := fun e => hne (by rw [e])
  simp [putRow, mapBlock, Sort.ahead, Array.getElem?_modify, this]
theorem take_cq (cur : Array Value) (ts : List Sq) (h : ts.length ≤ cur.size) : (putCells cq 0 ts.toArray cur).toList.take ts.length = ts.map cq := by
  apply List.ext_getElem?
  intro j
  by_cases hj : j < ts.length
  · rw [List.getElem?_take_of_lt hj, Array.getElem?_toList]
    simp [putCells, hj, show j < cur.size by omega]
  · rw [List.getElem?_take_eq_none (by omega), List.getElem?_eq_none (by simp; omega)]
theorem own_cq {w : World} {base g cap n : Nat} {e : TypeId} {os : Array Obj} {cur : Array Value} {ss ts : List Sq} (hl : ts.length = ss.length) (hbase : base ≤ g) (hb : w.heap[g]? = some (.cells cur e (0, 0)))
    (h1 : ss.length ≤ cap) (h2 : cap ≤ maxLen) (h3 : cur.size = cap * 1) :
    (grow (putRow cq (Sort.ahead w n) g 0 ts.toArray) os).ownsRow base e 1 (.slice (some ⟨g, 0, none⟩) ss.length cap) ss.length (ts.map cq) :=
  ⟨by simp [hl], .inr ⟨g, cap, _, rfl, hbase, heap_cq _ hb, h1, h2, by simp [putCells, h3], by rw [Nat.mul_one, ← hl]; exact take_cq cur ts (by omega)⟩⟩
theorem sort_walk (L : List St) (A : Option Addr) (c : Nat) (w0 w : World) (h : OC w0 w L A c) (hne : L ≠ []) (hg : ∀ p ∈ L, Str1 p) (hn : L.length ≤ 1000000000) :
    Calls Try.prog 34 #[.slice A L.length c, .func (.func 35) #[] #[]] w fun e w' => e = .returned (.tuple #[]) ∧ ∃ L' : List St, L'.Perm L ∧ L'.Pairwise (fun p q => p.1 ≤ q.1) ∧ OC w0 w' L' A c := by
  have hq : ∀ p ∈ L, p.1 ≤ 1099511627776 ∧ p.2 ≤ 1099511627776 := fun p hp => ⟨by have := hg p hp; have := this.1; have := (hg p hp).2; omega, (hg p hp).2⟩
  obtain ⟨ss, hss⟩ : ∃ ss : List Sq, ss.map (·.1) = L := ⟨L.pmap (fun p h => ⟨p, h⟩) hq, by rw [List.map_pmap]; simp⟩
  have hlen : ss.length = L.length := by rw [← hss, List.length_map]
  have hcs : ss.map cq = cxs L := by rw [← hss, cxs, List.map_map]; rfl
  obtain ⟨hl, hcase⟩ := h.own
  rcases hcase with ⟨h0, hz⟩ | ⟨g, cap, cur, hv, hb0, hb, h1, h2, h3, h4⟩
  · exact absurd (List.eq_nil_of_length_eq_zero hz) hne
  · injection hv with e1 _ e2
    subst e1 e2
    have hfr := h.fresh g rfl
    have eg : ∀ args w, (callFunc 35 args).run Try.prog w = .ok (.enter 35 args) w := enters_of Try.func35 (by kernel_rfl) rfl
    have hH : Holds cq w g 0 ss.toArray := holds_cq hb (by rw [hcs, hlen, ← h4, Nat.mul_one])
    have hcon := Try.slices_SortFunc cq (fun _ => rfl) cf swo_cf 35 #[] g 0 c ss.toArray w eg (cmp_reads g 0 ss.toArray.size w).lays hH (blk_lt hb) (by simp; omega)
    rw [List.size_toArray, hlen] at hcon
    refine hcon.mono ?_
    rintro e w' ⟨rfl, d', n, os, hp, hs, rfl⟩
    refine ⟨rfl, d'.toList.map (·.1), ?_, ?_, ?_⟩
    · have hp2 := hp.2.2
      rw [show d'.extract 0 L.length = d' by rw [show L.length = d'.size by rw [hp.1]; simp [hlen]]; simp, show ss.toArray.extract 0 L.length = ss.toArray by rw [show L.length = ss.toArray.size by simp [hlen]]; simp] at hp2
      rw [← hss]
      exact hp2.map _
    · rw [List.pairwise_map, List.pairwise_iff_getElem]
      intro i j hi hj hij
      have := hs i j (Nat.zero_le _) hij (by have := hp.1; simp at this hj; omega)
      rw [lt_cf] at this
      simp only [decide_eq_false_iff_not, Nat.not_lt] at this
      have hi2 : i < d'.size := by simpa using hi
      have hj2 : j < d'.size := by simpa using hj
      rw [getElem!_pos d' i hi2, getElem!_pos d' j hj2] at this
      simpa using this
    · have hdl : d'.toList.length = ss.length := by have := hp.1; simpa using this
      have ho := own_cq (n := n) (os := os) (ts := d'.toList) (base := 0) hdl (Nat.zero_le _) hb (by omega) h2 h3
      refine ⟨?_, h.fresh, h.be.trans ((Keep.of_grown (grown_cq (n := n) (os := os) d')).below (fun k e => by injection e with e; omega) h.be.size)⟩
      have e1 : (d'.toList.map (·.1)).length = L.length := by rw [List.length_map, hdl, hlen]
      have e2 : cxs (d'.toList.map (·.1)) = d'.toList.map cq := by rw [cxs, List.map_map]; rfl
      rw [e1, e2]
      rw [hlen] at ho
      exact ho
end Go.Proofs.Ytpgjjhpnemcgdaa
