/- What an argument that can be read looks like, and how much it holds. -/
import Derived.Test.YtpdnfcgdcndhpaaDoorActCard
set_option linter.unusedSimpArgs false
set_option linter.unusedVariables false
namespace Go.Proofs.YtpdnfcgdcndhpaaDoor
open Go.ChangeShapes Go.WideShapes Go.ChangeAt Go.RowKit

theorem bulk_one {H : Type} (d : DataW H) : 1 ≤ Rows.uptoBulk d := by
  cases d with
  | lit l => cases l <;> simp [Rows.uptoBulk]
  | nil => simp [Rows.uptoBulk]
  | ptr d => simp [Rows.uptoBulk]
  | slice elems spare => simp [Rows.uptoBulk]
  | agg parts => simp [Rows.uptoBulk]
  | iface t d => simp [Rows.uptoBulk]
  | map entries => simp [Rows.uptoBulk]
  | held h => simp [Rows.uptoBulk]
theorem bulk_sum {H : Type} : ∀ l : List (DataW H), Rows.uptoBulkAll l = (l.map Rows.uptoBulk).sum
  | [] => rfl
  | d :: l => by simp only [Rows.uptoBulkAll, List.map_cons, List.sum_cons, bulk_sum l]
/-- The cells cs can be read as a value of type t of bulk N. -/
def OpensB (P : Program) (w : World) (t : TypeId) (cs : List Value) (N : Nat) : Prop :=
  ∃ (H : Type) (enc : TypeId × Value → H) (fuel : Nat) (x : DataW H × List MemPlace), DataW.trod enc P w 0 (fun _ => true) true fuel t cs = some x ∧ (∀ n ∈ x.1.weights P t, n ≤ 140737488351232) ∧ Rows.uptoBulk x.1 = N
theorem OpensB.arg {H : Type} {enc : TypeId × Value → H} {P : Program} {w : World} {t : TypeId} {v : Value} {d : DataW H} {ps : List MemPlace} {ts : List TypeId} {ds : List (DataW H)} (h : DataW.Trod enc P w 0 (fun _ => true) true t v d ps)
    (hall : (DataW.weightsEach P ts ds).all (· ≤ reachBytes) = true) {j : Nat} (h1 : ts[j]? = some t) (h2 : ds[j]? = some d) : OpensB P w t v.cells.toList (Rows.uptoBulk d) := by
  obtain ⟨fuel, hf⟩ := h
  refine ⟨H, enc, fuel, (d, ps), hf, fun n hn => ?_, rfl⟩
  have := List.all_eq_true.1 hall n (DataW.weights_mem_each h1 h2 n hn)
  exact of_decide_eq_true this
theorem OpensB.one {P : Program} {w : World} {t : TypeId} {cs : List Value} {N : Nat} (h : OpensB P w t cs N) : 1 ≤ N := by
  obtain ⟨H, enc, fuel, x, hf, hw, hN⟩ := h
  rw [← hN]
  exact bulk_one _
theorem OpensB.opens {P : Program} {w : World} {t : TypeId} {cs : List Value} {N : Nat} (h : OpensB P w t cs N) : Opens P w t cs := by
  obtain ⟨H, enc, fuel, x, hf, hw, hN⟩ := h
  exact ⟨H, enc, fuel, x, hf, hw⟩
theorem OpensB.string {P : Program} {w : World} {t : TypeId} {cs : List Value} {N : Nat} (ht : P.underlying t = some .string) (h : OpensB P w t cs N) : ∃ s : Str, cs = [.string ⟨s.toArray⟩] ∧ s.length + 1 = N := by
  obtain ⟨H, enc, fuel, x, hf, hw, hN⟩ := h
  obtain ⟨s, rfl, rfl, _⟩ := DataW.trod_string ht hf
  refine ⟨s.data.toList, by simp, ?_⟩
  rw [← hN]
  simp [Rows.uptoBulk]
theorem OpensB.struct {P : Program} {w : World} {t : TypeId} {cs : List Value} {fs : Array Field} {N : Nat} (ht : P.underlying t = some (.struct fs)) (h : OpensB P w t cs N) :
    cs.length = P.cellsOf t ∧ ∃ Ns : List Nat, Ns.length = fs.size ∧ Ns.sum + 1 = N ∧ ∀ (i : Nat) (f : Field), fs[i]? = some f → ∃ Ni, Ns[i]? = some Ni ∧ OpensB P w f.type ((cs.drop f.offset).take (P.cellsOf f.type)) Ni := by
  obtain ⟨H, enc, fuel, x, hf, hw, hN⟩ := h
  obtain ⟨xs, n, _, rfl, hl, hlen, hfs⟩ := DataW.trod_struct ht hf
  refine ⟨hl, (xs.map (·.1)).map Rows.uptoBulk, by simpa using hlen, ?_, fun i f hi => ?_⟩
  · rw [← hN]
    simp only [Rows.uptoBulk, bulk_sum]
  have hif : i < fs.size := (Array.getElem?_eq_some_iff.1 hi).1
  obtain ⟨y, hy⟩ : ∃ y, xs[i]? = some y := ⟨xs[i]'(by omega), List.getElem?_eq_getElem (by omega)⟩
  refine ⟨Rows.uptoBulk y.1, by simp [hy], H, enc, n, y, (hfs i f hi).trans hy, fun m hm => hw m ?_, rfl⟩
  simp only [DataW.weights, ht]
  exact weightsEach_mem fs.toList (xs.map (·.1)) i f y.1 (by simpa using hi) (by simp [hy]) m hm
theorem OpensB.slice {P : Program} {w : World} {t e : TypeId} {cs : List Value} {N : Nat} (ht : P.underlying t = some (.slice e)) (h : OpensB P w t cs N) :
    ∃ (v : Value) (n : Nat) (css : List (List Value)) (Ns : List Nat), cs = [v] ∧ css.length = n ∧ Ns.length = n ∧ Sl w (P.cellsOf e) v n css.flatten ∧ (∀ (i : Nat) c, css[i]? = some c → c.length = P.cellsOf e ∧ ∃ Ni, Ns[i]? = some Ni ∧ OpensB P w e c Ni) ∧ Ns.sum + 1 ≤ N := by
  obtain ⟨H, enc, fuel, x, hf, hw, hN⟩ := h
  rcases DataW.trod_slice ht hf with ⟨rfl, rfl⟩ | ⟨a, len, cap, elems, rest, n, _, rfl, rfl, hb, hl, hm, hlen, hel, _, _⟩
  · exact ⟨_, 0, [], [], rfl, rfl, rfl, ⟨none, 0, rfl, .inl rfl, fun _ => ⟨rfl, rfl⟩, Nat.le_refl _, by simp⟩, by simp, by rw [← hN]; exact bulk_one _⟩
  · have hone : ∀ i, i < len → ∃ c : List Value, c.length = P.cellsOf e ∧ (∀ j, j < P.cellsOf e → w.cell? (a.add (i * P.cellsOf e + j)) = c[j]?) ∧ ∃ y, elems[i]? = some y ∧ OpensB P w e c (Rows.uptoBulk y.1) := by
      intro i hi
      obtain ⟨y, hy⟩ : ∃ y, elems[i]? = some y := ⟨elems[i]'(by omega), List.getElem?_eq_getElem (by omega)⟩
      have h1 := (hel i hi).trans hy
      obtain ⟨c, hc, ht'⟩ := Option.bind_eq_some_iff.1 h1
      obtain ⟨_, h2, h3⟩ := World.cells?_some hc
      refine ⟨c, h2, fun j hj => by rw [← Go.Deep.add_add]; exact h3 j hj, y, hy, H, enc, n, y, ht', fun k hk => hw k ?_, rfl⟩
      simp only [DataW.weights, ht]
      refine List.mem_cons_of_mem _ (List.mem_append_left _ ?_)
      exact weightsAll_mem _ y.1 (List.mem_map.2 ⟨y, List.mem_of_getElem? hy, rfl⟩) k hk
    obtain ⟨f, hfc⟩ := Go.Deep.choose_lt (α := List Value) (n := len) (p := fun i c => c.length = P.cellsOf e ∧ (∀ j, j < P.cellsOf e → w.cell? (a.add (i * P.cellsOf e + j)) = c[j]?) ∧ ∃ y, elems[i]? = some y ∧ OpensB P w e c (Rows.uptoBulk y.1)) hone
    have hget : ∀ i c, ((List.range len).map f)[i]? = some c → i < len ∧ f i = c := by
      intro i c hi
      rw [List.getElem?_map] at hi
      rcases Nat.lt_or_ge i len with h | h
      · simp [h] at hi; exact ⟨h, hi⟩
      · simp [List.getElem?_eq_none (show (List.range len).length ≤ i by simpa using h)] at hi
    have hall : ∀ c ∈ (List.range len).map f, c.length = P.cellsOf e := by
      intro c hc
      obtain ⟨i, hi, rfl⟩ := List.mem_map.1 hc
      exact (hfc i (List.mem_range.1 hi)).1
    refine ⟨_, len, (List.range len).map f, (elems.map (·.1)).map Rows.uptoBulk, rfl, by simp, by simpa using hlen, ⟨some a, cap, rfl, .inr ⟨a, rfl, fun k u hu => ?_⟩, (fun e => by simp at e), hl, ?_⟩, fun i c hi => ?_, ?_⟩
    · have := flat_cells (w := w) (ad := a) (size := P.cellsOf e) ((List.range len).map f) 0 (fun i c hi => by
        obtain ⟨h1, rfl⟩ := hget i c hi
        have := hfc i h1
        exact ⟨this.1, fun j hj => by rw [Nat.zero_add]; exact this.2.1 j hj⟩) k u hu
      simpa using this
    · rw [flatten_len _ hall]; simp
    · obtain ⟨h1, rfl⟩ := hget i c hi
      obtain ⟨q1, _, y, hy, q2⟩ := hfc i h1
      exact ⟨q1, _, by simp [hy], q2⟩
    · rw [← hN]
      simp only [Rows.uptoBulk, bulk_sum]
      omega
theorem sum_get : ∀ (l : List Nat) (i n : Nat), l[i]? = some n → n ≤ l.sum
  | [], i, n, h => by simp at h
  | a :: l, 0, n, h => by simp at h; subst h; simp
  | a :: l, i + 1, n, h => by
    have := sum_get l i n (by simpa using h)
    simp only [List.sum_cons]
    omega
theorem sum_len : ∀ (l : List Nat) (k : Nat), (∀ n ∈ l, k ≤ n) → l.length * k ≤ l.sum
  | [], k, _ => by simp
  | a :: l, k, h => by
    have h1 := h a (by simp)
    have h2 := sum_len l k (fun n hn => h n (by simp [hn]))
    simp only [List.length_cons, List.sum_cons, Nat.add_mul]
    omega
theorem OpensB.bytes {P : Program} {w : World} {t e : TypeId} {cs : List Value} {N : Nat} (ht : P.underlying t = some (.slice e)) (he : P.underlying e = some (.int .u8)) (hc : P.cellsOf e = 1) (hb : P.bytesOf e = 1) (h : OpensB P w t cs N) :
    ∃ v d, cs = [v] ∧ DataR w v d ∧ d.length + 1 ≤ N := by
  obtain ⟨v, n, css, Ns, rfl, hn, hNs, hs, hall, hsum⟩ := h.slice ht
  obtain ⟨A, c, d, e1, sl, b⟩ := Opens.bytes ht he hc hb h.opens
  injection e1 with e1
  subst e1
  refine ⟨_, d, rfl, ⟨A, c, rfl, sl⟩, ?_⟩
  have h1 : n = d.length := by
    obtain ⟨A2, c2, e2, _⟩ := hs
    injection e2 with _ e2 _
    exact e2.symm
  have := sum_len Ns 1 (fun m hm => by
    obtain ⟨i, hi⟩ := List.mem_iff_getElem?.1 hm
    obtain ⟨c2, hc2⟩ : ∃ c2, css[i]? = some c2 := ⟨css[i]'(by have := (List.getElem?_eq_some_iff.1 hi).1; omega), List.getElem?_eq_getElem _⟩
    obtain ⟨_, Ni, hNi, ho⟩ := hall i c2 hc2
    rw [hi] at hNi
    injection hNi with hNi
    rw [hNi]
    exact ho.one)
  omega
theorem map_ints {w : World} {P : Program} {e : TypeId} (he : P.underlying e = some (.int .i64)) : ∀ {cs : List (List Value)}, (∀ c ∈ cs, ∃ N, OpensB P w e c N) → ∃ l : List Int, cs.flatten = ints l ∧ l.length = cs.length ∧ ∀ k ∈ l, I64 k
  | [], _ => ⟨[], rfl, rfl, by simp⟩
  | c :: cs, h => by
    obtain ⟨N, ho⟩ := h c (by simp)
    obtain ⟨k, rfl, hk⟩ := ho.opens.int he
    obtain ⟨l, h1, h2, h3⟩ := map_ints he (cs := cs) (fun c hc => h c (by simp [hc]))
    refine ⟨k :: l, by simp [ints] at h1 ⊢; exact h1, by simp [h2], fun q hq => ?_⟩
    rcases List.mem_cons.1 hq with rfl | hq
    · simp only [Lit.wf, IntKind.min, IntKind.max, IntKind.signed, IntKind.bits, Bool.and_eq_true, decide_eq_true_eq] at hk
      simp at hk
      exact ⟨by omega, by omega⟩
    · exact h3 q hq
theorem OpensB.ints {w : World} {cs : List Value} {N : Nat} (h : OpensB Tryd.prog w 25 cs N) :
    ∃ v l, cs = [v] ∧ KeepR w v l ∧ l.length + 1 ≤ N ∧ ∀ k ∈ l, I64 k := by
  obtain ⟨v, n, css, Ns, rfl, hn, hNs, hs, hall, hsum⟩ := h.slice Tryd.underlying25
  have c1 : Tryd.prog.cellsOf 3 = 1 := by kernel_rfl
  rw [c1] at hs
  obtain ⟨l, h1, h2, h3⟩ := map_ints (P := Tryd.prog) (w := w) Tryd.underlying3 (cs := css) (fun c hc => by
    obtain ⟨i, hi⟩ := List.mem_iff_getElem?.1 hc
    obtain ⟨_, Ni, _, ho⟩ := hall i c hi
    exact ⟨Ni, ho⟩)
  rw [h1] at hs
  have hs' := hs
  obtain ⟨A, c, rfl, _⟩ := hs'
  obtain rfl : n = l.length := by omega
  refine ⟨_, l, rfl, ⟨A, c, rfl, hs⟩, ?_, h3⟩
  have := sum_len Ns 1 (fun m hm => by
    obtain ⟨i, hi⟩ := List.mem_iff_getElem?.1 hm
    obtain ⟨c2, hc2⟩ : ∃ c2, css[i]? = some c2 := ⟨css[i]'(by have := (List.getElem?_eq_some_iff.1 hi).1; omega), List.getElem?_eq_getElem _⟩
    obtain ⟨_, Ni, hNi, ho⟩ := hall i c2 hc2
    rw [hi] at hNi
    injection hNi with hNi
    rw [hNi]
    exact ho.one)
  omega
theorem wf_i64 {k : Int} (hk : (Lit.int .i64 k).wf = true) : I64 k := by
  simp only [Lit.wf, IntKind.min, IntKind.max, IntKind.signed, IntKind.bits, Bool.and_eq_true, decide_eq_true_eq] at hk
  simp at hk
  exact ⟨by omega, by omega⟩
theorem list7 {α : Type} {l : List α} (h : l.length = 7) : ∃ a b c d e f g, l = [a, b, c, d, e, f, g] := by
  match l, h with
  | [a, b, c, d, e, f, g], _ => exact ⟨a, b, c, d, e, f, g, rfl⟩
theorem list5 {α : Type} {l : List α} (h : l.length = 5) : ∃ a b c d e, l = [a, b, c, d, e] := by
  match l, h with
  | [a, b, c, d, e], _ => exact ⟨a, b, c, d, e, rfl⟩
theorem list11 {α : Type} {l : List α} (h : l.length = 11) : ∃ a b c d e f g i j k m, l = [a, b, c, d, e, f, g, i, j, k, m] := by
  match l, h with
  | [a, b, c, d, e, f, g, i, j, k, m], _ => exact ⟨a, b, c, d, e, f, g, i, j, k, m, rfl⟩
theorem call_open {w : World} {cs : List Value} {N : Nat} (hN : N ≤ 1048576) (h : OpensB Tryd.prog w 24 cs N) :
    ∃ (x : CallP) (dv : Value), cs = (x.cells dv).toList ∧ DataR w dv x.data ∧ CallOk x ∧ SmallC x N ∧ 8 ≤ N := by
  obtain ⟨hl, Ns, hNl, hsum, hf⟩ := h.struct Tryd.underlying24
  have hl7 : cs.length = 7 := hl.trans (by kernel_rfl)
  obtain ⟨a, b, c, d, e, f, g, rfl⟩ := list7 hl7
  obtain ⟨m0, m1, m2, m3, m4, m5, m6, rfl⟩ := list7 (show Ns.length = 7 from hNl)
  have c3 : Tryd.prog.cellsOf 3 = 1 := by kernel_rfl
  have c9 : Tryd.prog.cellsOf 9 = 1 := by kernel_rfl
  have c22 : Tryd.prog.cellsOf 22 = 1 := by kernel_rfl
  obtain ⟨n0, e0, h0⟩ := hf 0 _ rfl
  obtain ⟨n1, e1, h1⟩ := hf 1 _ rfl
  obtain ⟨n2, e2, h2⟩ := hf 2 _ rfl
  obtain ⟨n3, e3, h3⟩ := hf 3 _ rfl
  obtain ⟨n4, e4, h4⟩ := hf 4 _ rfl
  obtain ⟨n5, e5, h5⟩ := hf 5 _ rfl
  obtain ⟨n6, e6, h6⟩ := hf 6 _ rfl
  replace h0 : OpensB Tryd.prog w 3 (([a, b, c, d, e, f, g].drop 0).take (Tryd.prog.cellsOf 3)) n0 := h0
  rw [c3] at h0
  replace h1 : OpensB Tryd.prog w 9 (([a, b, c, d, e, f, g].drop 1).take (Tryd.prog.cellsOf 9)) n1 := h1
  rw [c9] at h1
  replace h2 : OpensB Tryd.prog w 9 (([a, b, c, d, e, f, g].drop 2).take (Tryd.prog.cellsOf 9)) n2 := h2
  rw [c9] at h2
  replace h3 : OpensB Tryd.prog w 3 (([a, b, c, d, e, f, g].drop 3).take (Tryd.prog.cellsOf 3)) n3 := h3
  rw [c3] at h3
  replace h4 : OpensB Tryd.prog w 3 (([a, b, c, d, e, f, g].drop 4).take (Tryd.prog.cellsOf 3)) n4 := h4
  rw [c3] at h4
  replace h5 : OpensB Tryd.prog w 3 (([a, b, c, d, e, f, g].drop 5).take (Tryd.prog.cellsOf 3)) n5 := h5
  rw [c3] at h5
  replace h6 : OpensB Tryd.prog w 22 (([a, b, c, d, e, f, g].drop 6).take (Tryd.prog.cellsOf 22)) n6 := h6
  rw [c22] at h6
  simp only [List.getElem?_cons_zero, List.getElem?_cons_succ, Option.some.injEq] at e0 e1 e2 e3 e4 e5 e6
  subst e0 e1 e2 e3 e4 e5 e6
  have o0 := h0.one; have o1 := h1.one; have o2 := h2.one; have o3 := h3.one; have o4 := h4.one; have o5 := h5.one; have o6 := h6.one
  obtain ⟨k0, q0, z0⟩ := h0.opens.int Tryd.underlying3
  obtain ⟨s1, q1, z1⟩ := h1.string Tryd.underlying9
  obtain ⟨s2, q2, z2⟩ := h2.string Tryd.underlying9
  obtain ⟨k3, q3, z3⟩ := h3.opens.int Tryd.underlying3
  obtain ⟨k4, q4, z4⟩ := h4.opens.int Tryd.underlying3
  obtain ⟨k5, q5, z5⟩ := h5.opens.int Tryd.underlying3
  obtain ⟨v6, s6, q6, z6, l6⟩ := h6.bytes Tryd.underlying22 Tryd.underlying5 (by kernel_rfl) (by kernel_rfl)
  simp at q0 q1 q2 q3 q4 q5 q6
  subst q0 q1 q2 q3 q4 q5 q6
  simp only [List.sum_cons, List.sum_nil] at hsum
  exact ⟨⟨k0, s1, s2, k3, k4, k5, s6⟩, _, rfl, z6, ⟨wf_i64 z0, wf_i64 z3, wf_i64 z4, wf_i64 z5, by simp only; omega, by simp only; omega, by simp only; omega⟩, ⟨by simp only; omega, by simp only; omega, by simp only; omega⟩, by omega⟩
theorem act_open {w : World} {cs : List Value} {N : Nat} (hN : N ≤ 1048576) (h : OpensB Tryd.prog w 27 cs N) :
    ∃ (x : ActP) (dv kv : Value), cs = (x.cells dv kv).toList ∧ DataR w dv x.call.data ∧ KeepR w kv x.keep ∧ ActOk x ∧ SmallA x N ∧ 13 ≤ N := by
  obtain ⟨hl, Ns, hNl, hsum, hf⟩ := h.struct Tryd.underlying27
  have hl11 : cs.length = 11 := hl.trans (by kernel_rfl)
  obtain ⟨a, b, c, d, e, f, g, i, j, k, m, rfl⟩ := list11 hl11
  obtain ⟨m0, m1, m2, m3, m4, rfl⟩ := list5 (show Ns.length = 5 from hNl)
  have c3 : Tryd.prog.cellsOf 3 = 1 := by kernel_rfl
  have c24 : Tryd.prog.cellsOf 24 = 7 := by kernel_rfl
  have c25 : Tryd.prog.cellsOf 25 = 1 := by kernel_rfl
  obtain ⟨n0, e0, h0⟩ := hf 0 _ rfl
  obtain ⟨n1, e1, h1⟩ := hf 1 _ rfl
  obtain ⟨n2, e2, h2⟩ := hf 2 _ rfl
  obtain ⟨n3, e3, h3⟩ := hf 3 _ rfl
  obtain ⟨n4, e4, h4⟩ := hf 4 _ rfl
  replace h0 : OpensB Tryd.prog w 3 (([a, b, c, d, e, f, g, i, j, k, m].drop 0).take (Tryd.prog.cellsOf 3)) n0 := h0
  rw [c3] at h0
  replace h1 : OpensB Tryd.prog w 3 (([a, b, c, d, e, f, g, i, j, k, m].drop 1).take (Tryd.prog.cellsOf 3)) n1 := h1
  rw [c3] at h1
  replace h2 : OpensB Tryd.prog w 3 (([a, b, c, d, e, f, g, i, j, k, m].drop 2).take (Tryd.prog.cellsOf 3)) n2 := h2
  rw [c3] at h2
  replace h3 : OpensB Tryd.prog w 24 (([a, b, c, d, e, f, g, i, j, k, m].drop 3).take (Tryd.prog.cellsOf 24)) n3 := h3
  rw [c24] at h3
  replace h4 : OpensB Tryd.prog w 25 (([a, b, c, d, e, f, g, i, j, k, m].drop 10).take (Tryd.prog.cellsOf 25)) n4 := h4
  rw [c25] at h4
  simp only [List.getElem?_cons_zero, List.getElem?_cons_succ, Option.some.injEq] at e0 e1 e2 e3 e4
  subst e0 e1 e2 e3 e4
  have o0 := h0.one; have o1 := h1.one; have o2 := h2.one; have o3 := h3.one; have o4 := h4.one
  simp only [List.sum_cons, List.sum_nil] at hsum
  obtain ⟨k0, q0, z0⟩ := h0.opens.int Tryd.underlying3
  obtain ⟨k1, q1, z1⟩ := h1.opens.int Tryd.underlying3
  obtain ⟨k2, q2, z2⟩ := h2.opens.int Tryd.underlying3
  obtain ⟨x, dv, q3, d3, ok3, sm3, g3⟩ := call_open (by omega) h3
  obtain ⟨kv, l, q4, z4, l4, i4⟩ := h4.ints
  simp [CallP.cells] at q0 q1 q2 q3 q4
  obtain ⟨r0, r1, r2, r3, r4, r5, r6⟩ := q3
  subst q0 q1 q2 q4 r0 r1 r2 r3 r4 r5 r6
  exact ⟨⟨k0, k1, k2, x, l⟩, _, _, rfl, d3, z4, ⟨wf_i64 z0, wf_i64 z1, wf_i64 z2, ok3, i4, by simp only; omega⟩, ⟨⟨by have := sm3.path; simp only; omega, by have := sm3.other; simp only; omega, by have := sm3.data; simp only; omega⟩, by simp only; omega⟩, by omega⟩
end Go.Proofs.YtpdnfcgdcndhpaaDoor
