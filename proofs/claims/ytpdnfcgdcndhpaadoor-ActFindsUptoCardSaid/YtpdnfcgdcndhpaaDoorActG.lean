/- An act as a line. -/
import Derived.Test.YtpdnfcgdcndhpaaDoorActF
set_option linter.unusedSimpArgs false
set_option linter.unusedVariables false
namespace Go.Proofs.YtpdnfcgdcndhpaaDoor
open Go.RowKit

attribute [local go_sem ↓] Go.wp_at_zero Go.wp_at_succ
theorem textP_len (s : Str) : (textP s).length ≤ 3 * s.length + 1 := by
  unfold textP
  have := (encS_len s).2
  split
  · simp
  · omega
theorem untextP_len (s : Str) : (untextP s).length ≤ s.length := by
  unfold untextP
  split
  · simp
  · exact untP_len _ s (Nat.le_refl _)
/-- The length of words, each with one letter behind it. -/
def tot : List Str → Nat
  | [] => 0
  | s :: l => s.length + 1 + tot l
theorem tot_app (a b : List Str) : tot (a ++ b) = tot a + tot b := by
  induction a with
  | nil => simp [tot]
  | cons s a ih => simp only [List.cons_append, tot, ih]; omega
theorem jnW_len (l : List Str) : (jnW l).length ≤ tot l := by
  cases l with
  | nil => exact Nat.le_refl _
  | cons s l =>
    have h : ∀ (l : List Str) (s : Str), (jnW (s :: l)).length ≤ s.length + tot l := by
      intro l
      induction l with
      | nil => intro s; simp [jnW, Lib.join, tot, List.intercalate]
      | cons t l ih =>
        intro s
        have e : jnW (s :: t :: l) = s ++ [32] ++ jnW (t :: l) := by simp [jnW, Lib.join, List.intercalate, List.intersperse]
        have := ih t
        rw [e, List.length_append, List.length_append]
        simp only [tot, List.length_singleton]
        omega
    have := h l s
    simp only [tot]
    omega
theorem mem_tot {s : Str} {l : List Str} (h : s ∈ l) : s.length + 1 ≤ tot l := by
  induction l with
  | nil => cases h
  | cons a l ih =>
    simp only [tot]
    rcases List.mem_cons.1 h with rfl | h
    · omega
    · have := ih h; omega
theorem len_tot (l : List Str) : l.length ≤ tot l := by
  induction l with
  | nil => exact Nat.le_refl _
  | cons a l ih => simp only [tot, List.length_cons]; omega
structure SmallC (x : CallP) (L : Nat) : Prop where
  path : x.path.length ≤ L
  other : x.other.length ≤ L
  data : x.data.length ≤ L
structure SmallA (x : ActP) (L : Nat) : Prop where
  call : SmallC x.call L
  keep : x.keep.length ≤ L
theorem fieldW_tot (x : CallP) (L : Nat) (h : CallOk x) (hs : SmallC x L) (c : UInt8) : tot (fieldW x c) ≤ 3 * L + 22 := by
  have h1 := textP_len x.path; have h2 := textP_len x.other; have h3 := textP_len x.data
  have g1 := hs.path; have g2 := hs.other; have g3 := hs.data
  have i1 := itoa_len x.file h.file.1 h.file.2; have i2 := itoa_len x.at_ h.at_.1 h.at_.2; have i3 := itoa_len x.size h.size.1 h.size.2
  unfold fieldW
  repeat' split
  all_goals (simp only [tot]; omega)
theorem flat_tot {α : Type} (g : α → List Str) (N : Nat) (hg : ∀ c, tot (g c) ≤ N) : ∀ l : List α, tot (l.flatMap g) ≤ l.length * N
  | [] => by simp [tot]
  | c :: l => by
    rw [List.flatMap_cons, tot_app, List.length_cons, Nat.add_mul]
    have := flat_tot g N hg l
    have := hg c
    omega
theorem kind_word {T : List KR} (h : (T.all fun r => decide (r.word.length ≤ 8)) = true) (k : Int) : (kindOf T k).word.length ≤ 8 := by
  unfold kindOf
  cases hf : T.find? (fun r => r.k == k) with
  | none => simp
  | some q => exact of_decide_eq_true (List.all_eq_true.1 h q (List.mem_of_find?_eq_some hf))
theorem wordsP_tot (x : CallP) (L : Nat) (h : CallOk x) (hs : SmallC x L) : tot (wordsP x) ≤ 8 * (3 * L + 22) + 9 := by
  unfold wordsP
  have h1 := flat_tot (fieldW x) _ (fieldW_tot x L h hs) (kindOf callT x.kind).has
  have h2 : (kindOf callT x.kind).has.length * (3 * L + 22) ≤ 8 * (3 * L + 22) := Nat.mul_le_mul_right _ (ascii_kc x.kind).2
  have h3 : (kindOf callT x.kind).word.length ≤ 8 := kind_word (by decide +kernel) x.kind
  simp only [tot]
  omega
theorem itoas_tot : ∀ (l : List Int), (∀ k ∈ l, I64 k) → tot (l.map Lib.itoa) ≤ 22 * l.length
  | [], _ => by simp [tot]
  | k :: l, h => by
    have hk := h k (by simp)
    have := itoa_len k hk.1 hk.2
    have := itoas_tot l (fun k hk => h k (by simp [hk]))
    simp only [List.map_cons, tot, List.length_cons]
    omega
theorem fieldA_tot (x : ActP) (L : Nat) (h : ActOk x) (hs : SmallA x L) (c : UInt8) : tot (fieldA x c) ≤ 46 * L + 200 := by
  have h1 := wordsP_tot x.call L h.call hs.call
  have h2 := itoas_tot x.keep h.keep
  have g := hs.keep
  have i1 := itoa_len x.a h.a.1 h.a.2; have i2 := itoa_len x.n h.n.1 h.n.2
  unfold fieldA
  repeat' split
  all_goals ((try simp only [tot]); omega)
theorem writeP_tot (x : ActP) (L : Nat) (h : ActOk x) (hs : SmallA x L) : tot (writeP x) ≤ 368 * L + 1700 := by
  unfold writeP
  have h1 := flat_tot (fieldA x) _ (fieldA_tot x L h hs) (kindOf actT x.kind).has
  have h2 : (kindOf actT x.kind).has.length * (46 * L + 200) ≤ 8 * (46 * L + 200) := Nat.mul_le_mul_right _ (ascii_ka x.kind).2
  have h3 : (kindOf actT x.kind).word.length ≤ 8 := kind_word (by decide +kernel) x.kind
  simp only [tot]
  omega
theorem ActOk.small {x : ActP} (h : ActOk x) : SmallA x 10000000000 := ⟨⟨h.call.path, h.call.other, h.call.data⟩, h.len⟩
theorem writeP_ne (x : ActP) : writeP x ≠ [] := by unfold writeP; simp
/-- What is read out of words is no longer than they are. -/
theorem headD_le {N : Nat} {ws : List Str} (h : ∀ s ∈ ws, s.length ≤ N) : (ws.headD []).length ≤ N := by
  cases ws with
  | nil => simp
  | cons a l => exact h a (by simp)
theorem callR_in {N : Nat} (ws : List Str) (h : ∀ s ∈ ws, s.length ≤ N) : SmallC (callR ws).1 N ∧ I64 (callR ws).1.file ∧ I64 (callR ws).1.at_ ∧ I64 (callR ws).1.size ∧ (∀ s ∈ (callR ws).2, s.length ≤ N) ∧ (callR ws).1.kind = (findP callT (ws.headD [])).k := by
  have z : I64 0 := ⟨by omega, by omega⟩
  have hh : ∀ (l : Str) (p : CallP × List Str), SmallC p.1 N → I64 p.1.file → I64 p.1.at_ → I64 p.1.size → (∀ s ∈ p.2, s.length ≤ N) →
      SmallC (l.foldl stepC p).1 N ∧ I64 (l.foldl stepC p).1.file ∧ I64 (l.foldl stepC p).1.at_ ∧ I64 (l.foldl stepC p).1.size ∧ (∀ s ∈ (l.foldl stepC p).2, s.length ≤ N) ∧ (l.foldl stepC p).1.kind = p.1.kind := by
    intro l
    induction l with
    | nil => intro p a b c d e; exact ⟨a, b, c, d, e, rfl⟩
    | cons c l ih =>
      intro p h1 h2 h3 h4 h5
      rw [List.foldl_cons]
      have hd := headD_le h5
      have hu := untextP_len (p.2.headD [])
      have hn := numP_in (p.2.headD [])
      have ht : ∀ s ∈ p.2.tail, s.length ≤ N := fun s hs => h5 s (List.mem_of_mem_tail hs)
      have hk : (stepC p c).1.kind = p.1.kind := by unfold stepC; repeat' split
                                                    all_goals rfl
      rw [← hk]
      unfold stepC
      split
      · exact ih _ ⟨by show (untextP _).length ≤ _; omega, h1.other, h1.data⟩ h2 h3 h4 ht
      split
      · exact ih _ ⟨h1.path, by show (untextP _).length ≤ _; omega, h1.data⟩ h2 h3 h4 ht
      split
      · exact ih _ ⟨h1.path, h1.other, h1.data⟩ hn h3 h4 ht
      split
      · exact ih _ ⟨h1.path, h1.other, h1.data⟩ h2 hn h4 ht
      split
      · exact ih _ ⟨h1.path, h1.other, h1.data⟩ h2 h3 hn ht
      split
      · exact ih _ ⟨h1.path, h1.other, by show (untextP _).length ≤ _; omega⟩ h2 h3 h4 ht
      · exact ih _ h1 h2 h3 h4 h5
  exact hh _ (CallP.new (findP callT (ws.headD [])).k, ws.tail) ⟨Nat.zero_le _, Nat.zero_le _, Nat.zero_le _⟩ z z z (fun s hs => h s (List.mem_of_mem_tail hs))
theorem findP_k {T : List KR} (h : (T.all fun r => decide (0 ≤ r.k ∧ r.k ≤ 100)) = true) (s : Str) : I64 (findP T s).k := by
  unfold findP
  cases hf : T.find? (fun r => r.word == s) with
  | none => exact ⟨by decide, by decide⟩
  | some q =>
    have := of_decide_eq_true (List.all_eq_true.1 h q (List.mem_of_find?_eq_some hf))
    exact ⟨by show _ ≤ q.k; omega, by show q.k ≤ _; omega⟩
theorem actR_in {N : Nat} (ws : List Str) (h : ∀ s ∈ ws, s.length ≤ N) (hN : N ≤ 10000000000) (hw : ws.length ≤ 10000000000) : ActOk (actR ws).1 ∧ SmallA (actR ws).1 (max N ws.length) := by
  have z : I64 0 := ⟨by omega, by omega⟩
  have hh : ∀ (l : Str) (p : ActP × List Str), I64 p.1.kind → I64 p.1.a → I64 p.1.n → CallOk p.1.call → SmallC p.1.call N → (∀ k ∈ p.1.keep, I64 k) → p.1.keep.length + p.2.length ≤ ws.length → (∀ s ∈ p.2, s.length ≤ N) →
      ActOk (l.foldl stepA p).1 ∧ SmallC (l.foldl stepA p).1.call N ∧ (l.foldl stepA p).1.keep.length ≤ ws.length := by
    intro l
    induction l with
    | nil => intro p a1 a2 a3 a4 a5 a6 a7 a8; exact ⟨⟨a1, a2, a3, a4, a6, by show p.1.keep.length ≤ _; omega⟩, a5, by show p.1.keep.length ≤ _; omega⟩
    | cons c l ih =>
      intro p a1 a2 a3 a4 a5 a6 a7 a8
      rw [List.foldl_cons]
      have hn := numP_in (p.2.headD [])
      have ht : ∀ s ∈ p.2.tail, s.length ≤ N := fun s hs => a8 s (List.mem_of_mem_tail hs)
      have hl : p.2.tail.length ≤ p.2.length := by rw [List.length_tail]; omega
      unfold stepA
      split
      · exact ih _ a1 hn a3 a4 a5 a6 (show p.1.keep.length + p.2.tail.length ≤ ws.length by omega) ht
      split
      · exact ih _ a1 a2 hn a4 a5 a6 (show p.1.keep.length + p.2.tail.length ≤ ws.length by omega) ht
      split
      · obtain ⟨c1, c2, c3, c4, c5, c6⟩ := callR_in p.2 a8
        have hc := callR_len p.2
        exact ih _ a1 a2 a3 ⟨by rw [c6]; exact findP_k (by decide +kernel) _, c2, c3, c4, Nat.le_trans c1.path hN, Nat.le_trans c1.other hN, Nat.le_trans c1.data hN⟩ c1 a6 (show p.1.keep.length + (callR p.2).2.length ≤ ws.length by omega) c5
      split
      · refine ih _ a1 a2 a3 a4 a5 (fun k hk => ?_) ?_ (by simp)
        · rcases List.mem_append.1 hk with hk | hk
          · exact a6 k hk
          · obtain ⟨s, _, rfl⟩ := List.mem_map.1 hk
            exact numP_in s
        · show (p.1.keep ++ p.2.map numP).length + 0 ≤ _
          rw [List.length_append, List.length_map]
          omega
      · exact ih _ a1 a2 a3 a4 a5 a6 a7 a8
  have hl : ws.tail.length ≤ ws.length := by rw [List.length_tail]; omega
  have := hh (findP actT (ws.headD [])).has (ActP.new (findP actT (ws.headD [])).k, ws.tail) (findP_k (by decide +kernel) _) z z ⟨z, z, z, z, Nat.zero_le _, Nat.zero_le _, Nat.zero_le _⟩ ⟨Nat.zero_le _, Nat.zero_le _, Nat.zero_le _⟩ (by simp [ActP.new]) (by simp only [ActP.new, List.length_nil]; omega) (fun s hs => h s (List.mem_of_mem_tail hs))
  exact ⟨this.1, ⟨⟨by have := this.2.1.path; show (actR ws).1.call.path.length ≤ _; unfold actR; omega, by have := this.2.1.other; show (actR ws).1.call.other.length ≤ _; unfold actR; omega, by have := this.2.1.data; show (actR ws).1.call.data.length ≤ _; unfold actR; omega⟩, by have := this.2.2; show (actR ws).1.keep.length ≤ _; unfold actR; omega⟩⟩
theorem actR_small {N : Nat} (ws : List Str) (h : ∀ s ∈ ws, s.length ≤ N) : (actR ws).1.call.data.length ≤ N ∧ (actR ws).1.keep.length ≤ ws.length := by
  have hh : ∀ (l : Str) (p : ActP × List Str), p.1.call.data.length ≤ N → p.1.keep.length + p.2.length ≤ ws.length → (∀ s ∈ p.2, s.length ≤ N) →
      (l.foldl stepA p).1.call.data.length ≤ N ∧ (l.foldl stepA p).1.keep.length ≤ ws.length := by
    intro l
    induction l with
    | nil => intro p a5 a7 a8; exact ⟨a5, by show p.1.keep.length ≤ _; omega⟩
    | cons c l ih =>
      intro p a5 a7 a8
      rw [List.foldl_cons]
      have ht : ∀ s ∈ p.2.tail, s.length ≤ N := fun s hs => a8 s (List.mem_of_mem_tail hs)
      have hl : p.2.tail.length ≤ p.2.length := by rw [List.length_tail]; omega
      unfold stepA
      split
      · exact ih _ a5 (show p.1.keep.length + p.2.tail.length ≤ ws.length by omega) ht
      split
      · exact ih _ a5 (show p.1.keep.length + p.2.tail.length ≤ ws.length by omega) ht
      split
      · obtain ⟨c1, _, _, _, c5, _⟩ := callR_in p.2 a8
        have hc := callR_len p.2
        exact ih _ c1.data (show p.1.keep.length + (callR p.2).2.length ≤ ws.length by omega) c5
      split
      · refine ih _ a5 ?_ (by simp)
        show (p.1.keep ++ p.2.map numP).length + 0 ≤ _
        rw [List.length_append, List.length_map]
        omega
      · exact ih _ a5 a7 a8
  have hl : ws.tail.length ≤ ws.length := by rw [List.length_tail]; omega
  exact hh (findP actT (ws.headD [])).has (ActP.new (findP actT (ws.headD [])).k, ws.tail) (Nat.zero_le _) (by simp only [ActP.new, List.length_nil]; omega) (fun s hs => h s (List.mem_of_mem_tail hs))
def okP (x : ActP) : Bool := knownP x && decide ((actR (writeP x)).1 = x)
def lineS (x : ActP) : Str := if okP x then jnW (writeP x) else []
def lineE (x : ActP) : Int := if okP x then 0 else 1
theorem rds_box {B : Nat} {w : World} {ws : List Str} {A : Option Addr} {c : Nat} (h : w.ownsRow 0 9 1 (.slice A ws.length c) ws.length (strs ws)) (hne : ws ≠ []) :
    RDs w.heap.size ws (w.alloc (.cells #[.slice A ws.length c] 55)) := by
  have h0 : 0 < ws.length := List.length_pos_iff.2 hne
  obtain ⟨g, cap, cur, e, hg, hc, hm, _⟩ := own_form h h0
  injection e with e1 _ e2
  subst e1 e2
  refine ⟨g, 0, c, blk_new w _, fun j x hx => ?_, fun e => by have := blk_lt hg; omega, ⟨cur, (0, 0), blk_old hg _⟩, hc, by unfold maxLen at hm; omega⟩
  have := h.cells (g := g) rfl j _ (strs_get hx)
  rw [Addr.add_lit] at this
  exact ((Keep.refl (fun _ => False) w).alloc _).cell this id
set_option maxRecDepth 100000 in
set_option maxHeartbeats 8000000 in
theorem line_walk {B : Nat} (x : ActP) (dv kv : Value) (w : World) (hx : ActOk x) (hw : WV B w) (hd : DataR w dv x.call.data) (hk : KeepR w kv x.keep) :
    Calls Tryd.prog 9 #[.agg (x.cells dv kv)] w fun e w' => e = .returned (.tuple #[.string ⟨(lineS x).toArray⟩, .int .i64 (lineE x)]) ∧ Below w.heap.size w w' := by
  obtain ⟨DA, dc, rfl, hsl⟩ := hd
  obtain ⟨KA, kc, rfl, hkl⟩ := hk
  have HSL := Lib.hid hsl
  have HKL := Lib.hid hkl
  have HX := Lib.hid hx
  have HV := Lib.hid hw
  have hwt := writeP_tot x _ hx hx.small
  have hjl := jnW_len (writeP x)
  have hln := len_tot (writeP x)
  have hlw := writeP_len x hx.len
  have hmt := fun s hs => mem_tot (s := s) (l := writeP x) hs
  have HNE := Lib.hid (writeP_ne x)
  have HLS := Lib.hid (show lineS x = if okP x then jnW (writeP x) else [] from rfl)
  have HLE := Lib.hid (show lineE x = if okP x then 0 else 1 from rfl)
  have HOK := Lib.hid (show okP x = (knownP x && decide ((actR (writeP x)).1 = x)) from rfl)
  obtain ⟨b, hb⟩ : ∃ b, b = w.alloc (.cells (x.cells (.slice DA x.call.data.length dc) (.slice KA x.keep.length kc)) 27) := ⟨_, rfl⟩
  have hbx : b.heap[w.heap.size]? = some (.cells (x.cells (.slice DA x.call.data.length dc) (.slice KA x.keep.length kc)) 27 (0, 0)) := by rw [hb]; exact blk_new w _
  have hbb : Below w.heap.size w b := by rw [hb]; exact (Below.refl _ w).alloc (Nat.le_refl _) _
  have HB := Lib.hid hbb
  have zb := blk_lt hbx
  have bX := blk_cells hbx
  have HBX := Lib.hid hbx
  have k0 : b.cell? ⟨w.heap.size, 0, none⟩ = some (.int .i64 x.kind) := (bX 0).trans rfl
  have k1 : b.cell? ⟨w.heap.size, 1, none⟩ = some (.int .i64 x.a) := (bX 1).trans rfl
  have k2 : b.cell? ⟨w.heap.size, 2, none⟩ = some (.int .i64 x.n) := (bX 2).trans rfl
  have k3 : b.cell? ⟨w.heap.size, 3, none⟩ = some (.int .i64 x.call.kind) := (bX 3).trans rfl
  have k4 : b.cell? ⟨w.heap.size, 4, none⟩ = some (.string ⟨x.call.path.toArray⟩) := (bX 4).trans rfl
  have k5 : b.cell? ⟨w.heap.size, 5, none⟩ = some (.string ⟨x.call.other.toArray⟩) := (bX 5).trans rfl
  have k6 : b.cell? ⟨w.heap.size, 6, none⟩ = some (.int .i64 x.call.file) := (bX 6).trans rfl
  have k7 : b.cell? ⟨w.heap.size, 7, none⟩ = some (.int .i64 x.call.at_) := (bX 7).trans rfl
  have k8 : b.cell? ⟨w.heap.size, 8, none⟩ = some (.int .i64 x.call.size) := (bX 8).trans rfl
  have k9 : b.cell? ⟨w.heap.size, 9, none⟩ = some (.slice DA x.call.data.length dc) := (bX 9).trans rfl
  have k10 : b.cell? ⟨w.heap.size, 10, none⟩ = some (.slice KA x.keep.length kc) := (bX 10).trans rfl
  have HWW := Lib.hid (write_walk x (.slice DA x.call.data.length dc) (.slice KA x.keep.length kc) b hx (hw.below hbb) ⟨DA, dc, rfl, hsl.below hbb⟩ ⟨KA, kc, rfl, hkl.below hbb⟩)
  have HKN := Lib.hid (fun W => known_walk x (.slice DA x.call.data.length dc) (.slice KA x.keep.length kc) W hx.kind hx.call.kind)
  obtain ⟨ws, hws⟩ : ∃ ws, ws = writeP x := ⟨_, rfl⟩
  obtain ⟨p, hp⟩ : ∃ p, p = knownP x := ⟨_, rfl⟩
  rw [← hws] at HWW HNE HLS HOK hjl hwt hln hmt hlw
  rw [← hp] at HKN HOK
  have HMT := Lib.hid hmt
  obtain ⟨q, hq⟩ : ∃ q, q = decide ((actR ws).1 = x) := ⟨_, rfl⟩
  have hys := actR_small ws (fun s hs => hmt s hs |> Nat.le_of_succ_le |> fun h => Nat.le_trans h hwt)
  have HEQ := Lib.hid (fun ew mw W (h1 : DataR W ew (actR ws).1.call.data) (h2 : KeepR W mw (actR ws).1.keep) (hb : Below w.heap.size w W) => show Calls Tryd.prog 21 #[.agg ((actR ws).1.cells ew mw), .agg (x.cells (.slice DA x.call.data.length dc) (.slice KA x.keep.length kc))] W fun e w' => e = .returned (.bool q) ∧ Below W.heap.size W w' from by
    have := equal_walk (actR ws).1 x ew mw (.slice DA x.call.data.length dc) (.slice KA x.keep.length kc) W h1 ⟨DA, dc, rfl, HSL.out.below hb⟩ h2 ⟨KA, kc, rfl, HKL.out.below hb⟩ (by have := hys.1; omega) (by have := HX.out.call.data; omega) (by have := hys.2; omega) (by have := HX.out.len; omega)
    rw [← hq] at this
    exact this)
  rw [← hq] at HOK
  unfold ActP.cells at hb HWW HKN ⊢
  have HBE := Lib.hid hb
  clear hsl hkl hx hw hb hbx hbb bX hws hp hmt hq hys
  go_enter Tryd.func9, Tryd.ntmps9
  go_upto_region 1 with fail
  rw [← HBE.out]
  go_wp2_with fail
  refine HWW.out.mono ?_
  rintro e W1 ⟨YA, yc, rfl, hyo, hyf, hb1⟩
  have HYO := Lib.hid hyo
  have B1 := Lib.hid (HB.out.trans (hb1.mono HB.out.size))
  have HR := Lib.hid (rds_box (B := B) hyo HNE.out)
  have b0X := (Keep.of_below (S := fun _ => False) hb1).blk HBX.out id
  have z1 := hb1.size
  clear hyo hyf hb1
  clear k0 k1 k2 k3 k4 k5 k6 k7 k8 k9 k10
  go_upto_region 3 with fail
  obtain ⟨W2, hW2⟩ : ∃ W2, W2 = W1.alloc (.cells #[.slice YA ws.length yc] 55) := ⟨_, rfl⟩
  rw [← hW2] at HR ⊢
  have hb2 : Below W1.heap.size W1 W2 := by rw [hW2]; exact (Below.refl _ W1).alloc (Nat.le_refl _) _
  have B2 := Lib.hid (B1.out.trans (hb2.mono (by omega)))
  have HBX2 := Lib.hid ((Keep.of_below (S := fun _ => False) hb2).blk b0X id)
  have HYO2 := Lib.hid (own_keep HYO.out (Keep.of_below (S := fun _ => False) hb2) (fun _ _ h => h))
  have HYR := Lib.hid (fun e => Nat.lt_irrefl _ (own_lt HYO.out e) : ¬ (Value.slice YA ws.length yc).ownBlock = some W1.heap.size)
  have z2 : W1.heap.size < W2.heap.size := by rw [hW2]; simp
  have HSH : Hid (Short ws) := Lib.hid (fun s hs => by have := HMT.out s hs; omega)
  have HS := Lib.hid (fun (w' : World) (k : Keep (fun k => k = W1.heap.size) W2 w') => (show w'.cell? ⟨w.heap.size, 0, none⟩ = some (.int .i64 x.kind) ∧ w'.cell? ⟨w.heap.size, 1, none⟩ = some (.int .i64 x.a) ∧ w'.cell? ⟨w.heap.size, 2, none⟩ = some (.int .i64 x.n) ∧ w'.cell? ⟨w.heap.size, 3, none⟩ = some (.int .i64 x.call.kind) ∧ w'.cell? ⟨w.heap.size, 4, none⟩ = some (.string ⟨x.call.path.toArray⟩) ∧ w'.cell? ⟨w.heap.size, 5, none⟩ = some (.string ⟨x.call.other.toArray⟩) ∧ w'.cell? ⟨w.heap.size, 6, none⟩ = some (.int .i64 x.call.file) ∧ w'.cell? ⟨w.heap.size, 7, none⟩ = some (.int .i64 x.call.at_) ∧ w'.cell? ⟨w.heap.size, 8, none⟩ = some (.int .i64 x.call.size) ∧ w'.cell? ⟨w.heap.size, 9, none⟩ = some (.slice DA x.call.data.length dc) ∧ w'.cell? ⟨w.heap.size, 10, none⟩ = some (.slice KA x.keep.length kc) from by
    have b := blk_cells (k.blk HBX2.out (fun e => by omega))
    exact ⟨(b 0).trans rfl, (b 1).trans rfl, (b 2).trans rfl, (b 3).trans rfl, (b 4).trans rfl, (b 5).trans rfl, (b 6).trans rfl, (b 7).trans rfl, (b 8).trans rfl, (b 9).trans rfl, (b 10).trans rfl⟩))
  clear b0X hW2 hb2
  obtain ⟨r, hr⟩ : ∃ r, r = W1.heap.size := ⟨_, rfl⟩
  rw [← hr] at HR HYR HS ⊢
  have hrB : B ≤ r := by have := HV.out.le; have := B1.out.size; omega
  have hrw : w.heap.size < r := by omega
  have hr2 : r < W2.heap.size := by omega
  clear hr z1 z2
  cases p with
  | false =>
    have HO2 := Lib.hid (show okP x = false by rw [HOK.out]; rfl)
    refine wp_region_held_drew (S := fun w' => w'.cell? ⟨w.heap.size, 0, none⟩ = some (.int .i64 x.kind) ∧ w'.cell? ⟨w.heap.size, 1, none⟩ = some (.int .i64 x.a) ∧ w'.cell? ⟨w.heap.size, 2, none⟩ = some (.int .i64 x.n) ∧ w'.cell? ⟨w.heap.size, 3, none⟩ = some (.int .i64 x.call.kind) ∧ w'.cell? ⟨w.heap.size, 4, none⟩ = some (.string ⟨x.call.path.toArray⟩) ∧ w'.cell? ⟨w.heap.size, 5, none⟩ = some (.string ⟨x.call.other.toArray⟩) ∧ w'.cell? ⟨w.heap.size, 6, none⟩ = some (.int .i64 x.call.file) ∧ w'.cell? ⟨w.heap.size, 7, none⟩ = some (.int .i64 x.call.at_) ∧ w'.cell? ⟨w.heap.size, 8, none⟩ = some (.int .i64 x.call.size) ∧ w'.cell? ⟨w.heap.size, 9, none⟩ = some (.slice DA x.call.data.length dc) ∧ w'.cell? ⟨w.heap.size, 10, none⟩ = some (.slice KA x.keep.length kc)) (by kernel_rfl) ?_ (fun hHeld => ?_)
    · exact HS.out _ ((Keep.refl (fun k => k = r) W2).drew)
    refine wpAnyH_take (i := 0) (oi := ?oi0) (v := ?v0) ?hi0 (by kernel_rfl) (by kernel_rfl) (by kernel_rfl) ?hQ0 ?hy0 (by assumption) ?rest0
    case hi0 => (simp only [List.getElem?_toArray, List.getElem?_cons_succ, List.getElem?_cons_zero]; rfl)
    case hy0 => (refine Or.inl ⟨by rfl, ?_⟩; intro w hSw; (try dsimp only at hSw); go_simp; try with_reducible rfl)
    case hQ0 => exact fun _ _ _ h => h
    case' rest0 => try simp only [Act.put, List.setIfInBounds_toArray, List.set_cons_zero, List.set_cons_succ]
    refine wpAnyH_ready (rs := [1]) (by kernel_rfl) (by simp) ?_
    refine AllReadyH.cons (o := ?o1) ?ho1 (fun K hK => ?st1) AllReadyH.nil
    case ho1 => (simp only [List.getElem?_toArray, List.getElem?_cons_succ, List.getElem?_cons_zero]; rfl)
    go_simp
    ((go_at_call 20; refine (HKN.out _).mono ?_; rintro e W3 ⟨rfl, hb3⟩; have k3 := Lib.hid ((Keep.refl (fun k => k = r) W2).drew.trans (Keep.of_below (S := fun k => k = r) hb3) (fun _ _ h => h)); have B3 := Lib.hid (B2.out.drew.trans (hb3.mono (by show w.heap.size ≤ W2.heap.size; omega))); clear hb3))
    go_wp2_with fail
    refine hK.out _ _ ?_ (fun hHeld => ?_)
    · exact HS.out _ k3.out
    clear hK K
    try simp only [Act.put, List.setIfInBounds_toArray, List.set_cons_zero, List.set_cons_succ]
    refine wpAnyH_take (i := 2) (oi := ?oi2) (v := ?v2) ?hi2 (by kernel_rfl) (by kernel_rfl) (by kernel_rfl) ?hQ2 ?hy2 (by assumption) ?rest2
    case hi2 => (simp only [List.getElem?_toArray, List.getElem?_cons_succ, List.getElem?_cons_zero]; rfl)
    case hy2 => (refine Or.inl ⟨by rfl, ?_⟩; intro w hSw; (try dsimp only at hSw); go_simp; try with_reducible rfl)
    case hQ2 => exact fun _ _ _ h => h
    case' rest2 => try simp only [Act.put, List.setIfInBounds_toArray, List.set_cons_zero, List.set_cons_succ]
    refine wpAnyH_take (i := 3) (oi := ?oi3) (v := ?v3) ?hi3 (by kernel_rfl) (by kernel_rfl) (by kernel_rfl) ?hQ3 ?hy3 (by assumption) ?rest3
    case hi3 => (simp only [List.getElem?_toArray, List.getElem?_cons_succ, List.getElem?_cons_zero]; rfl)
    case hy3 => (refine Or.inl ⟨by rfl, ?_⟩; intro w hSw; (try dsimp only at hSw); go_simp; try with_reducible rfl)
    case hQ3 => exact fun _ _ _ h => h
    case' rest3 => try simp only [Act.put, List.setIfInBounds_toArray, List.set_cons_zero, List.set_cons_succ]
    refine wpAnyH_take (i := 4) (oi := ?oi4) (v := undef) ?hi4 (by kernel_rfl) (by kernel_rfl) (by kernel_rfl) ?hQ4 ?hy4 (by assumption) ?rest4
    case hi4 => (simp only [List.getElem?_toArray, List.getElem?_cons_succ, List.getElem?_cons_zero]; rfl)
    case hy4 => exact Or.inr ⟨by rfl, rfl⟩
    case hQ4 => exact fun _ _ _ h => h
    case' rest4 => try simp only [Act.put, List.setIfInBounds_toArray, List.set_cons_zero, List.set_cons_succ]
    refine wpAnyH_take (i := 5) (oi := ?oi5) (v := undef) ?hi5 (by kernel_rfl) (by kernel_rfl) (by kernel_rfl) ?hQ5 ?hy5 (by assumption) ?rest5
    case hi5 => (simp only [List.getElem?_toArray, List.getElem?_cons_succ, List.getElem?_cons_zero]; rfl)
    case hy5 => exact Or.inr ⟨by rfl, rfl⟩
    case hQ5 => exact fun _ _ _ h => h
    case' rest5 => try simp only [Act.put, List.setIfInBounds_toArray, List.set_cons_zero, List.set_cons_succ]
    refine wpAnyH_take (i := 6) (oi := ?oi6) (v := undef) ?hi6 (by kernel_rfl) (by kernel_rfl) (by kernel_rfl) ?hQ6 ?hy6 (by assumption) ?rest6
    case hi6 => (simp only [List.getElem?_toArray, List.getElem?_cons_succ, List.getElem?_cons_zero]; rfl)
    case hy6 => exact Or.inr ⟨by rfl, rfl⟩
    case hQ6 => exact fun _ _ _ h => h
    case' rest6 => try simp only [Act.put, List.setIfInBounds_toArray, List.set_cons_zero, List.set_cons_succ]
    refine wpAnyH_take (i := 7) (oi := ?oi7) (v := undef) ?hi7 (by kernel_rfl) (by kernel_rfl) (by kernel_rfl) ?hQ7 ?hy7 (by assumption) ?rest7
    case hi7 => (simp only [List.getElem?_toArray, List.getElem?_cons_succ, List.getElem?_cons_zero]; rfl)
    case hy7 => exact Or.inr ⟨by rfl, rfl⟩
    case hQ7 => exact fun _ _ _ h => h
    case' rest7 => try simp only [Act.put, List.setIfInBounds_toArray, List.set_cons_zero, List.set_cons_succ]
    refine wpAnyH_take (i := 8) (oi := ?oi8) (v := undef) ?hi8 (by kernel_rfl) (by kernel_rfl) (by kernel_rfl) ?hQ8 ?hy8 (by assumption) ?rest8
    case hi8 => (simp only [List.getElem?_toArray, List.getElem?_cons_succ, List.getElem?_cons_zero]; rfl)
    case hy8 => exact Or.inr ⟨by rfl, rfl⟩
    case hQ8 => exact fun _ _ _ h => h
    case' rest8 => try simp only [Act.put, List.setIfInBounds_toArray, List.set_cons_zero, List.set_cons_succ]
    refine wpAnyH_take (i := 9) (oi := ?oi9) (v := ?v9) ?hi9 (by kernel_rfl) (by kernel_rfl) (by kernel_rfl) ?hQ9 ?hy9 (by assumption) ?rest9
    case hi9 => (simp only [List.getElem?_toArray, List.getElem?_cons_succ, List.getElem?_cons_zero]; rfl)
    case hy9 => (refine Or.inl ⟨by rfl, ?_⟩; intro w hSw; (try dsimp only at hSw); go_simp; try with_reducible rfl)
    case hQ9 => exact fun _ _ _ h => h
    case' rest9 => try simp only [Act.put, List.setIfInBounds_toArray, List.set_cons_zero, List.set_cons_succ]
    refine wpAnyH_done (by kernel_rfl) ?_ _
    go_wp2
    go_ret2
    exact ⟨by rw [HLS.out, HLE.out, HO2.out]; rfl, B3.out⟩
  | true =>
    have HAC := Lib.hid (fun W (hr : RDs r ws W) (hv : WV B W) => act_walk r ws W hr hv hrB HSH.out (by omega))
    unfold ActP.cells at HEQ
    go_region_held3 (fun w' => w'.cell? ⟨w.heap.size, 0, none⟩ = some (.int .i64 x.kind) ∧ w'.cell? ⟨w.heap.size, 1, none⟩ = some (.int .i64 x.a) ∧ w'.cell? ⟨w.heap.size, 2, none⟩ = some (.int .i64 x.n) ∧ w'.cell? ⟨w.heap.size, 3, none⟩ = some (.int .i64 x.call.kind) ∧ w'.cell? ⟨w.heap.size, 4, none⟩ = some (.string ⟨x.call.path.toArray⟩) ∧ w'.cell? ⟨w.heap.size, 5, none⟩ = some (.string ⟨x.call.other.toArray⟩) ∧ w'.cell? ⟨w.heap.size, 6, none⟩ = some (.int .i64 x.call.file) ∧ w'.cell? ⟨w.heap.size, 7, none⟩ = some (.int .i64 x.call.at_) ∧ w'.cell? ⟨w.heap.size, 8, none⟩ = some (.int .i64 x.call.size) ∧ w'.cell? ⟨w.heap.size, 9, none⟩ = some (.slice DA x.call.data.length dc) ∧ w'.cell? ⟨w.heap.size, 10, none⟩ = some (.slice KA x.keep.length kc)) (first | exact HS.out _ ((Keep.refl (fun k => k = r) W2).drew) | exact HS.out _ k3.out | exact HS.out _ k4.out | exact HS.out _ k5.out)
      (first
        | (go_at_call 20; refine (HKN.out _).mono ?_; rintro e W3 ⟨rfl, hb3⟩; have k3 := Lib.hid ((Keep.refl (fun k => k = r) W2).drew.trans (Keep.of_below (S := fun k => k = r) hb3) (fun _ _ h => h)); have R3 := Lib.hid (HR.out.keep ((Keep.refl (fun _ => False) W2).drew.trans (Keep.of_below (S := fun _ => False) hb3) (fun _ _ h => h)) id (fun _ _ _ _ h => h)); have B3 := Lib.hid (B2.out.drew.trans (hb3.mono (by show w.heap.size ≤ W2.heap.size; omega))); clear hb3)
        | (go_at_call 22; refine (HAC.out _ R3.out (HV.out.below B3.out)).mono ?_; rintro e W4 ⟨ew, mw, rfl, hd2, hk2, _, _, hk4⟩; have k4 := Lib.hid (k3.out.trans hk4 (fun _ _ h => h)); have B4 := Lib.hid (B3.out.trans (hk4.below (fun k e => by omega) B3.out.size)); have HE2 := Lib.hid (HEQ.out ew mw W4 hd2.r hk2.r B4.out); clear hd2 hk2 hk4)
        | (go_at_call 21; refine HE2.out.mono ?_; rintro e W5 ⟨rfl, hb5⟩; have k5 := Lib.hid (k4.out.trans (Keep.of_below (S := fun k => k = r) hb5) (fun _ _ h => h)); have B5 := Lib.hid (B4.out.trans (hb5.mono B4.out.size)); clear hb5))
    all_goals
      have HJ := Lib.hid (join_any (.slice YA ws.length yc) ws W5 (own_keep HYO2.out k5.out (fun k e e2 => HYR.out (e2 ▸ e))) HNE.out (by omega) (by omega))
      cases q with
      | false =>
        have HO2 := Lib.hid (show okP x = false by rw [HOK.out]; rfl)
        go_wp2
        go_ret2
        exact ⟨by rw [HLS.out, HLE.out, HO2.out]; rfl, B5.out⟩
      | true =>
        have HO2 := Lib.hid (show okP x = true by rw [HOK.out]; rfl)
        go_wp2_with fail
        refine HJ.out.mono ?_
        rintro e W6 ⟨rfl, hb6⟩
        have B6 := Lib.hid (B5.out.trans (hb6.mono B5.out.size))
        clear hb6
        go_wp2
        go_ret2
        exact ⟨by rw [HLS.out, HLE.out, HO2.out]; rfl, B6.out⟩
end Go.Proofs.YtpdnfcgdcndhpaaDoor
