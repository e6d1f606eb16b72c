/- The law's call. -/
import Derived.Test.YtpdnfcgdcndhpaaDoorActN
set_option linter.unusedSimpArgs false
set_option linter.unusedVariables false
namespace Go.Proofs.YtpdnfcgdcndhpaaDoor
open Go.RowKit

attribute [local go_sem ↓] Go.wp_at_zero Go.wp_at_succ
def clrF (x y : CallP) (c : UInt8) : CallP :=
  if c = 112 then { y with path := x.path }
  else if c = 111 then { y with other := x.other }
  else if c = 102 then { y with file := x.file }
  else if c = 97 then { y with at_ := x.at_ }
  else if c = 115 then { y with size := x.size }
  else if c = 100 then { y with data := x.data }
  else y
/-- What a call's words say of it. -/
def clrC (x : CallP) : CallP := (kindOf callT x.kind).has.foldl (clrF x) (CallP.new x.kind)
def lcS (x : CallP) : Str := if hasK callT x.kind then jnW (wordsP x) else []
def lcB (x : CallP) : Bool := hasK callT x.kind && decide (x = clrC x)
theorem jn2 (a b : Str) : jnW [a, b] = a ++ 32 :: b := by simp [jnW, Lib.join, List.intercalate, List.intersperse]
theorem jn3 (a b c : Str) : jnW [a, b, c] = a ++ 32 :: (b ++ 32 :: c) := by simp [jnW, Lib.join, List.intercalate, List.intersperse]
theorem jn4 (a b c d : Str) : jnW [a, b, c, d] = a ++ 32 :: (b ++ 32 :: (c ++ 32 :: d)) := by simp [jnW, Lib.join, List.intercalate, List.intersperse]
theorem add_run {a b c : Str} (h : c = a ++ b) (ha : a.length ≤ 1000000000000) (hb : b.length ≤ 1000000000000) (w : World) : (Op.stringOp .add ⟨a.toArray⟩ ⟨b.toArray⟩).run Tryd.prog w = .ok (.string ⟨c.toArray⟩) w := by
  rw [run_string_add_sum w _ _ (by rw [ba_size, ba_size]; omega), ba_append, h]
theorem nokind {k : Int} (h : hasK callT k = false) : k ≠ 1 ∧ k ≠ 2 ∧ k ≠ 3 ∧ k ≠ 4 ∧ k ≠ 5 ∧ k ≠ 6 ∧ k ≠ 7 ∧ k ≠ 8 ∧ k ≠ 9 ∧ k ≠ 10 ∧ k ≠ 11 ∧ k ≠ 12 ∧ k ≠ 13 ∧ k ≠ 14 := by
  refine ⟨?_, ?_, ?_, ?_, ?_, ?_, ?_, ?_, ?_, ?_, ?_, ?_, ?_, ?_⟩
  all_goals
    rintro rfl
    exact absurd h (by decide)
theorem iskind {k : Int} (h : hasK callT k = true) : k = 1 ∨ k = 2 ∨ k = 3 ∨ k = 4 ∨ k = 5 ∨ k = 6 ∨ k = 7 ∨ k = 8 ∨ k = 9 ∨ k = 10 ∨ k = 11 ∨ k = 12 ∨ k = 13 ∨ k = 14 := by
  unfold hasK at h
  cases hf : callT.find? (fun r => r.k == k) with
  | none => rw [hf] at h; cases h
  | some r =>
    have h1 : r.k = k := by simpa using List.find?_some hf
    have h2 := List.mem_of_find?_eq_some hf
    subst h1
    simp only [callT, List.mem_cons, List.not_mem_nil, or_false] at h2
    rcases h2 with rfl | rfl | rfl | rfl | rfl | rfl | rfl | rfl | rfl | rfl | rfl | rfl | rfl | rfl <;> decide
set_option maxRecDepth 100000 in
set_option maxHeartbeats 8000000 in
theorem lcall_walk (x : CallP) (dv : Value) (w : World) (hx : CallOk x) (hd : DataR w dv x.data) :
    Calls Tryd.prog 24 #[.agg (x.cells dv)] w fun e w' => e = .returned (.tuple #[.string ⟨(lcS x).toArray⟩, .bool (lcB x)]) ∧ Below w.heap.size w w' := by
  obtain ⟨DA, dc, rfl, hds⟩ := hd
  obtain ⟨kk, pp, oo, ff, aa, ss, dd⟩ := x
  have HX := Lib.hid hx
  have HDS := Lib.hid hds
  have xp := hx.path; have xo := hx.other; have xd := hx.data
  simp only at xp xo xd hds HDS
  have HT1 := Lib.hid (fun W => ltext_walk pp W (by omega))
  have HT2 := Lib.hid (fun W => ltext_walk oo W (by omega))
  have HT3 := Lib.hid (fun W => ltext_walk dd W (by omega))
  have HN1 := Lib.hid (fun W => number_walk ff W hx.file.1 hx.file.2)
  have HN2 := Lib.hid (fun W => number_walk aa W hx.at_.1 hx.at_.2)
  have HN3 := Lib.hid (fun W => number_walk ss W hx.size.1 hx.size.2)
  have tl1 : (textP pp).length ≤ 40000000000 := by have := textP_len pp; omega
  have tl2 : (textP oo).length ≤ 40000000000 := by have := textP_len oo; omega
  have tl3 : (textP dd).length ≤ 40000000000 := by have := textP_len dd; omega
  have nl1 := itoa_len ff hx.file.1 hx.file.2; have nl2 := itoa_len aa hx.at_.1 hx.at_.2; have nl3 := itoa_len ss hx.size.1 hx.size.2
  have HLC := Lib.hid (show lcS ⟨kk, pp, oo, ff, aa, ss, dd⟩ = if hasK callT kk then jnW (wordsP ⟨kk, pp, oo, ff, aa, ss, dd⟩) else [] from rfl)
  obtain ⟨tp, htp⟩ : ∃ tp, tp = textP pp := ⟨_, rfl⟩
  obtain ⟨to_, hto⟩ : ∃ to_, to_ = textP oo := ⟨_, rfl⟩
  obtain ⟨td, htd⟩ : ∃ td, td = textP dd := ⟨_, rfl⟩
  obtain ⟨nf, hnf⟩ : ∃ nf, nf = Lib.itoa ff := ⟨_, rfl⟩
  obtain ⟨na, hna⟩ : ∃ na, na = Lib.itoa aa := ⟨_, rfl⟩
  obtain ⟨ns, hns⟩ : ∃ ns, ns = Lib.itoa ss := ⟨_, rfl⟩
  rw [← htp] at HT1 tl1
  rw [← hto] at HT2 tl2
  rw [← htd] at HT3 tl3
  rw [← hnf] at HN1 nl1
  rw [← hna] at HN2 nl2
  rw [← hns] at HN3 nl3
  obtain ⟨p6, hp6⟩ : ∃ p6, p6 = 32 :: tp := ⟨_, rfl⟩
  obtain ⟨p7, hp7⟩ : ∃ p7, p7 = 32 :: nf := ⟨_, rfl⟩
  have a6 : ∀ w, (Op.stringOp .add ⟨#[32]⟩ ⟨tp.toArray⟩).run Tryd.prog w = .ok (.string ⟨p6.toArray⟩) w := add_run (a := [32]) hp6 (by decide) (by omega)
  have a7 : ∀ w, (Op.stringOp .add ⟨#[32]⟩ ⟨nf.toArray⟩).run Tryd.prog w = .ok (.string ⟨p7.toArray⟩) w := add_run (a := [32]) hp7 (by decide) (by omega)
  have l6 : p6.length ≤ 50000000000 := by rw [hp6, List.length_cons]; omega
  have l7 : p7.length ≤ 50000000000 := by rw [hp7, List.length_cons]; omega
  have HTP := Lib.hid htp; have HTO := Lib.hid hto; have HTD := Lib.hid htd; have HNF := Lib.hid hnf; have HNA := Lib.hid hna; have HNS := Lib.hid hns; have HP6 := Lib.hid hp6; have HP7 := Lib.hid hp7
  clear htp hto htd hnf hna hns hp6 hp7
  obtain ⟨b, hb⟩ : ∃ b, b = (w.alloc (.cells #[.int .i64 kk, .string ⟨pp.toArray⟩, .string ⟨oo.toArray⟩, .int .i64 ff, .int .i64 aa, .int .i64 ss, .slice DA dd.length dc] 24)).alloc (.cells #[.int .i64 kk, .string ⟨#[]⟩, .string ⟨#[]⟩, .int .i64 0, .int .i64 0, .int .i64 0, .slice none 0 0] 24) := ⟨_, rfl⟩
  have hbb : Below w.heap.size w b := by rw [hb]; exact ((Below.refl _ w).alloc (Nat.le_refl _) _).alloc (by simp) _
  have hbx : b.heap[w.heap.size]? = some (.cells #[.int .i64 kk, .string ⟨pp.toArray⟩, .string ⟨oo.toArray⟩, .int .i64 ff, .int .i64 aa, .int .i64 ss, .slice DA dd.length dc] 24 (0, 0)) := by rw [hb]; exact blk_old (blk_new w _) _
  have hby : b.heap[w.heap.size + 1]? = some (.cells #[.int .i64 kk, .string ⟨#[]⟩, .string ⟨#[]⟩, .int .i64 0, .int .i64 0, .int .i64 0, .slice none 0 0] 24 (0, 0)) := by
    rw [hb]
    have := blk_new (w.alloc (.cells #[.int .i64 kk, .string ⟨pp.toArray⟩, .string ⟨oo.toArray⟩, .int .i64 ff, .int .i64 aa, .int .i64 ss, .slice DA dd.length dc] 24)) (.cells #[.int .i64 kk, .string ⟨#[]⟩, .string ⟨#[]⟩, .int .i64 0, .int .i64 0, .int .i64 0, .slice none 0 0] 24)
    simpa using this
  have HB := Lib.hid hbb
  have HBX := Lib.hid hbx
  have HBY := Lib.hid hby
  have HBE := Lib.hid hb
  have zb := blk_lt hby
  have HS := Lib.hid (fun (w' : World) (k : Below b.heap.size b w') => (show w'.cell? ⟨w.heap.size, 1, none⟩ = some (.string ⟨pp.toArray⟩) ∧ w'.cell? ⟨w.heap.size, 3, none⟩ = some (.int .i64 ff) from by
    have q := blk_cells ((Keep.of_below (S := fun _ => False) k).blk HBX.out id)
    exact ⟨(q 1).trans rfl, (q 3).trans rfl⟩))
  unfold CallP.cells
  clear hx hds hb hbb hbx hby
  go_enter Tryd.func24, Tryd.ntmps24
  go_upto_region 3 with fail
  rw [← HBE.out]
  go_region_held3 (fun w' => w'.cell? ⟨w.heap.size, 1, none⟩ = some (.string ⟨pp.toArray⟩) ∧ w'.cell? ⟨w.heap.size, 3, none⟩ = some (.int .i64 ff)) (first | exact HS.out _ ((Below.refl _ b).drew) | exact HS.out _ K2.out | exact HS.out _ K1.out)
    (first
      | (go_at_call 16; (refine (HT1.out _).mono ?_); rintro e W1 ⟨rfl, hb1⟩; have K1 := Lib.hid (((Below.refl b.heap.size b).drew).trans hb1); clear hb1)
      | (go_at_call 15; (refine (HN1.out _).mono ?_); rintro e W2 ⟨rfl, hb2⟩; have K2 := Lib.hid (K1.out.trans (hb2.mono K1.out.size)); clear hb2))
  all_goals
    have BW := Lib.hid (HB.out.trans (K2.out.mono (by omega)))
    have hbx := (Keep.of_below (S := fun _ => False) K2.out).blk HBX.out id
    have hby := (Keep.of_below (S := fun _ => False) K2.out).blk HBY.out id
    have CX := Lib.hid hbx
    have CY := Lib.hid hby
    have bX := blk_cells hbx
    have bY := blk_cells hby
    have fY := blk_frees hby
    have z2 := blk_lt hby
    have x0 : W2.cell? ⟨w.heap.size, 0, none⟩ = some (.int .i64 kk) := (bX 0).trans rfl
    have x1 : W2.cell? ⟨w.heap.size, 1, none⟩ = some (.string ⟨pp.toArray⟩) := (bX 1).trans rfl
    have x2 : W2.cell? ⟨w.heap.size, 2, none⟩ = some (.string ⟨oo.toArray⟩) := (bX 2).trans rfl
    have x3 : W2.cell? ⟨w.heap.size, 3, none⟩ = some (.int .i64 ff) := (bX 3).trans rfl
    have x4 : W2.cell? ⟨w.heap.size, 4, none⟩ = some (.int .i64 aa) := (bX 4).trans rfl
    have x5 : W2.cell? ⟨w.heap.size, 5, none⟩ = some (.int .i64 ss) := (bX 5).trans rfl
    have x6 : W2.cell? ⟨w.heap.size, 6, none⟩ = some (.slice DA dd.length dc) := (bX 6).trans rfl
    have y0 : W2.cell? ⟨w.heap.size + 1, 0, none⟩ = some (.int .i64 kk) := (bY 0).trans rfl
    have y1 : W2.cell? ⟨w.heap.size + 1, 1, none⟩ = some (.string ⟨#[]⟩) := (bY 1).trans rfl
    have y2 : W2.cell? ⟨w.heap.size + 1, 2, none⟩ = some (.string ⟨#[]⟩) := (bY 2).trans rfl
    have y3 : W2.cell? ⟨w.heap.size + 1, 3, none⟩ = some (.int .i64 0) := (bY 3).trans rfl
    have y4 : W2.cell? ⟨w.heap.size + 1, 4, none⟩ = some (.int .i64 0) := (bY 4).trans rfl
    have y5 : W2.cell? ⟨w.heap.size + 1, 5, none⟩ = some (.int .i64 0) := (bY 5).trans rfl
    have y6 : W2.cell? ⟨w.heap.size + 1, 6, none⟩ = some (.slice none 0 0) := (bY 6).trans rfl
    have HXW := Lib.hid (fun (w' : World) (k : Keep (fun k => k = w.heap.size + 1) W2 w') => (show w'.heap[w.heap.size]? = some (.cells #[.int .i64 kk, .string ⟨pp.toArray⟩, .string ⟨oo.toArray⟩, .int .i64 ff, .int .i64 aa, .int .i64 ss, .slice DA dd.length dc] 24 (0, 0)) ∧ Below w.heap.size w w' from ⟨k.blk CX.out (fun e => by omega), BW.out.trans (k.below (fun k e => by omega) BW.out.size)⟩))
    have HFIN := Lib.hid (fun (w' : World) (y : CallP) (dw : Value) (hy : DataR w' dw y.data) (hb : Below w.heap.size w w') => lsame_walk ⟨kk, pp, oo, ff, aa, ss, dd⟩ y (.slice DA dd.length dc) dw w' ⟨DA, dc, rfl, HDS.out.below hb⟩ hy)
    clear hbx hby bX bY HS HB HBX HBY HBE K1 K2 HX
    cases hk : hasK callT kk with
    | false =>
      obtain ⟨n1, n2, n3, n4, n5, n6, n7, n8, n9, n10, n11, n12, n13, n14⟩ := nokind hk
      have HS0 := Lib.hid (show lcS ⟨kk, pp, oo, ff, aa, ss, dd⟩ = [] by unfold lcS; rw [if_neg (by simp only; rw [hk]; decide)])
      have HB0 := Lib.hid (show lcB ⟨kk, pp, oo, ff, aa, ss, dd⟩ = false by unfold lcB; simp only; rw [hk]; rfl)
      have m1 : (kk == 1) = false := beq_eq_false_iff_ne.2 n1
      have m2 : (kk == 2) = false := beq_eq_false_iff_ne.2 n2
      have m3 : (kk == 3) = false := beq_eq_false_iff_ne.2 n3
      have m4 : (kk == 4) = false := beq_eq_false_iff_ne.2 n4
      have m5 : (kk == 5) = false := beq_eq_false_iff_ne.2 n5
      have m6 : (kk == 6) = false := beq_eq_false_iff_ne.2 n6
      have m7 : (kk == 7) = false := beq_eq_false_iff_ne.2 n7
      have m8 : (kk == 8) = false := beq_eq_false_iff_ne.2 n8
      have m9 : (kk == 9) = false := beq_eq_false_iff_ne.2 n9
      have m10 : (kk == 10) = false := beq_eq_false_iff_ne.2 n10
      have m11 : (kk == 11) = false := beq_eq_false_iff_ne.2 n11
      have m12 : (kk == 12) = false := beq_eq_false_iff_ne.2 n12
      have m13 : (kk == 13) = false := beq_eq_false_iff_ne.2 n13
      have m14 : (kk == 14) = false := beq_eq_false_iff_ne.2 n14
      clear hk n1 n2 n3 n4 n5 n6 n7 n8 n9 n10 n11 n12 n13 n14
      go_wp2
      go_ret2
      exact ⟨by rw [HS0.out, HB0.out]; rfl, BW.out⟩
    | true =>
      rcases iskind hk with rfl | rfl | rfl | rfl | rfl | rfl | rfl | rfl | rfl | rfl | rfl | rfl | rfl | rfl
      · clear hk
        obtain ⟨g00, hg00⟩ : ∃ g00 : Str, g00 = [111, 112, 101, 110] ++ p6 := ⟨_, rfl⟩
        have Lg00 : g00.length ≤ 60000000000 := by rw [hg00, List.length_append]; (try simp only [List.length_cons, List.length_nil]); omega
        have Ag00 : ∀ w, (Op.stringOp .add ⟨#[111, 112, 101, 110]⟩ ⟨p6.toArray⟩).run Tryd.prog w = .ok (.string ⟨g00.toArray⟩) w := add_run (a := [111, 112, 101, 110]) (b := p6) hg00 (by first | decide | omega) (by first | decide | omega)
        have HS0 := Lib.hid (show lcS ⟨1, pp, oo, ff, aa, ss, dd⟩ = g00 by
          rw [show lcS ⟨1, pp, oo, ff, aa, ss, dd⟩ = jnW [[111, 112, 101, 110], textP pp] from rfl, jn2, hg00]
          have e1 := HP6.out; have e2 := HP7.out; have e3 := HTP.out; have e4 := HTO.out; have e5 := HTD.out; have e6 := HNF.out; have e7 := HNA.out; have e8 := HNS.out
          subst e1 e2 e3 e4 e5 e6 e7 e8
          simp)
        obtain ⟨qb, hqb⟩ : ∃ qb, qb = decide ((⟨1, pp, oo, ff, aa, ss, dd⟩ : CallP) = ⟨1, pp, [], 0, 0, 0, []⟩) := ⟨_, rfl⟩
        have HQB := Lib.hid hqb
        have HB0 := Lib.hid (show lcB ⟨1, pp, oo, ff, aa, ss, dd⟩ = qb by rw [hqb]; rfl)
        clear hqb hg00
        obtain ⟨V, hV⟩ : ∃ V, V = (W2.setCell ⟨w.heap.size + 1, 1, none⟩ (.string ⟨pp.toArray⟩)) := ⟨_, rfl⟩
        have KV : Hid (Keep (fun k => k = w.heap.size + 1) W2 V) := Lib.hid (by rw [hV]; exact ((Keep.refl (fun k => k = w.heap.size + 1) W2).setCell (fun _ => rfl) (.string ⟨pp.toArray⟩)))
        have YV : Hid (V.heap[w.heap.size + 1]? = some (.cells #[.int .i64 1, .string ⟨pp.toArray⟩, .string ⟨#[]⟩, .int .i64 0, .int .i64 0, .int .i64 0, .slice none 0 0] 24 (0, 0))) := Lib.hid (by rw [hV]; exact (blk_setL CY.out (.string ⟨pp.toArray⟩)))
        have HVE := Lib.hid hV
        clear hV
        go_upto_region 49 with fail
        rw [← HVE.out]
        obtain ⟨hx9, hb9⟩ := HXW.out V KV.out
        have q := blk_cells hx9
        have r := blk_cells YV.out
        have xx0 : V.cell? ⟨w.heap.size, 0, none⟩ = some (.int .i64 1) := (q 0).trans rfl
        have xx1 : V.cell? ⟨w.heap.size, 1, none⟩ = some (.string ⟨pp.toArray⟩) := (q 1).trans rfl
        have xx2 : V.cell? ⟨w.heap.size, 2, none⟩ = some (.string ⟨oo.toArray⟩) := (q 2).trans rfl
        have xx3 : V.cell? ⟨w.heap.size, 3, none⟩ = some (.int .i64 ff) := (q 3).trans rfl
        have xx4 : V.cell? ⟨w.heap.size, 4, none⟩ = some (.int .i64 aa) := (q 4).trans rfl
        have xx5 : V.cell? ⟨w.heap.size, 5, none⟩ = some (.int .i64 ss) := (q 5).trans rfl
        have xx6 : V.cell? ⟨w.heap.size, 6, none⟩ = some (.slice DA dd.length dc) := (q 6).trans rfl
        have yy0 : V.cell? ⟨w.heap.size + 1, 0, none⟩ = some (.int .i64 1) := (r 0).trans rfl
        have yy1 : V.cell? ⟨w.heap.size + 1, 1, none⟩ = some (.string ⟨pp.toArray⟩) := (r 1).trans rfl
        have yy2 : V.cell? ⟨w.heap.size + 1, 2, none⟩ = some (.string ⟨#[]⟩) := (r 2).trans rfl
        have yy3 : V.cell? ⟨w.heap.size + 1, 3, none⟩ = some (.int .i64 0) := (r 3).trans rfl
        have yy4 : V.cell? ⟨w.heap.size + 1, 4, none⟩ = some (.int .i64 0) := (r 4).trans rfl
        have yy5 : V.cell? ⟨w.heap.size + 1, 5, none⟩ = some (.int .i64 0) := (r 5).trans rfl
        have yy6 : V.cell? ⟨w.heap.size + 1, 6, none⟩ = some (.slice none 0 0) := (r 6).trans rfl
        have HF := Lib.hid (HFIN.out V ⟨1, pp, [], 0, 0, 0, []⟩ (.slice none 0 0) (DataT.nil _).r hb9)
        have B9 := Lib.hid hb9
        rw [← HQB.out] at HF
        unfold CallP.cells at HF
        clear hx9 hb9 q r
        go_wp2_with fail
        refine HF.out.mono ?_
        rintro e W9 ⟨rfl, h9⟩
        have B8 := Lib.hid (B9.out.trans (h9.mono B9.out.size))
        clear h9
        go_wp2
        go_ret2
        exact ⟨by rw [HS0.out, HB0.out]; rfl, B8.out⟩
      · clear hk
        obtain ⟨g00, hg00⟩ : ∃ g00 : Str, g00 = [109, 97, 107, 101] ++ p6 := ⟨_, rfl⟩
        have Lg00 : g00.length ≤ 60000000000 := by rw [hg00, List.length_append]; (try simp only [List.length_cons, List.length_nil]); omega
        have Ag00 : ∀ w, (Op.stringOp .add ⟨#[109, 97, 107, 101]⟩ ⟨p6.toArray⟩).run Tryd.prog w = .ok (.string ⟨g00.toArray⟩) w := add_run (a := [109, 97, 107, 101]) (b := p6) hg00 (by first | decide | omega) (by first | decide | omega)
        have HS0 := Lib.hid (show lcS ⟨2, pp, oo, ff, aa, ss, dd⟩ = g00 by
          rw [show lcS ⟨2, pp, oo, ff, aa, ss, dd⟩ = jnW [[109, 97, 107, 101], textP pp] from rfl, jn2, hg00]
          have e1 := HP6.out; have e2 := HP7.out; have e3 := HTP.out; have e4 := HTO.out; have e5 := HTD.out; have e6 := HNF.out; have e7 := HNA.out; have e8 := HNS.out
          subst e1 e2 e3 e4 e5 e6 e7 e8
          simp)
        obtain ⟨qb, hqb⟩ : ∃ qb, qb = decide ((⟨2, pp, oo, ff, aa, ss, dd⟩ : CallP) = ⟨2, pp, [], 0, 0, 0, []⟩) := ⟨_, rfl⟩
        have HQB := Lib.hid hqb
        have HB0 := Lib.hid (show lcB ⟨2, pp, oo, ff, aa, ss, dd⟩ = qb by rw [hqb]; rfl)
        clear hqb hg00
        obtain ⟨V, hV⟩ : ∃ V, V = (W2.setCell ⟨w.heap.size + 1, 1, none⟩ (.string ⟨pp.toArray⟩)) := ⟨_, rfl⟩
        have KV : Hid (Keep (fun k => k = w.heap.size + 1) W2 V) := Lib.hid (by rw [hV]; exact ((Keep.refl (fun k => k = w.heap.size + 1) W2).setCell (fun _ => rfl) (.string ⟨pp.toArray⟩)))
        have YV : Hid (V.heap[w.heap.size + 1]? = some (.cells #[.int .i64 2, .string ⟨pp.toArray⟩, .string ⟨#[]⟩, .int .i64 0, .int .i64 0, .int .i64 0, .slice none 0 0] 24 (0, 0))) := Lib.hid (by rw [hV]; exact (blk_setL CY.out (.string ⟨pp.toArray⟩)))
        have HVE := Lib.hid hV
        clear hV
        go_upto_region 49 with fail
        rw [← HVE.out]
        obtain ⟨hx9, hb9⟩ := HXW.out V KV.out
        have q := blk_cells hx9
        have r := blk_cells YV.out
        have xx0 : V.cell? ⟨w.heap.size, 0, none⟩ = some (.int .i64 2) := (q 0).trans rfl
        have xx1 : V.cell? ⟨w.heap.size, 1, none⟩ = some (.string ⟨pp.toArray⟩) := (q 1).trans rfl
        have xx2 : V.cell? ⟨w.heap.size, 2, none⟩ = some (.string ⟨oo.toArray⟩) := (q 2).trans rfl
        have xx3 : V.cell? ⟨w.heap.size, 3, none⟩ = some (.int .i64 ff) := (q 3).trans rfl
        have xx4 : V.cell? ⟨w.heap.size, 4, none⟩ = some (.int .i64 aa) := (q 4).trans rfl
        have xx5 : V.cell? ⟨w.heap.size, 5, none⟩ = some (.int .i64 ss) := (q 5).trans rfl
        have xx6 : V.cell? ⟨w.heap.size, 6, none⟩ = some (.slice DA dd.length dc) := (q 6).trans rfl
        have yy0 : V.cell? ⟨w.heap.size + 1, 0, none⟩ = some (.int .i64 2) := (r 0).trans rfl
        have yy1 : V.cell? ⟨w.heap.size + 1, 1, none⟩ = some (.string ⟨pp.toArray⟩) := (r 1).trans rfl
        have yy2 : V.cell? ⟨w.heap.size + 1, 2, none⟩ = some (.string ⟨#[]⟩) := (r 2).trans rfl
        have yy3 : V.cell? ⟨w.heap.size + 1, 3, none⟩ = some (.int .i64 0) := (r 3).trans rfl
        have yy4 : V.cell? ⟨w.heap.size + 1, 4, none⟩ = some (.int .i64 0) := (r 4).trans rfl
        have yy5 : V.cell? ⟨w.heap.size + 1, 5, none⟩ = some (.int .i64 0) := (r 5).trans rfl
        have yy6 : V.cell? ⟨w.heap.size + 1, 6, none⟩ = some (.slice none 0 0) := (r 6).trans rfl
        have HF := Lib.hid (HFIN.out V ⟨2, pp, [], 0, 0, 0, []⟩ (.slice none 0 0) (DataT.nil _).r hb9)
        have B9 := Lib.hid hb9
        rw [← HQB.out] at HF
        unfold CallP.cells at HF
        clear hx9 hb9 q r
        go_wp2_with fail
        refine HF.out.mono ?_
        rintro e W9 ⟨rfl, h9⟩
        have B8 := Lib.hid (B9.out.trans (h9.mono B9.out.size))
        clear h9
        go_wp2
        go_ret2
        exact ⟨by rw [HS0.out, HB0.out]; rfl, B8.out⟩
      · clear hk
        obtain ⟨g00, hg00⟩ : ∃ g00 : Str, g00 = [99, 108, 111, 115, 101] ++ p7 := ⟨_, rfl⟩
        have Lg00 : g00.length ≤ 60000000000 := by rw [hg00, List.length_append]; (try simp only [List.length_cons, List.length_nil]); omega
        have Ag00 : ∀ w, (Op.stringOp .add ⟨#[99, 108, 111, 115, 101]⟩ ⟨p7.toArray⟩).run Tryd.prog w = .ok (.string ⟨g00.toArray⟩) w := add_run (a := [99, 108, 111, 115, 101]) (b := p7) hg00 (by first | decide | omega) (by first | decide | omega)
        have HS0 := Lib.hid (show lcS ⟨3, pp, oo, ff, aa, ss, dd⟩ = g00 by
          rw [show lcS ⟨3, pp, oo, ff, aa, ss, dd⟩ = jnW [[99, 108, 111, 115, 101], Lib.itoa ff] from rfl, jn2, hg00]
          have e1 := HP6.out; have e2 := HP7.out; have e3 := HTP.out; have e4 := HTO.out; have e5 := HTD.out; have e6 := HNF.out; have e7 := HNA.out; have e8 := HNS.out
          subst e1 e2 e3 e4 e5 e6 e7 e8
          simp)
        obtain ⟨qb, hqb⟩ : ∃ qb, qb = decide ((⟨3, pp, oo, ff, aa, ss, dd⟩ : CallP) = ⟨3, [], [], ff, 0, 0, []⟩) := ⟨_, rfl⟩
        have HQB := Lib.hid hqb
        have HB0 := Lib.hid (show lcB ⟨3, pp, oo, ff, aa, ss, dd⟩ = qb by rw [hqb]; rfl)
        clear hqb hg00
        obtain ⟨V, hV⟩ : ∃ V, V = (W2.setCell ⟨w.heap.size + 1, 3, none⟩ (.int .i64 ff)) := ⟨_, rfl⟩
        have KV : Hid (Keep (fun k => k = w.heap.size + 1) W2 V) := Lib.hid (by rw [hV]; exact ((Keep.refl (fun k => k = w.heap.size + 1) W2).setCell (fun _ => rfl) (.int .i64 ff)))
        have YV : Hid (V.heap[w.heap.size + 1]? = some (.cells #[.int .i64 3, .string ⟨#[]⟩, .string ⟨#[]⟩, .int .i64 ff, .int .i64 0, .int .i64 0, .slice none 0 0] 24 (0, 0))) := Lib.hid (by rw [hV]; exact (blk_setL CY.out (.int .i64 ff)))
        have HVE := Lib.hid hV
        clear hV
        go_upto_region 49 with fail
        rw [← HVE.out]
        obtain ⟨hx9, hb9⟩ := HXW.out V KV.out
        have q := blk_cells hx9
        have r := blk_cells YV.out
        have xx0 : V.cell? ⟨w.heap.size, 0, none⟩ = some (.int .i64 3) := (q 0).trans rfl
        have xx1 : V.cell? ⟨w.heap.size, 1, none⟩ = some (.string ⟨pp.toArray⟩) := (q 1).trans rfl
        have xx2 : V.cell? ⟨w.heap.size, 2, none⟩ = some (.string ⟨oo.toArray⟩) := (q 2).trans rfl
        have xx3 : V.cell? ⟨w.heap.size, 3, none⟩ = some (.int .i64 ff) := (q 3).trans rfl
        have xx4 : V.cell? ⟨w.heap.size, 4, none⟩ = some (.int .i64 aa) := (q 4).trans rfl
        have xx5 : V.cell? ⟨w.heap.size, 5, none⟩ = some (.int .i64 ss) := (q 5).trans rfl
        have xx6 : V.cell? ⟨w.heap.size, 6, none⟩ = some (.slice DA dd.length dc) := (q 6).trans rfl
        have yy0 : V.cell? ⟨w.heap.size + 1, 0, none⟩ = some (.int .i64 3) := (r 0).trans rfl
        have yy1 : V.cell? ⟨w.heap.size + 1, 1, none⟩ = some (.string ⟨#[]⟩) := (r 1).trans rfl
        have yy2 : V.cell? ⟨w.heap.size + 1, 2, none⟩ = some (.string ⟨#[]⟩) := (r 2).trans rfl
        have yy3 : V.cell? ⟨w.heap.size + 1, 3, none⟩ = some (.int .i64 ff) := (r 3).trans rfl
        have yy4 : V.cell? ⟨w.heap.size + 1, 4, none⟩ = some (.int .i64 0) := (r 4).trans rfl
        have yy5 : V.cell? ⟨w.heap.size + 1, 5, none⟩ = some (.int .i64 0) := (r 5).trans rfl
        have yy6 : V.cell? ⟨w.heap.size + 1, 6, none⟩ = some (.slice none 0 0) := (r 6).trans rfl
        have HF := Lib.hid (HFIN.out V ⟨3, [], [], ff, 0, 0, []⟩ (.slice none 0 0) (DataT.nil _).r hb9)
        have B9 := Lib.hid hb9
        rw [← HQB.out] at HF
        unfold CallP.cells at HF
        clear hx9 hb9 q r
        go_wp2_with fail
        refine HF.out.mono ?_
        rintro e W9 ⟨rfl, h9⟩
        have B8 := Lib.hid (B9.out.trans (h9.mono B9.out.size))
        clear h9
        go_wp2
        go_ret2
        exact ⟨by rw [HS0.out, HB0.out]; rfl, B8.out⟩
      · clear hk
        obtain ⟨g00, hg00⟩ : ∃ g00 : Str, g00 = [114, 101, 97, 100] ++ p7 := ⟨_, rfl⟩
        have Lg00 : g00.length ≤ 60000000000 := by rw [hg00, List.length_append]; (try simp only [List.length_cons, List.length_nil]); omega
        have Ag00 : ∀ w, (Op.stringOp .add ⟨#[114, 101, 97, 100]⟩ ⟨p7.toArray⟩).run Tryd.prog w = .ok (.string ⟨g00.toArray⟩) w := add_run (a := [114, 101, 97, 100]) (b := p7) hg00 (by first | decide | omega) (by first | decide | omega)
        obtain ⟨g01, hg01⟩ : ∃ g01 : Str, g01 = g00 ++ [32] := ⟨_, rfl⟩
        have Lg01 : g01.length ≤ 120000000000 := by rw [hg01, List.length_append]; (try simp only [List.length_cons, List.length_nil]); omega
        have Ag01 : ∀ w, (Op.stringOp .add ⟨g00.toArray⟩ ⟨#[32]⟩).run Tryd.prog w = .ok (.string ⟨g01.toArray⟩) w := add_run (a := g00) (b := [32]) hg01 (by first | decide | omega) (by first | decide | omega)
        obtain ⟨g02, hg02⟩ : ∃ g02 : Str, g02 = g01 ++ na := ⟨_, rfl⟩
        have Lg02 : g02.length ≤ 180000000000 := by rw [hg02, List.length_append]; (try simp only [List.length_cons, List.length_nil]); omega
        have Ag02 : ∀ w, (Op.stringOp .add ⟨g01.toArray⟩ ⟨na.toArray⟩).run Tryd.prog w = .ok (.string ⟨g02.toArray⟩) w := add_run (a := g01) (b := na) hg02 (by first | decide | omega) (by first | decide | omega)
        obtain ⟨g03, hg03⟩ : ∃ g03 : Str, g03 = g02 ++ [32] := ⟨_, rfl⟩
        have Lg03 : g03.length ≤ 240000000000 := by rw [hg03, List.length_append]; (try simp only [List.length_cons, List.length_nil]); omega
        have Ag03 : ∀ w, (Op.stringOp .add ⟨g02.toArray⟩ ⟨#[32]⟩).run Tryd.prog w = .ok (.string ⟨g03.toArray⟩) w := add_run (a := g02) (b := [32]) hg03 (by first | decide | omega) (by first | decide | omega)
        obtain ⟨g04, hg04⟩ : ∃ g04 : Str, g04 = g03 ++ ns := ⟨_, rfl⟩
        have Lg04 : g04.length ≤ 300000000000 := by rw [hg04, List.length_append]; (try simp only [List.length_cons, List.length_nil]); omega
        have Ag04 : ∀ w, (Op.stringOp .add ⟨g03.toArray⟩ ⟨ns.toArray⟩).run Tryd.prog w = .ok (.string ⟨g04.toArray⟩) w := add_run (a := g03) (b := ns) hg04 (by first | decide | omega) (by first | decide | omega)
        have HS0 := Lib.hid (show lcS ⟨4, pp, oo, ff, aa, ss, dd⟩ = g04 by
          rw [show lcS ⟨4, pp, oo, ff, aa, ss, dd⟩ = jnW [[114, 101, 97, 100], Lib.itoa ff, Lib.itoa aa, Lib.itoa ss] from rfl, jn4, hg04, hg03, hg02, hg01, hg00]
          have e1 := HP6.out; have e2 := HP7.out; have e3 := HTP.out; have e4 := HTO.out; have e5 := HTD.out; have e6 := HNF.out; have e7 := HNA.out; have e8 := HNS.out
          subst e1 e2 e3 e4 e5 e6 e7 e8
          simp)
        obtain ⟨qb, hqb⟩ : ∃ qb, qb = decide ((⟨4, pp, oo, ff, aa, ss, dd⟩ : CallP) = ⟨4, [], [], ff, aa, ss, []⟩) := ⟨_, rfl⟩
        have HQB := Lib.hid hqb
        have HB0 := Lib.hid (show lcB ⟨4, pp, oo, ff, aa, ss, dd⟩ = qb by rw [hqb]; rfl)
        clear hqb hg00 hg01 hg02 hg03 hg04
        obtain ⟨V, hV⟩ : ∃ V, V = (((W2.setCell ⟨w.heap.size + 1, 3, none⟩ (.int .i64 ff)).setCell ⟨w.heap.size + 1, 4, none⟩ (.int .i64 aa)).setCell ⟨w.heap.size + 1, 5, none⟩ (.int .i64 ss)) := ⟨_, rfl⟩
        have KV : Hid (Keep (fun k => k = w.heap.size + 1) W2 V) := Lib.hid (by rw [hV]; exact ((((Keep.refl (fun k => k = w.heap.size + 1) W2).setCell (fun _ => rfl) (.int .i64 ff)).setCell (fun _ => rfl) (.int .i64 aa)).setCell (fun _ => rfl) (.int .i64 ss)))
        have YV : Hid (V.heap[w.heap.size + 1]? = some (.cells #[.int .i64 4, .string ⟨#[]⟩, .string ⟨#[]⟩, .int .i64 ff, .int .i64 aa, .int .i64 ss, .slice none 0 0] 24 (0, 0))) := Lib.hid (by rw [hV]; exact (blk_setL (blk_setL (blk_setL CY.out (.int .i64 ff)) (.int .i64 aa)) (.int .i64 ss)))
        have HVE := Lib.hid hV
        clear hV
        have HSX := Lib.hid (fun (w' : World) (k : Keep (fun k => k = w.heap.size + 1) W2 w') => (show w'.cell? ⟨w.heap.size, 3, none⟩ = some (.int .i64 ff) ∧ w'.cell? ⟨w.heap.size, 4, none⟩ = some (.int .i64 aa) ∧ w'.cell? ⟨w.heap.size, 5, none⟩ = some (.int .i64 ss) from by
          have q := blk_cells (HXW.out w' k).1
          exact ⟨(q 3).trans rfl, (q 4).trans rfl, (q 5).trans rfl⟩))
        go_upto_region 41 with fail
        go_region_held3 (fun w' => w'.cell? ⟨w.heap.size, 3, none⟩ = some (.int .i64 ff) ∧ w'.cell? ⟨w.heap.size, 4, none⟩ = some (.int .i64 aa) ∧ w'.cell? ⟨w.heap.size, 5, none⟩ = some (.int .i64 ss)) (first | exact HSX.out _ ((Keep.refl (fun k => k = w.heap.size + 1) W2).drew) | exact HSX.out _ ((Keep.refl (fun k => k = w.heap.size + 1) W2).setCell (p := ⟨w.heap.size + 1, 3, none⟩) (fun _ => rfl) (.int .i64 ff)) | exact HSX.out _ (((Keep.refl (fun k => k = w.heap.size + 1) W2).setCell (p := ⟨w.heap.size + 1, 3, none⟩) (fun _ => rfl) (.int .i64 ff)).drew) | exact HSX.out _ (((Keep.refl (fun k => k = w.heap.size + 1) W2).setCell (p := ⟨w.heap.size + 1, 3, none⟩) (fun _ => rfl) (.int .i64 ff)).setCell (p := ⟨w.heap.size + 1, 4, none⟩) (fun _ => rfl) (.int .i64 aa)) | exact HSX.out _ ((((Keep.refl (fun k => k = w.heap.size + 1) W2).setCell (p := ⟨w.heap.size + 1, 3, none⟩) (fun _ => rfl) (.int .i64 ff)).setCell (p := ⟨w.heap.size + 1, 4, none⟩) (fun _ => rfl) (.int .i64 aa)).drew) | exact HSX.out _ ((((Keep.refl (fun k => k = w.heap.size + 1) W2).setCell (p := ⟨w.heap.size + 1, 3, none⟩) (fun _ => rfl) (.int .i64 ff)).setCell (p := ⟨w.heap.size + 1, 4, none⟩) (fun _ => rfl) (.int .i64 aa)).setCell (p := ⟨w.heap.size + 1, 5, none⟩) (fun _ => rfl) (.int .i64 ss)) | exact HSX.out _ (((((Keep.refl (fun k => k = w.heap.size + 1) W2).setCell (p := ⟨w.heap.size + 1, 3, none⟩) (fun _ => rfl) (.int .i64 ff)).setCell (p := ⟨w.heap.size + 1, 4, none⟩) (fun _ => rfl) (.int .i64 aa)).setCell (p := ⟨w.heap.size + 1, 5, none⟩) (fun _ => rfl) (.int .i64 ss)).drew)) (fail)
        all_goals
          rw [← HVE.out]
          obtain ⟨U, hU⟩ : ∃ U, U = V.drew := ⟨_, rfl⟩
          rw [← hU]
          have KU : Hid (Keep (fun k => k = w.heap.size + 1) W2 U) := Lib.hid (by rw [hU]; exact KV.out.drew)
          have YU : Hid (U.heap[w.heap.size + 1]? = some (.cells #[.int .i64 4, .string ⟨#[]⟩, .string ⟨#[]⟩, .int .i64 ff, .int .i64 aa, .int .i64 ss, .slice none 0 0] 24 (0, 0))) := Lib.hid (by rw [hU]; exact YV.out)
          clear hU
          obtain ⟨hx3, hb3⟩ := HXW.out U KU.out
          have q := blk_cells hx3
          have v0 : U.cell? ⟨w.heap.size, 0, none⟩ = some (.int .i64 4) := (q 0).trans rfl
          have v1 : U.cell? ⟨w.heap.size, 1, none⟩ = some (.string ⟨pp.toArray⟩) := (q 1).trans rfl
          have v2 : U.cell? ⟨w.heap.size, 2, none⟩ = some (.string ⟨oo.toArray⟩) := (q 2).trans rfl
          have v3 : U.cell? ⟨w.heap.size, 3, none⟩ = some (.int .i64 ff) := (q 3).trans rfl
          have v4 : U.cell? ⟨w.heap.size, 4, none⟩ = some (.int .i64 aa) := (q 4).trans rfl
          have v5 : U.cell? ⟨w.heap.size, 5, none⟩ = some (.int .i64 ss) := (q 5).trans rfl
          have v6 : U.cell? ⟨w.heap.size, 6, none⟩ = some (.slice DA dd.length dc) := (q 6).trans rfl
          have BV := Lib.hid hb3
          clear hx3 hb3 q
          have HS2 := Lib.hid (fun (w' : World) (k : Keep (fun k => k = w.heap.size + 1) W2 w') => (show w'.cell? ⟨w.heap.size, 4, none⟩ = some (.int .i64 aa) ∧ w'.cell? ⟨w.heap.size, 5, none⟩ = some (.int .i64 ss) from by
            obtain ⟨hx, hb⟩ := HXW.out w' k
            have q := blk_cells hx
            exact ⟨(q 4).trans rfl, (q 5).trans rfl⟩))
          go_wp2_with fail
          go_region_held3 (fun w' => w'.cell? ⟨w.heap.size, 4, none⟩ = some (.int .i64 aa) ∧ w'.cell? ⟨w.heap.size, 5, none⟩ = some (.int .i64 ss)) (first | exact HS2.out _ (KU.out.drew) | exact HS2.out _ K4.out | exact HS2.out _ K3.out)
            (first
              | (go_at_call 15; (with_reducible refine (HN2.out _).mono ?_); rintro e W3 ⟨rfl, hbW3⟩; have K3 := Lib.hid (KU.out.drew.trans (Keep.of_below (S := fun k => k = w.heap.size + 1) hbW3) (fun _ _ h => h)); have Y3 := Lib.hid ((Keep.of_below (S := fun _ => False) hbW3).blk (show U.drew.heap[w.heap.size + 1]? = _ from YU.out) id); clear hbW3)
              | (go_at_call 15; (refine (HN3.out _).mono ?_); rintro e W4 ⟨rfl, hbW4⟩; have K4 := Lib.hid (K3.out.trans (Keep.of_below (S := fun k => k = w.heap.size + 1) hbW4) (fun _ _ h => h)); have Y4 := Lib.hid ((Keep.of_below (S := fun _ => False) hbW4).blk Y3.out id); clear hbW4))
          all_goals
            obtain ⟨hx9, hb9⟩ := HXW.out W4 K4.out
            have q := blk_cells hx9
            have r := blk_cells Y4.out
            have xx0 : W4.cell? ⟨w.heap.size, 0, none⟩ = some (.int .i64 4) := (q 0).trans rfl
            have xx1 : W4.cell? ⟨w.heap.size, 1, none⟩ = some (.string ⟨pp.toArray⟩) := (q 1).trans rfl
            have xx2 : W4.cell? ⟨w.heap.size, 2, none⟩ = some (.string ⟨oo.toArray⟩) := (q 2).trans rfl
            have xx3 : W4.cell? ⟨w.heap.size, 3, none⟩ = some (.int .i64 ff) := (q 3).trans rfl
            have xx4 : W4.cell? ⟨w.heap.size, 4, none⟩ = some (.int .i64 aa) := (q 4).trans rfl
            have xx5 : W4.cell? ⟨w.heap.size, 5, none⟩ = some (.int .i64 ss) := (q 5).trans rfl
            have xx6 : W4.cell? ⟨w.heap.size, 6, none⟩ = some (.slice DA dd.length dc) := (q 6).trans rfl
            have yy0 : W4.cell? ⟨w.heap.size + 1, 0, none⟩ = some (.int .i64 4) := (r 0).trans rfl
            have yy1 : W4.cell? ⟨w.heap.size + 1, 1, none⟩ = some (.string ⟨#[]⟩) := (r 1).trans rfl
            have yy2 : W4.cell? ⟨w.heap.size + 1, 2, none⟩ = some (.string ⟨#[]⟩) := (r 2).trans rfl
            have yy3 : W4.cell? ⟨w.heap.size + 1, 3, none⟩ = some (.int .i64 ff) := (r 3).trans rfl
            have yy4 : W4.cell? ⟨w.heap.size + 1, 4, none⟩ = some (.int .i64 aa) := (r 4).trans rfl
            have yy5 : W4.cell? ⟨w.heap.size + 1, 5, none⟩ = some (.int .i64 ss) := (r 5).trans rfl
            have yy6 : W4.cell? ⟨w.heap.size + 1, 6, none⟩ = some (.slice none 0 0) := (r 6).trans rfl
            have HF := Lib.hid (HFIN.out W4 ⟨4, [], [], ff, aa, ss, []⟩ (.slice none 0 0) (DataT.nil _).r hb9)
            have B9 := Lib.hid hb9
            rw [← HQB.out] at HF
            unfold CallP.cells at HF
            clear hx9 hb9 q r
            go_wp2_with fail
            refine HF.out.mono ?_
            rintro e W9 ⟨rfl, h9⟩
            have B8 := Lib.hid (B9.out.trans (h9.mono B9.out.size))
            clear h9
            go_wp2
            go_ret2
            exact ⟨by rw [HS0.out, HB0.out]; rfl, B8.out⟩
      · clear hk
        obtain ⟨g00, hg00⟩ : ∃ g00 : Str, g00 = [119, 114, 105, 116, 101] ++ p7 := ⟨_, rfl⟩
        have Lg00 : g00.length ≤ 60000000000 := by rw [hg00, List.length_append]; (try simp only [List.length_cons, List.length_nil]); omega
        have Ag00 : ∀ w, (Op.stringOp .add ⟨#[119, 114, 105, 116, 101]⟩ ⟨p7.toArray⟩).run Tryd.prog w = .ok (.string ⟨g00.toArray⟩) w := add_run (a := [119, 114, 105, 116, 101]) (b := p7) hg00 (by first | decide | omega) (by first | decide | omega)
        obtain ⟨g01, hg01⟩ : ∃ g01 : Str, g01 = g00 ++ [32] := ⟨_, rfl⟩
        have Lg01 : g01.length ≤ 120000000000 := by rw [hg01, List.length_append]; (try simp only [List.length_cons, List.length_nil]); omega
        have Ag01 : ∀ w, (Op.stringOp .add ⟨g00.toArray⟩ ⟨#[32]⟩).run Tryd.prog w = .ok (.string ⟨g01.toArray⟩) w := add_run (a := g00) (b := [32]) hg01 (by first | decide | omega) (by first | decide | omega)
        obtain ⟨g02, hg02⟩ : ∃ g02 : Str, g02 = g01 ++ na := ⟨_, rfl⟩
        have Lg02 : g02.length ≤ 180000000000 := by rw [hg02, List.length_append]; (try simp only [List.length_cons, List.length_nil]); omega
        have Ag02 : ∀ w, (Op.stringOp .add ⟨g01.toArray⟩ ⟨na.toArray⟩).run Tryd.prog w = .ok (.string ⟨g02.toArray⟩) w := add_run (a := g01) (b := na) hg02 (by first | decide | omega) (by first | decide | omega)
        obtain ⟨g03, hg03⟩ : ∃ g03 : Str, g03 = g02 ++ [32] := ⟨_, rfl⟩
        have Lg03 : g03.length ≤ 240000000000 := by rw [hg03, List.length_append]; (try simp only [List.length_cons, List.length_nil]); omega
        have Ag03 : ∀ w, (Op.stringOp .add ⟨g02.toArray⟩ ⟨#[32]⟩).run Tryd.prog w = .ok (.string ⟨g03.toArray⟩) w := add_run (a := g02) (b := [32]) hg03 (by first | decide | omega) (by first | decide | omega)
        obtain ⟨g04, hg04⟩ : ∃ g04 : Str, g04 = g03 ++ td := ⟨_, rfl⟩
        have Lg04 : g04.length ≤ 300000000000 := by rw [hg04, List.length_append]; (try simp only [List.length_cons, List.length_nil]); omega
        have Ag04 : ∀ w, (Op.stringOp .add ⟨g03.toArray⟩ ⟨td.toArray⟩).run Tryd.prog w = .ok (.string ⟨g04.toArray⟩) w := add_run (a := g03) (b := td) hg04 (by first | decide | omega) (by first | decide | omega)
        have HS0 := Lib.hid (show lcS ⟨5, pp, oo, ff, aa, ss, dd⟩ = g04 by
          rw [show lcS ⟨5, pp, oo, ff, aa, ss, dd⟩ = jnW [[119, 114, 105, 116, 101], Lib.itoa ff, Lib.itoa aa, textP dd] from rfl, jn4, hg04, hg03, hg02, hg01, hg00]
          have e1 := HP6.out; have e2 := HP7.out; have e3 := HTP.out; have e4 := HTO.out; have e5 := HTD.out; have e6 := HNF.out; have e7 := HNA.out; have e8 := HNS.out
          subst e1 e2 e3 e4 e5 e6 e7 e8
          simp)
        obtain ⟨qb, hqb⟩ : ∃ qb, qb = decide ((⟨5, pp, oo, ff, aa, ss, dd⟩ : CallP) = ⟨5, [], [], ff, aa, 0, dd⟩) := ⟨_, rfl⟩
        have HQB := Lib.hid hqb
        have HB0 := Lib.hid (show lcB ⟨5, pp, oo, ff, aa, ss, dd⟩ = qb by rw [hqb]; rfl)
        clear hqb hg00 hg01 hg02 hg03 hg04
        obtain ⟨V, hV⟩ : ∃ V, V = (((W2.setCell ⟨w.heap.size + 1, 3, none⟩ (.int .i64 ff)).setCell ⟨w.heap.size + 1, 4, none⟩ (.int .i64 aa)).setCell ⟨w.heap.size + 1, 6, none⟩ (.slice DA dd.length dc)) := ⟨_, rfl⟩
        have KV : Hid (Keep (fun k => k = w.heap.size + 1) W2 V) := Lib.hid (by rw [hV]; exact ((((Keep.refl (fun k => k = w.heap.size + 1) W2).setCell (fun _ => rfl) (.int .i64 ff)).setCell (fun _ => rfl) (.int .i64 aa)).setCell (fun _ => rfl) (.slice DA dd.length dc)))
        have YV : Hid (V.heap[w.heap.size + 1]? = some (.cells #[.int .i64 5, .string ⟨#[]⟩, .string ⟨#[]⟩, .int .i64 ff, .int .i64 aa, .int .i64 0, .slice DA dd.length dc] 24 (0, 0))) := Lib.hid (by rw [hV]; exact (blk_setL (blk_setL (blk_setL CY.out (.int .i64 ff)) (.int .i64 aa)) (.slice DA dd.length dc)))
        have HVE := Lib.hid hV
        clear hV
        have HSX := Lib.hid (fun (w' : World) (k : Keep (fun k => k = w.heap.size + 1) W2 w') => (show w'.cell? ⟨w.heap.size, 3, none⟩ = some (.int .i64 ff) ∧ w'.cell? ⟨w.heap.size, 4, none⟩ = some (.int .i64 aa) ∧ w'.cell? ⟨w.heap.size, 6, none⟩ = some (.slice DA dd.length dc) from by
          have q := blk_cells (HXW.out w' k).1
          exact ⟨(q 3).trans rfl, (q 4).trans rfl, (q 6).trans rfl⟩))
        go_upto_region 44 with fail
        go_region_held3 (fun w' => w'.cell? ⟨w.heap.size, 3, none⟩ = some (.int .i64 ff) ∧ w'.cell? ⟨w.heap.size, 4, none⟩ = some (.int .i64 aa) ∧ w'.cell? ⟨w.heap.size, 6, none⟩ = some (.slice DA dd.length dc)) (first | exact HSX.out _ ((Keep.refl (fun k => k = w.heap.size + 1) W2).drew) | exact HSX.out _ ((Keep.refl (fun k => k = w.heap.size + 1) W2).setCell (p := ⟨w.heap.size + 1, 3, none⟩) (fun _ => rfl) (.int .i64 ff)) | exact HSX.out _ (((Keep.refl (fun k => k = w.heap.size + 1) W2).setCell (p := ⟨w.heap.size + 1, 3, none⟩) (fun _ => rfl) (.int .i64 ff)).drew) | exact HSX.out _ (((Keep.refl (fun k => k = w.heap.size + 1) W2).setCell (p := ⟨w.heap.size + 1, 3, none⟩) (fun _ => rfl) (.int .i64 ff)).setCell (p := ⟨w.heap.size + 1, 4, none⟩) (fun _ => rfl) (.int .i64 aa)) | exact HSX.out _ ((((Keep.refl (fun k => k = w.heap.size + 1) W2).setCell (p := ⟨w.heap.size + 1, 3, none⟩) (fun _ => rfl) (.int .i64 ff)).setCell (p := ⟨w.heap.size + 1, 4, none⟩) (fun _ => rfl) (.int .i64 aa)).drew) | exact HSX.out _ ((((Keep.refl (fun k => k = w.heap.size + 1) W2).setCell (p := ⟨w.heap.size + 1, 3, none⟩) (fun _ => rfl) (.int .i64 ff)).setCell (p := ⟨w.heap.size + 1, 4, none⟩) (fun _ => rfl) (.int .i64 aa)).setCell (p := ⟨w.heap.size + 1, 6, none⟩) (fun _ => rfl) (.slice DA dd.length dc)) | exact HSX.out _ (((((Keep.refl (fun k => k = w.heap.size + 1) W2).setCell (p := ⟨w.heap.size + 1, 3, none⟩) (fun _ => rfl) (.int .i64 ff)).setCell (p := ⟨w.heap.size + 1, 4, none⟩) (fun _ => rfl) (.int .i64 aa)).setCell (p := ⟨w.heap.size + 1, 6, none⟩) (fun _ => rfl) (.slice DA dd.length dc)).drew)) (fail)
        all_goals
          rw [← HVE.out]
          obtain ⟨U, hU⟩ : ∃ U, U = V.drew := ⟨_, rfl⟩
          rw [← hU]
          have KU : Hid (Keep (fun k => k = w.heap.size + 1) W2 U) := Lib.hid (by rw [hU]; exact KV.out.drew)
          have YU : Hid (U.heap[w.heap.size + 1]? = some (.cells #[.int .i64 5, .string ⟨#[]⟩, .string ⟨#[]⟩, .int .i64 ff, .int .i64 aa, .int .i64 0, .slice DA dd.length dc] 24 (0, 0))) := Lib.hid (by rw [hU]; exact YV.out)
          clear hU
          obtain ⟨hx3, hb3⟩ := HXW.out U KU.out
          have q := blk_cells hx3
          have v0 : U.cell? ⟨w.heap.size, 0, none⟩ = some (.int .i64 5) := (q 0).trans rfl
          have v1 : U.cell? ⟨w.heap.size, 1, none⟩ = some (.string ⟨pp.toArray⟩) := (q 1).trans rfl
          have v2 : U.cell? ⟨w.heap.size, 2, none⟩ = some (.string ⟨oo.toArray⟩) := (q 2).trans rfl
          have v3 : U.cell? ⟨w.heap.size, 3, none⟩ = some (.int .i64 ff) := (q 3).trans rfl
          have v4 : U.cell? ⟨w.heap.size, 4, none⟩ = some (.int .i64 aa) := (q 4).trans rfl
          have v5 : U.cell? ⟨w.heap.size, 5, none⟩ = some (.int .i64 ss) := (q 5).trans rfl
          have v6 : U.cell? ⟨w.heap.size, 6, none⟩ = some (.slice DA dd.length dc) := (q 6).trans rfl
          have BV := Lib.hid hb3
          clear hx3 hb3 q
          have HS2 := Lib.hid (fun (w' : World) (k : Keep (fun k => k = w.heap.size + 1) W2 w') => (show w'.cell? ⟨w.heap.size, 4, none⟩ = some (.int .i64 aa) ∧ w'.cell? ⟨w.heap.size, 6, none⟩ = some (.slice DA dd.length dc) ∧ (convert 22 9 (.slice DA dd.length dc)).run Tryd.prog w' = .ok (.string ⟨dd.toArray⟩) w' from by
            obtain ⟨hx, hb⟩ := HXW.out w' k
            have q := blk_cells hx
            exact ⟨(q 4).trans rfl, (q 6).trans rfl, run_conv_bytes (P := Tryd.prog) w' Tryd.underlying22 Tryd.underlying5 Tryd.underlying9 (HDS.out.below hb)⟩))
          go_wp2_with fail
          go_region_held3 (fun w' => w'.cell? ⟨w.heap.size, 4, none⟩ = some (.int .i64 aa) ∧ w'.cell? ⟨w.heap.size, 6, none⟩ = some (.slice DA dd.length dc) ∧ (convert 22 9 (.slice DA dd.length dc)).run Tryd.prog w' = .ok (.string ⟨dd.toArray⟩) w') (first | exact HS2.out _ (KU.out.drew) | exact HS2.out _ K4.out | exact HS2.out _ K3.out)
            (first
              | (go_at_call 15; (with_reducible refine (HN2.out _).mono ?_); rintro e W3 ⟨rfl, hbW3⟩; have K3 := Lib.hid (KU.out.drew.trans (Keep.of_below (S := fun k => k = w.heap.size + 1) hbW3) (fun _ _ h => h)); have Y3 := Lib.hid ((Keep.of_below (S := fun _ => False) hbW3).blk (show U.drew.heap[w.heap.size + 1]? = _ from YU.out) id); clear hbW3)
              | (go_at_call 16; (refine (HT3.out _).mono ?_); rintro e W4 ⟨rfl, hbW4⟩; have K4 := Lib.hid (K3.out.trans (Keep.of_below (S := fun k => k = w.heap.size + 1) hbW4) (fun _ _ h => h)); have Y4 := Lib.hid ((Keep.of_below (S := fun _ => False) hbW4).blk Y3.out id); clear hbW4))
          all_goals
            obtain ⟨hx9, hb9⟩ := HXW.out W4 K4.out
            have q := blk_cells hx9
            have r := blk_cells Y4.out
            have xx0 : W4.cell? ⟨w.heap.size, 0, none⟩ = some (.int .i64 5) := (q 0).trans rfl
            have xx1 : W4.cell? ⟨w.heap.size, 1, none⟩ = some (.string ⟨pp.toArray⟩) := (q 1).trans rfl
            have xx2 : W4.cell? ⟨w.heap.size, 2, none⟩ = some (.string ⟨oo.toArray⟩) := (q 2).trans rfl
            have xx3 : W4.cell? ⟨w.heap.size, 3, none⟩ = some (.int .i64 ff) := (q 3).trans rfl
            have xx4 : W4.cell? ⟨w.heap.size, 4, none⟩ = some (.int .i64 aa) := (q 4).trans rfl
            have xx5 : W4.cell? ⟨w.heap.size, 5, none⟩ = some (.int .i64 ss) := (q 5).trans rfl
            have xx6 : W4.cell? ⟨w.heap.size, 6, none⟩ = some (.slice DA dd.length dc) := (q 6).trans rfl
            have yy0 : W4.cell? ⟨w.heap.size + 1, 0, none⟩ = some (.int .i64 5) := (r 0).trans rfl
            have yy1 : W4.cell? ⟨w.heap.size + 1, 1, none⟩ = some (.string ⟨#[]⟩) := (r 1).trans rfl
            have yy2 : W4.cell? ⟨w.heap.size + 1, 2, none⟩ = some (.string ⟨#[]⟩) := (r 2).trans rfl
            have yy3 : W4.cell? ⟨w.heap.size + 1, 3, none⟩ = some (.int .i64 ff) := (r 3).trans rfl
            have yy4 : W4.cell? ⟨w.heap.size + 1, 4, none⟩ = some (.int .i64 aa) := (r 4).trans rfl
            have yy5 : W4.cell? ⟨w.heap.size + 1, 5, none⟩ = some (.int .i64 0) := (r 5).trans rfl
            have yy6 : W4.cell? ⟨w.heap.size + 1, 6, none⟩ = some (.slice DA dd.length dc) := (r 6).trans rfl
            have HF := Lib.hid (HFIN.out W4 ⟨5, [], [], ff, aa, 0, dd⟩ (.slice DA dd.length dc) ⟨DA, dc, rfl, HDS.out.below hb9⟩ hb9)
            have B9 := Lib.hid hb9
            rw [← HQB.out] at HF
            unfold CallP.cells at HF
            clear hx9 hb9 q r
            go_wp2_with fail
            refine HF.out.mono ?_
            rintro e W9 ⟨rfl, h9⟩
            have B8 := Lib.hid (B9.out.trans (h9.mono B9.out.size))
            clear h9
            go_wp2
            go_ret2
            exact ⟨by rw [HS0.out, HB0.out]; rfl, B8.out⟩
      · clear hk
        obtain ⟨g00, hg00⟩ : ∃ g00 : Str, g00 = [116, 114, 117, 110, 99] ++ p7 := ⟨_, rfl⟩
        have Lg00 : g00.length ≤ 60000000000 := by rw [hg00, List.length_append]; (try simp only [List.length_cons, List.length_nil]); omega
        have Ag00 : ∀ w, (Op.stringOp .add ⟨#[116, 114, 117, 110, 99]⟩ ⟨p7.toArray⟩).run Tryd.prog w = .ok (.string ⟨g00.toArray⟩) w := add_run (a := [116, 114, 117, 110, 99]) (b := p7) hg00 (by first | decide | omega) (by first | decide | omega)
        obtain ⟨g01, hg01⟩ : ∃ g01 : Str, g01 = g00 ++ [32] := ⟨_, rfl⟩
        have Lg01 : g01.length ≤ 120000000000 := by rw [hg01, List.length_append]; (try simp only [List.length_cons, List.length_nil]); omega
        have Ag01 : ∀ w, (Op.stringOp .add ⟨g00.toArray⟩ ⟨#[32]⟩).run Tryd.prog w = .ok (.string ⟨g01.toArray⟩) w := add_run (a := g00) (b := [32]) hg01 (by first | decide | omega) (by first | decide | omega)
        obtain ⟨g02, hg02⟩ : ∃ g02 : Str, g02 = g01 ++ ns := ⟨_, rfl⟩
        have Lg02 : g02.length ≤ 180000000000 := by rw [hg02, List.length_append]; (try simp only [List.length_cons, List.length_nil]); omega
        have Ag02 : ∀ w, (Op.stringOp .add ⟨g01.toArray⟩ ⟨ns.toArray⟩).run Tryd.prog w = .ok (.string ⟨g02.toArray⟩) w := add_run (a := g01) (b := ns) hg02 (by first | decide | omega) (by first | decide | omega)
        have HS0 := Lib.hid (show lcS ⟨6, pp, oo, ff, aa, ss, dd⟩ = g02 by
          rw [show lcS ⟨6, pp, oo, ff, aa, ss, dd⟩ = jnW [[116, 114, 117, 110, 99], Lib.itoa ff, Lib.itoa ss] from rfl, jn3, hg02, hg01, hg00]
          have e1 := HP6.out; have e2 := HP7.out; have e3 := HTP.out; have e4 := HTO.out; have e5 := HTD.out; have e6 := HNF.out; have e7 := HNA.out; have e8 := HNS.out
          subst e1 e2 e3 e4 e5 e6 e7 e8
          simp)
        obtain ⟨qb, hqb⟩ : ∃ qb, qb = decide ((⟨6, pp, oo, ff, aa, ss, dd⟩ : CallP) = ⟨6, [], [], ff, 0, ss, []⟩) := ⟨_, rfl⟩
        have HQB := Lib.hid hqb
        have HB0 := Lib.hid (show lcB ⟨6, pp, oo, ff, aa, ss, dd⟩ = qb by rw [hqb]; rfl)
        clear hqb hg00 hg01 hg02
        obtain ⟨V, hV⟩ : ∃ V, V = ((W2.setCell ⟨w.heap.size + 1, 3, none⟩ (.int .i64 ff)).setCell ⟨w.heap.size + 1, 5, none⟩ (.int .i64 ss)) := ⟨_, rfl⟩
        have KV : Hid (Keep (fun k => k = w.heap.size + 1) W2 V) := Lib.hid (by rw [hV]; exact (((Keep.refl (fun k => k = w.heap.size + 1) W2).setCell (fun _ => rfl) (.int .i64 ff)).setCell (fun _ => rfl) (.int .i64 ss)))
        have YV : Hid (V.heap[w.heap.size + 1]? = some (.cells #[.int .i64 6, .string ⟨#[]⟩, .string ⟨#[]⟩, .int .i64 ff, .int .i64 0, .int .i64 ss, .slice none 0 0] 24 (0, 0))) := Lib.hid (by rw [hV]; exact (blk_setL (blk_setL CY.out (.int .i64 ff)) (.int .i64 ss)))
        have HVE := Lib.hid hV
        clear hV
        have HSX := Lib.hid (fun (w' : World) (k : Keep (fun k => k = w.heap.size + 1) W2 w') => (show w'.cell? ⟨w.heap.size, 3, none⟩ = some (.int .i64 ff) ∧ w'.cell? ⟨w.heap.size, 5, none⟩ = some (.int .i64 ss) from by
          have q := blk_cells (HXW.out w' k).1
          exact ⟨(q 3).trans rfl, (q 5).trans rfl⟩))
        go_upto_region 47 with fail
        go_region_held3 (fun w' => w'.cell? ⟨w.heap.size, 3, none⟩ = some (.int .i64 ff) ∧ w'.cell? ⟨w.heap.size, 5, none⟩ = some (.int .i64 ss)) (first | exact HSX.out _ ((Keep.refl (fun k => k = w.heap.size + 1) W2).drew) | exact HSX.out _ ((Keep.refl (fun k => k = w.heap.size + 1) W2).setCell (p := ⟨w.heap.size + 1, 3, none⟩) (fun _ => rfl) (.int .i64 ff)) | exact HSX.out _ (((Keep.refl (fun k => k = w.heap.size + 1) W2).setCell (p := ⟨w.heap.size + 1, 3, none⟩) (fun _ => rfl) (.int .i64 ff)).drew) | exact HSX.out _ (((Keep.refl (fun k => k = w.heap.size + 1) W2).setCell (p := ⟨w.heap.size + 1, 3, none⟩) (fun _ => rfl) (.int .i64 ff)).setCell (p := ⟨w.heap.size + 1, 5, none⟩) (fun _ => rfl) (.int .i64 ss)) | exact HSX.out _ ((((Keep.refl (fun k => k = w.heap.size + 1) W2).setCell (p := ⟨w.heap.size + 1, 3, none⟩) (fun _ => rfl) (.int .i64 ff)).setCell (p := ⟨w.heap.size + 1, 5, none⟩) (fun _ => rfl) (.int .i64 ss)).drew)) (fail)
        all_goals
          rw [← HVE.out]
          obtain ⟨U, hU⟩ : ∃ U, U = V.drew := ⟨_, rfl⟩
          rw [← hU]
          have KU : Hid (Keep (fun k => k = w.heap.size + 1) W2 U) := Lib.hid (by rw [hU]; exact KV.out.drew)
          have YU : Hid (U.heap[w.heap.size + 1]? = some (.cells #[.int .i64 6, .string ⟨#[]⟩, .string ⟨#[]⟩, .int .i64 ff, .int .i64 0, .int .i64 ss, .slice none 0 0] 24 (0, 0))) := Lib.hid (by rw [hU]; exact YV.out)
          clear hU
          obtain ⟨hx3, hb3⟩ := HXW.out U KU.out
          have q := blk_cells hx3
          have v0 : U.cell? ⟨w.heap.size, 0, none⟩ = some (.int .i64 6) := (q 0).trans rfl
          have v1 : U.cell? ⟨w.heap.size, 1, none⟩ = some (.string ⟨pp.toArray⟩) := (q 1).trans rfl
          have v2 : U.cell? ⟨w.heap.size, 2, none⟩ = some (.string ⟨oo.toArray⟩) := (q 2).trans rfl
          have v3 : U.cell? ⟨w.heap.size, 3, none⟩ = some (.int .i64 ff) := (q 3).trans rfl
          have v4 : U.cell? ⟨w.heap.size, 4, none⟩ = some (.int .i64 aa) := (q 4).trans rfl
          have v5 : U.cell? ⟨w.heap.size, 5, none⟩ = some (.int .i64 ss) := (q 5).trans rfl
          have v6 : U.cell? ⟨w.heap.size, 6, none⟩ = some (.slice DA dd.length dc) := (q 6).trans rfl
          have BV := Lib.hid hb3
          clear hx3 hb3 q
          go_wp2_with fail
          refine (HN3.out _).mono ?_
          rintro e W3 ⟨rfl, hbW3⟩
          have K3 := Lib.hid (KU.out.trans (Keep.of_below (S := fun k => k = w.heap.size + 1) hbW3) (fun _ _ h => h))
          have Y3 := Lib.hid ((Keep.of_below (S := fun _ => False) hbW3).blk YU.out id)
          clear hbW3
          have q := blk_cells (HXW.out W3 K3.out).1
          have uW30 : W3.cell? ⟨w.heap.size, 0, none⟩ = some (.int .i64 6) := (q 0).trans rfl
          have uW32 : W3.cell? ⟨w.heap.size, 2, none⟩ = some (.string ⟨oo.toArray⟩) := (q 2).trans rfl
          clear q
          obtain ⟨hx9, hb9⟩ := HXW.out W3 K3.out
          have q := blk_cells hx9
          have r := blk_cells Y3.out
          have xx0 : W3.cell? ⟨w.heap.size, 0, none⟩ = some (.int .i64 6) := (q 0).trans rfl
          have xx1 : W3.cell? ⟨w.heap.size, 1, none⟩ = some (.string ⟨pp.toArray⟩) := (q 1).trans rfl
          have xx2 : W3.cell? ⟨w.heap.size, 2, none⟩ = some (.string ⟨oo.toArray⟩) := (q 2).trans rfl
          have xx3 : W3.cell? ⟨w.heap.size, 3, none⟩ = some (.int .i64 ff) := (q 3).trans rfl
          have xx4 : W3.cell? ⟨w.heap.size, 4, none⟩ = some (.int .i64 aa) := (q 4).trans rfl
          have xx5 : W3.cell? ⟨w.heap.size, 5, none⟩ = some (.int .i64 ss) := (q 5).trans rfl
          have xx6 : W3.cell? ⟨w.heap.size, 6, none⟩ = some (.slice DA dd.length dc) := (q 6).trans rfl
          have yy0 : W3.cell? ⟨w.heap.size + 1, 0, none⟩ = some (.int .i64 6) := (r 0).trans rfl
          have yy1 : W3.cell? ⟨w.heap.size + 1, 1, none⟩ = some (.string ⟨#[]⟩) := (r 1).trans rfl
          have yy2 : W3.cell? ⟨w.heap.size + 1, 2, none⟩ = some (.string ⟨#[]⟩) := (r 2).trans rfl
          have yy3 : W3.cell? ⟨w.heap.size + 1, 3, none⟩ = some (.int .i64 ff) := (r 3).trans rfl
          have yy4 : W3.cell? ⟨w.heap.size + 1, 4, none⟩ = some (.int .i64 0) := (r 4).trans rfl
          have yy5 : W3.cell? ⟨w.heap.size + 1, 5, none⟩ = some (.int .i64 ss) := (r 5).trans rfl
          have yy6 : W3.cell? ⟨w.heap.size + 1, 6, none⟩ = some (.slice none 0 0) := (r 6).trans rfl
          have HF := Lib.hid (HFIN.out W3 ⟨6, [], [], ff, 0, ss, []⟩ (.slice none 0 0) (DataT.nil _).r hb9)
          have B9 := Lib.hid hb9
          rw [← HQB.out] at HF
          unfold CallP.cells at HF
          clear hx9 hb9 q r
          go_wp2_with fail
          refine HF.out.mono ?_
          rintro e W9 ⟨rfl, h9⟩
          have B8 := Lib.hid (B9.out.trans (h9.mono B9.out.size))
          clear h9
          go_wp2
          go_ret2
          exact ⟨by rw [HS0.out, HB0.out]; rfl, B8.out⟩
      · clear hk
        obtain ⟨g00, hg00⟩ : ∃ g00 : Str, g00 = [115, 121, 110, 99] ++ p7 := ⟨_, rfl⟩
        have Lg00 : g00.length ≤ 60000000000 := by rw [hg00, List.length_append]; (try simp only [List.length_cons, List.length_nil]); omega
        have Ag00 : ∀ w, (Op.stringOp .add ⟨#[115, 121, 110, 99]⟩ ⟨p7.toArray⟩).run Tryd.prog w = .ok (.string ⟨g00.toArray⟩) w := add_run (a := [115, 121, 110, 99]) (b := p7) hg00 (by first | decide | omega) (by first | decide | omega)
        have HS0 := Lib.hid (show lcS ⟨7, pp, oo, ff, aa, ss, dd⟩ = g00 by
          rw [show lcS ⟨7, pp, oo, ff, aa, ss, dd⟩ = jnW [[115, 121, 110, 99], Lib.itoa ff] from rfl, jn2, hg00]
          have e1 := HP6.out; have e2 := HP7.out; have e3 := HTP.out; have e4 := HTO.out; have e5 := HTD.out; have e6 := HNF.out; have e7 := HNA.out; have e8 := HNS.out
          subst e1 e2 e3 e4 e5 e6 e7 e8
          simp)
        obtain ⟨qb, hqb⟩ : ∃ qb, qb = decide ((⟨7, pp, oo, ff, aa, ss, dd⟩ : CallP) = ⟨7, [], [], ff, 0, 0, []⟩) := ⟨_, rfl⟩
        have HQB := Lib.hid hqb
        have HB0 := Lib.hid (show lcB ⟨7, pp, oo, ff, aa, ss, dd⟩ = qb by rw [hqb]; rfl)
        clear hqb hg00
        obtain ⟨V, hV⟩ : ∃ V, V = (W2.setCell ⟨w.heap.size + 1, 3, none⟩ (.int .i64 ff)) := ⟨_, rfl⟩
        have KV : Hid (Keep (fun k => k = w.heap.size + 1) W2 V) := Lib.hid (by rw [hV]; exact ((Keep.refl (fun k => k = w.heap.size + 1) W2).setCell (fun _ => rfl) (.int .i64 ff)))
        have YV : Hid (V.heap[w.heap.size + 1]? = some (.cells #[.int .i64 7, .string ⟨#[]⟩, .string ⟨#[]⟩, .int .i64 ff, .int .i64 0, .int .i64 0, .slice none 0 0] 24 (0, 0))) := Lib.hid (by rw [hV]; exact (blk_setL CY.out (.int .i64 ff)))
        have HVE := Lib.hid hV
        clear hV
        go_upto_region 49 with fail
        rw [← HVE.out]
        obtain ⟨hx9, hb9⟩ := HXW.out V KV.out
        have q := blk_cells hx9
        have r := blk_cells YV.out
        have xx0 : V.cell? ⟨w.heap.size, 0, none⟩ = some (.int .i64 7) := (q 0).trans rfl
        have xx1 : V.cell? ⟨w.heap.size, 1, none⟩ = some (.string ⟨pp.toArray⟩) := (q 1).trans rfl
        have xx2 : V.cell? ⟨w.heap.size, 2, none⟩ = some (.string ⟨oo.toArray⟩) := (q 2).trans rfl
        have xx3 : V.cell? ⟨w.heap.size, 3, none⟩ = some (.int .i64 ff) := (q 3).trans rfl
        have xx4 : V.cell? ⟨w.heap.size, 4, none⟩ = some (.int .i64 aa) := (q 4).trans rfl
        have xx5 : V.cell? ⟨w.heap.size, 5, none⟩ = some (.int .i64 ss) := (q 5).trans rfl
        have xx6 : V.cell? ⟨w.heap.size, 6, none⟩ = some (.slice DA dd.length dc) := (q 6).trans rfl
        have yy0 : V.cell? ⟨w.heap.size + 1, 0, none⟩ = some (.int .i64 7) := (r 0).trans rfl
        have yy1 : V.cell? ⟨w.heap.size + 1, 1, none⟩ = some (.string ⟨#[]⟩) := (r 1).trans rfl
        have yy2 : V.cell? ⟨w.heap.size + 1, 2, none⟩ = some (.string ⟨#[]⟩) := (r 2).trans rfl
        have yy3 : V.cell? ⟨w.heap.size + 1, 3, none⟩ = some (.int .i64 ff) := (r 3).trans rfl
        have yy4 : V.cell? ⟨w.heap.size + 1, 4, none⟩ = some (.int .i64 0) := (r 4).trans rfl
        have yy5 : V.cell? ⟨w.heap.size + 1, 5, none⟩ = some (.int .i64 0) := (r 5).trans rfl
        have yy6 : V.cell? ⟨w.heap.size + 1, 6, none⟩ = some (.slice none 0 0) := (r 6).trans rfl
        have HF := Lib.hid (HFIN.out V ⟨7, [], [], ff, 0, 0, []⟩ (.slice none 0 0) (DataT.nil _).r hb9)
        have B9 := Lib.hid hb9
        rw [← HQB.out] at HF
        unfold CallP.cells at HF
        clear hx9 hb9 q r
        go_wp2_with fail
        refine HF.out.mono ?_
        rintro e W9 ⟨rfl, h9⟩
        have B8 := Lib.hid (B9.out.trans (h9.mono B9.out.size))
        clear h9
        go_wp2
        go_ret2
        exact ⟨by rw [HS0.out, HB0.out]; rfl, B8.out⟩
      · clear hk
        obtain ⟨g00, hg00⟩ : ∃ g00 : Str, g00 = [115, 116, 97, 116] ++ p6 := ⟨_, rfl⟩
        have Lg00 : g00.length ≤ 60000000000 := by rw [hg00, List.length_append]; (try simp only [List.length_cons, List.length_nil]); omega
        have Ag00 : ∀ w, (Op.stringOp .add ⟨#[115, 116, 97, 116]⟩ ⟨p6.toArray⟩).run Tryd.prog w = .ok (.string ⟨g00.toArray⟩) w := add_run (a := [115, 116, 97, 116]) (b := p6) hg00 (by first | decide | omega) (by first | decide | omega)
        have HS0 := Lib.hid (show lcS ⟨8, pp, oo, ff, aa, ss, dd⟩ = g00 by
          rw [show lcS ⟨8, pp, oo, ff, aa, ss, dd⟩ = jnW [[115, 116, 97, 116], textP pp] from rfl, jn2, hg00]
          have e1 := HP6.out; have e2 := HP7.out; have e3 := HTP.out; have e4 := HTO.out; have e5 := HTD.out; have e6 := HNF.out; have e7 := HNA.out; have e8 := HNS.out
          subst e1 e2 e3 e4 e5 e6 e7 e8
          simp)
        obtain ⟨qb, hqb⟩ : ∃ qb, qb = decide ((⟨8, pp, oo, ff, aa, ss, dd⟩ : CallP) = ⟨8, pp, [], 0, 0, 0, []⟩) := ⟨_, rfl⟩
        have HQB := Lib.hid hqb
        have HB0 := Lib.hid (show lcB ⟨8, pp, oo, ff, aa, ss, dd⟩ = qb by rw [hqb]; rfl)
        clear hqb hg00
        obtain ⟨V, hV⟩ : ∃ V, V = (W2.setCell ⟨w.heap.size + 1, 1, none⟩ (.string ⟨pp.toArray⟩)) := ⟨_, rfl⟩
        have KV : Hid (Keep (fun k => k = w.heap.size + 1) W2 V) := Lib.hid (by rw [hV]; exact ((Keep.refl (fun k => k = w.heap.size + 1) W2).setCell (fun _ => rfl) (.string ⟨pp.toArray⟩)))
        have YV : Hid (V.heap[w.heap.size + 1]? = some (.cells #[.int .i64 8, .string ⟨pp.toArray⟩, .string ⟨#[]⟩, .int .i64 0, .int .i64 0, .int .i64 0, .slice none 0 0] 24 (0, 0))) := Lib.hid (by rw [hV]; exact (blk_setL CY.out (.string ⟨pp.toArray⟩)))
        have HVE := Lib.hid hV
        clear hV
        go_upto_region 49 with fail
        rw [← HVE.out]
        obtain ⟨hx9, hb9⟩ := HXW.out V KV.out
        have q := blk_cells hx9
        have r := blk_cells YV.out
        have xx0 : V.cell? ⟨w.heap.size, 0, none⟩ = some (.int .i64 8) := (q 0).trans rfl
        have xx1 : V.cell? ⟨w.heap.size, 1, none⟩ = some (.string ⟨pp.toArray⟩) := (q 1).trans rfl
        have xx2 : V.cell? ⟨w.heap.size, 2, none⟩ = some (.string ⟨oo.toArray⟩) := (q 2).trans rfl
        have xx3 : V.cell? ⟨w.heap.size, 3, none⟩ = some (.int .i64 ff) := (q 3).trans rfl
        have xx4 : V.cell? ⟨w.heap.size, 4, none⟩ = some (.int .i64 aa) := (q 4).trans rfl
        have xx5 : V.cell? ⟨w.heap.size, 5, none⟩ = some (.int .i64 ss) := (q 5).trans rfl
        have xx6 : V.cell? ⟨w.heap.size, 6, none⟩ = some (.slice DA dd.length dc) := (q 6).trans rfl
        have yy0 : V.cell? ⟨w.heap.size + 1, 0, none⟩ = some (.int .i64 8) := (r 0).trans rfl
        have yy1 : V.cell? ⟨w.heap.size + 1, 1, none⟩ = some (.string ⟨pp.toArray⟩) := (r 1).trans rfl
        have yy2 : V.cell? ⟨w.heap.size + 1, 2, none⟩ = some (.string ⟨#[]⟩) := (r 2).trans rfl
        have yy3 : V.cell? ⟨w.heap.size + 1, 3, none⟩ = some (.int .i64 0) := (r 3).trans rfl
        have yy4 : V.cell? ⟨w.heap.size + 1, 4, none⟩ = some (.int .i64 0) := (r 4).trans rfl
        have yy5 : V.cell? ⟨w.heap.size + 1, 5, none⟩ = some (.int .i64 0) := (r 5).trans rfl
        have yy6 : V.cell? ⟨w.heap.size + 1, 6, none⟩ = some (.slice none 0 0) := (r 6).trans rfl
        have HF := Lib.hid (HFIN.out V ⟨8, pp, [], 0, 0, 0, []⟩ (.slice none 0 0) (DataT.nil _).r hb9)
        have B9 := Lib.hid hb9
        rw [← HQB.out] at HF
        unfold CallP.cells at HF
        clear hx9 hb9 q r
        go_wp2_with fail
        refine HF.out.mono ?_
        rintro e W9 ⟨rfl, h9⟩
        have B8 := Lib.hid (B9.out.trans (h9.mono B9.out.size))
        clear h9
        go_wp2
        go_ret2
        exact ⟨by rw [HS0.out, HB0.out]; rfl, B8.out⟩
      · clear hk
        obtain ⟨g00, hg00⟩ : ∃ g00 : Str, g00 = [109, 107, 100, 105, 114] ++ p6 := ⟨_, rfl⟩
        have Lg00 : g00.length ≤ 60000000000 := by rw [hg00, List.length_append]; (try simp only [List.length_cons, List.length_nil]); omega
        have Ag00 : ∀ w, (Op.stringOp .add ⟨#[109, 107, 100, 105, 114]⟩ ⟨p6.toArray⟩).run Tryd.prog w = .ok (.string ⟨g00.toArray⟩) w := add_run (a := [109, 107, 100, 105, 114]) (b := p6) hg00 (by first | decide | omega) (by first | decide | omega)
        have HS0 := Lib.hid (show lcS ⟨9, pp, oo, ff, aa, ss, dd⟩ = g00 by
          rw [show lcS ⟨9, pp, oo, ff, aa, ss, dd⟩ = jnW [[109, 107, 100, 105, 114], textP pp] from rfl, jn2, hg00]
          have e1 := HP6.out; have e2 := HP7.out; have e3 := HTP.out; have e4 := HTO.out; have e5 := HTD.out; have e6 := HNF.out; have e7 := HNA.out; have e8 := HNS.out
          subst e1 e2 e3 e4 e5 e6 e7 e8
          simp)
        obtain ⟨qb, hqb⟩ : ∃ qb, qb = decide ((⟨9, pp, oo, ff, aa, ss, dd⟩ : CallP) = ⟨9, pp, [], 0, 0, 0, []⟩) := ⟨_, rfl⟩
        have HQB := Lib.hid hqb
        have HB0 := Lib.hid (show lcB ⟨9, pp, oo, ff, aa, ss, dd⟩ = qb by rw [hqb]; rfl)
        clear hqb hg00
        obtain ⟨V, hV⟩ : ∃ V, V = (W2.setCell ⟨w.heap.size + 1, 1, none⟩ (.string ⟨pp.toArray⟩)) := ⟨_, rfl⟩
        have KV : Hid (Keep (fun k => k = w.heap.size + 1) W2 V) := Lib.hid (by rw [hV]; exact ((Keep.refl (fun k => k = w.heap.size + 1) W2).setCell (fun _ => rfl) (.string ⟨pp.toArray⟩)))
        have YV : Hid (V.heap[w.heap.size + 1]? = some (.cells #[.int .i64 9, .string ⟨pp.toArray⟩, .string ⟨#[]⟩, .int .i64 0, .int .i64 0, .int .i64 0, .slice none 0 0] 24 (0, 0))) := Lib.hid (by rw [hV]; exact (blk_setL CY.out (.string ⟨pp.toArray⟩)))
        have HVE := Lib.hid hV
        clear hV
        go_upto_region 49 with fail
        rw [← HVE.out]
        obtain ⟨hx9, hb9⟩ := HXW.out V KV.out
        have q := blk_cells hx9
        have r := blk_cells YV.out
        have xx0 : V.cell? ⟨w.heap.size, 0, none⟩ = some (.int .i64 9) := (q 0).trans rfl
        have xx1 : V.cell? ⟨w.heap.size, 1, none⟩ = some (.string ⟨pp.toArray⟩) := (q 1).trans rfl
        have xx2 : V.cell? ⟨w.heap.size, 2, none⟩ = some (.string ⟨oo.toArray⟩) := (q 2).trans rfl
        have xx3 : V.cell? ⟨w.heap.size, 3, none⟩ = some (.int .i64 ff) := (q 3).trans rfl
        have xx4 : V.cell? ⟨w.heap.size, 4, none⟩ = some (.int .i64 aa) := (q 4).trans rfl
        have xx5 : V.cell? ⟨w.heap.size, 5, none⟩ = some (.int .i64 ss) := (q 5).trans rfl
        have xx6 : V.cell? ⟨w.heap.size, 6, none⟩ = some (.slice DA dd.length dc) := (q 6).trans rfl
        have yy0 : V.cell? ⟨w.heap.size + 1, 0, none⟩ = some (.int .i64 9) := (r 0).trans rfl
        have yy1 : V.cell? ⟨w.heap.size + 1, 1, none⟩ = some (.string ⟨pp.toArray⟩) := (r 1).trans rfl
        have yy2 : V.cell? ⟨w.heap.size + 1, 2, none⟩ = some (.string ⟨#[]⟩) := (r 2).trans rfl
        have yy3 : V.cell? ⟨w.heap.size + 1, 3, none⟩ = some (.int .i64 0) := (r 3).trans rfl
        have yy4 : V.cell? ⟨w.heap.size + 1, 4, none⟩ = some (.int .i64 0) := (r 4).trans rfl
        have yy5 : V.cell? ⟨w.heap.size + 1, 5, none⟩ = some (.int .i64 0) := (r 5).trans rfl
        have yy6 : V.cell? ⟨w.heap.size + 1, 6, none⟩ = some (.slice none 0 0) := (r 6).trans rfl
        have HF := Lib.hid (HFIN.out V ⟨9, pp, [], 0, 0, 0, []⟩ (.slice none 0 0) (DataT.nil _).r hb9)
        have B9 := Lib.hid hb9
        rw [← HQB.out] at HF
        unfold CallP.cells at HF
        clear hx9 hb9 q r
        go_wp2_with fail
        refine HF.out.mono ?_
        rintro e W9 ⟨rfl, h9⟩
        have B8 := Lib.hid (B9.out.trans (h9.mono B9.out.size))
        clear h9
        go_wp2
        go_ret2
        exact ⟨by rw [HS0.out, HB0.out]; rfl, B8.out⟩
      · clear hk
        obtain ⟨g00, hg00⟩ : ∃ g00 : Str, g00 = [108, 105, 110, 107] ++ p6 := ⟨_, rfl⟩
        have Lg00 : g00.length ≤ 60000000000 := by rw [hg00, List.length_append]; (try simp only [List.length_cons, List.length_nil]); omega
        have Ag00 : ∀ w, (Op.stringOp .add ⟨#[108, 105, 110, 107]⟩ ⟨p6.toArray⟩).run Tryd.prog w = .ok (.string ⟨g00.toArray⟩) w := add_run (a := [108, 105, 110, 107]) (b := p6) hg00 (by first | decide | omega) (by first | decide | omega)
        obtain ⟨g01, hg01⟩ : ∃ g01 : Str, g01 = g00 ++ [32] := ⟨_, rfl⟩
        have Lg01 : g01.length ≤ 120000000000 := by rw [hg01, List.length_append]; (try simp only [List.length_cons, List.length_nil]); omega
        have Ag01 : ∀ w, (Op.stringOp .add ⟨g00.toArray⟩ ⟨#[32]⟩).run Tryd.prog w = .ok (.string ⟨g01.toArray⟩) w := add_run (a := g00) (b := [32]) hg01 (by first | decide | omega) (by first | decide | omega)
        obtain ⟨g02, hg02⟩ : ∃ g02 : Str, g02 = g01 ++ to_ := ⟨_, rfl⟩
        have Lg02 : g02.length ≤ 180000000000 := by rw [hg02, List.length_append]; (try simp only [List.length_cons, List.length_nil]); omega
        have Ag02 : ∀ w, (Op.stringOp .add ⟨g01.toArray⟩ ⟨to_.toArray⟩).run Tryd.prog w = .ok (.string ⟨g02.toArray⟩) w := add_run (a := g01) (b := to_) hg02 (by first | decide | omega) (by first | decide | omega)
        have HS0 := Lib.hid (show lcS ⟨10, pp, oo, ff, aa, ss, dd⟩ = g02 by
          rw [show lcS ⟨10, pp, oo, ff, aa, ss, dd⟩ = jnW [[108, 105, 110, 107], textP pp, textP oo] from rfl, jn3, hg02, hg01, hg00]
          have e1 := HP6.out; have e2 := HP7.out; have e3 := HTP.out; have e4 := HTO.out; have e5 := HTD.out; have e6 := HNF.out; have e7 := HNA.out; have e8 := HNS.out
          subst e1 e2 e3 e4 e5 e6 e7 e8
          simp)
        obtain ⟨qb, hqb⟩ : ∃ qb, qb = decide ((⟨10, pp, oo, ff, aa, ss, dd⟩ : CallP) = ⟨10, pp, oo, 0, 0, 0, []⟩) := ⟨_, rfl⟩
        have HQB := Lib.hid hqb
        have HB0 := Lib.hid (show lcB ⟨10, pp, oo, ff, aa, ss, dd⟩ = qb by rw [hqb]; rfl)
        clear hqb hg00 hg01 hg02
        obtain ⟨V, hV⟩ : ∃ V, V = ((W2.setCell ⟨w.heap.size + 1, 1, none⟩ (.string ⟨pp.toArray⟩)).setCell ⟨w.heap.size + 1, 2, none⟩ (.string ⟨oo.toArray⟩)) := ⟨_, rfl⟩
        have KV : Hid (Keep (fun k => k = w.heap.size + 1) W2 V) := Lib.hid (by rw [hV]; exact (((Keep.refl (fun k => k = w.heap.size + 1) W2).setCell (fun _ => rfl) (.string ⟨pp.toArray⟩)).setCell (fun _ => rfl) (.string ⟨oo.toArray⟩)))
        have YV : Hid (V.heap[w.heap.size + 1]? = some (.cells #[.int .i64 10, .string ⟨pp.toArray⟩, .string ⟨oo.toArray⟩, .int .i64 0, .int .i64 0, .int .i64 0, .slice none 0 0] 24 (0, 0))) := Lib.hid (by rw [hV]; exact (blk_setL (blk_setL CY.out (.string ⟨pp.toArray⟩)) (.string ⟨oo.toArray⟩)))
        have HVE := Lib.hid hV
        clear hV
        have HSX := Lib.hid (fun (w' : World) (k : Keep (fun k => k = w.heap.size + 1) W2 w') => (show w'.cell? ⟨w.heap.size, 1, none⟩ = some (.string ⟨pp.toArray⟩) ∧ w'.cell? ⟨w.heap.size, 2, none⟩ = some (.string ⟨oo.toArray⟩) from by
          have q := blk_cells (HXW.out w' k).1
          exact ⟨(q 1).trans rfl, (q 2).trans rfl⟩))
        go_upto_region 30 with fail
        go_region_held3 (fun w' => w'.cell? ⟨w.heap.size, 1, none⟩ = some (.string ⟨pp.toArray⟩) ∧ w'.cell? ⟨w.heap.size, 2, none⟩ = some (.string ⟨oo.toArray⟩)) (first | exact HSX.out _ ((Keep.refl (fun k => k = w.heap.size + 1) W2).drew) | exact HSX.out _ ((Keep.refl (fun k => k = w.heap.size + 1) W2).setCell (p := ⟨w.heap.size + 1, 1, none⟩) (fun _ => rfl) (.string ⟨pp.toArray⟩)) | exact HSX.out _ (((Keep.refl (fun k => k = w.heap.size + 1) W2).setCell (p := ⟨w.heap.size + 1, 1, none⟩) (fun _ => rfl) (.string ⟨pp.toArray⟩)).drew) | exact HSX.out _ (((Keep.refl (fun k => k = w.heap.size + 1) W2).setCell (p := ⟨w.heap.size + 1, 1, none⟩) (fun _ => rfl) (.string ⟨pp.toArray⟩)).setCell (p := ⟨w.heap.size + 1, 2, none⟩) (fun _ => rfl) (.string ⟨oo.toArray⟩)) | exact HSX.out _ ((((Keep.refl (fun k => k = w.heap.size + 1) W2).setCell (p := ⟨w.heap.size + 1, 1, none⟩) (fun _ => rfl) (.string ⟨pp.toArray⟩)).setCell (p := ⟨w.heap.size + 1, 2, none⟩) (fun _ => rfl) (.string ⟨oo.toArray⟩)).drew)) (fail)
        all_goals
          rw [← HVE.out]
          obtain ⟨U, hU⟩ : ∃ U, U = V.drew := ⟨_, rfl⟩
          rw [← hU]
          have KU : Hid (Keep (fun k => k = w.heap.size + 1) W2 U) := Lib.hid (by rw [hU]; exact KV.out.drew)
          have YU : Hid (U.heap[w.heap.size + 1]? = some (.cells #[.int .i64 10, .string ⟨pp.toArray⟩, .string ⟨oo.toArray⟩, .int .i64 0, .int .i64 0, .int .i64 0, .slice none 0 0] 24 (0, 0))) := Lib.hid (by rw [hU]; exact YV.out)
          clear hU
          obtain ⟨hx3, hb3⟩ := HXW.out U KU.out
          have q := blk_cells hx3
          have v0 : U.cell? ⟨w.heap.size, 0, none⟩ = some (.int .i64 10) := (q 0).trans rfl
          have v1 : U.cell? ⟨w.heap.size, 1, none⟩ = some (.string ⟨pp.toArray⟩) := (q 1).trans rfl
          have v2 : U.cell? ⟨w.heap.size, 2, none⟩ = some (.string ⟨oo.toArray⟩) := (q 2).trans rfl
          have v3 : U.cell? ⟨w.heap.size, 3, none⟩ = some (.int .i64 ff) := (q 3).trans rfl
          have v4 : U.cell? ⟨w.heap.size, 4, none⟩ = some (.int .i64 aa) := (q 4).trans rfl
          have v5 : U.cell? ⟨w.heap.size, 5, none⟩ = some (.int .i64 ss) := (q 5).trans rfl
          have v6 : U.cell? ⟨w.heap.size, 6, none⟩ = some (.slice DA dd.length dc) := (q 6).trans rfl
          have BV := Lib.hid hb3
          clear hx3 hb3 q
          go_wp2_with fail
          refine (HT2.out _).mono ?_
          rintro e W3 ⟨rfl, hbW3⟩
          have K3 := Lib.hid (KU.out.trans (Keep.of_below (S := fun k => k = w.heap.size + 1) hbW3) (fun _ _ h => h))
          have Y3 := Lib.hid ((Keep.of_below (S := fun _ => False) hbW3).blk YU.out id)
          clear hbW3
          have q := blk_cells (HXW.out W3 K3.out).1
          have uW30 : W3.cell? ⟨w.heap.size, 0, none⟩ = some (.int .i64 10) := (q 0).trans rfl
          have uW32 : W3.cell? ⟨w.heap.size, 2, none⟩ = some (.string ⟨oo.toArray⟩) := (q 2).trans rfl
          clear q
          obtain ⟨hx9, hb9⟩ := HXW.out W3 K3.out
          have q := blk_cells hx9
          have r := blk_cells Y3.out
          have xx0 : W3.cell? ⟨w.heap.size, 0, none⟩ = some (.int .i64 10) := (q 0).trans rfl
          have xx1 : W3.cell? ⟨w.heap.size, 1, none⟩ = some (.string ⟨pp.toArray⟩) := (q 1).trans rfl
          have xx2 : W3.cell? ⟨w.heap.size, 2, none⟩ = some (.string ⟨oo.toArray⟩) := (q 2).trans rfl
          have xx3 : W3.cell? ⟨w.heap.size, 3, none⟩ = some (.int .i64 ff) := (q 3).trans rfl
          have xx4 : W3.cell? ⟨w.heap.size, 4, none⟩ = some (.int .i64 aa) := (q 4).trans rfl
          have xx5 : W3.cell? ⟨w.heap.size, 5, none⟩ = some (.int .i64 ss) := (q 5).trans rfl
          have xx6 : W3.cell? ⟨w.heap.size, 6, none⟩ = some (.slice DA dd.length dc) := (q 6).trans rfl
          have yy0 : W3.cell? ⟨w.heap.size + 1, 0, none⟩ = some (.int .i64 10) := (r 0).trans rfl
          have yy1 : W3.cell? ⟨w.heap.size + 1, 1, none⟩ = some (.string ⟨pp.toArray⟩) := (r 1).trans rfl
          have yy2 : W3.cell? ⟨w.heap.size + 1, 2, none⟩ = some (.string ⟨oo.toArray⟩) := (r 2).trans rfl
          have yy3 : W3.cell? ⟨w.heap.size + 1, 3, none⟩ = some (.int .i64 0) := (r 3).trans rfl
          have yy4 : W3.cell? ⟨w.heap.size + 1, 4, none⟩ = some (.int .i64 0) := (r 4).trans rfl
          have yy5 : W3.cell? ⟨w.heap.size + 1, 5, none⟩ = some (.int .i64 0) := (r 5).trans rfl
          have yy6 : W3.cell? ⟨w.heap.size + 1, 6, none⟩ = some (.slice none 0 0) := (r 6).trans rfl
          have HF := Lib.hid (HFIN.out W3 ⟨10, pp, oo, 0, 0, 0, []⟩ (.slice none 0 0) (DataT.nil _).r hb9)
          have B9 := Lib.hid hb9
          rw [← HQB.out] at HF
          unfold CallP.cells at HF
          clear hx9 hb9 q r
          go_wp2_with fail
          refine HF.out.mono ?_
          rintro e W9 ⟨rfl, h9⟩
          have B8 := Lib.hid (B9.out.trans (h9.mono B9.out.size))
          clear h9
          go_wp2
          go_ret2
          exact ⟨by rw [HS0.out, HB0.out]; rfl, B8.out⟩
      · clear hk
        obtain ⟨g00, hg00⟩ : ∃ g00 : Str, g00 = [117, 110, 108, 105, 110, 107] ++ p6 := ⟨_, rfl⟩
        have Lg00 : g00.length ≤ 60000000000 := by rw [hg00, List.length_append]; (try simp only [List.length_cons, List.length_nil]); omega
        have Ag00 : ∀ w, (Op.stringOp .add ⟨#[117, 110, 108, 105, 110, 107]⟩ ⟨p6.toArray⟩).run Tryd.prog w = .ok (.string ⟨g00.toArray⟩) w := add_run (a := [117, 110, 108, 105, 110, 107]) (b := p6) hg00 (by first | decide | omega) (by first | decide | omega)
        have HS0 := Lib.hid (show lcS ⟨11, pp, oo, ff, aa, ss, dd⟩ = g00 by
          rw [show lcS ⟨11, pp, oo, ff, aa, ss, dd⟩ = jnW [[117, 110, 108, 105, 110, 107], textP pp] from rfl, jn2, hg00]
          have e1 := HP6.out; have e2 := HP7.out; have e3 := HTP.out; have e4 := HTO.out; have e5 := HTD.out; have e6 := HNF.out; have e7 := HNA.out; have e8 := HNS.out
          subst e1 e2 e3 e4 e5 e6 e7 e8
          simp)
        obtain ⟨qb, hqb⟩ : ∃ qb, qb = decide ((⟨11, pp, oo, ff, aa, ss, dd⟩ : CallP) = ⟨11, pp, [], 0, 0, 0, []⟩) := ⟨_, rfl⟩
        have HQB := Lib.hid hqb
        have HB0 := Lib.hid (show lcB ⟨11, pp, oo, ff, aa, ss, dd⟩ = qb by rw [hqb]; rfl)
        clear hqb hg00
        obtain ⟨V, hV⟩ : ∃ V, V = (W2.setCell ⟨w.heap.size + 1, 1, none⟩ (.string ⟨pp.toArray⟩)) := ⟨_, rfl⟩
        have KV : Hid (Keep (fun k => k = w.heap.size + 1) W2 V) := Lib.hid (by rw [hV]; exact ((Keep.refl (fun k => k = w.heap.size + 1) W2).setCell (fun _ => rfl) (.string ⟨pp.toArray⟩)))
        have YV : Hid (V.heap[w.heap.size + 1]? = some (.cells #[.int .i64 11, .string ⟨pp.toArray⟩, .string ⟨#[]⟩, .int .i64 0, .int .i64 0, .int .i64 0, .slice none 0 0] 24 (0, 0))) := Lib.hid (by rw [hV]; exact (blk_setL CY.out (.string ⟨pp.toArray⟩)))
        have HVE := Lib.hid hV
        clear hV
        go_upto_region 49 with fail
        rw [← HVE.out]
        obtain ⟨hx9, hb9⟩ := HXW.out V KV.out
        have q := blk_cells hx9
        have r := blk_cells YV.out
        have xx0 : V.cell? ⟨w.heap.size, 0, none⟩ = some (.int .i64 11) := (q 0).trans rfl
        have xx1 : V.cell? ⟨w.heap.size, 1, none⟩ = some (.string ⟨pp.toArray⟩) := (q 1).trans rfl
        have xx2 : V.cell? ⟨w.heap.size, 2, none⟩ = some (.string ⟨oo.toArray⟩) := (q 2).trans rfl
        have xx3 : V.cell? ⟨w.heap.size, 3, none⟩ = some (.int .i64 ff) := (q 3).trans rfl
        have xx4 : V.cell? ⟨w.heap.size, 4, none⟩ = some (.int .i64 aa) := (q 4).trans rfl
        have xx5 : V.cell? ⟨w.heap.size, 5, none⟩ = some (.int .i64 ss) := (q 5).trans rfl
        have xx6 : V.cell? ⟨w.heap.size, 6, none⟩ = some (.slice DA dd.length dc) := (q 6).trans rfl
        have yy0 : V.cell? ⟨w.heap.size + 1, 0, none⟩ = some (.int .i64 11) := (r 0).trans rfl
        have yy1 : V.cell? ⟨w.heap.size + 1, 1, none⟩ = some (.string ⟨pp.toArray⟩) := (r 1).trans rfl
        have yy2 : V.cell? ⟨w.heap.size + 1, 2, none⟩ = some (.string ⟨#[]⟩) := (r 2).trans rfl
        have yy3 : V.cell? ⟨w.heap.size + 1, 3, none⟩ = some (.int .i64 0) := (r 3).trans rfl
        have yy4 : V.cell? ⟨w.heap.size + 1, 4, none⟩ = some (.int .i64 0) := (r 4).trans rfl
        have yy5 : V.cell? ⟨w.heap.size + 1, 5, none⟩ = some (.int .i64 0) := (r 5).trans rfl
        have yy6 : V.cell? ⟨w.heap.size + 1, 6, none⟩ = some (.slice none 0 0) := (r 6).trans rfl
        have HF := Lib.hid (HFIN.out V ⟨11, pp, [], 0, 0, 0, []⟩ (.slice none 0 0) (DataT.nil _).r hb9)
        have B9 := Lib.hid hb9
        rw [← HQB.out] at HF
        unfold CallP.cells at HF
        clear hx9 hb9 q r
        go_wp2_with fail
        refine HF.out.mono ?_
        rintro e W9 ⟨rfl, h9⟩
        have B8 := Lib.hid (B9.out.trans (h9.mono B9.out.size))
        clear h9
        go_wp2
        go_ret2
        exact ⟨by rw [HS0.out, HB0.out]; rfl, B8.out⟩
      · clear hk
        obtain ⟨g00, hg00⟩ : ∃ g00 : Str, g00 = [114, 109, 100, 105, 114] ++ p6 := ⟨_, rfl⟩
        have Lg00 : g00.length ≤ 60000000000 := by rw [hg00, List.length_append]; (try simp only [List.length_cons, List.length_nil]); omega
        have Ag00 : ∀ w, (Op.stringOp .add ⟨#[114, 109, 100, 105, 114]⟩ ⟨p6.toArray⟩).run Tryd.prog w = .ok (.string ⟨g00.toArray⟩) w := add_run (a := [114, 109, 100, 105, 114]) (b := p6) hg00 (by first | decide | omega) (by first | decide | omega)
        have HS0 := Lib.hid (show lcS ⟨12, pp, oo, ff, aa, ss, dd⟩ = g00 by
          rw [show lcS ⟨12, pp, oo, ff, aa, ss, dd⟩ = jnW [[114, 109, 100, 105, 114], textP pp] from rfl, jn2, hg00]
          have e1 := HP6.out; have e2 := HP7.out; have e3 := HTP.out; have e4 := HTO.out; have e5 := HTD.out; have e6 := HNF.out; have e7 := HNA.out; have e8 := HNS.out
          subst e1 e2 e3 e4 e5 e6 e7 e8
          simp)
        obtain ⟨qb, hqb⟩ : ∃ qb, qb = decide ((⟨12, pp, oo, ff, aa, ss, dd⟩ : CallP) = ⟨12, pp, [], 0, 0, 0, []⟩) := ⟨_, rfl⟩
        have HQB := Lib.hid hqb
        have HB0 := Lib.hid (show lcB ⟨12, pp, oo, ff, aa, ss, dd⟩ = qb by rw [hqb]; rfl)
        clear hqb hg00
        obtain ⟨V, hV⟩ : ∃ V, V = (W2.setCell ⟨w.heap.size + 1, 1, none⟩ (.string ⟨pp.toArray⟩)) := ⟨_, rfl⟩
        have KV : Hid (Keep (fun k => k = w.heap.size + 1) W2 V) := Lib.hid (by rw [hV]; exact ((Keep.refl (fun k => k = w.heap.size + 1) W2).setCell (fun _ => rfl) (.string ⟨pp.toArray⟩)))
        have YV : Hid (V.heap[w.heap.size + 1]? = some (.cells #[.int .i64 12, .string ⟨pp.toArray⟩, .string ⟨#[]⟩, .int .i64 0, .int .i64 0, .int .i64 0, .slice none 0 0] 24 (0, 0))) := Lib.hid (by rw [hV]; exact (blk_setL CY.out (.string ⟨pp.toArray⟩)))
        have HVE := Lib.hid hV
        clear hV
        go_upto_region 49 with fail
        rw [← HVE.out]
        obtain ⟨hx9, hb9⟩ := HXW.out V KV.out
        have q := blk_cells hx9
        have r := blk_cells YV.out
        have xx0 : V.cell? ⟨w.heap.size, 0, none⟩ = some (.int .i64 12) := (q 0).trans rfl
        have xx1 : V.cell? ⟨w.heap.size, 1, none⟩ = some (.string ⟨pp.toArray⟩) := (q 1).trans rfl
        have xx2 : V.cell? ⟨w.heap.size, 2, none⟩ = some (.string ⟨oo.toArray⟩) := (q 2).trans rfl
        have xx3 : V.cell? ⟨w.heap.size, 3, none⟩ = some (.int .i64 ff) := (q 3).trans rfl
        have xx4 : V.cell? ⟨w.heap.size, 4, none⟩ = some (.int .i64 aa) := (q 4).trans rfl
        have xx5 : V.cell? ⟨w.heap.size, 5, none⟩ = some (.int .i64 ss) := (q 5).trans rfl
        have xx6 : V.cell? ⟨w.heap.size, 6, none⟩ = some (.slice DA dd.length dc) := (q 6).trans rfl
        have yy0 : V.cell? ⟨w.heap.size + 1, 0, none⟩ = some (.int .i64 12) := (r 0).trans rfl
        have yy1 : V.cell? ⟨w.heap.size + 1, 1, none⟩ = some (.string ⟨pp.toArray⟩) := (r 1).trans rfl
        have yy2 : V.cell? ⟨w.heap.size + 1, 2, none⟩ = some (.string ⟨#[]⟩) := (r 2).trans rfl
        have yy3 : V.cell? ⟨w.heap.size + 1, 3, none⟩ = some (.int .i64 0) := (r 3).trans rfl
        have yy4 : V.cell? ⟨w.heap.size + 1, 4, none⟩ = some (.int .i64 0) := (r 4).trans rfl
        have yy5 : V.cell? ⟨w.heap.size + 1, 5, none⟩ = some (.int .i64 0) := (r 5).trans rfl
        have yy6 : V.cell? ⟨w.heap.size + 1, 6, none⟩ = some (.slice none 0 0) := (r 6).trans rfl
        have HF := Lib.hid (HFIN.out V ⟨12, pp, [], 0, 0, 0, []⟩ (.slice none 0 0) (DataT.nil _).r hb9)
        have B9 := Lib.hid hb9
        rw [← HQB.out] at HF
        unfold CallP.cells at HF
        clear hx9 hb9 q r
        go_wp2_with fail
        refine HF.out.mono ?_
        rintro e W9 ⟨rfl, h9⟩
        have B8 := Lib.hid (B9.out.trans (h9.mono B9.out.size))
        clear h9
        go_wp2
        go_ret2
        exact ⟨by rw [HS0.out, HB0.out]; rfl, B8.out⟩
      · clear hk
        obtain ⟨g00, hg00⟩ : ∃ g00 : Str, g00 = [108, 105, 110, 107] ++ p6 := ⟨_, rfl⟩
        have Lg00 : g00.length ≤ 60000000000 := by rw [hg00, List.length_append]; (try simp only [List.length_cons, List.length_nil]); omega
        have Ag00 : ∀ w, (Op.stringOp .add ⟨#[108, 105, 110, 107]⟩ ⟨p6.toArray⟩).run Tryd.prog w = .ok (.string ⟨g00.toArray⟩) w := add_run (a := [108, 105, 110, 107]) (b := p6) hg00 (by first | decide | omega) (by first | decide | omega)
        obtain ⟨g01, hg01⟩ : ∃ g01 : Str, g01 = g00 ++ [32] := ⟨_, rfl⟩
        have Lg01 : g01.length ≤ 120000000000 := by rw [hg01, List.length_append]; (try simp only [List.length_cons, List.length_nil]); omega
        have Ag01 : ∀ w, (Op.stringOp .add ⟨g00.toArray⟩ ⟨#[32]⟩).run Tryd.prog w = .ok (.string ⟨g01.toArray⟩) w := add_run (a := g00) (b := [32]) hg01 (by first | decide | omega) (by first | decide | omega)
        obtain ⟨g02, hg02⟩ : ∃ g02 : Str, g02 = g01 ++ to_ := ⟨_, rfl⟩
        have Lg02 : g02.length ≤ 180000000000 := by rw [hg02, List.length_append]; (try simp only [List.length_cons, List.length_nil]); omega
        have Ag02 : ∀ w, (Op.stringOp .add ⟨g01.toArray⟩ ⟨to_.toArray⟩).run Tryd.prog w = .ok (.string ⟨g02.toArray⟩) w := add_run (a := g01) (b := to_) hg02 (by first | decide | omega) (by first | decide | omega)
        obtain ⟨g10, hg10⟩ : ∃ g10 : Str, g10 = [114, 101, 110, 97, 109, 101] ++ p6 := ⟨_, rfl⟩
        have Lg10 : g10.length ≤ 60000000000 := by rw [hg10, List.length_append]; (try simp only [List.length_cons, List.length_nil]); omega
        have Ag10 : ∀ w, (Op.stringOp .add ⟨#[114, 101, 110, 97, 109, 101]⟩ ⟨p6.toArray⟩).run Tryd.prog w = .ok (.string ⟨g10.toArray⟩) w := add_run (a := [114, 101, 110, 97, 109, 101]) (b := p6) hg10 (by first | decide | omega) (by first | decide | omega)
        obtain ⟨g11, hg11⟩ : ∃ g11 : Str, g11 = g10 ++ [32] := ⟨_, rfl⟩
        have Lg11 : g11.length ≤ 120000000000 := by rw [hg11, List.length_append]; (try simp only [List.length_cons, List.length_nil]); omega
        have Ag11 : ∀ w, (Op.stringOp .add ⟨g10.toArray⟩ ⟨#[32]⟩).run Tryd.prog w = .ok (.string ⟨g11.toArray⟩) w := add_run (a := g10) (b := [32]) hg11 (by first | decide | omega) (by first | decide | omega)
        obtain ⟨g12, hg12⟩ : ∃ g12 : Str, g12 = g11 ++ to_ := ⟨_, rfl⟩
        have Lg12 : g12.length ≤ 180000000000 := by rw [hg12, List.length_append]; (try simp only [List.length_cons, List.length_nil]); omega
        have Ag12 : ∀ w, (Op.stringOp .add ⟨g11.toArray⟩ ⟨to_.toArray⟩).run Tryd.prog w = .ok (.string ⟨g12.toArray⟩) w := add_run (a := g11) (b := to_) hg12 (by first | decide | omega) (by first | decide | omega)
        have HS0 := Lib.hid (show lcS ⟨13, pp, oo, ff, aa, ss, dd⟩ = g12 by
          rw [show lcS ⟨13, pp, oo, ff, aa, ss, dd⟩ = jnW [[114, 101, 110, 97, 109, 101], textP pp, textP oo] from rfl, jn3, hg12, hg11, hg10]
          have e1 := HP6.out; have e2 := HP7.out; have e3 := HTP.out; have e4 := HTO.out; have e5 := HTD.out; have e6 := HNF.out; have e7 := HNA.out; have e8 := HNS.out
          subst e1 e2 e3 e4 e5 e6 e7 e8
          simp)
        obtain ⟨qb, hqb⟩ : ∃ qb, qb = decide ((⟨13, pp, oo, ff, aa, ss, dd⟩ : CallP) = ⟨13, pp, oo, 0, 0, 0, []⟩) := ⟨_, rfl⟩
        have HQB := Lib.hid hqb
        have HB0 := Lib.hid (show lcB ⟨13, pp, oo, ff, aa, ss, dd⟩ = qb by rw [hqb]; rfl)
        clear hqb hg00 hg01 hg02 hg10 hg11 hg12
        obtain ⟨V, hV⟩ : ∃ V, V = ((W2.setCell ⟨w.heap.size + 1, 1, none⟩ (.string ⟨pp.toArray⟩)).setCell ⟨w.heap.size + 1, 2, none⟩ (.string ⟨oo.toArray⟩)) := ⟨_, rfl⟩
        have KV : Hid (Keep (fun k => k = w.heap.size + 1) W2 V) := Lib.hid (by rw [hV]; exact (((Keep.refl (fun k => k = w.heap.size + 1) W2).setCell (fun _ => rfl) (.string ⟨pp.toArray⟩)).setCell (fun _ => rfl) (.string ⟨oo.toArray⟩)))
        have YV : Hid (V.heap[w.heap.size + 1]? = some (.cells #[.int .i64 13, .string ⟨pp.toArray⟩, .string ⟨oo.toArray⟩, .int .i64 0, .int .i64 0, .int .i64 0, .slice none 0 0] 24 (0, 0))) := Lib.hid (by rw [hV]; exact (blk_setL (blk_setL CY.out (.string ⟨pp.toArray⟩)) (.string ⟨oo.toArray⟩)))
        have HVE := Lib.hid hV
        clear hV
        have HSX := Lib.hid (fun (w' : World) (k : Keep (fun k => k = w.heap.size + 1) W2 w') => (show w'.cell? ⟨w.heap.size, 1, none⟩ = some (.string ⟨pp.toArray⟩) ∧ w'.cell? ⟨w.heap.size, 2, none⟩ = some (.string ⟨oo.toArray⟩) from by
          have q := blk_cells (HXW.out w' k).1
          exact ⟨(q 1).trans rfl, (q 2).trans rfl⟩))
        go_upto_region 30 with fail
        go_region_held3 (fun w' => w'.cell? ⟨w.heap.size, 1, none⟩ = some (.string ⟨pp.toArray⟩) ∧ w'.cell? ⟨w.heap.size, 2, none⟩ = some (.string ⟨oo.toArray⟩)) (first | exact HSX.out _ ((Keep.refl (fun k => k = w.heap.size + 1) W2).drew) | exact HSX.out _ ((Keep.refl (fun k => k = w.heap.size + 1) W2).setCell (p := ⟨w.heap.size + 1, 1, none⟩) (fun _ => rfl) (.string ⟨pp.toArray⟩)) | exact HSX.out _ (((Keep.refl (fun k => k = w.heap.size + 1) W2).setCell (p := ⟨w.heap.size + 1, 1, none⟩) (fun _ => rfl) (.string ⟨pp.toArray⟩)).drew) | exact HSX.out _ (((Keep.refl (fun k => k = w.heap.size + 1) W2).setCell (p := ⟨w.heap.size + 1, 1, none⟩) (fun _ => rfl) (.string ⟨pp.toArray⟩)).setCell (p := ⟨w.heap.size + 1, 2, none⟩) (fun _ => rfl) (.string ⟨oo.toArray⟩)) | exact HSX.out _ ((((Keep.refl (fun k => k = w.heap.size + 1) W2).setCell (p := ⟨w.heap.size + 1, 1, none⟩) (fun _ => rfl) (.string ⟨pp.toArray⟩)).setCell (p := ⟨w.heap.size + 1, 2, none⟩) (fun _ => rfl) (.string ⟨oo.toArray⟩)).drew)) (fail)
        all_goals
          rw [← HVE.out]
          obtain ⟨U, hU⟩ : ∃ U, U = V.drew := ⟨_, rfl⟩
          rw [← hU]
          have KU : Hid (Keep (fun k => k = w.heap.size + 1) W2 U) := Lib.hid (by rw [hU]; exact KV.out.drew)
          have YU : Hid (U.heap[w.heap.size + 1]? = some (.cells #[.int .i64 13, .string ⟨pp.toArray⟩, .string ⟨oo.toArray⟩, .int .i64 0, .int .i64 0, .int .i64 0, .slice none 0 0] 24 (0, 0))) := Lib.hid (by rw [hU]; exact YV.out)
          clear hU
          obtain ⟨hx3, hb3⟩ := HXW.out U KU.out
          have q := blk_cells hx3
          have v0 : U.cell? ⟨w.heap.size, 0, none⟩ = some (.int .i64 13) := (q 0).trans rfl
          have v1 : U.cell? ⟨w.heap.size, 1, none⟩ = some (.string ⟨pp.toArray⟩) := (q 1).trans rfl
          have v2 : U.cell? ⟨w.heap.size, 2, none⟩ = some (.string ⟨oo.toArray⟩) := (q 2).trans rfl
          have v3 : U.cell? ⟨w.heap.size, 3, none⟩ = some (.int .i64 ff) := (q 3).trans rfl
          have v4 : U.cell? ⟨w.heap.size, 4, none⟩ = some (.int .i64 aa) := (q 4).trans rfl
          have v5 : U.cell? ⟨w.heap.size, 5, none⟩ = some (.int .i64 ss) := (q 5).trans rfl
          have v6 : U.cell? ⟨w.heap.size, 6, none⟩ = some (.slice DA dd.length dc) := (q 6).trans rfl
          have BV := Lib.hid hb3
          clear hx3 hb3 q
          go_wp2_with fail
          refine (HT2.out _).mono ?_
          rintro e W3 ⟨rfl, hbW3⟩
          have K3 := Lib.hid (KU.out.trans (Keep.of_below (S := fun k => k = w.heap.size + 1) hbW3) (fun _ _ h => h))
          have Y3 := Lib.hid ((Keep.of_below (S := fun _ => False) hbW3).blk YU.out id)
          clear hbW3
          have q := blk_cells (HXW.out W3 K3.out).1
          have uW30 : W3.cell? ⟨w.heap.size, 0, none⟩ = some (.int .i64 13) := (q 0).trans rfl
          have uW32 : W3.cell? ⟨w.heap.size, 2, none⟩ = some (.string ⟨oo.toArray⟩) := (q 2).trans rfl
          clear q
          go_wp2_with fail
          refine (HT2.out _).mono ?_
          rintro e W4 ⟨rfl, hbW4⟩
          have K4 := Lib.hid (K3.out.trans (Keep.of_below (S := fun k => k = w.heap.size + 1) hbW4) (fun _ _ h => h))
          have Y4 := Lib.hid ((Keep.of_below (S := fun _ => False) hbW4).blk Y3.out id)
          clear hbW4
          obtain ⟨hx9, hb9⟩ := HXW.out W4 K4.out
          have q := blk_cells hx9
          have r := blk_cells Y4.out
          have xx0 : W4.cell? ⟨w.heap.size, 0, none⟩ = some (.int .i64 13) := (q 0).trans rfl
          have xx1 : W4.cell? ⟨w.heap.size, 1, none⟩ = some (.string ⟨pp.toArray⟩) := (q 1).trans rfl
          have xx2 : W4.cell? ⟨w.heap.size, 2, none⟩ = some (.string ⟨oo.toArray⟩) := (q 2).trans rfl
          have xx3 : W4.cell? ⟨w.heap.size, 3, none⟩ = some (.int .i64 ff) := (q 3).trans rfl
          have xx4 : W4.cell? ⟨w.heap.size, 4, none⟩ = some (.int .i64 aa) := (q 4).trans rfl
          have xx5 : W4.cell? ⟨w.heap.size, 5, none⟩ = some (.int .i64 ss) := (q 5).trans rfl
          have xx6 : W4.cell? ⟨w.heap.size, 6, none⟩ = some (.slice DA dd.length dc) := (q 6).trans rfl
          have yy0 : W4.cell? ⟨w.heap.size + 1, 0, none⟩ = some (.int .i64 13) := (r 0).trans rfl
          have yy1 : W4.cell? ⟨w.heap.size + 1, 1, none⟩ = some (.string ⟨pp.toArray⟩) := (r 1).trans rfl
          have yy2 : W4.cell? ⟨w.heap.size + 1, 2, none⟩ = some (.string ⟨oo.toArray⟩) := (r 2).trans rfl
          have yy3 : W4.cell? ⟨w.heap.size + 1, 3, none⟩ = some (.int .i64 0) := (r 3).trans rfl
          have yy4 : W4.cell? ⟨w.heap.size + 1, 4, none⟩ = some (.int .i64 0) := (r 4).trans rfl
          have yy5 : W4.cell? ⟨w.heap.size + 1, 5, none⟩ = some (.int .i64 0) := (r 5).trans rfl
          have yy6 : W4.cell? ⟨w.heap.size + 1, 6, none⟩ = some (.slice none 0 0) := (r 6).trans rfl
          have HF := Lib.hid (HFIN.out W4 ⟨13, pp, oo, 0, 0, 0, []⟩ (.slice none 0 0) (DataT.nil _).r hb9)
          have B9 := Lib.hid hb9
          rw [← HQB.out] at HF
          unfold CallP.cells at HF
          clear hx9 hb9 q r
          go_wp2_with fail
          refine HF.out.mono ?_
          rintro e W9 ⟨rfl, h9⟩
          have B8 := Lib.hid (B9.out.trans (h9.mono B9.out.size))
          clear h9
          go_wp2
          go_ret2
          exact ⟨by rw [HS0.out, HB0.out]; rfl, B8.out⟩
      · clear hk
        obtain ⟨g00, hg00⟩ : ∃ g00 : Str, g00 = [108, 105, 115, 116] ++ p6 := ⟨_, rfl⟩
        have Lg00 : g00.length ≤ 60000000000 := by rw [hg00, List.length_append]; (try simp only [List.length_cons, List.length_nil]); omega
        have Ag00 : ∀ w, (Op.stringOp .add ⟨#[108, 105, 115, 116]⟩ ⟨p6.toArray⟩).run Tryd.prog w = .ok (.string ⟨g00.toArray⟩) w := add_run (a := [108, 105, 115, 116]) (b := p6) hg00 (by first | decide | omega) (by first | decide | omega)
        have HS0 := Lib.hid (show lcS ⟨14, pp, oo, ff, aa, ss, dd⟩ = g00 by
          rw [show lcS ⟨14, pp, oo, ff, aa, ss, dd⟩ = jnW [[108, 105, 115, 116], textP pp] from rfl, jn2, hg00]
          have e1 := HP6.out; have e2 := HP7.out; have e3 := HTP.out; have e4 := HTO.out; have e5 := HTD.out; have e6 := HNF.out; have e7 := HNA.out; have e8 := HNS.out
          subst e1 e2 e3 e4 e5 e6 e7 e8
          simp)
        obtain ⟨qb, hqb⟩ : ∃ qb, qb = decide ((⟨14, pp, oo, ff, aa, ss, dd⟩ : CallP) = ⟨14, pp, [], 0, 0, 0, []⟩) := ⟨_, rfl⟩
        have HQB := Lib.hid hqb
        have HB0 := Lib.hid (show lcB ⟨14, pp, oo, ff, aa, ss, dd⟩ = qb by rw [hqb]; rfl)
        clear hqb hg00
        obtain ⟨V, hV⟩ : ∃ V, V = (W2.setCell ⟨w.heap.size + 1, 1, none⟩ (.string ⟨pp.toArray⟩)) := ⟨_, rfl⟩
        have KV : Hid (Keep (fun k => k = w.heap.size + 1) W2 V) := Lib.hid (by rw [hV]; exact ((Keep.refl (fun k => k = w.heap.size + 1) W2).setCell (fun _ => rfl) (.string ⟨pp.toArray⟩)))
        have YV : Hid (V.heap[w.heap.size + 1]? = some (.cells #[.int .i64 14, .string ⟨pp.toArray⟩, .string ⟨#[]⟩, .int .i64 0, .int .i64 0, .int .i64 0, .slice none 0 0] 24 (0, 0))) := Lib.hid (by rw [hV]; exact (blk_setL CY.out (.string ⟨pp.toArray⟩)))
        have HVE := Lib.hid hV
        clear hV
        go_upto_region 49 with fail
        rw [← HVE.out]
        obtain ⟨hx9, hb9⟩ := HXW.out V KV.out
        have q := blk_cells hx9
        have r := blk_cells YV.out
        have xx0 : V.cell? ⟨w.heap.size, 0, none⟩ = some (.int .i64 14) := (q 0).trans rfl
        have xx1 : V.cell? ⟨w.heap.size, 1, none⟩ = some (.string ⟨pp.toArray⟩) := (q 1).trans rfl
        have xx2 : V.cell? ⟨w.heap.size, 2, none⟩ = some (.string ⟨oo.toArray⟩) := (q 2).trans rfl
        have xx3 : V.cell? ⟨w.heap.size, 3, none⟩ = some (.int .i64 ff) := (q 3).trans rfl
        have xx4 : V.cell? ⟨w.heap.size, 4, none⟩ = some (.int .i64 aa) := (q 4).trans rfl
        have xx5 : V.cell? ⟨w.heap.size, 5, none⟩ = some (.int .i64 ss) := (q 5).trans rfl
        have xx6 : V.cell? ⟨w.heap.size, 6, none⟩ = some (.slice DA dd.length dc) := (q 6).trans rfl
        have yy0 : V.cell? ⟨w.heap.size + 1, 0, none⟩ = some (.int .i64 14) := (r 0).trans rfl
        have yy1 : V.cell? ⟨w.heap.size + 1, 1, none⟩ = some (.string ⟨pp.toArray⟩) := (r 1).trans rfl
        have yy2 : V.cell? ⟨w.heap.size + 1, 2, none⟩ = some (.string ⟨#[]⟩) := (r 2).trans rfl
        have yy3 : V.cell? ⟨w.heap.size + 1, 3, none⟩ = some (.int .i64 0) := (r 3).trans rfl
        have yy4 : V.cell? ⟨w.heap.size + 1, 4, none⟩ = some (.int .i64 0) := (r 4).trans rfl
        have yy5 : V.cell? ⟨w.heap.size + 1, 5, none⟩ = some (.int .i64 0) := (r 5).trans rfl
        have yy6 : V.cell? ⟨w.heap.size + 1, 6, none⟩ = some (.slice none 0 0) := (r 6).trans rfl
        have HF := Lib.hid (HFIN.out V ⟨14, pp, [], 0, 0, 0, []⟩ (.slice none 0 0) (DataT.nil _).r hb9)
        have B9 := Lib.hid hb9
        rw [← HQB.out] at HF
        unfold CallP.cells at HF
        clear hx9 hb9 q r
        go_wp2_with fail
        refine HF.out.mono ?_
        rintro e W9 ⟨rfl, h9⟩
        have B8 := Lib.hid (B9.out.trans (h9.mono B9.out.size))
        clear h9
        go_wp2
        go_ret2
        exact ⟨by rw [HS0.out, HB0.out]; rfl, B8.out⟩
end Go.Proofs.YtpdnfcgdcndhpaaDoor
