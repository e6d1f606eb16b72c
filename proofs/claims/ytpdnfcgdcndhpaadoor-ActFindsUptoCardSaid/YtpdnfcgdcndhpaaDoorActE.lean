/- Are two slices, two calls, two acts one? Has an act a kind? -/
import Derived.Test.YtpdnfcgdcndhpaaDoorActD
set_option linter.unusedSimpArgs false
set_option linter.unusedVariables false
namespace Go.Proofs.YtpdnfcgdcndhpaaDoor
open Go.RowKit

attribute [local go_sem ↓] Go.wp_at_zero Go.wp_at_succ
def EqInv {α : Type} (xs ys : List α) (w : World) (v : Value) (wr : World) : Prop := ∃ i q : Nat, i ≤ xs.length ∧ v = .int .i64 (i : Int) ∧ xs.take i = ys.take i ∧ wr = w.drewN q
theorem drewN_drewN (w : World) (a b : Nat) : (w.drewN a).drewN b = w.drewN (a + b) := by
  simp [World.drewN, Nat.add_assoc]
set_option maxHeartbeats 1000000 in
theorem eqB_walk (A B : Option Addr) (c d : Nat) (xs ys : List UInt8) (w : World) (hx : Sl w 1 (.slice A xs.length c) xs.length (bv xs)) (hy : Sl w 1 (.slice B ys.length d) ys.length (bv ys)) (hl : xs.length ≤ 1000000000000000) (hl2 : ys.length ≤ 1000000000000000) :
    Calls Tryd.prog 50 #[.slice A xs.length c, .slice B ys.length d] w fun e w' => e = .returned (.bool (decide (xs = ys))) ∧ ∃ q, w' = w.drewN q := by
  by_cases hne : xs.length = ys.length
  · have n0 : ((xs.length : Int) == (ys.length : Int)) = true := by simp [hne]
    have HX := Lib.hid hx
    have HY := Lib.hid hy
    have HNE := Lib.hid hne
    clear hx hy hne
    go_enter Tryd.func50, Tryd.ntmps50
    go_upto_region 4 with fail
    clear n0
    go_loopw [13] (fun v wr => EqInv xs ys w v wr) (fun v _ => xs.length - (intOf v).toNat)
    case atStart => exact ⟨0, 0, Nat.zero_le _, rfl, rfl, rfl⟩
    case round =>
      obtain ⟨i, q, hi, rfl, htk, rfl⟩ := hrel
      have HT := Lib.hid htk
      have hx2 := HX.out
      have hy2 := HY.out
      clear htk
      by_cases hlt : i < xs.length
      · obtain ⟨x, hxi⟩ : ∃ x, xs[i]? = some x := ⟨xs[i], List.getElem?_eq_getElem hlt⟩
        obtain ⟨y, hyi⟩ : ∃ y, ys[i]? = some y := ⟨ys[i]'(by have := HNE.out; omega), List.getElem?_eq_getElem _⟩
        obtain ⟨b1, o1, rfl, _, c1⟩ := sl_row hx2 (k := i) (u := .int .u8 (x.toNat : Int)) (by simp [bv, hxi])
        obtain ⟨b2, o2, rfl, _, c2⟩ := sl_row hy2 (k := i) (u := .int .u8 (y.toNat : Int)) (by simp [bv, hyi])
        have i0 : (0 : Int) ≤ (i : Int) := by omega
        have i1 : (i : Int) < (xs.length : Int) := by omega
        have i2 : (i : Int) < (ys.length : Int) := by have := HNE.out; omega
        have HXI := Lib.hid hxi
        have HYI := Lib.hid hyi
        clear hxi hyi hx2 hy2
        by_cases he : x = y
        · have he1 : ((x.toNat : Int) == (y.toNat : Int)) = true := by rw [he]; simp
          have he2 : ((x.toNat : Int) != (y.toNat : Int)) = false := by rw [he]; simp
          have HSTEP := Lib.hid (show xs.take (i + 1) = ys.take (i + 1) by rw [List.take_add_one, List.take_add_one, HT.out, HXI.out, HYI.out, he])
          clear he
          go_wp2
          go_quiet (fail)
          go_wp2
          go_roundw
          case rel => exact ⟨i + 1, _, by omega, by go_num, HSTEP.out, by first | rfl | rw [drewN_drewN]⟩
          case measure => simp [intOf]; omega
        · have he1 : ((x.toNat : Int) == (y.toNat : Int)) = false := beq_eq_false_iff_ne.2 (fun e => he (UInt8.toNat_inj.1 (by omega)))
          have he2 : ((x.toNat : Int) != (y.toNat : Int)) = true := bne_iff_ne.2 (fun e => he (UInt8.toNat_inj.1 (by omega)))
          have HD := Lib.hid (show decide (xs = ys) = false from decide_eq_false (fun e => he (by have h := HXI.out; rw [e, HYI.out] at h; exact (Option.some.inj h).symm)))
          clear he
          go_wp2
          go_quiet (fail)
          go_wp2
          go_ret
          exact ⟨by rw [HD.out]; rfl, _, by first | rfl | rw [drewN_drewN]⟩
      · obtain rfl : i = xs.length := by omega
        have j1 : ¬ ((xs.length : Nat) : Int) < (xs.length : Int) := by omega
        have HD := Lib.hid (show decide (xs = ys) = true from decide_eq_true (by have h := HT.out; rw [List.take_length, HNE.out, List.take_length] at h; exact h))
        clear hx2 hy2
        go_wp2
        go_ret
        exact ⟨by rw [HD.out]; rfl, q, rfl⟩
  · have n0 : ((xs.length : Int) == (ys.length : Int)) = false := by simp; omega
    have HD := Lib.hid (show decide (xs = ys) = false from decide_eq_false (fun e => hne (by rw [e])))
    clear hx hy hne
    go_enter Tryd.func50, Tryd.ntmps50
    go_wp2
    go_ret
    exact ⟨by rw [HD.out]; rfl, 0, rfl⟩
set_option maxHeartbeats 1000000 in
theorem eqI_walk (A B : Option Addr) (c d : Nat) (xs ys : List Int) (w : World) (hx : Sl w 1 (.slice A xs.length c) xs.length (ints xs)) (hy : Sl w 1 (.slice B ys.length d) ys.length (ints ys)) (hl : xs.length ≤ 1000000000000000) (hl2 : ys.length ≤ 1000000000000000) :
    Calls Tryd.prog 38 #[.slice A xs.length c, .slice B ys.length d] w fun e w' => e = .returned (.bool (decide (xs = ys))) ∧ ∃ q, w' = w.drewN q := by
  by_cases hne : xs.length = ys.length
  · have n0 : ((xs.length : Int) == (ys.length : Int)) = true := by simp [hne]
    have HX := Lib.hid hx
    have HY := Lib.hid hy
    have HNE := Lib.hid hne
    clear hx hy hne
    go_enter Tryd.func38, Tryd.ntmps38
    go_upto_region 4 with fail
    clear n0
    go_loopw [13] (fun v wr => EqInv xs ys w v wr) (fun v _ => xs.length - (intOf v).toNat)
    case atStart => exact ⟨0, 0, Nat.zero_le _, rfl, rfl, rfl⟩
    case round =>
      obtain ⟨i, q, hi, rfl, htk, rfl⟩ := hrel
      have HT := Lib.hid htk
      have hx2 := HX.out
      have hy2 := HY.out
      clear htk
      by_cases hlt : i < xs.length
      · obtain ⟨x, hxi⟩ : ∃ x, xs[i]? = some x := ⟨xs[i], List.getElem?_eq_getElem hlt⟩
        obtain ⟨y, hyi⟩ : ∃ y, ys[i]? = some y := ⟨ys[i]'(by have := HNE.out; omega), List.getElem?_eq_getElem _⟩
        obtain ⟨b1, o1, rfl, _, c1⟩ := sl_row hx2 (k := i) (u := .int .i64 x) (by simp [ints, hxi])
        obtain ⟨b2, o2, rfl, _, c2⟩ := sl_row hy2 (k := i) (u := .int .i64 y) (by simp [ints, hyi])
        have i0 : (0 : Int) ≤ (i : Int) := by omega
        have i1 : (i : Int) < (xs.length : Int) := by omega
        have i2 : (i : Int) < (ys.length : Int) := by have := HNE.out; omega
        have HXI := Lib.hid hxi
        have HYI := Lib.hid hyi
        clear hxi hyi hx2 hy2
        by_cases he : x = y
        · have he1 : (x == y) = true := by rw [he]; simp
          have he2 : (x != y) = false := by rw [he]; simp
          have HSTEP := Lib.hid (show xs.take (i + 1) = ys.take (i + 1) by rw [List.take_add_one, List.take_add_one, HT.out, HXI.out, HYI.out, he])
          clear he
          go_wp2
          go_quiet (fail)
          go_wp2
          go_roundw
          case rel => exact ⟨i + 1, _, by omega, by go_num, HSTEP.out, by first | rfl | rw [drewN_drewN]⟩
          case measure => simp [intOf]; omega
        · have he1 : (x == y) = false := beq_eq_false_iff_ne.2 (fun e => he (e))
          have he2 : (x != y) = true := bne_iff_ne.2 (fun e => he (e))
          have HD := Lib.hid (show decide (xs = ys) = false from decide_eq_false (fun e => he (by have h := HXI.out; rw [e, HYI.out] at h; exact (Option.some.inj h).symm)))
          clear he
          go_wp2
          go_quiet (fail)
          go_wp2
          go_ret
          exact ⟨by rw [HD.out]; rfl, _, by first | rfl | rw [drewN_drewN]⟩
      · obtain rfl : i = xs.length := by omega
        have j1 : ¬ ((xs.length : Nat) : Int) < (xs.length : Int) := by omega
        have HD := Lib.hid (show decide (xs = ys) = true from decide_eq_true (by have h := HT.out; rw [List.take_length, HNE.out, List.take_length] at h; exact h))
        clear hx2 hy2
        go_wp2
        go_ret
        exact ⟨by rw [HD.out]; rfl, q, rfl⟩
  · have n0 : ((xs.length : Int) == (ys.length : Int)) = false := by simp; omega
    have HD := Lib.hid (show decide (xs = ys) = false from decide_eq_false (fun e => hne (by rw [e])))
    clear hx hy hne
    go_enter Tryd.func38, Tryd.ntmps38
    go_wp2
    go_ret
    exact ⟨by rw [HD.out]; rfl, 0, rfl⟩
set_option maxHeartbeats 4000000 in
set_option maxRecDepth 100000 in
theorem same_walk (x y : CallP) (dv dw : Value) (w : World) (hx : DataR w dv x.data) (hy : DataR w dw y.data) (hl : x.data.length ≤ 100000000000000) (hl2 : y.data.length ≤ 100000000000000) :
    Calls Tryd.prog 37 #[.agg (x.cells dv), .agg (y.cells dw)] w fun e w' => e = .returned (.bool (decide (x = y))) ∧ Below w.heap.size w w' := by
  obtain ⟨DA, dc, rfl, hsx⟩ := hx
  obtain ⟨EA, ec, rfl, hsy⟩ := hy
  obtain ⟨W, hW⟩ : ∃ W, W = (w.alloc (.cells (x.cells (.slice DA x.data.length dc)) 24)).alloc (.cells (y.cells (.slice EA y.data.length ec)) 24) := ⟨_, rfl⟩
  have hB : Below w.heap.size w W := by rw [hW]; exact ((Below.refl _ w).alloc (Nat.le_refl _) _).alloc (by simp) _
  have h1 : W.heap[w.heap.size]? = some (.cells (x.cells (.slice DA x.data.length dc)) 24 (0, 0)) := by rw [hW]; exact blk_old (blk_new w _) _
  have h2 : W.heap[w.heap.size + 1]? = some (.cells (y.cells (.slice EA y.data.length ec)) 24 (0, 0)) := by
    rw [hW]
    have := blk_new (w.alloc (.cells (x.cells (.slice DA x.data.length dc)) 24)) (.cells (y.cells (.slice EA y.data.length ec)) 24)
    simpa using this
  have HE := Lib.hid (eqB_walk DA EA dc ec x.data y.data W (hsx.below hB) (hsy.below hB) (by omega) (by omega))
  have HB := Lib.hid hB
  have b1 := blk_cells h1
  have b2 := blk_cells h2
  have c0 : W.cell? ⟨w.heap.size, 0, none⟩ = some (.int .i64 x.kind) := (b1 0).trans rfl
  have d0 : W.cell? ⟨w.heap.size + 1, 0, none⟩ = some (.int .i64 y.kind) := (b2 0).trans rfl
  have c1 : W.cell? ⟨w.heap.size, 1, none⟩ = some (.string ⟨x.path.toArray⟩) := (b1 1).trans rfl
  have d1 : W.cell? ⟨w.heap.size + 1, 1, none⟩ = some (.string ⟨y.path.toArray⟩) := (b2 1).trans rfl
  have c2 : W.cell? ⟨w.heap.size, 2, none⟩ = some (.string ⟨x.other.toArray⟩) := (b1 2).trans rfl
  have d2 : W.cell? ⟨w.heap.size + 1, 2, none⟩ = some (.string ⟨y.other.toArray⟩) := (b2 2).trans rfl
  have c3 : W.cell? ⟨w.heap.size, 3, none⟩ = some (.int .i64 x.file) := (b1 3).trans rfl
  have d3 : W.cell? ⟨w.heap.size + 1, 3, none⟩ = some (.int .i64 y.file) := (b2 3).trans rfl
  have c4 : W.cell? ⟨w.heap.size, 4, none⟩ = some (.int .i64 x.at_) := (b1 4).trans rfl
  have d4 : W.cell? ⟨w.heap.size + 1, 4, none⟩ = some (.int .i64 y.at_) := (b2 4).trans rfl
  have c5 : W.cell? ⟨w.heap.size, 5, none⟩ = some (.int .i64 x.size) := (b1 5).trans rfl
  have d5 : W.cell? ⟨w.heap.size + 1, 5, none⟩ = some (.int .i64 y.size) := (b2 5).trans rfl
  have c6 : W.cell? ⟨w.heap.size, 6, none⟩ = some (.slice DA x.data.length dc) := (b1 6).trans rfl
  have d6 : W.cell? ⟨w.heap.size + 1, 6, none⟩ = some (.slice EA y.data.length ec) := (b2 6).trans rfl
  unfold CallP.cells at hW ⊢
  have HW := Lib.hid hW
  clear hsx hsy hl hl2 hW hB h1 h2 b1 b2
  by_cases e0 : x.kind = y.kind
  · have f0 : (x.kind == y.kind) = true := by rw [e0]; simp
    have E0 := Lib.hid e0
    clear e0
    by_cases e1 : x.path = y.path
    · have f1 : (x.path == y.path) = true := by rw [e1]; simp
      have E1 := Lib.hid e1
      clear e1
      by_cases e2 : x.other = y.other
      · have f2 : (x.other == y.other) = true := by rw [e2]; simp
        have E2 := Lib.hid e2
        clear e2
        by_cases e3 : x.file = y.file
        · have f3 : (x.file == y.file) = true := by rw [e3]; simp
          have E3 := Lib.hid e3
          clear e3
          by_cases e4 : x.at_ = y.at_
          · have f4 : (x.at_ == y.at_) = true := by rw [e4]; simp
            have E4 := Lib.hid e4
            clear e4
            by_cases e5 : x.size = y.size
            · have f5 : (x.size == y.size) = true := by rw [e5]; simp
              have E5 := Lib.hid e5
              clear e5
              have HD := Lib.hid (show decide (x = y) = decide (x.data = y.data) by
                have h0 := E0.out; have h1 := E1.out; have h2 := E2.out; have h3 := E3.out; have h4 := E4.out; have h5 := E5.out
                obtain ⟨a0, a1, a2, a3, a4, a5, a6⟩ := x
                obtain ⟨b0, b1, b2, b3, b4, b5, b6⟩ := y
                simp only at h0 h1 h2 h3 h4 h5
                subst h0 h1 h2 h3 h4 h5
                simp)
              go_enter Tryd.func37, Tryd.ntmps37
              go_upto_region 1 with fail
              rw [← HW.out]
              go_wp2_with fail
              refine HE.out.mono ?_
              rintro e w2 ⟨rfl, q, rfl⟩
              go_wp2
              go_ret
              exact ⟨by rw [HD.out]; rfl, HB.out.trans ((Keep.refl (fun _ => False) W).drewN q |>.below (fun _ h => h.elim) HB.out.size)⟩
            · have f5 : (x.size == y.size) = false := beq_eq_false_iff_ne.2 e5
              have HD := Lib.hid (show decide (x = y) = false from decide_eq_false (fun e => e5 (by rw [e])))
              clear e5
              go_enter Tryd.func37, Tryd.ntmps37
              go_upto_region 1 with fail
              rw [← HW.out]
              go_wp2
              go_ret
              exact ⟨by rw [HD.out]; rfl, HB.out⟩
          · have f4 : (x.at_ == y.at_) = false := beq_eq_false_iff_ne.2 e4
            have HD := Lib.hid (show decide (x = y) = false from decide_eq_false (fun e => e4 (by rw [e])))
            clear e4
            go_enter Tryd.func37, Tryd.ntmps37
            go_upto_region 1 with fail
            rw [← HW.out]
            go_wp2
            go_ret
            exact ⟨by rw [HD.out]; rfl, HB.out⟩
        · have f3 : (x.file == y.file) = false := beq_eq_false_iff_ne.2 e3
          have HD := Lib.hid (show decide (x = y) = false from decide_eq_false (fun e => e3 (by rw [e])))
          clear e3
          go_enter Tryd.func37, Tryd.ntmps37
          go_upto_region 1 with fail
          rw [← HW.out]
          go_wp2
          go_ret
          exact ⟨by rw [HD.out]; rfl, HB.out⟩
      · have f2 : (x.other == y.other) = false := beq_eq_false_iff_ne.2 e2
        have HD := Lib.hid (show decide (x = y) = false from decide_eq_false (fun e => e2 (by rw [e])))
        clear e2
        go_enter Tryd.func37, Tryd.ntmps37
        go_upto_region 1 with fail
        rw [← HW.out]
        go_wp2
        go_ret
        exact ⟨by rw [HD.out]; rfl, HB.out⟩
    · have f1 : (x.path == y.path) = false := beq_eq_false_iff_ne.2 e1
      have HD := Lib.hid (show decide (x = y) = false from decide_eq_false (fun e => e1 (by rw [e])))
      clear e1
      go_enter Tryd.func37, Tryd.ntmps37
      go_upto_region 1 with fail
      rw [← HW.out]
      go_wp2
      go_ret
      exact ⟨by rw [HD.out]; rfl, HB.out⟩
  · have f0 : (x.kind == y.kind) = false := beq_eq_false_iff_ne.2 e0
    have HD := Lib.hid (show decide (x = y) = false from decide_eq_false (fun e => e0 (by rw [e])))
    clear e0
    go_enter Tryd.func37, Tryd.ntmps37
    go_upto_region 1 with fail
    rw [← HW.out]
    go_wp2
    go_ret
    exact ⟨by rw [HD.out]; rfl, HB.out⟩
set_option maxHeartbeats 4000000 in
set_option maxRecDepth 100000 in
theorem equal_walk (x y : ActP) (dv kv dw kw : Value) (w : World) (hx : DataR w dv x.call.data) (hy : DataR w dw y.call.data) (gx : KeepR w kv x.keep) (gy : KeepR w kw y.keep) (hl : x.call.data.length ≤ 100000000000000) (hl2 : y.call.data.length ≤ 100000000000000) (hl3 : x.keep.length ≤ 100000000000000) (hl4 : y.keep.length ≤ 100000000000000) :
    Calls Tryd.prog 21 #[.agg (x.cells dv kv), .agg (y.cells dw kw)] w fun e w' => e = .returned (.bool (decide (x = y))) ∧ Below w.heap.size w w' := by
  obtain ⟨DA, dc, rfl, hsx⟩ := hx
  obtain ⟨EA, ec, rfl, hsy⟩ := hy
  obtain ⟨KA, kc, rfl, hkx⟩ := gx
  obtain ⟨MA, mc, rfl, hky⟩ := gy
  obtain ⟨W, hW⟩ : ∃ W, W = (w.alloc (.cells (x.cells (.slice DA x.call.data.length dc) (.slice KA x.keep.length kc)) 27)).alloc (.cells (y.cells (.slice EA y.call.data.length ec) (.slice MA y.keep.length mc)) 27) := ⟨_, rfl⟩
  have hB : Below w.heap.size w W := by rw [hW]; exact ((Below.refl _ w).alloc (Nat.le_refl _) _).alloc (by simp) _
  have h1 : W.heap[w.heap.size]? = some (.cells (x.cells (.slice DA x.call.data.length dc) (.slice KA x.keep.length kc)) 27 (0, 0)) := by rw [hW]; exact blk_old (blk_new w _) _
  have h2 : W.heap[w.heap.size + 1]? = some (.cells (y.cells (.slice EA y.call.data.length ec) (.slice MA y.keep.length mc)) 27 (0, 0)) := by
    rw [hW]
    have := blk_new (w.alloc (.cells (x.cells (.slice DA x.call.data.length dc) (.slice KA x.keep.length kc)) 27)) (.cells (y.cells (.slice EA y.call.data.length ec) (.slice MA y.keep.length mc)) 27)
    simpa using this
  have HS := Lib.hid (same_walk x.call y.call (.slice DA x.call.data.length dc) (.slice EA y.call.data.length ec) W ⟨DA, dc, rfl, hsx.below hB⟩ ⟨EA, ec, rfl, hsy.below hB⟩ hl hl2)
  have HE := Lib.hid (fun W2 (hb : Below W.heap.size W W2) => eqI_walk KA MA kc mc x.keep y.keep W2 ((hkx.below hB).below hb) ((hky.below hB).below hb) (by omega) (by omega))
  have HB := Lib.hid hB
  have b1 := blk_cells h1
  have b2 := blk_cells h2
  have H1 := Lib.hid h1
  have H2 := Lib.hid h2
  have c0 : W.cell? ⟨w.heap.size, 0, none⟩ = some (.int .i64 x.kind) := (b1 0).trans rfl
  have d0 : W.cell? ⟨w.heap.size + 1, 0, none⟩ = some (.int .i64 y.kind) := (b2 0).trans rfl
  have c1 : W.cell? ⟨w.heap.size, 1, none⟩ = some (.int .i64 x.a) := (b1 1).trans rfl
  have d1 : W.cell? ⟨w.heap.size + 1, 1, none⟩ = some (.int .i64 y.a) := (b2 1).trans rfl
  have c2 : W.cell? ⟨w.heap.size, 2, none⟩ = some (.int .i64 x.n) := (b1 2).trans rfl
  have d2 : W.cell? ⟨w.heap.size + 1, 2, none⟩ = some (.int .i64 y.n) := (b2 2).trans rfl
  have c3 : W.cell? ⟨w.heap.size, 3, none⟩ = some (.int .i64 x.call.kind) := (b1 3).trans rfl
  have d3 : W.cell? ⟨w.heap.size + 1, 3, none⟩ = some (.int .i64 y.call.kind) := (b2 3).trans rfl
  have c4 : W.cell? ⟨w.heap.size, 4, none⟩ = some (.string ⟨x.call.path.toArray⟩) := (b1 4).trans rfl
  have d4 : W.cell? ⟨w.heap.size + 1, 4, none⟩ = some (.string ⟨y.call.path.toArray⟩) := (b2 4).trans rfl
  have c5 : W.cell? ⟨w.heap.size, 5, none⟩ = some (.string ⟨x.call.other.toArray⟩) := (b1 5).trans rfl
  have d5 : W.cell? ⟨w.heap.size + 1, 5, none⟩ = some (.string ⟨y.call.other.toArray⟩) := (b2 5).trans rfl
  have c6 : W.cell? ⟨w.heap.size, 6, none⟩ = some (.int .i64 x.call.file) := (b1 6).trans rfl
  have d6 : W.cell? ⟨w.heap.size + 1, 6, none⟩ = some (.int .i64 y.call.file) := (b2 6).trans rfl
  have c7 : W.cell? ⟨w.heap.size, 7, none⟩ = some (.int .i64 x.call.at_) := (b1 7).trans rfl
  have d7 : W.cell? ⟨w.heap.size + 1, 7, none⟩ = some (.int .i64 y.call.at_) := (b2 7).trans rfl
  have c8 : W.cell? ⟨w.heap.size, 8, none⟩ = some (.int .i64 x.call.size) := (b1 8).trans rfl
  have d8 : W.cell? ⟨w.heap.size + 1, 8, none⟩ = some (.int .i64 y.call.size) := (b2 8).trans rfl
  have c9 : W.cell? ⟨w.heap.size, 9, none⟩ = some (.slice DA x.call.data.length dc) := (b1 9).trans rfl
  have d9 : W.cell? ⟨w.heap.size + 1, 9, none⟩ = some (.slice EA y.call.data.length ec) := (b2 9).trans rfl
  have c10 : W.cell? ⟨w.heap.size, 10, none⟩ = some (.slice KA x.keep.length kc) := (b1 10).trans rfl
  have d10 : W.cell? ⟨w.heap.size + 1, 10, none⟩ = some (.slice MA y.keep.length mc) := (b2 10).trans rfl
  unfold CallP.cells at HS
  unfold ActP.cells at hW ⊢
  have HW := Lib.hid hW
  clear hsx hsy hkx hky hl hl2 hl3 hl4 hW hB h1 h2 b1 b2
  by_cases e0 : x.kind = y.kind
  · have f0 : (x.kind == y.kind) = true := by rw [e0]; simp
    have E0 := Lib.hid e0
    clear e0
    by_cases e1 : x.a = y.a
    · have f1 : (x.a == y.a) = true := by rw [e1]; simp
      have E1 := Lib.hid e1
      clear e1
      by_cases e2 : x.n = y.n
      · have f2 : (x.n == y.n) = true := by rw [e2]; simp
        have E2 := Lib.hid e2
        clear e2
        by_cases e3 : x.call = y.call
        · have HC := Lib.hid (show decide (x.call = y.call) = true from decide_eq_true e3)
          have HD := Lib.hid (show decide (x = y) = decide (x.keep = y.keep) by
            have h0 := E0.out; have h1 := E1.out; have h2 := E2.out; have h3 := e3
            obtain ⟨a0, a1, a2, a3, a4⟩ := x
            obtain ⟨b0, b1, b2, b3, b4⟩ := y
            simp only at h0 h1 h2 h3
            subst h0 h1 h2 h3
            simp)
          rw [HC.out] at HS
          clear e3
          go_enter Tryd.func21, Tryd.ntmps21
          go_upto_region 1 with fail
          rw [← HW.out]
          go_wp2_with fail
          refine HS.out.mono ?_
          rintro e w2 ⟨rfl, hb2⟩
          have g1 : w2.cell? ⟨w.heap.size, 10, none⟩ = some (.slice KA x.keep.length kc) := (Keep.of_below (S := fun _ => False) hb2).cell c10 id
          have g2 : w2.cell? ⟨w.heap.size + 1, 10, none⟩ = some (.slice MA y.keep.length mc) := (Keep.of_below (S := fun _ => False) hb2).cell d10 id
          have HE2 := Lib.hid (HE.out w2 hb2)
          have B2 := Lib.hid (HB.out.trans (hb2.mono HB.out.size))
          clear hb2
          go_wp2_with fail
          refine HE2.out.mono ?_
          rintro e w3 ⟨rfl, q, rfl⟩
          go_wp2
          go_ret
          exact ⟨by rw [HD.out]; rfl, B2.out.trans ((Keep.refl (fun _ => False) w2).drewN q |>.below (fun _ h => h.elim) B2.out.size)⟩
        · have HC := Lib.hid (show decide (x.call = y.call) = false from decide_eq_false e3)
          have HD := Lib.hid (show decide (x = y) = false from decide_eq_false (fun e => e3 (by rw [e])))
          rw [HC.out] at HS
          clear e3
          go_enter Tryd.func21, Tryd.ntmps21
          go_upto_region 1 with fail
          rw [← HW.out]
          go_wp2_with fail
          refine HS.out.mono ?_
          rintro e w2 ⟨rfl, hb2⟩
          have B2 := Lib.hid (HB.out.trans (hb2.mono HB.out.size))
          clear hb2
          go_wp2
          go_ret
          exact ⟨by rw [HD.out]; rfl, B2.out⟩
      · have f2 : (x.n == y.n) = false := beq_eq_false_iff_ne.2 e2
        have HD := Lib.hid (show decide (x = y) = false from decide_eq_false (fun e => e2 (by rw [e])))
        clear e2
        go_enter Tryd.func21, Tryd.ntmps21
        go_upto_region 1 with fail
        rw [← HW.out]
        go_wp2
        go_ret
        exact ⟨by rw [HD.out]; rfl, HB.out⟩
    · have f1 : (x.a == y.a) = false := beq_eq_false_iff_ne.2 e1
      have HD := Lib.hid (show decide (x = y) = false from decide_eq_false (fun e => e1 (by rw [e])))
      clear e1
      go_enter Tryd.func21, Tryd.ntmps21
      go_upto_region 1 with fail
      rw [← HW.out]
      go_wp2
      go_ret
      exact ⟨by rw [HD.out]; rfl, HB.out⟩
  · have f0 : (x.kind == y.kind) = false := beq_eq_false_iff_ne.2 e0
    have HD := Lib.hid (show decide (x = y) = false from decide_eq_false (fun e => e0 (by rw [e])))
    clear e0
    go_enter Tryd.func21, Tryd.ntmps21
    go_upto_region 1 with fail
    rw [← HW.out]
    go_wp2
    go_ret
    exact ⟨by rw [HD.out]; rfl, HB.out⟩
end Go.Proofs.YtpdnfcgdcndhpaaDoor
