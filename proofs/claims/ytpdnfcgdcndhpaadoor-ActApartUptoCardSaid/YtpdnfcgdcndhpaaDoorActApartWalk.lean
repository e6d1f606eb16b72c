/- ActApart: the walk. -/
import Derived.Test.YtpdnfcgdcndhpaaDoorActReadsWalk
import Derived.Deep.DeepCutAuto
import Derived.Deep.CutBlock
set_option linter.unusedSimpArgs false
set_option linter.unusedVariables false
namespace Go.Proofs.YtpdnfcgdcndhpaaDoor
open Go.RowKit

attribute [local go_sem ↓] Go.wp_at_zero Go.wp_at_succ
def ApInv (l : Str) (w0 : World) (v9 : Value) (wr : World) : Prop := ∃ i : Nat, i ≤ l.length ∧ v9 = .int .i64 (i : Int) ∧ Below w0.heap.size w0 wr
set_option maxRecDepth 100000 in
set_option maxHeartbeats 8000000 in
theorem lawActApart.walk {B : Nat} (x y : ActP) (dv kv dw kw : Value) (w : World) (hx : ActOk x) (hy : ActOk y) (hsx : SmallA x 1048576) (hsy : SmallA y 1048576) (hw : WV B w) (hd : DataR w dv x.call.data) (hk : KeepR w kv x.keep) (hd2 : DataR w dw y.call.data) (hk2 : KeepR w kw y.keep) :
    Calls Tryd.prog 7 #[.agg (x.cells dv kv), .agg (y.cells dw kw)] w fun e w' => e = .returned (.bool true) ∧ Below w.heap.size w w' := by
  obtain ⟨DA, dc, rfl, hds⟩ := hd
  obtain ⟨KA, kc, rfl, hks⟩ := hk
  obtain ⟨EA, ec, rfl, hes⟩ := hd2
  obtain ⟨LA, lc, rfl, hls⟩ := hk2
  obtain ⟨W, hW⟩ : ∃ W, W = (w.alloc (.cells (x.cells (.slice DA x.call.data.length dc) (.slice KA x.keep.length kc)) 27)).alloc (.cells (y.cells (.slice EA y.call.data.length ec) (.slice LA y.keep.length lc)) 27) := ⟨_, rfl⟩
  have hB : Below w.heap.size w W := by rw [hW]; exact ((Below.refl _ w).alloc (Nat.le_refl _) _).alloc (by simp) _
  have h1 : W.heap[w.heap.size]? = some (.cells (x.cells (.slice DA x.call.data.length dc) (.slice KA x.keep.length kc)) 27 (0, 0)) := by rw [hW]; exact blk_old (blk_new w _) _
  have h2 : W.heap[w.heap.size + 1]? = some (.cells (y.cells (.slice EA y.call.data.length ec) (.slice LA y.keep.length lc)) 27 (0, 0)) := by
    rw [hW]
    have := blk_new (w.alloc (.cells (x.cells (.slice DA x.call.data.length dc) (.slice KA x.keep.length kc)) 27)) (.cells (y.cells (.slice EA y.call.data.length ec) (.slice LA y.keep.length lc)) 27)
    simpa using this
  have b1 := blk_cells h1
  have c0 : W.cell? ⟨w.heap.size, 0, none⟩ = some (.int .i64 x.kind) := (b1 0).trans rfl
  have c1 : W.cell? ⟨w.heap.size, 1, none⟩ = some (.int .i64 x.a) := (b1 1).trans rfl
  have c2 : W.cell? ⟨w.heap.size, 2, none⟩ = some (.int .i64 x.n) := (b1 2).trans rfl
  have c3 : W.cell? ⟨w.heap.size, 3, none⟩ = some (.int .i64 x.call.kind) := (b1 3).trans rfl
  have c4 : W.cell? ⟨w.heap.size, 4, none⟩ = some (.string ⟨x.call.path.toArray⟩) := (b1 4).trans rfl
  have c5 : W.cell? ⟨w.heap.size, 5, none⟩ = some (.string ⟨x.call.other.toArray⟩) := (b1 5).trans rfl
  have c6 : W.cell? ⟨w.heap.size, 6, none⟩ = some (.int .i64 x.call.file) := (b1 6).trans rfl
  have c7 : W.cell? ⟨w.heap.size, 7, none⟩ = some (.int .i64 x.call.at_) := (b1 7).trans rfl
  have c8 : W.cell? ⟨w.heap.size, 8, none⟩ = some (.int .i64 x.call.size) := (b1 8).trans rfl
  have c9 : W.cell? ⟨w.heap.size, 9, none⟩ = some (.slice DA x.call.data.length dc) := (b1 9).trans rfl
  have c10 : W.cell? ⟨w.heap.size, 10, none⟩ = some (.slice KA x.keep.length kc) := (b1 10).trans rfl
  have X1 := Lib.hid h1
  have X2 := Lib.hid h2
  have HDS := Lib.hid hds
  have HKS := Lib.hid hks
  have HES := Lib.hid hes
  have HLS := Lib.hid hls
  have HB := Lib.hid hB
  have HV := Lib.hid hw
  have HX := Lib.hid hx
  have HY := Lib.hid hy
  have HLT := Lib.hid (line_small hx hsx)
  have HKX := Lib.hid hx.len
  have HKY := Lib.hid hy.len
  have HLC := Lib.hid (line_chars x)
  have HI := Lib.hid (fun a b => line_inj (x := x) (y := y) a b)
  have HLX := Lib.hid (show lineS x = if okP x then jnW (writeP x) else [] from rfl)
  have HEX := Lib.hid (show lineE x = if okP x then 0 else 1 from rfl)
  have HLY := Lib.hid (show lineS y = if okP y then jnW (writeP y) else [] from rfl)
  have HEY := Lib.hid (show lineE y = if okP y then 0 else 1 from rfl)
  have HL0 := Lib.hid (line_walk x (.slice DA x.call.data.length dc) (.slice KA x.keep.length kc) W hx (hw.below hB) ⟨DA, dc, rfl, hds.below hB⟩ ⟨KA, kc, rfl, hks.below hB⟩)
  unfold ActP.cells at hW HL0 ⊢
  have HW := Lib.hid hW
  clear hds hks hes hls hw hx hy hsx hsy hW hB h1 h2 b1
  go_enter Tryd.func7, Tryd.ntmps7
  go_upto_region 1 with fail
  rw [← HW.out]
  go_wp2_with fail
  refine HL0.out.mono ?_
  rintro e W1 ⟨rfl, hb1⟩
  have B1 := Lib.hid (HB.out.trans (hb1.mono HB.out.size))
  have Y1 := Lib.hid ((Keep.of_below (S := fun _ => False) hb1).blk X1.out id)
  have hY2 := (Keep.of_below (S := fun _ => False) hb1).blk X2.out id
  have Y2 := Lib.hid hY2
  have b2 := blk_cells hY2
  have d0 : W1.cell? ⟨w.heap.size + 1, 0, none⟩ = some (.int .i64 y.kind) := (b2 0).trans rfl
  have d1 : W1.cell? ⟨w.heap.size + 1, 1, none⟩ = some (.int .i64 y.a) := (b2 1).trans rfl
  have d2 : W1.cell? ⟨w.heap.size + 1, 2, none⟩ = some (.int .i64 y.n) := (b2 2).trans rfl
  have d3 : W1.cell? ⟨w.heap.size + 1, 3, none⟩ = some (.int .i64 y.call.kind) := (b2 3).trans rfl
  have d4 : W1.cell? ⟨w.heap.size + 1, 4, none⟩ = some (.string ⟨y.call.path.toArray⟩) := (b2 4).trans rfl
  have d5 : W1.cell? ⟨w.heap.size + 1, 5, none⟩ = some (.string ⟨y.call.other.toArray⟩) := (b2 5).trans rfl
  have d6 : W1.cell? ⟨w.heap.size + 1, 6, none⟩ = some (.int .i64 y.call.file) := (b2 6).trans rfl
  have d7 : W1.cell? ⟨w.heap.size + 1, 7, none⟩ = some (.int .i64 y.call.at_) := (b2 7).trans rfl
  have d8 : W1.cell? ⟨w.heap.size + 1, 8, none⟩ = some (.int .i64 y.call.size) := (b2 8).trans rfl
  have d9 : W1.cell? ⟨w.heap.size + 1, 9, none⟩ = some (.slice EA y.call.data.length ec) := (b2 9).trans rfl
  have d10 : W1.cell? ⟨w.heap.size + 1, 10, none⟩ = some (.slice LA y.keep.length lc) := (b2 10).trans rfl
  have hL1 := line_walk y (.slice EA y.call.data.length ec) (.slice LA y.keep.length lc) W1 HY.out (HV.out.below B1.out) ⟨EA, ec, rfl, HES.out.below B1.out⟩ ⟨LA, lc, rfl, HLS.out.below B1.out⟩
  unfold ActP.cells at hL1
  have HL1 := Lib.hid hL1
  clear hb1 hY2 b2 hL1
  go_upto_region 2 with fail
  go_wp2_with fail
  refine HL1.out.mono ?_
  rintro e W2 ⟨rfl, hb2⟩
  have B2 := Lib.hid (B1.out.trans (hb2.mono B1.out.size))
  have Z1 := Lib.hid ((Keep.of_below (S := fun _ => False) hb2).blk Y1.out id)
  have Z2 := Lib.hid ((Keep.of_below (S := fun _ => False) hb2).blk Y2.out id)
  clear hb2 c0 c1 c2 c3 c4 c5 c6 c7 c8 c9 c10 d0 d1 d2 d3 d4 d5 d6 d7 d8 d9 d10
  cases hox : okP x with
  | false =>
    have e1 := HLX.out
    have e2 := HEX.out
    rw [hox] at e1 e2
    simp only [Bool.false_eq_true, if_false] at e1 e2
    rw [e1, e2]
    clear e1 e2 hox
    have HAW := Lib.hid (awake_walk W2 (HV.out.below B2.out))
    go_wp2_with fail
    refine HAW.out.mono ?_
    rintro e W3 ⟨rfl, hb3⟩
    have B3 := Lib.hid (B2.out.trans (hb3.mono B2.out.size))
    have HAX := Lib.hid (awake_walk W3 (HV.out.below B3.out))
    clear hb3
    go_wp2_with fail
    refine HAX.out.mono ?_
    rintro e W4 ⟨rfl, hb4⟩
    have B4 := Lib.hid (B3.out.trans (hb4.mono B3.out.size))
    clear hb4
    go_wp2
    go_ret
    exact ⟨rfl, B4.out⟩
  | true =>
    cases hoy : okP y with
    | false =>
      have e1 := HLY.out
      have e2 := HEY.out
      have e3 := HEX.out
      rw [hoy] at e1 e2
      rw [hox] at e3
      simp only [Bool.false_eq_true, if_false, if_true] at e1 e2 e3
      rw [e1, e2, e3]
      clear e1 e2 e3 hox hoy
      have HAW := Lib.hid (awake_walk W2 (HV.out.below B2.out))
      go_wp2_with fail
      refine HAW.out.mono ?_
      rintro e W3 ⟨rfl, hb3⟩
      have B3 := Lib.hid (B2.out.trans (hb3.mono B2.out.size))
      have HAX := Lib.hid (awake_walk W3 (HV.out.below B3.out))
      clear hb3
      go_wp2_with fail
      refine HAX.out.mono ?_
      rintro e W4 ⟨rfl, hb4⟩
      have B4 := Lib.hid (B3.out.trans (hb4.mono B3.out.size))
      clear hb4
      go_wp2
      go_ret
      exact ⟨rfl, B4.out⟩
    | true =>
      have e1 := HLX.out
      have e2 := HEX.out
      have e3 := HLY.out
      have e4 := HEY.out
      have HI2 := Lib.hid (HI.out hox hoy)
      rw [hox] at e1 e2
      rw [hoy] at e3 e4
      simp only [if_true] at e1 e2 e3 e4
      rw [e1, e2, e3, e4]
      obtain ⟨l, hl⟩ : ∃ l, l = jnW (writeP x) := ⟨_, rfl⟩
      obtain ⟨m, hm⟩ : ∃ m, m = jnW (writeP y) := ⟨_, rfl⟩
      rw [← hl] at HI2 HLC HLT ⊢
      rw [← hm] at HI2 ⊢
      have HAW := Lib.hid (awake_walk W2 (HV.out.below B2.out))
      clear e1 e2 e3 e4 hox hoy hl hm
      go_wp2_with fail
      refine HAW.out.mono ?_
      rintro e W3 ⟨rfl, hb3⟩
      have B3 := Lib.hid (B2.out.trans (hb3.mono B2.out.size))
      have A1 := Lib.hid ((Keep.of_below (S := fun _ => False) hb3).blk Z1.out id)
      have A2 := Lib.hid ((Keep.of_below (S := fun _ => False) hb3).blk Z2.out id)
      clear hb3
      go_upto_region 6 with fail
      go_loopw [9] (fun v9 wr => ApInv l W3 v9 wr) (fun v _ => l.length - (intOf v).toNat)
      case atStart => exact ⟨0, Nat.zero_le _, rfl, Below.refl _ _⟩
      case round =>
        obtain ⟨i, hi, rfl, hb⟩ := hrel
        have HBR := Lib.hid hb
        have hln := HLT.out
        clear hb
        by_cases hlt : i < l.length
        · obtain ⟨c, hc⟩ : ∃ c, l[i]? = some c := ⟨l[i], List.getElem?_eq_getElem hlt⟩
          have hcc := HLC.out c (List.mem_of_getElem? hc)
          have i0 : (0 : Int) ≤ (i : Int) := by omega
          have i1 : (i : Int) < (l.length : Int) := by omega
          have hx2 : (⟨l.toArray⟩ : ByteArray)[i]'(show i < l.length from hlt) = c := (List.getElem?_eq_some_iff.1 hc).2
          have g1 : ¬ (c.toNat : Int) < 32 := by omega
          have g2 : ¬ (126 : Int) < (c.toNat : Int) := by omega
          have hs2 := ba_size l
          clear hc hcc
          go_wp2
          go_roundw
          case rel => exact ⟨i + 1, by omega, by go_num, HBR.out⟩
          case measure => simp [intOf]; omega
        · obtain rfl : i = l.length := by omega
          have i1 : ¬ ((l.length : Nat) : Int) < (l.length : Int) := by omega
          have hs2 := ba_size l
          have B4 := Lib.hid (B3.out.trans (HBR.out.mono B3.out.size))
          have b1 := blk_cells ((Keep.of_below (S := fun _ => False) HBR.out).blk A1.out id)
          have b2 := blk_cells ((Keep.of_below (S := fun _ => False) HBR.out).blk A2.out id)
          have c0 : wr.cell? ⟨w.heap.size, 0, none⟩ = some (.int .i64 x.kind) := (b1 0).trans rfl
          have c1 : wr.cell? ⟨w.heap.size, 1, none⟩ = some (.int .i64 x.a) := (b1 1).trans rfl
          have c2 : wr.cell? ⟨w.heap.size, 2, none⟩ = some (.int .i64 x.n) := (b1 2).trans rfl
          have c3 : wr.cell? ⟨w.heap.size, 3, none⟩ = some (.int .i64 x.call.kind) := (b1 3).trans rfl
          have c4 : wr.cell? ⟨w.heap.size, 4, none⟩ = some (.string ⟨x.call.path.toArray⟩) := (b1 4).trans rfl
          have c5 : wr.cell? ⟨w.heap.size, 5, none⟩ = some (.string ⟨x.call.other.toArray⟩) := (b1 5).trans rfl
          have c6 : wr.cell? ⟨w.heap.size, 6, none⟩ = some (.int .i64 x.call.file) := (b1 6).trans rfl
          have c7 : wr.cell? ⟨w.heap.size, 7, none⟩ = some (.int .i64 x.call.at_) := (b1 7).trans rfl
          have c8 : wr.cell? ⟨w.heap.size, 8, none⟩ = some (.int .i64 x.call.size) := (b1 8).trans rfl
          have c9 : wr.cell? ⟨w.heap.size, 9, none⟩ = some (.slice DA x.call.data.length dc) := (b1 9).trans rfl
          have c10 : wr.cell? ⟨w.heap.size, 10, none⟩ = some (.slice KA x.keep.length kc) := (b1 10).trans rfl
          have d0 : wr.cell? ⟨w.heap.size + 1, 0, none⟩ = some (.int .i64 y.kind) := (b2 0).trans rfl
          have d1 : wr.cell? ⟨w.heap.size + 1, 1, none⟩ = some (.int .i64 y.a) := (b2 1).trans rfl
          have d2 : wr.cell? ⟨w.heap.size + 1, 2, none⟩ = some (.int .i64 y.n) := (b2 2).trans rfl
          have d3 : wr.cell? ⟨w.heap.size + 1, 3, none⟩ = some (.int .i64 y.call.kind) := (b2 3).trans rfl
          have d4 : wr.cell? ⟨w.heap.size + 1, 4, none⟩ = some (.string ⟨y.call.path.toArray⟩) := (b2 4).trans rfl
          have d5 : wr.cell? ⟨w.heap.size + 1, 5, none⟩ = some (.string ⟨y.call.other.toArray⟩) := (b2 5).trans rfl
          have d6 : wr.cell? ⟨w.heap.size + 1, 6, none⟩ = some (.int .i64 y.call.file) := (b2 6).trans rfl
          have d7 : wr.cell? ⟨w.heap.size + 1, 7, none⟩ = some (.int .i64 y.call.at_) := (b2 7).trans rfl
          have d8 : wr.cell? ⟨w.heap.size + 1, 8, none⟩ = some (.int .i64 y.call.size) := (b2 8).trans rfl
          have d9 : wr.cell? ⟨w.heap.size + 1, 9, none⟩ = some (.slice EA y.call.data.length ec) := (b2 9).trans rfl
          have d10 : wr.cell? ⟨w.heap.size + 1, 10, none⟩ = some (.slice LA y.keep.length lc) := (b2 10).trans rfl
          have hEQ := lequal_walk x y (.slice DA x.call.data.length dc) (.slice KA x.keep.length kc) (.slice EA y.call.data.length ec) (.slice LA y.keep.length lc) wr ⟨DA, dc, rfl, HDS.out.below B4.out⟩ ⟨EA, ec, rfl, HES.out.below B4.out⟩ ⟨KA, kc, rfl, HKS.out.below B4.out⟩ ⟨LA, lc, rfl, HLS.out.below B4.out⟩ (by have := HKX.out; omega) (by have := HKY.out; omega)
          by_cases hxy : x = y
          · have hlm : (l == m) = true := by rw [HI2.out.2 hxy]; simp
            rw [decide_eq_true hxy] at hEQ
            unfold ActP.cells at hEQ
            have HEQ := Lib.hid hEQ
            clear b1 b2 hEQ hxy hln
            go_wp2_with fail
            refine HEQ.out.mono ?_
            rintro e W5 ⟨rfl, hb5⟩
            have B5 := Lib.hid (B4.out.trans (hb5.mono B4.out.size))
            clear hb5
            go_wp2
            go_ret
            exact ⟨rfl, B5.out⟩
          · have hlm : (l == m) = false := by simpa using fun e => hxy (HI2.out.1 e)
            rw [decide_eq_false hxy] at hEQ
            unfold ActP.cells at hEQ
            have HEQ := Lib.hid hEQ
            clear b1 b2 hEQ hxy hln
            go_wp2_with fail
            refine HEQ.out.mono ?_
            rintro e W5 ⟨rfl, hb5⟩
            have B5 := Lib.hid (B4.out.trans (hb5.mono B4.out.size))
            clear hb5
            go_wp2
            go_ret
            exact ⟨rfl, B5.out⟩
end Go.Proofs.YtpdnfcgdcndhpaaDoor
