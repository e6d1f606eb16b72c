/- ActLines: the walk. -/
import Derived.Test.YtpdnfcgdcndhpaaDoorActQ
set_option linter.unusedSimpArgs false
set_option linter.unusedVariables false
namespace Go.Proofs.YtpdnfcgdcndhpaaDoor
open Go.RowKit

attribute [local go_sem ↓] Go.wp_at_zero Go.wp_at_succ
set_option maxRecDepth 100000 in
set_option maxHeartbeats 8000000 in
theorem lawActLines.walk {B : Nat} (x : ActP) (dv kv : Value) (w : World) (hx : ActOk x) (hw : WV B w) (hd : DataR w dv x.call.data) (hk : KeepR w kv x.keep) :
    Calls Tryd.prog 3 #[.agg (x.cells dv kv)] w fun e w' => e = .returned (.bool true) ∧ Below w.heap.size w w' := by
  obtain ⟨DA, dc, rfl, hsl⟩ := hd
  obtain ⟨KA, kc, rfl, hkl⟩ := hk
  obtain ⟨b, hb⟩ : ∃ b, b = w.alloc (.cells (x.cells (.slice DA x.call.data.length dc) (.slice KA x.keep.length kc)) 27) := ⟨_, rfl⟩
  have hbx : b.heap[w.heap.size]? = some (.cells (x.cells (.slice DA x.call.data.length dc) (.slice KA x.keep.length kc)) 27 (0, 0)) := by rw [hb]; exact blk_new w _
  have hbb : Below w.heap.size w b := by rw [hb]; exact (Below.refl _ w).alloc (Nat.le_refl _) _
  have HB := Lib.hid hbb
  have HBX := Lib.hid hbx
  have bX := blk_cells hbx
  have c0 : b.cell? ⟨w.heap.size, 0, none⟩ = some (.int .i64 x.kind) := (bX 0).trans rfl
  have c1 : b.cell? ⟨w.heap.size, 1, none⟩ = some (.int .i64 x.a) := (bX 1).trans rfl
  have c2 : b.cell? ⟨w.heap.size, 2, none⟩ = some (.int .i64 x.n) := (bX 2).trans rfl
  have c3 : b.cell? ⟨w.heap.size, 3, none⟩ = some (.int .i64 x.call.kind) := (bX 3).trans rfl
  have c4 : b.cell? ⟨w.heap.size, 4, none⟩ = some (.string ⟨x.call.path.toArray⟩) := (bX 4).trans rfl
  have c5 : b.cell? ⟨w.heap.size, 5, none⟩ = some (.string ⟨x.call.other.toArray⟩) := (bX 5).trans rfl
  have c6 : b.cell? ⟨w.heap.size, 6, none⟩ = some (.int .i64 x.call.file) := (bX 6).trans rfl
  have c7 : b.cell? ⟨w.heap.size, 7, none⟩ = some (.int .i64 x.call.at_) := (bX 7).trans rfl
  have c8 : b.cell? ⟨w.heap.size, 8, none⟩ = some (.int .i64 x.call.size) := (bX 8).trans rfl
  have c9 : b.cell? ⟨w.heap.size, 9, none⟩ = some (.slice DA x.call.data.length dc) := (bX 9).trans rfl
  have c10 : b.cell? ⟨w.heap.size, 10, none⟩ = some (.slice KA x.keep.length kc) := (bX 10).trans rfl
  have HLN := Lib.hid (line_walk x (.slice DA x.call.data.length dc) (.slice KA x.keep.length kc) b hx (hw.below hbb) ⟨DA, dc, rfl, hsl.below hbb⟩ ⟨KA, kc, rfl, hkl.below hbb⟩)
  have HLL := Lib.hid (fun W (h : Below w.heap.size w W) => lline_walk x (.slice DA x.call.data.length dc) (.slice KA x.keep.length kc) W hx ⟨DA, dc, rfl, hsl.below h⟩ ⟨KA, kc, rfl, hkl.below h⟩)
  have HAW := Lib.hid (fun W (h : Below w.heap.size w W) => awake_walk W (hw.below h))
  have HOK := Lib.hid (ok_law x hx)
  have HLS := Lib.hid (show lineS x = if okP x then jnW (writeP x) else [] from rfl)
  have HLE := Lib.hid (show lineE x = if okP x then 0 else 1 from rfl)
  unfold ActP.cells at hb HLN HLL ⊢
  have HBE := Lib.hid hb
  clear hsl hkl hx hw hb hbx hbb bX
  go_enter Tryd.func3, Tryd.ntmps3
  go_upto_region 1 with fail
  rw [← HBE.out]
  go_wp2_with fail
  refine HLN.out.mono ?_
  rintro e W1 ⟨rfl, hb1⟩
  have B1 := Lib.hid (HB.out.trans (hb1.mono HB.out.size))
  have bY := blk_cells ((Keep.of_below (S := fun _ => False) hb1).blk HBX.out id)
  have d0 : W1.cell? ⟨w.heap.size, 0, none⟩ = some (.int .i64 x.kind) := (bY 0).trans rfl
  have d1 : W1.cell? ⟨w.heap.size, 1, none⟩ = some (.int .i64 x.a) := (bY 1).trans rfl
  have d2 : W1.cell? ⟨w.heap.size, 2, none⟩ = some (.int .i64 x.n) := (bY 2).trans rfl
  have d3 : W1.cell? ⟨w.heap.size, 3, none⟩ = some (.int .i64 x.call.kind) := (bY 3).trans rfl
  have d4 : W1.cell? ⟨w.heap.size, 4, none⟩ = some (.string ⟨x.call.path.toArray⟩) := (bY 4).trans rfl
  have d5 : W1.cell? ⟨w.heap.size, 5, none⟩ = some (.string ⟨x.call.other.toArray⟩) := (bY 5).trans rfl
  have d6 : W1.cell? ⟨w.heap.size, 6, none⟩ = some (.int .i64 x.call.file) := (bY 6).trans rfl
  have d7 : W1.cell? ⟨w.heap.size, 7, none⟩ = some (.int .i64 x.call.at_) := (bY 7).trans rfl
  have d8 : W1.cell? ⟨w.heap.size, 8, none⟩ = some (.int .i64 x.call.size) := (bY 8).trans rfl
  have d9 : W1.cell? ⟨w.heap.size, 9, none⟩ = some (.slice DA x.call.data.length dc) := (bY 9).trans rfl
  have d10 : W1.cell? ⟨w.heap.size, 10, none⟩ = some (.slice KA x.keep.length kc) := (bY 10).trans rfl
  have HL1 := Lib.hid (HLL.out W1 B1.out)
  clear hb1 bY
  go_wp2_with fail
  refine HL1.out.mono ?_
  rintro e W2 ⟨t, rfl, ht, hb2⟩
  have HT := Lib.hid ht
  have B2 := Lib.hid (B1.out.trans (hb2.mono B1.out.size))
  have HA := Lib.hid (HAW.out W2 B2.out)
  clear hb2 ht
  cases ho : okP x with
  | false =>
    have e1 := HLS.out
    have e2 := HLE.out
    rw [ho] at e1 e2
    simp only [Bool.false_eq_true, if_false] at e1 e2
    have e3 := HOK.out.trans ho
    rw [e1, e2, e3]
    clear e1 e2 e3 ho
    go_wp2_with fail
    refine HA.out.mono ?_
    rintro e W3 ⟨rfl, hb3⟩
    have B3 := Lib.hid (B2.out.trans (hb3.mono B2.out.size))
    clear hb3
    go_wp2
    go_ret
    exact ⟨rfl, B3.out⟩
  | true =>
    have e1 := HLS.out
    have e2 := HLE.out
    rw [ho] at e1 e2
    simp only [if_true] at e1 e2
    have e3 := HOK.out.trans ho
    have e4 := HT.out e3
    rw [e1, e2, e3, e4]
    obtain ⟨l, hl⟩ : ∃ l, l = jnW (writeP x) := ⟨_, rfl⟩
    rw [← hl]
    have hll : (l == l) = true := by simp
    clear e1 e2 e3 e4 ho hl HT
    go_wp2_with fail
    refine HA.out.mono ?_
    rintro e W3 ⟨rfl, hb3⟩
    have B3 := Lib.hid (B2.out.trans (hb3.mono B2.out.size))
    clear hb3
    go_wp2
    go_ret
    exact ⟨rfl, B3.out⟩
end Go.Proofs.YtpdnfcgdcndhpaaDoor
