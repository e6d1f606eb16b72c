/- awake. -/
import Derived.Test.YtpdnfcgdcndhpaaDoorActL
set_option linter.unusedSimpArgs false
set_option linter.unusedVariables false
namespace Go.Proofs.YtpdnfcgdcndhpaaDoor
open Go.RowKit

attribute [local go_sem ↓] Go.wp_at_zero Go.wp_at_succ
set_option maxRecDepth 100000 in
set_option maxHeartbeats 4000000 in
theorem awake_walk {B : Nat} (w : World) (hw : WV B w) :
    Calls Tryd.prog 11 #[] w fun e w' => e = .returned (.bool true) ∧ Below w.heap.size w w' := by
  have HV := Lib.hid hw
  have HA := Lib.hid (act1_walk aw1 w hw (by decide))
  clear hw
  go_enter Tryd.func11, Tryd.ntmps11
  go_wp2_with fail
  refine HA.out.mono ?_
  rintro e W1 ⟨v, rfl, hv, hb1⟩
  rw [show actE aw1 = 0 by unfold actE; rw [a1]; rfl]
  rw [show actY aw1 = ax1 by unfold actY; rw [a1]; rfl] at hv
  obtain ⟨dv, kv, rfl, hd, hk⟩ := hv
  obtain ⟨DA, dc, rfl, hds, _⟩ := hd
  obtain ⟨KA, kc, rfl, _⟩ := hk
  have B1 := Lib.hid hb1
  have HDS := Lib.hid hds
  clear hb1 hds
  have eV : ax1.cells (.slice DA ax1.call.data.length dc) (.slice KA ax1.keep.length kc) = #[.int .i64 1, .int .i64 1, .int .i64 0, .int .i64 5, .string ⟨#[]⟩, .string ⟨#[]⟩, .int .i64 0, .int .i64 5, .int .i64 0, .slice DA 3 dc, .slice KA 0 kc] := rfl
  rw [eV]
  clear eV
  go_upto_region 2 with fail
  obtain ⟨W2, hW2⟩ : ∃ W2, W2 = W1.alloc (.cells #[.int .i64 1, .int .i64 1, .int .i64 0, .int .i64 5, .string ⟨#[]⟩, .string ⟨#[]⟩, .int .i64 0, .int .i64 5, .int .i64 0, .slice DA 3 dc, .slice KA 0 kc] 27) := ⟨_, rfl⟩
  rw [← hW2]
  have hb2 : Below W1.heap.size W1 W2 := by rw [hW2]; exact (Below.refl _ W1).alloc (Nat.le_refl _) _
  have hx2 : W2.heap[W1.heap.size]? = some (.cells #[.int .i64 1, .int .i64 1, .int .i64 0, .int .i64 5, .string ⟨#[]⟩, .string ⟨#[]⟩, .int .i64 0, .int .i64 5, .int .i64 0, .slice DA 3 dc, .slice KA 0 kc] 27 (0, 0)) := by rw [hW2]; exact blk_new W1 _
  have B2 := Lib.hid (B1.out.trans (hb2.mono B1.out.size))
  have D2 := Lib.hid (HDS.out.below hb2)
  have X2 := Lib.hid hx2
  clear hW2 hb2 hx2
  have hz : ∀ k ∈ ax2.keep, I64 k := by intro k hk; simp [ax2] at hk; rcases hk with rfl | rfl <;> exact ⟨by omega, by omega⟩
  have z : I64 0 := ⟨by omega, by omega⟩
  have hok2 : ActOk ax2 := ⟨⟨by decide, by decide⟩, z, ⟨by decide, by decide⟩, zero_ok.1.call, hz, by decide⟩
  have hks := own_new W2 #[.int .i64 (-1), .int .i64 2] 3 1 2 rfl (by decide)
  have HL := Lib.hid (line_walk ax2 (.slice none 0 0) (.slice (some ⟨W2.heap.size, 0, none⟩) 2 2) (W2.alloc (.cells #[.int .i64 (-1), .int .i64 2] 3)) hok2 (HV.out.below (B2.out.alloc B2.out.size _)) (DataT.nil _).r ⟨_, 2, rfl, Sl.of_own hks⟩)
  have eL : ax2.cells (.slice none 0 0) (.slice (some ⟨W2.heap.size, 0, none⟩) 2 2) = #[.int .i64 5, .int .i64 0, .int .i64 3, .int .i64 0, .string ⟨#[]⟩, .string ⟨#[]⟩, .int .i64 0, .int .i64 0, .int .i64 0, .slice none 0 0, .slice (some ⟨W2.heap.size, 0, none⟩) 2 2] := rfl
  rw [eL, show lineS ax2 = aw2 by unfold lineS; rw [if_pos l2.1]; exact l2.2, show lineE ax2 = 0 by unfold lineE; rw [if_pos l2.1]] at HL
  clear hz hok2 hks eL
  go_wp2_with fail
  refine HL.out.mono ?_
  rintro e W3 ⟨rfl, hb3⟩
  have hb3' : Below W2.heap.size W2 W3 := ((Below.refl W2.heap.size W2).alloc (Nat.le_refl _) _).trans (hb3.mono (by simp))
  have B3 := Lib.hid (B2.out.trans (hb3'.mono B2.out.size))
  have D3 := Lib.hid (D2.out.below hb3')
  have X3 := Lib.hid ((Keep.of_below (S := fun _ => False) hb3').blk X2.out id)
  have HC := Lib.hid (acts1_walk (aw3 ++ 10 :: aw4) W3 (HV.out.below B3.out) (by decide))
  clear hb3 hb3'
  rw [s34] at HC
  go_wp2_with fail
  refine HC.out.mono ?_
  rintro e W4 ⟨v, rfl, ⟨L, LA, lc, rfl, _, hL, _⟩, hb4⟩
  have hLl : L.length = 2 := by have := congrArg List.length hL; simpa using this
  rw [hLl]
  have B4 := Lib.hid (B3.out.trans (hb4.mono B3.out.size))
  have D4 := D3.out.below hb4
  have X4 := blk_cells ((Keep.of_below (S := fun _ => False) hb4).blk X3.out id)
  have c1 : W4.cell? ⟨W1.heap.size, 1, none⟩ = some (.int .i64 1) := (X4 1).trans rfl
  have c7 : W4.cell? ⟨W1.heap.size, 7, none⟩ = some (.int .i64 5) := (X4 7).trans rfl
  have c9 : W4.cell? ⟨W1.heap.size, 9, none⟩ = some (.slice DA 3 dc) := (X4 9).trans rfl
  have kc1 := run_conv_bytes (P := Tryd.prog) W4 Tryd.underlying22 Tryd.underlying5 Tryd.underlying9 (v := .slice DA 3 dc) (n := 3) (d := [97, 32, 98]) D4
  have z : I64 0 := ⟨by omega, by omega⟩
  have HR := Lib.hid (result_walk r7 (.slice none 0 0) (.slice none 0 0) W4 ⟨⟨by decide, by decide⟩, z, z, z, by decide, by decide⟩ (HV.out.below B4.out) (DataT.nil _).r ⟨none, 0, rfl, ⟨none, 0, rfl, .inl rfl, fun _ => ⟨rfl, rfl⟩, Nat.le_refl _, rfl⟩⟩)
  have eR : r7.cells (.slice none 0 0) (.slice none 0 0) = #[.int .i64 7, .int .i64 0, .int .i64 0, .int .i64 0, .slice none 0 0, .slice none 0 0] := rfl
  rw [eR, rs7] at HR
  clear hb4 hL hLl D4 X4 z eR
  unfold aw2
  go_wp2_with fail
  refine HR.out.mono ?_
  rintro e W5 ⟨rfl, hb5⟩
  have B5 := Lib.hid (B4.out.trans (hb5.mono B4.out.size))
  clear hb5
  go_wp2
  go_ret
  exact ⟨rfl, B5.out⟩
end Go.Proofs.YtpdnfcgdcndhpaaDoor
