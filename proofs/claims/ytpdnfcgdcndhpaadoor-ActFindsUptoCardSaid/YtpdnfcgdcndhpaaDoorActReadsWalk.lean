/- ActReads: the walk. -/
import Derived.Test.YtpdnfcgdcndhpaaDoorActQ
set_option linter.unusedSimpArgs false
set_option linter.unusedVariables false
namespace Go.Proofs.YtpdnfcgdcndhpaaDoor
open Go.RowKit

attribute [local go_sem ↓] Go.wp_at_zero Go.wp_at_succ
theorem line_small {x : ActP} (hx : ActOk x) (hs : SmallA x 1048576) : (jnW (writeP x)).length ≤ 4294967280 := by
  have h1 := writeP_tot x 1048576 hx hs
  have h2 := jnW_len (writeP x)
  omega
set_option maxRecDepth 100000 in
set_option maxHeartbeats 8000000 in
theorem lawActReads.walk {B : Nat} (x : ActP) (dv kv : Value) (s : Str) (w : World) (hx : ActOk x) (hsm : SmallA x 1048576) (hs : s.length ≤ 4294967280) (hw : WV B w) (hd : DataR w dv x.call.data) (hk : KeepR w kv x.keep) :
    Calls Tryd.prog 4 #[.agg (x.cells dv kv), .string ⟨s.toArray⟩] w fun e w' => e = .returned (.bool true) ∧ Below w.heap.size w w' := by
  obtain ⟨DA, dc, rfl, hds⟩ := hd
  obtain ⟨KA, kc, rfl, hks⟩ := hk
  have HDS := Lib.hid hds
  have HKS := Lib.hid hks
  have HV := Lib.hid hw
  have HX := Lib.hid hx
  have HLT := Lib.hid (line_small hx hsm)
  have HKL := Lib.hid hx.len
  have Bw := Lib.hid (Below.refl w.heap.size w)
  have HOK := Lib.hid (ok_law x hx)
  have HOL := Lib.hid (fun h => act_of_line x h)
  clear hds hks hw hx hsm
  unfold ActP.cells
  go_enter Tryd.func4, Tryd.ntmps4
  go_upto_region 1 with fail
  obtain ⟨W0, hW0⟩ : ∃ W0, W0 = w.alloc (.cells #[.int .i64 x.kind, .int .i64 x.a, .int .i64 x.n, .int .i64 x.call.kind, .string ⟨x.call.path.toArray⟩, .string ⟨x.call.other.toArray⟩, .int .i64 x.call.file, .int .i64 x.call.at_, .int .i64 x.call.size, .slice DA x.call.data.length dc, .slice KA x.keep.length kc] 27) := ⟨_, rfl⟩
  rw [← hW0]
  have hbW0 : Below w.heap.size w W0 := by rw [hW0]; exact (Below.refl _ w).alloc (Nat.le_refl _) _
  have hxW0 : W0.heap[w.heap.size]? = some (.cells #[.int .i64 x.kind, .int .i64 x.a, .int .i64 x.n, .int .i64 x.call.kind, .string ⟨x.call.path.toArray⟩, .string ⟨x.call.other.toArray⟩, .int .i64 x.call.file, .int .i64 x.call.at_, .int .i64 x.call.size, .slice DA x.call.data.length dc, .slice KA x.keep.length kc] 27 (0, 0)) := by rw [hW0]; exact blk_new w _
  have BW0 := Lib.hid (Bw.out.trans (hbW0.mono Bw.out.size))
  have XW0 := Lib.hid hxW0
  have qW0 := blk_cells hxW0
  have c0 : W0.cell? ⟨w.heap.size, 0, none⟩ = some (.int .i64 x.kind) := (qW0 0).trans rfl
  have c1 : W0.cell? ⟨w.heap.size, 1, none⟩ = some (.int .i64 x.a) := (qW0 1).trans rfl
  have c2 : W0.cell? ⟨w.heap.size, 2, none⟩ = some (.int .i64 x.n) := (qW0 2).trans rfl
  have c3 : W0.cell? ⟨w.heap.size, 3, none⟩ = some (.int .i64 x.call.kind) := (qW0 3).trans rfl
  have c4 : W0.cell? ⟨w.heap.size, 4, none⟩ = some (.string ⟨x.call.path.toArray⟩) := (qW0 4).trans rfl
  have c5 : W0.cell? ⟨w.heap.size, 5, none⟩ = some (.string ⟨x.call.other.toArray⟩) := (qW0 5).trans rfl
  have c6 : W0.cell? ⟨w.heap.size, 6, none⟩ = some (.int .i64 x.call.file) := (qW0 6).trans rfl
  have c7 : W0.cell? ⟨w.heap.size, 7, none⟩ = some (.int .i64 x.call.at_) := (qW0 7).trans rfl
  have c8 : W0.cell? ⟨w.heap.size, 8, none⟩ = some (.int .i64 x.call.size) := (qW0 8).trans rfl
  have c9 : W0.cell? ⟨w.heap.size, 9, none⟩ = some (.slice DA x.call.data.length dc) := (qW0 9).trans rfl
  have c10 : W0.cell? ⟨w.heap.size, 10, none⟩ = some (.slice KA x.keep.length kc) := (qW0 10).trans rfl
  have hLL := lline_walk x (.slice DA x.call.data.length dc) (.slice KA x.keep.length kc) W0 HX.out ⟨DA, dc, rfl, HDS.out.below hbW0⟩ ⟨KA, kc, rfl, HKS.out.below hbW0⟩
  unfold ActP.cells at hLL
  have HLL := Lib.hid hLL
  have HB0 := Lib.hid hbW0
  clear hW0 hbW0 hxW0 qW0 hLL
  go_wp2_with fail
  refine HLL.out.mono ?_
  rintro e W1 ⟨t, rfl, ht, hb1⟩
  have BW1 := Lib.hid (BW0.out.trans (hb1.mono BW0.out.size))
  have X1 := Lib.hid ((Keep.of_below (S := fun _ => False) hb1).blk XW0.out id)
  have HB1 := Lib.hid (HB0.out.trans (hb1.mono HB0.out.size))
  have HT := Lib.hid ht
  clear hb1 ht c0 c1 c2 c3 c4 c5 c6 c7 c8 c9 c10
  cases ho : llB x with
  | false =>
    clear ho
    have HA1 := Lib.hid (act1_walk s W1 (HV.out.below BW1.out) hs)
    go_wp2_with fail
    refine HA1.out.mono ?_
    rintro e U1 ⟨v, rfl, hIs, hu1⟩
    have BU1 := Lib.hid (BW1.out.trans (hu1.mono BW1.out.size))
    clear hu1
    cases hq : actOf s with
    | none =>
      rw [show actE s = 5 by unfold actE; rw [hq]; rfl]
      rw [show actY s = ActP.new 0 by unfold actY; rw [hq]; rfl] at hIs
      clear hq
      obtain ⟨dv2, kv2, rfl, ⟨EA, ec, rfl, hes, _⟩, ⟨LA, lc, rfl, hls, _⟩⟩ := hIs
      have HES := Lib.hid hes
      have HLS := Lib.hid hls
      clear hes hls
      unfold ActP.cells ActP.new CallP.new
      simp only [List.length_nil]
      go_upto_region 8 with fail
      obtain ⟨U2, hU2⟩ : ∃ U2, U2 = U1.alloc (.cells #[.int .i64 0, .int .i64 0, .int .i64 0, .int .i64 0, .string ⟨#[]⟩, .string ⟨#[]⟩, .int .i64 0, .int .i64 0, .int .i64 0, .slice EA 0 ec, .slice LA 0 lc] 27) := ⟨_, rfl⟩
      rw [← hU2]
      have hbU2 : Below U1.heap.size U1 U2 := by rw [hU2]; exact (Below.refl _ U1).alloc (Nat.le_refl _) _
      have hxU2 : U2.heap[U1.heap.size]? = some (.cells #[.int .i64 0, .int .i64 0, .int .i64 0, .int .i64 0, .string ⟨#[]⟩, .string ⟨#[]⟩, .int .i64 0, .int .i64 0, .int .i64 0, .slice EA 0 ec, .slice LA 0 lc] 27 (0, 0)) := by rw [hU2]; exact blk_new U1 _
      have BU2 := Lib.hid (BU1.out.trans (hbU2.mono BU1.out.size))
      have XU2 := Lib.hid hxU2
      have qU2 := blk_cells hxU2
      have HAW := Lib.hid (awake_walk U2 (HV.out.below BU2.out))
      clear hU2
      go_wp2_with fail
      refine HAW.out.mono ?_
      rintro e U3 ⟨rfl, hu3⟩
      have BU3 := Lib.hid (BU2.out.trans (hu3.mono BU2.out.size))
      have b3 := blk_cells ((Keep.of_below (S := fun _ => False) hu3).blk XU2.out id)
      have g0 : U3.cell? ⟨U1.heap.size, 0, none⟩ = some (.int .i64 0) := (b3 0).trans rfl
      have g1 : U3.cell? ⟨U1.heap.size, 1, none⟩ = some (.int .i64 0) := (b3 1).trans rfl
      have g2 : U3.cell? ⟨U1.heap.size, 2, none⟩ = some (.int .i64 0) := (b3 2).trans rfl
      have g3 : U3.cell? ⟨U1.heap.size, 3, none⟩ = some (.int .i64 0) := (b3 3).trans rfl
      have g4 : U3.cell? ⟨U1.heap.size, 4, none⟩ = some (.string ⟨#[]⟩) := (b3 4).trans rfl
      have g5 : U3.cell? ⟨U1.heap.size, 5, none⟩ = some (.string ⟨#[]⟩) := (b3 5).trans rfl
      have g6 : U3.cell? ⟨U1.heap.size, 6, none⟩ = some (.int .i64 0) := (b3 6).trans rfl
      have g7 : U3.cell? ⟨U1.heap.size, 7, none⟩ = some (.int .i64 0) := (b3 7).trans rfl
      have g8 : U3.cell? ⟨U1.heap.size, 8, none⟩ = some (.int .i64 0) := (b3 8).trans rfl
      have g9 : U3.cell? ⟨U1.heap.size, 9, none⟩ = some (.slice EA 0 ec) := (b3 9).trans rfl
      have g10 : U3.cell? ⟨U1.heap.size, 10, none⟩ = some (.slice LA 0 lc) := (b3 10).trans rfl
      have hEQ := lequal_walk (ActP.new 0) (ActP.new 0) (.slice EA 0 ec) (.slice LA 0 lc) (.slice none 0 0) (.slice none 0 0) U3 ⟨EA, ec, rfl, (HES.out.below hbU2).below hu3⟩ (DataT.nil U3).r ⟨LA, lc, rfl, (HLS.out.below hbU2).below hu3⟩ (KeepT.nil U3).r (Nat.zero_le _) (Nat.zero_le _)
      rw [decide_eq_true rfl] at hEQ
      unfold ActP.cells ActP.new CallP.new at hEQ
      have HEQ := Lib.hid hEQ
      clear hu3 b3 hbU2 hxU2 qU2 hEQ
      go_wp2_with fail
      refine HEQ.out.mono ?_
      rintro e U4 ⟨rfl, hu4⟩
      have BU4 := Lib.hid (BU3.out.trans (hu4.mono BU3.out.size))
      clear hu4
      go_wp2
      go_ret
      exact ⟨rfl, BU4.out⟩
    | some y =>
      rw [show actE s = 0 by unfold actE; rw [hq]; rfl]
      rw [show actY s = y by unfold actY; rw [hq]; rfl] at hIs
      obtain ⟨hoy, hjy⟩ := act_of_some hq
      have hy : ActOk y := by
        have := (actY_ok (s := s) hs).1
        rwa [show actY s = y by unfold actY; rw [hq]; rfl] at this
      rw [← ok_law y hy] at hoy
      clear hq
      obtain ⟨dv2, kv2, rfl, ⟨EA, ec, rfl, hes, _⟩, ⟨LA, lc, rfl, hls, _⟩⟩ := hIs
      have HES := Lib.hid hes
      have HLS := Lib.hid hls
      have HOY := Lib.hid hoy
      have HJY := Lib.hid hjy
      have HY := Lib.hid hy
      clear hes hls hoy hjy hy
      unfold ActP.cells
      go_upto_region 9 with fail
      obtain ⟨U2, hU2⟩ : ∃ U2, U2 = U1.alloc (.cells #[.int .i64 y.kind, .int .i64 y.a, .int .i64 y.n, .int .i64 y.call.kind, .string ⟨y.call.path.toArray⟩, .string ⟨y.call.other.toArray⟩, .int .i64 y.call.file, .int .i64 y.call.at_, .int .i64 y.call.size, .slice EA y.call.data.length ec, .slice LA y.keep.length lc] 27) := ⟨_, rfl⟩
      rw [← hU2]
      have hbU2 : Below U1.heap.size U1 U2 := by rw [hU2]; exact (Below.refl _ U1).alloc (Nat.le_refl _) _
      have hxU2 : U2.heap[U1.heap.size]? = some (.cells #[.int .i64 y.kind, .int .i64 y.a, .int .i64 y.n, .int .i64 y.call.kind, .string ⟨y.call.path.toArray⟩, .string ⟨y.call.other.toArray⟩, .int .i64 y.call.file, .int .i64 y.call.at_, .int .i64 y.call.size, .slice EA y.call.data.length ec, .slice LA y.keep.length lc] 27 (0, 0)) := by rw [hU2]; exact blk_new U1 _
      have BU2 := Lib.hid (BU1.out.trans (hbU2.mono BU1.out.size))
      have XU2 := Lib.hid hxU2
      have qU2 := blk_cells hxU2
      have hLL := lline_walk y (.slice EA y.call.data.length ec) (.slice LA y.keep.length lc) U2 HY.out ⟨EA, ec, rfl, HES.out.below hbU2⟩ ⟨LA, lc, rfl, HLS.out.below hbU2⟩
      unfold ActP.cells at hLL
      have HLL := Lib.hid hLL
      have g0 : U2.cell? ⟨U1.heap.size, 0, none⟩ = some (.int .i64 y.kind) := (qU2 0).trans rfl
      have g1 : U2.cell? ⟨U1.heap.size, 1, none⟩ = some (.int .i64 y.a) := (qU2 1).trans rfl
      have g2 : U2.cell? ⟨U1.heap.size, 2, none⟩ = some (.int .i64 y.n) := (qU2 2).trans rfl
      have g3 : U2.cell? ⟨U1.heap.size, 3, none⟩ = some (.int .i64 y.call.kind) := (qU2 3).trans rfl
      have g4 : U2.cell? ⟨U1.heap.size, 4, none⟩ = some (.string ⟨y.call.path.toArray⟩) := (qU2 4).trans rfl
      have g5 : U2.cell? ⟨U1.heap.size, 5, none⟩ = some (.string ⟨y.call.other.toArray⟩) := (qU2 5).trans rfl
      have g6 : U2.cell? ⟨U1.heap.size, 6, none⟩ = some (.int .i64 y.call.file) := (qU2 6).trans rfl
      have g7 : U2.cell? ⟨U1.heap.size, 7, none⟩ = some (.int .i64 y.call.at_) := (qU2 7).trans rfl
      have g8 : U2.cell? ⟨U1.heap.size, 8, none⟩ = some (.int .i64 y.call.size) := (qU2 8).trans rfl
      have g9 : U2.cell? ⟨U1.heap.size, 9, none⟩ = some (.slice EA y.call.data.length ec) := (qU2 9).trans rfl
      have g10 : U2.cell? ⟨U1.heap.size, 10, none⟩ = some (.slice LA y.keep.length lc) := (qU2 10).trans rfl
      clear hU2 hbU2 hxU2 qU2 hLL
      go_wp2_with fail
      refine HLL.out.mono ?_
      rintro e U3 ⟨t, rfl, ht, hu3⟩
      have et : t = s := (ht HOY.out).trans HJY.out
      rw [et, HOY.out]
      have BU3 := Lib.hid (BU2.out.trans (hu3.mono BU2.out.size))
      have HAW := Lib.hid (awake_walk U3 (HV.out.below BU3.out))
      have hss : (s == s) = true := by simp
      clear hu3 ht et
      go_wp2_with fail
      refine HAW.out.mono ?_
      rintro e U4 ⟨rfl, hu4⟩
      have BU4 := Lib.hid (BU3.out.trans (hu4.mono BU3.out.size))
      clear hu4
      go_wp2
      go_ret
      exact ⟨rfl, BU4.out⟩
  | true =>
    have e4 := HT.out ho
    have eo := HOL.out (HOK.out.symm.trans ho)
    obtain ⟨l, hl⟩ : ∃ l, l = jnW (writeP x) := ⟨_, rfl⟩
    have hln := HLT.out
    rw [← hl] at e4 eo hln
    subst e4
    have HA0 := Lib.hid (act1_walk t W1 (HV.out.below BW1.out) hln)
    have hE0 : actE t = 0 := by unfold actE; rw [eo]; rfl
    have hY0 : actY t = x := by unfold actY; rw [eo]; rfl
    clear ho eo hl hln
    go_wp2_with fail
    refine HA0.out.mono ?_
    rintro e W2 ⟨v, rfl, hIs, hb2⟩
    rw [hE0]
    rw [hY0] at hIs
    obtain ⟨dv2, kv2, rfl, ⟨FA, fc, rfl, hes, _⟩, ⟨MA, mc, rfl, hls, _⟩⟩ := hIs
    have BW2 := Lib.hid (BW1.out.trans (hb2.mono BW1.out.size))
    have X2 := Lib.hid ((Keep.of_below (S := fun _ => False) hb2).blk X1.out id)
    have HB2 := Lib.hid (HB1.out.trans (hb2.mono HB1.out.size))
    have HES := Lib.hid hes
    have HLS := Lib.hid hls
    clear hes hls hb2 hE0 hY0
    unfold ActP.cells
    go_upto_region 4 with fail
    obtain ⟨W3, hW3⟩ : ∃ W3, W3 = W2.alloc (.cells #[.int .i64 x.kind, .int .i64 x.a, .int .i64 x.n, .int .i64 x.call.kind, .string ⟨x.call.path.toArray⟩, .string ⟨x.call.other.toArray⟩, .int .i64 x.call.file, .int .i64 x.call.at_, .int .i64 x.call.size, .slice FA x.call.data.length fc, .slice MA x.keep.length mc] 27) := ⟨_, rfl⟩
    rw [← hW3]
    have hbW3 : Below W2.heap.size W2 W3 := by rw [hW3]; exact (Below.refl _ W2).alloc (Nat.le_refl _) _
    have hxW3 : W3.heap[W2.heap.size]? = some (.cells #[.int .i64 x.kind, .int .i64 x.a, .int .i64 x.n, .int .i64 x.call.kind, .string ⟨x.call.path.toArray⟩, .string ⟨x.call.other.toArray⟩, .int .i64 x.call.file, .int .i64 x.call.at_, .int .i64 x.call.size, .slice FA x.call.data.length fc, .slice MA x.keep.length mc] 27 (0, 0)) := by rw [hW3]; exact blk_new W2 _
    have BW3 := Lib.hid (BW2.out.trans (hbW3.mono BW2.out.size))
    have XW3 := Lib.hid hxW3
    have qW3 := blk_cells hxW3
    have d0 : W3.cell? ⟨W2.heap.size, 0, none⟩ = some (.int .i64 x.kind) := (qW3 0).trans rfl
    have d1 : W3.cell? ⟨W2.heap.size, 1, none⟩ = some (.int .i64 x.a) := (qW3 1).trans rfl
    have d2 : W3.cell? ⟨W2.heap.size, 2, none⟩ = some (.int .i64 x.n) := (qW3 2).trans rfl
    have d3 : W3.cell? ⟨W2.heap.size, 3, none⟩ = some (.int .i64 x.call.kind) := (qW3 3).trans rfl
    have d4 : W3.cell? ⟨W2.heap.size, 4, none⟩ = some (.string ⟨x.call.path.toArray⟩) := (qW3 4).trans rfl
    have d5 : W3.cell? ⟨W2.heap.size, 5, none⟩ = some (.string ⟨x.call.other.toArray⟩) := (qW3 5).trans rfl
    have d6 : W3.cell? ⟨W2.heap.size, 6, none⟩ = some (.int .i64 x.call.file) := (qW3 6).trans rfl
    have d7 : W3.cell? ⟨W2.heap.size, 7, none⟩ = some (.int .i64 x.call.at_) := (qW3 7).trans rfl
    have d8 : W3.cell? ⟨W2.heap.size, 8, none⟩ = some (.int .i64 x.call.size) := (qW3 8).trans rfl
    have d9 : W3.cell? ⟨W2.heap.size, 9, none⟩ = some (.slice FA x.call.data.length fc) := (qW3 9).trans rfl
    have d10 : W3.cell? ⟨W2.heap.size, 10, none⟩ = some (.slice MA x.keep.length mc) := (qW3 10).trans rfl
    have p3 := blk_cells ((Keep.of_below (S := fun _ => False) hbW3).blk X2.out id)
    have c0 : W3.cell? ⟨w.heap.size, 0, none⟩ = some (.int .i64 x.kind) := (p3 0).trans rfl
    have c1 : W3.cell? ⟨w.heap.size, 1, none⟩ = some (.int .i64 x.a) := (p3 1).trans rfl
    have c2 : W3.cell? ⟨w.heap.size, 2, none⟩ = some (.int .i64 x.n) := (p3 2).trans rfl
    have c3 : W3.cell? ⟨w.heap.size, 3, none⟩ = some (.int .i64 x.call.kind) := (p3 3).trans rfl
    have c4 : W3.cell? ⟨w.heap.size, 4, none⟩ = some (.string ⟨x.call.path.toArray⟩) := (p3 4).trans rfl
    have c5 : W3.cell? ⟨w.heap.size, 5, none⟩ = some (.string ⟨x.call.other.toArray⟩) := (p3 5).trans rfl
    have c6 : W3.cell? ⟨w.heap.size, 6, none⟩ = some (.int .i64 x.call.file) := (p3 6).trans rfl
    have c7 : W3.cell? ⟨w.heap.size, 7, none⟩ = some (.int .i64 x.call.at_) := (p3 7).trans rfl
    have c8 : W3.cell? ⟨w.heap.size, 8, none⟩ = some (.int .i64 x.call.size) := (p3 8).trans rfl
    have c9 : W3.cell? ⟨w.heap.size, 9, none⟩ = some (.slice DA x.call.data.length dc) := (p3 9).trans rfl
    have c10 : W3.cell? ⟨w.heap.size, 10, none⟩ = some (.slice KA x.keep.length kc) := (p3 10).trans rfl
    have hEQ := lequal_walk x x (.slice DA x.call.data.length dc) (.slice KA x.keep.length kc) (.slice FA x.call.data.length fc) (.slice MA x.keep.length mc) W3 ⟨DA, dc, rfl, HDS.out.below (HB2.out.trans (hbW3.mono HB2.out.size))⟩ ⟨FA, fc, rfl, HES.out.below hbW3⟩ ⟨KA, kc, rfl, HKS.out.below (HB2.out.trans (hbW3.mono HB2.out.size))⟩ ⟨MA, mc, rfl, HLS.out.below hbW3⟩ (by have := HKL.out; omega) (by have := HKL.out; omega)
    rw [decide_eq_true rfl] at hEQ
    unfold ActP.cells at hEQ
    have HEQ := Lib.hid hEQ
    clear hW3 hbW3 hxW3 qW3 p3 hEQ
    go_wp2_with fail
    refine HEQ.out.mono ?_
    rintro e W4 ⟨rfl, hb4⟩
    have BW4 := Lib.hid (BW3.out.trans (hb4.mono BW3.out.size))
    clear hb4 c0 c1 c2 c3 c4 c5 c6 c7 c8 c9 c10 d0 d1 d2 d3 d4 d5 d6 d7 d8 d9 d10
    have HA1 := Lib.hid (act1_walk s W4 (HV.out.below BW4.out) hs)
    go_wp2_with fail
    refine HA1.out.mono ?_
    rintro e U1 ⟨v, rfl, hIs, hu1⟩
    have BU1 := Lib.hid (BW4.out.trans (hu1.mono BW4.out.size))
    clear hu1
    cases hq : actOf s with
    | none =>
      rw [show actE s = 5 by unfold actE; rw [hq]; rfl]
      rw [show actY s = ActP.new 0 by unfold actY; rw [hq]; rfl] at hIs
      clear hq
      obtain ⟨dv2, kv2, rfl, ⟨EA, ec, rfl, hes, _⟩, ⟨LA, lc, rfl, hls, _⟩⟩ := hIs
      have HES := Lib.hid hes
      have HLS := Lib.hid hls
      clear hes hls
      unfold ActP.cells ActP.new CallP.new
      simp only [List.length_nil]
      go_upto_region 8 with fail
      obtain ⟨U2, hU2⟩ : ∃ U2, U2 = U1.alloc (.cells #[.int .i64 0, .int .i64 0, .int .i64 0, .int .i64 0, .string ⟨#[]⟩, .string ⟨#[]⟩, .int .i64 0, .int .i64 0, .int .i64 0, .slice EA 0 ec, .slice LA 0 lc] 27) := ⟨_, rfl⟩
      rw [← hU2]
      have hbU2 : Below U1.heap.size U1 U2 := by rw [hU2]; exact (Below.refl _ U1).alloc (Nat.le_refl _) _
      have hxU2 : U2.heap[U1.heap.size]? = some (.cells #[.int .i64 0, .int .i64 0, .int .i64 0, .int .i64 0, .string ⟨#[]⟩, .string ⟨#[]⟩, .int .i64 0, .int .i64 0, .int .i64 0, .slice EA 0 ec, .slice LA 0 lc] 27 (0, 0)) := by rw [hU2]; exact blk_new U1 _
      have BU2 := Lib.hid (BU1.out.trans (hbU2.mono BU1.out.size))
      have XU2 := Lib.hid hxU2
      have qU2 := blk_cells hxU2
      have HAW := Lib.hid (awake_walk U2 (HV.out.below BU2.out))
      clear hU2
      go_wp2_with fail
      refine HAW.out.mono ?_
      rintro e U3 ⟨rfl, hu3⟩
      have BU3 := Lib.hid (BU2.out.trans (hu3.mono BU2.out.size))
      have b3 := blk_cells ((Keep.of_below (S := fun _ => False) hu3).blk XU2.out id)
      have g0 : U3.cell? ⟨U1.heap.size, 0, none⟩ = some (.int .i64 0) := (b3 0).trans rfl
      have g1 : U3.cell? ⟨U1.heap.size, 1, none⟩ = some (.int .i64 0) := (b3 1).trans rfl
      have g2 : U3.cell? ⟨U1.heap.size, 2, none⟩ = some (.int .i64 0) := (b3 2).trans rfl
      have g3 : U3.cell? ⟨U1.heap.size, 3, none⟩ = some (.int .i64 0) := (b3 3).trans rfl
      have g4 : U3.cell? ⟨U1.heap.size, 4, none⟩ = some (.string ⟨#[]⟩) := (b3 4).trans rfl
      have g5 : U3.cell? ⟨U1.heap.size, 5, none⟩ = some (.string ⟨#[]⟩) := (b3 5).trans rfl
      have g6 : U3.cell? ⟨U1.heap.size, 6, none⟩ = some (.int .i64 0) := (b3 6).trans rfl
      have g7 : U3.cell? ⟨U1.heap.size, 7, none⟩ = some (.int .i64 0) := (b3 7).trans rfl
      have g8 : U3.cell? ⟨U1.heap.size, 8, none⟩ = some (.int .i64 0) := (b3 8).trans rfl
      have g9 : U3.cell? ⟨U1.heap.size, 9, none⟩ = some (.slice EA 0 ec) := (b3 9).trans rfl
      have g10 : U3.cell? ⟨U1.heap.size, 10, none⟩ = some (.slice LA 0 lc) := (b3 10).trans rfl
      have hEQ := lequal_walk (ActP.new 0) (ActP.new 0) (.slice EA 0 ec) (.slice LA 0 lc) (.slice none 0 0) (.slice none 0 0) U3 ⟨EA, ec, rfl, (HES.out.below hbU2).below hu3⟩ (DataT.nil U3).r ⟨LA, lc, rfl, (HLS.out.below hbU2).below hu3⟩ (KeepT.nil U3).r (Nat.zero_le _) (Nat.zero_le _)
      rw [decide_eq_true rfl] at hEQ
      unfold ActP.cells ActP.new CallP.new at hEQ
      have HEQ := Lib.hid hEQ
      clear hu3 b3 hbU2 hxU2 qU2 hEQ
      go_wp2_with fail
      refine HEQ.out.mono ?_
      rintro e U4 ⟨rfl, hu4⟩
      have BU4 := Lib.hid (BU3.out.trans (hu4.mono BU3.out.size))
      clear hu4
      go_wp2
      go_ret
      exact ⟨rfl, BU4.out⟩
    | some y =>
      rw [show actE s = 0 by unfold actE; rw [hq]; rfl]
      rw [show actY s = y by unfold actY; rw [hq]; rfl] at hIs
      obtain ⟨hoy, hjy⟩ := act_of_some hq
      have hy : ActOk y := by
        have := (actY_ok (s := s) hs).1
        rwa [show actY s = y by unfold actY; rw [hq]; rfl] at this
      rw [← ok_law y hy] at hoy
      clear hq
      obtain ⟨dv2, kv2, rfl, ⟨EA, ec, rfl, hes, _⟩, ⟨LA, lc, rfl, hls, _⟩⟩ := hIs
      have HES := Lib.hid hes
      have HLS := Lib.hid hls
      have HOY := Lib.hid hoy
      have HJY := Lib.hid hjy
      have HY := Lib.hid hy
      clear hes hls hoy hjy hy
      unfold ActP.cells
      go_upto_region 9 with fail
      obtain ⟨U2, hU2⟩ : ∃ U2, U2 = U1.alloc (.cells #[.int .i64 y.kind, .int .i64 y.a, .int .i64 y.n, .int .i64 y.call.kind, .string ⟨y.call.path.toArray⟩, .string ⟨y.call.other.toArray⟩, .int .i64 y.call.file, .int .i64 y.call.at_, .int .i64 y.call.size, .slice EA y.call.data.length ec, .slice LA y.keep.length lc] 27) := ⟨_, rfl⟩
      rw [← hU2]
      have hbU2 : Below U1.heap.size U1 U2 := by rw [hU2]; exact (Below.refl _ U1).alloc (Nat.le_refl _) _
      have hxU2 : U2.heap[U1.heap.size]? = some (.cells #[.int .i64 y.kind, .int .i64 y.a, .int .i64 y.n, .int .i64 y.call.kind, .string ⟨y.call.path.toArray⟩, .string ⟨y.call.other.toArray⟩, .int .i64 y.call.file, .int .i64 y.call.at_, .int .i64 y.call.size, .slice EA y.call.data.length ec, .slice LA y.keep.length lc] 27 (0, 0)) := by rw [hU2]; exact blk_new U1 _
      have BU2 := Lib.hid (BU1.out.trans (hbU2.mono BU1.out.size))
      have XU2 := Lib.hid hxU2
      have qU2 := blk_cells hxU2
      have hLL := lline_walk y (.slice EA y.call.data.length ec) (.slice LA y.keep.length lc) U2 HY.out ⟨EA, ec, rfl, HES.out.below hbU2⟩ ⟨LA, lc, rfl, HLS.out.below hbU2⟩
      unfold ActP.cells at hLL
      have HLL := Lib.hid hLL
      have g0 : U2.cell? ⟨U1.heap.size, 0, none⟩ = some (.int .i64 y.kind) := (qU2 0).trans rfl
      have g1 : U2.cell? ⟨U1.heap.size, 1, none⟩ = some (.int .i64 y.a) := (qU2 1).trans rfl
      have g2 : U2.cell? ⟨U1.heap.size, 2, none⟩ = some (.int .i64 y.n) := (qU2 2).trans rfl
      have g3 : U2.cell? ⟨U1.heap.size, 3, none⟩ = some (.int .i64 y.call.kind) := (qU2 3).trans rfl
      have g4 : U2.cell? ⟨U1.heap.size, 4, none⟩ = some (.string ⟨y.call.path.toArray⟩) := (qU2 4).trans rfl
      have g5 : U2.cell? ⟨U1.heap.size, 5, none⟩ = some (.string ⟨y.call.other.toArray⟩) := (qU2 5).trans rfl
      have g6 : U2.cell? ⟨U1.heap.size, 6, none⟩ = some (.int .i64 y.call.file) := (qU2 6).trans rfl
      have g7 : U2.cell? ⟨U1.heap.size, 7, none⟩ = some (.int .i64 y.call.at_) := (qU2 7).trans rfl
      have g8 : U2.cell? ⟨U1.heap.size, 8, none⟩ = some (.int .i64 y.call.size) := (qU2 8).trans rfl
      have g9 : U2.cell? ⟨U1.heap.size, 9, none⟩ = some (.slice EA y.call.data.length ec) := (qU2 9).trans rfl
      have g10 : U2.cell? ⟨U1.heap.size, 10, none⟩ = some (.slice LA y.keep.length lc) := (qU2 10).trans rfl
      clear hU2 hbU2 hxU2 qU2 hLL
      go_wp2_with fail
      refine HLL.out.mono ?_
      rintro e U3 ⟨t, rfl, ht, hu3⟩
      have et : t = s := (ht HOY.out).trans HJY.out
      rw [et, HOY.out]
      have BU3 := Lib.hid (BU2.out.trans (hu3.mono BU2.out.size))
      have HAW := Lib.hid (awake_walk U3 (HV.out.below BU3.out))
      have hss : (s == s) = true := by simp
      clear hu3 ht et
      go_wp2_with fail
      refine HAW.out.mono ?_
      rintro e U4 ⟨rfl, hu4⟩
      have BU4 := Lib.hid (BU3.out.trans (hu4.mono BU3.out.size))
      clear hu4
      go_wp2
      go_ret
      exact ⟨rfl, BU4.out⟩
end Go.Proofs.YtpdnfcgdcndhpaaDoor
