/- entry.Slots: the walk. -/
import Derived.Test.YtcganoomgdabkaaDoorSlots1
set_option linter.unusedSimpArgs false
set_option linter.unusedVariables false
namespace Go.Proofs.YtcganoomgdabkaaDoor
open Go.RowKit Go.Shelf

attribute [local go_sem] Oper.semAt_some

theorem decode_no {A : Option Addr} {n c : Nat} {b : Str} (hd : decP b = none) (w : World) (h : Sl w 1 (.slice A n c) n (bv b)) :
    Calls Tryd.prog 12 #[.slice A n c] w fun e w' => e = .returned (.tuple #[.agg #[.string ⟨#[]⟩, .int .i64 0], .int .i64 2]) ∧ Below w.heap.size w w' :=
  (decode_walk A n c b w h).mono fun e w' ⟨hb, he⟩ => by rw [hd] at he; exact ⟨he, hb⟩
theorem decode_yes {A : Option Addr} {n c : Nat} {b : Str} {s : Str} {m : Int} (hd : decP b = some ⟨s, m⟩) (w : World) (h : Sl w 1 (.slice A n c) n (bv b)) :
    Calls Tryd.prog 12 #[.slice A n c] w fun e w' => e = .returned (.tuple #[.agg #[.string ⟨s.toArray⟩, .int .i64 m], .int .i64 0]) ∧ Below w.heap.size w w' :=
  (decode_walk A n c b w h).mono fun e w' ⟨hb, he⟩ => by rw [hd] at he; exact ⟨he, hb⟩
theorem find_no {A : Option Addr} {c : Nat} {l : List RW} {s : Str} (hf : findP l s = none) (w : World) (hs : Sl w 2 (.slice A l.length c) l.length (rows l)) (hn : l.length ≤ 4611686018427387904) :
    Calls Tryd.prog 17 #[.slice A l.length c, .string ⟨s.toArray⟩] w fun e w' => e = .returned (.tuple #[.int .i64 0, .bool false]) ∧ Below w.heap.size w w' :=
  (find_walk A c l s w hs hn).mono fun e w' ⟨he, hb⟩ => by rw [hf] at he; exact ⟨he, hb⟩
theorem find_yes {A : Option Addr} {c k : Nat} {l : List RW} {s : Str} (hf : findP l s = some k) (w : World) (hs : Sl w 2 (.slice A l.length c) l.length (rows l)) (hn : l.length ≤ 4611686018427387904) :
    Calls Tryd.prog 17 #[.slice A l.length c, .string ⟨s.toArray⟩] w fun e w' => e = .returned (.tuple #[.int .i64 (k : Int), .bool true]) ∧ Below w.heap.size w w' :=
  (find_walk A c l s w hs hn).mono fun e w' ⟨he, hb⟩ => by rw [hf] at he; exact ⟨he, hb⟩
/-- A round ends the loop: the results are told. -/
theorem sx_end {b : Str} {N : Nat} {w W W1 : World} {pre : List (Fin N)} {x : Fin N} (hb1 : Below W.heap.size W W1) (hno : foldR b (pre ++ [x]) = none) (E1 : Boxed W1 w.heap.size 35 (.slice none 0 0)) (E2 : Boxed W1 (w.heap.size + 1) 25 (.int .i64 0)) (hb : Below w.heap.size w W1) {B : Nat} :
    KeepsFrom B W ((W1.setCell ⟨w.heap.size, 0, none⟩ (.slice none 0 0)).setCell ⟨w.heap.size + 1, 0, none⟩ (.int .i64 2)) ∧ SX b N w .ret (pre ++ [x]) ((W1.setCell ⟨w.heap.size, 0, none⟩ (.slice none 0 0)).setCell ⟨w.heap.size + 1, 0, none⟩ (.int .i64 2)) := by
  have hne : w.heap.size ≠ w.heap.size + 1 := by omega
  have e1 := E1.set (.slice none 0 0)
  have e2 : Boxed (W1.setCell ⟨w.heap.size, 0, none⟩ (.slice none 0 0)) (w.heap.size + 1) 25 (.int .i64 0) := (Below.heap_setCell _ _ _ _ (by show w.heap.size + 1 ≠ w.heap.size; omega)).trans E2
  have e3 : Boxed ((W1.setCell ⟨w.heap.size, 0, none⟩ (.slice none 0 0)).setCell ⟨w.heap.size + 1, 0, none⟩ (.int .i64 2)) w.heap.size 35 (.slice none 0 0) := (Below.heap_setCell _ _ _ _ (by show w.heap.size ≠ w.heap.size + 1; omega)).trans e1
  refine ⟨((keepsFrom_below hb1).trans ((KeepsOthers.setCell _ _ _).from _)).trans ((KeepsOthers.setCell _ _ _).from _), ⟨⟨rfl, hno⟩, e3, e2.set _⟩, ?_⟩
  exact (hb.setCell (p := ⟨w.heap.size, 0, none⟩) (Nat.le_refl _) _).setCell (p := ⟨w.heap.size + 1, 0, none⟩) (Nat.le_succ _) _
theorem sx_end_alloc {b : Str} {N : Nat} {w W W1 : World} {pre : List (Fin N)} {x : Fin N} {B : Nat} (o : Obj) (h : KeepsFrom B W W1 ∧ SX b N w .ret (pre ++ [x]) W1) (hz : w.heap.size ≤ W1.heap.size) :
    KeepsFrom B W (W1.alloc o) ∧ SX b N w .ret (pre ++ [x]) (W1.alloc o) := by
  obtain ⟨h1, ⟨h2, h3, h4⟩, h5⟩ := h
  exact ⟨h1.trans ((KeepsOthers.alloc _ _).from _), ⟨h2, h3.alloc _, h4.alloc _⟩, h5.alloc hz _⟩
theorem infoRow : (Tryd.prog.info? 23).map (fun i => (i.zero, i.size, i.bytes)) = some (some (.agg #[.string ⟨#[]⟩, .int .i64 0]), 2, 24) := by kernel_rfl
theorem chunk_any {A0 : Option Addr} {g o N cap Bs Bn : Nat} {S : Nat → Prop} (hA0 : N ≠ 0 → A0 = some ⟨g, o, none⟩) (hreach : N * 32 ≤ 140737488351232) (hcap : N * 32 ≤ cap) (hcap2 : cap ≤ 9223372036854775807) (w5 : World) (hBs : Bs < w5.heap.size) (hBn : Bn < w5.heap.size) (hs0 : ¬ S Bs) (hn0 : ¬ S Bn)
    (hcs : w5.cell? ⟨Bs, 0, none⟩ = some (.slice A0 (N * 32) cap)) (hcn : w5.cell? ⟨Bn, 0, none⟩ = some (.int .i64 32)) :
    SeqStopsK Fence.wide (8 - 1) Tryd.prog 36 #[.pointer (some ⟨Bs, 0, none⟩), .pointer (some ⟨Bn, 0, none⟩)] (chunkV g o (N := N)) (Keep S) (fun ys => ys = List.finRange N) (fun pre => pre <+: List.finRange N) N w5 := by
  by_cases h : N = 0
  · subst h
    exact chunk_stops_none Fence.wide (8 - 1) trivial rfl Bs Bn g o S A0 cap w5 hBs (by simpa using hcs)
  · obtain rfl := hA0 h
    exact chunk_stops Fence.wide (8 - 1) trivial rfl (by omega) Bs Bn g o N cap S hreach hcap hcap2 w5 hBs hBn hs0 hn0 hcs hcn
set_option maxRecDepth 100000 in
set_option maxHeartbeats 4000000 in
theorem slots_in (A0 : Option Addr) (g o N cap : Nat) (b : Str) (w : World) (hA0 : N ≠ 0 → A0 = some ⟨g, o, none⟩) (hl : b.length = N * 32) (hreach : N * 32 ≤ 140737488351232) (hcap : N * 32 ≤ cap) (hcap2 : cap ≤ 9223372036854775807) (hs : Sl w 1 (.slice A0 (N * 32) cap) (N * 32) (bv b)) :
    CallsIn Fence.wide 8 Tryd.prog 14 #[.slice A0 (N * 32) cap] w fun e w' => SlotsEnd (foldR b (List.finRange N)) w e w' := by
  have hro : Fence.wide.round = none := rfl
  obtain ⟨i0, hi, hz0, hz1, hz2⟩ := info_parts infoRow
  obtain ⟨w5, hw5⟩ : ∃ w5, w5 = SW w (.slice A0 (N * 32) cap) := ⟨_, rfl⟩
  obtain ⟨z5, k5, x1, x2, x3, x4, x5⟩ := SW_fact w (.slice A0 (N * 32) cap)
  rw [← hw5] at z5 k5 x1 x2 x3 x4 x5
  unfold SW at hw5
  have HW := Lib.hid hw5
  have HZ := Lib.hid z5
  have HL := Lib.hid hl
  have HS := Lib.hid hs
  have HB5 := Lib.hid k5
  clear hw5 hl hs
  refine callsIn_of_wp_marks Tryd.func14 rfl trivial ?_ hro
  simp only [Tryd.ntmps14, List.size_toArray, List.length_cons, List.length_nil, Nat.reduceAdd, Nat.reduceSub, Array.replicate_succ, Array.replicate_zero, List.push_toArray, List.append_toArray, List.nil_append, List.cons_append]
  gi_wp2_with (refine ⟨trivial, ?_⟩; gi_at_call 27; refine (chunk_in Fence.wide (8 - 1) trivial rfl _ _ _ _).mono ?_; rintro e w' ⟨rfl, rfl⟩)
  rw [← HW.out]
  refine wpIn_rangeFunc_ownG hro (by omega) (gf := 36) (lb := #[.pointer (some ⟨w.heap.size + 1 + 1 + 1, 0, none⟩), .pointer (some ⟨w.heap.size + 1 + 1 + 1 + 1, 0, none⟩)]) rfl trivial (enters_of Tryd.func36 (by kernel_rfl) rfl)
    (chunk_any (g := g) (o := o) (S := SS w) hA0 hreach hcap hcap2 w5 (by omega) (by omega) (fun h => h.2.1 rfl) (fun h => h.2.2 rfl) x4.cell x5.cell)
    (fun h k => h.trans k (fun _ _ h => h)) (fun W l o o' hl _ _ _ => keep_putObj o' ⟨by omega, by omega, by omega⟩) (Below.refl _ _) (fun _ => rfl)
    (SI b N w (.slice A0 (N * 32) cap)) (SX b N w) (SI_own b N w _ _ (by omega)) (fun c => SX_own b N w c _ (by omega)) ?h0
    (fun x => { tmps := #[.slice A0 (N * 32) cap, undef, .pointer (some ⟨w.heap.size, 0, none⟩), .pointer (some ⟨w.heap.size + 1, 0, none⟩), .pointer (some ⟨w.heap.size + 1 + 1, 0, none⟩), .slice (some ⟨g, o + 32 * x.val, none⟩) 32 32, undef, undef, undef, undef,
      .slice A0 (N * 32) cap, .int .i64 (↑N * 32), .int .i64 0, .bool false, .slice A0 (N * 32) cap, .func (.func 36) #[] #[.pointer (some ⟨w.heap.size + 1 + 1 + 1, 0, none⟩), .pointer (some ⟨w.heap.size + 1 + 1 + 1 + 1, 0, none⟩)], .slice (some ⟨g, o + 32 * x.val, none⟩) 32 32,
      undef, undef, undef, undef, undef, undef, undef, undef, undef, undef, undef, undef, undef, undef, undef, undef, undef, undef, undef, undef, undef, undef], defers := [] }) ?assign ?body ?done ?stop
  case h0 => exact ⟨⟨⟨_, x3, own_nil' _ _ _ _, rfl⟩, ⟨x1, x2⟩, x4, x5⟩, HB5.out⟩
  case assign =>
    intro l x W K hK
    unfold chunkV
    gi_wp2
    exact hK
  case body =>
    rintro l pre x W ⟨⟨⟨v, hv, hrow, hsome⟩, ⟨hr1, hr2⟩, hr3, hr4⟩, hB⟩ hlt
    obtain ⟨ls, hls⟩ := Option.isSome_iff_exists.1 hsome
    rw [hls] at hrow
    simp only [Option.getD_some] at hrow
    have HLEN := Lib.hid (foldR_length b pre ls hls)
    have hls8 : ls.length ≤ 4398046511000 := by have := HLEN.out; omega
    have hxl : x.val < N := x.isLt
    obtain rfl := hA0 (by omega)
    have hpart := bv_part (k := 32) (HS.out.below hB) (32 * x.val) (32 * x.val + 32) (by omega) (by have := HL.out; omega) (by omega)
    rw [show 32 * x.val + 32 - 32 * x.val = 32 by omega] at hpart
    have HSN := Lib.hid (foldR_snoc b pre x)
    obtain ⟨ch, hch⟩ : ∃ ch, ch = chunkB b x.val := ⟨_, rfl⟩
    rw [show (b.drop (32 * x.val)).take 32 = ch from hch.symm] at hpart
    rw [← hch, hls] at HSN
    have HP := Lib.hid hpart
    have HV := Lib.hid hv
    have HR := Lib.hid hrow
    have H1 := Lib.hid hr1
    have H2 := Lib.hid hr2
    have H3 := Lib.hid hr3
    have H4 := Lib.hid hr4
    have HB := Lib.hid hB
    have hWz : w.heap.size ≤ W.heap.size := hB.size
    obtain ⟨y, hy⟩ : ∃ y, y = o + 32 * x.val := ⟨_, rfl⟩
    rw [← hy] at HP ⊢
    clear hpart hch hy hls hsome hv hrow hr1 hr2 hr3 hr4 hB x1 x2 x3 x4 x5 k5
    cases hd : decP ch with
    | none =>
      have HD := Lib.hid (decode_no hd W HP.out)
      have HNO : Hid (foldR b (pre ++ [x]) = none) := Lib.hid (by rw [HSN.out, stepR, hd])
      clear hd
      gi_wp2_with fail
      refine ⟨trivial, ?_⟩
      gi_at_call 12
      refine (CallsIn.inRound l (callsIn_wide.2 HD.out)).mono ?_
      rintro e W1 ⟨rfl, hb1⟩
      have E1 := boxed_below H1.out hb1
      have E2 := boxed_below H2.out hb1
      have HB1 := bstep HB.out hb1
      have HE := Lib.hid (sx_end_alloc (.cells #[.string ⟨#[]⟩, .int .i64 0] 23) (sx_end (x := x) (B := w5.heap.size) hb1 HNO.out E1 E2 HB1) (by simpa [World.setCell] using HB1.size))
      have c1 := E1.cell
      have f1 := E1.frozen
      have c2 := E2.cell
      have f2 := E2.frozen
      have l1 := E1.lt
      have l2 := E2.lt
      clear hb1 E1 E2 HB1
      gi_wp2
      exact HE.out
    | some r =>
      obtain ⟨rs, rn⟩ := r
      have HD := Lib.hid (decode_yes hd W HP.out)
      have HST : Hid (foldR b (pre ++ [x]) = if (findP ls rs).isSome then none else some (ls ++ [⟨rs, rn⟩])) := Lib.hid (by rw [HSN.out, stepR, hd])
      clear hd
      gi_wp2_with fail
      refine ⟨trivial, ?_⟩
      gi_at_call 12
      refine (CallsIn.inRound l (callsIn_wide.2 HD.out)).mono ?_
      rintro e W1 ⟨rfl, hb1⟩
      obtain ⟨W2, hW2⟩ : ∃ W2, W2 = W1.alloc (.cells #[.string ⟨rs.toArray⟩, .int .i64 rn] 23) := ⟨_, rfl⟩
      have B2 : Below W1.heap.size W1 W2 := by rw [hW2]; exact (Below.refl _ W1).alloc (Nat.le_refl _) _
      have X2 : W2.heap[W1.heap.size]? = some (.cells #[.string ⟨rs.toArray⟩, .int .i64 rn] 23 (0, 0)) := by rw [hW2]; exact blk_new W1 _
      have hbW2 := bstep hb1 B2
      have V2 := Lib.hid (boxed_below HV.out hbW2)
      have R2 := Lib.hid (own_keep HR.out (Keep.of_below (S := fun _ => False) hbW2) (fun _ _ h => h))
      have G1 := Lib.hid (boxed_below H1.out hbW2)
      have G2 := Lib.hid (boxed_below H2.out hbW2)
      have HBW := Lib.hid (bstep HB.out hbW2)
      have HW2 := Lib.hid hbW2
      have HX2 := Lib.hid X2
      have HWW := Lib.hid hW2
      have z2 : W1.heap.size < W2.heap.size := blk_lt X2
      obtain ⟨A, c, rfl, _⟩ := Rd.of_own R2.out
      have V1 := boxed_below HV.out hb1
      have cv := V1.cell
      have lv := V1.lt
      clear hb1 hW2 B2 X2 hbW2 V1
      cases hf : findP ls rs with
      | some k =>
        have HF := find_yes hf W2 (Sl.of_own R2.out) (by omega)
        have HNO : Hid (foldR b (pre ++ [x]) = none) := Lib.hid (by rw [HST.out, hf]; rfl)
        rw [HWW.out] at HF
        have HFF := Lib.hid HF
        clear hf HF
        gi_wp2_with fail
        refine ⟨trivial, ?_⟩
        gi_at_call 17
        (with_reducible refine (CallsIn.inRound l (callsIn_wide.2 HFF.out)).mono ?_)
        rintro e W3 ⟨rfl, hb3⟩
        rw [← HWW.out] at hb3
        have hbW3 := bstep HW2.out hb3
        have E1 := boxed_below G1.out hb3
        have E2 := boxed_below G2.out hb3
        have HE := Lib.hid (sx_end (x := x) (B := w5.heap.size) hbW3 HNO.out E1 E2 (bstep HBW.out hb3))
        have c1 := E1.cell
        have f1 := E1.frozen
        have c2 := E2.cell
        have f2 := E2.frozen
        have l1 := E1.lt
        have l2 := E2.lt
        clear hb3 E1 E2 hbW3 cv lv
        gi_wp2
        exact HE.out
      | none =>
        have HF := find_no hf W2 (Sl.of_own R2.out) (by omega)
        have HSO : Hid (foldR b (pre ++ [x]) = some (ls ++ [⟨rs, rn⟩])) := Lib.hid (by rw [HST.out, hf]; rfl)
        rw [HWW.out] at HF
        have HFF := Lib.hid HF
        clear hf HF
        gi_wp2_with fail
        refine ⟨trivial, ?_⟩
        gi_at_call 17
        (with_reducible refine (CallsIn.inRound l (callsIn_wide.2 HFF.out)).mono ?_)
        rintro e W3 ⟨rfl, hb3⟩
        rw [← HWW.out] at hb3
        have HB3 := Lib.hid (bstep HW2.out hb3)
        have V3 := boxed_below V2.out hb3
        have HV3 := Lib.hid V3
        have R3 := Lib.hid (own_keep R2.out (Keep.of_below (S := fun _ => False) hb3) (fun _ _ h => h))
        have HBW3 := Lib.hid (bstep HBW.out hb3)
        have hb3' := Lib.hid hb3
        have E1 := Lib.hid (boxed_below G1.out hb3)
        have E2 := Lib.hid (boxed_below G2.out hb3)
        have X3 := (Keep.of_below (S := fun _ => False) hb3).blk HX2.out id
        have cv3 := V3.cell
        have fv3 := V3.frozen
        have lv3 := V3.lt
        have cx3 := blk_cells X3
        have lx3 := blk_lt X3
        have hz3 : w.heap.size ≤ W3.heap.size := HBW3.out.size
        clear hb3 cv lv V3 X3
        gi_wp2_with (gi_at_builtin; refine wpListIn_append_own _ rfl _ _ 35 rfl w.heap.size 23 i0 (.agg #[.string ⟨#[]⟩, .int .i64 0]) 2 24 Tryd.underlying35 hi hz0 hz1 hz2 rfl (by decide) _ _ _ rfl (R3.out.alloc _) ⟨W3.heap.size, 0, none⟩ 1 1 [.string ⟨rs.toArray⟩, .int .i64 rn] rfl rfl ?c1 ?c2 ?c3 ?c4 ?c5 ?_)
        case c1 =>
          intro j u hu
          have hz := blk_cells (blk_new W3 (.cells #[.string ⟨rs.toArray⟩, .int .i64 rn] 23)) j
          rw [Addr.add_lit, Nat.zero_add, hz]
          simpa using hu
        case c2 => intro u hu; simp at hu; rcases hu with rfl | rfl <;> rfl
        case c3 => simp only [maxLen]; omega
        case c4 => omega
        case c5 => simp; omega
        intro v' w4 hown' hgrow hnil
        clear hnil
        obtain ⟨g', cap', rfl⟩ := ownsRow_succ hown'
        have E3 := boxed_below (boxed_below H3.out HW2.out) hb3'.out
        have E4 := boxed_below (boxed_below H4.out HW2.out) hb3'.out
        obtain ⟨hv1, hko, hkp, hsi⟩ := si_next HSO.out HV3.out R3.out E1.out E2.out E3 E4 HBW3.out hown' hgrow
        have HEND := Lib.hid (show KeepsFrom w5.heap.size W _ ∧ Keep (SS w) W _ ∧ SI b N w _ (pre ++ [x]) _ from ⟨(keepsFrom_below HB3.out).trans (hko.from _), (Keep.of_below (S := SS w) HB3.out).trans hkp (fun _ _ h => h), hsi⟩)
        have c1 := hv1.cell
        have f1 := hv1.frozen
        have l1 := hv1.lt
        clear hown' hgrow E3 E4 hv1 hko hkp hsi cv3 fv3 lv3 cx3 lx3
        gi_wp2
        first | exact HEND.out | (have h := HEND.out; rw [HZ.out] at h; exact h)
  case done =>
    rintro D ys W hD rfl ⟨⟨⟨v, hv, hrow, hsome⟩, ⟨hr1, hr2⟩, _, _⟩, hB⟩ hK
    obtain ⟨ls, hls⟩ := Option.isSome_iff_exists.1 hsome
    rw [hls] at hrow
    simp only [Option.getD_some] at hrow
    have HLS := Lib.hid hls
    obtain ⟨A, c, rfl, hrd, hA, hc, _⟩ := Rd.of_own hrow
    have HCL := Lib.hid (clipR_walk A ls.length c W hc hA)
    have HR := Lib.hid hrow
    have HRD := Lib.hid hrd
    have HB := Lib.hid hB
    have HA := Lib.hid hA
    have HK := Lib.hid hK
    have H1 := Lib.hid hr1
    have H2 := Lib.hid hr2
    have HV := Lib.hid hv
    have cv := hv.cell
    have lv := hv.lt
    have c1 := hr1.cell
    have f1 := hr1.frozen
    have c2 := hr2.cell
    have f2 := hr2.frozen
    have l1 := hr1.lt
    have l2 := hr2.lt
    clear hls hsome hv hrow hr1 hr2 hB hK hA hrd x1 x2 x3 x4 x5 k5
    gi_wp2_with (refine ⟨trivial, ?_⟩; gi_at_call 28; refine (callsIn_wide.2 HCL.out).mono ?_; rintro e w' ⟨rfl, rfl⟩)
    obtain ⟨W9, hW9⟩ : ∃ W9, W9 = (w'.setCell ⟨w.heap.size, 0, none⟩ (.slice A ls.length ls.length)).setCell ⟨w.heap.size + 1, 0, none⟩ (.int .i64 0) := ⟨_, rfl⟩
    have G2 : Boxed W9 (w.heap.size + 1) 25 (.int .i64 0) := by rw [hW9]; exact (boxed_set_ne H2.out (by omega)).set _
    have G1 : Boxed W9 w.heap.size 35 (.slice A ls.length ls.length) := by rw [hW9]; exact boxed_set_ne (H1.out.set _) (by omega)
    have K9 : W9.heap[D]? = some (.deferred (some [])) := by rw [hW9]; exact (KeepsOthers.setCell _ _ _).same D _ ((KeepsOthers.setCell _ _ _).same D _ HK.out rfl) rfl
    have B9 : Below w.heap.size w W9 := by rw [hW9]; exact (HB.out.setCell (p := ⟨w.heap.size, 0, none⟩) (Nat.le_refl _) _).setCell (p := ⟨w.heap.size + 1, 0, none⟩) (Nat.le_succ _) _
    have kk : Keep (fun k => k = w.heap.size ∨ k = w.heap.size + 1) w' W9 := by rw [hW9]; exact ((Keep.refl _ w').setCell (fun _ => .inl rfl) _).setCell (fun _ => .inr rfl) _
    have o9 := own_keep HR.out kk (fun k e h => by
      rcases h with h | h
      · exact H1.out.not_row (by decide) HR.out (by rw [e, h])
      · exact H2.out.not_row (by decide) HR.out (by rw [e, h]))
    rw [← hW9]
    refine ⟨by simp, .inl ⟨_, _, rfl, run_takeDeferred K9, ?_⟩⟩
    have hc5 := cell_kept G1.cell (grownBy_putObj' _ D (.deferred none)) (fun r e => by cases e; exact ⟨_, K9, rfl⟩)
    have hc6 := cell_kept G2.cell (grownBy_putObj' _ D (.deferred none)) (fun r e => by cases e; exact ⟨_, K9, rfl⟩)
    refine ⟨.tuple #[.slice A ls.length ls.length, .int .i64 0], ?_, ?_⟩
    · simp [results, Tryd.f14, go_sem, hc5, hc6]
    · rw [HLS.out]
      refine ⟨B9.trans (belowK_b (w := w) (Nat.le_refl _) W9 D _ _ (by have := HZ.out; omega) K9 rfl rfl), A, rfl, ?_⟩
      obtain ⟨_, _, hv, hr, hA2, hc2, hl2⟩ := Sl.of_own (ownsRow_putObj o9 (.deferred none) K9 rfl)
      injection hv with e1 e2 e3
      subst e1 e3
      exact ⟨A, ls.length, rfl, hr, fun e => ⟨(hA2 e).1, (hA2 e).1⟩, Nat.le_refl _, hl2⟩
  case stop =>
    rintro D c pre W hD ⟨rest, hpre⟩ ⟨⟨⟨rfl, hno⟩, hr1, hr2⟩, hB⟩ hK
    have HNO : Hid (foldR b (List.finRange N) = none) := Lib.hid (by rw [← hpre]; exact foldR_more b pre rest hno)
    have hc5 := cell_kept hr1.cell (grownBy_putObj' _ D (.deferred none)) (fun r e => by cases e; exact ⟨_, hK, rfl⟩)
    have hc6 := cell_kept hr2.cell (grownBy_putObj' _ D (.deferred none)) (fun r e => by cases e; exact ⟨_, hK, rfl⟩)
    have HC5 := Lib.hid hc5
    have HC6 := Lib.hid hc6
    have HB := Lib.hid hB
    have HK := Lib.hid hK
    clear hno hpre hr1 hr2 hc5 hc6 hB hK x1 x2 x3 x4 x5 k5
    gi_wp2
    refine ⟨by simp, .inl ⟨_, _, rfl, run_takeDeferred HK.out, ?_⟩⟩
    refine ⟨.tuple #[.slice none 0 0, .int .i64 2], ?_, ?_⟩
    · simp [results, Tryd.f14, go_sem, HC5.out, HC6.out]
    · rw [HNO.out]
      exact ⟨HB.out.trans (belowK_b (w := w) (Nat.le_refl _) W D _ _ (by have := HZ.out; omega) HK.out rfl rfl), rfl⟩
set_option maxRecDepth 100000 in
set_option maxHeartbeats 1000000 in
theorem slots_odd (A : Option Addr) (n c : Nat) (w : World) (hn : n % 32 ≠ 0) (hn2 : n ≤ 9223372036854775807) :
    Calls Tryd.prog 14 #[.slice A n c] w fun e w' => SlotsEnd none w e w' := by
  have h2 : ((n : Int) % 32 != 0) = true := by rw [bne_iff_ne]; omega
  have k1 := (Below.refl w.heap.size w).alloc (Nat.le_refl _) (.cells #[.slice none 0 0] 35)
  have HB := Lib.hid (k1.alloc (by simp) (.cells #[.int .i64 2] 25))
  clear k1
  go_enter Tryd.func14, Tryd.ntmps14
  go_wp2
  refine bodyPost_ret (v := .tuple #[.slice none 0 0, .int .i64 2]) (by simp [results, Tryd.results14, go_sem]) rfl ?_
  exact ⟨HB.out, rfl⟩
/-- The rows of some bytes. -/
theorem slots_walk (A : Option Addr) (n c : Nat) (b : Str) (w : World) (hs : Sl w 1 (.slice A n c) n (bv b)) (hn : n ≤ 140737488351232) (hc : c ≤ 9223372036854775807) :
    Calls Tryd.prog 14 #[.slice A n c] w fun e w' => SlotsEnd (slotsP b) w e w' := by
  have hl : n = b.length := by obtain ⟨_, _, _, _, _, _, h3⟩ := hs; simp [bv] at h3; omega
  unfold slotsP
  by_cases h : b.length % 32 = 0
  · rw [if_pos h]
    obtain ⟨N, hN⟩ : ∃ N, N = b.length / 32 := ⟨_, rfl⟩
    have e : n = N * 32 := by omega
    subst e
    rw [← hN]
    have hcap : N * 32 ≤ c := by obtain ⟨_, _, e, _, _, h2, _⟩ := hs; injection e with _ _ e; omega
    by_cases h0 : N = 0
    · exact callsIn_wide.1 (slots_in A 0 0 N c b w (fun h => absurd h0 h) (by omega) (by omega) hcap hc hs)
    · obtain ⟨x, hx⟩ : ∃ x, b[0]? = some x := ⟨b[0]'(by omega), List.getElem?_eq_getElem _⟩
      obtain ⟨g, o, rfl, _⟩ := bv_at hs hx
      exact callsIn_wide.1 (slots_in (some ⟨g, o, none⟩) g o N c b w (fun _ => rfl) (by omega) (by omega) hcap hc hs)
  · rw [if_neg h]
    exact slots_odd A n c w (by omega) (by omega)
end Go.Proofs.YtcganoomgdabkaaDoor
