/- The law's line. -/
import Derived.Test.YtpdnfcgdcndhpaaDoorActO
set_option linter.unusedSimpArgs false
set_option linter.unusedVariables false
namespace Go.Proofs.YtpdnfcgdcndhpaaDoor
open Go.RowKit

attribute [local go_sem ↓] Go.wp_at_zero Go.wp_at_succ
def clrG (x y : ActP) (c : UInt8) : ActP :=
  if c = 97 then { y with a := x.a }
  else if c = 110 then { y with n := x.n }
  else if c = 99 then { y with call := x.call }
  else if c = 107 then { y with keep := x.keep }
  else y
/-- What an act's words say of it. -/
def clrA (x : ActP) : ActP := (kindOf actT x.kind).has.foldl (clrG x) (ActP.new x.kind)
def llB (x : ActP) : Bool := hasK actT x.kind && ((x.kind != 1 || lcB x.call) && decide (x = clrA x))
def kpS (l : List Int) : Str := l.flatMap fun k => 32 :: Lib.itoa k
theorem jn_cons : ∀ (l : List Str) (a : Str), jnW (a :: l) = a ++ l.flatMap (fun s => 32 :: s)
  | [], a => by simp [jnW, Lib.join, List.intercalate]
  | b :: l, a => by
    have e : jnW (a :: b :: l) = a ++ 32 :: jnW (b :: l) := by simp [jnW, Lib.join, List.intercalate, List.intersperse]
    rw [e, jn_cons l b]
    simp
theorem jn_map (l : List Int) (a : Str) : jnW (a :: l.map Lib.itoa) = a ++ kpS l := by
  rw [jn_cons, kpS, List.flatMap_map]
theorem noact {k : Int} (h : hasK actT k = false) : k ≠ 1 ∧ k ≠ 2 ∧ k ≠ 3 ∧ k ≠ 4 ∧ k ≠ 5 ∧ k ≠ 6 ∧ k ≠ 7 ∧ k ≠ 8 := by
  refine ⟨?_, ?_, ?_, ?_, ?_, ?_, ?_, ?_⟩
  all_goals
    rintro rfl
    exact absurd h (by decide)
theorem isact {k : Int} (h : hasK actT k = true) : k = 1 ∨ k = 2 ∨ k = 3 ∨ k = 4 ∨ k = 5 ∨ k = 6 ∨ k = 7 ∨ k = 8 := by
  unfold hasK at h
  cases hf : actT.find? (fun r => r.k == k) with
  | none => rw [hf] at h; cases h
  | some r =>
    have h1 : r.k = k := by simpa using List.find?_some hf
    have h2 := List.mem_of_find?_eq_some hf
    subst h1
    simp only [actT, List.mem_cons, List.not_mem_nil, or_false] at h2
    rcases h2 with rfl | rfl | rfl | rfl | rfl | rfl | rfl | rfl <;> decide
theorem kpS_len : ∀ (l : List Int), (∀ k ∈ l, I64 k) → (kpS l).length ≤ 22 * l.length
  | [], _ => Nat.le_refl _
  | k :: l, h => by
    have hk := h k (by simp)
    have := itoa_len k hk.1 hk.2
    have := kpS_len l (fun k hk => h k (by simp [hk]))
    simp only [kpS, List.flatMap_cons, List.length_append, List.length_cons] at this ⊢
    omega
def LkInv (ks : List Int) (b : World) (v5 v6 : Value) (wr : World) : Prop := ∃ j : Nat, j ≤ ks.length ∧ v6 = .int .i64 (j : Int) ∧ v5 = .string ⟨(kpS (ks.take j)).toArray⟩ ∧ Below b.heap.size b wr
def LlPost (x : ActP) (w : World) (e : Ending) (w' : World) : Prop := ∃ t : Str, e = .returned (.tuple #[.string ⟨t.toArray⟩, .bool (llB x)]) ∧ (llB x = true → t = jnW (writeP x)) ∧ Below w.heap.size w w'
set_option maxRecDepth 100000 in
set_option maxHeartbeats 8000000 in
theorem lline_walk (x : ActP) (dv kv : Value) (w : World) (hx : ActOk x) (hd : DataR w dv x.call.data) (hkr : KeepR w kv x.keep) :
    Calls Tryd.prog 10 #[.agg (x.cells dv kv)] w (LlPost x w) := by
  obtain ⟨DA, dc, rfl, hds⟩ := hd
  obtain ⟨KA, kc, rfl, hks⟩ := hkr
  obtain ⟨kk, aa, nn, cc, ks⟩ := x
  have HX := Lib.hid hx
  have HDS := Lib.hid hds
  have HKS := Lib.hid hks
  have xk := hx.len
  simp only at xk hds HDS hks HKS
  have HN1 := Lib.hid (fun W => number_walk aa W hx.a.1 hx.a.2)
  have HN2 := Lib.hid (fun W => number_walk nn W hx.n.1 hx.n.2)
  have nl1 := itoa_len aa hx.a.1 hx.a.2; have nl2 := itoa_len nn hx.n.1 hx.n.2
  have HKL := Lib.hid (fun j => kpS_len (ks.take j) (fun k hk => hx.keep k (List.mem_of_mem_take hk)))
  obtain ⟨b, hb⟩ : ∃ b, b = (w.alloc (.cells #[.int .i64 kk, .int .i64 aa, .int .i64 nn, .int .i64 cc.kind, .string ⟨cc.path.toArray⟩, .string ⟨cc.other.toArray⟩, .int .i64 cc.file, .int .i64 cc.at_, .int .i64 cc.size, .slice DA cc.data.length dc, .slice KA ks.length kc] 27)).alloc (.cells #[.int .i64 kk, .int .i64 0, .int .i64 0, .int .i64 0, .string ⟨#[]⟩, .string ⟨#[]⟩, .int .i64 0, .int .i64 0, .int .i64 0, .slice none 0 0, .slice none 0 0] 27) := ⟨_, rfl⟩
  have hbb : Below w.heap.size w b := by rw [hb]; exact ((Below.refl _ w).alloc (Nat.le_refl _) _).alloc (by simp) _
  have hbx : b.heap[w.heap.size]? = some (.cells #[.int .i64 kk, .int .i64 aa, .int .i64 nn, .int .i64 cc.kind, .string ⟨cc.path.toArray⟩, .string ⟨cc.other.toArray⟩, .int .i64 cc.file, .int .i64 cc.at_, .int .i64 cc.size, .slice DA cc.data.length dc, .slice KA ks.length kc] 27 (0, 0)) := by rw [hb]; exact blk_old (blk_new w _) _
  have hby : b.heap[w.heap.size + 1]? = some (.cells #[.int .i64 kk, .int .i64 0, .int .i64 0, .int .i64 0, .string ⟨#[]⟩, .string ⟨#[]⟩, .int .i64 0, .int .i64 0, .int .i64 0, .slice none 0 0, .slice none 0 0] 27 (0, 0)) := by
    rw [hb]
    have := blk_new (w.alloc (.cells #[.int .i64 kk, .int .i64 aa, .int .i64 nn, .int .i64 cc.kind, .string ⟨cc.path.toArray⟩, .string ⟨cc.other.toArray⟩, .int .i64 cc.file, .int .i64 cc.at_, .int .i64 cc.size, .slice DA cc.data.length dc, .slice KA ks.length kc] 27)) (.cells #[.int .i64 kk, .int .i64 0, .int .i64 0, .int .i64 0, .string ⟨#[]⟩, .string ⟨#[]⟩, .int .i64 0, .int .i64 0, .int .i64 0, .slice none 0 0, .slice none 0 0] 27)
    simpa using this
  have HB := Lib.hid hbb
  have HBX := Lib.hid hbx
  have HBY := Lib.hid hby
  have HBE := Lib.hid hb
  have zb := blk_lt hby
  obtain ⟨na, hna⟩ : ∃ na, na = Lib.itoa aa := ⟨_, rfl⟩
  obtain ⟨nb, hnb⟩ : ∃ nb, nb = Lib.itoa nn := ⟨_, rfl⟩
  rw [← hna] at HN1 nl1
  rw [← hnb] at HN2 nl2
  have HNA := Lib.hid hna; have HNB := Lib.hid hnb
  unfold ActP.cells
  clear hx hds hks hb hbb hbx hby hna hnb
  go_enter Tryd.func10, Tryd.ntmps10
  go_upto_region 4 with fail
  rw [← HBE.out]
  go_loopw [5, 6] (fun v5 v6 wr => LkInv ks b v5 v6 wr) (fun _ v6 _ => ks.length - (intOf v6).toNat)
  case atStart => exact ⟨0, Nat.zero_le _, rfl, rfl, Below.refl _ _⟩
  case round =>
    obtain ⟨j, hj, rfl, rfl, hbw⟩ := hrel
    have HBW := Lib.hid hbw
    have hbx := (Keep.of_below (S := fun _ => False) hbw).blk HBX.out id
    have hby := (Keep.of_below (S := fun _ => False) hbw).blk HBY.out id
    have c10 : wr.cell? ⟨w.heap.size, 10, none⟩ = some (.slice KA ks.length kc) := (blk_cells hbx 10).trans rfl
    have zw := hbw.size
    have hkl := HKL.out j
    have htl : (ks.take j).length ≤ j := List.length_take_le _ _
    obtain ⟨kp, hkp⟩ : ∃ kp, kp = kpS (ks.take j) := ⟨_, rfl⟩
    rw [← hkp] at hkl ⊢
    have HKP := Lib.hid hkp
    clear hkp
    by_cases hlt : j < ks.length
    · obtain ⟨n, hn⟩ : ∃ n, ks[j]? = some n := ⟨ks[j], List.getElem?_eq_getElem hlt⟩
      obtain ⟨gb, go, rfl, _, hcell⟩ := sl_row (HKS.out.below (HB.out.trans (hbw.mono (by omega)))) (k := j) (u := .int .i64 n) (by simp [ints, hn])
      have hIn := HX.out.keep n (List.mem_of_getElem? hn)
      have hil := itoa_len n hIn.1 hIn.2
      have HW := Lib.hid (number_walk n wr hIn.1 hIn.2)
      obtain ⟨ni, hni⟩ : ∃ ni, ni = Lib.itoa n := ⟨_, rfl⟩
      rw [← hni] at HW hil
      obtain ⟨s1, hs1⟩ : ∃ s1, s1 = 32 :: ni := ⟨_, rfl⟩
      obtain ⟨s2, hs2⟩ : ∃ s2, s2 = kp ++ s1 := ⟨_, rfl⟩
      have ll1 : s1.length ≤ 30 := by rw [hs1, List.length_cons]; omega
      have A1 : ∀ w, (Op.stringOp .add ⟨#[32]⟩ ⟨ni.toArray⟩).run Tryd.prog w = .ok (.string ⟨s1.toArray⟩) w := add_run (a := [32]) hs1 (by decide) (by omega)
      have A2 : ∀ w, (Op.stringOp .add ⟨kp.toArray⟩ ⟨s1.toArray⟩).run Tryd.prog w = .ok (.string ⟨s2.toArray⟩) w := add_run hs2 (by omega) (by omega)
      have HST := Lib.hid (show kpS (ks.take (j + 1)) = s2 by
        rw [take_snoc' hn, kpS, List.flatMap_append, hs2, hs1, hni, HKP.out]
        simp [kpS])
      have j0 : (0 : Int) ≤ (j : Int) := by omega
      have j1 : (j : Int) < (ks.length : Int) := by omega
      clear hn hIn hni hs1 hs2 hbw hbx hby
      go_wp2_with fail
      refine HW.out.mono ?_
      rintro e V1 ⟨rfl, hb2⟩
      have B2 := Lib.hid (HBW.out.trans (hb2.mono HBW.out.size))
      clear hb2 hcell
      go_wp2
      go_roundw
      case rel => exact ⟨j + 1, hlt, by go_num, by rw [HST.out], B2.out⟩
      case measure => simp [intOf]; omega
    · obtain rfl : j = ks.length := by omega
      have HKE := Lib.hid (show kp = kpS ks by rw [HKP.out, List.take_length])
      have j1 : ¬ ((ks.length : Nat) : Int) < (ks.length : Int) := by omega
      have BW := Lib.hid (HB.out.trans (hbw.mono (by omega)))
      have CX := Lib.hid hbx
      have CY := Lib.hid hby
      have bX := blk_cells hbx
      have bY := blk_cells hby
      have fY := blk_frees hby
      have z2 := blk_lt hby
      have x0 : wr.cell? ⟨w.heap.size, 0, none⟩ = some (.int .i64 kk) := (bX 0).trans rfl
      have x1 : wr.cell? ⟨w.heap.size, 1, none⟩ = some (.int .i64 aa) := (bX 1).trans rfl
      have x2 : wr.cell? ⟨w.heap.size, 2, none⟩ = some (.int .i64 nn) := (bX 2).trans rfl
      have x3 : wr.cell? ⟨w.heap.size, 3, none⟩ = some (.int .i64 cc.kind) := (bX 3).trans rfl
      have x4 : wr.cell? ⟨w.heap.size, 4, none⟩ = some (.string ⟨cc.path.toArray⟩) := (bX 4).trans rfl
      have x5 : wr.cell? ⟨w.heap.size, 5, none⟩ = some (.string ⟨cc.other.toArray⟩) := (bX 5).trans rfl
      have x6 : wr.cell? ⟨w.heap.size, 6, none⟩ = some (.int .i64 cc.file) := (bX 6).trans rfl
      have x7 : wr.cell? ⟨w.heap.size, 7, none⟩ = some (.int .i64 cc.at_) := (bX 7).trans rfl
      have x8 : wr.cell? ⟨w.heap.size, 8, none⟩ = some (.int .i64 cc.size) := (bX 8).trans rfl
      have x9 : wr.cell? ⟨w.heap.size, 9, none⟩ = some (.slice DA cc.data.length dc) := (bX 9).trans rfl
      have y0 : wr.cell? ⟨w.heap.size + 1, 0, none⟩ = some (.int .i64 kk) := (bY 0).trans rfl
      have y1 : wr.cell? ⟨w.heap.size + 1, 1, none⟩ = some (.int .i64 0) := (bY 1).trans rfl
      have y2 : wr.cell? ⟨w.heap.size + 1, 2, none⟩ = some (.int .i64 0) := (bY 2).trans rfl
      have y3 : wr.cell? ⟨w.heap.size + 1, 3, none⟩ = some (.int .i64 0) := (bY 3).trans rfl
      have y4 : wr.cell? ⟨w.heap.size + 1, 4, none⟩ = some (.string ⟨#[]⟩) := (bY 4).trans rfl
      have y5 : wr.cell? ⟨w.heap.size + 1, 5, none⟩ = some (.string ⟨#[]⟩) := (bY 5).trans rfl
      have y6 : wr.cell? ⟨w.heap.size + 1, 6, none⟩ = some (.int .i64 0) := (bY 6).trans rfl
      have y7 : wr.cell? ⟨w.heap.size + 1, 7, none⟩ = some (.int .i64 0) := (bY 7).trans rfl
      have y8 : wr.cell? ⟨w.heap.size + 1, 8, none⟩ = some (.int .i64 0) := (bY 8).trans rfl
      have y9 : wr.cell? ⟨w.heap.size + 1, 9, none⟩ = some (.slice none 0 0) := (bY 9).trans rfl
      have y10 : wr.cell? ⟨w.heap.size + 1, 10, none⟩ = some (.slice none 0 0) := (bY 10).trans rfl
      have HXW := Lib.hid (fun (w' : World) (k : Keep (fun k => k = w.heap.size + 1) wr w') => (show w'.heap[w.heap.size]? = some (.cells #[.int .i64 kk, .int .i64 aa, .int .i64 nn, .int .i64 cc.kind, .string ⟨cc.path.toArray⟩, .string ⟨cc.other.toArray⟩, .int .i64 cc.file, .int .i64 cc.at_, .int .i64 cc.size, .slice DA cc.data.length dc, .slice KA ks.length kc] 27 (0, 0)) ∧ Below w.heap.size w w' from ⟨k.blk CX.out (fun e => by omega), BW.out.trans (k.below (fun k e => by omega) BW.out.size)⟩))
      have HFIN := Lib.hid (fun (w' : World) (y : ActP) (dw kw : Value) (hy : DataR w' dw y.call.data) (hky : KeepR w' kw y.keep) (hb : Below w.heap.size w w') (hl : y.keep.length ≤ 100000000000000) => lequal_walk ⟨kk, aa, nn, cc, ks⟩ y (.slice DA cc.data.length dc) (.slice KA ks.length kc) dw kw w' ⟨DA, dc, rfl, HDS.out.below hb⟩ hy ⟨KA, kc, rfl, HKS.out.below hb⟩ hky (by simp only; omega) hl)
      clear hbx hby bX bY HB HBX HBY HBE HBW hbw HKP
      cases hk : hasK actT kk with
      | false =>
        obtain ⟨n1, n2, n3, n4, n5, n6, n7, n8⟩ := noact hk
        have HB0 := Lib.hid (show llB ⟨kk, aa, nn, cc, ks⟩ = false by unfold llB; simp only; rw [hk]; rfl)
        have m1 : (kk == 1) = false := beq_eq_false_iff_ne.2 n1
        have m2 : (kk == 2) = false := beq_eq_false_iff_ne.2 n2
        have m3 : (kk == 3) = false := beq_eq_false_iff_ne.2 n3
        have m4 : (kk == 4) = false := beq_eq_false_iff_ne.2 n4
        have m5 : (kk == 5) = false := beq_eq_false_iff_ne.2 n5
        have m6 : (kk == 6) = false := beq_eq_false_iff_ne.2 n6
        have m7 : (kk == 7) = false := beq_eq_false_iff_ne.2 n7
        have m8 : (kk == 8) = false := beq_eq_false_iff_ne.2 n8
        clear hk n1 n2 n3 n4 n5 n6 n7 n8
        go_wp2
        go_ret2
        refine ⟨[], by rw [HB0.out]; rfl, fun h => ?_, BW.out⟩
        rw [HB0.out] at h
        cases h
      | true =>
        rcases isact hk with rfl | rfl | rfl | rfl | rfl | rfl | rfl | rfl
        · clear hk
          have HLC := Lib.hid (fun W (hb : Below w.heap.size w W) => lcall_walk cc (.slice DA cc.data.length dc) W HX.out.call ⟨DA, dc, rfl, HDS.out.below hb⟩)
          have lcl : (lcS cc).length ≤ 900000000000 := by
            have h1 := wordsP_tot cc _ HX.out.call ⟨HX.out.call.path, HX.out.call.other, HX.out.call.data⟩
            have h2 := jnW_len (wordsP cc)
            unfold lcS
            split
            · omega
            · exact Nat.zero_le _
          obtain ⟨lc, hlc⟩ : ∃ lc, lc = lcS cc := ⟨_, rfl⟩
          obtain ⟨lb, hlb⟩ : ∃ lb, lb = lcB cc := ⟨_, rfl⟩
          rw [← hlc] at HLC lcl
          rw [← hlb] at HLC
          have HLCS := Lib.hid hlc
          have HLCB := Lib.hid hlb
          clear hlc hlb
          unfold CallP.cells at HLC
          obtain ⟨g0, hg0⟩ : ∃ g0 : Str, g0 = [99, 97, 108, 108, 32] ++ na := ⟨_, rfl⟩
          have Lg0 : g0.length ≤ 200 := by rw [hg0, List.length_append]; (try simp only [List.length_cons, List.length_nil]); omega
          have Ag0 : ∀ w, (Op.stringOp .add ⟨#[99, 97, 108, 108, 32]⟩ ⟨na.toArray⟩).run Tryd.prog w = .ok (.string ⟨g0.toArray⟩) w := add_run (a := [99, 97, 108, 108, 32]) (b := na) hg0 (by first | decide | omega) (by first | decide | omega)
          obtain ⟨g1, hg1⟩ : ∃ g1 : Str, g1 = g0 ++ [32] := ⟨_, rfl⟩
          have Lg1 : g1.length ≤ 400 := by rw [hg1, List.length_append]; (try simp only [List.length_cons, List.length_nil]); omega
          have Ag1 : ∀ w, (Op.stringOp .add ⟨g0.toArray⟩ ⟨#[32]⟩).run Tryd.prog w = .ok (.string ⟨g1.toArray⟩) w := add_run (a := g0) (b := [32]) hg1 (by first | decide | omega) (by first | decide | omega)
          obtain ⟨g2, hg2⟩ : ∃ g2 : Str, g2 = g1 ++ lc := ⟨_, rfl⟩
          have Ag2 : ∀ w, (Op.stringOp .add ⟨g1.toArray⟩ ⟨lc.toArray⟩).run Tryd.prog w = .ok (.string ⟨g2.toArray⟩) w := add_run (a := g1) (b := lc) hg2 (by first | decide | omega) (by first | decide | omega)
          have HWP := Lib.hid (show writeP ⟨1, aa, nn, cc, ks⟩ = [99, 97, 108, 108] :: Lib.itoa aa :: wordsP cc by
            show _ :: List.flatMap (fieldA ⟨1, aa, nn, cc, ks⟩) [97, 99] = _
            simp only [List.flatMap_cons, List.flatMap_nil, List.append_nil]
            rfl)
          have HST := Lib.hid (fun (h : lb = true) => show g2 = jnW (writeP ⟨1, aa, nn, cc, ks⟩) by
            have hh : hasK callT cc.kind = true := by rw [HLCB.out] at h; unfold lcB at h; exact (Bool.and_eq_true _ _ ▸ h).1
            have e3 : lc = jnW (wordsP cc) := by rw [HLCS.out]; unfold lcS; rw [if_pos hh]
            rw [HWP.out, hg2, hg1, hg0, e3, HNA.out]
            unfold wordsP
            rw [jn_cons, jn_cons]
            simp)
          obtain ⟨qb, hqb⟩ : ∃ qb, qb = decide ((⟨1, aa, nn, cc, ks⟩ : ActP) = ⟨1, aa, 0, cc, []⟩) := ⟨_, rfl⟩
          have HQB := Lib.hid hqb
          have HB0 := Lib.hid (show llB ⟨1, aa, nn, cc, ks⟩ = (lb && qb) by rw [hqb, HLCB.out]; rfl)
          clear hqb hg0 hg1 hg2
          obtain ⟨V, hV⟩ : ∃ V, V = ((((((((wr.setCell ⟨w.heap.size + 1, 1, none⟩ (.int .i64 aa)).setCell ⟨w.heap.size + 1, 3, none⟩ (.int .i64 cc.kind)).setCell ⟨w.heap.size + 1, 4, none⟩ (.string ⟨cc.path.toArray⟩)).setCell ⟨w.heap.size + 1, 5, none⟩ (.string ⟨cc.other.toArray⟩)).setCell ⟨w.heap.size + 1, 6, none⟩ (.int .i64 cc.file)).setCell ⟨w.heap.size + 1, 7, none⟩ (.int .i64 cc.at_)).setCell ⟨w.heap.size + 1, 8, none⟩ (.int .i64 cc.size)).setCell ⟨w.heap.size + 1, 9, none⟩ (.slice DA cc.data.length dc)) := ⟨_, rfl⟩
          have KV : Hid (Keep (fun k => k = w.heap.size + 1) wr V) := Lib.hid (by rw [hV]; exact (((((((((Keep.refl (fun k => k = w.heap.size + 1) wr).setCell (p := ⟨w.heap.size + 1, 1, none⟩) (fun _ => rfl) (.int .i64 aa)).setCell (p := ⟨w.heap.size + 1, 3, none⟩) (fun _ => rfl) (.int .i64 cc.kind)).setCell (p := ⟨w.heap.size + 1, 4, none⟩) (fun _ => rfl) (.string ⟨cc.path.toArray⟩)).setCell (p := ⟨w.heap.size + 1, 5, none⟩) (fun _ => rfl) (.string ⟨cc.other.toArray⟩)).setCell (p := ⟨w.heap.size + 1, 6, none⟩) (fun _ => rfl) (.int .i64 cc.file)).setCell (p := ⟨w.heap.size + 1, 7, none⟩) (fun _ => rfl) (.int .i64 cc.at_)).setCell (p := ⟨w.heap.size + 1, 8, none⟩) (fun _ => rfl) (.int .i64 cc.size)).setCell (p := ⟨w.heap.size + 1, 9, none⟩) (fun _ => rfl) (.slice DA cc.data.length dc)))
          have YV : Hid (V.heap[w.heap.size + 1]? = some (.cells #[.int .i64 1, .int .i64 aa, .int .i64 0, .int .i64 cc.kind, .string ⟨cc.path.toArray⟩, .string ⟨cc.other.toArray⟩, .int .i64 cc.file, .int .i64 cc.at_, .int .i64 cc.size, .slice DA cc.data.length dc, .slice none 0 0] 27 (0, 0))) := Lib.hid (by rw [hV]; exact (blk_setL (blk_setL (blk_setL (blk_setL (blk_setL (blk_setL (blk_setL (blk_setL CY.out (.int .i64 aa)) (.int .i64 cc.kind)) (.string ⟨cc.path.toArray⟩)) (.string ⟨cc.other.toArray⟩)) (.int .i64 cc.file)) (.int .i64 cc.at_)) (.int .i64 cc.size)) (.slice DA cc.data.length dc)))
          have HVE := Lib.hid hV
          clear hV
          have HSX := Lib.hid (fun (w' : World) (k : Keep (fun k => k = w.heap.size + 1) wr w') => (show w'.cell? ⟨w.heap.size, 1, none⟩ = some (.int .i64 aa) ∧ w'.cell? ⟨w.heap.size, 3, none⟩ = some (.int .i64 cc.kind) ∧ w'.cell? ⟨w.heap.size, 4, none⟩ = some (.string ⟨cc.path.toArray⟩) ∧ w'.cell? ⟨w.heap.size, 5, none⟩ = some (.string ⟨cc.other.toArray⟩) ∧ w'.cell? ⟨w.heap.size, 6, none⟩ = some (.int .i64 cc.file) ∧ w'.cell? ⟨w.heap.size, 7, none⟩ = some (.int .i64 cc.at_) ∧ w'.cell? ⟨w.heap.size, 8, none⟩ = some (.int .i64 cc.size) ∧ w'.cell? ⟨w.heap.size, 9, none⟩ = some (.slice DA cc.data.length dc) from by
            have q := blk_cells (HXW.out w' k).1
            exact ⟨(q 1).trans rfl, (q 3).trans rfl, (q 4).trans rfl, (q 5).trans rfl, (q 6).trans rfl, (q 7).trans rfl, (q 8).trans rfl, (q 9).trans rfl⟩))
          go_upto_region 11 with fail
          go_region_held3 (fun w' => w'.cell? ⟨w.heap.size, 1, none⟩ = some (.int .i64 aa) ∧ w'.cell? ⟨w.heap.size, 3, none⟩ = some (.int .i64 cc.kind) ∧ w'.cell? ⟨w.heap.size, 4, none⟩ = some (.string ⟨cc.path.toArray⟩) ∧ w'.cell? ⟨w.heap.size, 5, none⟩ = some (.string ⟨cc.other.toArray⟩) ∧ w'.cell? ⟨w.heap.size, 6, none⟩ = some (.int .i64 cc.file) ∧ w'.cell? ⟨w.heap.size, 7, none⟩ = some (.int .i64 cc.at_) ∧ w'.cell? ⟨w.heap.size, 8, none⟩ = some (.int .i64 cc.size) ∧ w'.cell? ⟨w.heap.size, 9, none⟩ = some (.slice DA cc.data.length dc)) (first | (with_reducible exact HSX.out _ ((Keep.refl (fun k => k = w.heap.size + 1) wr).drew)) | (with_reducible exact HSX.out _ ((Keep.refl (fun k => k = w.heap.size + 1) wr).setCell (p := ⟨w.heap.size + 1, 1, none⟩) (fun _ => rfl) (.int .i64 aa))) | (with_reducible exact HSX.out _ (((Keep.refl (fun k => k = w.heap.size + 1) wr).setCell (p := ⟨w.heap.size + 1, 1, none⟩) (fun _ => rfl) (.int .i64 aa)).drew)) | (with_reducible exact HSX.out _ (((((((((Keep.refl (fun k => k = w.heap.size + 1) wr).setCell (p := ⟨w.heap.size + 1, 1, none⟩) (fun _ => rfl) (.int .i64 aa)).setCell (p := ⟨w.heap.size + 1, 3, none⟩) (fun _ => rfl) (.int .i64 cc.kind)).setCell (p := ⟨w.heap.size + 1, 4, none⟩) (fun _ => rfl) (.string ⟨cc.path.toArray⟩)).setCell (p := ⟨w.heap.size + 1, 5, none⟩) (fun _ => rfl) (.string ⟨cc.other.toArray⟩)).setCell (p := ⟨w.heap.size + 1, 6, none⟩) (fun _ => rfl) (.int .i64 cc.file)).setCell (p := ⟨w.heap.size + 1, 7, none⟩) (fun _ => rfl) (.int .i64 cc.at_)).setCell (p := ⟨w.heap.size + 1, 8, none⟩) (fun _ => rfl) (.int .i64 cc.size)).setCell (p := ⟨w.heap.size + 1, 9, none⟩) (fun _ => rfl) (.slice DA cc.data.length dc))) | (with_reducible exact HSX.out _ ((((((((((Keep.refl (fun k => k = w.heap.size + 1) wr).setCell (p := ⟨w.heap.size + 1, 1, none⟩) (fun _ => rfl) (.int .i64 aa)).setCell (p := ⟨w.heap.size + 1, 3, none⟩) (fun _ => rfl) (.int .i64 cc.kind)).setCell (p := ⟨w.heap.size + 1, 4, none⟩) (fun _ => rfl) (.string ⟨cc.path.toArray⟩)).setCell (p := ⟨w.heap.size + 1, 5, none⟩) (fun _ => rfl) (.string ⟨cc.other.toArray⟩)).setCell (p := ⟨w.heap.size + 1, 6, none⟩) (fun _ => rfl) (.int .i64 cc.file)).setCell (p := ⟨w.heap.size + 1, 7, none⟩) (fun _ => rfl) (.int .i64 cc.at_)).setCell (p := ⟨w.heap.size + 1, 8, none⟩) (fun _ => rfl) (.int .i64 cc.size)).setCell (p := ⟨w.heap.size + 1, 9, none⟩) (fun _ => rfl) (.slice DA cc.data.length dc)).drew))) (fail)
          all_goals
            rw [← HVE.out]
            obtain ⟨U, hU⟩ : ∃ U, U = V.drew := ⟨_, rfl⟩
            rw [← hU]
            have KU : Hid (Keep (fun k => k = w.heap.size + 1) wr U) := Lib.hid (by rw [hU]; exact KV.out.drew)
            have YU : Hid (U.heap[w.heap.size + 1]? = some (.cells #[.int .i64 1, .int .i64 aa, .int .i64 0, .int .i64 cc.kind, .string ⟨cc.path.toArray⟩, .string ⟨cc.other.toArray⟩, .int .i64 cc.file, .int .i64 cc.at_, .int .i64 cc.size, .slice DA cc.data.length dc, .slice none 0 0] 27 (0, 0))) := Lib.hid (by rw [hU]; exact YV.out)
            clear hU
            obtain ⟨hx3, hb3⟩ := HXW.out U KU.out
            have q := blk_cells hx3
            have v0 : U.cell? ⟨w.heap.size, 0, none⟩ = some (.int .i64 1) := (q 0).trans rfl
            have v1 : U.cell? ⟨w.heap.size, 1, none⟩ = some (.int .i64 aa) := (q 1).trans rfl
            have v2 : U.cell? ⟨w.heap.size, 2, none⟩ = some (.int .i64 nn) := (q 2).trans rfl
            have v3 : U.cell? ⟨w.heap.size, 3, none⟩ = some (.int .i64 cc.kind) := (q 3).trans rfl
            have v4 : U.cell? ⟨w.heap.size, 4, none⟩ = some (.string ⟨cc.path.toArray⟩) := (q 4).trans rfl
            have v5 : U.cell? ⟨w.heap.size, 5, none⟩ = some (.string ⟨cc.other.toArray⟩) := (q 5).trans rfl
            have v6 : U.cell? ⟨w.heap.size, 6, none⟩ = some (.int .i64 cc.file) := (q 6).trans rfl
            have v7 : U.cell? ⟨w.heap.size, 7, none⟩ = some (.int .i64 cc.at_) := (q 7).trans rfl
            have v8 : U.cell? ⟨w.heap.size, 8, none⟩ = some (.int .i64 cc.size) := (q 8).trans rfl
            have v9 : U.cell? ⟨w.heap.size, 9, none⟩ = some (.slice DA cc.data.length dc) := (q 9).trans rfl
            have v10 : U.cell? ⟨w.heap.size, 10, none⟩ = some (.slice KA ks.length kc) := (q 10).trans rfl
            have BU := Lib.hid hb3
            clear hx3 hb3 q
            have HLU := Lib.hid (HLC.out U BU.out)
            go_wp2_with fail
            refine HLU.out.mono ?_
            rintro e W3 ⟨rfl, hbW3⟩
            have K3 := Lib.hid (KU.out.trans (Keep.of_below (S := fun k => k = w.heap.size + 1) hbW3) (fun _ _ h => h))
            have Y3 := Lib.hid ((Keep.of_below (S := fun _ => False) hbW3).blk YU.out id)
            clear hbW3
            cases lb with
            | false =>
              have B3 := Lib.hid (HXW.out W3 K3.out).2
              go_wp2
              go_ret2
              refine ⟨[], by rw [HB0.out]; rfl, fun h => ?_, B3.out⟩
              rw [HB0.out] at h
              cases h
            | true =>
              have q := blk_cells (HXW.out W3 K3.out).1
              have u1 : W3.cell? ⟨w.heap.size, 1, none⟩ = some (.int .i64 aa) := (q 1).trans rfl
              clear q
              go_wp2_with fail
              refine (HN1.out _).mono ?_
              rintro e W4 ⟨rfl, hbW4⟩
              have K4 := Lib.hid (K3.out.trans (Keep.of_below (S := fun k => k = w.heap.size + 1) hbW4) (fun _ _ h => h))
              have Y4 := Lib.hid ((Keep.of_below (S := fun _ => False) hbW4).blk Y3.out id)
              clear hbW4
              obtain ⟨hx9, hb9⟩ := HXW.out W4 K4.out
              have q := blk_cells hx9
              have r := blk_cells Y4.out
              have xx0 : W4.cell? ⟨w.heap.size, 0, none⟩ = some (.int .i64 1) := (q 0).trans rfl
              have xx1 : W4.cell? ⟨w.heap.size, 1, none⟩ = some (.int .i64 aa) := (q 1).trans rfl
              have xx2 : W4.cell? ⟨w.heap.size, 2, none⟩ = some (.int .i64 nn) := (q 2).trans rfl
              have xx3 : W4.cell? ⟨w.heap.size, 3, none⟩ = some (.int .i64 cc.kind) := (q 3).trans rfl
              have xx4 : W4.cell? ⟨w.heap.size, 4, none⟩ = some (.string ⟨cc.path.toArray⟩) := (q 4).trans rfl
              have xx5 : W4.cell? ⟨w.heap.size, 5, none⟩ = some (.string ⟨cc.other.toArray⟩) := (q 5).trans rfl
              have xx6 : W4.cell? ⟨w.heap.size, 6, none⟩ = some (.int .i64 cc.file) := (q 6).trans rfl
              have xx7 : W4.cell? ⟨w.heap.size, 7, none⟩ = some (.int .i64 cc.at_) := (q 7).trans rfl
              have xx8 : W4.cell? ⟨w.heap.size, 8, none⟩ = some (.int .i64 cc.size) := (q 8).trans rfl
              have xx9 : W4.cell? ⟨w.heap.size, 9, none⟩ = some (.slice DA cc.data.length dc) := (q 9).trans rfl
              have xx10 : W4.cell? ⟨w.heap.size, 10, none⟩ = some (.slice KA ks.length kc) := (q 10).trans rfl
              have yy0 : W4.cell? ⟨w.heap.size + 1, 0, none⟩ = some (.int .i64 1) := (r 0).trans rfl
              have yy1 : W4.cell? ⟨w.heap.size + 1, 1, none⟩ = some (.int .i64 aa) := (r 1).trans rfl
              have yy2 : W4.cell? ⟨w.heap.size + 1, 2, none⟩ = some (.int .i64 0) := (r 2).trans rfl
              have yy3 : W4.cell? ⟨w.heap.size + 1, 3, none⟩ = some (.int .i64 cc.kind) := (r 3).trans rfl
              have yy4 : W4.cell? ⟨w.heap.size + 1, 4, none⟩ = some (.string ⟨cc.path.toArray⟩) := (r 4).trans rfl
              have yy5 : W4.cell? ⟨w.heap.size + 1, 5, none⟩ = some (.string ⟨cc.other.toArray⟩) := (r 5).trans rfl
              have yy6 : W4.cell? ⟨w.heap.size + 1, 6, none⟩ = some (.int .i64 cc.file) := (r 6).trans rfl
              have yy7 : W4.cell? ⟨w.heap.size + 1, 7, none⟩ = some (.int .i64 cc.at_) := (r 7).trans rfl
              have yy8 : W4.cell? ⟨w.heap.size + 1, 8, none⟩ = some (.int .i64 cc.size) := (r 8).trans rfl
              have yy9 : W4.cell? ⟨w.heap.size + 1, 9, none⟩ = some (.slice DA cc.data.length dc) := (r 9).trans rfl
              have yy10 : W4.cell? ⟨w.heap.size + 1, 10, none⟩ = some (.slice none 0 0) := (r 10).trans rfl
              have HF := Lib.hid (HFIN.out W4 ⟨1, aa, 0, cc, []⟩ (.slice DA cc.data.length dc) (.slice none 0 0) ⟨DA, dc, rfl, HDS.out.below hb9⟩ (KeepT.nil _).r hb9 (by first | (simp only; omega) | exact Nat.zero_le _))
              have B9 := Lib.hid hb9
              rw [← HQB.out] at HF
              unfold ActP.cells at HF
              (try unfold CallP.new at HF)
              clear hx9 hb9 q r
              go_wp2_with fail
              refine HF.out.mono ?_
              rintro e W9 ⟨rfl, h9⟩
              have B8 := Lib.hid (B9.out.trans (h9.mono B9.out.size))
              clear h9
              go_wp2
              go_ret2
              refine ⟨g2, by rw [HB0.out]; rfl, fun _ => HST.out (by first | rfl | trivial), B8.out⟩
        · clear hk
          obtain ⟨g0, hg0⟩ : ∃ g0 : Str, g0 = [100, 101, 108, 105, 118, 101, 114, 32] ++ na := ⟨_, rfl⟩
          have Ag0 : ∀ w, (Op.stringOp .add ⟨#[100, 101, 108, 105, 118, 101, 114, 32]⟩ ⟨na.toArray⟩).run Tryd.prog w = .ok (.string ⟨g0.toArray⟩) w := add_run (a := [100, 101, 108, 105, 118, 101, 114, 32]) (b := na) hg0 (by first | decide | omega) (by first | decide | omega)
          have HWP := Lib.hid (show writeP ⟨2, aa, nn, cc, ks⟩ = [[100, 101, 108, 105, 118, 101, 114], Lib.itoa aa] by
            show _ :: List.flatMap (fieldA ⟨2, aa, nn, cc, ks⟩) [97] = _
            simp only [List.flatMap_cons, List.flatMap_nil, List.append_nil]
            rfl)
          have HST := Lib.hid (show g0 = jnW (writeP ⟨2, aa, nn, cc, ks⟩) by
            have e1 := HNA.out; have e2 := HNB.out; have e3 := HKE.out
            rw [HWP.out, hg0, jn_cons]
            subst e1 e2 e3
            simp [kpS, List.flatMap_map])
          obtain ⟨qb, hqb⟩ : ∃ qb, qb = decide ((⟨2, aa, nn, cc, ks⟩ : ActP) = ⟨2, aa, 0, CallP.new 0, []⟩) := ⟨_, rfl⟩
          have HQB := Lib.hid hqb
          have HB0 := Lib.hid (show llB ⟨2, aa, nn, cc, ks⟩ = qb by rw [hqb]; rfl)
          clear hqb hg0
          obtain ⟨V, hV⟩ : ∃ V, V = (wr.setCell ⟨w.heap.size + 1, 1, none⟩ (.int .i64 aa)) := ⟨_, rfl⟩
          have KV : Hid (Keep (fun k => k = w.heap.size + 1) wr V) := Lib.hid (by rw [hV]; exact ((Keep.refl (fun k => k = w.heap.size + 1) wr).setCell (p := ⟨w.heap.size + 1, 1, none⟩) (fun _ => rfl) (.int .i64 aa)))
          have YV : Hid (V.heap[w.heap.size + 1]? = some (.cells #[.int .i64 2, .int .i64 aa, .int .i64 0, .int .i64 0, .string ⟨#[]⟩, .string ⟨#[]⟩, .int .i64 0, .int .i64 0, .int .i64 0, .slice none 0 0, .slice none 0 0] 27 (0, 0))) := Lib.hid (by rw [hV]; exact (blk_setL CY.out (.int .i64 aa)))
          have HVE := Lib.hid hV
          clear hV
          go_upto_region 18 with fail
          rw [← HVE.out]
          have q := blk_cells (HXW.out V KV.out).1
          have v1 : V.cell? ⟨w.heap.size, 1, none⟩ = some (.int .i64 aa) := (q 1).trans rfl
          clear q
          go_wp2_with fail
          refine (HN1.out _).mono ?_
          rintro e W3 ⟨rfl, hbW3⟩
          have K3 := Lib.hid (KV.out.trans (Keep.of_below (S := fun k => k = w.heap.size + 1) hbW3) (fun _ _ h => h))
          have Y3 := Lib.hid ((Keep.of_below (S := fun _ => False) hbW3).blk YV.out id)
          clear hbW3
          obtain ⟨hx9, hb9⟩ := HXW.out W3 K3.out
          have q := blk_cells hx9
          have r := blk_cells Y3.out
          have xx0 : W3.cell? ⟨w.heap.size, 0, none⟩ = some (.int .i64 2) := (q 0).trans rfl
          have xx1 : W3.cell? ⟨w.heap.size, 1, none⟩ = some (.int .i64 aa) := (q 1).trans rfl
          have xx2 : W3.cell? ⟨w.heap.size, 2, none⟩ = some (.int .i64 nn) := (q 2).trans rfl
          have xx3 : W3.cell? ⟨w.heap.size, 3, none⟩ = some (.int .i64 cc.kind) := (q 3).trans rfl
          have xx4 : W3.cell? ⟨w.heap.size, 4, none⟩ = some (.string ⟨cc.path.toArray⟩) := (q 4).trans rfl
          have xx5 : W3.cell? ⟨w.heap.size, 5, none⟩ = some (.string ⟨cc.other.toArray⟩) := (q 5).trans rfl
          have xx6 : W3.cell? ⟨w.heap.size, 6, none⟩ = some (.int .i64 cc.file) := (q 6).trans rfl
          have xx7 : W3.cell? ⟨w.heap.size, 7, none⟩ = some (.int .i64 cc.at_) := (q 7).trans rfl
          have xx8 : W3.cell? ⟨w.heap.size, 8, none⟩ = some (.int .i64 cc.size) := (q 8).trans rfl
          have xx9 : W3.cell? ⟨w.heap.size, 9, none⟩ = some (.slice DA cc.data.length dc) := (q 9).trans rfl
          have xx10 : W3.cell? ⟨w.heap.size, 10, none⟩ = some (.slice KA ks.length kc) := (q 10).trans rfl
          have yy0 : W3.cell? ⟨w.heap.size + 1, 0, none⟩ = some (.int .i64 2) := (r 0).trans rfl
          have yy1 : W3.cell? ⟨w.heap.size + 1, 1, none⟩ = some (.int .i64 aa) := (r 1).trans rfl
          have yy2 : W3.cell? ⟨w.heap.size + 1, 2, none⟩ = some (.int .i64 0) := (r 2).trans rfl
          have yy3 : W3.cell? ⟨w.heap.size + 1, 3, none⟩ = some (.int .i64 0) := (r 3).trans rfl
          have yy4 : W3.cell? ⟨w.heap.size + 1, 4, none⟩ = some (.string ⟨#[]⟩) := (r 4).trans rfl
          have yy5 : W3.cell? ⟨w.heap.size + 1, 5, none⟩ = some (.string ⟨#[]⟩) := (r 5).trans rfl
          have yy6 : W3.cell? ⟨w.heap.size + 1, 6, none⟩ = some (.int .i64 0) := (r 6).trans rfl
          have yy7 : W3.cell? ⟨w.heap.size + 1, 7, none⟩ = some (.int .i64 0) := (r 7).trans rfl
          have yy8 : W3.cell? ⟨w.heap.size + 1, 8, none⟩ = some (.int .i64 0) := (r 8).trans rfl
          have yy9 : W3.cell? ⟨w.heap.size + 1, 9, none⟩ = some (.slice none 0 0) := (r 9).trans rfl
          have yy10 : W3.cell? ⟨w.heap.size + 1, 10, none⟩ = some (.slice none 0 0) := (r 10).trans rfl
          have HF := Lib.hid (HFIN.out W3 ⟨2, aa, 0, CallP.new 0, []⟩ (.slice none 0 0) (.slice none 0 0) (DataT.nil _).r (KeepT.nil _).r hb9 (by first | (simp only; omega) | exact Nat.zero_le _))
          have B9 := Lib.hid hb9
          rw [← HQB.out] at HF
          unfold ActP.cells at HF
          (try unfold CallP.new at HF)
          clear hx9 hb9 q r
          go_wp2_with fail
          refine HF.out.mono ?_
          rintro e W9 ⟨rfl, h9⟩
          have B8 := Lib.hid (B9.out.trans (h9.mono B9.out.size))
          clear h9
          go_wp2
          go_ret2
          refine ⟨g0, by rw [HB0.out]; rfl, fun _ => HST.out, B8.out⟩
        · clear hk
          obtain ⟨g0, hg0⟩ : ∃ g0 : Str, g0 = [100, 114, 111, 112, 32] ++ na := ⟨_, rfl⟩
          have Ag0 : ∀ w, (Op.stringOp .add ⟨#[100, 114, 111, 112, 32]⟩ ⟨na.toArray⟩).run Tryd.prog w = .ok (.string ⟨g0.toArray⟩) w := add_run (a := [100, 114, 111, 112, 32]) (b := na) hg0 (by first | decide | omega) (by first | decide | omega)
          have HWP := Lib.hid (show writeP ⟨3, aa, nn, cc, ks⟩ = [[100, 114, 111, 112], Lib.itoa aa] by
            show _ :: List.flatMap (fieldA ⟨3, aa, nn, cc, ks⟩) [97] = _
            simp only [List.flatMap_cons, List.flatMap_nil, List.append_nil]
            rfl)
          have HST := Lib.hid (show g0 = jnW (writeP ⟨3, aa, nn, cc, ks⟩) by
            have e1 := HNA.out; have e2 := HNB.out; have e3 := HKE.out
            rw [HWP.out, hg0, jn_cons]
            subst e1 e2 e3
            simp [kpS, List.flatMap_map])
          obtain ⟨qb, hqb⟩ : ∃ qb, qb = decide ((⟨3, aa, nn, cc, ks⟩ : ActP) = ⟨3, aa, 0, CallP.new 0, []⟩) := ⟨_, rfl⟩
          have HQB := Lib.hid hqb
          have HB0 := Lib.hid (show llB ⟨3, aa, nn, cc, ks⟩ = qb by rw [hqb]; rfl)
          clear hqb hg0
          obtain ⟨V, hV⟩ : ∃ V, V = (wr.setCell ⟨w.heap.size + 1, 1, none⟩ (.int .i64 aa)) := ⟨_, rfl⟩
          have KV : Hid (Keep (fun k => k = w.heap.size + 1) wr V) := Lib.hid (by rw [hV]; exact ((Keep.refl (fun k => k = w.heap.size + 1) wr).setCell (p := ⟨w.heap.size + 1, 1, none⟩) (fun _ => rfl) (.int .i64 aa)))
          have YV : Hid (V.heap[w.heap.size + 1]? = some (.cells #[.int .i64 3, .int .i64 aa, .int .i64 0, .int .i64 0, .string ⟨#[]⟩, .string ⟨#[]⟩, .int .i64 0, .int .i64 0, .int .i64 0, .slice none 0 0, .slice none 0 0] 27 (0, 0))) := Lib.hid (by rw [hV]; exact (blk_setL CY.out (.int .i64 aa)))
          have HVE := Lib.hid hV
          clear hV
          go_upto_region 21 with fail
          rw [← HVE.out]
          have q := blk_cells (HXW.out V KV.out).1
          have v1 : V.cell? ⟨w.heap.size, 1, none⟩ = some (.int .i64 aa) := (q 1).trans rfl
          clear q
          go_wp2_with fail
          refine (HN1.out _).mono ?_
          rintro e W3 ⟨rfl, hbW3⟩
          have K3 := Lib.hid (KV.out.trans (Keep.of_below (S := fun k => k = w.heap.size + 1) hbW3) (fun _ _ h => h))
          have Y3 := Lib.hid ((Keep.of_below (S := fun _ => False) hbW3).blk YV.out id)
          clear hbW3
          obtain ⟨hx9, hb9⟩ := HXW.out W3 K3.out
          have q := blk_cells hx9
          have r := blk_cells Y3.out
          have xx0 : W3.cell? ⟨w.heap.size, 0, none⟩ = some (.int .i64 3) := (q 0).trans rfl
          have xx1 : W3.cell? ⟨w.heap.size, 1, none⟩ = some (.int .i64 aa) := (q 1).trans rfl
          have xx2 : W3.cell? ⟨w.heap.size, 2, none⟩ = some (.int .i64 nn) := (q 2).trans rfl
          have xx3 : W3.cell? ⟨w.heap.size, 3, none⟩ = some (.int .i64 cc.kind) := (q 3).trans rfl
          have xx4 : W3.cell? ⟨w.heap.size, 4, none⟩ = some (.string ⟨cc.path.toArray⟩) := (q 4).trans rfl
          have xx5 : W3.cell? ⟨w.heap.size, 5, none⟩ = some (.string ⟨cc.other.toArray⟩) := (q 5).trans rfl
          have xx6 : W3.cell? ⟨w.heap.size, 6, none⟩ = some (.int .i64 cc.file) := (q 6).trans rfl
          have xx7 : W3.cell? ⟨w.heap.size, 7, none⟩ = some (.int .i64 cc.at_) := (q 7).trans rfl
          have xx8 : W3.cell? ⟨w.heap.size, 8, none⟩ = some (.int .i64 cc.size) := (q 8).trans rfl
          have xx9 : W3.cell? ⟨w.heap.size, 9, none⟩ = some (.slice DA cc.data.length dc) := (q 9).trans rfl
          have xx10 : W3.cell? ⟨w.heap.size, 10, none⟩ = some (.slice KA ks.length kc) := (q 10).trans rfl
          have yy0 : W3.cell? ⟨w.heap.size + 1, 0, none⟩ = some (.int .i64 3) := (r 0).trans rfl
          have yy1 : W3.cell? ⟨w.heap.size + 1, 1, none⟩ = some (.int .i64 aa) := (r 1).trans rfl
          have yy2 : W3.cell? ⟨w.heap.size + 1, 2, none⟩ = some (.int .i64 0) := (r 2).trans rfl
          have yy3 : W3.cell? ⟨w.heap.size + 1, 3, none⟩ = some (.int .i64 0) := (r 3).trans rfl
          have yy4 : W3.cell? ⟨w.heap.size + 1, 4, none⟩ = some (.string ⟨#[]⟩) := (r 4).trans rfl
          have yy5 : W3.cell? ⟨w.heap.size + 1, 5, none⟩ = some (.string ⟨#[]⟩) := (r 5).trans rfl
          have yy6 : W3.cell? ⟨w.heap.size + 1, 6, none⟩ = some (.int .i64 0) := (r 6).trans rfl
          have yy7 : W3.cell? ⟨w.heap.size + 1, 7, none⟩ = some (.int .i64 0) := (r 7).trans rfl
          have yy8 : W3.cell? ⟨w.heap.size + 1, 8, none⟩ = some (.int .i64 0) := (r 8).trans rfl
          have yy9 : W3.cell? ⟨w.heap.size + 1, 9, none⟩ = some (.slice none 0 0) := (r 9).trans rfl
          have yy10 : W3.cell? ⟨w.heap.size + 1, 10, none⟩ = some (.slice none 0 0) := (r 10).trans rfl
          have HF := Lib.hid (HFIN.out W3 ⟨3, aa, 0, CallP.new 0, []⟩ (.slice none 0 0) (.slice none 0 0) (DataT.nil _).r (KeepT.nil _).r hb9 (by first | (simp only; omega) | exact Nat.zero_le _))
          have B9 := Lib.hid hb9
          rw [← HQB.out] at HF
          unfold ActP.cells at HF
          (try unfold CallP.new at HF)
          clear hx9 hb9 q r
          go_wp2_with fail
          refine HF.out.mono ?_
          rintro e W9 ⟨rfl, h9⟩
          have B8 := Lib.hid (B9.out.trans (h9.mono B9.out.size))
          clear h9
          go_wp2
          go_ret2
          refine ⟨g0, by rw [HB0.out]; rfl, fun _ => HST.out, B8.out⟩
        · clear hk
          obtain ⟨g0, hg0⟩ : ∃ g0 : Str, g0 = [116, 119, 105, 110, 32] ++ na := ⟨_, rfl⟩
          have Ag0 : ∀ w, (Op.stringOp .add ⟨#[116, 119, 105, 110, 32]⟩ ⟨na.toArray⟩).run Tryd.prog w = .ok (.string ⟨g0.toArray⟩) w := add_run (a := [116, 119, 105, 110, 32]) (b := na) hg0 (by first | decide | omega) (by first | decide | omega)
          have HWP := Lib.hid (show writeP ⟨4, aa, nn, cc, ks⟩ = [[116, 119, 105, 110], Lib.itoa aa] by
            show _ :: List.flatMap (fieldA ⟨4, aa, nn, cc, ks⟩) [97] = _
            simp only [List.flatMap_cons, List.flatMap_nil, List.append_nil]
            rfl)
          have HST := Lib.hid (show g0 = jnW (writeP ⟨4, aa, nn, cc, ks⟩) by
            have e1 := HNA.out; have e2 := HNB.out; have e3 := HKE.out
            rw [HWP.out, hg0, jn_cons]
            subst e1 e2 e3
            simp [kpS, List.flatMap_map])
          obtain ⟨qb, hqb⟩ : ∃ qb, qb = decide ((⟨4, aa, nn, cc, ks⟩ : ActP) = ⟨4, aa, 0, CallP.new 0, []⟩) := ⟨_, rfl⟩
          have HQB := Lib.hid hqb
          have HB0 := Lib.hid (show llB ⟨4, aa, nn, cc, ks⟩ = qb by rw [hqb]; rfl)
          clear hqb hg0
          obtain ⟨V, hV⟩ : ∃ V, V = (wr.setCell ⟨w.heap.size + 1, 1, none⟩ (.int .i64 aa)) := ⟨_, rfl⟩
          have KV : Hid (Keep (fun k => k = w.heap.size + 1) wr V) := Lib.hid (by rw [hV]; exact ((Keep.refl (fun k => k = w.heap.size + 1) wr).setCell (p := ⟨w.heap.size + 1, 1, none⟩) (fun _ => rfl) (.int .i64 aa)))
          have YV : Hid (V.heap[w.heap.size + 1]? = some (.cells #[.int .i64 4, .int .i64 aa, .int .i64 0, .int .i64 0, .string ⟨#[]⟩, .string ⟨#[]⟩, .int .i64 0, .int .i64 0, .int .i64 0, .slice none 0 0, .slice none 0 0] 27 (0, 0))) := Lib.hid (by rw [hV]; exact (blk_setL CY.out (.int .i64 aa)))
          have HVE := Lib.hid hV
          clear hV
          go_upto_region 24 with fail
          rw [← HVE.out]
          have q := blk_cells (HXW.out V KV.out).1
          have v1 : V.cell? ⟨w.heap.size, 1, none⟩ = some (.int .i64 aa) := (q 1).trans rfl
          clear q
          go_wp2_with fail
          refine (HN1.out _).mono ?_
          rintro e W3 ⟨rfl, hbW3⟩
          have K3 := Lib.hid (KV.out.trans (Keep.of_below (S := fun k => k = w.heap.size + 1) hbW3) (fun _ _ h => h))
          have Y3 := Lib.hid ((Keep.of_below (S := fun _ => False) hbW3).blk YV.out id)
          clear hbW3
          obtain ⟨hx9, hb9⟩ := HXW.out W3 K3.out
          have q := blk_cells hx9
          have r := blk_cells Y3.out
          have xx0 : W3.cell? ⟨w.heap.size, 0, none⟩ = some (.int .i64 4) := (q 0).trans rfl
          have xx1 : W3.cell? ⟨w.heap.size, 1, none⟩ = some (.int .i64 aa) := (q 1).trans rfl
          have xx2 : W3.cell? ⟨w.heap.size, 2, none⟩ = some (.int .i64 nn) := (q 2).trans rfl
          have xx3 : W3.cell? ⟨w.heap.size, 3, none⟩ = some (.int .i64 cc.kind) := (q 3).trans rfl
          have xx4 : W3.cell? ⟨w.heap.size, 4, none⟩ = some (.string ⟨cc.path.toArray⟩) := (q 4).trans rfl
          have xx5 : W3.cell? ⟨w.heap.size, 5, none⟩ = some (.string ⟨cc.other.toArray⟩) := (q 5).trans rfl
          have xx6 : W3.cell? ⟨w.heap.size, 6, none⟩ = some (.int .i64 cc.file) := (q 6).trans rfl
          have xx7 : W3.cell? ⟨w.heap.size, 7, none⟩ = some (.int .i64 cc.at_) := (q 7).trans rfl
          have xx8 : W3.cell? ⟨w.heap.size, 8, none⟩ = some (.int .i64 cc.size) := (q 8).trans rfl
          have xx9 : W3.cell? ⟨w.heap.size, 9, none⟩ = some (.slice DA cc.data.length dc) := (q 9).trans rfl
          have xx10 : W3.cell? ⟨w.heap.size, 10, none⟩ = some (.slice KA ks.length kc) := (q 10).trans rfl
          have yy0 : W3.cell? ⟨w.heap.size + 1, 0, none⟩ = some (.int .i64 4) := (r 0).trans rfl
          have yy1 : W3.cell? ⟨w.heap.size + 1, 1, none⟩ = some (.int .i64 aa) := (r 1).trans rfl
          have yy2 : W3.cell? ⟨w.heap.size + 1, 2, none⟩ = some (.int .i64 0) := (r 2).trans rfl
          have yy3 : W3.cell? ⟨w.heap.size + 1, 3, none⟩ = some (.int .i64 0) := (r 3).trans rfl
          have yy4 : W3.cell? ⟨w.heap.size + 1, 4, none⟩ = some (.string ⟨#[]⟩) := (r 4).trans rfl
          have yy5 : W3.cell? ⟨w.heap.size + 1, 5, none⟩ = some (.string ⟨#[]⟩) := (r 5).trans rfl
          have yy6 : W3.cell? ⟨w.heap.size + 1, 6, none⟩ = some (.int .i64 0) := (r 6).trans rfl
          have yy7 : W3.cell? ⟨w.heap.size + 1, 7, none⟩ = some (.int .i64 0) := (r 7).trans rfl
          have yy8 : W3.cell? ⟨w.heap.size + 1, 8, none⟩ = some (.int .i64 0) := (r 8).trans rfl
          have yy9 : W3.cell? ⟨w.heap.size + 1, 9, none⟩ = some (.slice none 0 0) := (r 9).trans rfl
          have yy10 : W3.cell? ⟨w.heap.size + 1, 10, none⟩ = some (.slice none 0 0) := (r 10).trans rfl
          have HF := Lib.hid (HFIN.out W3 ⟨4, aa, 0, CallP.new 0, []⟩ (.slice none 0 0) (.slice none 0 0) (DataT.nil _).r (KeepT.nil _).r hb9 (by first | (simp only; omega) | exact Nat.zero_le _))
          have B9 := Lib.hid hb9
          rw [← HQB.out] at HF
          unfold ActP.cells at HF
          (try unfold CallP.new at HF)
          clear hx9 hb9 q r
          go_wp2_with fail
          refine HF.out.mono ?_
          rintro e W9 ⟨rfl, h9⟩
          have B8 := Lib.hid (B9.out.trans (h9.mono B9.out.size))
          clear h9
          go_wp2
          go_ret2
          refine ⟨g0, by rw [HB0.out]; rfl, fun _ => HST.out, B8.out⟩
        · clear hk
          obtain ⟨g0, hg0⟩ : ∃ g0 : Str, g0 = [116, 105, 99, 107, 32] ++ nb := ⟨_, rfl⟩
          have Lg0 : g0.length ≤ 200 := by rw [hg0, List.length_append]; (try simp only [List.length_cons, List.length_nil]); omega
          have Ag0 : ∀ w, (Op.stringOp .add ⟨#[116, 105, 99, 107, 32]⟩ ⟨nb.toArray⟩).run Tryd.prog w = .ok (.string ⟨g0.toArray⟩) w := add_run (a := [116, 105, 99, 107, 32]) (b := nb) hg0 (by first | decide | omega) (by first | decide | omega)
          obtain ⟨g1, hg1⟩ : ∃ g1 : Str, g1 = g0 ++ kp := ⟨_, rfl⟩
          have Ag1 : ∀ w, (Op.stringOp .add ⟨g0.toArray⟩ ⟨kp.toArray⟩).run Tryd.prog w = .ok (.string ⟨g1.toArray⟩) w := add_run (a := g0) (b := kp) hg1 (by first | decide | omega) (by first | decide | omega)
          have HWP := Lib.hid (show writeP ⟨5, aa, nn, cc, ks⟩ = [116, 105, 99, 107] :: Lib.itoa nn :: ks.map Lib.itoa by
            show _ :: List.flatMap (fieldA ⟨5, aa, nn, cc, ks⟩) [110, 107] = _
            simp only [List.flatMap_cons, List.flatMap_nil, List.append_nil]
            rfl)
          have HST := Lib.hid (show g1 = jnW (writeP ⟨5, aa, nn, cc, ks⟩) by
            have e1 := HNA.out; have e2 := HNB.out; have e3 := HKE.out
            rw [HWP.out, hg1, hg0, jn_cons]
            subst e1 e2 e3
            simp [kpS, List.flatMap_map])
          obtain ⟨qb, hqb⟩ : ∃ qb, qb = decide ((⟨5, aa, nn, cc, ks⟩ : ActP) = ⟨5, 0, nn, CallP.new 0, ks⟩) := ⟨_, rfl⟩
          have HQB := Lib.hid hqb
          have HB0 := Lib.hid (show llB ⟨5, aa, nn, cc, ks⟩ = qb by rw [hqb]; rfl)
          clear hqb hg0 hg1
          obtain ⟨V, hV⟩ : ∃ V, V = ((wr.setCell ⟨w.heap.size + 1, 2, none⟩ (.int .i64 nn)).setCell ⟨w.heap.size + 1, 10, none⟩ (.slice KA ks.length kc)) := ⟨_, rfl⟩
          have KV : Hid (Keep (fun k => k = w.heap.size + 1) wr V) := Lib.hid (by rw [hV]; exact (((Keep.refl (fun k => k = w.heap.size + 1) wr).setCell (p := ⟨w.heap.size + 1, 2, none⟩) (fun _ => rfl) (.int .i64 nn)).setCell (p := ⟨w.heap.size + 1, 10, none⟩) (fun _ => rfl) (.slice KA ks.length kc)))
          have YV : Hid (V.heap[w.heap.size + 1]? = some (.cells #[.int .i64 5, .int .i64 0, .int .i64 nn, .int .i64 0, .string ⟨#[]⟩, .string ⟨#[]⟩, .int .i64 0, .int .i64 0, .int .i64 0, .slice none 0 0, .slice KA ks.length kc] 27 (0, 0))) := Lib.hid (by rw [hV]; exact (blk_setL (blk_setL CY.out (.int .i64 nn)) (.slice KA ks.length kc)))
          have HVE := Lib.hid hV
          clear hV
          have HSX := Lib.hid (fun (w' : World) (k : Keep (fun k => k = w.heap.size + 1) wr w') => (show w'.cell? ⟨w.heap.size, 2, none⟩ = some (.int .i64 nn) ∧ w'.cell? ⟨w.heap.size, 10, none⟩ = some (.slice KA ks.length kc) from by
            have q := blk_cells (HXW.out w' k).1
            exact ⟨(q 2).trans rfl, (q 10).trans rfl⟩))
          go_upto_region 26 with fail
          go_region_held3 (fun w' => w'.cell? ⟨w.heap.size, 2, none⟩ = some (.int .i64 nn) ∧ w'.cell? ⟨w.heap.size, 10, none⟩ = some (.slice KA ks.length kc)) (first | (with_reducible exact HSX.out _ ((Keep.refl (fun k => k = w.heap.size + 1) wr).drew)) | (with_reducible exact HSX.out _ ((Keep.refl (fun k => k = w.heap.size + 1) wr).setCell (p := ⟨w.heap.size + 1, 2, none⟩) (fun _ => rfl) (.int .i64 nn))) | (with_reducible exact HSX.out _ (((Keep.refl (fun k => k = w.heap.size + 1) wr).setCell (p := ⟨w.heap.size + 1, 2, none⟩) (fun _ => rfl) (.int .i64 nn)).drew)) | (with_reducible exact HSX.out _ (((Keep.refl (fun k => k = w.heap.size + 1) wr).setCell (p := ⟨w.heap.size + 1, 2, none⟩) (fun _ => rfl) (.int .i64 nn)).setCell (p := ⟨w.heap.size + 1, 10, none⟩) (fun _ => rfl) (.slice KA ks.length kc))) | (with_reducible exact HSX.out _ ((((Keep.refl (fun k => k = w.heap.size + 1) wr).setCell (p := ⟨w.heap.size + 1, 2, none⟩) (fun _ => rfl) (.int .i64 nn)).setCell (p := ⟨w.heap.size + 1, 10, none⟩) (fun _ => rfl) (.slice KA ks.length kc)).drew))) (fail)
          all_goals
            rw [← HVE.out]
            obtain ⟨U, hU⟩ : ∃ U, U = V.drew := ⟨_, rfl⟩
            rw [← hU]
            have KU : Hid (Keep (fun k => k = w.heap.size + 1) wr U) := Lib.hid (by rw [hU]; exact KV.out.drew)
            have YU : Hid (U.heap[w.heap.size + 1]? = some (.cells #[.int .i64 5, .int .i64 0, .int .i64 nn, .int .i64 0, .string ⟨#[]⟩, .string ⟨#[]⟩, .int .i64 0, .int .i64 0, .int .i64 0, .slice none 0 0, .slice KA ks.length kc] 27 (0, 0))) := Lib.hid (by rw [hU]; exact YV.out)
            clear hU
            obtain ⟨hx3, hb3⟩ := HXW.out U KU.out
            have q := blk_cells hx3
            have v0 : U.cell? ⟨w.heap.size, 0, none⟩ = some (.int .i64 5) := (q 0).trans rfl
            have v1 : U.cell? ⟨w.heap.size, 1, none⟩ = some (.int .i64 aa) := (q 1).trans rfl
            have v2 : U.cell? ⟨w.heap.size, 2, none⟩ = some (.int .i64 nn) := (q 2).trans rfl
            have v3 : U.cell? ⟨w.heap.size, 3, none⟩ = some (.int .i64 cc.kind) := (q 3).trans rfl
            have v4 : U.cell? ⟨w.heap.size, 4, none⟩ = some (.string ⟨cc.path.toArray⟩) := (q 4).trans rfl
            have v5 : U.cell? ⟨w.heap.size, 5, none⟩ = some (.string ⟨cc.other.toArray⟩) := (q 5).trans rfl
            have v6 : U.cell? ⟨w.heap.size, 6, none⟩ = some (.int .i64 cc.file) := (q 6).trans rfl
            have v7 : U.cell? ⟨w.heap.size, 7, none⟩ = some (.int .i64 cc.at_) := (q 7).trans rfl
            have v8 : U.cell? ⟨w.heap.size, 8, none⟩ = some (.int .i64 cc.size) := (q 8).trans rfl
            have v9 : U.cell? ⟨w.heap.size, 9, none⟩ = some (.slice DA cc.data.length dc) := (q 9).trans rfl
            have v10 : U.cell? ⟨w.heap.size, 10, none⟩ = some (.slice KA ks.length kc) := (q 10).trans rfl
            have BU := Lib.hid hb3
            clear hx3 hb3 q
            go_wp2_with fail
            refine (HN2.out _).mono ?_
            rintro e W3 ⟨rfl, hbW3⟩
            have K3 := Lib.hid (KU.out.trans (Keep.of_below (S := fun k => k = w.heap.size + 1) hbW3) (fun _ _ h => h))
            have Y3 := Lib.hid ((Keep.of_below (S := fun _ => False) hbW3).blk YU.out id)
            clear hbW3
            obtain ⟨hx9, hb9⟩ := HXW.out W3 K3.out
            have q := blk_cells hx9
            have r := blk_cells Y3.out
            have xx0 : W3.cell? ⟨w.heap.size, 0, none⟩ = some (.int .i64 5) := (q 0).trans rfl
            have xx1 : W3.cell? ⟨w.heap.size, 1, none⟩ = some (.int .i64 aa) := (q 1).trans rfl
            have xx2 : W3.cell? ⟨w.heap.size, 2, none⟩ = some (.int .i64 nn) := (q 2).trans rfl
            have xx3 : W3.cell? ⟨w.heap.size, 3, none⟩ = some (.int .i64 cc.kind) := (q 3).trans rfl
            have xx4 : W3.cell? ⟨w.heap.size, 4, none⟩ = some (.string ⟨cc.path.toArray⟩) := (q 4).trans rfl
            have xx5 : W3.cell? ⟨w.heap.size, 5, none⟩ = some (.string ⟨cc.other.toArray⟩) := (q 5).trans rfl
            have xx6 : W3.cell? ⟨w.heap.size, 6, none⟩ = some (.int .i64 cc.file) := (q 6).trans rfl
            have xx7 : W3.cell? ⟨w.heap.size, 7, none⟩ = some (.int .i64 cc.at_) := (q 7).trans rfl
            have xx8 : W3.cell? ⟨w.heap.size, 8, none⟩ = some (.int .i64 cc.size) := (q 8).trans rfl
            have xx9 : W3.cell? ⟨w.heap.size, 9, none⟩ = some (.slice DA cc.data.length dc) := (q 9).trans rfl
            have xx10 : W3.cell? ⟨w.heap.size, 10, none⟩ = some (.slice KA ks.length kc) := (q 10).trans rfl
            have yy0 : W3.cell? ⟨w.heap.size + 1, 0, none⟩ = some (.int .i64 5) := (r 0).trans rfl
            have yy1 : W3.cell? ⟨w.heap.size + 1, 1, none⟩ = some (.int .i64 0) := (r 1).trans rfl
            have yy2 : W3.cell? ⟨w.heap.size + 1, 2, none⟩ = some (.int .i64 nn) := (r 2).trans rfl
            have yy3 : W3.cell? ⟨w.heap.size + 1, 3, none⟩ = some (.int .i64 0) := (r 3).trans rfl
            have yy4 : W3.cell? ⟨w.heap.size + 1, 4, none⟩ = some (.string ⟨#[]⟩) := (r 4).trans rfl
            have yy5 : W3.cell? ⟨w.heap.size + 1, 5, none⟩ = some (.string ⟨#[]⟩) := (r 5).trans rfl
            have yy6 : W3.cell? ⟨w.heap.size + 1, 6, none⟩ = some (.int .i64 0) := (r 6).trans rfl
            have yy7 : W3.cell? ⟨w.heap.size + 1, 7, none⟩ = some (.int .i64 0) := (r 7).trans rfl
            have yy8 : W3.cell? ⟨w.heap.size + 1, 8, none⟩ = some (.int .i64 0) := (r 8).trans rfl
            have yy9 : W3.cell? ⟨w.heap.size + 1, 9, none⟩ = some (.slice none 0 0) := (r 9).trans rfl
            have yy10 : W3.cell? ⟨w.heap.size + 1, 10, none⟩ = some (.slice KA ks.length kc) := (r 10).trans rfl
            have HF := Lib.hid (HFIN.out W3 ⟨5, 0, nn, CallP.new 0, ks⟩ (.slice none 0 0) (.slice KA ks.length kc) (DataT.nil _).r ⟨KA, kc, rfl, HKS.out.below hb9⟩ hb9 (by first | (simp only; omega) | exact Nat.zero_le _))
            have B9 := Lib.hid hb9
            rw [← HQB.out] at HF
            unfold ActP.cells at HF
            (try unfold CallP.new at HF)
            clear hx9 hb9 q r
            go_wp2_with fail
            refine HF.out.mono ?_
            rintro e W9 ⟨rfl, h9⟩
            have B8 := Lib.hid (B9.out.trans (h9.mono B9.out.size))
            clear h9
            go_wp2
            go_ret2
            refine ⟨g1, by rw [HB0.out]; rfl, fun _ => HST.out, B8.out⟩
        · clear hk
          obtain ⟨g0, hg0⟩ : ∃ g0 : Str, g0 = [99, 114, 97, 115, 104, 32] ++ na := ⟨_, rfl⟩
          have Ag0 : ∀ w, (Op.stringOp .add ⟨#[99, 114, 97, 115, 104, 32]⟩ ⟨na.toArray⟩).run Tryd.prog w = .ok (.string ⟨g0.toArray⟩) w := add_run (a := [99, 114, 97, 115, 104, 32]) (b := na) hg0 (by first | decide | omega) (by first | decide | omega)
          have HWP := Lib.hid (show writeP ⟨6, aa, nn, cc, ks⟩ = [[99, 114, 97, 115, 104], Lib.itoa aa] by
            show _ :: List.flatMap (fieldA ⟨6, aa, nn, cc, ks⟩) [97] = _
            simp only [List.flatMap_cons, List.flatMap_nil, List.append_nil]
            rfl)
          have HST := Lib.hid (show g0 = jnW (writeP ⟨6, aa, nn, cc, ks⟩) by
            have e1 := HNA.out; have e2 := HNB.out; have e3 := HKE.out
            rw [HWP.out, hg0, jn_cons]
            subst e1 e2 e3
            simp [kpS, List.flatMap_map])
          obtain ⟨qb, hqb⟩ : ∃ qb, qb = decide ((⟨6, aa, nn, cc, ks⟩ : ActP) = ⟨6, aa, 0, CallP.new 0, []⟩) := ⟨_, rfl⟩
          have HQB := Lib.hid hqb
          have HB0 := Lib.hid (show llB ⟨6, aa, nn, cc, ks⟩ = qb by rw [hqb]; rfl)
          clear hqb hg0
          obtain ⟨V, hV⟩ : ∃ V, V = (wr.setCell ⟨w.heap.size + 1, 1, none⟩ (.int .i64 aa)) := ⟨_, rfl⟩
          have KV : Hid (Keep (fun k => k = w.heap.size + 1) wr V) := Lib.hid (by rw [hV]; exact ((Keep.refl (fun k => k = w.heap.size + 1) wr).setCell (p := ⟨w.heap.size + 1, 1, none⟩) (fun _ => rfl) (.int .i64 aa)))
          have YV : Hid (V.heap[w.heap.size + 1]? = some (.cells #[.int .i64 6, .int .i64 aa, .int .i64 0, .int .i64 0, .string ⟨#[]⟩, .string ⟨#[]⟩, .int .i64 0, .int .i64 0, .int .i64 0, .slice none 0 0, .slice none 0 0] 27 (0, 0))) := Lib.hid (by rw [hV]; exact (blk_setL CY.out (.int .i64 aa)))
          have HVE := Lib.hid hV
          clear hV
          go_upto_region 30 with fail
          rw [← HVE.out]
          have q := blk_cells (HXW.out V KV.out).1
          have v1 : V.cell? ⟨w.heap.size, 1, none⟩ = some (.int .i64 aa) := (q 1).trans rfl
          clear q
          go_wp2_with fail
          refine (HN1.out _).mono ?_
          rintro e W3 ⟨rfl, hbW3⟩
          have K3 := Lib.hid (KV.out.trans (Keep.of_below (S := fun k => k = w.heap.size + 1) hbW3) (fun _ _ h => h))
          have Y3 := Lib.hid ((Keep.of_below (S := fun _ => False) hbW3).blk YV.out id)
          clear hbW3
          obtain ⟨hx9, hb9⟩ := HXW.out W3 K3.out
          have q := blk_cells hx9
          have r := blk_cells Y3.out
          have xx0 : W3.cell? ⟨w.heap.size, 0, none⟩ = some (.int .i64 6) := (q 0).trans rfl
          have xx1 : W3.cell? ⟨w.heap.size, 1, none⟩ = some (.int .i64 aa) := (q 1).trans rfl
          have xx2 : W3.cell? ⟨w.heap.size, 2, none⟩ = some (.int .i64 nn) := (q 2).trans rfl
          have xx3 : W3.cell? ⟨w.heap.size, 3, none⟩ = some (.int .i64 cc.kind) := (q 3).trans rfl
          have xx4 : W3.cell? ⟨w.heap.size, 4, none⟩ = some (.string ⟨cc.path.toArray⟩) := (q 4).trans rfl
          have xx5 : W3.cell? ⟨w.heap.size, 5, none⟩ = some (.string ⟨cc.other.toArray⟩) := (q 5).trans rfl
          have xx6 : W3.cell? ⟨w.heap.size, 6, none⟩ = some (.int .i64 cc.file) := (q 6).trans rfl
          have xx7 : W3.cell? ⟨w.heap.size, 7, none⟩ = some (.int .i64 cc.at_) := (q 7).trans rfl
          have xx8 : W3.cell? ⟨w.heap.size, 8, none⟩ = some (.int .i64 cc.size) := (q 8).trans rfl
          have xx9 : W3.cell? ⟨w.heap.size, 9, none⟩ = some (.slice DA cc.data.length dc) := (q 9).trans rfl
          have xx10 : W3.cell? ⟨w.heap.size, 10, none⟩ = some (.slice KA ks.length kc) := (q 10).trans rfl
          have yy0 : W3.cell? ⟨w.heap.size + 1, 0, none⟩ = some (.int .i64 6) := (r 0).trans rfl
          have yy1 : W3.cell? ⟨w.heap.size + 1, 1, none⟩ = some (.int .i64 aa) := (r 1).trans rfl
          have yy2 : W3.cell? ⟨w.heap.size + 1, 2, none⟩ = some (.int .i64 0) := (r 2).trans rfl
          have yy3 : W3.cell? ⟨w.heap.size + 1, 3, none⟩ = some (.int .i64 0) := (r 3).trans rfl
          have yy4 : W3.cell? ⟨w.heap.size + 1, 4, none⟩ = some (.string ⟨#[]⟩) := (r 4).trans rfl
          have yy5 : W3.cell? ⟨w.heap.size + 1, 5, none⟩ = some (.string ⟨#[]⟩) := (r 5).trans rfl
          have yy6 : W3.cell? ⟨w.heap.size + 1, 6, none⟩ = some (.int .i64 0) := (r 6).trans rfl
          have yy7 : W3.cell? ⟨w.heap.size + 1, 7, none⟩ = some (.int .i64 0) := (r 7).trans rfl
          have yy8 : W3.cell? ⟨w.heap.size + 1, 8, none⟩ = some (.int .i64 0) := (r 8).trans rfl
          have yy9 : W3.cell? ⟨w.heap.size + 1, 9, none⟩ = some (.slice none 0 0) := (r 9).trans rfl
          have yy10 : W3.cell? ⟨w.heap.size + 1, 10, none⟩ = some (.slice none 0 0) := (r 10).trans rfl
          have HF := Lib.hid (HFIN.out W3 ⟨6, aa, 0, CallP.new 0, []⟩ (.slice none 0 0) (.slice none 0 0) (DataT.nil _).r (KeepT.nil _).r hb9 (by first | (simp only; omega) | exact Nat.zero_le _))
          have B9 := Lib.hid hb9
          rw [← HQB.out] at HF
          unfold ActP.cells at HF
          (try unfold CallP.new at HF)
          clear hx9 hb9 q r
          go_wp2_with fail
          refine HF.out.mono ?_
          rintro e W9 ⟨rfl, h9⟩
          have B8 := Lib.hid (B9.out.trans (h9.mono B9.out.size))
          clear h9
          go_wp2
          go_ret2
          refine ⟨g0, by rw [HB0.out]; rfl, fun _ => HST.out, B8.out⟩
        · clear hk
          obtain ⟨g0, hg0⟩ : ∃ g0 : Str, g0 = [115, 116, 97, 114, 116, 32] ++ na := ⟨_, rfl⟩
          have Lg0 : g0.length ≤ 200 := by rw [hg0, List.length_append]; (try simp only [List.length_cons, List.length_nil]); omega
          have Ag0 : ∀ w, (Op.stringOp .add ⟨#[115, 116, 97, 114, 116, 32]⟩ ⟨na.toArray⟩).run Tryd.prog w = .ok (.string ⟨g0.toArray⟩) w := add_run (a := [115, 116, 97, 114, 116, 32]) (b := na) hg0 (by first | decide | omega) (by first | decide | omega)
          obtain ⟨g1, hg1⟩ : ∃ g1 : Str, g1 = g0 ++ [32] := ⟨_, rfl⟩
          have Lg1 : g1.length ≤ 400 := by rw [hg1, List.length_append]; (try simp only [List.length_cons, List.length_nil]); omega
          have Ag1 : ∀ w, (Op.stringOp .add ⟨g0.toArray⟩ ⟨#[32]⟩).run Tryd.prog w = .ok (.string ⟨g1.toArray⟩) w := add_run (a := g0) (b := [32]) hg1 (by first | decide | omega) (by first | decide | omega)
          obtain ⟨g2, hg2⟩ : ∃ g2 : Str, g2 = g1 ++ nb := ⟨_, rfl⟩
          have Lg2 : g2.length ≤ 600 := by rw [hg2, List.length_append]; (try simp only [List.length_cons, List.length_nil]); omega
          have Ag2 : ∀ w, (Op.stringOp .add ⟨g1.toArray⟩ ⟨nb.toArray⟩).run Tryd.prog w = .ok (.string ⟨g2.toArray⟩) w := add_run (a := g1) (b := nb) hg2 (by first | decide | omega) (by first | decide | omega)
          obtain ⟨g3, hg3⟩ : ∃ g3 : Str, g3 = g2 ++ kp := ⟨_, rfl⟩
          have Ag3 : ∀ w, (Op.stringOp .add ⟨g2.toArray⟩ ⟨kp.toArray⟩).run Tryd.prog w = .ok (.string ⟨g3.toArray⟩) w := add_run (a := g2) (b := kp) hg3 (by first | decide | omega) (by first | decide | omega)
          have HWP := Lib.hid (show writeP ⟨7, aa, nn, cc, ks⟩ = [115, 116, 97, 114, 116] :: Lib.itoa aa :: Lib.itoa nn :: ks.map Lib.itoa by
            show _ :: List.flatMap (fieldA ⟨7, aa, nn, cc, ks⟩) [97, 110, 107] = _
            simp only [List.flatMap_cons, List.flatMap_nil, List.append_nil]
            rfl)
          have HST := Lib.hid (show g3 = jnW (writeP ⟨7, aa, nn, cc, ks⟩) by
            have e1 := HNA.out; have e2 := HNB.out; have e3 := HKE.out
            rw [HWP.out, hg3, hg2, hg1, hg0, jn_cons]
            subst e1 e2 e3
            simp [kpS, List.flatMap_map])
          obtain ⟨qb, hqb⟩ : ∃ qb, qb = decide ((⟨7, aa, nn, cc, ks⟩ : ActP) = ⟨7, aa, nn, CallP.new 0, ks⟩) := ⟨_, rfl⟩
          have HQB := Lib.hid hqb
          have HB0 := Lib.hid (show llB ⟨7, aa, nn, cc, ks⟩ = qb by rw [hqb]; rfl)
          clear hqb hg0 hg1 hg2 hg3
          obtain ⟨V, hV⟩ : ∃ V, V = (((wr.setCell ⟨w.heap.size + 1, 1, none⟩ (.int .i64 aa)).setCell ⟨w.heap.size + 1, 2, none⟩ (.int .i64 nn)).setCell ⟨w.heap.size + 1, 10, none⟩ (.slice KA ks.length kc)) := ⟨_, rfl⟩
          have KV : Hid (Keep (fun k => k = w.heap.size + 1) wr V) := Lib.hid (by rw [hV]; exact ((((Keep.refl (fun k => k = w.heap.size + 1) wr).setCell (p := ⟨w.heap.size + 1, 1, none⟩) (fun _ => rfl) (.int .i64 aa)).setCell (p := ⟨w.heap.size + 1, 2, none⟩) (fun _ => rfl) (.int .i64 nn)).setCell (p := ⟨w.heap.size + 1, 10, none⟩) (fun _ => rfl) (.slice KA ks.length kc)))
          have YV : Hid (V.heap[w.heap.size + 1]? = some (.cells #[.int .i64 7, .int .i64 aa, .int .i64 nn, .int .i64 0, .string ⟨#[]⟩, .string ⟨#[]⟩, .int .i64 0, .int .i64 0, .int .i64 0, .slice none 0 0, .slice KA ks.length kc] 27 (0, 0))) := Lib.hid (by rw [hV]; exact (blk_setL (blk_setL (blk_setL CY.out (.int .i64 aa)) (.int .i64 nn)) (.slice KA ks.length kc)))
          have HVE := Lib.hid hV
          clear hV
          have HSX := Lib.hid (fun (w' : World) (k : Keep (fun k => k = w.heap.size + 1) wr w') => (show w'.cell? ⟨w.heap.size, 1, none⟩ = some (.int .i64 aa) ∧ w'.cell? ⟨w.heap.size, 2, none⟩ = some (.int .i64 nn) ∧ w'.cell? ⟨w.heap.size, 10, none⟩ = some (.slice KA ks.length kc) from by
            have q := blk_cells (HXW.out w' k).1
            exact ⟨(q 1).trans rfl, (q 2).trans rfl, (q 10).trans rfl⟩))
          go_upto_region 32 with fail
          go_region_held3 (fun w' => w'.cell? ⟨w.heap.size, 1, none⟩ = some (.int .i64 aa) ∧ w'.cell? ⟨w.heap.size, 2, none⟩ = some (.int .i64 nn) ∧ w'.cell? ⟨w.heap.size, 10, none⟩ = some (.slice KA ks.length kc)) (first | (with_reducible exact HSX.out _ ((Keep.refl (fun k => k = w.heap.size + 1) wr).drew)) | (with_reducible exact HSX.out _ ((Keep.refl (fun k => k = w.heap.size + 1) wr).setCell (p := ⟨w.heap.size + 1, 1, none⟩) (fun _ => rfl) (.int .i64 aa))) | (with_reducible exact HSX.out _ (((Keep.refl (fun k => k = w.heap.size + 1) wr).setCell (p := ⟨w.heap.size + 1, 1, none⟩) (fun _ => rfl) (.int .i64 aa)).drew)) | (with_reducible exact HSX.out _ (((Keep.refl (fun k => k = w.heap.size + 1) wr).setCell (p := ⟨w.heap.size + 1, 1, none⟩) (fun _ => rfl) (.int .i64 aa)).setCell (p := ⟨w.heap.size + 1, 2, none⟩) (fun _ => rfl) (.int .i64 nn))) | (with_reducible exact HSX.out _ ((((Keep.refl (fun k => k = w.heap.size + 1) wr).setCell (p := ⟨w.heap.size + 1, 1, none⟩) (fun _ => rfl) (.int .i64 aa)).setCell (p := ⟨w.heap.size + 1, 2, none⟩) (fun _ => rfl) (.int .i64 nn)).drew)) | (with_reducible exact HSX.out _ ((((Keep.refl (fun k => k = w.heap.size + 1) wr).setCell (p := ⟨w.heap.size + 1, 1, none⟩) (fun _ => rfl) (.int .i64 aa)).setCell (p := ⟨w.heap.size + 1, 2, none⟩) (fun _ => rfl) (.int .i64 nn)).setCell (p := ⟨w.heap.size + 1, 10, none⟩) (fun _ => rfl) (.slice KA ks.length kc))) | (with_reducible exact HSX.out _ (((((Keep.refl (fun k => k = w.heap.size + 1) wr).setCell (p := ⟨w.heap.size + 1, 1, none⟩) (fun _ => rfl) (.int .i64 aa)).setCell (p := ⟨w.heap.size + 1, 2, none⟩) (fun _ => rfl) (.int .i64 nn)).setCell (p := ⟨w.heap.size + 1, 10, none⟩) (fun _ => rfl) (.slice KA ks.length kc)).drew))) (fail)
          all_goals
            rw [← HVE.out]
            obtain ⟨U, hU⟩ : ∃ U, U = V.drew := ⟨_, rfl⟩
            rw [← hU]
            have KU : Hid (Keep (fun k => k = w.heap.size + 1) wr U) := Lib.hid (by rw [hU]; exact KV.out.drew)
            have YU : Hid (U.heap[w.heap.size + 1]? = some (.cells #[.int .i64 7, .int .i64 aa, .int .i64 nn, .int .i64 0, .string ⟨#[]⟩, .string ⟨#[]⟩, .int .i64 0, .int .i64 0, .int .i64 0, .slice none 0 0, .slice KA ks.length kc] 27 (0, 0))) := Lib.hid (by rw [hU]; exact YV.out)
            clear hU
            obtain ⟨hx3, hb3⟩ := HXW.out U KU.out
            have q := blk_cells hx3
            have v0 : U.cell? ⟨w.heap.size, 0, none⟩ = some (.int .i64 7) := (q 0).trans rfl
            have v1 : U.cell? ⟨w.heap.size, 1, none⟩ = some (.int .i64 aa) := (q 1).trans rfl
            have v2 : U.cell? ⟨w.heap.size, 2, none⟩ = some (.int .i64 nn) := (q 2).trans rfl
            have v3 : U.cell? ⟨w.heap.size, 3, none⟩ = some (.int .i64 cc.kind) := (q 3).trans rfl
            have v4 : U.cell? ⟨w.heap.size, 4, none⟩ = some (.string ⟨cc.path.toArray⟩) := (q 4).trans rfl
            have v5 : U.cell? ⟨w.heap.size, 5, none⟩ = some (.string ⟨cc.other.toArray⟩) := (q 5).trans rfl
            have v6 : U.cell? ⟨w.heap.size, 6, none⟩ = some (.int .i64 cc.file) := (q 6).trans rfl
            have v7 : U.cell? ⟨w.heap.size, 7, none⟩ = some (.int .i64 cc.at_) := (q 7).trans rfl
            have v8 : U.cell? ⟨w.heap.size, 8, none⟩ = some (.int .i64 cc.size) := (q 8).trans rfl
            have v9 : U.cell? ⟨w.heap.size, 9, none⟩ = some (.slice DA cc.data.length dc) := (q 9).trans rfl
            have v10 : U.cell? ⟨w.heap.size, 10, none⟩ = some (.slice KA ks.length kc) := (q 10).trans rfl
            have BU := Lib.hid hb3
            clear hx3 hb3 q
            have HS2 := Lib.hid (fun (w' : World) (k : Keep (fun k => k = w.heap.size + 1) wr w') => (show w'.cell? ⟨w.heap.size, 1, none⟩ = some (.int .i64 aa) ∧ w'.cell? ⟨w.heap.size, 2, none⟩ = some (.int .i64 nn) from by
              have q := blk_cells (HXW.out w' k).1
              exact ⟨(q 1).trans rfl, (q 2).trans rfl⟩))
            go_wp2_with fail
            go_region_held3 (fun w' => w'.cell? ⟨w.heap.size, 1, none⟩ = some (.int .i64 aa) ∧ w'.cell? ⟨w.heap.size, 2, none⟩ = some (.int .i64 nn)) (first | exact HS2.out _ (KU.out.drew) | exact HS2.out _ K4.out | exact HS2.out _ K3.out)
              (first
                | (go_at_call 15; (with_reducible refine (HN1.out _).mono ?_); rintro e W3 ⟨rfl, hbW3⟩; have K3 := Lib.hid (KU.out.drew.trans (Keep.of_below (S := fun k => k = w.heap.size + 1) hbW3) (fun _ _ h => h)); have Y3 := Lib.hid ((Keep.of_below (S := fun _ => False) hbW3).blk (show U.drew.heap[w.heap.size + 1]? = _ from YU.out) id); clear hbW3)
                | (go_at_call 15; (with_reducible refine (HN2.out _).mono ?_); rintro e W4 ⟨rfl, hbW4⟩; have K4 := Lib.hid (K3.out.trans (Keep.of_below (S := fun k => k = w.heap.size + 1) hbW4) (fun _ _ h => h)); have Y4 := Lib.hid ((Keep.of_below (S := fun _ => False) hbW4).blk Y3.out id); clear hbW4))
            all_goals
              obtain ⟨hx9, hb9⟩ := HXW.out W4 K4.out
              have q := blk_cells hx9
              have r := blk_cells Y4.out
              have xx0 : W4.cell? ⟨w.heap.size, 0, none⟩ = some (.int .i64 7) := (q 0).trans rfl
              have xx1 : W4.cell? ⟨w.heap.size, 1, none⟩ = some (.int .i64 aa) := (q 1).trans rfl
              have xx2 : W4.cell? ⟨w.heap.size, 2, none⟩ = some (.int .i64 nn) := (q 2).trans rfl
              have xx3 : W4.cell? ⟨w.heap.size, 3, none⟩ = some (.int .i64 cc.kind) := (q 3).trans rfl
              have xx4 : W4.cell? ⟨w.heap.size, 4, none⟩ = some (.string ⟨cc.path.toArray⟩) := (q 4).trans rfl
              have xx5 : W4.cell? ⟨w.heap.size, 5, none⟩ = some (.string ⟨cc.other.toArray⟩) := (q 5).trans rfl
              have xx6 : W4.cell? ⟨w.heap.size, 6, none⟩ = some (.int .i64 cc.file) := (q 6).trans rfl
              have xx7 : W4.cell? ⟨w.heap.size, 7, none⟩ = some (.int .i64 cc.at_) := (q 7).trans rfl
              have xx8 : W4.cell? ⟨w.heap.size, 8, none⟩ = some (.int .i64 cc.size) := (q 8).trans rfl
              have xx9 : W4.cell? ⟨w.heap.size, 9, none⟩ = some (.slice DA cc.data.length dc) := (q 9).trans rfl
              have xx10 : W4.cell? ⟨w.heap.size, 10, none⟩ = some (.slice KA ks.length kc) := (q 10).trans rfl
              have yy0 : W4.cell? ⟨w.heap.size + 1, 0, none⟩ = some (.int .i64 7) := (r 0).trans rfl
              have yy1 : W4.cell? ⟨w.heap.size + 1, 1, none⟩ = some (.int .i64 aa) := (r 1).trans rfl
              have yy2 : W4.cell? ⟨w.heap.size + 1, 2, none⟩ = some (.int .i64 nn) := (r 2).trans rfl
              have yy3 : W4.cell? ⟨w.heap.size + 1, 3, none⟩ = some (.int .i64 0) := (r 3).trans rfl
              have yy4 : W4.cell? ⟨w.heap.size + 1, 4, none⟩ = some (.string ⟨#[]⟩) := (r 4).trans rfl
              have yy5 : W4.cell? ⟨w.heap.size + 1, 5, none⟩ = some (.string ⟨#[]⟩) := (r 5).trans rfl
              have yy6 : W4.cell? ⟨w.heap.size + 1, 6, none⟩ = some (.int .i64 0) := (r 6).trans rfl
              have yy7 : W4.cell? ⟨w.heap.size + 1, 7, none⟩ = some (.int .i64 0) := (r 7).trans rfl
              have yy8 : W4.cell? ⟨w.heap.size + 1, 8, none⟩ = some (.int .i64 0) := (r 8).trans rfl
              have yy9 : W4.cell? ⟨w.heap.size + 1, 9, none⟩ = some (.slice none 0 0) := (r 9).trans rfl
              have yy10 : W4.cell? ⟨w.heap.size + 1, 10, none⟩ = some (.slice KA ks.length kc) := (r 10).trans rfl
              have HF := Lib.hid (HFIN.out W4 ⟨7, aa, nn, CallP.new 0, ks⟩ (.slice none 0 0) (.slice KA ks.length kc) (DataT.nil _).r ⟨KA, kc, rfl, HKS.out.below hb9⟩ hb9 (by first | (simp only; omega) | exact Nat.zero_le _))
              have B9 := Lib.hid hb9
              rw [← HQB.out] at HF
              unfold ActP.cells at HF
              (try unfold CallP.new at HF)
              clear hx9 hb9 q r
              go_wp2_with fail
              refine HF.out.mono ?_
              rintro e W9 ⟨rfl, h9⟩
              have B8 := Lib.hid (B9.out.trans (h9.mono B9.out.size))
              clear h9
              go_wp2
              go_ret2
              refine ⟨g3, by rw [HB0.out]; rfl, fun _ => HST.out, B8.out⟩
        · clear hk
          obtain ⟨g0, hg0⟩ : ∃ g0 : Str, g0 = [102, 117, 115, 101, 32] ++ nb := ⟨_, rfl⟩
          have Ag0 : ∀ w, (Op.stringOp .add ⟨#[102, 117, 115, 101, 32]⟩ ⟨nb.toArray⟩).run Tryd.prog w = .ok (.string ⟨g0.toArray⟩) w := add_run (a := [102, 117, 115, 101, 32]) (b := nb) hg0 (by first | decide | omega) (by first | decide | omega)
          have HWP := Lib.hid (show writeP ⟨8, aa, nn, cc, ks⟩ = [[102, 117, 115, 101], Lib.itoa nn] by
            show _ :: List.flatMap (fieldA ⟨8, aa, nn, cc, ks⟩) [110] = _
            simp only [List.flatMap_cons, List.flatMap_nil, List.append_nil]
            rfl)
          have HST := Lib.hid (show g0 = jnW (writeP ⟨8, aa, nn, cc, ks⟩) by
            have e1 := HNA.out; have e2 := HNB.out; have e3 := HKE.out
            rw [HWP.out, hg0, jn_cons]
            subst e1 e2 e3
            simp [kpS, List.flatMap_map])
          obtain ⟨qb, hqb⟩ : ∃ qb, qb = decide ((⟨8, aa, nn, cc, ks⟩ : ActP) = ⟨8, 0, nn, CallP.new 0, []⟩) := ⟨_, rfl⟩
          have HQB := Lib.hid hqb
          have HB0 := Lib.hid (show llB ⟨8, aa, nn, cc, ks⟩ = qb by rw [hqb]; rfl)
          clear hqb hg0
          obtain ⟨V, hV⟩ : ∃ V, V = (wr.setCell ⟨w.heap.size + 1, 2, none⟩ (.int .i64 nn)) := ⟨_, rfl⟩
          have KV : Hid (Keep (fun k => k = w.heap.size + 1) wr V) := Lib.hid (by rw [hV]; exact ((Keep.refl (fun k => k = w.heap.size + 1) wr).setCell (p := ⟨w.heap.size + 1, 2, none⟩) (fun _ => rfl) (.int .i64 nn)))
          have YV : Hid (V.heap[w.heap.size + 1]? = some (.cells #[.int .i64 8, .int .i64 0, .int .i64 nn, .int .i64 0, .string ⟨#[]⟩, .string ⟨#[]⟩, .int .i64 0, .int .i64 0, .int .i64 0, .slice none 0 0, .slice none 0 0] 27 (0, 0))) := Lib.hid (by rw [hV]; exact (blk_setL CY.out (.int .i64 nn)))
          have HVE := Lib.hid hV
          clear hV
          go_upto_region 36 with fail
          rw [← HVE.out]
          have q := blk_cells (HXW.out V KV.out).1
          have v2 : V.cell? ⟨w.heap.size, 2, none⟩ = some (.int .i64 nn) := (q 2).trans rfl
          clear q
          go_wp2_with fail
          refine (HN2.out _).mono ?_
          rintro e W3 ⟨rfl, hbW3⟩
          have K3 := Lib.hid (KV.out.trans (Keep.of_below (S := fun k => k = w.heap.size + 1) hbW3) (fun _ _ h => h))
          have Y3 := Lib.hid ((Keep.of_below (S := fun _ => False) hbW3).blk YV.out id)
          clear hbW3
          obtain ⟨hx9, hb9⟩ := HXW.out W3 K3.out
          have q := blk_cells hx9
          have r := blk_cells Y3.out
          have xx0 : W3.cell? ⟨w.heap.size, 0, none⟩ = some (.int .i64 8) := (q 0).trans rfl
          have xx1 : W3.cell? ⟨w.heap.size, 1, none⟩ = some (.int .i64 aa) := (q 1).trans rfl
          have xx2 : W3.cell? ⟨w.heap.size, 2, none⟩ = some (.int .i64 nn) := (q 2).trans rfl
          have xx3 : W3.cell? ⟨w.heap.size, 3, none⟩ = some (.int .i64 cc.kind) := (q 3).trans rfl
          have xx4 : W3.cell? ⟨w.heap.size, 4, none⟩ = some (.string ⟨cc.path.toArray⟩) := (q 4).trans rfl
          have xx5 : W3.cell? ⟨w.heap.size, 5, none⟩ = some (.string ⟨cc.other.toArray⟩) := (q 5).trans rfl
          have xx6 : W3.cell? ⟨w.heap.size, 6, none⟩ = some (.int .i64 cc.file) := (q 6).trans rfl
          have xx7 : W3.cell? ⟨w.heap.size, 7, none⟩ = some (.int .i64 cc.at_) := (q 7).trans rfl
          have xx8 : W3.cell? ⟨w.heap.size, 8, none⟩ = some (.int .i64 cc.size) := (q 8).trans rfl
          have xx9 : W3.cell? ⟨w.heap.size, 9, none⟩ = some (.slice DA cc.data.length dc) := (q 9).trans rfl
          have xx10 : W3.cell? ⟨w.heap.size, 10, none⟩ = some (.slice KA ks.length kc) := (q 10).trans rfl
          have yy0 : W3.cell? ⟨w.heap.size + 1, 0, none⟩ = some (.int .i64 8) := (r 0).trans rfl
          have yy1 : W3.cell? ⟨w.heap.size + 1, 1, none⟩ = some (.int .i64 0) := (r 1).trans rfl
          have yy2 : W3.cell? ⟨w.heap.size + 1, 2, none⟩ = some (.int .i64 nn) := (r 2).trans rfl
          have yy3 : W3.cell? ⟨w.heap.size + 1, 3, none⟩ = some (.int .i64 0) := (r 3).trans rfl
          have yy4 : W3.cell? ⟨w.heap.size + 1, 4, none⟩ = some (.string ⟨#[]⟩) := (r 4).trans rfl
          have yy5 : W3.cell? ⟨w.heap.size + 1, 5, none⟩ = some (.string ⟨#[]⟩) := (r 5).trans rfl
          have yy6 : W3.cell? ⟨w.heap.size + 1, 6, none⟩ = some (.int .i64 0) := (r 6).trans rfl
          have yy7 : W3.cell? ⟨w.heap.size + 1, 7, none⟩ = some (.int .i64 0) := (r 7).trans rfl
          have yy8 : W3.cell? ⟨w.heap.size + 1, 8, none⟩ = some (.int .i64 0) := (r 8).trans rfl
          have yy9 : W3.cell? ⟨w.heap.size + 1, 9, none⟩ = some (.slice none 0 0) := (r 9).trans rfl
          have yy10 : W3.cell? ⟨w.heap.size + 1, 10, none⟩ = some (.slice none 0 0) := (r 10).trans rfl
          have HF := Lib.hid (HFIN.out W3 ⟨8, 0, nn, CallP.new 0, []⟩ (.slice none 0 0) (.slice none 0 0) (DataT.nil _).r (KeepT.nil _).r hb9 (by first | (simp only; omega) | exact Nat.zero_le _))
          have B9 := Lib.hid hb9
          rw [← HQB.out] at HF
          unfold ActP.cells at HF
          (try unfold CallP.new at HF)
          clear hx9 hb9 q r
          go_wp2_with fail
          refine HF.out.mono ?_
          rintro e W9 ⟨rfl, h9⟩
          have B8 := Lib.hid (B9.out.trans (h9.mono B9.out.size))
          clear h9
          go_wp2
          go_ret2
          refine ⟨g0, by rw [HB0.out]; rfl, fun _ => HST.out, B8.out⟩
end Go.Proofs.YtpdnfcgdcndhpaaDoor
