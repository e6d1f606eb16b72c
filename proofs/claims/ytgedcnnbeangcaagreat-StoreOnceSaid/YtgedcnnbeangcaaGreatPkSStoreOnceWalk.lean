/- Words and contracts that the proofs of this set use; each part says what it holds. -/
import Derived.ProofKit
import Derived.SizedLaws
import Derived.Deep.Slices
import Derived.Deep.Strs
import Derived.ChangeOld
import Derived.Test.YtgedcnnbeangcaaGreatPkS5
import Derived.Test.YtgedcnnbeangcaaGreatPkS0
/- The walk of StoreOnce. -/
set_option linter.unusedSimpArgs false
set_option linter.unusedVariables false
namespace Go.Proofs.YtgedcnnbeangcaaGreat
open Go.RowKit

attribute [local go_sem ↓] Go.wp_at_zero Go.wp_at_succ
def onX (xs : Nat → NoS) : Prop := (xs 2).kind = 2
def OnI (N k kd g c : Nat) (M : List UInt8) (xs : Nat → NoS) (w : World) (v : Value) (W : World) : Prop := ∃ (i : Nat) (s : StS), i ≤ k ∧ v = .int .i64 (i : Int) ∧ DR w.heap.size kd s.d W (some ⟨g, 0, none⟩) c none 0 ∧ Kn s M xs ∧ s.will = [] ∧ s.sup = ⟨N, i + 1, 1⟩ ∧ viewS s 43 = some zero128 ∧ Below w.heap.size w W
theorem conv_zero (A : Option Addr) (W : World) (h : Sl W 1 (.slice A 128 128) 128 (bv zero128)) : (convert 45 9 (.slice A 128 128)).run Tryz.prog W = .ok (.string ⟨zero128.toArray⟩) W :=
  run_conv_bytes (P := Tryz.prog) (d := zero128) W Tryz.underlying45 Tryz.underlying5 Tryz.underlying9 h
set_option maxRecDepth 100000 in
set_option maxHeartbeats 1000000 in
theorem once_walk (a t : Nat) (ha : a ≤ 255) (ht : t ≤ 255) (v : Value) (w : World) :
    Calls Tryz.prog 3 #[.int .u8 (a : Int), .int .u8 (t : Int), v] w fun e w' => e = .returned (.bool true) ∧ Below w.heap.size w w' := by
  obtain ⟨N, hN⟩ : ∃ N : Nat, N = 64 + a := ⟨_, rfl⟩
  obtain ⟨k, hk⟩ : ∃ k : Nat, k = t % 6 := ⟨_, rfl⟩
  have e1 : IntKind.i64.wrap (64 + (a : Int)) = (N : Int) := by rw [IntWalk.i64_in _ (by omega)]; omega
  have e0 : IntKind.i64.wrap (a : Int) = (a : Int) := IntWalk.i64_in _ (by omega)
  have e2 : (t : Int) % 6 = (k : Int) := by omega
  have e3 : IntKind.i64.wrap (k : Int) = (k : Int) := IntWalk.i64_in _ (by omega)
  have HBE := Lib.hid (lbegin N (by omega) (by omega) w)
  have HN := Lib.hid (show 64 ≤ N ∧ N ≤ 1024 by omega)
  have hk6 : k < 6 := by omega
  clear hN hk ha ht
  go_enter Tryz.func3, Tryz.ntmps3
  go_wp2_with fail
  refine HBE.out.mono ?_
  rintro r' w1 ⟨p, s, M, rfl, hbg⟩
  have HBG := Lib.hid hbg
  clear hbg
  go_wp2_with fail
  refine (awake_walk w1).mono ?_
  rintro r' w2 ⟨rfl, hb2⟩
  have HB2 := Lib.hid (HBG.out.below.trans (hb2.mono HBG.out.below.size))
  have HST2 := Lib.hid (HBG.out.st.below hb2)
  have HNW : Hid (Calls Tryz.prog 9 #[.pointer (some ⟨p.k, 0, none⟩), .int .i64 2] w2 fun e w' => ∃ s', e = .returned (.tuple #[.int .i64 2, .int .i64 0]) ∧ Newed w.heap.size p s M freshX 2 2 w2 s' w') := Lib.hid (lnew (m := 2) HST2.out HBG.out.kn (by omega) (by omega) (fun n h1 h2 => by
    obtain rfl : n = 1 := by omega
    decide) (by decide) (by rw [HBG.out.sup]; show 0 < 1073741824; omega) (by rw [HBG.out.will]; show 0 ≤ 22; omega) 2 (.inr rfl))
  clear hb2
  go_wp2_with fail
  refine HNW.out.mono ?_
  rintro r' w4 ⟨s4, rfl, hn4⟩
  have HN4 := Lib.hid hn4
  have HB4 := Lib.hid (HB2.out.trans (hn4.keep.below (fun j hj => by have := HST2.out.newAll; rcases hj with hj | hj <;> omega) HB2.out.size))
  have hsup4 : s4.sup = ⟨N, 1, 1⟩ := by rw [hn4.sup, HBG.out.sup]; rfl
  have hw4 : s4.will.length ≤ 2 := by have := hn4.len; rw [HBG.out.will] at this; exact this
  have HTK : Hid (Calls Tryz.prog 10 #[.pointer (some ⟨p.k, 0, none⟩)] w4 fun e w' => ∃ s', e = .returned (.tuple #[.int .i64 43, .int .i64 0]) ∧ Took w.heap.size p s4 M (updX freshX 2 (nwNode 2 s.sup.gens (freshX 2))) 43 w4 s' w') := Lib.hid (ltake hn4.st hn4.kn HBG.out.mm.len (HBG.out.mm.t.first 43 _ (by omega) (by rw [hsup4]; show 43 < 43 + (N - 43); have := HN.out; omega)) (by omega))
  have HSUP4 := Lib.hid hsup4
  clear hn4 hsup4 hw4
  go_wp2_with fail
  refine HTK.out.mono ?_
  rintro r' w5 ⟨s5, rfl, ht5⟩
  have HT5 := Lib.hid ht5
  have HB5 := Lib.hid (HB4.out.trans (ht5.keep.below (fun j hj => by have := HN4.out.st.newAll; have : j = p.b := hj; omega) HB4.out.size))
  have HCM := Lib.hid (lcommit ht5.st ht5.kn)
  clear ht5
  go_wp2_with fail
  refine HCM.out.mono ?_
  rintro r' w6 ⟨s6, rfl, hst6, hkn6, hsup6, hwill6, hview6, hk6'⟩
  have HST6 := Lib.hid hst6
  obtain ⟨xs, hxs⟩ : ∃ xs, xs = updX freshX 2 (nwNode 2 s.sup.gens (freshX 2)) := ⟨_, rfl⟩
  have hx2 : (xs 2).kind = 2 := by rw [hxs]; rfl
  rw [← hxs] at hkn6
  have HKN6 := Lib.hid hkn6
  have HX2 := Lib.hid hx2
  have HSUP6 : Hid (s6.sup = ⟨N, 1, 1⟩) := Lib.hid (by rw [hsup6, HT5.out.sup, HSUP4.out])
  have HW6 := Lib.hid hwill6
  have HV6 : Hid (viewS s6 43 = some zero128) := Lib.hid (by rw [hview6 43 (by omega)]; exact HT5.out.new)
  have HB6 := Lib.hid (HB5.out.trans (hk6'.below (fun j hj => by have := HT5.out.st.newAll; have := HB5.out.size; rcases hj with hj | hj | hj | hj <;> omega) HB5.out.size))
  have HMT : Hid (MkT (setP M 43 true) 44) := Lib.hid (HBG.out.mm.t.set (by omega))
  obtain ⟨f, hf⟩ : ∃ f : Int, f = ((N - 44 : Nat) : Int) := ⟨_, rfl⟩
  have HFREE : Hid (∀ p s W, ST w.heap.size p s W → Kn s (setP M 43 true) xs → s.sup.sectors = N → Calls Tryz.prog 12 #[.pointer (some ⟨p.k, 0, none⟩)] W fun e w' => e = .returned (.int .i64 f) ∧ Below W.heap.size W w') := Lib.hid (fun p s W h1 h2 h3 => by
    have := lfree h1 h2 HMT.out (by omega) (by rw [h3]; have := HN.out; omega)
    rw [h3, ← hf] at this
    exact this)
  have HF6 := Lib.hid (HFREE.out p s6 w6 hst6 hkn6 (by rw [HSUP6.out]))
  clear hst6 hkn6 hsup6 hwill6 hview6 hk6' hx2 hxs hf
  go_wp2_with fail
  refine HF6.out.mono ?_
  rintro r' w7 ⟨rfl, hb7⟩
  have HB7 := Lib.hid (bstep HB6.out hb7)
  have HD7 := Lib.hid (HST6.out.drv.below hb7)
  clear hb7
  go_wp2_with fail
  go_loopw [15] (fun v wr => OnI N k p.kd p.g p.c (setP M 43 true) xs w v wr) (fun v _ => 6 - (intOf v).toNat)
  case atStart => exact ⟨0, s6, Nat.zero_le _, rfl, HD7.out, HKN6.out, HW6.out, HSUP6.out, HV6.out, HB7.out⟩
  case round =>
    obtain ⟨i, si, hi, rfl, hdi, hkni, hwi, hsupi, hvi, hbi⟩ := hrel
    by_cases hlt : i < k
    · have ga : (i : Int) < (k : Int) := by omega
      have gb : IntKind.i64.wrap ((i : Int) + 1) = (i : Int) + 1 := IntWalk.i64_in _ (by omega)
      have gc : IntKind.i64.wrap ((i : Int) + 2) = (i : Int) + 2 := IntWalk.i64_in _ (by omega)
      have HRS := Lib.hid (restart_walk _ _ _ wr _ _ hdi hkni.ok.on v)
      have HDI := Lib.hid hdi
      have HKNI := Lib.hid hkni
      have HWI := Lib.hid hwi
      have HSUPI := Lib.hid hsupi
      have HVI := Lib.hid hvi
      have HBI := Lib.hid hbi
      have HNA : Hid (w.heap.size ≤ p.kd ∧ w.heap.size ≤ p.g) := Lib.hid ⟨hdi.newk, hdi.newA p.g rfl⟩
      clear hdi hkni hwi hsupi hvi hbi
      go_wp2_with fail
      refine HRS.out.mono ?_
      rintro r' w8 ⟨rfl, hd8, hk8⟩
      have HB8 := Lib.hid (HBI.out.trans (hk8.below (fun j hj => by have := HNA.out; have : j = p.kd := hj; omega) HBI.out.size))
      have HMT := Lib.hid (lmount hd8 HKNI.out HWI.out (by rw [HSUPI.out]; show i + 1 < 1073741824; omega))
      clear hd8 hk8
      go_wp2_with fail
      refine HMT.out.mono ?_
      rintro r' w9 ⟨p9, s9, hpd, hpg, hpc, rfl, hst9, hkn9, hsup9, hw9, hv9, hpk, hpb, hk9⟩
      have HST9 := Lib.hid hst9
      have HKN9 := Lib.hid hkn9
      have HW9 := Lib.hid hw9
      have HSUP9 : Hid (s9.sup = ⟨N, i + 2, 1⟩) := Lib.hid (by rw [hsup9, HSUPI.out]; rfl)
      have HV9 : Hid (viewS s9 43 = some zero128) := Lib.hid (by rw [hv9 43 (by omega)]; exact HVI.out)
      have HB9 := Lib.hid (HB8.out.trans (hk9.below (fun j hj => by have := HNA.out; have := HB8.out.size; rcases hj with hj | hj | hj <;> omega) HB8.out.size))
      have HPD := Lib.hid (show p9.kd = p.kd ∧ p9.g = p.g ∧ p9.c = p.c from ⟨hpd, hpg, hpc⟩)
      have hfe := sup_epoch (N : Int) ((i : Int) + 2) 1
      have hfg := sup_gens (N : Int) ((i : Int) + 2) 1
      have HSU : Hid (∀ W, Below w9.heap.size w9 W → Calls Tryz.prog 15 #[.pointer (some ⟨p9.k, 0, none⟩)] W fun e w' => e = .returned (.agg #[.int .i64 (N : Int), .int .i64 ((i : Int) + 2), .int .i64 1]) ∧ Below w9.heap.size w9 w') := Lib.hid (fun W hW => (lsuper (HST9.out.below hW) HSUP9.out).mono (fun e w' q => ⟨q.1, bstep hW q.2⟩))
      have HFR : Hid (∀ W, Below w9.heap.size w9 W → Calls Tryz.prog 12 #[.pointer (some ⟨p9.k, 0, none⟩)] W fun e w' => e = .returned (.int .i64 f) ∧ Below w9.heap.size w9 w') := Lib.hid (fun W hW => (HFREE.out p9 s9 W (HST9.out.below hW) HKN9.out (by rw [HSUP9.out])).mono (fun e w' q => ⟨q.1, bstep hW q.2⟩))
      have HND : Hid (∀ W, Below w9.heap.size w9 W → Calls Tryz.prog 16 #[.pointer (some ⟨p9.k, 0, none⟩), .int .i64 2] W fun e w' => ∃ l1 l2 l3 l4 l5 l6 l7 l8 l9 l10 : Int, e = .returned (.tuple #[.agg #[.int .i64 2, .int .i64 l1, .int .i64 l2, .int .i64 l3, .int .i64 l4, .int .i64 l5, .int .i64 l6, .int .i64 l7, .int .i64 l8, .int .i64 l9, .int .i64 l10], .int .i64 0]) ∧ Below w9.heap.size w9 w') := Lib.hid (fun W hW => by
        have := lnode (HST9.out.below hW) HKN9.out (n := 2) (by omega)
        unfold NoS.val NoS.cells at this
        rw [HX2.out] at this
        exact this.mono (fun e w' q => ⟨_, _, _, _, _, _, _, _, _, _, q.1, bstep hW q.2⟩))
      have HGT : Hid (∀ W, Below w9.heap.size w9 W → Calls Tryz.prog 17 #[.pointer (some ⟨p9.k, 0, none⟩), .int .i64 43] W (GeP zero128 W)) := Lib.hid (fun W hW => sget_walk _ p9 s9 W (HST9.out.below hW) HKN9.out.ok 43 (by omega) zero128 HV9.out)
      clear hst9 hkn9 hsup9 hw9 hv9 hpk hpb hk9 hpd hpg hpc
      go_wp2_with fail
      refine (HSU.out _ (Below.refl _ _)).mono ?_
      rintro r' w10 ⟨rfl, hb10⟩
      have HB10 := Lib.hid hb10
      clear hb10
      go_wp2_with fail
      refine (HSU.out _ HB10.out).mono ?_
      rintro r' w11 ⟨rfl, hb11⟩
      have HB11 := Lib.hid hb11
      clear hb11
      go_wp2_with fail
      refine (HFR.out _ HB11.out).mono ?_
      rintro r' w12 ⟨rfl, hb12⟩
      have HB12 := Lib.hid hb12
      clear hb12
      go_wp2_with fail
      refine (HND.out _ HB12.out).mono ?_
      rintro r' w13 ⟨l1, l2, l3, l4, l5, l6, l7, l8, l9, l10, rfl, hb13⟩
      obtain ⟨W, hW⟩ : ∃ W, W = w13.alloc (.cells #[.int .i64 2, .int .i64 l1, .int .i64 l2, .int .i64 l3, .int .i64 l4, .int .i64 l5, .int .i64 l6, .int .i64 l7, .int .i64 l8, .int .i64 l9, .int .i64 l10] 42) := ⟨_, rfl⟩
      have hnW := blk_new w13 (.cells #[.int .i64 2, .int .i64 l1, .int .i64 l2, .int .i64 l3, .int .i64 l4, .int .i64 l5, .int .i64 l6, .int .i64 l7, .int .i64 l8, .int .i64 l9, .int .i64 l10] 42)
      have hbW : Below w13.heap.size w13 W := by rw [hW]; exact (Below.refl _ w13).alloc (Nat.le_refl _) _
      rw [← hW] at hnW
      have HNW := Lib.hid hnW
      have HBW := Lib.hid (bstep hb13 hbW)
      have HWW := Lib.hid hW
      clear hb13 hnW hbW hW
      go_upto_region 18 with fail
      rw [← HWW.out]
      go_wp2_with fail
      refine (HGT.out _ HBW.out).mono ?_
      rintro r' U ⟨A, rfl, hsl, _, hbU⟩
      have c0 := (blk_cells ((Keep.of_below (S := fun _ => False) hbU).blk HNW.out id) 0).trans (show _ = some (.int .i64 2) from rfl)
      have HBU := Lib.hid (bstep HBW.out hbU)
      obtain ⟨Z, hZ⟩ : ∃ Z : Array Value, Z = (bv (List.replicate 128 0)).toArray := ⟨_, rfl⟩
      have hmk : ∀ W : World, (Instr.makeSlice 45 (.int .i64 128) (.int .i64 128)).run Tryz.prog W = .ok (.slice (some ⟨W.heap.size, 0, none⟩) 128 128) (W.alloc (.cells Z 5)) := fun W => by rw [hZ]; exact make128 W
      obtain ⟨Sz, hSz⟩ : ∃ S : ByteArray, S = ⟨zero128.toArray⟩ := ⟨_, rfl⟩
      have hcz := conv_zero
      rw [← hSz] at hcz
      have k1 := hcz A U hsl
      have k2 := hcz A U.drew (by exact hsl)
      have ka : Below U.heap.size U (U.alloc (.cells Z 5)) := (Below.refl _ U).alloc (Nat.le_refl _) _
      have k3 := hcz A (U.alloc (.cells Z 5)) (hsl.below ka)
      have k4 := hcz A (U.drew.alloc (.cells Z 5)) ((show Sl U.drew 1 (.slice A 128 128) 128 (bv zero128) from hsl).below ((Below.refl _ U.drew).alloc (Nat.le_refl _) _))
      have k7 := hcz A (U.alloc (.cells Z 5)).drew (hsl.below ka.drew)
      have k5 : ∀ W : World, (convert 45 9 (.slice (some ⟨W.heap.size, 0, none⟩) 128 128)).run Tryz.prog (W.alloc (.cells Z 5)) = .ok (.string Sz) (W.alloc (.cells Z 5)) := fun W => hcz _ _ (by
        have := (const_nb W.heap.size W zero128 (0, 0) (Nat.le_refl _)).sl
        rw [zero128_len] at this
        rw [hZ]
        exact this)
      have k6 : ∀ W : World, (convert 45 9 (.slice (some ⟨W.heap.size, 0, none⟩) 128 128)).run Tryz.prog (W.alloc (.cells Z 5)).drew = .ok (.string Sz) (W.alloc (.cells Z 5)).drew := fun W => hcz _ _ (by
        have := (const_nb W.heap.size W zero128 (0, 0) (Nat.le_refl _)).sl
        rw [zero128_len] at this
        rw [hZ]
        exact this)
      have HZ := Lib.hid hZ
      clear hbU hsl hcz ka hZ hSz
      have HR : Hid (∀ W', Below U.heap.size U W' → OnI N k p.kd p.g p.c (setP M 43 true) xs w (.int .i64 ((i : Int) + 1)) W') := Lib.hid (fun W' hW' => ⟨i + 1, s9, hlt, by rw [Int.natCast_add]; rfl, by
        have := (HST9.out.below (bstep HBU.out hW')).drv
        rw [HPD.out.1, HPD.out.2.1, HPD.out.2.2] at this
        exact this, HKN9.out, HW9.out, by rw [HSUP9.out], HV9.out, HB9.out.trans ((bstep HBU.out hW').mono HB9.out.size)⟩)
      clear HBE HBG HB2 HST2 HN4 HB4 HSUP4 HT5 HB5 HST6 HKN6 HSUP6 HW6 HV6 HB6 HMT HFREE HB7 HD7 HDI HKNI HWI HSUPI HVI HBI HNA HB8 HST9 HKN9 HW9 HSUP9 HV9 HPD hfe hfg HSU HFR HND HGT
      go_upto_region 19 with fail
      go_big_region
      all_goals
        go_wp2_with fail
        go_roundw
        case rel => exact HR.out _ (by first | exact ((Below.refl _ U).alloc (Nat.le_refl _) _).drew | exact (Below.refl _ U).drew.alloc (Nat.le_refl _) _)
        case measure => simp only [intOf]; omega
    · obtain rfl : i = k := by omega
      have ga : ¬ (i : Int) < (i : Int) := by omega
      have HBI := Lib.hid hbi
      clear hdi hkni hwi hsupi hvi hbi
      go_wp2
      go_ret
      exact ⟨rfl, HBI.out⟩
theorem u8_nat {n : Int} (h : (Lit.int .u8 n).wf = true) : ∃ m : Nat, n = (m : Int) ∧ m ≤ 255 := by
  simp only [Lit.wf, Bool.and_eq_true, decide_eq_true_eq] at h
  have h : 0 ≤ n ∧ n ≤ 255 := h
  exact ⟨n.toNat, by omega, by omega⟩
theorem once_open (x t : Int) (hx : (Lit.int .u8 x).wf = true) (ht : (Lit.int .u8 t).wf = true) (v : Value) (w : World) :
    Calls Tryz.prog 3 #[.int .u8 x, .int .u8 t, v] w fun e w' => e = .returned (.bool true) ∧ Below w.heap.size w w' := by
  obtain ⟨a, rfl, ha⟩ := u8_nat hx
  obtain ⟨b, rfl, hb⟩ := u8_nat ht
  exact once_walk a b ha hb v w
end Go.Proofs.YtgedcnnbeangcaaGreat
/- What an argument that can be read looks like, type by type: numbers, texts, bytes, structs, slices. No program in sight. -/
set_option linter.unusedSimpArgs false
set_option linter.unusedVariables false
namespace Go.Proofs.YtgedcnnbeangcaaGreat
open Go.RowKit Go.ChangeShapes Go.WideShapes Go.ChangeAt

/-- The cells cs can be read as a value of type t, and nothing in it is greater than a machine's memory. -/
def Opens (P : Program) (w : World) (t : TypeId) (cs : List Value) : Prop :=
  ∃ (H : Type) (enc : TypeId × Value → H) (fuel : Nat) (x : DataW H × List MemPlace), DataW.trod enc P w 0 (fun _ => true) true fuel t cs = some x ∧ ∀ n ∈ x.1.weights P t, n ≤ 140737488351232

theorem Opens.int {P : Program} {w : World} {t : TypeId} {cs : List Value} {k : IntKind} (ht : P.underlying t = some (.int k)) (h : Opens P w t cs) : ∃ n, cs = [.int k n] ∧ (Lit.int k n).wf = true := by
  obtain ⟨H, enc, fuel, x, hf, _⟩ := h
  obtain ⟨n, rfl, _, hw⟩ := DataW.trod_int ht hf
  exact ⟨n, rfl, hw⟩
theorem Opens.bool {P : Program} {w : World} {t : TypeId} {cs : List Value} (ht : P.underlying t = some .bool) (h : Opens P w t cs) : ∃ b, cs = [.bool b] := by
  obtain ⟨H, enc, fuel, x, hf, _⟩ := h
  obtain ⟨b, rfl, _⟩ := DataW.trod_bool ht hf
  exact ⟨b, rfl⟩
theorem Opens.string {P : Program} {w : World} {t : TypeId} {cs : List Value} (ht : P.underlying t = some .string) (h : Opens P w t cs) : ∃ s : ByteArray, cs = [.string s] ∧ s.size ≤ 140737488351232 := by
  obtain ⟨H, enc, fuel, x, hf, hw⟩ := h
  obtain ⟨s, rfl, rfl, _⟩ := DataW.trod_string ht hf
  refine ⟨s, rfl, ?_⟩
  have := hw s.data.toList.length (by simp [DataW.weights])
  rw [Array.length_toList] at this
  exact this

theorem weightsEach_mem {H : Type} {P : Program} : ∀ (fs : List Field) (xs : List (DataW H)) (i : Nat) (f : Field) (d : DataW H), fs[i]? = some f → xs[i]? = some d → ∀ n ∈ d.weights P f.type, n ∈ DataW.weightsEach P (fs.map (·.type)) xs
  | f0 :: fs, d0 :: xs, 0, f, d, hf, hd, n, hn => by
    simp only [List.getElem?_cons_zero, Option.some.injEq] at hf hd
    subst hf; subst hd
    simp only [List.map_cons, DataW.weightsEach, List.mem_append]
    exact .inl hn
  | f0 :: fs, d0 :: xs, i + 1, f, d, hf, hd, n, hn => by
    simp only [List.getElem?_cons_succ] at hf hd
    simp only [List.map_cons, DataW.weightsEach, List.mem_append]
    exact .inr (weightsEach_mem fs xs i f d hf hd n hn)
  | [], _, _, f, d, hf, _, _, _ => by simp at hf
  | _ :: _, [], _, f, d, _, hd, _, _ => by simp at hd
theorem weightsAll_mem {H : Type} {P : Program} {e : TypeId} : ∀ (xs : List (DataW H)) (d : DataW H), d ∈ xs → ∀ n ∈ d.weights P e, n ∈ DataW.weightsAll P e xs
  | [], d, hd, _, _ => by simp at hd
  | d0 :: xs, d, hd, n, hn => by
    simp only [DataW.weightsAll, List.mem_append]
    rcases List.mem_cons.1 hd with rfl | h
    · exact .inl hn
    · exact .inr (weightsAll_mem xs d h n hn)

theorem Opens.struct {P : Program} {w : World} {t : TypeId} {cs : List Value} {fs : Array Field} (ht : P.underlying t = some (.struct fs)) (h : Opens P w t cs) :
    cs.length = P.cellsOf t ∧ ∀ (i : Nat) (f : Field), fs[i]? = some f → Opens P w f.type ((cs.drop f.offset).take (P.cellsOf f.type)) := by
  obtain ⟨H, enc, fuel, x, hf, hw⟩ := h
  obtain ⟨xs, n, _, rfl, hl, hlen, hfs⟩ := DataW.trod_struct ht hf
  refine ⟨hl, fun i f hi => ?_⟩
  have hif : i < fs.size := (Array.getElem?_eq_some_iff.1 hi).1
  obtain ⟨y, hy⟩ : ∃ y, xs[i]? = some y := ⟨xs[i]'(by omega), List.getElem?_eq_getElem (by omega)⟩
  refine ⟨H, enc, n, y, (hfs i f hi).trans hy, fun m hm => hw m ?_⟩
  simp only [DataW.weights, ht]
  exact weightsEach_mem fs.toList (xs.map (·.1)) i f y.1 (by simpa using hi) (by simp [hy]) m hm

theorem flat_cells {w : World} {ad : Addr} {size : Nat} : ∀ (css : List (List Value)) (base : Nat), (∀ i c, css[i]? = some c → c.length = size ∧ ∀ j, j < size → w.cell? (ad.add (base + i * size + j)) = c[j]?) →
    ∀ k u, css.flatten[k]? = some u → w.cell? (ad.add (base + k)) = some u
  | [], _, _, k, u, hu => by simp at hu
  | c :: css, base, h, k, u, hu => by
    obtain ⟨hl, hc⟩ := h 0 c rfl
    rw [List.flatten_cons, List.getElem?_append] at hu
    split at hu
    · rename_i hk
      have := hc k (by omega)
      rw [show base + 0 * size + k = base + k by omega] at this
      rw [this]; exact hu
    · rename_i hk
      have := flat_cells css (base + size) (fun i c' hi => by
        obtain ⟨h1, h2⟩ := h (i + 1) c' (by simpa using hi)
        refine ⟨h1, fun j hj => ?_⟩
        have := h2 j hj
        rw [show base + (i + 1) * size + j = base + size + i * size + j by rw [Nat.add_mul]; omega] at this
        exact this) (k - c.length) u hu
      rw [show base + size + (k - c.length) = base + k by omega] at this
      exact this

theorem flatten_len {size : Nat} : ∀ (css : List (List Value)), (∀ c ∈ css, c.length = size) → css.flatten.length = css.length * size
  | [], _ => by simp
  | c :: css, h => by
    rw [List.flatten_cons, List.length_append, flatten_len css (fun c hc => h c (by simp [hc])), h c (by simp), List.length_cons, Nat.add_mul]
    omega

/-- A slice that came in: its elements' cells, one list each. -/
theorem Opens.slice {P : Program} {w : World} {t e : TypeId} {cs : List Value} (ht : P.underlying t = some (.slice e)) (h : Opens P w t cs) :
    ∃ (v : Value) (n : Nat) (css : List (List Value)), cs = [v] ∧ css.length = n ∧ Sl w (P.cellsOf e) v n css.flatten ∧ (∀ c ∈ css, c.length = P.cellsOf e ∧ Opens P w e c) ∧ n * P.bytesOf e ≤ 140737488351232 := by
  obtain ⟨H, enc, fuel, x, hf, hw⟩ := h
  rcases DataW.trod_slice ht hf with ⟨rfl, rfl⟩ | ⟨a, len, cap, elems, rest, n, _, rfl, rfl, hb, hl, hm, hlen, hel, _, _⟩
  · exact ⟨_, 0, [], rfl, rfl, ⟨none, 0, rfl, .inl rfl, fun _ => ⟨rfl, rfl⟩, Nat.le_refl _, by simp⟩, by simp, by simp⟩
  · have hone : ∀ i, i < len → ∃ c : List Value, c.length = P.cellsOf e ∧ (∀ j, j < P.cellsOf e → w.cell? (a.add (i * P.cellsOf e + j)) = c[j]?) ∧ Opens P w e c := by
      intro i hi
      obtain ⟨y, hy⟩ : ∃ y, elems[i]? = some y := ⟨elems[i]'(by omega), List.getElem?_eq_getElem (by omega)⟩
      have h1 := (hel i hi).trans hy
      obtain ⟨c, hc, ht'⟩ := Option.bind_eq_some_iff.1 h1
      obtain ⟨_, h2, h3⟩ := World.cells?_some hc
      refine ⟨c, h2, fun j hj => by rw [← Go.Deep.add_add]; exact h3 j hj, H, enc, n, y, ht', fun k hk => hw k ?_⟩
      simp only [DataW.weights, ht]
      refine List.mem_cons_of_mem _ (List.mem_append_left _ ?_)
      exact weightsAll_mem _ y.1 (List.mem_map.2 ⟨y, List.mem_of_getElem? hy, rfl⟩) k hk
    obtain ⟨f, hfc⟩ := Go.Deep.choose_lt (α := List Value) (n := len) (p := fun i c => c.length = P.cellsOf e ∧ (∀ j, j < P.cellsOf e → w.cell? (a.add (i * P.cellsOf e + j)) = c[j]?) ∧ Opens P w e c) hone
    have hget : ∀ i c, ((List.range len).map f)[i]? = some c → i < len ∧ f i = c := by
      intro i c hi
      rw [List.getElem?_map] at hi
      rcases Nat.lt_or_ge i len with h | h
      · simp [h] at hi; exact ⟨h, hi⟩
      · simp [List.getElem?_eq_none (show (List.range len).length ≤ i by simpa using h)] at hi
    have hall : ∀ c ∈ (List.range len).map f, c.length = P.cellsOf e ∧ Opens P w e c := by
      intro c hc
      obtain ⟨i, hi, rfl⟩ := List.mem_map.1 hc
      have := hfc i (List.mem_range.1 hi)
      exact ⟨this.1, this.2.2⟩
    refine ⟨_, len, (List.range len).map f, rfl, by simp, ⟨some a, cap, rfl, .inr ⟨a, rfl, fun k u hu => ?_⟩, (fun e => by simp at e), hl, ?_⟩, hall, ?_⟩
    · have := flat_cells (w := w) (ad := a) (size := P.cellsOf e) ((List.range len).map f) 0 (fun i c hi => by
        obtain ⟨h1, rfl⟩ := hget i c hi
        have := hfc i h1
        exact ⟨this.1, fun j hj => by rw [Nat.zero_add]; exact this.2.1 j hj⟩) k u hu
      simpa using this
    · rw [flatten_len _ (fun c hc => (hall c hc).1)]; simp
    · have := hw ((elems.length + rest.length) * P.bytesOf e) (by simp [DataW.weights, ht])
      refine Nat.le_trans (Nat.mul_le_mul_right _ ?_) this
      omega

theorem map_byte {cs : List (List Value)} (h : ∀ c ∈ cs, ∃ b : UInt8, c = [.int .u8 (b.toNat : Int)]) : ∃ d : List UInt8, cs.flatten = bv d ∧ d.length = cs.length := by
  induction cs with
  | nil => exact ⟨[], rfl, rfl⟩
  | cons c cs ih =>
    obtain ⟨b, rfl⟩ := h c (by simp)
    obtain ⟨d, hd, hl⟩ := ih (fun c hc => h c (by simp [hc]))
    exact ⟨b :: d, by simp [bv] at hd ⊢; exact hd, by simp [hl]⟩
/-- A slice of bytes that came in. -/
theorem Opens.bytes {P : Program} {w : World} {t e : TypeId} {cs : List Value} (ht : P.underlying t = some (.slice e)) (he : P.underlying e = some (.int .u8)) (hc : P.cellsOf e = 1) (hb : P.bytesOf e = 1) (h : Opens P w t cs) :
    ∃ A c d, cs = [.slice A d.length c] ∧ Sl w 1 (.slice A d.length c) d.length (bv d) ∧ d.length ≤ 140737488351232 := by
  obtain ⟨v, n, css, rfl, hn, hs, hall, hr⟩ := h.slice ht
  rw [hc] at hs hall
  rw [hb] at hr
  obtain ⟨d, hd, hl⟩ := map_byte (cs := css) (fun c hcc => by
    obtain ⟨k, rfl, hw⟩ := (hall c hcc).2.int he
    have : 0 ≤ k ∧ k < 256 := by
      simp only [Lit.wf, IntKind.min, IntKind.max, IntKind.signed, IntKind.bits, Bool.and_eq_true, decide_eq_true_eq] at hw
      simp at hw
      omega
    exact ⟨UInt8.ofNat k.toNat, by simp; omega⟩)
  rw [hd] at hs
  have hs' := hs
  obtain ⟨A, c, rfl, _⟩ := hs'
  obtain rfl : n = d.length := by omega
  exact ⟨A, c, d, rfl, hs, by omega⟩
/-- The first argument's reading out of all arguments'. -/
theorem Opens.arg {H : Type} {enc : TypeId × Value → H} {P : Program} {w : World} {t : TypeId} {v : Value} {d : DataW H} {ps : List MemPlace} {ts : List TypeId} {ds : List (DataW H)} (h : DataW.Trod enc P w 0 (fun _ => true) true t v d ps)
    (hall : (DataW.weightsEach P ts ds).all (· ≤ reachBytes) = true) {j : Nat} (h1 : ts[j]? = some t) (h2 : ds[j]? = some d) : Opens P w t v.cells.toList := by
  obtain ⟨fuel, hf⟩ := h
  refine ⟨H, enc, fuel, (d, ps), hf, fun n hn => ?_⟩
  have := List.all_eq_true.1 hall n (DataW.weights_mem_each h1 h2 n hn)
  exact of_decide_eq_true this
end Go.Proofs.YtgedcnnbeangcaaGreat
