/- slices.DeleteFunc at leases: for every function value. -/
import Derived.Test.YtmfgkddndlleoaaLeaseD1
import Derived.Shelf.Abstract
import Derived.Deep.DeepCutAuto
set_option linter.unusedSimpArgs false
set_option linter.unusedVariables false
namespace Go.Proofs.Ytmfgkddndlleoaa
open Go.RowKit

theorem eltL : Elt Try.prog 26 39 5 40 := Elt.mk' (z := .agg #[.int .i64 0, .int .i64 0, .int .i64 0, .int .i64 0, .int .i64 0]) (by kernel_rfl) (by kernel_rfl) (by kernel_rfl) (by simp [Value.cells, Value.oneCell']) (by decide)
def LDel (p : LE → Bool) (l : List LE) (b c : Nat) (cur0 : Array Value) (I : (Nat → Prop) → List LE → World → Prop) (k jv : Value) (wr : World) : Prop :=
  ∃ (j : Nat) (cur : Array Value), j ≤ l.length ∧ jv = .int .i64 (j : Int) ∧ k = .int .i64 (((l.take j).filter (fun a => !p a)).length : Int) ∧ wr.heap[b]? = some (.cells cur 39 (0, 0)) ∧ DelRow p l c cur0 j cur ∧ ∃ M, I M (l.take j) wr
set_option maxRecDepth 100000 in
set_option maxHeartbeats 2000000 in
theorem delL (b c : Nat) (l : List LE) (w : World) (g : Nat) (lb : Array Value) (p : LE → Bool) (eg : ∀ args w, (callFunc g args).run Try.prog w = .ok (.enter g args) w)
    (I : (Nat → Prop) → List LE → World → Prop) (M0 : Nat → Prop) (h0 : I M0 [] w) (hcall : Closes Try.prog g lb p l I)
    (hrow : w.ownsRow 0 39 5 (.slice (some ⟨b, 0, none⟩) l.length c) l.length (flat l))
    (hlt : ∀ M done W, I M done W → ∀ k, M k → k < W.heap.size ∧ k ≠ b)
    (hst : ∀ M done W W', I M done W → Keep (fun k => k = b) W W' → I M done W') (hn : l.length ≤ 140737488351232) :
    Calls Try.prog 42 #[.slice (some ⟨b, 0, none⟩) l.length c, .func (.func g) #[] lb] w fun e w' =>
      e = .returned (.slice (some ⟨b, 0, none⟩) (l.filter (fun a => !p a)).length c) ∧ w'.ownsRow 0 39 5 (.slice (some ⟨b, 0, none⟩) (l.filter (fun a => !p a)).length c) (l.filter (fun a => !p a)).length (flat (l.filter (fun a => !p a))) ∧ ∃ M, I M l w' := by
  obtain ⟨cur0, hb0, q1, q2, q3, q4⟩ := own_row hrow
  have hbl := blk_lt hb0
  have hi := idxL (some ⟨b, 0, none⟩) c l w g lb p eg (fun M done W => I M done W ∧ W.heap[b]? = w.heap[b]?) M0 ⟨h0, rfl⟩ (closes_keep hbl hcall hlt) (fun M done W h => Sl.of_own (own_same hrow h.2)) (by omega)
  have HI := Lib.hid hi
  have HC := Lib.hid hcall
  have HL := Lib.hid hlt
  have HS := Lib.hid hst
  have HR := Lib.hid hrow
  clear hi hcall hlt hst hrow
  rcases first_hit p l with hno | ⟨k, x, hk, hp, hno⟩
  · have e1 := idxP_miss hno
    have e2 := seenP_miss hno
    have e3 : l.filter (fun a => !p a) = l := List.filter_eq_self.2 fun a ha => by
      obtain ⟨j, hj⟩ := List.mem_iff_getElem?.1 ha
      simp [hno j a hj]
    rw [e3]
    have HN := Lib.hid hno
    have E1 := Lib.hid e1
    have E2 := Lib.hid e2
    clear hno e1 e2 e3
    go_enter Try.func42, Try.ntmps42
    go_wp2_with fail
    refine HI.out.mono ?_
    rintro e w1 ⟨rfl, M, hI, hb⟩
    rw [E1.out]
    rw [E2.out] at hI
    go_wp2
    go_ret
    exact ⟨rfl, own_same HR.out hb, M, hI⟩
  · have e1 := idxP_hit hk hp hno
    have e2 := seenP_hit hk hp hno
    have hkl : k < l.length := (List.getElem?_eq_some_iff.1 hk).1
    have E1 := Lib.hid e1
    have E2 := Lib.hid e2
    have HK := Lib.hid hk
    have HP := Lib.hid hp
    have HN := Lib.hid hno
    have c0 : ((k : Int) == -1) = false := beq_eq_false_iff_ne.2 (by omega)
    have c0' : ((k : Int) == Int.negSucc 0) = false := beq_eq_false_iff_ne.2 (by intro h; cases h)
    clear e1 e2 hk hp hno
    have HB0 := Lib.hid hb0
    have Q3 := Lib.hid q3
    have Q4 := Lib.hid q4
    clear hb0 q3 q4 h0
    go_enter Try.func42, Try.ntmps42
    go_wp2_with fail
    refine HI.out.mono ?_
    rintro e w1 ⟨rfl, M, hI, hb⟩
    rw [E1.out]
    have HI1 := Lib.hid hI
    have HB1 := Lib.hid (hb.trans HB0.out)
    clear hI hb
    go_wp2
    try simp only [c0, c0']
    go_loopw [5, 6] (fun i j wr => LDel p l b c cur0 I i j wr) (fun _ j _ => l.length - (intOf j).toNat)
    case atStart => exact ⟨k + 1, cur0, by omega, by go_num, by rw [filter_first HK.out HP.out HN.out]; simp <;> omega, HB1.out, ⟨Q3.out, by rw [filter_first HK.out HP.out HN.out, ← flat_take, ← Q4.out, List.take_take]; congr 1; simp <;> omega, rfl⟩, M, by rw [take_snoc HK.out, ← E2.out]; exact HI1.out⟩
    case round =>
      obtain ⟨j, cur, hj, rfl, rfl, hbk, hdr, M, hI⟩ := hrel
      have HD := Lib.hid hdr
      have HI2 := Lib.hid hI
      have HBK := Lib.hid hbk
      clear hdr hI hbk
      obtain ⟨kk, hkk⟩ : ∃ kk, ((l.take j).filter (fun a => !p a)).length = kk := ⟨_, rfl⟩
      have hkj : kk ≤ j := by rw [← hkk]; exact Nat.le_trans (List.length_filter_le _ _) (by simp; omega)
      rw [hkk]
      have HKK := Lib.hid hkk
      clear hkk
      by_cases hjl : j < l.length
      · obtain ⟨y, hy⟩ : ∃ y, l[j]? = some y := ⟨l[j], List.getElem?_eq_getElem hjl⟩
        obtain ⟨r0, r1, r2, r3, r4⟩ := HD.out.at_ HBK.out Q3.out Q4.out hjl hy
        have b1 : (0 : Int) ≤ (j : Int) := by omega
        have b2 : (j : Int) < (l.length : Int) := by omega
        have hc := HC.out
        clear hc
        have HY := Lib.hid hy
        have hbw := blk_lt HBK.out
        clear hy
        have hI1 : I M (l.take j) (wr.alloc (.cells #[.int .i64 y.n, .int .i64 y.g, .int .i64 y.s, .int .i64 y.m, .int .i64 y.x] 39)) := HS.out _ _ _ _ HI2.out ((Keep.refl (fun k => k = b) wr).alloc _)
        have hc := HC.out _ M (l.take j) y (by rw [← take_snoc HY.out]; exact List.take_prefix _ _) hI1
        have hvb : ¬ M wr.heap.size := fun h => by have := (HL.out _ _ _ HI2.out _ h).1; omega
        have hMb : ¬ M b := fun h => (HL.out _ _ _ HI2.out _ h).2 rfl
        have hM := Lib.hid (And.intro hvb hMb)
        have HCC := Lib.hid hc
        have n0 := blk_cells (blk_new wr (.cells #[.int .i64 y.n, .int .i64 y.g, .int .i64 y.s, .int .i64 y.m, .int .i64 y.x] 39))
        clear hc hI1 hvb hMb
        go_upto_region 8 with fail
        go_wp2_with fail
        refine HCC.out.mono ?_
        rintro e w2 ⟨rfl, ⟨M2, hM2⟩, hk⟩
        have hbk2 := hk.blk (blk_old HBK.out _) hM.out.2
        have hv2 := hk.blk (blk_new wr (.cells #[.int .i64 y.n, .int .i64 y.g, .int .i64 y.s, .int .i64 y.m, .int .i64 y.x] 39)) hM.out.1
        have HM2 := Lib.hid hM2
        have HBK2 := Lib.hid hbk2
        have HK2 := Lib.hid hk
        clear n0 hk hM2
        cases hq : p y with
        | true =>
          go_wp2
          go_roundw
          case rel =>
           exact ⟨j + 1, cur, by omega, by go_num, by rw [DelRow.skip_len HY.out hq, HKK.out], HBK2.out, HD.out.skip HY.out hq, M2, by rw [take_snoc HY.out]; exact HM2.out⟩
          case measure => simp [intOf]; omega
        | false =>
          have n2 := blk_cells hv2
          have cb := blk_cells hbk2
          have fb := blk_frees hbk2
          have cs := HD.out.size
          obtain ⟨z0, hz0⟩ := get_some (a := cur) (i := kk * 5) (by omega)
          obtain ⟨z1, hz1⟩ := get_some (a := cur) (i := kk * 5 + 1) (by omega)
          obtain ⟨z2, hz2⟩ := get_some (a := cur) (i := kk * 5 + 2) (by omega)
          obtain ⟨z3, hz3⟩ := get_some (a := cur) (i := kk * 5 + 3) (by omega)
          obtain ⟨z4, hz4⟩ := get_some (a := cur) (i := kk * 5 + 4) (by omega)
          have d0 := (cb (kk * 5)).trans hz0
          have d1 := (cb (kk * 5 + 1)).trans hz1
          have d2 := (cb (kk * 5 + 2)).trans hz2
          have d3 := (cb (kk * 5 + 3)).trans hz3
          have d4 := (cb (kk * 5 + 4)).trans hz4
          have b3 : (0 : Int) ≤ (kk : Int) := by omega
          have b4 : (kk : Int) < (l.length : Int) := by omega
          clear cb hbk2 hv2
          go_wp2
          go_roundw
          case rel =>
            have hs5 := set5_blk HBK2.out (kk * 5) (.int .i64 y.n) (.int .i64 y.g) (.int .i64 y.s) (.int .i64 y.m) (.int .i64 y.x)
            exact ⟨j + 1, _, by omega, by go_num, by rw [DelRow.keep_len HY.out hq, HKK.out]; go_num, hs5.1, HD.out.keep HY.out hq HKK.out hjl q1, M2, by rw [take_snoc HY.out]; exact HS.out _ _ _ _ HM2.out hs5.2⟩
          case measure => simp [intOf]; omega
      · obtain rfl : j = l.length := by omega
        have hkl2 : kk ≤ l.length := hkj
        have b3 : (0 : Int) ≤ (kk : Int) := by omega
        have b4 : (kk : Int) ≤ (l.length : Int) := by omega
        have b5 : (l.length : Int) ≤ (c : Int) := by omega
        have hkc : kk < l.length := by rw [← HKK.out, List.take_length]; exact filter_lt HK.out HP.out
        have b6 : (kk : Int) < (c : Int) := by omega
        have b7 : ¬ c = kk := by omega
        obtain ⟨zs, hz, hrun⟩ := run_clear_row (P := Try.prog) wr eltL 0 (off := kk * 5) (m := l.length - kk) (c := c - kk) HBK.out (by rw [HD.out.size]; omega)
        have HRUN := Lib.hid hrun
        clear hrun
        go_wp2_with fail
        rw [HRUN.out]
        have hfin := HD.out.fin HKK.out HBK.out hkj q1 q2 hz
        have HF := Lib.hid hfin
        have HI3 := Lib.hid (HS.out _ _ _ _ HI2.out (keep_setRow wr b (cur.toList.take (kk * 5) ++ zs ++ cur.toList.drop (kk * 5 + zs.length)).toArray))
        have hfk : (l.filter (fun a => !p a)).length = kk := by rw [← HKK.out, List.take_length]
        have HFK := Lib.hid hfk
        clear hfin hz hfk
        go_wp2
        go_ret
        rw [HFK.out]
        refine ⟨rfl, by simpa only [List.append_assoc] using HF.out, M, ?_⟩
        have := HI3.out
        simpa only [List.append_assoc, List.take_length] using this
theorem delL_nil (w : World) (g : Nat) (lb : Array Value) (eg : ∀ args w, (callFunc g args).run Try.prog w = .ok (.enter g args) w) :
    Calls Try.prog 42 #[.slice none 0 0, .func (.func g) #[] lb] w fun e w' => e = .returned (.slice none 0 0) ∧ w' = w := by
  have hi := idxL none 0 [] w g lb (fun _ => false) eg (fun _ _ W => W = w) (fun _ => False) rfl (by intro W M done x hp _; have := hp.length_le; simp at this) (fun M done W _ => ⟨none, 0, rfl, .inl rfl, fun _ => ⟨rfl, rfl⟩, Nat.le_refl _, rfl⟩) (by simp)
  have HI := Lib.hid hi
  clear hi
  go_enter Try.func42, Try.ntmps42
  go_wp2_with fail
  refine HI.out.mono ?_
  rintro e w1 ⟨rfl, M, rfl⟩
  rw [show idxP (fun _ => false) [] = -1 from rfl]
  go_wp2
  go_ret
  exact ⟨rfl, rfl⟩
end Go.Proofs.Ytmfgkddndlleoaa
