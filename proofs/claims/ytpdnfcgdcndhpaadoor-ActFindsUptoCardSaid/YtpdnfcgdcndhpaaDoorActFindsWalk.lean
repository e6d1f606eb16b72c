/- ActFinds: the walk. -/
import Derived.Test.YtpdnfcgdcndhpaaDoorActReadsWalk
import Derived.Test.YtpdnfcgdcndhpaaDoorActR
import Derived.Deep.DeepCutAuto
import Derived.Deep.CutBlock
set_option linter.unusedSimpArgs false
set_option linter.unusedVariables false
namespace Go.Proofs.YtpdnfcgdcndhpaaDoor
open Go.RowKit

attribute [local go_sem ↓] Go.wp_at_zero Go.wp_at_succ
theorem ba_ext (s : Str) (i k : Nat) : (⟨s.toArray⟩ : ByteArray).extract i k = ⟨((s.drop i).take (k - i)).toArray⟩ := by
  apply ByteArray.ext
  simp
def FiInv (s : Str) (fin : List ActP × Int × Int) (w0 : World) (v6 v7 : Value) (wr : World) : Prop := ∃ (i : Nat) (out : List ActP) (f : Nat), v6 = .int .i64 (out.length : Int) ∧ v7 = .int .i64 (i : Int) ∧ i ≤ s.length + 1 ∧ out.length ≤ i ∧ (s.drop i).length < f ∧ actsGo f (s.drop i) out (out.length : Int) = fin ∧ Below w0.heap.size w0 wr
def FiIn (s : Str) (i : Nat) (w0 : World) (v8 : Value) (wr : World) : Prop := ∃ k : Nat, i ≤ k ∧ k ≤ s.length ∧ v8 = .int .i64 (k : Int) ∧ wr = w0 ∧ ∀ q, i ≤ q → q < k → s[q]? ≠ some 10
theorem fi_line {s : Str} {i k : Nat} (hik : i ≤ k) (hk : k ≤ s.length) (hq : ∀ q, i ≤ q → q < k → s[q]? ≠ some 10) (he : k = s.length ∨ s[k]? = some 10) :
    (Lib.cut (s.drop i) [10]).1 = (s.drop i).take (k - i) ∧ (Lib.cut (s.drop i) [10]).2.1 = s.drop (k + 1) := by
  have h := cut_at (t := s.drop i) (k := k - i) (by rw [List.length_drop]; omega) (fun c hc e => by
    subst e
    obtain ⟨j, hj⟩ := List.mem_iff_getElem?.1 hc
    rw [List.getElem?_take] at hj
    split at hj
    · rw [List.getElem?_drop] at hj
      exact hq (i + j) (by omega) (by omega) hj
    · cases hj) (by
    rcases he with rfl | he
    · left; rw [List.length_drop]
    · right; rw [List.getElem?_drop, show i + (k - i) = k by omega]; exact he)
  rw [h.1, h.2, List.drop_drop, show i + (k - i + 1) = k + 1 by omega]
  exact ⟨rfl, rfl⟩
set_option maxRecDepth 100000 in
set_option maxHeartbeats 8000000 in
theorem lawActFinds.walk {B : Nat} (s : Str) (w : World) (hs : s.length ≤ 2000000) (hw : WV B w) :
    Calls Tryd.prog 5 #[.string ⟨s.toArray⟩] w fun e w' => e = .returned (.bool true) ∧ Below w.heap.size w w' := by
  have HV := Lib.hid hw
  have HAC := Lib.hid (acts1_walk s w hw (by omega))
  obtain ⟨fin, hfin⟩ : ∃ fin, fin = actsP s := ⟨_, rfl⟩
  rw [← hfin] at HAC
  have HFIN := Lib.hid hfin
  have hsz := ba_size s
  clear hw hfin
  go_enter Tryd.func5, Tryd.ntmps5
  go_wp2_with fail
  refine HAC.out.mono ?_
  rintro e W1 ⟨v, rfl, ⟨L, A, c, rfl, hs1, he1, ho1⟩, hb1⟩
  obtain ⟨fl, fa, fe⟩ := fin
  simp only at he1 ⊢
  have HS1 := Lib.hid hs1
  have HE1 := Lib.hid he1
  have HO1 := Lib.hid ho1
  have HLL := Lib.hid (show L.length = fl.length from by rw [← he1, List.length_map])
  have B1 := Lib.hid hb1
  clear hs1 he1 ho1 hb1 HAC
  by_cases hbig : 65536 < s.length
  · have hF : (fl, fa, fe) = (([] : List ActP), (0 : Int), (9 : Int)) := by rw [HFIN.out, actsP, if_pos hbig]
    have r1 : (fe == 9) = true := by injection hF with _ h; injection h with _ h; simpa using h
    have r2 : (fa == 0) = true := by injection hF with _ h; injection h with h _; simpa using h
    have r3 : ((L.length : Int) == 0) = true := by rw [HLL.out]; injection hF with h _; rw [h]; rfl
    have g1 : (65536 : Int) < (s.length : Int) := by omega
    clear hF hbig
    have HAW := Lib.hid (awake_walk W1 (HV.out.below B1.out))
    go_wp2_with fail
    refine HAW.out.mono ?_
    rintro e W2 ⟨rfl, hbe⟩
    have BE := Lib.hid (B1.out.trans (hbe.mono B1.out.size))
    clear hbe
    go_wp2
    go_ret
    exact ⟨rfl, BE.out⟩
  have g1 : ¬ (65536 : Int) < (s.length : Int) := by omega
  have hF0 : actsGo (s.length + 1) (s.drop 0) [] (([] : List ActP).length : Int) = (fl, fa, fe) := by rw [HFIN.out, actsP, if_neg hbig, List.drop_zero]; rfl
  have HST := Lib.hid hF0
  clear hF0 hbig
  go_upto_region 5 with fail
  clear g1
  go_loopw [6, 7] (fun v6 v7 wr => FiInv s (fl, fa, fe) W1 v6 v7 wr) (fun _ v _ => s.length + 1 - (intOf v).toNat)
  case atStart => exact ⟨0, [], s.length + 1, rfl, rfl, by omega, Nat.zero_le _, by simp, HST.out, Below.refl _ _⟩
  case round =>
    obtain ⟨i, out, f, rfl, rfl, hi, hoi, hf, hgo, hb⟩ := hrel
    have HA1W := Lib.hid hb
    have HB := Lib.hid (B1.out.trans (hb.mono B1.out.size))
    have HG := Lib.hid hgo
    clear hb hgo
    by_cases hlt : i < s.length
    · have i1 : (i : Int) < (s.length : Int) := by omega
      go_upto_region 7 with fail
      go_loopw [8] (fun v8 wx => FiIn s i wr v8 wx) (fun v _ => s.length - (intOf v).toNat)
      case atStart => exact ⟨i, Nat.le_refl _, by omega, rfl, rfl, fun q h1 h2 => by omega⟩
      case round =>
        obtain ⟨k, hik, hks, rfl, rfl, hnq⟩ := hrel
        have HNQ := Lib.hid hnq
        clear hnq
        go_upto_region 7 with fail
        go_cut [48] (fun v wx => ∃ q : Bool, v = .bool q ∧ wx = wr ∧ (q = true → k < s.length ∧ s[k]? ≠ some 10) ∧ (q = false → k = s.length ∨ s[k]? = some 10))
        case first =>
          by_cases hk : k < s.length
          · obtain ⟨ch, hch⟩ : ∃ ch, s[k]? = some ch := ⟨s[k], List.getElem?_eq_getElem hk⟩
            have k0 : (0 : Int) ≤ (k : Int) := by omega
            have k1 : (k : Int) < (s.length : Int) := by omega
            have hx2 : (⟨s.toArray⟩ : ByteArray)[k]'(show k < s.length from hk) = ch := (List.getElem?_eq_some_iff.1 hch).2
            by_cases hc10 : ch = 10
            · have e1 : ((ch.toNat : Int) == 10) = true := by subst hc10; rfl
              have e2 : ((ch.toNat : Int) != 10) = false := by subst hc10; rfl
              have HC := Lib.hid (show s[k]? = some 10 by rw [hch, hc10])
              clear hch hc10
              go_wp2
              go_meet
              case rel => exact ⟨false, rfl, rfl, (fun h => by cases h), fun _ => .inr HC.out⟩
            · have e0 : ch.toNat ≠ 10 := fun e => hc10 (UInt8.toNat_inj.1 e)
              have e1 : ((ch.toNat : Int) == 10) = false := beq_eq_false_iff_ne.2 (by omega)
              have e2 : ((ch.toNat : Int) != 10) = true := by rw [bne, e1]; rfl
              have HC := Lib.hid (show s[k]? ≠ some 10 by rw [hch]; exact fun e => hc10 (Option.some.inj e))
              clear hch hc10 e0
              go_wp2
              go_meet
              case rel => exact ⟨true, rfl, rfl, fun _ => ⟨hk, HC.out⟩, (fun h => by cases h)⟩
          · have k1 : ¬ (k : Int) < (s.length : Int) := by omega
            go_wp2
            go_meet
            case rel => exact ⟨false, rfl, rfl, (fun h => by cases h), fun _ => .inl (by omega)⟩
        case rest =>
          obtain ⟨q, rfl, rfl, hqt, hqf⟩ := hcut
          cases q with
          | true =>
            obtain ⟨hk, hk2⟩ := hqt rfl
            have HK2 := Lib.hid hk2
            clear hqt hqf hk2
            go_wp2
            go_roundw
            case rel => exact ⟨k + 1, by omega, by omega, by go_num, rfl, fun q h1 h2 => by
              rcases Nat.lt_or_ge q k with h | h
              · exact HNQ.out q h1 h
              · obtain rfl : q = k := by omega
                exact HK2.out⟩
            case measure => simp [intOf]; omega
          | false =>
            obtain ⟨hc1, hc2⟩ := fi_line hik hks HNQ.out (hqf rfl)
            obtain ⟨ln, hln⟩ : ∃ ln, ln = (s.drop i).take (k - i) := ⟨_, rfl⟩
            have hll : ln.length ≤ 2000000 := by
              rw [hln]
              have := List.length_take_le (k - i) (s.drop i)
              have := List.length_drop (i := i) (l := s)
              omega
            have hx1 : (⟨s.toArray⟩ : ByteArray).extract i k = ⟨ln.toArray⟩ := by rw [hln]; exact ba_ext s i k
            have hne : s.drop i ≠ [] := fun e => by have := congrArg List.length e; simp at this; omega
            obtain ⟨g, rfl⟩ : ∃ g, f = g + 1 := ⟨f - 1, by omega⟩
            have HGO := Lib.hid (show (fl, fa, fe) = match actOf ln with | none => ([], (out.length : Int) + 1, 5) | some x => actsGo g (s.drop (k + 1)) (out ++ [x]) ((out.length : Int) + 1) by rw [← HG.out, actsGo, if_neg hne, hc1, hc2, hln]; exact rfl)
            have hdl : (s.drop (k + 1)).length < g := by
              rw [List.length_drop] at hf ⊢
              omega
            have j0 : (0 : Int) ≤ (i : Int) := by omega
            have j1 : (i : Int) ≤ (k : Int) := by omega
            have j2 : (k : Int) ≤ (s.length : Int) := by omega
            have HA1 := Lib.hid (act1_walk ln wc (HV.out.below HB.out) (by omega))
            clear hqt hqf hc1 hc2 hln hne
            go_wp2_with fail
            refine HA1.out.mono ?_
            rintro e U1 ⟨v, rfl, hIs, hu1⟩
            have BU1 := Lib.hid (HB.out.trans (hu1.mono HB.out.size))
            have AU1 := Lib.hid (HA1W.out.trans (hu1.mono HA1W.out.size))
            clear hu1
            cases hq : actOf ln with
            | none =>
              have hF : (fl, fa, fe) = (([] : List ActP), ((out.length : Int) + 1), (5 : Int)) := by rw [HGO.out, hq]
              have r1 : (fe == 5) = true := by injection hF with _ h; injection h with _ h; simpa using h
              have r2 : (fa == (out.length : Int) + 1) = true := by injection hF with _ h; injection h with h _; simpa using h
              have r3 : ((L.length : Int) == 0) = true := by rw [HLL.out]; injection hF with h _; rw [h]; rfl
              rw [show actE ln = 5 by unfold actE; rw [hq]; rfl]
              rw [show actY ln = ActP.new 0 by unfold actY; rw [hq]; rfl] at hIs
              obtain ⟨dv2, kv2, rfl, ⟨EA, ec, rfl, _, _⟩, ⟨MA, mc, rfl, _, _⟩⟩ := hIs
              unfold ActP.cells ActP.new CallP.new
              simp only [List.length_nil]
              clear hF hq hx1
              go_upto_region 12 with fail
              obtain ⟨U2, hU2⟩ : ∃ U2, U2 = U1.alloc (.cells #[.int .i64 0, .int .i64 0, .int .i64 0, .int .i64 0, .string ⟨#[]⟩, .string ⟨#[]⟩, .int .i64 0, .int .i64 0, .int .i64 0, .slice EA 0 ec, .slice MA 0 mc] 27) := ⟨_, rfl⟩
              rw [← hU2]
              have hbU2 : Below U1.heap.size U1 U2 := by rw [hU2]; exact (Below.refl _ U1).alloc (Nat.le_refl _) _
              have hxU2 : U2.heap[U1.heap.size]? = some (.cells #[.int .i64 0, .int .i64 0, .int .i64 0, .int .i64 0, .string ⟨#[]⟩, .string ⟨#[]⟩, .int .i64 0, .int .i64 0, .int .i64 0, .slice EA 0 ec, .slice MA 0 mc] 27 (0, 0)) := by rw [hU2]; exact blk_new U1 _
              have BU2 := Lib.hid (BU1.out.trans (hbU2.mono BU1.out.size))
              have XU2 := Lib.hid hxU2
              have qU2 := blk_cells hxU2
              clear hU2 hbU2 hxU2 qU2
              have HAW := Lib.hid (awake_walk U2 (HV.out.below BU2.out))
              go_wp2_with fail
              refine HAW.out.mono ?_
              rintro e U3 ⟨rfl, hbe⟩
              have BE := Lib.hid (BU2.out.trans (hbe.mono BU2.out.size))
              clear hbe
              go_wp2
              go_ret
              exact ⟨rfl, BE.out⟩
            | some x =>
              have hG2 : (fl, fa, fe) = actsGo g (s.drop (k + 1)) (out ++ [x]) ((out.length : Int) + 1) := by rw [HGO.out, hq]
              have HG2 := Lib.hid hG2
              have hxk := (actY_ok (s := ln) (by omega)).1
              rw [show actE ln = 0 by unfold actE; rw [hq]; rfl]
              rw [show actY ln = x by unfold actY; rw [hq]; rfl] at hIs hxk
              have hxl := hxk.len
              obtain ⟨dv2, kv2, rfl, ⟨EA, ec, rfl, hes, _⟩, ⟨MA, mc, rfl, hms, _⟩⟩ := hIs
              have HES := Lib.hid hes
              have HMS := Lib.hid hms
              clear hes hms hq hxk hG2 hx1
              unfold ActP.cells
              go_upto_region 13 with fail
              obtain ⟨U2, hU2⟩ : ∃ U2, U2 = U1.alloc (.cells #[.int .i64 x.kind, .int .i64 x.a, .int .i64 x.n, .int .i64 x.call.kind, .string ⟨x.call.path.toArray⟩, .string ⟨x.call.other.toArray⟩, .int .i64 x.call.file, .int .i64 x.call.at_, .int .i64 x.call.size, .slice EA x.call.data.length ec, .slice MA x.keep.length mc] 27) := ⟨_, rfl⟩
              rw [← hU2]
              have hbU2 : Below U1.heap.size U1 U2 := by rw [hU2]; exact (Below.refl _ U1).alloc (Nat.le_refl _) _
              have hxU2 : U2.heap[U1.heap.size]? = some (.cells #[.int .i64 x.kind, .int .i64 x.a, .int .i64 x.n, .int .i64 x.call.kind, .string ⟨x.call.path.toArray⟩, .string ⟨x.call.other.toArray⟩, .int .i64 x.call.file, .int .i64 x.call.at_, .int .i64 x.call.size, .slice EA x.call.data.length ec, .slice MA x.keep.length mc] 27 (0, 0)) := by rw [hU2]; exact blk_new U1 _
              have BU2 := Lib.hid (BU1.out.trans (hbU2.mono BU1.out.size))
              have XU2 := Lib.hid hxU2
              have qU2 := blk_cells hxU2
              have HXU2 := Lib.hid hxU2
              have HBU := Lib.hid hbU2
              have AU2 := Lib.hid (AU1.out.trans (hbU2.mono AU1.out.size))
              have HNEXT : Hid (∀ W, Below W1.heap.size W1 W → FiInv s (fl, fa, fe) W1 (.int .i64 ((out.length : Int) + 1)) (.int .i64 ((k : Int) + 1)) W) := Lib.hid (fun W hW => ⟨k + 1, out ++ [x], g, by rw [List.length_append, List.length_singleton]; go_num, by go_num, by omega, by rw [List.length_append, List.length_singleton]; omega, hdl, by rw [HG2.out, List.length_append, List.length_singleton]; rfl, hW⟩)
              clear hU2 hbU2 hxU2 qU2
              by_cases hfe : fe = 0
              · have e1 : (fe == 0) = true := by simpa using hfe
                obtain ⟨r, hr⟩ := actsGo_pre g (s.drop (k + 1)) (out ++ [x]) ((out.length : Int) + 1) (by rw [← HG2.out]; exact hfe)
                rw [← HG2.out] at hr
                have hr2 : L.map Prod.fst = out ++ x :: r := by rw [HE1.out, show fl = (fl, fa, fe).1 from rfl, hr]; simp
                have hlen : out.length < L.length := by have := congrArg List.length hr2; simp at this; omega
                obtain ⟨p, hp⟩ : ∃ p, L[out.length]? = some p := ⟨L[out.length], List.getElem?_eq_getElem hlen⟩
                have hpx : p.1 = x := by
                  have := congrArg (fun l => l[out.length]?) hr2
                  simpa [List.getElem?_map, hp] using this
                obtain ⟨b, o, rfl, _, hrow⟩ := act_row (HS1.out.below AU2.out) hp
                obtain ⟨hd2, hk2⟩ := HO1.out p (List.mem_of_getElem? hp)
                obtain ⟨y, dw, kw⟩ := p
                simp only at hd2 hk2 hpx
                subst hpx
                obtain ⟨FA, fc, rfl, hfs, _⟩ := hd2
                obtain ⟨GA, gc, rfl, hgs, _⟩ := hk2
                have n1 : ¬ ((L.length : Nat) : Int) < (out.length : Int) + 1 := by omega
                have n2 : (0 : Int) ≤ (out.length : Int) := by omega
                have n3 : (out.length : Int) < (L.length : Int) := by omega
                have n4 : IntKind.i64.wrap ((out.length : Int) + 1 - 1) = (out.length : Int) := (congrArg IntKind.i64.wrap (by omega)).trans (IntWalk.i64_in _ (by omega))
                have n5 : IntKind.i64.wrap (out.length : Int) = (out.length : Int) := IntWalk.i64_in _ (by omega)
                have hEQ := fun W (h : Below U2.heap.size U2 W) => lequal_walk y y (.slice EA y.call.data.length ec) (.slice MA y.keep.length mc) (.slice FA y.call.data.length fc) (.slice GA y.keep.length gc) W ⟨EA, ec, rfl, (HES.out.below HBU.out).below h⟩ ⟨FA, fc, rfl, (hfs.below AU2.out).below h⟩ ⟨MA, mc, rfl, (HMS.out.below HBU.out).below h⟩ ⟨GA, gc, rfl, (hgs.below AU2.out).below h⟩ (by omega) (by omega)
                rw [decide_eq_true rfl] at hEQ
                unfold ActP.cells at hEQ
                have HEQ := Lib.hid hEQ
                have HS := Lib.hid (fun (w' : World) (k : Below U2.heap.size U2 w') => (show w'.cell? ⟨U1.heap.size, 0, none⟩ = some (.int .i64 y.kind) ∧ w'.cell? ⟨U1.heap.size, 1, none⟩ = some (.int .i64 y.a) ∧ w'.cell? ⟨U1.heap.size, 2, none⟩ = some (.int .i64 y.n) ∧ w'.cell? ⟨U1.heap.size, 3, none⟩ = some (.int .i64 y.call.kind) ∧ w'.cell? ⟨U1.heap.size, 4, none⟩ = some (.string ⟨y.call.path.toArray⟩) ∧ w'.cell? ⟨U1.heap.size, 5, none⟩ = some (.string ⟨y.call.other.toArray⟩) ∧ w'.cell? ⟨U1.heap.size, 6, none⟩ = some (.int .i64 y.call.file) ∧ w'.cell? ⟨U1.heap.size, 7, none⟩ = some (.int .i64 y.call.at_) ∧ w'.cell? ⟨U1.heap.size, 8, none⟩ = some (.int .i64 y.call.size) ∧ w'.cell? ⟨U1.heap.size, 9, none⟩ = some (.slice EA y.call.data.length ec) ∧ w'.cell? ⟨U1.heap.size, 10, none⟩ = some (.slice MA y.keep.length mc) ∧ w'.cell? ⟨b, o + out.length * 11, none⟩ = some (.int .i64 y.kind) ∧ w'.cell? ⟨b, o + out.length * 11 + 1, none⟩ = some (.int .i64 y.a) ∧ w'.cell? ⟨b, o + out.length * 11 + 2, none⟩ = some (.int .i64 y.n) ∧ w'.cell? ⟨b, o + out.length * 11 + 3, none⟩ = some (.int .i64 y.call.kind) ∧ w'.cell? ⟨b, o + out.length * 11 + 4, none⟩ = some (.string ⟨y.call.path.toArray⟩) ∧ w'.cell? ⟨b, o + out.length * 11 + 5, none⟩ = some (.string ⟨y.call.other.toArray⟩) ∧ w'.cell? ⟨b, o + out.length * 11 + 6, none⟩ = some (.int .i64 y.call.file) ∧ w'.cell? ⟨b, o + out.length * 11 + 7, none⟩ = some (.int .i64 y.call.at_) ∧ w'.cell? ⟨b, o + out.length * 11 + 8, none⟩ = some (.int .i64 y.call.size) ∧ w'.cell? ⟨b, o + out.length * 11 + 9, none⟩ = some (.slice FA y.call.data.length fc) ∧ w'.cell? ⟨b, o + out.length * 11 + 10, none⟩ = some (.slice GA y.keep.length gc) from by
                  have k2 := Keep.of_below (S := fun _ => False) k
                  have p := blk_cells (k2.blk HXU2.out id)
                  exact ⟨(p 0).trans rfl, (p 1).trans rfl, (p 2).trans rfl, (p 3).trans rfl, (p 4).trans rfl, (p 5).trans rfl, (p 6).trans rfl, (p 7).trans rfl, (p 8).trans rfl, (p 9).trans rfl, (p 10).trans rfl, k2.cell (hrow 0 (by decide)) id, k2.cell (hrow 1 (by decide)) id, k2.cell (hrow 2 (by decide)) id, k2.cell (hrow 3 (by decide)) id, k2.cell (hrow 4 (by decide)) id, k2.cell (hrow 5 (by decide)) id, k2.cell (hrow 6 (by decide)) id, k2.cell (hrow 7 (by decide)) id, k2.cell (hrow 8 (by decide)) id, k2.cell (hrow 9 (by decide)) id, k2.cell (hrow 10 (by decide)) id⟩))
                clear hEQ hrow hfs hgs hr hr2 hp hfe hlen
                go_region_held3 (fun w' => w'.cell? ⟨U1.heap.size, 0, none⟩ = some (.int .i64 y.kind) ∧ w'.cell? ⟨U1.heap.size, 1, none⟩ = some (.int .i64 y.a) ∧ w'.cell? ⟨U1.heap.size, 2, none⟩ = some (.int .i64 y.n) ∧ w'.cell? ⟨U1.heap.size, 3, none⟩ = some (.int .i64 y.call.kind) ∧ w'.cell? ⟨U1.heap.size, 4, none⟩ = some (.string ⟨y.call.path.toArray⟩) ∧ w'.cell? ⟨U1.heap.size, 5, none⟩ = some (.string ⟨y.call.other.toArray⟩) ∧ w'.cell? ⟨U1.heap.size, 6, none⟩ = some (.int .i64 y.call.file) ∧ w'.cell? ⟨U1.heap.size, 7, none⟩ = some (.int .i64 y.call.at_) ∧ w'.cell? ⟨U1.heap.size, 8, none⟩ = some (.int .i64 y.call.size) ∧ w'.cell? ⟨U1.heap.size, 9, none⟩ = some (.slice EA y.call.data.length ec) ∧ w'.cell? ⟨U1.heap.size, 10, none⟩ = some (.slice MA y.keep.length mc) ∧ w'.cell? ⟨b, o + out.length * 11, none⟩ = some (.int .i64 y.kind) ∧ w'.cell? ⟨b, o + out.length * 11 + 1, none⟩ = some (.int .i64 y.a) ∧ w'.cell? ⟨b, o + out.length * 11 + 2, none⟩ = some (.int .i64 y.n) ∧ w'.cell? ⟨b, o + out.length * 11 + 3, none⟩ = some (.int .i64 y.call.kind) ∧ w'.cell? ⟨b, o + out.length * 11 + 4, none⟩ = some (.string ⟨y.call.path.toArray⟩) ∧ w'.cell? ⟨b, o + out.length * 11 + 5, none⟩ = some (.string ⟨y.call.other.toArray⟩) ∧ w'.cell? ⟨b, o + out.length * 11 + 6, none⟩ = some (.int .i64 y.call.file) ∧ w'.cell? ⟨b, o + out.length * 11 + 7, none⟩ = some (.int .i64 y.call.at_) ∧ w'.cell? ⟨b, o + out.length * 11 + 8, none⟩ = some (.int .i64 y.call.size) ∧ w'.cell? ⟨b, o + out.length * 11 + 9, none⟩ = some (.slice FA y.call.data.length fc) ∧ w'.cell? ⟨b, o + out.length * 11 + 10, none⟩ = some (.slice GA y.keep.length gc)) (first | exact HS.out _ ((Below.refl _ U2).drew) | exact HS.out _ K1.out)
                  (first
                    | (go_at_call 13; (refine (HEQ.out _ ((Below.refl _ U2).drew)).mono ?_); rintro e W5 ⟨rfl, hb5⟩; have K1 := Lib.hid (((Below.refl U2.heap.size U2).drew).trans hb5); clear hb5))
                all_goals
                  have HN := Lib.hid (HNEXT.out W5 (AU2.out.trans (K1.out.mono AU2.out.size)))
                  go_wp2
                  go_roundw
                  case rel => exact HN.out
                  case measure => simp [intOf]; omega
              · have e1 : (fe == 0) = false := by simpa using hfe
                have HN := Lib.hid (HNEXT.out U2.drew AU2.out.drew)
                clear hfe
                refine wp_region_held_drew (S := fun _ => True) (by kernel_rfl) trivial (fun hHeld => ?_)
                refine wpAnyH_take (i := 0) (oi := ?oi0) (v := ?v0) ?hi0 (by kernel_rfl) (by kernel_rfl) (by kernel_rfl) ?hQ0 ?hy0 (by assumption) ?rest0
                case hi0 => (simp only [List.getElem?_toArray, List.getElem?_cons_succ, List.getElem?_cons_zero]; rfl)
                case hy0 => (refine Or.inl ⟨by rfl, ?_⟩; intro w hSw; (try dsimp only at hSw); go_simp; try with_reducible rfl)
                case hQ0 => exact fun _ _ _ h => h
                case' rest0 => try simp only [Act.put, List.setIfInBounds_toArray, List.set_cons_zero, List.set_cons_succ]
                refine wpAnyH_take (i := 1) (oi := ?oi1) (v := ?v1) ?hi1 (by kernel_rfl) (by kernel_rfl) (by kernel_rfl) ?hQ1 ?hy1 (by assumption) ?rest1
                case hi1 => (simp only [List.getElem?_toArray, List.getElem?_cons_succ, List.getElem?_cons_zero]; rfl)
                case hy1 => (refine Or.inl ⟨by rfl, ?_⟩; intro w hSw; (try dsimp only at hSw); go_simp; try with_reducible rfl)
                case hQ1 => exact fun _ _ _ h => h
                case' rest1 => try simp only [Act.put, List.setIfInBounds_toArray, List.set_cons_zero, List.set_cons_succ]
                refine wpAnyH_take (i := 2) (oi := ?oi2) (v := ?v2) ?hi2 (by kernel_rfl) (by kernel_rfl) (by kernel_rfl) ?hQ2 ?hy2 (by assumption) ?rest2
                case hi2 => (simp only [List.getElem?_toArray, List.getElem?_cons_succ, List.getElem?_cons_zero]; rfl)
                case hy2 => (refine Or.inl ⟨by rfl, ?_⟩; intro w hSw; (try dsimp only at hSw); go_simp; try with_reducible rfl)
                case hQ2 => exact fun _ _ _ h => h
                case' rest2 => try simp only [Act.put, List.setIfInBounds_toArray, List.set_cons_zero, List.set_cons_succ]
                refine wpAnyH_take (i := 3) (oi := ?oi3) (v := undef) ?hi3 (by kernel_rfl) (by kernel_rfl) (by kernel_rfl) ?hQ3 ?hy3 (by assumption) ?rest3
                case hi3 => (simp only [List.getElem?_toArray, List.getElem?_cons_succ, List.getElem?_cons_zero]; rfl)
                case hy3 => exact Or.inr ⟨by rfl, rfl⟩
                case hQ3 => exact fun _ _ _ h => h
                case' rest3 => try simp only [Act.put, List.setIfInBounds_toArray, List.set_cons_zero, List.set_cons_succ]
                refine wpAnyH_take (i := 4) (oi := ?oi4) (v := undef) ?hi4 (by kernel_rfl) (by kernel_rfl) (by kernel_rfl) ?hQ4 ?hy4 (by assumption) ?rest4
                case hi4 => (simp only [List.getElem?_toArray, List.getElem?_cons_succ, List.getElem?_cons_zero]; rfl)
                case hy4 => exact Or.inr ⟨by rfl, rfl⟩
                case hQ4 => exact fun _ _ _ h => h
                case' rest4 => try simp only [Act.put, List.setIfInBounds_toArray, List.set_cons_zero, List.set_cons_succ]
                refine wpAnyH_take (i := 5) (oi := ?oi5) (v := undef) ?hi5 (by kernel_rfl) (by kernel_rfl) (by kernel_rfl) ?hQ5 ?hy5 (by assumption) ?rest5
                case hi5 => (simp only [List.getElem?_toArray, List.getElem?_cons_succ, List.getElem?_cons_zero]; rfl)
                case hy5 => exact Or.inr ⟨by rfl, rfl⟩
                case hQ5 => exact fun _ _ _ h => h
                case' rest5 => try simp only [Act.put, List.setIfInBounds_toArray, List.set_cons_zero, List.set_cons_succ]
                refine wpAnyH_take (i := 6) (oi := ?oi6) (v := undef) ?hi6 (by kernel_rfl) (by kernel_rfl) (by kernel_rfl) ?hQ6 ?hy6 (by assumption) ?rest6
                case hi6 => (simp only [List.getElem?_toArray, List.getElem?_cons_succ, List.getElem?_cons_zero]; rfl)
                case hy6 => exact Or.inr ⟨by rfl, rfl⟩
                case hQ6 => exact fun _ _ _ h => h
                case' rest6 => try simp only [Act.put, List.setIfInBounds_toArray, List.set_cons_zero, List.set_cons_succ]
                refine wpAnyH_take (i := 7) (oi := ?oi7) (v := undef) ?hi7 (by kernel_rfl) (by kernel_rfl) (by kernel_rfl) ?hQ7 ?hy7 (by assumption) ?rest7
                case hi7 => (simp only [List.getElem?_toArray, List.getElem?_cons_succ, List.getElem?_cons_zero]; rfl)
                case hy7 => exact Or.inr ⟨by rfl, rfl⟩
                case hQ7 => exact fun _ _ _ h => h
                case' rest7 => try simp only [Act.put, List.setIfInBounds_toArray, List.set_cons_zero, List.set_cons_succ]
                refine wpAnyH_take (i := 8) (oi := ?oi8) (v := undef) ?hi8 (by kernel_rfl) (by kernel_rfl) (by kernel_rfl) ?hQ8 ?hy8 (by assumption) ?rest8
                case hi8 => (simp only [List.getElem?_toArray, List.getElem?_cons_succ, List.getElem?_cons_zero]; rfl)
                case hy8 => exact Or.inr ⟨by rfl, rfl⟩
                case hQ8 => exact fun _ _ _ h => h
                case' rest8 => try simp only [Act.put, List.setIfInBounds_toArray, List.set_cons_zero, List.set_cons_succ]
                refine wpAnyH_take (i := 9) (oi := ?oi9) (v := undef) ?hi9 (by kernel_rfl) (by kernel_rfl) (by kernel_rfl) ?hQ9 ?hy9 (by assumption) ?rest9
                case hi9 => (simp only [List.getElem?_toArray, List.getElem?_cons_succ, List.getElem?_cons_zero]; rfl)
                case hy9 => exact Or.inr ⟨by rfl, rfl⟩
                case hQ9 => exact fun _ _ _ h => h
                case' rest9 => try simp only [Act.put, List.setIfInBounds_toArray, List.set_cons_zero, List.set_cons_succ]
                refine wpAnyH_take (i := 10) (oi := ?oi10) (v := undef) ?hi10 (by kernel_rfl) (by kernel_rfl) (by kernel_rfl) ?hQ10 ?hy10 (by assumption) ?rest10
                case hi10 => (simp only [List.getElem?_toArray, List.getElem?_cons_succ, List.getElem?_cons_zero]; rfl)
                case hy10 => exact Or.inr ⟨by rfl, rfl⟩
                case hQ10 => exact fun _ _ _ h => h
                case' rest10 => try simp only [Act.put, List.setIfInBounds_toArray, List.set_cons_zero, List.set_cons_succ]
                refine wpAnyH_take (i := 11) (oi := ?oi11) (v := undef) ?hi11 (by kernel_rfl) (by kernel_rfl) (by kernel_rfl) ?hQ11 ?hy11 (by assumption) ?rest11
                case hi11 => (simp only [List.getElem?_toArray, List.getElem?_cons_succ, List.getElem?_cons_zero]; rfl)
                case hy11 => exact Or.inr ⟨by rfl, rfl⟩
                case hQ11 => exact fun _ _ _ h => h
                case' rest11 => try simp only [Act.put, List.setIfInBounds_toArray, List.set_cons_zero, List.set_cons_succ]
                refine wpAnyH_take (i := 12) (oi := ?oi12) (v := undef) ?hi12 (by kernel_rfl) (by kernel_rfl) (by kernel_rfl) ?hQ12 ?hy12 (by assumption) ?rest12
                case hi12 => (simp only [List.getElem?_toArray, List.getElem?_cons_succ, List.getElem?_cons_zero]; rfl)
                case hy12 => exact Or.inr ⟨by rfl, rfl⟩
                case hQ12 => exact fun _ _ _ h => h
                case' rest12 => try simp only [Act.put, List.setIfInBounds_toArray, List.set_cons_zero, List.set_cons_succ]
                refine wpAnyH_take (i := 13) (oi := ?oi13) (v := undef) ?hi13 (by kernel_rfl) (by kernel_rfl) (by kernel_rfl) ?hQ13 ?hy13 (by assumption) ?rest13
                case hi13 => (simp only [List.getElem?_toArray, List.getElem?_cons_succ, List.getElem?_cons_zero]; rfl)
                case hy13 => exact Or.inr ⟨by rfl, rfl⟩
                case hQ13 => exact fun _ _ _ h => h
                case' rest13 => try simp only [Act.put, List.setIfInBounds_toArray, List.set_cons_zero, List.set_cons_succ]
                refine wpAnyH_take (i := 14) (oi := ?oi14) (v := undef) ?hi14 (by kernel_rfl) (by kernel_rfl) (by kernel_rfl) ?hQ14 ?hy14 (by assumption) ?rest14
                case hi14 => (simp only [List.getElem?_toArray, List.getElem?_cons_succ, List.getElem?_cons_zero]; rfl)
                case hy14 => exact Or.inr ⟨by rfl, rfl⟩
                case hQ14 => exact fun _ _ _ h => h
                case' rest14 => try simp only [Act.put, List.setIfInBounds_toArray, List.set_cons_zero, List.set_cons_succ]
                refine wpAnyH_take (i := 15) (oi := ?oi15) (v := undef) ?hi15 (by kernel_rfl) (by kernel_rfl) (by kernel_rfl) ?hQ15 ?hy15 (by assumption) ?rest15
                case hi15 => (simp only [List.getElem?_toArray, List.getElem?_cons_succ, List.getElem?_cons_zero]; rfl)
                case hy15 => exact Or.inr ⟨by rfl, rfl⟩
                case hQ15 => exact fun _ _ _ h => h
                case' rest15 => try simp only [Act.put, List.setIfInBounds_toArray, List.set_cons_zero, List.set_cons_succ]
                refine wpAnyH_take (i := 16) (oi := ?oi16) (v := undef) ?hi16 (by kernel_rfl) (by kernel_rfl) (by kernel_rfl) ?hQ16 ?hy16 (by assumption) ?rest16
                case hi16 => (simp only [List.getElem?_toArray, List.getElem?_cons_succ, List.getElem?_cons_zero]; rfl)
                case hy16 => exact Or.inr ⟨by rfl, rfl⟩
                case hQ16 => exact fun _ _ _ h => h
                case' rest16 => try simp only [Act.put, List.setIfInBounds_toArray, List.set_cons_zero, List.set_cons_succ]
                refine wpAnyH_take (i := 17) (oi := ?oi17) (v := ?v17) ?hi17 (by kernel_rfl) (by kernel_rfl) (by kernel_rfl) ?hQ17 ?hy17 (by assumption) ?rest17
                case hi17 => (simp only [List.getElem?_toArray, List.getElem?_cons_succ, List.getElem?_cons_zero]; rfl)
                case hy17 => (refine Or.inl ⟨by rfl, ?_⟩; intro w hSw; (try dsimp only at hSw); go_simp; try with_reducible rfl)
                case hQ17 => exact fun _ _ _ h => h
                case' rest17 => try simp only [Act.put, List.setIfInBounds_toArray, List.set_cons_zero, List.set_cons_succ]
                refine wpAnyH_done (by kernel_rfl) ?_ _
                go_wp2
                go_roundw
                case rel => exact HN.out
                case measure => simp [intOf]; omega
    · have hnil : s.drop i = [] := List.drop_eq_nil_of_le (by omega)
      have i1 : ¬ (i : Int) < (s.length : Int) := by omega
      obtain ⟨g, rfl⟩ : ∃ g, f = g + 1 := ⟨f - 1, by omega⟩
      have hF : (fl, fa, fe) = if 4096 < out.length then (([] : List ActP), (0 : Int), (9 : Int)) else (out, 0, 0) := by rw [← HG.out, actsGo, if_pos hnil]
      clear hnil
      by_cases hbg : 4096 < out.length
      · rw [if_pos hbg] at hF
        have r1 : (fe == 9) = true := by injection hF with _ h; injection h with _ h; simpa using h
        have r2 : (fa == 0) = true := by injection hF with _ h; injection h with h _; simpa using h
        have r3 : ((L.length : Int) == 0) = true := by rw [HLL.out]; injection hF with h _; rw [h]; rfl
        have g1 : (4096 : Int) < (out.length : Int) := by omega
        clear hF hbg
        have HAW := Lib.hid (awake_walk wr (HV.out.below HB.out))
        go_wp2_with fail
        refine HAW.out.mono ?_
        rintro e W2 ⟨rfl, hbe⟩
        have BE := Lib.hid (HB.out.trans (hbe.mono HB.out.size))
        clear hbe
        go_wp2
        go_ret
        exact ⟨rfl, BE.out⟩
      · rw [if_neg hbg] at hF
        have r1 : (fe == 0) = true := by injection hF with _ h; injection h with _ h; simpa using h
        have r2 : (fa == 0) = true := by injection hF with _ h; injection h with h _; simpa using h
        have r3 : ((L.length : Int) == (out.length : Int)) = true := by rw [HLL.out]; injection hF with h _; rw [h]; simp
        have g1 : ¬ (4096 : Int) < (out.length : Int) := by omega
        clear hF hbg
        have HAW := Lib.hid (awake_walk wr (HV.out.below HB.out))
        go_wp2_with fail
        refine HAW.out.mono ?_
        rintro e W2 ⟨rfl, hbe⟩
        have BE := Lib.hid (HB.out.trans (hbe.mono HB.out.size))
        clear hbe
        go_wp2
        go_ret
        exact ⟨rfl, BE.out⟩
end Go.Proofs.YtpdnfcgdcndhpaaDoor
