/- ActScripts: the walk. -/
import Derived.Test.YtpdnfcgdcndhpaaDoorActReadsWalk
import Derived.Test.YtpdnfcgdcndhpaaDoorActR
import Derived.Deep.DeepCutAuto
import Derived.Deep.CutBlock
set_option linter.unusedSimpArgs false
set_option linter.unusedVariables false
namespace Go.Proofs.YtpdnfcgdcndhpaaDoor
open Go.RowKit

attribute [local go_sem ↓] Go.wp_at_zero Go.wp_at_succ
theorem add_run2 {a b c : Str} (h : c = a ++ b) (ha : a.length ≤ 50000000000000) (hb : b.length ≤ 1000000000000) (w : World) : (Op.stringOp .add ⟨a.toArray⟩ ⟨b.toArray⟩).run Tryd.prog w = .ok (.string ⟨c.toArray⟩) w := by
  rw [run_string_add_sum w _ _ (by rw [ba_size, ba_size]; omega), ba_append, h]
def SrInv (L : List AV) (w0 : World) (v6 v5 : Value) (wr : World) : Prop := ∃ i : Nat, i ≤ L.length ∧ v6 = .int .i64 (i : Int) ∧ v5 = .string ⟨(((L.take i).map Prod.fst).flatMap lnP).toArray⟩ ∧ Below w0.heap.size w0 wr ∧ ∀ p ∈ L.take i, okP p.1 = true
def SrInv2 (n : Nat) (w0 : World) (v12 : Value) (wr : World) : Prop := ∃ i : Nat, i ≤ n ∧ v12 = .int .i64 (i : Int) ∧ Below w0.heap.size w0 wr
set_option maxRecDepth 100000 in
set_option maxHeartbeats 8000000 in
theorem lawActScripts.walk {B : Nat} (v : Value) (xs : List ActP) (w : World) (hw : WV B w) (hv : ActsR w v xs) (hok : ∀ x ∈ xs, ActOk x ∧ SmallA x 1048576) (hn : xs.length ≤ 100000) :
    Calls Tryd.prog 8 #[v] w fun e w' => e = .returned (.bool true) ∧ Below w.heap.size w w' := by
  have HSC := Lib.hid (script_walk v xs w hw hv hok hn)
  obtain ⟨L, A, c, rfl, hsl, rfl, hav⟩ := hv
  have HFIN := Lib.hid (show (scriptP (L.map Prod.fst)).1 = (scriptP (L.map Prod.fst)).1 from rfl)
  obtain ⟨ft, hft⟩ : ∃ ft, ft = (scriptP (L.map Prod.fst)).1 := ⟨_, rfl⟩
  obtain ⟨fe, hfe⟩ : ∃ fe, fe = (scriptP (L.map Prod.fst)).2 := ⟨_, rfl⟩
  rw [← hft, ← hfe] at HSC
  have HFT := Lib.hid hft
  have HFE := Lib.hid hfe
  rw [List.length_map] at hn
  have HV := Lib.hid hw
  have HSL := Lib.hid hsl
  have HAV := Lib.hid hav
  have HOK := Lib.hid hok
  have HLN := Lib.hid (fun i => lns_len ((L.take i).map Prod.fst) (fun x hx => by
    obtain ⟨p, hp, rfl⟩ := List.mem_map.1 hx
    exact hok _ (List.mem_map.2 ⟨p, List.mem_of_mem_take hp, rfl⟩)))
  clear hw hsl hav hok hft hfe HFIN
  go_enter Tryd.func8, Tryd.ntmps8
  go_wp2_with fail
  refine HSC.out.mono ?_
  rintro e W1 ⟨rfl, hb1⟩
  have B1 := Lib.hid hb1
  clear hb1 HSC
  go_upto_region 4 with fail
  go_loopw [6, 5] (fun v6 v5 wr => SrInv L w v6 v5 wr) (fun v _ _ => L.length - (intOf v).toNat)
  case atStart => exact ⟨0, Nat.zero_le _, rfl, rfl, B1.out, by simp⟩
  case round =>
    obtain ⟨i, hi, rfl, rfl, hb, hall⟩ := hrel
    have HB := Lib.hid hb
    have HALL := Lib.hid hall
    have hwr : w.heap.size ≤ wr.heap.size := hb.size
    have hti : (L.take i).length ≤ i := List.length_take_le _ _
    have hll := HLN.out i
    rw [List.length_map] at hll
    clear hb hall
    by_cases hlt : i < L.length
    · obtain ⟨p, hp⟩ : ∃ p, L[i]? = some p := ⟨L[i], List.getElem?_eq_getElem hlt⟩
      obtain ⟨b, o, rfl, hbl, hrow⟩ := act_row (HSL.out.below HB.out) hp
      have hpok := HOK.out p.1 (List.mem_map.2 ⟨p, List.mem_of_getElem? hp, rfl⟩)
      obtain ⟨hd0, hk0⟩ := HAV.out p (List.mem_of_getElem? hp)
      have hlp := lnP_len hpok.1 hpok.2
      have HTK := Lib.hid (take_snoc' hp)
      have HPM := Lib.hid hp
      obtain ⟨x, dv, kv⟩ := p
      simp only at hpok hlp hd0 hk0
      obtain ⟨DA, dc, rfl, hds⟩ := hd0
      obtain ⟨KA, kc, rfl, hks⟩ := hk0
      have i0 : (0 : Int) ≤ (i : Int) := by omega
      have i1 : (i : Int) < (L.length : Int) := by omega
      have c0 : wr.cell? ⟨b, o + i * 11, none⟩ = some (.int .i64 x.kind) := hrow 0 (by decide)
      have c1 : wr.cell? ⟨b, o + i * 11 + 1, none⟩ = some (.int .i64 x.a) := hrow 1 (by decide)
      have c2 : wr.cell? ⟨b, o + i * 11 + 2, none⟩ = some (.int .i64 x.n) := hrow 2 (by decide)
      have c3 : wr.cell? ⟨b, o + i * 11 + 3, none⟩ = some (.int .i64 x.call.kind) := hrow 3 (by decide)
      have c4 : wr.cell? ⟨b, o + i * 11 + 4, none⟩ = some (.string ⟨x.call.path.toArray⟩) := hrow 4 (by decide)
      have c5 : wr.cell? ⟨b, o + i * 11 + 5, none⟩ = some (.string ⟨x.call.other.toArray⟩) := hrow 5 (by decide)
      have c6 : wr.cell? ⟨b, o + i * 11 + 6, none⟩ = some (.int .i64 x.call.file) := hrow 6 (by decide)
      have c7 : wr.cell? ⟨b, o + i * 11 + 7, none⟩ = some (.int .i64 x.call.at_) := hrow 7 (by decide)
      have c8 : wr.cell? ⟨b, o + i * 11 + 8, none⟩ = some (.int .i64 x.call.size) := hrow 8 (by decide)
      have c9 : wr.cell? ⟨b, o + i * 11 + 9, none⟩ = some (.slice DA x.call.data.length dc) := hrow 9 (by decide)
      have c10 : wr.cell? ⟨b, o + i * 11 + 10, none⟩ = some (.slice KA x.keep.length kc) := hrow 10 (by decide)
      have hLL := lline_walk x (.slice DA x.call.data.length dc) (.slice KA x.keep.length kc) wr hpok.1 ⟨DA, dc, rfl, hds.below HB.out⟩ ⟨KA, kc, rfl, hks.below HB.out⟩
      unfold ActP.cells at hLL
      have HLL := Lib.hid hLL
      have HLK := Lib.hid (ok_law x hpok.1)
      have hjl : (jnW (writeP x)).length ≤ 390000000 := by unfold lnP at hlp; rw [List.length_append] at hlp; omega
      obtain ⟨cur, hcur⟩ : ∃ cur, cur = ((L.take i).map Prod.fst).flatMap lnP := ⟨_, rfl⟩
      rw [← hcur] at hll ⊢
      have HCU := Lib.hid hcur
      clear hp hrow hds hks hLL hcur
      go_wp2_with fail
      refine HLL.out.mono ?_
      rintro e w3 ⟨t, rfl, ht, hb3⟩
      have B3 := Lib.hid (HB.out.trans (hb3.mono HB.out.size))
      have HT := Lib.hid ht
      clear hb3 ht c0 c1 c2 c3 c4 c5 c6 c7 c8 c9 c10
      cases hq : llB x with
      | false =>
        have hF : scriptP (L.map Prod.fst) = ([], 1) := script_bad (x := x) (List.mem_map.2 ⟨_, List.mem_of_getElem? HPM.out, rfl⟩) (HLK.out.symm.trans hq)
        obtain rfl : ft = [] := by rw [HFT.out, hF]
        obtain rfl : fe = 1 := by rw [HFE.out, hF]
        have HAW := Lib.hid (awake_walk w3 (HV.out.below B3.out))
        clear hF hq
        go_wp2_with fail
        refine HAW.out.mono ?_
        rintro e w4 ⟨rfl, hb4⟩
        have B4 := Lib.hid (B3.out.trans (hb4.mono B3.out.size))
        clear hb4
        go_wp2
        go_ret
        exact ⟨rfl, B4.out⟩
      | true =>
        have e4 := HT.out hq
        have HOX := Lib.hid (HLK.out.symm.trans hq)
        have A1 : ∀ w, (Op.stringOp .add ⟨t.toArray⟩ ⟨#[10]⟩).run Tryd.prog w = .ok (.string ⟨(lnP x).toArray⟩) w := add_run2 (b := [10]) (by rw [e4]; rfl) (by rw [e4]; omega) (by decide)
        obtain ⟨ln, hln⟩ : ∃ ln, ln = lnP x := ⟨_, rfl⟩
        rw [← hln] at A1 hlp
        obtain ⟨nx, hnx⟩ : ∃ nx, nx = cur ++ ln := ⟨_, rfl⟩
        have A2 : ∀ w, (Op.stringOp .add ⟨cur.toArray⟩ ⟨ln.toArray⟩).run Tryd.prog w = .ok (.string ⟨nx.toArray⟩) w := add_run2 hnx (by omega) (by omega)
        have HNX : Hid (nx = ((L.take (i + 1)).map Prod.fst).flatMap lnP) := Lib.hid (by rw [HTK.out, List.map_append, List.flatMap_append, ← HCU.out, hnx, hln]; simp)
        clear hq e4 hln hnx
        go_wp2
        go_roundw
        case rel => exact ⟨i + 1, by omega, by go_num, by rw [HNX.out], B3.out, fun p hp => by
          rw [HTK.out] at hp
          rcases List.mem_append.1 hp with hp | hp
          · exact HALL.out p hp
          · rw [List.mem_singleton.1 hp]; exact HOX.out⟩
        case measure => simp [intOf]; omega
    · obtain rfl : i = L.length := by omega
      have hall := HALL.out
      rw [List.take_length] at hall hll ⊢
      have hOKA : ∀ y ∈ L.map Prod.fst, okP y = true := fun y hy => by
        obtain ⟨p, hp, rfl⟩ := List.mem_map.1 hy
        exact hall p hp
      have hS := script_ok hOKA
      obtain ⟨txt, htxt⟩ : ∃ txt, txt = (L.map Prod.fst).flatMap lnP := ⟨_, rfl⟩
      rw [← htxt, List.length_map] at hS
      rw [← htxt] at hll ⊢
      have i1 : ¬ ((L.length : Nat) : Int) < (L.length : Int) := by omega
      have hsz := ba_size txt
      by_cases h2 : 4096 < L.length
      · rw [if_pos (.inr h2)] at hS
        obtain rfl : ft = [] := by rw [HFT.out, hS]
        obtain rfl : fe = 9 := by rw [HFE.out, hS]
        have g2 : (4096 : Int) < (L.length : Int) := by omega
        clear hS hOKA hall htxt h2
        have HAW := Lib.hid (awake_walk wr (HV.out.below HB.out))
        go_wp2_with fail
        refine HAW.out.mono ?_
        rintro e W3 ⟨rfl, hb3⟩
        have B3 := Lib.hid (HB.out.trans (hb3.mono HB.out.size))
        clear hb3
        go_wp2
        go_ret
        exact ⟨rfl, B3.out⟩
      · have g2 : ¬ (4096 : Int) < (L.length : Int) := by omega
        by_cases h1 : 65536 < txt.length
        · rw [if_pos (.inl h1)] at hS
          obtain rfl : ft = [] := by rw [HFT.out, hS]
          obtain rfl : fe = 9 := by rw [HFE.out, hS]
          have g1 : (65536 : Int) < (txt.length : Int) := by omega
          clear hS hOKA hall htxt h1 h2
          have HAW := Lib.hid (awake_walk wr (HV.out.below HB.out))
          go_wp2_with fail
          refine HAW.out.mono ?_
          rintro e W3 ⟨rfl, hb3⟩
          have B3 := Lib.hid (HB.out.trans (hb3.mono HB.out.size))
          clear hb3
          go_wp2
          go_ret
          exact ⟨rfl, B3.out⟩
        · have g1 : ¬ (65536 : Int) < (txt.length : Int) := by omega
          rw [if_neg (by omega)] at hS
          obtain rfl : ft = txt := by rw [HFT.out, hS]
          obtain rfl : fe = 0 := by rw [HFE.out, hS]
          have hAP := acts_of_lines (xs := L.map Prod.fst) (by rw [← htxt]; omega) (by rw [List.length_map]; omega) hOKA
          rw [← htxt] at hAP
          have hAC := acts1_walk ft wr (HV.out.below HB.out) (by omega)
          rw [hAP] at hAC
          have HAC := Lib.hid hAC
          clear hS hOKA hall htxt h1 h2 hAP hAC
          go_wp2_with fail
          refine HAC.out.mono ?_
          rintro e W2 ⟨v, rfl, ⟨L2, A2, c2, rfl, hs2, he2, hok2⟩, hb2⟩
          have hl2 : L2.length = L.length := by have := congrArg List.length he2; simpa using this
          rw [hl2] at hs2 ⊢
          have HS2 := Lib.hid hs2
          have HE2 := Lib.hid he2
          have HO2 := Lib.hid hok2
          have HL2 := Lib.hid hl2
          have HBW := Lib.hid hb2
          have B2 := Lib.hid (HB.out.trans (hb2.mono HB.out.size))
          have HAW := Lib.hid (awake_walk W2 (HV.out.below B2.out))
          have hne : (ft != ft) = false := by simp
          have heq : (ft == ft) = true := by simp
          clear hs2 he2 hok2 hl2 hb2
          go_wp2_with fail
          refine HAW.out.mono ?_
          rintro e W3 ⟨rfl, hb3⟩
          have B3 := Lib.hid (B2.out.trans (hb3.mono B2.out.size))
          have HB3 := Lib.hid hb3
          clear hb3
          go_upto_region 16 with fail
          go_loopw [12] (fun v12 wr => SrInv2 L.length W3 v12 wr) (fun v _ => L.length - (intOf v).toNat)
          case atStart => exact ⟨0, Nat.zero_le _, rfl, Below.refl _ _⟩
          case round =>
            obtain ⟨j, hj, rfl, hbj⟩ := hrel
            have HBJ := Lib.hid hbj
            clear hbj
            have B4 := Lib.hid (B3.out.trans (HBJ.out.mono B3.out.size))
            have HB4 := Lib.hid (HB3.out.trans (HBJ.out.mono HB3.out.size))
            by_cases hlt : j < L.length
            · obtain ⟨p, hp⟩ : ∃ p, L[j]? = some p := ⟨L[j], List.getElem?_eq_getElem hlt⟩
              obtain ⟨p2, hp2⟩ : ∃ p2, L2[j]? = some p2 := ⟨L2[j]'(by rw [HL2.out]; exact hlt), List.getElem?_eq_getElem _⟩
              have hpp : p2.1 = p.1 := by
                have := congrArg (fun l => l[j]?) HE2.out
                simpa [List.getElem?_map, hp, hp2] using this
              obtain ⟨b2, o2, rfl, _, hrow⟩ := act_row (HSL.out.below B4.out) hp
              obtain ⟨b1, o1, rfl, _, hrow1⟩ := act_row (HS2.out.below HB4.out) hp2
              have hpok := HOK.out p.1 (List.mem_map.2 ⟨p, List.mem_of_getElem? hp, rfl⟩)
              obtain ⟨hd0, hk0⟩ := HAV.out p (List.mem_of_getElem? hp)
              obtain ⟨hd2, hk2⟩ := HO2.out p2 (List.mem_of_getElem? hp2)
              obtain ⟨x, dv, kv⟩ := p
              obtain ⟨y, dw, kw⟩ := p2
              simp only at hpok hd0 hk0 hd2 hk2 hpp
              subst hpp
              obtain ⟨DA, dc, rfl, hds⟩ := hd0
              obtain ⟨KA, kc, rfl, hks⟩ := hk0
              obtain ⟨EA, ec, rfl, hes, _⟩ := hd2
              obtain ⟨MA, mc, rfl, hms, _⟩ := hk2
              have i0 : (0 : Int) ≤ (j : Int) := by omega
              have i1 : (j : Int) < (L.length : Int) := by omega
              have hEQ := fun W (h : Below wr.heap.size wr W) => lequal_walk y y (.slice EA y.call.data.length ec) (.slice MA y.keep.length mc) (.slice DA y.call.data.length dc) (.slice KA y.keep.length kc) W ⟨EA, ec, rfl, (hes.below HB4.out).below h⟩ ⟨DA, dc, rfl, (hds.below B4.out).below h⟩ ⟨MA, mc, rfl, (hms.below HB4.out).below h⟩ ⟨KA, kc, rfl, (hks.below B4.out).below h⟩ (by have := hpok.1.len; omega) (by have := hpok.1.len; omega)
              rw [decide_eq_true rfl] at hEQ
              unfold ActP.cells at hEQ
              have HEQ := Lib.hid hEQ
              have HS := Lib.hid (fun (w' : World) (k : Below wr.heap.size wr w') => (show w'.cell? ⟨b1, o1 + j * 11, none⟩ = some (.int .i64 y.kind) ∧ w'.cell? ⟨b1, o1 + j * 11 + 1, none⟩ = some (.int .i64 y.a) ∧ w'.cell? ⟨b1, o1 + j * 11 + 2, none⟩ = some (.int .i64 y.n) ∧ w'.cell? ⟨b1, o1 + j * 11 + 3, none⟩ = some (.int .i64 y.call.kind) ∧ w'.cell? ⟨b1, o1 + j * 11 + 4, none⟩ = some (.string ⟨y.call.path.toArray⟩) ∧ w'.cell? ⟨b1, o1 + j * 11 + 5, none⟩ = some (.string ⟨y.call.other.toArray⟩) ∧ w'.cell? ⟨b1, o1 + j * 11 + 6, none⟩ = some (.int .i64 y.call.file) ∧ w'.cell? ⟨b1, o1 + j * 11 + 7, none⟩ = some (.int .i64 y.call.at_) ∧ w'.cell? ⟨b1, o1 + j * 11 + 8, none⟩ = some (.int .i64 y.call.size) ∧ w'.cell? ⟨b1, o1 + j * 11 + 9, none⟩ = some (.slice EA y.call.data.length ec) ∧ w'.cell? ⟨b1, o1 + j * 11 + 10, none⟩ = some (.slice MA y.keep.length mc) ∧ w'.cell? ⟨b2, o2 + j * 11, none⟩ = some (.int .i64 y.kind) ∧ w'.cell? ⟨b2, o2 + j * 11 + 1, none⟩ = some (.int .i64 y.a) ∧ w'.cell? ⟨b2, o2 + j * 11 + 2, none⟩ = some (.int .i64 y.n) ∧ w'.cell? ⟨b2, o2 + j * 11 + 3, none⟩ = some (.int .i64 y.call.kind) ∧ w'.cell? ⟨b2, o2 + j * 11 + 4, none⟩ = some (.string ⟨y.call.path.toArray⟩) ∧ w'.cell? ⟨b2, o2 + j * 11 + 5, none⟩ = some (.string ⟨y.call.other.toArray⟩) ∧ w'.cell? ⟨b2, o2 + j * 11 + 6, none⟩ = some (.int .i64 y.call.file) ∧ w'.cell? ⟨b2, o2 + j * 11 + 7, none⟩ = some (.int .i64 y.call.at_) ∧ w'.cell? ⟨b2, o2 + j * 11 + 8, none⟩ = some (.int .i64 y.call.size) ∧ w'.cell? ⟨b2, o2 + j * 11 + 9, none⟩ = some (.slice DA y.call.data.length dc) ∧ w'.cell? ⟨b2, o2 + j * 11 + 10, none⟩ = some (.slice KA y.keep.length kc) from by
                have k2 := Keep.of_below (S := fun _ => False) k
                exact ⟨k2.cell (hrow1 0 (by decide)) id, k2.cell (hrow1 1 (by decide)) id, k2.cell (hrow1 2 (by decide)) id, k2.cell (hrow1 3 (by decide)) id, k2.cell (hrow1 4 (by decide)) id, k2.cell (hrow1 5 (by decide)) id, k2.cell (hrow1 6 (by decide)) id, k2.cell (hrow1 7 (by decide)) id, k2.cell (hrow1 8 (by decide)) id, k2.cell (hrow1 9 (by decide)) id, k2.cell (hrow1 10 (by decide)) id, k2.cell (hrow 0 (by decide)) id, k2.cell (hrow 1 (by decide)) id, k2.cell (hrow 2 (by decide)) id, k2.cell (hrow 3 (by decide)) id, k2.cell (hrow 4 (by decide)) id, k2.cell (hrow 5 (by decide)) id, k2.cell (hrow 6 (by decide)) id, k2.cell (hrow 7 (by decide)) id, k2.cell (hrow 8 (by decide)) id, k2.cell (hrow 9 (by decide)) id, k2.cell (hrow 10 (by decide)) id⟩))
              clear hp hp2 hrow hrow1 hpok hds hks hes hms hEQ
              go_upto_region 18 with fail
              go_region_held3 (fun w' => w'.cell? ⟨b1, o1 + j * 11, none⟩ = some (.int .i64 y.kind) ∧ w'.cell? ⟨b1, o1 + j * 11 + 1, none⟩ = some (.int .i64 y.a) ∧ w'.cell? ⟨b1, o1 + j * 11 + 2, none⟩ = some (.int .i64 y.n) ∧ w'.cell? ⟨b1, o1 + j * 11 + 3, none⟩ = some (.int .i64 y.call.kind) ∧ w'.cell? ⟨b1, o1 + j * 11 + 4, none⟩ = some (.string ⟨y.call.path.toArray⟩) ∧ w'.cell? ⟨b1, o1 + j * 11 + 5, none⟩ = some (.string ⟨y.call.other.toArray⟩) ∧ w'.cell? ⟨b1, o1 + j * 11 + 6, none⟩ = some (.int .i64 y.call.file) ∧ w'.cell? ⟨b1, o1 + j * 11 + 7, none⟩ = some (.int .i64 y.call.at_) ∧ w'.cell? ⟨b1, o1 + j * 11 + 8, none⟩ = some (.int .i64 y.call.size) ∧ w'.cell? ⟨b1, o1 + j * 11 + 9, none⟩ = some (.slice EA y.call.data.length ec) ∧ w'.cell? ⟨b1, o1 + j * 11 + 10, none⟩ = some (.slice MA y.keep.length mc) ∧ w'.cell? ⟨b2, o2 + j * 11, none⟩ = some (.int .i64 y.kind) ∧ w'.cell? ⟨b2, o2 + j * 11 + 1, none⟩ = some (.int .i64 y.a) ∧ w'.cell? ⟨b2, o2 + j * 11 + 2, none⟩ = some (.int .i64 y.n) ∧ w'.cell? ⟨b2, o2 + j * 11 + 3, none⟩ = some (.int .i64 y.call.kind) ∧ w'.cell? ⟨b2, o2 + j * 11 + 4, none⟩ = some (.string ⟨y.call.path.toArray⟩) ∧ w'.cell? ⟨b2, o2 + j * 11 + 5, none⟩ = some (.string ⟨y.call.other.toArray⟩) ∧ w'.cell? ⟨b2, o2 + j * 11 + 6, none⟩ = some (.int .i64 y.call.file) ∧ w'.cell? ⟨b2, o2 + j * 11 + 7, none⟩ = some (.int .i64 y.call.at_) ∧ w'.cell? ⟨b2, o2 + j * 11 + 8, none⟩ = some (.int .i64 y.call.size) ∧ w'.cell? ⟨b2, o2 + j * 11 + 9, none⟩ = some (.slice DA y.call.data.length dc) ∧ w'.cell? ⟨b2, o2 + j * 11 + 10, none⟩ = some (.slice KA y.keep.length kc)) (first | exact HS.out _ ((Below.refl _ wr).drew) | exact HS.out _ K1.out)
                (first
                  | (go_at_call 13; (refine (HEQ.out _ ((Below.refl _ wr).drew)).mono ?_); rintro e W5 ⟨rfl, hb5⟩; have K1 := Lib.hid (((Below.refl wr.heap.size wr).drew).trans hb5); clear hb5))
              all_goals
                have B5 := Lib.hid (HBJ.out.trans (K1.out.mono HBJ.out.size))
                go_wp2
                go_roundw
                case rel => exact ⟨j + 1, by omega, by go_num, B5.out⟩
                case measure => simp [intOf]; omega
            · obtain rfl : j = L.length := by omega
              have i1 : ¬ ((L.length : Nat) : Int) < (L.length : Int) := by omega
              go_wp2
              go_ret
              exact ⟨rfl, B4.out⟩
end Go.Proofs.YtpdnfcgdcndhpaaDoor
