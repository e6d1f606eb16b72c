/- Acts as a script. -/
import Derived.Test.YtpdnfcgdcndhpaaDoorActI
set_option linter.unusedSimpArgs false
set_option linter.unusedVariables false
namespace Go.Proofs.YtpdnfcgdcndhpaaDoor
open Go.RowKit

attribute [local go_sem ↓] Go.wp_at_zero Go.wp_at_succ
theorem av_len (p : AV) : (av p).length = 11 := rfl
theorem flatA_get : ∀ (L : List AV) (i : Nat) (p : AV) (j : Nat), L[i]? = some p → j < 11 → (flatA L)[i * 11 + j]? = (av p)[j]?
  | [], i, p, j, h, _ => by simp at h
  | q :: L, 0, p, j, h, hj => by
    simp only [List.getElem?_cons_zero, Option.some.injEq] at h
    subst h
    show (av q ++ flatA L)[0 * 11 + j]? = _
    rw [Nat.zero_mul, Nat.zero_add, List.getElem?_append_left (by rw [av_len]; exact hj)]
  | q :: L, i + 1, p, j, h, hj => by
    show (av q ++ flatA L)[(i + 1) * 11 + j]? = _
    rw [List.getElem?_append_right (by rw [av_len]; omega), av_len, show (i + 1) * 11 + j - 11 = i * 11 + j by omega]
    exact flatA_get L i p j (by simpa using h) hj
/-- An act in a slice that is read. -/
theorem act_row {w : World} {A : Option Addr} {n c i : Nat} {L : List AV} {p : AV} (h : Sl w 11 (.slice A n c) n (flatA L)) (hp : L[i]? = some p) :
    ∃ b o, A = some ⟨b, o, none⟩ ∧ b < w.heap.size ∧ ∀ j, j < 11 → w.cell? ⟨b, o + (i * 11 + j), none⟩ = (av p)[j]? := by
  obtain ⟨A', c', e', hr, _⟩ := h
  injection e' with e1 _ e2
  subst e1
  have hg := fun j hj => flatA_get L i p j hp hj
  rcases hr with h0 | ⟨ad, rfl, hc⟩
  · have := hg 0 (by decide)
    rw [h0] at this
    simp [av, ActP.cells] at this
  · have hu : ∀ j, j < 11 → ∃ u, (av p)[j]? = some u := fun j hj => ⟨(av p)[j]'(by rw [av_len]; exact hj), List.getElem?_eq_getElem _⟩
    have h1 : ∀ j, j < 11 → w.cell? (ad.add (i * 11 + j)) = (av p)[j]? := fun j hj => by
      obtain ⟨u, hu⟩ := hu j hj
      rw [hu]
      exact hc _ _ ((hg j hj).trans hu)
    obtain ⟨b, o, spot⟩ := ad
    obtain ⟨q, hq⟩ : ∃ q, L[0]? = some q := ⟨L[0]'(by have := (List.getElem?_eq_some_iff.1 hp).1; omega), List.getElem?_eq_getElem _⟩
    have hz := hc 0 _ ((flatA_get L 0 q 0 hq (by decide)).trans rfl)
    have es : spot = none := by
      have : (⟨b, o, spot⟩ : Addr).add 0 = ⟨b, o, spot⟩ := by unfold Addr.add; simp
      rw [this] at hz
      exact World.cell?_spot hz
    subst es
    simp only [Addr.add_lit] at h1
    refine ⟨b, o, rfl, ?_, h1⟩
    have := h1 0 (by decide)
    exact World.block_lt_of_cell? w _ (this.trans rfl)
/-- Acts in a slice that came in. -/
def AVr (w : World) (p : AV) : Prop := DataR w p.2.1 p.1.call.data ∧ KeepR w p.2.2 p.1.keep
def ActsR (w : World) (v : Value) (xs : List ActP) : Prop := ∃ (L : List AV) (A : Option Addr) (c : Nat), v = .slice A L.length c ∧ Sl w 11 (.slice A L.length c) L.length (flatA L) ∧ L.map Prod.fst = xs ∧ ∀ p ∈ L, AVr w p
theorem ActsR.below {w w' : World} {v : Value} {xs : List ActP} (h : ActsR w v xs) (hk : Below w.heap.size w w') : ActsR w' v xs := by
  obtain ⟨L, A, c, rfl, hs, he, ha⟩ := h
  exact ⟨L, A, c, rfl, hs.below hk, he, fun p hp => ⟨(ha p hp).1.below hk, (ha p hp).2.below hk⟩⟩
theorem ActsIs.r {w : World} {v : Value} {xs : List ActP} (h : ActsIs w v xs) : ActsR w v xs := by
  obtain ⟨L, A, c, rfl, hs, he, ha⟩ := h
  exact ⟨L, A, c, rfl, hs, he, fun p hp => ⟨(ha p hp).1.r, (ha p hp).2.r⟩⟩
def lnP (x : ActP) : Str := jnW (writeP x) ++ [10]
def scriptP (xs : List ActP) : Str × Int := if xs.all okP then (if 65536 < (xs.flatMap lnP).length ∨ 4096 < xs.length then ([], 9) else (xs.flatMap lnP, 0)) else ([], 1)
theorem lnP_len {x : ActP} (h : ActOk x) (hs : SmallA x 1048576) : (lnP x).length ≤ 390000000 := by
  have h1 := writeP_tot x _ h hs
  have h2 := jnW_len (writeP x)
  unfold lnP
  rw [List.length_append, List.length_singleton]
  omega
theorem lns_len : ∀ (xs : List ActP), (∀ x ∈ xs, ActOk x ∧ SmallA x 1048576) → (xs.flatMap lnP).length ≤ xs.length * 390000000
  | [], _ => by simp
  | x :: xs, h => by
    have h1 := lnP_len (h x (by simp)).1 (h x (by simp)).2
    have h2 := lns_len xs (fun y hy => h y (by simp [hy]))
    rw [List.flatMap_cons, List.length_append, List.length_cons, Nat.add_mul]
    omega
def ScInv (L : List AV) (w : World) (v : Value) (wr : World) : Prop := ∃ i : Nat, i ≤ L.length ∧ v = .int .i64 (i : Int) ∧ BD w.heap.size w.heap.size (((L.take i).map Prod.fst).flatMap lnP) wr ∧ Below w.heap.size w wr ∧ ∀ p ∈ L.take i, okP p.1 = true
theorem take_snoc' {α : Type} {l : List α} {i : Nat} {x : α} (h : l[i]? = some x) : l.take (i + 1) = l.take i ++ [x] := by rw [List.take_add_one, h]; rfl
set_option maxRecDepth 100000 in
set_option maxHeartbeats 8000000 in
theorem script_walk {B : Nat} (v : Value) (xs : List ActP) (w : World) (hw : WV B w) (hv : ActsR w v xs) (hok : ∀ x ∈ xs, ActOk x ∧ SmallA x 1048576) (hn : xs.length ≤ 100000) :
    Calls Tryd.prog 18 #[v] w fun e w' => e = .returned (.tuple #[.string ⟨(scriptP xs).1.toArray⟩, .int .i64 (scriptP xs).2]) ∧ Below w.heap.size w w' := by
  obtain ⟨L, A, c, rfl, hsl, rfl, hav⟩ := hv
  rw [List.length_map] at hn
  have HV := Lib.hid hw
  have HSL := Lib.hid hsl
  have HAV := Lib.hid hav
  have HOK := Lib.hid hok
  have HLN := Lib.hid (fun i => lns_len ((L.take i).map Prod.fst) (fun x hx => by
    obtain ⟨p, hp, rfl⟩ := List.mem_map.1 hx
    exact hok _ (List.mem_map.2 ⟨p, List.mem_of_mem_take hp, rfl⟩)))
  clear hw hsl hav hok
  obtain ⟨fin, hfin⟩ : ∃ fin, fin = scriptP (L.map Prod.fst) := ⟨_, rfl⟩
  rw [← hfin]
  have HFIN := Lib.hid hfin
  clear hfin
  obtain ⟨w1, hw1⟩ : ∃ w1, w1 = w.alloc (.cells #[.pointer none, .slice none 0 0] 67) := ⟨_, rfl⟩
  have hbd : BD w.heap.size w.heap.size [] w1 := by rw [hw1]; exact BD.new w _ (Nat.le_refl _)
  have hb1 : Below w.heap.size w w1 := by rw [hw1]; exact (Below.refl _ w).alloc (Nat.le_refl _) _
  have HW1 := Lib.hid hw1
  have HBD := Lib.hid hbd
  have HB1 := Lib.hid hb1
  have hwz : w.heap.size ≤ w1.heap.size := hb1.size
  clear hw1 hbd hb1
  go_enter Tryd.func18, Tryd.ntmps18
  go_upto_region 2 with fail
  rw [← HW1.out]
  go_upto_region 3 with fail
  go_loopw [11] (fun v wr => ScInv L w v wr) (fun v _ => L.length - (intOf v).toNat)
  case atStart => exact ⟨0, Nat.zero_le _, rfl, by simpa using HBD.out, HB1.out, by simp⟩
  case round =>
    obtain ⟨i, hi, rfl, hbd, hb, hall⟩ := hrel
    have HD := Lib.hid hbd
    have HB := Lib.hid hb
    have HALL := Lib.hid hall
    have hwr : w.heap.size ≤ wr.heap.size := hb.size
    have hti : (L.take i).length ≤ i := List.length_take_le _ _
    have hll := HLN.out i
    rw [List.length_map] at hll
    clear hbd hb hall
    by_cases hlt : i < L.length
    · obtain ⟨p, hp⟩ : ∃ p, L[i]? = some p := ⟨L[i], List.getElem?_eq_getElem hlt⟩
      obtain ⟨b, o, rfl, hbl, hrow⟩ := act_row (HSL.out.below HB.out) hp
      have hpok := HOK.out p.1 (List.mem_map.2 ⟨p, List.mem_of_getElem? hp, rfl⟩)
      obtain ⟨hd0, hk0⟩ := HAV.out p (List.mem_of_getElem? hp)
      have hlp := lnP_len hpok.1 hpok.2
      have HTK := Lib.hid (take_snoc' hp)
      have HPM := Lib.hid hp
      obtain ⟨x, dv, kv⟩ := p
      simp only at hpok hlp hd0 hk0
      obtain ⟨DA, dc, rfl, hds⟩ := hd0
      obtain ⟨KA, kc, rfl, hks⟩ := hk0
      have HDS := Lib.hid hds
      have HKS := Lib.hid hks
      have i0 : (0 : Int) ≤ (i : Int) := by omega
      have i1 : (i : Int) < (L.length : Int) := by omega
      have c0 : wr.cell? ⟨b, o + i * 11, none⟩ = some (.int .i64 x.kind) := hrow 0 (by decide)
      have c1 : wr.cell? ⟨b, o + i * 11 + 1, none⟩ = some (.int .i64 x.a) := hrow 1 (by decide)
      have c2 : wr.cell? ⟨b, o + i * 11 + 2, none⟩ = some (.int .i64 x.n) := hrow 2 (by decide)
      have c3 : wr.cell? ⟨b, o + i * 11 + 3, none⟩ = some (.int .i64 x.call.kind) := hrow 3 (by decide)
      have c4 : wr.cell? ⟨b, o + i * 11 + 4, none⟩ = some (.string ⟨x.call.path.toArray⟩) := hrow 4 (by decide)
      have c5 : wr.cell? ⟨b, o + i * 11 + 5, none⟩ = some (.string ⟨x.call.other.toArray⟩) := hrow 5 (by decide)
      have c6 : wr.cell? ⟨b, o + i * 11 + 6, none⟩ = some (.int .i64 x.call.file) := hrow 6 (by decide)
      have c7 : wr.cell? ⟨b, o + i * 11 + 7, none⟩ = some (.int .i64 x.call.at_) := hrow 7 (by decide)
      have c8 : wr.cell? ⟨b, o + i * 11 + 8, none⟩ = some (.int .i64 x.call.size) := hrow 8 (by decide)
      have c9 : wr.cell? ⟨b, o + i * 11 + 9, none⟩ = some (.slice DA x.call.data.length dc) := hrow 9 (by decide)
      have c10 : wr.cell? ⟨b, o + i * 11 + 10, none⟩ = some (.slice KA x.keep.length kc) := hrow 10 (by decide)
      have HLW := Lib.hid (fun W (hb : Below w.heap.size w W) => line_walk x (.slice DA x.call.data.length dc) (.slice KA x.keep.length kc) W hpok.1 (HV.out.below hb) ⟨DA, dc, rfl, HDS.out.below hb⟩ ⟨KA, kc, rfl, HKS.out.below hb⟩)
      unfold ActP.cells at HLW
      clear hp hrow hds hks
      go_wp2_with fail
      obtain ⟨w2, hw2⟩ : ∃ w2, w2 = wr.alloc (.cells #[.int .i64 x.kind, .int .i64 x.a, .int .i64 x.n, .int .i64 x.call.kind, .string ⟨x.call.path.toArray⟩, .string ⟨x.call.other.toArray⟩, .int .i64 x.call.file, .int .i64 x.call.at_, .int .i64 x.call.size, .slice DA x.call.data.length dc, .slice KA x.keep.length kc] 27) := ⟨_, rfl⟩
      rw [← hw2]
      have hb2 : Below wr.heap.size wr w2 := by rw [hw2]; exact (Below.refl _ wr).alloc (Nat.le_refl _) _
      have B2 := Lib.hid (HB.out.trans (hb2.mono hwr))
      have D2 := Lib.hid (HD.out.below hb2)
      have HL := Lib.hid (HLW.out w2 B2.out)
      clear hw2 hb2
      refine HL.out.mono ?_
      rintro e w3 ⟨rfl, hb3⟩
      have B3 := Lib.hid (B2.out.trans (hb3.mono B2.out.size))
      have D3 := Lib.hid (D2.out.below hb3)
      have z3 := B3.out.size
      have HLS := Lib.hid (show lineS x = if okP x then jnW (writeP x) else [] from rfl)
      have HLE := Lib.hid (show lineE x = if okP x then 0 else 1 from rfl)
      clear hb3
      by_cases hq : okP x = true
      · have HL0 := Lib.hid (show lineE x = 0 by rw [HLE.out, if_pos hq])
        have HL1 := Lib.hid (show lineS x = jnW (writeP x) by rw [HLS.out, if_pos hq])
        rw [HL0.out, HL1.out]
        have HBA : Hid ((⟨(jnW (writeP x)).toArray⟩ : ByteArray) ++ ⟨#[10]⟩ = ⟨(lnP x).toArray⟩) := Lib.hid (by unfold lnP; rw [← ba_append])
        have HWS := Lib.hid (writeStr_walk w.heap.size w.heap.size (((L.take i).map Prod.fst).flatMap lnP) (lnP x) w3 D3.out z3 (by omega))
        have hjl : (jnW (writeP x)).length ≤ 390000000 := by unfold lnP at hlp; rw [List.length_append] at hlp; omega
        have HOKX := Lib.hid hq
        clear hq
        go_wp2_with fail
        rw [HBA.out]
        refine HWS.out.mono ?_
        rintro e w4 ⟨rfl, hd4, hb4⟩
        have D4 := Lib.hid hd4
        have B4 := Lib.hid (B3.out.trans hb4)
        clear hd4 hb4
        go_wp2
        go_roundw
        case rel => exact ⟨i + 1, by omega, by go_num, by rw [HTK.out, List.map_append, List.flatMap_append]; simpa using D4.out, B4.out, fun p hp => by
          rw [HTK.out] at hp
          rcases List.mem_append.1 hp with hp | hp
          · exact HALL.out p hp
          · rw [List.mem_singleton.1 hp]; exact HOKX.out⟩
        case measure => simp [intOf]; omega
      · have HL0 := Lib.hid (show lineE x = 1 by rw [HLE.out, if_neg hq])
        have HL1 := Lib.hid (show lineS x = [] by rw [HLS.out, if_neg hq])
        have HF := Lib.hid (show fin = ([], 1) by
          rw [HFIN.out, scriptP, if_neg]
          intro h
          exact hq (List.all_eq_true.1 h x (List.mem_map.2 ⟨_, List.mem_of_getElem? HPM.out, rfl⟩)))
        rw [HL0.out, HL1.out]
        clear hq
        go_wp2
        go_ret2
        exact ⟨by rw [HF.out]; rfl, B3.out⟩
    · obtain rfl : i = L.length := by omega
      have hall := HALL.out
      rw [List.take_length] at hall HD hll
      have hALL : (L.map Prod.fst).all okP = true := List.all_eq_true.2 (fun y hy => by
        obtain ⟨p, hp, rfl⟩ := List.mem_map.1 hy
        exact hall p hp)
      obtain ⟨txt, htxt⟩ : ∃ txt, txt = (L.map Prod.fst).flatMap lnP := ⟨_, rfl⟩
      have HFF := Lib.hid (show fin = if 65536 < txt.length ∨ 4096 < L.length then ([], 9) else (txt, 0) by
        rw [HFIN.out, scriptP, if_pos hALL, ← htxt, List.length_map])
      rw [← htxt] at HD hll
      have i1 : ¬ ((L.length : Nat) : Int) < (L.length : Int) := by omega
      have HLL := Lib.hid (Tryd.Builder_Len w.heap.size w.heap.size (Lib.byteCells txt) wr HD.out.is)
      rw [show (Lib.byteCells txt).length = txt.length by simp [Lib.byteCells]] at HLL
      clear htxt hall hALL
      by_cases h1 : 65536 < txt.length
      · have HF := Lib.hid (show fin = ([], 9) by rw [HFF.out, if_pos (.inl h1)])
        have g1 : (65536 : Int) < (txt.length : Int) := by omega
        go_wp2_with fail
        refine HLL.out.mono ?_
        rintro e w2 ⟨rfl, rfl⟩
        go_wp2
        go_ret2
        exact ⟨by rw [HF.out]; rfl, HB.out⟩
      · have g1 : ¬ (65536 : Int) < (txt.length : Int) := by omega
        by_cases h2 : 4096 < L.length
        · have HF := Lib.hid (show fin = ([], 9) by rw [HFF.out, if_pos (.inr h2)])
          have g2 : (4096 : Int) < (L.length : Int) := by omega
          go_wp2_with fail
          refine HLL.out.mono ?_
          rintro e w2 ⟨rfl, rfl⟩
          go_wp2
          go_ret2
          exact ⟨by rw [HF.out]; rfl, HB.out⟩
        · have HF := Lib.hid (show fin = (txt, 0) by rw [HFF.out, if_neg (by omega)])
          have g2 : ¬ (4096 : Int) < (L.length : Int) := by omega
          have HST : Hid (Calls Tryd.prog 33 #[.pointer (some ⟨w.heap.size, 0, none⟩)] wr fun e w' => e = .returned (.string ⟨txt.toArray⟩) ∧ Below w.heap.size wr w') := Lib.hid (by
            by_cases he : txt = []
            · subst he
              exact Tryd.Builder_String_empty w.heap.size w.heap.size wr HD.out.is hwr
            · exact Tryd.Builder_String w.heap.size w.heap.size txt wr HD.out.is he)
          go_wp2_with fail
          refine HLL.out.mono ?_
          rintro e w2 ⟨rfl, rfl⟩
          go_wp2_with fail
          refine HST.out.mono ?_
          rintro e w3 ⟨rfl, hb3⟩
          have B3 := Lib.hid (HB.out.trans hb3)
          clear hb3
          go_wp2
          go_ret2
          exact ⟨by rw [HF.out]; rfl, B3.out⟩
end Go.Proofs.YtpdnfcgdcndhpaaDoor
