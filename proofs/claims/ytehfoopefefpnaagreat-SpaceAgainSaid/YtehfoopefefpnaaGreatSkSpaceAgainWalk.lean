/- Words and contracts that the proofs of this set use; each part says what it holds. -/
import Derived.ProofKit
import Derived.SizedLaws
import Derived.Deep.Slices
import Derived.Deep.Strs
import Derived.ChangeOld
import Derived.Test.YtehfoopefefpnaaGreatSkFs
import Derived.Test.YtehfoopefefpnaaGreatSk0
/- The walk of SpaceAgain. -/
set_option linter.unusedSimpArgs false
set_option linter.unusedVariables false
namespace Go.Proofs.YtehfoopefefpnaaGreat
open Go.RowKit

attribute [local go_sem ↓] Go.wp_at_zero Go.wp_at_succ
def pw (F : Nat → Fs) (i p : Nat) (d : List UInt8) : Nat → Fs := if d.length = 0 then F else updF F i ((F i).write p d)
def PwwP (B : Nat) (c : SWc) (F : Nat → Fs) (K : Nat) (w0 : World) (e : Ending) (w' : World) : Prop := e = .returned (.int .i64 0) ∧ TwoU B c F K w' ∧ Below B w0 w'
theorem wT12 {p l : Nat} (hl : l ≤ 250) : (wT p l).length ≤ 12 := by
  have := wT_len p l
  have h3 : (p + l - 1) / 128 + 1 - p / 128 ≤ 4 := by omega
  omega
theorem piece_write {B : Nat} {c : SWc} {F : Nat → Fs} {K : Nat} {w0 w : World} (h : TwoC B c F K w) (hb : Below B w0 w) (hB : B = w0.heap.size) (i : Nat) (hi : i < 2) (p : Nat) (d : List UInt8) (hd : d.length ≤ 250) (hp : p + d.length ≤ 9728) (hK : K + 12 < c.N - 43) (A : Option Addr) (cc n : Nat) (hn : n = d.length) (hsl : Sl w 1 (.slice A n cc) n (bv d)) (hA : ∀ j, A.map (·.block) = some j → j < B) :
    Calls Tryz.prog 12 #[.pointer (some ⟨c.p.k, 0, none⟩), .int .i64 ((2 + i : Nat) : Int), .int .i64 (p : Int), .slice A n cc] w (PwwP B c (pw F i p d) (K + 12) w0) := by
  subst hn
  have hT := wT12 (p := p) hd
  by_cases h0 : d.length = 0
  · rw [show pw F i p d = F from if_pos h0, h0]
    refine (two_none h.u i hi p A cc).mono ?_
    rintro e w' ⟨rfl, h1, hb'⟩
    obtain ⟨U, V, m, xs, a, g1, g2, g3⟩ := h1
    exact ⟨rfl, ⟨U, V, m, xs, a, g1, g2, by omega⟩, hb.trans (hb'.mono (by rw [hB]; exact hb.size))⟩
  · rw [show pw F i p d = updF F i ((F i).write p d) from if_neg h0]
    have hnw := h.u.nw
    refine (two_write h i hi p d (by omega) hp (by omega) (by omega) A cc hsl (fun j hj => by have := hA j hj; omega)).mono ?_
    rintro e w' ⟨rfl, h1, hk⟩
    obtain ⟨U, V, m, xs, a, g1, g2, g3⟩ := h1
    exact ⟨rfl, ⟨U, V, m, xs, a, g1, g2, by omega⟩, h.u.fwk hb hB hk⟩
def PcP (B : Nat) (c : SWc) (F : Nat → Fs) (K : Nat) (w0 : World) (e : Ending) (w' : World) : Prop := ∃ c', c'.p = c.p ∧ c'.N = c.N ∧ e = .returned (.int .i64 0) ∧ TwoC B c' F K w' ∧ Below B w0 w'
theorem piece_commit {B : Nat} {c : SWc} {F : Nat → Fs} {K : Nat} {w0 w : World} (h : TwoU B c F K w) (hb : Below B w0 w) (hB : B = w0.heap.size) :
    Calls Tryz.prog 16 #[.pointer (some ⟨c.p.k, 0, none⟩)] w (PcP B c F K w0) := by
  refine (two_commit h).mono ?_
  rintro e w' ⟨c', h1, h2, _, rfl, h3, hk⟩
  exact ⟨c', h1, h2, rfl, h3, h.cmk hb hB hk⟩
theorem slice_to (ad : Addr) (n c k : Nat) (hk : k ≤ c) (W : World) : (Instr.slice 22 (.slice (some ad) n c) none (some (.int .i64 (k : Int))) none).run Tryz.prog W = .ok (.slice (some ad) k c) W := by
  have i0 : (0 : Int) ≤ (k : Int) := by omega
  have i1 : (k : Int) ≤ (c : Int) := by omega
  simp [go_sem, i0, i1]
theorem sl_take {w : World} {A : Option Addr} {n c k : Nat} {d : List UInt8} (h : Sl w 1 (.slice A n c) n (bv d)) (hk : k ≤ n) (hA : A ≠ none) : Sl w 1 (.slice A k c) k (bv (d.take k)) := by
  obtain ⟨A0, c0, e, hr, _, hc, hl⟩ := h
  injection e with e1 e2 e3
  subst e1 e3
  have hd : d.length = n := by rw [bv_length, Nat.mul_one] at hl; exact hl
  refine ⟨A, c, rfl, ?_, fun e => absurd e hA, by omega, by rw [bv_length, List.length_take, hd]; omega⟩
  rcases hr with h0 | ⟨ad, e, hcs⟩
  · left
    rw [bv_eq_nil] at h0 ⊢
    rw [h0, List.take_nil]
  · right
    refine ⟨ad, e, fun j u hu => hcs j u ?_⟩
    unfold bv at hu ⊢
    rw [List.map_take, List.getElem?_take] at hu
    split at hu
    · exact hu
    · cases hu
def aF1 (p : Nat) (d : List UInt8) : Nat → Fs := pw fNil 0 p d
def aF2 (p : Nat) (d : List UInt8) : Nat → Fs := pw (aF1 p d) 0 p d
def aF3 (p k : Nat) (d : List UInt8) : Nat → Fs := pw (aF2 p d) 1 p (d.take k)
def aF4 (p k : Nat) (d : List UInt8) : Nat → Fs := pw (aF3 p k d) 1 (p + k) (d.drop k)
theorem again_F (p k : Nat) (d : List UInt8) (hk : k < d.length) : (secN (aF2 p d 0).blk + secN (aF2 p d 1).blk = secN (aF1 p d 0).blk + secN (aF1 p d 1).blk) ∧ (aF4 p k d 0).size = p + d.length ∧ (aF4 p k d 1).size = p + d.length ∧ (aF4 p k d 1).ct = (aF4 p k d 0).ct ∧ (aF4 p k d 1).blk = (aF4 p k d 0).blk := by
  have e1 : aF1 p d = updF fNil 0 (Fs.nil.write p d) := if_neg (by omega)
  have e10 : aF1 p d 0 = Fs.nil.write p d := by rw [e1, updF_same]
  have e11 : aF1 p d 1 = Fs.nil := by rw [e1, updF_ne _ _ (by decide)]; rfl
  have e2 : aF2 p d = updF (aF1 p d) 0 ((aF1 p d 0).write p d) := if_neg (by omega)
  have e20 : aF2 p d 0 = (Fs.nil.write p d).write p d := by rw [e2, updF_same, e10]
  have e21 : aF2 p d 1 = Fs.nil := by rw [e2, updF_ne _ _ (by decide), e11]
  have e4 : aF4 p k d = updF (aF3 p k d) 1 ((aF3 p k d 1).write (p + k) (d.drop k)) := if_neg (by rw [List.length_drop]; omega)
  have e30 : aF3 p k d 0 = (Fs.nil.write p d).write p d := by
    unfold aF3 pw
    split
    · exact e20
    · rw [updF_ne _ _ (by decide), e20]
  have e40 : aF4 p k d 0 = (Fs.nil.write p d).write p d := by rw [e4, updF_ne _ _ (by decide), e30]
  have hs0 : (aF4 p k d 0).size = p + d.length := by
    rw [e40]
    show max (max 0 (p + d.length)) (p + d.length) = _
    omega
  have h41 : (aF4 p k d 1).size = p + d.length ∧ (aF4 p k d 1).ct = (Fs.nil.write p d).ct ∧ (aF4 p k d 1).blk = (Fs.nil.write p d).blk := by
    rw [e4, updF_same]
    by_cases h0 : k = 0
    · subst h0
      have : aF3 p 0 d 1 = Fs.nil := by
        unfold aF3 pw
        rw [if_pos (by simp), e21]
      rw [this, List.drop_zero, Nat.add_zero]
      refine ⟨?_, rfl, rfl⟩
      show max 0 (p + d.length) = _
      omega
    · have : aF3 p k d 1 = Fs.nil.write p (d.take k) := by
        unfold aF3 pw
        rw [if_neg (by rw [List.length_take]; omega), updF_same, e21]
      rw [this]
      exact parted (by omega) hk
  refine ⟨?_, hs0, h41.1, ?_, ?_⟩
  · rw [e20, e21, e10, e11, again_blk]
  · rw [h41.2.1, e40, again_ct]
  · rw [h41.2.2, e40, again_blk]
set_option maxRecDepth 100000 in
set_option maxHeartbeats 16000000 in
theorem again_walk (at_ ct : Nat) (ha : at_ ≤ 65535) (hc : ct ≤ 255) (d : List UInt8) (A : Option Addr) (cc : Nat) (w : World) (hsl : Sl w 1 (.slice A d.length cc) d.length (bv d)) :
    Calls Tryz.prog 5 #[.int .u16 (at_ : Int), .slice A d.length cc, .int .u8 (ct : Int)] w fun e w' => e = .returned (.bool true) ∧ Below w.heap.size w w' := by
  have HBE : Hid (Calls Tryz.prog 8 #[.int .i64 200] w (BgS 200 w)) := Lib.hid (begin14_walk 200 (by decide) (by decide) w)
  obtain ⟨dl, hdl⟩ : ∃ z, z = d.length := ⟨_, rfl⟩
  have HDL := Lib.hid hdl
  rw [← hdl] at hsl ⊢
  have HSL := Lib.hid hsl
  have v1 : IntKind.i64.wrap (at_ : Int) = (at_ : Int) := IntWalk.i64_in _ (by omega)
  have v3 : IntKind.i64.wrap (ct : Int) = (ct : Int) := IntWalk.i64_in _ (by omega)
  obtain ⟨p, hp⟩ : ∃ p : Nat, p = at_ % 9000 := ⟨_, rfl⟩
  have p1 : (at_ : Int) % 9000 = (p : Int) := by omega
  have p2 : IntKind.i64.wrap (p : Int) = (p : Int) := IntWalk.i64_in _ (by omega)
  have hp9 : p < 9000 := by omega
  clear hsl hdl hp ha
  by_cases hok : 1 ≤ dl ∧ dl ≤ 250
  case neg =>
    go_enter Tryz.func5, Tryz.ntmps5
    go_wp2_with fail
    refine HBE.out.mono ?_
    rintro r' w1 ⟨c, rfl, hsw1, hcN, hcs, hb1⟩
    have HAW := Lib.hid (awake14_walk w1)
    have HB1 := Lib.hid hb1
    clear hsw1 hb1 hcN hcs
    go_wp2_with fail
    refine HAW.out.mono ?_
    rintro r' w2 ⟨rfl, hb2⟩
    have HAW2 := Lib.hid (awake14_walk w2)
    have HB2 := Lib.hid (bstep HB1.out hb2)
    clear hb2
    by_cases h0 : dl = 0
    · have k0 : ((dl : Int) == 0) = true := by rw [h0]; rfl
      have k0' : (dl : Int) = 0 := by rw [h0]; rfl
      clear hok h0
      go_wp2_with fail
      refine HAW2.out.mono ?_
      rintro r' w3 ⟨rfl, hb3⟩
      have HB3 := Lib.hid (bstep HB2.out hb3)
      clear hb3
      go_wp2
      go_ret
      exact ⟨rfl, HB3.out⟩
    · have k0 : ((dl : Int) == 0) = false := beq_eq_false_iff_ne.2 (by omega)
      have k0' : ¬ (dl : Int) = 0 := by omega
      have k1 : (250 : Int) < (dl : Int) := by omega
      clear hok h0
      go_wp2_with fail
      refine HAW2.out.mono ?_
      rintro r' w3 ⟨rfl, hb3⟩
      have HB3 := Lib.hid (bstep HB2.out hb3)
      clear hb3
      go_wp2
      go_ret
      exact ⟨rfl, HB3.out⟩
  case pos =>
    obtain ⟨ad, rfl⟩ : ∃ ad, A = some ad := by
      cases A with
      | some ad => exact ⟨ad, rfl⟩
      | none =>
        obtain ⟨_, _, e, _, hz, _⟩ := HSL.out
        injection e with e1 e2 e3
        subst e1
        have := (hz rfl).1
        omega
    obtain ⟨k, hk⟩ : ∃ k : Nat, k = ct % dl := ⟨_, rfl⟩
    have hkl : k < dl := by rw [hk]; exact Nat.mod_lt _ (by omega)
    have k0 : ((dl : Int) == 0) = false := beq_eq_false_iff_ne.2 (by omega)
    have k0' : ¬ (dl : Int) = 0 := by omega
    have k1 : ¬ (250 : Int) < (dl : Int) := by omega
    have q1 : (ct : Int) % (dl : Int) = (k : Int) := by rw [hk, Int.natCast_emod]
    have q2 : IntKind.i64.wrap (k : Int) = (k : Int) := IntWalk.i64_in _ (by omega)
    have q3 : IntKind.i64.wrap ((p : Int) + (k : Int)) = ((p + k : Nat) : Int) := by rw [IntWalk.i64_in _ (by omega)]; omega
    obtain ⟨pk, hpk⟩ : ∃ pk : Nat, pk = p + k := ⟨_, rfl⟩
    rw [← hpk] at q3
    have q4 : IntKind.i64.wrap ((p : Int) + (dl : Int)) = ((p + dl : Nat) : Int) := by rw [IntWalk.i64_in _ (by omega)]; omega
    obtain ⟨pe, hpe⟩ : ∃ pe : Nat, pe = p + dl := ⟨_, rfl⟩
    rw [← hpe] at q4
    have hccl : dl ≤ cc := by
      obtain ⟨_, c', e, _, _, h, _⟩ := HSL.out
      injection e with _ _ e
      omega
    have st := slice_to ad dl cc k (by omega)
    obtain ⟨A2, hs2, hsl2, hab2⟩ := slice_from (f := k) (by rw [← HDL.out]; exact HSL.out : Sl w 1 (.slice (some ad) d.length cc) d.length (bv d)) (by rw [← HDL.out]; omega) (by rw [← HDL.out]; omega)
    rw [← HDL.out] at hs2 hsl2
    have HSL2 := Lib.hid hsl2
    have HSL1 := Lib.hid (sl_take HSL.out (show k ≤ dl by omega) (by intro e; cases e))
    have HAJ : Hid (∀ j, (some ad : Option Addr).map (·.block) = some j → j < w.heap.size) := Lib.hid (fun j hj => HSL.out.lt (k := j) (by rw [ownBlock_slice]; exact hj) (by
      intro e0
      rw [bv_eq_nil] at e0
      have h2 := HDL.out
      rw [e0] at h2
      have h2 : dl = 0 := h2
      omega))
    have HAJ2 : Hid (∀ j, A2.map (·.block) = some j → j < w.heap.size) := Lib.hid (fun j hj => HAJ.out j (by rw [← hab2]; exact hj))
    have HRG := Lib.hid (show 1 ≤ dl ∧ dl ≤ 250 ∧ k < dl ∧ p < 9000 ∧ pk = p + k ∧ pe = p + dl from ⟨hok.1, hok.2, hkl, hp9, hpk, hpe⟩)
    clear hsl2 hab2 hk hkl hok hpk hpe hp9 hccl
    go_enter Tryz.func5, Tryz.ntmps5
    go_wp2_with fail
    refine HBE.out.mono ?_
    rintro r' w1 ⟨c, rfl, hsw1, hcN, hcs, hb1⟩
    have HAW := Lib.hid (awake14_walk w1)
    have HSW1 := Lib.hid hsw1
    have HB1 := Lib.hid hb1
    have HCN := Lib.hid hcN
    have HCS := Lib.hid hcs
    clear hsw1 hb1 hcN hcs
    go_wp2_with fail
    refine HAW.out.mono ?_
    rintro r' w2 ⟨rfl, hb2⟩
    have HNW := Lib.hid (begin_new (HSW1.out.below hb2) HCS.out)
    have HB2 := Lib.hid (bstep HB1.out hb2)
    have HSW2 := Lib.hid (HSW1.out.below hb2)
    clear hb2
    go_wp2_with fail
    refine HNW.out.mono ?_
    rintro r' w3 ⟨rfl, hsw3, hk3⟩
    have hb3 := nwk_below HSW2.out HB2.out rfl hk3
    have HB3 := Lib.hid hb3
    have HSW3 := Lib.hid hsw3
    have HNW2 := Lib.hid (two_new (w := w) hsw3 HCS.out)
    clear hsw3 hk3 hb3
    go_wp2_with fail
    refine HNW2.out.mono ?_
    rintro r' w4 ⟨rfl, htu4, hk4⟩
    have hb4 := nwk_below HSW3.out HB3.out rfl hk4
    have HCM4 := Lib.hid (piece_commit htu4 hb4 rfl)
    have HP : Hid (c.nw.nw.p = c.p ∧ c.nw.nw.N = 200) := Lib.hid ⟨rfl, HCN.out⟩
    have HCM4 : Hid (Calls Tryz.prog 16 #[.pointer (some ⟨c.p.k, 0, none⟩)] w4 (PcP w.heap.size c.nw.nw fNil 0 w)) := Lib.hid HCM4.out
    clear htu4 hk4 hb4
    go_wp2_with fail
    refine HCM4.out.mono ?_
    rintro r' w5 ⟨c5, hp5, hn5, rfl, htc5, hb5⟩
    have hp5 : c5.p = c.p := hp5
    have hn5 : c5.N = 200 := hn5.trans HP.out.2
    have hw5 := piece_write htc5 hb5 rfl 0 (by decide) p d (by rw [← HDL.out]; exact HRG.out.2.1) (by rw [← HDL.out]; have := HRG.out; omega) (by rw [hn5]; decide) (some ad) cc dl HDL.out (HSL.out.below hb5) HAJ.out
    rw [hp5] at hw5
    have HW5 : Hid (Calls Tryz.prog 12 #[.pointer (some ⟨c.p.k, 0, none⟩), .int .i64 2, .int .i64 (p : Int), .slice (some ad) dl cc] w5 _) := Lib.hid hw5
    have HP5 := Lib.hid hp5
    have HN5 := Lib.hid hn5
    clear hp5 hn5 htc5 hb5 hw5
    go_wp2_with fail
    refine HW5.out.mono ?_
    rintro r' w6 ⟨rfl, htu6, hb6⟩
    have HCM6 := Lib.hid (piece_commit htu6 hb6 rfl)
    rw [HP5.out] at HCM6
    clear htu6 hb6
    go_wp2_with fail
    refine HCM6.out.mono ?_
    rintro r' w7 ⟨c7, hp7, hn7, rfl, htc7, hb7⟩
    have hp7 : c7.p = c.p := hp7.trans HP5.out
    have hn7 : c7.N = 200 := hn7.trans HN5.out
    obtain ⟨fv, hfv⟩ : ∃ fv : Nat, fv = 200 - 43 - (secN (aF1 p d 0).blk + secN (aF1 p d 1).blk) := ⟨_, rfl⟩
    have hfr := two_free (F := aF1 p d) htc7.u
    rw [hp7, hn7, ← hfv] at hfr
    have HFR7 := Lib.hid hfr
    have HFV := Lib.hid hfv
    have HTC7 := Lib.hid (show TwoC w.heap.size c7 (aF1 p d) (0 + 12) w7 from htc7)
    have HP7 := Lib.hid hp7
    have HN7 := Lib.hid hn7
    have HB7 := Lib.hid hb7
    clear hp7 hn7 htc7 hb7 hfr hfv
    go_wp2_with fail
    refine HFR7.out.mono ?_
    rintro r' w8 ⟨rfl, hb8⟩
    have hw8 := piece_write (HTC7.out.below hb8) (bstep HB7.out hb8) rfl 0 (by decide) p d (by rw [← HDL.out]; exact HRG.out.2.1) (by rw [← HDL.out]; have := HRG.out; omega) (by rw [HN7.out]; decide) (some ad) cc dl HDL.out (HSL.out.below (bstep HB7.out hb8)) HAJ.out
    rw [HP7.out] at hw8
    have HW8 : Hid (Calls Tryz.prog 12 #[.pointer (some ⟨c.p.k, 0, none⟩), .int .i64 2, .int .i64 (p : Int), .slice (some ad) dl cc] w8 (PwwP w.heap.size c7 (aF2 p d) (0 + 12 + 12) w)) := Lib.hid hw8
    clear hb8 hw8
    go_wp2_with fail
    refine HW8.out.mono ?_
    rintro r' w9 ⟨rfl, htu9, hb9⟩
    have hfr := two_free htu9
    rw [HP7.out, HN7.out, (again_F p k d (by rw [← HDL.out]; exact HRG.out.2.2.1)).1, ← HFV.out] at hfr
    have HFR9 := Lib.hid hfr
    have HTU9 := Lib.hid htu9
    have HB9 := Lib.hid hb9
    clear htu9 hb9 hfr
    go_wp2_with fail
    refine HFR9.out.mono ?_
    rintro r' w10 ⟨rfl, hb10⟩
    have HCM10 := Lib.hid (piece_commit (HTU9.out.below hb10) (bstep HB9.out hb10) rfl)
    rw [HP7.out] at HCM10
    clear hb10
    go_wp2_with fail
    refine HCM10.out.mono ?_
    rintro r' w11 ⟨c11, hp11, hn11, rfl, htc11, hb11⟩
    have hp11 : c11.p = c.p := hp11.trans HP7.out
    have hn11 : c11.N = 200 := hn11.trans HN7.out
    have hw11 := piece_write htc11 hb11 rfl 1 (by decide) p (d.take k) (by rw [List.length_take, ← HDL.out]; have := HRG.out; omega) (by rw [List.length_take, ← HDL.out]; have := HRG.out; omega) (by rw [hn11]; decide) (some ad) cc k (by rw [List.length_take, ← HDL.out]; have := HRG.out; omega) (HSL1.out.below hb11) HAJ.out
    rw [hp11] at hw11
    have HW11 : Hid (Calls Tryz.prog 12 #[.pointer (some ⟨c.p.k, 0, none⟩), .int .i64 3, .int .i64 (p : Int), .slice (some ad) k cc] w11 (PwwP w.heap.size c11 (aF3 p k d) (0 + 12 + 12 + 12) w)) := Lib.hid hw11
    have HP11 := Lib.hid hp11
    have HN11 := Lib.hid hn11
    clear hp11 hn11 htc11 hb11 hw11
    go_wp2_with fail
    refine HW11.out.mono ?_
    rintro r' w12 ⟨rfl, htu12, hb12⟩
    have HCM12 := Lib.hid (piece_commit htu12 hb12 rfl)
    rw [HP11.out] at HCM12
    clear htu12 hb12
    go_wp2_with fail
    refine HCM12.out.mono ?_
    rintro r' w13 ⟨c13, hp13, hn13, rfl, htc13, hb13⟩
    have hp13 : c13.p = c.p := hp13.trans HP11.out
    have hn13 : c13.N = 200 := hn13.trans HN11.out
    have hw13 := piece_write htc13 hb13 rfl 1 (by decide) (p + k) (d.drop k) (by rw [List.length_drop, ← HDL.out]; have := HRG.out; omega) (by rw [List.length_drop, ← HDL.out]; have := HRG.out; omega) (by rw [hn13]; decide) A2 (cc - k) (dl - k) (by rw [List.length_drop, ← HDL.out]) (HSL2.out.below hb13) HAJ2.out
    rw [hp13, ← HRG.out.2.2.2.2.1] at hw13
    have HW13 : Hid (Calls Tryz.prog 12 #[.pointer (some ⟨c.p.k, 0, none⟩), .int .i64 3, .int .i64 (pk : Int), .slice A2 (dl - k) (cc - k)] w13 (PwwP w.heap.size c13 (aF4 p k d) (0 + 12 + 12 + 12 + 12) w)) := Lib.hid (by
      unfold aF4
      rw [← HRG.out.2.2.2.2.1]
      exact hw13)
    have HP13 := Lib.hid hp13
    have HN13 := Lib.hid hn13
    clear hp13 hn13 htc13 hb13 hw13
    go_wp2_with fail
    refine HW13.out.mono ?_
    rintro r' w14 ⟨rfl, htu14, hb14⟩
    have HCM14 := Lib.hid (piece_commit htu14 hb14 rfl)
    rw [HP13.out] at HCM14
    clear htu14 hb14
    go_wp2_with fail
    refine HCM14.out.mono ?_
    rintro r' w15 ⟨c15, hp15, hn15, rfl, htc15, hb15⟩
    have hp15 : c15.p = c.p := hp15.trans HP13.out
    have hn15 : c15.N = 200 := hn15.trans HN13.out
    obtain ⟨z1, z2, z3, z4, z5⟩ := again_F p k d (by rw [← HDL.out]; exact HRG.out.2.2.1)
    rw [← HDL.out, ← HRG.out.2.2.2.2.2] at z2 z3
    obtain ⟨q, hq⟩ : ∃ q, q = secN (aF4 p k d 0).blk := ⟨_, rfl⟩
    have hpe9 : pe ≤ 9728 := by have := HRG.out; omega
    have HT15 := Lib.hid htc15.u
    have hR0 := fun (W : World) (hb : Below w15.heap.size w15 W) => two_read (htc15.u.below hb) 0 (by decide) (by rw [z2]; exact hpe9)
    have hR1 := fun (W : World) (hb : Below w15.heap.size w15 W) => two_read (htc15.u.below hb) 1 (by decide) (by rw [z3]; exact hpe9)
    have hS0 := fun (W : World) (hb : Below w15.heap.size w15 W) => two_sectors (htc15.u.below hb) 0 (by decide)
    have hS1 := fun (W : World) (hb : Below w15.heap.size w15 W) => two_sectors (htc15.u.below hb) 1 (by decide)
    have hF := fun (W : World) (hb : Below w15.heap.size w15 W) => two_free (htc15.u.below hb)
    have hbd := two_bound htc15.u
    change secN (aF4 p k d 0).blk + secN (aF4 p k d 1).blk ≤ 0 + 12 + 12 + 12 + 12 at hbd
    rw [hp15] at hR0 hR1 hS0 hS1 hF
    rw [hn15] at hF
    obtain ⟨X, hX⟩ : ∃ X : List UInt8, X = (List.range pe).map (aF4 p k d 0).ct := ⟨_, rfl⟩
    have hXl : X.length = pe := by rw [hX, List.length_map, List.length_range]
    have HR0 : Hid (∀ W, Below w15.heap.size w15 W → Calls Tryz.prog 10 #[.pointer (some ⟨c.p.k, 0, none⟩), .int .i64 2, .int .i64 0, .int .i64 9728] W fun e w' => ∃ A, e = .returned (.tuple #[.slice A pe pe, .int .i64 0]) ∧ Sl w' 1 (.slice A pe pe) pe (bv X) ∧ Below W.heap.size W w') := Lib.hid (fun W hb => (hR0 W hb).mono (fun e w' ⟨A, h1, h2, h3⟩ => by
      have h4 := h2.sl
      change e = .returned (.tuple #[.slice A (aF4 p k d 0).size (aF4 p k d 0).size, .int .i64 0]) at h1
      change Sl w' 1 (.slice A ((List.range (aF4 p k d 0).size).map (aF4 p k d 0).ct).length (aF4 p k d 0).size) _ (bv ((List.range (aF4 p k d 0).size).map (aF4 p k d 0).ct)) at h4
      rw [z2] at h1 h4
      rw [← hX, hXl] at h4
      exact ⟨A, h1, h4, h3⟩))
    have HR1 : Hid (∀ W, Below w15.heap.size w15 W → Calls Tryz.prog 10 #[.pointer (some ⟨c.p.k, 0, none⟩), .int .i64 3, .int .i64 0, .int .i64 9728] W fun e w' => ∃ A, e = .returned (.tuple #[.slice A pe pe, .int .i64 0]) ∧ Sl w' 1 (.slice A pe pe) pe (bv X) ∧ Below W.heap.size W w') := Lib.hid (fun W hb => (hR1 W hb).mono (fun e w' ⟨A, h1, h2, h3⟩ => by
      have h4 := h2.sl
      change e = .returned (.tuple #[.slice A (aF4 p k d 1).size (aF4 p k d 1).size, .int .i64 0]) at h1
      change Sl w' 1 (.slice A ((List.range (aF4 p k d 1).size).map (aF4 p k d 1).ct).length (aF4 p k d 1).size) _ (bv ((List.range (aF4 p k d 1).size).map (aF4 p k d 1).ct)) at h4
      rw [z3] at h1 h4
      rw [z4, ← hX, hXl] at h4
      exact ⟨A, h1, h4, h3⟩))
    have HS0 : Hid (∀ W, Below w15.heap.size w15 W → Calls Tryz.prog 11 #[.pointer (some ⟨c.p.k, 0, none⟩), .int .i64 2] W fun e w' => ∃ A, e = .returned (.tuple #[.slice A q q, .int .i64 0]) ∧ Below W.heap.size W w') := Lib.hid (fun W hb => by rw [hq]; exact hS0 W hb)
    have HS1 : Hid (∀ W, Below w15.heap.size w15 W → Calls Tryz.prog 11 #[.pointer (some ⟨c.p.k, 0, none⟩), .int .i64 3] W fun e w' => ∃ A, e = .returned (.tuple #[.slice A q q, .int .i64 0]) ∧ Below W.heap.size W w') := Lib.hid (fun W hb => by rw [hq, ← z5]; exact hS1 W hb)
    have HF : Hid (∀ W, Below w15.heap.size w15 W → Calls Tryz.prog 17 #[.pointer (some ⟨c.p.k, 0, none⟩)] W fun e w' => e = .returned (.int .i64 ((157 - (q + q) : Nat) : Int)) ∧ Below W.heap.size W w') := Lib.hid (fun W hb => by
      have := hF W hb
      change Calls _ _ _ W fun e w' => e = .returned (.int .i64 ((200 - 43 - (secN (aF4 p k d 0).blk + secN (aF4 p k d 1).blk) : Nat) : Int)) ∧ _ at this
      rw [z5, ← hq] at this
      exact this)
    rw [z5, ← hq] at hbd
    obtain ⟨fz, hfz⟩ : ∃ fz : Nat, fz = 157 - (q + q) := ⟨_, rfl⟩
    rw [← hfz] at HF
    have y1 : IntKind.i64.wrap (157 - (q : Int)) = 157 - (q : Int) := IntWalk.i64_in _ (by omega)
    have y2 : IntKind.i64.wrap (157 - (q : Int) - (q : Int)) = (fz : Int) := by rw [IntWalk.i64_in _ (by omega)]; omega
    have HB15 := Lib.hid hb15
    obtain ⟨Sz, hSz⟩ : ∃ S : ByteArray, S = ⟨X.toArray⟩ := ⟨_, rfl⟩
    have HSZ := Lib.hid hSz
    clear z1 z2 z3 z4 z5 hq hpe9 hR0 hR1 hS0 hS1 hF hbd hX hXl hfz htc15 hb15 hp15 hn15 hSz
    go_wp2_with fail
    refine (HR0.out w15 (Below.refl _ _)).mono ?_
    rintro r' w16 ⟨A16, rfl, hs16, hb16⟩
    have HS16 := Lib.hid hs16
    have HB16 := Lib.hid hb16
    clear hs16 hb16
    go_wp2_with fail
    refine (HR1.out w16 HB16.out).mono ?_
    rintro r' w17 ⟨A17, rfl, hs17, hb17⟩
    have HS17 := Lib.hid hs17
    have HT17 := Lib.hid hb17
    have HB17 := Lib.hid (bstep HB16.out hb17)
    clear hs17 hb17
    go_wp2_with fail
    refine (HS0.out w17 HB17.out).mono ?_
    rintro r' w18 ⟨A18, rfl, hb18⟩
    have HT18 := Lib.hid hb18
    have HB18 := Lib.hid (bstep HB17.out hb18)
    clear hb18
    go_wp2_with fail
    refine (HS1.out w18 HB18.out).mono ?_
    rintro r' w19 ⟨A19, rfl, hb19⟩
    have kc1 := conv_bytes (HS16.out.below (bstep HT17.out (bstep HT18.out hb19)))
    have kc2 := conv_bytes (HS17.out.below (bstep HT18.out hb19))
    rw [← HSZ.out] at kc1 kc2
    have HB19 := Lib.hid (bstep HB18.out hb19)
    clear hb19
    go_wp2_with fail
    refine (HF.out w19 HB19.out).mono ?_
    rintro r' w20 ⟨rfl, hb20⟩
    have HB20 := Lib.hid (bstep HB15.out (bstep HB19.out hb20))
    clear hb20
    go_wp2
    go_ret
    exact ⟨rfl, HB20.out⟩
theorem again_open (x y : Int) (hx : (Lit.int .u16 x).wf = true) (hy : (Lit.int .u8 y).wf = true) (b : List UInt8) (A : Option Addr) (c : Nat) (w : World) (h : Sl w 1 (.slice A b.length c) b.length (bv b)) :
    Calls Tryz.prog 5 #[.int .u16 x, .slice A b.length c, .int .u8 y] w fun e w' => e = .returned (.bool true) ∧ Below w.heap.size w w' := by
  simp only [Lit.wf, Bool.and_eq_true, decide_eq_true_eq] at hx hy
  have h1 : 0 ≤ x ∧ x ≤ 65535 := hx
  have h2 : 0 ≤ y ∧ y ≤ 255 := hy
  obtain ⟨a, rfl⟩ : ∃ a : Nat, x = (a : Int) := ⟨x.toNat, by omega⟩
  obtain ⟨d, rfl⟩ : ∃ a : Nat, y = (a : Int) := ⟨y.toNat, by omega⟩
  exact again_walk a d (by omega) (by omega) b A c w h
end Go.Proofs.YtehfoopefefpnaaGreat
/- What an argument that can be read looks like, type by type: numbers, texts, bytes, structs, slices. No program in sight. -/
set_option linter.unusedSimpArgs false
set_option linter.unusedVariables false
namespace Go.Proofs.YtehfoopefefpnaaGreat
open Go.RowKit Go.ChangeShapes Go.WideShapes Go.ChangeAt

/-- The cells cs can be read as a value of type t, and nothing in it is greater than a machine's memory. -/
def Opens (P : Program) (w : World) (t : TypeId) (cs : List Value) : Prop :=
  ∃ (H : Type) (enc : TypeId × Value → H) (fuel : Nat) (x : DataW H × List MemPlace), DataW.trod enc P w 0 (fun _ => true) true fuel t cs = some x ∧ ∀ n ∈ x.1.weights P t, n ≤ 140737488351232

theorem Opens.int {P : Program} {w : World} {t : TypeId} {cs : List Value} {k : IntKind} (ht : P.underlying t = some (.int k)) (h : Opens P w t cs) : ∃ n, cs = [.int k n] ∧ (Lit.int k n).wf = true := by
  obtain ⟨H, enc, fuel, x, hf, _⟩ := h
  obtain ⟨n, rfl, _, hw⟩ := DataW.trod_int ht hf
  exact ⟨n, rfl, hw⟩
theorem Opens.bool {P : Program} {w : World} {t : TypeId} {cs : List Value} (ht : P.underlying t = some .bool) (h : Opens P w t cs) : ∃ b, cs = [.bool b] := by
  obtain ⟨H, enc, fuel, x, hf, _⟩ := h
  obtain ⟨b, rfl, _⟩ := DataW.trod_bool ht hf
  exact ⟨b, rfl⟩
theorem Opens.string {P : Program} {w : World} {t : TypeId} {cs : List Value} (ht : P.underlying t = some .string) (h : Opens P w t cs) : ∃ s : ByteArray, cs = [.string s] ∧ s.size ≤ 140737488351232 := by
  obtain ⟨H, enc, fuel, x, hf, hw⟩ := h
  obtain ⟨s, rfl, rfl, _⟩ := DataW.trod_string ht hf
  refine ⟨s, rfl, ?_⟩
  have := hw s.data.toList.length (by simp [DataW.weights])
  rw [Array.length_toList] at this
  exact this

theorem weightsEach_mem {H : Type} {P : Program} : ∀ (fs : List Field) (xs : List (DataW H)) (i : Nat) (f : Field) (d : DataW H), fs[i]? = some f → xs[i]? = some d → ∀ n ∈ d.weights P f.type, n ∈ DataW.weightsEach P (fs.map (·.type)) xs
  | f0 :: fs, d0 :: xs, 0, f, d, hf, hd, n, hn => by
    simp only [List.getElem?_cons_zero, Option.some.injEq] at hf hd
    subst hf; subst hd
    simp only [List.map_cons, DataW.weightsEach, List.mem_append]
    exact .inl hn
  | f0 :: fs, d0 :: xs, i + 1, f, d, hf, hd, n, hn => by
    simp only [List.getElem?_cons_succ] at hf hd
    simp only [List.map_cons, DataW.weightsEach, List.mem_append]
    exact .inr (weightsEach_mem fs xs i f d hf hd n hn)
  | [], _, _, f, d, hf, _, _, _ => by simp at hf
  | _ :: _, [], _, f, d, _, hd, _, _ => by simp at hd
theorem weightsAll_mem {H : Type} {P : Program} {e : TypeId} : ∀ (xs : List (DataW H)) (d : DataW H), d ∈ xs → ∀ n ∈ d.weights P e, n ∈ DataW.weightsAll P e xs
  | [], d, hd, _, _ => by simp at hd
  | d0 :: xs, d, hd, n, hn => by
    simp only [DataW.weightsAll, List.mem_append]
    rcases List.mem_cons.1 hd with rfl | h
    · exact .inl hn
    · exact .inr (weightsAll_mem xs d h n hn)

theorem Opens.struct {P : Program} {w : World} {t : TypeId} {cs : List Value} {fs : Array Field} (ht : P.underlying t = some (.struct fs)) (h : Opens P w t cs) :
    cs.length = P.cellsOf t ∧ ∀ (i : Nat) (f : Field), fs[i]? = some f → Opens P w f.type ((cs.drop f.offset).take (P.cellsOf f.type)) := by
  obtain ⟨H, enc, fuel, x, hf, hw⟩ := h
  obtain ⟨xs, n, _, rfl, hl, hlen, hfs⟩ := DataW.trod_struct ht hf
  refine ⟨hl, fun i f hi => ?_⟩
  have hif : i < fs.size := (Array.getElem?_eq_some_iff.1 hi).1
  obtain ⟨y, hy⟩ : ∃ y, xs[i]? = some y := ⟨xs[i]'(by omega), List.getElem?_eq_getElem (by omega)⟩
  refine ⟨H, enc, n, y, (hfs i f hi).trans hy, fun m hm => hw m ?_⟩
  simp only [DataW.weights, ht]
  exact weightsEach_mem fs.toList (xs.map (·.1)) i f y.1 (by simpa using hi) (by simp [hy]) m hm

theorem flat_cells {w : World} {ad : Addr} {size : Nat} : ∀ (css : List (List Value)) (base : Nat), (∀ i c, css[i]? = some c → c.length = size ∧ ∀ j, j < size → w.cell? (ad.add (base + i * size + j)) = c[j]?) →
    ∀ k u, css.flatten[k]? = some u → w.cell? (ad.add (base + k)) = some u
  | [], _, _, k, u, hu => by simp at hu
  | c :: css, base, h, k, u, hu => by
    obtain ⟨hl, hc⟩ := h 0 c rfl
    rw [List.flatten_cons, List.getElem?_append] at hu
    split at hu
    · rename_i hk
      have := hc k (by omega)
      rw [show base + 0 * size + k = base + k by omega] at this
      rw [this]; exact hu
    · rename_i hk
      have := flat_cells css (base + size) (fun i c' hi => by
        obtain ⟨h1, h2⟩ := h (i + 1) c' (by simpa using hi)
        refine ⟨h1, fun j hj => ?_⟩
        have := h2 j hj
        rw [show base + (i + 1) * size + j = base + size + i * size + j by rw [Nat.add_mul]; omega] at this
        exact this) (k - c.length) u hu
      rw [show base + size + (k - c.length) = base + k by omega] at this
      exact this

theorem flatten_len {size : Nat} : ∀ (css : List (List Value)), (∀ c ∈ css, c.length = size) → css.flatten.length = css.length * size
  | [], _ => by simp
  | c :: css, h => by
    rw [List.flatten_cons, List.length_append, flatten_len css (fun c hc => h c (by simp [hc])), h c (by simp), List.length_cons, Nat.add_mul]
    omega

/-- A slice that came in: its elements' cells, one list each. -/
theorem Opens.slice {P : Program} {w : World} {t e : TypeId} {cs : List Value} (ht : P.underlying t = some (.slice e)) (h : Opens P w t cs) :
    ∃ (v : Value) (n : Nat) (css : List (List Value)), cs = [v] ∧ css.length = n ∧ Sl w (P.cellsOf e) v n css.flatten ∧ (∀ c ∈ css, c.length = P.cellsOf e ∧ Opens P w e c) ∧ n * P.bytesOf e ≤ 140737488351232 := by
  obtain ⟨H, enc, fuel, x, hf, hw⟩ := h
  rcases DataW.trod_slice ht hf with ⟨rfl, rfl⟩ | ⟨a, len, cap, elems, rest, n, _, rfl, rfl, hb, hl, hm, hlen, hel, _, _⟩
  · exact ⟨_, 0, [], rfl, rfl, ⟨none, 0, rfl, .inl rfl, fun _ => ⟨rfl, rfl⟩, Nat.le_refl _, by simp⟩, by simp, by simp⟩
  · have hone : ∀ i, i < len → ∃ c : List Value, c.length = P.cellsOf e ∧ (∀ j, j < P.cellsOf e → w.cell? (a.add (i * P.cellsOf e + j)) = c[j]?) ∧ Opens P w e c := by
      intro i hi
      obtain ⟨y, hy⟩ : ∃ y, elems[i]? = some y := ⟨elems[i]'(by omega), List.getElem?_eq_getElem (by omega)⟩
      have h1 := (hel i hi).trans hy
      obtain ⟨c, hc, ht'⟩ := Option.bind_eq_some_iff.1 h1
      obtain ⟨_, h2, h3⟩ := World.cells?_some hc
      refine ⟨c, h2, fun j hj => by rw [← Go.Deep.add_add]; exact h3 j hj, H, enc, n, y, ht', fun k hk => hw k ?_⟩
      simp only [DataW.weights, ht]
      refine List.mem_cons_of_mem _ (List.mem_append_left _ ?_)
      exact weightsAll_mem _ y.1 (List.mem_map.2 ⟨y, List.mem_of_getElem? hy, rfl⟩) k hk
    obtain ⟨f, hfc⟩ := Go.Deep.choose_lt (α := List Value) (n := len) (p := fun i c => c.length = P.cellsOf e ∧ (∀ j, j < P.cellsOf e → w.cell? (a.add (i * P.cellsOf e + j)) = c[j]?) ∧ Opens P w e c) hone
    have hget : ∀ i c, ((List.range len).map f)[i]? = some c → i < len ∧ f i = c := by
      intro i c hi
      rw [List.getElem?_map] at hi
      rcases Nat.lt_or_ge i len with h | h
      · simp [h] at hi; exact ⟨h, hi⟩
      · simp [List.getElem?_eq_none (show (List.range len).length ≤ i by simpa using h)] at hi
    have hall : ∀ c ∈ (List.range len).map f, c.length = P.cellsOf e ∧ Opens P w e c := by
      intro c hc
      obtain ⟨i, hi, rfl⟩ := List.mem_map.1 hc
      have := hfc i (List.mem_range.1 hi)
      exact ⟨this.1, this.2.2⟩
    refine ⟨_, len, (List.range len).map f, rfl, by simp, ⟨some a, cap, rfl, .inr ⟨a, rfl, fun k u hu => ?_⟩, (fun e => by simp at e), hl, ?_⟩, hall, ?_⟩
    · have := flat_cells (w := w) (ad := a) (size := P.cellsOf e) ((List.range len).map f) 0 (fun i c hi => by
        obtain ⟨h1, rfl⟩ := hget i c hi
        have := hfc i h1
        exact ⟨this.1, fun j hj => by rw [Nat.zero_add]; exact this.2.1 j hj⟩) k u hu
      simpa using this
    · rw [flatten_len _ (fun c hc => (hall c hc).1)]; simp
    · have := hw ((elems.length + rest.length) * P.bytesOf e) (by simp [DataW.weights, ht])
      refine Nat.le_trans (Nat.mul_le_mul_right _ ?_) this
      omega

theorem map_byte {cs : List (List Value)} (h : ∀ c ∈ cs, ∃ b : UInt8, c = [.int .u8 (b.toNat : Int)]) : ∃ d : List UInt8, cs.flatten = bv d ∧ d.length = cs.length := by
  induction cs with
  | nil => exact ⟨[], rfl, rfl⟩
  | cons c cs ih =>
    obtain ⟨b, rfl⟩ := h c (by simp)
    obtain ⟨d, hd, hl⟩ := ih (fun c hc => h c (by simp [hc]))
    exact ⟨b :: d, by simp [bv] at hd ⊢; exact hd, by simp [hl]⟩
/-- A slice of bytes that came in. -/
theorem Opens.bytes {P : Program} {w : World} {t e : TypeId} {cs : List Value} (ht : P.underlying t = some (.slice e)) (he : P.underlying e = some (.int .u8)) (hc : P.cellsOf e = 1) (hb : P.bytesOf e = 1) (h : Opens P w t cs) :
    ∃ A c d, cs = [.slice A d.length c] ∧ Sl w 1 (.slice A d.length c) d.length (bv d) ∧ d.length ≤ 140737488351232 := by
  obtain ⟨v, n, css, rfl, hn, hs, hall, hr⟩ := h.slice ht
  rw [hc] at hs hall
  rw [hb] at hr
  obtain ⟨d, hd, hl⟩ := map_byte (cs := css) (fun c hcc => by
    obtain ⟨k, rfl, hw⟩ := (hall c hcc).2.int he
    have : 0 ≤ k ∧ k < 256 := by
      simp only [Lit.wf, IntKind.min, IntKind.max, IntKind.signed, IntKind.bits, Bool.and_eq_true, decide_eq_true_eq] at hw
      simp at hw
      omega
    exact ⟨UInt8.ofNat k.toNat, by simp; omega⟩)
  rw [hd] at hs
  have hs' := hs
  obtain ⟨A, c, rfl, _⟩ := hs'
  obtain rfl : n = d.length := by omega
  exact ⟨A, c, d, rfl, hs, by omega⟩
/-- The first argument's reading out of all arguments'. -/
theorem Opens.arg {H : Type} {enc : TypeId × Value → H} {P : Program} {w : World} {t : TypeId} {v : Value} {d : DataW H} {ps : List MemPlace} {ts : List TypeId} {ds : List (DataW H)} (h : DataW.Trod enc P w 0 (fun _ => true) true t v d ps)
    (hall : (DataW.weightsEach P ts ds).all (· ≤ reachBytes) = true) {j : Nat} (h1 : ts[j]? = some t) (h2 : ds[j]? = some d) : Opens P w t v.cells.toList := by
  obtain ⟨fuel, hf⟩ := h
  refine ⟨H, enc, fuel, (d, ps), hf, fun n hn => ?_⟩
  have := List.all_eq_true.1 hall n (DataW.weights_mem_each h1 h2 n hn)
  exact of_decide_eq_true this
end Go.Proofs.YtehfoopefefpnaaGreat
