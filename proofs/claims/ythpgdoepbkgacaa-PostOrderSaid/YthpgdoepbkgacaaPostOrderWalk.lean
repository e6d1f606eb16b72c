/- The walk of PostOrder. -/
import Derived.Test.YthpgdoepbkgacaaPostSl
set_option linter.unusedSimpArgs false
set_option linter.unusedVariables false
namespace Go.Proofs.Ythpgdoepbkgacaa.lawPostOrder
open Go.RowKit
def Inv1 (w : World) (g : Nat) (ls : List CL) (a b : Value) (wr : World) : Prop := ∃ j : Nat, j ≤ ls.length ∧ j ≤ 64 ∧ a = .int .i64 (j : Int) ∧ b = .int .i64 (j : Int) ∧ ∃ L : List CL, L.map CL.er = (ls.take j).map CL.er ∧ Lives w wr g L
def Inv2 (w : World) (g : Nat) (ls : List CL) (N : Nat) (a : Value) (wr : World) : Prop := ∃ j : Nat, j ≤ N ∧ a = .int .i64 (j : Int) ∧ ∃ L : List CL, L.map CL.er = ((ls.take N).drop j).map CL.er ∧ Lives w wr g L

theorem peel {ls L2 : List CL} {i j : Nat} (hj : j ≤ ls.length) (hi : i < j) (h : L2.map CL.er = ((ls.take j).drop i).map CL.er) : ∃ l2 L3 l, L2 = l2 :: L3 ∧ ls[i]? = some l ∧ l2.er = l.er ∧ L3.map CL.er = ((ls.take j).drop (i + 1)).map CL.er := by
  have hil : i < (ls.take j).length := by rw [List.length_take]; omega
  rw [List.drop_eq_getElem_cons hil] at h
  cases L2 with
  | nil => simp at h
  | cons l2 L3 =>
    simp only [List.map_cons, List.cons.injEq] at h
    refine ⟨l2, L3, ls[i]'(by omega), rfl, List.getElem?_eq_getElem (by omega), ?_, h.2⟩
    rw [h.1, List.getElem_take]
theorem same_of_er {a b : CL} (h : a.er = b.er) : SameB a.frm a.dst a.data b.frm b.dst b.data = true := by
  simp only [CL.er, Prod.mk.injEq] at h
  simp [SameB, h.1, h.2.1, h.2.2]

attribute [local go_sem ↓] Go.wp_at_zero Go.wp_at_succ
set_option maxHeartbeats 2000000 in
theorem walk (A : Option Addr) (n c : Nat) (ls : List CL) (w : World) (hs : Sl w 3 (.slice A n c) n (ls.flatMap CL.cells)) (hn : n = ls.length) (hg : ∀ l ∈ ls, l.good w) :
    Calls Try.prog 6 #[.slice A n c] w fun e w' => e = .returned (.bool true) ∧ Below w.heap.size w w' := by
  have Hs := Lib.hid hs
  have Hn := Lib.hid hn
  have Hg := Lib.hid hg
  clear hs hn hg
  go_enter Try.func6, Try.ntmps6
  go_wp2_with fail
  refine (new_lives _).mono ?_
  rintro e w1 ⟨g, rfl, h1⟩
  have P1 := Lib.hid h1
  clear h1
  go_wp2_with fail
  refine (awake_any _).mono ?_
  rintro e w2 ⟨rfl, h2⟩
  have P2 := Lib.hid (P1.out.below h2)
  clear h2 P1
  go_wp2
  go_loopw [4, 5] (fun a b wr => Inv1 w g ls a b wr) (fun a _ _ => 64 - (intOf a).toNat)
  case atStart => exact ⟨0, Nat.zero_le _, by omega, rfl, rfl, [], rfl, P2.out⟩
  case round =>
    obtain ⟨j, hj, hj64, rfl, rfl, L, hL, hp⟩ := hrel
    have HL := Lib.hid hL
    have HP := Lib.hid hp
    have hnn : ls.length = n := Hn.out.symm
    clear hL hp P2
    by_cases h12 : j < n ∧ j < 64
    · obtain ⟨h1, h2⟩ := h12
      obtain ⟨l, hl⟩ : ∃ l, ls[j]? = some l := ⟨ls[j]'(by omega), List.getElem?_eq_getElem (by omega)⟩
      obtain ⟨b, o, hA, hb, r0, r1, r2⟩ := letters_at Hs.out hl
      subst hA
      have hW := HP.out.under
      have q0 := (hW.cell (p := ⟨b, o + j * 3, none⟩) hb).trans r0
      have q1 := (hW.cell (p := ⟨b, o + j * 3 + 1, none⟩) hb).trans r1
      have q2 := (hW.cell (p := ⟨b, o + j * 3 + 2, none⟩) hb).trans r2
      have G := Hg.out _ (List.mem_of_getElem? hl)
      have HS := Lib.hid (G.1.below hW)
      have hd := G.2
      have b1 : (0 : Int) ≤ (j : Int) := by omega
      have b2 : (j : Int) < (n : Int) := by omega
      have b3 : (j : Int) < 64 := by omega
      have hLl : L.length = j := by have := congrArg List.length HL.out; simp at this; omega
      have HLl := Lib.hid hLl
      have Hnn := Lib.hid hnn
      have Hl := Lib.hid hl
      clear r0 r1 r2 hW G hnn hLl hl
      go_wp2_with fail
      refine (send_lives w _ _ _ _ HP.out _ _ _ _ _ l.data (by rw [HLl.out]; exact h2) HS.out hd).mono ?_
      rintro e w3 ⟨rfl, _, A3, c3, h3⟩
      have H3 := Lib.hid h3
      clear h3
      go_wp2
      go_roundw
      case rel =>
        refine ⟨j + 1, by have := Hnn.out; omega, by omega, by go_num, by go_num, _, ?_, H3.out⟩
        have hjl : j < ls.length := by have := Hnn.out; omega
        rw [List.take_succ_eq_append_getElem hjl, List.map_append, List.map_append, HL.out, (List.getElem?_eq_some_iff.1 Hl.out).2]
        rfl
      case measure => simp [intOf]; omega
    · have Hnn := Lib.hid hnn
      clear hnn
      have h12' : ¬ j < n ∨ (j < n ∧ ¬ j < 64) := by omega
      clear h12
      rcases h12' with h1 | ⟨h1, h2⟩
      all_goals
        go_wp2
        go_loopw [6] (fun a wr => Inv2 w g ls j a wr) (fun a _ => j - (intOf a).toNat)
        case atStart => exact ⟨0, Nat.zero_le _, rfl, L, HL.out, HP.out⟩
        case round =>
          obtain ⟨i, hi, rfl, L2, hL2, hp2⟩ := hrel
          have HL2 := Lib.hid hL2
          have HP2 := Lib.hid hp2
          clear hL2 hp2 HP HL
          by_cases hlt : i < j
          · obtain ⟨l2, L3, l, rfl, hl, her, hL3⟩ := peel hj hlt HL2.out
            have b1 : (0 : Int) ≤ (i : Int) := by omega
            have b2 : (i : Int) < (j : Int) := by omega
            have b3 : (i : Int) < (n : Int) := by have := Hnn.out; omega
            have b4 : (i : Int) < 64 := by omega
            go_wp2_with fail
            refine (take_lives w _ _ _ _ HP2.out 0 (by simp)).mono ?_
            rintro e w3 ⟨rfl, _, h3, h3'⟩
            obtain ⟨b, o, hA, hb, r0, r1, r2⟩ := letters_at Hs.out hl
            subst hA
            have hW := h3.under
            have q0 := (hW.cell (p := ⟨b, o + i * 3, none⟩) hb).trans r0
            have q1 := (hW.cell (p := ⟨b, o + i * 3 + 1, none⟩) hb).trans r1
            have q2 := (hW.cell (p := ⟨b, o + i * 3 + 2, none⟩) hb).trans r2
            have hb3 : b < w3.heap.size := Nat.lt_of_lt_of_le hb hW.size
            have E := same_of_er her
            have HS := Lib.hid ((Hg.out _ (List.mem_of_getElem? hl)).1.below hW)
            have H3 : Hid (Lives w w3 g L3) := Lib.hid h3
            have HS3 : Hid (Sl w3 1 (.slice l2.A l2.data.length l2.cap) l2.data.length (bv l2.data)) := Lib.hid h3'.1
            have HL3 := Lib.hid hL3
            clear r0 r1 r2 hW h3 h3' hl her hL3 HL2 HP2
            simp only [List.getElem_cons_zero]
            go_wp2
            go_region_law (first | (go_simp; go_at_call 10; refine (same_any _ _ _ _ _ l2.data _ _ _ _ _ l.data _ (HS3.out.below ((Below.refl _ _).alloc (Nat.le_refl _) _).drew) (HS.out.below ((Below.refl _ _).alloc (Nat.le_refl _) _).drew)).mono ?_; rintro e w4 ⟨rfl, h4⟩; have H4 := Lib.hid h4; clear h4))
            all_goals
              go_wp2
              go_roundw
              case rel => exact ⟨i + 1, by omega, by go_num, L3, HL3.out, (H3.out.below ((Below.refl _ _).alloc (Nat.le_refl _) _).drew).below H4.out⟩
              case measure => simp [intOf]; omega
          · have hL : L2 = [] := by
              have := congrArg List.length HL2.out
              simp only [List.length_map, List.length_drop, List.length_take] at this
              exact List.eq_nil_of_length_eq_zero (by omega)
            subst hL
            go_wp2_with fail
            refine (take_bad_lives w _ _ _ _ HP2.out 0 (by simp)).mono ?_
            rintro e w3 ⟨rfl, _, h3⟩
            unfold noLetter
            have H3 := Lib.hid h3
            clear h3 HP2 HL2
            go_wp2_with fail
            refine (letters_lives w _ _ _ _ (H3.out.below ((Below.refl _ _).alloc (Nat.le_refl _) _))).mono ?_
            rintro e w4 ⟨A4, c4, L4, rfl, h4, h5⟩
            have hl : L4 = [] := by simpa using h4.2.2.2.1
            have H5 := Lib.hid h5.under
            subst hl
            clear h4 h5 H3
            simp only [List.length_nil]
            go_wp2
            go_ret
            exact ⟨rfl, H5.out⟩
end Go.Proofs.Ythpgdoepbkgacaa.lawPostOrder
