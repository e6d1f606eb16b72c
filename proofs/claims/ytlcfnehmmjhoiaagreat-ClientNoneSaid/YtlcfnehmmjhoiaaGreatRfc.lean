/- The document's frames: Sealed, Frame. -/
import Derived.Test.YtlcfnehmmjhoiaaGreatRfb
import Derived.Deep.RegionLaw
set_option linter.unusedSimpArgs false
set_option linter.unusedVariables false
namespace Go.Proofs.YtlcfnehmmjhoiaaGreat
open Go.RowKit

attribute [local go_sem ↓] Go.wp_at_zero Go.wp_at_succ
def rsealP (s : List UInt8) : List UInt8 := s ++ le (sumR s) 4
theorem rsealed_walk (s : List UInt8) (hs : s.length ≤ 1000000) (w : World) : Calls Tryz.prog 124 #[.string ⟨s.toArray⟩] w fun e w' => e = .returned (.string ⟨(rsealP s).toArray⟩) ∧ Below w.heap.size w w' := by
  have HS := Lib.hid (rsum_walk s (by omega) w)
  have hlt := sumR_lt s
  have HL := Lib.hid (little_walk (sumR s) 4 (by omega) (by decide) w)
  have ad := add_run (a := s) (b := le (sumR s) 4) (c := rsealP s) rfl (by omega) (by rw [le_len]; omega)
  obtain ⟨z, hz⟩ : ∃ z, z = sumR s := ⟨_, rfl⟩
  obtain ⟨S, hS⟩ : ∃ S, S = rsealP s := ⟨_, rfl⟩
  rw [← hz] at HS HL ad
  rw [← hS] at ad ⊢
  clear hz hlt hS
  go_enter Tryz.func124, Tryz.ntmps124
  go_wp2_with fail
  refine HS.out.mono ?_
  rintro e w1 ⟨rfl, hw1⟩
  have hw1' := hw1.symm
  subst hw1'
  clear hw1
  go_wp2_with fail
  refine HL.out.mono ?_
  rintro e w2 ⟨rfl, h2⟩
  have HB := Lib.hid h2
  clear h2
  go_wp2
  go_ret
  exact ⟨rfl, HB.out⟩
theorem bstep {w w1 w2 : World} (h : Below w.heap.size w w1) (hb : Below w1.heap.size w1 w2) : Below w.heap.size w w2 := h.trans (hb.mono h.size)
/-- The document's frame. -/
def rframeP (tag : UInt8) (s : List UInt8) : List UInt8 := rsealP ((tag :: le s.length 2) ++ s)
set_option maxHeartbeats 2000000 in
theorem rframe_walk (tag : UInt8) (s : List UInt8) (hs : s.length ≤ 65535) (w : World) : Calls Tryz.prog 87 #[.int .u8 (tag.toNat : Int), .string ⟨s.toArray⟩] w fun e w' => e = .returned (.tuple #[.string ⟨(rframeP tag s).toArray⟩, .int .i64 0]) ∧ Below w.heap.size w w' := by
  have HL := Lib.hid (show ∀ W, Calls Tryz.prog 123 #[.int .i64 (s.length : Int), .int .i64 2] W fun e w' => e = .returned (.string ⟨(le s.length 2).toArray⟩) ∧ Below W.heap.size W w' from fun W => little_walk s.length 2 (by omega) (by decide) W)
  have HS := Lib.hid (fun W => rsealed_walk ((tag :: le s.length 2) ++ s) (by rw [List.length_append, List.length_cons, le_len]; omega) W)
  have hsz := ba_size s
  have kc : ∀ W : World, (convert 30 9 (.slice (some ⟨W.heap.size, 0, none⟩) 1 1)).run Tryz.prog (W.alloc (.cells #[.int .u8 (tag.toNat : Int)] 5)) = .ok (.string ⟨[tag].toArray⟩) (W.alloc (.cells #[.int .u8 (tag.toNat : Int)] 5)) := fun W =>
    run_conv_bytes (P := Tryz.prog) (d := [tag]) _ Tryz.underlying30 Tryz.underlying5 Tryz.underlying9 (Sl.of_own (own_new W #[.int .u8 (tag.toNat : Int)] 5 1 1 rfl (by decide)))
  have kcd : ∀ W : World, (convert 30 9 (.slice (some ⟨W.heap.size, 0, none⟩) 1 1)).run Tryz.prog (W.alloc (.cells #[.int .u8 (tag.toNat : Int)] 5)).drew = .ok (.string ⟨[tag].toArray⟩) (W.alloc (.cells #[.int .u8 (tag.toNat : Int)] 5)).drew := fun W =>
    run_conv_bytes (P := Tryz.prog) (d := [tag]) _ Tryz.underlying30 Tryz.underlying5 Tryz.underlying9 (Sl.of_own (own_keep (own_new W #[.int .u8 (tag.toNat : Int)] 5 1 1 rfl (by decide)) (Keep.refl (fun _ => False) _).drew (fun _ _ h => h)))
  have HKC : Hid (∀ W W' : World, Below (W.alloc (.cells #[.int .u8 (tag.toNat : Int)] 5)).drew.heap.size (W.alloc (.cells #[.int .u8 (tag.toNat : Int)] 5)).drew W' → (convert 30 9 (.slice (some ⟨W.heap.size, 0, none⟩) 1 1)).run Tryz.prog W' = .ok (.string ⟨[tag].toArray⟩) W') := Lib.hid (fun W W' h =>
    run_conv_bytes (P := Tryz.prog) (d := [tag]) _ Tryz.underlying30 Tryz.underlying5 Tryz.underlying9 ((Sl.of_own (own_keep (own_new W #[.int .u8 (tag.toNat : Int)] 5 1 1 rfl (by decide)) (Keep.refl (fun _ => False) _).drew (fun _ _ h => h))).below h))
  obtain ⟨a1, ha1⟩ : ∃ a1, a1 = le s.length 2 := ⟨_, rfl⟩
  obtain ⟨a2, ha2⟩ : ∃ a2, a2 = tag :: a1 := ⟨_, rfl⟩
  obtain ⟨a3, ha3⟩ : ∃ a3, a3 = a2 ++ s := ⟨_, rfl⟩
  obtain ⟨a4, ha4⟩ : ∃ a4, a4 = rframeP tag s := ⟨_, rfl⟩
  have hl1 : a1.length = 2 := by rw [ha1, le_len]
  have e4 : rsealP a3 = a4 := by rw [ha4, ha3, ha2, ha1]; rfl
  have ad1 := add_run (a := [tag]) (b := a1) (c := a2) ha2 (by simp) (by omega)
  have ad2 := add_run (a := a2) (b := s) (c := a3) ha3 (by rw [ha2, List.length_cons]; omega) (by omega)
  rw [← ha1] at HL HS
  rw [← ha2, ← ha3, e4] at HS
  rw [← ha4]
  have g1 : ¬ (65535 : Int) < (s.length : Int) := by omega
  clear ha1 ha2 ha3 ha4 hl1 e4
  go_enter Tryz.func87, Tryz.ntmps87
  go_wp2_with fail
  go_region_law (first
    | (go_simp; go_at_call 123; with_reducible refine (HL.out _).mono ?_; rintro e w1 ⟨rfl, hb1⟩; have HB1 := Lib.hid hb1; clear hb1; try (have kc1 := HKC.out _ _ HB1.out))
    | (go_simp; go_at_call 124; with_reducible refine (HS.out _).mono ?_; rintro e w2 ⟨rfl, hb2⟩; have HB2 := Lib.hid hb2; clear hb2))
  all_goals
    have HF : Hid (Below w.heap.size w w2) := Lib.hid (by
      first
        | exact bstep (bstep ((Below.refl w.heap.size w).alloc (Nat.le_refl _) _).drew HB1.out) HB2.out
        | exact bstep ((bstep (Below.refl w.heap.size w).drew HB1.out).alloc HB1.out.size _) HB2.out
        | exact bstep ((bstep (Below.refl w.heap.size w).drew HB1.out).alloc HB1.out.size _).drew HB2.out)
    clear HB1 HB2
    go_wp2
    go_ret2
    exact ⟨rfl, HF.out⟩
end Go.Proofs.YtlcfnehmmjhoiaaGreat
