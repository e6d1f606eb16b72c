/- Package field: Frame; package verb: Encode of a request that may be one, without data. -/
import Derived.Test.YtlcfnehmmjhoiaaGreatVrb3
import Derived.Test.YtlcfnehmmjhoiaaGreatApp
set_option linter.unusedSimpArgs false
set_option linter.unusedVariables false
namespace Go.Proofs.YtlcfnehmmjhoiaaGreat
open Go.RowKit

attribute [local go_sem ↓] Go.wp_at_zero Go.wp_at_succ
/-- A frame. -/
def frameP (tag : UInt8) (b : List UInt8) : List UInt8 := sealP ((tag :: le b.length 2) ++ b)
theorem frameP_len (tag : UInt8) (b : List UInt8) : (frameP tag b).length = b.length + 7 := by
  unfold frameP
  rw [sealP_len, List.length_append, List.length_cons, le_len]
  omega
set_option maxHeartbeats 1000000 in
theorem frame_walk (tag : UInt8) (b : List UInt8) (A : Option Addr) (c : Nat) (w : World) (h : Sl w 1 (.slice A b.length c) b.length (bv b)) (hb : b.length ≤ 65535) :
    Calls Tryz.prog 69 #[.int .u8 (tag.toNat : Int), .slice A b.length c] w (TextP w.heap.size [] (frameP tag b) w) := by
  obtain ⟨w1, hw1⟩ : ∃ w1, w1 = w.alloc (.cells #[.int .u8 (tag.toNat : Int)] 5) := ⟨_, rfl⟩
  have hbe1 : Below w.heap.size w w1 := by rw [hw1]; exact (Below.refl w.heap.size w).alloc (Nat.le_refl _) _
  have hsl1 : Sl w1 1 (.slice (some ⟨w.heap.size, 0, none⟩) [tag].length 1) [tag].length (bv [tag]) := by
    rw [hw1]
    exact Sl.of_own (own_new w #[.int .u8 (tag.toNat : Int)] 5 1 1 rfl (by decide))
  have HP := Lib.hid (put_walk [tag] (some ⟨w.heap.size, 0, none⟩) 1 b.length 2 w1 hsl1 (by simp) (by omega) (by omega))
  have HX := Lib.hid (h.below hbe1)
  have HB1 := Lib.hid hbe1
  have HW := Lib.hid hw1
  have g1 : ¬ (65535 : Int) < (b.length : Int) := by omega
  have g2 : IntKind.u32.wrap (b.length : Int) = (b.length : Int) := IntWalk.u32_in _ (by omega)
  clear h hw1 hbe1 hsl1
  go_enter Tryz.func69, Tryz.ntmps69
  go_wp2_with fail
  rw [← HW.out]
  refine HP.out.mono ?_
  rintro e w2 ⟨A1, d1, hd1, rfl, ho, hbe⟩
  have hdl : d1.length = 3 := by rw [hd1, List.length_append, le_len]; rfl
  have HD := Lib.hid hd1
  have HO := Lib.hid ho
  have HB2 := Lib.hid (HB1.out.trans (hbe.mono HB1.out.size))
  have HX2 := Lib.hid (HX.out.below hbe)
  have HSZ := Lib.hid hbe.size
  have HDL := Lib.hid hdl
  clear hd1 ho hbe hdl
  go_wp2_with (at_builtin; go_must (refine wpList_appB rfl rfl (d := d1) (e := b) rfl rfl rfl rfl HO.out.ab HX2.out (by have := HDL.out; omega) HSZ.out (by have := HDL.out; omega) ?_))
  intro A2 c2 w3 hr
  have HR := Lib.hid hr
  have HB3 := Lib.hid (HB2.out.trans (hr.be.mono HB1.out.size))
  have hl : (d1 ++ b).length = d1.length + b.length := List.length_append
  have hsd := sealed_walk (d1 ++ b) A2 c2 w3 (hr.ab.nb.sl) (by rw [hl, HDL.out]; omega)
  rw [hl] at hsd
  have HS := Lib.hid hsd
  have HE : Hid (d1 ++ b = (tag :: le b.length 2) ++ b) := Lib.hid (by rw [HD.out]; rfl)
  clear hr hl hsd
  go_wp2_with fail
  refine HS.out.mono ?_
  rintro e w4 ⟨A4, d4, hd4, rfl, ho4, hb4⟩
  have HD4 : Hid (d4 = [] ++ frameP tag b) := Lib.hid (by rw [hd4, HE.out]; rfl)
  have HN : Hid (NB w.heap.size w4 A4 d4.length d4) := Lib.hid (ho4.mono HB3.out.size)
  have HB4 := Lib.hid (HB3.out.trans (hb4.mono HB3.out.size))
  clear hd4 ho4 hb4
  go_wp2
  go_ret2
  exact ⟨A4, d4, HD4.out, rfl, HN.out, HB4.out⟩
/-- A request as a frame. -/
def encP (L : List Nat) (p o : ByteArray) : List UInt8 := frameP 81 (numsP L ++ textsP [p, o, ⟨#[]⟩])
theorem encP_len (L : List Nat) (p o : ByteArray) : (encP L p o).length = 4 * L.length + p.size + o.size + 13 := by
  unfold encP
  rw [frameP_len, List.length_append, numsP_len]
  unfold textsP
  simp only [List.flatMap_cons, List.flatMap_nil, List.length_append, textB_len, List.length_nil]
  have : (⟨#[]⟩ : ByteArray).size = 0 := rfl
  omega
set_option maxRecDepth 100000 in
set_option maxHeartbeats 2000000 in
theorem enc_walk (k s l q e : Int) (p o : ByteArray) (n g a z m : Int) (L : List Nat) (hL : L.map (fun (x : Nat) => Value.int .i64 (x : Int)) = [.int .i64 k, .int .i64 s, .int .i64 l, .int .i64 q, .int .i64 e, .int .i64 n, .int .i64 g, .int .i64 a, .int .i64 z, .int .i64 m]) (hlt : ∀ x ∈ L, x < 4294967296) (hp : p.size ≤ 255) (ho : o.size ≤ 255) (w : World)
    (hgood : ∀ W : World, Calls Tryz.prog 83 #[.agg #[.int .i64 k, .int .i64 s, .int .i64 l, .int .i64 q, .int .i64 e, .string p, .string o, .int .i64 n, .int .i64 g, .int .i64 a, .int .i64 z, .int .i64 m, .slice none 0 0]] W fun e' w' => e' = .returned (.bool true) ∧ Below W.heap.size W w') :
    Calls Tryz.prog 49 #[.agg #[.int .i64 k, .int .i64 s, .int .i64 l, .int .i64 q, .int .i64 e, .string p, .string o, .int .i64 n, .int .i64 g, .int .i64 a, .int .i64 z, .int .i64 m, .slice none 0 0]] w (TextP w.heap.size [] (encP L p o) w) := by
  have hLl : L.length = 10 := by have := congrArg List.length hL; simpa using this
  have HG := Lib.hid hgood
  have HL := Lib.hid hL
  have HLT := Lib.hid hlt
  obtain ⟨w1, hw1⟩ : ∃ w1, w1 = w.alloc (.cells #[.int .i64 k, .int .i64 s, .int .i64 l, .int .i64 q, .int .i64 e, .string p, .string o, .int .i64 n, .int .i64 g, .int .i64 a, .int .i64 z, .int .i64 m, .slice none 0 0] 58) := ⟨_, rfl⟩
  have b1 : w1.heap[w.heap.size]? = some (.cells #[.int .i64 k, .int .i64 s, .int .i64 l, .int .i64 q, .int .i64 e, .string p, .string o, .int .i64 n, .int .i64 g, .int .i64 a, .int .i64 z, .int .i64 m, .slice none 0 0] 58 (0, 0)) := by rw [hw1]; exact blk_new w _
  have B1 : Below w.heap.size w w1 := by rw [hw1]; exact (Below.refl w.heap.size w).alloc (Nat.le_refl _) _
  have HW1 := Lib.hid hw1
  have HC1 := Lib.hid b1
  have HB1 := Lib.hid B1
  have hcv : ∀ W : World, (convert 30 9 (.slice none 0 0)).run Tryz.prog W = .ok (.string ⟨#[]⟩) W := fun W => run_conv_bytes (n := 0) (d := []) W (e := 5) (by kernel_rfl) (by kernel_rfl) (by kernel_rfl) ⟨none, 0, rfl, .inl rfl, fun _ => ⟨rfl, rfl⟩, Nat.le_refl _, rfl⟩
  have c1 := blk_cells b1
  have HCC := Lib.hid c1
  clear hgood hL hlt hw1 b1 B1 c1
  go_enter Tryz.func49, Tryz.ntmps49
  go_wp2_with fail
  rw [← HW1.out]
  refine (HG.out w1).mono ?_
  rintro e' w2 ⟨rfl, h2⟩
  have b2 := (Keep.of_below (S := fun _ => False) h2).blk HC1.out id
  have HC2 := Lib.hid b2
  have HB2 := Lib.hid (HB1.out.trans (h2.mono HB1.out.size))
  have c2 := blk_cells b2
  obtain ⟨w3, hw3⟩ : ∃ w3, w3 = w2.alloc (.cells #[.int .i64 k, .int .i64 s, .int .i64 l, .int .i64 q, .int .i64 e, .int .i64 n, .int .i64 g, .int .i64 a, .int .i64 z, .int .i64 m] 3) := ⟨_, rfl⟩
  have HW3 := Lib.hid hw3
  have hB3 : Below w.heap.size w w3 := by rw [hw3]; exact HB2.out.alloc HB2.out.size _
  have hC3 : w3.heap[w.heap.size]? = some (.cells #[.int .i64 k, .int .i64 s, .int .i64 l, .int .i64 q, .int .i64 e, .string p, .string o, .int .i64 n, .int .i64 g, .int .i64 a, .int .i64 z, .int .i64 m, .slice none 0 0] 58 (0, 0)) := by rw [hw3]; exact blk_old b2 _
  have hS3 : Sl w3 1 (.slice (some ⟨w2.heap.size, 0, none⟩) L.length 10) L.length (L.map fun (x : Nat) => Value.int .i64 (x : Int)) := by
    rw [hw3, HL.out, hLl]
    exact Sl.of_own (own_new w2 #[.int .i64 k, .int .i64 s, .int .i64 l, .int .i64 q, .int .i64 e, .int .i64 n, .int .i64 g, .int .i64 a, .int .i64 z, .int .i64 m] 3 1 10 rfl (by decide))
  have hnw := nums_walk w3.heap.size [] none 0 L (some ⟨w2.heap.size, 0, none⟩) 10 w3 (NB.nil _ _) (Nat.le_refl _) hS3 HLT.out (by rw [hLl]; decide)
  rw [hLl] at hnw
  have HN := Lib.hid hnw
  have HB3 := Lib.hid hB3
  have HC3 := Lib.hid hC3
  clear h2 b2 hw3 hB3 hC3 hS3 hnw
  go_wp2_with fail
  rw [← HW3.out]
  refine HN.out.mono ?_
  rintro e' w4 ⟨A4, c4, D4, hD4, rfl, hn4, h4⟩
  have hDl : D4.length = 40 := by rw [hD4, List.nil_append, numsP_len, hLl]
  have HD4 : Hid (D4 = numsP L) := Lib.hid (by rw [hD4, List.nil_append])
  have b4 := (Keep.of_below (S := fun _ => False) h4).blk HC3.out id
  have HB4 := Lib.hid (HB3.out.trans (h4.mono HB3.out.size))
  obtain ⟨w5, hw5⟩ : ∃ w5, w5 = w4.alloc (.cells #[.string p, .string o, .string ⟨#[]⟩] 9) := ⟨_, rfl⟩
  have HW5 := Lib.hid hw5
  have hB5 : Below w.heap.size w w5 := by rw [hw5]; exact HB4.out.alloc HB4.out.size _
  have hS5 : Sl w5 1 (.slice (some ⟨w4.heap.size, 0, none⟩) [p, o, ⟨#[]⟩].length 3) [p, o, ⟨#[]⟩].length ([p, o, ⟨#[]⟩].map Value.string) := by
    rw [hw5]
    exact Sl.of_own (own_new w4 #[.string p, .string o, .string ⟨#[]⟩] 9 1 3 rfl (by decide))
  have hn5 : NB w.heap.size w5 A4 c4 D4 := by
    rw [hw5]
    exact (hn4.below ((Below.refl w4.heap.size w4).alloc (Nat.le_refl _) _)).mono HB3.out.size
  have HDL := Lib.hid hDl
  have hT := (texts_walk w.heap.size D4 A4 c4 [p, o, ⟨#[]⟩] (some ⟨w4.heap.size, 0, none⟩) 3 w5 hn5 hB5.size hS5 (by
    intro s hs
    rcases List.mem_cons.1 hs with rfl | hs
    · omega
    rcases List.mem_cons.1 hs with rfl | hs
    · omega
    rcases List.mem_cons.1 hs with rfl | hs
    · decide
    cases hs) (by simp) (by omega))
  rw [show [p, o, (⟨#[]⟩ : ByteArray)].length = 3 from rfl] at hT
  have HT := Lib.hid hT
  have c4' := blk_cells b4
  have HB5 := Lib.hid hB5
  clear hD4 hn4 h4 b4 hw5 hB5 hS5 hn5 c2 hT hDl
  go_wp2_with fail
  rw [← HW5.out]
  refine HT.out.mono ?_
  rintro e' w6 ⟨A6, c6, D6, hD6, rfl, hn6, h6⟩
  have hlen : D6.length ≤ 65535 := by
    rw [hD6, List.length_append, HDL.out]
    unfold textsP
    simp only [List.flatMap_cons, List.flatMap_nil, List.length_append, textB_len, List.length_nil]
    have : (⟨#[]⟩ : ByteArray).size = 0 := rfl
    omega
  have HF := Lib.hid (frame_walk 81 D6 A6 c6 w6 hn6.sl hlen)
  have HD6 : Hid (D6 = numsP L ++ textsP [p, o, ⟨#[]⟩]) := Lib.hid (by rw [hD6, HD4.out])
  have HB6 := Lib.hid (HB5.out.trans (h6.mono HB5.out.size))
  clear hD6 hn6 h6 hlen c4'
  go_wp2_with fail
  refine HF.out.mono ?_
  rintro e' w7 ⟨A7, D7, hD7, rfl, hn7, h7⟩
  have HD7 : Hid (D7 = [] ++ encP L p o) := Lib.hid (by rw [hD7, HD6.out]; rfl)
  have HN7 : Hid (NB w.heap.size w7 A7 D7.length D7) := Lib.hid (hn7.mono HB6.out.size)
  have HB7 := Lib.hid (HB6.out.trans (h7.mono HB6.out.size))
  clear hD7 hn7 h7 hcv
  go_wp2
  go_ret2
  exact ⟨A7, D7, HD7.out, rfl, HN7.out, HB7.out⟩
end Go.Proofs.YtlcfnehmmjhoiaaGreat
