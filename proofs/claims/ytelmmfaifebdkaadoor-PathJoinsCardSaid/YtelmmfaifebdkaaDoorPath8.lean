/- awake. -/
import Derived.Test.YtelmmfaifebdkaaDoorPath7
set_option linter.unusedSimpArgs false
set_option linter.unusedVariables false
namespace Go.Proofs.YtelmmfaifebdkaaDoor
open Go.RowKit

theorem aw1 : splitS [47, 97, 47, 47, 98, 47, 46, 47, 46, 46, 47, 99, 46, 100] = .ok [[97], [99, 46, 100]] := by kernel_rfl
theorem aw2 : cleanP [47, 47, 120, 47, 46, 46, 47, 121, 47] = .ok [47, 121] := by kernel_rfl
theorem aw3 : withinP [47, 97, 47, 98] [47, 97] = (true, 0) := by kernel_rfl
theorem aw4 : lastP [47, 97, 47, 98] = .ok ([47, 97], [98]) := by kernel_rfl
theorem aw5 : isName [120] = true := by kernel_rfl
theorem clean_at {s : ByteArray} {p : Str} (h : cleanP s.data.toList = .ok p) (m0 : Int) (w : World) (hm0 : w.cell? ⟨0, 0, none⟩ = some (.int .i64 m0)) :
    Calls Tryd.prog 18 #[.string s] w fun e w' => e = .returned (.tuple #[.string ⟨p.toArray⟩, .int .i64 0]) ∧ Below w.heap.size w w' :=
  (clean_walk s m0 w hm0).mono fun e w' hh => by rw [h] at hh; exact hh
theorem last_at {s : ByteArray} {p q : Str} (h : lastP s.data.toList = .ok (p, q)) (m0 : Int) (w : World) (hm0 : w.cell? ⟨0, 0, none⟩ = some (.int .i64 m0)) :
    Calls Tryd.prog 19 #[.string s] w fun e w' => e = .returned (.tuple #[.string ⟨p.toArray⟩, .string ⟨q.toArray⟩, .int .i64 0]) ∧ Below w.heap.size w w' :=
  (last_walk s m0 w hm0).mono fun e w' hh => by rw [h] at hh; exact hh
theorem within_at {s t : ByteArray} {b : Bool} {k : Int} (h : withinP s.data.toList t.data.toList = (b, k)) (m0 : Int) (w : World) (hm0 : w.cell? ⟨0, 0, none⟩ = some (.int .i64 m0)) :
    Calls Tryd.prog 20 #[.string s, .string t] w fun e w' => e = .returned (.tuple #[.bool b, .int .i64 k]) ∧ Below w.heap.size w w' :=
  (within_walk s t m0 w hm0).mono fun e w' hh => by rw [h] at hh; exact hh
theorem maxc {w w1 : World} {m0 : Int} (hm0 : w.cell? ⟨0, 0, none⟩ = some (.int .i64 m0)) (hb : Below w.heap.size w w1) : w1.cell? ⟨0, 0, none⟩ = some (.int .i64 m0) :=
  (hb.cell (World.block_lt_of_cell? w _ hm0)).trans hm0

set_option maxRecDepth 100000 in
set_option maxHeartbeats 1000000 in
theorem awake_walk (m0 : Int) (w : World) (hm0 : w.cell? ⟨0, 0, none⟩ = some (.int .i64 m0)) :
    Calls Tryd.prog 12 #[] w fun e w' => e = .returned (.bool true) ∧ Below w.heap.size w w' := by
  have HM := Lib.hid hm0
  clear hm0
  go_enter Tryd.func12, Tryd.ntmps12
  go_wp2_with fail
  refine (split_ok (l := [[97], [99, 46, 100]]) aw1 m0 _ HM.out).mono ?_
  rintro e w1 ⟨A, c, rfl, hsl, h1⟩
  obtain ⟨g, o, rfl, hgl, hcell⟩ := strs_at hsl (k := 1) (p := [99, 46, 100]) rfl
  have M1 := Lib.hid (maxc HM.out h1)
  have H1 := Lib.hid h1
  clear h1 hsl
  go_wp2_with fail
  refine (clean_at (p := [47, 121]) aw2 m0 _ M1.out).mono ?_
  rintro e w2 ⟨rfl, h2⟩
  have d2 := (h2.cell (p := ⟨g, o + 1, none⟩) hgl).trans hcell
  have l2 := Nat.lt_of_lt_of_le hgl h2.size
  have M2 := Lib.hid (maxc M1.out h2)
  have H2 := Lib.hid (H1.out.trans (h2.mono H1.out.size))
  clear h2 hcell hgl
  go_wp2_with fail
  refine (within_at (b := true) (k := 0) aw3 m0 _ M2.out).mono ?_
  rintro e w3 ⟨rfl, h3⟩
  have d3 := (h3.cell (p := ⟨g, o + 1, none⟩) l2).trans d2
  have l3 := Nat.lt_of_lt_of_le l2 h3.size
  have M3 := Lib.hid (maxc M2.out h3)
  have H3 := Lib.hid (H2.out.trans (h3.mono H2.out.size))
  clear h3 d2 l2
  go_wp2_with fail
  refine (last_at (p := [47, 97]) (q := [98]) aw4 m0 _ M3.out).mono ?_
  rintro e w4 ⟨rfl, h4⟩
  have d4 := (h4.cell (p := ⟨g, o + 1, none⟩) l3).trans d3
  have M4 := Lib.hid (maxc M3.out h4)
  have H4 := Lib.hid (H3.out.trans (h4.mono H3.out.size))
  clear h4 d3 l3
  go_wp2_with fail
  refine (name_walk ⟨#[120]⟩ _ (by decide)).mono ?_
  rintro e w5 ⟨rfl, h5⟩
  have h5a : isName (⟨#[120]⟩ : ByteArray).data.toList = true := aw5
  rw [h5a]
  have H5 := Lib.hid (H4.out.trans (h5.mono H4.out.size))
  clear h5
  go_wp2
  go_ret
  exact ⟨rfl, H5.out⟩
end Go.Proofs.YtelmmfaifebdkaaDoor
