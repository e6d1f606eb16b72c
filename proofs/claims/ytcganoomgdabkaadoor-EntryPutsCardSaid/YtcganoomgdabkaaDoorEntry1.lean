/- entry.Sound, entry.Encode. -/
import Derived.Test.YtcganoomgdabkaaDoorEntry0
import Derived.Test.YtcganoomgdabkaaDoorPath1
import Derived.Test.YtcganoomgdabkaaDoorPath2
import Derived.Deep.RegionHeld3
import Derived.Deep.RegionLaw
import Derived.Handy
set_option linter.unusedSimpArgs false
set_option linter.unusedVariables false
namespace Go.Proofs.YtcganoomgdabkaaDoor
open Go.RowKit

theorem sound_walk (r : RW) (w : World) (hs : r.name.length ≤ 140737488351232) :
    Calls Tryd.prog 10 #[r.val] w fun e w' => e = .returned (.bool (soundP r)) ∧ Below w.heap.size w w' := by
  obtain ⟨s, n⟩ := r
  unfold RW.val
  dsimp only at hs ⊢
  have hsz : (⟨s.toArray⟩ : ByteArray).size = s.length := by simp [ByteArray.size]
  have HN := Lib.hid (name_walk ⟨s.toArray⟩ (w.alloc (.cells #[.string ⟨s.toArray⟩, .int .i64 n] 23)) (by rw [hsz]; omega))
  have HB := Lib.hid ((Below.refl w.heap.size w).alloc (Nat.le_refl _) (.cells #[.string ⟨s.toArray⟩, .int .i64 n] 23))
  have x0 := blk_new w (.cells #[.string ⟨s.toArray⟩, .int .i64 n] 23)
  have hl : w.heap.size < (w.alloc (.cells #[.string ⟨s.toArray⟩, .int .i64 n] 23)).heap.size := by simp
  have c0 := blk_cells x0
  clear hsz
  obtain ⟨b, hb⟩ : ∃ b, isName s = b := ⟨_, rfl⟩
  have hq : soundP ⟨s, n⟩ = (b && decide (1 ≤ n) && decide (n < 32)) := by rw [← hb]; rfl
  have HQ := Lib.hid hq
  have HX := Lib.hid x0
  clear hq x0
  have hN : Hid (Calls Tryd.prog 24 #[.string ⟨s.toArray⟩] (w.alloc (.cells #[.string ⟨s.toArray⟩, .int .i64 n] 23)) fun e w' => e = .returned (.bool b) ∧ Below (w.alloc (.cells #[.string ⟨s.toArray⟩, .int .i64 n] 23)).heap.size (w.alloc (.cells #[.string ⟨s.toArray⟩, .int .i64 n] 23)) w') := Lib.hid (by rw [← hb]; exact HN.out)
  clear hb HN
  cases b with
  | false =>
    go_enter Tryd.func10, Tryd.ntmps10
    go_wp2_with fail
    refine hN.out.mono ?_
    rintro e w1 ⟨rfl, h1⟩
    go_wp2
    go_ret
    exact ⟨congrArg (fun b => Ending.returned (.bool b)) (by rw [HQ.out]; rfl), HB.out.trans (h1.mono (by simp))⟩
  | true =>
    go_enter Tryd.func10, Tryd.ntmps10
    go_wp2_with fail
    refine hN.out.mono ?_
    rintro e w1 ⟨rfl, h1⟩
    have c1 : ∀ j, w1.cell? ⟨w.heap.size, j, none⟩ = (#[.string ⟨s.toArray⟩, .int .i64 n] : Array Value)[j]? := fun j => (World.cell?_of_block (w := w.alloc (.cells #[.string ⟨s.toArray⟩, .int .i64 n] 23)) (h1.block w.heap.size hl)).trans (c0 j)
    have H1 := Lib.hid h1
    have hl1 := Nat.lt_of_lt_of_le hl h1.size
    clear h1 c0
    go_wp2
    all_goals
      go_ret
      exact ⟨congrArg (fun b => Ending.returned (.bool b)) (by rw [HQ.out, Bool.eq_iff_iff]; simp; omega), HB.out.trans (H1.out.mono (by simp))⟩

end Go.Proofs.YtcganoomgdabkaaDoor
