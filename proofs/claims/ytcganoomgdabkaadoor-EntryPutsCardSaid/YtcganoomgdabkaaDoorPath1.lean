/- path.Name. -/
import Derived.Test.YtcganoomgdabkaaDoorBase
import Derived.Test.YtcganoomgdabkaaDoorPath0
import Derived.Test.YtcganoomgdabkaaDoorShelf
import Derived.ProofKit
import Derived.OpenShut
set_option linter.unusedSimpArgs false
set_option linter.unusedVariables false
namespace Go.Proofs.YtcganoomgdabkaaDoor
open Go.RowKit

def signsB : ByteArray := ⟨signs.toArray⟩
theorem trim_walk (s : ByteArray) (w : World) (hs : s.size ≤ 9223372036854775807) :
    Calls Tryd.prog 34 #[.string s, .string signsB] w fun e w' => e = .returned (.string ⟨(Lib.trimS s.data.toList signs).toArray⟩) ∧ Below w.heap.size w w' :=
  Any.strings_Trim_laid Tryd.lays160 (by kernel_rfl) s signsB w hs (by decide) (fun j b h => by
    have hall : signs.all (fun b => decide (b.toNat < 128)) = true := by kernel_rfl
    exact of_decide_eq_true (List.all_eq_true.1 hall b (List.mem_of_getElem? (by simpa [signsB] using h))))

theorem name_walk (s : ByteArray) (w : World) (hs : s.size ≤ 9223372036854775807) :
    Calls Tryd.prog 24 #[.string s] w fun e w' => e = .returned (.bool (isName s.data.toList)) ∧ Below w.heap.size w w' := by
  rw [name_eq, ← ByteArray.toList_eq]
  have hT := trim_walk s w hs
  have hr : s.toList.length = s.size := by rw [ByteArray.toList_eq]; exact Array.length_toList
  rw [← ByteArray.toList_eq] at hT
  by_cases h1 : s.toList = []
  · have HT := Lib.hid hT
    clear hT
    go_enter Tryd.func24, Tryd.ntmps24
    go_wp2
    go_ret
    exact ⟨congrArg (fun b => Ending.returned (.bool b)) (by simp [h1]), Below.refl _ _⟩
  by_cases h2 : s.toList = [46]
  · have HT := Lib.hid hT
    clear hT
    go_enter Tryd.func24, Tryd.ntmps24
    go_wp2
    go_ret
    exact ⟨congrArg (fun b => Ending.returned (.bool b)) (by simp [h2]), Below.refl _ _⟩
  by_cases h3 : s.toList = [46, 46]
  · have HT := Lib.hid hT
    clear hT
    go_enter Tryd.func24, Tryd.ntmps24
    go_wp2
    go_ret
    exact ⟨congrArg (fun b => Ending.returned (.bool b)) (by simp [h3]), Below.refl _ _⟩
  by_cases h4 : 24 < s.size
  · have HT := Lib.hid hT
    clear hT
    go_enter Tryd.func24, Tryd.ntmps24
    go_wp2
    go_ret
    exact ⟨congrArg (fun b => Ending.returned (.bool b)) (by rw [decide_eq_false (p := s.size ≤ 24) (by omega)]; simp), Below.refl _ _⟩
  have HT := Lib.hid hT
  have h4' : s.size ≤ 24 := by omega
  clear hT h4
  go_enter Tryd.func24, Tryd.ntmps24
  go_wp2_with (go_at_call 34; refine HT.out.mono ?_; rintro e w1 ⟨rfl, hk⟩)
  go_ret
  exact ⟨congrArg (fun b => Ending.returned (.bool b)) (by rw [hr]; simp [h4']), hk⟩
end Go.Proofs.YtcganoomgdabkaaDoor
