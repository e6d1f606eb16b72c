/- The reader of words: word. -/
import Derived.Test.YtpdnfcgdcndhpaaDoorAct5
set_option linter.unusedSimpArgs false
set_option linter.unusedVariables false
namespace Go.Proofs.YtpdnfcgdcndhpaaDoor
open Go.RowKit

def strs (o : List Str) : List Value := o.map fun s => .string ⟨s.toArray⟩
/-- A reader at block r: the words that are left. -/
def RDs (r : Nat) (ws : List Str) (w : World) : Prop := ∃ b o c, w.heap[r]? = some (.cells #[.slice (some ⟨b, o, none⟩) ws.length c] 55 (0, 0)) ∧ (∀ j x, ws[j]? = some x → w.cell? ⟨b, o + j, none⟩ = some (.string ⟨x.toArray⟩)) ∧ b ≠ r ∧ (∃ cs fr, w.heap[b]? = some (.cells cs 9 fr)) ∧ ws.length ≤ c ∧ c ≤ 9223372036854775807
theorem RDs.keep {S : Nat → Prop} {r : Nat} {ws : List Str} {w w' : World} (h : RDs r ws w) (hk : Keep S w w') (hr : ¬ S r) (hS : ∀ b cs fr, w.heap[b]? = some (.cells cs 9 fr) → ¬ S b) : RDs r ws w' := by
  obtain ⟨b, o, c, hb, hc, h1, ⟨cs, fr, h2⟩, h3, h4⟩ := h
  have hn := hS b cs fr h2
  exact ⟨b, o, c, hk.blk hb hr, fun j x hx => hk.cell (hc j x hx) hn, h1, ⟨cs, fr, hk.blk h2 hn⟩, h3, h4⟩
theorem RDs.below {r : Nat} {ws : List Str} {w w' : World} (h : RDs r ws w) (hk : Below w.heap.size w w') : RDs r ws w' := by
  exact h.keep (Keep.of_below (S := fun _ => False) hk) id (fun _ _ _ _ h => h)
set_option maxHeartbeats 1000000 in
theorem word_walk (r : Nat) (ws : List Str) (w : World) (h : RDs r ws w) :
    Calls Tryd.prog 40 #[.pointer (some ⟨r, 0, none⟩)] w fun e w' => e = .returned (.string ⟨(ws.headD []).toArray⟩) ∧ RDs r ws.tail w' ∧ Keep (fun k => k = r) w w' := by
  have HR := Lib.hid h
  obtain ⟨b, o, c, hb, hc, h1, ⟨cs, fr, h2⟩, h3, h4⟩ := h
  have H2 := Lib.hid h2
  clear h2
  have cb := blk_cells hb
  have fb := blk_frees hb
  have lb := blk_lt hb
  cases ws with
  | nil =>
    clear hc hb
    go_enter Tryd.func40, Tryd.ntmps40
    go_wp2
    go_ret
    exact ⟨rfl, HR.out, Keep.refl _ _⟩
  | cons x ws =>
    have hx := hc 0 x rfl
    rw [Nat.add_zero] at hx
    have n1 : ((ws.length + 1 : Nat) : Int) ≤ (c : Int) := by simp at h3; omega
    have n2 : (1 : Int) ≤ ((ws.length + 1 : Nat) : Int) := by omega
    by_cases hc1 : c = 1
    · have hw0 : ws = [] := List.eq_nil_of_length_eq_zero (by simp at h3; omega)
      subst hw0 hc1
      have HK := Lib.hid (show Keep (fun k => k = r) w (w.setCell ⟨r, 0, none⟩ (.slice (some ⟨b, o, none⟩) 0 0)) from (Keep.refl (fun k => k = r) w).setCell (fun _ => rfl) _)
      have HF : Hid (RDs r [] (w.setCell ⟨r, 0, none⟩ (.slice (some ⟨b, o, none⟩) 0 0))) := Lib.hid ⟨b, o, 0, blk_set hb _, fun j y hy => by simp at hy, h1, ⟨cs, fr, (blk_set_ne _ h1).trans H2.out⟩, Nat.le_refl _, by omega⟩
      clear hc hb
      simp only [List.length_cons, List.length_nil] at cb n1 n2
      go_enter Tryd.func40, Tryd.ntmps40
      go_wp2
      go_ret
      exact ⟨rfl, HF.out, HK.out⟩
    have hc2 : ¬ c - 1 = 0 := by simp at h3; omega
    have HF : Hid (RDs r ws (w.setCell ⟨r, 0, none⟩ (.slice (some ⟨b, o + 1, none⟩) ws.length (c - 1)))) := Lib.hid (by
      refine ⟨b, o + 1, c - 1, blk_set hb _, fun j y hy => ?_, h1, ⟨cs, fr, (blk_set_ne _ h1).trans H2.out⟩, by simp at h3; omega, by omega⟩
      have := hc (j + 1) y (by simpa using hy)
      have k : Keep (fun k => k = r) w (w.setCell ⟨r, 0, none⟩ (.slice (some ⟨b, o + 1, none⟩) ws.length (c - 1))) := (Keep.refl (fun k => k = r) w).setCell (fun _ => rfl) _
      rw [show o + 1 + j = o + (j + 1) by omega]
      exact k.cell this h1)
    have HK := Lib.hid (show Keep (fun k => k = r) w (w.setCell ⟨r, 0, none⟩ (.slice (some ⟨b, o + 1, none⟩) ws.length (c - 1))) from (Keep.refl (fun k => k = r) w).setCell (fun _ => rfl) _)
    clear hc hb
    simp only [List.length_cons] at cb n1 n2
    go_enter Tryd.func40, Tryd.ntmps40
    go_wp2
    go_ret
    exact ⟨rfl, HF.out, HK.out⟩
end Go.Proofs.YtpdnfcgdcndhpaaDoor
