/- same, awake. -/
import Derived.Test.YthpgdoepbkgacaaPost5
import Derived.Lib.SlBytesConst
set_option linter.unusedSimpArgs false
set_option linter.unusedVariables false
namespace Go.Proofs.Ythpgdoepbkgacaa
open Go.RowKit

def SameB (f t : Int) (d : List UInt8) (f' t' : Int) (d' : List UInt8) : Bool := f == f' && (t == t' && d == d')

set_option maxHeartbeats 400000 in
theorem same_any (f t : Int) (A : Option Addr) (n c : Nat) (d : List UInt8) (f' t' : Int) (A' : Option Addr) (n' c' : Nat) (d' : List UInt8) (w : World) (hx : Sl w 1 (.slice A n c) n (bv d)) (hx' : Sl w 1 (.slice A' n' c') n' (bv d')) :
    Calls Try.prog 10 #[.agg #[.int .i64 f, .int .i64 t, .slice A n c], .agg #[.int .i64 f', .int .i64 t', .slice A' n' c']] w fun e w' => e = .returned (.bool (SameB f t d f' t' d')) ∧ Below w.heap.size w w' := by
  have hb : Below w.heap.size w ((w.alloc (.cells #[.int .i64 f, .int .i64 t, .slice A n c] 28)).alloc (.cells #[.int .i64 f', .int .i64 t', .slice A' n' c'] 28)) := ((Below.refl _ _).alloc (Nat.le_refl _) _).alloc (by simp) _
  have s1 := run_conv_bytes (P := Try.prog) _ Try.underlying26 Try.underlying5 Try.underlying9 (hx.below hb)
  have s2 := run_conv_bytes (P := Try.prog) _ Try.underlying26 Try.underlying5 Try.underlying9 (hx'.below hb)
  have HB := Lib.hid hb
  clear hx hx' hb
  rcases Bool.eq_false_or_eq_true (f == f') with e1 | e1
  · rcases Bool.eq_false_or_eq_true (t == t') with e2 | e2
    all_goals
      go_enter Try.func10, Try.ntmps10
      go_wp2
      go_ret
      exact ⟨by simp [SameB, e1, e2], HB.out⟩
  · go_enter Try.func10, Try.ntmps10
    go_wp2
    go_ret
    exact ⟨by simp [SameB, e1], HB.out⟩

theorem new_any (w : World) :
    Calls Try.prog 7 #[] w fun e w' => ∃ g, e = .returned (.pointer (some ⟨g, 0, none⟩)) ∧ IsPost w' g (fun k => k = g) [] ∧ w.heap.size ≤ g ∧ Below w.heap.size w w' := by
  go_enter Try.func7, Try.ntmps7
  go_wp2
  go_ret
  exact ⟨w.heap.size, rfl, ⟨none, 0, blk_new _ _, own_nil' _ _ _ _, by simp [Value.ownBlock], by simp, rfl, by simp, by simp⟩, Nat.le_refl _, (Below.refl _ _).alloc (Nat.le_refl _) _⟩

/-- The post g lives in memory made since w0; the blocks of X are another's; nothing of w0 has turned. -/
def Lives (w0 w : World) (g : Nat) (L : List CL) (X : Nat → Prop := fun _ => False) : Prop := ∃ S : Nat → Prop, IsPost w g S L ∧ (∀ k, S k → w0.heap.size ≤ k) ∧ Below w0.heap.size w0 w ∧ ∀ k, X k → ¬ S k ∧ w0.heap.size ≤ k ∧ k < w.heap.size
/-- What is not the post's is made, or written. -/
theorem Lives.step {w0 w w1 : World} {g : Nat} {L : List CL} {X X' : Nat → Prop} (h : Lives w0 w g L X) (hk : Keep X w w1) (hX : ∀ k, X' k → X k ∨ (w.heap.size ≤ k ∧ k < w1.heap.size)) : Lives w0 w1 g L X' := by
  obtain ⟨S, h1, h2, h3, h4⟩ := h
  refine ⟨S, h1.keep hk (fun k hs hx => (h4 k hx).1 hs), h2, h3.trans (hk.below (fun k hx => (h4 k hx).2.1) h3.size), fun k hx => ?_⟩
  rcases hX k hx with h | ⟨ha, hb⟩
  · exact ⟨(h4 k h).1, (h4 k h).2.1, Nat.lt_of_lt_of_le (h4 k h).2.2 hk.size⟩
  · obtain ⟨A, c, hp⟩ := h1
    exact ⟨fun hs => by have := hp.lt k hs; omega, Nat.le_trans h3.size ha, hb⟩
theorem Lives.below {w0 w w1 : World} {g : Nat} {L : List CL} {X : Nat → Prop} (h : Lives w0 w g L X) (hb : Below w.heap.size w w1) : Lives w0 w1 g L X :=
  h.step (Keep.of_below hb) (fun _ h => .inl h)
theorem Lives.sent {w0 w w1 : World} {g : Nat} {S X : Nat → Prop} {L' : List CL} (h1 : ∀ k, S k → w0.heap.size ≤ k) (h2 : Below w0.heap.size w0 w) (h4 : ∀ k, X k → ¬ S k ∧ w0.heap.size ≤ k ∧ k < w.heap.size) (h : Sent w g S w1 L') : Lives w0 w1 g L' X ∧ Keep (fun k => ¬ X k) w w1 := by
  obtain ⟨S', p, k, hs⟩ := h
  refine ⟨⟨S', p, fun i hi => ?_, h2.trans (k.below h1 h2.size), fun i hi => ⟨fun h => ?_, (h4 i hi).2.1, Nat.lt_of_lt_of_le (h4 i hi).2.2 k.size⟩⟩, k.mono (fun i _ h hx => (h4 i hx).1 h)⟩
  · rcases hs i hi with h | h
    · exact h1 i h
    · exact Nat.le_trans h2.size h
  · rcases hs i h with h | h
    · exact (h4 i hi).1 h
    · have := (h4 i hi).2.2; omega
theorem Lives.few {w0 w : World} {g : Nat} {L : List CL} {X : Nat → Prop} (h : Lives w0 w g L X) : L.length ≤ 64 := by
  obtain ⟨S, ⟨A, c, h1⟩, _⟩ := h
  exact h1.few
theorem Lives.under {w0 w : World} {g : Nat} {L : List CL} {X : Nat → Prop} (h : Lives w0 w g L X) : Below w0.heap.size w0 w := by
  obtain ⟨S, _, _, h, _⟩ := h
  exact h
theorem Lives.room {w0 w : World} {g : Nat} {L : List CL} {X : Nat → Prop} (h : Lives w0 w g L X) : ∀ k, X k → w0.heap.size ≤ k ∧ k < w.heap.size := by
  obtain ⟨S, _, _, _, h⟩ := h
  exact fun k hk => (h k hk).2
theorem Lives.good {w0 w : World} {g : Nat} {L : List CL} {X : Nat → Prop} (h : Lives w0 w g L X) : ∀ l ∈ L, l.good w := by
  obtain ⟨S, ⟨A, c, h1⟩, _⟩ := h
  exact fun l hl => (h1.let_ l hl).good

theorem new_lives (w : World) :
    Calls Try.prog 7 #[] w fun e w' => ∃ g, e = .returned (.pointer (some ⟨g, 0, none⟩)) ∧ Lives w w' g [] := by
  refine (new_any w).mono ?_
  rintro e w' ⟨g, rfl, h1, h2, h3⟩
  exact ⟨g, rfl, _, h1, by rintro k rfl; exact h2, h3, fun _ h => h.elim⟩
section
variable (w0 : World) (X : Nat → Prop) (w : World) (g : Nat) (L : List CL) (hp : Lives w0 w g L X)
include hp
theorem send_lives (f t : Int) (A : Option Addr) (n c : Nat) (d : List UInt8) (hL : L.length < 64) (hx : Sl w 1 (.slice A n c) n (bv d)) (hn : n ≤ 140737488355328) :
    Calls Try.prog 8 #[.pointer (some ⟨g, 0, none⟩), .agg #[.int .i64 f, .int .i64 t, .slice A n c]] w fun e w' => e = .returned (.int .i64 0) ∧ Keep (fun k => ¬ X k) w w' ∧ ∃ A' c', Lives w0 w' g (L ++ [⟨f, t, A', c', d⟩]) X := by
  obtain ⟨S, h1, h2, h3, h4⟩ := hp
  refine (send_ok f t A n c d w g S L h1 hL hx hn).mono ?_
  rintro e w' ⟨rfl, A', c', h⟩
  have := Lives.sent h2 h3 h4 h
  exact ⟨rfl, this.2, A', c', this.1⟩
theorem send_full_lives (f t : Int) (A : Option Addr) (n c : Nat) (hL : 64 ≤ L.length) :
    Calls Try.prog 8 #[.pointer (some ⟨g, 0, none⟩), .agg #[.int .i64 f, .int .i64 t, .slice A n c]] w fun e w' => e = .returned (.int .i64 9) ∧ Below w.heap.size w w' ∧ Lives w0 w' g L X := by
  have hp' := hp
  obtain ⟨S, h1, h2, h3, h4⟩ := hp
  refine (send_full f t A n c w g S L h1 hL).mono ?_
  rintro e w' ⟨rfl, h⟩
  exact ⟨rfl, h, hp'.below h⟩
theorem take_lives (k : Nat) (hk : k < L.length) :
    Calls Try.prog 9 #[.pointer (some ⟨g, 0, none⟩), .int .i64 (k : Int)] w fun e w' => e = .returned (.tuple #[.agg #[.int .i64 L[k].frm, .int .i64 L[k].dst, .slice L[k].A L[k].data.length L[k].cap], .int .i64 0]) ∧ Keep (fun k => ¬ X k) w w' ∧ Lives w0 w' g (L.eraseIdx k) X ∧ L[k].good w' := by
  obtain ⟨S, h1, h2, h3, h4⟩ := hp
  refine (take_ok g S L k w h1 hk).mono ?_
  rintro e w' ⟨rfl, h, h', _⟩
  have := Lives.sent h2 h3 h4 h
  exact ⟨rfl, this.2, this.1, h'⟩
/-- The letter that was taken lies apart from what is another's. -/
theorem take_lives' (k : Nat) (hk : k < L.length) :
    Calls Try.prog 9 #[.pointer (some ⟨g, 0, none⟩), .int .i64 (k : Int)] w fun e w' => e = .returned (.tuple #[.agg #[.int .i64 L[k].frm, .int .i64 L[k].dst, .slice L[k].A L[k].data.length L[k].cap], .int .i64 0]) ∧ Keep (fun k => ¬ X k) w w' ∧ Lives w0 w' g (L.eraseIdx k) X ∧ L[k].own w' (fun k => ¬ X k) := by
  obtain ⟨S, h1, h2, h3, h4⟩ := hp
  refine (take_ok g S L k w h1 hk).mono ?_
  rintro e w' ⟨rfl, h, _, h'⟩
  have := Lives.sent h2 h3 h4 h
  exact ⟨rfl, this.2, this.1, h'.1, h'.2.1, fun i hi hx => (h4 i hx).1 (h'.2.2 i hi)⟩
theorem take_bad_lives (k : Int) (hk : k < 0 ∨ L.length ≤ k) :
    Calls Try.prog 9 #[.pointer (some ⟨g, 0, none⟩), .int .i64 k] w fun e w' => e = .returned (.tuple #[noLetter, .int .i64 7]) ∧ Below w.heap.size w w' ∧ Lives w0 w' g L X := by
  have hp' := hp
  obtain ⟨S, h1, h2, h3, h4⟩ := hp
  refine (take_bad g S L k w h1 hk).mono ?_
  rintro e w' ⟨rfl, h⟩
  exact ⟨rfl, h, hp'.below h⟩
theorem twin_lives (k : Nat) (hk : k < L.length) (hL : L.length < 64) :
    Calls Try.prog 11 #[.pointer (some ⟨g, 0, none⟩), .int .i64 (k : Int)] w fun e w' => e = .returned (.int .i64 0) ∧ Keep (fun k => ¬ X k) w w' ∧ ∃ A' c', Lives w0 w' g (L ++ [⟨L[k].frm, L[k].dst, A', c', L[k].data⟩]) X := by
  obtain ⟨S, h1, h2, h3, h4⟩ := hp
  refine (twin_ok g S L k w h1 hk hL).mono ?_
  rintro e w' ⟨rfl, A', c', h⟩
  have := Lives.sent h2 h3 h4 h
  exact ⟨rfl, this.2, A', c', this.1⟩
theorem twin_full_lives (k : Nat) (hk : k < L.length) (hL : 64 ≤ L.length) :
    Calls Try.prog 11 #[.pointer (some ⟨g, 0, none⟩), .int .i64 (k : Int)] w fun e w' => e = .returned (.int .i64 9) ∧ Below w.heap.size w w' ∧ Lives w0 w' g L X := by
  have hp' := hp
  obtain ⟨S, h1, h2, h3, h4⟩ := hp
  refine (twin_full g S L k w h1 hk hL).mono ?_
  rintro e w' ⟨rfl, h⟩
  exact ⟨rfl, h, hp'.below h⟩
theorem twin_bad_lives (k : Int) (hk : k < 0 ∨ L.length ≤ k) :
    Calls Try.prog 11 #[.pointer (some ⟨g, 0, none⟩), .int .i64 k] w fun e w' => e = .returned (.int .i64 7) ∧ Below w.heap.size w w' ∧ Lives w0 w' g L X := by
  have hp' := hp
  obtain ⟨S, h1, h2, h3, h4⟩ := hp
  refine (twin_bad g S L k w h1 hk).mono ?_
  rintro e w' ⟨rfl, rfl⟩
  exact ⟨rfl, Below.refl _ _, hp'⟩
theorem letters_lives :
    Calls Try.prog 12 #[.pointer (some ⟨g, 0, none⟩)] w fun e w' => ∃ A c L', e = .returned (.slice A L'.length c) ∧ Told w w' L (.slice A L'.length c) L' ∧ Lives w0 w' g L X := by
  have hp' := hp
  obtain ⟨S, h1, h2, h3, h4⟩ := hp
  refine (letters_any g S L w h1).mono ?_
  rintro e w' ⟨A, c, L', rfl, h⟩
  exact ⟨A, c, L', rfl, h, hp'.below h.2.2.2.2⟩
end

set_option maxHeartbeats 1000000 in
theorem awake_any (w : World) :
    Calls Try.prog 13 #[] w fun e w' => e = .returned (.bool true) ∧ Below w.heap.size w w' := by
  have kc := fun (w : World) (C : Array Value) (n c : Nat) => Lib.run_convert_bytes_const (P := Try.prog) w 26 5 C n c Try.underlying26 Try.underlying5
  go_enter Try.func13, Try.ntmps13
  go_wp2_with fail
  refine (new_lives _).mono ?_
  rintro e w1 ⟨g, rfl, h1⟩
  have P1 := Lib.hid h1
  clear h1
  go_wp2_with fail
  refine (send_lives w _ _ _ _ (P1.out.below ((Below.refl _ _).alloc (Nat.le_refl _) _)) _ _ _ _ _ [97] (by simp) ⟨_, _, rfl, .inr ⟨_, rfl, World.news_of_block (by simpa using blk_new w1 (.cells #[.int .u8 97] 5 (1, 2)))⟩, (by simp), by simp, rfl⟩ (by omega)).mono ?_
  rintro e w2 ⟨rfl, _, A2, c2, h2⟩
  have P2 : Hid (Lives w w2 g [⟨1, 0, A2, c2, [97]⟩]) := Lib.hid h2
  clear h2 P1
  go_wp2_with fail
  refine (send_lives w _ _ _ _ P2.out _ _ _ _ _ [] (by simp) ⟨_, _, rfl, .inl rfl, (fun _ => ⟨rfl, rfl⟩), by simp, rfl⟩ (by omega)).mono ?_
  rintro e w3 ⟨rfl, _, A3, c3, h3⟩
  have P3 : Hid (Lives w w3 g [⟨1, 0, A2, c2, [97]⟩, ⟨2, 0, A3, c3, []⟩]) := Lib.hid h3
  clear h3 P2
  go_wp2_with fail
  refine (twin_lives w _ _ _ _ P3.out 0 (by simp) (by simp)).mono ?_
  rintro e w4 ⟨rfl, _, A4, c4, h4⟩
  have P4 : Hid (Lives w w4 g [⟨1, 0, A2, c2, [97]⟩, ⟨2, 0, A3, c3, []⟩, ⟨1, 0, A4, c4, [97]⟩]) := Lib.hid h4
  clear h4 P3
  go_wp2_with fail
  refine (take_lives w _ _ _ _ P4.out 0 (by simp)).mono ?_
  rintro e w5 ⟨rfl, _, h5, h6⟩
  have P5 : Hid (Lives w w5 g [⟨2, 0, A3, c3, []⟩, ⟨1, 0, A4, c4, [97]⟩]) := Lib.hid h5
  have s6 : (convert 26 9 (.slice A2 1 c2)).run Try.prog (w5.alloc (.cells #[.int .i64 1, .int .i64 0, .slice A2 1 c2] 28)) = .ok (.string ⟨#[97]⟩) (w5.alloc (.cells #[.int .i64 1, .int .i64 0, .slice A2 1 c2] 28)) :=
    run_conv_bytes (P := Try.prog) (d := [97]) _ Try.underlying26 Try.underlying5 Try.underlying9 (h6.1.below ((Below.refl _ _).alloc (Nat.le_refl _) (.cells #[.int .i64 1, .int .i64 0, .slice A2 1 c2] 28)))
  clear h5 h6 P4
  go_wp2_with fail
  refine (letters_lives w _ _ _ _ (P5.out.below ((Below.refl _ _).alloc (Nat.le_refl _) _))).mono ?_
  rintro e w6 ⟨A7, c7, L', rfl, h7, h8⟩
  have hl : L'.length = 2 := by have := congrArg List.length h7.2.2.2.1; simpa using this
  have P6 := Lib.hid h8
  clear h7 h8 P5
  go_wp2
  go_ret
  exact ⟨rfl, P6.out.under⟩
end Go.Proofs.Ythpgdoepbkgacaa
