/- Package field: Text; package verb: texts behind bytes. -/
import Derived.Test.YtlcfnehmmjhoiaaGreatVrb2
set_option linter.unusedSimpArgs false
set_option linter.unusedVariables false
namespace Go.Proofs.YtlcfnehmmjhoiaaGreat
open Go.RowKit

attribute [local go_sem ↓] Go.wp_at_zero Go.wp_at_succ
/-- A text as bytes. -/
def textB (s : ByteArray) : List UInt8 := le s.size 2 ++ s.data.toList
theorem textB_len (s : ByteArray) : (textB s).length = s.size + 2 := by
  unfold textB
  rw [List.length_append, le_len, Array.length_toList]
  show 2 + s.size = _
  omega
/-- Bytes more behind bytes, clipped; no error. -/
def TextP (B : Nat) (d E : List UInt8) (w : World) (e : Ending) (w' : World) : Prop := ∃ A' D, D = d ++ E ∧ e = .returned (.tuple #[.slice A' D.length D.length, .int .i64 0]) ∧ NB B w' A' D.length D ∧ Below w.heap.size w w'
theorem nb_some {B c : Nat} {w : World} {A : Option Addr} {d : List UInt8} (h : NB B w A c d) (h0 : 0 < d.length) : ∃ g o, A = some ⟨g, o, none⟩ := by
  obtain ⟨b, o, e, _⟩ := sl_at (k := 0) (u := .int .u8 ((d[0]).toNat : Int)) h.sl (by unfold bv; rw [List.getElem?_map, List.getElem?_eq_getElem h0]; rfl)
  exact ⟨b, o, e⟩
set_option maxHeartbeats 1000000 in
theorem text_walk (d : List UInt8) (A : Option Addr) (c : Nat) (s : ByteArray) (w : World) (h : Sl w 1 (.slice A d.length c) d.length (bv d)) (hs : s.size ≤ 65535) (hb : d.length ≤ 10000000) :
    Calls Tryz.prog 119 #[.slice A d.length c, .string s] w (TextP w.heap.size d (textB s) w) := by
  have HP := Lib.hid (put_walk d A c s.size 2 w h (by omega) (by omega) (by omega))
  have g1 : ¬ (65535 : Int) < (s.size : Int) := by omega
  have g2 : IntKind.u32.wrap (s.size : Int) = (s.size : Int) := IntWalk.u32_in _ (by omega)
  clear h
  go_enter Tryz.func119, Tryz.ntmps119
  go_wp2_with fail
  refine HP.out.mono ?_
  rintro e w1 ⟨A1, d1, hd1, rfl, ho, hbe⟩
  have hdl : d1.length = d.length + 2 := by rw [hd1, List.length_append, le_len]
  obtain ⟨g, o, rfl⟩ := nb_some ho (by omega)
  have HD := Lib.hid hd1
  have HO := Lib.hid ho
  have HBE := Lib.hid hbe
  have HDL := Lib.hid hdl
  clear hd1 ho hbe hdl
  go_wp2_with (at_builtin; go_must (refine wpList_appS rfl rfl (d := d1) rfl rfl rfl HO.out HBE.out.size (by have := HDL.out; omega) ?_))
  intro A2 c2 w2 h2 h3
  have hsl : (s.data.toList).length = s.size := by rw [Array.length_toList]; rfl
  have hle : d1.length + s.size ≤ c2 := by
    obtain ⟨_, _, e, _, _, hc, _⟩ := h2.sl
    injection e with _ _ e
    subst e
    rw [List.length_append, hsl] at hc
    exact hc
  have hnn : A2 = none → d1.length + s.size = 0 ∧ c2 = 0 := by
    intro e
    obtain ⟨_, _, e', _, hz, _, _⟩ := h2.sl
    injection e' with e1 _ e2
    subst e1 e2
    have := hz e
    rw [List.length_append, hsl] at this
    exact this
  have HC := Lib.hid (clip_walk A2 (d1.length + s.size) c2 w2 hle hnn (by have := HDL.out; omega))
  have hcl := h2.clip
  rw [List.length_append, hsl] at hcl
  have HCL := Lib.hid hcl
  have HB2 := Lib.hid (HBE.out.trans (h3.mono HBE.out.size))
  have HE : Hid ((d1 ++ s.data.toList) = d ++ textB s) := Lib.hid (by rw [HD.out, List.append_assoc]; rfl)
  have HLE : Hid ((d1 ++ s.data.toList).length = d1.length + s.size) := Lib.hid (by rw [List.length_append, hsl])
  clear h2 h3 hsl hle hnn hcl
  go_wp2_with fail
  refine HC.out.mono ?_
  rintro e W ⟨rfl, hWW⟩
  have hWW' := hWW.symm
  subst hWW'
  clear hWW
  go_wp2
  go_ret2
  refine ⟨A2, d1 ++ s.data.toList, HE.out, by rw [HLE.out]; rfl, ?_, HB2.out⟩
  rw [HLE.out]
  exact HCL.out
/-- Texts as bytes. -/
def textsP (L : List ByteArray) : List UInt8 := L.flatMap textB
theorem textsP_take {L : List ByteArray} {k : Nat} {s : ByteArray} (h : L[k]? = some s) : textsP (L.take (k + 1)) = textsP (L.take k) ++ textB s := by
  unfold textsP
  rw [List.take_add_one, h]
  simp
theorem textsP_len (L : List ByteArray) (hL : ∀ s ∈ L, s.size ≤ 65535) (k : Nat) : (textsP (L.take k)).length ≤ 65537 * k := by
  induction k with
  | zero => simp [textsP]
  | succ k ih =>
    cases h : L[k]? with
    | none =>
      have hl := List.getElem?_eq_none_iff.1 h
      rw [List.take_of_length_le (by omega)] at ih ⊢
      omega
    | some s =>
      rw [textsP_take h, List.length_append, textB_len]
      have := hL s (List.mem_of_getElem? h)
      omega
def EJ (B : Nat) (d : List UInt8) (L : List ByteArray) (w : World) (v0 v11 : Value) (W : World) : Prop := ∃ (i : Nat) (A : Option Addr) (c : Nat), i ≤ L.length ∧ v11 = .int .i64 (i : Int) ∧ v0 = .slice A (d ++ textsP (L.take i)).length c ∧ NB B W A c (d ++ textsP (L.take i)) ∧ Below w.heap.size w W
set_option maxHeartbeats 1000000 in
theorem eachstr_walk (B : Nat) (d : List UInt8) (A : Option Addr) (c : Nat) (L : List ByteArray) (X : Option Addr) (cx : Nat) (w : World) (h : NB B w A c d) (hB : B ≤ w.heap.size) (hx : Sl w 1 (.slice X L.length cx) L.length (L.map Value.string)) (hL : ∀ s ∈ L, s.size ≤ 65535) (hn : L.length ≤ 100) (hb : d.length ≤ 1000000) :
    Calls Tryz.prog 118 #[.slice A d.length c, .slice X L.length cx, .func (.func 119) #[] #[]] w (NumP B d (textsP L) w) := by
  have HS0 : Hid (EJ B d L w (.slice A d.length c) (.int .i64 0) w) := Lib.hid ⟨0, A, c, Nat.zero_le _, rfl, by simp [textsP], by simpa [textsP] using h, Below.refl _ _⟩
  have HX := Lib.hid hx
  have HL := Lib.hid hL
  clear h hx hL
  go_enter Tryz.func118, Tryz.ntmps118
  go_wp2_with fail
  go_loopw [0, 11] (fun v0 v11 wr => EJ B d L w v0 v11 wr) (fun _ v _ => L.length - (intOf v).toNat)
  case atStart => exact HS0.out
  case round =>
    obtain ⟨i, A2, c2, hi, rfl, rfl, hn2, hbe⟩ := hrel
    obtain ⟨D, hD⟩ : ∃ D, D = d ++ textsP (L.take i) := ⟨_, rfl⟩
    rw [← hD] at hn2 ⊢
    have hDl : D.length ≤ 10000000 := by
      have := textsP_len L HL.out i
      rw [hD, List.length_append]; omega
    have HD := Lib.hid hD
    have HN := Lib.hid hn2
    have HBE := Lib.hid hbe
    clear hD hn2 hbe
    by_cases hlt : i < L.length
    · obtain ⟨s, hs⟩ : ∃ s, L[i]? = some s := ⟨L[i], List.getElem?_eq_getElem hlt⟩
      have hsl := HL.out s (List.mem_of_getElem? hs)
      obtain ⟨ad, o, rfl, hc⟩ : ∃ b o, X = some ⟨b, o, none⟩ ∧ wr.cell? ⟨b, o + i, none⟩ = some (.string s) := (by
        obtain ⟨b, o, e, _, hc⟩ := sl_at (k := i) (u := .string s) (HX.out.below HBE.out) (by rw [List.getElem?_map, hs]; rfl)
        exact ⟨b, o, e, hc⟩)
      have HNT := Lib.hid (textsP_take hs)
      have g0 : (0 : Int) ≤ (i : Int) := by omega
      have g1 : (i : Int) < (L.length : Int) := by omega
      have g2 : IntKind.i64.wrap ((i : Int) + 1) = (i : Int) + 1 := IntWalk.i64_in _ (by omega)
      have HNW := Lib.hid (text_walk D A2 c2 s wr HN.out.sl hsl hDl)
      clear hs
      go_wp2_with fail
      refine HNW.out.mono ?_
      rintro e w1 ⟨A3, D3, hD3, rfl, hn3, hb3⟩
      have HP : Hid (EJ B d L w (.slice A3 D3.length D3.length) (.int .i64 ((i : Int) + 1)) w1) := Lib.hid ⟨i + 1, A3, D3.length, hlt, by rw [Int.natCast_add]; rfl, by rw [HNT.out, ← List.append_assoc, ← HD.out, ← hD3], by rw [HNT.out, ← List.append_assoc, ← HD.out, ← hD3]; exact hn3.mono (Nat.le_trans hB HBE.out.size), HBE.out.trans (hb3.mono HBE.out.size)⟩
      clear hD3 hn3 hb3
      go_wp2_with fail
      go_roundw
      case rel => exact HP.out
      case measure => simp only [intOf]; omega
    · obtain rfl : i = L.length := by omega
      have g1 : ¬ (L.length : Int) < (L.length : Int) := by omega
      go_wp2
      go_ret
      exact ⟨A2, c2, D, by rw [HD.out, List.take_length], rfl, HN.out, HBE.out⟩
theorem texts_walk (B : Nat) (d : List UInt8) (A : Option Addr) (c : Nat) (L : List ByteArray) (X : Option Addr) (cx : Nat) (w : World) (h : NB B w A c d) (hB : B ≤ w.heap.size) (hx : Sl w 1 (.slice X L.length cx) L.length (L.map Value.string)) (hL : ∀ s ∈ L, s.size ≤ 65535) (hn : L.length ≤ 100) (hb : d.length ≤ 1000000) :
    Calls Tryz.prog 84 #[.slice A d.length c, .slice X L.length cx] w (NumP B d (textsP L) w) := by
  have HE := Lib.hid (eachstr_walk B d A c L X cx w h hB hx hL hn hb)
  clear h hx hL
  go_enter Tryz.func84, Tryz.ntmps84
  go_wp2_with fail
  refine HE.out.mono ?_
  rintro e w1 ⟨A1, c1, D, hD, rfl, h1, h2⟩
  have HD := Lib.hid hD
  clear hD
  go_wp2
  go_ret
  exact ⟨A1, c1, D, HD.out, rfl, h1, h2⟩
end Go.Proofs.YtlcfnehmmjhoiaaGreat
