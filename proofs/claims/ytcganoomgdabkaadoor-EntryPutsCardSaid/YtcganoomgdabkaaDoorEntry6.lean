/- entry.Names. -/
import Derived.Test.YtcganoomgdabkaaDoorEntry5
import Derived.Deep.Light
set_option linter.unusedSimpArgs false
set_option linter.unusedVariables false
namespace Go.Proofs.YtcganoomgdabkaaDoor
open Go.RowKit

theorem eltS : Elt Tryd.prog 45 9 1 16 := by
  refine Elt.mk' (z := .string ⟨#[]⟩) (by kernel_rfl) (by kernel_rfl) (by kernel_rfl) (by intro u hu; revert hu; decide +revert) (by decide)
theorem eltRow : Elt Tryd.prog 35 23 2 24 := by
  refine Elt.mk' (z := .agg #[.string ⟨#[]⟩, .int .i64 0]) (by kernel_rfl) (by kernel_rfl) (by kernel_rfl) (by intro u hu; revert hu; decide +revert) (by decide)
/-- The names of the rows that are not empty, as they stand. -/
def rawN (l : List RW) : List Str := (l.filter fun r => !(r.name == [])).map (·.name)
def namesP (l : List RW) : List Str := sortS (rawN l)
theorem rawN_snoc (l : List RW) (r : RW) : rawN (l ++ [r]) = rawN l ++ (if r.name = [] then [] else [r.name]) := by
  unfold rawN
  rw [List.filter_append, List.map_append]
  congr 1
  by_cases h : r.name = [] <;> simp [h]
theorem rawN_length (l : List RW) : (rawN l).length ≤ l.length := by
  unfold rawN
  rw [List.length_map]
  exact List.length_filter_le _ _
theorem take_snocR {l : List RW} {i : Nat} {x : RW} (h : l[i]? = some x) : l.take (i + 1) = l.take i ++ [x] := by rw [List.take_add_one, h]; rfl
theorem strs_snoc (o : List Str) (p : Str) : strs (o ++ [p]) = strs o ++ [.string ⟨p.toArray⟩] := by simp [strs]
/-- A row of texts of one's own, made since. -/
def FrS (base : Nat) (wr : World) (v : Value) (os : List Str) : Prop := ∃ A c, v = .slice A os.length c ∧ wr.ownsRow 0 9 1 (.slice A os.length c) os.length (strs os) ∧ ∀ k, A.map (·.block) = some k → base ≤ k
theorem FrS.below {base : Nat} {w w' : World} {v : Value} {os : List Str} (h : FrS base w v os) (hb : Below w.heap.size w w') : FrS base w' v os := by
  obtain ⟨A, c, hv, ho, hb'⟩ := h
  exact ⟨A, c, hv, own_keep ho (Keep.of_below (S := fun _ => False) hb) (fun _ _ h => h), hb'⟩
def NmInv (l : List RW) (w : World) (v vi : Value) (wr : World) : Prop :=
  ∃ i : Nat, i ≤ l.length ∧ vi = .int .i64 (i : Int) ∧ FrS w.heap.size wr v (rawN (l.take i)) ∧ Below w.heap.size w wr
def NamesEnd (r : List Str) (w : World) (e : Ending) (w' : World) : Prop := ∃ A c, e = .returned (.slice A r.length c) ∧ Sl w' 1 (.slice A r.length c) r.length (strs r) ∧ Below w.heap.size w w'
theorem names_end {w w3 : World} {K : Option Addr} {kc : Nat} {os : List Str} (h : w3.ownsRow 0 9 1 (.slice K os.length kc) os.length (strs (sortS os))) (hb : Below w.heap.size w w3) :
    NamesEnd (sortS os) w (.returned (.slice K os.length os.length)) w3 := by
  obtain ⟨A', c', hv, hr, hA, hc, hl⟩ := Sl.of_own h
  injection hv with e1 e2 e3
  subst e1 e3
  refine ⟨K, os.length, by rw [sortS_length], ⟨K, os.length, by rw [sortS_length], hr, fun e => ?_, by rw [sortS_length]; exact Nat.le_refl _, by rw [strs_length]; omega⟩, hb⟩
  have := hA e
  rw [sortS_length]
  omega
set_option maxHeartbeats 2000000 in
theorem names_walk (A : Option Addr) (c : Nat) (l : List RW) (w : World) (hs : Sl w 2 (.slice A l.length c) l.length (rows l)) (hn : l.length ≤ 8000000000000) :
    Calls Tryd.prog 20 #[.slice A l.length c] w (NamesEnd (namesP l) w) := by
  have HS := Lib.hid hs
  clear hs
  go_enter Tryd.func20, Tryd.ntmps20
  go_wp2
  go_loopw [3, 8] (fun v vi wr => NmInv l w v vi wr) (fun _ v _ => l.length - (intOf v).toNat)
  case atStart => exact ⟨0, Nat.zero_le _, rfl, ⟨none, 0, rfl, own_nil' _ _ _ _, by simp⟩, Below.refl _ _⟩
  case round =>
    obtain ⟨i, hi, rfl, ⟨K, kc, rfl, hown, hK⟩, hb⟩ := hrel
    have HB := Lib.hid hb
    have HO := Lib.hid hown
    have HK := Lib.hid hK
    have hwz : w.heap.size ≤ wr.heap.size := hb.size
    clear hb hown hK
    by_cases hlt : i < l.length
    · obtain ⟨x, hx⟩ : ∃ x, l[i]? = some x := ⟨l[i], List.getElem?_eq_getElem hlt⟩
      obtain ⟨b, o, rfl, hb, r0, r1⟩ := row_at (HS.out.below HB.out) hx
      have b1 : (0 : Int) ≤ (i : Int) := by omega
      have b2 : (i : Int) < (l.length : Int) := by omega
      have HT := Lib.hid (take_snocR hx)
      clear hx
      obtain ⟨xs, xn⟩ := x
      dsimp only at r0 r1
      have hle := rawN_length (l.take i)
      have hle2 : (rawN (l.take i)).length ≤ 8000000000000 := by have : (l.take i).length ≤ i := List.length_take_le _ _; omega
      clear hle
      obtain ⟨os, hos⟩ : ∃ os, os = rawN (l.take i) := ⟨_, rfl⟩
      rw [← hos] at HO hle2 ⊢
      have HOS := Lib.hid hos
      clear hos
      by_cases h1 : xs = []
      · subst h1
        go_wp2
        go_roundw
        case rel => exact ⟨i + 1, by omega, by go_num, by rw [HT.out, rawN_snoc, ← HOS.out]; simpa using ⟨K, kc, rfl, own_keep HO.out ((Keep.refl (fun _ => False) wr).alloc _) (fun _ _ h => h), HK.out⟩, HB.out.alloc hwz _⟩
        case measure => simp [intOf]; omega
      · have h1a : xs.isEmpty = false := by simpa using h1
        have h1c : (xs != []) = true := by simpa using h1
        have h1d : (xs == []) = false := by simpa using h1
        have H1 := Lib.hid h1
        clear h1
        have hz1 : (wr.alloc (.cells #[.string ⟨xs.toArray⟩, .int .i64 xn] 23)).heap.size = wr.heap.size + 1 := by simp
        have hS := own_new (wr.alloc (.cells #[.string ⟨xs.toArray⟩, .int .i64 xn] 23)) #[.string ⟨xs.toArray⟩] 9 1 1 rfl (by decide)
        rw [hz1] at hS
        have HSO := Lib.hid hS
        clear hz1 hS
        go_wp2_with (at_builtin; go_must (refine wpList_app rfl eltS rfl rfl rfl (n := os.length) (m := 1) (own_keep HO.out (((Keep.refl (fun _ => False) wr).alloc _).alloc _) (fun _ _ h => h)) (Sl.of_own HSO.out) (by simp [Value.oneCell']) (by omega) (by simp only [maxLen]; omega) ?_))
        intro v2 w3 g1 g2 g3 g4
        clear g4
        obtain ⟨A2, c2, rfl, _⟩ := Rd.of_own g1
        have hk3 : Keep (fun k => w.heap.size ≤ k) wr w3 := ((((Keep.refl (fun _ => False) wr).alloc _).alloc _).mono (T := fun k => w.heap.size ≤ k) (fun _ _ h => h.elim)).trans g2 (fun j _ e => HK.out j (by rw [ownBlock_slice] at e; exact e))
        have hb3 := HB.out.trans (hk3.below (B := w.heap.size) (fun _ h => h) hwz)
        have hf3 : ∀ k, A2.map (·.block) = some k → w.heap.size ≤ k := by
          intro k e
          rcases g3 with h | h <;> rw [ownBlock_slice] at h
          · rw [ownBlock_slice] at h; exact HK.out k (h ▸ e)
          · rw [e] at h; injection h with h; first | omega | (simp at h; omega)
        have HR := Lib.hid (show FrS w.heap.size w3 (.slice A2 (os.length + 1) c2) (os ++ [xs]) from ⟨A2, c2, by simp, by rw [strs_snoc, List.length_append]; exact g1, hf3⟩)
        have HB3 := Lib.hid hb3
        clear g1 g2 g3 hk3 hb3 hf3
        go_wp2
        go_roundw
        case rel => exact ⟨i + 1, by omega, by go_num, by rw [HT.out, rawN_snoc, ← HOS.out, if_neg H1.out]; exact HR.out, HB3.out⟩
        case measure => simp [intOf]; omega
    · obtain rfl : i = l.length := by omega
      have hrl := rawN_length l
      rw [List.take_length] at HO ⊢
      have HN : Hid (namesP l = sortS (rawN l)) := Lib.hid rfl
      obtain ⟨os, hos⟩ : ∃ os, os = rawN l := ⟨_, rfl⟩
      rw [← hos] at HO HN hrl ⊢
      clear hos
      have HSW := Lib.hid (sortS_walk K kc os wr HO.out (by omega))
      go_wp2_with fail
      refine HSW.out.mono ?_
      rintro e w2 ⟨rfl, hown2, hk2⟩
      have HO2 := Lib.hid hown2
      have HB2 := Lib.hid (HB.out.trans (hk2.below (B := w.heap.size) (fun k e => HK.out k e) hwz))
      obtain ⟨A', c', hv, _, hA, hc, _⟩ := Rd.of_own HO2.out
      injection hv with e1 e2 e3
      subst e1 e3
      have HCL := Lib.hid (clipS_walk K os.length kc w2 hc hA)
      clear hown2 hk2 hA e2
      go_wp2_with fail
      refine HCL.out.mono ?_
      rintro e w3 ⟨rfl, rfl⟩
      go_wp2
      go_ret
      rw [HN.out]
      exact names_end HO2.out HB2.out
end Go.Proofs.YtcganoomgdabkaaDoor
