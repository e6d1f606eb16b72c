/- Join, the program's and the reference's. -/
import Derived.Test.YtelmmfaifebdkaaDoorPath3
set_option linter.unusedSimpArgs false
set_option linter.unusedVariables false
namespace Go.Proofs.YtelmmfaifebdkaaDoor
open Go.RowKit

theorem joinR_take {l : List Str} {i : Nat} {p : Str} (h : l[i]? = some p) : joinR (l.take (i + 1)) = joinR (l.take i) ++ 47 :: p := by
  rw [List.take_add_one, h, joinR_append]; simp [joinR]
theorem joinR_take_length {l : List Str} (h24 : ∀ p ∈ l, p.length ≤ 24) (i : Nat) : (joinR (l.take i)).length ≤ i * 25 := by
  induction l generalizing i with
  | nil => simp [joinR]
  | cons p l ih =>
    cases i with
    | zero => simp [joinR]
    | succ i =>
      have h := ih (fun q hq => h24 q (by simp [hq])) i
      have hp := h24 p (by simp)
      rw [joinR_length] at h
      rw [List.take_succ_cons, joinR_length]
      simp only [List.map_cons, List.sum_cons]
      omega
theorem joinR_take_nil {l : List Str} : joinR l = [] ↔ l = [] := by cases l <;> simp [joinR]

theorem str_app (a p : Str) : (⟨a.toArray⟩ : ByteArray) ++ ((⟨#[47]⟩ : ByteArray) ++ (⟨p.toArray⟩ : ByteArray)) = ⟨(a ++ 47 :: p).toArray⟩ := by
  apply ByteArray.ext
  simp [ByteArray.data_append]
def JInv (l : List Str) (w : World) (o v : Value) (wr : World) : Prop := ∃ i : Nat, i ≤ l.length ∧ v = .int .i64 (i : Int) ∧ o = .string ⟨(joinR (l.take i)).toArray⟩ ∧ Below w.heap.size w wr ∧ ∀ (j : Nat) p, j < i → l[j]? = some p → isName p = true

def JRel (l : List Str) (w : World) (o v : Value) (wr : World) : Prop := ∃ i : Nat, i ≤ l.length ∧ v = .int .i64 (i : Int) ∧ o = .string ⟨(joinR (l.take i)).toArray⟩ ∧ wr = w

set_option maxHeartbeats 1000000 in
theorem refJoin_walk (A : Option Addr) (n c : Nat) (l : List Str) (w : World) (ha : Sl w 1 (.slice A n c) n (strs l)) (h8 : l.length ≤ 8) (h24 : ∀ p ∈ l, p.length ≤ 24) :
    Calls Tryd.prog 17 #[.slice A n c] w fun e w' => e = .returned (.string ⟨(joinS l).toArray⟩) ∧ w' = w := by
  have ln : n = l.length := by obtain ⟨_, _, _, _, _, _, h⟩ := ha; rw [strs_length] at h; omega
  subst ln
  have HA := Lib.hid ha
  have HL := Lib.hid (joinR_take_length h24)
  have H24 := Lib.hid h24
  clear ha h24
  go_enter Tryd.func17, Tryd.ntmps17
  go_wp2
  go_loopw [3, 4] (fun o v wr => JRel l w o v wr) (fun _ v _ => l.length - (intOf v).toNat)
  case atStart => exact ⟨0, Nat.zero_le _, rfl, rfl, rfl⟩
  case round =>
    obtain ⟨i, hi, rfl, rfl, rfl⟩ := hrel
    by_cases hlt : i < l.length
    · obtain ⟨p, hp⟩ : ∃ p, l[i]? = some p := ⟨l[i], List.getElem?_eq_getElem hlt⟩
      obtain ⟨g1, o1, hA, k1, c1⟩ := strs_at HA.out hp
      subst hA
      have b1 : (0 : Int) ≤ (i : Int) := by omega
      have b2 : (i : Int) < (l.length : Int) := by omega
      have hpl := H24.out p (List.mem_of_getElem? hp)
      have hjl := HL.out i
      go_wp2
      go_roundw
      case rel => exact ⟨i + 1, by omega, by go_num, by rw [str_app, joinR_take hp], rfl⟩
      case measure => simp [intOf]; omega
    · obtain rfl : i = l.length := by omega
      have he := joinR_take_nil (l := l)
      rw [List.take_length]
      by_cases h0 : l = []
      · subst h0
        go_wp2
        go_ret
        exact ⟨rfl, rfl⟩
      · have hs := (joinS_length l).2.1 h0
        have h1 : (joinR l).isEmpty = false := by rw [Bool.eq_false_iff]; intro e; exact h0 (he.1 (List.isEmpty_iff.1 e))
        go_wp2
        go_ret
        exact ⟨by rw [hs]; rfl, rfl⟩
def resJ : Except Int Str → Value
  | .ok s => .tuple #[.string ⟨s.toArray⟩, .int .i64 0]
  | .error e => .tuple #[.string ⟨#[]⟩, .int .i64 e]
set_option maxHeartbeats 1000000 in
theorem join_walk (A : Option Addr) (n c : Nat) (l : List Str) (w : World) (ha : Sl w 1 (.slice A n c) n (strs l)) (hn : l.length ≤ 140737488351232) (h24 : ∀ p ∈ l, p.length ≤ 9223372036854775807) :
    Calls Tryd.prog 16 #[.slice A n c] w fun e w' => e = .returned (resJ (joinP l)) ∧ Below w.heap.size w w' := by
  have ln : n = l.length := by obtain ⟨_, _, _, _, _, _, h⟩ := ha; rw [strs_length] at h; omega
  subst ln
  by_cases h8 : 8 < l.length
  · have hr : joinP l = .error 4 := by unfold joinP; rw [if_pos h8]
    rw [hr]
    clear ha
    go_enter Tryd.func16, Tryd.ntmps16
    go_wp2
    refine bodyPost_ret (v := .tuple #[.string ⟨#[]⟩, .int .i64 4]) (by simp [results, Tryd.results16, go_sem]) rfl ⟨rfl, Below.refl _ _⟩
  · have h8' : l.length ≤ 8 := by omega
    have HA := Lib.hid ha
    have H24 := Lib.hid h24
    clear ha h24 h8 hn
    go_enter Tryd.func16, Tryd.ntmps16
    go_wp2
    go_loopw [4, 12] (fun o v wr => JInv l w o v wr) (fun _ v _ => l.length - (intOf v).toNat)
    case atStart => exact ⟨0, Nat.zero_le _, rfl, rfl, Below.refl _ _, by intro j p hj; omega⟩
    case round =>
      obtain ⟨i, hi, rfl, rfl, hbe, hall⟩ := hrel
      have HE := Lib.hid hbe
      have HN := Lib.hid hall
      have hjl : (joinR (l.take i)).length ≤ i * 25 := by
        have h := joinR_take_length (l := l.take i) (fun p hp => by
          obtain ⟨j, hj⟩ := List.mem_iff_getElem?.1 hp
          rw [List.getElem?_take] at hj
          split at hj
          · rename_i hji
            have := hall j p hji hj
            simp only [isName, Bool.and_eq_true, decide_eq_true_eq] at this
            exact this.1.2
          · cases hj) i
        rwa [List.take_take, Nat.min_self] at h
      clear hbe hall
      by_cases hlt : i < l.length
      · obtain ⟨p, hp⟩ : ∃ p, l[i]? = some p := ⟨l[i], List.getElem?_eq_getElem hlt⟩
        obtain ⟨g1, o1, hA, k1, c1⟩ := strs_at HA.out hp
        subst hA
        have d1 := (HE.out.cell (p := ⟨g1, o1 + i, none⟩) k1).trans c1
        have b1 : (0 : Int) ≤ (i : Int) := by omega
        have b2 : (i : Int) < (l.length : Int) := by omega
        have hpl := H24.out p (List.mem_of_getElem? hp)
        have HP := Lib.hid hp
        clear c1 hp
        go_wp2_with fail
        refine (name_walk ⟨p.toArray⟩ _ (by simpa [ByteArray.size] using hpl)).mono ?_
        rintro e w1 ⟨rfl, h1⟩
        have H1 := Lib.hid (HE.out.trans (h1.mono HE.out.size))
        clear h1
        by_cases hs : isName p = true
        · have h24 : p.length ≤ 24 := by simp only [isName, Bool.and_eq_true, decide_eq_true_eq] at hs; exact hs.1.2
          go_wp2
          go_roundw
          case rel =>
            refine ⟨i + 1, by omega, by go_num, by rw [str_app, joinR_take HP.out], H1.out, fun j q hj hq => ?_⟩
            rcases Nat.lt_or_ge j i with h | h
            · exact HN.out j q h hq
            · obtain rfl : j = i := by omega
              rw [HP.out] at hq
              cases hq
              exact hs
          case measure => simp [intOf]; omega
        · have hs' : isName p = false := by simpa using hs
          have hr : joinP l = .error 6 := by
            unfold joinP
            rw [if_neg (by omega), if_pos]
            rw [Bool.eq_false_iff]
            intro h
            exact hs (List.all_eq_true.1 h p (List.mem_of_getElem? HP.out))
          go_wp2
          refine bodyPost_ret (v := .tuple #[.string ⟨#[]⟩, .int .i64 6]) (by simp [results, Tryd.results16, go_sem]) rfl ⟨by rw [hr]; rfl, H1.out⟩
      · obtain rfl : i = l.length := by omega
        have hn : l.all isName = true := List.all_eq_true.2 fun p hp => by
          obtain ⟨j, hj⟩ := List.mem_iff_getElem?.1 hp
          exact HN.out j p (List.getElem?_eq_some_iff.1 hj).1 hj
        rw [List.take_length] at *
        by_cases hb : 96 < (joinR l).length
        · have hr : joinP l = .error 17 := by unfold joinP; rw [if_neg (by omega), if_neg (by simp [hn]), if_pos hb]
          go_wp2
          refine bodyPost_ret (v := .tuple #[.string ⟨#[]⟩, .int .i64 17]) (by simp [results, Tryd.results16, go_sem]) rfl ⟨by rw [hr]; rfl, HE.out⟩
        · have hr : joinP l = .ok (joinS l) := by unfold joinP; rw [if_neg (by omega), if_neg (by simp [hn]), if_neg hb]
          have hb' : (joinR l).length ≤ 96 := by omega
          by_cases h0 : l = []
          · subst h0
            go_wp2
            refine bodyPost_ret (v := .tuple #[.string ⟨#[47]⟩, .int .i64 0]) (by simp [results, Tryd.results16, go_sem]) rfl ⟨by rw [hr]; rfl, HE.out⟩
          · have hs := (joinS_length l).2.1 h0
            have h1 : (joinR l).isEmpty = false := by rw [Bool.eq_false_iff]; intro e; exact h0 (joinR_take_nil.1 (List.isEmpty_iff.1 e))
            go_wp2
            refine bodyPost_ret (v := .tuple #[.string ⟨(joinR l).toArray⟩, .int .i64 0]) (by simp [results, Tryd.results16, go_sem]) rfl ⟨by rw [hr, hs]; rfl, HE.out⟩
end Go.Proofs.YtelmmfaifebdkaaDoor
