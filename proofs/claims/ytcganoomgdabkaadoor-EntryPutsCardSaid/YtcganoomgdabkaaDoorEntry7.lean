/- The document's answer: Noughts, Little, Sound, Encode. -/
import Derived.Test.YtcganoomgdabkaaDoorEntry6
import Derived.Deep.QuietTactic
import Derived.BigQuiet
import Derived.Laws.Concat
import Derived.IntWalk
set_option linter.unusedSimpArgs false
set_option linter.unusedVariables false
namespace Go.Proofs.YtcganoomgdabkaaDoor
open Go.RowKit

theorem rsound_walk (r : RW) (w : World) :
    Calls Tryd.prog 11 #[r.val] w fun e w' => e = .returned (.bool (soundP r)) ∧ Below w.heap.size w w' := by
  obtain ⟨s, n⟩ := r
  unfold RW.val
  dsimp only
  have HN := Lib.hid (refName_walk ⟨s.toArray⟩ (w.alloc (.cells #[.string ⟨s.toArray⟩, .int .i64 n] 23)))
  have HB := Lib.hid ((Below.refl w.heap.size w).alloc (Nat.le_refl _) (.cells #[.string ⟨s.toArray⟩, .int .i64 n] 23))
  obtain ⟨b, hb⟩ : ∃ b, b = isName s := ⟨_, rfl⟩
  have hq : soundP ⟨s, n⟩ = (b && decide (1 ≤ n) && decide (n < 32)) := by rw [hb]; rfl
  have HQ := Lib.hid hq
  dsimp only at HN
  rw [← hb] at HN
  clear hq hb
  cases b with
  | false =>
    go_enter Tryd.func11, Tryd.ntmps11
    go_wp2_with fail
    refine HN.out.mono ?_
    rintro e w1 ⟨rfl, rfl⟩
    go_wp2
    go_ret
    exact ⟨congrArg (fun b => Ending.returned (.bool b)) (by rw [HQ.out]; rfl), HB.out⟩
  | true =>
    go_enter Tryd.func11, Tryd.ntmps11
    go_wp2_with fail
    refine HN.out.mono ?_
    rintro e w1 ⟨rfl, rfl⟩
    go_wp2
    all_goals
      go_ret
      exact ⟨congrArg (fun b => Ending.returned (.bool b)) (by rw [HQ.out, Bool.eq_iff_iff]; simp; omega), HB.out⟩
def noughts (n : Nat) : Str := List.replicate n 0
theorem ba_append (a b : Str) : (⟨a.toArray⟩ : ByteArray) ++ ⟨b.toArray⟩ = ⟨(a ++ b).toArray⟩ := by
  apply ByteArray.ext
  simp
def strLen : Value → Nat
  | .string s => s.size
  | _ => 0
theorem strLen_mk (a : Str) : strLen (.string ⟨a.toArray⟩) = a.length := by simp [strLen, ByteArray.size]
theorem ba_size (a : Str) : (⟨a.toArray⟩ : ByteArray).size = a.length := by simp [ByteArray.size]
set_option maxHeartbeats 1000000 in
theorem noughts_walk (n : Nat) (w : World) (hn : n ≤ 1000) :
    Calls Tryd.prog 22 #[.int .i64 (n : Int)] w fun e w' => e = .returned (.string ⟨(noughts n).toArray⟩) ∧ w' = w := by
  go_enter Tryd.func22, Tryd.ntmps22
  go_wp2
  go_loop [3] (fun v => ∃ i : Nat, i ≤ n ∧ v = .string ⟨(noughts i).toArray⟩) (fun v => n - strLen v)
  case atStart => exact ⟨0, Nat.zero_le _, rfl⟩
  case round =>
    obtain ⟨i, hi, rfl⟩ := hrel
    have hsz := ba_size (noughts i)
    have hl : (noughts i).length = i := by simp [noughts]
    rw [hl] at hsz
    have HL := Lib.hid hl
    clear hl
    by_cases hlt : i < n
    · go_wp2
      go_round
      case rel => exact ⟨i + 1, by omega, by rw [show (#[0] : Array UInt8) = ([0] : Str).toArray from rfl, ba_append]; simp [noughts, List.replicate_succ']⟩
      case measure => rw [show (#[0] : Array UInt8) = ([0] : Str).toArray from rfl, ba_append, strLen_mk, strLen_mk, List.length_append, HL.out]; simp; omega
    · obtain rfl : i = n := by omega
      go_wp2
      go_ret
      exact ⟨rfl, rfl⟩
/-- A number in k bytes, the least first. -/
def leB : Nat → Nat → Str
  | 0, _ => []
  | k + 1, n => UInt8.ofNat n :: leB k (n / 256)
theorem leB_snoc (k n : Nat) : leB (k + 1) n = leB k n ++ [UInt8.ofNat (n / 256 ^ k)] := by
  induction k generalizing n with
  | zero => simp [leB]
  | succ k ih =>
    rw [leB, ih (n / 256), leB, List.cons_append, Nat.div_div_eq_div_mul, Nat.pow_succ, Nat.mul_comm 256]
theorem leB_length (k n : Nat) : (leB k n).length = k := by
  induction k generalizing n with
  | zero => rfl
  | succ k ih => simp [leB, ih]
theorem ofNat_mod (n : Nat) : UInt8.ofNat (n % 256) = UInt8.ofNat n := by
  apply UInt8.toNat_inj.1
  rw [UInt8.toNat_ofNat', UInt8.toNat_ofNat']
  omega
def LitInv (n k : Nat) (w : World) (v0 v5 v6 : Value) (wr : World) : Prop := ∃ i : Nat, i ≤ k ∧ v0 = .int .i64 ((n / 256 ^ i : Nat) : Int) ∧ v5 = .string ⟨(leB i n).toArray⟩ ∧ v6 = .int .i64 (i : Int) ∧ Below w.heap.size w wr
set_option maxRecDepth 100000 in
set_option maxHeartbeats 1000000 in
theorem little_walk (n k : Nat) (w : World) (hn : n ≤ 9223372036854775807) (hk : k ≤ 100) :
    Calls Tryd.prog 23 #[.int .i64 (n : Int), .int .i64 (k : Int)] w fun e w' => e = .returned (.string ⟨(leB k n).toArray⟩) ∧ Below w.heap.size w w' := by
  go_enter Tryd.func23, Tryd.ntmps23
  go_wp2
  go_loopw [0, 5, 6] (fun v0 v5 v6 wr => LitInv n k w v0 v5 v6 wr) (fun _ _ v _ => k - (intOf v).toNat)
  case atStart => exact ⟨0, Nat.zero_le _, by simp, rfl, rfl, Below.refl _ _⟩
  case round =>
    obtain ⟨i, hi, rfl, rfl, rfl, hb⟩ := hrel
    have HB := Lib.hid hb
    have hsz := hb.size
    clear hb
    by_cases hlt : i < k
    · have hm : n / 256 ^ i ≤ n := Nat.div_le_self _ _
      have HP := Lib.hid (show n / 256 ^ i / 256 = n / 256 ^ (i + 1) by rw [Nat.div_div_eq_div_mul, Nat.pow_succ])
      have HS := Lib.hid (leB_snoc i n)
      obtain ⟨m, hm2⟩ : ∃ m, m = n / 256 ^ i := ⟨_, rfl⟩
      rw [← hm2] at hm HP HS ⊢
      clear hm2
      have b0 : (0 : Int) ≤ (m : Int) := by omega
      have b1 : (m : Int) % 256 < 256 := by omega
      have b2 : (0 : Int) ≤ (m : Int) % 256 := by omega
      have hc : (wr.alloc (.cells #[.int .u8 ((m : Int) % 256)] 5)).ownsRow 0 5 1 (.slice (some ⟨wr.heap.size, 0, none⟩) 1 1) 1 (bv [UInt8.ofNat m]) := by
        have := own_new wr #[.int .u8 ((m : Int) % 256)] 5 1 1 rfl (by decide)
        have h2 : ((UInt8.ofNat m).toNat : Int) = (m : Int) % 256 := by rw [UInt8.toNat_ofNat']; omega
        simp only [bv, List.map_cons, List.map_nil, h2]
        exact this
      have kc := run_conv_bytes (P := Tryd.prog) (wr.alloc (.cells #[.int .u8 ((m : Int) % 256)] 5)) Tryd.underlying24 Tryd.underlying5 Tryd.underlying9 (Sl.of_own hc)
      have hs2 := ba_size (leB i n)
      rw [leB_length] at hs2
      clear hc
      go_wp2
      go_roundw
      case rel => exact ⟨i + 1, by omega, by rw [← HP.out]; rfl, by rw [HS.out, ← ba_append], by go_num, HB.out.alloc hsz _⟩
      case measure => simp [intOf]; omega
    · obtain rfl : i = k := by omega
      go_wp2
      go_ret
      exact ⟨rfl, HB.out⟩
/-- The document's bytes are the program's. -/
theorem enc_ref (s : Str) (n : Nat) (h : s.length ≤ 24) (hn : n < 32) : leB 1 s.length ++ s ++ noughts (24 - s.length) ++ leB 2 n ++ noughts 5 = encB ⟨s, (n : Int)⟩ := by
  have e : n / 256 = 0 := by omega
  have e2 : byteOf (n : Int) = UInt8.ofNat n := by simp [byteOf]
  simp [encB, leB, noughts, e, e2, List.replicate_succ]
theorem bstep {w w1 w2 : World} (h : Below w.heap.size w w1) (hb : Below w1.heap.size w1 w2) : Below w.heap.size w w2 := h.trans (hb.mono h.size)
def RefEncEnd (r : Option (List UInt8)) (w : World) (e : Ending) (w' : World) : Prop :=
  Below w.heap.size w w' ∧ e = .returned (.tuple #[.string ⟨(r.getD []).toArray⟩, .int .i64 (if r.isSome then 0 else 2)])
theorem ret_se {a b : Str} {p q : Int} (h : a = b) (k : p = q) : Ending.returned (.tuple #[.string ⟨a.toArray⟩, .int .i64 p]) = Ending.returned (.tuple #[.string ⟨b.toArray⟩, .int .i64 q]) := by rw [h, k]
theorem ret_se_ba {a b : ByteArray} {p q : Int} (h : a = b) (k : p = q) : Ending.returned (.tuple #[.string a, .int .i64 p]) = Ending.returned (.tuple #[.string b, .int .i64 q]) := by rw [h, k]
set_option maxHeartbeats 2000000 in
theorem rencode_walk (r : RW) (w : World) (hs : r.name.length ≤ 140737488351232) :
    Calls Tryd.prog 9 #[r.val] w (RefEncEnd (encP r) w) := by
  have HSD := Lib.hid (fun (w : World) => rsound_walk r w)
  have HB : Hid (∀ r : RW, Below w.heap.size w (w.alloc (.cells #[.string ⟨r.name.toArray⟩, .int .i64 r.node] 23))) := Lib.hid (fun r => (Below.refl w.heap.size w).alloc (Nat.le_refl _) _)
  have HX : Hid (∀ r : RW, (w.alloc (.cells #[.string ⟨r.name.toArray⟩, .int .i64 r.node] 23)).heap[w.heap.size]? = some (.cells #[.string ⟨r.name.toArray⟩, .int .i64 r.node] 23 (0, 0))) := Lib.hid (fun r => blk_new w _)
  by_cases he : r = RW.none
  · subst he
    unfold RW.val RW.none
    have HN := Lib.hid (fun w => noughts_walk 32 w (by omega))
    go_enter Tryd.func9, Tryd.ntmps9
    go_wp2_with fail
    refine (HN.out _).mono ?_
    rintro e w1 ⟨rfl, rfl⟩
    go_wp2
    go_ret2
    exact ⟨HB.out RW.none, rfl⟩
  · have HE := Lib.hid (show encP r = if soundP r = false then none else some (encB r) by unfold encP; rw [if_neg he])
    obtain ⟨s, n⟩ := r
    have hne : (s.isEmpty && (n == 0)) = false := by
      rw [Bool.eq_false_iff]; intro h; simp at h; exact he (by rw [h.1, h.2]; rfl)
    unfold RW.val at *
    dsimp only at hs HSD ⊢
    cases hq : soundP ⟨s, n⟩ with
    | false =>
      rw [hq] at HSD HE
      have HHE := Lib.hid (show encP ⟨s, n⟩ = none from HE.out)
      by_cases h0 : s = []
      · subst h0
        have h1 : ¬ n = 0 := fun e => he (by rw [e]; rfl)
        have h1a : (n == 0) = false := beq_eq_false_iff_ne.2 h1
        clear he hq h1 hne
        go_enter Tryd.func9, Tryd.ntmps9
        go_wp2_with fail
        refine (HSD.out _).mono ?_
        rintro e w1 ⟨rfl, hb1⟩
        go_wp2
        go_ret2
        rw [HHE.out]
        exact ⟨(HB.out ⟨[], n⟩).trans (hb1.mono (by simp)), rfl⟩
      · have h1 : s.isEmpty = false := by simpa using h0
        clear he hq h0 hne
        go_enter Tryd.func9, Tryd.ntmps9
        go_wp2_with fail
        refine (HSD.out _).mono ?_
        rintro e w1 ⟨rfl, hb1⟩
        go_wp2
        go_ret2
        rw [HHE.out]
        exact ⟨(HB.out ⟨s, n⟩).trans (hb1.mono (by simp)), rfl⟩
    | true =>
      obtain ⟨h1, h2, h3⟩ := soundP_iff.1 hq
      obtain ⟨l1, l2⟩ := isName_len h1
      dsimp only at h2 h3 l1 l2
      rw [hq] at HSD HE
      have HHE := Lib.hid (show encP ⟨s, n⟩ = some (encB ⟨s, n⟩) from HE.out)
      obtain ⟨m, rfl⟩ : ∃ m : Nat, n = (m : Int) := ⟨n.toNat, by omega⟩
      have HR := Lib.hid (enc_ref s m l2 (by omega))
      have HL1 : Hid (∀ w, Calls Tryd.prog 23 #[.int .i64 (s.length : Int), .int .i64 1] w fun e w' => e = .returned (.string ⟨(leB 1 s.length).toArray⟩) ∧ Below w.heap.size w w') := Lib.hid (fun w => little_walk s.length 1 w (by omega) (by omega))
      have HL2 : Hid (∀ w, Calls Tryd.prog 23 #[.int .i64 (m : Int), .int .i64 2] w fun e w' => e = .returned (.string ⟨(leB 2 m).toArray⟩) ∧ Below w.heap.size w w') := Lib.hid (fun w => little_walk m 2 w (by omega) (by omega))
      have HN1 : Hid (∀ w, Calls Tryd.prog 22 #[.int .i64 (24 - (s.length : Int))] w fun e w' => e = .returned (.string ⟨(noughts (24 - s.length)).toArray⟩) ∧ w' = w) := Lib.hid (fun w => by have := noughts_walk (24 - s.length) w (by omega); rwa [show ((24 - s.length : Nat) : Int) = 24 - (s.length : Int) by omega] at this)
      have HN2 : Hid (∀ w, Calls Tryd.prog 22 #[.int .i64 5] w fun e w' => e = .returned (.string ⟨(noughts 5).toArray⟩) ∧ w' = w) := Lib.hid (fun w => noughts_walk 5 w (by omega))
      have h1a : s.isEmpty = false := by cases s with | nil => simp at l1 | cons a s => rfl
      clear he hq h1 hne
      go_enter Tryd.func9, Tryd.ntmps9
      go_wp2_with fail
      refine (HSD.out _).mono ?_
      rintro e w1 ⟨rfl, hb1⟩
      have X1 := (Keep.of_below (S := fun _ => False) hb1).blk (HX.out ⟨s, (m : Int)⟩) id
      have cx := blk_cells X1
      have lx := blk_lt X1
      have HX1 := Lib.hid X1
      have HB1 := Lib.hid ((HB.out ⟨s, (m : Int)⟩).trans (hb1.mono (by simp)))
      clear hb1 X1
      dsimp only at cx
      have HSV := Lib.hid (fun w' (k : Below w1.heap.size w1 w') => (⟨(k.cell (p := ⟨w.heap.size, 0, none⟩) lx).trans ((cx 0).trans rfl), (k.cell (p := ⟨w.heap.size, 1, none⟩) lx).trans ((cx 1).trans rfl)⟩ : w'.cell? ⟨w.heap.size, 0, none⟩ = some (.string ⟨s.toArray⟩) ∧ w'.cell? ⟨w.heap.size, 1, none⟩ = some (.int .i64 (m : Int))))
      have K0 : Hid (Below w1.heap.size w1 w1.drew) := Lib.hid (Below.refl _ _).drew
      have b24 : (s.length : Int) ≤ 24 := by omega
      have z1 := leB_length 1 s.length
      have z2 := leB_length 2 m
      have z3 : (noughts (24 - s.length)).length ≤ 24 := by simp [noughts]
      have f6 : ¬ 9223372036854775807 < 1 + s.length := by omega
      have f12 : ¬ 9223372036854775807 < 1 + s.length + (noughts (24 - s.length)).length := by omega
      have f16 : ¬ 9223372036854775807 < 1 + s.length + (noughts (24 - s.length)).length + 2 := by omega
      have w9 : IntKind.i64.wrap (24 - (s.length : Int)) = 24 - (s.length : Int) := IntWalk.i64_in _ (by omega)
      clear b24
      go_upto_region 5 with fail
      go_region_held3 (fun w' => w'.cell? ⟨w.heap.size, 0, none⟩ = some (.string ⟨s.toArray⟩) ∧ w'.cell? ⟨w.heap.size, 1, none⟩ = some (.int .i64 (m : Int))) (first | exact HSV.out _ KB.out | exact HSV.out _ KA.out | exact HSV.out _ K0.out)
        (first
          | (go_at_call 23; ((with_reducible refine (HL1.out _).mono ?_); rintro e wA ⟨rfl, hA⟩); first | have KA := Lib.hid (bstep KB.out hA) | have KA := Lib.hid (bstep K0.out hA))
          | (go_at_call 23; ((with_reducible refine (HL2.out _).mono ?_); rintro e wB ⟨rfl, hB⟩); first | have KB := Lib.hid (bstep KA.out hB) | have KB := Lib.hid (bstep K0.out hB))
          | (go_at_call 22; ((with_reducible refine (HN1.out _).mono ?_); rintro e wC ⟨rfl, rfl⟩)))
      all_goals
        have BB := Lib.hid (bstep HB1.out (bstep KB.out (Below.refl _ _)))
        have z5 : (noughts 5).length = 5 := rfl
        have f5 : ¬ 9223372036854775807 < 1 + s.length + (noughts (24 - s.length)).length + 2 + 5 := by omega
        go_wp2_with fail
        refine (HN2.out _).mono ?_
        rintro e wD ⟨rfl, rfl⟩
        go_wp2
        go_ret2
        rw [HHE.out]
        exact ⟨BB.out, ret_se_ba (by rw [ba_append, ba_append, ba_append, ba_append, HR.out]; rfl) rfl⟩
end Go.Proofs.YtcganoomgdabkaaDoor
