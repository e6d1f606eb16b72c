/- Words and contracts that the proofs of this set use; each part says what it holds. -/
import Derived.BigQuiet
import Derived.Test.YtehfoopefefpnaaGreatSk5
import Derived.Test.YtehfoopefefpnaaGreatSk2
/- Package tree: Decode, Route, Blocks. -/
set_option linter.unusedSimpArgs false
set_option linter.unusedVariables false
namespace Go.Proofs.YtehfoopefefpnaaGreat
open Go.RowKit

attribute [local go_sem ↓] Go.wp_at_zero Go.wp_at_succ
theorem headN_at {l : List Nat} {i n : Nat} (hn : l[i]? = some n) (r : List UInt8) : (headN l ++ r)[2 * i]? = some (UInt8.ofNat n) ∧ (headN l ++ r)[2 * i + 1]? = some (UInt8.ofNat (n / 256)) := by
  induction l generalizing i with
  | nil => cases hn
  | cons a l ih =>
    have e : headN (a :: l) ++ r = UInt8.ofNat a :: UInt8.ofNat (a / 256) :: (headN l ++ r) := rfl
    rw [e]
    cases i with
    | zero =>
      obtain rfl : a = n := by simpa using hn
      exact ⟨rfl, rfl⟩
    | succ i =>
      have := ih (i := i) (by simpa using hn)
      exact this
theorem make8 (w : World) : (Instr.makeSlice 29 (.int .i64 8) (.int .i64 8)).run Tryz.prog w = .ok (.slice (some ⟨w.heap.size, 0, none⟩) 8 8) (w.alloc (.cells (nv (List.replicate 8 0)).toArray 3)) := by
  kernel_rfl
def dec8 (l : List Nat) (i : Nat) : List Nat := l.take i ++ List.replicate (8 - i) 0
theorem dec8_step {l : List Nat} {i n : Nat} (hn : l[i]? = some n) (hi : i < 8) : (dec8 l i).set i n = dec8 l (i + 1) := by
  have hil : i < l.length := (List.getElem?_eq_some_iff.1 hn).1
  have hl : (l.take i).length = i := by rw [List.length_take]; omega
  unfold dec8
  rw [List.take_add_one, hn, show 8 - i = (8 - (i + 1)) + 1 by omega, List.replicate_succ, List.set_append_right _ _ (by omega), hl, Nat.sub_self, List.set_cons_zero, List.append_assoc]
  rfl
theorem nv_set (l : List Nat) (i n : Nat) : (nv l).set i (.int .i64 (n : Int)) = nv (l.set i n) := by unfold nv; rw [List.map_set]
theorem dec8_len {l : List Nat} {i : Nat} (h : l.length = 8) (hi : i ≤ 8) : (dec8 l i).length = 8 := by unfold dec8; rw [List.length_append, List.length_take, List.length_replicate]; omega
def DeI (l : List Nat) (g : Nat) (w : World) (v : Value) (W : World) : Prop := ∃ i : Nat, i ≤ 8 ∧ v = .int .i64 (i : Int) ∧ W.heap[g]? = some (.cells (nv (dec8 l i)).toArray 3 (0, 0)) ∧ Keep (fun j => j = g) w W
/-- A row of numbers that is one's own, in a block that is new. -/
def NvP (N : Nat) (l : List Nat) (g : Nat) (w : World) : Prop := N ≤ g ∧ w.heap[g]? = some (.cells (nv l).toArray 3 (0, 0))
theorem NvP.sl {N : Nat} {l : List Nat} {g : Nat} {w : World} (h : NvP N l g w) : Sl w 1 (.slice (some ⟨g, 0, none⟩) l.length l.length) l.length (nv l) := by
  refine ⟨_, _, rfl, .inr ⟨_, rfl, fun j u hu => ?_⟩, (fun e => by cases e), Nat.le_refl _, by rw [nv_len, Nat.mul_one]⟩
  rw [Addr.add_lit, Nat.zero_add, blk_cells h.2, List.getElem?_toArray]
  exact hu
def DecP (l : List Nat) (w : World) (e : Ending) (w' : World) : Prop := ∃ g, e = .returned (.tuple #[.slice (some ⟨g, 0, none⟩) 8 8, .int .i64 0]) ∧ NvP w.heap.size l g w' ∧ Below w.heap.size w w'
set_option maxRecDepth 100000 in
set_option maxHeartbeats 4000000 in
theorem tdecode_walk (l : List Nat) (hp : P8 l) (A : Option Addr) (c : Nat) (w : World) (h : Sl w 1 (.slice A 128 c) 128 (bv (treeE l))) :
    Calls Tryz.prog 97 #[.slice A 128 c] w (DecP l w) := by
  have HP := Lib.hid hp
  have HS := Lib.hid h
  obtain ⟨Z, hZ⟩ : ∃ Z : Array Value, Z = (nv (List.replicate 8 0)).toArray := ⟨_, rfl⟩
  have hmk : ∀ W : World, (Instr.makeSlice 29 (.int .i64 8) (.int .i64 8)).run Tryz.prog W = .ok (.slice (some ⟨W.heap.size, 0, none⟩) 8 8) (W.alloc (.cells Z 3)) := fun W => by rw [hZ]; exact make8 W
  obtain ⟨w1, hw1⟩ : ∃ w1, w1 = w.alloc (.cells Z 3) := ⟨_, rfl⟩
  have hn1 := blk_new w (.cells Z 3)
  have hb1 : Below w.heap.size w w1 := by rw [hw1]; exact (Below.refl _ w).alloc (Nat.le_refl _) _
  rw [← hw1, hZ] at hn1
  obtain ⟨g, hg⟩ : ∃ g, g = w.heap.size := ⟨_, rfl⟩
  have HI : Hid (DeI l g w1 (.int .i64 0) w1) := Lib.hid ⟨0, Nat.zero_le _, rfl, by rw [hg]; exact hn1, Keep.refl _ _⟩
  have HG := Lib.hid hg
  have HW1 := Lib.hid hw1
  have HB1 := Lib.hid hb1
  clear hp h hZ hn1 hb1 hw1 hg
  go_enter Tryz.func97, Tryz.ntmps97
  go_upto_region 4 with fail
  rw [← HW1.out, ← HG.out]
  clear hmk
  go_wp2_with fail
  go_loopw [14] (fun v wr => DeI l g w1 v wr) (fun v _ => 8 - (intOf v).toNat)
  case atStart => exact HI.out
  case round =>
    obtain ⟨i, hi, rfl, hblk, hk⟩ := hrel
    have HK := Lib.hid hk
    by_cases hlt : i < 8
    · obtain ⟨n, hn⟩ : ∃ n, l[i]? = some n := ⟨l[i]'(by rw [HP.out.len]; exact hlt), List.getElem?_eq_getElem _⟩
      have hnb := HP.out.each n (List.mem_of_getElem? hn)
      have hn9 : n < 1024 := by have := of_decide_eq_true hnb; omega
      have hsl := (HS.out.below HB1.out).keep hk (fun j e hne => by
        have hlt' := HS.out.lt e hne
        have := HG.out
        show ¬ j = g
        omega)
      obtain ⟨t1, t2⟩ := headN_at hn (List.replicate 112 0)
      obtain ⟨b, o, rfl, _, hc1⟩ := bv_at hsl t1
      obtain ⟨b', o', e', _, hc2⟩ := bv_at hsl t2
      injection e' with e'
      injection e' with e1 e2 _
      subst e1 e2
      obtain ⟨y1, hy1⟩ : ∃ y : Nat, y = (UInt8.ofNat n).toNat := ⟨_, rfl⟩
      obtain ⟨y2, hy2⟩ : ∃ y : Nat, y = (UInt8.ofNat (n / 256)).toNat := ⟨_, rfl⟩
      rw [← hy1] at hc1
      rw [← hy2] at hc2
      rw [UInt8.toNat_ofNat'] at hy1 hy2
      have b1 : y1 < 256 := by omega
      have b2 : y2 < 256 := by omega
      have hny : n = y1 + y2 * 256 := by omega
      obtain ⟨q, hq⟩ : ∃ q : Nat, q = 2 * i := ⟨_, rfl⟩
      rw [← hq] at hc1 hc2
      have d1 : IntKind.i64.wrap (2 * (i : Int)) = (q : Int) := by rw [IntWalk.i64_in _ (by omega)]; omega
      have d2 : IntKind.i64.wrap ((q : Int) + 1) = (q : Int) + 1 := IntWalk.i64_in _ (by omega)
      have d3 : (0 : Int) ≤ (q : Int) := by omega
      have d4 : (q : Int) < 128 := by omega
      have d5 : (q : Int) + 1 < 128 := by omega
      have d6 : (0 : Int) ≤ (q : Int) + 1 := by omega
      have d7 : ((q : Int) + 1).toNat = q + 1 := by omega
      have k1 : IntKind.i64.wrap (y1 : Int) = (y1 : Int) := IntWalk.i64_in _ (by omega)
      have k2 : IntKind.i64.wrap (y2 : Int) = (y2 : Int) := IntWalk.i64_in _ (by omega)
      have k3 : IntKind.i64.wrap ((y2 : Int) * 256) = (y2 : Int) * 256 := IntWalk.i64_in _ (by omega)
      have k4 : bits .or .i64 (y1 : Int) ((y2 : Int) * 256) = (n : Int) := by rw [or_i64 y1 y2 b1 b2, ← hny]
      have g1 : (i : Int) < 8 := by omega
      have g0 : (0 : Int) ≤ (i : Int) := by omega
      have g2 : IntKind.i64.wrap ((i : Int) + 1) = (i : Int) + 1 := IntWalk.i64_in _ (by omega)
      have HST := Lib.hid (dec8_step hn hlt)
      have hl := dec8_len (i := i) HP.out.len hi
      obtain ⟨u1, c1⟩ : ∃ v, wr.cell? ⟨g, i, none⟩ = some v := ⟨_, (blk_cells hblk i).trans (Array.getElem?_eq_getElem (by simp [nv_len, hl]; omega))⟩
      have f1 := blk_frees hblk i
      have HBLK := Lib.hid hblk
      have HR : Hid (DeI l g w1 (.int .i64 ((i : Int) + 1)) (wr.drew.setCell ⟨g, i, none⟩ (.int .i64 (n : Int)))) := Lib.hid ⟨i + 1, hlt, by rw [Int.natCast_add]; rfl, by
        rw [blk_set (show wr.drew.heap[g]? = _ from hblk) (.int .i64 (n : Int)) (j := i), ← HST.out, ← nv_set]
        simp, HK.out.drew.trans (keep_set _ g i _) (fun _ _ h => h)⟩
      have hb' : b ≠ g := by
        have := HS.out.lt (k := b) (by rfl) (by
          intro e0
          rw [bv_eq_nil] at e0
          have := treeE_len HP.out
          rw [e0] at this
          cases this)
        have := HG.out
        omega
      clear hn hnb hsl t1 t2 hy1 hy2 hny hq hl hblk hk
      go_wp2_with fail
      go_big_region
      all_goals
        go_wp2_with fail
        go_roundw
        case rel => exact HR.out
        case measure => simp only [intOf]; omega
    · obtain rfl : i = 8 := by omega
      have g1 : ¬ (8 : Int) < 8 := by omega
      have he : dec8 l 8 = l := by
        unfold dec8
        rw [List.take_of_length_le (by rw [HP.out.len]; exact Nat.le_refl _)]
        exact List.append_nil _
      rw [he] at hblk
      have hnp : NvP w.heap.size l g wr := ⟨by rw [HG.out]; exact Nat.le_refl _, hblk⟩
      have hsl := hnp.sl
      rw [HP.out.len] at hsl
      have HB : Hid (Below w.heap.size w wr) := Lib.hid (HB1.out.trans (hk.below (fun j (hj : j = g) => by have := HG.out; omega) HB1.out.size))
      have HEN := Lib.hid (tencode_walk l HP.out _ _ wr hsl)
      have HNP := Lib.hid hnp
      clear hblk hk he hsl hnp
      go_wp2_with fail
      refine HEN.out.mono ?_
      rintro r w5 ⟨A5, rfl, hn5, hb5⟩
      have heq := equal_walk (treeE l) (treeE l) A5 A 128 c w5 (by rw [treeE_len HP.out]; have := hn5.sl; rw [treeE_len HP.out] at this; exact this) (by rw [treeE_len HP.out]; exact HS.out.below (bstep HB.out hb5))
      rw [treeE_len HP.out, beq_self_eq_true] at heq
      have HE := Lib.hid heq
      have HB5 := Lib.hid (bstep HB.out hb5)
      have HNP5 : Hid (NvP w.heap.size l g w5) := Lib.hid ⟨HNP.out.1, (Keep.of_below (S := fun _ => False) hb5).blk HNP.out.2 id⟩
      clear hn5 hb5 heq
      go_wp2_with fail
      refine HE.out.mono ?_
      rintro r w6 ⟨rfl, hw6⟩
      subst hw6
      go_wp2
      go_ret2
      exact ⟨g, rfl, HNP5.out, HB5.out⟩
/-! ### Route, Blocks -/
def wayL (b : Nat) : List Nat := if b < 4 then [b] else if b < 12 then [4, b - 4] else [5, (b - 12) / 8, (b - 12) % 8]
def RouP (b : Nat) (w : World) (e : Ending) (w' : World) : Prop := ∃ g, e = .returned (.tuple #[.slice (some ⟨g, 0, none⟩) (wayL b).length (wayL b).length, .int .i64 0]) ∧ NvP w.heap.size (wayL b) g w' ∧ Below w.heap.size w w'
theorem route_walk (b : Nat) (hb : b < 76) (w : World) : Calls Tryz.prog 62 #[.int .i64 (b : Int)] w (RouP b w) := by
  have g0 : ¬ (b : Int) < 0 := by omega
  have g1 : ¬ (76 : Int) ≤ (b : Int) := by omega
  have w1 : IntKind.i64.wrap ((b : Int) - 4) = (b : Int) - 4 := IntWalk.i64_in _ (by omega)
  have w2 : IntKind.i64.wrap ((b : Int) - 4 - 8) = (b : Int) - 4 - 8 := IntWalk.i64_in _ (by omega)
  by_cases h1 : b < 4
  · have k1 : (b : Int) < 4 := by omega
    have hw : wayL b = [b] := if_pos h1
    have HN : Hid (NvP w.heap.size (wayL b) w.heap.size (w.alloc (.cells #[.int .i64 (b : Int)] 3))) := Lib.hid ⟨Nat.le_refl _, by rw [hw]; exact blk_new w _⟩
    have HL : Hid ((wayL b).length = 1) := Lib.hid (by rw [hw]; rfl)
    clear hb h1 hw
    go_enter Tryz.func62, Tryz.ntmps62
    go_wp2
    go_ret2
    exact ⟨w.heap.size, by rw [HL.out]; rfl, HN.out, (Below.refl _ w).alloc (Nat.le_refl _) _⟩
  · have k1 : ¬ (b : Int) < 4 := by omega
    by_cases h2 : b < 12
    · obtain ⟨q, hq⟩ : ∃ q : Nat, q = b - 4 := ⟨_, rfl⟩
      have e1 : (b : Int) - 4 = (q : Int) := by omega
      rw [e1] at w1 w2
      have w3 : IntKind.i64.wrap ((q : Int) - 8) = (q : Int) - 8 := w2
      have k2 : (q : Int) - 8 < 0 := by omega
      have hw : wayL b = [4, q] := by unfold wayL; rw [if_neg h1, if_pos h2, hq]
      have HN : Hid (NvP w.heap.size (wayL b) w.heap.size (w.alloc (.cells #[.int .i64 4, .int .i64 (q : Int)] 3))) := Lib.hid ⟨Nat.le_refl _, by rw [hw]; exact blk_new w _⟩
      have HL : Hid ((wayL b).length = 2) := Lib.hid (by rw [hw]; rfl)
      have w1' : IntKind.i64.wrap ((b : Int) - 4) = (q : Int) := by rw [e1]; exact w1
      clear hb h1 h2 hw hq e1 w1 w2
      go_enter Tryz.func62, Tryz.ntmps62
      go_wp2
      go_ret2
      exact ⟨w.heap.size, by rw [HL.out]; rfl, HN.out, (Below.refl _ w).alloc (Nat.le_refl _) _⟩
    · obtain ⟨q, hq⟩ : ∃ q : Nat, q = b - 4 := ⟨_, rfl⟩
      obtain ⟨r, hr⟩ : ∃ r : Nat, r = b - 12 := ⟨_, rfl⟩
      obtain ⟨d, hd⟩ : ∃ d : Nat, d = r / 8 := ⟨_, rfl⟩
      obtain ⟨z, hz⟩ : ∃ z : Nat, z = r % 8 := ⟨_, rfl⟩
      have w1' : IntKind.i64.wrap ((b : Int) - 4) = (q : Int) := by rw [w1]; omega
      have w2' : IntKind.i64.wrap ((q : Int) - 8) = (r : Int) := by rw [IntWalk.i64_in _ (by omega)]; omega
      have k2 : ¬ (r : Int) < 0 := by omega
      have e3 : (r : Int) / 8 = (d : Int) := by omega
      have e5 : IntKind.i64.wrap (d : Int) = (d : Int) := IntWalk.i64_in _ (by omega)
      have e4 : (r : Int) % 8 = (z : Int) := by omega
      have hw : wayL b = [5, d, z] := by unfold wayL; rw [if_neg h1, if_neg h2, hd, hz, hr]
      have HN : Hid (NvP w.heap.size (wayL b) w.heap.size (w.alloc (.cells #[.int .i64 5, .int .i64 (d : Int), .int .i64 (z : Int)] 3))) := Lib.hid ⟨Nat.le_refl _, by rw [hw]; exact blk_new w _⟩
      have HL : Hid ((wayL b).length = 3) := Lib.hid (by rw [hw]; rfl)
      clear hb h1 h2 hw hq hr hd hz w1 w2
      go_enter Tryz.func62, Tryz.ntmps62
      go_wp2
      go_ret2
      exact ⟨w.heap.size, by rw [HL.out]; rfl, HN.out, (Below.refl _ w).alloc (Nat.le_refl _) _⟩
def blocksN (n : Nat) : Nat := (n + 127) / 128
theorem blocks_walk (n : Nat) (hn : n ≤ 1000000) (w : World) : Calls Tryz.prog 39 #[.int .i64 (n : Int)] w fun e w' => e = .returned (.int .i64 (blocksN n : Int)) ∧ w' = w := by
  by_cases h0 : n < 1
  · have k0 : (n : Int) < 1 := by omega
    have e : blocksN n = 0 := by unfold blocksN; omega
    rw [e]
    clear h0 e
    go_enter Tryz.func39, Tryz.ntmps39
    go_wp2
    go_ret
    exact ⟨rfl, rfl⟩
  · have k0 : ¬ (n : Int) < 1 := by omega
    obtain ⟨m, hm⟩ : ∃ m : Nat, m = n - 1 := ⟨_, rfl⟩
    obtain ⟨q, hq⟩ : ∃ q : Nat, q = m / 128 := ⟨_, rfl⟩
    have e1 : IntKind.i64.wrap ((n : Int) - 1) = (m : Int) := by rw [IntWalk.i64_in _ (by omega)]; omega
    have e2 : (m : Int) / 128 = (q : Int) := by omega
    have e3 : IntKind.i64.wrap ((q : Int) + 1) = (q : Int) + 1 := IntWalk.i64_in _ (by omega)
    have e5 : IntKind.i64.wrap (q : Int) = (q : Int) := IntWalk.i64_in _ (by omega)
    have HE : Hid ((q : Int) + 1 = (blocksN n : Int)) := Lib.hid (by unfold blocksN; omega)
    clear hn h0 hm hq
    go_enter Tryz.func39, Tryz.ntmps39
    go_wp2
    go_ret
    exact ⟨by rw [← HE.out]; rfl, rfl⟩
end Go.Proofs.YtehfoopefefpnaaGreat
/- Package tree: Parts. -/
set_option linter.unusedSimpArgs false
set_option linter.unusedVariables false
namespace Go.Proofs.YtehfoopefefpnaaGreat
open Go.RowKit

attribute [local go_sem ↓] Go.wp_at_zero Go.wp_at_succ
structure PtS where
  b : Nat
  f : Nat
  t : Nat
def PtS.cells (p : PtS) : List Value := [.int .i64 (p.b : Int), .int .i64 (p.f : Int), .int .i64 (p.t : Int)]
def partsF : Nat → Nat → Nat → List PtS
  | 0, _, _ => []
  | f + 1, a, s => if s = 0 then [] else ⟨a / 128, a % 128, a % 128 + min s (128 - a % 128)⟩ :: partsF f (a + min s (128 - a % 128)) (s - min s (128 - a % 128))
def partsL (a s : Nat) : List PtS := partsF s a s
theorem partsF_zero (f a : Nat) : partsF f a 0 = [] := by cases f with
  | zero => rfl
  | succ f => rfl
theorem partsF_len (f a s : Nat) : (partsF f a s).length ≤ f := by
  induction f generalizing a s with
  | zero => exact Nat.le_refl _
  | succ f ih =>
    unfold partsF
    split
    · exact Nat.zero_le _
    · rw [List.length_cons]
      have := ih (a + min s (128 - a % 128)) (s - min s (128 - a % 128))
      omega
theorem partsF_nil {f a s : Nat} (hf : s ≤ f) (h : partsF f a s = []) : s = 0 := by
  cases f with
  | zero => omega
  | succ f =>
    unfold partsF at h
    split at h
    · assumption
    · cases h
/-- Each part lies in one block. -/
theorem partsF_mem {f a s : Nat} {p : PtS} (h : p ∈ partsF f a s) : p.f < p.t ∧ p.t ≤ 128 ∧ a ≤ p.b * 128 + p.f ∧ p.b * 128 + p.t ≤ a + s := by
  induction f generalizing a s with
  | zero => cases h
  | succ f ih =>
    unfold partsF at h
    split at h
    · cases h
    · rcases List.mem_cons.1 h with e | h
      · rw [e]
        show a % 128 < a % 128 + min s (128 - a % 128) ∧ a % 128 + min s (128 - a % 128) ≤ 128 ∧ a ≤ a / 128 * 128 + a % 128 ∧ a / 128 * 128 + (a % 128 + min s (128 - a % 128)) ≤ a + s
        omega
      · obtain ⟨h1, h2, h3, h4⟩ := ih h
        exact ⟨h1, h2, by omega, by omega⟩
theorem eltPt : Elt Tryz.prog 72 76 3 24 := Elt.mk' (z := .agg #[.int .i64 0, .int .i64 0, .int .i64 0]) (by kernel_rfl) (by kernel_rfl) (by kernel_rfl) (by intro u hu; simp [Value.cells] at hu; rcases hu with rfl | rfl | rfl <;> rfl) (by decide)
theorem clipPt_walk (A : Option Addr) (n c : Nat) (w : World) (h : n ≤ c) (hA : A = none → n = 0 ∧ c = 0) (hn : n ≤ 1000000000) : Calls Tryz.prog 61 #[.slice A n c] w fun e w' => e = .returned (.slice A n n) ∧ w' = w := by
  cases A with
  | none =>
    obtain ⟨h1, rfl⟩ := hA rfl
    rw [h1]
    clear h hA hn
    go_enter Tryz.func61, Tryz.ntmps61
    go_wp2
    go_ret
    exact ⟨rfl, rfl⟩
  | some ad =>
    have i0 : (0 : Int) ≤ (n : Int) := by omega
    have i1 : (n : Int) ≤ (c : Int) := by omega
    have hr : ∀ w, (Instr.slice 72 (.slice (some ad) n c) none (some (.int .i64 (n : Int))) (some (.int .i64 (n : Int)))).run Tryz.prog w = .ok (.slice (some ad) n n) w := by
      intro w
      simp [go_sem, i0, i1]
    go_enter Tryz.func61, Tryz.ntmps61
    go_wp2
    go_ret
    exact ⟨rfl, rfl⟩
def PaI (a0 s0 : Nat) (w : World) (v0 v1 v6 : Value) (W : World) : Prop := ∃ (a s f : Nat) (done : List PtS) (A : Option Addr) (c : Nat), v0 = .int .i64 (a : Int) ∧ v1 = .int .i64 (s : Int) ∧ a + s = a0 + s0 ∧ s ≤ f ∧ f + done.length ≤ s0 ∧ done ++ partsF f a s = partsL a0 s0 ∧ v6 = .slice A done.length c ∧ NR w.heap.size 76 3 W (.slice A done.length c) done.length (done.flatMap PtS.cells) ∧ Below w.heap.size w W
/-- The parts, in memory. -/
def PaP (a s : Nat) (w : World) (e : Ending) (w' : World) : Prop := ∃ A, e = .returned (.tuple #[.slice A (partsL a s).length (partsL a s).length, .int .i64 0]) ∧ Sl w' 3 (.slice A (partsL a s).length (partsL a s).length) (partsL a s).length ((partsL a s).flatMap PtS.cells) ∧ (∀ j, A.map (·.block) = some j → w.heap.size ≤ j) ∧ Below w.heap.size w w'
set_option maxRecDepth 100000 in
set_option maxHeartbeats 4000000 in
theorem parts_walk (a s : Nat) (ha : a ≤ 9728) (hs : a + s ≤ 9728) (w : World) : Calls Tryz.prog 28 #[.int .i64 (a : Int), .int .i64 (s : Int)] w (PaP a s w) := by
  have g0 : ¬ (a : Int) < 0 := by omega
  have g1 : ¬ (s : Int) < 0 := by omega
  have g2 : ¬ (9728 : Int) < (a : Int) := by omega
  have w1 : IntKind.i64.wrap (9728 - (a : Int)) = 9728 - (a : Int) := IntWalk.i64_in _ (by omega)
  have g3 : ¬ (9728 - (a : Int)) < (s : Int) := by omega
  have HSS := Lib.hid (show a + s ≤ 9728 from hs)
  have hI : PaI a s w (.int .i64 (a : Int)) (.int .i64 (s : Int)) (.slice none 0 0) w := ⟨a, s, s, [], none, 0, rfl, rfl, rfl, Nat.le_refl _, Nat.le_refl _, rfl, rfl, NR.nil _ _ _ _, Below.refl _ _⟩
  have HI := Lib.hid hI
  by_cases hz : s = 0
  all_goals
    first
      | (have g4 : ¬ (0 : Int) < (s : Int) := by omega)
      | (have g4 : (0 : Int) < (s : Int) := by omega)
    clear hI ha hs hz
    go_enter Tryz.func28, Tryz.ntmps28
    go_wp2_with fail
    go_loopw [0, 1, 6] (fun v0 v1 v6 wr => PaI a s w v0 v1 v6 wr) (fun _ v1 _ _ => (intOf v1).toNat)
    case atStart => exact HI.out
    case round =>
      obtain ⟨a', s', f, done, A6, c6, rfl, rfl, has, hsf, hfd, hdn, rfl, hnr, hbw⟩ := hrel
      have hss := HSS.out
      clear g4
      by_cases h0 : s' = 0
      · have k0 : ¬ (0 : Int) < (s' : Int) := by omega
        have hfin : done = partsL a s := by
          rw [h0, partsF_zero, List.append_nil] at hdn
          exact hdn
        obtain ⟨A7, c7, hA7, hr7, hz7, hc7, _⟩ := Rd.of_own hnr.own
        injection hA7 with e1 _ e3
        subst e1 e3
        have HCL := Lib.hid (clipPt_walk A6 done.length c6 wr hc7 hz7 (by omega))
        have hsl := Sl.of_own hnr.own
        have HSL : Hid (Sl wr 3 (.slice A6 done.length done.length) done.length (done.flatMap PtS.cells)) := Lib.hid (by
          obtain ⟨A8, c8, e8, hr8, hz8, _, hx8⟩ := hsl
          injection e8 with e8 _ _
          subst e8
          exact ⟨A6, done.length, rfl, hr8, fun e => ⟨(hz8 e).1, (hz8 e).1⟩, Nat.le_refl _, hx8⟩)
        have HFR : Hid (∀ j, A6.map (·.block) = some j → w.heap.size ≤ j) := Lib.hid (fun j e => hnr.fresh j (by rw [ownBlock_slice]; exact e))
        have HFI := Lib.hid hfin
        have HBW := Lib.hid hbw
        obtain ⟨m, hm⟩ : ∃ m, m = done.length := ⟨_, rfl⟩
        rw [← hm] at HCL HSL ⊢
        have HM := Lib.hid hm
        clear hfin hr7 hz7 hc7 hsl hnr hbw hdn hsf hfd has hm
        go_wp2_with fail
        refine HCL.out.mono ?_
        rintro r W ⟨rfl, hW⟩
        subst hW
        go_wp2
        go_ret2
        refine ⟨A6, ?_, ?_, HFR.out, HBW.out⟩
        · rw [← HFI.out, ← HM.out]; rfl
        · rw [← HFI.out, ← HM.out]; exact HSL.out
      · have k0 : (0 : Int) < (s' : Int) := by omega
        obtain ⟨f', rfl⟩ : ∃ f', f = f' + 1 := ⟨f - 1, by omega⟩
        obtain ⟨fr, hfr⟩ : ∃ z : Nat, z = a' % 128 := ⟨_, rfl⟩
        obtain ⟨n, hn⟩ : ∃ z : Nat, z = min s' (128 - fr) := ⟨_, rfl⟩
        obtain ⟨bq, hbq⟩ : ∃ z : Nat, z = a' / 128 := ⟨_, rfl⟩
        obtain ⟨tq, htq⟩ : ∃ z : Nat, z = fr + n := ⟨_, rfl⟩
        have e1 : (a' : Int) % 128 = (fr : Int) := by omega
        have e2 : IntKind.i64.wrap (128 - (fr : Int)) = 128 - (fr : Int) := IntWalk.i64_in _ (by omega)
        have e3 : min (s' : Int) (128 - (fr : Int)) = (n : Int) := by omega
        have e4 : (a' : Int) / 128 = (bq : Int) := by omega
        have e5 : IntKind.i64.wrap (bq : Int) = (bq : Int) := IntWalk.i64_in _ (by omega)
        have e6 : IntKind.i64.wrap ((fr : Int) + (n : Int)) = (tq : Int) := by rw [IntWalk.i64_in _ (by omega)]; omega
        obtain ⟨a2, ha2⟩ : ∃ z : Nat, z = a' + n := ⟨_, rfl⟩
        obtain ⟨s2, hs2⟩ : ∃ z : Nat, z = s' - n := ⟨_, rfl⟩
        have e7 : IntKind.i64.wrap ((a' : Int) + (n : Int)) = (a2 : Int) := by rw [IntWalk.i64_in _ (by omega)]; omega
        have e8 : IntKind.i64.wrap ((s' : Int) - (n : Int)) = (s2 : Int) := by rw [IntWalk.i64_in _ (by omega)]; omega
        have hst : partsF (f' + 1) a' s' = ⟨bq, fr, tq⟩ :: partsF f' a2 s2 := by
          rw [partsF, if_neg h0, htq, ha2, hs2, hn, hfr, hbq]
        rw [hst] at hdn
        have HN6 := Lib.hid (hnr.below ((Below.refl _ wr).alloc (Nat.le_refl _) (.cells #[.int .i64 (bq : Int), .int .i64 (fr : Int), .int .i64 (tq : Int)] 76)))
        have hle : done.length ≤ 9728 := by omega
        have HEND : Hid (∀ (v5 : Value) (W : World), W.ownsRow 0 76 3 v5 (done.length + 1) (done.flatMap PtS.cells ++ [.int .i64 (bq : Int), .int .i64 (fr : Int), .int .i64 (tq : Int)]) → Keep (fun k => (Value.slice A6 done.length c6).ownBlock = some k) (wr.alloc (.cells #[.int .i64 (bq : Int), .int .i64 (fr : Int), .int .i64 (tq : Int)] 76)) W → (v5.ownBlock = (Value.slice A6 done.length c6).ownBlock ∨ v5.ownBlock = some (wr.alloc (.cells #[.int .i64 (bq : Int), .int .i64 (fr : Int), .int .i64 (tq : Int)] 76)).heap.size) → PaI a s w (.int .i64 (a2 : Int)) (.int .i64 (s2 : Int)) v5 W) := Lib.hid (fun v5 W g4 g5 g6 => by
          obtain ⟨A5, c5, rfl, _⟩ := Rd.of_own g4
          have hG := HN6.out.grown rfl (hbw.alloc hbw.size _) g4 g5 g6
          have hl : (done ++ [(⟨bq, fr, tq⟩ : PtS)]).length = done.length + 1 := by rw [List.length_append]; rfl
          refine ⟨a2, s2, f', done ++ [(⟨bq, fr, tq⟩ : PtS)], A5, c5, rfl, rfl, by omega, by omega, by rw [hl]; omega, by rw [List.append_assoc]; exact hdn, by rw [hl], ?_, hG.2⟩
          rw [hl, List.flatMap_append]
          have : ([(⟨bq, fr, tq⟩ : PtS)] : List PtS).flatMap PtS.cells = [.int .i64 (bq : Int), .int .i64 (fr : Int), .int .i64 (tq : Int)] := by simp [PtS.cells]
          rw [this]
          exact hG.1)
        have hms : s2 < s' := by omega
        clear has hsf hfd hdn hnr hbw hfr hn hbq htq ha2 hs2 hst h0
        go_wp2_with (at_builtin; go_must (refine wpList_app rfl eltPt rfl rfl rfl (n := done.length) (m := 1) HN6.out.own (Sl.of_own (own_new wr #[.int .i64 (bq : Int), .int .i64 (fr : Int), .int .i64 (tq : Int)] 76 3 1 rfl (by decide))) (by simp [Value.oneCell']) (by omega) (by simp only [maxLen]; omega) ?_))
        intro v5 w5 g4 g5 g6 g7
        clear g7
        have HR := Lib.hid (HEND.out v5 w5 g4 g5 (g6.imp id (fun h => h.trans (by rw [World.size_alloc]))))
        clear g4 g5 g6
        go_wp2_with fail
        go_roundw
        case rel => exact HR.out
        case measure => simp only [intOf]; omega
end Go.Proofs.YtehfoopefefpnaaGreat
/- Package space: a file's node in memory; open, top, pointers, point. -/
set_option linter.unusedSimpArgs false
set_option linter.unusedVariables false
namespace Go.Proofs.YtehfoopefefpnaaGreat
open Go.RowKit

attribute [local go_sem ↓] Go.wp_at_zero Go.wp_at_succ
def filC (k n : Nat) (x : NoS) : Array Value := #[.pointer (some ⟨k, 0, none⟩), .int .i64 (n : Int), .int .i64 (x.kind : Int), .int .i64 (x.links : Int), .int .i64 (x.gen : Int), .int .i64 (x.size : Int), .int .i64 (x.change : Int), .int .i64 (x.p0 : Int), .int .i64 (x.p1 : Int), .int .i64 (x.p2 : Int), .int .i64 (x.p3 : Int), .int .i64 (x.one : Int), .int .i64 (x.two : Int)]
/-- A file that was opened. -/
def FI (k kf n : Nat) (x : NoS) (w : World) : Prop := w.heap[kf]? = some (.cells (filC k n x) 71 (0, 0))
theorem FI.keep {S : Nat → Prop} {k kf n : Nat} {x : NoS} {w w' : World} (h : FI k kf n x w) (hk : Keep S w w') (hS : ¬ S kf) : FI k kf n x w' := hk.blk h hS
theorem FI.below {k kf n : Nat} {x : NoS} {w w' : World} (h : FI k kf n x w) (hb : Below w.heap.size w w') : FI k kf n x w' := h.keep (S := fun _ => False) (Keep.of_below hb) id
theorem filC_ptr (k n : Nat) (x : NoS) {i : Nat} (h : i < 6) : (filC k n x)[7 + i]? = some (.int .i64 (x.ptr i : Int)) := by
  rcases (by omega : i = 0 ∨ i = 1 ∨ i = 2 ∨ i = 3 ∨ i = 4 ∨ i = 5) with rfl | rfl | rfl | rfl | rfl | rfl <;> rfl
theorem filC_set (k n : Nat) (x : NoS) {i : Nat} (h : i < 6) (v : Nat) : (filC k n x).setIfInBounds (7 + i) (.int .i64 (v : Int)) = filC k n (x.setPtr i v) := by
  rcases (by omega : i = 0 ∨ i = 1 ∨ i = 2 ∨ i = 3 ∨ i = 4 ∨ i = 5) with rfl | rfl | rfl | rfl | rfl | rfl <;> rfl
def OpP (k n : Nat) (x : NoS) (w : World) (e : Ending) (w' : World) : Prop := ∃ kf, e = .returned (.tuple #[.pointer (some ⟨kf, 0, none⟩), .int .i64 0]) ∧ FI k kf n x w' ∧ w.heap.size ≤ kf ∧ Below w.heap.size w w'
set_option maxRecDepth 100000 in
set_option maxHeartbeats 2000000 in
theorem open_walk {B : Nat} {c : SWc} {V : Nat → List UInt8} {m : Nat → Bool} {xs : Nat → NoS} {U : List Nat} {w : World} (h : SW B c V m xs U w) {n : Nat} (hn : n < 32) (hk : (xs n).kind ≠ 0) :
    Calls Tryz.prog 27 #[.pointer (some ⟨c.p.k, 0, none⟩), .int .i64 (n : Int)] w (OpP c.p.k n (xs n) w) := by
  have HN0 := wnode h hn
  obtain ⟨x, hx⟩ : ∃ x, x = xs n := ⟨_, rfl⟩
  rw [← hx] at HN0 hk ⊢
  have HN : Hid (Calls Tryz.prog 42 #[.pointer (some ⟨c.p.k, 0, none⟩), .int .i64 (n : Int)] w fun e w' => e = .returned (.tuple #[.agg #[.int .i64 (x.kind : Int), .int .i64 (x.links : Int), .int .i64 (x.gen : Int), .int .i64 (x.size : Int), .int .i64 (x.change : Int), .int .i64 (x.p0 : Int), .int .i64 (x.p1 : Int), .int .i64 (x.p2 : Int), .int .i64 (x.p3 : Int), .int .i64 (x.one : Int), .int .i64 (x.two : Int)], .int .i64 0]) ∧ Below w.heap.size w w') := Lib.hid HN0
  have kb0 : ((x.kind : Int) == 0) = false := beq_eq_false_iff_ne.2 (by omega)
  have kc : ¬ (x.kind : Int) = 0 := by omega
  clear h hx HN0 hk
  go_enter Tryz.func27, Tryz.ntmps27
  go_wp2_with fail
  refine HN.out.mono ?_
  rintro r w1 ⟨rfl, hb1⟩
  obtain ⟨w2, hw2⟩ : ∃ w2, w2 = w1.alloc (.cells #[.int .i64 (x.kind : Int), .int .i64 (x.links : Int), .int .i64 (x.gen : Int), .int .i64 (x.size : Int), .int .i64 (x.change : Int), .int .i64 (x.p0 : Int), .int .i64 (x.p1 : Int), .int .i64 (x.p2 : Int), .int .i64 (x.p3 : Int), .int .i64 (x.one : Int), .int .i64 (x.two : Int)] 69) := ⟨_, rfl⟩
  have hn2 := blk_new w1 (.cells #[.int .i64 (x.kind : Int), .int .i64 (x.links : Int), .int .i64 (x.gen : Int), .int .i64 (x.size : Int), .int .i64 (x.change : Int), .int .i64 (x.p0 : Int), .int .i64 (x.p1 : Int), .int .i64 (x.p2 : Int), .int .i64 (x.p3 : Int), .int .i64 (x.one : Int), .int .i64 (x.two : Int)] 69)
  have hb2 : Below w.heap.size w w2 := by rw [hw2]; exact hb1.alloc hb1.size _
  rw [← hw2] at hn2
  have c2 := blk_cells hn2
  have HB2 := Lib.hid hb2
  have HW2 := Lib.hid hw2
  have HFI : Hid (FI c.p.k w2.heap.size n x (w2.alloc (.cells (filC c.p.k n x) 71))) := Lib.hid (blk_new w2 _)
  clear hb1 hn2 hb2 hw2
  go_upto_region 2 with fail
  rw [← HW2.out]
  go_wp2
  go_ret2
  exact ⟨_, rfl, HFI.out, HB2.out.size, HB2.out.alloc HB2.out.size _⟩
set_option maxRecDepth 100000 in
set_option maxHeartbeats 2000000 in
theorem open_free {B : Nat} {c : SWc} {V : Nat → List UInt8} {m : Nat → Bool} {xs : Nat → NoS} {U : List Nat} {w : World} (h : SW B c V m xs U w) {n : Nat} (hn : n < 32) (hk : (xs n).kind = 0) :
    Calls Tryz.prog 27 #[.pointer (some ⟨c.p.k, 0, none⟩), .int .i64 (n : Int)] w fun e w' => e = .returned (.tuple #[.pointer none, .int .i64 7]) ∧ Below w.heap.size w w' := by
  have HN0 := wnode h hn
  obtain ⟨x, hx⟩ : ∃ x, x = xs n := ⟨_, rfl⟩
  rw [← hx] at HN0 hk
  have HN : Hid (Calls Tryz.prog 42 #[.pointer (some ⟨c.p.k, 0, none⟩), .int .i64 (n : Int)] w fun e w' => e = .returned (.tuple #[.agg #[.int .i64 0, .int .i64 (x.links : Int), .int .i64 (x.gen : Int), .int .i64 (x.size : Int), .int .i64 (x.change : Int), .int .i64 (x.p0 : Int), .int .i64 (x.p1 : Int), .int .i64 (x.p2 : Int), .int .i64 (x.p3 : Int), .int .i64 (x.one : Int), .int .i64 (x.two : Int)], .int .i64 0]) ∧ Below w.heap.size w w') := Lib.hid (by
    unfold NoS.val NoS.cells at HN0
    rw [hk] at HN0
    exact HN0)
  clear h hx HN0 hk
  go_enter Tryz.func27, Tryz.ntmps27
  go_wp2_with fail
  refine HN.out.mono ?_
  rintro r w1 ⟨rfl, hb1⟩
  obtain ⟨w2, hw2⟩ : ∃ w2, w2 = w1.alloc (.cells #[.int .i64 0, .int .i64 (x.links : Int), .int .i64 (x.gen : Int), .int .i64 (x.size : Int), .int .i64 (x.change : Int), .int .i64 (x.p0 : Int), .int .i64 (x.p1 : Int), .int .i64 (x.p2 : Int), .int .i64 (x.p3 : Int), .int .i64 (x.one : Int), .int .i64 (x.two : Int)] 69) := ⟨_, rfl⟩
  have hn2 := blk_new w1 (.cells #[.int .i64 0, .int .i64 (x.links : Int), .int .i64 (x.gen : Int), .int .i64 (x.size : Int), .int .i64 (x.change : Int), .int .i64 (x.p0 : Int), .int .i64 (x.p1 : Int), .int .i64 (x.p2 : Int), .int .i64 (x.p3 : Int), .int .i64 (x.one : Int), .int .i64 (x.two : Int)] 69)
  have hb2 : Below w.heap.size w w2 := by rw [hw2]; exact hb1.alloc hb1.size _
  rw [← hw2] at hn2
  have c2 := (blk_cells hn2 0).trans (show _ = some (.int .i64 0) from rfl)
  have HB2 := Lib.hid hb2
  have HW2 := Lib.hid hw2
  clear hb1 hn2 hb2 hw2
  go_upto_region 2 with fail
  rw [← HW2.out]
  go_wp2
  go_ret2
  exact ⟨rfl, HB2.out⟩
theorem top_walk {k kf n : Nat} {x : NoS} {w : World} (i : Nat) (hi : i < 6) : Calls Tryz.prog 63 #[.pointer (some ⟨kf, 0, none⟩), .int .i64 (i : Int)] w fun e w' => e = .returned (.pointer (some ⟨kf, 7 + i, none⟩)) ∧ w' = w := by
  rcases (by omega : i < 4 ∨ i = 4 ∨ i = 5) with h | rfl | rfl
  · have g0 : (0 : Int) ≤ (i : Int) := by omega
    have g1 : (i : Int) < 4 := by omega
    have k4 : ((i : Int) == 4) = false := beq_eq_false_iff_ne.2 (by omega)
    have k5 : ((i : Int) == 5) = false := beq_eq_false_iff_ne.2 (by omega)
    have k4' : ¬ (i : Int) = 4 := by omega
    have k5' : ¬ (i : Int) = 5 := by omega
    clear hi h
    go_enter Tryz.func63, Tryz.ntmps63
    go_wp2
    go_ret
    exact ⟨rfl, rfl⟩
  · go_enter Tryz.func63, Tryz.ntmps63
    go_wp2
    go_ret
    exact ⟨rfl, rfl⟩
  · go_enter Tryz.func63, Tryz.ntmps63
    go_wp2
    go_ret
    exact ⟨rfl, rfl⟩
set_option maxHeartbeats 1000000 in
theorem pointers_file {B : Nat} {c : SWc} {V : Nat → List UInt8} {m : Nat → Bool} {xs : Nat → NoS} {U : List Nat} {w : World} (h : SW B c V m xs U w) {kf n : Nat} {x : NoS} (hf : FI c.p.k kf n x w) {t : Nat} (h1 : 43 ≤ t) (h2 : t < c.N) {l : List Nat} (hl : P8 l) (hv : V t = treeE l) :
    Calls Tryz.prog 64 #[.pointer (some ⟨kf, 0, none⟩), .int .i64 (t : Int)] w (DecP l w) := by
  have hg := wget h h1 h2
  rw [hv] at hg
  have HG := Lib.hid hg
  have HL := Lib.hid hl
  have c0 : w.cell? ⟨kf, 0, none⟩ = some (.pointer (some ⟨c.p.k, 0, none⟩)) := (blk_cells hf 0).trans rfl
  clear h hf hl hv hg h1 h2
  go_enter Tryz.func64, Tryz.ntmps64
  go_wp2_with fail
  refine HG.out.mono ?_
  rintro r w1 ⟨A1, rfl, hs1, _, hb1⟩
  have HD := Lib.hid (tdecode_walk l HL.out A1 128 w1 hs1)
  have HB1 := Lib.hid hb1
  clear hs1 hb1
  go_wp2_with fail
  refine HD.out.mono ?_
  rintro r w2 ⟨g, rfl, hnp, hb2⟩
  have HNP : Hid (NvP w.heap.size l g w2) := Lib.hid ⟨Nat.le_trans HB1.out.size hnp.1, hnp.2⟩
  have HB2 := Lib.hid (bstep HB1.out hb2)
  clear hnp hb2
  go_wp2
  go_ret2
  exact ⟨g, rfl, HNP.out, HB2.out⟩
def PtP (B : Nat) (c : SWc) (V : Nat → List UInt8) (m : Nat → Bool) (xs : Nat → NoS) (U : List Nat) (w : World) (e : Ending) (w' : World) : Prop := e = .returned (.int .i64 0) ∧ SW B c V m xs U w' ∧ Keep (fun j => j = c.p.b) w w'
set_option maxHeartbeats 1000000 in
theorem point_walk {B : Nat} {c : SWc} {V : Nat → List UInt8} {m : Nat → Bool} {xs : Nat → NoS} {U : List Nat} {w : World} (h : SW B c V m xs U w) {kf n : Nat} {x : NoS} (hf : FI c.p.k kf n x w) (hU : U.length ≤ 24) {t : Nat} (ht : t ∈ U) (h1 : 43 ≤ t) (h2 : t < c.N) {l : List Nat} (hl : P8 l) (A : Option Addr) (cc : Nat) (hs : Sl w 1 (.slice A 8 cc) 8 (nv l)) :
    Calls Tryz.prog 70 #[.pointer (some ⟨kf, 0, none⟩), .int .i64 (t : Int), .slice A 8 cc] w (PwP B c (updF V t (treeE l)) m xs U w) := by
  have HE := Lib.hid (tencode_walk l hl A cc w hs)
  have HL := Lib.hid hl
  have HH := Lib.hid h
  have HF := Lib.hid hf
  have HX := Lib.hid (show U.length ≤ 24 ∧ t ∈ U ∧ 43 ≤ t ∧ t < c.N from ⟨hU, ht, h1, h2⟩)
  clear h hf hl hs hU ht h1 h2
  go_enter Tryz.func70, Tryz.ntmps70
  go_wp2_with fail
  refine HE.out.mono ?_
  rintro r w1 ⟨A1, rfl, hn1, hb1⟩
  have hsl := hn1.sl
  rw [treeE_len HL.out] at hsl
  have HP := Lib.hid (wput (HH.out.below hb1) HX.out.1 HX.out.2.1 HX.out.2.2.1 HX.out.2.2.2 (treeE l) A1 128 hsl)
  have c0 : w1.cell? ⟨kf, 0, none⟩ = some (.pointer (some ⟨c.p.k, 0, none⟩)) := (blk_cells (HF.out.below hb1) 0).trans rfl
  have HB1 := Lib.hid hb1
  clear hn1 hsl hb1
  go_wp2_with fail
  refine HP.out.mono ?_
  rintro r w2 ⟨rfl, hsw, hk⟩
  have HSW := Lib.hid hsw
  have HK := Lib.hid ((Keep.of_below (S := fun j => j = c.p.b) HB1.out).trans hk (fun _ _ h => h))
  clear hsw hk
  go_wp2
  go_ret
  exact ⟨rfl, HSW.out, HK.out⟩
end Go.Proofs.YtehfoopefefpnaaGreat
/- Package space: find. -/
set_option linter.unusedSimpArgs false
set_option linter.unusedVariables false
namespace Go.Proofs.YtehfoopefefpnaaGreat
open Go.RowKit

attribute [local go_sem ↓] Go.wp_at_zero Go.wp_at_succ
/-- The places on the way to a block. -/
def stp (b k : Nat) : Nat := if b < 4 then b else if b < 12 then (if k = 0 then 4 else b + 2) else (if k = 0 then 5 else if k = 1 then 14 + (b - 12) / 8 else b + 10)
theorem way_len (b : Nat) : 1 ≤ (wayL b).length ∧ (wayL b).length ≤ 3 := by
  unfold wayL
  split
  · exact ⟨by simp, by simp⟩
  · split
    · exact ⟨by simp, by simp⟩
    · exact ⟨by simp, by simp⟩
theorem way_zero {b : Nat} (hb : b < 76) : (wayL b)[0]? = some (stp b 0) ∧ stp b 0 < 6 := by
  unfold wayL stp
  split
  · exact ⟨rfl, by omega⟩
  · split
    · exact ⟨rfl, by rw [if_pos rfl]; omega⟩
    · exact ⟨rfl, by rw [if_pos rfl]; omega⟩
theorem way_step {b k : Nat} (hb : b < 76) (hk : k + 1 < (wayL b).length) : ∃ y, (wayL b)[k + 1]? = some y ∧ y < 8 ∧ isP (stp b k) ∧ stp b (k + 1) = kb (stp b k) + y := by
  unfold wayL at hk ⊢
  by_cases h1 : b < 4
  · rw [if_pos h1] at hk
    simp at hk
  · rw [if_neg h1] at hk ⊢
    by_cases h2 : b < 12
    · rw [if_pos h2] at hk ⊢
      have h2k : k + 1 < 2 := hk
      obtain rfl : k = 0 := by omega
      refine ⟨b - 4, rfl, by omega, ?_, ?_⟩
      · unfold stp; rw [if_neg h1, if_pos h2, if_pos rfl]; exact .inl rfl
      · unfold stp kb; rw [if_neg h1, if_pos h2, if_neg (by omega), if_neg h1, if_pos h2, if_pos rfl, if_pos rfl]; omega
    · rw [if_neg h2] at hk ⊢
      have h2k : k + 1 < 3 := hk
      rcases (by omega : k = 0 ∨ k = 1) with rfl | rfl
      · refine ⟨(b - 12) / 8, rfl, by omega, ?_, ?_⟩
        · unfold stp; rw [if_neg h1, if_neg h2, if_pos rfl]; exact .inr (.inl rfl)
        · unfold stp kb; rw [if_neg h1, if_neg h2, if_neg (by omega), if_pos rfl, if_neg h1, if_neg h2, if_pos rfl, if_neg (by omega), if_pos rfl]
      · refine ⟨(b - 12) % 8, rfl, by omega, ?_, ?_⟩
        · unfold stp; rw [if_neg h1, if_neg h2, if_neg (by omega), if_pos rfl]; right; right; omega
        · have e1 : stp b 1 = 14 + (b - 12) / 8 := by unfold stp; rw [if_neg h1, if_neg h2, if_neg (by omega), if_pos rfl]
          have e2 : stp b (1 + 1) = b + 10 := by unfold stp; rw [if_neg h1, if_neg h2, if_neg (by omega), if_neg (by omega)]
          rw [e1, e2]
          unfold kb
          rw [if_neg (by omega), if_neg (by omega)]
          omega
theorem way_end {b k : Nat} (hk : k + 1 = (wayL b).length) : stp b k = sb b := by
  unfold wayL at hk
  unfold stp sb
  by_cases h1 : b < 4
  · rw [if_pos h1, if_pos h1]
  · rw [if_neg h1] at hk ⊢
    rw [if_neg h1]
    by_cases h2 : b < 12
    · rw [if_pos h2] at hk ⊢
      have h2k : k + 1 = 2 := hk
      rw [if_pos h2, if_neg (by omega)]
    · rw [if_neg h2] at hk ⊢
      have h2k : k + 1 = 3 := hk
      rw [if_neg h2, if_neg (by omega), if_neg (by omega)]
/-- Where a pointer on the way is none, there is no block. -/
theorem way_none {V : Nat → List UInt8} {m : Nat → Bool} {N : Nat} {x : NoS} {a : Nat → Nat} (h : TreeOk V m N x a) {b : Nat} (hb : b < 76) {k : Nat} (hk : k < (wayL b).length) (h0 : a (stp b k) = 0) : a (sb b) = 0 := by
  obtain ⟨d, hd⟩ : ∃ d, k + 1 + d = (wayL b).length := ⟨(wayL b).length - (k + 1), by omega⟩
  induction d generalizing k with
  | zero => rw [← way_end hd]; exact h0
  | succ d ih =>
    obtain ⟨y, hy, hy8, hp, hs⟩ := way_step hb (k := k) (by omega)
    refine ih (k := k + 1) (by omega) ?_ (by omega)
    rw [hs]
    exact h.none_ _ hp h0 y hy8
/-- way[1:] -/
theorem way_tail (g L : Nat) (h1 : 1 ≤ L) (h2 : L ≤ 3) : ∃ o, (∀ w, (Instr.slice 29 (.slice (some ⟨g, 0, none⟩) L L) (some (.int .i64 1)) none none).run Tryz.prog w = .ok (.slice (some ⟨g, o, none⟩) (L - 1) (L - 1)) w) ∧ (L ≠ 1 → o = 1) := by
  rcases (by omega : L = 1 ∨ L = 2 ∨ L = 3) with rfl | rfl | rfl
  · exact ⟨0, fun w => by kernel_rfl, fun h => absurd rfl h⟩
  · exact ⟨1, fun w => by kernel_rfl, fun _ => rfl⟩
  · exact ⟨1, fun w => by kernel_rfl, fun _ => rfl⟩
def FdI (a : Nat → Nat) (b K : Nat) (w : World) (v8 v31 : Value) (W : World) : Prop := ∃ k : Nat, k ≤ K ∧ v31 = .int .i64 (k : Int) ∧ v8 = .int .i64 (a (stp b k) : Int) ∧ Below w.heap.size w W
set_option maxRecDepth 100000 in
set_option maxHeartbeats 4000000 in
theorem find_walk {B : Nat} {c : SWc} {V : Nat → List UInt8} {m : Nat → Bool} {xs : Nat → NoS} {U : List Nat} {w : World} (h : SW B c V m xs U w) {kf n : Nat} {x : NoS} (hf : FI c.p.k kf n x w) {a : Nat → Nat} (ht : TreeOk V m c.N x a) {b : Nat} (hb : b < 76) :
    Calls Tryz.prog 29 #[.pointer (some ⟨kf, 0, none⟩), .int .i64 (b : Int)] w fun e w' => e = .returned (.tuple #[.int .i64 (a (sb b) : Int), .int .i64 0]) ∧ Below w.heap.size w w' := by
  have HR := Lib.hid (route_walk b hb w)
  have HH := Lib.hid h
  have HF := Lib.hid hf
  have HT := Lib.hid ht
  have HB := Lib.hid hb
  have hle := h.le
  have HN : Hid (c.N ≤ 1024) := Lib.hid hle.2
  obtain ⟨L, hL⟩ : ∃ L, L = (wayL b).length := ⟨_, rfl⟩
  have hL13 := way_len b
  rw [← hL] at hL13
  have HLE := Lib.hid hL
  obtain ⟨K, hK⟩ : ∃ K, K = L - 1 := ⟨_, rfl⟩
  obtain ⟨hw0, hs0⟩ := way_zero hb
  obtain ⟨t0, et0⟩ : ∃ t, t = stp b 0 := ⟨_, rfl⟩
  rw [← et0] at hw0 hs0
  have HW0 := Lib.hid hw0
  have HTOP := Lib.hid (fun (W : World) => top_walk (k := c.p.k) (n := n) (kf := kf) (x := x) (w := W) t0 hs0)
  have HT0 : Hid (x.ptr t0 = a t0) := Lib.hid (ht.top t0 hs0)
  have HS0 := Lib.hid hs0
  have HET := Lib.hid et0
  have HKE := Lib.hid hK
  have hK2 : K ≤ 2 := by omega
  clear h hf ht hb hle hL hw0 hs0 et0 hK
  go_enter Tryz.func29, Tryz.ntmps29
  go_wp2_with fail
  refine HR.out.mono ?_
  rintro r w1 ⟨g, rfl, hnp, hb1⟩
  rw [← HLE.out]
  obtain ⟨o, hsl, ho⟩ := way_tail g L hL13.1 hL13.2
  rw [← HKE.out] at hsl
  have HNP := Lib.hid hnp
  have HB1 := Lib.hid hb1
  have HO := Lib.hid ho
  have cw : ∀ (W : World) (i n : Nat), (wayL b)[i]? = some n → Below w1.heap.size w1 W → W.cell? ⟨g, i, none⟩ = some (.int .i64 (n : Int)) := fun W i n hi hW => by
    have := blk_cells ((Keep.of_below (S := fun _ => False) hW).blk HNP.out.2 id) i
    rw [this, List.getElem?_toArray]
    unfold nv
    rw [List.getElem?_map, hi]
    rfl
  have HCW := Lib.hid cw
  have c0 := cw w1 0 t0 HW0.out (Below.refl _ _)
  have hfi1 := HF.out.below hb1
  have cp : w1.cell? ⟨kf, 7 + t0, none⟩ = some (.int .i64 (a t0 : Int)) := by
    rw [blk_cells hfi1, filC_ptr _ _ _ HS0.out, HT0.out]
  have gL : (0 : Int) < (L : Int) := by omega
  clear hnp hb1 ho cw hfi1
  go_wp2_with fail
  refine (HTOP.out w1).mono ?_
  rintro r w' ⟨rfl, hw'⟩
  subst hw'
  go_wp2_with fail
  go_loopw [8, 31] (fun v8 v31 wr => FdI a b K w' v8 v31 wr) (fun _ v _ => K - (intOf v).toNat)
  case atStart => exact ⟨0, Nat.zero_le _, rfl, by rw [HET.out], Below.refl _ _⟩
  case round =>
    obtain ⟨k, hk, rfl, rfl, hbw⟩ := hrel
    have HBW := Lib.hid hbw
    by_cases hlt : k < K
    · obtain ⟨y, hy, hy8, hp, hs⟩ := way_step HB.out (k := k) (by rw [← HLE.out]; have := HKE.out; omega)
      have ho1 := HO.out (by have := HKE.out; omega)
      subst ho1
      have hcy := HCW.out wr (k + 1) y hy hbw
      rw [Nat.add_comm k 1] at hcy
      have ga : (k : Int) < (K : Int) := by omega
      have g0 : (0 : Int) ≤ (k : Int) := by omega
      have gc : IntKind.i64.wrap ((k : Int) + 1) = (k : Int) + 1 := IntWalk.i64_in _ (by omega)
      by_cases h0 : a (stp b k) = 0
      · have hend := way_none HT.out HB.out (k := k) (by rw [← HLE.out]; have := HKE.out; omega) h0
        have e0 : ((a (stp b k) : Int) == 0) = true := by rw [h0]; rfl
        have e0' : (a (stp b k) : Int) = 0 := by rw [h0]; rfl
        have HE := Lib.hid hend
        have HB2 := Lib.hid (bstep HB1.out hbw)
        obtain ⟨z, hz⟩ : ∃ z : Int, z = (a (stp b k) : Int) := ⟨_, rfl⟩
        rw [← hz] at e0 e0' ⊢
        have HZ : Hid (z = 0) := Lib.hid e0'
        clear h0 hend hbw hy hs hp hz
        go_wp2
        go_ret2
        exact ⟨by rw [HE.out]; rfl, HB2.out⟩
      · have hq86 : stp b k < 86 := by unfold isP at hp; omega
        obtain ⟨r1, r2, _⟩ := HT.out.rng _ hq86 h0
        have HPT := Lib.hid (pointers_file (HH.out.below (bstep HB1.out hbw)) (HF.out.below (bstep HB1.out hbw)) r1 r2 (HT.out.p8 HN.out hp) (HT.out.kid _ hp h0))
        obtain ⟨z, hz⟩ : ∃ z : Nat, z = a (stp b k) := ⟨_, rfl⟩
        have e0 : ((z : Int) == 0) = false := beq_eq_false_iff_ne.2 (by omega)
        have e0' : ¬ (z : Int) = 0 := by omega
        rw [← hz] at HPT ⊢
        obtain ⟨u, hu⟩ : ∃ u : Nat, u = a (stp b (k + 1)) := ⟨_, rfl⟩
        have hku : (kids a (kb (stp b k)))[y]? = some u := by rw [kids_get a _ hy8, hu, hs]
        have HKU := Lib.hid hku
        have HU := Lib.hid hu
        have y0 : (0 : Int) ≤ (y : Int) := by omega
        have y8 : (y : Int) < 8 := by omega
        clear h0 hbw hy hs hp hz hu hku hq86 r1 r2
        go_wp2_with fail
        refine HPT.out.mono ?_
        rintro r w5 ⟨g5, rfl, hnp5, hb5⟩
        have hc5 : w5.cell? ⟨g5, y, none⟩ = some (.int .i64 (u : Int)) := by
          rw [blk_cells hnp5.2, List.getElem?_toArray]
          unfold nv
          rw [List.getElem?_map, HKU.out]
          rfl
        have HR9 : Hid (FdI a b K w' (.int .i64 (u : Int)) (.int .i64 ((k : Int) + 1)) w5) := Lib.hid ⟨k + 1, hlt, by rw [Int.natCast_add]; rfl, by rw [HU.out], bstep HBW.out hb5⟩
        clear hnp5 hb5
        go_wp2_with fail
        go_roundw
        case rel => exact HR9.out
        case measure => simp only [intOf]; omega
    · obtain rfl : k = K := by omega
      have ga : ¬ (k : Int) < (k : Int) := by omega
      have HE := Lib.hid (way_end (b := b) (k := k) (by rw [← HLE.out]; have := HKE.out; omega))
      have HB2 := Lib.hid (bstep HB1.out hbw)
      clear hbw
      go_wp2
      go_ret2
      exact ⟨by rw [← HE.out]; rfl, HB2.out⟩
end Go.Proofs.YtehfoopefefpnaaGreat
/- A file's tree that grows, plain; Take where no sector is free. -/
set_option linter.unusedSimpArgs false
set_option linter.unusedVariables false
namespace Go.Proofs.YtehfoopefefpnaaGreat
open Go.RowKit

attribute [local go_sem ↓] Go.wp_at_zero Go.wp_at_succ
/-- What has grown: places that were none have new sectors; all else is as it was. -/
structure Grow (N : Nat) (V : Nat → List UInt8) (m : Nat → Bool) (a : Nat → Nat) (V' : Nat → List UInt8) (m' : Nat → Bool) (a' : Nat → Nat) (S : Nat → Prop) : Prop where
  old : ∀ t, t < 86 → a t ≠ 0 → a' t = a t
  slots : ∀ t, t < 86 → a t = 0 → a' t ≠ 0 → S t
  new : ∀ t, t < 86 → a t = 0 → a' t ≠ 0 → m (a' t) = false
  mark : ∀ i, m' i = true ↔ (m i = true ∨ ∃ t, t < 86 ∧ a t = 0 ∧ a' t = i ∧ i ≠ 0)
  view : ∀ i, 43 ≤ i → i < N → m i = true → (∀ t, isP t → a t ≠ i) → V' i = V i
  data : ∀ t, t < 86 → ¬ isP t → a t = 0 → a' t ≠ 0 → V' (a' t) = zero128
theorem Grow.refl (N : Nat) (V : Nat → List UInt8) (m : Nat → Bool) (a : Nat → Nat) (S : Nat → Prop) : Grow N V m a V m a S :=
  ⟨fun _ _ _ => rfl, fun t _ h h' => absurd h h', fun t _ h h' => absurd h h', fun i => ⟨.inl, fun h => by
    rcases h with h | ⟨t, _, h1, h2, h3⟩
    · exact h
    · exact absurd (h2.symm.trans h1) h3⟩, fun _ _ _ _ _ => rfl, fun t _ _ h h' => absurd h h'⟩
theorem Grow.trans {N : Nat} {V V1 V2 : Nat → List UInt8} {m m1 m2 : Nat → Bool} {a a1 a2 : Nat → Nat} {S T R : Nat → Prop} {x1 : NoS} (h : Grow N V m a V1 m1 a1 S) (k : Grow N V1 m1 a1 V2 m2 a2 T) (ht : TreeOk V1 m1 N x1 a1) (hS : ∀ t, S t → R t) (hT : ∀ t, T t → R t) : Grow N V m a V2 m2 a2 R := by
  have key : ∀ t, t < 86 → a t = 0 → a2 t ≠ 0 → a1 t = 0 ∨ (a1 t ≠ 0 ∧ a2 t = a1 t) := fun t ht h0 h2 => by
    by_cases h1 : a1 t = 0
    · exact .inl h1
    · exact .inr ⟨h1, k.old t ht h1⟩
  refine ⟨fun t h8 h0 => ?_, fun t h8 h0 h2 => ?_, fun t h8 h0 h2 => ?_, fun i => ⟨fun hi => ?_, fun hi => ?_⟩, fun i h1 h2 hm hp => ?_, fun t h8 hn h0 h2 => ?_⟩
  · have e := h.old t h8 h0
    rw [k.old t h8 (by rw [e]; exact h0), e]
  · rcases key t h8 h0 h2 with h1 | ⟨h1, _⟩
    · exact hT t (k.slots t h8 h1 h2)
    · exact hS t (h.slots t h8 h0 h1)
  · rcases key t h8 h0 h2 with h1 | ⟨h1, e⟩
    · have := k.new t h8 h1 h2
      cases hm : m (a2 t) with
      | false => rfl
      | true =>
        have h3 := (h.mark (a2 t)).2 (.inl hm)
        rw [h3] at this
        cases this
    · rw [e]
      exact h.new t h8 h0 h1
  · rcases (k.mark i).1 hi with hi | ⟨t, h8, h0, h1, h2⟩
    · rcases (h.mark i).1 hi with hi | ⟨t, h8, h0, h1, h2⟩
      · exact .inl hi
      · exact .inr ⟨t, h8, h0, by rw [k.old t h8 (by rw [h1]; exact h2), h1], h2⟩
    · right
      refine ⟨t, h8, ?_, h1, h2⟩
      cases hz : a t with
      | zero => rfl
      | succ z =>
        have := h.old t h8 (by omega)
        rw [h0, hz] at this
        cases this
  · rcases hi with hi | ⟨t, h8, h0, h1, h2⟩
    · exact (k.mark i).2 (.inl ((h.mark i).2 (.inl hi)))
    · by_cases h3 : a1 t = 0
      · exact (k.mark i).2 (.inr ⟨t, h8, h3, h1, h2⟩)
      · have e := k.old t h8 h3
        refine (k.mark i).2 (.inl ((h.mark i).2 (.inr ⟨t, h8, h0, by rw [← e]; exact h1, h2⟩)))
  · rw [k.view i h1 h2 ((h.mark i).2 (.inl hm)) (fun t ht1 e => ?_), h.view i h1 h2 hm hp]
    have h8 : t < 86 := by unfold isP at ht1; omega
    by_cases h0 : a t = 0
    · have h3 := h.new t h8 h0 (by rw [e]; omega)
      rw [e, hm] at h3
      cases h3
    · exact hp t ht1 ((h.old t h8 h0).symm.trans e)
  · rcases key t h8 h0 h2 with h1 | ⟨h1, e⟩
    · exact k.data t h8 hn h1 h2
    · have hd := h.data t h8 hn h0 h1
      obtain ⟨r1, r2, r3⟩ := ht.rng t h8 h1
      rw [e, k.view (a1 t) r1 r2 r3 (fun q hq e' => ?_), hd]
      have := ht.inj q t (by unfold isP at hq; omega) h8 e' (by rw [e']; exact h1)
      rw [this] at hq
      exact hn hq
/-- The contents stay. -/
theorem Grow.ct {N : Nat} {V V1 : Nat → List UInt8} {m m1 : Nat → Bool} {a a1 : Nat → Nat} {S : Nat → Prop} {x : NoS} (h : Grow N V m a V1 m1 a1 S) (ht : TreeOk V m N x a) {k : Nat} (hk : k < 9728) : Ct V1 a1 k = Ct V a k := by
  have hb : k / 128 < 76 := by omega
  have h8 := sb_lt hb
  have hn := sb_notP hb
  unfold Ct
  by_cases h0 : a (sb (k / 128)) = 0
  · rw [if_pos h0]
    by_cases h1 : a1 (sb (k / 128)) = 0
    · rw [if_pos h1]
    · rw [if_neg h1, h.data _ h8 hn h0 h1]
      unfold zero128
      rw [List.getD_eq_getElem?_getD, List.getElem?_replicate]
      split <;> rfl
  · have e := h.old _ h8 h0
    obtain ⟨r1, r2, r3⟩ := ht.rng _ h8 h0
    rw [if_neg h0, e, if_neg h0, h.view _ r1 r2 r3 (fun q hq e' => ?_)]
    have := ht.inj q _ (by unfold isP at hq; omega) h8 e' (by rw [e']; exact h0)
    rw [this] at hq
    exact hn hq
theorem grow_top {V : Nat → List UInt8} {m : Nat → Bool} {N : Nat} {x : NoS} {a : Nat → Nat} (h : TreeOk V m N x a) {t n : Nat} (ht : t < 86) (h0 : a t = 0) (hm : m n = false) (hn : n ≠ 0) {S : Nat → Prop} (hS : S t) : Grow N V m a (updF V n zero128) (updF m n true) (updF a t n) S := by
  have hat : updF a t n t = n := updF_same a t n
  have ha : ∀ i, i ≠ t → updF a t n i = a i := fun i hi => updF_ne a n hi
  have hone : ∀ i, a i = 0 → updF a t n i ≠ 0 → i = t := fun i h1 h2 => by
    by_cases e : i = t
    · exact e
    · rw [ha i e] at h2; exact absurd h1 h2
  refine ⟨fun i _ hi => ha i (fun e => by subst e; exact hi h0), fun i _ h1 h2 => by rw [hone i h1 h2]; exact hS, fun i _ h1 h2 => by rw [hone i h1 h2, hat]; exact hm, fun i => ?_, fun i _ _ hi _ => ?_, fun i _ _ h1 h2 => by rw [hone i h1 h2, hat, updF_same]⟩
  · constructor
    · intro hi
      by_cases e : i = n
      · exact .inr ⟨t, ht, h0, hat.trans e.symm, by omega⟩
      · rw [updF_ne m true e] at hi; exact .inl hi
    · rintro (hi | ⟨s, _, h1, h2, h3⟩)
      · by_cases e : i = n
        · rw [e]; exact updF_same m n true
        · rw [updF_ne m true e]; exact hi
      · have := hone s h1 (by rw [h2]; exact h3)
        rw [this, hat] at h2
        rw [← h2]; exact updF_same m n true
  · rw [updF_ne V zero128 (fun e => by rw [e, hm] at hi; cases hi)]
theorem grow_kid {V : Nat → List UInt8} {m : Nat → Bool} {N : Nat} {x : NoS} {a : Nat → Nat} (h : TreeOk V m N x a) {q t n : Nat} (hq : isP q) (hp : a q ≠ 0) (ht : t < 86) (h0 : a t = 0) (hm : m n = false) (hn : n ≠ 0) {S : Nat → Prop} (hS : S t) (l : List UInt8) : Grow N V m a (updF (updF V n zero128) (a q) l) (updF m n true) (updF a t n) S := by
  have g := grow_top h ht h0 hm hn (S := S) hS
  have hq8 : q < 86 := by unfold isP at hq; omega
  have hqm := (h.rng q hq8 hp).2.2
  refine ⟨g.old, g.slots, g.new, g.mark, fun i h1 h2 hi hk => ?_, fun i h8 hni h1 h2 => ?_⟩
  · rw [updF_ne _ _ (fun e => hk q hq e.symm)]
    exact g.view i h1 h2 hi hk
  · have hne : updF a t n i ≠ a q := fun e => by
      have := g.new i h8 h1 h2
      rw [e, hqm] at this
      cases this
    rw [updF_ne _ _ hne]
    exact g.data i h8 hni h1 h2
set_option maxHeartbeats 1000000 in
theorem wtake_none {B : Nat} {c : SWc} {V : Nat → List UInt8} {m : Nat → Bool} {xs : Nat → NoS} {U : List Nat} {w : World} (h : SW B c V m xs U w) (hf : ∀ i, 43 ≤ i → i < c.N → m i = true) :
    Calls Tryz.prog 69 #[.pointer (some ⟨c.p.k, 0, none⟩)] w fun e w' => e = .returned (.tuple #[.int .i64 0, .int .i64 10]) ∧ Below w.heap.size w w' := by
  obtain ⟨s, hst, hs, e1, e2⟩ := h
  obtain ⟨M, hk, hM, hm⟩ := hs.kn
  have hle := hs.le
  have hfp : firstP M 43 (s.sup.sectors - 43) = none := firstP_no (m := m) (fun i h5 h6 => hm i h5 (by rw [hs.sec] at h6; omega)) (fun i h5 h6 => hf i h5 (by rw [hs.sec] at h6; omega))
  have HG := Lib.hid (sget_walk B c.p s w hst hs.ok 34 (by omega) M hk.marks)
  have HF : Hid (∀ A W, Sl W 1 (.slice A 128 128) 128 (bv M) → Calls Tryz.prog 110 #[.slice A 128 128, .int .i64 43, .int .i64 (s.sup.sectors : Int)] W fun e w' => e = .returned (.tuple #[.int .i64 0, .int .i64 10]) ∧ w' = W) := Lib.hid (fun A W hw => first_walk M A 128 43 s.sup.sectors (by rw [hs.sec]; omega) (by rw [hs.sec]; omega) W hw none hfp)
  obtain ⟨z, hz⟩ : ∃ z : Int, z = (s.sup.sectors : Int) := ⟨_, rfl⟩
  rw [← hz] at HF
  have HST := Lib.hid hst
  have HZ := Lib.hid hz
  clear hst hs hk hM hm hle hfp hf e1 e2 hz
  go_enter Tryz.func69, Tryz.ntmps69
  go_wp2_with fail
  refine HG.out.mono ?_
  rintro r w1 ⟨A1, rfl, h1, _, hb1⟩
  have c1 : w1.cell? ⟨c.p.k, 1, none⟩ = some (.int .i64 z) := by rw [HZ.out]; exact (blk_cells (HST.out.below hb1).blk 1).trans rfl
  have HF1 := Lib.hid (HF.out A1 w1 h1)
  have HB1 := Lib.hid hb1
  clear h1 hb1
  go_wp2_with fail
  refine HF1.out.mono ?_
  rintro r w2 ⟨rfl, hw2⟩
  subst hw2
  go_wp2
  go_ret2
  exact ⟨rfl, HB1.out⟩
end Go.Proofs.YtehfoopefefpnaaGreat
/- Package space: make. -/
set_option linter.unusedSimpArgs false
set_option linter.unusedVariables false
namespace Go.Proofs.YtehfoopefefpnaaGreat
open Go.RowKit

attribute [local go_sem ↓] Go.wp_at_zero Go.wp_at_succ
def SameN (x x' : NoS) : Prop := x'.kind = x.kind ∧ x'.links = x.links ∧ x'.gen = x.gen ∧ x'.size = x.size ∧ x'.change = x.change
theorem SameN.refl (x : NoS) : SameN x x := ⟨rfl, rfl, rfl, rfl, rfl⟩
theorem SameN.trans {x y z : NoS} (h : SameN x y) (k : SameN y z) : SameN x z := ⟨k.1.trans h.1, k.2.1.trans h.2.1, k.2.2.1.trans h.2.2.1, k.2.2.2.1.trans h.2.2.2.1, k.2.2.2.2.trans h.2.2.2.2⟩
theorem same_setPtr (x : NoS) (i n : Nat) : SameN x (x.setPtr i n) := by
  unfold NoS.setPtr
  split <;> exact ⟨rfl, rfl, rfl, rfl, rfl⟩
theorem setPtr_self (x : NoS) {i : Nat} (hi : i < 6) : x.setPtr i (x.ptr i) = x := by
  rcases (by omega : i = 0 ∨ i = 1 ∨ i = 2 ∨ i = 3 ∨ i = 4 ∨ i = 5) with rfl | rfl | rfl | rfl | rfl | rfl <;> rfl
/-- A file that is being written. -/
structure MS (B : Nat) (c : SWc) (xs : Nat → NoS) (kf n : Nat) (base T : List Nat) (S : Nat → Prop) (V : Nat → List UInt8) (m : Nat → Bool) (x : NoS) (a : Nat → Nat) (V' : Nat → List UInt8) (m' : Nat → Bool) (x' : NoS) (a' : Nat → Nat) (W : World) : Prop where
  sw : SW B c V' m' xs (base ++ T.map a') W
  fi : FI c.p.k kf n x' W
  tr : TreeOk V' m' c.N x' a'
  gr : Grow c.N V m a V' m' a' S
  nd : SameN x x'
theorem MS.below {B : Nat} {c : SWc} {xs : Nat → NoS} {kf n : Nat} {base T : List Nat} {S : Nat → Prop} {V : Nat → List UInt8} {m : Nat → Bool} {x : NoS} {a : Nat → Nat} {V' : Nat → List UInt8} {m' : Nat → Bool} {x' : NoS} {a' : Nat → Nat} {W W' : World} (h : MS B c xs kf n base T S V m x a V' m' x' a' W) (hb : Below W.heap.size W W') : MS B c xs kf n base T S V m x a V' m' x' a' W' :=
  ⟨h.sw.below hb, h.fi.below hb, h.tr, h.gr, h.nd⟩
theorem base_grow {base T : List Nat} {a : Nat → Nat} {t n : Nat} (h0 : 0 ∈ base) (ht : a t = 0) : ∀ i ∈ base ++ T.map a, i ∈ base ++ T.map (updF a t n) := fun i hi => by
  rcases List.mem_append.1 hi with hi | hi
  · exact List.mem_append_left _ hi
  · obtain ⟨s, hs, rfl⟩ := List.mem_map.1 hi
    by_cases e : s = t
    · subst e
      rw [ht]
      exact List.mem_append_left _ h0
    · exact List.mem_append_right _ (List.mem_map.2 ⟨s, hs, updF_ne a n e⟩)
/-- The file's block turns. -/
theorem SW.file {B : Nat} {c : SWc} {V : Nat → List UInt8} {m : Nat → Bool} {xs : Nat → NoS} {U : List Nat} {w w' : World} {k kf n : Nat} {x : NoS} (h : SW B c V m xs U w) (hf : FI k kf n x w) (hk : Keep (fun j => j = kf) w w') : SW B c V m xs U w' :=
  h.turn hk (fun j hj => by
    have e : j = kf := hj
    rw [e]
    exact ⟨_, _, _, hf, by decide, by decide, by decide, by decide⟩)
theorem FI.set {k kf n : Nat} {x : NoS} {w : World} (h : FI k kf n x w) {i : Nat} (hi : i < 6) (v : Nat) : FI k kf n (x.setPtr i v) (w.setCell ⟨kf, 7 + i, none⟩ (.int .i64 (v : Int))) := by
  unfold FI
  rw [blk_set h (.int .i64 (v : Int)) (j := 7 + i), filC_set k n x hi v]
def onWay (b t : Nat) : Prop := ∃ k, k < (wayL b).length ∧ t = stp b k
def MkK (c : SWc) (kf : Nat) (w w' : World) : Prop := Keep (fun j => j = c.p.b ∨ j = kf ∨ w.heap.size ≤ j) w w'
theorem MkK.put {c : SWc} {kf : Nat} {w w1 w2 : World} (h : MkK c kf w w1) (hk : Keep (fun j => j = c.p.b) w1 w2) : MkK c kf w w2 := Keep.trans h hk (fun j _ e => .inl e)
theorem MkK.file {c : SWc} {kf : Nat} {w w1 w2 : World} (h : MkK c kf w w1) (hk : Keep (fun j => j = kf) w1 w2) : MkK c kf w w2 := Keep.trans h hk (fun j _ e => .inr (.inl e))
theorem MkK.below {c : SWc} {kf : Nat} {w w1 w2 : World} (h : MkK c kf w w1) (hb : Below w1.heap.size w1 w2) : MkK c kf w w2 := Keep.trans h (Keep.of_below (S := fun _ => False) hb) (fun j _ e => e.elim)
theorem MkK.new {c : SWc} {kf : Nat} {w w1 w2 : World} {g : Nat} (h : MkK c kf w w1) (hg : w.heap.size ≤ g) (hk : Keep (fun j => j = g) w1 w2) : MkK c kf w w2 := Keep.trans h hk (fun j _ e => by have e : j = g := e; exact .inr (.inr (by omega)))
def MaP (B : Nat) (c : SWc) (xs : Nat → NoS) (kf n : Nat) (base T : List Nat) (V : Nat → List UInt8) (m : Nat → Bool) (x : NoS) (a : Nat → Nat) (b : Nat) (w : World) (e : Ending) (w' : World) : Prop := ∃ V' m' x' a', MS B c xs kf n base T (onWay b) V m x a V' m' x' a' w' ∧ MkK c kf w w' ∧ ((e = .returned (.tuple #[.int .i64 (a' (sb b) : Int), .int .i64 0]) ∧ a' (sb b) ≠ 0) ∨ (e = .returned (.tuple #[.int .i64 0, .int .i64 10]) ∧ (∀ i, 43 ≤ i → i < c.N → m' i = true) ∧ a' (sb b) = 0))
def MkI (B : Nat) (c : SWc) (xs : Nat → NoS) (kf n : Nat) (base T : List Nat) (V : Nat → List UInt8) (m : Nat → Bool) (x : NoS) (a : Nat → Nat) (b K g : Nat) (w : World) (v9 v51 : Value) (W : World) : Prop := ∃ (k : Nat) (V' : Nat → List UInt8) (m' : Nat → Bool) (x' : NoS) (a' : Nat → Nat), k ≤ K ∧ v51 = .int .i64 (k : Int) ∧ v9 = .int .i64 (a' (stp b k) : Int) ∧ a' (stp b k) ≠ 0 ∧ MS B c xs kf n base T (onWay b) V m x a V' m' x' a' W ∧ MkK c kf w W ∧ W.heap[g]? = some (.cells (nv (wayL b)).toArray 3 (0, 0))
theorem kids_set (a : Nat → Nat) (k : Nat) {y : Nat} (hy : y < 8) (n : Nat) : (kids a k).set y n = kids (updF a (k + y) n) k := by
  apply List.ext_getElem?
  intro j
  rw [List.getElem?_set]
  by_cases e : y = j
  · subst e
    rw [if_pos rfl, if_pos (by rw [kids_len]; exact hy), kids_get _ _ hy, updF_same]
  · rw [if_neg e]
    by_cases hj : j < 8
    · rw [kids_get _ _ hj, kids_get _ _ hj, updF_ne a n (by omega)]
    · rw [List.getElem?_eq_none (by rw [kids_len]; omega), List.getElem?_eq_none (by rw [kids_len]; omega)]
/-- A row of numbers turns. -/
theorem SW.row {B : Nat} {c : SWc} {V : Nat → List UInt8} {m : Nat → Bool} {xs : Nat → NoS} {U : List Nat} {w w' : World} {g : Nat} {cs : Array Value} (h : SW B c V m xs U w) (hg : w.heap[g]? = some (.cells cs 3 (0, 0))) (hk : Keep (fun j => j = g) w w') : SW B c V m xs U w' :=
  h.turn hk (fun j hj => by
    have e : j = g := hj
    rw [e]
    exact ⟨_, _, _, hg, by decide, by decide, by decide, by decide⟩)
set_option maxRecDepth 100000 in
set_option maxHeartbeats 8000000 in
theorem fmake_walk {B : Nat} {c : SWc} {V : Nat → List UInt8} {m : Nat → Bool} {xs : Nat → NoS} {base T : List Nat} {w : World} {kf n : Nat} {x : NoS} {a : Nat → Nat} (h : SW B c V m xs (base ++ T.map a) w) (hf : FI c.p.k kf n x w) (ht : TreeOk V m c.N x a) {b : Nat} (hb : b < 76) (hU : base.length + T.length ≤ 22) (h00 : 0 ∈ base) (h34 : 34 ∈ base) (hT : ∀ k, k < (wayL b).length → stp b k ∈ T) :
    Calls Tryz.prog 35 #[.pointer (some ⟨kf, 0, none⟩), .int .i64 (b : Int)] w (MaP B c xs kf n base T V m x a b w) := by
  have HR := Lib.hid (route_walk b hb w)
  have HH := Lib.hid h
  have HF := Lib.hid hf
  have HTR := Lib.hid ht
  have HB := Lib.hid hb
  have hle := h.le
  have HN : Hid (c.N ≤ 1024) := Lib.hid hle.2
  have HU := Lib.hid hU
  have H0 := Lib.hid h00
  have H34 := Lib.hid h34
  have HTT := Lib.hid hT
  have HUL : Hid (∀ a : Nat → Nat, (base ++ T.map a).length ≤ 22) := Lib.hid (fun a => by rw [List.length_append, List.length_map]; exact hU)
  obtain ⟨L, hL⟩ : ∃ L, L = (wayL b).length := ⟨_, rfl⟩
  have hL13 := way_len b
  rw [← hL] at hL13
  have HLE := Lib.hid hL
  obtain ⟨K, hK⟩ : ∃ K, K = L - 1 := ⟨_, rfl⟩
  have HKE := Lib.hid hK
  have hK2 : K ≤ 2 := by omega
  obtain ⟨hw0, hs0⟩ := way_zero hb
  obtain ⟨t0, et0⟩ : ∃ t, t = stp b 0 := ⟨_, rfl⟩
  rw [← et0] at hw0 hs0
  have HW0 := Lib.hid hw0
  have HTOP := Lib.hid (fun (W : World) => top_walk (k := c.p.k) (n := n) (kf := kf) (x := x) (w := W) t0 hs0)
  have HT0 : Hid (x.ptr t0 = a t0) := Lib.hid (ht.top t0 hs0)
  have HS0 := Lib.hid hs0
  have HET := Lib.hid et0
  have HON0 : Hid (onWay b t0) := Lib.hid ⟨0, by omega, et0⟩
  have HTM0 : Hid (t0 ∈ T) := Lib.hid (by rw [et0]; exact hT 0 (by omega))
  clear h hf ht hb hle hL hw0 hs0 et0 hK hU h00 h34 hT
  go_enter Tryz.func35, Tryz.ntmps35
  go_wp2_with fail
  refine HR.out.mono ?_
  rintro r w1 ⟨g, rfl, hnp, hb1⟩
  rw [← HLE.out]
  obtain ⟨o, hsl, ho⟩ := way_tail g L hL13.1 hL13.2
  rw [← HKE.out] at hsl
  have HNP := Lib.hid hnp
  have HB1 := Lib.hid hb1
  have HO := Lib.hid ho
  have HGN : Hid (w.heap.size ≤ g ∧ g < w1.heap.size) := Lib.hid ⟨hnp.1, blk_lt hnp.2⟩
  have HCW : Hid (∀ (W : World) (i n : Nat), (wayL b)[i]? = some n → W.heap[g]? = some (.cells (nv (wayL b)).toArray 3 (0, 0)) → W.cell? ⟨g, i, none⟩ = some (.int .i64 (n : Int))) := Lib.hid (fun W i n hi hW => by
    rw [blk_cells hW i, List.getElem?_toArray]
    unfold nv
    rw [List.getElem?_map, hi]
    rfl)
  have c0 := HCW.out w1 0 t0 HW0.out hnp.2
  have hfi1 := HF.out.below hb1
  have cp : w1.cell? ⟨kf, 7 + t0, none⟩ = some (.int .i64 (a t0 : Int)) := by
    rw [blk_cells hfi1, filC_ptr _ _ _ HS0.out, HT0.out]
  have fp := blk_frees hfi1 (7 + t0)
  have cs : w1.cell? ⟨kf, 0, none⟩ = some (.pointer (some ⟨c.p.k, 0, none⟩)) := (blk_cells hfi1 0).trans rfl
  have HFI1 := Lib.hid hfi1
  have HSW1 := Lib.hid (HH.out.below hb1)
  have gL : (0 : Int) < (L : Int) := by omega
  have HK1 : Hid (MkK c kf w w1) := Lib.hid (MkK.below (Keep.refl _ _) hb1)
  have HRW : Hid (∀ W, MkK c kf w W → Keep (fun j => j ≠ g) w1 W → W.heap[g]? = some (.cells (nv (wayL b)).toArray 3 (0, 0))) := Lib.hid (fun W _ hk => hk.blk HNP.out.2 (fun hne => hne rfl))
  have HGK : Hid (g ≠ c.p.b ∧ g ≠ kf) := Lib.hid ⟨HSW1.out.b_ne hnp.2, fun e => blk_ne hnp.2 hfi1 (by decide) e⟩
  clear hnp hb1 ho hfi1
  go_wp2_with fail
  refine (HTOP.out w1).mono ?_
  rintro r w' ⟨rfl, hw'⟩
  subst hw'
  rcases Nat.eq_zero_or_pos (a t0) with hz0 | hz0
  case' inl =>
    have e0 : ((a t0 : Int) == 0) = true := by rw [hz0]; rfl
    have e0' : (a t0 : Int) = 0 := by rw [hz0]; rfl
    have HZ0 := Lib.hid hz0
    clear hz0
    rcases ff_or m c.N with ⟨q, hq⟩ | hno
    case' inr =>
      have HTN := Lib.hid (wtake_none HSW1.out hno)
      have HNO := Lib.hid hno
      clear hno
      go_wp2_with fail
      refine HTN.out.mono ?_
      rintro r w2 ⟨rfl, hb2⟩
      have hfi2 := HFI1.out.below hb2
      have cp2 : w2.cell? ⟨kf, 7 + t0, none⟩ = some (.int .i64 0) := by
        rw [blk_cells hfi2, filC_ptr _ _ _ HS0.out, HT0.out, HZ0.out]
        rfl
      have fp2 := blk_frees hfi2 (7 + t0)
      have hset := hfi2.set HS0.out 0
      have hx0 : x.setPtr t0 0 = x := by
        have := setPtr_self x HS0.out
        rw [HT0.out, HZ0.out] at this
        exact this
      rw [hx0] at hset
      have hk2 := keep_set w2 kf (7 + t0) (.int .i64 0)
      have HFIN : Hid (MaP B c xs kf n base T V m x a b w (.returned (.tuple #[.int .i64 0, .int .i64 10])) (w2.setCell ⟨kf, 7 + t0, none⟩ (.int .i64 0))) := Lib.hid ⟨V, m, x, a, ⟨(HSW1.out.below hb2).file hfi2 hk2, hset, HTR.out, Grow.refl _ _ _ _ _, SameN.refl _⟩, (HK1.out.below hb2).file hk2, .inr ⟨rfl, HNO.out, way_none HTR.out HB.out (k := 0) (by rw [← HLE.out]; omega) (by rw [← HET.out]; exact HZ0.out)⟩⟩
      clear hb2 hfi2 hset hx0 hk2 cp fp
      go_wp2
      go_ret2
      exact HFIN.out
    case' inl =>
      have hU1 := HUL.out (updF a t0 q)
      have hmem : q ∈ base ++ T.map (updF a t0 q) := List.mem_append_right _ (List.mem_map.2 ⟨t0, HTM0.out, updF_same a t0 q⟩)
      have HTK := Lib.hid (wtake (HSW1.out.mono (base_grow (n := q) H0.out HZ0.out)) hU1 hmem (List.mem_append_left _ H34.out) hq)
      have HQ := Lib.hid hq
      clear hU1 hmem hq
      go_wp2_with fail
      refine HTK.out.mono ?_
      rintro r w2 ⟨rfl, hsw2, hk2⟩
      have hfi2 := HFI1.out.keep hk2 (fun e => HSW1.out.b_ne HFI1.out e)
      have cp2 : w2.cell? ⟨kf, 7 + t0, none⟩ = some (.int .i64 0) := by
        rw [blk_cells hfi2, filC_ptr _ _ _ HS0.out, HT0.out, HZ0.out]
        rfl
      have fp2 := blk_frees hfi2 (7 + t0)
      obtain ⟨W2, hW2⟩ : ∃ W2, W2 = w2.setCell ⟨kf, 7 + t0, none⟩ (.int .i64 (q : Int)) := ⟨_, rfl⟩
      have hset := hfi2.set HS0.out q
      have hk3 := keep_set w2 kf (7 + t0) (.int .i64 (q : Int))
      rw [← hW2] at hset hk3
      obtain ⟨V1, m1, x1, a1, hne1, hms⟩ : ∃ V1 m1 x1 a1, a1 t0 ≠ 0 ∧ MS B c xs kf n base T (onWay b) V m x a V1 m1 x1 a1 W2 := ⟨updF V q zero128, updF m q true, x.setPtr t0 q, updF a t0 q, by rw [updF_same]; have := HQ.out.1; omega, hsw2.file hfi2 hk3, hset, HTR.out.addTop HS0.out HZ0.out HQ.out.1 HQ.out.2.1 HQ.out.2.2.1, grow_top HTR.out (by have := HS0.out; omega) HZ0.out HQ.out.2.2.1 (by have := HQ.out.1; omega) HON0.out, same_setPtr _ _ _⟩
      have HMS := Lib.hid hms
      have HNE1 := Lib.hid hne1
      have HKK : Hid (MkK c kf w W2) := Lib.hid ((HK1.out.put hk2).file hk3)
      have HROW : Hid (W2.heap[g]? = some (.cells (nv (wayL b)).toArray 3 (0, 0))) := Lib.hid (hk3.blk (hk2.blk HNP.out.2 (fun e => HGK.out.1 e)) (fun e => HGK.out.2 e))
      have HW2 := Lib.hid hW2
      clear hsw2 hk2 hfi2 hset hk3 hms hne1 hW2 cp fp cs c0
      go_upto_region 7 with fail
      rw [← HW2.out]
      have cp : W2.cell? ⟨kf, 7 + t0, none⟩ = some (.int .i64 (a1 t0 : Int)) := by
        rw [blk_cells HMS.out.fi, filC_ptr _ _ _ HS0.out, HMS.out.tr.top t0 HS0.out]
      clear cp2 fp2
      go_upto_region 9 with fail
  case' inr =>
    have e0 : ((a t0 : Int) == 0) = false := beq_eq_false_iff_ne.2 (by omega)
    have e0' : ¬ (a t0 : Int) = 0 := by omega
    obtain ⟨W2, V1, m1, x1, a1, hW2, ha1, hne1, hms⟩ : ∃ W2 V1 m1 x1 a1, W2 = w' ∧ a1 t0 = a t0 ∧ a1 t0 ≠ 0 ∧ MS B c xs kf n base T (onWay b) V m x a V1 m1 x1 a1 W2 := ⟨w', V, m, x, a, rfl, rfl, by omega, HSW1.out, HFI1.out, HTR.out, Grow.refl _ _ _ _ _, SameN.refl _⟩
    rw [← ha1] at cp e0 e0'
    have HMS := Lib.hid hms
    have HNE1 := Lib.hid hne1
    have HKK : Hid (MkK c kf w W2) := Lib.hid (by rw [hW2]; exact HK1.out)
    have HROW : Hid (W2.heap[g]? = some (.cells (nv (wayL b)).toArray 3 (0, 0))) := Lib.hid (by rw [hW2]; exact HNP.out.2)
    have HW2 := Lib.hid hW2
    clear hz0 hms hne1 hW2 ha1
    go_upto_region 9 with fail
    rw [← HW2.out]
    have cp : W2.cell? ⟨kf, 7 + t0, none⟩ = some (.int .i64 (a1 t0 : Int)) := by
      rw [blk_cells HMS.out.fi, filC_ptr _ _ _ HS0.out, HMS.out.tr.top t0 HS0.out]
  all_goals
    try clear cs
    try clear c0
    try clear fp
    try clear e0'
    try clear e0
    go_wp2_with fail
    go_loopw [9, 51] (fun v9 v51 wr => MkI B c xs kf n base T V m x a b K g w v9 v51 wr) (fun _ v _ => K - (intOf v).toNat)
    case atStart => exact ⟨0, V1, m1, x1, a1, Nat.zero_le _, rfl, by rw [← HET.out], by rw [← HET.out]; exact HNE1.out, HMS.out, HKK.out, HROW.out⟩
    case round =>
      obtain ⟨k, V', m', x', a', hk, rfl, rfl, hne, hms, hkk, hrow⟩ := hrel
      have HMr := Lib.hid hms
      have HKr := Lib.hid hkk
      have HRr := Lib.hid hrow
      by_cases hlt : k < K
      · obtain ⟨y, hy, hy8, hp, hs⟩ := way_step HB.out (k := k) (by rw [← HLE.out]; have := HKE.out; omega)
        have ho1 := HO.out (by have := HKE.out; omega)
        subst ho1
        have hcy := HCW.out wr (k + 1) y hy hrow
        rw [Nat.add_comm k 1] at hcy
        have ga : (k : Int) < (K : Int) := by omega
        have g0 : (0 : Int) ≤ (k : Int) := by omega
        have gc : IntKind.i64.wrap ((k : Int) + 1) = (k : Int) + 1 := IntWalk.i64_in _ (by omega)
        have hq86 : stp b k < 86 := by unfold isP at hp; omega
        obtain ⟨r1, r2, _⟩ := hms.tr.rng _ hq86 hne
        have HRNG := Lib.hid (show 43 ≤ a' (stp b k) ∧ a' (stp b k) < c.N from ⟨r1, r2⟩)
        have HPT := Lib.hid (pointers_file hms.sw hms.fi r1 r2 (hms.tr.p8 HN.out hp) (hms.tr.kid _ hp hne))
        obtain ⟨z, hz⟩ : ∃ z : Nat, z = a' (stp b k) := ⟨_, rfl⟩
        obtain ⟨u, hu⟩ : ∃ u : Nat, u = a' (stp b (k + 1)) := ⟨_, rfl⟩
        have hku : (kids a' (kb (stp b k)))[y]? = some u := by rw [kids_get a' _ hy8, hu, hs]
        rw [← hz] at HPT ⊢
        have HZ := Lib.hid hz
        have HU2 := Lib.hid hu
        have HKU := Lib.hid hku
        have HP := Lib.hid hp
        have HS := Lib.hid hs
        have HNE := Lib.hid hne
        have HY8 := Lib.hid hy8
        have y0 : (0 : Int) ≤ (y : Int) := by omega
        have y8 : (y : Int) < 8 := by omega
        clear hne hms hkk hrow hy hs hp hq86 r1 r2 hz hu hku hy8
        go_wp2_with fail
        refine HPT.out.mono ?_
        rintro r w5 ⟨g5, rfl, hnp5, hb5⟩
        have hc5 : w5.cell? ⟨g5, y, none⟩ = some (.int .i64 (u : Int)) := by
          rw [blk_cells hnp5.2, List.getElem?_toArray]
          unfold nv
          rw [List.getElem?_map, HKU.out]
          rfl
        have hf5 := blk_frees hnp5.2 y
        have HG5 : Hid (wr.heap.size ≤ g5) := Lib.hid hnp5.1
        have HR5 := Lib.hid hnp5.2
        have HM5 := Lib.hid (HMr.out.below hb5)
        have HK5 := Lib.hid (HKr.out.below hb5)
        have HW5 := Lib.hid ((Keep.of_below (S := fun _ => False) hb5).blk HRr.out id)
        have cs5 : w5.cell? ⟨kf, 0, none⟩ = some (.pointer (some ⟨c.p.k, 0, none⟩)) := (blk_cells (HMr.out.below hb5).fi 0).trans rfl
        have HGG : Hid (g5 ≠ g ∧ g5 ≠ kf ∧ g5 ≠ c.p.b ∧ w.heap.size ≤ g5) := Lib.hid ⟨fun e => by have := blk_lt HRr.out; have := hnp5.1; omega, fun e => blk_ne hnp5.2 HM5.out.fi (by decide) e, HM5.out.sw.b_ne hnp5.2, Nat.le_trans HKr.out.size hnp5.1⟩
        clear hnp5 hb5
        rcases Nat.eq_zero_or_pos u with hu0 | hu0
        · have e0 : ((u : Int) == 0) = true := by rw [hu0]; rfl
          have e0' : (u : Int) = 0 := by rw [hu0]; rfl
          have HT0' : Hid (a' (stp b (k + 1)) = 0) := Lib.hid (by rw [← HU2.out]; exact hu0)
          clear hu0
          rcases ff_or m' c.N with ⟨q, hq⟩ | hno
          · have hU1 := HUL.out (updF a' (stp b (k + 1)) q)
            have htm : stp b (k + 1) ∈ T := HTT.out (k + 1) (by rw [← HLE.out]; have := HKE.out; omega)
            have hmem : q ∈ base ++ T.map (updF a' (stp b (k + 1)) q) := List.mem_append_right _ (List.mem_map.2 ⟨_, htm, updF_same a' _ q⟩)
            have HTK := Lib.hid (wtake (HM5.out.sw.mono (base_grow (n := q) H0.out HT0'.out)) hU1 hmem (List.mem_append_left _ H34.out) hq)
            have HQ := Lib.hid hq
            clear hU1 hmem htm hq
            go_wp2_with fail
            refine HTK.out.mono ?_
            rintro r w6 ⟨rfl, hsw6, hk6⟩
            have hr6 := hk6.blk HR5.out (fun e => HGG.out.2.2.1 e)
            have hc6 : ∃ v, w6.cell? ⟨g5, y, none⟩ = some v := ⟨_, hk6.cell hc5 (fun e => HGG.out.2.2.1 e)⟩
            obtain ⟨v6, hc6⟩ := hc6
            have hf6 := blk_frees hr6 y
            obtain ⟨w7, hw7⟩ : ∃ w7, w7 = w6.setCell ⟨g5, y, none⟩ (.int .i64 (q : Int)) := ⟨_, rfl⟩
            have hk7 := keep_set w6 g5 y (.int .i64 (q : Int))
            have hr7 := blk_set hr6 (.int .i64 (q : Int)) (j := y)
            rw [← hw7] at hk7 hr7
            have hnv : (nv (kids a' (kb (stp b k)))).toArray.setIfInBounds y (.int .i64 (q : Int)) = (nv (kids (updF a' (stp b (k + 1)) q) (kb (stp b k)))).toArray := by
              rw [HS.out, ← kids_set a' _ HY8.out q, ← nv_set]
              simp
            rw [hnv] at hr7
            have hsw7 := hsw6.row hr6 hk7
            have hfi7 := (HM5.out.fi.keep hk6 (fun e => HM5.out.sw.b_ne HM5.out.fi e)).keep hk7 (fun e => HGG.out.2.1 e.symm)
            have htr := HM5.out.tr.addKid HP.out HY8.out HNE.out (by rw [← HS.out]; exact HT0'.out) HQ.out.1 HQ.out.2.1 HQ.out.2.2.1
            have hgr := HM5.out.gr.trans (grow_kid HM5.out.tr HP.out HNE.out (t := stp b (k + 1)) (by
              rw [HS.out]; exact kb_lt HP.out HY8.out) HT0'.out HQ.out.2.2.1 (by have := HQ.out.1; omega) (S := onWay b) ⟨k + 1, by rw [← HLE.out]; have := HKE.out; omega, rfl⟩ (treeE (kids (updF a' (stp b (k + 1)) q) (kb (stp b k))))) HM5.out.tr (fun _ h => h) (fun _ h => h)
            rw [← HS.out] at htr
            have hp8 := htr.p8 HN.out HP.out
            have hne2 : stp b k ≠ stp b (k + 1) := fun e => HNE.out (by rw [e]; exact HT0'.out)
            have hzm : z ∈ base ++ T.map (updF a' (stp b (k + 1)) q) := List.mem_append_right _ (List.mem_map.2 ⟨stp b k, HTT.out k (by rw [← HLE.out]; have := HKE.out; omega), by rw [updF_ne _ _ hne2, ← HZ.out]⟩)
            have hU2 := HUL.out (updF a' (stp b (k + 1)) q)
            have hsl7 := (show NvP 0 _ g5 w7 from ⟨Nat.zero_le _, hr7⟩).sl
            rw [kids_len] at hsl7
            have HPO := Lib.hid (point_walk hsw7 hfi7 (by omega) hzm (by rw [HZ.out]; exact HRNG.out.1) (by rw [HZ.out]; exact HRNG.out.2) hp8 _ _ hsl7)
            have HFI7 := Lib.hid hfi7
            have HR7 := Lib.hid hr7
            have HTR7 := Lib.hid htr
            have HGR7 := Lib.hid hgr
            have HK7 := Lib.hid ((HK5.out.put hk6).new HGG.out.2.2.2 hk7)
            have HRW7 := Lib.hid (hk7.blk (hk6.blk HW5.out (fun e => HGK.out.1 e)) (fun e => HGG.out.1 e.symm))
            have HWW7 := Lib.hid hw7
            have HB7 : Hid (kf ≠ c.p.b) := Lib.hid (HM5.out.sw.b_ne HM5.out.fi)
            clear hsw6 hk6 hr6 hk7 hr7 hnv hsw7 hfi7 htr hgr hp8 hne2 hzm hU2 hsl7 hw7
            go_upto_region 18 with fail
            rw [← HWW7.out]
            go_wp2_with fail
            refine HPO.out.mono ?_
            rintro r w8 ⟨rfl, hsw8, hk8⟩
            have hr8 := hk8.blk HR7.out (fun e => HGG.out.2.2.1 e)
            have hc8 : w8.cell? ⟨g5, y, none⟩ = some (.int .i64 (q : Int)) := by
              rw [blk_cells hr8, List.getElem?_toArray]
              unfold nv
              rw [List.getElem?_map, kids_get _ _ HY8.out, ← HS.out, updF_same]
              rfl
            have HR9 : Hid (MkI B c xs kf n base T V m x a b K g w (.int .i64 (q : Int)) (.int .i64 ((k : Int) + 1)) w8) := Lib.hid ⟨k + 1, _, _, x', updF a' (stp b (k + 1)) q, hlt, by rw [Int.natCast_add]; rfl, by rw [updF_same], by rw [updF_same]; have := HQ.out.1; omega, ⟨hsw8, HFI7.out.keep hk8 (fun e => HB7.out e), by rw [HZ.out]; exact HTR7.out, by rw [HZ.out]; exact HGR7.out, HM5.out.nd⟩, HK7.out.put hk8, hk8.blk HRW7.out (fun e => HGK.out.1 e)⟩
            clear hsw8 hk8 hr8
            go_wp2_with fail
            go_roundw
            case rel => exact HR9.out
            case measure => simp only [intOf]; omega
          · have HTN := Lib.hid (wtake_none HM5.out.sw hno)
            have HNO := Lib.hid hno
            clear hno
            go_wp2_with fail
            refine HTN.out.mono ?_
            rintro r w6 ⟨rfl, hb6⟩
            have hr6 := (Keep.of_below (S := fun _ => False) hb6).blk HR5.out id
            have hc6 := (Keep.of_below (S := fun _ => False) hb6).cell hc5 id
            have hf6 := blk_frees hr6 y
            have hk7 := keep_set w6 g5 y (.int .i64 0)
            have HFIN : Hid (MaP B c xs kf n base T V m x a b w (.returned (.tuple #[.int .i64 0, .int .i64 10])) (w6.setCell ⟨g5, y, none⟩ (.int .i64 0))) := Lib.hid ⟨V', m', x', a', ⟨(HM5.out.sw.below hb6).row hr6 hk7, (HM5.out.fi.below hb6).keep hk7 (fun e => HGG.out.2.1 e.symm), HM5.out.tr, HM5.out.gr, HM5.out.nd⟩, (HK5.out.below hb6).new HGG.out.2.2.2 hk7, .inr ⟨rfl, HNO.out, way_none HM5.out.tr HB.out (k := k + 1) (by rw [← HLE.out]; have := HKE.out; omega) HT0'.out⟩⟩
            clear hb6 hr6 hk7
            go_wp2
            go_ret2
            exact HFIN.out
        · have e0 : ((u : Int) == 0) = false := beq_eq_false_iff_ne.2 (by omega)
          have e0' : ¬ (u : Int) = 0 := by omega
          have HR9 : Hid (MkI B c xs kf n base T V m x a b K g w (.int .i64 (u : Int)) (.int .i64 ((k : Int) + 1)) w5) := Lib.hid ⟨k + 1, V', m', x', a', hlt, by rw [Int.natCast_add]; rfl, by rw [HU2.out], by rw [← HU2.out]; omega, HM5.out, HK5.out, HW5.out⟩
          clear hu0
          go_wp2_with fail
          go_roundw
          case rel => exact HR9.out
          case measure => simp only [intOf]; omega
      · obtain rfl : k = K := by omega
        have ga : ¬ (k : Int) < (k : Int) := by omega
        have hend := way_end (b := b) (k := k) (by rw [← HLE.out]; have := HKE.out; omega)
        rw [hend] at hne ⊢
        have HFIN : Hid (MaP B c xs kf n base T V m x a b w (.returned (.tuple #[.int .i64 (a' (sb b) : Int), .int .i64 0])) wr) := Lib.hid ⟨V', m', x', a', hms, hkk, .inl ⟨rfl, hne⟩⟩
        clear hne hms hkk hrow hend
        go_wp2
        go_ret2
        exact HFIN.out
end Go.Proofs.YtehfoopefefpnaaGreat
/- Package drive and store: Get, and whose the bytes are that it tells. -/
set_option linter.unusedSimpArgs false
set_option linter.unusedVariables false
namespace Go.Proofs.YtehfoopefefpnaaGreat
open Go.RowKit Go.Shelf

attribute [local go_sem ↓] Go.wp_at_zero Go.wp_at_succ
set_option maxRecDepth 100000 in
set_option maxHeartbeats 4000000 in
theorem dget_own (B k : Nat) (s : DrS) (w : World) (A : Option Addr) (c : Nat) (lc : Nat) (h : DR B k s w A c none lc) (ho : s.ok) (hl : s.list = []) (hd : s.dead = false) (i : Nat) (b : List UInt8) (hb : s.sure[i]? = some b) :
    Calls Tryz.prog 66 #[.pointer (some ⟨k, 0, none⟩), .int .i64 (i : Int)] w fun e w' => ∃ g, e = .returned (.tuple #[.slice (some ⟨g, 0, none⟩) 128 128, .int .i64 0]) ∧ w'.heap[g]? = some (.cells (bv b).toArray 119 (0, 0)) ∧ w.heap.size ≤ g ∧ Below w.heap.size w w' := by
  obtain ⟨g, rfl, hr⟩ := h.range ho hb
  rw [Nat.mul_comm] at hr
  have hbl : b.length = 128 := ho.each b (List.mem_of_getElem? hb)
  have hi : i < s.sure.length := (List.getElem?_eq_some_iff.1 hb).1
  have hlen := ho.len
  have HRD := Lib.hid (fun (W : World) (hW : Below w.heap.size w W) => (ready_walk B k s W (some ⟨g, 0, none⟩) c none lc (h.below hW)).mono (fun e w' q => (show e = .returned (.int .i64 0) ∧ w' = W from by rw [hd] at q; exact q)))
  obtain ⟨m, hm⟩ : ∃ m, m = s.sure.length := ⟨_, rfl⟩
  have hblk := h.blk
  rw [hl, ← hm] at hblk
  rw [← hm] at hi hlen
  have B0 := Lib.hid ((Below.refl w.heap.size w).alloc (Nat.le_refl _) (.cells #[.int .i64 (i : Int)] 3))
  have HX0 := Lib.hid (blk_new w (.cells #[.int .i64 (i : Int)] 3))
  have k0 := (Keep.of_below (S := fun _ => False) B0.out)
  have HK := Lib.hid (k0.blk hblk id)
  have HR := Lib.hid (show (w.alloc (.cells #[.int .i64 (i : Int)] 3)).rangeAt g (i * 128) (bv b) from World.rangeAt_alloc hr _)
  have g0 : ¬ (i : Int) < 0 := by omega
  have g1 : (i : Int) < (m : Int) := by omega
  have d0 : decide ((i : Int) < 0) = false := decide_eq_false g0
  have d1 : decide ((m : Int) ≤ (i : Int)) = false := decide_eq_false (by omega)
  have HBL := Lib.hid hbl
  clear h ho hl hd hb hr hbl hm hblk k0 hlen
  refine callsIn_wide.1 (callsIn_of_wp_marks (F := Fence.wide) (n := 8) Tryz.func66 rfl trivial ?_ rfl)
  simp only [Tryz.ntmps66, List.size_toArray, List.length_cons, List.length_nil, Nat.reduceAdd, Nat.reduceSub, Array.replicate_succ, Array.replicate_zero, List.push_toArray, List.append_toArray, List.nil_append, List.cons_append]
  refine wpIn_wide.2 ?_
  go_wp2_with fail
  obtain ⟨w0, hw0⟩ : ∃ w0, w0 = w.alloc (.cells #[.int .i64 (i : Int)] 3) := ⟨_, rfl⟩
  have HRD0 := Lib.hid (HRD.out _ B0.out)
  rw [← hw0] at HRD0 HX0 HK HR B0 ⊢
  clear hw0
  with_reducible refine HRD0.out.mono ?_
  rintro e w1 ⟨rfl, hw1⟩
  subst hw1
  have cn : w1.cell? ⟨w.heap.size, 0, none⟩ = some (.int .i64 (i : Int)) := (blk_cells HX0.out 0).trans rfl
  have ck : w1.cell? ⟨k, 0, none⟩ = some (.slice (some ⟨g, 0, none⟩) m c) := (blk_cells HK.out 0).trans rfl
  go_upto_region 4 with fail
  go_quiet (fail)
  go_upto_region 6 with fail
  obtain ⟨U, hU⟩ : ∃ U, U = w1.drewN nq := ⟨_, rfl⟩
  rw [← hU]
  have hkU : Keep (fun _ => False) w1 U := by rw [hU]; exact (Keep.refl _ w1).drewN nq
  have HBU := Lib.hid (B0.out.trans ((hkU.to_below).mono B0.out.size))
  have hnU := hkU.blk HX0.out id
  have hdU := hkU.blk HK.out id
  have hrU : U.rangeAt g (i * 128) (bv b) := fun j v hv => hkU.cell (HR.out j v hv) id
  have HS : Hid (∀ W : World, Below U.heap.size U W → W.cell? ⟨w.heap.size, 0, none⟩ = some (.int .i64 (i : Int)) ∧ W.cell? ⟨k, 0, none⟩ = some (.slice (some ⟨g, 0, none⟩) m c) ∧ W.rangeAt g (i * 128) (bv b)) := Lib.hid (fun W hW => ⟨(blk_cells ((Keep.of_below (S := fun _ => False) hW).blk hnU id) 0).trans rfl, (blk_cells ((Keep.of_below (S := fun _ => False) hW).blk hdU id) 0).trans rfl, fun j v hv => (Keep.of_below (S := fun _ => False) hW).cell (hrU j v hv) id⟩)
  have HD0 := Lib.hid ((Below.refl U.heap.size U).drew)
  have HDA := Lib.hid ((((Below.refl U.heap.size U).alloc (Nat.le_refl _) (.cells Tryz.zeroCells119 119)).drew))
  have HDS := Lib.hid (below_setCells (bv b) 0 HDA.out (Nat.le_refl U.heap.size))
  have h1v := bv_one b
  have htt := zero_there U b HBL.out
  have rd := HS.out _ HD0.out
  have infS : (Tryz.prog.info? 119).map (·.size) = some (bv b).length := by rw [bv_length, HBL.out]; kernel_rfl
  have undA : Tryz.prog.underlying 119 = some (.array 128 5) := by kernel_rfl
  have hld : ∀ W : World, (W.cell? ⟨w.heap.size, 0, none⟩ = some (.int .i64 (i : Int)) ∧ W.cell? ⟨k, 0, none⟩ = some (.slice (some ⟨g, 0, none⟩) m c) ∧ W.rangeAt g (i * 128) (bv b)) → (Instr.loadAt 119 (.pointer (some ⟨g, i * 128, none⟩))).run Tryz.prog W = .ok (.agg (bv b).toArray) W := fun W hW => run_loadAt_mid W g (i * 128) _ _ _ hW.2.2 undA rfl infS
  have HDU := Lib.hid hdU
  clear hU hkU hnU hdU hrU cn ck hld
  go_region_held3 (fun W => W.cell? ⟨w.heap.size, 0, none⟩ = some (.int .i64 (i : Int)) ∧ W.cell? ⟨k, 0, none⟩ = some (.slice (some ⟨g, 0, none⟩) m c) ∧ W.rangeAt g (i * 128) (bv b)) (first | with_reducible exact HS.out _ HD0.out | with_reducible exact HS.out _ HDA.out | with_reducible exact HS.out _ HDS.out) (first | (fail))
  obtain ⟨W2, hW2⟩ : ∃ W2, W2 = (U.alloc (.cells Tryz.zeroCells119 119)).drew.setCells U.heap.size 0 (bv b) := ⟨_, rfl⟩
  rw [← hW2] at HDS ⊢
  have hr2 : W2.heap[U.heap.size]? = some (.cells (bv b).toArray 119 (0, 0)) := by
    rw [hW2, ← setW_cells]
    have hz : (U.alloc (.cells Tryz.zeroCells119 119)).drew.heap[U.heap.size]? = some (.cells Tryz.zeroCells119 119 (0, 0)) := blk_new U _
    rw [setW_blk (bv b) 0 hz, arrW_all _ _ (by rw [bv_length, HBL.out, zero_size])]
  have hk2 := (Keep.of_below (S := fun _ => False) HDS.out).blk HDU.out id
  have ck1 : W2.cell? ⟨k, 1, none⟩ = some (.slice none 0 lc) := (blk_cells hk2 1).trans rfl
  have HR2 := Lib.hid hr2
  have HB2 := Lib.hid (HBU.out.trans (HDS.out.mono HBU.out.size))
  have HUW : Hid (w.heap.size ≤ U.heap.size ∧ U.heap.size < W2.heap.size) := Lib.hid ⟨HBU.out.size, blk_lt hr2⟩
  clear hW2 hr2 hk2 htt h1v infS undA HS HD0 HDA rd
  go_wp2_with fail
  refine (callsIn_wide.1 (wback_in Fence.wide 8 trivial rfl none 0 lc W2)).mono ?_
  rintro e w' ⟨rfl, rfl⟩
  go_wp2_with fail
  refine (wpIn_wide (n := 8)).1 ?_
  gi_wp2_with fail
  have HZ : Hid ((W2.alloc (.cells #[.slice none 0 lc] 111)).heap.size = W2.heap.size + 1) := Lib.hid (by simp)
  refine wpIn_rangeFunc_ownG (α := Fin 0) rfl (by omega) (gf := 132) (lb := #[.pointer (some ⟨W2.heap.size, 0, none⟩)]) rfl trivial (enters_of Tryz.func132 (by kernel_rfl) rfl)
    (wback_stops Fence.wide (8 - 1) trivial rfl W2.heap.size lc none (fun k => W2.heap.size + 1 ≤ k) (W2.alloc (.cells #[.slice none 0 lc] 111)) (by simp) ((blk_cells (blk_new W2 _) 0).trans rfl))
    (fun h k => h.trans k (fun _ _ h => h)) (fun W l o o' hl _ _ _ => keep_putObj o' (by have := HZ.out; omega)) (Below.refl _ _) (fun x => x.elim0)
    (fun _ W => Below w.heap.size w W ∧ W.heap[U.heap.size]? = some (.cells (bv b).toArray 119 (0, 0))) (fun _ _ _ => False) (OwnFrom.and (ownFrom_below (Nat.le_refl _) (by have := HZ.out; have := HB2.out.size; omega)) (fun _ X Y row hs hg hr => (Keep.of_grown hg).blk hs (fun e => by have e' := (hr _ e).1; have e'' : (W2.alloc (.cells #[.slice none 0 lc] 111)).heap.size ≤ U.heap.size := e'; have := HZ.out; have := HUW.out; omega))) (fun c => fun _ _ _ _ h => h.elim) ?h0
    (fun x => x.elim0) ?assign ?body ?done ?stop
  case h0 => exact ⟨HB2.out.alloc HB2.out.size _, blk_old HR2.out _⟩
  case assign => intro l x; exact x.elim0
  case body => intro l pre x; exact x.elim0
  case stop =>
    rintro D cc pre W hD _ h _
    exact h.elim
  case done =>
    rintro D ys W hD rfl ⟨hB, hr⟩ hK
    have HB := Lib.hid hB
    have HRW := Lib.hid hr
    have HK := Lib.hid hK
    have HD := Lib.hid hD
    clear hB hr hK hD
    go_wp2
    refine ⟨by simp, .inl ⟨_, _, rfl, run_takeDeferred HK.out, ?_⟩⟩
    have hb := belowK_b (w := W2.alloc (.cells #[.slice none 0 lc] 111)) (Nat.le_refl _) W D _ (.deferred none) HD.out HK.out rfl rfl
    have hblk : (W.putObj D (.deferred none)).heap[U.heap.size]? = some (.cells (bv b).toArray 119 (0, 0)) := (Keep.of_belowB (S := fun i => W2.heap.size + 1 ≤ i) hb (fun i _ h => by have := HZ.out; omega)).blk HRW.out (by have := HUW.out; show ¬ W2.heap.size + 1 ≤ U.heap.size; omega)
    refine ⟨.tuple #[.slice (some ⟨U.heap.size, 0, none⟩) 128 128, .int .i64 0], ?_, U.heap.size, rfl, hblk, HUW.out.1, HB.out.trans (hb.mono (by have := HZ.out; have := HB2.out.size; omega))⟩
    simp [results, Tryz.f66, go_sem]
/-- Bytes that one may write over: in a block that is new. -/
def GwP (d : List UInt8) (w : World) (r : Ending) (w' : World) : Prop := ∃ (g : Nat) (cur : Array Value) (t : TypeId), r = .returned (.tuple #[.slice (some ⟨g, 0, none⟩) 128 128, .int .i64 0]) ∧ w.heap.size ≤ g ∧ w'.heap[g]? = some (.cells cur t (0, 0)) ∧ cur.toList.take 128 = bv d ∧ Below w.heap.size w w'
set_option maxHeartbeats 1000000 in
theorem sget_own (B : Nat) (p : StP) (s : StS) (w : World) (h : ST B p s w) (hs : s.ok) (n : Nat) (hn : n ≤ 1000000000) (d : List UInt8) (hd : viewS s n = some d) :
    Calls Tryz.prog 30 #[.pointer (some ⟨p.k, 0, none⟩), .int .i64 (n : Int)] w (GwP d w) := by
  have HL := Lib.hid (live_walk B p s w h)
  have hl := view_len hs hd
  have c0 : w.cell? ⟨p.k, 0, none⟩ = some (.pointer (some ⟨p.kd, 0, none⟩)) := (blk_cells h.blk 0).trans rfl
  have c4 : w.cell? ⟨p.k, 4, none⟩ = some (.map (some p.b)) := (blk_cells h.blk 4).trans rfl
  have hlk := h.will.look hn
  unfold viewS at hd
  cases hg : getW n s.will with
  | some e =>
    rw [hg] at hd hlk
    injection hd with hd
    subst hd
    have hq : (.tuple #[((some e : Option WE).map WE.val).getD (.slice none 0 0), .bool (some e : Option WE).isSome] : Value) = .tuple #[.slice e.A 128 e.c, .bool true] := by
      show (.tuple #[.slice e.A e.d.length e.c, .bool true] : Value) = _
      rw [hl]
    rw [hq] at hlk
    have hnb := h.data e (getW_mem hg).1
    have HCL := Lib.hid (clone_walk e.d e.A e.c w hnb.sl (by omega))
    rw [hl] at HCL
    have HLL := Lib.hid hl
    clear h hs hg hnb hq
    go_enter Tryz.func30, Tryz.ntmps30
    go_wp2_with fail
    refine HL.out.mono ?_
    rintro r w' ⟨rfl, rfl⟩
    go_wp2_with fail
    refine HCL.out.mono ?_
    rintro r w1 ⟨A', c', rfl, hob, hb⟩
    obtain ⟨g, cap, cur, e2, hgb, hle, _, _, htk⟩ := own_form hob.own (by rw [HLL.out]; decide)
    injection e2 with e2 _ e3
    subst e2 e3
    rw [HLL.out] at hle htk
    have HCP := Lib.hid (clip_walk (some ⟨g, 0, none⟩) 128 c' w1 hle (fun e => by cases e) (by omega))
    have HFIN : Hid (GwP e.d w' (.returned (.tuple #[.slice (some ⟨g, 0, none⟩) 128 128, .int .i64 0])) w1) := Lib.hid ⟨g, cur, _, rfl, hob.fresh g rfl, hgb, by simpa using htk, hb⟩
    clear hob hb hgb hle htk hl
    go_wp2_with fail
    refine HCP.out.mono ?_
    rintro r w2 ⟨rfl, hw2⟩
    subst hw2
    go_wp2
    go_ret2
    exact HFIN.out
  | none =>
    rw [hg] at hd hlk
    have HG := Lib.hid (dget_own B p.kd s.d w _ p.c 0 h.drv hs.on.ok hs.on.list hs.on.dead n d hd)
    have HS := Lib.hid (fun W => seen_walk p.k 0 (by decide) W)
    replace hlk : (Instr.lookup 89 (.map (some p.b)) (.int .i64 (n : Int)) true).run Tryz.prog w = .ok (.tuple #[.slice none 0 0, .bool false]) w := hlk
    have HLL := Lib.hid hl
    clear h hs hg hd hl
    go_enter Tryz.func30, Tryz.ntmps30
    go_wp2_with fail
    refine HL.out.mono ?_
    rintro r w' ⟨rfl, rfl⟩
    go_wp2_with fail
    refine HG.out.mono ?_
    rintro r w1 ⟨g, rfl, h1, h2, hb⟩
    have HFIN : Hid (GwP d w' (.returned (.tuple #[.slice (some ⟨g, 0, none⟩) 128 128, .int .i64 0])) w1) := Lib.hid ⟨g, _, _, rfl, h2, h1, by
      show (bv d).take 128 = bv d
      exact List.take_of_length_le (by rw [bv_length, HLL.out]; exact Nat.le_refl _), hb⟩
    clear h1 h2 hb
    go_wp2_with fail
    refine (HS.out _).mono ?_
    rintro r w2 ⟨rfl, hw2⟩
    subst hw2
    go_wp2
    go_ret2
    exact HFIN.out
theorem wgetO {B : Nat} {c : SWc} {V : Nat → List UInt8} {m : Nat → Bool} {xs : Nat → NoS} {U : List Nat} {w : World} (h : SW B c V m xs U w) {n : Nat} (h1 : 43 ≤ n) (h2 : n < c.N) :
    Calls Tryz.prog 30 #[.pointer (some ⟨c.p.k, 0, none⟩), .int .i64 (n : Int)] w (GwP (V n) w) := by
  obtain ⟨s, hst, hs, _⟩ := h
  have := hs.le
  exact sget_own B c.p s w hst hs.ok n (by omega) (V n) (hs.view n h1 h2)
end Go.Proofs.YtehfoopefefpnaaGreat
/- Package space: save; parts of slices. -/
set_option linter.unusedSimpArgs false
set_option linter.unusedVariables false
namespace Go.Proofs.YtehfoopefefpnaaGreat
open Go.RowKit

attribute [local go_sem ↓] Go.wp_at_zero Go.wp_at_succ
theorem slice_from {w : World} {A : Option Addr} {n c f : Nat} {d : List UInt8} (h : Sl w 1 (.slice A n c) n (bv d)) (hn : 0 < n) (hf : f ≤ n) :
    ∃ A', (∀ W, (Instr.slice 22 (.slice A n c) (some (.int .i64 (f : Int))) none none).run Tryz.prog W = .ok (.slice A' (n - f) (c - f)) W) ∧ Sl w 1 (.slice A' (n - f) (c - f)) (n - f) (bv (d.drop f)) ∧ A'.map (·.block) = A.map (·.block) := by
  obtain ⟨A0, c0, e, hr, hA, hc, hl⟩ := h
  injection e with e1 e2 e3
  subst e1 e3
  have hd : d.length = n := by rw [bv_length, Nat.mul_one] at hl; exact hl
  cases A with
  | none => have := (hA rfl).1; omega
  | some ad =>
    have hl2 : (bv (d.drop f)).length = (n - f) * 1 := by rw [bv_length, List.length_drop, hd, Nat.mul_one]
    by_cases hcf : c = f
    · have hnf : n = f := by omega
      refine ⟨some ad, fun W => ?_, ⟨_, _, rfl, .inl ?_, (fun e => by cases e), by omega, hl2⟩, rfl⟩
      · subst hcf
        subst hnf
        have i0 : (0 : Int) ≤ (n : Int) := by omega
        simp [go_sem, i0]
      · rw [bv_eq_nil, List.drop_eq_nil_iff]
        omega
    · have hkey : ∀ W, (Instr.slice 22 (.slice (some ad) n c) (some (.int .i64 (f : Int))) none none).run Tryz.prog W = .ok (.slice (some (ad.add f)) (n - f) (c - f)) W := fun W => by
        have i0 : (0 : Int) ≤ (f : Int) := by omega
        have i1 : (f : Int) ≤ (n : Int) := by omega
        have i2 : (n : Int) ≤ (c : Int) := by omega
        have i3 : ¬ c = f := hcf
        simp [go_sem, i0, i1, i2, i3]
      refine ⟨some (ad.add f), hkey, ⟨_, _, rfl, ?_, (fun e => by cases e), by omega, hl2⟩, ?_⟩
      · rcases hr with h0 | ⟨ad', e', hcs⟩
        · left
          rw [bv_eq_nil] at h0 ⊢
          rw [h0]; simp
        · have e' := Option.some.inj e'
          subst e'
          right
          refine ⟨_, rfl, fun j u hu => ?_⟩
          rw [Go.Deep.add_add]
          apply hcs
          unfold bv at hu ⊢
          rw [List.map_drop, List.getElem?_drop] at hu
          exact hu
      · have : (ad.add f).block = ad.block := by unfold Addr.add; split <;> rfl
        show some (ad.add f).block = some ad.block
        rw [this]
/-- A part of 128 bytes of one's own. -/
theorem slice_part (g f t : Nat) (h1 : f < t) (h2 : t ≤ 128) (W : World) : (Instr.slice 22 (.slice (some ⟨g, 0, none⟩) 128 128) (some (.int .i64 (f : Int))) (some (.int .i64 (t : Int))) none).run Tryz.prog W = .ok (.slice (some ⟨g, f, none⟩) (t - f) (128 - f)) W := by
  have i0 : (0 : Int) ≤ (f : Int) := by omega
  have i1 : (f : Int) ≤ (t : Int) := by omega
  have i2 : (t : Int) ≤ 128 := by omega
  have i3 : ¬ 128 = f := by omega
  have i4 : (0 : Int) ≤ (t : Int) := by omega
  simp [go_sem, i0, i1, i2, i3, i4]
/-- A node's fields but for its pointers. -/
def NoS.tick (x : NoS) : NoS := { x with change := min (x.change + 1) 1073741824 }
theorem filC_tick (k n : Nat) (x : NoS) : (filC k n x).setIfInBounds 6 (.int .i64 ((min (x.change + 1) 1073741824 : Nat) : Int)) = filC k n x.tick := rfl
set_option maxRecDepth 100000 in
set_option maxHeartbeats 2000000 in
theorem save_walk {B : Nat} {c : SWc} {V : Nat → List UInt8} {m : Nat → Bool} {xs : Nat → NoS} {U : List Nat} {w : World} (h : SW B c V m xs U w) {kf n : Nat} {x : NoS} (hf : FI c.p.k kf n x w) (hn : n < 32) (hx : x.tick.ok) (hch : x.change ≤ 1073741824) (hU : U.length ≤ 24) (hm : 35 + n / 4 ∈ U) :
    Calls Tryz.prog 37 #[.pointer (some ⟨kf, 0, none⟩)] w fun e w' => e = .returned (.int .i64 0) ∧ SW B c V m (updF xs n x.tick) U w' ∧ FI c.p.k kf n x.tick w' ∧ MkK c kf w w' := by
  obtain ⟨ch, hch'⟩ : ∃ z : Int, z = (x.change : Int) := ⟨_, rfl⟩
  obtain ⟨t, ht⟩ : ∃ z : Int, z = ((min (x.change + 1) 1073741824 : Nat) : Int) := ⟨_, rfl⟩
  have c6 : w.cell? ⟨kf, 6, none⟩ = some (.int .i64 ch) := by rw [hch']; exact (blk_cells hf 6).trans rfl
  have f6 := blk_frees hf 6
  have g1 : IntKind.i64.wrap (ch + 1) = ch + 1 := IntWalk.i64_in _ (by omega)
  have g2 : min (ch + 1) 1073741824 = t := by rw [ht]; exact min_cast _ _ _ _ (by rw [hch']; rfl) rfl
  obtain ⟨w1, hw1⟩ : ∃ w1, w1 = w.setCell ⟨kf, 6, none⟩ (.int .i64 t) := ⟨_, rfl⟩
  have hk1 := keep_set w kf 6 (.int .i64 t)
  have hf1 : FI c.p.k kf n x.tick w1 := by
    rw [hw1]
    unfold FI
    rw [blk_set hf (.int .i64 t) (j := 6), ht, filC_tick]
  rw [← hw1] at hk1
  have hsw1 := h.file hf hk1
  have hv : x.tick.val = .agg #[.int .i64 (x.tick.kind : Int), .int .i64 (x.tick.links : Int), .int .i64 (x.tick.gen : Int), .int .i64 (x.tick.size : Int), .int .i64 (x.tick.change : Int), .int .i64 (x.tick.p0 : Int), .int .i64 (x.tick.p1 : Int), .int .i64 (x.tick.p2 : Int), .int .i64 (x.tick.p3 : Int), .int .i64 (x.tick.one : Int), .int .i64 (x.tick.two : Int)] := rfl
  have hsn := wsetn (show SW B c V m xs U w1.drew from hsw1.below (Below.refl _ _).drew) hU hn hm hx
  obtain ⟨y, hy⟩ : ∃ y, y = x.tick := ⟨_, rfl⟩
  rw [← hy] at hf1 hv hsn ⊢
  rw [hv] at hsn
  have HSN := Lib.hid hsn
  have HF1 := Lib.hid hf1
  have HK1 := Lib.hid hk1
  have HW1 := Lib.hid hw1
  have HB : Hid (kf ≠ c.p.b) := Lib.hid (h.b_ne hf)
  have cc := blk_cells hf1
  have c0 := (cc 0).trans (show _ = some (.pointer (some ⟨c.p.k, 0, none⟩)) from rfl)
  have c1 := (cc 1).trans (show _ = some (.int .i64 (n : Int)) from rfl)
  have d0 := (cc 2).trans (show _ = some (.int .i64 (y.kind : Int)) from rfl)
  have d1 := (cc 3).trans (show _ = some (.int .i64 (y.links : Int)) from rfl)
  have d2 := (cc 4).trans (show _ = some (.int .i64 (y.gen : Int)) from rfl)
  have d3 := (cc 5).trans (show _ = some (.int .i64 (y.size : Int)) from rfl)
  have d4 := (cc 6).trans (show _ = some (.int .i64 (y.change : Int)) from rfl)
  have d5 := (cc 7).trans (show _ = some (.int .i64 (y.p0 : Int)) from rfl)
  have d6 := (cc 8).trans (show _ = some (.int .i64 (y.p1 : Int)) from rfl)
  have d7 := (cc 9).trans (show _ = some (.int .i64 (y.p2 : Int)) from rfl)
  have d8 := (cc 10).trans (show _ = some (.int .i64 (y.p3 : Int)) from rfl)
  have d9 := (cc 11).trans (show _ = some (.int .i64 (y.one : Int)) from rfl)
  have d10 := (cc 12).trans (show _ = some (.int .i64 (y.two : Int)) from rfl)
  clear h hf hx hch hU hm hch' ht hw1 hk1 hf1 hsw1 hv hsn cc hy
  go_enter Tryz.func37, Tryz.ntmps37
  go_upto_region 2 with fail
  rw [← HW1.out]
  clear c6 f6
  go_region_law (first | (go_simp; go_at_call 44; refine HSN.out.mono ?_; rintro r w2 ⟨rfl, hsw2, hk2⟩; have HSW2 := Lib.hid hsw2; have HK2 := Lib.hid hk2; clear hsw2 hk2))
  all_goals
    go_wp2
    go_ret
    exact ⟨rfl, HSW2.out, (show FI c.p.k kf n y w1.drew from HF1.out).keep HK2.out (fun e => HB.out e), (MkK.file (Keep.refl _ _) HK1.out).put ⟨HK2.out.os, HK2.out.tape, HK2.out.output, HK2.out.size, HK2.out.block⟩⟩
end Go.Proofs.YtehfoopefefpnaaGreat
/- What Write does to a file's contents, plain; copy into a row of one's own. -/
set_option linter.unusedSimpArgs false
set_option linter.unusedVariables false
namespace Go.Proofs.YtehfoopefefpnaaGreat
open Go.RowKit

theorem TreeOk.putData {V : Nat → List UInt8} {m : Nat → Bool} {N : Nat} {x : NoS} {a : Nat → Nat} (h : TreeOk V m N x a) {t : Nat} (ht : t < 86) (hp : ¬ isP t) (h0 : a t ≠ 0) (d : List UInt8) : TreeOk (updF V (a t) d) m N x a := by
  refine ⟨h.inj, h.rng, h.top, fun q hq hz => ?_, h.none_⟩
  rw [updF_ne V d (fun e => ?_)]
  · exact h.kid q hq hz
  · have := h.inj q t (by unfold isP at hq; omega) ht e hz
    rw [this] at hq
    exact hp hq
theorem ct_put {V : Nat → List UInt8} {m : Nat → Bool} {N : Nat} {x : NoS} {a : Nat → Nat} (h : TreeOk V m N x a) {b : Nat} (hb : b < 76) (h0 : a (sb b) ≠ 0) (d : List UInt8) {k : Nat} (hk : k < 9728) : Ct (updF V (a (sb b)) d) a k = if k / 128 = b then d.getD (k % 128) 0 else Ct V a k := by
  unfold Ct
  by_cases e : k / 128 = b
  · rw [if_pos e, e, if_neg h0, updF_same]
  · rw [if_neg e]
    by_cases h1 : a (sb (k / 128)) = 0
    · rw [if_pos h1, if_pos h1]
    · rw [if_neg h1, if_neg h1, updF_ne V d (fun e' => e (sb_inj (by omega) hb (h.inj _ _ (sb_lt (by omega)) (sb_lt hb) e' h1)))]
theorem splice_get (d e : List UInt8) (o i : Nat) (h : o + e.length ≤ d.length) : (splice d o e).getD i 0 = if o ≤ i ∧ i < o + e.length then e.getD (i - o) 0 else d.getD i 0 := by
  have h1 : (d.take o).length = o := by rw [List.length_take]; omega
  unfold splice
  rw [List.getD_eq_getElem?_getD, List.getD_eq_getElem?_getD, List.getD_eq_getElem?_getD]
  by_cases h2 : i < o
  · rw [if_neg (by omega), List.getElem?_append_left (by rw [h1]; exact h2), List.getElem?_take_of_lt h2]
  · by_cases h3 : i < o + e.length
    · rw [if_pos ⟨by omega, h3⟩, List.getElem?_append_right (by rw [h1]; omega), h1, List.getElem?_append_left (by omega)]
    · rw [if_neg (by omega), List.getElem?_append_right (by rw [h1]; omega), h1, List.getElem?_append_right (by omega), List.getElem?_drop]
      congr 2
      omega
/-- What was written: bytes d from p on. -/
structure Wrt (N : Nat) (V : Nat → List UInt8) (m : Nat → Bool) (a : Nat → Nat) (V' : Nat → List UInt8) (m' : Nat → Bool) (a' : Nat → Nat) (S : Nat → Prop) (p : Nat) (d : List UInt8) : Prop where
  old : ∀ t, t < 86 → a t ≠ 0 → a' t = a t
  slots : ∀ t, t < 86 → a t = 0 → a' t ≠ 0 → S t
  new : ∀ t, t < 86 → a t = 0 → a' t ≠ 0 → m (a' t) = false
  mark : ∀ i, m' i = true ↔ (m i = true ∨ ∃ t, t < 86 ∧ a t = 0 ∧ a' t = i ∧ i ≠ 0)
  view : ∀ i, 43 ≤ i → i < N → m i = true → (∀ t, t < 86 → a t ≠ i) → V' i = V i
  ct : ∀ k, k < 9728 → Ct V' a' k = if p ≤ k ∧ k < p + d.length then d.getD (k - p) 0 else Ct V a k
theorem Wrt.start (N : Nat) (V : Nat → List UInt8) (m : Nat → Bool) (a : Nat → Nat) (S : Nat → Prop) (p : Nat) : Wrt N V m a V m a S p [] :=
  ⟨fun _ _ _ => rfl, fun t _ h h' => absurd h h', fun t _ h h' => absurd h h', (Grow.refl N V m a S).mark, fun _ _ _ _ _ => rfl, fun k _ => by rw [if_neg (by show ¬ (p ≤ k ∧ k < p + 0); omega)]⟩
theorem Wrt.grow {N : Nat} {V V1 V2 : Nat → List UInt8} {m m1 m2 : Nat → Bool} {a a1 a2 : Nat → Nat} {S T : Nat → Prop} {p : Nat} {d : List UInt8} {x1 : NoS} (h : Wrt N V m a V1 m1 a1 S p d) (k : Grow N V1 m1 a1 V2 m2 a2 T) (ht : TreeOk V1 m1 N x1 a1) (hT : ∀ t, T t → S t) : Wrt N V m a V2 m2 a2 S p d := by
  refine ⟨fun t h8 h0 => ?_, fun t h8 h0 h2 => ?_, fun t h8 h0 h2 => ?_, fun i => ⟨fun hi => ?_, fun hi => ?_⟩, fun i h1 h2 hm hp => ?_, fun i hi => ?_⟩
  · have e := h.old t h8 h0
    rw [k.old t h8 (by rw [e]; exact h0), e]
  · by_cases h1 : a1 t = 0
    · exact hT t (k.slots t h8 h1 h2)
    · exact h.slots t h8 h0 h1
  · by_cases h1 : a1 t = 0
    · have := k.new t h8 h1 h2
      cases hm : m (a2 t) with
      | false => rfl
      | true =>
        have h3 := (h.mark (a2 t)).2 (.inl hm)
        rw [h3] at this
        cases this
    · rw [k.old t h8 h1]
      exact h.new t h8 h0 h1
  · rcases (k.mark i).1 hi with hi | ⟨t, h8, h0, h1, h2⟩
    · rcases (h.mark i).1 hi with hi | ⟨t, h8, h0, h1, h2⟩
      · exact .inl hi
      · exact .inr ⟨t, h8, h0, by rw [k.old t h8 (by rw [h1]; exact h2), h1], h2⟩
    · right
      refine ⟨t, h8, ?_, h1, h2⟩
      cases hz : a t with
      | zero => rfl
      | succ z =>
        have := h.old t h8 (by omega)
        rw [h0, hz] at this
        cases this
  · rcases hi with hi | ⟨t, h8, h0, h1, h2⟩
    · exact (k.mark i).2 (.inl ((h.mark i).2 (.inl hi)))
    · by_cases h3 : a1 t = 0
      · exact (k.mark i).2 (.inr ⟨t, h8, h3, h1, h2⟩)
      · have e := k.old t h8 h3
        exact (k.mark i).2 (.inl ((h.mark i).2 (.inr ⟨t, h8, h0, by rw [← e]; exact h1, h2⟩)))
  · rw [k.view i h1 h2 ((h.mark i).2 (.inl hm)) (fun t ht1 e => ?_), h.view i h1 h2 hm hp]
    have h8 : t < 86 := by unfold isP at ht1; omega
    by_cases h0 : a t = 0
    · have h3 := h.new t h8 h0 (by rw [e]; omega)
      rw [e, hm] at h3
      cases h3
    · exact hp t h8 ((h.old t h8 h0).symm.trans e)
  · rw [k.ct ht hi, h.ct i hi]
theorem Wrt.put {N : Nat} {V V1 : Nat → List UInt8} {m m1 : Nat → Bool} {a a1 : Nat → Nat} {S : Nat → Prop} {p : Nat} {d : List UInt8} {x1 : NoS} (h : Wrt N V m a V1 m1 a1 S p d) (ht : TreeOk V1 m1 N x1 a1) {b f : Nat} {e : List UInt8} (hb : b < 76) (h0 : a1 (sb b) ≠ 0) (hl : (V1 (a1 (sb b))).length = 128) (hf : f + e.length ≤ 128) (he : b * 128 + f = p + d.length) : Wrt N V m a (updF V1 (a1 (sb b)) (splice (V1 (a1 (sb b))) f e)) m1 a1 S p (d ++ e) := by
  have h8 := sb_lt hb
  refine ⟨h.old, h.slots, h.new, h.mark, fun i h1 h2 hm hp => ?_, fun k hk => ?_⟩
  · rw [updF_ne _ _ (fun e' => ?_)]
    · exact h.view i h1 h2 hm hp
    · by_cases h3 : a (sb b) = 0
      · have := h.new _ h8 h3 h0
        rw [← e', hm] at this
        cases this
      · exact hp _ h8 ((h.old _ h8 h3).symm.trans e'.symm)
  · rw [ct_put ht hb h0 _ hk, List.length_append]
    by_cases e1 : k / 128 = b
    · rw [if_pos e1, splice_get _ _ _ _ (by rw [hl]; exact hf)]
      by_cases e2 : f ≤ k % 128 ∧ k % 128 < f + e.length
      · rw [if_pos e2, if_pos (by omega), List.getD_eq_getElem?_getD, List.getD_eq_getElem?_getD, List.getElem?_append_right (by omega)]
        congr 2
        omega
      · rw [if_neg e2]
        have hc : (V1 (a1 (sb b))).getD (k % 128) 0 = Ct V1 a1 k := by
          unfold Ct
          rw [e1, if_neg h0]
        rw [hc, h.ct k hk]
        by_cases e3 : p ≤ k ∧ k < p + d.length
        · rw [if_pos e3, if_pos (by omega), List.getD_eq_getElem?_getD, List.getD_eq_getElem?_getD, List.getElem?_append_left (by omega)]
        · rw [if_neg e3, if_neg (by omega)]
    · rw [if_neg e1, h.ct k hk]
      by_cases e3 : p ≤ k ∧ k < p + d.length
      · rw [if_pos e3, if_pos (by omega), List.getD_eq_getElem?_getD, List.getD_eq_getElem?_getD, List.getElem?_append_left (by omega)]
      · rw [if_neg e3, if_neg (by omega)]
/-! ### copy -/
theorem row128 {g : Nat} {W : World} {cur : Array Value} {t : TypeId} {fr : Nat × Nat} {X : List UInt8} (h : W.heap[g]? = some (.cells cur t fr)) (hx : cur.toList.take 128 = bv X) (hl : X.length = 128) : Sl W 1 (.slice (some ⟨g, 0, none⟩) 128 128) 128 (bv X) := by
  refine ⟨_, _, rfl, .inr ⟨_, rfl, fun j u hu => ?_⟩, (fun e => by cases e), Nat.le_refl _, by rw [bv_length, hl]⟩
  rw [Addr.add_lit, Nat.zero_add, blk_cells h]
  rw [← hx, List.getElem?_take] at hu
  split at hu
  · rw [← Array.getElem?_toList]; exact hu
  · cases hu
theorem run_copy_own {w : World} {g off dLen dCap sLen sCap q : Nat} {A : Option Addr} {cur : Array Value} {t : TypeId} {X d : List UInt8} (hg : w.heap[g]? = some (.cells cur t (0, 0))) (hx : cur.toList.take 128 = bv X) (hX : X.length = 128) (hs : Sl w 1 (.slice A sLen sCap) sLen (bv d)) (hm : q = Nat.min sLen dLen) (h0 : 0 < q) (hfit : off + q ≤ 128) :
    ∃ W cur', (∀ ty, (Builtin.copy_ #[22, 22] ty #[.slice (some ⟨g, off, none⟩) dLen dCap, .slice A sLen sCap]).run Tryz.prog w = .ok (goInt q) W) ∧ W.heap[g]? = some (.cells cur' t (0, 0)) ∧ cur'.toList.take 128 = bv (splice X off (d.take q)) ∧ Keep (fun j => j = g) w W := by
  obtain ⟨A', c', e, hr, hA, hc, hl⟩ := hs
  injection e with e1 e2 e3
  subst e1 e3
  have hd : d.length = sLen := by rw [bv_length, Nat.mul_one] at hl; exact hl
  have hml : (d.take q).length = q := by rw [List.length_take, hd, hm]; exact Nat.min_eq_left (Nat.min_le_left _ _)
  have hcl : 128 ≤ cur.toList.length := by
    have := congrArg List.length hx
    rw [List.length_take, bv_length, hX] at this
    omega
  rcases hr with hn | ⟨ad, rfl, hcs⟩
  · rw [bv_eq_nil] at hn
    rw [hn] at hml
    simp at hml
    omega
  · have hsrc : ∀ j v, (bv (d.take q))[j]? = some v → w.cell? (ad.add j) = some v := fun j v hv => hcs j v (by
      unfold bv at hv ⊢
      rw [List.map_take, List.getElem?_take] at hv
      split at hv
      · exact hv
      · cases hv)
    have hrun := fun ty => run_copy_row (P := Tryz.prog) w 22 22 ty 5 g off dLen dCap ad sLen sCap cur t (bv (d.take q)) Tryz.underlying22 (by kernel_rfl) hg (by rw [bv_length, hml, hm]) hsrc (by rw [bv_length, hml, ← Array.length_toList]; omega) (bv_one _)
    refine ⟨_, _, fun ty => by rw [hrun ty, bv_length, hml], setRow_heap w g _ _ _ _ hg, ?_, ?_⟩
    · have ht := take_splice cur.toList (bv (d.take q)) off 128 (by rw [bv_length, hml]; exact hfit) hcl
      rw [hx, ← bv_splice] at ht
      unfold splice at ht
      rw [bv_length, hml] at ht
      show List.take 128 (List.take off cur.toList ++ bv (d.take q) ++ List.drop (off + q) cur.toList) = bv (splice X off (d.take q))
      rw [List.append_assoc, ht]
      unfold splice
      rw [hml]
    · exact ⟨rfl, rfl, rfl, by simp [World.setRow], fun k _ hk => setRow_other w g k _ hk⟩
end Go.Proofs.YtehfoopefefpnaaGreat
