/- Package verb: what a request is in memory; number, bare, own at a hello. -/
import Derived.Test.YtlcfnehmmjhoiaaGreatFld2
set_option linter.unusedSimpArgs false
set_option linter.unusedVariables false
namespace Go.Proofs.YtlcfnehmmjhoiaaGreat
open Go.RowKit

attribute [local go_sem ↓] Go.wp_at_zero Go.wp_at_succ
/-- A request as a value. -/
structure VbS where
  kind : Int
  seat : Int
  life : Int
  seq : Int
  epoch : Int
  path : ByteArray
  other : ByteArray
  node : Int
  gen : Int
  at_ : Int
  size : Int
  mode : Int
@[reducible] def VbS.cells (v : VbS) (D : Value) : Array Value := #[.int .i64 v.kind, .int .i64 v.seat, .int .i64 v.life, .int .i64 v.seq, .int .i64 v.epoch, .string v.path, .string v.other, .int .i64 v.node, .int .i64 v.gen, .int .i64 v.at_, .int .i64 v.size, .int .i64 v.mode, D]
theorem vnum_walk (n : Int) (h0 : 0 ≤ n) (h1 : n ≤ 1073741824) (w : World) : Calls Tryz.prog 68 #[.int .i64 n] w fun e w' => e = .returned (.bool true) ∧ w' = w := by
  go_enter Tryz.func68, Tryz.ntmps68
  go_wp2
  go_ret
  exact ⟨rfl, rfl⟩
set_option maxHeartbeats 1000000 in
theorem bare_walk (k s l q e : Int) (w : World) : Calls Tryz.prog 117 #[.agg #[.int .i64 k, .int .i64 s, .int .i64 l, .int .i64 q, .int .i64 e, .string ⟨#[]⟩, .string ⟨#[]⟩, .int .i64 0, .int .i64 0, .int .i64 0, .int .i64 0, .int .i64 0, .slice none 0 0]] w fun e w' => e = .returned (.bool true) ∧ Below w.heap.size w w' := by
  have HB := Lib.hid ((Below.refl w.heap.size w).alloc (Nat.le_refl _) (.cells #[.int .i64 k, .int .i64 s, .int .i64 l, .int .i64 q, .int .i64 e, .string ⟨#[]⟩, .string ⟨#[]⟩, .int .i64 0, .int .i64 0, .int .i64 0, .int .i64 0, .int .i64 0, .slice none 0 0] 58))
  go_enter Tryz.func117, Tryz.ntmps117
  go_wp2
  go_ret
  exact ⟨rfl, HB.out⟩
set_option maxHeartbeats 1000000 in
theorem own_hello (s l q e : Int) (w : World) : Calls Tryz.prog 116 #[.agg #[.int .i64 1, .int .i64 s, .int .i64 l, .int .i64 q, .int .i64 e, .string ⟨#[]⟩, .string ⟨#[]⟩, .int .i64 0, .int .i64 0, .int .i64 0, .int .i64 0, .int .i64 0, .slice none 0 0]] w fun e' w' => e' = .returned (.tuple #[.agg #[.int .i64 1, .int .i64 s, .int .i64 l, .int .i64 q, .int .i64 e, .string ⟨#[]⟩, .string ⟨#[]⟩, .int .i64 0, .int .i64 0, .int .i64 0, .int .i64 0, .int .i64 0, .slice none 0 0], .bool true]) ∧ Below w.heap.size w w' := by
  go_enter Tryz.func116, Tryz.ntmps116
  go_wp2
  exact bodyPost_ret (v := .tuple #[.agg #[.int .i64 1, .int .i64 s, .int .i64 l, .int .i64 q, .int .i64 e, .string ⟨#[]⟩, .string ⟨#[]⟩, .int .i64 0, .int .i64 0, .int .i64 0, .int .i64 0, .int .i64 0, .slice none 0 0], .bool true]) (by simp [results, Tryz.results116, go_sem]; try rfl) rfl ⟨rfl, ((Below.refl w.heap.size w).alloc (Nat.le_refl _) _).alloc (by simp) _⟩
/-- Good, of a request from which own leaves nothing. -/
def GdI (v25 : Value) : Prop := ∃ k : Nat, k ≤ 7 ∧ v25 = .int .i64 (k : Int)
set_option maxRecDepth 100000 in
set_option maxHeartbeats 2000000 in
theorem good_walk (k s l q e : Int) (p o : ByteArray) (n g a z m : Int) (hs : 0 ≤ s ∧ s ≤ 7) (hl : 1 ≤ l ∧ l ≤ 1073741824) (hq : 0 ≤ q ∧ q ≤ 1073741824) (he : 0 ≤ e ∧ e ≤ 1073741824) (hn : 0 ≤ n ∧ n ≤ 1073741824) (hg : 0 ≤ g ∧ g ≤ 1073741824) (ha : 0 ≤ a ∧ a ≤ 1073741824) (hz : 0 ≤ z ∧ z ≤ 1073741824) (hp : p.size ≤ 255) (ho : o.size ≤ 255) (w : World)
    (hown : ∀ W : World, Calls Tryz.prog 116 #[.agg #[.int .i64 k, .int .i64 s, .int .i64 l, .int .i64 q, .int .i64 e, .string p, .string o, .int .i64 n, .int .i64 g, .int .i64 a, .int .i64 z, .int .i64 m, .slice none 0 0]] W fun e' w' => e' = .returned (.tuple #[.agg #[.int .i64 k, .int .i64 s, .int .i64 l, .int .i64 q, .int .i64 e, .string ⟨#[]⟩, .string ⟨#[]⟩, .int .i64 0, .int .i64 0, .int .i64 0, .int .i64 0, .int .i64 0, .slice none 0 0], .bool true]) ∧ Below W.heap.size W w') :
    Calls Tryz.prog 83 #[.agg #[.int .i64 k, .int .i64 s, .int .i64 l, .int .i64 q, .int .i64 e, .string p, .string o, .int .i64 n, .int .i64 g, .int .i64 a, .int .i64 z, .int .i64 m, .slice none 0 0]] w fun e' w' => e' = .returned (.bool true) ∧ Below w.heap.size w w' := by
  have HO := Lib.hid hown
  clear hown
  obtain ⟨hs0, hs1⟩ := hs
  obtain ⟨hl0, hl1⟩ := hl
  have HN : Hid (∀ (j : Nat), j < 7 → ∃ x : Int, (#[.int .i64 l, .int .i64 q, .int .i64 e, .int .i64 n, .int .i64 g, .int .i64 a, .int .i64 z] : Array Value)[j]? = some (.int .i64 x) ∧ 0 ≤ x ∧ x ≤ 1073741824) := Lib.hid (by
    intro j hj
    match j, hj with
    | 0, _ => exact ⟨l, rfl, by omega, hl1⟩
    | 1, _ => exact ⟨q, rfl, hq.1, hq.2⟩
    | 2, _ => exact ⟨e, rfl, he.1, he.2⟩
    | 3, _ => exact ⟨n, rfl, hn.1, hn.2⟩
    | 4, _ => exact ⟨g, rfl, hg.1, hg.2⟩
    | 5, _ => exact ⟨a, rfl, ha.1, ha.2⟩
    | 6, _ => exact ⟨z, rfl, hz.1, hz.2⟩
    | j + 7, h => omega)
  obtain ⟨w1, hw1⟩ : ∃ w1, w1 = w.alloc (.cells #[.int .i64 k, .int .i64 s, .int .i64 l, .int .i64 q, .int .i64 e, .string p, .string o, .int .i64 n, .int .i64 g, .int .i64 a, .int .i64 z, .int .i64 m, .slice none 0 0] 58) := ⟨_, rfl⟩
  have b1 : w1.heap[w.heap.size]? = some (.cells #[.int .i64 k, .int .i64 s, .int .i64 l, .int .i64 q, .int .i64 e, .string p, .string o, .int .i64 n, .int .i64 g, .int .i64 a, .int .i64 z, .int .i64 m, .slice none 0 0] 58 (0, 0)) := by rw [hw1]; exact blk_new w _
  have z1 : w1.heap.size = w.heap.size + 1 := by rw [hw1]; simp
  have B1 : Below w.heap.size w w1 := by rw [hw1]; exact (Below.refl w.heap.size w).alloc (Nat.le_refl _) _
  obtain ⟨w2, hw2⟩ : ∃ w2, w2 = w1.alloc (.cells #[.int .i64 l, .int .i64 q, .int .i64 e, .int .i64 n, .int .i64 g, .int .i64 a, .int .i64 z] 3) := ⟨_, rfl⟩
  have b2 : w2.heap[w1.heap.size]? = some (.cells #[.int .i64 l, .int .i64 q, .int .i64 e, .int .i64 n, .int .i64 g, .int .i64 a, .int .i64 z] 3 (0, 0)) := by rw [hw2]; exact blk_new w1 _
  rw [z1] at b2
  have b12 := blk_old b1 (.cells #[.int .i64 l, .int .i64 q, .int .i64 e, .int .i64 n, .int .i64 g, .int .i64 a, .int .i64 z] 3)
  rw [← hw2] at b12
  have B2 : Below w.heap.size w w2 := by rw [hw2]; exact B1.alloc B1.size _
  have HW1 := Lib.hid hw1
  have HW2 := Lib.hid hw2
  have HB2 := Lib.hid B2
  have HC1 := Lib.hid b12
  have HC2 := Lib.hid b2
  clear hw1 hw2 b1 z1 B1 b2 b12 B2 hq he hn hg ha hz
  go_enter Tryz.func83, Tryz.ntmps83
  go_wp2_with fail
  rw [← HW1.out, ← HW2.out]
  have c2 := blk_cells HC2.out
  have HC := Lib.hid c2
  clear c2
  go_loop [25] (fun v25 => GdI v25) (fun v => 7 - (intOf v).toNat)
  case atStart => exact ⟨0, Nat.zero_le _, rfl⟩
  case round =>
    obtain ⟨j, hj, rfl⟩ := hrel
    by_cases hlt : j < 7
    · obtain ⟨x, hx, hx0, hx1⟩ := HN.out j hlt
      have cx := (HC.out j).trans hx
      have g0 : (0 : Int) ≤ (j : Int) := by omega
      have g1 : (j : Int) < 7 := by omega
      have g2 : IntKind.i64.wrap ((j : Int) + 1) = (j : Int) + 1 := IntWalk.i64_in _ (by omega)
      clear hx
      go_wp2_with fail
      refine (vnum_walk x hx0 hx1 w2).mono ?_
      rintro e' w' ⟨rfl, hww⟩
      have hww' := hww.symm
      subst hww'
      clear hww
      go_wp2_with fail
      exact ⟨⟨j + 1, hlt, by rw [Int.natCast_add]; rfl⟩, by simp only [intOf]; omega⟩
    · obtain rfl : j = 7 := by omega
      have c1 := blk_cells HC1.out
      have t1 : decide (s < 0) = false := decide_eq_false (by omega)
      have t2 : decide (8 ≤ s) = false := decide_eq_false (by omega)
      have t3 : (l == 0) = false := beq_eq_false_iff_ne.2 (by omega)
      have t4 : decide (255 < p.size) = false := decide_eq_false (by omega)
      have t5 : decide (255 < o.size) = false := decide_eq_false (by omega)
      have t6 : decide ((255 : Int) < (p.size : Int)) = false := decide_eq_false (by omega)
      have t7 : decide ((255 : Int) < (o.size : Int)) = false := decide_eq_false (by omega)
      go_wp2_with fail
      refine (HO.out w2).mono ?_
      rintro e' w3 ⟨rfl, h3⟩
      have HB3 := Lib.hid (HB2.out.trans (h3.mono HB2.out.size))
      clear h3 t1 t2 t3 t4 t5 t6 t7 c1
      obtain ⟨w4, hw4⟩ : ∃ w4, w4 = w3.alloc (.cells #[.int .i64 k, .int .i64 s, .int .i64 l, .int .i64 q, .int .i64 e, .string ⟨#[]⟩, .string ⟨#[]⟩, .int .i64 0, .int .i64 0, .int .i64 0, .int .i64 0, .int .i64 0, .slice none 0 0] 58) := ⟨_, rfl⟩
      go_wp2_with fail
      rw [← hw4]
      have HB4 : Hid (Below w.heap.size w w4) := Lib.hid (by rw [hw4]; exact HB3.out.alloc HB3.out.size _)
      clear hw4
      refine (bare_walk k s l q e w4).mono ?_
      rintro e' w5 ⟨rfl, h5⟩
      have HB5 := Lib.hid (HB4.out.trans (h5.mono HB4.out.size))
      clear h5
      go_wp2
      go_ret
      exact ⟨rfl, HB5.out⟩
end Go.Proofs.YtlcfnehmmjhoiaaGreat
