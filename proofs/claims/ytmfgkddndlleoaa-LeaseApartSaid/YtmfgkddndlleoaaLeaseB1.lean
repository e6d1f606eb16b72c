/- The function value of blocks: it tells who is over, and gathers the seats of the others in the way. -/
import Derived.Test.YtmfgkddndlleoaaLeaseA
set_option linter.unusedSimpArgs false
set_option linter.unusedVariables false
namespace Go.Proofs.Ytmfgkddndlleoaa
open Go.RowKit

def ints (l : List Int) : List Value := l.map fun n => .int .i64 n
theorem ints_length (l : List Int) : (ints l).length = l.length := by simp [ints]
theorem eltInt : Elt Try.prog 45 3 1 8 := Elt.mk' (z := .int .i64 0) (by kernel_rfl) (by kernel_rfl) (by kernel_rfl) (by simp [Value.cells, Value.oneCell']) (by decide)
/-- The seats gathered so far, in the variable of block B. -/
structure Outs (W : World) (B : Nat) (o : List Int) (O : Option Addr) (c : Nat) : Prop where
  blk : W.heap[B]? = some (.cells #[.slice O o.length c] 45 (0, 0))
  own : W.ownsRow 0 3 1 (.slice O o.length c) o.length (ints o)
def overP (n g s m now : Int) (e : LE) : Bool := inWay n g s m e && pastP e.x now 25
def stayP (n g s m now : Int) (e : LE) : Bool := inWay n g s m e && !pastP e.x now 25

/-- How the function value ends. -/
def BEnd (w : World) (B : Nat) (O : Option Addr) (r : Bool) (o' : List Int) (e : Ending) (w' : World) : Prop :=
  e = .returned (.bool r) ∧ ∃ O' c', Outs w' B o' O' c' ∧ Keep (fun k => k = B ∨ (Value.slice O 0 0).ownBlock = some k) w w' ∧ ((Value.slice O' 0 0).ownBlock = (Value.slice O 0 0).ownBlock ∨ ∃ k, (Value.slice O' 0 0).ownBlock = some k ∧ w.heap.size ≤ k)
theorem Outs.keep {W W' : World} {B : Nat} {o : List Int} {O : Option Addr} {c : Nat} {S : Nat → Prop} (h : Outs W B o O c) (hk : Keep S W W') (hB : ¬ S B) (hO : ∀ k, O.map (·.block) = some k → ¬ S k) : Outs W' B o O c :=
  ⟨hk.blk h.blk hB, own_keep h.own hk (fun k e => hO k (by rw [ownBlock_slice] at e; exact e))⟩
theorem BEnd.quiet {w w' : World} {B : Nat} {o : List Int} {O : Option Addr} {c : Nat} (r : Bool) (h : Outs w B o O c) (hb : Below w.heap.size w w') : BEnd w B O r o (.returned (.bool r)) w' :=
  ⟨rfl, O, c, h.keep (Keep.of_below (S := fun _ => False) hb) id (fun _ _ => id), (Keep.of_below hb), .inl rfl⟩

theorem BEnd.more {w w2 : World} {B : Nat} {o : List Int} {O A2 : Option Addr} {c c2 : Nat} {a : Int} {x y : Obj} (h : Outs w B o O c)
    (j1 : w2.ownsRow 0 3 1 (.slice A2 (o.length + 1) c2) (o.length + 1) (ints o ++ [.int .i64 a])) (j2 : Keep (fun k => (Value.slice O o.length c).ownBlock = some k) ((w.alloc x).alloc y) w2)
    (j3 : (Value.slice A2 (o.length + 1) c2).ownBlock = (Value.slice O o.length c).ownBlock ∨ (Value.slice A2 (o.length + 1) c2).ownBlock = some (w.heap.size + 2)) :
    w2.heap[B]? = some (.cells #[.slice O o.length c] 45 (0, 0)) ∧ BEnd w B O false (o ++ [a]) (.returned (.bool false)) (w2.setCell ⟨B, 0, none⟩ (.slice A2 (o.length + 1) c2)) := by
  have k1 : Keep (fun _ => False) w ((w.alloc x).alloc y) := ((Keep.refl (fun _ => False) w).alloc x).alloc y
  have b1 := k1.blk h.blk id
  have o1 := own_keep h.own k1 (fun _ _ => id)
  have hne : ∀ k, (Value.slice O o.length c).ownBlock = some k → ¬ k = B := fun k hk => own_ne_blk h.own h.blk (by decide) hk
  have b2 := j2.blk b1 (fun e => hne B e rfl)
  have hl : (o ++ [a]).length = o.length + 1 := by simp
  have hne2 : ∀ k, (Value.slice A2 (o.length + 1) c2).ownBlock = some k → ¬ k = B := fun k hk => own_ne_blk j1 b2 (by decide) hk
  have k3 : Keep (fun k => k = B) w2 (w2.setCell ⟨B, 0, none⟩ (.slice A2 (o.length + 1) c2)) := (Keep.refl (fun k => k = B) w2).setCell (fun _ => rfl) _
  refine ⟨b2, rfl, A2, c2, ⟨?_, ?_⟩, ?_, ?_⟩
  · rw [hl]; simpa using blk_set (j := 0) b2 (.slice A2 (o.length + 1) c2)
  · rw [hl]
    have : ints (o ++ [a]) = ints o ++ [.int .i64 a] := by simp [ints]
    rw [this]
    exact own_keep j1 k3 (fun k hk e => hne2 k hk e)
  · refine ((k1.mono (T := fun k => k = B ∨ (Value.slice O 0 0).ownBlock = some k) (fun _ _ h => h.elim)).trans j2 (fun i _ hi => .inr (by rw [ownBlock_slice] at hi ⊢; exact hi))).trans k3 (fun i _ hi => .inl hi)
  · rcases j3 with e | e
    · left; rw [ownBlock_slice] at e ⊢; rw [ownBlock_slice] at e ⊢; exact e
    · right; exact ⟨w.heap.size + 2, by rw [ownBlock_slice] at e ⊢; exact e, by omega⟩
set_option maxHeartbeats 1000000 in
theorem blocks1_walk (x : LE) (B1 B2 B3 B4 B5 : Nat) (n g s m now : Int) (o : List Int) (O : Option Addr) (c : Nat) (w : World) (h0 : w.cell? ⟨B1, 0, none⟩ = some (.int .i64 n)) (h1 : w.cell? ⟨B1, 1, none⟩ = some (.int .i64 g)) (h2 : w.cell? ⟨B2, 0, none⟩ = some (.int .i64 s))
    (h3 : w.cell? ⟨B3, 0, none⟩ = some (.int .i64 m)) (h4 : w.cell? ⟨B4, 0, none⟩ = some (.int .i64 now)) (ho : Outs w B5 o O c) (hl : o.length ≤ 1000000) (hx0 : 0 ≤ x.x) (hx1 : x.x ≤ 1099511627776) :
    Calls Try.prog 46 #[x.val, .pointer (some ⟨B1, 0, none⟩), .pointer (some ⟨B2, 0, none⟩), .pointer (some ⟨B3, 0, none⟩), .pointer (some ⟨B4, 0, none⟩), .pointer (some ⟨B5, 0, none⟩)] w fun e w' =>
      BEnd w B5 O (overP n g s m now x) (o ++ if stayP n g s m now x = true then [x.s] else []) e w' := by
  have l1 := World.block_lt_of_cell? w _ h0
  have l2 := World.block_lt_of_cell? w _ h2
  have l3 := World.block_lt_of_cell? w _ h3
  have l4 := World.block_lt_of_cell? w _ h4
  have l5 := blk_lt ho.blk
  have HO := Lib.hid ho
  have HQ := Lib.hid (fun (r : Bool) (w' : World) (hb : Below w.heap.size w w') => BEnd.quiet r ho hb)
  by_cases c1 : x.n = n ∧ x.g = g
  · obtain ⟨rfl, rfl⟩ := c1
    by_cases c2 : x.s = s
    · have e1 : overP x.n x.g s m now x = false := by simp [overP, inWay, c2]
      have e2 : stayP x.n x.g s m now x = false := by simp [stayP, inWay, c2]
      rw [e1, e2, if_neg (by simp), List.append_nil]
      subst c2
      unfold LE.val
      clear ho e1 e2
      go_enter Try.func46, Try.ntmps46
      go_wp2
      go_ret
      exact HQ.out _ _ ((Below.refl _ _).alloc (Nat.le_refl _) _)
    · have c2' : (x.s == s) = false := by simpa using c2
      cases ha : againstP x.m m with
      | false =>
        have e1 : overP x.n x.g s m now x = false := by simp [overP, inWay, ha]
        have e2 : stayP x.n x.g s m now x = false := by simp [stayP, inWay, ha]
        rw [e1, e2, if_neg (by simp), List.append_nil]
        have hw := against_walk x.m m
        rw [ha] at hw
        have HW := Lib.hid hw
        unfold LE.val
        clear ho e1 e2 hw ha
        go_enter Try.func46, Try.ntmps46
        go_wp2_with fail
        refine (HW.out _).mono ?_
        rintro e w1 ⟨rfl, rfl⟩
        go_wp2
        go_ret
        exact HQ.out _ _ ((Below.refl _ _).alloc (Nat.le_refl _) _)
      | true =>
        have hw := against_walk x.m m
        rw [ha] at hw
        have HW := Lib.hid hw
        have HP := Lib.hid (past_walk x.x now 25 (h0 := hx0) (h1 := hx1))
        cases hp : pastP x.x now 25 with
        | true =>
          have e1 : overP x.n x.g s m now x = true := by simp [overP, inWay, ha, hp, c2]
          have e2 : stayP x.n x.g s m now x = false := by simp [stayP, hp]
          rw [e1, e2, if_neg (by simp), List.append_nil]
          rw [hp] at HP
          unfold LE.val
          clear ho e1 e2 hw ha hp
          go_enter Try.func46, Try.ntmps46
          go_wp2_with fail
          refine (HW.out _).mono ?_
          rintro e w1 ⟨rfl, rfl⟩
          go_wp2_with fail
          refine (HP.out _).mono ?_
          rintro e w1 ⟨rfl, rfl⟩
          go_wp2
          go_ret
          exact HQ.out _ _ ((Below.refl _ _).alloc (Nat.le_refl _) _)
        | false =>
          have e1 : overP x.n x.g s m now x = false := by simp [overP, hp]
          have e2 : stayP x.n x.g s m now x = true := by simp [stayP, inWay, ha, hp, c2]
          rw [e1, e2, if_pos rfl]
          rw [hp] at HP
          have hc5 := blk_cells ho.blk
          have hf5 := blk_frees ho.blk
          obtain ⟨bx, hbx⟩ : ∃ bx, bx = Obj.cells #[.int .i64 x.n, .int .i64 x.g, .int .i64 x.s, .int .i64 x.m, .int .i64 x.x] 39 := ⟨_, rfl⟩
          have hsl : Sl ((w.alloc bx).alloc (.cells #[.int .i64 x.s] 3)) 1 (.slice (some ⟨w.heap.size + 1, 0, none⟩) 1 1) 1 [.int .i64 x.s] := by
            have := Sl.of_own (own_new (w.alloc bx) #[.int .i64 x.s] 3 1 1 rfl (by decide))
            simpa using this
          have hoo : ((w.alloc bx).alloc (.cells #[.int .i64 x.s] 3)).ownsRow 0 3 1 (.slice O o.length c) o.length (ints o) := own_keep (own_keep ho.own ((Keep.refl (fun _ => False) _).alloc _) (fun _ _ h => h)) ((Keep.refl (fun _ => False) _).alloc _) (fun _ _ h => h)
          subst hbx
          have HSL := Lib.hid hsl
          have HOO := Lib.hid hoo
          clear hsl hoo
          unfold LE.val
          clear ho e1 e2 hw ha hp
          go_enter Try.func46, Try.ntmps46
          go_wp2_with fail
          refine (HW.out _).mono ?_
          rintro e w1 ⟨rfl, rfl⟩
          go_wp2_with fail
          refine (HP.out _).mono ?_
          rintro e w1 ⟨rfl, rfl⟩
          go_wp2_with (at_builtin; go_must (refine wpList_app rfl eltInt rfl rfl rfl (n := o.length) (m := 1) HOO.out HSL.out (by simp [Value.oneCell']) (by omega) (by simp only [maxLen]; omega) ?_))
          intro v2 w2 j1 j2 j3 _
          obtain ⟨A2, c2, rfl, _⟩ := Rd.of_own j1
          have hend := BEnd.more HO.out j1 j2 (by first | exact j3 | simpa using j3)
          have hb2 := hend.1
          have hc2 := blk_cells hb2
          have hf2 := blk_frees hb2
          have HE := Lib.hid hend.2
          clear j1 j2 j3 hend hb2
          go_wp2
          go_ret
          exact HE.out
  · have e1 : overP n g s m now x = false := by simp [overP, inWay, c1]
    have e2 : stayP n g s m now x = false := by simp [stayP, inWay, c1]
    rw [e1, e2, if_neg (by simp), List.append_nil]
    unfold LE.val
    have c1' : (x.n == n && x.g == g) = false := by simpa using c1
    clear ho e1 e2
    go_enter Try.func46, Try.ntmps46
    go_wp2
    all_goals
      go_ret
      exact HQ.out _ _ ((Below.refl _ _).alloc (Nat.le_refl _) _)
end Go.Proofs.Ytmfgkddndlleoaa
