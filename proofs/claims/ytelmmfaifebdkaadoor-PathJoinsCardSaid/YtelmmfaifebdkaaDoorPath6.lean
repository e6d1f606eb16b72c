/- The program's Split. -/
import Derived.Test.YtelmmfaifebdkaaDoorPath5
import Derived.WalkMore
import Derived.Deep.DeepCutAuto
import Derived.Deep.CutBlock
import Derived.ScopeJumps
set_option linter.unusedSimpArgs false
set_option linter.unusedVariables false
namespace Go.Proofs.YtelmmfaifebdkaaDoor
open Go.RowKit

/-- As Q; by a goto to label l: J l. -/
def jumps (J : Nat → Act → World → Prop) (Q : Exit → Act → World → Prop) : Exit → Act → World → Prop
  | .goto l, a, w => J l a w
  | e, a, w => Q e a w
/-- A scope with more labels than one: what holds at each jump, and a measure that every jump lowers. -/
theorem wp_scope_labels {P : Program} {a : Act} {w : World} {Q : Exit → Act → World → Prop} {c : Code} (J : Nat → Act → World → Prop) (μ : Nat → Act → World → Nat)
    (pass : ∀ l a w, J l a w → ∃ rest, findLabel c l = some (Code.skip.seq rest) ∧ rest.wp P (jumps (fun l' a' w' => J l' a' w' ∧ μ l' a' w' < μ l a w) Q) a w)
    (first : (∀ l rest a w, findLabel c l = some (Code.skip.seq rest) → J l a w → rest.wp P (jumps J Q) a w) → c.wp P (jumps J Q) a w) : (Code.scope c).wp P Q a w := by
  intro b k cs
  have key : ∀ n l a w, μ l a w = n → J l a w → ∀ rest, findLabel c l = some rest → ∃ e a' w', Q e a' w' ∧ Arrives P (lone (b.at a (.code rest :: .inScope c :: k)) cs w) b k cs e a' w' := by
    intro n
    induction n using Nat.strongRecOn with
    | _ n ih =>
      intro l a w hn hJ rest hf
      obtain ⟨rest', hf', hp⟩ := pass l a w hJ
      obtain rfl := Option.some.inj (hf.symm.trans hf')
      obtain ⟨e, a₁, w₁, hq, harr⟩ := (wp_seq (wp_skip hp) : (Code.skip.seq rest').wp P (jumps (fun l' a' w' => J l' a' w' ∧ μ l' a' w' < μ l a w) Q) a w) b (.inScope c :: k) cs
      cases e with
      | normal => exact ⟨.normal, a₁, w₁, hq, Steps.trans harr (.one step_inScope)⟩
      | exit id => exact ⟨.exit id, a₁, w₁, hq, fun k' hk => harr k' (by simp [exitTo, hk])⟩
      | goto l' =>
        obtain ⟨hJ', hlt⟩ := hq
        obtain ⟨rest2, hf2, _⟩ := pass l' a₁ w₁ hJ'
        have hg : gotoIn l' (.inScope c :: k) = some (.code (Code.skip.seq rest2) :: .inScope c :: k) := by simp [gotoIn, hf2]
        obtain ⟨e₂, a₂, w₂, hq₂, harr₂⟩ := ih _ (by omega) l' a₁ w₁ rfl hJ' _ hf2
        exact ⟨e₂, a₂, w₂, hq₂, .of_steps (harr _ hg) harr₂⟩
      | ret => exact ⟨_, a₁, w₁, hq, harr⟩
      | panic ch => exact ⟨_, a₁, w₁, hq, harr⟩
      | outgrown => exact ⟨_, a₁, w₁, hq, harr⟩
  obtain ⟨e, a₁, w₁, hq, harr⟩ := first (fun l rest a w hf hJ => by
    obtain ⟨rest', hf', hp⟩ := pass l a w hJ
    obtain rfl : rest = rest' := by injection hf.symm.trans hf' with h; injection h
    exact wp_mono hp (fun e a w h => by cases e <;> first | exact h | exact h.1)) b (.inScope c :: k) cs
  cases e with
  | normal => exact ⟨.normal, a₁, w₁, hq, .head step_scope (Steps.trans harr (.one step_inScope))⟩
  | exit id => exact ⟨.exit id, a₁, w₁, hq, fun k' hk => .head step_scope (harr k' (by simp [exitTo, hk]))⟩
  | goto l' =>
    obtain ⟨rest2, hf2, _⟩ := pass l' a₁ w₁ hq
    have hg : gotoIn l' (.inScope c :: k) = some (.code (Code.skip.seq rest2) :: .inScope c :: k) := by simp [gotoIn, hf2]
    obtain ⟨e₂, a₂, w₂, hq₂, harr₂⟩ := key _ l' a₁ w₁ rfl hq _ hf2
    exact ⟨e₂, a₂, w₂, hq₂, .of_steps (.head step_scope (harr _ hg)) harr₂⟩
  | ret => exact ⟨_, a₁, w₁, hq, .of_steps (.one step_scope) harr⟩
  | panic ch => exact ⟨_, a₁, w₁, hq, .of_steps (.one step_scope) harr⟩
  | outgrown => exact ⟨_, a₁, w₁, hq, .of_steps (.one step_scope) harr⟩

/-- What the names so far are, in memory. -/
structure Outs (w : World) (o : List Str) (A : Option Addr) (c : Nat) (wr : World) : Prop where
  few : o.length ≤ 8
  own : wr.ownsRow 0 9 1 (.slice A o.length c) o.length (strs o)
  new : ∀ k, (Value.slice A o.length c).ownBlock = some k → w.heap.size ≤ k
  bel : Below w.heap.size w wr
/-- What holds at the labels: 0 'next', 1 'behind'. -/
def PS (S : Str) (s : Str) (o : List Str) (m : Bool) : Nat → Prop
  | 0 => splitS S = foldP o (parts s)
  | 1 => if m = true then splitS S = foldP o (parts s) else splitS S = .ok o
  | _ => False
def PJ (S : Str) (w : World) (l : Nat) (a : Act) (wr : World) : Prop :=
  ∃ (s : Str) (o : List Str) (A : Option Addr) (c : Nat) (m : Bool) (u5 u7 u8 u9 u10 u11 u12 u13 u14 u15 u16 u17 u18 u19 u20 u21 u22 u23 u24 u25 u26 u27 u28 u29 u30 u31 u32 u33 u34 u35 u36 u37 u38 u39 u40 u41 u42 u43 u44 u45 u46 u47 u48 : Value), a = { tmps := #[.string ⟨s.toArray⟩, undef, .slice none 0 0, .int .i64 0, .slice A o.length c, u5, .bool m, u7, u8, u9, u10, u11, u12, u13, u14, u15, u16, u17, u18, u19, u20, u21, u22, u23, u24, u25, u26, u27, u28, u29, u30, u31, u32, u33, u34, u35, u36, u37, u38, u39, u40, u41, u42, u43, u44, u45, u46, u47, u48], defers := [] } ∧
    Outs w o A c wr ∧ s.length ≤ 96 ∧ PS S s o m l
def strLen : Value → Nat | .string b => b.data.toList.length | _ => 0
def isTrue : Value → Bool | .bool b => b | _ => false
def pμ (l : Nat) (a : Act) (_ : World) : Nat := if l = 0 then 2 * strLen (a.tmps.getD 0 undef) + 1 else if isTrue (a.tmps.getD 6 undef) = true then 2 * strLen (a.tmps.getD 0 undef) + 2 else 0

theorem own_dropLast {w : World} {A : Option Addr} {c : Nat} {l : List Str} (h : w.ownsRow 0 9 1 (.slice A l.length c) l.length (strs l)) :
    w.ownsRow 0 9 1 (.slice A l.dropLast.length c) l.dropLast.length (strs l.dropLast) := by
  have hd : strs l.dropLast = (strs l).take (l.length - 1) := by rw [strs, strs, List.dropLast_eq_take, List.map_take]
  have hl : l.dropLast.length = l.length - 1 := by simp
  refine ⟨by rw [strs_length]; simp, ?_⟩
  rcases h.2 with ⟨e, h0⟩ | ⟨g, cap, cur, e, hb, hg, h1, h2, h3, h4⟩
  · left
    injection e with e1 e2 e3
    subst e1 e3
    refine ⟨by rw [hl]; congr 1; omega, by omega⟩
  · right
    injection e with e1 e2 e3
    subst e1 e3
    refine ⟨g, _, cur, rfl, hb, hg, by omega, h2, h3, ?_⟩
    rw [hd, ← h4, List.take_take, hl]
    congr 1; omega

theorem head_slash (s : ByteArray) : (Lib.hasPrefix s.data.toList [47] = false ∧ (¬ 96 < s.data.toList.length → splitS s.data.toList = .error 5)) ∨
    ∃ l, s.data.toList = 47 :: l ∧ Lib.hasPrefix s.data.toList [47] = true ∧ (¬ 96 < s.data.toList.length → splitS s.data.toList = foldP [] (parts l)) := by
  unfold splitS Lib.hasPrefix
  generalize s.data.toList = S
  cases S with
  | nil => left; exact ⟨rfl, fun _ => rfl⟩
  | cons b l =>
    by_cases hb : b = 47
    · subst hb; right; exact ⟨l, rfl, by simp [List.isPrefixOf], fun h => by rw [if_neg h]; rfl⟩
    · left
      refine ⟨by simp [List.isPrefixOf]; exact fun e => hb e.symm, fun h => ?_⟩
      rw [if_neg h]
      split
      · rename_i e; injection e with e _; exact absurd e hb
      · rfl
theorem Outs.drewN {w wr : World} {o : List Str} {A : Option Addr} {c : Nat} (h : Outs w o A c wr) (n : Nat) : Outs w o A c (wr.drewN n) :=
  ⟨h.few, own_keep h.own ((Keep.refl (fun _ => False) wr).drewN n) (fun _ _ h => h), h.new, ⟨h.bel.os, h.bel.tape, h.bel.output, h.bel.size, h.bel.block⟩⟩
theorem Outs.dropLast {w wr : World} {o : List Str} {A : Option Addr} {c : Nat} (h : Outs w o A c wr) : Outs w o.dropLast A c wr :=
  ⟨by have := h.few; simp; omega, own_dropLast h.own, fun k hk => h.new k (by simpa [ownBlock_slice] using hk), h.bel⟩
theorem below_drewL {w w1 : World} {n : Nat} (h : Below (w.drewN n).heap.size (w.drewN n) w1) : Below w.heap.size w w1 := ⟨h.os, h.tape, h.output, h.size, h.block⟩
theorem Outs.below {w wr w1 : World} {o : List Str} {A : Option Addr} {c : Nat} (h : Outs w o A c wr) (hb : Below wr.heap.size wr w1) : Outs w o A c w1 :=
  ⟨h.few, own_keep h.own (Keep.of_below (S := fun _ => False) hb) (fun _ _ h => h), h.new, h.bel.trans (hb.mono h.bel.size)⟩
theorem Outs.bel_app {w wr w1 : World} {o : List Str} {A : Option Addr} {c : Nat} {x : Obj} (h : Outs w o A c wr) (j2 : Keep (fun k => (Value.slice A o.length c).ownBlock = some k) (wr.alloc x) w1) : Below w.heap.size w w1 := by
  have k : Keep (fun k => w.heap.size ≤ k) wr w1 := ((Keep.refl (fun _ => False) wr).alloc x |>.mono (fun _ _ h => h.elim)).trans j2 (fun i _ hi => h.new i hi)
  exact h.bel.trans (k.below (fun i hi => hi) h.bel.size)
theorem Outs.app {w wr w1 : World} {o : List Str} {A A2 : Option Addr} {c c2 : Nat} {p : Str} {x : Obj} (h : Outs w o A c wr) (hl : o.length < 8)
    (j1 : w1.ownsRow 0 9 1 (.slice A2 (o.length + 1) c2) (o.length + 1) (strs o ++ [.string ⟨p.toArray⟩])) (j2 : Keep (fun k => (Value.slice A o.length c).ownBlock = some k) (wr.alloc x) w1)
    (j3 : (Value.slice A2 (o.length + 1) c2).ownBlock = (Value.slice A o.length c).ownBlock ∨ (Value.slice A2 (o.length + 1) c2).ownBlock = some (wr.heap.size + 1)) : Outs w (o ++ [p]) A2 c2 w1 := by
  have hl' : (o ++ [p]).length = o.length + 1 := by simp
  refine ⟨by omega, by rw [hl', strs_snoc]; exact j1, fun k hk => ?_, h.bel_app j2⟩
  rw [hl'] at hk
  have := h.bel.size
  rcases j3 with e | e <;> rw [e] at hk
  · exact h.new k hk
  · injection hk with hk; omega
theorem cut_parts {S t : Str} {o : List Str} (h : t.length ≤ 96) (hps : splitS S = foldP o (parts t)) :
    ∃ p r m, Lib.cut t [47] = (p, r, m) ∧ ((∀ o', stepP o p = .ok o' → PS S r o' m 1) ∧ (∀ e, stepP o p = .error e → splitS S = .error e)) ∧ r.length ≤ 96 ∧ p.length ≤ 96 ∧ (m = true → r.length < t.length) := by
  rcases cut_slash t with ⟨_, hc, hp⟩ | ⟨p, r, rfl, _, hc, hp⟩
  · refine ⟨t, [], false, hc, ⟨fun o' ho => ?_, fun e he => ?_⟩, by simp, h, by simp⟩
    · show splitS S = .ok o'
      rw [hps, hp]; simp only [foldP, ho]
    · rw [hps, hp]; simp only [foldP, he]
  · simp at h
    refine ⟨p, r, true, hc, ⟨fun o' ho => ?_, fun e he => ?_⟩, by omega, by omega, fun _ => by simp; omega⟩
    · show splitS S = foldP o' (parts r)
      rw [hps, hp]; simp only [foldP, ho]
    · rw [hps, hp]; simp only [foldP, he]
set_option maxHeartbeats 1000000 in
theorem split_walk (s : ByteArray) (m0 : Int) (w : World) (hm0 : w.cell? ⟨0, 0, none⟩ = some (.int .i64 m0)) :
    Calls Tryd.prog 10 #[.string s] w fun e w' => SplitEnds w (splitS s.data.toList) e w' := by
  have hr : s.data.toList.length = s.size := Array.length_toList
  go_enter Tryd.func10, Tryd.ntmps10
  go_wp2
  refine wp_scope_labels (PJ s.data.toList w) pμ ?_ ?_
  · rintro l a' wr ⟨t, o, A, c, m, u5, u7, u8, u9, u10, u11, u12, u13, u14, u15, u16, u17, u18, u19, u20, u21, u22, u23, u24, u25, u26, u27, u28, u29, u30, u31, u32, u33, u34, u35, u36, u37, u38, u39, u40, u41, u42, u43, u44, u45, u46, u47, u48, rfl, ho, h96, hps⟩
    match l, hps with
    | 0, hps =>
      refine ⟨_, rfl, ?_⟩
      obtain ⟨p, r, m', hcut, hst, hr96, hp96, hlt⟩ := cut_parts h96 hps
      have hm1 : wr.cell? ⟨0, 0, none⟩ = some (.int .i64 m0) := (ho.bel.cell (p := ⟨0, 0, none⟩) (World.block_lt_of_cell? w _ hm0)).trans hm0
      have hc := Tryd.strings_Cut ⟨t.toArray⟩ ⟨#[47]⟩ m0 wr (by simp [ByteArray.size]; omega) hm1
      rw [show ((⟨t.toArray⟩ : ByteArray).data.toList) = t from rfl, show (⟨#[47]⟩ : ByteArray).data.toList = [47] from rfl, hcut] at hc
      have HC := Lib.hid hc
      have HO := Lib.hid ho
      have HST := Lib.hid hst
      have HLT := Lib.hid hlt
      clear hc ho hst hcut hps hm1 hm0 hlt
      go_upto_region 10 with (go_at_call 22; refine HC.out.mono ?_; rintro e w1 ⟨rfl, nd, rfl⟩)
      by_cases e1 : p = [] ∨ p = [46]
      · have hs1 : PS s.data.toList r o m' 1 := HST.out.1 o (by unfold stepP; rw [if_pos e1])
        have HO1 := Lib.hid (HO.out.drewN nd)
        have HS1 := Lib.hid hs1
        clear hs1 HST HC
        rcases e1 with rfl | rfl
        all_goals
          go_wp2
          go_step3
          exact ⟨⟨r, o, A, c, m', _, _, _, _, _, _, _, _, _, _, _, _, _, _, _, _, _, _, _, _, _, _, _, _, _, _, _, _, _, _, _, _, _, _, _, _, _, _, _, _, _, _, _, rfl, HO1.out, hr96, HS1.out⟩, by cases m' <;> simp [pμ, strLen, isTrue]; have := HLT.out rfl; omega⟩
      have e1a : p.isEmpty = false := by rw [Bool.eq_false_iff]; intro e; exact e1 (.inl (List.isEmpty_iff.1 e))
      have e1b : (p == [46]) = false := by rw [beq_eq_false_iff_ne]; exact fun e => e1 (.inr e)
      by_cases e3 : p = [46, 46]
      · have hs1 : PS s.data.toList r o.dropLast m' 1 := HST.out.1 _ (by unfold stepP; rw [if_neg e1, if_pos e3])
        have HO1 := Lib.hid ((HO.out.drewN nd).dropLast)
        have HS1 := Lib.hid hs1
        have hof := HO.out.own.2
        have l8 := HO.out.few
        clear hs1 HST HC
        subst e3
        rcases hof with ⟨e, h0⟩ | ⟨g, cap, cur, e, _, hg, q1, q2, _, _⟩
        · injection e with e1 e2 e4
          subst e1 e4
          obtain rfl : o = [] := List.eq_nil_of_length_eq_zero h0
          go_wp2
          go_step3
          exact ⟨⟨r, [], none, 0, m', _, _, _, _, _, _, _, _, _, _, _, _, _, _, _, _, _, _, _, _, _, _, _, _, _, _, _, _, _, _, _, _, _, _, _, _, _, _, _, _, _, _, _, rfl, HO1.out, hr96, HS1.out⟩, by cases m' <;> simp [pμ, strLen, isTrue]; have := HLT.out rfl; omega⟩
        · injection e with e1 e2 e4
          subst e1 e4
          by_cases h0 : o = []
          · subst h0
            go_wp2
            go_step3
            exact ⟨⟨r, [], some ⟨g, 0, none⟩, c, m', _, _, _, _, _, _, _, _, _, _, _, _, _, _, _, _, _, _, _, _, _, _, _, _, _, _, _, _, _, _, _, _, _, _, _, _, _, _, _, _, _, _, _, rfl, HO1.out, hr96, HS1.out⟩, by cases m' <;> simp [pμ, strLen, isTrue]; have := HLT.out rfl; omega⟩
          · have l1 : 0 < o.length := by cases o with | nil => exact absurd rfl h0 | cons x l => simp
            have b8 : (1 : Int) ≤ (o.length : Int) := by omega
            have b9 : (o.length : Int) ≤ (c : Int) := by omega
            have hmx : (max ((o.length : Int) - 1) 0).toNat = o.length - 1 := by omega
            have hdl : o.length - 1 = o.dropLast.length := by simp
            have HDL := Lib.hid hdl
            clear hdl
            go_wp2
            rw [HDL.out]
            go_step3
            exact ⟨⟨r, o.dropLast, some ⟨g, 0, none⟩, c, m', _, _, _, _, _, _, _, _, _, _, _, _, _, _, _, _, _, _, _, _, _, _, _, _, _, _, _, _, _, _, _, _, _, _, _, _, _, _, _, _, _, _, _, rfl, HO1.out, hr96, HS1.out⟩, by cases m' <;> simp [pμ, strLen, isTrue]; have := HLT.out rfl; omega⟩
      have e3b : (p == [46, 46]) = false := by rw [beq_eq_false_iff_ne]; exact e3
      by_cases hn : isName p = true
      · have l8 := HO.out.few
        clear HC
        go_wp2_with fail
        refine (name_walk ⟨p.toArray⟩ _ (by simp [ByteArray.size]; omega)).mono ?_
        rintro e w1 ⟨rfl, hk1⟩
        have HO1 := Lib.hid (HO.out.below (below_drewL hk1))
        clear hk1
        go_wp2_with (at_builtin; go_must (refine wpList_app rfl eltStr rfl rfl rfl (n := o.length) (m := 1) (own_keep HO1.out.own ((Keep.refl (fun _ => False) _).alloc _) (fun _ _ h => h)) (Sl.of_own (own_new w1 #[.string ⟨p.toArray⟩] 9 1 1 rfl (by decide))) (by simp [Value.oneCell']) (by omega) (by simp only [maxLen]; omega) ?_))
        intro v2 w2 j1 j2 j3 _
        obtain ⟨A2, c2, rfl, _⟩ := Rd.of_own j1
        rcases Nat.lt_or_ge o.length 8 with l9 | l9
        · have HO2 := Lib.hid (HO1.out.app l9 j1 j2 (by first | exact j3 | simpa using j3))
          have hs1 : PS s.data.toList r (o ++ [p]) m' 1 := HST.out.1 _ (step_name hn l9)
          have HS1 := Lib.hid hs1
          have hlp : o.length + 1 = (o ++ [p]).length := by simp
          have HLP := Lib.hid hlp
          have b7 : ¬ (8 : Int) < ((o.length + 1 : Nat) : Int) := by omega
          clear j1 j2 j3 HST hs1 hlp
          cases m'
          · go_wp2
            go_step3
            go_wp2
            refine bodyPost_ret (v := .tuple #[.slice A2 (o.length + 1) c2, .int .i64 0]) (by simp [results, Tryd.results10, go_sem]) rfl (show SplitEnds w (splitS s.data.toList) _ _ from by rw [show splitS s.data.toList = .ok (o ++ [p]) from HS1.out, HLP.out]; exact ⟨HO2.out.bel, A2, c2, rfl, Sl.of_own HO2.out.own⟩)
          · go_wp2
            go_step3
            go_wp2
            go_step3
            rw [HLP.out]
            exact ⟨⟨r, o ++ [p], A2, c2, true, _, _, _, _, _, _, _, _, _, _, _, _, _, _, _, _, _, _, _, _, _, _, _, _, _, _, _, _, _, _, _, _, _, _, _, _, _, _, _, _, _, _, _, rfl, HO2.out, hr96, HS1.out⟩, by simp [pμ, strLen, isTrue]; have := HLT.out (by simp); omega⟩
        · have hs2 : splitS s.data.toList = .error 4 := HST.out.2 4 (by unfold stepP; rw [if_neg e1, if_neg e3, if_neg (by simp [hn]), if_pos (by simp; omega)])
          have HB := Lib.hid (HO1.out.bel_app j2)
          have b7 : (8 : Int) < ((o.length + 1 : Nat) : Int) := by omega
          clear j1 j2 j3 HST
          go_wp2
          refine bodyPost_ret (v := .tuple #[.slice none 0 0, .int .i64 4]) (by simp [results, Tryd.results10, go_sem]) rfl (show SplitEnds w (splitS s.data.toList) _ _ from by rw [hs2]; exact ⟨HB.out, rfl⟩)
      · have hn' : isName p = false := by simpa using hn
        have hs2 : splitS s.data.toList = .error 6 := HST.out.2 6 (by unfold stepP; rw [if_neg e1, if_neg e3, if_pos hn'])
        clear HC HST
        go_wp2_with fail
        refine (name_walk ⟨p.toArray⟩ _ (by simp [ByteArray.size]; omega)).mono ?_
        rintro e w1 ⟨rfl, hk1⟩
        have HO1 := Lib.hid (HO.out.bel.trans ((below_drewL hk1).mono HO.out.bel.size))
        clear hk1
        go_wp2
        refine bodyPost_ret (v := .tuple #[.slice none 0 0, .int .i64 6]) (by simp [results, Tryd.results10, go_sem]) rfl (show SplitEnds w (splitS s.data.toList) _ _ from by rw [hs2]; exact ⟨HO1.out, rfl⟩)
    | 1, hps =>
      refine ⟨_, rfl, ?_⟩
      have HO := Lib.hid ho
      have HP := Lib.hid hps
      clear ho hps hm0
      cases m
      · go_wp2
        refine bodyPost_ret (v := .tuple #[.slice A o.length c, .int .i64 0]) (by simp [results, Tryd.results10, go_sem]) rfl (show SplitEnds w (splitS s.data.toList) _ _ from by rw [show splitS s.data.toList = .ok o from HP.out]; exact ⟨HO.out.bel, A, c, rfl, Sl.of_own HO.out.own⟩)
      · go_wp2
        go_step3
        exact ⟨⟨t, o, A, c, true, _, _, _, _, _, _, _, _, _, _, _, _, _, _, _, _, _, _, _, _, _, _, _, _, _, _, _, _, _, _, _, _, _, _, _, _, _, _, _, _, _, _, _, rfl, HO.out, h96, HP.out⟩, by simp [pμ, strLen, isTrue]⟩
    | (_ + 2), hps => exact hps.elim
  · intro hfirst
    by_cases h1 : 96 < s.size
    · have hE : splitS s.data.toList = .error 17 := by unfold splitS; rw [if_pos (by omega)]
      clear hfirst
      go_wp2
      refine bodyPost_ret (v := .tuple #[.slice none 0 0, .int .i64 17]) (by simp [results, Tryd.results10, go_sem]) rfl (show SplitEnds w (splitS s.data.toList) _ _ from by rw [hE]; exact ⟨Below.refl _ _, rfl⟩)
    have h1' : s.size ≤ 96 := by omega
    rcases head_slash s with ⟨hp, hE⟩ | ⟨l, hl, hp, hE⟩
    · have HE := Lib.hid (hE (by omega))
      clear hfirst hE
      go_wp2_with (go_at_call 21; refine (Tryd.strings_HasPrefix s ⟨#[47]⟩ _).mono ?_; rintro e w1 ⟨rfl, rfl⟩)
      refine bodyPost_ret (v := .tuple #[.slice none 0 0, .int .i64 5]) (by simp [results, Tryd.results10, go_sem]) rfl (show SplitEnds _ (splitS s.data.toList) _ _ from by rw [HE.out]; exact ⟨Below.refl _ _, rfl⟩)
    · have HE := Lib.hid (hE (by omega))
      have hx : s.extract 1 s.size = ⟨l.toArray⟩ := by
        rw [extract_str, hl]
        have : l.length = s.size - 1 := by rw [hl] at hr; simp at hr; omega
        rw [← this]; simp
      have b1 : (1 : Int) ≤ (s.size : Int) := by rw [hl] at hr; simp at hr; omega
      have hll : l.length ≤ 96 := by rw [hl] at hr; simp at hr; omega
      have HX := Lib.hid hx
      clear hE hl hx
      go_wp2_with (go_at_call 21; refine (Tryd.strings_HasPrefix s ⟨#[47]⟩ _).mono ?_; rintro e w1 ⟨rfl, rfl⟩)
      rw [HX.out]
      go_step3
      refine (‹∀ (a : Act) (w : World), Code.wp _ _ _ a w → _›) _ _ (hfirst 0 _ _ _ rfl ?_)
      exact ⟨l, [], none, 0, false, _, _, _, _, _, _, _, _, _, _, _, _, _, _, _, _, _, _, _, _, _, _, _, _, _, _, _, _, _, _, _, _, _, _, _, _, _, _, _, _, _, _, _, rfl, ⟨by simp, own_nil' _ _ _ _, by simp [Value.ownBlock], Below.refl _ _⟩, hll, HE.out⟩
end Go.Proofs.YtelmmfaifebdkaaDoor
