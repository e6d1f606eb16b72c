/- The plain laws of words and lines: what is written is read as it was. -/
import Derived.Test.YtpdnfcgdcndhpaaDoorActP
set_option linter.unusedSimpArgs false
set_option linter.unusedVariables false
namespace Go.Proofs.YtpdnfcgdcndhpaaDoor
open Go.RowKit

/-! ### texts -/
theorem un_hex : ∀ n : Fin 256, unB (hexD (n.val / 16)) (hexD (n.val % 16)) = UInt8.ofNat n.val := by decide +kernel
theorem not_sign37 : isSign 37 = false := by decide +kernel
theorem untP_enc : ∀ s : Str, untP (encS s) = s
  | [] => rfl
  | c :: s => by
    have ih := untP_enc s
    have e : encS (c :: s) = encC c ++ encS s := by simp [encS]
    rw [e]
    unfold encC
    split
    · rename_i h
      have hc : c ≠ 37 := fun e => by rw [e, not_sign37] at h; cases h
      rw [List.singleton_append, untP_other (.inl hc), ih]
    · have := un_hex ⟨c.toNat, c.toNat_lt⟩
      have h2 : unB (hexD (c.toNat / 16)) (hexD (c.toNat % 16)) = c := by simpa using this
      show untP (37 :: hexD (c.toNat / 16) :: hexD (c.toNat % 16) :: encS s) = _
      rw [untP, if_pos rfl, h2, ih]
theorem enc_ne (s : Str) (h : s ≠ []) : encS s ≠ [37] := by
  cases s with
  | nil => exact absurd rfl h
  | cons c s =>
    intro e
    have e2 : encS (c :: s) = encC c ++ encS s := by simp [encS]
    rw [e2] at e
    unfold encC at e
    split at e
    · rename_i h
      rw [List.singleton_append] at e
      injection e with e1 _
      rw [e1, not_sign37] at h
      cases h
    · simp at e
theorem untext_text (s : Str) : untextP (textP s) = s := by
  unfold textP
  split
  · rename_i h; rw [h]; rfl
  · rename_i h
    unfold untextP
    rw [if_neg (enc_ne s h), untP_enc]
/-! ### numbers -/
theorem parse_snoc (c : UInt8) : ∀ (l : Str) (acc u : Nat), Lib.parseUint10 acc l = .ok u → Lib.parseUint10 acc (l ++ [c]) = Lib.parseUint10 u [c]
  | [], acc, u, h => by
    simp only [Lib.parseUint10] at h
    injection h with h
    rw [h]; rfl
  | d :: l, acc, u, h => by
    rw [List.cons_append]
    rw [Lib.parseUint10] at h ⊢
    split at h
    · rename_i h1
      split at h
      · cases h
      · rename_i h2
        split at h
        · cases h
        · rename_i h3
          rw [if_pos h1, if_neg h2, if_neg h3]
          exact parse_snoc c l _ u h
    · cases h
theorem parse_dec (n : Nat) : ∀ u, u ≤ n → u < 18446744073709551616 → Lib.parseUint10 0 (Lib.decDigits u) = .ok u := by
  induction n with
  | zero =>
    intro u h1 h2
    obtain rfl : u = 0 := by omega
    rw [Lib.decDigits, dif_pos (by omega)]
    decide
  | succ n ih =>
    intro u h1 h2
    rw [Lib.decDigits]
    split
    · rename_i h
      have e : (UInt8.ofNat (48 + u)).toNat = 48 + u := by rw [UInt8.toNat_ofNat']; omega
      rw [Lib.parseUint10, e, if_pos (by omega), if_neg (by omega), if_neg (by omega), Lib.parseUint10]
      congr 1
      omega
    · rename_i h
      have := ih (u / 10) (by omega) (by omega)
      have e : (UInt8.ofNat (48 + u % 10)).toNat = 48 + u % 10 := by rw [UInt8.toNat_ofNat']; omega
      rw [parse_snoc _ _ _ _ this, Lib.parseUint10, e, if_pos (by omega), if_neg (by omega), if_neg (by omega), Lib.parseUint10]
      congr 1
      omega
theorem dec_head (u : Nat) : ∃ c r, Lib.decDigits u = c :: r ∧ 48 ≤ c.toNat ∧ c.toNat ≤ 57 := by
  have hh : ∀ n u, u ≤ n → ∃ c r, Lib.decDigits u = c :: r ∧ 48 ≤ c.toNat ∧ c.toNat ≤ 57 := by
    intro n
    induction n with
    | zero =>
      intro u h
      obtain rfl : u = 0 := by omega
      exact ⟨48, [], by rw [Lib.decDigits, dif_pos (by omega)]; rfl, by decide, by decide⟩
    | succ n ih =>
      intro u h
      rw [Lib.decDigits]
      split
      · refine ⟨_, [], rfl, ?_⟩
        rw [UInt8.toNat_ofNat']
        omega
      · obtain ⟨c, r, e, h1⟩ := ih (u / 10) (by omega)
        exact ⟨c, r ++ [_], by rw [e]; rfl, h1⟩
  exact hh u u (Nat.le_refl _)
theorem atoi_itoa (n : Int) (h : I64 n) : Lib.atoiAll (Lib.itoa n) = .ok n := by
  obtain ⟨h0, h1⟩ := h
  unfold Lib.itoa
  split
  · rename_i hn
    rw [Lib.atoiAll_minus]
    have hp : Lib.parseMag (Lib.decDigits n.natAbs) = .ok n.natAbs := by
      unfold Lib.parseMag
      obtain ⟨c, r, e, _⟩ := dec_head n.natAbs
      rw [if_neg (by rw [e]; simp)]
      exact parse_dec _ _ (Nat.le_refl _) (by omega)
    rw [hp]
    unfold Lib.signed
    simp only
    rw [if_neg (by omega)]
    exact congrArg _ (by omega)
  · rename_i hn
    obtain ⟨c, r, e, c1, c2⟩ := dec_head n.toNat
    have hp : Lib.parseMag (Lib.decDigits n.toNat) = .ok n.toNat := by
      unfold Lib.parseMag
      rw [if_neg (by rw [e]; simp)]
      exact parse_dec _ _ (Nat.le_refl _) (by omega)
    rw [e, Lib.atoiAll_plain c r (by omega) (by omega), ← e, hp]
    unfold Lib.signless
    simp only
    rw [if_neg (by omega)]
    exact congrArg _ (by omega)
theorem num_itoa (n : Int) (h : I64 n) : numP (Lib.itoa n) = n := by
  unfold numP
  rw [atoi_itoa n h]
theorem nums_itoa : ∀ (l : List Int), (∀ k ∈ l, I64 k) → (l.map Lib.itoa).map numP = l
  | [], _ => rfl
  | k :: l, h => by
    rw [List.map_cons, List.map_cons, num_itoa k (h k (by simp)), nums_itoa l (fun k hk => h k (by simp [hk]))]
/-! ### calls and acts -/
theorem call_read (x : CallP) (h : CallOk x) (hk : hasK callT x.kind = true) : (callR (wordsP x)).1 = clrC x := by
  obtain ⟨kk, pp, oo, ff, aa, ss, dd⟩ := x
  have t1 := untext_text pp; have t2 := untext_text oo; have t3 := untext_text dd
  have n1 := num_itoa ff h.file; have n2 := num_itoa aa h.at_; have n3 := num_itoa ss h.size
  rcases iskind hk with e | e | e | e | e | e | e | e | e | e | e | e | e | e
  · simp only at e
    subst e
    show CallP.mk 1 (untextP (textP pp)) [] 0 0 0 [] = CallP.mk 1 pp [] 0 0 0 []
    rw [t1]
  · simp only at e
    subst e
    show CallP.mk 2 (untextP (textP pp)) [] 0 0 0 [] = CallP.mk 2 pp [] 0 0 0 []
    rw [t1]
  · simp only at e
    subst e
    show CallP.mk 3 [] [] (numP (Lib.itoa ff)) 0 0 [] = CallP.mk 3 [] [] ff 0 0 []
    rw [n1]
  · simp only at e
    subst e
    show CallP.mk 4 [] [] (numP (Lib.itoa ff)) (numP (Lib.itoa aa)) (numP (Lib.itoa ss)) [] = CallP.mk 4 [] [] ff aa ss []
    rw [n1, n2, n3]
  · simp only at e
    subst e
    show CallP.mk 5 [] [] (numP (Lib.itoa ff)) (numP (Lib.itoa aa)) 0 (untextP (textP dd)) = CallP.mk 5 [] [] ff aa 0 dd
    rw [n1, n2, t3]
  · simp only at e
    subst e
    show CallP.mk 6 [] [] (numP (Lib.itoa ff)) 0 (numP (Lib.itoa ss)) [] = CallP.mk 6 [] [] ff 0 ss []
    rw [n1, n3]
  · simp only at e
    subst e
    show CallP.mk 7 [] [] (numP (Lib.itoa ff)) 0 0 [] = CallP.mk 7 [] [] ff 0 0 []
    rw [n1]
  · simp only at e
    subst e
    show CallP.mk 8 (untextP (textP pp)) [] 0 0 0 [] = CallP.mk 8 pp [] 0 0 0 []
    rw [t1]
  · simp only at e
    subst e
    show CallP.mk 9 (untextP (textP pp)) [] 0 0 0 [] = CallP.mk 9 pp [] 0 0 0 []
    rw [t1]
  · simp only at e
    subst e
    show CallP.mk 10 (untextP (textP pp)) (untextP (textP oo)) 0 0 0 [] = CallP.mk 10 pp oo 0 0 0 []
    rw [t1, t2]
  · simp only at e
    subst e
    show CallP.mk 11 (untextP (textP pp)) [] 0 0 0 [] = CallP.mk 11 pp [] 0 0 0 []
    rw [t1]
  · simp only at e
    subst e
    show CallP.mk 12 (untextP (textP pp)) [] 0 0 0 [] = CallP.mk 12 pp [] 0 0 0 []
    rw [t1]
  · simp only at e
    subst e
    show CallP.mk 13 (untextP (textP pp)) (untextP (textP oo)) 0 0 0 [] = CallP.mk 13 pp oo 0 0 0 []
    rw [t1, t2]
  · simp only at e
    subst e
    show CallP.mk 14 (untextP (textP pp)) [] 0 0 0 [] = CallP.mk 14 pp [] 0 0 0 []
    rw [t1]
/-- What an act's words are read as. -/
def clrR (x : ActP) : ActP := { clrA x with call := if x.kind = 1 then clrC x.call else CallP.new 0 }
theorem act_words (x : ActP) (hk : hasK actT x.kind = true) : (x.kind = 1 ∧ writeP x = [99, 97, 108, 108] :: Lib.itoa x.a :: wordsP x.call) ∨ (x.kind = 2 ∧ writeP x = [100, 101, 108, 105, 118, 101, 114] :: [Lib.itoa x.a]) ∨ (x.kind = 3 ∧ writeP x = [100, 114, 111, 112] :: [Lib.itoa x.a]) ∨ (x.kind = 4 ∧ writeP x = [116, 119, 105, 110] :: [Lib.itoa x.a]) ∨ (x.kind = 5 ∧ writeP x = [116, 105, 99, 107] :: Lib.itoa x.n :: x.keep.map Lib.itoa) ∨ (x.kind = 6 ∧ writeP x = [99, 114, 97, 115, 104] :: [Lib.itoa x.a]) ∨ (x.kind = 7 ∧ writeP x = [115, 116, 97, 114, 116] :: Lib.itoa x.a :: Lib.itoa x.n :: x.keep.map Lib.itoa) ∨ (x.kind = 8 ∧ writeP x = [102, 117, 115, 101] :: [Lib.itoa x.n]) := by
  obtain ⟨kk, aa, nn, cc, ks⟩ := x
  rcases isact hk with e | e | e | e | e | e | e | e
  · simp only at e
    subst e
    refine .inl ⟨rfl, ?_⟩
    show _ :: List.flatMap (fieldA ⟨1, aa, nn, cc, ks⟩) [97, 99] = _
    simp only [List.flatMap_cons, List.flatMap_nil, List.append_nil]
    rfl
  · simp only at e
    subst e
    refine .inr (.inl ⟨rfl, ?_⟩)
    show _ :: List.flatMap (fieldA ⟨2, aa, nn, cc, ks⟩) [97] = _
    simp only [List.flatMap_cons, List.flatMap_nil, List.append_nil]
    rfl
  · simp only at e
    subst e
    refine .inr (.inr (.inl ⟨rfl, ?_⟩))
    show _ :: List.flatMap (fieldA ⟨3, aa, nn, cc, ks⟩) [97] = _
    simp only [List.flatMap_cons, List.flatMap_nil, List.append_nil]
    rfl
  · simp only at e
    subst e
    refine .inr (.inr (.inr (.inl ⟨rfl, ?_⟩)))
    show _ :: List.flatMap (fieldA ⟨4, aa, nn, cc, ks⟩) [97] = _
    simp only [List.flatMap_cons, List.flatMap_nil, List.append_nil]
    rfl
  · simp only at e
    subst e
    refine .inr (.inr (.inr (.inr (.inl ⟨rfl, ?_⟩))))
    show _ :: List.flatMap (fieldA ⟨5, aa, nn, cc, ks⟩) [110, 107] = _
    simp only [List.flatMap_cons, List.flatMap_nil, List.append_nil]
    rfl
  · simp only at e
    subst e
    refine .inr (.inr (.inr (.inr (.inr (.inl ⟨rfl, ?_⟩)))))
    show _ :: List.flatMap (fieldA ⟨6, aa, nn, cc, ks⟩) [97] = _
    simp only [List.flatMap_cons, List.flatMap_nil, List.append_nil]
    rfl
  · simp only at e
    subst e
    refine .inr (.inr (.inr (.inr (.inr (.inr (.inl ⟨rfl, ?_⟩))))))
    show _ :: List.flatMap (fieldA ⟨7, aa, nn, cc, ks⟩) [97, 110, 107] = _
    simp only [List.flatMap_cons, List.flatMap_nil, List.append_nil]
    rfl
  · simp only at e
    subst e
    refine .inr (.inr (.inr (.inr (.inr (.inr (.inr (⟨rfl, ?_⟩)))))))
    show _ :: List.flatMap (fieldA ⟨8, aa, nn, cc, ks⟩) [110] = _
    simp only [List.flatMap_cons, List.flatMap_nil, List.append_nil]
    rfl
theorem act_read (x : ActP) (h : ActOk x) (hk : hasK actT x.kind = true) (hc : x.kind = 1 → hasK callT x.call.kind = true) : (actR (writeP x)).1 = clrR x := by
  have n1 := num_itoa x.a h.a; have n2 := num_itoa x.n h.n; have n3 := nums_itoa x.keep h.keep
  have cr := fun e => call_read x.call h.call (hc e)
  rcases act_words x hk with ⟨e, hw⟩ | ⟨e, hw⟩ | ⟨e, hw⟩ | ⟨e, hw⟩ | ⟨e, hw⟩ | ⟨e, hw⟩ | ⟨e, hw⟩ | ⟨e, hw⟩
  all_goals
    rw [hw]
    obtain ⟨kk, aa, nn, cc, ks⟩ := x
    simp only at e n1 n2 n3 cr
    subst e
  · show ActP.mk 1 (numP (Lib.itoa aa)) 0 (callR (wordsP cc)).1 [] = ActP.mk 1 aa 0 (clrC cc) []
    rw [n1, cr rfl]
  · show ActP.mk 2 (numP (Lib.itoa aa)) 0 (CallP.new 0) [] = ActP.mk 2 aa 0 (CallP.new 0) []
    rw [n1]
  · show ActP.mk 3 (numP (Lib.itoa aa)) 0 (CallP.new 0) [] = ActP.mk 3 aa 0 (CallP.new 0) []
    rw [n1]
  · show ActP.mk 4 (numP (Lib.itoa aa)) 0 (CallP.new 0) [] = ActP.mk 4 aa 0 (CallP.new 0) []
    rw [n1]
  · show ActP.mk 5 0 (numP (Lib.itoa nn)) (CallP.new 0) ([] ++ (ks.map Lib.itoa).map numP) = ActP.mk 5 0 nn (CallP.new 0) ks
    rw [n2, n3, List.nil_append]
  · show ActP.mk 6 (numP (Lib.itoa aa)) 0 (CallP.new 0) [] = ActP.mk 6 aa 0 (CallP.new 0) []
    rw [n1]
  · show ActP.mk 7 (numP (Lib.itoa aa)) (numP (Lib.itoa nn)) (CallP.new 0) ([] ++ (ks.map Lib.itoa).map numP) = ActP.mk 7 aa nn (CallP.new 0) ks
    rw [n1, n2, n3, List.nil_append]
  · show ActP.mk 8 0 (numP (Lib.itoa nn)) (CallP.new 0) [] = ActP.mk 8 0 nn (CallP.new 0) []
    rw [n2]
theorem known_of {x : ActP} : knownP x = true ↔ hasK actT x.kind = true ∧ (x.kind = 1 → hasK callT x.call.kind = true) := by
  unfold knownP
  simp only [Bool.and_eq_true, Bool.or_eq_true, bne_iff_ne]
  constructor
  · rintro ⟨h1, h2⟩
    exact ⟨h1, fun e => h2.resolve_right (fun h => h e)⟩
  · rintro ⟨h1, h2⟩
    refine ⟨h1, ?_⟩
    by_cases e : x.kind = 1
    · exact .inl (h2 e)
    · exact .inr e
theorem clrA_call (x : ActP) (hk : hasK actT x.kind = true) : (clrA x).call = if x.kind = 1 then x.call else CallP.new 0 := by
  obtain ⟨kk, aa, nn, cc, ks⟩ := x
  rcases isact hk with e | e | e | e | e | e | e | e
  all_goals
    simp only at e
    subst e
    rfl
theorem ok_law (x : ActP) (h : ActOk x) : llB x = okP x := by
  rw [Bool.eq_iff_iff]
  unfold llB okP
  simp only [Bool.and_eq_true, Bool.or_eq_true, bne_iff_ne, decide_eq_true_eq]
  constructor
  · rintro ⟨h1, h2, h3⟩
    have hc : x.kind = 1 → hasK callT x.call.kind = true := fun e => by
      have := h2.resolve_left (fun h => h e)
      unfold lcB at this
      rw [Bool.and_eq_true] at this
      exact this.1
    refine ⟨known_of.2 ⟨h1, hc⟩, ?_⟩
    rw [act_read x h h1 hc]
    have e2 := clrA_call x h1
    rw [← h3] at e2
    unfold clrR
    rw [← h3]
    by_cases e : x.kind = 1
    · have := h2.resolve_left (fun h => h e)
      unfold lcB at this
      rw [Bool.and_eq_true, decide_eq_true_eq] at this
      rw [if_pos e, ← this.2]
    · rw [if_neg e] at e2 ⊢
      rw [← e2]
  · rintro ⟨h1, h2⟩
    obtain ⟨h1, hc⟩ := known_of.1 h1
    rw [act_read x h h1 hc] at h2
    have e2 := clrA_call x h1
    have h4 : x.call = if x.kind = 1 then clrC x.call else CallP.new 0 := by
      have := congrArg ActP.call h2
      exact this.symm
    refine ⟨h1, ?_, ?_⟩
    · by_cases e : x.kind = 1
      · right
        rw [if_pos e] at h4
        unfold lcB
        rw [hc e, ← h4]
        simp
      · exact .inl e
    · have e3 : clrA x = clrR x := by
        have : (clrR x).call = (clrA x).call := by
          show (if x.kind = 1 then clrC x.call else CallP.new 0) = _
          rw [e2, ← h4]
          by_cases e : x.kind = 1
          · rw [if_pos e]
          · rw [if_neg e] at h4 ⊢
            exact h4
        have g : ∀ (y : ActP) (c : CallP), c = y.call → y = { y with call := c } := fun y c e => by subst e; rfl
        exact g (clrA x) _ this
      rw [e3]
      exact h2.symm
/-! ### words have no space and no newline -/
def Clean (s : Str) : Prop := ∀ c ∈ s, 33 ≤ c.toNat ∧ c.toNat ≤ 126
theorem encC_clean : ∀ n : Fin 256, (encC (UInt8.ofNat n.val)).all (fun c => decide (33 ≤ c.toNat ∧ c.toNat ≤ 126)) = true := by decide +kernel
theorem clean_enc (s : Str) : Clean (encS s) := by
  intro c hc
  unfold encS at hc
  obtain ⟨d, _, hd⟩ := List.mem_flatMap.1 hc
  have := encC_clean ⟨d.toNat, d.toNat_lt⟩
  have e : UInt8.ofNat d.toNat = d := by simp
  rw [e] at this
  exact of_decide_eq_true (List.all_eq_true.1 this c hd)
theorem clean_text (s : Str) : Clean (textP s) := by
  unfold textP
  split
  · intro c hc
    rw [List.mem_singleton.1 hc]
    decide
  · exact clean_enc s
theorem clean_dec : ∀ n u, u ≤ n → Clean (Lib.decDigits u) := by
  intro n
  induction n with
  | zero =>
    intro u h c hc
    obtain rfl : u = 0 := by omega
    rw [Lib.decDigits, dif_pos (by omega)] at hc
    rw [List.mem_singleton.1 hc]
    decide
  | succ n ih =>
    intro u h c hc
    rw [Lib.decDigits] at hc
    split at hc
    · rw [List.mem_singleton.1 hc, UInt8.toNat_ofNat']
      omega
    · rcases List.mem_append.1 hc with hc | hc
      · exact ih (u / 10) (by omega) c hc
      · rw [List.mem_singleton.1 hc, UInt8.toNat_ofNat']
        omega
theorem clean_itoa (n : Int) : Clean (Lib.itoa n) := by
  unfold Lib.itoa
  split
  · intro c hc
    rcases List.mem_cons.1 hc with rfl | hc
    · decide
    · exact clean_dec _ _ (Nat.le_refl _) c hc
  · exact clean_dec _ _ (Nat.le_refl _)
theorem clean_word {T : List KR} (h : (T.all fun r => r.word.all fun c => decide (33 ≤ c.toNat ∧ c.toNat ≤ 126)) = true) (k : Int) : Clean (kindOf T k).word := by
  unfold kindOf
  cases hf : T.find? (fun r => r.k == k) with
  | none => intro c hc; simp at hc
  | some q => exact fun c hc => of_decide_eq_true (List.all_eq_true.1 (List.all_eq_true.1 h q (List.mem_of_find?_eq_some hf)) c hc)
theorem clean_words (x : CallP) : ∀ s ∈ wordsP x, Clean s := by
  intro s hs
  unfold wordsP at hs
  rcases List.mem_cons.1 hs with rfl | hs
  · exact clean_word (by decide +kernel) _
  · obtain ⟨c, _, hc⟩ := List.mem_flatMap.1 hs
    unfold fieldW at hc
    repeat' split at hc
    all_goals first
      | (rw [List.mem_singleton.1 hc]; first | exact clean_text _ | exact clean_itoa _)
      | cases hc
theorem clean_write (x : ActP) : ∀ s ∈ writeP x, Clean s := by
  intro s hs
  unfold writeP at hs
  rcases List.mem_cons.1 hs with rfl | hs
  · exact clean_word (by decide +kernel) _
  · obtain ⟨c, _, hc⟩ := List.mem_flatMap.1 hs
    unfold fieldA at hc
    split at hc
    · rw [List.mem_singleton.1 hc]; exact clean_itoa _
    split at hc
    · rw [List.mem_singleton.1 hc]; exact clean_itoa _
    split at hc
    · exact clean_words _ s hc
    split at hc
    · obtain ⟨k, _, rfl⟩ := List.mem_map.1 hc
      exact clean_itoa _
    · cases hc
theorem line_chars (x : ActP) : ∀ c ∈ jnW (writeP x), 32 ≤ c.toNat ∧ c.toNat ≤ 126 := by
  have h : ∀ l : List Str, (∀ s ∈ l, Clean s) → ∀ c ∈ jnW l, 32 ≤ c.toNat ∧ c.toNat ≤ 126 := by
    intro l hl c hc
    cases l with
    | nil => simp [jnW, Lib.join, List.intercalate] at hc
    | cons a l =>
      rw [jn_cons] at hc
      rcases List.mem_append.1 hc with hc | hc
      · have := hl a (by simp) c hc
        omega
      · obtain ⟨s, hs, hc⟩ := List.mem_flatMap.1 hc
        rcases List.mem_cons.1 hc with rfl | hc
        · decide
        · have := hl s (by simp [hs]) c hc
          omega
  exact h _ (clean_write x)
/-! ### a line that is cut at its spaces -/
theorem index_miss (d : UInt8) : ∀ a : Str, (∀ c ∈ a, c ≠ d) → Lib.index a [d] = -1
  | [], _ => by simp [Lib.index]
  | c :: a, h => by
    have hc := h c (by simp)
    rw [Lib.index, index_miss d a (fun e he => h e (by simp [he]))]
    simp [List.isPrefixOf, Ne.symm hc]
theorem index_hit (d : UInt8) (r : Str) : ∀ a : Str, (∀ c ∈ a, c ≠ d) → Lib.index (a ++ d :: r) [d] = (a.length : Int)
  | [], _ => by simp [Lib.index, List.isPrefixOf]
  | c :: a, h => by
    have hc := h c (by simp)
    rw [List.cons_append, Lib.index, index_hit d r a (fun e he => h e (by simp [he]))]
    have e1 : ([d] : Str).isPrefixOf (c :: (a ++ d :: r)) = false := by simp [List.isPrefixOf, Ne.symm hc]
    rw [e1]
    have e2 : ((a.length : Int) == -1) = false := beq_eq_false_iff_ne.2 (by omega)
    rw [e2]
    simp
theorem split_join : ∀ (l : List Str) (a : Str), (∀ s ∈ a :: l, ∀ c ∈ s, c ≠ 32) → spW (jnW (a :: l)) = a :: l
  | [], a, h => by
    have e : jnW [a] = a := by simp [jnW, Lib.join, List.intercalate]
    have hm := index_miss 32 a (h a (by simp))
    rw [e]
    unfold spW Lib.split
    rw [Lib.count_miss hm]
    rfl
  | b :: l, a, h => by
    have e : jnW (a :: b :: l) = a ++ 32 :: jnW (b :: l) := by simp [jnW, Lib.join, List.intercalate, List.intersperse]
    have ih := split_join l b (fun s hs => h s (List.mem_cons_of_mem _ hs))
    have hi := index_hit 32 (jnW (b :: l)) a (h a (by simp))
    rw [e]
    unfold spW Lib.split at ih ⊢
    have hdr : List.drop (a.length + ([32] : Str).length) (a ++ 32 :: jnW (b :: l)) = jnW (b :: l) := by
      rw [← List.drop_drop, List.drop_left]
      rfl
    have e2 : ((a.length : Int) == -1) = false := beq_eq_false_iff_ne.2 (by omega)
    rw [Lib.count_hit (by simp) hi, hdr, Nat.add_comm 1, Lib.splitK, hi, e2]
    have e3 : ((a.length : Int).toNat) = a.length := by omega
    simp only [Bool.false_eq_true, if_false, e3, Nat.add_zero, hdr]
    rw [List.take_left, ih]
theorem join_split (x : ActP) : spW (jnW (writeP x)) = writeP x := by
  have h := clean_write x
  unfold writeP at h ⊢
  exact split_join _ _ (fun s hs c hc e => by have := h s hs c hc; rw [e] at this; revert this; decide)
/-- A line that was written is read as it was. -/
theorem act_of_line (x : ActP) (h : okP x = true) : actOf (jnW (writeP x)) = some x := by
  unfold actOf
  rw [join_split]
  have h2 : (actR (writeP x)).1 = x := by
    unfold okP at h
    rw [Bool.and_eq_true, decide_eq_true_eq] at h
    exact h.2
  rw [h2, if_pos ⟨h, rfl⟩]
theorem line_inj {x y : ActP} (hx : okP x = true) (hy : okP y = true) : jnW (writeP x) = jnW (writeP y) ↔ x = y := by
  constructor
  · intro e
    have h1 := act_of_line x hx
    rw [e, act_of_line y hy] at h1
    exact (Option.some.inj h1).symm
  · intro e
    rw [e]
/-- What is read is written as the line that it was. -/
theorem act_of_some {s : Str} {x : ActP} (h : actOf s = some x) : okP x = true ∧ jnW (writeP x) = s := by
  unfold actOf at h
  split at h
  · rename_i hh
    injection h with h
    rw [← h]
    exact hh
  · cases h
end Go.Proofs.YtpdnfcgdcndhpaaDoor
