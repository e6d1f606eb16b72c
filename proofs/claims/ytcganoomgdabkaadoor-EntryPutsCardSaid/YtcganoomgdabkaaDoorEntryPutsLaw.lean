/- A new name that is put where Place says is found there, and all others stay; the names are as many, and one. For every input; the tables tied to the program. -/
import Derived.Test.YtcganoomgdabkaaDoorEntryPutsWalk
import Derived.Test.YtcganoomgdabkaaDoorEntryCard
set_option linter.unusedSimpArgs false
set_option linter.unusedVariables false
namespace Go.Proofs.YtcganoomgdabkaaDoor.lawEntryPuts
open Go.ChangeShapes Go.WideShapes Go.ChangeAt Go.RowKit
set_option maxRecDepth 100000 in
set_option maxHeartbeats 1000000 in
theorem lifted (os : Os) (started : os.Started) (H : Type) (enc : TypeId × Value → H) :
    ReturnsInHanded {} Tryd.checked os 7 .any (fun w args => (Rows.entryPutsSpec.pre enc Tryd.prog Tryd.f7 Rows.entryPutsRow.domain false w args ∧ laidMetH Tryd.prog laidAll w) ∧ sizedMet enc Tryd.prog Tryd.f7 (OpenSpec.ofChange Rows.entryPutsSpec) false w args) (Rows.entryPutsSpec.post enc Tryd.prog Tryd.f7 false true false false) := by
  refine handed_shaped (C := Tryd.checked) (X := fun w _ => laidMetH Tryd.prog laidAll w) (fun _ _ _ hh h => h.of_heap hh) own started (by kernel_rfl) Tryd.func7
    (ChangeSpec.witness_shaped (enc := enc) (C := Tryd.checked) (os := os) (X := fun w _ => laidMetH Tryd.prog laidAll w) false (World.laidAll Tryd.prog os laidAll) #[.slice none 0 0, .string ⟨#[]⟩, .int .u8 0] 8 (World.laidAll_os _ _ _)
      (door_shaped os _) (by kernel_rfl) (by kernel_rfl) (by kernel_rfl) (door_met os _)) ?_
  intro W base args ds gs before hval0 hW hsz0 hshape0
  have hsz : (DataW.weightsEach Tryd.prog (Tryd.f7.params.toList ++ Rows.entryPutsSpec.plain.varTypes Tryd.prog) (ds ++ gs)).all (· ≤ reachBytes) = true := hsz0
  clear hsz0
  clear hshape0
  have hval : ∀ (j : Nat) t v, Tryd.f7.params[j]? = some t → args[j]? = some v → Value.okWide Tryd.prog W .any base t v := hval0
  have hW' := hW
  obtain ⟨p, q, hA0, hV, rfl, hfz, hnd⟩ := hW
  have hA : DataW.TrodAll enc Tryd.prog W 0 (fun _ => true) true Tryd.f7.params.toList args.toList ds p := hA0
  rw [Tryd.params7] at hA hval hsz
  obtain ⟨v0, vs0, d0, ds0, p0, q0, hargs, rfl, rfl, h0, r0⟩ := trodAll_cons hA
  obtain ⟨v1, vs1, d1, ds1, p1, q1, rfl, rfl, rfl, h1, r1⟩ := trodAll_cons r0
  obtain ⟨v2, vs2, d2, ds2, p2, q2, rfl, rfl, rfl, h2, r2⟩ := trodAll_cons r1
  obtain ⟨rfl, rfl, rfl⟩ := trodAll_nil r2
  obtain rfl : args = #[v0, v1, v2] := by cases args; simp_all
  obtain ⟨rfl, rfl⟩ := trodVars_none hV
  have k0 := h0
  have lt0 : ∀ x ∈ p0, x.block < W.heap.size := by obtain ⟨m, hm⟩ := k0; exact DataW.trod_lt m _ _ _ hm
  have o0 : Opens Tryd.prog W 24 v0.cells.toList := Opens.arg h0 hsz (j := 0) rfl rfl
  have hv0 := hval 0 24 v0 rfl rfl
  have k1 := h1
  have lt1 : ∀ x ∈ p1, x.block < W.heap.size := by obtain ⟨m, hm⟩ := k1; exact DataW.trod_lt m _ _ _ hm
  have o1 : Opens Tryd.prog W 9 v1.cells.toList := Opens.arg h1 hsz (j := 1) rfl rfl
  have hv1 := hval 1 9 v1 rfl rfl
  have k2 := h2
  have lt2 : ∀ x ∈ p2, x.block < W.heap.size := by obtain ⟨m, hm⟩ := k2; exact DataW.trod_lt m _ _ _ hm
  have o2 : Opens Tryd.prog W 5 v2.cells.toList := Opens.arg h2 hsz (j := 2) rfl rfl
  have hv2 := hval 2 5 v2 rfl rfl
  clear hA0 hval0
  obtain ⟨A0, c0, l0, hvv0, sl0, b0⟩ := Opens.bytes Tryd.underlying24 Tryd.underlying5 (by kernel_rfl) (by kernel_rfl) o0
  obtain rfl : v0 = .slice A0 l0.length c0 := strs_value Tryd.underlying24 hv0 hvv0
  have cc0 := trod_cap Tryd.underlying24 h0
  obtain ⟨s1, e1, z1⟩ := o1.string Tryd.underlying9
  obtain ⟨b1, rfl⟩ := okWide_string Tryd.underlying9 hv1
  obtain rfl : s1 = b1 := by injection (show [Value.string b1] = [Value.string s1] from e1) with e; injection e with e; exact e.symm
  obtain ⟨l1, rfl⟩ : ∃ l : Str, s1 = ⟨l.toArray⟩ := ⟨s1.data.toList, by simp⟩
  obtain ⟨x2, rfl, rfl, rfl, wx2⟩ := open_int Tryd.underlying5 hv2 h2
  have hx2 : 0 ≤ x2 ∧ x2 < 256 := by
    simp only [Lit.wf, IntKind.min, IntKind.max, IntKind.signed, IntKind.bits, Bool.and_eq_true, decide_eq_true_eq] at wx2
    simp at wx2
    omega
  obtain ⟨n2, rfl⟩ : ∃ n : Nat, x2 = (n : Int) := ⟨x2.toNat, by omega⟩
  have hn2 : n2 < 256 := by omega
  refine (walk A0 l0.length c0 l0 l1 n2 W sl0 b0 cc0 (show l1.length ≤ 140737488351232 by simpa [ByteArray.size] using z1) hn2).mono fun e W' ⟨he, bel⟩ => ?_
  subst he
  exact ⟨_, rfl, _, _, _, [], _, [], hW', trodAll_mk1 (shut_bool Tryd.underlying4 _), (trodAll_cons_mk (Below.trod laidOut (by kernel_rfl) (of_decide_eq_true (by kernel_rfl)) k0 bel lt0) (trodAll_cons_mk (Below.trod laidOut (by kernel_rfl) (of_decide_eq_true (by kernel_rfl)) k1 bel lt1) (trodAll_cons_mk (Below.trod laidOut (by kernel_rfl) (of_decide_eq_true (by kernel_rfl)) k2 bel lt2) trodAll_mk0))), rfl, bel.frame _, fun h => by cases h⟩
theorem row_holds : Rows.EntryPutsSaid :=
  OpenClaim.holds_of_wide 7 Tryd.f7 rfl rfl rfl rfl rfl rfl rfl ⟨rfl, rfl, rfl, rfl, rfl⟩ rfl rfl rfl rfl rfl (by kernel_rfl) Tryd.func7 (by kernel_rfl)
    (of_decide_eq_true (by kernel_rfl)) (by unfold Func.isWrapper; rw [if_neg (of_decide_eq_false (by kernel_rfl))]; exact ⟨rfl, rfl⟩)
    (fun os started H enc _ => lifted os started H enc)
theorem proved : Rows.EntryPutsCardSaid :=
  Claim7.holds_tied_plain_at .later [] [.data, .pinned] true (true, "8898f7f9fec4d77df7b3b1620816476264d6720660ba353a6f5d98a199a84314") false
    row_holds (fun _ h => by cases h) (by kernel_rfl) (fun _ h => by cases h) entryPuts_row_tie rfl ⟨rfl, rfl⟩ (by kernel_rfl) rfl
    (fun f fn hf hfn => by
      obtain rfl : f = 7 := Option.some.inj ((show Tryd.prog.funcNamed "copyhold/copyholdlaw12.EntryPuts" = some 7 by kernel_rfl).symm.trans hf) |>.symm
      obtain rfl : fn = Tryd.f7 := (Option.some.inj (Tryd.func7.symm.trans hfn)).symm
      exact ⟨by kernel_rfl, fun j t ht => by
        rw [Tryd.params7] at ht
        have hm : t ∈ [24, 9, 5] := by simpa using Array.mem_of_getElem? ht
        have hall : ([24, 9, 5].all fun u => !Tryd.prog.wantsStandIn u) = true := by kernel_rfl
        exact (show Tryd.prog.wantsStandIn t = false by simpa using List.all_eq_true.1 hall t hm)⟩)
    (by kernel_rfl)
#print axioms proved
end Go.Proofs.YtcganoomgdabkaaDoor.lawEntryPuts
