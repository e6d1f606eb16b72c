/- What a script is read as. Where what it reads is of bulk at most 1048576; the tables tied to the program. -/
import Derived.Test.YtpdnfcgdcndhpaaDoorActFindsWalk
import Derived.Test.YtpdnfcgdcndhpaaDoorActBulk2
set_option linter.unusedSimpArgs false
set_option linter.unusedVariables false
namespace Go.Proofs.YtpdnfcgdcndhpaaDoor.lawActFinds
open Go.ChangeShapes Go.WideShapes Go.ChangeAt Go.RowKit
set_option maxRecDepth 100000 in
set_option maxHeartbeats 1000000 in
theorem lifted (os : Os) (started : os.Started) (H : Type) (enc : TypeId × Value → H) (F : Stop.Interp) :
    ReturnsInHanded {} Tryd.checked os 5 .any ((Rows.OpenSpec.upto Rows.actFindsSpec).preRow enc Tryd.prog Tryd.f5 Rows.actFindsUptoRow.domain false Rows.actFindsUptoRow.laid) (((Rows.OpenSpec.upto Rows.actFindsSpec).at F).post enc Tryd.prog Tryd.f5 false true false false) := by
  have hreads : ∃ places, DataW.whole enc Tryd.prog ((World.laidAll Tryd.prog os laidAll).forCall (fun _ _ => 0) ⟨#[], #[.string ⟨#[]⟩], []⟩).memory Tryd.f5.params.toList Rows.actFindsSpec.vars false (#[.string ⟨#[]⟩] : Array Value).toList 16 = some ([.lit (.string [])], [], places) := ⟨[], by kernel_rfl⟩
  obtain ⟨places, hx⟩ := hreads
  have hok : Input.okWideB Tryd.checked.prog ((World.laidAll Tryd.prog os laidAll).forCall (fun _ _ => 0) ⟨#[], #[.string ⟨#[]⟩], []⟩) 5 ⟨#[], #[.string ⟨#[]⟩], []⟩ = true := by kernel_rfl
  refine returnsInHanded_of_row (C := Tryd.checked) (s := Rows.OpenSpec.upto Rows.actFindsSpec) own started (by kernel_rfl) Tryd.func5
    ⟨World.laidAll Tryd.prog os laidAll, fun _ _ => 0, ⟨#[], #[.string ⟨#[]⟩], []⟩, World.laidAll_os _ _ _, door_shaped os _, (Input.okWide_of_okWideB (base := 0) hok).1, (Input.okWide_of_okWideB hok).2,
      OpenSpec.preRow_of_cond 16 hx (by kernel_rfl) (fun k hk => by cases hk; kernel_rfl) (by kernel_rfl) (door_met os _), by
        simp only [Assume.holds]
        exact ⟨by simp, by simp, fun h => by simp at h, by simp, by simp⟩⟩ ?_
  intro W base args ds gs before hval0 hW _ hcond hsz0 hL hshape _
  have hsz : (DataW.weightsEach Tryd.prog (Tryd.f5.params.toList ++ Rows.actFindsSpec.plain.varTypes Tryd.prog) (ds ++ gs)).all (· ≤ reachBytes) = true := hsz0
  clear hsz0
  have hbulk : Rows.uptoBulkAll (ds ++ gs) ≤ 1048576 := of_decide_eq_true (hcond _ rfl)
  clear hcond
  have hwv : WV W.heap.size W := wv_of hL hshape
  clear hL hshape
  have hval : ∀ (j : Nat) t v, Tryd.f5.params[j]? = some t → args[j]? = some v → Value.okWide Tryd.prog W .any base t v := hval0
  have hW' := hW
  obtain ⟨p, q, hA0, hV, rfl, hfz, hnd⟩ := hW
  have hA : DataW.TrodAll enc Tryd.prog W 0 (fun _ => true) true Tryd.f5.params.toList args.toList ds p := hA0
  rw [Tryd.params5] at hA hval hsz
  obtain ⟨v0, vs0, d0, ds0, p0, q0, hargs, rfl, rfl, h0, r0⟩ := trodAll_cons hA
  obtain ⟨rfl, rfl, rfl⟩ := trodAll_nil r0
  obtain rfl : args = #[v0] := by cases args; simp_all
  obtain ⟨rfl, rfl⟩ := trodVars_none hV
  simp only [List.append_nil, List.cons_append, List.nil_append, Rows.uptoBulkAll] at hbulk
  have k0 := h0
  have lt0 : ∀ x ∈ p0, x.block < W.heap.size := by obtain ⟨m, hm⟩ := k0; exact DataW.trod_lt m _ _ _ hm
  have o0 : OpensB Tryd.prog W 9 v0.cells.toList (Rows.uptoBulk d0) := OpensB.arg h0 hsz (j := 0) rfl rfl
  have hv0 := hval 0 9 v0 rfl rfl
  clear hA0 hval0
  obtain ⟨s0, hs0, hl0⟩ := o0.string Tryd.underlying9
  obtain ⟨b0, rfl⟩ := okWide_string Tryd.underlying9 hv0
  obtain rfl : b0 = ⟨s0.toArray⟩ := by injection (show [Value.string b0] = [Value.string ⟨s0.toArray⟩] from hs0) with e; injection e
  refine (walk s0 W (by omega) hwv).mono fun e W' ⟨he, bel⟩ => ?_
  subst he
  exact ⟨_, rfl, _, _, _, [], _, [], hW', trodAll_mk1 (shut_bool Tryd.underlying4 _), (trodAll_cons_mk (Below.trod laidOut (by kernel_rfl) (of_decide_eq_true (by kernel_rfl)) k0 bel lt0) trodAll_mk0), rfl, bel.frame _, fun h => by cases h⟩
theorem row_holds : Rows.ActFindsUptoSaid :=
  OpenClaim.holds_of_cond 5 Tryd.f5 rfl rfl rfl rfl rfl rfl rfl ⟨rfl, rfl, rfl, rfl, rfl⟩ rfl rfl rfl rfl rfl (by kernel_rfl) Tryd.func5 (by kernel_rfl)
    (of_decide_eq_true (by kernel_rfl)) (by unfold Func.isWrapper; first | (rw [if_pos (by decide +kernel)]; kernel_rfl) | (rw [if_neg (by decide +kernel)]; exact ⟨rfl, rfl⟩))
    (fun os started H enc _ F => by rw [OpenClaim.pre_eq_preRow]; exact lifted os started H enc F)
theorem proved : Rows.ActFindsUptoCardSaid :=
  Claim7.holds_tied_plain_at .later [] _ _ _ _
    row_holds (fun _ h => by cases h) (by kernel_rfl) (fun _ h => by cases h) actFindsUpto_row_tie rfl ⟨rfl, rfl⟩ (by kernel_rfl) rfl
    (fun f fn hf hfn => by
      obtain rfl : f = 5 := Option.some.inj ((show Tryd.prog.funcNamed "copyhold/copyholdlaw24.ActFinds" = some 5 by kernel_rfl).symm.trans hf) |>.symm
      obtain rfl : fn = Tryd.f5 := (Option.some.inj (Tryd.func5.symm.trans hfn)).symm
      exact ⟨by kernel_rfl, fun j t ht => by
        rw [Tryd.params5] at ht
        have hm : t ∈ [9] := by simpa using Array.mem_of_getElem? ht
        have hall : ([9].all fun u => !Tryd.prog.wantsStandIn u) = true := by kernel_rfl
        exact (show Tryd.prog.wantsStandIn t = false by simpa using List.all_eq_true.1 hall t hm)⟩)
    (by kernel_rfl)
#print axioms proved
end Go.Proofs.YtpdnfcgdcndhpaaDoor.lawActFinds
