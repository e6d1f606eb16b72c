/-
  No cell of these rows narrows 'for every input' (looked for: loops, veiled, ifaces, maps, wideKeys, modest, calm, conditions, laid).
  DERIVED. THE GIVEN ROWS OF THIS SEAT. 4 by the template 'for every input the law returns true; each argument reads behind the call as it read before'; 0 by the template 'total and deterministic' (their statements: YtgedcnnbeangcaaGreatTotals.lean).
  GIVEN WITH THE SEED: the statements are not yours to turn. If you find one false, say at which input.
  Laid BY PROGRAM, IN A SANDBOX (cutbox-rows.mjs): the forced cells as the released guide's own fill.sh prints them over the translation 0d89f1815716229c… (all of the seat's roots in one cut). By AI agents, Wed Nov 11 2026. No macro, syntax, notation, axiom, sorry.
-/
import Derived.Test.YtgedcnnbeangcaaGreatChecked
import GoSem.Claim
import GoSem.ClaimJoined
import GoSem.ClaimMapViews
import Derived.JoinedTies
import Derived.KernelRfl
namespace Go.Proofs.YtgedcnnbeangcaaGreat
/- THE CELL 'sum', in the pinned program and in every row, IS THE sha256 OF THE DUMP (.gsa) THAT YtgedcnnbeangcaaGreatProg.lean LOADS. Nothing in Lean hashes anything: it is a label: what it is worth is what the hold of that sum in a sandbox is worth. -/
noncomputable def Tryz.pinned : Pinned := { name := "ytgedcnnbeangcaagreat", sum := "0d89f1815716229cab5eb68c3cfc6efdf7996b2f38c26451025a9f26d577bb38", checked := Tryz.checked }
namespace Rows
def none {H : Type} : Left H := { results := [], args := [] }

/-- 'copyholdlaw13.StoreOnce': WHATEVER THE INPUT: true; the input reads as it did. -/
def storeOnceSpec : ChangeSpec := { name := "storeOnce", fn := fun _ => fun
  | [d1, d2, d3] => { results := [.lit (.bool true)], args := [d1, d2, d3] }
  | _ => none }
def storeOnceRow : OpenClaim := { program := "ytgedcnnbeangcaagreat", sum := "0d89f1815716229cab5eb68c3cfc6efdf7996b2f38c26451025a9f26d577bb38", func := "copyhold/copyholdlaw13.StoreOnce", spec := "storeOnce", unfollowed := true, recurses := true, apart := false }
def StoreOnceSaid : Prop := storeOnceRow.holds Tryz.pinned (OpenSpec.ofChange storeOnceSpec)

/-- ITS FALSE NEIGHBOUR: 'it returns false'. Refute it at one input. -/
def storeOnceWrong : ChangeSpec := { name := "storeOnce", fn := fun _ => fun
  | [d1, d2, d3] => { results := [.lit (.bool false)], args := [d1, d2, d3] }
  | _ => none }
def StoreOnceWrongFalsely : Prop := storeOnceRow.holds Tryz.pinned (OpenSpec.ofChange storeOnceWrong)

/-- 'copyholdlaw13.StoreMounts': WHATEVER THE INPUT: true; the input reads as it did. -/
def storeMountsSpec : ChangeSpec := { name := "storeMounts", fn := fun _ => fun
  | [d1, d2, d3] => { results := [.lit (.bool true)], args := [d1, d2, d3] }
  | _ => none }
def storeMountsRow : OpenClaim := { program := "ytgedcnnbeangcaagreat", sum := "0d89f1815716229cab5eb68c3cfc6efdf7996b2f38c26451025a9f26d577bb38", func := "copyhold/copyholdlaw13.StoreMounts", spec := "storeMounts", unfollowed := true, recurses := true, apart := false }
def StoreMountsSaid : Prop := storeMountsRow.holds Tryz.pinned (OpenSpec.ofChange storeMountsSpec)

/-- ITS FALSE NEIGHBOUR: 'it returns false'. Refute it at one input. -/
def storeMountsWrong : ChangeSpec := { name := "storeMounts", fn := fun _ => fun
  | [d1, d2, d3] => { results := [.lit (.bool false)], args := [d1, d2, d3] }
  | _ => none }
def StoreMountsWrongFalsely : Prop := storeMountsRow.holds Tryz.pinned (OpenSpec.ofChange storeMountsWrong)

/-- 'copyholdlaw13.StoreBack': WHATEVER THE INPUT: true; the input reads as it did. -/
def storeBackSpec : ChangeSpec := { name := "storeBack", fn := fun _ => fun
  | [d1, d2] => { results := [.lit (.bool true)], args := [d1, d2] }
  | _ => none }
def storeBackRow : OpenClaim := { program := "ytgedcnnbeangcaagreat", sum := "0d89f1815716229cab5eb68c3cfc6efdf7996b2f38c26451025a9f26d577bb38", func := "copyhold/copyholdlaw13.StoreBack", spec := "storeBack", unfollowed := true, recurses := true, apart := false }
def StoreBackSaid : Prop := storeBackRow.holds Tryz.pinned (OpenSpec.ofChange storeBackSpec)

/-- ITS FALSE NEIGHBOUR: 'it returns false'. Refute it at one input. -/
def storeBackWrong : ChangeSpec := { name := "storeBack", fn := fun _ => fun
  | [d1, d2] => { results := [.lit (.bool false)], args := [d1, d2] }
  | _ => none }
def StoreBackWrongFalsely : Prop := storeBackRow.holds Tryz.pinned (OpenSpec.ofChange storeBackWrong)

/-- 'copyholdlaw13.StoreNone': WHATEVER THE INPUT: true; the input reads as it did. -/
def storeNoneSpec : ChangeSpec := { name := "storeNone", fn := fun _ => fun
  | [d1, d2, d3, d4] => { results := [.lit (.bool true)], args := [d1, d2, d3, d4] }
  | _ => none }
def storeNoneRow : OpenClaim := { program := "ytgedcnnbeangcaagreat", sum := "0d89f1815716229cab5eb68c3cfc6efdf7996b2f38c26451025a9f26d577bb38", func := "copyhold/copyholdlaw13.StoreNone", spec := "storeNone", unfollowed := true, recurses := true, apart := false }
def StoreNoneSaid : Prop := storeNoneRow.holds Tryz.pinned (OpenSpec.ofChange storeNoneSpec)

/-- ITS FALSE NEIGHBOUR: 'it returns false'. Refute it at one input. -/
def storeNoneWrong : ChangeSpec := { name := "storeNone", fn := fun _ => fun
  | [d1, d2, d3, d4] => { results := [.lit (.bool false)], args := [d1, d2, d3, d4] }
  | _ => none }
def StoreNoneWrongFalsely : Prop := storeNoneRow.holds Tryz.pinned (OpenSpec.ofChange storeNoneWrong)

/- THE SECOND FORM. 'bulk': how many values and letters a reading holds, each counted each time it is reached (what is shared counts as often as it is met; a slice's spare places count too). A statement '..UptoSaid' is the law's where the arguments, and the package variables that the reading takes, are together of bulk at most 1048576: NARROWER than '..Said'. Prove '..Said' where nothing that the law and all that it calls make is longer than what came in: it says more and counts as full. Else prove '..UptoSaid'. A law counts once. -/
mutual
def uptoBulk {H : Type} : DataW H → Nat
  | .lit (.string bytes) => bytes.length + 1
  | .lit _ => 1
  | .nil => 1
  | .ptr d => uptoBulk d + 1
  | .slice elems spare => uptoBulkAll elems + uptoBulkAll spare + 1
  | .agg parts => uptoBulkAll parts + 1
  | .iface _ d => uptoBulk d + 1
  | .map entries => uptoBulkEntries entries + 1
  | .held _ => 1
def uptoBulkAll {H : Type} : List (DataW H) → Nat
  | [] => 0
  | d :: r => uptoBulk d + uptoBulkAll r
def uptoBulkEntries {H : Type} : List (Lit × DataW H) → Nat
  | [] => 0
  | x :: r => uptoBulkEntry x + uptoBulkEntries r
def uptoBulkEntry {H : Type} : Lit × DataW H → Nat
  | (.string bytes, d) => bytes.length + uptoBulk d + 1
  | (_, d) => uptoBulk d + 1
 end
def uptoSmall : (H : Type) → List (DataW H) → Bool := fun _ ds => decide (uptoBulkAll ds ≤ 1048576)
def OpenSpec.upto (s : _root_.Go.ChangeSpec) : _root_.Go.OpenSpec := { _root_.Go.OpenSpec.ofChange s with cond := some uptoSmall }

/-- 'copyholdlaw13.StoreOnce', WHERE WHAT IT READS IS OF BULK AT MOST 1048576: true; the input reads as it did. -/
def storeOnceUptoRow : OpenClaim := { program := "ytgedcnnbeangcaagreat", sum := "0d89f1815716229cab5eb68c3cfc6efdf7996b2f38c26451025a9f26d577bb38", func := "copyhold/copyholdlaw13.StoreOnce", spec := "storeOnce", unfollowed := true, recurses := true, apart := false, narrowed := true }
def StoreOnceUptoSaid : Prop := storeOnceUptoRow.holds Tryz.pinned (OpenSpec.upto storeOnceSpec)

/-- 'copyholdlaw13.StoreMounts', WHERE WHAT IT READS IS OF BULK AT MOST 1048576: true; the input reads as it did. -/
def storeMountsUptoRow : OpenClaim := { program := "ytgedcnnbeangcaagreat", sum := "0d89f1815716229cab5eb68c3cfc6efdf7996b2f38c26451025a9f26d577bb38", func := "copyhold/copyholdlaw13.StoreMounts", spec := "storeMounts", unfollowed := true, recurses := true, apart := false, narrowed := true }
def StoreMountsUptoSaid : Prop := storeMountsUptoRow.holds Tryz.pinned (OpenSpec.upto storeMountsSpec)

/-- 'copyholdlaw13.StoreBack', WHERE WHAT IT READS IS OF BULK AT MOST 1048576: true; the input reads as it did. -/
def storeBackUptoRow : OpenClaim := { program := "ytgedcnnbeangcaagreat", sum := "0d89f1815716229cab5eb68c3cfc6efdf7996b2f38c26451025a9f26d577bb38", func := "copyhold/copyholdlaw13.StoreBack", spec := "storeBack", unfollowed := true, recurses := true, apart := false, narrowed := true }
def StoreBackUptoSaid : Prop := storeBackUptoRow.holds Tryz.pinned (OpenSpec.upto storeBackSpec)

/-- 'copyholdlaw13.StoreNone', WHERE WHAT IT READS IS OF BULK AT MOST 1048576: true; the input reads as it did. -/
def storeNoneUptoRow : OpenClaim := { program := "ytgedcnnbeangcaagreat", sum := "0d89f1815716229cab5eb68c3cfc6efdf7996b2f38c26451025a9f26d577bb38", func := "copyhold/copyholdlaw13.StoreNone", spec := "storeNone", unfollowed := true, recurses := true, apart := false, narrowed := true }
def StoreNoneUptoSaid : Prop := storeNoneUptoRow.holds Tryz.pinned (OpenSpec.upto storeNoneSpec)

end Rows
end Go.Proofs.YtgedcnnbeangcaaGreat
