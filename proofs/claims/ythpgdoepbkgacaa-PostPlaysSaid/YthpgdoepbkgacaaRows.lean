/-
  No cell of these rows narrows 'for every input' (looked for: loops, veiled, ifaces, maps, wideKeys, modest, calm, conditions, laid).
  DERIVED. THE GIVEN ROWS OF THIS SEAT. 4 by the template 'for every input the law returns true; each argument reads behind the call as it read before'; 0 by the template 'total and deterministic' (their statements: YthpgdoepbkgacaaTotals.lean).
  GIVEN WITH THE SEED: the statements are not yours to turn. If you find one false, say at which input.
  Laid BY PROGRAM, IN A SANDBOX (cutbox-rows.mjs): the forced cells as the released guide's own fill.sh prints them over the translation fd241a95f126af26… (all of the seat's roots in one cut). By AI agents, Wed Nov 11 2026. No macro, syntax, notation, axiom, sorry.
-/
import Derived.Test.YthpgdoepbkgacaaChecked
import GoSem.Claim
import GoSem.ClaimJoined
import GoSem.ClaimMapViews
import Derived.JoinedTies
import Derived.KernelRfl
namespace Go.Proofs.Ythpgdoepbkgacaa
/- THE CELL 'sum', in the pinned program and in every row, IS THE sha256 OF THE DUMP (.gsa) THAT YthpgdoepbkgacaaProg.lean LOADS. Nothing in Lean hashes anything: it is a label: what it is worth is what the hold of that sum in a sandbox is worth. -/
noncomputable def Try.pinned : Pinned := { name := "ythpgdoepbkgacaa", sum := "fd241a95f126af264be7d503b085374593e3027b030b49cde3b30762e9103caa", checked := Try.checked }
namespace Rows
def none {H : Type} : Left H := { results := [], args := [] }

/-- 'copyholdlaw18.PostPlays': WHATEVER THE INPUT: true; the input reads as it did. -/
def postPlaysSpec : ChangeSpec := { name := "postPlays", fn := fun _ => fun
  | [d] => { results := [.lit (.bool true)], args := [d] }
  | _ => none }
def postPlaysRow : OpenClaim := { program := "ythpgdoepbkgacaa", sum := "fd241a95f126af264be7d503b085374593e3027b030b49cde3b30762e9103caa", func := "copyhold/copyholdlaw18.PostPlays", spec := "postPlays", apart := false }
def PostPlaysSaid : Prop := postPlaysRow.holds Try.pinned (OpenSpec.ofChange postPlaysSpec)

/-- ITS FALSE NEIGHBOUR: 'it returns false'. Refute it at one input. -/
def postPlaysWrong : ChangeSpec := { name := "postPlays", fn := fun _ => fun
  | [d] => { results := [.lit (.bool false)], args := [d] }
  | _ => none }
def PostPlaysWrongFalsely : Prop := postPlaysRow.holds Try.pinned (OpenSpec.ofChange postPlaysWrong)

/-- 'copyholdlaw18.PostOwn': WHATEVER THE INPUT: true; the input reads as it did. -/
def postOwnSpec : ChangeSpec := { name := "postOwn", fn := fun _ => fun
  | [d1, d2] => { results := [.lit (.bool true)], args := [d1, d2] }
  | _ => none }
def postOwnRow : OpenClaim := { program := "ythpgdoepbkgacaa", sum := "fd241a95f126af264be7d503b085374593e3027b030b49cde3b30762e9103caa", func := "copyhold/copyholdlaw18.PostOwn", spec := "postOwn", apart := false }
def PostOwnSaid : Prop := postOwnRow.holds Try.pinned (OpenSpec.ofChange postOwnSpec)

/-- ITS FALSE NEIGHBOUR: 'it returns false'. Refute it at one input. -/
def postOwnWrong : ChangeSpec := { name := "postOwn", fn := fun _ => fun
  | [d1, d2] => { results := [.lit (.bool false)], args := [d1, d2] }
  | _ => none }
def PostOwnWrongFalsely : Prop := postOwnRow.holds Try.pinned (OpenSpec.ofChange postOwnWrong)

/-- 'copyholdlaw18.PostNone': WHATEVER THE INPUT: true; the input reads as it did. -/
def postNoneSpec : ChangeSpec := { name := "postNone", fn := fun _ => fun
  | [d1, d2] => { results := [.lit (.bool true)], args := [d1, d2] }
  | _ => none }
def postNoneRow : OpenClaim := { program := "ythpgdoepbkgacaa", sum := "fd241a95f126af264be7d503b085374593e3027b030b49cde3b30762e9103caa", func := "copyhold/copyholdlaw18.PostNone", spec := "postNone", apart := false }
def PostNoneSaid : Prop := postNoneRow.holds Try.pinned (OpenSpec.ofChange postNoneSpec)

/-- ITS FALSE NEIGHBOUR: 'it returns false'. Refute it at one input. -/
def postNoneWrong : ChangeSpec := { name := "postNone", fn := fun _ => fun
  | [d1, d2] => { results := [.lit (.bool false)], args := [d1, d2] }
  | _ => none }
def PostNoneWrongFalsely : Prop := postNoneRow.holds Try.pinned (OpenSpec.ofChange postNoneWrong)

/-- 'copyholdlaw18.PostOrder': WHATEVER THE INPUT: true; the input reads as it did. -/
def postOrderSpec : ChangeSpec := { name := "postOrder", fn := fun _ => fun
  | [d] => { results := [.lit (.bool true)], args := [d] }
  | _ => none }
def postOrderRow : OpenClaim := { program := "ythpgdoepbkgacaa", sum := "fd241a95f126af264be7d503b085374593e3027b030b49cde3b30762e9103caa", func := "copyhold/copyholdlaw18.PostOrder", spec := "postOrder", apart := false }
def PostOrderSaid : Prop := postOrderRow.holds Try.pinned (OpenSpec.ofChange postOrderSpec)

/-- ITS FALSE NEIGHBOUR: 'it returns false'. Refute it at one input. -/
def postOrderWrong : ChangeSpec := { name := "postOrder", fn := fun _ => fun
  | [d] => { results := [.lit (.bool false)], args := [d] }
  | _ => none }
def PostOrderWrongFalsely : Prop := postOrderRow.holds Try.pinned (OpenSpec.ofChange postOrderWrong)

/- THE SECOND FORM. 'bulk': how many values and letters a reading holds, each counted each time it is reached (what is shared counts as often as it is met; a slice's spare places count too). A statement '..UptoSaid' is the law's where the arguments, and the package variables that the reading takes, are together of bulk at most 1048576: NARROWER than '..Said'. Prove '..Said' where nothing that the law and all that it calls make is longer than what came in: it says more and counts as full. Else prove '..UptoSaid'. A law counts once. -/
mutual
def uptoBulk {H : Type} : DataW H → Nat
  | .lit (.string bytes) => bytes.length + 1
  | .lit _ => 1
  | .nil => 1
  | .ptr d => uptoBulk d + 1
  | .slice elems spare => uptoBulkAll elems + uptoBulkAll spare + 1
  | .agg parts => uptoBulkAll parts + 1
  | .iface _ d => uptoBulk d + 1
  | .map entries => uptoBulkEntries entries + 1
  | .held _ => 1
def uptoBulkAll {H : Type} : List (DataW H) → Nat
  | [] => 0
  | d :: r => uptoBulk d + uptoBulkAll r
def uptoBulkEntries {H : Type} : List (Lit × DataW H) → Nat
  | [] => 0
  | x :: r => uptoBulkEntry x + uptoBulkEntries r
def uptoBulkEntry {H : Type} : Lit × DataW H → Nat
  | (.string bytes, d) => bytes.length + uptoBulk d + 1
  | (_, d) => uptoBulk d + 1
 end
def uptoSmall : (H : Type) → List (DataW H) → Bool := fun _ ds => decide (uptoBulkAll ds ≤ 1048576)
def OpenSpec.upto (s : _root_.Go.ChangeSpec) : _root_.Go.OpenSpec := { _root_.Go.OpenSpec.ofChange s with cond := some uptoSmall }

/-- 'copyholdlaw18.PostPlays', WHERE WHAT IT READS IS OF BULK AT MOST 1048576: true; the input reads as it did. -/
def postPlaysUptoRow : OpenClaim := { program := "ythpgdoepbkgacaa", sum := "fd241a95f126af264be7d503b085374593e3027b030b49cde3b30762e9103caa", func := "copyhold/copyholdlaw18.PostPlays", spec := "postPlays", apart := false, narrowed := true }
def PostPlaysUptoSaid : Prop := postPlaysUptoRow.holds Try.pinned (OpenSpec.upto postPlaysSpec)

/-- 'copyholdlaw18.PostOwn', WHERE WHAT IT READS IS OF BULK AT MOST 1048576: true; the input reads as it did. -/
def postOwnUptoRow : OpenClaim := { program := "ythpgdoepbkgacaa", sum := "fd241a95f126af264be7d503b085374593e3027b030b49cde3b30762e9103caa", func := "copyhold/copyholdlaw18.PostOwn", spec := "postOwn", apart := false, narrowed := true }
def PostOwnUptoSaid : Prop := postOwnUptoRow.holds Try.pinned (OpenSpec.upto postOwnSpec)

/-- 'copyholdlaw18.PostNone', WHERE WHAT IT READS IS OF BULK AT MOST 1048576: true; the input reads as it did. -/
def postNoneUptoRow : OpenClaim := { program := "ythpgdoepbkgacaa", sum := "fd241a95f126af264be7d503b085374593e3027b030b49cde3b30762e9103caa", func := "copyhold/copyholdlaw18.PostNone", spec := "postNone", apart := false, narrowed := true }
def PostNoneUptoSaid : Prop := postNoneUptoRow.holds Try.pinned (OpenSpec.upto postNoneSpec)

/-- 'copyholdlaw18.PostOrder', WHERE WHAT IT READS IS OF BULK AT MOST 1048576: true; the input reads as it did. -/
def postOrderUptoRow : OpenClaim := { program := "ythpgdoepbkgacaa", sum := "fd241a95f126af264be7d503b085374593e3027b030b49cde3b30762e9103caa", func := "copyhold/copyholdlaw18.PostOrder", spec := "postOrder", apart := false, narrowed := true }
def PostOrderUptoSaid : Prop := postOrderUptoRow.holds Try.pinned (OpenSpec.upto postOrderSpec)

end Rows
end Go.Proofs.Ythpgdoepbkgacaa
