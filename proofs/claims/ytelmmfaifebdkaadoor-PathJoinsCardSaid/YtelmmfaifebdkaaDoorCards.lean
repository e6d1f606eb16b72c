/-
  DERIVED. GIVEN WITH THE SEED: THE CARDS: each row of YtelmmfaifebdkaaDoorRows.lean that lists a variable, with what it lists TIED to the program's text (the seventh form; the later family's looks); each row that meets fmt, with fmt's text TOLD by the authors' own Lean function (tested against real Go, not proved from fmt's source: count such statements apart). THE CARD IS WHAT COUNTS. Prove the row's statement (the work); the ties are given (YtelmmfaifebdkaaDoorTie.lean); close each card by the builder's one call (the guide's Derived/Test/ToyasCard.lean, 'card_holds'). Laid BY PROGRAM, IN A SANDBOX (cutbox-door.mjs). By AI agents, Wed Nov 11 2026. No macro, syntax, notation, axiom, sorry.
-/
import Derived.Test.YtelmmfaifebdkaaDoorRows
import GoSem.ClaimSeven
namespace Go.Proofs.YtelmmfaifebdkaaDoor
namespace Rows

/-- THE TIED CARD OF 'copyholdlaw04.PathSplits'. -/
def pathSplitsCard : Claim7 := { stood := { row := pathSplitsRow, standIns := [], harness := (true, "7748285aaf93fdf2e78e5240c9ebc70f98ce5b259164709ca6670bbeaf9766bd"), looks := false }, kinds := [], alts := [], laidByText := true, laidKinds := [.data, .pinned], laidTests := true, laidLooks := .later }
def PathSplitsCardSaid : Prop := Claim7.holds Tryd.pinned (.plain (OpenSpec.ofChange pathSplitsSpec)) pathSplitsCard

/-- THE TIED CARD OF 'copyholdlaw04.PathJoins'. -/
def pathJoinsCard : Claim7 := { stood := { row := pathJoinsRow, standIns := [], harness := (true, "7748285aaf93fdf2e78e5240c9ebc70f98ce5b259164709ca6670bbeaf9766bd"), looks := false }, kinds := [], alts := [], laidByText := true, laidKinds := [.data, .pinned], laidTests := true, laidLooks := .later }
def PathJoinsCardSaid : Prop := Claim7.holds Tryd.pinned (.plain (OpenSpec.ofChange pathJoinsSpec)) pathJoinsCard

/-- THE TIED CARD OF 'copyholdlaw04.PathCleans'. -/
def pathCleansCard : Claim7 := { stood := { row := pathCleansRow, standIns := [], harness := (true, "7748285aaf93fdf2e78e5240c9ebc70f98ce5b259164709ca6670bbeaf9766bd"), looks := false }, kinds := [], alts := [], laidByText := true, laidKinds := [.data, .pinned], laidTests := true, laidLooks := .later }
def PathCleansCardSaid : Prop := Claim7.holds Tryd.pinned (.plain (OpenSpec.ofChange pathCleansSpec)) pathCleansCard

/-- THE TIED CARD OF 'copyholdlaw04.PathWithin'. -/
def pathWithinCard : Claim7 := { stood := { row := pathWithinRow, standIns := [], harness := (true, "7748285aaf93fdf2e78e5240c9ebc70f98ce5b259164709ca6670bbeaf9766bd"), looks := false }, kinds := [], alts := [], laidByText := true, laidKinds := [.data, .pinned], laidTests := true, laidLooks := .later }
def PathWithinCardSaid : Prop := Claim7.holds Tryd.pinned (.plain (OpenSpec.ofChange pathWithinSpec)) pathWithinCard

/-- THE TIED CARD OF 'copyholdlaw04.PathOnce'. -/
def pathOnceCard : Claim7 := { stood := { row := pathOnceRow, standIns := [], harness := (true, "7748285aaf93fdf2e78e5240c9ebc70f98ce5b259164709ca6670bbeaf9766bd"), looks := false }, kinds := [], alts := [], laidByText := true, laidKinds := [.data, .pinned], laidTests := true, laidLooks := .later }
def PathOnceCardSaid : Prop := Claim7.holds Tryd.pinned (.plain (OpenSpec.ofChange pathOnceSpec)) pathOnceCard

/-- THE TIED CARD OF 'copyholdlaw04.PathUp'. -/
def pathUpCard : Claim7 := { stood := { row := pathUpRow, standIns := [], harness := (true, "7748285aaf93fdf2e78e5240c9ebc70f98ce5b259164709ca6670bbeaf9766bd"), looks := false }, kinds := [], alts := [], laidByText := true, laidKinds := [.data, .pinned], laidTests := true, laidLooks := .later }
def PathUpCardSaid : Prop := Claim7.holds Tryd.pinned (.plain (OpenSpec.ofChange pathUpSpec)) pathUpCard

/-- THE TIED CARD OF 'copyholdlaw04.PathNames'. -/
def pathNamesCard : Claim7 := { stood := { row := pathNamesRow, standIns := [], harness := (true, "7748285aaf93fdf2e78e5240c9ebc70f98ce5b259164709ca6670bbeaf9766bd"), looks := false }, kinds := [], alts := [], laidByText := true, laidKinds := [.data, .pinned], laidTests := true, laidLooks := .later }
def PathNamesCardSaid : Prop := Claim7.holds Tryd.pinned (.plain (OpenSpec.ofChange pathNamesSpec)) pathNamesCard

/-- THE SECOND FORM's CARD OF 'copyholdlaw04.PathSplits'. -/
def pathSplitsUptoCard : Claim7 := { stood := { row := pathSplitsUptoRow, standIns := [], harness := (true, "7748285aaf93fdf2e78e5240c9ebc70f98ce5b259164709ca6670bbeaf9766bd"), looks := false }, kinds := [], alts := [], laidByText := true, laidKinds := [.data, .pinned], laidTests := true, laidLooks := .later }
def PathSplitsUptoCardSaid : Prop := Claim7.holds Tryd.pinned (.plain (OpenSpec.upto pathSplitsSpec)) pathSplitsUptoCard

/-- THE SECOND FORM's CARD OF 'copyholdlaw04.PathJoins'. -/
def pathJoinsUptoCard : Claim7 := { stood := { row := pathJoinsUptoRow, standIns := [], harness := (true, "7748285aaf93fdf2e78e5240c9ebc70f98ce5b259164709ca6670bbeaf9766bd"), looks := false }, kinds := [], alts := [], laidByText := true, laidKinds := [.data, .pinned], laidTests := true, laidLooks := .later }
def PathJoinsUptoCardSaid : Prop := Claim7.holds Tryd.pinned (.plain (OpenSpec.upto pathJoinsSpec)) pathJoinsUptoCard

/-- THE SECOND FORM's CARD OF 'copyholdlaw04.PathCleans'. -/
def pathCleansUptoCard : Claim7 := { stood := { row := pathCleansUptoRow, standIns := [], harness := (true, "7748285aaf93fdf2e78e5240c9ebc70f98ce5b259164709ca6670bbeaf9766bd"), looks := false }, kinds := [], alts := [], laidByText := true, laidKinds := [.data, .pinned], laidTests := true, laidLooks := .later }
def PathCleansUptoCardSaid : Prop := Claim7.holds Tryd.pinned (.plain (OpenSpec.upto pathCleansSpec)) pathCleansUptoCard

/-- THE SECOND FORM's CARD OF 'copyholdlaw04.PathWithin'. -/
def pathWithinUptoCard : Claim7 := { stood := { row := pathWithinUptoRow, standIns := [], harness := (true, "7748285aaf93fdf2e78e5240c9ebc70f98ce5b259164709ca6670bbeaf9766bd"), looks := false }, kinds := [], alts := [], laidByText := true, laidKinds := [.data, .pinned], laidTests := true, laidLooks := .later }
def PathWithinUptoCardSaid : Prop := Claim7.holds Tryd.pinned (.plain (OpenSpec.upto pathWithinSpec)) pathWithinUptoCard

/-- THE SECOND FORM's CARD OF 'copyholdlaw04.PathOnce'. -/
def pathOnceUptoCard : Claim7 := { stood := { row := pathOnceUptoRow, standIns := [], harness := (true, "7748285aaf93fdf2e78e5240c9ebc70f98ce5b259164709ca6670bbeaf9766bd"), looks := false }, kinds := [], alts := [], laidByText := true, laidKinds := [.data, .pinned], laidTests := true, laidLooks := .later }
def PathOnceUptoCardSaid : Prop := Claim7.holds Tryd.pinned (.plain (OpenSpec.upto pathOnceSpec)) pathOnceUptoCard

/-- THE SECOND FORM's CARD OF 'copyholdlaw04.PathUp'. -/
def pathUpUptoCard : Claim7 := { stood := { row := pathUpUptoRow, standIns := [], harness := (true, "7748285aaf93fdf2e78e5240c9ebc70f98ce5b259164709ca6670bbeaf9766bd"), looks := false }, kinds := [], alts := [], laidByText := true, laidKinds := [.data, .pinned], laidTests := true, laidLooks := .later }
def PathUpUptoCardSaid : Prop := Claim7.holds Tryd.pinned (.plain (OpenSpec.upto pathUpSpec)) pathUpUptoCard

/-- THE SECOND FORM's CARD OF 'copyholdlaw04.PathNames'. -/
def pathNamesUptoCard : Claim7 := { stood := { row := pathNamesUptoRow, standIns := [], harness := (true, "7748285aaf93fdf2e78e5240c9ebc70f98ce5b259164709ca6670bbeaf9766bd"), looks := false }, kinds := [], alts := [], laidByText := true, laidKinds := [.data, .pinned], laidTests := true, laidLooks := .later }
def PathNamesUptoCardSaid : Prop := Claim7.holds Tryd.pinned (.plain (OpenSpec.upto pathNamesSpec)) pathNamesUptoCard
end Rows
end Go.Proofs.YtelmmfaifebdkaaDoor
