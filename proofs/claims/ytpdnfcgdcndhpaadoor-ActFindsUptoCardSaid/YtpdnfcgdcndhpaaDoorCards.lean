/-
  DERIVED. GIVEN WITH THE SEED: THE CARDS: each row of YtpdnfcgdcndhpaaDoorRows.lean that lists a variable, with what it lists TIED to the program's text (the seventh form; the later family's looks); each row that meets fmt, with fmt's text TOLD by the authors' own Lean function (tested against real Go, not proved from fmt's source: count such statements apart). THE CARD IS WHAT COUNTS. Prove the row's statement (the work); the ties are given (YtpdnfcgdcndhpaaDoorTie.lean); close each card by the builder's one call (the guide's Derived/Test/ToyasCard.lean, 'card_holds'). Laid BY PROGRAM, IN A SANDBOX (cutbox-door.mjs). By AI agents, Wed Nov 11 2026. No macro, syntax, notation, axiom, sorry.
-/
import Derived.Test.YtpdnfcgdcndhpaaDoorRows
import GoSem.ClaimSeven
namespace Go.Proofs.YtpdnfcgdcndhpaaDoor
namespace Rows

/-- THE TIED CARD OF 'copyholdlaw24.ActLines'. -/
def actLinesCard : Claim7 := { stood := { row := actLinesRow, standIns := [], harness := (true, "fd7d1d65513f315cb595c874968873bb4432f522a32908684378d5efd757331b"), looks := true }, kinds := [], alts := [], laidByText := true, laidKinds := [.data, .data, .data, .data, .sentinel, .sentinel, .pinned], laidTests := true, laidLooks := .later }
def ActLinesCardSaid : Prop := Claim7.holds Tryd.pinned (.plain (OpenSpec.ofChange actLinesSpec)) actLinesCard

/-- THE TIED CARD OF 'copyholdlaw24.ActReads'. -/
def actReadsCard : Claim7 := { stood := { row := actReadsRow, standIns := [], harness := (true, "fd7d1d65513f315cb595c874968873bb4432f522a32908684378d5efd757331b"), looks := true }, kinds := [], alts := [], laidByText := true, laidKinds := [.data, .data, .data, .data, .sentinel, .sentinel, .pinned], laidTests := true, laidLooks := .later }
def ActReadsCardSaid : Prop := Claim7.holds Tryd.pinned (.plain (OpenSpec.ofChange actReadsSpec)) actReadsCard

/-- THE TIED CARD OF 'copyholdlaw24.ActFinds'. -/
def actFindsCard : Claim7 := { stood := { row := actFindsRow, standIns := [], harness := (true, "fd7d1d65513f315cb595c874968873bb4432f522a32908684378d5efd757331b"), looks := true }, kinds := [], alts := [], laidByText := true, laidKinds := [.data, .data, .data, .data, .sentinel, .sentinel, .pinned], laidTests := true, laidLooks := .later }
def ActFindsCardSaid : Prop := Claim7.holds Tryd.pinned (.plain (OpenSpec.ofChange actFindsSpec)) actFindsCard

/-- THE TIED CARD OF 'copyholdlaw24.ActResults'. -/
def actResultsCard : Claim7 := { stood := { row := actResultsRow, standIns := [], harness := (true, "fd7d1d65513f315cb595c874968873bb4432f522a32908684378d5efd757331b"), looks := true }, kinds := [], alts := [], laidByText := true, laidKinds := [.data, .data, .data, .data, .sentinel, .sentinel, .pinned], laidTests := true, laidLooks := .later }
def ActResultsCardSaid : Prop := Claim7.holds Tryd.pinned (.plain (OpenSpec.ofChange actResultsSpec)) actResultsCard

/-- THE TIED CARD OF 'copyholdlaw24.ActApart'. -/
def actApartCard : Claim7 := { stood := { row := actApartRow, standIns := [], harness := (true, "fd7d1d65513f315cb595c874968873bb4432f522a32908684378d5efd757331b"), looks := true }, kinds := [], alts := [], laidByText := true, laidKinds := [.data, .data, .data, .data, .sentinel, .sentinel, .pinned], laidTests := true, laidLooks := .later }
def ActApartCardSaid : Prop := Claim7.holds Tryd.pinned (.plain (OpenSpec.ofChange actApartSpec)) actApartCard

/-- THE TIED CARD OF 'copyholdlaw24.ActScripts'. -/
def actScriptsCard : Claim7 := { stood := { row := actScriptsRow, standIns := [], harness := (true, "fd7d1d65513f315cb595c874968873bb4432f522a32908684378d5efd757331b"), looks := true }, kinds := [], alts := [], laidByText := true, laidKinds := [.data, .data, .data, .data, .sentinel, .sentinel, .pinned], laidTests := true, laidLooks := .later }
def ActScriptsCardSaid : Prop := Claim7.holds Tryd.pinned (.plain (OpenSpec.ofChange actScriptsSpec)) actScriptsCard

/-- THE SECOND FORM's CARD OF 'copyholdlaw24.ActLines'. -/
def actLinesUptoCard : Claim7 := { stood := { row := actLinesUptoRow, standIns := [], harness := (true, "fd7d1d65513f315cb595c874968873bb4432f522a32908684378d5efd757331b"), looks := true }, kinds := [], alts := [], laidByText := true, laidKinds := [.data, .data, .data, .data, .sentinel, .sentinel, .pinned], laidTests := true, laidLooks := .later }
def ActLinesUptoCardSaid : Prop := Claim7.holds Tryd.pinned (.plain (OpenSpec.upto actLinesSpec)) actLinesUptoCard

/-- THE SECOND FORM's CARD OF 'copyholdlaw24.ActReads'. -/
def actReadsUptoCard : Claim7 := { stood := { row := actReadsUptoRow, standIns := [], harness := (true, "fd7d1d65513f315cb595c874968873bb4432f522a32908684378d5efd757331b"), looks := true }, kinds := [], alts := [], laidByText := true, laidKinds := [.data, .data, .data, .data, .sentinel, .sentinel, .pinned], laidTests := true, laidLooks := .later }
def ActReadsUptoCardSaid : Prop := Claim7.holds Tryd.pinned (.plain (OpenSpec.upto actReadsSpec)) actReadsUptoCard

/-- THE SECOND FORM's CARD OF 'copyholdlaw24.ActFinds'. -/
def actFindsUptoCard : Claim7 := { stood := { row := actFindsUptoRow, standIns := [], harness := (true, "fd7d1d65513f315cb595c874968873bb4432f522a32908684378d5efd757331b"), looks := true }, kinds := [], alts := [], laidByText := true, laidKinds := [.data, .data, .data, .data, .sentinel, .sentinel, .pinned], laidTests := true, laidLooks := .later }
def ActFindsUptoCardSaid : Prop := Claim7.holds Tryd.pinned (.plain (OpenSpec.upto actFindsSpec)) actFindsUptoCard

/-- THE SECOND FORM's CARD OF 'copyholdlaw24.ActResults'. -/
def actResultsUptoCard : Claim7 := { stood := { row := actResultsUptoRow, standIns := [], harness := (true, "fd7d1d65513f315cb595c874968873bb4432f522a32908684378d5efd757331b"), looks := true }, kinds := [], alts := [], laidByText := true, laidKinds := [.data, .data, .data, .data, .sentinel, .sentinel, .pinned], laidTests := true, laidLooks := .later }
def ActResultsUptoCardSaid : Prop := Claim7.holds Tryd.pinned (.plain (OpenSpec.upto actResultsSpec)) actResultsUptoCard

/-- THE SECOND FORM's CARD OF 'copyholdlaw24.ActApart'. -/
def actApartUptoCard : Claim7 := { stood := { row := actApartUptoRow, standIns := [], harness := (true, "fd7d1d65513f315cb595c874968873bb4432f522a32908684378d5efd757331b"), looks := true }, kinds := [], alts := [], laidByText := true, laidKinds := [.data, .data, .data, .data, .sentinel, .sentinel, .pinned], laidTests := true, laidLooks := .later }
def ActApartUptoCardSaid : Prop := Claim7.holds Tryd.pinned (.plain (OpenSpec.upto actApartSpec)) actApartUptoCard

/-- THE SECOND FORM's CARD OF 'copyholdlaw24.ActScripts'. -/
def actScriptsUptoCard : Claim7 := { stood := { row := actScriptsUptoRow, standIns := [], harness := (true, "fd7d1d65513f315cb595c874968873bb4432f522a32908684378d5efd757331b"), looks := true }, kinds := [], alts := [], laidByText := true, laidKinds := [.data, .data, .data, .data, .sentinel, .sentinel, .pinned], laidTests := true, laidLooks := .later }
def ActScriptsUptoCardSaid : Prop := Claim7.holds Tryd.pinned (.plain (OpenSpec.upto actScriptsSpec)) actScriptsUptoCard
end Rows
end Go.Proofs.YtpdnfcgdcndhpaaDoor
