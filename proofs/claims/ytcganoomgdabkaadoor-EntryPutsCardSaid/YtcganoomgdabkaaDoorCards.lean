/-
  DERIVED. GIVEN WITH THE SEED: THE CARDS: each row of YtcganoomgdabkaaDoorRows.lean that lists a variable, with what it lists TIED to the program's text (the seventh form; the later family's looks); each row that meets fmt, with fmt's text TOLD by the authors' own Lean function (tested against real Go, not proved from fmt's source: count such statements apart). THE CARD IS WHAT COUNTS. Prove the row's statement (the work); the ties are given (YtcganoomgdabkaaDoorTie.lean); close each card by the builder's one call (the guide's Derived/Test/ToyasCard.lean, 'card_holds'). Laid BY PROGRAM, IN A SANDBOX (cutbox-door.mjs). By AI agents, Wed Nov 11 2026. No macro, syntax, notation, axiom, sorry.
-/
import Derived.Test.YtcganoomgdabkaaDoorRows
import GoSem.ClaimSeven
namespace Go.Proofs.YtcganoomgdabkaaDoor
namespace Rows

/-- THE TIED CARD OF 'copyholdlaw12.EntryEncodes'. -/
def entryEncodesCard : Claim7 := { stood := { row := entryEncodesRow, standIns := [], harness := (true, "8898f7f9fec4d77df7b3b1620816476264d6720660ba353a6f5d98a199a84314"), looks := false }, kinds := [], alts := [], laidByText := true, laidKinds := [.data, .pinned], laidTests := true, laidLooks := .later }
def EntryEncodesCardSaid : Prop := Claim7.holds Tryd.pinned (.plain (OpenSpec.ofChange entryEncodesSpec)) entryEncodesCard

/-- THE TIED CARD OF 'copyholdlaw12.EntrySlots'. -/
def entrySlotsCard : Claim7 := { stood := { row := entrySlotsRow, standIns := [], harness := (true, "8898f7f9fec4d77df7b3b1620816476264d6720660ba353a6f5d98a199a84314"), looks := false }, kinds := [], alts := [], laidByText := true, laidKinds := [.data, .pinned], laidTests := true, laidLooks := .later }
def EntrySlotsCardSaid : Prop := Claim7.holds Tryd.pinned (.plain (OpenSpec.ofChange entrySlotsSpec)) entrySlotsCard

/-- THE TIED CARD OF 'copyholdlaw12.EntryFinds'. -/
def entryFindsCard : Claim7 := { stood := { row := entryFindsRow, standIns := [], harness := (true, "8898f7f9fec4d77df7b3b1620816476264d6720660ba353a6f5d98a199a84314"), looks := false }, kinds := [], alts := [], laidByText := true, laidKinds := [.data, .pinned], laidTests := true, laidLooks := .later }
def EntryFindsCardSaid : Prop := Claim7.holds Tryd.pinned (.plain (OpenSpec.ofChange entryFindsSpec)) entryFindsCard

/-- THE TIED CARD OF 'copyholdlaw12.EntryBack'. -/
def entryBackCard : Claim7 := { stood := { row := entryBackRow, standIns := [], harness := (true, "8898f7f9fec4d77df7b3b1620816476264d6720660ba353a6f5d98a199a84314"), looks := false }, kinds := [], alts := [], laidByText := true, laidKinds := [.data, .pinned], laidTests := true, laidLooks := .later }
def EntryBackCardSaid : Prop := Claim7.holds Tryd.pinned (.plain (OpenSpec.ofChange entryBackSpec)) entryBackCard

/-- THE TIED CARD OF 'copyholdlaw12.EntryPuts'. -/
def entryPutsCard : Claim7 := { stood := { row := entryPutsRow, standIns := [], harness := (true, "8898f7f9fec4d77df7b3b1620816476264d6720660ba353a6f5d98a199a84314"), looks := false }, kinds := [], alts := [], laidByText := true, laidKinds := [.data, .pinned], laidTests := true, laidLooks := .later }
def EntryPutsCardSaid : Prop := Claim7.holds Tryd.pinned (.plain (OpenSpec.ofChange entryPutsSpec)) entryPutsCard

/-- THE SECOND FORM's CARD OF 'copyholdlaw12.EntryEncodes'. -/
def entryEncodesUptoCard : Claim7 := { stood := { row := entryEncodesUptoRow, standIns := [], harness := (true, "8898f7f9fec4d77df7b3b1620816476264d6720660ba353a6f5d98a199a84314"), looks := false }, kinds := [], alts := [], laidByText := true, laidKinds := [.data, .pinned], laidTests := true, laidLooks := .later }
def EntryEncodesUptoCardSaid : Prop := Claim7.holds Tryd.pinned (.plain (OpenSpec.upto entryEncodesSpec)) entryEncodesUptoCard

/-- THE SECOND FORM's CARD OF 'copyholdlaw12.EntrySlots'. -/
def entrySlotsUptoCard : Claim7 := { stood := { row := entrySlotsUptoRow, standIns := [], harness := (true, "8898f7f9fec4d77df7b3b1620816476264d6720660ba353a6f5d98a199a84314"), looks := false }, kinds := [], alts := [], laidByText := true, laidKinds := [.data, .pinned], laidTests := true, laidLooks := .later }
def EntrySlotsUptoCardSaid : Prop := Claim7.holds Tryd.pinned (.plain (OpenSpec.upto entrySlotsSpec)) entrySlotsUptoCard

/-- THE SECOND FORM's CARD OF 'copyholdlaw12.EntryFinds'. -/
def entryFindsUptoCard : Claim7 := { stood := { row := entryFindsUptoRow, standIns := [], harness := (true, "8898f7f9fec4d77df7b3b1620816476264d6720660ba353a6f5d98a199a84314"), looks := false }, kinds := [], alts := [], laidByText := true, laidKinds := [.data, .pinned], laidTests := true, laidLooks := .later }
def EntryFindsUptoCardSaid : Prop := Claim7.holds Tryd.pinned (.plain (OpenSpec.upto entryFindsSpec)) entryFindsUptoCard

/-- THE SECOND FORM's CARD OF 'copyholdlaw12.EntryBack'. -/
def entryBackUptoCard : Claim7 := { stood := { row := entryBackUptoRow, standIns := [], harness := (true, "8898f7f9fec4d77df7b3b1620816476264d6720660ba353a6f5d98a199a84314"), looks := false }, kinds := [], alts := [], laidByText := true, laidKinds := [.data, .pinned], laidTests := true, laidLooks := .later }
def EntryBackUptoCardSaid : Prop := Claim7.holds Tryd.pinned (.plain (OpenSpec.upto entryBackSpec)) entryBackUptoCard

/-- THE SECOND FORM's CARD OF 'copyholdlaw12.EntryPuts'. -/
def entryPutsUptoCard : Claim7 := { stood := { row := entryPutsUptoRow, standIns := [], harness := (true, "8898f7f9fec4d77df7b3b1620816476264d6720660ba353a6f5d98a199a84314"), looks := false }, kinds := [], alts := [], laidByText := true, laidKinds := [.data, .pinned], laidTests := true, laidLooks := .later }
def EntryPutsUptoCardSaid : Prop := Claim7.holds Tryd.pinned (.plain (OpenSpec.upto entryPutsSpec)) entryPutsUptoCard
end Rows
end Go.Proofs.YtcganoomgdabkaaDoor
