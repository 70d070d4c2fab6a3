/-
  DERIVED. GIVEN WITH THE SEED: THE CARDS: each row of YthjakngpegdhmaaDoorRows.lean that lists a variable, with what it lists TIED to the program's text (the seventh form; the later family's looks); each row that meets fmt, with fmt's text TOLD by the authors' own Lean function (tested against real Go, not proved from fmt's source: count such statements apart). THE CARD IS WHAT COUNTS. Prove the row's statement (the work); the ties are given (YthjakngpegdhmaaDoorTie.lean); close each card by the builder's one call (the guide's Derived/Test/ToyasCard.lean, 'card_holds'). Laid BY PROGRAM, IN A SANDBOX (cutbox-door.mjs). By AI agents, Wed Nov 11 2026. No macro, syntax, notation, axiom, sorry.
-/
import Derived.Test.YthjakngpegdhmaaDoorRows
import GoSem.ClaimSeven
namespace Go.Proofs.YthjakngpegdhmaaDoor
namespace Rows

/-- THE TIED CARD OF 'pasodoblelaw16.CodeTable'. -/
def codeTableCard : Claim7 := { stood := { row := codeTableRow, standIns := [], harness := (true, "d29150d3169da64722bb4442cf8f649351ab16d889d3cf4c06c9b2b42646b3e2"), looks := true }, kinds := [], alts := [], laidByText := true, laidKinds := [.data, .data, .data, .sentinel, .sentinel, .sentinel, .sentinel, .sentinel, .data], laidTests := true, laidLooks := .later }
def CodeTableCardSaid : Prop := Claim7.holds Tryd.pinned (.plain (OpenSpec.ofChange codeTableSpec)) codeTableCard

/-- THE TIED CARD OF 'pasodoblelaw16.CodeWalks'. -/
def codeWalksCard : Claim7 := { stood := { row := codeWalksRow, standIns := [], harness := (true, "d29150d3169da64722bb4442cf8f649351ab16d889d3cf4c06c9b2b42646b3e2"), looks := true }, kinds := [], alts := [], laidByText := true, laidKinds := [.data, .data, .data, .sentinel, .sentinel, .sentinel, .sentinel, .sentinel, .data], laidTests := true, laidLooks := .later }
def CodeWalksCardSaid : Prop := Claim7.holds Tryd.pinned (.plain (OpenSpec.ofChange codeWalksSpec)) codeWalksCard

/-- THE TIED CARD OF 'pasodoblelaw16.CodeWords'. -/
def codeWordsCard : Claim7 := { stood := { row := codeWordsRow, standIns := [], harness := (true, "d29150d3169da64722bb4442cf8f649351ab16d889d3cf4c06c9b2b42646b3e2"), looks := true }, kinds := [], alts := [], laidByText := true, laidKinds := [.data, .data, .data, .sentinel, .sentinel, .sentinel, .sentinel, .sentinel, .data], laidTests := true, laidLooks := .later }
def CodeWordsCardSaid : Prop := Claim7.holds Tryd.pinned (.plain (OpenSpec.ofChange codeWordsSpec)) codeWordsCard

/-- THE TIED CARD OF 'pasodoblelaw16.CodeShown'. -/
def codeShownCard : Claim7 := { stood := { row := codeShownRow, standIns := [], harness := (true, "d29150d3169da64722bb4442cf8f649351ab16d889d3cf4c06c9b2b42646b3e2"), looks := true }, kinds := [], alts := [], laidByText := true, laidKinds := [.data, .data, .data, .sentinel, .sentinel, .sentinel, .sentinel, .sentinel, .data], laidTests := true, laidLooks := .later }
def CodeShownCardSaid : Prop := Claim7.holds Tryd.pinned (.plain (OpenSpec.ofChange codeShownSpec)) codeShownCard

/-- THE TIED CARD OF 'pasodoblelaw16.CodeParts'. -/
def codePartsCard : Claim7 := { stood := { row := codePartsRow, standIns := [], harness := (true, "d29150d3169da64722bb4442cf8f649351ab16d889d3cf4c06c9b2b42646b3e2"), looks := true }, kinds := [], alts := [], laidByText := true, laidKinds := [.data, .data, .data, .sentinel, .sentinel, .sentinel, .sentinel, .sentinel, .data], laidTests := true, laidLooks := .later }
def CodePartsCardSaid : Prop := Claim7.holds Tryd.pinned (.plain (OpenSpec.ofChange codePartsSpec)) codePartsCard

/-- THE SECOND FORM's CARD OF 'pasodoblelaw16.CodeTable'. -/
def codeTableUptoCard : Claim7 := { stood := { row := codeTableUptoRow, standIns := [], harness := (true, "d29150d3169da64722bb4442cf8f649351ab16d889d3cf4c06c9b2b42646b3e2"), looks := true }, kinds := [], alts := [], laidByText := true, laidKinds := [.data, .data, .data, .sentinel, .sentinel, .sentinel, .sentinel, .sentinel, .data], laidTests := true, laidLooks := .later }
def CodeTableUptoCardSaid : Prop := Claim7.holds Tryd.pinned (.plain (OpenSpec.upto codeTableSpec)) codeTableUptoCard

/-- THE SECOND FORM's CARD OF 'pasodoblelaw16.CodeWalks'. -/
def codeWalksUptoCard : Claim7 := { stood := { row := codeWalksUptoRow, standIns := [], harness := (true, "d29150d3169da64722bb4442cf8f649351ab16d889d3cf4c06c9b2b42646b3e2"), looks := true }, kinds := [], alts := [], laidByText := true, laidKinds := [.data, .data, .data, .sentinel, .sentinel, .sentinel, .sentinel, .sentinel, .data], laidTests := true, laidLooks := .later }
def CodeWalksUptoCardSaid : Prop := Claim7.holds Tryd.pinned (.plain (OpenSpec.upto codeWalksSpec)) codeWalksUptoCard

/-- THE SECOND FORM's CARD OF 'pasodoblelaw16.CodeWords'. -/
def codeWordsUptoCard : Claim7 := { stood := { row := codeWordsUptoRow, standIns := [], harness := (true, "d29150d3169da64722bb4442cf8f649351ab16d889d3cf4c06c9b2b42646b3e2"), looks := true }, kinds := [], alts := [], laidByText := true, laidKinds := [.data, .data, .data, .sentinel, .sentinel, .sentinel, .sentinel, .sentinel, .data], laidTests := true, laidLooks := .later }
def CodeWordsUptoCardSaid : Prop := Claim7.holds Tryd.pinned (.plain (OpenSpec.upto codeWordsSpec)) codeWordsUptoCard

/-- THE SECOND FORM's CARD OF 'pasodoblelaw16.CodeShown'. -/
def codeShownUptoCard : Claim7 := { stood := { row := codeShownUptoRow, standIns := [], harness := (true, "d29150d3169da64722bb4442cf8f649351ab16d889d3cf4c06c9b2b42646b3e2"), looks := true }, kinds := [], alts := [], laidByText := true, laidKinds := [.data, .data, .data, .sentinel, .sentinel, .sentinel, .sentinel, .sentinel, .data], laidTests := true, laidLooks := .later }
def CodeShownUptoCardSaid : Prop := Claim7.holds Tryd.pinned (.plain (OpenSpec.upto codeShownSpec)) codeShownUptoCard

/-- THE SECOND FORM's CARD OF 'pasodoblelaw16.CodeParts'. -/
def codePartsUptoCard : Claim7 := { stood := { row := codePartsUptoRow, standIns := [], harness := (true, "d29150d3169da64722bb4442cf8f649351ab16d889d3cf4c06c9b2b42646b3e2"), looks := true }, kinds := [], alts := [], laidByText := true, laidKinds := [.data, .data, .data, .sentinel, .sentinel, .sentinel, .sentinel, .sentinel, .data], laidTests := true, laidLooks := .later }
def CodePartsUptoCardSaid : Prop := Claim7.holds Tryd.pinned (.plain (OpenSpec.upto codePartsSpec)) codePartsUptoCard
end Rows
end Go.Proofs.YthjakngpegdhmaaDoor
