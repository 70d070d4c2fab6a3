/-
  DERIVED. GIVEN WITH THE SEED: THE CARDS: each row of YtgifeligogjfiaaDoorRows.lean that lists a variable, with what it lists TIED to the program's text (the seventh form; the later family's looks); each row that meets fmt, with fmt's text TOLD by the authors' own Lean function (tested against real Go, not proved from fmt's source: count such statements apart). THE CARD IS WHAT COUNTS. Prove the row's statement (the work); the ties are given (YtgifeligogjfiaaDoorTie.lean); close each card by the builder's one call (the guide's Derived/Test/ToyasCard.lean, 'card_holds'). Laid BY PROGRAM, IN A SANDBOX (cutbox-door.mjs). By AI agents, Wed Nov 11 2026. No macro, syntax, notation, axiom, sorry.
-/
import Derived.Test.YtgifeligogjfiaaDoorRows
import GoSem.ClaimSeven
namespace Go.Proofs.YtgifeligogjfiaaDoor
namespace Rows

/-- THE TIED CARD OF 'pasodoblelaw07.ColumnKeeps'. -/
def columnKeepsCard : Claim7 := { stood := { row := columnKeepsRow, standIns := [], harness := (true, "6228ea127db8d5a191657040b1dbe7258529e5eb2e54ebbdb9b8bb754ae47eb5"), looks := true }, kinds := [], alts := [], laidByText := true, laidKinds := [.sentinel, .sentinel, .sentinel], laidTests := true, laidLooks := .later }
def ColumnKeepsCardSaid : Prop := Claim7.holds Tryd.pinned (.plain (OpenSpec.ofChange columnKeepsSpec)) columnKeepsCard

/-- THE TIED CARD OF 'pasodoblelaw07.ColumnSince'. -/
def columnSinceCard : Claim7 := { stood := { row := columnSinceRow, standIns := [], harness := (true, "6228ea127db8d5a191657040b1dbe7258529e5eb2e54ebbdb9b8bb754ae47eb5"), looks := true }, kinds := [], alts := [], laidByText := true, laidKinds := [.sentinel, .sentinel, .sentinel], laidTests := true, laidLooks := .later }
def ColumnSinceCardSaid : Prop := Claim7.holds Tryd.pinned (.plain (OpenSpec.ofChange columnSinceSpec)) columnSinceCard

/-- THE TIED CARD OF 'pasodoblelaw07.ColumnUndoes'. -/
def columnUndoesCard : Claim7 := { stood := { row := columnUndoesRow, standIns := [], harness := (true, "6228ea127db8d5a191657040b1dbe7258529e5eb2e54ebbdb9b8bb754ae47eb5"), looks := true }, kinds := [], alts := [], laidByText := true, laidKinds := [.sentinel, .sentinel, .sentinel], laidTests := true, laidLooks := .later }
def ColumnUndoesCardSaid : Prop := Claim7.holds Tryd.pinned (.plain (OpenSpec.ofChange columnUndoesSpec)) columnUndoesCard

/-- THE TIED CARD OF 'pasodoblelaw07.ColumnExact'. -/
def columnExactCard : Claim7 := { stood := { row := columnExactRow, standIns := [], harness := (true, "6228ea127db8d5a191657040b1dbe7258529e5eb2e54ebbdb9b8bb754ae47eb5"), looks := true }, kinds := [], alts := [], laidByText := true, laidKinds := [.sentinel, .sentinel, .sentinel, .sentinel, .sentinel, .sentinel, .sentinel, .sentinel, .sentinel, .sentinel, .sentinel, .sentinel, .sentinel, .sentinel, .sentinel, .sentinel, .sentinel, .sentinel], laidTests := true, laidLooks := .later }
def ColumnExactCardSaid : Prop := Claim7.holds Tryd.pinned (.plain (OpenSpec.ofChange columnExactSpec)) columnExactCard

/-- THE SECOND FORM's CARD OF 'pasodoblelaw07.ColumnKeeps'. -/
def columnKeepsUptoCard : Claim7 := { stood := { row := columnKeepsUptoRow, standIns := [], harness := (true, "6228ea127db8d5a191657040b1dbe7258529e5eb2e54ebbdb9b8bb754ae47eb5"), looks := true }, kinds := [], alts := [], laidByText := true, laidKinds := [.sentinel, .sentinel, .sentinel], laidTests := true, laidLooks := .later }
def ColumnKeepsUptoCardSaid : Prop := Claim7.holds Tryd.pinned (.plain (OpenSpec.upto columnKeepsSpec)) columnKeepsUptoCard

/-- THE SECOND FORM's CARD OF 'pasodoblelaw07.ColumnSince'. -/
def columnSinceUptoCard : Claim7 := { stood := { row := columnSinceUptoRow, standIns := [], harness := (true, "6228ea127db8d5a191657040b1dbe7258529e5eb2e54ebbdb9b8bb754ae47eb5"), looks := true }, kinds := [], alts := [], laidByText := true, laidKinds := [.sentinel, .sentinel, .sentinel], laidTests := true, laidLooks := .later }
def ColumnSinceUptoCardSaid : Prop := Claim7.holds Tryd.pinned (.plain (OpenSpec.upto columnSinceSpec)) columnSinceUptoCard

/-- THE SECOND FORM's CARD OF 'pasodoblelaw07.ColumnUndoes'. -/
def columnUndoesUptoCard : Claim7 := { stood := { row := columnUndoesUptoRow, standIns := [], harness := (true, "6228ea127db8d5a191657040b1dbe7258529e5eb2e54ebbdb9b8bb754ae47eb5"), looks := true }, kinds := [], alts := [], laidByText := true, laidKinds := [.sentinel, .sentinel, .sentinel], laidTests := true, laidLooks := .later }
def ColumnUndoesUptoCardSaid : Prop := Claim7.holds Tryd.pinned (.plain (OpenSpec.upto columnUndoesSpec)) columnUndoesUptoCard

/-- THE SECOND FORM's CARD OF 'pasodoblelaw07.ColumnExact'. -/
def columnExactUptoCard : Claim7 := { stood := { row := columnExactUptoRow, standIns := [], harness := (true, "6228ea127db8d5a191657040b1dbe7258529e5eb2e54ebbdb9b8bb754ae47eb5"), looks := true }, kinds := [], alts := [], laidByText := true, laidKinds := [.sentinel, .sentinel, .sentinel, .sentinel, .sentinel, .sentinel, .sentinel, .sentinel, .sentinel, .sentinel, .sentinel, .sentinel, .sentinel, .sentinel, .sentinel, .sentinel, .sentinel, .sentinel], laidTests := true, laidLooks := .later }
def ColumnExactUptoCardSaid : Prop := Claim7.holds Tryd.pinned (.plain (OpenSpec.upto columnExactSpec)) columnExactUptoCard
end Rows
end Go.Proofs.YtgifeligogjfiaaDoor
