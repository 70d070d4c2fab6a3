/-
  DERIVED. GIVEN WITH THE SEED: THE CARDS: each row of YtioeafjlbdpjoaaDoorRows.lean that lists a variable, with what it lists TIED to the program's text (the seventh form; the later family's looks); each row that meets fmt, with fmt's text TOLD by the authors' own Lean function (tested against real Go, not proved from fmt's source: count such statements apart). THE CARD IS WHAT COUNTS. Prove the row's statement (the work); the ties are given (YtioeafjlbdpjoaaDoorTie.lean); close each card by the builder's one call (the guide's Derived/Test/ToyasCard.lean, 'card_holds'). Laid BY PROGRAM, IN A SANDBOX (cutbox-door.mjs). By AI agents, Wed Nov 11 2026. No macro, syntax, notation, axiom, sorry.
-/
import Derived.Test.YtioeafjlbdpjoaaDoorRows
import GoSem.ClaimSeven
namespace Go.Proofs.YtioeafjlbdpjoaaDoor
namespace Rows

/-- THE TIED CARD OF 'pasodoblelaw13.JournalStacks'. -/
def journalStacksCard : Claim7 := { stood := { row := journalStacksRow, standIns := [], harness := (true, "4a72fd84f32ef85b6ce32f9871aa1fcc2c800eb5c6b67fb6b198fb4a8375d8d7"), looks := true }, kinds := [], alts := [], laidByText := true, laidKinds := [.sentinel, .sentinel, .sentinel, .sentinel, .sentinel], laidTests := true, laidLooks := .later }
def JournalStacksCardSaid : Prop := Claim7.holds Tryd.pinned (.plain (OpenSpec.ofChange journalStacksSpec)) journalStacksCard

/-- THE TIED CARD OF 'pasodoblelaw13.JournalForgets'. -/
def journalForgetsCard : Claim7 := { stood := { row := journalForgetsRow, standIns := [], harness := (true, "4a72fd84f32ef85b6ce32f9871aa1fcc2c800eb5c6b67fb6b198fb4a8375d8d7"), looks := true }, kinds := [], alts := [], laidByText := true, laidKinds := [.sentinel, .sentinel, .sentinel, .sentinel, .sentinel], laidTests := true, laidLooks := .later }
def JournalForgetsCardSaid : Prop := Claim7.holds Tryd.pinned (.plain (OpenSpec.ofChange journalForgetsSpec)) journalForgetsCard

/-- THE TIED CARD OF 'pasodoblelaw13.JournalOnce'. -/
def journalOnceCard : Claim7 := { stood := { row := journalOnceRow, standIns := [], harness := (true, "4a72fd84f32ef85b6ce32f9871aa1fcc2c800eb5c6b67fb6b198fb4a8375d8d7"), looks := true }, kinds := [], alts := [], laidByText := true, laidKinds := [.sentinel, .sentinel, .sentinel, .sentinel, .sentinel], laidTests := true, laidLooks := .later }
def JournalOnceCardSaid : Prop := Claim7.holds Tryd.pinned (.plain (OpenSpec.ofChange journalOnceSpec)) journalOnceCard

/-- THE TIED CARD OF 'pasodoblelaw13.JournalExact'. -/
def journalExactCard : Claim7 := { stood := { row := journalExactRow, standIns := [], harness := (true, "4a72fd84f32ef85b6ce32f9871aa1fcc2c800eb5c6b67fb6b198fb4a8375d8d7"), looks := true }, kinds := [], alts := [], laidByText := true, laidKinds := [.sentinel, .sentinel, .sentinel, .sentinel, .sentinel, .sentinel, .sentinel, .sentinel, .sentinel, .sentinel, .sentinel, .sentinel, .sentinel, .sentinel, .sentinel, .sentinel, .sentinel, .sentinel], laidTests := true, laidLooks := .later }
def JournalExactCardSaid : Prop := Claim7.holds Tryd.pinned (.plain (OpenSpec.ofChange journalExactSpec)) journalExactCard

/-- THE SECOND FORM's CARD OF 'pasodoblelaw13.JournalStacks'. -/
def journalStacksUptoCard : Claim7 := { stood := { row := journalStacksUptoRow, standIns := [], harness := (true, "4a72fd84f32ef85b6ce32f9871aa1fcc2c800eb5c6b67fb6b198fb4a8375d8d7"), looks := true }, kinds := [], alts := [], laidByText := true, laidKinds := [.sentinel, .sentinel, .sentinel, .sentinel, .sentinel], laidTests := true, laidLooks := .later }
def JournalStacksUptoCardSaid : Prop := Claim7.holds Tryd.pinned (.plain (OpenSpec.upto journalStacksSpec)) journalStacksUptoCard

/-- THE SECOND FORM's CARD OF 'pasodoblelaw13.JournalForgets'. -/
def journalForgetsUptoCard : Claim7 := { stood := { row := journalForgetsUptoRow, standIns := [], harness := (true, "4a72fd84f32ef85b6ce32f9871aa1fcc2c800eb5c6b67fb6b198fb4a8375d8d7"), looks := true }, kinds := [], alts := [], laidByText := true, laidKinds := [.sentinel, .sentinel, .sentinel, .sentinel, .sentinel], laidTests := true, laidLooks := .later }
def JournalForgetsUptoCardSaid : Prop := Claim7.holds Tryd.pinned (.plain (OpenSpec.upto journalForgetsSpec)) journalForgetsUptoCard

/-- THE SECOND FORM's CARD OF 'pasodoblelaw13.JournalOnce'. -/
def journalOnceUptoCard : Claim7 := { stood := { row := journalOnceUptoRow, standIns := [], harness := (true, "4a72fd84f32ef85b6ce32f9871aa1fcc2c800eb5c6b67fb6b198fb4a8375d8d7"), looks := true }, kinds := [], alts := [], laidByText := true, laidKinds := [.sentinel, .sentinel, .sentinel, .sentinel, .sentinel], laidTests := true, laidLooks := .later }
def JournalOnceUptoCardSaid : Prop := Claim7.holds Tryd.pinned (.plain (OpenSpec.upto journalOnceSpec)) journalOnceUptoCard

/-- THE SECOND FORM's CARD OF 'pasodoblelaw13.JournalExact'. -/
def journalExactUptoCard : Claim7 := { stood := { row := journalExactUptoRow, standIns := [], harness := (true, "4a72fd84f32ef85b6ce32f9871aa1fcc2c800eb5c6b67fb6b198fb4a8375d8d7"), looks := true }, kinds := [], alts := [], laidByText := true, laidKinds := [.sentinel, .sentinel, .sentinel, .sentinel, .sentinel, .sentinel, .sentinel, .sentinel, .sentinel, .sentinel, .sentinel, .sentinel, .sentinel, .sentinel, .sentinel, .sentinel, .sentinel, .sentinel], laidTests := true, laidLooks := .later }
def JournalExactUptoCardSaid : Prop := Claim7.holds Tryd.pinned (.plain (OpenSpec.upto journalExactSpec)) journalExactUptoCard
end Rows
end Go.Proofs.YtioeafjlbdpjoaaDoor
