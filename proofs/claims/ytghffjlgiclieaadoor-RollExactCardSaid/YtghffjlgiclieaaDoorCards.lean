/-
  DERIVED. GIVEN WITH THE SEED: THE CARDS: each row of YtghffjlgiclieaaDoorRows.lean that lists a variable, with what it lists TIED to the program's text (the seventh form; the later family's looks); each row that meets fmt, with fmt's text TOLD by the authors' own Lean function (tested against real Go, not proved from fmt's source: count such statements apart). THE CARD IS WHAT COUNTS. Prove the row's statement (the work); the ties are given (YtghffjlgiclieaaDoorTie.lean); close each card by the builder's one call (the guide's Derived/Test/ToyasCard.lean, 'card_holds'). Laid BY PROGRAM, IN A SANDBOX (cutbox-door.mjs). By AI agents, Wed Nov 11 2026. No macro, syntax, notation, axiom, sorry.
-/
import Derived.Test.YtghffjlgiclieaaDoorRows
import GoSem.ClaimSeven
namespace Go.Proofs.YtghffjlgiclieaaDoor
namespace Rows

/-- THE TIED CARD OF 'pasodoblelaw06.RollAgain'. -/
def rollAgainCard : Claim7 := { stood := { row := rollAgainRow, standIns := [], harness := (true, "1b77d65d6da34c6ab8f48b80e7c4d9fed329b85356e1a1619f22df79f4682ebc"), looks := true }, kinds := [], alts := [], laidByText := true, laidKinds := [.sentinel, .sentinel, .sentinel, .sentinel], laidTests := true, laidLooks := .later }
def RollAgainCardSaid : Prop := Claim7.holds Tryd.pinned (.plain (OpenSpec.ofChange rollAgainSpec)) rollAgainCard

/-- THE TIED CARD OF 'pasodoblelaw06.RollOnce'. -/
def rollOnceCard : Claim7 := { stood := { row := rollOnceRow, standIns := [], harness := (true, "1b77d65d6da34c6ab8f48b80e7c4d9fed329b85356e1a1619f22df79f4682ebc"), looks := true }, kinds := [], alts := [], laidByText := true, laidKinds := [.sentinel, .sentinel, .sentinel, .sentinel], laidTests := true, laidLooks := .later }
def RollOnceCardSaid : Prop := Claim7.holds Tryd.pinned (.plain (OpenSpec.ofChange rollOnceSpec)) rollOnceCard

/-- THE TIED CARD OF 'pasodoblelaw06.RollExact'. -/
def rollExactCard : Claim7 := { stood := { row := rollExactRow, standIns := [], harness := (true, "1b77d65d6da34c6ab8f48b80e7c4d9fed329b85356e1a1619f22df79f4682ebc"), looks := true }, kinds := [], alts := [], laidByText := true, laidKinds := [.sentinel, .sentinel, .sentinel, .sentinel, .sentinel, .sentinel, .sentinel, .sentinel, .sentinel, .sentinel, .sentinel, .sentinel, .sentinel, .sentinel, .sentinel, .sentinel, .sentinel, .sentinel], laidTests := true, laidLooks := .later }
def RollExactCardSaid : Prop := Claim7.holds Tryd.pinned (.plain (OpenSpec.ofChange rollExactSpec)) rollExactCard

/-- THE SECOND FORM's CARD OF 'pasodoblelaw06.RollAgain'. -/
def rollAgainUptoCard : Claim7 := { stood := { row := rollAgainUptoRow, standIns := [], harness := (true, "1b77d65d6da34c6ab8f48b80e7c4d9fed329b85356e1a1619f22df79f4682ebc"), looks := true }, kinds := [], alts := [], laidByText := true, laidKinds := [.sentinel, .sentinel, .sentinel, .sentinel], laidTests := true, laidLooks := .later }
def RollAgainUptoCardSaid : Prop := Claim7.holds Tryd.pinned (.plain (OpenSpec.upto rollAgainSpec)) rollAgainUptoCard

/-- THE SECOND FORM's CARD OF 'pasodoblelaw06.RollOnce'. -/
def rollOnceUptoCard : Claim7 := { stood := { row := rollOnceUptoRow, standIns := [], harness := (true, "1b77d65d6da34c6ab8f48b80e7c4d9fed329b85356e1a1619f22df79f4682ebc"), looks := true }, kinds := [], alts := [], laidByText := true, laidKinds := [.sentinel, .sentinel, .sentinel, .sentinel], laidTests := true, laidLooks := .later }
def RollOnceUptoCardSaid : Prop := Claim7.holds Tryd.pinned (.plain (OpenSpec.upto rollOnceSpec)) rollOnceUptoCard

/-- THE SECOND FORM's CARD OF 'pasodoblelaw06.RollExact'. -/
def rollExactUptoCard : Claim7 := { stood := { row := rollExactUptoRow, standIns := [], harness := (true, "1b77d65d6da34c6ab8f48b80e7c4d9fed329b85356e1a1619f22df79f4682ebc"), looks := true }, kinds := [], alts := [], laidByText := true, laidKinds := [.sentinel, .sentinel, .sentinel, .sentinel, .sentinel, .sentinel, .sentinel, .sentinel, .sentinel, .sentinel, .sentinel, .sentinel, .sentinel, .sentinel, .sentinel, .sentinel, .sentinel, .sentinel], laidTests := true, laidLooks := .later }
def RollExactUptoCardSaid : Prop := Claim7.holds Tryd.pinned (.plain (OpenSpec.upto rollExactSpec)) rollExactUptoCard
end Rows
end Go.Proofs.YtghffjlgiclieaaDoor
