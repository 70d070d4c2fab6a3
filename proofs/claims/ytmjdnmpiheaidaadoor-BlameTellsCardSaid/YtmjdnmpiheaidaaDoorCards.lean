/-
  DERIVED. GIVEN WITH THE SEED: THE CARDS: each row of YtmjdnmpiheaidaaDoorRows.lean that lists a variable, with what it lists TIED to the program's text (the seventh form; the later family's looks); each row that meets fmt, with fmt's text TOLD by the authors' own Lean function (tested against real Go, not proved from fmt's source: count such statements apart). THE CARD IS WHAT COUNTS. Prove the row's statement (the work); the ties are given (YtmjdnmpiheaidaaDoorTie.lean); close each card by the builder's one call (the guide's Derived/Test/ToyasCard.lean, 'card_holds'). Laid BY PROGRAM, IN A SANDBOX (cutbox-door.mjs). By AI agents, Wed Nov 11 2026. No macro, syntax, notation, axiom, sorry.
-/
import Derived.Test.YtmjdnmpiheaidaaDoorRows
import GoSem.ClaimSeven
namespace Go.Proofs.YtmjdnmpiheaidaaDoor
namespace Rows

/-- THE TIED CARD OF 'pasodoblelaw01.BlameTells'. -/
def blameTellsCard : Claim7 := { stood := { row := blameTellsRow, standIns := [], harness := (true, "ab335d4da69434569230f47979326ca7d340ba0ade47a8e55446ffe16b525e1e"), looks := true }, kinds := [], alts := [], laidByText := true, laidKinds := [.sentinel, .sentinel, .sentinel, .sentinel, .sentinel, .sentinel, .sentinel, .sentinel, .sentinel, .sentinel, .sentinel, .sentinel, .sentinel, .sentinel, .sentinel, .sentinel, .sentinel, .sentinel], laidTests := true, laidLooks := .later }
def BlameTellsCardSaid : Prop := Claim7.holds Tryd.pinned (.plain (OpenSpec.ofChange blameTellsSpec)) blameTellsCard

/-- THE TIED CARD OF 'pasodoblelaw01.BlameNames'. -/
def blameNamesCard : Claim7 := { stood := { row := blameNamesRow, standIns := [], harness := (true, "ab335d4da69434569230f47979326ca7d340ba0ade47a8e55446ffe16b525e1e"), looks := true }, kinds := [], alts := [], laidByText := true, laidKinds := [.sentinel, .sentinel, .sentinel, .sentinel, .sentinel, .sentinel, .sentinel, .sentinel, .sentinel, .sentinel, .sentinel, .sentinel, .sentinel, .sentinel, .sentinel, .sentinel, .sentinel, .sentinel], laidTests := true, laidLooks := .later }
def BlameNamesCardSaid : Prop := Claim7.holds Tryd.pinned (.plain (OpenSpec.ofChange blameNamesSpec)) blameNamesCard

/-- THE TIED CARD OF 'pasodoblelaw01.BlameParts'. -/
def blamePartsCard : Claim7 := { stood := { row := blamePartsRow, standIns := [], harness := (true, "ab335d4da69434569230f47979326ca7d340ba0ade47a8e55446ffe16b525e1e"), looks := true }, kinds := [], alts := [], laidByText := true, laidKinds := [.sentinel, .sentinel, .sentinel, .sentinel, .sentinel, .sentinel, .sentinel, .sentinel, .sentinel, .sentinel, .sentinel, .sentinel, .sentinel, .sentinel, .sentinel, .sentinel, .sentinel, .sentinel], laidTests := true, laidLooks := .later }
def BlamePartsCardSaid : Prop := Claim7.holds Tryd.pinned (.plain (OpenSpec.ofChange blamePartsSpec)) blamePartsCard

/-- THE TIED CARD OF 'pasodoblelaw01.BlameDeeper'. -/
def blameDeeperCard : Claim7 := { stood := { row := blameDeeperRow, standIns := [], harness := (true, "ab335d4da69434569230f47979326ca7d340ba0ade47a8e55446ffe16b525e1e"), looks := true }, kinds := [], alts := [], laidByText := true, laidKinds := [.sentinel, .sentinel, .sentinel, .sentinel, .sentinel, .sentinel, .sentinel, .sentinel, .sentinel, .sentinel, .sentinel, .sentinel, .sentinel, .sentinel, .sentinel, .sentinel, .sentinel, .sentinel], laidTests := true, laidLooks := .later }
def BlameDeeperCardSaid : Prop := Claim7.holds Tryd.pinned (.plain (OpenSpec.ofChange blameDeeperSpec)) blameDeeperCard

/-- THE TIED CARD OF 'pasodoblelaw01.BlameOpens'. -/
def blameOpensCard : Claim7 := { stood := { row := blameOpensRow, standIns := [], harness := (true, "ab335d4da69434569230f47979326ca7d340ba0ade47a8e55446ffe16b525e1e"), looks := true }, kinds := [], alts := [], laidByText := true, laidKinds := [.handle, .sentinel, .sentinel, .sentinel, .sentinel, .sentinel, .sentinel, .sentinel, .sentinel, .sentinel, .sentinel, .sentinel, .sentinel, .sentinel, .sentinel, .sentinel, .sentinel, .sentinel, .sentinel], laidTests := true, laidLooks := .later }
def BlameOpensCardSaid : Prop := Claim7.holds Tryd.pinned (.plain (OpenSpec.ofChange blameOpensSpec)) blameOpensCard

/-- THE SECOND FORM's CARD OF 'pasodoblelaw01.BlameTells'. -/
def blameTellsUptoCard : Claim7 := { stood := { row := blameTellsUptoRow, standIns := [], harness := (true, "ab335d4da69434569230f47979326ca7d340ba0ade47a8e55446ffe16b525e1e"), looks := true }, kinds := [], alts := [], laidByText := true, laidKinds := [.sentinel, .sentinel, .sentinel, .sentinel, .sentinel, .sentinel, .sentinel, .sentinel, .sentinel, .sentinel, .sentinel, .sentinel, .sentinel, .sentinel, .sentinel, .sentinel, .sentinel, .sentinel], laidTests := true, laidLooks := .later }
def BlameTellsUptoCardSaid : Prop := Claim7.holds Tryd.pinned (.plain (OpenSpec.upto blameTellsSpec)) blameTellsUptoCard

/-- THE SECOND FORM's CARD OF 'pasodoblelaw01.BlameNames'. -/
def blameNamesUptoCard : Claim7 := { stood := { row := blameNamesUptoRow, standIns := [], harness := (true, "ab335d4da69434569230f47979326ca7d340ba0ade47a8e55446ffe16b525e1e"), looks := true }, kinds := [], alts := [], laidByText := true, laidKinds := [.sentinel, .sentinel, .sentinel, .sentinel, .sentinel, .sentinel, .sentinel, .sentinel, .sentinel, .sentinel, .sentinel, .sentinel, .sentinel, .sentinel, .sentinel, .sentinel, .sentinel, .sentinel], laidTests := true, laidLooks := .later }
def BlameNamesUptoCardSaid : Prop := Claim7.holds Tryd.pinned (.plain (OpenSpec.upto blameNamesSpec)) blameNamesUptoCard

/-- THE SECOND FORM's CARD OF 'pasodoblelaw01.BlameParts'. -/
def blamePartsUptoCard : Claim7 := { stood := { row := blamePartsUptoRow, standIns := [], harness := (true, "ab335d4da69434569230f47979326ca7d340ba0ade47a8e55446ffe16b525e1e"), looks := true }, kinds := [], alts := [], laidByText := true, laidKinds := [.sentinel, .sentinel, .sentinel, .sentinel, .sentinel, .sentinel, .sentinel, .sentinel, .sentinel, .sentinel, .sentinel, .sentinel, .sentinel, .sentinel, .sentinel, .sentinel, .sentinel, .sentinel], laidTests := true, laidLooks := .later }
def BlamePartsUptoCardSaid : Prop := Claim7.holds Tryd.pinned (.plain (OpenSpec.upto blamePartsSpec)) blamePartsUptoCard

/-- THE SECOND FORM's CARD OF 'pasodoblelaw01.BlameDeeper'. -/
def blameDeeperUptoCard : Claim7 := { stood := { row := blameDeeperUptoRow, standIns := [], harness := (true, "ab335d4da69434569230f47979326ca7d340ba0ade47a8e55446ffe16b525e1e"), looks := true }, kinds := [], alts := [], laidByText := true, laidKinds := [.sentinel, .sentinel, .sentinel, .sentinel, .sentinel, .sentinel, .sentinel, .sentinel, .sentinel, .sentinel, .sentinel, .sentinel, .sentinel, .sentinel, .sentinel, .sentinel, .sentinel, .sentinel], laidTests := true, laidLooks := .later }
def BlameDeeperUptoCardSaid : Prop := Claim7.holds Tryd.pinned (.plain (OpenSpec.upto blameDeeperSpec)) blameDeeperUptoCard

/-- THE SECOND FORM's CARD OF 'pasodoblelaw01.BlameOpens'. -/
def blameOpensUptoCard : Claim7 := { stood := { row := blameOpensUptoRow, standIns := [], harness := (true, "ab335d4da69434569230f47979326ca7d340ba0ade47a8e55446ffe16b525e1e"), looks := true }, kinds := [], alts := [], laidByText := true, laidKinds := [.handle, .sentinel, .sentinel, .sentinel, .sentinel, .sentinel, .sentinel, .sentinel, .sentinel, .sentinel, .sentinel, .sentinel, .sentinel, .sentinel, .sentinel, .sentinel, .sentinel, .sentinel, .sentinel], laidTests := true, laidLooks := .later }
def BlameOpensUptoCardSaid : Prop := Claim7.holds Tryd.pinned (.plain (OpenSpec.upto blameOpensSpec)) blameOpensUptoCard
end Rows
end Go.Proofs.YtmjdnmpiheaidaaDoor
