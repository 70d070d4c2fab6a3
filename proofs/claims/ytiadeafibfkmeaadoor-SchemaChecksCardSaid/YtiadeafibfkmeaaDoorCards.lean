/-
  DERIVED. GIVEN WITH THE SEED: THE CARDS: each row of YtiadeafibfkmeaaDoorRows.lean that lists a variable, with what it lists TIED to the program's text (the seventh form; the later family's looks); each row that meets fmt, with fmt's text TOLD by the authors' own Lean function (tested against real Go, not proved from fmt's source: count such statements apart). THE CARD IS WHAT COUNTS. Prove the row's statement (the work); the ties are given (YtiadeafibfkmeaaDoorTie.lean); close each card by the builder's one call (the guide's Derived/Test/ToyasCard.lean, 'card_holds'). Laid BY PROGRAM, IN A SANDBOX (cutbox-door.mjs). By AI agents, Wed Nov 11 2026. No macro, syntax, notation, axiom, sorry.
-/
import Derived.Test.YtiadeafibfkmeaaDoorRows
import GoSem.ClaimSeven
namespace Go.Proofs.YtiadeafibfkmeaaDoor
namespace Rows

/-- THE TIED CARD OF 'pasodoblelaw05.SchemaChecks'. -/
def schemaChecksCard : Claim7 := { stood := { row := schemaChecksRow, standIns := [], harness := (true, "5d87f7c0f11f57b7e10516f0a9213bb30635390a401de56a42a2c4dbdc6ab2b2"), looks := true }, kinds := [], alts := [], laidByText := true, laidKinds := [.data, .data, .data, .sentinel, .sentinel, .sentinel, .sentinel, .sentinel, .sentinel, .sentinel, .sentinel, .sentinel, .sentinel, .sentinel, .sentinel, .sentinel, .sentinel, .sentinel, .sentinel, .sentinel, .sentinel], laidTests := true, laidLooks := .later }
def SchemaChecksCardSaid : Prop := Claim7.holds Tryd.pinned (.plain (OpenSpec.ofChange schemaChecksSpec)) schemaChecksCard

/-- THE TIED CARD OF 'pasodoblelaw05.SchemaFewer'. -/
def schemaFewerCard : Claim7 := { stood := { row := schemaFewerRow, standIns := [], harness := (true, "5d87f7c0f11f57b7e10516f0a9213bb30635390a401de56a42a2c4dbdc6ab2b2"), looks := true }, kinds := [], alts := [], laidByText := true, laidKinds := [.data, .data, .data, .sentinel, .sentinel, .sentinel, .sentinel, .sentinel, .sentinel, .sentinel, .sentinel, .sentinel, .sentinel, .sentinel, .sentinel, .sentinel, .sentinel, .sentinel, .sentinel, .sentinel, .sentinel], laidTests := true, laidLooks := .later }
def SchemaFewerCardSaid : Prop := Claim7.holds Tryd.pinned (.plain (OpenSpec.ofChange schemaFewerSpec)) schemaFewerCard

/-- THE TIED CARD OF 'pasodoblelaw05.SchemaNames'. -/
def schemaNamesCard : Claim7 := { stood := { row := schemaNamesRow, standIns := [], harness := (true, "5d87f7c0f11f57b7e10516f0a9213bb30635390a401de56a42a2c4dbdc6ab2b2"), looks := true }, kinds := [], alts := [], laidByText := true, laidKinds := [.data, .data, .data, .sentinel, .sentinel, .sentinel, .sentinel, .sentinel, .sentinel, .sentinel, .sentinel, .sentinel, .sentinel, .sentinel, .sentinel, .sentinel, .sentinel, .sentinel, .sentinel, .sentinel, .sentinel], laidTests := true, laidLooks := .later }
def SchemaNamesCardSaid : Prop := Claim7.holds Tryd.pinned (.plain (OpenSpec.ofChange schemaNamesSpec)) schemaNamesCard

/-- THE TIED CARD OF 'pasodoblelaw05.SchemaSets'. -/
def schemaSetsCard : Claim7 := { stood := { row := schemaSetsRow, standIns := [], harness := (true, "5d87f7c0f11f57b7e10516f0a9213bb30635390a401de56a42a2c4dbdc6ab2b2"), looks := true }, kinds := [], alts := [], laidByText := true, laidKinds := [.data, .data, .data, .sentinel, .sentinel, .sentinel, .sentinel, .sentinel, .sentinel, .sentinel, .sentinel, .sentinel, .sentinel, .sentinel, .sentinel, .sentinel, .sentinel, .sentinel, .sentinel, .sentinel, .sentinel], laidTests := true, laidLooks := .later }
def SchemaSetsCardSaid : Prop := Claim7.holds Tryd.pinned (.plain (OpenSpec.ofChange schemaSetsSpec)) schemaSetsCard

/-- THE TIED CARD OF 'pasodoblelaw05.SchemaBack'. -/
def schemaBackCard : Claim7 := { stood := { row := schemaBackRow, standIns := [], harness := (true, "5d87f7c0f11f57b7e10516f0a9213bb30635390a401de56a42a2c4dbdc6ab2b2"), looks := true }, kinds := [], alts := [], laidByText := true, laidKinds := [.data, .data, .data, .sentinel, .sentinel, .sentinel, .sentinel, .sentinel, .sentinel, .sentinel, .sentinel, .sentinel, .sentinel, .sentinel, .sentinel, .sentinel, .sentinel, .sentinel, .sentinel, .sentinel, .sentinel], laidTests := true, laidLooks := .later }
def SchemaBackCardSaid : Prop := Claim7.holds Tryd.pinned (.plain (OpenSpec.ofChange schemaBackSpec)) schemaBackCard

/-- THE SECOND FORM's CARD OF 'pasodoblelaw05.SchemaChecks'. -/
def schemaChecksUptoCard : Claim7 := { stood := { row := schemaChecksUptoRow, standIns := [], harness := (true, "5d87f7c0f11f57b7e10516f0a9213bb30635390a401de56a42a2c4dbdc6ab2b2"), looks := true }, kinds := [], alts := [], laidByText := true, laidKinds := [.data, .data, .data, .sentinel, .sentinel, .sentinel, .sentinel, .sentinel, .sentinel, .sentinel, .sentinel, .sentinel, .sentinel, .sentinel, .sentinel, .sentinel, .sentinel, .sentinel, .sentinel, .sentinel, .sentinel], laidTests := true, laidLooks := .later }
def SchemaChecksUptoCardSaid : Prop := Claim7.holds Tryd.pinned (.plain (OpenSpec.upto schemaChecksSpec)) schemaChecksUptoCard

/-- THE SECOND FORM's CARD OF 'pasodoblelaw05.SchemaFewer'. -/
def schemaFewerUptoCard : Claim7 := { stood := { row := schemaFewerUptoRow, standIns := [], harness := (true, "5d87f7c0f11f57b7e10516f0a9213bb30635390a401de56a42a2c4dbdc6ab2b2"), looks := true }, kinds := [], alts := [], laidByText := true, laidKinds := [.data, .data, .data, .sentinel, .sentinel, .sentinel, .sentinel, .sentinel, .sentinel, .sentinel, .sentinel, .sentinel, .sentinel, .sentinel, .sentinel, .sentinel, .sentinel, .sentinel, .sentinel, .sentinel, .sentinel], laidTests := true, laidLooks := .later }
def SchemaFewerUptoCardSaid : Prop := Claim7.holds Tryd.pinned (.plain (OpenSpec.upto schemaFewerSpec)) schemaFewerUptoCard

/-- THE SECOND FORM's CARD OF 'pasodoblelaw05.SchemaNames'. -/
def schemaNamesUptoCard : Claim7 := { stood := { row := schemaNamesUptoRow, standIns := [], harness := (true, "5d87f7c0f11f57b7e10516f0a9213bb30635390a401de56a42a2c4dbdc6ab2b2"), looks := true }, kinds := [], alts := [], laidByText := true, laidKinds := [.data, .data, .data, .sentinel, .sentinel, .sentinel, .sentinel, .sentinel, .sentinel, .sentinel, .sentinel, .sentinel, .sentinel, .sentinel, .sentinel, .sentinel, .sentinel, .sentinel, .sentinel, .sentinel, .sentinel], laidTests := true, laidLooks := .later }
def SchemaNamesUptoCardSaid : Prop := Claim7.holds Tryd.pinned (.plain (OpenSpec.upto schemaNamesSpec)) schemaNamesUptoCard

/-- THE SECOND FORM's CARD OF 'pasodoblelaw05.SchemaSets'. -/
def schemaSetsUptoCard : Claim7 := { stood := { row := schemaSetsUptoRow, standIns := [], harness := (true, "5d87f7c0f11f57b7e10516f0a9213bb30635390a401de56a42a2c4dbdc6ab2b2"), looks := true }, kinds := [], alts := [], laidByText := true, laidKinds := [.data, .data, .data, .sentinel, .sentinel, .sentinel, .sentinel, .sentinel, .sentinel, .sentinel, .sentinel, .sentinel, .sentinel, .sentinel, .sentinel, .sentinel, .sentinel, .sentinel, .sentinel, .sentinel, .sentinel], laidTests := true, laidLooks := .later }
def SchemaSetsUptoCardSaid : Prop := Claim7.holds Tryd.pinned (.plain (OpenSpec.upto schemaSetsSpec)) schemaSetsUptoCard

/-- THE SECOND FORM's CARD OF 'pasodoblelaw05.SchemaBack'. -/
def schemaBackUptoCard : Claim7 := { stood := { row := schemaBackUptoRow, standIns := [], harness := (true, "5d87f7c0f11f57b7e10516f0a9213bb30635390a401de56a42a2c4dbdc6ab2b2"), looks := true }, kinds := [], alts := [], laidByText := true, laidKinds := [.data, .data, .data, .sentinel, .sentinel, .sentinel, .sentinel, .sentinel, .sentinel, .sentinel, .sentinel, .sentinel, .sentinel, .sentinel, .sentinel, .sentinel, .sentinel, .sentinel, .sentinel, .sentinel, .sentinel], laidTests := true, laidLooks := .later }
def SchemaBackUptoCardSaid : Prop := Claim7.holds Tryd.pinned (.plain (OpenSpec.upto schemaBackSpec)) schemaBackUptoCard
end Rows
end Go.Proofs.YtiadeafibfkmeaaDoor
