/-
  DERIVED. GIVEN WITH THE SEED: THE CARDS: each row of YtpipgkglacmoeaaDoorRows.lean that lists a variable, with what it lists TIED to the program's text (the seventh form; the later family's looks); each row that meets fmt, with fmt's text TOLD by the authors' own Lean function (tested against real Go, not proved from fmt's source: count such statements apart). THE CARD IS WHAT COUNTS. Prove the row's statement (the work); the ties are given (YtpipgkglacmoeaaDoorTie.lean); close each card by the builder's one call (the guide's Derived/Test/ToyasCard.lean, 'card_holds'). Laid BY PROGRAM, IN A SANDBOX (cutbox-door.mjs). By AI agents, Wed Nov 11 2026. No macro, syntax, notation, axiom, sorry.
-/
import Derived.Test.YtpipgkglacmoeaaDoorRows
import GoSem.ClaimSeven
namespace Go.Proofs.YtpipgkglacmoeaaDoor
namespace Rows

/-- THE TIED CARD OF 'pasodoblelaw10.BadgeOnce'. -/
def badgeOnceCard : Claim7 := { stood := { row := badgeOnceRow, standIns := [], harness := (true, "f085aadb0c6db0bca77a1021831a93ef4d1b3abb8db81e35c3671b4d76f46094"), looks := true }, kinds := [], alts := [], laidByText := true, laidKinds := [.sentinel, .sentinel, .sentinel, .sentinel, .sentinel], laidTests := true, laidLooks := .later }
def BadgeOnceCardSaid : Prop := Claim7.holds Tryd.pinned (.plain (OpenSpec.ofChange badgeOnceSpec)) badgeOnceCard

/-- THE TIED CARD OF 'pasodoblelaw10.BadgeBack'. -/
def badgeBackCard : Claim7 := { stood := { row := badgeBackRow, standIns := [], harness := (true, "f085aadb0c6db0bca77a1021831a93ef4d1b3abb8db81e35c3671b4d76f46094"), looks := true }, kinds := [], alts := [], laidByText := true, laidKinds := [.sentinel, .sentinel, .sentinel, .sentinel, .sentinel], laidTests := true, laidLooks := .later }
def BadgeBackCardSaid : Prop := Claim7.holds Tryd.pinned (.plain (OpenSpec.ofChange badgeBackSpec)) badgeBackCard

/-- THE TIED CARD OF 'pasodoblelaw10.BadgeStays'. -/
def badgeStaysCard : Claim7 := { stood := { row := badgeStaysRow, standIns := [], harness := (true, "f085aadb0c6db0bca77a1021831a93ef4d1b3abb8db81e35c3671b4d76f46094"), looks := true }, kinds := [], alts := [], laidByText := true, laidKinds := [.sentinel, .sentinel, .sentinel, .sentinel, .sentinel], laidTests := true, laidLooks := .later }
def BadgeStaysCardSaid : Prop := Claim7.holds Tryd.pinned (.plain (OpenSpec.ofChange badgeStaysSpec)) badgeStaysCard

/-- THE TIED CARD OF 'pasodoblelaw10.BadgeExact'. -/
def badgeExactCard : Claim7 := { stood := { row := badgeExactRow, standIns := [], harness := (true, "f085aadb0c6db0bca77a1021831a93ef4d1b3abb8db81e35c3671b4d76f46094"), looks := true }, kinds := [], alts := [], laidByText := true, laidKinds := [.sentinel, .sentinel, .sentinel, .sentinel, .sentinel, .sentinel, .sentinel, .sentinel, .sentinel, .sentinel, .sentinel, .sentinel, .sentinel, .sentinel, .sentinel, .sentinel, .sentinel, .sentinel], laidTests := true, laidLooks := .later }
def BadgeExactCardSaid : Prop := Claim7.holds Tryd.pinned (.plain (OpenSpec.ofChange badgeExactSpec)) badgeExactCard

/-- THE SECOND FORM's CARD OF 'pasodoblelaw10.BadgeOnce'. -/
def badgeOnceUptoCard : Claim7 := { stood := { row := badgeOnceUptoRow, standIns := [], harness := (true, "f085aadb0c6db0bca77a1021831a93ef4d1b3abb8db81e35c3671b4d76f46094"), looks := true }, kinds := [], alts := [], laidByText := true, laidKinds := [.sentinel, .sentinel, .sentinel, .sentinel, .sentinel], laidTests := true, laidLooks := .later }
def BadgeOnceUptoCardSaid : Prop := Claim7.holds Tryd.pinned (.plain (OpenSpec.upto badgeOnceSpec)) badgeOnceUptoCard

/-- THE SECOND FORM's CARD OF 'pasodoblelaw10.BadgeBack'. -/
def badgeBackUptoCard : Claim7 := { stood := { row := badgeBackUptoRow, standIns := [], harness := (true, "f085aadb0c6db0bca77a1021831a93ef4d1b3abb8db81e35c3671b4d76f46094"), looks := true }, kinds := [], alts := [], laidByText := true, laidKinds := [.sentinel, .sentinel, .sentinel, .sentinel, .sentinel], laidTests := true, laidLooks := .later }
def BadgeBackUptoCardSaid : Prop := Claim7.holds Tryd.pinned (.plain (OpenSpec.upto badgeBackSpec)) badgeBackUptoCard

/-- THE SECOND FORM's CARD OF 'pasodoblelaw10.BadgeStays'. -/
def badgeStaysUptoCard : Claim7 := { stood := { row := badgeStaysUptoRow, standIns := [], harness := (true, "f085aadb0c6db0bca77a1021831a93ef4d1b3abb8db81e35c3671b4d76f46094"), looks := true }, kinds := [], alts := [], laidByText := true, laidKinds := [.sentinel, .sentinel, .sentinel, .sentinel, .sentinel], laidTests := true, laidLooks := .later }
def BadgeStaysUptoCardSaid : Prop := Claim7.holds Tryd.pinned (.plain (OpenSpec.upto badgeStaysSpec)) badgeStaysUptoCard

/-- THE SECOND FORM's CARD OF 'pasodoblelaw10.BadgeExact'. -/
def badgeExactUptoCard : Claim7 := { stood := { row := badgeExactUptoRow, standIns := [], harness := (true, "f085aadb0c6db0bca77a1021831a93ef4d1b3abb8db81e35c3671b4d76f46094"), looks := true }, kinds := [], alts := [], laidByText := true, laidKinds := [.sentinel, .sentinel, .sentinel, .sentinel, .sentinel, .sentinel, .sentinel, .sentinel, .sentinel, .sentinel, .sentinel, .sentinel, .sentinel, .sentinel, .sentinel, .sentinel, .sentinel, .sentinel], laidTests := true, laidLooks := .later }
def BadgeExactUptoCardSaid : Prop := Claim7.holds Tryd.pinned (.plain (OpenSpec.upto badgeExactSpec)) badgeExactUptoCard
end Rows
end Go.Proofs.YtpipgkglacmoeaaDoor
