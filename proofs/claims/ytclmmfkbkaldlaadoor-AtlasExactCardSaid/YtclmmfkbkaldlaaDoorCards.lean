/-
  DERIVED. GIVEN WITH THE SEED: THE CARDS: each row of YtclmmfkbkaldlaaDoorRows.lean that lists a variable, with what it lists TIED to the program's text (the seventh form; the later family's looks); each row that meets fmt, with fmt's text TOLD by the authors' own Lean function (tested against real Go, not proved from fmt's source: count such statements apart). THE CARD IS WHAT COUNTS. Prove the row's statement (the work); the ties are given (YtclmmfkbkaldlaaDoorTie.lean); close each card by the builder's one call (the guide's Derived/Test/ToyasCard.lean, 'card_holds'). Laid BY PROGRAM, IN A SANDBOX (cutbox-door.mjs). By AI agents, Wed Nov 11 2026. No macro, syntax, notation, axiom, sorry.
-/
import Derived.Test.YtclmmfkbkaldlaaDoorRows
import GoSem.ClaimSeven
namespace Go.Proofs.YtclmmfkbkaldlaaDoor
namespace Rows

/-- THE TIED CARD OF 'pasodoblelaw08.AtlasOnce'. -/
def atlasOnceCard : Claim7 := { stood := { row := atlasOnceRow, standIns := [], harness := (true, "af87b75abac731941125abf94d7bca758de665eb24d2d64bfc1e20621eb2081e"), looks := true }, kinds := [], alts := [], laidByText := true, laidKinds := [.data, .sentinel, .sentinel, .sentinel], laidTests := true, laidLooks := .later }
def AtlasOnceCardSaid : Prop := Claim7.holds Tryd.pinned (.plain (OpenSpec.ofChange atlasOnceSpec)) atlasOnceCard

/-- THE TIED CARD OF 'pasodoblelaw08.AtlasTurns'. -/
def atlasTurnsCard : Claim7 := { stood := { row := atlasTurnsRow, standIns := [], harness := (true, "af87b75abac731941125abf94d7bca758de665eb24d2d64bfc1e20621eb2081e"), looks := true }, kinds := [], alts := [], laidByText := true, laidKinds := [.data, .sentinel, .sentinel, .sentinel], laidTests := true, laidLooks := .later }
def AtlasTurnsCardSaid : Prop := Claim7.holds Tryd.pinned (.plain (OpenSpec.ofChange atlasTurnsSpec)) atlasTurnsCard

/-- THE TIED CARD OF 'pasodoblelaw08.AtlasWays'. -/
def atlasWaysCard : Claim7 := { stood := { row := atlasWaysRow, standIns := [], harness := (true, "af87b75abac731941125abf94d7bca758de665eb24d2d64bfc1e20621eb2081e"), looks := true }, kinds := [], alts := [], laidByText := true, laidKinds := [.data, .sentinel, .sentinel, .sentinel], laidTests := true, laidLooks := .later }
def AtlasWaysCardSaid : Prop := Claim7.holds Tryd.pinned (.plain (OpenSpec.ofChange atlasWaysSpec)) atlasWaysCard

/-- THE TIED CARD OF 'pasodoblelaw08.AtlasMatches'. -/
def atlasMatchesCard : Claim7 := { stood := { row := atlasMatchesRow, standIns := [], harness := (true, "af87b75abac731941125abf94d7bca758de665eb24d2d64bfc1e20621eb2081e"), looks := true }, kinds := [], alts := [], laidByText := true, laidKinds := [.data, .sentinel, .sentinel, .sentinel], laidTests := true, laidLooks := .later }
def AtlasMatchesCardSaid : Prop := Claim7.holds Tryd.pinned (.plain (OpenSpec.ofChange atlasMatchesSpec)) atlasMatchesCard

/-- THE TIED CARD OF 'pasodoblelaw08.AtlasExact'. -/
def atlasExactCard : Claim7 := { stood := { row := atlasExactRow, standIns := [], harness := (true, "af87b75abac731941125abf94d7bca758de665eb24d2d64bfc1e20621eb2081e"), looks := true }, kinds := [], alts := [], laidByText := true, laidKinds := [.data, .sentinel, .sentinel, .sentinel, .sentinel, .sentinel, .sentinel, .sentinel, .sentinel, .sentinel, .sentinel, .sentinel, .sentinel, .sentinel, .sentinel, .sentinel, .sentinel, .sentinel, .sentinel], laidTests := true, laidLooks := .later }
def AtlasExactCardSaid : Prop := Claim7.holds Tryd.pinned (.plain (OpenSpec.ofChange atlasExactSpec)) atlasExactCard

/-- THE SECOND FORM's CARD OF 'pasodoblelaw08.AtlasOnce'. -/
def atlasOnceUptoCard : Claim7 := { stood := { row := atlasOnceUptoRow, standIns := [], harness := (true, "af87b75abac731941125abf94d7bca758de665eb24d2d64bfc1e20621eb2081e"), looks := true }, kinds := [], alts := [], laidByText := true, laidKinds := [.data, .sentinel, .sentinel, .sentinel], laidTests := true, laidLooks := .later }
def AtlasOnceUptoCardSaid : Prop := Claim7.holds Tryd.pinned (.plain (OpenSpec.upto atlasOnceSpec)) atlasOnceUptoCard

/-- THE SECOND FORM's CARD OF 'pasodoblelaw08.AtlasTurns'. -/
def atlasTurnsUptoCard : Claim7 := { stood := { row := atlasTurnsUptoRow, standIns := [], harness := (true, "af87b75abac731941125abf94d7bca758de665eb24d2d64bfc1e20621eb2081e"), looks := true }, kinds := [], alts := [], laidByText := true, laidKinds := [.data, .sentinel, .sentinel, .sentinel], laidTests := true, laidLooks := .later }
def AtlasTurnsUptoCardSaid : Prop := Claim7.holds Tryd.pinned (.plain (OpenSpec.upto atlasTurnsSpec)) atlasTurnsUptoCard

/-- THE SECOND FORM's CARD OF 'pasodoblelaw08.AtlasWays'. -/
def atlasWaysUptoCard : Claim7 := { stood := { row := atlasWaysUptoRow, standIns := [], harness := (true, "af87b75abac731941125abf94d7bca758de665eb24d2d64bfc1e20621eb2081e"), looks := true }, kinds := [], alts := [], laidByText := true, laidKinds := [.data, .sentinel, .sentinel, .sentinel], laidTests := true, laidLooks := .later }
def AtlasWaysUptoCardSaid : Prop := Claim7.holds Tryd.pinned (.plain (OpenSpec.upto atlasWaysSpec)) atlasWaysUptoCard

/-- THE SECOND FORM's CARD OF 'pasodoblelaw08.AtlasMatches'. -/
def atlasMatchesUptoCard : Claim7 := { stood := { row := atlasMatchesUptoRow, standIns := [], harness := (true, "af87b75abac731941125abf94d7bca758de665eb24d2d64bfc1e20621eb2081e"), looks := true }, kinds := [], alts := [], laidByText := true, laidKinds := [.data, .sentinel, .sentinel, .sentinel], laidTests := true, laidLooks := .later }
def AtlasMatchesUptoCardSaid : Prop := Claim7.holds Tryd.pinned (.plain (OpenSpec.upto atlasMatchesSpec)) atlasMatchesUptoCard

/-- THE SECOND FORM's CARD OF 'pasodoblelaw08.AtlasExact'. -/
def atlasExactUptoCard : Claim7 := { stood := { row := atlasExactUptoRow, standIns := [], harness := (true, "af87b75abac731941125abf94d7bca758de665eb24d2d64bfc1e20621eb2081e"), looks := true }, kinds := [], alts := [], laidByText := true, laidKinds := [.data, .sentinel, .sentinel, .sentinel, .sentinel, .sentinel, .sentinel, .sentinel, .sentinel, .sentinel, .sentinel, .sentinel, .sentinel, .sentinel, .sentinel, .sentinel, .sentinel, .sentinel, .sentinel], laidTests := true, laidLooks := .later }
def AtlasExactUptoCardSaid : Prop := Claim7.holds Tryd.pinned (.plain (OpenSpec.upto atlasExactSpec)) atlasExactUptoCard
end Rows
end Go.Proofs.YtclmmfkbkaldlaaDoor
