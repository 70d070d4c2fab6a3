/-
  DERIVED. GIVEN WITH THE SEED: THE CARDS: each row of YtnncbmbepdkfnaaDoorRows.lean that lists a variable, with what it lists TIED to the program's text (the seventh form; the later family's looks); each row that meets fmt, with fmt's text TOLD by the authors' own Lean function (tested against real Go, not proved from fmt's source: count such statements apart). THE CARD IS WHAT COUNTS. Prove the row's statement (the work); the ties are given (YtnncbmbepdkfnaaDoorTie.lean); close each card by the builder's one call (the guide's Derived/Test/ToyasCard.lean, 'card_holds'). Laid BY PROGRAM, IN A SANDBOX (cutbox-door.mjs). By AI agents, Wed Nov 11 2026. No macro, syntax, notation, axiom, sorry.
-/
import Derived.Test.YtnncbmbepdkfnaaDoorRows
import GoSem.ClaimSeven
namespace Go.Proofs.YtnncbmbepdkfnaaDoor
namespace Rows

/-- THE TIED CARD OF 'pasodoblelaw12.GoodsStays'. -/
def goodsStaysCard : Claim7 := { stood := { row := goodsStaysRow, standIns := [], harness := (true, "405eea0c8bba18a469153169901c655cb1498c366e6c512129d122d26de549b6"), looks := true }, kinds := [], alts := [], laidByText := true, laidKinds := [.data, .data, .data, .sentinel, .sentinel, .sentinel, .sentinel, .sentinel, .sentinel], laidTests := true, laidLooks := .later }
def GoodsStaysCardSaid : Prop := Claim7.holds Tryd.pinned (.plain (OpenSpec.ofChange goodsStaysSpec)) goodsStaysCard

/-- THE TIED CARD OF 'pasodoblelaw12.GoodsBack'. -/
def goodsBackCard : Claim7 := { stood := { row := goodsBackRow, standIns := [], harness := (true, "405eea0c8bba18a469153169901c655cb1498c366e6c512129d122d26de549b6"), looks := true }, kinds := [], alts := [], laidByText := true, laidKinds := [.data, .data, .data, .sentinel, .sentinel, .sentinel, .sentinel, .sentinel, .sentinel], laidTests := true, laidLooks := .later }
def GoodsBackCardSaid : Prop := Claim7.holds Tryd.pinned (.plain (OpenSpec.ofChange goodsBackSpec)) goodsBackCard

/-- THE TIED CARD OF 'pasodoblelaw12.GoodsExact'. -/
def goodsExactCard : Claim7 := { stood := { row := goodsExactRow, standIns := [], harness := (true, "405eea0c8bba18a469153169901c655cb1498c366e6c512129d122d26de549b6"), looks := true }, kinds := [], alts := [], laidByText := true, laidKinds := [.data, .data, .data, .sentinel, .sentinel, .sentinel, .sentinel, .sentinel, .sentinel, .sentinel, .sentinel, .sentinel, .sentinel, .sentinel, .sentinel, .sentinel, .sentinel, .sentinel, .sentinel, .sentinel, .sentinel], laidTests := true, laidLooks := .later }
def GoodsExactCardSaid : Prop := Claim7.holds Tryd.pinned (.plain (OpenSpec.ofChange goodsExactSpec)) goodsExactCard

/-- THE SECOND FORM's CARD OF 'pasodoblelaw12.GoodsStays'. -/
def goodsStaysUptoCard : Claim7 := { stood := { row := goodsStaysUptoRow, standIns := [], harness := (true, "405eea0c8bba18a469153169901c655cb1498c366e6c512129d122d26de549b6"), looks := true }, kinds := [], alts := [], laidByText := true, laidKinds := [.data, .data, .data, .sentinel, .sentinel, .sentinel, .sentinel, .sentinel, .sentinel], laidTests := true, laidLooks := .later }
def GoodsStaysUptoCardSaid : Prop := Claim7.holds Tryd.pinned (.plain (OpenSpec.upto goodsStaysSpec)) goodsStaysUptoCard

/-- THE SECOND FORM's CARD OF 'pasodoblelaw12.GoodsBack'. -/
def goodsBackUptoCard : Claim7 := { stood := { row := goodsBackUptoRow, standIns := [], harness := (true, "405eea0c8bba18a469153169901c655cb1498c366e6c512129d122d26de549b6"), looks := true }, kinds := [], alts := [], laidByText := true, laidKinds := [.data, .data, .data, .sentinel, .sentinel, .sentinel, .sentinel, .sentinel, .sentinel], laidTests := true, laidLooks := .later }
def GoodsBackUptoCardSaid : Prop := Claim7.holds Tryd.pinned (.plain (OpenSpec.upto goodsBackSpec)) goodsBackUptoCard

/-- THE SECOND FORM's CARD OF 'pasodoblelaw12.GoodsExact'. -/
def goodsExactUptoCard : Claim7 := { stood := { row := goodsExactUptoRow, standIns := [], harness := (true, "405eea0c8bba18a469153169901c655cb1498c366e6c512129d122d26de549b6"), looks := true }, kinds := [], alts := [], laidByText := true, laidKinds := [.data, .data, .data, .sentinel, .sentinel, .sentinel, .sentinel, .sentinel, .sentinel, .sentinel, .sentinel, .sentinel, .sentinel, .sentinel, .sentinel, .sentinel, .sentinel, .sentinel, .sentinel, .sentinel, .sentinel], laidTests := true, laidLooks := .later }
def GoodsExactUptoCardSaid : Prop := Claim7.holds Tryd.pinned (.plain (OpenSpec.upto goodsExactSpec)) goodsExactUptoCard
end Rows
end Go.Proofs.YtnncbmbepdkfnaaDoor
