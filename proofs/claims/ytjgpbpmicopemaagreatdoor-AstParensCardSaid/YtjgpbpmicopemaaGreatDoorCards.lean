/-
  DERIVED. GIVEN WITH THE SEED: THE CARDS: each row of YtjgpbpmicopemaaGreatDoorRows.lean that lists a variable, with what it lists TIED to the program's text (the seventh form; the later family's looks); each row that meets fmt, with fmt's text TOLD by the authors' own Lean function (tested against real Go, not proved from fmt's source: count such statements apart). THE CARD IS WHAT COUNTS. Prove the row's statement (the work); the ties are given (YtjgpbpmicopemaaGreatDoorTie.lean); close each card by the builder's one call (the guide's Derived/Test/ToyasCard.lean, 'card_holds'). Laid BY PROGRAM, IN A SANDBOX (cutbox-door.mjs). By AI agents, Wed Nov 11 2026. No macro, syntax, notation, axiom, sorry.
-/
import Derived.Test.YtjgpbpmicopemaaGreatDoorRows
import GoSem.ClaimSeven
namespace Go.Proofs.YtjgpbpmicopemaaGreatDoor
namespace Rows

/-- THE TIED CARD OF 'plumboblaw5.AstCuts'. -/
def astCutsCard : Claim7 := { stood := { row := astCutsRow, standIns := [], harness := (true, "26f19c8ceab825e201931500b29b555dafb8b37b5a5d570c62c85a03e4750833"), looks := true }, kinds := [], alts := [], laidByText := true, laidKinds := [.data, .data, .data, .data, .sentinel, .sentinel, .pinned], laidTests := true, laidLooks := .later }
def AstCutsCardSaid : Prop := Claim7.holds Tryz.pinned (.plain (OpenSpec.ofChange astCutsSpec)) astCutsCard

/-- THE TIED CARD OF 'plumboblaw5.AstParens'. -/
def astParensCard : Claim7 := { stood := { row := astParensRow, standIns := [], harness := (true, "26f19c8ceab825e201931500b29b555dafb8b37b5a5d570c62c85a03e4750833"), looks := true }, kinds := [], alts := [], laidByText := true, laidKinds := [.data, .data, .data, .data, .sentinel, .sentinel, .pinned], laidTests := true, laidLooks := .later }
def AstParensCardSaid : Prop := Claim7.holds Tryz.pinned (.plain (OpenSpec.ofChange astParensSpec)) astParensCard

/-- THE TIED CARD OF 'plumboblaw5.AstKnown'. -/
def astKnownCard : Claim7 := { stood := { row := astKnownRow, standIns := [], harness := (true, "26f19c8ceab825e201931500b29b555dafb8b37b5a5d570c62c85a03e4750833"), looks := true }, kinds := [], alts := [], laidByText := true, laidKinds := [.data, .data, .data, .data, .sentinel, .sentinel, .pinned], laidTests := true, laidLooks := .later }
def AstKnownCardSaid : Prop := Claim7.holds Tryz.pinned (.plain (OpenSpec.ofChange astKnownSpec)) astKnownCard

/-- THE SECOND FORM's CARD OF 'plumboblaw5.AstCuts'. -/
def astCutsUptoCard : Claim7 := { stood := { row := astCutsUptoRow, standIns := [], harness := (true, "26f19c8ceab825e201931500b29b555dafb8b37b5a5d570c62c85a03e4750833"), looks := true }, kinds := [], alts := [], laidByText := true, laidKinds := [.data, .data, .data, .data, .sentinel, .sentinel, .pinned], laidTests := true, laidLooks := .later }
def AstCutsUptoCardSaid : Prop := Claim7.holds Tryz.pinned (.plain (OpenSpec.upto astCutsSpec)) astCutsUptoCard

/-- THE SECOND FORM's CARD OF 'plumboblaw5.AstParens'. -/
def astParensUptoCard : Claim7 := { stood := { row := astParensUptoRow, standIns := [], harness := (true, "26f19c8ceab825e201931500b29b555dafb8b37b5a5d570c62c85a03e4750833"), looks := true }, kinds := [], alts := [], laidByText := true, laidKinds := [.data, .data, .data, .data, .sentinel, .sentinel, .pinned], laidTests := true, laidLooks := .later }
def AstParensUptoCardSaid : Prop := Claim7.holds Tryz.pinned (.plain (OpenSpec.upto astParensSpec)) astParensUptoCard

/-- THE SECOND FORM's CARD OF 'plumboblaw5.AstKnown'. -/
def astKnownUptoCard : Claim7 := { stood := { row := astKnownUptoRow, standIns := [], harness := (true, "26f19c8ceab825e201931500b29b555dafb8b37b5a5d570c62c85a03e4750833"), looks := true }, kinds := [], alts := [], laidByText := true, laidKinds := [.data, .data, .data, .data, .sentinel, .sentinel, .pinned], laidTests := true, laidLooks := .later }
def AstKnownUptoCardSaid : Prop := Claim7.holds Tryz.pinned (.plain (OpenSpec.upto astKnownSpec)) astKnownUptoCard
end Rows
end Go.Proofs.YtjgpbpmicopemaaGreatDoor
