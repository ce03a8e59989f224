/-
  DERIVED. GIVEN WITH THE SEED: THE CARDS: each row of YtipeehmbloneoaaDoorRows.lean that lists a variable, with what it lists TIED to the program's text (the seventh form; the later family's looks); each row that meets fmt, with fmt's text TOLD by the authors' own Lean function (tested against real Go, not proved from fmt's source: count such statements apart). THE CARD IS WHAT COUNTS. Prove the row's statement (the work); the ties are given (YtipeehmbloneoaaDoorTie.lean); close each card by the builder's one call (the guide's Derived/Test/ToyasCard.lean, 'card_holds'). Laid BY PROGRAM, IN A SANDBOX (cutbox-door.mjs). By AI agents, Wed Nov 11 2026. No macro, syntax, notation, axiom, sorry.
-/
import Derived.Test.YtipeehmbloneoaaDoorRows
import GoSem.ClaimSeven
namespace Go.Proofs.YtipeehmbloneoaaDoor
namespace Rows

/-- THE TIED CARD OF 'plumboblaw1.ValKnown'. -/
def valKnownCard : Claim7 := { stood := { row := valKnownRow, standIns := [], harness := (true, "dd2f82747c7d063779063fa8c986bf55acfdda5a723ce03ba5fcb320ed2c44c9"), looks := false }, kinds := [], alts := [], laidByText := true, laidKinds := [.data, .data, .data], laidTests := true, laidLooks := .later }
def ValKnownCardSaid : Prop := Claim7.holds Tryd.pinned (.plain (OpenSpec.ofChange valKnownSpec)) valKnownCard

/-- THE TIED CARD OF 'plumboblaw1.ValOps'. -/
def valOpsCard : Claim7 := { stood := { row := valOpsRow, standIns := [], harness := (true, "dd2f82747c7d063779063fa8c986bf55acfdda5a723ce03ba5fcb320ed2c44c9"), looks := false }, kinds := [], alts := [], laidByText := true, laidKinds := [.data, .data, .data], laidTests := true, laidLooks := .later }
def ValOpsCardSaid : Prop := Claim7.holds Tryd.pinned (.plain (OpenSpec.ofChange valOpsSpec)) valOpsCard

/-- THE TIED CARD OF 'plumboblaw1.ValTells'. -/
def valTellsCard : Claim7 := { stood := { row := valTellsRow, standIns := [], harness := (true, "dd2f82747c7d063779063fa8c986bf55acfdda5a723ce03ba5fcb320ed2c44c9"), looks := false }, kinds := [], alts := [], laidByText := true, laidKinds := [.data, .data, .data], laidTests := true, laidLooks := .later }
def ValTellsCardSaid : Prop := Claim7.holds Tryd.pinned (.plain (OpenSpec.ofChange valTellsSpec)) valTellsCard

/-- THE TIED CARD OF 'plumboblaw1.ValLaws'. -/
def valLawsCard : Claim7 := { stood := { row := valLawsRow, standIns := [], harness := (true, "dd2f82747c7d063779063fa8c986bf55acfdda5a723ce03ba5fcb320ed2c44c9"), looks := false }, kinds := [], alts := [], laidByText := true, laidKinds := [.data, .data, .data], laidTests := true, laidLooks := .later }
def ValLawsCardSaid : Prop := Claim7.holds Tryd.pinned (.plain (OpenSpec.ofChange valLawsSpec)) valLawsCard

/-- THE TIED CARD OF 'plumboblaw1.ValChains'. -/
def valChainsCard : Claim7 := { stood := { row := valChainsRow, standIns := [], harness := (true, "dd2f82747c7d063779063fa8c986bf55acfdda5a723ce03ba5fcb320ed2c44c9"), looks := false }, kinds := [], alts := [], laidByText := true, laidKinds := [.data, .data, .data], laidTests := true, laidLooks := .later }
def ValChainsCardSaid : Prop := Claim7.holds Tryd.pinned (.plain (OpenSpec.ofChange valChainsSpec)) valChainsCard

/-- THE TIED CARD OF 'plumboblaw1.ValExts'. -/
def valExtsCard : Claim7 := { stood := { row := valExtsRow, standIns := [], harness := (true, "dd2f82747c7d063779063fa8c986bf55acfdda5a723ce03ba5fcb320ed2c44c9"), looks := false }, kinds := [], alts := [], laidByText := true, laidKinds := [.data, .data, .data], laidTests := true, laidLooks := .later }
def ValExtsCardSaid : Prop := Claim7.holds Tryd.pinned (.plain (OpenSpec.ofChange valExtsSpec)) valExtsCard

/-- THE TIED CARD OF 'plumboblaw1.ValShifts'. -/
def valShiftsCard : Claim7 := { stood := { row := valShiftsRow, standIns := [], harness := (true, "dd2f82747c7d063779063fa8c986bf55acfdda5a723ce03ba5fcb320ed2c44c9"), looks := false }, kinds := [], alts := [], laidByText := true, laidKinds := [.data, .data, .data], laidTests := true, laidLooks := .later }
def ValShiftsCardSaid : Prop := Claim7.holds Tryd.pinned (.plain (OpenSpec.ofChange valShiftsSpec)) valShiftsCard

/-- THE TIED CARD OF 'plumboblaw1.ValPointers'. -/
def valPointersCard : Claim7 := { stood := { row := valPointersRow, standIns := [], harness := (true, "dd2f82747c7d063779063fa8c986bf55acfdda5a723ce03ba5fcb320ed2c44c9"), looks := false }, kinds := [], alts := [], laidByText := true, laidKinds := [.data, .data, .data], laidTests := true, laidLooks := .later }
def ValPointersCardSaid : Prop := Claim7.holds Tryd.pinned (.plain (OpenSpec.ofChange valPointersSpec)) valPointersCard

/-- THE SECOND FORM's CARD OF 'plumboblaw1.ValKnown'. -/
def valKnownUptoCard : Claim7 := { stood := { row := valKnownUptoRow, standIns := [], harness := (true, "dd2f82747c7d063779063fa8c986bf55acfdda5a723ce03ba5fcb320ed2c44c9"), looks := false }, kinds := [], alts := [], laidByText := true, laidKinds := [.data, .data, .data], laidTests := true, laidLooks := .later }
def ValKnownUptoCardSaid : Prop := Claim7.holds Tryd.pinned (.plain (OpenSpec.upto valKnownSpec)) valKnownUptoCard

/-- THE SECOND FORM's CARD OF 'plumboblaw1.ValOps'. -/
def valOpsUptoCard : Claim7 := { stood := { row := valOpsUptoRow, standIns := [], harness := (true, "dd2f82747c7d063779063fa8c986bf55acfdda5a723ce03ba5fcb320ed2c44c9"), looks := false }, kinds := [], alts := [], laidByText := true, laidKinds := [.data, .data, .data], laidTests := true, laidLooks := .later }
def ValOpsUptoCardSaid : Prop := Claim7.holds Tryd.pinned (.plain (OpenSpec.upto valOpsSpec)) valOpsUptoCard

/-- THE SECOND FORM's CARD OF 'plumboblaw1.ValTells'. -/
def valTellsUptoCard : Claim7 := { stood := { row := valTellsUptoRow, standIns := [], harness := (true, "dd2f82747c7d063779063fa8c986bf55acfdda5a723ce03ba5fcb320ed2c44c9"), looks := false }, kinds := [], alts := [], laidByText := true, laidKinds := [.data, .data, .data], laidTests := true, laidLooks := .later }
def ValTellsUptoCardSaid : Prop := Claim7.holds Tryd.pinned (.plain (OpenSpec.upto valTellsSpec)) valTellsUptoCard

/-- THE SECOND FORM's CARD OF 'plumboblaw1.ValLaws'. -/
def valLawsUptoCard : Claim7 := { stood := { row := valLawsUptoRow, standIns := [], harness := (true, "dd2f82747c7d063779063fa8c986bf55acfdda5a723ce03ba5fcb320ed2c44c9"), looks := false }, kinds := [], alts := [], laidByText := true, laidKinds := [.data, .data, .data], laidTests := true, laidLooks := .later }
def ValLawsUptoCardSaid : Prop := Claim7.holds Tryd.pinned (.plain (OpenSpec.upto valLawsSpec)) valLawsUptoCard

/-- THE SECOND FORM's CARD OF 'plumboblaw1.ValChains'. -/
def valChainsUptoCard : Claim7 := { stood := { row := valChainsUptoRow, standIns := [], harness := (true, "dd2f82747c7d063779063fa8c986bf55acfdda5a723ce03ba5fcb320ed2c44c9"), looks := false }, kinds := [], alts := [], laidByText := true, laidKinds := [.data, .data, .data], laidTests := true, laidLooks := .later }
def ValChainsUptoCardSaid : Prop := Claim7.holds Tryd.pinned (.plain (OpenSpec.upto valChainsSpec)) valChainsUptoCard

/-- THE SECOND FORM's CARD OF 'plumboblaw1.ValExts'. -/
def valExtsUptoCard : Claim7 := { stood := { row := valExtsUptoRow, standIns := [], harness := (true, "dd2f82747c7d063779063fa8c986bf55acfdda5a723ce03ba5fcb320ed2c44c9"), looks := false }, kinds := [], alts := [], laidByText := true, laidKinds := [.data, .data, .data], laidTests := true, laidLooks := .later }
def ValExtsUptoCardSaid : Prop := Claim7.holds Tryd.pinned (.plain (OpenSpec.upto valExtsSpec)) valExtsUptoCard

/-- THE SECOND FORM's CARD OF 'plumboblaw1.ValShifts'. -/
def valShiftsUptoCard : Claim7 := { stood := { row := valShiftsUptoRow, standIns := [], harness := (true, "dd2f82747c7d063779063fa8c986bf55acfdda5a723ce03ba5fcb320ed2c44c9"), looks := false }, kinds := [], alts := [], laidByText := true, laidKinds := [.data, .data, .data], laidTests := true, laidLooks := .later }
def ValShiftsUptoCardSaid : Prop := Claim7.holds Tryd.pinned (.plain (OpenSpec.upto valShiftsSpec)) valShiftsUptoCard

/-- THE SECOND FORM's CARD OF 'plumboblaw1.ValPointers'. -/
def valPointersUptoCard : Claim7 := { stood := { row := valPointersUptoRow, standIns := [], harness := (true, "dd2f82747c7d063779063fa8c986bf55acfdda5a723ce03ba5fcb320ed2c44c9"), looks := false }, kinds := [], alts := [], laidByText := true, laidKinds := [.data, .data, .data], laidTests := true, laidLooks := .later }
def ValPointersUptoCardSaid : Prop := Claim7.holds Tryd.pinned (.plain (OpenSpec.upto valPointersSpec)) valPointersUptoCard
end Rows
end Go.Proofs.YtipeehmbloneoaaDoor
