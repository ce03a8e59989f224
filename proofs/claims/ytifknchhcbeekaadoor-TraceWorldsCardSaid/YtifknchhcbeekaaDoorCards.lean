/-
  DERIVED. GIVEN WITH THE SEED: THE CARDS: each row of YtifknchhcbeekaaDoorRows.lean that lists a variable, with what it lists TIED to the program's text (the seventh form; the later family's looks); each row that meets fmt, with fmt's text TOLD by the authors' own Lean function (tested against real Go, not proved from fmt's source: count such statements apart). THE CARD IS WHAT COUNTS. Prove the row's statement (the work); the ties are given (YtifknchhcbeekaaDoorTie.lean); close each card by the builder's one call (the guide's Derived/Test/ToyasCard.lean, 'card_holds'). Laid BY PROGRAM, IN A SANDBOX (cutbox-door.mjs). By AI agents, Wed Nov 11 2026. No macro, syntax, notation, axiom, sorry.
-/
import Derived.Test.YtifknchhcbeekaaDoorRows
import GoSem.ClaimSeven
namespace Go.Proofs.YtifknchhcbeekaaDoor
namespace Rows

/-- THE TIED CARD OF 'plumboblaw3.TraceKnown'. -/
def traceKnownCard : Claim7 := { stood := { row := traceKnownRow, standIns := [], harness := (true, "6c54aab36db9978c27de70f3ca58e7042b54fb8a84f26c92bba4d13bc08de64b"), looks := false }, kinds := [], alts := [], laidByText := true, laidKinds := [.data, .data, .data], laidTests := true, laidLooks := .later }
def TraceKnownCardSaid : Prop := Claim7.holds Tryd.pinned (.plain (OpenSpec.ofChange traceKnownSpec)) traceKnownCard

/-- THE TIED CARD OF 'plumboblaw3.TraceWorlds'. -/
def traceWorldsCard : Claim7 := { stood := { row := traceWorldsRow, standIns := [], harness := (true, "6c54aab36db9978c27de70f3ca58e7042b54fb8a84f26c92bba4d13bc08de64b"), looks := false }, kinds := [], alts := [], laidByText := true, laidKinds := [.data, .data, .data], laidTests := true, laidLooks := .later }
def TraceWorldsCardSaid : Prop := Claim7.holds Tryd.pinned (.plain (OpenSpec.ofChange traceWorldsSpec)) traceWorldsCard

/-- THE TIED CARD OF 'plumboblaw3.TraceOrder'. -/
def traceOrderCard : Claim7 := { stood := { row := traceOrderRow, standIns := [], harness := (true, "6c54aab36db9978c27de70f3ca58e7042b54fb8a84f26c92bba4d13bc08de64b"), looks := false }, kinds := [], alts := [], laidByText := true, laidKinds := [.data, .data, .data], laidTests := true, laidLooks := .later }
def TraceOrderCardSaid : Prop := Claim7.holds Tryd.pinned (.plain (OpenSpec.ofChange traceOrderSpec)) traceOrderCard

/-- THE TIED CARD OF 'plumboblaw3.TraceTexts'. -/
def traceTextsCard : Claim7 := { stood := { row := traceTextsRow, standIns := [], harness := (true, "6c54aab36db9978c27de70f3ca58e7042b54fb8a84f26c92bba4d13bc08de64b"), looks := false }, kinds := [], alts := [], laidByText := true, laidKinds := [.data, .data, .data], laidTests := true, laidLooks := .later }
def TraceTextsCardSaid : Prop := Claim7.holds Tryd.pinned (.plain (OpenSpec.ofChange traceTextsSpec)) traceTextsCard

/-- THE TIED CARD OF 'plumboblaw3.TraceRefines'. -/
def traceRefinesCard : Claim7 := { stood := { row := traceRefinesRow, standIns := [], harness := (true, "6c54aab36db9978c27de70f3ca58e7042b54fb8a84f26c92bba4d13bc08de64b"), looks := false }, kinds := [], alts := [], laidByText := true, laidKinds := [.data, .data, .data], laidTests := true, laidLooks := .later }
def TraceRefinesCardSaid : Prop := Claim7.holds Tryd.pinned (.plain (OpenSpec.ofChange traceRefinesSpec)) traceRefinesCard

/-- THE SECOND FORM's CARD OF 'plumboblaw3.TraceKnown'. -/
def traceKnownUptoCard : Claim7 := { stood := { row := traceKnownUptoRow, standIns := [], harness := (true, "6c54aab36db9978c27de70f3ca58e7042b54fb8a84f26c92bba4d13bc08de64b"), looks := false }, kinds := [], alts := [], laidByText := true, laidKinds := [.data, .data, .data], laidTests := true, laidLooks := .later }
def TraceKnownUptoCardSaid : Prop := Claim7.holds Tryd.pinned (.plain (OpenSpec.upto traceKnownSpec)) traceKnownUptoCard

/-- THE SECOND FORM's CARD OF 'plumboblaw3.TraceWorlds'. -/
def traceWorldsUptoCard : Claim7 := { stood := { row := traceWorldsUptoRow, standIns := [], harness := (true, "6c54aab36db9978c27de70f3ca58e7042b54fb8a84f26c92bba4d13bc08de64b"), looks := false }, kinds := [], alts := [], laidByText := true, laidKinds := [.data, .data, .data], laidTests := true, laidLooks := .later }
def TraceWorldsUptoCardSaid : Prop := Claim7.holds Tryd.pinned (.plain (OpenSpec.upto traceWorldsSpec)) traceWorldsUptoCard

/-- THE SECOND FORM's CARD OF 'plumboblaw3.TraceOrder'. -/
def traceOrderUptoCard : Claim7 := { stood := { row := traceOrderUptoRow, standIns := [], harness := (true, "6c54aab36db9978c27de70f3ca58e7042b54fb8a84f26c92bba4d13bc08de64b"), looks := false }, kinds := [], alts := [], laidByText := true, laidKinds := [.data, .data, .data], laidTests := true, laidLooks := .later }
def TraceOrderUptoCardSaid : Prop := Claim7.holds Tryd.pinned (.plain (OpenSpec.upto traceOrderSpec)) traceOrderUptoCard

/-- THE SECOND FORM's CARD OF 'plumboblaw3.TraceTexts'. -/
def traceTextsUptoCard : Claim7 := { stood := { row := traceTextsUptoRow, standIns := [], harness := (true, "6c54aab36db9978c27de70f3ca58e7042b54fb8a84f26c92bba4d13bc08de64b"), looks := false }, kinds := [], alts := [], laidByText := true, laidKinds := [.data, .data, .data], laidTests := true, laidLooks := .later }
def TraceTextsUptoCardSaid : Prop := Claim7.holds Tryd.pinned (.plain (OpenSpec.upto traceTextsSpec)) traceTextsUptoCard

/-- THE SECOND FORM's CARD OF 'plumboblaw3.TraceRefines'. -/
def traceRefinesUptoCard : Claim7 := { stood := { row := traceRefinesUptoRow, standIns := [], harness := (true, "6c54aab36db9978c27de70f3ca58e7042b54fb8a84f26c92bba4d13bc08de64b"), looks := false }, kinds := [], alts := [], laidByText := true, laidKinds := [.data, .data, .data], laidTests := true, laidLooks := .later }
def TraceRefinesUptoCardSaid : Prop := Claim7.holds Tryd.pinned (.plain (OpenSpec.upto traceRefinesSpec)) traceRefinesUptoCard
end Rows
end Go.Proofs.YtifknchhcbeekaaDoor
