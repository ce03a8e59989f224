/-
  NARROWER THAN 'FOR EVERY INPUT', by the rows' own cells (each row's printed sentence says how): ValKnown: laid · ValOps: laid · ValTells: laid · ValLaws: laid · ValChains: laid · ValExts: laid · ValShifts: laid · ValPointers: laid.
  DERIVED. THE GIVEN ROWS OF THIS SEAT. 8 by the template 'for every input the law returns true; each argument reads behind the call as it read before'; 0 by the template 'total and deterministic' (their statements: YtipeehmbloneoaaDoorTotals.lean).
  GIVEN WITH THE SEED: the statements are not yours to turn. If you find one false, say at which input.
  Laid BY PROGRAM, IN A SANDBOX (cutbox-rows.mjs): the forced cells as the released guide's own fill.sh prints them over the translation 4731acceaa07e475… (all of the seat's roots in one cut). By AI agents, Wed Nov 11 2026. No macro, syntax, notation, axiom, sorry.
-/
import Derived.Test.YtipeehmbloneoaaDoorChecked
import GoSem.Claim
import GoSem.ClaimJoined
import GoSem.ClaimMapViews
import Derived.JoinedTies
import Derived.KernelRfl
namespace Go.Proofs.YtipeehmbloneoaaDoor
/- THE CELL 'sum', in the pinned program and in every row, IS THE sha256 OF THE DUMP (.gsa) THAT YtipeehmbloneoaaDoorProg.lean LOADS. Nothing in Lean hashes anything: it is a label: what it is worth is what the hold of that sum in a sandbox is worth. -/
noncomputable def Tryd.pinned : Pinned := { name := "ytipeehmbloneoaadoor", sum := "4731acceaa07e47587722a57e40b925202e23e775ead12b7253d6856f48a9aab", checked := Tryd.checked }
namespace Rows
def none {H : Type} : Left H := { results := [], args := [] }

/- WHAT THE LISTED PACKAGE-LEVEL VARIABLES READ AS WHEN THE CALL BEGINS. Each datum BY PROGRAM (the guide's laid-datum.mjs) off the statement by which the dump's own 'gosem.cut.vars' lays the variable. In a bare row this is a premise. The card (YtipeehmbloneoaaDoorCards.lean) ties it to the program's text. -/
def laid_math_bits_deBruijn32tab {H : Type} : DataW H := .agg [.lit (.int .u8 0), .lit (.int .u8 1), .lit (.int .u8 28), .lit (.int .u8 2), .lit (.int .u8 29), .lit (.int .u8 14), .lit (.int .u8 24), .lit (.int .u8 3), .lit (.int .u8 30), .lit (.int .u8 22), .lit (.int .u8 20), .lit (.int .u8 15), .lit (.int .u8 25), .lit (.int .u8 17), .lit (.int .u8 4), .lit (.int .u8 8), .lit (.int .u8 31), .lit (.int .u8 27), .lit (.int .u8 13), .lit (.int .u8 23), .lit (.int .u8 21), .lit (.int .u8 19), .lit (.int .u8 16), .lit (.int .u8 7), .lit (.int .u8 26), .lit (.int .u8 12), .lit (.int .u8 18), .lit (.int .u8 6), .lit (.int .u8 11), .lit (.int .u8 5), .lit (.int .u8 10), .lit (.int .u8 9)]
def laid_math_bits_deBruijn64tab {H : Type} : DataW H := .agg [.lit (.int .u8 0), .lit (.int .u8 1), .lit (.int .u8 56), .lit (.int .u8 2), .lit (.int .u8 57), .lit (.int .u8 49), .lit (.int .u8 28), .lit (.int .u8 3), .lit (.int .u8 61), .lit (.int .u8 58), .lit (.int .u8 42), .lit (.int .u8 50), .lit (.int .u8 38), .lit (.int .u8 29), .lit (.int .u8 17), .lit (.int .u8 4), .lit (.int .u8 62), .lit (.int .u8 47), .lit (.int .u8 59), .lit (.int .u8 36), .lit (.int .u8 45), .lit (.int .u8 43), .lit (.int .u8 51), .lit (.int .u8 22), .lit (.int .u8 53), .lit (.int .u8 39), .lit (.int .u8 33), .lit (.int .u8 30), .lit (.int .u8 24), .lit (.int .u8 18), .lit (.int .u8 12), .lit (.int .u8 5), .lit (.int .u8 63), .lit (.int .u8 55), .lit (.int .u8 48), .lit (.int .u8 27), .lit (.int .u8 60), .lit (.int .u8 41), .lit (.int .u8 37), .lit (.int .u8 16), .lit (.int .u8 46), .lit (.int .u8 35), .lit (.int .u8 44), .lit (.int .u8 21), .lit (.int .u8 52), .lit (.int .u8 32), .lit (.int .u8 23), .lit (.int .u8 11), .lit (.int .u8 54), .lit (.int .u8 26), .lit (.int .u8 40), .lit (.int .u8 15), .lit (.int .u8 34), .lit (.int .u8 20), .lit (.int .u8 31), .lit (.int .u8 10), .lit (.int .u8 25), .lit (.int .u8 14), .lit (.int .u8 19), .lit (.int .u8 9), .lit (.int .u8 13), .lit (.int .u8 8), .lit (.int .u8 7), .lit (.int .u8 6)]
def laid_internal_strconv_uint64pow10 {H : Type} : DataW H := .agg [.lit (.int .u64 1), .lit (.int .u64 10), .lit (.int .u64 100), .lit (.int .u64 1000), .lit (.int .u64 10000), .lit (.int .u64 100000), .lit (.int .u64 1000000), .lit (.int .u64 10000000), .lit (.int .u64 100000000), .lit (.int .u64 1000000000), .lit (.int .u64 10000000000), .lit (.int .u64 100000000000), .lit (.int .u64 1000000000000), .lit (.int .u64 10000000000000), .lit (.int .u64 100000000000000), .lit (.int .u64 1000000000000000), .lit (.int .u64 10000000000000000), .lit (.int .u64 100000000000000000), .lit (.int .u64 1000000000000000000), .lit (.int .u64 10000000000000000000)]

/-- 'plumboblaw1.ValKnown': WHATEVER THE INPUT: true; the input reads as it did. -/
def valKnownSpec : ChangeSpec := { name := "valKnown", fn := fun _ => fun
  | [] => { results := [.lit (.bool true)], args := [] }
  | _ => none }
def valKnownRow : OpenClaim := { program := "ytipeehmbloneoaadoor", sum := "4731acceaa07e47587722a57e40b925202e23e775ead12b7253d6856f48a9aab", func := "plumbob/plumboblaw1.ValKnown", spec := "valKnown", named := ["internal/strconv.uint64pow10", "math/bits.deBruijn32tab", "math/bits.deBruijn64tab"], apart := false, laid := [("math/bits.deBruijn32tab", laid_math_bits_deBruijn32tab), ("math/bits.deBruijn64tab", laid_math_bits_deBruijn64tab), ("internal/strconv.uint64pow10", laid_internal_strconv_uint64pow10)] }
def ValKnownSaid : Prop := valKnownRow.holds Tryd.pinned (OpenSpec.ofChange valKnownSpec)

/-- ITS FALSE NEIGHBOUR: 'it returns false'. Refute it at one input. -/
def valKnownWrong : ChangeSpec := { name := "valKnown", fn := fun _ => fun
  | [] => { results := [.lit (.bool false)], args := [] }
  | _ => none }
def ValKnownWrongFalsely : Prop := valKnownRow.holds Tryd.pinned (OpenSpec.ofChange valKnownWrong)

/-- 'plumboblaw1.ValOps': WHATEVER THE INPUT: true; the input reads as it did. -/
def valOpsSpec : ChangeSpec := { name := "valOps", fn := fun _ => fun
  | [d1, d2, d3] => { results := [.lit (.bool true)], args := [d1, d2, d3] }
  | _ => none }
def valOpsRow : OpenClaim := { program := "ytipeehmbloneoaadoor", sum := "4731acceaa07e47587722a57e40b925202e23e775ead12b7253d6856f48a9aab", func := "plumbob/plumboblaw1.ValOps", spec := "valOps", named := ["internal/strconv.uint64pow10", "math/bits.deBruijn32tab", "math/bits.deBruijn64tab"], apart := false, laid := [("math/bits.deBruijn32tab", laid_math_bits_deBruijn32tab), ("math/bits.deBruijn64tab", laid_math_bits_deBruijn64tab), ("internal/strconv.uint64pow10", laid_internal_strconv_uint64pow10)] }
def ValOpsSaid : Prop := valOpsRow.holds Tryd.pinned (OpenSpec.ofChange valOpsSpec)

/-- ITS FALSE NEIGHBOUR: 'it returns false'. Refute it at one input. -/
def valOpsWrong : ChangeSpec := { name := "valOps", fn := fun _ => fun
  | [d1, d2, d3] => { results := [.lit (.bool false)], args := [d1, d2, d3] }
  | _ => none }
def ValOpsWrongFalsely : Prop := valOpsRow.holds Tryd.pinned (OpenSpec.ofChange valOpsWrong)

/-- 'plumboblaw1.ValTells': WHATEVER THE INPUT: true; the input reads as it did. -/
def valTellsSpec : ChangeSpec := { name := "valTells", fn := fun _ => fun
  | [d1, d2, d3, d4] => { results := [.lit (.bool true)], args := [d1, d2, d3, d4] }
  | _ => none }
def valTellsRow : OpenClaim := { program := "ytipeehmbloneoaadoor", sum := "4731acceaa07e47587722a57e40b925202e23e775ead12b7253d6856f48a9aab", func := "plumbob/plumboblaw1.ValTells", spec := "valTells", recurses := true, named := ["internal/strconv.uint64pow10", "math/bits.deBruijn32tab", "math/bits.deBruijn64tab"], apart := false, laid := [("math/bits.deBruijn32tab", laid_math_bits_deBruijn32tab), ("math/bits.deBruijn64tab", laid_math_bits_deBruijn64tab), ("internal/strconv.uint64pow10", laid_internal_strconv_uint64pow10)] }
def ValTellsSaid : Prop := valTellsRow.holds Tryd.pinned (OpenSpec.ofChange valTellsSpec)

/-- ITS FALSE NEIGHBOUR: 'it returns false'. Refute it at one input. -/
def valTellsWrong : ChangeSpec := { name := "valTells", fn := fun _ => fun
  | [d1, d2, d3, d4] => { results := [.lit (.bool false)], args := [d1, d2, d3, d4] }
  | _ => none }
def ValTellsWrongFalsely : Prop := valTellsRow.holds Tryd.pinned (OpenSpec.ofChange valTellsWrong)

/-- 'plumboblaw1.ValLaws': WHATEVER THE INPUT: true; the input reads as it did. -/
def valLawsSpec : ChangeSpec := { name := "valLaws", fn := fun _ => fun
  | [d1, d2, d3] => { results := [.lit (.bool true)], args := [d1, d2, d3] }
  | _ => none }
def valLawsRow : OpenClaim := { program := "ytipeehmbloneoaadoor", sum := "4731acceaa07e47587722a57e40b925202e23e775ead12b7253d6856f48a9aab", func := "plumbob/plumboblaw1.ValLaws", spec := "valLaws", named := ["internal/strconv.uint64pow10", "math/bits.deBruijn32tab", "math/bits.deBruijn64tab"], apart := false, laid := [("math/bits.deBruijn32tab", laid_math_bits_deBruijn32tab), ("math/bits.deBruijn64tab", laid_math_bits_deBruijn64tab), ("internal/strconv.uint64pow10", laid_internal_strconv_uint64pow10)] }
def ValLawsSaid : Prop := valLawsRow.holds Tryd.pinned (OpenSpec.ofChange valLawsSpec)

/-- ITS FALSE NEIGHBOUR: 'it returns false'. Refute it at one input. -/
def valLawsWrong : ChangeSpec := { name := "valLaws", fn := fun _ => fun
  | [d1, d2, d3] => { results := [.lit (.bool false)], args := [d1, d2, d3] }
  | _ => none }
def ValLawsWrongFalsely : Prop := valLawsRow.holds Tryd.pinned (OpenSpec.ofChange valLawsWrong)

/-- 'plumboblaw1.ValChains': WHATEVER THE INPUT: true; the input reads as it did. -/
def valChainsSpec : ChangeSpec := { name := "valChains", fn := fun _ => fun
  | [d1, d2, d3, d4] => { results := [.lit (.bool true)], args := [d1, d2, d3, d4] }
  | _ => none }
def valChainsRow : OpenClaim := { program := "ytipeehmbloneoaadoor", sum := "4731acceaa07e47587722a57e40b925202e23e775ead12b7253d6856f48a9aab", func := "plumbob/plumboblaw1.ValChains", spec := "valChains", named := ["internal/strconv.uint64pow10", "math/bits.deBruijn32tab", "math/bits.deBruijn64tab"], apart := false, laid := [("math/bits.deBruijn32tab", laid_math_bits_deBruijn32tab), ("math/bits.deBruijn64tab", laid_math_bits_deBruijn64tab), ("internal/strconv.uint64pow10", laid_internal_strconv_uint64pow10)] }
def ValChainsSaid : Prop := valChainsRow.holds Tryd.pinned (OpenSpec.ofChange valChainsSpec)

/-- ITS FALSE NEIGHBOUR: 'it returns false'. Refute it at one input. -/
def valChainsWrong : ChangeSpec := { name := "valChains", fn := fun _ => fun
  | [d1, d2, d3, d4] => { results := [.lit (.bool false)], args := [d1, d2, d3, d4] }
  | _ => none }
def ValChainsWrongFalsely : Prop := valChainsRow.holds Tryd.pinned (OpenSpec.ofChange valChainsWrong)

/-- 'plumboblaw1.ValExts': WHATEVER THE INPUT: true; the input reads as it did. -/
def valExtsSpec : ChangeSpec := { name := "valExts", fn := fun _ => fun
  | [d] => { results := [.lit (.bool true)], args := [d] }
  | _ => none }
def valExtsRow : OpenClaim := { program := "ytipeehmbloneoaadoor", sum := "4731acceaa07e47587722a57e40b925202e23e775ead12b7253d6856f48a9aab", func := "plumbob/plumboblaw1.ValExts", spec := "valExts", named := ["internal/strconv.uint64pow10", "math/bits.deBruijn32tab", "math/bits.deBruijn64tab"], apart := false, laid := [("math/bits.deBruijn32tab", laid_math_bits_deBruijn32tab), ("math/bits.deBruijn64tab", laid_math_bits_deBruijn64tab), ("internal/strconv.uint64pow10", laid_internal_strconv_uint64pow10)] }
def ValExtsSaid : Prop := valExtsRow.holds Tryd.pinned (OpenSpec.ofChange valExtsSpec)

/-- ITS FALSE NEIGHBOUR: 'it returns false'. Refute it at one input. -/
def valExtsWrong : ChangeSpec := { name := "valExts", fn := fun _ => fun
  | [d] => { results := [.lit (.bool false)], args := [d] }
  | _ => none }
def ValExtsWrongFalsely : Prop := valExtsRow.holds Tryd.pinned (OpenSpec.ofChange valExtsWrong)

/-- 'plumboblaw1.ValShifts': WHATEVER THE INPUT: true; the input reads as it did. -/
def valShiftsSpec : ChangeSpec := { name := "valShifts", fn := fun _ => fun
  | [d1, d2, d3] => { results := [.lit (.bool true)], args := [d1, d2, d3] }
  | _ => none }
def valShiftsRow : OpenClaim := { program := "ytipeehmbloneoaadoor", sum := "4731acceaa07e47587722a57e40b925202e23e775ead12b7253d6856f48a9aab", func := "plumbob/plumboblaw1.ValShifts", spec := "valShifts", named := ["internal/strconv.uint64pow10", "math/bits.deBruijn32tab", "math/bits.deBruijn64tab"], apart := false, laid := [("math/bits.deBruijn32tab", laid_math_bits_deBruijn32tab), ("math/bits.deBruijn64tab", laid_math_bits_deBruijn64tab), ("internal/strconv.uint64pow10", laid_internal_strconv_uint64pow10)] }
def ValShiftsSaid : Prop := valShiftsRow.holds Tryd.pinned (OpenSpec.ofChange valShiftsSpec)

/-- ITS FALSE NEIGHBOUR: 'it returns false'. Refute it at one input. -/
def valShiftsWrong : ChangeSpec := { name := "valShifts", fn := fun _ => fun
  | [d1, d2, d3] => { results := [.lit (.bool false)], args := [d1, d2, d3] }
  | _ => none }
def ValShiftsWrongFalsely : Prop := valShiftsRow.holds Tryd.pinned (OpenSpec.ofChange valShiftsWrong)

/-- 'plumboblaw1.ValPointers': WHATEVER THE INPUT: true; the input reads as it did. -/
def valPointersSpec : ChangeSpec := { name := "valPointers", fn := fun _ => fun
  | [d1, d2, d3, d4, d5] => { results := [.lit (.bool true)], args := [d1, d2, d3, d4, d5] }
  | _ => none }
def valPointersRow : OpenClaim := { program := "ytipeehmbloneoaadoor", sum := "4731acceaa07e47587722a57e40b925202e23e775ead12b7253d6856f48a9aab", func := "plumbob/plumboblaw1.ValPointers", spec := "valPointers", named := ["internal/strconv.uint64pow10", "math/bits.deBruijn32tab", "math/bits.deBruijn64tab"], apart := false, laid := [("math/bits.deBruijn32tab", laid_math_bits_deBruijn32tab), ("math/bits.deBruijn64tab", laid_math_bits_deBruijn64tab), ("internal/strconv.uint64pow10", laid_internal_strconv_uint64pow10)] }
def ValPointersSaid : Prop := valPointersRow.holds Tryd.pinned (OpenSpec.ofChange valPointersSpec)

/-- ITS FALSE NEIGHBOUR: 'it returns false'. Refute it at one input. -/
def valPointersWrong : ChangeSpec := { name := "valPointers", fn := fun _ => fun
  | [d1, d2, d3, d4, d5] => { results := [.lit (.bool false)], args := [d1, d2, d3, d4, d5] }
  | _ => none }
def ValPointersWrongFalsely : Prop := valPointersRow.holds Tryd.pinned (OpenSpec.ofChange valPointersWrong)

/- THE SECOND FORM. 'bulk': how many values and letters a reading holds, each counted each time it is reached (what is shared counts as often as it is met; a slice's spare places count too). A statement '..UptoSaid' is the law's where the arguments, and the package variables that the reading takes, are together of bulk at most 1048576: NARROWER than '..Said'. Prove '..Said' where nothing that the law and all that it calls make is longer than what came in: it says more and counts as full. Else prove '..UptoSaid'. A law counts once. -/
mutual
def uptoBulk {H : Type} : DataW H → Nat
  | .lit (.string bytes) => bytes.length + 1
  | .lit _ => 1
  | .nil => 1
  | .ptr d => uptoBulk d + 1
  | .slice elems spare => uptoBulkAll elems + uptoBulkAll spare + 1
  | .agg parts => uptoBulkAll parts + 1
  | .iface _ d => uptoBulk d + 1
  | .map entries => uptoBulkEntries entries + 1
  | .held _ => 1
def uptoBulkAll {H : Type} : List (DataW H) → Nat
  | [] => 0
  | d :: r => uptoBulk d + uptoBulkAll r
def uptoBulkEntries {H : Type} : List (Lit × DataW H) → Nat
  | [] => 0
  | x :: r => uptoBulkEntry x + uptoBulkEntries r
def uptoBulkEntry {H : Type} : Lit × DataW H → Nat
  | (.string bytes, d) => bytes.length + uptoBulk d + 1
  | (_, d) => uptoBulk d + 1
 end
def uptoSmall : (H : Type) → List (DataW H) → Bool := fun _ ds => decide (uptoBulkAll ds ≤ 1048576)
def OpenSpec.upto (s : _root_.Go.ChangeSpec) : _root_.Go.OpenSpec := { _root_.Go.OpenSpec.ofChange s with cond := some uptoSmall }

/-- 'plumboblaw1.ValKnown', WHERE WHAT IT READS IS OF BULK AT MOST 1048576: true; the input reads as it did. -/
def valKnownUptoRow : OpenClaim := { program := "ytipeehmbloneoaadoor", sum := "4731acceaa07e47587722a57e40b925202e23e775ead12b7253d6856f48a9aab", func := "plumbob/plumboblaw1.ValKnown", spec := "valKnown", named := ["internal/strconv.uint64pow10", "math/bits.deBruijn32tab", "math/bits.deBruijn64tab"], apart := false, laid := [("math/bits.deBruijn32tab", laid_math_bits_deBruijn32tab), ("math/bits.deBruijn64tab", laid_math_bits_deBruijn64tab), ("internal/strconv.uint64pow10", laid_internal_strconv_uint64pow10)], narrowed := true }
def ValKnownUptoSaid : Prop := valKnownUptoRow.holds Tryd.pinned (OpenSpec.upto valKnownSpec)

/-- 'plumboblaw1.ValOps', WHERE WHAT IT READS IS OF BULK AT MOST 1048576: true; the input reads as it did. -/
def valOpsUptoRow : OpenClaim := { program := "ytipeehmbloneoaadoor", sum := "4731acceaa07e47587722a57e40b925202e23e775ead12b7253d6856f48a9aab", func := "plumbob/plumboblaw1.ValOps", spec := "valOps", named := ["internal/strconv.uint64pow10", "math/bits.deBruijn32tab", "math/bits.deBruijn64tab"], apart := false, laid := [("math/bits.deBruijn32tab", laid_math_bits_deBruijn32tab), ("math/bits.deBruijn64tab", laid_math_bits_deBruijn64tab), ("internal/strconv.uint64pow10", laid_internal_strconv_uint64pow10)], narrowed := true }
def ValOpsUptoSaid : Prop := valOpsUptoRow.holds Tryd.pinned (OpenSpec.upto valOpsSpec)

/-- 'plumboblaw1.ValTells', WHERE WHAT IT READS IS OF BULK AT MOST 1048576: true; the input reads as it did. -/
def valTellsUptoRow : OpenClaim := { program := "ytipeehmbloneoaadoor", sum := "4731acceaa07e47587722a57e40b925202e23e775ead12b7253d6856f48a9aab", func := "plumbob/plumboblaw1.ValTells", spec := "valTells", recurses := true, named := ["internal/strconv.uint64pow10", "math/bits.deBruijn32tab", "math/bits.deBruijn64tab"], apart := false, laid := [("math/bits.deBruijn32tab", laid_math_bits_deBruijn32tab), ("math/bits.deBruijn64tab", laid_math_bits_deBruijn64tab), ("internal/strconv.uint64pow10", laid_internal_strconv_uint64pow10)], narrowed := true }
def ValTellsUptoSaid : Prop := valTellsUptoRow.holds Tryd.pinned (OpenSpec.upto valTellsSpec)

/-- 'plumboblaw1.ValLaws', WHERE WHAT IT READS IS OF BULK AT MOST 1048576: true; the input reads as it did. -/
def valLawsUptoRow : OpenClaim := { program := "ytipeehmbloneoaadoor", sum := "4731acceaa07e47587722a57e40b925202e23e775ead12b7253d6856f48a9aab", func := "plumbob/plumboblaw1.ValLaws", spec := "valLaws", named := ["internal/strconv.uint64pow10", "math/bits.deBruijn32tab", "math/bits.deBruijn64tab"], apart := false, laid := [("math/bits.deBruijn32tab", laid_math_bits_deBruijn32tab), ("math/bits.deBruijn64tab", laid_math_bits_deBruijn64tab), ("internal/strconv.uint64pow10", laid_internal_strconv_uint64pow10)], narrowed := true }
def ValLawsUptoSaid : Prop := valLawsUptoRow.holds Tryd.pinned (OpenSpec.upto valLawsSpec)

/-- 'plumboblaw1.ValChains', WHERE WHAT IT READS IS OF BULK AT MOST 1048576: true; the input reads as it did. -/
def valChainsUptoRow : OpenClaim := { program := "ytipeehmbloneoaadoor", sum := "4731acceaa07e47587722a57e40b925202e23e775ead12b7253d6856f48a9aab", func := "plumbob/plumboblaw1.ValChains", spec := "valChains", named := ["internal/strconv.uint64pow10", "math/bits.deBruijn32tab", "math/bits.deBruijn64tab"], apart := false, laid := [("math/bits.deBruijn32tab", laid_math_bits_deBruijn32tab), ("math/bits.deBruijn64tab", laid_math_bits_deBruijn64tab), ("internal/strconv.uint64pow10", laid_internal_strconv_uint64pow10)], narrowed := true }
def ValChainsUptoSaid : Prop := valChainsUptoRow.holds Tryd.pinned (OpenSpec.upto valChainsSpec)

/-- 'plumboblaw1.ValExts', WHERE WHAT IT READS IS OF BULK AT MOST 1048576: true; the input reads as it did. -/
def valExtsUptoRow : OpenClaim := { program := "ytipeehmbloneoaadoor", sum := "4731acceaa07e47587722a57e40b925202e23e775ead12b7253d6856f48a9aab", func := "plumbob/plumboblaw1.ValExts", spec := "valExts", named := ["internal/strconv.uint64pow10", "math/bits.deBruijn32tab", "math/bits.deBruijn64tab"], apart := false, laid := [("math/bits.deBruijn32tab", laid_math_bits_deBruijn32tab), ("math/bits.deBruijn64tab", laid_math_bits_deBruijn64tab), ("internal/strconv.uint64pow10", laid_internal_strconv_uint64pow10)], narrowed := true }
def ValExtsUptoSaid : Prop := valExtsUptoRow.holds Tryd.pinned (OpenSpec.upto valExtsSpec)

/-- 'plumboblaw1.ValShifts', WHERE WHAT IT READS IS OF BULK AT MOST 1048576: true; the input reads as it did. -/
def valShiftsUptoRow : OpenClaim := { program := "ytipeehmbloneoaadoor", sum := "4731acceaa07e47587722a57e40b925202e23e775ead12b7253d6856f48a9aab", func := "plumbob/plumboblaw1.ValShifts", spec := "valShifts", named := ["internal/strconv.uint64pow10", "math/bits.deBruijn32tab", "math/bits.deBruijn64tab"], apart := false, laid := [("math/bits.deBruijn32tab", laid_math_bits_deBruijn32tab), ("math/bits.deBruijn64tab", laid_math_bits_deBruijn64tab), ("internal/strconv.uint64pow10", laid_internal_strconv_uint64pow10)], narrowed := true }
def ValShiftsUptoSaid : Prop := valShiftsUptoRow.holds Tryd.pinned (OpenSpec.upto valShiftsSpec)

/-- 'plumboblaw1.ValPointers', WHERE WHAT IT READS IS OF BULK AT MOST 1048576: true; the input reads as it did. -/
def valPointersUptoRow : OpenClaim := { program := "ytipeehmbloneoaadoor", sum := "4731acceaa07e47587722a57e40b925202e23e775ead12b7253d6856f48a9aab", func := "plumbob/plumboblaw1.ValPointers", spec := "valPointers", named := ["internal/strconv.uint64pow10", "math/bits.deBruijn32tab", "math/bits.deBruijn64tab"], apart := false, laid := [("math/bits.deBruijn32tab", laid_math_bits_deBruijn32tab), ("math/bits.deBruijn64tab", laid_math_bits_deBruijn64tab), ("internal/strconv.uint64pow10", laid_internal_strconv_uint64pow10)], narrowed := true }
def ValPointersUptoSaid : Prop := valPointersUptoRow.holds Tryd.pinned (OpenSpec.upto valPointersSpec)

end Rows
end Go.Proofs.YtipeehmbloneoaaDoor
