/-
  NARROWER THAN 'FOR EVERY INPUT', by the rows' own cells (each row's printed sentence says how): NumPrints: laid · NumParses: laid · NumSigns: laid · NumBits: laid · NumBack: laid · NumOrder: laid · NumSums: laid · NumNext: laid · NumEnds: laid · NumReckons: laid · NumWholes: laid · NumHalves: laid.
  DERIVED. THE GIVEN ROWS OF THIS SEAT. 12 by the template 'for every input the law returns true; each argument reads behind the call as it read before'; 0 by the template 'total and deterministic' (their statements: YtachfcdkokndfaaDoorTotals.lean).
  GIVEN WITH THE SEED: the statements are not yours to turn. If you find one false, say at which input.
  Laid BY PROGRAM, IN A SANDBOX (cutbox-rows.mjs): the forced cells as the released guide's own fill.sh prints them over the translation 33b03a1d02fe068e… (all of the seat's roots in one cut). By AI agents, Wed Nov 11 2026. No macro, syntax, notation, axiom, sorry.
-/
import Derived.Test.YtachfcdkokndfaaDoorChecked
import GoSem.Claim
import GoSem.ClaimJoined
import GoSem.ClaimMapViews
import Derived.JoinedTies
import Derived.KernelRfl
namespace Go.Proofs.YtachfcdkokndfaaDoor
/- THE CELL 'sum', in the pinned program and in every row, IS THE sha256 OF THE DUMP (.gsa) THAT YtachfcdkokndfaaDoorProg.lean LOADS. Nothing in Lean hashes anything: it is a label: what it is worth is what the hold of that sum in a sandbox is worth. -/
noncomputable def Tryd.pinned : Pinned := { name := "ytachfcdkokndfaadoor", sum := "33b03a1d02fe068e62e219c18c195d574e174eca4039d349ca22109db288eb99", checked := Tryd.checked }
namespace Rows
def none {H : Type} : Left H := { results := [], args := [] }

/- WHAT THE LISTED PACKAGE-LEVEL VARIABLES READ AS WHEN THE CALL BEGINS. Each datum BY PROGRAM (the guide's laid-datum.mjs) off the statement by which the dump's own 'gosem.cut.vars' lays the variable. In a bare row this is a premise. The card (YtachfcdkokndfaaDoorCards.lean) ties it to the program's text. -/
def laid_math_bits_deBruijn32tab {H : Type} : DataW H := .agg [.lit (.int .u8 0), .lit (.int .u8 1), .lit (.int .u8 28), .lit (.int .u8 2), .lit (.int .u8 29), .lit (.int .u8 14), .lit (.int .u8 24), .lit (.int .u8 3), .lit (.int .u8 30), .lit (.int .u8 22), .lit (.int .u8 20), .lit (.int .u8 15), .lit (.int .u8 25), .lit (.int .u8 17), .lit (.int .u8 4), .lit (.int .u8 8), .lit (.int .u8 31), .lit (.int .u8 27), .lit (.int .u8 13), .lit (.int .u8 23), .lit (.int .u8 21), .lit (.int .u8 19), .lit (.int .u8 16), .lit (.int .u8 7), .lit (.int .u8 26), .lit (.int .u8 12), .lit (.int .u8 18), .lit (.int .u8 6), .lit (.int .u8 11), .lit (.int .u8 5), .lit (.int .u8 10), .lit (.int .u8 9)]
def laid_math_bits_deBruijn64tab {H : Type} : DataW H := .agg [.lit (.int .u8 0), .lit (.int .u8 1), .lit (.int .u8 56), .lit (.int .u8 2), .lit (.int .u8 57), .lit (.int .u8 49), .lit (.int .u8 28), .lit (.int .u8 3), .lit (.int .u8 61), .lit (.int .u8 58), .lit (.int .u8 42), .lit (.int .u8 50), .lit (.int .u8 38), .lit (.int .u8 29), .lit (.int .u8 17), .lit (.int .u8 4), .lit (.int .u8 62), .lit (.int .u8 47), .lit (.int .u8 59), .lit (.int .u8 36), .lit (.int .u8 45), .lit (.int .u8 43), .lit (.int .u8 51), .lit (.int .u8 22), .lit (.int .u8 53), .lit (.int .u8 39), .lit (.int .u8 33), .lit (.int .u8 30), .lit (.int .u8 24), .lit (.int .u8 18), .lit (.int .u8 12), .lit (.int .u8 5), .lit (.int .u8 63), .lit (.int .u8 55), .lit (.int .u8 48), .lit (.int .u8 27), .lit (.int .u8 60), .lit (.int .u8 41), .lit (.int .u8 37), .lit (.int .u8 16), .lit (.int .u8 46), .lit (.int .u8 35), .lit (.int .u8 44), .lit (.int .u8 21), .lit (.int .u8 52), .lit (.int .u8 32), .lit (.int .u8 23), .lit (.int .u8 11), .lit (.int .u8 54), .lit (.int .u8 26), .lit (.int .u8 40), .lit (.int .u8 15), .lit (.int .u8 34), .lit (.int .u8 20), .lit (.int .u8 31), .lit (.int .u8 10), .lit (.int .u8 25), .lit (.int .u8 14), .lit (.int .u8 19), .lit (.int .u8 9), .lit (.int .u8 13), .lit (.int .u8 8), .lit (.int .u8 7), .lit (.int .u8 6)]
def laid_internal_strconv_uint64pow10 {H : Type} : DataW H := .agg [.lit (.int .u64 1), .lit (.int .u64 10), .lit (.int .u64 100), .lit (.int .u64 1000), .lit (.int .u64 10000), .lit (.int .u64 100000), .lit (.int .u64 1000000), .lit (.int .u64 10000000), .lit (.int .u64 100000000), .lit (.int .u64 1000000000), .lit (.int .u64 10000000000), .lit (.int .u64 100000000000), .lit (.int .u64 1000000000000), .lit (.int .u64 10000000000000), .lit (.int .u64 100000000000000), .lit (.int .u64 1000000000000000), .lit (.int .u64 10000000000000000), .lit (.int .u64 100000000000000000), .lit (.int .u64 1000000000000000000), .lit (.int .u64 10000000000000000000)]

/-- 'racelaw1.NumPrints': WHATEVER THE INPUT: true; the input reads as it did. -/
def numPrintsSpec : ChangeSpec := { name := "numPrints", fn := fun _ => fun
  | [d] => { results := [.lit (.bool true)], args := [d] }
  | _ => none }
def numPrintsRow : OpenClaim := { program := "ytachfcdkokndfaadoor", sum := "33b03a1d02fe068e62e219c18c195d574e174eca4039d349ca22109db288eb99", func := "headrace/racelaw1.NumPrints", spec := "numPrints", inPlace := ["math.Float64frombits", "math.Float64bits"], named := ["math/bits.deBruijn64tab", "internal/strconv.uint64pow10", "math/bits.deBruijn32tab"], apart := false, laid := [("math/bits.deBruijn32tab", laid_math_bits_deBruijn32tab), ("math/bits.deBruijn64tab", laid_math_bits_deBruijn64tab), ("internal/strconv.uint64pow10", laid_internal_strconv_uint64pow10)] }
def NumPrintsSaid : Prop := numPrintsRow.holds Tryd.pinned (OpenSpec.ofChange numPrintsSpec)

/-- ITS FALSE NEIGHBOUR: 'it returns false'. Refute it at one input. -/
def numPrintsWrong : ChangeSpec := { name := "numPrints", fn := fun _ => fun
  | [d] => { results := [.lit (.bool false)], args := [d] }
  | _ => none }
def NumPrintsWrongFalsely : Prop := numPrintsRow.holds Tryd.pinned (OpenSpec.ofChange numPrintsWrong)

/-- 'racelaw1.NumParses': WHATEVER THE INPUT: true; the input reads as it did. -/
def numParsesSpec : ChangeSpec := { name := "numParses", fn := fun _ => fun
  | [d] => { results := [.lit (.bool true)], args := [d] }
  | _ => none }
def numParsesRow : OpenClaim := { program := "ytachfcdkokndfaadoor", sum := "33b03a1d02fe068e62e219c18c195d574e174eca4039d349ca22109db288eb99", func := "headrace/racelaw1.NumParses", spec := "numParses", inPlace := ["math.Float64frombits", "math.Float64bits"], named := ["math/bits.deBruijn64tab", "internal/strconv.uint64pow10", "math/bits.deBruijn32tab"], apart := false, laid := [("math/bits.deBruijn32tab", laid_math_bits_deBruijn32tab), ("math/bits.deBruijn64tab", laid_math_bits_deBruijn64tab), ("internal/strconv.uint64pow10", laid_internal_strconv_uint64pow10)] }
def NumParsesSaid : Prop := numParsesRow.holds Tryd.pinned (OpenSpec.ofChange numParsesSpec)

/-- ITS FALSE NEIGHBOUR: 'it returns false'. Refute it at one input. -/
def numParsesWrong : ChangeSpec := { name := "numParses", fn := fun _ => fun
  | [d] => { results := [.lit (.bool false)], args := [d] }
  | _ => none }
def NumParsesWrongFalsely : Prop := numParsesRow.holds Tryd.pinned (OpenSpec.ofChange numParsesWrong)

/-- 'racelaw1.NumSigns': WHATEVER THE INPUT: true; the input reads as it did. -/
def numSignsSpec : ChangeSpec := { name := "numSigns", fn := fun _ => fun
  | [d] => { results := [.lit (.bool true)], args := [d] }
  | _ => none }
def numSignsRow : OpenClaim := { program := "ytachfcdkokndfaadoor", sum := "33b03a1d02fe068e62e219c18c195d574e174eca4039d349ca22109db288eb99", func := "headrace/racelaw1.NumSigns", spec := "numSigns", inPlace := ["math.Float64frombits", "math.Float64bits"], named := ["math/bits.deBruijn64tab", "internal/strconv.uint64pow10", "math/bits.deBruijn32tab"], apart := false, laid := [("math/bits.deBruijn32tab", laid_math_bits_deBruijn32tab), ("math/bits.deBruijn64tab", laid_math_bits_deBruijn64tab), ("internal/strconv.uint64pow10", laid_internal_strconv_uint64pow10)] }
def NumSignsSaid : Prop := numSignsRow.holds Tryd.pinned (OpenSpec.ofChange numSignsSpec)

/-- ITS FALSE NEIGHBOUR: 'it returns false'. Refute it at one input. -/
def numSignsWrong : ChangeSpec := { name := "numSigns", fn := fun _ => fun
  | [d] => { results := [.lit (.bool false)], args := [d] }
  | _ => none }
def NumSignsWrongFalsely : Prop := numSignsRow.holds Tryd.pinned (OpenSpec.ofChange numSignsWrong)

/-- 'racelaw1.NumBits': WHATEVER THE INPUT: true; the input reads as it did. -/
def numBitsSpec : ChangeSpec := { name := "numBits", fn := fun _ => fun
  | [d1, d2] => { results := [.lit (.bool true)], args := [d1, d2] }
  | _ => none }
def numBitsRow : OpenClaim := { program := "ytachfcdkokndfaadoor", sum := "33b03a1d02fe068e62e219c18c195d574e174eca4039d349ca22109db288eb99", func := "headrace/racelaw1.NumBits", spec := "numBits", inPlace := ["math.Float64frombits", "math.Float64bits"], named := ["math/bits.deBruijn64tab", "internal/strconv.uint64pow10", "math/bits.deBruijn32tab"], apart := false, laid := [("math/bits.deBruijn32tab", laid_math_bits_deBruijn32tab), ("math/bits.deBruijn64tab", laid_math_bits_deBruijn64tab), ("internal/strconv.uint64pow10", laid_internal_strconv_uint64pow10)] }
def NumBitsSaid : Prop := numBitsRow.holds Tryd.pinned (OpenSpec.ofChange numBitsSpec)

/-- ITS FALSE NEIGHBOUR: 'it returns false'. Refute it at one input. -/
def numBitsWrong : ChangeSpec := { name := "numBits", fn := fun _ => fun
  | [d1, d2] => { results := [.lit (.bool false)], args := [d1, d2] }
  | _ => none }
def NumBitsWrongFalsely : Prop := numBitsRow.holds Tryd.pinned (OpenSpec.ofChange numBitsWrong)

/-- 'racelaw1.NumBack': WHATEVER THE INPUT: true; the input reads as it did. -/
def numBackSpec : ChangeSpec := { name := "numBack", fn := fun _ => fun
  | [d1, d2] => { results := [.lit (.bool true)], args := [d1, d2] }
  | _ => none }
def numBackRow : OpenClaim := { program := "ytachfcdkokndfaadoor", sum := "33b03a1d02fe068e62e219c18c195d574e174eca4039d349ca22109db288eb99", func := "headrace/racelaw1.NumBack", spec := "numBack", inPlace := ["math.Float64frombits", "math.Float64bits"], named := ["math/bits.deBruijn64tab", "internal/strconv.uint64pow10", "math/bits.deBruijn32tab"], apart := false, laid := [("math/bits.deBruijn32tab", laid_math_bits_deBruijn32tab), ("math/bits.deBruijn64tab", laid_math_bits_deBruijn64tab), ("internal/strconv.uint64pow10", laid_internal_strconv_uint64pow10)] }
def NumBackSaid : Prop := numBackRow.holds Tryd.pinned (OpenSpec.ofChange numBackSpec)

/-- ITS FALSE NEIGHBOUR: 'it returns false'. Refute it at one input. -/
def numBackWrong : ChangeSpec := { name := "numBack", fn := fun _ => fun
  | [d1, d2] => { results := [.lit (.bool false)], args := [d1, d2] }
  | _ => none }
def NumBackWrongFalsely : Prop := numBackRow.holds Tryd.pinned (OpenSpec.ofChange numBackWrong)

/-- 'racelaw1.NumOrder': WHATEVER THE INPUT: true; the input reads as it did. -/
def numOrderSpec : ChangeSpec := { name := "numOrder", fn := fun _ => fun
  | [d1, d2, d3] => { results := [.lit (.bool true)], args := [d1, d2, d3] }
  | _ => none }
def numOrderRow : OpenClaim := { program := "ytachfcdkokndfaadoor", sum := "33b03a1d02fe068e62e219c18c195d574e174eca4039d349ca22109db288eb99", func := "headrace/racelaw1.NumOrder", spec := "numOrder", inPlace := ["math.Float64frombits", "math.Float64bits"], named := ["math/bits.deBruijn64tab", "internal/strconv.uint64pow10", "math/bits.deBruijn32tab"], apart := false, laid := [("math/bits.deBruijn32tab", laid_math_bits_deBruijn32tab), ("math/bits.deBruijn64tab", laid_math_bits_deBruijn64tab), ("internal/strconv.uint64pow10", laid_internal_strconv_uint64pow10)] }
def NumOrderSaid : Prop := numOrderRow.holds Tryd.pinned (OpenSpec.ofChange numOrderSpec)

/-- ITS FALSE NEIGHBOUR: 'it returns false'. Refute it at one input. -/
def numOrderWrong : ChangeSpec := { name := "numOrder", fn := fun _ => fun
  | [d1, d2, d3] => { results := [.lit (.bool false)], args := [d1, d2, d3] }
  | _ => none }
def NumOrderWrongFalsely : Prop := numOrderRow.holds Tryd.pinned (OpenSpec.ofChange numOrderWrong)

/-- 'racelaw1.NumSums': WHATEVER THE INPUT: true; the input reads as it did. -/
def numSumsSpec : ChangeSpec := { name := "numSums", fn := fun _ => fun
  | [d] => { results := [.lit (.bool true)], args := [d] }
  | _ => none }
def numSumsRow : OpenClaim := { program := "ytachfcdkokndfaadoor", sum := "33b03a1d02fe068e62e219c18c195d574e174eca4039d349ca22109db288eb99", func := "headrace/racelaw1.NumSums", spec := "numSums", inPlace := ["math.Float64frombits", "math.Float64bits"], named := ["math/bits.deBruijn64tab", "internal/strconv.uint64pow10", "math/bits.deBruijn32tab"], apart := false, laid := [("math/bits.deBruijn32tab", laid_math_bits_deBruijn32tab), ("math/bits.deBruijn64tab", laid_math_bits_deBruijn64tab), ("internal/strconv.uint64pow10", laid_internal_strconv_uint64pow10)] }
def NumSumsSaid : Prop := numSumsRow.holds Tryd.pinned (OpenSpec.ofChange numSumsSpec)

/-- ITS FALSE NEIGHBOUR: 'it returns false'. Refute it at one input. -/
def numSumsWrong : ChangeSpec := { name := "numSums", fn := fun _ => fun
  | [d] => { results := [.lit (.bool false)], args := [d] }
  | _ => none }
def NumSumsWrongFalsely : Prop := numSumsRow.holds Tryd.pinned (OpenSpec.ofChange numSumsWrong)

/-- 'racelaw1.NumNext': WHATEVER THE INPUT: true; the input reads as it did. -/
def numNextSpec : ChangeSpec := { name := "numNext", fn := fun _ => fun
  | [d1, d2] => { results := [.lit (.bool true)], args := [d1, d2] }
  | _ => none }
def numNextRow : OpenClaim := { program := "ytachfcdkokndfaadoor", sum := "33b03a1d02fe068e62e219c18c195d574e174eca4039d349ca22109db288eb99", func := "headrace/racelaw1.NumNext", spec := "numNext", inPlace := ["math.Float64frombits", "math.Float64bits"], named := ["math/bits.deBruijn64tab", "internal/strconv.uint64pow10", "math/bits.deBruijn32tab"], apart := false, laid := [("math/bits.deBruijn32tab", laid_math_bits_deBruijn32tab), ("math/bits.deBruijn64tab", laid_math_bits_deBruijn64tab), ("internal/strconv.uint64pow10", laid_internal_strconv_uint64pow10)] }
def NumNextSaid : Prop := numNextRow.holds Tryd.pinned (OpenSpec.ofChange numNextSpec)

/-- ITS FALSE NEIGHBOUR: 'it returns false'. Refute it at one input. -/
def numNextWrong : ChangeSpec := { name := "numNext", fn := fun _ => fun
  | [d1, d2] => { results := [.lit (.bool false)], args := [d1, d2] }
  | _ => none }
def NumNextWrongFalsely : Prop := numNextRow.holds Tryd.pinned (OpenSpec.ofChange numNextWrong)

/-- 'racelaw1.NumEnds': WHATEVER THE INPUT: true; the input reads as it did. -/
def numEndsSpec : ChangeSpec := { name := "numEnds", fn := fun _ => fun
  | [d] => { results := [.lit (.bool true)], args := [d] }
  | _ => none }
def numEndsRow : OpenClaim := { program := "ytachfcdkokndfaadoor", sum := "33b03a1d02fe068e62e219c18c195d574e174eca4039d349ca22109db288eb99", func := "headrace/racelaw1.NumEnds", spec := "numEnds", inPlace := ["math.Float64frombits", "math.Float64bits"], named := ["math/bits.deBruijn64tab", "internal/strconv.uint64pow10", "math/bits.deBruijn32tab"], apart := false, laid := [("math/bits.deBruijn32tab", laid_math_bits_deBruijn32tab), ("math/bits.deBruijn64tab", laid_math_bits_deBruijn64tab), ("internal/strconv.uint64pow10", laid_internal_strconv_uint64pow10)] }
def NumEndsSaid : Prop := numEndsRow.holds Tryd.pinned (OpenSpec.ofChange numEndsSpec)

/-- ITS FALSE NEIGHBOUR: 'it returns false'. Refute it at one input. -/
def numEndsWrong : ChangeSpec := { name := "numEnds", fn := fun _ => fun
  | [d] => { results := [.lit (.bool false)], args := [d] }
  | _ => none }
def NumEndsWrongFalsely : Prop := numEndsRow.holds Tryd.pinned (OpenSpec.ofChange numEndsWrong)

/-- 'racelaw1.NumReckons': WHATEVER THE INPUT: true; the input reads as it did. -/
def numReckonsSpec : ChangeSpec := { name := "numReckons", fn := fun _ => fun
  | [d1, d2] => { results := [.lit (.bool true)], args := [d1, d2] }
  | _ => none }
def numReckonsRow : OpenClaim := { program := "ytachfcdkokndfaadoor", sum := "33b03a1d02fe068e62e219c18c195d574e174eca4039d349ca22109db288eb99", func := "headrace/racelaw1.NumReckons", spec := "numReckons", inPlace := ["math.Float64frombits", "math.Float64bits"], named := ["math/bits.deBruijn64tab", "internal/strconv.uint64pow10", "math/bits.deBruijn32tab"], apart := false, laid := [("math/bits.deBruijn32tab", laid_math_bits_deBruijn32tab), ("math/bits.deBruijn64tab", laid_math_bits_deBruijn64tab), ("internal/strconv.uint64pow10", laid_internal_strconv_uint64pow10)] }
def NumReckonsSaid : Prop := numReckonsRow.holds Tryd.pinned (OpenSpec.ofChange numReckonsSpec)

/-- ITS FALSE NEIGHBOUR: 'it returns false'. Refute it at one input. -/
def numReckonsWrong : ChangeSpec := { name := "numReckons", fn := fun _ => fun
  | [d1, d2] => { results := [.lit (.bool false)], args := [d1, d2] }
  | _ => none }
def NumReckonsWrongFalsely : Prop := numReckonsRow.holds Tryd.pinned (OpenSpec.ofChange numReckonsWrong)

/-- 'racelaw1.NumWholes': WHATEVER THE INPUT: true; the input reads as it did. -/
def numWholesSpec : ChangeSpec := { name := "numWholes", fn := fun _ => fun
  | [d] => { results := [.lit (.bool true)], args := [d] }
  | _ => none }
def numWholesRow : OpenClaim := { program := "ytachfcdkokndfaadoor", sum := "33b03a1d02fe068e62e219c18c195d574e174eca4039d349ca22109db288eb99", func := "headrace/racelaw1.NumWholes", spec := "numWholes", inPlace := ["math.Float64frombits", "math.Float64bits", "math.archTrunc"], named := ["math/bits.deBruijn64tab", "internal/strconv.uint64pow10", "math/bits.deBruijn32tab"], apart := false, laid := [("math/bits.deBruijn32tab", laid_math_bits_deBruijn32tab), ("math/bits.deBruijn64tab", laid_math_bits_deBruijn64tab), ("internal/strconv.uint64pow10", laid_internal_strconv_uint64pow10)] }
def NumWholesSaid : Prop := numWholesRow.holds Tryd.pinned (OpenSpec.ofChange numWholesSpec)

/-- ITS FALSE NEIGHBOUR: 'it returns false'. Refute it at one input. -/
def numWholesWrong : ChangeSpec := { name := "numWholes", fn := fun _ => fun
  | [d] => { results := [.lit (.bool false)], args := [d] }
  | _ => none }
def NumWholesWrongFalsely : Prop := numWholesRow.holds Tryd.pinned (OpenSpec.ofChange numWholesWrong)

/-- 'racelaw1.NumHalves': WHATEVER THE INPUT: true; the input reads as it did. -/
def numHalvesSpec : ChangeSpec := { name := "numHalves", fn := fun _ => fun
  | [d1, d2] => { results := [.lit (.bool true)], args := [d1, d2] }
  | _ => none }
def numHalvesRow : OpenClaim := { program := "ytachfcdkokndfaadoor", sum := "33b03a1d02fe068e62e219c18c195d574e174eca4039d349ca22109db288eb99", func := "headrace/racelaw1.NumHalves", spec := "numHalves", inPlace := ["math.Float64frombits", "math.Float64bits"], named := ["math/bits.deBruijn64tab", "internal/strconv.uint64pow10", "math/bits.deBruijn32tab"], apart := false, laid := [("math/bits.deBruijn32tab", laid_math_bits_deBruijn32tab), ("math/bits.deBruijn64tab", laid_math_bits_deBruijn64tab), ("internal/strconv.uint64pow10", laid_internal_strconv_uint64pow10)] }
def NumHalvesSaid : Prop := numHalvesRow.holds Tryd.pinned (OpenSpec.ofChange numHalvesSpec)

/-- ITS FALSE NEIGHBOUR: 'it returns false'. Refute it at one input. -/
def numHalvesWrong : ChangeSpec := { name := "numHalves", fn := fun _ => fun
  | [d1, d2] => { results := [.lit (.bool false)], args := [d1, d2] }
  | _ => none }
def NumHalvesWrongFalsely : Prop := numHalvesRow.holds Tryd.pinned (OpenSpec.ofChange numHalvesWrong)

/- THE SECOND FORM. 'bulk': how many values and letters a reading holds, each counted each time it is reached (what is shared counts as often as it is met; a slice's spare places count too). A statement '..UptoSaid' is the law's where the arguments, and the package variables that the reading takes, are together of bulk at most 1048576: NARROWER than '..Said'. Prove '..Said' where nothing that the law and all that it calls make is longer than what came in: it says more and counts as full. Else prove '..UptoSaid'. A law counts once. -/
mutual
def uptoBulk {H : Type} : DataW H → Nat
  | .lit (.string bytes) => bytes.length + 1
  | .lit _ => 1
  | .nil => 1
  | .ptr d => uptoBulk d + 1
  | .slice elems spare => uptoBulkAll elems + uptoBulkAll spare + 1
  | .agg parts => uptoBulkAll parts + 1
  | .iface _ d => uptoBulk d + 1
  | .map entries => uptoBulkEntries entries + 1
  | .held _ => 1
def uptoBulkAll {H : Type} : List (DataW H) → Nat
  | [] => 0
  | d :: r => uptoBulk d + uptoBulkAll r
def uptoBulkEntries {H : Type} : List (Lit × DataW H) → Nat
  | [] => 0
  | x :: r => uptoBulkEntry x + uptoBulkEntries r
def uptoBulkEntry {H : Type} : Lit × DataW H → Nat
  | (.string bytes, d) => bytes.length + uptoBulk d + 1
  | (_, d) => uptoBulk d + 1
 end
def uptoSmall : (H : Type) → List (DataW H) → Bool := fun _ ds => decide (uptoBulkAll ds ≤ 1048576)
def OpenSpec.upto (s : _root_.Go.ChangeSpec) : _root_.Go.OpenSpec := { _root_.Go.OpenSpec.ofChange s with cond := some uptoSmall }

/-- 'racelaw1.NumPrints', WHERE WHAT IT READS IS OF BULK AT MOST 1048576: true; the input reads as it did. -/
def numPrintsUptoRow : OpenClaim := { program := "ytachfcdkokndfaadoor", sum := "33b03a1d02fe068e62e219c18c195d574e174eca4039d349ca22109db288eb99", func := "headrace/racelaw1.NumPrints", spec := "numPrints", inPlace := ["math.Float64frombits", "math.Float64bits"], named := ["math/bits.deBruijn64tab", "internal/strconv.uint64pow10", "math/bits.deBruijn32tab"], apart := false, laid := [("math/bits.deBruijn32tab", laid_math_bits_deBruijn32tab), ("math/bits.deBruijn64tab", laid_math_bits_deBruijn64tab), ("internal/strconv.uint64pow10", laid_internal_strconv_uint64pow10)], narrowed := true }
def NumPrintsUptoSaid : Prop := numPrintsUptoRow.holds Tryd.pinned (OpenSpec.upto numPrintsSpec)

/-- 'racelaw1.NumParses', WHERE WHAT IT READS IS OF BULK AT MOST 1048576: true; the input reads as it did. -/
def numParsesUptoRow : OpenClaim := { program := "ytachfcdkokndfaadoor", sum := "33b03a1d02fe068e62e219c18c195d574e174eca4039d349ca22109db288eb99", func := "headrace/racelaw1.NumParses", spec := "numParses", inPlace := ["math.Float64frombits", "math.Float64bits"], named := ["math/bits.deBruijn64tab", "internal/strconv.uint64pow10", "math/bits.deBruijn32tab"], apart := false, laid := [("math/bits.deBruijn32tab", laid_math_bits_deBruijn32tab), ("math/bits.deBruijn64tab", laid_math_bits_deBruijn64tab), ("internal/strconv.uint64pow10", laid_internal_strconv_uint64pow10)], narrowed := true }
def NumParsesUptoSaid : Prop := numParsesUptoRow.holds Tryd.pinned (OpenSpec.upto numParsesSpec)

/-- 'racelaw1.NumSigns', WHERE WHAT IT READS IS OF BULK AT MOST 1048576: true; the input reads as it did. -/
def numSignsUptoRow : OpenClaim := { program := "ytachfcdkokndfaadoor", sum := "33b03a1d02fe068e62e219c18c195d574e174eca4039d349ca22109db288eb99", func := "headrace/racelaw1.NumSigns", spec := "numSigns", inPlace := ["math.Float64frombits", "math.Float64bits"], named := ["math/bits.deBruijn64tab", "internal/strconv.uint64pow10", "math/bits.deBruijn32tab"], apart := false, laid := [("math/bits.deBruijn32tab", laid_math_bits_deBruijn32tab), ("math/bits.deBruijn64tab", laid_math_bits_deBruijn64tab), ("internal/strconv.uint64pow10", laid_internal_strconv_uint64pow10)], narrowed := true }
def NumSignsUptoSaid : Prop := numSignsUptoRow.holds Tryd.pinned (OpenSpec.upto numSignsSpec)

/-- 'racelaw1.NumBits', WHERE WHAT IT READS IS OF BULK AT MOST 1048576: true; the input reads as it did. -/
def numBitsUptoRow : OpenClaim := { program := "ytachfcdkokndfaadoor", sum := "33b03a1d02fe068e62e219c18c195d574e174eca4039d349ca22109db288eb99", func := "headrace/racelaw1.NumBits", spec := "numBits", inPlace := ["math.Float64frombits", "math.Float64bits"], named := ["math/bits.deBruijn64tab", "internal/strconv.uint64pow10", "math/bits.deBruijn32tab"], apart := false, laid := [("math/bits.deBruijn32tab", laid_math_bits_deBruijn32tab), ("math/bits.deBruijn64tab", laid_math_bits_deBruijn64tab), ("internal/strconv.uint64pow10", laid_internal_strconv_uint64pow10)], narrowed := true }
def NumBitsUptoSaid : Prop := numBitsUptoRow.holds Tryd.pinned (OpenSpec.upto numBitsSpec)

/-- 'racelaw1.NumBack', WHERE WHAT IT READS IS OF BULK AT MOST 1048576: true; the input reads as it did. -/
def numBackUptoRow : OpenClaim := { program := "ytachfcdkokndfaadoor", sum := "33b03a1d02fe068e62e219c18c195d574e174eca4039d349ca22109db288eb99", func := "headrace/racelaw1.NumBack", spec := "numBack", inPlace := ["math.Float64frombits", "math.Float64bits"], named := ["math/bits.deBruijn64tab", "internal/strconv.uint64pow10", "math/bits.deBruijn32tab"], apart := false, laid := [("math/bits.deBruijn32tab", laid_math_bits_deBruijn32tab), ("math/bits.deBruijn64tab", laid_math_bits_deBruijn64tab), ("internal/strconv.uint64pow10", laid_internal_strconv_uint64pow10)], narrowed := true }
def NumBackUptoSaid : Prop := numBackUptoRow.holds Tryd.pinned (OpenSpec.upto numBackSpec)

/-- 'racelaw1.NumOrder', WHERE WHAT IT READS IS OF BULK AT MOST 1048576: true; the input reads as it did. -/
def numOrderUptoRow : OpenClaim := { program := "ytachfcdkokndfaadoor", sum := "33b03a1d02fe068e62e219c18c195d574e174eca4039d349ca22109db288eb99", func := "headrace/racelaw1.NumOrder", spec := "numOrder", inPlace := ["math.Float64frombits", "math.Float64bits"], named := ["math/bits.deBruijn64tab", "internal/strconv.uint64pow10", "math/bits.deBruijn32tab"], apart := false, laid := [("math/bits.deBruijn32tab", laid_math_bits_deBruijn32tab), ("math/bits.deBruijn64tab", laid_math_bits_deBruijn64tab), ("internal/strconv.uint64pow10", laid_internal_strconv_uint64pow10)], narrowed := true }
def NumOrderUptoSaid : Prop := numOrderUptoRow.holds Tryd.pinned (OpenSpec.upto numOrderSpec)

/-- 'racelaw1.NumSums', WHERE WHAT IT READS IS OF BULK AT MOST 1048576: true; the input reads as it did. -/
def numSumsUptoRow : OpenClaim := { program := "ytachfcdkokndfaadoor", sum := "33b03a1d02fe068e62e219c18c195d574e174eca4039d349ca22109db288eb99", func := "headrace/racelaw1.NumSums", spec := "numSums", inPlace := ["math.Float64frombits", "math.Float64bits"], named := ["math/bits.deBruijn64tab", "internal/strconv.uint64pow10", "math/bits.deBruijn32tab"], apart := false, laid := [("math/bits.deBruijn32tab", laid_math_bits_deBruijn32tab), ("math/bits.deBruijn64tab", laid_math_bits_deBruijn64tab), ("internal/strconv.uint64pow10", laid_internal_strconv_uint64pow10)], narrowed := true }
def NumSumsUptoSaid : Prop := numSumsUptoRow.holds Tryd.pinned (OpenSpec.upto numSumsSpec)

/-- 'racelaw1.NumNext', WHERE WHAT IT READS IS OF BULK AT MOST 1048576: true; the input reads as it did. -/
def numNextUptoRow : OpenClaim := { program := "ytachfcdkokndfaadoor", sum := "33b03a1d02fe068e62e219c18c195d574e174eca4039d349ca22109db288eb99", func := "headrace/racelaw1.NumNext", spec := "numNext", inPlace := ["math.Float64frombits", "math.Float64bits"], named := ["math/bits.deBruijn64tab", "internal/strconv.uint64pow10", "math/bits.deBruijn32tab"], apart := false, laid := [("math/bits.deBruijn32tab", laid_math_bits_deBruijn32tab), ("math/bits.deBruijn64tab", laid_math_bits_deBruijn64tab), ("internal/strconv.uint64pow10", laid_internal_strconv_uint64pow10)], narrowed := true }
def NumNextUptoSaid : Prop := numNextUptoRow.holds Tryd.pinned (OpenSpec.upto numNextSpec)

/-- 'racelaw1.NumEnds', WHERE WHAT IT READS IS OF BULK AT MOST 1048576: true; the input reads as it did. -/
def numEndsUptoRow : OpenClaim := { program := "ytachfcdkokndfaadoor", sum := "33b03a1d02fe068e62e219c18c195d574e174eca4039d349ca22109db288eb99", func := "headrace/racelaw1.NumEnds", spec := "numEnds", inPlace := ["math.Float64frombits", "math.Float64bits"], named := ["math/bits.deBruijn64tab", "internal/strconv.uint64pow10", "math/bits.deBruijn32tab"], apart := false, laid := [("math/bits.deBruijn32tab", laid_math_bits_deBruijn32tab), ("math/bits.deBruijn64tab", laid_math_bits_deBruijn64tab), ("internal/strconv.uint64pow10", laid_internal_strconv_uint64pow10)], narrowed := true }
def NumEndsUptoSaid : Prop := numEndsUptoRow.holds Tryd.pinned (OpenSpec.upto numEndsSpec)

/-- 'racelaw1.NumReckons', WHERE WHAT IT READS IS OF BULK AT MOST 1048576: true; the input reads as it did. -/
def numReckonsUptoRow : OpenClaim := { program := "ytachfcdkokndfaadoor", sum := "33b03a1d02fe068e62e219c18c195d574e174eca4039d349ca22109db288eb99", func := "headrace/racelaw1.NumReckons", spec := "numReckons", inPlace := ["math.Float64frombits", "math.Float64bits"], named := ["math/bits.deBruijn64tab", "internal/strconv.uint64pow10", "math/bits.deBruijn32tab"], apart := false, laid := [("math/bits.deBruijn32tab", laid_math_bits_deBruijn32tab), ("math/bits.deBruijn64tab", laid_math_bits_deBruijn64tab), ("internal/strconv.uint64pow10", laid_internal_strconv_uint64pow10)], narrowed := true }
def NumReckonsUptoSaid : Prop := numReckonsUptoRow.holds Tryd.pinned (OpenSpec.upto numReckonsSpec)

/-- 'racelaw1.NumWholes', WHERE WHAT IT READS IS OF BULK AT MOST 1048576: true; the input reads as it did. -/
def numWholesUptoRow : OpenClaim := { program := "ytachfcdkokndfaadoor", sum := "33b03a1d02fe068e62e219c18c195d574e174eca4039d349ca22109db288eb99", func := "headrace/racelaw1.NumWholes", spec := "numWholes", inPlace := ["math.Float64frombits", "math.Float64bits", "math.archTrunc"], named := ["math/bits.deBruijn64tab", "internal/strconv.uint64pow10", "math/bits.deBruijn32tab"], apart := false, laid := [("math/bits.deBruijn32tab", laid_math_bits_deBruijn32tab), ("math/bits.deBruijn64tab", laid_math_bits_deBruijn64tab), ("internal/strconv.uint64pow10", laid_internal_strconv_uint64pow10)], narrowed := true }
def NumWholesUptoSaid : Prop := numWholesUptoRow.holds Tryd.pinned (OpenSpec.upto numWholesSpec)

/-- 'racelaw1.NumHalves', WHERE WHAT IT READS IS OF BULK AT MOST 1048576: true; the input reads as it did. -/
def numHalvesUptoRow : OpenClaim := { program := "ytachfcdkokndfaadoor", sum := "33b03a1d02fe068e62e219c18c195d574e174eca4039d349ca22109db288eb99", func := "headrace/racelaw1.NumHalves", spec := "numHalves", inPlace := ["math.Float64frombits", "math.Float64bits"], named := ["math/bits.deBruijn64tab", "internal/strconv.uint64pow10", "math/bits.deBruijn32tab"], apart := false, laid := [("math/bits.deBruijn32tab", laid_math_bits_deBruijn32tab), ("math/bits.deBruijn64tab", laid_math_bits_deBruijn64tab), ("internal/strconv.uint64pow10", laid_internal_strconv_uint64pow10)], narrowed := true }
def NumHalvesUptoSaid : Prop := numHalvesUptoRow.holds Tryd.pinned (OpenSpec.upto numHalvesSpec)

end Rows
end Go.Proofs.YtachfcdkokndfaaDoor
