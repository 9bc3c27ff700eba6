/-
  NARROWER THAN 'FOR EVERY INPUT', by the rows' own cells (each row's printed sentence says how): DatumKinds: laid · DatumTexts: laid · DatumQuotes: laid · DatumAdds: laid · DatumCompares: laid · DatumOrder: laid · DatumBytes: laid · DatumBack: laid.
  DERIVED. THE GIVEN ROWS OF THIS SEAT. 8 by the template 'for every input the law returns true; each argument reads behind the call as it read before'; 0 by the template 'total and deterministic' (their statements: YtecgjhjglklcnaaDoorTotals.lean).
  GIVEN WITH THE SEED: the statements are not yours to turn. If you find one false, say at which input.
  Laid BY PROGRAM, IN A SANDBOX (cutbox-rows.mjs): the forced cells as the released guide's own fill.sh prints them over the translation a384f503e1a59573… (all of the seat's roots in one cut). By AI agents, Wed Nov 11 2026. No macro, syntax, notation, axiom, sorry.
-/
import Derived.Test.YtecgjhjglklcnaaDoorChecked
import GoSem.Claim
import GoSem.ClaimJoined
import GoSem.ClaimMapViews
import Derived.JoinedTies
import Derived.KernelRfl
namespace Go.Proofs.YtecgjhjglklcnaaDoor
/- THE CELL 'sum', in the pinned program and in every row, IS THE sha256 OF THE DUMP (.gsa) THAT YtecgjhjglklcnaaDoorProg.lean LOADS. Nothing in Lean hashes anything: it is a label: what it is worth is what the hold of that sum in a sandbox is worth. -/
noncomputable def Tryd.pinned : Pinned := { name := "ytecgjhjglklcnaadoor", sum := "a384f503e1a59573e61823e2ff1eddf010a79b8a00751b097ce65acdf90c245b", checked := Tryd.checked }
namespace Rows
def none {H : Type} : Left H := { results := [], args := [] }

/- WHAT THE LISTED PACKAGE-LEVEL VARIABLES READ AS WHEN THE CALL BEGINS. Each datum BY PROGRAM (the guide's laid-datum.mjs) off the statement by which the dump's own 'gosem.cut.vars' lays the variable. In a bare row this is a premise. The card (YtecgjhjglklcnaaDoorCards.lean) ties it to the program's text. -/
def laid_math_bits_deBruijn32tab {H : Type} : DataW H := .agg [.lit (.int .u8 0), .lit (.int .u8 1), .lit (.int .u8 28), .lit (.int .u8 2), .lit (.int .u8 29), .lit (.int .u8 14), .lit (.int .u8 24), .lit (.int .u8 3), .lit (.int .u8 30), .lit (.int .u8 22), .lit (.int .u8 20), .lit (.int .u8 15), .lit (.int .u8 25), .lit (.int .u8 17), .lit (.int .u8 4), .lit (.int .u8 8), .lit (.int .u8 31), .lit (.int .u8 27), .lit (.int .u8 13), .lit (.int .u8 23), .lit (.int .u8 21), .lit (.int .u8 19), .lit (.int .u8 16), .lit (.int .u8 7), .lit (.int .u8 26), .lit (.int .u8 12), .lit (.int .u8 18), .lit (.int .u8 6), .lit (.int .u8 11), .lit (.int .u8 5), .lit (.int .u8 10), .lit (.int .u8 9)]
def laid_math_bits_deBruijn64tab {H : Type} : DataW H := .agg [.lit (.int .u8 0), .lit (.int .u8 1), .lit (.int .u8 56), .lit (.int .u8 2), .lit (.int .u8 57), .lit (.int .u8 49), .lit (.int .u8 28), .lit (.int .u8 3), .lit (.int .u8 61), .lit (.int .u8 58), .lit (.int .u8 42), .lit (.int .u8 50), .lit (.int .u8 38), .lit (.int .u8 29), .lit (.int .u8 17), .lit (.int .u8 4), .lit (.int .u8 62), .lit (.int .u8 47), .lit (.int .u8 59), .lit (.int .u8 36), .lit (.int .u8 45), .lit (.int .u8 43), .lit (.int .u8 51), .lit (.int .u8 22), .lit (.int .u8 53), .lit (.int .u8 39), .lit (.int .u8 33), .lit (.int .u8 30), .lit (.int .u8 24), .lit (.int .u8 18), .lit (.int .u8 12), .lit (.int .u8 5), .lit (.int .u8 63), .lit (.int .u8 55), .lit (.int .u8 48), .lit (.int .u8 27), .lit (.int .u8 60), .lit (.int .u8 41), .lit (.int .u8 37), .lit (.int .u8 16), .lit (.int .u8 46), .lit (.int .u8 35), .lit (.int .u8 44), .lit (.int .u8 21), .lit (.int .u8 52), .lit (.int .u8 32), .lit (.int .u8 23), .lit (.int .u8 11), .lit (.int .u8 54), .lit (.int .u8 26), .lit (.int .u8 40), .lit (.int .u8 15), .lit (.int .u8 34), .lit (.int .u8 20), .lit (.int .u8 31), .lit (.int .u8 10), .lit (.int .u8 25), .lit (.int .u8 14), .lit (.int .u8 19), .lit (.int .u8 9), .lit (.int .u8 13), .lit (.int .u8 8), .lit (.int .u8 7), .lit (.int .u8 6)]
def laid_internal_strconv_uint64pow10 {H : Type} : DataW H := .agg [.lit (.int .u64 1), .lit (.int .u64 10), .lit (.int .u64 100), .lit (.int .u64 1000), .lit (.int .u64 10000), .lit (.int .u64 100000), .lit (.int .u64 1000000), .lit (.int .u64 10000000), .lit (.int .u64 100000000), .lit (.int .u64 1000000000), .lit (.int .u64 10000000000), .lit (.int .u64 100000000000), .lit (.int .u64 1000000000000), .lit (.int .u64 10000000000000), .lit (.int .u64 100000000000000), .lit (.int .u64 1000000000000000), .lit (.int .u64 10000000000000000), .lit (.int .u64 100000000000000000), .lit (.int .u64 1000000000000000000), .lit (.int .u64 10000000000000000000)]

/-- 'racelaw3.DatumKinds': WHATEVER THE INPUT: true; the input reads as it did. -/
def datumKindsSpec : ChangeSpec := { name := "datumKinds", fn := fun _ => fun
  | [d1, d2, d3] => { results := [.lit (.bool true)], args := [d1, d2, d3] }
  | _ => none }
def datumKindsRow : OpenClaim := { program := "ytecgjhjglklcnaadoor", sum := "a384f503e1a59573e61823e2ff1eddf010a79b8a00751b097ce65acdf90c245b", func := "headrace/racelaw3.DatumKinds", spec := "datumKinds", inPlace := ["math.Float64frombits", "math.Float64bits"], named := ["math/bits.deBruijn64tab", "internal/strconv.uint64pow10", "math/bits.deBruijn32tab"], apart := false, laid := [("math/bits.deBruijn32tab", laid_math_bits_deBruijn32tab), ("math/bits.deBruijn64tab", laid_math_bits_deBruijn64tab), ("internal/strconv.uint64pow10", laid_internal_strconv_uint64pow10)] }
def DatumKindsSaid : Prop := datumKindsRow.holds Tryd.pinned (OpenSpec.ofChange datumKindsSpec)

/-- ITS FALSE NEIGHBOUR: 'it returns false'. Refute it at one input. -/
def datumKindsWrong : ChangeSpec := { name := "datumKinds", fn := fun _ => fun
  | [d1, d2, d3] => { results := [.lit (.bool false)], args := [d1, d2, d3] }
  | _ => none }
def DatumKindsWrongFalsely : Prop := datumKindsRow.holds Tryd.pinned (OpenSpec.ofChange datumKindsWrong)

/-- 'racelaw3.DatumTexts': WHATEVER THE INPUT: true; the input reads as it did. -/
def datumTextsSpec : ChangeSpec := { name := "datumTexts", fn := fun _ => fun
  | [d1, d2] => { results := [.lit (.bool true)], args := [d1, d2] }
  | _ => none }
def datumTextsRow : OpenClaim := { program := "ytecgjhjglklcnaadoor", sum := "a384f503e1a59573e61823e2ff1eddf010a79b8a00751b097ce65acdf90c245b", func := "headrace/racelaw3.DatumTexts", spec := "datumTexts", inPlace := ["math.Float64frombits", "math.Float64bits"], named := ["math/bits.deBruijn64tab", "internal/strconv.uint64pow10", "math/bits.deBruijn32tab"], apart := false, laid := [("math/bits.deBruijn32tab", laid_math_bits_deBruijn32tab), ("math/bits.deBruijn64tab", laid_math_bits_deBruijn64tab), ("internal/strconv.uint64pow10", laid_internal_strconv_uint64pow10)] }
def DatumTextsSaid : Prop := datumTextsRow.holds Tryd.pinned (OpenSpec.ofChange datumTextsSpec)

/-- ITS FALSE NEIGHBOUR: 'it returns false'. Refute it at one input. -/
def datumTextsWrong : ChangeSpec := { name := "datumTexts", fn := fun _ => fun
  | [d1, d2] => { results := [.lit (.bool false)], args := [d1, d2] }
  | _ => none }
def DatumTextsWrongFalsely : Prop := datumTextsRow.holds Tryd.pinned (OpenSpec.ofChange datumTextsWrong)

/-- 'racelaw3.DatumQuotes': WHATEVER THE INPUT: true; the input reads as it did. -/
def datumQuotesSpec : ChangeSpec := { name := "datumQuotes", fn := fun _ => fun
  | [d1, d2] => { results := [.lit (.bool true)], args := [d1, d2] }
  | _ => none }
def datumQuotesRow : OpenClaim := { program := "ytecgjhjglklcnaadoor", sum := "a384f503e1a59573e61823e2ff1eddf010a79b8a00751b097ce65acdf90c245b", func := "headrace/racelaw3.DatumQuotes", spec := "datumQuotes", inPlace := ["math.Float64frombits", "math.Float64bits"], named := ["math/bits.deBruijn64tab", "internal/strconv.uint64pow10", "math/bits.deBruijn32tab"], apart := false, laid := [("math/bits.deBruijn32tab", laid_math_bits_deBruijn32tab), ("math/bits.deBruijn64tab", laid_math_bits_deBruijn64tab), ("internal/strconv.uint64pow10", laid_internal_strconv_uint64pow10)] }
def DatumQuotesSaid : Prop := datumQuotesRow.holds Tryd.pinned (OpenSpec.ofChange datumQuotesSpec)

/-- ITS FALSE NEIGHBOUR: 'it returns false'. Refute it at one input. -/
def datumQuotesWrong : ChangeSpec := { name := "datumQuotes", fn := fun _ => fun
  | [d1, d2] => { results := [.lit (.bool false)], args := [d1, d2] }
  | _ => none }
def DatumQuotesWrongFalsely : Prop := datumQuotesRow.holds Tryd.pinned (OpenSpec.ofChange datumQuotesWrong)

/-- 'racelaw3.DatumAdds': WHATEVER THE INPUT: true; the input reads as it did. -/
def datumAddsSpec : ChangeSpec := { name := "datumAdds", fn := fun _ => fun
  | [d1, d2] => { results := [.lit (.bool true)], args := [d1, d2] }
  | _ => none }
def datumAddsRow : OpenClaim := { program := "ytecgjhjglklcnaadoor", sum := "a384f503e1a59573e61823e2ff1eddf010a79b8a00751b097ce65acdf90c245b", func := "headrace/racelaw3.DatumAdds", spec := "datumAdds", inPlace := ["math.Float64frombits", "math.Float64bits"], named := ["math/bits.deBruijn64tab", "internal/strconv.uint64pow10", "math/bits.deBruijn32tab"], apart := false, laid := [("math/bits.deBruijn32tab", laid_math_bits_deBruijn32tab), ("math/bits.deBruijn64tab", laid_math_bits_deBruijn64tab), ("internal/strconv.uint64pow10", laid_internal_strconv_uint64pow10)] }
def DatumAddsSaid : Prop := datumAddsRow.holds Tryd.pinned (OpenSpec.ofChange datumAddsSpec)

/-- ITS FALSE NEIGHBOUR: 'it returns false'. Refute it at one input. -/
def datumAddsWrong : ChangeSpec := { name := "datumAdds", fn := fun _ => fun
  | [d1, d2] => { results := [.lit (.bool false)], args := [d1, d2] }
  | _ => none }
def DatumAddsWrongFalsely : Prop := datumAddsRow.holds Tryd.pinned (OpenSpec.ofChange datumAddsWrong)

/-- 'racelaw3.DatumCompares': WHATEVER THE INPUT: true; the input reads as it did. -/
def datumComparesSpec : ChangeSpec := { name := "datumCompares", fn := fun _ => fun
  | [d1, d2] => { results := [.lit (.bool true)], args := [d1, d2] }
  | _ => none }
def datumComparesRow : OpenClaim := { program := "ytecgjhjglklcnaadoor", sum := "a384f503e1a59573e61823e2ff1eddf010a79b8a00751b097ce65acdf90c245b", func := "headrace/racelaw3.DatumCompares", spec := "datumCompares", inPlace := ["math.Float64frombits", "math.Float64bits"], named := ["math/bits.deBruijn64tab", "internal/strconv.uint64pow10", "math/bits.deBruijn32tab"], apart := false, laid := [("math/bits.deBruijn32tab", laid_math_bits_deBruijn32tab), ("math/bits.deBruijn64tab", laid_math_bits_deBruijn64tab), ("internal/strconv.uint64pow10", laid_internal_strconv_uint64pow10)] }
def DatumComparesSaid : Prop := datumComparesRow.holds Tryd.pinned (OpenSpec.ofChange datumComparesSpec)

/-- ITS FALSE NEIGHBOUR: 'it returns false'. Refute it at one input. -/
def datumComparesWrong : ChangeSpec := { name := "datumCompares", fn := fun _ => fun
  | [d1, d2] => { results := [.lit (.bool false)], args := [d1, d2] }
  | _ => none }
def DatumComparesWrongFalsely : Prop := datumComparesRow.holds Tryd.pinned (OpenSpec.ofChange datumComparesWrong)

/-- 'racelaw3.DatumOrder': WHATEVER THE INPUT: true; the input reads as it did. -/
def datumOrderSpec : ChangeSpec := { name := "datumOrder", fn := fun _ => fun
  | [d1, d2, d3] => { results := [.lit (.bool true)], args := [d1, d2, d3] }
  | _ => none }
def datumOrderRow : OpenClaim := { program := "ytecgjhjglklcnaadoor", sum := "a384f503e1a59573e61823e2ff1eddf010a79b8a00751b097ce65acdf90c245b", func := "headrace/racelaw3.DatumOrder", spec := "datumOrder", inPlace := ["math.Float64frombits", "math.Float64bits"], named := ["math/bits.deBruijn64tab", "internal/strconv.uint64pow10", "math/bits.deBruijn32tab"], apart := false, laid := [("math/bits.deBruijn32tab", laid_math_bits_deBruijn32tab), ("math/bits.deBruijn64tab", laid_math_bits_deBruijn64tab), ("internal/strconv.uint64pow10", laid_internal_strconv_uint64pow10)] }
def DatumOrderSaid : Prop := datumOrderRow.holds Tryd.pinned (OpenSpec.ofChange datumOrderSpec)

/-- ITS FALSE NEIGHBOUR: 'it returns false'. Refute it at one input. -/
def datumOrderWrong : ChangeSpec := { name := "datumOrder", fn := fun _ => fun
  | [d1, d2, d3] => { results := [.lit (.bool false)], args := [d1, d2, d3] }
  | _ => none }
def DatumOrderWrongFalsely : Prop := datumOrderRow.holds Tryd.pinned (OpenSpec.ofChange datumOrderWrong)

/-- 'racelaw3.DatumBytes': WHATEVER THE INPUT: true; the input reads as it did. -/
def datumBytesSpec : ChangeSpec := { name := "datumBytes", fn := fun _ => fun
  | [d1, d2] => { results := [.lit (.bool true)], args := [d1, d2] }
  | _ => none }
def datumBytesRow : OpenClaim := { program := "ytecgjhjglklcnaadoor", sum := "a384f503e1a59573e61823e2ff1eddf010a79b8a00751b097ce65acdf90c245b", func := "headrace/racelaw3.DatumBytes", spec := "datumBytes", inPlace := ["math.Float64frombits", "math.Float64bits"], named := ["math/bits.deBruijn64tab", "internal/strconv.uint64pow10", "math/bits.deBruijn32tab"], apart := false, laid := [("math/bits.deBruijn32tab", laid_math_bits_deBruijn32tab), ("math/bits.deBruijn64tab", laid_math_bits_deBruijn64tab), ("internal/strconv.uint64pow10", laid_internal_strconv_uint64pow10)] }
def DatumBytesSaid : Prop := datumBytesRow.holds Tryd.pinned (OpenSpec.ofChange datumBytesSpec)

/-- ITS FALSE NEIGHBOUR: 'it returns false'. Refute it at one input. -/
def datumBytesWrong : ChangeSpec := { name := "datumBytes", fn := fun _ => fun
  | [d1, d2] => { results := [.lit (.bool false)], args := [d1, d2] }
  | _ => none }
def DatumBytesWrongFalsely : Prop := datumBytesRow.holds Tryd.pinned (OpenSpec.ofChange datumBytesWrong)

/-- 'racelaw3.DatumBack': WHATEVER THE INPUT: true; the input reads as it did. -/
def datumBackSpec : ChangeSpec := { name := "datumBack", fn := fun _ => fun
  | [d1, d2] => { results := [.lit (.bool true)], args := [d1, d2] }
  | _ => none }
def datumBackRow : OpenClaim := { program := "ytecgjhjglklcnaadoor", sum := "a384f503e1a59573e61823e2ff1eddf010a79b8a00751b097ce65acdf90c245b", func := "headrace/racelaw3.DatumBack", spec := "datumBack", inPlace := ["math.Float64frombits", "math.Float64bits"], named := ["math/bits.deBruijn64tab", "internal/strconv.uint64pow10", "math/bits.deBruijn32tab"], apart := false, laid := [("math/bits.deBruijn32tab", laid_math_bits_deBruijn32tab), ("math/bits.deBruijn64tab", laid_math_bits_deBruijn64tab), ("internal/strconv.uint64pow10", laid_internal_strconv_uint64pow10)] }
def DatumBackSaid : Prop := datumBackRow.holds Tryd.pinned (OpenSpec.ofChange datumBackSpec)

/-- ITS FALSE NEIGHBOUR: 'it returns false'. Refute it at one input. -/
def datumBackWrong : ChangeSpec := { name := "datumBack", fn := fun _ => fun
  | [d1, d2] => { results := [.lit (.bool false)], args := [d1, d2] }
  | _ => none }
def DatumBackWrongFalsely : Prop := datumBackRow.holds Tryd.pinned (OpenSpec.ofChange datumBackWrong)

/- THE SECOND FORM. 'bulk': how many values and letters a reading holds, each counted each time it is reached (what is shared counts as often as it is met; a slice's spare places count too). A statement '..UptoSaid' is the law's where the arguments, and the package variables that the reading takes, are together of bulk at most 1048576: NARROWER than '..Said'. Prove '..Said' where nothing that the law and all that it calls make is longer than what came in: it says more and counts as full. Else prove '..UptoSaid'. A law counts once. -/
mutual
def uptoBulk {H : Type} : DataW H → Nat
  | .lit (.string bytes) => bytes.length + 1
  | .lit _ => 1
  | .nil => 1
  | .ptr d => uptoBulk d + 1
  | .slice elems spare => uptoBulkAll elems + uptoBulkAll spare + 1
  | .agg parts => uptoBulkAll parts + 1
  | .iface _ d => uptoBulk d + 1
  | .map entries => uptoBulkEntries entries + 1
  | .held _ => 1
def uptoBulkAll {H : Type} : List (DataW H) → Nat
  | [] => 0
  | d :: r => uptoBulk d + uptoBulkAll r
def uptoBulkEntries {H : Type} : List (Lit × DataW H) → Nat
  | [] => 0
  | x :: r => uptoBulkEntry x + uptoBulkEntries r
def uptoBulkEntry {H : Type} : Lit × DataW H → Nat
  | (.string bytes, d) => bytes.length + uptoBulk d + 1
  | (_, d) => uptoBulk d + 1
 end
def uptoSmall : (H : Type) → List (DataW H) → Bool := fun _ ds => decide (uptoBulkAll ds ≤ 1048576)
def OpenSpec.upto (s : _root_.Go.ChangeSpec) : _root_.Go.OpenSpec := { _root_.Go.OpenSpec.ofChange s with cond := some uptoSmall }

/-- 'racelaw3.DatumKinds', WHERE WHAT IT READS IS OF BULK AT MOST 1048576: true; the input reads as it did. -/
def datumKindsUptoRow : OpenClaim := { program := "ytecgjhjglklcnaadoor", sum := "a384f503e1a59573e61823e2ff1eddf010a79b8a00751b097ce65acdf90c245b", func := "headrace/racelaw3.DatumKinds", spec := "datumKinds", inPlace := ["math.Float64frombits", "math.Float64bits"], named := ["math/bits.deBruijn64tab", "internal/strconv.uint64pow10", "math/bits.deBruijn32tab"], apart := false, laid := [("math/bits.deBruijn32tab", laid_math_bits_deBruijn32tab), ("math/bits.deBruijn64tab", laid_math_bits_deBruijn64tab), ("internal/strconv.uint64pow10", laid_internal_strconv_uint64pow10)], narrowed := true }
def DatumKindsUptoSaid : Prop := datumKindsUptoRow.holds Tryd.pinned (OpenSpec.upto datumKindsSpec)

/-- 'racelaw3.DatumTexts', WHERE WHAT IT READS IS OF BULK AT MOST 1048576: true; the input reads as it did. -/
def datumTextsUptoRow : OpenClaim := { program := "ytecgjhjglklcnaadoor", sum := "a384f503e1a59573e61823e2ff1eddf010a79b8a00751b097ce65acdf90c245b", func := "headrace/racelaw3.DatumTexts", spec := "datumTexts", inPlace := ["math.Float64frombits", "math.Float64bits"], named := ["math/bits.deBruijn64tab", "internal/strconv.uint64pow10", "math/bits.deBruijn32tab"], apart := false, laid := [("math/bits.deBruijn32tab", laid_math_bits_deBruijn32tab), ("math/bits.deBruijn64tab", laid_math_bits_deBruijn64tab), ("internal/strconv.uint64pow10", laid_internal_strconv_uint64pow10)], narrowed := true }
def DatumTextsUptoSaid : Prop := datumTextsUptoRow.holds Tryd.pinned (OpenSpec.upto datumTextsSpec)

/-- 'racelaw3.DatumQuotes', WHERE WHAT IT READS IS OF BULK AT MOST 1048576: true; the input reads as it did. -/
def datumQuotesUptoRow : OpenClaim := { program := "ytecgjhjglklcnaadoor", sum := "a384f503e1a59573e61823e2ff1eddf010a79b8a00751b097ce65acdf90c245b", func := "headrace/racelaw3.DatumQuotes", spec := "datumQuotes", inPlace := ["math.Float64frombits", "math.Float64bits"], named := ["math/bits.deBruijn64tab", "internal/strconv.uint64pow10", "math/bits.deBruijn32tab"], apart := false, laid := [("math/bits.deBruijn32tab", laid_math_bits_deBruijn32tab), ("math/bits.deBruijn64tab", laid_math_bits_deBruijn64tab), ("internal/strconv.uint64pow10", laid_internal_strconv_uint64pow10)], narrowed := true }
def DatumQuotesUptoSaid : Prop := datumQuotesUptoRow.holds Tryd.pinned (OpenSpec.upto datumQuotesSpec)

/-- 'racelaw3.DatumAdds', WHERE WHAT IT READS IS OF BULK AT MOST 1048576: true; the input reads as it did. -/
def datumAddsUptoRow : OpenClaim := { program := "ytecgjhjglklcnaadoor", sum := "a384f503e1a59573e61823e2ff1eddf010a79b8a00751b097ce65acdf90c245b", func := "headrace/racelaw3.DatumAdds", spec := "datumAdds", inPlace := ["math.Float64frombits", "math.Float64bits"], named := ["math/bits.deBruijn64tab", "internal/strconv.uint64pow10", "math/bits.deBruijn32tab"], apart := false, laid := [("math/bits.deBruijn32tab", laid_math_bits_deBruijn32tab), ("math/bits.deBruijn64tab", laid_math_bits_deBruijn64tab), ("internal/strconv.uint64pow10", laid_internal_strconv_uint64pow10)], narrowed := true }
def DatumAddsUptoSaid : Prop := datumAddsUptoRow.holds Tryd.pinned (OpenSpec.upto datumAddsSpec)

/-- 'racelaw3.DatumCompares', WHERE WHAT IT READS IS OF BULK AT MOST 1048576: true; the input reads as it did. -/
def datumComparesUptoRow : OpenClaim := { program := "ytecgjhjglklcnaadoor", sum := "a384f503e1a59573e61823e2ff1eddf010a79b8a00751b097ce65acdf90c245b", func := "headrace/racelaw3.DatumCompares", spec := "datumCompares", inPlace := ["math.Float64frombits", "math.Float64bits"], named := ["math/bits.deBruijn64tab", "internal/strconv.uint64pow10", "math/bits.deBruijn32tab"], apart := false, laid := [("math/bits.deBruijn32tab", laid_math_bits_deBruijn32tab), ("math/bits.deBruijn64tab", laid_math_bits_deBruijn64tab), ("internal/strconv.uint64pow10", laid_internal_strconv_uint64pow10)], narrowed := true }
def DatumComparesUptoSaid : Prop := datumComparesUptoRow.holds Tryd.pinned (OpenSpec.upto datumComparesSpec)

/-- 'racelaw3.DatumOrder', WHERE WHAT IT READS IS OF BULK AT MOST 1048576: true; the input reads as it did. -/
def datumOrderUptoRow : OpenClaim := { program := "ytecgjhjglklcnaadoor", sum := "a384f503e1a59573e61823e2ff1eddf010a79b8a00751b097ce65acdf90c245b", func := "headrace/racelaw3.DatumOrder", spec := "datumOrder", inPlace := ["math.Float64frombits", "math.Float64bits"], named := ["math/bits.deBruijn64tab", "internal/strconv.uint64pow10", "math/bits.deBruijn32tab"], apart := false, laid := [("math/bits.deBruijn32tab", laid_math_bits_deBruijn32tab), ("math/bits.deBruijn64tab", laid_math_bits_deBruijn64tab), ("internal/strconv.uint64pow10", laid_internal_strconv_uint64pow10)], narrowed := true }
def DatumOrderUptoSaid : Prop := datumOrderUptoRow.holds Tryd.pinned (OpenSpec.upto datumOrderSpec)

/-- 'racelaw3.DatumBytes', WHERE WHAT IT READS IS OF BULK AT MOST 1048576: true; the input reads as it did. -/
def datumBytesUptoRow : OpenClaim := { program := "ytecgjhjglklcnaadoor", sum := "a384f503e1a59573e61823e2ff1eddf010a79b8a00751b097ce65acdf90c245b", func := "headrace/racelaw3.DatumBytes", spec := "datumBytes", inPlace := ["math.Float64frombits", "math.Float64bits"], named := ["math/bits.deBruijn64tab", "internal/strconv.uint64pow10", "math/bits.deBruijn32tab"], apart := false, laid := [("math/bits.deBruijn32tab", laid_math_bits_deBruijn32tab), ("math/bits.deBruijn64tab", laid_math_bits_deBruijn64tab), ("internal/strconv.uint64pow10", laid_internal_strconv_uint64pow10)], narrowed := true }
def DatumBytesUptoSaid : Prop := datumBytesUptoRow.holds Tryd.pinned (OpenSpec.upto datumBytesSpec)

/-- 'racelaw3.DatumBack', WHERE WHAT IT READS IS OF BULK AT MOST 1048576: true; the input reads as it did. -/
def datumBackUptoRow : OpenClaim := { program := "ytecgjhjglklcnaadoor", sum := "a384f503e1a59573e61823e2ff1eddf010a79b8a00751b097ce65acdf90c245b", func := "headrace/racelaw3.DatumBack", spec := "datumBack", inPlace := ["math.Float64frombits", "math.Float64bits"], named := ["math/bits.deBruijn64tab", "internal/strconv.uint64pow10", "math/bits.deBruijn32tab"], apart := false, laid := [("math/bits.deBruijn32tab", laid_math_bits_deBruijn32tab), ("math/bits.deBruijn64tab", laid_math_bits_deBruijn64tab), ("internal/strconv.uint64pow10", laid_internal_strconv_uint64pow10)], narrowed := true }
def DatumBackUptoSaid : Prop := datumBackUptoRow.holds Tryd.pinned (OpenSpec.upto datumBackSpec)

end Rows
end Go.Proofs.YtecgjhjglklcnaaDoor
