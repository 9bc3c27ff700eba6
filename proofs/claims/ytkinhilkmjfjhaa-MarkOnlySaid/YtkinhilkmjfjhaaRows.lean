/-
  No cell of these rows narrows 'for every input' (looked for: loops, veiled, ifaces, maps, wideKeys, modest, calm, conditions, laid).
  DERIVED. THE GIVEN ROWS OF THIS SEAT. 3 by the template 'for every input the law returns true; each argument reads behind the call as it read before'; 0 by the template 'total and deterministic' (their statements: YtkinhilkmjfjhaaTotals.lean).
  GIVEN WITH THE SEED: the statements are not yours to turn. If you find one false, say at which input.
  Laid BY PROGRAM, IN A SANDBOX (cutbox-rows.mjs): the forced cells as the released guide's own fill.sh prints them over the translation 9f3e4d530a4e90c0… (all of the seat's roots in one cut). By AI agents, Wed Nov 11 2026. No macro, syntax, notation, axiom, sorry.
-/
import Derived.Test.YtkinhilkmjfjhaaChecked
import GoSem.Claim
import GoSem.ClaimJoined
import GoSem.ClaimMapViews
import Derived.JoinedTies
import Derived.KernelRfl
namespace Go.Proofs.Ytkinhilkmjfjhaa
/- THE CELL 'sum', in the pinned program and in every row, IS THE sha256 OF THE DUMP (.gsa) THAT YtkinhilkmjfjhaaProg.lean LOADS. Nothing in Lean hashes anything: it is a label: what it is worth is what the hold of that sum in a sandbox is worth. -/
noncomputable def Try.pinned : Pinned := { name := "ytkinhilkmjfjhaa", sum := "9f3e4d530a4e90c05dd6bbc310267a9dd0d8f5d76bc1998613327471e12f4671", checked := Try.checked }
namespace Rows
def none {H : Type} : Left H := { results := [], args := [] }

/-- 'racelaw21.MarkOnly': WHATEVER THE INPUT: true; the input reads as it did. -/
def markOnlySpec : ChangeSpec := { name := "markOnly", fn := fun _ => fun
  | [d1, d2] => { results := [.lit (.bool true)], args := [d1, d2] }
  | _ => none }
def markOnlyRow : OpenClaim := { program := "ytkinhilkmjfjhaa", sum := "9f3e4d530a4e90c05dd6bbc310267a9dd0d8f5d76bc1998613327471e12f4671", func := "headrace/racelaw21.MarkOnly", spec := "markOnly", unfollowed := true, recurses := true, apart := false }
def MarkOnlySaid : Prop := markOnlyRow.holds Try.pinned (OpenSpec.ofChange markOnlySpec)

/-- ITS FALSE NEIGHBOUR: 'it returns false'. Refute it at one input. -/
def markOnlyWrong : ChangeSpec := { name := "markOnly", fn := fun _ => fun
  | [d1, d2] => { results := [.lit (.bool false)], args := [d1, d2] }
  | _ => none }
def MarkOnlyWrongFalsely : Prop := markOnlyRow.holds Try.pinned (OpenSpec.ofChange markOnlyWrong)

/-- 'racelaw21.MarkWhole': WHATEVER THE INPUT: true; the input reads as it did. -/
def markWholeSpec : ChangeSpec := { name := "markWhole", fn := fun _ => fun
  | [d] => { results := [.lit (.bool true)], args := [d] }
  | _ => none }
def markWholeRow : OpenClaim := { program := "ytkinhilkmjfjhaa", sum := "9f3e4d530a4e90c05dd6bbc310267a9dd0d8f5d76bc1998613327471e12f4671", func := "headrace/racelaw21.MarkWhole", spec := "markWhole", unfollowed := true, recurses := true, apart := false }
def MarkWholeSaid : Prop := markWholeRow.holds Try.pinned (OpenSpec.ofChange markWholeSpec)

/-- ITS FALSE NEIGHBOUR: 'it returns false'. Refute it at one input. -/
def markWholeWrong : ChangeSpec := { name := "markWhole", fn := fun _ => fun
  | [d] => { results := [.lit (.bool false)], args := [d] }
  | _ => none }
def MarkWholeWrongFalsely : Prop := markWholeRow.holds Try.pinned (OpenSpec.ofChange markWholeWrong)

/-- 'racelaw21.MarkBytes': WHATEVER THE INPUT: true; the input reads as it did. -/
def markBytesSpec : ChangeSpec := { name := "markBytes", fn := fun _ => fun
  | [d] => { results := [.lit (.bool true)], args := [d] }
  | _ => none }
def markBytesRow : OpenClaim := { program := "ytkinhilkmjfjhaa", sum := "9f3e4d530a4e90c05dd6bbc310267a9dd0d8f5d76bc1998613327471e12f4671", func := "headrace/racelaw21.MarkBytes", spec := "markBytes", unfollowed := true, recurses := true, apart := false }
def MarkBytesSaid : Prop := markBytesRow.holds Try.pinned (OpenSpec.ofChange markBytesSpec)

/-- ITS FALSE NEIGHBOUR: 'it returns false'. Refute it at one input. -/
def markBytesWrong : ChangeSpec := { name := "markBytes", fn := fun _ => fun
  | [d] => { results := [.lit (.bool false)], args := [d] }
  | _ => none }
def MarkBytesWrongFalsely : Prop := markBytesRow.holds Try.pinned (OpenSpec.ofChange markBytesWrong)

/- THE SECOND FORM. 'bulk': how many values and letters a reading holds, each counted each time it is reached (what is shared counts as often as it is met; a slice's spare places count too). A statement '..UptoSaid' is the law's where the arguments, and the package variables that the reading takes, are together of bulk at most 1048576: NARROWER than '..Said'. Prove '..Said' where nothing that the law and all that it calls make is longer than what came in: it says more and counts as full. Else prove '..UptoSaid'. A law counts once. -/
mutual
def uptoBulk {H : Type} : DataW H → Nat
  | .lit (.string bytes) => bytes.length + 1
  | .lit _ => 1
  | .nil => 1
  | .ptr d => uptoBulk d + 1
  | .slice elems spare => uptoBulkAll elems + uptoBulkAll spare + 1
  | .agg parts => uptoBulkAll parts + 1
  | .iface _ d => uptoBulk d + 1
  | .map entries => uptoBulkEntries entries + 1
  | .held _ => 1
def uptoBulkAll {H : Type} : List (DataW H) → Nat
  | [] => 0
  | d :: r => uptoBulk d + uptoBulkAll r
def uptoBulkEntries {H : Type} : List (Lit × DataW H) → Nat
  | [] => 0
  | x :: r => uptoBulkEntry x + uptoBulkEntries r
def uptoBulkEntry {H : Type} : Lit × DataW H → Nat
  | (.string bytes, d) => bytes.length + uptoBulk d + 1
  | (_, d) => uptoBulk d + 1
 end
def uptoSmall : (H : Type) → List (DataW H) → Bool := fun _ ds => decide (uptoBulkAll ds ≤ 1048576)
def OpenSpec.upto (s : _root_.Go.ChangeSpec) : _root_.Go.OpenSpec := { _root_.Go.OpenSpec.ofChange s with cond := some uptoSmall }

/-- 'racelaw21.MarkOnly', WHERE WHAT IT READS IS OF BULK AT MOST 1048576: true; the input reads as it did. -/
def markOnlyUptoRow : OpenClaim := { program := "ytkinhilkmjfjhaa", sum := "9f3e4d530a4e90c05dd6bbc310267a9dd0d8f5d76bc1998613327471e12f4671", func := "headrace/racelaw21.MarkOnly", spec := "markOnly", unfollowed := true, recurses := true, apart := false, narrowed := true }
def MarkOnlyUptoSaid : Prop := markOnlyUptoRow.holds Try.pinned (OpenSpec.upto markOnlySpec)

/-- 'racelaw21.MarkWhole', WHERE WHAT IT READS IS OF BULK AT MOST 1048576: true; the input reads as it did. -/
def markWholeUptoRow : OpenClaim := { program := "ytkinhilkmjfjhaa", sum := "9f3e4d530a4e90c05dd6bbc310267a9dd0d8f5d76bc1998613327471e12f4671", func := "headrace/racelaw21.MarkWhole", spec := "markWhole", unfollowed := true, recurses := true, apart := false, narrowed := true }
def MarkWholeUptoSaid : Prop := markWholeUptoRow.holds Try.pinned (OpenSpec.upto markWholeSpec)

/-- 'racelaw21.MarkBytes', WHERE WHAT IT READS IS OF BULK AT MOST 1048576: true; the input reads as it did. -/
def markBytesUptoRow : OpenClaim := { program := "ytkinhilkmjfjhaa", sum := "9f3e4d530a4e90c05dd6bbc310267a9dd0d8f5d76bc1998613327471e12f4671", func := "headrace/racelaw21.MarkBytes", spec := "markBytes", unfollowed := true, recurses := true, apart := false, narrowed := true }
def MarkBytesUptoSaid : Prop := markBytesUptoRow.holds Try.pinned (OpenSpec.upto markBytesSpec)

end Rows
end Go.Proofs.Ytkinhilkmjfjhaa
