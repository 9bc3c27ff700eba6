/-
  No cell of these rows narrows 'for every input' (looked for: loops, veiled, ifaces, maps, wideKeys, modest, calm, conditions, laid).
  DERIVED. THE GIVEN ROWS OF THIS SEAT. 6 by the template 'for every input the law returns true; each argument reads behind the call as it read before'; 0 by the template 'total and deterministic' (their statements: YtjjcilinghgphaaTotals.lean).
  GIVEN WITH THE SEED: the statements are not yours to turn. If you find one false, say at which input.
  Laid BY PROGRAM, IN A SANDBOX (cutbox-rows.mjs): the forced cells as the released guide's own fill.sh prints them over the translation 8a4ef2f246c4aa7e… (all of the seat's roots in one cut). By AI agents, Wed Nov 11 2026. No macro, syntax, notation, axiom, sorry.
-/
import Derived.Test.YtjjcilinghgphaaChecked
import GoSem.Claim
import GoSem.ClaimJoined
import GoSem.ClaimMapViews
import Derived.JoinedTies
import Derived.KernelRfl
namespace Go.Proofs.Ytjjcilinghgphaa
/- THE CELL 'sum', in the pinned program and in every row, IS THE sha256 OF THE DUMP (.gsa) THAT YtjjcilinghgphaaProg.lean LOADS. Nothing in Lean hashes anything: it is a label: what it is worth is what the hold of that sum in a sandbox is worth. -/
noncomputable def Try.pinned : Pinned := { name := "ytjjcilinghgphaa", sum := "8a4ef2f246c4aa7ee7e1ebd1c3f3bbfd937291a40f577dec8aff949103f4aa5e", checked := Try.checked }
namespace Rows
def none {H : Type} : Left H := { results := [], args := [] }

/-- 'racelaw7.WalNames': WHATEVER THE INPUT: true; the input reads as it did. -/
def walNamesSpec : ChangeSpec := { name := "walNames", fn := fun _ => fun
  | [d1, d2] => { results := [.lit (.bool true)], args := [d1, d2] }
  | _ => none }
def walNamesRow : OpenClaim := { program := "ytjjcilinghgphaa", sum := "8a4ef2f246c4aa7ee7e1ebd1c3f3bbfd937291a40f577dec8aff949103f4aa5e", func := "headrace/racelaw7.WalNames", spec := "walNames", unfollowed := true, recurses := true, apart := false }
def WalNamesSaid : Prop := walNamesRow.holds Try.pinned (OpenSpec.ofChange walNamesSpec)

/-- ITS FALSE NEIGHBOUR: 'it returns false'. Refute it at one input. -/
def walNamesWrong : ChangeSpec := { name := "walNames", fn := fun _ => fun
  | [d1, d2] => { results := [.lit (.bool false)], args := [d1, d2] }
  | _ => none }
def WalNamesWrongFalsely : Prop := walNamesRow.holds Try.pinned (OpenSpec.ofChange walNamesWrong)

/-- 'racelaw7.WalTells': WHATEVER THE INPUT: true; the input reads as it did. -/
def walTellsSpec : ChangeSpec := { name := "walTells", fn := fun _ => fun
  | [d1, d2, d3, d4] => { results := [.lit (.bool true)], args := [d1, d2, d3, d4] }
  | _ => none }
def walTellsRow : OpenClaim := { program := "ytjjcilinghgphaa", sum := "8a4ef2f246c4aa7ee7e1ebd1c3f3bbfd937291a40f577dec8aff949103f4aa5e", func := "headrace/racelaw7.WalTells", spec := "walTells", unfollowed := true, recurses := true, apart := false }
def WalTellsSaid : Prop := walTellsRow.holds Try.pinned (OpenSpec.ofChange walTellsSpec)

/-- ITS FALSE NEIGHBOUR: 'it returns false'. Refute it at one input. -/
def walTellsWrong : ChangeSpec := { name := "walTells", fn := fun _ => fun
  | [d1, d2, d3, d4] => { results := [.lit (.bool false)], args := [d1, d2, d3, d4] }
  | _ => none }
def WalTellsWrongFalsely : Prop := walTellsRow.holds Try.pinned (OpenSpec.ofChange walTellsWrong)

/-- 'racelaw7.WalFiles': WHATEVER THE INPUT: true; the input reads as it did. -/
def walFilesSpec : ChangeSpec := { name := "walFiles", fn := fun _ => fun
  | [d1, d2] => { results := [.lit (.bool true)], args := [d1, d2] }
  | _ => none }
def walFilesRow : OpenClaim := { program := "ytjjcilinghgphaa", sum := "8a4ef2f246c4aa7ee7e1ebd1c3f3bbfd937291a40f577dec8aff949103f4aa5e", func := "headrace/racelaw7.WalFiles", spec := "walFiles", unfollowed := true, recurses := true, apart := false }
def WalFilesSaid : Prop := walFilesRow.holds Try.pinned (OpenSpec.ofChange walFilesSpec)

/-- ITS FALSE NEIGHBOUR: 'it returns false'. Refute it at one input. -/
def walFilesWrong : ChangeSpec := { name := "walFiles", fn := fun _ => fun
  | [d1, d2] => { results := [.lit (.bool false)], args := [d1, d2] }
  | _ => none }
def WalFilesWrongFalsely : Prop := walFilesRow.holds Try.pinned (OpenSpec.ofChange walFilesWrong)

/-- 'racelaw7.WalTrims': WHATEVER THE INPUT: true; the input reads as it did. -/
def walTrimsSpec : ChangeSpec := { name := "walTrims", fn := fun _ => fun
  | [d1, d2, d3] => { results := [.lit (.bool true)], args := [d1, d2, d3] }
  | _ => none }
def walTrimsRow : OpenClaim := { program := "ytjjcilinghgphaa", sum := "8a4ef2f246c4aa7ee7e1ebd1c3f3bbfd937291a40f577dec8aff949103f4aa5e", func := "headrace/racelaw7.WalTrims", spec := "walTrims", unfollowed := true, recurses := true, apart := false }
def WalTrimsSaid : Prop := walTrimsRow.holds Try.pinned (OpenSpec.ofChange walTrimsSpec)

/-- ITS FALSE NEIGHBOUR: 'it returns false'. Refute it at one input. -/
def walTrimsWrong : ChangeSpec := { name := "walTrims", fn := fun _ => fun
  | [d1, d2, d3] => { results := [.lit (.bool false)], args := [d1, d2, d3] }
  | _ => none }
def WalTrimsWrongFalsely : Prop := walTrimsRow.holds Try.pinned (OpenSpec.ofChange walTrimsWrong)

/-- 'racelaw7.WalAgain': WHATEVER THE INPUT: true; the input reads as it did. -/
def walAgainSpec : ChangeSpec := { name := "walAgain", fn := fun _ => fun
  | [d1, d2] => { results := [.lit (.bool true)], args := [d1, d2] }
  | _ => none }
def walAgainRow : OpenClaim := { program := "ytjjcilinghgphaa", sum := "8a4ef2f246c4aa7ee7e1ebd1c3f3bbfd937291a40f577dec8aff949103f4aa5e", func := "headrace/racelaw7.WalAgain", spec := "walAgain", unfollowed := true, recurses := true, apart := false }
def WalAgainSaid : Prop := walAgainRow.holds Try.pinned (OpenSpec.ofChange walAgainSpec)

/-- ITS FALSE NEIGHBOUR: 'it returns false'. Refute it at one input. -/
def walAgainWrong : ChangeSpec := { name := "walAgain", fn := fun _ => fun
  | [d1, d2] => { results := [.lit (.bool false)], args := [d1, d2] }
  | _ => none }
def WalAgainWrongFalsely : Prop := walAgainRow.holds Try.pinned (OpenSpec.ofChange walAgainWrong)

/-- 'racelaw7.WalKeeps': WHATEVER THE INPUT: true; the input reads as it did. -/
def walKeepsSpec : ChangeSpec := { name := "walKeeps", fn := fun _ => fun
  | [d1, d2] => { results := [.lit (.bool true)], args := [d1, d2] }
  | _ => none }
def walKeepsRow : OpenClaim := { program := "ytjjcilinghgphaa", sum := "8a4ef2f246c4aa7ee7e1ebd1c3f3bbfd937291a40f577dec8aff949103f4aa5e", func := "headrace/racelaw7.WalKeeps", spec := "walKeeps", unfollowed := true, recurses := true, apart := false }
def WalKeepsSaid : Prop := walKeepsRow.holds Try.pinned (OpenSpec.ofChange walKeepsSpec)

/-- ITS FALSE NEIGHBOUR: 'it returns false'. Refute it at one input. -/
def walKeepsWrong : ChangeSpec := { name := "walKeeps", fn := fun _ => fun
  | [d1, d2] => { results := [.lit (.bool false)], args := [d1, d2] }
  | _ => none }
def WalKeepsWrongFalsely : Prop := walKeepsRow.holds Try.pinned (OpenSpec.ofChange walKeepsWrong)

/- THE SECOND FORM. 'bulk': how many values and letters a reading holds, each counted each time it is reached (what is shared counts as often as it is met; a slice's spare places count too). A statement '..UptoSaid' is the law's where the arguments, and the package variables that the reading takes, are together of bulk at most 1048576: NARROWER than '..Said'. Prove '..Said' where nothing that the law and all that it calls make is longer than what came in: it says more and counts as full. Else prove '..UptoSaid'. A law counts once. -/
mutual
def uptoBulk {H : Type} : DataW H → Nat
  | .lit (.string bytes) => bytes.length + 1
  | .lit _ => 1
  | .nil => 1
  | .ptr d => uptoBulk d + 1
  | .slice elems spare => uptoBulkAll elems + uptoBulkAll spare + 1
  | .agg parts => uptoBulkAll parts + 1
  | .iface _ d => uptoBulk d + 1
  | .map entries => uptoBulkEntries entries + 1
  | .held _ => 1
def uptoBulkAll {H : Type} : List (DataW H) → Nat
  | [] => 0
  | d :: r => uptoBulk d + uptoBulkAll r
def uptoBulkEntries {H : Type} : List (Lit × DataW H) → Nat
  | [] => 0
  | x :: r => uptoBulkEntry x + uptoBulkEntries r
def uptoBulkEntry {H : Type} : Lit × DataW H → Nat
  | (.string bytes, d) => bytes.length + uptoBulk d + 1
  | (_, d) => uptoBulk d + 1
 end
def uptoSmall : (H : Type) → List (DataW H) → Bool := fun _ ds => decide (uptoBulkAll ds ≤ 1048576)
def OpenSpec.upto (s : _root_.Go.ChangeSpec) : _root_.Go.OpenSpec := { _root_.Go.OpenSpec.ofChange s with cond := some uptoSmall }

/-- 'racelaw7.WalNames', WHERE WHAT IT READS IS OF BULK AT MOST 1048576: true; the input reads as it did. -/
def walNamesUptoRow : OpenClaim := { program := "ytjjcilinghgphaa", sum := "8a4ef2f246c4aa7ee7e1ebd1c3f3bbfd937291a40f577dec8aff949103f4aa5e", func := "headrace/racelaw7.WalNames", spec := "walNames", unfollowed := true, recurses := true, apart := false, narrowed := true }
def WalNamesUptoSaid : Prop := walNamesUptoRow.holds Try.pinned (OpenSpec.upto walNamesSpec)

/-- 'racelaw7.WalTells', WHERE WHAT IT READS IS OF BULK AT MOST 1048576: true; the input reads as it did. -/
def walTellsUptoRow : OpenClaim := { program := "ytjjcilinghgphaa", sum := "8a4ef2f246c4aa7ee7e1ebd1c3f3bbfd937291a40f577dec8aff949103f4aa5e", func := "headrace/racelaw7.WalTells", spec := "walTells", unfollowed := true, recurses := true, apart := false, narrowed := true }
def WalTellsUptoSaid : Prop := walTellsUptoRow.holds Try.pinned (OpenSpec.upto walTellsSpec)

/-- 'racelaw7.WalFiles', WHERE WHAT IT READS IS OF BULK AT MOST 1048576: true; the input reads as it did. -/
def walFilesUptoRow : OpenClaim := { program := "ytjjcilinghgphaa", sum := "8a4ef2f246c4aa7ee7e1ebd1c3f3bbfd937291a40f577dec8aff949103f4aa5e", func := "headrace/racelaw7.WalFiles", spec := "walFiles", unfollowed := true, recurses := true, apart := false, narrowed := true }
def WalFilesUptoSaid : Prop := walFilesUptoRow.holds Try.pinned (OpenSpec.upto walFilesSpec)

/-- 'racelaw7.WalTrims', WHERE WHAT IT READS IS OF BULK AT MOST 1048576: true; the input reads as it did. -/
def walTrimsUptoRow : OpenClaim := { program := "ytjjcilinghgphaa", sum := "8a4ef2f246c4aa7ee7e1ebd1c3f3bbfd937291a40f577dec8aff949103f4aa5e", func := "headrace/racelaw7.WalTrims", spec := "walTrims", unfollowed := true, recurses := true, apart := false, narrowed := true }
def WalTrimsUptoSaid : Prop := walTrimsUptoRow.holds Try.pinned (OpenSpec.upto walTrimsSpec)

/-- 'racelaw7.WalAgain', WHERE WHAT IT READS IS OF BULK AT MOST 1048576: true; the input reads as it did. -/
def walAgainUptoRow : OpenClaim := { program := "ytjjcilinghgphaa", sum := "8a4ef2f246c4aa7ee7e1ebd1c3f3bbfd937291a40f577dec8aff949103f4aa5e", func := "headrace/racelaw7.WalAgain", spec := "walAgain", unfollowed := true, recurses := true, apart := false, narrowed := true }
def WalAgainUptoSaid : Prop := walAgainUptoRow.holds Try.pinned (OpenSpec.upto walAgainSpec)

/-- 'racelaw7.WalKeeps', WHERE WHAT IT READS IS OF BULK AT MOST 1048576: true; the input reads as it did. -/
def walKeepsUptoRow : OpenClaim := { program := "ytjjcilinghgphaa", sum := "8a4ef2f246c4aa7ee7e1ebd1c3f3bbfd937291a40f577dec8aff949103f4aa5e", func := "headrace/racelaw7.WalKeeps", spec := "walKeeps", unfollowed := true, recurses := true, apart := false, narrowed := true }
def WalKeepsUptoSaid : Prop := walKeepsUptoRow.holds Try.pinned (OpenSpec.upto walKeepsSpec)

end Rows
end Go.Proofs.Ytjjcilinghgphaa
