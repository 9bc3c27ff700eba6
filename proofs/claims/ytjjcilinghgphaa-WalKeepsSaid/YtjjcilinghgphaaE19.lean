/-
  The walk of DiskSynced.
-/
import Derived.Test.YtjjcilinghgphaaE18
namespace Go.Proofs.Ytjjcilinghgphaa
open Go.RowKit Go.Maps Go.Sort
set_option maxRecDepth 100000
attribute [local go_sem] bs_size bs_toList

def TrueEnd (w : World) (e : Ending) (w' : World) : Prop := e = .returned (.bool true) ∧ Below w.heap.size w w'
theorem TrueEnd.mk {w w' : World} (h : Below w.heap.size w w') : TrueEnd w (.returned (.bool true)) w' := ⟨rfl, h⟩
theorem next_below {w w1 w2 : World} (h : Below w.heap.size w w1) (k : Below w1.heap.size w1 w2) : Below w.heap.size w w2 := h.trans (k.mono h.size)
end Go.Proofs.Ytjjcilinghgphaa
