/-
 What the wire texts need of the texts on numbers and values.
-/
import Derived.Test.YtjjcilinghgphaaGreatProg
import Derived.Test.YtjjcilinghgphaaGreatRows
import Derived.Test.YtjjcilinghgphaaGreatK1
import Derived.Test.YtjjcilinghgphaaGreatK3
import Derived.Test.YtjjcilinghgphaaGreatX2
namespace Go.Proofs.YtjjcilinghgphaaGreat
set_option maxRecDepth 100000
open Go.RowKit
/-- The byte at a place. -/
def bAt (l : List UInt8) (k : Nat) : UInt8 := l.getD k 0
theorem bs_get (l : List UInt8) (k : Nat) (h : k < (bs l).size) : (bs l)[k] = bAt l k := by
 have hk : k < l.length := by rwa [bs_size] at h
 show (bs l).data[k] = _
 simp [bs, bAt, hk]
theorem bAt_mem (l : List UInt8) (k : Nat) (h : k < l.length) : bAt l k ∈ l := by simp [bAt, h]
theorem mem_bAt (l : List UInt8) (c : UInt8) (h : c ∈ l) : ∃ k, k < l.length ∧ bAt l k = c := by
 obtain ⟨k, hk, e⟩ := List.mem_iff_getElem.1 h
 exact ⟨k, hk, by simp [bAt, hk, e]⟩
theorem S8 : STy Tryz.prog 24 5 (.int .u8 0) 1 1 := ⟨Tryz.underlying24, ⟨_, rfl, by kernel_rfl, by kernel_rfl, by kernel_rfl⟩, rfl, by decide⟩
theorem wrap8 (n : Int) (h0 : 0 ≤ n) (h : n ≤ 255) : IntKind.u8.wrap n = n := by
 simp [IntKind.wrap, IntKind.bits, IntKind.signed]; omega
end Go.Proofs.YtjjcilinghgphaaGreat
