import Derived.Test.YtjjcilinghgphaaRows
import Derived.Test.YtjjcilinghgphaaK1
import Derived.Test.YtjjcilinghgphaaF0
import Derived.Test.YtjjcilinghgphaaM0
namespace Go.Proofs.Ytjjcilinghgphaa
open Go.RowKit


/-- A slice of bytes that the call made. -/
def f_Made8 (w : World) (l : List UInt8) (e : Ending) (w' : World) : Prop := ∃ v, e = .returned v ∧ Own8 w' w.heap.size 5 v l ∧ Below w.heap.size w w'

set_option maxHeartbeats 400000 in
theorem f_copyBytes_any (a : Option Addr) (n cap : Nat) (l : List UInt8) (w : World) (h : Rd8 w a n cap l) (hn : n ≤ 140737488355328) :
    Calls Try.prog 31 #[.slice a n cap] w (f_Made8 w l) := by
  obtain ⟨rfl, hr⟩ := h
  go_enter Try.func31, Try.ntmps31
  go_wp2
  have hm : l.length ≤ 9223372036854775807 := by omega
  go_loopw [3, 4] (fun v i wr => ∃ k : Nat, k ≤ l.length ∧ i = .int .i64 k ∧ Own8 wr w.heap.size 5 v (l.take k) ∧ Below w.heap.size w wr) (fun _ i _ => l.length - (intOf i).toNat)
  case atStart => exact ⟨0, Nat.zero_le _, rfl, Own8.nil _ _ _, Below.refl _ _⟩
  case round =>
    obtain ⟨k, hk, rfl, hown, hbel⟩ := hrel
    by_cases hlt : k < l.length
    · obtain ⟨b, off, rfl, hb, hc⟩ := Rd8.at ⟨rfl, hr⟩ (by omega)
      have hcell : wr.cell? ⟨b, off + k, none⟩ = some (.int .u8 (n8 (l.getD k 0))) := by rw [hbel.cell (p := ⟨b, off + k, none⟩) hb]; exact hc k hlt
      clear hc
      have hbl := hbel.size
      go_wp2_with (at_builtin; refine wpList_app S8 rfl (.tmp 11) (.tmp 16) rfl w.heap.size rfl (hown.alloc _) rfl (Rd.one _ _ _) ?c1 ?c2 ?c3 ?c4 ?_)
      case c1 => simp [Value.oneCell']
      case c2 => simp; omega
      case c3 => simp [maxLen]; omega
      case c4 => simp; omega
      intro v' w1 hown' hb1 _
      clear hown
      go_wp2
      go_roundw
      case rel => exact ⟨k + 1, by omega, by go_num, Own8.mk hown' (by simp; omega) (by rw [B8_take_succ _ _ hlt, B8_append]; simp [B8, List.getD, hlt]), (hbel.alloc hbl _).trans hb1⟩
      case measure => simp [intOf]; omega
    · go_wp2
      go_ret
      exact ⟨_, rfl, by rw [List.take_of_length_le (by omega)] at hown; exact hown, hbel⟩

/-! ### raceref.Bytes -/
attribute [local go_sem] bs_toList
set_option maxHeartbeats 400000 in
theorem f_bytes_any (a a' : Option Addr) (n n' cap cap' : Nat) (l l' : List UInt8) (w : World) (h : Rd8 w a n cap l) (h' : Rd8 w a' n' cap' l') :
    Calls Try.prog 18 #[.slice a n cap, .slice a' n' cap'] w fun e w' => e = .returned (.bool (l == l')) ∧ w' = w := by
  have k1 := run_toStr (P := Try.prog) h 35 5 9 Try.underlying35 Try.underlying5 Try.underlying9
  have k2 := run_toStr (P := Try.prog) h' 35 5 9 Try.underlying35 Try.underlying5 Try.underlying9
  go_enter Try.func18, Try.ntmps18
  go_wp2
  go_ret
  exact ⟨rfl, rfl⟩

/-! ### Four bytes of a number -/
theorem s8 (x : UInt32) (yk : IntKind) : Op.shift .shr .u32 (n32 x) yk 8 = pure (.int .u32 (n32 (x >>> 8))) := sh32_shr x yk 8 (by omega) (by omega)
theorem s16 (x : UInt32) (yk : IntKind) : Op.shift .shr .u32 (n32 x) yk 16 = pure (.int .u32 (n32 (x >>> 16))) := sh32_shr x yk 16 (by omega) (by omega)
theorem s24 (x : UInt32) (yk : IntKind) : Op.shift .shr .u32 (n32 x) yk 24 = pure (.int .u32 (n32 (x >>> 24))) := sh32_shr x yk 24 (by omega) (by omega)
attribute [local go_sem high] s8 s16 s24
attribute [local go_sem] n32_to8 n8_to32
theorem B8_four (n : UInt32) : B8 (four n) = [.int .u8 (n8 n.toUInt8), .int .u8 (n8 (n >>> 8).toUInt8), .int .u8 (n8 (n >>> 16).toUInt8), .int .u8 (n8 (n >>> 24).toUInt8)] := rfl

set_option maxHeartbeats 400000 in
/-- frame.put: behind a slice of the caller's own. -/
theorem f_put_any (x : UInt32) (v : Value) (l : List UInt8) (base : Nat) (w : World) (hown : Own8 w base 5 v l) (hb : base ≤ w.heap.size) (hl : l.length ≤ 100000000) :
    Calls Try.prog 52 #[v, .int .u32 (n32 x)] w fun e w' => ∃ v', e = .returned v' ∧ Own8 w' base 5 v' (l ++ four x) ∧ Below base w w' := by
  go_enter Try.func52, Try.ntmps52
  go_wp2_with (at_builtin; refine wpList_app S8 rfl (.tmp 5) (.tmp 17) rfl base rfl (hown.alloc _) rfl (Rd.lit _ (B8 (four x)) 4 rfl (by decide) _) ?c1 ?c2 ?c3 ?c4 ?_)
  case c1 => exact B8_one _
  case c2 => simp; omega
  case c3 => simp [maxLen]; omega
  case c4 => simp; omega
  intro v' w1 hown' hb1 _
  go_wp2
  go_ret
  exact ⟨_, rfl, Own8.mk hown' (by simp [four]) (by rw [B8_append]), ((Below.refl _ _).alloc hb _).trans hb1⟩

/-! ### frame.get -/
theorem l8 (x : UInt32) (yk : IntKind) : Op.shift .shl .u32 (n32 x) yk 8 = pure (.int .u32 (n32 (x <<< 8))) := sh32_shl x yk 8 (by omega) (by omega)
theorem l16 (x : UInt32) (yk : IntKind) : Op.shift .shl .u32 (n32 x) yk 16 = pure (.int .u32 (n32 (x <<< 16))) := sh32_shl x yk 16 (by omega) (by omega)
theorem l24 (x : UInt32) (yk : IntKind) : Op.shift .shl .u32 (n32 x) yk 24 = pure (.int .u32 (n32 (x <<< 24))) := sh32_shl x yk 24 (by omega) (by omega)
attribute [local go_sem high] l8 l16 l24
attribute [local go_sem] n32_or
set_option maxHeartbeats 400000 in
theorem get_any (a : Option Addr) (n cap : Nat) (l : List UInt8) (w : World) (h : Rd8 w a n cap l) (hn : 4 ≤ l.length) :
    Calls Try.prog 63 #[.slice a n cap] w fun e w' => e = .returned (.int .u32 (n32 (get4 l))) ∧ ∃ k, w' = w.drewN k := by
  obtain ⟨rfl, hr⟩ := h
  obtain ⟨b, off, rfl, hb, hc⟩ := Rd8.at ⟨rfl, hr⟩ (by omega)
  unfold get4
  have c0 := hc 0 (by omega)
  have c1 := hc 1 (by omega)
  have c2 := hc 2 (by omega)
  have c3 := hc 3 (by omega)
  clear hc
  generalize l.getD 0 0 = x0 at *
  generalize l.getD 1 0 = x1 at *
  generalize l.getD 2 0 = x2 at *
  generalize l.getD 3 0 = x3 at *
  rw [Nat.add_zero] at c0
  have i0 : (0 : Int) < (l.length : Int) := by omega
  have i1 : (1 : Int) < (l.length : Int) := by omega
  have i2 : (2 : Int) < (l.length : Int) := by omega
  have i3 : (3 : Int) < (l.length : Int) := by omega
  go_enter Try.func63, Try.ntmps63
  go_wp2
  go_quiet (fail)
  go_wp2
  go_ret
  exact ⟨rfl, _, rfl⟩

end Go.Proofs.Ytjjcilinghgphaa
