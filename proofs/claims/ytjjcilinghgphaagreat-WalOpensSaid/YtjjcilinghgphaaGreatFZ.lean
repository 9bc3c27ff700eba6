/-
 text F1
 text F2
 text F3
 text F4
-/
import Derived.Test.YtjjcilinghgphaaGreatRows
import Derived.Test.YtjjcilinghgphaaGreatK1
import Derived.Test.YtjjcilinghgphaaGreatF0
import Derived.Test.YtjjcilinghgphaaGreatM0
/-! ### text F1 -/
namespace Go.Proofs.YtjjcilinghgphaaGreat
open Go.RowKit


/-- A slice of bytes that the call made. -/
def f_Made8 (w : World) (l : List UInt8) (e : Ending) (w' : World) : Prop := ∃ v, e = .returned v ∧ Own8 w' w.heap.size 5 v l ∧ Below w.heap.size w w'

set_option maxHeartbeats 400000 in
theorem f_copyBytes_any (a : Option Addr) (n cap : Nat) (l : List UInt8) (w : World) (h : Rd8 w a n cap l) (hn : n ≤ 140737488355328) :
 Calls Tryz.prog 26 #[.slice a n cap] w (f_Made8 w l) := by
 obtain ⟨rfl, hr⟩ := h
 go_enter Tryz.func26, Tryz.ntmps26
 go_wp2
 have hm : l.length ≤ 9223372036854775807 := by omega
 go_loopw [3, 4] (fun v i wr => ∃ k : Nat, k ≤ l.length ∧ i = .int .i64 k ∧ Own8 wr w.heap.size 5 v (l.take k) ∧ Below w.heap.size w wr) (fun _ i _ => l.length - (intOf i).toNat)
 case atStart => exact ⟨0, Nat.zero_le _, rfl, Own8.nil _ _ _, Below.refl _ _⟩
 case round =>
  obtain ⟨k, hk, rfl, hown, hbel⟩ := hrel
  by_cases hlt : k < l.length
  · obtain ⟨b, off, rfl, hb, hc⟩ := Rd8.at ⟨rfl, hr⟩ (by omega)
    have hcell : wr.cell? ⟨b, off + k, none⟩ = some (.int .u8 (n8 (l.getD k 0))) := by rw [hbel.cell (p := ⟨b, off + k, none⟩) hb]; exact hc k hlt
    clear hc
    have hbl := hbel.size
    go_wp2_with (at_builtin; refine wpList_app S8 rfl (.tmp 11) (.tmp 16) rfl w.heap.size rfl (hown.alloc _) rfl (Rd.one _ _ _) ?c1 ?c2 ?c3 ?c4 ?_)
    case c1 => simp [Value.oneCell']
    case c2 => simp; omega
    case c3 => simp [maxLen]; omega
    case c4 => simp; omega
    intro v' w1 hown' hb1 _
    clear hown
    go_wp2
    go_roundw
    case rel => exact ⟨k + 1, by omega, by go_num, Own8.mk hown' (by simp; omega) (by rw [B8_take_succ _ _ hlt, B8_append]; simp [B8, List.getD, hlt]), (hbel.alloc hbl _).trans hb1⟩
    case measure => simp [intOf]; omega
  · go_wp2
    go_ret
    exact ⟨_, rfl, by rw [List.take_of_length_le (by omega)] at hown; exact hown, hbel⟩

/-! ### raceref.Bytes -/
attribute [local go_sem] bs_toList
set_option maxHeartbeats 400000 in
theorem f_bytes_any (a a' : Option Addr) (n n' cap cap' : Nat) (l l' : List UInt8) (w : World) (h : Rd8 w a n cap l) (h' : Rd8 w a' n' cap' l') :
 Calls Tryz.prog 36 #[.slice a n cap, .slice a' n' cap'] w fun e w' => e = .returned (.bool (l == l')) ∧ w' = w := by
 have k1 := run_toStr (P := Tryz.prog) h 24 5 9 Tryz.underlying24 Tryz.underlying5 Tryz.underlying9
 have k2 := run_toStr (P := Tryz.prog) h' 24 5 9 Tryz.underlying24 Tryz.underlying5 Tryz.underlying9
 go_enter Tryz.func36, Tryz.ntmps36
 go_wp2
 go_ret
 exact ⟨rfl, rfl⟩

/-! ### Four bytes of a number -/
theorem s8 (x : UInt32) (yk : IntKind) : Op.shift .shr .u32 (n32 x) yk 8 = pure (.int .u32 (n32 (x >>> 8))) := sh32_shr x yk 8 (by omega) (by omega)
theorem s16 (x : UInt32) (yk : IntKind) : Op.shift .shr .u32 (n32 x) yk 16 = pure (.int .u32 (n32 (x >>> 16))) := sh32_shr x yk 16 (by omega) (by omega)
theorem s24 (x : UInt32) (yk : IntKind) : Op.shift .shr .u32 (n32 x) yk 24 = pure (.int .u32 (n32 (x >>> 24))) := sh32_shr x yk 24 (by omega) (by omega)
attribute [local go_sem high] s8 s16 s24
attribute [local go_sem] n32_to8 n8_to32
theorem B8_four (n : UInt32) : B8 (four n) = [.int .u8 (n8 n.toUInt8), .int .u8 (n8 (n >>> 8).toUInt8), .int .u8 (n8 (n >>> 16).toUInt8), .int .u8 (n8 (n >>> 24).toUInt8)] := rfl

set_option maxHeartbeats 400000 in
/-- raceref5.four: a new block. -/
theorem four_any (x : UInt32) (w : World) :
 Calls Tryz.prog 93 #[.int .u32 (n32 x)] w (f_Made8 w (four x)) := by
 go_enter Tryz.func93, Tryz.ntmps93
 go_wp2
 go_ret
 exact ⟨_, rfl, World.ownsRow_lit w _ 4 (Nat.le_refl _) (by decide) rfl, (Below.refl _ _).alloc (Nat.le_refl _) _⟩

set_option maxHeartbeats 400000 in
/-- frame.put: behind a slice of the caller's own. -/
theorem f_put_any (x : UInt32) (v : Value) (l : List UInt8) (base : Nat) (w : World) (hown : Own8 w base 5 v l) (hb : base ≤ w.heap.size) (hl : l.length ≤ 100000000) :
 Calls Tryz.prog 84 #[v, .int .u32 (n32 x)] w fun e w' => ∃ v', e = .returned v' ∧ Own8 w' base 5 v' (l ++ four x) ∧ Below base w w' := by
 go_enter Tryz.func84, Tryz.ntmps84
 go_wp2_with (at_builtin; refine wpList_app S8 rfl (.tmp 5) (.tmp 17) rfl base rfl (hown.alloc _) rfl (Rd.lit _ (B8 (four x)) 4 rfl (by decide) _) ?c1 ?c2 ?c3 ?c4 ?_)
 case c1 => exact B8_one _
 case c2 => simp; omega
 case c3 => simp [maxLen]; omega
 case c4 => simp; omega
 intro v' w1 hown' hb1 _
 go_wp2
 go_ret
 exact ⟨_, rfl, Own8.mk hown' (by simp [four]) (by rw [B8_append]), ((Below.refl _ _).alloc hb _).trans hb1⟩

/-! ### frame.get -/
theorem l8 (x : UInt32) (yk : IntKind) : Op.shift .shl .u32 (n32 x) yk 8 = pure (.int .u32 (n32 (x <<< 8))) := sh32_shl x yk 8 (by omega) (by omega)
theorem l16 (x : UInt32) (yk : IntKind) : Op.shift .shl .u32 (n32 x) yk 16 = pure (.int .u32 (n32 (x <<< 16))) := sh32_shl x yk 16 (by omega) (by omega)
theorem l24 (x : UInt32) (yk : IntKind) : Op.shift .shl .u32 (n32 x) yk 24 = pure (.int .u32 (n32 (x <<< 24))) := sh32_shl x yk 24 (by omega) (by omega)
attribute [local go_sem high] l8 l16 l24
attribute [local go_sem] n32_or
set_option maxHeartbeats 400000 in
theorem get_any (a : Option Addr) (n cap : Nat) (l : List UInt8) (w : World) (h : Rd8 w a n cap l) (hn : 4 ≤ l.length) :
 Calls Tryz.prog 98 #[.slice a n cap] w fun e w' => e = .returned (.int .u32 (n32 (get4 l))) ∧ ∃ k, w' = w.drewN k := by
 obtain ⟨rfl, hr⟩ := h
 obtain ⟨b, off, rfl, hb, hc⟩ := Rd8.at ⟨rfl, hr⟩ (by omega)
 unfold get4
 have c0 := hc 0 (by omega)
 have c1 := hc 1 (by omega)
 have c2 := hc 2 (by omega)
 have c3 := hc 3 (by omega)
 clear hc
 generalize l.getD 0 0 = x0 at *
 generalize l.getD 1 0 = x1 at *
 generalize l.getD 2 0 = x2 at *
 generalize l.getD 3 0 = x3 at *
 rw [Nat.add_zero] at c0
 have i0 : (0 : Int) < (l.length : Int) := by omega
 have i1 : (1 : Int) < (l.length : Int) := by omega
 have i2 : (2 : Int) < (l.length : Int) := by omega
 have i3 : (3 : Int) < (l.length : Int) := by omega
 go_enter Tryz.func98, Tryz.ntmps98
 go_wp2
 go_quiet (fail)
 go_wp2
 go_ret
 exact ⟨rfl, _, rfl⟩

end Go.Proofs.YtjjcilinghgphaaGreat

/-! ### text F2 -/
namespace Go.Proofs.YtjjcilinghgphaaGreat
open Go.RowKit

theorem k_and1 (x : UInt32) : bits .and .u32 (n32 x) 1 = n32 (x &&& 1) := n32_and x 1
theorem k_andp (x : UInt32) : bits .and .u32 2197175160 (n32 x) = n32 (0x82F63B78 &&& x) := n32_and 0x82F63B78 x
theorem k_shr1 (x : UInt32) (yk : IntKind) : Op.shift .shr .u32 (n32 x) yk 1 = pure (.int .u32 (n32 (x >>> 1))) := sh32_shr x yk 1 (by omega) (by omega)
attribute [local go_sem] n32_xor n32_and n8_to32 wr32_neg k_and1 k_andp
attribute [local go_sem high] un32_not k_shr1

/-! ### The table -/
def tabV (k i : Nat) : Value := .int .u32 (n32 (if i < k then stps 8 (UInt32.ofNat i) else 0))
def tab (k : Nat) : Array Value := ((List.range 256).map (tabV k)).toArray
theorem tab_size (k : Nat) : (tab k).size = 256 := by simp [tab]
theorem tab_get (k i : Nat) (h : i < 256) : (tab k)[i]? = some (tabV k i) := by simp [tab, h]
theorem tab_zero : (Tryz.prog.info? 120).bind (fun i => i.zero.map (·.cells)) = some (tab 0) := by kernel_rfl
theorem tab_info : (Tryz.prog.info? 120).map (·.size) = some 256 := by kernel_rfl
theorem tab_set (k : Nat) (h : k < 256) : (tab k).setIfInBounds k (.int .u32 (n32 (stps 8 (UInt32.ofNat k)))) = tab (k + 1) := by
 apply Array.ext_getElem?
 intro i
 rw [Array.getElem?_setIfInBounds]
 by_cases hi : i < 256
 · rw [tab_get _ _ hi]
   split
   · rename_i e
     subst e
     rw [if_pos (by rw [tab_size]; exact hi), tab_get _ _ hi]; simp [tabV]
   · rw [tab_get _ _ hi]
     simp only [tabV]
     by_cases h1 : i < k
     · simp [h1, show i < k + 1 by omega]
     · simp [h1, show ¬ i < k + 1 by omega]
 · rw [Array.getElem?_eq_none (by simp [tab_size]; omega), Array.getElem?_eq_none (by simp [tab_size]; omega)]
   split
   · subst_vars; omega
   · rfl
theorem tab_one (k : Nat) : (tab k).all (·.oneCell') = true := by simp [tab, tabV, Value.oneCell']

theorem conv32 (k : Nat) (h : k < 256) : IntKind.u32.wrap (k : Int) = n32 (UInt32.ofNat k) := by
 rw [n32_of _ (by omega)]; exact IntWalk.u32_in _ (by omega)

set_option maxHeartbeats 400000 in
set_option maxRecDepth 100000 in
theorem table_any (w : World) : Calls Tryz.prog 100 #[] w fun e w' => e = .returned (.agg (tab 256)) ∧ Below w.heap.size w w' := by
 go_enter Tryz.func100, Tryz.ntmps100
 go_wp2_with (refine wpList_var rfl 120 rfl (tab 0) tab_zero ?_)
 go_loopw [2, 3, 4] (fun _ _ i wr => ∃ k : Nat, k ≤ 256 ∧ i = .int .i64 k ∧ wr.heap[w.heap.size + 1]? = some (.cells (tab k) 120 (0, 0)) ∧ wr.heap[w.heap.size]? = some (.cells (tab 0) 120 (0, 0)) ∧ Below w.heap.size w wr) (fun _ _ i _ => 256 - (intOf i).toNat)
 case atStart => exact ⟨0, by omega, rfl, heap_alloc2_new w _ _, heap_alloc2_old w _ _, ((Below.refl _ _).alloc (Nat.le_refl _) _).alloc (by simp) _⟩
 case round =>
  obtain ⟨k, hk, rfl, hg1, hg0, hbel⟩ := hrel
  by_cases hlt : k < 256
  · have kc := conv32 k hlt
    have hcell : wr.cell? ⟨w.heap.size + 1, k, none⟩ = some (tabV k k) := by rw [cell_of_row wr _ k _ _ _ hg1, tab_get _ _ hlt]
    have hfr : wr.frozen? ⟨w.heap.size + 1, k, none⟩ = false := frozen_of_row wr _ k _ _ hg1
    go_wp2
    go_loop [3, 9] (fun c i => ∃ j : Nat, j ≤ 8 ∧ i = .int .i64 j ∧ c = .int .u32 (n32 (stps j (UInt32.ofNat k)))) (fun _ i => 8 - (intOf i).toNat)
    case atStart => exact ⟨0, by omega, rfl, rfl⟩
    case round =>
     obtain ⟨j, hj, rfl, rfl⟩ := hrel
     by_cases hj8 : j < 8
     · go_wp2
       go_round
       case rel => exact ⟨j + 1, by omega, by go_num, rfl⟩
       case measure => simp [intOf]; omega
     · obtain rfl : j = 8 := by omega
       go_wp2
       go_roundw
       case rel =>
        refine ⟨k + 1, by omega, by go_num, ?_, ?_, hbel.setCell (p := ⟨w.heap.size + 1, k, none⟩) (Nat.le_succ _) _⟩
        · rw [heap_setCell_same _ _ _ _ _ _ hg1, tab_set k hlt]
        · rw [heap_setCell_other _ _ _ _ (by simp)]; exact hg0
       case measure => simp [intOf]; omega
  · obtain rfl : k = 256 := by omega
    go_wp2_with (first | (refine wpList_load_row rfl 120 (.tmp 1) rfl (w.heap.size + 1) rfl 120 (tab 256) (0, 0) _ hg1 Tryz.underlying120 rfl (by rw [tab_info, tab_size]) ?_) | (refine wpList_store_row rfl 120 (.tmp 0) (.tmp 23) rfl w.heap.size (tab 256) rfl rfl 120 (tab 0) hg0 (by rw [tab_info, tab_size]) (by rw [tab_size, tab_size]) (tab_one _) ?_))
    exact bodyPost_ret (v := .agg (tab 256)) (results_cell_row rfl _ _ w.heap.size 120 (tab 256) (0, 0) _ rfl (setRow_heap _ _ _ _ _ _ hg0) Tryz.underlying120 rfl (by rw [tab_info, tab_size])) rfl ⟨rfl, below_setRow hbel (Nat.le_refl _) _⟩

/-! ### frame.Sum -/
set_option maxHeartbeats 400000 in
theorem sum_few (a : Option Addr) (n cap : Nat) (l : List UInt8) (w : World) (h : Rd8 w a n cap l) (hm : l.length < 64) :
 Calls Tryz.prog 85 #[.slice a n cap] w fun e w' => e = .returned (.int .u32 (n32 (crc l))) ∧ w' = w := by
 obtain ⟨rfl, hr⟩ := h
 have hd : decide ((l.length : Int) < 64) = true := by simp; omega
 go_enter Tryz.func85, Tryz.ntmps85
 go_wp2
 go_loop [3, 14] (fun c i => ∃ k : Nat, k ≤ l.length ∧ i = .int .i64 k ∧ c = .int .u32 (n32 (crcTo l k))) (fun _ i => l.length - (intOf i).toNat)
 case atStart => exact ⟨0, Nat.zero_le _, rfl, rfl⟩
 case round =>
  obtain ⟨k, hk, rfl, rfl⟩ := hrel
  by_cases hlt : k < l.length
  · obtain ⟨b, off, rfl, hb, hc⟩ := Rd8.at ⟨rfl, hr⟩ (by omega)
    have hcell := hc k hlt
    have Hs := Lib.hid (crcTo_snoc l k hlt)
    clear hc
    generalize l.getD k 0 = x at *
    go_wp2
    go_loop [3, 22] (fun c i => ∃ j : Nat, j ≤ 8 ∧ i = .int .i64 j ∧ c = .int .u32 (n32 (stps j (crcTo l k ^^^ x.toUInt32)))) (fun _ i => 8 - (intOf i).toNat)
    case atStart => exact ⟨0, by omega, rfl, rfl⟩
    case round =>
     obtain ⟨j, hj, rfl, rfl⟩ := hrel
     by_cases hj8 : j < 8
     · go_wp2
       go_round
       case rel => exact ⟨j + 1, by omega, by go_num, rfl⟩
       case measure => simp [intOf]; omega
     · obtain rfl : j = 8 := by omega
       go_wp2
       go_round
       case rel => exact ⟨k + 1, by omega, by go_num, by rw [Hs.out]; rfl⟩
       case measure => simp [intOf]; omega
  · have Hs := Lib.hid (crcTo_all l k (by omega))
    go_wp2
    go_ret
    exact ⟨by unfold crc; rw [Hs.out]; rfl, rfl⟩

theorem k_shr8 (x : UInt32) (yk : IntKind) : Op.shift .shr .u32 (n32 x) yk 8 = pure (.int .u32 (n32 (x >>> 8))) := sh32_shr x yk 8 (by omega) (by omega)
attribute [local go_sem high] k_shr8
attribute [local go_sem] n32_to8 n8_xor
set_option maxHeartbeats 400000 in
set_option maxRecDepth 100000 in
theorem sum_many (a : Option Addr) (n cap : Nat) (l : List UInt8) (w : World) (h : Rd8 w a n cap l) (hm : 64 ≤ l.length) (hn : l.length ≤ 140737488355328) :
 Calls Tryz.prog 85 #[.slice a n cap] w fun e w' => e = .returned (.int .u32 (n32 (crc l))) ∧ Below w.heap.size w w' := by
 have hrd := h
 obtain ⟨rfl, hr⟩ := h
 have hd : decide ((l.length : Int) < 64) = false := by simp; omega
 go_enter Tryz.func85, Tryz.ntmps85
 go_wp2_with (first | (go_at_call 100; refine (table_any _).mono ?_; rintro e w1 ⟨rfl, hb1⟩) | (refine wpList_var rfl 120 rfl (tab 0) tab_zero ?_) | (refine wpList_store_row rfl 120 (.tmp 6) (.tmp 35) rfl w1.heap.size (tab 256) rfl rfl 120 (tab 0) (heap_alloc_new w1 _) (by rw [tab_info, tab_size]) (by rw [tab_size, tab_size]) (tab_one _) ?_))
 have hrow : ((w1.alloc (.cells (tab 0) 120)).setRow w1.heap.size (tab 256)).heap[w1.heap.size]? = some (.cells (tab 256) 120 (0, 0)) := setRow_heap _ _ _ _ _ _ (heap_alloc_new w1 _)
 have hb2 : Below w.heap.size w ((w1.alloc (.cells (tab 0) 120)).setRow w1.heap.size (tab 256)) := below_setRow (hb1.alloc hb1.size _) hb1.size _
 generalize hW : (w1.alloc (.cells (tab 0) 120)).setRow w1.heap.size (tab 256) = W at *
 clear hW
 have hr2 := hrd.below hb2
 go_loop [3, 38] (fun c i => ∃ k : Nat, k ≤ l.length ∧ i = .int .i64 k ∧ c = .int .u32 (n32 (crcTo l k))) (fun _ i => l.length - (intOf i).toNat)
 case atStart => exact ⟨0, Nat.zero_le _, rfl, rfl⟩
 case round =>
  obtain ⟨k, hk, rfl, rfl⟩ := hrel
  by_cases hlt : k < l.length
  · obtain ⟨b, off, rfl, hb, hc⟩ := hr2.at (by omega)
    have hcell := hc k hlt
    have Hs := Lib.hid (crcTo_snoc l k hlt)
    clear hc
    generalize l.getD k 0 = x at *
    have t0 := n8_nn ((crcTo l k).toUInt8 ^^^ x)
    have t1 := n8_lt ((crcTo l k).toUInt8 ^^^ x)
    have tc : W.cell? ⟨w1.heap.size, (n8 ((crcTo l k).toUInt8 ^^^ x)).toNat, none⟩ = some (.int .u32 (n32 (stps 8 (UInt32.ofNat (n8 ((crcTo l k).toUInt8 ^^^ x)).toNat)))) := by
     rw [cell_of_row _ _ _ _ _ _ hrow, tab_get _ _ (by omega)]; unfold tabV; rw [if_pos (by omega)]
    clear hrow hr2
    go_wp2
    go_round
    case rel => exact ⟨k + 1, by omega, by go_num, by rw [Hs.out, upd_tab]⟩
    case measure => simp [intOf]; omega
  · have Hs := Lib.hid (crcTo_all l k (by omega))
    go_wp2
    go_ret
    exact ⟨by unfold crc; rw [Hs.out]; rfl, hb2⟩

/-- frame.Sum of any bytes. -/
theorem sum_any (a : Option Addr) (n cap : Nat) (l : List UInt8) (w : World) (h : Rd8 w a n cap l) (hn : l.length ≤ 140737488355328) :
 Calls Tryz.prog 85 #[.slice a n cap] w fun e w' => e = .returned (.int .u32 (n32 (crc l))) ∧ Below w.heap.size w w' := by
 by_cases hm : l.length < 64
 · exact (sum_few a n cap l w h hm).mono fun _ _ ⟨he, hw⟩ => ⟨he, by rw [hw]; exact Below.refl _ _⟩
 · exact sum_many a n cap l w h (by omega) hn
end Go.Proofs.YtjjcilinghgphaaGreat

/-! ### text F3 -/
namespace Go.Proofs.YtjjcilinghgphaaGreat
open Go.RowKit
attribute [local go_sem] n32_xor n32_and n8_to32 wr32_neg k_and1 k_andp
attribute [local go_sem high] un32_not k_shr1
theorem k_xorp (x : UInt32) : bits .xor .u32 (n32 x) 2197175160 = n32 (x ^^^ 0x82F63B78) := n32_xor x 0x82F63B78
attribute [local go_sem] k_xorp
set_option maxHeartbeats 400000 in
theorem refSum_any (a : Option Addr) (n cap : Nat) (l : List UInt8) (w : World) (h : Rd8 w a n cap l) (hn : l.length ≤ 140737488355328) :
 Calls Tryz.prog 94 #[.slice a n cap] w fun e w' => e = .returned (.int .u32 (n32 (crc l))) ∧ w' = w := by
 obtain ⟨rfl, hr⟩ := h
 go_enter Tryz.func94, Tryz.ntmps94
 go_wp2
 go_loop [3, 4] (fun c i => ∃ k : Nat, k ≤ l.length ∧ i = .int .i64 k ∧ c = .int .u32 (n32 (crcTo l k))) (fun _ i => l.length - (intOf i).toNat)
 case atStart => exact ⟨0, Nat.zero_le _, rfl, rfl⟩
 case round =>
  obtain ⟨k, hk, rfl, rfl⟩ := hrel
  by_cases hlt : k < l.length
  · obtain ⟨b, off, rfl, hb, hc⟩ := Rd8.at ⟨rfl, hr⟩ (by omega)
    have hcell := hc k hlt
    have Hs := Lib.hid (crcTo_snoc l k hlt)
    clear hc
    generalize l.getD k 0 = x at *
    go_wp2
    go_loop [3, 5] (fun c i => ∃ j : Nat, j ≤ 8 ∧ i = .int .i64 j ∧ c = .int .u32 (n32 (stps j (crcTo l k ^^^ x.toUInt32)))) (fun _ i => 8 - (intOf i).toNat)
    case atStart => exact ⟨0, by omega, rfl, rfl⟩
    case round =>
     obtain ⟨j, hj, rfl, rfl⟩ := hrel
     by_cases hj8 : j < 8
     · have Hst := Lib.hid (stp_ite (stps j (crcTo l k ^^^ x.toUInt32)))
       have Hj := Lib.hid (show stps (j + 1) (crcTo l k ^^^ x.toUInt32) = stp (stps j (crcTo l k ^^^ x.toUInt32)) from rfl)
       generalize stps j (crcTo l k ^^^ x.toUInt32) = c at *
       have h0 := n32_nn c
       by_cases hp : n32 c % 2 = 1
       · have Hp := Lib.hid (show c.toNat % 2 = 1 by unfold n32 at hp; omega)
         have hb : (n32 c % 2 == 1) = true := beq_iff_eq.2 hp
         clear hp
         go_wp2
         go_round
         case rel => exact ⟨j + 1, by omega, by go_num, by rw [Hj.out, Hst.out, if_pos Hp.out]⟩
         case measure => simp [intOf]; omega
       · have Hp := Lib.hid (show ¬ c.toNat % 2 = 1 by unfold n32 at hp; omega)
         have hb : (n32 c % 2 == 1) = false := beq_eq_false_iff_ne.2 hp
         clear hp
         go_wp2
         go_round
         case rel => exact ⟨j + 1, by omega, by go_num, by rw [Hj.out, Hst.out, if_neg Hp.out, UInt32.xor_zero]⟩
         case measure => simp [intOf]; omega
     · obtain rfl : j = 8 := by omega
       go_wp2
       go_round
       case rel => exact ⟨k + 1, by omega, by go_num, by rw [Hs.out]; rfl⟩
       case measure => simp [intOf]; omega
  · have Hs := Lib.hid (crcTo_all l k (by omega))
    go_wp2
    go_ret
    exact ⟨by unfold crc; rw [Hs.out]; rfl, rfl⟩

/-! ### Frames -/
def FrameEnd (w : World) (p : List UInt8) (e : Ending) (w' : World) : Prop :=
 ∃ v, Below w.heap.size w w' ∧ (p.length ≤ 262144 ∧ e = .returned (.tuple #[v, .int .i64 0]) ∧ Own8 w' w.heap.size 5 v (frameOf p) ∨ ¬ p.length ≤ 262144 ∧ e = .returned (.tuple #[.slice none 0 0, .int .i64 2]))

theorem len32 (n : Nat) (h : n ≤ 262144) : IntKind.u32.wrap (n : Int) = n32 (UInt32.ofNat n) := by
 rw [n32_of _ (by omega)]; exact IntWalk.u32_in _ (by omega)

set_option maxHeartbeats 400000 in
theorem frame_long (a : Option Addr) (n cap : Nat) (p : List UInt8) (w : World) (h : Rd8 w a n cap p) (hm : ¬ p.length ≤ 262144) : Calls Tryz.prog 54 #[.slice a n cap] w (FrameEnd w p) := by
 obtain ⟨rfl, hr⟩ := h
 have hd : decide ((p.length : Int) > 262144) = true := by simp; omega
 go_enter Tryz.func54, Tryz.ntmps54
 go_wp2
 go_ret2
 exact ⟨.slice none 0 0, Below.refl _ _, .inr ⟨hm, rfl⟩⟩

set_option maxHeartbeats 400000 in
theorem frame_ok (a : Option Addr) (n cap : Nat) (p : List UInt8) (w : World) (h : Rd8 w a n cap p) (hm : p.length ≤ 262144) : Calls Tryz.prog 54 #[.slice a n cap] w (FrameEnd w p) := by
 have hrd := h
 obtain ⟨rfl, hr⟩ := h
 have hd : decide ((p.length : Int) > 262144) = false := by simp; omega
 have k1 := len32 _ hm
 go_enter Tryz.func54, Tryz.ntmps54
 go_wp2_with (refine wpList_mk S8 rfl (.const (.int .i64 0)) (.tmp 10) rfl w.heap.size (p.length + 12) rfl rfl (by omega) (by unfold maxLen; omega) (Nat.le_refl _) ?_; intro v0 w1 hown1 hb1)
 have hl1 := hb1.size
 refine (f_put_any _ v0 [] w.heap.size w1 (Own8.mk hown1 rfl rfl) (by omega) (by simp)).mono ?_
 rintro e w2 ⟨v2, rfl, hown2, hb2⟩
 rw [List.nil_append] at hown2
 have hl2 := hb2.size
 obtain ⟨a2, cap2, rfl, hr2⟩ := hown2.rd
 clear hown1
 go_wp2_with fail
 refine (sum_any _ _ _ _ w2 hr2 (by rw [four_length]; omega)).mono ?_
 rintro e w3 ⟨rfl, hb3⟩
 have hl3 := hb3.size
 have hown3 := hown2.below (by omega) hb3
 clear hown2 hr2
 go_wp2_with fail
 refine (f_put_any _ _ _ w.heap.size w3 hown3 (by omega) (by rw [four_length]; omega)).mono ?_
 rintro e w4 ⟨v4, rfl, hown4, hb4⟩
 have hl4 := hb4.size
 have hbw : Below w.heap.size w w4 := ((hb1.trans hb2).trans (hb3.mono (by omega))).trans hb4
 have hr4 := hrd.below hbw
 clear hown3 hb1 hb2 hb3
 go_wp2_with (at_builtin; refine wpList_app S8 rfl (.tmp 20) (.tmp 21) rfl w.heap.size rfl hown4 rfl hr4.2 ?c1 ?c2 ?c3 ?c4 ?_)
 case c1 => exact B8_one _
 case c2 => simp [four_length]; omega
 case c3 => simp [maxLen, four_length]; omega
 case c4 => omega
 intro v5 w5 hown5 hb5 _
 have hown5 := Own8.mk (l := four (UInt32.ofNat p.length) ++ four (crc (four (UInt32.ofNat p.length))) ++ p) hown5 (by simp only [List.length_append]) (B8_append _ _).symm
 have hbw5 := hbw.trans hb5
 have hl5 := hb5.size
 have hr5 := hrd.below hbw5
 clear hown4 hb4 hr4 hb5 hbw
 go_wp2_with fail
 refine (sum_any _ _ _ _ w5 hr5 (by omega)).mono ?_
 rintro e w6 ⟨rfl, hb6⟩
 have hl6 := hb6.size
 have hown6 := hown5.below (by omega) hb6
 have hbw6 := hbw5.trans (hb6.mono (by omega))
 clear hown5 hb6
 go_wp2_with fail
 refine (f_put_any _ _ _ w.heap.size w6 hown6 (by omega) (by simp only [List.length_append, four_length]; omega)).mono ?_
 rintro e w7 ⟨v7, rfl, hown7, hb7⟩
 go_wp2
 go_ret2
 exact ⟨v7, hbw6.trans hb7, .inl ⟨hm, rfl, hown7⟩⟩

theorem frame_any (a : Option Addr) (n cap : Nat) (p : List UInt8) (w : World) (h : Rd8 w a n cap p) : Calls Tryz.prog 54 #[.slice a n cap] w (FrameEnd w p) := by
 by_cases hm : p.length ≤ 262144
 · exact frame_ok a n cap p w h hm
 · exact frame_long a n cap p w h hm

set_option maxHeartbeats 400000 in
theorem refFrame_ok (a : Option Addr) (n cap : Nat) (p : List UInt8) (w : World) (h : Rd8 w a n cap p) (hm : p.length ≤ 262144) : Calls Tryz.prog 76 #[.slice a n cap] w (FrameEnd w p) := by
 have hrd := h
 obtain ⟨rfl, hr⟩ := h
 have hd : decide ((p.length : Int) > 262144) = false := by simp; omega
 have k1 := len32 _ hm
 go_enter Tryz.func76, Tryz.ntmps76
 go_wp2_with fail
 refine (four_any _ w).mono ?_
 rintro e w1 ⟨v1, rfl, hown1, hb1⟩
 have hl1 := hb1.size
 obtain ⟨a1, cap1, rfl, hr1⟩ := hown1.rd
 go_wp2_with (at_builtin; refine wpList_app S8 rfl (.tmp 13) (.tmp 14) rfl w1.heap.size rfl (World.ownsRow_lit w1 #[] 0 (Nat.le_refl _) (by decide) rfl) rfl (hr1.below ((Below.refl _ _).alloc (Nat.le_refl _) _)).2 ?c1 ?c2 ?c3 ?c4 ?_)
 case c1 => exact B8_one _
 case c2 => simp [four_length]
 case c3 => simp [maxLen, four_length]
 case c4 => simp
 intro v2 w2 hown2 hb2 _
 have hown2 := Own8.mk (l := four (UInt32.ofNat p.length)) hown2 (by simp only) (by simp)
 have hs1 : w1.heap.size + 1 ≤ w2.heap.size := by have := hb2.size; simpa using this
 have hb12 : Below w1.heap.size w1 w2 := ((Below.refl _ _).alloc (Nat.le_refl _) _).trans hb2
 have hr1' := hr1.below hb12
 clear hown1 hr1 hb2
 go_wp2_with fail
 refine (refSum_any _ _ _ _ w2 hr1' (by rw [four_length]; omega)).mono ?_
 rintro e w2 ⟨rfl, rfl⟩
 go_wp2_with fail
 refine (four_any _ w2).mono ?_
 rintro e w3 ⟨v3, rfl, hown3, hb3⟩
 have hl3 := hb3.size
 obtain ⟨a3, cap3, rfl, hr3⟩ := hown3.rd
 have hown2' := hown2.below (Nat.le_refl _) hb3
 have hbw3 : Below w.heap.size w w3 := (hb1.trans (hb12.mono (by omega))).trans (hb3.mono (by omega))
 clear hown2 hown3 hb3 hr1' hb12
 go_wp2_with (at_builtin; refine wpList_app S8 rfl (.tmp 16) (.tmp 19) rfl w1.heap.size rfl hown2' rfl hr3.2 ?c1 ?c2 ?c3 ?c4 ?_)
 case c1 => exact B8_one _
 case c2 => simp only [four_length]; omega
 case c3 => simp only [maxLen, four_length]; omega
 case c4 => omega
 intro v4 w4 hown4 hb4 _
 have hown4 := Own8.mk (l := four (UInt32.ofNat p.length) ++ four (crc (four (UInt32.ofNat p.length)))) hown4 (by simp only [List.length_append]) (B8_append _ _).symm
 have hl4 := hb4.size
 have hbw4 := hbw3.trans (hb4.mono (by omega))
 have hr4 := hrd.below hbw4
 clear hown2' hr3 hb4 hbw3
 go_wp2_with (at_builtin; refine wpList_app S8 rfl (.tmp 21) (.tmp 22) rfl w1.heap.size rfl hown4 rfl hr4.2 ?c1 ?c2 ?c3 ?c4 ?_)
 case c1 => exact B8_one _
 case c2 => simp only [List.length_append, four_length]; omega
 case c3 => simp only [maxLen, List.length_append, four_length]; omega
 case c4 => omega
 intro v5 w5 hown5 hb5 _
 have hown5 := Own8.mk (l := four (UInt32.ofNat p.length) ++ four (crc (four (UInt32.ofNat p.length))) ++ p) hown5 (by simp only [List.length_append]) (B8_append _ _).symm
 have hl5 := hb5.size
 have hbw5 := hbw4.trans (hb5.mono (by omega))
 have hr5 := hrd.below hbw5
 clear hown4 hr4 hb5 hbw4
 go_wp2_with fail
 refine (refSum_any _ _ _ _ w5 hr5 (by omega)).mono ?_
 rintro e w5 ⟨rfl, rfl⟩
 go_wp2_with fail
 refine (four_any _ w5).mono ?_
 rintro e w6 ⟨v6, rfl, hown6, hb6⟩
 have hl6 := hb6.size
 obtain ⟨a6, cap6, rfl, hr6⟩ := hown6.rd
 have hown5' := hown5.below (Nat.le_refl _) hb6
 have hbw6 := hbw5.trans (hb6.mono (by omega))
 clear hown5 hown6 hb6
 go_wp2_with (at_builtin; refine wpList_app S8 rfl (.tmp 24) (.tmp 27) rfl w1.heap.size rfl hown5' rfl hr6.2 ?c1 ?c2 ?c3 ?c4 ?_)
 case c1 => exact B8_one _
 case c2 => simp only [List.length_append, four_length]; omega
 case c3 => simp only [maxLen, List.length_append, four_length]; omega
 case c4 => omega
 intro v7 w7 hown7 hb7 _
 have hown7 := Own8.mk (l := frameOf p) hown7 (by simp only [frameOf, List.length_append, Nat.add_assoc]) (by simp only [frameOf, B8_append, List.append_assoc])
 go_wp2
 go_ret2
 exact ⟨v7, hbw6.trans (hb7.mono (by omega)), .inl ⟨hm, rfl, hown7.mono (by omega)⟩⟩

set_option maxHeartbeats 400000 in
theorem refFrame_long (a : Option Addr) (n cap : Nat) (p : List UInt8) (w : World) (h : Rd8 w a n cap p) (hm : ¬ p.length ≤ 262144) : Calls Tryz.prog 76 #[.slice a n cap] w (FrameEnd w p) := by
 obtain ⟨rfl, hr⟩ := h
 have hd : decide ((p.length : Int) > 262144) = true := by simp; omega
 go_enter Tryz.func76, Tryz.ntmps76
 go_wp2
 go_ret2
 exact ⟨.slice none 0 0, Below.refl _ _, .inr ⟨hm, rfl⟩⟩
theorem refFrame_any (a : Option Addr) (n cap : Nat) (p : List UInt8) (w : World) (h : Rd8 w a n cap p) : Calls Tryz.prog 76 #[.slice a n cap] w (FrameEnd w p) := by
 by_cases hm : p.length ≤ 262144
 · exact refFrame_ok a n cap p w h hm
 · exact refFrame_long a n cap p w h hm
end Go.Proofs.YtjjcilinghgphaaGreat

/-! ### text F4 -/
namespace Go.Proofs.YtjjcilinghgphaaGreat
open Go.RowKit

theorem S88 : STy Tryz.prog 57 24 (.slice none 0 0) 1 24 := ⟨Tryz.underlying57, info_parts (by kernel_rfl), rfl, by decide⟩

/-- Two slices share no block. -/
def Apart (u v : Value) : Prop := u.ownBlock = none ∨ u.ownBlock ≠ v.ownBlock
/-- A list of lists of bytes, all of the call's own, each in a block of its own. -/
def Own88 (w : World) (base : Nat) (v : Value) (vs : List Value) (ls : List (List UInt8)) : Prop :=
 w.ownsRow base 24 1 v ls.length vs ∧ (∀ (i : Nat) (u : Value) (l : List UInt8), vs[i]? = some u → ls[i]? = some l → Own8 w base 5 u l) ∧ vs.Pairwise Apart

theorem Own88.nil (w : World) (base : Nat) : Own88 w base (.slice none 0 0) [] [] := ⟨World.ownsRow_nil _ _ _ _, by simp, .nil⟩
theorem own_apart {w : World} {base b2 : Nat} {e e' : TypeId} {s s' n n' : Nat} {u v : Value} {xs ys : List Value} (hu : w.ownsRow base e s u n xs) (hv : w.ownsRow b2 e' s' v n' ys) (he : e ≠ e') : Apart u v := by
 rcases hu.2 with ⟨rfl, _⟩ | ⟨g, cap, cur, rfl, _, hg, _⟩
 · exact .inl rfl
 · rcases hv.2 with ⟨rfl, _⟩ | ⟨g', cap', cur', rfl, _, hg', _⟩
   · exact .inr (by simp [Value.ownBlock])
   · refine .inr ?_
     simp only [Value.ownBlock, ne_eq, Option.some.injEq]
     rintro rfl
     rw [hg] at hg'; simp at hg'; exact he hg'.2
theorem ownsRow_below {w w' : World} {base : Nat} {e : TypeId} {size : Nat} {v : Value} {n : Nat} {xs : List Value} (h : w.ownsRow base e size v n xs) {B : Nat} (hB : w.heap.size ≤ B) (hb : Below B w w') : w'.ownsRow base e size v n xs := by
 refine World.ownsRow.kept (row := none) h ⟨hb.os, hb.tape, hb.output, hb.size, fun k hk _ => hb.block k (by omega)⟩ ?_
 cases v.ownBlock <;> simp
theorem Own88.below {w w' : World} {base : Nat} {v : Value} {vs : List Value} {ls : List (List UInt8)} (h : Own88 w base v vs ls) {B : Nat} (hB : w.heap.size ≤ B) (hb : Below B w w') : Own88 w' base v vs ls := by
 obtain ⟨h1, h3, h4⟩ := h
 exact ⟨ownsRow_below h1 hB hb, fun i u l hu hl => (h3 i u l hu hl).below hB hb, h4⟩

/-- One more list of bytes, made since. -/
theorem Own88.snoc {w w1 w2 : World} {base : Nat} {v v' u : Value} {vs : List Value} {ls : List (List UInt8)} {l : List UInt8} (h : Own88 w base v vs ls) (hb : Below w.heap.size w w1)
 (hu : Own8 w1 w.heap.size 5 u l) (hbase : base ≤ w.heap.size) (hv : w2.ownsRow base 24 1 v' (ls.length + 1) (vs ++ [u])) (hg : w1.grownBy w2 v.ownBlock) : Own88 w2 base v' (vs ++ [u]) (ls ++ [l]) := by
 obtain ⟨h1, h3, h4⟩ := h
 have hlen : vs.length = ls.length := by simpa using h1.1
 have h1' := ownsRow_below h1 (Nat.le_refl _) hb
 refine ⟨by simpa using hv, fun i x m hx hm => ?_, ?_⟩
 · by_cases hi : i < ls.length
   · rw [List.getElem?_append_left (by omega)] at hx
     rw [List.getElem?_append_left hi] at hm
     have h8 := (h3 i x m hx hm).below (Nat.le_refl _) hb
     exact World.ownsRow.kept h8 hg (own_apart h8 h1' (by decide))
   · have hi2 : i = ls.length := by
      have : i < (ls ++ [l]).length := by
       rcases Nat.lt_or_ge i (ls ++ [l]).length with h | h
       · exact h
       · rw [List.getElem?_eq_none h] at hm; cases hm
      simp at this; omega
     subst hi2
     rw [← hlen] at hx
     simp at hx hm
     subst hx hm
     exact ownsRow_mono (World.ownsRow.kept hu hg (own_apart hu h1' (by decide))) hbase
 · rw [List.pairwise_append]
   refine ⟨h4, List.pairwise_singleton _ _, fun x hx y hy => ?_⟩
   obtain rfl : y = u := by simpa using hy
   obtain ⟨i, hi, hxi⟩ := List.mem_iff_getElem.1 hx
   have h8 := h3 i x (ls[i]'(by omega)) (by rw [List.getElem?_eq_getElem hi, hxi]) (List.getElem?_eq_getElem _)
   cases hob : x.ownBlock with
   | none => exact .inl hob
   | some k =>
    refine .inr ?_
    rw [hob]
    intro e
    have q1 := (World.ownsRow.lt h8 k hob).2
    have q2 := (World.ownsRow.lt hu k e.symm).1
    omega

/-- What a scan ends with. -/
def ScanEnd (w : World) (l : List UInt8) (e : Ending) (w' : World) : Prop :=
 ∃ v vs, e = .returned (.tuple #[v, .int .i64 ((scan l).2 : Nat)]) ∧ Own88 w' w.heap.size v vs (scan l).1 ∧ Below w.heap.size w w'

theorem get_quiet (a : Option Addr) (n cap : Nat) (l : List UInt8) (w : World) (h : Rd8 w a n cap l) (hn : 4 ≤ l.length) : Calls Tryz.prog 98 #[.slice a n cap] w fun e w' => e = .returned (.int .u32 (n32 (get4 l))) ∧ ∃ k, w' = w.drewN k := get_any a n cap l w h hn

set_option maxHeartbeats 400000 in
theorem scan_any (a : Option Addr) (n cap : Nat) (l : List UInt8) (w : World) (h : Rd8 w a n cap l) (hn : l.length ≤ 5000000) :
 Calls Tryz.prog 82 #[.slice a n cap] w (ScanEnd w l) := by
 have hrd := h
 obtain ⟨rfl, hr⟩ := h
 go_enter Tryz.func82, Tryz.ntmps82
 go_wp2
 go_loopw [4, 5, 6, 7] (fun v at_ _ _ wr => ∃ k out vs, at_ = .int .i64 (k : Nat) ∧ ScanAt l k out ∧ Own88 wr w.heap.size v vs out ∧ Below w.heap.size w wr) (fun _ at_ _ _ _ => l.length - (intOf at_).toNat)
 case atStart => exact ⟨0, [], [], rfl, ScanAt.start l, Own88.nil _ _, Below.refl _ _⟩
 case round =>
  obtain ⟨k, out, vs, rfl, hat, hown, hbel⟩ := hrel
  have hkl := hat.1
  have Hat := Lib.hid hat
  clear hat
  have hrw := hrd.below hbel
  by_cases h12 : 12 ≤ l.length - k
  · obtain ⟨a1, c1, hs1, hr1⟩ := run_slice8 S8 hrw (some (.int .i64 k)) none k l.length (.inr rfl) (.inl ⟨rfl, rfl⟩) hkl (Nat.le_refl _)
    obtain ⟨a2, c2, hs2, hr2⟩ := run_slice8 S8 hrw (some (.int .i64 (k + 4))) none (k + 4) l.length (.inr rfl) (.inl ⟨rfl, rfl⟩) (by omega) (Nat.le_refl _)
    obtain ⟨a3, c3, hs3, hr3⟩ := run_slice8 S8 hrw (some (.int .i64 k)) (some (.int .i64 (k + 4))) k (k + 4) (.inr rfl) (.inr rfl) (by omega) (by omega)
    rw [Nat.add_sub_cancel_left] at hs3 hr3
    rw [List.take_of_length_le (by simp)] at hr1 hr2
    have d12 : decide ((12 : Int) ≤ l.length - k) = true := by simp; omega
    go_wp2_with fail
    refine (get_any _ _ _ _ wr hr1 (by simp; omega)).mono ?_
    rintro e w1 ⟨rfl, nd, hw1⟩
    have hbel1 : Below w.heap.size w w1 := by rw [hw1]; exact below_drewN hbel nd
    have hown1 : Own88 w1 w.heap.size _ vs out := hown.below (Nat.le_refl _) (by rw [hw1]; exact below_drewN (Below.refl _ _) nd)
    have hwb : Below wr.heap.size wr w1 := by rw [hw1]; exact below_drewN (Below.refl _ _) nd
    clear hw1 hown hr1 hrw
    have hr2 := hr2.below hwb
    have hr3 := hr3.below hwb
    rw [show n32 (get4 (l.drop k)) = (sizeOf4 (l.drop k) : Nat) from rfl]
    have hm32 : sizeOf4 (l.drop k) < 4294967296 := (get4 (l.drop k)).toNat_lt
    have hwl : whole (l.drop k) = (headOk (l.drop k) && get4 ((l.drop k).drop (8 + sizeOf4 (l.drop k))) == crc (recOf (l.drop k))) := by
     unfold whole; rw [show decide (12 ≤ (l.drop k).length) = true by rw [List.length_drop]; simpa using h12]; rfl
    have Hwl := Lib.hid hwl; clear hwl
    have hho : headOk (l.drop k) = (decide (sizeOf4 (l.drop k) ≤ 262144) && get4 (l.drop (k + 4)) == crc ((l.drop k).take 4) && decide (sizeOf4 (l.drop k) + 12 ≤ l.length - k)) := by
     unfold headOk; rw [List.drop_drop]; simp
    have Hho := Lib.hid hho; clear hho
    go_wp2_with fail
    by_cases hA : sizeOf4 (l.drop k) ≤ 262144
    · have dA : decide ((262144 : Int) < sizeOf4 (l.drop k)) = false := by simp; omega
      have q : ∀ (w2 : World), (∃ n, w2 = w1.drewN n) → Rd8 w2 a2 (l.length - (k + 4)) c2 (l.drop (k + 4)) ∧ Rd8 w2 a3 4 c3 ((l.drop k).take 4) := by
       rintro w2 ⟨n, rfl⟩
       exact ⟨hr2.below (below_drewN (Below.refl _ _) _), hr3.below (below_drewN (Below.refl _ _) _)⟩
      have L1 : 4 ≤ (l.drop (k + 4)).length := by simp; omega
      have L2 : ((l.drop k).take 4).length < 64 := by simp; omega
      have e4 : IntKind.i64.wrap ((k : Int) + 4) = (k : Int) + 4 := IntWalk.i64_in _ (by omega)
      have elk : IntKind.i64.wrap ((l.length : Int) - k) = (l.length : Int) - k := IntWalk.i64_in _ (by omega)
      have elk12 : IntKind.i64.wrap ((l.length : Int) - k - 12) = (l.length : Int) - k - 12 := IntWalk.i64_in _ (by omega)
      by_cases hB : get4 (l.drop (k + 4)) = crc ((l.drop k).take 4)
      · have dB : (n32 (get4 (l.drop (k + 4))) == n32 (crc ((l.drop k).take 4))) = true := by rw [beq_iff_eq, hB]
        have dB' : (n32 (get4 (l.drop (k + 4))) != n32 (crc ((l.drop k).take 4))) = false := by rw [bne, dB]; rfl
        by_cases hC : sizeOf4 (l.drop k) + 12 ≤ l.length - k
        · have dC : decide ((l.length : Int) - k - 12 < sizeOf4 (l.drop k)) = false := by simp; omega
          have Hh : Hid (headOk (l.drop k) = true) := by rw [Hho.out]; simp [hA, hB, hC]; exact trivial
          clear hB
          go_quiet (first | (go_at_call 98; exact Calls.quiet_of (get_any _ _ _ _ _ (q _ ⟨_, rfl⟩).1 L1)) | (go_at_call 85; exact Calls.quiet_of_same (sum_few _ _ _ _ _ (q _ ⟨_, rfl⟩).2 L2)))
          clear e4 elk elk12
          have hb1 : Below w.heap.size w (w1.drewN nq) := below_drewN hbel1 nq
          have hown1 : Own88 (w1.drewN nq) w.heap.size _ vs out := hown1.below (Nat.le_refl _) (below_drewN (Below.refl _ _) nq)
          generalize w1.drewN nq = w2 at *
          have hrw := hrd.below hb1
          clear hbel1 hr2 hr3 q hwb dB dB' hs1 hs2 hs3
          obtain ⟨a4, c4, hs4, hr4⟩ := run_slice8 S8 hrw (some (.int .i64 (k + 8))) (some (.int .i64 (k + 8 + sizeOf4 (l.drop k)))) (k + 8) (k + 8 + sizeOf4 (l.drop k)) (.inr rfl) (.inr rfl) (by omega) (by omega)
          obtain ⟨a5, c5, hs5, hr5⟩ := run_slice8 S8 hrw (some (.int .i64 (k + 8 + sizeOf4 (l.drop k)))) none (k + 8 + sizeOf4 (l.drop k)) l.length (.inr rfl) (.inl ⟨rfl, rfl⟩) (by omega) (Nat.le_refl _)
          rw [Nat.add_sub_cancel_left] at hs4 hr4
          rw [List.take_of_length_le (by simp)] at hr5
          have er : (l.drop (k + 8)).take (sizeOf4 (l.drop k)) = recOf (l.drop k) := by unfold recOf; rw [List.drop_drop]
          rw [er] at hr4
          have Hp : Hid ((recOf (l.drop k)).length = sizeOf4 (l.drop k)) := hr4.1.symm
          have hpl : (recOf (l.drop k)).length ≤ 262144 := by rw [Hp.out]; exact hA
          clear er
          go_wp2_with fail
          refine (get_any _ _ _ _ w2 hr5 (by simp; omega)).mono ?_
          rintro e w3 ⟨rfl, nd3, hw3⟩
          have h23 : Below w2.heap.size w2 w3 := by rw [hw3]; exact below_drewN (Below.refl _ _) nd3
          have hl3 := h23.size
          clear hw3
          go_wp2_with fail
          refine (sum_any _ _ _ _ w3 (hr4.below h23) (by omega)).mono ?_
          rintro e w4 ⟨rfl, h34⟩
          have hl4 := h34.size
          have h24 : Below w2.heap.size w2 w4 := h23.trans (h34.mono hl3)
          have hb4 : Below w.heap.size w w4 := hb1.trans (h24.mono hb1.size)
          have hown4 := hown1.below (Nat.le_refl _) h24
          have hr4' := hr4.below h24
          clear h23 h34 hr4 hr5 hown1 hb1 hrw hl3 hl4
          by_cases hD : get4 (l.drop (k + 8 + sizeOf4 (l.drop k))) = crc (recOf (l.drop k))
          · have dD : (n32 (get4 (l.drop (k + 8 + sizeOf4 (l.drop k)))) == n32 (crc (recOf (l.drop k)))) = true := by rw [beq_iff_eq, hD]
            have dD' : (n32 (get4 (l.drop (k + 8 + sizeOf4 (l.drop k)))) != n32 (crc (recOf (l.drop k)))) = false := by rw [bne, dD]; rfl
            have Hw : Hid (whole (l.drop k) = true) := by
             rw [Hwl.out, Hh.out, List.drop_drop, ← Nat.add_assoc, hD]; simp; trivial
            have Hn := Lib.hid ((Hat.out).next Hw.out)
            clear hD
            have hls := hb4.size
            go_wp2_with (at_builtin; refine wpList_app S8 rfl (.tmp 62) (.tmp 63) rfl w4.heap.size rfl (World.ownsRow_lit w4 #[] 0 (Nat.le_refl _) (by decide) rfl) rfl (hr4'.below ((Below.refl _ _).alloc (Nat.le_refl _) _)).2 ?c1 ?c2 ?c3 ?c4 ?_)
            case c1 => exact B8_one _
            case c2 => omega
            case c3 => unfold maxLen; omega
            case c4 => simp
            intro u5 w5 hown5 hb5 _
            have hown5 := Own8.mk (l := recOf (l.drop k)) hown5 (by rw [Hp.out]) (by simp)
            obtain ⟨a6, c6, rfl, _⟩ := hown5.rd
            have hb45 : Below w4.heap.size w4 w5 := ((Below.refl _ _).alloc (Nat.le_refl _) _).trans hb5
            have hl5 := hb45.size
            have hv5 := ownsRow_below hown4.1 (Nat.le_refl _) hb45
            have houtl : out.length ≤ 1000000 := by
             have := (Hat.out).2.1
             omega
            clear hr4' hb5
            go_wp2_with (at_builtin; refine wpList_app S88 rfl (.tmp 61) (.tmp 65) rfl w.heap.size rfl (hv5.alloc _) rfl (Rd.one _ _ _) ?c1 ?c2 ?c3 ?c4 ?_)
            case c1 => simp [Value.oneCell']
            case c2 => omega
            case c3 => unfold maxLen; omega
            case c4 => simp; omega
            intro u6 w6 hown6 hb6 hg6
            have h88 := Own88.snoc hown4 (hb45.alloc (by omega) _) (hown5.alloc _) hls hown6 hg6
            have hb7 : Below w.heap.size w w6 := ((hb4.trans (hb45.mono hls)).alloc (by omega) _).trans hb6
            clear hown4 hown5 hown6 hg6 hv5 hb45 hb6
            go_wp2
            go_roundw
            case rel => exact ⟨_, _, _, by go_num, Hn.out, h88, hb7⟩
            case measure => simp [intOf]; omega
          · have dD : (n32 (get4 (l.drop (k + 8 + sizeOf4 (l.drop k)))) == n32 (crc (recOf (l.drop k)))) = false := by rw [beq_eq_false_iff_ne]; exact fun e => hD (n32_inj.1 e)
            have dD' : (n32 (get4 (l.drop (k + 8 + sizeOf4 (l.drop k)))) != n32 (crc (recOf (l.drop k)))) = true := by rw [bne, dD]; rfl
            have Hd := Lib.hid ((Hat.out).done (by rw [Hwl.out, List.drop_drop, ← Nat.add_assoc]; simp [hD]))
            clear hD
            go_wp2
            go_ret2
            exact ⟨_, vs, by rw [Hd.out]; rfl, by rw [Hd.out]; exact hown4, hb4⟩
        · have dC : decide ((l.length : Int) - k - 12 < sizeOf4 (l.drop k)) = true := by simp; omega
          have Hd := Lib.hid ((Hat.out).done (by rw [Hwl.out, Hho.out]; simp [hC]))
          clear hB
          go_quiet (first | (go_at_call 98; exact Calls.quiet_of (get_any _ _ _ _ _ (q _ ⟨_, rfl⟩).1 L1)) | (go_at_call 85; exact Calls.quiet_of_same (sum_few _ _ _ _ _ (q _ ⟨_, rfl⟩).2 L2)))
          clear e4 elk elk12
          go_wp2
          go_ret2
          exact ⟨_, vs, by rw [Hd.out]; rfl, by rw [Hd.out]; exact hown1, below_drewN hbel1 _⟩
      · have dB : (n32 (get4 (l.drop (k + 4))) == n32 (crc ((l.drop k).take 4))) = false := by rw [beq_eq_false_iff_ne]; exact fun e => hB (n32_inj.1 e)
        have dB' : (n32 (get4 (l.drop (k + 4))) != n32 (crc ((l.drop k).take 4))) = true := by rw [bne, dB]; rfl
        have Hd := Lib.hid ((Hat.out).done (by rw [Hwl.out, Hho.out]; simp [hB]))
        clear hB
        go_quiet (first | (go_at_call 98; exact Calls.quiet_of (get_any _ _ _ _ _ (q _ ⟨_, rfl⟩).1 L1)) | (go_at_call 85; exact Calls.quiet_of_same (sum_few _ _ _ _ _ (q _ ⟨_, rfl⟩).2 L2)))
        clear e4 elk elk12
        go_wp2
        go_ret2
        exact ⟨_, vs, by rw [Hd.out]; rfl, by rw [Hd.out]; exact hown1, below_drewN hbel1 _⟩
    · have dA : decide ((262144 : Int) < sizeOf4 (l.drop k)) = true := by simp; omega
      have Hd := Lib.hid ((Hat.out).done (by rw [Hwl.out, Hho.out]; simp [hA]))
      go_quiet (fail)
      go_wp2
      go_ret2
      exact ⟨_, vs, by rw [Hd.out]; rfl, by rw [Hd.out]; exact hown1, below_drewN hbel1 _⟩
  · have d12 : decide ((12 : Int) ≤ l.length - k) = false := by simp; omega
    have Hd := Lib.hid ((Hat.out).done (by unfold whole; simp; omega))
    go_wp2
    go_ret2
    exact ⟨_, vs, by rw [Hd.out]; rfl, by rw [Hd.out]; exact hown, hbel⟩
end Go.Proofs.YtjjcilinghgphaaGreat
