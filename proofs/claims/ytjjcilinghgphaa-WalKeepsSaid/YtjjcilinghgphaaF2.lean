import Derived.Test.YtjjcilinghgphaaF1
namespace Go.Proofs.Ytjjcilinghgphaa
open Go.RowKit

theorem k_and1 (x : UInt32) : bits .and .u32 (n32 x) 1 = n32 (x &&& 1) := n32_and x 1
theorem k_andp (x : UInt32) : bits .and .u32 2197175160 (n32 x) = n32 (0x82F63B78 &&& x) := n32_and 0x82F63B78 x
theorem k_shr1 (x : UInt32) (yk : IntKind) : Op.shift .shr .u32 (n32 x) yk 1 = pure (.int .u32 (n32 (x >>> 1))) := sh32_shr x yk 1 (by omega) (by omega)
attribute [local go_sem] n32_xor n32_and n8_to32 wr32_neg k_and1 k_andp
attribute [local go_sem high] un32_not k_shr1

/-! ### The table -/
def tabV (k i : Nat) : Value := .int .u32 (n32 (if i < k then stps 8 (UInt32.ofNat i) else 0))
def tab (k : Nat) : Array Value := ((List.range 256).map (tabV k)).toArray
theorem tab_size (k : Nat) : (tab k).size = 256 := by simp [tab]
theorem tab_get (k i : Nat) (h : i < 256) : (tab k)[i]? = some (tabV k i) := by simp [tab, h]
theorem tab_zero : (Try.prog.info? 107).bind (fun i => i.zero.map (·.cells)) = some (tab 0) := by kernel_rfl
theorem tab_info : (Try.prog.info? 107).map (·.size) = some 256 := by kernel_rfl
theorem tab_set (k : Nat) (h : k < 256) : (tab k).setIfInBounds k (.int .u32 (n32 (stps 8 (UInt32.ofNat k)))) = tab (k + 1) := by
  apply Array.ext_getElem?
  intro i
  rw [Array.getElem?_setIfInBounds]
  by_cases hi : i < 256
  · rw [tab_get _ _ hi]
    split
    · rename_i e
      subst e
      rw [if_pos (by rw [tab_size]; exact hi), tab_get _ _ hi]; simp [tabV]
    · rw [tab_get _ _ hi]
      simp only [tabV]
      by_cases h1 : i < k
      · simp [h1, show i < k + 1 by omega]
      · simp [h1, show ¬ i < k + 1 by omega]
  · rw [Array.getElem?_eq_none (by simp [tab_size]; omega), Array.getElem?_eq_none (by simp [tab_size]; omega)]
    split
    · subst_vars; omega
    · rfl
theorem tab_one (k : Nat) : (tab k).all (·.oneCell') = true := by simp [tab, tabV, Value.oneCell']

theorem conv32 (k : Nat) (h : k < 256) : IntKind.u32.wrap (k : Int) = n32 (UInt32.ofNat k) := by
  rw [n32_of _ (by omega)]; exact IntWalk.u32_in _ (by omega)

set_option maxHeartbeats 400000 in
set_option maxRecDepth 100000 in
theorem table_any (w : World) : Calls Try.prog 67 #[] w fun e w' => e = .returned (.agg (tab 256)) ∧ Below w.heap.size w w' := by
  go_enter Try.func67, Try.ntmps67
  go_wp2_with (refine wpList_var rfl 107 rfl (tab 0) tab_zero ?_)
  go_loopw [2, 3, 4] (fun _ _ i wr => ∃ k : Nat, k ≤ 256 ∧ i = .int .i64 k ∧ wr.heap[w.heap.size + 1]? = some (.cells (tab k) 107 (0, 0)) ∧ wr.heap[w.heap.size]? = some (.cells (tab 0) 107 (0, 0)) ∧ Below w.heap.size w wr) (fun _ _ i _ => 256 - (intOf i).toNat)
  case atStart => exact ⟨0, by omega, rfl, heap_alloc2_new w _ _, heap_alloc2_old w _ _, ((Below.refl _ _).alloc (Nat.le_refl _) _).alloc (by simp) _⟩
  case round =>
    obtain ⟨k, hk, rfl, hg1, hg0, hbel⟩ := hrel
    by_cases hlt : k < 256
    · have kc := conv32 k hlt
      have hcell : wr.cell? ⟨w.heap.size + 1, k, none⟩ = some (tabV k k) := by rw [cell_of_row wr _ k _ _ _ hg1, tab_get _ _ hlt]
      have hfr : wr.frozen? ⟨w.heap.size + 1, k, none⟩ = false := frozen_of_row wr _ k _ _ hg1
      go_wp2
      go_loop [3, 9] (fun c i => ∃ j : Nat, j ≤ 8 ∧ i = .int .i64 j ∧ c = .int .u32 (n32 (stps j (UInt32.ofNat k)))) (fun _ i => 8 - (intOf i).toNat)
      case atStart => exact ⟨0, by omega, rfl, rfl⟩
      case round =>
        obtain ⟨j, hj, rfl, rfl⟩ := hrel
        by_cases hj8 : j < 8
        · go_wp2
          go_round
          case rel => exact ⟨j + 1, by omega, by go_num, rfl⟩
          case measure => simp [intOf]; omega
        · obtain rfl : j = 8 := by omega
          go_wp2
          go_roundw
          case rel =>
            refine ⟨k + 1, by omega, by go_num, ?_, ?_, hbel.setCell (p := ⟨w.heap.size + 1, k, none⟩) (Nat.le_succ _) _⟩
            · rw [heap_setCell_same _ _ _ _ _ _ hg1, tab_set k hlt]
            · rw [heap_setCell_other _ _ _ _ (by simp)]; exact hg0
          case measure => simp [intOf]; omega
    · obtain rfl : k = 256 := by omega
      go_wp2_with (first | (refine wpList_load_row rfl 107 (.tmp 1) rfl (w.heap.size + 1) rfl 107 (tab 256) (0, 0) _ hg1 Try.underlying107 rfl (by rw [tab_info, tab_size]) ?_) | (refine wpList_store_row rfl 107 (.tmp 0) (.tmp 23) rfl w.heap.size (tab 256) rfl rfl 107 (tab 0) hg0 (by rw [tab_info, tab_size]) (by rw [tab_size, tab_size]) (tab_one _) ?_))
      exact bodyPost_ret (v := .agg (tab 256)) (results_cell_row rfl _ _ w.heap.size 107 (tab 256) (0, 0) _ rfl (setRow_heap _ _ _ _ _ _ hg0) Try.underlying107 rfl (by rw [tab_info, tab_size])) rfl ⟨rfl, below_setRow hbel (Nat.le_refl _) _⟩

/-! ### frame.Sum -/
set_option maxHeartbeats 400000 in
theorem sum_few (a : Option Addr) (n cap : Nat) (l : List UInt8) (w : World) (h : Rd8 w a n cap l) (hm : l.length < 64) :
    Calls Try.prog 53 #[.slice a n cap] w fun e w' => e = .returned (.int .u32 (n32 (crc l))) ∧ w' = w := by
  obtain ⟨rfl, hr⟩ := h
  have hd : decide ((l.length : Int) < 64) = true := by simp; omega
  go_enter Try.func53, Try.ntmps53
  go_wp2
  go_loop [3, 14] (fun c i => ∃ k : Nat, k ≤ l.length ∧ i = .int .i64 k ∧ c = .int .u32 (n32 (crcTo l k))) (fun _ i => l.length - (intOf i).toNat)
  case atStart => exact ⟨0, Nat.zero_le _, rfl, rfl⟩
  case round =>
    obtain ⟨k, hk, rfl, rfl⟩ := hrel
    by_cases hlt : k < l.length
    · obtain ⟨b, off, rfl, hb, hc⟩ := Rd8.at ⟨rfl, hr⟩ (by omega)
      have hcell := hc k hlt
      have Hs := Lib.hid (crcTo_snoc l k hlt)
      clear hc
      generalize l.getD k 0 = x at *
      go_wp2
      go_loop [3, 22] (fun c i => ∃ j : Nat, j ≤ 8 ∧ i = .int .i64 j ∧ c = .int .u32 (n32 (stps j (crcTo l k ^^^ x.toUInt32)))) (fun _ i => 8 - (intOf i).toNat)
      case atStart => exact ⟨0, by omega, rfl, rfl⟩
      case round =>
        obtain ⟨j, hj, rfl, rfl⟩ := hrel
        by_cases hj8 : j < 8
        · go_wp2
          go_round
          case rel => exact ⟨j + 1, by omega, by go_num, rfl⟩
          case measure => simp [intOf]; omega
        · obtain rfl : j = 8 := by omega
          go_wp2
          go_round
          case rel => exact ⟨k + 1, by omega, by go_num, by rw [Hs.out]; rfl⟩
          case measure => simp [intOf]; omega
    · have Hs := Lib.hid (crcTo_all l k (by omega))
      go_wp2
      go_ret
      exact ⟨by unfold crc; rw [Hs.out]; rfl, rfl⟩

theorem k_shr8 (x : UInt32) (yk : IntKind) : Op.shift .shr .u32 (n32 x) yk 8 = pure (.int .u32 (n32 (x >>> 8))) := sh32_shr x yk 8 (by omega) (by omega)
attribute [local go_sem high] k_shr8
attribute [local go_sem] n32_to8 n8_xor
set_option maxHeartbeats 400000 in
set_option maxRecDepth 100000 in
theorem sum_many (a : Option Addr) (n cap : Nat) (l : List UInt8) (w : World) (h : Rd8 w a n cap l) (hm : 64 ≤ l.length) (hn : l.length ≤ 140737488355328) :
    Calls Try.prog 53 #[.slice a n cap] w fun e w' => e = .returned (.int .u32 (n32 (crc l))) ∧ Below w.heap.size w w' := by
  have hrd := h
  obtain ⟨rfl, hr⟩ := h
  have hd : decide ((l.length : Int) < 64) = false := by simp; omega
  go_enter Try.func53, Try.ntmps53
  go_wp2_with (first | (go_at_call 67; refine (table_any _).mono ?_; rintro e w1 ⟨rfl, hb1⟩) | (refine wpList_var rfl 107 rfl (tab 0) tab_zero ?_) | (refine wpList_store_row rfl 107 (.tmp 6) (.tmp 35) rfl w1.heap.size (tab 256) rfl rfl 107 (tab 0) (heap_alloc_new w1 _) (by rw [tab_info, tab_size]) (by rw [tab_size, tab_size]) (tab_one _) ?_))
  have hrow : ((w1.alloc (.cells (tab 0) 107)).setRow w1.heap.size (tab 256)).heap[w1.heap.size]? = some (.cells (tab 256) 107 (0, 0)) := setRow_heap _ _ _ _ _ _ (heap_alloc_new w1 _)
  have hb2 : Below w.heap.size w ((w1.alloc (.cells (tab 0) 107)).setRow w1.heap.size (tab 256)) := below_setRow (hb1.alloc hb1.size _) hb1.size _
  generalize hW : (w1.alloc (.cells (tab 0) 107)).setRow w1.heap.size (tab 256) = W at *
  clear hW
  have hr2 := hrd.below hb2
  go_loop [3, 38] (fun c i => ∃ k : Nat, k ≤ l.length ∧ i = .int .i64 k ∧ c = .int .u32 (n32 (crcTo l k))) (fun _ i => l.length - (intOf i).toNat)
  case atStart => exact ⟨0, Nat.zero_le _, rfl, rfl⟩
  case round =>
    obtain ⟨k, hk, rfl, rfl⟩ := hrel
    by_cases hlt : k < l.length
    · obtain ⟨b, off, rfl, hb, hc⟩ := hr2.at (by omega)
      have hcell := hc k hlt
      have Hs := Lib.hid (crcTo_snoc l k hlt)
      clear hc
      generalize l.getD k 0 = x at *
      have t0 := n8_nn ((crcTo l k).toUInt8 ^^^ x)
      have t1 := n8_lt ((crcTo l k).toUInt8 ^^^ x)
      have tc : W.cell? ⟨w1.heap.size, (n8 ((crcTo l k).toUInt8 ^^^ x)).toNat, none⟩ = some (.int .u32 (n32 (stps 8 (UInt32.ofNat (n8 ((crcTo l k).toUInt8 ^^^ x)).toNat)))) := by
        rw [cell_of_row _ _ _ _ _ _ hrow, tab_get _ _ (by omega)]; unfold tabV; rw [if_pos (by omega)]
      clear hrow hr2
      go_wp2
      go_round
      case rel => exact ⟨k + 1, by omega, by go_num, by rw [Hs.out, upd_tab]⟩
      case measure => simp [intOf]; omega
    · have Hs := Lib.hid (crcTo_all l k (by omega))
      go_wp2
      go_ret
      exact ⟨by unfold crc; rw [Hs.out]; rfl, hb2⟩

/-- frame.Sum of any bytes. -/
theorem sum_any (a : Option Addr) (n cap : Nat) (l : List UInt8) (w : World) (h : Rd8 w a n cap l) (hn : l.length ≤ 140737488355328) :
    Calls Try.prog 53 #[.slice a n cap] w fun e w' => e = .returned (.int .u32 (n32 (crc l))) ∧ Below w.heap.size w w' := by
  by_cases hm : l.length < 64
  · exact (sum_few a n cap l w h hm).mono fun _ _ ⟨he, hw⟩ => ⟨he, by rw [hw]; exact Below.refl _ _⟩
  · exact sum_many a n cap l w h (by omega) hn
end Go.Proofs.Ytjjcilinghgphaa
