/-
 The walk of WalOpens.
-/
import Derived.Test.YtjjcilinghgphaaGreatUE
import Derived.Test.YtjjcilinghgphaaGreatEV
namespace Go.Proofs.YtjjcilinghgphaaGreat
open Go.RowKit Go.Maps Go.Sort
set_option maxRecDepth 100000
attribute [local go_sem] bs_size bs_toList
theorem wf64u {n : Int} (h : (Lit.int .i64 n).wf = true) : -9223372036854775808 ≤ n ∧ n ≤ 9223372036854775807 := by
 simp [Lit.wf, IntKind.min, IntKind.max, IntKind.signed, IntKind.bits] at h; omega
theorem wsI_take7 (l : List FlI) (k : Nat) : wsI (l.take k) ≤ k * 40002 := by
 have := wsI_le (l.take k)
 rw [List.length_take] at this
 have h2 : min k l.length * 40002 ≤ k * 40002 := Nat.mul_le_mul_right _ (Nat.min_le_left _ _)
 omega
set_option maxHeartbeats 8000000 in
theorem wopens_walk (a : Option Addr) (n cap : Nat) (l : List FlI) (dir : List UInt8) (room arm : Int) (w : World) (h : RdFi w (fun b => b < w.heap.size) a n cap l) (hd : dir.length ≤ 9223372036854775807) (ha0 : -9223372036854775808 ≤ arm) (ha1 : arm ≤ 9223372036854775807) :
 Calls Tryz.prog 3 #[.slice a n cap, .string (bs dir), .int .i64 room, .int .i64 arm] w (TEnd w) := by
 have H0 := Lib.hid h
 have HN := Lib.hid h.1
 have HA0 : Hid (-9223372036854775808 ≤ arm ∧ arm ≤ 9223372036854775807) := ⟨ha0, ha1⟩
 have hm1 : n ≤ 9223372036854775807 := by obtain ⟨_, _, vs, hr, _⟩ := h; exact Nat.le_trans hr.1 hr.2.1
 obtain ⟨dl, hdl⟩ : ∃ dl, dir.length = dl := ⟨_, rfl⟩
 clear h ha0 ha1
 go_enter Tryz.func3, Tryz.ntmps3
 go_wp2_with fail
 go_at_call 5
 refine (wfirst_any w).mono ?_
 rintro e wa ⟨rfl, hb⟩
 have HBA := Lib.hid hb
 clear hb
 go_wp2_with fail
 go_loopw [9, 10] (fun x i wx => ∃ k : Nat, k ≤ n ∧ k ≤ 200 ∧ i = .int .i64 (k : Nat) ∧ x = .int .i64 (wsI (l.take k) : Nat) ∧ Hid (Below w.heap.size w wx)) (fun _ i _ => n - (intOf i).toNat)
 case atStart => exact ⟨0, Nat.zero_le _, Nat.zero_le _, rfl, rfl, HBA.out⟩
 case round =>
  clear HBA
  obtain ⟨k, hk, hk3, rfl, rfl, HB⟩ := hrel
  have hws := wsI_take7 l k
  by_cases hlt : k < n
  · by_cases hl3 : k < 200
    · obtain ⟨f, hf⟩ : ∃ f, l[k]? = some f := ⟨_, List.getElem?_eq_getElem (by have := HN.out; omega)⟩
      obtain ⟨b, off, ai, ci, rfl, hrd, q0, q1, q2⟩ := (H0.out.below HB.out).at hf
      have HS := Lib.hid (wsI_snoc hf)
      have hb1 : f.dt.length ≤ 9223372036854775807 := Nat.le_trans hrd.2.1.2.1 hrd.2.1.2.2.1
      have hb2 := hrd.1.1
      clear hf hrd
      go_wp2_with fail
      go_quiet (fail)
      go_wp2_with fail
      go_roundw
      case rel => exact ⟨k + 1, by omega, by omega, by go_num, by rw [HS.out]; unfold wgI; congr 1; omega, HB.out.trans ⟨rfl, rfl, rfl, Nat.le_refl _, fun _ _ => rfl⟩⟩
      case measure => simp [intOf]; omega
    · have hn3 : decide (200 < n) = true := by simp; omega
      go_wp2_with fail
      go_at_call 5
      refine (wfirst_any wr).mono ?_
      rintro e wc ⟨rfl, hb⟩
      have HBC := Lib.hid (next_below HB.out hb)
      clear hb
      go_wp2_with fail
      go_ret
      exact TEnd.mk HBC.out
  · obtain rfl : k = n := by omega
    have hwl : wsI (l.take k) = wsI l := by rw [List.take_of_length_le (by rw [HN.out]; exact Nat.le_refl _)]
    rw [hwl] at hws ⊢
    obtain ⟨U, hU⟩ : ∃ U, wsI l = U := ⟨_, rfl⟩
    rw [hU] at hws ⊢
    have HU := Lib.hid hU
    clear hwl hU
    have hn3 : decide (200 < k) = false := by simp; omega
    by_cases hbig : 20000 < U
    · have d1 : decide (20000 < U) = true := by simpa using hbig
      go_wp2_with fail
      go_at_call 5
      refine (wfirst_any wr).mono ?_
      rintro e wc ⟨rfl, hb⟩
      have HBC := Lib.hid (next_below HB.out hb)
      clear hb
      go_wp2_with fail
      go_ret
      exact TEnd.mk HBC.out
    have d1 : decide (20000 < U) = false := by simpa using hbig
    by_cases hlong : (200 : Int) < (dl : Int)
    · have hlong' : decide (200 < dl) = true := by simp; omega
      go_wp2_with fail
      go_at_call 5
      refine (wfirst_any wr).mono ?_
      rintro e wc ⟨rfl, hb⟩
      have HBC := Lib.hid (next_below HB.out hb)
      clear hb
      go_wp2_with fail
      go_ret
      exact TEnd.mk HBC.out
    have hlong' : decide (200 < dl) = false := by simp; omega
    have hT : totI l ≤ 20000 := wsI_tot (by rw [HU.out]; omega)
    have HT := Lib.hid hT
    have HDIR : Hid (dir.length ≤ 1000000) := by show _ ≤ _; omega
    have hk3' : k ≤ 100000 := by omega
    clear hT hws hd
    go_wp2_with fail
    go_at_call 6
    clear hdl hlong hlong' hn3 d1 hbig hm1
    refine (load_any _ _ _ l _ wr (H0.out.below HB.out) (by have := HT.out; omega) hk3').mono ?_
    rintro e w1 ⟨hb1, hp1⟩
    have HB1 := Lib.hid hb1
    have HR1 := Lib.hid (rload_any a k cap l _ w1 ((H0.out.below HB.out).below hb1) (by have := HT.out; omega) hk3')
    have HB01 := Lib.hid (next_below HB.out hb1)
    rcases hp1 with ⟨hne, rfl⟩ | ⟨he0, hok, d, rfl, hdk⟩
    · have HNE := Lib.hid hne
      obtain ⟨E, hE⟩ : ∃ E, loadE l = E := ⟨_, rfl⟩
      rw [hE]
      have HE := Lib.hid hE
      clear hne hE hb1
      go_wp2_with fail
      go_at_call 7
      refine (HR1.out).mono ?_
      rintro e w2 ⟨hb2, hp2⟩
      have HB2 := Lib.hid (next_below HB01.out hb2)
      rcases hp2 with ⟨_, rfl⟩ | ⟨he0, _⟩
      · rw [HE.out]
        clear hb2 HR1 HB1
        go_wp2_with (go_at_call 5; refine (wfirst_any w2).mono ?_; rintro e w3 ⟨rfl, hb3⟩; have HB3 := Lib.hid (next_below HB2.out hb3); clear hb3)
        go_ret
        exact TEnd.mk HB3.out
      · exact absurd he0 HNE.out
    · have HOK := Lib.hid hok
      have HDK := Lib.hid hdk
      have HE := Lib.hid he0
      clear hok hdk he0 hb1
      go_wp2_with fail
      go_at_call 7
      refine (HR1.out).mono ?_
      rintro e w2 ⟨hb2, hp2⟩
      rcases hp2 with ⟨hne, _⟩ | ⟨_, c, rfl, hrf⟩
      · exact absurd HE.out hne
      have hab : AB wr (fun k => wr.heap.size ≤ k ∧ k < w1.heap.size) (fun k => w1.heap.size ≤ k ∧ k < w2.heap.size) w2 :=
       ⟨fun k hk => hk.1, fun k hk => Nat.le_trans HB1.out.size hk.1, fun k hk => Nat.lt_of_lt_of_le hk.2 hb2.size, fun k hk => hk.2, fun k hk e => by have := hk.2; have := e.1; omega, next_below HB1.out hb2⟩
      have HAB := Lib.hid hab
      have HDK2 := Lib.hid (HDK.out.below hb2)
      have HRF := Lib.hid hrf
      clear hab hrf hb2 HDK HR1
      go_wp2_with fail
      go_at_call 8
      refine (arm_any d _ 0 (loadS l) arm HA0.out.2 w2 HDK2.out).mono ?_
      rintro e w3 ⟨rfl, hd3⟩
      have HAB3 := Lib.hid (HAB.out.stepL hd3.2)
      have HD3 := Lib.hid hd3
      have HRF3 := Lib.hid (HRF.out.keep hd3.2 fun k hk e => HAB.out.dj k e hk)
      clear hd3
      go_wp2_with fail
      go_at_call 9
      refine (rarm_any c _ (loadS l) arm HA0.out.1 HA0.out.2 w3 HRF3.out).mono ?_
      rintro e w4 ⟨rfl, hr4, hf4⟩
      have hab4 := HAB3.out.stepR hf4
      have hdk4 := HD3.out.1.keep hf4 HAB3.out.dj
      have hrf4 := hr4.grow (fun k hk => .inl hk) hab4.l1
      have hbl4 := hab4.bl
      have hba : Below w4.heap.size w4 (w4.alloc (.cells (bothC d c none none dir room) 39)) := (Below.refl _ _).alloc (Nat.le_refl _) _
      have hbd : BD wr 0 w4.heap.size d c dir room (armS (loadS l) arm) _ _ none none (w4.alloc (.cells (bothC d c none none dir room) 39)) := ⟨hab4.new hba, hab4.fresh _ _, hdk4.below hba, hrf4.below hba, hbl4.size⟩
      unfold bothC at hbd
      obtain ⟨X, hX⟩ : ∃ X, w4.alloc (.cells #[.pointer (some ⟨d, 0, none⟩), .pointer (some ⟨c, 0, none⟩), .pointer none, .pointer none, .string (bs dir), .int .i64 room] 39) = X := ⟨_, rfl⟩
      rw [hX] at hbd
      obtain ⟨q, hq⟩ : ∃ q, w4.heap.size = q := ⟨_, rfl⟩
      rw [hq] at hbd
      have HBD := Lib.hid hbd
      clear hab4 hdk4 hrf4 hbl4 hba hbd hr4 hf4
      go_wp2_with fail
      go_at_call 5
      clear hX hq
      refine (wfirst_any X).mono ?_
      rintro e X1 ⟨rfl, hb5⟩
      have HBD2 : Hid (BD wr 0 q d c dir room (armS (loadS l) arm) _ _ none none X1) := ⟨HBD.out.ab.new hb5, HBD.out.rb.new hb5, HBD.out.dk.below hb5, HBD.out.rf.below hb5, HBD.out.q0⟩
      clear hb5
      go_wp2_with fail
      go_at_call 10
      refine (opens_any HBD2.out (by omega) HDIR.out).mono ?_
      rintro e X2 ⟨rfl, hbb⟩
      have HBB := Lib.hid hbb
      clear hbb
      go_wp2_with fail
      go_at_call 11
      refine (stands_any HBB.out).mono ?_
      rintro e X3 ⟨rfl, hb3⟩
      have HB3 := Lib.hid (next_below (next_below HB.out HBB.out.bl) hb3)
      clear hb3
      go_wp2_with fail
      go_ret
      exact TEnd.mk HB3.out
end Go.Proofs.YtjjcilinghgphaaGreat
