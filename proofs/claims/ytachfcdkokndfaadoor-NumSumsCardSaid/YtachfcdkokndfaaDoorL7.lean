/-
  The walk of the law NumSums.
-/
import Derived.Test.YtachfcdkokndfaaDoorL2
namespace Go.Proofs.YtachfcdkokndfaaDoor
open Go.RowKit Go.Shelf Go.Sort
theorem SF : STy Tryd.prog 40 22 (.float .f64 0) 1 8 := ⟨Tryd.underlying40, ⟨_, rfl, by kernel_rfl, by kernel_rfl, by kernel_rfl⟩, rfl, by decide⟩
set_option maxHeartbeats 1000000 in
theorem numSums_walk (a : Option Addr) (n cap : Nat) (l : List UInt64) (w : World) (hT : Laid w) (hR : RdF w a n cap l) : Calls Tryd.prog 9 #[.slice a n cap] w fun e w' => e = .returned (.bool true) ∧ Below w.heap.size w w' := by
  have hrd := hR
  obtain ⟨rfl, hr⟩ := hR
  have hm := hr.2.1
  have hnc := hr.1
  unfold maxLen at hm
  by_cases h : 20000 < l.length
  · go_enter Tryd.func9, Tryd.ntmps9
    go_wp2_with fail
    go_at_call 15
    refine (first_any _ hT).mono ?_
    rintro e w1 ⟨rfl, hb⟩
    go_wp2_with fail
    go_at_call 15
    refine (first_any _ (hT.below hb)).mono ?_
    rintro e w2 ⟨rfl, hb2⟩
    go_wp2
    go_ret
    exact ⟨rfl, hb.trans (hb2.mono hb.size)⟩
  · go_enter Tryd.func9, Tryd.ntmps9
    go_wp2_with fail
    go_at_call 15
    refine (first_any _ hT).mono ?_
    rintro e w1 ⟨rfl, hb1⟩
    have hrd1 := hrd.below hb1
    go_wp2_with (at_builtin; refine wpList_app SF rfl (.tmp 12) (.tmp 13) rfl w1.heap.size rfl (World.ownsRow_lit w1 #[] 0 (Nat.le_refl _) (by decide) rfl) rfl (hrd1.below ((Below.refl _ _).alloc (Nat.le_refl _) _)).2 ?c1 ?c2 ?c3 ?c4 ?_)
    case c1 => exact BF_one _
    case c2 => omega
    case c3 => unfold maxLen; omega
    case c4 => simp
    intro v2 w2 hown2 hb2 _
    have hown2 : w2.ownsRow w1.heap.size 22 1 v2 l.length (BF l) := by simpa using hown2
    have hs1 : w1.heap.size + 1 ≤ w2.heap.size := by have := hb2.size; simpa using this
    have hb12 : Below w1.heap.size w1 w2 := ((Below.refl _ _).alloc (Nat.le_refl _) _).trans hb2
    have hbw2 := hb1.trans (hb12.mono hb1.size)
    obtain ⟨a2, cap2, rfl, hr2⟩ := Rd.of_own hown2
    have hrd2 : RdF w2 a2 l.length cap2 l := ⟨rfl, hr2⟩
    have hrdl : RdF w2 a l.length cap l := hrd.below hbw2
    clear hown2 hb2 hb12 hrd1
    go_wp2_with fail
    go_at_call 34
    refine (sum_any _ _ _ l _ hrd2).mono ?_
    rintro e w3 ⟨rfl, nd, rfl⟩
    have hnc2 := hr2.1
    have hm2 := hr2.2.1
    unfold maxLen at hm2
    clear hr hr2
    go_wp2_with fail
    go_loopw [5] (fun i wr => ∃ k : Nat, k ≤ l.length ∧ i = .int .i64 k ∧ Below w2.heap.size w2 wr) (fun i _ => l.length - (intOf i).toNat)
    case atStart => exact ⟨0, Nat.zero_le _, rfl, below_drewN (Below.refl _ _) _⟩
    case round =>
      obtain ⟨k, hk, rfl, hbr⟩ := hrel
      have hrdl := hrdl.below hbr
      have hrd2 := hrd2.below hbr
      have hbwr := hbw2.trans (hbr.mono hbw2.size)
      by_cases hlt : k < l.length
      · obtain ⟨b, off, rfl, hb, hc⟩ := hrdl.at (by omega)
        obtain ⟨b2, off2, rfl, hb2, hc2⟩ := hrd2.at (by omega)
        have hcell := hc k hlt
        have hcell2 := hc2 k hlt
        clear hc hc2
        generalize l.getD k 0 = x at *
        have k0 : (0 : Int) ≤ (k : Int) := by omega
        have k1 : (k : Int) < (l.length : Int) := by omega
        go_wp2_with fail
        go_quiet ((go_at_call 20; exact Calls.quiet_of_same (rbits_self _ _)))
        go_wp2
        go_roundw
        case rel => exact ⟨k + 1, by omega, by go_num, below_drewN hbr _⟩
        case measure => simp [intOf]; omega
      · have hlt' : decide ((k : Int) < (l.length : Int)) = false := by simpa using hlt
        go_wp2_with fail
        go_at_call 15
        refine (first_any _ (hT.below hbwr)).mono ?_
        rintro e w4 ⟨rfl, hb4⟩
        have hbw4 : Below w.heap.size w w4 := hbwr.trans (hb4.mono hbwr.size)
        have hrd4 := hrd.below hbw4
        go_wp2_with fail
        go_at_call 35
        refine (refSum_any _ _ _ l _ hrd4).mono ?_
        rintro e w5 ⟨rfl, nd5, rfl⟩
        go_wp2_with (go_at_call 20; ((with_reducible refine (rbits_self _ _).mono ?_); rintro e w' ⟨rfl, rfl⟩))
        go_ret
        exact ⟨rfl, below_drewN hbw4 _⟩
end Go.Proofs.YtachfcdkokndfaaDoor
