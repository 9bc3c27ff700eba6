/-
 The reference's Scan.
-/
import Derived.Test.YtjjcilinghgphaaGreatFZ
import Derived.Deep.RegionWith
import Derived.Test.YtjjcilinghgphaaGreatK4
namespace Go.Proofs.YtjjcilinghgphaaGreat
open Go.RowKit

theorem below_next {w1 w2 w3 : World} (h : Below w1.heap.size w1 w2) (h2 : Below w2.heap.size w2 w3) : Below w1.heap.size w1 w3 := h.trans (h2.mono h.size)
set_option maxRecDepth 100000
attribute [local go_sem] bs_toList
set_option maxHeartbeats 800000 in
theorem refScan_any (a : Option Addr) (n cap : Nat) (l : List UInt8) (w : World) (h : Rd8 w a n cap l) (hn : l.length ≤ 5000000) :
 Calls Tryz.prog 66 #[.slice a n cap] w (ScanEnd w l) := by
 have hrd := h
 obtain ⟨rfl, hr⟩ := h
 go_enter Tryz.func66, Tryz.ntmps66
 go_wp2
 go_loopw [4, 5, 6, 7, 8] (fun v at_ _ _ _ wr => ∃ k out vs, at_ = .int .i64 (k : Nat) ∧ ScanAt l k out ∧ Own88 wr w.heap.size v vs out ∧ Below w.heap.size w wr) (fun _ at_ _ _ _ _ => l.length - (intOf at_).toNat)
 case atStart => exact ⟨0, [], [], rfl, ScanAt.start l, Own88.nil _ _, Below.refl _ _⟩
 case round =>
  obtain ⟨k, out, vs, rfl, hat, hown, hbel⟩ := hrel
  have hkl := hat.1
  have Hat := Lib.hid hat
  clear hat
  have hrw := hrd.below hbel
  by_cases h12 : 12 ≤ l.length - k
  · obtain ⟨a3, cp3, hs3, hr3⟩ := run_slice8 S8 hrw (some (.int .i64 k)) (some (.int .i64 (k + 4))) k (k + 4) (.inr rfl) (.inr rfl) (by omega) (by omega)
    obtain ⟨a2, cp2, hs2, hr2⟩ := run_slice8 S8 hrw (some (.int .i64 (k + 4))) (some (.int .i64 (k + 8))) (k + 4) (k + 8) (.inr rfl) (.inr rfl) (by omega) (by omega)
    rw [Nat.add_sub_cancel_left] at hs3 hr3
    rw [show k + 8 - (k + 4) = 4 by omega] at hs2 hr2
    have d12 : decide ((12 : Int) ≤ l.length - k) = true := by simp; omega
    have hwl : whole (l.drop k) = (headOk (l.drop k) && get4 ((l.drop k).drop (8 + sizeOf4 (l.drop k))) == crc (recOf (l.drop k))) := by
     unfold whole; rw [show decide (12 ≤ (l.drop k).length) = true by rw [List.length_drop]; simpa using h12]; rfl
    have Hwl := Lib.hid hwl; clear hwl
    have hho : headOk (l.drop k) = (decide (sizeOf4 (l.drop k) ≤ 262144) && get4 (l.drop (k + 4)) == crc ((l.drop k).take 4) && decide (sizeOf4 (l.drop k) + 12 ≤ l.length - k)) := by
     unfold headOk; rw [List.drop_drop]; simp
    have Hho := Lib.hid hho; clear hho
    obtain ⟨b, off, rfl, hb, hc⟩ := hr3.at (by simp; omega)
    have hsz : (sizeOf4 (l.drop k) : Int) = n8 (((l.drop k).take 4).getD 0 0) + n8 (((l.drop k).take 4).getD 1 0) * 256 + n8 (((l.drop k).take 4).getD 2 0) * 65536 + n8 (((l.drop k).take 4).getD 3 0) * 16777216 := by
     have hg4 := get4_nat (l.drop k)
     have ht : ∀ i, i < 4 → ((l.drop k).take 4).getD i 0 = (l.drop k).getD i 0 := fun i hi => by simp [List.getD, List.getElem?_take, hi]
     rw [ht 0 (by omega), ht 1 (by omega), ht 2 (by omega), ht 3 (by omega)]
     unfold sizeOf4
     rw [hg4]
     simp [n8]
    have lt4 : 4 ≤ ((l.drop k).take 4).length := by simp; omega
    have c0 := hc 0 (by omega)
    have c1 := hc 1 (by omega)
    have c2 := hc 2 (by omega)
    have c3 := hc 3 (by omega)
    clear hc
    rw [Nat.add_zero] at c0
    have Hsz := Lib.hid hsz; clear hsz
    generalize ((l.drop k).take 4).getD 0 0 = x0 at *
    generalize ((l.drop k).take 4).getD 1 0 = x1 at *
    generalize ((l.drop k).take 4).getD 2 0 = x2 at *
    generalize ((l.drop k).take 4).getD 3 0 = x3 at *
    have b0 := n8_bd x0
    have b1 := n8_bd x1
    have b2 := n8_bd x2
    have b3 := n8_bd x3
    have s1 : IntKind.i64.wrap (n8 x1 * 256) = n8 x1 * 256 := IntWalk.i64_in _ (by omega)
    have s2 : IntKind.i64.wrap (n8 x2 * 65536) = n8 x2 * 65536 := IntWalk.i64_in _ (by omega)
    have s3 : IntKind.i64.wrap (n8 x3 * 16777216) = n8 x3 * 16777216 := IntWalk.i64_in _ (by omega)
    have t1 : IntKind.i64.wrap (n8 x0 + n8 x1 * 256) = n8 x0 + n8 x1 * 256 := IntWalk.i64_in _ (by omega)
    have t2 : IntKind.i64.wrap (n8 x0 + n8 x1 * 256 + n8 x2 * 65536) = n8 x0 + n8 x1 * 256 + n8 x2 * 65536 := IntWalk.i64_in _ (by omega)
    have t3 : IntKind.i64.wrap (n8 x0 + n8 x1 * 256 + n8 x2 * 65536 + n8 x3 * 16777216) = n8 x0 + n8 x1 * 256 + n8 x2 * 65536 + n8 x3 * 16777216 := IntWalk.i64_in _ (by omega)
    have i1 := n8_toI x1
    have i2 := n8_toI x2
    have i3 := n8_toI x3
    have i0 := n8_toI x0
    go_wp2_with fail
    go_quiet (fail)
    go_wp2_with fail
    clear s1 s2 s3 t1 t2 t3 i0 i1 i2 i3
    rw [← Hsz.out]
    have hbel1 : Below w.heap.size w (wr.drewN nq) := below_drewN hbel nq
    have hown1 : Own88 (wr.drewN nq) w.heap.size _ vs out := hown.below (Nat.le_refl _) (below_drewN (Below.refl _ _) nq)
    have hr2 := hr2.below (below_drewN (Below.refl _ _) nq)
    have hr3 := hr3.below (below_drewN (Below.refl _ _) nq)
    clear hown hbel hrw c0 c1 c2 c3 b0 b1 b2 b3 Hsz
    generalize wr.drewN nq = w1 at *
    have e4 : IntKind.i64.wrap ((k : Int) + 4) = (k : Int) + 4 := IntWalk.i64_in _ (by omega)
    have e8 : IntKind.i64.wrap ((k : Int) + 8) = (k : Int) + 8 := IntWalk.i64_in _ (by omega)
    have elk : IntKind.i64.wrap ((l.length : Int) - k) = (l.length : Int) - k := IntWalk.i64_in _ (by omega)
    have elk12 : IntKind.i64.wrap ((l.length : Int) - k - 12) = (l.length : Int) - k - 12 := IntWalk.i64_in _ (by omega)
    have hl4 : ((l.drop k).take 4).length ≤ 140737488355328 := by simp; omega
    by_cases hA : sizeOf4 (l.drop k) ≤ 262144
    · have dA : decide ((262144 : Int) < sizeOf4 (l.drop k)) = false := by simp; omega
      by_cases hB : four (crc ((l.drop k).take 4)) = (l.drop (k + 4)).take 4
      · have dB : (four (crc ((l.drop k).take 4)) == (l.drop (k + 4)).take 4) = true := by rw [beq_iff_eq]; exact hB
        have hg : get4 (l.drop (k + 4)) = crc ((l.drop k).take 4) := by
         have h1 := four_get4 (l.drop (k + 4)) (by simp; omega)
         rw [← hB] at h1
         have h2 := congrArg (fun x => get4 (x ++ [])) h1
         simp only [get4_four] at h2
         exact h2
        by_cases hC : sizeOf4 (l.drop k) + 12 ≤ l.length - k
        · have dC : decide ((l.length : Int) - k - 12 < sizeOf4 (l.drop k)) = false := by simp; omega
          have Hh : Hid (headOk (l.drop k) = true) := by rw [Hho.out]; simp [hA, hg, hC]; exact trivial
          clear hB hg
          go_wp2_with fail
          refine wp_region_ht 24 (fun W => Below w1.heap.size w1 W) (by kernel_rfl) (by kernel_rfl) ?_ (fun hHeld => ?_)
          · exact (Below.refl _ _).drew
          try simp only [Act.put, List.setIfInBounds_toArray, List.set_cons_zero, List.set_cons_succ]
          refine wpHT_takeD (i := 0) (d := 41) (v := ?_) (by kernel_rfl) rfl rfl (by decide) (by kernel_rfl) (by kernel_rfl) (fun _ _ _ h => h) (Or.inl ⟨by kernel_rfl, ?_⟩) (by assumption) ?_
          rotate_left
          · intro w hSw; (try dsimp only at hSw); go_simp; (try with_reducible rfl)
          try simp only [Act.put, List.setIfInBounds_toArray, List.set_cons_zero, List.set_cons_succ]
          refine wpHT_takeD (i := 1) (d := 42) (v := ?_) (by kernel_rfl) rfl rfl (by decide) (by kernel_rfl) (by kernel_rfl) (fun _ _ _ h => h) (Or.inl ⟨by kernel_rfl, ?_⟩) (by assumption) ?_
          rotate_left
          · intro w hSw; (try dsimp only at hSw); go_simp; (try with_reducible rfl)
          try simp only [Act.put, List.setIfInBounds_toArray, List.set_cons_zero, List.set_cons_succ]
          refine wpHT_takeD (i := 2) (d := 43) (v := ?_) (by kernel_rfl) rfl rfl (by decide) (by kernel_rfl) (by kernel_rfl) (fun _ _ _ h => h) (Or.inl ⟨by kernel_rfl, ?_⟩) (by assumption) ?_
          rotate_left
          · intro w hSw; (try dsimp only at hSw); go_simp; (try with_reducible rfl)
          try simp only [Act.put, List.setIfInBounds_toArray, List.set_cons_zero, List.set_cons_succ]
          refine wpHT_takeD (i := 3) (d := 44) (v := ?_) (by kernel_rfl) rfl rfl (by decide) (by kernel_rfl) (by kernel_rfl) (fun _ _ _ h => h) (Or.inl ⟨by kernel_rfl, ?_⟩) (by assumption) ?_
          rotate_left
          · intro w hSw; (try dsimp only at hSw); go_simp; (try with_reducible rfl)
          try simp only [Act.put, List.setIfInBounds_toArray, List.set_cons_zero, List.set_cons_succ]
          refine wpHT_takeD (i := 7) (d := 48) (v := ?_) (by kernel_rfl) rfl rfl (by decide) (by kernel_rfl) (by kernel_rfl) (fun _ _ _ h => h) (Or.inl ⟨by kernel_rfl, ?_⟩) (by assumption) ?_
          rotate_left
          · intro w hSw; (try dsimp only at hSw); go_simp; (try with_reducible rfl)
          try simp only [Act.put, List.setIfInBounds_toArray, List.set_cons_zero, List.set_cons_succ]
          refine wpHT_takeD (i := 8) (d := 49) (v := ?_) (by kernel_rfl) rfl rfl (by decide) (by kernel_rfl) (by kernel_rfl) (fun _ _ _ h => h) (Or.inl ⟨by kernel_rfl, ?_⟩) (by assumption) ?_
          rotate_left
          · intro w hSw; (try dsimp only at hSw); go_simp; (try with_reducible rfl)
          try simp only [Act.put, List.setIfInBounds_toArray, List.set_cons_zero, List.set_cons_succ]
          refine wpHT_takeD (i := 9) (d := 50) (v := ?_) (by kernel_rfl) rfl rfl (by decide) (by kernel_rfl) (by kernel_rfl) (fun _ _ _ h => h) (Or.inl ⟨by kernel_rfl, ?_⟩) (by assumption) ?_
          rotate_left
          · intro w hSw; (try dsimp only at hSw); go_simp; (try with_reducible rfl)
          try simp only [Act.put, List.setIfInBounds_toArray, List.set_cons_zero, List.set_cons_succ]
          refine wpHT_takeD (i := 10) (d := 51) (v := ?_) (by kernel_rfl) rfl rfl (by decide) (by kernel_rfl) (by kernel_rfl) (fun _ _ _ h => h) (Or.inl ⟨by kernel_rfl, ?_⟩) (by assumption) ?_
          rotate_left
          · intro w hSw; (try dsimp only at hSw); go_simp; (try with_reducible rfl)
          try simp only [Act.put, List.setIfInBounds_toArray, List.set_cons_zero, List.set_cons_succ]
          refine wpHT_takeD (i := 11) (d := 52) (v := ?_) (by kernel_rfl) rfl rfl (by decide) (by kernel_rfl) (by kernel_rfl) (fun _ _ _ h => h) (Or.inl ⟨by kernel_rfl, ?_⟩) (by assumption) ?_
          rotate_left
          · intro w hSw; (try dsimp only at hSw); go_simp; (try with_reducible rfl)
          try simp only [Act.put, List.setIfInBounds_toArray, List.set_cons_zero, List.set_cons_succ]
          refine wpHT_takeD (i := 12) (d := 53) (v := ?_) (by kernel_rfl) rfl rfl (by decide) (by kernel_rfl) (by kernel_rfl) (fun _ _ _ h => h) (Or.inl ⟨by kernel_rfl, ?_⟩) (by assumption) ?_
          rotate_left
          · intro w hSw; (try dsimp only at hSw); go_simp; (try with_reducible rfl)
          try simp only [Act.put, List.setIfInBounds_toArray, List.set_cons_zero, List.set_cons_succ]
          refine wpHT_takeD (i := 13) (d := 54) (v := ?_) (by kernel_rfl) rfl rfl (by decide) (by kernel_rfl) (by kernel_rfl) (fun _ _ _ h => h) (Or.inl ⟨by kernel_rfl, ?_⟩) (by assumption) ?_
          rotate_left
          · intro w hSw; have kq := run_toStr (P := Tryz.prog) (hr2.below hSw) 24 5 9 Tryz.underlying24 Tryz.underlying5 Tryz.underlying9; go_simp; (try with_reducible rfl)
          try simp only [Act.put, List.setIfInBounds_toArray, List.set_cons_zero, List.set_cons_succ]
          refine wpHT_one (i := 4) (by kernel_rfl) rfl (by decide) (fun K hK => ?_)
          go_simp
          go_at_call 94
          refine (refSum_any _ _ _ _ _ (hr3.below hHeld) hl4).mono ?_
          rintro e w3 ⟨rfl, rfl⟩
          refine hK.out _ _ ?_ (fun hHeld => ?_)
          · exact hHeld
          clear hK K
          try simp only [Act.put, List.setIfInBounds_toArray, List.set_cons_zero, List.set_cons_succ]
          refine wpHT_one (i := 5) (by kernel_rfl) rfl (by decide) (fun K hK => ?_)
          go_simp
          go_at_call 93
          refine (four_any _ _).mono ?_
          rintro e w3 ⟨v3, rfl, hown3, hb3⟩
          obtain ⟨a3', cp3', rfl, hr3'⟩ := hown3.rd
          have hS3 := below_next (w1 := w1) hHeld hb3
          refine hK.out _ _ ?_ (fun hHeld => ?_)
          · exact hS3
          clear hK K
          try simp only [Act.put, List.setIfInBounds_toArray, List.set_cons_zero, List.set_cons_succ]
          refine wpHT_one (i := 6) (by kernel_rfl) rfl (by decide) (fun K hK => ?_)
          have kv := run_toStr (P := Tryz.prog) hr3' 24 5 9 Tryz.underlying24 Tryz.underlying5 Tryz.underlying9
          go_simp
          refine hK.out _ _ ?_ (fun hHeld => ?_)
          · exact hS3
          clear kv
          clear hK K
          try simp only [Act.put, List.setIfInBounds_toArray, List.set_cons_zero, List.set_cons_succ]
          refine wpHT_takeD (i := 14) (d := 55) (v := ?_) (by kernel_rfl) rfl rfl (by decide) (by kernel_rfl) (by kernel_rfl) (fun _ _ _ h => h) (Or.inl ⟨by kernel_rfl, ?_⟩) (by assumption) ?_
          rotate_left
          · intro w hSw; (try dsimp only at hSw); go_simp; (try with_reducible rfl)
          try simp only [Act.put, List.setIfInBounds_toArray, List.set_cons_zero, List.set_cons_succ]
          refine wpHT_takeD (i := 15) (d := 56) (v := ?_) (by kernel_rfl) rfl rfl (by decide) (by kernel_rfl) (by kernel_rfl) (fun _ _ _ h => h) (Or.inl ⟨by kernel_rfl, ?_⟩) (by assumption) ?_
          rotate_left
          · intro w hSw; (try dsimp only at hSw); go_simp; (try with_reducible rfl)
          try simp only [Act.put, List.setIfInBounds_toArray, List.set_cons_zero, List.set_cons_succ]
          refine wpHT_takeD (i := 16) (d := 57) (v := ?_) (by kernel_rfl) rfl rfl (by decide) (by kernel_rfl) (by kernel_rfl) (fun _ _ _ h => h) (Or.inl ⟨by kernel_rfl, ?_⟩) (by assumption) ?_
          rotate_left
          · intro w hSw; (try dsimp only at hSw); go_simp; (try with_reducible rfl)
          try simp only [Act.put, List.setIfInBounds_toArray, List.set_cons_zero, List.set_cons_succ]
          refine wpHT_takeD (i := 17) (d := 58) (v := ?_) (by kernel_rfl) rfl rfl (by decide) (by kernel_rfl) (by kernel_rfl) (fun _ _ _ h => h) (Or.inl ⟨by kernel_rfl, ?_⟩) (by assumption) ?_
          rotate_left
          · intro w hSw; (try dsimp only at hSw); go_simp; (try with_reducible rfl)
          try simp only [Act.put, List.setIfInBounds_toArray, List.set_cons_zero, List.set_cons_succ]
          refine wpHT_takeD (i := 18) (d := 59) (v := ?_) (by kernel_rfl) rfl rfl (by decide) (by kernel_rfl) (by kernel_rfl) (fun _ _ _ h => h) (Or.inl ⟨by kernel_rfl, ?_⟩) (by assumption) ?_
          rotate_left
          · intro w hSw; (try dsimp only at hSw); go_simp; (try with_reducible rfl)
          try simp only [Act.put, List.setIfInBounds_toArray, List.set_cons_zero, List.set_cons_succ]
          refine wpHT_takeD (i := 19) (d := 60) (v := ?_) (by kernel_rfl) rfl rfl (by decide) (by kernel_rfl) (by kernel_rfl) (fun _ _ _ h => h) (Or.inl ⟨by kernel_rfl, ?_⟩) (by assumption) ?_
          rotate_left
          · intro w hSw; (try dsimp only at hSw); go_simp; (try with_reducible rfl)
          try simp only [Act.put, List.setIfInBounds_toArray, List.set_cons_zero, List.set_cons_succ]
          refine wpHT_takeD (i := 20) (d := 61) (v := ?_) (by kernel_rfl) rfl rfl (by decide) (by kernel_rfl) (by kernel_rfl) (fun _ _ _ h => h) (Or.inl ⟨by kernel_rfl, ?_⟩) (by assumption) ?_
          rotate_left
          · intro w hSw; (try dsimp only at hSw); go_simp; (try with_reducible rfl)
          try simp only [Act.put, List.setIfInBounds_toArray, List.set_cons_zero, List.set_cons_succ]
          refine wpHT_takeD (i := 21) (d := 62) (v := ?_) (by kernel_rfl) rfl rfl (by decide) (by kernel_rfl) (by kernel_rfl) (fun _ _ _ h => h) (Or.inl ⟨by kernel_rfl, ?_⟩) (by assumption) ?_
          rotate_left
          · intro w hSw; (try dsimp only at hSw); go_simp; (try with_reducible rfl)
          try simp only [Act.put, List.setIfInBounds_toArray, List.set_cons_zero, List.set_cons_succ]
          refine wpHT_takeD (i := 22) (d := 63) (v := ?_) (by kernel_rfl) rfl rfl (by decide) (by kernel_rfl) (by kernel_rfl) (fun _ _ _ h => h) (Or.inl ⟨by kernel_rfl, ?_⟩) (by assumption) ?_
          rotate_left
          · intro w hSw; (try dsimp only at hSw); go_simp; (try with_reducible rfl)
          try simp only [Act.put, List.setIfInBounds_toArray, List.set_cons_zero, List.set_cons_succ]
          refine wpHT_takeD (i := 23) (d := 64) (v := ?_) (by kernel_rfl) rfl rfl (by decide) (by kernel_rfl) (by kernel_rfl) (fun _ _ _ h => h) (Or.inl ⟨by kernel_rfl, ?_⟩) (by assumption) ?_
          rotate_left
          · intro w hSw; (try dsimp only at hSw); go_simp; (try with_reducible rfl)
          try simp only [Act.put, List.setIfInBounds_toArray, List.set_cons_zero, List.set_cons_succ]
          refine wpHT_done (by kernel_rfl) ?_
          simp only [List.drop_succ_cons, List.drop_zero]
          clear e4 e8 elk elk12 dB hs2 hs3 hr2 hr3 hHeld
          have hbw3 : Below w.heap.size w w3 := hbel1.trans (hS3.mono hbel1.size)
          have hownw := hown1.below (Nat.le_refl _) hS3
          have hrw := hrd.below hbw3
          clear hown1 hbel1 hS3 hown3 hr3' hb3
          obtain ⟨a4, c4, hs4, hr4⟩ := run_slice8 S8 hrw (some (.int .i64 (k + 8))) (some (.int .i64 (k + 8 + sizeOf4 (l.drop k)))) (k + 8) (k + 8 + sizeOf4 (l.drop k)) (.inr rfl) (.inr rfl) (by omega) (by omega)
          obtain ⟨a5, c5, hs5, hr5⟩ := run_slice8 S8 hrw (some (.int .i64 (k + 8 + sizeOf4 (l.drop k)))) (some (.int .i64 (k + 12 + sizeOf4 (l.drop k)))) (k + 8 + sizeOf4 (l.drop k)) (k + 12 + sizeOf4 (l.drop k)) (.inr rfl) (.inr rfl) (by omega) (by omega)
          rw [Nat.add_sub_cancel_left] at hs4 hr4
          rw [show k + 12 + sizeOf4 (l.drop k) - (k + 8 + sizeOf4 (l.drop k)) = 4 by omega] at hs5 hr5
          have er : (l.drop (k + 8)).take (sizeOf4 (l.drop k)) = recOf (l.drop k) := by unfold recOf; rw [List.drop_drop]
          rw [er] at hr4
          have Hp : Hid ((recOf (l.drop k)).length = sizeOf4 (l.drop k)) := hr4.1.symm
          have hpl : (recOf (l.drop k)).length ≤ 140737488355328 := by rw [Hp.out]; omega
          have o8 : IntKind.i64.wrap ((k : Int) + 8) = (k : Int) + 8 := IntWalk.i64_in _ (by omega)
          have o12 : IntKind.i64.wrap ((k : Int) + 12) = (k : Int) + 12 := IntWalk.i64_in _ (by omega)
          have o8z : IntKind.i64.wrap ((k : Int) + 8 + sizeOf4 (l.drop k)) = (k : Int) + 8 + sizeOf4 (l.drop k) := IntWalk.i64_in _ (by omega)
          have o12z : IntKind.i64.wrap ((k : Int) + 12 + sizeOf4 (l.drop k)) = (k : Int) + 12 + sizeOf4 (l.drop k) := IntWalk.i64_in _ (by omega)
          clear er hrw
          by_cases hD : four (crc (recOf (l.drop k))) = (l.drop (k + 8 + sizeOf4 (l.drop k))).take 4
          case' pos =>
           have dD : (four (crc (recOf (l.drop k))) == (l.drop (k + 8 + sizeOf4 (l.drop k))).take 4) = true := by rw [beq_iff_eq]; exact hD
           have hg : get4 (l.drop (k + 8 + sizeOf4 (l.drop k))) = crc (recOf (l.drop k)) := by
            have h1 := four_get4 (l.drop (k + 8 + sizeOf4 (l.drop k))) (by simp; omega)
            rw [← hD] at h1
            have h2 := congrArg (fun x => get4 (x ++ [])) h1
            simp only [get4_four] at h2
            exact h2
           have HW : Hid (whole (l.drop k) = true) := by rw [Hwl.out, Hh.out, List.drop_drop, ← Nat.add_assoc, hg]; simp; trivial
          case' neg =>
           have dD : (four (crc (recOf (l.drop k))) == (l.drop (k + 8 + sizeOf4 (l.drop k))).take 4) = false := by rw [beq_eq_false_iff_ne]; exact hD
           have hg : get4 (l.drop (k + 8 + sizeOf4 (l.drop k))) ≠ crc (recOf (l.drop k)) := fun e => hD (by rw [← e]; exact four_get4 _ (by simp; omega))
           have HW : Hid (whole (l.drop k) = false) := by rw [Hwl.out, List.drop_drop, ← Nat.add_assoc]; simp [hg]; trivial
          all_goals
           clear hD hg
           go_wp2_with fail
           refine wp_region_ht 15 (fun W => Below w3.heap.size w3 W) (by kernel_rfl) (by kernel_rfl) ?_ (fun hHeld => ?_)
           · exact (Below.refl _ _).drew
           try simp only [Act.put, List.setIfInBounds_toArray, List.set_cons_zero, List.set_cons_succ]
           refine wpHT_takeD (i := 0) (d := 74) (v := ?_) (by kernel_rfl) rfl rfl (by decide) (by kernel_rfl) (by kernel_rfl) (fun _ _ _ h => h) (Or.inl ⟨by kernel_rfl, ?_⟩) (by assumption) ?_
           rotate_left
           · intro w hSw; (try dsimp only at hSw); go_simp; (try with_reducible rfl)
           try simp only [Act.put, List.setIfInBounds_toArray, List.set_cons_zero, List.set_cons_succ]
           refine wpHT_takeD (i := 4) (d := 78) (v := ?_) (by kernel_rfl) rfl rfl (by decide) (by kernel_rfl) (by kernel_rfl) (fun _ _ _ h => h) (Or.inl ⟨by kernel_rfl, ?_⟩) (by assumption) ?_
           rotate_left
           · intro w hSw; (try dsimp only at hSw); go_simp; (try with_reducible rfl)
           try simp only [Act.put, List.setIfInBounds_toArray, List.set_cons_zero, List.set_cons_succ]
           refine wpHT_takeD (i := 5) (d := 79) (v := ?_) (by kernel_rfl) rfl rfl (by decide) (by kernel_rfl) (by kernel_rfl) (fun _ _ _ h => h) (Or.inl ⟨by kernel_rfl, ?_⟩) (by assumption) ?_
           rotate_left
           · intro w hSw; (try dsimp only at hSw); go_simp; (try with_reducible rfl)
           try simp only [Act.put, List.setIfInBounds_toArray, List.set_cons_zero, List.set_cons_succ]
           refine wpHT_takeD (i := 6) (d := 80) (v := ?_) (by kernel_rfl) rfl rfl (by decide) (by kernel_rfl) (by kernel_rfl) (fun _ _ _ h => h) (Or.inl ⟨by kernel_rfl, ?_⟩) (by assumption) ?_
           rotate_left
           · intro w hSw; (try dsimp only at hSw); go_simp; (try with_reducible rfl)
           try simp only [Act.put, List.setIfInBounds_toArray, List.set_cons_zero, List.set_cons_succ]
           refine wpHT_takeD (i := 7) (d := 81) (v := ?_) (by kernel_rfl) rfl rfl (by decide) (by kernel_rfl) (by kernel_rfl) (fun _ _ _ h => h) (Or.inl ⟨by kernel_rfl, ?_⟩) (by assumption) ?_
           rotate_left
           · intro w hSw; (try dsimp only at hSw); go_simp; (try with_reducible rfl)
           try simp only [Act.put, List.setIfInBounds_toArray, List.set_cons_zero, List.set_cons_succ]
           refine wpHT_takeD (i := 8) (d := 82) (v := ?_) (by kernel_rfl) rfl rfl (by decide) (by kernel_rfl) (by kernel_rfl) (fun _ _ _ h => h) (Or.inl ⟨by kernel_rfl, ?_⟩) (by assumption) ?_
           rotate_left
           · intro w hSw; (try dsimp only at hSw); go_simp; (try with_reducible rfl)
           try simp only [Act.put, List.setIfInBounds_toArray, List.set_cons_zero, List.set_cons_succ]
           refine wpHT_takeD (i := 9) (d := 83) (v := ?_) (by kernel_rfl) rfl rfl (by decide) (by kernel_rfl) (by kernel_rfl) (fun _ _ _ h => h) (Or.inl ⟨by kernel_rfl, ?_⟩) (by assumption) ?_
           rotate_left
           · intro w hSw; (try dsimp only at hSw); go_simp; (try with_reducible rfl)
           try simp only [Act.put, List.setIfInBounds_toArray, List.set_cons_zero, List.set_cons_succ]
           refine wpHT_takeD (i := 10) (d := 84) (v := ?_) (by kernel_rfl) rfl rfl (by decide) (by kernel_rfl) (by kernel_rfl) (fun _ _ _ h => h) (Or.inl ⟨by kernel_rfl, ?_⟩) (by assumption) ?_
           rotate_left
           · intro w hSw; (try dsimp only at hSw); go_simp; (try with_reducible rfl)
           try simp only [Act.put, List.setIfInBounds_toArray, List.set_cons_zero, List.set_cons_succ]
           refine wpHT_takeD (i := 11) (d := 85) (v := ?_) (by kernel_rfl) rfl rfl (by decide) (by kernel_rfl) (by kernel_rfl) (fun _ _ _ h => h) (Or.inl ⟨by kernel_rfl, ?_⟩) (by assumption) ?_
           rotate_left
           · intro w hSw; (try dsimp only at hSw); go_simp; (try with_reducible rfl)
           try simp only [Act.put, List.setIfInBounds_toArray, List.set_cons_zero, List.set_cons_succ]
           refine wpHT_takeD (i := 12) (d := 86) (v := ?_) (by kernel_rfl) rfl rfl (by decide) (by kernel_rfl) (by kernel_rfl) (fun _ _ _ h => h) (Or.inl ⟨by kernel_rfl, ?_⟩) (by assumption) ?_
           rotate_left
           · intro w hSw; (try dsimp only at hSw); go_simp; (try with_reducible rfl)
           try simp only [Act.put, List.setIfInBounds_toArray, List.set_cons_zero, List.set_cons_succ]
           refine wpHT_takeD (i := 13) (d := 87) (v := ?_) (by kernel_rfl) rfl rfl (by decide) (by kernel_rfl) (by kernel_rfl) (fun _ _ _ h => h) (Or.inl ⟨by kernel_rfl, ?_⟩) (by assumption) ?_
           rotate_left
           · intro w hSw; (try dsimp only at hSw); go_simp; (try with_reducible rfl)
           try simp only [Act.put, List.setIfInBounds_toArray, List.set_cons_zero, List.set_cons_succ]
           refine wpHT_takeD (i := 14) (d := 88) (v := ?_) (by kernel_rfl) rfl rfl (by decide) (by kernel_rfl) (by kernel_rfl) (fun _ _ _ h => h) (Or.inl ⟨by kernel_rfl, ?_⟩) (by assumption) ?_
           rotate_left
           · intro w hSw; have kq := run_toStr (P := Tryz.prog) (hr5.below hSw) 24 5 9 Tryz.underlying24 Tryz.underlying5 Tryz.underlying9; go_simp; (try with_reducible rfl)
           try simp only [Act.put, List.setIfInBounds_toArray, List.set_cons_zero, List.set_cons_succ]
           refine wpHT_one (i := 1) (by kernel_rfl) rfl (by decide) (fun K hK => ?_)
           go_simp
           go_at_call 94
           refine (refSum_any _ _ _ _ _ (hr4.below hHeld) hpl).mono ?_
           rintro e w4 ⟨rfl, rfl⟩
           refine hK.out _ _ ?_ (fun hHeld => ?_)
           · exact hHeld
           clear hK K
           try simp only [Act.put, List.setIfInBounds_toArray, List.set_cons_zero, List.set_cons_succ]
           refine wpHT_one (i := 2) (by kernel_rfl) rfl (by decide) (fun K hK => ?_)
           go_simp
           go_at_call 93
           refine (four_any _ _).mono ?_
           rintro e w4 ⟨v3, rfl, hown3, hb3⟩
           obtain ⟨a3', cp3', rfl, hr3'⟩ := hown3.rd
           have hS4 := below_next (w1 := w3) hHeld hb3
           refine hK.out _ _ ?_ (fun hHeld => ?_)
           · exact hS4
           clear hK K
           try simp only [Act.put, List.setIfInBounds_toArray, List.set_cons_zero, List.set_cons_succ]
           refine wpHT_one (i := 3) (by kernel_rfl) rfl (by decide) (fun K hK => ?_)
           have kv := run_toStr (P := Tryz.prog) hr3' 24 5 9 Tryz.underlying24 Tryz.underlying5 Tryz.underlying9
           go_simp
           refine hK.out _ _ ?_ (fun hHeld => ?_)
           · exact hS4
           clear kv
           clear hK K
           try simp only [Act.put, List.setIfInBounds_toArray, List.set_cons_zero, List.set_cons_succ]
           refine wpHT_done (by kernel_rfl) ?_
           simp only [List.drop_succ_cons, List.drop_zero]
           clear o8 o8z o12z hs4 hs5 hr5 hHeld hown3 hr3' hb3
           have hbw4 : Below w.heap.size w w4 := hbw3.trans (hS4.mono hbw3.size)
           have hown4 := hownw.below (Nat.le_refl _) hS4
           have hr4' := hr4.below hS4
           clear hownw hr4 hbw3 hS4
          rotate_left
          · have Hn := Lib.hid ((Hat.out).next HW.out)
            have hls := hbw4.size
            go_wp2_with (at_builtin; refine wpList_app S8 rfl _ _ rfl w4.heap.size rfl (World.ownsRow_lit w4 #[] 0 (Nat.le_refl _) (by decide) rfl) rfl (hr4'.below ((Below.refl _ _).alloc (Nat.le_refl _) _)).2 (B8_one _) (by omega) (by unfold maxLen; omega) ((Below.refl 0 w4).alloc (Nat.zero_le _) _).size ?_)
            intro u5 w5 hown5 hb5 _
            have hown5 := Own8.mk (l := recOf (l.drop k)) hown5 (by rw [Hp.out]) (by simp)
            obtain ⟨a6, c6, rfl, _⟩ := hown5.rd
            have hb45 : Below w4.heap.size w4 w5 := ((Below.refl _ _).alloc (Nat.le_refl _) _).trans hb5
            have hl5 := hb45.size
            have hv5 := ownsRow_below hown4.1 (Nat.le_refl _) hb45
            have houtl : out.length ≤ 1000000 := by
             have := (Hat.out).2.1
             omega
            clear hr4' hb5
            go_wp2_with (at_builtin; refine wpList_app S88 rfl _ _ rfl w.heap.size rfl (hv5.alloc _) rfl (Rd.one _ _ _) (by simp [Value.oneCell']) (by omega) (by unfold maxLen; omega) (Nat.le_trans (Nat.le_trans hls hl5) ((Below.refl 0 w5).alloc (Nat.zero_le _) _).size) ?_)
            intro u6 w6 hown6 hb6 hg6
            have h88 := Own88.snoc hown4 (hb45.alloc (by omega) _) (hown5.alloc _) hls hown6 hg6
            have hb7 : Below w.heap.size w w6 := ((hbw4.trans (hb45.mono hls)).alloc (by omega) _).trans hb6
            clear hown4 hown5 hown6 hg6 hv5 hb45 hb6
            go_wp2
            go_roundw
            case rel => exact ⟨_, _, _, by go_num, Hn.out, h88, hb7⟩
            case measure => simp [intOf]; omega
          · have Hd := Lib.hid ((Hat.out).done HW.out)
            clear o12
            go_wp2
            go_ret2
            exact ⟨_, vs, by rw [Hd.out]; rfl, by rw [Hd.out]; exact hown4, hbw4⟩
        · have dC : decide ((l.length : Int) - k - 12 < sizeOf4 (l.drop k)) = true := by simp; omega
          have Hd := Lib.hid ((Hat.out).done (by rw [Hwl.out, Hho.out]; simp [hC]))
          clear hB hg
          go_wp2_with fail
          refine wp_region_ht 24 (fun W => Below w1.heap.size w1 W) (by kernel_rfl) (by kernel_rfl) ?_ (fun hHeld => ?_)
          · exact (Below.refl _ _).drew
          try simp only [Act.put, List.setIfInBounds_toArray, List.set_cons_zero, List.set_cons_succ]
          refine wpHT_takeD (i := 0) (d := 41) (v := ?_) (by kernel_rfl) rfl rfl (by decide) (by kernel_rfl) (by kernel_rfl) (fun _ _ _ h => h) (Or.inl ⟨by kernel_rfl, ?_⟩) (by assumption) ?_
          rotate_left
          · intro w hSw; (try dsimp only at hSw); go_simp; (try with_reducible rfl)
          try simp only [Act.put, List.setIfInBounds_toArray, List.set_cons_zero, List.set_cons_succ]
          refine wpHT_takeD (i := 1) (d := 42) (v := ?_) (by kernel_rfl) rfl rfl (by decide) (by kernel_rfl) (by kernel_rfl) (fun _ _ _ h => h) (Or.inl ⟨by kernel_rfl, ?_⟩) (by assumption) ?_
          rotate_left
          · intro w hSw; (try dsimp only at hSw); go_simp; (try with_reducible rfl)
          try simp only [Act.put, List.setIfInBounds_toArray, List.set_cons_zero, List.set_cons_succ]
          refine wpHT_takeD (i := 2) (d := 43) (v := ?_) (by kernel_rfl) rfl rfl (by decide) (by kernel_rfl) (by kernel_rfl) (fun _ _ _ h => h) (Or.inl ⟨by kernel_rfl, ?_⟩) (by assumption) ?_
          rotate_left
          · intro w hSw; (try dsimp only at hSw); go_simp; (try with_reducible rfl)
          try simp only [Act.put, List.setIfInBounds_toArray, List.set_cons_zero, List.set_cons_succ]
          refine wpHT_takeD (i := 3) (d := 44) (v := ?_) (by kernel_rfl) rfl rfl (by decide) (by kernel_rfl) (by kernel_rfl) (fun _ _ _ h => h) (Or.inl ⟨by kernel_rfl, ?_⟩) (by assumption) ?_
          rotate_left
          · intro w hSw; (try dsimp only at hSw); go_simp; (try with_reducible rfl)
          try simp only [Act.put, List.setIfInBounds_toArray, List.set_cons_zero, List.set_cons_succ]
          refine wpHT_takeD (i := 7) (d := 48) (v := ?_) (by kernel_rfl) rfl rfl (by decide) (by kernel_rfl) (by kernel_rfl) (fun _ _ _ h => h) (Or.inl ⟨by kernel_rfl, ?_⟩) (by assumption) ?_
          rotate_left
          · intro w hSw; (try dsimp only at hSw); go_simp; (try with_reducible rfl)
          try simp only [Act.put, List.setIfInBounds_toArray, List.set_cons_zero, List.set_cons_succ]
          refine wpHT_takeD (i := 8) (d := 49) (v := ?_) (by kernel_rfl) rfl rfl (by decide) (by kernel_rfl) (by kernel_rfl) (fun _ _ _ h => h) (Or.inl ⟨by kernel_rfl, ?_⟩) (by assumption) ?_
          rotate_left
          · intro w hSw; (try dsimp only at hSw); go_simp; (try with_reducible rfl)
          try simp only [Act.put, List.setIfInBounds_toArray, List.set_cons_zero, List.set_cons_succ]
          refine wpHT_takeD (i := 9) (d := 50) (v := ?_) (by kernel_rfl) rfl rfl (by decide) (by kernel_rfl) (by kernel_rfl) (fun _ _ _ h => h) (Or.inl ⟨by kernel_rfl, ?_⟩) (by assumption) ?_
          rotate_left
          · intro w hSw; (try dsimp only at hSw); go_simp; (try with_reducible rfl)
          try simp only [Act.put, List.setIfInBounds_toArray, List.set_cons_zero, List.set_cons_succ]
          refine wpHT_takeD (i := 10) (d := 51) (v := ?_) (by kernel_rfl) rfl rfl (by decide) (by kernel_rfl) (by kernel_rfl) (fun _ _ _ h => h) (Or.inl ⟨by kernel_rfl, ?_⟩) (by assumption) ?_
          rotate_left
          · intro w hSw; (try dsimp only at hSw); go_simp; (try with_reducible rfl)
          try simp only [Act.put, List.setIfInBounds_toArray, List.set_cons_zero, List.set_cons_succ]
          refine wpHT_takeD (i := 11) (d := 52) (v := ?_) (by kernel_rfl) rfl rfl (by decide) (by kernel_rfl) (by kernel_rfl) (fun _ _ _ h => h) (Or.inl ⟨by kernel_rfl, ?_⟩) (by assumption) ?_
          rotate_left
          · intro w hSw; (try dsimp only at hSw); go_simp; (try with_reducible rfl)
          try simp only [Act.put, List.setIfInBounds_toArray, List.set_cons_zero, List.set_cons_succ]
          refine wpHT_takeD (i := 12) (d := 53) (v := ?_) (by kernel_rfl) rfl rfl (by decide) (by kernel_rfl) (by kernel_rfl) (fun _ _ _ h => h) (Or.inl ⟨by kernel_rfl, ?_⟩) (by assumption) ?_
          rotate_left
          · intro w hSw; (try dsimp only at hSw); go_simp; (try with_reducible rfl)
          try simp only [Act.put, List.setIfInBounds_toArray, List.set_cons_zero, List.set_cons_succ]
          refine wpHT_takeD (i := 13) (d := 54) (v := ?_) (by kernel_rfl) rfl rfl (by decide) (by kernel_rfl) (by kernel_rfl) (fun _ _ _ h => h) (Or.inl ⟨by kernel_rfl, ?_⟩) (by assumption) ?_
          rotate_left
          · intro w hSw; have kq := run_toStr (P := Tryz.prog) (hr2.below hSw) 24 5 9 Tryz.underlying24 Tryz.underlying5 Tryz.underlying9; go_simp; (try with_reducible rfl)
          try simp only [Act.put, List.setIfInBounds_toArray, List.set_cons_zero, List.set_cons_succ]
          refine wpHT_one (i := 4) (by kernel_rfl) rfl (by decide) (fun K hK => ?_)
          go_simp
          go_at_call 94
          refine (refSum_any _ _ _ _ _ (hr3.below hHeld) hl4).mono ?_
          rintro e w3 ⟨rfl, rfl⟩
          refine hK.out _ _ ?_ (fun hHeld => ?_)
          · exact hHeld
          clear hK K
          try simp only [Act.put, List.setIfInBounds_toArray, List.set_cons_zero, List.set_cons_succ]
          refine wpHT_one (i := 5) (by kernel_rfl) rfl (by decide) (fun K hK => ?_)
          go_simp
          go_at_call 93
          refine (four_any _ _).mono ?_
          rintro e w3 ⟨v3, rfl, hown3, hb3⟩
          obtain ⟨a3', cp3', rfl, hr3'⟩ := hown3.rd
          have hS3 := below_next (w1 := w1) hHeld hb3
          refine hK.out _ _ ?_ (fun hHeld => ?_)
          · exact hS3
          clear hK K
          try simp only [Act.put, List.setIfInBounds_toArray, List.set_cons_zero, List.set_cons_succ]
          refine wpHT_one (i := 6) (by kernel_rfl) rfl (by decide) (fun K hK => ?_)
          have kv := run_toStr (P := Tryz.prog) hr3' 24 5 9 Tryz.underlying24 Tryz.underlying5 Tryz.underlying9
          go_simp
          refine hK.out _ _ ?_ (fun hHeld => ?_)
          · exact hS3
          clear kv
          clear hK K
          try simp only [Act.put, List.setIfInBounds_toArray, List.set_cons_zero, List.set_cons_succ]
          refine wpHT_takeD (i := 14) (d := 55) (v := ?_) (by kernel_rfl) rfl rfl (by decide) (by kernel_rfl) (by kernel_rfl) (fun _ _ _ h => h) (Or.inl ⟨by kernel_rfl, ?_⟩) (by assumption) ?_
          rotate_left
          · intro w hSw; (try dsimp only at hSw); go_simp; (try with_reducible rfl)
          try simp only [Act.put, List.setIfInBounds_toArray, List.set_cons_zero, List.set_cons_succ]
          refine wpHT_takeD (i := 15) (d := 56) (v := ?_) (by kernel_rfl) rfl rfl (by decide) (by kernel_rfl) (by kernel_rfl) (fun _ _ _ h => h) (Or.inl ⟨by kernel_rfl, ?_⟩) (by assumption) ?_
          rotate_left
          · intro w hSw; (try dsimp only at hSw); go_simp; (try with_reducible rfl)
          try simp only [Act.put, List.setIfInBounds_toArray, List.set_cons_zero, List.set_cons_succ]
          refine wpHT_takeD (i := 16) (d := 57) (v := ?_) (by kernel_rfl) rfl rfl (by decide) (by kernel_rfl) (by kernel_rfl) (fun _ _ _ h => h) (Or.inl ⟨by kernel_rfl, ?_⟩) (by assumption) ?_
          rotate_left
          · intro w hSw; (try dsimp only at hSw); go_simp; (try with_reducible rfl)
          try simp only [Act.put, List.setIfInBounds_toArray, List.set_cons_zero, List.set_cons_succ]
          refine wpHT_takeD (i := 17) (d := 58) (v := ?_) (by kernel_rfl) rfl rfl (by decide) (by kernel_rfl) (by kernel_rfl) (fun _ _ _ h => h) (Or.inl ⟨by kernel_rfl, ?_⟩) (by assumption) ?_
          rotate_left
          · intro w hSw; (try dsimp only at hSw); go_simp; (try with_reducible rfl)
          try simp only [Act.put, List.setIfInBounds_toArray, List.set_cons_zero, List.set_cons_succ]
          refine wpHT_takeD (i := 18) (d := 59) (v := ?_) (by kernel_rfl) rfl rfl (by decide) (by kernel_rfl) (by kernel_rfl) (fun _ _ _ h => h) (Or.inl ⟨by kernel_rfl, ?_⟩) (by assumption) ?_
          rotate_left
          · intro w hSw; (try dsimp only at hSw); go_simp; (try with_reducible rfl)
          try simp only [Act.put, List.setIfInBounds_toArray, List.set_cons_zero, List.set_cons_succ]
          refine wpHT_takeD (i := 19) (d := 60) (v := ?_) (by kernel_rfl) rfl rfl (by decide) (by kernel_rfl) (by kernel_rfl) (fun _ _ _ h => h) (Or.inl ⟨by kernel_rfl, ?_⟩) (by assumption) ?_
          rotate_left
          · intro w hSw; (try dsimp only at hSw); go_simp; (try with_reducible rfl)
          try simp only [Act.put, List.setIfInBounds_toArray, List.set_cons_zero, List.set_cons_succ]
          refine wpHT_takeD (i := 20) (d := 61) (v := ?_) (by kernel_rfl) rfl rfl (by decide) (by kernel_rfl) (by kernel_rfl) (fun _ _ _ h => h) (Or.inl ⟨by kernel_rfl, ?_⟩) (by assumption) ?_
          rotate_left
          · intro w hSw; (try dsimp only at hSw); go_simp; (try with_reducible rfl)
          try simp only [Act.put, List.setIfInBounds_toArray, List.set_cons_zero, List.set_cons_succ]
          refine wpHT_takeD (i := 21) (d := 62) (v := ?_) (by kernel_rfl) rfl rfl (by decide) (by kernel_rfl) (by kernel_rfl) (fun _ _ _ h => h) (Or.inl ⟨by kernel_rfl, ?_⟩) (by assumption) ?_
          rotate_left
          · intro w hSw; (try dsimp only at hSw); go_simp; (try with_reducible rfl)
          try simp only [Act.put, List.setIfInBounds_toArray, List.set_cons_zero, List.set_cons_succ]
          refine wpHT_takeD (i := 22) (d := 63) (v := ?_) (by kernel_rfl) rfl rfl (by decide) (by kernel_rfl) (by kernel_rfl) (fun _ _ _ h => h) (Or.inl ⟨by kernel_rfl, ?_⟩) (by assumption) ?_
          rotate_left
          · intro w hSw; (try dsimp only at hSw); go_simp; (try with_reducible rfl)
          try simp only [Act.put, List.setIfInBounds_toArray, List.set_cons_zero, List.set_cons_succ]
          refine wpHT_takeD (i := 23) (d := 64) (v := ?_) (by kernel_rfl) rfl rfl (by decide) (by kernel_rfl) (by kernel_rfl) (fun _ _ _ h => h) (Or.inl ⟨by kernel_rfl, ?_⟩) (by assumption) ?_
          rotate_left
          · intro w hSw; (try dsimp only at hSw); go_simp; (try with_reducible rfl)
          try simp only [Act.put, List.setIfInBounds_toArray, List.set_cons_zero, List.set_cons_succ]
          refine wpHT_done (by kernel_rfl) ?_
          simp only [List.drop_succ_cons, List.drop_zero]
          clear e4 e8 elk elk12
          go_wp2
          go_ret2
          exact ⟨_, vs, by rw [Hd.out]; rfl, by rw [Hd.out]; exact hown1.below (Nat.le_refl _) hS3, hbel1.trans (hS3.mono hbel1.size)⟩
      · have dB : (four (crc ((l.drop k).take 4)) == (l.drop (k + 4)).take 4) = false := by rw [beq_eq_false_iff_ne]; exact hB
        have hg : get4 (l.drop (k + 4)) ≠ crc ((l.drop k).take 4) := fun e => hB (by rw [← e]; exact four_get4 _ (by simp; omega))
        have Hd := Lib.hid ((Hat.out).done (by rw [Hwl.out, Hho.out]; simp [hg]))
        clear hB hg
        go_wp2_with fail
        refine wp_region_ht 24 (fun W => Below w1.heap.size w1 W) (by kernel_rfl) (by kernel_rfl) ?_ (fun hHeld => ?_)
        · exact (Below.refl _ _).drew
        try simp only [Act.put, List.setIfInBounds_toArray, List.set_cons_zero, List.set_cons_succ]
        refine wpHT_takeD (i := 0) (d := 41) (v := ?_) (by kernel_rfl) rfl rfl (by decide) (by kernel_rfl) (by kernel_rfl) (fun _ _ _ h => h) (Or.inl ⟨by kernel_rfl, ?_⟩) (by assumption) ?_
        rotate_left
        · intro w hSw; (try dsimp only at hSw); go_simp; (try with_reducible rfl)
        try simp only [Act.put, List.setIfInBounds_toArray, List.set_cons_zero, List.set_cons_succ]
        refine wpHT_takeD (i := 1) (d := 42) (v := ?_) (by kernel_rfl) rfl rfl (by decide) (by kernel_rfl) (by kernel_rfl) (fun _ _ _ h => h) (Or.inl ⟨by kernel_rfl, ?_⟩) (by assumption) ?_
        rotate_left
        · intro w hSw; (try dsimp only at hSw); go_simp; (try with_reducible rfl)
        try simp only [Act.put, List.setIfInBounds_toArray, List.set_cons_zero, List.set_cons_succ]
        refine wpHT_takeD (i := 2) (d := 43) (v := ?_) (by kernel_rfl) rfl rfl (by decide) (by kernel_rfl) (by kernel_rfl) (fun _ _ _ h => h) (Or.inl ⟨by kernel_rfl, ?_⟩) (by assumption) ?_
        rotate_left
        · intro w hSw; (try dsimp only at hSw); go_simp; (try with_reducible rfl)
        try simp only [Act.put, List.setIfInBounds_toArray, List.set_cons_zero, List.set_cons_succ]
        refine wpHT_takeD (i := 3) (d := 44) (v := ?_) (by kernel_rfl) rfl rfl (by decide) (by kernel_rfl) (by kernel_rfl) (fun _ _ _ h => h) (Or.inl ⟨by kernel_rfl, ?_⟩) (by assumption) ?_
        rotate_left
        · intro w hSw; (try dsimp only at hSw); go_simp; (try with_reducible rfl)
        try simp only [Act.put, List.setIfInBounds_toArray, List.set_cons_zero, List.set_cons_succ]
        refine wpHT_takeD (i := 7) (d := 48) (v := ?_) (by kernel_rfl) rfl rfl (by decide) (by kernel_rfl) (by kernel_rfl) (fun _ _ _ h => h) (Or.inl ⟨by kernel_rfl, ?_⟩) (by assumption) ?_
        rotate_left
        · intro w hSw; (try dsimp only at hSw); go_simp; (try with_reducible rfl)
        try simp only [Act.put, List.setIfInBounds_toArray, List.set_cons_zero, List.set_cons_succ]
        refine wpHT_takeD (i := 8) (d := 49) (v := ?_) (by kernel_rfl) rfl rfl (by decide) (by kernel_rfl) (by kernel_rfl) (fun _ _ _ h => h) (Or.inl ⟨by kernel_rfl, ?_⟩) (by assumption) ?_
        rotate_left
        · intro w hSw; (try dsimp only at hSw); go_simp; (try with_reducible rfl)
        try simp only [Act.put, List.setIfInBounds_toArray, List.set_cons_zero, List.set_cons_succ]
        refine wpHT_takeD (i := 9) (d := 50) (v := ?_) (by kernel_rfl) rfl rfl (by decide) (by kernel_rfl) (by kernel_rfl) (fun _ _ _ h => h) (Or.inl ⟨by kernel_rfl, ?_⟩) (by assumption) ?_
        rotate_left
        · intro w hSw; (try dsimp only at hSw); go_simp; (try with_reducible rfl)
        try simp only [Act.put, List.setIfInBounds_toArray, List.set_cons_zero, List.set_cons_succ]
        refine wpHT_takeD (i := 10) (d := 51) (v := ?_) (by kernel_rfl) rfl rfl (by decide) (by kernel_rfl) (by kernel_rfl) (fun _ _ _ h => h) (Or.inl ⟨by kernel_rfl, ?_⟩) (by assumption) ?_
        rotate_left
        · intro w hSw; (try dsimp only at hSw); go_simp; (try with_reducible rfl)
        try simp only [Act.put, List.setIfInBounds_toArray, List.set_cons_zero, List.set_cons_succ]
        refine wpHT_takeD (i := 11) (d := 52) (v := ?_) (by kernel_rfl) rfl rfl (by decide) (by kernel_rfl) (by kernel_rfl) (fun _ _ _ h => h) (Or.inl ⟨by kernel_rfl, ?_⟩) (by assumption) ?_
        rotate_left
        · intro w hSw; (try dsimp only at hSw); go_simp; (try with_reducible rfl)
        try simp only [Act.put, List.setIfInBounds_toArray, List.set_cons_zero, List.set_cons_succ]
        refine wpHT_takeD (i := 12) (d := 53) (v := ?_) (by kernel_rfl) rfl rfl (by decide) (by kernel_rfl) (by kernel_rfl) (fun _ _ _ h => h) (Or.inl ⟨by kernel_rfl, ?_⟩) (by assumption) ?_
        rotate_left
        · intro w hSw; (try dsimp only at hSw); go_simp; (try with_reducible rfl)
        try simp only [Act.put, List.setIfInBounds_toArray, List.set_cons_zero, List.set_cons_succ]
        refine wpHT_takeD (i := 13) (d := 54) (v := ?_) (by kernel_rfl) rfl rfl (by decide) (by kernel_rfl) (by kernel_rfl) (fun _ _ _ h => h) (Or.inl ⟨by kernel_rfl, ?_⟩) (by assumption) ?_
        rotate_left
        · intro w hSw; have kq := run_toStr (P := Tryz.prog) (hr2.below hSw) 24 5 9 Tryz.underlying24 Tryz.underlying5 Tryz.underlying9; go_simp; (try with_reducible rfl)
        try simp only [Act.put, List.setIfInBounds_toArray, List.set_cons_zero, List.set_cons_succ]
        refine wpHT_one (i := 4) (by kernel_rfl) rfl (by decide) (fun K hK => ?_)
        go_simp
        go_at_call 94
        refine (refSum_any _ _ _ _ _ (hr3.below hHeld) hl4).mono ?_
        rintro e w3 ⟨rfl, rfl⟩
        refine hK.out _ _ ?_ (fun hHeld => ?_)
        · exact hHeld
        clear hK K
        try simp only [Act.put, List.setIfInBounds_toArray, List.set_cons_zero, List.set_cons_succ]
        refine wpHT_one (i := 5) (by kernel_rfl) rfl (by decide) (fun K hK => ?_)
        go_simp
        go_at_call 93
        refine (four_any _ _).mono ?_
        rintro e w3 ⟨v3, rfl, hown3, hb3⟩
        obtain ⟨a3', cp3', rfl, hr3'⟩ := hown3.rd
        have hS3 := below_next (w1 := w1) hHeld hb3
        refine hK.out _ _ ?_ (fun hHeld => ?_)
        · exact hS3
        clear hK K
        try simp only [Act.put, List.setIfInBounds_toArray, List.set_cons_zero, List.set_cons_succ]
        refine wpHT_one (i := 6) (by kernel_rfl) rfl (by decide) (fun K hK => ?_)
        have kv := run_toStr (P := Tryz.prog) hr3' 24 5 9 Tryz.underlying24 Tryz.underlying5 Tryz.underlying9
        go_simp
        refine hK.out _ _ ?_ (fun hHeld => ?_)
        · exact hS3
        clear kv
        clear hK K
        try simp only [Act.put, List.setIfInBounds_toArray, List.set_cons_zero, List.set_cons_succ]
        refine wpHT_takeD (i := 14) (d := 55) (v := ?_) (by kernel_rfl) rfl rfl (by decide) (by kernel_rfl) (by kernel_rfl) (fun _ _ _ h => h) (Or.inl ⟨by kernel_rfl, ?_⟩) (by assumption) ?_
        rotate_left
        · intro w hSw; (try dsimp only at hSw); go_simp; (try with_reducible rfl)
        try simp only [Act.put, List.setIfInBounds_toArray, List.set_cons_zero, List.set_cons_succ]
        refine wpHT_takeD (i := 15) (d := 56) (v := ?_) (by kernel_rfl) rfl rfl (by decide) (by kernel_rfl) (by kernel_rfl) (fun _ _ _ h => h) (Or.inl ⟨by kernel_rfl, ?_⟩) (by assumption) ?_
        rotate_left
        · intro w hSw; (try dsimp only at hSw); go_simp; (try with_reducible rfl)
        try simp only [Act.put, List.setIfInBounds_toArray, List.set_cons_zero, List.set_cons_succ]
        refine wpHT_takeD (i := 16) (d := 57) (v := ?_) (by kernel_rfl) rfl rfl (by decide) (by kernel_rfl) (by kernel_rfl) (fun _ _ _ h => h) (Or.inl ⟨by kernel_rfl, ?_⟩) (by assumption) ?_
        rotate_left
        · intro w hSw; (try dsimp only at hSw); go_simp; (try with_reducible rfl)
        try simp only [Act.put, List.setIfInBounds_toArray, List.set_cons_zero, List.set_cons_succ]
        refine wpHT_takeD (i := 17) (d := 58) (v := undef) (by kernel_rfl) rfl rfl (by decide) (by kernel_rfl) (by kernel_rfl) (fun _ _ _ h => h) (Or.inr ⟨by kernel_rfl, rfl⟩) (by assumption) ?_
        try simp only [Act.put, List.setIfInBounds_toArray, List.set_cons_zero, List.set_cons_succ]
        refine wpHT_takeD (i := 18) (d := 59) (v := undef) (by kernel_rfl) rfl rfl (by decide) (by kernel_rfl) (by kernel_rfl) (fun _ _ _ h => h) (Or.inr ⟨by kernel_rfl, rfl⟩) (by assumption) ?_
        try simp only [Act.put, List.setIfInBounds_toArray, List.set_cons_zero, List.set_cons_succ]
        refine wpHT_takeD (i := 19) (d := 60) (v := undef) (by kernel_rfl) rfl rfl (by decide) (by kernel_rfl) (by kernel_rfl) (fun _ _ _ h => h) (Or.inr ⟨by kernel_rfl, rfl⟩) (by assumption) ?_
        try simp only [Act.put, List.setIfInBounds_toArray, List.set_cons_zero, List.set_cons_succ]
        refine wpHT_takeD (i := 20) (d := 61) (v := undef) (by kernel_rfl) rfl rfl (by decide) (by kernel_rfl) (by kernel_rfl) (fun _ _ _ h => h) (Or.inr ⟨by kernel_rfl, rfl⟩) (by assumption) ?_
        try simp only [Act.put, List.setIfInBounds_toArray, List.set_cons_zero, List.set_cons_succ]
        refine wpHT_takeD (i := 21) (d := 62) (v := undef) (by kernel_rfl) rfl rfl (by decide) (by kernel_rfl) (by kernel_rfl) (fun _ _ _ h => h) (Or.inr ⟨by kernel_rfl, rfl⟩) (by assumption) ?_
        try simp only [Act.put, List.setIfInBounds_toArray, List.set_cons_zero, List.set_cons_succ]
        refine wpHT_takeD (i := 22) (d := 63) (v := undef) (by kernel_rfl) rfl rfl (by decide) (by kernel_rfl) (by kernel_rfl) (fun _ _ _ h => h) (Or.inr ⟨by kernel_rfl, rfl⟩) (by assumption) ?_
        try simp only [Act.put, List.setIfInBounds_toArray, List.set_cons_zero, List.set_cons_succ]
        refine wpHT_takeD (i := 23) (d := 64) (v := undef) (by kernel_rfl) rfl rfl (by decide) (by kernel_rfl) (by kernel_rfl) (fun _ _ _ h => h) (Or.inr ⟨by kernel_rfl, rfl⟩) (by assumption) ?_
        try simp only [Act.put, List.setIfInBounds_toArray, List.set_cons_zero, List.set_cons_succ]
        refine wpHT_done (by kernel_rfl) ?_
        simp only [List.drop_succ_cons, List.drop_zero]
        clear e4 e8 elk elk12
        go_wp2
        go_ret2
        exact ⟨_, vs, by rw [Hd.out]; rfl, by rw [Hd.out]; exact hown1.below (Nat.le_refl _) hS3, hbel1.trans (hS3.mono hbel1.size)⟩
    · have dA : decide ((262144 : Int) < sizeOf4 (l.drop k)) = true := by simp; omega
      have Hd := Lib.hid ((Hat.out).done (by rw [Hwl.out, Hho.out]; simp [hA]))
      go_wp2_with fail
      go_quiet (fail)
      go_wp2
      go_ret2
      exact ⟨_, vs, by rw [Hd.out]; rfl, by rw [Hd.out]; exact hown1.below (Nat.le_refl _) (below_drewN (Below.refl _ _) _), below_drewN hbel1 _⟩
  · have d12 : decide ((12 : Int) ≤ l.length - k) = false := by simp; omega
    have Hd := Lib.hid ((Hat.out).done (by unfold whole; simp; omega))
    go_wp2
    go_ret2
    exact ⟨_, vs, by rw [Hd.out]; rfl, by rw [Hd.out]; exact hown, hbel⟩
end Go.Proofs.YtjjcilinghgphaaGreat
