/-
  The walk of MarkWhole.
-/
import Derived.Test.YtkinhilkmjfjhaaQZ
namespace Go.Proofs.Ytkinhilkmjfjhaa
open Go.RowKit Go.Maps Go.Sort
set_option maxRecDepth 100000
attribute [local go_sem] bs_size bs_toList

/-- The mark that was, in memory. -/
structure WasAt (wa : World) (q : Nat) (S : Nat → Prop) (was : Mk) (v : Value) (W : World) : Prop where
  row : W.heap[q]? = some (.cells #[.int .i64 was.wall, .int .i64 was.logi, .int .i64 was.node, v] 49 (0, 0))
  own : OwnT W wa.heap.size 96 v was.ts
  qb : wa.heap.size ≤ q
  nq : ¬ S q
  nv : ∀ j, v.ownBlock = some j → ¬ S j ∧ j ≠ q
section
variable {wa : World} {q : Nat} {S : Nat → Prop} {was : Mk} {v : Value} {W W' : World}
theorem WasAt.lt (h : WasAt wa q S was v W) : q < W.heap.size := (Array.getElem?_eq_some_iff.1 h.row).1
theorem WasAt.fr (h : WasAt wa q S was v W) (hf : Fr S W W') : WasAt wa q (Sx S W W') was v W' := by
  have hl := h.lt
  refine ⟨(hf.block q hl h.nq).trans h.row, ownsRow_keep h.own fun j hj => hf.block j (World.ownsRow.lt h.own j hj).2 (h.nv j hj).1, h.qb, fun e => ?_, fun j hj => ⟨fun e => ?_, (h.nv j hj).2⟩⟩
  · rcases e with e | e
    · exact h.nq e
    · omega
  · rcases e with e | e
    · exact (h.nv j hj).1 e
    · have := (World.ownsRow.lt h.own j hj).2; omega
theorem WasAt.new (h : WasAt wa q S was v W) (hb : Below W.heap.size W W') : WasAt wa q S was v W' :=
  ⟨(hb.block q h.lt).trans h.row, OwnT.below h.own (Nat.le_refl _) hb, h.qb, h.nq, h.nv⟩
theorem fr_set4 (W : World) (q : Nat) (x y z u : Value) : Fr (fun k => k = q) W ((((W.setCell ⟨q, 0, none⟩ x).setCell ⟨q, 1, none⟩ y).setCell ⟨q, 2, none⟩ z).setCell ⟨q, 3, none⟩ u) :=
  ((((Fr.refl (fun k => k = q) W).setCell (p := ⟨q, 0, none⟩) (fun _ => rfl) _).setCell (p := ⟨q, 1, none⟩) (fun _ => rfl) _).setCell (p := ⟨q, 2, none⟩) (fun _ => rfl) _).setCell (p := ⟨q, 3, none⟩) (fun _ => rfl) _
theorem WasAt.put (h : WasAt wa q S was v W) {m : Mk} {u : Value} {base : Nat} (ho : OwnT W base 96 u m.ts) (hb : wa.heap.size ≤ base) (hu : ∀ j, u.ownBlock = some j → ¬ S j ∧ j ≠ q) :
    WasAt wa q S m u ((((W.setCell ⟨q, 0, none⟩ (.int .i64 m.wall)).setCell ⟨q, 1, none⟩ (.int .i64 m.logi)).setCell ⟨q, 2, none⟩ (.int .i64 m.node)).setCell ⟨q, 3, none⟩ u) :=
  ⟨row_set4 h.row _ _ _ _, ownsRow_keep (ownsRow_mono ho hb) fun j hj => (fr_set4 W q _ _ _ _).block j (World.ownsRow.lt ho j hj).2 (hu j hj).2, h.qb, h.nq, hu⟩
theorem LS.put {B : Int} {d : Nat} {s : DS} (h : LS B wa W d S s) (hq : ¬ S q) (hb : wa.heap.size ≤ q) (x y z u : Value) : LS B wa ((((W.setCell ⟨q, 0, none⟩ x).setCell ⟨q, 1, none⟩ y).setCell ⟨q, 2, none⟩ z).setCell ⟨q, 3, none⟩ u) d S s :=
  ⟨h.1.keep (fr_set4 W q x y z u) (fun k hk e => hq (by rw [← e]; exact hk)), h.2.1, below_set4 h.2.2 hb _ _ _ _⟩
end
set_option maxHeartbeats 16000000 in
theorem whole_walk (a : Option Addr) (n cap : Nat) (l : List SvV) (w : World) (h : RdSv w a n cap l) : Calls Try.prog 4 #[.slice a n cap] w (TrueEnd w) := by
  have H0 := Lib.hid h
  have HN := Lib.hid h.1
  have hn6 : n ≤ 9223372036854775807 := by obtain ⟨_, xs, hr, _⟩ := h; exact Nat.le_trans hr.1 hr.2.1
  clear h
  go_enter Try.func4, Try.ntmps4
  go_wp2_with fail
  go_at_call 6
  refine (mfirst_any w).mono ?_
  rintro e wa ⟨rfl, hb⟩
  have HBA := Lib.hid hb
  clear hb
  go_wp2_with fail
  go_at_call 7
  refine (new_any 0 (Int.le_refl _) wa).mono ?_
  rintro e w1 ⟨d, rfl, hb1, hd1⟩
  have hls := LS.start hb1 hd1
  have hq1 : ¬ (wa.heap.size ≤ w1.heap.size ∧ w1.heap.size < w1.heap.size) := by omega
  have hba : Below w1.heap.size w1 (w1.alloc (.cells #[.int .i64 0, .int .i64 0, .int .i64 0, .slice none 0 0] 49)) := (Below.refl _ _).alloc (Nat.le_refl _) _
  have hwas : WasAt wa w1.heap.size (fun k => wa.heap.size ≤ k ∧ k < w1.heap.size) mk0 (.slice none 0 0) (w1.alloc (.cells #[.int .i64 0, .int .i64 0, .int .i64 0, .slice none 0 0] 49)) :=
    ⟨heap_alloc_new _ _, OwnT.nil _ _ _, hb1.size, hq1, fun j hj => nomatch hj⟩
  have hls2 := hls.new hba
  have HL := Lib.hid hls2
  have HW := Lib.hid hwas
  clear hb1 hd1 hls hq1 hba hwas hls2
  go_wp2_with fail
  obtain ⟨w2, hw2⟩ : ∃ w2, w1.alloc (.cells #[.int .i64 0, .int .i64 0, .int .i64 0, .slice none 0 0] 49) = w2 := ⟨_, rfl⟩
  obtain ⟨q, hq⟩ : ∃ q, w1.heap.size = q := ⟨_, rfl⟩
  rw [hw2] at HL HW ⊢
  rw [hq] at HL HW ⊢
  have HQ := Lib.hid hq
  clear hw2 hq
  go_loopw [5, 6, 7, 8, 9, 10, 11, 12] (fun s5 i _ _ _ _ _ _ wr => ∃ (k : Nat) (S : Nat → Prop) (s : DS) (was : Mk) (v : Value) (sm : Bool), k ≤ n ∧ k ≤ 50 ∧ i = .int .i64 k ∧ s5 = .bool sm ∧ Hid (LS ((5 * k : Nat) : Int) wa wr d S s) ∧ Hid (WasAt wa q S was v wr) ∧ Hid (WhI s was sm)) (fun _ i _ _ _ _ _ _ _ => n - (intOf i).toNat)
  case atStart => exact ⟨0, _, newS, mk0, _, false, Nat.zero_le _, Nat.zero_le _, rfl, rfl, HL.out, HW.out, whI_new⟩
  case round =>
    clear HL HW HQ
    obtain ⟨k, S, s, was, v, sm, hk, hk50, rfl, rfl, HL, HW, HI⟩ := hrel
    have hbr := next_below HBA.out HL.out.2.2
    by_cases hgo : k < n ∧ k < 50
    case neg =>
      have hor : (decide (k < n) = true ∧ decide ((k : Int) < 50) = false) ∨ decide (k < n) = false := by
        by_cases h : k < n
        · exact .inl ⟨by simpa using h, by simp; omega⟩
        · exact .inr (by simpa using h)
      clear hgo
      rcases hor with ⟨d1, d2⟩ | d1
      all_goals
        go_wp2_with fail
        go_at_call 6
        refine (mfirst_any wr).mono ?_
        rintro e wc ⟨rfl, hb⟩
        have HBC := Lib.hid (next_below hbr hb)
        clear hb
        go_wp2_with fail
        go_ret
        exact TrueEnd.mk HBC.out
    case pos =>
    obtain ⟨hlt, h50⟩ := hgo
    obtain ⟨sv, hsv⟩ : ∃ sv, l[k]? = some sv := ⟨_, List.getElem?_eq_getElem (by have := HN.out; omega)⟩
    obtain ⟨b, off, at_, ct, ap, cp, rfl, hbl, hts, hpi, ht1, hp1, hst, g0, g1, g2, g3, g4, g5⟩ := H0.out.at (Below.refl _ w) hsv
    have G0 := Lib.hid g0
    have G1 := Lib.hid g1
    have G2 := Lib.hid g2
    have G3 := Lib.hid g3
    have G4 := Lib.hid g4
    have G5 := Lib.hid g5
    have HTS := Lib.hid hts
    have HPI := Lib.hid hpi
    have HST := Lib.hid hst
    have HT1 : Hid (∀ S : Nat → Prop, (∀ j, j < wa.heap.size → ¬ S j) → BlkIn at_ sv.m.ts.length fun b => ¬ S b) := fun S hS h0 b hb => hS b (Nat.lt_of_lt_of_le (ht1 h0 b hb) HBA.out.size)
    have HP1 : Hid (∀ S : Nat → Prop, (∀ j, j < wa.heap.size → ¬ S j) → BlkIn ap sv.p.length fun b => ¬ S b) := fun S hS h0 b hb => hS b (Nat.lt_of_lt_of_le (hp1 h0 b hb) HBA.out.size)
    have HBR := Lib.hid hbr
    clear hsv g0 g1 g2 g3 g4 g5 hts hpi ht1 hp1 hst hbr
    have d0 : decide ((k : Int) < 50) = true := by simp; omega
    have g0 := (HBR.out.cell (p := ⟨b, off + k * 6, none⟩) hbl).trans G0.out
    have g1 := (HBR.out.cell (p := ⟨b, off + k * 6 + 1, none⟩) hbl).trans G1.out
    have g2 := (HBR.out.cell (p := ⟨b, off + k * 6 + 2, none⟩) hbl).trans G2.out
    have g3 := (HBR.out.cell (p := ⟨b, off + k * 6 + 3, none⟩) hbl).trans G3.out
    by_cases h200 : 200 < sv.m.ts.length
    case pos =>
      have d1 : decide ((200 : Int) < sv.m.ts.length) = true := by simp; omega
      go_wp2_with fail
      go_roundw
      case rel => exact ⟨k + 1, S, s, was, v, sm, by omega, by omega, by go_num, rfl, HL.out.mono (by omega), HW.out, HI.out⟩
      case measure => simp [intOf]; omega
    case neg =>
    have d1 : decide ((200 : Int) < sv.m.ts.length) = false := by simp; omega
    have H200 : Hid (sv.m.ts.length ≤ 200) := by show _ ≤ _; omega
    have g4 := (HBR.out.cell (p := ⟨b, off + k * 6 + 4, none⟩) hbl).trans G4.out
    have HOK := Lib.hid HL.out.1.ok
    clear h200
    go_wp2_with fail
    clear g0 g1 g2 g3 g4
    go_at_call 19
    refine (arm_any d S _ s sv.st HST.out.2 wr HL.out.1).mono ?_
    rintro e w2 ⟨rfl, hd2⟩
    obtain ⟨hl2, hf2⟩ := HL.out.done hd2
    have HL2 := Lib.hid hl2
    have HW2 := Lib.hid (HW.out.fr hf2)
    have HB2 := Lib.hid (next_below HBA.out hl2.2.2)
    obtain ⟨S2, hS2⟩ : ∃ S2, Sx S wr w2 = S2 := ⟨_, rfl⟩
    rw [hS2] at HL2 HW2
    clear hd2 hl2 hf2 hS2 HBR
    have g0 := (HB2.out.cell (p := ⟨b, off + k * 6, none⟩) hbl).trans G0.out
    have g1 := (HB2.out.cell (p := ⟨b, off + k * 6 + 1, none⟩) hbl).trans G1.out
    have g2 := (HB2.out.cell (p := ⟨b, off + k * 6 + 2, none⟩) hbl).trans G2.out
    have g3 := (HB2.out.cell (p := ⟨b, off + k * 6 + 3, none⟩) hbl).trans G3.out
    go_wp2_with fail
    clear g0 g1 g2 g3
    go_at_call 10
    refine (save_any d S2 _ (by omega) (armS s sv.st) sv.m at_ ct w2 HL2.out.1 (HTS.out.below HB2.out) (HT1.out S2 HL2.out.old)).mono ?_
    rintro e w3 ⟨rfl, hd3⟩
    have hstep := whole_step HOK.out HI.out sv.m sv.st sv.p
    obtain ⟨r, hr⟩ : ∃ r, saveS (armS s sv.st) sv.m = r := ⟨_, rfl⟩
    rw [hr] at hd3 hstep ⊢
    obtain ⟨hl3, hf3⟩ := (HL2.out.mono (B' := ((5 * k : Nat) : Int) + 5) (by omega)).done hd3
    have HL3 := Lib.hid hl3
    have HW3 := Lib.hid (HW2.out.fr hf3)
    have HB3 := Lib.hid (next_below HBA.out hl3.2.2)
    obtain ⟨S3, hS3⟩ : ∃ S3, Sx S2 w2 w3 = S3 := ⟨_, rfl⟩
    rw [hS3] at HL3 HW3
    have HSTEP := Lib.hid hstep
    clear hd3 hl3 hf3 hS3 HL2 HW2 HB2 hr hstep HL HW HOK
    go_wp2_with fail
    go_at_call 20
    refine (down_any d S3 _ r.1 w3 HL3.out.1).mono ?_
    rintro e w3' ⟨rfl, rfl⟩
    have g5 := (HB3.out.cell (p := ⟨b, off + k * 6 + 5, none⟩) hbl).trans G5.out
    go_wp2_with fail
    clear g5
    go_at_call 21
    refine (crash_any d S3 _ r.1 ap sv.p.length cp sv.p w3 HL3.out.1 (HPI.out.below HB3.out) (HP1.out S3 HL3.out.old)).mono ?_
    rintro e w4 ⟨rfl, hd4⟩
    obtain ⟨hl4, hf4⟩ := HL3.out.done hd4
    have HL4 := Lib.hid hl4
    have HW4 := Lib.hid (HW3.out.fr hf4)
    obtain ⟨S4, hS4⟩ : ∃ S4, Sx S3 w3 w4 = S4 := ⟨_, rfl⟩
    obtain ⟨s4, hs4⟩ : ∃ s4, crashS r.1 sv.p = s4 := ⟨_, rfl⟩
    rw [hS4] at HL4 HW4
    rw [hs4] at HL4 HSTEP
    clear hd4 hl4 hf4 hS4 hs4 HL3 HW3 HB3
    go_wp2_with fail
    go_at_call 14
    refine (mload_any d S4 _ s4 w4 HL4.out.1).mono ?_
    rintro e w5 ⟨v5, rfl, ho5, hb5⟩
    obtain ⟨M2, hM2⟩ : ∃ M2, (loadM s4).1 = M2 := ⟨_, rfl⟩
    obtain ⟨f2, hf2⟩ : ∃ f2, (loadM s4).2 = f2 := ⟨_, rfl⟩
    obtain ⟨er, her⟩ : ∃ er, r.2 = er := ⟨_, rfl⟩
    obtain ⟨fell, hfell⟩ : ∃ fell, r.1.dn = fell := ⟨_, rfl⟩
    rw [hM2, hf2, her, hfell] at HSTEP
    rw [hM2, hf2, her, hfell]
    rw [hM2] at ho5
    obtain ⟨a5, c5, rfl, hr5⟩ := ho5.rd
    have hba6 : Below w5.heap.size w5 (w5.alloc (.cells #[.int .i64 M2.wall, .int .i64 M2.logi, .int .i64 M2.node, .slice a5 M2.ts.length c5] 34)) := (Below.refl _ _).alloc (Nat.le_refl _) _
    have hrow6 := heap_alloc_new w5 (.cells #[.int .i64 M2.wall, .int .i64 M2.logi, .int .i64 M2.node, .slice a5 M2.ts.length c5] 34)
    obtain ⟨w6, hw6⟩ : ∃ w6, w5.alloc (.cells #[.int .i64 M2.wall, .int .i64 M2.logi, .int .i64 M2.node, .slice a5 M2.ts.length c5] 34) = w6 := ⟨_, rfl⟩
    rw [hw6] at hba6 hrow6
    obtain ⟨mb, hmb⟩ : ∃ mb, w5.heap.size = mb := ⟨_, rfl⟩
    rw [hmb] at hrow6
    have HROW6 := Lib.hid hrow6
    have HRM := Lib.hid (hr5.below hba6)
    have HL6 := Lib.hid ((HL4.out.new hb5).new hba6)
    have HW6 := Lib.hid ((HW4.out.new hb5).new hba6)
    have HB6 := Lib.hid (next_below HBA.out HL6.out.2.2)
    have hqw := HW6.out.row
    obtain ⟨av, cv, rfl, hav⟩ := HW6.out.own.rd
    have q0 := cell_of_row _ _ 0 _ _ _ hqw
    have q1 := cell_of_row _ _ 1 _ _ _ hqw
    have q2 := cell_of_row _ _ 2 _ _ _ hqw
    have q3 := cell_of_row _ _ 3 _ _ _ hqw
    have m0 := cell_of_row _ _ 0 _ _ _ hrow6
    have m1 := cell_of_row _ _ 1 _ _ _ hrow6
    have m2 := cell_of_row _ _ 2 _ _ _ hrow6
    have m3 := cell_of_row _ _ 3 _ _ _ hrow6
    have HAV := Lib.hid hav
    clear hM2 hf2 her hfell ho5 hr5 hba6 hrow6 hqw hav HL4 HW4 hb5
    have g0 := (HB6.out.cell (p := ⟨b, off + k * 6, none⟩) hbl).trans G0.out
    have g1 := (HB6.out.cell (p := ⟨b, off + k * 6 + 1, none⟩) hbl).trans G1.out
    have g2 := (HB6.out.cell (p := ⟨b, off + k * 6 + 2, none⟩) hbl).trans G2.out
    have g3 := (HB6.out.cell (p := ⟨b, off + k * 6 + 3, none⟩) hbl).trans G3.out
    rcases HSTEP.out with ⟨rfl, rfl, rfl, rfl, rfl, hmay, hwi⟩ | ⟨rfl, rfl, rfl, rfl, rfl, hmay, hwi⟩ | ⟨rfl, rfl, hMw, rfl, rfl, hmay, hwi⟩ | ⟨rfl, rfl, hMw, rfl, rfl, hmay, hwi⟩ | ⟨rfl, rfl, rfl, rfl, hmay, hwi⟩
    · have HMY := Lib.hid hmay
      have HWI := Lib.hid hwi
      clear hmay hwi HSTEP
      have HX0 : Hid (Below w6.heap.size w6 w6.drew) := (Below.refl w6.heap.size w6).drew
      have G0' := Lib.hid g0
      have G1' := Lib.hid g1
      have G2' := Lib.hid g2
      have G3' := Lib.hid g3
      go_wp2_with fail
      refine wp_region_ht 20 (fun W => W.cell? ⟨b, off + k * 6, none⟩ = some (.int .i64 sv.m.wall) ∧ W.cell? ⟨b, off + k * 6 + 1, none⟩ = some (.int .i64 sv.m.logi) ∧ W.cell? ⟨b, off + k * 6 + 2, none⟩ = some (.int .i64 sv.m.node) ∧ W.cell? ⟨b, off + k * 6 + 3, none⟩ = some (.slice at_ sv.m.ts.length ct)) (by kernel_rfl) (by kernel_rfl) ?_ (fun hHeld => ?_)
      · exact ⟨g0, g1, g2, g3⟩
      try simp only [Act.put, List.setIfInBounds_toArray, List.set_cons_zero, List.set_cons_succ]
      refine wpHT_takeD (i := 0) (d := 83) (v := ?_) (by kernel_rfl) rfl rfl (by decide) (by kernel_rfl) (by kernel_rfl) (fun _ _ _ h => h) (Or.inl ⟨by kernel_rfl, ?_⟩) (by assumption) ?_
      rotate_left
      · intro w hSw; (try dsimp only at hSw); go_simp; (try with_reducible rfl)
      try simp only [Act.put, List.setIfInBounds_toArray, List.set_cons_zero, List.set_cons_succ]
      refine wpHT_takeD (i := 1) (d := 84) (v := ?_) (by kernel_rfl) rfl rfl (by decide) (by kernel_rfl) (by kernel_rfl) (fun _ _ _ h => h) (Or.inl ⟨by kernel_rfl, ?_⟩) (by assumption) ?_
      rotate_left
      · intro w hSw; (try dsimp only at hSw); go_simp; (try with_reducible rfl)
      try simp only [Act.put, List.setIfInBounds_toArray, List.set_cons_zero, List.set_cons_succ]
      refine wpHT_takeD (i := 2) (d := 85) (v := ?_) (by kernel_rfl) rfl rfl (by decide) (by kernel_rfl) (by kernel_rfl) (fun _ _ _ h => h) (Or.inl ⟨by kernel_rfl, ?_⟩) (by assumption) ?_
      rotate_left
      · intro w hSw; (try dsimp only at hSw); go_simp; (try with_reducible rfl)
      try simp only [Act.put, List.setIfInBounds_toArray, List.set_cons_zero, List.set_cons_succ]
      refine wpHT_takeD (i := 3) (d := 86) (v := ?_) (by kernel_rfl) rfl rfl (by decide) (by kernel_rfl) (by kernel_rfl) (fun _ _ _ h => h) (Or.inl ⟨by kernel_rfl, ?_⟩) (by assumption) ?_
      rotate_left
      · intro w hSw; (try dsimp only at hSw); go_simp; (try with_reducible rfl)
      try simp only [Act.put, List.setIfInBounds_toArray, List.set_cons_zero, List.set_cons_succ]
      refine wpHT_takeD (i := 4) (d := 87) (v := ?_) (by kernel_rfl) rfl rfl (by decide) (by kernel_rfl) (by kernel_rfl) (fun _ _ _ h => h) (Or.inl ⟨by kernel_rfl, ?_⟩) (by assumption) ?_
      rotate_left
      · intro w hSw; (try dsimp only at hSw); go_simp; (try with_reducible rfl)
      try simp only [Act.put, List.setIfInBounds_toArray, List.set_cons_zero, List.set_cons_succ]
      refine wpHT_one (i := 5) (by kernel_rfl) rfl (by decide) (fun K hK => ?_)
      go_simp
      go_at_call 11
      refine (may_any sv.m at_ ct _ ((HTS.out.below HB6.out).below HX0.out)).mono ?_
      rintro e X1 ⟨rfl, hx1⟩
      have hx1 : Below w6.heap.size w6 X1 := HX0.out.trans (hx1.mono HX0.out.size)
      rw [HMY.out]
      have g0' := cell_below G0'.out hx1
      have g1' := cell_below G1'.out hx1
      have g2' := cell_below G2'.out hx1
      have g3' := cell_below G3'.out hx1
      have HX1 := Lib.hid hx1
      clear hx1
      refine hK.out _ _ ?_ (fun hHeld => ?_)
      · exact ⟨g0', g1', g2', g3'⟩
      clear hK K
      try simp only [Act.put, List.setIfInBounds_toArray, List.set_cons_zero, List.set_cons_succ]
      refine wpHT_takeD (i := 6) (d := 89) (v := ?_) (by kernel_rfl) rfl rfl (by decide) (by kernel_rfl) (by kernel_rfl) (fun _ _ _ h => h) (Or.inl ⟨by kernel_rfl, ?_⟩) (by assumption) ?_
      rotate_left
      · intro w hSw; (try dsimp only at hSw); go_simp; (try with_reducible rfl)
      try simp only [Act.put, List.setIfInBounds_toArray, List.set_cons_zero, List.set_cons_succ]
      refine wpHT_takeD (i := 7) (d := 90) (v := undef) (by kernel_rfl) rfl rfl (by decide) (by kernel_rfl) (by kernel_rfl) (fun _ _ _ h => h) (Or.inr ⟨by kernel_rfl, rfl⟩) (by assumption) ?_
      try simp only [Act.put, List.setIfInBounds_toArray, List.set_cons_zero, List.set_cons_succ]
      refine wpHT_takeD (i := 8) (d := 91) (v := undef) (by kernel_rfl) rfl rfl (by decide) (by kernel_rfl) (by kernel_rfl) (fun _ _ _ h => h) (Or.inr ⟨by kernel_rfl, rfl⟩) (by assumption) ?_
      try simp only [Act.put, List.setIfInBounds_toArray, List.set_cons_zero, List.set_cons_succ]
      refine wpHT_takeD (i := 9) (d := 92) (v := ?_) (by kernel_rfl) rfl rfl (by decide) (by kernel_rfl) (by kernel_rfl) (fun _ _ _ h => h) (Or.inl ⟨by kernel_rfl, ?_⟩) (by assumption) ?_
      rotate_left
      · intro w hSw; (try dsimp only at hSw); go_simp; (try with_reducible rfl)
      try simp only [Act.put, List.setIfInBounds_toArray, List.set_cons_zero, List.set_cons_succ]
      refine wpHT_takeD (i := 10) (d := 93) (v := ?_) (by kernel_rfl) rfl rfl (by decide) (by kernel_rfl) (by kernel_rfl) (fun _ _ _ h => h) (Or.inl ⟨by kernel_rfl, ?_⟩) (by assumption) ?_
      rotate_left
      · intro w hSw; (try dsimp only at hSw); go_simp; (try with_reducible rfl)
      try simp only [Act.put, List.setIfInBounds_toArray, List.set_cons_zero, List.set_cons_succ]
      refine wpHT_takeD (i := 11) (d := 94) (v := undef) (by kernel_rfl) rfl rfl (by decide) (by kernel_rfl) (by kernel_rfl) (fun _ _ _ h => h) (Or.inr ⟨by kernel_rfl, rfl⟩) (by assumption) ?_
      try simp only [Act.put, List.setIfInBounds_toArray, List.set_cons_zero, List.set_cons_succ]
      refine wpHT_takeD (i := 12) (d := 95) (v := undef) (by kernel_rfl) rfl rfl (by decide) (by kernel_rfl) (by kernel_rfl) (fun _ _ _ h => h) (Or.inr ⟨by kernel_rfl, rfl⟩) (by assumption) ?_
      try simp only [Act.put, List.setIfInBounds_toArray, List.set_cons_zero, List.set_cons_succ]
      refine wpHT_takeD (i := 13) (d := 96) (v := undef) (by kernel_rfl) rfl rfl (by decide) (by kernel_rfl) (by kernel_rfl) (fun _ _ _ h => h) (Or.inr ⟨by kernel_rfl, rfl⟩) (by assumption) ?_
      try simp only [Act.put, List.setIfInBounds_toArray, List.set_cons_zero, List.set_cons_succ]
      refine wpHT_takeD (i := 14) (d := 97) (v := undef) (by kernel_rfl) rfl rfl (by decide) (by kernel_rfl) (by kernel_rfl) (fun _ _ _ h => h) (Or.inr ⟨by kernel_rfl, rfl⟩) (by assumption) ?_
      try simp only [Act.put, List.setIfInBounds_toArray, List.set_cons_zero, List.set_cons_succ]
      refine wpHT_takeD (i := 15) (d := 98) (v := undef) (by kernel_rfl) rfl rfl (by decide) (by kernel_rfl) (by kernel_rfl) (fun _ _ _ h => h) (Or.inr ⟨by kernel_rfl, rfl⟩) (by assumption) ?_
      try simp only [Act.put, List.setIfInBounds_toArray, List.set_cons_zero, List.set_cons_succ]
      refine wpHT_takeD (i := 16) (d := 99) (v := undef) (by kernel_rfl) rfl rfl (by decide) (by kernel_rfl) (by kernel_rfl) (fun _ _ _ h => h) (Or.inr ⟨by kernel_rfl, rfl⟩) (by assumption) ?_
      try simp only [Act.put, List.setIfInBounds_toArray, List.set_cons_zero, List.set_cons_succ]
      refine wpHT_takeD (i := 17) (d := 100) (v := undef) (by kernel_rfl) rfl rfl (by decide) (by kernel_rfl) (by kernel_rfl) (fun _ _ _ h => h) (Or.inr ⟨by kernel_rfl, rfl⟩) (by assumption) ?_
      try simp only [Act.put, List.setIfInBounds_toArray, List.set_cons_zero, List.set_cons_succ]
      refine wpHT_takeD (i := 18) (d := 101) (v := undef) (by kernel_rfl) rfl rfl (by decide) (by kernel_rfl) (by kernel_rfl) (fun _ _ _ h => h) (Or.inr ⟨by kernel_rfl, rfl⟩) (by assumption) ?_
      try simp only [Act.put, List.setIfInBounds_toArray, List.set_cons_zero, List.set_cons_succ]
      refine wpHT_takeD (i := 19) (d := 102) (v := ?_) (by kernel_rfl) rfl rfl (by decide) (by kernel_rfl) (by kernel_rfl) (fun _ _ _ h => h) (Or.inl ⟨by kernel_rfl, ?_⟩) (by assumption) ?_
      rotate_left
      · intro w hSw; (try dsimp only at hSw); go_simp; (try with_reducible rfl)
      try simp only [Act.put, List.setIfInBounds_toArray, List.set_cons_zero, List.set_cons_succ]
      refine wpHT_done (by kernel_rfl) ?_
      simp only [List.drop_succ_cons, List.drop_zero]
      clear hHeld g0 g1 g2 g3
      have y0 := g0'
      have y1 := g1'
      have y2 := g2'
      have y3 := g3'
      clear g0' g1' g2' g3'
      go_wp2_with fail
      go_at_call 11
      refine (may_any sv.m at_ ct X1 ((HTS.out.below HB6.out).below HX1.out)).mono ?_
      rintro e X2 ⟨rfl, hx2⟩
      rw [HMY.out]
      have HX2 : Hid (Below w6.heap.size w6 X2) := HX1.out.trans (hx2.mono HX1.out.size)
      clear hx2 y0 y1 y2 y3
      go_wp2_with fail
      go_roundw
      case rel => exact ⟨k + 1, S4, s4, was, _, false, by omega, by omega, by go_num, rfl, (HL6.out.new HX2.out).mono (by omega), HW6.out.new HX2.out, HWI.out⟩
      case measure => simp [intOf]; omega
    · have HMY := Lib.hid hmay
      have HWI := Lib.hid hwi
      clear hmay hwi HSTEP
      have HX0 : Hid (Below w6.heap.size w6 w6.drew) := (Below.refl w6.heap.size w6).drew
      have G0' := Lib.hid g0
      have G1' := Lib.hid g1
      have G2' := Lib.hid g2
      have G3' := Lib.hid g3
      go_wp2_with fail
      refine wp_region_ht 20 (fun W => W.cell? ⟨b, off + k * 6, none⟩ = some (.int .i64 sv.m.wall) ∧ W.cell? ⟨b, off + k * 6 + 1, none⟩ = some (.int .i64 sv.m.logi) ∧ W.cell? ⟨b, off + k * 6 + 2, none⟩ = some (.int .i64 sv.m.node) ∧ W.cell? ⟨b, off + k * 6 + 3, none⟩ = some (.slice at_ sv.m.ts.length ct)) (by kernel_rfl) (by kernel_rfl) ?_ (fun hHeld => ?_)
      · exact ⟨g0, g1, g2, g3⟩
      try simp only [Act.put, List.setIfInBounds_toArray, List.set_cons_zero, List.set_cons_succ]
      refine wpHT_takeD (i := 0) (d := 83) (v := ?_) (by kernel_rfl) rfl rfl (by decide) (by kernel_rfl) (by kernel_rfl) (fun _ _ _ h => h) (Or.inl ⟨by kernel_rfl, ?_⟩) (by assumption) ?_
      rotate_left
      · intro w hSw; (try dsimp only at hSw); go_simp; (try with_reducible rfl)
      try simp only [Act.put, List.setIfInBounds_toArray, List.set_cons_zero, List.set_cons_succ]
      refine wpHT_takeD (i := 1) (d := 84) (v := ?_) (by kernel_rfl) rfl rfl (by decide) (by kernel_rfl) (by kernel_rfl) (fun _ _ _ h => h) (Or.inl ⟨by kernel_rfl, ?_⟩) (by assumption) ?_
      rotate_left
      · intro w hSw; (try dsimp only at hSw); go_simp; (try with_reducible rfl)
      try simp only [Act.put, List.setIfInBounds_toArray, List.set_cons_zero, List.set_cons_succ]
      refine wpHT_takeD (i := 2) (d := 85) (v := ?_) (by kernel_rfl) rfl rfl (by decide) (by kernel_rfl) (by kernel_rfl) (fun _ _ _ h => h) (Or.inl ⟨by kernel_rfl, ?_⟩) (by assumption) ?_
      rotate_left
      · intro w hSw; (try dsimp only at hSw); go_simp; (try with_reducible rfl)
      try simp only [Act.put, List.setIfInBounds_toArray, List.set_cons_zero, List.set_cons_succ]
      refine wpHT_takeD (i := 3) (d := 86) (v := ?_) (by kernel_rfl) rfl rfl (by decide) (by kernel_rfl) (by kernel_rfl) (fun _ _ _ h => h) (Or.inl ⟨by kernel_rfl, ?_⟩) (by assumption) ?_
      rotate_left
      · intro w hSw; (try dsimp only at hSw); go_simp; (try with_reducible rfl)
      try simp only [Act.put, List.setIfInBounds_toArray, List.set_cons_zero, List.set_cons_succ]
      refine wpHT_takeD (i := 4) (d := 87) (v := ?_) (by kernel_rfl) rfl rfl (by decide) (by kernel_rfl) (by kernel_rfl) (fun _ _ _ h => h) (Or.inl ⟨by kernel_rfl, ?_⟩) (by assumption) ?_
      rotate_left
      · intro w hSw; (try dsimp only at hSw); go_simp; (try with_reducible rfl)
      try simp only [Act.put, List.setIfInBounds_toArray, List.set_cons_zero, List.set_cons_succ]
      refine wpHT_one (i := 5) (by kernel_rfl) rfl (by decide) (fun K hK => ?_)
      go_simp
      go_at_call 11
      refine (may_any sv.m at_ ct _ ((HTS.out.below HB6.out).below HX0.out)).mono ?_
      rintro e X1 ⟨rfl, hx1⟩
      have hx1 : Below w6.heap.size w6 X1 := HX0.out.trans (hx1.mono HX0.out.size)
      rw [HMY.out]
      have g0' := cell_below G0'.out hx1
      have g1' := cell_below G1'.out hx1
      have g2' := cell_below G2'.out hx1
      have g3' := cell_below G3'.out hx1
      have HX1 := Lib.hid hx1
      clear hx1
      refine hK.out _ _ ?_ (fun hHeld => ?_)
      · exact ⟨g0', g1', g2', g3'⟩
      clear hK K
      try simp only [Act.put, List.setIfInBounds_toArray, List.set_cons_zero, List.set_cons_succ]
      refine wpHT_takeD (i := 6) (d := 89) (v := ?_) (by kernel_rfl) rfl rfl (by decide) (by kernel_rfl) (by kernel_rfl) (fun _ _ _ h => h) (Or.inl ⟨by kernel_rfl, ?_⟩) (by assumption) ?_
      rotate_left
      · intro w hSw; (try dsimp only at hSw); go_simp; (try with_reducible rfl)
      try simp only [Act.put, List.setIfInBounds_toArray, List.set_cons_zero, List.set_cons_succ]
      refine wpHT_takeD (i := 7) (d := 90) (v := ?_) (by kernel_rfl) rfl rfl (by decide) (by kernel_rfl) (by kernel_rfl) (fun _ _ _ h => h) (Or.inl ⟨by kernel_rfl, ?_⟩) (by assumption) ?_
      rotate_left
      · intro w hSw; (try dsimp only at hSw); go_simp; (try with_reducible rfl)
      try simp only [Act.put, List.setIfInBounds_toArray, List.set_cons_zero, List.set_cons_succ]
      refine wpHT_takeD (i := 8) (d := 91) (v := ?_) (by kernel_rfl) rfl rfl (by decide) (by kernel_rfl) (by kernel_rfl) (fun _ _ _ h => h) (Or.inl ⟨by kernel_rfl, ?_⟩) (by assumption) ?_
      rotate_left
      · intro w hSw; (try dsimp only at hSw); go_simp; (try with_reducible rfl)
      try simp only [Act.put, List.setIfInBounds_toArray, List.set_cons_zero, List.set_cons_succ]
      refine wpHT_takeD (i := 9) (d := 92) (v := ?_) (by kernel_rfl) rfl rfl (by decide) (by kernel_rfl) (by kernel_rfl) (fun _ _ _ h => h) (Or.inl ⟨by kernel_rfl, ?_⟩) (by assumption) ?_
      rotate_left
      · intro w hSw; (try dsimp only at hSw); go_simp; (try with_reducible rfl)
      try simp only [Act.put, List.setIfInBounds_toArray, List.set_cons_zero, List.set_cons_succ]
      refine wpHT_takeD (i := 10) (d := 93) (v := ?_) (by kernel_rfl) rfl rfl (by decide) (by kernel_rfl) (by kernel_rfl) (fun _ _ _ h => h) (Or.inl ⟨by kernel_rfl, ?_⟩) (by assumption) ?_
      rotate_left
      · intro w hSw; (try dsimp only at hSw); go_simp; (try with_reducible rfl)
      try simp only [Act.put, List.setIfInBounds_toArray, List.set_cons_zero, List.set_cons_succ]
      refine wpHT_takeD (i := 11) (d := 94) (v := undef) (by kernel_rfl) rfl rfl (by decide) (by kernel_rfl) (by kernel_rfl) (fun _ _ _ h => h) (Or.inr ⟨by kernel_rfl, rfl⟩) (by assumption) ?_
      try simp only [Act.put, List.setIfInBounds_toArray, List.set_cons_zero, List.set_cons_succ]
      refine wpHT_takeD (i := 12) (d := 95) (v := undef) (by kernel_rfl) rfl rfl (by decide) (by kernel_rfl) (by kernel_rfl) (fun _ _ _ h => h) (Or.inr ⟨by kernel_rfl, rfl⟩) (by assumption) ?_
      try simp only [Act.put, List.setIfInBounds_toArray, List.set_cons_zero, List.set_cons_succ]
      refine wpHT_takeD (i := 13) (d := 96) (v := undef) (by kernel_rfl) rfl rfl (by decide) (by kernel_rfl) (by kernel_rfl) (fun _ _ _ h => h) (Or.inr ⟨by kernel_rfl, rfl⟩) (by assumption) ?_
      try simp only [Act.put, List.setIfInBounds_toArray, List.set_cons_zero, List.set_cons_succ]
      refine wpHT_takeD (i := 14) (d := 97) (v := undef) (by kernel_rfl) rfl rfl (by decide) (by kernel_rfl) (by kernel_rfl) (fun _ _ _ h => h) (Or.inr ⟨by kernel_rfl, rfl⟩) (by assumption) ?_
      try simp only [Act.put, List.setIfInBounds_toArray, List.set_cons_zero, List.set_cons_succ]
      refine wpHT_takeD (i := 15) (d := 98) (v := undef) (by kernel_rfl) rfl rfl (by decide) (by kernel_rfl) (by kernel_rfl) (fun _ _ _ h => h) (Or.inr ⟨by kernel_rfl, rfl⟩) (by assumption) ?_
      try simp only [Act.put, List.setIfInBounds_toArray, List.set_cons_zero, List.set_cons_succ]
      refine wpHT_takeD (i := 16) (d := 99) (v := undef) (by kernel_rfl) rfl rfl (by decide) (by kernel_rfl) (by kernel_rfl) (fun _ _ _ h => h) (Or.inr ⟨by kernel_rfl, rfl⟩) (by assumption) ?_
      try simp only [Act.put, List.setIfInBounds_toArray, List.set_cons_zero, List.set_cons_succ]
      refine wpHT_takeD (i := 17) (d := 100) (v := undef) (by kernel_rfl) rfl rfl (by decide) (by kernel_rfl) (by kernel_rfl) (fun _ _ _ h => h) (Or.inr ⟨by kernel_rfl, rfl⟩) (by assumption) ?_
      try simp only [Act.put, List.setIfInBounds_toArray, List.set_cons_zero, List.set_cons_succ]
      refine wpHT_takeD (i := 18) (d := 101) (v := undef) (by kernel_rfl) rfl rfl (by decide) (by kernel_rfl) (by kernel_rfl) (fun _ _ _ h => h) (Or.inr ⟨by kernel_rfl, rfl⟩) (by assumption) ?_
      try simp only [Act.put, List.setIfInBounds_toArray, List.set_cons_zero, List.set_cons_succ]
      refine wpHT_takeD (i := 19) (d := 102) (v := ?_) (by kernel_rfl) rfl rfl (by decide) (by kernel_rfl) (by kernel_rfl) (fun _ _ _ h => h) (Or.inl ⟨by kernel_rfl, ?_⟩) (by assumption) ?_
      rotate_left
      · intro w hSw; (try dsimp only at hSw); go_simp; (try with_reducible rfl)
      try simp only [Act.put, List.setIfInBounds_toArray, List.set_cons_zero, List.set_cons_succ]
      refine wpHT_done (by kernel_rfl) ?_
      simp only [List.drop_succ_cons, List.drop_zero]
      clear hHeld g0 g1 g2 g3 g0' g1' g2' g3'
      go_wp2_with fail
      go_roundw
      case rel => exact ⟨k + 1, S4, s4, was, _, false, by omega, by omega, by go_num, rfl, (HL6.out.new HX1.out).mono (by omega), HW6.out.new HX1.out, HWI.out⟩
      case measure => simp [intOf]; omega
    · obtain rfl : was = M2 := hMw.symm
      have HMY := Lib.hid hmay
      have HWI := Lib.hid hwi
      clear hmay hwi HSTEP
      have hq := same_any was was a5 av c5 cv w6 HRM.out HAV.out
      rw [sameB_refl] at hq
      have HQ := Lib.hid hq
      clear hq
      go_wp2_with fail
      go_at_call 16
      refine (HQ.out).mono ?_
      rintro e X0 ⟨rfl, hx0⟩
      have g0 := cell_below g0 hx0
      have g1 := cell_below g1 hx0
      have g2 := cell_below g2 hx0
      have g3 := cell_below g3 hx0
      have HB6 := Lib.hid (next_below HB6.out hx0)
      have HRM := Lib.hid (HRM.out.below hx0)
      have HL6 := Lib.hid (HL6.out.new hx0)
      have HW6 := Lib.hid (HW6.out.new hx0)
      clear q0 q1 q2 q3 m0 m1 m2 m3 hx0 hw6
      have HX0 : Hid (Below X0.heap.size X0 X0.drew) := (Below.refl X0.heap.size X0).drew
      have G0' := Lib.hid g0
      have G1' := Lib.hid g1
      have G2' := Lib.hid g2
      have G3' := Lib.hid g3
      go_wp2_with fail
      refine wp_region_ht 20 (fun W => W.cell? ⟨b, off + k * 6, none⟩ = some (.int .i64 sv.m.wall) ∧ W.cell? ⟨b, off + k * 6 + 1, none⟩ = some (.int .i64 sv.m.logi) ∧ W.cell? ⟨b, off + k * 6 + 2, none⟩ = some (.int .i64 sv.m.node) ∧ W.cell? ⟨b, off + k * 6 + 3, none⟩ = some (.slice at_ sv.m.ts.length ct)) (by kernel_rfl) (by kernel_rfl) ?_ (fun hHeld => ?_)
      · exact ⟨g0, g1, g2, g3⟩
      try simp only [Act.put, List.setIfInBounds_toArray, List.set_cons_zero, List.set_cons_succ]
      refine wpHT_takeD (i := 0) (d := 83) (v := ?_) (by kernel_rfl) rfl rfl (by decide) (by kernel_rfl) (by kernel_rfl) (fun _ _ _ h => h) (Or.inl ⟨by kernel_rfl, ?_⟩) (by assumption) ?_
      rotate_left
      · intro w hSw; (try dsimp only at hSw); go_simp; (try with_reducible rfl)
      try simp only [Act.put, List.setIfInBounds_toArray, List.set_cons_zero, List.set_cons_succ]
      refine wpHT_takeD (i := 1) (d := 84) (v := ?_) (by kernel_rfl) rfl rfl (by decide) (by kernel_rfl) (by kernel_rfl) (fun _ _ _ h => h) (Or.inl ⟨by kernel_rfl, ?_⟩) (by assumption) ?_
      rotate_left
      · intro w hSw; (try dsimp only at hSw); go_simp; (try with_reducible rfl)
      try simp only [Act.put, List.setIfInBounds_toArray, List.set_cons_zero, List.set_cons_succ]
      refine wpHT_takeD (i := 2) (d := 85) (v := ?_) (by kernel_rfl) rfl rfl (by decide) (by kernel_rfl) (by kernel_rfl) (fun _ _ _ h => h) (Or.inl ⟨by kernel_rfl, ?_⟩) (by assumption) ?_
      rotate_left
      · intro w hSw; (try dsimp only at hSw); go_simp; (try with_reducible rfl)
      try simp only [Act.put, List.setIfInBounds_toArray, List.set_cons_zero, List.set_cons_succ]
      refine wpHT_takeD (i := 3) (d := 86) (v := ?_) (by kernel_rfl) rfl rfl (by decide) (by kernel_rfl) (by kernel_rfl) (fun _ _ _ h => h) (Or.inl ⟨by kernel_rfl, ?_⟩) (by assumption) ?_
      rotate_left
      · intro w hSw; (try dsimp only at hSw); go_simp; (try with_reducible rfl)
      try simp only [Act.put, List.setIfInBounds_toArray, List.set_cons_zero, List.set_cons_succ]
      refine wpHT_takeD (i := 4) (d := 87) (v := ?_) (by kernel_rfl) rfl rfl (by decide) (by kernel_rfl) (by kernel_rfl) (fun _ _ _ h => h) (Or.inl ⟨by kernel_rfl, ?_⟩) (by assumption) ?_
      rotate_left
      · intro w hSw; (try dsimp only at hSw); go_simp; (try with_reducible rfl)
      try simp only [Act.put, List.setIfInBounds_toArray, List.set_cons_zero, List.set_cons_succ]
      refine wpHT_one (i := 5) (by kernel_rfl) rfl (by decide) (fun K hK => ?_)
      go_simp
      go_at_call 11
      refine (may_any sv.m at_ ct _ ((HTS.out.below HB6.out).below HX0.out)).mono ?_
      rintro e X1 ⟨rfl, hx1⟩
      have hx1 : Below X0.heap.size X0 X1 := HX0.out.trans (hx1.mono HX0.out.size)
      rw [HMY.out]
      have g0' := cell_below G0'.out hx1
      have g1' := cell_below G1'.out hx1
      have g2' := cell_below G2'.out hx1
      have g3' := cell_below G3'.out hx1
      have HX1 := Lib.hid hx1
      clear hx1
      refine hK.out _ _ ?_ (fun hHeld => ?_)
      · exact ⟨g0', g1', g2', g3'⟩
      clear hK K
      try simp only [Act.put, List.setIfInBounds_toArray, List.set_cons_zero, List.set_cons_succ]
      refine wpHT_takeD (i := 6) (d := 89) (v := ?_) (by kernel_rfl) rfl rfl (by decide) (by kernel_rfl) (by kernel_rfl) (fun _ _ _ h => h) (Or.inl ⟨by kernel_rfl, ?_⟩) (by assumption) ?_
      rotate_left
      · intro w hSw; (try dsimp only at hSw); go_simp; (try with_reducible rfl)
      try simp only [Act.put, List.setIfInBounds_toArray, List.set_cons_zero, List.set_cons_succ]
      refine wpHT_takeD (i := 7) (d := 90) (v := undef) (by kernel_rfl) rfl rfl (by decide) (by kernel_rfl) (by kernel_rfl) (fun _ _ _ h => h) (Or.inr ⟨by kernel_rfl, rfl⟩) (by assumption) ?_
      try simp only [Act.put, List.setIfInBounds_toArray, List.set_cons_zero, List.set_cons_succ]
      refine wpHT_takeD (i := 8) (d := 91) (v := undef) (by kernel_rfl) rfl rfl (by decide) (by kernel_rfl) (by kernel_rfl) (fun _ _ _ h => h) (Or.inr ⟨by kernel_rfl, rfl⟩) (by assumption) ?_
      try simp only [Act.put, List.setIfInBounds_toArray, List.set_cons_zero, List.set_cons_succ]
      refine wpHT_takeD (i := 9) (d := 92) (v := ?_) (by kernel_rfl) rfl rfl (by decide) (by kernel_rfl) (by kernel_rfl) (fun _ _ _ h => h) (Or.inl ⟨by kernel_rfl, ?_⟩) (by assumption) ?_
      rotate_left
      · intro w hSw; (try dsimp only at hSw); go_simp; (try with_reducible rfl)
      try simp only [Act.put, List.setIfInBounds_toArray, List.set_cons_zero, List.set_cons_succ]
      refine wpHT_takeD (i := 10) (d := 93) (v := ?_) (by kernel_rfl) rfl rfl (by decide) (by kernel_rfl) (by kernel_rfl) (fun _ _ _ h => h) (Or.inl ⟨by kernel_rfl, ?_⟩) (by assumption) ?_
      rotate_left
      · intro w hSw; (try dsimp only at hSw); go_simp; (try with_reducible rfl)
      try simp only [Act.put, List.setIfInBounds_toArray, List.set_cons_zero, List.set_cons_succ]
      refine wpHT_takeD (i := 11) (d := 94) (v := undef) (by kernel_rfl) rfl rfl (by decide) (by kernel_rfl) (by kernel_rfl) (fun _ _ _ h => h) (Or.inr ⟨by kernel_rfl, rfl⟩) (by assumption) ?_
      try simp only [Act.put, List.setIfInBounds_toArray, List.set_cons_zero, List.set_cons_succ]
      refine wpHT_takeD (i := 12) (d := 95) (v := undef) (by kernel_rfl) rfl rfl (by decide) (by kernel_rfl) (by kernel_rfl) (fun _ _ _ h => h) (Or.inr ⟨by kernel_rfl, rfl⟩) (by assumption) ?_
      try simp only [Act.put, List.setIfInBounds_toArray, List.set_cons_zero, List.set_cons_succ]
      refine wpHT_takeD (i := 13) (d := 96) (v := undef) (by kernel_rfl) rfl rfl (by decide) (by kernel_rfl) (by kernel_rfl) (fun _ _ _ h => h) (Or.inr ⟨by kernel_rfl, rfl⟩) (by assumption) ?_
      try simp only [Act.put, List.setIfInBounds_toArray, List.set_cons_zero, List.set_cons_succ]
      refine wpHT_takeD (i := 14) (d := 97) (v := undef) (by kernel_rfl) rfl rfl (by decide) (by kernel_rfl) (by kernel_rfl) (fun _ _ _ h => h) (Or.inr ⟨by kernel_rfl, rfl⟩) (by assumption) ?_
      try simp only [Act.put, List.setIfInBounds_toArray, List.set_cons_zero, List.set_cons_succ]
      refine wpHT_takeD (i := 15) (d := 98) (v := undef) (by kernel_rfl) rfl rfl (by decide) (by kernel_rfl) (by kernel_rfl) (fun _ _ _ h => h) (Or.inr ⟨by kernel_rfl, rfl⟩) (by assumption) ?_
      try simp only [Act.put, List.setIfInBounds_toArray, List.set_cons_zero, List.set_cons_succ]
      refine wpHT_takeD (i := 16) (d := 99) (v := undef) (by kernel_rfl) rfl rfl (by decide) (by kernel_rfl) (by kernel_rfl) (fun _ _ _ h => h) (Or.inr ⟨by kernel_rfl, rfl⟩) (by assumption) ?_
      try simp only [Act.put, List.setIfInBounds_toArray, List.set_cons_zero, List.set_cons_succ]
      refine wpHT_takeD (i := 17) (d := 100) (v := undef) (by kernel_rfl) rfl rfl (by decide) (by kernel_rfl) (by kernel_rfl) (fun _ _ _ h => h) (Or.inr ⟨by kernel_rfl, rfl⟩) (by assumption) ?_
      try simp only [Act.put, List.setIfInBounds_toArray, List.set_cons_zero, List.set_cons_succ]
      refine wpHT_takeD (i := 18) (d := 101) (v := undef) (by kernel_rfl) rfl rfl (by decide) (by kernel_rfl) (by kernel_rfl) (fun _ _ _ h => h) (Or.inr ⟨by kernel_rfl, rfl⟩) (by assumption) ?_
      try simp only [Act.put, List.setIfInBounds_toArray, List.set_cons_zero, List.set_cons_succ]
      refine wpHT_takeD (i := 19) (d := 102) (v := ?_) (by kernel_rfl) rfl rfl (by decide) (by kernel_rfl) (by kernel_rfl) (fun _ _ _ h => h) (Or.inl ⟨by kernel_rfl, ?_⟩) (by assumption) ?_
      rotate_left
      · intro w hSw; (try dsimp only at hSw); go_simp; (try with_reducible rfl)
      try simp only [Act.put, List.setIfInBounds_toArray, List.set_cons_zero, List.set_cons_succ]
      refine wpHT_done (by kernel_rfl) ?_
      simp only [List.drop_succ_cons, List.drop_zero]
      clear hHeld g0 g1 g2 g3
      have y0 := g0'
      have y1 := g1'
      have y2 := g2'
      have y3 := g3'
      clear g0' g1' g2' g3'
      go_wp2_with fail
      go_at_call 11
      refine (may_any sv.m at_ ct X1 ((HTS.out.below HB6.out).below HX1.out)).mono ?_
      rintro e X2 ⟨rfl, hx2⟩
      rw [HMY.out]
      have HX2 : Hid (Below X0.heap.size X0 X2) := HX1.out.trans (hx2.mono HX1.out.size)
      clear hx2 y0 y1 y2 y3
      go_wp2_with fail
      go_roundw
      case rel => exact ⟨k + 1, S4, s4, was, _, true, by omega, by omega, by go_num, rfl, (HL6.out.new HX2.out).mono (by omega), HW6.out.new HX2.out, HWI.out⟩
      case measure => simp [intOf]; omega
    · obtain rfl : was = M2 := hMw.symm
      have HMY := Lib.hid hmay
      have HWI := Lib.hid hwi
      clear hmay hwi HSTEP
      have hq := same_any was was a5 av c5 cv w6 HRM.out HAV.out
      rw [sameB_refl] at hq
      have HQ := Lib.hid hq
      clear hq
      go_wp2_with fail
      go_at_call 16
      refine (HQ.out).mono ?_
      rintro e X0 ⟨rfl, hx0⟩
      have g0 := cell_below g0 hx0
      have m0 := cell_below m0 hx0
      have g1 := cell_below g1 hx0
      have m1 := cell_below m1 hx0
      have g2 := cell_below g2 hx0
      have m2 := cell_below m2 hx0
      have g3 := cell_below g3 hx0
      have m3 := cell_below m3 hx0
      have HB6 := Lib.hid (next_below HB6.out hx0)
      have HRM := Lib.hid (HRM.out.below hx0)
      have HL6 := Lib.hid (HL6.out.new hx0)
      have HW6 := Lib.hid (HW6.out.new hx0)
      clear q0 q1 q2 q3 hx0 hw6
      have HX0 : Hid (Below X0.heap.size X0 X0.drew) := (Below.refl X0.heap.size X0).drew
      have G0' := Lib.hid g0
      have G1' := Lib.hid g1
      have G2' := Lib.hid g2
      have G3' := Lib.hid g3
      have M0' := Lib.hid m0
      have M1' := Lib.hid m1
      have M2' := Lib.hid m2
      have M3' := Lib.hid m3
      go_wp2_with fail
      refine wp_region_ht 20 (fun W => W.cell? ⟨b, off + k * 6, none⟩ = some (.int .i64 sv.m.wall) ∧ W.cell? ⟨b, off + k * 6 + 1, none⟩ = some (.int .i64 sv.m.logi) ∧ W.cell? ⟨b, off + k * 6 + 2, none⟩ = some (.int .i64 sv.m.node) ∧ W.cell? ⟨b, off + k * 6 + 3, none⟩ = some (.slice at_ sv.m.ts.length ct) ∧ W.cell? ⟨mb, 0, none⟩ = some (.int .i64 was.wall) ∧ W.cell? ⟨mb, 1, none⟩ = some (.int .i64 was.logi) ∧ W.cell? ⟨mb, 2, none⟩ = some (.int .i64 was.node) ∧ W.cell? ⟨mb, 3, none⟩ = some (.slice a5 was.ts.length c5)) (by kernel_rfl) (by kernel_rfl) ?_ (fun hHeld => ?_)
      · exact ⟨g0, g1, g2, g3, m0, m1, m2, m3⟩
      try simp only [Act.put, List.setIfInBounds_toArray, List.set_cons_zero, List.set_cons_succ]
      refine wpHT_takeD (i := 0) (d := 83) (v := ?_) (by kernel_rfl) rfl rfl (by decide) (by kernel_rfl) (by kernel_rfl) (fun _ _ _ h => h) (Or.inl ⟨by kernel_rfl, ?_⟩) (by assumption) ?_
      rotate_left
      · intro w hSw; (try dsimp only at hSw); go_simp; (try with_reducible rfl)
      try simp only [Act.put, List.setIfInBounds_toArray, List.set_cons_zero, List.set_cons_succ]
      refine wpHT_takeD (i := 1) (d := 84) (v := ?_) (by kernel_rfl) rfl rfl (by decide) (by kernel_rfl) (by kernel_rfl) (fun _ _ _ h => h) (Or.inl ⟨by kernel_rfl, ?_⟩) (by assumption) ?_
      rotate_left
      · intro w hSw; (try dsimp only at hSw); go_simp; (try with_reducible rfl)
      try simp only [Act.put, List.setIfInBounds_toArray, List.set_cons_zero, List.set_cons_succ]
      refine wpHT_takeD (i := 2) (d := 85) (v := ?_) (by kernel_rfl) rfl rfl (by decide) (by kernel_rfl) (by kernel_rfl) (fun _ _ _ h => h) (Or.inl ⟨by kernel_rfl, ?_⟩) (by assumption) ?_
      rotate_left
      · intro w hSw; (try dsimp only at hSw); go_simp; (try with_reducible rfl)
      try simp only [Act.put, List.setIfInBounds_toArray, List.set_cons_zero, List.set_cons_succ]
      refine wpHT_takeD (i := 3) (d := 86) (v := ?_) (by kernel_rfl) rfl rfl (by decide) (by kernel_rfl) (by kernel_rfl) (fun _ _ _ h => h) (Or.inl ⟨by kernel_rfl, ?_⟩) (by assumption) ?_
      rotate_left
      · intro w hSw; (try dsimp only at hSw); go_simp; (try with_reducible rfl)
      try simp only [Act.put, List.setIfInBounds_toArray, List.set_cons_zero, List.set_cons_succ]
      refine wpHT_takeD (i := 4) (d := 87) (v := ?_) (by kernel_rfl) rfl rfl (by decide) (by kernel_rfl) (by kernel_rfl) (fun _ _ _ h => h) (Or.inl ⟨by kernel_rfl, ?_⟩) (by assumption) ?_
      rotate_left
      · intro w hSw; (try dsimp only at hSw); go_simp; (try with_reducible rfl)
      try simp only [Act.put, List.setIfInBounds_toArray, List.set_cons_zero, List.set_cons_succ]
      refine wpHT_one (i := 5) (by kernel_rfl) rfl (by decide) (fun K hK => ?_)
      go_simp
      go_at_call 11
      refine (may_any sv.m at_ ct _ ((HTS.out.below HB6.out).below HX0.out)).mono ?_
      rintro e X1 ⟨rfl, hx1⟩
      have hx1 : Below X0.heap.size X0 X1 := HX0.out.trans (hx1.mono HX0.out.size)
      rw [HMY.out]
      have g0' := cell_below G0'.out hx1
      have g1' := cell_below G1'.out hx1
      have g2' := cell_below G2'.out hx1
      have g3' := cell_below G3'.out hx1
      have m0' := cell_below M0'.out hx1
      have m1' := cell_below M1'.out hx1
      have m2' := cell_below M2'.out hx1
      have m3' := cell_below M3'.out hx1
      have HX1 := Lib.hid hx1
      clear hx1
      refine hK.out _ _ ?_ (fun hHeld => ?_)
      · exact ⟨g0', g1', g2', g3', m0', m1', m2', m3'⟩
      clear hK K
      try simp only [Act.put, List.setIfInBounds_toArray, List.set_cons_zero, List.set_cons_succ]
      refine wpHT_takeD (i := 6) (d := 89) (v := ?_) (by kernel_rfl) rfl rfl (by decide) (by kernel_rfl) (by kernel_rfl) (fun _ _ _ h => h) (Or.inl ⟨by kernel_rfl, ?_⟩) (by assumption) ?_
      rotate_left
      · intro w hSw; (try dsimp only at hSw); go_simp; (try with_reducible rfl)
      try simp only [Act.put, List.setIfInBounds_toArray, List.set_cons_zero, List.set_cons_succ]
      refine wpHT_takeD (i := 7) (d := 90) (v := ?_) (by kernel_rfl) rfl rfl (by decide) (by kernel_rfl) (by kernel_rfl) (fun _ _ _ h => h) (Or.inl ⟨by kernel_rfl, ?_⟩) (by assumption) ?_
      rotate_left
      · intro w hSw; (try dsimp only at hSw); go_simp; (try with_reducible rfl)
      try simp only [Act.put, List.setIfInBounds_toArray, List.set_cons_zero, List.set_cons_succ]
      refine wpHT_takeD (i := 8) (d := 91) (v := ?_) (by kernel_rfl) rfl rfl (by decide) (by kernel_rfl) (by kernel_rfl) (fun _ _ _ h => h) (Or.inl ⟨by kernel_rfl, ?_⟩) (by assumption) ?_
      rotate_left
      · intro w hSw; (try dsimp only at hSw); go_simp; (try with_reducible rfl)
      try simp only [Act.put, List.setIfInBounds_toArray, List.set_cons_zero, List.set_cons_succ]
      refine wpHT_takeD (i := 9) (d := 92) (v := ?_) (by kernel_rfl) rfl rfl (by decide) (by kernel_rfl) (by kernel_rfl) (fun _ _ _ h => h) (Or.inl ⟨by kernel_rfl, ?_⟩) (by assumption) ?_
      rotate_left
      · intro w hSw; (try dsimp only at hSw); go_simp; (try with_reducible rfl)
      try simp only [Act.put, List.setIfInBounds_toArray, List.set_cons_zero, List.set_cons_succ]
      refine wpHT_takeD (i := 10) (d := 93) (v := ?_) (by kernel_rfl) rfl rfl (by decide) (by kernel_rfl) (by kernel_rfl) (fun _ _ _ h => h) (Or.inl ⟨by kernel_rfl, ?_⟩) (by assumption) ?_
      rotate_left
      · intro w hSw; (try dsimp only at hSw); go_simp; (try with_reducible rfl)
      try simp only [Act.put, List.setIfInBounds_toArray, List.set_cons_zero, List.set_cons_succ]
      refine wpHT_takeD (i := 11) (d := 94) (v := ?_) (by kernel_rfl) rfl rfl (by decide) (by kernel_rfl) (by kernel_rfl) (fun _ _ _ h => h) (Or.inl ⟨by kernel_rfl, ?_⟩) (by assumption) ?_
      rotate_left
      · intro w hSw; (try dsimp only at hSw); go_simp; (try with_reducible rfl)
      try simp only [Act.put, List.setIfInBounds_toArray, List.set_cons_zero, List.set_cons_succ]
      refine wpHT_takeD (i := 12) (d := 95) (v := ?_) (by kernel_rfl) rfl rfl (by decide) (by kernel_rfl) (by kernel_rfl) (fun _ _ _ h => h) (Or.inl ⟨by kernel_rfl, ?_⟩) (by assumption) ?_
      rotate_left
      · intro w hSw; (try dsimp only at hSw); go_simp; (try with_reducible rfl)
      try simp only [Act.put, List.setIfInBounds_toArray, List.set_cons_zero, List.set_cons_succ]
      refine wpHT_takeD (i := 13) (d := 96) (v := ?_) (by kernel_rfl) rfl rfl (by decide) (by kernel_rfl) (by kernel_rfl) (fun _ _ _ h => h) (Or.inl ⟨by kernel_rfl, ?_⟩) (by assumption) ?_
      rotate_left
      · intro w hSw; (try dsimp only at hSw); go_simp; (try with_reducible rfl)
      try simp only [Act.put, List.setIfInBounds_toArray, List.set_cons_zero, List.set_cons_succ]
      refine wpHT_takeD (i := 14) (d := 97) (v := ?_) (by kernel_rfl) rfl rfl (by decide) (by kernel_rfl) (by kernel_rfl) (fun _ _ _ h => h) (Or.inl ⟨by kernel_rfl, ?_⟩) (by assumption) ?_
      rotate_left
      · intro w hSw; (try dsimp only at hSw); go_simp; (try with_reducible rfl)
      try simp only [Act.put, List.setIfInBounds_toArray, List.set_cons_zero, List.set_cons_succ]
      refine wpHT_takeD (i := 15) (d := 98) (v := ?_) (by kernel_rfl) rfl rfl (by decide) (by kernel_rfl) (by kernel_rfl) (fun _ _ _ h => h) (Or.inl ⟨by kernel_rfl, ?_⟩) (by assumption) ?_
      rotate_left
      · intro w hSw; (try dsimp only at hSw); go_simp; (try with_reducible rfl)
      try simp only [Act.put, List.setIfInBounds_toArray, List.set_cons_zero, List.set_cons_succ]
      refine wpHT_takeD (i := 16) (d := 99) (v := ?_) (by kernel_rfl) rfl rfl (by decide) (by kernel_rfl) (by kernel_rfl) (fun _ _ _ h => h) (Or.inl ⟨by kernel_rfl, ?_⟩) (by assumption) ?_
      rotate_left
      · intro w hSw; (try dsimp only at hSw); go_simp; (try with_reducible rfl)
      try simp only [Act.put, List.setIfInBounds_toArray, List.set_cons_zero, List.set_cons_succ]
      refine wpHT_one (i := 17) (by kernel_rfl) rfl (by decide) (fun K hK => ?_)
      go_simp
      go_at_call 17
      refine (mkRef_any sv.m at_ ct _ ((HTS.out.below HB6.out).below HX1.out) H200.out).mono ?_
      rintro e X2 ⟨u2, rfl, ho2, hx2⟩
      obtain ⟨a2, c2, rfl, hr2⟩ := ho2.rd
      have hx2 : Below X0.heap.size X0 X2 := HX1.out.trans (hx2.mono HX1.out.size)
      have HR2 := Lib.hid hr2
      have g0'' := cell_below G0'.out hx2
      have g1'' := cell_below G1'.out hx2
      have g2'' := cell_below G2'.out hx2
      have g3'' := cell_below G3'.out hx2
      have m0'' := cell_below M0'.out hx2
      have m1'' := cell_below M1'.out hx2
      have m2'' := cell_below M2'.out hx2
      have m3'' := cell_below M3'.out hx2
      have HX2 := Lib.hid hx2
      clear ho2 hx2 hr2
      refine hK.out _ _ ?_ (fun hHeld => ?_)
      · exact ⟨g0'', g1'', g2'', g3'', m0'', m1'', m2'', m3''⟩
      clear hK K
      try simp only [Act.put, List.setIfInBounds_toArray, List.set_cons_zero, List.set_cons_succ]
      refine wpHT_one (i := 18) (by kernel_rfl) rfl (by decide) (fun K hK => ?_)
      go_simp
      go_at_call 16
      refine (same_any was sv.m a5 a2 c5 c2 _ (HRM.out.below HX2.out) HR2.out).mono ?_
      rintro e X3 ⟨rfl, hx3⟩
      have hx3 : Below X0.heap.size X0 X3 := HX2.out.trans (hx3.mono HX2.out.size)
      have h0'' := cell_below G0'.out hx3
      have h1'' := cell_below G1'.out hx3
      have h2'' := cell_below G2'.out hx3
      have h3'' := cell_below G3'.out hx3
      have n0'' := cell_below M0'.out hx3
      have n1'' := cell_below M1'.out hx3
      have n2'' := cell_below M2'.out hx3
      have n3'' := cell_below M3'.out hx3
      have HX3 := Lib.hid hx3
      clear hx3
      refine hK.out _ _ ?_ (fun hHeld => ?_)
      · exact ⟨h0'', h1'', h2'', h3'', n0'', n1'', n2'', n3''⟩
      clear hK K
      try simp only [Act.put, List.setIfInBounds_toArray, List.set_cons_zero, List.set_cons_succ]
      refine wpHT_takeD (i := 19) (d := 102) (v := ?_) (by kernel_rfl) rfl rfl (by decide) (by kernel_rfl) (by kernel_rfl) (fun _ _ _ h => h) (Or.inl ⟨by kernel_rfl, ?_⟩) (by assumption) ?_
      rotate_left
      · intro w hSw; (try dsimp only at hSw); go_simp; (try with_reducible rfl)
      try simp only [Act.put, List.setIfInBounds_toArray, List.set_cons_zero, List.set_cons_succ]
      refine wpHT_done (by kernel_rfl) ?_
      simp only [List.drop_succ_cons, List.drop_zero]
      clear hHeld g0 g1 g2 g3 m0 m1 m2 m3 g0' g1' g2' g3' m0' m1' m2' m3' g0'' g1'' g2'' g3'' m0'' m1'' m2'' m3'' h0'' h1'' h2'' h3'' n0'' n1'' n2'' n3''
      cases hsb : sameB was sv.m with
      | false =>
        clear hsb
        go_wp2_with fail
        go_roundw
        case rel => exact ⟨k + 1, S4, s4, was, _, true, by omega, by omega, by go_num, rfl, (HL6.out.new HX3.out).mono (by omega), HW6.out.new HX3.out, HWI.out⟩
        case measure => simp [intOf]; omega
      | true =>
        have hwm := sameB_iff.1 hsb
        have HWI : Hid (WhI s4 sv.m true) := by show WhI _ _ _; rw [← hwm]; exact HWI.out
        clear hsb hwm
        have y0 := cell_below G0'.out (HX3.out)
        have y1 := cell_below G1'.out (HX3.out)
        have y2 := cell_below G2'.out (HX3.out)
        have y3 := cell_below G3'.out (HX3.out)
        go_wp2_with fail
        go_at_call 17
        refine (mkRef_any sv.m at_ ct _ ((HTS.out.below HB6.out).below HX3.out) H200.out).mono ?_
        rintro e Z ⟨u7, rfl, ho7, hz⟩
        obtain ⟨a7, c7, rfl, hr7⟩ := ho7.rd
        have hzz : Below X0.heap.size X0 Z := (HX3.out).trans (hz.mono (HX3.out).size)
        have HZZ := Lib.hid hzz
        have HO7 := Lib.hid ho7
        have HZ0 : Hid (X0.heap.size ≤ X3.heap.size) := (HX3.out).size
        have hq7 := (HW6.out.new hzz).row
        have r0 := cell_of_row _ _ 0 _ _ _ hq7
        have r1 := cell_of_row _ _ 1 _ _ _ hq7
        have r2 := cell_of_row _ _ 2 _ _ _ hq7
        have r3 := cell_of_row _ _ 3 _ _ _ hq7
        have f0 := frozen_of_row _ _ 0 _ _ hq7
        have f1 := frozen_of_row _ _ 1 _ _ hq7
        have f2 := frozen_of_row _ _ 2 _ _ hq7
        have f3 := frozen_of_row _ _ 3 _ _ hq7
        have fl := (Array.getElem?_eq_some_iff.1 hq7).1
        clear ho7 hr7 hz hzz hq7
        go_wp2_with fail
        go_roundw
        case rel =>
          have hnv : ∀ j, (Value.slice a7 sv.m.ts.length c7).ownBlock = some j → ¬ S4 j ∧ j ≠ q := fun j hj => by
            have h1 := (World.ownsRow.lt HO7.out j hj).1
            have h2 := HZ0.out
            have h3 := HW6.out.lt
            exact ⟨fun e => by have := HL6.out.1.lt j e; omega, by omega⟩
          exact ⟨k + 1, S4, s4, sv.m, _, true, by omega, by omega, by go_num, rfl, ((HL6.out.new HZZ.out).put HW6.out.nq HW6.out.qb _ _ _ _).mono (by omega), (HW6.out.new HZZ.out).put HO7.out (by have h1 := HL6.out.2.2.size; have h2 := HZ0.out; omega) hnv, HWI.out⟩
        case measure => simp [intOf]; omega
    · cases sm with
      | false =>
        have HMY := Lib.hid hmay
        have HWI := Lib.hid hwi
        clear hmay hwi HSTEP
        clear q0 q1 q2 q3
        have HX0 : Hid (Below w6.heap.size w6 w6.drew) := (Below.refl w6.heap.size w6).drew
        have G0' := Lib.hid g0
        have G1' := Lib.hid g1
        have G2' := Lib.hid g2
        have G3' := Lib.hid g3
        have M0' := Lib.hid m0
        have M1' := Lib.hid m1
        have M2' := Lib.hid m2
        have M3' := Lib.hid m3
        go_wp2_with fail
        refine wp_region_ht 20 (fun W => W.cell? ⟨b, off + k * 6, none⟩ = some (.int .i64 sv.m.wall) ∧ W.cell? ⟨b, off + k * 6 + 1, none⟩ = some (.int .i64 sv.m.logi) ∧ W.cell? ⟨b, off + k * 6 + 2, none⟩ = some (.int .i64 sv.m.node) ∧ W.cell? ⟨b, off + k * 6 + 3, none⟩ = some (.slice at_ sv.m.ts.length ct) ∧ W.cell? ⟨mb, 0, none⟩ = some (.int .i64 sv.m.wall) ∧ W.cell? ⟨mb, 1, none⟩ = some (.int .i64 sv.m.logi) ∧ W.cell? ⟨mb, 2, none⟩ = some (.int .i64 sv.m.node) ∧ W.cell? ⟨mb, 3, none⟩ = some (.slice a5 sv.m.ts.length c5)) (by kernel_rfl) (by kernel_rfl) ?_ (fun hHeld => ?_)
        · exact ⟨g0, g1, g2, g3, m0, m1, m2, m3⟩
        try simp only [Act.put, List.setIfInBounds_toArray, List.set_cons_zero, List.set_cons_succ]
        refine wpHT_takeD (i := 0) (d := 83) (v := ?_) (by kernel_rfl) rfl rfl (by decide) (by kernel_rfl) (by kernel_rfl) (fun _ _ _ h => h) (Or.inl ⟨by kernel_rfl, ?_⟩) (by assumption) ?_
        rotate_left
        · intro w hSw; (try dsimp only at hSw); go_simp; (try with_reducible rfl)
        try simp only [Act.put, List.setIfInBounds_toArray, List.set_cons_zero, List.set_cons_succ]
        refine wpHT_takeD (i := 1) (d := 84) (v := ?_) (by kernel_rfl) rfl rfl (by decide) (by kernel_rfl) (by kernel_rfl) (fun _ _ _ h => h) (Or.inl ⟨by kernel_rfl, ?_⟩) (by assumption) ?_
        rotate_left
        · intro w hSw; (try dsimp only at hSw); go_simp; (try with_reducible rfl)
        try simp only [Act.put, List.setIfInBounds_toArray, List.set_cons_zero, List.set_cons_succ]
        refine wpHT_takeD (i := 2) (d := 85) (v := ?_) (by kernel_rfl) rfl rfl (by decide) (by kernel_rfl) (by kernel_rfl) (fun _ _ _ h => h) (Or.inl ⟨by kernel_rfl, ?_⟩) (by assumption) ?_
        rotate_left
        · intro w hSw; (try dsimp only at hSw); go_simp; (try with_reducible rfl)
        try simp only [Act.put, List.setIfInBounds_toArray, List.set_cons_zero, List.set_cons_succ]
        refine wpHT_takeD (i := 3) (d := 86) (v := ?_) (by kernel_rfl) rfl rfl (by decide) (by kernel_rfl) (by kernel_rfl) (fun _ _ _ h => h) (Or.inl ⟨by kernel_rfl, ?_⟩) (by assumption) ?_
        rotate_left
        · intro w hSw; (try dsimp only at hSw); go_simp; (try with_reducible rfl)
        try simp only [Act.put, List.setIfInBounds_toArray, List.set_cons_zero, List.set_cons_succ]
        refine wpHT_takeD (i := 4) (d := 87) (v := ?_) (by kernel_rfl) rfl rfl (by decide) (by kernel_rfl) (by kernel_rfl) (fun _ _ _ h => h) (Or.inl ⟨by kernel_rfl, ?_⟩) (by assumption) ?_
        rotate_left
        · intro w hSw; (try dsimp only at hSw); go_simp; (try with_reducible rfl)
        try simp only [Act.put, List.setIfInBounds_toArray, List.set_cons_zero, List.set_cons_succ]
        refine wpHT_one (i := 5) (by kernel_rfl) rfl (by decide) (fun K hK => ?_)
        go_simp
        go_at_call 11
        refine (may_any sv.m at_ ct _ ((HTS.out.below HB6.out).below HX0.out)).mono ?_
        rintro e X1 ⟨rfl, hx1⟩
        have hx1 : Below w6.heap.size w6 X1 := HX0.out.trans (hx1.mono HX0.out.size)
        rw [HMY.out]
        have g0' := cell_below G0'.out hx1
        have g1' := cell_below G1'.out hx1
        have g2' := cell_below G2'.out hx1
        have g3' := cell_below G3'.out hx1
        have m0' := cell_below M0'.out hx1
        have m1' := cell_below M1'.out hx1
        have m2' := cell_below M2'.out hx1
        have m3' := cell_below M3'.out hx1
        have HX1 := Lib.hid hx1
        clear hx1
        refine hK.out _ _ ?_ (fun hHeld => ?_)
        · exact ⟨g0', g1', g2', g3', m0', m1', m2', m3'⟩
        clear hK K
        try simp only [Act.put, List.setIfInBounds_toArray, List.set_cons_zero, List.set_cons_succ]
        refine wpHT_takeD (i := 6) (d := 89) (v := ?_) (by kernel_rfl) rfl rfl (by decide) (by kernel_rfl) (by kernel_rfl) (fun _ _ _ h => h) (Or.inl ⟨by kernel_rfl, ?_⟩) (by assumption) ?_
        rotate_left
        · intro w hSw; (try dsimp only at hSw); go_simp; (try with_reducible rfl)
        try simp only [Act.put, List.setIfInBounds_toArray, List.set_cons_zero, List.set_cons_succ]
        refine wpHT_takeD (i := 7) (d := 90) (v := ?_) (by kernel_rfl) rfl rfl (by decide) (by kernel_rfl) (by kernel_rfl) (fun _ _ _ h => h) (Or.inl ⟨by kernel_rfl, ?_⟩) (by assumption) ?_
        rotate_left
        · intro w hSw; (try dsimp only at hSw); go_simp; (try with_reducible rfl)
        try simp only [Act.put, List.setIfInBounds_toArray, List.set_cons_zero, List.set_cons_succ]
        refine wpHT_takeD (i := 8) (d := 91) (v := ?_) (by kernel_rfl) rfl rfl (by decide) (by kernel_rfl) (by kernel_rfl) (fun _ _ _ h => h) (Or.inl ⟨by kernel_rfl, ?_⟩) (by assumption) ?_
        rotate_left
        · intro w hSw; (try dsimp only at hSw); go_simp; (try with_reducible rfl)
        try simp only [Act.put, List.setIfInBounds_toArray, List.set_cons_zero, List.set_cons_succ]
        refine wpHT_takeD (i := 9) (d := 92) (v := ?_) (by kernel_rfl) rfl rfl (by decide) (by kernel_rfl) (by kernel_rfl) (fun _ _ _ h => h) (Or.inl ⟨by kernel_rfl, ?_⟩) (by assumption) ?_
        rotate_left
        · intro w hSw; (try dsimp only at hSw); go_simp; (try with_reducible rfl)
        try simp only [Act.put, List.setIfInBounds_toArray, List.set_cons_zero, List.set_cons_succ]
        refine wpHT_takeD (i := 10) (d := 93) (v := ?_) (by kernel_rfl) rfl rfl (by decide) (by kernel_rfl) (by kernel_rfl) (fun _ _ _ h => h) (Or.inl ⟨by kernel_rfl, ?_⟩) (by assumption) ?_
        rotate_left
        · intro w hSw; (try dsimp only at hSw); go_simp; (try with_reducible rfl)
        try simp only [Act.put, List.setIfInBounds_toArray, List.set_cons_zero, List.set_cons_succ]
        refine wpHT_takeD (i := 11) (d := 94) (v := ?_) (by kernel_rfl) rfl rfl (by decide) (by kernel_rfl) (by kernel_rfl) (fun _ _ _ h => h) (Or.inl ⟨by kernel_rfl, ?_⟩) (by assumption) ?_
        rotate_left
        · intro w hSw; (try dsimp only at hSw); go_simp; (try with_reducible rfl)
        try simp only [Act.put, List.setIfInBounds_toArray, List.set_cons_zero, List.set_cons_succ]
        refine wpHT_takeD (i := 12) (d := 95) (v := ?_) (by kernel_rfl) rfl rfl (by decide) (by kernel_rfl) (by kernel_rfl) (fun _ _ _ h => h) (Or.inl ⟨by kernel_rfl, ?_⟩) (by assumption) ?_
        rotate_left
        · intro w hSw; (try dsimp only at hSw); go_simp; (try with_reducible rfl)
        try simp only [Act.put, List.setIfInBounds_toArray, List.set_cons_zero, List.set_cons_succ]
        refine wpHT_takeD (i := 13) (d := 96) (v := ?_) (by kernel_rfl) rfl rfl (by decide) (by kernel_rfl) (by kernel_rfl) (fun _ _ _ h => h) (Or.inl ⟨by kernel_rfl, ?_⟩) (by assumption) ?_
        rotate_left
        · intro w hSw; (try dsimp only at hSw); go_simp; (try with_reducible rfl)
        try simp only [Act.put, List.setIfInBounds_toArray, List.set_cons_zero, List.set_cons_succ]
        refine wpHT_takeD (i := 14) (d := 97) (v := ?_) (by kernel_rfl) rfl rfl (by decide) (by kernel_rfl) (by kernel_rfl) (fun _ _ _ h => h) (Or.inl ⟨by kernel_rfl, ?_⟩) (by assumption) ?_
        rotate_left
        · intro w hSw; (try dsimp only at hSw); go_simp; (try with_reducible rfl)
        try simp only [Act.put, List.setIfInBounds_toArray, List.set_cons_zero, List.set_cons_succ]
        refine wpHT_takeD (i := 15) (d := 98) (v := ?_) (by kernel_rfl) rfl rfl (by decide) (by kernel_rfl) (by kernel_rfl) (fun _ _ _ h => h) (Or.inl ⟨by kernel_rfl, ?_⟩) (by assumption) ?_
        rotate_left
        · intro w hSw; (try dsimp only at hSw); go_simp; (try with_reducible rfl)
        try simp only [Act.put, List.setIfInBounds_toArray, List.set_cons_zero, List.set_cons_succ]
        refine wpHT_takeD (i := 16) (d := 99) (v := ?_) (by kernel_rfl) rfl rfl (by decide) (by kernel_rfl) (by kernel_rfl) (fun _ _ _ h => h) (Or.inl ⟨by kernel_rfl, ?_⟩) (by assumption) ?_
        rotate_left
        · intro w hSw; (try dsimp only at hSw); go_simp; (try with_reducible rfl)
        try simp only [Act.put, List.setIfInBounds_toArray, List.set_cons_zero, List.set_cons_succ]
        refine wpHT_one (i := 17) (by kernel_rfl) rfl (by decide) (fun K hK => ?_)
        go_simp
        go_at_call 17
        refine (mkRef_any sv.m at_ ct _ ((HTS.out.below HB6.out).below HX1.out) H200.out).mono ?_
        rintro e X2 ⟨u2, rfl, ho2, hx2⟩
        obtain ⟨a2, c2, rfl, hr2⟩ := ho2.rd
        have hx2 : Below w6.heap.size w6 X2 := HX1.out.trans (hx2.mono HX1.out.size)
        have HR2 := Lib.hid hr2
        have g0'' := cell_below G0'.out hx2
        have g1'' := cell_below G1'.out hx2
        have g2'' := cell_below G2'.out hx2
        have g3'' := cell_below G3'.out hx2
        have m0'' := cell_below M0'.out hx2
        have m1'' := cell_below M1'.out hx2
        have m2'' := cell_below M2'.out hx2
        have m3'' := cell_below M3'.out hx2
        have HX2 := Lib.hid hx2
        clear ho2 hx2 hr2
        refine hK.out _ _ ?_ (fun hHeld => ?_)
        · exact ⟨g0'', g1'', g2'', g3'', m0'', m1'', m2'', m3''⟩
        clear hK K
        try simp only [Act.put, List.setIfInBounds_toArray, List.set_cons_zero, List.set_cons_succ]
        refine wpHT_one (i := 18) (by kernel_rfl) rfl (by decide) (fun K hK => ?_)
        go_simp
        go_at_call 16
        refine (same_any sv.m sv.m a5 a2 c5 c2 _ (HRM.out.below HX2.out) HR2.out).mono ?_
        rintro e X3 ⟨rfl, hx3⟩
        rw [sameB_refl]
        have hx3 : Below w6.heap.size w6 X3 := HX2.out.trans (hx3.mono HX2.out.size)
        have h0'' := cell_below G0'.out hx3
        have h1'' := cell_below G1'.out hx3
        have h2'' := cell_below G2'.out hx3
        have h3'' := cell_below G3'.out hx3
        have n0'' := cell_below M0'.out hx3
        have n1'' := cell_below M1'.out hx3
        have n2'' := cell_below M2'.out hx3
        have n3'' := cell_below M3'.out hx3
        have HX3 := Lib.hid hx3
        clear hx3
        refine hK.out _ _ ?_ (fun hHeld => ?_)
        · exact ⟨h0'', h1'', h2'', h3'', n0'', n1'', n2'', n3''⟩
        clear hK K
        try simp only [Act.put, List.setIfInBounds_toArray, List.set_cons_zero, List.set_cons_succ]
        refine wpHT_takeD (i := 19) (d := 102) (v := ?_) (by kernel_rfl) rfl rfl (by decide) (by kernel_rfl) (by kernel_rfl) (fun _ _ _ h => h) (Or.inl ⟨by kernel_rfl, ?_⟩) (by assumption) ?_
        rotate_left
        · intro w hSw; (try dsimp only at hSw); go_simp; (try with_reducible rfl)
        try simp only [Act.put, List.setIfInBounds_toArray, List.set_cons_zero, List.set_cons_succ]
        refine wpHT_done (by kernel_rfl) ?_
        simp only [List.drop_succ_cons, List.drop_zero]
        clear hHeld g0 g1 g2 g3 m0 m1 m2 m3 g0' g1' g2' g3' m0' m1' m2' m3' g0'' g1'' g2'' g3'' m0'' m1'' m2'' m3'' h0'' h1'' h2'' h3'' n0'' n1'' n2'' n3''
        have y0 := cell_below G0'.out (HX3.out)
        have y1 := cell_below G1'.out (HX3.out)
        have y2 := cell_below G2'.out (HX3.out)
        have y3 := cell_below G3'.out (HX3.out)
        go_wp2_with fail
        go_at_call 17
        refine (mkRef_any sv.m at_ ct _ ((HTS.out.below HB6.out).below HX3.out) H200.out).mono ?_
        rintro e Z ⟨u7, rfl, ho7, hz⟩
        obtain ⟨a7, c7, rfl, hr7⟩ := ho7.rd
        have hzz : Below w6.heap.size w6 Z := (HX3.out).trans (hz.mono (HX3.out).size)
        have HZZ := Lib.hid hzz
        have HO7 := Lib.hid ho7
        have HZ0 : Hid (w6.heap.size ≤ X3.heap.size) := (HX3.out).size
        have hq7 := (HW6.out.new hzz).row
        have r0 := cell_of_row _ _ 0 _ _ _ hq7
        have r1 := cell_of_row _ _ 1 _ _ _ hq7
        have r2 := cell_of_row _ _ 2 _ _ _ hq7
        have r3 := cell_of_row _ _ 3 _ _ _ hq7
        have f0 := frozen_of_row _ _ 0 _ _ hq7
        have f1 := frozen_of_row _ _ 1 _ _ hq7
        have f2 := frozen_of_row _ _ 2 _ _ hq7
        have f3 := frozen_of_row _ _ 3 _ _ hq7
        have fl := (Array.getElem?_eq_some_iff.1 hq7).1
        clear ho7 hr7 hz hzz hq7
        go_wp2_with fail
        go_roundw
        case rel =>
          have hnv : ∀ j, (Value.slice a7 sv.m.ts.length c7).ownBlock = some j → ¬ S4 j ∧ j ≠ q := fun j hj => by
            have h1 := (World.ownsRow.lt HO7.out j hj).1
            have h2 := HZ0.out
            have h3 := HW6.out.lt
            exact ⟨fun e => by have := HL6.out.1.lt j e; omega, by omega⟩
          exact ⟨k + 1, S4, s4, sv.m, _, true, by omega, by omega, by go_num, rfl, ((HL6.out.new HZZ.out).put HW6.out.nq HW6.out.qb _ _ _ _).mono (by omega), (HW6.out.new HZZ.out).put HO7.out (by have h1 := HL6.out.2.2.size; have h2 := HZ0.out; omega) hnv, HWI.out⟩
        case measure => simp [intOf]; omega
      | true =>
        have HMY := Lib.hid hmay
        have HWI := Lib.hid hwi
        clear hmay hwi HSTEP
        have hq := same_any sv.m was a5 av c5 cv w6 HRM.out HAV.out
        have HQ := Lib.hid hq
        clear hq
        go_wp2_with fail
        go_at_call 16
        refine (HQ.out).mono ?_
        rintro e X0 ⟨rfl, hx0⟩
        obtain ⟨ob, hob⟩ : ∃ ob, sameB sv.m was = ob := ⟨_, rfl⟩
        rw [hob]
        clear hob
        cases ob with
        | false =>
          have g0 := cell_below g0 hx0
          have m0 := cell_below m0 hx0
          have g1 := cell_below g1 hx0
          have m1 := cell_below m1 hx0
          have g2 := cell_below g2 hx0
          have m2 := cell_below m2 hx0
          have g3 := cell_below g3 hx0
          have m3 := cell_below m3 hx0
          have HB6 := Lib.hid (next_below HB6.out hx0)
          have HRM := Lib.hid (HRM.out.below hx0)
          have HL6 := Lib.hid (HL6.out.new hx0)
          have HW6 := Lib.hid (HW6.out.new hx0)
          clear q0 q1 q2 q3 hx0 hw6
          have HX0 : Hid (Below X0.heap.size X0 X0.drew) := (Below.refl X0.heap.size X0).drew
          have G0' := Lib.hid g0
          have G1' := Lib.hid g1
          have G2' := Lib.hid g2
          have G3' := Lib.hid g3
          have M0' := Lib.hid m0
          have M1' := Lib.hid m1
          have M2' := Lib.hid m2
          have M3' := Lib.hid m3
          go_wp2_with fail
          refine wp_region_ht 20 (fun W => W.cell? ⟨b, off + k * 6, none⟩ = some (.int .i64 sv.m.wall) ∧ W.cell? ⟨b, off + k * 6 + 1, none⟩ = some (.int .i64 sv.m.logi) ∧ W.cell? ⟨b, off + k * 6 + 2, none⟩ = some (.int .i64 sv.m.node) ∧ W.cell? ⟨b, off + k * 6 + 3, none⟩ = some (.slice at_ sv.m.ts.length ct) ∧ W.cell? ⟨mb, 0, none⟩ = some (.int .i64 sv.m.wall) ∧ W.cell? ⟨mb, 1, none⟩ = some (.int .i64 sv.m.logi) ∧ W.cell? ⟨mb, 2, none⟩ = some (.int .i64 sv.m.node) ∧ W.cell? ⟨mb, 3, none⟩ = some (.slice a5 sv.m.ts.length c5)) (by kernel_rfl) (by kernel_rfl) ?_ (fun hHeld => ?_)
          · exact ⟨g0, g1, g2, g3, m0, m1, m2, m3⟩
          try simp only [Act.put, List.setIfInBounds_toArray, List.set_cons_zero, List.set_cons_succ]
          refine wpHT_takeD (i := 0) (d := 83) (v := ?_) (by kernel_rfl) rfl rfl (by decide) (by kernel_rfl) (by kernel_rfl) (fun _ _ _ h => h) (Or.inl ⟨by kernel_rfl, ?_⟩) (by assumption) ?_
          rotate_left
          · intro w hSw; (try dsimp only at hSw); go_simp; (try with_reducible rfl)
          try simp only [Act.put, List.setIfInBounds_toArray, List.set_cons_zero, List.set_cons_succ]
          refine wpHT_takeD (i := 1) (d := 84) (v := ?_) (by kernel_rfl) rfl rfl (by decide) (by kernel_rfl) (by kernel_rfl) (fun _ _ _ h => h) (Or.inl ⟨by kernel_rfl, ?_⟩) (by assumption) ?_
          rotate_left
          · intro w hSw; (try dsimp only at hSw); go_simp; (try with_reducible rfl)
          try simp only [Act.put, List.setIfInBounds_toArray, List.set_cons_zero, List.set_cons_succ]
          refine wpHT_takeD (i := 2) (d := 85) (v := ?_) (by kernel_rfl) rfl rfl (by decide) (by kernel_rfl) (by kernel_rfl) (fun _ _ _ h => h) (Or.inl ⟨by kernel_rfl, ?_⟩) (by assumption) ?_
          rotate_left
          · intro w hSw; (try dsimp only at hSw); go_simp; (try with_reducible rfl)
          try simp only [Act.put, List.setIfInBounds_toArray, List.set_cons_zero, List.set_cons_succ]
          refine wpHT_takeD (i := 3) (d := 86) (v := ?_) (by kernel_rfl) rfl rfl (by decide) (by kernel_rfl) (by kernel_rfl) (fun _ _ _ h => h) (Or.inl ⟨by kernel_rfl, ?_⟩) (by assumption) ?_
          rotate_left
          · intro w hSw; (try dsimp only at hSw); go_simp; (try with_reducible rfl)
          try simp only [Act.put, List.setIfInBounds_toArray, List.set_cons_zero, List.set_cons_succ]
          refine wpHT_takeD (i := 4) (d := 87) (v := ?_) (by kernel_rfl) rfl rfl (by decide) (by kernel_rfl) (by kernel_rfl) (fun _ _ _ h => h) (Or.inl ⟨by kernel_rfl, ?_⟩) (by assumption) ?_
          rotate_left
          · intro w hSw; (try dsimp only at hSw); go_simp; (try with_reducible rfl)
          try simp only [Act.put, List.setIfInBounds_toArray, List.set_cons_zero, List.set_cons_succ]
          refine wpHT_one (i := 5) (by kernel_rfl) rfl (by decide) (fun K hK => ?_)
          go_simp
          go_at_call 11
          refine (may_any sv.m at_ ct _ ((HTS.out.below HB6.out).below HX0.out)).mono ?_
          rintro e X1 ⟨rfl, hx1⟩
          have hx1 : Below X0.heap.size X0 X1 := HX0.out.trans (hx1.mono HX0.out.size)
          rw [HMY.out]
          have g0' := cell_below G0'.out hx1
          have g1' := cell_below G1'.out hx1
          have g2' := cell_below G2'.out hx1
          have g3' := cell_below G3'.out hx1
          have m0' := cell_below M0'.out hx1
          have m1' := cell_below M1'.out hx1
          have m2' := cell_below M2'.out hx1
          have m3' := cell_below M3'.out hx1
          have HX1 := Lib.hid hx1
          clear hx1
          refine hK.out _ _ ?_ (fun hHeld => ?_)
          · exact ⟨g0', g1', g2', g3', m0', m1', m2', m3'⟩
          clear hK K
          try simp only [Act.put, List.setIfInBounds_toArray, List.set_cons_zero, List.set_cons_succ]
          refine wpHT_takeD (i := 6) (d := 89) (v := ?_) (by kernel_rfl) rfl rfl (by decide) (by kernel_rfl) (by kernel_rfl) (fun _ _ _ h => h) (Or.inl ⟨by kernel_rfl, ?_⟩) (by assumption) ?_
          rotate_left
          · intro w hSw; (try dsimp only at hSw); go_simp; (try with_reducible rfl)
          try simp only [Act.put, List.setIfInBounds_toArray, List.set_cons_zero, List.set_cons_succ]
          refine wpHT_takeD (i := 7) (d := 90) (v := ?_) (by kernel_rfl) rfl rfl (by decide) (by kernel_rfl) (by kernel_rfl) (fun _ _ _ h => h) (Or.inl ⟨by kernel_rfl, ?_⟩) (by assumption) ?_
          rotate_left
          · intro w hSw; (try dsimp only at hSw); go_simp; (try with_reducible rfl)
          try simp only [Act.put, List.setIfInBounds_toArray, List.set_cons_zero, List.set_cons_succ]
          refine wpHT_takeD (i := 8) (d := 91) (v := ?_) (by kernel_rfl) rfl rfl (by decide) (by kernel_rfl) (by kernel_rfl) (fun _ _ _ h => h) (Or.inl ⟨by kernel_rfl, ?_⟩) (by assumption) ?_
          rotate_left
          · intro w hSw; (try dsimp only at hSw); go_simp; (try with_reducible rfl)
          try simp only [Act.put, List.setIfInBounds_toArray, List.set_cons_zero, List.set_cons_succ]
          refine wpHT_takeD (i := 9) (d := 92) (v := ?_) (by kernel_rfl) rfl rfl (by decide) (by kernel_rfl) (by kernel_rfl) (fun _ _ _ h => h) (Or.inl ⟨by kernel_rfl, ?_⟩) (by assumption) ?_
          rotate_left
          · intro w hSw; (try dsimp only at hSw); go_simp; (try with_reducible rfl)
          try simp only [Act.put, List.setIfInBounds_toArray, List.set_cons_zero, List.set_cons_succ]
          refine wpHT_takeD (i := 10) (d := 93) (v := ?_) (by kernel_rfl) rfl rfl (by decide) (by kernel_rfl) (by kernel_rfl) (fun _ _ _ h => h) (Or.inl ⟨by kernel_rfl, ?_⟩) (by assumption) ?_
          rotate_left
          · intro w hSw; (try dsimp only at hSw); go_simp; (try with_reducible rfl)
          try simp only [Act.put, List.setIfInBounds_toArray, List.set_cons_zero, List.set_cons_succ]
          refine wpHT_takeD (i := 11) (d := 94) (v := ?_) (by kernel_rfl) rfl rfl (by decide) (by kernel_rfl) (by kernel_rfl) (fun _ _ _ h => h) (Or.inl ⟨by kernel_rfl, ?_⟩) (by assumption) ?_
          rotate_left
          · intro w hSw; (try dsimp only at hSw); go_simp; (try with_reducible rfl)
          try simp only [Act.put, List.setIfInBounds_toArray, List.set_cons_zero, List.set_cons_succ]
          refine wpHT_takeD (i := 12) (d := 95) (v := ?_) (by kernel_rfl) rfl rfl (by decide) (by kernel_rfl) (by kernel_rfl) (fun _ _ _ h => h) (Or.inl ⟨by kernel_rfl, ?_⟩) (by assumption) ?_
          rotate_left
          · intro w hSw; (try dsimp only at hSw); go_simp; (try with_reducible rfl)
          try simp only [Act.put, List.setIfInBounds_toArray, List.set_cons_zero, List.set_cons_succ]
          refine wpHT_takeD (i := 13) (d := 96) (v := ?_) (by kernel_rfl) rfl rfl (by decide) (by kernel_rfl) (by kernel_rfl) (fun _ _ _ h => h) (Or.inl ⟨by kernel_rfl, ?_⟩) (by assumption) ?_
          rotate_left
          · intro w hSw; (try dsimp only at hSw); go_simp; (try with_reducible rfl)
          try simp only [Act.put, List.setIfInBounds_toArray, List.set_cons_zero, List.set_cons_succ]
          refine wpHT_takeD (i := 14) (d := 97) (v := ?_) (by kernel_rfl) rfl rfl (by decide) (by kernel_rfl) (by kernel_rfl) (fun _ _ _ h => h) (Or.inl ⟨by kernel_rfl, ?_⟩) (by assumption) ?_
          rotate_left
          · intro w hSw; (try dsimp only at hSw); go_simp; (try with_reducible rfl)
          try simp only [Act.put, List.setIfInBounds_toArray, List.set_cons_zero, List.set_cons_succ]
          refine wpHT_takeD (i := 15) (d := 98) (v := ?_) (by kernel_rfl) rfl rfl (by decide) (by kernel_rfl) (by kernel_rfl) (fun _ _ _ h => h) (Or.inl ⟨by kernel_rfl, ?_⟩) (by assumption) ?_
          rotate_left
          · intro w hSw; (try dsimp only at hSw); go_simp; (try with_reducible rfl)
          try simp only [Act.put, List.setIfInBounds_toArray, List.set_cons_zero, List.set_cons_succ]
          refine wpHT_takeD (i := 16) (d := 99) (v := ?_) (by kernel_rfl) rfl rfl (by decide) (by kernel_rfl) (by kernel_rfl) (fun _ _ _ h => h) (Or.inl ⟨by kernel_rfl, ?_⟩) (by assumption) ?_
          rotate_left
          · intro w hSw; (try dsimp only at hSw); go_simp; (try with_reducible rfl)
          try simp only [Act.put, List.setIfInBounds_toArray, List.set_cons_zero, List.set_cons_succ]
          refine wpHT_one (i := 17) (by kernel_rfl) rfl (by decide) (fun K hK => ?_)
          go_simp
          go_at_call 17
          refine (mkRef_any sv.m at_ ct _ ((HTS.out.below HB6.out).below HX1.out) H200.out).mono ?_
          rintro e X2 ⟨u2, rfl, ho2, hx2⟩
          obtain ⟨a2, c2, rfl, hr2⟩ := ho2.rd
          have hx2 : Below X0.heap.size X0 X2 := HX1.out.trans (hx2.mono HX1.out.size)
          have HR2 := Lib.hid hr2
          have g0'' := cell_below G0'.out hx2
          have g1'' := cell_below G1'.out hx2
          have g2'' := cell_below G2'.out hx2
          have g3'' := cell_below G3'.out hx2
          have m0'' := cell_below M0'.out hx2
          have m1'' := cell_below M1'.out hx2
          have m2'' := cell_below M2'.out hx2
          have m3'' := cell_below M3'.out hx2
          have HX2 := Lib.hid hx2
          clear ho2 hx2 hr2
          refine hK.out _ _ ?_ (fun hHeld => ?_)
          · exact ⟨g0'', g1'', g2'', g3'', m0'', m1'', m2'', m3''⟩
          clear hK K
          try simp only [Act.put, List.setIfInBounds_toArray, List.set_cons_zero, List.set_cons_succ]
          refine wpHT_one (i := 18) (by kernel_rfl) rfl (by decide) (fun K hK => ?_)
          go_simp
          go_at_call 16
          refine (same_any sv.m sv.m a5 a2 c5 c2 _ (HRM.out.below HX2.out) HR2.out).mono ?_
          rintro e X3 ⟨rfl, hx3⟩
          rw [sameB_refl]
          have hx3 : Below X0.heap.size X0 X3 := HX2.out.trans (hx3.mono HX2.out.size)
          have h0'' := cell_below G0'.out hx3
          have h1'' := cell_below G1'.out hx3
          have h2'' := cell_below G2'.out hx3
          have h3'' := cell_below G3'.out hx3
          have n0'' := cell_below M0'.out hx3
          have n1'' := cell_below M1'.out hx3
          have n2'' := cell_below M2'.out hx3
          have n3'' := cell_below M3'.out hx3
          have HX3 := Lib.hid hx3
          clear hx3
          refine hK.out _ _ ?_ (fun hHeld => ?_)
          · exact ⟨h0'', h1'', h2'', h3'', n0'', n1'', n2'', n3''⟩
          clear hK K
          try simp only [Act.put, List.setIfInBounds_toArray, List.set_cons_zero, List.set_cons_succ]
          refine wpHT_takeD (i := 19) (d := 102) (v := ?_) (by kernel_rfl) rfl rfl (by decide) (by kernel_rfl) (by kernel_rfl) (fun _ _ _ h => h) (Or.inl ⟨by kernel_rfl, ?_⟩) (by assumption) ?_
          rotate_left
          · intro w hSw; (try dsimp only at hSw); go_simp; (try with_reducible rfl)
          try simp only [Act.put, List.setIfInBounds_toArray, List.set_cons_zero, List.set_cons_succ]
          refine wpHT_done (by kernel_rfl) ?_
          simp only [List.drop_succ_cons, List.drop_zero]
          clear hHeld g0 g1 g2 g3 m0 m1 m2 m3 g0' g1' g2' g3' m0' m1' m2' m3' g0'' g1'' g2'' g3'' m0'' m1'' m2'' m3'' h0'' h1'' h2'' h3'' n0'' n1'' n2'' n3''
          have y0 := cell_below G0'.out (HX3.out)
          have y1 := cell_below G1'.out (HX3.out)
          have y2 := cell_below G2'.out (HX3.out)
          have y3 := cell_below G3'.out (HX3.out)
          go_wp2_with fail
          go_at_call 17
          refine (mkRef_any sv.m at_ ct _ ((HTS.out.below HB6.out).below HX3.out) H200.out).mono ?_
          rintro e Z ⟨u7, rfl, ho7, hz⟩
          obtain ⟨a7, c7, rfl, hr7⟩ := ho7.rd
          have hzz : Below X0.heap.size X0 Z := (HX3.out).trans (hz.mono (HX3.out).size)
          have HZZ := Lib.hid hzz
          have HO7 := Lib.hid ho7
          have HZ0 : Hid (X0.heap.size ≤ X3.heap.size) := (HX3.out).size
          have hq7 := (HW6.out.new hzz).row
          have r0 := cell_of_row _ _ 0 _ _ _ hq7
          have r1 := cell_of_row _ _ 1 _ _ _ hq7
          have r2 := cell_of_row _ _ 2 _ _ _ hq7
          have r3 := cell_of_row _ _ 3 _ _ _ hq7
          have f0 := frozen_of_row _ _ 0 _ _ hq7
          have f1 := frozen_of_row _ _ 1 _ _ hq7
          have f2 := frozen_of_row _ _ 2 _ _ hq7
          have f3 := frozen_of_row _ _ 3 _ _ hq7
          have fl := (Array.getElem?_eq_some_iff.1 hq7).1
          clear ho7 hr7 hz hzz hq7
          go_wp2_with fail
          go_roundw
          case rel =>
            have hnv : ∀ j, (Value.slice a7 sv.m.ts.length c7).ownBlock = some j → ¬ S4 j ∧ j ≠ q := fun j hj => by
              have h1 := (World.ownsRow.lt HO7.out j hj).1
              have h2 := HZ0.out
              have h3 := HW6.out.lt
              exact ⟨fun e => by have := HL6.out.1.lt j e; omega, by omega⟩
            exact ⟨k + 1, S4, s4, sv.m, _, true, by omega, by omega, by go_num, rfl, ((HL6.out.new HZZ.out).put HW6.out.nq HW6.out.qb _ _ _ _).mono (by omega), (HW6.out.new HZZ.out).put HO7.out (by have h1 := HL6.out.2.2.size; have h2 := HZ0.out; omega) hnv, HWI.out⟩
          case measure => simp [intOf]; omega
        | true =>
          have g0 := cell_below g0 hx0
          have m0 := cell_below m0 hx0
          have g1 := cell_below g1 hx0
          have m1 := cell_below m1 hx0
          have g2 := cell_below g2 hx0
          have m2 := cell_below m2 hx0
          have g3 := cell_below g3 hx0
          have m3 := cell_below m3 hx0
          have HB6 := Lib.hid (next_below HB6.out hx0)
          have HRM := Lib.hid (HRM.out.below hx0)
          have HL6 := Lib.hid (HL6.out.new hx0)
          have HW6 := Lib.hid (HW6.out.new hx0)
          clear q0 q1 q2 q3 hx0 hw6
          have HX0 : Hid (Below X0.heap.size X0 X0.drew) := (Below.refl X0.heap.size X0).drew
          have G0' := Lib.hid g0
          have G1' := Lib.hid g1
          have G2' := Lib.hid g2
          have G3' := Lib.hid g3
          have M0' := Lib.hid m0
          have M1' := Lib.hid m1
          have M2' := Lib.hid m2
          have M3' := Lib.hid m3
          go_wp2_with fail
          refine wp_region_ht 20 (fun W => W.cell? ⟨b, off + k * 6, none⟩ = some (.int .i64 sv.m.wall) ∧ W.cell? ⟨b, off + k * 6 + 1, none⟩ = some (.int .i64 sv.m.logi) ∧ W.cell? ⟨b, off + k * 6 + 2, none⟩ = some (.int .i64 sv.m.node) ∧ W.cell? ⟨b, off + k * 6 + 3, none⟩ = some (.slice at_ sv.m.ts.length ct) ∧ W.cell? ⟨mb, 0, none⟩ = some (.int .i64 sv.m.wall) ∧ W.cell? ⟨mb, 1, none⟩ = some (.int .i64 sv.m.logi) ∧ W.cell? ⟨mb, 2, none⟩ = some (.int .i64 sv.m.node) ∧ W.cell? ⟨mb, 3, none⟩ = some (.slice a5 sv.m.ts.length c5)) (by kernel_rfl) (by kernel_rfl) ?_ (fun hHeld => ?_)
          · exact ⟨g0, g1, g2, g3, m0, m1, m2, m3⟩
          try simp only [Act.put, List.setIfInBounds_toArray, List.set_cons_zero, List.set_cons_succ]
          refine wpHT_takeD (i := 0) (d := 83) (v := ?_) (by kernel_rfl) rfl rfl (by decide) (by kernel_rfl) (by kernel_rfl) (fun _ _ _ h => h) (Or.inl ⟨by kernel_rfl, ?_⟩) (by assumption) ?_
          rotate_left
          · intro w hSw; (try dsimp only at hSw); go_simp; (try with_reducible rfl)
          try simp only [Act.put, List.setIfInBounds_toArray, List.set_cons_zero, List.set_cons_succ]
          refine wpHT_takeD (i := 1) (d := 84) (v := ?_) (by kernel_rfl) rfl rfl (by decide) (by kernel_rfl) (by kernel_rfl) (fun _ _ _ h => h) (Or.inl ⟨by kernel_rfl, ?_⟩) (by assumption) ?_
          rotate_left
          · intro w hSw; (try dsimp only at hSw); go_simp; (try with_reducible rfl)
          try simp only [Act.put, List.setIfInBounds_toArray, List.set_cons_zero, List.set_cons_succ]
          refine wpHT_takeD (i := 2) (d := 85) (v := ?_) (by kernel_rfl) rfl rfl (by decide) (by kernel_rfl) (by kernel_rfl) (fun _ _ _ h => h) (Or.inl ⟨by kernel_rfl, ?_⟩) (by assumption) ?_
          rotate_left
          · intro w hSw; (try dsimp only at hSw); go_simp; (try with_reducible rfl)
          try simp only [Act.put, List.setIfInBounds_toArray, List.set_cons_zero, List.set_cons_succ]
          refine wpHT_takeD (i := 3) (d := 86) (v := ?_) (by kernel_rfl) rfl rfl (by decide) (by kernel_rfl) (by kernel_rfl) (fun _ _ _ h => h) (Or.inl ⟨by kernel_rfl, ?_⟩) (by assumption) ?_
          rotate_left
          · intro w hSw; (try dsimp only at hSw); go_simp; (try with_reducible rfl)
          try simp only [Act.put, List.setIfInBounds_toArray, List.set_cons_zero, List.set_cons_succ]
          refine wpHT_takeD (i := 4) (d := 87) (v := ?_) (by kernel_rfl) rfl rfl (by decide) (by kernel_rfl) (by kernel_rfl) (fun _ _ _ h => h) (Or.inl ⟨by kernel_rfl, ?_⟩) (by assumption) ?_
          rotate_left
          · intro w hSw; (try dsimp only at hSw); go_simp; (try with_reducible rfl)
          try simp only [Act.put, List.setIfInBounds_toArray, List.set_cons_zero, List.set_cons_succ]
          refine wpHT_one (i := 5) (by kernel_rfl) rfl (by decide) (fun K hK => ?_)
          go_simp
          go_at_call 11
          refine (may_any sv.m at_ ct _ ((HTS.out.below HB6.out).below HX0.out)).mono ?_
          rintro e X1 ⟨rfl, hx1⟩
          have hx1 : Below X0.heap.size X0 X1 := HX0.out.trans (hx1.mono HX0.out.size)
          rw [HMY.out]
          have g0' := cell_below G0'.out hx1
          have g1' := cell_below G1'.out hx1
          have g2' := cell_below G2'.out hx1
          have g3' := cell_below G3'.out hx1
          have m0' := cell_below M0'.out hx1
          have m1' := cell_below M1'.out hx1
          have m2' := cell_below M2'.out hx1
          have m3' := cell_below M3'.out hx1
          have HX1 := Lib.hid hx1
          clear hx1
          refine hK.out _ _ ?_ (fun hHeld => ?_)
          · exact ⟨g0', g1', g2', g3', m0', m1', m2', m3'⟩
          clear hK K
          try simp only [Act.put, List.setIfInBounds_toArray, List.set_cons_zero, List.set_cons_succ]
          refine wpHT_takeD (i := 6) (d := 89) (v := ?_) (by kernel_rfl) rfl rfl (by decide) (by kernel_rfl) (by kernel_rfl) (fun _ _ _ h => h) (Or.inl ⟨by kernel_rfl, ?_⟩) (by assumption) ?_
          rotate_left
          · intro w hSw; (try dsimp only at hSw); go_simp; (try with_reducible rfl)
          try simp only [Act.put, List.setIfInBounds_toArray, List.set_cons_zero, List.set_cons_succ]
          refine wpHT_takeD (i := 7) (d := 90) (v := ?_) (by kernel_rfl) rfl rfl (by decide) (by kernel_rfl) (by kernel_rfl) (fun _ _ _ h => h) (Or.inl ⟨by kernel_rfl, ?_⟩) (by assumption) ?_
          rotate_left
          · intro w hSw; (try dsimp only at hSw); go_simp; (try with_reducible rfl)
          try simp only [Act.put, List.setIfInBounds_toArray, List.set_cons_zero, List.set_cons_succ]
          refine wpHT_takeD (i := 8) (d := 91) (v := ?_) (by kernel_rfl) rfl rfl (by decide) (by kernel_rfl) (by kernel_rfl) (fun _ _ _ h => h) (Or.inl ⟨by kernel_rfl, ?_⟩) (by assumption) ?_
          rotate_left
          · intro w hSw; (try dsimp only at hSw); go_simp; (try with_reducible rfl)
          try simp only [Act.put, List.setIfInBounds_toArray, List.set_cons_zero, List.set_cons_succ]
          refine wpHT_takeD (i := 9) (d := 92) (v := ?_) (by kernel_rfl) rfl rfl (by decide) (by kernel_rfl) (by kernel_rfl) (fun _ _ _ h => h) (Or.inl ⟨by kernel_rfl, ?_⟩) (by assumption) ?_
          rotate_left
          · intro w hSw; (try dsimp only at hSw); go_simp; (try with_reducible rfl)
          try simp only [Act.put, List.setIfInBounds_toArray, List.set_cons_zero, List.set_cons_succ]
          refine wpHT_takeD (i := 10) (d := 93) (v := ?_) (by kernel_rfl) rfl rfl (by decide) (by kernel_rfl) (by kernel_rfl) (fun _ _ _ h => h) (Or.inl ⟨by kernel_rfl, ?_⟩) (by assumption) ?_
          rotate_left
          · intro w hSw; (try dsimp only at hSw); go_simp; (try with_reducible rfl)
          try simp only [Act.put, List.setIfInBounds_toArray, List.set_cons_zero, List.set_cons_succ]
          refine wpHT_takeD (i := 11) (d := 94) (v := ?_) (by kernel_rfl) rfl rfl (by decide) (by kernel_rfl) (by kernel_rfl) (fun _ _ _ h => h) (Or.inl ⟨by kernel_rfl, ?_⟩) (by assumption) ?_
          rotate_left
          · intro w hSw; (try dsimp only at hSw); go_simp; (try with_reducible rfl)
          try simp only [Act.put, List.setIfInBounds_toArray, List.set_cons_zero, List.set_cons_succ]
          refine wpHT_takeD (i := 12) (d := 95) (v := ?_) (by kernel_rfl) rfl rfl (by decide) (by kernel_rfl) (by kernel_rfl) (fun _ _ _ h => h) (Or.inl ⟨by kernel_rfl, ?_⟩) (by assumption) ?_
          rotate_left
          · intro w hSw; (try dsimp only at hSw); go_simp; (try with_reducible rfl)
          try simp only [Act.put, List.setIfInBounds_toArray, List.set_cons_zero, List.set_cons_succ]
          refine wpHT_takeD (i := 13) (d := 96) (v := ?_) (by kernel_rfl) rfl rfl (by decide) (by kernel_rfl) (by kernel_rfl) (fun _ _ _ h => h) (Or.inl ⟨by kernel_rfl, ?_⟩) (by assumption) ?_
          rotate_left
          · intro w hSw; (try dsimp only at hSw); go_simp; (try with_reducible rfl)
          try simp only [Act.put, List.setIfInBounds_toArray, List.set_cons_zero, List.set_cons_succ]
          refine wpHT_takeD (i := 14) (d := 97) (v := ?_) (by kernel_rfl) rfl rfl (by decide) (by kernel_rfl) (by kernel_rfl) (fun _ _ _ h => h) (Or.inl ⟨by kernel_rfl, ?_⟩) (by assumption) ?_
          rotate_left
          · intro w hSw; (try dsimp only at hSw); go_simp; (try with_reducible rfl)
          try simp only [Act.put, List.setIfInBounds_toArray, List.set_cons_zero, List.set_cons_succ]
          refine wpHT_takeD (i := 15) (d := 98) (v := ?_) (by kernel_rfl) rfl rfl (by decide) (by kernel_rfl) (by kernel_rfl) (fun _ _ _ h => h) (Or.inl ⟨by kernel_rfl, ?_⟩) (by assumption) ?_
          rotate_left
          · intro w hSw; (try dsimp only at hSw); go_simp; (try with_reducible rfl)
          try simp only [Act.put, List.setIfInBounds_toArray, List.set_cons_zero, List.set_cons_succ]
          refine wpHT_takeD (i := 16) (d := 99) (v := ?_) (by kernel_rfl) rfl rfl (by decide) (by kernel_rfl) (by kernel_rfl) (fun _ _ _ h => h) (Or.inl ⟨by kernel_rfl, ?_⟩) (by assumption) ?_
          rotate_left
          · intro w hSw; (try dsimp only at hSw); go_simp; (try with_reducible rfl)
          try simp only [Act.put, List.setIfInBounds_toArray, List.set_cons_zero, List.set_cons_succ]
          refine wpHT_one (i := 17) (by kernel_rfl) rfl (by decide) (fun K hK => ?_)
          go_simp
          go_at_call 17
          refine (mkRef_any sv.m at_ ct _ ((HTS.out.below HB6.out).below HX1.out) H200.out).mono ?_
          rintro e X2 ⟨u2, rfl, ho2, hx2⟩
          obtain ⟨a2, c2, rfl, hr2⟩ := ho2.rd
          have hx2 : Below X0.heap.size X0 X2 := HX1.out.trans (hx2.mono HX1.out.size)
          have HR2 := Lib.hid hr2
          have g0'' := cell_below G0'.out hx2
          have g1'' := cell_below G1'.out hx2
          have g2'' := cell_below G2'.out hx2
          have g3'' := cell_below G3'.out hx2
          have m0'' := cell_below M0'.out hx2
          have m1'' := cell_below M1'.out hx2
          have m2'' := cell_below M2'.out hx2
          have m3'' := cell_below M3'.out hx2
          have HX2 := Lib.hid hx2
          clear ho2 hx2 hr2
          refine hK.out _ _ ?_ (fun hHeld => ?_)
          · exact ⟨g0'', g1'', g2'', g3'', m0'', m1'', m2'', m3''⟩
          clear hK K
          try simp only [Act.put, List.setIfInBounds_toArray, List.set_cons_zero, List.set_cons_succ]
          refine wpHT_one (i := 18) (by kernel_rfl) rfl (by decide) (fun K hK => ?_)
          go_simp
          go_at_call 16
          refine (same_any sv.m sv.m a5 a2 c5 c2 _ (HRM.out.below HX2.out) HR2.out).mono ?_
          rintro e X3 ⟨rfl, hx3⟩
          rw [sameB_refl]
          have hx3 : Below X0.heap.size X0 X3 := HX2.out.trans (hx3.mono HX2.out.size)
          have h0'' := cell_below G0'.out hx3
          have h1'' := cell_below G1'.out hx3
          have h2'' := cell_below G2'.out hx3
          have h3'' := cell_below G3'.out hx3
          have n0'' := cell_below M0'.out hx3
          have n1'' := cell_below M1'.out hx3
          have n2'' := cell_below M2'.out hx3
          have n3'' := cell_below M3'.out hx3
          have HX3 := Lib.hid hx3
          clear hx3
          refine hK.out _ _ ?_ (fun hHeld => ?_)
          · exact ⟨h0'', h1'', h2'', h3'', n0'', n1'', n2'', n3''⟩
          clear hK K
          try simp only [Act.put, List.setIfInBounds_toArray, List.set_cons_zero, List.set_cons_succ]
          refine wpHT_takeD (i := 19) (d := 102) (v := ?_) (by kernel_rfl) rfl rfl (by decide) (by kernel_rfl) (by kernel_rfl) (fun _ _ _ h => h) (Or.inl ⟨by kernel_rfl, ?_⟩) (by assumption) ?_
          rotate_left
          · intro w hSw; (try dsimp only at hSw); go_simp; (try with_reducible rfl)
          try simp only [Act.put, List.setIfInBounds_toArray, List.set_cons_zero, List.set_cons_succ]
          refine wpHT_done (by kernel_rfl) ?_
          simp only [List.drop_succ_cons, List.drop_zero]
          clear hHeld g0 g1 g2 g3 m0 m1 m2 m3 g0' g1' g2' g3' m0' m1' m2' m3' g0'' g1'' g2'' g3'' m0'' m1'' m2'' m3'' h0'' h1'' h2'' h3'' n0'' n1'' n2'' n3''
          have y0 := cell_below G0'.out (HX3.out)
          have y1 := cell_below G1'.out (HX3.out)
          have y2 := cell_below G2'.out (HX3.out)
          have y3 := cell_below G3'.out (HX3.out)
          go_wp2_with fail
          go_at_call 17
          refine (mkRef_any sv.m at_ ct _ ((HTS.out.below HB6.out).below HX3.out) H200.out).mono ?_
          rintro e Z ⟨u7, rfl, ho7, hz⟩
          obtain ⟨a7, c7, rfl, hr7⟩ := ho7.rd
          have hzz : Below X0.heap.size X0 Z := (HX3.out).trans (hz.mono (HX3.out).size)
          have HZZ := Lib.hid hzz
          have HO7 := Lib.hid ho7
          have HZ0 : Hid (X0.heap.size ≤ X3.heap.size) := (HX3.out).size
          have hq7 := (HW6.out.new hzz).row
          have r0 := cell_of_row _ _ 0 _ _ _ hq7
          have r1 := cell_of_row _ _ 1 _ _ _ hq7
          have r2 := cell_of_row _ _ 2 _ _ _ hq7
          have r3 := cell_of_row _ _ 3 _ _ _ hq7
          have f0 := frozen_of_row _ _ 0 _ _ hq7
          have f1 := frozen_of_row _ _ 1 _ _ hq7
          have f2 := frozen_of_row _ _ 2 _ _ hq7
          have f3 := frozen_of_row _ _ 3 _ _ hq7
          have fl := (Array.getElem?_eq_some_iff.1 hq7).1
          clear ho7 hr7 hz hzz hq7
          go_wp2_with fail
          go_roundw
          case rel =>
            have hnv : ∀ j, (Value.slice a7 sv.m.ts.length c7).ownBlock = some j → ¬ S4 j ∧ j ≠ q := fun j hj => by
              have h1 := (World.ownsRow.lt HO7.out j hj).1
              have h2 := HZ0.out
              have h3 := HW6.out.lt
              exact ⟨fun e => by have := HL6.out.1.lt j e; omega, by omega⟩
            exact ⟨k + 1, S4, s4, sv.m, _, true, by omega, by omega, by go_num, rfl, ((HL6.out.new HZZ.out).put HW6.out.nq HW6.out.qb _ _ _ _).mono (by omega), (HW6.out.new HZZ.out).put HO7.out (by have h1 := HL6.out.2.2.size; have h2 := HZ0.out; omega) hnv, HWI.out⟩
          case measure => simp [intOf]; omega
end Go.Proofs.Ytkinhilkmjfjhaa
