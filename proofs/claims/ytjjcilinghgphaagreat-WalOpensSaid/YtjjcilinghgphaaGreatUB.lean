/-
 The document's log: Append.
 The document's log: Trim.
-/
import Derived.Test.YtjjcilinghgphaaGreatUA
import Derived.Deep.LoopGhost
/-! ### The document's log: Append. -/
namespace Go.Proofs.YtjjcilinghgphaaGreat
open Go.RowKit Go.Maps
set_option maxRecDepth 100000
attribute [local go_sem] bs_size bs_toList
set_option maxHeartbeats 8000000 in
theorem rappendL_any {w : World} {c l : Nat} {T : Nat → Prop} {B : Int} {s : DS} {g : LG} (hB : B ≤ 999999999990) (hok : DOk B s) (h : RWS w c l T s g) (hk : LOk s g) {ap : Option Addr} {np cp : Nat} {p : List UInt8} (hp : Rd8 w ap np cp p) (hap : BlkIn ap np fun b => ¬ T b) :
 Calls Tryz.prog 41 #[.pointer (some ⟨l, 0, none⟩), .slice ap np cp] w (RAppPost w c l T s g p) := by
 have HB := Lib.hid hB
 have HOK := Lib.hid hok
 have HLW := Lib.hid h
 have HK := Lib.hid hk
 have HPR := Lib.hid hp
 have HAP := Lib.hid hap
 have HNP := Lib.hid hp.1
 have HAB := Lib.hid (Rd.blkIn hp.2 (by decide))
 have HT0 := Lib.hid h.lt
 have HSAME : Hid (∀ W, Below w.heap.size w W → RWS W c l (Sx T w W) s g ∧ Fr T w W) := fun W hb => by
  obtain ⟨Sd, Sl, hA⟩ := h.open
  exact (hA.new hb).fin
 clear h hk hok hap
 go_enter Tryz.func41, Tryz.ntmps41
 go_wp2_with fail
 go_at_call 76
 refine (refFrame_any ap np cp p w hp).mono ?_
 rintro e Y1 ⟨vf, hb1, hfe⟩
 have HB1 := Lib.hid hb1
 by_cases hlong : 262144 < p.length
 case pos =>
  obtain ⟨_, rfl⟩ : ¬ p.length ≤ 262144 ∧ e = .returned (.tuple #[.slice none 0 0, .int .i64 2]) := by
   rcases hfe with h | h
   · exact absurd h.1 (by omega)
   · exact h
  have HG : Hid (RAppPost w c l T s g p (.returned (.tuple #[.int .i64 0, .int .i64 2])) Y1) := by
   obtain ⟨e1, e2⟩ := appL_long (s := s) (g := g) hlong
   refine ⟨by rw [e1, e2], ?_, (HSAME.out _ hb1).2⟩
   rw [e1]; exact (HSAME.out _ hb1).1
  clear hp hfe hb1 hlong
  go_wp2_with fail
  go_ret2
  exact HG.out
 case neg =>
 obtain ⟨_, rfl, hof⟩ : p.length ≤ 262144 ∧ e = .returned (.tuple #[vf, .int .i64 0]) ∧ Own8 Y1 w.heap.size 5 vf (frameOf p) := by
  rcases hfe with h | h
  · exact h
  · exact absurd (by omega) h.1
 obtain ⟨af, cf, rfl, hrf⟩ := hof.rd
 have HAF : Hid (∀ b, blk af = some b → w.heap.size ≤ b) := fun b hb => (World.ownsRow.lt hof b (by rw [ownBlock_sl]; exact hb)).1
 have HAF1 : Hid (∀ b, blk af = some b → b < Y1.heap.size) := fun b hb => (World.ownsRow.lt hof b (by rw [ownBlock_sl]; exact hb)).2
 have HRF := Lib.hid hrf
 have HLONG := Lib.hid hlong
 have hpl : p.length ≤ 262144 := by omega
 have hfl : (frameOf p).length ≤ 262156 := by rw [frameOf_length]; omega
 have HFL := Lib.hid hfl
 have hRW := HLW.out.new hb1
 have HNX : Hid (Calls Tryz.prog 32 #[.pointer (some ⟨l, 0, none⟩)] Y1 fun e w' => e = .returned (.int .i64 (g.next : Nat)) ∧ ∃ n, w' = Y1.drewN n) := by
  obtain ⟨Sd, Sl, hA⟩ := hRW.open
  exact RgG.next hA.lg HK.out
 have hnl := HK.out.next_le
 have hnp := HK.out.next_pos
 obtain ⟨nx, hnx⟩ : ∃ nx, g.next = nx := ⟨_, rfl⟩
 rw [hnx] at HNX hnl hnp
 have HNX0 := Lib.hid hnx
 clear hp hfe hb1 hof hrf hlong hRW hnx hfl hpl
 go_wp2_with fail
 go_at_call 32
 refine (HNX.out).mono ?_
 rintro e y2 ⟨rfl, i2, rfl⟩
 have hb2 := next_below HB1.out (below_dn (Below.refl Y1.heap.size Y1) i2)
 have hrf2 := HRF.out.below (below_dn (Below.refl Y1.heap.size Y1) i2)
 have hsz2 := (below_dn (Below.refl Y1.heap.size Y1) i2).size
 obtain ⟨Y2, hY2⟩ : ∃ Y2, Y1.drewN i2 = Y2 := ⟨_, rfl⟩
 rw [hY2] at hb2 hrf2 hsz2 ⊢
 clear hY2
 have HAF2 : Hid (∀ b, blk af = some b → b < Y2.heap.size) := fun b hb => Nat.lt_of_lt_of_le (HAF1.out b hb) hsz2
 have HB2 := Lib.hid hb2
 have HRF2 := Lib.hid hrf2
 clear hb2 hrf2 hsz2
 by_cases hrange : (99999999 : Int) < (nx : Int)
 · have HG : Hid (RAppPost w c l T s g p (.returned (.tuple #[.int .i64 0, .int .i64 1])) Y2) := by
    obtain ⟨e1, e2⟩ := appL_range (s := s) (g := g) (p := p) HLONG.out (by have := HNX0.out; omega)
    refine ⟨by rw [e1, e2], ?_, (HSAME.out _ HB2.out).2⟩
    rw [e1]; exact (HSAME.out _ HB2.out).1
   go_wp2_with fail
   go_ret2
   exact HG.out
 have HRANGE : Hid (¬ 99999999 < g.next) := by have := HNX0.out; show ¬ _; omega
 obtain ⟨Sd, Sl, hA⟩ := (HLW.out.new HB2.out).open
 obtain ⟨nv, av, us, hM, hC, _⟩ := hA.lg
 obtain ⟨c0, _, c2, _, _, _, _, _, _⟩ := hM.cells
 have HLA : Hid (∀ W, (∃ k, W = Y2.drewN k) → Calls Tryz.prog 63 #[.pointer (some ⟨l, 0, none⟩)] W (NamePost W g.lnm)) := fun W hW => (hM.draws hW).lastN HK.out
 have HA := Lib.hid hA
 have hr1 := HK.out.r1
 have hr2 := HK.out.r2
 obtain ⟨rm, hrm⟩ : ∃ rm, g.room = rm := ⟨_, rfl⟩
 rw [hrm] at c2 hr1 hr2
 have HRM := Lib.hid hrm
 clear hA hM hC hrm HNX
 go_wp2_with fail
 refine wp_region_ht 11 (fun W => W.cell? ⟨l, 0, none⟩ = some (.pointer (some ⟨c, 0, none⟩)) ∧ W.cell? ⟨l, 2, none⟩ = some (.int .i64 rm)) (by kernel_rfl) (by kernel_rfl) ?_ (fun hHeld => ?_)
 · exact ⟨c0, c2⟩
 try simp only [Act.put, List.setIfInBounds_toArray, List.set_cons_zero, List.set_cons_succ]
 refine wpHT_takeD (i := 0) (d := 24) (v := ?_) (by kernel_rfl) rfl rfl (by decide) (by kernel_rfl) (by kernel_rfl) (fun _ _ _ h => h) (Or.inl ⟨by kernel_rfl, ?_⟩) (by assumption) ?_
 rotate_left
 · intro w hSw; (try dsimp only at hSw); go_simp; (try with_reducible rfl)
 try simp only [Act.put, List.setIfInBounds_toArray, List.set_cons_zero, List.set_cons_succ]
 refine wpHT_takeD (i := 1) (d := 25) (v := ?_) (by kernel_rfl) rfl rfl (by decide) (by kernel_rfl) (by kernel_rfl) (fun _ _ _ h => h) (Or.inl ⟨by kernel_rfl, ?_⟩) (by assumption) ?_
 rotate_left
 · intro w hSw; (try dsimp only at hSw); go_simp; (try with_reducible rfl)
 try simp only [Act.put, List.setIfInBounds_toArray, List.set_cons_zero, List.set_cons_succ]
 refine wpHT_takeD (i := 2) (d := 26) (v := ?_) (by kernel_rfl) rfl rfl (by decide) (by kernel_rfl) (by kernel_rfl) (fun _ _ _ h => h) (Or.inl ⟨by kernel_rfl, ?_⟩) (by assumption) ?_
 rotate_left
 · intro w hSw; (try dsimp only at hSw); go_simp; (try with_reducible rfl)
 try simp only [Act.put, List.setIfInBounds_toArray, List.set_cons_zero, List.set_cons_succ]
 refine wpHT_takeD (i := 3) (d := 27) (v := ?_) (by kernel_rfl) rfl rfl (by decide) (by kernel_rfl) (by kernel_rfl) (fun _ _ _ h => h) (Or.inl ⟨by kernel_rfl, ?_⟩) (by assumption) ?_
 rotate_left
 · intro w hSw; (try dsimp only at hSw); go_simp; (try with_reducible rfl)
 try simp only [Act.put, List.setIfInBounds_toArray, List.set_cons_zero, List.set_cons_succ]
 refine wpHT_takeD (i := 4) (d := 28) (v := ?_) (by kernel_rfl) rfl rfl (by decide) (by kernel_rfl) (by kernel_rfl) (fun _ _ _ h => h) (Or.inl ⟨by kernel_rfl, ?_⟩) (by assumption) ?_
 rotate_left
 · intro w hSw; (try dsimp only at hSw); go_simp; (try with_reducible rfl)
 try simp only [Act.put, List.setIfInBounds_toArray, List.set_cons_zero, List.set_cons_succ]
 refine wpHT_one (i := 5) (by kernel_rfl) rfl (by decide) (fun K hK => ?_)
 go_simp
 go_at_call 63
 refine (HLA.out _ ⟨1, rfl⟩).mono ?_
 rintro e Y3 ⟨rfl, hb⟩
 have hb' : Below Y2.heap.size Y2 Y3 := (Below.refl _ Y2).drew.trans hb
 have HB3 := Lib.hid hb'
 have c0 := cell_below c0 hb'
 have c2 := cell_below c2 hb'
 clear hb hb'
 refine hK.out _ _ ?_ (fun hHeld => ?_)
 · exact ⟨c0, c2⟩
 clear hK K
 try simp only [Act.put, List.setIfInBounds_toArray, List.set_cons_zero, List.set_cons_succ]
 refine wpHT_one (i := 6) (by kernel_rfl) rfl (by decide) (fun K hK => ?_)
 go_simp
 go_at_call 65
 refine (rread_any c Sd s g.lnm HOK.out.len _ (HA.out.new HB3.out).dk).mono ?_
 rintro e Y3' ⟨⟨ab, cb, rfl, hrb⟩, rfl⟩
 clear hrb
 refine hK.out _ _ ?_ (fun hHeld => ?_)
 · exact ⟨c0, c2⟩
 clear hK K
 try simp only [Act.put, List.setIfInBounds_toArray, List.set_cons_zero, List.set_cons_succ]
 refine wpHT_takeD (i := 7) (d := 23) (v := ?_) (by kernel_rfl) rfl rfl (by decide) (by kernel_rfl) (by kernel_rfl) (fun _ _ _ h => h) (Or.inl ⟨by kernel_rfl, ?_⟩) (by assumption) ?_
 rotate_left
 · intro w hSw; (try dsimp only at hSw); go_simp; (try with_reducible rfl)
 try simp only [Act.put, List.setIfInBounds_toArray, List.set_cons_zero, List.set_cons_succ]
 refine wpHT_takeD (i := 8) (d := 31) (v := ?_) (by kernel_rfl) rfl rfl (by decide) (by kernel_rfl) (by kernel_rfl) (fun _ _ _ h => h) (Or.inl ⟨by kernel_rfl, ?_⟩) (by assumption) ?_
 rotate_left
 · intro w hSw; (try dsimp only at hSw); go_simp; (try with_reducible rfl)
 try simp only [Act.put, List.setIfInBounds_toArray, List.set_cons_zero, List.set_cons_succ]
 refine wpHT_takeD (i := 9) (d := 32) (v := ?_) (by kernel_rfl) rfl rfl (by decide) (by kernel_rfl) (by kernel_rfl) (fun _ _ _ h => h) (Or.inl ⟨by kernel_rfl, ?_⟩) (by assumption) ?_
 rotate_left
 · intro w hSw; (try dsimp only at hSw); go_simp; (try with_reducible rfl)
 try simp only [Act.put, List.setIfInBounds_toArray, List.set_cons_zero, List.set_cons_succ]
 refine wpHT_takeD (i := 10) (d := 8) (v := ?_) (by kernel_rfl) rfl rfl (by decide) (by kernel_rfl) (by kernel_rfl) (fun _ _ _ h => h) (Or.inl ⟨by kernel_rfl, ?_⟩) (by assumption) ?_
 rotate_left
 · intro w hSw; (try dsimp only at hSw); go_simp; (try with_reducible rfl)
 try simp only [Act.put, List.setIfInBounds_toArray, List.set_cons_zero, List.set_cons_succ]
 refine wpHT_done (by kernel_rfl) ?_
 simp only [List.drop_succ_cons, List.drop_zero]
 clear hHeld
 have HB3' := Lib.hid (next_below HB2.out HB3.out)
 have HRF3 := Lib.hid (HRF2.out.below HB3.out)
 have HAF3 : Hid (∀ b, blk af = some b → b < Y3.heap.size) := fun b hb => Nat.lt_of_lt_of_le (HAF2.out b hb) HB3.out.size
 have hml : (dataS s g.lnm).length ≤ 4194304 := by
  unfold dataS
  cases hf : getF g.lnm s.fs with
  | none => exact Nat.zero_le _
  | some f =>
   have h1 := dt_le_tot (getF_some hf).1
   have h2 := HOK.out.tot
   show f.dt.length ≤ _
   omega
 obtain ⟨m, hm⟩ : ∃ m, (dataS s g.lnm).length = m := ⟨_, rfl⟩
 rw [hm] at hml ⊢
 have HM0 := Lib.hid hm
 clear hm c0
 by_cases hfull : (m : Int) < rm
 · have hfull' : ¬ rm ≤ (m : Int) := by omega
   obtain ⟨WX, hWX⟩ : ∃ WX, Y3 = WX := ⟨_, rfl⟩
   have hbX := HB3'.out
   have hrX := HRF3.out
   rw [hWX] at hbX hrX c2 ⊢
   obtain ⟨sx, hsx⟩ : ∃ sx, s = sx := ⟨_, rfl⟩
   obtain ⟨gx, hgx⟩ : ∃ gx, g = gx := ⟨_, rfl⟩
   have HTX : Hid (RTurnAt (B + 2) w c l T s g p sx gx WX) := by
    subst hsx hgx
    exact ⟨(HSAME.out _ hbX).1, (HSAME.out _ hbX).2, HK.out, HOK.out.mono (by omega), ref_free HK.out HLONG.out HRANGE.out (by rw [HM0.out, HRM.out]; exact hfull), rfl, HT0.out⟩
   have HRX := Lib.hid hrX
   clear hsx hgx hWX hbX hrX
   obtain ⟨Sd, Sl, hA⟩ := HTX.out.lw.open
   obtain ⟨nv, av, us, hM, hC, _⟩ := hA.lg
   obtain ⟨c0, _, _, _, _, _, _, _, _⟩ := hM.cells
   have HLX : Hid (∀ W, (∃ k, W = WX.drewN k) → Calls Tryz.prog 63 #[.pointer (some ⟨l, 0, none⟩)] W (NamePost W gx.lnm)) := fun W hW => (hM.draws hW).lastN HTX.out.ok
   have HA := Lib.hid hA
   have HM := Lib.hid hM
   have HC := Lib.hid hC
   have HPX : Hid (Rd8 WX ap np cp p) := HPR.out.keep0 HTX.out.fr HAP.out
   clear hA hM hC
   go_wp2_with fail
   refine wp_region_ht 7 (fun W => W.cell? ⟨l, 0, none⟩ = some (.pointer (some ⟨c, 0, none⟩))) (by kernel_rfl) (by kernel_rfl) ?_ (fun hHeld => ?_)
   · exact c0
   try simp only [Act.put, List.setIfInBounds_toArray, List.set_cons_zero, List.set_cons_succ]
   refine wpHT_takeD (i := 0) (d := 75) (v := ?_) (by kernel_rfl) rfl rfl (by decide) (by kernel_rfl) (by kernel_rfl) (fun _ _ _ h => h) (Or.inl ⟨by kernel_rfl, ?_⟩) (by assumption) ?_
   rotate_left
   · intro w hSw; (try dsimp only at hSw); go_simp; (try with_reducible rfl)
   try simp only [Act.put, List.setIfInBounds_toArray, List.set_cons_zero, List.set_cons_succ]
   refine wpHT_takeD (i := 1) (d := 76) (v := ?_) (by kernel_rfl) rfl rfl (by decide) (by kernel_rfl) (by kernel_rfl) (fun _ _ _ h => h) (Or.inl ⟨by kernel_rfl, ?_⟩) (by assumption) ?_
   rotate_left
   · intro w hSw; (try dsimp only at hSw); go_simp; (try with_reducible rfl)
   try simp only [Act.put, List.setIfInBounds_toArray, List.set_cons_zero, List.set_cons_succ]
   refine wpHT_takeD (i := 2) (d := 77) (v := ?_) (by kernel_rfl) rfl rfl (by decide) (by kernel_rfl) (by kernel_rfl) (fun _ _ _ h => h) (Or.inl ⟨by kernel_rfl, ?_⟩) (by assumption) ?_
   rotate_left
   · intro w hSw; (try dsimp only at hSw); go_simp; (try with_reducible rfl)
   try simp only [Act.put, List.setIfInBounds_toArray, List.set_cons_zero, List.set_cons_succ]
   refine wpHT_takeD (i := 3) (d := 78) (v := ?_) (by kernel_rfl) rfl rfl (by decide) (by kernel_rfl) (by kernel_rfl) (fun _ _ _ h => h) (Or.inl ⟨by kernel_rfl, ?_⟩) (by assumption) ?_
   rotate_left
   · intro w hSw; (try dsimp only at hSw); go_simp; (try with_reducible rfl)
   try simp only [Act.put, List.setIfInBounds_toArray, List.set_cons_zero, List.set_cons_succ]
   refine wpHT_takeD (i := 4) (d := 79) (v := ?_) (by kernel_rfl) rfl rfl (by decide) (by kernel_rfl) (by kernel_rfl) (fun _ _ _ h => h) (Or.inl ⟨by kernel_rfl, ?_⟩) (by assumption) ?_
   rotate_left
   · intro w hSw; (try dsimp only at hSw); go_simp; (try with_reducible rfl)
   try simp only [Act.put, List.setIfInBounds_toArray, List.set_cons_zero, List.set_cons_succ]
   refine wpHT_takeD (i := 6) (d := 81) (v := ?_) (by kernel_rfl) rfl rfl (by decide) (by kernel_rfl) (by kernel_rfl) (fun _ _ _ h => h) (Or.inl ⟨by kernel_rfl, ?_⟩) (by assumption) ?_
   rotate_left
   · intro w hSw; (try dsimp only at hSw); go_simp; (try with_reducible rfl)
   try simp only [Act.put, List.setIfInBounds_toArray, List.set_cons_zero, List.set_cons_succ]
   refine wpHT_one (i := 5) (by kernel_rfl) rfl (by decide) (fun K hK => ?_)
   go_simp
   go_at_call 63
   refine (HLX.out _ ⟨1, rfl⟩).mono ?_
   rintro e Z1 ⟨rfl, hb⟩
   have hb' : Below WX.heap.size WX Z1 := (Below.refl _ WX).drew.trans hb
   have HZ1 := Lib.hid hb'
   have c0 := cell_below c0 hb'
   clear hb hb'
   refine hK.out _ _ ?_ (fun hHeld => ?_)
   · exact c0
   clear hK K
   try simp only [Act.put, List.setIfInBounds_toArray, List.set_cons_zero, List.set_cons_succ]
   refine wpHT_done (by kernel_rfl) ?_
   simp only [List.drop_succ_cons, List.drop_zero]
   clear hHeld c0
   have HA1 := Lib.hid (HA.out.new HZ1.out)
   go_wp2_with fail
   go_at_call 77
   refine (rappend_any c Sd (B + 2) (by have := HB.out; omega) sx gx.lnm af _ cf (frameOf p) (by have := HFL.out; omega) HTX.out.dok Z1 HA1.out.dk (HRX.out.below HZ1.out)).mono ?_
   rintro e Z2 ⟨rfl, k1, k2⟩
   have HA2 := Lib.hid (HA1.out.disk k1 k2)
   have hM2 := (HM.out.new HZ1.out).after HC.out k2 (fun k hk hs => HA1.out.dj k hs hk)
   have hp2 : Rd8 Z2 ap np cp p := by
    refine (HPX.out.below HZ1.out).keep0 k2 fun h0 b hb hs => ?_
    rcases HA.out.sd b hs with (e | e) | e
    · exact HAP.out h0 b hb e
    · have := HAB.out h0 b hb; omega
    · have := HAB.out h0 b hb; have := HTX.out.fr.size; omega
   have HM2 := Lib.hid hM2
   have HP2 := Lib.hid hp2
   obtain ⟨e, he⟩ : ∃ e, (appendS sx gx.lnm (frameOf p)).2 = e := ⟨_, rfl⟩
   rw [he]
   have HE := Lib.hid he
   clear k1 k2 hp2 he
   by_cases h0 : e = 0
   · subst h0
     obtain ⟨_, _, _, _, c4, _, _, _, _⟩ := hM2.cells
     have hcl : gx.all.length ≤ 100349524 := by have h1 := HTX.out.ok.all_len; have h2 := HTX.out.ok.next_le; omega
     have hho := hM2.ha
     obtain ⟨aa, ca, hav, _⟩ := hho.rd
     rw [hav] at c4 hho hM2
     have HAV := Lib.hid hav
     have HHO := Lib.hid hho
     have HMV := Lib.hid hM2
     obtain ⟨rl, hrl⟩ : ∃ rl, gx.all.length = rl := ⟨_, rfl⟩
     rw [hrl] at c4 hcl HHO HMV HAV
     have HRL := Lib.hid hrl
     have hnp3 : np ≤ 140737488355328 := by have := HNP.out; have := HLONG.out; omega
     have HCP : Hid (∀ W, Below Z2.heap.size Z2 W → Calls Tryz.prog 26 #[.slice ap np cp] W (Made8 W p)) := fun W hW => copyBytes_any ap np cp p W (HP2.out.below hW) hnp3
     clear hM2 hho hav hrl hnp3
     go_wp2_with fail
     refine wp_region_ht 9 (fun W => W.cell? ⟨l, 4, none⟩ = some (.slice aa rl ca)) (by kernel_rfl) (by kernel_rfl) ?_ (fun hHeld => ?_)
     · exact c4
     try simp only [Act.put, List.setIfInBounds_toArray, List.set_cons_zero, List.set_cons_succ]
     refine wpHT_takeD (i := 0) (d := 86) (v := ?_) (by kernel_rfl) rfl rfl (by decide) (by kernel_rfl) (by kernel_rfl) (fun _ _ _ h => h) (Or.inl ⟨by kernel_rfl, ?_⟩) (by assumption) ?_
     rotate_left
     · intro w hSw; (try dsimp only at hSw); go_simp; (try with_reducible rfl)
     try simp only [Act.put, List.setIfInBounds_toArray, List.set_cons_zero, List.set_cons_succ]
     refine wpHT_takeD (i := 1) (d := 87) (v := ?_) (by kernel_rfl) rfl rfl (by decide) (by kernel_rfl) (by kernel_rfl) (fun _ _ _ h => h) (Or.inl ⟨by kernel_rfl, ?_⟩) (by assumption) ?_
     rotate_left
     · intro w hSw; (try dsimp only at hSw); go_simp; (try with_reducible rfl)
     try simp only [Act.put, List.setIfInBounds_toArray, List.set_cons_zero, List.set_cons_succ]
     refine wpHT_takeD (i := 2) (d := 88) (v := ?_) (by kernel_rfl) rfl rfl (by decide) (by kernel_rfl) (by kernel_rfl) (fun _ _ _ h => h) (Or.inl ⟨by kernel_rfl, ?_⟩) (by assumption) ?_
     rotate_left
     · intro w hSw; (try dsimp only at hSw); go_simp; (try with_reducible rfl)
     try simp only [Act.put, List.setIfInBounds_toArray, List.set_cons_zero, List.set_cons_succ]
     refine wpHT_takeD (i := 3) (d := 89) (v := ?_) (by kernel_rfl) rfl rfl (by decide) (by kernel_rfl) (by kernel_rfl) (fun _ _ _ h => h) (Or.inl ⟨by kernel_rfl, ?_⟩) (by assumption) ?_
     rotate_left
     · intro w hSw; (try dsimp only at hSw); go_simp; (try with_reducible rfl)
     try simp only [Act.put, List.setIfInBounds_toArray, List.set_cons_zero, List.set_cons_succ]
     refine wpHT_takeD (i := 4) (d := 90) (v := ?_) (by kernel_rfl) rfl rfl (by decide) (by kernel_rfl) (by kernel_rfl) (fun _ _ _ h => h) (Or.inl ⟨by kernel_rfl, ?_⟩) (by assumption) ?_
     rotate_left
     · intro w hSw; (try dsimp only at hSw); go_simp; (try with_reducible rfl)
     try simp only [Act.put, List.setIfInBounds_toArray, List.set_cons_zero, List.set_cons_succ]
     refine wpHT_takeD (i := 5) (d := 91) (v := ?_) (by kernel_rfl) rfl rfl (by decide) (by kernel_rfl) (by kernel_rfl) (fun _ _ _ h => h) (Or.inl ⟨by kernel_rfl, ?_⟩) (by assumption) ?_
     rotate_left
     · intro w hSw; (try dsimp only at hSw); go_simp; (try with_reducible rfl)
     try simp only [Act.put, List.setIfInBounds_toArray, List.set_cons_zero, List.set_cons_succ]
     refine wpHT_one (i := 6) (by kernel_rfl) rfl (by decide) (fun K hK => ?_)
     go_simp
     go_at_call 26
     refine (HCP.out _ (Below.refl _ Z2).drew).mono ?_
     rintro e Z3 ⟨u, rfl, hou, hbu⟩
     obtain ⟨au, cu, rfl, hru⟩ := hou.rd
     have hb' : Below Z2.heap.size Z2 Z3 := (Below.refl _ Z2).drew.trans hbu
     have HB3 := Lib.hid hb'
     have HOU := Lib.hid hou
     have c4 := cell_below c4 hb'
     clear hou hbu hru hb'
     refine hK.out _ _ ?_ (fun hHeld => ?_)
     · exact c4
     clear hK K
     try simp only [Act.put, List.setIfInBounds_toArray, List.set_cons_zero, List.set_cons_succ]
     refine wpHT_one (i := 7) (by kernel_rfl) rfl (by decide) (fun K hK => ?_)
     go_simp
     have c4 := cell_alloc_keep (w := Z3) (o := .cells #[.slice au p.length cu] 24) c4
     refine hK.out _ _ ?_ (fun hHeld => ?_)
     · exact c4
     clear hK K
     try simp only [Act.put, List.setIfInBounds_toArray, List.set_cons_zero, List.set_cons_succ]
     refine wpHT_one (i := 8) (by kernel_rfl) rfl (by decide) (fun K hK => ?_)
     refine step_appO S88 rfl _ _ rfl rfl (HHO.out.new (HB3.out.alloc HB3.out.size _)) rfl (Rd.one _ _ _) (by simp [Value.oneCell']) (by omega) (by unfold maxLen; omega) ?_
     intro v6 Z6 hown6 hg6 hl6
     obtain ⟨a6, cap6, rfl, _⟩ := hown6.rd
     have hpt := HMV.out.pushA (HAV.out ▸ HC.out) HA2.out.lt.2 (Y := Z3.alloc (.cells #[.slice au p.length cu] 24)) (ps := [p]) (vs := [.slice au p.length cu]) (HB3.out.alloc HB3.out.size _) hg6 (by rw [HRL.out]; exact hown6) (rec_new (HOU.out.alloc _) (fun k hk => HMV.out.blocks.2.2.1 k hk) hg6) (fun u hu k hk => by rw [List.mem_singleton] at hu; subst hu; exact (World.ownsRow.lt HOU.out k hk).1) hl6
     have hpt1 := hpt.1
     have HPT := Lib.hid hpt
     clear hown6 hg6 hl6 hpt
     refine hK.out _ _ ?_ (fun hHeld => ?_)
     · exact hpt1
     clear hK K
     try simp only [Act.put, List.setIfInBounds_toArray, List.set_cons_zero, List.set_cons_succ]
     refine wpHT_done (by kernel_rfl) ?_
     simp only [List.drop_succ_cons, List.drop_zero]
     clear hHeld
     obtain ⟨p1, p2, p3, p4⟩ := HPT.out
     have P3 := Lib.hid p3
     have P4 := Lib.hid p4
     clear p3 p4 HPT
     go_wp2_with fail
     have HN3 : Hid (Calls Tryz.prog 32 #[.pointer (some ⟨l, 0, none⟩)] (Z6.setCell ⟨l, 4, none⟩ (.slice a6 (rl + 1) cap6)) fun e w' => e = .returned (.int .i64 ((nx + 1 : Nat) : Int)) ∧ ∃ n, w' = (Z6.setCell ⟨l, 4, none⟩ (.slice a6 (rl + 1) cap6)).drewN n) := by
      obtain ⟨nv', av', us', hM', _⟩ := P3.out
      have h1 := HTX.out.ok.all_len
      have h2 := HTX.out.ok.next_le
      have h3 := HTX.out.nx
      have h4 := HNX0.out
      have := rnext_any hM' gx.nums0 (by simp; omega)
      rwa [show gx.first + (gx.all ++ [p]).length = nx + 1 by simp; omega] at this
     have HG : Hid (∀ i, RAppPost w c l T s g p (.returned (.tuple #[.int .i64 (nx : Int), .int .i64 0])) ((Z6.setCell ⟨l, 4, none⟩ (.slice a6 (rl + 1) cap6)).drewN i)) := fun i =>
      rput_post HTX.out HE.out ((HA2.out.log P3.out P4.out (fun k hk => hk)).new (below_dn (Below.refl _ _) i)) (fun _ => rfl) (fun h => absurd rfl h) (fun _ => by rw [HNX0.out]) (fun h => absurd rfl h)
     have w1 : IntKind.i64.wrap (((nx + 1 : Nat) : Int) - 1) = (nx : Int) := by rw [IntWalk.i64_in _ (by omega)]; omega
     obtain ⟨N1, hN1⟩ : ∃ N1, nx + 1 = N1 := ⟨_, rfl⟩
     rw [hN1] at HN3 w1
     clear hN1
     go_wp2_with fail
     go_at_call 32
     refine (HN3.out).mono ?_
     rintro e w9 ⟨rfl, i9, rfl⟩
     go_wp2_with fail
     go_ret2
     exact HG.out i9
   · have hbE : (e == 0) = false := by simpa using h0
     have hbE' : (e != 0) = true := by simpa using h0
     have HG : Hid (RAppPost w c l T s g p (.returned (.tuple #[.int .i64 0, .int .i64 e])) Z2) := rput_post HTX.out HE.out HA2.out (fun h => absurd h h0) (fun _ => rfl) (fun h => absurd h h0) (fun _ => rfl)
     clear hM2 h0
     go_wp2_with fail
     go_ret2
     exact HG.out
 · have hfull' : rm ≤ (m : Int) := by omega
   have HFU : Hid (¬ ((dataS s g.lnm).length : Int) < g.room) := by show ¬ _; rw [HM0.out, HRM.out]; exact hfull
   have HSY := Lib.hid (rsyncL_any (by have := HB.out; omega) HOK.out (HLW.out.new HB3'.out) HK.out)
   go_wp2_with fail
   go_at_call 42
   refine (HSY.out).mono ?_
   rintro e Y4 ⟨rfl, q1, q2⟩
   have Q1 := Lib.hid q1
   have Q2 := Lib.hid q2
   clear q1 q2 HSY c2
   by_cases h0 : (syncL s g).e = 0
   · rw [h0]
     have H0 := Lib.hid h0
     have HTURN := Lib.hid (ref_roll HK.out (Int.not_lt.2 (by have := (Int.not_lt.2 (by have := HFU.out; omega)); omega)) h0)
     have hdir : (syncL s g).g.dir = g.dir := syncL_next.2.2.2.1
     have hnx2 : (syncL s g).g.next = g.next := syncL_next.1
     have hky : LOk (syncL s g).s (syncL s g).g := HK.out.sync
     have hdy : DOk (B + 1) (syncL s g).s := by rw [syncL_s]; exact HOK.out.sync
     obtain ⟨sy, hsy⟩ : ∃ sy, (syncL s g).s = sy := ⟨_, rfl⟩
     obtain ⟨gy, hgy⟩ : ∃ gy, (syncL s g).g = gy := ⟨_, rfl⟩
     rw [hsy, hgy] at HTURN Q1 hky
     rw [hsy] at hdy
     rw [hgy] at hdir hnx2
     have HKY := Lib.hid hky
     have HDY := Lib.hid hdy
     obtain ⟨Sd1, Sl1, hA1⟩ := Q1.out.open
     obtain ⟨nv1, av1, us1, hM1, hC1, _⟩ := hA1.lg
     obtain ⟨c0, c1, _, _, _, _, _, _, _⟩ := hM1.cells
     have HN1 : Hid (∀ W, (∃ k, W = Y4.drewN k) → Calls Tryz.prog 32 #[.pointer (some ⟨l, 0, none⟩)] W fun e w' => e = .returned (.int .i64 (nx : Nat)) ∧ ∃ n, w' = W.drewN n) := fun W hW => by
      have := (hM1.draws hW).nextN hky
      rwa [hnx2, HNX0.out] at this
     have HM1 := Lib.hid hM1
     have HC1 := Lib.hid hC1
     have HA1' := Lib.hid hA1
     have hd1 := hky.d1
     have hd2 := hky.d2
     obtain ⟨dir, hdr⟩ : ∃ dir, gy.dir = dir := ⟨_, rfl⟩
     rw [hdr] at c1 hd1 hd2
     have HDR := Lib.hid hdr
     have HD1 := Lib.hid hd1
     have HD2 := Lib.hid hd2
     have HNX1 : Hid (1 ≤ nx ∧ nx ≤ 99999999) := ⟨hnp, by omega⟩
     have HGYN : Hid (gy.next = nx) := by show _ = _; rw [hnx2, HNX0.out]
     clear h0 hsy hgy hky hdy hdir hnx2 hA1 hM1 hC1 hd1 hd2 hdr
     go_wp2_with fail
     refine wp_region_ht 11 (fun W => W.cell? ⟨l, 0, none⟩ = some (.pointer (some ⟨c, 0, none⟩)) ∧ W.cell? ⟨l, 1, none⟩ = some (.string (bs dir))) (by kernel_rfl) (by kernel_rfl) ?_ (fun hHeld => ?_)
     · exact ⟨c0, c1⟩
     try simp only [Act.put, List.setIfInBounds_toArray, List.set_cons_zero, List.set_cons_succ]
     refine wpHT_takeD (i := 0) (d := 46) (v := ?_) (by kernel_rfl) rfl rfl (by decide) (by kernel_rfl) (by kernel_rfl) (fun _ _ _ h => h) (Or.inl ⟨by kernel_rfl, ?_⟩) (by assumption) ?_
     rotate_left
     · intro w hSw; (try dsimp only at hSw); go_simp; (try with_reducible rfl)
     try simp only [Act.put, List.setIfInBounds_toArray, List.set_cons_zero, List.set_cons_succ]
     refine wpHT_takeD (i := 1) (d := 47) (v := ?_) (by kernel_rfl) rfl rfl (by decide) (by kernel_rfl) (by kernel_rfl) (fun _ _ _ h => h) (Or.inl ⟨by kernel_rfl, ?_⟩) (by assumption) ?_
     rotate_left
     · intro w hSw; (try dsimp only at hSw); go_simp; (try with_reducible rfl)
     try simp only [Act.put, List.setIfInBounds_toArray, List.set_cons_zero, List.set_cons_succ]
     refine wpHT_takeD (i := 2) (d := 48) (v := ?_) (by kernel_rfl) rfl rfl (by decide) (by kernel_rfl) (by kernel_rfl) (fun _ _ _ h => h) (Or.inl ⟨by kernel_rfl, ?_⟩) (by assumption) ?_
     rotate_left
     · intro w hSw; (try dsimp only at hSw); go_simp; (try with_reducible rfl)
     try simp only [Act.put, List.setIfInBounds_toArray, List.set_cons_zero, List.set_cons_succ]
     refine wpHT_takeD (i := 4) (d := 50) (v := ?_) (by kernel_rfl) rfl rfl (by decide) (by kernel_rfl) (by kernel_rfl) (fun _ _ _ h => h) (Or.inl ⟨by kernel_rfl, ?_⟩) (by assumption) ?_
     rotate_left
     · intro w hSw; (try dsimp only at hSw); go_simp; (try with_reducible rfl)
     try simp only [Act.put, List.setIfInBounds_toArray, List.set_cons_zero, List.set_cons_succ]
     refine wpHT_takeD (i := 3) (d := 49) (v := ?_) (by kernel_rfl) rfl rfl (by decide) (by kernel_rfl) (by kernel_rfl) (fun _ _ _ h => h) (Or.inl ⟨by kernel_rfl, ?_⟩) (by assumption) ?_
     rotate_left
     · intro w hSw; (try dsimp only at hSw); go_simp; (try with_reducible rfl)
     try simp only [Act.put, List.setIfInBounds_toArray, List.set_cons_zero, List.set_cons_succ]
     refine wpHT_one (i := 5) (by kernel_rfl) rfl (by decide) (fun K hK => ?_)
     go_simp
     go_at_call 32
     refine (HN1.out _ ⟨1, rfl⟩).mono ?_
     rintro e y5 ⟨rfl, i5, rfl⟩
     have hb5 : Below Y4.heap.size Y4 ((Y4.drewN 1).drewN i5) := below_dn (below_dn (Below.refl _ _) 1) i5
     obtain ⟨Y5, hY5⟩ : ∃ Y5, (Y4.drewN 1).drewN i5 = Y5 := ⟨_, rfl⟩
     rw [hY5] at hb5 ⊢
     clear hY5
     have HB5 := Lib.hid hb5
     have c0 := cell_below c0 hb5
     have c1 := cell_below c1 hb5
     clear hb5
     refine hK.out _ _ ?_ (fun hHeld => ?_)
     · exact ⟨c0, c1⟩
     clear hK K
     try simp only [Act.put, List.setIfInBounds_toArray, List.set_cons_zero, List.set_cons_succ]
     refine wpHT_one (i := 6) (by kernel_rfl) rfl (by decide) (fun K hK => ?_)
     go_simp
     go_at_call 64
     refine (rname7_ok dir nx HD1.out HD2.out HNX1.out.1 HNX1.out.2 _).mono ?_
     rintro e Y6 ⟨rfl, hb⟩
     have hb' := next_below HB5.out hb
     have HB6 := Lib.hid hb'
     have c0 := cell_below c0 hb
     have c1 := cell_below c1 hb
     clear hb hb'
     refine hK.out _ _ ?_ (fun hHeld => ?_)
     · exact ⟨c0, c1⟩
     clear hK K
     try simp only [Act.put, List.setIfInBounds_toArray, List.set_cons_zero, List.set_cons_succ]
     refine wpHT_takeD (i := 7) (d := 45) (v := ?_) (by kernel_rfl) rfl rfl (by decide) (by kernel_rfl) (by kernel_rfl) (fun _ _ _ h => h) (Or.inl ⟨by kernel_rfl, ?_⟩) (by assumption) ?_
     rotate_left
     · intro w hSw; (try dsimp only at hSw); go_simp; (try with_reducible rfl)
     try simp only [Act.put, List.setIfInBounds_toArray, List.set_cons_zero, List.set_cons_succ]
     refine wpHT_takeD (i := 8) (d := 53) (v := ?_) (by kernel_rfl) rfl rfl (by decide) (by kernel_rfl) (by kernel_rfl) (fun _ _ _ h => h) (Or.inl ⟨by kernel_rfl, ?_⟩) (by assumption) ?_
     rotate_left
     · intro w hSw; (try dsimp only at hSw); go_simp; (try with_reducible rfl)
     try simp only [Act.put, List.setIfInBounds_toArray, List.set_cons_zero, List.set_cons_succ]
     refine wpHT_takeD (i := 9) (d := 54) (v := ?_) (by kernel_rfl) rfl rfl (by decide) (by kernel_rfl) (by kernel_rfl) (fun _ _ _ h => h) (Or.inl ⟨by kernel_rfl, ?_⟩) (by assumption) ?_
     rotate_left
     · intro w hSw; (try dsimp only at hSw); go_simp; (try with_reducible rfl)
     try simp only [Act.put, List.setIfInBounds_toArray, List.set_cons_zero, List.set_cons_succ]
     refine wpHT_takeD (i := 10) (d := 10) (v := ?_) (by kernel_rfl) rfl rfl (by decide) (by kernel_rfl) (by kernel_rfl) (fun _ _ _ h => h) (Or.inl ⟨by kernel_rfl, ?_⟩) (by assumption) ?_
     rotate_left
     · intro w hSw; (try dsimp only at hSw); go_simp; (try with_reducible rfl)
     try simp only [Act.put, List.setIfInBounds_toArray, List.set_cons_zero, List.set_cons_succ]
     refine wpHT_done (by kernel_rfl) ?_
     simp only [List.drop_succ_cons, List.drop_zero]
     clear hHeld
     have HA6 := Lib.hid (HA1'.out.new HB6.out)
     go_wp2_with fail
     go_at_call 40
     refine (rcreate_any c Sd1 (B + 1) (by have := HB.out; omega) sy (segN dir nx) (by rw [segN_length]; have := HD2.out; omega) HDY.out Y6 HA6.out.dk).mono ?_
     rintro e Y7 ⟨rfl, k1, k2⟩
     have HA7 := Lib.hid (HA6.out.disk k1 k2)
     have hM7 := (HM1.out.new HB6.out).after HC1.out k2 (fun k hk hs => HA6.out.dj k hs hk)
     have HRF7 : Hid (Rd8 Y7 af (frameOf p).length cf (frameOf p)) := by
      have hy6 : Rd8 Y6 af (frameOf p).length cf (frameOf p) := (HRF3.out.keep0 Q2.out fun h0 b hb hs => by
       have h1 := HAF.out b hb
       have := HT0.out b hs
       omega).below HB6.out
      refine hy6.keep0 k2 fun h0 b hb hs => ?_
      have h1 := HAF.out b hb
      have h2 := HB3'.out.size
      rcases HA6.out.sd b hs with (e | e) | e
      · have := HT0.out b e; omega
      · have := HAF3.out b hb; omega
      · have h3 := HAF3.out b hb
        have h4 := Q2.out.size
        omega
     have HM7 := Lib.hid hM7
     clear k1 k2 c0 c1
     by_cases hc0 : (createS sy (segN dir nx)).2 = 0
     · rw [hc0]
       have hc0' : (createS sy (segN gy.dir nx)).2 = 0 := by rw [HDR.out]; exact hc0
       have HTR : Hid (turnL s g = ⟨(createS sy (segN dir nx)).1, { gy with pre := gy.pre ++ [gy.la], la := ⟨nx, []⟩ }, 0⟩) := by
        show _ = _
        rw [HTURN.out, HNX0.out, rollL_ok hc0', HDR.out]
       have HDC : Hid (DOk (B + 2) (createS sy (segN dir nx)).1) := by have := HDY.out.create (n := segN dir nx); exact this.mono (by omega)
       obtain ⟨sx, hsx⟩ : ∃ sx, (createS sy (segN dir nx)).1 = sx := ⟨_, rfl⟩
       rw [hsx] at HTR HDC HA7
       obtain ⟨_, _, _, c3, _, _, _, _, _⟩ := hM7.cells
       have hhn := hM7.hn
       obtain ⟨an, cn, hnv, _⟩ := hhn.rd
       have hgl : gy.nums.length ≤ 100000000 := by unfold LG.nums; rw [List.length_map]; exact HKY.out.len
       rw [hnv] at c3 hhn hM7
       have HNV := Lib.hid hnv
       have HHN := Lib.hid hhn
       have HMV := Lib.hid hM7
       have HN7 : Hid (∀ W, (∃ k, W = Y7.drewN k) → Calls Tryz.prog 32 #[.pointer (some ⟨l, 0, none⟩)] W fun e w' => e = .returned (.int .i64 (nx : Nat)) ∧ ∃ n, w' = W.drewN n) := fun W hW => by
        have := (hM7.draws hW).nextN HKY.out
        rwa [HGYN.out] at this
       obtain ⟨nl, hnl2⟩ : ∃ nl, gy.nums.length = nl := ⟨_, rfl⟩
       rw [hnl2] at c3 hgl HHN HMV HNV
       have HNL := Lib.hid hnl2
       clear hM7 hhn hnv hnl2 hc0' hc0 hsx
       go_wp2_with fail
       refine wp_region_ht 9 (fun W => W.cell? ⟨l, 3, none⟩ = some (.slice an nl cn)) (by kernel_rfl) (by kernel_rfl) ?_ (fun hHeld => ?_)
       · exact c3
       try simp only [Act.put, List.setIfInBounds_toArray, List.set_cons_zero, List.set_cons_succ]
       refine wpHT_takeD (i := 0) (d := 64) (v := ?_) (by kernel_rfl) rfl rfl (by decide) (by kernel_rfl) (by kernel_rfl) (fun _ _ _ h => h) (Or.inl ⟨by kernel_rfl, ?_⟩) (by assumption) ?_
       rotate_left
       · intro w hSw; (try dsimp only at hSw); go_simp; (try with_reducible rfl)
       try simp only [Act.put, List.setIfInBounds_toArray, List.set_cons_zero, List.set_cons_succ]
       refine wpHT_takeD (i := 1) (d := 65) (v := ?_) (by kernel_rfl) rfl rfl (by decide) (by kernel_rfl) (by kernel_rfl) (fun _ _ _ h => h) (Or.inl ⟨by kernel_rfl, ?_⟩) (by assumption) ?_
       rotate_left
       · intro w hSw; (try dsimp only at hSw); go_simp; (try with_reducible rfl)
       try simp only [Act.put, List.setIfInBounds_toArray, List.set_cons_zero, List.set_cons_succ]
       refine wpHT_takeD (i := 2) (d := 66) (v := ?_) (by kernel_rfl) rfl rfl (by decide) (by kernel_rfl) (by kernel_rfl) (fun _ _ _ h => h) (Or.inl ⟨by kernel_rfl, ?_⟩) (by assumption) ?_
       rotate_left
       · intro w hSw; (try dsimp only at hSw); go_simp; (try with_reducible rfl)
       try simp only [Act.put, List.setIfInBounds_toArray, List.set_cons_zero, List.set_cons_succ]
       refine wpHT_takeD (i := 3) (d := 67) (v := ?_) (by kernel_rfl) rfl rfl (by decide) (by kernel_rfl) (by kernel_rfl) (fun _ _ _ h => h) (Or.inl ⟨by kernel_rfl, ?_⟩) (by assumption) ?_
       rotate_left
       · intro w hSw; (try dsimp only at hSw); go_simp; (try with_reducible rfl)
       try simp only [Act.put, List.setIfInBounds_toArray, List.set_cons_zero, List.set_cons_succ]
       refine wpHT_takeD (i := 4) (d := 68) (v := ?_) (by kernel_rfl) rfl rfl (by decide) (by kernel_rfl) (by kernel_rfl) (fun _ _ _ h => h) (Or.inl ⟨by kernel_rfl, ?_⟩) (by assumption) ?_
       rotate_left
       · intro w hSw; (try dsimp only at hSw); go_simp; (try with_reducible rfl)
       try simp only [Act.put, List.setIfInBounds_toArray, List.set_cons_zero, List.set_cons_succ]
       refine wpHT_takeD (i := 5) (d := 69) (v := ?_) (by kernel_rfl) rfl rfl (by decide) (by kernel_rfl) (by kernel_rfl) (fun _ _ _ h => h) (Or.inl ⟨by kernel_rfl, ?_⟩) (by assumption) ?_
       rotate_left
       · intro w hSw; (try dsimp only at hSw); go_simp; (try with_reducible rfl)
       try simp only [Act.put, List.setIfInBounds_toArray, List.set_cons_zero, List.set_cons_succ]
       refine wpHT_one (i := 6) (by kernel_rfl) rfl (by decide) (fun K hK => ?_)
       go_simp
       go_at_call 32
       refine (HN7.out _ ⟨1, rfl⟩).mono ?_
       rintro e y8 ⟨rfl, i8, rfl⟩
       have hb8 : Below Y7.heap.size Y7 ((Y7.drewN 1).drewN i8) := below_dn (below_dn (Below.refl _ _) 1) i8
       obtain ⟨Y8, hY8⟩ : ∃ Y8, (Y7.drewN 1).drewN i8 = Y8 := ⟨_, rfl⟩
       rw [hY8] at hb8 ⊢
       clear hY8
       have HB8 := Lib.hid hb8
       have c3 := cell_below c3 hb8
       clear hb8
       refine hK.out _ _ ?_ (fun hHeld => ?_)
       · exact c3
       clear hK K
       try simp only [Act.put, List.setIfInBounds_toArray, List.set_cons_zero, List.set_cons_succ]
       refine wpHT_one (i := 7) (by kernel_rfl) rfl (by decide) (fun K hK => ?_)
       go_simp
       have c3 := cell_alloc_keep (w := Y8) (o := .cells #[.int .i64 (nx : Int)] 3) c3
       refine hK.out _ _ ?_ (fun hHeld => ?_)
       · exact c3
       clear hK K
       try simp only [Act.put, List.setIfInBounds_toArray, List.set_cons_zero, List.set_cons_succ]
       refine wpHT_one (i := 8) (by kernel_rfl) rfl (by decide) (fun K hK => ?_)
       refine step_appO SIntU rfl _ _ rfl rfl (HHN.out.new (HB8.out.alloc HB8.out.size _)) rfl (Rd.one _ _ _) (by simp [Value.oneCell']) (by omega) (by unfold maxLen; omega) ?_
       intro v9 Y9 hown9 hg9 hl9
       obtain ⟨a9, cap9, rfl, _⟩ := hown9.rd
       have hpt := HMV.out.pushN (HNV.out ▸ HC1.out) HA7.out.lt.2 (Y := Y8.alloc (.cells #[.int .i64 (nx : Int)] 3)) (HB8.out.alloc HB8.out.size _) hg9 (n := nx) (by rw [HNL.out]; exact hown9) hl9
       have hpt1 := hpt.1
       have HPT := Lib.hid hpt
       clear hown9 hg9 hl9 hpt
       refine hK.out _ _ ?_ (fun hHeld => ?_)
       · exact hpt1
       clear hK K
       try simp only [Act.put, List.setIfInBounds_toArray, List.set_cons_zero, List.set_cons_succ]
       refine wpHT_done (by kernel_rfl) ?_
       simp only [List.drop_succ_cons, List.drop_zero]
       clear hHeld
       obtain ⟨p1, p2, p3, p4⟩ := HPT.out
       have P3 := Lib.hid p3
       have P4 := Lib.hid p4
       have HRN : Hid (Rd8 (Y9.setCell ⟨l, 3, none⟩ (.slice a9 (nl + 1) cap9)) af (frameOf p).length cf (frameOf p)) := HRF7.out.keep0 P4.out fun h0 b hb hs => by
        have h1 := HAF.out b hb
        have h3 := HAF3.out b hb
        have h4 := Q2.out.size
        have h5 := HB3'.out.size
        rcases HA7.out.sl b hs with (e | e) | e
        · have := HT0.out b e; omega
        · omega
        · omega
       have HAX := Lib.hid (HA7.out.log P3.out P4.out (fun k hk => hk))
       clear p3 p4 HPT
       go_wp2_with fail
       clear p1 p2 c3
       obtain ⟨WX, hWX⟩ : ∃ WX, Y9.setCell ⟨l, 3, none⟩ (.slice a9 (nl + 1) cap9) = WX := ⟨_, rfl⟩
       rw [hWX] at HRN HAX ⊢
       clear P3 P4 hWX
       obtain ⟨gx, hgx⟩ : ∃ gx : LG, ({ gy with pre := gy.pre ++ [gy.la], la := ⟨nx, []⟩ } : LG) = gx := ⟨_, rfl⟩
       have HTX : Hid (RTurnAt (B + 2) w c l T s g p sx gx WX) := by
        have htr := HTR.out
        rw [hgx] at htr
        obtain ⟨m1, m2⟩ := roll_nums (g := gy) nx
        rw [hgx] at m1 m2
        have e1 : gx.dir = gy.dir := by rw [← hgx]
        have e2 : gx.room = gy.room := by rw [← hgx]
        have e3 : gx.sf = gy.sf := by rw [← hgx]
        have hax := HAX.out
        rw [← m1, ← m2, ← e1, ← e2, ← e3] at hax
        obtain ⟨f1, f2⟩ := hax.fin
        obtain ⟨g1, g2⟩ := RWS.trans Q2.out f1 f2 (fun k hk => Nat.lt_of_lt_of_le (HT0.out k hk) HB3'.out.size)
        obtain ⟨g3, g4⟩ := RWS.from HB3'.out HT0.out g1 g2
        have hlt := HK.out.turn (by have := HRANGE.out; omega)
        rw [htr] at hlt
        refine ⟨g3, g4, hlt.1, HDC.out, ?_, by have := hlt.2 rfl; exact this, HT0.out⟩
        rw [appL_put HLONG.out HRANGE.out (by rw [htr]), htr]
       have HRX := Lib.hid HRN.out
       clear hgx HTR HAX
       obtain ⟨Sd, Sl, hA⟩ := HTX.out.lw.open
       obtain ⟨nv, av, us, hM, hC, _⟩ := hA.lg
       obtain ⟨c0, _, _, _, _, _, _, _, _⟩ := hM.cells
       have HLX : Hid (∀ W, (∃ k, W = WX.drewN k) → Calls Tryz.prog 63 #[.pointer (some ⟨l, 0, none⟩)] W (NamePost W gx.lnm)) := fun W hW => (hM.draws hW).lastN HTX.out.ok
       have HA := Lib.hid hA
       have HM := Lib.hid hM
       have HC := Lib.hid hC
       have HPX : Hid (Rd8 WX ap np cp p) := HPR.out.keep0 HTX.out.fr HAP.out
       clear hA hM hC
       go_wp2_with fail
       refine wp_region_ht 7 (fun W => W.cell? ⟨l, 0, none⟩ = some (.pointer (some ⟨c, 0, none⟩))) (by kernel_rfl) (by kernel_rfl) ?_ (fun hHeld => ?_)
       · exact c0
       try simp only [Act.put, List.setIfInBounds_toArray, List.set_cons_zero, List.set_cons_succ]
       refine wpHT_takeD (i := 0) (d := 75) (v := ?_) (by kernel_rfl) rfl rfl (by decide) (by kernel_rfl) (by kernel_rfl) (fun _ _ _ h => h) (Or.inl ⟨by kernel_rfl, ?_⟩) (by assumption) ?_
       rotate_left
       · intro w hSw; (try dsimp only at hSw); go_simp; (try with_reducible rfl)
       try simp only [Act.put, List.setIfInBounds_toArray, List.set_cons_zero, List.set_cons_succ]
       refine wpHT_takeD (i := 1) (d := 76) (v := ?_) (by kernel_rfl) rfl rfl (by decide) (by kernel_rfl) (by kernel_rfl) (fun _ _ _ h => h) (Or.inl ⟨by kernel_rfl, ?_⟩) (by assumption) ?_
       rotate_left
       · intro w hSw; (try dsimp only at hSw); go_simp; (try with_reducible rfl)
       try simp only [Act.put, List.setIfInBounds_toArray, List.set_cons_zero, List.set_cons_succ]
       refine wpHT_takeD (i := 2) (d := 77) (v := ?_) (by kernel_rfl) rfl rfl (by decide) (by kernel_rfl) (by kernel_rfl) (fun _ _ _ h => h) (Or.inl ⟨by kernel_rfl, ?_⟩) (by assumption) ?_
       rotate_left
       · intro w hSw; (try dsimp only at hSw); go_simp; (try with_reducible rfl)
       try simp only [Act.put, List.setIfInBounds_toArray, List.set_cons_zero, List.set_cons_succ]
       refine wpHT_takeD (i := 3) (d := 78) (v := ?_) (by kernel_rfl) rfl rfl (by decide) (by kernel_rfl) (by kernel_rfl) (fun _ _ _ h => h) (Or.inl ⟨by kernel_rfl, ?_⟩) (by assumption) ?_
       rotate_left
       · intro w hSw; (try dsimp only at hSw); go_simp; (try with_reducible rfl)
       try simp only [Act.put, List.setIfInBounds_toArray, List.set_cons_zero, List.set_cons_succ]
       refine wpHT_takeD (i := 4) (d := 79) (v := ?_) (by kernel_rfl) rfl rfl (by decide) (by kernel_rfl) (by kernel_rfl) (fun _ _ _ h => h) (Or.inl ⟨by kernel_rfl, ?_⟩) (by assumption) ?_
       rotate_left
       · intro w hSw; (try dsimp only at hSw); go_simp; (try with_reducible rfl)
       try simp only [Act.put, List.setIfInBounds_toArray, List.set_cons_zero, List.set_cons_succ]
       refine wpHT_takeD (i := 6) (d := 81) (v := ?_) (by kernel_rfl) rfl rfl (by decide) (by kernel_rfl) (by kernel_rfl) (fun _ _ _ h => h) (Or.inl ⟨by kernel_rfl, ?_⟩) (by assumption) ?_
       rotate_left
       · intro w hSw; (try dsimp only at hSw); go_simp; (try with_reducible rfl)
       try simp only [Act.put, List.setIfInBounds_toArray, List.set_cons_zero, List.set_cons_succ]
       refine wpHT_one (i := 5) (by kernel_rfl) rfl (by decide) (fun K hK => ?_)
       go_simp
       go_at_call 63
       refine (HLX.out _ ⟨1, rfl⟩).mono ?_
       rintro e Z1 ⟨rfl, hb⟩
       have hb' : Below WX.heap.size WX Z1 := (Below.refl _ WX).drew.trans hb
       have HZ1 := Lib.hid hb'
       have c0 := cell_below c0 hb'
       clear hb hb'
       refine hK.out _ _ ?_ (fun hHeld => ?_)
       · exact c0
       clear hK K
       try simp only [Act.put, List.setIfInBounds_toArray, List.set_cons_zero, List.set_cons_succ]
       refine wpHT_done (by kernel_rfl) ?_
       simp only [List.drop_succ_cons, List.drop_zero]
       clear hHeld c0
       have HA1 := Lib.hid (HA.out.new HZ1.out)
       go_wp2_with fail
       go_at_call 77
       refine (rappend_any c Sd (B + 2) (by have := HB.out; omega) sx gx.lnm af _ cf (frameOf p) (by have := HFL.out; omega) HTX.out.dok Z1 HA1.out.dk (HRX.out.below HZ1.out)).mono ?_
       rintro e Z2 ⟨rfl, k1, k2⟩
       have HA2 := Lib.hid (HA1.out.disk k1 k2)
       have hM2 := (HM.out.new HZ1.out).after HC.out k2 (fun k hk hs => HA1.out.dj k hs hk)
       have hp2 : Rd8 Z2 ap np cp p := by
        refine (HPX.out.below HZ1.out).keep0 k2 fun h0 b hb hs => ?_
        rcases HA.out.sd b hs with (e | e) | e
        · exact HAP.out h0 b hb e
        · have := HAB.out h0 b hb; omega
        · have := HAB.out h0 b hb; have := HTX.out.fr.size; omega
       have HM2 := Lib.hid hM2
       have HP2 := Lib.hid hp2
       obtain ⟨e, he⟩ : ∃ e, (appendS sx gx.lnm (frameOf p)).2 = e := ⟨_, rfl⟩
       rw [he]
       have HE := Lib.hid he
       clear k1 k2 hp2 he
       by_cases h0 : e = 0
       · subst h0
         obtain ⟨_, _, _, _, c4, _, _, _, _⟩ := hM2.cells
         have hcl : gx.all.length ≤ 100349524 := by have h1 := HTX.out.ok.all_len; have h2 := HTX.out.ok.next_le; omega
         have hho := hM2.ha
         obtain ⟨aa, ca, hav, _⟩ := hho.rd
         rw [hav] at c4 hho hM2
         have HAV := Lib.hid hav
         have HHO := Lib.hid hho
         have HMV := Lib.hid hM2
         obtain ⟨rl, hrl⟩ : ∃ rl, gx.all.length = rl := ⟨_, rfl⟩
         rw [hrl] at c4 hcl HHO HMV HAV
         have HRL := Lib.hid hrl
         have hnp3 : np ≤ 140737488355328 := by have := HNP.out; have := HLONG.out; omega
         have HCP : Hid (∀ W, Below Z2.heap.size Z2 W → Calls Tryz.prog 26 #[.slice ap np cp] W (Made8 W p)) := fun W hW => copyBytes_any ap np cp p W (HP2.out.below hW) hnp3
         clear hM2 hho hav hrl hnp3
         go_wp2_with fail
         refine wp_region_ht 9 (fun W => W.cell? ⟨l, 4, none⟩ = some (.slice aa rl ca)) (by kernel_rfl) (by kernel_rfl) ?_ (fun hHeld => ?_)
         · exact c4
         try simp only [Act.put, List.setIfInBounds_toArray, List.set_cons_zero, List.set_cons_succ]
         refine wpHT_takeD (i := 0) (d := 86) (v := ?_) (by kernel_rfl) rfl rfl (by decide) (by kernel_rfl) (by kernel_rfl) (fun _ _ _ h => h) (Or.inl ⟨by kernel_rfl, ?_⟩) (by assumption) ?_
         rotate_left
         · intro w hSw; (try dsimp only at hSw); go_simp; (try with_reducible rfl)
         try simp only [Act.put, List.setIfInBounds_toArray, List.set_cons_zero, List.set_cons_succ]
         refine wpHT_takeD (i := 1) (d := 87) (v := ?_) (by kernel_rfl) rfl rfl (by decide) (by kernel_rfl) (by kernel_rfl) (fun _ _ _ h => h) (Or.inl ⟨by kernel_rfl, ?_⟩) (by assumption) ?_
         rotate_left
         · intro w hSw; (try dsimp only at hSw); go_simp; (try with_reducible rfl)
         try simp only [Act.put, List.setIfInBounds_toArray, List.set_cons_zero, List.set_cons_succ]
         refine wpHT_takeD (i := 2) (d := 88) (v := ?_) (by kernel_rfl) rfl rfl (by decide) (by kernel_rfl) (by kernel_rfl) (fun _ _ _ h => h) (Or.inl ⟨by kernel_rfl, ?_⟩) (by assumption) ?_
         rotate_left
         · intro w hSw; (try dsimp only at hSw); go_simp; (try with_reducible rfl)
         try simp only [Act.put, List.setIfInBounds_toArray, List.set_cons_zero, List.set_cons_succ]
         refine wpHT_takeD (i := 3) (d := 89) (v := ?_) (by kernel_rfl) rfl rfl (by decide) (by kernel_rfl) (by kernel_rfl) (fun _ _ _ h => h) (Or.inl ⟨by kernel_rfl, ?_⟩) (by assumption) ?_
         rotate_left
         · intro w hSw; (try dsimp only at hSw); go_simp; (try with_reducible rfl)
         try simp only [Act.put, List.setIfInBounds_toArray, List.set_cons_zero, List.set_cons_succ]
         refine wpHT_takeD (i := 4) (d := 90) (v := ?_) (by kernel_rfl) rfl rfl (by decide) (by kernel_rfl) (by kernel_rfl) (fun _ _ _ h => h) (Or.inl ⟨by kernel_rfl, ?_⟩) (by assumption) ?_
         rotate_left
         · intro w hSw; (try dsimp only at hSw); go_simp; (try with_reducible rfl)
         try simp only [Act.put, List.setIfInBounds_toArray, List.set_cons_zero, List.set_cons_succ]
         refine wpHT_takeD (i := 5) (d := 91) (v := ?_) (by kernel_rfl) rfl rfl (by decide) (by kernel_rfl) (by kernel_rfl) (fun _ _ _ h => h) (Or.inl ⟨by kernel_rfl, ?_⟩) (by assumption) ?_
         rotate_left
         · intro w hSw; (try dsimp only at hSw); go_simp; (try with_reducible rfl)
         try simp only [Act.put, List.setIfInBounds_toArray, List.set_cons_zero, List.set_cons_succ]
         refine wpHT_one (i := 6) (by kernel_rfl) rfl (by decide) (fun K hK => ?_)
         go_simp
         go_at_call 26
         refine (HCP.out _ (Below.refl _ Z2).drew).mono ?_
         rintro e Z3 ⟨u, rfl, hou, hbu⟩
         obtain ⟨au, cu, rfl, hru⟩ := hou.rd
         have hb' : Below Z2.heap.size Z2 Z3 := (Below.refl _ Z2).drew.trans hbu
         have HB3 := Lib.hid hb'
         have HOU := Lib.hid hou
         have c4 := cell_below c4 hb'
         clear hou hbu hru hb'
         refine hK.out _ _ ?_ (fun hHeld => ?_)
         · exact c4
         clear hK K
         try simp only [Act.put, List.setIfInBounds_toArray, List.set_cons_zero, List.set_cons_succ]
         refine wpHT_one (i := 7) (by kernel_rfl) rfl (by decide) (fun K hK => ?_)
         go_simp
         have c4 := cell_alloc_keep (w := Z3) (o := .cells #[.slice au p.length cu] 24) c4
         refine hK.out _ _ ?_ (fun hHeld => ?_)
         · exact c4
         clear hK K
         try simp only [Act.put, List.setIfInBounds_toArray, List.set_cons_zero, List.set_cons_succ]
         refine wpHT_one (i := 8) (by kernel_rfl) rfl (by decide) (fun K hK => ?_)
         refine step_appO S88 rfl _ _ rfl rfl (HHO.out.new (HB3.out.alloc HB3.out.size _)) rfl (Rd.one _ _ _) (by simp [Value.oneCell']) (by omega) (by unfold maxLen; omega) ?_
         intro v6 Z6 hown6 hg6 hl6
         obtain ⟨a6, cap6, rfl, _⟩ := hown6.rd
         have hpt := HMV.out.pushA (HAV.out ▸ HC.out) HA2.out.lt.2 (Y := Z3.alloc (.cells #[.slice au p.length cu] 24)) (ps := [p]) (vs := [.slice au p.length cu]) (HB3.out.alloc HB3.out.size _) hg6 (by rw [HRL.out]; exact hown6) (rec_new (HOU.out.alloc _) (fun k hk => HMV.out.blocks.2.2.1 k hk) hg6) (fun u hu k hk => by rw [List.mem_singleton] at hu; subst hu; exact (World.ownsRow.lt HOU.out k hk).1) hl6
         have hpt1 := hpt.1
         have HPT := Lib.hid hpt
         clear hown6 hg6 hl6 hpt
         refine hK.out _ _ ?_ (fun hHeld => ?_)
         · exact hpt1
         clear hK K
         try simp only [Act.put, List.setIfInBounds_toArray, List.set_cons_zero, List.set_cons_succ]
         refine wpHT_done (by kernel_rfl) ?_
         simp only [List.drop_succ_cons, List.drop_zero]
         clear hHeld
         obtain ⟨p1, p2, p3, p4⟩ := HPT.out
         have P3 := Lib.hid p3
         have P4 := Lib.hid p4
         clear p3 p4 HPT
         go_wp2_with fail
         have HN3 : Hid (Calls Tryz.prog 32 #[.pointer (some ⟨l, 0, none⟩)] (Z6.setCell ⟨l, 4, none⟩ (.slice a6 (rl + 1) cap6)) fun e w' => e = .returned (.int .i64 ((nx + 1 : Nat) : Int)) ∧ ∃ n, w' = (Z6.setCell ⟨l, 4, none⟩ (.slice a6 (rl + 1) cap6)).drewN n) := by
          obtain ⟨nv', av', us', hM', _⟩ := P3.out
          have h1 := HTX.out.ok.all_len
          have h2 := HTX.out.ok.next_le
          have h3 := HTX.out.nx
          have h4 := HNX0.out
          have := rnext_any hM' gx.nums0 (by simp; omega)
          rwa [show gx.first + (gx.all ++ [p]).length = nx + 1 by simp; omega] at this
         have HG : Hid (∀ i, RAppPost w c l T s g p (.returned (.tuple #[.int .i64 (nx : Int), .int .i64 0])) ((Z6.setCell ⟨l, 4, none⟩ (.slice a6 (rl + 1) cap6)).drewN i)) := fun i =>
          rput_post HTX.out HE.out ((HA2.out.log P3.out P4.out (fun k hk => hk)).new (below_dn (Below.refl _ _) i)) (fun _ => rfl) (fun h => absurd rfl h) (fun _ => by rw [HNX0.out]) (fun h => absurd rfl h)
         have w1 : IntKind.i64.wrap (((nx + 1 : Nat) : Int) - 1) = (nx : Int) := by rw [IntWalk.i64_in _ (by omega)]; omega
         obtain ⟨N1, hN1⟩ : ∃ N1, nx + 1 = N1 := ⟨_, rfl⟩
         rw [hN1] at HN3 w1
         clear hN1
         go_wp2_with fail
         go_at_call 32
         refine (HN3.out).mono ?_
         rintro e w9 ⟨rfl, i9, rfl⟩
         go_wp2_with fail
         go_ret2
         exact HG.out i9
       · have hbE : (e == 0) = false := by simpa using h0
         have hbE' : (e != 0) = true := by simpa using h0
         have HG : Hid (RAppPost w c l T s g p (.returned (.tuple #[.int .i64 0, .int .i64 e])) Z2) := rput_post HTX.out HE.out HA2.out (fun h => absurd h h0) (fun _ => rfl) (fun h => absurd h h0) (fun _ => rfl)
         clear hM2 h0
         go_wp2_with fail
         go_ret2
         exact HG.out
     · have hc0' : (createS sy (segN gy.dir nx)).2 ≠ 0 := by rw [HDR.out]; exact hc0
       have HG : Hid (RAppPost w c l T s g p (.returned (.tuple #[.int .i64 0, .int .i64 (createS sy (segN dir nx)).2])) Y7) := by
        have htr : turnL s g = ⟨(createS sy (segN dir nx)).1, gy, (createS sy (segN dir nx)).2⟩ := by rw [HTURN.out, HNX0.out, rollL_err hc0', HDR.out]
        obtain ⟨e1, e2⟩ := appL_turn (s := s) (g := g) HLONG.out HRANGE.out (by rw [htr]; exact hc0)
        rw [htr] at e1
        obtain ⟨f1, f2⟩ := RAt.fin (g := gy) HA7.out
        obtain ⟨g1, g2⟩ := RWS.trans Q2.out f1 f2 (fun k hk => Nat.lt_of_lt_of_le (HT0.out k hk) HB3'.out.size)
        obtain ⟨g3, g4⟩ := RWS.from HB3'.out HT0.out g1 g2
        refine ⟨by rw [e2, e1], ?_, g4⟩
        rw [e1]; exact g3
       have hbE : ((createS sy (segN dir nx)).2 == 0) = false := by simpa using hc0
       have hbE' : ((createS sy (segN dir nx)).2 != 0) = true := by simpa using hc0
       clear hM7 hc0 hc0'
       obtain ⟨e, he⟩ : ∃ e, (createS sy (segN dir nx)).2 = e := ⟨_, rfl⟩
       rw [he] at HG hbE hbE' ⊢
       clear he
       go_wp2_with fail
       go_ret2
       exact HG.out
   · have HG : Hid (RAppPost w c l T s g p (.returned (.tuple #[.int .i64 0, .int .i64 (syncL s g).e])) Y4) := by
      have e1 := ref_sync (p := p) HK.out HLONG.out HRANGE.out (Int.not_lt.2 (by have := (Int.not_lt.2 (by have := HFU.out; omega)); omega)) h0
      obtain ⟨g3, g4⟩ := RWS.from HB3'.out HT0.out Q1.out Q2.out
      refine ⟨?_, ?_, g4⟩
      · unfold appN; rw [e1, if_neg h0]
      · rw [e1]; exact g3
     have hbE : ((syncL s g).e == 0) = false := by simpa using h0
     have hbE' : ((syncL s g).e != 0) = true := by simpa using h0
     clear h0
     obtain ⟨e, he⟩ : ∃ e, (syncL s g).e = e := ⟨_, rfl⟩
     rw [he] at HG hbE hbE' ⊢
     clear he
     go_wp2_with fail
     go_ret2
     exact HG.out
end Go.Proofs.YtjjcilinghgphaaGreat

/-! ### The document's log: Trim. -/
namespace Go.Proofs.YtjjcilinghgphaaGreat
open Go.RowKit Go.Maps
set_option maxRecDepth 100000
attribute [local go_sem] bs_size bs_toList
theorem chain_suffix : ∀ {a b : List Sg}, ChainS (a ++ b) → ChainS b
 | [], _, h => h
 | [x], [], _ => trivial
 | [x], y :: r, h => h.2
 | x :: y :: a, b, h => chain_suffix (a := y :: a) h.2
/-- How far Trim is. -/
structure RTrimAt (w : World) (T : Nat → Prop) (c l : Nat) (B : Int) (s : DS) (g : LG) (below : Int) (k : Nat) (Sd Sl : Nat → Prop) (s' : DS) (pre : List Sg) (W : World) : Prop where
 len : pre.length = k
 sub : ∃ q, g.pre = q ++ pre
 at' : RAt w T c l Sd Sl s' g.dir g.room g.sf ((pre ++ [g.la]).map Sg.f) (allR (pre ++ [g.la])) W
 dok : DOk (B + g.pre.length - (k : Nat)) s'
 eq : trimP g.dir g.la below s g.pre = trimP g.dir g.la below s' pre
theorem RTrimAt.fin {w W : World} {T : Nat → Prop} {c l : Nat} {s s1 : DS} {g : LG} {below : Int} {Sd Sl : Nat → Prop} {pre : List Sg} {e : Int} (hA : RAt w T c l Sd Sl s1 g.dir g.room g.sf ((pre ++ [g.la]).map Sg.f) (allR (pre ++ [g.la])) W) (he : trimP g.dir g.la below s g.pre = (s1, pre, e)) :
 RLTold w c l T (trimL s g below) (.returned (.int .i64 e)) W := by
 have ht : trimL s g below = ⟨s1, { g with pre := pre }, e⟩ := by unfold trimL; rw [he]
 rw [ht]
 exact RAt.told (g := { g with pre := pre }) hA
set_option maxHeartbeats 4000000 in
theorem rtrimL_any {w : World} {c l : Nat} {T : Nat → Prop} {B : Int} {s : DS} {g : LG} (hB : B < 999000000000) (hok : DOk B s) (h : RWS w c l T s g) (hk : LOk s g) (below : Int) :
 Calls Tryz.prog 44 #[.pointer (some ⟨l, 0, none⟩), .int .i64 below] w (RLTold w c l T (trimL s g below)) := by
 obtain ⟨Sd, Sl, hA⟩ := h.open
 have hst : RTrimAt w T c l B s g below g.pre.length Sd Sl s g.pre w := ⟨rfl, ⟨[], rfl⟩, hA, hok.mono (by omega), rfl⟩
 have HK := Lib.hid hk
 have HPL := Lib.hid hk.pre_len
 have HST := Lib.hid hst
 clear h hk hA hst hok
 go_enter Tryz.func44, Tryz.ntmps44
 go_wp2_with fail
 go_loopg [5, 6, 7] g.pre.length (fun k _ _ _ wr => ∃ (Sd Sl : Nat → Prop) (s' : DS) (pre : List Sg), Hid (RTrimAt w T c l B s g below k Sd Sl s' pre wr))
 case atStart => exact ⟨Sd, Sl, s, g.pre, HST.out⟩
 case round =>
  clear HST
  obtain ⟨Sd, Sl, s', pre, HT⟩ := hrel
  obtain ⟨nv, av, us, hM, hC, hlt⟩ := HT.out.at'.lg
  obtain ⟨c0, c1, _, c3, c4, _, _, _, _⟩ := hM.cells
  have hpl := HPL.out
  cases pre with
  | nil =>
   obtain ⟨a, cap, rfl, _⟩ := hM.hn.rd
   have hll : (List.map Sg.f ([] ++ [g.la])).length = 1 := rfl
   rw [hll] at c3
   have HG : Hid (RLTold w c l T (trimL s g below) (.returned (.int .i64 0)) wr) := RTrimAt.fin HT.out.at' HT.out.eq
   clear hM hC hlt hll
   go_wp2_with fail
   go_ret
   exact HG.out
  | cons x r =>
   obtain ⟨yf, hyf⟩ : ∃ yf, (r.head?.getD g.la).f = yf := ⟨_, rfl⟩
   have hi0 : (List.map Sg.f ((x :: r) ++ [g.la]))[0]? = some x.f := rfl
   have hi1 : (List.map Sg.f ((x :: r) ++ [g.la]))[1]? = some yf := by
    rw [← hyf]
    cases r <;> rfl
   have hch : yf = x.f + x.rs.length := by
    obtain ⟨q, hq⟩ := HT.out.sub
    have h1 := HK.out.chain
    unfold LG.segs at h1
    rw [hq, List.append_assoc] at h1
    have h2 := chain_suffix h1
    rw [← hyf]
    cases r with
    | nil => exact h2.1
    | cons z r => exact h2.1
   have hxm : x ∈ g.pre := by obtain ⟨q, hq⟩ := HT.out.sub; rw [hq]; simp
   have hsx := HK.out.num x (by unfold LG.segs; exact List.mem_append_left _ hxm)
   have hf1 := hsx.f1
   have hf2 := hsx.f2
   have hxl := hsx.len
   have hd1 := HK.out.d1
   have hd2 := HK.out.d2
   have hall : allR ((x :: r) ++ [g.la]) = x.rs ++ allR (r ++ [g.la]) := allR_cons _ _
   obtain ⟨rr, off, cap, rfl, hp0⟩ := hM.num hi0
   obtain ⟨rr', off', cap', e1, hp1⟩ := hM.num hi1
   simp only [Value.slice.injEq, Option.some.injEq, Addr.mk.injEq] at e1
   obtain ⟨⟨rfl, rfl, -⟩, -, rfl⟩ := e1
   simp only [Nat.add_zero] at hp0
   obtain ⟨aa, ca, rfl, _⟩ := hM.ha.rd
   have hmx := hM.nlen
   have hrx := hM.rlen
   unfold maxLen at hmx hrx
   obtain ⟨n, hn⟩ : ∃ n, (List.map Sg.f ((x :: r) ++ [g.la])).length = n := ⟨_, rfl⟩
   have hn2 : 1 < n := by rw [← hn]; simp
   obtain ⟨rl, hrl⟩ : ∃ rl, (allR ((x :: r) ++ [g.la])).length = rl := ⟨_, rfl⟩
   have hrl2 : x.rs.length ≤ rl := by rw [← hrl, hall]; simp
   have hM' := hM
   have hC' := hC
   rw [hn] at c3 hmx hM' hC'
   rw [hrl] at c4 hrx hM' hC'
   obtain ⟨f, hf⟩ : ∃ f, x.f = f := ⟨_, rfl⟩
   obtain ⟨dir, hdir⟩ : ∃ dir, g.dir = dir := ⟨_, rfl⟩
   obtain ⟨k, hk⟩ : ∃ k, x.rs.length = k := ⟨_, rfl⟩
   rw [hf] at hp0 hf1 hf2 hch
   rw [hdir] at c1 hd1 hd2
   rw [hk] at hch hrl2 hxl
   have HN := Lib.hid hn
   have HRL := Lib.hid hrl
   have HM := Lib.hid hM'
   have HC := Lib.hid hC'
   have HF := Lib.hid hf
   have HYF := Lib.hid hyf
   have HDIR := Lib.hid hdir
   have HF1 := Lib.hid hf1
   have HF2 := Lib.hid hf2
   have HD1 := Lib.hid hd1
   have HD2 := Lib.hid hd2
   have HXL := Lib.hid hk
   have HALL := Lib.hid hall
   have wsub : IntKind.i64.wrap ((yf : Int) - (f : Int)) = (k : Int) := by rw [IntWalk.i64_in _ (by omega)]; omega
   have HLT := Lib.hid hlt
   clear hM hM' hC hC' hxm hsx hn hrl hf hyf hdir hk hlt hf1 hf2 hd1 hd2 hch hall hi0 hi1 hxl
   by_cases hle : (yf : Int) ≤ below
   · have d1 : decide ((yf : Int) ≤ below) = true := by simpa using hle
     have d2 : decide (1 < n) = true := by simpa using hn2
     go_wp2_with fail
     have hn0 : 0 < n := by omega
     refine wp_region_ht 15 (fun W => W.cell? ⟨l, 0, none⟩ = some (.pointer (some ⟨c, 0, none⟩)) ∧ W.cell? ⟨l, 1, none⟩ = some (.string (bs dir)) ∧ W.cell? ⟨l, 3, none⟩ = some (.slice (some ⟨rr, off, none⟩) n cap) ∧ W.cell? ⟨rr, off, none⟩ = some (.int .i64 (f : Int))) (by kernel_rfl) (by kernel_rfl) ?_ (fun hHeld => ?_)
     · exact ⟨c0, c1, c3, hp0⟩
     try simp only [Act.put, List.setIfInBounds_toArray, List.set_cons_zero, List.set_cons_succ]
     refine wpHT_takeD (i := 0) (d := 25) (v := ?_) (by kernel_rfl) rfl rfl (by decide) (by kernel_rfl) (by kernel_rfl) (fun _ _ _ h => h) (Or.inl ⟨by kernel_rfl, ?_⟩) (by assumption) ?_
     rotate_left
     · intro w hSw; (try dsimp only at hSw); go_simp; (try with_reducible rfl)
     try simp only [Act.put, List.setIfInBounds_toArray, List.set_cons_zero, List.set_cons_succ]
     refine wpHT_takeD (i := 1) (d := 26) (v := ?_) (by kernel_rfl) rfl rfl (by decide) (by kernel_rfl) (by kernel_rfl) (fun _ _ _ h => h) (Or.inl ⟨by kernel_rfl, ?_⟩) (by assumption) ?_
     rotate_left
     · intro w hSw; (try dsimp only at hSw); go_simp; (try with_reducible rfl)
     try simp only [Act.put, List.setIfInBounds_toArray, List.set_cons_zero, List.set_cons_succ]
     refine wpHT_takeD (i := 2) (d := 27) (v := ?_) (by kernel_rfl) rfl rfl (by decide) (by kernel_rfl) (by kernel_rfl) (fun _ _ _ h => h) (Or.inl ⟨by kernel_rfl, ?_⟩) (by assumption) ?_
     rotate_left
     · intro w hSw; (try dsimp only at hSw); go_simp; (try with_reducible rfl)
     try simp only [Act.put, List.setIfInBounds_toArray, List.set_cons_zero, List.set_cons_succ]
     refine wpHT_takeD (i := 3) (d := 28) (v := ?_) (by kernel_rfl) rfl rfl (by decide) (by kernel_rfl) (by kernel_rfl) (fun _ _ _ h => h) (Or.inl ⟨by kernel_rfl, ?_⟩) (by assumption) ?_
     rotate_left
     · intro w hSw; (try dsimp only at hSw); go_simp; (try with_reducible rfl)
     try simp only [Act.put, List.setIfInBounds_toArray, List.set_cons_zero, List.set_cons_succ]
     refine wpHT_takeD (i := 4) (d := 29) (v := ?_) (by kernel_rfl) rfl rfl (by decide) (by kernel_rfl) (by kernel_rfl) (fun _ _ _ h => h) (Or.inl ⟨by kernel_rfl, ?_⟩) (by assumption) ?_
     rotate_left
     · intro w hSw; (try dsimp only at hSw); go_simp; (try with_reducible rfl)
     try simp only [Act.put, List.setIfInBounds_toArray, List.set_cons_zero, List.set_cons_succ]
     refine wpHT_takeD (i := 5) (d := 30) (v := ?_) (by kernel_rfl) rfl rfl (by decide) (by kernel_rfl) (by kernel_rfl) (fun _ _ _ h => h) (Or.inl ⟨by kernel_rfl, ?_⟩) (by assumption) ?_
     rotate_left
     · intro w hSw; (try dsimp only at hSw); go_simp; (try with_reducible rfl)
     try simp only [Act.put, List.setIfInBounds_toArray, List.set_cons_zero, List.set_cons_succ]
     refine wpHT_takeD (i := 6) (d := 31) (v := ?_) (by kernel_rfl) rfl rfl (by decide) (by kernel_rfl) (by kernel_rfl) (fun _ _ _ h => h) (Or.inl ⟨by kernel_rfl, ?_⟩) (by assumption) ?_
     rotate_left
     · intro w hSw; (try dsimp only at hSw); go_simp; (try with_reducible rfl)
     try simp only [Act.put, List.setIfInBounds_toArray, List.set_cons_zero, List.set_cons_succ]
     refine wpHT_takeD (i := 7) (d := 32) (v := ?_) (by kernel_rfl) rfl rfl (by decide) (by kernel_rfl) (by kernel_rfl) (fun _ _ _ h => h) (Or.inl ⟨by kernel_rfl, ?_⟩) (by assumption) ?_
     rotate_left
     · intro w hSw; (try dsimp only at hSw); go_simp; (try with_reducible rfl)
     try simp only [Act.put, List.setIfInBounds_toArray, List.set_cons_zero, List.set_cons_succ]
     refine wpHT_takeD (i := 8) (d := 33) (v := ?_) (by kernel_rfl) rfl rfl (by decide) (by kernel_rfl) (by kernel_rfl) (fun _ _ _ h => h) (Or.inl ⟨by kernel_rfl, ?_⟩) (by assumption) ?_
     rotate_left
     · intro w hSw; (try dsimp only at hSw); go_simp; (try with_reducible rfl)
     try simp only [Act.put, List.setIfInBounds_toArray, List.set_cons_zero, List.set_cons_succ]
     refine wpHT_takeD (i := 9) (d := 34) (v := ?_) (by kernel_rfl) rfl rfl (by decide) (by kernel_rfl) (by kernel_rfl) (fun _ _ _ h => h) (Or.inl ⟨by kernel_rfl, ?_⟩) (by assumption) ?_
     rotate_left
     · intro w hSw; (try dsimp only at hSw); go_simp; (try with_reducible rfl)
     try simp only [Act.put, List.setIfInBounds_toArray, List.set_cons_zero, List.set_cons_succ]
     refine wpHT_one (i := 10) (by kernel_rfl) rfl (by decide) (fun K hK => ?_)
     go_simp
     go_at_call 64
     refine (rname7_ok dir f HD1.out HD2.out HF1.out HF2.out _).mono ?_
     rintro e w2 ⟨rfl, hb⟩
     have hb' : Below wr.heap.size wr w2 := (Below.refl _ wr).drew.trans hb
     have HB2 := Lib.hid hb'
     have c0 := cell_below c0 hb'
     have c1 := cell_below c1 hb'
     have c3 := cell_below c3 hb'
     have hp0 := cell_below hp0 hb'
     clear hb hb'
     refine hK.out _ _ ?_ (fun hHeld => ?_)
     · exact ⟨c0, c1, c3, hp0⟩
     clear hK K
     try simp only [Act.put, List.setIfInBounds_toArray, List.set_cons_zero, List.set_cons_succ]
     refine wpHT_takeD (i := 11) (d := 24) (v := ?_) (by kernel_rfl) rfl rfl (by decide) (by kernel_rfl) (by kernel_rfl) (fun _ _ _ h => h) (Or.inl ⟨by kernel_rfl, ?_⟩) (by assumption) ?_
     rotate_left
     · intro w hSw; (try dsimp only at hSw); go_simp; (try with_reducible rfl)
     try simp only [Act.put, List.setIfInBounds_toArray, List.set_cons_zero, List.set_cons_succ]
     refine wpHT_takeD (i := 12) (d := 36) (v := ?_) (by kernel_rfl) rfl rfl (by decide) (by kernel_rfl) (by kernel_rfl) (fun _ _ _ h => h) (Or.inl ⟨by kernel_rfl, ?_⟩) (by assumption) ?_
     rotate_left
     · intro w hSw; (try dsimp only at hSw); go_simp; (try with_reducible rfl)
     try simp only [Act.put, List.setIfInBounds_toArray, List.set_cons_zero, List.set_cons_succ]
     refine wpHT_takeD (i := 13) (d := 37) (v := ?_) (by kernel_rfl) rfl rfl (by decide) (by kernel_rfl) (by kernel_rfl) (fun _ _ _ h => h) (Or.inl ⟨by kernel_rfl, ?_⟩) (by assumption) ?_
     rotate_left
     · intro w hSw; (try dsimp only at hSw); go_simp; (try with_reducible rfl)
     try simp only [Act.put, List.setIfInBounds_toArray, List.set_cons_zero, List.set_cons_succ]
     refine wpHT_takeD (i := 14) (d := 5) (v := ?_) (by kernel_rfl) rfl rfl (by decide) (by kernel_rfl) (by kernel_rfl) (fun _ _ _ h => h) (Or.inl ⟨by kernel_rfl, ?_⟩) (by assumption) ?_
     rotate_left
     · intro w hSw; (try dsimp only at hSw); go_simp; (try with_reducible rfl)
     try simp only [Act.put, List.setIfInBounds_toArray, List.set_cons_zero, List.set_cons_succ]
     refine wpHT_done (by kernel_rfl) ?_
     simp only [List.drop_succ_cons, List.drop_zero]
     clear hHeld
     have HA2 := Lib.hid (HT.out.at'.new HB2.out)
     have hk1 := HT.out.len
     rw [List.length_cons] at hk1
     go_wp2_with fail
     go_at_call 80
     refine (rremove_any c Sd (B + g.pre.length - (gk : Nat)) (by have := HPL.out; omega) s' (segN dir f) HT.out.dok w2 HA2.out.dk).mono ?_
     rintro e w3 ⟨rfl, k1, k2⟩
     have HA3 := Lib.hid (HA2.out.disk k1 k2)
     have hM3 := (HM.out.new HB2.out).after HC.out k2 (fun k hk hs => HA2.out.dj k hs hk)
     have HM3 := Lib.hid hM3
     clear k1 k2 c0 c1 c3 c4 hp0 hp1
     by_cases h0 : (removeS s' (segN dir f)).2 = 0
     · rw [h0]
       have htn : trimP g.dir g.la below s g.pre = trimP g.dir g.la below (removeS s' (segN dir f)).1 r := by
        rw [HT.out.eq, trimP_next (by rw [HYF.out]; exact hle) (by rw [HDIR.out, HF.out]; exact h0), HDIR.out, HF.out]
       have HTN := Lib.hid htn
       have hMd := hM3.new (Below.refl _ w3).drew
       have HAd := Lib.hid (HA3.out.new (Below.refl _ w3).drew)
       have HDK : Hid (DOk (B + g.pre.length - (r.length : Nat)) (removeS s' (segN dir f)).1) := by have := HT.out.dok.remove (n := segN dir f); exact this.mono (by omega)
       obtain ⟨_, _, _, c3, c4, _, _, f4, _⟩ := hMd.cells
       obtain ⟨_, _, _, e2, hp0⟩ := hMd.num (i := 0) (n := f) (by rw [← HF.out]; rfl)
       simp only [Value.slice.injEq, Option.some.injEq, Addr.mk.injEq] at e2
       obtain ⟨⟨rfl, rfl, -⟩, -, -⟩ := e2
       obtain ⟨_, _, _, e3, hp1⟩ := hMd.num (i := 1) (n := yf) (by rw [← HYF.out]; cases r <;> rfl)
       simp only [Value.slice.injEq, Option.some.injEq, Addr.mk.injEq] at e3
       obtain ⟨⟨rfl, rfl, -⟩, -, -⟩ := e3
       simp only [Nat.add_zero] at hp0
       have hsa := hMd.ha
       rw [HRL.out] at hsa
       obtain ⟨v1, hrun1, ho1, hbk1⟩ := run_sliceO S88 hsa k hrl2
       obtain ⟨a1, cap1, rfl, _⟩ := ho1.rd
       have hrun1' : ∀ w', (Instr.slice 57 (.slice aa rl ca) (some (.int .i64 (k : Int))) none none).run Tryz.prog w' = .ok (.slice a1 (rl - k) cap1) w' := hrun1
       have hset1 := hMd.setA (v := .slice a1 (rl - k) cap1) (us' := us.drop k) (rs' := allR (r ++ [g.la])) (by
        have e : (allR (r ++ [g.la])).length = rl - k := by have h1 := HRL.out; rw [HALL.out, List.length_append, HXL.out] at h1; omega
        rw [e]; exact ho1) (by
        have e : allR (r ++ [g.la]) = (allR ((x :: r) ++ [g.la])).drop k := by rw [HALL.out, ← HXL.out, List.drop_left]
        rw [e]; exact hMd.each.drop k)
       obtain ⟨_, _, _, g3, _, _, gf3, _, _⟩ := hset1.cells
       have hsn := hset1.hn
       rw [HN.out] at hsn
       obtain ⟨v2, hrun2, ho2, hbk2⟩ := run_sliceO SIntU hsn 1 (by omega)
       obtain ⟨a2, cap2, rfl, _⟩ := ho2.rd
       have hrun2' : ∀ w', (Instr.slice 46 (.slice (some ⟨rr, off, none⟩) n cap) (some (.int .i64 1)) none none).run Tryz.prog w' = .ok (.slice a2 (n - 1) cap2) w' := hrun2
       have hset2 := hset1.setN (v := .slice a2 (n - 1) cap2) (fs' := (r ++ [g.la]).map Sg.f) (by
        have e : ((r ++ [g.la]).map Sg.f).length = n - 1 := by have h1 := HN.out; simp at h1 ⊢; omega
        rw [e]; simpa using ho2)
       have hcov : CovR Sl l (.slice a2 (n - 1) cap2) (.slice a1 (rl - k) cap1) (us.drop k) :=
        ⟨HC.out.cl, fun q hq => HC.out.cn q (by rw [← hbk2]; exact hq), fun q hq => HC.out.ca q (by rw [← hbk1]; exact hq), fun u hu => HC.out.cu u (List.mem_of_mem_drop hu)⟩
       have hfrl : Fr Sl w3.drew ((w3.drew.setCell ⟨l, 4, none⟩ (.slice a1 (rl - k) cap1)).setCell ⟨l, 3, none⟩ (.slice a2 (n - 1) cap2)) :=
        ((Fr.refl Sl w3.drew).setCell (p := ⟨l, 4, none⟩) (fun _ => HC.out.cl) _).setCell (p := ⟨l, 3, none⟩) (fun _ => HC.out.cl) _
       have hA4 := HAd.out.log (Sl' := Sl) ⟨_, _, _, hset2, hcov, fun q hq => Nat.lt_of_lt_of_le (HAd.out.lt.2 q hq) hfrl.size⟩ hfrl (fun q hq => .inl hq)
       have HA4 := Lib.hid hA4
       clear hM3 hMd h0 htn hsa hrun1 ho1 hbk1 hset1 hsn hrun2 ho2 hbk2 hset2 hcov hfrl hA4 d1 d2
       go_wp2_with fail
       refine wp_region_ht 19 (fun W => W.cell? ⟨l, 3, none⟩ = some (.slice (some ⟨rr, off, none⟩) n cap) ∧ W.cell? ⟨l, 4, none⟩ = some (.slice aa rl ca) ∧ W.cell? ⟨rr, off, none⟩ = some (.int .i64 (f : Int)) ∧ W.cell? ⟨rr, off + 1, none⟩ = some (.int .i64 (yf : Int))) (by kernel_rfl) (by kernel_rfl) ?_ (fun hHeld => ?_)
       · exact ⟨c3, c4, hp0, hp1⟩
       try simp only [Act.put, List.setIfInBounds_toArray, List.set_cons_zero, List.set_cons_succ]
       refine wpHT_takeD (i := 0) (d := 47) (v := ?_) (by kernel_rfl) rfl rfl (by decide) (by kernel_rfl) (by kernel_rfl) (fun _ _ _ h => h) (Or.inl ⟨by kernel_rfl, ?_⟩) (by assumption) ?_
       rotate_left
       · intro w hSw; (try dsimp only at hSw); go_simp; (try with_reducible rfl)
       try simp only [Act.put, List.setIfInBounds_toArray, List.set_cons_zero, List.set_cons_succ]
       refine wpHT_takeD (i := 1) (d := 48) (v := ?_) (by kernel_rfl) rfl rfl (by decide) (by kernel_rfl) (by kernel_rfl) (fun _ _ _ h => h) (Or.inl ⟨by kernel_rfl, ?_⟩) (by assumption) ?_
       rotate_left
       · intro w hSw; (try dsimp only at hSw); go_simp; (try with_reducible rfl)
       try simp only [Act.put, List.setIfInBounds_toArray, List.set_cons_zero, List.set_cons_succ]
       refine wpHT_takeD (i := 2) (d := 49) (v := ?_) (by kernel_rfl) rfl rfl (by decide) (by kernel_rfl) (by kernel_rfl) (fun _ _ _ h => h) (Or.inl ⟨by kernel_rfl, ?_⟩) (by assumption) ?_
       rotate_left
       · intro w hSw; (try dsimp only at hSw); go_simp; (try with_reducible rfl)
       try simp only [Act.put, List.setIfInBounds_toArray, List.set_cons_zero, List.set_cons_succ]
       refine wpHT_takeD (i := 3) (d := 50) (v := ?_) (by kernel_rfl) rfl rfl (by decide) (by kernel_rfl) (by kernel_rfl) (fun _ _ _ h => h) (Or.inl ⟨by kernel_rfl, ?_⟩) (by assumption) ?_
       rotate_left
       · intro w hSw; (try dsimp only at hSw); go_simp; (try with_reducible rfl)
       try simp only [Act.put, List.setIfInBounds_toArray, List.set_cons_zero, List.set_cons_succ]
       refine wpHT_takeD (i := 4) (d := 51) (v := ?_) (by kernel_rfl) rfl rfl (by decide) (by kernel_rfl) (by kernel_rfl) (fun _ _ _ h => h) (Or.inl ⟨by kernel_rfl, ?_⟩) (by assumption) ?_
       rotate_left
       · intro w hSw; (try dsimp only at hSw); go_simp; (try with_reducible rfl)
       try simp only [Act.put, List.setIfInBounds_toArray, List.set_cons_zero, List.set_cons_succ]
       refine wpHT_takeD (i := 5) (d := 52) (v := ?_) (by kernel_rfl) rfl rfl (by decide) (by kernel_rfl) (by kernel_rfl) (fun _ _ _ h => h) (Or.inl ⟨by kernel_rfl, ?_⟩) (by assumption) ?_
       rotate_left
       · intro w hSw; (try dsimp only at hSw); go_simp; (try with_reducible rfl)
       try simp only [Act.put, List.setIfInBounds_toArray, List.set_cons_zero, List.set_cons_succ]
       refine wpHT_takeD (i := 6) (d := 53) (v := ?_) (by kernel_rfl) rfl rfl (by decide) (by kernel_rfl) (by kernel_rfl) (fun _ _ _ h => h) (Or.inl ⟨by kernel_rfl, ?_⟩) (by assumption) ?_
       rotate_left
       · intro w hSw; (try dsimp only at hSw); go_simp; (try with_reducible rfl)
       try simp only [Act.put, List.setIfInBounds_toArray, List.set_cons_zero, List.set_cons_succ]
       refine wpHT_takeD (i := 7) (d := 54) (v := ?_) (by kernel_rfl) rfl rfl (by decide) (by kernel_rfl) (by kernel_rfl) (fun _ _ _ h => h) (Or.inl ⟨by kernel_rfl, ?_⟩) (by assumption) ?_
       rotate_left
       · intro w hSw; (try dsimp only at hSw); go_simp; (try with_reducible rfl)
       try simp only [Act.put, List.setIfInBounds_toArray, List.set_cons_zero, List.set_cons_succ]
       refine wpHT_takeD (i := 8) (d := 55) (v := ?_) (by kernel_rfl) rfl rfl (by decide) (by kernel_rfl) (by kernel_rfl) (fun _ _ _ h => h) (Or.inl ⟨by kernel_rfl, ?_⟩) (by assumption) ?_
       rotate_left
       · intro w hSw; (try dsimp only at hSw); go_simp; (try with_reducible rfl)
       try simp only [Act.put, List.setIfInBounds_toArray, List.set_cons_zero, List.set_cons_succ]
       refine wpHT_takeD (i := 9) (d := 56) (v := ?_) (by kernel_rfl) rfl rfl (by decide) (by kernel_rfl) (by kernel_rfl) (fun _ _ _ h => h) (Or.inl ⟨by kernel_rfl, ?_⟩) (by assumption) ?_
       rotate_left
       · intro w hSw; (try dsimp only at hSw); go_simp; (try with_reducible rfl)
       try simp only [Act.put, List.setIfInBounds_toArray, List.set_cons_zero, List.set_cons_succ]
       refine wpHT_takeD (i := 10) (d := 57) (v := ?_) (by kernel_rfl) rfl rfl (by decide) (by kernel_rfl) (by kernel_rfl) (fun _ _ _ h => h) (Or.inl ⟨by kernel_rfl, ?_⟩) (by assumption) ?_
       rotate_left
       · intro w hSw; (try dsimp only at hSw); go_simp; (try with_reducible rfl)
       try simp only [Act.put, List.setIfInBounds_toArray, List.set_cons_zero, List.set_cons_succ]
       refine wpHT_takeD (i := 11) (d := 58) (v := ?_) (by kernel_rfl) rfl rfl (by decide) (by kernel_rfl) (by kernel_rfl) (fun _ _ _ h => h) (Or.inl ⟨by kernel_rfl, ?_⟩) (by assumption) ?_
       rotate_left
       · intro w hSw; (try dsimp only at hSw); go_simp; (try with_reducible rfl)
       try simp only [Act.put, List.setIfInBounds_toArray, List.set_cons_zero, List.set_cons_succ]
       refine wpHT_takeD (i := 12) (d := 59) (v := ?_) (by kernel_rfl) rfl rfl (by decide) (by kernel_rfl) (by kernel_rfl) (fun _ _ _ h => h) (Or.inl ⟨by kernel_rfl, ?_⟩) (by assumption) ?_
       rotate_left
       · intro w hSw; (try dsimp only at hSw); go_simp; (try with_reducible rfl)
       try simp only [Act.put, List.setIfInBounds_toArray, List.set_cons_zero, List.set_cons_succ]
       refine wpHT_takeD (i := 13) (d := 60) (v := ?_) (by kernel_rfl) rfl rfl (by decide) (by kernel_rfl) (by kernel_rfl) (fun _ _ _ h => h) (Or.inl ⟨by kernel_rfl, ?_⟩) (by assumption) ?_
       rotate_left
       · intro w hSw; (try dsimp only at hSw); go_simp; (try with_reducible rfl)
       try simp only [Act.put, List.setIfInBounds_toArray, List.set_cons_zero, List.set_cons_succ]
       refine wpHT_takeD (i := 14) (d := 61) (v := ?_) (by kernel_rfl) rfl rfl (by decide) (by kernel_rfl) (by kernel_rfl) (fun _ _ _ h => h) (Or.inl ⟨by kernel_rfl, ?_⟩) (by assumption) ?_
       rotate_left
       · intro w hSw; (try dsimp only at hSw); go_simp; (try with_reducible rfl)
       try simp only [Act.put, List.setIfInBounds_toArray, List.set_cons_zero, List.set_cons_succ]
       refine wpHT_takeD (i := 15) (d := 62) (v := ?_) (by kernel_rfl) rfl rfl (by decide) (by kernel_rfl) (by kernel_rfl) (fun _ _ _ h => h) (Or.inl ⟨by kernel_rfl, ?_⟩) (by assumption) ?_
       rotate_left
       · intro w hSw; (try dsimp only at hSw); go_simp; (try with_reducible rfl)
       try simp only [Act.put, List.setIfInBounds_toArray, List.set_cons_zero, List.set_cons_succ]
       refine wpHT_takeD (i := 16) (d := 63) (v := ?_) (by kernel_rfl) rfl rfl (by decide) (by kernel_rfl) (by kernel_rfl) (fun _ _ _ h => h) (Or.inl ⟨by kernel_rfl, ?_⟩) (by assumption) ?_
       rotate_left
       · intro w hSw; (try dsimp only at hSw); go_simp; (try with_reducible rfl)
       try simp only [Act.put, List.setIfInBounds_toArray, List.set_cons_zero, List.set_cons_succ]
       refine wpHT_takeD (i := 17) (d := 64) (v := ?_) (by kernel_rfl) rfl rfl (by decide) (by kernel_rfl) (by kernel_rfl) (fun _ _ _ h => h) (Or.inl ⟨by kernel_rfl, ?_⟩) (by assumption) ?_
       rotate_left
       · intro w hSw; (try dsimp only at hSw); go_simp; (try with_reducible rfl)
       try simp only [Act.put, List.setIfInBounds_toArray, List.set_cons_zero, List.set_cons_succ]
       refine wpHT_takeD (i := 18) (d := 65) (v := ?_) (by kernel_rfl) rfl rfl (by decide) (by kernel_rfl) (by kernel_rfl) (fun _ _ _ h => h) (Or.inl ⟨by kernel_rfl, ?_⟩) (by assumption) ?_
       rotate_left
       · intro w hSw; (try dsimp only at hSw); go_simp; (try with_reducible rfl)
       try simp only [Act.put, List.setIfInBounds_toArray, List.set_cons_zero, List.set_cons_succ]
       refine wpHT_done (by kernel_rfl) ?_
       simp only [List.drop_succ_cons, List.drop_zero]
       clear hHeld
       obtain ⟨wd, hwd⟩ : ∃ wd, w3.drew = wd := ⟨_, rfl⟩
       rw [hwd] at c3 c4 hp0 hp1 f4 g3 gf3 HA4 ⊢
       clear hwd
       go_wp2_with fail
       go_roundg r.length
       case measure => omega
       case rel => exact ⟨_, Sl, _, r, ⟨rfl, by obtain ⟨q, hq⟩ := HT.out.sub; exact ⟨q ++ [x], by rw [hq]; simp⟩, HA4.out, HDK.out, HTN.out⟩⟩
     · have htn : trimP g.dir g.la below s g.pre = ((removeS s' (segN dir f)).1, x :: r, (removeS s' (segN dir f)).2) := by
        rw [HT.out.eq, trimP_err (by rw [HYF.out]; exact hle) (by rw [HDIR.out, HF.out]; exact h0), HDIR.out, HF.out]
       have HG : Hid (RLTold w c l T (trimL s g below) (.returned (.int .i64 (removeS s' (segN dir f)).2)) w3) := RTrimAt.fin HA3.out htn
       have hbE : ((removeS s' (segN dir f)).2 != 0) = true := by simpa using h0
       clear hM3 h0 htn d1 d2
       obtain ⟨e, he⟩ : ∃ e, (removeS s' (segN dir f)).2 = e := ⟨_, rfl⟩
       rw [he] at HG hbE ⊢
       clear he
       go_wp2_with fail
       go_ret
       exact HG.out
   · have HG : Hid (RLTold w c l T (trimL s g below) (.returned (.int .i64 0)) wr) := RTrimAt.fin HT.out.at' (by rw [HT.out.eq, trimP_stop (by rw [HYF.out]; exact hle)])
     have d1 : decide ((yf : Int) ≤ below) = false := by simpa using hle
     have d2 : decide (1 < n) = true := by simpa using hn2
     go_wp2_with fail
     go_ret
     exact HG.out
end Go.Proofs.YtjjcilinghgphaaGreat
