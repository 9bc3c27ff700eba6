/-
 A log's Append.
 A log's Trim.
 The number of a file's name (wal.number).
-/
import Derived.Test.YtjjcilinghgphaaGreatVB
import Derived.Test.YtjjcilinghgphaaGreatE20
import Derived.Test.YtjjcilinghgphaaGreatEY
import Derived.Deep.LoopGhost
import Derived.Laws.IdiomStrings
/-! ### A log's Append. -/
namespace Go.Proofs.YtjjcilinghgphaaGreat
open Go.RowKit Go.Maps
set_option maxRecDepth 100000
attribute [local go_sem] bs_size bs_toList
/-- What stands ahead of the record's frame. -/
structure TurnAt (B : Int) (w : World) (d l : Nat) (T : Nat → Prop) (s : DS) (g : LG) (sx : DS) (gx : LG) (W : World) : Prop where
 lw : LWS (B + 2) W d l (Sx T w W) sx gx
 fr : Fr T w W
 ok : LOk sx gx
 tn : turnL s g = ⟨sx, gx, 0⟩
 t0 : ∀ k, T k → k < w.heap.size
theorem putL_post {B : Int} {w wx W : World} {d l : Nat} {T Sd Sl : Nat → Prop} {s sx : DS} {g gx : LG} {p : List UInt8} (h : TurnAt B w d l T s g sx gx wx) (h1 : ¬ 262144 < p.length) (h2 : ¬ 99999999 < g.next) {gs : List Sg} {e : Int} (he : (appendS sx gx.lnm (frameOf p)).2 = e)
 (hA : LAt wx (Sx T w wx) d l (B + 3) Sd Sl (appendS sx gx.lnm (frameOf p)).1 gx.dir gx.room gx.sf gs W) (h3 : e = 0 → gs = gx.pre ++ [⟨gx.la.f, gx.la.rs ++ [p]⟩]) (h4 : e ≠ 0 → gs = gx.segs) {n : Int} (h5 : e = 0 → n = (g.next : Nat)) (h6 : e ≠ 0 → n = 0) :
 AppPost (B + 3) w d l T s g p (.returned (.tuple #[.int .i64 n, .int .i64 e])) W := by
 have hap := appL_put h1 h2 (s := s) (g := g) (by rw [h.tn])
 rw [h.tn] at hap
 by_cases h0 : e = 0
 · have hp : putL sx gx p = ⟨(appendS sx gx.lnm (frameOf p)).1, { gx with la := ⟨gx.la.f, gx.la.rs ++ [p]⟩ }, 0⟩ := by unfold putL; rw [if_pos (he.trans h0)]
   have hap' := hap.trans hp
   unfold AppPost appN
   rw [hap']
   obtain ⟨q1, q2⟩ := LAt.fin (g := { gx with la := ⟨gx.la.f, gx.la.rs ++ [p]⟩ }) (by rw [h3 h0] at hA; exact hA)
   obtain ⟨r1, r2⟩ := LWS.trans h.fr q1 q2 h.t0
   refine ⟨?_, r1, r2⟩
   rw [h0, h5 h0, if_pos rfl]
 · have hp : putL sx gx p = ⟨(appendS sx gx.lnm (frameOf p)).1, gx, e⟩ := by unfold putL; rw [if_neg (fun e' => h0 (he.symm.trans e')), he]
   have hap' := hap.trans hp
   unfold AppPost appN
   rw [hap']
   obtain ⟨q1, q2⟩ := LAt.fin (g := gx) (by rw [h4 h0] at hA; exact hA)
   obtain ⟨r1, r2⟩ := LWS.trans h.fr q1 q2 h.t0
   refine ⟨?_, r1, r2⟩
   rw [h6 h0, if_neg h0]
set_option maxHeartbeats 8000000 in
theorem wappend_any {w : World} {d l : Nat} {T : Nat → Prop} {B : Int} {s : DS} {g : LG} (hB : B < 999999999990) (h : LWS B w d l T s g) (hk : LOk s g) {ap : Option Addr} {np cp : Nat} {p : List UInt8} (hp : Rd8 w ap np cp p) (hap : BlkIn ap np fun b => ¬ T b) :
 Calls Tryz.prog 16 #[.pointer (some ⟨l, 0, none⟩), .slice ap np cp] w (AppPost (B + 3) w d l T s g p) := by
 have HB := Lib.hid hB
 have HLW := Lib.hid h
 have HK := Lib.hid hk
 have HPR := Lib.hid hp
 have HAP := Lib.hid hap
 have HNP := Lib.hid hp.1
 have HAB := Lib.hid (Rd.blkIn hp.2 (by decide))
 have hnp9 : np ≤ 9223372036854775807 := Nat.le_trans hp.2.1 hp.2.2.1
 have hnl := hk.next_le
 have hT0 := h.lt
 have HT0 := Lib.hid hT0
 have HNEXT : Hid (Calls Tryz.prog 21 #[.pointer (some ⟨l, 0, none⟩)] w fun e w' => e = .returned (.int .i64 (g.next : Nat)) ∧ ∃ n, w' = w.drewN n) := by
  obtain ⟨Sd, Sl, hA⟩ := h.open
  exact LgG.next (S := Sl) hA.lg hk
 have HSAME : Hid (∀ i, LWS (B + 3) (w.drewN i) d l (Sx T w (w.drewN i)) s g ∧ Fr T w (w.drewN i)) := fun i => by
  have hb := below_dn (Below.refl w.heap.size w) i
  exact ⟨(h.new hb).mono (by omega) (fun k hk => .inl hk) (Sx.lt hb.size hT0), Fr.of_new hb⟩
 have HPL := Lib.hid hp.1
 have hnx1 := hk.next_pos
 obtain ⟨n, hn⟩ : ∃ n, g.next = n := ⟨_, rfl⟩
 rw [hn] at HNEXT hnl hnx1
 have HN := Lib.hid hn
 clear h hk hp hap hT0 hn
 go_enter Tryz.func16, Tryz.ntmps16
 go_wp2_with fail
 go_at_call 21
 refine (HNEXT.out).mono ?_
 rintro e w1 ⟨rfl, i, rfl⟩
 by_cases hlong : (262144 : Int) < (np : Int)
 · have HG : Hid (AppPost (B + 3) w d l T s g p (.returned (.tuple #[.int .i64 0, .int .i64 2])) (w.drewN i)) := by
    obtain ⟨e1, e2⟩ := appL_long (s := s) (g := g) (p := p) (by have := HPL.out; omega)
    refine ⟨by rw [e1, e2], ?_, (HSAME.out i).2⟩
    rw [e1]; exact (HSAME.out i).1
   go_wp2_with fail
   go_ret2
   exact HG.out
 by_cases hrange : (99999999 : Int) < (n : Int)
 · have HG : Hid (AppPost (B + 3) w d l T s g p (.returned (.tuple #[.int .i64 0, .int .i64 1])) (w.drewN i)) := by
    obtain ⟨e1, e2⟩ := appL_range (s := s) (g := g) (p := p) (by have := HPL.out; omega) (by have := HN.out; omega)
    refine ⟨by rw [e1, e2], ?_, (HSAME.out i).2⟩
    rw [e1]; exact (HSAME.out i).1
   go_wp2_with fail
   go_ret2
   exact HG.out
 have HLE : Hid (¬ 262144 < p.length ∧ ¬ 99999999 < g.next) := ⟨by have := HPL.out; omega, by have := HN.out; omega⟩
 obtain ⟨w1, hw1⟩ : ∃ w1, w.drewN i = w1 := ⟨_, rfl⟩
 have hbw : Below w.heap.size w w1 := by rw [← hw1]; exact below_dn (Below.refl w.heap.size w) i
 have HBW := Lib.hid hbw
 rw [hw1]
 clear hw1 HSAME HNEXT hbw
 obtain ⟨Sd0, Sl0, hA0⟩ := (HLW.out.new HBW.out).open
 obtain ⟨sv0, L0, hM0, hL0, hC0, _⟩ := hA0.lg
 obtain ⟨P0, x0, hLx0, hP0, hx0, hi0⟩ := last_view hL0
 obtain ⟨_, _, d2, _, _, _, _⟩ := hM0.cells
 obtain ⟨_, _, t2, _, _⟩ := (hM0.hc x0 (List.mem_of_getElem? hi0)).cells
 rw [hx0] at t2
 obtain ⟨xb0, hxb0⟩ : ∃ xb, x0.b = xb := ⟨_, rfl⟩
 have hla0 := fun W (hW : ∃ k, W = w1.drewN k) => last_seg (hM0.draws hW) hi0
 have HLA0 : Hid (∀ W, (∃ k, W = w1.drewN k) → Calls Tryz.prog 53 #[.pointer (some ⟨l, 0, none⟩)] W fun e w' => e = .returned (.pointer (some ⟨xb0, 0, none⟩)) ∧ ∃ n, w' = W.drewN n) := fun W hW => by rw [← hxb0]; exact hla0 W hW
 rw [hxb0] at t2
 have hz1 := HK.out.la.sz
 have hr1 := HK.out.r1
 have hr2 := HK.out.r2
 obtain ⟨z0, hz0⟩ : ∃ z, szS g.la = z := ⟨_, rfl⟩
 obtain ⟨rm, hrm⟩ : ∃ rm, g.room = rm := ⟨_, rfl⟩
 rw [hz0] at t2 hz1
 rw [hrm] at d2 hr1 hr2
 have HZ0 := Lib.hid hz0
 have HRM := Lib.hid hrm
 clear hA0 hM0 hL0 hC0 hLx0 hP0 hx0 hi0 hxb0 hla0 hz0 hrm
 by_cases hfull : (z0 : Int) < rm
 · have hfull' : ¬ rm ≤ (z0 : Int) := by omega
   go_wp2_with fail
   go_quiet ((go_at_call 53; exact Calls.quiet_of (HLA0.out _ ⟨_, rfl⟩)))
   have hbX := next_below HBW.out (below_dn (Below.refl w1.heap.size w1) nq)
   obtain ⟨WX, hWX⟩ : ∃ WX, w1.drewN nq = WX := ⟨_, rfl⟩
   rw [hWX] at hbX ⊢
   clear hWX d2 t2
   obtain ⟨sx, hsx⟩ : ∃ sx, s = sx := ⟨_, rfl⟩
   obtain ⟨gx, hgx⟩ : ∃ gx, g = gx := ⟨_, rfl⟩
   have HTX : Hid (TurnAt B w d l T s g sx gx WX) := by
    subst hsx hgx
    exact ⟨(HLW.out.new hbX).mono (by omega) (fun k hk => .inl hk) (Sx.lt hbX.size HT0.out), Fr.of_new hbX, HK.out, turnL_free (by rw [HZ0.out, HRM.out]; exact hfull), HT0.out⟩
   clear hsx hgx hbX
   obtain ⟨Sd, Sl, hA⟩ := HTX.out.lw.open
   obtain ⟨sv, L, hM, hL, hC, _⟩ := hA.lg
   obtain ⟨P, x, hLx, hP, hx, hi⟩ := last_view hL
   subst hLx
   have hxm : x ∈ P ++ [x] := by simp
   obtain ⟨c0, c1, _, _, _, _, _⟩ := hM.cells
   obtain ⟨s0, s1, s2, _, _⟩ := (hM.hc x hxm).cells
   obtain ⟨ar, cr, hxv, _⟩ := (hM.hc x hxm).recs.rd
   rw [hxv] at s1
   have hla := fun W (hW : ∃ k, W = WX.drewN k) => last_seg (hM.draws hW) hi
   have hz0 := HTX.out.ok.la.sz
   have hm0 := HTX.out.ok.la.len
   have hf0 := HTX.out.ok.la.f2
   have hd0 := HTX.out.ok.d2
   have hro := (hM.hc x hxm).recs
   rw [← hx] at hz0 hm0 hf0
   have HXV := Lib.hid hxv
   have HX := Lib.hid hx
   have HP := Lib.hid hP
   obtain ⟨m, hm⟩ : ∃ m, x.sg.rs.length = m := ⟨_, rfl⟩
   rw [hm] at s1 hm0 hro hxv
   have HM := Lib.hid hM
   have HC := Lib.hid hC
   have HA := Lib.hid hA
   have HRO := Lib.hid hro
   have HXVM := Lib.hid hxv
   have HMM := Lib.hid hm
   obtain ⟨f, hff⟩ : ∃ f, x.sg.f = f := ⟨_, rfl⟩
   rw [hff] at s0 hf0
   obtain ⟨z, hzz⟩ : ∃ z, szS x.sg = z := ⟨_, rfl⟩
   rw [hzz] at s2 hz0
   have HZZ := Lib.hid hzz
   obtain ⟨dir, hdir⟩ : ∃ dir, gx.dir = dir := ⟨_, rfl⟩
   rw [hdir] at c1 hd0
   have hlnm : gx.lnm = segN dir f := by unfold LG.lnm; rw [hdir, ← hx, hff]
   have HLNM := Lib.hid hlnm
   have HF0 := Lib.hid hf0
   have HD0 := Lib.hid hd0
   obtain ⟨xb, hxb⟩ : ∃ xb, x.b = xb := ⟨_, rfl⟩
   rw [hxb] at s0 s1 s2
   have HXB := Lib.hid hxb
   have HLA : Hid (∀ W, (∃ k, W = WX.drewN k) → Calls Tryz.prog 53 #[.pointer (some ⟨l, 0, none⟩)] W fun e w' => e = .returned (.pointer (some ⟨xb, 0, none⟩)) ∧ ∃ n, w' = W.drewN n) := fun W hW => by rw [← hxb]; exact hla W hW
   have HPX : Hid (∀ W, Below WX.heap.size WX W → Rd8 W ap np cp p) := fun W hW => (HPR.out.keep0 HTX.out.fr HAP.out).below hW
   have HNN : Hid (gx.lnm.length ≤ 9223372036854775807) := by rw [hlnm]; show _ ≤ _; rw [segN_length]; omega
   have HXM := Lib.hid hxm
   clear hA hM hL hC hP hx hi hxm hxv hla hro hm hff hzz hdir hlnm hxb hf0 hd0
   go_wp2_with fail
   go_at_call 53
   refine (HLA.out WX ⟨0, rfl⟩).mono ?_
   rintro e y1 ⟨rfl, i1, rfl⟩
   have hb1 := below_dn (Below.refl WX.heap.size WX) i1
   obtain ⟨Y1, hY1⟩ : ∃ Y1, WX.drewN i1 = Y1 := ⟨_, rfl⟩
   rw [hY1] at hb1 ⊢
   clear hY1
   have HB1 := Lib.hid hb1
   go_wp2_with fail
   go_at_call 54
   refine (frame_any ap np cp p _ (HPX.out _ HB1.out)).mono ?_
   rintro e Y2 ⟨vf, hb2, hfe⟩
   obtain ⟨_, rfl, hof⟩ : p.length ≤ 262144 ∧ e = .returned (.tuple #[vf, .int .i64 0]) ∧ Own8 Y2 Y1.heap.size 5 vf (frameOf p) := by
    rcases hfe with h | h
    · exact h
    · exact absurd (by have := HNP.out; have := HLE.out.1; omega) h.1
   obtain ⟨af, cf, rfl, hrf⟩ := hof.rd
   have hb2' := next_below HB1.out hb2
   have HB2 := Lib.hid hb2'
   have HRF := Lib.hid hrf
   have HOF := Lib.hid hof
   have c0 := cell_below c0 hb2'
   have c1 := cell_below c1 hb2'
   have s0 := cell_below s0 hb2'
   clear hb1 hb2 hfe hof hrf hb2'
   go_wp2_with fail
   refine wp_region_ht 14 (fun W => W.cell? ⟨l, 0, none⟩ = some (.pointer (some ⟨d, 0, none⟩)) ∧ W.cell? ⟨l, 1, none⟩ = some (.string (bs dir)) ∧ W.cell? ⟨xb, 0, none⟩ = some (.int .i64 (f : Nat))) (by kernel_rfl) (by kernel_rfl) ?_ (fun hHeld => ?_)
   · exact ⟨c0, c1, s0⟩
   try simp only [Act.put, List.setIfInBounds_toArray, List.set_cons_zero, List.set_cons_succ]
   refine wpHT_takeD (i := 0) (d := 50) (v := ?_) (by kernel_rfl) rfl rfl (by decide) (by kernel_rfl) (by kernel_rfl) (fun _ _ _ h => h) (Or.inl ⟨by kernel_rfl, ?_⟩) (by assumption) ?_
   rotate_left
   · intro w hSw; (try dsimp only at hSw); go_simp; (try with_reducible rfl)
   try simp only [Act.put, List.setIfInBounds_toArray, List.set_cons_zero, List.set_cons_succ]
   refine wpHT_takeD (i := 1) (d := 51) (v := ?_) (by kernel_rfl) rfl rfl (by decide) (by kernel_rfl) (by kernel_rfl) (fun _ _ _ h => h) (Or.inl ⟨by kernel_rfl, ?_⟩) (by assumption) ?_
   rotate_left
   · intro w hSw; (try dsimp only at hSw); go_simp; (try with_reducible rfl)
   try simp only [Act.put, List.setIfInBounds_toArray, List.set_cons_zero, List.set_cons_succ]
   refine wpHT_takeD (i := 2) (d := 52) (v := ?_) (by kernel_rfl) rfl rfl (by decide) (by kernel_rfl) (by kernel_rfl) (fun _ _ _ h => h) (Or.inl ⟨by kernel_rfl, ?_⟩) (by assumption) ?_
   rotate_left
   · intro w hSw; (try dsimp only at hSw); go_simp; (try with_reducible rfl)
   try simp only [Act.put, List.setIfInBounds_toArray, List.set_cons_zero, List.set_cons_succ]
   refine wpHT_takeD (i := 3) (d := 53) (v := ?_) (by kernel_rfl) rfl rfl (by decide) (by kernel_rfl) (by kernel_rfl) (fun _ _ _ h => h) (Or.inl ⟨by kernel_rfl, ?_⟩) (by assumption) ?_
   rotate_left
   · intro w hSw; (try dsimp only at hSw); go_simp; (try with_reducible rfl)
   try simp only [Act.put, List.setIfInBounds_toArray, List.set_cons_zero, List.set_cons_succ]
   refine wpHT_takeD (i := 4) (d := 54) (v := ?_) (by kernel_rfl) rfl rfl (by decide) (by kernel_rfl) (by kernel_rfl) (fun _ _ _ h => h) (Or.inl ⟨by kernel_rfl, ?_⟩) (by assumption) ?_
   rotate_left
   · intro w hSw; (try dsimp only at hSw); go_simp; (try with_reducible rfl)
   try simp only [Act.put, List.setIfInBounds_toArray, List.set_cons_zero, List.set_cons_succ]
   refine wpHT_takeD (i := 5) (d := 55) (v := ?_) (by kernel_rfl) rfl rfl (by decide) (by kernel_rfl) (by kernel_rfl) (fun _ _ _ h => h) (Or.inl ⟨by kernel_rfl, ?_⟩) (by assumption) ?_
   rotate_left
   · intro w hSw; (try dsimp only at hSw); go_simp; (try with_reducible rfl)
   try simp only [Act.put, List.setIfInBounds_toArray, List.set_cons_zero, List.set_cons_succ]
   refine wpHT_takeD (i := 6) (d := 56) (v := ?_) (by kernel_rfl) rfl rfl (by decide) (by kernel_rfl) (by kernel_rfl) (fun _ _ _ h => h) (Or.inl ⟨by kernel_rfl, ?_⟩) (by assumption) ?_
   rotate_left
   · intro w hSw; (try dsimp only at hSw); go_simp; (try with_reducible rfl)
   try simp only [Act.put, List.setIfInBounds_toArray, List.set_cons_zero, List.set_cons_succ]
   refine wpHT_takeD (i := 7) (d := 57) (v := ?_) (by kernel_rfl) rfl rfl (by decide) (by kernel_rfl) (by kernel_rfl) (fun _ _ _ h => h) (Or.inl ⟨by kernel_rfl, ?_⟩) (by assumption) ?_
   rotate_left
   · intro w hSw; (try dsimp only at hSw); go_simp; (try with_reducible rfl)
   try simp only [Act.put, List.setIfInBounds_toArray, List.set_cons_zero, List.set_cons_succ]
   refine wpHT_takeD (i := 8) (d := 58) (v := ?_) (by kernel_rfl) rfl rfl (by decide) (by kernel_rfl) (by kernel_rfl) (fun _ _ _ h => h) (Or.inl ⟨by kernel_rfl, ?_⟩) (by assumption) ?_
   rotate_left
   · intro w hSw; (try dsimp only at hSw); go_simp; (try with_reducible rfl)
   try simp only [Act.put, List.setIfInBounds_toArray, List.set_cons_zero, List.set_cons_succ]
   refine wpHT_takeD (i := 9) (d := 59) (v := ?_) (by kernel_rfl) rfl rfl (by decide) (by kernel_rfl) (by kernel_rfl) (fun _ _ _ h => h) (Or.inl ⟨by kernel_rfl, ?_⟩) (by assumption) ?_
   rotate_left
   · intro w hSw; (try dsimp only at hSw); go_simp; (try with_reducible rfl)
   try simp only [Act.put, List.setIfInBounds_toArray, List.set_cons_zero, List.set_cons_succ]
   refine wpHT_takeD (i := 10) (d := 60) (v := ?_) (by kernel_rfl) rfl rfl (by decide) (by kernel_rfl) (by kernel_rfl) (fun _ _ _ h => h) (Or.inl ⟨by kernel_rfl, ?_⟩) (by assumption) ?_
   rotate_left
   · intro w hSw; (try dsimp only at hSw); go_simp; (try with_reducible rfl)
   try simp only [Act.put, List.setIfInBounds_toArray, List.set_cons_zero, List.set_cons_succ]
   refine wpHT_takeD (i := 11) (d := 61) (v := ?_) (by kernel_rfl) rfl rfl (by decide) (by kernel_rfl) (by kernel_rfl) (fun _ _ _ h => h) (Or.inl ⟨by kernel_rfl, ?_⟩) (by assumption) ?_
   rotate_left
   · intro w hSw; (try dsimp only at hSw); go_simp; (try with_reducible rfl)
   try simp only [Act.put, List.setIfInBounds_toArray, List.set_cons_zero, List.set_cons_succ]
   refine wpHT_takeD (i := 13) (d := 63) (v := ?_) (by kernel_rfl) rfl rfl (by decide) (by kernel_rfl) (by kernel_rfl) (fun _ _ _ h => h) (Or.inl ⟨by kernel_rfl, ?_⟩) (by assumption) ?_
   rotate_left
   · intro w hSw; (try dsimp only at hSw); go_simp; (try with_reducible rfl)
   try simp only [Act.put, List.setIfInBounds_toArray, List.set_cons_zero, List.set_cons_succ]
   refine wpHT_one (i := 12) (by kernel_rfl) rfl (by decide) (fun K hK => ?_)
   go_simp
   go_at_call 56
   refine (file_any dir f HF0.out (by have := HD0.out; omega) _).mono ?_
   rintro e Y3 ⟨rfl, hb⟩
   have hb' : Below Y2.heap.size Y2 Y3 := (Below.refl _ Y2).drew.trans hb
   have HB3 := Lib.hid (next_below HB2.out hb')
   have HRF := Lib.hid (HRF.out.below hb')
   have c0 := cell_below c0 hb'
   have c1 := cell_below c1 hb'
   have s0 := cell_below s0 hb'
   clear hb hb'
   refine hK.out _ _ ?_ (fun hHeld => ?_)
   · exact ⟨c0, c1, s0⟩
   clear hK K
   try simp only [Act.put, List.setIfInBounds_toArray, List.set_cons_zero, List.set_cons_succ]
   refine wpHT_done (by kernel_rfl) ?_
   simp only [List.drop_succ_cons, List.drop_zero]
   clear hHeld
   have HA3 := Lib.hid (HA.out.new HB3.out)
   go_wp2_with fail
   go_at_call 55
   rw [← HLNM.out]
   refine (append_any d Sd (B + 2) (by omega) sx gx.lnm HNN.out af cf (frameOf p) (by rw [frameOf_length]; omega) Y3 HA3.out.dk HRF.out (fun k hk hs => ?_)).mono ?_
   · have h1 := HA.out.lt.1 k hs
     have h2 := World.ownsRow.lt HOF.out k (by rw [ownBlock_sl]; exact hk)
     have h3 := HB1.out.size
     omega
   rintro e Y4 ⟨rfl, hd⟩
   have HA4 := Lib.hid ((HA3.out.disk hd).mono (B' := B + 3) (by omega))
   have hM4 := (HM.out.new HB3.out).after HC.out hd.2 (fun k hk hs => HA3.out.dj k hs hk)
   have hp4 : Rd8 Y4 ap np cp p := by
    refine (HPX.out _ HB3.out).keep0 hd.2 fun h0 b hb hs => ?_
    have h1 := HA.out.sd b hs
    rcases h1 with (e | e) | e
    · exact HAP.out h0 b hb e
    · have := HAB.out h0 b hb; omega
    · omega
   have HM4 := Lib.hid hM4
   have HP4 := Lib.hid hp4
   obtain ⟨e, he⟩ : ∃ e, (appendS sx gx.lnm (frameOf p)).2 = e := ⟨_, rfl⟩
   rw [he]
   have HE := Lib.hid he
   clear hd c0 c1 s0 s1 s2 hp4 he
   by_cases h0 : e = 0
   · subst h0
     obtain ⟨s0, s1, s2, _, _⟩ := (hM4.hc x HXM.out).cells
     rw [HXVM.out, HXB.out] at s1
     rw [HXB.out, HZZ.out] at s2
     have hro4 := (hM4.hc x HXM.out).recs
     rw [HXVM.out, HMM.out] at hro4
     have HRO4 := Lib.hid hro4
     have hb54 : (((frameOf p).length : Nat) : Int) = (np : Int) + 12 := by rw [frameOf_length, HNP.out]; omega
     have HFL := Lib.hid hb54
     clear hM4 hro4 s0 s2 hb54
     go_wp2_with fail
     refine wp_region_ht 10 (fun W => W.cell? ⟨xb, 1, none⟩ = some (.slice ar m cr)) (by kernel_rfl) (by kernel_rfl) ?_ (fun hHeld => ?_)
     · exact s1
     try simp only [Act.put, List.setIfInBounds_toArray, List.set_cons_zero, List.set_cons_succ]
     refine wpHT_takeD (i := 0) (d := 68) (v := ?_) (by kernel_rfl) rfl rfl (by decide) (by kernel_rfl) (by kernel_rfl) (fun _ _ _ h => h) (Or.inl ⟨by kernel_rfl, ?_⟩) (by assumption) ?_
     rotate_left
     · intro w hSw; (try dsimp only at hSw); go_simp; (try with_reducible rfl)
     try simp only [Act.put, List.setIfInBounds_toArray, List.set_cons_zero, List.set_cons_succ]
     refine wpHT_takeD (i := 1) (d := 69) (v := ?_) (by kernel_rfl) rfl rfl (by decide) (by kernel_rfl) (by kernel_rfl) (fun _ _ _ h => h) (Or.inl ⟨by kernel_rfl, ?_⟩) (by assumption) ?_
     rotate_left
     · intro w hSw; (try dsimp only at hSw); go_simp; (try with_reducible rfl)
     try simp only [Act.put, List.setIfInBounds_toArray, List.set_cons_zero, List.set_cons_succ]
     refine wpHT_takeD (i := 2) (d := 70) (v := ?_) (by kernel_rfl) rfl rfl (by decide) (by kernel_rfl) (by kernel_rfl) (fun _ _ _ h => h) (Or.inl ⟨by kernel_rfl, ?_⟩) (by assumption) ?_
     rotate_left
     · intro w hSw; (try dsimp only at hSw); go_simp; (try with_reducible rfl)
     try simp only [Act.put, List.setIfInBounds_toArray, List.set_cons_zero, List.set_cons_succ]
     refine wpHT_takeD (i := 3) (d := 71) (v := ?_) (by kernel_rfl) rfl rfl (by decide) (by kernel_rfl) (by kernel_rfl) (fun _ _ _ h => h) (Or.inl ⟨by kernel_rfl, ?_⟩) (by assumption) ?_
     rotate_left
     · intro w hSw; (try dsimp only at hSw); go_simp; (try with_reducible rfl)
     try simp only [Act.put, List.setIfInBounds_toArray, List.set_cons_zero, List.set_cons_succ]
     refine wpHT_takeD (i := 4) (d := 72) (v := ?_) (by kernel_rfl) rfl rfl (by decide) (by kernel_rfl) (by kernel_rfl) (fun _ _ _ h => h) (Or.inl ⟨by kernel_rfl, ?_⟩) (by assumption) ?_
     rotate_left
     · intro w hSw; (try dsimp only at hSw); go_simp; (try with_reducible rfl)
     try simp only [Act.put, List.setIfInBounds_toArray, List.set_cons_zero, List.set_cons_succ]
     refine wpHT_takeD (i := 6) (d := 74) (v := ?_) (by kernel_rfl) rfl rfl (by decide) (by kernel_rfl) (by kernel_rfl) (fun _ _ _ h => h) (Or.inl ⟨by kernel_rfl, ?_⟩) (by assumption) ?_
     rotate_left
     · intro w hSw; (try dsimp only at hSw); go_simp; (try with_reducible rfl)
     try simp only [Act.put, List.setIfInBounds_toArray, List.set_cons_zero, List.set_cons_succ]
     refine wpHT_one (i := 5) (by kernel_rfl) rfl (by decide) (fun K hK => ?_)
     go_simp
     refine hK.out _ _ ?_ (fun hHeld => ?_)
     · exact cell_alloc_keep (w := Y4.drew) s1
     clear hK K
     try simp only [Act.put, List.setIfInBounds_toArray, List.set_cons_zero, List.set_cons_succ]
     refine wpHT_one (i := 7) (by kernel_rfl) rfl (by decide) (fun K hK => ?_)
     refine step_app2 S8 rfl _ _ rfl Y4.heap.size rfl (made0 Y4.drew) rfl (HP4.out.below ((Below.refl _ Y4).drew.alloc (Nat.le_refl _) _)).2 (B8_one _) (by omega) (by unfold maxLen; omega) ((Below.refl 0 Y4.drew).alloc (Nat.zero_le _) _).size ?_
     intro v5 Y5 ho5 hg5 hl5
     have ho5 : Own8 Y5 Y4.heap.size 5 v5 p := Own8.mk ho5 (by have := HNP.out; omega) (by simp)
     obtain ⟨a5, cap5, rfl, hrd5⟩ := ho5.rd
     have hb5 : Below Y4.heap.size Y4 Y5 := ((Below.refl _ Y4).drew.alloc (Nat.le_refl _) _).grown hg5 ((Below.refl 0 Y4.drew).alloc (Nat.zero_le _) _).size (fun k hk => Nat.le_of_eq (Option.some.inj hk))
     have s1 := cell_below s1 hb5
     have HO5 := Lib.hid ho5
     have HB5 := Lib.hid hb5
     clear ho5 hg5 hl5 hrd5 hb5
     refine hK.out _ _ ?_ (fun hHeld => ?_)
     · exact s1
     clear hK K
     try simp only [Act.put, List.setIfInBounds_toArray, List.set_cons_zero, List.set_cons_succ]
     refine wpHT_one (i := 8) (by kernel_rfl) rfl (by decide) (fun K hK => ?_)
     go_simp
     have s1 := cell_alloc_keep (w := Y5) (o := .cells #[.slice a5 p.length cap5] 24) s1
     refine hK.out _ _ ?_ (fun hHeld => ?_)
     · exact s1
     clear hK K
     try simp only [Act.put, List.setIfInBounds_toArray, List.set_cons_zero, List.set_cons_succ]
     refine wpHT_one (i := 9) (by kernel_rfl) rfl (by decide) (fun K hK => ?_)
     refine step_appO S88 rfl _ _ rfl rfl (HRO4.out.new (HB5.out.alloc HB5.out.size _)) rfl (Rd.one _ _ _) (by simp [Value.oneCell']) (by omega) (by unfold maxLen; omega) ?_
     intro v6 Y6 hown6 hg6 hl6
     obtain ⟨a6, cap6, rfl, _⟩ := hown6.rd
     have hpt := HM4.out.putted HC.out HXVM.out (Y := Y5.alloc (.cells #[.slice a5 p.length cap5] 24)) (HB5.out.alloc HB5.out.size _) (HO5.out.alloc _) (by rw [HMM.out]; exact hown6) hg6 (hl6.imp id fun e => e.trans (by simp)) (z := z + (np + 12)) (by rw [HZZ.out, HNP.out])
     rw [HXB.out, HZZ.out] at hpt
     have hpt1 := hpt.1.1
     have HPT := Lib.hid hpt
     clear hown6 hg6 hl6 hpt
     refine hK.out _ _ ?_ (fun hHeld => ?_)
     · exact hpt1
     clear hK K
     try simp only [Act.put, List.setIfInBounds_toArray, List.set_cons_zero, List.set_cons_succ]
     refine wpHT_done (by kernel_rfl) ?_
     simp only [List.drop_succ_cons, List.drop_zero]
     clear hHeld
     obtain ⟨⟨p1, p2, p3, p4⟩, p5, p6, p7⟩ := HPT.out
     have P5 := Lib.hid p5
     have P6 := Lib.hid p6
     have P7 := Lib.hid p7
     have hfl := HFL.out
     clear p5 p6 p7 HPT
     go_wp2_with fail
     go_ret2
     have hzc : ((z : Int) + ((np : Int) + 12)) = ((z + (np + 12) : Nat) : Int) := by omega
     rw [hzc]
     refine putL_post HTX.out HLE.out.1 HLE.out.2 HE.out (HA4.out.log (Sl' := Sx Sl Y4 _) ⟨_, _, P5.out, rfl, P7.out, fun k hk => ?_⟩ P6.out (fun k hk => hk)) (fun _ => ?_) (fun h => absurd rfl h) (fun _ => by rw [HN.out]) (fun h => absurd rfl h)
     · rcases hk with hk | hk
       · exact Nat.lt_of_lt_of_le (HA4.out.lt.2 k hk) P6.out.size
       · exact hk.2
     · rw [List.map_append, HP.out, ← HX.out]; rfl
   · have hbE : (e == 0) = false := by simpa using h0
     have hbE' : (e != 0) = true := by simpa using h0
     have HG : Hid (AppPost (B + 3) w d l T s g p (.returned (.tuple #[.int .i64 0, .int .i64 e])) Y4) := putL_post HTX.out HLE.out.1 HLE.out.2 HE.out HA4.out (fun h => absurd h h0) (fun _ => rfl) (fun h => absurd h h0) (fun _ => rfl)
     clear hM4 h0
     go_wp2_with fail
     go_ret2
     exact HG.out
 · have hfull' : rm ≤ (z0 : Int) := by omega
   have hfu : g.room ≤ (szS g.la : Int) := by rw [HZ0.out, HRM.out]; exact hfull'
   have HFU := Lib.hid hfu
   clear hfu
   go_wp2_with fail
   go_quiet ((go_at_call 53; exact Calls.quiet_of (HLA0.out _ ⟨_, rfl⟩)))
   have hb2 := next_below HBW.out (below_dn (Below.refl w1.heap.size w1) nq)
   obtain ⟨w2, hw2⟩ : ∃ w2, w1.drewN nq = w2 := ⟨_, rfl⟩
   rw [hw2] at hb2 ⊢
   have HB2 := Lib.hid hb2
   clear hw2 d2 t2 hb2 hfull hfull'
   go_wp2_with fail
   go_at_call 18
   refine (wsync_any (by omega) (HLW.out.new HB2.out) HK.out).mono ?_
   rintro e w3 ⟨rfl, hw3, hf3⟩
   have hl2 : Fr T w w2 := Fr.of_new HB2.out
   have hT2 : ∀ k, T k → k < w2.heap.size := fun k hk => Nat.lt_of_lt_of_le (HT0.out k hk) HB2.out.size
   have hs23 := hf3.size
   have hs12 := HB2.out.size
   have HW3 : Hid (LWS (B + 1) w3 d l (Sx T w w3) (syncL s g).s (syncL s g).g) := hw3.mono (Int.le_refl _) (fun k hk => hk.imp id fun e => ⟨by omega, e.2⟩) (Sx.lt (by omega) HT0.out)
   have HF3 : Hid (Fr T w w3) := hl2.trans hf3
   have HK3 := Lib.hid HK.out.sync
   clear hw3 hf3 hl2 hT2 hs23 hs12
   by_cases h0 : (syncL s g).e = 0
   · rw [h0]
     have hr3 := turnL_roll (Int.not_lt.2 HFU.out) h0
     obtain ⟨m1, m2, m3, m4, m5⟩ := syncL_next (s := s) (g := g)
     have hl3 := HK3.out.len
     obtain ⟨gy, hgy⟩ : ∃ gy, (syncL s g).g = gy := ⟨_, rfl⟩
     obtain ⟨sy, hsy⟩ : ∃ sy, (syncL s g).s = sy := ⟨_, rfl⟩
     rw [hgy, hsy] at hr3 HW3 HK3
     rw [hgy] at m1 hl3
     have HR3 := Lib.hid hr3
     have HL3 := Lib.hid hl3
     clear h0 hr3 m1 m2 m3 m4 m5 hl3 hgy hsy
     go_wp2_with fail
     go_at_call 51
     obtain ⟨Sd3, Sl3, hA3⟩ := HW3.out.open
     refine (roll_seg (by omega) hA3 n (by omega) HK3.out.d2 HL3.out).mono ?_
     rintro e w4 ⟨Sd4, Sl4, rfl, hA4⟩
     have HA4 := Lib.hid hA4
     clear hA4
     have hturn : LOk (turnL s g).s (turnL s g).g ∧ ((turnL s g).e = 0 → (turnL s g).g.next = g.next) := HK.out.turn (by have := HLE.out.2; omega)
     rw [HR3.out, HN.out] at hturn
     by_cases hc0 : (createS sy (segN gy.dir n)).2 = 0
     · have hr4 := rollL_ok (s := sy) (g := gy) (n := n) hc0
       rw [hr4] at hturn
       have hA4 := HA4.out
       rw [if_pos hc0] at hA4
       rw [hc0]
       obtain ⟨q1, q2⟩ := LAt.fin (g := { gy with pre := gy.pre ++ [gy.la], la := ⟨n, []⟩ }) hA4
       obtain ⟨r1, r2⟩ := LWS.trans HF3.out q1 q2 HT0.out
       obtain ⟨sx, hsx⟩ : ∃ sx, (createS sy (segN gy.dir n)).1 = sx := ⟨_, rfl⟩
       obtain ⟨gx, hgx⟩ : ∃ gx : LG, { gy with pre := gy.pre ++ [gy.la], la := ⟨n, []⟩ } = gx := ⟨_, rfl⟩
       obtain ⟨WX, hWX⟩ : ∃ WX, w4 = WX := ⟨_, rfl⟩
       have htx : TurnAt B w d l T s g sx gx w4 := by
        rw [← hsx, ← hgx]
        refine ⟨r1.mono (by omega) (fun k hk => hk) r1.lt, r2, hturn.1, ?_, HT0.out⟩
        rw [HR3.out, HN.out, hr4]
       rw [hWX] at htx ⊢
       have HTX := Lib.hid htx
       clear hr4 hturn hA4 hc0 q1 q2 r1 r2 hsx hgx hWX htx
       obtain ⟨Sd, Sl, hA⟩ := HTX.out.lw.open
       obtain ⟨sv, L, hM, hL, hC, _⟩ := hA.lg
       obtain ⟨P, x, hLx, hP, hx, hi⟩ := last_view hL
       subst hLx
       have hxm : x ∈ P ++ [x] := by simp
       obtain ⟨c0, c1, _, _, _, _, _⟩ := hM.cells
       obtain ⟨s0, s1, s2, _, _⟩ := (hM.hc x hxm).cells
       obtain ⟨ar, cr, hxv, _⟩ := (hM.hc x hxm).recs.rd
       rw [hxv] at s1
       have hla := fun W (hW : ∃ k, W = WX.drewN k) => last_seg (hM.draws hW) hi
       have hz0 := HTX.out.ok.la.sz
       have hm0 := HTX.out.ok.la.len
       have hf0 := HTX.out.ok.la.f2
       have hd0 := HTX.out.ok.d2
       have hro := (hM.hc x hxm).recs
       rw [← hx] at hz0 hm0 hf0
       have HXV := Lib.hid hxv
       have HX := Lib.hid hx
       have HP := Lib.hid hP
       obtain ⟨m, hm⟩ : ∃ m, x.sg.rs.length = m := ⟨_, rfl⟩
       rw [hm] at s1 hm0 hro hxv
       have HM := Lib.hid hM
       have HC := Lib.hid hC
       have HA := Lib.hid hA
       have HRO := Lib.hid hro
       have HXVM := Lib.hid hxv
       have HMM := Lib.hid hm
       obtain ⟨f, hff⟩ : ∃ f, x.sg.f = f := ⟨_, rfl⟩
       rw [hff] at s0 hf0
       obtain ⟨z, hzz⟩ : ∃ z, szS x.sg = z := ⟨_, rfl⟩
       rw [hzz] at s2 hz0
       have HZZ := Lib.hid hzz
       obtain ⟨dir, hdir⟩ : ∃ dir, gx.dir = dir := ⟨_, rfl⟩
       rw [hdir] at c1 hd0
       have hlnm : gx.lnm = segN dir f := by unfold LG.lnm; rw [hdir, ← hx, hff]
       have HLNM := Lib.hid hlnm
       have HF0 := Lib.hid hf0
       have HD0 := Lib.hid hd0
       obtain ⟨xb, hxb⟩ : ∃ xb, x.b = xb := ⟨_, rfl⟩
       rw [hxb] at s0 s1 s2
       have HXB := Lib.hid hxb
       have HLA : Hid (∀ W, (∃ k, W = WX.drewN k) → Calls Tryz.prog 53 #[.pointer (some ⟨l, 0, none⟩)] W fun e w' => e = .returned (.pointer (some ⟨xb, 0, none⟩)) ∧ ∃ n, w' = W.drewN n) := fun W hW => by rw [← hxb]; exact hla W hW
       have HPX : Hid (∀ W, Below WX.heap.size WX W → Rd8 W ap np cp p) := fun W hW => (HPR.out.keep0 HTX.out.fr HAP.out).below hW
       have HNN : Hid (gx.lnm.length ≤ 9223372036854775807) := by rw [hlnm]; show _ ≤ _; rw [segN_length]; omega
       have HXM := Lib.hid hxm
       clear hA hM hL hC hP hx hi hxm hxv hla hro hm hff hzz hdir hlnm hxb hf0 hd0
       go_wp2_with fail
       go_at_call 53
       refine (HLA.out WX ⟨0, rfl⟩).mono ?_
       rintro e y1 ⟨rfl, i1, rfl⟩
       have hb1 := below_dn (Below.refl WX.heap.size WX) i1
       obtain ⟨Y1, hY1⟩ : ∃ Y1, WX.drewN i1 = Y1 := ⟨_, rfl⟩
       rw [hY1] at hb1 ⊢
       clear hY1
       have HB1 := Lib.hid hb1
       go_wp2_with fail
       go_at_call 54
       refine (frame_any ap np cp p _ (HPX.out _ HB1.out)).mono ?_
       rintro e Y2 ⟨vf, hb2, hfe⟩
       obtain ⟨_, rfl, hof⟩ : p.length ≤ 262144 ∧ e = .returned (.tuple #[vf, .int .i64 0]) ∧ Own8 Y2 Y1.heap.size 5 vf (frameOf p) := by
        rcases hfe with h | h
        · exact h
        · exact absurd (by have := HNP.out; have := HLE.out.1; omega) h.1
       obtain ⟨af, cf, rfl, hrf⟩ := hof.rd
       have hb2' := next_below HB1.out hb2
       have HB2 := Lib.hid hb2'
       have HRF := Lib.hid hrf
       have HOF := Lib.hid hof
       have c0 := cell_below c0 hb2'
       have c1 := cell_below c1 hb2'
       have s0 := cell_below s0 hb2'
       clear hb1 hb2 hfe hof hrf hb2'
       go_wp2_with fail
       refine wp_region_ht 14 (fun W => W.cell? ⟨l, 0, none⟩ = some (.pointer (some ⟨d, 0, none⟩)) ∧ W.cell? ⟨l, 1, none⟩ = some (.string (bs dir)) ∧ W.cell? ⟨xb, 0, none⟩ = some (.int .i64 (f : Nat))) (by kernel_rfl) (by kernel_rfl) ?_ (fun hHeld => ?_)
       · exact ⟨c0, c1, s0⟩
       try simp only [Act.put, List.setIfInBounds_toArray, List.set_cons_zero, List.set_cons_succ]
       refine wpHT_takeD (i := 0) (d := 50) (v := ?_) (by kernel_rfl) rfl rfl (by decide) (by kernel_rfl) (by kernel_rfl) (fun _ _ _ h => h) (Or.inl ⟨by kernel_rfl, ?_⟩) (by assumption) ?_
       rotate_left
       · intro w hSw; (try dsimp only at hSw); go_simp; (try with_reducible rfl)
       try simp only [Act.put, List.setIfInBounds_toArray, List.set_cons_zero, List.set_cons_succ]
       refine wpHT_takeD (i := 1) (d := 51) (v := ?_) (by kernel_rfl) rfl rfl (by decide) (by kernel_rfl) (by kernel_rfl) (fun _ _ _ h => h) (Or.inl ⟨by kernel_rfl, ?_⟩) (by assumption) ?_
       rotate_left
       · intro w hSw; (try dsimp only at hSw); go_simp; (try with_reducible rfl)
       try simp only [Act.put, List.setIfInBounds_toArray, List.set_cons_zero, List.set_cons_succ]
       refine wpHT_takeD (i := 2) (d := 52) (v := ?_) (by kernel_rfl) rfl rfl (by decide) (by kernel_rfl) (by kernel_rfl) (fun _ _ _ h => h) (Or.inl ⟨by kernel_rfl, ?_⟩) (by assumption) ?_
       rotate_left
       · intro w hSw; (try dsimp only at hSw); go_simp; (try with_reducible rfl)
       try simp only [Act.put, List.setIfInBounds_toArray, List.set_cons_zero, List.set_cons_succ]
       refine wpHT_takeD (i := 3) (d := 53) (v := ?_) (by kernel_rfl) rfl rfl (by decide) (by kernel_rfl) (by kernel_rfl) (fun _ _ _ h => h) (Or.inl ⟨by kernel_rfl, ?_⟩) (by assumption) ?_
       rotate_left
       · intro w hSw; (try dsimp only at hSw); go_simp; (try with_reducible rfl)
       try simp only [Act.put, List.setIfInBounds_toArray, List.set_cons_zero, List.set_cons_succ]
       refine wpHT_takeD (i := 4) (d := 54) (v := ?_) (by kernel_rfl) rfl rfl (by decide) (by kernel_rfl) (by kernel_rfl) (fun _ _ _ h => h) (Or.inl ⟨by kernel_rfl, ?_⟩) (by assumption) ?_
       rotate_left
       · intro w hSw; (try dsimp only at hSw); go_simp; (try with_reducible rfl)
       try simp only [Act.put, List.setIfInBounds_toArray, List.set_cons_zero, List.set_cons_succ]
       refine wpHT_takeD (i := 5) (d := 55) (v := ?_) (by kernel_rfl) rfl rfl (by decide) (by kernel_rfl) (by kernel_rfl) (fun _ _ _ h => h) (Or.inl ⟨by kernel_rfl, ?_⟩) (by assumption) ?_
       rotate_left
       · intro w hSw; (try dsimp only at hSw); go_simp; (try with_reducible rfl)
       try simp only [Act.put, List.setIfInBounds_toArray, List.set_cons_zero, List.set_cons_succ]
       refine wpHT_takeD (i := 6) (d := 56) (v := ?_) (by kernel_rfl) rfl rfl (by decide) (by kernel_rfl) (by kernel_rfl) (fun _ _ _ h => h) (Or.inl ⟨by kernel_rfl, ?_⟩) (by assumption) ?_
       rotate_left
       · intro w hSw; (try dsimp only at hSw); go_simp; (try with_reducible rfl)
       try simp only [Act.put, List.setIfInBounds_toArray, List.set_cons_zero, List.set_cons_succ]
       refine wpHT_takeD (i := 7) (d := 57) (v := ?_) (by kernel_rfl) rfl rfl (by decide) (by kernel_rfl) (by kernel_rfl) (fun _ _ _ h => h) (Or.inl ⟨by kernel_rfl, ?_⟩) (by assumption) ?_
       rotate_left
       · intro w hSw; (try dsimp only at hSw); go_simp; (try with_reducible rfl)
       try simp only [Act.put, List.setIfInBounds_toArray, List.set_cons_zero, List.set_cons_succ]
       refine wpHT_takeD (i := 8) (d := 58) (v := ?_) (by kernel_rfl) rfl rfl (by decide) (by kernel_rfl) (by kernel_rfl) (fun _ _ _ h => h) (Or.inl ⟨by kernel_rfl, ?_⟩) (by assumption) ?_
       rotate_left
       · intro w hSw; (try dsimp only at hSw); go_simp; (try with_reducible rfl)
       try simp only [Act.put, List.setIfInBounds_toArray, List.set_cons_zero, List.set_cons_succ]
       refine wpHT_takeD (i := 9) (d := 59) (v := ?_) (by kernel_rfl) rfl rfl (by decide) (by kernel_rfl) (by kernel_rfl) (fun _ _ _ h => h) (Or.inl ⟨by kernel_rfl, ?_⟩) (by assumption) ?_
       rotate_left
       · intro w hSw; (try dsimp only at hSw); go_simp; (try with_reducible rfl)
       try simp only [Act.put, List.setIfInBounds_toArray, List.set_cons_zero, List.set_cons_succ]
       refine wpHT_takeD (i := 10) (d := 60) (v := ?_) (by kernel_rfl) rfl rfl (by decide) (by kernel_rfl) (by kernel_rfl) (fun _ _ _ h => h) (Or.inl ⟨by kernel_rfl, ?_⟩) (by assumption) ?_
       rotate_left
       · intro w hSw; (try dsimp only at hSw); go_simp; (try with_reducible rfl)
       try simp only [Act.put, List.setIfInBounds_toArray, List.set_cons_zero, List.set_cons_succ]
       refine wpHT_takeD (i := 11) (d := 61) (v := ?_) (by kernel_rfl) rfl rfl (by decide) (by kernel_rfl) (by kernel_rfl) (fun _ _ _ h => h) (Or.inl ⟨by kernel_rfl, ?_⟩) (by assumption) ?_
       rotate_left
       · intro w hSw; (try dsimp only at hSw); go_simp; (try with_reducible rfl)
       try simp only [Act.put, List.setIfInBounds_toArray, List.set_cons_zero, List.set_cons_succ]
       refine wpHT_takeD (i := 13) (d := 63) (v := ?_) (by kernel_rfl) rfl rfl (by decide) (by kernel_rfl) (by kernel_rfl) (fun _ _ _ h => h) (Or.inl ⟨by kernel_rfl, ?_⟩) (by assumption) ?_
       rotate_left
       · intro w hSw; (try dsimp only at hSw); go_simp; (try with_reducible rfl)
       try simp only [Act.put, List.setIfInBounds_toArray, List.set_cons_zero, List.set_cons_succ]
       refine wpHT_one (i := 12) (by kernel_rfl) rfl (by decide) (fun K hK => ?_)
       go_simp
       go_at_call 56
       refine (file_any dir f HF0.out (by have := HD0.out; omega) _).mono ?_
       rintro e Y3 ⟨rfl, hb⟩
       have hb' : Below Y2.heap.size Y2 Y3 := (Below.refl _ Y2).drew.trans hb
       have HB3 := Lib.hid (next_below HB2.out hb')
       have HRF := Lib.hid (HRF.out.below hb')
       have c0 := cell_below c0 hb'
       have c1 := cell_below c1 hb'
       have s0 := cell_below s0 hb'
       clear hb hb'
       refine hK.out _ _ ?_ (fun hHeld => ?_)
       · exact ⟨c0, c1, s0⟩
       clear hK K
       try simp only [Act.put, List.setIfInBounds_toArray, List.set_cons_zero, List.set_cons_succ]
       refine wpHT_done (by kernel_rfl) ?_
       simp only [List.drop_succ_cons, List.drop_zero]
       clear hHeld
       have HA3 := Lib.hid (HA.out.new HB3.out)
       go_wp2_with fail
       go_at_call 55
       rw [← HLNM.out]
       refine (append_any d Sd (B + 2) (by omega) sx gx.lnm HNN.out af cf (frameOf p) (by rw [frameOf_length]; omega) Y3 HA3.out.dk HRF.out (fun k hk hs => ?_)).mono ?_
       · have h1 := HA.out.lt.1 k hs
         have h2 := World.ownsRow.lt HOF.out k (by rw [ownBlock_sl]; exact hk)
         have h3 := HB1.out.size
         omega
       rintro e Y4 ⟨rfl, hd⟩
       have HA4 := Lib.hid ((HA3.out.disk hd).mono (B' := B + 3) (by omega))
       have hM4 := (HM.out.new HB3.out).after HC.out hd.2 (fun k hk hs => HA3.out.dj k hs hk)
       have hp4 : Rd8 Y4 ap np cp p := by
        refine (HPX.out _ HB3.out).keep0 hd.2 fun h0 b hb hs => ?_
        have h1 := HA.out.sd b hs
        rcases h1 with (e | e) | e
        · exact HAP.out h0 b hb e
        · have := HAB.out h0 b hb; omega
        · omega
       have HM4 := Lib.hid hM4
       have HP4 := Lib.hid hp4
       obtain ⟨e, he⟩ : ∃ e, (appendS sx gx.lnm (frameOf p)).2 = e := ⟨_, rfl⟩
       rw [he]
       have HE := Lib.hid he
       clear hd c0 c1 s0 s1 s2 hp4 he
       by_cases h0 : e = 0
       · subst h0
         obtain ⟨s0, s1, s2, _, _⟩ := (hM4.hc x HXM.out).cells
         rw [HXVM.out, HXB.out] at s1
         rw [HXB.out, HZZ.out] at s2
         have hro4 := (hM4.hc x HXM.out).recs
         rw [HXVM.out, HMM.out] at hro4
         have HRO4 := Lib.hid hro4
         have hb54 : (((frameOf p).length : Nat) : Int) = (np : Int) + 12 := by rw [frameOf_length, HNP.out]; omega
         have HFL := Lib.hid hb54
         clear hM4 hro4 s0 s2 hb54
         go_wp2_with fail
         refine wp_region_ht 10 (fun W => W.cell? ⟨xb, 1, none⟩ = some (.slice ar m cr)) (by kernel_rfl) (by kernel_rfl) ?_ (fun hHeld => ?_)
         · exact s1
         try simp only [Act.put, List.setIfInBounds_toArray, List.set_cons_zero, List.set_cons_succ]
         refine wpHT_takeD (i := 0) (d := 68) (v := ?_) (by kernel_rfl) rfl rfl (by decide) (by kernel_rfl) (by kernel_rfl) (fun _ _ _ h => h) (Or.inl ⟨by kernel_rfl, ?_⟩) (by assumption) ?_
         rotate_left
         · intro w hSw; (try dsimp only at hSw); go_simp; (try with_reducible rfl)
         try simp only [Act.put, List.setIfInBounds_toArray, List.set_cons_zero, List.set_cons_succ]
         refine wpHT_takeD (i := 1) (d := 69) (v := ?_) (by kernel_rfl) rfl rfl (by decide) (by kernel_rfl) (by kernel_rfl) (fun _ _ _ h => h) (Or.inl ⟨by kernel_rfl, ?_⟩) (by assumption) ?_
         rotate_left
         · intro w hSw; (try dsimp only at hSw); go_simp; (try with_reducible rfl)
         try simp only [Act.put, List.setIfInBounds_toArray, List.set_cons_zero, List.set_cons_succ]
         refine wpHT_takeD (i := 2) (d := 70) (v := ?_) (by kernel_rfl) rfl rfl (by decide) (by kernel_rfl) (by kernel_rfl) (fun _ _ _ h => h) (Or.inl ⟨by kernel_rfl, ?_⟩) (by assumption) ?_
         rotate_left
         · intro w hSw; (try dsimp only at hSw); go_simp; (try with_reducible rfl)
         try simp only [Act.put, List.setIfInBounds_toArray, List.set_cons_zero, List.set_cons_succ]
         refine wpHT_takeD (i := 3) (d := 71) (v := ?_) (by kernel_rfl) rfl rfl (by decide) (by kernel_rfl) (by kernel_rfl) (fun _ _ _ h => h) (Or.inl ⟨by kernel_rfl, ?_⟩) (by assumption) ?_
         rotate_left
         · intro w hSw; (try dsimp only at hSw); go_simp; (try with_reducible rfl)
         try simp only [Act.put, List.setIfInBounds_toArray, List.set_cons_zero, List.set_cons_succ]
         refine wpHT_takeD (i := 4) (d := 72) (v := ?_) (by kernel_rfl) rfl rfl (by decide) (by kernel_rfl) (by kernel_rfl) (fun _ _ _ h => h) (Or.inl ⟨by kernel_rfl, ?_⟩) (by assumption) ?_
         rotate_left
         · intro w hSw; (try dsimp only at hSw); go_simp; (try with_reducible rfl)
         try simp only [Act.put, List.setIfInBounds_toArray, List.set_cons_zero, List.set_cons_succ]
         refine wpHT_takeD (i := 6) (d := 74) (v := ?_) (by kernel_rfl) rfl rfl (by decide) (by kernel_rfl) (by kernel_rfl) (fun _ _ _ h => h) (Or.inl ⟨by kernel_rfl, ?_⟩) (by assumption) ?_
         rotate_left
         · intro w hSw; (try dsimp only at hSw); go_simp; (try with_reducible rfl)
         try simp only [Act.put, List.setIfInBounds_toArray, List.set_cons_zero, List.set_cons_succ]
         refine wpHT_one (i := 5) (by kernel_rfl) rfl (by decide) (fun K hK => ?_)
         go_simp
         refine hK.out _ _ ?_ (fun hHeld => ?_)
         · exact cell_alloc_keep (w := Y4.drew) s1
         clear hK K
         try simp only [Act.put, List.setIfInBounds_toArray, List.set_cons_zero, List.set_cons_succ]
         refine wpHT_one (i := 7) (by kernel_rfl) rfl (by decide) (fun K hK => ?_)
         refine step_app2 S8 rfl _ _ rfl Y4.heap.size rfl (made0 Y4.drew) rfl (HP4.out.below ((Below.refl _ Y4).drew.alloc (Nat.le_refl _) _)).2 (B8_one _) (by omega) (by unfold maxLen; omega) ((Below.refl 0 Y4.drew).alloc (Nat.zero_le _) _).size ?_
         intro v5 Y5 ho5 hg5 hl5
         have ho5 : Own8 Y5 Y4.heap.size 5 v5 p := Own8.mk ho5 (by have := HNP.out; omega) (by simp)
         obtain ⟨a5, cap5, rfl, hrd5⟩ := ho5.rd
         have hb5 : Below Y4.heap.size Y4 Y5 := ((Below.refl _ Y4).drew.alloc (Nat.le_refl _) _).grown hg5 ((Below.refl 0 Y4.drew).alloc (Nat.zero_le _) _).size (fun k hk => Nat.le_of_eq (Option.some.inj hk))
         have s1 := cell_below s1 hb5
         have HO5 := Lib.hid ho5
         have HB5 := Lib.hid hb5
         clear ho5 hg5 hl5 hrd5 hb5
         refine hK.out _ _ ?_ (fun hHeld => ?_)
         · exact s1
         clear hK K
         try simp only [Act.put, List.setIfInBounds_toArray, List.set_cons_zero, List.set_cons_succ]
         refine wpHT_one (i := 8) (by kernel_rfl) rfl (by decide) (fun K hK => ?_)
         go_simp
         have s1 := cell_alloc_keep (w := Y5) (o := .cells #[.slice a5 p.length cap5] 24) s1
         refine hK.out _ _ ?_ (fun hHeld => ?_)
         · exact s1
         clear hK K
         try simp only [Act.put, List.setIfInBounds_toArray, List.set_cons_zero, List.set_cons_succ]
         refine wpHT_one (i := 9) (by kernel_rfl) rfl (by decide) (fun K hK => ?_)
         refine step_appO S88 rfl _ _ rfl rfl (HRO4.out.new (HB5.out.alloc HB5.out.size _)) rfl (Rd.one _ _ _) (by simp [Value.oneCell']) (by omega) (by unfold maxLen; omega) ?_
         intro v6 Y6 hown6 hg6 hl6
         obtain ⟨a6, cap6, rfl, _⟩ := hown6.rd
         have hpt := HM4.out.putted HC.out HXVM.out (Y := Y5.alloc (.cells #[.slice a5 p.length cap5] 24)) (HB5.out.alloc HB5.out.size _) (HO5.out.alloc _) (by rw [HMM.out]; exact hown6) hg6 (hl6.imp id fun e => e.trans (by simp)) (z := z + (np + 12)) (by rw [HZZ.out, HNP.out])
         rw [HXB.out, HZZ.out] at hpt
         have hpt1 := hpt.1.1
         have HPT := Lib.hid hpt
         clear hown6 hg6 hl6 hpt
         refine hK.out _ _ ?_ (fun hHeld => ?_)
         · exact hpt1
         clear hK K
         try simp only [Act.put, List.setIfInBounds_toArray, List.set_cons_zero, List.set_cons_succ]
         refine wpHT_done (by kernel_rfl) ?_
         simp only [List.drop_succ_cons, List.drop_zero]
         clear hHeld
         obtain ⟨⟨p1, p2, p3, p4⟩, p5, p6, p7⟩ := HPT.out
         have P5 := Lib.hid p5
         have P6 := Lib.hid p6
         have P7 := Lib.hid p7
         have hfl := HFL.out
         clear p5 p6 p7 HPT
         go_wp2_with fail
         go_ret2
         have hzc : ((z : Int) + ((np : Int) + 12)) = ((z + (np + 12) : Nat) : Int) := by omega
         rw [hzc]
         refine putL_post HTX.out HLE.out.1 HLE.out.2 HE.out (HA4.out.log (Sl' := Sx Sl Y4 _) ⟨_, _, P5.out, rfl, P7.out, fun k hk => ?_⟩ P6.out (fun k hk => hk)) (fun _ => ?_) (fun h => absurd rfl h) (fun _ => by rw [HN.out]) (fun h => absurd rfl h)
         · rcases hk with hk | hk
           · exact Nat.lt_of_lt_of_le (HA4.out.lt.2 k hk) P6.out.size
           · exact hk.2
         · rw [List.map_append, HP.out, ← HX.out]; rfl
       · have hbE : (e == 0) = false := by simpa using h0
         have hbE' : (e != 0) = true := by simpa using h0
         have HG : Hid (AppPost (B + 3) w d l T s g p (.returned (.tuple #[.int .i64 0, .int .i64 e])) Y4) := putL_post HTX.out HLE.out.1 HLE.out.2 HE.out HA4.out (fun h => absurd h h0) (fun _ => rfl) (fun h => absurd h h0) (fun _ => rfl)
         clear hM4 h0
         go_wp2_with fail
         go_ret2
         exact HG.out
     · have hA4 := HA4.out
       rw [if_neg hc0] at hA4
       have hr4 := rollL_err (s := sy) (g := gy) (n := n) hc0
       have hne : (turnL s g).e ≠ 0 := by rw [HR3.out, HN.out, hr4]; exact hc0
       have hap := appL_turn (s := s) (g := g) (p := p) HLE.out.1 HLE.out.2 hne
       obtain ⟨q1, q2⟩ := LAt.fin (g := gy) hA4
       obtain ⟨r1, r2⟩ := LWS.trans HF3.out q1 q2 HT0.out
       have hg : AppPost (B + 3) w d l T s g p (.returned (.tuple #[.int .i64 0, .int .i64 (createS sy (segN gy.dir n)).2])) w4 := by
        refine ⟨?_, ?_, r2⟩
        · rw [hap.1, hap.2, HR3.out, HN.out, hr4]
        · rw [hap.1, HR3.out, HN.out, hr4]; exact r1.mono (by omega) (fun k hk => hk) r1.lt
       have HG := Lib.hid hg
       have hbE : ((createS sy (segN gy.dir n)).2 != 0) = true := by simpa using hc0
       clear hA4 hr4 hne hap q1 q2 r1 r2 hg hc0 hturn
       obtain ⟨e, he⟩ : ∃ e, (createS sy (segN gy.dir n)).2 = e := ⟨_, rfl⟩
       rw [he] at HG hbE ⊢
       clear he
       go_wp2_with fail
       go_ret2
       exact HG.out
   · have hts := turnL_sync (Int.not_lt.2 HFU.out) h0
     have hne : (turnL s g).e ≠ 0 := by rw [hts]; exact h0
     have hap := appL_turn (s := s) (g := g) (p := p) HLE.out.1 HLE.out.2 hne
     have hg : AppPost (B + 3) w d l T s g p (.returned (.tuple #[.int .i64 0, .int .i64 (syncL s g).e])) w3 := by
      refine ⟨?_, ?_, HF3.out⟩
      · rw [hap.1, hap.2, hts]
      · rw [hap.1, hts]; exact HW3.out.mono (by omega) (fun k hk => hk) HW3.out.lt
     have HG := Lib.hid hg
     have hbE : ((syncL s g).e != 0) = true := by simpa using h0
     clear hts hne hap hg h0
     obtain ⟨e, he⟩ : ∃ e, (syncL s g).e = e := ⟨_, rfl⟩
     rw [he] at HG hbE ⊢
     clear he
     go_wp2_with fail
     go_ret2
     exact HG.out
end Go.Proofs.YtjjcilinghgphaaGreat

/-! ### A log's Trim. -/
namespace Go.Proofs.YtjjcilinghgphaaGreat
open Go.RowKit Go.Maps
set_option maxRecDepth 100000
attribute [local go_sem] bs_size bs_toList
theorem trimP_stop {dir : List UInt8} {la : Sg} {below : Int} {s : DS} {x : Sg} {r : List Sg} (h : ¬ ((r.head?.getD la).f : Int) ≤ below) : trimP dir la below s (x :: r) = (s, x :: r, 0) := by
 unfold trimP; rw [if_neg h]
theorem trimP_err {dir : List UInt8} {la : Sg} {below : Int} {s : DS} {x : Sg} {r : List Sg} (h : ((r.head?.getD la).f : Int) ≤ below) (h0 : (removeS s (segN dir x.f)).2 ≠ 0) : trimP dir la below s (x :: r) = ((removeS s (segN dir x.f)).1, x :: r, (removeS s (segN dir x.f)).2) := by
 unfold trimP; rw [if_pos h, if_neg h0]
theorem trimP_next {dir : List UInt8} {la : Sg} {below : Int} {s : DS} {x : Sg} {r : List Sg} (h : ((r.head?.getD la).f : Int) ≤ below) (h0 : (removeS s (segN dir x.f)).2 = 0) : trimP dir la below s (x :: r) = trimP dir la below (removeS s (segN dir x.f)).1 r := by
 rw [trimP, if_pos h, if_pos h0]
/-- How far Trim is. -/
structure TrimAt (w : World) (T : Nat → Prop) (d l : Nat) (B : Int) (s : DS) (g : LG) (below : Int) (k : Nat) (Sd Sl : Nat → Prop) (s' : DS) (pre : List Sg) (W : World) : Prop where
 len : pre.length = k
 sub : ∀ x ∈ pre, x ∈ g.pre
 at' : LAt w T d l (B + g.pre.length - (k : Nat)) Sd Sl s' g.dir g.room g.sf (pre ++ [g.la]) W
 eq : trimP g.dir g.la below s g.pre = trimP g.dir g.la below s' pre
theorem TrimAt.fin {w W : World} {T : Nat → Prop} {d l : Nat} {B B' : Int} {s s1 : DS} {g : LG} {below : Int} {Sd Sl : Nat → Prop} {pre : List Sg} {e : Int} (hl : g.pre.length ≤ 100000000) (hB : B' ≤ B + g.pre.length) (hA : LAt w T d l B' Sd Sl s1 g.dir g.room g.sf (pre ++ [g.la]) W) (he : trimP g.dir g.la below s g.pre = (s1, pre, e)) :
 LTold (B + 100000000) w d l T (trimL s g below) (.returned (.int .i64 e)) W := by
 have ht : trimL s g below = ⟨s1, { g with pre := pre }, e⟩ := by unfold trimL; rw [he]
 rw [ht]
 exact LAt.told (g := { g with pre := pre }) (hA.mono (by omega))
set_option maxHeartbeats 2000000 in
theorem wtrim_any {w : World} {d l : Nat} {T : Nat → Prop} {B : Int} {s : DS} {g : LG} (hB : B < 999000000000) (h : LWS B w d l T s g) (hk : LOk s g) (below : Int) :
 Calls Tryz.prog 43 #[.pointer (some ⟨l, 0, none⟩), .int .i64 below] w (LTold (B + 100000000) w d l T (trimL s g below)) := by
 obtain ⟨Sd, Sl, hA⟩ := h.open
 have hst : TrimAt w T d l B s g below g.pre.length Sd Sl s g.pre w := ⟨rfl, fun x hx => hx, hA.mono (by omega), rfl⟩
 have HK := Lib.hid hk
 have HPL := Lib.hid hk.pre_len
 have HST := Lib.hid hst
 clear h hk hA hst
 go_enter Tryz.func43, Tryz.ntmps43
 go_wp2_with fail
 go_loopg [5] g.pre.length (fun k _ wr => ∃ (Sd Sl : Nat → Prop) (s' : DS) (pre : List Sg), Hid (TrimAt w T d l B s g below k Sd Sl s' pre wr))
 case atStart => exact ⟨Sd, Sl, s, g.pre, HST.out⟩
 case round =>
  clear HST
  obtain ⟨Sd, Sl, s', pre, HT⟩ := hrel
  obtain ⟨sv, L, hM, hL, hC, hlt⟩ := HT.out.at'.lg
  obtain ⟨c0, c1, _, c3, _, _, _⟩ := hM.cells
  have hpl := HPL.out
  have hLl : L.length = pre.length + 1 := by rw [← List.length_map (f := Sv.sg), hL]; simp
  cases pre with
  | nil =>
   obtain ⟨a, cap, rfl, _⟩ := hM.hs.rd
   rw [hLl] at c3
   have HG : Hid (LTold (B + 100000000) w d l T (trimL s g below) (.returned (.int .i64 0)) wr) := TrimAt.fin (by omega) (by have := HT.out.len; simp at this; omega) HT.out.at' HT.out.eq
   have hd : decide ((1 : Int) < (([] : List Sg).length + 1 : Nat)) = false := by decide
   clear hM hL hC hlt
   go_wp2_with fail
   go_ret
   exact HG.out
  | cons x r =>
   obtain ⟨X, Lr, rfl, hX, hLr⟩ : ∃ X Lr, L = X :: Lr ∧ X.sg = x ∧ Lr.map Sv.sg = r ++ [g.la] := by
    cases L with
    | nil => simp at hL
    | cons X Lr => simp at hL; exact ⟨X, Lr, rfl, hL.1, hL.2⟩
   obtain ⟨Y, hY1, hY⟩ : ∃ Y, (X :: Lr)[1]? = some Y ∧ Y.sg = r.head?.getD g.la := by
    cases Lr with
    | nil => simp at hLr
    | cons Y q =>
     refine ⟨Y, rfl, ?_⟩
     cases r with
     | nil => simp at hLr; exact hLr.1
     | cons z r => simp at hLr; exact hLr.1
   obtain ⟨rr, off, cap, rfl, hp0, hs0⟩ := hM.at (i := 0) rfl
   obtain ⟨rr', off', cap', e1, hp1, hs1⟩ := hM.at hY1
   simp only [Value.slice.injEq, Option.some.injEq, Addr.mk.injEq] at e1
   obtain ⟨⟨rfl, rfl, _⟩, _, rfl⟩ := e1
   simp only [Nat.add_zero] at hp0
   obtain ⟨t0, _, _, _, _⟩ := hs0.cells
   obtain ⟨u0, _, _, _, _⟩ := hs1.cells
   have hxm := HT.out.sub x (by simp)
   have hsx := HK.out.num x (by unfold LG.segs; exact List.mem_append_left _ hxm)
   have hf2 := hsx.f2
   have hdl := HK.out.d2
   rw [hX] at t0
   rw [hY] at u0
   have hmx := hM.len
   unfold maxLen at hmx
   obtain ⟨n, hn⟩ : ∃ n, (X :: Lr).length = n := ⟨_, rfl⟩
   have hn2 : 1 < n := by rw [← hn, hLl]; simp
   have hM' := hM
   have hC' := hC
   rw [hn] at c3 hmx hM' hC'
   obtain ⟨f, hf⟩ : ∃ f, x.f = f := ⟨_, rfl⟩
   obtain ⟨yf, hyf⟩ : ∃ yf, (r.head?.getD g.la).f = yf := ⟨_, rfl⟩
   obtain ⟨dir, hdir⟩ : ∃ dir, g.dir = dir := ⟨_, rfl⟩
   obtain ⟨xb, hxb⟩ : ∃ xb, X.b = xb := ⟨_, rfl⟩
   obtain ⟨yb, hyb⟩ : ∃ yb, Y.b = yb := ⟨_, rfl⟩
   rw [hf] at t0 hf2
   rw [hyf] at u0
   rw [hdir] at c1 hdl
   rw [hxb] at hp0 t0
   rw [hyb] at hp1 u0
   have HN := Lib.hid hn
   have HM := Lib.hid hM'
   have HC := Lib.hid hC'
   have HLR := Lib.hid hLr
   have HF := Lib.hid hf
   have HYF := Lib.hid hyf
   have HDIR := Lib.hid hdir
   have HF2 := Lib.hid hf2
   have HDL := Lib.hid hdl
   have HLT := Lib.hid hlt
   clear hM hM' hL hC hC' hLr hX hY1 hY hs0 hs1 hxm hsx hLl hn hf hyf hdir hxb hyb hlt hf2 hdl
   by_cases hle : (yf : Int) ≤ below
   · have d1 : decide ((yf : Int) ≤ below) = true := by simpa using hle
     have d2 : decide (1 < n) = true := by simpa using hn2
     go_wp2_with fail
     have hn0 : 0 < n := by omega
     refine wp_region_ht 18 (fun W => W.cell? ⟨l, 0, none⟩ = some (.pointer (some ⟨d, 0, none⟩)) ∧ W.cell? ⟨l, 1, none⟩ = some (.string (bs dir)) ∧ W.cell? ⟨l, 3, none⟩ = some (.slice (some ⟨rr, off, none⟩) n cap) ∧ W.cell? ⟨rr, off, none⟩ = some (.pointer (some ⟨xb, 0, none⟩)) ∧ W.cell? ⟨xb, 0, none⟩ = some (.int .i64 (f : Nat))) (by kernel_rfl) (by kernel_rfl) ?_ (fun hHeld => ?_)
     · exact ⟨c0, c1, c3, hp0, t0⟩
     try simp only [Act.put, List.setIfInBounds_toArray, List.set_cons_zero, List.set_cons_succ]
     refine wpHT_takeD (i := 0) (d := 25) (v := ?_) (by kernel_rfl) rfl rfl (by decide) (by kernel_rfl) (by kernel_rfl) (fun _ _ _ h => h) (Or.inl ⟨by kernel_rfl, ?_⟩) (by assumption) ?_
     rotate_left
     · intro w hSw; (try dsimp only at hSw); go_simp; (try with_reducible rfl)
     try simp only [Act.put, List.setIfInBounds_toArray, List.set_cons_zero, List.set_cons_succ]
     refine wpHT_takeD (i := 1) (d := 26) (v := ?_) (by kernel_rfl) rfl rfl (by decide) (by kernel_rfl) (by kernel_rfl) (fun _ _ _ h => h) (Or.inl ⟨by kernel_rfl, ?_⟩) (by assumption) ?_
     rotate_left
     · intro w hSw; (try dsimp only at hSw); go_simp; (try with_reducible rfl)
     try simp only [Act.put, List.setIfInBounds_toArray, List.set_cons_zero, List.set_cons_succ]
     refine wpHT_takeD (i := 2) (d := 27) (v := ?_) (by kernel_rfl) rfl rfl (by decide) (by kernel_rfl) (by kernel_rfl) (fun _ _ _ h => h) (Or.inl ⟨by kernel_rfl, ?_⟩) (by assumption) ?_
     rotate_left
     · intro w hSw; (try dsimp only at hSw); go_simp; (try with_reducible rfl)
     try simp only [Act.put, List.setIfInBounds_toArray, List.set_cons_zero, List.set_cons_succ]
     refine wpHT_takeD (i := 3) (d := 28) (v := ?_) (by kernel_rfl) rfl rfl (by decide) (by kernel_rfl) (by kernel_rfl) (fun _ _ _ h => h) (Or.inl ⟨by kernel_rfl, ?_⟩) (by assumption) ?_
     rotate_left
     · intro w hSw; (try dsimp only at hSw); go_simp; (try with_reducible rfl)
     try simp only [Act.put, List.setIfInBounds_toArray, List.set_cons_zero, List.set_cons_succ]
     refine wpHT_takeD (i := 4) (d := 29) (v := ?_) (by kernel_rfl) rfl rfl (by decide) (by kernel_rfl) (by kernel_rfl) (fun _ _ _ h => h) (Or.inl ⟨by kernel_rfl, ?_⟩) (by assumption) ?_
     rotate_left
     · intro w hSw; (try dsimp only at hSw); go_simp; (try with_reducible rfl)
     try simp only [Act.put, List.setIfInBounds_toArray, List.set_cons_zero, List.set_cons_succ]
     refine wpHT_takeD (i := 5) (d := 30) (v := ?_) (by kernel_rfl) rfl rfl (by decide) (by kernel_rfl) (by kernel_rfl) (fun _ _ _ h => h) (Or.inl ⟨by kernel_rfl, ?_⟩) (by assumption) ?_
     rotate_left
     · intro w hSw; (try dsimp only at hSw); go_simp; (try with_reducible rfl)
     try simp only [Act.put, List.setIfInBounds_toArray, List.set_cons_zero, List.set_cons_succ]
     refine wpHT_takeD (i := 6) (d := 31) (v := ?_) (by kernel_rfl) rfl rfl (by decide) (by kernel_rfl) (by kernel_rfl) (fun _ _ _ h => h) (Or.inl ⟨by kernel_rfl, ?_⟩) (by assumption) ?_
     rotate_left
     · intro w hSw; (try dsimp only at hSw); go_simp; (try with_reducible rfl)
     try simp only [Act.put, List.setIfInBounds_toArray, List.set_cons_zero, List.set_cons_succ]
     refine wpHT_takeD (i := 7) (d := 32) (v := ?_) (by kernel_rfl) rfl rfl (by decide) (by kernel_rfl) (by kernel_rfl) (fun _ _ _ h => h) (Or.inl ⟨by kernel_rfl, ?_⟩) (by assumption) ?_
     rotate_left
     · intro w hSw; (try dsimp only at hSw); go_simp; (try with_reducible rfl)
     try simp only [Act.put, List.setIfInBounds_toArray, List.set_cons_zero, List.set_cons_succ]
     refine wpHT_takeD (i := 8) (d := 33) (v := ?_) (by kernel_rfl) rfl rfl (by decide) (by kernel_rfl) (by kernel_rfl) (fun _ _ _ h => h) (Or.inl ⟨by kernel_rfl, ?_⟩) (by assumption) ?_
     rotate_left
     · intro w hSw; (try dsimp only at hSw); go_simp; (try with_reducible rfl)
     try simp only [Act.put, List.setIfInBounds_toArray, List.set_cons_zero, List.set_cons_succ]
     refine wpHT_takeD (i := 9) (d := 34) (v := ?_) (by kernel_rfl) rfl rfl (by decide) (by kernel_rfl) (by kernel_rfl) (fun _ _ _ h => h) (Or.inl ⟨by kernel_rfl, ?_⟩) (by assumption) ?_
     rotate_left
     · intro w hSw; (try dsimp only at hSw); go_simp; (try with_reducible rfl)
     try simp only [Act.put, List.setIfInBounds_toArray, List.set_cons_zero, List.set_cons_succ]
     refine wpHT_takeD (i := 10) (d := 35) (v := ?_) (by kernel_rfl) rfl rfl (by decide) (by kernel_rfl) (by kernel_rfl) (fun _ _ _ h => h) (Or.inl ⟨by kernel_rfl, ?_⟩) (by assumption) ?_
     rotate_left
     · intro w hSw; (try dsimp only at hSw); go_simp; (try with_reducible rfl)
     try simp only [Act.put, List.setIfInBounds_toArray, List.set_cons_zero, List.set_cons_succ]
     refine wpHT_takeD (i := 11) (d := 36) (v := ?_) (by kernel_rfl) rfl rfl (by decide) (by kernel_rfl) (by kernel_rfl) (fun _ _ _ h => h) (Or.inl ⟨by kernel_rfl, ?_⟩) (by assumption) ?_
     rotate_left
     · intro w hSw; (try dsimp only at hSw); go_simp; (try with_reducible rfl)
     try simp only [Act.put, List.setIfInBounds_toArray, List.set_cons_zero, List.set_cons_succ]
     refine wpHT_takeD (i := 12) (d := 37) (v := ?_) (by kernel_rfl) rfl rfl (by decide) (by kernel_rfl) (by kernel_rfl) (fun _ _ _ h => h) (Or.inl ⟨by kernel_rfl, ?_⟩) (by assumption) ?_
     rotate_left
     · intro w hSw; (try dsimp only at hSw); go_simp; (try with_reducible rfl)
     try simp only [Act.put, List.setIfInBounds_toArray, List.set_cons_zero, List.set_cons_succ]
     refine wpHT_takeD (i := 13) (d := 38) (v := ?_) (by kernel_rfl) rfl rfl (by decide) (by kernel_rfl) (by kernel_rfl) (fun _ _ _ h => h) (Or.inl ⟨by kernel_rfl, ?_⟩) (by assumption) ?_
     rotate_left
     · intro w hSw; (try dsimp only at hSw); go_simp; (try with_reducible rfl)
     try simp only [Act.put, List.setIfInBounds_toArray, List.set_cons_zero, List.set_cons_succ]
     refine wpHT_takeD (i := 14) (d := 39) (v := ?_) (by kernel_rfl) rfl rfl (by decide) (by kernel_rfl) (by kernel_rfl) (fun _ _ _ h => h) (Or.inl ⟨by kernel_rfl, ?_⟩) (by assumption) ?_
     rotate_left
     · intro w hSw; (try dsimp only at hSw); go_simp; (try with_reducible rfl)
     try simp only [Act.put, List.setIfInBounds_toArray, List.set_cons_zero, List.set_cons_succ]
     refine wpHT_takeD (i := 15) (d := 40) (v := ?_) (by kernel_rfl) rfl rfl (by decide) (by kernel_rfl) (by kernel_rfl) (fun _ _ _ h => h) (Or.inl ⟨by kernel_rfl, ?_⟩) (by assumption) ?_
     rotate_left
     · intro w hSw; (try dsimp only at hSw); go_simp; (try with_reducible rfl)
     try simp only [Act.put, List.setIfInBounds_toArray, List.set_cons_zero, List.set_cons_succ]
     refine wpHT_takeD (i := 16) (d := 41) (v := ?_) (by kernel_rfl) rfl rfl (by decide) (by kernel_rfl) (by kernel_rfl) (fun _ _ _ h => h) (Or.inl ⟨by kernel_rfl, ?_⟩) (by assumption) ?_
     rotate_left
     · intro w hSw; (try dsimp only at hSw); go_simp; (try with_reducible rfl)
     try simp only [Act.put, List.setIfInBounds_toArray, List.set_cons_zero, List.set_cons_succ]
     refine wpHT_one (i := 17) (by kernel_rfl) rfl (by decide) (fun K hK => ?_)
     go_simp
     go_at_call 56
     refine (file_any dir f HF2.out (by have := HDL.out; omega) _).mono ?_
     rintro e w2 ⟨rfl, hb⟩
     have hb' : Below wr.heap.size wr w2 := (Below.refl _ wr).drew.trans hb
     have HB2 := Lib.hid hb'
     have c0 := cell_below c0 hb'
     have c1 := cell_below c1 hb'
     have c3 := cell_below c3 hb'
     have hp0 := cell_below hp0 hb'
     have t0 := cell_below t0 hb'
     clear hb hb'
     refine hK.out _ _ ?_ (fun hHeld => ?_)
     · exact ⟨c0, c1, c3, hp0, t0⟩
     clear hK K
     try simp only [Act.put, List.setIfInBounds_toArray, List.set_cons_zero, List.set_cons_succ]
     refine wpHT_done (by kernel_rfl) ?_
     simp only [List.drop_succ_cons, List.drop_zero]
     clear hHeld
     have HA2 := Lib.hid (HT.out.at'.new HB2.out)
     have hk1 := HT.out.len
     rw [List.length_cons] at hk1
     go_wp2_with fail
     go_at_call 79
     refine (remove_any d Sd (B + g.pre.length - (gk : Nat)) (by have := HPL.out; omega) s' (segN dir f) (by rw [segN_length]; have := HDL.out; omega) w2 HA2.out.dk).mono ?_
     rintro e w3 ⟨rfl, hd⟩
     have HA3 := Lib.hid (HA2.out.disk hd)
     have hM3 := (HM.out.new HB2.out).after HC.out hd.2 (fun k hk hs => HA2.out.dj k hs hk)
     have HM3 := Lib.hid hM3
     clear hd c0 c1 c3 hp0 hp1 t0 u0
     by_cases h0 : (removeS s' (segN dir f)).2 = 0
     · rw [h0]
       have htn : trimP g.dir g.la below s g.pre = trimP g.dir g.la below (removeS s' (segN dir f)).1 r := by
        rw [HT.out.eq, trimP_next (by rw [HYF.out]; exact hle) (by rw [HDIR.out, HF.out]; exact h0), HDIR.out, HF.out]
       have HTN := Lib.hid htn
       obtain ⟨_, _, _, c3, _, f3, _⟩ := hM3.cells
       have hs3 := hM3.hs
       rw [HN.out] at hs3
       obtain ⟨v1, hrun, ho1, hbk1⟩ := run_sliceO Sseg hs3 1 (by omega)
       obtain ⟨a1, cap1, rfl, _⟩ := ho1.rd
       have hrun' : ∀ w', (Instr.slice 84 (.slice (some ⟨rr, off, none⟩) n cap) (some (.int .i64 1)) none none).run Tryz.prog w' = .ok (.slice a1 (n - 1) cap1) w' := hrun
       have hbb := hM3.blocks
       have hrow3 := hM3.hd
       have hpop : LgM (w3.setCell ⟨l, 3, none⟩ (.slice a1 (n - 1) cap1)) l d g.dir g.room g.sf (.slice a1 (n - 1) cap1) Lr := by
        have hfr : Fr (fun k => k = l) w3 (w3.setCell ⟨l, 3, none⟩ (.slice a1 (n - 1) cap1)) := (Fr.refl (fun k => k = l) w3).setCell (p := ⟨l, 3, none⟩) (fun _ => rfl) _
        have hLr1 : Lr.length = n - 1 := by rw [← HN.out]; simp
        refine hM3.pop hfr (row_set hrow3 rfl) ?_
        rw [hLr1]
        refine OwnO.keep (w := w3) (by simpa using ho1) fun k hk => hfr.block k (hbb.2.1 k (by rw [← hbk1]; exact hk)) fun e => ?_
        exact (hM3.apart.1 k (by rw [← hbk1]; exact hk)).1 e
       have hcov : CovL Sl l (.slice a1 (n - 1) cap1) Lr := ⟨HC.out.cl, fun k hk => HC.out.cs k (by rw [← hbk1]; exact hk), fun y hy => HC.out.cx y (List.mem_cons_of_mem _ hy)⟩
       have hfrl : Fr Sl w3 (w3.setCell ⟨l, 3, none⟩ (.slice a1 (n - 1) cap1)) := (Fr.refl Sl w3).setCell (p := ⟨l, 3, none⟩) (fun _ => HC.out.cl) _
       have hA4 := HA3.out.log (Sl' := Sl) ⟨_, _, hpop, HLR.out, hcov, fun k hk => Nat.lt_of_lt_of_le (HA3.out.lt.2 k hk) hfrl.size⟩ hfrl (fun k hk => .inl hk)
       have HA4 := Lib.hid hA4
       clear hM3 h0 htn hs3 hrun ho1 hbk1 hbb hrow3 hpop hcov hfrl hA4 d1 d2
       go_wp2_with fail
       go_roundg r.length
       case measure => omega
       case rel => exact ⟨_, Sl, _, r, ⟨rfl, fun y hy => HT.out.sub y (List.mem_cons_of_mem _ hy), HA4.out.mono (by omega), HTN.out⟩⟩
     · have htn : trimP g.dir g.la below s g.pre = ((removeS s' (segN dir f)).1, x :: r, (removeS s' (segN dir f)).2) := by
        rw [HT.out.eq, trimP_err (by rw [HYF.out]; exact hle) (by rw [HDIR.out, HF.out]; exact h0), HDIR.out, HF.out]
       have HG : Hid (LTold (B + 100000000) w d l T (trimL s g below) (.returned (.int .i64 (removeS s' (segN dir f)).2)) w3) := TrimAt.fin (by have := HPL.out; omega) (by omega) HA3.out htn
       have hbE : ((removeS s' (segN dir f)).2 != 0) = true := by simpa using h0
       clear hM3 h0 htn d1 d2
       obtain ⟨e, he⟩ : ∃ e, (removeS s' (segN dir f)).2 = e := ⟨_, rfl⟩
       rw [he] at HG hbE ⊢
       clear he
       go_wp2_with fail
       go_ret
       exact HG.out
   · have HG : Hid (LTold (B + 100000000) w d l T (trimL s g below) (.returned (.int .i64 0)) wr) := TrimAt.fin (by have := HPL.out; omega) (by have := HT.out.len; omega) HT.out.at' (by rw [HT.out.eq, trimP_stop (by rw [HYF.out]; exact hle)])
     have d1 : decide ((yf : Int) ≤ below) = false := by simpa using hle
     have d2 : decide (1 < n) = true := by simpa using hn2
     go_wp2_with fail
     go_ret
     exact HG.out
end Go.Proofs.YtjjcilinghgphaaGreat

/-! ### The number of a file's name (wal.number). -/
namespace Go.Proofs.YtjjcilinghgphaaGreat
open Go.RowKit Go.Maps
set_option maxRecDepth 100000
attribute [local go_sem] bs_size bs_toList bs_get
theorem valA_snoc : ∀ (l : List UInt8) (a : Nat) (c : UInt8), valA a (l ++ [c]) = valA a l * 10 + (c.toNat - 48)
 | [], _, _ => rfl
 | x :: l, a, c => valA_snoc l _ c
theorem bs_takeV (l : List UInt8) (k : Nat) : (bs l).extract 0 k = bs (l.take k) := by
 apply ByteArray.ext
 rw [ByteArray.data_extract]
 simp [bs]
theorem bs_dropV (l : List UInt8) (k : Nat) : (bs l).extract k l.length = bs (l.drop k) := by
 apply ByteArray.ext
 rw [ByteArray.data_extract]
 simp [bs]
 rw [List.take_of_length_le (by simp)]
/-- A string's bytes in new memory. -/
theorem run_toBytes {P : Program} (w : World) (src dst e : TypeId) (q : List UInt8) (hs : P.underlying src = some .string) (hd : P.underlying dst = some (.slice e)) (he : P.underlying e = some (.int .u8)) :
 ∃ cap W1, (convert src dst (.string (bs q))).run P w = .ok (.slice (some ⟨w.heap.size, 0, none⟩) q.length cap) W1 ∧ Below w.heap.size w W1 ∧ ∀ j, j < q.length → W1.cell? ⟨w.heap.size, j, none⟩ = some (.int .u8 ((bAt q j).toNat : Int)) := by
 have h := run_bytes_of_string w src dst e (bs q) hs hd he
 rw [bs_size] at h
 refine ⟨_, _, h, (Below.refl _ w).drew.alloc (Nat.le_refl _) _, fun j hj => ?_⟩
 have hc := World.cell?_alloc_mark w.drew (bytesRow (bs q) (grownCap w q.length 0 e)) e ((bytesRow (bs q) (grownCap w q.length 0 e)).size, (bytesRow (bs q) (grownCap w q.length 0 e)).size + 1) j
 have hc' : (w.drew.alloc (.cells (bytesRow (bs q) (grownCap w q.length 0 e)) e ((bytesRow (bs q) (grownCap w q.length 0 e)).size, (bytesRow (bs q) (grownCap w q.length 0 e)).size + 1))).cell? ⟨w.heap.size, j, none⟩ = _ := hc
 rw [hc', bytesRow_at (bs q) _ j (by simp [bs]; exact hj)]
 simp [bs, bAt, hj]
def NumPost (w : World) (n : Nat) (e : Ending) (w' : World) : Prop := e = .returned (.int .i64 (n : Nat)) ∧ Below w.heap.size w w'
set_option maxHeartbeats 2000000 in
theorem number_any (dir nm : List UInt8) (hd : dir.length ≤ 1000000) (hn : nm.length ≤ 9223372036854775807) (w : World) :
 Calls Tryz.prog 49 #[.string (bs dir), .string (bs nm)] w (NumPost w (numS dir nm)) := by
 have w9 : IntKind.i64.wrap ((dir.length : Int) + 9) = (dir.length : Int) + 9 := IntWalk.i64_in _ (by omega)
 by_cases h1 : nm.length = dir.length + 9
 case neg =>
  have hz : Hid (numS dir nm = 0) := by show _ = _; unfold numS; rw [if_neg (fun h => h1 h.1)]
  have d1 : ((nm.length : Int) != (dir.length : Int) + 9) = true := by simp; omega
  clear h1
  go_enter Tryz.func49, Tryz.ntmps49
  go_wp2
  go_ret
  exact ⟨by rw [hz.out]; rfl, Below.refl _ _⟩
 case pos =>
 have hle : dir.length ≤ nm.length := by omega
 have hlt : dir.length < nm.length := by omega
 have q1 : (bs nm).extract 0 dir.length = bs (nm.take dir.length) := bs_takeV nm _
 have d1 : ((nm.length : Int) != (dir.length : Int) + 9) = false := by simp; omega
 by_cases h2 : nm.take dir.length = dir
 case neg =>
  have hz : Hid (numS dir nm = 0) := by show _ = _; unfold numS; rw [if_neg (fun h => h2 h.2.1)]
  have d2 : (nm.take dir.length == dir) = false := by simpa using h2
  have H1 := Lib.hid h1
  clear h1 h2
  go_enter Tryz.func49, Tryz.ntmps49
  go_wp2
  go_ret
  exact ⟨by rw [hz.out]; rfl, Below.refl _ _⟩
 case pos =>
 have d2 : (nm.take dir.length == dir) = true := by simpa using h2
 have hg : nm.getD dir.length 0 = bAt nm dir.length := rfl
 by_cases h3 : bAt nm dir.length = 46
 case neg =>
  have hz : Hid (numS dir nm = 0) := by show _ = _; unfold numS; rw [if_neg (fun h => h3 h.2.2.1)]
  have d3 : (((bAt nm dir.length).toNat : Int) != 46) = true := by
   simp only [bne_iff_ne, ne_eq]
   intro e
   exact h3 (UInt8.toNat_inj.1 (by have : (bAt nm dir.length).toNat = 46 := (by omega); rw [this]; rfl))
  have H1 := Lib.hid h1
  have H2 := Lib.hid h2
  clear h1 h2 h3 hg
  go_enter Tryz.func49, Tryz.ntmps49
  go_wp2
  go_ret
  exact ⟨by rw [hz.out]; rfl, Below.refl _ _⟩
 case pos =>
 have d3 : (((bAt nm dir.length).toNat : Int) != 46) = false := by rw [h3]; rfl
 have q2 : (bs nm).extract (dir.length + 1) nm.length = bs (nm.drop (dir.length + 1)) := bs_dropV nm _
 obtain ⟨q, hq⟩ : ∃ q, nm.drop (dir.length + 1) = q := ⟨_, rfl⟩
 have hql : q.length = 8 := by rw [← hq, List.length_drop]; omega
 have hnum : numS dir nm = if q.all isD = true then valA 0 q else 0 := by
  unfold numS
  rw [hq]
  by_cases hq2 : q.all isD = true
  · rw [if_pos ⟨h1, h2, h3, hq2⟩, if_pos hq2]
  · rw [if_neg (fun h => hq2 h.2.2.2), if_neg hq2]
 rw [hq] at q2
 obtain ⟨cap, W1, hrun, hbW, hcell⟩ := run_toBytes (P := Tryz.prog) w 9 24 5 q Tryz.underlying9 Tryz.underlying24 Tryz.underlying5
 rw [hql] at hrun hcell
 have HNUM := Lib.hid hnum
 have HQL := Lib.hid hql
 have HC := Lib.hid hcell
 have HB := Lib.hid hbW
 have H1 := Lib.hid h1
 have H2 := Lib.hid h2
 have w1 : IntKind.i64.wrap ((dir.length : Int) + 1) = (dir.length : Int) + 1 := IntWalk.i64_in _ (by omega)
 have hs1 : dir.length + 1 ≤ nm.length := by omega
 have hs2 : nm.length - (dir.length + 1) = 8 := by omega
 clear hnum hql hcell hbW h1 h2 h3 hg hq
 go_enter Tryz.func49, Tryz.ntmps49
 go_wp2
 clear d1 d2 d3 q1 q2 hrun
 go_loop [5, 36] (fun n i => ∃ k : Nat, k ≤ 8 ∧ i = .int .i64 (k : Nat) ∧ n = .int .i64 (valA 0 (q.take k) : Nat) ∧ Hid ((q.take k).all isD = true)) (fun _ i => 8 - (intOf i).toNat)
 case atStart => exact ⟨0, by omega, rfl, rfl, rfl⟩
 case round =>
  obtain ⟨k, hk, rfl, rfl, HALL⟩ := hrel
  by_cases hlt8 : k < 8
  · have hc := HC.out k hlt8
    have hsn : q.take (k + 1) = q.take k ++ [bAt q k] := by
     rw [List.take_succ_eq_append_getElem (by rw [HQL.out]; exact hlt8)]
     congr 2
     simp [bAt, HQL.out, hlt8]
    have hv := valA_bd (q.take k) 0 HALL.out
    have hvl : (q.take k).length ≤ 7 := by rw [List.length_take]; omega
    have hpw : 10 ^ (q.take k).length ≤ 10 ^ 7 := Nat.pow_le_pow_right (by omega) hvl
    have hvb : valA 0 (q.take k) ≤ 10000000 := by
     have h7 : (10 : Nat) ^ 7 = 10000000 := by decide
     rw [h7] at hpw
     omega
    have hval := valA_snoc (q.take k) 0 (bAt q k)
    obtain ⟨c, hcc⟩ : ∃ c, bAt q k = c := ⟨_, rfl⟩
    rw [hcc] at hc hsn hval
    have HSN := Lib.hid hsn
    have HVAL := Lib.hid hval
    have hy255 : c.toNat ≤ 255 := by have := c.toNat_lt; omega
    obtain ⟨v, hv'⟩ : ∃ v, valA 0 (q.take k) = v := ⟨_, rfl⟩
    rw [hv'] at hvb HVAL ⊢
    have HMEM : Hid (c ∈ q) := by rw [← hcc]; exact bAt_mem q k (by rw [HQL.out]; exact hlt8)
    clear hsn hval hv hvl hpw hv' hcc
    obtain ⟨y, hy⟩ : ∃ y, c.toNat = y := ⟨_, rfl⟩
    rw [hy] at hc hy255 HVAL
    have HY := Lib.hid hy
    clear hy
    by_cases hdig : 48 ≤ y ∧ y ≤ 57
    · obtain ⟨g1, g2⟩ := hdig
      have hall2 : (q.take (k + 1)).all isD = true := by
       rw [HSN.out, List.all_append, HALL.out]
       simp [isD_iff, HY.out, g1, g2]
      have HALL2 := Lib.hid hall2
      have b1 : ¬ ((y : Int) < 48) := by omega
      have b2 : ¬ ((57 : Int) < (y : Int)) := by omega
      have b1' : decide ((y : Int) < 48) = false := by simpa using b1
      have b2' : decide ((57 : Int) < (y : Int)) = false := by simpa using b2
      have w2 : IntKind.u8.wrap ((y : Int) - 48) = (y : Int) - 48 := by simp [IntKind.wrap, IntKind.bits, IntKind.signed]; omega
      clear hall2
      go_wp2
      go_round
      case rel => exact ⟨k + 1, by omega, by go_num, by rw [HSN.out, HVAL.out]; congr 1; omega, HALL2.out⟩
      case measure => simp [intOf]; omega
    · have hz : Hid (numS dir nm = 0) := by
       show _ = _
       rw [HNUM.out, if_neg]
       intro h
       have := (isD_iff c).1 (List.all_eq_true.1 h c HMEM.out)
       rw [HY.out] at this
       exact hdig this
      by_cases b1 : (y : Int) < 48
      · have b1' : decide ((y : Int) < 48) = true := by simpa using b1
        clear hdig
        go_wp2
        go_ret
        exact ⟨by rw [hz.out]; rfl, HB.out⟩
      · have b2 : (57 : Int) < (y : Int) := by omega
        have b1' : decide ((y : Int) < 48) = false := by simpa using b1
        have b2' : decide ((57 : Int) < (y : Int)) = true := by simpa using b2
        clear hdig
        go_wp2
        go_ret
        exact ⟨by rw [hz.out]; rfl, HB.out⟩
  · obtain rfl : k = 8 := by omega
    have ht : q.take 8 = q := List.take_of_length_le (by rw [HQL.out]; exact Nat.le_refl _)
    have hz : Hid (numS dir nm = valA 0 (q.take 8)) := by
     show _ = _
     have := HALL.out
     rw [ht] at this ⊢
     rw [HNUM.out, if_pos this]
    clear ht
    go_wp2
    go_ret
    exact ⟨by rw [hz.out]; rfl, HB.out⟩
end Go.Proofs.YtjjcilinghgphaaGreat
