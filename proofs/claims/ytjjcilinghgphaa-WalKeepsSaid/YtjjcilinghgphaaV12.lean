/-
  A log's Append.
-/
import Derived.Test.YtjjcilinghgphaaVB
import Derived.Test.YtjjcilinghgphaaE20
import Derived.Test.YtjjcilinghgphaaE19
namespace Go.Proofs.Ytjjcilinghgphaa
open Go.RowKit Go.Maps
set_option maxRecDepth 100000
attribute [local go_sem] bs_size bs_toList
/-- What stands ahead of the record's frame. -/
structure TurnAt (B : Int) (w : World) (d l : Nat) (T : Nat → Prop) (s : DS) (g : LG) (sx : DS) (gx : LG) (W : World) : Prop where
  lw : LWS (B + 2) W d l (Sx T w W) sx gx
  fr : Fr T w W
  ok : LOk sx gx
  tn : turnL s g = ⟨sx, gx, 0⟩
  t0 : ∀ k, T k → k < w.heap.size
theorem putL_post {B : Int} {w wx W : World} {d l : Nat} {T Sd Sl : Nat → Prop} {s sx : DS} {g gx : LG} {p : List UInt8} (h : TurnAt B w d l T s g sx gx wx) (h1 : ¬ 262144 < p.length) (h2 : ¬ 99999999 < g.next) {gs : List Sg} {e : Int} (he : (appendS sx gx.lnm (frameOf p)).2 = e)
    (hA : LAt wx (Sx T w wx) d l (B + 3) Sd Sl (appendS sx gx.lnm (frameOf p)).1 gx.dir gx.room gx.sf gs W) (h3 : e = 0 → gs = gx.pre ++ [⟨gx.la.f, gx.la.rs ++ [p]⟩]) (h4 : e ≠ 0 → gs = gx.segs) {n : Int} (h5 : e = 0 → n = (g.next : Nat)) (h6 : e ≠ 0 → n = 0) :
    AppPost (B + 3) w d l T s g p (.returned (.tuple #[.int .i64 n, .int .i64 e])) W := by
  have hap := appL_put h1 h2 (s := s) (g := g) (by rw [h.tn])
  rw [h.tn] at hap
  by_cases h0 : e = 0
  · have hp : putL sx gx p = ⟨(appendS sx gx.lnm (frameOf p)).1, { gx with la := ⟨gx.la.f, gx.la.rs ++ [p]⟩ }, 0⟩ := by unfold putL; rw [if_pos (he.trans h0)]
    have hap' := hap.trans hp
    unfold AppPost appN
    rw [hap']
    obtain ⟨q1, q2⟩ := LAt.fin (g := { gx with la := ⟨gx.la.f, gx.la.rs ++ [p]⟩ }) (by rw [h3 h0] at hA; exact hA)
    obtain ⟨r1, r2⟩ := LWS.trans h.fr q1 q2 h.t0
    refine ⟨?_, r1, r2⟩
    rw [h0, h5 h0, if_pos rfl]
  · have hp : putL sx gx p = ⟨(appendS sx gx.lnm (frameOf p)).1, gx, e⟩ := by unfold putL; rw [if_neg (fun e' => h0 (he.symm.trans e')), he]
    have hap' := hap.trans hp
    unfold AppPost appN
    rw [hap']
    obtain ⟨q1, q2⟩ := LAt.fin (g := gx) (by rw [h4 h0] at hA; exact hA)
    obtain ⟨r1, r2⟩ := LWS.trans h.fr q1 q2 h.t0
    refine ⟨?_, r1, r2⟩
    rw [h6 h0, if_neg h0]
set_option maxHeartbeats 8000000 in
theorem wappend_any {w : World} {d l : Nat} {T : Nat → Prop} {B : Int} {s : DS} {g : LG} (hB : B < 999999999990) (h : LWS B w d l T s g) (hk : LOk s g) {ap : Option Addr} {np cp : Nat} {p : List UInt8} (hp : Rd8 w ap np cp p) (hap : BlkIn ap np fun b => ¬ T b) :
    Calls Try.prog 24 #[.pointer (some ⟨l, 0, none⟩), .slice ap np cp] w (AppPost (B + 3) w d l T s g p) := by
  have HB := Lib.hid hB
  have HLW := Lib.hid h
  have HK := Lib.hid hk
  have HPR := Lib.hid hp
  have HAP := Lib.hid hap
  have HNP := Lib.hid hp.1
  have HAB := Lib.hid (Rd.blkIn hp.2 (by decide))
  have hnp9 : np ≤ 9223372036854775807 := Nat.le_trans hp.2.1 hp.2.2.1
  have hnl := hk.next_le
  have hT0 := h.lt
  have HT0 := Lib.hid hT0
  have HNEXT : Hid (Calls Try.prog 15 #[.pointer (some ⟨l, 0, none⟩)] w fun e w' => e = .returned (.int .i64 (g.next : Nat)) ∧ ∃ n, w' = w.drewN n) := by
    obtain ⟨Sd, Sl, hA⟩ := h.open
    exact LgG.next (S := Sl) hA.lg hk
  have HSAME : Hid (∀ i, LWS (B + 3) (w.drewN i) d l (Sx T w (w.drewN i)) s g ∧ Fr T w (w.drewN i)) := fun i => by
    have hb := below_dn (Below.refl w.heap.size w) i
    exact ⟨(h.new hb).mono (by omega) (fun k hk => .inl hk) (Sx.lt hb.size hT0), Fr.of_new hb⟩
  have HPL := Lib.hid hp.1
  have hnx1 := hk.next_pos
  obtain ⟨n, hn⟩ : ∃ n, g.next = n := ⟨_, rfl⟩
  rw [hn] at HNEXT hnl hnx1
  have HN := Lib.hid hn
  clear h hk hp hap hT0 hn
  go_enter Try.func24, Try.ntmps24
  go_wp2_with fail
  go_at_call 15
  refine (HNEXT.out).mono ?_
  rintro e w1 ⟨rfl, i, rfl⟩
  by_cases hlong : (262144 : Int) < (np : Int)
  · have HG : Hid (AppPost (B + 3) w d l T s g p (.returned (.tuple #[.int .i64 0, .int .i64 2])) (w.drewN i)) := by
      obtain ⟨e1, e2⟩ := appL_long (s := s) (g := g) (p := p) (by have := HPL.out; omega)
      refine ⟨by rw [e1, e2], ?_, (HSAME.out i).2⟩
      rw [e1]; exact (HSAME.out i).1
    go_wp2_with fail
    go_ret2
    exact HG.out
  by_cases hrange : (99999999 : Int) < (n : Int)
  · have HG : Hid (AppPost (B + 3) w d l T s g p (.returned (.tuple #[.int .i64 0, .int .i64 1])) (w.drewN i)) := by
      obtain ⟨e1, e2⟩ := appL_range (s := s) (g := g) (p := p) (by have := HPL.out; omega) (by have := HN.out; omega)
      refine ⟨by rw [e1, e2], ?_, (HSAME.out i).2⟩
      rw [e1]; exact (HSAME.out i).1
    go_wp2_with fail
    go_ret2
    exact HG.out
  have HLE : Hid (¬ 262144 < p.length ∧ ¬ 99999999 < g.next) := ⟨by have := HPL.out; omega, by have := HN.out; omega⟩
  obtain ⟨w1, hw1⟩ : ∃ w1, w.drewN i = w1 := ⟨_, rfl⟩
  have hbw : Below w.heap.size w w1 := by rw [← hw1]; exact below_dn (Below.refl w.heap.size w) i
  have HBW := Lib.hid hbw
  rw [hw1]
  clear hw1 HSAME HNEXT hbw
  obtain ⟨Sd0, Sl0, hA0⟩ := (HLW.out.new HBW.out).open
  obtain ⟨sv0, L0, hM0, hL0, hC0, _⟩ := hA0.lg
  obtain ⟨P0, x0, hLx0, hP0, hx0, hi0⟩ := last_view hL0
  obtain ⟨_, _, d2, _, _, _, _⟩ := hM0.cells
  obtain ⟨_, _, t2, _, _⟩ := (hM0.hc x0 (List.mem_of_getElem? hi0)).cells
  rw [hx0] at t2
  obtain ⟨xb0, hxb0⟩ : ∃ xb, x0.b = xb := ⟨_, rfl⟩
  have hla0 := fun W (hW : ∃ k, W = w1.drewN k) => last_seg (hM0.draws hW) hi0
  have HLA0 : Hid (∀ W, (∃ k, W = w1.drewN k) → Calls Try.prog 35 #[.pointer (some ⟨l, 0, none⟩)] W fun e w' => e = .returned (.pointer (some ⟨xb0, 0, none⟩)) ∧ ∃ n, w' = W.drewN n) := fun W hW => by rw [← hxb0]; exact hla0 W hW
  rw [hxb0] at t2
  have hz1 := HK.out.la.sz
  have hr1 := HK.out.r1
  have hr2 := HK.out.r2
  obtain ⟨z0, hz0⟩ : ∃ z, szS g.la = z := ⟨_, rfl⟩
  obtain ⟨rm, hrm⟩ : ∃ rm, g.room = rm := ⟨_, rfl⟩
  rw [hz0] at t2 hz1
  rw [hrm] at d2 hr1 hr2
  have HZ0 := Lib.hid hz0
  have HRM := Lib.hid hrm
  clear hA0 hM0 hL0 hC0 hLx0 hP0 hx0 hi0 hxb0 hla0 hz0 hrm
  by_cases hfull : (z0 : Int) < rm
  · have hfull' : ¬ rm ≤ (z0 : Int) := by omega
    go_wp2_with fail
    go_quiet ((go_at_call 35; exact Calls.quiet_of (HLA0.out _ ⟨_, rfl⟩)))
    have hbX := next_below HBW.out (below_dn (Below.refl w1.heap.size w1) nq)
    obtain ⟨WX, hWX⟩ : ∃ WX, w1.drewN nq = WX := ⟨_, rfl⟩
    rw [hWX] at hbX ⊢
    clear hWX d2 t2
    obtain ⟨sx, hsx⟩ : ∃ sx, s = sx := ⟨_, rfl⟩
    obtain ⟨gx, hgx⟩ : ∃ gx, g = gx := ⟨_, rfl⟩
    have HTX : Hid (TurnAt B w d l T s g sx gx WX) := by
      subst hsx hgx
      exact ⟨(HLW.out.new hbX).mono (by omega) (fun k hk => .inl hk) (Sx.lt hbX.size HT0.out), Fr.of_new hbX, HK.out, turnL_free (by rw [HZ0.out, HRM.out]; exact hfull), HT0.out⟩
    clear hsx hgx hbX
    obtain ⟨Sd, Sl, hA⟩ := HTX.out.lw.open
    obtain ⟨sv, L, hM, hL, hC, _⟩ := hA.lg
    obtain ⟨P, x, hLx, hP, hx, hi⟩ := last_view hL
    subst hLx
    have hxm : x ∈ P ++ [x] := by simp
    obtain ⟨c0, c1, _, _, _, _, _⟩ := hM.cells
    obtain ⟨s0, s1, s2, _, _⟩ := (hM.hc x hxm).cells
    obtain ⟨ar, cr, hxv, _⟩ := (hM.hc x hxm).recs.rd
    rw [hxv] at s1
    have hla := fun W (hW : ∃ k, W = WX.drewN k) => last_seg (hM.draws hW) hi
    have hz0 := HTX.out.ok.la.sz
    have hm0 := HTX.out.ok.la.len
    have hf0 := HTX.out.ok.la.f2
    have hd0 := HTX.out.ok.d2
    have hro := (hM.hc x hxm).recs
    rw [← hx] at hz0 hm0 hf0
    have HXV := Lib.hid hxv
    have HX := Lib.hid hx
    have HP := Lib.hid hP
    obtain ⟨m, hm⟩ : ∃ m, x.sg.rs.length = m := ⟨_, rfl⟩
    rw [hm] at s1 hm0 hro hxv
    have HM := Lib.hid hM
    have HC := Lib.hid hC
    have HA := Lib.hid hA
    have HRO := Lib.hid hro
    have HXVM := Lib.hid hxv
    have HMM := Lib.hid hm
    obtain ⟨f, hff⟩ : ∃ f, x.sg.f = f := ⟨_, rfl⟩
    rw [hff] at s0 hf0
    obtain ⟨z, hzz⟩ : ∃ z, szS x.sg = z := ⟨_, rfl⟩
    rw [hzz] at s2 hz0
    have HZZ := Lib.hid hzz
    obtain ⟨dir, hdir⟩ : ∃ dir, gx.dir = dir := ⟨_, rfl⟩
    rw [hdir] at c1 hd0
    have hlnm : gx.lnm = segN dir f := by unfold LG.lnm; rw [hdir, ← hx, hff]
    have HLNM := Lib.hid hlnm
    have HF0 := Lib.hid hf0
    have HD0 := Lib.hid hd0
    obtain ⟨xb, hxb⟩ : ∃ xb, x.b = xb := ⟨_, rfl⟩
    rw [hxb] at s0 s1 s2
    have HXB := Lib.hid hxb
    have HLA : Hid (∀ W, (∃ k, W = WX.drewN k) → Calls Try.prog 35 #[.pointer (some ⟨l, 0, none⟩)] W fun e w' => e = .returned (.pointer (some ⟨xb, 0, none⟩)) ∧ ∃ n, w' = W.drewN n) := fun W hW => by rw [← hxb]; exact hla W hW
    have HPX : Hid (∀ W, Below WX.heap.size WX W → Rd8 W ap np cp p) := fun W hW => (HPR.out.keep0 HTX.out.fr HAP.out).below hW
    have HNN : Hid (gx.lnm.length ≤ 9223372036854775807) := by rw [hlnm]; show _ ≤ _; rw [segN_length]; omega
    have HXM := Lib.hid hxm
    clear hA hM hL hC hP hx hi hxm hxv hla hro hm hff hzz hdir hlnm hxb hf0 hd0
    go_wp2_with fail
    go_at_call 35
    refine (HLA.out WX ⟨0, rfl⟩).mono ?_
    rintro e y1 ⟨rfl, i1, rfl⟩
    have hb1 := below_dn (Below.refl WX.heap.size WX) i1
    obtain ⟨Y1, hY1⟩ : ∃ Y1, WX.drewN i1 = Y1 := ⟨_, rfl⟩
    rw [hY1] at hb1 ⊢
    clear hY1
    have HB1 := Lib.hid hb1
    go_wp2_with fail
    go_at_call 41
    refine (frame_any ap np cp p _ (HPX.out _ HB1.out)).mono ?_
    rintro e Y2 ⟨vf, hb2, hfe⟩
    obtain ⟨_, rfl, hof⟩ : p.length ≤ 262144 ∧ e = .returned (.tuple #[vf, .int .i64 0]) ∧ Own8 Y2 Y1.heap.size 5 vf (frameOf p) := by
      rcases hfe with h | h
      · exact h
      · exact absurd (by have := HNP.out; have := HLE.out.1; omega) h.1
    obtain ⟨af, cf, rfl, hrf⟩ := hof.rd
    have hb2' := next_below HB1.out hb2
    have HB2 := Lib.hid hb2'
    have HRF := Lib.hid hrf
    have HOF := Lib.hid hof
    have c0 := cell_below c0 hb2'
    have c1 := cell_below c1 hb2'
    have s0 := cell_below s0 hb2'
    clear hb1 hb2 hfe hof hrf hb2'
    go_wp2_with fail
    refine wp_region_ht 14 (fun W => W.cell? ⟨l, 0, none⟩ = some (.pointer (some ⟨d, 0, none⟩)) ∧ W.cell? ⟨l, 1, none⟩ = some (.string (bs dir)) ∧ W.cell? ⟨xb, 0, none⟩ = some (.int .i64 (f : Nat))) (by kernel_rfl) (by kernel_rfl) ?_ (fun hHeld => ?_)
    · exact ⟨c0, c1, s0⟩
    try simp only [Act.put, List.setIfInBounds_toArray, List.set_cons_zero, List.set_cons_succ]
    refine wpHT_takeD (i := 0) (d := 50) (v := ?_) (by kernel_rfl) rfl rfl (by decide) (by kernel_rfl) (by kernel_rfl) (fun _ _ _ h => h) (Or.inl ⟨by kernel_rfl, ?_⟩) (by assumption) ?_
    rotate_left
    · intro w hSw; (try dsimp only at hSw); go_simp; (try with_reducible rfl)
    try simp only [Act.put, List.setIfInBounds_toArray, List.set_cons_zero, List.set_cons_succ]
    refine wpHT_takeD (i := 1) (d := 51) (v := ?_) (by kernel_rfl) rfl rfl (by decide) (by kernel_rfl) (by kernel_rfl) (fun _ _ _ h => h) (Or.inl ⟨by kernel_rfl, ?_⟩) (by assumption) ?_
    rotate_left
    · intro w hSw; (try dsimp only at hSw); go_simp; (try with_reducible rfl)
    try simp only [Act.put, List.setIfInBounds_toArray, List.set_cons_zero, List.set_cons_succ]
    refine wpHT_takeD (i := 2) (d := 52) (v := ?_) (by kernel_rfl) rfl rfl (by decide) (by kernel_rfl) (by kernel_rfl) (fun _ _ _ h => h) (Or.inl ⟨by kernel_rfl, ?_⟩) (by assumption) ?_
    rotate_left
    · intro w hSw; (try dsimp only at hSw); go_simp; (try with_reducible rfl)
    try simp only [Act.put, List.setIfInBounds_toArray, List.set_cons_zero, List.set_cons_succ]
    refine wpHT_takeD (i := 3) (d := 53) (v := ?_) (by kernel_rfl) rfl rfl (by decide) (by kernel_rfl) (by kernel_rfl) (fun _ _ _ h => h) (Or.inl ⟨by kernel_rfl, ?_⟩) (by assumption) ?_
    rotate_left
    · intro w hSw; (try dsimp only at hSw); go_simp; (try with_reducible rfl)
    try simp only [Act.put, List.setIfInBounds_toArray, List.set_cons_zero, List.set_cons_succ]
    refine wpHT_takeD (i := 4) (d := 54) (v := ?_) (by kernel_rfl) rfl rfl (by decide) (by kernel_rfl) (by kernel_rfl) (fun _ _ _ h => h) (Or.inl ⟨by kernel_rfl, ?_⟩) (by assumption) ?_
    rotate_left
    · intro w hSw; (try dsimp only at hSw); go_simp; (try with_reducible rfl)
    try simp only [Act.put, List.setIfInBounds_toArray, List.set_cons_zero, List.set_cons_succ]
    refine wpHT_takeD (i := 5) (d := 55) (v := ?_) (by kernel_rfl) rfl rfl (by decide) (by kernel_rfl) (by kernel_rfl) (fun _ _ _ h => h) (Or.inl ⟨by kernel_rfl, ?_⟩) (by assumption) ?_
    rotate_left
    · intro w hSw; (try dsimp only at hSw); go_simp; (try with_reducible rfl)
    try simp only [Act.put, List.setIfInBounds_toArray, List.set_cons_zero, List.set_cons_succ]
    refine wpHT_takeD (i := 6) (d := 56) (v := ?_) (by kernel_rfl) rfl rfl (by decide) (by kernel_rfl) (by kernel_rfl) (fun _ _ _ h => h) (Or.inl ⟨by kernel_rfl, ?_⟩) (by assumption) ?_
    rotate_left
    · intro w hSw; (try dsimp only at hSw); go_simp; (try with_reducible rfl)
    try simp only [Act.put, List.setIfInBounds_toArray, List.set_cons_zero, List.set_cons_succ]
    refine wpHT_takeD (i := 7) (d := 57) (v := ?_) (by kernel_rfl) rfl rfl (by decide) (by kernel_rfl) (by kernel_rfl) (fun _ _ _ h => h) (Or.inl ⟨by kernel_rfl, ?_⟩) (by assumption) ?_
    rotate_left
    · intro w hSw; (try dsimp only at hSw); go_simp; (try with_reducible rfl)
    try simp only [Act.put, List.setIfInBounds_toArray, List.set_cons_zero, List.set_cons_succ]
    refine wpHT_takeD (i := 8) (d := 58) (v := ?_) (by kernel_rfl) rfl rfl (by decide) (by kernel_rfl) (by kernel_rfl) (fun _ _ _ h => h) (Or.inl ⟨by kernel_rfl, ?_⟩) (by assumption) ?_
    rotate_left
    · intro w hSw; (try dsimp only at hSw); go_simp; (try with_reducible rfl)
    try simp only [Act.put, List.setIfInBounds_toArray, List.set_cons_zero, List.set_cons_succ]
    refine wpHT_takeD (i := 9) (d := 59) (v := ?_) (by kernel_rfl) rfl rfl (by decide) (by kernel_rfl) (by kernel_rfl) (fun _ _ _ h => h) (Or.inl ⟨by kernel_rfl, ?_⟩) (by assumption) ?_
    rotate_left
    · intro w hSw; (try dsimp only at hSw); go_simp; (try with_reducible rfl)
    try simp only [Act.put, List.setIfInBounds_toArray, List.set_cons_zero, List.set_cons_succ]
    refine wpHT_takeD (i := 10) (d := 60) (v := ?_) (by kernel_rfl) rfl rfl (by decide) (by kernel_rfl) (by kernel_rfl) (fun _ _ _ h => h) (Or.inl ⟨by kernel_rfl, ?_⟩) (by assumption) ?_
    rotate_left
    · intro w hSw; (try dsimp only at hSw); go_simp; (try with_reducible rfl)
    try simp only [Act.put, List.setIfInBounds_toArray, List.set_cons_zero, List.set_cons_succ]
    refine wpHT_takeD (i := 11) (d := 61) (v := ?_) (by kernel_rfl) rfl rfl (by decide) (by kernel_rfl) (by kernel_rfl) (fun _ _ _ h => h) (Or.inl ⟨by kernel_rfl, ?_⟩) (by assumption) ?_
    rotate_left
    · intro w hSw; (try dsimp only at hSw); go_simp; (try with_reducible rfl)
    try simp only [Act.put, List.setIfInBounds_toArray, List.set_cons_zero, List.set_cons_succ]
    refine wpHT_takeD (i := 13) (d := 63) (v := ?_) (by kernel_rfl) rfl rfl (by decide) (by kernel_rfl) (by kernel_rfl) (fun _ _ _ h => h) (Or.inl ⟨by kernel_rfl, ?_⟩) (by assumption) ?_
    rotate_left
    · intro w hSw; (try dsimp only at hSw); go_simp; (try with_reducible rfl)
    try simp only [Act.put, List.setIfInBounds_toArray, List.set_cons_zero, List.set_cons_succ]
    refine wpHT_one (i := 12) (by kernel_rfl) rfl (by decide) (fun K hK => ?_)
    go_simp
    go_at_call 33
    refine (file_any dir f HF0.out (by have := HD0.out; omega) _).mono ?_
    rintro e Y3 ⟨rfl, hb⟩
    have hb' : Below Y2.heap.size Y2 Y3 := (Below.refl _ Y2).drew.trans hb
    have HB3 := Lib.hid (next_below HB2.out hb')
    have HRF := Lib.hid (HRF.out.below hb')
    have c0 := cell_below c0 hb'
    have c1 := cell_below c1 hb'
    have s0 := cell_below s0 hb'
    clear hb hb'
    refine hK.out _ _ ?_ (fun hHeld => ?_)
    · exact ⟨c0, c1, s0⟩
    clear hK K
    try simp only [Act.put, List.setIfInBounds_toArray, List.set_cons_zero, List.set_cons_succ]
    refine wpHT_done (by kernel_rfl) ?_
    simp only [List.drop_succ_cons, List.drop_zero]
    clear hHeld
    have HA3 := Lib.hid (HA.out.new HB3.out)
    go_wp2_with fail
    go_at_call 42
    rw [← HLNM.out]
    refine (append_any d Sd (B + 2) (by omega) sx gx.lnm HNN.out af cf (frameOf p) (by rw [frameOf_length]; omega) Y3 HA3.out.dk HRF.out (fun k hk hs => ?_)).mono ?_
    · have h1 := HA.out.lt.1 k hs
      have h2 := World.ownsRow.lt HOF.out k (by rw [ownBlock_sl]; exact hk)
      have h3 := HB1.out.size
      omega
    rintro e Y4 ⟨rfl, hd⟩
    have HA4 := Lib.hid ((HA3.out.disk hd).mono (B' := B + 3) (by omega))
    have hM4 := (HM.out.new HB3.out).after HC.out hd.2 (fun k hk hs => HA3.out.dj k hs hk)
    have hp4 : Rd8 Y4 ap np cp p := by
      refine (HPX.out _ HB3.out).keep0 hd.2 fun h0 b hb hs => ?_
      have h1 := HA.out.sd b hs
      rcases h1 with (e | e) | e
      · exact HAP.out h0 b hb e
      · have := HAB.out h0 b hb; omega
      · omega
    have HM4 := Lib.hid hM4
    have HP4 := Lib.hid hp4
    obtain ⟨e, he⟩ : ∃ e, (appendS sx gx.lnm (frameOf p)).2 = e := ⟨_, rfl⟩
    rw [he]
    have HE := Lib.hid he
    clear hd c0 c1 s0 s1 s2 hp4 he
    by_cases h0 : e = 0
    · subst h0
      obtain ⟨s0, s1, s2, _, _⟩ := (hM4.hc x HXM.out).cells
      rw [HXVM.out, HXB.out] at s1
      rw [HXB.out, HZZ.out] at s2
      have hro4 := (hM4.hc x HXM.out).recs
      rw [HXVM.out, HMM.out] at hro4
      have HRO4 := Lib.hid hro4
      have hb54 : (((frameOf p).length : Nat) : Int) = (np : Int) + 12 := by rw [frameOf_length, HNP.out]; omega
      have HFL := Lib.hid hb54
      clear hM4 hro4 s0 s2 hb54
      go_wp2_with fail
      refine wp_region_ht 10 (fun W => W.cell? ⟨xb, 1, none⟩ = some (.slice ar m cr)) (by kernel_rfl) (by kernel_rfl) ?_ (fun hHeld => ?_)
      · exact s1
      try simp only [Act.put, List.setIfInBounds_toArray, List.set_cons_zero, List.set_cons_succ]
      refine wpHT_takeD (i := 0) (d := 68) (v := ?_) (by kernel_rfl) rfl rfl (by decide) (by kernel_rfl) (by kernel_rfl) (fun _ _ _ h => h) (Or.inl ⟨by kernel_rfl, ?_⟩) (by assumption) ?_
      rotate_left
      · intro w hSw; (try dsimp only at hSw); go_simp; (try with_reducible rfl)
      try simp only [Act.put, List.setIfInBounds_toArray, List.set_cons_zero, List.set_cons_succ]
      refine wpHT_takeD (i := 1) (d := 69) (v := ?_) (by kernel_rfl) rfl rfl (by decide) (by kernel_rfl) (by kernel_rfl) (fun _ _ _ h => h) (Or.inl ⟨by kernel_rfl, ?_⟩) (by assumption) ?_
      rotate_left
      · intro w hSw; (try dsimp only at hSw); go_simp; (try with_reducible rfl)
      try simp only [Act.put, List.setIfInBounds_toArray, List.set_cons_zero, List.set_cons_succ]
      refine wpHT_takeD (i := 2) (d := 70) (v := ?_) (by kernel_rfl) rfl rfl (by decide) (by kernel_rfl) (by kernel_rfl) (fun _ _ _ h => h) (Or.inl ⟨by kernel_rfl, ?_⟩) (by assumption) ?_
      rotate_left
      · intro w hSw; (try dsimp only at hSw); go_simp; (try with_reducible rfl)
      try simp only [Act.put, List.setIfInBounds_toArray, List.set_cons_zero, List.set_cons_succ]
      refine wpHT_takeD (i := 3) (d := 71) (v := ?_) (by kernel_rfl) rfl rfl (by decide) (by kernel_rfl) (by kernel_rfl) (fun _ _ _ h => h) (Or.inl ⟨by kernel_rfl, ?_⟩) (by assumption) ?_
      rotate_left
      · intro w hSw; (try dsimp only at hSw); go_simp; (try with_reducible rfl)
      try simp only [Act.put, List.setIfInBounds_toArray, List.set_cons_zero, List.set_cons_succ]
      refine wpHT_takeD (i := 4) (d := 72) (v := ?_) (by kernel_rfl) rfl rfl (by decide) (by kernel_rfl) (by kernel_rfl) (fun _ _ _ h => h) (Or.inl ⟨by kernel_rfl, ?_⟩) (by assumption) ?_
      rotate_left
      · intro w hSw; (try dsimp only at hSw); go_simp; (try with_reducible rfl)
      try simp only [Act.put, List.setIfInBounds_toArray, List.set_cons_zero, List.set_cons_succ]
      refine wpHT_takeD (i := 6) (d := 74) (v := ?_) (by kernel_rfl) rfl rfl (by decide) (by kernel_rfl) (by kernel_rfl) (fun _ _ _ h => h) (Or.inl ⟨by kernel_rfl, ?_⟩) (by assumption) ?_
      rotate_left
      · intro w hSw; (try dsimp only at hSw); go_simp; (try with_reducible rfl)
      try simp only [Act.put, List.setIfInBounds_toArray, List.set_cons_zero, List.set_cons_succ]
      refine wpHT_one (i := 5) (by kernel_rfl) rfl (by decide) (fun K hK => ?_)
      go_simp
      refine hK.out _ _ ?_ (fun hHeld => ?_)
      · exact cell_alloc_keep (w := Y4.drew) s1
      clear hK K
      try simp only [Act.put, List.setIfInBounds_toArray, List.set_cons_zero, List.set_cons_succ]
      refine wpHT_one (i := 7) (by kernel_rfl) rfl (by decide) (fun K hK => ?_)
      refine step_app2 S8 rfl _ _ rfl Y4.heap.size rfl (made0 Y4.drew) rfl (HP4.out.below ((Below.refl _ Y4).drew.alloc (Nat.le_refl _) _)).2 (B8_one _) (by omega) (by unfold maxLen; omega) ((Below.refl 0 Y4.drew).alloc (Nat.zero_le _) _).size ?_
      intro v5 Y5 ho5 hg5 hl5
      have ho5 : Own8 Y5 Y4.heap.size 5 v5 p := Own8.mk ho5 (by have := HNP.out; omega) (by simp)
      obtain ⟨a5, cap5, rfl, hrd5⟩ := ho5.rd
      have hb5 : Below Y4.heap.size Y4 Y5 := ((Below.refl _ Y4).drew.alloc (Nat.le_refl _) _).grown hg5 ((Below.refl 0 Y4.drew).alloc (Nat.zero_le _) _).size (fun k hk => Nat.le_of_eq (Option.some.inj hk))
      have s1 := cell_below s1 hb5
      have HO5 := Lib.hid ho5
      have HB5 := Lib.hid hb5
      clear ho5 hg5 hl5 hrd5 hb5
      refine hK.out _ _ ?_ (fun hHeld => ?_)
      · exact s1
      clear hK K
      try simp only [Act.put, List.setIfInBounds_toArray]
      refine wpHT_one (i := 8) (by kernel_rfl) rfl (by decide) (fun K hK => ?_)
      go_simp
      have s1 := cell_alloc_keep (w := Y5) (o := .cells #[.slice a5 p.length cap5] 35) s1
      refine hK.out _ _ ?_ (fun hHeld => ?_)
      · exact s1
      clear hK K
      try simp only [Act.put, List.setIfInBounds_toArray, List.set_cons_zero, List.set_cons_succ]
      refine wpHT_one (i := 9) (by kernel_rfl) rfl (by decide) (fun K hK => ?_)
      refine step_appO S88 rfl _ _ rfl rfl (HRO4.out.new (HB5.out.alloc HB5.out.size _)) rfl (Rd.one _ _ _) (by simp [Value.oneCell']) (by omega) (by unfold maxLen; omega) ?_
      intro v6 Y6 hown6 hg6 hl6
      obtain ⟨a6, cap6, rfl, _⟩ := hown6.rd
      have hpt := HM4.out.putted HC.out HXVM.out (Y := Y5.alloc (.cells #[.slice a5 p.length cap5] 35)) (HB5.out.alloc HB5.out.size _) (HO5.out.alloc _) (by rw [HMM.out]; exact hown6) hg6 (hl6.imp id fun e => e.trans (by simp)) (z := z + (np + 12)) (by rw [HZZ.out, HNP.out])
      rw [HXB.out, HZZ.out] at hpt
      have hpt1 := hpt.1.1
      have HPT := Lib.hid hpt
      clear hown6 hg6 hl6 hpt
      refine hK.out _ _ ?_ (fun hHeld => ?_)
      · exact hpt1
      clear hK K
      try simp only [Act.put, List.setIfInBounds_toArray]
      refine wpHT_done (by kernel_rfl) ?_
      simp only [List.drop_succ_cons, List.drop_zero]
      clear hHeld
      obtain ⟨⟨p1, p2, p3, p4⟩, p5, p6, p7⟩ := HPT.out
      have P5 := Lib.hid p5
      have P6 := Lib.hid p6
      have P7 := Lib.hid p7
      have hfl := HFL.out
      clear p5 p6 p7 HPT
      go_wp2_with fail
      go_ret2
      have hzc : ((z : Int) + ((np : Int) + 12)) = ((z + (np + 12) : Nat) : Int) := by omega
      rw [hzc]
      refine putL_post HTX.out HLE.out.1 HLE.out.2 HE.out (HA4.out.log (Sl' := Sx Sl Y4 _) ⟨_, _, P5.out, rfl, P7.out, fun k hk => ?_⟩ P6.out (fun k hk => hk)) (fun _ => ?_) (fun h => absurd rfl h) (fun _ => by rw [HN.out]) (fun h => absurd rfl h)
      · rcases hk with hk | hk
        · exact Nat.lt_of_lt_of_le (HA4.out.lt.2 k hk) P6.out.size
        · exact hk.2
      · rw [List.map_append, HP.out, ← HX.out]; rfl
    · have hbE : (e == 0) = false := by simpa using h0
      have hbE' : (e != 0) = true := by simpa using h0
      have HG : Hid (AppPost (B + 3) w d l T s g p (.returned (.tuple #[.int .i64 0, .int .i64 e])) Y4) := putL_post HTX.out HLE.out.1 HLE.out.2 HE.out HA4.out (fun h => absurd h h0) (fun _ => rfl) (fun h => absurd h h0) (fun _ => rfl)
      clear hM4 h0
      go_wp2_with fail
      go_ret2
      exact HG.out
  · have hfull' : rm ≤ (z0 : Int) := by omega
    have hfu : g.room ≤ (szS g.la : Int) := by rw [HZ0.out, HRM.out]; exact hfull'
    have HFU := Lib.hid hfu
    clear hfu
    go_wp2_with fail
    go_quiet ((go_at_call 35; exact Calls.quiet_of (HLA0.out _ ⟨_, rfl⟩)))
    have hb2 := next_below HBW.out (below_dn (Below.refl w1.heap.size w1) nq)
    obtain ⟨w2, hw2⟩ : ∃ w2, w1.drewN nq = w2 := ⟨_, rfl⟩
    rw [hw2] at hb2 ⊢
    have HB2 := Lib.hid hb2
    clear hw2 d2 t2 hb2 hfull hfull'
    go_wp2_with fail
    go_at_call 26
    refine (wsync_any (by omega) (HLW.out.new HB2.out) HK.out).mono ?_
    rintro e w3 ⟨rfl, hw3, hf3⟩
    have hl2 : Fr T w w2 := Fr.of_new HB2.out
    have hT2 : ∀ k, T k → k < w2.heap.size := fun k hk => Nat.lt_of_lt_of_le (HT0.out k hk) HB2.out.size
    have hs23 := hf3.size
    have hs12 := HB2.out.size
    have HW3 : Hid (LWS (B + 1) w3 d l (Sx T w w3) (syncL s g).s (syncL s g).g) := hw3.mono (Int.le_refl _) (fun k hk => hk.imp id fun e => ⟨by omega, e.2⟩) (Sx.lt (by omega) HT0.out)
    have HF3 : Hid (Fr T w w3) := hl2.trans hf3
    have HK3 := Lib.hid HK.out.sync
    clear hw3 hf3 hl2 hT2 hs23 hs12
    by_cases h0 : (syncL s g).e = 0
    · rw [h0]
      have hr3 := turnL_roll (Int.not_lt.2 HFU.out) h0
      obtain ⟨m1, m2, m3, m4, m5⟩ := syncL_next (s := s) (g := g)
      have hl3 := HK3.out.len
      obtain ⟨gy, hgy⟩ : ∃ gy, (syncL s g).g = gy := ⟨_, rfl⟩
      obtain ⟨sy, hsy⟩ : ∃ sy, (syncL s g).s = sy := ⟨_, rfl⟩
      rw [hgy, hsy] at hr3 HW3 HK3
      rw [hgy] at m1 hl3
      have HR3 := Lib.hid hr3
      have HL3 := Lib.hid hl3
      clear h0 hr3 m1 m2 m3 m4 m5 hl3 hgy hsy
      go_wp2_with fail
      go_at_call 39
      obtain ⟨Sd3, Sl3, hA3⟩ := HW3.out.open
      refine (roll_seg (by omega) hA3 n (by omega) HK3.out.d2 HL3.out).mono ?_
      rintro e w4 ⟨Sd4, Sl4, rfl, hA4⟩
      have HA4 := Lib.hid hA4
      clear hA4
      have hturn : LOk (turnL s g).s (turnL s g).g ∧ ((turnL s g).e = 0 → (turnL s g).g.next = g.next) := HK.out.turn (by have := HLE.out.2; omega)
      rw [HR3.out, HN.out] at hturn
      by_cases hc0 : (createS sy (segN gy.dir n)).2 = 0
      · have hr4 := rollL_ok (s := sy) (g := gy) (n := n) hc0
        rw [hr4] at hturn
        have hA4 := HA4.out
        rw [if_pos hc0] at hA4
        rw [hc0]
        obtain ⟨q1, q2⟩ := LAt.fin (g := { gy with pre := gy.pre ++ [gy.la], la := ⟨n, []⟩ }) hA4
        obtain ⟨r1, r2⟩ := LWS.trans HF3.out q1 q2 HT0.out
        obtain ⟨sx, hsx⟩ : ∃ sx, (createS sy (segN gy.dir n)).1 = sx := ⟨_, rfl⟩
        obtain ⟨gx, hgx⟩ : ∃ gx : LG, { gy with pre := gy.pre ++ [gy.la], la := ⟨n, []⟩ } = gx := ⟨_, rfl⟩
        obtain ⟨WX, hWX⟩ : ∃ WX, w4 = WX := ⟨_, rfl⟩
        have htx : TurnAt B w d l T s g sx gx w4 := by
          rw [← hsx, ← hgx]
          refine ⟨r1.mono (by omega) (fun k hk => hk) r1.lt, r2, hturn.1, ?_, HT0.out⟩
          rw [HR3.out, HN.out, hr4]
        rw [hWX] at htx ⊢
        have HTX := Lib.hid htx
        clear hr4 hturn hA4 hc0 q1 q2 r1 r2 hsx hgx hWX htx
        obtain ⟨Sd, Sl, hA⟩ := HTX.out.lw.open
        obtain ⟨sv, L, hM, hL, hC, _⟩ := hA.lg
        obtain ⟨P, x, hLx, hP, hx, hi⟩ := last_view hL
        subst hLx
        have hxm : x ∈ P ++ [x] := by simp
        obtain ⟨c0, c1, _, _, _, _, _⟩ := hM.cells
        obtain ⟨s0, s1, s2, _, _⟩ := (hM.hc x hxm).cells
        obtain ⟨ar, cr, hxv, _⟩ := (hM.hc x hxm).recs.rd
        rw [hxv] at s1
        have hla := fun W (hW : ∃ k, W = WX.drewN k) => last_seg (hM.draws hW) hi
        have hz0 := HTX.out.ok.la.sz
        have hm0 := HTX.out.ok.la.len
        have hf0 := HTX.out.ok.la.f2
        have hd0 := HTX.out.ok.d2
        have hro := (hM.hc x hxm).recs
        rw [← hx] at hz0 hm0 hf0
        have HXV := Lib.hid hxv
        have HX := Lib.hid hx
        have HP := Lib.hid hP
        obtain ⟨m, hm⟩ : ∃ m, x.sg.rs.length = m := ⟨_, rfl⟩
        rw [hm] at s1 hm0 hro hxv
        have HM := Lib.hid hM
        have HC := Lib.hid hC
        have HA := Lib.hid hA
        have HRO := Lib.hid hro
        have HXVM := Lib.hid hxv
        have HMM := Lib.hid hm
        obtain ⟨f, hff⟩ : ∃ f, x.sg.f = f := ⟨_, rfl⟩
        rw [hff] at s0 hf0
        obtain ⟨z, hzz⟩ : ∃ z, szS x.sg = z := ⟨_, rfl⟩
        rw [hzz] at s2 hz0
        have HZZ := Lib.hid hzz
        obtain ⟨dir, hdir⟩ : ∃ dir, gx.dir = dir := ⟨_, rfl⟩
        rw [hdir] at c1 hd0
        have hlnm : gx.lnm = segN dir f := by unfold LG.lnm; rw [hdir, ← hx, hff]
        have HLNM := Lib.hid hlnm
        have HF0 := Lib.hid hf0
        have HD0 := Lib.hid hd0
        obtain ⟨xb, hxb⟩ : ∃ xb, x.b = xb := ⟨_, rfl⟩
        rw [hxb] at s0 s1 s2
        have HXB := Lib.hid hxb
        have HLA : Hid (∀ W, (∃ k, W = WX.drewN k) → Calls Try.prog 35 #[.pointer (some ⟨l, 0, none⟩)] W fun e w' => e = .returned (.pointer (some ⟨xb, 0, none⟩)) ∧ ∃ n, w' = W.drewN n) := fun W hW => by rw [← hxb]; exact hla W hW
        have HPX : Hid (∀ W, Below WX.heap.size WX W → Rd8 W ap np cp p) := fun W hW => (HPR.out.keep0 HTX.out.fr HAP.out).below hW
        have HNN : Hid (gx.lnm.length ≤ 9223372036854775807) := by rw [hlnm]; show _ ≤ _; rw [segN_length]; omega
        have HXM := Lib.hid hxm
        clear hA hM hL hC hP hx hi hxm hxv hla hro hm hff hzz hdir hlnm hxb hf0 hd0
        go_wp2_with fail
        go_at_call 35
        refine (HLA.out WX ⟨0, rfl⟩).mono ?_
        rintro e y1 ⟨rfl, i1, rfl⟩
        have hb1 := below_dn (Below.refl WX.heap.size WX) i1
        obtain ⟨Y1, hY1⟩ : ∃ Y1, WX.drewN i1 = Y1 := ⟨_, rfl⟩
        rw [hY1] at hb1 ⊢
        clear hY1
        have HB1 := Lib.hid hb1
        go_wp2_with fail
        go_at_call 41
        refine (frame_any ap np cp p _ (HPX.out _ HB1.out)).mono ?_
        rintro e Y2 ⟨vf, hb2, hfe⟩
        obtain ⟨_, rfl, hof⟩ : p.length ≤ 262144 ∧ e = .returned (.tuple #[vf, .int .i64 0]) ∧ Own8 Y2 Y1.heap.size 5 vf (frameOf p) := by
          rcases hfe with h | h
          · exact h
          · exact absurd (by have := HNP.out; have := HLE.out.1; omega) h.1
        obtain ⟨af, cf, rfl, hrf⟩ := hof.rd
        have hb2' := next_below HB1.out hb2
        have HB2 := Lib.hid hb2'
        have HRF := Lib.hid hrf
        have HOF := Lib.hid hof
        have c0 := cell_below c0 hb2'
        have c1 := cell_below c1 hb2'
        have s0 := cell_below s0 hb2'
        clear hb1 hb2 hfe hof hrf hb2'
        go_wp2_with fail
        refine wp_region_ht 14 (fun W => W.cell? ⟨l, 0, none⟩ = some (.pointer (some ⟨d, 0, none⟩)) ∧ W.cell? ⟨l, 1, none⟩ = some (.string (bs dir)) ∧ W.cell? ⟨xb, 0, none⟩ = some (.int .i64 (f : Nat))) (by kernel_rfl) (by kernel_rfl) ?_ (fun hHeld => ?_)
        · exact ⟨c0, c1, s0⟩
        try simp only [Act.put, List.setIfInBounds_toArray, List.set_cons_zero, List.set_cons_succ]
        refine wpHT_takeD (i := 0) (d := 50) (v := ?_) (by kernel_rfl) rfl rfl (by decide) (by kernel_rfl) (by kernel_rfl) (fun _ _ _ h => h) (Or.inl ⟨by kernel_rfl, ?_⟩) (by assumption) ?_
        rotate_left
        · intro w hSw; (try dsimp only at hSw); go_simp; (try with_reducible rfl)
        try simp only [Act.put, List.setIfInBounds_toArray, List.set_cons_zero, List.set_cons_succ]
        refine wpHT_takeD (i := 1) (d := 51) (v := ?_) (by kernel_rfl) rfl rfl (by decide) (by kernel_rfl) (by kernel_rfl) (fun _ _ _ h => h) (Or.inl ⟨by kernel_rfl, ?_⟩) (by assumption) ?_
        rotate_left
        · intro w hSw; (try dsimp only at hSw); go_simp; (try with_reducible rfl)
        try simp only [Act.put, List.setIfInBounds_toArray, List.set_cons_zero, List.set_cons_succ]
        refine wpHT_takeD (i := 2) (d := 52) (v := ?_) (by kernel_rfl) rfl rfl (by decide) (by kernel_rfl) (by kernel_rfl) (fun _ _ _ h => h) (Or.inl ⟨by kernel_rfl, ?_⟩) (by assumption) ?_
        rotate_left
        · intro w hSw; (try dsimp only at hSw); go_simp; (try with_reducible rfl)
        try simp only [Act.put, List.setIfInBounds_toArray, List.set_cons_zero, List.set_cons_succ]
        refine wpHT_takeD (i := 3) (d := 53) (v := ?_) (by kernel_rfl) rfl rfl (by decide) (by kernel_rfl) (by kernel_rfl) (fun _ _ _ h => h) (Or.inl ⟨by kernel_rfl, ?_⟩) (by assumption) ?_
        rotate_left
        · intro w hSw; (try dsimp only at hSw); go_simp; (try with_reducible rfl)
        try simp only [Act.put, List.setIfInBounds_toArray, List.set_cons_zero, List.set_cons_succ]
        refine wpHT_takeD (i := 4) (d := 54) (v := ?_) (by kernel_rfl) rfl rfl (by decide) (by kernel_rfl) (by kernel_rfl) (fun _ _ _ h => h) (Or.inl ⟨by kernel_rfl, ?_⟩) (by assumption) ?_
        rotate_left
        · intro w hSw; (try dsimp only at hSw); go_simp; (try with_reducible rfl)
        try simp only [Act.put, List.setIfInBounds_toArray, List.set_cons_zero, List.set_cons_succ]
        refine wpHT_takeD (i := 5) (d := 55) (v := ?_) (by kernel_rfl) rfl rfl (by decide) (by kernel_rfl) (by kernel_rfl) (fun _ _ _ h => h) (Or.inl ⟨by kernel_rfl, ?_⟩) (by assumption) ?_
        rotate_left
        · intro w hSw; (try dsimp only at hSw); go_simp; (try with_reducible rfl)
        try simp only [Act.put, List.setIfInBounds_toArray, List.set_cons_zero, List.set_cons_succ]
        refine wpHT_takeD (i := 6) (d := 56) (v := ?_) (by kernel_rfl) rfl rfl (by decide) (by kernel_rfl) (by kernel_rfl) (fun _ _ _ h => h) (Or.inl ⟨by kernel_rfl, ?_⟩) (by assumption) ?_
        rotate_left
        · intro w hSw; (try dsimp only at hSw); go_simp; (try with_reducible rfl)
        try simp only [Act.put, List.setIfInBounds_toArray, List.set_cons_zero, List.set_cons_succ]
        refine wpHT_takeD (i := 7) (d := 57) (v := ?_) (by kernel_rfl) rfl rfl (by decide) (by kernel_rfl) (by kernel_rfl) (fun _ _ _ h => h) (Or.inl ⟨by kernel_rfl, ?_⟩) (by assumption) ?_
        rotate_left
        · intro w hSw; (try dsimp only at hSw); go_simp; (try with_reducible rfl)
        try simp only [Act.put, List.setIfInBounds_toArray, List.set_cons_zero, List.set_cons_succ]
        refine wpHT_takeD (i := 8) (d := 58) (v := ?_) (by kernel_rfl) rfl rfl (by decide) (by kernel_rfl) (by kernel_rfl) (fun _ _ _ h => h) (Or.inl ⟨by kernel_rfl, ?_⟩) (by assumption) ?_
        rotate_left
        · intro w hSw; (try dsimp only at hSw); go_simp; (try with_reducible rfl)
        try simp only [Act.put, List.setIfInBounds_toArray, List.set_cons_zero, List.set_cons_succ]
        refine wpHT_takeD (i := 9) (d := 59) (v := ?_) (by kernel_rfl) rfl rfl (by decide) (by kernel_rfl) (by kernel_rfl) (fun _ _ _ h => h) (Or.inl ⟨by kernel_rfl, ?_⟩) (by assumption) ?_
        rotate_left
        · intro w hSw; (try dsimp only at hSw); go_simp; (try with_reducible rfl)
        try simp only [Act.put, List.setIfInBounds_toArray, List.set_cons_zero, List.set_cons_succ]
        refine wpHT_takeD (i := 10) (d := 60) (v := ?_) (by kernel_rfl) rfl rfl (by decide) (by kernel_rfl) (by kernel_rfl) (fun _ _ _ h => h) (Or.inl ⟨by kernel_rfl, ?_⟩) (by assumption) ?_
        rotate_left
        · intro w hSw; (try dsimp only at hSw); go_simp; (try with_reducible rfl)
        try simp only [Act.put, List.setIfInBounds_toArray, List.set_cons_zero, List.set_cons_succ]
        refine wpHT_takeD (i := 11) (d := 61) (v := ?_) (by kernel_rfl) rfl rfl (by decide) (by kernel_rfl) (by kernel_rfl) (fun _ _ _ h => h) (Or.inl ⟨by kernel_rfl, ?_⟩) (by assumption) ?_
        rotate_left
        · intro w hSw; (try dsimp only at hSw); go_simp; (try with_reducible rfl)
        try simp only [Act.put, List.setIfInBounds_toArray, List.set_cons_zero, List.set_cons_succ]
        refine wpHT_takeD (i := 13) (d := 63) (v := ?_) (by kernel_rfl) rfl rfl (by decide) (by kernel_rfl) (by kernel_rfl) (fun _ _ _ h => h) (Or.inl ⟨by kernel_rfl, ?_⟩) (by assumption) ?_
        rotate_left
        · intro w hSw; (try dsimp only at hSw); go_simp; (try with_reducible rfl)
        try simp only [Act.put, List.setIfInBounds_toArray, List.set_cons_zero, List.set_cons_succ]
        refine wpHT_one (i := 12) (by kernel_rfl) rfl (by decide) (fun K hK => ?_)
        go_simp
        go_at_call 33
        refine (file_any dir f HF0.out (by have := HD0.out; omega) _).mono ?_
        rintro e Y3 ⟨rfl, hb⟩
        have hb' : Below Y2.heap.size Y2 Y3 := (Below.refl _ Y2).drew.trans hb
        have HB3 := Lib.hid (next_below HB2.out hb')
        have HRF := Lib.hid (HRF.out.below hb')
        have c0 := cell_below c0 hb'
        have c1 := cell_below c1 hb'
        have s0 := cell_below s0 hb'
        clear hb hb'
        refine hK.out _ _ ?_ (fun hHeld => ?_)
        · exact ⟨c0, c1, s0⟩
        clear hK K
        try simp only [Act.put, List.setIfInBounds_toArray, List.set_cons_zero, List.set_cons_succ]
        refine wpHT_done (by kernel_rfl) ?_
        simp only [List.drop_succ_cons, List.drop_zero]
        clear hHeld
        have HA3 := Lib.hid (HA.out.new HB3.out)
        go_wp2_with fail
        go_at_call 42
        rw [← HLNM.out]
        refine (append_any d Sd (B + 2) (by omega) sx gx.lnm HNN.out af cf (frameOf p) (by rw [frameOf_length]; omega) Y3 HA3.out.dk HRF.out (fun k hk hs => ?_)).mono ?_
        · have h1 := HA.out.lt.1 k hs
          have h2 := World.ownsRow.lt HOF.out k (by rw [ownBlock_sl]; exact hk)
          have h3 := HB1.out.size
          omega
        rintro e Y4 ⟨rfl, hd⟩
        have HA4 := Lib.hid ((HA3.out.disk hd).mono (B' := B + 3) (by omega))
        have hM4 := (HM.out.new HB3.out).after HC.out hd.2 (fun k hk hs => HA3.out.dj k hs hk)
        have hp4 : Rd8 Y4 ap np cp p := by
          refine (HPX.out _ HB3.out).keep0 hd.2 fun h0 b hb hs => ?_
          have h1 := HA.out.sd b hs
          rcases h1 with (e | e) | e
          · exact HAP.out h0 b hb e
          · have := HAB.out h0 b hb; omega
          · omega
        have HM4 := Lib.hid hM4
        have HP4 := Lib.hid hp4
        obtain ⟨e, he⟩ : ∃ e, (appendS sx gx.lnm (frameOf p)).2 = e := ⟨_, rfl⟩
        rw [he]
        have HE := Lib.hid he
        clear hd c0 c1 s0 s1 s2 hp4 he
        by_cases h0 : e = 0
        · subst h0
          obtain ⟨s0, s1, s2, _, _⟩ := (hM4.hc x HXM.out).cells
          rw [HXVM.out, HXB.out] at s1
          rw [HXB.out, HZZ.out] at s2
          have hro4 := (hM4.hc x HXM.out).recs
          rw [HXVM.out, HMM.out] at hro4
          have HRO4 := Lib.hid hro4
          have hb54 : (((frameOf p).length : Nat) : Int) = (np : Int) + 12 := by rw [frameOf_length, HNP.out]; omega
          have HFL := Lib.hid hb54
          clear hM4 hro4 s0 s2 hb54
          go_wp2_with fail
          refine wp_region_ht 10 (fun W => W.cell? ⟨xb, 1, none⟩ = some (.slice ar m cr)) (by kernel_rfl) (by kernel_rfl) ?_ (fun hHeld => ?_)
          · exact s1
          try simp only [Act.put, List.setIfInBounds_toArray, List.set_cons_zero, List.set_cons_succ]
          refine wpHT_takeD (i := 0) (d := 68) (v := ?_) (by kernel_rfl) rfl rfl (by decide) (by kernel_rfl) (by kernel_rfl) (fun _ _ _ h => h) (Or.inl ⟨by kernel_rfl, ?_⟩) (by assumption) ?_
          rotate_left
          · intro w hSw; (try dsimp only at hSw); go_simp; (try with_reducible rfl)
          try simp only [Act.put, List.setIfInBounds_toArray, List.set_cons_zero, List.set_cons_succ]
          refine wpHT_takeD (i := 1) (d := 69) (v := ?_) (by kernel_rfl) rfl rfl (by decide) (by kernel_rfl) (by kernel_rfl) (fun _ _ _ h => h) (Or.inl ⟨by kernel_rfl, ?_⟩) (by assumption) ?_
          rotate_left
          · intro w hSw; (try dsimp only at hSw); go_simp; (try with_reducible rfl)
          try simp only [Act.put, List.setIfInBounds_toArray, List.set_cons_zero, List.set_cons_succ]
          refine wpHT_takeD (i := 2) (d := 70) (v := ?_) (by kernel_rfl) rfl rfl (by decide) (by kernel_rfl) (by kernel_rfl) (fun _ _ _ h => h) (Or.inl ⟨by kernel_rfl, ?_⟩) (by assumption) ?_
          rotate_left
          · intro w hSw; (try dsimp only at hSw); go_simp; (try with_reducible rfl)
          try simp only [Act.put, List.setIfInBounds_toArray, List.set_cons_zero, List.set_cons_succ]
          refine wpHT_takeD (i := 3) (d := 71) (v := ?_) (by kernel_rfl) rfl rfl (by decide) (by kernel_rfl) (by kernel_rfl) (fun _ _ _ h => h) (Or.inl ⟨by kernel_rfl, ?_⟩) (by assumption) ?_
          rotate_left
          · intro w hSw; (try dsimp only at hSw); go_simp; (try with_reducible rfl)
          try simp only [Act.put, List.setIfInBounds_toArray, List.set_cons_zero, List.set_cons_succ]
          refine wpHT_takeD (i := 4) (d := 72) (v := ?_) (by kernel_rfl) rfl rfl (by decide) (by kernel_rfl) (by kernel_rfl) (fun _ _ _ h => h) (Or.inl ⟨by kernel_rfl, ?_⟩) (by assumption) ?_
          rotate_left
          · intro w hSw; (try dsimp only at hSw); go_simp; (try with_reducible rfl)
          try simp only [Act.put, List.setIfInBounds_toArray, List.set_cons_zero, List.set_cons_succ]
          refine wpHT_takeD (i := 6) (d := 74) (v := ?_) (by kernel_rfl) rfl rfl (by decide) (by kernel_rfl) (by kernel_rfl) (fun _ _ _ h => h) (Or.inl ⟨by kernel_rfl, ?_⟩) (by assumption) ?_
          rotate_left
          · intro w hSw; (try dsimp only at hSw); go_simp; (try with_reducible rfl)
          try simp only [Act.put, List.setIfInBounds_toArray, List.set_cons_zero, List.set_cons_succ]
          refine wpHT_one (i := 5) (by kernel_rfl) rfl (by decide) (fun K hK => ?_)
          go_simp
          refine hK.out _ _ ?_ (fun hHeld => ?_)
          · exact cell_alloc_keep (w := Y4.drew) s1
          clear hK K
          try simp only [Act.put, List.setIfInBounds_toArray, List.set_cons_zero, List.set_cons_succ]
          refine wpHT_one (i := 7) (by kernel_rfl) rfl (by decide) (fun K hK => ?_)
          refine step_app2 S8 rfl _ _ rfl Y4.heap.size rfl (made0 Y4.drew) rfl (HP4.out.below ((Below.refl _ Y4).drew.alloc (Nat.le_refl _) _)).2 (B8_one _) (by omega) (by unfold maxLen; omega) ((Below.refl 0 Y4.drew).alloc (Nat.zero_le _) _).size ?_
          intro v5 Y5 ho5 hg5 hl5
          have ho5 : Own8 Y5 Y4.heap.size 5 v5 p := Own8.mk ho5 (by have := HNP.out; omega) (by simp)
          obtain ⟨a5, cap5, rfl, hrd5⟩ := ho5.rd
          have hb5 : Below Y4.heap.size Y4 Y5 := ((Below.refl _ Y4).drew.alloc (Nat.le_refl _) _).grown hg5 ((Below.refl 0 Y4.drew).alloc (Nat.zero_le _) _).size (fun k hk => Nat.le_of_eq (Option.some.inj hk))
          have s1 := cell_below s1 hb5
          have HO5 := Lib.hid ho5
          have HB5 := Lib.hid hb5
          clear ho5 hg5 hl5 hrd5 hb5
          refine hK.out _ _ ?_ (fun hHeld => ?_)
          · exact s1
          clear hK K
          try simp only [Act.put, List.setIfInBounds_toArray]
          refine wpHT_one (i := 8) (by kernel_rfl) rfl (by decide) (fun K hK => ?_)
          go_simp
          have s1 := cell_alloc_keep (w := Y5) (o := .cells #[.slice a5 p.length cap5] 35) s1
          refine hK.out _ _ ?_ (fun hHeld => ?_)
          · exact s1
          clear hK K
          try simp only [Act.put, List.setIfInBounds_toArray, List.set_cons_zero, List.set_cons_succ]
          refine wpHT_one (i := 9) (by kernel_rfl) rfl (by decide) (fun K hK => ?_)
          refine step_appO S88 rfl _ _ rfl rfl (HRO4.out.new (HB5.out.alloc HB5.out.size _)) rfl (Rd.one _ _ _) (by simp [Value.oneCell']) (by omega) (by unfold maxLen; omega) ?_
          intro v6 Y6 hown6 hg6 hl6
          obtain ⟨a6, cap6, rfl, _⟩ := hown6.rd
          have hpt := HM4.out.putted HC.out HXVM.out (Y := Y5.alloc (.cells #[.slice a5 p.length cap5] 35)) (HB5.out.alloc HB5.out.size _) (HO5.out.alloc _) (by rw [HMM.out]; exact hown6) hg6 (hl6.imp id fun e => e.trans (by simp)) (z := z + (np + 12)) (by rw [HZZ.out, HNP.out])
          rw [HXB.out, HZZ.out] at hpt
          have hpt1 := hpt.1.1
          have HPT := Lib.hid hpt
          clear hown6 hg6 hl6 hpt
          refine hK.out _ _ ?_ (fun hHeld => ?_)
          · exact hpt1
          clear hK K
          try simp only [Act.put, List.setIfInBounds_toArray]
          refine wpHT_done (by kernel_rfl) ?_
          simp only [List.drop_succ_cons, List.drop_zero]
          clear hHeld
          obtain ⟨⟨p1, p2, p3, p4⟩, p5, p6, p7⟩ := HPT.out
          have P5 := Lib.hid p5
          have P6 := Lib.hid p6
          have P7 := Lib.hid p7
          have hfl := HFL.out
          clear p5 p6 p7 HPT
          go_wp2_with fail
          go_ret2
          have hzc : ((z : Int) + ((np : Int) + 12)) = ((z + (np + 12) : Nat) : Int) := by omega
          rw [hzc]
          refine putL_post HTX.out HLE.out.1 HLE.out.2 HE.out (HA4.out.log (Sl' := Sx Sl Y4 _) ⟨_, _, P5.out, rfl, P7.out, fun k hk => ?_⟩ P6.out (fun k hk => hk)) (fun _ => ?_) (fun h => absurd rfl h) (fun _ => by rw [HN.out]) (fun h => absurd rfl h)
          · rcases hk with hk | hk
            · exact Nat.lt_of_lt_of_le (HA4.out.lt.2 k hk) P6.out.size
            · exact hk.2
          · rw [List.map_append, HP.out, ← HX.out]; rfl
        · have hbE : (e == 0) = false := by simpa using h0
          have hbE' : (e != 0) = true := by simpa using h0
          have HG : Hid (AppPost (B + 3) w d l T s g p (.returned (.tuple #[.int .i64 0, .int .i64 e])) Y4) := putL_post HTX.out HLE.out.1 HLE.out.2 HE.out HA4.out (fun h => absurd h h0) (fun _ => rfl) (fun h => absurd h h0) (fun _ => rfl)
          clear hM4 h0
          go_wp2_with fail
          go_ret2
          exact HG.out
      · have hA4 := HA4.out
        rw [if_neg hc0] at hA4
        have hr4 := rollL_err (s := sy) (g := gy) (n := n) hc0
        have hne : (turnL s g).e ≠ 0 := by rw [HR3.out, HN.out, hr4]; exact hc0
        have hap := appL_turn (s := s) (g := g) (p := p) HLE.out.1 HLE.out.2 hne
        obtain ⟨q1, q2⟩ := LAt.fin (g := gy) hA4
        obtain ⟨r1, r2⟩ := LWS.trans HF3.out q1 q2 HT0.out
        have hg : AppPost (B + 3) w d l T s g p (.returned (.tuple #[.int .i64 0, .int .i64 (createS sy (segN gy.dir n)).2])) w4 := by
          refine ⟨?_, ?_, r2⟩
          · rw [hap.1, hap.2, HR3.out, HN.out, hr4]
          · rw [hap.1, HR3.out, HN.out, hr4]; exact r1.mono (by omega) (fun k hk => hk) r1.lt
        have HG := Lib.hid hg
        have hbE : ((createS sy (segN gy.dir n)).2 != 0) = true := by simpa using hc0
        clear hA4 hr4 hne hap q1 q2 r1 r2 hg hc0 hturn
        obtain ⟨e, he⟩ : ∃ e, (createS sy (segN gy.dir n)).2 = e := ⟨_, rfl⟩
        rw [he] at HG hbE ⊢
        clear he
        go_wp2_with fail
        go_ret2
        exact HG.out
    · have hts := turnL_sync (Int.not_lt.2 HFU.out) h0
      have hne : (turnL s g).e ≠ 0 := by rw [hts]; exact h0
      have hap := appL_turn (s := s) (g := g) (p := p) HLE.out.1 HLE.out.2 hne
      have hg : AppPost (B + 3) w d l T s g p (.returned (.tuple #[.int .i64 0, .int .i64 (syncL s g).e])) w3 := by
        refine ⟨?_, ?_, HF3.out⟩
        · rw [hap.1, hap.2, hts]
        · rw [hap.1, hts]; exact HW3.out.mono (by omega) (fun k hk => hk) HW3.out.lt
      have HG := Lib.hid hg
      have hbE : ((syncL s g).e != 0) = true := by simpa using h0
      clear hts hne hap hg h0
      obtain ⟨e, he⟩ : ∃ e, (syncL s g).e = e := ⟨_, rfl⟩
      rw [he] at HG hbE ⊢
      clear he
      go_wp2_with fail
      go_ret2
      exact HG.out
end Go.Proofs.Ytjjcilinghgphaa
