/-
  The reference's Load of a mark.
-/
import Derived.Test.YtkinhilkmjfjhaaGreatQ4
import Derived.Test.YtkinhilkmjfjhaaGreatF5
import Derived.Test.YtkinhilkmjfjhaaGreatE28
namespace Go.Proofs.YtkinhilkmjfjhaaGreat
open Go.RowKit Go.Maps Go.Sort
set_option maxRecDepth 100000
attribute [local go_sem] bs_size bs_toList

set_option maxHeartbeats 1000000 in
theorem rrInt_any (p : Nat) (a : Option Addr) (cap : Nat) (l : List UInt8) (hl : l.length ≤ 1000000) (s : RS) (hi : s.i ≤ l.length) (w : World) (h : RrS w p a cap l s) :
    Calls Tryz.prog 54 #[.pointer (some ⟨p, 0, none⟩)] w fun e w' => e = .returned (.int .i64 (vlI l s)) ∧ RDoneS w p a cap l (nxI l s) w' := by
  obtain ⟨i, f, q⟩ := s
  have h : Rr w p a cap l (i : Int) f q := h
  have hi : i ≤ l.length := hi
  by_cases hf : f = 0
  · subst hf
    by_cases hE : rdE (l.drop i) = 0
    · have hr1 : vlI l ⟨i, 0, q⟩ = rdN (l.drop i) := by unfold vlI; rw [if_neg (by simp)]
      have hr2 : nxI l ⟨i, 0, q⟩ = ⟨cN l i, 0, q⟩ := by unfold nxI; rw [if_neg (by simp), if_pos hE]
      rw [hr1, hr2]
      exact rint_ok hl hi hE w h
    · have hr1 : vlI l ⟨i, 0, q⟩ = 0 := by unfold vlI; rw [if_neg (by simp)]; exact rdN_bad hE
      have hr2 : nxI l ⟨i, 0, q⟩ = ⟨i, rdE (l.drop i), cP l i⟩ := by unfold nxI; rw [if_neg (by simp), if_neg hE]
      rw [hr1, hr2]
      exact rint_bad hl hi hE w h
  · have HR := Lib.hid h
    obtain ⟨h0, h1, h2, h3, f1, f2, f3, hrd, _⟩ := h
    clear hrd
    have hd : (f != 0) = true := by simpa using hf
    have hr1 : Hid (vlI l ⟨i, f, q⟩ = 0) := by show _ = _; unfold vlI; rw [if_pos hf]
    have hr2 : Hid (nxI l ⟨i, f, q⟩ = ⟨i, f, q⟩) := nxI_bad hf
    go_enter Tryz.func54, Tryz.ntmps54
    go_wp2
    go_ret
    rw [hr1.out, hr2.out]
    exact ⟨rfl, HR.out, Fr.refl _ _⟩
set_option maxHeartbeats 1000000 in
theorem rsz_bad (most ab : Int) (p : Nat) (a : Option Addr) (cap : Nat) (l : List UInt8) (hl : l.length ≤ 1000000) (i : Nat) (hi : i ≤ l.length) (f q : Int) (hf : f ≠ 0) (w : World) (h : Rr w p a cap l i f q) :
    Calls Tryz.prog 96 #[.pointer (some ⟨p, 0, none⟩), .int .i64 most, .int .i64 ab] w fun e w' => e = .returned (.int .i64 0) ∧ RDone w p a cap l i f q w' := by
  have HC := Lib.hid (rrInt_any p a cap l hl ⟨i, f, q⟩ hi w h)
  have hr1 : Hid (vlI l ⟨i, f, q⟩ = 0) := by show _ = _; unfold vlI; rw [if_pos hf]
  have hr2 : Hid (nxI l ⟨i, f, q⟩ = ⟨i, f, q⟩) := nxI_bad hf
  have hd : (f != 0) = true := by simpa using hf
  obtain ⟨h0, h1, h2, h3, f1, f2, f3, hrd, _⟩ := h
  clear hrd hf
  go_enter Tryz.func96, Tryz.ntmps96
  go_wp2_with fail
  go_at_call 54
  refine (HC.out).mono ?_
  rintro e w1 ⟨rfl, hd1⟩
  rw [hr1.out]
  rw [hr2.out] at hd1
  have hd1 : RDone w p a cap l i f q w1 := hd1
  have HD1 := Lib.hid hd1
  obtain ⟨g0, g1, g2, g3, k1, k2, k3, _, _⟩ := hd1.1
  clear hd1 h0 h1 h2 h3 f1 f2 f3
  go_wp2_with fail
  go_ret
  exact ⟨rfl, HD1.out⟩
set_option maxHeartbeats 1000000 in
theorem rrCount_any (most : Int) (p : Nat) (a : Option Addr) (cap : Nat) (l : List UInt8) (hl : l.length ≤ 1000000) (s : RS) (hi : s.i ≤ l.length) (w : World) (h : RrS w p a cap l s) :
    Calls Tryz.prog 55 #[.pointer (some ⟨p, 0, none⟩), .int .i64 most] w fun e w' => e = .returned (.int .i64 (vlC l most s)) ∧ RDoneS w p a cap l (nxC l most s) w' := by
  obtain ⟨i, f, q⟩ := s
  have h : Rr w p a cap l (i : Int) f q := h
  have hi : i ≤ l.length := hi
  have key : Calls Tryz.prog 96 #[.pointer (some ⟨p, 0, none⟩), .int .i64 most, .int .i64 3] w fun e w' => e = .returned (.int .i64 (vlC l most ⟨i, f, q⟩)) ∧ RDoneS w p a cap l (nxC l most ⟨i, f, q⟩) w' := by
    by_cases hf : f = 0
    · subst hf
      refine (rsz_any most 3 rfl i p a cap l hl hi q w h).mono fun e w' hp => ?_
      by_cases hE : cE l i most 3 = 0
      · have hr1 : vlC l most ⟨i, 0, q⟩ = rdN (l.drop i) := by unfold vlC; rw [if_neg (by simp), if_pos hE]
        have hr2 : nxC l most ⟨i, 0, q⟩ = ⟨cN l i, 0, q⟩ := by unfold nxC; rw [if_neg (by simp), if_pos hE]
        rw [hr1, hr2]
        exact hp.1 hE
      · have hr1 : vlC l most ⟨i, 0, q⟩ = 0 := by unfold vlC; rw [if_neg (by simp), if_neg hE]
        have hr2 : nxC l most ⟨i, 0, q⟩ = ⟨i, cE l i most 3, cP l i⟩ := by unfold nxC; rw [if_neg (by simp), if_neg hE]
        rw [hr1, hr2]
        exact hp.2 hE
    · have hr1 : vlC l most ⟨i, f, q⟩ = 0 := by unfold vlC; rw [if_pos hf]
      have hr2 : nxC l most ⟨i, f, q⟩ = ⟨i, f, q⟩ := by unfold nxC; rw [if_pos hf]
      rw [hr1, hr2]
      exact rsz_bad most 3 p a cap l hl i hi f q hf w h
  have HK := Lib.hid key
  clear key h
  go_enter Tryz.func55, Tryz.ntmps55
  go_wp2_with fail
  go_at_call 96
  refine (HK.out).mono ?_
  rintro e w1 ⟨rfl, hd1⟩
  have HD := Lib.hid hd1
  clear hd1
  go_wp2_with fail
  go_ret
  exact ⟨rfl, HD.out⟩
theorem rSTc : STy Tryz.prog 45 77 (.agg #[.int .i64 0, .int .i64 0]) 2 16 := ⟨Tryz.underlying45, ⟨_, rfl, by kernel_rfl, by kernel_rfl, by kernel_rfl⟩, rfl, by decide⟩
theorem rload_mk {w : World} {b : Nat} {x y z v : Value} (c0 : w.cell? ⟨b, 0, none⟩ = some x) (c1 : w.cell? ⟨b, 1, none⟩ = some y) (c2 : w.cell? ⟨b, 2, none⟩ = some z) (c3 : w.cell? ⟨b, 3, none⟩ = some v) :
    (loadVar 47 ⟨b, 0, none⟩).run Tryz.prog w = .ok (.agg #[x, y, z, v]) w := by
  go_simp
theorem rload_row {w : World} {b : Nat} {t : TypeId} {fr : Nat × Nat} {x y z v : Value} (h : w.heap[b]? = some (.cells #[x, y, z, v] t fr)) : (loadVar 47 ⟨b, 0, none⟩).run Tryz.prog w = .ok (.agg #[x, y, z, v]) w :=
  rload_mk (cell_of_row _ _ 0 _ _ _ h) (cell_of_row _ _ 1 _ _ _ h) (cell_of_row _ _ 2 _ _ _ h) (cell_of_row _ _ 3 _ _ _ h)
/-- The result's block while Load goes on. -/
structure RResAt (w : World) (W : World) : Prop where
  row : W.heap[w.heap.size]? = some (.cells #[.int .i64 0, .int .i64 0, .int .i64 0, .slice none 0 0] 47 (0, 0))
  bel : Below w.heap.size w W
theorem RResAt.new {w W W' : World} (h : RResAt w W) (hb : Below W.heap.size W W') : RResAt w W' :=
  ⟨(hb.block w.heap.size (Array.getElem?_eq_some_iff.1 h.row).1).trans h.row, h.bel.trans (hb.mono h.bel.size)⟩
theorem rresAt0 (w : World) : RResAt w (w.alloc (.cells #[.int .i64 0, .int .i64 0, .int .i64 0, .slice none 0 0] 47)) := ⟨heap_alloc_new _ _, (Below.refl _ _).alloc (Nat.le_refl _) _⟩
theorem Own88.one' {w : World} {base : Nat} {v : Value} {vs : List Value} {ls : List (List UInt8)} {r : List UInt8} (h : Own88 w base v vs ls) (hl : ls = [r]) :
    ∃ b off cap ai ci, v = .slice (some ⟨b, off, none⟩) 1 cap ∧ w.cell? ⟨b, off, none⟩ = some (.slice ai r.length ci) ∧ Rd8 w ai r.length ci r ∧ b < w.heap.size ∧ ∀ c, blk ai = some c → c < w.heap.size := by
  subst hl
  obtain ⟨h1, h2, _⟩ := h
  obtain ⟨a, cap, rfl, hr⟩ := Rd.of_own h1
  have hv : vs.length = 1 := by have := hr.2.2.2.1; simpa using this
  obtain ⟨u, rfl⟩ := List.length_eq_one_iff.1 hv
  have h8 := h2 0 u r rfl rfl
  have hlt := World.ownsRow.lt h8
  obtain ⟨ai, ci, rfl, hrd⟩ := h8.rd
  obtain ⟨b, off, rfl, hb, hc⟩ := hr.at (by simp)
  exact ⟨b, off, cap, ai, ci, rfl, hc 0 _ rfl, hrd, hb, fun c hc => (hlt c (by rw [ownBlock_sl]; exact hc)).2⟩
theorem LpM.put {w3 : World} {p q : Nat} {a : Option Addr} {cap : Nat} {r : List UInt8} {tm tc : TypeId} {x y z x' y' z' : Int} {s : RS} {v : Value} {ts : List (Int × Int)} {W : World} (h : LpM w3 p q a cap r tm tc x y z s v ts W) (j : Nat) (u : Value)
    (he : (#[Value.int .i64 x, .int .i64 y, .int .i64 z, v] : Array Value).setIfInBounds j u = #[.int .i64 x', .int .i64 y', .int .i64 z', v]) : LpM w3 p q a cap r tm tc x' y' z' s v ts (W.setCell ⟨q, j, none⟩ u) := by
  have c1 := h.c1
  have c2 := h.c2
  have hs : Fr (fun k => k = q) W (W.setCell ⟨q, j, none⟩ u) := (Fr.refl (fun k => k = q) W).setCell (p := ⟨q, j, none⟩) (fun _ => rfl) _
  refine ⟨Rr.keep h.rr hs (fun e => by omega) (fun b hb e => by have := h.c3 b hb; omega), h.low.setCell (p := ⟨q, j, none⟩) (by show w3.heap.size ≤ q; omega) _, row_set h.row he, ownsRow_keep h.own fun k hk => hs.block k (World.ownsRow.lt h.own k hk).2 fun e => ?_, h.c1, h.c2, h.c3⟩
  have := (World.ownsRow.lt h.own k hk).1; omega
theorem LpM.other {w3 : World} {p q : Nat} {a : Option Addr} {cap : Nat} {r : List UInt8} {tm tc : TypeId} {x y z : Int} {s : RS} {v : Value} {ts : List (Int × Int)} {W : World} (h : LpM w3 p q a cap r tm tc x y z s v ts W) {b : Nat} (hb : q < b) (hv : v.ownBlock ≠ some b) (j : Nat) (u : Value) :
    LpM w3 p q a cap r tm tc x y z s v ts (W.setCell ⟨b, j, none⟩ u) := by
  have c1 := h.c1
  have c2 := h.c2
  have hs : Fr (fun k => k = b) W (W.setCell ⟨b, j, none⟩ u) := (Fr.refl (fun k => k = b) W).setCell (p := ⟨b, j, none⟩) (fun _ => rfl) _
  exact ⟨Rr.keep h.rr hs (fun e => by omega) (fun c hc e => by have := h.c3 c hc; omega), h.low.setCell (p := ⟨b, j, none⟩) (by show w3.heap.size ≤ b; omega) _, (hs.block q h.lt (fun e => by omega)).trans h.row, ownsRow_keep h.own fun k hk => hs.block k (World.ownsRow.lt h.own k hk).2 fun e => hv (by rw [hk, e]), h.c1, h.c2, h.c3⟩
/-- A loop that stopped has come to the reader's end. -/
theorem rsF_at {r : List UInt8} {k : Nat} (hk : k ≤ rdK r) (h : k < rdK r → (curS r (rs4 r) k).f ≠ 0) : rsF r = curS r (rs4 r) k := by
  rcases Nat.lt_or_ge k (rdK r) with hlt | hge
  · have := curS_bad (h hlt) (rdK r - k)
    rw [show k + (rdK r - k) = rdK r by omega] at this
    exact this
  · unfold rsF; rw [show rdK r = k by omega]
set_option maxHeartbeats 8000000 in
theorem rmload_any (c : Nat) (S : Nat → Prop) (s : DS) (hl64 : s.fs.length ≤ 64) (ht : tot s.fs ≤ 4194304) (w : World) (h : Rf w c S s) :
    Calls Tryz.prog 15 #[.pointer (some ⟨c, 0, none⟩)] w (LoadEnd w 77 (loadM s)) := by
  have HD := Lib.hid h
  have HTT := Lib.hid ht
  clear h ht
  go_enter Tryz.func15, Tryz.ntmps15
  go_wp2_with fail
  go_at_call 29
  have hr := rresAt0 w
  obtain ⟨W1, hW1⟩ : ∃ W1, w.alloc (.cells #[.int .i64 0, .int .i64 0, .int .i64 0, .slice none 0 0] 47) = W1 := ⟨_, rfl⟩
  rw [hW1] at hr ⊢
  refine (rread_any c S s nmM hl64 W1 (HD.out.below hr.bel)).mono ?_
  rintro e w2 ⟨⟨a1, cap1, rfl, hrd⟩, rfl⟩
  have HR2 := Lib.hid hr
  cases hg : getF nmM s.fs with
  | none =>
    rw [show hasE s nmM = 8 by unfold hasE; rw [hg]; rfl]
    have hM : Hid (loadM s = (mk0, 8)) := by show _ = _; unfold loadM; rw [hg]
    have hz := HR2.out.row
    have z0 := cell_of_row W1 w.heap.size 0 _ _ _ hz
    have z1 := cell_of_row W1 w.heap.size 1 _ _ _ hz
    have z2 := cell_of_row W1 w.heap.size 2 _ _ _ hz
    have z3 := cell_of_row W1 w.heap.size 3 _ _ _ hz
    have y0 := frozen_of_row W1 w.heap.size 0 _ _ hz
    have y1 := frozen_of_row W1 w.heap.size 1 _ _ hz
    have y2 := frozen_of_row W1 w.heap.size 2 _ _ hz
    have y3 := frozen_of_row W1 w.heap.size 3 _ _ hz
    have hzl : w.heap.size < W1.heap.size := (Array.getElem?_eq_some_iff.1 hz).1
    clear hz
    clear hrd hr hW1 hg
    go_wp2_with fail
    have r4 := row_set4 HR2.out.row (.int .i64 0) (.int .i64 0) (.int .i64 0) (.slice none 0 0)
    (try simp only [Exit.inBlock, Exit.then])
    refine bodyPost_ret (v := .tuple #[mkV mk0 (.slice none 0 0), .int .i64 8]) ?_ rfl ?_
    · rw [results_cell_tmp rfl]
      simp [asAddr, Result.andThen, rload_row r4, mk0]
    · rw [hM.out]
      exact ⟨_, rfl, OwnT.nil _ _ _, below_set4 HR2.out.bel (Nat.le_refl _) _ _ _ _⟩
  | some f =>
    rw [show hasE s nmM = 0 by unfold hasE; rw [hg]; rfl]
    have hM : Hid (loadM s = loadR f.dt) := by show _ = _; unfold loadM; rw [hg]
    have hlen : f.dt.length ≤ 4194304 := by
      have h1 := HTT.out
      have h2 := dt_le_tot (getF_some hg).1
      omega
    have hdd : dataS s nmM = f.dt := by unfold dataS; rw [hg]; rfl
    rw [hdd] at hrd ⊢
    obtain ⟨l, hl⟩ : ∃ l, f.dt = l := ⟨_, rfl⟩
    rw [hl] at hrd hM hlen ⊢
    have HRD := Lib.hid hrd
    clear hr hW1 hg hl hrd hdd
    go_wp2_with fail
    go_at_call 53
    refine (refScan_any a1 l.length cap1 l W1 HRD.out (by omega)).mono ?_
    rintro e w3 ⟨v3, vs, rfl, ho3, hb3⟩
    have HR3 := Lib.hid (HR2.out.new hb3)
    obtain ⟨a3, cap3, rfl, hr3⟩ := Rd.of_own ho3.1
    by_cases h1 : (scan l).1.length = 1
    case neg =>
      have hres : Hid (loadR l = (mk0, 13)) := by show _ = _; unfold loadR; rw [if_neg (fun h => h1 h.1)]
      have hne : (((scan l).1.length : Int) != 1) = true := by simp; omega
      have hz := HR3.out.row
      have z0 := cell_of_row w3 w.heap.size 0 _ _ _ hz
      have z1 := cell_of_row w3 w.heap.size 1 _ _ _ hz
      have z2 := cell_of_row w3 w.heap.size 2 _ _ _ hz
      have z3 := cell_of_row w3 w.heap.size 3 _ _ _ hz
      have y0 := frozen_of_row w3 w.heap.size 0 _ _ hz
      have y1 := frozen_of_row w3 w.heap.size 1 _ _ hz
      have y2 := frozen_of_row w3 w.heap.size 2 _ _ hz
      have y3 := frozen_of_row w3 w.heap.size 3 _ _ hz
      have hzl : w.heap.size < w3.heap.size := (Array.getElem?_eq_some_iff.1 hz).1
      clear hz
      clear ho3 hb3 hr3 h1
      go_wp2_with fail
      have r4 := row_set4 HR3.out.row (.int .i64 0) (.int .i64 0) (.int .i64 0) (.slice none 0 0)
      (try simp only [Exit.inBlock, Exit.then])
      refine bodyPost_ret (v := .tuple #[mkV mk0 (.slice none 0 0), .int .i64 13]) ?_ rfl ?_
      · rw [results_cell_tmp rfl]
        simp [asAddr, Result.andThen, rload_row r4, mk0]
      · rw [hM.out, hres.out]
        exact ⟨_, rfl, OwnT.nil _ _ _, below_set4 HR3.out.bel (Nat.le_refl _) _ _ _ _⟩
    case pos =>
    have hne : (((scan l).1.length : Int) != 1) = false := by rw [h1]; rfl
    by_cases h2 : (scan l).2 = l.length
    case neg =>
      have hres : Hid (loadR l = (mk0, 13)) := by show _ = _; unfold loadR; rw [if_neg (fun h => h2 h.2.1)]
      have hne2 : (((scan l).2 : Int) != (l.length : Int)) = true := by simp; omega
      have hz := HR3.out.row
      have z0 := cell_of_row w3 w.heap.size 0 _ _ _ hz
      have z1 := cell_of_row w3 w.heap.size 1 _ _ _ hz
      have z2 := cell_of_row w3 w.heap.size 2 _ _ _ hz
      have z3 := cell_of_row w3 w.heap.size 3 _ _ _ hz
      have y0 := frozen_of_row w3 w.heap.size 0 _ _ hz
      have y1 := frozen_of_row w3 w.heap.size 1 _ _ hz
      have y2 := frozen_of_row w3 w.heap.size 2 _ _ hz
      have y3 := frozen_of_row w3 w.heap.size 3 _ _ hz
      have hzl : w.heap.size < w3.heap.size := (Array.getElem?_eq_some_iff.1 hz).1
      clear hz
      clear ho3 hb3 hr3 h1 h2
      go_wp2_with fail
      have r4 := row_set4 HR3.out.row (.int .i64 0) (.int .i64 0) (.int .i64 0) (.slice none 0 0)
      (try simp only [Exit.inBlock, Exit.then])
      refine bodyPost_ret (v := .tuple #[mkV mk0 (.slice none 0 0), .int .i64 13]) ?_ rfl ?_
      · rw [results_cell_tmp rfl]
        simp [asAddr, Result.andThen, rload_row r4, mk0]
      · rw [hM.out, hres.out]
        exact ⟨_, rfl, OwnT.nil _ _ _, below_set4 HR3.out.bel (Nat.le_refl _) _ _ _ _⟩
    case pos =>
    have hne2 : (((scan l).2 : Int) != (l.length : Int)) = false := by simp [h2]
    obtain ⟨r, hr⟩ := List.length_eq_one_iff.1 h1
    have hrl : r.length ≤ 262144 := scan_rec l r (by rw [hr]; simp)
    have hL : Hid (loadR l = if okL r = true then (rdM r, 0) else (mk0, 13)) := by
      show _ = _
      unfold loadR
      rw [hr, h2]; simp
    obtain ⟨b3, o3, cap3', ai, ci, e3, hc3, hr8, hb3l, hbl⟩ := ho3.one' hr
    obtain ⟨rfl, e4, rfl⟩ : a3 = some ⟨b3, o3, none⟩ ∧ (scan l).1.length = 1 ∧ cap3 = cap3' := by simpa using e3
    rw [e4] at hne ⊢
    have H8 := Lib.hid hr8
    have HBL := Lib.hid hbl
    clear ho3 hb3 hr3 h1 h2 hr hr8 e3 e4 hbl
    have hrr4 := rr_new w3 ai ci r 95 H8.out HBL.out
    have hb4 : Below w3.heap.size w3 (w3.alloc (.cells #[.slice ai r.length ci, .int .i64 0, .int .i64 0, .int .i64 0] 95)) := (Below.refl _ _).alloc (Nat.le_refl _) _
    have hs4 : (w3.alloc (.cells #[.slice ai r.length ci, .int .i64 0, .int .i64 0, .int .i64 0] 95)).heap.size = w3.heap.size + 1 := by simp
    obtain ⟨w4, hw4⟩ : ∃ w4, w3.alloc (.cells #[.slice ai r.length ci, .int .i64 0, .int .i64 0, .int .i64 0] 95) = w4 := ⟨_, rfl⟩
    rw [hw4] at hrr4 hb4 hs4
    obtain ⟨w5, hw5⟩ : ∃ w5, w4.alloc (.cells #[.int .i64 0, .int .i64 0, .int .i64 0, .slice none 0 0] 47) = w5 := ⟨_, rfl⟩
    have hb5 : Below w4.heap.size w4 w5 := by rw [← hw5]; exact (Below.refl _ _).alloc (Nat.le_refl _) _
    have hrow : w5.heap[w4.heap.size]? = some (.cells #[.int .i64 0, .int .i64 0, .int .i64 0, .slice none 0 0] 47 (0, 0)) := by rw [← hw5]; exact heap_alloc_new _ _
    obtain ⟨p, hp⟩ : ∃ p, w3.heap.size = p := ⟨_, rfl⟩
    have hs4 : w4.heap.size = p + 1 := by omega
    have hlp : LpM w3 p (p + 1) ai ci r 47 77 0 0 0 ⟨0, 0, 0⟩ (.slice none 0 0) [] w5 := by
      rw [hp] at hrr4
      rw [hs4] at hrow
      exact ⟨Rr.below hrr4 hb5, hb4.trans (hb5.mono (by omega)), hrow, OwnT.nil _ _ _, by omega, by omega, fun b hb => by have := HBL.out b hb; omega⟩
    have HL5 := Lib.hid hlp
    have HW5 := Lib.hid hw5
    have HS4 := Lib.hid hs4
    clear hlp hw5 hrow hb5 hb4 hrr4
    go_wp2_with fail
    go_at_call 54
    rw [HW5.out]
    clear HW5 hw4
    refine (rrInt_any p ai ci r (by omega) ⟨0, 0, 0⟩ (rin0 r).1 w5 HL5.out.rr).mono ?_
    rintro e w6 ⟨rfl, hd⟩
    have HL6 : Hid (LpM w3 p (p + 1) ai ci r 47 77 0 0 0 (rs1 r) (.slice none 0 0) [] w6) := HL5.out.int hd
    have hM0 : rdM r = ⟨vlI r ⟨0, 0, 0⟩, vlI r (rs1 r), vlI r (rs2 r), curs r (rs4 r) (rdK r)⟩ := rfl
    obtain ⟨x, hx⟩ : ∃ x, vlI r ⟨0, 0, 0⟩ = x := ⟨_, rfl⟩
    obtain ⟨y, hy⟩ : ∃ y, vlI r (rs1 r) = y := ⟨_, rfl⟩
    obtain ⟨z, hz⟩ : ∃ z, vlI r (rs2 r) = z := ⟨_, rfl⟩
    rw [hx, hy, hz] at hM0
    have HM0 := Lib.hid hM0
    have HX := Lib.hid hx
    have HY := Lib.hid hy
    have HZ := Lib.hid hz
    rw [HX.out]
    clear hM0 hx hy hz
    have k0 := cell_of_row w6 (p + 1) 0 _ _ _ HL6.out.row
    have k1 := cell_of_row w6 (p + 1) 1 _ _ _ HL6.out.row
    have k2 := cell_of_row w6 (p + 1) 2 _ _ _ HL6.out.row
    have j0 := frozen_of_row w6 (p + 1) 0 _ _ HL6.out.row
    have j1 := frozen_of_row w6 (p + 1) 1 _ _ HL6.out.row
    have j2 := frozen_of_row w6 (p + 1) 2 _ _ HL6.out.row
    have jl := HL6.out.lt
    clear hd
    go_wp2_with fail
    clear k0 k1 k2 j0 j1 j2 jl
    have HL7 := Lib.hid (HL6.out.put (x' := x) (y' := 0) (z' := 0) 0 (.int .i64 x) rfl)
    go_at_call 54
    refine (rrInt_any p ai ci r (by omega) (rs1 r) (rin1 r).1 _ HL7.out.rr).mono ?_
    rintro e w8 ⟨rfl, hd⟩
    have HL8 : Hid (LpM w3 p (p + 1) ai ci r 47 77 x 0 0 (rs2 r) (.slice none 0 0) [] w8) := HL7.out.int hd
    rw [HY.out]
    have k0 := cell_of_row w8 (p + 1) 0 _ _ _ HL8.out.row
    have k1 := cell_of_row w8 (p + 1) 1 _ _ _ HL8.out.row
    have k2 := cell_of_row w8 (p + 1) 2 _ _ _ HL8.out.row
    have j0 := frozen_of_row w8 (p + 1) 0 _ _ HL8.out.row
    have j1 := frozen_of_row w8 (p + 1) 1 _ _ HL8.out.row
    have j2 := frozen_of_row w8 (p + 1) 2 _ _ HL8.out.row
    have jl := HL8.out.lt
    clear hd
    go_wp2_with fail
    clear k0 k1 k2 j0 j1 j2 jl
    have HL9 := Lib.hid (HL8.out.put (x' := x) (y' := y) (z' := 0) 1 (.int .i64 y) rfl)
    go_at_call 54
    refine (rrInt_any p ai ci r (by omega) (rs2 r) (rin2 r).1 _ HL9.out.rr).mono ?_
    rintro e w10 ⟨rfl, hd⟩
    have HL10 : Hid (LpM w3 p (p + 1) ai ci r 47 77 x y 0 (rs3 r) (.slice none 0 0) [] w10) := HL9.out.int hd
    rw [HZ.out]
    have k0 := cell_of_row w10 (p + 1) 0 _ _ _ HL10.out.row
    have k1 := cell_of_row w10 (p + 1) 1 _ _ _ HL10.out.row
    have k2 := cell_of_row w10 (p + 1) 2 _ _ _ HL10.out.row
    have j0 := frozen_of_row w10 (p + 1) 0 _ _ HL10.out.row
    have j1 := frozen_of_row w10 (p + 1) 1 _ _ HL10.out.row
    have j2 := frozen_of_row w10 (p + 1) 2 _ _ HL10.out.row
    have jl := HL10.out.lt
    clear hd
    go_wp2_with fail
    clear k0 k1 k2 j0 j1 j2 jl
    have HL11 := Lib.hid (HL10.out.put (x' := x) (y' := y) (z' := z) 2 (.int .i64 z) rfl)
    clear HL5 HL6 HL7 HL8 HL9 HL10 HX HY HZ
    go_at_call 55
    refine (rrCount_any 12 p ai ci r (by omega) (rs3 r) (rin3 r).1 _ HL11.out.rr).mono ?_
    rintro e w12 ⟨rfl, hd⟩
    have HL12 : Hid (LpM w3 p (p + 1) ai ci r 47 77 x y z (rs4 r) (.slice none 0 0) [] w12) := HL11.out.int hd
    rw [rdK_val]
    have hK12 := rdK_le r
    obtain ⟨K, hK⟩ : ∃ K, rdK r = K := ⟨_, rfl⟩
    rw [hK] at HM0 hK12 ⊢
    have HK := Lib.hid hK
    clear hd hK HL11
    go_wp2_with fail
    go_loopw [11, 12] (fun i _ wr => ∃ (k : Nat) (v : Value), k ≤ K ∧ i = .int .i64 k ∧ Hid (LpM w3 p (p + 1) ai ci r 47 77 x y z (curS r (rs4 r) k) v (curs r (rs4 r) k) wr)) (fun i _ _ => K - (intOf i).toNat)
    case atStart => exact ⟨0, _, Nat.zero_le _, rfl, HL12.out⟩
    case round =>
      clear HL12
      obtain ⟨k, v, hk, rfl, HLP⟩ := hrel
      have hin := Lib.hid ((rin4 r).curS k)
      obtain ⟨s, hs⟩ : ∃ s, curS r (rs4 r) k = s := ⟨_, rfl⟩
      obtain ⟨ts, hts⟩ : ∃ ts, curs r (rs4 r) k = ts := ⟨_, rfl⟩
      have htl : ts.length = k := by rw [← hts]; exact curs_len _ _ _
      have hnx : curS r (rs4 r) (k + 1) = nxI r (nxI r s) := by rw [← hs]; rfl
      have hny : curs r (rs4 r) (k + 1) = ts ++ [(vlI r s, vlI r (nxI r s))] := by rw [← hs, ← hts]; rfl
      have hsf : k ≤ rdK r → (k < rdK r → s.f ≠ 0) → rsF r = s := fun h1 h2 => by rw [← hs] at h2 ⊢; exact rsF_at h1 h2
      rw [hs, hts] at HLP
      rw [hs] at hin
      have HNX := Lib.hid hnx
      have HNY := Lib.hid hny
      have HTL := Lib.hid htl
      have HTS := Lib.hid hts
      have HSFK := Lib.hid hsf
      clear hs hnx hny hts htl hsf
      have hcf : wr.cell? ⟨p, 2, none⟩ = some (.int .i64 s.f) := HLP.out.rr.2.2.1
      by_cases hgo : k < K ∧ s.f = 0
      · have hlt := hgo.1
        have hf0 : (s.f == 0) = true := by simpa using hgo.2
        clear hgo
        go_wp2_with fail
        go_at_call 54
        clear hcf hf0
        refine (rrInt_any p ai ci r (by omega) s hin.out.1 _ HLP.out.rr).mono ?_
        rintro e w2 ⟨rfl, hd⟩
        have HL2 := Lib.hid (HLP.out.int hd)
        clear hd
        go_wp2_with fail
        go_at_call 54
        have hba := (Below.refl w2.heap.size w2).alloc (Nat.le_refl _) (.cells #[.int .i64 (vlI r s), .int .i64 0] 77)
        have hrc := heap_alloc_new w2 (.cells #[.int .i64 (vlI r s), .int .i64 0] 77)
        have hl3 := HL2.out.new hba
        obtain ⟨w4, hw4⟩ : ∃ w4, w2.alloc (.cells #[.int .i64 (vlI r s), .int .i64 0] 77) = w4 := ⟨_, rfl⟩
        rw [hw4] at hba hrc hl3 ⊢
        have HL3 := Lib.hid hl3
        have HBA := Lib.hid hba
        obtain ⟨cb, hcb⟩ : ∃ cb, w2.heap.size = cb := ⟨_, rfl⟩
        have hqc : p + 1 < cb := by rw [← hcb]; exact HL2.out.lt
        have hvc : v.ownBlock ≠ some cb := fun e => by have := (World.ownsRow.lt HL2.out.own _ e).2; omega
        rw [hcb] at hrc ⊢
        have HRC := Lib.hid hrc
        clear hba hrc hl3 hw4 hcb
        refine (rrInt_any p ai ci r (by omega) (nxI r s) hin.out.nxI.1 w4 HL3.out.rr).mono ?_
        rintro e w5 ⟨rfl, hd⟩
        have HL5 := Lib.hid (HL3.out.int hd)
        have hrc5 : w5.heap[cb]? = some (.cells #[.int .i64 (vlI r s), .int .i64 0] 77 (0, 0)) := (hd.2.block cb (Array.getElem?_eq_some_iff.1 HRC.out).1 (fun e => by have e : cb = p := e; omega)).trans HRC.out
        obtain ⟨X, hX⟩ : ∃ X, vlI r s = X := ⟨_, rfl⟩
        obtain ⟨Y, hY⟩ : ∃ Y, vlI r (nxI r s) = Y := ⟨_, rfl⟩
        rw [hX] at hrc5
        rw [hX, hY] at HNY
        rw [hY]
        have HRC5 := Lib.hid hrc5
        have u0 := cell_of_row w5 cb 0 _ _ _ hrc5
        have u1 := cell_of_row w5 cb 1 _ _ _ hrc5
        have f1 := frozen_of_row w5 cb 1 _ _ hrc5
        have ul := (Array.getElem?_eq_some_iff.1 hrc5).1
        have HL6 := Lib.hid (HL5.out.other hqc hvc 1 (.int .i64 Y))
        have n3 := HL5.out.cell3
        have n3' := HL6.out.cell3
        have hlt6 := HL6.out.lt
        have hv0 : v = v := rfl
        clear hd hrc5 hX hY
        obtain ⟨av, cv, rfl, hav⟩ := HL6.out.own.rd
        clear hav hv0
        obtain ⟨w6, hw6⟩ : ∃ w6, w5.setCell ⟨cb, 1, none⟩ (.int .i64 Y) = w6 := ⟨_, rfl⟩
        have hrc6 : w6.heap[cb]? = some (.cells #[.int .i64 X, .int .i64 Y] 77 (0, 0)) := by rw [← hw6]; exact row_set (i := 1) HRC5.out rfl
        rw [hw6] at HL6 n3' hlt6
        have u0 := cell_of_row w6 cb 0 _ _ _ hrc6
        have u1' := cell_of_row w6 cb 1 _ _ _ hrc6
        have hba : Below w6.heap.size w6 (w6.alloc (.cells #[.int .i64 X, .int .i64 Y] 77)) := (Below.refl _ _).alloc (Nat.le_refl _) _
        have hqa : p + 1 + 1 ≤ (w6.alloc (.cells #[.int .i64 X, .int .i64 Y] 77)).heap.size := Nat.le_trans HL6.out.lt hba.size
        have HBA6 := Lib.hid hba
        clear hba hrc6
        go_wp2_with (at_builtin; refine wpList_app rSTc rfl (.tmp 77) (.tmp 79) rfl (p + 1 + 1) rfl (HL6.out.new HBA6.out).own rfl (Rd.one2 w6 _ _ _) (by simp; exact ⟨rfl, rfl⟩) (by have := HTL.out; omega) (by have := HTL.out; unfold maxLen; omega) hqa ?_)
        intro v' w7 ho7 _ hg7
        have ho7 : OwnT w7 (p + 1 + 1) 77 v' (ts ++ [(X, Y)]) := by
          unfold OwnT
          rw [tCells_app, List.length_append]
          exact ho7
        obtain ⟨m0, m1, m2⟩ := HL6.out.appRow HBA6.out hg7
        have HL7 := Lib.hid (HL6.out.app HBA6.out hg7 ho7)
        obtain ⟨bv, dv, hv, hbv⟩ := ho7.rd
        rw [List.length_append] at hv
        have hv : v' = .slice bv (ts.length + 1) dv := hv
        subst hv
        clear ho7 hg7 hqa hbv hw6 u0 u1 u1' f1 n3 n3'
        go_wp2_with fail
        go_roundw
        case rel => exact ⟨k + 1, _, by omega, by go_num, by rw [HNX.out, HNY.out]; exact HL7.out⟩
        case measure => simp [intOf]; omega
      · have hs : rsF r = s := HSFK.out (by rw [HK.out]; exact hk) (fun h => by rw [HK.out] at h; exact fun h0 => hgo ⟨h, h0⟩)
        have HSF := Lib.hid hs
        have HKF : Hid (s.f = 0 → k = K) := fun h0 => by
          rcases Nat.lt_or_ge k K with h | h
          · exact absurd ⟨h, h0⟩ hgo
          · omega
        have HIN := Lib.hid (rinF r)
        rw [hs] at HIN
        have hor : (decide (k < K) = true ∧ (s.f == 0) = false) ∨ decide (k < K) = false := by
          by_cases h : k < K
          · exact .inl ⟨by simpa using h, by simpa using fun h0 => hgo ⟨h, h0⟩⟩
          · exact .inr (by simpa using h)
        clear hs hgo
        rcases hor with ⟨d1, d2⟩ | d1
        all_goals
          obtain ⟨av, cv, rfl, hrt⟩ := HLP.out.own.rd
          have HRT := Lib.hid hrt
          clear hrt
          go_wp2_with fail
          clear hcf d1
          go_at_call 56
          refine (rend_any p ai ci r (by omega) s.i s.f s.q wr HLP.out.rr HIN.out.2).mono ?_
          rintro e w2 ⟨rfl, hb2⟩
          have HL2 := Lib.hid (HLP.out.new hb2)
          have HRT2 := Lib.hid (HRT.out.below hb2)
          have HR2' := Lib.hid (HR3.out.new HL2.out.low)
          clear hb2
          by_cases hok : s.f = 0 ∧ ¬ s.i < r.length
          · rw [if_neg (fun h => hok.2 h.2), hok.1, HIN.out.2 hok.1]
            have hkK := HKF.out hok.1
            have hm : rdM r = ⟨x, y, z, ts⟩ := by rw [HM0.out, ← hkK, HTS.out]
            have HM := Lib.hid hm
            have HFIN : Hid ((rsF r).f = 0 ∧ ¬ (rsF r).i < r.length) := by show _ ∧ _; rw [HSF.out]; exact hok
            have hq2 := HL2.out.row
            have q0 := cell_of_row w2 (p + 1) 0 _ _ _ hq2
            have q1 := cell_of_row w2 (p + 1) 1 _ _ _ hq2
            have q2 := cell_of_row w2 (p + 1) 2 _ _ _ hq2
            have q3 := cell_of_row w2 (p + 1) 3 _ _ _ hq2
            clear hq2 hok hm hkK
            cases hmay : mayM (⟨x, y, z, ts⟩ : Mk) with
            | false =>
              have HMY := Lib.hid hmay
              have hres : Hid (loadR l = (mk0, 13)) := by
                show _ = _
                rw [hL.out, if_neg (fun h => by have := (okL_iff h).2.2; rw [HM.out, hmay] at this; cases this)]
              clear hmay
              go_wp2_with fail
              go_at_call 11
              refine (rmay_any ⟨x, y, z, ts⟩ av cv w2 HRT2.out).mono ?_
              rintro e w5 ⟨rfl, hb5⟩
              rw [HMY.out]
              have HR5 := Lib.hid (HR2'.out.new hb5)
              clear hb5
              have hz := HR5.out.row
              have z0 := cell_of_row w5 w.heap.size 0 _ _ _ hz
              have z1 := cell_of_row w5 w.heap.size 1 _ _ _ hz
              have z2 := cell_of_row w5 w.heap.size 2 _ _ _ hz
              have z3 := cell_of_row w5 w.heap.size 3 _ _ _ hz
              have y0 := frozen_of_row w5 w.heap.size 0 _ _ hz
              have y1 := frozen_of_row w5 w.heap.size 1 _ _ hz
              have y2 := frozen_of_row w5 w.heap.size 2 _ _ hz
              have y3 := frozen_of_row w5 w.heap.size 3 _ _ hz
              have hzl : w.heap.size < w5.heap.size := (Array.getElem?_eq_some_iff.1 hz).1
              clear hz
              go_wp2_with fail
              have r4 := row_set4 HR5.out.row (.int .i64 0) (.int .i64 0) (.int .i64 0) (.slice none 0 0)
              (try simp only [Exit.inBlock, Exit.then])
              refine bodyPost_ret (v := .tuple #[mkV mk0 (.slice none 0 0), .int .i64 13]) ?_ rfl ?_
              · rw [results_cell_tmp rfl]
                simp [asAddr, Result.andThen, rload_row r4, mk0]
              · rw [hM.out, hres.out]
                exact ⟨_, rfl, OwnT.nil _ _ _, below_set4 HR5.out.bel (Nat.le_refl _) _ _ _ _⟩
            | true =>
              have HMY := Lib.hid hmay
              have hres : Hid (loadR l = (⟨x, y, z, ts⟩, 0)) := by
                show _ = _
                have : okL r = true := by
                  unfold okL
                  rw [HM.out, hmay]
                  have := HFIN.out
                  simp [this.1, this.2]
                rw [hL.out, if_pos this, HM.out]
              clear hmay
              go_wp2_with fail
              go_at_call 11
              refine (rmay_any ⟨x, y, z, ts⟩ av cv w2 HRT2.out).mono ?_
              rintro e w5 ⟨rfl, hb5⟩
              rw [HMY.out]
              have HRS := Lib.hid (HR2'.out.new hb5)
              have HLS := Lib.hid (HL2.out.new hb5)
              have g0 := cell_below q0 hb5
              have g1 := cell_below q1 hb5
              have g2 := cell_below q2 hb5
              have g3 := cell_below q3 hb5
              clear hb5 q0 q1 q2 q3
              have hz := HRS.out.row
              have z0 := cell_of_row w5 w.heap.size 0 _ _ _ hz
              have z1 := cell_of_row w5 w.heap.size 1 _ _ _ hz
              have z2 := cell_of_row w5 w.heap.size 2 _ _ _ hz
              have z3 := cell_of_row w5 w.heap.size 3 _ _ _ hz
              have y0 := frozen_of_row w5 w.heap.size 0 _ _ hz
              have y1 := frozen_of_row w5 w.heap.size 1 _ _ hz
              have y2 := frozen_of_row w5 w.heap.size 2 _ _ hz
              have y3 := frozen_of_row w5 w.heap.size 3 _ _ hz
              have hzl : w.heap.size < w5.heap.size := (Array.getElem?_eq_some_iff.1 hz).1
              clear hz
              go_wp2_with fail
              have r4 := row_set4 HRS.out.row (.int .i64 x) (.int .i64 y) (.int .i64 z) (.slice av ts.length cv)
              (try simp only [Exit.inBlock, Exit.then])
              refine bodyPost_ret (v := .tuple #[mkV ⟨x, y, z, ts⟩ (.slice av ts.length cv), .int .i64 0]) ?_ rfl ?_
              · rw [results_cell_tmp rfl]
                simp [asAddr, Result.andThen, rload_row r4]
              · rw [hM.out, hres.out]
                have hwq : w.heap.size < p + 1 := by have h1 := HLS.out.c1; have h3 := (Array.getElem?_eq_some_iff.1 HR3.out.row).1; omega
                refine ⟨_, rfl, ownsRow_keep (ownsRow_mono HLS.out.own (by omega)) fun k hk => ?_, below_set4 HRS.out.bel (Nat.le_refl _) _ _ _ _⟩
                exact same_set4 (fun e => by have := (World.ownsRow.lt HLS.out.own k hk).1; omega) _ _ _ _
          · have hres : Hid (loadR l = (mk0, 13)) := by
              show _ = _
              rw [hL.out, if_neg (fun h => hok (by have := okL_iff h; rw [HSF.out] at this; exact ⟨this.1, this.2.1⟩))]
            obtain ⟨e1, e2, he, h0⟩ : ∃ e1 e2 : Int, (if s.f = 0 ∧ s.i < r.length then Value.tuple #[.int .i64 6, .int .i64 s.i] else .tuple #[.int .i64 s.f, .int .i64 s.q]) = .tuple #[.int .i64 e1, .int .i64 e2] ∧ e1 ≠ 0 := by
              by_cases h : s.f = 0 ∧ s.i < r.length
              · exact ⟨6, s.i, by rw [if_pos h], by decide⟩
              · refine ⟨s.f, s.q, by rw [if_neg h], fun h0 => ?_⟩
                exact hok ⟨h0, fun h1 => h ⟨h0, h1⟩⟩
            rw [he]
            have hne1 : (e1 != 0) = true := by simpa using h0
            clear he hok h0
            have hz := HR2'.out.row
            have z0 := cell_of_row w2 w.heap.size 0 _ _ _ hz
            have z1 := cell_of_row w2 w.heap.size 1 _ _ _ hz
            have z2 := cell_of_row w2 w.heap.size 2 _ _ _ hz
            have z3 := cell_of_row w2 w.heap.size 3 _ _ _ hz
            have y0 := frozen_of_row w2 w.heap.size 0 _ _ hz
            have y1 := frozen_of_row w2 w.heap.size 1 _ _ hz
            have y2 := frozen_of_row w2 w.heap.size 2 _ _ hz
            have y3 := frozen_of_row w2 w.heap.size 3 _ _ hz
            have hzl : w.heap.size < w2.heap.size := (Array.getElem?_eq_some_iff.1 hz).1
            clear hz
            go_wp2_with fail
            have r4 := row_set4 HR2'.out.row (.int .i64 0) (.int .i64 0) (.int .i64 0) (.slice none 0 0)
            (try simp only [Exit.inBlock, Exit.then])
            refine bodyPost_ret (v := .tuple #[mkV mk0 (.slice none 0 0), .int .i64 13]) ?_ rfl ?_
            · rw [results_cell_tmp rfl]
              simp [asAddr, Result.andThen, rload_row r4, mk0]
            · rw [hM.out, hres.out]
              exact ⟨_, rfl, OwnT.nil _ _ _, below_set4 HR2'.out.bel (Nat.le_refl _) _ _ _ _⟩
end Go.Proofs.YtkinhilkmjfjhaaGreat
