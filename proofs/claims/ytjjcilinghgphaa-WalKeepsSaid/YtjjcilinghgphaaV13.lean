/-
  A log's Trim.
-/
import Derived.Test.YtjjcilinghgphaaV12
import Derived.Deep.LoopGhost
namespace Go.Proofs.Ytjjcilinghgphaa
open Go.RowKit Go.Maps
set_option maxRecDepth 100000
attribute [local go_sem] bs_size bs_toList
theorem trimP_stop {dir : List UInt8} {la : Sg} {below : Int} {s : DS} {x : Sg} {r : List Sg} (h : ¬ ((r.head?.getD la).f : Int) ≤ below) : trimP dir la below s (x :: r) = (s, x :: r, 0) := by
  unfold trimP; rw [if_neg h]
theorem trimP_err {dir : List UInt8} {la : Sg} {below : Int} {s : DS} {x : Sg} {r : List Sg} (h : ((r.head?.getD la).f : Int) ≤ below) (h0 : (removeS s (segN dir x.f)).2 ≠ 0) : trimP dir la below s (x :: r) = ((removeS s (segN dir x.f)).1, x :: r, (removeS s (segN dir x.f)).2) := by
  unfold trimP; rw [if_pos h, if_neg h0]
theorem trimP_next {dir : List UInt8} {la : Sg} {below : Int} {s : DS} {x : Sg} {r : List Sg} (h : ((r.head?.getD la).f : Int) ≤ below) (h0 : (removeS s (segN dir x.f)).2 = 0) : trimP dir la below s (x :: r) = trimP dir la below (removeS s (segN dir x.f)).1 r := by
  rw [trimP, if_pos h, if_pos h0]
/-- How far Trim is. -/
structure TrimAt (w : World) (T : Nat → Prop) (d l : Nat) (B : Int) (s : DS) (g : LG) (below : Int) (k : Nat) (Sd Sl : Nat → Prop) (s' : DS) (pre : List Sg) (W : World) : Prop where
  len : pre.length = k
  sub : ∀ x ∈ pre, x ∈ g.pre
  at' : LAt w T d l (B + g.pre.length - (k : Nat)) Sd Sl s' g.dir g.room g.sf (pre ++ [g.la]) W
  eq : trimP g.dir g.la below s g.pre = trimP g.dir g.la below s' pre
theorem TrimAt.fin {w W : World} {T : Nat → Prop} {d l : Nat} {B B' : Int} {s s1 : DS} {g : LG} {below : Int} {Sd Sl : Nat → Prop} {pre : List Sg} {e : Int} (hl : g.pre.length ≤ 100000000) (hB : B' ≤ B + g.pre.length) (hA : LAt w T d l B' Sd Sl s1 g.dir g.room g.sf (pre ++ [g.la]) W) (he : trimP g.dir g.la below s g.pre = (s1, pre, e)) :
    LTold (B + 100000000) w d l T (trimL s g below) (.returned (.int .i64 e)) W := by
  have ht : trimL s g below = ⟨s1, { g with pre := pre }, e⟩ := by unfold trimL; rw [he]
  rw [ht]
  exact LAt.told (g := { g with pre := pre }) (hA.mono (by omega))
set_option maxHeartbeats 2000000 in
theorem wtrim_any {w : World} {d l : Nat} {T : Nat → Prop} {B : Int} {s : DS} {g : LG} (hB : B < 999000000000) (h : LWS B w d l T s g) (hk : LOk s g) (below : Int) :
    Calls Try.prog 27 #[.pointer (some ⟨l, 0, none⟩), .int .i64 below] w (LTold (B + 100000000) w d l T (trimL s g below)) := by
  obtain ⟨Sd, Sl, hA⟩ := h.open
  have hst : TrimAt w T d l B s g below g.pre.length Sd Sl s g.pre w := ⟨rfl, fun x hx => hx, hA.mono (by omega), rfl⟩
  have HK := Lib.hid hk
  have HPL := Lib.hid hk.pre_len
  have HST := Lib.hid hst
  clear h hk hA hst
  go_enter Try.func27, Try.ntmps27
  go_wp2_with fail
  go_loopg [5] g.pre.length (fun k _ wr => ∃ (Sd Sl : Nat → Prop) (s' : DS) (pre : List Sg), Hid (TrimAt w T d l B s g below k Sd Sl s' pre wr))
  case atStart => exact ⟨Sd, Sl, s, g.pre, HST.out⟩
  case round =>
    clear HST
    obtain ⟨Sd, Sl, s', pre, HT⟩ := hrel
    obtain ⟨sv, L, hM, hL, hC, hlt⟩ := HT.out.at'.lg
    obtain ⟨c0, c1, _, c3, _, _, _⟩ := hM.cells
    have hpl := HPL.out
    have hLl : L.length = pre.length + 1 := by rw [← List.length_map (f := Sv.sg), hL]; simp
    cases pre with
    | nil =>
      obtain ⟨a, cap, rfl, _⟩ := hM.hs.rd
      rw [hLl] at c3
      have HG : Hid (LTold (B + 100000000) w d l T (trimL s g below) (.returned (.int .i64 0)) wr) := TrimAt.fin (by omega) (by have := HT.out.len; simp at this; omega) HT.out.at' HT.out.eq
      have hd : decide ((1 : Int) < (([] : List Sg).length + 1 : Nat)) = false := by decide
      clear hM hL hC hlt
      go_wp2_with fail
      go_ret
      exact HG.out
    | cons x r =>
      obtain ⟨X, Lr, rfl, hX, hLr⟩ : ∃ X Lr, L = X :: Lr ∧ X.sg = x ∧ Lr.map Sv.sg = r ++ [g.la] := by
        cases L with
        | nil => simp at hL
        | cons X Lr => simp at hL; exact ⟨X, Lr, rfl, hL.1, hL.2⟩
      obtain ⟨Y, hY1, hY⟩ : ∃ Y, (X :: Lr)[1]? = some Y ∧ Y.sg = r.head?.getD g.la := by
        cases Lr with
        | nil => simp at hLr
        | cons Y q =>
          refine ⟨Y, rfl, ?_⟩
          cases r with
          | nil => simp at hLr; exact hLr.1
          | cons z r => simp at hLr; exact hLr.1
      obtain ⟨rr, off, cap, rfl, hp0, hs0⟩ := hM.at (i := 0) rfl
      obtain ⟨rr', off', cap', e1, hp1, hs1⟩ := hM.at hY1
      simp only [Value.slice.injEq, Option.some.injEq, Addr.mk.injEq] at e1
      obtain ⟨⟨rfl, rfl, _⟩, _, rfl⟩ := e1
      simp only [Nat.add_zero] at hp0
      obtain ⟨t0, _, _, _, _⟩ := hs0.cells
      obtain ⟨u0, _, _, _, _⟩ := hs1.cells
      have hxm := HT.out.sub x (by simp)
      have hsx := HK.out.num x (by unfold LG.segs; exact List.mem_append_left _ hxm)
      have hf2 := hsx.f2
      have hdl := HK.out.d2
      rw [hX] at t0
      rw [hY] at u0
      have hmx := hM.len
      unfold maxLen at hmx
      obtain ⟨n, hn⟩ : ∃ n, (X :: Lr).length = n := ⟨_, rfl⟩
      have hn2 : 1 < n := by rw [← hn, hLl]; simp
      have hM' := hM
      have hC' := hC
      rw [hn] at c3 hmx hM' hC'
      obtain ⟨f, hf⟩ : ∃ f, x.f = f := ⟨_, rfl⟩
      obtain ⟨yf, hyf⟩ : ∃ yf, (r.head?.getD g.la).f = yf := ⟨_, rfl⟩
      obtain ⟨dir, hdir⟩ : ∃ dir, g.dir = dir := ⟨_, rfl⟩
      obtain ⟨xb, hxb⟩ : ∃ xb, X.b = xb := ⟨_, rfl⟩
      obtain ⟨yb, hyb⟩ : ∃ yb, Y.b = yb := ⟨_, rfl⟩
      rw [hf] at t0 hf2
      rw [hyf] at u0
      rw [hdir] at c1 hdl
      rw [hxb] at hp0 t0
      rw [hyb] at hp1 u0
      have HN := Lib.hid hn
      have HM := Lib.hid hM'
      have HC := Lib.hid hC'
      have HLR := Lib.hid hLr
      have HF := Lib.hid hf
      have HYF := Lib.hid hyf
      have HDIR := Lib.hid hdir
      have HF2 := Lib.hid hf2
      have HDL := Lib.hid hdl
      have HLT := Lib.hid hlt
      clear hM hM' hL hC hC' hLr hX hY1 hY hs0 hs1 hxm hsx hLl hn hf hyf hdir hxb hyb hlt hf2 hdl
      by_cases hle : (yf : Int) ≤ below
      · have d1 : decide ((yf : Int) ≤ below) = true := by simpa using hle
        have d2 : decide (1 < n) = true := by simpa using hn2
        go_wp2_with fail
        have hn0 : 0 < n := by omega
        refine wp_region_ht 18 (fun W => W.cell? ⟨l, 0, none⟩ = some (.pointer (some ⟨d, 0, none⟩)) ∧ W.cell? ⟨l, 1, none⟩ = some (.string (bs dir)) ∧ W.cell? ⟨l, 3, none⟩ = some (.slice (some ⟨rr, off, none⟩) n cap) ∧ W.cell? ⟨rr, off, none⟩ = some (.pointer (some ⟨xb, 0, none⟩)) ∧ W.cell? ⟨xb, 0, none⟩ = some (.int .i64 (f : Nat))) (by kernel_rfl) (by kernel_rfl) ?_ (fun hHeld => ?_)
        · exact ⟨c0, c1, c3, hp0, t0⟩
        try simp only [Act.put, List.setIfInBounds_toArray, List.set_cons_zero, List.set_cons_succ]
        refine wpHT_takeD (i := 0) (d := 25) (v := ?_) (by kernel_rfl) rfl rfl (by decide) (by kernel_rfl) (by kernel_rfl) (fun _ _ _ h => h) (Or.inl ⟨by kernel_rfl, ?_⟩) (by assumption) ?_
        rotate_left
        · intro w hSw; (try dsimp only at hSw); go_simp; (try with_reducible rfl)
        try simp only [Act.put, List.setIfInBounds_toArray, List.set_cons_zero, List.set_cons_succ]
        refine wpHT_takeD (i := 1) (d := 26) (v := ?_) (by kernel_rfl) rfl rfl (by decide) (by kernel_rfl) (by kernel_rfl) (fun _ _ _ h => h) (Or.inl ⟨by kernel_rfl, ?_⟩) (by assumption) ?_
        rotate_left
        · intro w hSw; (try dsimp only at hSw); go_simp; (try with_reducible rfl)
        try simp only [Act.put, List.setIfInBounds_toArray, List.set_cons_zero, List.set_cons_succ]
        refine wpHT_takeD (i := 2) (d := 27) (v := ?_) (by kernel_rfl) rfl rfl (by decide) (by kernel_rfl) (by kernel_rfl) (fun _ _ _ h => h) (Or.inl ⟨by kernel_rfl, ?_⟩) (by assumption) ?_
        rotate_left
        · intro w hSw; (try dsimp only at hSw); go_simp; (try with_reducible rfl)
        try simp only [Act.put, List.setIfInBounds_toArray, List.set_cons_zero, List.set_cons_succ]
        refine wpHT_takeD (i := 3) (d := 28) (v := ?_) (by kernel_rfl) rfl rfl (by decide) (by kernel_rfl) (by kernel_rfl) (fun _ _ _ h => h) (Or.inl ⟨by kernel_rfl, ?_⟩) (by assumption) ?_
        rotate_left
        · intro w hSw; (try dsimp only at hSw); go_simp; (try with_reducible rfl)
        try simp only [Act.put, List.setIfInBounds_toArray, List.set_cons_zero, List.set_cons_succ]
        refine wpHT_takeD (i := 4) (d := 29) (v := ?_) (by kernel_rfl) rfl rfl (by decide) (by kernel_rfl) (by kernel_rfl) (fun _ _ _ h => h) (Or.inl ⟨by kernel_rfl, ?_⟩) (by assumption) ?_
        rotate_left
        · intro w hSw; (try dsimp only at hSw); go_simp; (try with_reducible rfl)
        try simp only [Act.put, List.setIfInBounds_toArray, List.set_cons_zero, List.set_cons_succ]
        refine wpHT_takeD (i := 5) (d := 30) (v := ?_) (by kernel_rfl) rfl rfl (by decide) (by kernel_rfl) (by kernel_rfl) (fun _ _ _ h => h) (Or.inl ⟨by kernel_rfl, ?_⟩) (by assumption) ?_
        rotate_left
        · intro w hSw; (try dsimp only at hSw); go_simp; (try with_reducible rfl)
        try simp only [Act.put, List.setIfInBounds_toArray, List.set_cons_zero, List.set_cons_succ]
        refine wpHT_takeD (i := 6) (d := 31) (v := ?_) (by kernel_rfl) rfl rfl (by decide) (by kernel_rfl) (by kernel_rfl) (fun _ _ _ h => h) (Or.inl ⟨by kernel_rfl, ?_⟩) (by assumption) ?_
        rotate_left
        · intro w hSw; (try dsimp only at hSw); go_simp; (try with_reducible rfl)
        try simp only [Act.put, List.setIfInBounds_toArray, List.set_cons_zero, List.set_cons_succ]
        refine wpHT_takeD (i := 7) (d := 32) (v := ?_) (by kernel_rfl) rfl rfl (by decide) (by kernel_rfl) (by kernel_rfl) (fun _ _ _ h => h) (Or.inl ⟨by kernel_rfl, ?_⟩) (by assumption) ?_
        rotate_left
        · intro w hSw; (try dsimp only at hSw); go_simp; (try with_reducible rfl)
        try simp only [Act.put, List.setIfInBounds_toArray, List.set_cons_zero, List.set_cons_succ]
        refine wpHT_takeD (i := 8) (d := 33) (v := ?_) (by kernel_rfl) rfl rfl (by decide) (by kernel_rfl) (by kernel_rfl) (fun _ _ _ h => h) (Or.inl ⟨by kernel_rfl, ?_⟩) (by assumption) ?_
        rotate_left
        · intro w hSw; (try dsimp only at hSw); go_simp; (try with_reducible rfl)
        try simp only [Act.put, List.setIfInBounds_toArray, List.set_cons_zero, List.set_cons_succ]
        refine wpHT_takeD (i := 9) (d := 34) (v := ?_) (by kernel_rfl) rfl rfl (by decide) (by kernel_rfl) (by kernel_rfl) (fun _ _ _ h => h) (Or.inl ⟨by kernel_rfl, ?_⟩) (by assumption) ?_
        rotate_left
        · intro w hSw; (try dsimp only at hSw); go_simp; (try with_reducible rfl)
        try simp only [Act.put, List.setIfInBounds_toArray, List.set_cons_zero, List.set_cons_succ]
        refine wpHT_takeD (i := 10) (d := 35) (v := ?_) (by kernel_rfl) rfl rfl (by decide) (by kernel_rfl) (by kernel_rfl) (fun _ _ _ h => h) (Or.inl ⟨by kernel_rfl, ?_⟩) (by assumption) ?_
        rotate_left
        · intro w hSw; (try dsimp only at hSw); go_simp; (try with_reducible rfl)
        try simp only [Act.put, List.setIfInBounds_toArray, List.set_cons_zero, List.set_cons_succ]
        refine wpHT_takeD (i := 11) (d := 36) (v := ?_) (by kernel_rfl) rfl rfl (by decide) (by kernel_rfl) (by kernel_rfl) (fun _ _ _ h => h) (Or.inl ⟨by kernel_rfl, ?_⟩) (by assumption) ?_
        rotate_left
        · intro w hSw; (try dsimp only at hSw); go_simp; (try with_reducible rfl)
        try simp only [Act.put, List.setIfInBounds_toArray, List.set_cons_zero, List.set_cons_succ]
        refine wpHT_takeD (i := 12) (d := 37) (v := ?_) (by kernel_rfl) rfl rfl (by decide) (by kernel_rfl) (by kernel_rfl) (fun _ _ _ h => h) (Or.inl ⟨by kernel_rfl, ?_⟩) (by assumption) ?_
        rotate_left
        · intro w hSw; (try dsimp only at hSw); go_simp; (try with_reducible rfl)
        try simp only [Act.put, List.setIfInBounds_toArray, List.set_cons_zero, List.set_cons_succ]
        refine wpHT_takeD (i := 13) (d := 38) (v := ?_) (by kernel_rfl) rfl rfl (by decide) (by kernel_rfl) (by kernel_rfl) (fun _ _ _ h => h) (Or.inl ⟨by kernel_rfl, ?_⟩) (by assumption) ?_
        rotate_left
        · intro w hSw; (try dsimp only at hSw); go_simp; (try with_reducible rfl)
        try simp only [Act.put, List.setIfInBounds_toArray, List.set_cons_zero, List.set_cons_succ]
        refine wpHT_takeD (i := 14) (d := 39) (v := ?_) (by kernel_rfl) rfl rfl (by decide) (by kernel_rfl) (by kernel_rfl) (fun _ _ _ h => h) (Or.inl ⟨by kernel_rfl, ?_⟩) (by assumption) ?_
        rotate_left
        · intro w hSw; (try dsimp only at hSw); go_simp; (try with_reducible rfl)
        try simp only [Act.put, List.setIfInBounds_toArray, List.set_cons_zero, List.set_cons_succ]
        refine wpHT_takeD (i := 15) (d := 40) (v := ?_) (by kernel_rfl) rfl rfl (by decide) (by kernel_rfl) (by kernel_rfl) (fun _ _ _ h => h) (Or.inl ⟨by kernel_rfl, ?_⟩) (by assumption) ?_
        rotate_left
        · intro w hSw; (try dsimp only at hSw); go_simp; (try with_reducible rfl)
        try simp only [Act.put, List.setIfInBounds_toArray, List.set_cons_zero, List.set_cons_succ]
        refine wpHT_takeD (i := 16) (d := 41) (v := ?_) (by kernel_rfl) rfl rfl (by decide) (by kernel_rfl) (by kernel_rfl) (fun _ _ _ h => h) (Or.inl ⟨by kernel_rfl, ?_⟩) (by assumption) ?_
        rotate_left
        · intro w hSw; (try dsimp only at hSw); go_simp; (try with_reducible rfl)
        try simp only [Act.put, List.setIfInBounds_toArray, List.set_cons_zero, List.set_cons_succ]
        refine wpHT_one (i := 17) (by kernel_rfl) rfl (by decide) (fun K hK => ?_)
        go_simp
        go_at_call 33
        refine (file_any dir f HF2.out (by have := HDL.out; omega) _).mono ?_
        rintro e w2 ⟨rfl, hb⟩
        have hb' : Below wr.heap.size wr w2 := (Below.refl _ wr).drew.trans hb
        have HB2 := Lib.hid hb'
        have c0 := cell_below c0 hb'
        have c1 := cell_below c1 hb'
        have c3 := cell_below c3 hb'
        have hp0 := cell_below hp0 hb'
        have t0 := cell_below t0 hb'
        clear hb hb'
        refine hK.out _ _ ?_ (fun hHeld => ?_)
        · exact ⟨c0, c1, c3, hp0, t0⟩
        clear hK K
        try simp only [Act.put, List.setIfInBounds_toArray, List.set_cons_zero, List.set_cons_succ]
        refine wpHT_done (by kernel_rfl) ?_
        simp only [List.drop_succ_cons, List.drop_zero]
        clear hHeld
        have HA2 := Lib.hid (HT.out.at'.new HB2.out)
        have hk1 := HT.out.len
        rw [List.length_cons] at hk1
        go_wp2_with fail
        go_at_call 46
        refine (remove_any d Sd (B + g.pre.length - (gk : Nat)) (by have := HPL.out; omega) s' (segN dir f) (by rw [segN_length]; have := HDL.out; omega) w2 HA2.out.dk).mono ?_
        rintro e w3 ⟨rfl, hd⟩
        have HA3 := Lib.hid (HA2.out.disk hd)
        have hM3 := (HM.out.new HB2.out).after HC.out hd.2 (fun k hk hs => HA2.out.dj k hs hk)
        have HM3 := Lib.hid hM3
        clear hd c0 c1 c3 hp0 hp1 t0 u0
        by_cases h0 : (removeS s' (segN dir f)).2 = 0
        · rw [h0]
          have htn : trimP g.dir g.la below s g.pre = trimP g.dir g.la below (removeS s' (segN dir f)).1 r := by
            rw [HT.out.eq, trimP_next (by rw [HYF.out]; exact hle) (by rw [HDIR.out, HF.out]; exact h0), HDIR.out, HF.out]
          have HTN := Lib.hid htn
          obtain ⟨_, _, _, c3, _, f3, _⟩ := hM3.cells
          have hs3 := hM3.hs
          rw [HN.out] at hs3
          obtain ⟨v1, hrun, ho1, hbk1⟩ := run_sliceO Sseg hs3 1 (by omega)
          obtain ⟨a1, cap1, rfl, _⟩ := ho1.rd
          have hrun' : ∀ w', (Instr.slice 74 (.slice (some ⟨rr, off, none⟩) n cap) (some (.int .i64 1)) none none).run Try.prog w' = .ok (.slice a1 (n - 1) cap1) w' := hrun
          have hbb := hM3.blocks
          have hrow3 := hM3.hd
          have hpop : LgM (w3.setCell ⟨l, 3, none⟩ (.slice a1 (n - 1) cap1)) l d g.dir g.room g.sf (.slice a1 (n - 1) cap1) Lr := by
            have hfr : Fr (fun k => k = l) w3 (w3.setCell ⟨l, 3, none⟩ (.slice a1 (n - 1) cap1)) := (Fr.refl (fun k => k = l) w3).setCell (p := ⟨l, 3, none⟩) (fun _ => rfl) _
            have hLr1 : Lr.length = n - 1 := by rw [← HN.out]; simp
            refine hM3.pop hfr (row_set hrow3 rfl) ?_
            rw [hLr1]
            refine OwnO.keep (w := w3) (by simpa using ho1) fun k hk => hfr.block k (hbb.2.1 k (by rw [← hbk1]; exact hk)) fun e => ?_
            exact (hM3.apart.1 k (by rw [← hbk1]; exact hk)).1 e
          have hcov : CovL Sl l (.slice a1 (n - 1) cap1) Lr := ⟨HC.out.cl, fun k hk => HC.out.cs k (by rw [← hbk1]; exact hk), fun y hy => HC.out.cx y (List.mem_cons_of_mem _ hy)⟩
          have hfrl : Fr Sl w3 (w3.setCell ⟨l, 3, none⟩ (.slice a1 (n - 1) cap1)) := (Fr.refl Sl w3).setCell (p := ⟨l, 3, none⟩) (fun _ => HC.out.cl) _
          have hA4 := HA3.out.log (Sl' := Sl) ⟨_, _, hpop, HLR.out, hcov, fun k hk => Nat.lt_of_lt_of_le (HA3.out.lt.2 k hk) hfrl.size⟩ hfrl (fun k hk => .inl hk)
          have HA4 := Lib.hid hA4
          clear hM3 h0 htn hs3 hrun ho1 hbk1 hbb hrow3 hpop hcov hfrl hA4 d1 d2
          go_wp2_with fail
          go_roundg r.length
          case measure => omega
          case rel => exact ⟨_, Sl, _, r, ⟨rfl, fun y hy => HT.out.sub y (List.mem_cons_of_mem _ hy), HA4.out.mono (by omega), HTN.out⟩⟩
        · have htn : trimP g.dir g.la below s g.pre = ((removeS s' (segN dir f)).1, x :: r, (removeS s' (segN dir f)).2) := by
            rw [HT.out.eq, trimP_err (by rw [HYF.out]; exact hle) (by rw [HDIR.out, HF.out]; exact h0), HDIR.out, HF.out]
          have HG : Hid (LTold (B + 100000000) w d l T (trimL s g below) (.returned (.int .i64 (removeS s' (segN dir f)).2)) w3) := TrimAt.fin (by have := HPL.out; omega) (by omega) HA3.out htn
          have hbE : ((removeS s' (segN dir f)).2 != 0) = true := by simpa using h0
          clear hM3 h0 htn d1 d2
          obtain ⟨e, he⟩ : ∃ e, (removeS s' (segN dir f)).2 = e := ⟨_, rfl⟩
          rw [he] at HG hbE ⊢
          clear he
          go_wp2_with fail
          go_ret
          exact HG.out
      · have HG : Hid (LTold (B + 100000000) w d l T (trimL s g below) (.returned (.int .i64 0)) wr) := TrimAt.fin (by have := HPL.out; omega) (by have := HT.out.len; omega) HT.out.at' (by rw [HT.out.eq, trimP_stop (by rw [HYF.out]; exact hle)])
        have d1 : decide ((yf : Int) ≤ below) = false := by simpa using hle
        have d2 : decide (1 < n) = true := by simpa using hn2
        go_wp2_with fail
        go_ret
        exact HG.out
end Go.Proofs.Ytjjcilinghgphaa
