/-
  The reference's disk: Append.
-/
import Derived.Test.YtdbfkneklkdnaaaE35
namespace Go.Proofs.Ytdbfkneklkdnaaa
open Go.RowKit Go.Maps Go.Sort
set_option maxRecDepth 100000
attribute [local go_sem] bs_size bs_toList

theorem fallS_with (s : DS) (l : List Fl) : fallS { s with fs := l } = ({ (fallS s).1 with fs := l }, (fallS s).2) := by
  unfold fallS
  by_cases h1 : 0 < s.ar
  · by_cases h2 : s.ar = 1
    · simp [h2]
    · simp [h1, h2]
  · simp [h1]
/-- What 'falls' tells, at any world, whatever the files. -/
theorem falls_at {B : Int} (hB : B ≤ 1000000000000) {c : Nat} {s : DS} (hok : DOk B s) (hdn : s.dn = false) {fb : Bool} (hfb : (fallS s).2 = fb) {s1 : DS} (hs1 : (fallS s).1 = s1) (l : List Fl) (S : Nat → Prop) (w : World) (h : Rf w c S { s with fs := l }) :
    Calls Try.prog 66 #[.pointer (some ⟨c, 0, none⟩)] w fun e w' => e = .returned (.bool fb) ∧ Rf w' c S { s1 with fs := l } ∧ Fr (fun k => k = c) w w' := by
  have := falls_any c S { s with fs := l } hok.ar0 hok.ar1 hok.wr0 (Int.le_trans hok.wr1 hB) hdn w h
  unfold FallPost at this
  rw [fallS_with, hfb, hs1] at this
  exact this
theorem RTold.at {w w' : World} {c : Nat} {S S' : Nat → Prop} {s : DS} {r : DS × Int} {e : Ending} (he : e = .returned (.int .i64 r.2)) (h : Rf w' c S' s) (hr : r.1 = s) (hs : ∀ q, S' q → Sx S w w' q) (hf : Fr S w w') (hS : ∀ q, S q → q < w.heap.size) : RTold w c S r e w' :=
  ⟨he, by rw [hr]; exact h.grow hs (fun q hq => hq.elim (fun h => Nat.lt_of_lt_of_le (hS q h) hf.size) (fun h => h.2)), hf⟩
theorem rapp_err {s : DS} {n b : List UInt8} {e : Int} (h : appE s n b = e) (he : e ≠ 0) : appendS s n b = (s, e) := by unfold appendS; rw [if_pos (by rw [h]; exact he), h]
theorem rapp_ok {s : DS} {n b : List UInt8} {fb : Bool} {s1 : DS} (h : appE s n b = 0) (hfb : (fallS s).2 = fb) (hs1 : (fallS s).1 = s1) : appendS s n b = ({ s1 with fs := updF n (fun f => ⟨f.nm, f.dt ++ b, f.sf⟩) s.fs }, if fb = true then 12 else 0) := by
  unfold appendS; rw [if_neg (by rw [h]; decide), hfb, hs1]
set_option maxHeartbeats 4000000 in
theorem rappend_any (c : Nat) (S : Nat → Prop) (B : Int) (hB : B ≤ 1000000000000) (s : DS) (n : List UInt8) (ab : Option Addr) (nb cb : Nat) (bb : List UInt8) (hbb : bb.length ≤ 4194304) (hok : DOk B s) (w : World) (h : Rf w c S s) (hrb : Rd8 w ab nb cb bb) :
    Calls Try.prog 46 #[.pointer (some ⟨c, 0, none⟩), .string (bs n), .slice ab nb cb] w (RTold w c S (appendS s n bb)) := by
  have HS := Lib.hid h.lt
  have HIN := Lib.hid h.in
  have HRF := Lib.hid h
  have hlen := hok.len
  have hnb : nb ≤ 4194304 := by rw [hrb.1]; exact hbb
  have hbn : bb.length = nb := hrb.1.symm
  have HRB := Lib.hid hrb
  have HAT := Lib.hid (at_any c S s n hok.len w h)
  have HSZ := Lib.hid (rsize_any c S s hok.len hok.tot w h)
  obtain ⟨a, cap, c0, c1, c2, c3, hr⟩ := h.row
  clear hrb
  cases hdn : s.dn with
  | true =>
    rw [hdn] at c1
    have hres : Hid (appendS s n bb = (s, 12)) := rapp_err (by unfold appE; rw [hdn]; rfl) (by decide)
    clear hr hdn h
    go_enter Try.func46, Try.ntmps46
    go_wp2_with (go_at_call 56; ((with_reducible refine (HAT.out).mono ?_); rintro e w1 ⟨rfl, rfl⟩))
    go_ret
    exact RTold.same (by rw [hres.out]; rfl) HRF.out (by rw [hres.out]) (Fr.refl _ _) HS.out
  | false =>
    rw [hdn] at c1
    rcases atI_get (n := n) (l := s.fs) with ⟨f, k, hg, hf, hk, hat⟩ | ⟨hg, hat⟩
    · rw [hat] at HAT
      obtain ⟨T, hT⟩ : ∃ T, tot s.fs = T := ⟨_, rfl⟩
      rw [hT] at HSZ
      have htl : T ≤ 4194304 := by rw [← hT]; exact hok.tot
      by_cases hfull : 4194304 < bb.length + T
      · have hres : Hid (appendS s n bb = (s, 11)) := rapp_err (by unfold appE; rw [hdn, hg, hT]; simp [hfull]) (by decide)
        have d1 : decide ((4194304 : Int) - (T : Nat) < (nb : Nat)) = true := by simp; omega
        clear hr hdn h hg hf hat hT
        go_enter Try.func46, Try.ntmps46
        go_wp2_with (first | (go_at_call 56; ((with_reducible refine (HAT.out).mono ?_); rintro e w1 ⟨rfl, rfl⟩)) | (go_at_call 55; ((with_reducible refine (HSZ.out).mono ?_); rintro e w1 ⟨rfl, rfl⟩)))
        go_ret
        exact RTold.same (by rw [hres.out]; rfl) HRF.out (by rw [hres.out]) (Fr.refl _ _) HS.out
      · have d1 : decide ((4194304 : Int) - (T : Nat) < (nb : Nat)) = false := by simp; omega
        have he : appE s n bb = 0 := by unfold appE; rw [hdn, hg, hT]; simp; omega
        obtain ⟨s1, hs1⟩ : ∃ s1, (fallS s).1 = s1 := ⟨_, rfl⟩
        obtain ⟨fb, hfb⟩ : ∃ fb, (fallS s).2 = fb := ⟨_, rfl⟩
        have hfn := (getF_some hg).2
        have hres : Hid (appendS s n bb = ({ s1 with fs := s.fs.set k ⟨f.nm, f.dt ++ bb, f.sf⟩ }, if fb = true then 12 else 0)) := by
          show _ = _
          rw [rapp_ok he hfb hs1, ← hfn, upd_set hok.srt hf]
        have HFA := Lib.hid (falls_at (c := c) hB hok hdn hfb hs1 (s.fs.set k ⟨f.nm, f.dt ++ bb, f.sf⟩))
        obtain ⟨D, hD⟩ : ∃ D, f.dt ++ bb = D := ⟨_, rfl⟩
        have hDl : f.dt.length + nb = D.length := by rw [← hD, List.length_append, hbn]
        rw [hD] at hres HFA
        have HDD := Lib.hid hD
        have HDL := Lib.hid hDl
        clear hD hDl
        obtain ⟨m, hm⟩ : ∃ m, s.fs.length = m := ⟨_, rfl⟩
        obtain ⟨b, cap1, aj, cj, hc1, v0, v1, v2, v3, v4, v5, v6, v7, v8⟩ := h.view hf
        have hdl : f.dt.length ≤ 4194304 := by have := dt_le_tot (List.mem_of_getElem? hf); omega
        rw [hm] at hc1 hlen hk
        have c0 := cell_of_row w c 0 _ _ _ hc1
        have HFK := Lib.hid hf
        have HC0 := Lib.hid c0
        have HSB := Lib.hid v8
        have H8 := Lib.hid v5
        have HBW : Hid (b < w.heap.size) := h.lt b v8
        have HV3 := Lib.hid v3
        clear hr hdn h hg hf hat hm hfb hs1 he hfn hc1 v3 v4 v5 v6 v7 v8 hT hfull v0 v2
        go_enter Try.func46, Try.ntmps46
        go_wp2_with (first | (go_at_call 56; ((with_reducible refine (HAT.out).mono ?_); rintro e w1 ⟨rfl, rfl⟩)) | (go_at_call 55; ((with_reducible refine (HSZ.out).mono ?_); rintro e w1 ⟨rfl, rfl⟩)))
        refine wp_region_ht 18 (fun W => W.cell? ⟨c, 0, none⟩ = some (.slice (some ⟨b, 0, none⟩) m cap1) ∧ W.cell? ⟨b, k * 3 + 1, none⟩ = some (.slice aj f.dt.length cj)) (by kernel_rfl) (by kernel_rfl) ?_ (fun hHeld => ?_)
        · exact ⟨c0, v1⟩
        try simp only [Act.put, List.setIfInBounds_toArray, List.set_cons_zero, List.set_cons_succ]
        refine wpHT_takeD (i := 0) (d := 26) (v := ?_) (by kernel_rfl) rfl rfl (by decide) (by kernel_rfl) (by kernel_rfl) (fun _ _ _ h => h) (Or.inl ⟨by kernel_rfl, ?_⟩) (by assumption) ?_
        rotate_left
        · intro w hSw; (try dsimp only at hSw); go_simp; (try with_reducible rfl)
        try simp only [Act.put, List.setIfInBounds_toArray, List.set_cons_zero, List.set_cons_succ]
        refine wpHT_takeD (i := 1) (d := 27) (v := ?_) (by kernel_rfl) rfl rfl (by decide) (by kernel_rfl) (by kernel_rfl) (fun _ _ _ h => h) (Or.inl ⟨by kernel_rfl, ?_⟩) (by assumption) ?_
        rotate_left
        · intro w hSw; (try dsimp only at hSw); go_simp; (try with_reducible rfl)
        try simp only [Act.put, List.setIfInBounds_toArray, List.set_cons_zero, List.set_cons_succ]
        refine wpHT_takeD (i := 2) (d := 28) (v := ?_) (by kernel_rfl) rfl rfl (by decide) (by kernel_rfl) (by kernel_rfl) (fun _ _ _ h => h) (Or.inl ⟨by kernel_rfl, ?_⟩) (by assumption) ?_
        rotate_left
        · intro w hSw; (try dsimp only at hSw); go_simp; (try with_reducible rfl)
        try simp only [Act.put, List.setIfInBounds_toArray, List.set_cons_zero, List.set_cons_succ]
        refine wpHT_takeD (i := 3) (d := 29) (v := ?_) (by kernel_rfl) rfl rfl (by decide) (by kernel_rfl) (by kernel_rfl) (fun _ _ _ h => h) (Or.inl ⟨by kernel_rfl, ?_⟩) (by assumption) ?_
        rotate_left
        · intro w hSw; (try dsimp only at hSw); go_simp; (try with_reducible rfl)
        try simp only [Act.put, List.setIfInBounds_toArray, List.set_cons_zero, List.set_cons_succ]
        refine wpHT_takeD (i := 4) (d := 30) (v := ?_) (by kernel_rfl) rfl rfl (by decide) (by kernel_rfl) (by kernel_rfl) (fun _ _ _ h => h) (Or.inl ⟨by kernel_rfl, ?_⟩) (by assumption) ?_
        rotate_left
        · intro w hSw; (try dsimp only at hSw); go_simp; (try with_reducible rfl)
        try simp only [Act.put, List.setIfInBounds_toArray, List.set_cons_zero, List.set_cons_succ]
        refine wpHT_takeD (i := 5) (d := 31) (v := ?_) (by kernel_rfl) rfl rfl (by decide) (by kernel_rfl) (by kernel_rfl) (fun _ _ _ h => h) (Or.inl ⟨by kernel_rfl, ?_⟩) (by assumption) ?_
        rotate_left
        · intro w hSw; (try dsimp only at hSw); go_simp; (try with_reducible rfl)
        try simp only [Act.put, List.setIfInBounds_toArray, List.set_cons_zero, List.set_cons_succ]
        refine wpHT_takeD (i := 6) (d := 32) (v := ?_) (by kernel_rfl) rfl rfl (by decide) (by kernel_rfl) (by kernel_rfl) (fun _ _ _ h => h) (Or.inl ⟨by kernel_rfl, ?_⟩) (by assumption) ?_
        rotate_left
        · intro w hSw; (try dsimp only at hSw); go_simp; (try with_reducible rfl)
        try simp only [Act.put, List.setIfInBounds_toArray, List.set_cons_zero, List.set_cons_succ]
        refine wpHT_takeD (i := 7) (d := 33) (v := ?_) (by kernel_rfl) rfl rfl (by decide) (by kernel_rfl) (by kernel_rfl) (fun _ _ _ h => h) (Or.inl ⟨by kernel_rfl, ?_⟩) (by assumption) ?_
        rotate_left
        · intro w hSw; (try dsimp only at hSw); go_simp; (try with_reducible rfl)
        try simp only [Act.put, List.setIfInBounds_toArray, List.set_cons_zero, List.set_cons_succ]
        refine wpHT_takeD (i := 8) (d := 34) (v := ?_) (by kernel_rfl) rfl rfl (by decide) (by kernel_rfl) (by kernel_rfl) (fun _ _ _ h => h) (Or.inl ⟨by kernel_rfl, ?_⟩) (by assumption) ?_
        rotate_left
        · intro w hSw; (try dsimp only at hSw); go_simp; (try with_reducible rfl)
        try simp only [Act.put, List.setIfInBounds_toArray, List.set_cons_zero, List.set_cons_succ]
        refine wpHT_takeD (i := 9) (d := 35) (v := ?_) (by kernel_rfl) rfl rfl (by decide) (by kernel_rfl) (by kernel_rfl) (fun _ _ _ h => h) (Or.inl ⟨by kernel_rfl, ?_⟩) (by assumption) ?_
        rotate_left
        · intro w hSw; (try dsimp only at hSw); go_simp; (try with_reducible rfl)
        try simp only [Act.put, List.setIfInBounds_toArray, List.set_cons_zero, List.set_cons_succ]
        refine wpHT_takeD (i := 10) (d := 36) (v := ?_) (by kernel_rfl) rfl rfl (by decide) (by kernel_rfl) (by kernel_rfl) (fun _ _ _ h => h) (Or.inl ⟨by kernel_rfl, ?_⟩) (by assumption) ?_
        rotate_left
        · intro w hSw; (try dsimp only at hSw); go_simp; (try with_reducible rfl)
        try simp only [Act.put, List.setIfInBounds_toArray, List.set_cons_zero, List.set_cons_succ]
        refine wpHT_takeD (i := 11) (d := 37) (v := ?_) (by kernel_rfl) rfl rfl (by decide) (by kernel_rfl) (by kernel_rfl) (fun _ _ _ h => h) (Or.inl ⟨by kernel_rfl, ?_⟩) (by assumption) ?_
        rotate_left
        · intro w hSw; (try dsimp only at hSw); go_simp; (try with_reducible rfl)
        try simp only [Act.put, List.setIfInBounds_toArray, List.set_cons_zero, List.set_cons_succ]
        refine wpHT_takeD (i := 12) (d := 38) (v := ?_) (by kernel_rfl) rfl rfl (by decide) (by kernel_rfl) (by kernel_rfl) (fun _ _ _ h => h) (Or.inl ⟨by kernel_rfl, ?_⟩) (by assumption) ?_
        rotate_left
        · intro w hSw; (try dsimp only at hSw); go_simp; (try with_reducible rfl)
        try simp only [Act.put, List.setIfInBounds_toArray, List.set_cons_zero, List.set_cons_succ]
        refine wpHT_takeD (i := 14) (d := 40) (v := ?_) (by kernel_rfl) rfl rfl (by decide) (by kernel_rfl) (by kernel_rfl) (fun _ _ _ h => h) (Or.inl ⟨by kernel_rfl, ?_⟩) (by assumption) ?_
        rotate_left
        · intro w hSw; (try dsimp only at hSw); go_simp; (try with_reducible rfl)
        try simp only [Act.put, List.setIfInBounds_toArray, List.set_cons_zero, List.set_cons_succ]
        refine wpHT_one (i := 13) (by kernel_rfl) rfl (by decide) (fun K hK => ?_)
        go_simp
        go_at_call 29
        refine (copyBytes_any _ _ _ f.dt _ (H8.out.below ((Below.refl _ w).drew)) (by omega)).mono ?_
        rintro e W1 ⟨v39, rfl, ho, hb⟩
        have hb1 : Below w.heap.size w W1 := ((Below.refl _ w).drew).trans hb
        have ho1 : Own8 W1 w.heap.size 5 v39 f.dt := ho
        have HO1 := Lib.hid ho1
        have HB1 := Lib.hid hb1
        have k0 := cell_below c0 hb1
        have k1 := cell_below v1 hb1
        clear ho hb ho1 hb1
        refine hK.out _ _ ?_ (fun hHeld => ?_)
        · exact ⟨k0, k1⟩
        clear hK K
        try simp only [Act.put, List.setIfInBounds_toArray, List.set_cons_zero, List.set_cons_succ]
        refine wpHT_one (i := 15) (by kernel_rfl) rfl (by decide) (fun K hK => ?_)
        refine step_app2 S5 rfl _ _ rfl w.heap.size rfl HO1.out rfl (HRB.out.below HB1.out).2 (B8_one _) (by omega) (by unfold maxLen; omega) HB1.out.size ?_
        intro v2 w2 ho2 hg2 hl2
        have ho2 : Own8 w2 w.heap.size 5 v2 D := Own8.mk ho2 HDL.out (by rw [← HDD.out, B8_append])
        have hb2 : Below w.heap.size w w2 := HB1.out.grown hg2 HB1.out.size (fun q hq => (World.ownsRow.lt HO1.out q hq).1)
        have hfz : w2.frozen? ⟨b, k * 3 + 1, none⟩ = false := ((Fr.of_new (S := fun _ => False) hb2).frozen (p := ⟨b, k * 3 + 1, none⟩) HBW.out (fun h => h)).trans HV3.out
        have HC2 := Lib.hid (cell_below c0 hb2)
        have k0 := cell_below c0 hb2
        have k1 := cell_below v1 hb2
        have HO2 := Lib.hid ho2
        have HB2 := Lib.hid hb2
        obtain ⟨a2, cap2, rfl, hr2⟩ := ho2.rd
        have HR2 := Lib.hid hr2
        clear ho2 hg2 hl2 hb2 hr2
        refine hK.out _ _ ?_ (fun hHeld => ?_)
        · exact ⟨k0, k1⟩
        clear hK K
        try simp only [Act.put, List.setIfInBounds_toArray]
        refine wpHT_takeD (i := 16) (d := 42) (v := ?_) (by kernel_rfl) rfl rfl (by decide) (by kernel_rfl) (by kernel_rfl) (fun _ _ _ h => h) (Or.inl ⟨by kernel_rfl, ?_⟩) (by assumption) ?_
        rotate_left
        · intro w hSw; (try dsimp only at hSw); go_simp; (try with_reducible rfl)
        try simp only [Act.put]
        refine wpHT_takeD (i := 17) (d := 43) (v := ?_) (by kernel_rfl) rfl rfl (by decide) (by kernel_rfl) (by kernel_rfl) (fun _ _ _ h => h) (Or.inl ⟨by kernel_rfl, ?_⟩) (by assumption) ?_
        rotate_left
        · intro w hSw; (try dsimp only at hSw); go_simp; (try with_reducible rfl)
        try simp only [Act.put]
        refine wpHT_done (by kernel_rfl) ?_
        simp only [List.drop_succ_cons, List.drop_zero]
        go_wp2_with fail
        have hG : Rf w2 c (Sx S w w2) s := (HRF.out.below HB2.out).grow (fun q hq => .inl hq) (fun q hq => hq.elim (fun h => Nat.lt_of_lt_of_le (HS.out q h) HB2.out.size) (fun h => h.2))
        have hset := hG.setD HFK.out HC2.out HR2.out (fun _ q hq => by
          have h1 := World.ownsRow.lt HO2.out q (by rw [ownBlock_sl]; exact hq)
          have h2 := HS.out c HIN.out
          have h3 := HBW.out
          exact ⟨.inr h1, by omega, by omega⟩)
        go_at_call 66
        refine (HFA.out _ _ hset).mono ?_
        rintro e w4 ⟨rfl, hr4, hf4⟩
        have hfr : Fr S w w4 := ((Fr.of_new (S := S) HB2.out).setCell (fun _ => HSB.out) _).trans (hf4.one HIN.out)
        have hsz := hf4.size
        have HR4 := Lib.hid hr4
        have HFR := Lib.hid hfr
        have HZ : Hid (w2.heap.size ≤ w4.heap.size) := by show w2.heap.size ≤ w4.heap.size; simpa [World.setCell] using hsz
        clear hG hset hr4 hf4 hfr hsz
        cases fb with
        | true =>
          go_wp2
          go_ret
          exact RTold.at (by rw [hres.out]; rfl) HR4.out (by rw [hres.out]) (fun q hq => hq.elim .inl fun h => .inr ⟨h.1, Nat.lt_of_lt_of_le h.2 HZ.out⟩) HFR.out HS.out
        | false =>
          go_wp2
          go_ret
          exact RTold.at (by rw [hres.out]; rfl) HR4.out (by rw [hres.out]) (fun q hq => hq.elim .inl fun h => .inr ⟨h.1, Nat.lt_of_lt_of_le h.2 HZ.out⟩) HFR.out HS.out
    · rw [hat] at HAT
      have hres : Hid (appendS s n bb = (s, 8)) := rapp_err (by unfold appE; rw [hdn, hg]; rfl) (by decide)
      clear hr hdn h hg hat
      go_enter Try.func46, Try.ntmps46
      go_wp2_with (go_at_call 56; ((with_reducible refine (HAT.out).mono ?_); rintro e w1 ⟨rfl, rfl⟩))
      go_ret
      exact RTold.same (by rw [hres.out]; rfl) HRF.out (by rw [hres.out]) (Fr.refl _ _) HS.out
end Go.Proofs.Ytdbfkneklkdnaaa
