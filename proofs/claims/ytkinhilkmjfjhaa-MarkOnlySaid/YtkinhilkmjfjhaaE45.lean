/-
  The reference's Load.
-/
import Derived.Test.YtkinhilkmjfjhaaE44
namespace Go.Proofs.Ytkinhilkmjfjhaa
open Go.RowKit Go.Maps Go.Sort
set_option maxRecDepth 100000
attribute [local go_sem] bs_size bs_toList

set_option maxHeartbeats 1000000 in
/-- The place of a name, in a longer list. -/
theorem at_many (c : Nat) (S : Nat → Prop) (s : DS) (n : List UInt8) (hl : s.fs.length ≤ 100000) (w : World) (h : Rf w c S s) :
    Calls Try.prog 45 #[.pointer (some ⟨c, 0, none⟩), .string (bs n)] w fun e w' => e = .returned (.int .i64 (atI n s.fs)) ∧ w = w' := by
  obtain ⟨a, cap, c0, _, _, _, hr⟩ := h.row
  clear h
  obtain ⟨m, hm⟩ : ∃ m, s.fs.length = m := ⟨_, rfl⟩
  rw [hm] at c0 hr hl
  have HR := Lib.hid hr
  have HM := Lib.hid hm
  clear hr hm
  go_enter Try.func45, Try.ntmps45
  go_wp2
  go_loopw [5] (fun i wr => ∃ k : Nat, k ≤ m ∧ i = .int .i64 k ∧ w = wr ∧ Hid (∀ g ∈ s.fs.take k, g.nm ≠ n)) (fun i _ => m - (intOf i).toNat)
  case atStart => exact ⟨0, Nat.zero_le _, rfl, rfl, fun g hg => by simp at hg⟩
  case round =>
    obtain ⟨k, hk, rfl, rfl, HT⟩ := hrel
    by_cases hlt : k < m
    · obtain ⟨f, hf⟩ : ∃ f, s.fs[k]? = some f := ⟨_, List.getElem?_eq_getElem (by have := HM.out; omega)⟩
      obtain ⟨b, off, ai, ci, rfl, q1, _, _, _, _⟩ := HR.out.at hf
      have HF := Lib.hid hf
      clear hf
      by_cases hn : f.nm = n
      · have e1 : (f.nm == n) = true := by simpa using hn
        have hres := Lib.hid (atI_hit HT.out HF.out hn)
        clear hn
        go_wp2
        go_ret
        exact ⟨by rw [hres.out]; rfl, rfl⟩
      · have e1 : (f.nm == n) = false := by simpa using hn
        have HT2 : Hid (∀ g ∈ s.fs.take (k + 1), g.nm ≠ n) := fun g hg => by
          rw [List.take_add_one, HF.out] at hg
          rcases List.mem_append.1 hg with h1 | h1
          · exact HT.out g h1
          · simp at h1; subst h1; exact hn
        clear hn
        go_wp2
        go_roundw
        case rel => exact ⟨k + 1, by omega, by go_num, trivial, HT2.out⟩
        case measure => simp [intOf]; omega
    · obtain rfl : k = m := by omega
      have hres : Hid (atI n s.fs = -1) := atI_miss fun g hg => HT.out g (by rw [List.take_of_length_le (by rw [HM.out]; omega)]; exact hg)
      go_wp2
      go_ret
      exact ⟨by rw [hres.out]; rfl, rfl⟩
theorem seen_iff (l : List FlI) (n : List UInt8) : (∃ g ∈ loadL l, g.nm = n) ↔ n ∈ l.map FlI.nm := by
  constructor
  · rintro ⟨g, hg, rfl⟩
    obtain ⟨f, hf, rfl⟩ := mem_loadL.1 hg
    exact List.mem_map_of_mem hf
  · intro h
    obtain ⟨f, hf, rfl⟩ := List.mem_map.1 h
    exact ⟨f.fl, mem_loadL.2 ⟨f, hf, rfl⟩, rfl⟩
def RLoadPost (w : World) (l : List FlI) (e : Ending) (w' : World) : Prop := Below w.heap.size w w' ∧
  ((loadE l ≠ 0 ∧ e = .returned (.tuple #[.pointer none, .int .i64 (loadE l)])) ∨ (loadE l = 0 ∧ ∃ c, e = .returned (.tuple #[.pointer (some ⟨c, 0, none⟩), .int .i64 0]) ∧ Rf w' c (fun k => w.heap.size ≤ k ∧ k < w'.heap.size) (loadS l)))
theorem RLoadPost.err {w w' : World} {l : List FlI} {x : Int} (hb : Below w.heap.size w w') (he : loadE l = x) (h0 : x ≠ 0) : RLoadPost w l (.returned (.tuple #[.pointer none, .int .i64 x])) w' := ⟨hb, .inl ⟨by rw [he]; exact h0, by rw [he]⟩⟩
set_option maxHeartbeats 8000000 in
theorem rload_any (a : Option Addr) (n cap : Nat) (l : List FlI) (T : Nat → Prop) (w : World) (h : RdFi w T a n cap l) (ht : totI l ≤ 4194304) (hn : n ≤ 100000) :
    Calls Try.prog 23 #[.slice a n cap] w (RLoadPost w l) := by
  have HR := Lib.hid h
  have HN := Lib.hid h.1
  have HTT := Lib.hid ht
  clear h ht
  go_enter Try.func23, Try.ntmps23
  go_wp2_with fail
  have hst := Rf.start w
  have hbw : Below w.heap.size w (w.alloc (.cells #[.slice none 0 0, .bool false, .int .i64 0, .int .i64 0] 98)) := (Below.refl _ _).alloc (Nat.le_refl _) _
  obtain ⟨w1, hw1⟩ : ∃ w1, w.alloc (.cells #[.slice none 0 0, .bool false, .int .i64 0, .int .i64 0] 98) = w1 := ⟨_, rfl⟩
  rw [hw1] at hst hbw ⊢
  obtain ⟨c, hc⟩ : ∃ c, w.heap.size = c := ⟨_, rfl⟩
  have HST : Hid (Rf w1 c (fun q => q = c) ⟨loadL (l.take 0), 0, 0, false⟩) := by rw [hc] at hst; exact hst
  have HCW : Hid (w.heap.size ≤ c) := Nat.le_of_eq hc
  have HBW := Lib.hid hbw
  rw [hc]
  clear hst hbw hw1 hc
  go_loopw [5, 6] (fun i _ wx => ∃ (k : Nat) (S : Nat → Prop), k ≤ n ∧ i = .int .i64 (k : Nat) ∧ Hid (ChkAt l k) ∧ Hid (Rf wx c S ⟨loadL (l.take k), 0, 0, false⟩) ∧ Hid (∀ q, S q → w.heap.size ≤ q) ∧ Hid (Below w.heap.size w wx)) (fun i _ _ => n - (intOf i).toNat)
  case atStart => exact ⟨0, _, Nat.zero_le _, rfl, ChkAt.start l, HST.out, fun q e => by rw [e]; exact HCW.out, HBW.out⟩
  case round =>
    clear HST HBW
    obtain ⟨k, S, hk, rfl, HC, HS, HSG, HB⟩ := hrel
    by_cases hlt : k < n
    · obtain ⟨f, hf⟩ : ∃ f, l[k]? = some f := ⟨_, List.getElem?_eq_getElem (by have := HN.out; omega)⟩
      obtain ⟨b, off, ai, ci, rfl, hrd, q0, q1, q2⟩ := (HR.out.below HB.out).at hf
      obtain ⟨hwf, h8, hbl⟩ := hrd
      obtain ⟨W, hW, hbw, hsz, g0, g1, g2⟩ := fiAt wr f ai ci
      have hW' : wr.alloc (.cells #[.string (bs f.nm), .slice ai f.dt.length ci, .int .i64 f.sf] 57) = W := hW.symm
      have hlen : (loadL (l.take k)).length ≤ 100000 := by rw [len_loadL, List.length_take]; omega
      have HLEN := Lib.hid hlen
      have HF := Lib.hid hf
      have HSW := Lib.hid (HS.out.below hbw)
      have HBW := Lib.hid (HB.out.trans (hbw.mono HB.out.size))
      have HNM := Lib.hid (rname_any f.nm hwf.1 W)
      have HAT := Lib.hid (at_many c S ⟨loadL (l.take k), 0, 0, false⟩ f.nm hlen W HSW.out)
      have H8 := Lib.hid (h8.below hbw)
      have hwf2 := hwf.2
      have hdl : f.dt.length ≤ 4194304 := by
        have h1 := totI_next hf
        have h2 := totI_take_le l (k + 1)
        have h3 := HTT.out
        omega
      clear hf hW hbw hsz h8 hbl hwf HS HB hlen
      cases hnm : nameOk f.nm with
      | false =>
        have hres := Lib.hid (HC.out.stop HF.out (e := 10) (by unfold chkE; rw [if_pos hnm]) (by decide))
        rw [hnm] at HNM
        clear hnm
        go_wp2_with (go_at_call 44; ((with_reducible refine (HNM.out).mono ?_); rintro e w2 ⟨rfl, rfl⟩))
        go_ret2
        exact RLoadPost.err HBW.out hres.out (by decide)
      | true =>
        rw [hnm] at HNM
        have HOKN := Lib.hid hnm
        clear hnm
        rcases atI_get (n := f.nm) (l := loadL (l.take k)) with ⟨x, j, hg, hx, hj, hat⟩ | ⟨hg, hat⟩
        · have hat' : atI f.nm (⟨loadL (l.take k), 0, 0, false⟩ : DS).fs = (j : Nat) := hat
          rw [hat'] at HAT
          have hres := Lib.hid (HC.out.stop HF.out (e := 9) (by unfold chkE; rw [if_neg (by rw [HOKN.out]; decide), if_pos ((seen_iff _ _).1 ⟨x, (getF_some hg).1, (getF_some hg).2⟩)]) (by decide))
          clear hg hx hj hat hat'
          go_wp2_with (first | (go_at_call 44; ((with_reducible refine (HNM.out).mono ?_); rintro e w2 ⟨rfl, rfl⟩)) | (go_at_call 45; ((with_reducible refine (HAT.out).mono ?_); rintro e w2 ⟨rfl, rfl⟩)))
          go_ret2
          exact RLoadPost.err HBW.out hres.out (by decide)
        · have hat' : atI f.nm (⟨loadL (l.take k), 0, 0, false⟩ : DS).fs = -1 := hat
          rw [hat'] at HAT
          have HNF : Hid (∀ g ∈ loadL (l.take k), g.nm ≠ f.nm) := getF_none hg
          have HNS : Hid (f.nm ∉ (l.take k).map FlI.nm) := fun hm => by
            obtain ⟨g, hg1, hg2⟩ := (seen_iff _ _).2 hm
            exact HNF.out g hg1 hg2
          clear hg hat hat'
          by_cases hbad : f.sf < 0 ∨ (f.dt.length : Int) < f.sf
          · have hres := Lib.hid (HC.out.stop HF.out (e := 1) (by unfold chkE; rw [if_neg (by rw [HOKN.out]; decide), if_neg HNS.out, if_pos hbad]) (by decide))
            by_cases hneg : f.sf < 0
            case' pos => have d1 : decide (f.sf < 0) = true := by simpa using hneg
            case' neg =>
              have d1 : decide (f.sf < 0) = false := by simpa using hneg
              have hgt : (f.dt.length : Int) < f.sf := hbad.resolve_left hneg
              have d2 : decide ((f.dt.length : Int) < f.sf) = true := by simpa using hgt
            all_goals
              clear hbad
              go_wp2_with (first | (go_at_call 44; ((with_reducible refine (HNM.out).mono ?_); rintro e w2 ⟨rfl, rfl⟩)) | (go_at_call 45; ((with_reducible refine (HAT.out).mono ?_); rintro e w2 ⟨rfl, rfl⟩)))
              go_ret2
              exact RLoadPost.err HBW.out hres.out (by decide)
          · obtain ⟨sf, hsf⟩ : ∃ sf : Nat, f.sf = (sf : Int) := ⟨f.sf.toNat, by omega⟩
            have hs1 : sf ≤ f.dt.length := by omega
            have hfl : f.fl = ⟨f.nm, f.dt, sf⟩ := by unfold FlI.fl; rw [hsf]; rfl
            have HC2 := Lib.hid (HC.out.next HF.out HOKN.out HNS.out (by omega) (by omega))
            have HNX := Lib.hid (loadL_next HF.out)
            rw [hfl] at HNX
            rw [hsf] at g2
            have d1 : decide ((sf : Int) < 0) = false := by simp
            have d2 : decide (f.dt.length < sf) = false := by simp; omega
            clear hbad hfl hsf hwf2
            go_wp2_with (first | (go_at_call 44; ((with_reducible refine (HNM.out).mono ?_); rintro e w2 ⟨rfl, rfl⟩)) | (go_at_call 45; ((with_reducible refine (HAT.out).mono ?_); rintro e w2 ⟨rfl, rfl⟩)))
            clear q0 q1 q2 d1 d2 HAT HNM
            refine wp_region_ht 9 (fun W => W.cell? ⟨wr.heap.size, 0, none⟩ = some (.string (bs f.nm)) ∧ W.cell? ⟨wr.heap.size, 1, none⟩ = some (.slice ai f.dt.length ci) ∧ W.cell? ⟨wr.heap.size, 2, none⟩ = some (.int .i64 (sf : Nat))) (by kernel_rfl) (by kernel_rfl) ?_ (fun hHeld => ?_)
            · exact ⟨g0, g1, g2⟩
            try simp only [Act.put, List.setIfInBounds_toArray, List.set_cons_zero, List.set_cons_succ]
            refine wpHT_takeD (i := 0) (d := 39) (v := ?_) (by kernel_rfl) rfl rfl (by decide) (by kernel_rfl) (by kernel_rfl) (fun _ _ _ h => h) (Or.inl ⟨by kernel_rfl, ?_⟩) (by assumption) ?_
            rotate_left
            · intro w hSw; (try dsimp only at hSw); go_simp; (try with_reducible rfl)
            try simp only [Act.put, List.setIfInBounds_toArray, List.set_cons_zero, List.set_cons_succ]
            refine wpHT_takeD (i := 1) (d := 40) (v := ?_) (by kernel_rfl) rfl rfl (by decide) (by kernel_rfl) (by kernel_rfl) (fun _ _ _ h => h) (Or.inl ⟨by kernel_rfl, ?_⟩) (by assumption) ?_
            rotate_left
            · intro w hSw; (try dsimp only at hSw); go_simp; (try with_reducible rfl)
            try simp only [Act.put, List.setIfInBounds_toArray, List.set_cons_zero, List.set_cons_succ]
            refine wpHT_takeD (i := 2) (d := 41) (v := ?_) (by kernel_rfl) rfl rfl (by decide) (by kernel_rfl) (by kernel_rfl) (fun _ _ _ h => h) (Or.inl ⟨by kernel_rfl, ?_⟩) (by assumption) ?_
            rotate_left
            · intro w hSw; (try dsimp only at hSw); go_simp; (try with_reducible rfl)
            try simp only [Act.put, List.setIfInBounds_toArray, List.set_cons_zero, List.set_cons_succ]
            refine wpHT_takeD (i := 3) (d := 42) (v := ?_) (by kernel_rfl) rfl rfl (by decide) (by kernel_rfl) (by kernel_rfl) (fun _ _ _ h => h) (Or.inl ⟨by kernel_rfl, ?_⟩) (by assumption) ?_
            rotate_left
            · intro w hSw; (try dsimp only at hSw); go_simp; (try with_reducible rfl)
            try simp only [Act.put, List.setIfInBounds_toArray, List.set_cons_zero, List.set_cons_succ]
            refine wpHT_takeD (i := 4) (d := 43) (v := ?_) (by kernel_rfl) rfl rfl (by decide) (by kernel_rfl) (by kernel_rfl) (fun _ _ _ h => h) (Or.inl ⟨by kernel_rfl, ?_⟩) (by assumption) ?_
            rotate_left
            · intro w hSw; (try dsimp only at hSw); go_simp; (try with_reducible rfl)
            try simp only [Act.put, List.setIfInBounds_toArray, List.set_cons_zero, List.set_cons_succ]
            refine wpHT_takeD (i := 6) (d := 45) (v := ?_) (by kernel_rfl) rfl rfl (by decide) (by kernel_rfl) (by kernel_rfl) (fun _ _ _ h => h) (Or.inl ⟨by kernel_rfl, ?_⟩) (by assumption) ?_
            rotate_left
            · intro w hSw; (try dsimp only at hSw); go_simp; (try with_reducible rfl)
            try simp only [Act.put, List.setIfInBounds_toArray, List.set_cons_zero, List.set_cons_succ]
            refine wpHT_takeD (i := 7) (d := 46) (v := ?_) (by kernel_rfl) rfl rfl (by decide) (by kernel_rfl) (by kernel_rfl) (fun _ _ _ h => h) (Or.inl ⟨by kernel_rfl, ?_⟩) (by assumption) ?_
            rotate_left
            · intro w hSw; (try dsimp only at hSw); go_simp; (try with_reducible rfl)
            try simp only [Act.put, List.setIfInBounds_toArray, List.set_cons_zero, List.set_cons_succ]
            refine wpHT_one (i := 5) (by kernel_rfl) rfl (by decide) (fun K hK => ?_)
            go_simp
            go_at_call 47
            refine (copyBytes_any _ _ _ f.dt _ (H8.out.below ((Below.refl _ W).drew)) (by omega)).mono ?_
            rintro e w2 ⟨v2, rfl, ho, hb⟩
            have hb2 : Below W.heap.size W w2 := ((Below.refl _ W).drew).trans hb
            have ho2 : Own8 w2 W.heap.size 5 v2 f.dt := ho
            obtain ⟨a2, cap2, rfl, hr2⟩ := ho2.rd
            have g0 := cell_below g0 hb2
            have g1 := cell_below g1 hb2
            have g2 := cell_below g2 hb2
            have HO2 := Lib.hid ho2
            have HB2 := Lib.hid hb2
            have HR2 := Lib.hid hr2
            clear ho hb ho2 hb2 hr2
            refine hK.out _ _ ?_ (fun hHeld => ?_)
            · exact ⟨g0, g1, g2⟩
            clear hK K
            try simp only [Act.put, List.setIfInBounds_toArray, List.set_cons_zero, List.set_cons_succ]
            refine wpHT_takeD (i := 8) (d := 47) (v := ?_) (by kernel_rfl) rfl rfl (by decide) (by kernel_rfl) (by kernel_rfl) (fun _ _ _ h => h) (Or.inl ⟨by kernel_rfl, ?_⟩) (by assumption) ?_
            rotate_left
            · intro w hSw; (try dsimp only at hSw); go_simp; (try with_reducible rfl)
            try simp only [Act.put, List.setIfInBounds_toArray, List.set_cons_zero, List.set_cons_succ]
            refine wpHT_done (by kernel_rfl) ?_
            simp only [List.drop_succ_cons, List.drop_zero]
            clear hHeld
            have hG : Rf w2 c (Sx S W w2) ⟨loadL (l.take k), 0, 0, false⟩ := (HSW.out.below HB2.out).grow (fun q hq => .inl hq) (fun q hq => hq.elim (fun h => Nat.lt_of_lt_of_le (HSW.out.lt q h) HB2.out.size) (fun h => h.2))
            have HP := Lib.hid (put_any c (Sx S W w2) ⟨loadL (l.take k), 0, 0, false⟩ ⟨f.nm, f.dt, sf⟩ a2 cap2 HLEN.out HNF.out w2 hG HR2.out (fun _ q hq => by
              have h1 := World.ownsRow.lt HO2.out q (by rw [ownBlock_sl]; exact hq)
              have h2 := HSW.out.lt c HSW.out.in
              exact ⟨.inr h1, by omega⟩))
            clear hG g0 g1 g2
            go_wp2_with fail
            go_at_call 46
            refine (HP.out).mono ?_
            rintro e w3 ⟨rfl, hr3, hf3⟩
            have HR3 : Hid (Rf w3 c (Sx (Sx S W w2) w2 w3) ⟨loadL (l.take (k + 1)), 0, 0, false⟩) := by show Rf _ _ _ _; rw [HNX.out]; exact hr3
            have hbw2 : Below w.heap.size w w2 := HBW.out.trans (HB2.out.mono HBW.out.size)
            have HB3 : Hid (Below w.heap.size w w3) := hbw2.trans (hf3.below hbw2.size (fun q hq e => by have := HSG.out c HSW.out.in; omega))
            have HSG3 : Hid (∀ q, Sx (Sx S W w2) w2 w3 q → w.heap.size ≤ q) := fun q hq => by
              have h1 := HBW.out.size
              have h2 := hbw2.size
              rcases hq with (hq | hq) | hq
              · exact HSG.out q hq
              · omega
              · omega
            clear hr3 hf3 hbw2 HP
            go_wp2_with fail
            go_roundw
            case rel => exact ⟨k + 1, _, by omega, by go_num, HC2.out, HR3.out, HSG3.out, HB3.out⟩
            case measure => simp [intOf]; omega
    · obtain rfl : k = n := by omega
      have hCk : ChkAt l l.length := by have := HC.out; rw [HN.out] at this; exact this
      by_cases h64 : 64 < k
      · have hres := Lib.hid (hCk.many (by rw [← HN.out]; exact h64))
        clear hCk
        go_wp2_with fail
        go_ret2
        exact RLoadPost.err HB.out hres.out (by decide)
      · have hres := Lib.hid (hCk.fine (by rw [← HN.out]; omega))
        have hRS : Rf wr c S (loadS l) := by have := HS.out; rw [List.take_of_length_le (by rw [HN.out]; exact Nat.le_refl _)] at this; exact this
        have htl : tot (loadS l).fs = totI l := tot_loadL l
        have hsz := rsize_any c S (loadS l) (by show (loadL l).length ≤ 64; rw [len_loadL, ← HN.out]; omega) (by rw [htl]; exact HTT.out) wr hRS
        rw [htl] at hsz
        have HSZ := Lib.hid hsz
        have HRS := Lib.hid hRS
        obtain ⟨U, hU⟩ : ∃ U, totI l = U := ⟨_, rfl⟩
        rw [hU] at HSZ HTT
        have hUb := HTT.out
        have dU : decide (4194304 < U) = false := by simp; omega
        clear hCk hRS htl hsz hU
        go_wp2_with (go_at_call 48; ((with_reducible refine (HSZ.out).mono ?_); rintro e w2 ⟨rfl, rfl⟩))
        go_ret2
        exact ⟨HB.out, .inr ⟨hres.out, c, rfl, HRS.out.grow (fun q hq => ⟨HSG.out q hq, HRS.out.lt q hq⟩) (fun q hq => hq.2)⟩⟩
end Go.Proofs.Ytkinhilkmjfjhaa
