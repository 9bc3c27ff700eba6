/-
  Plain law of MarkOnly: a file beside the marks stays; two equal lists of texts.
  The walk of MarkOnly.
-/
import Derived.Test.YtkinhilkmjfjhaaQ14
/-! ### Plain law of MarkOnly: a file beside the marks stays; two equal lists of texts. -/
namespace Go.Proofs.Ytkinhilkmjfjhaa
open Go.RowKit Go.Maps Go.Sort
set_option maxRecDepth 100000
attribute [local go_sem] bs_size bs_toList

def besideB : List UInt8 := [98, 101, 115, 105, 100, 101]
structure OnI (s : DS) (nm : List UInt8) : Prop where
  dn : s.dn = false
  ar : s.ar = 0
  oth : delF nmM s.fs = [⟨nm, besideB, 0⟩]
  sm : ∀ f, getF nmM s.fs = some f → f.dt.length ≤ 292
theorem OnI.get {s : DS} {nm : List UInt8} (h : OnI s nm) (h1 : nm ≠ nmM) : getF nm s.fs = some ⟨nm, besideB, 0⟩ := by
  rw [← get_del_other h1, h.oth]; unfold getF; simp
theorem OnI.noF {s : DS} {nm : List UInt8} (h : OnI s nm) (h2 : nm ≠ nmF) : delF nmF s.fs = s.fs := by
  apply del_none
  rw [← get_del_other (n := nmM) (fun e => nm_ne e.symm), h.oth]
  unfold getF
  simp [h2]
theorem OnI.len {B : Int} {s : DS} {nm : List UInt8} (hok : DOk B s) (h : OnI s nm) : s.fs.length ≤ 2 ∧ tot s.fs ≤ 298 := by
  cases hg : getF nmM s.fs with
  | none =>
    have := del_none hg
    rw [h.oth] at this
    rw [← this]; exact ⟨by simp, by simp [tot, besideB]⟩
  | some f =>
    have h1 := len_del hok.srt hg
    have h2 := tot_del hok.srt hg
    have h3 := h.sm f hg
    rw [h.oth] at h1 h2
    refine ⟨by rw [h1]; simp, ?_⟩
    rw [h2]; simp [tot, besideB]; omega
theorem on_step {B : Int} {s : DS} {nm : List UInt8} (hok : DOk B s) (h : OnI s nm) (h2 : nm ≠ nmF) (m : Mk) :
    OnI (saveS s m).1 nm ∧ ((mayM m = false ∧ (saveS s m).2 = 4) ∨ (mayM m = true ∧ (saveS s m).2 = 0 ∧ loadM (saveS s m).1 = (m, 0))) := by
  cases hm : mayM m with
  | false =>
    have hs : saveS s m = (s, 4) := by unfold saveS; rw [h.dn, hm]; rfl
    rw [hs]; exact ⟨h, .inl ⟨rfl, rfl⟩⟩
  | true =>
    obtain ⟨r1, r2⟩ := h.len hok
    have hF := h.noF h2
    rcases save_end (s := s) h.dn hm (by rw [hF]; omega) (by rw [hF]; omega) with ⟨_, _, h3, _⟩ | ⟨h3, h4, h5, h6⟩
    · exact absurd h.ar h3
    · have hl := loadM_of (s := (saveS s m).1) hm (by rw [h6]; exact get_saved)
      refine ⟨⟨h4, h5 h.ar, ?_, fun f hf => ?_⟩, .inr ⟨rfl, h3, hl⟩⟩
      · rw [h6, del_ins_same (n := nmM) (f := ⟨nmM, _, _⟩) rfl del_ne, hF]; exact h.oth
      · rw [h6, get_saved] at hf
        rw [← Option.some.inj hf]
        show (frameOf (encM m)).length ≤ 292
        rw [frameOf_length]; have := encM_len hm; omega
theorem on_start {nm : List UInt8} (hn : nameOk nm = true) (h1 : nm ≠ nmM) : (createS newS nm).2 = 0 ∧ (appendS (createS newS nm).1 nm besideB).2 = 0 ∧ OnI (appendS (createS newS nm).1 nm besideB).1 nm := by
  have hc : createS newS nm = (⟨[⟨nm, [], 0⟩], 1, 0, false⟩, 0) := by
    unfold createS creE errW fallS newS
    simp [hn, getF, insF]
  rw [hc]
  have hg : getF nm [⟨nm, [], 0⟩] = some ⟨nm, [], 0⟩ := by unfold getF; simp
  have hE : appE (⟨[⟨nm, [], 0⟩], 1, 0, false⟩ : DS) nm besideB = 0 := by
    unfold appE; simp [hg, tot, besideB]
  rcases append_cases (s := ⟨[⟨nm, [], 0⟩], 1, 0, false⟩) rfl hE with ⟨wr, _, h2⟩ | ⟨wr, ar, he, h2⟩
  · exact absurd h2 (show ¬ ((0 : Int) = 1) by decide)
  · rw [he]
    refine ⟨rfl, rfl, rfl, h2 rfl, ?_, fun f hf => ?_⟩
    · simp [updF, delF, h1, besideB]
    · simp [updF, getF, h1] at hf
def RdS (w : World) (a : Option Addr) (n cap : Nat) (l : List (List UInt8)) : Prop := n = l.length ∧ Rd w a n cap 1 (l.map fun x => Value.string (bs x))
theorem RdS.at {w : World} {a : Option Addr} {n cap : Nat} {l : List (List UInt8)} (h : RdS w a n cap l) {k : Nat} {x : List UInt8} (hx : l[k]? = some x) : ∃ b off, a = some ⟨b, off, none⟩ ∧ w.cell? ⟨b, off + k, none⟩ = some (.string (bs x)) := by
  obtain ⟨rfl, hr⟩ := h
  have hk := (List.getElem?_eq_some_iff.1 hx).1
  obtain ⟨b, off, rfl, _, hc⟩ := hr.at (by omega)
  exact ⟨b, off, rfl, hc k _ (by rw [List.getElem?_map, hx]; rfl)⟩
theorem RdS.below {w w' : World} {a : Option Addr} {n cap : Nat} {l : List (List UInt8)} (h : RdS w a n cap l) (hb : Below w.heap.size w w') : RdS w' a n cap l := ⟨h.1, h.2.below hb⟩
set_option maxHeartbeats 1000000 in
theorem texts_same (a a' : Option Addr) (n cap cap' : Nat) (l : List (List UInt8)) (w : World) (h : RdS w a n cap l) (h' : RdS w a' n cap' l) :
    Calls Try.prog 18 #[.slice a n cap, .slice a' n cap'] w fun e w' => e = .returned (.bool true) ∧ Below w.heap.size w w' := by
  have H1 := Lib.hid h
  have H2 := Lib.hid h'
  have hm1 : n ≤ 9223372036854775807 := Nat.le_trans h.2.1 h.2.2.1
  have E1 := Lib.hid h.1
  clear h h'
  go_enter Try.func18, Try.ntmps18
  go_wp2_with fail
  go_loopw [5] (fun i wr => ∃ k : Nat, k ≤ n ∧ i = .int .i64 k ∧ Hid (Below w.heap.size w wr)) (fun i _ => n - (intOf i).toNat)
  case atStart => exact ⟨0, Nat.zero_le _, rfl, Below.refl _ _⟩
  case round =>
    obtain ⟨k, hk, rfl, HB⟩ := hrel
    by_cases hlt : k < n
    · obtain ⟨x, hx⟩ : ∃ x, l[k]? = some x := ⟨_, List.getElem?_eq_getElem (by have := E1.out; omega)⟩
      obtain ⟨b, off, rfl, c1⟩ := (H1.out.below HB.out).at hx
      obtain ⟨b', off', rfl, c1'⟩ := (H2.out.below HB.out).at hx
      clear hx
      go_wp2_with fail
      go_quiet (fail)
      go_wp2_with fail
      go_roundw
      case rel => exact ⟨k + 1, by omega, by go_num, HB.out.trans ⟨rfl, rfl, rfl, Nat.le_refl _, fun _ _ => rfl⟩⟩
      case measure => simp [intOf]; omega
    · obtain rfl : k = n := by omega
      go_wp2_with fail
      go_ret
      exact ⟨rfl, HB.out⟩
end Go.Proofs.Ytkinhilkmjfjhaa

/-! ### The walk of MarkOnly. -/
namespace Go.Proofs.Ytkinhilkmjfjhaa
open Go.RowKit Go.Maps Go.Sort
set_option maxRecDepth 100000
attribute [local go_sem] bs_size bs_toList

theorem rd8_beside (w : World) : Rd8 (w.alloc (.cells #[.int .u8 98, .int .u8 101, .int .u8 115, .int .u8 105, .int .u8 100, .int .u8 101] 5 (6, 7))) (some ⟨w.heap.size, 0, none⟩) 6 6 besideB :=
  Rd8.lit w besideB 6 rfl (by decide) 5 (6, 7)
set_option maxHeartbeats 16000000 in
theorem only_walk (a : Option Addr) (n cap : Nat) (l : List SvV) (nm : List UInt8) (w : World) (h : RdSv w a n cap l) (hnm : nm.length ≤ 9223372036854775807) : Calls Try.prog 3 #[.slice a n cap, .string (bs nm)] w (TrueEnd w) := by
  have H0 := Lib.hid h
  have HN := Lib.hid h.1
  have hn6 : n ≤ 9223372036854775807 := by obtain ⟨_, xs, hr, _⟩ := h; exact Nat.le_trans hr.1 hr.2.1
  clear h
  go_enter Try.func3, Try.ntmps3
  go_wp2_with fail
  go_at_call 6
  refine (mfirst_any w).mono ?_
  rintro e wa ⟨rfl, hb⟩
  have HBA := Lib.hid hb
  clear hb
  go_wp2_with fail
  go_at_call 7
  refine (new_any 0 (Int.le_refl _) wa).mono ?_
  rintro e w1 ⟨d, rfl, hb1, hd1⟩
  have HL := Lib.hid (LS.start hb1 hd1)
  clear hb1 hd1
  obtain ⟨S0, hS0⟩ : ∃ S0 : Nat → Prop, (fun k => wa.heap.size ≤ k ∧ k < w1.heap.size) = S0 := ⟨_, rfl⟩
  rw [hS0] at HL
  clear hS0
  have hb1 := next_below HBA.out HL.out.2.2
  have hor : (nm == [109, 97, 114, 107]) = true ∨ ((nm == [109, 97, 114, 107]) = false ∧ (nm == [109, 97, 114, 107, 46, 110, 101, 119]) = true) ∨ ((nm == [109, 97, 114, 107]) = false ∧ (nm == [109, 97, 114, 107, 46, 110, 101, 119]) = false ∧ decide ((nm.length : Int) < 1) = true) ∨ ((nm == [109, 97, 114, 107]) = false ∧ (nm == [109, 97, 114, 107, 46, 110, 101, 119]) = false ∧ decide ((nm.length : Int) < 1) = false ∧ decide ((20 : Int) < nm.length) = true) ∨
      ((nm == [109, 97, 114, 107]) = false ∧ (nm == [109, 97, 114, 107, 46, 110, 101, 119]) = false ∧ decide ((nm.length : Int) < 1) = false ∧ decide ((20 : Int) < nm.length) = false ∧ nameOk nm = true ∧ nm ≠ nmM ∧ nm ≠ nmF) := by
    by_cases h1 : nm = [109, 97, 114, 107]
    · exact .inl (by simpa using h1)
    by_cases h2 : nm = [109, 97, 114, 107, 46, 110, 101, 119]
    · exact .inr (.inl ⟨by simpa using h1, by simpa using h2⟩)
    by_cases h3 : (nm.length : Int) < 1
    · exact .inr (.inr (.inl ⟨by simpa using h1, by simpa using h2, by simpa using h3⟩))
    by_cases h4 : (20 : Int) < nm.length
    · exact .inr (.inr (.inr (.inl ⟨by simpa using h1, by simpa using h2, by simpa using h3, by simpa using h4⟩)))
    exact .inr (.inr (.inr (.inr ⟨by simpa using h1, by simpa using h2, decide_eq_false h3, decide_eq_false h4, (nameOk_iff nm).2 ⟨by omega, by omega⟩, h1, h2⟩)))
  have HB1 := Lib.hid hb1
  clear hb1
  rcases hor with b1 | ⟨b1, b2⟩ | ⟨b1, b2, b3⟩ | ⟨b1, b2, b3, b4⟩ | ⟨b1, b2, b3, b4, hok, hnM, hnF⟩
  iterate 4
    · go_wp2_with fail
      go_at_call 6
      refine (mfirst_any w1).mono ?_
      rintro e wc ⟨rfl, hb⟩
      have HBC := Lib.hid (next_below HB1.out hb)
      clear hb
      go_wp2_with fail
      go_ret
      exact TrueEnd.mk HBC.out
  obtain ⟨st1, st2, st3⟩ := on_start hok hnM
  have ST2 := Lib.hid st2
  have ST3 := Lib.hid st3
  have HNM := Lib.hid hnM
  have HNF := Lib.hid hnF
  clear st2 st3 hok hnM hnF
  go_wp2_with fail
  go_at_call 8
  refine (create_any d S0 0 (by decide) newS nm hnm w1 HL.out.1).mono ?_
  rintro e w2 ht
  obtain ⟨rfl, hls, _⟩ := HL.out.told ht
  rw [st1]
  obtain ⟨S1, hS1⟩ : ∃ S1, Sx S0 w1 w2 = S1 := ⟨_, rfl⟩
  obtain ⟨s1, hs1⟩ : ∃ s1, (createS newS nm).1 = s1 := ⟨_, rfl⟩
  rw [hS1, hs1] at hls
  rw [hs1] at ST2 ST3
  have HL2 := Lib.hid hls
  have kc := fun (C : Array Value) (n c : Nat) => Lib.run_convert_bytes_const (P := Try.prog) w2 29 5 C n c Try.underlying29 Try.underlying5
  clear ht hls hS1 hs1 st1 HL HB1 b1 b2 b3 b4
  go_wp2_with fail
  clear kc
  go_at_call 9
  have hba3 : Below w2.heap.size w2 (w2.alloc (.cells #[.int .u8 98, .int .u8 101, .int .u8 115, .int .u8 105, .int .u8 100, .int .u8 101] 5 (6, 7))) := (Below.refl _ _).alloc (Nat.le_refl _) _
  have hr3 := rd8_beside w2
  obtain ⟨w3, hw3⟩ : ∃ w3, w2.alloc (.cells #[.int .u8 98, .int .u8 101, .int .u8 115, .int .u8 105, .int .u8 100, .int .u8 101] 5 (6, 7)) = w3 := ⟨_, rfl⟩
  rw [hw3] at hba3 hr3 ⊢
  have HL3 := Lib.hid (HL2.out.new hba3)
  have hne : ∀ j, blk (some ⟨w2.heap.size, 0, none⟩) = some j → ¬ S1 j := fun j hj e => by
    have h1 : w2.heap.size = j := by simpa [blk] using hj
    have h2 := HL2.out.1.lt j e
    omega
  refine (append_any d S1 _ (by decide) s1 nm hnm (some ⟨w2.heap.size, 0, none⟩) 6 besideB (by decide) w3 HL3.out.1 hr3 (fun j hj e => hne j hj e)).mono ?_
  rintro e w4 ht
  obtain ⟨rfl, hls, _⟩ := HL3.out.told ht
  rw [ST2.out]
  obtain ⟨S2, hS2⟩ : ∃ S2, Sx S1 w3 w4 = S2 := ⟨_, rfl⟩
  obtain ⟨s2, hs2⟩ : ∃ s2, (appendS s1 nm besideB).1 = s2 := ⟨_, rfl⟩
  rw [hS2, hs2] at hls
  rw [hs2] at ST3
  have HL4 := Lib.hid (hls.mono (B' := ((5 * 0 + 2 : Nat) : Int)) (by decide))
  clear ht hls hS2 hs2 hba3 hr3 hw3 hne HL3 HL2 ST2
  go_wp2_with fail
  go_loopw [6, 7, 8, 9, 10, 11, 12, 13] (fun i _ _ _ _ _ _ _ wr => ∃ (k : Nat) (S : Nat → Prop) (s : DS), k ≤ n ∧ k ≤ 50 ∧ i = .int .i64 k ∧ Hid (LS ((5 * k + 2 : Nat) : Int) wa wr d S s) ∧ Hid (OnI s nm)) (fun i _ _ _ _ _ _ _ _ => n - (intOf i).toNat)
  case atStart => exact ⟨0, S2, s2, Nat.zero_le _, Nat.zero_le _, rfl, HL4.out, ST3.out⟩
  case round =>
    clear HL4 ST3
    obtain ⟨k, S, s, hk, hk50, rfl, HL, HI⟩ := hrel
    have hbr := next_below HBA.out HL.out.2.2
    by_cases hgo : k < n ∧ k < 50
    case neg =>
      have hor : (decide (k < n) = true ∧ decide ((k : Int) < 50) = false) ∨ decide (k < n) = false := by
        by_cases h : k < n
        · exact .inl ⟨by simpa using h, by simp; omega⟩
        · exact .inr (by simpa using h)
      clear hgo
      rcases hor with ⟨d1, d2⟩ | d1
      all_goals
        go_wp2_with fail
        go_at_call 6
        refine (mfirst_any wr).mono ?_
        rintro e wc ⟨rfl, hb⟩
        have HBC := Lib.hid (next_below hbr hb)
        clear hb
        go_wp2_with fail
        go_ret
        exact TrueEnd.mk HBC.out
    case pos =>
    obtain ⟨hlt, h50⟩ := hgo
    obtain ⟨sv, hsv⟩ : ∃ sv, l[k]? = some sv := ⟨_, List.getElem?_eq_getElem (by have := HN.out; omega)⟩
    obtain ⟨b, off, at_, ct, ap, cp, rfl, hbl, hts, _, ht1, _, _, g0, g1, g2, g3, _, _⟩ := H0.out.at (Below.refl _ w) hsv
    have G0 := Lib.hid g0
    have G1 := Lib.hid g1
    have G2 := Lib.hid g2
    have G3 := Lib.hid g3
    have HTS := Lib.hid hts
    have HT1 : Hid (∀ S : Nat → Prop, (∀ j, j < wa.heap.size → ¬ S j) → BlkIn at_ sv.m.ts.length fun b => ¬ S b) := fun S hS h0 b hb => hS b (Nat.lt_of_lt_of_le (ht1 h0 b hb) HBA.out.size)
    have HBR := Lib.hid hbr
    clear hsv g0 g1 g2 g3 hts ht1 hbr
    have d0 : decide ((k : Int) < 50) = true := by simp; omega
    have g0 := (HBR.out.cell (p := ⟨b, off + k * 6, none⟩) hbl).trans G0.out
    have g1 := (HBR.out.cell (p := ⟨b, off + k * 6 + 1, none⟩) hbl).trans G1.out
    have g2 := (HBR.out.cell (p := ⟨b, off + k * 6 + 2, none⟩) hbl).trans G2.out
    have g3 := (HBR.out.cell (p := ⟨b, off + k * 6 + 3, none⟩) hbl).trans G3.out
    by_cases h200 : 200 < sv.m.ts.length
    case pos =>
      have d1 : decide ((200 : Int) < sv.m.ts.length) = true := by simp; omega
      go_wp2_with fail
      go_roundw
      case rel => exact ⟨k + 1, S, s, by omega, by omega, by go_num, HL.out.mono (by omega), HI.out⟩
      case measure => simp [intOf]; omega
    case neg =>
    have d1 : decide ((200 : Int) < sv.m.ts.length) = false := by simp; omega
    have H200 : Hid (sv.m.ts.length ≤ 200) := by show _ ≤ _; omega
    have hst := on_step HL.out.1.ok HI.out HNF.out sv.m
    have HST := Lib.hid hst
    clear h200 hst
    go_wp2_with fail
    clear g0 g1 g2 g3
    go_at_call 10
    refine (save_any d S _ (by omega) s sv.m at_ ct wr HL.out.1 (HTS.out.below HBR.out) (HT1.out S HL.out.old)).mono ?_
    rintro e w3 ⟨rfl, hd3⟩
    obtain ⟨hl3, _⟩ := (HL.out.mono (B' := ((5 * k + 2 : Nat) : Int) + 5) (by omega)).done hd3
    obtain ⟨r, hr⟩ : ∃ r, saveS s sv.m = r := ⟨_, rfl⟩
    obtain ⟨S3, hS3⟩ : ∃ S3, Sx S wr w3 = S3 := ⟨_, rfl⟩
    rw [hr] at hl3 HST ⊢
    rw [hS3] at hl3
    have HL3 := Lib.hid hl3
    have HB3 := Lib.hid (next_below HBA.out hl3.2.2)
    have HI3 := Lib.hid HST.out.1
    have hlen := HI3.out.len HL3.out.1.ok
    have HLEN := Lib.hid hlen
    clear hd3 hl3 hr hS3 hlen HL HI HBR
    obtain ⟨er, her⟩ : ∃ er, r.2 = er := ⟨_, rfl⟩
    obtain ⟨s3, hs3⟩ : ∃ s3, r.1 = s3 := ⟨_, rfl⟩
    have hcs := HST.out.2
    rw [her, hs3] at hcs
    rw [her]
    rw [hs3] at HL3 HI3 HLEN
    clear HST her hs3
    have g0 := (HB3.out.cell (p := ⟨b, off + k * 6, none⟩) hbl).trans G0.out
    have g1 := (HB3.out.cell (p := ⟨b, off + k * 6 + 1, none⟩) hbl).trans G1.out
    have g2 := (HB3.out.cell (p := ⟨b, off + k * 6 + 2, none⟩) hbl).trans G2.out
    have g3 := (HB3.out.cell (p := ⟨b, off + k * 6 + 3, none⟩) hbl).trans G3.out
    have HMC := Lib.hid (may_any sv.m at_ ct w3 (HTS.out.below HB3.out))
    rcases hcs with ⟨hmay, rfl⟩ | ⟨hmay, rfl, hload⟩
    · rw [hmay] at HMC
      go_wp2_with fail
      go_at_call 11
      refine (HMC.out).mono ?_
      rintro e w4 ⟨rfl, hb4⟩
      have HL4 := Lib.hid (HL3.out.new hb4)
      clear hb4 HMC g0 g1 g2 g3
      go_wp2_with fail
      go_at_call 12
      refine (read_any d S3 _ s3 nm hnm w4 HL4.out.1).mono ?_
      rintro e w5 ⟨v5, rfl, ho5, hb5⟩
      have hg := HI3.out.get HNM.out
      rw [show hasE s3 nm = 0 by unfold hasE; rw [hg]; rfl]
      rw [hg] at ho5
      have ho5 : Own8 w5 w4.heap.size 5 v5 besideB := ho5
      obtain ⟨a5, c5, rfl, hr5⟩ := ho5.rd
      have HL5 := Lib.hid (HL4.out.new hb5)
      have q1 := run_toStr hr5 29 5 9 Try.underlying29 (by kernel_rfl) Try.underlying9
      clear hg ho5 hr5 hb5
      go_wp2_with fail
      go_at_call 13
      refine (list_any d S3 _ s3 w5 HL5.out.1).mono ?_
      rintro e w6 ⟨v6, rfl, ho6, hb6⟩
      rw [List.length_map] at ho6
      obtain ⟨a6, c6, rfl, hr6⟩ := Rd.of_own ho6
      have HL6 := Lib.hid (HL5.out.new hb6)
      have d2 : decide ((2 : Int) < s3.fs.length) = false := by have := HLEN.out.1; simp; omega
      clear ho6 hb6 hr6 q1
      go_wp2_with fail
      go_roundw
      case rel => exact ⟨k + 1, S3, s3, by omega, by omega, by go_num, HL6.out.mono (by omega), HI3.out⟩
      case measure => simp [intOf]; omega
    · rw [hmay] at HMC
      have HMY := Lib.hid hmay
      have HLD := Lib.hid hload
      clear hmay hload
      go_wp2_with fail
      go_at_call 11
      refine (HMC.out).mono ?_
      rintro e w4 ⟨rfl, hb4⟩
      have HL4 := Lib.hid (HL3.out.new hb4)
      clear hb4 HMC g0 g1 g2 g3
      go_wp2_with fail
      go_at_call 12
      refine (read_any d S3 _ s3 nm hnm w4 HL4.out.1).mono ?_
      rintro e w5 ⟨v5, rfl, ho5, hb5⟩
      have hg := HI3.out.get HNM.out
      rw [show hasE s3 nm = 0 by unfold hasE; rw [hg]; rfl]
      rw [hg] at ho5
      have ho5 : Own8 w5 w4.heap.size 5 v5 besideB := ho5
      obtain ⟨a5, c5, rfl, hr5⟩ := ho5.rd
      have HL5 := Lib.hid (HL4.out.new hb5)
      have q1 := run_toStr hr5 29 5 9 Try.underlying29 (by kernel_rfl) Try.underlying9
      clear hg ho5 hr5 hb5
      go_wp2_with fail
      go_at_call 13
      refine (list_any d S3 _ s3 w5 HL5.out.1).mono ?_
      rintro e w6 ⟨v6, rfl, ho6, hb6⟩
      rw [List.length_map] at ho6
      obtain ⟨a6, c6, rfl, hr6⟩ := Rd.of_own ho6
      have HL6 := Lib.hid (HL5.out.new hb6)
      have d2 : decide ((2 : Int) < s3.fs.length) = false := by have := HLEN.out.1; simp; omega
      clear ho6 hb6 hr6 q1
      go_wp2_with fail
      go_at_call 14
      refine (mload_any d S3 _ s3 w6 HL6.out.1).mono ?_
      rintro e w7 ⟨v7, rfl, ho7, hb7⟩
      rw [HLD.out] at ho7 ⊢
      obtain ⟨a10, c10, rfl, hr10⟩ := ho7.rd
      have HL7 := Lib.hid (HL6.out.new hb7)
      have HR7 := Lib.hid hr10
      clear ho7 hb7 hr10 d2
      go_wp2_with fail
      go_at_call 15
      have hba8 : Below w7.heap.size w7 (w7.alloc (.cells #[.int .i64 sv.m.wall, .int .i64 sv.m.logi, .int .i64 sv.m.node, .slice a10 sv.m.ts.length c10] 34)) := (Below.refl _ _).alloc (Nat.le_refl _) _
      have hrow8 := heap_alloc_new w7 (.cells #[.int .i64 sv.m.wall, .int .i64 sv.m.logi, .int .i64 sv.m.node, .slice a10 sv.m.ts.length c10] 34)
      obtain ⟨w8, hw8⟩ : ∃ w8, w7.alloc (.cells #[.int .i64 sv.m.wall, .int .i64 sv.m.logi, .int .i64 sv.m.node, .slice a10 sv.m.ts.length c10] 34) = w8 := ⟨_, rfl⟩
      obtain ⟨mb, hmb⟩ : ∃ mb, w7.heap.size = mb := ⟨_, rfl⟩
      rw [hw8] at hba8 hrow8 ⊢
      rw [hmb] at hrow8 ⊢
      have HL8 := Lib.hid (HL7.out.new hba8)
      have HR8 := Lib.hid (HR7.out.below hba8)
      have HROW8 := Lib.hid hrow8
      clear hba8 hrow8 hw8 hmb HL7 HR7
      refine (copy_any d S3 _ s3 w8 HL8.out.1).mono ?_
      rintro e w9 ⟨d9, rfl, hb9, hd9⟩
      have HL9 := Lib.hid (HL8.out.new hb9)
      have HR9 := Lib.hid (HR8.out.below hb9)
      have HROW9 := Lib.hid ((hb9.block mb (Array.getElem?_eq_some_iff.1 HROW8.out).1).trans HROW8.out)
      have HD9 := Lib.hid hd9
      clear hb9 hd9 HL8 HR8 HROW8
      go_wp2_with fail
      go_at_call 14
      refine (mload_any d9 _ _ s3 w9 HD9.out).mono ?_
      rintro e w10 ⟨v10, rfl, ho10, hb10⟩
      rw [HLD.out] at ho10 ⊢
      obtain ⟨a12, c12, rfl, hr12⟩ := ho10.rd
      have hba11 : Below w10.heap.size w10 (w10.alloc (.cells #[.int .i64 sv.m.wall, .int .i64 sv.m.logi, .int .i64 sv.m.node, .slice a12 sv.m.ts.length c12] 34)) := (Below.refl _ _).alloc (Nat.le_refl _) _
      have hrow11 := heap_alloc_new w10 (.cells #[.int .i64 sv.m.wall, .int .i64 sv.m.logi, .int .i64 sv.m.node, .slice a12 sv.m.ts.length c12] 34)
      obtain ⟨X, hX⟩ : ∃ X, w10.alloc (.cells #[.int .i64 sv.m.wall, .int .i64 sv.m.logi, .int .i64 sv.m.node, .slice a12 sv.m.ts.length c12] 34) = X := ⟨_, rfl⟩
      rw [hX] at hba11 hrow11
      have hbX := hb10.trans (hba11.mono hb10.size)
      have HLX := Lib.hid (HL9.out.new hbX)
      have HR10 := Lib.hid (HR9.out.below hbX)
      have HR12 := Lib.hid (hr12.below hba11)
      have HBX := Lib.hid (next_below HBA.out HLX.out.2.2)
      have HTX := Lib.hid (HTS.out.below HBX.out)
      have hrowX := (hbX.block mb (Array.getElem?_eq_some_iff.1 HROW9.out).1).trans HROW9.out
      have M0 := Lib.hid (cell_of_row _ _ 0 _ _ _ hrowX)
      have M1 := Lib.hid (cell_of_row _ _ 1 _ _ _ hrowX)
      have M2 := Lib.hid (cell_of_row _ _ 2 _ _ _ hrowX)
      have M3 := Lib.hid (cell_of_row _ _ 3 _ _ _ hrowX)
      have P0 := Lib.hid (cell_of_row _ _ 0 _ _ _ hrow11)
      have P1 := Lib.hid (cell_of_row _ _ 1 _ _ _ hrow11)
      have P2 := Lib.hid (cell_of_row _ _ 2 _ _ _ hrow11)
      have P3 := Lib.hid (cell_of_row _ _ 3 _ _ _ hrow11)
      have L0 := Lib.hid ((HBX.out.cell (p := ⟨b, off + k * 6, none⟩) hbl).trans G0.out)
      have L1 := Lib.hid ((HBX.out.cell (p := ⟨b, off + k * 6 + 1, none⟩) hbl).trans G1.out)
      have L2 := Lib.hid ((HBX.out.cell (p := ⟨b, off + k * 6 + 2, none⟩) hbl).trans G2.out)
      have L3 := Lib.hid ((HBX.out.cell (p := ⟨b, off + k * 6 + 3, none⟩) hbl).trans G3.out)
      clear ho10 hb10 hr12 hba11 hrow11 hbX hrowX HL9 HR9 HROW9 HD9
      go_wp2_with fail
      clear hX
      refine wp_region_ht 36 (fun W => Below X.heap.size X W) (by kernel_rfl) (by kernel_rfl) ?_ (fun hHeld => ?_)
      · exact (Below.refl _ X).drew
      try simp only [Act.put, List.setIfInBounds_toArray, List.set_cons_zero, List.set_cons_succ]
      refine wpHT_takeD (i := 0) (d := 114) (v := ?_) (by kernel_rfl) rfl rfl (by decide) (by kernel_rfl) (by kernel_rfl) (fun _ _ _ h => h) (Or.inl ⟨by kernel_rfl, ?_⟩) (by assumption) ?_
      rotate_left
      · intro w hSw; (try dsimp only at hSw); go_simp; (try with_reducible rfl)
      try simp only [Act.put, List.setIfInBounds_toArray, List.set_cons_zero, List.set_cons_succ]
      refine wpHT_takeD (i := 1) (d := 115) (v := ?_) (by kernel_rfl) rfl rfl (by decide) (by kernel_rfl) (by kernel_rfl) (fun _ _ _ h => h) (Or.inl ⟨by kernel_rfl, ?_⟩) (by assumption) ?_
      rotate_left
      · intro w hSw; (try dsimp only at hSw); go_simp; (try with_reducible rfl)
      try simp only [Act.put, List.setIfInBounds_toArray, List.set_cons_zero, List.set_cons_succ]
      refine wpHT_takeD (i := 2) (d := 116) (v := ?_) (by kernel_rfl) rfl rfl (by decide) (by kernel_rfl) (by kernel_rfl) (fun _ _ _ h => h) (Or.inl ⟨by kernel_rfl, ?_⟩) (by assumption) ?_
      rotate_left
      · intro w hSw; (try dsimp only at hSw); go_simp; (try with_reducible rfl)
      try simp only [Act.put, List.setIfInBounds_toArray, List.set_cons_zero, List.set_cons_succ]
      refine wpHT_takeD (i := 3) (d := 117) (v := ?_) (by kernel_rfl) rfl rfl (by decide) (by kernel_rfl) (by kernel_rfl) (fun _ _ _ h => h) (Or.inl ⟨by kernel_rfl, ?_⟩) (by assumption) ?_
      rotate_left
      · intro w hSw; (try dsimp only at hSw); go_simp; (try with_reducible rfl)
      try simp only [Act.put, List.setIfInBounds_toArray, List.set_cons_zero, List.set_cons_succ]
      refine wpHT_takeD (i := 4) (d := 118) (v := ?_) (by kernel_rfl) rfl rfl (by decide) (by kernel_rfl) (by kernel_rfl) (fun _ _ _ h => h) (Or.inl ⟨by kernel_rfl, ?_⟩) (by assumption) ?_
      rotate_left
      · intro w hSw; (try dsimp only at hSw); go_simp; (try with_reducible rfl)
      try simp only [Act.put, List.setIfInBounds_toArray, List.set_cons_zero, List.set_cons_succ]
      refine wpHT_takeD (i := 5) (d := 119) (v := ?_) (by kernel_rfl) rfl rfl (by decide) (by kernel_rfl) (by kernel_rfl) (fun _ _ _ h => h) (Or.inl ⟨by kernel_rfl, ?_⟩) (by assumption) ?_
      rotate_left
      · intro w hSw; (try dsimp only at hSw); go_simp; (try with_reducible rfl)
      try simp only [Act.put, List.setIfInBounds_toArray, List.set_cons_zero, List.set_cons_succ]
      refine wpHT_takeD (i := 6) (d := 120) (v := ?_) (by kernel_rfl) rfl rfl (by decide) (by kernel_rfl) (by kernel_rfl) (fun _ _ _ h => h) (Or.inl ⟨by kernel_rfl, ?_⟩) (by assumption) ?_
      rotate_left
      · intro w hSw; (try dsimp only at hSw); go_simp; (try with_reducible rfl)
      try simp only [Act.put, List.setIfInBounds_toArray, List.set_cons_zero, List.set_cons_succ]
      refine wpHT_takeD (i := 7) (d := 121) (v := ?_) (by kernel_rfl) rfl rfl (by decide) (by kernel_rfl) (by kernel_rfl) (fun _ _ _ h => h) (Or.inl ⟨by kernel_rfl, ?_⟩) (by assumption) ?_
      rotate_left
      · intro W' hSw; have z0 := cell_below M0.out hSw; have z1 := cell_below M1.out hSw; have z2 := cell_below M2.out hSw; have z3 := cell_below M3.out hSw; go_simp; (try with_reducible rfl)
      try simp only [Act.put, List.setIfInBounds_toArray, List.set_cons_zero, List.set_cons_succ]
      refine wpHT_takeD (i := 8) (d := 122) (v := ?_) (by kernel_rfl) rfl rfl (by decide) (by kernel_rfl) (by kernel_rfl) (fun _ _ _ h => h) (Or.inl ⟨by kernel_rfl, ?_⟩) (by assumption) ?_
      rotate_left
      · intro w hSw; (try dsimp only at hSw); go_simp; (try with_reducible rfl)
      try simp only [Act.put, List.setIfInBounds_toArray, List.set_cons_zero, List.set_cons_succ]
      refine wpHT_takeD (i := 9) (d := 123) (v := ?_) (by kernel_rfl) rfl rfl (by decide) (by kernel_rfl) (by kernel_rfl) (fun _ _ _ h => h) (Or.inl ⟨by kernel_rfl, ?_⟩) (by assumption) ?_
      rotate_left
      · intro w hSw; (try dsimp only at hSw); go_simp; (try with_reducible rfl)
      try simp only [Act.put, List.setIfInBounds_toArray, List.set_cons_zero, List.set_cons_succ]
      refine wpHT_takeD (i := 10) (d := 124) (v := ?_) (by kernel_rfl) rfl rfl (by decide) (by kernel_rfl) (by kernel_rfl) (fun _ _ _ h => h) (Or.inl ⟨by kernel_rfl, ?_⟩) (by assumption) ?_
      rotate_left
      · intro w hSw; (try dsimp only at hSw); go_simp; (try with_reducible rfl)
      try simp only [Act.put, List.setIfInBounds_toArray, List.set_cons_zero, List.set_cons_succ]
      refine wpHT_takeD (i := 11) (d := 125) (v := ?_) (by kernel_rfl) rfl rfl (by decide) (by kernel_rfl) (by kernel_rfl) (fun _ _ _ h => h) (Or.inl ⟨by kernel_rfl, ?_⟩) (by assumption) ?_
      rotate_left
      · intro w hSw; (try dsimp only at hSw); go_simp; (try with_reducible rfl)
      try simp only [Act.put, List.setIfInBounds_toArray, List.set_cons_zero, List.set_cons_succ]
      refine wpHT_takeD (i := 12) (d := 126) (v := ?_) (by kernel_rfl) rfl rfl (by decide) (by kernel_rfl) (by kernel_rfl) (fun _ _ _ h => h) (Or.inl ⟨by kernel_rfl, ?_⟩) (by assumption) ?_
      rotate_left
      · intro W' hSw; have z0 := cell_below L0.out hSw; have z1 := cell_below L1.out hSw; have z2 := cell_below L2.out hSw; have z3 := cell_below L3.out hSw; go_simp; (try with_reducible rfl)
      try simp only [Act.put, List.setIfInBounds_toArray, List.set_cons_zero, List.set_cons_succ]
      refine wpHT_one (i := 13) (by kernel_rfl) rfl (by decide) (fun K hK => ?_)
      go_simp
      go_at_call 17
      refine (mkRef_any sv.m at_ ct _ (HTX.out.below hHeld) H200.out).mono ?_
      rintro e Y1 ⟨u1, rfl, ho1, hy1⟩
      obtain ⟨aa1, cc1, rfl, hr1⟩ := ho1.rd
      have hY1 : Below X.heap.size X Y1 := hHeld.trans (hy1.mono hHeld.size)
      have HRR1 := Lib.hid hr1
      have HY1 := Lib.hid hY1
      clear ho1 hr1 hy1
      refine hK.out _ _ ?_ (fun hHeld => ?_)
      · exact hY1
      clear hK K
      try simp only [Act.put, List.setIfInBounds_toArray, List.set_cons_zero, List.set_cons_succ]
      refine wpHT_one (i := 14) (by kernel_rfl) rfl (by decide) (fun K hK => ?_)
      go_simp
      go_at_call 16
      refine (same_any sv.m sv.m a10 aa1 c10 cc1 _ (HR10.out.below HY1.out) HRR1.out).mono ?_
      rintro e Y2 ⟨rfl, hy2⟩
      rw [sameB_refl]
      have hY2 : Below X.heap.size X Y2 := HY1.out.trans (hy2.mono HY1.out.size)
      have HY2 := Lib.hid hY2
      clear hy2
      refine hK.out _ _ ?_ (fun hHeld => ?_)
      · exact hY2
      clear hK K
      try simp only [Act.put, List.setIfInBounds_toArray, List.set_cons_zero, List.set_cons_succ]
      refine wpHT_takeD (i := 15) (d := 129) (v := ?_) (by kernel_rfl) rfl rfl (by decide) (by kernel_rfl) (by kernel_rfl) (fun _ _ _ h => h) (Or.inl ⟨by kernel_rfl, ?_⟩) (by assumption) ?_
      rotate_left
      · intro w hSw; (try dsimp only at hSw); go_simp; (try with_reducible rfl)
      try simp only [Act.put, List.setIfInBounds_toArray, List.set_cons_zero, List.set_cons_succ]
      refine wpHT_takeD (i := 16) (d := 130) (v := ?_) (by kernel_rfl) rfl rfl (by decide) (by kernel_rfl) (by kernel_rfl) (fun _ _ _ h => h) (Or.inl ⟨by kernel_rfl, ?_⟩) (by assumption) ?_
      rotate_left
      · intro w hSw; (try dsimp only at hSw); go_simp; (try with_reducible rfl)
      try simp only [Act.put, List.setIfInBounds_toArray, List.set_cons_zero, List.set_cons_succ]
      refine wpHT_takeD (i := 17) (d := 131) (v := ?_) (by kernel_rfl) rfl rfl (by decide) (by kernel_rfl) (by kernel_rfl) (fun _ _ _ h => h) (Or.inl ⟨by kernel_rfl, ?_⟩) (by assumption) ?_
      rotate_left
      · intro w hSw; (try dsimp only at hSw); go_simp; (try with_reducible rfl)
      try simp only [Act.put, List.setIfInBounds_toArray, List.set_cons_zero, List.set_cons_succ]
      refine wpHT_takeD (i := 18) (d := 132) (v := ?_) (by kernel_rfl) rfl rfl (by decide) (by kernel_rfl) (by kernel_rfl) (fun _ _ _ h => h) (Or.inl ⟨by kernel_rfl, ?_⟩) (by assumption) ?_
      rotate_left
      · intro W' hSw; have z0 := cell_below P0.out hSw; have z1 := cell_below P1.out hSw; have z2 := cell_below P2.out hSw; have z3 := cell_below P3.out hSw; go_simp; (try with_reducible rfl)
      try simp only [Act.put, List.setIfInBounds_toArray, List.set_cons_zero, List.set_cons_succ]
      refine wpHT_takeD (i := 19) (d := 133) (v := ?_) (by kernel_rfl) rfl rfl (by decide) (by kernel_rfl) (by kernel_rfl) (fun _ _ _ h => h) (Or.inl ⟨by kernel_rfl, ?_⟩) (by assumption) ?_
      rotate_left
      · intro w hSw; (try dsimp only at hSw); go_simp; (try with_reducible rfl)
      try simp only [Act.put, List.setIfInBounds_toArray, List.set_cons_zero, List.set_cons_succ]
      refine wpHT_takeD (i := 20) (d := 134) (v := ?_) (by kernel_rfl) rfl rfl (by decide) (by kernel_rfl) (by kernel_rfl) (fun _ _ _ h => h) (Or.inl ⟨by kernel_rfl, ?_⟩) (by assumption) ?_
      rotate_left
      · intro w hSw; (try dsimp only at hSw); go_simp; (try with_reducible rfl)
      try simp only [Act.put, List.setIfInBounds_toArray, List.set_cons_zero, List.set_cons_succ]
      refine wpHT_takeD (i := 21) (d := 135) (v := ?_) (by kernel_rfl) rfl rfl (by decide) (by kernel_rfl) (by kernel_rfl) (fun _ _ _ h => h) (Or.inl ⟨by kernel_rfl, ?_⟩) (by assumption) ?_
      rotate_left
      · intro w hSw; (try dsimp only at hSw); go_simp; (try with_reducible rfl)
      try simp only [Act.put, List.setIfInBounds_toArray, List.set_cons_zero, List.set_cons_succ]
      refine wpHT_takeD (i := 22) (d := 136) (v := ?_) (by kernel_rfl) rfl rfl (by decide) (by kernel_rfl) (by kernel_rfl) (fun _ _ _ h => h) (Or.inl ⟨by kernel_rfl, ?_⟩) (by assumption) ?_
      rotate_left
      · intro w hSw; (try dsimp only at hSw); go_simp; (try with_reducible rfl)
      try simp only [Act.put, List.setIfInBounds_toArray, List.set_cons_zero, List.set_cons_succ]
      refine wpHT_takeD (i := 23) (d := 137) (v := ?_) (by kernel_rfl) rfl rfl (by decide) (by kernel_rfl) (by kernel_rfl) (fun _ _ _ h => h) (Or.inl ⟨by kernel_rfl, ?_⟩) (by assumption) ?_
      rotate_left
      · intro W' hSw; have z0 := cell_below L0.out hSw; have z1 := cell_below L1.out hSw; have z2 := cell_below L2.out hSw; have z3 := cell_below L3.out hSw; go_simp; (try with_reducible rfl)
      try simp only [Act.put, List.setIfInBounds_toArray, List.set_cons_zero, List.set_cons_succ]
      refine wpHT_one (i := 24) (by kernel_rfl) rfl (by decide) (fun K hK => ?_)
      go_simp
      go_at_call 17
      refine (mkRef_any sv.m at_ ct _ (HTX.out.below hHeld) H200.out).mono ?_
      rintro e Y3 ⟨u3, rfl, ho3, hy3⟩
      obtain ⟨aa3, cc3, rfl, hr3⟩ := ho3.rd
      have hY3 : Below X.heap.size X Y3 := hHeld.trans (hy3.mono hHeld.size)
      have HRR3 := Lib.hid hr3
      have HY3 := Lib.hid hY3
      clear ho3 hr3 hy3
      refine hK.out _ _ ?_ (fun hHeld => ?_)
      · exact hY3
      clear hK K
      try simp only [Act.put, List.setIfInBounds_toArray, List.set_cons_zero, List.set_cons_succ]
      refine wpHT_one (i := 25) (by kernel_rfl) rfl (by decide) (fun K hK => ?_)
      go_simp
      go_at_call 16
      refine (same_any sv.m sv.m a12 aa3 c12 cc3 _ (HR12.out.below HY3.out) HRR3.out).mono ?_
      rintro e Y4 ⟨rfl, hy4⟩
      rw [sameB_refl]
      have hY4 : Below X.heap.size X Y4 := HY3.out.trans (hy4.mono HY3.out.size)
      have HY4 := Lib.hid hY4
      clear hy4
      refine hK.out _ _ ?_ (fun hHeld => ?_)
      · exact hY4
      clear hK K
      try simp only [Act.put, List.setIfInBounds_toArray, List.set_cons_zero, List.set_cons_succ]
      refine wpHT_takeD (i := 26) (d := 140) (v := ?_) (by kernel_rfl) rfl rfl (by decide) (by kernel_rfl) (by kernel_rfl) (fun _ _ _ h => h) (Or.inl ⟨by kernel_rfl, ?_⟩) (by assumption) ?_
      rotate_left
      · intro w hSw; (try dsimp only at hSw); go_simp; (try with_reducible rfl)
      try simp only [Act.put, List.setIfInBounds_toArray, List.set_cons_zero, List.set_cons_succ]
      refine wpHT_takeD (i := 27) (d := 141) (v := ?_) (by kernel_rfl) rfl rfl (by decide) (by kernel_rfl) (by kernel_rfl) (fun _ _ _ h => h) (Or.inl ⟨by kernel_rfl, ?_⟩) (by assumption) ?_
      rotate_left
      · intro w hSw; (try dsimp only at hSw); go_simp; (try with_reducible rfl)
      try simp only [Act.put, List.setIfInBounds_toArray, List.set_cons_zero, List.set_cons_succ]
      refine wpHT_takeD (i := 28) (d := 142) (v := ?_) (by kernel_rfl) rfl rfl (by decide) (by kernel_rfl) (by kernel_rfl) (fun _ _ _ h => h) (Or.inl ⟨by kernel_rfl, ?_⟩) (by assumption) ?_
      rotate_left
      · intro w hSw; (try dsimp only at hSw); go_simp; (try with_reducible rfl)
      try simp only [Act.put, List.setIfInBounds_toArray, List.set_cons_zero, List.set_cons_succ]
      refine wpHT_takeD (i := 29) (d := 143) (v := ?_) (by kernel_rfl) rfl rfl (by decide) (by kernel_rfl) (by kernel_rfl) (fun _ _ _ h => h) (Or.inl ⟨by kernel_rfl, ?_⟩) (by assumption) ?_
      rotate_left
      · intro w hSw; (try dsimp only at hSw); go_simp; (try with_reducible rfl)
      try simp only [Act.put, List.setIfInBounds_toArray, List.set_cons_zero, List.set_cons_succ]
      refine wpHT_takeD (i := 31) (d := 145) (v := ?_) (by kernel_rfl) rfl rfl (by decide) (by kernel_rfl) (by kernel_rfl) (fun _ _ _ h => h) (Or.inl ⟨by kernel_rfl, ?_⟩) (by assumption) ?_
      rotate_left
      · intro w hSw; (try dsimp only at hSw); go_simp; (try with_reducible rfl)
      try simp only [Act.put, List.setIfInBounds_toArray, List.set_cons_zero, List.set_cons_succ]
      refine wpHT_one (i := 30) (by kernel_rfl) rfl (by decide) (fun K hK => ?_)
      go_simp
      go_at_call 13
      refine (list_any d S3 _ s3 _ (HLX.out.1.below hHeld)).mono ?_
      rintro e Y5 ⟨v5, rfl, ho5, hy5⟩
      rw [List.length_map] at ho5
      obtain ⟨aa5, cc5, rfl, hr5⟩ := Rd.of_own ho5
      have hY5 : Below X.heap.size X Y5 := hHeld.trans (hy5.mono hHeld.size)
      have HRR5 : Hid (RdS Y5 aa5 s3.fs.length cc5 (s3.fs.map Fl.nm)) := ⟨by simp, hr5⟩
      have HY5 := Lib.hid hY5
      clear ho5 hr5 hy5
      refine hK.out _ _ ?_ (fun hHeld => ?_)
      · exact hY5
      clear hK K
      try simp only [Act.put, List.setIfInBounds_toArray, List.set_cons_zero, List.set_cons_succ]
      refine wpHT_one (i := 32) (by kernel_rfl) rfl (by decide) (fun K hK => ?_)
      go_simp
      go_at_call 15
      refine (copy_any d S3 _ s3 _ (HLX.out.1.below hHeld)).mono ?_
      rintro e Y6 ⟨d6, rfl, hy6, hd6⟩
      have hY6 : Below X.heap.size X Y6 := hHeld.trans (hy6.mono hHeld.size)
      have HRR6 := Lib.hid (HRR5.out.below hy6)
      have HD6 := Lib.hid hd6
      clear hy6 hd6
      refine hK.out _ _ ?_ (fun hHeld => ?_)
      · exact hY6
      clear hK K
      try simp only [Act.put, List.setIfInBounds_toArray, List.set_cons_zero, List.set_cons_succ]
      refine wpHT_one (i := 33) (by kernel_rfl) rfl (by decide) (fun K hK => ?_)
      go_simp
      go_at_call 13
      refine (list_any d6 _ _ s3 _ HD6.out).mono ?_
      rintro e Y7 ⟨v7, rfl, ho7, hy7⟩
      rw [List.length_map] at ho7
      obtain ⟨aa7, cc7, rfl, hr7⟩ := Rd.of_own ho7
      have hY7 : Below X.heap.size X Y7 := hHeld.trans (hy7.mono hHeld.size)
      have HRR7 : Hid (RdS Y7 aa7 s3.fs.length cc7 (s3.fs.map Fl.nm)) := ⟨by simp, hr7⟩
      have HRR67 := Lib.hid (HRR6.out.below hy7)
      clear ho7 hr7 hy7
      refine hK.out _ _ ?_ (fun hHeld => ?_)
      · exact hY7
      clear hK K
      try simp only [Act.put, List.setIfInBounds_toArray, List.set_cons_zero, List.set_cons_succ]
      refine wpHT_one (i := 34) (by kernel_rfl) rfl (by decide) (fun K hK => ?_)
      go_simp
      go_at_call 18
      refine (texts_same _ _ _ _ _ _ _ HRR67.out HRR7.out).mono ?_
      rintro e Y8 ⟨rfl, hy8⟩
      have hY8 : Below X.heap.size X Y8 := hHeld.trans (hy8.mono hHeld.size)
      have HY8 := Lib.hid hY8
      clear hy8
      refine hK.out _ _ ?_ (fun hHeld => ?_)
      · exact hY8
      clear hK K
      try simp only [Act.put, List.setIfInBounds_toArray, List.set_cons_zero, List.set_cons_succ]
      refine wpHT_takeD (i := 35) (d := 149) (v := ?_) (by kernel_rfl) rfl rfl (by decide) (by kernel_rfl) (by kernel_rfl) (fun _ _ _ h => h) (Or.inl ⟨by kernel_rfl, ?_⟩) (by assumption) ?_
      rotate_left
      · intro w hSw; (try dsimp only at hSw); go_simp; (try with_reducible rfl)
      try simp only [Act.put, List.setIfInBounds_toArray, List.set_cons_zero, List.set_cons_succ]
      refine wpHT_done (by kernel_rfl) ?_
      simp only [List.drop_succ_cons, List.drop_zero]
      clear hHeld hY1 hY2 hY3 hY4 hY5 hY6 hY7 hY8
      go_wp2_with fail
      go_roundw
      case rel => exact ⟨k + 1, S3, s3, by omega, by omega, by go_num, (HLX.out.new HY8.out).mono (by omega), HI3.out⟩
      case measure => simp [intOf]; omega
end Go.Proofs.Ytkinhilkmjfjhaa
