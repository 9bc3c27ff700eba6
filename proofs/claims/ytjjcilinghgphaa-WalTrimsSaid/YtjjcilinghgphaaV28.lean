/-
  The walk of WalTrims.
-/
import Derived.Test.YtjjcilinghgphaaV27
namespace Go.Proofs.Ytjjcilinghgphaa
open Go.RowKit Go.Maps Go.Sort
set_option maxRecDepth 100000
attribute [local go_sem] bs_size bs_toList

def rsum (rows : List (List UInt8)) : Nat := (rows.map fun r => min r.length 20001).sum
theorem rsum_snoc {rows : List (List UInt8)} {k : Nat} {r : List UInt8} (h : rows[k]? = some r) : rsum (rows.take (k + 1)) = rsum (rows.take k) + min r.length 20001 := by
  rw [List.take_add_one, h]; simp [rsum]
theorem rsum_le (rows : List (List UInt8)) : rsum rows ≤ rows.length * 20001 := by
  induction rows with
  | nil => simp [rsum]
  | cons o r ih => simp only [rsum, List.map_cons, List.sum_cons, List.length_cons] at ih ⊢; omega
theorem rsum_join {rows : List (List UInt8)} (h : rsum rows ≤ 20000) : (joinF rows).length ≤ rsum rows + 12 * rows.length ∧ ∀ r ∈ rows, r.length ≤ 20000 := by
  induction rows with
  | nil => exact ⟨by simp [joinF], fun r hr => by cases hr⟩
  | cons p q ih =>
    have e : rsum (p :: q) = min p.length 20001 + rsum q := by simp [rsum]
    rw [e] at h ⊢
    obtain ⟨i1, i2⟩ := ih (by omega)
    refine ⟨?_, fun r hr => ?_⟩
    · show (frameOf p ++ joinF q).length ≤ _
      rw [List.length_append, frameOf_length, List.length_cons]
      omega
    · rcases List.mem_cons.1 hr with rfl | hr
      · omega
      · exact i2 r hr
theorem join_take_le (rows : List (List UInt8)) (k : Nat) : (joinF (rows.take k)).length ≤ (joinF rows).length := by
  have : joinF rows = joinF (rows.take k) ++ joinF (rows.drop k) := by rw [← joinF_append, List.take_append_drop]
  rw [this, List.length_append]; omega
theorem Rd88.from {w : World} {a : Option Addr} {n cap : Nat} {ls : List (List UInt8)} (h : Rd88 w a n cap ls) (l : Nat) (hl : l ≤ n) : ∃ ad' cap', (∀ w', (Instr.slice 31 (.slice a n cap) (some (.int .i64 l)) none none).run Try.prog w' = .ok (.slice ad' (n - l) cap') w') ∧ Rd88 w ad' (n - l) cap' (ls.drop l) := by
  obtain ⟨hn, vs, hr, hel⟩ := h
  obtain ⟨ad', cap', h1, h2⟩ := run_slice S88 hr (some (.int .i64 l)) none l n (.inr rfl) (.inl ⟨rfl, rfl⟩) hl (Nat.le_refl _)
  have hvl : vs.length = n := by have := hr.2.2.2.1; omega
  have e : (vs.drop (l * 1)).take ((n - l) * 1) = vs.drop l := by rw [Nat.mul_one, Nat.mul_one, List.take_of_length_le (by rw [List.length_drop]; omega)]
  rw [e] at h2
  refine ⟨ad', cap', h1, by rw [List.length_drop]; omega, _, h2, fun i x hx => ?_⟩
  rw [List.getElem?_drop] at hx
  obtain ⟨ai, ci, e1, e2⟩ := hel (l + i) x hx
  exact ⟨ai, ci, by rw [List.getElem?_drop]; exact e1, e2⟩
set_option maxHeartbeats 8000000 in
theorem trims_walk (seg : Int) (a : Option Addr) (len cap : Nat) (rows : List (List UInt8)) (below : Int) (w : World) (h : Rd88 w a len cap rows) :
    Calls Try.prog 6 #[.int .i64 seg, .slice a len cap, .int .i64 below] w (TEnd w) := by
  have H0 := Lib.hid h
  have HN := Lib.hid h.1
  have hlen9 : len ≤ 9223372036854775807 := by obtain ⟨_, vs, hr, _⟩ := h; exact Nat.le_trans hr.1 hr.2.1
  clear h
  go_enter Try.func6, Try.ntmps6
  go_wp2_with fail
  go_at_call 9
  refine (wfirst_any w).mono ?_
  rintro e wa ⟨rfl, hb⟩
  have HBA := Lib.hid hb
  clear hb
  go_wp2_with fail
  go_loop [7, 8] (fun x i => ∃ k : Nat, k ≤ len ∧ k ≤ 100 ∧ i = .int .i64 (k : Nat) ∧ x = .int .i64 (rsum (rows.take k) : Nat)) (fun _ i => len - (intOf i).toNat)
  case atStart => exact ⟨0, Nat.zero_le _, Nat.zero_le _, rfl, rfl⟩
  case round =>
    obtain ⟨k, hk, hk1, rfl, rfl⟩ := hrel
    have hws : rsum (rows.take k) ≤ 2000100 := by
      have := rsum_le (rows.take k)
      rw [List.length_take] at this
      omega
    by_cases hgo : k < len ∧ k < 100
    · obtain ⟨hlt, h100⟩ := hgo
      obtain ⟨r, hr⟩ : ∃ r, rows[k]? = some r := ⟨_, List.getElem?_eq_getElem (by have := HN.out; omega)⟩
      obtain ⟨_, vs, hrv, hel⟩ := H0.out.below HBA.out
      obtain ⟨ai, ci, hv1, hv2⟩ := hel k r hr
      obtain ⟨b1, o1, rfl, _, hc1⟩ := hrv.at (by omega)
      have hck := hc1 k _ hv1
      have hrl : r.length ≤ 9223372036854775807 := Nat.le_trans hv2.2.1 hv2.2.2.1
      have HS := Lib.hid (rsum_snoc hr)
      clear hr hrv hel hv1 hv2 hc1
      go_wp2_with fail
      go_round
      case rel => exact ⟨k + 1, by omega, by omega, by go_num, by rw [HS.out]; congr 1; omega⟩
      case measure => simp [intOf]; omega
    · have hcase : (k = len ∧ len ≤ 100) ∨ (k = 100 ∧ 100 < len) := by omega
      have hgx : (decide (k < len) = true ∧ decide ((k : Int) < 100) = false) ∨ decide (k < len) = false := by
        by_cases h : k < len
        · exact .inl ⟨by simpa using h, by simp; omega⟩
        · exact .inr (by simpa using h)
      by_cases hgood : 64 ≤ seg ∧ seg ≤ 262144 ∧ len ≤ 100 ∧ rsum (rows.take k) ≤ 20000
      case neg =>
        have hbad : seg < 64 ∨ (¬ seg < 64 ∧ 262144 < seg) ∨ (¬ seg < 64 ∧ ¬ 262144 < seg ∧ (100 : Int) < (len : Int)) ∨ (¬ seg < 64 ∧ ¬ 262144 < seg ∧ ¬ (100 : Int) < (len : Int) ∧ (20000 : Int) < (rsum (rows.take k) : Int)) := by omega
        clear hgood hcase hgo hws
        rcases hgx with ⟨g1, g2⟩ | g1
        all_goals
          rcases hbad with b1 | ⟨b1, b2⟩ | ⟨b1, b2, b3⟩ | ⟨b1, b2, b3, b4⟩
          all_goals
            go_wp2_with fail
            go_at_call 9
            refine (wfirst_any wa).mono ?_
            rintro e wc ⟨rfl, hb⟩
            have HBC := Lib.hid (next_below HBA.out hb)
            clear hb
            go_wp2_with fail
            go_ret
            exact TEnd.mk HBC.out
      case pos =>
      obtain ⟨hs1, hs2, hl100, hr20⟩ := hgood
      obtain rfl : k = len := by omega
      have htk : rows.take k = rows := List.take_of_length_le (by have := HN.out; omega)
      rw [htk] at hr20 ⊢
      obtain ⟨hj1, hj2⟩ := rsum_join hr20
      have hj3 : (joinF rows).length ≤ 21200 := by have := HN.out; omega
      have HJ2 := Lib.hid hj2
      have HJ3 := Lib.hid hj3
      have g1 : decide (k < k) = false := by simp
      have b1 : ¬ seg < 64 := by omega
      have b2 : ¬ 262144 < seg := by omega
      have b3 : ¬ (100 : Int) < (k : Int) := by omega
      have b4 : ¬ (20000 : Int) < (rsum rows : Int) := by omega
      have b1' : decide (seg < 64) = false := by simpa using b1
      have b2' : decide (262144 < seg) = false := by simpa using b2
      have b3' : decide ((100 : Int) < (k : Int)) = false := by simpa using b3
      have b4' : decide ((20000 : Int) < (rsum rows : Int)) = false := by simpa using b4
      obtain ⟨rs, hrs⟩ : ∃ rs, rsum rows = rs := ⟨_, rfl⟩
      rw [hrs] at b4 b4' hr20 ⊢
      clear hgx hcase hgo hws hj1 hj2 hj3 htk hrs hr20
      go_wp2_with fail
      go_at_call 22
      refine (new_any 0 (Int.le_refl _) wa).mono ?_
      rintro e w1 ⟨d, rfl, hb1, hd1⟩
      have HD1 := Lib.hid (DL.start hb1 hd1)
      clear hb1 hd1 g1 b1 b2 b3 b4 b1' b2' b3' b4'
      go_wp2_with fail
      go_at_call 23
      refine (HD1.out.open (by omega) dL (by decide) seg).mono ?_
      rintro e w2 ho
      rw [open_new hs1 hs2] at ho
      obtain ⟨l, T2, rfl, hl2, _⟩ := ho
      have HL2 := Lib.hid hl2
      clear hl2
      go_wp2_with fail
      have hroom : tot sN.fs = 0 := by rw [(fre_new seg).tot]; rfl
      have HROOM := Lib.hid hroom
      clear hroom
      go_loopw [12, 13, 14] (fun i _ _ wr => ∃ (q : Nat) (T : Nat → Prop) (s : DS) (g : LG), q ≤ k ∧ i = .int .i64 (q : Nat) ∧ Hid (LL wa (3 + 3 * (q : Nat)) d l T s g wr) ∧ Hid (FL seg s g ∧ g.all = rows.take q ∧ tot s.fs = (joinF (rows.take q)).length)) (fun i _ _ _ => k - (intOf i).toNat)
      case atStart => exact ⟨0, T2, sN, _, Nat.zero_le _, rfl, HL2.out.mono (by omega), FL.start, rfl, HROOM.out⟩
      case round =>
        clear HL2 HD1 HROOM
        obtain ⟨q, T, s, g, hq, rfl, HL, HF⟩ := hrel
        by_cases hlt : q < k
        · obtain ⟨r, hr⟩ : ∃ r, rows[q]? = some r := ⟨_, List.getElem?_eq_getElem (by have := HN.out; omega)⟩
          obtain ⟨hk0, vs, hrv, hel⟩ := H0.out
          clear hk0
          obtain ⟨ai, ci, hv1, hv2⟩ := hel q r hr
          obtain ⟨b1, o1, rfl, _, hc1⟩ := hrv.at (by omega)
          have hck := cell_below (hc1 q _ hv1) (next_below HBA.out HL.out.bl)
          have HR8 := Lib.hid (hv2.below (next_below HBA.out HL.out.bl))
          have HBI : Hid (BlkIn ai r.length fun b => b < wa.heap.size) := fun h0 b hb => Nat.lt_of_lt_of_le (Rd.blkIn hv2.2 (by decide) h0 b hb) HBA.out.size
          have HRR := Lib.hid hr
          clear hr hrv hel hv1 hv2 hc1
          go_wp2_with fail
          go_at_call 24
          refine (HL.out.append (by omega) HR8.out (HL.out.old HBI.out)).mono ?_
          rintro e w3 ⟨T3, rfl, hl3, _⟩
          obtain ⟨f1, f2, f3, f4⟩ := HF.out.1.app (p := r) HL.out.ok HL.out.lw.ok
          have HL3 := Lib.hid (hl3.mono (B' := 3 + 3 * ((q + 1 : Nat) : Int)) (by omega))
          clear hl3 hck
          have htk := take_snocV HRR.out
          have hjt : (joinF (rows.take (q + 1))).length = (joinF (rows.take q)).length + (r.length + 12) := by rw [htk, joinF_snoc, List.length_append, frameOf_length]
          have hnext : g.next = q + 1 := by
            have h1 := HL.out.ok.all_len
            rw [HF.out.1.one, HF.out.2.1, List.length_take, Nat.min_eq_left (by have := HN.out; omega)] at h1
            omega
          by_cases h0 : (appL s g r).e = 0
          · have hn : appN s g r = (q : Int) + 1 := by unfold appN; rw [if_pos h0, hnext]; rfl
            rw [if_pos h0] at f2 f3
            have HF3 : Hid (FL seg (appL s g r).s (appL s g r).g ∧ (appL s g r).g.all = rows.take (q + 1) ∧ tot (appL s g r).s.fs = (joinF (rows.take (q + 1))).length) := ⟨f1, by rw [f2, HF.out.2.1, htk], by rw [f3, HF.out.2.2, hjt]⟩
            rw [h0, hn]
            have hqq : (((q : Int) + 1) != ((q : Int) + 1)) = false := by simp
            clear f1 f2 f3 f4 htk hjt hnext h0 hn
            go_wp2_with fail
            go_roundw
            case rel => exact ⟨q + 1, T3, _, _, by omega, by go_num, HL3.out, HF3.out⟩
            case measure => simp [intOf]; omega
          · have hr20 : r.length ≤ 20000 := HJ2.out r (List.mem_of_getElem? HRR.out)
            have h64 : 64 ≤ (appL s g r).s.fs.length := by
              rcases f4 h0 (by omega) (by omega) with h | h
              · exact h
              · rw [HF.out.2.2] at h
                have := join_take_le rows q
                have := HJ3.out
                omega
            have h64' : (appL s g r).s.fs.length = 64 := by have := HL3.out.lw.ok.len; omega
            have H64 := Lib.hid h64'
            have hbE : ((appL s g r).e != 0) = true := by simpa using h0
            clear f1 f2 f3 f4 htk hjt hnext h0 hr20 h64 h64'
            obtain ⟨e, he⟩ : ∃ e, (appL s g r).e = e := ⟨_, rfl⟩
            rw [he] at hbE ⊢
            clear he
            go_wp2_with fail
            go_at_call 9
            refine (wfirst_any w3).mono ?_
            rintro e4 w4 ⟨rfl, hb⟩
            have HL4 := Lib.hid (HL3.out.new hb)
            clear hb
            go_wp2_with fail
            go_at_call 25
            obtain ⟨Sd, hdk⟩ := HL4.out.dk
            refine (list_any d Sd _ _ w4 hdk).mono ?_
            rintro e5 w5 ⟨v5, rfl, hown5, hb5⟩
            obtain ⟨a5, c5, rfl, _⟩ := (OwnO.of_own hown5).rd
            rw [List.length_map, H64.out]
            have HBC := Lib.hid (next_below HBA.out (next_below HL4.out.bl hb5))
            clear hdk hown5 hb5
            go_wp2_with fail
            go_ret
            exact TEnd.mk HBC.out
        · obtain rfl : q = k := by omega
          have hall : g.all = rows := by rw [HF.out.2.1, List.take_of_length_le (by have := HN.out; omega)]
          have hnext : g.next = q + 1 := by
            have h1 := HL.out.ok.all_len
            rw [HF.out.1.one, hall, ← HN.out] at h1
            omega
          have HALL := Lib.hid hall
          have HNEXT := Lib.hid hnext
          clear hall hnext
          go_wp2_with fail
          go_at_call 26
          refine (HL.out.sync (by omega)).mono ?_
          rintro e w3 ⟨T3, rfl, hl3, _⟩
          obtain ⟨f1, f2, f3⟩ := HF.out.1.sync HL.out.lw.ok.srt
          obtain ⟨_, _, f4⟩ := HF.out.1.fre.sync HL.out.lw.ok.srt
          rw [f3]
          have HL3 := Lib.hid hl3
          have HF3 : Hid (FL seg (syncL s g).s (syncL s g).g ∧ (syncL s g).g.all = rows ∧ (syncL s g).g.sf = q ∧ (syncL s g).g.next = q + 1) := ⟨f1, f2.trans HALL.out, by rw [f4]; show g.next - 1 = q; rw [HNEXT.out]; rfl, by rw [f4]; exact HNEXT.out⟩
          clear hl3 f1 f2 f3 f4
          obtain ⟨s3, hs3⟩ : ∃ s3, (syncL s g).s = s3 := ⟨_, rfl⟩
          obtain ⟨g3, hg3⟩ : ∃ g3, (syncL s g).g = g3 := ⟨_, rfl⟩
          rw [hs3, hg3] at HL3 HF3
          clear hs3 hg3
          go_wp2_with fail
          go_at_call 27
          refine (HL3.out.trim (by omega) below).mono ?_
          rintro e w4 ⟨T4, rfl, hl4, _⟩
          obtain ⟨k1, k2, k3, k4, k5, k6, k7, k8, k9⟩ := FL.trim HF3.out.1.fre HL3.out.lw.ok HL3.out.ok below
          rw [k1]
          have HL4 := Lib.hid hl4
          have HK : Hid (Fre (trimL s3 g3 below).s (trimL s3 g3 below).g ∧ (trimL s3 g3 below).g.next = q + 1 ∧ (trimL s3 g3 below).g.sf = q ∧ (trimL s3 g3 below).g.room = seg ∧ (trimL s3 g3 below).g.dir = dL ∧ (trimL s3 g3 below).g.all = rows.drop ((trimL s3 g3 below).g.first - 1)) :=
            ⟨k2, k3.trans HF3.out.2.2.2, k4.trans HF3.out.2.2.1, k5.trans HF3.out.1.rm, k6.trans HF3.out.1.dir, by rw [k9, HF3.out.2.1, HF3.out.1.one]⟩
          have HFB : Hid ((trimL s3 g3 below).g.first = 1 ∨ ((trimL s3 g3 below).g.first : Int) ≤ below) := by
            rcases k8 with h | h
            · exact .inl (h.trans HF3.out.1.one)
            · exact .inr h
          clear hl4 k1 k2 k3 k4 k5 k6 k7 k8 k9
          obtain ⟨s4, hs4⟩ : ∃ s4, (trimL s3 g3 below).s = s4 := ⟨_, rfl⟩
          obtain ⟨g4, hg4⟩ : ∃ g4, (trimL s3 g3 below).g = g4 := ⟨_, rfl⟩
          rw [hs4, hg4] at HL4 HK
          rw [hg4] at HFB
          clear hs4 hg4
          obtain ⟨k2, k3, k4, k5, k6, k9⟩ := HK.out
          have hfp := HL4.out.ok.first_pos
          have hfn := HL4.out.ok.all_len
          rw [k3] at hfn
          have hrlq : rows.length = q := HN.out.symm
          obtain ⟨m1, m2⟩ := from_whole HL4.out.ok (by rw [k4, k3]; rfl)
          rw [k9] at m2
          have hro := k2.reopen HL4.out.lw.ok HL4.out.ok (fun r hr => by rw [k9] at hr; have := HJ2.out r (List.mem_of_mem_drop hr); omega)
          rw [show ({ g4 with sf := g4.next - 1 } : LG) = g4 by rw [show g4.next - 1 = g4.sf by rw [k3, k4]; rfl], k6, k5] at hro
          have HRO := Lib.hid hro
          have HM1 := Lib.hid m1
          have HM2 := Lib.hid m2
          have HFB2 := HFB.out
          have HK3 := Lib.hid k3
          have HK4 := Lib.hid k4
          have HK9 := Lib.hid k9
          clear k2 k3 k4 k5 k6 k9 m1 m2 hro HK
          obtain ⟨at_, hat⟩ : ∃ x, g4.first = x := ⟨_, rfl⟩
          rw [hat] at HFB2 hfp hfn HM1 HM2
          rw [hat] at HK9
          have HAT := Lib.hid hat
          have hatq : at_ ≤ q + 1 := by omega
          clear hat hfn HFB
          go_wp2_with fail
          go_at_call 14
          refine (HL4.out.first).mono ?_
          rintro e w5 ⟨rfl, rfl⟩
          rw [HAT.out]
          have hor : (¬ (1 : Int) < (at_ : Int)) ∨ ((1 : Int) < (at_ : Int) ∧ decide (below < (at_ : Int)) = false) := by
            rcases HFB2 with h | h
            · exact .inl (by omega)
            · by_cases h1 : 1 < at_
              · exact .inr ⟨by omega, by simpa using h⟩
              · exact .inl (by omega)
          clear HFB2
          have hw1 : IntKind.i64.wrap ((at_ : Int) - 1) = (at_ : Int) - 1 := IntWalk.i64_in _ (by omega)
          obtain ⟨as1, cs1, hrun, hrs⟩ := H0.out.from (at_ - 1) (by omega)
          rw [show ((at_ - 1 : Nat) : Int) = (at_ : Int) - 1 by omega] at hrun
          have HRS := Lib.hid hrs
          clear hrs
          rcases hor with g1 | ⟨g1, g2⟩
          all_goals
            try have g3 : decide ((1 : Int) < (at_ : Int)) = true := decide_eq_true g1
            try have g3 : decide ((1 : Int) < (at_ : Int)) = false := decide_eq_false g1
            go_wp2_with fail
            go_at_call 15
            refine (HL4.out.next').mono ?_
            rintro e w6 ⟨rfl, i6, rfl⟩
            rw [HK3.out, show ((q + 1 : Nat) : Int) = (q : Int) + 1 from rfl]
            have HL6 := Lib.hid (HL4.out.drewN i6)
            obtain ⟨W6, hW6⟩ : ∃ W6, w4.drewN i6 = W6 := ⟨_, rfl⟩
            rw [hW6] at HL6 ⊢
            clear hW6
            go_wp2_with fail
            go_at_call 19
            refine (HL6.out.from (at_ : Nat) 1073741824 (by omega) (by omega)).mono ?_
            rintro e w7 ⟨v7, vs7, rfl, ho, hb⟩
            rw [HM1.out] at ho ⊢
            have ho' : Own88 w7 W6.heap.size v7 vs7 (rows.drop (at_ - 1)) := by rw [if_pos rfl, HM2.out] at ho; exact ho
            obtain ⟨a7, c7, rfl, hr7⟩ := Own88.rd ho'
            have hl7 : (rows.drop (at_ - 1)).length = q - (at_ - 1) := by rw [List.length_drop, hrlq]
            rw [hl7] at hr7 ⊢
            have HL7 := Lib.hid (HL6.out.new hb)
            have HR7 := Lib.hid hr7
            clear ho ho' hl7 hr7 hb
            go_wp2_with fail
            go_at_call 20
            refine (wrows_any a7 as1 _ _ c7 cs1 _ _ w7 HR7.out (HRS.out.below (next_below HBA.out HL7.out.bl))).mono ?_
            rintro e w8 ⟨rfl, n8_, rfl⟩
            rw [show ((rows.drop (at_ - 1)) == (rows.drop (at_ - 1))) = true from by simp]
            have HL8 := Lib.hid (HL7.out.drewN n8_)
            obtain ⟨W8, hW8⟩ : ∃ W8, w7.drewN n8_ = W8 := ⟨_, rfl⟩
            rw [hW8] at HL8 ⊢
            clear hW8
            go_wp2_with fail
            go_at_call 23
            refine (HL8.out.dl.open (by omega) dL (by decide) seg).mono ?_
            rintro e w9 ho
            rw [HRO.out] at ho
            obtain ⟨l9, T9, rfl, hl9, _⟩ := ho
            have HL9 := Lib.hid hl9
            clear hl9
            go_wp2_with fail
            go_at_call 14
            refine (HL9.out.first).mono ?_
            rintro e w10 ⟨rfl, rfl⟩
            rw [HAT.out]
            go_wp2_with fail
            go_at_call 19
            have n1 := HM1.out
            have n2 := HM2.out
            refine (HL9.out.from (at_ : Nat) 1073741824 (by omega) (by omega)).mono ?_
            rintro e w11 ⟨v11, vs11, rfl, ho, hb⟩
            rw [n1] at ho ⊢
            have ho' : Own88 w11 w9.heap.size v11 vs11 (rows.drop (at_ - 1)) := by rw [if_pos rfl, n2] at ho; exact ho
            obtain ⟨a11, c11, rfl, hr11⟩ := Own88.rd ho'
            have hl11 : (rows.drop (at_ - 1)).length = q - (at_ - 1) := by rw [List.length_drop, hrlq]
            rw [hl11] at hr11 ⊢
            have HL11 := Lib.hid (HL9.out.new hb)
            have HR11 := Lib.hid hr11
            clear ho ho' hl11 hr11 hb n1 n2
            go_wp2_with fail
            go_at_call 9
            refine (wfirst_any w11).mono ?_
            rintro e w12 ⟨rfl, hb⟩
            have HBC := Lib.hid (next_below HBA.out (next_below HL11.out.bl hb))
            have HR12 := Lib.hid (HR11.out.below hb)
            clear hb
            go_wp2_with fail
            go_at_call 20
            refine (wrows_any a11 as1 _ _ c11 cs1 _ _ w12 HR12.out (HRS.out.below HBC.out)).mono ?_
            rintro e w13 ⟨rfl, n13, rfl⟩
            rw [show ((rows.drop (at_ - 1)) == (rows.drop (at_ - 1))) = true from by simp]
            go_wp2_with fail
            go_ret
            exact TEnd.mk (below_dn HBC.out n13)
end Go.Proofs.Ytjjcilinghgphaa
