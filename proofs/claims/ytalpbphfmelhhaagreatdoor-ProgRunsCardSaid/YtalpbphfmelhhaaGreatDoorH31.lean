/-
  The document's run (raceref9.Run).
-/
import Derived.Test.YtalpbphfmelhhaaGreatDoorHX
import Derived.Test.YtalpbphfmelhhaaGreatDoorH8
import Derived.BigRegion
namespace Go.Proofs.YtalpbphfmelhhaaGreatDoor
open Go.RowKit Go.Maps Go.Sort
set_option maxRecDepth 100000
attribute [local go_sem] bs_size bs_get bs_toList frombits tobits run_store_float
set_option maxHeartbeats 16000000 in
theorem run9_no (ap : Option Addr) (np cp : Nat) (p : List OpP) (a : Option Addr) (n cap : Nat) (sn : List SnP) (w : World) (hP : RdO w ap np cp p) (hS : RdS w a n cap sn) (hnp : np ≤ 1000) (hno : checkP p ≠ 0 ∨ missB sn (readsP p) = true ∨ badB sn (readsP p) = true) :
    Calls Tryz.prog 25 #[.slice ap np cp, .slice a n cap] w (RunPost w p sn) := by
  have HP := Lib.hid hP
  have HS := Lib.hid hS
  have HCH : Hid (∀ W, RdO W ap np cp p → Calls Tryz.prog 17 #[.slice ap np cp] W (IntPost W (checkP p))) := fun W h => check9_any ap np cp p W h hnp
  have HRD : Hid (∀ W, RdO W ap np cp p → Calls Tryz.prog 19 #[.slice ap np cp] W (KeysPost W (readsP p))) := fun W h => reads9_any ap np cp p W h hnp
  have HN := Lib.hid hP.rd.1
  have HM := Lib.hid hS.rd.1
  clear hP hS
  have HNO := Lib.hid hno
  clear hno
  by_cases hc : checkP p = 0
  · have HCK := Lib.hid (chk_of hc)
    have HC := Lib.hid hc
    rw [hc] at HCH
    clear hc
    go_enter Tryz.func25, Tryz.ntmps25
    go_wp2_with fail
    go_at_call 17
    refine (HCH.out w HP.out).mono ?_
    rintro e w1 ⟨rfl, hb1⟩
    have HB1 := Lib.hid hb1
    clear hb1
    go_wp2_with fail
    go_at_call 19
    refine (HRD.out _ (HP.out.below HB1.out)).mono ?_
    rintro e w2 ⟨v, rfl, ho, hb2⟩
    obtain ⟨ak, ck, rfl, hrk⟩ := OwnK.rd ho
    have HB2 := Lib.hid (HB1.out.trans (hb2.mono HB1.out.size))
    have HRK := Lib.hid hrk
    clear ho hrk hb2
    obtain ⟨nk, hnk⟩ : ∃ nk, (readsP p).length = nk := ⟨_, rfl⟩
    rw [hnk] at HRK
    have HNK := Lib.hid hnk
    have hnk1 : nk ≤ 1000 := by rw [← hnk]; exact Nat.le_trans (namedP_length 1 1 p) (by have := HN.out; omega)
    rw [hnk]
    clear hnk
    go_wp2_with fail
    go_loopw [8] (fun i wr => ∃ j : Nat, j ≤ nk ∧ i = .int .i64 (j : Nat) ∧ Hid (missB sn ((readsP p).take j) = false) ∧ wr = w2) (fun i _ => nk - (intOf i).toNat)
    case atStart => exact ⟨0, Nat.zero_le _, rfl, rfl, rfl⟩
    case round =>
      obtain ⟨j, hj, rfl, HMI, hw2⟩ := hrel
      have hw2' := hw2.symm
      subst hw2'
      by_cases hlt : j < nk
      · obtain ⟨y, hy⟩ : ∃ y, (readsP p)[j]? = some y := ⟨_, List.getElem?_eq_getElem (by have := HNK.out; omega)⟩
        obtain ⟨bk, offk, rfl, ck0⟩ := HRK.out.at hy
        have HY := Lib.hid hy
        have HSE := Lib.hid (seenAt_any a n cap sn y w2 (HS.out.below HB2.out))
        clear hy
        rcases idxF_spec y sn 0 with ⟨hf, he⟩ | ⟨i, s, hi, hf, he⟩
        · have HR : Hid (runE p sn = 8) := by show _ = _; unfold runE; rw [if_neg (by rw [HC.out]; simp), if_pos (missB_miss (List.mem_of_getElem? HY.out) hf)]
          rw [he] at HSE
          clear he hf
          go_wp2_with (go_at_call 48; ((with_reducible refine (HSE.out).mono ?_); rintro e w3 ⟨rfl, rfl⟩))
          refine bodyPost_ret (results_tmp2 rfl _ _ _) rfl ?_
          exact RunPost.err HR.out (by decide) HB2.out
        · rw [he] at HSE
          have hin : decide (((0 + i : Nat) : Int) < 0) = false := by simp
          have HMJ : Hid (missB sn ((readsP p).take (j + 1)) = false) := by show _ = _; rw [take_snoc HY.out, missB_snoc, HMI.out, hf]; rfl
          simp only [Nat.zero_add] at HSE hin
          clear he hf hi
          go_wp2_with (go_at_call 48; ((with_reducible refine (HSE.out).mono ?_); rintro e w3 ⟨rfl, rfl⟩))
          go_roundw
          case rel => exact ⟨j + 1, by omega, by go_num, HMJ.out, trivial⟩
          case measure => simp [intOf]; omega
      · obtain rfl : nk = j := by omega
        have HMS : Hid (missB sn (readsP p) = false) := by
          have h := HMI.out
          rwa [List.take_of_length_le (by have := HNK.out; omega)] at h
        have HSB : Hid (∀ (k : Nat) (y : List UInt8), (readsP p)[k]? = some y → ∃ i s, sn[i]? = some s ∧ sn.find? (fun s => s.key == y) = some s ∧ idxF y sn 0 = ((i : Nat) : Int)) := fun k y hy => hold_idx (missB_no HMS.out (List.mem_of_getElem? hy))
        go_wp2_with fail
        go_loopw [9] (fun i wr => ∃ j : Nat, j ≤ nk ∧ i = .int .i64 (j : Nat) ∧ Hid (badB sn ((readsP p).take j) = false) ∧ Hid (Below w.heap.size w wr) ∧ Hid (Below w2.heap.size w2 wr)) (fun i _ => nk - (intOf i).toNat)
        case atStart => exact ⟨0, Nat.zero_le _, rfl, rfl, HB2.out, Below.refl _ _⟩
        case round =>
          obtain ⟨j, hj, rfl, HBD, HBW, HBV⟩ := hrel
          by_cases hlt : j < nk
          · obtain ⟨y, hy⟩ : ∃ y, (readsP p)[j]? = some y := ⟨_, List.getElem?_eq_getElem (by have := HNK.out; omega)⟩
            obtain ⟨bk, offk, rfl, ck0⟩ := (HRK.out.below HBV.out).at hy
            have HY := Lib.hid hy
            obtain ⟨i1, s, hi1, hf1, he1⟩ := HSB.out j y hy
            have HSE := Lib.hid (seenAt_any a n cap sn y wr (HS.out.below HBW.out))
            rw [he1] at HSE
            obtain ⟨bq, offq, rfl, q0, q1, q2, q3, _, _, _⟩ := (HS.out.below HBW.out).rd.at7 hi1
            have hi1l : i1 < n := by have := HM.out; have := (List.getElem?_eq_some_iff.1 hi1).1; omega
            have HSV := Lib.hid (seenV_of hf1)
            have HMY := Lib.hid (cmayR s.v.k s.v.x s.v.s)
            clear hy hi1 hf1 he1 q0
            cases hm : mayB s.v.k s.v.x s.v.s with
            | false =>
              rw [hm] at HMY
              have HR : Hid (runE p sn = 4) := by
                show _ = _
                unfold runE
                rw [if_neg (by rw [HC.out]; simp), HMS.out, badB_of (List.mem_of_getElem? HY.out) (by rw [HSV.out]; exact hm)]; rfl
              clear hm
              go_wp2_with (first | (go_at_call 48; ((with_reducible refine (HSE.out).mono ?_); rintro e w3 ⟨rfl, rfl⟩)) | (go_at_call 33; ((with_reducible refine (HMY.out _).mono ?_); rintro e w4 ⟨rfl, hb4⟩)))
              refine bodyPost_ret (results_tmp2 rfl _ _ _) rfl ?_
              exact RunPost.err HR.out (by decide) (HBW.out.trans (hb4.mono HBW.out.size))
            | true =>
              rw [hm] at HMY
              have HMJ : Hid (badB sn ((readsP p).take (j + 1)) = false) := by show _ = _; rw [take_snoc HY.out, badB_snoc, HBD.out, HSV.out]; show (false || !(mayB s.v.k s.v.x s.v.s)) = false; rw [hm]; rfl
              clear hm
              go_wp2_with (first | (go_at_call 48; ((with_reducible refine (HSE.out).mono ?_); rintro e w3 ⟨rfl, rfl⟩)) | (go_at_call 33; ((with_reducible refine (HMY.out _).mono ?_); rintro e w4 ⟨rfl, hb4⟩; have HB4 := Lib.hid hb4; clear hb4)))
              go_roundw
              case rel => exact ⟨j + 1, by omega, by go_num, HMJ.out, HBW.out.trans (HB4.out.mono HBW.out.size), HBV.out.trans (HB4.out.mono HBV.out.size)⟩
              case measure => simp [intOf]; omega
          · obtain rfl : nk = j := by omega
            have HBS : Hid (badB sn (readsP p) = false) := by
              have h := HBD.out
              rwa [List.take_of_length_le (by have := HNK.out; omega)] at h
            exact absurd HNO.out (by rw [HC.out, HMS.out, HBS.out]; simp)
  · have hre : runE p sn = checkP p := by unfold runE; rw [if_pos hc]
    have hcb : (checkP p == 0) = false := by simpa using hc
    have HRE := Lib.hid hre
    have HC0 := Lib.hid hc
    generalize checkP p = x at hcb HRE HC0 HCH
    clear hre hc
    go_enter Tryz.func25, Tryz.ntmps25
    go_wp2_with fail
    go_at_call 17
    refine (HCH.out w HP.out).mono ?_
    rintro e w1 ⟨rfl, hb1⟩
    go_wp2_with fail
    refine bodyPost_ret (results_tmp2 rfl _ _ _) rfl ?_
    exact RunPost.err HRE.out HC0.out hb1
set_option maxHeartbeats 16000000 in
def run9_parts (ap : Option Addr) (np cp : Nat) (p : List OpP) (a : Option Addr) (n cap : Nat) (sn : List SnP) (w : World) : {P : Option Addr → Nat → Nat → Value → Value → Value → Value → Value → Value → Value → Value → Value → Value → Value → Value → Value → Value → Value → Value → Value → Value → Value → Value → Value → Value → Value → (Act → World → Prop) → World → Value → Value → Value → Value → Value → Value → Value → Value → Value → Value → Value → Value → Value → Value → Value → Value → Value → Value → Value → Value → Value → Value → Value → Value → Value → Value → Value → Value → Value → Value → Value → Value → Value → Value → Value → Value → Value → Value → Value → Value → Value → Value → Value → Value → Value → Value → Value → Value → Value → Value → Value → Value → Value → Value → Value → Value → Value → Value → Value → Value → Value → Value → Value → Value → Value → Value → Value → Value → Value → Value → Value → Value → Value → Value → Value → Value → Value → Value → Value → Value → Value → Value → Value → Value → Value → Value → Value → Value → Value → Value → Value → Value → Value → Value → Value → Value → Value → Value → Value → Value → Value → Value → Value → Value → Value → Value → Value → Value → Value → Value → Value → Value → Value → Value → Value → Value → Value → Value → Value → Value → Value → Value → Value → Value → Value → Value → Value → Value → Value → Value → Value → Value → Value → Value → Value → Value → Value → Value → Value → Value → Value → Value → Value → Value → Value → Value → Value → Value → Value → Value → Value → Value → Value → Value → Value → Value → Value → Value → Value → Value → Value → Value → Value → Value → Value → Value → Value → Value → Nat → Prop // RdO w ap np cp p → RdS w a n cap sn → np ≤ 1000 → checkP p = 0 → missB sn (readsP p) = false → badB sn (readsP p) = false → (∀ (ak : Option Addr) (ck nk : Nat) (u30 u31 u32 u33 u34 u35 u36 u37 u38 u43 u44 u45 u46 u47 u48 u49 u50 u51 u52 u53 u54 u55 u56 : Value) (K : Act → World → Prop) (wr : World) (u4 u5 u10 u11 u13 u14 u15 u16 u17 u18 u57 u58 u59 u60 u61 u62 u63 u64 u65 u66 u67 u68 u69 u70 u71 u72 u73 u74 u75 u76 u77 u78 u79 u80 u81 u82 u83 u84 u85 u86 u87 u88 u89 u90 u91 u92 u93 u94 u95 u96 u97 u98 u99 u100 u101 u102 u103 u104 u105 u106 u107 u108 u109 u110 u111 u112 u113 u114 u115 u116 u117 u118 u119 u120 u121 u122 u123 u124 u125 u126 u127 u128 u129 u130 u131 u132 u133 u134 u135 u136 u137 u138 u139 u140 u141 u142 u143 u144 u145 u146 u147 u148 u149 u150 u151 u152 u153 u154 u155 u156 u157 u158 u159 u160 u161 u162 u163 u164 u165 u166 u167 u168 u169 u170 u171 u172 u173 u174 u175 u176 u177 u178 u179 u180 u181 u182 u183 u184 u185 u186 u187 u188 u189 u190 u191 u192 u193 u194 u195 u196 u197 u198 u199 u200 u201 u202 u203 u204 u205 u206 u207 u208 u209 u210 u211 u212 u213 u214 : Value) (k : Nat) (st : List Vl) (wl : List (List UInt8 × Vl)), np ≤ 1000 → Hid (RdO w ap np cp p) → Hid (RdS w a n cap sn) → Hid (np = p.length) → Hid (n = sn.length) → Hid (p.length ≤ 40 ∧ chkGo p 0 = 0) → Hid (missB sn (readsP p) = false) → Hid (runE p sn = (runGo sn p ⟨[], []⟩).2) → k < np → Hid (RunAt p sn k ⟨st, wl⟩) → Hid (S9 w.heap.size ⟨st, wl⟩ u10 u11 w wr) → P ak ck nk u30 u31 u32 u33 u34 u35 u36 u37 u38 u43 u44 u45 u46 u47 u48 u49 u50 u51 u52 u53 u54 u55 u56 K wr u4 u5 u10 u11 u13 u14 u15 u16 u17 u18 u57 u58 u59 u60 u61 u62 u63 u64 u65 u66 u67 u68 u69 u70 u71 u72 u73 u74 u75 u76 u77 u78 u79 u80 u81 u82 u83 u84 u85 u86 u87 u88 u89 u90 u91 u92 u93 u94 u95 u96 u97 u98 u99 u100 u101 u102 u103 u104 u105 u106 u107 u108 u109 u110 u111 u112 u113 u114 u115 u116 u117 u118 u119 u120 u121 u122 u123 u124 u125 u126 u127 u128 u129 u130 u131 u132 u133 u134 u135 u136 u137 u138 u139 u140 u141 u142 u143 u144 u145 u146 u147 u148 u149 u150 u151 u152 u153 u154 u155 u156 u157 u158 u159 u160 u161 u162 u163 u164 u165 u166 u167 u168 u169 u170 u171 u172 u173 u174 u175 u176 u177 u178 u179 u180 u181 u182 u183 u184 u185 u186 u187 u188 u189 u190 u191 u192 u193 u194 u195 u196 u197 u198 u199 u200 u201 u202 u203 u204 u205 u206 u207 u208 u209 u210 u211 u212 u213 u214 k) → Calls Tryz.prog 25 #[.slice ap np cp, .slice a n cap] w (RunPost w p sn)} := by
  apply Subtype.mk
  case property =>
    intro hP hS hnp hc hmb hbb hall
    have HALL := Lib.hid hall
    clear hall
    have HP := Lib.hid hP
    have HS := Lib.hid hS
    have HCH : Hid (∀ W, RdO W ap np cp p → Calls Tryz.prog 17 #[.slice ap np cp] W (IntPost W (checkP p))) := fun W h => check9_any ap np cp p W h hnp
    have HRD : Hid (∀ W, RdO W ap np cp p → Calls Tryz.prog 19 #[.slice ap np cp] W (KeysPost W (readsP p))) := fun W h => reads9_any ap np cp p W h hnp
    have HN := Lib.hid hP.rd.1
    have HM := Lib.hid hS.rd.1
    clear hP hS
    have HCK := Lib.hid (chk_of hc)
    have HC := Lib.hid hc
    rw [hc] at HCH
    clear hc
    go_enter Tryz.func25, Tryz.ntmps25
    go_wp2_with fail
    go_at_call 17
    refine (HCH.out w HP.out).mono ?_
    rintro e w1 ⟨rfl, hb1⟩
    have HB1 := Lib.hid hb1
    clear hb1
    go_wp2_with fail
    go_at_call 19
    refine (HRD.out _ (HP.out.below HB1.out)).mono ?_
    rintro e w2 ⟨v, rfl, ho, hb2⟩
    obtain ⟨ak, ck, rfl, hrk⟩ := OwnK.rd ho
    have HB2 := Lib.hid (HB1.out.trans (hb2.mono HB1.out.size))
    have HRK := Lib.hid hrk
    clear ho hrk hb2
    obtain ⟨nk, hnk⟩ : ∃ nk, (readsP p).length = nk := ⟨_, rfl⟩
    rw [hnk] at HRK
    have HNK := Lib.hid hnk
    have hnk1 : nk ≤ 1000 := by rw [← hnk]; exact Nat.le_trans (namedP_length 1 1 p) (by have := HN.out; omega)
    rw [hnk]
    clear hnk
    go_wp2_with fail
    have HMS := Lib.hid hmb
    have HBS := Lib.hid hbb
    clear hmb hbb
    have HSB : Hid (∀ (k : Nat) (y : List UInt8), (readsP p)[k]? = some y → ∃ i s, sn[i]? = some s ∧ sn.find? (fun s => s.key == y) = some s ∧ idxF y sn 0 = ((i : Nat) : Int)) := fun k y hy => hold_idx (missB_no HMS.out (List.mem_of_getElem? hy))
    go_loopw [8] (fun i wr => ∃ j : Nat, j ≤ nk ∧ i = .int .i64 (j : Nat) ∧ wr = w2) (fun i _ => nk - (intOf i).toNat)
    case atStart => exact ⟨0, Nat.zero_le _, rfl, rfl⟩
    case round =>
      obtain ⟨j, hj, rfl, hw2⟩ := hrel
      have hw2' := hw2.symm
      subst hw2'
      by_cases hlt : j < nk
      · obtain ⟨y, hy⟩ : ∃ y, (readsP p)[j]? = some y := ⟨_, List.getElem?_eq_getElem (by have := HNK.out; omega)⟩
        obtain ⟨bk, offk, rfl, ck0⟩ := HRK.out.at hy
        have HSE := Lib.hid (seenAt_any a n cap sn y w2 (HS.out.below HB2.out))
        obtain ⟨i, s, _, _, he⟩ := HSB.out j y hy
        rw [he] at HSE
        have hin : decide ((i : Int) < 0) = false := by simp
        clear he hy
        go_wp2_with (go_at_call 48; ((with_reducible refine (HSE.out).mono ?_); rintro e w3 ⟨rfl, rfl⟩))
        go_roundw
        case rel => exact ⟨j + 1, by omega, by go_num, trivial⟩
        case measure => simp [intOf]; omega
      · obtain rfl : nk = j := by omega
        go_wp2_with fail
        go_loopw [9] (fun i wr => ∃ j : Nat, j ≤ nk ∧ i = .int .i64 (j : Nat) ∧ Hid (Below w.heap.size w wr) ∧ Hid (Below w2.heap.size w2 wr)) (fun i _ => nk - (intOf i).toNat)
        case atStart => exact ⟨0, Nat.zero_le _, rfl, HB2.out, Below.refl _ _⟩
        case round =>
          obtain ⟨j, hj, rfl, HBW, HBV⟩ := hrel
          by_cases hlt : j < nk
          · obtain ⟨y, hy⟩ : ∃ y, (readsP p)[j]? = some y := ⟨_, List.getElem?_eq_getElem (by have := HNK.out; omega)⟩
            obtain ⟨bk, offk, rfl, ck0⟩ := (HRK.out.below HBV.out).at hy
            obtain ⟨i1, s, hi1, hf1, he1⟩ := HSB.out j y hy
            have HSE := Lib.hid (seenAt_any a n cap sn y wr (HS.out.below HBW.out))
            rw [he1] at HSE
            obtain ⟨bq, offq, rfl, q0, q1, q2, q3, _, _, _⟩ := (HS.out.below HBW.out).rd.at7 hi1
            have hi1l : i1 < n := by have := HM.out; have := (List.getElem?_eq_some_iff.1 hi1).1; omega
            have HMY := Lib.hid (cmayR s.v.k s.v.x s.v.s)
            have hm : mayB s.v.k s.v.x s.v.s = true := by
              cases hm : mayB s.v.k s.v.x s.v.s with
              | true => rfl
              | false =>
                have h9 := badB_of (List.mem_of_getElem? hy) (by rw [seenV_of hf1]; exact hm)
                rw [HBS.out] at h9; cases h9
            rw [hm] at HMY
            clear hy hi1 hf1 he1 q0 hm
            go_wp2_with (first | (go_at_call 48; ((with_reducible refine (HSE.out).mono ?_); rintro e w3 ⟨rfl, rfl⟩)) | (go_at_call 33; ((with_reducible refine (HMY.out _).mono ?_); rintro e w4 ⟨rfl, hb4⟩; have HB4 := Lib.hid hb4; clear hb4)))
            go_roundw
            case rel => exact ⟨j + 1, by omega, by go_num, HBW.out.trans (HB4.out.mono HBW.out.size), HBV.out.trans (HB4.out.mono HBV.out.size)⟩
            case measure => simp [intOf]; omega
          · obtain rfl : nk = j := by omega
            have HRE : Hid (runE p sn = (runGo sn p ⟨[], []⟩).2) := (Starts.mk HC.out HMS.out HBS.out).e
            have HRW9 : Hid (runW p sn = if (runGo sn p ⟨[], []⟩).2 ≠ 0 then [] else (runGo sn p ⟨[], []⟩).1.wr) := (Starts.mk HC.out HMS.out HBS.out).w
            have HS0 : Hid (S9 w.heap.size ⟨[], []⟩ (.slice none 0 0) (.slice none 0 0) w wr) := ⟨OwnVl.nil _ _, OwnW.nil _ _, SrtG.nil, HBW.out, HBW.out.size⟩
            go_wp2_with fail
            go_loopw [10, 11, 12, 13, 14, 15, 16, 17, 18] (fun vo vs i _ _ _ _ _ _ wr => ∃ (k : Nat) (r : RS), k ≤ np ∧ i = .int .i64 (k : Nat) ∧ Hid (RunAt p sn k r) ∧ Hid (S9 w.heap.size r vo vs w wr)) (fun _ _ i _ _ _ _ _ _ _ => np - (intOf i).toNat)
            case atStart => exact ⟨0, ⟨[], []⟩, Nat.zero_le _, rfl, RunAt.start HCK.out.2, HS0.out⟩
            case round =>
              clear HS0
              obtain ⟨k, ⟨st, wl⟩, hk, rfl, HA, HSN⟩ := hrel
              by_cases hlt2 : k < np
              case neg =>
                obtain rfl : k = np := by omega
                have HGO : Hid (runGo sn p ⟨[], []⟩ = (⟨st, wl⟩, 0)) := HA.out.last (by have := HN.out; omega)
                obtain ⟨av, cv, hvo, _⟩ := HSN.out.wr
                dsimp only at hvo
                subst hvo
                have HFIN : Hid (RunPost w p sn (.returned (.tuple #[.slice av wl.length cv, .int .i64 0])) wr) := by
                  refine ⟨_, by rw [HRE.out, HGO.out], ?_, HSN.out.bl⟩
                  rw [HRW9.out, HGO.out]
                  exact HSN.out.out
                go_wp2_with fail
                refine bodyPost_ret (results_tmp2 rfl _ _ _) rfl ?_
                exact HFIN.out
              case pos =>
              rename_i K aK
              exact HALL.out ak ck nk u30 u31 u32 u33 u34 u35 u36 u37 u38 u43 u44 u45 u46 u47 u48 u49 u50 u51 u52 u53 u54 u55 u56 K wr u4 u5 u10 u11 u13 u14 u15 u16 u17 u18 u57 u58 u59 u60 u61 u62 u63 u64 u65 u66 u67 u68 u69 u70 u71 u72 u73 u74 u75 u76 u77 u78 u79 u80 u81 u82 u83 u84 u85 u86 u87 u88 u89 u90 u91 u92 u93 u94 u95 u96 u97 u98 u99 u100 u101 u102 u103 u104 u105 u106 u107 u108 u109 u110 u111 u112 u113 u114 u115 u116 u117 u118 u119 u120 u121 u122 u123 u124 u125 u126 u127 u128 u129 u130 u131 u132 u133 u134 u135 u136 u137 u138 u139 u140 u141 u142 u143 u144 u145 u146 u147 u148 u149 u150 u151 u152 u153 u154 u155 u156 u157 u158 u159 u160 u161 u162 u163 u164 u165 u166 u167 u168 u169 u170 u171 u172 u173 u174 u175 u176 u177 u178 u179 u180 u181 u182 u183 u184 u185 u186 u187 u188 u189 u190 u191 u192 u193 u194 u195 u196 u197 u198 u199 u200 u201 u202 u203 u204 u205 u206 u207 u208 u209 u210 u211 u212 u213 u214 k st wl hnp HP HS HN HM HCK HMS HRE hlt2 HA HSN
section
variable {ap : Option Addr} {np cp : Nat} {p : List OpP} {a : Option Addr} {n cap : Nat} {sn : List SnP} {w : World} {ak : Option Addr} {ck nk : Nat} {u30 u31 u32 u33 u34 u35 u36 u37 u38 u43 u44 u45 u46 u47 u48 u49 u50 u51 u52 u53 u54 u55 u56 : Value} {K : Act → World → Prop} {wr : World} {u4 u5 u10 u11 u13 u14 u15 u16 u17 u18 u57 u58 u59 u60 u61 u62 u63 u64 u65 u66 u67 u68 u69 u70 u71 u72 u73 u74 u75 u76 u77 u78 u79 u80 u81 u82 u83 u84 u85 u86 u87 u88 u89 u90 u91 u92 u93 u94 u95 u96 u97 u98 u99 u100 u101 u102 u103 u104 u105 u106 u107 u108 u109 u110 u111 u112 u113 u114 u115 u116 u117 u118 u119 u120 u121 u122 u123 u124 u125 u126 u127 u128 u129 u130 u131 u132 u133 u134 u135 u136 u137 u138 u139 u140 u141 u142 u143 u144 u145 u146 u147 u148 u149 u150 u151 u152 u153 u154 u155 u156 u157 u158 u159 u160 u161 u162 u163 u164 u165 u166 u167 u168 u169 u170 u171 u172 u173 u174 u175 u176 u177 u178 u179 u180 u181 u182 u183 u184 u185 u186 u187 u188 u189 u190 u191 u192 u193 u194 u195 u196 u197 u198 u199 u200 u201 u202 u203 u204 u205 u206 u207 u208 u209 u210 u211 u212 u213 u214 : Value} {k : Nat} {st : List Vl} {wl : List (List UInt8 × Vl)} {o : OpP}
set_option maxHeartbeats 16000000 in
theorem run9_c1 (hnp : np ≤ 1000) (HP : Hid (RdO w ap np cp p)) (HS : Hid (RdS w a n cap sn)) (HN : Hid (np = p.length)) (HM : Hid (n = sn.length)) (HCK : Hid (p.length ≤ 40 ∧ chkGo p 0 = 0)) (HMS : Hid (missB sn (readsP p) = false)) (hlt2 : k < np) (HA : Hid (RunAt p sn k ⟨st, wl⟩)) (HSN : Hid (S9 w.heap.size ⟨st, wl⟩ u10 u11 w wr)) (ho : p[k]? = some o) (hc : o.c = 1) : (run9_parts ap np cp p a n cap sn w).1 ak ck nk u30 u31 u32 u33 u34 u35 u36 u37 u38 u43 u44 u45 u46 u47 u48 u49 u50 u51 u52 u53 u54 u55 u56 K wr u4 u5 u10 u11 u13 u14 u15 u16 u17 u18 u57 u58 u59 u60 u61 u62 u63 u64 u65 u66 u67 u68 u69 u70 u71 u72 u73 u74 u75 u76 u77 u78 u79 u80 u81 u82 u83 u84 u85 u86 u87 u88 u89 u90 u91 u92 u93 u94 u95 u96 u97 u98 u99 u100 u101 u102 u103 u104 u105 u106 u107 u108 u109 u110 u111 u112 u113 u114 u115 u116 u117 u118 u119 u120 u121 u122 u123 u124 u125 u126 u127 u128 u129 u130 u131 u132 u133 u134 u135 u136 u137 u138 u139 u140 u141 u142 u143 u144 u145 u146 u147 u148 u149 u150 u151 u152 u153 u154 u155 u156 u157 u158 u159 u160 u161 u162 u163 u164 u165 u166 u167 u168 u169 u170 u171 u172 u173 u174 u175 u176 u177 u178 u179 u180 u181 u182 u183 u184 u185 u186 u187 u188 u189 u190 u191 u192 u193 u194 u195 u196 u197 u198 u199 u200 u201 u202 u203 u204 u205 u206 u207 u208 u209 u210 u211 u212 u213 u214 k := by
  delta run9_parts
  dsimp only
  obtain ⟨b, off, rfl, c0, c1, c2, c3, c4⟩ := (HP.out.below HSN.out.bl).at ho
  obtain ⟨n1, n2, n3, n4, n5⟩ := HA.out.next ho
  have hhi := HA.out.hi
  have hwl : wl.length ≤ 1000 := Nat.le_trans HA.out.wr (by have := HCK.out.1; have := HN.out; omega)
  dsimp only at n2 hhi
  clear n1
  obtain ⟨asl, cs, hvs, _⟩ := Rd.of_own HSN.out.st
  rw [List.length_reverse] at hvs
  dsimp only at hvs
  subst hvs
  rw [hc] at c0
  obtain ⟨i1, s, hi1, hf1, he1⟩ := hold_idx (missB_no HMS.out (n3 hc))
  have n4' := n4 (by rw [stp1 hc])
  rw [stp1 hc] at n4'
  have HA2 := Lib.hid n4'
  clear n4' n4 n5 n3
  have HSE1 : Hid (∀ W, RdS W a n cap sn → Calls Tryz.prog 48 #[.slice a n cap, .string (bs o.key)] W fun e w' => e = .returned (.int .i64 ((i1 : Nat) : Int)) ∧ w' = W) := fun W h => by rw [← he1]; exact seenAt_any a n cap sn o.key W h
  have HGV : Hid (getV sn ⟨st, wl⟩ o.key = (getG o.key wl).getD s.v) := by show _ = _; unfold getV; rw [seenV_of hf1]
  have hi1l : i1 < n := by have := HM.out; have := (List.getElem?_eq_some_iff.1 hi1).1; omega
  have hba : Below wr.heap.size wr (wr.alloc (.cells #[.int .i64 1, .string (bs o.key), .int .i64 o.v.k, .float .f64 (fb o.v.x), .string (bs o.v.s)] 59)) := (Below.refl _ _).alloc (Nat.le_refl _) _
  have hrow := heap_alloc_new wr (.cells #[.int .i64 1, .string (bs o.key), .int .i64 o.v.k, .float .f64 (fb o.v.x), .string (bs o.v.s)] 59)
  obtain ⟨X, hX⟩ : ∃ X, wr.alloc (.cells #[.int .i64 1, .string (bs o.key), .int .i64 o.v.k, .float .f64 (fb o.v.x), .string (bs o.v.s)] 59) = X := ⟨_, rfl⟩
  rw [hX] at hba hrow
  obtain ⟨pb, hpb⟩ : ∃ pb, wr.heap.size = pb := ⟨_, rfl⟩
  rw [hpb] at hrow
  have HRX : Hid (∀ W, Below X.heap.size X W → W.cell? ⟨pb, 0, none⟩ = some (.int .i64 1) ∧ W.cell? ⟨pb, 1, none⟩ = some (.string (bs o.key)) ∧ W.cell? ⟨pb, 2, none⟩ = some (.int .i64 o.v.k) ∧ W.cell? ⟨pb, 3, none⟩ = some (.float .f64 (fb o.v.x)) ∧ W.cell? ⟨pb, 4, none⟩ = some (.string (bs o.v.s))) := fun W hW => by
    have hr := (hW.block pb (Array.getElem?_eq_some_iff.1 hrow).1).trans hrow
    exact ⟨cell_of_row _ _ 0 _ _ _ hr, cell_of_row _ _ 1 _ _ _ hr, cell_of_row _ _ 2 _ _ _ hr, cell_of_row _ _ 3 _ _ _ hr, cell_of_row _ _ 4 _ _ _ hr⟩
  obtain ⟨x0, x1, x2, x3, x4⟩ := HRX.out X (Below.refl _ _)
  have HX9 := Lib.hid (HSN.out.below hba)
  have HBX := Lib.hid hba
  clear hba hrow
  obtain ⟨av, cv, hvo, hrw⟩ := HX9.out.wr
  dsimp only at hvo hrw
  subst hvo
  have HRW := Lib.hid hrw
  have HSR : Hid (SrtG wl) := HX9.out.srt
  have HWL : Hid (wl.length ≤ 1000) := hwl
  clear hrw
  have HSX : Hid (RdS X a n cap sn) := HS.out.below HX9.out.bl
  obtain ⟨bq, offq, rfl, q0, q1, q2, q3, _, _, _⟩ := HSX.out.rd.at7 hi1
  have hrow2 := heap_alloc_new X (.cells #[.int .i64 s.v.k, .float .f64 (fb s.v.x), .string (bs s.v.s)] 48)
  have HV0 : Hid (V4 X s.v (X.alloc (.cells #[.int .i64 s.v.k, .float .f64 (fb s.v.x), .string (bs s.v.s)] 48))) := ⟨hrow2, (Below.refl _ _).alloc (Nat.le_refl _) _⟩
  clear hrow2 hi1 hf1 he1 q0 ho
  go_wp2_with (go_at_call 48; ((with_reducible refine (HSE1.out _ HSX.out).mono ?_); rintro e w3 ⟨rfl, rfl⟩))
  clear q1 q2 q3 x0 x1 x2 x3 x4
  go_loopw [16] (fun kk WZ => ∃ (j : Nat) (v : Vl), j ≤ wl.length ∧ kk = .int .i64 (j : Nat) ∧ Hid (v = (getG o.key (wl.take j)).getD s.v) ∧ Hid (V4 w3 v WZ)) (fun kk _ => wl.length - (intOf kk).toNat)
  case atStart => exact ⟨0, s.v, Nat.zero_le _, rfl, rfl, HV0.out⟩
  case round =>
    clear HV0
    obtain ⟨j, v, hj, rfl, HVV, HV⟩ := hrel
    have HBV := Lib.hid HV.out.2
    by_cases hlt3 : j < wl.length
    · obtain ⟨q, hq⟩ : ∃ q, wl[j]? = some q := ⟨_, List.getElem?_eq_getElem hlt3⟩
      obtain ⟨bo, oo, rfl, z0, z1, z2, z3⟩ := (HRW.out.below HBV.out).at4 hq
      obtain ⟨y0, y1, y2, y3, y4⟩ := HRX.out wr HBV.out
      have HVN := Lib.hid (getG_snoc HSR.out hq o.key s.v)
      clear hq y0 y2 y3 y4
      have hjl : j ≤ 1000 := by have := HWL.out; omega
      cases he : (q.1 == o.key) with
      | false =>
        have HV2 : Hid (v = (getG o.key (wl.take (j + 1))).getD s.v) := by show _ = _; rw [HVN.out, he]; exact HVV.out
        go_wp2_with fail
        go_quiet (fail)
        go_wp2_with fail
        go_roundw
        case rel => exact ⟨j + 1, v, by omega, by go_num, HV2.out, HV.out.1, HBV.out.trans ⟨rfl, rfl, rfl, Nat.le_refl _, fun _ _ => rfl⟩⟩
        case measure => simp [intOf]; omega
      | true =>
        have HV2 : Hid (q.2 = (getG o.key (wl.take (j + 1))).getD s.v) := by show _ = _; rw [HVN.out, he]; rfl
        clear y1
        go_wp2_with fail
        have y1 := (HRX.out wr HBV.out).2.1
        go_quiet (fail)
        obtain ⟨Wd, hWd⟩ : ∃ Wd, wr.drewN nq = Wd := ⟨_, rfl⟩
        have hE : Wd.heap = wr.heap := by rw [← hWd]; rfl
        have HBD : Hid (Below w3.heap.size w3 Wd) := by rw [← hWd]; exact HBV.out.trans ⟨rfl, rfl, rfl, Nat.le_refl _, fun _ _ => rfl⟩
        have hrd : Wd.heap[w3.heap.size]? = some (.cells #[.int .i64 v.k, .float .f64 (fb v.x), .string (bs v.s)] 48 (0, 0)) := by rw [hE]; exact HV.out.1
        have z1 := (World.cell?_of_block (w' := Wd) (w := wr) (a := ⟨bo, oo + j * 4 + 1, none⟩) (by rw [hE])).trans z1
        have z2 := (World.cell?_of_block (w' := Wd) (w := wr) (a := ⟨bo, oo + j * 4 + 2, none⟩) (by rw [hE])).trans z2
        have z3 := (World.cell?_of_block (w' := Wd) (w := wr) (a := ⟨bo, oo + j * 4 + 3, none⟩) (by rw [hE])).trans z3
        obtain ⟨u0, u1, u2, p0, p1, p2, p3, p4, p5⟩ := st3 (there_row hrd rfl) (.int .i64 q.2.k) (.float .f64 (fb q.2.x))
        have HR2 : Hid (V4 w3 q.2 (((Wd.setCell ⟨w3.heap.size, 0, none⟩ (.int .i64 q.2.k)).setCell ⟨w3.heap.size, 1, none⟩ (.float .f64 (fb q.2.x))).setCell ⟨w3.heap.size, 2, none⟩ (.string (bs q.2.s)))) :=
          ⟨row_set (i := 2) (v := .string (bs q.2.s)) (row_set (i := 1) (v := .float .f64 (fb q.2.x)) (row_set (i := 0) (v := .int .i64 q.2.k) hrd rfl) rfl) rfl, ((HBD.out.setCell (p := ⟨w3.heap.size, 0, none⟩) (Nat.le_refl _) _).setCell (p := ⟨w3.heap.size, 1, none⟩) (Nat.le_refl _) _).setCell (p := ⟨w3.heap.size, 2, none⟩) (Nat.le_refl _) _⟩
        rw [hWd]
        clear hWd hE hrd
        go_wp2_with fail
        go_roundw
        case rel => exact ⟨j + 1, q.2, by omega, by go_num, HV2.out, HR2.out⟩
        case measure => simp [intOf]; omega
    · obtain rfl : j = wl.length := by omega
      have hv : getV sn ⟨st, wl⟩ o.key = v := by rw [HGV.out, HVV.out, List.take_length]
      have h2 := HA2.out
      rw [hv] at h2
      have HA2 := Lib.hid h2
      have p0 := cell_of_row wr w3.heap.size 0 _ _ _ HV.out.1
      have p1 := cell_of_row wr w3.heap.size 1 _ _ _ HV.out.1
      have p2 := cell_of_row wr w3.heap.size 2 _ _ _ HV.out.1
      simp only [List.getElem?_toArray, List.getElem?_cons_zero, List.getElem?_cons_succ] at p0 p1 p2
      clear hv h2
      have HSA := Lib.hid ((HX9.out.below HBV.out).below ((Below.refl _ wr).alloc (Nat.le_refl _) (.cells #[.int .i64 v.k, .float .f64 (fb v.x), .string (bs v.s)] 48)))
      have HOA : Hid (World.ownsRow (wr.alloc (.cells #[.int .i64 v.k, .float .f64 (fb v.x), .string (bs v.s)] 48)) w.heap.size 48 3 (.slice asl st.length cs) st.length (flatE vlCells st.reverse)) := by
        have := HSA.out.st
        unfold OwnVl at this
        show World.ownsRow _ _ _ _ _ _ _
        simpa using this
      have HLA : Hid (Rd (wr.alloc (.cells #[.int .i64 v.k, .float .f64 (fb v.x), .string (bs v.s)] 48)) (some ⟨wr.heap.size, 0, none⟩) 1 1 3 (vlCells v)) := (Rd.lone wr #[.int .i64 v.k, .float .f64 (fb v.x), .string (bs v.s)] 3 rfl 48)
      have HSZ : Hid (w.heap.size ≤ ((wr.alloc (.cells #[.int .i64 v.k, .float .f64 (fb v.x), .string (bs v.s)] 48))).heap.size) := Lib.hid HSA.out.sz
      go_wp2_with (at_builtin; refine wpList_app SVl rfl (.tmp 126) (.tmp 128) rfl w.heap.size rfl HOA.out rfl HLA.out (by simp [vlCells, Value.oneCell']) (by omega) (by unfold maxLen; omega) HSZ.out ?_)
      intro v5 w5 hown5 hb5 hg5
      have hs5 := HSA.out.push v (v5 := v5) (W' := w5) (by simpa using hown5) hg5
      have HS5 := Lib.hid hs5
      clear hown5 hb5 hg5 hs5
      go_wp2_with fail
      go_roundw
      case rel => exact ⟨k + 1, _, by omega, by go_num, HA2.out, HS5.out⟩
      case measure => simp [intOf]; omega
set_option maxHeartbeats 16000000 in
theorem run9_c2 (hnp : np ≤ 1000) (HP : Hid (RdO w ap np cp p)) (HN : Hid (np = p.length)) (HCK : Hid (p.length ≤ 40 ∧ chkGo p 0 = 0)) (hlt2 : k < np) (HA : Hid (RunAt p sn k ⟨st, wl⟩)) (HSN : Hid (S9 w.heap.size ⟨st, wl⟩ u10 u11 w wr)) (ho : p[k]? = some o) (hc : o.c = 2) : (run9_parts ap np cp p a n cap sn w).1 ak ck nk u30 u31 u32 u33 u34 u35 u36 u37 u38 u43 u44 u45 u46 u47 u48 u49 u50 u51 u52 u53 u54 u55 u56 K wr u4 u5 u10 u11 u13 u14 u15 u16 u17 u18 u57 u58 u59 u60 u61 u62 u63 u64 u65 u66 u67 u68 u69 u70 u71 u72 u73 u74 u75 u76 u77 u78 u79 u80 u81 u82 u83 u84 u85 u86 u87 u88 u89 u90 u91 u92 u93 u94 u95 u96 u97 u98 u99 u100 u101 u102 u103 u104 u105 u106 u107 u108 u109 u110 u111 u112 u113 u114 u115 u116 u117 u118 u119 u120 u121 u122 u123 u124 u125 u126 u127 u128 u129 u130 u131 u132 u133 u134 u135 u136 u137 u138 u139 u140 u141 u142 u143 u144 u145 u146 u147 u148 u149 u150 u151 u152 u153 u154 u155 u156 u157 u158 u159 u160 u161 u162 u163 u164 u165 u166 u167 u168 u169 u170 u171 u172 u173 u174 u175 u176 u177 u178 u179 u180 u181 u182 u183 u184 u185 u186 u187 u188 u189 u190 u191 u192 u193 u194 u195 u196 u197 u198 u199 u200 u201 u202 u203 u204 u205 u206 u207 u208 u209 u210 u211 u212 u213 u214 k := by
  delta run9_parts
  dsimp only
  obtain ⟨b, off, rfl, c0, c1, c2, c3, c4⟩ := (HP.out.below HSN.out.bl).at ho
  obtain ⟨n1, n2, n3, n4, n5⟩ := HA.out.next ho
  have hhi := HA.out.hi
  have hwl : wl.length ≤ 1000 := Nat.le_trans HA.out.wr (by have := HCK.out.1; have := HN.out; omega)
  dsimp only at n2 hhi
  clear n1
  rw [hc] at c0
  obtain ⟨b, t, rfl⟩ := st_one (l := st) (by have h := n2; rw [hc, show takeC 2 = 1 by decide] at h; exact h)
  have hhi' : t.length + 1 ≤ 16 := hhi
  have hq0 : (t.length : Int) < (t.length : Int) + 1 := by omega
  have hw0 : IntKind.i64.wrap (t.length : Int) = (t.length : Int) := IntWalk.i64_in _ (by omega)
  have n4' := n4 (by rw [stp2 hc rfl])
  rw [stp2 hc rfl] at n4'
  have HA2 := Lib.hid n4'
  clear n4' n4 n5 n3
  have hba : Below wr.heap.size wr (wr.alloc (.cells #[.int .i64 2, .string (bs o.key), .int .i64 o.v.k, .float .f64 (fb o.v.x), .string (bs o.v.s)] 59)) := (Below.refl _ _).alloc (Nat.le_refl _) _
  have hrow := heap_alloc_new wr (.cells #[.int .i64 2, .string (bs o.key), .int .i64 o.v.k, .float .f64 (fb o.v.x), .string (bs o.v.s)] 59)
  obtain ⟨X, hX⟩ : ∃ X, wr.alloc (.cells #[.int .i64 2, .string (bs o.key), .int .i64 o.v.k, .float .f64 (fb o.v.x), .string (bs o.v.s)] 59) = X := ⟨_, rfl⟩
  rw [hX] at hba hrow
  obtain ⟨pb, hpb⟩ : ∃ pb, wr.heap.size = pb := ⟨_, rfl⟩
  rw [hpb] at hrow
  have HRX : Hid (∀ W, Below X.heap.size X W → W.cell? ⟨pb, 0, none⟩ = some (.int .i64 2) ∧ W.cell? ⟨pb, 1, none⟩ = some (.string (bs o.key)) ∧ W.cell? ⟨pb, 2, none⟩ = some (.int .i64 o.v.k) ∧ W.cell? ⟨pb, 3, none⟩ = some (.float .f64 (fb o.v.x)) ∧ W.cell? ⟨pb, 4, none⟩ = some (.string (bs o.v.s))) := fun W hW => by
    have hr := (hW.block pb (Array.getElem?_eq_some_iff.1 hrow).1).trans hrow
    exact ⟨cell_of_row _ _ 0 _ _ _ hr, cell_of_row _ _ 1 _ _ _ hr, cell_of_row _ _ 2 _ _ _ hr, cell_of_row _ _ 3 _ _ _ hr, cell_of_row _ _ 4 _ _ _ hr⟩
  obtain ⟨x0, x1, x2, x3, x4⟩ := HRX.out X (Below.refl _ _)
  have HX9 := Lib.hid (HSN.out.below hba)
  have HBX := Lib.hid hba
  clear hba hrow
  obtain ⟨g, cap, hvs, hcap, hcm, d0, d1, d2, hT9⟩ := HSN.out.top rfl
  subst hvs
  have HT9 := Lib.hid (hT9.below HBX.out)
  have d0 := keep1 d0 HBX.out
  have d1 := keep1 d1 HBX.out
  have d2 := keep1 d2 HBX.out
  clear hT9 hhi
  obtain ⟨av, cv, hvo, hrw⟩ := HX9.out.wr
  dsimp only at hvo hrw
  subst hvo
  have HRW := Lib.hid hrw
  have HSR : Hid (SrtG wl) := HX9.out.srt
  have HWL : Hid (wl.length ≤ 1000) := hwl
  clear hrw
  have hcut := fun W => run_cutV (g := g) (n := t.length + 1) (k := t.length) (cap := cap) (by omega) hcap W
  clear ho
  go_wp2_with fail
  refine wp_region_ht 9 (fun W => W.cell? ⟨pb, 1, none⟩ = some (.string (bs o.key)) ∧ W.cell? ⟨g, t.length * 3, none⟩ = some (.int .i64 b.k) ∧ W.cell? ⟨g, t.length * 3 + 1, none⟩ = some (.float .f64 (fb b.x)) ∧ W.cell? ⟨g, t.length * 3 + 2, none⟩ = some (.string (bs b.s))) (by kernel_rfl) (by kernel_rfl) ?_ (fun hHeld => ?_)
  · exact ⟨x1, d0, d1, d2⟩
  try simp only [Act.put, List.setIfInBounds_toArray, List.set_cons_zero, List.set_cons_succ]
  refine wpHT_takeD (i := 0) (d := 134) (v := ?_) (by kernel_rfl) rfl rfl (by decide) (by kernel_rfl) (by kernel_rfl) (fun _ _ _ h => h) (Or.inl ⟨by kernel_rfl, ?_⟩) (by assumption) ?_
  rotate_left
  · intro w hSw; (try dsimp only at hSw); go_simp; (try with_reducible rfl)
  try simp only [Act.put, List.setIfInBounds_toArray, List.set_cons_zero, List.set_cons_succ]
  refine wpHT_takeD (i := 1) (d := 135) (v := ?_) (by kernel_rfl) rfl rfl (by decide) (by kernel_rfl) (by kernel_rfl) (fun _ _ _ h => h) (Or.inl ⟨by kernel_rfl, ?_⟩) (by assumption) ?_
  rotate_left
  · intro w hSw; (try dsimp only at hSw); go_simp; (try with_reducible rfl)
  try simp only [Act.put, List.setIfInBounds_toArray, List.set_cons_zero, List.set_cons_succ]
  refine wpHT_takeD (i := 2) (d := 136) (v := ?_) (by kernel_rfl) rfl rfl (by decide) (by kernel_rfl) (by kernel_rfl) (fun _ _ _ h => h) (Or.inl ⟨by kernel_rfl, ?_⟩) (by assumption) ?_
  rotate_left
  · intro w hSw; (try dsimp only at hSw); go_simp; (try with_reducible rfl)
  try simp only [Act.put, List.setIfInBounds_toArray, List.set_cons_zero, List.set_cons_succ]
  refine wpHT_takeD (i := 3) (d := 137) (v := ?_) (by kernel_rfl) rfl rfl (by decide) (by kernel_rfl) (by kernel_rfl) (fun _ _ _ h => h) (Or.inl ⟨by kernel_rfl, ?_⟩) (by assumption) ?_
  rotate_left
  · intro w hSw; (try dsimp only at hSw); go_simp; (try with_reducible rfl)
  try simp only [Act.put, List.setIfInBounds_toArray, List.set_cons_zero, List.set_cons_succ]
  refine wpHT_takeD (i := 4) (d := 138) (v := ?_) (by kernel_rfl) rfl rfl (by decide) (by kernel_rfl) (by kernel_rfl) (fun _ _ _ h => h) (Or.inl ⟨by kernel_rfl, ?_⟩) (by assumption) ?_
  rotate_left
  · intro w hSw; (try dsimp only at hSw); go_simp; (try with_reducible rfl)
  try simp only [Act.put, List.setIfInBounds_toArray, List.set_cons_zero, List.set_cons_succ]
  refine wpHT_takeD (i := 5) (d := 139) (v := ?_) (by kernel_rfl) rfl rfl (by decide) (by kernel_rfl) (by kernel_rfl) (fun _ _ _ h => h) (Or.inl ⟨by kernel_rfl, ?_⟩) (by assumption) ?_
  rotate_left
  · intro w hSw; (try dsimp only at hSw); go_simp; (try with_reducible rfl)
  try simp only [Act.put, List.setIfInBounds_toArray, List.set_cons_zero, List.set_cons_succ]
  refine wpHT_takeD (i := 6) (d := 140) (v := ?_) (by kernel_rfl) rfl rfl (by decide) (by kernel_rfl) (by kernel_rfl) (fun _ _ _ h => h) (Or.inl ⟨by kernel_rfl, ?_⟩) (by assumption) ?_
  rotate_left
  · intro w hSw; (try dsimp only at hSw); go_simp; (try with_reducible rfl)
  try simp only [Act.put, List.setIfInBounds_toArray, List.set_cons_zero, List.set_cons_succ]
  refine wpHT_takeD (i := 7) (d := 141) (v := ?_) (by kernel_rfl) rfl rfl (by decide) (by kernel_rfl) (by kernel_rfl) (fun _ _ _ h => h) (Or.inl ⟨by kernel_rfl, ?_⟩) (by assumption) ?_
  rotate_left
  · intro w hSw; (try dsimp only at hSw); go_simp; (try with_reducible rfl)
  try simp only [Act.put, List.setIfInBounds_toArray, List.set_cons_zero, List.set_cons_succ]
  refine wpHT_takeD (i := 8) (d := 142) (v := ?_) (by kernel_rfl) rfl rfl (by decide) (by kernel_rfl) (by kernel_rfl) (fun _ _ _ h => h) (Or.inl ⟨by kernel_rfl, ?_⟩) (by assumption) ?_
  rotate_left
  · intro w hSw; (try dsimp only at hSw); go_simp; (try with_reducible rfl)
  try simp only [Act.put, List.setIfInBounds_toArray, List.set_cons_zero, List.set_cons_succ]
  refine wpHT_done (by kernel_rfl) ?_
  simp only [List.drop_succ_cons, List.drop_zero]
  clear hHeld
  go_wp2_with (go_at_call 49; refine (put9_any av wl.length cv wl (o.key, b) _ (by exact HRW.out) HSR.out HWL.out).mono ?_; rintro e w5 ⟨v5, rfl, ho5, hb5⟩; have HS5 := Lib.hid (S9.put (HT9.out.below (Below.refl _ _).drew) (o.key, b) ho5 hb5); clear ho5 hb5)
  go_roundw
  case rel => exact ⟨k + 1, _, by omega, by go_num, HA2.out, HS5.out⟩
  case measure => simp [intOf]; omega
set_option maxHeartbeats 16000000 in
theorem run9_c3 (hnp : np ≤ 1000) (HP : Hid (RdO w ap np cp p)) (HN : Hid (np = p.length)) (HCK : Hid (p.length ≤ 40 ∧ chkGo p 0 = 0)) (hlt2 : k < np) (HA : Hid (RunAt p sn k ⟨st, wl⟩)) (HSN : Hid (S9 w.heap.size ⟨st, wl⟩ u10 u11 w wr)) (ho : p[k]? = some o) (hc : o.c = 3) : (run9_parts ap np cp p a n cap sn w).1 ak ck nk u30 u31 u32 u33 u34 u35 u36 u37 u38 u43 u44 u45 u46 u47 u48 u49 u50 u51 u52 u53 u54 u55 u56 K wr u4 u5 u10 u11 u13 u14 u15 u16 u17 u18 u57 u58 u59 u60 u61 u62 u63 u64 u65 u66 u67 u68 u69 u70 u71 u72 u73 u74 u75 u76 u77 u78 u79 u80 u81 u82 u83 u84 u85 u86 u87 u88 u89 u90 u91 u92 u93 u94 u95 u96 u97 u98 u99 u100 u101 u102 u103 u104 u105 u106 u107 u108 u109 u110 u111 u112 u113 u114 u115 u116 u117 u118 u119 u120 u121 u122 u123 u124 u125 u126 u127 u128 u129 u130 u131 u132 u133 u134 u135 u136 u137 u138 u139 u140 u141 u142 u143 u144 u145 u146 u147 u148 u149 u150 u151 u152 u153 u154 u155 u156 u157 u158 u159 u160 u161 u162 u163 u164 u165 u166 u167 u168 u169 u170 u171 u172 u173 u174 u175 u176 u177 u178 u179 u180 u181 u182 u183 u184 u185 u186 u187 u188 u189 u190 u191 u192 u193 u194 u195 u196 u197 u198 u199 u200 u201 u202 u203 u204 u205 u206 u207 u208 u209 u210 u211 u212 u213 u214 k := by
  delta run9_parts
  dsimp only
  obtain ⟨b, off, rfl, c0, c1, c2, c3, c4⟩ := (HP.out.below HSN.out.bl).at ho
  obtain ⟨n1, n2, n3, n4, n5⟩ := HA.out.next ho
  have hhi := HA.out.hi
  have hwl : wl.length ≤ 1000 := Nat.le_trans HA.out.wr (by have := HCK.out.1; have := HN.out; omega)
  dsimp only at n2 hhi
  clear n1
  obtain ⟨asl, cs, hvs, _⟩ := Rd.of_own HSN.out.st
  rw [List.length_reverse] at hvs
  dsimp only at hvs
  subst hvs
  rw [hc] at c0
  have n4' := n4 (by rw [stp3 hc])
  rw [stp3 hc] at n4'
  have HA2 := Lib.hid n4'
  clear n4' n4 n5 n3
  have hba : Below wr.heap.size wr (wr.alloc (.cells #[.int .i64 3, .string (bs o.key), .int .i64 o.v.k, .float .f64 (fb o.v.x), .string (bs o.v.s)] 59)) := (Below.refl _ _).alloc (Nat.le_refl _) _
  have hrow := heap_alloc_new wr (.cells #[.int .i64 3, .string (bs o.key), .int .i64 o.v.k, .float .f64 (fb o.v.x), .string (bs o.v.s)] 59)
  obtain ⟨X, hX⟩ : ∃ X, wr.alloc (.cells #[.int .i64 3, .string (bs o.key), .int .i64 o.v.k, .float .f64 (fb o.v.x), .string (bs o.v.s)] 59) = X := ⟨_, rfl⟩
  rw [hX] at hba hrow
  obtain ⟨pb, hpb⟩ : ∃ pb, wr.heap.size = pb := ⟨_, rfl⟩
  rw [hpb] at hrow
  have HRX : Hid (∀ W, Below X.heap.size X W → W.cell? ⟨pb, 0, none⟩ = some (.int .i64 3) ∧ W.cell? ⟨pb, 1, none⟩ = some (.string (bs o.key)) ∧ W.cell? ⟨pb, 2, none⟩ = some (.int .i64 o.v.k) ∧ W.cell? ⟨pb, 3, none⟩ = some (.float .f64 (fb o.v.x)) ∧ W.cell? ⟨pb, 4, none⟩ = some (.string (bs o.v.s))) := fun W hW => by
    have hr := (hW.block pb (Array.getElem?_eq_some_iff.1 hrow).1).trans hrow
    exact ⟨cell_of_row _ _ 0 _ _ _ hr, cell_of_row _ _ 1 _ _ _ hr, cell_of_row _ _ 2 _ _ _ hr, cell_of_row _ _ 3 _ _ _ hr, cell_of_row _ _ 4 _ _ _ hr⟩
  obtain ⟨x0, x1, x2, x3, x4⟩ := HRX.out X (Below.refl _ _)
  have HX9 := Lib.hid (HSN.out.below hba)
  have HBX := Lib.hid hba
  clear hba hrow
  obtain ⟨av, cv, hvo, hrw⟩ := HX9.out.wr
  dsimp only at hvo hrw
  subst hvo
  have HRW := Lib.hid hrw
  have HSR : Hid (SrtG wl) := HX9.out.srt
  have HWL : Hid (wl.length ≤ 1000) := hwl
  clear hrw
  have HPT : Hid (∀ W, RdE wrCells 4 W av wl.length cv wl → Calls Tryz.prog 49 #[.slice av wl.length cv, .agg #[.string (bs o.key), .int .i64 0, .float .f64 0, .string ⟨#[]⟩]] W (fun e w' => ∃ v, e = .returned v ∧ OwnW w' W.heap.size v (putG (o.key, Vl.nil) wl) ∧ Below W.heap.size W w')) := fun W h => put9_any av wl.length cv wl (o.key, Vl.nil) W h HSR.out HWL.out
  clear ho
  go_wp2_with (go_at_call 49; refine (HPT.out _ HRW.out).mono ?_; rintro e w5 ⟨v5, rfl, ho5, hb5⟩; have HS5 := Lib.hid (S9.put HX9.out (o.key, Vl.nil) ho5 hb5); clear ho5 hb5)
  go_roundw
  case rel => exact ⟨k + 1, _, by omega, by go_num, HA2.out, HS5.out⟩
  case measure => simp [intOf]; omega
set_option maxHeartbeats 16000000 in
theorem run9_c4 (hnp : np ≤ 1000) (HP : Hid (RdO w ap np cp p)) (HN : Hid (np = p.length)) (HCK : Hid (p.length ≤ 40 ∧ chkGo p 0 = 0)) (hlt2 : k < np) (HA : Hid (RunAt p sn k ⟨st, wl⟩)) (HSN : Hid (S9 w.heap.size ⟨st, wl⟩ u10 u11 w wr)) (ho : p[k]? = some o) (hc : o.c = 4) : (run9_parts ap np cp p a n cap sn w).1 ak ck nk u30 u31 u32 u33 u34 u35 u36 u37 u38 u43 u44 u45 u46 u47 u48 u49 u50 u51 u52 u53 u54 u55 u56 K wr u4 u5 u10 u11 u13 u14 u15 u16 u17 u18 u57 u58 u59 u60 u61 u62 u63 u64 u65 u66 u67 u68 u69 u70 u71 u72 u73 u74 u75 u76 u77 u78 u79 u80 u81 u82 u83 u84 u85 u86 u87 u88 u89 u90 u91 u92 u93 u94 u95 u96 u97 u98 u99 u100 u101 u102 u103 u104 u105 u106 u107 u108 u109 u110 u111 u112 u113 u114 u115 u116 u117 u118 u119 u120 u121 u122 u123 u124 u125 u126 u127 u128 u129 u130 u131 u132 u133 u134 u135 u136 u137 u138 u139 u140 u141 u142 u143 u144 u145 u146 u147 u148 u149 u150 u151 u152 u153 u154 u155 u156 u157 u158 u159 u160 u161 u162 u163 u164 u165 u166 u167 u168 u169 u170 u171 u172 u173 u174 u175 u176 u177 u178 u179 u180 u181 u182 u183 u184 u185 u186 u187 u188 u189 u190 u191 u192 u193 u194 u195 u196 u197 u198 u199 u200 u201 u202 u203 u204 u205 u206 u207 u208 u209 u210 u211 u212 u213 u214 k := by
  delta run9_parts
  dsimp only
  obtain ⟨b, off, rfl, c0, c1, c2, c3, c4⟩ := (HP.out.below HSN.out.bl).at ho
  obtain ⟨n1, n2, n3, n4, n5⟩ := HA.out.next ho
  have hhi := HA.out.hi
  have hwl : wl.length ≤ 1000 := Nat.le_trans HA.out.wr (by have := HCK.out.1; have := HN.out; omega)
  dsimp only at n2 hhi
  clear n1
  obtain ⟨asl, cs, hvs, _⟩ := Rd.of_own HSN.out.st
  rw [List.length_reverse] at hvs
  dsimp only at hvs
  subst hvs
  rw [hc] at c0
  have n4' := n4 (by rw [stp4 hc])
  rw [stp4 hc] at n4'
  have HA2 := Lib.hid n4'
  clear n4' n4 n5 n3
  have hba : Below wr.heap.size wr (wr.alloc (.cells #[.int .i64 4, .string (bs o.key), .int .i64 o.v.k, .float .f64 (fb o.v.x), .string (bs o.v.s)] 59)) := (Below.refl _ _).alloc (Nat.le_refl _) _
  have hrow := heap_alloc_new wr (.cells #[.int .i64 4, .string (bs o.key), .int .i64 o.v.k, .float .f64 (fb o.v.x), .string (bs o.v.s)] 59)
  obtain ⟨X, hX⟩ : ∃ X, wr.alloc (.cells #[.int .i64 4, .string (bs o.key), .int .i64 o.v.k, .float .f64 (fb o.v.x), .string (bs o.v.s)] 59) = X := ⟨_, rfl⟩
  rw [hX] at hba hrow
  obtain ⟨pb, hpb⟩ : ∃ pb, wr.heap.size = pb := ⟨_, rfl⟩
  rw [hpb] at hrow
  have HRX : Hid (∀ W, Below X.heap.size X W → W.cell? ⟨pb, 0, none⟩ = some (.int .i64 4) ∧ W.cell? ⟨pb, 1, none⟩ = some (.string (bs o.key)) ∧ W.cell? ⟨pb, 2, none⟩ = some (.int .i64 o.v.k) ∧ W.cell? ⟨pb, 3, none⟩ = some (.float .f64 (fb o.v.x)) ∧ W.cell? ⟨pb, 4, none⟩ = some (.string (bs o.v.s))) := fun W hW => by
    have hr := (hW.block pb (Array.getElem?_eq_some_iff.1 hrow).1).trans hrow
    exact ⟨cell_of_row _ _ 0 _ _ _ hr, cell_of_row _ _ 1 _ _ _ hr, cell_of_row _ _ 2 _ _ _ hr, cell_of_row _ _ 3 _ _ _ hr, cell_of_row _ _ 4 _ _ _ hr⟩
  obtain ⟨x0, x1, x2, x3, x4⟩ := HRX.out X (Below.refl _ _)
  have HX9 := Lib.hid (HSN.out.below hba)
  have HBX := Lib.hid hba
  clear hba hrow
  clear ho
  have HSA := Lib.hid (HX9.out.below ((Below.refl _ X).alloc (Nat.le_refl _) (.cells #[.int .i64 o.v.k, .float .f64 (fb o.v.x), .string (bs o.v.s)] 48)))
  have HOA : Hid (World.ownsRow (X.alloc (.cells #[.int .i64 o.v.k, .float .f64 (fb o.v.x), .string (bs o.v.s)] 48)) w.heap.size 48 3 (.slice asl st.length cs) st.length (flatE vlCells st.reverse)) := by
    have := HSA.out.st
    unfold OwnVl at this
    show World.ownsRow _ _ _ _ _ _ _
    simpa using this
  have HLA : Hid (Rd (X.alloc (.cells #[.int .i64 o.v.k, .float .f64 (fb o.v.x), .string (bs o.v.s)] 48)) (some ⟨X.heap.size, 0, none⟩) 1 1 3 (vlCells o.v)) := (Rd.lone X #[.int .i64 o.v.k, .float .f64 (fb o.v.x), .string (bs o.v.s)] 3 rfl 48)
  have HSZ : Hid (w.heap.size ≤ ((X.alloc (.cells #[.int .i64 o.v.k, .float .f64 (fb o.v.x), .string (bs o.v.s)] 48))).heap.size) := Lib.hid HSA.out.sz
  go_wp2_with (at_builtin; refine wpList_app SVl rfl (.tmp 161) (.tmp 164) rfl w.heap.size rfl HOA.out rfl HLA.out (by simp [vlCells, Value.oneCell']) (by omega) (by unfold maxLen; omega) HSZ.out ?_)
  intro v5 w5 hown5 hb5 hg5
  have hs5 := HSA.out.push o.v (v5 := v5) (W' := w5) (by simpa using hown5) hg5
  have HS5 := Lib.hid hs5
  clear hown5 hb5 hg5 hs5
  go_wp2_with fail
  go_roundw
  case rel => exact ⟨k + 1, _, by omega, by go_num, HA2.out, HS5.out⟩
  case measure => simp [intOf]; omega
set_option maxHeartbeats 16000000 in
theorem run9_c13 (hnp : np ≤ 1000) (HP : Hid (RdO w ap np cp p)) (HN : Hid (np = p.length)) (HCK : Hid (p.length ≤ 40 ∧ chkGo p 0 = 0)) (HRE : Hid (runE p sn = (runGo sn p ⟨[], []⟩).2)) (hlt2 : k < np) (HA : Hid (RunAt p sn k ⟨st, wl⟩)) (HSN : Hid (S9 w.heap.size ⟨st, wl⟩ u10 u11 w wr)) (ho : p[k]? = some o) (hc : o.c = 13) : (run9_parts ap np cp p a n cap sn w).1 ak ck nk u30 u31 u32 u33 u34 u35 u36 u37 u38 u43 u44 u45 u46 u47 u48 u49 u50 u51 u52 u53 u54 u55 u56 K wr u4 u5 u10 u11 u13 u14 u15 u16 u17 u18 u57 u58 u59 u60 u61 u62 u63 u64 u65 u66 u67 u68 u69 u70 u71 u72 u73 u74 u75 u76 u77 u78 u79 u80 u81 u82 u83 u84 u85 u86 u87 u88 u89 u90 u91 u92 u93 u94 u95 u96 u97 u98 u99 u100 u101 u102 u103 u104 u105 u106 u107 u108 u109 u110 u111 u112 u113 u114 u115 u116 u117 u118 u119 u120 u121 u122 u123 u124 u125 u126 u127 u128 u129 u130 u131 u132 u133 u134 u135 u136 u137 u138 u139 u140 u141 u142 u143 u144 u145 u146 u147 u148 u149 u150 u151 u152 u153 u154 u155 u156 u157 u158 u159 u160 u161 u162 u163 u164 u165 u166 u167 u168 u169 u170 u171 u172 u173 u174 u175 u176 u177 u178 u179 u180 u181 u182 u183 u184 u185 u186 u187 u188 u189 u190 u191 u192 u193 u194 u195 u196 u197 u198 u199 u200 u201 u202 u203 u204 u205 u206 u207 u208 u209 u210 u211 u212 u213 u214 k := by
  delta run9_parts
  dsimp only
  obtain ⟨b, off, rfl, c0, c1, c2, c3, c4⟩ := (HP.out.below HSN.out.bl).at ho
  obtain ⟨n1, n2, n3, n4, n5⟩ := HA.out.next ho
  have hhi := HA.out.hi
  have hwl : wl.length ≤ 1000 := Nat.le_trans HA.out.wr (by have := HCK.out.1; have := HN.out; omega)
  dsimp only at n2 hhi
  clear n1
  rw [hc] at c0
  obtain ⟨b, t, rfl⟩ := st_one (l := st) (by have h := n2; rw [hc, show takeC 13 = 1 by decide] at h; exact h)
  have hhi' : t.length + 1 ≤ 16 := hhi
  have hq0 : (t.length : Int) < (t.length : Int) + 1 := by omega
  have hw0 : IntKind.i64.wrap (t.length : Int) = (t.length : Int) := IntWalk.i64_in _ (by omega)
  have hba : Below wr.heap.size wr (wr.alloc (.cells #[.int .i64 13, .string (bs o.key), .int .i64 o.v.k, .float .f64 (fb o.v.x), .string (bs o.v.s)] 59)) := (Below.refl _ _).alloc (Nat.le_refl _) _
  have hrow := heap_alloc_new wr (.cells #[.int .i64 13, .string (bs o.key), .int .i64 o.v.k, .float .f64 (fb o.v.x), .string (bs o.v.s)] 59)
  obtain ⟨X, hX⟩ : ∃ X, wr.alloc (.cells #[.int .i64 13, .string (bs o.key), .int .i64 o.v.k, .float .f64 (fb o.v.x), .string (bs o.v.s)] 59) = X := ⟨_, rfl⟩
  rw [hX] at hba hrow
  obtain ⟨pb, hpb⟩ : ∃ pb, wr.heap.size = pb := ⟨_, rfl⟩
  rw [hpb] at hrow
  have HRX : Hid (∀ W, Below X.heap.size X W → W.cell? ⟨pb, 0, none⟩ = some (.int .i64 13) ∧ W.cell? ⟨pb, 1, none⟩ = some (.string (bs o.key)) ∧ W.cell? ⟨pb, 2, none⟩ = some (.int .i64 o.v.k) ∧ W.cell? ⟨pb, 3, none⟩ = some (.float .f64 (fb o.v.x)) ∧ W.cell? ⟨pb, 4, none⟩ = some (.string (bs o.v.s))) := fun W hW => by
    have hr := (hW.block pb (Array.getElem?_eq_some_iff.1 hrow).1).trans hrow
    exact ⟨cell_of_row _ _ 0 _ _ _ hr, cell_of_row _ _ 1 _ _ _ hr, cell_of_row _ _ 2 _ _ _ hr, cell_of_row _ _ 3 _ _ _ hr, cell_of_row _ _ 4 _ _ _ hr⟩
  obtain ⟨x0, x1, x2, x3, x4⟩ := HRX.out X (Below.refl _ _)
  have HX9 := Lib.hid (HSN.out.below hba)
  have HBX := Lib.hid hba
  clear hba hrow
  obtain ⟨g, cap, hvs, hcap, hcm, d0, d1, d2, hT9⟩ := HSN.out.top rfl
  subst hvs
  have HT9 := Lib.hid (hT9.below HBX.out)
  have d0 := keep1 d0 HBX.out
  have d1 := keep1 d1 HBX.out
  have d2 := keep1 d2 HBX.out
  clear hT9 hhi
  have HTR := Lib.hid (truth9_any b)
  have hcut := fun W => run_cutV (g := g) (n := t.length + 1) (k := t.length) (cap := cap) (by omega) hcap W
  clear ho n3
  cases hb : holdsB b with
  | true =>
    rw [hb] at HTR
    have n4' := n4 (by rw [stp13 hc rfl, hb]; rfl)
    rw [stp13 hc rfl] at n4'
    have HA2 := Lib.hid n4'
    clear n4' n4 n5 hb
    go_wp2_with (go_at_call 50; ((with_reducible refine (HTR.out _).mono ?_); rintro e w5 ⟨rfl, hb5⟩; have HS5 := Lib.hid (HT9.out.below hb5); clear hb5))
    go_roundw
    case rel => exact ⟨k + 1, _, by omega, by go_num, HA2.out, HS5.out⟩
    case measure => simp [intOf]; omega
  | false =>
    rw [hb] at HTR
    have n5' := n5 (by rw [stp13 hc rfl, hb]; simp)
    rw [stp13 hc rfl, hb] at n5'
    have HE5 : Hid (runE p sn = 22) := HRE.out.trans n5'
    clear n5' n4 n5 hb
    go_wp2_with (go_at_call 50; ((with_reducible refine (HTR.out _).mono ?_); rintro e w5 ⟨rfl, hb5⟩; have HS5 := Lib.hid (HT9.out.below hb5); clear hb5))
    refine bodyPost_ret (results_tmp2 rfl _ _ _) rfl ?_
    exact RunPost.err HE5.out (by decide) HS5.out.bl
set_option maxHeartbeats 16000000 in
theorem run9_c14 (hnp : np ≤ 1000) (HP : Hid (RdO w ap np cp p)) (HN : Hid (np = p.length)) (HCK : Hid (p.length ≤ 40 ∧ chkGo p 0 = 0)) (hlt2 : k < np) (HA : Hid (RunAt p sn k ⟨st, wl⟩)) (HSN : Hid (S9 w.heap.size ⟨st, wl⟩ u10 u11 w wr)) (ho : p[k]? = some o) (hc : o.c = 14) : (run9_parts ap np cp p a n cap sn w).1 ak ck nk u30 u31 u32 u33 u34 u35 u36 u37 u38 u43 u44 u45 u46 u47 u48 u49 u50 u51 u52 u53 u54 u55 u56 K wr u4 u5 u10 u11 u13 u14 u15 u16 u17 u18 u57 u58 u59 u60 u61 u62 u63 u64 u65 u66 u67 u68 u69 u70 u71 u72 u73 u74 u75 u76 u77 u78 u79 u80 u81 u82 u83 u84 u85 u86 u87 u88 u89 u90 u91 u92 u93 u94 u95 u96 u97 u98 u99 u100 u101 u102 u103 u104 u105 u106 u107 u108 u109 u110 u111 u112 u113 u114 u115 u116 u117 u118 u119 u120 u121 u122 u123 u124 u125 u126 u127 u128 u129 u130 u131 u132 u133 u134 u135 u136 u137 u138 u139 u140 u141 u142 u143 u144 u145 u146 u147 u148 u149 u150 u151 u152 u153 u154 u155 u156 u157 u158 u159 u160 u161 u162 u163 u164 u165 u166 u167 u168 u169 u170 u171 u172 u173 u174 u175 u176 u177 u178 u179 u180 u181 u182 u183 u184 u185 u186 u187 u188 u189 u190 u191 u192 u193 u194 u195 u196 u197 u198 u199 u200 u201 u202 u203 u204 u205 u206 u207 u208 u209 u210 u211 u212 u213 u214 k := by
  delta run9_parts
  dsimp only
  obtain ⟨b, off, rfl, c0, c1, c2, c3, c4⟩ := (HP.out.below HSN.out.bl).at ho
  obtain ⟨n1, n2, n3, n4, n5⟩ := HA.out.next ho
  have hhi := HA.out.hi
  have hwl : wl.length ≤ 1000 := Nat.le_trans HA.out.wr (by have := HCK.out.1; have := HN.out; omega)
  dsimp only at n2 hhi
  clear n1
  rw [hc] at c0
  obtain ⟨b, t, rfl⟩ := st_one (l := st) (by have h := n2; rw [hc, show takeC 14 = 1 by decide] at h; exact h)
  have hhi' : t.length + 1 ≤ 16 := hhi
  have hq0 : (t.length : Int) < (t.length : Int) + 1 := by omega
  have hw0 : IntKind.i64.wrap (t.length : Int) = (t.length : Int) := IntWalk.i64_in _ (by omega)
  have n4' := n4 (by rw [stp14 hc rfl])
  rw [stp14 hc rfl] at n4'
  have HA2 := Lib.hid n4'
  clear n4' n4 n5 n3
  have hba : Below wr.heap.size wr (wr.alloc (.cells #[.int .i64 14, .string (bs o.key), .int .i64 o.v.k, .float .f64 (fb o.v.x), .string (bs o.v.s)] 59)) := (Below.refl _ _).alloc (Nat.le_refl _) _
  have hrow := heap_alloc_new wr (.cells #[.int .i64 14, .string (bs o.key), .int .i64 o.v.k, .float .f64 (fb o.v.x), .string (bs o.v.s)] 59)
  obtain ⟨X, hX⟩ : ∃ X, wr.alloc (.cells #[.int .i64 14, .string (bs o.key), .int .i64 o.v.k, .float .f64 (fb o.v.x), .string (bs o.v.s)] 59) = X := ⟨_, rfl⟩
  rw [hX] at hba hrow
  obtain ⟨pb, hpb⟩ : ∃ pb, wr.heap.size = pb := ⟨_, rfl⟩
  rw [hpb] at hrow
  have HRX : Hid (∀ W, Below X.heap.size X W → W.cell? ⟨pb, 0, none⟩ = some (.int .i64 14) ∧ W.cell? ⟨pb, 1, none⟩ = some (.string (bs o.key)) ∧ W.cell? ⟨pb, 2, none⟩ = some (.int .i64 o.v.k) ∧ W.cell? ⟨pb, 3, none⟩ = some (.float .f64 (fb o.v.x)) ∧ W.cell? ⟨pb, 4, none⟩ = some (.string (bs o.v.s))) := fun W hW => by
    have hr := (hW.block pb (Array.getElem?_eq_some_iff.1 hrow).1).trans hrow
    exact ⟨cell_of_row _ _ 0 _ _ _ hr, cell_of_row _ _ 1 _ _ _ hr, cell_of_row _ _ 2 _ _ _ hr, cell_of_row _ _ 3 _ _ _ hr, cell_of_row _ _ 4 _ _ _ hr⟩
  obtain ⟨x0, x1, x2, x3, x4⟩ := HRX.out X (Below.refl _ _)
  have HX9 := Lib.hid (HSN.out.below hba)
  have HBX := Lib.hid hba
  clear hba hrow
  obtain ⟨g, cap, hvs, hcap, hcm, d0, d1, d2, hT9⟩ := HSN.out.top rfl
  subst hvs
  have HT9 := Lib.hid (hT9.below HBX.out)
  have d0 := keep1 d0 HBX.out
  have d1 := keep1 d1 HBX.out
  have d2 := keep1 d2 HBX.out
  clear hT9 hhi
  clear ho
  have HSA := Lib.hid (HX9.out.below ((Below.refl _ X).alloc (Nat.le_refl _) (.cells #[.int .i64 b.k, .float .f64 (fb b.x), .string (bs b.s)] 48)))
  have HOA : Hid (World.ownsRow (X.alloc (.cells #[.int .i64 b.k, .float .f64 (fb b.x), .string (bs b.s)] 48)) w.heap.size 48 3 (.slice (some ⟨g, 0, none⟩) (t.length + 1) cap) (t.length + 1) (flatE vlCells (b :: t).reverse)) := by
    have := HSA.out.st
    unfold OwnVl at this
    show World.ownsRow _ _ _ _ _ _ _
    simpa using this
  have HLA : Hid (Rd (X.alloc (.cells #[.int .i64 b.k, .float .f64 (fb b.x), .string (bs b.s)] 48)) (some ⟨X.heap.size, 0, none⟩) 1 1 3 (vlCells b)) := (Rd.lone X #[.int .i64 b.k, .float .f64 (fb b.x), .string (bs b.s)] 3 rfl 48)
  have HSZ : Hid (w.heap.size ≤ ((X.alloc (.cells #[.int .i64 b.k, .float .f64 (fb b.x), .string (bs b.s)] 48))).heap.size) := Lib.hid HSA.out.sz
  go_wp2_with (at_builtin; refine wpList_app SVl rfl (.tmp 185) (.tmp 191) rfl w.heap.size rfl HOA.out rfl HLA.out (by simp [vlCells, Value.oneCell']) (by omega) (by unfold maxLen; omega) HSZ.out ?_)
  intro v5 w5 hown5 hb5 hg5
  have hs5 := HSA.out.push b (v5 := v5) (W' := w5) (by simpa using hown5) hg5
  have HS5 := Lib.hid hs5
  clear hown5 hb5 hg5 hs5
  go_wp2_with fail
  go_roundw
  case rel => exact ⟨k + 1, _, by omega, by go_num, HA2.out, HS5.out⟩
  case measure => simp [intOf]; omega
set_option maxHeartbeats 16000000 in
theorem run9_c15 (hnp : np ≤ 1000) (HP : Hid (RdO w ap np cp p)) (HN : Hid (np = p.length)) (HCK : Hid (p.length ≤ 40 ∧ chkGo p 0 = 0)) (hlt2 : k < np) (HA : Hid (RunAt p sn k ⟨st, wl⟩)) (HSN : Hid (S9 w.heap.size ⟨st, wl⟩ u10 u11 w wr)) (ho : p[k]? = some o) (hc : o.c = 15) : (run9_parts ap np cp p a n cap sn w).1 ak ck nk u30 u31 u32 u33 u34 u35 u36 u37 u38 u43 u44 u45 u46 u47 u48 u49 u50 u51 u52 u53 u54 u55 u56 K wr u4 u5 u10 u11 u13 u14 u15 u16 u17 u18 u57 u58 u59 u60 u61 u62 u63 u64 u65 u66 u67 u68 u69 u70 u71 u72 u73 u74 u75 u76 u77 u78 u79 u80 u81 u82 u83 u84 u85 u86 u87 u88 u89 u90 u91 u92 u93 u94 u95 u96 u97 u98 u99 u100 u101 u102 u103 u104 u105 u106 u107 u108 u109 u110 u111 u112 u113 u114 u115 u116 u117 u118 u119 u120 u121 u122 u123 u124 u125 u126 u127 u128 u129 u130 u131 u132 u133 u134 u135 u136 u137 u138 u139 u140 u141 u142 u143 u144 u145 u146 u147 u148 u149 u150 u151 u152 u153 u154 u155 u156 u157 u158 u159 u160 u161 u162 u163 u164 u165 u166 u167 u168 u169 u170 u171 u172 u173 u174 u175 u176 u177 u178 u179 u180 u181 u182 u183 u184 u185 u186 u187 u188 u189 u190 u191 u192 u193 u194 u195 u196 u197 u198 u199 u200 u201 u202 u203 u204 u205 u206 u207 u208 u209 u210 u211 u212 u213 u214 k := by
  delta run9_parts
  dsimp only
  obtain ⟨b, off, rfl, c0, c1, c2, c3, c4⟩ := (HP.out.below HSN.out.bl).at ho
  obtain ⟨n1, n2, n3, n4, n5⟩ := HA.out.next ho
  have hhi := HA.out.hi
  have hwl : wl.length ≤ 1000 := Nat.le_trans HA.out.wr (by have := HCK.out.1; have := HN.out; omega)
  dsimp only at n2 hhi
  clear n1
  rw [hc] at c0
  obtain ⟨b, a2, t, rfl⟩ := st_two (l := st) (by have h := n2; rw [hc, show takeC 15 = 2 by decide] at h; exact h)
  have hhi' : t.length + 2 ≤ 16 := hhi
  have hq0 : (t.length : Int) < (t.length : Int) + 2 := by omega
  have hq1 : (t.length : Int) + 1 < (t.length : Int) + 2 := by omega
  have hq2 : 0 ≤ (t.length : Int) + 1 := by omega
  have hw3 : IntKind.i64.wrap ((t.length : Int) + 2 - 1) = (t.length : Int) + 1 := by rw [IntWalk.i64_in _ (by omega)]; omega
  have hw0 : IntKind.i64.wrap (t.length : Int) = (t.length : Int) := IntWalk.i64_in _ (by omega)
  have hw1 : IntKind.i64.wrap ((t.length : Int) + 1) = (t.length : Int) + 1 := IntWalk.i64_in _ (by omega)
  have hw2 : ((t.length : Int) + 1).toNat = t.length + 1 := by omega
  have n4' := n4 (by rw [stp15 hc rfl])
  rw [stp15 hc rfl] at n4'
  have HA2 := Lib.hid n4'
  clear n4' n4 n5 n3
  have hba : Below wr.heap.size wr (wr.alloc (.cells #[.int .i64 15, .string (bs o.key), .int .i64 o.v.k, .float .f64 (fb o.v.x), .string (bs o.v.s)] 59)) := (Below.refl _ _).alloc (Nat.le_refl _) _
  have hrow := heap_alloc_new wr (.cells #[.int .i64 15, .string (bs o.key), .int .i64 o.v.k, .float .f64 (fb o.v.x), .string (bs o.v.s)] 59)
  obtain ⟨X, hX⟩ : ∃ X, wr.alloc (.cells #[.int .i64 15, .string (bs o.key), .int .i64 o.v.k, .float .f64 (fb o.v.x), .string (bs o.v.s)] 59) = X := ⟨_, rfl⟩
  rw [hX] at hba hrow
  obtain ⟨pb, hpb⟩ : ∃ pb, wr.heap.size = pb := ⟨_, rfl⟩
  rw [hpb] at hrow
  have HRX : Hid (∀ W, Below X.heap.size X W → W.cell? ⟨pb, 0, none⟩ = some (.int .i64 15) ∧ W.cell? ⟨pb, 1, none⟩ = some (.string (bs o.key)) ∧ W.cell? ⟨pb, 2, none⟩ = some (.int .i64 o.v.k) ∧ W.cell? ⟨pb, 3, none⟩ = some (.float .f64 (fb o.v.x)) ∧ W.cell? ⟨pb, 4, none⟩ = some (.string (bs o.v.s))) := fun W hW => by
    have hr := (hW.block pb (Array.getElem?_eq_some_iff.1 hrow).1).trans hrow
    exact ⟨cell_of_row _ _ 0 _ _ _ hr, cell_of_row _ _ 1 _ _ _ hr, cell_of_row _ _ 2 _ _ _ hr, cell_of_row _ _ 3 _ _ _ hr, cell_of_row _ _ 4 _ _ _ hr⟩
  obtain ⟨x0, x1, x2, x3, x4⟩ := HRX.out X (Below.refl _ _)
  have HX9 := Lib.hid (HSN.out.below hba)
  have HBX := Lib.hid hba
  clear hba hrow
  obtain ⟨g, cap, hvs, hcap, hcm, d0, d1, d2, f0, f1, f2, hT9, hO9⟩ := HSN.out.top2 rfl
  subst hvs
  have HT9 := Lib.hid (hT9.below HBX.out)
  have d0 := keep1 d0 HBX.out
  have d1 := keep1 d1 HBX.out
  have d2 := keep1 d2 HBX.out
  have f0 := keep1 f0 HBX.out
  have f1 := keep1 f1 HBX.out
  have f2 := keep1 f2 HBX.out
  clear hT9 hhi
  have hO : X.ownsRow w.heap.size 48 3 (.slice (some ⟨g, 0, none⟩) (t.length + 2) cap) (t.length + 2) (flatE vlCells (b :: a2 :: t).reverse) := ownsRow_keep hO9 fun k hk => HBX.out.block k (World.ownsRow.lt hO9 k hk).2
  obtain ⟨u0, u1, u2, p0, p1, p2, p3, p4, p5⟩ := st3o (own_there hO (o := (t.length + 1) * 3) (m := 3) (by omega)) (.int .i64 a2.k) (.float .f64 (fb a2.x))
  obtain ⟨hO2, _⟩ := own_put3 hO ((t.length + 1) * 3) (.int .i64 a2.k) (.float .f64 (fb a2.x)) (.string (bs a2.s))
  obtain ⟨v0, v1, v2, r0, r1, r2, r3, r4, r5⟩ := st3o (own_there hO2 (o := t.length * 3) (m := 3) (by omega)) (.int .i64 b.k) (.float .f64 (fb b.x))
  have HS5 := Lib.hid (HX9.out.swap rfl rfl)
  clear hO hO2 hO9 ho
  go_wp2_with fail
  go_big_region
  go_wp2_with fail
  go_roundw
  case rel => exact ⟨k + 1, _, by omega, by go_num, HA2.out, HS5.out.below (Below.refl _ _).drew⟩
  case measure => simp [intOf]; omega
set_option maxHeartbeats 16000000 in
theorem run9_c5 (hnp : np ≤ 1000) (HP : Hid (RdO w ap np cp p)) (HN : Hid (np = p.length)) (HCK : Hid (p.length ≤ 40 ∧ chkGo p 0 = 0)) (HRE : Hid (runE p sn = (runGo sn p ⟨[], []⟩).2)) (hlt2 : k < np) (HA : Hid (RunAt p sn k ⟨st, wl⟩)) (HSN : Hid (S9 w.heap.size ⟨st, wl⟩ u10 u11 w wr)) (ho : p[k]? = some o) (hc : 5 ≤ o.c ∧ o.c ≤ 12) : (run9_parts ap np cp p a n cap sn w).1 ak ck nk u30 u31 u32 u33 u34 u35 u36 u37 u38 u43 u44 u45 u46 u47 u48 u49 u50 u51 u52 u53 u54 u55 u56 K wr u4 u5 u10 u11 u13 u14 u15 u16 u17 u18 u57 u58 u59 u60 u61 u62 u63 u64 u65 u66 u67 u68 u69 u70 u71 u72 u73 u74 u75 u76 u77 u78 u79 u80 u81 u82 u83 u84 u85 u86 u87 u88 u89 u90 u91 u92 u93 u94 u95 u96 u97 u98 u99 u100 u101 u102 u103 u104 u105 u106 u107 u108 u109 u110 u111 u112 u113 u114 u115 u116 u117 u118 u119 u120 u121 u122 u123 u124 u125 u126 u127 u128 u129 u130 u131 u132 u133 u134 u135 u136 u137 u138 u139 u140 u141 u142 u143 u144 u145 u146 u147 u148 u149 u150 u151 u152 u153 u154 u155 u156 u157 u158 u159 u160 u161 u162 u163 u164 u165 u166 u167 u168 u169 u170 u171 u172 u173 u174 u175 u176 u177 u178 u179 u180 u181 u182 u183 u184 u185 u186 u187 u188 u189 u190 u191 u192 u193 u194 u195 u196 u197 u198 u199 u200 u201 u202 u203 u204 u205 u206 u207 u208 u209 u210 u211 u212 u213 u214 k := by
  delta run9_parts
  dsimp only
  obtain ⟨b, off, rfl, c0, c1, c2, c3, c4⟩ := (HP.out.below HSN.out.bl).at ho
  obtain ⟨n1, n2, n3, n4, n5⟩ := HA.out.next ho
  have hhi := HA.out.hi
  have hwl : wl.length ≤ 1000 := Nat.le_trans HA.out.wr (by have := HCK.out.1; have := HN.out; omega)
  dsimp only at n2 hhi
  clear n1
  obtain ⟨hc5, hc12⟩ := hc
  have hnot : (o.c == 1) = false ∧ (o.c == 2) = false ∧ (o.c == 3) = false ∧ (o.c == 4) = false ∧ (o.c == 13) = false ∧ (o.c == 14) = false ∧ (o.c == 15) = false := by refine ⟨?_, ?_, ?_, ?_, ?_, ?_, ?_⟩ <;> (rw [beq_eq_false_iff_ne]; omega)
  obtain ⟨g1, g2, g3, g4, g13, g14, g15⟩ := hnot
  obtain ⟨b, a2, t, rfl⟩ := st_two (l := st) (by have h := n2; rw [show takeC o.c = 2 by unfold takeC; rw [if_neg (by omega), if_neg (by omega)]] at h; exact h)
  have hhi' : t.length + 2 ≤ 16 := hhi
  have hq0 : (t.length : Int) < (t.length : Int) + 2 := by omega
  have hq1 : (t.length : Int) + 1 < (t.length : Int) + 2 := by omega
  have hq2 : 0 ≤ (t.length : Int) + 1 := by omega
  have hw3 : IntKind.i64.wrap ((t.length : Int) + 2 - 1) = (t.length : Int) + 1 := by rw [IntWalk.i64_in _ (by omega)]; omega
  have hw0 : IntKind.i64.wrap (t.length : Int) = (t.length : Int) := IntWalk.i64_in _ (by omega)
  have hw1 : IntKind.i64.wrap ((t.length : Int) + 1) = (t.length : Int) + 1 := IntWalk.i64_in _ (by omega)
  have hw2 : ((t.length : Int) + 1).toNat = t.length + 1 := by omega
  have HST : Hid (stepP sn o ⟨b :: a2 :: t, wl⟩ = (⟨(twoP o.c a2 b).1 ++ t, wl⟩, (twoP o.c a2 b).2)) := stpT hc5 (.inl hc12) rfl
  have HRK := Lib.hid (reckons_any o.c hc5 hc12 a2 b)
  have hba : Below wr.heap.size wr (wr.alloc (.cells #[.int .i64 o.c, .string (bs o.key), .int .i64 o.v.k, .float .f64 (fb o.v.x), .string (bs o.v.s)] 59)) := (Below.refl _ _).alloc (Nat.le_refl _) _
  have hrow := heap_alloc_new wr (.cells #[.int .i64 o.c, .string (bs o.key), .int .i64 o.v.k, .float .f64 (fb o.v.x), .string (bs o.v.s)] 59)
  obtain ⟨X, hX⟩ : ∃ X, wr.alloc (.cells #[.int .i64 o.c, .string (bs o.key), .int .i64 o.v.k, .float .f64 (fb o.v.x), .string (bs o.v.s)] 59) = X := ⟨_, rfl⟩
  rw [hX] at hba hrow
  obtain ⟨pb, hpb⟩ : ∃ pb, wr.heap.size = pb := ⟨_, rfl⟩
  rw [hpb] at hrow
  have HRX : Hid (∀ W, Below X.heap.size X W → W.cell? ⟨pb, 0, none⟩ = some (.int .i64 o.c) ∧ W.cell? ⟨pb, 1, none⟩ = some (.string (bs o.key)) ∧ W.cell? ⟨pb, 2, none⟩ = some (.int .i64 o.v.k) ∧ W.cell? ⟨pb, 3, none⟩ = some (.float .f64 (fb o.v.x)) ∧ W.cell? ⟨pb, 4, none⟩ = some (.string (bs o.v.s))) := fun W hW => by
    have hr := (hW.block pb (Array.getElem?_eq_some_iff.1 hrow).1).trans hrow
    exact ⟨cell_of_row _ _ 0 _ _ _ hr, cell_of_row _ _ 1 _ _ _ hr, cell_of_row _ _ 2 _ _ _ hr, cell_of_row _ _ 3 _ _ _ hr, cell_of_row _ _ 4 _ _ _ hr⟩
  obtain ⟨x0, x1, x2, x3, x4⟩ := HRX.out X (Below.refl _ _)
  have HX9 := Lib.hid (HSN.out.below hba)
  have HBX := Lib.hid hba
  clear hba hrow
  obtain ⟨g, cap, hvs, hcap, hcm, d0, d1, d2, f0, f1, f2, hT9, hO9⟩ := HSN.out.top2 rfl
  subst hvs
  have HT9 := Lib.hid (hT9.below HBX.out)
  have d0 := keep1 d0 HBX.out
  have d1 := keep1 d1 HBX.out
  have d2 := keep1 d2 HBX.out
  have f0 := keep1 f0 HBX.out
  have f1 := keep1 f1 HBX.out
  have f2 := keep1 f2 HBX.out
  clear hT9 hhi
  obtain ⟨oc, hoc⟩ : ∃ oc, o.c = oc := ⟨_, rfl⟩
  have HN4 := Lib.hid n4
  have HN5 := Lib.hid n5
  have hcut := fun W => run_cutV (g := g) (n := t.length + 2) (k := t.length) (cap := cap) (by omega) hcap W
  clear hO9 ho n3 n4 n5 hoc
  have HSK : Hid (∀ W, Below X.heap.size X W → (fun W => W.cell? ⟨pb, 0, none⟩ = some (.int .i64 o.c) ∧ W.cell? ⟨g, (t.length + 1) * 3, none⟩ = some (.int .i64 b.k) ∧ W.cell? ⟨g, (t.length + 1) * 3 + 1, none⟩ = some (.float .f64 (fb b.x)) ∧ W.cell? ⟨g, (t.length + 1) * 3 + 2, none⟩ = some (.string (bs b.s)) ∧ W.cell? ⟨g, t.length * 3, none⟩ = some (.int .i64 a2.k) ∧ W.cell? ⟨g, t.length * 3 + 1, none⟩ = some (.float .f64 (fb a2.x)) ∧ W.cell? ⟨g, t.length * 3 + 2, none⟩ = some (.string (bs a2.s))) W) := fun W h => ⟨keep1 x0 h, keep1 d0 h, keep1 d1 h, keep1 d2 h, keep1 f0 h, keep1 f1 h, keep1 f2 h⟩
  clear d0 d1 d2 f0 f1 f2 x0 x1 x2 x3 x4
  have x0 := (HRX.out X (Below.refl _ _)).1
  go_wp2_with fail
  clear x0
  refine wp_region_held_drew (S := fun W => W.cell? ⟨pb, 0, none⟩ = some (.int .i64 o.c) ∧ W.cell? ⟨g, (t.length + 1) * 3, none⟩ = some (.int .i64 b.k) ∧ W.cell? ⟨g, (t.length + 1) * 3 + 1, none⟩ = some (.float .f64 (fb b.x)) ∧ W.cell? ⟨g, (t.length + 1) * 3 + 2, none⟩ = some (.string (bs b.s)) ∧ W.cell? ⟨g, t.length * 3, none⟩ = some (.int .i64 a2.k) ∧ W.cell? ⟨g, t.length * 3 + 1, none⟩ = some (.float .f64 (fb a2.x)) ∧ W.cell? ⟨g, t.length * 3 + 2, none⟩ = some (.string (bs a2.s))) (by kernel_rfl) ?_ (fun hHeld => ?_)
  · exact HSK.out _ (Below.refl _ _).drew
  refine wpAnyH_takeD9 (i := 0) (d := 70) (v := ?_) rfl (by kernel_rfl) (by kernel_rfl) (by kernel_rfl) (by kernel_rfl) (fun _ _ _ h => h) (Or.inl ⟨by kernel_rfl, ?_⟩) (by assumption) ?_
  rotate_left
  · intro w hSw; (try dsimp only at hSw); go_simp; (try with_reducible rfl)
  try simp only [Act.put, List.setIfInBounds_toArray, List.set_cons_zero, List.set_cons_succ]
  refine wpAnyH_takeD9 (i := 1) (d := 71) (v := ?_) rfl (by kernel_rfl) (by kernel_rfl) (by kernel_rfl) (by kernel_rfl) (fun _ _ _ h => h) (Or.inl ⟨by kernel_rfl, ?_⟩) (by assumption) ?_
  rotate_left
  · intro w hSw; (try dsimp only at hSw); go_simp; (try with_reducible rfl)
  try simp only [Act.put, List.setIfInBounds_toArray, List.set_cons_zero, List.set_cons_succ]
  refine wpAnyH_takeD9 (i := 2) (d := 72) (v := ?_) rfl (by kernel_rfl) (by kernel_rfl) (by kernel_rfl) (by kernel_rfl) (fun _ _ _ h => h) (Or.inl ⟨by kernel_rfl, ?_⟩) (by assumption) ?_
  rotate_left
  · intro w hSw; (try dsimp only at hSw); go_simp; (try with_reducible rfl)
  try simp only [Act.put, List.setIfInBounds_toArray, List.set_cons_zero, List.set_cons_succ]
  refine wpAnyH_takeD9 (i := 3) (d := 73) (v := ?_) rfl (by kernel_rfl) (by kernel_rfl) (by kernel_rfl) (by kernel_rfl) (fun _ _ _ h => h) (Or.inl ⟨by kernel_rfl, ?_⟩) (by assumption) ?_
  rotate_left
  · intro w hSw; (try dsimp only at hSw); go_simp; (try with_reducible rfl)
  try simp only [Act.put, List.setIfInBounds_toArray, List.set_cons_zero, List.set_cons_succ]
  refine wpAnyH_takeD9 (i := 4) (d := 74) (v := ?_) rfl (by kernel_rfl) (by kernel_rfl) (by kernel_rfl) (by kernel_rfl) (fun _ _ _ h => h) (Or.inl ⟨by kernel_rfl, ?_⟩) (by assumption) ?_
  rotate_left
  · intro w hSw; (try dsimp only at hSw); go_simp; (try with_reducible rfl)
  try simp only [Act.put, List.setIfInBounds_toArray, List.set_cons_zero, List.set_cons_succ]
  refine wpAnyH_takeD9 (i := 5) (d := 75) (v := ?_) rfl (by kernel_rfl) (by kernel_rfl) (by kernel_rfl) (by kernel_rfl) (fun _ _ _ h => h) (Or.inl ⟨by kernel_rfl, ?_⟩) (by assumption) ?_
  rotate_left
  · intro w hSw; (try dsimp only at hSw); go_simp; (try with_reducible rfl)
  try simp only [Act.put, List.setIfInBounds_toArray, List.set_cons_zero, List.set_cons_succ]
  refine wpAnyH_takeD9 (i := 6) (d := 76) (v := ?_) rfl (by kernel_rfl) (by kernel_rfl) (by kernel_rfl) (by kernel_rfl) (fun _ _ _ h => h) (Or.inl ⟨by kernel_rfl, ?_⟩) (by assumption) ?_
  rotate_left
  · intro w hSw; (try dsimp only at hSw); go_simp; (try with_reducible rfl)
  try simp only [Act.put, List.setIfInBounds_toArray, List.set_cons_zero, List.set_cons_succ]
  refine wpAnyH_takeD9 (i := 7) (d := 77) (v := ?_) rfl (by kernel_rfl) (by kernel_rfl) (by kernel_rfl) (by kernel_rfl) (fun _ _ _ h => h) (Or.inl ⟨by kernel_rfl, ?_⟩) (by assumption) ?_
  rotate_left
  · intro w hSw; (try dsimp only at hSw); go_simp; (try with_reducible rfl)
  try simp only [Act.put, List.setIfInBounds_toArray, List.set_cons_zero, List.set_cons_succ]
  refine wpAnyH_takeD9 (i := 8) (d := 78) (v := ?_) rfl (by kernel_rfl) (by kernel_rfl) (by kernel_rfl) (by kernel_rfl) (fun _ _ _ h => h) (Or.inl ⟨by kernel_rfl, ?_⟩) (by assumption) ?_
  rotate_left
  · intro w hSw; (try dsimp only at hSw); go_simp; (try with_reducible rfl)
  try simp only [Act.put, List.setIfInBounds_toArray, List.set_cons_zero, List.set_cons_succ]
  refine wpAnyH_takeD9 (i := 9) (d := 79) (v := ?_) rfl (by kernel_rfl) (by kernel_rfl) (by kernel_rfl) (by kernel_rfl) (fun _ _ _ h => h) (Or.inl ⟨by kernel_rfl, ?_⟩) (by assumption) ?_
  rotate_left
  · intro w hSw; (try dsimp only at hSw); go_simp; (try with_reducible rfl)
  try simp only [Act.put, List.setIfInBounds_toArray, List.set_cons_zero, List.set_cons_succ]
  refine wpAnyH_takeD9 (i := 10) (d := 80) (v := ?_) rfl (by kernel_rfl) (by kernel_rfl) (by kernel_rfl) (by kernel_rfl) (fun _ _ _ h => h) (Or.inl ⟨by kernel_rfl, ?_⟩) (by assumption) ?_
  rotate_left
  · intro w hSw; (try dsimp only at hSw); go_simp; (try with_reducible rfl)
  try simp only [Act.put, List.setIfInBounds_toArray, List.set_cons_zero, List.set_cons_succ]
  refine wpAnyH_takeD9 (i := 11) (d := 81) (v := ?_) rfl (by kernel_rfl) (by kernel_rfl) (by kernel_rfl) (by kernel_rfl) (fun _ _ _ h => h) (Or.inl ⟨by kernel_rfl, ?_⟩) (by assumption) ?_
  rotate_left
  · intro w hSw; (try dsimp only at hSw); go_simp; (try with_reducible rfl)
  try simp only [Act.put, List.setIfInBounds_toArray, List.set_cons_zero, List.set_cons_succ]
  refine wpAnyH_ready (rs := [12, 16]) (by kernel_rfl) (by simp) ?_
  refine AllReadyH.cons rfl (fun K hK => ?_) (AllReadyH.cons rfl (fun K hK => ?_) AllReadyH.nil)
  · go_simp
    go_at_call 51
    refine (HRK.out _).mono ?_
    rintro e w4 ⟨v, rfl, hv, hb4⟩
    obtain ⟨z, hz⟩ : ∃ z, (twoP o.c a2 b).2 = z := ⟨_, rfl⟩
    rw [hz] at hv HST ⊢
    unfold VA

    have hbA : Below X.heap.size X w4 := (Below.refl _ X).drew.trans hb4
    have hsA := hbA.size
    refine hK.out _ _ ?_ (fun hHeld => ?_)
    · exact HSK.out _ hbA
    clear hK K
    try simp only [Act.put, List.setIfInBounds_toArray, List.set_cons_zero, List.set_cons_succ]
    refine wpAnyH_takeD9 (i := 13) (d := 69) (v := ?_) rfl (by kernel_rfl) (by kernel_rfl) (by kernel_rfl) (by kernel_rfl) (fun _ _ _ h => h) (Or.inl ⟨by kernel_rfl, ?_⟩) (by assumption) ?_
    rotate_left
    · intro w hSw; (try dsimp only at hSw); go_simp; (try with_reducible rfl)
    try simp only [Act.put, List.setIfInBounds_toArray, List.set_cons_zero, List.set_cons_succ]
    refine wpAnyH_takeD9 (i := 14) (d := 83) (v := ?_) rfl (by kernel_rfl) (by kernel_rfl) (by kernel_rfl) (by kernel_rfl) (fun _ _ _ h => h) (Or.inl ⟨by kernel_rfl, ?_⟩) (by assumption) ?_
    rotate_left
    · intro w hSw; (try dsimp only at hSw); go_simp; (try with_reducible rfl)
    try simp only [Act.put, List.setIfInBounds_toArray, List.set_cons_zero, List.set_cons_succ]
    refine wpAnyH_takeD9 (i := 15) (d := 84) (v := ?_) rfl (by kernel_rfl) (by kernel_rfl) (by kernel_rfl) (by kernel_rfl) (fun _ _ _ h => h) (Or.inl ⟨by kernel_rfl, ?_⟩) (by assumption) ?_
    rotate_left
    · intro w hSw; (try dsimp only at hSw); go_simp; (try with_reducible rfl)
    try simp only [Act.put, List.setIfInBounds_toArray, List.set_cons_zero, List.set_cons_succ]
    refine wpAnyH_ready (rs := [16]) (by kernel_rfl) (by simp) ?_
    refine AllReadyH.cons rfl (fun K hK => ?_) AllReadyH.nil
    go_simp
    refine hK.out _ _ ?_ (fun hHeld => ?_)
    · exact HSK.out _ (hbA.alloc hsA _)
    clear hK K
    try simp only [Act.put, List.setIfInBounds_toArray, List.set_cons_zero, List.set_cons_succ]
    refine wpAnyH_ready (rs := [17]) (by kernel_rfl) (by simp) ?_
    refine AllReadyH.cons rfl (fun K hK => ?_) AllReadyH.nil
    go_simp
    refine hK.out _ _ ?_ (fun hHeld => ?_)
    · exact HSK.out _ (hbA.alloc hsA _)
    clear hK K
    try simp only [Act.put, List.setIfInBounds_toArray, List.set_cons_zero, List.set_cons_succ]
    refine wpAnyH_takeD9 (i := 18) (d := 18) (v := ?_) rfl (by kernel_rfl) (by kernel_rfl) (by kernel_rfl) (by kernel_rfl) (fun _ _ _ h => h) (Or.inl ⟨by kernel_rfl, ?_⟩) (by assumption) ?_
    rotate_left
    · intro w hSw; (try dsimp only at hSw); go_simp; (try with_reducible rfl)
    try simp only [Act.put, List.setIfInBounds_toArray, List.set_cons_zero, List.set_cons_succ]
    refine wpAnyH_done (by kernel_rfl) ?_ _
    obtain ⟨p0, p1, p2⟩ := vat w4 v.k v.x v.s 48
    have HT5 := Lib.hid (HT9.out.below (hbA.alloc hsA (.cells #[.int .i64 v.k, .float .f64 (fb v.x), .string (bs v.s)] 48)))
    obtain ⟨Z, hZ⟩ : ∃ Z, w4.alloc (.cells #[.int .i64 v.k, .float .f64 (fb v.x), .string (bs v.s)] 48) = Z := ⟨_, rfl⟩
    obtain ⟨pv, hpv⟩ : ∃ pv, w4.heap.size = pv := ⟨_, rfl⟩
    rw [hZ] at HT5 p0 p1 p2 ⊢
    rw [hpv] at p0 p1 p2 ⊢
    clear hZ hpv hbA hsA
    clear hHeld
    by_cases h0 : z = 0
    · have hv1 := hv h0
      subst h0
      have h2 := HN4.out (by rw [HST.out])
      rw [HST.out, hv1] at h2
      have HA2 : Hid (RunAt p sn (k + 1) ⟨v :: t, wl⟩) := h2
      clear h2 hv hv1 hz hb4
      go_wp2_with fail
      have k0 := cell_alloc_keep (o := .cells #[.int .i64 v.k, .float .f64 (fb v.x), .string (bs v.s)] 48) p0
      have k1 := cell_alloc_keep (o := .cells #[.int .i64 v.k, .float .f64 (fb v.x), .string (bs v.s)] 48) p1
      have k2 := cell_alloc_keep (o := .cells #[.int .i64 v.k, .float .f64 (fb v.x), .string (bs v.s)] 48) p2
      refine wp_region_ht 6 (fun W => W.cell? ⟨pv, 0, none⟩ = some (.int .i64 v.k) ∧ W.cell? ⟨pv, 1, none⟩ = some (.float .f64 (fb v.x)) ∧ W.cell? ⟨pv, 2, none⟩ = some (.string (bs v.s))) (by kernel_rfl) (by kernel_rfl) ?_ (fun hHeld => ?_)
      · exact ⟨p0, p1, p2⟩
      try simp only [Act.put, List.setIfInBounds_toArray, List.set_cons_zero, List.set_cons_succ]
      refine wpHT_takeD (i := 0) (d := 88) (v := ?_) (by kernel_rfl) rfl rfl (by decide) (by kernel_rfl) (by kernel_rfl) (fun _ _ _ h => h) (Or.inl ⟨by kernel_rfl, ?_⟩) (by assumption) ?_
      rotate_left
      · intro w hSw; (try dsimp only at hSw); go_simp; (try with_reducible rfl)
      try simp only [Act.put, List.setIfInBounds_toArray, List.set_cons_zero, List.set_cons_succ]
      refine wpHT_takeD (i := 1) (d := 89) (v := ?_) (by kernel_rfl) rfl rfl (by decide) (by kernel_rfl) (by kernel_rfl) (fun _ _ _ h => h) (Or.inl ⟨by kernel_rfl, ?_⟩) (by assumption) ?_
      rotate_left
      · intro w hSw; (try dsimp only at hSw); go_simp; (try with_reducible rfl)
      try simp only [Act.put, List.setIfInBounds_toArray, List.set_cons_zero, List.set_cons_succ]
      refine wpHT_takeD (i := 2) (d := 90) (v := ?_) (by kernel_rfl) rfl rfl (by decide) (by kernel_rfl) (by kernel_rfl) (fun _ _ _ h => h) (Or.inl ⟨by kernel_rfl, ?_⟩) (by assumption) ?_
      rotate_left
      · intro w hSw; (try dsimp only at hSw); go_simp; (try with_reducible rfl)
      try simp only [Act.put, List.setIfInBounds_toArray, List.set_cons_zero, List.set_cons_succ]
      refine wpHT_takeD (i := 3) (d := 91) (v := ?_) (by kernel_rfl) rfl rfl (by decide) (by kernel_rfl) (by kernel_rfl) (fun _ _ _ h => h) (Or.inl ⟨by kernel_rfl, ?_⟩) (by assumption) ?_
      rotate_left
      · intro w hSw; (try dsimp only at hSw); go_simp; (try with_reducible rfl)
      try simp only [Act.put, List.setIfInBounds_toArray, List.set_cons_zero, List.set_cons_succ]
      refine wpHT_takeD (i := 4) (d := 92) (v := ?_) (by kernel_rfl) rfl rfl (by decide) (by kernel_rfl) (by kernel_rfl) (fun _ _ _ h => h) (Or.inl ⟨by kernel_rfl, ?_⟩) (by assumption) ?_
      rotate_left
      · intro w hSw; (try dsimp only at hSw); go_simp; (try with_reducible rfl)
      try simp only [Act.put, List.setIfInBounds_toArray, List.set_cons_zero, List.set_cons_succ]
      refine wpHT_one (i := 5) (by kernel_rfl) rfl (by decide) (fun K hK => ?_)
      go_simp
      refine hK.out _ _ ?_ (fun hHeld => ?_)
      · exact ⟨k0, k1, k2⟩
      clear hK K
      try simp only [Act.put, List.setIfInBounds_toArray, List.set_cons_zero, List.set_cons_succ]
      refine wpHT_done (by kernel_rfl) ?_
      simp only [List.drop_succ_cons, List.drop_zero]
      clear hHeld p0 p1 p2 k0 k1 k2
      have HSA := Lib.hid (HT5.out.below ((Below.refl _ Z).alloc (Nat.le_refl _) (.cells #[.int .i64 v.k, .float .f64 (fb v.x), .string (bs v.s)] 48)).drew)
      have HOA : Hid (World.ownsRow ((Z.alloc (.cells #[.int .i64 v.k, .float .f64 (fb v.x), .string (bs v.s)] 48)).drew) w.heap.size 48 3 (.slice (some ⟨g, 0, none⟩) t.length cap) t.length (flatE vlCells t.reverse)) := by
        have := HSA.out.st
        unfold OwnVl at this
        show World.ownsRow _ _ _ _ _ _ _
        simpa using this
      have HLA : Hid (Rd ((Z.alloc (.cells #[.int .i64 v.k, .float .f64 (fb v.x), .string (bs v.s)] 48)).drew) (some ⟨Z.heap.size, 0, none⟩) 1 1 3 (vlCells v)) := (Rd.lone Z #[.int .i64 v.k, .float .f64 (fb v.x), .string (bs v.s)] 3 rfl 48).below (Below.refl _ _).drew
      have HSZ : Hid (w.heap.size ≤ (((Z.alloc (.cells #[.int .i64 v.k, .float .f64 (fb v.x), .string (bs v.s)] 48)).drew)).heap.size) := Lib.hid HSA.out.sz
      go_wp2_with (at_builtin; refine wpList_app SVl rfl (.tmp 91) (.tmp 93) rfl w.heap.size rfl HOA.out rfl HLA.out (by simp [vlCells, Value.oneCell']) (by omega) (by unfold maxLen; omega) HSZ.out ?_)
      intro v5 w5 hown5 hb5 hg5
      have hs5 := HSA.out.push v (v5 := v5) (W' := w5) (by simpa using hown5) hg5
      have HS5 := Lib.hid hs5
      clear hown5 hb5 hg5 hs5
      go_wp2_with fail
      go_roundw
      case rel => exact ⟨k + 1, _, by omega, by go_num, HA2.out, HS5.out⟩
      case measure => simp [intOf]; omega
    · have h2 := HN5.out (by rw [HST.out]; exact h0)
      rw [HST.out] at h2
      have HE5 : Hid (runE p sn = z) := HRE.out.trans h2
      have HZ := Lib.hid h0
      have h0b : (z == 0) = false := by simpa using h0
      clear h2 hv hz h0 hb4 p0 p1 p2
      go_wp2_with fail
      refine bodyPost_ret (results_tmp2 rfl _ _ _) rfl ?_
      exact RunPost.err HE5.out HZ.out HT5.out.bl
  · go_simp
    refine hK.out _ _ ?_ (fun hHeld => ?_)
    · exact HSK.out _ ((Below.refl _ X).drew.alloc (Nat.le_refl _) _)
    clear hK K
    try simp only [Act.put, List.setIfInBounds_toArray, List.set_cons_zero, List.set_cons_succ]
    refine wpAnyH_ready (rs := [12]) (by kernel_rfl) (by simp) ?_
    refine AllReadyH.cons rfl (fun K hK => ?_) AllReadyH.nil
    go_simp
    go_at_call 51
    refine (HRK.out _).mono ?_
    rintro e w4 ⟨v, rfl, hv, hb4⟩
    obtain ⟨z, hz⟩ : ∃ z, (twoP o.c a2 b).2 = z := ⟨_, rfl⟩
    rw [hz] at hv HST ⊢
    unfold VA
    have hbA : Below X.heap.size X w4 := ((Below.refl _ X).drew.alloc (Nat.le_refl _) _).trans (hb4.mono (by simp))
    have hth : w4.there X.heap.size 0 3 := there_keep (there_new X.drew #[.int .i64 0, .float .f64 0, .string ⟨#[]⟩] 48 3 rfl) hb4 (by simp)
    have hro : w4.heap[X.heap.size]? = some (.cells #[.int .i64 0, .float .f64 0, .string ⟨#[]⟩] 48 (0, 0)) := (hb4.block X.heap.size (by simp)).trans (heap_alloc_new X.drew _)
    obtain ⟨u0, u1, u2, p0, p1, p2, p3, p4, p5⟩ := st3 hth (.int .i64 v.k) (.float .f64 (fb v.x))
    refine hK.out _ _ ?_ (fun hHeld => ?_)
    · exact HSK.out _ hbA
    clear hK K
    try simp only [Act.put, List.setIfInBounds_toArray, List.set_cons_zero, List.set_cons_succ]
    refine wpAnyH_takeD9 (i := 13) (d := 69) (v := ?_) rfl (by kernel_rfl) (by kernel_rfl) (by kernel_rfl) (by kernel_rfl) (fun _ _ _ h => h) (Or.inl ⟨by kernel_rfl, ?_⟩) (by assumption) ?_
    rotate_left
    · intro w hSw; (try dsimp only at hSw); go_simp; (try with_reducible rfl)
    try simp only [Act.put, List.setIfInBounds_toArray, List.set_cons_zero, List.set_cons_succ]
    refine wpAnyH_takeD9 (i := 14) (d := 83) (v := ?_) rfl (by kernel_rfl) (by kernel_rfl) (by kernel_rfl) (by kernel_rfl) (fun _ _ _ h => h) (Or.inl ⟨by kernel_rfl, ?_⟩) (by assumption) ?_
    rotate_left
    · intro w hSw; (try dsimp only at hSw); go_simp; (try with_reducible rfl)
    try simp only [Act.put, List.setIfInBounds_toArray, List.set_cons_zero, List.set_cons_succ]
    refine wpAnyH_takeD9 (i := 15) (d := 84) (v := ?_) rfl (by kernel_rfl) (by kernel_rfl) (by kernel_rfl) (by kernel_rfl) (fun _ _ _ h => h) (Or.inl ⟨by kernel_rfl, ?_⟩) (by assumption) ?_
    rotate_left
    · intro w hSw; (try dsimp only at hSw); go_simp; (try with_reducible rfl)
    try simp only [Act.put, List.setIfInBounds_toArray, List.set_cons_zero, List.set_cons_succ]
    refine wpAnyH_ready (rs := [17]) (by kernel_rfl) (by simp) ?_
    refine AllReadyH.cons rfl (fun K hK => ?_) AllReadyH.nil
    go_simp
    refine hK.out _ _ ?_ (fun hHeld => ?_)
    · exact HSK.out _ (((hbA.setCell (p := ⟨X.heap.size, 0, none⟩) (Nat.le_refl _) _).setCell (p := ⟨X.heap.size, 1, none⟩) (Nat.le_refl _) _).setCell (p := ⟨X.heap.size, 2, none⟩) (Nat.le_refl _) _)
    clear hK K
    try simp only [Act.put, List.setIfInBounds_toArray, List.set_cons_zero, List.set_cons_succ]
    refine wpAnyH_takeD9 (i := 18) (d := 18) (v := ?_) rfl (by kernel_rfl) (by kernel_rfl) (by kernel_rfl) (by kernel_rfl) (fun _ _ _ h => h) (Or.inl ⟨by kernel_rfl, ?_⟩) (by assumption) ?_
    rotate_left
    · intro w hSw; (try dsimp only at hSw); go_simp; (try with_reducible rfl)
    try simp only [Act.put, List.setIfInBounds_toArray, List.set_cons_zero, List.set_cons_succ]
    refine wpAnyH_done (by kernel_rfl) ?_ _
    have hr3 := row_set (i := 2) (v := .string (bs v.s)) (row_set (i := 1) (v := .float .f64 (fb v.x)) (row_set (i := 0) (v := .int .i64 v.k) hro rfl) rfl) rfl
    have p0 := cell_of_row _ X.heap.size 0 _ _ _ hr3
    have p1 := cell_of_row _ X.heap.size 1 _ _ _ hr3
    have p2 := cell_of_row _ X.heap.size 2 _ _ _ hr3
    have hbZ : Below X.heap.size X (((w4.setCell ⟨X.heap.size, 0, none⟩ (.int .i64 v.k)).setCell ⟨X.heap.size, 1, none⟩ (.float .f64 (fb v.x))).setCell ⟨X.heap.size, 2, none⟩ (.string (bs v.s))) := (((hbA.setCell (p := ⟨X.heap.size, 0, none⟩) (Nat.le_refl _) _).setCell (p := ⟨X.heap.size, 1, none⟩) (Nat.le_refl _) _).setCell (p := ⟨X.heap.size, 2, none⟩) (Nat.le_refl _) _)
    have HT5 := Lib.hid (HT9.out.below hbZ)
    clear hbZ
    obtain ⟨Z, hZ⟩ : ∃ Z, (((w4.setCell ⟨X.heap.size, 0, none⟩ (.int .i64 v.k)).setCell ⟨X.heap.size, 1, none⟩ (.float .f64 (fb v.x))).setCell ⟨X.heap.size, 2, none⟩ (.string (bs v.s))) = Z := ⟨_, rfl⟩
    obtain ⟨pv, hpv⟩ : ∃ pv, X.heap.size = pv := ⟨_, rfl⟩
    rw [hZ] at HT5 p0 p1 p2 ⊢
    clear hZ hbA hth hro p3 p4 p5 hr3
    rw [hpv] at p0 p1 p2 ⊢
    clear hpv
    simp only [Array.setIfInBounds, List.size_toArray, List.length_cons, List.length_nil, List.set_toArray] at p0 p1 p2
    simp at p0 p1 p2
    clear hHeld
    by_cases h0 : z = 0
    · have hv1 := hv h0
      subst h0
      have h2 := HN4.out (by rw [HST.out])
      rw [HST.out, hv1] at h2
      have HA2 : Hid (RunAt p sn (k + 1) ⟨v :: t, wl⟩) := h2
      clear h2 hv hv1 hz hb4
      go_wp2_with fail
      have k0 := cell_alloc_keep (o := .cells #[.int .i64 v.k, .float .f64 (fb v.x), .string (bs v.s)] 48) p0
      have k1 := cell_alloc_keep (o := .cells #[.int .i64 v.k, .float .f64 (fb v.x), .string (bs v.s)] 48) p1
      have k2 := cell_alloc_keep (o := .cells #[.int .i64 v.k, .float .f64 (fb v.x), .string (bs v.s)] 48) p2
      refine wp_region_ht 6 (fun W => W.cell? ⟨pv, 0, none⟩ = some (.int .i64 v.k) ∧ W.cell? ⟨pv, 1, none⟩ = some (.float .f64 (fb v.x)) ∧ W.cell? ⟨pv, 2, none⟩ = some (.string (bs v.s))) (by kernel_rfl) (by kernel_rfl) ?_ (fun hHeld => ?_)
      · exact ⟨p0, p1, p2⟩
      try simp only [Act.put, List.setIfInBounds_toArray, List.set_cons_zero, List.set_cons_succ]
      refine wpHT_takeD (i := 0) (d := 88) (v := ?_) (by kernel_rfl) rfl rfl (by decide) (by kernel_rfl) (by kernel_rfl) (fun _ _ _ h => h) (Or.inl ⟨by kernel_rfl, ?_⟩) (by assumption) ?_
      rotate_left
      · intro w hSw; (try dsimp only at hSw); go_simp; (try with_reducible rfl)
      try simp only [Act.put, List.setIfInBounds_toArray, List.set_cons_zero, List.set_cons_succ]
      refine wpHT_takeD (i := 1) (d := 89) (v := ?_) (by kernel_rfl) rfl rfl (by decide) (by kernel_rfl) (by kernel_rfl) (fun _ _ _ h => h) (Or.inl ⟨by kernel_rfl, ?_⟩) (by assumption) ?_
      rotate_left
      · intro w hSw; (try dsimp only at hSw); go_simp; (try with_reducible rfl)
      try simp only [Act.put, List.setIfInBounds_toArray, List.set_cons_zero, List.set_cons_succ]
      refine wpHT_takeD (i := 2) (d := 90) (v := ?_) (by kernel_rfl) rfl rfl (by decide) (by kernel_rfl) (by kernel_rfl) (fun _ _ _ h => h) (Or.inl ⟨by kernel_rfl, ?_⟩) (by assumption) ?_
      rotate_left
      · intro w hSw; (try dsimp only at hSw); go_simp; (try with_reducible rfl)
      try simp only [Act.put, List.setIfInBounds_toArray, List.set_cons_zero, List.set_cons_succ]
      refine wpHT_takeD (i := 3) (d := 91) (v := ?_) (by kernel_rfl) rfl rfl (by decide) (by kernel_rfl) (by kernel_rfl) (fun _ _ _ h => h) (Or.inl ⟨by kernel_rfl, ?_⟩) (by assumption) ?_
      rotate_left
      · intro w hSw; (try dsimp only at hSw); go_simp; (try with_reducible rfl)
      try simp only [Act.put, List.setIfInBounds_toArray, List.set_cons_zero, List.set_cons_succ]
      refine wpHT_takeD (i := 4) (d := 92) (v := ?_) (by kernel_rfl) rfl rfl (by decide) (by kernel_rfl) (by kernel_rfl) (fun _ _ _ h => h) (Or.inl ⟨by kernel_rfl, ?_⟩) (by assumption) ?_
      rotate_left
      · intro w hSw; (try dsimp only at hSw); go_simp; (try with_reducible rfl)
      try simp only [Act.put, List.setIfInBounds_toArray, List.set_cons_zero, List.set_cons_succ]
      refine wpHT_one (i := 5) (by kernel_rfl) rfl (by decide) (fun K hK => ?_)
      go_simp
      refine hK.out _ _ ?_ (fun hHeld => ?_)
      · exact ⟨k0, k1, k2⟩
      clear hK K
      try simp only [Act.put, List.setIfInBounds_toArray, List.set_cons_zero, List.set_cons_succ]
      refine wpHT_done (by kernel_rfl) ?_
      simp only [List.drop_succ_cons, List.drop_zero]
      clear hHeld p0 p1 p2 k0 k1 k2
      have HSA := Lib.hid (HT5.out.below ((Below.refl _ Z).alloc (Nat.le_refl _) (.cells #[.int .i64 v.k, .float .f64 (fb v.x), .string (bs v.s)] 48)).drew)
      have HOA : Hid (World.ownsRow ((Z.alloc (.cells #[.int .i64 v.k, .float .f64 (fb v.x), .string (bs v.s)] 48)).drew) w.heap.size 48 3 (.slice (some ⟨g, 0, none⟩) t.length cap) t.length (flatE vlCells t.reverse)) := by
        have := HSA.out.st
        unfold OwnVl at this
        show World.ownsRow _ _ _ _ _ _ _
        simpa using this
      have HLA : Hid (Rd ((Z.alloc (.cells #[.int .i64 v.k, .float .f64 (fb v.x), .string (bs v.s)] 48)).drew) (some ⟨Z.heap.size, 0, none⟩) 1 1 3 (vlCells v)) := (Rd.lone Z #[.int .i64 v.k, .float .f64 (fb v.x), .string (bs v.s)] 3 rfl 48).below (Below.refl _ _).drew
      have HSZ : Hid (w.heap.size ≤ (((Z.alloc (.cells #[.int .i64 v.k, .float .f64 (fb v.x), .string (bs v.s)] 48)).drew)).heap.size) := Lib.hid HSA.out.sz
      go_wp2_with (at_builtin; refine wpList_app SVl rfl (.tmp 91) (.tmp 93) rfl w.heap.size rfl HOA.out rfl HLA.out (by simp [vlCells, Value.oneCell']) (by omega) (by unfold maxLen; omega) HSZ.out ?_)
      intro v5 w5 hown5 hb5 hg5
      have hs5 := HSA.out.push v (v5 := v5) (W' := w5) (by simpa using hown5) hg5
      have HS5 := Lib.hid hs5
      clear hown5 hb5 hg5 hs5
      go_wp2_with fail
      go_roundw
      case rel => exact ⟨k + 1, _, by omega, by go_num, HA2.out, HS5.out⟩
      case measure => simp [intOf]; omega
    · have h2 := HN5.out (by rw [HST.out]; exact h0)
      rw [HST.out] at h2
      have HE5 : Hid (runE p sn = z) := HRE.out.trans h2
      have HZ := Lib.hid h0
      have h0b : (z == 0) = false := by simpa using h0
      clear h2 hv hz h0 hb4 p0 p1 p2
      go_wp2_with fail
      refine bodyPost_ret (results_tmp2 rfl _ _ _) rfl ?_
      exact RunPost.err HE5.out HZ.out HT5.out.bl
end
theorem run9_ok (ap : Option Addr) (np cp : Nat) (p : List OpP) (a : Option Addr) (n cap : Nat) (sn : List SnP) (w : World) (hP : RdO w ap np cp p) (hS : RdS w a n cap sn) (hnp : np ≤ 1000) (hc : checkP p = 0) (hmb : missB sn (readsP p) = false) (hbb : badB sn (readsP p) = false) :
    Calls Tryz.prog 25 #[.slice ap np cp, .slice a n cap] w (RunPost w p sn) := by
  refine (run9_parts ap np cp p a n cap sn w).2 hP hS hnp hc hmb hbb ?_
  intro _ _ _ _ _ _ _ _ _ _ _ _ _ _ _ _ _ _ _ _ _ _ _ _ _ _ _ wr _ _ _ _ _ _ _ _ _ _ _ _ _ _ _ _ _ _ _ _ _ _ _ _ _ _ _ _ _ _ _ _ _ _ _ _ _ _ _ _ _ _ _ _ _ _ _ _ _ _ _ _ _ _ _ _ _ _ _ _ _ _ _ _ _ _ _ _ _ _ _ _ _ _ _ _ _ _ _ _ _ _ _ _ _ _ _ _ _ _ _ _ _ _ _ _ _ _ _ _ _ _ _ _ _ _ _ _ _ _ _ _ _ _ _ _ _ _ _ _ _ _ _ _ _ _ _ _ _ _ _ _ _ _ _ _ _ _ _ _ _ _ _ _ _ _ _ _ _ _ _ _ _ _ _ _ _ _ _ _ _ _ _ _ _ _ _ _ k st wl hnp HP HS HN HM HCK HMS HRE hlt2 HA HSN
  obtain ⟨o, ho⟩ : ∃ o, p[k]? = some o := ⟨_, List.getElem?_eq_getElem (by have := HN.out; omega)⟩
  obtain ⟨n1, _⟩ := HA.out.next ho
  obtain ⟨n11, n12⟩ := codeOk_iff n1
  have hcs : o.c = 1 ∨ o.c = 2 ∨ o.c = 3 ∨ o.c = 4 ∨ o.c = 13 ∨ o.c = 14 ∨ o.c = 15 ∨ (5 ≤ o.c ∧ o.c ≤ 12) := by omega
  clear n1 n11 n12
  rcases hcs with hc | hc | hc | hc | hc | hc | hc | hc
  · exact run9_c1 hnp HP HS HN HM HCK HMS hlt2 HA HSN ho hc
  · exact run9_c2 hnp HP HN HCK hlt2 HA HSN ho hc
  · exact run9_c3 hnp HP HN HCK hlt2 HA HSN ho hc
  · exact run9_c4 hnp HP HN HCK hlt2 HA HSN ho hc
  · exact run9_c13 hnp HP HN HCK HRE hlt2 HA HSN ho hc
  · exact run9_c14 hnp HP HN HCK hlt2 HA HSN ho hc
  · exact run9_c15 hnp HP HN HCK hlt2 HA HSN ho hc
  · exact run9_c5 hnp HP HN HCK HRE hlt2 HA HSN ho hc
theorem run9_any (ap : Option Addr) (np cp : Nat) (p : List OpP) (a : Option Addr) (n cap : Nat) (sn : List SnP) (w : World) (hP : RdO w ap np cp p) (hS : RdS w a n cap sn) (hnp : np ≤ 1000) :
    Calls Tryz.prog 25 #[.slice ap np cp, .slice a n cap] w (RunPost w p sn) := by
  by_cases hc : checkP p = 0
  · cases hm : missB sn (readsP p) with
    | true => exact run9_no ap np cp p a n cap sn w hP hS hnp (.inr (.inl hm))
    | false =>
      cases hb : badB sn (readsP p) with
      | true => exact run9_no ap np cp p a n cap sn w hP hS hnp (.inr (.inr hb))
      | false => exact run9_ok ap np cp p a n cap sn w hP hS hnp hc hm hb
  · exact run9_no ap np cp p a n cap sn w hP hS hnp (.inl hc)
end Go.Proofs.YtalpbphfmelhhaaGreatDoor
