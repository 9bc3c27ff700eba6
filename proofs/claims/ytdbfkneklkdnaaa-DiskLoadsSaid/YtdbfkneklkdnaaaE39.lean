/-
  The reference's disk: Crash.
-/
import Derived.Test.YtdbfkneklkdnaaaE38
import Derived.Deep.DeepCutAuto
namespace Go.Proofs.Ytdbfkneklkdnaaa
open Go.RowKit Go.Maps Go.Sort
set_option maxRecDepth 100000
attribute [local go_sem] bs_size bs_toList

/-- Is a pick above 0? -/
def posB (p : List Int) (i : Nat) : Bool := match p[i]? with
  | some x => decide (0 < x)
  | none => false
theorem keepN_pos' {picks : List Int} {i : Nat} {p : Int} (h : picks[i]? = some p) (hp : 0 < p) {dl sf : Nat} (hs : sf ≤ dl) : ((keepN picks i (dl - sf) : Nat) : Int) = p % ((dl : Int) - (sf : Int) + 1) := keepN_pos h (by omega) hs
theorem keepN_not' {picks : List Int} {i : Nat} (h : posB picks i = false) (lo : Nat) : keepN picks i lo = 0 := by
  unfold posB at h
  unfold keepN
  cases hp : picks[i]? with
  | none => rfl
  | some p =>
    rw [hp] at h
    simp at h
    simp only []
    by_cases h0 : 0 ≤ p
    · obtain rfl : p = 0 := by omega
      simp
    · rw [if_neg h0]
theorem posB_some {picks : List Int} {i : Nat} (h : posB picks i = true) : ∃ p, picks[i]? = some p ∧ 0 < p := by
  unfold posB at h
  cases hp : picks[i]? with
  | none => rw [hp] at h; cases h
  | some p => rw [hp] at h; exact ⟨p, rfl, by simpa using h⟩
theorem CrashAt.nextR {picks : List Int} {l cur : List Fl} {k i : Nat} (h : CrashAt picks l cur k i) (hk : k < l.length) :
    ∃ f, cur[k]? = some f ∧ (f.dt.length = f.sf → CrashAt picks l cur (k + 1) i) ∧
      (f.dt.length ≠ f.sf → ∀ x, x = f.sf + keepN picks i (f.dt.length - f.sf) → CrashAt picks l (cur.set k ⟨f.nm, f.dt.take x, x⟩) (k + 1) (i + 1)) := by
  obtain ⟨pre, r, rfl, hp, hc, hn⟩ := h
  have hlen := congrArg List.length hn
  simp at hlen
  cases r with
  | nil => simp at hlen; omega
  | cons f r =>
    refine ⟨f, by rw [List.getElem?_append_right (by omega)]; simp [hp], fun e => ?_, fun e x hx => ?_⟩
    · refine ⟨pre ++ [f], r, by simp, by simp [hp], ?_, hn⟩
      rw [hc, crashL_cons, if_pos e]
      simp
    · subst hx
      have hset : (pre ++ f :: r).set k ⟨f.nm, f.dt.take (f.sf + keepN picks i (f.dt.length - f.sf)), f.sf + keepN picks i (f.dt.length - f.sf)⟩ = pre ++ ⟨f.nm, f.dt.take (f.sf + keepN picks i (f.dt.length - f.sf)), f.sf + keepN picks i (f.dt.length - f.sf)⟩ :: r := by
        rw [List.set_append, if_neg (by omega), show k - pre.length = 0 by omega]; rfl
      rw [hset]
      refine ⟨pre ++ [⟨f.nm, f.dt.take (f.sf + keepN picks i (f.dt.length - f.sf)), f.sf + keepN picks i (f.dt.length - f.sf)⟩], r, by simp, by simp [hp], ?_, by rw [← hn]; simp⟩
      rw [hc, crashL_cons, if_neg e]
      simp
/-- The reference's disk within Crash. -/
structure RfC (w wr : World) (c : Nat) (S S' : Nat → Prop) (s : DS) (cur : List Fl) : Prop where
  rf : Rf wr c S' { s with fs := cur }
  sub : ∀ q, S q → S' q
  inx : ∀ q, S' q → Sx S w wr q
  fr : Fr S w wr
theorem RfC.start {w : World} {c : Nat} {S : Nat → Prop} {s : DS} (h : Rf w c S s) : RfC w w c S S s s.fs := ⟨h, fun _ h => h, fun _ h => .inl h, Fr.refl _ _⟩
theorem RfC.new {w wr w' : World} {c : Nat} {S S' : Nat → Prop} {s : DS} {cur : List Fl} (h : RfC w wr c S S' s cur) (hb : Below wr.heap.size wr w') : RfC w w' c S S' s cur :=
  ⟨h.rf.below hb, h.sub, fun q hq => (h.inx q hq).elim .inl fun h => .inr ⟨h.1, Nat.lt_of_lt_of_le h.2 hb.size⟩, h.fr.trans (Fr.of_new hb)⟩
/-- What a file's sizes are. -/
def Siz (cur : List Fl) : Prop := ∀ g ∈ cur, g.sf ≤ g.dt.length ∧ g.dt.length ≤ 4194304
theorem Siz.set {cur : List Fl} (h : Siz cur) (k : Nat) {g : Fl} (hg : g.sf ≤ g.dt.length ∧ g.dt.length ≤ 4194304) : Siz (cur.set k g) := fun x hx => by
  rcases List.mem_or_eq_of_mem_set hx with hx | rfl
  · exact h x hx
  · exact hg
set_option maxHeartbeats 8000000 in
theorem rcrash_any (c : Nat) (S : Nat → Prop) (B : Int) (s : DS) (ap : Option Addr) (np cp : Nat) (picks : List Int) (hok : DOk B s) (w : World) (h : Rf w c S s) (hp : RdI w ap np cp picks) (hpn : BlkIn ap np fun b => ¬ S b) :
    Calls Try.prog 52 #[.pointer (some ⟨c, 0, none⟩), .slice ap np cp] w fun e w' => e = .returned (.tuple #[]) ∧ Rf w' c (Sx S w w') (crashS s picks) ∧ Fr S w w' := by
  have H0 := Lib.hid (RfC.start h)
  have HIN := Lib.hid h.in
  have HLT := Lib.hid h.lt
  have HP := Lib.hid hp
  have HPN := Lib.hid hpn
  have hl64 := hok.len
  have hnp : np ≤ 9223372036854775807 := Nat.le_trans hp.2.1.1 hp.2.1.2.1
  have HSI : Hid (Siz s.fs) := fun g hg => ⟨(hok.each g hg).2.2, Nat.le_trans (dt_le_tot hg) hok.tot⟩
  clear h hp hpn hok
  obtain ⟨m, hm⟩ : ∃ m, s.fs.length = m := ⟨_, rfl⟩
  have HM := Lib.hid hm
  rw [hm] at hl64
  clear hm
  go_enter Try.func52, Try.ntmps52
  go_wp2_with fail
  go_loopw [4, 5, 6, 7, 8] (fun i k _ _ _ wr => ∃ (J I : Nat) (cur : List Fl) (S' : Nat → Prop), J ≤ m ∧ I ≤ J ∧ k = .int .i64 (J : Nat) ∧ i = .int .i64 (I : Nat) ∧ Hid (CrashAt picks s.fs cur J I) ∧ Hid (RfC w wr c S S' s cur) ∧ Hid (Siz cur) ∧ Hid (cur.length = m)) (fun _ k _ _ _ _ => m - (intOf k).toNat)
  case atStart => exact ⟨0, 0, s.fs, S, Nat.zero_le _, Nat.le_refl _, rfl, rfl, CrashAt.start _ _, H0.out, HSI.out, HM.out⟩
  case round =>
    obtain ⟨J, I, cur, S', hK, hI, rfl, rfl, HC, HR, HSC, HLC⟩ := hrel
    by_cases hlt : J < m
    · obtain ⟨f, hf, hsame, hnext⟩ := HC.out.nextR (by rw [HM.out]; exact hlt)
      obtain ⟨b, cap1, aj, cj, hc1, v0, v1, v2, v3, v4, v5, v6, v7, v8⟩ := HR.out.rf.view hf
      have hc1 : wr.heap[c]? = some (.cells #[.slice (some ⟨b, 0, none⟩) m cap1, .bool s.dn, .int .i64 s.ar, .int .i64 s.wr] 51 (0, 0)) := by rw [← HLC.out]; exact hc1
      have c0 := cell_of_row wr c 0 _ _ _ hc1
      obtain ⟨hsf, hdl⟩ := HSC.out f (List.mem_of_getElem? hf)
      obtain ⟨W, hW, hbw, hsz, g0, g1, g2⟩ := fileAt wr f (.slice aj f.dt.length cj)
      have hW' : wr.alloc (.cells #[.string (bs f.nm), .slice aj f.dt.length cj, .int .i64 (f.sf : Nat)] 43) = W := hW.symm
      have HFK := Lib.hid hf
      have HSAME := Lib.hid hsame
      have HNEXT := Lib.hid hnext
      have HRW := Lib.hid (HR.out.new hbw)
      have HBW := Lib.hid hbw
      have H8 := Lib.hid (v5.below hbw)
      have HV3 : Hid (W.frozen? ⟨b, J * 3 + 1, none⟩ = false) := ((Fr.of_new (S := fun _ => False) hbw).frozen (p := ⟨b, J * 3 + 1, none⟩) (HR.out.rf.lt b v8) (fun h => h)).trans v3
      have HPR := Lib.hid (HP.out.keep HRW.out.fr HPN.out)
      have HBB : Hid (b < W.heap.size) := Nat.lt_of_lt_of_le (HR.out.rf.lt b v8) hbw.size
      have HSB := Lib.hid v8
      have HBR : Hid (b < wr.heap.size) := HR.out.rf.lt b v8
      have HSZW := Lib.hid hsz
      have C0 := Lib.hid (cell_below c0 hbw)
      have V1 := Lib.hid (cell_below v1 hbw)
      clear hf hsame hnext hc1 v3 v4 v5 v6 v7 v8 hW hbw hsz HC HR
      go_upto_region 5 with fail
      clear c0 v0 v1 v2 hW'
      by_cases hlo : f.dt.length = f.sf
      · have e1 : ((f.dt.length : Int) - (f.sf : Int) == 0) = true := by simp; omega
        have HLO := Lib.hid hlo
        clear hlo
        go_wp2_with fail
        go_roundw
        case rel => exact ⟨J + 1, I, cur, S', by omega, by omega, by go_num, rfl, HSAME.out HLO.out, HRW.out, HSC.out, HLC.out⟩
        case measure => simp [intOf]; omega
      · have e1 : ((f.dt.length : Int) - (f.sf : Int) == 0) = false := by simp; omega
        have HLO := Lib.hid hlo
        clear hlo
        go_upto_region 8 with fail
        clear e1
        go_cut [43] (fun c43 wx => c43 = .bool (posB picks I) ∧ W = wx)
        case first =>
          have hpl := HPR.out.1
          by_cases hi : I < np
          · obtain ⟨bp, off, hab, hbb, hcell⟩ := HPR.out.2.1.at (by omega)
            subst hab
            obtain ⟨p, hpi⟩ : ∃ p, picks[I]? = some p := ⟨_, List.getElem?_eq_getElem (by omega)⟩
            have gp := hcell I (.int .i64 p) (by rw [List.getElem?_map, hpi]; rfl)
            have HT : Hid (posB picks I = decide (0 < p)) := by show _ = _; unfold posB; rw [hpi]
            clear hcell hpi hpl
            by_cases hp0 : 0 < p
            case' pos => have dp : decide (0 < p) = true := by simpa using hp0
            case' neg => have dp : decide (0 < p) = false := by simpa using hp0
            all_goals
              go_wp2_with fail
              go_meet
              exact ⟨by rw [HT.out, dp], rfl⟩
          · have HT : Hid (posB picks I = false) := by show _ = _; unfold posB; rw [List.getElem?_eq_none (by omega)]
            clear hpl
            go_wp2_with fail
            go_meet
            exact ⟨by rw [HT.out], rfl⟩
        case rest =>
          obtain ⟨rfl, rfl⟩ := hcut
          go_upto_if 43 with fail
          go_cut [8] (fun k8 wx => k8 = .int .i64 ((keepN picks I (f.dt.length - f.sf) : Nat) : Int) ∧ W = wx)
          case first =>
            cases htb : posB picks I with
            | true =>
              obtain ⟨p, hpi, hp0⟩ := posB_some htb
              have hpl := HPR.out.1
              have hil : I < picks.length := (List.getElem?_eq_some_iff.1 hpi).1
              obtain ⟨bp, off, hab, hbb, hcell⟩ := HPR.out.2.1.at (by omega)
              subst hab
              have gp := hcell I (.int .i64 p) (by rw [List.getElem?_map, hpi]; rfl)
              have hpw := HPR.out.2.2 p (List.mem_of_getElem? hpi)
              have HKP := Lib.hid (keepN_pos' hpi hp0 hsf)
              have o2 : IntKind.i64.wrap ((f.dt.length : Int) - (f.sf : Int) + 1) = (f.dt.length : Int) - (f.sf : Int) + 1 := IntWalk.i64_in _ (by omega)
              have o3 : (0 : Int) < (f.dt.length : Int) - (f.sf : Int) + 1 := by omega
              have hin : I < np := by omega
              clear hcell hpi hil hpl htb
              go_wp2_with fail
              go_meet
              exact ⟨by rw [HKP.out], rfl⟩
            | false =>
              have HKN := Lib.hid (keepN_not' htb (f.dt.length - f.sf))
              clear htb
              go_wp2_with fail
              go_meet
              exact ⟨by rw [HKN.out]; rfl, rfl⟩
          case rest =>
            obtain ⟨rfl, rfl⟩ := hcut
            have hkl := keepN_le picks I (f.dt.length - f.sf)
            obtain ⟨kk, hkk⟩ : ∃ kk, keepN picks I (f.dt.length - f.sf) = kk := ⟨_, rfl⟩
            rw [hkk] at hkl ⊢
            have HKK := Lib.hid hkk
            clear hkk
            obtain ⟨D, hD⟩ : ∃ D, f.dt.take (f.sf + kk) = D := ⟨_, rfl⟩
            have hDl : D.length = f.sf + kk := by rw [← hD, List.length_take]; omega
            obtain ⟨ad, cd, hrun0, hrd⟩ := run_slice8 (P := Try.prog) S5 H8.out none (some (.int .i64 ((f.sf + kk : Nat) : Int))) 0 (f.sf + kk) (.inl ⟨rfl, rfl⟩) (.inr rfl) (Nat.zero_le _) (by omega)
            rw [Nat.sub_zero] at hrun0 hrd
            rw [List.drop_zero, hD] at hrd
            have e1 : ((f.sf + kk : Nat) : Int) = (f.sf : Int) + (kk : Int) := by omega
            rw [e1] at hrun0
            have o4 : IntKind.i64.wrap ((f.sf : Int) + (kk : Int)) = (f.sf : Int) + (kk : Int) := IntWalk.i64_in _ (by omega)
            have HDD := Lib.hid hD
            have HDL := Lib.hid hDl
            have HE1 := Lib.hid e1
            have HRD := Lib.hid hrd
            have c0 := C0.out
            have v1 := V1.out
            clear hD hDl hrd e1
            go_wp2_with fail
            refine wp_region_ht 15 (fun W => W.cell? ⟨c, 0, none⟩ = some (.slice (some ⟨b, 0, none⟩) m cap1) ∧ W.cell? ⟨wr.heap.size, 1, none⟩ = some (.slice aj f.dt.length cj) ∧ W.cell? ⟨wr.heap.size, 2, none⟩ = some (.int .i64 (f.sf : Nat))) (by kernel_rfl) (by kernel_rfl) ?_ (fun hHeld => ?_)
            · exact ⟨c0, g1, g2⟩
            try simp only [Act.put, List.setIfInBounds_toArray, List.set_cons_zero, List.set_cons_succ]
            refine wpHT_takeD (i := 0) (d := 51) (v := ?_) (by kernel_rfl) rfl rfl (by decide) (by kernel_rfl) (by kernel_rfl) (fun _ _ _ h => h) (Or.inl ⟨by kernel_rfl, ?_⟩) (by assumption) ?_
            rotate_left
            · intro w hSw; (try dsimp only at hSw); go_simp; (try with_reducible rfl)
            try simp only [Act.put, List.setIfInBounds_toArray, List.set_cons_zero, List.set_cons_succ]
            refine wpHT_takeD (i := 1) (d := 52) (v := ?_) (by kernel_rfl) rfl rfl (by decide) (by kernel_rfl) (by kernel_rfl) (fun _ _ _ h => h) (Or.inl ⟨by kernel_rfl, ?_⟩) (by assumption) ?_
            rotate_left
            · intro w hSw; (try dsimp only at hSw); go_simp; (try with_reducible rfl)
            try simp only [Act.put, List.setIfInBounds_toArray, List.set_cons_zero, List.set_cons_succ]
            refine wpHT_takeD (i := 2) (d := 53) (v := ?_) (by kernel_rfl) rfl rfl (by decide) (by kernel_rfl) (by kernel_rfl) (fun _ _ _ h => h) (Or.inl ⟨by kernel_rfl, ?_⟩) (by assumption) ?_
            rotate_left
            · intro w hSw; (try dsimp only at hSw); go_simp; (try with_reducible rfl)
            try simp only [Act.put, List.setIfInBounds_toArray, List.set_cons_zero, List.set_cons_succ]
            refine wpHT_takeD (i := 3) (d := 54) (v := ?_) (by kernel_rfl) rfl rfl (by decide) (by kernel_rfl) (by kernel_rfl) (fun _ _ _ h => h) (Or.inl ⟨by kernel_rfl, ?_⟩) (by assumption) ?_
            rotate_left
            · intro w hSw; (try dsimp only at hSw); go_simp; (try with_reducible rfl)
            try simp only [Act.put, List.setIfInBounds_toArray, List.set_cons_zero, List.set_cons_succ]
            refine wpHT_takeD (i := 4) (d := 55) (v := ?_) (by kernel_rfl) rfl rfl (by decide) (by kernel_rfl) (by kernel_rfl) (fun _ _ _ h => h) (Or.inl ⟨by kernel_rfl, ?_⟩) (by assumption) ?_
            rotate_left
            · intro w hSw; (try dsimp only at hSw); go_simp; (try with_reducible rfl)
            try simp only [Act.put, List.setIfInBounds_toArray, List.set_cons_zero, List.set_cons_succ]
            refine wpHT_takeD (i := 5) (d := 56) (v := ?_) (by kernel_rfl) rfl rfl (by decide) (by kernel_rfl) (by kernel_rfl) (fun _ _ _ h => h) (Or.inl ⟨by kernel_rfl, ?_⟩) (by assumption) ?_
            rotate_left
            · intro w hSw; (try dsimp only at hSw); go_simp; (try with_reducible rfl)
            try simp only [Act.put, List.setIfInBounds_toArray, List.set_cons_zero, List.set_cons_succ]
            refine wpHT_takeD (i := 6) (d := 57) (v := ?_) (by kernel_rfl) rfl rfl (by decide) (by kernel_rfl) (by kernel_rfl) (fun _ _ _ h => h) (Or.inl ⟨by kernel_rfl, ?_⟩) (by assumption) ?_
            rotate_left
            · intro w hSw; (try dsimp only at hSw); go_simp; (try with_reducible rfl)
            try simp only [Act.put, List.setIfInBounds_toArray, List.set_cons_zero, List.set_cons_succ]
            refine wpHT_takeD (i := 7) (d := 58) (v := ?_) (by kernel_rfl) rfl rfl (by decide) (by kernel_rfl) (by kernel_rfl) (fun _ _ _ h => h) (Or.inl ⟨by kernel_rfl, ?_⟩) (by assumption) ?_
            rotate_left
            · intro w hSw; (try dsimp only at hSw); go_simp; (try with_reducible rfl)
            try simp only [Act.put, List.setIfInBounds_toArray, List.set_cons_zero, List.set_cons_succ]
            refine wpHT_takeD (i := 8) (d := 59) (v := ?_) (by kernel_rfl) rfl rfl (by decide) (by kernel_rfl) (by kernel_rfl) (fun _ _ _ h => h) (Or.inl ⟨by kernel_rfl, ?_⟩) (by assumption) ?_
            rotate_left
            · intro w hSw; (try dsimp only at hSw); go_simp; (try with_reducible rfl)
            try simp only [Act.put, List.setIfInBounds_toArray, List.set_cons_zero, List.set_cons_succ]
            refine wpHT_takeD (i := 9) (d := 60) (v := ?_) (by kernel_rfl) rfl rfl (by decide) (by kernel_rfl) (by kernel_rfl) (fun _ _ _ h => h) (Or.inl ⟨by kernel_rfl, ?_⟩) (by assumption) ?_
            rotate_left
            · intro w hSw; (try dsimp only at hSw); go_simp; (try with_reducible rfl)
            try simp only [Act.put, List.setIfInBounds_toArray, List.set_cons_zero, List.set_cons_succ]
            refine wpHT_takeD (i := 10) (d := 61) (v := ?_) (by kernel_rfl) rfl rfl (by decide) (by kernel_rfl) (by kernel_rfl) (fun _ _ _ h => h) (Or.inl ⟨by kernel_rfl, ?_⟩) (by assumption) ?_
            rotate_left
            · intro w hSw; (try dsimp only at hSw); go_simp; (try with_reducible rfl)
            try simp only [Act.put, List.setIfInBounds_toArray, List.set_cons_zero, List.set_cons_succ]
            refine wpHT_takeD (i := 11) (d := 62) (v := ?_) (by kernel_rfl) rfl rfl (by decide) (by kernel_rfl) (by kernel_rfl) (fun _ _ _ h => h) (Or.inl ⟨by kernel_rfl, ?_⟩) (by assumption) ?_
            rotate_left
            · intro w hSw; (try dsimp only at hSw); go_simp; (try with_reducible rfl)
            try simp only [Act.put, List.setIfInBounds_toArray, List.set_cons_zero, List.set_cons_succ]
            refine wpHT_one (i := 12) (by kernel_rfl) rfl (by decide) (fun K hK => ?_)
            go_simp
            go_at_call 29
            refine (copyBytes_any _ _ _ D _ (HRD.out.below ((Below.refl _ W).drew)) (by omega)).mono ?_
            rintro e W1 ⟨v39, rfl, ho, hb⟩
            have hb1 : Below W.heap.size W W1 := ((Below.refl _ W).drew).trans hb
            have ho1 : Own8 W1 W.heap.size 5 v39 D := ho
            have HO1 := Lib.hid ho1
            have HB1 := Lib.hid hb1
            have hfz : W1.frozen? ⟨b, J * 3 + 1, none⟩ = false := ((Fr.of_new (S := fun _ => False) hb1).frozen (p := ⟨b, J * 3 + 1, none⟩) HBB.out (fun h => h)).trans HV3.out
            have HC2 := Lib.hid (cell_below c0 hb1)
            have k0 := cell_below c0 hb1
            have k1 := cell_below g1 hb1
            have k2 := cell_below g2 hb1
            have k3 := cell_below v1 hb1
            obtain ⟨a2, cap2, rfl, hr2⟩ := ho1.rd
            have HR2 := Lib.hid hr2
            clear ho hb ho1 hb1 hr2
            refine hK.out _ _ ?_ (fun hHeld => ?_)
            · exact ⟨k0, k1, k2⟩
            clear hK K
            try simp only [Act.put, List.setIfInBounds_toArray, List.set_cons_zero, List.set_cons_succ]
            refine wpHT_takeD (i := 13) (d := 64) (v := ?_) (by kernel_rfl) rfl rfl (by decide) (by kernel_rfl) (by kernel_rfl) (fun _ _ _ h => h) (Or.inl ⟨by kernel_rfl, ?_⟩) (by assumption) ?_
            rotate_left
            · intro w hSw; (try dsimp only at hSw); go_simp; (try with_reducible rfl)
            try simp only [Act.put, List.setIfInBounds_toArray, List.set_cons_zero, List.set_cons_succ]
            refine wpHT_takeD (i := 14) (d := 65) (v := ?_) (by kernel_rfl) rfl rfl (by decide) (by kernel_rfl) (by kernel_rfl) (fun _ _ _ h => h) (Or.inl ⟨by kernel_rfl, ?_⟩) (by assumption) ?_
            rotate_left
            · intro w hSw; (try dsimp only at hSw); go_simp; (try with_reducible rfl)
            try simp only [Act.put, List.setIfInBounds_toArray, List.set_cons_zero, List.set_cons_succ]
            refine wpHT_done (by kernel_rfl) ?_
            simp only [List.drop_succ_cons, List.drop_zero]
            go_wp2_with fail
            have hG : Rf W1 c (Sx S' W W1) { s with fs := cur } := (HRW.out.rf.below HB1.out).grow (fun q hq => .inl hq) (fun q hq => hq.elim (fun h => Nat.lt_of_lt_of_le (HRW.out.rf.lt q h) HB1.out.size) (fun h => h.2))
            have hset := hG.setD HFK.out HC2.out HR2.out (fun _ q hq => by
              have h1 := World.ownsRow.lt HO1.out q (by rw [ownBlock_sl]; exact hq)
              have h2 := HRW.out.rf.lt c (HRW.out.sub c HIN.out)
              have h3 := HBB.out
              exact ⟨.inr h1, by omega, by omega⟩)
            have hSb : ∀ q, S' q → q < w.heap.size → S q := fun q hq h0 => (HRW.out.inx q hq).elim id (fun h => by omega)
            have hfr : Fr S w (W1.setCell ⟨b, J * 3 + 1, none⟩ (.slice a2 D.length cap2)) := (HRW.out.fr.trans (Fr.of_new (S := S) HB1.out)).setCell (fun h0 => hSb b HSB.out h0) _
            have hfb : Fr (fun q => q = b) W1 (W1.setCell ⟨b, J * 3 + 1, none⟩ (.slice a2 D.length cap2)) := (Fr.refl (fun q => q = b) W1).setCell (fun _ => rfl) _
            obtain ⟨W2, hW2⟩ : ∃ W2, W1.setCell ⟨b, J * 3 + 1, none⟩ (.slice a2 D.length cap2) = W2 := ⟨_, rfl⟩
            have hsz2 : W2.heap.size = W1.heap.size := by rw [← hW2]; exact size_setCell _ _ _
            rw [hW2] at hset hfr hfb
            rw [hW2]
            have k2' : W2.cell? ⟨wr.heap.size, 2, none⟩ = some (.int .i64 (f.sf : Nat)) := (hfb.cell (p := ⟨wr.heap.size, 2, none⟩) (World.block_lt_of_cell? _ _ k2) (fun e => by have h1 := HBR.out; have e' : wr.heap.size = b := e; omega)).trans k2
            clear hG HO1 HR2 HC2 hW2 c0 v1 k0 k1 k3 hfz hHeld k2 g0 g1 g2 hfb hrun0
            obtain ⟨b', cap2', aj', cj', hc2, v0, v1, v2, v3, v4, v5, v6, v7, v8⟩ := hset.view (get_set_self HFK.out)
            have hlen2 : (cur.set J ⟨f.nm, D, f.sf⟩).length = m := by rw [List.length_set, HLC.out]
            have hc2 : W2.heap[c]? = some (.cells #[.slice (some ⟨b', 0, none⟩) m cap2', .bool s.dn, .int .i64 s.ar, .int .i64 s.wr] 51 (0, 0)) := by rw [← hlen2]; exact hc2
            have c0 := cell_of_row W2 c 0 _ _ _ hc2
            have HSET := Lib.hid hset
            have HFR := Lib.hid hfr
            have HC0 := Lib.hid c0
            have HSB2 := Lib.hid v8
            have HSZ2 := Lib.hid hsz2
            have HSBS := Lib.hid hSb
            clear hset hfr hc2 v0 v1 v3 v5 v6 v7 v8 hlen2 hsz2 hSb
            refine wp_region_ht 11 (fun W => W.cell? ⟨c, 0, none⟩ = some (.slice (some ⟨b', 0, none⟩) m cap2') ∧ W.cell? ⟨wr.heap.size, 2, none⟩ = some (.int .i64 (f.sf : Nat))) (by kernel_rfl) (by kernel_rfl) ?_ (fun hHeld => ?_)
            · exact ⟨c0, k2'⟩
            try simp only [Act.put, List.setIfInBounds_toArray, List.set_cons_zero, List.set_cons_succ]
            refine wpHT_takeD (i := 0) (d := 66) (v := ?_) (by kernel_rfl) rfl rfl (by decide) (by kernel_rfl) (by kernel_rfl) (fun _ _ _ h => h) (Or.inl ⟨by kernel_rfl, ?_⟩) (by assumption) ?_
            rotate_left
            · intro w hSw; (try dsimp only at hSw); go_simp; (try with_reducible rfl)
            try simp only [Act.put, List.setIfInBounds_toArray, List.set_cons_zero, List.set_cons_succ]
            refine wpHT_takeD (i := 1) (d := 67) (v := ?_) (by kernel_rfl) rfl rfl (by decide) (by kernel_rfl) (by kernel_rfl) (fun _ _ _ h => h) (Or.inl ⟨by kernel_rfl, ?_⟩) (by assumption) ?_
            rotate_left
            · intro w hSw; (try dsimp only at hSw); go_simp; (try with_reducible rfl)
            try simp only [Act.put, List.setIfInBounds_toArray, List.set_cons_zero, List.set_cons_succ]
            refine wpHT_takeD (i := 2) (d := 68) (v := ?_) (by kernel_rfl) rfl rfl (by decide) (by kernel_rfl) (by kernel_rfl) (fun _ _ _ h => h) (Or.inl ⟨by kernel_rfl, ?_⟩) (by assumption) ?_
            rotate_left
            · intro w hSw; (try dsimp only at hSw); go_simp; (try with_reducible rfl)
            try simp only [Act.put, List.setIfInBounds_toArray, List.set_cons_zero, List.set_cons_succ]
            refine wpHT_takeD (i := 3) (d := 69) (v := ?_) (by kernel_rfl) rfl rfl (by decide) (by kernel_rfl) (by kernel_rfl) (fun _ _ _ h => h) (Or.inl ⟨by kernel_rfl, ?_⟩) (by assumption) ?_
            rotate_left
            · intro w hSw; (try dsimp only at hSw); go_simp; (try with_reducible rfl)
            try simp only [Act.put, List.setIfInBounds_toArray, List.set_cons_zero, List.set_cons_succ]
            refine wpHT_takeD (i := 4) (d := 70) (v := ?_) (by kernel_rfl) rfl rfl (by decide) (by kernel_rfl) (by kernel_rfl) (fun _ _ _ h => h) (Or.inl ⟨by kernel_rfl, ?_⟩) (by assumption) ?_
            rotate_left
            · intro w hSw; (try dsimp only at hSw); go_simp; (try with_reducible rfl)
            try simp only [Act.put, List.setIfInBounds_toArray, List.set_cons_zero, List.set_cons_succ]
            refine wpHT_takeD (i := 5) (d := 71) (v := ?_) (by kernel_rfl) rfl rfl (by decide) (by kernel_rfl) (by kernel_rfl) (fun _ _ _ h => h) (Or.inl ⟨by kernel_rfl, ?_⟩) (by assumption) ?_
            rotate_left
            · intro w hSw; (try dsimp only at hSw); go_simp; (try with_reducible rfl)
            try simp only [Act.put, List.setIfInBounds_toArray, List.set_cons_zero, List.set_cons_succ]
            refine wpHT_takeD (i := 6) (d := 72) (v := ?_) (by kernel_rfl) rfl rfl (by decide) (by kernel_rfl) (by kernel_rfl) (fun _ _ _ h => h) (Or.inl ⟨by kernel_rfl, ?_⟩) (by assumption) ?_
            rotate_left
            · intro w hSw; (try dsimp only at hSw); go_simp; (try with_reducible rfl)
            try simp only [Act.put, List.setIfInBounds_toArray, List.set_cons_zero, List.set_cons_succ]
            refine wpHT_takeD (i := 7) (d := 73) (v := ?_) (by kernel_rfl) rfl rfl (by decide) (by kernel_rfl) (by kernel_rfl) (fun _ _ _ h => h) (Or.inl ⟨by kernel_rfl, ?_⟩) (by assumption) ?_
            rotate_left
            · intro w hSw; (try dsimp only at hSw); go_simp; (try with_reducible rfl)
            try simp only [Act.put, List.setIfInBounds_toArray, List.set_cons_zero, List.set_cons_succ]
            refine wpHT_takeD (i := 8) (d := 74) (v := ?_) (by kernel_rfl) rfl rfl (by decide) (by kernel_rfl) (by kernel_rfl) (fun _ _ _ h => h) (Or.inl ⟨by kernel_rfl, ?_⟩) (by assumption) ?_
            rotate_left
            · intro w hSw; (try dsimp only at hSw); go_simp; (try with_reducible rfl)
            try simp only [Act.put, List.setIfInBounds_toArray, List.set_cons_zero, List.set_cons_succ]
            refine wpHT_takeD (i := 9) (d := 75) (v := ?_) (by kernel_rfl) rfl rfl (by decide) (by kernel_rfl) (by kernel_rfl) (fun _ _ _ h => h) (Or.inl ⟨by kernel_rfl, ?_⟩) (by assumption) ?_
            rotate_left
            · intro w hSw; (try dsimp only at hSw); go_simp; (try with_reducible rfl)
            try simp only [Act.put, List.setIfInBounds_toArray, List.set_cons_zero, List.set_cons_succ]
            refine wpHT_takeD (i := 10) (d := 76) (v := ?_) (by kernel_rfl) rfl rfl (by decide) (by kernel_rfl) (by kernel_rfl) (fun _ _ _ h => h) (Or.inl ⟨by kernel_rfl, ?_⟩) (by assumption) ?_
            rotate_left
            · intro w hSw; (try dsimp only at hSw); go_simp; (try with_reducible rfl)
            try simp only [Act.put, List.setIfInBounds_toArray, List.set_cons_zero, List.set_cons_succ]
            refine wpHT_done (by kernel_rfl) ?_
            simp only [List.drop_succ_cons, List.drop_zero]
            go_wp2_with fail
            go_roundw
            case rel =>
              have hs2 := HSET.out.setS (get_set_self HFK.out) HC0.out (f.sf + kk)
              rw [HE1.out] at hs2
              have hSb2 : ∀ q, Sx S' W W1 q → q < w.heap.size → S q := fun q hq h0 => hq.elim (fun h => HSBS.out q h h0) (fun h => by have h1 := HRW.out.fr.size; omega)
              have hfr2 : Fr S w (W2.setCell ⟨b', J * 3 + 2, none⟩ (.int .i64 ((f.sf : Int) + (kk : Int)))) := HFR.out.setCell (fun h0 => hSb2 b' HSB2.out h0) _
              refine ⟨J + 1, I + 1, cur.set J ⟨f.nm, D, f.sf + kk⟩, Sx S' W W1, by omega, by omega, by go_num, by go_num, ?_, ⟨?_, ?_, ?_, hfr2.drew⟩, ?_, ?_⟩
              · have := HNEXT.out HLO.out (f.sf + kk) (by rw [HKK.out])
                rw [HDD.out] at this; exact this
              · have h3 := hs2.drew
                rw [List.set_set] at h3; exact h3
              · exact fun q hq => .inl (HRW.out.sub q hq)
              · intro q hq
                have h1 := HRW.out.fr.size
                have h2 := HB1.out.size
                have h3 : ((W2.setCell ⟨b', J * 3 + 2, none⟩ (.int .i64 ((f.sf : Int) + (kk : Int)))).drew).heap.size = W1.heap.size := (size_setCell W2 _ _).trans HSZ2.out
                rcases hq with hq | hq
                · rcases HRW.out.inx q hq with hq | hq
                  · exact .inl hq
                  · exact .inr ⟨hq.1, by rw [h3]; omega⟩
                · exact .inr ⟨by omega, by rw [h3]; exact hq.2⟩
              · exact HSC.out.set J ⟨by show f.sf + kk ≤ D.length; rw [HDL.out]; exact Nat.le_refl _, by show D.length ≤ _; rw [HDL.out]; omega⟩
              · show (cur.set J _).length = m
                rw [List.length_set]; exact HLC.out
            case measure => simp [intOf]; omega
    · obtain rfl : J = m := by omega
      obtain ⟨a, cap, c0', c1, c2, c3, hr⟩ := HR.out.rf.row
      have c0 : wr.cell? ⟨c, 0, none⟩ = some (.slice a J cap) := by rw [← HLC.out]; exact c0'
      clear c0'
      obtain ⟨v, hcv, hkv⟩ := HR.out.rf.scal (wr' := s.wr) (ar' := 0) (dn' := false)
      have f1 := frozen_of_row wr c 1 _ _ hcv
      have f2 := frozen_of_row wr c 2 _ _ hcv
      have HCV := Lib.hid hcv
      have HKV := Lib.hid hkv
      have hdone := HC.out.done HM.out.symm
      have HDN := Lib.hid hdone
      clear hr hcv hkv hdone
      go_wp2_with fail
      go_end0
      have h1 := HKV.out ((wr.setCell ⟨c, 1, none⟩ (.bool false)).setCell ⟨c, 2, none⟩ (.int .i64 0)) (((Fr.refl (fun k => k = c) wr).setCell (fun _ => rfl) _).setCell (fun _ => rfl) _) (row_set (row_set HCV.out rfl) rfl)
      have hfr : Fr S w ((wr.setCell ⟨c, 1, none⟩ (.bool false)).setCell ⟨c, 2, none⟩ (.int .i64 0)) := (HR.out.fr.setCell (fun _ => HIN.out) _).setCell (fun _ => HIN.out) _
      refine ⟨rfl, ?_, hfr⟩
      unfold crashS
      rw [← HDN.out]
      refine h1.grow (fun q hq => (HR.out.inx q hq).elim .inl fun h => .inr ⟨h.1, ?_⟩) (fun q hq => ?_)
      · rw [size_setCell, size_setCell]; exact h.2
      · rcases hq with hq | hq
        · exact Nat.lt_of_lt_of_le (HLT.out q hq) hfr.size
        · exact hq.2
end Go.Proofs.Ytdbfkneklkdnaaa
