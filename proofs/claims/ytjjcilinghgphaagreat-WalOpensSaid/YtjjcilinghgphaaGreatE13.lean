/-
 The disk's Crash. Written by a program (e13gen.py).
-/
import Derived.Test.YtjjcilinghgphaaGreatE12
import Derived.Deep.DeepCutAuto
namespace Go.Proofs.YtjjcilinghgphaaGreat
open Go.RowKit Go.Maps Go.Sort
set_option maxRecDepth 100000
attribute [local go_sem] bs_size bs_toList

/-- A slice of integers that reads as p. -/
def RdI (w : World) (a : Option Addr) (n cap : Nat) (p : List Int) : Prop := n = p.length ∧ Rd w a n cap 1 (p.map (Value.int .i64)) ∧ ∀ x ∈ p, -9223372036854775808 ≤ x ∧ x ≤ 9223372036854775807
/-- The block of a slice that holds something. -/
def BlkIn (a : Option Addr) (n : Nat) (T : Nat → Prop) : Prop := 0 < n → ∀ b, blk a = some b → T b
theorem Rd.keep0 {S : Nat → Prop} {w w' : World} {a : Option Addr} {n cap size : Nat} {xs : List Value} (h : Rd w a n cap size xs) (hf : Fr S w w') (hk : BlkIn a n fun b => ¬ S b) : Rd w' a n cap size xs := by
 rcases Nat.eq_zero_or_pos n with h0 | h0
 · obtain ⟨h1, h2, h3, h4, h5⟩ := h
   refine ⟨h1, h2, h3, h4, fun j u hj => ?_⟩
   rw [h0, Nat.zero_mul] at h4
   rw [List.eq_nil_of_length_eq_zero h4] at hj
   simp at hj
 · exact h.keep fun b o ha hb => hf.block b hb (hk h0 b (by rw [ha]; rfl))
theorem Rd8.keep0 {S : Nat → Prop} {w w' : World} {a : Option Addr} {n cap : Nat} {l : List UInt8} (h : Rd8 w a n cap l) (hf : Fr S w w') (hk : BlkIn a n fun b => ¬ S b) : Rd8 w' a n cap l := ⟨h.1, h.2.keep0 hf hk⟩
theorem RdI.keep {S : Nat → Prop} {w w' : World} {a : Option Addr} {n cap : Nat} {p : List Int} (h : RdI w a n cap p) (hf : Fr S w w') (hk : BlkIn a n fun b => ¬ S b) : RdI w' a n cap p :=
 ⟨h.1, h.2.1.keep0 hf hk, h.2.2⟩
theorem RdI.below {w w' : World} {a : Option Addr} {n cap : Nat} {p : List Int} (h : RdI w a n cap p) (hb : Below w.heap.size w w') : RdI w' a n cap p := ⟨h.1, h.2.1.below hb, h.2.2⟩
/-- Is a pick taken? -/
def takeB (p : List Int) (i : Nat) : Bool := match p[i]? with
 | some x => decide (0 ≤ x)
 | none => false
theorem upd_mid {pre r : List Fl} {f : Fl} (h : Srt (pre ++ f :: r)) (g : Fl → Fl) : updF f.nm g (pre ++ f :: r) = pre ++ g f :: r := by
 unfold updF
 have h1 := List.pairwise_append.1 h
 have h2 := List.pairwise_cons.1 h1.2.1
 rw [List.map_append, List.map_cons, if_pos (by simp)]
 congr 1
 · conv => rhs; rw [← List.map_id pre]
   refine List.map_congr_left fun x hx => ?_
   have := bB_ne (h1.2.2 x hx f (by simp))
   rw [if_neg (by simpa using this)]; rfl
 · congr 1
   conv => rhs; rw [← List.map_id r]
   refine List.map_congr_left fun x hx => ?_
   have := bB_ne (h2.1 x hx)
   rw [if_neg (by simpa using this.symm)]; rfl
theorem get_mid {pre r : List Fl} {f : Fl} (h : Srt (pre ++ f :: r)) : getF f.nm (pre ++ f :: r) = some f := by
 cases hg : getF f.nm (pre ++ f :: r) with
 | none => exact absurd rfl (getF_none hg f (by simp))
 | some g => rw [srt_one h (getF_some hg).1 (by simp) (getF_some hg).2]
theorem crashL_cons (picks : List Int) (i : Nat) (f : Fl) (r : List Fl) : crashL picks i (f :: r) = if f.dt.length = f.sf then f :: crashL picks i r else
 ⟨f.nm, f.dt.take (f.sf + keepN picks i (f.dt.length - f.sf)), f.sf + keepN picks i (f.dt.length - f.sf)⟩ :: crashL picks (i + 1) r := by rw [crashL]
theorem keepN_pos {picks : List Int} {i : Nat} {p : Int} (h : picks[i]? = some p) (hp : 0 ≤ p) {dl sf : Nat} (hs : sf ≤ dl) : ((keepN picks i (dl - sf) : Nat) : Int) = p % ((dl : Int) - (sf : Int) + 1) := by
 unfold keepN
 rw [h]
 simp only [if_pos hp]
 have h1 := Int.emod_nonneg p (show (dl : Int) - (sf : Int) + 1 ≠ 0 by omega)
 rw [show (((dl - sf : Nat) : Int) + 1) = (dl : Int) - (sf : Int) + 1 by omega]
 omega
theorem keepN_not {picks : List Int} {i : Nat} (h : takeB picks i = false) (lo : Nat) : keepN picks i lo = 0 := by
 unfold takeB at h
 unfold keepN
 cases hp : picks[i]? with
 | none => rfl
 | some p =>
  rw [hp] at h
  simp at h
  simp only []
  rw [if_neg (by omega)]
theorem takeB_some {picks : List Int} {i : Nat} (h : takeB picks i = true) : ∃ p, picks[i]? = some p ∧ 0 ≤ p := by
 unfold takeB at h
 cases hp : picks[i]? with
 | none => rw [hp] at h; cases h
 | some p => rw [hp] at h; exact ⟨p, rfl, by simpa using h⟩
theorem Done.drew {B : Int} {w w' : World} {d : Nat} {S : Nat → Prop} {s : DS} (h : Done B w d S s w') : Done B w d S s w'.drew :=
 ⟨h.1.keep (S' := fun _ => False) (Fr.refl _ _).drew (fun _ _ h => h), h.2.drew⟩
/-- What Crash leaves in a loop: the files that were looked at, those that are to come. -/
def CrashAt (picks : List Int) (l cur : List Fl) (k i : Nat) : Prop :=
 ∃ pre r, cur = pre ++ r ∧ pre.length = k ∧ crashL picks 0 l = pre ++ crashL picks i r ∧ cur.map Fl.nm = l.map Fl.nm
theorem CrashAt.start (picks : List Int) (l : List Fl) : CrashAt picks l l 0 0 := ⟨[], l, rfl, rfl, rfl, rfl⟩
theorem CrashAt.done {picks : List Int} {l cur : List Fl} {k i : Nat} (h : CrashAt picks l cur k i) (hk : k = l.length) : cur = crashL picks 0 l := by
 obtain ⟨pre, r, rfl, hp, hc, hn⟩ := h
 have := congrArg List.length hn
 simp at this
 have hr : r = [] := List.eq_nil_of_length_eq_zero (by omega)
 subst hr
 rw [hc]; simp [crashL]
theorem CrashAt.next {picks : List Int} {l cur : List Fl} {k i : Nat} (h : CrashAt picks l cur k i) (hk : k < l.length) (hs : Srt cur) :
 ∃ f, getF f.nm cur = some f ∧ (l.map Fl.nm)[k]? = some f.nm ∧ f ∈ cur ∧
  (f.dt.length = f.sf → CrashAt picks l cur (k + 1) i) ∧
  (f.dt.length ≠ f.sf → ∀ x, x = f.sf + keepN picks i (f.dt.length - f.sf) → CrashAt picks l (updF f.nm (fun f => ⟨f.nm, f.dt.take x, x⟩) cur) (k + 1) (i + 1)) := by
 obtain ⟨pre, r, rfl, hp, hc, hn⟩ := h
 have hlen := congrArg List.length hn
 simp at hlen
 cases r with
 | nil => simp at hlen; omega
 | cons f r =>
  refine ⟨f, get_mid hs, ?_, by simp, fun e => ?_, fun e x hx => ?_⟩
  · rw [← hn, List.map_append, List.getElem?_append_right (by simp [hp])]
    simp [hp]
  · refine ⟨pre ++ [f], r, by simp, by simp [hp], ?_, hn⟩
    rw [hc, crashL_cons, if_pos e]
    simp
  · rw [upd_mid hs]
    subst hx
    refine ⟨pre ++ [⟨f.nm, f.dt.take (f.sf + keepN picks i (f.dt.length - f.sf)), f.sf + keepN picks i (f.dt.length - f.sf)⟩], r, by simp, by simp [hp], ?_, by rw [← hn]; simp⟩
    rw [hc, crashL_cons, if_neg e]
    simp
set_option maxHeartbeats 4000000 in
theorem crash_any (d : Nat) (S : Nat → Prop) (B : Int) (s : DS) (ap : Option Addr) (np cp : Nat) (picks : List Int) (w : World) (h : DkS B w d S s) (hp : RdI w ap np cp picks) (hpn : BlkIn ap np fun b => ¬ S b) :
 Calls Tryz.prog 37 #[.pointer (some ⟨d, 0, none⟩), .slice ap np cp] w fun e w' => e = .returned (.tuple #[]) ∧ Done B w d S (crashS s picks) w' := by
 have HL := Lib.hid (list_any d S B s w h)
 have H0 := Lib.hid h
 have HP := Lib.hid hp
 have HPN := Lib.hid hpn
 have hl64 := h.ok.len
 have hnp : np ≤ 9223372036854775807 := Nat.le_trans hp.2.1.1 hp.2.1.2.1
 clear h hp hpn
 obtain ⟨n, hn⟩ : ∃ n, s.fs.length = n := ⟨_, rfl⟩
 have HN := Lib.hid hn
 rw [hn] at hl64
 go_enter Tryz.func37, Tryz.ntmps37
 go_wp2_with (go_at_call 20; ((with_reducible refine (HL.out).mono ?_); rintro e w1 ⟨v8, rfl, hrow, hb⟩; rw [List.length_map, hn] at hrow; obtain ⟨a8, cap8, rfl, hrd⟩ := Rd.of_own hrow; have hbl8 : ∀ b, blk a8 = some b → ¬ S b := (fun b hb8 e => by have := (World.ownsRow.lt hrow b (by rw [ownBlock_sl]; exact hb8)).1; have := H0.out.lt b e; omega); have HBL := Lib.hid hbl8; have HB := Lib.hid hb; have HR := Lib.hid hrd; clear hrow hb hrd hbl8))
 clear hn
 go_loopw [4, 6, 7, 8, 9, 13] (fun i _ _ _ _ k wr => ∃ (kn im : Nat) (cur : List Fl), kn ≤ n ∧ im ≤ kn ∧ k = .int .i64 (kn : Nat) ∧ i = .int .i64 (im : Nat) ∧ Hid (CrashAt picks s.fs cur kn im) ∧ Hid (Done B w1 d S { s with fs := cur } wr)) (fun _ _ _ _ _ k _ => n - (intOf k).toNat)
 case atStart => exact ⟨0, 0, s.fs, Nat.zero_le _, Nat.le_refl _, rfl, rfl, CrashAt.start _ _, Done.refl (H0.out.below HB.out)⟩
 case round =>
  obtain ⟨k, i, cur, hk, hik, rfl, rfl, HC, HD⟩ := hrel
  by_cases hlt : k < n
  · obtain ⟨hDr, hFr⟩ := HD.out
    have hokc := hDr.ok
    obtain ⟨f, hgF, hnm, hfm, hsame, hnext⟩ := HC.out.next (by rw [HN.out]; exact hlt) hokc.srt
    have HNEXT := Lib.hid hnext
    have HSAME := Lib.hid hsame
    obtain ⟨b8, off8, ha8, hb8, hc8⟩ := HR.out.at (by omega)
    subst ha8
    have hc := hc8 k (.string (bs f.nm)) (by rw [List.getElem?_map, hnm]; rfl)
    have g8 : wr.cell? ⟨b8, off8 + k, none⟩ = some (.string (bs f.nm)) := (hFr.cell (p := ⟨b8, off8 + k, none⟩) hb8 (HBL.out b8 rfl)).trans hc
    have HPR : Hid (RdI wr ap np cp picks) := (HP.out.below HB.out).keep hFr HPN.out
    have HFR := Lib.hid hFr
    obtain ⟨m, L, hDk, hL, hCv, hS, hok⟩ := hDr
    obtain ⟨c, hgC, hcf⟩ := names_some (s := { s with fs := cur }) hL hgF
    obtain ⟨hcL, hcn⟩ := getC_some hgC
    obtain ⟨hcb, hco⟩ := hDk.hc c hcL
    obtain ⟨a, cap, hv, hah, hdc, hcap⟩ := hco.sl
    have HV := Lib.hid hv
    have HCB := Lib.hid hcb
    rw [hv] at hcb
    have hfe := hok.each f hfm
    have hdt : c.dt = f.dt := by rw [← hcf]; rfl
    have hsf : c.sf = f.sf := by rw [← hcf]; rfl
    rw [hdt] at hcb hdc
    rw [hsf] at hcb
    have htot : tot cur ≤ 4194304 := hok.tot
    have hle : f.dt.length ≤ tot cur := dt_le_tot hfm
    have hsd : f.sf ≤ f.dt.length := hfe.2.2
    have hlk := look_at hDk.hm (n := f.nm) (by omega) hgC
    have hd := hDk.hd
    rw [hL] at hd
    have c0 := cell_of_row wr d 0 _ _ _ hd
    have g0 := cell_of_row wr c.b 0 _ _ _ hcb
    have g1 := cell_of_row wr c.b 1 _ _ _ hcb
    have HDK := Lib.hid hDk
    have HCV := Lib.hid hCv
    have HLE := Lib.hid hL
    have HS := Lib.hid hS
    have HOK := Lib.hid hok
    have HGC := Lib.hid hgC
    have HDD := Lib.hid hd
    have HROW := Lib.hid hcb
    have hcd := (hDk.apart.2 c hcL).1
    have HCO := Lib.hid hco
    have HCL := Lib.hid hcL
    have HAH := Lib.hid hah
    have HCF := Lib.hid hcf
    have HDT := Lib.hid hdt
    have HSF := Lib.hid hsf
    have o1 : IntKind.i64.wrap ((f.dt.length : Int) - (f.sf : Int)) = (f.dt.length : Int) - (f.sf : Int) := IntWalk.i64_in _ (by omega)
    clear hokc hgF hnm hfm hsame hnext hFr hDk hL hCv hS hok hgC hcf hcL hcn hcb hco hv hah hfe hdt hsf hc hc8 hb8 hd
    go_wp2_with fail
    clear hlk c0 g8
    refine wp_region_ht 10 (fun W => W.cell? ⟨c.b, 0, none⟩ = some (.slice a f.dt.length cap) ∧ W.cell? ⟨c.b, 1, none⟩ = some (.int .i64 (f.sf : Nat))) (by kernel_rfl) (by kernel_rfl) ?_ (fun hHeld => ?_)
    · exact ⟨g0, g1⟩
    try simp only [Act.put, List.setIfInBounds_toArray, List.set_cons_zero, List.set_cons_succ]
    refine wpHT_takeD (i := 0) (d := 23) (v := ?_) (by kernel_rfl) rfl rfl (by decide) (by kernel_rfl) (by kernel_rfl) (fun _ _ _ h => h) (Or.inl ⟨by kernel_rfl, ?_⟩) (by assumption) ?_
    rotate_left
    · intro w hSw; (try dsimp only at hSw); go_simp; (try with_reducible rfl)
    try simp only [Act.put, List.setIfInBounds_toArray, List.set_cons_zero, List.set_cons_succ]
    refine wpHT_takeD (i := 1) (d := 24) (v := ?_) (by kernel_rfl) rfl rfl (by decide) (by kernel_rfl) (by kernel_rfl) (fun _ _ _ h => h) (Or.inl ⟨by kernel_rfl, ?_⟩) (by assumption) ?_
    rotate_left
    · intro w hSw; (try dsimp only at hSw); go_simp; (try with_reducible rfl)
    try simp only [Act.put, List.setIfInBounds_toArray, List.set_cons_zero, List.set_cons_succ]
    refine wpHT_takeD (i := 2) (d := 25) (v := ?_) (by kernel_rfl) rfl rfl (by decide) (by kernel_rfl) (by kernel_rfl) (fun _ _ _ h => h) (Or.inl ⟨by kernel_rfl, ?_⟩) (by assumption) ?_
    rotate_left
    · intro w hSw; (try dsimp only at hSw); go_simp; (try with_reducible rfl)
    try simp only [Act.put, List.setIfInBounds_toArray, List.set_cons_zero, List.set_cons_succ]
    refine wpHT_takeD (i := 3) (d := 26) (v := ?_) (by kernel_rfl) rfl rfl (by decide) (by kernel_rfl) (by kernel_rfl) (fun _ _ _ h => h) (Or.inl ⟨by kernel_rfl, ?_⟩) (by assumption) ?_
    rotate_left
    · intro w hSw; (try dsimp only at hSw); go_simp; (try with_reducible rfl)
    try simp only [Act.put, List.setIfInBounds_toArray, List.set_cons_zero, List.set_cons_succ]
    refine wpHT_takeD (i := 4) (d := 27) (v := ?_) (by kernel_rfl) rfl rfl (by decide) (by kernel_rfl) (by kernel_rfl) (fun _ _ _ h => h) (Or.inl ⟨by kernel_rfl, ?_⟩) (by assumption) ?_
    rotate_left
    · intro w hSw; (try dsimp only at hSw); go_simp; (try with_reducible rfl)
    try simp only [Act.put, List.setIfInBounds_toArray, List.set_cons_zero, List.set_cons_succ]
    refine wpHT_takeD (i := 5) (d := 28) (v := ?_) (by kernel_rfl) rfl rfl (by decide) (by kernel_rfl) (by kernel_rfl) (fun _ _ _ h => h) (Or.inl ⟨by kernel_rfl, ?_⟩) (by assumption) ?_
    rotate_left
    · intro w hSw; (try dsimp only at hSw); go_simp; (try with_reducible rfl)
    try simp only [Act.put, List.setIfInBounds_toArray, List.set_cons_zero, List.set_cons_succ]
    refine wpHT_takeD (i := 6) (d := 29) (v := ?_) (by kernel_rfl) rfl rfl (by decide) (by kernel_rfl) (by kernel_rfl) (fun _ _ _ h => h) (Or.inl ⟨by kernel_rfl, ?_⟩) (by assumption) ?_
    rotate_left
    · intro w hSw; (try dsimp only at hSw); go_simp; (try with_reducible rfl)
    try simp only [Act.put, List.setIfInBounds_toArray, List.set_cons_zero, List.set_cons_succ]
    refine wpHT_takeD (i := 7) (d := 30) (v := ?_) (by kernel_rfl) rfl rfl (by decide) (by kernel_rfl) (by kernel_rfl) (fun _ _ _ h => h) (Or.inl ⟨by kernel_rfl, ?_⟩) (by assumption) ?_
    rotate_left
    · intro w hSw; (try dsimp only at hSw); go_simp; (try with_reducible rfl)
    try simp only [Act.put, List.setIfInBounds_toArray, List.set_cons_zero, List.set_cons_succ]
    refine wpHT_takeD (i := 8) (d := 31) (v := ?_) (by kernel_rfl) rfl rfl (by decide) (by kernel_rfl) (by kernel_rfl) (fun _ _ _ h => h) (Or.inl ⟨by kernel_rfl, ?_⟩) (by assumption) ?_
    rotate_left
    · intro w hSw; (try dsimp only at hSw); go_simp; (try with_reducible rfl)
    try simp only [Act.put, List.setIfInBounds_toArray, List.set_cons_zero, List.set_cons_succ]
    refine wpHT_takeD (i := 9) (d := 32) (v := ?_) (by kernel_rfl) rfl rfl (by decide) (by kernel_rfl) (by kernel_rfl) (fun _ _ _ h => h) (Or.inl ⟨by kernel_rfl, ?_⟩) (by assumption) ?_
    rotate_left
    · intro w hSw; (try dsimp only at hSw); go_simp; (try with_reducible rfl)
    try simp only [Act.put, List.setIfInBounds_toArray, List.set_cons_zero, List.set_cons_succ]
    refine wpHT_done (by kernel_rfl) ?_
    simp only [List.drop_succ_cons, List.drop_zero]
    clear hHeld g0 g1 o1
    by_cases hlo : f.dt.length = f.sf
    · have e1 : ((f.dt.length : Int) - (f.sf : Int) == 0) = true := by simp; omega
      have HLO := Lib.hid hlo
      clear hlo
      go_wp2_with fail
      go_roundw
      case rel => exact ⟨k + 1, i, cur, by omega, by omega, by go_num, rfl, HSAME.out HLO.out, HD.out.drew⟩
      case measure => simp [intOf]; omega
    · have e1 : ((f.dt.length : Int) - (f.sf : Int) == 0) = false := by simp; omega
      have HLO := Lib.hid hlo
      clear hlo
      go_upto_region 8 with fail
      clear e1
      go_cut [45] (fun c45 wx => c45 = .bool (takeB picks i) ∧ wx = wr.drew)
      case first =>
       have hpl := HPR.out.1
       by_cases hi : i < np
       · obtain ⟨b, off, hab, hbb, hcell⟩ := HPR.out.2.1.at (by omega)
         subst hab
         obtain ⟨p, hpi⟩ : ∃ p, picks[i]? = some p := ⟨_, List.getElem?_eq_getElem (by omega)⟩
         have gp := hcell i (.int .i64 p) (by rw [List.getElem?_map, hpi]; rfl)
         have HT : Hid (takeB picks i = decide (0 ≤ p)) := by show _ = _; unfold takeB; rw [hpi]
         clear hcell hpi hpl
         have di : decide ((i : Int) < np) = true := by simpa using hi
         by_cases hp0 : 0 ≤ p
         case' pos => have dp : decide (0 ≤ p) = true := by simpa using hp0
         case' neg => have dp : decide (0 ≤ p) = false := by simpa using hp0
         all_goals
          go_wp2_with fail
          go_meet
          exact ⟨by rw [HT.out, dp], rfl⟩
       · have di : decide ((i : Int) < np) = false := by simp; omega
         have HT : Hid (takeB picks i = false) := by show _ = _; unfold takeB; rw [List.getElem?_eq_none (by omega)]
         clear hpl
         go_wp2_with fail
         go_meet
         exact ⟨by rw [HT.out], rfl⟩
      case rest =>
       obtain ⟨rfl, rfl⟩ := hcut
       go_upto_if 45 with fail
       go_cut [9] (fun k9 wx => k9 = .int .i64 ((keepN picks i (f.dt.length - f.sf) : Nat) : Int) ∧ wx = wr.drew)
       case first =>
        cases htb : takeB picks i with
        | true =>
         obtain ⟨p, hpi, hp0⟩ := takeB_some htb
         have hpl := HPR.out.1
         have hil : i < picks.length := (List.getElem?_eq_some_iff.1 hpi).1
         obtain ⟨b, off, hab, hbb, hcell⟩ := HPR.out.2.1.at (by omega)
         subst hab
         have gp := hcell i (.int .i64 p) (by rw [List.getElem?_map, hpi]; rfl)
         have hpw := HPR.out.2.2 p (List.mem_of_getElem? hpi)
         have HKP := Lib.hid (keepN_pos hpi hp0 hsd)
         have o2 : IntKind.i64.wrap ((f.dt.length : Int) - (f.sf : Int) + 1) = (f.dt.length : Int) - (f.sf : Int) + 1 := IntWalk.i64_in _ (by omega)
         have o3 : (0 : Int) < (f.dt.length : Int) - (f.sf : Int) + 1 := by omega
         have hin : i < np := by omega
         clear hcell hpi hil hpl htb
         go_wp2_with fail
         go_meet
         exact ⟨by rw [HKP.out], rfl⟩
        | false =>
         have HKN := Lib.hid (keepN_not htb (f.dt.length - f.sf))
         clear htb
         go_wp2_with fail
         go_meet
         exact ⟨by rw [HKN.out]; rfl, rfl⟩
       case rest =>
        obtain ⟨rfl, rfl⟩ := hcut
        have hkl := keepN_le picks i (f.dt.length - f.sf)
        obtain ⟨kk, hkk⟩ : ∃ kk, keepN picks i (f.dt.length - f.sf) = kk := ⟨_, rfl⟩
        rw [hkk] at hkl ⊢
        have HKK := Lib.hid hkk
        clear hkk
        have c1 := cell_of_row wr d 1 _ _ _ HDD.out
        have f1 := frozen_of_row wr d 1 _ _ HDD.out
        have o2 : IntKind.i64.wrap ((f.dt.length : Int) - (f.sf : Int) - (kk : Int)) = (f.dt.length : Int) - (f.sf : Int) - (kk : Int) := IntWalk.i64_in _ (by omega)
        have o3 : IntKind.i64.wrap ((tot cur : Nat) - ((f.dt.length : Int) - (f.sf : Int) - (kk : Int))) = (tot cur : Nat) - ((f.dt.length : Int) - (f.sf : Int) - (kk : Int)) := IntWalk.i64_in _ (by omega)
        go_wp2_with fail
        clear c1 f1 o2 o3
        generalize e2 : (wr.setCell ⟨d, 1, none⟩ (.int .i64 ((tot cur : Nat) - ((f.dt.length : Int) - (f.sf : Int) - (kk : Int))))).drew = w2
        have HD2 : Hid (w2.heap[d]? = some (.cells #[.map (some m), .int .i64 ((tot cur : Nat) - ((f.dt.length : Int) - (f.sf : Int) - (kk : Int))), .int .i64 s.wr, .int .i64 s.ar, .bool s.dn] 66 (0, 0))) := by rw [← e2]; exact row_set (w := wr.drew) HDD.out rfl
        have HF2 : Hid (w2.heap[c.b]? = some (.cells #[.slice a f.dt.length cap, .int .i64 (f.sf : Nat)] 68 (0, 0))) := by rw [← e2]; exact (heap_setCell_other wr ⟨d, 1, none⟩ c.b _ hcd).trans HROW.out
        have G2 : Hid (Fr (fun q => q = d ∨ q = c.b) wr w2) := by rw [← e2]; exact ((Fr.refl _ wr).setCell (fun _ => .inl rfl) _).drew
        clear e2
        have o4 : IntKind.i64.wrap ((f.sf : Int) + (kk : Int)) = (f.sf : Int) + (kk : Int) := IntWalk.i64_in _ (by omega)
        have hs : ∀ W : World, (Instr.slice 24 (.slice a f.dt.length cap) none (some (.int .i64 ((f.sf : Int) + (kk : Int)))) (some (.int .i64 ((f.sf : Int) + (kk : Int))))).run Tryz.prog W = .ok (.slice a (f.sf + kk) (f.sf + kk)) W := fun W => run_cut (x := f.sf + kk) hdc (by omega) HAH.out
        have g0 := cell_of_row w2 c.b 0 _ _ _ HF2.out
        have g1 := cell_of_row w2 c.b 1 _ _ _ HF2.out
        have f0 := frozen_of_row w2 c.b 0 _ _ HF2.out
        have f1 := frozen_of_row w2 c.b 1 _ _ HF2.out

        refine wp_region_ht 20 (fun W => W.cell? ⟨c.b, 0, none⟩ = some (.slice a f.dt.length cap) ∧ W.cell? ⟨c.b, 1, none⟩ = some (.int .i64 (f.sf : Nat))) (by kernel_rfl) (by kernel_rfl) ?_ (fun hHeld => ?_)
        · exact ⟨g0, g1⟩
        try simp only [Act.put, List.setIfInBounds_toArray, List.set_cons_zero, List.set_cons_succ]
        refine wpHT_takeD (i := 0) (d := 65) (v := ?_) (by kernel_rfl) rfl rfl (by decide) (by kernel_rfl) (by kernel_rfl) (fun _ _ _ h => h) (Or.inl ⟨by kernel_rfl, ?_⟩) (by assumption) ?_
        rotate_left
        · intro w hSw; (try dsimp only at hSw); go_simp; (try with_reducible rfl)
        try simp only [Act.put, List.setIfInBounds_toArray, List.set_cons_zero, List.set_cons_succ]
        refine wpHT_takeD (i := 1) (d := 66) (v := ?_) (by kernel_rfl) rfl rfl (by decide) (by kernel_rfl) (by kernel_rfl) (fun _ _ _ h => h) (Or.inl ⟨by kernel_rfl, ?_⟩) (by assumption) ?_
        rotate_left
        · intro w hSw; (try dsimp only at hSw); go_simp; (try with_reducible rfl)
        try simp only [Act.put, List.setIfInBounds_toArray, List.set_cons_zero, List.set_cons_succ]
        refine wpHT_takeD (i := 2) (d := 67) (v := ?_) (by kernel_rfl) rfl rfl (by decide) (by kernel_rfl) (by kernel_rfl) (fun _ _ _ h => h) (Or.inl ⟨by kernel_rfl, ?_⟩) (by assumption) ?_
        rotate_left
        · intro w hSw; (try dsimp only at hSw); go_simp; (try with_reducible rfl)
        try simp only [Act.put, List.setIfInBounds_toArray, List.set_cons_zero, List.set_cons_succ]
        refine wpHT_takeD (i := 3) (d := 68) (v := ?_) (by kernel_rfl) rfl rfl (by decide) (by kernel_rfl) (by kernel_rfl) (fun _ _ _ h => h) (Or.inl ⟨by kernel_rfl, ?_⟩) (by assumption) ?_
        rotate_left
        · intro w hSw; (try dsimp only at hSw); go_simp; (try with_reducible rfl)
        try simp only [Act.put, List.setIfInBounds_toArray, List.set_cons_zero, List.set_cons_succ]
        refine wpHT_takeD (i := 4) (d := 69) (v := ?_) (by kernel_rfl) rfl rfl (by decide) (by kernel_rfl) (by kernel_rfl) (fun _ _ _ h => h) (Or.inl ⟨by kernel_rfl, ?_⟩) (by assumption) ?_
        rotate_left
        · intro w hSw; (try dsimp only at hSw); go_simp; (try with_reducible rfl)
        try simp only [Act.put, List.setIfInBounds_toArray, List.set_cons_zero, List.set_cons_succ]
        refine wpHT_takeD (i := 5) (d := 70) (v := ?_) (by kernel_rfl) rfl rfl (by decide) (by kernel_rfl) (by kernel_rfl) (fun _ _ _ h => h) (Or.inl ⟨by kernel_rfl, ?_⟩) (by assumption) ?_
        rotate_left
        · intro w hSw; (try dsimp only at hSw); go_simp; (try with_reducible rfl)
        try simp only [Act.put, List.setIfInBounds_toArray, List.set_cons_zero, List.set_cons_succ]
        refine wpHT_takeD (i := 6) (d := 71) (v := ?_) (by kernel_rfl) rfl rfl (by decide) (by kernel_rfl) (by kernel_rfl) (fun _ _ _ h => h) (Or.inl ⟨by kernel_rfl, ?_⟩) (by assumption) ?_
        rotate_left
        · intro w hSw; (try dsimp only at hSw); go_simp; (try with_reducible rfl)
        try simp only [Act.put, List.setIfInBounds_toArray, List.set_cons_zero, List.set_cons_succ]
        refine wpHT_takeD (i := 7) (d := 72) (v := ?_) (by kernel_rfl) rfl rfl (by decide) (by kernel_rfl) (by kernel_rfl) (fun _ _ _ h => h) (Or.inl ⟨by kernel_rfl, ?_⟩) (by assumption) ?_
        rotate_left
        · intro w hSw; (try dsimp only at hSw); go_simp; (try with_reducible rfl)
        try simp only [Act.put, List.setIfInBounds_toArray, List.set_cons_zero, List.set_cons_succ]
        refine wpHT_takeD (i := 8) (d := 73) (v := ?_) (by kernel_rfl) rfl rfl (by decide) (by kernel_rfl) (by kernel_rfl) (fun _ _ _ h => h) (Or.inl ⟨by kernel_rfl, ?_⟩) (by assumption) ?_
        rotate_left
        · intro w hSw; (try dsimp only at hSw); go_simp; (try with_reducible rfl)
        try simp only [Act.put, List.setIfInBounds_toArray, List.set_cons_zero, List.set_cons_succ]
        refine wpHT_takeD (i := 9) (d := 74) (v := ?_) (by kernel_rfl) rfl rfl (by decide) (by kernel_rfl) (by kernel_rfl) (fun _ _ _ h => h) (Or.inl ⟨by kernel_rfl, ?_⟩) (by assumption) ?_
        rotate_left
        · intro w hSw; (try dsimp only at hSw); go_simp; (try with_reducible rfl)
        try simp only [Act.put, List.setIfInBounds_toArray, List.set_cons_zero, List.set_cons_succ]
        refine wpHT_takeD (i := 10) (d := 75) (v := ?_) (by kernel_rfl) rfl rfl (by decide) (by kernel_rfl) (by kernel_rfl) (fun _ _ _ h => h) (Or.inl ⟨by kernel_rfl, ?_⟩) (by assumption) ?_
        rotate_left
        · intro w hSw; (try dsimp only at hSw); go_simp; (try with_reducible rfl)
        try simp only [Act.put, List.setIfInBounds_toArray, List.set_cons_zero, List.set_cons_succ]
        refine wpHT_takeD (i := 11) (d := 76) (v := ?_) (by kernel_rfl) rfl rfl (by decide) (by kernel_rfl) (by kernel_rfl) (fun _ _ _ h => h) (Or.inl ⟨by kernel_rfl, ?_⟩) (by assumption) ?_
        rotate_left
        · intro w hSw; (try dsimp only at hSw); go_simp; (try with_reducible rfl)
        try simp only [Act.put, List.setIfInBounds_toArray, List.set_cons_zero, List.set_cons_succ]
        refine wpHT_takeD (i := 12) (d := 77) (v := ?_) (by kernel_rfl) rfl rfl (by decide) (by kernel_rfl) (by kernel_rfl) (fun _ _ _ h => h) (Or.inl ⟨by kernel_rfl, ?_⟩) (by assumption) ?_
        rotate_left
        · intro w hSw; (try dsimp only at hSw); go_simp; (try with_reducible rfl)
        try simp only [Act.put, List.setIfInBounds_toArray, List.set_cons_zero, List.set_cons_succ]
        refine wpHT_takeD (i := 13) (d := 78) (v := ?_) (by kernel_rfl) rfl rfl (by decide) (by kernel_rfl) (by kernel_rfl) (fun _ _ _ h => h) (Or.inl ⟨by kernel_rfl, ?_⟩) (by assumption) ?_
        rotate_left
        · intro w hSw; (try dsimp only at hSw); go_simp; (try with_reducible rfl)
        try simp only [Act.put, List.setIfInBounds_toArray, List.set_cons_zero, List.set_cons_succ]
        refine wpHT_takeD (i := 14) (d := 79) (v := ?_) (by kernel_rfl) rfl rfl (by decide) (by kernel_rfl) (by kernel_rfl) (fun _ _ _ h => h) (Or.inl ⟨by kernel_rfl, ?_⟩) (by assumption) ?_
        rotate_left
        · intro w hSw; (try dsimp only at hSw); go_simp; (try with_reducible rfl)
        try simp only [Act.put, List.setIfInBounds_toArray, List.set_cons_zero, List.set_cons_succ]
        refine wpHT_takeD (i := 15) (d := 80) (v := ?_) (by kernel_rfl) rfl rfl (by decide) (by kernel_rfl) (by kernel_rfl) (fun _ _ _ h => h) (Or.inl ⟨by kernel_rfl, ?_⟩) (by assumption) ?_
        rotate_left
        · intro w hSw; (try dsimp only at hSw); go_simp; (try with_reducible rfl)
        try simp only [Act.put, List.setIfInBounds_toArray, List.set_cons_zero, List.set_cons_succ]
        refine wpHT_takeD (i := 16) (d := 81) (v := ?_) (by kernel_rfl) rfl rfl (by decide) (by kernel_rfl) (by kernel_rfl) (fun _ _ _ h => h) (Or.inl ⟨by kernel_rfl, ?_⟩) (by assumption) ?_
        rotate_left
        · intro w hSw; (try dsimp only at hSw); go_simp; (try with_reducible rfl)
        try simp only [Act.put, List.setIfInBounds_toArray, List.set_cons_zero, List.set_cons_succ]
        refine wpHT_takeD (i := 17) (d := 82) (v := ?_) (by kernel_rfl) rfl rfl (by decide) (by kernel_rfl) (by kernel_rfl) (fun _ _ _ h => h) (Or.inl ⟨by kernel_rfl, ?_⟩) (by assumption) ?_
        rotate_left
        · intro w hSw; (try dsimp only at hSw); go_simp; (try with_reducible rfl)
        try simp only [Act.put, List.setIfInBounds_toArray, List.set_cons_zero, List.set_cons_succ]
        refine wpHT_takeD (i := 18) (d := 83) (v := ?_) (by kernel_rfl) rfl rfl (by decide) (by kernel_rfl) (by kernel_rfl) (fun _ _ _ h => h) (Or.inl ⟨by kernel_rfl, ?_⟩) (by assumption) ?_
        rotate_left
        · intro w hSw; (try dsimp only at hSw); go_simp; (try with_reducible rfl)
        try simp only [Act.put, List.setIfInBounds_toArray, List.set_cons_zero, List.set_cons_succ]
        refine wpHT_takeD (i := 19) (d := 84) (v := ?_) (by kernel_rfl) rfl rfl (by decide) (by kernel_rfl) (by kernel_rfl) (fun _ _ _ h => h) (Or.inl ⟨by kernel_rfl, ?_⟩) (by assumption) ?_
        rotate_left
        · intro w hSw; (try dsimp only at hSw); go_simp; (try with_reducible rfl)
        try simp only [Act.put, List.setIfInBounds_toArray, List.set_cons_zero, List.set_cons_succ]
        refine wpHT_done (by kernel_rfl) ?_
        simp only [List.drop_succ_cons, List.drop_zero]
        clear hHeld o4 hs
        go_wp2_with fail
        go_roundw
        case rel =>
         have hx : f.sf + kk ≤ f.dt.length := by omega
         have hcf := HCF.out
         have hco := HCO.out
         rw [HV.out, HDT.out] at hco
         have hap := (HDK.out.apart).2 c HCL.out
         have hgb : ∀ q, (Value.slice a (f.sf + kk) (f.sf + kk)).ownBlock = some q → c.v.ownBlock = some q := fun q hq => by rw [HV.out, ownBlock_sl]; rw [ownBlock_sl] at hq; exact hq
         refine ⟨k + 1, i + 1, updF f.nm (fun g => ⟨g.nm, g.dt.take (f.sf + kk), f.sf + kk⟩) cur, by omega, by omega, by go_num, by go_num, HNEXT.out HLO.out _ (by rw [HKK.out]), Done.trans HFR.out ?_⟩
         refine Done.file (s := { s with fs := cur }) HDK.out HLE.out HCV.out HS.out HOK.out HGC.out (fun g => ⟨g.nm, g.dt.take (f.sf + kk), f.sf + kk⟩) (fun _ => rfl) ?_ ?_ (v' := .slice a (f.sf + kk) (f.sf + kk)) ?_ ?_ ?_ ?_ ?_
         · show f.sf + kk ≤ (c.f.dt.take (f.sf + kk)).length
           rw [hcf, List.length_take]; omega
         · show (c.f.dt.take (f.sf + kk)).length + tot cur ≤ 4194304 + c.dt.length
           rw [hcf, HDT.out, List.length_take]; omega
         · exact (((G2.out.mono fun q _ hq => hq.elim .inl fun h => .inr (.inl h)).setCell (fun _ => .inr (.inl rfl)) _).setCell (fun _ => .inr (.inl rfl)) _).drew
         · rw [show (((tot (DS.fs { s with fs := cur }) : Nat) : Int) + (((fun g : Fl => (⟨g.nm, g.dt.take (f.sf + kk), f.sf + kk⟩ : Fl)) c.f).dt.length : Nat) - (c.dt.length : Nat)) = (tot cur : Nat) - ((f.dt.length : Int) - (f.sf : Int) - (kk : Int)) by
            show (((tot cur : Nat) : Int) + ((c.f.dt.take (f.sf + kk)).length : Nat) - (c.dt.length : Nat)) = _
            rw [hcf, HDT.out, List.length_take, Nat.min_eq_left hx]; omega]
           exact (heap_setCell_other _ ⟨c.b, 1, none⟩ d _ (Ne.symm hcd)).trans ((heap_setCell_other w2 ⟨c.b, 0, none⟩ d _ (Ne.symm hcd)).trans HD2.out)
         · exact row_set (row_set HF2.out rfl) rfl
         · show OwnC _ _ (c.f.dt.take (f.sf + kk))
           rw [hcf]
           refine (hco.cut (f.sf + kk) hx).block fun q hq => ?_
           have hq' := hgb q hq
           have h3 := hap.2.2 q hq'
           exact (heap_setCell_other _ ⟨c.b, 1, none⟩ q _ (h3.2.2 c HCL.out)).trans ((heap_setCell_other w2 ⟨c.b, 0, none⟩ q _ (h3.2.2 c HCL.out)).trans (G2.out.block q ((HDK.out.blocks.2.2 c HCL.out).2 q hq') (by rintro (e | e); exact h3.1 e; exact h3.2.2 c HCL.out e)))
         · exact fun q hq => .inl (hgb q hq)
        case measure => simp [intOf]; omega
  · obtain rfl : k = n := by omega
    have hcur := HC.out.done HN.out.symm
    obtain ⟨m, L, hDk, hL, hCv, hS, hok⟩ := HD.out.1
    have hd := hDk.hd
    have f3 := frozen_of_row wr d 3 _ _ hd
    have f4 := frozen_of_row wr d 4 _ _ hd
    have c3 := cell_of_row wr d 3 _ _ _ hd
    have c4 := cell_of_row wr d 4 _ _ _ hd
    have hf2 : Fr (fun k => k = d) wr ((wr.setCell ⟨d, 4, none⟩ (.bool false)).setCell ⟨d, 3, none⟩ (.int .i64 0)) := ((Fr.refl (fun k => k = d) wr).setCell (fun _ => rfl) _).setCell (fun _ => rfl) _
    have hok2 : DOk B ⟨cur, s.wr, 0, false⟩ := ⟨hok.srt, hok.each, hok.tot, hok.len, by simp, by simp, hok.wr0, hok.wr1⟩
    have hfin : Hid (Done B w d S (crashS s picks) ((wr.setCell ⟨d, 4, none⟩ (.bool false)).setCell ⟨d, 3, none⟩ (.int .i64 0))) := by
     have h1 := DkS.scal (s := { s with fs := cur }) hDk hL hCv hS (wr := s.wr) (ar := 0) (dn := false) hok2 hf2 (row_set (row_set hd rfl) rfl)
     have h2 : Done B w1 d S ⟨cur, s.wr, 0, false⟩ _ := Done.trans HD.out.2 (Done.trans0 (hf2.mono fun q _ hq => by rw [hq]; exact hCv.1) (Done.refl h1))
     unfold crashS
     rw [← hcur]
     exact Done.trans0 (Fr.of_new HB.out) h2
    clear hDk hL hCv hS hok hd hf2 hok2 hcur
    go_wp2_with fail
    go_end0
    exact ⟨rfl, hfin.out⟩
end Go.Proofs.YtjjcilinghgphaaGreat
