/-
  The walk of DiskKeeps.
-/
import Derived.Test.YtdbfkneklkdnaaaE19
namespace Go.Proofs.Ytdbfkneklkdnaaa
open Go.RowKit Go.Maps Go.Sort
set_option maxRecDepth 100000
attribute [local go_sem] bs_size bs_toList

theorem crashL_length (picks : List Int) : ∀ (i : Nat) (l : List Fl), (crashL picks i l).length = l.length
  | _, [] => rfl
  | i, f :: r => by
    rw [crashL_cons]
    split
    · simp [crashL_length picks i r]
    · simp [crashL_length picks (i + 1) r]
theorem crashL_at (picks : List Int) : ∀ (i : Nat) (l : List Fl), (∀ x ∈ l, x.sf ≤ x.dt.length) → ∀ (k : Nat) (f : Fl), l[k]? = some f →
    ∃ g, (crashL picks i l)[k]? = some g ∧ g.nm = f.nm ∧ f.sf ≤ g.dt.length ∧ g.dt.length ≤ f.dt.length ∧ g.sf = g.dt.length ∧ g.dt = f.dt.take g.dt.length
  | _, [], _, k, f, h => by simp at h
  | i, y :: r, hs, 0, f, h => by
    simp at h; subst h
    rw [crashL_cons]
    have h1 := hs y (by simp)
    split
    · rename_i he
      exact ⟨y, rfl, rfl, h1, Nat.le_refl _, he.symm, (List.take_of_length_le (Nat.le_refl _)).symm⟩
    · have hk := keepN_le picks i (y.dt.length - y.sf)
      have hl : (y.dt.take (y.sf + keepN picks i (y.dt.length - y.sf))).length = y.sf + keepN picks i (y.dt.length - y.sf) := by rw [List.length_take]; omega
      refine ⟨_, rfl, rfl, ?_, ?_, hl.symm, ?_⟩
      · show y.sf ≤ (y.dt.take _).length
        omega
      · show (y.dt.take _).length ≤ _
        omega
      · show y.dt.take _ = y.dt.take (y.dt.take _).length
        rw [hl]
  | i, y :: r, hs, k + 1, f, h => by
    have h' : r[k]? = some f := by simpa using h
    have hs' : ∀ x ∈ r, x.sf ≤ x.dt.length := fun x hx => hs x (by simp [hx])
    rw [crashL_cons]
    split
    · simpa using crashL_at picks i r hs' k f h'
    · simpa using crashL_at picks (i + 1) r hs' k f h'
theorem crashL_id (picks : List Int) : ∀ (i : Nat) (l : List Fl), (∀ x ∈ l, x.dt.length = x.sf) → crashL picks i l = l
  | _, [], _ => rfl
  | i, y :: r, h => by
    rw [crashL_cons, if_pos (h y (by simp)), crashL_id picks i r fun x hx => h x (by simp [hx])]
theorem crashL_twice (picks : List Int) (l : List Fl) (hs : ∀ x ∈ l, x.sf ≤ x.dt.length) : crashL picks 0 (crashL picks 0 l) = crashL picks 0 l := by
  refine crashL_id picks 0 _ fun x hx => ?_
  obtain ⟨k, hk⟩ := List.getElem?_of_mem hx
  obtain ⟨f, hf⟩ : ∃ f, l[k]? = some f := ⟨_, List.getElem?_eq_getElem (by have := (List.getElem?_eq_some_iff.1 hk).1; rw [crashL_length] at this; exact this)⟩
  obtain ⟨g, hg, _, _, _, h1, _⟩ := crashL_at picks 0 l hs k f hf
  rw [hg] at hk; cases hk; exact h1.symm
theorem Rd8.pre {w : World} {a : Option Addr} {n cap : Nat} {l : List UInt8} (h : Rd8 w a n cap l) {k : Nat} (hk : k ≤ n) : k ≤ cap ∧ Rd8 w a k cap (l.take k) := by
  obtain ⟨rfl, h1, h2, h3, h4, h5⟩ := h
  refine ⟨by omega, by rw [List.length_take]; omega, by omega, h2, h3, by simp [B8]; omega, fun j u hj => h5 j u ?_⟩
  simp only [B8, List.map_take, List.getElem?_take] at hj
  split at hj
  · exact hj
  · cases hj
set_option maxHeartbeats 4000000 in
theorem keeps_walk (a : Option Addr) (n cap : Nat) (os : List OpV) (ap : Option Addr) (np cp : Nat) (picks : List Int) (w : World) (h : RdOps w (fun b => b < w.heap.size) a n cap os)
    (hp : RdI w ap np cp picks) (hpb : BlkIn ap np fun b => b < w.heap.size) :
    Calls Try.prog 4 #[.slice a n cap, .slice ap np cp] w (TrueEnd w) := by
  have H0 := Lib.hid h
  have HP := Lib.hid hp
  have HPB := Lib.hid hpb
  have HN := Lib.hid h.1
  clear h hp hpb
  go_enter Try.func4, Try.ntmps4
  go_wp2_with (go_at_call 10; ((with_reducible refine (firstT _).mono ?_); rintro e wa ⟨rfl, hb⟩; have HBA := Lib.hid hb; clear hb))
  go_at_call 11
  refine (few_any a n cap os _ _ (H0.out.below HBA.out)).mono ?_
  rintro e wb ⟨b, rfl, hfew, hb⟩
  have HBB := Lib.hid (next_below HBA.out hb)
  have HFEW := Lib.hid hfew
  clear hb hfew HBA
  cases b with
  | false =>
    clear HFEW
    go_wp2_with (go_at_call 10; ((with_reducible refine (firstT _).mono ?_); rintro e wc ⟨rfl, hb⟩; have HBC := Lib.hid hb; clear hb))
    go_ret
    exact TrueEnd.mk (next_below HBB.out HBC.out)
  | true =>
    have HF := Lib.hid (HFEW.out rfl)
    clear HFEW
    go_wp2_with (go_at_call 12; ((with_reducible refine (new_any 0 (Int.le_refl _) _).mono ?_); rintro e w1 ⟨d, rfl, hb1, hd1⟩; have HL := Lib.hid (LS.start hb1 hd1); clear hb1 hd1))
    have hn3 : n ≤ 300 := by have := HF.out.1; have := HN.out; omega
    go_loopw [6] (fun i wr => ∃ (k : Nat) (S : Nat → Prop) (s : DS), k ≤ n ∧ i = .int .i64 (k : Nat) ∧ Hid (LS (k : Nat) wb wr d S s)) (fun i _ => n - (intOf i).toNat)
    case atStart => exact ⟨0, _, newS, Nat.zero_le _, rfl, HL.out⟩
    case round =>
      clear HL
      obtain ⟨k, S, s, hk, rfl, HL⟩ := hrel
      by_cases hlt : k < n
      · obtain ⟨o, ho⟩ : ∃ o, os[k]? = some o := ⟨_, List.getElem?_eq_getElem (by have := HN.out; omega)⟩
        obtain ⟨b, off, ab, cb, ap', cp', rfl, hrd, c0, c1, c2, c3, c4, c5⟩ := ((H0.out.below HBB.out).below HL.out.2.2).at ho
        have hbl := (HF.out.each (List.mem_of_getElem? ho)).2.2
        have HRD := Lib.hid hrd
        clear ho hrd
        go_wp2_with fail
        go_at_call 13
        refine (HL.out.does (by omega) (by omega) HRD.out (fun b hb => Nat.lt_of_lt_of_le hb HBB.out.size)).mono ?_
        rintro e w2 ht
        obtain ⟨rfl, hls, _⟩ := HL.out.told ht
        have HL2 := Lib.hid hls
        clear ht hls c0 c1 c2 c3 c4 c5
        go_wp2_with fail
        go_roundw
        case rel => exact ⟨k + 1, _, _, by omega, by go_num, HL2.out⟩
        case measure => simp [intOf]; omega
      · obtain rfl : k = n := by omega
        have hsf := Lib.hid (fun x hx => (HL.out.1.ok.each x hx).2.2)
        go_wp2_with fail
        go_at_call 19
        refine (files_any d S _ s wr HL.out.1).mono ?_
        rintro e w2 ⟨v, vs, rfl, ho, hb⟩
        obtain ⟨a7, c7, rfl, hr7⟩ := ho.rd
        have HL2 := Lib.hid (HL.out.new hb)
        have HT7 : Hid (∀ b, wr.heap.size ≤ b ∧ b < w2.heap.size → ¬ S b) := fun q hq e => by have := HL.out.1.lt q e; omega
        have HR7 := Lib.hid hr7
        clear hr7 ho hb HL
        go_wp2_with fail
        go_at_call 17
        refine (crash_any d S _ s ap np cp picks w2 HL2.out.1 ((HP.out.below HBB.out).below HL2.out.2.2) (fun h0 q hq => HL2.out.old q (Nat.lt_of_lt_of_le (HPB.out h0 q hq) HBB.out.size))).mono ?_
        rintro e w3 ⟨rfl, hd⟩
        obtain ⟨hls, hf⟩ := HL2.out.done hd
        have HL3 := Lib.hid hls
        have HR73 := Lib.hid (HR7.out.keep hf HT7.out)
        have HT73 : Hid (∀ b, wr.heap.size ≤ b ∧ b < w2.heap.size → ¬ Sx S w2 w3 b) := fun q hq e => by
          rcases e with e | e
          · exact HT7.out q hq e
          · omega
        clear hls hf hd HR7 HT7 HL2
        obtain ⟨s3, hs3⟩ : ∃ s3, crashS s picks = s3 := ⟨_, rfl⟩
        have hdn3 : s3.dn = false := by rw [← hs3]; rfl
        have hfs3 := Lib.hid (show crashL picks 0 s.fs = s3.fs by rw [← hs3]; rfl)
        have hlen3 : Hid (s.fs.length = s3.fs.length) := by show _ = _; rw [← hfs3.out, crashL_length]
        rw [hs3] at HL3
        clear hs3
        go_wp2_with fail
        go_at_call 19
        refine (files_any d _ _ s3 w3 HL3.out.1).mono ?_
        rintro e w4 ⟨v, vs', rfl, ho, hb⟩
        obtain ⟨a8, c8, rfl, hr8⟩ := ho.rd
        have HL4 := Lib.hid (HL3.out.new hb)
        have HR84 := Lib.hid hr8
        have HR74 := Lib.hid (HR73.out.below hb)
        have HS8 : Hid (∀ b, w3.heap.size ≤ b ∧ b < w4.heap.size → ¬ Sx S w2 w3 b) := fun q hq e => by have := HL3.out.1.lt q e; omega
        have HDN := Lib.hid (down_any d _ _ s3 w4 HL4.out.1)
        clear hr8 ho hb HR73 HL3
        obtain ⟨m, hm⟩ : ∃ m, s.fs.length = m := ⟨_, rfl⟩
        have hm3 : s3.fs.length = m := by rw [← hlen3.out, hm]
        have hm64 : m ≤ 64 := by have := HL4.out.1.ok.len; omega
        have HM := Lib.hid hm
        have HM3 := Lib.hid hm3
        rw [hm] at HR74
        rw [hm3] at HR84
        rw [hm, hm3]
        clear hm hm3 hlen3
        go_wp2_with (go_at_call 20; ((with_reducible refine (HDN.out).mono ?_); rintro e w' ⟨rfl, rfl⟩; rw [hdn3]))
        clear hdn3 HDN
        go_loopw [9, 10] (fun i _ wr => ∃ k : Nat, k ≤ m ∧ i = .int .i64 k ∧ Hid (Fr (fun _ => False) w4 wr)) (fun i _ _ => m - (intOf i).toNat)
        case atStart => exact ⟨0, Nat.zero_le _, rfl, Fr.refl _ _⟩
        case round =>
          obtain ⟨k, hk, rfl, HB⟩ := hrel
          by_cases hlt : k < m
          · obtain ⟨f, hf⟩ : ∃ f, s.fs[k]? = some f := ⟨_, List.getElem?_eq_getElem (by have := HM.out; omega)⟩
            obtain ⟨g, hg, q1, q2, q3, q4, q5⟩ := crashL_at picks 0 s.fs hsf.out k f hf
            rw [hfs3.out] at hg
            obtain ⟨b7, o7, a7', c7', rfl, c1, c2, c3, hr, _⟩ := (HR74.out.keep HB.out (fun _ _ h => h)).at hf
            obtain ⟨b8, o8, a8', c8', rfl, c1', c2', c3', hr', _⟩ := (HR84.out.keep HB.out (fun _ _ h => h)).at hg
            obtain ⟨hcx, hrx⟩ := hr.pre q3
            rw [← q5] at hrx
            rw [q4] at c3'
            rw [q1] at c1'
            have k1 : ∀ i, (convert 30 9 (.slice a8' g.dt.length c8')).run Try.prog (wr.drewN i) = .ok (.string (bs g.dt)) (wr.drewN i) := fun i => run_toStr (P := Try.prog) (hr'.keep ((Fr.refl (fun _ => False) wr).drewN i) (fun _ _ h => h)) 30 5 9 Try.underlying30 Try.underlying5 Try.underlying9
            have k2 : ∀ i, (convert 30 9 (.slice a7' g.dt.length c7')).run Try.prog (wr.drewN i) = .ok (.string (bs g.dt)) (wr.drewN i) := fun i => run_toStr (P := Try.prog) (hrx.keep ((Fr.refl (fun _ => False) wr).drewN i) (fun _ _ h => h)) 30 5 9 Try.underlying30 Try.underlying5 Try.underlying9
            have d0 : (f.nm == f.nm) = true := by simp
            have d1 : decide ((g.dt.length : Int) < (f.sf : Int)) = false := by simp; omega
            have d2 : decide ((f.dt.length : Int) < (g.dt.length : Int)) = false := by simp; omega
            have d3 : ((g.dt.length : Int) != (g.dt.length : Int)) = false := by simp
            have d5 : decide (g.dt.length < f.sf) = false := by simp; omega
            have d6 : decide (f.dt.length < g.dt.length) = false := by simp; omega
            have d4 : (g.dt == g.dt) = true := by simp
            clear hf hg q1 q2 q3 q4 q5 hr hr' hrx
            go_wp2_with fail
            go_quiet (fail)
            go_wp2_with fail
            go_roundw
            case rel => exact ⟨k + 1, by omega, by go_num, HB.out.drewN _⟩
            case measure => simp [intOf]; omega
          · obtain rfl : k = m := by omega
            have HL5 := Lib.hid (HL4.out.new (HB.out.below (Nat.le_refl _) (fun _ _ h => h)))
            have HR85 := Lib.hid (HR84.out.keep HB.out (fun _ _ h => h))
            clear HL4 HR84 HR74 HT73
            go_wp2_with fail
            go_at_call 17
            refine (crash_any d _ _ s3 ap np cp picks wr HL5.out.1 ((HP.out.below HBB.out).below HL5.out.2.2) (fun h0 q hq => HL5.out.old q (Nat.lt_of_lt_of_le (HPB.out h0 q hq) HBB.out.size))).mono ?_
            rintro e w6 ⟨rfl, hd⟩
            obtain ⟨hls, hf⟩ := HL5.out.done hd
            have HL6 := Lib.hid hls
            have HR86 := Lib.hid (HR85.out.keep hf HS8.out)
            clear hls hf hd HR85 HL5
            go_wp2_with (go_at_call 10; ((with_reducible refine (firstT _).mono ?_); rintro e wc ⟨rfl, hb⟩; have HBC := Lib.hid hb; clear hb))
            have HL7 := Lib.hid (HL6.out.new HBC.out)
            have HR87 := Lib.hid (HR86.out.below HBC.out)
            clear HL6 HR86 HBC
            go_at_call 19
            refine (files_any d _ _ (crashS s3 picks) _ HL7.out.1).mono ?_
            rintro e w8 ⟨v, vs9, rfl, ho, hb⟩
            obtain ⟨a9, c9, rfl, hr9⟩ := ho.rd
            have HL8 := Lib.hid (HL7.out.new hb)
            have hqq := filesEq_any _ _ _ _ _ _ _ _ _ _ _ hr9 (HR87.out.below hb)
            rw [show filesB (crashS s3 picks).fs s3.fs = true from (filesB_iff _ _).2 (by show crashL picks 0 s3.fs = s3.fs; rw [← hfs3.out]; exact crashL_twice picks _ hsf.out)] at hqq
            have HQQ := Lib.hid hqq
            clear ho hb hr9 hqq HL7
            go_wp2_with (go_at_call 21; ((with_reducible refine (HQQ.out).mono ?_); rintro e w' ⟨rfl, hb⟩; have HBD := Lib.hid hb; clear hb))
            go_ret
            exact TrueEnd.mk (next_below (next_below HBB.out HL8.out.2.2) HBD.out)
end Go.Proofs.Ytdbfkneklkdnaaa
