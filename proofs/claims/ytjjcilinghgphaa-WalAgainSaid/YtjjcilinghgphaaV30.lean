/-
  The walk of WalAgain.
-/
import Derived.Test.YtjjcilinghgphaaV27
namespace Go.Proofs.Ytjjcilinghgphaa
open Go.RowKit Go.Maps Go.Sort
set_option maxRecDepth 100000
attribute [local go_sem] bs_size bs_toList

/-- A log without falls, its records short. -/
structure FA (seg : Int) (s : DS) (g : LG) : Prop where
  fre : Fre s g
  rm : g.room = seg
  dir : g.dir = dL
  rl : ∀ r ∈ g.all, r.length ≤ 262144
theorem FA.start {seg : Int} : FA seg sN (gA seg [] 0) := ⟨fre_new seg, rfl, rfl, fun r hr => by simp [LG.all, LG.segs, gA, allR] at hr⟩
section
variable {seg : Int} {s : DS} {g : LG} {B : Int}
theorem FA.sync (h : FA seg s g) (hs : Srt s.fs) : FA seg (syncL s g).s (syncL s g).g ∧ (syncL s g).e = 0 := by
  obtain ⟨a1, a2, a3⟩ := h.fre.sync hs
  refine ⟨⟨a2, ?_, ?_, ?_⟩, a1⟩
  · rw [a3]; exact h.rm
  · rw [a3]; exact h.dir
  · rw [a3]; exact h.rl
theorem FA.app (h : FA seg s g) (hd : DOk B s) (hk : LOk s g) (p : List UInt8) : FA seg (appL s g p).s (appL s g p).g := by
  obtain ⟨a1, a2, a3, a4, a5⟩ := h.fre.app (p := p) (_B' := B) hk hd
  obtain ⟨b1, b2⟩ := appL_room (s := s) (g := g) (p := p)
  refine ⟨a1, b1.trans h.rm, b2.trans h.dir, fun r hr => ?_⟩
  by_cases h0 : (appL s g p).e = 0
  · rw [(a3 h0).1] at hr
    rcases List.mem_append.1 hr with hr | hr
    · exact h.rl r hr
    · rw [List.mem_singleton] at hr
      subst hr
      rcases Nat.lt_or_ge 262144 r.length with hl | hl
      · rw [(appL_long hl).1] at h0
        exact absurd h0 (by simp)
      · exact hl
  · rw [(a4 h0).1] at hr
    exact h.rl r hr
theorem FA.trim (h : FA seg s g) (hd : DOk B s) (hk : LOk s g) (below : Int) : FA seg (trimL s g below).s (trimL s g below).g := by
  obtain ⟨k1, k2, k3, k4, k5, k6, k7, k8, k9⟩ := FL.trim h.fre hd hk below
  exact ⟨k2, k5.trans h.rm, k6.trans h.dir, fun r hr => h.rl r (by rw [k9] at hr; exact List.mem_of_mem_drop hr)⟩
theorem upd_again (n : List UInt8) (l : List Fl) : updF n (fun f => ⟨f.nm, f.dt, f.dt.length⟩) (updF n (fun f => ⟨f.nm, f.dt, f.dt.length⟩) l) = updF n (fun f => ⟨f.nm, f.dt, f.dt.length⟩) l := by
  unfold updF
  rw [List.map_map]
  refine List.map_congr_left fun f _ => ?_
  by_cases hf : (f.nm == n) = true <;> simp [Function.comp, hf]
theorem Fre.synced (h : Fre s g) (hs : Srt s.fs) : (syncL s g).s.fs = updF g.lnm (fun f => ⟨f.nm, f.dt, f.dt.length⟩) s.fs := by
  obtain ⟨q, hq, _⟩ := h.get hs
  have he : hasE s g.lnm = 0 := by unfold hasE; rw [hq]; rfl
  have h0 : syncS s g.lnm = ({ s with wr := s.wr + 1, fs := updF g.lnm (fun f => ⟨f.nm, f.dt, f.dt.length⟩) s.fs }, 0) := by
    unfold syncS
    rw [errW_free h.dn h.ar, if_pos he]
  unfold syncL
  rw [h0, if_pos rfl]
/-- Synced once more: the files stay as they are. -/
theorem Fre.twice (h : Fre s g) (hs : Srt s.fs) (hs2 : Srt (syncL s g).s.fs) : (syncL (syncL s g).s (syncL s g).g).s.fs = (syncL s g).s.fs := by
  obtain ⟨a1, a2, a3⟩ := h.sync hs
  rw [a2.synced hs2, h.synced hs]
  have e : (syncL s g).g.lnm = g.lnm := by rw [a3]; rfl
  rw [e, upd_again]
end
/-- Two logs over a disk; what Files told. -/
structure XY (W0 : World) (B : Int) (d l l2 : Nat) (Sl Sl2 Sd2 Tw : Nat → Prop) (s1 s2 : DS) (g : LG) (a0 : Option Addr) (n0 c0 : Nat) (w : World) : Prop where
  bl : Below W0.heap.size W0 w
  x : LgG w l d Sl g
  y : LgG w l2 d Sl2 g
  kx : LOk s1 g
  ky : LOk s2 g
  dk : DkS B w d Sd2 s2
  was : RdFs w Tw a0 n0 c0 s1.fs
theorem XY.new {W0 : World} {B : Int} {d l l2 : Nat} {Sl Sl2 Sd2 Tw : Nat → Prop} {s1 s2 : DS} {g : LG} {a0 : Option Addr} {n0 c0 : Nat} {w w' : World} (h : XY W0 B d l l2 Sl Sl2 Sd2 Tw s1 s2 g a0 n0 c0 w) (hb : Below w.heap.size w w') : XY W0 B d l l2 Sl Sl2 Sd2 Tw s1 s2 g a0 n0 c0 w' :=
  ⟨next_below h.bl hb, h.x.below hb, h.y.below hb, h.kx, h.ky, h.dk.below hb, h.was.below hb⟩
theorem dn_below (w : World) (n : Nat) : Below w.heap.size w (w.drewN n) := below_dn (Below.refl _ _) n
set_option maxHeartbeats 8000000 in
theorem again_walk (seg : Int) (a : Option Addr) (n cap : Nat) (os : List OpW) (w : World) (h : RdOw w (fun b => b < w.heap.size) a n cap os) :
    Calls Try.prog 7 #[.int .i64 seg, .slice a n cap] w (TEnd w) := by
  have H0 := Lib.hid h
  have HN := Lib.hid h.1
  clear h
  go_enter Try.func7, Try.ntmps7
  go_wp2_with fail
  go_at_call 9
  refine (wfirst_any w).mono ?_
  rintro e wa ⟨rfl, hb⟩
  have HBA := Lib.hid hb
  clear hb
  go_wp2_with fail
  go_at_call 12
  have hrl : RdOw wa (fun b => b < wa.heap.size) a n cap os := (H0.out.below HBA.out).mono fun b hb => Nat.lt_of_lt_of_le hb HBA.out.size
  refine (fewW_any a n cap os _ wa hrl).mono ?_
  rintro e wb ⟨b, rfl, hfew, hb⟩
  have HBB := Lib.hid (next_below HBA.out hb)
  have HFEW := Lib.hid hfew
  have HRD := Lib.hid ((hrl.below hb).mono (T' := fun b => b < wb.heap.size) fun b hb' => Nat.lt_of_lt_of_le hb' hb.size)
  clear hb hfew hrl HBA
  by_cases hbad : b = false ∨ seg < 64 ∨ 262144 < seg
  · clear HFEW HRD
    have hcs : b = false ∨ (b = true ∧ seg < 64) ∨ (b = true ∧ ¬ seg < 64 ∧ 262144 < seg) := by
      cases b with
      | false => exact .inl rfl
      | true =>
        by_cases h : seg < 64
        · exact .inr (.inl ⟨rfl, h⟩)
        · exact .inr (.inr ⟨rfl, h, by rcases hbad with h' | h' | h'; cases h'; omega; exact h'⟩)
    clear hbad
    rcases hcs with rfl | ⟨rfl, h1⟩ | ⟨rfl, h1, h2⟩
    all_goals
      go_wp2_with fail
      go_at_call 9
      refine (wfirst_any wb).mono ?_
      rintro e wc ⟨rfl, hb⟩
      have HBC := Lib.hid (next_below HBB.out hb)
      clear hb
      go_wp2_with fail
      go_ret
      exact TEnd.mk HBC.out
  obtain ⟨rfl, hs1, hs2⟩ : b = true ∧ ¬ seg < 64 ∧ ¬ 262144 < seg := by
    cases b with
    | false => exact absurd (.inl rfl) hbad
    | true => exact ⟨rfl, fun h => hbad (.inr (.inl h)), fun h => hbad (.inr (.inr h))⟩
  have hn200 : n ≤ 200 := by have := (HFEW.out rfl).1; have := HN.out; omega
  have e1 : decide (seg < 64) = false := by simpa using hs1
  have e2 : decide (262144 < seg) = false := by simpa using hs2
  clear hbad HFEW
  go_wp2_with fail
  go_at_call 22
  refine (new_any 0 (Int.le_refl _) wb).mono ?_
  rintro e w1 ⟨d, rfl, hb1, hd1⟩
  have HD1 := Lib.hid (DL.start hb1 hd1)
  clear hb1 hd1 e1 e2
  go_wp2_with fail
  go_at_call 23
  refine (HD1.out.open (by omega) dL (by decide) seg).mono ?_
  rintro e w2 ho
  rw [open_new (by omega) (by omega)] at ho
  obtain ⟨l, T2, rfl, hl2, _⟩ := ho
  have HL2 := Lib.hid hl2
  clear hl2 hs1 hs2
  go_wp2_with fail
  go_loopw [8, 56, 65, 69] (fun i _ _ _ wr => ∃ (k : Nat) (T : Nat → Prop) (s : DS) (g : LG), k ≤ n ∧ i = .int .i64 (k : Nat) ∧ Hid (LL wb (3 + 100000003 * (k : Nat)) d l T s g wr) ∧ Hid (FA seg s g)) (fun i _ _ _ _ => n - (intOf i).toNat)
  case atStart => exact ⟨0, T2, sN, _, Nat.zero_le _, rfl, HL2.out.mono (by omega), FA.start⟩
  case round =>
    clear HL2 HD1
    obtain ⟨k, T, s, g, hk, rfl, HL, HF⟩ := hrel
    by_cases hlt : k < n
    · obtain ⟨o, ho⟩ : ∃ o, os[k]? = some o := ⟨_, List.getElem?_eq_getElem (by have := HN.out; omega)⟩
      obtain ⟨b, off, ab, cb, ap, cp, rfl, hrd, c0, c1, c2, c3, c4, c5⟩ := HRD.out.at ho
      have HR8 := Lib.hid hrd.2.1
      have HBI := Lib.hid hrd.2.2.2.1
      have q0 := cell_below c0 HL.out.bl
      have q1 := cell_below c1 HL.out.bl
      have q3 := cell_below c3 HL.out.bl
      obtain ⟨ok, hok⟩ : ∃ ok, o.k = ok := ⟨_, rfl⟩
      rw [hok] at q0
      clear hrd c0 c1 c2 c3 c4 c5 ho hok
      by_cases h1 : ok = 1
      · subst h1
        go_wp2_with fail
        go_at_call 24
        refine (HL.out.append (by omega) (HR8.out.below HL.out.bl) (HL.out.old HBI.out)).mono ?_
        rintro e w3 ⟨T3, rfl, hl3, hx3⟩
        have HL3 := Lib.hid (hl3.mono (B' := 3 + 100000003 * ((k + 1 : Nat) : Int)) (by omega))
        have HF3 := Lib.hid (HF.out.app HL.out.lw.ok HL.out.ok o.b)
        clear hl3 hx3 q0 q1 q3
        go_wp2_with fail
        go_roundw
        case rel => exact ⟨k + 1, T3, _, _, by omega, by go_num, HL3.out, HF3.out⟩
        case measure => simp [intOf]; omega
      · have b1 : (ok == 1) = false := by simpa using h1
        by_cases h2 : ok = 2
        · subst h2
          go_wp2_with fail
          go_at_call 26
          refine (HL.out.sync (by omega)).mono ?_
          rintro e w3 ⟨T3, rfl, hl3, hx3⟩
          have HL3 := Lib.hid (hl3.mono (B' := 3 + 100000003 * ((k + 1 : Nat) : Int)) (by omega))
          have HF3 := Lib.hid (HF.out.sync HL.out.lw.ok.srt).1
          clear hl3 hx3 q0 q1 q3 h1 b1
          go_wp2_with fail
          go_roundw
          case rel => exact ⟨k + 1, T3, _, _, by omega, by go_num, HL3.out, HF3.out⟩
          case measure => simp [intOf]; omega
        · have b2 : (ok == 2) = false := by simpa using h2
          by_cases h3 : ok = 3
          · subst h3
            go_wp2_with fail
            go_at_call 27
            refine (HL.out.trim (by omega) o.n).mono ?_
            rintro e w3 ⟨T3, rfl, hl3, hx3⟩
            have HL3 := Lib.hid (hl3.mono (B' := 3 + 100000003 * ((k + 1 : Nat) : Int)) (by omega))
            have HF3 := Lib.hid (HF.out.trim HL.out.lw.ok HL.out.ok o.n)
            clear hl3 hx3 q0 q1 q3 h1 b1 h2 b2
            go_wp2_with fail
            go_roundw
            case rel => exact ⟨k + 1, T3, _, _, by omega, by go_num, HL3.out, HF3.out⟩
            case measure => simp [intOf]; omega
          · have b3 : (ok == 3) = false := by simpa using h3
            have HL3 := Lib.hid (HL.out.mono (B' := 3 + 100000003 * ((k + 1 : Nat) : Int)) (by omega))
            clear h1 h2 h3
            go_wp2_with fail
            go_roundw
            case rel => exact ⟨k + 1, T, s, g, by omega, by go_num, HL3.out, HF.out⟩
            case measure => simp [intOf]; omega
    · have HL3 := Lib.hid (HL.out.mono (B' := 30000000000) (by omega))
      clear HL
      go_wp2_with fail
      go_at_call 26
      refine (HL3.out.sync (by omega)).mono ?_
      rintro e w3 ⟨T3, rfl, hl3, _⟩
      obtain ⟨f1, f2⟩ := HF.out.sync HL3.out.lw.ok.srt
      obtain ⟨_, _, f3⟩ := HF.out.fre.sync HL3.out.lw.ok.srt
      have ft := HF.out.fre.twice HL3.out.lw.ok.srt hl3.lw.ok.srt
      rw [f2]
      have hsf : (syncL s g).g.sf = (syncL s g).g.next - 1 := by rw [f3]; rfl
      obtain ⟨s1, hs1⟩ : ∃ x, (syncL s g).s = x := ⟨_, rfl⟩
      obtain ⟨g1, hg1⟩ : ∃ x, (syncL s g).g = x := ⟨_, rfl⟩
      rw [hs1, hg1] at hl3 f1 ft
      rw [hg1] at hsf
      have hro := f1.fre.reopen hl3.lw.ok hl3.ok f1.rl
      rw [show ({ g1 with sf := g1.next - 1 } : LG) = g1 by rw [← hsf], f1.rm, f1.dir] at hro
      obtain ⟨s2, hs2⟩ : ∃ x, (syncL s1 g1).s = x := ⟨_, rfl⟩
      rw [hs2] at hro ft
      have HRO := Lib.hid hro
      have HFT := Lib.hid ft
      have HSF := Lib.hid hsf
      have HLA := Lib.hid hl3
      clear f1 f2 f3 ft hsf hs1 hg1 hs2 hro hl3
      obtain ⟨Sd, Sl, p1, p2, p3, p4, p5, p6⟩ := HLA.out.lw
      have P1 := Lib.hid p1
      have P2 := Lib.hid p2
      have P3 := Lib.hid p3
      have P4 := Lib.hid p4
      have P6 := Lib.hid p6
      clear p1 p2 p3 p4 p5 p6
      go_wp2_with fail
      go_at_call 21
      refine (files_any d Sd _ _ w3 P1.out).mono ?_
      rintro e w4 ⟨v4, vs4, rfl, hown, hb⟩
      obtain ⟨a0, c0, rfl, hrf⟩ := hown.rd
      obtain ⟨n0, hn0⟩ : ∃ x, s1.fs.length = x := ⟨_, rfl⟩
      rw [hn0] at hrf ⊢
      have HB4 := Lib.hid hb
      have HRF := Lib.hid hrf
      clear hown hrf hb hn0
      go_wp2_with fail
      go_at_call 23
      refine (open_any d Sd _ (by omega) s1 dL (by decide) seg w4 (P1.out.below HB4.out)).mono ?_
      rintro e w5 ho
      rw [HRO.out] at ho
      obtain ⟨l2, rfl, hl2, hf2, hk2⟩ := ho
      obtain ⟨Sd2, Sl2, r1, r2, _⟩ := hl2
      have HXY : Hid (XY wb _ d l l2 Sl Sl2 Sd2 _ s1 s2 g1 a0 n0 c0 w5) := ⟨fr_below hf2 (fun k hk => HLA.out.t0 k (P4.out k hk)) (next_below HLA.out.bl HB4.out), (P2.out.below HB4.out).keep hf2 fun k hk e => P3.out k e hk, r2, HLA.out.ok, hk2, r1, HRF.out.keep hf2 fun k hk e => by
        have h1 := P6.out k (P4.out k e)
        have h2 := hk.1
        omega⟩
      clear hf2 hk2 r1 r2 HRF HB4 P1 P2 P3 P4 P6 HLA HRO HL3 HF
      obtain ⟨gf, hgf⟩ : ∃ x, g1.first = x := ⟨_, rfl⟩
      obtain ⟨gn, hgn⟩ : ∃ x, g1.next = x := ⟨_, rfl⟩
      obtain ⟨gs, hgs⟩ : ∃ x, g1.safe = x := ⟨_, rfl⟩
      obtain ⟨m1, m2⟩ := from_whole HXY.out.kx HSF.out
      have hgb : g1.first ≤ 100349524 := by
        have := HXY.out.kx.all_len
        have := HXY.out.kx.next_le
        omega
      rw [hgf] at m1 m2 hgb
      have HM1 := Lib.hid m1
      have HM2 := Lib.hid m2
      have HGF := Lib.hid hgf
      have HGN := Lib.hid hgn
      have HGS := Lib.hid hgs
      clear m1 m2 hgf hgn hgs
      go_wp2_with fail
      go_at_call 14
      refine (HXY.out.y.first HXY.out.ky).mono ?_
      rintro e w6 ⟨rfl, rfl⟩
      rw [HGF.out]
      go_wp2_with fail
      go_at_call 14
      refine (HXY.out.x.first HXY.out.kx).mono ?_
      rintro e w6 ⟨rfl, rfl⟩
      rw [HGF.out]
      have n1 : ((gf : Int) == (gf : Int)) = true := by simp
      have n2 : ((gn : Int) == (gn : Int)) = true := by simp
      have n3 : ((gs : Int) == (gs : Int)) = true := by simp
      go_wp2_with fail
      go_at_call 15
      refine (HXY.out.y.next HXY.out.ky).mono ?_
      rintro e w6 ⟨rfl, i6, rfl⟩
      rw [HGN.out]
      have HXY6 := Lib.hid (HXY.out.new (dn_below _ i6))
      obtain ⟨W6, hW6⟩ : ∃ W, w5.drewN i6 = W := ⟨_, rfl⟩
      rw [hW6] at HXY6 ⊢
      clear hW6
      go_wp2_with fail
      go_at_call 15
      refine (HXY6.out.x.next HXY.out.kx).mono ?_
      rintro e w7 ⟨rfl, i7, rfl⟩
      rw [HGN.out]
      have HXY7 := Lib.hid (HXY6.out.new (dn_below _ i7))
      obtain ⟨W7, hW7⟩ : ∃ W, W6.drewN i7 = W := ⟨_, rfl⟩
      rw [hW7] at HXY7 ⊢
      clear hW7
      go_wp2_with fail
      go_at_call 16
      refine (HXY7.out.y.safe HXY.out.ky).mono ?_
      rintro e w8 ⟨rfl, i8, rfl⟩
      rw [HGS.out]
      have HXY8 := Lib.hid (HXY7.out.new (dn_below _ i8))
      obtain ⟨W8, hW8⟩ : ∃ W, W7.drewN i8 = W := ⟨_, rfl⟩
      rw [hW8] at HXY8 ⊢
      clear hW8
      go_wp2_with fail
      go_at_call 16
      refine (HXY8.out.x.safe HXY.out.kx).mono ?_
      rintro e w9 ⟨rfl, i9, rfl⟩
      rw [HGS.out]
      have HXY9 := Lib.hid (HXY8.out.new (dn_below _ i9))
      obtain ⟨W9, hW9⟩ : ∃ W, W8.drewN i9 = W := ⟨_, rfl⟩
      rw [hW9] at HXY9 ⊢
      clear hW9
      go_wp2_with fail
      go_at_call 14
      refine (HXY9.out.x.first HXY.out.kx).mono ?_
      rintro e w10 ⟨rfl, rfl⟩
      rw [HGF.out]
      go_wp2_with fail
      go_at_call 19
      refine (wfrom_any HXY9.out.x HXY.out.kx (gf : Nat) 1073741824 (by omega) (by omega)).mono ?_
      rintro e w11 ⟨v11, vs11, rfl, ho, hb⟩
      rw [HM1.out] at ho ⊢
      have ho' : Own88 w11 W9.heap.size v11 vs11 g1.all := by rw [if_pos rfl, HM2.out] at ho; exact ho
      obtain ⟨a11, c11, rfl, hr11⟩ := Own88.rd ho'
      obtain ⟨gl, hgl⟩ : ∃ x, g1.all.length = x := ⟨_, rfl⟩
      rw [hgl] at hr11 ⊢
      have HGL := Lib.hid hgl
      have HXY11 := Lib.hid (HXY9.out.new hb)
      have HR11 := Lib.hid hr11
      clear ho ho' hr11 hb hgl
      go_wp2_with fail
      go_at_call 14
      refine (HXY11.out.x.first HXY.out.kx).mono ?_
      rintro e w12 ⟨rfl, rfl⟩
      rw [HGF.out]
      go_wp2_with fail
      go_at_call 19
      refine (wfrom_any HXY11.out.y HXY.out.ky (gf : Nat) 1073741824 (by omega) (by omega)).mono ?_
      rintro e w13 ⟨v13, vs13, rfl, ho, hb⟩
      rw [HM1.out] at ho ⊢
      have ho' : Own88 w13 w11.heap.size v13 vs13 g1.all := by rw [if_pos rfl, HM2.out] at ho; exact ho
      obtain ⟨a13, c13, rfl, hr13⟩ := Own88.rd ho'
      rw [HGL.out] at hr13 ⊢
      have HXY13 := Lib.hid (HXY11.out.new hb)
      have HRA := Lib.hid (HR11.out.below hb)
      have HRB := Lib.hid hr13
      clear ho ho' hr13 hb
      go_wp2_with fail
      go_at_call 9
      refine (wfirst_any w13).mono ?_
      rintro e w14 ⟨rfl, hb⟩
      have HXY14 := Lib.hid (HXY13.out.new hb)
      have HRA14 := Lib.hid (HRA.out.below hb)
      have HRB14 := Lib.hid (HRB.out.below hb)
      clear hb
      go_wp2_with fail
      go_at_call 20
      refine (wrows_any a11 a13 _ _ c11 c13 _ _ w14 HRA14.out HRB14.out).mono ?_
      rintro e w15 ⟨rfl, i15, rfl⟩
      rw [show (g1.all == g1.all) = true from by simp]
      have HXY15 := Lib.hid (HXY14.out.new (dn_below _ i15))
      obtain ⟨W15, hW15⟩ : ∃ W, w14.drewN i15 = W := ⟨_, rfl⟩
      rw [hW15] at HXY15 ⊢
      clear hW15
      go_wp2_with fail
      go_at_call 21
      refine (files_any d Sd2 _ _ W15 HXY15.out.dk).mono ?_
      rintro e w16 ⟨v16, vs16, rfl, hown, hb⟩
      obtain ⟨a16, c16, rfl, hrf⟩ := hown.rd
      rw [HFT.out] at hrf ⊢
      have HXY16 := Lib.hid (HXY15.out.new hb)
      have HRF := Lib.hid hrf
      clear hown hrf hb
      go_wp2_with fail
      go_at_call 28
      refine (filesEq_any _ _ _ _ _ _ _ _ _ _ _ HRF.out HXY16.out.was).mono ?_
      rintro e w17 ⟨rfl, hb⟩
      rw [filesB_self]
      have HBC := Lib.hid (next_below HBB.out (next_below HXY16.out.bl hb))
      clear hb
      go_wp2_with fail
      go_ret
      exact TEnd.mk HBC.out
end Go.Proofs.Ytjjcilinghgphaa
