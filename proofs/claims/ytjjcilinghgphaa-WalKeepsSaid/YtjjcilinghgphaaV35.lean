/-
  The walk of WalKeeps. Written by a program (v35gen.py).
-/
import Derived.Test.YtjjcilinghgphaaVE
namespace Go.Proofs.Ytjjcilinghgphaa
open Go.RowKit Go.Maps Go.Sort
set_option maxRecDepth 100000
attribute [local go_sem] bs_size bs_toList

theorem dn_belowK (w : World) (n : Nat) : Below w.heap.size w (w.drewN n) := below_dn (Below.refl _ _) n
theorem Rd88.behind {w : World} {a : Option Addr} {n cap : Nat} {ls : List (List UInt8)} (h : Rd88 w a n cap ls) (l : Nat) (hl : l ≤ n) : ∃ ad' cap', (∀ w', (Instr.slice 31 (.slice a n cap) (some (.int .i64 l)) none none).run Try.prog w' = .ok (.slice ad' (n - l) cap') w') ∧ Rd88 w ad' (n - l) cap' (ls.drop l) := by
  obtain ⟨hn, vs, hr, hel⟩ := h
  obtain ⟨ad', cap', h1, h2⟩ := run_slice S88 hr (some (.int .i64 l)) none l n (.inr rfl) (.inl ⟨rfl, rfl⟩) hl (Nat.le_refl _)
  have hvl : vs.length = n := by have := hr.2.2.2.1; omega
  have e : (vs.drop (l * 1)).take ((n - l) * 1) = vs.drop l := by rw [Nat.mul_one, Nat.mul_one, List.take_of_length_le (by rw [List.length_drop]; omega)]
  rw [e] at h2
  refine ⟨ad', cap', h1, by rw [List.length_drop]; omega, _, h2, fun i x hx => ?_⟩
  rw [List.getElem?_drop] at hx
  obtain ⟨ai, ci, e1, e2⟩ := hel (l + i) x hx
  exact ⟨ai, ci, by rw [List.getElem?_drop]; exact e1, e2⟩
/-- A fall's block. -/
structure Px (w : World) (T : Nat → Prop) (v : Value) (p : Nat) (f : FaV) (z : FaS) : Prop where
  cel : FaAt w p f z
  lt : p < w.heap.size
  nt : ¬ T p
  nv : v.ownBlock ≠ some p
section
variable {w w' w2 : World} {T T1 : Nat → Prop} {v v' : Value} {p : Nat} {f : FaV} {z : FaS}
theorem Px.ext (h : Px w T v p f z) (he : Ext T w T1 w') : Px w' T1 v p f z :=
  ⟨h.cel.keep he.1 h.nt, Nat.lt_of_lt_of_le h.lt he.1.size, fun e => by
    rcases he.2 p e with e | e
    · exact h.nt e
    · have := h.lt; omega, h.nv⟩
theorem Px.grow (h : Px w T v p f z) (hf : Fr (fun k => v.ownBlock = some k) w w2) (hv : v'.ownBlock = v.ownBlock ∨ ∃ k, v'.ownBlock = some k ∧ w.heap.size ≤ k) : Px w2 T v' p f z :=
  ⟨h.cel.keep hf h.nv, Nat.lt_of_lt_of_le h.lt hf.size, h.nt, fun e => by
    rcases hv with hv | ⟨k, hk, hl⟩
    · rw [hv] at e; exact h.nv e
    · rw [hk] at e; cases e; have := h.lt; omega⟩
end
/-- The record whose Append fell, if the disk holds one. -/
def Tn (W0 : World) (t : Option (List UInt8)) (vt : Value) (fl : Bool) : Prop := ∀ p, t = some p → fl = true ∧ ∃ a c, vt = .slice a p.length c ∧ Rd8 W0 a p.length c p ∧ BlkIn a p.length fun b => b < W0.heap.size
structure KW (seg : Int) (W0 : World) (B : Int) (d l p : Nat) (f : FaV) (z : FaS) (T : Nat → Prop) (s : DS) (g : LG) (t : Option (List UInt8)) (all : List (List UInt8)) (v : Value) (vs : List Value) (vt : Value) (fl : Bool) (w : World) : Prop where
  ll : LL W0 B d l T s g w
  kp : Keep seg s g t all
  ka : KA W0 w T v vs all
  tn : Tn W0 t vt fl
  px : Px w T v p f z
section
variable {seg : Int} {W0 : World} {B B' : Int} {d l p : Nat} {f : FaV} {z : FaS} {T T' : Nat → Prop} {s s' : DS} {g g' : LG} {t t' : Option (List UInt8)} {all : List (List UInt8)} {v : Value} {vs : List Value} {vt vt' : Value} {fl fl' : Bool} {w w' : World}
theorem KW.new (h : KW seg W0 B d l p f z T s g t all v vs vt fl w) (hb : Below w.heap.size w w') : KW seg W0 B d l p f z T s g t all v vs vt fl w' :=
  ⟨h.ll.new hb, h.kp, h.ka.new hb, h.tn, h.px.ext (Ext.of_new hb)⟩
theorem KW.mono (h : KW seg W0 B d l p f z T s g t all v vs vt fl w) (hB : B ≤ B') : KW seg W0 B' d l p f z T s g t all v vs vt fl w := { h with ll := h.ll.mono hB }
theorem KW.op (h : KW seg W0 B d l p f z T s g t all v vs vt fl w) (hl : LL W0 B' d l T' s' g' w') (he : Ext T w T' w') (hk : Keep seg s' g' t' all) (ht : Tn W0 t' vt' fl') : KW seg W0 B' d l p f z T' s' g' t' all v vs vt' fl' w' :=
  ⟨hl, hk, h.ka.ext he, ht, h.px.ext he⟩
/-- What the law reads of it. -/
theorem KW.told (h : KW seg W0 B d l p f z T s g t all v vs vt fl w) : ((g.next : Nat) : Int) = (all.length : Int) + 1 ∧ (g.safe : Int) < (all.length : Int) + 1 ∧ all.length ≤ 100349524 := by
  have h1 := h.kp.ln
  have h2 := h.ll.ok.safe_lt
  have h3 := h.ll.ok.next_le
  omega
def ArmPost (W0 : World) (B : Int) (d l : Nat) (T : Nat → Prop) (W : World) (s : DS) (g : LG) (n : Int) (e : Ending) (W' : World) : Prop := ∃ T', e = .returned (.tuple #[]) ∧ LL W0 B d l T' (armS s n) g W' ∧ Ext T W T' W'
theorem LL.arm (h : LL W0 B d l T s g w) (n : Int) (hn : n ≤ 9223372036854775807) : Calls Try.prog 29 #[.pointer (some ⟨d, 0, none⟩), .int .i64 n] w (ArmPost W0 B d l T w s g n) := by
  obtain ⟨Sd, Sl, q1, q2, q3, q4, q5, q6⟩ := h.lw
  refine (arm_any d Sd _ s n hn w q1).mono fun e w' ⟨h1, h2⟩ => ?_
  have hf : Fr T w w' := h2.2.mono fun k _ hk => q4 k hk
  have hfs : (armS s n).fs = s.fs ∧ (armS s n).dn = s.dn := by unfold armS; split <;> exact ⟨rfl, rfl⟩
  have hk : LOk (armS s n) g := ⟨h.ok.d1, h.ok.d2, h.ok.r1, h.ok.r2, h.ok.num, h.ok.chain, h.ok.rise, fun e => by rw [hfs.1]; exact h.ok.dat (by rw [← hfs.2]; exact e), h.ok.sfl⟩
  refine ⟨_, h1, h.next ⟨_, Sl, h2.1, LgG.keep q2 h2.2 (fun k hk e => q3 k e hk), fun k hk e => ?_, fun k hk => hk.imp (q4 k) id, fun k hk => .inl (q5 k hk), fun k hk => hk.elim (fun e => Nat.lt_of_lt_of_le (q6 k e) hf.size) (fun e => e.2)⟩ hf hk, hf, fun _ hk => hk⟩
  rcases hk with hk | hk
  · exact q3 k hk e
  · have := q6 k (q5 k e); omega
/-- A record that was appended, copied into the list. -/
theorem KW.snoc {w1 wx w2 : World} {v2 : Value} {ai : Option Addr} {ci : Nat} {r : List UInt8} {gl : Nat} (ka : KA W0 w T v vs all) (px : Px w T v p f z) (hk : Keep seg s g t (all ++ [r])) (hl : LL W0 B d l T s g w) (ht : Tn W0 t vt fl) (hb1 : Below w.heap.size w w1) (h8 : Own8 w1 w.heap.size 5 (.slice ai r.length ci) r)
    (hY : Below w1.heap.size w1 wx) (hgl : all.length = gl) (hown : w2.ownsRow W0.heap.size 35 1 v2 (gl + 1) (vs ++ [.slice ai r.length ci])) (hg : wx.grownBy w2 v.ownBlock) (hbk : v2.ownBlock = v.ownBlock ∨ v2.ownBlock = some wx.heap.size) : KW seg W0 B d l p f z T s g t (all ++ [r]) v2 (vs ++ [.slice ai r.length ci]) vt fl w2 := by
  subst hgl
  have hfr1 : Fr (fun k => v.ownBlock = some k) w1 w2 := (Fr.of_new hY).grown hg (fun k _ e => e)
  have hfr : Fr (fun k => v.ownBlock = some k) w w2 := (Fr.of_new hb1).trans hfr1
  have hs : w.heap.size ≤ wx.heap.size := Nat.le_trans hb1.size hY.size
  exact ⟨hl.beside hfr (fun k hk e => ka.nt k e hk) (fun k e => (World.ownsRow.lt ka.own k e).1), hk, ka.snoc hl.lt hb1 h8 hY rfl hown hg hbk, ht, px.grow hfr (hbk.imp id fun e => ⟨_, e, hs⟩)⟩
end
set_option maxHeartbeats 16000000 in
theorem keeps_walk (seg : Int) (a : Option Addr) (n cap : Nat) (fs : List FaV) (w : World) (h : RdFa w (fun b => b < w.heap.size) a n cap fs) :
    Calls Try.prog 8 #[.int .i64 seg, .slice a n cap] w (TEnd w) := by
  have H0 := Lib.hid h
  have HN := Lib.hid h.1
  have hn9 : n ≤ 9223372036854775807 := by obtain ⟨_, xs, hr, _⟩ := h; exact Nat.le_trans hr.1 hr.2.1
  clear h
  go_enter Try.func8, Try.ntmps8
  go_wp2_with fail
  go_at_call 9
  refine (wfirst_any w).mono ?_
  rintro e wa ⟨rfl, hb⟩
  have HBA := Lib.hid hb
  have HRD : Hid (RdFa wa (fun b => b < wa.heap.size) a n cap fs) := (H0.out.below hb).mono fun b hb' => Nat.lt_of_lt_of_le hb' hb.size
  clear hb H0
  by_cases hbad : seg < 64 ∨ 262144 < seg
  · have hcs : seg < 64 ∨ (¬ seg < 64 ∧ 262144 < seg) := by omega
    clear hbad
    rcases hcs with h1 | ⟨h1, h2⟩
    all_goals
      go_wp2_with fail
      go_at_call 9
      refine (wfirst_any wa).mono ?_
      rintro e wc ⟨rfl, hb⟩
      have HBC := Lib.hid (next_below HBA.out hb)
      clear hb
      go_wp2_with fail
      go_ret
      exact TEnd.mk HBC.out
  obtain ⟨hs1, hs2⟩ : ¬ seg < 64 ∧ ¬ 262144 < seg := by omega
  have e1 : decide (seg < 64) = false := by simpa using hs1
  have e2 : decide (262144 < seg) = false := by simpa using hs2
  clear hbad
  go_wp2_with fail
  go_at_call 22
  refine (new_any 0 (Int.le_refl _) wa).mono ?_
  rintro e w1 ⟨d, rfl, hb1, hd1⟩
  have HD1 := Lib.hid (DL.start hb1 hd1)
  clear hb1 hd1 e1 e2
  go_wp2_with fail
  go_at_call 23
  refine (HD1.out.open (by omega) dL (by decide) seg).mono ?_
  rintro e w2 ho
  rw [open_new (by omega) (by omega)] at ho
  obtain ⟨l0, T2, rfl, hl2, _⟩ := ho
  have HL2 := Lib.hid hl2
  clear hl2 hs1 hs2
  go_wp2_with fail
  go_loopw [6, 8, 9, 10, 11, 12, 13, 14, 15, 16, 17, 18, 19, 20, 21, 86, 109, 113] (fun vl va i _ _ _ _ _ _ _ _ _ _ _ _ _ _ _ wr => ∃ (k l : Nat) (T : Nat → Prop) (s : DS) (g : LG) (all : List (List UInt8)) (vs : List Value), k ≤ n ∧ k ≤ 6 ∧ vl = .pointer (some ⟨l, 0, none⟩) ∧ i = .int .i64 (k : Nat) ∧ Hid (LL wa (3 + 5000000000 * (k : Nat)) d l T s g wr) ∧ Hid (Keep seg s g none all) ∧ Hid (KA wa wr T va vs all)) (fun _ _ i _ _ _ _ _ _ _ _ _ _ _ _ _ _ _ _ => 6 - (intOf i).toNat)
  case atStart => exact ⟨0, l0, T2, sN, _, [], [], Nat.zero_le _, Nat.zero_le _, rfl, rfl, HL2.out.mono (by omega), Keep.start, KA.nil⟩
  case round =>
    clear HL2 HD1
    obtain ⟨k, l, T, s, g, all, vs, hk, hk6, rfl, rfl, HL, HK, HA⟩ := hrel
    obtain ⟨av0, cv0, hva, _⟩ := HA.out.rd
    subst hva
    by_cases hgo : k < n ∧ k < 6
    · obtain ⟨hlt, h6⟩ := hgo
      obtain ⟨f, hf⟩ : ∃ f, fs[k]? = some f := ⟨_, List.getElem?_eq_getElem (by have := HN.out; omega)⟩
      obtain ⟨b, off, z, rfl, hrd, c0, c1, c2, c3⟩ := HRD.out.at hf
      obtain ⟨st, os, pk, ag⟩ := f
      obtain ⟨al, cl, ap, cp, aa, ca⟩ := z
      have HF := Lib.hid hrd
      have hst : st ≤ 9223372036854775807 := hrd.st.2
      have hosm : os.length ≤ 9223372036854775807 := by obtain ⟨_, _, xs, hr, _⟩ := hrd.l; exact Nat.le_trans hr.1 hr.2.1
      dsimp only at c0 c1 c2 c3
      have q0 := cell_below c0 HL.out.bl
      have q1 := cell_below c1 HL.out.bl
      have q2 := cell_below c2 HL.out.bl
      have q3 := cell_below c3 HL.out.bl
      obtain ⟨w0, hw0⟩ : ∃ w0, wr.alloc (.cells #[.int .i64 st, .slice al os.length cl, .slice ap pk.length cp, .slice aa ag.length ca] 64) = w0 := ⟨_, rfl⟩
      have hb0 : Below wr.heap.size wr w0 := by rw [← hw0]; exact (Below.refl _ _).alloc (Nat.le_refl _) _
      have hg0 := heap_alloc_new wr (.cells #[.int .i64 st, .slice al os.length cl, .slice ap pk.length cp, .slice aa ag.length ca] 64)
      have hA0 : FaAt w0 wr.heap.size ⟨st, os, pk, ag⟩ ⟨al, cl, ap, cp, aa, ca⟩ := fun j u hu => by
        rw [← hw0, cell_of_row _ wr.heap.size j _ _ (0, 0) hg0]
        simpa [faCells] using hu
      have x0 : (wr.alloc (.cells #[.int .i64 st, .slice al os.length cl, .slice ap pk.length cp, .slice aa ag.length ca] 64)).cell? ⟨wr.heap.size, 0, none⟩ = some (.int .i64 st) := cell_of_row _ _ 0 _ _ _ hg0
      obtain ⟨p, hp⟩ : ∃ p, wr.heap.size = p := ⟨_, rfl⟩
      have HKW0 : Hid (KW seg wa (3 + 5000000000 * (k : Nat)) d l p ⟨st, os, pk, ag⟩ ⟨al, cl, ap, cp, aa, ca⟩ T s g none all (.slice av0 all.length cv0) vs (.slice none 0 0) false w0) :=
        ⟨HL.out.new hb0, HK.out, HA.out.new hb0, fun p h => (by cases h), hp ▸ hA0, by have := World.block_lt_of_cell? _ ⟨wr.heap.size, 0, none⟩ (hA0 0 _ rfl); rw [← hp]; exact this, fun e => by have := HL.out.lt p e; omega, fun e => by have := (World.ownsRow.lt HA.out.own p e).2; omega⟩
      have HW0 := Lib.hid hw0
      have HP := Lib.hid hp
      clear hf hrd c0 c1 c2 c3 hw0 hb0 hg0 hA0 hp HL HK HA
      go_wp2_with fail
      rw [HW0.out, HP.out]
      clear q0 q1 q2 q3 x0 HW0 HP
      go_at_call 29
      refine (HKW0.out.ll.arm st hst).mono ?_
      rintro e w1' ⟨T1, rfl, hl1, he1⟩
      have HKW1 := Lib.hid (HKW0.out.op hl1 he1 (HKW0.out.kp.arm st) HKW0.out.tn)
      clear hl1 he1 HKW0
      obtain ⟨s1, hs1⟩ : ∃ x, armS s st = x := ⟨_, rfl⟩
      rw [hs1] at HKW1
      clear hs1
      go_wp2_with fail
      go_loopw [8, 11, 12, 13, 14, 15, 16, 17, 86, 109, 113] (fun va vt fe qv _ _ _ _ _ _ _ wr => ∃ (q : Nat) (T : Nat → Prop) (s : DS) (g : LG) (t : Option (List UInt8)) (all : List (List UInt8)) (vs : List Value) (fl : Bool), q ≤ os.length ∧ q ≤ 40 ∧ qv = .int .i64 (q : Nat) ∧ fe = .bool fl ∧ (∃ ta tn tc, vt = .slice ta tn tc) ∧ Hid (KW seg wa (3 + 5000000000 * (k : Nat) + 100000000 * (q : Nat)) d l p ⟨st, os, pk, ag⟩ ⟨al, cl, ap, cp, aa, ca⟩ T s g t all va vs vt fl wr)) (fun _ _ _ qv _ _ _ _ _ _ _ _ => 40 - (intOf qv).toNat)
      case atStart => exact ⟨0, T1, s1, g, none, all, vs, false, Nat.zero_le _, Nat.zero_le _, rfl, rfl, ⟨_, _, _, rfl⟩, HKW1.out.mono (by omega)⟩
      case round =>
        clear HKW1
        obtain ⟨q, T, s, g, t, all, vs, fl, hq, hq40, rfl, rfl, ⟨ta, tn, tc, rfl⟩, HX⟩ := hrel
        obtain ⟨av, cv, hva, _⟩ := HX.out.ka.rd
        subst hva
        obtain ⟨gl, hgl⟩ : ∃ x, all.length = x := ⟨_, rfl⟩
        obtain ⟨t1, t2, t3⟩ := HX.out.told
        rw [hgl] at t1 t2 t3 HX ⊢
        have HGL := Lib.hid hgl
        have HT1 := Lib.hid t1
        have HT2 := Lib.hid t2
        have z1 := HX.out.px.cel 1 _ rfl
        clear hgl t1 t2
        by_cases hgo2 : q < os.length ∧ q < 40
        · obtain ⟨hql, hq4⟩ := hgo2
          obtain ⟨o, ho⟩ : ∃ o, os[q]? = some o := ⟨_, List.getElem?_eq_getElem hql⟩
          obtain ⟨b2, off2, ab, cb, ap2, cp2, hal, hro, c0, c1, c2, c3, c4, c5⟩ := HF.out.l.at ho
          dsimp only at hal
          subst hal
          obtain ⟨ok, on, om, ob, onm, op⟩ := o
          dsimp only at c0 c1 c2 c3 c4 c5
          have HR8 := Lib.hid hro.2.1
          have HBI := Lib.hid hro.2.2.2.1
          have hobm : ob.length ≤ 9223372036854775807 := Nat.le_trans hro.2.1.2.1 hro.2.1.2.2.1
          have q0 := cell_below c0 HX.out.ll.bl
          have q1 := cell_below c1 HX.out.ll.bl
          have q2 := cell_below c2 HX.out.ll.bl
          have q3 := cell_below c3 HX.out.ll.bl
          have q4 := cell_below c4 HX.out.ll.bl
          have q5 := cell_below c5 HX.out.ll.bl
          obtain ⟨w0, hw0⟩ : ∃ w0, wr.alloc (.cells #[.int .i64 ok, .int .i64 on, .int .i64 om, .slice ab ob.length cb, .string (bs onm), .slice ap2 op.length cp2] 60) = w0 := ⟨_, rfl⟩
          have hb0 : Below wr.heap.size wr w0 := by rw [← hw0]; exact (Below.refl _ _).alloc (Nat.le_refl _) _
          have hg0 := heap_alloc_new wr (.cells #[.int .i64 ok, .int .i64 on, .int .i64 om, .slice ab ob.length cb, .string (bs onm), .slice ap2 op.length cp2] 60)
          have y0 : (wr.alloc (.cells #[.int .i64 ok, .int .i64 on, .int .i64 om, .slice ab ob.length cb, .string (bs onm), .slice ap2 op.length cp2] 60)).cell? ⟨wr.heap.size, 0, none⟩ = some (.int .i64 ok) := cell_of_row _ _ 0 _ _ _ hg0
          have y1 : (wr.alloc (.cells #[.int .i64 ok, .int .i64 on, .int .i64 om, .slice ab ob.length cb, .string (bs onm), .slice ap2 op.length cp2] 60)).cell? ⟨wr.heap.size, 1, none⟩ = some (.int .i64 on) := cell_of_row _ _ 1 _ _ _ hg0
          have y3 : (wr.alloc (.cells #[.int .i64 ok, .int .i64 on, .int .i64 om, .slice ab ob.length cb, .string (bs onm), .slice ap2 op.length cp2] 60)).cell? ⟨wr.heap.size, 3, none⟩ = some (.slice ab ob.length cb) := cell_of_row _ _ 3 _ _ _ hg0
          have HX0 := Lib.hid (HX.out.new hb0)
          have HW0 := Lib.hid hw0
          have HO3 : Hid (w0.cell? ⟨wr.heap.size, 3, none⟩ = some (.slice ab ob.length cb)) := by rw [← hw0]; exact y3
          have HOT : Hid (¬ T wr.heap.size ∧ wr.heap.size < w0.heap.size) := ⟨fun e => by have := HX.out.ll.lt _ e; omega, World.block_lt_of_cell? _ _ HO3.out⟩
          clear ho hro c0 c1 c2 c3 c4 c5 hw0 hb0 hg0 HX
          by_cases hlong : 1000 < ob.length
          · have hli : (1000 : Int) < (ob.length : Int) := by omega
            go_wp2_with fail
            rw [HW0.out]
            go_roundw
            case rel => exact ⟨q + 1, T, s, g, t, all, vs, fl, by omega, by omega, by go_num, rfl, ⟨_, _, _, rfl⟩, HX0.out.mono (by omega)⟩
            case measure => simp [intOf]; omega
          · have hli : decide ((1000 : Int) < (ob.length : Int)) = false := by simp; omega
            have hob : ob.length ≤ 1000 := by omega
            by_cases h1 : ok = 1
            · subst h1
              go_wp2_with fail
              rw [HW0.out]
              obtain ⟨o', ho'⟩ : ∃ x, wr.heap.size = x := ⟨_, rfl⟩
              rw [ho'] at HO3 HOT ⊢
              clear q0 q1 q2 q3 q4 q5 y0 y1 y3 z1 HW0 ho'
              go_at_call 30
              obtain ⟨Sd, hdk⟩ := HX0.out.ll.dk
              refine (down_any d Sd _ s w0 hdk).mono ?_
              rintro e w1' ⟨rfl, rfl⟩
              obtain ⟨dn, hdn⟩ : ∃ x, s.dn = x := ⟨_, rfl⟩
              rw [hdn]
              have HDN := Lib.hid hdn
              clear hdk hdn
              have y3 := HO3.out
              go_wp2_with fail
              go_at_call 24
              refine (HX0.out.ll.append (by omega) (HR8.out.below HX0.out.ll.bl) (HX0.out.ll.old HBI.out)).mono ?_
              rintro e w3 ⟨T3, rfl, hl3, hx3⟩
              obtain ⟨t', hkp, htt⟩ := HX0.out.kp.app HX0.out.ll.lw.ok HX0.out.ll.ok hl3.ok hob
              have HO4 : Hid (w3.cell? ⟨o', 3, none⟩ = some (.slice ab ob.length cb)) := (hx3.1.cell (p := ⟨o', 3, none⟩) HOT.out.2 HOT.out.1).trans HO3.out
              clear y3
              have y3 := HO4.out
              by_cases h0 : (appL s g ob).e = 0
              · have ht' : t' = t := by
                  rcases htt with h | ⟨_, h, _⟩
                  · exact h
                  · exact absurd h0 h
                subst ht'
                rw [if_pos h0] at hkp
                have HKP := Lib.hid hkp
                have HL3 := Lib.hid hl3
                have HKA := Lib.hid (HX0.out.ka.ext hx3)
                have HPX := Lib.hid (HX0.out.px.ext hx3)
                have HTN := Lib.hid HX0.out.tn
                rw [h0]
                clear hkp htt hl3 hx3 h0 HX0 HO3 HOT
                obtain ⟨s3, hs3⟩ : ∃ x, (appL s g ob).s = x := ⟨_, rfl⟩
                obtain ⟨g3, hg3⟩ : ∃ x, (appL s g ob).g = x := ⟨_, rfl⟩
                obtain ⟨n3, hn3⟩ : ∃ x, appN s g ob = x := ⟨_, rfl⟩
                rw [hs3, hg3] at HKP HL3
                rw [hn3]
                clear hs3 hg3 hn3
                go_wp2_with fail
                go_at_call 31
                refine (copyBytes_any ab ob.length cb ob w3 (HR8.out.below HL3.out.bl) (by omega)).mono ?_
                rintro e w4 ⟨v4, rfl, hown4, hb4⟩
                obtain ⟨a4, c4, rfl, _⟩ := Own8.rd hown4
                have hva := (HKA.out.new hb4).own
                rw [HGL.out] at hva
                have HVA := Lib.hid hva
                have HO8 := Lib.hid hown4
                have HB4 := Lib.hid hb4
                clear y3 hva hown4 hb4
                go_wp2_with (at_builtin; refine wpList_app2 S88 rfl (.tmp 99) (.tmp 103) rfl wa.heap.size rfl (HVA.out.alloc _) rfl (Rd.one _ _ _) ?c1 ?c2 ?c3 ?c4 ?_)
                case c1 => simp [Value.oneCell']
                case c2 => omega
                case c3 => unfold maxLen; omega
                case c4 => have h1 := HL3.out.bl.size; have h2 := HB4.out.size; simp; omega
                intro v5 w5 hown hgr hbk
                have hYb : Below w4.heap.size w4 (w4.alloc (.cells #[.slice a4 ob.length c4] 35)) := (Below.refl _ _).alloc (Nat.le_refl _) _
                have hkw := KW.snoc HKA.out HPX.out HKP.out HL3.out HTN.out HB4.out HO8.out hYb HGL.out hown hgr (hbk.imp id fun e => e.trans (by simp))
                obtain ⟨a5, c5, hv5, _⟩ := hkw.ka.rd
                subst hv5
                obtain ⟨gn, hgn⟩ : ∃ x, (all ++ [ob]).length = x := ⟨_, rfl⟩
                have hgnb : gn ≤ 100349525 := by rw [← hgn, List.length_append, HGL.out, List.length_singleton]; omega
                obtain ⟨r1, r2, _⟩ := hkw.told
                rw [hgn] at r1 r2 hkw ⊢
                have HK5 := Lib.hid hkw
                have HN5 := Lib.hid r1
                have HS5 := Lib.hid r2
                clear hown hgr hbk hYb hkw hgn r1 r2 HVA HO8 HB4 HKA HPX HKP HL3 HTN
                go_wp2_with fail
                go_at_call 15
                refine (HK5.out.ll.next').mono ?_
                rintro e wn1 ⟨rfl, i1, rfl⟩
                rw [HN5.out]
                have HC1 := Lib.hid (HK5.out.new (dn_belowK _ i1))
                obtain ⟨Wn1, hWn1⟩ : ∃ W, World.drewN w5 i1 = W := ⟨_, rfl⟩
                rw [hWn1] at HC1 ⊢
                clear hWn1
                have hcn : ((((gn : Nat) : Int) + 1) == (((gn : Nat) : Int) + 1)) = true := by simp
                go_wp2_with fail
                go_at_call 16
                refine (HC1.out.ll.safe).mono ?_
                rintro e wn2 ⟨rfl, i2, rfl⟩
                obtain ⟨sf, hsf⟩ : ∃ x, LG.safe g3 = x := ⟨_, rfl⟩
                have hsl := HS5.out
                rw [hsf] at hsl ⊢
                have hsd : decide (((gn : Nat) : Int) + 1 ≤ (sf : Int)) = false := by simp; omega
                have HC2 := Lib.hid (HC1.out.new (dn_belowK _ i2))
                obtain ⟨Wn2, hWn2⟩ : ∃ W, World.drewN Wn1 i2 = W := ⟨_, rfl⟩
                rw [hWn2] at HC2 ⊢
                clear hWn2 hsf
                go_wp2_with fail
                go_at_call 15
                refine (HC2.out.ll.next').mono ?_
                rintro e wn3 ⟨rfl, i3, rfl⟩
                rw [HN5.out]
                have HC3 := Lib.hid (HC2.out.new (dn_belowK _ i3))
                obtain ⟨Wn3, hWn3⟩ : ∃ W, World.drewN Wn2 i3 = W := ⟨_, rfl⟩
                rw [hWn3] at HC3 ⊢
                clear hWn3
                go_wp2_with fail
                go_roundw
                case rel => exact ⟨q + 1, T3, s3, g3, _, _, _, fl, by omega, by omega, by go_num, rfl, ⟨_, _, _, rfl⟩, HC3.out.mono (by omega)⟩
                case measure => simp [intOf]; omega

              · have hbE : ((appL s g ob).e == 0) = false := by simpa using h0
                rw [if_neg h0] at hkp
                cases dn with
                | true =>
                  have ht' : t' = t := by
                    rcases htt with h | ⟨_, _, h⟩
                    · exact h
                    · rw [HDN.out] at h; cases h
                  subst ht'
                  have HK3 := Lib.hid (HX0.out.op hl3 hx3 hkp HX0.out.tn)
                  have HN3 : Hid ((((appL s g ob).g.next : Nat) : Int) = (gl : Int) + 1) := by have := HK3.out.told.1; rw [HGL.out] at this; exact this
                  have HS3 : Hid ((((appL s g ob).g.safe : Nat) : Int) < (gl : Int) + 1) := by have := HK3.out.told.2.1; rw [HGL.out] at this; exact this
                  clear hkp htt hl3 hx3 h0 HX0 HO3 HOT y3
                  obtain ⟨e3, he3⟩ : ∃ x, (appL s g ob).e = x := ⟨_, rfl⟩
                  rw [he3] at hbE ⊢
                  clear he3
                  go_wp2_with fail
                  go_at_call 15
                  refine (HK3.out.ll.next').mono ?_
                  rintro e wn1 ⟨rfl, i1, rfl⟩
                  rw [HN3.out]
                  have HC1 := Lib.hid (HK3.out.new (dn_belowK _ i1))
                  obtain ⟨Wn1, hWn1⟩ : ∃ W, World.drewN w3 i1 = W := ⟨_, rfl⟩
                  rw [hWn1] at HC1 ⊢
                  clear hWn1
                  have hcn : ((((gl : Nat) : Int) + 1) == (((gl : Nat) : Int) + 1)) = true := by simp
                  go_wp2_with fail
                  go_at_call 16
                  refine (HC1.out.ll.safe).mono ?_
                  rintro e wn2 ⟨rfl, i2, rfl⟩
                  obtain ⟨sf, hsf⟩ : ∃ x, LG.safe (appL s g ob).g = x := ⟨_, rfl⟩
                  have hsl := HS3.out
                  rw [hsf] at hsl ⊢
                  have hsd : decide (((gl : Nat) : Int) + 1 ≤ (sf : Int)) = false := by simp; omega
                  have HC2 := Lib.hid (HC1.out.new (dn_belowK _ i2))
                  obtain ⟨Wn2, hWn2⟩ : ∃ W, World.drewN Wn1 i2 = W := ⟨_, rfl⟩
                  rw [hWn2] at HC2 ⊢
                  clear hWn2 hsf
                  go_wp2_with fail
                  go_at_call 15
                  refine (HC2.out.ll.next').mono ?_
                  rintro e wn3 ⟨rfl, i3, rfl⟩
                  rw [HN3.out]
                  have HC3 := Lib.hid (HC2.out.new (dn_belowK _ i3))
                  obtain ⟨Wn3, hWn3⟩ : ∃ W, World.drewN Wn2 i3 = W := ⟨_, rfl⟩
                  rw [hWn3] at HC3 ⊢
                  clear hWn3
                  go_wp2_with fail
                  go_roundw
                  case rel => exact ⟨q + 1, T3, _, _, _, all, vs, fl, by omega, by omega, by go_num, rfl, ⟨_, _, _, rfl⟩, HC3.out.mono (by omega)⟩
                  case measure => simp [intOf]; omega

                | false =>
                  have htn : Tn wa t' (.slice ab ob.length cb) true := fun p hp => by
                    have h1 := HX0.out.kp.du.up HDN.out
                    rcases htt with h | ⟨h, _⟩
                    · rw [h, h1] at hp; cases hp
                    · rw [h] at hp; cases hp; exact ⟨rfl, ab, cb, rfl, HR8.out, HBI.out⟩
                  have HK3 := Lib.hid (HX0.out.op hl3 hx3 hkp htn)
                  have HN3 : Hid ((((appL s g ob).g.next : Nat) : Int) = (gl : Int) + 1) := by have := HK3.out.told.1; rw [HGL.out] at this; exact this
                  have HS3 : Hid ((((appL s g ob).g.safe : Nat) : Int) < (gl : Int) + 1) := by have := HK3.out.told.2.1; rw [HGL.out] at this; exact this
                  clear hkp htt hl3 hx3 h0 HX0 HO3 HOT htn
                  obtain ⟨e3, he3⟩ : ∃ x, (appL s g ob).e = x := ⟨_, rfl⟩
                  rw [he3] at hbE ⊢
                  clear he3
                  go_wp2_with fail
                  go_at_call 15
                  refine (HK3.out.ll.next').mono ?_
                  rintro e wn1 ⟨rfl, i1, rfl⟩
                  rw [HN3.out]
                  have HC1 := Lib.hid (HK3.out.new (dn_belowK _ i1))
                  obtain ⟨Wn1, hWn1⟩ : ∃ W, World.drewN w3 i1 = W := ⟨_, rfl⟩
                  rw [hWn1] at HC1 ⊢
                  clear hWn1
                  have hcn : ((((gl : Nat) : Int) + 1) == (((gl : Nat) : Int) + 1)) = true := by simp
                  go_wp2_with fail
                  go_at_call 16
                  refine (HC1.out.ll.safe).mono ?_
                  rintro e wn2 ⟨rfl, i2, rfl⟩
                  obtain ⟨sf, hsf⟩ : ∃ x, LG.safe (appL s g ob).g = x := ⟨_, rfl⟩
                  have hsl := HS3.out
                  rw [hsf] at hsl ⊢
                  have hsd : decide (((gl : Nat) : Int) + 1 ≤ (sf : Int)) = false := by simp; omega
                  have HC2 := Lib.hid (HC1.out.new (dn_belowK _ i2))
                  obtain ⟨Wn2, hWn2⟩ : ∃ W, World.drewN Wn1 i2 = W := ⟨_, rfl⟩
                  rw [hWn2] at HC2 ⊢
                  clear hWn2 hsf
                  go_wp2_with fail
                  go_at_call 15
                  refine (HC2.out.ll.next').mono ?_
                  rintro e wn3 ⟨rfl, i3, rfl⟩
                  rw [HN3.out]
                  have HC3 := Lib.hid (HC2.out.new (dn_belowK _ i3))
                  obtain ⟨Wn3, hWn3⟩ : ∃ W, World.drewN Wn2 i3 = W := ⟨_, rfl⟩
                  rw [hWn3] at HC3 ⊢
                  clear hWn3
                  go_wp2_with fail
                  go_roundw
                  case rel => exact ⟨q + 1, T3, _, _, t', all, vs, true, by omega, by omega, by go_num, rfl, ⟨_, _, _, rfl⟩, HC3.out.mono (by omega)⟩
                  case measure => simp [intOf]; omega

            · have b1 : (ok == 1) = false := by simpa using h1
              by_cases h2 : ok = 2
              · subst h2
                go_wp2_with fail
                rw [HW0.out]
                go_at_call 26
                refine (HX0.out.ll.sync (by omega)).mono ?_
                rintro e w3 ⟨T3, rfl, hl3, hx3⟩
                have HK3 := Lib.hid (HX0.out.op hl3 hx3 (HX0.out.kp.sync HX0.out.ll.lw.ok.srt) HX0.out.tn)
                have HN3 : Hid ((((syncL s g).g.next : Nat) : Int) = (gl : Int) + 1) := by have := HK3.out.told.1; rw [HGL.out] at this; exact this
                have HS3 : Hid ((((syncL s g).g.safe : Nat) : Int) < (gl : Int) + 1) := by have := HK3.out.told.2.1; rw [HGL.out] at this; exact this
                clear hl3 hx3 q0 q1 q2 q3 q4 q5 y0 y1 y3 z1 h1 b1 HW0 HX0
                go_wp2_with fail
                go_at_call 15
                refine (HK3.out.ll.next').mono ?_
                rintro e wn1 ⟨rfl, i1, rfl⟩
                rw [HN3.out]
                have HC1 := Lib.hid (HK3.out.new (dn_belowK _ i1))
                obtain ⟨Wn1, hWn1⟩ : ∃ W, World.drewN w3 i1 = W := ⟨_, rfl⟩
                rw [hWn1] at HC1 ⊢
                clear hWn1
                have hcn : ((((gl : Nat) : Int) + 1) == (((gl : Nat) : Int) + 1)) = true := by simp
                go_wp2_with fail
                go_at_call 16
                refine (HC1.out.ll.safe).mono ?_
                rintro e wn2 ⟨rfl, i2, rfl⟩
                obtain ⟨sf, hsf⟩ : ∃ x, LG.safe (syncL s g).g = x := ⟨_, rfl⟩
                have hsl := HS3.out
                rw [hsf] at hsl ⊢
                have hsd : decide (((gl : Nat) : Int) + 1 ≤ (sf : Int)) = false := by simp; omega
                have HC2 := Lib.hid (HC1.out.new (dn_belowK _ i2))
                obtain ⟨Wn2, hWn2⟩ : ∃ W, World.drewN Wn1 i2 = W := ⟨_, rfl⟩
                rw [hWn2] at HC2 ⊢
                clear hWn2 hsf
                go_wp2_with fail
                go_at_call 15
                refine (HC2.out.ll.next').mono ?_
                rintro e wn3 ⟨rfl, i3, rfl⟩
                rw [HN3.out]
                have HC3 := Lib.hid (HC2.out.new (dn_belowK _ i3))
                obtain ⟨Wn3, hWn3⟩ : ∃ W, World.drewN Wn2 i3 = W := ⟨_, rfl⟩
                rw [hWn3] at HC3 ⊢
                clear hWn3
                go_wp2_with fail
                go_roundw
                case rel => exact ⟨q + 1, T3, _, _, t, all, vs, fl, by omega, by omega, by go_num, rfl, ⟨_, _, _, rfl⟩, HC3.out.mono (by omega)⟩
                case measure => simp [intOf]; omega

              · have b2 : (ok == 2) = false := by simpa using h2
                by_cases h3 : ok = 3
                · subst h3
                  go_wp2_with fail
                  rw [HW0.out]
                  go_at_call 27
                  refine (HX0.out.ll.trim (by omega) on).mono ?_
                  rintro e w3 ⟨T3, rfl, hl3, hx3⟩
                  have HK3 := Lib.hid (HX0.out.op hl3 hx3 (HX0.out.kp.trim HX0.out.ll.lw.ok.srt HX0.out.ll.ok on) HX0.out.tn)
                  have HN3 : Hid ((((trimL s g on).g.next : Nat) : Int) = (gl : Int) + 1) := by have := HK3.out.told.1; rw [HGL.out] at this; exact this
                  have HS3 : Hid ((((trimL s g on).g.safe : Nat) : Int) < (gl : Int) + 1) := by have := HK3.out.told.2.1; rw [HGL.out] at this; exact this
                  clear hl3 hx3 q0 q1 q2 q3 q4 q5 y0 y1 y3 z1 h1 b1 h2 b2 HW0 HX0
                  go_wp2_with fail
                  go_at_call 15
                  refine (HK3.out.ll.next').mono ?_
                  rintro e wn1 ⟨rfl, i1, rfl⟩
                  rw [HN3.out]
                  have HC1 := Lib.hid (HK3.out.new (dn_belowK _ i1))
                  obtain ⟨Wn1, hWn1⟩ : ∃ W, World.drewN w3 i1 = W := ⟨_, rfl⟩
                  rw [hWn1] at HC1 ⊢
                  clear hWn1
                  have hcn : ((((gl : Nat) : Int) + 1) == (((gl : Nat) : Int) + 1)) = true := by simp
                  go_wp2_with fail
                  go_at_call 16
                  refine (HC1.out.ll.safe).mono ?_
                  rintro e wn2 ⟨rfl, i2, rfl⟩
                  obtain ⟨sf, hsf⟩ : ∃ x, LG.safe (trimL s g on).g = x := ⟨_, rfl⟩
                  have hsl := HS3.out
                  rw [hsf] at hsl ⊢
                  have hsd : decide (((gl : Nat) : Int) + 1 ≤ (sf : Int)) = false := by simp; omega
                  have HC2 := Lib.hid (HC1.out.new (dn_belowK _ i2))
                  obtain ⟨Wn2, hWn2⟩ : ∃ W, World.drewN Wn1 i2 = W := ⟨_, rfl⟩
                  rw [hWn2] at HC2 ⊢
                  clear hWn2 hsf
                  go_wp2_with fail
                  go_at_call 15
                  refine (HC2.out.ll.next').mono ?_
                  rintro e wn3 ⟨rfl, i3, rfl⟩
                  rw [HN3.out]
                  have HC3 := Lib.hid (HC2.out.new (dn_belowK _ i3))
                  obtain ⟨Wn3, hWn3⟩ : ∃ W, World.drewN Wn2 i3 = W := ⟨_, rfl⟩
                  rw [hWn3] at HC3 ⊢
                  clear hWn3
                  go_wp2_with fail
                  go_roundw
                  case rel => exact ⟨q + 1, T3, _, _, t, all, vs, fl, by omega, by omega, by go_num, rfl, ⟨_, _, _, rfl⟩, HC3.out.mono (by omega)⟩
                  case measure => simp [intOf]; omega

                · have b3 : (ok == 3) = false := by simpa using h3
                  clear h1 h2 h3
                  go_wp2_with fail
                  rw [HW0.out]
                  clear q0 q1 q2 q3 q4 q5 y0 y1 y3 z1 HW0
                  go_wp2_with fail
                  go_at_call 15
                  refine (HX0.out.ll.next').mono ?_
                  rintro e wn1 ⟨rfl, i1, rfl⟩
                  rw [HT1.out]
                  have HC1 := Lib.hid (HX0.out.new (dn_belowK _ i1))
                  obtain ⟨Wn1, hWn1⟩ : ∃ W, World.drewN w0 i1 = W := ⟨_, rfl⟩
                  rw [hWn1] at HC1 ⊢
                  clear hWn1
                  have hcn : ((((gl : Nat) : Int) + 1) == (((gl : Nat) : Int) + 1)) = true := by simp
                  go_wp2_with fail
                  go_at_call 16
                  refine (HC1.out.ll.safe).mono ?_
                  rintro e wn2 ⟨rfl, i2, rfl⟩
                  obtain ⟨sf, hsf⟩ : ∃ x, LG.safe g = x := ⟨_, rfl⟩
                  have hsl := HT2.out
                  rw [hsf] at hsl ⊢
                  have hsd : decide (((gl : Nat) : Int) + 1 ≤ (sf : Int)) = false := by simp; omega
                  have HC2 := Lib.hid (HC1.out.new (dn_belowK _ i2))
                  obtain ⟨Wn2, hWn2⟩ : ∃ W, World.drewN Wn1 i2 = W := ⟨_, rfl⟩
                  rw [hWn2] at HC2 ⊢
                  clear hWn2 hsf
                  go_wp2_with fail
                  go_at_call 15
                  refine (HC2.out.ll.next').mono ?_
                  rintro e wn3 ⟨rfl, i3, rfl⟩
                  rw [HT1.out]
                  have HC3 := Lib.hid (HC2.out.new (dn_belowK _ i3))
                  obtain ⟨Wn3, hWn3⟩ : ∃ W, World.drewN Wn2 i3 = W := ⟨_, rfl⟩
                  rw [hWn3] at HC3 ⊢
                  clear hWn3
                  go_wp2_with fail
                  go_roundw
                  case rel => exact ⟨q + 1, T, s, g, t, all, vs, fl, by omega, by omega, by go_num, rfl, ⟨_, _, _, rfl⟩, HC3.out.mono (by omega)⟩
                  case measure => simp [intOf]; omega
        · have hgx : (decide (q < os.length) = true ∧ decide ((q : Int) < 40) = false) ∨ decide (q < os.length) = false := by
            by_cases h : q < os.length
            · exact .inl ⟨by simpa using h, by simp; omega⟩
            · exact .inr (by simpa using h)
          clear hgo2
          have HB40 : Hid ((3 : Int) + 5000000000 * (k : Nat) + 100000000 * (q : Nat) ≤ 3 + 5000000000 * (k : Nat) + 4000000000) := (by omega : (3 : Int) + 5000000000 * (k : Nat) + 100000000 * (q : Nat) ≤ 3 + 5000000000 * (k : Nat) + 4000000000)
          rcases hgx with ⟨g1, g2⟩ | g1
          all_goals
            have HX9 := Lib.hid (HX.out.mono HB40.out)
            clear HX HB40
            obtain ⟨gf, hgf⟩ : ∃ x, g.first = x := ⟨_, rfl⟩
            obtain ⟨sf, hsf⟩ : ∃ x, g.safe = x := ⟨_, rfl⟩
            have HGF := Lib.hid hgf
            have HSF := Lib.hid hsf
            have hgfb : gf ≤ gl + 1 := by
              have h1 := HX9.out.ll.ok.all_len
              have h2 := HX9.out.kp.ln
              rw [hgf] at h1
              rw [HGL.out] at h2
              omega
            have hgf1 : 1 ≤ gf := by rw [← hgf]; exact HX9.out.ll.ok.first_pos
            clear hgf hsf
            go_wp2_with fail
            clear z1
            go_at_call 14
            refine (HX9.out.ll.first).mono ?_
            rintro e wx1 ⟨rfl, rfl⟩
            rw [HGF.out]
            go_wp2_with fail
            go_at_call 16
            refine (HX9.out.ll.safe).mono ?_
            rintro e wx2 ⟨rfl, i1, rfl⟩
            rw [HSF.out]
            have HY := Lib.hid (HX9.out.new (dn_belowK _ i1))
            obtain ⟨Y, hY⟩ : ∃ W, World.drewN wr i1 = W := ⟨_, rfl⟩
            rw [hY] at HY ⊢
            clear hY HX9
            have z0 := HY.out.px.cel 0 _ rfl
            have z1 := HY.out.px.cel 1 _ rfl
            have z2 := HY.out.px.cel 2 _ rfl
            have z3 := HY.out.px.cel 3 _ rfl
            go_wp2_with fail
            go_at_call 32
            refine (again_any (by omega) ⟨st, os, pk, ag⟩ ⟨al, cl, ap, cp, aa, ca⟩ Y HY.out.ll.dl HY.out.kp HY.out.ll.ok HF.out).mono ?_
            rintro e w4 ⟨l4, T4, s4, g4, rfl, hl4, hx4, hop⟩
            have HL4 := Lib.hid hl4
            have HKA := Lib.hid (HY.out.ka.ext hx4)
            have HOP := Lib.hid hop
            have HTN := Lib.hid HY.out.tn
            have HKO := Lib.hid HY.out.kp
            obtain ⟨N, hN⟩ : ∃ x, g4.next = x := ⟨_, rfl⟩
            have hsN := hop.saf
            rw [hN, HSF.out] at hsN
            have hff := hop.fst
            rw [HGF.out] at hff
            have hsafe : ((g4.safe : Nat) : Int) = (N : Int) - 1 := by
              have h1 := hop.sf
              have h2 := hl4.ok.all_len
              unfold LG.safe
              rw [h1, hN]
              omega
            have hNb : N ≤ 100349524 := by rw [← hN]; exact hl4.ok.next_le
            have HNN := Lib.hid hN
            have HFF := Lib.hid hff
            have HSA := Lib.hid hsafe
            clear hl4 hx4 hop hN hff hsafe z0 z1 z2 z3 HY
            have d1 : ((gf : Int) == (gf : Int)) = true := by simp
            have d2 : decide ((N : Int) ≤ (sf : Int)) = false := by simp; omega
            have d3 : (((N : Int) - 1) == ((N : Int) - 1)) = true := by simp
            have d4 : IntKind.i64.wrap ((N : Int) - 1) = (N : Int) - 1 := IntWalk.i64_in _ (by omega)
            go_wp2_with fail
            go_at_call 14
            refine (HL4.out.first).mono ?_
            rintro e wx3 ⟨rfl, rfl⟩
            rw [HFF.out]
            go_wp2_with fail
            go_at_call 15
            refine (HL4.out.next').mono ?_
            rintro e wv ⟨rfl, i2, rfl⟩
            rw [HNN.out]
            have HL5 := Lib.hid (HL4.out.drewN i2)
            have HA5 := Lib.hid (HKA.out.new (dn_belowK _ i2))
            obtain ⟨V5, hV5⟩ : ∃ W, World.drewN w4 i2 = W := ⟨_, rfl⟩
            rw [hV5] at HL5 HA5 ⊢
            clear hV5
            go_wp2_with fail
            go_at_call 16
            refine (HL5.out.safe).mono ?_
            rintro e wv ⟨rfl, i2, rfl⟩
            rw [HSA.out]
            have HL6 := Lib.hid (HL5.out.drewN i2)
            have HA6 := Lib.hid (HA5.out.new (dn_belowK _ i2))
            obtain ⟨V6, hV6⟩ : ∃ W, World.drewN V5 i2 = W := ⟨_, rfl⟩
            rw [hV6] at HL6 HA6 ⊢
            clear hV6
            go_wp2_with fail
            go_at_call 15
            refine (HL6.out.next').mono ?_
            rintro e wv ⟨rfl, i2, rfl⟩
            rw [HNN.out]
            have HL7 := Lib.hid (HL6.out.drewN i2)
            have HA7 := Lib.hid (HA6.out.new (dn_belowK _ i2))
            obtain ⟨V7, hV7⟩ : ∃ W, World.drewN V6 i2 = W := ⟨_, rfl⟩
            rw [hV7] at HL7 HA7 ⊢
            clear hV7
            go_wp2_with fail
            go_at_call 15
            refine (HL7.out.next').mono ?_
            rintro e wv ⟨rfl, i2, rfl⟩
            rw [HNN.out]
            have HL8 := Lib.hid (HL7.out.drewN i2)
            have HA8 := Lib.hid (HA7.out.new (dn_belowK _ i2))
            obtain ⟨V8, hV8⟩ : ∃ W, World.drewN V7 i2 = W := ⟨_, rfl⟩
            rw [hV8] at HL8 HA8 ⊢
            clear hV8
            have hnx4 := HOP.out.nxt
            rw [HNN.out, HGL.out] at hnx4
            have hkeep := HOP.out.keep
            rw [HNN.out] at hkeep
            have hgN : gf ≤ N := by
              have h2 := HL8.out.ok.all_len
              rw [HFF.out, HNN.out] at h2
              omega
            rcases hnx4 with hNl | ⟨hNl, r, rfl⟩
            · have d5 : ((N : Int) == (gl : Int) + 2) = false := by simp; omega
              have hall : (all ++ t.toList).take (N - 1) = all.take (N - 1) := List.take_append_of_le_length (by have := HGL.out; omega)
              rw [hall] at hkeep
              have HKP := Lib.hid hkeep
              clear hall hkeep
              have d6 : decide ((gl : Int) + 1 < (N : Int)) = false := by simp; omega
              go_wp2_with fail
              go_at_call 15
              refine (HL8.out.next').mono ?_
              rintro e wv ⟨rfl, i2, rfl⟩
              rw [HNN.out]
              have HL11 := Lib.hid (HL8.out.drewN i2)
              have HA11 := Lib.hid (HA8.out.new (dn_belowK _ i2))
              obtain ⟨V11, hV11⟩ : ∃ W, World.drewN V8 i2 = W := ⟨_, rfl⟩
              rw [hV11] at HL11 HA11 ⊢
              clear hV11
              go_wp2_with fail
              go_at_call 15
              refine (HL11.out.next').mono ?_
              rintro e wv ⟨rfl, i2, rfl⟩
              rw [HNN.out]
              have HL12 := Lib.hid (HL11.out.drewN i2)
              have HA12 := Lib.hid (HA11.out.new (dn_belowK _ i2))
              obtain ⟨V12, hV12⟩ : ∃ W, World.drewN V11 i2 = W := ⟨_, rfl⟩
              rw [hV12] at HL12 HA12 ⊢
              clear hV12
              obtain ⟨v13, hrun, hk13⟩ := HA12.out.cut (N - 1) (by rw [HGL.out]; omega)
              rw [show ((N - 1 : Nat) : Int) = (N : Int) - 1 by omega] at hrun
              obtain ⟨a13, c13, hv13, _⟩ := hk13.rd
              subst hv13
              have hl13 : ((all).take (N - 1)).length = N - 1 := by rw [List.length_take, HGL.out]; omega
              rw [hl13] at hrun hk13
              have HK13 := Lib.hid hk13
              have HL13 := Lib.hid hl13
              obtain ⟨m1, m2⟩ := from_whole HL12.out.ok HOP.out.sf
              rw [HFF.out] at m1 m2
              have HM1 := Lib.hid m1
              have HM2 := Lib.hid m2
              clear hk13 hl13 m1 m2
              go_wp2_with fail
              go_at_call 19
              refine (HL12.out.from (gf : Nat) 1073741824 (by omega) (by omega)).mono ?_
              rintro e w14 ⟨v14, vs14, rfl, ho, hb⟩
              rw [HM1.out] at ho ⊢
              have ho' : Own88 w14 V12.heap.size v14 vs14 g4.all := by rw [if_pos rfl, HM2.out] at ho; exact ho
              obtain ⟨a14, c14, rfl, hr14⟩ := Own88.rd ho'
              obtain ⟨gm, hgm⟩ : ∃ x, g4.all.length = x := ⟨_, rfl⟩
              rw [hgm] at hr14 ⊢
              have HL14 := Lib.hid (HL12.out.new hb)
              have hk14 := HK13.out.new hb
              have HR14 := Lib.hid hr14
              obtain ⟨a15, c15, hv15, hr15⟩ := hk14.rd
              rw [HL13.out] at hv15 hr15
              cases hv15
              obtain ⟨a16, c16, hrun2, hr16⟩ := hr15.behind (gf - 1) (by omega)
              rw [show ((gf - 1 : Nat) : Int) = (gf : Int) - 1 by omega] at hrun2
              have hal := HKP.out.al
              rw [HFF.out] at hal
              rw [hal] at hr16
              have HR16 := Lib.hid hr16
              have HK14 := Lib.hid hk14
              clear ho ho' hr14 hb hk14 hr15 hr16 hal hgm hrun
              go_wp2_with fail
              go_at_call 20
              refine (wrows_any a14 a16 _ _ c14 c16 _ _ w14 HR14.out HR16.out).mono ?_
              rintro e w17 ⟨rfl, i17, rfl⟩
              rw [show (g4.all == g4.all) = true from by simp]
              have HL17 := Lib.hid (HL14.out.drewN i17)
              have HK17 := Lib.hid (HK14.out.new (dn_belowK _ i17))
              obtain ⟨V17, hV17⟩ : ∃ W, World.drewN w14 i17 = W := ⟨_, rfl⟩
              rw [hV17] at HL17 HK17 ⊢
              clear hV17 hrun2
              go_wp2_with fail
              go_roundw
              case rel => exact ⟨k + 1, l4, T4, s4, g4, _, _, by omega, by omega, rfl, by go_num, HL17.out.mono (by omega), HKP.out, HK17.out⟩
              case measure => simp [intOf]; omega
            · obtain ⟨hfl, ax, cx, hvt, hr8, hbi⟩ := HTN.out r rfl
              subst hfl
              cases hvt
              have hrl := HKO.out.tl r rfl
              have d5 : ((N : Int) == (gl : Int) + 2) = true := by simp; omega
              have hall : (all ++ (some r).toList).take (N - 1) = (all ++ [r]).take (N - 1) := rfl
              rw [hall] at hkeep
              have HKP := Lib.hid hkeep
              have HR8 := Lib.hid hr8
              have HNL := Lib.hid hNl
              clear hall hkeep hr8 hbi hNl
              go_wp2_with fail
              go_at_call 31
              refine (copyBytes_any _ r.length _ r V8 (HR8.out.below HL8.out.bl) (by omega)).mono ?_
              rintro e w9 ⟨v9, rfl, hown9, hb9⟩
              obtain ⟨a9, c9, rfl, _⟩ := Own8.rd hown9
              have hva := (HA8.out.new hb9).own
              rw [HGL.out] at hva
              have HVA := Lib.hid hva
              have HO9 := Lib.hid hown9
              have HB9 := Lib.hid hb9
              clear hva hown9 hb9
              go_wp2_with (at_builtin; refine wpList_app2 S88 rfl (.tmp 171) (.tmp 174) rfl wa.heap.size rfl (HVA.out.alloc _) rfl (Rd.one _ _ _) ?c1 ?c2 ?c3 ?c4 ?_)
              case c1 => simp [Value.oneCell']
              case c2 => omega
              case c3 => unfold maxLen; omega
              case c4 => have h1 := HL8.out.bl.size; have h2 := HB9.out.size; simp; omega
              intro v10 w10 hown hgr hbk
              have hYb : Below w9.heap.size w9 (w9.alloc (.cells #[.slice a9 r.length c9] 35)) := (Below.refl _ _).alloc (Nat.le_refl _) _
              have hfr : Fr (fun k => (Value.slice av gl cv).ownBlock = some k) V8 w10 := (Fr.of_new HB9.out).trans ((Fr.of_new hYb).grown hgr (fun k _ e => e))
              have hl10 := HL8.out.beside hfr (fun k hk e => HA8.out.nt k e hk) (fun k e => (World.ownsRow.lt HA8.out.own k e).1)
              have ha10 := HA8.out.snoc HL8.out.lt HB9.out HO9.out hYb rfl (by rw [HGL.out]; exact hown) hgr (hbk.imp id fun e => e.trans (by simp))
              obtain ⟨a10, c10, hv10, _⟩ := ha10.rd
              subst hv10
              obtain ⟨gn, hgn⟩ : ∃ x, (all ++ [r]).length = x := ⟨_, rfl⟩
              have hgnb : gn ≤ 100349525 := by rw [← hgn, List.length_append, HGL.out, List.length_singleton]; omega
              have hNl2 : N ≤ gn + 1 := by have := HNL.out; rw [← hgn, List.length_append, HGL.out, List.length_singleton]; omega
              rw [hgn] at ha10 ⊢
              have HGN := Lib.hid hgn
              have HL10 := Lib.hid hl10
              have HA10 := Lib.hid ha10
              clear hown hgr hbk hYb hfr hl10 ha10 hgn HVA HO9 HB9 HL8 HA8
              have d6 : decide ((gn : Int) + 1 < (N : Int)) = false := by simp; omega
              go_wp2_with fail
              go_at_call 15
              refine (HL10.out.next').mono ?_
              rintro e wv ⟨rfl, i2, rfl⟩
              rw [HNN.out]
              have HL11 := Lib.hid (HL10.out.drewN i2)
              have HA11 := Lib.hid (HA10.out.new (dn_belowK _ i2))
              obtain ⟨V11, hV11⟩ : ∃ W, World.drewN w10 i2 = W := ⟨_, rfl⟩
              rw [hV11] at HL11 HA11 ⊢
              clear hV11
              go_wp2_with fail
              go_at_call 15
              refine (HL11.out.next').mono ?_
              rintro e wv ⟨rfl, i2, rfl⟩
              rw [HNN.out]
              have HL12 := Lib.hid (HL11.out.drewN i2)
              have HA12 := Lib.hid (HA11.out.new (dn_belowK _ i2))
              obtain ⟨V12, hV12⟩ : ∃ W, World.drewN V11 i2 = W := ⟨_, rfl⟩
              rw [hV12] at HL12 HA12 ⊢
              clear hV12
              obtain ⟨v13, hrun, hk13⟩ := HA12.out.cut (N - 1) (by rw [HGN.out]; omega)
              rw [show ((N - 1 : Nat) : Int) = (N : Int) - 1 by omega] at hrun
              obtain ⟨a13, c13, hv13, _⟩ := hk13.rd
              subst hv13
              have hl13 : ((all ++ [r]).take (N - 1)).length = N - 1 := by rw [List.length_take, HGN.out]; omega
              rw [hl13] at hrun hk13
              have HK13 := Lib.hid hk13
              have HL13 := Lib.hid hl13
              obtain ⟨m1, m2⟩ := from_whole HL12.out.ok HOP.out.sf
              rw [HFF.out] at m1 m2
              have HM1 := Lib.hid m1
              have HM2 := Lib.hid m2
              clear hk13 hl13 m1 m2
              go_wp2_with fail
              go_at_call 19
              refine (HL12.out.from (gf : Nat) 1073741824 (by omega) (by omega)).mono ?_
              rintro e w14 ⟨v14, vs14, rfl, ho, hb⟩
              rw [HM1.out] at ho ⊢
              have ho' : Own88 w14 V12.heap.size v14 vs14 g4.all := by rw [if_pos rfl, HM2.out] at ho; exact ho
              obtain ⟨a14, c14, rfl, hr14⟩ := Own88.rd ho'
              obtain ⟨gm, hgm⟩ : ∃ x, g4.all.length = x := ⟨_, rfl⟩
              rw [hgm] at hr14 ⊢
              have HL14 := Lib.hid (HL12.out.new hb)
              have hk14 := HK13.out.new hb
              have HR14 := Lib.hid hr14
              obtain ⟨a15, c15, hv15, hr15⟩ := hk14.rd
              rw [HL13.out] at hv15 hr15
              cases hv15
              obtain ⟨a16, c16, hrun2, hr16⟩ := hr15.behind (gf - 1) (by omega)
              rw [show ((gf - 1 : Nat) : Int) = (gf : Int) - 1 by omega] at hrun2
              have hal := HKP.out.al
              rw [HFF.out] at hal
              rw [hal] at hr16
              have HR16 := Lib.hid hr16
              have HK14 := Lib.hid hk14
              clear ho ho' hr14 hb hk14 hr15 hr16 hal hgm hrun
              go_wp2_with fail
              go_at_call 20
              refine (wrows_any a14 a16 _ _ c14 c16 _ _ w14 HR14.out HR16.out).mono ?_
              rintro e w17 ⟨rfl, i17, rfl⟩
              rw [show (g4.all == g4.all) = true from by simp]
              have HL17 := Lib.hid (HL14.out.drewN i17)
              have HK17 := Lib.hid (HK14.out.new (dn_belowK _ i17))
              obtain ⟨V17, hV17⟩ : ∃ W, World.drewN w14 i17 = W := ⟨_, rfl⟩
              rw [hV17] at HL17 HK17 ⊢
              clear hV17 hrun2
              go_wp2_with fail
              go_roundw
              case rel => exact ⟨k + 1, l4, T4, s4, g4, _, _, by omega, by omega, rfl, by go_num, HL17.out.mono (by omega), HKP.out, HK17.out⟩
              case measure => simp [intOf]; omega
    · have hgx : (decide (k < n) = true ∧ decide ((k : Int) < 6) = false) ∨ decide (k < n) = false := by
        by_cases h : k < n
        · exact .inl ⟨by simpa using h, by simp; omega⟩
        · exact .inr (by simpa using h)
      clear hgo
      rcases hgx with ⟨g1, g2⟩ | g1
      all_goals
        go_wp2_with fail
        go_at_call 9
        refine (wfirst_any wr).mono ?_
        rintro e w3 ⟨rfl, hb⟩
        have HBC := Lib.hid (next_below HBA.out (next_below HL.out.bl hb))
        clear hb
        go_wp2_with fail
        go_ret
        exact TEnd.mk HBC.out
end Go.Proofs.Ytjjcilinghgphaa
