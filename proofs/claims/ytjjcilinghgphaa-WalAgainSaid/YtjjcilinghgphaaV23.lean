/-
  A log that did operations (opened).
-/
import Derived.Test.YtjjcilinghgphaaV22
namespace Go.Proofs.Ytjjcilinghgphaa
open Go.RowKit Go.Maps Go.Sort
set_option maxRecDepth 100000
attribute [local go_sem] bs_size bs_toList

/-- The sizes of segments. -/
structure SzI (g : LG) : Prop where
  pre : ∀ x ∈ g.pre, g.room ≤ (szS x : Int)
  each : ∀ x ∈ g.segs, ∀ k, k < x.rs.length → ((joinF (x.rs.take k)).length : Int) < g.room
theorem SzI.sync {s : DS} {g : LG} (h : SzI g) : SzI (syncL s g).g := by
  unfold syncL
  split <;> exact ⟨h.pre, h.each⟩
theorem SzI.turn {s : DS} {g : LG} (h : SzI g) (hr : 64 ≤ g.room) : SzI (turnL s g).g ∧ ((turnL s g).e = 0 → (szS (turnL s g).g.la : Int) < (turnL s g).g.room) := by
  by_cases hf : (szS g.la : Int) < g.room
  · rw [turnL_free hf]; exact ⟨h, fun _ => hf⟩
  · by_cases h0 : (syncL s g).e = 0
    · rw [turnL_roll hf h0]
      obtain ⟨n1, n2, n3, n4, n5⟩ := syncL_next (s := s) (g := g)
      have hs := h.sync (s := s)
      unfold rollL
      split
      · refine ⟨⟨fun x hx => ?_, fun x hx k hk => ?_⟩, fun _ => ?_⟩
        · rcases List.mem_append.1 (show x ∈ (syncL s g).g.pre ++ [(syncL s g).g.la] from hx) with hx | hx
          · exact hs.pre x hx
          · rw [List.mem_singleton] at hx
            subst hx
            show (syncL s g).g.room ≤ _
            rw [n2, n5]; omega
        · rcases List.mem_append.1 (show x ∈ ((syncL s g).g.pre ++ [(syncL s g).g.la]) ++ [(⟨g.next, []⟩ : Sg)] from hx) with hx | hx
          · exact hs.each x hx k hk
          · rw [List.mem_singleton] at hx
            subst hx
            simp at hk
        · show ((0 : Nat) : Int) < (syncL s g).g.room
          rw [n5]; omega
      · rename_i hc
        exact ⟨hs, fun e => absurd e hc⟩
    · rw [turnL_sync hf h0]; exact ⟨h.sync, fun e => absurd e h0⟩
theorem SzI.app {s : DS} {g : LG} {p : List UInt8} (h : SzI g) (hr : 64 ≤ g.room) : SzI (appL s g p).g := by
  by_cases h1 : 262144 < p.length
  · rw [(appL_long h1).1]; exact h
  · by_cases h2 : 99999999 < g.next
    · rw [(appL_range h1 h2).1]; exact h
    · obtain ⟨t1, t2⟩ := h.turn (s := s) hr
      by_cases h3 : (turnL s g).e = 0
      · rw [appL_put h1 h2 h3]
        unfold putL
        split
        · refine ⟨t1.pre, fun x hx k hk => ?_⟩
          rcases List.mem_append.1 (show x ∈ (turnL s g).g.pre ++ [(⟨(turnL s g).g.la.f, (turnL s g).g.la.rs ++ [p]⟩ : Sg)] from hx) with hx | hx
          · exact t1.each x (List.mem_append_left _ hx) k hk
          · rw [List.mem_singleton] at hx
            subst hx
            have hk' : k < ((turnL s g).g.la.rs ++ [p]).length := hk
            rw [List.length_append, List.length_singleton] at hk'
            show ((joinF (((turnL s g).g.la.rs ++ [p]).take k)).length : Int) < (turnL s g).g.room
            by_cases hkl : k < (turnL s g).g.la.rs.length
            · rw [List.take_append_of_le_length (by omega)]
              exact t1.each _ (LG.la_mem _) k hkl
            · rw [List.take_append_of_le_length (by omega), List.take_of_length_le (by omega)]
              exact t2 h3
        · exact t1
      · rw [(appL_turn h1 h2 h3).1]; exact t1
theorem appL_room {s : DS} {g : LG} {p : List UInt8} : (appL s g p).g.room = g.room ∧ (appL s g p).g.dir = g.dir := by
  have hsy : (syncL s g).g.room = g.room ∧ (syncL s g).g.dir = g.dir := ⟨(syncL_next).2.2.2.2, (syncL_next).2.2.2.1⟩
  have htu : (turnL s g).g.room = g.room ∧ (turnL s g).g.dir = g.dir := by
    unfold turnL
    split
    · exact ⟨rfl, rfl⟩
    · split
      · exact hsy
      · unfold rollL; split <;> exact hsy
  unfold appL
  split
  · exact ⟨rfl, rfl⟩
  · split
    · exact ⟨rfl, rfl⟩
    · split
      · exact htu
      · unfold putL; split <;> exact htu
/-- A log's state in the laws without falls. -/
structure FL (room : Int) (s : DS) (g : LG) : Prop where
  fre : Fre s g
  one : g.first = 1
  sz : SzI g
  rm : g.room = room
  dir : g.dir = dL
theorem FL.start {room : Int} : FL room sN (gA room [] 0) := by
  refine ⟨fre_new room, rfl, ⟨fun x hx => (by cases hx), fun x hx k hk => ?_⟩, rfl, rfl⟩
  have hx' : x ∈ [(⟨1, []⟩ : Sg)] := hx
  rw [List.mem_singleton] at hx'
  subst hx'
  simp at hk
theorem FL.sync {room : Int} {s : DS} {g : LG} (h : FL room s g) (hs : Srt s.fs) : FL room (syncL s g).s (syncL s g).g ∧ (syncL s g).g.all = g.all ∧ (syncL s g).e = 0 := by
  obtain ⟨a1, a2, a3⟩ := h.fre.sync hs
  refine ⟨⟨a2, ?_, h.sz.sync, ?_, ?_⟩, ?_, a1⟩
  · rw [a3]; exact h.one
  · rw [a3]; exact h.rm
  · rw [a3]; exact h.dir
  · rw [a3]; rfl
theorem FL.app {B : Int} {room : Int} {s : DS} {g : LG} {p : List UInt8} (h : FL room s g) (hk : LOk s g) (hd : DOk B s) : FL room (appL s g p).s (appL s g p).g ∧ (appL s g p).g.all = (if (appL s g p).e = 0 then g.all ++ [p] else g.all) ∧
    tot (appL s g p).s.fs = tot s.fs + (if (appL s g p).e = 0 then p.length + 12 else 0) ∧ ((appL s g p).e ≠ 0 → p.length ≤ 262144 → g.next ≤ 99999999 → 64 ≤ (appL s g p).s.fs.length ∨ 4194304 < p.length + 12 + tot s.fs) := by
  obtain ⟨a1, a2, a3, a4, a5⟩ := h.fre.app (p := p) (_B' := B) hk hd
  obtain ⟨b1, b2⟩ := appL_room (s := s) (g := g) (p := p)
  refine ⟨⟨a1, a5.trans h.one, h.sz.app hk.r1, b1.trans h.rm, b2.trans h.dir⟩, ?_, ?_, a2⟩
  · by_cases h0 : (appL s g p).e = 0
    · rw [if_pos h0]; exact (a3 h0).1
    · rw [if_neg h0]; exact (a4 h0).1
  · by_cases h0 : (appL s g p).e = 0
    · rw [if_pos h0]; exact (a3 h0).2
    · rw [if_neg h0]; exact (a4 h0).2
/-- The records that were taken, as the law keeps them. -/
structure AllAt (W0 w : World) (T : Nat → Prop) (v : Value) (vs : List Value) (ls : List (List UInt8)) : Prop where
  own : w.ownsRow W0.heap.size 35 1 v ls.length vs
  nt : ∀ k, v.ownBlock = some k → ¬ T k
  each : ∀ (i : Nat) (l : List UInt8), ls[i]? = some l → ∃ ai ci, vs[i]? = some (.slice ai l.length ci) ∧ Rd8 w ai l.length ci l ∧ BlkIn ai l.length fun b => b < W0.heap.size
section
variable {W0 w w' : World} {T T' : Nat → Prop} {v : Value} {vs : List Value} {ls : List (List UInt8)}
theorem AllAt.nil : AllAt W0 w T (.slice none 0 0) [] [] := ⟨World.ownsRow_nil _ _ _ _, fun k hk => (by simp [Value.ownBlock] at hk), fun i l h => by simp at h⟩
theorem AllAt.ext (h : AllAt W0 w T v vs ls) (ht : ∀ k, T k → W0.heap.size ≤ k) (he : Ext T w T' w') : AllAt W0 w' T' v vs ls := by
  refine ⟨ownsRow_keep h.own fun k hk => he.1.block k (World.ownsRow.lt h.own k hk).2 (h.nt k hk), fun k hk e => ?_, fun i l hl => ?_⟩
  · rcases he.2 k e with e | e
    · exact h.nt k hk e
    · have := (World.ownsRow.lt h.own k hk).2; omega
  · obtain ⟨ai, ci, h1, h2, h3⟩ := h.each i l hl
    exact ⟨ai, ci, h1, h2.keep0 he.1 fun h0 b hb e => by have := h3 h0 b hb; have := ht b e; omega, h3⟩
theorem AllAt.new (h : AllAt W0 w T v vs ls) (hb : Below w.heap.size w w') : AllAt W0 w' T v vs ls :=
  ⟨ownsRow_keep h.own fun k hk => hb.block k (World.ownsRow.lt h.own k hk).2, h.nt, fun i l hl => by
    obtain ⟨ai, ci, h1, h2, h3⟩ := h.each i l hl
    exact ⟨ai, ci, h1, h2.below hb, h3⟩⟩
theorem AllAt.rd (h : AllAt W0 w T v vs ls) : ∃ a cap, v = .slice a ls.length cap ∧ Rd88 w a ls.length cap ls := by
  obtain ⟨a, cap, hv, hr⟩ := Rd.of_own h.own
  exact ⟨a, cap, hv, rfl, vs, hr, fun i l hl => by obtain ⟨ai, ci, h1, h2, _⟩ := h.each i l hl; exact ⟨ai, ci, h1, h2⟩⟩
/-- One more. -/
theorem AllAt.snoc {w2 : World} {v' : Value} {ai : Option Addr} {ci : Nat} {l : List UInt8} (h : AllAt W0 w T v vs ls) (ht : ∀ k, T k → k < w.heap.size) (h8 : Rd8 w ai l.length ci l) (hb8 : BlkIn ai l.length fun b => b < W0.heap.size)
    (hY : Below w.heap.size w w') (hown : w2.ownsRow W0.heap.size 35 1 v' (ls.length + 1) (vs ++ [.slice ai l.length ci])) (hg : w'.grownBy w2 v.ownBlock) (hbk : v'.ownBlock = v.ownBlock ∨ v'.ownBlock = some w'.heap.size) : AllAt W0 w2 T v' (vs ++ [.slice ai l.length ci]) (ls ++ [l]) := by
  have hvl : vs.length = ls.length := by have := h.own.1; omega
  have hs := hY.size
  have hfr : Fr (fun k => v.ownBlock = some k) w w2 := (Fr.of_new hY).grown hg (fun k _ e => e)
  have hkeep : ∀ {a : Option Addr} {n c : Nat} {m : List UInt8}, Rd8 w a n c m → (BlkIn a n fun b => b < W0.heap.size) → Rd8 w2 a n c m := fun hr hb => hr.keep0 hfr fun h0 b hb' e => by
    have h1 := hb h0 b hb'
    have h2 := (World.ownsRow.lt h.own b e).1
    omega
  refine ⟨by simpa using hown, fun k hk e => ?_, fun i m hm => ?_⟩
  · rcases hbk with e' | e'
    · rw [e'] at hk; exact h.nt k hk e
    · rw [e'] at hk; cases hk; have := ht _ e; omega
  · by_cases hi : i < ls.length
    · rw [List.getElem?_append_left hi] at hm
      obtain ⟨a, c, h1, h2, h3⟩ := h.each i m hm
      exact ⟨a, c, by rw [List.getElem?_append_left (by omega)]; exact h1, hkeep h2 h3, h3⟩
    · rw [List.getElem?_append_right (by omega)] at hm
      have hl := (List.getElem?_eq_some_iff.1 hm).1
      rw [List.length_singleton] at hl
      have hi2 : i = ls.length := by omega
      subst hi2
      simp at hm
      subst hm
      exact ⟨ai, ci, by rw [List.getElem?_append_right (by omega), hvl]; simp, hkeep h8 hb8, hb8⟩
end
theorem LL.beside {W0 W W' : World} {B : Int} {d l : Nat} {T S' : Nat → Prop} {s : DS} {g : LG} (h : LL W0 B d l T s g W) (hf : Fr S' W W') (hn : ∀ k, T k → ¬ S' k) (hl : ∀ k, S' k → W0.heap.size ≤ k) : LL W0 B d l T s g W' := by
  obtain ⟨Sd, Sl, q1, q2, q3, q4, q5, q6⟩ := h.lw
  exact ⟨⟨Sd, Sl, q1.keep hf fun k hk => hn k (q4 k hk), LgG.keep q2 hf fun k hk => hn k (q5 k hk), q3, q4, q5, fun k hk => Nat.lt_of_lt_of_le (q6 k hk) hf.size⟩, h.t0, fr_below hf hl h.bl, h.ok⟩
def OpenedWPost (w : World) (seg : Int) (e : Ending) (w' : World) : Prop :=
  ∃ d l T s g v vs, e = .returned (.tuple #[.pointer (some ⟨d, 0, none⟩), .pointer (some ⟨l, 0, none⟩), v]) ∧ LL w 1000 d l T s g w' ∧ FL seg s g ∧ AllAt w w' T v vs g.all
set_option maxHeartbeats 4000000 in
theorem opened_any (seg : Int) (hs1 : 64 ≤ seg) (hs2 : seg ≤ 262144) (a : Option Addr) (n cap : Nat) (os : List OpW) (hfew : os.length ≤ 200) (w : World) (h : RdOw w (fun b => b < w.heap.size) a n cap os) :
    Calls Try.prog 13 #[.int .i64 seg, .slice a n cap] w (OpenedWPost w seg) := by
  have H0 := Lib.hid h
  have HN := Lib.hid h.1
  have hn200 : n ≤ 200 := by have := h.1; omega
  clear h
  go_enter Try.func13, Try.ntmps13
  go_wp2_with fail
  go_at_call 22
  refine (new_any 0 (Int.le_refl _) w).mono ?_
  rintro e w1 ⟨d, rfl, hb1, hd1⟩
  have HD1 := Lib.hid (DL.start hb1 hd1)
  clear hb1 hd1
  go_wp2_with fail
  go_at_call 23
  refine (HD1.out.open (by omega) dL (by decide) seg).mono ?_
  rintro e w2 ho
  rw [open_new hs1 hs2] at ho
  obtain ⟨l, T2, rfl, hl2, _⟩ := ho
  have HL2 := Lib.hid hl2
  clear hl2
  go_wp2_with fail
  go_loopw [10, 11, 12, 13, 40, 62] (fun v i _ _ _ _ wr => ∃ (k : Nat) (T : Nat → Prop) (s : DS) (g : LG) (vs : List Value), k ≤ n ∧ i = .int .i64 (k : Nat) ∧ Hid (LL w (3 + 3 * (k : Nat)) d l T s g wr) ∧ Hid (FL seg s g) ∧ Hid (AllAt w wr T v vs g.all)) (fun _ i _ _ _ _ _ => n - (intOf i).toNat)
  case atStart => exact ⟨0, T2, sN, _, [], Nat.zero_le _, rfl, HL2.out.mono (by omega), FL.start, AllAt.nil⟩
  case round =>
    clear HL2 HD1
    obtain ⟨k, T, s, g, vs, hk, rfl, HL, HF, HA⟩ := hrel
    obtain ⟨av, cv, hv, _⟩ := HA.out.rd
    subst hv
    have hal : g.all.length ≤ 100349524 := by
      have h1 := HL.out.ok.all_len
      have h2 := HL.out.ok.next_le
      omega
    by_cases hlt : k < n
    · obtain ⟨o, ho⟩ : ∃ o, os[k]? = some o := ⟨_, List.getElem?_eq_getElem (by have := HN.out; omega)⟩
      obtain ⟨b, off, ab, cb, ap, cp, rfl, hrd, c0, c1, c2, c3, c4, c5⟩ := H0.out.at ho
      have HR8 := Lib.hid hrd.2.1
      have HBI := Lib.hid hrd.2.2.2.1
      have HC3 := Lib.hid c3
      have q0 := cell_below c0 HL.out.bl
      have q3 := cell_below c3 HL.out.bl
      obtain ⟨ok, hok⟩ : ∃ ok, o.k = ok := ⟨_, rfl⟩
      rw [hok] at q0
      clear hrd c0 c1 c2 c3 c4 c5 ho hok
      by_cases h1 : ok = 1
      · subst h1
        go_wp2_with fail
        go_at_call 24
        refine (HL.out.append (by omega) (HR8.out.below HL.out.bl) (HL.out.old HBI.out)).mono ?_
        rintro e w3 ⟨T3, rfl, hl3, hx3⟩
        obtain ⟨f1, f2, f3, f4⟩ := HF.out.app (p := o.b) HL.out.ok HL.out.lw.ok
        have HL3 := Lib.hid (hl3.mono (B' := 3 + 3 * ((k + 1 : Nat) : Int)) (by omega))
        have HF3 := Lib.hid f1
        have HA3 := Lib.hid (HA.out.ext HL.out.t0 hx3)
        have q3 := cell_below HC3.out HL3.out.bl
        clear hl3 hx3 f1 f3 f4 q0
        by_cases h0 : (appL s g o.b).e = 0
        · rw [if_pos h0] at f2
          have HF2 := Lib.hid f2
          rw [h0]
          clear f2 h0
          have hva := HA3.out.own
          have hav := (Rd.of_own hva)
          obtain ⟨gl, hgl⟩ : ∃ gl, g.all.length = gl := ⟨_, rfl⟩
          rw [hgl] at hva hal ⊢
          have HGL := Lib.hid hgl
          have HVA := Lib.hid hva
          clear hgl hva hav
          go_wp2_with (at_builtin; refine wpList_app2 S88 rfl (.tmp 54) (.tmp 60) rfl w.heap.size rfl (HVA.out.alloc _) rfl (Rd.one _ _ _) ?c1 ?c2 ?c3 ?c4 ?_)
          case c1 => simp [Value.oneCell']
          case c2 => omega
          case c3 => unfold maxLen; omega
          case c4 => have := HL3.out.bl.size; simp; omega
          intro v5 w5 hown hgr hbk
          have hYb : Below w3.heap.size w3 (w3.alloc (.cells #[.slice ab o.b.length cb] 35)) := (Below.refl _ _).alloc (Nat.le_refl _) _
          have hgr' : (w3.alloc (.cells #[.slice ab o.b.length cb] 35)).grownBy w5 (Value.slice av g.all.length cv).ownBlock := by rw [HGL.out]; exact hgr
          have hsn := HA3.out.snoc HL3.out.lt (HR8.out.below HL3.out.bl) HBI.out hYb (by rw [HGL.out]; exact hown) hgr' (hbk.imp (fun e => by rw [HGL.out]; exact e) fun e => e.trans (by simp))
          rw [← HF2.out] at hsn
          have hfr : Fr (fun k => (Value.slice av g.all.length cv).ownBlock = some k) w3 w5 := (Fr.of_new hYb).grown hgr' (fun k _ e => e)
          have hl5 := HL3.out.beside hfr (fun k hk e => HA3.out.nt k e hk) (fun k e => (World.ownsRow.lt HA3.out.own k e).1)
          have HL5 := Lib.hid hl5
          have HA5 := Lib.hid hsn
          clear hown hgr hgr' hbk hYb hsn hfr hl5 q3
          go_wp2_with fail
          go_roundw
          case rel => exact ⟨k + 1, T3, _, _, _, by omega, by go_num, HL5.out, HF3.out, HA5.out⟩
          case measure => simp [intOf]; omega
        · have hbE : ((appL s g o.b).e == 0) = false := by simpa using h0
          rw [if_neg h0] at f2
          have HA5 : Hid (AllAt w w3 T3 (.slice av g.all.length cv) vs (appL s g o.b).g.all) := by rw [f2]; exact HA3.out
          clear h0 f2
          obtain ⟨e, he⟩ : ∃ e, (appL s g o.b).e = e := ⟨_, rfl⟩
          rw [he] at hbE ⊢
          clear he q3
          go_wp2_with fail
          go_roundw
          case rel => exact ⟨k + 1, T3, _, _, vs, by omega, by go_num, HL3.out, HF3.out, HA5.out⟩
          case measure => simp [intOf]; omega
      · by_cases h2 : ok = 2
        · subst h2
          go_wp2_with fail
          go_at_call 26
          refine (HL.out.sync (by omega)).mono ?_
          rintro e w3 ⟨T3, rfl, hl3, hx3⟩
          obtain ⟨f1, f2, f3⟩ := HF.out.sync HL.out.lw.ok.srt
          have HL3 := Lib.hid (hl3.mono (B' := 3 + 3 * ((k + 1 : Nat) : Int)) (by omega))
          have HF3 := Lib.hid f1
          have HA5 : Hid (AllAt w w3 T3 (.slice av g.all.length cv) vs (syncL s g).g.all) := by rw [f2]; exact HA.out.ext HL.out.t0 hx3
          clear hl3 hx3 f1 f2 f3 q0 q3 h1
          go_wp2_with fail
          go_roundw
          case rel => exact ⟨k + 1, T3, _, _, vs, by omega, by go_num, HL3.out, HF3.out, HA5.out⟩
          case measure => simp [intOf]; omega
        · have b1 : (ok == 1) = false := by simpa using h1
          have b2 : (ok == 2) = false := by simpa using h2
          have HL3 := Lib.hid (HL.out.mono (B' := 3 + 3 * ((k + 1 : Nat) : Int)) (by omega))
          clear h1 h2
          go_wp2_with fail
          go_roundw
          case rel => exact ⟨k + 1, T, s, g, vs, by omega, by go_num, HL3.out, HF.out, HA.out⟩
          case measure => simp [intOf]; omega
    · have HL3 := Lib.hid (HL.out.mono (B' := 1000) (by omega))
      go_wp2_with fail
      go_ret3
      exact ⟨d, l, T, s, g, _, vs, rfl, HL3.out, HF.out, HA.out⟩
end Go.Proofs.Ytjjcilinghgphaa
