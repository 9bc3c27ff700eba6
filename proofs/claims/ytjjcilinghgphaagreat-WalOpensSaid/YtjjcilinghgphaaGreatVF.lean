/-
 Operations of the laws of chapter 7, how they lie; Few.
 A log that did operations (opened).
 Two lists of rows compared (raceref.Rows).
-/
import Derived.Test.YtjjcilinghgphaaGreatV21
import Derived.Deep.DeepCutAuto
/-! ### Operations of the laws of chapter 7, how they lie; Few. -/
namespace Go.Proofs.YtjjcilinghgphaaGreat
open Go.RowKit Go.Maps Go.Sort
set_option maxRecDepth 100000
attribute [local go_sem] bs_size bs_toList

structure OpW where
 k : Int
 n : Int
 m : Int
 b : List UInt8
 nm : List UInt8
 p : List Int
def int64 (x : Int) : Prop := -9223372036854775808 ≤ x ∧ x ≤ 9223372036854775807
def opwCells (o : OpW) (ab : Option Addr) (cb : Nat) (ap : Option Addr) (cp : Nat) : List Value := [.int .i64 o.k, .int .i64 o.n, .int .i64 o.m, .slice ab o.b.length cb, .string (bs o.nm), .slice ap o.p.length cp]
def OpwRd (w : World) (T : Nat → Prop) (o : OpW) (ab : Option Addr) (cb : Nat) (ap : Option Addr) (cp : Nat) : Prop :=
 (int64 o.k ∧ int64 o.n ∧ int64 o.m ∧ o.nm.length ≤ 9223372036854775807) ∧ Rd8 w ab o.b.length cb o.b ∧ RdI w ap o.p.length cp o.p ∧ BlkIn ab o.b.length T ∧ BlkIn ap o.p.length T
theorem OpwRd.below {T : Nat → Prop} {w w' : World} {o : OpW} {ab : Option Addr} {cb : Nat} {ap : Option Addr} {cp : Nat} (h : OpwRd w T o ab cb ap cp) (hb : Below w.heap.size w w') : OpwRd w' T o ab cb ap cp :=
 ⟨h.1, h.2.1.below hb, h.2.2.1.below hb, h.2.2.2⟩
def RdOw (w : World) (T : Nat → Prop) (a : Option Addr) (n cap : Nat) (os : List OpW) : Prop :=
 n = os.length ∧ BlkIn a n T ∧ ∃ xs, Rd w a n cap 6 xs ∧ ∀ (i : Nat) (o : OpW), os[i]? = some o → ∃ ab cb ap cp, (∀ (j : Nat) (u : Value), (opwCells o ab cb ap cp)[j]? = some u → xs[i * 6 + j]? = some u) ∧ OpwRd w T o ab cb ap cp
theorem RdOw.below {T : Nat → Prop} {w w' : World} {a : Option Addr} {n cap : Nat} {os : List OpW} (h : RdOw w T a n cap os) (hb : Below w.heap.size w w') : RdOw w' T a n cap os := by
 obtain ⟨h1, h2, xs, h3, h4⟩ := h
 refine ⟨h1, h2, xs, h3.below hb, fun i o ho => ?_⟩
 obtain ⟨ab, cb, ap, cp, hc, hr⟩ := h4 i o ho
 exact ⟨ab, cb, ap, cp, hc, hr.below hb⟩
theorem RdOw.mono {T T' : Nat → Prop} {w : World} {a : Option Addr} {n cap : Nat} {os : List OpW} (h : RdOw w T a n cap os) (ht : ∀ b, T b → T' b) : RdOw w T' a n cap os := by
 obtain ⟨h1, h2, xs, h3, h4⟩ := h
 refine ⟨h1, fun h0 b hb => ht b (h2 h0 b hb), xs, h3, fun i o ho => ?_⟩
 obtain ⟨ab, cb, ap, cp, hc, q1, q2, q3, q4, q5⟩ := h4 i o ho
 exact ⟨ab, cb, ap, cp, hc, q1, q2, q3, fun h0 b hb => ht b (q4 h0 b hb), fun h0 b hb => ht b (q5 h0 b hb)⟩
theorem RdOw.at {w : World} {T : Nat → Prop} {a : Option Addr} {n cap : Nat} {os : List OpW} (h : RdOw w T a n cap os) {k : Nat} {o : OpW} (ho : os[k]? = some o) :
 ∃ b off ab cb ap cp, a = some ⟨b, off, none⟩ ∧ OpwRd w T o ab cb ap cp ∧ w.cell? ⟨b, off + k * 6, none⟩ = some (.int .i64 o.k) ∧ w.cell? ⟨b, off + k * 6 + 1, none⟩ = some (.int .i64 o.n) ∧ w.cell? ⟨b, off + k * 6 + 2, none⟩ = some (.int .i64 o.m) ∧
  w.cell? ⟨b, off + k * 6 + 3, none⟩ = some (.slice ab o.b.length cb) ∧ w.cell? ⟨b, off + k * 6 + 4, none⟩ = some (.string (bs o.nm)) ∧ w.cell? ⟨b, off + k * 6 + 5, none⟩ = some (.slice ap o.p.length cp) := by
 obtain ⟨rfl, h2, xs, h3, h4⟩ := h
 have hk : k < os.length := (List.getElem?_eq_some_iff.1 ho).1
 obtain ⟨ab, cb, ap, cp, hc, hr⟩ := h4 k o ho
 obtain ⟨b, off, rfl, _, hcell⟩ := h3.at (by omega)
 refine ⟨b, off, ab, cb, ap, cp, rfl, hr, hcell _ _ (hc 0 _ rfl), ?_, ?_, ?_, ?_, ?_⟩
 · rw [Nat.add_assoc]; exact hcell _ _ (hc 1 _ rfl)
 · rw [Nat.add_assoc]; exact hcell _ _ (hc 2 _ rfl)
 · rw [Nat.add_assoc]; exact hcell _ _ (hc 3 _ rfl)
 · rw [Nat.add_assoc]; exact hcell _ _ (hc 4 _ rfl)
 · rw [Nat.add_assoc]; exact hcell _ _ (hc 5 _ rfl)
def wgtW (o : OpW) : Nat := min o.b.length 20001 + min o.nm.length 20001
def wsumW (os : List OpW) : Nat := (os.map wgtW).sum
theorem wgtW_le (o : OpW) : wgtW o ≤ 40002 := by unfold wgtW; omega
theorem wsumW_le (os : List OpW) : wsumW os ≤ os.length * 40002 := by
 induction os with
 | nil => simp [wsumW]
 | cons o r ih => have := wgtW_le o; simp only [wsumW, List.map_cons, List.sum_cons, List.length_cons] at ih ⊢; omega
theorem wsumW_snoc {os : List OpW} {k : Nat} {o : OpW} (h : os[k]? = some o) : wsumW (os.take (k + 1)) = wsumW (os.take k) + wgtW o := by
 rw [List.take_add_one, h]; simp [wsumW]
theorem wgtW_mem {os : List OpW} {o : OpW} (h : o ∈ os) : wgtW o ≤ wsumW os := by
 induction os with
 | nil => cases h
 | cons y r ih =>
  simp only [wsumW, List.map_cons, List.sum_cons] at ih ⊢
  rcases List.mem_cons.1 h with rfl | h
  · omega
  · have := ih h; omega
def FewW (os : List OpW) : Prop := os.length ≤ 200 ∧ wsumW os ≤ 20000
theorem FewW.each {os : List OpW} (h : FewW os) {o : OpW} (ho : o ∈ os) : o.nm.length ≤ 20000 ∧ o.b.length ≤ 20000 := by
 have h1 := wgtW_mem ho
 have h2 := h.2
 unfold wgtW at h1
 omega
def FewWPost (w : World) (os : List OpW) (e : Ending) (w' : World) : Prop := ∃ b : Bool, e = .returned (.bool b) ∧ (b = true → FewW os) ∧ Below w.heap.size w w'
set_option maxHeartbeats 1000000 in
theorem fewW_any (a : Option Addr) (n cap : Nat) (os : List OpW) (T : Nat → Prop) (w : World) (h : RdOw w T a n cap os) : Calls Tryz.prog 12 #[.slice a n cap] w (FewWPost w os) := by
 have H0 := Lib.hid h
 have hm : n ≤ 9223372036854775807 := by obtain ⟨_, _, xs, hr, _⟩ := h; exact Nat.le_trans hr.1 hr.2.1
 have HN := Lib.hid h.1
 clear h
 go_enter Tryz.func12, Tryz.ntmps12
 go_wp2_with fail
 go_loopw [3, 4] (fun x i wr => ∃ k : Nat, k ≤ n ∧ k ≤ 200 ∧ i = .int .i64 (k : Nat) ∧ x = .int .i64 (wsumW (os.take k) : Nat) ∧ Hid (Below w.heap.size w wr)) (fun _ i _ => n - (intOf i).toNat)
 case atStart => exact ⟨0, Nat.zero_le _, Nat.zero_le _, rfl, rfl, Below.refl _ _⟩
 case round =>
  obtain ⟨k, hk, hk3, rfl, rfl, HF⟩ := hrel
  have hws : wsumW (os.take k) ≤ 8000400 := by
   have := wsumW_le (os.take k)
   rw [List.length_take] at this
   omega
  by_cases hlt : k < n
  · by_cases hl3 : k < 200
    · obtain ⟨o, ho⟩ : ∃ o, os[k]? = some o := ⟨_, List.getElem?_eq_getElem (by have := HN.out; omega)⟩
      obtain ⟨b, off, ab, cb, ap, cp, rfl, hrd, c0, c1, c2, c3, c4, c5⟩ := (H0.out.below HF.out).at ho
      have HS := Lib.hid (wsumW_snoc ho)
      have hb1 : o.b.length ≤ 9223372036854775807 := by obtain ⟨_, hr, _⟩ := hrd; exact Nat.le_trans hr.2.1 hr.2.2.1
      have hb2 := hrd.1.2.2.2
      clear ho hrd
      go_wp2_with fail
      go_quiet (fail)
      go_wp2_with fail
      go_roundw
      case rel => exact ⟨k + 1, by omega, by omega, by go_num, by rw [HS.out]; unfold wgtW; congr 1; omega, below_dn HF.out _⟩
      case measure => simp [intOf]; omega
    · have hn3 : decide ((n : Int) ≤ 200) = false := by simp; omega
      go_wp2_with fail
      go_ret
      exact ⟨_, rfl, (fun h => by cases h), HF.out⟩
  · obtain rfl : k = n := by omega
    have hfin : Hid (decide ((wsumW (os.take k) : Int) ≤ 20000) = true → FewW os) := fun h => by
     have h1 := of_decide_eq_true h
     rw [List.take_of_length_le (by have := HN.out; omega)] at h1
     exact ⟨by have := HN.out; omega, by omega⟩
    go_wp2_with fail
    go_ret
    exact ⟨_, rfl, hfin.out, HF.out⟩
/-- Operations that are handed in. -/
theorem rdOw_open {H : Type} {enc : TypeId × Value → H} {w : World} {base : Nat} {sp : Nat → Bool} {held : Bool} {fuel : Nat} {a : Option Addr} {len cap : Nat} {x : DataW H × List MemPlace}
 (h : DataW.trod enc Tryz.prog w base sp held fuel 41 (Value.slice a len cap).cells.toList = some x) : ∃ os, RdOw w (fun b => b < w.heap.size) a len cap os := by
 obtain ⟨xs, hr, m, hel⟩ := rd_open (size := 6) Tryz.underlying41 (by kernel_rfl) (by decide) h
 obtain ⟨os, h1, h2⟩ := choose_list (P := fun i (o : OpW) => ∃ ab cb ap cp, (∀ (j : Nat) (u : Value), (opwCells o ab cb ap cp)[j]? = some u → xs[i * 6 + j]? = some u) ∧ OpwRd w (fun b => b < w.heap.size) o ab cb ap cp) len fun i hi => by
  obtain ⟨y, hy⟩ := hel i hi
  obtain ⟨_, n, hf⟩ := field_of Tryz.underlying48 hy
  obtain ⟨y0, h0⟩ := hf 0 _ rfl
  obtain ⟨y1, h1⟩ := hf 1 _ rfl
  obtain ⟨y2, h2⟩ := hf 2 _ rfl
  obtain ⟨y3, h3⟩ := hf 3 _ rfl
  obtain ⟨y4, h4⟩ := hf 4 _ rfl
  obtain ⟨y5, h5⟩ := hf 5 _ rfl
  obtain ⟨k, e0, hk⟩ := int_open Tryz.underlying3 h0
  obtain ⟨nn, e1, hnn⟩ := int_open Tryz.underlying3 h1
  obtain ⟨mm, e2, hmm⟩ := int_open Tryz.underlying3 h2
  obtain ⟨ab, lb, cb, e3⟩ := slice_form Tryz.underlying24 h3
  obtain ⟨nm, e4, hnm⟩ := str_open Tryz.underlying9 h4
  obtain ⟨ap, lp, cp, e5⟩ := slice_form Tryz.underlying46 h5
  rw [e3] at h3
  rw [e5] at h5
  obtain ⟨b, hb⟩ := rd8_open (a := ab) (len := lb) (cap := cb) Tryz.underlying24 Tryz.underlying5 (by kernel_rfl) h3
  obtain ⟨p, hp⟩ := rdI_open (a := ap) (len := lp) (cap := cp) Tryz.underlying46 Tryz.underlying3 (by kernel_rfl) h5
  obtain rfl : lb = b.length := hb.1
  obtain rfl : lp = p.length := hp.1
  have c : ∀ {j : Nat} {v : Value}, j < 6 → (((xs.drop (i * 6)).take 6).drop j).take 1 = [v] → xs[i * 6 + j]? = some v := fun {j v} hj hv => by
   have := one_get hv
   rw [List.getElem?_take, if_pos hj, List.getElem?_drop] at this
   exact this
  refine ⟨⟨k, nn, mm, b, nm, p⟩, ab, cb, ap, cp, fun j u hj => ?_, ⟨hk, hnn, hmm, hnm⟩, hb, hp, hb.2.blkIn (by decide), hp.2.1.blkIn (by decide)⟩
  match j, hj with
  | 0, hj => cases hj; exact c (by decide) e0
  | 1, hj => cases hj; exact c (by decide) e1
  | 2, hj => cases hj; exact c (by decide) e2
  | 3, hj => cases hj; exact c (by decide) e3
  | 4, hj => cases hj; exact c (by decide) e4
  | 5, hj => cases hj; exact c (by decide) e5
  | j + 6, hj => simp [opwCells] at hj
 exact ⟨os, h1.symm, hr.blkIn (by decide), xs, hr, h2⟩
end Go.Proofs.YtjjcilinghgphaaGreat

/-! ### A log that did operations (opened). -/
namespace Go.Proofs.YtjjcilinghgphaaGreat
open Go.RowKit Go.Maps Go.Sort
set_option maxRecDepth 100000
attribute [local go_sem] bs_size bs_toList

/-- The sizes of segments. -/
structure SzI (g : LG) : Prop where
 pre : ∀ x ∈ g.pre, g.room ≤ (szS x : Int)
 each : ∀ x ∈ g.segs, ∀ k, k < x.rs.length → ((joinF (x.rs.take k)).length : Int) < g.room
theorem SzI.sync {s : DS} {g : LG} (h : SzI g) : SzI (syncL s g).g := by
 unfold syncL
 split <;> exact ⟨h.pre, h.each⟩
theorem SzI.turn {s : DS} {g : LG} (h : SzI g) (hr : 64 ≤ g.room) : SzI (turnL s g).g ∧ ((turnL s g).e = 0 → (szS (turnL s g).g.la : Int) < (turnL s g).g.room) := by
 by_cases hf : (szS g.la : Int) < g.room
 · rw [turnL_free hf]; exact ⟨h, fun _ => hf⟩
 · by_cases h0 : (syncL s g).e = 0
   · rw [turnL_roll hf h0]
     obtain ⟨n1, n2, n3, n4, n5⟩ := syncL_next (s := s) (g := g)
     have hs := h.sync (s := s)
     unfold rollL
     split
     · refine ⟨⟨fun x hx => ?_, fun x hx k hk => ?_⟩, fun _ => ?_⟩
       · rcases List.mem_append.1 (show x ∈ (syncL s g).g.pre ++ [(syncL s g).g.la] from hx) with hx | hx
         · exact hs.pre x hx
         · rw [List.mem_singleton] at hx
           subst hx
           show (syncL s g).g.room ≤ _
           rw [n2, n5]; omega
       · rcases List.mem_append.1 (show x ∈ ((syncL s g).g.pre ++ [(syncL s g).g.la]) ++ [(⟨g.next, []⟩ : Sg)] from hx) with hx | hx
         · exact hs.each x hx k hk
         · rw [List.mem_singleton] at hx
           subst hx
           simp at hk
       · show ((0 : Nat) : Int) < (syncL s g).g.room
         rw [n5]; omega
     · rename_i hc
       exact ⟨hs, fun e => absurd e hc⟩
   · rw [turnL_sync hf h0]; exact ⟨h.sync, fun e => absurd e h0⟩
theorem SzI.app {s : DS} {g : LG} {p : List UInt8} (h : SzI g) (hr : 64 ≤ g.room) : SzI (appL s g p).g := by
 by_cases h1 : 262144 < p.length
 · rw [(appL_long h1).1]; exact h
 · by_cases h2 : 99999999 < g.next
   · rw [(appL_range h1 h2).1]; exact h
   · obtain ⟨t1, t2⟩ := h.turn (s := s) hr
     by_cases h3 : (turnL s g).e = 0
     · rw [appL_put h1 h2 h3]
       unfold putL
       split
       · refine ⟨t1.pre, fun x hx k hk => ?_⟩
         rcases List.mem_append.1 (show x ∈ (turnL s g).g.pre ++ [(⟨(turnL s g).g.la.f, (turnL s g).g.la.rs ++ [p]⟩ : Sg)] from hx) with hx | hx
         · exact t1.each x (List.mem_append_left _ hx) k hk
         · rw [List.mem_singleton] at hx
           subst hx
           have hk' : k < ((turnL s g).g.la.rs ++ [p]).length := hk
           rw [List.length_append, List.length_singleton] at hk'
           show ((joinF (((turnL s g).g.la.rs ++ [p]).take k)).length : Int) < (turnL s g).g.room
           by_cases hkl : k < (turnL s g).g.la.rs.length
           · rw [List.take_append_of_le_length (by omega)]
             exact t1.each _ (LG.la_mem _) k hkl
           · rw [List.take_append_of_le_length (by omega), List.take_of_length_le (by omega)]
             exact t2 h3
       · exact t1
     · rw [(appL_turn h1 h2 h3).1]; exact t1
theorem appL_room {s : DS} {g : LG} {p : List UInt8} : (appL s g p).g.room = g.room ∧ (appL s g p).g.dir = g.dir := by
 have hsy : (syncL s g).g.room = g.room ∧ (syncL s g).g.dir = g.dir := ⟨(syncL_next).2.2.2.2, (syncL_next).2.2.2.1⟩
 have htu : (turnL s g).g.room = g.room ∧ (turnL s g).g.dir = g.dir := by
  unfold turnL
  split
  · exact ⟨rfl, rfl⟩
  · split
    · exact hsy
    · unfold rollL; split <;> exact hsy
 unfold appL
 split
 · exact ⟨rfl, rfl⟩
 · split
   · exact ⟨rfl, rfl⟩
   · split
     · exact htu
     · unfold putL; split <;> exact htu
/-- A log's state in the laws without falls. -/
structure FL (room : Int) (s : DS) (g : LG) : Prop where
 fre : Fre s g
 one : g.first = 1
 sz : SzI g
 rm : g.room = room
 dir : g.dir = dL
theorem FL.start {room : Int} : FL room sN (gA room [] 0) := by
 refine ⟨fre_new room, rfl, ⟨fun x hx => (by cases hx), fun x hx k hk => ?_⟩, rfl, rfl⟩
 have hx' : x ∈ [(⟨1, []⟩ : Sg)] := hx
 rw [List.mem_singleton] at hx'
 subst hx'
 simp at hk
theorem FL.sync {room : Int} {s : DS} {g : LG} (h : FL room s g) (hs : Srt s.fs) : FL room (syncL s g).s (syncL s g).g ∧ (syncL s g).g.all = g.all ∧ (syncL s g).e = 0 := by
 obtain ⟨a1, a2, a3⟩ := h.fre.sync hs
 refine ⟨⟨a2, ?_, h.sz.sync, ?_, ?_⟩, ?_, a1⟩
 · rw [a3]; exact h.one
 · rw [a3]; exact h.rm
 · rw [a3]; exact h.dir
 · rw [a3]; rfl
theorem FL.app {B : Int} {room : Int} {s : DS} {g : LG} {p : List UInt8} (h : FL room s g) (hk : LOk s g) (hd : DOk B s) : FL room (appL s g p).s (appL s g p).g ∧ (appL s g p).g.all = (if (appL s g p).e = 0 then g.all ++ [p] else g.all) ∧
 tot (appL s g p).s.fs = tot s.fs + (if (appL s g p).e = 0 then p.length + 12 else 0) ∧ ((appL s g p).e ≠ 0 → p.length ≤ 262144 → g.next ≤ 99999999 → 64 ≤ (appL s g p).s.fs.length ∨ 4194304 < p.length + 12 + tot s.fs) := by
 obtain ⟨a1, a2, a3, a4, a5⟩ := h.fre.app (p := p) (_B' := B) hk hd
 obtain ⟨b1, b2⟩ := appL_room (s := s) (g := g) (p := p)
 refine ⟨⟨a1, a5.trans h.one, h.sz.app hk.r1, b1.trans h.rm, b2.trans h.dir⟩, ?_, ?_, a2⟩
 · by_cases h0 : (appL s g p).e = 0
   · rw [if_pos h0]; exact (a3 h0).1
   · rw [if_neg h0]; exact (a4 h0).1
 · by_cases h0 : (appL s g p).e = 0
   · rw [if_pos h0]; exact (a3 h0).2
   · rw [if_neg h0]; exact (a4 h0).2
/-- The records that were taken, as the law keeps them. -/
structure AllAt (W0 w : World) (T : Nat → Prop) (v : Value) (vs : List Value) (ls : List (List UInt8)) : Prop where
 own : w.ownsRow W0.heap.size 24 1 v ls.length vs
 nt : ∀ k, v.ownBlock = some k → ¬ T k
 each : ∀ (i : Nat) (l : List UInt8), ls[i]? = some l → ∃ ai ci, vs[i]? = some (.slice ai l.length ci) ∧ Rd8 w ai l.length ci l ∧ BlkIn ai l.length fun b => b < W0.heap.size
section
variable {W0 w w' : World} {T T' : Nat → Prop} {v : Value} {vs : List Value} {ls : List (List UInt8)}
theorem AllAt.nil : AllAt W0 w T (.slice none 0 0) [] [] := ⟨World.ownsRow_nil _ _ _ _, fun k hk => (by simp [Value.ownBlock] at hk), fun i l h => by simp at h⟩
theorem AllAt.ext (h : AllAt W0 w T v vs ls) (ht : ∀ k, T k → W0.heap.size ≤ k) (he : Ext T w T' w') : AllAt W0 w' T' v vs ls := by
 refine ⟨ownsRow_keep h.own fun k hk => he.1.block k (World.ownsRow.lt h.own k hk).2 (h.nt k hk), fun k hk e => ?_, fun i l hl => ?_⟩
 · rcases he.2 k e with e | e
   · exact h.nt k hk e
   · have := (World.ownsRow.lt h.own k hk).2; omega
 · obtain ⟨ai, ci, h1, h2, h3⟩ := h.each i l hl
   exact ⟨ai, ci, h1, h2.keep0 he.1 fun h0 b hb e => by have := h3 h0 b hb; have := ht b e; omega, h3⟩
theorem AllAt.new (h : AllAt W0 w T v vs ls) (hb : Below w.heap.size w w') : AllAt W0 w' T v vs ls :=
 ⟨ownsRow_keep h.own fun k hk => hb.block k (World.ownsRow.lt h.own k hk).2, h.nt, fun i l hl => by
  obtain ⟨ai, ci, h1, h2, h3⟩ := h.each i l hl
  exact ⟨ai, ci, h1, h2.below hb, h3⟩⟩
theorem AllAt.rd (h : AllAt W0 w T v vs ls) : ∃ a cap, v = .slice a ls.length cap ∧ Rd88 w a ls.length cap ls := by
 obtain ⟨a, cap, hv, hr⟩ := Rd.of_own h.own
 exact ⟨a, cap, hv, rfl, vs, hr, fun i l hl => by obtain ⟨ai, ci, h1, h2, _⟩ := h.each i l hl; exact ⟨ai, ci, h1, h2⟩⟩
/-- One more. -/
theorem AllAt.snoc {w2 : World} {v' : Value} {ai : Option Addr} {ci : Nat} {l : List UInt8} (h : AllAt W0 w T v vs ls) (ht : ∀ k, T k → k < w.heap.size) (h8 : Rd8 w ai l.length ci l) (hb8 : BlkIn ai l.length fun b => b < W0.heap.size)
 (hY : Below w.heap.size w w') (hown : w2.ownsRow W0.heap.size 24 1 v' (ls.length + 1) (vs ++ [.slice ai l.length ci])) (hg : w'.grownBy w2 v.ownBlock) (hbk : v'.ownBlock = v.ownBlock ∨ v'.ownBlock = some w'.heap.size) : AllAt W0 w2 T v' (vs ++ [.slice ai l.length ci]) (ls ++ [l]) := by
 have hvl : vs.length = ls.length := by have := h.own.1; omega
 have hs := hY.size
 have hfr : Fr (fun k => v.ownBlock = some k) w w2 := (Fr.of_new hY).grown hg (fun k _ e => e)
 have hkeep : ∀ {a : Option Addr} {n c : Nat} {m : List UInt8}, Rd8 w a n c m → (BlkIn a n fun b => b < W0.heap.size) → Rd8 w2 a n c m := fun hr hb => hr.keep0 hfr fun h0 b hb' e => by
  have h1 := hb h0 b hb'
  have h2 := (World.ownsRow.lt h.own b e).1
  omega
 refine ⟨by simpa using hown, fun k hk e => ?_, fun i m hm => ?_⟩
 · rcases hbk with e' | e'
   · rw [e'] at hk; exact h.nt k hk e
   · rw [e'] at hk; cases hk; have := ht _ e; omega
 · by_cases hi : i < ls.length
   · rw [List.getElem?_append_left hi] at hm
     obtain ⟨a, c, h1, h2, h3⟩ := h.each i m hm
     exact ⟨a, c, by rw [List.getElem?_append_left (by omega)]; exact h1, hkeep h2 h3, h3⟩
   · rw [List.getElem?_append_right (by omega)] at hm
     have hl := (List.getElem?_eq_some_iff.1 hm).1
     rw [List.length_singleton] at hl
     have hi2 : i = ls.length := by omega
     subst hi2
     simp at hm
     subst hm
     exact ⟨ai, ci, by rw [List.getElem?_append_right (by omega), hvl]; simp, hkeep h8 hb8, hb8⟩
end
theorem LL.beside {W0 W W' : World} {B : Int} {d l : Nat} {T S' : Nat → Prop} {s : DS} {g : LG} (h : LL W0 B d l T s g W) (hf : Fr S' W W') (hn : ∀ k, T k → ¬ S' k) (hl : ∀ k, S' k → W0.heap.size ≤ k) : LL W0 B d l T s g W' := by
 obtain ⟨Sd, Sl, q1, q2, q3, q4, q5, q6⟩ := h.lw
 exact ⟨⟨Sd, Sl, q1.keep hf fun k hk => hn k (q4 k hk), LgG.keep q2 hf fun k hk => hn k (q5 k hk), q3, q4, q5, fun k hk => Nat.lt_of_lt_of_le (q6 k hk) hf.size⟩, h.t0, fr_below hf hl h.bl, h.ok⟩
def OpenedWPost (w : World) (seg : Int) (e : Ending) (w' : World) : Prop :=
 ∃ d l T s g v vs, e = .returned (.tuple #[.pointer (some ⟨d, 0, none⟩), .pointer (some ⟨l, 0, none⟩), v]) ∧ LL w 1000 d l T s g w' ∧ FL seg s g ∧ AllAt w w' T v vs g.all
end Go.Proofs.YtjjcilinghgphaaGreat

/-! ### Two lists of rows compared (raceref.Rows). -/
namespace Go.Proofs.YtjjcilinghgphaaGreat
open Go.RowKit
set_option maxRecDepth 100000
attribute [local go_sem] bs_toList
theorem Own88.cell {w : World} {base : Nat} {v : Value} {vs : List Value} {ls : List (List UInt8)} (h : Own88 w base v vs ls) {k : Nat} {p : List UInt8} (hk : ls[k]? = some p) :
 ∃ u, vs[k]? = some u ∧ Own8 w base 5 u p := by
 have hl : vs.length = ls.length := by simpa using h.1.1
 have hlt : k < ls.length := by
  rcases Nat.lt_or_ge k ls.length with h | h
  · exact h
  · rw [List.getElem?_eq_none h] at hk; cases hk
 exact ⟨vs[k]'(by omega), List.getElem?_eq_getElem (by omega), h.2.1 k _ _ (List.getElem?_eq_getElem (by omega)) hk⟩

theorem Own88.rd {w : World} {base : Nat} {v : Value} {vs : List Value} {ls : List (List UInt8)} (h : Own88 w base v vs ls) : ∃ a cap, v = .slice a ls.length cap ∧ Rd88 w a ls.length cap ls := by
 obtain ⟨a, cap, hv, hr⟩ := Rd.of_own h.1
 refine ⟨a, cap, hv, rfl, vs, hr, fun i l hl => ?_⟩
 obtain ⟨u, hu, hou⟩ := h.cell hl
 obtain ⟨ai, ci, rfl, hri⟩ := hou.rd
 exact ⟨ai, ci, hu, hri⟩
def eqTo (l m : List (List UInt8)) (k : Nat) : Prop := ∀ i, i < k → l.getD i [] = m.getD i []
theorem eqTo_all {l m : List (List UInt8)} (hl : l.length = m.length) (h : eqTo l m l.length) : l = m := by
 apply List.ext_getElem hl
 intro i h1 h2
 have := h i h1
 simpa [List.getD, h1, h2] using this

set_option maxHeartbeats 800000 in
theorem wrows_any (a a' : Option Addr) (n n' cap cap' : Nat) (l m : List (List UInt8)) (w : World) (h : Rd88 w a n cap l) (h' : Rd88 w a' n' cap' m) :
 Calls Tryz.prog 46 #[.slice a n cap, .slice a' n' cap'] w fun e w' => e = .returned (.bool (l == m)) ∧ ∃ nd, w' = w.drewN nd := by
 have hR := h
 have hR' := h'
 obtain ⟨rfl, vs, hr, _⟩ := h
 obtain ⟨rfl, vs', hr', _⟩ := h'
 have hm := hr.2.1
 have hnc := hr.1
 have hm' := hr'.2.1
 have hnc' := hr'.1
 unfold maxLen at hm hm'
 clear hr hr'
 by_cases hlen : l.length = m.length
 · have hne : ((l.length : Int) == m.length) = true := beq_iff_eq.2 (by omega)
   have hne' : ((l.length : Int) != m.length) = false := by rw [bne, hne]; rfl
   have Hlen := Lib.hid hlen; clear hlen
   go_enter Tryz.func46, Tryz.ntmps46
   go_wp2_with fail
   go_loopw [5] (fun i wr => ∃ k nd : Nat, k ≤ l.length ∧ i = .int .i64 k ∧ eqTo l m k ∧ wr = w.drewN nd) (fun i _ => l.length - (intOf i).toNat)
   case atStart => exact ⟨0, 0, Nat.zero_le _, rfl, fun i h => by omega, rfl⟩
   case round =>
    obtain ⟨k, nd, hk, rfl, heq, rfl⟩ := hrel
    have Heq := Lib.hid heq; clear heq
    by_cases hlt : k < l.length
    · have hlt' : k < m.length := by rw [← Hlen.out]; exact hlt
      obtain ⟨b, off, ai, ci, rfl, hb, hc, hri⟩ := hR.cell hlt
      obtain ⟨b', off', ai', ci', rfl, hb', hc', hri'⟩ := hR'.cell hlt'
      have k1 : ∀ n, (convert 24 9 (.slice ai (l.getD k []).length ci)).run Tryz.prog (w.drewN n) = .ok (.string (bs (l.getD k []))) (w.drewN n) := fun n => run_toStr (P := Tryz.prog) (hri.below (below_dn (Below.refl _ _) n)) 24 5 9 Tryz.underlying24 Tryz.underlying5 Tryz.underlying9
      have k2 : ∀ n, (convert 24 9 (.slice ai' (m.getD k []).length ci')).run Tryz.prog (w.drewN n) = .ok (.string (bs (m.getD k []))) (w.drewN n) := fun n => run_toStr (P := Tryz.prog) (hri'.below (below_dn (Below.refl _ _) n)) 24 5 9 Tryz.underlying24 Tryz.underlying5 Tryz.underlying9
      have i1 : (k : Int) < l.length := by omega
      have i2 : (k : Int) < m.length := by omega
      have Hx : Hid (l.getD k [] = l.getD k []) := rfl
      generalize hx : l.getD k [] = x at *
      generalize hy : m.getD k [] = y at *
      have Hx := Lib.hid hx
      have Hy := Lib.hid hy
      clear hx hy hri hri'
      by_cases hxy : x = y
      · have e1 : (x == y) = true := beq_iff_eq.2 hxy
        have Hn : Hid (eqTo l m (k + 1)) := fun i hi => by
         rcases Nat.lt_or_ge i k with h | h
         · exact Heq.out i h
         · obtain rfl : i = k := by omega
           rw [Hx.out, Hy.out]; exact hxy
        clear hxy
        go_wp2_with fail
        go_quiet (fail)
        go_wp2
        go_roundw
        case rel => exact ⟨k + 1, _, by omega, by go_num, Hn.out, rfl⟩
        case measure => simp [intOf]; omega
      · have e1 : (x == y) = false := beq_eq_false_iff_ne.2 hxy
        have Hf : Hid ((l == m) = false) := by
         refine beq_eq_false_iff_ne.2 fun e => hxy ?_
         rw [← Hx.out, ← Hy.out, e]
        clear hxy
        go_wp2_with fail
        go_quiet (fail)
        go_wp2
        go_ret
        exact ⟨by rw [Hf.out]; rfl, nd + nq, World.drewN_drewN _ _ _⟩
    · obtain rfl : k = l.length := by omega
      have Hf : Hid ((l == m) = true) := beq_iff_eq.2 (eqTo_all Hlen.out Heq.out)
      go_wp2
      go_ret
      exact ⟨by rw [Hf.out]; rfl, nd, rfl⟩
 · have hne : ((l.length : Int) == m.length) = false := beq_eq_false_iff_ne.2 (by omega)
   have hne' : ((l.length : Int) != m.length) = true := by rw [bne, hne]; rfl
   have Hf : Hid ((l == m) = false) := beq_eq_false_iff_ne.2 fun e => hlen (by rw [e])
   clear hlen
   go_enter Tryz.func46, Tryz.ntmps46
   go_wp2
   go_ret
   exact ⟨by rw [Hf.out]; rfl, 0, rfl⟩

/-! ### few, joined -/
end Go.Proofs.YtjjcilinghgphaaGreat
