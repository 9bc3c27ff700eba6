/-
 Plain laws: a log over a disk (chapter 7): its segments, what its operations do and answer. No program in sight.
-/
import Derived.Test.YtjjcilinghgphaaGreatV0
import Derived.Test.YtjjcilinghgphaaGreatF0b
import Derived.Test.YtjjcilinghgphaaGreatEY
namespace Go.Proofs.YtjjcilinghgphaaGreat
set_option maxRecDepth 100000
open Go.RowKit

/-- A segment: its first record's number, its records. -/
structure Sg where
 f : Nat
 rs : List (List UInt8)
/-- A log: where it lies, its segments' room, the segments ahead of the last one, the last one, the last safe record's number as it is kept. -/
structure LG where
 dir : List UInt8
 room : Int
 pre : List Sg
 la : Sg
 sf : Nat
def LG.segs (g : LG) : List Sg := g.pre ++ [g.la]
def LG.first (g : LG) : Nat := (g.pre.head?.getD g.la).f
def LG.next (g : LG) : Nat := g.la.f + g.la.rs.length
def LG.safe (g : LG) : Nat := max g.sf (g.first - 1)
def LG.lnm (g : LG) : List UInt8 := segN g.dir g.la.f
/-- All records. -/
def allR (l : List Sg) : List (List UInt8) := (l.map Sg.rs).flatten
def LG.all (g : LG) : List (List UInt8) := allR g.segs
/-- How many bytes a segment's file has. -/
def szS (x : Sg) : Nat := (joinF x.rs).length
/-- What an operation leaves, and its error. -/
structure LR where
 s : DS
 g : LG
 e : Int
def syncL (s : DS) (g : LG) : LR := if (syncS s g.lnm).2 = 0 then ⟨(syncS s g.lnm).1, { g with sf := g.next - 1 }, 0⟩ else ⟨(syncS s g.lnm).1, g, (syncS s g.lnm).2⟩
def rollL (s : DS) (g : LG) (n : Nat) : LR := if (createS s (segN g.dir n)).2 = 0 then ⟨(createS s (segN g.dir n)).1, { g with pre := g.pre ++ [g.la], la := ⟨n, []⟩ }, 0⟩ else ⟨(createS s (segN g.dir n)).1, g, (createS s (segN g.dir n)).2⟩
def putL (s : DS) (g : LG) (p : List UInt8) : LR := if (appendS s g.lnm (frameOf p)).2 = 0 then ⟨(appendS s g.lnm (frameOf p)).1, { g with la := ⟨g.la.f, g.la.rs ++ [p]⟩ }, 0⟩ else ⟨(appendS s g.lnm (frameOf p)).1, g, (appendS s g.lnm (frameOf p)).2⟩
/-- The last segment has the bytes that a segment asks: it is synced, the next one is made. -/
def turnL (s : DS) (g : LG) : LR :=
 if (szS g.la : Int) < g.room then ⟨s, g, 0⟩ else if (syncL s g).e ≠ 0 then syncL s g else rollL (syncL s g).s (syncL s g).g (syncL s g).g.next
def appL (s : DS) (g : LG) (p : List UInt8) : LR :=
 if 262144 < p.length then ⟨s, g, 2⟩ else if 99999999 < g.next then ⟨s, g, 1⟩ else if (turnL s g).e ≠ 0 then turnL s g else putL (turnL s g).s (turnL s g).g p
/-- Which number an Append answers. -/
def appN (s : DS) (g : LG) (p : List UInt8) : Int := if (appL s g p).e = 0 then (g.next : Nat) else 0
/-- Trim, over the segments ahead of the last one. -/
def trimP (dir : List UInt8) (la : Sg) (below : Int) : DS → List Sg → DS × List Sg × Int
 | s, [] => (s, [], 0)
 | s, x :: r => if ((r.head?.getD la).f : Int) ≤ below then
  (if (removeS s (segN dir x.f)).2 = 0 then trimP dir la below (removeS s (segN dir x.f)).1 r else ((removeS s (segN dir x.f)).1, x :: r, (removeS s (segN dir x.f)).2)) else (s, x :: r, 0)
def trimL (s : DS) (g : LG) (below : Int) : LR := ⟨(trimP g.dir g.la below s g.pre).1, { g with pre := (trimP g.dir g.la below s g.pre).2.1 }, (trimP g.dir g.la below s g.pre).2.2⟩
def hasL (g : LG) (n : Int) : Bool := decide ((g.first : Int) ≤ n) && decide (n < (g.next : Nat))
def recL (g : LG) (n : Int) : List UInt8 := g.all.getD (n.toNat - g.first) []
def mayL (g : LG) (n : Int) : Bool := decide ((g.first : Int) ≤ n) && decide (n ≤ (g.safe : Nat) + 1)
def manyL (g : LG) (n most : Int) : Nat := (min (max most 0) ((g.safe : Nat) + 1 - n)).toNat
def fromL (g : LG) (n most : Int) : List (List UInt8) := (g.all.drop (n.toNat - g.first)).take (manyL g n most)

/-! ### Open -/
def segF (dir : List UInt8) (fs : List Fl) : List Fl := fs.filter fun f => decide (0 < numS dir f.nm)
def sgOf (dir : List UInt8) (f : Fl) : Sg := ⟨numS dir f.nm, (scan f.dt).1⟩
def linkB (dir : List UInt8) (a b : Fl) : Bool := (a.dt.length == (scan a.dt).2) && (numS dir b.nm == numS dir a.nm + (scan a.dt).1.length)
def linksB (dir : List UInt8) : List Fl → Bool
 | [] => true
 | [_] => true
 | a :: b :: r => linkB dir a b && linksB dir (b :: r)
def mendS (s : DS) (f : Fl) : DS × Int := if (scan f.dt).2 < f.dt.length then cutS s f.nm ((scan f.dt).2 : Nat) else (s, 0)
structure OR where
 s : DS
 g : Option LG
 e : Int
def openN (s : DS) (dir : List UInt8) (room : Int) : OR := if (createS s (segN dir 1)).2 = 0 then ⟨(createS s (segN dir 1)).1, some ⟨dir, room, [], ⟨1, []⟩, 0⟩, 0⟩ else ⟨(createS s (segN dir 1)).1, none, (createS s (segN dir 1)).2⟩
def joinedG (dir : List UInt8) (room : Int) (pre : List Fl) (f : Fl) : LG := ⟨dir, room, pre.map (sgOf dir), sgOf dir f, 0⟩
def openM (s : DS) (dir : List UInt8) (room : Int) (pre : List Fl) (f : Fl) : OR :=
 if (mendS s f).2 ≠ 0 then ⟨(mendS s f).1, none, (mendS s f).2⟩ else
 if (syncL (mendS s f).1 (joinedG dir room pre f)).e ≠ 0 then ⟨(syncL (mendS s f).1 (joinedG dir room pre f)).s, none, (syncL (mendS s f).1 (joinedG dir room pre f)).e⟩ else
 ⟨(syncL (mendS s f).1 (joinedG dir room pre f)).s, some (syncL (mendS s f).1 (joinedG dir room pre f)).g, 0⟩
def openA (dir : List UInt8) (room : Int) (s : DS) : Int := if dir.length < 1 ∨ 11 < dir.length then 10 else if room < 64 ∨ 262144 < room then 1 else if s.dn then 12 else 0
def openL (s : DS) (dir : List UInt8) (room : Int) : OR :=
 if openA dir room s ≠ 0 then ⟨s, none, openA dir room s⟩ else
 match (segF dir s.fs).getLast? with
 | none => openN s dir room
 | some f => if linksB dir (segF dir s.fs) = false then ⟨s, none, 13⟩ else openM s dir room (segF dir s.fs).dropLast f

/-! ### what stands -/
def ChainS : List Sg → Prop
 | [] => True
 | [_] => True
 | a :: b :: r => b.f = a.f + a.rs.length ∧ ChainS (b :: r)
structure SgOk (x : Sg) : Prop where
 f1 : 1 ≤ x.f
 f2 : x.f ≤ 99999999
 sz : szS x ≤ 4194304
/-- What holds of a log beside its disk. -/
structure LOk (s : DS) (g : LG) : Prop where
 d1 : 1 ≤ g.dir.length
 d2 : g.dir.length ≤ 11
 r1 : 64 ≤ g.room
 r2 : g.room ≤ 262144
 num : ∀ x ∈ g.segs, SgOk x
 chain : ChainS g.segs
 rise : g.segs.Pairwise fun a b => a.f < b.f
 dat : s.dn = false → (getF g.lnm s.fs).map Fl.dt = some (joinF g.la.rs)
 sfl : g.sf < g.next

/-! ### writes -/
theorem errW_keep {s : DS} {e : Int} {g : DS → DS} (h : (errW s e g).2 ≠ 0) : (errW s e g).1.fs = s.fs ∧ ((errW s e g).1.dn = false → s.dn = false) := by
 refine ⟨errW_fs h, fun hd => ?_⟩
 unfold errW at hd
 split at hd
 · exact hd
 · simp_all
theorem errW_did {s : DS} {e : Int} {g : DS → DS} (h : (errW s e g).2 = 0) : s.dn = false ∧ e = 0 ∧ (errW s e g).1 = g (fallS s).1 ∧ (fallS s).1.fs = s.fs := by
 obtain ⟨h1, h2, h3⟩ := errW_zero h
 exact ⟨h1, h2, h3, fallS_fs s⟩
theorem joinF_one (p : List UInt8) : joinF [p] = frameOf p := by simp [joinF]
theorem joinF_snoc (l : List (List UInt8)) (p : List UInt8) : joinF (l ++ [p]) = joinF l ++ frameOf p := by rw [joinF_append, joinF_one]
theorem joinF_ge (l : List (List UInt8)) : 12 * l.length ≤ (joinF l).length := by
 induction l with
 | nil => simp
 | cons p r ih =>
  show _ ≤ (frameOf p ++ joinF r).length
  rw [List.length_append, frameOf_length, List.length_cons]
  omega
theorem SgOk.len {x : Sg} (h : SgOk x) : x.rs.length ≤ 349525 := by
 have h1 := joinF_ge x.rs
 have h2 := h.sz
 unfold szS at h2
 omega
theorem LG.la_mem (g : LG) : g.la ∈ g.segs := by simp [LG.segs]
section
variable {s : DS} {g : LG}
theorem LOk.la (h : LOk s g) : SgOk g.la := h.num _ g.la_mem
theorem LOk.next_le (h : LOk s g) : g.next ≤ 100349524 := by
 have h1 := h.la.f2
 have h2 := h.la.len
 unfold LG.next
 omega
theorem LOk.next_pos (h : LOk s g) : 1 ≤ g.next := by
 have h1 := h.la.f1
 unfold LG.next
 omega
theorem rise_len : ∀ {l : List Sg} {m : Nat}, l.Pairwise (fun a b => a.f < b.f) → (∀ x ∈ l, m ≤ x.f ∧ x.f ≤ 99999999) → l.length + m ≤ 100000000 ∨ l = []
 | [], _, _, _ => .inr rfl
 | x :: r, m, h, hb => by
  obtain ⟨h1, h2⟩ := List.pairwise_cons.1 h
  have hx := hb x (by simp)
  refine .inl ?_
  rcases rise_len (m := x.f + 1) h2 (fun y hy => ⟨h1 y hy, (hb y (by simp [hy])).2⟩) with h3 | rfl
  · rw [List.length_cons]; omega
  · rw [List.length_cons, List.length_nil]; omega
theorem LOk.len (h : LOk s g) : g.segs.length ≤ 100000000 := by
 rcases rise_len h.rise (m := 1) fun x hx => ⟨(h.num x hx).f1, (h.num x hx).f2⟩ with h1 | h1
 · omega
 · rw [h1]; exact Nat.zero_le _
theorem LOk.pre_len (h : LOk s g) : g.pre.length < 100000000 := by
 have := h.len
 unfold LG.segs at this
 rw [List.length_append, List.length_singleton] at this
 omega
theorem chain_all : ∀ {l : List Sg} {a : Sg}, ChainS (l ++ [a]) → (allR (l ++ [a])).length + ((l ++ [a]).head?.getD a).f = a.f + a.rs.length
 | [], a, _ => by simp [allR]; omega
 | [x], a, h => by
  have h1 := h.1
  simp [allR]
  omega
 | x :: y :: r, a, h => by
  have ih := chain_all (l := y :: r) h.2
  have h1 := h.1
  simp only [List.cons_append, List.head?_cons, Option.getD_some] at ih ⊢
  have : allR (x :: y :: (r ++ [a])) = x.rs ++ allR (y :: (r ++ [a])) := by simp [allR]
  rw [this, List.length_append]
  omega
theorem LG.first_eq (g : LG) : (g.segs.head?.getD g.la).f = g.first := by
 unfold LG.segs LG.first
 cases g.pre <;> rfl
theorem LOk.all_len (h : LOk s g) : g.all.length + g.first = g.next := by
 have := chain_all (l := g.pre) (a := g.la) h.chain
 rw [← g.first_eq]
 exact this
theorem LOk.first_pos (h : LOk s g) : 1 ≤ g.first := by
 rw [← g.first_eq]
 refine (h.num _ ?_).f1
 unfold LG.segs
 cases g.pre <;> simp
theorem LOk.safe_lt (h : LOk s g) : g.safe < g.next := by
 have h1 := h.sfl
 have h2 := h.all_len
 have h3 := h.first_pos
 unfold LG.safe
 omega

theorem LOk.sync (h : LOk s g) : LOk (syncL s g).s (syncL s g).g := by
 have hp := h.next_pos
 by_cases h0 : (syncS s g.lnm).2 = 0
 · have e : syncL s g = ⟨(syncS s g.lnm).1, { g with sf := g.next - 1 }, 0⟩ := by unfold syncL; rw [if_pos h0]
   rw [e]
   obtain ⟨k1, k2, k3, k4⟩ := errW_did h0
   refine ⟨h.d1, h.d2, h.r1, h.r2, h.num, h.chain, h.rise, fun _ => ?_, ?_⟩
   · show (getF g.lnm (errW s (hasE s g.lnm) _).1.fs).map Fl.dt = _
     rw [k3]
     show (getF g.lnm (updF g.lnm _ (fallS s).1.fs)).map Fl.dt = _
     rw [k4]
     have hd := h.dat k1
     cases hf : getF g.lnm s.fs with
     | none => rw [hf] at hd; cases hd
     | some f =>
      rw [get_upd (fun f => ⟨f.nm, f.dt, f.dt.length⟩) (fun _ => rfl) hf]
      rw [hf] at hd
      exact hd
   · show g.next - 1 < g.next
     omega
 · have e : syncL s g = ⟨(syncS s g.lnm).1, g, (syncS s g.lnm).2⟩ := by unfold syncL; rw [if_neg h0]
   rw [e]
   obtain ⟨k1, k2⟩ := errW_keep h0
   exact ⟨h.d1, h.d2, h.r1, h.r2, h.num, h.chain, h.rise, fun hd => by
    show (getF g.lnm (errW s (hasE s g.lnm) _).1.fs).map Fl.dt = _
    rw [k1]; exact h.dat (k2 hd), h.sfl⟩
theorem chain_snoc : ∀ {l : List Sg} {a b : Sg}, ChainS (l ++ [a]) → b.f = a.f + a.rs.length → ChainS (l ++ [a] ++ [b])
 | [], a, b, _, h => ⟨h, trivial⟩
 | [x], a, b, h, h' => ⟨h.1, h', trivial⟩
 | x :: y :: r, a, b, h, h' => ⟨h.1, chain_snoc (l := y :: r) h.2 h'⟩
theorem rise_snoc {l : List Sg} {a b : Sg} (h : (l ++ [a]).Pairwise fun a b => a.f < b.f) (hb : a.f < b.f) : (l ++ [a] ++ [b]).Pairwise fun a b => a.f < b.f := by
 refine List.pairwise_append.2 ⟨h, by simp, fun x hx y hy => ?_⟩
 rw [List.mem_singleton] at hy
 subst hy
 rcases List.mem_append.1 hx with hx | hx
 · exact Nat.lt_trans ((List.pairwise_append.1 h).2.2 x hx a (by simp)) hb
 · rw [List.mem_singleton] at hx; subst hx; exact hb
theorem LOk.roll (h : LOk s g) (hn : g.next ≤ 99999999) (hr : 0 < g.la.rs.length) : LOk (rollL s g g.next).s (rollL s g g.next).g := by
 by_cases h0 : (createS s (segN g.dir g.next)).2 = 0
 · have e : rollL s g g.next = ⟨(createS s (segN g.dir g.next)).1, { g with pre := g.pre ++ [g.la], la := ⟨g.next, []⟩ }, 0⟩ := by unfold rollL; rw [if_pos h0]
   rw [e]
   obtain ⟨k1, k2, k3, k4⟩ := errW_did h0
   have hp := h.next_pos
   refine ⟨h.d1, h.d2, h.r1, h.r2, fun x hx => ?_, chain_snoc (b := ⟨g.next, []⟩) h.chain rfl, rise_snoc h.rise (by show g.la.f < g.next; unfold LG.next; omega), fun _ => ?_, ?_⟩
   · rcases List.mem_append.1 (show x ∈ g.pre ++ [g.la] ++ [⟨g.next, []⟩] from hx) with hx | hx
     · exact h.num x hx
     · rw [List.mem_singleton] at hx
       subst hx
       exact ⟨hp, hn, by unfold szS; simp [joinF]⟩
   · show (getF (segN g.dir g.next) (errW s (creE s (segN g.dir g.next)) _).1.fs).map Fl.dt = _
     rw [k3]
     show (getF (segN g.dir g.next) (insF ⟨segN g.dir g.next, [], 0⟩ (fallS s).1.fs)).map Fl.dt = _
     rw [k4]
     have hg : getF (segN g.dir g.next) s.fs = none := by
      unfold creE at k2
      split at k2
      · cases k2
      · split at k2
        · cases k2
        · exact getF_isSome_false (by assumption)
     rw [get_ins_same (f := ⟨segN g.dir g.next, [], 0⟩) (fun f hf => getF_none hg f hf)]
     rfl
   · show g.sf < g.next + 0
     exact h.sfl
 · have e : rollL s g g.next = ⟨(createS s (segN g.dir g.next)).1, g, (createS s (segN g.dir g.next)).2⟩ := by unfold rollL; rw [if_neg h0]
   rw [e]
   obtain ⟨k1, k2⟩ := errW_keep h0
   exact ⟨h.d1, h.d2, h.r1, h.r2, h.num, h.chain, h.rise, fun hd => by
    show (getF g.lnm (errW s (creE s (segN g.dir g.next)) _).1.fs).map Fl.dt = _
    rw [k1]; exact h.dat (k2 hd), h.sfl⟩
theorem chain_last : ∀ {l : List Sg} {a b : Sg}, ChainS (l ++ [a]) → b.f = a.f → ChainS (l ++ [b])
 | [], a, b, _, h => trivial
 | [x], a, b, h, h' => ⟨h'.trans h.1, trivial⟩
 | x :: y :: r, a, b, h, h' => ⟨h.1, chain_last (l := y :: r) h.2 h'⟩
theorem rise_last {l : List Sg} {a b : Sg} (h : (l ++ [a]).Pairwise fun a b => a.f < b.f) (hb : b.f = a.f) : (l ++ [b]).Pairwise fun a b => a.f < b.f := by
 obtain ⟨h1, h2, h3⟩ := List.pairwise_append.1 h
 refine List.pairwise_append.2 ⟨h1, by simp, fun x hx y hy => ?_⟩
 rw [List.mem_singleton] at hy
 subst hy
 rw [hb]
 exact h3 x hx a (by simp)
theorem appendS_cases (s : DS) (n b : List UInt8) : ((appendS s n b).2 = 0 → s.dn = false ∧ appE s n b = 0 ∧ (fallS s).2 = false ∧ (appendS s n b).1 = { (fallS s).1 with fs := updF n (fun f => ⟨f.nm, f.dt ++ b, f.sf⟩) s.fs }) ∧
 ((appendS s n b).2 ≠ 0 → ((appendS s n b).1 = s ∨ ((appendS s n b).1.dn = true ∧ s.dn = false ∧ (appendS s n b).1 = { (fallS s).1 with fs := updF n (fun f => ⟨f.nm, f.dt ++ b, f.sf⟩) s.fs }))) := by
 unfold appendS
 by_cases h : appE s n b = 0
 · rw [if_neg (by rw [h]; simp)]
   have hdn : s.dn = false := by
    unfold appE at h
    split at h
    · cases h
    · simpa using ‹¬ s.dn = true›
   cases hf : (fallS s).2 with
   | false => exact ⟨fun _ => ⟨hdn, h, rfl, rfl⟩, fun h2 => absurd rfl h2⟩
   | true =>
    refine ⟨fun h2 => (by cases h2), fun _ => .inr ⟨?_, hdn, rfl⟩⟩
    show (fallS s).1.dn = true
    unfold fallS at hf ⊢
    split at hf
    · split at hf
      · rw [if_pos (by assumption), if_pos (by assumption)]
      · cases hf
    · cases hf
 · rw [if_pos h]
   exact ⟨fun h2 => absurd h2 h, fun _ => .inl rfl⟩
theorem LOk.put {B : Int} (hd : DOk B s) (h : LOk s g) (p : List UInt8) : LOk (putL s g p).s (putL s g p).g := by
 obtain ⟨c1, c2⟩ := appendS_cases s g.lnm (frameOf p)
 by_cases h0 : (appendS s g.lnm (frameOf p)).2 = 0
 · have e : putL s g p = ⟨(appendS s g.lnm (frameOf p)).1, { g with la := ⟨g.la.f, g.la.rs ++ [p]⟩ }, 0⟩ := by unfold putL; rw [if_pos h0]
   rw [e]
   obtain ⟨k1, k2, k3, k4⟩ := c1 h0
   have hda := h.dat k1
   cases hf : getF g.lnm s.fs with
   | none => rw [hf] at hda; cases hda
   | some f =>
    rw [hf] at hda
    have hda' : f.dt = joinF g.la.rs := by simpa using hda
    have hsz : szS ⟨g.la.f, g.la.rs ++ [p]⟩ ≤ 4194304 := by
     have h1 := dt_le_tot (getF_some hf).1
     unfold appE at k2
     rw [k1, if_neg (by simp), hf, if_neg (by simp)] at k2
     split at k2
     · cases k2
     · unfold szS
       rw [joinF_snoc, List.length_append, ← hda']
       omega
    refine ⟨h.d1, h.d2, h.r1, h.r2, fun x hx => ?_, chain_last (b := ⟨g.la.f, g.la.rs ++ [p]⟩) h.chain rfl, rise_last (b := ⟨g.la.f, g.la.rs ++ [p]⟩) h.rise rfl, fun _ => ?_, ?_⟩
    · rcases List.mem_append.1 (show x ∈ g.pre ++ [⟨g.la.f, g.la.rs ++ [p]⟩] from hx) with hx | hx
      · exact h.num x (List.mem_append_left _ hx)
      · rw [List.mem_singleton] at hx
        subst hx
        exact ⟨h.la.f1, h.la.f2, hsz⟩
    · show (getF g.lnm (appendS s g.lnm (frameOf p)).1.fs).map Fl.dt = some (joinF (g.la.rs ++ [p]))
      rw [k4]
      show (getF g.lnm (updF g.lnm _ s.fs)).map Fl.dt = _
      rw [get_upd (fun f => ⟨f.nm, f.dt ++ frameOf p, f.sf⟩) (fun _ => rfl) hf, joinF_snoc, ← hda']
      rfl
    · have := h.sfl
      show g.sf < g.la.f + (g.la.rs ++ [p]).length
      rw [List.length_append]
      unfold LG.next at this
      omega
 · have e : putL s g p = ⟨(appendS s g.lnm (frameOf p)).1, g, (appendS s g.lnm (frameOf p)).2⟩ := by unfold putL; rw [if_neg h0]
   rw [e]
   refine ⟨h.d1, h.d2, h.r1, h.r2, h.num, h.chain, h.rise, fun hdn => ?_, h.sfl⟩
   rcases c2 h0 with k | ⟨k, _⟩
   · show (getF g.lnm (appendS s g.lnm (frameOf p)).1.fs).map Fl.dt = _
     have hdn' : (appendS s g.lnm (frameOf p)).1.dn = false := hdn
     rw [k] at hdn' ⊢
     exact h.dat hdn'
   · have hdn' : (appendS s g.lnm (frameOf p)).1.dn = false := hdn
     rw [k] at hdn'; cases hdn'
end
end Go.Proofs.YtjjcilinghgphaaGreat
