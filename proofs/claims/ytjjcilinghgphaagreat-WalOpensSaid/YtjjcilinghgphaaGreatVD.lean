/-
 Plain laws: a log on a disk of its own, with neither falls nor crashes.
 A log within a law: its blocks are the law's own; what its operations leave.
-/
import Derived.Test.YtjjcilinghgphaaGreatVC
/-! ### Plain laws: a log on a disk of its own, with neither falls nor crashes. -/
namespace Go.Proofs.YtjjcilinghgphaaGreat
open Go.RowKit Go.Maps Go.Sort
set_option maxRecDepth 100000

def vwF (f : Fl) : List UInt8 × List UInt8 := (f.nm, f.dt)
def vwS (dir : List UInt8) (x : Sg) : List UInt8 × List UInt8 := (segN dir x.f, joinF x.rs)
/-- The disk is up and not armed; its files are the log's segments. -/
structure Fre (s : DS) (g : LG) : Prop where
 dn : s.dn = false
 ar : s.ar = 0
 vw : s.fs.map vwF = g.segs.map (vwS g.dir)
theorem fall_free {s : DS} (h : s.ar = 0) : fallS s = ({ s with wr := s.wr + 1 }, false) := by unfold fallS; rw [h, if_neg (by decide)]
theorem errW_free {s : DS} {e : Int} {g : DS → DS} (hd : s.dn = false) (ha : s.ar = 0) : errW s e g = if e = 0 then (g { s with wr := s.wr + 1 }, 0) else (s, e) := by
 unfold errW
 rw [if_neg (by rw [hd]; simp), fall_free ha]
 by_cases he : e = 0
 · rw [if_neg (fun h => h he), if_pos he, if_neg (by simp)]
 · rw [if_pos he, if_neg he]
theorem ins_last {f : Fl} : ∀ {l : List Fl}, (∀ g ∈ l, bB g.nm f.nm = true) → insF f l = l ++ [f]
 | [], _ => rfl
 | y :: r, h => by
  unfold insF
  rw [bB_asymm (h y (by simp)), if_neg (by simp), ins_last fun g hg => h g (by simp [hg])]
  rfl
theorem tot_vw {l : List Fl} {m : List Sg} {dir : List UInt8} (h : l.map vwF = m.map (vwS dir)) : tot l = (m.map szS).sum := by
 have e : l.map (fun f => f.dt.length) = m.map szS := by
  have := congrArg (List.map fun p : List UInt8 × List UInt8 => p.2.length) h
  rw [List.map_map, List.map_map] at this
  exact this
 unfold tot
 rw [e]
section
variable {s : DS} {g : LG} {p : List UInt8}
theorem Fre.split (h : Fre s g) : ∃ A q, s.fs = A ++ [q] ∧ A.map vwF = g.pre.map (vwS g.dir) ∧ q.nm = g.lnm ∧ q.dt = joinF g.la.rs := by
 have hv := h.vw
 unfold LG.segs at hv
 rw [List.map_append] at hv
 obtain ⟨A, Q, h1, h2, h3⟩ := List.map_eq_append_iff.1 hv
 obtain ⟨q, rfl, h4⟩ := List.map_eq_singleton_iff.1 h3
 have h5 : (q.nm, q.dt) = (segN g.dir g.la.f, joinF g.la.rs) := h4
 exact ⟨A, q, h1, h2, (Prod.mk.inj h5).1, (Prod.mk.inj h5).2⟩
theorem Fre.len (h : Fre s g) : s.fs.length = g.segs.length := by
 have := congrArg List.length h.vw
 simpa using this
theorem Fre.tot (h : Fre s g) : tot s.fs = (g.segs.map szS).sum := tot_vw h.vw
theorem Fre.names (h : Fre s g) : s.fs.map Fl.nm = g.segs.map fun x => segN g.dir x.f := by
 have := congrArg (List.map Prod.fst) h.vw
 rw [List.map_map, List.map_map] at this
 exact this
theorem Fre.get (h : Fre s g) (hs : Srt s.fs) : ∃ q, getF g.lnm s.fs = some q ∧ q.dt = joinF g.la.rs := by
 obtain ⟨A, q, h1, _, h3, h4⟩ := h.split
 refine ⟨q, ?_, h4⟩
 rw [← h3]
 exact srt_get hs (by rw [h1]; simp)
theorem Fre.sync (h : Fre s g) (hs : Srt s.fs) : (syncL s g).e = 0 ∧ Fre (syncL s g).s (syncL s g).g ∧ (syncL s g).g = { g with sf := g.next - 1 } := by
 obtain ⟨q, hq, _⟩ := h.get hs
 have he : hasE s g.lnm = 0 := by unfold hasE; rw [hq]; rfl
 have h0 : syncS s g.lnm = ({ s with wr := s.wr + 1, fs := updF g.lnm (fun f => ⟨f.nm, f.dt, f.dt.length⟩) s.fs }, 0) := by
  unfold syncS
  rw [errW_free h.dn h.ar, if_pos he]
 have hl : syncL s g = ⟨{ s with wr := s.wr + 1, fs := updF g.lnm (fun f => ⟨f.nm, f.dt, f.dt.length⟩) s.fs }, { g with sf := g.next - 1 }, 0⟩ := by
  unfold syncL
  rw [h0, if_pos rfl]
 rw [hl]
 refine ⟨rfl, ⟨h.dn, h.ar, ?_⟩, rfl⟩
 show (updF g.lnm _ s.fs).map vwF = _
 rw [show (updF g.lnm (fun f => ⟨f.nm, f.dt, f.dt.length⟩) s.fs).map vwF = s.fs.map vwF from ?_]
 · exact h.vw
 · unfold updF
   rw [List.map_map]
   refine List.map_congr_left fun f _ => ?_
   show vwF (if _ then _ else _) = vwF f
   split <;> rfl
theorem Fre.next_new (h : Fre s g) (hk : LOk s g) (hr : 0 < g.la.rs.length) (hn : g.next ≤ 99999999) : ∀ f ∈ s.fs, bB f.nm (segN g.dir g.next) = true := by
 intro f hf
 have hm : f.nm ∈ s.fs.map Fl.nm := List.mem_map_of_mem hf
 rw [h.names] at hm
 obtain ⟨x, hx, e⟩ := List.mem_map.1 hm
 have hxn : x.f < g.next := by
  unfold LG.next
  rcases List.mem_append.1 (show x ∈ g.pre ++ [g.la] from hx) with hx' | hx'
  · have := (List.pairwise_append.1 (show (g.pre ++ [g.la]).Pairwise _ from hk.rise)).2.2 x hx' g.la (by simp)
    omega
  · rw [List.mem_singleton] at hx'; subst hx'; omega
 have e' : segN g.dir x.f = f.nm := e
 rw [← e']
 exact segN_lt hxn hn
theorem Fre.roll (h : Fre s g) (hk : LOk s g) (hr : 0 < g.la.rs.length) (hn : g.next ≤ 99999999) :
 Fre (rollL s g g.next).s (rollL s g g.next).g ∧ ((rollL s g g.next).e ≠ 0 → 64 ≤ s.fs.length) ∧ ((rollL s g g.next).e = 0 → (rollL s g g.next).g = { g with pre := g.pre ++ [g.la], la := ⟨g.next, []⟩ }) := by
 have hb := h.next_new hk hr hn
 have hg : getF (segN g.dir g.next) s.fs = none := by
  cases hq : getF (segN g.dir g.next) s.fs with
  | none => rfl
  | some q =>
   obtain ⟨h1, h2⟩ := getF_some hq
   exact absurd h2 (bB_ne (hb q h1))
 have hno : nameOk (segN g.dir g.next) = true := by
  rw [nameOk_iff, segN_length]
  have := hk.d1
  have := hk.d2
  omega
 have hce : creE s (segN g.dir g.next) = if 64 ≤ s.fs.length then 3 else 0 := by
  unfold creE
  rw [hno, hg]
  simp
 by_cases h64 : 64 ≤ s.fs.length
 · have h0 : createS s (segN g.dir g.next) = (s, 3) := by
    unfold createS
    rw [errW_free h.dn h.ar, hce, if_pos h64, if_neg (by decide)]
   have hl : rollL s g g.next = ⟨s, g, 3⟩ := by unfold rollL; rw [h0, if_neg (by simp)]
   rw [hl]
   exact ⟨h, fun _ => h64, fun e => by cases e⟩
 · have h0 : createS s (segN g.dir g.next) = ({ s with wr := s.wr + 1, fs := insF ⟨segN g.dir g.next, [], 0⟩ s.fs }, 0) := by
    unfold createS
    rw [errW_free h.dn h.ar, hce, if_neg h64, if_pos rfl]
   have hl : rollL s g g.next = ⟨{ s with wr := s.wr + 1, fs := insF ⟨segN g.dir g.next, [], 0⟩ s.fs }, { g with pre := g.pre ++ [g.la], la := ⟨g.next, []⟩ }, 0⟩ := by unfold rollL; rw [h0, if_pos rfl]
   rw [hl]
   refine ⟨⟨h.dn, h.ar, ?_⟩, fun e => absurd rfl e, fun _ => rfl⟩
   show (insF ⟨segN g.dir g.next, [], 0⟩ s.fs).map vwF = ((g.pre ++ [g.la]) ++ [(⟨g.next, []⟩ : Sg)]).map (vwS g.dir)
   rw [ins_last (f := ⟨segN g.dir g.next, [], 0⟩) hb, List.map_append, List.map_append]
   show s.fs.map vwF ++ _ = g.segs.map (vwS g.dir) ++ _
   rw [h.vw]
   rfl
theorem Fre.put (h : Fre s g) (hs : Srt s.fs) :
 Fre (putL s g p).s (putL s g p).g ∧ ((putL s g p).e ≠ 0 → 4194304 < p.length + 12 + Go.Proofs.YtjjcilinghgphaaGreat.tot s.fs) ∧ ((putL s g p).e = 0 → (putL s g p).g = { g with la := ⟨g.la.f, g.la.rs ++ [p]⟩ }) := by
 obtain ⟨q, hq, _⟩ := h.get hs
 by_cases hb : 4194304 < (frameOf p).length + Go.Proofs.YtjjcilinghgphaaGreat.tot s.fs
 · have h0 : appendS s g.lnm (frameOf p) = (s, 11) := by
    have : appE s g.lnm (frameOf p) = 11 := by unfold appE; rw [h.dn, if_neg (by simp), hq, if_neg (by simp), if_pos hb]
    rw [appendS_err (by rw [this]; simp), this]
   have hl : putL s g p = ⟨s, g, 11⟩ := by unfold putL; rw [h0, if_neg (by simp)]
   rw [hl]
   rw [frameOf_length] at hb
   exact ⟨h, fun _ => hb, fun e => by cases e⟩
 · have h0 : appendS s g.lnm (frameOf p) = ({ s with wr := s.wr + 1, fs := updF g.lnm (fun f => ⟨f.nm, f.dt ++ frameOf p, f.sf⟩) s.fs }, 0) := by
    have : appE s g.lnm (frameOf p) = 0 := by unfold appE; rw [h.dn, if_neg (by simp), hq, if_neg (by simp), if_neg hb]
    rw [appendS_ok this, fall_free h.ar]
    rfl
   have hl : putL s g p = ⟨{ s with wr := s.wr + 1, fs := updF g.lnm (fun f => ⟨f.nm, f.dt ++ frameOf p, f.sf⟩) s.fs }, { g with la := ⟨g.la.f, g.la.rs ++ [p]⟩ }, 0⟩ := by unfold putL; rw [h0, if_pos rfl]
   rw [hl]
   refine ⟨⟨h.dn, h.ar, ?_⟩, fun e => absurd rfl e, fun _ => rfl⟩
   obtain ⟨A, q', h1, h2, h3, h4⟩ := h.split
   show (updF g.lnm (fun f => ⟨f.nm, f.dt ++ frameOf p, f.sf⟩) s.fs).map vwF = (g.pre ++ [(⟨g.la.f, g.la.rs ++ [p]⟩ : Sg)]).map (vwS g.dir)
   rw [h1] at hs ⊢
   rw [← h3, upd_mid (pre := A) (r := []) hs, List.map_append, List.map_append, h2]
   show _ ++ [(q'.nm, q'.dt ++ frameOf p)] = _ ++ [(segN g.dir g.la.f, joinF (g.la.rs ++ [p]))]
   rw [joinF_snoc, h4, h3]
   rfl
theorem Fre.turn {B : Int} (h : Fre s g) (hk : LOk s g) (hd : DOk B s) (hn : g.next ≤ 99999999) :
 Fre (turnL s g).s (turnL s g).g ∧ ((turnL s g).e ≠ 0 → 64 ≤ (turnL s g).s.fs.length) ∧ (turnL s g).g.all = g.all ∧ (turnL s g).g.first = g.first ∧ Go.Proofs.YtjjcilinghgphaaGreat.tot (turnL s g).s.fs = Go.Proofs.YtjjcilinghgphaaGreat.tot s.fs ∧ Srt (turnL s g).s.fs := by
 by_cases hf : (szS g.la : Int) < g.room
 · rw [turnL_free hf]; exact ⟨h, fun e => absurd rfl e, rfl, rfl, rfl, hd.srt⟩
 · obtain ⟨e0, f1, eg⟩ := h.sync hd.srt
   have hk1 := hk.sync
   have hd1 := (DOk.syncS' hd g.lnm).srt
   have hss : (syncL s g).s = (syncS s g.lnm).1 := by unfold syncL; split <;> rfl
   rw [← hss] at hd1
   obtain ⟨n1, n2, n3, n4, n5⟩ := syncL_next (s := s) (g := g)
   have hne : 0 < (syncL s g).g.la.rs.length := by
    rw [n2]
    have := hk.r1
    rcases Nat.eq_zero_or_pos g.la.rs.length with h | h
    · have hnil := List.eq_nil_of_length_eq_zero h
      unfold szS at hf
      rw [hnil] at hf
      simp [joinF] at hf
      omega
    · exact h
   have ht : Go.Proofs.YtjjcilinghgphaaGreat.tot (syncL s g).s.fs = Go.Proofs.YtjjcilinghgphaaGreat.tot s.fs := by
    rw [f1.tot, h.tot, eg]; rfl
   have hr := f1.roll hk1 hne (by rw [n1]; exact hn)
   rw [n1] at hr
   obtain ⟨r1, r2, r3⟩ := hr
   rw [turnL_roll hf e0]
   by_cases h0 : (rollL (syncL s g).s (syncL s g).g g.next).e = 0
   · have h0' := r3 h0
     have hkr := (hk1.roll (by rw [n1]; exact hn) hne)
     have hsr : Srt (rollL (syncL s g).s (syncL s g).g g.next).s.fs := by
      unfold rollL at h0 ⊢
      by_cases hc : (createS (syncL s g).s (segN (syncL s g).g.dir g.next)).2 = 0
      · rw [if_pos hc]
        obtain ⟨k1, k2, k3, k4⟩ := errW_did hc
        show Srt (errW _ _ _).1.fs
        rw [k3]
        show Srt (insF _ (fallS _).1.fs)
        rw [k4]
        refine srt_ins hd1 fun f hf => ?_
        have := f1.next_new hk1 hne (by rw [n1]; exact hn) f hf
        rw [n1] at this
        exact bB_ne this
      · rw [if_neg hc] at h0; exact absurd h0 hc
     refine ⟨r1, fun e => absurd h0 e, ?_, ?_, ?_, hsr⟩
     · rw [h0', eg]; simp [LG.all, LG.segs, allR]
     · rw [h0', eg]
       unfold LG.first
       cases hp : g.pre <;> simp
     · rw [r1.tot, h0', ← ht, f1.tot, eg]
       simp [LG.segs, szS, joinF]
   · have hle := r2 h0
     have hs2 : rollL (syncL s g).s (syncL s g).g g.next = ⟨(syncL s g).s, (syncL s g).g, (rollL (syncL s g).s (syncL s g).g g.next).e⟩ := by
      unfold rollL at h0 ⊢
      by_cases hc : (createS (syncL s g).s (segN (syncL s g).g.dir g.next)).2 = 0
      · rw [if_pos hc] at h0; exact absurd rfl h0
      · rw [if_neg hc]
        congr 1
        unfold createS at hc ⊢
        rw [errW_free f1.dn f1.ar] at hc ⊢
        split
        · rename_i hz
          rw [if_pos hz] at hc; exact absurd rfl hc
        · rfl
     rw [hs2]
     refine ⟨f1, fun _ => hle, by rw [eg]; rfl, by rw [eg]; rfl, ht, hd1⟩
theorem Fre.app {B _B' : Int} (h : Fre s g) (hk : LOk s g) (hd : DOk B s) :
 Fre (appL s g p).s (appL s g p).g ∧ ((appL s g p).e ≠ 0 → p.length ≤ 262144 → g.next ≤ 99999999 → 64 ≤ (appL s g p).s.fs.length ∨ 4194304 < p.length + 12 + Go.Proofs.YtjjcilinghgphaaGreat.tot s.fs) ∧
  ((appL s g p).e = 0 → (appL s g p).g.all = g.all ++ [p] ∧ Go.Proofs.YtjjcilinghgphaaGreat.tot (appL s g p).s.fs = Go.Proofs.YtjjcilinghgphaaGreat.tot s.fs + (p.length + 12)) ∧ ((appL s g p).e ≠ 0 → (appL s g p).g.all = g.all ∧ Go.Proofs.YtjjcilinghgphaaGreat.tot (appL s g p).s.fs = Go.Proofs.YtjjcilinghgphaaGreat.tot s.fs) ∧ (appL s g p).g.first = g.first := by
 by_cases h1 : 262144 < p.length
 · rw [(appL_long h1).1]; exact ⟨h, fun _ hp => by omega, fun e => (by cases e), fun _ => ⟨rfl, rfl⟩, rfl⟩
 · by_cases h2 : 99999999 < g.next
   · rw [(appL_range h1 h2).1]; exact ⟨h, fun _ _ hp => by omega, fun e => (by cases e), fun _ => ⟨rfl, rfl⟩, rfl⟩
   · obtain ⟨t1, t2, t3, t4, t5, t6⟩ := h.turn hk hd (by omega)
     by_cases h3 : (turnL s g).e = 0
     · rw [appL_put h1 h2 h3]
       obtain ⟨p1, p2, p3⟩ := t1.put (p := p) t6
       refine ⟨p1, fun e _ _ => .inr (by rw [← t5]; exact p2 e), fun e => ?_, fun e => ?_, ?_⟩
       · have e1 := p3 e
         refine ⟨by rw [e1, ← t3]; simp [LG.all, LG.segs, allR], ?_⟩
         rw [p1.tot, e1, ← t5, t1.tot]
         simp [LG.segs, szS, joinF_snoc, frameOf_length]
         omega
       · have hs2 : putL (turnL s g).s (turnL s g).g p = ⟨(turnL s g).s, (turnL s g).g, (putL (turnL s g).s (turnL s g).g p).e⟩ := by
          obtain ⟨c1, c2⟩ := appendS_cases (turnL s g).s (turnL s g).g.lnm (frameOf p)
          unfold putL at e ⊢
          by_cases hc : (appendS (turnL s g).s (turnL s g).g.lnm (frameOf p)).2 = 0
          · rw [if_pos hc] at e; exact absurd rfl e
          · rw [if_neg hc]
            rcases c2 hc with k | ⟨k1, k2, k3⟩
            · congr 1
            · exfalso
              rw [k3] at k1
              have : ((fallS (turnL s g).s).1.dn = true) := k1
              rw [fall_free t1.ar] at this
              have h4 := t1.dn
              rw [show ({ (turnL s g).s with wr := (turnL s g).s.wr + 1 } : DS).dn = (turnL s g).s.dn from rfl, h4] at this
              cases this
         rw [hs2]
         exact ⟨t3, t5⟩
       · rw [← t4]
         unfold putL
         split <;> (unfold LG.first; cases (turnL s g).g.pre <;> rfl)
     · rw [(appL_turn h1 h2 h3).1]
       exact ⟨t1, fun e _ _ => .inl (t2 e), fun e => absurd e h3, fun _ => ⟨t3, t5⟩, t4⟩
end
end Go.Proofs.YtjjcilinghgphaaGreat

/-! ### A log within a law: its blocks are the law's own; what its operations leave. -/
namespace Go.Proofs.YtjjcilinghgphaaGreat
open Go.RowKit Go.Maps Go.Sort
set_option maxRecDepth 100000

structure LL (W0 : World) (B : Int) (d l : Nat) (T : Nat → Prop) (s : DS) (g : LG) (W : World) : Prop where
 lw : LWS B W d l T s g
 t0 : ∀ k, T k → W0.heap.size ≤ k
 bl : Below W0.heap.size W0 W
 ok : LOk s g
/-- A disk within a law. -/
structure DL (W0 : World) (B : Int) (d : Nat) (T : Nat → Prop) (s : DS) (W : World) : Prop where
 dk : DkS B W d T s
 t0 : ∀ k, T k → W0.heap.size ≤ k
 bl : Below W0.heap.size W0 W
section
variable {W0 W W' : World} {B B' : Int} {d l : Nat} {T : Nat → Prop} {s s' : DS} {g g' : LG}
theorem fr_below (hf : Fr T W W') (ht : ∀ k, T k → W0.heap.size ≤ k) (hb : Below W0.heap.size W0 W) : Below W0.heap.size W0 W' :=
 hb.trans (hf.below hb.size fun k hk e => by have := ht k e; omega)
theorem sx_own (ht : ∀ k, T k → W0.heap.size ≤ k) (hb : Below W0.heap.size W0 W) : ∀ k, Sx T W W' k → W0.heap.size ≤ k := fun k hk => hk.elim (ht k) (fun e => Nat.le_trans hb.size e.1)
theorem LL.next (h : LL W0 B d l T s g W) (k : LWS B' W' d l (Sx T W W') s' g') (hf : Fr T W W') (hk : LOk s' g') : LL W0 B' d l (Sx T W W') s' g' W' :=
 ⟨k, sx_own h.t0 h.bl, fr_below hf h.t0 h.bl, hk⟩
theorem LL.new (h : LL W0 B d l T s g W) (hb : Below W.heap.size W W') : LL W0 B d l T s g W' := ⟨h.lw.new hb, h.t0, next_below h.bl hb, h.ok⟩
theorem LL.mono (h : LL W0 B d l T s g W) (hB : B ≤ B') : LL W0 B' d l T s g W := ⟨h.lw.mono hB (fun _ hk => hk) h.lw.lt, h.t0, h.bl, h.ok⟩
theorem LL.lt (h : LL W0 B d l T s g W) : ∀ k, T k → k < W.heap.size := h.lw.lt
theorem LL.lg (h : LL W0 B d l T s g W) : ∃ Sl, LgG W l d Sl g := by
 obtain ⟨Sd, Sl, _, h2, _⟩ := h.lw
 exact ⟨Sl, h2⟩
theorem LL.dk (h : LL W0 B d l T s g W) : ∃ Sd, DkS B W d Sd s := by
 obtain ⟨Sd, Sl, h1, _⟩ := h.lw
 exact ⟨Sd, h1⟩
theorem LL.dl (h : LL W0 B d l T s g W) : DL W0 B d T s W := by
 obtain ⟨Sd, Sl, h1, h2, h3, h4, h5, h6⟩ := h.lw
 exact ⟨h1.mono (Int.le_refl _) h4 h6, h.t0, h.bl⟩
theorem DL.new (h : DL W0 B d T s W) (hb : Below W.heap.size W W') : DL W0 B d T s W' := ⟨h.dk.below hb, h.t0, next_below h.bl hb⟩
theorem DL.done (h : DL W0 B d T s W) (k : Done B' W d T s' W') : DL W0 B' d (Sx T W W') s' W' := ⟨k.1, sx_own h.t0 h.bl, fr_below k.2 h.t0 h.bl⟩
theorem DL.start (hb : Below W0.heap.size W0 W) (hd : DkS B W d (fun k => W0.heap.size ≤ k ∧ k < W.heap.size) s) : DL W0 B d (fun k => W0.heap.size ≤ k ∧ k < W.heap.size) s W := ⟨hd, fun _ hk => hk.1, hb⟩
theorem DL.mono (h : DL W0 B d T s W) (hB : B ≤ B') : DL W0 B' d T s W := ⟨h.dk.mono hB (fun _ hk => hk) h.dk.lt, h.t0, h.bl⟩
theorem LL.old (h : LL W0 B d l T s g W) {a : Option Addr} {n : Nat} (ha : BlkIn a n fun b => b < W0.heap.size) : BlkIn a n fun b => ¬ T b := fun h0 b hb e => by
 have h1 := ha h0 b hb
 have h2 := h.t0 b e
 omega

theorem LL.first (h : LL W0 B d l T s g W) : Calls Tryz.prog 30 #[.pointer (some ⟨l, 0, none⟩)] W fun e w' => e = .returned (.int .i64 (g.first : Nat)) ∧ W = w' := by
 obtain ⟨Sl, hl⟩ := h.lg
 exact hl.first h.ok
theorem LL.next' (h : LL W0 B d l T s g W) : Calls Tryz.prog 21 #[.pointer (some ⟨l, 0, none⟩)] W fun e w' => e = .returned (.int .i64 (g.next : Nat)) ∧ ∃ n, w' = W.drewN n := by
 obtain ⟨Sl, hl⟩ := h.lg
 exact hl.next h.ok
theorem LL.safe (h : LL W0 B d l T s g W) : Calls Tryz.prog 17 #[.pointer (some ⟨l, 0, none⟩)] W fun e w' => e = .returned (.int .i64 (g.safe : Nat)) ∧ ∃ n, w' = W.drewN n := by
 obtain ⟨Sl, hl⟩ := h.lg
 exact hl.safe h.ok
theorem LL.read (h : LL W0 B d l T s g W) (n : Int) (h0 : -9223372036854775808 ≤ n) (h1 : n ≤ 9223372036854775807) : Calls Tryz.prog 34 #[.pointer (some ⟨l, 0, none⟩), .int .i64 n] W (WReadPost W g n) := by
 obtain ⟨Sl, hl⟩ := h.lg
 exact wread_any hl h.ok n h0 h1
theorem LL.from (h : LL W0 B d l T s g W) (n most : Int) (h0 : -9223372036854775808 ≤ n) (h1 : n ≤ 9223372036854775807) : Calls Tryz.prog 19 #[.pointer (some ⟨l, 0, none⟩), .int .i64 n, .int .i64 most] W (WFromPost W g n most) := by
 obtain ⟨Sl, hl⟩ := h.lg
 exact wfrom_any hl h.ok n most h0 h1
theorem LL.drewN (h : LL W0 B d l T s g W) (n : Nat) : LL W0 B d l T s g (W.drewN n) := h.new (below_dn (Below.refl _ _) n)
/-- What an operation did to memory. -/
def Ext (T : Nat → Prop) (W : World) (T' : Nat → Prop) (W' : World) : Prop := Fr T W W' ∧ ∀ k, T' k → Sx T W W' k
def SyncPost (W0 : World) (B : Int) (d l : Nat) (T : Nat → Prop) (W : World) (s : DS) (g : LG) (e : Ending) (W' : World) : Prop := ∃ T', e = .returned (.int .i64 (syncL s g).e) ∧ LL W0 (B + 1) d l T' (syncL s g).s (syncL s g).g W' ∧ Ext T W T' W'
theorem LL.sync (h : LL W0 B d l T s g W) (hB : B < 1000000000000) : Calls Tryz.prog 18 #[.pointer (some ⟨l, 0, none⟩)] W (SyncPost W0 B d l T W s g) :=
 (wsync_any hB h.lw h.ok).mono fun _ _ ⟨h1, h2, h3⟩ => ⟨_, h1, h.next h2 h3 h.ok.sync, h3, fun _ hk => hk⟩
def TrimPost (W0 : World) (B : Int) (d l : Nat) (T : Nat → Prop) (W : World) (s : DS) (g : LG) (below : Int) (e : Ending) (W' : World) : Prop := ∃ T', e = .returned (.int .i64 (trimL s g below).e) ∧ LL W0 (B + 100000000) d l T' (trimL s g below).s (trimL s g below).g W' ∧ Ext T W T' W'
def AppendPost (W0 : World) (B : Int) (d l : Nat) (T : Nat → Prop) (W : World) (s : DS) (g : LG) (p : List UInt8) (e : Ending) (W' : World) : Prop := ∃ T', e = .returned (.tuple #[.int .i64 (appN s g p), .int .i64 (appL s g p).e]) ∧ LL W0 (B + 3) d l T' (appL s g p).s (appL s g p).g W' ∧ Ext T W T' W'
theorem DOk.turn {B : Int} (hd : DOk B s) (hk : LOk s g) (hn : g.next ≤ 99999999) : DOk (B + 2) (turnL s g).s := by
 by_cases hf : (szS g.la : Int) < g.room
 · rw [turnL_free hf]; exact hd.mono (by omega)
 · have hss : (syncL s g).s = (syncS s g.lnm).1 := by unfold syncL; split <;> rfl
   have h1 := DOk.syncS' hd g.lnm
   rw [← hss] at h1
   by_cases h0 : (syncL s g).e = 0
   · rw [turnL_roll hf h0]
     obtain ⟨n1, n2, n3, n4, n5⟩ := syncL_next (s := s) (g := g)
     have hrs : (rollL (syncL s g).s (syncL s g).g g.next).s = (createS (syncL s g).s (segN (syncL s g).g.dir g.next)).1 := by unfold rollL; split <;> rfl
     rw [hrs]
     have h2 : DOk (B + 1 + 1) (createS (syncL s g).s (segN (syncL s g).g.dir g.next)).1 := by
      refine h1.errW _ _ fun _ he => ?_
      have hno : nameOk (segN (syncL s g).g.dir g.next) = true := by
       unfold creE at he
       split at he
       · cases he
       · rename_i h; simpa using h
      have hg : getF (segN (syncL s g).g.dir g.next) (syncL s g).s.fs = none ∧ (syncL s g).s.fs.length < 64 := by
       unfold creE at he
       rw [hno] at he
       simp only [Bool.not_true, Bool.false_eq_true, if_false] at he
       split at he
       · cases he
       · split at he
         · cases he
         · exact ⟨getF_isSome_false (by assumption), by omega⟩
      exact h1.fall.ins hno (by rw [fallS_fs]; exact hg.1) (by rw [fallS_fs]; exact hg.2)
     exact h2.mono (by omega)
   · rw [turnL_sync hf h0]; exact h1.mono (by omega)
theorem LL.append (h : LL W0 B d l T s g W) (hB : B < 999999999990) {ap : Option Addr} {np cp : Nat} {p : List UInt8} (hp : Rd8 W ap np cp p) (hap : BlkIn ap np fun b => ¬ T b) :
 Calls Tryz.prog 16 #[.pointer (some ⟨l, 0, none⟩), .slice ap np cp] W (AppendPost W0 B d l T W s g p) :=
 (wappend_any hB h.lw h.ok hp hap).mono fun _ _ ⟨h1, h2, h3⟩ => ⟨_, h1, h.next h2 h3 (by
  by_cases hn : g.next ≤ 99999999
  · exact h.ok.app (DOk.turn h.lw.ok h.ok hn)
  · by_cases hl : 262144 < p.length
    · rw [(appL_long hl).1]; exact h.ok
    · rw [(appL_range hl (by omega)).1]; exact h.ok), h3, fun _ hk => hk⟩
end
/-- Trim keeps what stands. -/
theorem trim_keeps {dir : List UInt8} {la : Sg} {below : Int} : ∀ (pre : List Sg) (s : DS) (g : LG), g.dir = dir → g.la = la → g.pre = pre → LOk s g → LOk (trimP dir la below s pre).1 { g with pre := (trimP dir la below s pre).2.1 }
 | [], s, g, h1, h2, h3, hk => by
  show LOk s { g with pre := [] }
  rw [← h3]; exact hk
 | x :: r, s, g, h1, h2, h3, hk => by
  unfold trimP
  by_cases hb : ((r.head?.getD la).f : Int) ≤ below
  · rw [if_pos hb]
    have hsub : ∀ y ∈ r ++ [g.la], y ∈ g.segs := fun y hy => by unfold LG.segs; rw [h3]; exact List.mem_cons_of_mem _ hy
    have hrs : (x :: (r ++ [g.la])).Pairwise fun a b => a.f < b.f := by have := hk.rise; unfold LG.segs at this; rw [h3] at this; exact this
    have hxl : x.f < g.la.f := (List.pairwise_cons.1 hrs).1 g.la (by simp)
    have hch : ChainS (r ++ [g.la]) := by
     have := hk.chain
     unfold LG.segs at this
     rw [h3] at this
     cases r with
     | nil => trivial
     | cons y q => exact this.2
    have hne : g.lnm ≠ segN dir x.f := fun e => by
     unfold LG.lnm at e
     rw [h1] at e
     have hx2 := (hk.num x (by unfold LG.segs; rw [h3]; simp)).f2
     have := segN_inj hk.la.f2 hx2 e
     omega
    by_cases h0 : (removeS s (segN dir x.f)).2 = 0
    · rw [if_pos h0]
      obtain ⟨k1, k2, k3, k4⟩ := errW_did h0
      have hk1 : LOk (removeS s (segN dir x.f)).1 { g with pre := r } := by
       refine ⟨hk.d1, hk.d2, hk.r1, hk.r2, fun y hy => hk.num y (hsub y hy), hch, (List.pairwise_cons.1 hrs).2, fun _ => ?_, hk.sfl⟩
       show (getF g.lnm (errW s _ _).1.fs).map Fl.dt = _
       rw [k3]
       show (getF g.lnm (delF _ (fallS s).1.fs)).map Fl.dt = _
       rw [k4, get_del_other hne]
       exact hk.dat k1
      exact trim_keeps r _ { g with pre := r } h1 h2 rfl hk1
    · rw [if_neg h0]
      obtain ⟨k1, k2⟩ := errW_keep h0
      show LOk (removeS s (segN dir x.f)).1 { g with pre := x :: r }
      rw [← h3]
      exact ⟨hk.d1, hk.d2, hk.r1, hk.r2, hk.num, hk.chain, hk.rise, fun hd => by
       show (getF g.lnm (errW s _ _).1.fs).map Fl.dt = _
       rw [k1]; exact hk.dat (k2 hd), hk.sfl⟩
  · rw [if_neg hb]
    show LOk s { g with pre := x :: r }
    rw [← h3]; exact hk
theorem LOk.trim {s : DS} {g : LG} (h : LOk s g) (below : Int) : LOk (trimL s g below).s (trimL s g below).g := trim_keeps g.pre s g rfl rfl rfl h
theorem LL.trim {W0 W : World} {B : Int} {d l : Nat} {T : Nat → Prop} {s : DS} {g : LG} (h : LL W0 B d l T s g W) (hB : B < 999000000000) (below : Int) : Calls Tryz.prog 43 #[.pointer (some ⟨l, 0, none⟩), .int .i64 below] W (TrimPost W0 B d l T W s g below) :=
 (wtrim_any hB h.lw h.ok below).mono fun _ _ ⟨h1, h2, h3⟩ => ⟨_, h1, h.next h2 h3 (h.ok.trim below), h3, fun _ hk => hk⟩
/-- Open within a law. -/
def OpenedPost (W0 : World) (B : Int) (d : Nat) (T : Nat → Prop) (W : World) (r : OR) (e : Ending) (W' : World) : Prop :=
 match r.g with
 | none => ∃ T', e = .returned (.tuple #[.pointer none, .int .i64 r.e]) ∧ DL W0 B d T' r.s W' ∧ Ext T W T' W'
 | some g => ∃ l T', e = .returned (.tuple #[.pointer (some ⟨l, 0, none⟩), .int .i64 r.e]) ∧ LL W0 B d l T' r.s g W' ∧ Ext T W T' W'
theorem DL.open {W0 W : World} {B : Int} {d : Nat} {T : Nat → Prop} {s : DS} (h : DL W0 B d T s W) (hB : B < 999999999990) (dir : List UInt8) (hd : dir.length ≤ 1000000) (room : Int) :
 Calls Tryz.prog 15 #[.pointer (some ⟨d, 0, none⟩), .string (bs dir), .int .i64 room] W (OpenedPost W0 (B + 3) d T W (openL s dir room)) := by
 refine (open_any d T B hB s dir hd room W h.dk).mono fun e W' hp => ?_
 unfold OpenPost at hp
 unfold OpenedPost
 cases hg : (openL s dir room).g with
 | none =>
  rw [hg] at hp
  exact ⟨_, hp.1, h.done hp.2, hp.2.2, fun _ hk => hk⟩
 | some g =>
  rw [hg] at hp
  obtain ⟨l, h1, h2, h3, h4⟩ := hp
  exact ⟨l, _, h1, ⟨h2, sx_own h.t0 h.bl, fr_below h3 h.t0 h.bl, h4⟩, h3, fun _ hk => hk⟩
end Go.Proofs.YtjjcilinghgphaaGreat
