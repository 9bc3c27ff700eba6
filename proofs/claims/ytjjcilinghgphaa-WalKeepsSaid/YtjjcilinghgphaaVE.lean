/-
  Plain laws: what is durable of a log.
  Plain laws: a log behind a crash, opened again and again.
  Falls of the law WalKeeps, how they lie; the records that are kept; again.
  again: Open behind a crash, cut off some times.
-/
import Derived.Test.YtjjcilinghgphaaV27
import Derived.Test.YtjjcilinghgphaaF0c
/-! ### Plain laws: what is durable of a log. -/
namespace Go.Proofs.Ytjjcilinghgphaa
open Go.RowKit Go.Maps Go.Sort
set_option maxRecDepth 100000

theorem joinTake (rs : List (List UInt8)) (j : Nat) : (joinF (rs.take j)).length ≤ (joinF rs).length := by
  have : joinF rs = joinF (rs.take j) ++ joinF (rs.drop j) := by rw [← joinF_append, List.take_append_drop]
  rw [this, List.length_append]; omega
/-- What stands on the disk of a log: the segments ahead of the last one are whole and safe; the last one's file holds its records, and perhaps one whose Append fell. -/
structure Dur (s : DS) (g : LG) (t : Option (List UInt8)) : Prop where
  ex : ∃ A q, s.fs = A ++ [q] ∧ A.map vwF = g.pre.map (vwS g.dir) ∧ q.nm = g.lnm ∧ q.dt = joinF (g.la.rs ++ t.toList) ∧ (∀ f ∈ A, f.sf = f.dt.length) ∧ (joinF (g.la.rs.take (g.sf + 1 - g.la.f))).length ≤ q.sf
  up : s.dn = false → t = none
section
variable {s s' : DS} {g : LG} {t : Option (List UInt8)} {B : Int}
theorem Dur.same (h : Dur s g t) (hf : s'.fs = s.fs) (hd : s'.dn = false → s.dn = false) : Dur s' g t := ⟨by rw [hf]; exact h.ex, fun e => h.up (hd e)⟩
theorem Dur.names (h : Dur s g t) : s.fs.map Fl.nm = g.segs.map fun x => segN g.dir x.f := by
  obtain ⟨A, q, h1, h2, h3, _⟩ := h.ex
  have h4 : A.map Fl.nm = g.pre.map fun x => segN g.dir x.f := by
    have := congrArg (List.map Prod.fst) h2
    rw [List.map_map, List.map_map] at this
    exact this
  rw [h1]
  unfold LG.segs
  rw [List.map_append, List.map_append, h4]
  show _ ++ [q.nm] = _ ++ [segN g.dir g.la.f]
  rw [h3]; rfl
theorem Dur.next_new (h : Dur s g t) (hk : LOk s g) (hr : 0 < g.la.rs.length) (hn : g.next ≤ 99999999) : ∀ f ∈ s.fs, bB f.nm (segN g.dir g.next) = true := by
  intro f hf
  have hm : f.nm ∈ s.fs.map Fl.nm := List.mem_map_of_mem hf
  rw [h.names] at hm
  obtain ⟨x, hx, e⟩ := List.mem_map.1 hm
  have hxn : x.f < g.next := by
    unfold LG.next
    rcases List.mem_append.1 (show x ∈ g.pre ++ [g.la] from hx) with hx' | hx'
    · have := (List.pairwise_append.1 (show (g.pre ++ [g.la]).Pairwise _ from hk.rise)).2.2 x hx' g.la (by simp)
      omega
    · rw [List.mem_singleton] at hx'; subst hx'; omega
  have e' : segN g.dir x.f = f.nm := e
  rw [← e']
  exact segN_lt hxn hn
theorem Dur.sync (h : Dur s g t) (hs : Srt s.fs) : Dur (syncL s g).s (syncL s g).g t ∧ ((syncL s g).e = 0 → ∀ f ∈ (syncL s g).s.fs, f.sf = f.dt.length) ∧ ((syncL s g).e = 0 → s.dn = false) := by
  by_cases h0 : (syncS s g.lnm).2 = 0
  · have e : syncL s g = ⟨(syncS s g.lnm).1, { g with sf := g.next - 1 }, 0⟩ := by unfold syncL; rw [if_pos h0]
    rw [e]
    obtain ⟨k1, k2, k3, k4⟩ := errW_did h0
    have ht := h.up k1
    subst ht
    obtain ⟨A, q, h1, h2, h3, h4, h5, h6⟩ := h.ex
    have hfs : (syncS s g.lnm).1.fs = A ++ [⟨q.nm, q.dt, q.dt.length⟩] := by
      show (errW s (hasE s g.lnm) _).1.fs = _
      rw [k3]
      show updF g.lnm _ (fallS s).1.fs = _
      rw [k4, h1, ← h3]
      rw [h1] at hs
      exact upd_mid (pre := A) (r := []) hs _
    refine ⟨⟨⟨A, ⟨q.nm, q.dt, q.dt.length⟩, hfs, h2, h3, h4, h5, ?_⟩, fun _ => rfl⟩, fun _ f hf => ?_, fun _ => k1⟩
    · show (joinF (g.la.rs.take _)).length ≤ q.dt.length
      rw [h4]
      simpa using joinTake g.la.rs _
    · rcases List.mem_append.1 (show f ∈ A ++ [⟨q.nm, q.dt, q.dt.length⟩] from hfs ▸ hf) with hf | hf
      · exact h5 f hf
      · rw [List.mem_singleton] at hf; subst hf; rfl
  · have e : syncL s g = ⟨(syncS s g.lnm).1, g, (syncS s g.lnm).2⟩ := by unfold syncL; rw [if_neg h0]
    rw [e]
    obtain ⟨k1, k2⟩ := errW_keep h0
    exact ⟨h.same k1 k2, fun e => absurd e h0, fun e => absurd e h0⟩
theorem Dur.roll (h : Dur s g t) (hk : LOk s g) (hr : 0 < g.la.rs.length) (hn : g.next ≤ 99999999) (ha : ∀ f ∈ s.fs, f.sf = f.dt.length) : Dur (rollL s g g.next).s (rollL s g g.next).g t := by
  by_cases h0 : (createS s (segN g.dir g.next)).2 = 0
  · rw [rollL_ok h0]
    obtain ⟨k1, k2, k3, k4⟩ := errW_did h0
    have ht := h.up k1
    subst ht
    obtain ⟨A, q, h1, h2, h3, h4, h5, h6⟩ := h.ex
    refine ⟨⟨A ++ [q], ⟨segN g.dir g.next, [], 0⟩, ?_, ?_, rfl, rfl, ?_, Nat.le_of_eq (by simp [joinF])⟩, fun _ => rfl⟩
    · show (errW s (creE s (segN g.dir g.next)) _).1.fs = _
      rw [k3]
      show insF ⟨segN g.dir g.next, [], 0⟩ (fallS s).1.fs = _
      rw [k4, ins_last (f := ⟨segN g.dir g.next, [], 0⟩) (h.next_new hk hr hn), h1]
    · show (A ++ [q]).map vwF = (g.pre ++ [g.la]).map (vwS g.dir)
      rw [List.map_append, List.map_append, h2]
      show _ ++ [(q.nm, q.dt)] = _ ++ [(segN g.dir g.la.f, joinF g.la.rs)]
      rw [h3, h4]
      simp [LG.lnm]
    · rw [← h1]; exact ha
  · rw [rollL_err h0]
    obtain ⟨k1, k2⟩ := errW_keep h0
    exact h.same k1 k2
theorem Dur.put (h : Dur s g t) (hs : Srt s.fs) (hsf : g.sf < g.next) (p : List UInt8) : ∃ t', Dur (putL s g p).s (putL s g p).g t' ∧ (t' = t ∨ (t' = some p ∧ (putL s g p).e ≠ 0 ∧ s.dn = false)) := by
  obtain ⟨c1, c2⟩ := appendS_cases s g.lnm (frameOf p)
  have hmid : ∀ {A : List Fl} {q : Fl}, s.fs = A ++ [q] → q.nm = g.lnm → updF g.lnm (fun f => ⟨f.nm, f.dt ++ frameOf p, f.sf⟩) s.fs = A ++ [⟨q.nm, q.dt ++ frameOf p, q.sf⟩] := by
    intro A q h1 h3
    rw [h1] at hs ⊢
    rw [← h3]
    exact upd_mid (pre := A) (r := []) hs _
  by_cases h0 : (appendS s g.lnm (frameOf p)).2 = 0
  · have e : putL s g p = ⟨(appendS s g.lnm (frameOf p)).1, { g with la := ⟨g.la.f, g.la.rs ++ [p]⟩ }, 0⟩ := by unfold putL; rw [if_pos h0]
    rw [e]
    obtain ⟨k1, k2, k3, k4⟩ := c1 h0
    have ht := h.up k1
    subst ht
    obtain ⟨A, q, h1, h2, h3, h4, h5, h6⟩ := h.ex
    refine ⟨none, ⟨⟨A, ⟨q.nm, q.dt ++ frameOf p, q.sf⟩, ?_, h2, h3, ?_, h5, ?_⟩, fun _ => rfl⟩, .inl rfl⟩
    · rw [k4]; exact hmid h1 h3
    · show q.dt ++ frameOf p = joinF ((g.la.rs ++ [p]) ++ [])
      rw [List.append_nil, joinF_snoc, h4]
      simp
    · show (joinF ((g.la.rs ++ [p]).take (g.sf + 1 - g.la.f))).length ≤ q.sf
      unfold LG.next at hsf
      rw [List.take_append_of_le_length (by omega)]
      exact h6
  · have e : putL s g p = ⟨(appendS s g.lnm (frameOf p)).1, g, (appendS s g.lnm (frameOf p)).2⟩ := by unfold putL; rw [if_neg h0]
    rw [e]
    rcases c2 h0 with k | ⟨k1, k2, k3⟩
    · refine ⟨t, ?_, .inl rfl⟩
      show Dur (appendS s g.lnm (frameOf p)).1 g t
      rw [k]; exact h
    · have ht := h.up k2
      subst ht
      obtain ⟨A, q, h1, h2, h3, h4, h5, h6⟩ := h.ex
      refine ⟨some p, ⟨⟨A, ⟨q.nm, q.dt ++ frameOf p, q.sf⟩, ?_, h2, h3, ?_, h5, h6⟩, fun e => ?_⟩, .inr ⟨rfl, h0, k2⟩⟩
      · rw [k3]; exact hmid h1 h3
      · show q.dt ++ frameOf p = joinF (g.la.rs ++ [p])
        rw [joinF_snoc, h4]
        simp
      · have e' : (appendS s g.lnm (frameOf p)).1.dn = false := e
        rw [k1] at e'; cases e'
theorem Dur.turn (h : Dur s g t) (hk : LOk s g) (hd : DOk B s) (hn : g.next ≤ 99999999) : Dur (turnL s g).s (turnL s g).g t ∧ ((turnL s g).e = 0 → (turnL s g).s.dn = false → s.dn = false) := by
  by_cases hf : (szS g.la : Int) < g.room
  · rw [turnL_free hf]; exact ⟨h, fun _ e => e⟩
  · obtain ⟨f1, f2, f3⟩ := h.sync hd.srt
    by_cases e0 : (syncL s g).e = 0
    · have hk1 := hk.sync
      obtain ⟨n1, n2, n3, n4, n5⟩ := syncL_next (s := s) (g := g)
      have hne : 0 < (syncL s g).g.la.rs.length := by
        rw [n2]
        have := hk.r1
        rcases Nat.eq_zero_or_pos g.la.rs.length with h | h
        · have hnil := List.eq_nil_of_length_eq_zero h
          unfold szS at hf
          rw [hnil] at hf
          simp [joinF] at hf
          omega
        · exact h
      have hr := f1.roll hk1 hne (by rw [n1]; exact hn) (f2 e0)
      rw [n1] at hr
      rw [turnL_roll hf e0]
      exact ⟨hr, fun _ _ => f3 e0⟩
    · rw [turnL_sync hf e0]
      exact ⟨f1, fun e => absurd e e0⟩
theorem Dur.app (h : Dur s g t) (hk : LOk s g) (hd : DOk B s) (p : List UInt8) : ∃ t', Dur (appL s g p).s (appL s g p).g t' ∧ (t' = t ∨ (t' = some p ∧ (appL s g p).e ≠ 0 ∧ s.dn = false)) := by
  by_cases h1 : 262144 < p.length
  · rw [(appL_long h1).1]; exact ⟨t, h, .inl rfl⟩
  · by_cases h2 : 99999999 < g.next
    · rw [(appL_range h1 h2).1]; exact ⟨t, h, .inl rfl⟩
    · obtain ⟨t1, t2⟩ := h.turn hk hd (by omega)
      have hdt := DOk.turn hd hk (by omega)
      obtain ⟨k1, k2⟩ := hk.turn (by omega)
      by_cases h3 : (turnL s g).e = 0
      · rw [appL_put h1 h2 h3]
        obtain ⟨t', d1, d2⟩ := t1.put hdt.srt k1.sfl p
        exact ⟨t', d1, d2.imp id fun ⟨a, b, c⟩ => ⟨a, b, t2 h3 c⟩⟩
      · rw [(appL_turn h1 h2 h3).1]
        exact ⟨t, t1, .inl rfl⟩
theorem turnL_all : (turnL s g).g.all = g.all ∧ (turnL s g).g.first = g.first := by
  have hs : (syncL s g).g.all = g.all ∧ (syncL s g).g.first = g.first := by unfold syncL; split <;> exact ⟨rfl, rfl⟩
  unfold turnL
  split
  · exact ⟨rfl, rfl⟩
  · split
    · exact hs
    · rw [← hs.1, ← hs.2]
      unfold rollL
      split
      · refine ⟨by simp [LG.all, LG.segs, allR], ?_⟩
        unfold LG.first
        cases (syncL s g).g.pre <;> rfl
      · exact ⟨rfl, rfl⟩
theorem appL_all {p : List UInt8} : (appL s g p).g.all = (if (appL s g p).e = 0 then g.all ++ [p] else g.all) ∧ (appL s g p).g.first = g.first := by
  obtain ⟨t1, t2⟩ := turnL_all (s := s) (g := g)
  unfold appL
  split
  · exact ⟨rfl, rfl⟩
  · split
    · exact ⟨rfl, rfl⟩
    · split
      · exact ⟨t1, t2⟩
      · rw [← t1, ← t2]
        unfold putL
        split
        · rw [if_pos rfl]
          refine ⟨by simp [LG.all, LG.segs, allR], ?_⟩
          unfold LG.first
          cases (turnL s g).g.pre <;> rfl
        · exact ⟨rfl, rfl⟩
end
theorem trim_dur (dir : List UInt8) (la : Sg) (below : Int) (t : Option (List UInt8)) : ∀ (pre : List Sg) (s : DS) (g : LG), g.dir = dir → g.la = la → g.pre = pre → Dur s g t → Srt s.fs →
    Dur (trimP dir la below s pre).1 { g with pre := (trimP dir la below s pre).2.1 } t ∧ ∃ k, (trimP dir la below s pre).2.1 = pre.drop k
  | [], s, g, h1, h2, h3, hF, hs => by
    refine ⟨?_, 0, rfl⟩
    show Dur s { g with pre := [] } t
    rw [← h3]; exact hF
  | x :: r, s, g, h1, h2, h3, hF, hs => by
    unfold trimP
    by_cases hb : ((r.head?.getD la).f : Int) ≤ below
    · rw [if_pos hb]
      by_cases h0 : (removeS s (segN dir x.f)).2 = 0
      · rw [if_pos h0]
        obtain ⟨k1, k2, k3, k4⟩ := errW_did h0
        have ht := hF.up k1
        subst ht
        obtain ⟨A, q, e1, e2, e3, e4, e5, e6⟩ := hF.ex
        obtain ⟨y, A', rfl, hy, hA⟩ : ∃ y A', A = y :: A' ∧ vwF y = vwS g.dir x ∧ A'.map vwF = r.map (vwS g.dir) := by
          rw [h3] at e2
          cases A with
          | nil => simp at e2
          | cons y A' =>
            rw [List.map_cons, List.map_cons] at e2
            obtain ⟨p1, p2⟩ := List.cons.inj e2
            exact ⟨y, A', rfl, p1, p2⟩
        have hyn : y.nm = segN dir x.f := by rw [← h1]; exact (Prod.mk.inj hy).1
        have hfs : (removeS s (segN dir x.f)).1.fs = A' ++ [q] := by
          show (errW s (hasE s (segN dir x.f)) _).1.fs = _
          rw [k3]
          show delF _ (fallS s).1.fs = _
          rw [k4, e1]
          rw [e1] at hs
          obtain ⟨p1, _⟩ := List.pairwise_cons.1 (show (y :: (A' ++ [q])).Pairwise _ from hs)
          show delF _ (y :: (A' ++ [q])) = _
          unfold delF
          rw [List.filter_cons_of_neg (by simp [hyn]), List.filter_eq_self]
          intro f hf
          have := bB_ne (p1 f hf)
          rw [hyn] at this
          simpa using fun e => this e.symm
        have hF' : Dur (removeS s (segN dir x.f)).1 { g with pre := r } none := ⟨⟨A', q, hfs, hA, e3, e4, fun f hf => e5 f (List.mem_cons_of_mem _ hf), e6⟩, fun _ => rfl⟩
        have hs' : Srt (removeS s (segN dir x.f)).1.fs := by
          rw [hfs]
          rw [e1] at hs
          exact (List.pairwise_cons.1 (show (y :: (A' ++ [q])).Pairwise _ from hs)).2
        obtain ⟨i1, k, i2⟩ := trim_dur dir la below none r _ { g with pre := r } h1 h2 rfl hF' hs'
        exact ⟨i1, k + 1, by rw [i2]; rfl⟩
      · rw [if_neg h0]
        obtain ⟨k1, k2⟩ := errW_keep h0
        refine ⟨?_, 0, rfl⟩
        show Dur (removeS s (segN dir x.f)).1 { g with pre := x :: r } t
        rw [← h3]
        exact hF.same k1 k2
    · rw [if_neg hb]
      refine ⟨?_, 0, rfl⟩
      show Dur s { g with pre := x :: r } t
      rw [← h3]; exact hF
theorem Dur.trim {s : DS} {g : LG} {t : Option (List UInt8)} (h : Dur s g t) (hs : Srt s.fs) (hk : LOk s g) (below : Int) : Dur (trimL s g below).s (trimL s g below).g t ∧ g.first ≤ (trimL s g below).g.first ∧ (trimL s g below).g.all = g.all.drop ((trimL s g below).g.first - g.first) := by
  obtain ⟨t1, k, t3⟩ := trim_dur g.dir g.la below t g.pre s g rfl rfl rfl h hs
  obtain ⟨c1, c2⟩ := chain_drop g.pre k hk.chain
  refine ⟨t1, ?_, ?_⟩
  · show (g.pre.head?.getD g.la).f ≤ ((trimP g.dir g.la below s g.pre).2.1.head?.getD g.la).f
    rw [t3]; exact c1
  · show allR ((trimP g.dir g.la below s g.pre).2.1 ++ [g.la]) = (allR (g.pre ++ [g.la])).drop (((trimP g.dir g.la below s g.pre).2.1.head?.getD g.la).f - (g.pre.head?.getD g.la).f)
    rw [t3]; exact c2
end Go.Proofs.Ytjjcilinghgphaa

/-! ### Plain laws: a log behind a crash, opened again and again. -/
namespace Go.Proofs.Ytjjcilinghgphaa
open Go.RowKit Go.Maps Go.Sort
set_option maxRecDepth 100000

theorem end_find (L : List (List UInt8)) (n : Nat) : ∀ m, m ≤ L.length → endTo L m ≤ n ∨ ∃ k, k < m ∧ endTo L k ≤ n ∧ n < endTo L (k + 1)
  | 0, _ => .inl (by rw [endTo_zero]; exact Nat.zero_le _)
  | m + 1, h => by
    rcases end_find L n m (by omega) with h1 | ⟨k, k1, k2⟩
    · by_cases h2 : endTo L (m + 1) ≤ n
      · exact .inl h2
      · exact .inr ⟨m, Nat.lt_succ_self _, h1, by omega⟩
    · exact .inr ⟨k, by omega, k2⟩
/-- A beginning of frames holds a beginning of the records. -/
theorem scan_take (L : List (List UInt8)) (hs : ∀ p ∈ L, p.length ≤ 262144) (n : Nat) : ∃ j, j ≤ L.length ∧ (scan ((joinF L).take n)).1 = L.take j ∧ ∀ m, m ≤ L.length → (joinF (L.take m)).length ≤ n → m ≤ j := by
  rcases end_find L n L.length (Nat.le_refl _) with h | ⟨k, k1, k2, k3⟩
  · rw [endTo_all L _ (Nat.le_refl _)] at h
    exact ⟨L.length, Nat.le_refl _, by rw [List.take_of_length_le h, scan_joinF' L hs, List.take_length], fun m hm _ => hm⟩
  · refine ⟨k, by omega, by rw [(scan_torn L hs k n k1 k2 k3).1], fun m hm hl => ?_⟩
    rcases Nat.lt_or_ge k m with h | h
    · exfalso
      have h1 := joinTake (L.take m) (k + 1)
      rw [List.take_take, Nat.min_eq_left (by omega)] at h1
      unfold endTo at k3
      omega
    · exact h
/-- Behind a crash: the segments ahead of the last one, the last one's bytes; all safe. -/
def Img (s : DS) (dir : List UInt8) (pre : List Sg) (f0 : Nat) (b : List UInt8) : Prop :=
  ∃ A, s.fs = A ++ [⟨segN dir f0, b, b.length⟩] ∧ A.map vwF = pre.map (vwS dir) ∧ ∀ f ∈ A, f.sf = f.dt.length
theorem crash_synced (picks : List Int) : ∀ (A : List Fl) (i : Nat) (r : List Fl), (∀ f ∈ A, f.sf = f.dt.length) → crashL picks i (A ++ r) = A ++ crashL picks i r
  | [], i, r, _ => rfl
  | f :: A, i, r, h => by
    show crashL picks i (f :: (A ++ r)) = _
    rw [crashL, if_pos (h f (by simp)).symm, crash_synced picks A i r fun g hg => h g (by simp [hg])]
    rfl
theorem Dur.crash {s : DS} {g : LG} {t : Option (List UInt8)} {B : Int} (h : Dur s g t) (hd : DOk B s) (picks : List Int) : ∃ n, (joinF (g.la.rs.take (g.sf + 1 - g.la.f))).length ≤ n ∧ Img (crashS s picks) g.dir g.pre g.la.f ((joinF (g.la.rs ++ t.toList)).take n) := by
  obtain ⟨A, q, h1, h2, h3, h4, h5, h6⟩ := h.ex
  have hq := (hd.each q (by rw [h1]; simp)).2.2
  have hc : crashL picks 0 s.fs = A ++ crashL picks 0 [q] := by rw [h1]; exact crash_synced picks A 0 [q] h5
  have hn : q.nm = segN g.dir g.la.f := h3
  by_cases hl : q.dt.length = q.sf
  · refine ⟨q.sf, h6, A, ?_, h2, h5⟩
    show crashL picks 0 s.fs = _
    have e : q = ⟨segN g.dir g.la.f, q.dt, q.dt.length⟩ := Fl.ext' hn rfl hl.symm
    rw [hc, crashL, if_pos hl, ← h4, List.take_of_length_le (by omega), ← e]
    rfl
  · have hk := keepN_le picks 0 (q.dt.length - q.sf)
    refine ⟨q.sf + keepN picks 0 (q.dt.length - q.sf), by omega, A, ?_, h2, h5⟩
    show crashL picks 0 s.fs = _
    rw [hc, crashL, if_neg hl, ← h4, hn, List.length_take, Nat.min_eq_left (by omega)]
    rfl
section
variable {s s' : DS} {dir : List UInt8} {pre : List Sg} {f0 : Nat} {b : List UInt8} {B : Int}
theorem Img.same (h : Img s dir pre f0 b) (hf : s'.fs = s.fs) : Img s' dir pre f0 b := by
  unfold Img
  rw [hf]; exact h
theorem Img.crash (h : Img s dir pre f0 b) (picks : List Int) : Img (crashS s picks) dir pre f0 b := by
  refine h.same ?_
  show crashL picks 0 s.fs = s.fs
  obtain ⟨A, h1, h2, h3⟩ := h
  have := crash_synced picks s.fs 0 [] fun f hf => by
    rw [h1] at hf
    rcases List.mem_append.1 hf with hf | hf
    · exact h3 f hf
    · rw [List.mem_singleton] at hf; subst hf; rfl
  rw [List.append_nil] at this
  rw [this]
  exact List.append_nil _
theorem Img.sync (h : Img s dir pre f0 b) (hs : Srt s.fs) {g : LG} (hg : g.lnm = segN dir f0) : Img (syncL s g).s dir pre f0 b := by
  refine h.same ?_
  have hss : (syncL s g).s = (syncS s g.lnm).1 := by unfold syncL; split <;> rfl
  rw [hss]
  by_cases h0 : (syncS s g.lnm).2 = 0
  · obtain ⟨k1, k2, k3, k4⟩ := errW_did h0
    show (errW s (hasE s g.lnm) _).1.fs = _
    rw [k3]
    show updF g.lnm _ (fallS s).1.fs = _
    rw [k4]
    obtain ⟨A, h1, h2, h3⟩ := h
    rw [h1] at hs ⊢
    rw [hg]
    exact upd_mid (pre := A) (r := []) (f := ⟨segN dir f0, b, b.length⟩) hs _
  · exact (errW_keep h0).1
/-- What is asked of the segments. -/
structure Lnk (pre : List Sg) (f0 : Nat) (rs : List (List UInt8)) : Prop where
  num : ∀ x ∈ pre, 1 ≤ x.f ∧ x.f ≤ 99999999
  rl : ∀ x ∈ pre, ∀ r ∈ x.rs, r.length ≤ 262144
  f1 : 1 ≤ f0
  f2 : f0 ≤ 99999999
  ch : ChainS (pre ++ [⟨f0, rs⟩])
theorem links_img {dir : List UInt8} {q : Fl} {f0 : Nat} (hq : numS dir q.nm = f0) (rs : List (List UInt8)) : ∀ {l : List Fl} {m : List Sg}, l.map vwF = m.map (vwS dir) → (∀ x ∈ m, x.f ≤ 99999999 ∧ ∀ r ∈ x.rs, r.length ≤ 262144) → ChainS (m ++ [⟨f0, rs⟩]) → linksB dir (l ++ [q]) = true
  | [], _, _, _, _ => rfl
  | f :: l, [], h, _, _ => by simp at h
  | [f], [x], h, hb, hc => by
    have h1 : vwF f = vwS dir x := (List.cons.inj h).1
    obtain ⟨e1, e2, e3⟩ := sgOf_vw h1 (hb x (by simp)).1 (hb x (by simp)).2
    have e5 : (scan f.dt).1 = x.rs := congrArg Sg.rs e1
    have hc1 : f0 = x.f + x.rs.length := hc.1
    show (linkB dir f q && linksB dir [q]) = true
    unfold linkB
    rw [e2, e3, e5, hq, hc1]
    simp [linksB]
  | [f], x :: y :: m, h, _, _ => by simp at h
  | f :: g :: l, [x], h, _, _ => by simp at h
  | f :: g :: l, x :: y :: m, h, hb, hc => by
    rw [List.map_cons, List.map_cons] at h
    obtain ⟨h1, h2⟩ := List.cons.inj h
    have h2' : (g :: l).map vwF = (y :: m).map (vwS dir) := h2
    obtain ⟨h3, _⟩ := List.cons.inj (show vwF g :: l.map vwF = vwS dir y :: m.map (vwS dir) from h2)
    obtain ⟨e1, e2, e3⟩ := sgOf_vw h1 (hb x (by simp)).1 (hb x (by simp)).2
    obtain ⟨_, _, e4⟩ := sgOf_vw h3 (hb y (by simp)).1 (hb y (by simp)).2
    have e5 : (scan f.dt).1 = x.rs := congrArg Sg.rs e1
    have hc' : y.f = x.f + x.rs.length ∧ ChainS ((y :: m) ++ [⟨f0, rs⟩]) := hc
    show (linkB dir f g && linksB dir ((g :: l) ++ [q])) = true
    rw [links_img hq rs h2' (fun z hz => hb z (List.mem_cons_of_mem _ hz)) hc'.2]
    unfold linkB
    rw [e2, e3, e4, e5, hc'.1]
    simp
/-- Open behind a crash. -/
theorem Img.open (h : Img s dir pre f0 b) (hd : DOk B s) (hl : Lnk pre f0 (scan b).1) {room : Int} (d1 : 1 ≤ dir.length) (d2 : dir.length ≤ 11) (r1 : 64 ≤ room) (r2 : room ≤ 262144) (hup : s.dn = false) :
    ∃ b', Img (openL s dir room).s dir pre f0 b' ∧ (scan b').1 = (scan b).1 ∧ (s.ar = 0 → b' = joinF (scan b).1 ∧ ∃ s', openL s dir room = ⟨s', some ⟨dir, room, pre, ⟨f0, (scan b).1⟩, f0 + (scan b).1.length - 1⟩, 0⟩) := by
  obtain ⟨A, h1, h2, h3⟩ := h
  obtain ⟨q, hqd⟩ : ∃ q : Fl, q = ⟨segN dir f0, b, b.length⟩ := ⟨_, rfl⟩
  rw [← hqd] at h1
  have hqn : q.nm = segN dir f0 := by rw [hqd]
  have hqb : q.dt = b := by rw [hqd]
  have hqs : q.sf = b.length := by rw [hqd]
  have hnq : numS dir q.nm = f0 := by rw [hqn, numS_segN dir f0 hl.f2]
  have hb : ∀ x ∈ pre, x.f ≤ 99999999 ∧ ∀ r ∈ x.rs, r.length ≤ 262144 := fun x hx => ⟨(hl.num x hx).2, hl.rl x hx⟩
  have hsg : segF dir s.fs = A ++ [q] := by
    rw [h1, segF_append, segF_all h2 hl.num]
    congr 1
    unfold segF
    rw [List.filter_cons_of_pos (by rw [hnq]; exact decide_eq_true (by have := hl.f1; omega))]
    rfl
  have hlk : linksB dir (A ++ [q]) = true := links_img hnq _ h2 hb hl.ch
  have hgq : getF q.nm s.fs = some q := srt_get hd.srt (by rw [h1]; simp)
  have hj : joinedG dir room A q = ⟨dir, room, pre, ⟨f0, (scan b).1⟩, 0⟩ := by
    unfold joinedG
    rw [map_sgOf h2 hb]
    unfold sgOf
    rw [hnq, hqb]
  have hrs : ∀ p ∈ (scan b).1, p.length ≤ 262144 := (scan_join b.length b (Nat.le_refl _)).2.2.2
  have hkl := scan_le b
  have hjs := joinF_scan b
  rw [openL_mend (openA_zero d1 d2 r1 r2 hup) hsg hlk]
  have hmend : ∃ b', Img (mendS s q).1 dir pre f0 b' ∧ (scan b').1 = (scan b).1 ∧ ((mendS s q).2 = 0 → b' = joinF (scan b).1) ∧ (s.ar = 0 → (mendS s q).2 = 0 ∧ (mendS s q).1.dn = false ∧ (mendS s q).1.ar = 0) := by
    unfold mendS
    rw [hqb]
    by_cases hlt : (scan b).2 < b.length
    · rw [if_pos hlt]
      have hce : cutE s q.nm ((scan b).2 : Nat) = 0 := by
        unfold cutE
        rw [hgq]
        show (if _ then (1 : Int) else 0) = 0
        rw [if_neg (by rw [hqb]; omega)]
      by_cases h0 : (cutS s q.nm ((scan b).2 : Nat)).2 = 0
      · obtain ⟨k1, k2, k3, k4⟩ := errW_did h0
        have hfs : (cutS s q.nm ((scan b).2 : Nat)).1.fs = A ++ [⟨segN dir f0, b.take (scan b).2, (b.take (scan b).2).length⟩] := by
          show (errW s (cutE s q.nm _) _).1.fs = _
          rw [k3]
          show updF q.nm _ (fallS s).1.fs = _
          rw [k4, h1]
          have hs := hd.srt
          rw [h1] at hs
          rw [upd_mid (pre := A) (r := []) hs]
          show A ++ [(⟨q.nm, q.dt.take (scan b).2, min q.sf (scan b).2⟩ : Fl)] = _
          rw [hqn, hqb, hqs, List.length_take, Nat.min_comm]
        refine ⟨b.take (scan b).2, ⟨A, hfs, h2, h3⟩, ?_, fun _ => hjs.symm, fun ha => ⟨h0, ?_⟩⟩
        · rw [← hjs, scan_joinF' _ hrs]
        · show (errW s (cutE s q.nm _) _).1.dn = false ∧ (errW s (cutE s q.nm _) _).1.ar = 0
          rw [errW_free hup ha, if_pos hce]
          exact ⟨hup, ha⟩
      · refine ⟨b, ⟨A, ?_, h2, h3⟩, rfl, fun e => absurd e h0, fun ha => ?_⟩
        · rw [← hqd, ← h1]; exact (errW_keep h0).1
        · exfalso
          apply h0
          unfold cutS
          rw [errW_free hup ha, if_pos hce]
    · rw [if_neg hlt]
      exact ⟨b, ⟨A, by rw [← hqd]; exact h1, h2, h3⟩, rfl, fun _ => by rw [hjs, List.take_of_length_le (by omega)], fun ha => ⟨rfl, hup, ha⟩⟩
  obtain ⟨b', hi, hsc, hz, hfree⟩ := hmend
  have hsr := (mend_ok hd hgq).srt
  have hlnm : (joinedG dir room A q).lnm = segN dir f0 := by rw [hj]; rfl
  have his := hi.sync hsr hlnm
  refine ⟨b', ?_, hsc, fun ha => ?_⟩
  · unfold openM
    split
    · exact hi
    · split
      · exact his
      · exact his
  · obtain ⟨f1, f2, f3⟩ := hfree ha
    have hz' := hz f1
    refine ⟨hz', ?_⟩
    have hF : Fre (mendS s q).1 (joinedG dir room A q) := by
      refine ⟨f2, f3, ?_⟩
      obtain ⟨A', e1, e2, _⟩ := hi
      rw [e1, hj]
      show (A' ++ _).map vwF = (pre ++ [(⟨f0, (scan b).1⟩ : Sg)]).map (vwS dir)
      rw [List.map_append, List.map_append, e2, hz']
      rfl
    obtain ⟨g1, g2, g3⟩ := hF.sync hsr
    unfold openM
    rw [if_neg (by rw [f1]; simp), if_neg (by rw [g1]; simp), g3, hj]
    exact ⟨_, rfl⟩
end
/-- What the law keeps of a log: all that was appended and not lost. -/
structure Keep (seg : Int) (s : DS) (g : LG) (t : Option (List UInt8)) (all : List (List UInt8)) : Prop where
  du : Dur s g t
  rm : g.room = seg
  dir : g.dir = dL
  al : all.drop (g.first - 1) = g.all
  ln : all.length + 1 = g.next
  rl : ∀ r ∈ all, r.length ≤ 1000
  tl : ∀ p, t = some p → p.length ≤ 1000
theorem Keep.start {seg : Int} : Keep seg sN (gA seg [] 0) none [] := by
  refine ⟨⟨⟨[], ⟨segN dL 1, [], 0⟩, ?_, rfl, rfl, rfl, fun f hf => (by cases hf), Nat.le_of_eq (by simp [gA, joinF])⟩, fun _ => rfl⟩, rfl, rfl, ?_, rfl, fun r hr => (by cases hr), fun p h => (by cases h)⟩
  · unfold sN
    rw [create_new]
    rfl
  · simp [LG.all, LG.segs, gA, allR]
section
variable {seg : Int} {s s' : DS} {g : LG} {t : Option (List UInt8)} {all : List (List UInt8)} {B : Int}
theorem Keep.same (h : Keep seg s g t all) (hf : s'.fs = s.fs) (hd : s'.dn = false → s.dn = false) : Keep seg s' g t all := { h with du := h.du.same hf hd }
theorem Keep.arm (h : Keep seg s g t all) (n : Int) : Keep seg (armS s n) g t all := by
  refine h.same ?_ ?_ <;> (unfold armS; split)
  · rfl
  · rfl
  · exact id
  · exact id
theorem Keep.sync (h : Keep seg s g t all) (hs : Srt s.fs) : Keep seg (syncL s g).s (syncL s g).g t all := by
  obtain ⟨n1, n2, n3, n4, n5⟩ := syncL_next (s := s) (g := g)
  have e1 : (syncL s g).g.first = g.first := by unfold LG.first; rw [n2, n3]
  have e2 : (syncL s g).g.all = g.all := by unfold LG.all LG.segs; rw [n2, n3]
  exact ⟨(h.du.sync hs).1, n5.trans h.rm, n4.trans h.dir, by rw [e1, e2]; exact h.al, by rw [n1]; exact h.ln, h.rl, h.tl⟩
theorem Keep.trim (h : Keep seg s g t all) (hs : Srt s.fs) (hk : LOk s g) (below : Int) : Keep seg (trimL s g below).s (trimL s g below).g t all := by
  obtain ⟨d1, d2, d3⟩ := h.du.trim hs hk below
  have hp := hk.first_pos
  refine ⟨d1, h.rm, h.dir, ?_, h.ln, h.rl, h.tl⟩
  rw [d3, ← h.al, List.drop_drop]
  congr 1
  omega
theorem Keep.app (h : Keep seg s g t all) (hd : DOk B s) (hk : LOk s g) {p : List UInt8} (hk' : LOk (appL s g p).s (appL s g p).g) (hp : p.length ≤ 1000) :
    ∃ t', Keep seg (appL s g p).s (appL s g p).g t' (if (appL s g p).e = 0 then all ++ [p] else all) ∧ (t' = t ∨ (t' = some p ∧ (appL s g p).e ≠ 0 ∧ s.dn = false)) := by
  obtain ⟨t', d1, d2⟩ := h.du.app hk hd p
  obtain ⟨a1, a2⟩ := appL_all (s := s) (g := g) (p := p)
  obtain ⟨b1, b2⟩ := appL_room (s := s) (g := g) (p := p)
  have hn := hk'.all_len
  have hn0 := hk.all_len
  have hln := h.ln
  have hfp := hk.first_pos
  refine ⟨t', ⟨d1, b1.trans h.rm, b2.trans h.dir, ?_, ?_, ?_, ?_⟩, d2⟩
  · rw [a1, a2]
    split
    · rw [List.drop_append_of_le_length (by omega), h.al]
    · exact h.al
  · rw [← hn, a1, a2]
    split
    · rw [List.length_append, List.length_append, List.length_singleton]; omega
    · omega
  · split
    · intro r hr
      rcases List.mem_append.1 hr with hr | hr
      · exact h.rl r hr
      · rw [List.mem_singleton] at hr; subst hr; exact hp
    · exact h.rl
  · intro p' hp'
    rcases d2 with d2 | ⟨d2, _⟩
    · exact h.tl p' (d2 ▸ hp')
    · rw [d2] at hp'; cases hp'; exact hp
/-- Behind the crash. -/
structure Back (s : DS) (g : LG) (t : Option (List UInt8)) (j : Nat) (b : List UInt8) : Prop where
  img : Img s dL g.pre g.la.f b
  sc : (scan b).1 = (g.la.rs ++ t.toList).take j
  jl : j ≤ (g.la.rs ++ t.toList).length
  js : g.sf + 1 - g.la.f ≤ j
theorem Keep.rs_short (h : Keep seg s g t all) (hk : LOk s g) : (∀ x ∈ g.segs, ∀ r ∈ x.rs, r.length ≤ 1000) ∧ ∀ r ∈ g.la.rs ++ t.toList, r.length ≤ 1000 := by
  have h1 : ∀ x ∈ g.segs, ∀ r ∈ x.rs, r.length ≤ 1000 := fun x hx r hr => by
    have := mem_all hx hr
    rw [← h.al] at this
    exact h.rl r (List.mem_of_mem_drop this)
  refine ⟨h1, fun r hr => ?_⟩
  rcases List.mem_append.1 hr with hr | hr
  · exact h1 _ g.la_mem r hr
  · exact h.tl r (by cases t with | none => cases hr | some p => simp at hr; rw [hr])
theorem Keep.crash (h : Keep seg s g t all) (hd : DOk B s) (hk : LOk s g) (picks : List Int) : ∃ j b, Back (crashS s picks) g t j b := by
  obtain ⟨n, hn, hi⟩ := h.du.crash hd picks
  obtain ⟨j, j1, j2, j3⟩ := scan_take (g.la.rs ++ t.toList) (fun p hp => Nat.le_trans ((h.rs_short hk).2 p hp) (by decide)) n
  rw [h.dir] at hi
  refine ⟨j, _, hi, j2, j1, ?_⟩
  have hsf := hk.sfl
  unfold LG.next at hsf
  refine j3 _ (by rw [List.length_append]; omega) ?_
  rw [List.take_append_of_le_length (by omega)]
  exact hn
theorem Back.lnk {s0 : DS} {j : Nat} {b : List UInt8} (h : Back s g t j b) (K : Keep seg s0 g t all) (hk : LOk s0 g) : Lnk g.pre g.la.f (scan b).1 := by
  have hsub : ∀ x ∈ g.pre, x ∈ g.segs := fun x hx => List.mem_append_left _ hx
  exact ⟨fun x hx => ⟨(hk.num x (hsub x hx)).f1, (hk.num x (hsub x hx)).f2⟩, fun x hx r hr => Nat.le_trans ((K.rs_short hk).1 x (hsub x hx) r hr) (by decide), hk.la.f1, hk.la.f2, chain_last (b := ⟨g.la.f, (scan b).1⟩) hk.chain rfl⟩
/-- An Open that may be cut off, and a crash. -/
theorem Back.again {s0 : DS} {j : Nat} {b : List UInt8} (h : Back s g t j b) (K : Keep seg s0 g t all) (hk : LOk s0 g) (n : Int) (hd : DOk B (armS s n)) (hup : s.dn = false) (picks : List Int) : ∃ b', Back (crashS (openL (armS s n) dL seg).s picks) g t j b' := by
  have hf : (armS s n).fs = s.fs := by unfold armS; split <;> rfl
  have hu : (armS s n).dn = false := by unfold armS; split <;> exact hup
  obtain ⟨b', i1, i2, _⟩ := (h.img.same hf).open hd (h.lnk K hk) (room := seg) (by decide) (by decide) (by rw [← K.rm]; exact hk.r1) (by rw [← K.rm]; exact hk.r2) hu
  exact ⟨b', i1.crash picks, i2.trans h.sc, h.jl, h.js⟩
/-- What an Open behind it all leaves. -/
structure Opened (seg : Int) (g : LG) (t : Option (List UInt8)) (all : List (List UInt8)) (s' : DS) (g' : LG) : Prop where
  fst : g'.first = g.first
  saf : g.safe < g'.next
  sf : g'.sf = g'.next - 1
  nxt : g'.next ≤ all.length + 1 ∨ (g'.next = all.length + 2 ∧ ∃ p, t = some p)
  keep : Keep seg s' g' none ((all ++ t.toList).take (g'.next - 1))
theorem Back.done {s0 : DS} {j : Nat} {b : List UInt8} (h : Back s g t j b) (K : Keep seg s0 g t all) (hk : LOk s0 g) (hd : DOk B s) (hup : s.dn = false) (har : s.ar = 0) : ∃ s' g', openL s dL seg = ⟨s', some g', 0⟩ ∧ Opened seg g t all s' g' := by
  obtain ⟨b', i1, i2, i3⟩ := h.img.open hd (h.lnk K hk) (room := seg) (by decide) (by decide) (by rw [← K.rm]; exact hk.r1) (by rw [← K.rm]; exact hk.r2) hup
  obtain ⟨hb', s', hs'⟩ := i3 har
  have hjs := h.js
  have hjl := h.jl
  have hlen : (scan b).1.length = j := by rw [h.sc, List.length_take, Nat.min_eq_left hjl]
  have hal := hk.all_len
  have hln := K.ln
  have hfp := hk.first_pos
  have h1f := hk.la.f1
  have hpre : (allR g.pre).length + g.first = g.la.f := by
    have e : g.all = allR g.pre ++ g.la.rs := by simp [LG.all, LG.segs, allR]
    rw [e, List.length_append] at hal
    unfold LG.next at hal
    omega
  have hnx : g.next = g.la.f + g.la.rs.length := rfl
  rw [List.length_append] at hjl
  have htl : t.toList.length ≤ 1 := by cases t <;> simp
  refine ⟨s', _, hs', ?_, ?_, ?_, ?_, ?_⟩
  · unfold LG.first
    cases g.pre <;> rfl
  · show g.safe < g.la.f + (scan b).1.length
    unfold LG.safe
    omega
  · rfl
  · show g.la.f + (scan b).1.length ≤ _ ∨ (g.la.f + (scan b).1.length = _ ∧ _)
    cases t with
    | none => left; simp at hjl; omega
    | some p =>
      simp at hjl
      by_cases hj : j ≤ g.la.rs.length
      · left; omega
      · right; exact ⟨by omega, p, rfl⟩
  · have hn' : (⟨dL, seg, g.pre, ⟨g.la.f, (scan b).1⟩, g.la.f + (scan b).1.length - 1⟩ : LG).next = g.la.f + j := by show g.la.f + (scan b).1.length = _; rw [hlen]
    have hf' : (⟨dL, seg, g.pre, ⟨g.la.f, (scan b).1⟩, g.la.f + (scan b).1.length - 1⟩ : LG).first = g.first := by unfold LG.first; cases g.pre <;> rfl
    have ha' : (⟨dL, seg, g.pre, ⟨g.la.f, (scan b).1⟩, g.la.f + (scan b).1.length - 1⟩ : LG).all = allR g.pre ++ (scan b).1 := by simp [LG.all, LG.segs, allR]
    rw [hs'] at i1
    refine ⟨⟨?_, fun _ => rfl⟩, rfl, rfl, ?_, ?_, fun r hr => ?_, fun p hp => (by cases hp)⟩
    · obtain ⟨A, e1, e2, e3⟩ := i1
      refine ⟨A, _, e1, e2, rfl, ?_, e3, ?_⟩
      · show b' = joinF ((scan b).1 ++ [])
        rw [List.append_nil]; exact hb'
      · show (joinF ((scan b).1.take _)).length ≤ b'.length
        rw [hb']; exact joinTake _ _
    · rw [hn', hf', ha', h.sc, List.drop_take, List.drop_append_of_le_length (by omega), K.al]
      have e : g.all ++ t.toList = allR g.pre ++ (g.la.rs ++ t.toList) := by simp [LG.all, LG.segs, allR]
      rw [e, List.take_append, List.take_of_length_le (by omega)]
      congr 2
      omega
    · rw [hn', List.length_take, List.length_append, Nat.min_eq_left (by omega)]; omega
    · have hm := List.mem_of_mem_take hr
      rcases List.mem_append.1 hm with hm | hm
      · exact K.rl r hm
      · exact K.tl r (by cases t with | none => cases hm | some p => simp at hm; rw [hm])
end
end Go.Proofs.Ytjjcilinghgphaa

/-! ### Falls of the law WalKeeps, how they lie; the records that are kept; again. -/
namespace Go.Proofs.Ytjjcilinghgphaa
open Go.RowKit Go.Maps Go.Sort
set_option maxRecDepth 100000
attribute [local go_sem] bs_size bs_toList

structure FaV where
  st : Int
  l : List OpW
  pk : List Int
  ag : List Int
/-- Where it lies. -/
structure FaS where
  al : Option Addr
  cl : Nat
  ap : Option Addr
  cp : Nat
  aa : Option Addr
  ca : Nat
def faCells (f : FaV) (z : FaS) : List Value := [.int .i64 f.st, .slice z.al f.l.length z.cl, .slice z.ap f.pk.length z.cp, .slice z.aa f.ag.length z.ca]
structure FaRd (w : World) (T : Nat → Prop) (f : FaV) (z : FaS) : Prop where
  st : int64 f.st
  l : RdOw w T z.al f.l.length z.cl f.l
  pk : RdI w z.ap f.pk.length z.cp f.pk
  pkT : BlkIn z.ap f.pk.length T
  ag : RdI w z.aa f.ag.length z.ca f.ag
  agT : BlkIn z.aa f.ag.length T
theorem FaRd.below {T : Nat → Prop} {w w' : World} {f : FaV} {z : FaS} (h : FaRd w T f z) (hb : Below w.heap.size w w') : FaRd w' T f z :=
  ⟨h.st, h.l.below hb, h.pk.below hb, h.pkT, h.ag.below hb, h.agT⟩
theorem FaRd.mono {T T' : Nat → Prop} {w : World} {f : FaV} {z : FaS} (h : FaRd w T f z) (ht : ∀ b, T b → T' b) : FaRd w T' f z :=
  ⟨h.st, h.l.mono ht, h.pk, fun h0 b hb => ht b (h.pkT h0 b hb), h.ag, fun h0 b hb => ht b (h.agT h0 b hb)⟩
def RdFa (w : World) (T : Nat → Prop) (a : Option Addr) (n cap : Nat) (fs : List FaV) : Prop :=
  n = fs.length ∧ ∃ xs, Rd w a n cap 4 xs ∧ ∀ (i : Nat) (f : FaV), fs[i]? = some f → ∃ z, (∀ (j : Nat) (u : Value), (faCells f z)[j]? = some u → xs[i * 4 + j]? = some u) ∧ FaRd w T f z
theorem RdFa.below {T : Nat → Prop} {w w' : World} {a : Option Addr} {n cap : Nat} {fs : List FaV} (h : RdFa w T a n cap fs) (hb : Below w.heap.size w w') : RdFa w' T a n cap fs := by
  obtain ⟨h1, xs, h3, h4⟩ := h
  refine ⟨h1, xs, h3.below hb, fun i f hf => ?_⟩
  obtain ⟨z, hc, hr⟩ := h4 i f hf
  exact ⟨z, hc, hr.below hb⟩
theorem RdFa.mono {T T' : Nat → Prop} {w : World} {a : Option Addr} {n cap : Nat} {fs : List FaV} (h : RdFa w T a n cap fs) (ht : ∀ b, T b → T' b) : RdFa w T' a n cap fs := by
  obtain ⟨h1, xs, h3, h4⟩ := h
  refine ⟨h1, xs, h3, fun i f hf => ?_⟩
  obtain ⟨z, hc, hr⟩ := h4 i f hf
  exact ⟨z, hc, hr.mono ht⟩
theorem RdFa.at {w : World} {T : Nat → Prop} {a : Option Addr} {n cap : Nat} {fs : List FaV} (h : RdFa w T a n cap fs) {k : Nat} {f : FaV} (hf : fs[k]? = some f) :
    ∃ b off z, a = some ⟨b, off, none⟩ ∧ FaRd w T f z ∧ w.cell? ⟨b, off + k * 4, none⟩ = some (.int .i64 f.st) ∧ w.cell? ⟨b, off + k * 4 + 1, none⟩ = some (.slice z.al f.l.length z.cl) ∧ w.cell? ⟨b, off + k * 4 + 2, none⟩ = some (.slice z.ap f.pk.length z.cp) ∧
      w.cell? ⟨b, off + k * 4 + 3, none⟩ = some (.slice z.aa f.ag.length z.ca) := by
  obtain ⟨rfl, xs, h3, h4⟩ := h
  have hk : k < fs.length := (List.getElem?_eq_some_iff.1 hf).1
  obtain ⟨z, hc, hr⟩ := h4 k f hf
  obtain ⟨b, off, rfl, _, hcell⟩ := h3.at (by omega)
  refine ⟨b, off, z, rfl, hr, hcell _ _ (hc 0 _ rfl), ?_, ?_, ?_⟩
  · rw [Nat.add_assoc]; exact hcell _ _ (hc 1 _ rfl)
  · rw [Nat.add_assoc]; exact hcell _ _ (hc 2 _ rfl)
  · rw [Nat.add_assoc]; exact hcell _ _ (hc 3 _ rfl)
/-- Falls that are handed in. -/
theorem rdFa_open {H : Type} {enc : TypeId × Value → H} {w : World} {base : Nat} {sp : Nat → Bool} {held : Bool} {fuel : Nat} {a : Option Addr} {len cap : Nat} {x : DataW H × List MemPlace}
    (h : DataW.trod enc Try.prog w base sp held fuel 62 (Value.slice a len cap).cells.toList = some x) : ∃ fs, RdFa w (fun b => b < w.heap.size) a len cap fs := by
  obtain ⟨xs, hr, m, hel⟩ := rd_open (size := 4) Try.underlying62 (by kernel_rfl) (by decide) h
  obtain ⟨fs, h1, h2⟩ := choose_list (P := fun i (f : FaV) => ∃ z, (∀ (j : Nat) (u : Value), (faCells f z)[j]? = some u → xs[i * 4 + j]? = some u) ∧ FaRd w (fun b => b < w.heap.size) f z) len fun i hi => by
    obtain ⟨y, hy⟩ := hel i hi
    obtain ⟨_, n, hf⟩ := field_of Try.underlying64 hy
    obtain ⟨y0, h0⟩ := hf 0 _ rfl
    obtain ⟨y1, h1⟩ := hf 1 _ rfl
    obtain ⟨y2, h2⟩ := hf 2 _ rfl
    obtain ⟨y3, h3⟩ := hf 3 _ rfl
    obtain ⟨st, e0, hst⟩ := int_open Try.underlying3 h0
    obtain ⟨al, ll, cl, e1⟩ := slice_form Try.underlying27 h1
    obtain ⟨ap, lp, cp, e2⟩ := slice_form Try.underlying58 h2
    obtain ⟨aa, la, ca, e3⟩ := slice_form Try.underlying58 h3
    rw [e1] at h1
    rw [e2] at h2
    rw [e3] at h3
    obtain ⟨os, ho⟩ := rdOw_open (a := al) (len := ll) (cap := cl) h1
    obtain ⟨p, hp⟩ := rdI_open (a := ap) (len := lp) (cap := cp) Try.underlying58 Try.underlying3 (by kernel_rfl) h2
    obtain ⟨g, hg⟩ := rdI_open (a := aa) (len := la) (cap := ca) Try.underlying58 Try.underlying3 (by kernel_rfl) h3
    obtain rfl : ll = os.length := ho.1
    obtain rfl : lp = p.length := hp.1
    obtain rfl : la = g.length := hg.1
    have c : ∀ {j : Nat} {v : Value}, j < 4 → (((xs.drop (i * 4)).take 4).drop j).take 1 = [v] → xs[i * 4 + j]? = some v := fun {j v} hj hv => by
      have := one_get hv
      rw [List.getElem?_take, if_pos hj, List.getElem?_drop] at this
      exact this
    refine ⟨⟨st, os, p, g⟩, ⟨al, cl, ap, cp, aa, ca⟩, fun j u hj => ?_, ⟨hst, ho, hp, hp.2.1.blkIn (by decide), hg, hg.2.1.blkIn (by decide)⟩⟩
    match j, hj with
    | 0, hj => cases hj; exact c (by decide) e0
    | 1, hj => cases hj; exact c (by decide) e1
    | 2, hj => cases hj; exact c (by decide) e2
    | 3, hj => cases hj; exact c (by decide) e3
    | j + 4, hj => simp [faCells] at hj
  exact ⟨fs, h1.symm, xs, hr, h2⟩
/-- A slice cut off behind. -/
theorem run_cutB {P : Program} {t e : TypeId} {z : Value} {bytes : Nat} (S : STy P t e z 1 bytes) {w : World} {base : Nat} {v : Value} {n : Nat} {xs : List Value} (h : w.ownsRow base e 1 v n xs) (l : Nat) (hl : l ≤ n) :
    ∃ v', (∀ w', (Instr.slice t v none (some (.int .i64 l)) none).run P w' = .ok v' w') ∧ w.ownsRow base e 1 v' l (xs.take l) ∧ (v'.ownBlock = v.ownBlock) := by
  obtain ⟨i, hi0, hi1, hi2, hi3⟩ := S.info
  obtain ⟨hxl, h⟩ := h
  rcases h with ⟨rfl, rfl⟩ | ⟨g, cap, cur, rfl, hb, hg, hnc, hcm, hcs, ht⟩
  · obtain rfl : l = 0 := by omega
    refine ⟨.slice none 0 0, fun w' => ?_, ⟨by simp, .inl ⟨rfl, rfl⟩⟩, rfl⟩
    simp [Instr.slice, run_underlying S.ht, Instr.sliceBounds, Instr.sliceBound, asIntOf, sizeOf, typeInfo, hi0, hi2]
  · have e2 : l ≤ cap := by omega
    refine ⟨.slice (some ⟨g, 0, none⟩) l cap, fun w' => ?_, ⟨by rw [List.length_take]; omega, .inr ⟨g, cap, cur, rfl, hb, hg, e2, hcm, hcs, ?_⟩⟩, rfl⟩
    · simp [Instr.slice, run_underlying S.ht, Instr.sliceBounds, Instr.sliceBound, asIntOf, sizeOf, typeInfo, hi0, hi2, e2, Addr.add_none]
    · rw [← ht, List.take_take, Nat.min_eq_left (by omega), Nat.mul_one]
section
variable {W0 w w' w1 w2 : World} {T T1 T2 : Nat → Prop} {v v' : Value} {vs : List Value} {ls : List (List UInt8)} {B : Int} {d : Nat} {s : DS}
theorem Ext.trans (h1 : Ext T w T1 w1) (h2 : Ext T1 w1 T2 w2) : Ext T w T2 w2 := by
  refine ⟨h1.1.trans' h2.1 (fun _ _ e => e) fun k hk e => ?_, fun k hk => ?_⟩
  · rcases h1.2 k e with e | e
    · exact e
    · omega
  · rcases h2.2 k hk with e | e
    · rcases h1.2 k e with e | e
      · exact .inl e
      · exact .inr ⟨e.1, Nat.lt_of_lt_of_le e.2 h2.1.size⟩
    · exact .inr ⟨Nat.le_trans h1.1.size e.1, e.2⟩
theorem Ext.of_new (hb : Below w.heap.size w w') : Ext T w T w' := ⟨Fr.of_new hb, fun _ hk => .inl hk⟩
theorem Ext.of_done (h : Fr T w w') : Ext T w (Sx T w w') w' := ⟨h, fun _ hk => hk⟩
/-- The records that the law keeps, in blocks of its own. -/
structure KA (W0 w : World) (T : Nat → Prop) (v : Value) (vs : List Value) (ls : List (List UInt8)) : Prop where
  own : w.ownsRow W0.heap.size 35 1 v ls.length vs
  nt : ∀ k, v.ownBlock = some k → ¬ T k
  each : ∀ (i : Nat) (l : List UInt8), ls[i]? = some l → ∃ ai ci, vs[i]? = some (.slice ai l.length ci) ∧ Rd8 w ai l.length ci l ∧ BlkIn ai l.length fun b => b < w.heap.size ∧ ¬ T b ∧ v.ownBlock ≠ some b
theorem KA.nil : KA W0 w T (.slice none 0 0) [] [] := ⟨World.ownsRow_nil _ _ _ _, fun k hk => (by simp [Value.ownBlock] at hk), fun i l h => by simp at h⟩
theorem KA.ext (h : KA W0 w T v vs ls) (he : Ext T w T1 w') : KA W0 w' T1 v vs ls := by
  refine ⟨ownsRow_keep h.own fun k hk => he.1.block k (World.ownsRow.lt h.own k hk).2 (h.nt k hk), fun k hk e => ?_, fun i l hl => ?_⟩
  · rcases he.2 k e with e | e
    · exact h.nt k hk e
    · have := (World.ownsRow.lt h.own k hk).2; omega
  · obtain ⟨ai, ci, h1, h2, h3⟩ := h.each i l hl
    refine ⟨ai, ci, h1, h2.keep0 he.1 fun h0 b hb e => (h3 h0 b hb).2.1 e, fun h0 b hb => ?_⟩
    obtain ⟨q1, q2, q3⟩ := h3 h0 b hb
    refine ⟨Nat.lt_of_lt_of_le q1 he.1.size, fun e => ?_, q3⟩
    rcases he.2 b e with e | e
    · exact q2 e
    · omega
theorem KA.new (h : KA W0 w T v vs ls) (hb : Below w.heap.size w w') : KA W0 w' T v vs ls := h.ext (Ext.of_new hb)
theorem KA.rd (h : KA W0 w T v vs ls) : ∃ a cap, v = .slice a ls.length cap ∧ Rd88 w a ls.length cap ls := by
  obtain ⟨a, cap, hv, hr⟩ := Rd.of_own h.own
  exact ⟨a, cap, hv, rfl, vs, hr, fun i l hl => by obtain ⟨ai, ci, h1, h2, _⟩ := h.each i l hl; exact ⟨ai, ci, h1, h2⟩⟩
/-- Cut off behind. -/
theorem KA.cut (h : KA W0 w T v vs ls) (n : Nat) (hn : n ≤ ls.length) : ∃ v', (∀ w', (Instr.slice 31 v none (some (.int .i64 n)) none).run Try.prog w' = .ok v' w') ∧ KA W0 w T v' (vs.take n) (ls.take n) := by
  obtain ⟨v', h1, h2, h3⟩ := run_cutB S88 h.own n hn
  refine ⟨v', h1, by rw [List.length_take, Nat.min_eq_left hn]; exact h2, fun k hk => h.nt k (h3 ▸ hk), fun i l hl => ?_⟩
  rw [List.getElem?_take] at hl
  split at hl
  · rename_i hi
    obtain ⟨ai, ci, e1, e2, e3⟩ := h.each i l hl
    exact ⟨ai, ci, by rw [List.getElem?_take, if_pos hi]; exact e1, e2, fun h0 b hb => ⟨(e3 h0 b hb).1, (e3 h0 b hb).2.1, by rw [h3]; exact (e3 h0 b hb).2.2⟩⟩
  · cases hl
/-- One more: a copy that was just made. -/
theorem KA.snoc {wx : World} {ai : Option Addr} {ci : Nat} {l : List UInt8} {base : Nat} (h : KA W0 w T v vs ls) (ht : ∀ k, T k → k < w.heap.size) (hb1 : Below w.heap.size w w1) (h8 : Own8 w1 w.heap.size 5 (.slice ai l.length ci) l)
    (hY : Below w1.heap.size w1 wx) (hbase : base = W0.heap.size) (hown : w2.ownsRow base 35 1 v' (ls.length + 1) (vs ++ [.slice ai l.length ci])) (hg : wx.grownBy w2 v.ownBlock) (hbk : v'.ownBlock = v.ownBlock ∨ v'.ownBlock = some wx.heap.size) : KA W0 w2 T v' (vs ++ [.slice ai l.length ci]) (ls ++ [l]) := by
  subst hbase
  have hvl : vs.length = ls.length := by have := h.own.1; omega
  have hs1 := hb1.size
  have hs2 := hY.size
  have hvb : ∀ k, v.ownBlock = some k → k < w.heap.size := fun k hk => (World.ownsRow.lt h.own k hk).2
  have hfr1 : Fr (fun k => v.ownBlock = some k) w1 w2 := (Fr.of_new hY).grown hg (fun k _ e => e)
  have hfr : Fr (fun k => v.ownBlock = some k) w w2 := (Fr.of_new hb1).trans hfr1
  refine ⟨by simpa using hown, fun k hk e => ?_, fun i m hm => ?_⟩
  · rcases hbk with e' | e'
    · rw [e'] at hk; exact h.nt k hk e
    · rw [e'] at hk; cases hk; have := ht _ e; omega
  · by_cases hi : i < ls.length
    · rw [List.getElem?_append_left hi] at hm
      obtain ⟨a, c, q1, q2, q3⟩ := h.each i m hm
      refine ⟨a, c, by rw [List.getElem?_append_left (by omega)]; exact q1, q2.keep0 hfr fun h0 b hb e => (q3 h0 b hb).2.2 e, fun h0 b hb => ?_⟩
      obtain ⟨p1, p2, p3⟩ := q3 h0 b hb
      refine ⟨Nat.lt_of_lt_of_le p1 hfr.size, p2, fun e => ?_⟩
      rcases hbk with e' | e'
      · rw [e'] at e; exact p3 e
      · rw [e'] at e; cases e; omega
    · rw [List.getElem?_append_right (by omega)] at hm
      have hl := (List.getElem?_eq_some_iff.1 hm).1
      rw [List.length_singleton] at hl
      have hi2 : i = ls.length := by omega
      subst hi2
      simp at hm
      subst hm
      have hbl : ∀ b, blk ai = some b → w.heap.size ≤ b ∧ b < w1.heap.size := fun b hb => World.ownsRow.lt h8 b (by rw [ownBlock_sl]; exact hb)
      obtain ⟨a8, c8, e8, hr8⟩ := h8.rd
      cases e8
      refine ⟨ai, ci, by rw [List.getElem?_append_right (by omega), hvl]; simp, hr8.keep0 hfr1 fun h0 b hb e => ?_, fun h0 b hb => ?_⟩
      · have := hvb b e; have := hbl b hb; omega
      · have hq := hbl b hb
        refine ⟨Nat.lt_of_lt_of_le hq.2 hfr1.size, fun e => ?_, fun e => ?_⟩
        · have := ht b e; omega
        · rcases hbk with e' | e'
          · rw [e'] at e; have := hvb b e; omega
          · rw [e'] at e; cases e; omega
/-- Open, and nothing said of what it answers. -/
def OpenDPost (W0 : World) (B : Int) (d : Nat) (T : Nat → Prop) (W : World) (s : DS) (e : Ending) (W' : World) : Prop := ∃ v T', e = .returned v ∧ DL W0 B d T' s W' ∧ Ext T W T' W'
theorem DL.openD (h : DL W0 B d T s w) (hB : B < 999999999990) (dir : List UInt8) (hd : dir.length ≤ 1000000) (room : Int) :
    Calls Try.prog 23 #[.pointer (some ⟨d, 0, none⟩), .string (bs dir), .int .i64 room] w (OpenDPost W0 (B + 3) d T w (openL s dir room).s) := by
  refine (h.open hB dir hd room).mono fun e W' hp => ?_
  unfold OpenedPost at hp
  cases hg : (openL s dir room).g with
  | none =>
    rw [hg] at hp
    obtain ⟨T', h1, h2, h3⟩ := hp
    exact ⟨_, T', h1, h2, h3⟩
  | some g =>
    rw [hg] at hp
    obtain ⟨l, T', h1, h2, h3⟩ := hp
    exact ⟨_, T', h1, h2.dl, h3⟩
end
def FaAt (w : World) (p : Nat) (f : FaV) (z : FaS) : Prop := ∀ (j : Nat) (u : Value), (faCells f z)[j]? = some u → w.cell? ⟨p, j, none⟩ = some u
theorem FaAt.keep {S : Nat → Prop} {w w' : World} {p : Nat} {f : FaV} {z : FaS} (h : FaAt w p f z) (hf : Fr S w w') (hp : ¬ S p) : FaAt w' p f z := fun j u hu => by
  have h1 := h j u hu
  have hlt := World.block_lt_of_cell? _ _ h1
  exact (hf.cell (p := ⟨p, j, none⟩) hlt hp).trans h1
end Go.Proofs.Ytjjcilinghgphaa

/-! ### again: Open behind a crash, cut off some times. -/
namespace Go.Proofs.Ytjjcilinghgphaa
open Go.RowKit Go.Maps Go.Sort
set_option maxRecDepth 100000
attribute [local go_sem] bs_size bs_toList
abbrev faV (f : FaV) (z : FaS) : Value := .agg #[.int .i64 f.st, .slice z.al f.l.length z.cl, .slice z.ap f.pk.length z.cp, .slice z.aa f.ag.length z.ca]
def AgainPost (W0 : World) (B : Int) (d : Nat) (T : Nat → Prop) (w : World) (seg : Int) (g : LG) (t : Option (List UInt8)) (all : List (List UInt8)) (e : Ending) (w' : World) : Prop :=
  ∃ l T' s' g', e = .returned (.pointer (some ⟨l, 0, none⟩)) ∧ LL W0 (B + 100) d l T' s' g' w' ∧ Ext T w T' w' ∧ Opened seg g t all s' g'
theorem crash_ok {s : DS} {B : Int} {W : World} {d : Nat} {S : Nat → Prop} {p : List Int} (h : DkS B W d S (crashS s p)) : DOk B (crashS s p) ∧ (crashS s p).dn = false ∧ (crashS s p).ar = 0 := ⟨h.ok, rfl, rfl⟩
set_option maxHeartbeats 8000000 in
theorem again_any {W0 : World} {B : Int} (hB : B < 900000000000) {d : Nat} {T : Nat → Prop} {s : DS} {seg : Int} {g : LG} {t : Option (List UInt8)} {all : List (List UInt8)} (f : FaV) (z : FaS) (w : World) (h : DL W0 B d T s w) (K : Keep seg s g t all) (hk : LOk s g)
    (hf : FaRd W0 (fun b => b < W0.heap.size) f z) :
    Calls Try.prog 32 #[.pointer (some ⟨d, 0, none⟩), .int .i64 seg, faV f z] w (AgainPost W0 B d T w seg g t all) := by
  have HD := Lib.hid h
  have HK := Lib.hid K
  have HO := Lib.hid hk
  have HF := Lib.hid hf
  obtain ⟨st, os, pk, ag⟩ := f
  obtain ⟨al, cl, ap, cp, aa, ca⟩ := z
  have hagm : ag.length ≤ 9223372036854775807 := Nat.le_trans hf.ag.2.1.1 hf.ag.2.1.2.1
  have HT0 : Hid (∀ b, b < W0.heap.size → ¬ T b) := fun b hb e => by have := h.t0 b e; omega
  obtain ⟨w0, hw0⟩ : ∃ w0, w.alloc (.cells #[.int .i64 st, .slice al os.length cl, .slice ap pk.length cp, .slice aa ag.length ca] 64) = w0 := ⟨_, rfl⟩
  have hb0 : Below w.heap.size w w0 := by rw [← hw0]; exact (Below.refl _ _).alloc (Nat.le_refl _) _
  have hg0 := heap_alloc_new w (.cells #[.int .i64 st, .slice al os.length cl, .slice ap pk.length cp, .slice aa ag.length ca] 64)
  have HA0 : Hid (FaAt w0 w.heap.size ⟨st, os, pk, ag⟩ ⟨al, cl, ap, cp, aa, ca⟩) := fun j u hu => by
    rw [← hw0, cell_of_row _ w.heap.size j _ _ (0, 0) hg0]
    simpa [faCells] using hu
  have c2 : (w.alloc (.cells #[.int .i64 st, .slice al os.length cl, .slice ap pk.length cp, .slice aa ag.length ca] 64)).cell? ⟨w.heap.size, 2, none⟩ = some (.slice ap pk.length cp) := cell_of_row _ _ 2 _ _ _ hg0
  have HW0 := Lib.hid hw0
  have HB0 := Lib.hid hb0
  have HLT : Hid (∀ k, T k → k < w.heap.size) := h.dk.lt
  clear h K hk hf hw0 hb0 hg0
  go_enter Try.func32, Try.ntmps32
  go_wp2_with fail
  rw [HW0.out]
  obtain ⟨p, hp⟩ : ∃ p, w.heap.size = p := ⟨_, rfl⟩
  rw [hp] at HA0 ⊢
  have HPT : Hid (¬ T p) := fun e => by have := HLT.out p e; omega
  have HDW0 := Lib.hid (HD.out.new HB0.out)
  clear c2 hp HD HW0
  go_at_call 47
  refine (crash_any d T _ s _ _ _ pk w0 HDW0.out.dk (HF.out.pk.below HDW0.out.bl) (fun h0 b hb => HT0.out b (HF.out.pkT h0 b hb))).mono ?_
  rintro e w1 ⟨rfl, hd1⟩
  obtain ⟨j, b0, hbk⟩ := HK.out.crash HDW0.out.dk.ok HO.out pk
  have HD1 := Lib.hid (HDW0.out.done hd1)
  have HE1 := Lib.hid (Ext.of_done hd1.2)
  have HB1 := Lib.hid hbk
  clear hd1 hbk
  go_wp2_with fail
  go_loopw [7] (fun i wr => ∃ (k : Nat) (T1 : Nat → Prop) (s1 : DS) (b1 : List UInt8), k ≤ 4 ∧ k ≤ ag.length ∧ i = .int .i64 (k : Nat) ∧ Hid (DL W0 (B + 3 * (k : Nat)) d T1 s1 wr) ∧ Hid (Ext T w0 T1 wr) ∧ Hid (Back s1 g t j b1 ∧ s1.dn = false ∧ s1.ar = 0)) (fun i _ => 4 - (intOf i).toNat)
  case atStart => exact ⟨0, _, _, b0, Nat.zero_le _, Nat.zero_le _, rfl, HD1.out.mono (by omega), HE1.out, HB1.out, rfl, rfl⟩
  case round =>
    clear HD1 HE1 HB1
    obtain ⟨k, T1, s1, b1, hk4, hka, rfl, HD, HE, HB⟩ := hrel
    have HA := Lib.hid (HA0.out.keep HE.out.1 HPT.out)
    have z2 := HA.out 2 _ rfl
    have z3 := HA.out 3 _ rfl
    by_cases hgo : k < ag.length ∧ k < 4
    · obtain ⟨h1, h2⟩ := hgo
      obtain ⟨x, hx⟩ : ∃ x, ag[k]? = some x := ⟨_, List.getElem?_eq_getElem h1⟩
      obtain ⟨_, hra, _⟩ := HF.out.ag.below HD.out.bl
      obtain ⟨b2, o2, hz, _, hc2⟩ := hra.at (show 0 < ag.length * 1 by omega)
      have hck := hc2 k (.int .i64 x) (by rw [List.getElem?_map, hx]; rfl)
      simp only [] at hz
      subst hz
      have hr1 : -5 < Int.tmod x 5 := by have := Int.lt_tmod_of_pos x (show (0 : Int) < 5 by decide); omega
      have hr2 : Int.tmod x 5 < 5 := Int.tmod_lt_of_pos x (by decide)
      clear hx hra hc2
      go_wp2_with fail
      go_at_call 29
      refine (arm_any d T1 _ s1 _ (by omega) wr HD.out.dk).mono ?_
      rintro e w2 ⟨rfl, hd2⟩
      have HD2 := Lib.hid (HD.out.done hd2)
      have HE2 := Lib.hid (HE.out.trans (Ext.of_done hd2.2))
      clear hd2 hck
      obtain ⟨n, hn⟩ : ∃ n, armS s1 (Int.tmod x 5 + 1) = armS s1 n := ⟨_, rfl⟩
      rw [hn] at HD2
      clear hn
      go_wp2_with fail
      go_at_call 23
      refine (HD2.out.openD (by omega) dL (by decide) seg).mono ?_
      rintro e w3 ⟨v3, T3, rfl, hd3, he3⟩
      have HD3 := Lib.hid hd3
      have HE3 := Lib.hid (HE2.out.trans he3)
      have HA3 := Lib.hid (HA0.out.keep HE3.out.1 HPT.out)
      clear hd3 he3 z2 z3
      have z2 := HA3.out 2 _ rfl
      go_wp2_with fail
      go_at_call 47
      refine (crash_any d T3 _ _ _ _ _ pk w3 HD3.out.dk (HF.out.pk.below HD3.out.bl) (fun h0 b hb e => by have h1 := HF.out.pkT h0 b hb; have h2 := HD3.out.t0 b e; omega)).mono ?_
      rintro e w4 ⟨rfl, hd4⟩
      obtain ⟨b', hbk⟩ := HB.out.1.again HK.out HO.out n HD2.out.dk.ok HB.out.2.1 pk
      have HD4 := Lib.hid ((HD3.out.done hd4).mono (B' := B + 3 * ((k + 1 : Nat) : Int)) (by omega))
      have HE4 := Lib.hid (HE3.out.trans (Ext.of_done hd4.2))
      have HB4 := Lib.hid hbk
      clear hd4 hbk z2
      go_wp2_with fail
      go_roundw
      case rel => exact ⟨k + 1, _, _, b', by omega, by omega, by go_num, HD4.out, HE4.out, HB4.out, rfl, rfl⟩
      case measure => simp [intOf]; omega
    · have hgx : (decide (k < ag.length) = true ∧ decide ((k : Int) < 4) = false) ∨ decide (k < ag.length) = false := by
        by_cases h : k < ag.length
        · exact .inl ⟨by simpa using h, by simp; omega⟩
        · exact .inr (by simpa using h)
      clear hgo
      rcases hgx with ⟨g1, g2⟩ | g1
      all_goals
        go_wp2_with fail
        go_at_call 23
        obtain ⟨s', g', ho, hop⟩ := HB.out.1.done HK.out HO.out HD.out.dk.ok HB.out.2.1 HB.out.2.2
        refine (HD.out.open (by omega) dL (by decide) seg).mono ?_
        rintro e w5 hp
        rw [ho] at hp
        obtain ⟨l, T5, rfl, hl, he⟩ := hp
        have HL := Lib.hid (hl.mono (B' := B + 100) (by omega))
        have HE5 := Lib.hid ((Ext.of_new (T := T) HB0.out).trans (HE.out.trans he))
        have HOP := Lib.hid hop
        clear hl he hop ho z2 z3
        go_wp2_with fail
        go_ret
        exact ⟨l, T5, s', g', rfl, HL.out, HE5.out, HOP.out⟩
end Go.Proofs.Ytjjcilinghgphaa
