/-
  Plain laws: a log without falls opened again; trimmed.
-/
import Derived.Test.YtjjcilinghgphaaV25
namespace Go.Proofs.Ytjjcilinghgphaa
open Go.RowKit Go.Maps Go.Sort
set_option maxRecDepth 100000

theorem sgOf_vw {dir : List UInt8} {f : Fl} {x : Sg} (h : vwF f = vwS dir x) (hn : x.f ≤ 99999999) (hr : ∀ r ∈ x.rs, r.length ≤ 262144) : sgOf dir f = x ∧ (scan f.dt).2 = f.dt.length ∧ numS dir f.nm = x.f := by
  have h1 : f.nm = segN dir x.f := (Prod.mk.inj h).1
  have h2 : f.dt = joinF x.rs := (Prod.mk.inj h).2
  have hs := scan_joinF' x.rs hr
  have h3 : numS dir f.nm = x.f := by rw [h1, numS_segN dir x.f hn]
  refine ⟨?_, ?_, h3⟩
  · unfold sgOf
    rw [h3, h2, hs]
  · rw [h2, hs]
theorem map_sgOf {dir : List UInt8} : ∀ {l : List Fl} {m : List Sg}, l.map vwF = m.map (vwS dir) → (∀ x ∈ m, x.f ≤ 99999999 ∧ ∀ r ∈ x.rs, r.length ≤ 262144) → l.map (sgOf dir) = m
  | [], [], _, _ => rfl
  | [], _ :: _, h, _ => by simp at h
  | _ :: _, [], h, _ => by simp at h
  | f :: l, x :: m, h, hb => by
    rw [List.map_cons, List.map_cons] at h
    obtain ⟨h1, h2⟩ := List.cons.inj h
    rw [List.map_cons, map_sgOf h2 fun y hy => hb y (by simp [hy]), (sgOf_vw h1 (hb x (by simp)).1 (hb x (by simp)).2).1]
theorem segF_all {dir : List UInt8} : ∀ {l : List Fl} {m : List Sg}, l.map vwF = m.map (vwS dir) → (∀ x ∈ m, 1 ≤ x.f ∧ x.f ≤ 99999999) → segF dir l = l
  | [], _, _, _ => rfl
  | f :: l, [], h, _ => by simp at h
  | f :: l, x :: m, h, hb => by
    rw [List.map_cons, List.map_cons] at h
    obtain ⟨h1, h2⟩ := List.cons.inj h
    have h3 : f.nm = segN dir x.f := (Prod.mk.inj h1).1
    have h4 : 0 < numS dir f.nm := by rw [h3, numS_segN dir x.f (hb x (by simp)).2]; exact (hb x (by simp)).1
    have ih := segF_all h2 fun y hy => hb y (by simp [hy])
    unfold segF at ih ⊢
    rw [List.filter_cons_of_pos (by simpa using h4), ih]
theorem links_all {dir : List UInt8} : ∀ {l : List Fl} {m : List Sg}, l.map vwF = m.map (vwS dir) → (∀ x ∈ m, x.f ≤ 99999999 ∧ ∀ r ∈ x.rs, r.length ≤ 262144) → ChainS m → linksB dir l = true
  | [], _, _, _, _ => rfl
  | [_], _, _, _, _ => rfl
  | f :: g :: l, m, h, hb, hc => by
    match m, h, hb, hc with
    | x :: y :: m, h, hb, hc =>
      rw [List.map_cons, List.map_cons] at h
      obtain ⟨h1, h2⟩ := List.cons.inj h
      have h2' : (g :: l).map vwF = (y :: m).map (vwS dir) := h2
      obtain ⟨h3, _⟩ := List.cons.inj (show vwF g :: l.map vwF = vwS dir y :: m.map (vwS dir) from h2)
      obtain ⟨e1, e2, e3⟩ := sgOf_vw h1 (hb x (by simp)).1 (hb x (by simp)).2
      obtain ⟨_, _, e4⟩ := sgOf_vw h3 (hb y (by simp)).1 (hb y (by simp)).2
      have e5 : (scan f.dt).1 = x.rs := congrArg Sg.rs e1
      show (linkB dir f g && linksB dir (g :: l)) = true
      rw [links_all h2' (fun z hz => hb z (List.mem_cons_of_mem _ hz)) hc.2]
      unfold linkB
      rw [e2, e3, e4, e5, hc.1]
      simp
    | [_], h, _, _ => simp at h
    | [], h, _, _ => simp at h
theorem mem_all {g : LG} {x : Sg} (hx : x ∈ g.segs) {r : List UInt8} (hr : r ∈ x.rs) : r ∈ g.all := by
  unfold LG.all allR
  exact List.mem_flatten.2 ⟨x.rs, List.mem_map_of_mem hx, hr⟩
section
variable {s : DS} {g : LG}
theorem Fre.reopen {B : Int} (h : Fre s g) (hd : DOk B s) (hk : LOk s g) (hrl : ∀ r ∈ g.all, r.length ≤ 262144) : openL s g.dir g.room = ⟨(syncL s g).s, some { g with sf := g.next - 1 }, 0⟩ := by
  have hnum : ∀ x ∈ g.segs, 1 ≤ x.f ∧ x.f ≤ 99999999 := fun x hx => ⟨(hk.num x hx).f1, (hk.num x hx).f2⟩
  have hb : ∀ x ∈ g.segs, x.f ≤ 99999999 ∧ ∀ r ∈ x.rs, r.length ≤ 262144 := fun x hx => ⟨(hk.num x hx).f2, fun r hr => hrl r (mem_all hx hr)⟩
  have hsg := segF_all h.vw hnum
  have hmp := map_sgOf h.vw hb
  obtain ⟨A, q, h1, h2, h3, h4⟩ := h.split
  have hl := links_all h.vw hb hk.chain
  rw [openL_mend (openA_zero hk.d1 hk.d2 hk.r1 hk.r2 h.dn) (by rw [hsg]; exact h1) (by rw [← h1]; exact hl)]
  have hmap : A.map (sgOf g.dir) ++ [sgOf g.dir q] = g.pre ++ [g.la] := by
    have := hmp
    rw [h1, List.map_append] at this
    exact this
  obtain ⟨m1, m2⟩ := List.append_inj' hmap rfl
  have m3 : sgOf g.dir q = g.la := (List.cons.inj m2).1
  have hj : joinedG g.dir g.room A q = { g with sf := 0 } := by unfold joinedG; rw [m1, m3]
  have hwq : (scan q.dt).2 = q.dt.length := by
    have := scan_joinF' g.la.rs (hb g.la g.la_mem).2
    rw [h4, this]
  have hm : mendS s q = (s, 0) := by unfold mendS; rw [if_neg (by omega)]
  obtain ⟨e0, _, e2⟩ := h.sync hd.srt
  have h0 : Fre s { g with sf := 0 } := ⟨h.dn, h.ar, h.vw⟩
  obtain ⟨f0, _, f2⟩ := h0.sync hd.srt
  have hs : (syncL s { g with sf := 0 }).s = (syncL s g).s := by
    have hss : ∀ g' : LG, (syncL s g').s = (syncS s g'.lnm).1 := fun g' => by unfold syncL; split <;> rfl
    rw [hss, hss]; rfl
  unfold openM
  rw [hm, hj, if_neg (by simp), if_neg (by rw [f0]; simp), hs, f2]
  rfl
/-- What Trim leaves of a log without falls. -/
theorem trim_free (dir : List UInt8) (la : Sg) (below : Int) : ∀ (pre : List Sg) (s : DS) (g : LG), g.dir = dir → g.la = la → g.pre = pre → Fre s g → Srt s.fs → LOk s g →
    (trimP dir la below s pre).2.2 = 0 ∧ Fre (trimP dir la below s pre).1 { g with pre := (trimP dir la below s pre).2.1 } ∧ ∃ k, (trimP dir la below s pre).2.1 = pre.drop k ∧ (k = 0 ∨ (((pre.drop k).head?.getD la).f : Int) ≤ below)
  | [], s, g, h1, h2, h3, hF, hs, hk => by
    refine ⟨rfl, ?_, 0, rfl, .inl rfl⟩
    show Fre s { g with pre := [] }
    rw [← h3]; exact hF
  | x :: r, s, g, h1, h2, h3, hF, hs, hk => by
    unfold trimP
    by_cases hb : ((r.head?.getD la).f : Int) ≤ below
    · rw [if_pos hb]
      obtain ⟨q, A, hfs, hq, hA⟩ : ∃ q A, s.fs = q :: A ∧ vwF q = vwS g.dir x ∧ A.map vwF = (r ++ [g.la]).map (vwS g.dir) := by
        have hv := hF.vw
        unfold LG.segs at hv
        rw [h3] at hv
        cases hfs : s.fs with
        | nil => rw [hfs] at hv; simp at hv
        | cons q A =>
          rw [hfs, List.cons_append, List.map_cons, List.map_cons] at hv
          obtain ⟨e1, e2⟩ := List.cons.inj hv
          exact ⟨q, A, rfl, e1, e2⟩
      have hqn : q.nm = segN dir x.f := by rw [← h1]; exact (Prod.mk.inj hq).1
      have hdel : delF (segN dir x.f) s.fs = A := by
        rw [hfs] at hs ⊢
        obtain ⟨p1, _⟩ := List.pairwise_cons.1 hs
        unfold delF
        rw [List.filter_cons_of_neg (by simp [hqn]), List.filter_eq_self]
        intro f hf
        have := bB_ne (p1 f hf)
        rw [hqn] at this
        simpa using fun e => this e.symm
      have hhas : hasE s (segN dir x.f) = 0 := by
        unfold hasE
        rw [← hqn, srt_get hs (by rw [hfs]; simp)]; rfl
      have h0 : removeS s (segN dir x.f) = ({ s with wr := s.wr + 1, fs := A }, 0) := by
        unfold removeS
        rw [errW_free hF.dn hF.ar, hhas, if_pos rfl]
        show (({ s with wr := s.wr + 1, fs := delF (segN dir x.f) s.fs } : DS), (0 : Int)) = _
        rw [hdel]
      rw [h0, if_pos rfl]
      have hF' : Fre { s with wr := s.wr + 1, fs := A } { g with pre := r } := ⟨hF.dn, hF.ar, hA⟩
      have hs' : Srt A := by rw [hfs] at hs; exact (List.pairwise_cons.1 hs).2
      have hk' : LOk { s with wr := s.wr + 1, fs := A } { g with pre := r } := by
        have h := trim_keeps (dir := dir) (la := la) (below := ((r.head?.getD la).f : Int)) (x :: r) s g h1 h2 h3 hk
        have hst : ∀ z ∈ g.segs, z ∈ g.segs := fun z hz => hz
        have hsub : ∀ y ∈ r ++ [g.la], y ∈ g.segs := fun y hy => by unfold LG.segs; rw [h3]; exact List.mem_cons_of_mem _ hy
        have hrs : (x :: (r ++ [g.la])).Pairwise fun a b => a.f < b.f := by have := hk.rise; unfold LG.segs at this; rw [h3] at this; exact this
        have hxl : x.f < g.la.f := (List.pairwise_cons.1 hrs).1 g.la (by simp)
        have hch : ChainS (r ++ [g.la]) := by
          have := hk.chain
          unfold LG.segs at this
          rw [h3] at this
          cases r with
          | nil => trivial
          | cons y q => exact this.2
        refine ⟨hk.d1, hk.d2, hk.r1, hk.r2, fun y hy => hk.num y (hsub y hy), hch, (List.pairwise_cons.1 hrs).2, fun _ => ?_, hk.sfl⟩
        have hne : g.lnm ≠ segN dir x.f := fun e => by
          unfold LG.lnm at e
          rw [h1] at e
          have hx2 := (hk.num x (by unfold LG.segs; rw [h3]; simp)).f2
          have := segN_inj hk.la.f2 hx2 e
          omega
        show (getF g.lnm A).map Fl.dt = _
        rw [← hdel, get_del_other hne]
        exact hk.dat hF.dn
      obtain ⟨i1, i2, k, i3, i4⟩ := trim_free dir la below r _ { g with pre := r } h1 h2 rfl hF' hs' hk'
      refine ⟨i1, i2, k + 1, by rw [i3]; rfl, .inr ?_⟩
      rcases i4 with rfl | i4
      · exact hb
      · exact i4
    · rw [if_neg hb]
      refine ⟨rfl, ?_, 0, rfl, .inl rfl⟩
      show Fre s { g with pre := x :: r }
      rw [← h3]; exact hF
theorem chain_drop {la : Sg} : ∀ (pre : List Sg) (k : Nat), ChainS (pre ++ [la]) → ((pre.head?.getD la).f ≤ ((pre.drop k).head?.getD la).f) ∧ allR (pre.drop k ++ [la]) = (allR (pre ++ [la])).drop (((pre.drop k).head?.getD la).f - (pre.head?.getD la).f)
  | pre, 0, _ => by simp
  | [], k + 1, _ => by simp
  | x :: r, k + 1, h => by
    have hch : ChainS (r ++ [la]) := by
      cases r with
      | nil => trivial
      | cons y q => exact h.2
    have hx : (r.head?.getD la).f = x.f + x.rs.length := by
      cases r with
      | nil => exact h.1
      | cons y q => exact h.1
    obtain ⟨i1, i2⟩ := chain_drop r k hch
    have hd : (x :: r).drop (k + 1) = r.drop k := rfl
    rw [hd]
    have hh : ((x :: r).head?.getD la).f = x.f := rfl
    rw [hh]
    refine ⟨by omega, ?_⟩
    rw [i2, List.cons_append, allR_cons, List.drop_append]
    have e1 : x.rs.drop (((r.drop k).head?.getD la).f - x.f) = [] := List.drop_eq_nil_of_le (by omega)
    rw [e1, List.nil_append]
    congr 1
    omega
/-- Trim of a log without falls. -/
theorem FL.trim {B : Int} (h : Fre s g) (hd : DOk B s) (hk : LOk s g) (below : Int) :
    (trimL s g below).e = 0 ∧ Fre (trimL s g below).s (trimL s g below).g ∧ (trimL s g below).g.next = g.next ∧ (trimL s g below).g.sf = g.sf ∧ (trimL s g below).g.room = g.room ∧ (trimL s g below).g.dir = g.dir ∧
      g.first ≤ (trimL s g below).g.first ∧ ((trimL s g below).g.first = g.first ∨ ((trimL s g below).g.first : Int) ≤ below) ∧ (trimL s g below).g.all = g.all.drop ((trimL s g below).g.first - g.first) := by
  obtain ⟨t1, t2, k, t3, t4⟩ := trim_free g.dir g.la below g.pre s g rfl rfl rfl h hd.srt hk
  obtain ⟨c1, c2⟩ := chain_drop g.pre k hk.chain
  refine ⟨t1, t2, rfl, rfl, rfl, rfl, ?_, ?_, ?_⟩
  · show (g.pre.head?.getD g.la).f ≤ ((trimP g.dir g.la below s g.pre).2.1.head?.getD g.la).f
    rw [t3]; exact c1
  · show ((trimP g.dir g.la below s g.pre).2.1.head?.getD g.la).f = (g.pre.head?.getD g.la).f ∨ (((trimP g.dir g.la below s g.pre).2.1.head?.getD g.la).f : Int) ≤ below
    rw [t3]
    rcases t4 with rfl | t4
    · exact .inl rfl
    · exact .inr t4
  · show allR ((trimP g.dir g.la below s g.pre).2.1 ++ [g.la]) = (allR (g.pre ++ [g.la])).drop (((trimP g.dir g.la below s g.pre).2.1.head?.getD g.la).f - (g.pre.head?.getD g.la).f)
    rw [t3]; exact c2
/-- All that is safe, from the first on. -/
theorem from_whole (hk : LOk s g) (hs : g.sf = g.next - 1) : mayL g (g.first : Nat) = true ∧ fromL g (g.first : Nat) 1073741824 = g.all := by
  have h1 := hk.all_len
  have h2 := hk.next_le
  have h3 := hk.next_pos
  have h4 := hk.first_pos
  have hsf : g.safe = g.next - 1 := by unfold LG.safe; rw [hs]; omega
  refine ⟨by unfold mayL; simp; omega, ?_⟩
  unfold fromL manyL
  rw [hsf, show ((g.first : Nat) : Int).toNat - g.first = 0 by omega, List.drop_zero, List.take_of_length_le]
  omega
end
end Go.Proofs.Ytjjcilinghgphaa
