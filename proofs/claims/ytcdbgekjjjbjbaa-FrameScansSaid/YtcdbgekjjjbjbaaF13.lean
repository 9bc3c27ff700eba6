/-
  Lists of lists of bytes that are written over; the walk of FrameScans.
-/
import Derived.Test.YtcdbgekjjjbjbaaF12
import Derived.Test.YtcdbgekjjjbjbaaF8
import Derived.Test.YtcdbgekjjjbjbaaF5
namespace Go.Proofs.Ytcdbgekjjjbjbaa
open Go.RowKit
set_option maxRecDepth 100000

theorem row_set {w : World} {g i : Nat} {cs cs' : Array Value} {t : TypeId} {v : Value} (hg : w.heap[g]? = some (.cells cs t (0, 0))) (he : cs.setIfInBounds i v = cs') : (w.setCell ⟨g, i, none⟩ v).heap[g]? = some (.cells cs' t (0, 0)) := by
  rw [heap_setCell_same w g i cs t v hg, he]
theorem Own88.at {w : World} {base : Nat} {v : Value} {vs : List Value} {ls : List (List UInt8)} (h : Own88 w base v vs ls) {i : Nat} {l : List UInt8} (hl : ls[i]? = some l) :
    ∃ g cap a c, v = .slice (some ⟨g, 0, none⟩) ls.length cap ∧ vs[i]? = some (.slice a l.length c) ∧ w.cell? ⟨g, i, none⟩ = some (.slice a l.length c) ∧ w.frozen? ⟨g, i, none⟩ = false ∧ Own8 w base 5 (.slice a l.length c) l ∧ base ≤ g ∧ g < w.heap.size := by
  have hlt := (List.getElem?_eq_some_iff.1 hl).1
  have hvl : vs.length = ls.length := by simpa using h.1.1
  obtain ⟨u, hu⟩ : ∃ u, vs[i]? = some u := ⟨_, List.getElem?_eq_getElem (by omega)⟩
  have ho := h.2.1 i u l hu hl
  obtain ⟨a, c, rfl, _⟩ := ho.rd
  rcases h.1.2 with ⟨_, h2⟩ | ⟨g, cap, cur, rfl, hb, hg, hnc, hcm, hcs, ht⟩
  · rw [h2] at hlt; omega
  · refine ⟨g, cap, a, c, rfl, hu, ?_, frozen_of_row w g _ _ _ hg, ho, hb, (Array.getElem?_eq_some_iff.1 hg).1⟩
    rw [cell_of_row w g i _ _ _ hg]
    rw [← ht, List.getElem?_take] at hu
    split at hu
    · simpa using hu
    · cases hu
theorem ownsRow_set {w : World} {base : Nat} {e : TypeId} {g n cap : Nat} {xs : List Value} (h : w.ownsRow base e 1 (.slice (some ⟨g, 0, none⟩) n cap) n xs) (i : Nat) (u : Value) : (w.setCell ⟨g, i, none⟩ u).ownsRow base e 1 (.slice (some ⟨g, 0, none⟩) n cap) n (xs.set i u) := by
  rcases h.2 with ⟨h1, _⟩ | ⟨g', cap', cur, h1, hb, hg, hnc, hcm, hcs, ht⟩
  · cases h1
  · simp at h1
    obtain ⟨rfl, rfl⟩ := h1
    refine ⟨by simpa using h.1, .inr ⟨g, cap, cur.setIfInBounds i u, rfl, hb, row_set hg rfl, hnc, hcm, by simpa using hcs, ?_⟩⟩
    rw [Array.toList_setIfInBounds, ← ht, List.take_set]
theorem Own8.set {w : World} {base : Nat} {e : TypeId} {r c : Nat} {l : List UInt8} (h : Own8 w base e (.slice (some ⟨r, 0, none⟩) l.length c) l) (j : Nat) (y : UInt8) : Own8 (w.setCell ⟨r, j, none⟩ (.int .u8 (n8 y))) base e (.slice (some ⟨r, 0, none⟩) l.length c) (l.set j y) := by
  have := ownsRow_set h j (.int .u8 (n8 y))
  rw [set_B8] at this
  exact Own8.mk this (by simp) rfl
theorem Own88.split {w : World} {base : Nat} {v : Value} {vs : List Value} {ls : List (List UInt8)} (h : Own88 w base v vs ls) {i : Nat} {l : List UInt8} {u : Value} (hu : vs[i]? = some u) (hl : ls[i]? = some l) :
    Apart u v ∧ ∀ j x m, j ≠ i → vs[j]? = some x → ls[j]? = some m → Apart x u ∧ Apart u x ∧ Apart x v := by
  have ho := h.2.1 i u l hu hl
  refine ⟨own_apart ho h.1 (by decide), fun j x m hj hx hm => ?_⟩
  have hx' := h.2.1 j x m hx hm
  have p := h.2.2
  rw [List.pairwise_iff_getElem] at p
  obtain ⟨h1, e1⟩ := List.getElem?_eq_some_iff.1 hu
  obtain ⟨h2, e2⟩ := List.getElem?_eq_some_iff.1 hx
  have sym : ∀ a b : Value, Apart a b → Apart b a := fun a b hab => by
    rcases hab with hab | hab
    · unfold Apart
      cases hb : b.ownBlock with
      | none => exact .inl rfl
      | some k => right; rw [hab]; simp
    · exact .inr fun e => hab e.symm
  have hap : Apart x u := by
    rcases Nat.lt_or_ge i j with hlt | hge
    · have := p i j h1 h2 hlt
      rw [e1, e2] at this; exact sym _ _ this
    · have := p j i h2 h1 (by omega)
      rw [e1, e2] at this; exact this
  exact ⟨hap, sym _ _ hap, own_apart hx' h.1 (by decide)⟩
theorem apart_no {u v : Value} {k : Nat} (h : Apart u v) (hk : v.ownBlock = some k) : u.ownBlock ≠ some k := by
  rcases h with h | h
  · rw [h]; simp
  · rw [← hk]; exact h
/-- A byte of one of them written. -/
theorem Own88.wr {w : World} {base : Nat} {v : Value} {vs : List Value} {ls : List (List UInt8)} (h : Own88 w base v vs ls) {i : Nat} {l : List UInt8} {r c : Nat} (hu : vs[i]? = some (.slice (some ⟨r, 0, none⟩) l.length c)) (hl : ls[i]? = some l) (j : Nat) (y : UInt8) :
    Own88 (w.setCell ⟨r, j, none⟩ (.int .u8 (n8 y))) base v vs (ls.set i (l.set j y)) := by
  obtain ⟨s1, s2⟩ := h.split hu hl
  have hb : (Value.slice (some ⟨r, 0, none⟩) l.length c).ownBlock = some r := rfl
  have hlt := (List.getElem?_eq_some_iff.1 hl).1
  refine ⟨?_, fun q x m hx hm => ?_, h.2.2⟩
  · rw [List.length_set]
    refine ownsRow_keep h.1 fun k hk => Below.heap_setCell w _ _ k fun e => ?_
    have e' : r = k := e.symm
    subst e'
    have := apart_no (u := .slice (some ⟨r, 0, none⟩) l.length c) s1 hk
    exact this hb
  · rw [List.getElem?_set] at hm
    by_cases e : i = q
    · subst e
      rw [if_pos rfl, if_pos hlt] at hm
      rw [hu] at hx
      cases hx; cases hm
      exact (h.2.1 i _ l hu hl).set j y
    · rw [if_neg e] at hm
      have hx' := h.2.1 q x m hx hm
      refine ownsRow_keep hx' fun k hk => Below.heap_setCell w _ _ k fun e2 => ?_
      have e' : r = k := e2.symm
      subst e'
      exact apart_no (s2 q x m (fun e3 => e e3.symm) hx hm).1 hb hk
/-- One of them made longer. -/
theorem Own88.app {w w' : World} {base g cap n : Nat} {vs : List Value} {ls : List (List UInt8)} (h : Own88 w base (.slice (some ⟨g, 0, none⟩) n cap) vs ls) (hn : n = ls.length) {i : Nat} {l l' : List UInt8} {u u' : Value} (hu : vs[i]? = some u) (hl : ls[i]? = some l)
    (ho : Own8 w' base 5 u' l') (hg : w.grownBy w' u.ownBlock) (hb : u'.ownBlock = u.ownBlock ∨ u'.ownBlock = some w.heap.size) :
    Own88 (w'.setCell ⟨g, i, none⟩ u') base (.slice (some ⟨g, 0, none⟩) n cap) (vs.set i u') (ls.set i l') := by
  obtain ⟨s1, s2⟩ := h.split hu hl
  have hlt := (List.getElem?_eq_some_iff.1 hl).1
  have hvl : vs.length = ls.length := by simpa using h.1.1
  have hgb : (Value.slice (some ⟨g, 0, none⟩) n cap).ownBlock = some g := rfl
  have hglt := (World.ownsRow.lt h.1 g hgb).2
  have hrow : w'.ownsRow base 22 1 (.slice (some ⟨g, 0, none⟩) n cap) ls.length vs := ownsRow_keep h.1 fun k hk => hg.block k (World.ownsRow.lt h.1 k hk).2 fun e => apart_no s1 hk e.symm
  have hu'g : u'.ownBlock ≠ some g := by
    rcases hb with hb | hb
    · rw [hb]; exact apart_no s1 hgb
    · rw [hb]; intro e; simp at e; omega
  refine ⟨?_, fun q x m hx hm => ?_, ?_⟩
  · rw [List.length_set, ← hn]
    rw [← hn] at hrow
    exact ownsRow_set hrow i u'
  · rw [List.getElem?_set] at hx hm
    by_cases e : i = q
    · subst e
      rw [if_pos rfl, if_pos (by omega)] at hx
      rw [if_pos rfl, if_pos hlt] at hm
      cases hx; cases hm
      refine ownsRow_keep ho fun k hk => Below.heap_setCell w' _ _ k fun e2 => ?_
      have e' : k = g := e2
      subst e'
      exact hu'g hk
    · rw [if_neg e] at hx hm
      have hx' := h.2.1 q x m hx hm
      obtain ⟨t1, t2, t3⟩ := s2 q x m (fun e3 => e e3.symm) hx hm
      have h1 : Own8 w' base 5 x m := ownsRow_keep hx' fun k hk => hg.block k (World.ownsRow.lt hx' k hk).2 fun e => apart_no t2 hk e.symm
      refine ownsRow_keep h1 fun k hk => Below.heap_setCell w' _ _ k fun e2 => ?_
      have e' : k = g := e2
      subst e'
      exact apart_no t3 hgb hk
  · rw [List.pairwise_iff_getElem]
    have p := h.2.2
    rw [List.pairwise_iff_getElem] at p
    intro a b ha hb' hab
    rw [List.length_set] at ha hb'
    rw [List.getElem_set, List.getElem_set]
    have other : ∀ q (hq : q < vs.length), q ≠ i → Apart u' (vs[q]'hq) ∧ Apart (vs[q]'hq) u' := fun q hq hne => by
      obtain ⟨m, hm⟩ : ∃ m, ls[q]? = some m := ⟨_, List.getElem?_eq_getElem (by omega)⟩
      have hx : vs[q]? = some (vs[q]'hq) := List.getElem?_eq_getElem hq
      obtain ⟨t1, t2, t3⟩ := s2 q _ m hne hx hm
      have hx' := h.2.1 q _ m hx hm
      rcases hb with hb | hb
      · unfold Apart; rw [hb]; exact ⟨t2, t1⟩
      · have key : ∀ k, (vs[q]'hq).ownBlock = some k → k ≠ w.heap.size := fun k hk e => by have := (World.ownsRow.lt hx' k hk).2; omega
        constructor
        · right; rw [hb]; intro e; exact key _ e.symm rfl
        · right; rw [hb]; intro e; exact key _ e rfl
    by_cases e1 : i = a
    · rw [if_pos e1, if_neg (by omega)]
      exact (other b hb' (by omega)).1
    · rw [if_neg e1]
      by_cases e2 : i = b
      · rw [if_pos e2]; exact (other a ha (by omega)).2
      · rw [if_neg e2]; exact p a b ha hb' hab

/-! ### written over -/
/-- The first i of them written over, each one longer. -/
def wo (ls : List (List UInt8)) (i : Nat) : List (List UInt8) := (ls.take i).map (fun l => List.replicate (l.length + 1) 88) ++ ls.drop i
theorem wo_zero (ls : List (List UInt8)) : wo ls 0 = ls := by simp [wo]
theorem wo_len (ls : List (List UInt8)) (i : Nat) : (wo ls i).length = ls.length := by simp [wo]; omega
theorem wo_at {ls : List (List UInt8)} {i : Nat} {l : List UInt8} (h : ls[i]? = some l) : (wo ls i)[i]? = some l := by
  have := (List.getElem?_eq_some_iff.1 h).1
  unfold wo
  rw [List.getElem?_append_right (by simp; omega), List.getElem?_drop]
  rw [List.length_map, List.length_take, show i + (i - min i ls.length) = i by omega]; exact h
theorem wo_next {ls : List (List UInt8)} {i : Nat} {l : List UInt8} (h : ls[i]? = some l) : (wo ls i).set i (List.replicate (l.length + 1) 88) = wo ls (i + 1) := by
  obtain ⟨hlt, e⟩ := List.getElem?_eq_some_iff.1 h
  unfold wo
  rw [List.set_append, if_neg (by simp; omega), List.take_add_one, h, List.map_append, List.append_assoc, List.drop_eq_getElem_cons hlt, List.length_map, List.length_take, show i - min i ls.length = 0 by omega]
  rfl
theorem wo_all {ls : List (List UInt8)} {i : Nat} {l : List UInt8} (h : (wo ls ls.length)[i]? = some l) : ∃ m, l = List.replicate m 88 := by
  unfold wo at h
  rw [List.take_length, List.drop_length, List.append_nil, List.getElem?_map] at h
  obtain ⟨m, _, rfl⟩ := Option.map_eq_some_iff.1 h
  exact ⟨_, rfl⟩
/-- The first j bytes written over. -/
def wz8 (l : List UInt8) (j : Nat) : List UInt8 := List.replicate j 88 ++ l.drop j
theorem wz8_len {l : List UInt8} {j : Nat} (h : j ≤ l.length) : (wz8 l j).length = l.length := by simp [wz8]; omega
theorem wz8_next {l : List UInt8} {j : Nat} (h : j < l.length) : (wz8 l j).set j 88 = wz8 l (j + 1) := by
  unfold wz8
  rw [List.set_append, if_neg (by simp), List.drop_eq_getElem_cons h, List.length_replicate, Nat.sub_self, List.replicate_succ', List.append_assoc]
  rfl
theorem wz8_all (l : List UInt8) : wz8 l l.length = List.replicate l.length 88 := by simp [wz8]
theorem set_get {α : Type} {l : List α} {i : Nat} {x : α} (h : i < l.length) : (l.set i x)[i]? = some x := by simp [h]
theorem Own8.here {w : World} {base : Nat} {e : TypeId} {a : Option Addr} {n c k : Nat} {l : List UInt8} (h : Own8 w base e (.slice a n c) l) (hk : k < l.length) : ∃ r u, a = some ⟨r, 0, none⟩ ∧ base ≤ r ∧ w.cell? ⟨r, k, none⟩ = some u ∧ w.frozen? ⟨r, k, none⟩ = false := by
  rcases h.2 with ⟨h1, h2⟩ | ⟨g, cap, cur, hv, hb, hg, hnc, hcm, hcs, ht⟩
  · omega
  · simp at hv
    obtain ⟨rfl, _, _⟩ := hv
    have hu : cur[k]? = some cur[k] := Array.getElem?_eq_getElem (by omega)
    exact ⟨g, _, rfl, hb, (cell_of_row w g k _ _ _ hg).trans hu, frozen_of_row w g k _ _ hg⟩
set_option maxHeartbeats 4000000 in
theorem scans_walk (a : Option Addr) (n cap : Nat) (l : List UInt8) (w : World) (h : Rd8 w a n cap l) : Calls Try.prog 5 #[.slice a n cap] w (TrueEnd w) := by
  have hrd := h
  obtain ⟨rfl, hr⟩ := h
  have hm := hr.2.1
  have hnc := hr.1
  unfold maxLen at hm
  have HR := Lib.hid hrd
  clear hr hrd
  go_enter Try.func5, Try.ntmps5
  go_wp2_with fail
  refine (firstT _).mono ?_
  rintro e w1 ⟨rfl, hb1⟩
  have HB1 := Lib.hid hb1
  clear hb1
  by_cases hbig : l.length ≤ 20000
  · have hd : decide ((20000 : Int) < l.length) = false := by simp; omega
    go_wp2_with fail
    refine (copyBytes_any _ _ _ l w1 (HR.out.below HB1.out) (by omega)).mono ?_
    rintro e w2 ⟨v3, rfl, ho3, hb2⟩
    obtain ⟨a3, c3, rfl, hr3⟩ := ho3.rd
    have HB2 := Lib.hid (HB1.out.trans (hb2.mono HB1.out.size))
    have HIN := Lib.hid hr3
    clear ho3 hb2 hr3 HB1
    go_wp2_with fail
    refine (scan_any _ _ _ l w2 HIN.out (by omega)).mono ?_
    rintro e w3 ⟨v4, vs, rfl, h88, hb3⟩
    have HB3 := Lib.hid hb3
    obtain ⟨rs, hrs⟩ : ∃ rs, (scan l).1 = rs := ⟨_, rfl⟩
    obtain ⟨ns, hns⟩ : ∃ ns, (scan l).2 = ns := ⟨_, rfl⟩
    have hns1 : ns ≤ l.length := by rw [← hns]; exact (scan_join _ l (Nat.le_refl _)).2.1
    have hrl : rs.length ≤ 20000 := by
      have J := scan_join _ l (Nat.le_refl _)
      have h1 := len_le_joinF (scan l).1
      rw [J.1] at h1
      rw [← hrs]
      have h2 : (l.take (scan l).2).length ≤ l.length := List.length_take_le' _ _
      omega
    have hrow : ∀ m ∈ rs, m.length ≤ 20000 := fun m hm => by
      have J := scan_join _ l (Nat.le_refl _)
      have h1 : m.length ≤ (joinF (scan l).1).length := by
        rw [hrs]
        clear J hrs h88
        induction rs with
        | nil => cases hm
        | cons p q ih =>
          simp only [joinF, List.length_append]
          rcases List.mem_cons.1 hm with e | e
          · subst e
            have : m.length ≤ (frameOf m).length := by rw [frameOf_length]; omega
            omega
          · have := ih (by simp at hrl; omega) e; omega
      rw [J.1] at h1
      have h2 : (l.take (scan l).2).length ≤ l.length := List.length_take_le' _ _
      omega
    have HSC := Lib.hid (refScan_any a _ cap l w3 ((HR.out.below HB2.out).below hb3) (by omega))
    rw [hrs] at h88
    rw [hns]
    have H88 := Lib.hid h88
    have HROW := Lib.hid hrow
    obtain ⟨a4, c4, rfl, hr4⟩ := h88.rd
    have HR4 := Lib.hid hr4
    have HRS := Lib.hid hrs
    have HNS := Lib.hid hns
    clear h88 hb3 hr4 hrow hrs hns
    go_wp2_with fail
    refine (HSC.out).mono ?_
    rintro e w4 ⟨v6, vs6, rfl, h886, hb4⟩
    rw [HRS.out] at h886
    rw [HNS.out]
    obtain ⟨a6, c6, rfl, hr6⟩ := h886.rd
    have HB4 := Lib.hid (HB3.out.trans (hb4.mono HB3.out.size))
    have hq := rows_any a4 a6 _ _ c4 c6 rs rs w4 (HR4.out.below hb4) hr6
    rw [show (rs == rs) = true by simp] at hq
    have HQ := Lib.hid hq
    have H884 := Lib.hid (H88.out.below (Nat.le_refl _) hb4)
    clear h886 hb4 hr6 hq HSC
    go_wp2_with fail
    refine (HQ.out).mono ?_
    rintro e w5 ⟨rfl, nd, hw5⟩
    have hb5 : Below w4.heap.size w4 w5 := by rw [hw5]; exact below_drewN (Below.refl _ _) nd
    have HB5 := Lib.hid (HB4.out.trans (hb5.mono HB4.out.size))
    have H885 := Lib.hid (H884.out.below (Nat.le_refl _) hb5)
    clear hw5 hb5 HQ H884 H88 HR4
    obtain ⟨m, hm4⟩ : ∃ m, rs.length = m := ⟨_, rfl⟩
    have HM := Lib.hid hm4
    rw [hm4] at hrl ⊢
    clear hm4
    go_wp2_with fail
    go_loopw [8, 9] (fun i _ wr => ∃ (J : Nat) (us : List Value), J ≤ m ∧ i = .int .i64 (J : Nat) ∧ Hid (Own88 wr w2.heap.size (.slice a4 m c4) us (wo rs J)) ∧ Hid (Below w2.heap.size w2 wr)) (fun i _ _ => m - (intOf i).toNat)
    case atStart => exact ⟨0, vs, Nat.zero_le _, rfl, by show Own88 _ _ _ _ _; rw [wo_zero, ← HM.out]; exact H885.out, HB5.out⟩
    case round =>
      obtain ⟨J, us, hJ, rfl, HO, HBR⟩ := hrel
      by_cases hlt : J < m
      · obtain ⟨p, hp⟩ : ∃ p, rs[J]? = some p := ⟨_, List.getElem?_eq_getElem (by have := HM.out; omega)⟩
        obtain ⟨g, cp, ap, c8, hv, hu, hc, hf, ho, hgb, hgl⟩ := HO.out.at (wo_at hp)
        have hpl := HROW.out p (List.mem_of_getElem? hp)
        simp at hv
        obtain ⟨rfl, hmm, rfl⟩ := hv
        clear hmm
        have HP := Lib.hid hp
        have HU := Lib.hid hu
        have HOP := Lib.hid ho
        have HC := Lib.hid hc
        have HG := Lib.hid hgl
        have HBS : Hid (w2.heap.size ≤ wr.heap.size) := HBR.out.size
        clear hu ho hp hgb hgl
        go_wp2_with (at_builtin; refine wpList_app2 S8 rfl _ _ rfl w2.heap.size rfl (HOP.out.alloc _) rfl (Rd.one _ _ _) (by simp [Value.oneCell']) (by omega) (by unfold maxLen; omega) (Nat.le_trans HBS.out ((Below.refl 0 wr).alloc (Nat.zero_le _) _).size) ?_)
        intro u' w' ho2 hg2 hb2
        obtain ⟨P, hP⟩ : ∃ P, p ++ [88] = P := ⟨_, rfl⟩
        have hPl : P.length = p.length + 1 := by rw [← hP]; simp
        have ho2 : Own8 w' w2.heap.size 5 u' P := Own8.mk ho2 hPl.symm (by rw [← hP, B8_append]; rfl)
        obtain ⟨a9, c9, rfl, _⟩ := ho2.rd
        have hba : Below wr.heap.size wr (wr.alloc (.cells #[.int .u8 88] 5)) := (Below.refl _ _).alloc (Nat.le_refl _) _
        have hsa : (wr.alloc (.cells #[.int .u8 88] 5)).heap.size = wr.heap.size + 1 := by simp
        rw [← hsa] at hb2
        have s1 := (HO.out.split HU.out (wo_at HP.out)).1
        have happ := (HO.out.below (Nat.le_refl _) hba).app (by rw [wo_len, HM.out]) HU.out (wo_at HP.out) ho2 hg2 hb2
        have hblk : w'.heap[g]? = wr.heap[g]? := (hg2.block g (Nat.lt_of_lt_of_le HG.out hba.size) (fun e => apart_no s1 rfl e.symm)).trans (hba.block g HG.out)
        have hc' : w'.cell? ⟨g, J, none⟩ = some (.slice ap p.length c8) := (World.cell?_of_block (w := wr) (a := ⟨g, J, none⟩) hblk).trans HC.out
        have hf' : w'.frozen? ⟨g, J, none⟩ = false := (World.frozen?_of_block (w := wr) (a := ⟨g, J, none⟩) hblk).trans hf
        have hgb := (World.ownsRow.lt HO.out.1 g rfl).1
        have hbel' : Below w2.heap.size w2 (w'.setCell ⟨g, J, none⟩ (.slice a9 P.length c9)) := ((HBR.out.trans (hba.mono HBS.out)).grown hg2 (Nat.le_trans HBS.out hba.size) (fun q hq => (World.ownsRow.lt HOP.out q hq).1)).setCell (p := ⟨g, J, none⟩) hgb _
        have HAP := Lib.hid happ
        have HBE := Lib.hid hbel'
        have HPL := Lib.hid hPl
        have hPb : P.length ≤ 20001 := by omega
        clear hc hf happ hbel' s1 hba hblk ho2 hg2 hb2 hgb hP hPl HOP HC HU
        go_wp2_with fail
        clear hc' hf'
        go_loopw [9] (fun j wx => ∃ (k : Nat), k ≤ P.length ∧ j = .int .i64 (k : Nat) ∧ Hid (Own88 wx w2.heap.size (.slice (some ⟨g, 0, none⟩) m c4) (us.set J (.slice a9 P.length c9)) ((wo rs J).set J (wz8 P k))) ∧ Hid (Below w2.heap.size w2 wx)) (fun j _ => P.length - (intOf j).toNat)
        case atStart => exact ⟨0, Nat.zero_le _, rfl, by show Own88 _ _ _ _ _; rw [show wz8 P 0 = P by simp [wz8]]; exact HAP.out, HBE.out⟩
        case round =>
          obtain ⟨k, hk, rfl, HK, HBX⟩ := hrel
          have hJl : J < (wo rs J).length := by rw [wo_len, HM.out]; exact hlt
          obtain ⟨g', cp', a', c', hv', hu', hc', hf', ho', hgb', hgl'⟩ := HK.out.at (set_get hJl)
          rw [wz8_len hk] at hu' hc' ho'
          simp at hv'
          obtain ⟨rfl, hmm, rfl⟩ := hv'
          clear hmm
          by_cases hkl : k < P.length
          · obtain ⟨r, x, rfl, hrb, hx, hfx⟩ := ho'.here (k := k) (by rw [wz8_len hk]; exact hkl)
            have hw := HK.out.wr (i := J) (l := wz8 P k) (r := r) (c := c') (by rw [wz8_len hk]; exact hu') (set_get hJl) k 88
            rw [List.set_set, wz8_next hkl] at hw
            have HWR := Lib.hid hw
            have HRB := Lib.hid hrb
            clear hu' ho' hf' hgb' hgl' hw hrb hJl
            go_wp2_with fail
            go_roundw
            case rel => exact ⟨k + 1, by omega, by go_num, HWR.out, HBX.out.setCell (p := ⟨r, k, none⟩) HRB.out _⟩
            case measure => simp [intOf]; omega
          · obtain rfl : k = P.length := by omega
            have hw := HK.out
            rw [wz8_all, HPL.out, wo_next HP.out] at hw
            have HW := Lib.hid hw
            clear hu' ho' hf' hgb' hgl' hw hJl
            go_wp2_with fail
            go_roundw
            case rel => exact ⟨J + 1, _, by omega, by go_num, HW.out, HBX.out⟩
            case measure => simp [intOf]; omega
      · obtain rfl : J = m := by omega
        go_wp2_with fail
        go_loopw [10, 11] (fun i _ wx => ∃ (I : Nat), I ≤ J ∧ i = .int .i64 (I : Nat) ∧ wr = wx) (fun i _ _ => J - (intOf i).toNat)
        case atStart => exact ⟨0, Nat.zero_le _, rfl, rfl⟩
        case round =>
          obtain ⟨I, hI, rfl, rfl⟩ := hrel
          by_cases hIt : I < J
          · obtain ⟨x, hx⟩ : ∃ x, (wo rs J)[I]? = some x := ⟨_, List.getElem?_eq_getElem (by rw [wo_len, HM.out]; exact hIt)⟩
            obtain ⟨q, rfl⟩ := wo_all (ls := rs) (by rw [HM.out]; exact hx)
            obtain ⟨g', cp', a', c', hv', hu', hc', hf', ho', hgb', hgl'⟩ := HO.out.at hx
            simp only [List.length_replicate] at hc' ho' hv'
            simp only [Value.slice.injEq] at hv'
            obtain ⟨rfl, hmm, rfl⟩ := hv'
            clear hmm
            have hq : q ≤ 9223372036854775807 := by
              have := ho'.rd
              obtain ⟨_, _, _, hr⟩ := this
              have h1 := hr.2.1
              have h2 := hr.2.2.1
              unfold maxLen at h2
              rw [List.length_replicate] at h1
              omega
            have HOQ := Lib.hid ho'
            clear hx hu' hf' ho' hgb' hgl'
            go_wp2_with fail
            go_loopw [11] (fun j wx => ∃ (k : Nat), k ≤ q ∧ j = .int .i64 (k : Nat) ∧ wr = wx) (fun j _ => q - (intOf j).toNat)
            case atStart => exact ⟨0, Nat.zero_le _, rfl, rfl⟩
            case round =>
              obtain ⟨k, hk, rfl, rfl⟩ := hrel
              by_cases hkl : k < q
              · obtain ⟨a2, c2, e2, hr2⟩ := HOQ.out.rd
                simp at e2
                obtain ⟨rfl, rfl⟩ := e2
                obtain ⟨r, off, rfl, _, hcc⟩ := hr2.at (by simp; omega)
                have hck := hcc k (by simpa using hkl)
                have e88 : n8 ((List.replicate q (88 : UInt8)).getD k 0) = 88 := by simp [List.getD, hkl]; rfl
                rw [e88] at hck
                clear hr2 hcc e88
                go_wp2_with fail
                go_roundw
                case rel => exact ⟨k + 1, by omega, by go_num, trivial⟩
                case measure => simp [intOf]; omega
              · obtain rfl : k = q := by omega
                go_wp2_with fail
                go_roundw
                case rel => exact ⟨I + 1, by omega, by go_num, trivial⟩
                case measure => simp [intOf]; omega
          · obtain rfl : I = J := by omega
            go_wp2_with fail
            refine (firstT _).mono ?_
            rintro e w7 ⟨rfl, hb7⟩
            have hby := bytes_any a3 a _ _ c3 cap l l w7 ((HIN.out.below HBR.out).below hb7) (((HR.out.below HB2.out).below HBR.out).below hb7)
            rw [show (l == l) = true by simp] at hby
            have HBY := Lib.hid hby
            have HB7 := Lib.hid hb7
            clear hby hb7
            go_wp2_with fail
            refine (HBY.out).mono ?_
            rintro e w8 ⟨rfl, rfl⟩
            go_wp2_with fail
            go_ret
            have h1 : Below w.heap.size w wr := HB2.out.trans (HBR.out.mono HB2.out.size)
            exact ⟨rfl, h1.trans (HB7.out.mono h1.size)⟩
  · have hd : decide ((20000 : Int) < l.length) = true := by simp; omega
    go_wp2_with fail
    refine (firstT _).mono ?_
    rintro e w2 ⟨rfl, hb2⟩
    go_wp2_with fail
    go_ret
    exact ⟨rfl, HB1.out.trans (hb2.mono HB1.out.size)⟩
end Go.Proofs.Ytcdbgekjjjbjbaa
