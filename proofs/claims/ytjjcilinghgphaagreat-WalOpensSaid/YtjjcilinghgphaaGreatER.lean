/-
 Lists of files compared: only draws; the laws' operations, in plain words.
 The reference's disk in memory; what reads it: at, name, Size.
 The reference's disk: Read.
-/
import Derived.Test.YtjjcilinghgphaaGreatEY
/-! ### Lists of files compared: only draws; the laws' operations, in plain words. -/
namespace Go.Proofs.YtjjcilinghgphaaGreat
open Go.RowKit Go.Maps Go.Sort
set_option maxRecDepth 100000
attribute [local go_sem] bs_size bs_toList

theorem draws_fr {w w' : World} (h : ∃ m, w' = w.drewN m) : Fr (fun _ => False) w w' := by
 obtain ⟨m, rfl⟩ := h; exact (Fr.refl _ w).drewN m
theorem draws_next {w w' : World} (h : ∃ m, w' = w.drewN m) (i : Nat) : ∃ m, w'.drewN i = w.drewN m := by
 obtain ⟨m, rfl⟩ := h; exact ⟨m + i, by rw [World.drewN_drewN]⟩
theorem draws_below {w w' : World} (h : ∃ m, w' = w.drewN m) : Below w.heap.size w w' := (draws_fr h).below (Nat.le_refl _) (fun _ _ h => h)
theorem RdFs.draws {T : Nat → Prop} {w w' : World} {a : Option Addr} {n cap : Nat} {l : List Fl} (h : RdFs w T a n cap l) (hd : ∃ m, w' = w.drewN m) : RdFs w' T a n cap l := h.keep (draws_fr hd) (fun _ _ h => h)
set_option maxHeartbeats 1000000 in
theorem filesEq_draws (a a' : Option Addr) (n n' cap cap' : Nat) (l l' : List Fl) (T T' : Nat → Prop) (w : World) (h : RdFs w T a n cap l) (h' : RdFs w T' a' n' cap' l') :
 Calls Tryz.prog 69 #[.slice a n cap, .slice a' n' cap'] w fun e w' => e = .returned (.bool (filesB l l')) ∧ ∃ m, w' = w.drewN m := by
 have H1 := Lib.hid h
 have H2 := Lib.hid h'
 have e1 := h.1
 have e2 := h'.1
 have hm1 : n ≤ 9223372036854775807 := by obtain ⟨_, _, vs, _, hr, _⟩ := h; exact Nat.le_trans hr.1 hr.2.1
 have hm2 : n' ≤ 9223372036854775807 := by obtain ⟨_, _, vs, _, hr, _⟩ := h'; exact Nat.le_trans hr.1 hr.2.1
 clear h h'
 by_cases hn : n = n'
 · subst hn
   have E1 := Lib.hid e1
   have E2 := Lib.hid e2
   clear e1 e2
   go_enter Tryz.func69, Tryz.ntmps69
   go_wp2_with fail
   go_loopw [5] (fun i wr => ∃ k : Nat, k ≤ n ∧ i = .int .i64 k ∧ Hid (l.take k = l'.take k) ∧ Hid (∃ m, wr = w.drewN m)) (fun i _ => n - (intOf i).toNat)
   case atStart => exact ⟨0, Nat.zero_le _, rfl, rfl, 0, rfl⟩
   case round =>
    obtain ⟨k, hk, rfl, HT, HB⟩ := hrel
    by_cases hlt : k < n
    · obtain ⟨f, hf⟩ : ∃ f, l[k]? = some f := ⟨_, List.getElem?_eq_getElem (by have := E1.out; omega)⟩
      obtain ⟨g, hg⟩ : ∃ g, l'[k]? = some g := ⟨_, List.getElem?_eq_getElem (by have := E2.out; omega)⟩
      obtain ⟨b, off, ai, ci, rfl, c1, c2, c3, hr, _⟩ := (H1.out.draws HB.out).at hf
      obtain ⟨b', off', ai', ci', rfl, c1', c2', c3', hr', _⟩ := (H2.out.draws HB.out).at hg
      have k1 : ∀ i, (convert 24 9 (.slice ai f.dt.length ci)).run Tryz.prog (wr.drewN i) = .ok (.string (bs f.dt)) (wr.drewN i) := fun i => run_toStr (P := Tryz.prog) (hr.keep ((Fr.refl (fun _ => False) wr).drewN i) (fun _ _ h => h)) 24 5 9 Tryz.underlying24 Tryz.underlying5 Tryz.underlying9
      have k2 : ∀ i, (convert 24 9 (.slice ai' g.dt.length ci')).run Tryz.prog (wr.drewN i) = .ok (.string (bs g.dt)) (wr.drewN i) := fun i => run_toStr (P := Tryz.prog) (hr'.keep ((Fr.refl (fun _ => False) wr).drewN i) (fun _ _ h => h)) 24 5 9 Tryz.underlying24 Tryz.underlying5 Tryz.underlying9
      have HF := Lib.hid hf
      have HG := Lib.hid hg
      have bad : Hid (f ≠ g → filesB l l' = false) := fun hne => filesB_no fun e => hne (by rw [e, hg] at hf; exact (Option.some.inj hf).symm)
      clear hf hg hr hr'
      go_wp2_with fail
      by_cases q1 : f.nm = g.nm
      · have d1 : (f.nm == g.nm) = true := by simpa using q1
        by_cases q2 : f.sf = g.sf
        · have d2 : ((f.sf : Int) != (g.sf : Int)) = false := by simp; omega
          by_cases q3 : f.dt = g.dt
          · have d3 : (f.dt == g.dt) = true := by simpa using q3
            have hfg : Hid (f = g) := Fl.ext' q1 q3 q2
            clear q1 q2 q3 bad
            go_quiet (fail)
            go_wp2_with fail
            go_roundw
            case rel => exact ⟨k + 1, by omega, by go_num, take_next HT.out HF.out (by rw [hfg.out]; exact HG.out), draws_next HB.out _⟩
            case measure => simp [intOf]; omega
          · have d3 : (f.dt == g.dt) = false := by simpa using q3
            have hb := Lib.hid (bad.out fun e => q3 (by rw [e]))
            clear q1 q2 q3 bad
            go_quiet (fail)
            go_wp2_with fail
            go_ret
            exact ⟨by rw [hb.out]; rfl, draws_next HB.out _⟩
        · have d2 : ((f.sf : Int) != (g.sf : Int)) = true := by simp; omega
          have hb := Lib.hid (bad.out fun e => q2 (by rw [e]))
          clear q1 q2 bad
          go_quiet (fail)
          go_wp2_with fail
          go_ret
          exact ⟨by rw [hb.out]; rfl, draws_next HB.out _⟩
      · have d1 : (f.nm == g.nm) = false := by simpa using q1
        have hb := Lib.hid (bad.out fun e => q1 (by rw [e]))
        clear q1 bad
        go_quiet (fail)
        go_wp2_with fail
        go_ret
        exact ⟨by rw [hb.out]; rfl, draws_next HB.out _⟩
    · obtain rfl : k = n := by omega
      have hr : Hid (filesB l l' = true) := by
       have := HT.out
       rw [List.take_of_length_le (by rw [← E1.out]; omega), List.take_of_length_le (by rw [← E2.out]; omega)] at this
       rw [this]; exact filesB_self _
      go_wp2_with fail
      go_ret
      exact ⟨by rw [hr.out]; rfl, HB.out⟩
 · have hne : (((n : Int) != n') = true) := by simp; omega
   have hr : Hid (filesB l l' = false) := filesB_no fun e => hn (by rw [e1, e2, e])
   clear e1 e2
   go_enter Tryz.func69, Tryz.ntmps69
   go_wp2_with fail
   go_ret
   exact ⟨by rw [hr.out]; rfl, 0, rfl⟩

/-! ### what operations do, in plain words -/
theorem fallS_dn {s : DS} (h : s.dn = false) : ((fallS s).2 = true ∧ (fallS s).1.dn = true ∧ (fallS s).1.wr = s.wr) ∨ ((fallS s).2 = false ∧ (fallS s).1.dn = false ∧ (fallS s).1.wr = s.wr + 1) := by
 unfold fallS
 split
 · split
   · exact .inl ⟨rfl, rfl, rfl⟩
   · exact .inr ⟨rfl, h, rfl⟩
 · exact .inr ⟨rfl, h, rfl⟩
/-- What an operation of kind k told: r behind s. -/
def Plain (k : Int) (s : DS) (r : DS × Int) : Prop :=
 (s.dn = true ∧ r.1.fs = s.fs ∧ r.1.wr = s.wr ∧ r.1.dn = true ∧ (1 ≤ k → k ≤ 6 → r.2 = 12)) ∨
 (s.dn = false ∧ r.2 = 0 ∧ (1 ≤ k → k ≤ 6 → r.1.wr = s.wr + 1)) ∨
 (s.dn = false ∧ r.2 = 12 ∧ r.1.dn = true ∧ r.1.wr = s.wr ∧ (r.1.fs = s.fs ∨ k = 2)) ∨
 (s.dn = false ∧ r.2 ≠ 0 ∧ r.2 ≠ 12 ∧ r.1.fs = s.fs ∧ r.1.dn = false ∧ r.1.wr = s.wr)
theorem plain_errW (k : Int) (s : DS) (e : Int) (g : DS → DS) (he : e ≠ 12) (hg : ∀ s, (g s).wr = s.wr) : Plain k s (errW s e g) := by
 unfold errW
 cases hd : s.dn with
 | true => exact .inl ⟨hd, rfl, rfl, hd, fun _ _ => rfl⟩
 | false =>
  simp only [Bool.false_eq_true, if_false]
  by_cases h0 : e = 0
  · rw [if_neg (by simpa using h0)]
    rcases fallS_dn hd with ⟨h1, h2, h3⟩ | ⟨h1, h2, h3⟩
    · rw [if_pos h1]; exact .inr (.inr (.inl ⟨hd, rfl, h2, h3, .inl (fallS_fs s)⟩))
    · rw [if_neg (by rw [h1]; decide)]; exact .inr (.inl ⟨hd, rfl, fun _ _ => by show (g _).wr = _; rw [hg, h3]⟩)
  · rw [if_pos h0]; exact .inr (.inr (.inr ⟨hd, h0, he, rfl, hd, rfl⟩))
theorem hasE_12 (s : DS) (n : List UInt8) : hasE s n ≠ 12 := by unfold hasE; split <;> decide
theorem creE_12 (s : DS) (n : List UInt8) : creE s n ≠ 12 := by unfold creE; repeat' split <;> try decide
theorem cutE_12 (s : DS) (n : List UInt8) (k : Int) : cutE s n k ≠ 12 := by unfold cutE; repeat' split <;> try decide
theorem renE_12 (s : DS) (a b : List UInt8) : renE s a b ≠ 12 := by unfold renE; repeat' split <;> try decide
theorem plain_append (s : DS) (n b : List UInt8) : Plain 2 s (appendS s n b) := by
 unfold appendS
 cases hd : s.dn with
 | true =>
  have he : appE s n b = 12 := by unfold appE; rw [hd]; rfl
  rw [if_pos (by rw [he]; decide)]
  exact .inl ⟨hd, rfl, rfl, hd, fun _ _ => he⟩
 | false =>
  have h12 : appE s n b ≠ 12 := by unfold appE; rw [hd]; simp only [Bool.false_eq_true, if_false]; repeat' split <;> try decide
  by_cases h0 : appE s n b = 0
  · rw [if_neg (by simpa using h0)]
    rcases fallS_dn hd with ⟨h1, h2, h3⟩ | ⟨h1, h2, h3⟩
    · rw [h1]; exact .inr (.inr (.inl ⟨hd, rfl, h2, h3, .inr rfl⟩))
    · rw [h1]; exact .inr (.inl ⟨hd, rfl, fun _ _ => h3⟩)
  · rw [if_pos h0]; exact .inr (.inr (.inr ⟨hd, h0, h12, rfl, hd, rfl⟩))
/-- What changes nothing that shows, or only the fall to come. -/
theorem plain_other {k : Int} (hk : ¬ (1 ≤ k ∧ k ≤ 6)) {s s' : DS} {e : Int} (h1 : s'.fs = s.fs) (h2 : s'.wr = s.wr) (h3 : s'.dn = s.dn) (he : e ≠ 12) : Plain k s (s', e) := by
 cases hd : s.dn with
 | true => exact .inl ⟨hd, h1, h2, h3.trans hd, fun a b => absurd ⟨a, b⟩ hk⟩
 | false =>
  by_cases h0 : e = 0
  · exact .inr (.inl ⟨hd, h0, fun a b => absurd ⟨a, b⟩ hk⟩)
  · exact .inr (.inr (.inr ⟨hd, h0, he, h1, h3.trans hd, h2⟩))
theorem plain_does (s : DS) (o : OpV) (h8 : o.k ≠ 8) : Plain o.k s (doesS s o) := by
 unfold doesS
 split
 · exact plain_errW _ _ _ _ (creE_12 _ _) fun _ => rfl
 · split
   · rename_i h; rw [h]; exact plain_append _ _ _
   · split
     · exact plain_errW _ _ _ _ (hasE_12 _ _) fun _ => rfl
     · split
       · exact plain_errW _ _ _ _ (cutE_12 _ _ _) fun _ => rfl
       · split
         · exact plain_errW _ _ _ _ (renE_12 _ _ _) fun _ => rfl
         · split
           · exact plain_errW _ _ _ _ (hasE_12 _ _) fun _ => rfl
           · rename_i h1 h2 h3 h4 h5 h6
             have hk : ¬ (1 ≤ o.k ∧ o.k ≤ 6) := by omega
             split
             · refine plain_other hk ?_ ?_ ?_ (by decide) <;> (unfold armS; split <;> rfl)
             · split
               · exact plain_other hk rfl rfl rfl (hasE_12 _ _)
               · exact plain_other hk rfl rfl rfl (by decide)
theorem get_errW (s : DS) (e : Int) (g : DS → DS) (k : List UInt8) (hg : ∀ s, getF k (g s).fs = getF k s.fs) : getF k (errW s e g).1.fs = getF k s.fs := by
 unfold errW
 split
 · rfl
 · split
   · rfl
   · split
     · rw [fallS_fs]
     · show getF k (g _).fs = _; rw [hg, fallS_fs]
/-- Other files stay. -/
theorem does_apart (s : DS) (o : OpV) (h8 : o.k ≠ 8) (k : List UInt8) (h1 : k ≠ o.nm) (h2 : k ≠ o.tn) : getF k (doesS s o).1.fs = getF k s.fs := by
 unfold doesS
 split
 · exact get_errW _ _ _ _ fun _ => get_ins_other h1 _
 · split
   · unfold appendS
     split
     · rfl
     · show getF k (updF _ _ s.fs) = _; exact get_upd_other _ (fun _ => rfl) h1
   · split
     · exact get_errW _ _ _ _ fun _ => get_upd_other _ (fun _ => rfl) h1
     · split
       · exact get_errW _ _ _ _ fun _ => get_upd_other _ (fun _ => rfl) h1
       · split
         · refine get_errW _ _ _ _ fun s' => ?_
           show getF k (renL _ _ s'.fs) = _
           unfold renL
           split
           · rfl
           · split
             · rfl
             · rw [get_ins_other h2, get_del_other h2, get_del_other h1]
         · split
           · exact get_errW _ _ _ _ fun _ => get_del_other h1
           · split
             · show getF k (armS _ _).fs = _
               unfold armS; split <;> rfl
             · split <;> rfl
theorem get_of_mem {l : List Fl} (hs : Srt l) {f : Fl} (hf : f ∈ l) : getF f.nm l = some f := by
 obtain ⟨g, hg⟩ : ∃ g, getF f.nm l = some g := by
  cases h : getF f.nm l with
  | none => exact absurd rfl (getF_none h f hf)
  | some g => exact ⟨g, rfl⟩
 obtain ⟨h1, h2⟩ := getF_some hg
 rw [hg, srt_one hs h1 hf h2]
end Go.Proofs.YtjjcilinghgphaaGreat

/-! ### The reference's disk in memory; what reads it: at, name, Size. -/
namespace Go.Proofs.YtjjcilinghgphaaGreat
open Go.RowKit Go.Maps Go.Sort
set_option maxRecDepth 100000
attribute [local go_sem] bs_size bs_toList

/-- The reference's disk at block c, in blocks S, in state s. Its bytes are never written in place. -/
def Rf (w : World) (c : Nat) (S : Nat → Prop) (s : DS) : Prop :=
 ∃ v vs, w.heap[c]? = some (.cells #[v, .bool s.dn, .int .i64 s.ar, .int .i64 s.wr] 45 (0, 0)) ∧ vs.length = s.fs.length ∧ w.ownsRow 0 26 3 v s.fs.length (flatF s.fs vs) ∧ S c ∧
  (∀ k, v.ownBlock = some k → S k ∧ k ≠ c) ∧ (∀ k, S k → k < w.heap.size) ∧
  ∀ (i : Nat) (f : Fl) (u : Value), s.fs[i]? = some f → vs[i]? = some u → ∃ ai ci, u = .slice ai f.dt.length ci ∧ Rd8 w ai f.dt.length ci f.dt ∧ BlkIn ai f.dt.length fun b => S b ∧ b ≠ c ∧ v.ownBlock ≠ some b
/-- What the reference's disk shows. -/
theorem Rf.row {w : World} {c : Nat} {S : Nat → Prop} {s : DS} (h : Rf w c S s) : ∃ a cap, w.cell? ⟨c, 0, none⟩ = some (.slice a s.fs.length cap) ∧ w.cell? ⟨c, 1, none⟩ = some (.bool s.dn) ∧ w.cell? ⟨c, 2, none⟩ = some (.int .i64 s.ar) ∧ w.cell? ⟨c, 3, none⟩ = some (.int .i64 s.wr) ∧ RdFs w S a s.fs.length cap s.fs := by
 obtain ⟨v, vs, hc, hl, hr, hS, hv, hlt, hd⟩ := h
 obtain ⟨a, cap, rfl, hrd⟩ := Rd.of_own hr
 refine ⟨a, cap, cell_of_row w c 0 _ _ _ hc, cell_of_row w c 1 _ _ _ hc, cell_of_row w c 2 _ _ _ hc, cell_of_row w c 3 _ _ _ hc, rfl, fun _ b hb => (hv b (by rw [ownBlock_sl]; exact hb)).1, vs, hl, hrd, fun i f u hf hu => ?_⟩
 obtain ⟨ai, ci, e, h8, hb⟩ := hd i f u hf hu
 exact ⟨ai, ci, e, h8, fun h0 b hb' => (hb h0 b hb').1⟩
theorem Rf.keep {w w' : World} {c : Nat} {S S' : Nat → Prop} {s : DS} (h : Rf w c S s) (hf : Fr S' w w') (hn : ∀ k, S k → ¬ S' k) : Rf w' c S s := by
 obtain ⟨v, vs, hc, hl, hr, hS, hv, hlt, hd⟩ := h
 refine ⟨v, vs, (hf.block c (hlt c hS) (hn c hS)).trans hc, hl, ownsRow_keep hr fun k hk => hf.block k (hlt k (hv k hk).1) (hn k (hv k hk).1), hS, hv, fun k hk => Nat.lt_of_lt_of_le (hlt k hk) hf.size, fun i f u hfi hui => ?_⟩
 obtain ⟨ai, ci, e, h8, hb⟩ := hd i f u hfi hui
 exact ⟨ai, ci, e, h8.keep0 hf fun h0 b hb' => hn b (hb h0 b hb').1, hb⟩
theorem Rf.below {w w' : World} {c : Nat} {S : Nat → Prop} {s : DS} (h : Rf w c S s) (hb : Below w.heap.size w w') : Rf w' c S s :=
 h.keep (Fr.of_below hb) fun k hk hk' => by obtain ⟨v, vs, _, _, _, _, _, hlt, _⟩ := h; have := hlt k hk; omega
/-- A file's place. -/
def atI (n : List UInt8) (l : List Fl) : Int := match l.findIdx? (fun f => f.nm == n) with | some i => (i : Nat) | none => -1
theorem atI_hit {n : List UInt8} {l : List Fl} {k : Nat} {f : Fl} (h : ∀ g ∈ l.take k, g.nm ≠ n) (hk : l[k]? = some f) (hf : f.nm = n) : atI n l = (k : Nat) := by
 have : l.findIdx? (fun f => f.nm == n) = some k := by
  obtain ⟨hlt, he⟩ := List.getElem?_eq_some_iff.1 hk
  rw [List.findIdx?_eq_some_iff_getElem]
  refine ⟨hlt, by rw [he]; simpa using hf, fun j hj => ?_⟩
  have := h l[j] (List.mem_of_getElem? (i := j) (by rw [List.getElem?_take, if_pos hj]; exact List.getElem?_eq_getElem _))
  simpa using this
 unfold atI; rw [this]
theorem atI_miss {n : List UInt8} {l : List Fl} (h : ∀ g ∈ l, g.nm ≠ n) : atI n l = -1 := by
 have : l.findIdx? (fun f => f.nm == n) = none := List.findIdx?_eq_none_iff.2 fun g hg => by simpa using h g hg
 unfold atI; rw [this]
set_option maxHeartbeats 1000000 in
theorem at_any (c : Nat) (S : Nat → Prop) (s : DS) (n : List UInt8) (hl : s.fs.length ≤ 64) (w : World) (h : Rf w c S s) :
 Calls Tryz.prog 24 #[.pointer (some ⟨c, 0, none⟩), .string (bs n)] w fun e w' => e = .returned (.int .i64 (atI n s.fs)) ∧ w = w' := by
 obtain ⟨a, cap, c0, _, _, _, hr⟩ := h.row
 clear h
 obtain ⟨m, hm⟩ : ∃ m, s.fs.length = m := ⟨_, rfl⟩
 rw [hm] at c0 hr hl
 have HR := Lib.hid hr
 have HM := Lib.hid hm
 clear hr hm
 go_enter Tryz.func24, Tryz.ntmps24
 go_wp2
 go_loopw [5] (fun i wr => ∃ k : Nat, k ≤ m ∧ i = .int .i64 k ∧ w = wr ∧ Hid (∀ g ∈ s.fs.take k, g.nm ≠ n)) (fun i _ => m - (intOf i).toNat)
 case atStart => exact ⟨0, Nat.zero_le _, rfl, rfl, fun g hg => by simp at hg⟩
 case round =>
  obtain ⟨k, hk, rfl, rfl, HT⟩ := hrel
  by_cases hlt : k < m
  · obtain ⟨f, hf⟩ : ∃ f, s.fs[k]? = some f := ⟨_, List.getElem?_eq_getElem (by have := HM.out; omega)⟩
    obtain ⟨b, off, ai, ci, rfl, q1, _, _, _, _⟩ := HR.out.at hf
    have HF := Lib.hid hf
    clear hf
    by_cases hn : f.nm = n
    · have e1 : (f.nm == n) = true := by simpa using hn
      have hres := Lib.hid (atI_hit HT.out HF.out hn)
      clear hn
      go_wp2
      go_ret
      exact ⟨by rw [hres.out]; rfl, rfl⟩
    · have e1 : (f.nm == n) = false := by simpa using hn
      have HT2 : Hid (∀ g ∈ s.fs.take (k + 1), g.nm ≠ n) := fun g hg => by
       rw [List.take_add_one, HF.out] at hg
       rcases List.mem_append.1 hg with h1 | h1
       · exact HT.out g h1
       · simp at h1; subst h1; exact hn
      clear hn
      go_wp2
      go_roundw
      case rel => exact ⟨k + 1, by omega, by go_num, trivial, HT2.out⟩
      case measure => simp [intOf]; omega
  · obtain rfl : k = m := by omega
    have hres : Hid (atI n s.fs = -1) := atI_miss fun g hg => HT.out g (by rw [List.take_of_length_le (by rw [HM.out]; omega)]; exact hg)
    go_wp2
    go_ret
    exact ⟨by rw [hres.out]; rfl, rfl⟩
theorem rname_any (n : List UInt8) (hn : n.length ≤ 9223372036854775807) (w : World) : Calls Tryz.prog 23 #[.string (bs n)] w fun e w' => e = .returned (.bool (nameOk n)) ∧ w = w' := by
 by_cases h1 : 1 ≤ n.length
 · by_cases h2 : n.length ≤ 20
   · have hr : Hid (nameOk n = true) := by show _ = _; unfold nameOk; simp [h1, h2]
     go_enter Tryz.func23, Tryz.ntmps23
     go_wp2
     go_ret
     exact ⟨by rw [hr.out]; simp <;> omega, rfl⟩
   · have hr : Hid (nameOk n = false) := by show _ = _; unfold nameOk; simp [h2]
     go_enter Tryz.func23, Tryz.ntmps23
     go_wp2
     go_ret
     exact ⟨by rw [hr.out]; simp <;> omega, rfl⟩
 · have hr : Hid (nameOk n = false) := by show _ = _; unfold nameOk; simp [h1]
   go_enter Tryz.func23, Tryz.ntmps23
   go_wp2
   go_ret
   exact ⟨by rw [hr.out]; simp <;> omega, rfl⟩
theorem tot_next' {l : List Fl} {k : Nat} {f : Fl} (h : l[k]? = some f) : tot (l.take (k + 1)) = tot (l.take k) + f.dt.length := by
 rw [List.take_add_one, h]; simp [tot]
theorem tot_take_le (l : List Fl) (k : Nat) : tot (l.take k) ≤ tot l := by
 have := congrArg tot (List.take_append_drop k l)
 simp only [tot, List.map_append, List.sum_append] at this ⊢; omega
set_option maxHeartbeats 1000000 in
theorem rsize_any (c : Nat) (S : Nat → Prop) (s : DS) (hl : s.fs.length ≤ 64) (ht : tot s.fs ≤ 4194304) (w : World) (h : Rf w c S s) :
 Calls Tryz.prog 27 #[.pointer (some ⟨c, 0, none⟩)] w fun e w' => e = .returned (.int .i64 (tot s.fs : Nat)) ∧ w = w' := by
 obtain ⟨a, cap, c0, _, _, _, hr⟩ := h.row
 clear h
 obtain ⟨m, hm⟩ : ∃ m, s.fs.length = m := ⟨_, rfl⟩
 rw [hm] at c0 hr hl
 have HR := Lib.hid hr
 have HM := Lib.hid hm
 clear hr hm
 go_enter Tryz.func27, Tryz.ntmps27
 go_wp2
 go_loopw [3, 4] (fun v i wr => ∃ k U : Nat, k ≤ m ∧ i = .int .i64 k ∧ v = .int .i64 (U : Nat) ∧ w = wr ∧ Hid (U = tot (s.fs.take k))) (fun _ i _ => m - (intOf i).toNat)
 case atStart => exact ⟨0, 0, Nat.zero_le _, rfl, rfl, rfl, rfl⟩
 case round =>
  obtain ⟨k, U, hk, rfl, rfl, rfl, HU⟩ := hrel
  by_cases hlt : k < m
  · obtain ⟨f, hf⟩ : ∃ f, s.fs[k]? = some f := ⟨_, List.getElem?_eq_getElem (by have := HM.out; omega)⟩
    obtain ⟨b, off, ai, ci, rfl, q1, q2, _, _, _⟩ := HR.out.at hf
    have hU := HU.out
    have htn := tot_next' hf
    have htl := tot_take_le s.fs (k + 1)
    have HTN : Hid (U + f.dt.length = tot (s.fs.take (k + 1))) := by show _ = _; rw [htn, hU]
    have hUl : U + f.dt.length ≤ 4194304 := by have := HTN.out; omega
    clear hf hU htn htl
    go_wp2
    go_roundw
    case rel => exact ⟨k + 1, U + f.dt.length, by omega, by go_num, by go_num, trivial, HTN.out⟩
    case measure => simp [intOf]; omega
  · obtain rfl : k = m := by omega
    have hres : Hid (U = tot s.fs) := by
     have := HU.out
     rw [List.take_of_length_le (by rw [HM.out]; omega)] at this; exact this
    go_wp2
    go_ret
    exact ⟨by rw [← hres.out]; rfl, rfl⟩
end Go.Proofs.YtjjcilinghgphaaGreat

/-! ### The reference's disk: Read. -/
namespace Go.Proofs.YtjjcilinghgphaaGreat
open Go.RowKit Go.Maps Go.Sort
set_option maxRecDepth 100000
attribute [local go_sem] bs_size bs_toList

theorem atI_get {n : List UInt8} {l : List Fl} : (∃ f k, getF n l = some f ∧ l[k]? = some f ∧ k < l.length ∧ atI n l = (k : Nat)) ∨ (getF n l = none ∧ atI n l = -1) := by
 cases hg : getF n l with
 | none => exact .inr ⟨rfl, atI_miss (getF_none hg)⟩
 | some f =>
  refine .inl ?_
  obtain ⟨hf, hp⟩ : ∃ k, l.findIdx? (fun f => f.nm == n) = some k := by
   cases hx : l.findIdx? (fun f => f.nm == n) with
   | some k => exact ⟨k, rfl⟩
   | none =>
    have := List.findIdx?_eq_none_iff.1 hx f (getF_some hg).1
    simp [(getF_some hg).2] at this
  obtain ⟨hlt, he, hb⟩ := List.findIdx?_eq_some_iff_getElem.1 hp
  have hgf : getF n l = some l[hf] := by
   unfold getF
   rw [List.find?_eq_some_iff_getElem]
   exact ⟨he, hf, hlt, rfl, fun j hj => by simpa using hb j hj⟩
  rw [hg] at hgf
  refine ⟨f, hf, rfl, by rw [List.getElem?_eq_getElem hlt, ← hgf], hlt, by unfold atI; rw [hp]⟩
def RReadPost (w : World) (s : DS) (n : List UInt8) (e : Ending) (w' : World) : Prop := (∃ a cap, e = .returned (.tuple #[.slice a (dataS s n).length cap, .int .i64 (hasE s n)]) ∧ Rd8 w a (dataS s n).length cap (dataS s n)) ∧ w = w'
set_option maxHeartbeats 1000000 in
theorem rread_any (c : Nat) (S : Nat → Prop) (s : DS) (n : List UInt8) (hl : s.fs.length ≤ 64) (w : World) (h : Rf w c S s) :
 Calls Tryz.prog 65 #[.pointer (some ⟨c, 0, none⟩), .string (bs n)] w (RReadPost w s n) := by
 have HA := Lib.hid (at_any c S s n hl w h)
 obtain ⟨a, cap, c0, _, _, _, hr⟩ := h.row
 have HR := Lib.hid hr
 clear h hr
 rcases atI_get (n := n) (l := s.fs) with ⟨f, k, hg, hk, hlt, hat⟩ | ⟨hg, hat⟩
 · rw [hat] at HA
   obtain ⟨b, off, ai, ci, rfl, _, q2, _, h8, _⟩ := HR.out.at hk
   have hd : dataS s n = f.dt := by unfold dataS; rw [hg]; rfl
   have hE : hasE s n = 0 := by unfold hasE; rw [hg]; rfl
   have hres : Hid (∃ a cap, (Ending.returned (.tuple #[.slice ai f.dt.length ci, .int .i64 0])) = .returned (.tuple #[.slice a (dataS s n).length cap, .int .i64 (hasE s n)]) ∧ Rd8 w a (dataS s n).length cap (dataS s n)) := ⟨ai, ci, by rw [hd, hE], by rw [hd]; exact h8⟩
   obtain ⟨m, hm⟩ : ∃ m, s.fs.length = m := ⟨_, rfl⟩
   rw [hm] at c0 hl hlt
   clear hg hk hat hd hE h8 HR
   go_enter Tryz.func65, Tryz.ntmps65
   go_wp2_with (go_at_call 24; ((with_reducible refine (HA.out).mono ?_); rintro e w' ⟨rfl, rfl⟩))
   go_ret2
   exact ⟨hres.out, rfl⟩
 · rw [hat] at HA
   have hres : Hid (∃ a cap, (Ending.returned (.tuple #[.slice none 0 0, .int .i64 8])) = .returned (.tuple #[.slice a (dataS s n).length cap, .int .i64 (hasE s n)]) ∧ Rd8 w a (dataS s n).length cap (dataS s n)) := by
    have hd : dataS s n = [] := by unfold dataS; rw [hg]; rfl
    have hE : hasE s n = 8 := by unfold hasE; rw [hg]; rfl
    exact ⟨none, 0, by rw [hd, hE]; rfl, by rw [hd]; exact ⟨rfl, Rd.nil _ _⟩⟩
   clear hg hat HR
   go_enter Tryz.func65, Tryz.ntmps65
   go_wp2_with (go_at_call 24; ((with_reducible refine (HA.out).mono ?_); rintro e w' ⟨rfl, rfl⟩))
   go_ret2
   exact ⟨hres.out, rfl⟩
end Go.Proofs.YtjjcilinghgphaaGreat
