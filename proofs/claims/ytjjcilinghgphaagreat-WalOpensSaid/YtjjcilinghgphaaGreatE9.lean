/-
 append onto a file's own bytes; the disk's Append.
-/
import Derived.Test.YtjjcilinghgphaaGreatE8
import Derived.Deep.Upon
namespace Go.Proofs.YtjjcilinghgphaaGreat
open Go.RowKit Go.Maps
set_option maxRecDepth 100000
attribute [local go_sem] bs_size bs_toList

theorem run_append_ownC {w : World} {v : Value} {l : List UInt8} (h : OwnC w v l) {ad : Option Addr} {m c : Nat} {news : List UInt8} (hr : Rd8 w ad m c news) (ty : TypeId) (hb : l.length + m ≤ 100000000) :
 ∃ v' w', (Builtin.append_ #[24, 24] ty #[v, .slice ad m c]).run Tryz.prog w = .ok v' w' ∧ OwnC w' v' (l ++ news) ∧ w.grownBy w' v.ownBlock ∧ (v'.ownBlock = v.ownBlock ∨ v'.ownBlock = some w.heap.size) := by
 obtain ⟨i, hi0, hi1, hi2, hi3⟩ := info_parts infoU8
 have hmx : maxLen = 9223372036854775807 := rfl
 obtain ⟨rfl, hr'⟩ := hr
 by_cases hm : news.length = 0
 · have hnil : news = [] := List.eq_nil_of_length_eq_zero hm
   subst hnil
   refine ⟨v, w, ?_, by simpa using h, World.grownBy.refl _ _, .inl rfl⟩
   have hs : Src Tryz.prog i.size 24 (.slice ad 0 c) 0 [] w := by
    cases ad with
    | none => exact Src.ofNil w Tryz.underlying24 c
    | some a => exact Src.ofSlice w Tryz.underlying24 a 0 c [] (by simp) (by simp) (by simp)
   rcases h with ⟨rfl, rfl⟩ | ⟨r, cap, cur, rfl, hg, hnc, hcm, hcs, ht⟩
   · exact run_append_nothing w _ _ ty _ i Tryz.underlying24 hi0 none 0 0 (Nat.le_refl _) _ hs
   · exact run_append_nothing w _ _ ty _ i Tryz.underlying24 hi0 _ _ _ hnc _ hs
 · obtain ⟨b, off, rfl, hbl, hcell⟩ := hr'.at (by omega)
   have hnews : ∀ j u, (B8 news)[j]? = some u → w.cell? ((⟨b, off, none⟩ : Addr).add j) = some u := fun j u hj => by rw [Addr.add_none]; exact hcell j u hj
   have hl : (B8 news).length = news.length * i.size := by rw [hi2, B8_length]; omega
   rcases h with ⟨rfl, rfl⟩ | ⟨r, cap, cur, rfl, hg, hnc, hcm, hcs, ht⟩
   · obtain ⟨v', w', h1, h2, h3, _, h5⟩ := run_append_own_at (P := Tryz.prog) w 0 24 ty 5 i _ 1 1 Tryz.underlying24 hi0 hi1 hi2 hi3 rfl (by decide) _ _ _ (World.ownsRow_nil w 0 5 1) ⟨b, off, none⟩ news.length c (B8 news) (by rw [B8_length]; omega) hnews (B8_one news) (by omega) (by omega) (Nat.zero_le _)
     exact ⟨v', w', h1, OwnC.of_own (base := 0) (Own8.mk h2 (by simp) (by simp)), h3, h5⟩
   · by_cases hroom : l.length + news.length ≤ cap
     · have hfit : l.length * i.size + (B8 news).length ≤ cur.size := by rw [hi2, B8_length]; omega
       have hrun := run_append_room (P := Tryz.prog) w 24 ty 5 i Tryz.underlying24 hi0 r l.length cap cur hg ⟨b, off, none⟩ news.length c (B8 news) hl hnews (B8_one news) hroom hfit
       refine ⟨_, _, hrun, .inr ⟨r, cap, _, by rw [List.length_append], setRow_heap w r cur _ 5 _ hg, by rw [List.length_append]; omega, hcm, ?_, ?_⟩, ⟨rfl, rfl, rfl, by simp, fun k _ hk => setRow_other w r k _ (fun e => hk (by simp [Value.ownBlock, e]))⟩, .inl rfl⟩
       · rw [hi2]
         simp only [List.size_toArray, List.length_append, List.length_take, List.length_drop, Array.length_toList, Nat.mul_one, B8_length]
         omega
       · rw [hi2, Nat.mul_one, ht, B8_append, List.length_append]
         show ((B8 l ++ B8 news) ++ _).take _ = _
         rw [List.take_left' (by simp [B8_length])]
     · have hlo : (B8 l).length = l.length * i.size := by rw [hi2, B8_length]; omega
       have holds : ∀ j u, (B8 l)[j]? = some u → w.cell? ((⟨r, 0, none⟩ : Addr).add j) = some u := fun j u hj => by
        rw [Addr.add_none, Nat.zero_add, cell_of_row w r j cur 5 (0, 0) hg]
        rw [← ht, List.getElem?_take] at hj
        split at hj
        · simpa using hj
        · cases hj
       have hrun := run_append_grow (P := Tryz.prog) w 24 ty 5 i _ Tryz.underlying24 hi0 hi1 ⟨r, 0, none⟩ l.length cap (B8 l) hlo holds ⟨b, off, none⟩ news.length c (B8 news) hl hnews (by omega) (by omega) (growslice_fits (by omega) (by rw [hi3]; omega))
       have hge := grownCap_ge w (l.length + news.length) cap 5
       have hgm := grownCap_le_maxLen w (l.length + news.length) cap 5 (by omega)
       refine ⟨_, _, hrun, .inr ⟨_, _, _, by rw [List.length_append]; rfl, heap_alloc_new w.drew _, by rw [List.length_append]; exact hge, hgm, ?_, ?_⟩, ⟨rfl, rfl, rfl, by simp, fun k hk _ => heap_alloc_old w.drew _ hk⟩, .inr rfl⟩
       · simp only [Array.size_append, List.size_toArray, size_zeroCells, B8_length]
         show _ ≤ _ + _ + _ * 1
         omega
       · simp only [Array.toList_append, List.append_assoc]
         rw [← List.append_assoc, B8_append, List.length_append, List.take_left' (by simp [B8_length])]
theorem wpList_appC {w : World} {ops : Array Oper} {rest : List Oper} {o : Oper} {a : Act} {Q : Exit → Act → World → Prop}
 (hgd : o.guard = none) (s x : Operand) (ho : o.op = .call { callee := .builtin .append, args := #[s, x], argTypes := #[24, 24] })
 {v : Value} {l : List UInt8} (hs : a.eval s = v) (h : OwnC w v l) {ad : Option Addr} {m c : Nat} {news : List UInt8} (hx : a.eval x = .slice ad m c) (hr : Rd8 w ad m c news) (hb : l.length + m ≤ 100000000)
 (hK : ∀ v' w', OwnC w' v' (l ++ news) → w.grownBy w' v.ownBlock → (v'.ownBlock = v.ownBlock ∨ v'.ownBlock = some w.heap.size) → wpList Tryz.prog ops Q rest (a.put o.dst v') w') : wpList Tryz.prog ops Q (o :: rest) a w := by
 refine wpList_plain hgd fun K hK' => ?_
 obtain ⟨v', w', hrun, h2, h3, h5⟩ := run_append_ownC h hr o.type hb
 unfold Oper.wp execOp
 simp only [ho, resolve, invoke, builtin, Sem.run_bind, Sem.run_pure, Result.andThen_ok, List.map_toArray, List.map_cons, List.map_nil, hs, hx, hrun]
 exact hK' _ _ (hK v' w' h2 h3 h5)

theorem appendS_err {s : DS} {n b : List UInt8} (h : appE s n b ≠ 0) : appendS s n b = (s, appE s n b) := by unfold appendS; rw [if_pos h]
theorem appendS_ok {s : DS} {n b : List UInt8} (h : appE s n b = 0) : appendS s n b = ({ (fallS s).1 with fs := updF n (fun f => ⟨f.nm, f.dt ++ b, f.sf⟩) s.fs }, if (fallS s).2 then 12 else 0) := by
 unfold appendS; rw [if_neg (by rw [h]; simp)]
set_option maxHeartbeats 1000000 in
theorem append_any (d : Nat) (S : Nat → Prop) (B : Int) (hB : B < 1000000000000) (s : DS) (n : List UInt8) (hn : n.length ≤ 9223372036854775807) (ad : Option Addr) (cp : Nat) (l : List UInt8) (hl : l.length ≤ 4194304) (w : World) (h : DkS B w d S s) (hr : Rd8 w ad l.length cp l) (ha : ∀ k, blk ad = some k → ¬ S k) :
 Calls Tryz.prog 55 #[.pointer (some ⟨d, 0, none⟩), .string (bs n), .slice ad l.length cp] w (Told B w d S (appendS s n l)) := by
 obtain ⟨m, L, hD, hL, hC, hS, hok⟩ := h
 have h0 : DkS B w d S s := ⟨m, L, hD, hL, hC, hS, hok⟩
 have htot := hok.tot
 have hd := hD.hd
 rw [hL] at hd
 have hlk := look_run hD.hm n hn
 have hgF : getF n s.fs = (getC n L).map Cel.f := by rw [← hL, getC_f]
 by_cases herr : appE s n l ≠ 0
 · rw [appendS_err herr]
   have hfin : Done (B + 1) w d S s w := Done.refl (h0.mono (by omega) (fun _ h => h) hS)
   have HFIN := Lib.hid hfin
   obtain ⟨⟨c0, c1, c2, c3, c4⟩, f1, f2, f3, f4⟩ := dcells hd
   have hcases : (s.dn = true ∧ appE s n l = 12) ∨ (s.dn = false ∧ getC n L = none ∧ appE s n l = 8) ∨ (s.dn = false ∧ ∃ c, getC n L = some c ∧ 4194304 < l.length + tot s.fs ∧ appE s n l = 11) := by
    unfold appE at herr ⊢
    cases hdn : s.dn with
    | true => exact .inl ⟨rfl, rfl⟩
    | false =>
     right
     cases hg : getC n L with
     | none => exact .inl ⟨rfl, rfl, by rw [hgF, hg]; rfl⟩
     | some c =>
      right
      refine ⟨rfl, c, rfl, ?_⟩
      by_cases hc : 4194304 < l.length + tot s.fs
      · exact ⟨hc, by rw [hgF, hg]; simp [hc]⟩
      · rw [hdn, hgF, hg] at herr; simp [hc] at herr
   clear herr hd hD hL hC hS hok h0 hfin hgF
   rcases hcases with ⟨hdn, hE⟩ | ⟨hdn, hg, hE⟩ | ⟨hdn, c, hg, hc, hE⟩
   · rw [hE]
     rw [hdn] at c4
     cases hg : getC n L with
     | none =>
      rw [hg] at hlk
      simp only [Option.map_none] at hlk
      clear hg hdn hE
      go_enter Tryz.func55, Tryz.ntmps55
      go_wp2
      go_ret
      exact ⟨rfl, HFIN.out⟩
     | some c =>
      rw [hg] at hlk
      simp only [Option.map_some] at hlk
      clear hg hdn hE
      go_enter Tryz.func55, Tryz.ntmps55
      go_wp2
      go_ret
      exact ⟨rfl, HFIN.out⟩
   · rw [hE]
     rw [hdn] at c4
     rw [hg] at hlk
     simp only [Option.map_none] at hlk
     clear hg hdn hE
     go_enter Tryz.func55, Tryz.ntmps55
     go_wp2
     go_ret
     exact ⟨rfl, HFIN.out⟩
   · rw [hE]
     rw [hdn] at c4
     rw [hg] at hlk
     simp only [Option.map_some] at hlk
     have o1 : decide ((4194304 : Int) - (tot s.fs : Nat) < l.length) = true := by simp; omega
     clear hg hdn hE hc
     go_enter Tryz.func55, Tryz.ntmps55
     go_wp2
     go_ret
     exact ⟨rfl, HFIN.out⟩
 · have hE : appE s n l = 0 := by omega
   rw [appendS_ok hE]
   have hcases : s.dn = false ∧ ∃ c, getC n L = some c ∧ l.length + tot s.fs ≤ 4194304 := by
    unfold appE at hE
    cases hdn : s.dn with
    | true => rw [hdn] at hE; cases hE
    | false =>
     rw [hdn, hgF] at hE
     cases hg : getC n L with
     | none => rw [hg] at hE; cases hE
     | some c =>
      refine ⟨rfl, c, rfl, ?_⟩
      rw [hg] at hE
      by_cases hc : 4194304 < l.length + tot s.fs
      · simp [hc] at hE
      · omega
   obtain ⟨hdn, c, hg, hc⟩ := hcases
   obtain ⟨hcL, hcn⟩ := getC_some hg
   obtain ⟨hcb, hco⟩ := hD.hc c hcL
   obtain ⟨a, cap, hv, _⟩ := hco.sl
   obtain ⟨hap1, hap2⟩ := hD.apart
   obtain ⟨b1, b2, b3⟩ := hD.blocks
   have hle : c.dt.length ≤ tot s.fs := by rw [← hL]; exact dt_le_tot (f := c.f) (List.mem_map_of_mem hcL)
   have hcd := (hap2 c hcL).1
   have hd0 := hd
   rw [hdn] at hd0
   have hlast := last_any d m _ s.wr s.ar w hd0 hok.ar0 hok.ar1 hok.wr0 (by have := hok.wr1; omega)
   have hfall := hok.fall
   have hcb0 := hcb
   rw [hv] at hcb0
   have hSc : ∀ k, c.v.ownBlock = some k → S k := (hC.2.2 c hcL).2
   -- what holds behind 'last'
   have hkey : ∀ (l' : Bool) (wr' ar' : Int) (w1 : World), Fr (fun k => k = d) w w1 → fallS s = (⟨s.fs, wr', ar', l'⟩, l') → w1.heap[d]? = some (.cells #[.map (some m), .int .i64 (tot s.fs : Nat), .int .i64 wr', .int .i64 ar', .bool l'] 66 (0, 0)) →
    w1.cell? ⟨c.b, 0, none⟩ = some (.slice a c.dt.length cap) ∧ OwnC w1 (.slice a c.dt.length cap) c.dt ∧ Rd8 w1 ad l.length cp l ∧
    ∀ v' w2, OwnC w2 v' (c.dt ++ l) → w1.grownBy w2 (Value.slice a c.dt.length cap).ownBlock → (v'.ownBlock = (Value.slice a c.dt.length cap).ownBlock ∨ v'.ownBlock = some w1.heap.size) →
     w2.frozen? ⟨c.b, 0, none⟩ = false ∧ (∃ u, w2.cell? ⟨c.b, 0, none⟩ = some u) ∧ (w2.setCell ⟨c.b, 0, none⟩ v').cell? ⟨d, 1, none⟩ = some (.int .i64 (tot s.fs : Nat)) ∧ (w2.setCell ⟨c.b, 0, none⟩ v').frozen? ⟨d, 1, none⟩ = false ∧
     Done (B + 1) w d S { (fallS s).1 with fs := updF n (fun f => ⟨f.nm, f.dt ++ l, f.sf⟩) s.fs } ((w2.setCell ⟨c.b, 0, none⟩ v').setCell ⟨d, 1, none⟩ (.int .i64 ((tot s.fs : Nat) + l.length))) := by
    intro l' wr' ar' w1 hf1 hfs hd1
    have h1 : w1.heap[c.b]? = w.heap[c.b]? := hf1.block c.b (b3 c hcL).1 hcd
    have ho1 : OwnC w1 c.v c.dt := hco.block fun k hk => hf1.block k ((b3 c hcL).2 k hk) ((hap2 c hcL).2.2 k hk).1
    have hD1 : Dk w1 d m L wr' ar' l' := hD.scal hf1 (by rw [hL]; exact hd1)
    have hr1 : Rd8 w1 ad l.length cp l := hr.keep hf1 fun k hk e => ha k hk (by rw [e]; exact hC.1)
    have ho1' := ho1
    rw [hv] at ho1'
    refine ⟨cell_of_row w1 c.b 0 _ _ _ (h1.trans hcb0), ho1', hr1, fun v' w2 ho2 hgr hloc => ?_⟩
    have hgb : ∀ k, (Value.slice a c.dt.length cap).ownBlock = some k → c.v.ownBlock = some k := fun k hk => by rw [hv]; exact hk
    have n1 : some c.b ≠ (Value.slice a c.dt.length cap).ownBlock := fun e => ((hap2 c hcL).2.2 _ (hgb _ e.symm)).2.2 c hcL rfl
    have n2 : some d ≠ (Value.slice a c.dt.length cap).ownBlock := fun e => ((hap2 c hcL).2.2 _ (hgb _ e.symm)).1 rfl
    have hcb2 : w2.heap[c.b]? = some (.cells #[c.v, .int .i64 (c.sf : Nat)] 68 (0, 0)) := (hgr.block c.b (Array.getElem?_eq_some_iff.1 (h1.trans hcb)).1 n1).trans (h1.trans hcb)
    have hd2 : w2.heap[d]? = _ := (hgr.block d (Array.getElem?_eq_some_iff.1 hd1).1 n2).trans hd1
    have hd3 : (w2.setCell ⟨c.b, 0, none⟩ v').heap[d]? = _ := (heap_setCell_other w2 ⟨c.b, 0, none⟩ d v' (Ne.symm hcd)).trans hd2
    have hcb3 : (w2.setCell ⟨c.b, 0, none⟩ v').heap[c.b]? = some (.cells #[v', .int .i64 (c.sf : Nat)] 68 (0, 0)) := row_set hcb2 rfl
    refine ⟨frozen_of_row w2 c.b 0 _ _ hcb2, ⟨_, cell_of_row w2 c.b 0 _ _ _ hcb2⟩, cell_of_row _ d 1 _ _ _ hd3, frozen_of_row _ d 1 _ _ hd3, ?_⟩
    have hvn : ∀ k, v'.ownBlock = some k → k ≠ c.b ∧ k ≠ d := fun k hk => by
     obtain ⟨cur, hcur⟩ := ho2.at k hk
     refine ⟨fun e => ?_, fun e => ?_⟩
     · rw [e, hcb2] at hcur; simp at hcur
     · rw [e, hd2] at hcur; simp at hcur
    have hfr : Fr (fun k => k = d ∨ k = c.b ∨ c.v.ownBlock = some k) w1 ((w2.setCell ⟨c.b, 0, none⟩ v').setCell ⟨d, 1, none⟩ (.int .i64 ((tot s.fs : Nat) + l.length))) :=
     ((((Fr.refl _ w1).grown hgr (fun k _ hk => .inr (.inr (hgb k hk))))).setCell (fun _ => .inr (.inl rfl)) _).setCell (fun _ => .inl rfl) _
    have hokf := hok.fall
    rw [hfs] at hokf ⊢
    refine Done.trans0 (hf1.mono fun k _ hk => by rw [hk]; exact hC.1) ?_
    refine Done.file (s := ⟨s.fs, wr', ar', l'⟩) hD1 hL hC (fun k hk => Nat.lt_of_lt_of_le (hS k hk) hf1.size) hokf hg (fun f => ⟨f.nm, f.dt ++ l, f.sf⟩) (fun _ => rfl) ?_ ?_ (v' := v') hfr ?_ ?_ ?_ ?_
    · show c.sf ≤ (c.dt ++ l).length
      have := (hok.each c.f (by rw [← hL]; exact List.mem_map_of_mem hcL)).2.2
      rw [List.length_append]
      have e : c.f.sf = c.sf := rfl
      have e2 : c.f.dt = c.dt := rfl
      rw [e, e2] at this; omega
    · show (c.dt ++ l).length + tot s.fs ≤ _
      rw [List.length_append]; omega
    · rw [show (((tot (DS.fs ⟨s.fs, wr', ar', l'⟩) : Nat) : Int) + ((fun f : Fl => (⟨f.nm, f.dt ++ l, f.sf⟩ : Fl)) c.f).dt.length - c.dt.length) = (tot s.fs : Nat) + l.length by
       show (((tot s.fs : Nat) : Int) + ((c.dt ++ l).length : Int) - _) = _
       rw [List.length_append]; omega]
      exact row_set hd3 rfl
    · exact (heap_setCell_other _ ⟨d, 1, none⟩ c.b _ hcd).trans hcb3
    · exact ho2.block fun k hk => (heap_setCell_other _ ⟨d, 1, none⟩ k _ (hvn k hk).2).trans (heap_setCell_other w2 ⟨c.b, 0, none⟩ k _ (hvn k hk).1)
    · intro k hk
      rcases hloc with e | e
      · left; rw [e] at hk; exact hgb k hk
      · right
        rw [e] at hk
        have := Option.some.inj hk
        omega
   have HK := Lib.hid hkey
   obtain ⟨⟨c0, c1, c2, c3, c4⟩, f1, f2, f3, f4⟩ := dcells hd0
   rw [hg] at hlk
   simp only [Option.map_some] at hlk
   have o1 : decide ((4194304 : Int) - (tot s.fs : Nat) < l.length) = false := by simp; omega
   have hT : Hid (c.dt.length + l.length ≤ 100000000) := by show _ ≤ _; omega
   have o2 : (tot s.fs : Nat) ≤ 4194304 := by omega
   by_cases ha1 : s.ar = 1
   case' pos =>
    have hfl : Hid (fallS s = (⟨s.fs, s.wr, 0, true⟩, true)) := fall_one ha1
    rw [ha1] at hlast
    have e2 : (fallS s).2 = true := by rw [hfl.out]
    rw [e2, if_pos rfl]
   case' neg =>
    have hfl : Hid (fallS s = (⟨s.fs, s.wr + 1, if 0 < s.ar then s.ar - 1 else s.ar, false⟩, false)) := fall_more ha1 hdn
    rw [if_neg ha1, decide_eq_false ha1] at hlast
    have e2 : (fallS s).2 = false := by rw [hfl.out]
    rw [e2, if_neg (by decide)]
   all_goals
    clear e2
    have HL := Lib.hid hlast
    clear hlast hkey hd hd0 hD hL hC hS hok h0 hgF herr hE hdn hg hc hcL hcn hcb hco hv hap1 hap2 b1 b2 b3 hle hcd hfall hcb0 hSc ha1 hr ha
    go_enter Tryz.func55, Tryz.ntmps55
    go_wp2_with (first
     | (go_at_call 86; ((with_reducible refine (HL.out).mono ?_); rintro e w1 ⟨rfl, hf1, hh1⟩; obtain ⟨g0, ho1, hr1, hk1⟩ := HK.out _ _ _ w1 hf1 hfl.out hh1; have HO1 := Lib.hid ho1; have HR1 := Lib.hid hr1; have HK1 := Lib.hid hk1; clear hf1 hh1 ho1 hr1 hk1))
     | (at_builtin; refine wpList_appC rfl _ _ rfl rfl HO1.out rfl HR1.out hT.out ?_; intro v' w2 ho2 hgr hloc; obtain ⟨a', cp', rfl, _⟩ := ho2.sl; obtain ⟨i1, ⟨u, i2⟩, i3, i4, hdone⟩ := HK1.out _ w2 ho2 hgr hloc; rw [List.length_append] at i3 i4 hdone; have HD := Lib.hid hdone; clear ho2 hgr hloc hdone))
    go_ret
    exact ⟨rfl, HD.out⟩
end Go.Proofs.YtjjcilinghgphaaGreat
