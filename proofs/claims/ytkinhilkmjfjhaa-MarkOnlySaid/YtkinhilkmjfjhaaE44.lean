/-
  The disk's Load.
-/
import Derived.Test.YtkinhilkmjfjhaaE43
namespace Go.Proofs.Ytkinhilkmjfjhaa
open Go.RowKit Go.Maps Go.Sort
set_option maxRecDepth 100000
attribute [local go_sem] bs_size bs_toList

theorem Fm.rep {w w' : World} {m : Nat} {L : List Cel} (h : Fm w m L) {c : Cel} (hf : Fr (fun k => k = m) w w') (hm : ∃ n, w'.ownsMap Try.prog 9 ptrE m n (mapOf (insC c (delC c.nm L))))
    (hb : w'.heap[c.b]? = some (.cells #[c.v, .int .i64 (c.sf : Nat)] 76 (0, 0))) (ho : OwnC w' c.v c.dt) (hbn : w.heap.size ≤ c.b) (hv : ∀ k, c.v.ownBlock = some k → w.heap.size ≤ k) : Fm w' m (insC c (delC c.nm L)) := by
  have hoff := h.off (q := m) fun cur e fr hq => by obtain ⟨es, ck, hmm⟩ := ownsMap_isMap h.hm; rw [hmm] at hq; cases hq
  have hlt := h.lt
  have hsub : ∀ y ∈ delC c.nm L, y ∈ L := fun y hy => (mem_delC.1 hy).1
  refine ⟨?_, fun y hy => ?_, pairwise_insC (fun a b hab => ⟨fun e => hab.1 e.symm, fun k hk hk' => hab.2 k hk' hk⟩) (h.ap.filter _) fun y hy => ⟨fun e => ?_, fun k hk hk' => ?_⟩⟩
  · obtain ⟨n, hm⟩ := hm
    have := ownsMap_tight hm
    rw [mapOf_size] at this; exact this
  · rcases mem_insC.1 hy with rfl | hy
    · exact ⟨hb, ho⟩
    · have hy := hsub y hy
      exact ⟨(hf.block y.b (hlt y hy).1 (hoff y hy).1).trans (h.hc y hy).1, (h.hc y hy).2.block fun k hk => hf.block k ((hlt y hy).2 k hk) ((hoff y hy).2 k hk)⟩
  · have := (hlt y (hsub y hy)).1; omega
  · have := (hlt y (hsub y hy)).2 k hk'; have := hv k hk; omega
/-- A disk that is being loaded. -/
structure Lp (w : World) (d m : Nat) (sz : Int) (W : World) (L : List Cel) : Prop where
  bel : Below w.heap.size w W
  hd : W.heap[d]? = some (.cells #[.map (some m), .int .i64 sz, .int .i64 0, .int .i64 0, .bool false] 71 (0, 0))
  fm : Fm W m L
  nb : ∀ c ∈ L, w.heap.size ≤ c.b ∧ ∀ k, c.v.ownBlock = some k → w.heap.size ≤ k
theorem Lp.new {w W W1 : World} {d m : Nat} {sz : Int} {L : List Cel} (h : Lp w d m sz W L) (hb : Below W.heap.size W W1) : Lp w d m sz W1 L := by
  have hlt := h.fm.lt
  exact ⟨h.bel.trans (hb.mono h.bel.size), (hb.block d (Array.getElem?_eq_some_iff.1 h.hd).1).trans h.hd, h.fm.keep (hb.block m h.fm.hm.lt) fun c hc => ⟨hb.block _ (hlt c hc).1, fun k hk => hb.block k ((hlt c hc).2 k hk)⟩, h.nb⟩
theorem Lp.rep {w W W1 : World} {d m : Nat} {sz : Int} {L : List Cel} (h : Lp w d m sz W L) {c : Cel} (hf : Fr (fun k => k = m) W W1) (hm' : w.heap.size ≤ m) (hm : ∃ n, W1.ownsMap Try.prog 9 ptrE m n (mapOf (insC c (delC c.nm L))))
    (hb : W1.heap[c.b]? = some (.cells #[c.v, .int .i64 (c.sf : Nat)] 76 (0, 0))) (ho : OwnC W1 c.v c.dt) (hbn : W.heap.size ≤ c.b) (hv : ∀ k, c.v.ownBlock = some k → W.heap.size ≤ k) : Lp w d m sz W1 (insC c (delC c.nm L)) := by
  obtain ⟨es, ck, hmm⟩ := ownsMap_isMap h.fm.hm
  have hsz := h.bel.size
  refine ⟨h.bel.trans (hf.below h.bel.size fun k hk e => by omega), (hf.block d (Array.getElem?_eq_some_iff.1 h.hd).1 fun e => ?_).trans h.hd, h.fm.rep hf hm hb ho hbn hv, fun y hy => ?_⟩
  · have h1 := h.hd
    rw [e, hmm] at h1; cases h1
  · rcases mem_insC.1 hy with rfl | hy
    · exact ⟨by omega, fun k hk => by have := hv k hk; omega⟩
    · exact h.nb y (mem_delC.1 hy).1
theorem Lp.scal {w W : World} {d m : Nat} {sz : Int} {L : List Cel} (h : Lp w d m sz W L) (hd : w.heap.size ≤ d) (sz' : Int) : Lp w d m sz' (W.setCell ⟨d, 1, none⟩ (.int .i64 sz')) L := by
  have hlt := h.fm.lt
  obtain ⟨es, ck, hmm⟩ := ownsMap_isMap h.fm.hm
  have fr : Fr (fun q => q = d) W (W.setCell ⟨d, 1, none⟩ (.int .i64 sz')) := (Fr.refl (fun q => q = d) W).setCell (fun _ => rfl) _
  refine ⟨h.bel.setCell (p := ⟨d, 1, none⟩) hd _, row_set h.hd rfl, h.fm.keep (fr.block m h.fm.hm.lt fun e => ?_) (fun c hc => ⟨fr.block _ (hlt c hc).1 fun e => ?_, fun k hk => fr.block k ((hlt c hc).2 k hk) fun e => ?_⟩), h.nb⟩
  · rw [e, h.hd] at hmm; cases hmm
  · have h1 := (h.fm.hc c hc).1
    rw [e, h.hd] at h1; simp at h1
  · obtain ⟨cur, hg⟩ := (h.fm.hc c hc).2.at k hk
    rw [e, h.hd] at hg; simp at hg
theorem Lp.done {w W : World} {d m : Nat} {sz : Int} {L : List Cel} (h : Lp w d m sz W L) {l : List FlI} (hL : L.map Cel.f = loadL l) (hsz : sz = (totI l : Nat)) (hd' : w.heap.size ≤ d) (hm' : w.heap.size ≤ m) (hok : DOk 0 (loadS l)) : DkS 0 W d (fun k => w.heap.size ≤ k ∧ k < W.heap.size) (loadS l) := by
  have hlt := h.fm.lt
  refine ⟨m, L, ⟨by rw [hL, tot_loadL, ← hsz]; exact h.hd, h.fm.hm, h.fm.hc, h.fm.ap⟩, hL, ⟨⟨hd', (Array.getElem?_eq_some_iff.1 h.hd).1⟩, ⟨hm', h.fm.hm.lt⟩, fun c hc => ⟨⟨(h.nb c hc).1, (hlt c hc).1⟩, fun k hk => ⟨(h.nb c hc).2 k hk, (hlt c hc).2 k hk⟩⟩⟩, fun k hk => hk.2, hok⟩
theorem getC_f_none {L : List Cel} {n : List UInt8} (h : getC n L = none) : getF n (L.map Cel.f) = none := by rw [getC_f, h]; rfl
theorem delC_none' {L : List Cel} {n : List UInt8} (h : getC n L = none) : delC n L = L := by
  unfold delC
  rw [List.filter_eq_self]
  intro c hc
  have := getC_none h c hc
  simpa using this
theorem LdAt.done' {l : List FlI} {k : Nat} {fs : List Fl} (h : LdAt l k fs) (hk : k = l.length) (hc : ChkAt l l.length) : fs = loadL l := by subst hk; exact h.done hc
def LoadPost (w : World) (l : List FlI) (e : Ending) (w' : World) : Prop := Below w.heap.size w w' ∧
  ((loadE l ≠ 0 ∧ e = .returned (.tuple #[.pointer none, .int .i64 (loadE l)])) ∨ (loadE l = 0 ∧ DOk 0 (loadS l) ∧ ∃ d, e = .returned (.tuple #[.pointer (some ⟨d, 0, none⟩), .int .i64 0]) ∧ DkS 0 w' d (fun k => w.heap.size ≤ k ∧ k < w'.heap.size) (loadS l)))
theorem LoadPost.err {w w' : World} {l : List FlI} {x : Int} (hb : Below w.heap.size w w') (he : loadE l = x) (h0 : x ≠ 0) : LoadPost w l (.returned (.tuple #[.pointer none, .int .i64 x])) w' := ⟨hb, .inl ⟨by rw [he]; exact h0, by rw [he]⟩⟩
set_option maxHeartbeats 8000000 in
theorem load_any (a : Option Addr) (n cap : Nat) (l : List FlI) (T : Nat → Prop) (w : World) (h : RdFi w T a n cap l) (ht : totI l ≤ 4194304) (hn : n ≤ 100000) :
    Calls Try.prog 22 #[.slice a n cap] w (LoadPost w l) := by
  have HR := Lib.hid h
  have HN := Lib.hid h.1
  have HTT := Lib.hid ht
  clear h ht
  go_enter Try.func22, Try.ntmps22
  go_wp2_with fail
  go_at_call 7
  refine (new_any 0 (Int.le_refl _) w).mono ?_
  rintro e w1 ⟨d, rfl, hb1, m, L0, hD, hL0, hC, hS, hok⟩
  have hL0' : L0 = [] := by simpa [newS] using hL0
  subst hL0'
  have HLP : Hid (Lp w d m 0 w1 []) := ⟨hb1, hD.hd, ⟨hD.hm, hD.hc, hD.ap⟩, fun c hc => by simp at hc⟩
  have HDB : Hid (w.heap.size ≤ d) := hC.1.1
  have HMB : Hid (w.heap.size ≤ m) := hC.2.1.1
  clear hb1 hD hL0 hC hS hok
  go_wp2_with fail
  go_loopw [6, 14] (fun _ i wr => ∃ (k : Nat) (L : List Cel), k ≤ n ∧ i = .int .i64 (k : Nat) ∧ L.length ≤ k ∧ Hid (ChkAt l k) ∧ Hid (LzAt l k (L.map Cel.f)) ∧ Hid (Lp w d m 0 wr L)) (fun _ i _ => n - (intOf i).toNat)
  case atStart => exact ⟨0, [], Nat.zero_le _, rfl, Nat.zero_le _, ChkAt.start l, LzAt.start l, HLP.out⟩
  case round =>
    clear HLP
    obtain ⟨k, L, hk, rfl, hLk, HC, HZ, HL⟩ := hrel
    by_cases hlt : k < n
    · obtain ⟨f, hf⟩ : ∃ f, l[k]? = some f := ⟨_, List.getElem?_eq_getElem (by have := HN.out; omega)⟩
      obtain ⟨b, off, ai, ci, rfl, hrd, q0, q1, q2⟩ := (HR.out.below HL.out.bel).at hf
      obtain ⟨hwf, h8, hbl⟩ := hrd
      obtain ⟨W, hW, hbw, hsz, g0, g1, g2⟩ := fiAt wr f ai ci
      have hW' : wr.alloc (.cells #[.string (bs f.nm), .slice ai f.dt.length ci, .int .i64 f.sf] 57) = W := hW.symm
      have HF := Lib.hid hf
      have HLW := Lib.hid (HL.out.new hbw)
      have HNM := Lib.hid (name_any f.nm W hwf.1)
      have hwf1 := hwf.1
      have hwf2 := hwf.2
      have hd2 := HLW.out.hd
      have c0 := cell_of_row W d 0 _ _ _ hd2
      clear hf hW hbw hsz h8 hbl hwf hd2 HL
      cases hnm : nameOk f.nm with
      | false =>
        have hres := Lib.hid (HC.out.stop HF.out (e := 10) (by unfold chkE; rw [if_pos hnm]) (by decide))
        rw [hnm] at HNM
        clear hnm
        go_wp2_with (go_at_call 25; ((with_reducible refine (HNM.out).mono ?_); rintro e w2 ⟨rfl, rfl⟩))
        go_ret2
        exact LoadPost.err HLW.out.bel hres.out (by decide)
      | true =>
        rw [hnm] at HNM
        have hnl := ((nameOk_iff f.nm).1 hnm).2
        have HOKN := Lib.hid hnm
        clear hnm
        go_wp2_with (go_at_call 25; ((with_reducible refine (HNM.out).mono ?_); rintro e w2 ⟨rfl, rfl⟩))
        have hlk : ∀ i, (Instr.lookup 69 (.map (some m)) (.string (bs f.nm)) false).run Try.prog (W.drewN i) = .ok (.pointer ((getC f.nm L).map fun c => ⟨c.b, 0, none⟩)) (W.drewN i) := fun i => look_run (w := W.drewN i) (ownsMap_block HLW.out.fm.hm rfl) f.nm (by unfold maxLen; omega)
        have hseen := HZ.out.seen f.nm
        rw [getC_f] at hseen
        cases hg : getC f.nm L with
        | some c =>
          rw [hg] at hlk hseen
          simp only [Option.map_some] at hlk
          have hres := Lib.hid (HC.out.stop HF.out (e := 9) (by unfold chkE; rw [if_neg (by rw [HOKN.out]; decide), if_pos (hseen.1 rfl)]) (by decide))
          clear hg hseen
          go_wp2_with fail
          go_quiet (fail)
          go_wp2_with fail
          go_ret2
          exact LoadPost.err (HLW.out.bel.trans ⟨rfl, rfl, rfl, Nat.le_refl _, fun _ _ => rfl⟩) hres.out (by decide)
        | none =>
          rw [hg] at hlk hseen
          simp only [Option.map_none] at hlk
          have HNS : Hid (f.nm ∉ (l.take k).map FlI.nm) := fun hmm => by have := hseen.2 hmm; simp at this
          have HGN := Lib.hid hg
          clear hg hseen
          go_wp2_with fail
          go_quiet (fail)
          by_cases hbad : f.sf < 0 ∨ (f.dt.length : Int) < f.sf
          · have hres := Lib.hid (HC.out.stop HF.out (e := 1) (by unfold chkE; rw [if_neg (by rw [HOKN.out]; decide), if_neg HNS.out, if_pos hbad]) (by decide))
            by_cases hneg : f.sf < 0
            case' pos => have d1 : decide (f.sf < 0) = true := by simpa using hneg
            case' neg =>
              have d1 : decide (f.sf < 0) = false := by simpa using hneg
              have hgt : (f.dt.length : Int) < f.sf := hbad.resolve_left hneg
              have d2 : decide ((f.dt.length : Int) < f.sf) = true := by simpa using hgt
            all_goals
              clear hbad
              go_wp2_with fail
              go_ret2
              exact LoadPost.err (HLW.out.bel.trans ⟨rfl, rfl, rfl, Nat.le_refl _, fun _ _ => rfl⟩) hres.out (by decide)
          · have hs0 : 0 ≤ f.sf := by omega
            have hs1 : f.sf ≤ f.dt.length := by omega
            have d1 : decide (f.sf < 0) = false := by simpa using hs0
            have d2 : decide ((f.dt.length : Int) < f.sf) = false := by simpa using hs1
            have HC2 := Lib.hid (HC.out.next HF.out HOKN.out HNS.out hs0 hs1)
            have HZ2 := Lib.hid (HZ.out.next HF.out (getC_f_none HGN.out))
            clear hbad hlk
            go_wp2_with fail
            clear d1 d2 q0 q1 q2 g1 g2
            refine wp_region_ht 8 (fun W => W.cell? ⟨d, 0, none⟩ = some (.map (some m)) ∧ W.cell? ⟨wr.heap.size, 0, none⟩ = some (.string (bs f.nm))) (by kernel_rfl) (by kernel_rfl) ?_ (fun hHeld => ?_)
            · exact ⟨c0, g0⟩
            try simp only [Act.put, List.setIfInBounds_toArray, List.set_cons_zero, List.set_cons_succ]
            refine wpHT_takeD (i := 0) (d := 44) (v := ?_) (by kernel_rfl) rfl rfl (by decide) (by kernel_rfl) (by kernel_rfl) (fun _ _ _ h => h) (Or.inl ⟨by kernel_rfl, ?_⟩) (by assumption) ?_
            rotate_left
            · intro w hSw; (try dsimp only at hSw); go_simp; (try with_reducible rfl)
            try simp only [Act.put, List.setIfInBounds_toArray, List.set_cons_zero, List.set_cons_succ]
            refine wpHT_takeD (i := 1) (d := 45) (v := ?_) (by kernel_rfl) rfl rfl (by decide) (by kernel_rfl) (by kernel_rfl) (fun _ _ _ h => h) (Or.inl ⟨by kernel_rfl, ?_⟩) (by assumption) ?_
            rotate_left
            · intro w hSw; (try dsimp only at hSw); go_simp; (try with_reducible rfl)
            try simp only [Act.put, List.setIfInBounds_toArray, List.set_cons_zero, List.set_cons_succ]
            refine wpHT_takeD (i := 2) (d := 46) (v := ?_) (by kernel_rfl) rfl rfl (by decide) (by kernel_rfl) (by kernel_rfl) (fun _ _ _ h => h) (Or.inl ⟨by kernel_rfl, ?_⟩) (by assumption) ?_
            rotate_left
            · intro w hSw; (try dsimp only at hSw); go_simp; (try with_reducible rfl)
            try simp only [Act.put, List.setIfInBounds_toArray, List.set_cons_zero, List.set_cons_succ]
            refine wpHT_takeD (i := 3) (d := 47) (v := ?_) (by kernel_rfl) rfl rfl (by decide) (by kernel_rfl) (by kernel_rfl) (fun _ _ _ h => h) (Or.inl ⟨by kernel_rfl, ?_⟩) (by assumption) ?_
            rotate_left
            · intro w hSw; (try dsimp only at hSw); go_simp; (try with_reducible rfl)
            try simp only [Act.put, List.setIfInBounds_toArray, List.set_cons_zero, List.set_cons_succ]
            refine wpHT_takeD (i := 4) (d := 48) (v := ?_) (by kernel_rfl) rfl rfl (by decide) (by kernel_rfl) (by kernel_rfl) (fun _ _ _ h => h) (Or.inl ⟨by kernel_rfl, ?_⟩) (by assumption) ?_
            rotate_left
            · intro w hSw; (try dsimp only at hSw); go_simp; (try with_reducible rfl)
            try simp only [Act.put, List.setIfInBounds_toArray, List.set_cons_zero, List.set_cons_succ]
            refine wpHT_takeD (i := 5) (d := 49) (v := ?_) (by kernel_rfl) rfl rfl (by decide) (by kernel_rfl) (by kernel_rfl) (fun _ _ _ h => h) (Or.inl ⟨by kernel_rfl, ?_⟩) (by assumption) ?_
            rotate_left
            · intro w hSw; (try dsimp only at hSw); go_simp; (try with_reducible rfl)
            try simp only [Act.put, List.setIfInBounds_toArray, List.set_cons_zero, List.set_cons_succ]
            refine wpHT_takeD (i := 6) (d := 50) (v := ?_) (by kernel_rfl) rfl rfl (by decide) (by kernel_rfl) (by kernel_rfl) (fun _ _ _ h => h) (Or.inl ⟨by kernel_rfl, ?_⟩) (by assumption) ?_
            rotate_left
            · intro w hSw; (try dsimp only at hSw); go_simp; (try with_reducible rfl)
            try simp only [Act.put, List.setIfInBounds_toArray, List.set_cons_zero, List.set_cons_succ]
            refine wpHT_one (i := 7) (by kernel_rfl) rfl (by decide) (fun K hK => ?_)
            go_simp
            refine hK.out _ _ ?_ (fun hHeld => ?_)
            · exact ⟨cell_alloc_keep c0, cell_alloc_keep g0⟩
            clear hK K
            try simp only [Act.put, List.setIfInBounds_toArray, List.set_cons_zero, List.set_cons_succ]
            refine wpHT_done (by kernel_rfl) ?_
            simp only [List.drop_succ_cons, List.drop_zero]
            clear hHeld
            go_wp2_with (at_mapUpdate; refine wpList_mapUpdate_own _ rfl _ _ _ 69 rfl 9 73 strKeyed Try.underlying69 ptrE m L.length (mapOf L) rfl (ownsMap_block HLW.out.fm.hm (((((Fr.refl (fun _ => False) W).drewN _).drew).alloc _).block m HLW.out.fm.hm.lt id)) (by unfold maxLen; omega) _ _ (.string f.nm) rfl rfl (keyS f.nm (by unfold maxLen; omega)) (fileLit W.heap.size) [] rfl ?_; intro w4 hown4 hgrow4)
            rw [show (mapOf L).put (.string f.nm) (fileLit W.heap.size) = mapOf (insC ⟨f.nm, [], 0, W.heap.size, .slice none 0 0⟩ (delC f.nm L)) from mapOf_put L ⟨f.nm, [], 0, W.heap.size, .slice none 0 0⟩] at hown4
            have hf4 : Fr (fun k => k = m) W w4 := ((((Fr.refl (fun k => k = m) W).drewN _).drew).alloc _).grown hgrow4 (fun k _ h => (Option.some.inj h).symm)
            have hmW := HLW.out.fm.hm.lt
            have hlp := HLW.out.rep (c := ⟨f.nm, [], 0, W.heap.size, .slice none 0 0⟩) hf4 HMB.out ⟨_, hown4⟩
              ((hgrow4.block W.heap.size (Array.getElem?_eq_some_iff.1 (heap_alloc_new _ _)).1 (fun e => by have := Option.some.inj e; omega)).trans (heap_alloc_new _ _)) (.inl ⟨rfl, rfl⟩) (Nat.le_refl _) (fun k hk => by cases hk)
            have hdl : delC f.nm L = L := delC_none' HGN.out
            have hmap : (insC (⟨f.nm, [], 0, W.heap.size, .slice none 0 0⟩ : Cel) (delC f.nm L)).map Cel.f = insF f.z (L.map Cel.f) := by rw [hdl, insC_f]; rfl
            have hlen : (insC (⟨f.nm, [], 0, W.heap.size, .slice none 0 0⟩ : Cel) (delC f.nm L)).length ≤ k + 1 := by
              have h1 := congrArg List.length hmap
              rw [List.length_map, len_ins, List.length_map] at h1; omega
            have HLP := Lib.hid hlp
            have HMAP := Lib.hid hmap
            clear hown4 hgrow4 hf4 hlp hdl hmap hmW c0 g0
            go_wp2_with fail
            go_roundw
            case rel => exact ⟨k + 1, _, by omega, by go_num, hlen, HC2.out, by show LzAt _ _ _; rw [HMAP.out]; exact HZ2.out, HLP.out⟩
            case measure => simp [intOf]; omega
    · obtain rfl : k = n := by omega
      have hCk : ChkAt l l.length := by have := HC.out; rw [HN.out] at this; exact this
      have HCF := Lib.hid hCk
      have HLD : Hid (LdAt l 0 (L.map Cel.f)) := by have := HZ.out; rw [HN.out] at this; exact this.ld
      by_cases h64 : 64 < k
      · have hres := Lib.hid (hCk.many (by rw [← HN.out]; exact h64))
        clear hCk
        go_wp2_with fail
        go_ret2
        exact LoadPost.err HL.out.bel hres.out (by decide)
      · have hres := Lib.hid (hCk.fine (by rw [← HN.out]; omega))
        clear hCk
        have hlk' : L.length ≤ k := hLk
        go_wp2_with fail
        go_loopw [8, 58] (fun _ i wx => ∃ (j : Nat), j ≤ k ∧ i = .int .i64 (j : Nat) ∧ Hid (Lp w d m ((totI (l.take j) : Nat) : Int) wx L)) (fun _ i _ => k - (intOf i).toNat)
        case atStart => exact ⟨0, Nat.zero_le _, rfl, by show Lp _ _ _ _ _ _; have := HL.out; simpa [totI] using this⟩
        case round =>
          clear HL
          obtain ⟨j, hj, rfl, HL⟩ := hrel
          by_cases hlt : j < k
          · obtain ⟨f, hf⟩ : ∃ f, l[j]? = some f := ⟨_, List.getElem?_eq_getElem (by have := HN.out; omega)⟩
            obtain ⟨b, off, ai, ci, rfl, hrd, q0, q1, q2⟩ := (HR.out.below HL.out.bel).at hf
            obtain ⟨hwf, h8, hbl⟩ := hrd
            obtain ⟨W, hW, hbw, hsz, g0, g1, g2⟩ := fiAt wr f ai ci
            have hW' : wr.alloc (.cells #[.string (bs f.nm), .slice ai f.dt.length ci, .int .i64 f.sf] 57) = W := hW.symm
            have HLW := Lib.hid (HL.out.new hbw)
            have htn := totI_next hf
            have htl := totI_take_le l (j + 1)
            have hT4 := HTT.out
            obtain ⟨U, hU⟩ : ∃ U, totI (l.take j) = U := ⟨_, rfl⟩
            rw [hU] at htn HLW
            have HTN := Lib.hid htn
            have hUb : U + f.dt.length ≤ 4194304 := by omega
            have hd2 := HLW.out.hd
            have c1 := cell_of_row W d 1 _ _ _ hd2
            have f1 := frozen_of_row W d 1 _ _ hd2
            have dT : decide ((4194304 : Int) - (U : Nat) < (f.dt.length : Nat)) = false := by simp; omega
            clear hf hW hbw hsz h8 hbl hwf hd2 HL htn htl hT4 hU
            go_wp2_with fail
            go_quiet (fail)
            go_wp2_with fail
            clear dT q0 q1 q2 g0 g2
            refine wp_region_ht 10 (fun W => W.cell? ⟨d, 1, none⟩ = some (.int .i64 (U : Nat)) ∧ W.cell? ⟨wr.heap.size, 1, none⟩ = some (.slice ai f.dt.length ci)) (by kernel_rfl) (by kernel_rfl) ?_ (fun hHeld => ?_)
            · exact ⟨c1, g1⟩
            try simp only [Act.put, List.setIfInBounds_toArray, List.set_cons_zero, List.set_cons_succ]
            refine wpHT_takeD (i := 0) (d := 71) (v := ?_) (by kernel_rfl) rfl rfl (by decide) (by kernel_rfl) (by kernel_rfl) (fun _ _ _ h => h) (Or.inl ⟨by kernel_rfl, ?_⟩) (by assumption) ?_
            rotate_left
            · intro w hSw; (try dsimp only at hSw); go_simp; (try with_reducible rfl)
            try simp only [Act.put, List.setIfInBounds_toArray, List.set_cons_zero, List.set_cons_succ]
            refine wpHT_takeD (i := 1) (d := 72) (v := ?_) (by kernel_rfl) rfl rfl (by decide) (by kernel_rfl) (by kernel_rfl) (fun _ _ _ h => h) (Or.inl ⟨by kernel_rfl, ?_⟩) (by assumption) ?_
            rotate_left
            · intro w hSw; (try dsimp only at hSw); go_simp; (try with_reducible rfl)
            try simp only [Act.put, List.setIfInBounds_toArray, List.set_cons_zero, List.set_cons_succ]
            refine wpHT_takeD (i := 2) (d := 73) (v := ?_) (by kernel_rfl) rfl rfl (by decide) (by kernel_rfl) (by kernel_rfl) (fun _ _ _ h => h) (Or.inl ⟨by kernel_rfl, ?_⟩) (by assumption) ?_
            rotate_left
            · intro w hSw; (try dsimp only at hSw); go_simp; (try with_reducible rfl)
            try simp only [Act.put, List.setIfInBounds_toArray, List.set_cons_zero, List.set_cons_succ]
            refine wpHT_takeD (i := 3) (d := 74) (v := ?_) (by kernel_rfl) rfl rfl (by decide) (by kernel_rfl) (by kernel_rfl) (fun _ _ _ h => h) (Or.inl ⟨by kernel_rfl, ?_⟩) (by assumption) ?_
            rotate_left
            · intro w hSw; (try dsimp only at hSw); go_simp; (try with_reducible rfl)
            try simp only [Act.put, List.setIfInBounds_toArray, List.set_cons_zero, List.set_cons_succ]
            refine wpHT_takeD (i := 4) (d := 75) (v := ?_) (by kernel_rfl) rfl rfl (by decide) (by kernel_rfl) (by kernel_rfl) (fun _ _ _ h => h) (Or.inl ⟨by kernel_rfl, ?_⟩) (by assumption) ?_
            rotate_left
            · intro w hSw; (try dsimp only at hSw); go_simp; (try with_reducible rfl)
            try simp only [Act.put, List.setIfInBounds_toArray, List.set_cons_zero, List.set_cons_succ]
            refine wpHT_takeD (i := 5) (d := 76) (v := ?_) (by kernel_rfl) rfl rfl (by decide) (by kernel_rfl) (by kernel_rfl) (fun _ _ _ h => h) (Or.inl ⟨by kernel_rfl, ?_⟩) (by assumption) ?_
            rotate_left
            · intro w hSw; (try dsimp only at hSw); go_simp; (try with_reducible rfl)
            try simp only [Act.put, List.setIfInBounds_toArray, List.set_cons_zero, List.set_cons_succ]
            refine wpHT_takeD (i := 6) (d := 77) (v := ?_) (by kernel_rfl) rfl rfl (by decide) (by kernel_rfl) (by kernel_rfl) (fun _ _ _ h => h) (Or.inl ⟨by kernel_rfl, ?_⟩) (by assumption) ?_
            rotate_left
            · intro w hSw; (try dsimp only at hSw); go_simp; (try with_reducible rfl)
            try simp only [Act.put, List.setIfInBounds_toArray, List.set_cons_zero, List.set_cons_succ]
            refine wpHT_takeD (i := 7) (d := 78) (v := ?_) (by kernel_rfl) rfl rfl (by decide) (by kernel_rfl) (by kernel_rfl) (fun _ _ _ h => h) (Or.inl ⟨by kernel_rfl, ?_⟩) (by assumption) ?_
            rotate_left
            · intro w hSw; (try dsimp only at hSw); go_simp; (try with_reducible rfl)
            try simp only [Act.put, List.setIfInBounds_toArray, List.set_cons_zero, List.set_cons_succ]
            refine wpHT_takeD (i := 8) (d := 79) (v := ?_) (by kernel_rfl) rfl rfl (by decide) (by kernel_rfl) (by kernel_rfl) (fun _ _ _ h => h) (Or.inl ⟨by kernel_rfl, ?_⟩) (by assumption) ?_
            rotate_left
            · intro w hSw; (try dsimp only at hSw); go_simp; (try with_reducible rfl)
            try simp only [Act.put, List.setIfInBounds_toArray, List.set_cons_zero, List.set_cons_succ]
            refine wpHT_takeD (i := 9) (d := 80) (v := ?_) (by kernel_rfl) rfl rfl (by decide) (by kernel_rfl) (by kernel_rfl) (fun _ _ _ h => h) (Or.inl ⟨by kernel_rfl, ?_⟩) (by assumption) ?_
            rotate_left
            · intro w hSw; (try dsimp only at hSw); go_simp; (try with_reducible rfl)
            try simp only [Act.put, List.setIfInBounds_toArray, List.set_cons_zero, List.set_cons_succ]
            refine wpHT_done (by kernel_rfl) ?_
            simp only [List.drop_succ_cons, List.drop_zero]
            clear hHeld g1
            go_wp2_with fail
            go_roundw
            case rel =>
              have h1 := (HLW.out.new (W1 := (W.drewN nq).drew) ⟨rfl, rfl, rfl, Nat.le_refl _, fun _ _ => rfl⟩).scal HDB.out ((U : Int) + (f.dt.length : Nat))
              exact ⟨j + 1, by omega, by go_num, by rw [HTN.out]; exact h1⟩
            case measure => simp [intOf]; omega
          · obtain rfl : j = k := by omega
            go_wp2_with fail
            go_loopw [10, 84] (fun _ i wx => ∃ (q : Nat) (L' : List Cel), q ≤ j ∧ i = .int .i64 (q : Nat) ∧ L'.length ≤ j + q ∧ Hid (LdAt l q (L'.map Cel.f)) ∧ Hid (Lp w d m ((totI l : Nat) : Int) wx L')) (fun _ i _ => j - (intOf i).toNat)
            case atStart => exact ⟨0, L, Nat.zero_le _, rfl, by omega, HLD.out, by have := HL.out; rw [List.take_of_length_le (by rw [HN.out]; exact Nat.le_refl _)] at this; exact this⟩
            case round =>
              clear HL HLD
              obtain ⟨q, L', hq, rfl, hLq, HLD, HL⟩ := hrel
              by_cases hlt : q < j
              · obtain ⟨f, hf⟩ : ∃ f, l[q]? = some f := ⟨_, List.getElem?_eq_getElem (by have := HN.out; omega)⟩
                obtain ⟨b, off, ai, ci, rfl, hrd, q0, q1, q2⟩ := (HR.out.below HL.out.bel).at hf
                obtain ⟨hwf, h8, hbl⟩ := hrd
                obtain ⟨W, hW, hbw, hsz, g0, g1, g2⟩ := fiAt wr f ai ci
                have hW' : wr.alloc (.cells #[.string (bs f.nm), .slice ai f.dt.length ci, .int .i64 f.sf] 57) = W := hW.symm
                have HLW := Lib.hid (HL.out.new hbw)
                obtain ⟨ok1, ok2, ok3⟩ := HCF.out.each f (by rw [List.take_length]; exact List.mem_of_getElem? hf)
                obtain ⟨sf, hsf⟩ : ∃ sf : Nat, f.sf = (sf : Int) := ⟨f.sf.toNat, by omega⟩
                have hfl : f.fl = ⟨f.nm, f.dt, sf⟩ := by unfold FlI.fl; rw [hsf]; rfl
                have hnl := ((nameOk_iff f.nm).1 ok1).2
                have hdl : f.dt.length ≤ 4194304 := by
                  have h1 := totI_next hf
                  have h2 := totI_take_le l (q + 1)
                  have h3 := HTT.out
                  omega
                rw [hsf] at g2
                have HNX := Lib.hid (HLD.out.next HCF.out hf)
                rw [hfl] at HNX
                have H8 := Lib.hid (h8.below hbw)
                have hd2 := HLW.out.hd
                have c0 := cell_of_row W d 0 _ _ _ hd2
                clear hf hW hbw hsz h8 hbl hwf hd2 HL ok1 ok2 ok3 hfl hsf
                go_wp2_with fail
                clear q0 q1 q2
                refine wp_region_ht 14 (fun W => W.cell? ⟨d, 0, none⟩ = some (.map (some m)) ∧ W.cell? ⟨wr.heap.size, 0, none⟩ = some (.string (bs f.nm)) ∧ W.cell? ⟨wr.heap.size, 1, none⟩ = some (.slice ai f.dt.length ci) ∧ W.cell? ⟨wr.heap.size, 2, none⟩ = some (.int .i64 (sf : Nat))) (by kernel_rfl) (by kernel_rfl) ?_ (fun hHeld => ?_)
                · exact ⟨c0, g0, g1, g2⟩
                try simp only [Act.put, List.setIfInBounds_toArray, List.set_cons_zero, List.set_cons_succ]
                refine wpHT_takeD (i := 0) (d := 88) (v := ?_) (by kernel_rfl) rfl rfl (by decide) (by kernel_rfl) (by kernel_rfl) (fun _ _ _ h => h) (Or.inl ⟨by kernel_rfl, ?_⟩) (by assumption) ?_
                rotate_left
                · intro w hSw; (try dsimp only at hSw); go_simp; (try with_reducible rfl)
                try simp only [Act.put, List.setIfInBounds_toArray, List.set_cons_zero, List.set_cons_succ]
                refine wpHT_takeD (i := 1) (d := 89) (v := ?_) (by kernel_rfl) rfl rfl (by decide) (by kernel_rfl) (by kernel_rfl) (fun _ _ _ h => h) (Or.inl ⟨by kernel_rfl, ?_⟩) (by assumption) ?_
                rotate_left
                · intro w hSw; (try dsimp only at hSw); go_simp; (try with_reducible rfl)
                try simp only [Act.put, List.setIfInBounds_toArray, List.set_cons_zero, List.set_cons_succ]
                refine wpHT_takeD (i := 2) (d := 90) (v := ?_) (by kernel_rfl) rfl rfl (by decide) (by kernel_rfl) (by kernel_rfl) (fun _ _ _ h => h) (Or.inl ⟨by kernel_rfl, ?_⟩) (by assumption) ?_
                rotate_left
                · intro w hSw; (try dsimp only at hSw); go_simp; (try with_reducible rfl)
                try simp only [Act.put, List.setIfInBounds_toArray, List.set_cons_zero, List.set_cons_succ]
                refine wpHT_takeD (i := 3) (d := 91) (v := ?_) (by kernel_rfl) rfl rfl (by decide) (by kernel_rfl) (by kernel_rfl) (fun _ _ _ h => h) (Or.inl ⟨by kernel_rfl, ?_⟩) (by assumption) ?_
                rotate_left
                · intro w hSw; (try dsimp only at hSw); go_simp; (try with_reducible rfl)
                try simp only [Act.put, List.setIfInBounds_toArray, List.set_cons_zero, List.set_cons_succ]
                refine wpHT_takeD (i := 4) (d := 92) (v := ?_) (by kernel_rfl) rfl rfl (by decide) (by kernel_rfl) (by kernel_rfl) (fun _ _ _ h => h) (Or.inl ⟨by kernel_rfl, ?_⟩) (by assumption) ?_
                rotate_left
                · intro w hSw; (try dsimp only at hSw); go_simp; (try with_reducible rfl)
                try simp only [Act.put, List.setIfInBounds_toArray, List.set_cons_zero, List.set_cons_succ]
                refine wpHT_takeD (i := 5) (d := 93) (v := ?_) (by kernel_rfl) rfl rfl (by decide) (by kernel_rfl) (by kernel_rfl) (fun _ _ _ h => h) (Or.inl ⟨by kernel_rfl, ?_⟩) (by assumption) ?_
                rotate_left
                · intro w hSw; (try dsimp only at hSw); go_simp; (try with_reducible rfl)
                try simp only [Act.put, List.setIfInBounds_toArray, List.set_cons_zero, List.set_cons_succ]
                refine wpHT_takeD (i := 7) (d := 95) (v := ?_) (by kernel_rfl) rfl rfl (by decide) (by kernel_rfl) (by kernel_rfl) (fun _ _ _ h => h) (Or.inl ⟨by kernel_rfl, ?_⟩) (by assumption) ?_
                rotate_left
                · intro w hSw; (try dsimp only at hSw); go_simp; (try with_reducible rfl)
                try simp only [Act.put, List.setIfInBounds_toArray, List.set_cons_zero, List.set_cons_succ]
                refine wpHT_takeD (i := 8) (d := 96) (v := ?_) (by kernel_rfl) rfl rfl (by decide) (by kernel_rfl) (by kernel_rfl) (fun _ _ _ h => h) (Or.inl ⟨by kernel_rfl, ?_⟩) (by assumption) ?_
                rotate_left
                · intro w hSw; (try dsimp only at hSw); go_simp; (try with_reducible rfl)
                try simp only [Act.put, List.setIfInBounds_toArray, List.set_cons_zero, List.set_cons_succ]
                refine wpHT_takeD (i := 10) (d := 98) (v := ?_) (by kernel_rfl) rfl rfl (by decide) (by kernel_rfl) (by kernel_rfl) (fun _ _ _ h => h) (Or.inl ⟨by kernel_rfl, ?_⟩) (by assumption) ?_
                rotate_left
                · intro w hSw; (try dsimp only at hSw); go_simp; (try with_reducible rfl)
                try simp only [Act.put, List.setIfInBounds_toArray, List.set_cons_zero, List.set_cons_succ]
                refine wpHT_takeD (i := 11) (d := 99) (v := ?_) (by kernel_rfl) rfl rfl (by decide) (by kernel_rfl) (by kernel_rfl) (fun _ _ _ h => h) (Or.inl ⟨by kernel_rfl, ?_⟩) (by assumption) ?_
                rotate_left
                · intro w hSw; (try dsimp only at hSw); go_simp; (try with_reducible rfl)
                try simp only [Act.put, List.setIfInBounds_toArray, List.set_cons_zero, List.set_cons_succ]
                refine wpHT_one (i := 6) (by kernel_rfl) rfl (by decide) (fun K hK => ?_)
                go_simp
                refine hK.out _ _ ?_ (fun hHeld => ?_)
                · exact ⟨cell_alloc_keep (w := W.drew) c0, cell_alloc_keep (w := W.drew) g0, cell_alloc_keep (w := W.drew) g1, cell_alloc_keep (w := W.drew) g2⟩
                clear hK K
                try simp only [Act.put, List.setIfInBounds_toArray, List.set_cons_zero, List.set_cons_succ]
                refine wpHT_one (i := 9) (by kernel_rfl) rfl (by decide) (fun K hK => ?_)
                refine step_app2 S5 rfl _ _ rfl W.heap.size rfl (made0 W.drew) rfl (H8.out.below ((Below.refl _ W).drew.alloc (Nat.le_refl _) _)).2 (B8_one _) (by omega) (by unfold maxLen; omega) ((Below.refl 0 W.drew).alloc (Nat.zero_le _) _).size ?_
                intro v2 w2 ho2 hg2 hl2
                have ho2 : Own8 w2 W.heap.size 5 v2 f.dt := Own8.mk ho2 (by simp) (by simp)
                obtain ⟨a2, cap2, rfl, hrd2⟩ := ho2.rd
                have hb2 : Below W.heap.size W w2 := ((Below.refl _ W).drew.alloc (Nat.le_refl _) _).grown hg2 ((Below.refl 0 W.drew).alloc (Nat.zero_le _) _).size (fun k hk => Nat.le_of_eq (Option.some.inj hk))
                have g0 := cell_below g0 hb2
                have g1 := cell_below g1 hb2
                have g2 := cell_below g2 hb2
                have c0 := cell_below c0 hb2
                have HO2 := Lib.hid ho2
                have HB2 := Lib.hid hb2
                clear ho2 hg2 hl2 hrd2 hb2
                refine hK.out _ _ ?_ (fun hHeld => ?_)
                · exact ⟨c0, g0, g1, g2⟩
                clear hK K
                try simp only [Act.put, List.setIfInBounds_toArray]
                refine wpHT_takeD (i := 12) (d := 100) (v := ?_) (by kernel_rfl) rfl rfl (by decide) (by kernel_rfl) (by kernel_rfl) (fun _ _ _ h => h) (Or.inl ⟨by kernel_rfl, ?_⟩) (by assumption) ?_
                rotate_left
                · intro w hSw; (try dsimp only at hSw); go_simp; (try with_reducible rfl)
                try simp only [Act.put]
                refine wpHT_one (i := 13) (by kernel_rfl) rfl (by decide) (fun K hK => ?_)
                go_simp
                refine hK.out _ _ ?_ (fun hHeld => ?_)
                · exact ⟨cell_alloc_keep c0, cell_alloc_keep g0, cell_alloc_keep g1, cell_alloc_keep g2⟩
                clear hK K
                try simp only [Act.put, List.setIfInBounds_toArray, List.set_cons_zero, List.set_cons_succ]
                refine wpHT_done (by kernel_rfl) ?_
                simp only [List.drop_succ_cons, List.drop_zero]
                clear hHeld
                have HL2 := Lib.hid (HLW.out.new HB2.out)
                go_wp2_with (at_mapUpdate; refine wpList_mapUpdate_own _ rfl _ _ _ 69 rfl 9 73 strKeyed Try.underlying69 ptrE m L'.length (mapOf L') rfl (ownsMap_block HL2.out.fm.hm (((Below.refl _ w2).alloc (Nat.le_refl _) _).block m HL2.out.fm.hm.lt)) (by unfold maxLen; omega) _ _ (.string f.nm) rfl rfl (keyS f.nm (by unfold maxLen; omega)) (fileLit w2.heap.size) [] rfl ?_; intro w4 hown4 hgrow4)
                rw [show (mapOf L').put (.string f.nm) (fileLit w2.heap.size) = mapOf (insC ⟨f.nm, f.dt, sf, w2.heap.size, .slice a2 f.dt.length cap2⟩ (delC f.nm L')) from mapOf_put L' ⟨f.nm, f.dt, sf, w2.heap.size, .slice a2 f.dt.length cap2⟩] at hown4
                have hf4 : Fr (fun k => k = m) W w4 := ((Fr.of_new HB2.out).alloc _).grown hgrow4 (fun k _ h => (Option.some.inj h).symm)
                have hmW := HLW.out.fm.hm.lt
                have hs2 := HB2.out.size
                have hlp := HLW.out.rep (c := ⟨f.nm, f.dt, sf, w2.heap.size, .slice a2 f.dt.length cap2⟩) hf4 HMB.out ⟨_, hown4⟩
                  ((hgrow4.block w2.heap.size (Array.getElem?_eq_some_iff.1 (heap_alloc_new _ _)).1 (fun e => by have := Option.some.inj e; omega)).trans (heap_alloc_new w2 _))
                  ((OwnC.of_own HO2.out).block fun k hk => (hgrow4.block k (Nat.lt_of_lt_of_le (World.ownsRow.lt HO2.out k hk).2 ((Below.refl 0 w2).alloc (Nat.zero_le _) _).size) (fun e => by have := Option.some.inj e; have := (World.ownsRow.lt HO2.out k hk).1; omega)).trans (((Below.refl _ w2).alloc (Nat.le_refl _) _).block k (World.ownsRow.lt HO2.out k hk).2))
                  hs2 (fun k hk => (World.ownsRow.lt HO2.out k hk).1)
                have hmap : (insC (⟨f.nm, f.dt, sf, w2.heap.size, .slice a2 f.dt.length cap2⟩ : Cel) (delC f.nm L')).map Cel.f = insF ⟨f.nm, f.dt, sf⟩ (delF f.nm (L'.map Cel.f)) := by rw [insC_f, delC_f]; rfl
                have hlen : (insC (⟨f.nm, f.dt, sf, w2.heap.size, .slice a2 f.dt.length cap2⟩ : Cel) (delC f.nm L')).length ≤ j + (q + 1) := by
                  have h1 := congrArg List.length hmap
                  rw [List.length_map, len_ins] at h1
                  have h2 : (delF f.nm (L'.map Cel.f)).length ≤ (L'.map Cel.f).length := List.length_filter_le _ _
                  rw [List.length_map] at h2
                  omega
                have HLP := Lib.hid hlp
                have HMAP := Lib.hid hmap
                clear hown4 hgrow4 hf4 hlp hmap hmW c0 g0 g1 g2 hs2
                go_wp2_with fail
                go_roundw
                case rel => exact ⟨q + 1, _, by omega, by go_num, hlen, by show LdAt _ _ _; rw [HMAP.out]; exact HNX.out, HLP.out⟩
                case measure => simp [intOf]; omega
              · obtain rfl : q = j := by omega
                have hfin := HL.out.done (HLD.out.done' HN.out HCF.out) rfl HDB.out HMB.out (HCF.out.ok (by rw [← HN.out]; omega) HTT.out (Int.le_refl _))
                have HFIN := Lib.hid hfin
                have HOK := Lib.hid (HCF.out.ok (by rw [← HN.out]; omega) HTT.out (Int.le_refl 0))
                clear hfin
                go_wp2_with fail
                go_ret2
                exact ⟨HL.out.bel, .inr ⟨hres.out, HOK.out, d, rfl, HFIN.out⟩⟩
end Go.Proofs.Ytkinhilkmjfjhaa
