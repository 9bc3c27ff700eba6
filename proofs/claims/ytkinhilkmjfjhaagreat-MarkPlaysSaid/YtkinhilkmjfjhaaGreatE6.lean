/-
  drop over the whole disk; the deeds of Remove and Rename. Written by a program (e6dgen.py).
-/
import Derived.Test.YtkinhilkmjfjhaaGreatE5
namespace Go.Proofs.YtkinhilkmjfjhaaGreat
open Go.RowKit Go.Maps
set_option maxRecDepth 100000
attribute [local go_sem] bs_size bs_toList
theorem delC_none {L : List Cel} {n : List UInt8} (h : getC n L = none) : delC n L = L := by
  unfold delC
  rw [List.filter_eq_self]
  intro c hc
  have := getC_none h c hc
  simpa using this
theorem delC_twice (L : List Cel) (n : List UInt8) : delC n (delC n L) = delC n L := by
  unfold delC
  rw [List.filter_filter]
  congr 1
  funext f
  rw [Bool.and_self]
theorem OwnC.sl {w : World} {v : Value} {l : List UInt8} (h : OwnC w v l) : ∃ a cap, v = .slice a l.length cap ∧ AtHead a ∧ l.length ≤ cap ∧ cap ≤ 9223372036854775807 := by
  rcases h with ⟨rfl, rfl⟩ | ⟨r, cap, cur, rfl, _, hnc, hcm, _⟩
  · exact ⟨none, 0, rfl, .inl rfl, Nat.le_refl _, by omega⟩
  · exact ⟨_, _, rfl, .inr ⟨r, rfl⟩, hnc, hcm⟩
theorem dt_le_tot {L : List Fl} {f : Fl} (h : f ∈ L) : f.dt.length ≤ tot L := by
  induction L with
  | nil => cases h
  | cons y r ih =>
    rw [tot_cons]
    rcases List.mem_cons.1 h with rfl | h
    · omega
    · have := ih h; omega
def Drop2Post (w : World) (d m : Nat) (L' : List Cel) (wr ar : Int) (dn : Bool) (e : Ending) (w' : World) : Prop :=
  e = .returned (.tuple #[]) ∧ Fr (fun k => k = d ∨ k = m) w w' ∧ w'.heap[d]? = some (.cells #[.map (some m), .int .i64 (tot (L'.map Cel.f) : Nat), .int .i64 wr, .int .i64 ar, .bool dn] 65 (0, 0)) ∧ w'.ownsMap Tryz.prog 9 ptrE m L'.length (mapOf L')
theorem drop2_any (d m : Nat) (L : List Cel) (n : List UInt8) (hn : n.length ≤ 9223372036854775807) (wr ar : Int) (dn : Bool) (w : World) (h : Dk w d m L wr ar dn) (hs : Srt (L.map Cel.f)) (ht : tot (L.map Cel.f) ≤ 4194304) :
    Calls Tryz.prog 70 #[.pointer (some ⟨d, 0, none⟩), .string (bs n)] w (Drop2Post w d m (delC n L) wr ar dn) := by
  cases hg : getC n L with
  | none =>
    refine (dropE_any d m _ L n hn hg w (cell_of_row w d 0 _ _ _ h.hd) h.hm).mono ?_
    rintro e w' ⟨rfl, rfl⟩
    rw [delC_none hg]
    exact ⟨rfl, Fr.refl _ _, h.hd, h.hm⟩
  | some c =>
    obtain ⟨hcL, hcn⟩ := getC_some hg
    obtain ⟨hcb, hco⟩ := h.hc c hcL
    obtain ⟨a, cap, hv, _⟩ := hco.sl
    rw [hv] at hcb
    have hle : c.dt.length ≤ tot (L.map Cel.f) := dt_le_tot (f := c.f) (List.mem_map_of_mem hcL)
    have htd : tot (L.map Cel.f) = c.dt.length + tot ((delC n L).map Cel.f) := by
      rw [delC_f]; exact tot_del hs (f := c.f) (by rw [getC_f, hg]; rfl)
    refine (drop_any d m _ L n hn c hg a c.dt.length cap c.sf (tot (L.map Cel.f) : Nat) wr ar dn (by omega) (by omega) w h.hd h.hm hcb h.apart.1).mono ?_
    rintro e w' ⟨rfl, h1, h2, k, h3⟩
    rw [show ((tot (L.map Cel.f) : Nat) : Int) - (c.dt.length : Int) = ((tot ((delC n L).map Cel.f) : Nat) : Int) by omega] at h2
    rw [mapOf_del] at h3
    have h4 := ownsMap_tight h3
    rw [mapOf_size] at h4
    exact ⟨rfl, h1, h2, h4⟩
theorem remove1_any (p q d m : Nat) (L : List Cel) (n : List UInt8) (hn : n.length ≤ 9223372036854775807) (wr ar : Int) (dn : Bool) (w : World) (k2 : w.cell? ⟨p, 0, none⟩ = some (.pointer (some ⟨d, 0, none⟩))) (k3 : w.cell? ⟨q, 0, none⟩ = some (.string (bs n)))
    (h : Dk w d m L wr ar dn) (hs : Srt (L.map Cel.f)) (ht : tot (L.map Cel.f) ≤ 4194304) :
    Calls Tryz.prog 69 #[.pointer (some ⟨p, 0, none⟩), .pointer (some ⟨q, 0, none⟩)] w (Drop2Post w d m (delC n L) wr ar dn) := by
  have HC := Lib.hid (drop2_any d m L n hn wr ar dn w h hs ht)
  clear h hs ht
  go_enter Tryz.func69, Tryz.ntmps69
  go_wp2_with (go_at_call 70; ((with_reducible refine (HC.out).mono ?_); rintro e w' ⟨rfl, hr⟩; have HR := Lib.hid hr; clear hr))
  go_end0
  exact ⟨rfl, HR.out⟩

/-- The files behind a change of a name. -/
def renC (a b : List UInt8) (c : Cel) (L : List Cel) : List Cel := delC a (insC ⟨b, c.dt, c.sf, c.b, c.v⟩ (delC b L))
theorem renameE_any (p q r : Nat) (a b : List UInt8) (w : World) (k2 : w.cell? ⟨p, 0, none⟩ = some (.string (bs a))) (k3 : w.cell? ⟨q, 0, none⟩ = some (.string (bs b))) (hab : a = b) :
    Calls Tryz.prog 80 #[.pointer (some ⟨p, 0, none⟩), .pointer (some ⟨q, 0, none⟩), .pointer (some ⟨r, 0, none⟩)] w fun e w' => e = .returned (.tuple #[]) ∧ w = w' := by
  subst hab
  go_enter Tryz.func80, Tryz.ntmps80
  go_wp2
  (try simp only [Exit.inBlock, Exit.then])
  refine bodyPost_ret (results_none rfl _ _ _) rfl ?_
  exact ⟨rfl, rfl⟩
set_option maxHeartbeats 1000000 in
theorem rename1_any (p q r d m : Nat) (L : List Cel) (a b : List UInt8) (ha : a.length ≤ 9223372036854775807) (hb : b.length ≤ 9223372036854775807) (hab : a ≠ b) (c : Cel) (hg : getC a L = some c) (wr ar : Int) (dn : Bool) (w : World)
    (k2 : w.cell? ⟨p, 0, none⟩ = some (.string (bs a))) (k3 : w.cell? ⟨q, 0, none⟩ = some (.string (bs b))) (k4 : w.cell? ⟨r, 0, none⟩ = some (.pointer (some ⟨d, 0, none⟩)))
    (npd : p ≠ d) (nqd : q ≠ d) (nrd : r ≠ d) (npm : p ≠ m) (nqm : q ≠ m) (nrm : r ≠ m)
    (h : Dk w d m L wr ar dn) (hs : Srt (L.map Cel.f)) (ht : tot (L.map Cel.f) ≤ 4194304) (hlen : L.length ≤ 64) :
    Calls Tryz.prog 80 #[.pointer (some ⟨p, 0, none⟩), .pointer (some ⟨q, 0, none⟩), .pointer (some ⟨r, 0, none⟩)] w fun e w' =>
      e = .returned (.tuple #[]) ∧ Fr (fun k => k = d ∨ k = m) w w' ∧ w'.heap[d]? = some (.cells #[.map (some m), .int .i64 (tot ((delC b L).map Cel.f) : Nat), .int .i64 wr, .int .i64 ar, .bool dn] 65 (0, 0)) ∧ ∃ k, w'.ownsMap Tryz.prog 9 ptrE m k (mapOf (renC a b c L)) := by
  have HC := Lib.hid (drop2_any d m L b hb wr ar dn w h hs ht)
  have hne : (a == b) = false := by simpa using hab
  have ndm := h.apart.1
  have hg2 : Hid (getC a (delC b L) = some c) := by
    unfold getC delC at *
    rw [List.find?_filter, ← hg]
    congr 1
    funext f
    rw [Bool.eq_iff_iff]
    simp only [beq_iff_eq, Bool.not_eq_true', beq_eq_false_iff_ne, decide_eq_true_eq]
    exact ⟨fun h => h.2, fun h => ⟨fun e => hab (h.symm.trans e), h⟩⟩
  have hl64 : Hid ((delC b L).length ≤ 64) := Nat.le_trans (List.length_filter_le _ _) hlen
  clear h hs ht hg hlen
  go_enter Tryz.func80, Tryz.ntmps80
  go_wp2_with (go_at_call 70; ((with_reducible refine (HC.out).mono ?_); rintro e w1 ⟨rfl, h1, h2, h3⟩; have H1 := Lib.hid h1; have H2 := Lib.hid h2; have H3 := Lib.hid h3; clear h1 h2 h3))
  clear hne HC
  have i2 : w1.cell? ⟨p, 0, none⟩ = some (.string (bs a)) := (H1.out.cell (p := ⟨p, 0, none⟩) (World.block_lt_of_cell? _ _ k2) (by rintro (e | e); exact npd e; exact npm e)).trans k2
  have i3 : w1.cell? ⟨q, 0, none⟩ = some (.string (bs b)) := (H1.out.cell (p := ⟨q, 0, none⟩) (World.block_lt_of_cell? _ _ k3) (by rintro (e | e); exact nqd e; exact nqm e)).trans k3
  have i4 : w1.cell? ⟨r, 0, none⟩ = some (.pointer (some ⟨d, 0, none⟩)) := (H1.out.cell (p := ⟨r, 0, none⟩) (World.block_lt_of_cell? _ _ k4) (by rintro (e | e); exact nrd e; exact nrm e)).trans k4
  have c0 := cell_of_row w1 d 0 _ _ _ H2.out
  have hl := look_at (w := w1.drew) H3.out.drew ha hg2.out
  clear k2 k3 k4
  refine wp_region_ht 11 (fun W => W.cell? ⟨p, 0, none⟩ = some (.string (bs a)) ∧ W.cell? ⟨q, 0, none⟩ = some (.string (bs b)) ∧ W.cell? ⟨r, 0, none⟩ = some (.pointer (some ⟨d, 0, none⟩)) ∧ W.cell? ⟨d, 0, none⟩ = some (.map (some m)) ∧ (Instr.lookup 63 (.map (some m)) (.string (bs a)) false).run Tryz.prog W = .ok (.pointer (some ⟨c.b, 0, none⟩)) W) (by kernel_rfl) (by kernel_rfl) ?_ (fun hHeld => ?_)
  · exact ⟨i2, i3, i4, c0, hl⟩
  try simp only [Act.put, List.setIfInBounds_toArray, List.set_cons_zero, List.set_cons_succ]
  refine wpHT_takeD (i := 0) (d := 9) (v := ?_) (by kernel_rfl) rfl rfl (by decide) (by kernel_rfl) (by kernel_rfl) (fun _ _ _ h => h) (Or.inl ⟨by kernel_rfl, ?_⟩) (by assumption) ?_
  rotate_left
  · intro w hSw; (try dsimp only at hSw); go_simp; (try with_reducible rfl)
  try simp only [Act.put, List.setIfInBounds_toArray, List.set_cons_zero, List.set_cons_succ]
  refine wpHT_takeD (i := 1) (d := 10) (v := ?_) (by kernel_rfl) rfl rfl (by decide) (by kernel_rfl) (by kernel_rfl) (fun _ _ _ h => h) (Or.inl ⟨by kernel_rfl, ?_⟩) (by assumption) ?_
  rotate_left
  · intro w hSw; (try dsimp only at hSw); go_simp; (try with_reducible rfl)
  try simp only [Act.put, List.setIfInBounds_toArray, List.set_cons_zero, List.set_cons_succ]
  refine wpHT_takeD (i := 2) (d := 11) (v := ?_) (by kernel_rfl) rfl rfl (by decide) (by kernel_rfl) (by kernel_rfl) (fun _ _ _ h => h) (Or.inl ⟨by kernel_rfl, ?_⟩) (by assumption) ?_
  rotate_left
  · intro w hSw; (try dsimp only at hSw); go_simp; (try with_reducible rfl)
  try simp only [Act.put, List.setIfInBounds_toArray, List.set_cons_zero, List.set_cons_succ]
  refine wpHT_takeD (i := 3) (d := 12) (v := ?_) (by kernel_rfl) rfl rfl (by decide) (by kernel_rfl) (by kernel_rfl) (fun _ _ _ h => h) (Or.inl ⟨by kernel_rfl, ?_⟩) (by assumption) ?_
  rotate_left
  · intro w hSw; (try dsimp only at hSw); go_simp; (try with_reducible rfl)
  try simp only [Act.put, List.setIfInBounds_toArray, List.set_cons_zero, List.set_cons_succ]
  refine wpHT_takeD (i := 4) (d := 13) (v := ?_) (by kernel_rfl) rfl rfl (by decide) (by kernel_rfl) (by kernel_rfl) (fun _ _ _ h => h) (Or.inl ⟨by kernel_rfl, ?_⟩) (by assumption) ?_
  rotate_left
  · intro w hSw; (try dsimp only at hSw); go_simp; (try with_reducible rfl)
  try simp only [Act.put, List.setIfInBounds_toArray, List.set_cons_zero, List.set_cons_succ]
  refine wpHT_takeD (i := 5) (d := 14) (v := ?_) (by kernel_rfl) rfl rfl (by decide) (by kernel_rfl) (by kernel_rfl) (fun _ _ _ h => h) (Or.inl ⟨by kernel_rfl, ?_⟩) (by assumption) ?_
  rotate_left
  · intro w hSw; (try dsimp only at hSw); go_simp; (try with_reducible rfl)
  try simp only [Act.put, List.setIfInBounds_toArray, List.set_cons_zero, List.set_cons_succ]
  refine wpHT_takeD (i := 6) (d := 15) (v := ?_) (by kernel_rfl) rfl rfl (by decide) (by kernel_rfl) (by kernel_rfl) (fun _ _ _ h => h) (Or.inl ⟨by kernel_rfl, ?_⟩) (by assumption) ?_
  rotate_left
  · intro w hSw; (try dsimp only at hSw); go_simp; (try with_reducible rfl)
  try simp only [Act.put, List.setIfInBounds_toArray, List.set_cons_zero, List.set_cons_succ]
  refine wpHT_takeD (i := 7) (d := 16) (v := ?_) (by kernel_rfl) rfl rfl (by decide) (by kernel_rfl) (by kernel_rfl) (fun _ _ _ h => h) (Or.inl ⟨by kernel_rfl, ?_⟩) (by assumption) ?_
  rotate_left
  · intro w hSw; (try dsimp only at hSw); go_simp; (try with_reducible rfl)
  try simp only [Act.put, List.setIfInBounds_toArray, List.set_cons_zero, List.set_cons_succ]
  refine wpHT_takeD (i := 8) (d := 17) (v := ?_) (by kernel_rfl) rfl rfl (by decide) (by kernel_rfl) (by kernel_rfl) (fun _ _ _ h => h) (Or.inl ⟨by kernel_rfl, ?_⟩) (by assumption) ?_
  rotate_left
  · intro w hSw; (try dsimp only at hSw); go_simp; (try with_reducible rfl)
  try simp only [Act.put, List.setIfInBounds_toArray, List.set_cons_zero, List.set_cons_succ]
  refine wpHT_takeD (i := 9) (d := 18) (v := ?_) (by kernel_rfl) rfl rfl (by decide) (by kernel_rfl) (by kernel_rfl) (fun _ _ _ h => h) (Or.inl ⟨by kernel_rfl, ?_⟩) (by assumption) ?_
  rotate_left
  · intro w hSw; (try dsimp only at hSw); go_simp; (try with_reducible rfl)
  try simp only [Act.put, List.setIfInBounds_toArray, List.set_cons_zero, List.set_cons_succ]
  refine wpHT_takeD (i := 10) (d := 19) (v := ?_) (by kernel_rfl) rfl rfl (by decide) (by kernel_rfl) (by kernel_rfl) (fun _ _ _ h => h) (Or.inl ⟨by kernel_rfl, ?_⟩) (by assumption) ?_
  rotate_left
  · intro w hSw; (try dsimp only at hSw); go_simp; (try with_reducible rfl)
  try simp only [Act.put, List.setIfInBounds_toArray, List.set_cons_zero, List.set_cons_succ]
  refine wpHT_done (by kernel_rfl) ?_
  simp only [List.drop_succ_cons, List.drop_zero]
  clear hHeld hl
  go_wp2_with (at_mapUpdate; refine wpList_mapUpdate_own _ rfl _ _ _ 63 rfl 9 106 strKeyed Tryz.underlying63 ptrE m _ (mapOf (delC b L)) rfl H3.out.drew (by have := hl64.out; show _ < 9223372036854775807; omega) _ _ (.string b) rfl rfl (keyS b hb) (fileLit c.b) [] rfl ?_; intro w2 hown2 hgrow2; have H4 := Lib.hid hown2; have H5 := Lib.hid hgrow2; clear hown2 hgrow2)
  have j2 : w2.cell? ⟨p, 0, none⟩ = some (.string (bs a)) := H5.out.cell (w := w1.drew) (a := ⟨p, 0, none⟩) i2 (fun e => npm (Option.some.inj e))
  have j4 : w2.cell? ⟨r, 0, none⟩ = some (.pointer (some ⟨d, 0, none⟩)) := H5.out.cell (w := w1.drew) (a := ⟨r, 0, none⟩) i4 (fun e => nrm (Option.some.inj e))
  have d0 : w2.cell? ⟨d, 0, none⟩ = some (.map (some m)) := H5.out.cell (w := w1.drew) (a := ⟨d, 0, none⟩) c0 (fun e => ndm (Option.some.inj e))
  clear i2 i3 i4 c0
  refine wp_region_ht 5 (fun W => W.cell? ⟨p, 0, none⟩ = some (.string (bs a)) ∧ W.cell? ⟨r, 0, none⟩ = some (.pointer (some ⟨d, 0, none⟩)) ∧ W.cell? ⟨d, 0, none⟩ = some (.map (some m))) (by kernel_rfl) (by kernel_rfl) ?_ (fun hHeld => ?_)
  · exact ⟨j2, j4, d0⟩
  try simp only [Act.put]
  refine wpHT_takeD (i := 0) (d := 20) (v := ?_) (by kernel_rfl) rfl rfl (by decide) (by kernel_rfl) (by kernel_rfl) (fun _ _ _ h => h) (Or.inl ⟨by kernel_rfl, ?_⟩) (by assumption) ?_
  rotate_left
  · intro w hSw; (try dsimp only at hSw); go_simp; (try with_reducible rfl)
  try simp only [Act.put, List.setIfInBounds_toArray, List.set_cons_zero, List.set_cons_succ]
  refine wpHT_takeD (i := 1) (d := 21) (v := ?_) (by kernel_rfl) rfl rfl (by decide) (by kernel_rfl) (by kernel_rfl) (fun _ _ _ h => h) (Or.inl ⟨by kernel_rfl, ?_⟩) (by assumption) ?_
  rotate_left
  · intro w hSw; (try dsimp only at hSw); go_simp; (try with_reducible rfl)
  try simp only [Act.put, List.setIfInBounds_toArray, List.set_cons_zero, List.set_cons_succ]
  refine wpHT_takeD (i := 2) (d := 22) (v := ?_) (by kernel_rfl) rfl rfl (by decide) (by kernel_rfl) (by kernel_rfl) (fun _ _ _ h => h) (Or.inl ⟨by kernel_rfl, ?_⟩) (by assumption) ?_
  rotate_left
  · intro w hSw; (try dsimp only at hSw); go_simp; (try with_reducible rfl)
  try simp only [Act.put, List.setIfInBounds_toArray, List.set_cons_zero, List.set_cons_succ]
  refine wpHT_takeD (i := 3) (d := 23) (v := ?_) (by kernel_rfl) rfl rfl (by decide) (by kernel_rfl) (by kernel_rfl) (fun _ _ _ h => h) (Or.inl ⟨by kernel_rfl, ?_⟩) (by assumption) ?_
  rotate_left
  · intro w hSw; (try dsimp only at hSw); go_simp; (try with_reducible rfl)
  try simp only [Act.put, List.setIfInBounds_toArray, List.set_cons_zero, List.set_cons_succ]
  refine wpHT_takeD (i := 4) (d := 24) (v := ?_) (by kernel_rfl) rfl rfl (by decide) (by kernel_rfl) (by kernel_rfl) (fun _ _ _ h => h) (Or.inl ⟨by kernel_rfl, ?_⟩) (by assumption) ?_
  rotate_left
  · intro w hSw; (try dsimp only at hSw); go_simp; (try with_reducible rfl)
  try simp only [Act.put, List.setIfInBounds_toArray, List.set_cons_zero, List.set_cons_succ]
  refine wpHT_done (by kernel_rfl) ?_
  simp only [List.drop_succ_cons, List.drop_zero]
  clear hHeld
  go_wp2_with (at_delete; refine wpList_delete_own _ rfl _ _ 63 9 rfl 106 strKeyed Tryz.underlying63 ptrE m _ _ rfl H4.out.drew _ (.string a) rfl (keyS a ha) ?_; intro w3 hown3 hturn3)
  go_end0
  have hd : (mapOf (delC b L)).put (.string b) (fileLit c.b) = mapOf (insC ⟨b, c.dt, c.sf, c.b, c.v⟩ (delC b L)) := by
    have := mapOf_put (delC b L) ⟨b, c.dt, c.sf, c.b, c.v⟩
    rw [show delC (Cel.mk b c.dt c.sf c.b c.v).nm (delC b L) = delC b L from delC_twice L b] at this
    exact this
  rw [hd, mapOf_del] at hown3
  have lt1 : d < w1.drew.heap.size := (Array.getElem?_eq_some_iff.1 H2.out).1
  have lt2 : d < w2.drew.heap.size := Nat.lt_of_lt_of_le lt1 H5.out.size
  exact ⟨rfl, ((H1.out.drew.grown H5.out (fun k _ e => .inr (Option.some.inj e).symm)).drew.grown hturn3.grown (fun k _ e => .inr (Option.some.inj e).symm)),
    (hturn3.grown.block d lt2 (fun e => ndm (Option.some.inj e))).trans ((H5.out.block d lt1 (fun e => ndm (Option.some.inj e))).trans H2.out), _, hown3⟩
end Go.Proofs.YtkinhilkmjfjhaaGreat
