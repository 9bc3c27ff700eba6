/-
 The laws' Same: the disk stands as the reference's.
-/
import Derived.Test.YtjjcilinghgphaaGreatEX
namespace Go.Proofs.YtjjcilinghgphaaGreat
open Go.RowKit Go.Maps Go.Sort
set_option maxRecDepth 100000
attribute [local go_sem] bs_size bs_toList

theorem WrB.set {w : World} {a : Option Addr} {n : Nat} (h : WrB w a n) (r k : Nat) (v : Value) : WrB (w.setCell ⟨r, k, none⟩ v) a n := by
 rcases h with h | ⟨g, cur, rfl, hg, hc⟩
 · exact .inl h
 · by_cases e : r = g
   · subst e
     exact .inr ⟨r, cur.setIfInBounds k v, rfl, row_set hg rfl, by simpa using hc⟩
   · exact .inr ⟨g, cur, rfl, (heap_setCell_other w ⟨r, k, none⟩ g v (fun e' => e e'.symm)).trans hg, hc⟩
/-- Files that the call made, that may be written over: row and bytes. -/
def LW (w : World) (base : Nat) (a : Option Addr) (l : List Fl) : Prop :=
 ∀ (j : Nat) (f : Fl), l[j]? = some f → ∃ b aj cj, a = some ⟨b, 0, none⟩ ∧ base ≤ b ∧ w.cell? ⟨b, j * 3 + 1, none⟩ = some (.slice aj f.dt.length cj) ∧ WrB w aj f.dt.length ∧ BlkIn aj f.dt.length (fun q => base ≤ q ∧ q ≠ b)
theorem LW.of_own {w : World} {base : Nat} {a : Option Addr} {n cap : Nat} {vs : List Value} {l : List Fl} (h : OwnFs w base (.slice a n cap) vs l) : LW w base a l := by
 obtain ⟨hl, hr, hd⟩ := h
 intro j f hf
 obtain ⟨u, hu⟩ : ∃ u, vs[j]? = some u := ⟨_, List.getElem?_eq_getElem (by have := (List.getElem?_eq_some_iff.1 hf).1; omega)⟩
 have ho := hd j f u hf hu
 obtain ⟨aj, cj, rfl, h8⟩ := ho.rd
 obtain ⟨g1, g2, g3⟩ := flatF_get l vs j f _ hf hu
 have hr' := hr
 rcases hr.2 with ⟨h1, h2⟩ | ⟨g, cap', cur, h1, hb, hg, hnc, hcm, hcs, ht⟩
 · have := (List.getElem?_eq_some_iff.1 hf).1; omega
 · simp at h1
   obtain ⟨rfl, _, rfl⟩ := h1
   refine ⟨g, aj, cj, rfl, hb, ?_, WrB.of_own ho rfl, fun h0 q hq => ?_⟩
   · rw [cell_of_row w g _ _ _ _ hg, Nat.mul_comm]
     rw [← ht, List.getElem?_take] at g2
     split at g2
     · simpa using g2
     · cases g2
   · have hq' : (Value.slice aj f.dt.length cj).ownBlock = some q := by rw [ownBlock_sl]; exact hq
     refine ⟨(World.ownsRow.lt ho q hq').1, fun e => ?_⟩
     obtain ⟨cur', hc'⟩ := ownsRow_type ho hq'
     rw [e, hg] at hc'
     simp at hc'
theorem LW.keep {w w' : World} {base : Nat} {a : Option Addr} {l : List Fl} (h : LW w base a l) (hb : Below w.heap.size w w') : LW w' base a l := fun j f hf => by
 obtain ⟨b, aj, cj, h1, h2, h3, h4, h5⟩ := h j f hf
 refine ⟨b, aj, cj, h1, h2, cell_below h3 hb, ?_, h5⟩
 rcases h4 with h4 | ⟨r, cur, rfl, hg, hc⟩
 · exact .inl h4
 · exact .inr ⟨r, cur, rfl, (hb.block r (Array.getElem?_eq_some_iff.1 hg).1).trans hg, hc⟩
theorem LW.set {w : World} {base : Nat} {a : Option Addr} {l : List Fl} (h : LW w base a l) {r : Nat} (k : Nat) (v : Value) (hr : ∀ b, blk a = some b → r ≠ b) : LW (w.setCell ⟨r, k, none⟩ v) base a l := fun j f hf => by
 obtain ⟨b, aj, cj, rfl, h2, h3, h4, h5⟩ := h j f hf
 refine ⟨b, aj, cj, rfl, h2, ?_, h4.set r k v, h5⟩
 have fr : Fr (fun q => q = r) w (w.setCell ⟨r, k, none⟩ v) := (Fr.refl (fun q => q = r) w).setCell (fun _ => rfl) _
 exact (fr.cell (p := ⟨b, j * 3 + 1, none⟩) (World.block_lt_of_cell? _ _ h3) (fun e => hr b rfl e.symm)).trans h3
theorem names_map (l : List Fl) : (l.map Fl.nm).map encStr = (l.map Fl.nm).map fun x => Value.string (bs x) := List.map_congr_left fun x _ => encStr_bs x
set_option maxHeartbeats 4000000 in
theorem same_any (d : Nat) (S : Nat → Prop) (B : Int) (c : Nat) (S' : Nat → Prop) (s : DS) (w : World) (h : DkS B w d S s) (h' : Rf w c S' s) :
 Calls Tryz.prog 29 #[.pointer (some ⟨d, 0, none⟩), .pointer (some ⟨c, 0, none⟩)] w (TrueEnd w) := by
 have HD := Lib.hid h
 have HR := Lib.hid h'
 have HF := Lib.hid (files_any d S B s w h)
 have hl64 := h.ok.len
 have ht4 := h.ok.tot
 have hdt : Hid (∀ f ∈ s.fs, f.dt.length ≤ 4194304) := fun f hf => Nat.le_trans (dt_le_tot hf) ht4
 obtain ⟨m, hm⟩ : ∃ m, s.fs.length = m := ⟨_, rfl⟩
 rw [hm] at hl64
 have HM := Lib.hid hm
 clear h h' hm
 go_enter Tryz.func29, Tryz.ntmps29
 go_wp2_with fail
 go_at_call 68
 refine (HF.out).mono ?_
 rintro e w1 ⟨v, vs, rfl, ho, hb⟩
 obtain ⟨a5, c5, rfl, hr5⟩ := ho.rd
 rw [HM.out] at ho hr5 ⊢
 have HLW := Lib.hid (LW.of_own ho)
 have HB1 := Lib.hid hb
 obtain ⟨a, cap, c0', k1, k2, k3, hrr⟩ := (HR.out.below hb).row
 rw [HM.out] at c0' hrr
 have HQ := Lib.hid (filesEq_draws _ _ _ _ _ _ _ _ _ _ _ hr5 hrr)
 have HBA : Hid (∀ b, blk a5 = some b → 0 < m → w.heap.size ≤ b ∧ b < w1.heap.size) := fun b hb h0 => hr5.2.1 h0 b hb
 rw [filesB_self] at HQ
 have C0 := Lib.hid c0'
 clear ho hb hr5 k1 k2 k3 hrr HF
 go_wp2_with fail
 go_at_call 69
 refine (HQ.out).mono ?_
 rintro e w2 ⟨rfl, hd2⟩
 have hb2 := draws_below hd2
 have HB2 := Lib.hid (next_below HB1.out hb2)
 have HLW2 := Lib.hid (HLW.out.keep hb2)
 have C2 := Lib.hid (cell_below C0.out hb2)
 have HL := Lib.hid (list_any d S B s w2 (HD.out.below HB2.out))
 clear hd2 hb2 HQ HLW C0 c0'
 go_wp2_with fail
 go_at_call 20
 refine (HL.out).mono ?_
 rintro e w3 ⟨v3, rfl, ho3, hb3⟩
 rw [List.length_map, HM.out, names_map] at ho3
 obtain ⟨a3, cap3, rfl, hr3⟩ := Rd.of_own ho3
 have HB3 := Lib.hid (next_below HB2.out hb3)
 have HLW3 := Lib.hid (HLW2.out.keep hb3)
 have HRS3 : Hid (RdS w3 a3 m cap3 (s.fs.map Fl.nm)) := ⟨by rw [List.length_map, HM.out], hr3⟩
 have HRL := Lib.hid (rlist_any c S' s (by rw [HM.out]; exact hl64) w3 (HR.out.below HB3.out))
 clear ho3 hb3 hr3 HLW2 HL
 go_wp2_with fail
 go_at_call 61
 refine (HRL.out).mono ?_
 rintro e w4 ⟨v4, rfl, ho4, hb4⟩
 rw [HM.out] at ho4
 obtain ⟨a4, cap4, rfl, hr4⟩ := Rd.of_own ho4
 have HB4 := Lib.hid (next_below HB3.out hb4)
 have HLW4 := Lib.hid (HLW3.out.keep hb4)
 have HTX := Lib.hid (texts_same a3 a4 m cap3 cap4 (s.fs.map Fl.nm) w4 (HRS3.out.below hb4) ⟨by rw [List.length_map, HM.out], by rw [List.map_map]; exact hr4⟩)
 clear ho4 hb4 hr4 HLW3 HRL HRS3
 go_wp2_with fail
 go_at_call 70
 refine (HTX.out).mono ?_
 rintro e w5 ⟨rfl, hd5⟩
 have hb5 := draws_below hd5
 have HB5 := Lib.hid (next_below HB4.out hb5)
 have HLW5 := Lib.hid (HLW4.out.keep hb5)
 clear hd5 hb5 HLW4 HTX
 have hbase : Hid (w.heap.size ≤ w5.heap.size) := HB5.out.size
 go_wp2_with fail
 go_loopw [6, 7] (fun i _ wr => ∃ J : Nat, J ≤ m ∧ i = .int .i64 (J : Nat) ∧ Hid (LW wr w.heap.size a5 s.fs) ∧ Hid (Below w.heap.size w wr)) (fun i _ _ => m - (intOf i).toNat)
 case atStart => exact ⟨0, Nat.zero_le _, rfl, HLW5.out, HB5.out⟩
 case round =>
  obtain ⟨J, hJ, rfl, HLR, HBR⟩ := hrel
  by_cases hlt : J < m
  · obtain ⟨f, hf⟩ : ∃ f, s.fs[J]? = some f := ⟨_, List.getElem?_eq_getElem (by have := HM.out; omega)⟩
    obtain ⟨b, aj, cj, rfl, hbb, hcell, hwr, hblk⟩ := HLR.out J f hf
    have hdl := hdt.out f (List.mem_of_getElem? hf)
    have HFK := Lib.hid hf
    have HC := Lib.hid hcell
    clear hf hwr hblk hcell
    go_wp2_with fail
    go_loopw [7] (fun i wx => ∃ k : Nat, k ≤ f.dt.length ∧ i = .int .i64 (k : Nat) ∧ Hid (LW wx w.heap.size (some ⟨b, 0, none⟩) s.fs) ∧ Hid (Below w.heap.size w wx)) (fun i _ => f.dt.length - (intOf i).toNat)
    case atStart => exact ⟨0, Nat.zero_le _, rfl, HLR.out, HBR.out⟩
    case round =>
     obtain ⟨k, hk, rfl, HLX, HBX⟩ := hrel
     obtain ⟨b', aj', cj', e, hbb', hcell, hwr, hblk⟩ := HLX.out J f HFK.out
     obtain rfl : b = b' := by simpa using e
     by_cases hlk : k < f.dt.length
     · obtain ⟨r, u, rfl, cu, fu, _⟩ := hwr.at hlk
       have HBK := Lib.hid hblk
       clear hblk hwr e hbb'
       go_wp2_with fail
       go_roundw
       case rel => exact ⟨k + 1, by omega, by go_num, HLX.out.set k _ (fun q hq => by cases hq; exact (HBK.out (by omega) r rfl).2), HBX.out.setCell (p := ⟨r, k, none⟩) (HBK.out (by omega) r rfl).1 _⟩
       case measure => simp [intOf]; omega
     · obtain rfl : k = f.dt.length := by omega
       clear hblk hwr e hbb'
       go_wp2_with fail
       go_roundw
       case rel => exact ⟨J + 1, by omega, by go_num, HLX.out, HBX.out⟩
       case measure => simp [intOf]; omega
  · obtain rfl : J = m := by omega
    obtain ⟨a, cap, c0', c1, c2, c3, hrr⟩ := (HR.out.below HBR.out).row
    have c0 : wr.cell? ⟨c, 0, none⟩ = some (.slice a J cap) := by rw [← HM.out]; exact c0'
    have hrr' : RdFs wr S' a J cap s.fs := by rw [← HM.out]; exact hrr
    have HRR := Lib.hid hrr'
    have hbd := (Below.refl w.heap.size wr).drew
    have HBD : Hid (Below w.heap.size w wr.drew) := HBR.out.trans hbd
    have HF2 := Lib.hid (files_any d S B s wr.drew (HD.out.below HBD.out))
    clear c0' hrr hrr' HLR c2
    go_wp2_with fail
    refine wp_region_ht 32 (fun W => W.cell? ⟨c, 0, none⟩ = some (.slice a J cap) ∧ W.cell? ⟨c, 1, none⟩ = some (.bool s.dn) ∧ W.cell? ⟨c, 3, none⟩ = some (.int .i64 s.wr)) (by kernel_rfl) (by kernel_rfl) ?_ (fun hHeld => ?_)
    · exact ⟨c0, c1, c3⟩
    try simp only [Act.put, List.setIfInBounds_toArray, List.set_cons_zero, List.set_cons_succ]
    refine wpHT_takeD (i := 0) (d := 48) (v := ?_) (by kernel_rfl) rfl rfl (by decide) (by kernel_rfl) (by kernel_rfl) (fun _ _ _ h => h) (Or.inl ⟨by kernel_rfl, ?_⟩) (by assumption) ?_
    rotate_left
    · intro w hSw; (try dsimp only at hSw); go_simp; (try with_reducible rfl)
    try simp only [Act.put, List.setIfInBounds_toArray, List.set_cons_zero, List.set_cons_succ]
    refine wpHT_takeD (i := 2) (d := 50) (v := ?_) (by kernel_rfl) rfl rfl (by decide) (by kernel_rfl) (by kernel_rfl) (fun _ _ _ h => h) (Or.inl ⟨by kernel_rfl, ?_⟩) (by assumption) ?_
    rotate_left
    · intro w hSw; (try dsimp only at hSw); go_simp; (try with_reducible rfl)
    try simp only [Act.put, List.setIfInBounds_toArray, List.set_cons_zero, List.set_cons_succ]
    refine wpHT_takeD (i := 3) (d := 51) (v := ?_) (by kernel_rfl) rfl rfl (by decide) (by kernel_rfl) (by kernel_rfl) (fun _ _ _ h => h) (Or.inl ⟨by kernel_rfl, ?_⟩) (by assumption) ?_
    rotate_left
    · intro w hSw; (try dsimp only at hSw); go_simp; (try with_reducible rfl)
    try simp only [Act.put, List.setIfInBounds_toArray, List.set_cons_zero, List.set_cons_succ]
    refine wpHT_takeD (i := 4) (d := 52) (v := ?_) (by kernel_rfl) rfl rfl (by decide) (by kernel_rfl) (by kernel_rfl) (fun _ _ _ h => h) (Or.inl ⟨by kernel_rfl, ?_⟩) (by assumption) ?_
    rotate_left
    · intro w hSw; (try dsimp only at hSw); go_simp; (try with_reducible rfl)
    try simp only [Act.put, List.setIfInBounds_toArray, List.set_cons_zero, List.set_cons_succ]
    refine wpHT_takeD (i := 5) (d := 53) (v := ?_) (by kernel_rfl) rfl rfl (by decide) (by kernel_rfl) (by kernel_rfl) (fun _ _ _ h => h) (Or.inl ⟨by kernel_rfl, ?_⟩) (by assumption) ?_
    rotate_left
    · intro w hSw; (try dsimp only at hSw); go_simp; (try with_reducible rfl)
    try simp only [Act.put, List.setIfInBounds_toArray, List.set_cons_zero, List.set_cons_succ]
    refine wpHT_one (i := 1) (by kernel_rfl) rfl (by decide) (fun K hK => ?_)
    go_simp
    go_at_call 68
    refine (HF2.out).mono ?_
    rintro e x1 ⟨v, vs1, rfl, ho, hb⟩
    obtain ⟨a7, c7, rfl, hr7⟩ := ho.rd
    have HX1 := Lib.hid (next_below HBD.out hb)
    have h0 := cell_below (W := wr.drew) c0 hb
    have h1 := cell_below (W := wr.drew) c1 hb
    have h3 := cell_below (W := wr.drew) c3 hb
    have hq2 := filesEq_draws _ _ _ _ _ _ _ _ _ _ _ hr7 ((HRR.out.keep ((Fr.refl (fun _ => False) wr).drew) (fun _ _ h => h)).below hb)
    rw [filesB_self] at hq2
    have HQ2 := Lib.hid hq2
    clear ho hb hr7 hq2
    refine hK.out _ _ ?_ (fun hHeld => ?_)
    · exact ⟨h0, h1, h3⟩
    clear hK K
    try simp only [Act.put, List.setIfInBounds_toArray, List.set_cons_zero, List.set_cons_succ]
    refine wpHT_one (i := 6) (by kernel_rfl) rfl (by decide) (fun K hK => ?_)
    go_simp
    go_at_call 69
    refine (HQ2.out).mono ?_
    rintro e x2 ⟨rfl, hd2⟩
    have hb2 := draws_below hd2
    have HX2 := Lib.hid (next_below HX1.out hb2)
    have z0 := cell_below h0 hb2
    have z1 := cell_below h1 hb2
    have z3 := cell_below h3 hb2
    clear hd2 hb2 h0 h1 h3
    refine hK.out _ _ ?_ (fun hHeld => ?_)
    · exact ⟨z0, z1, z3⟩
    clear hK K
    try simp only [Act.put, List.setIfInBounds_toArray, List.set_cons_zero, List.set_cons_succ]
    refine wpHT_takeD (i := 7) (d := 55) (v := ?_) (by kernel_rfl) rfl rfl (by decide) (by kernel_rfl) (by kernel_rfl) (fun _ _ _ h => h) (Or.inl ⟨by kernel_rfl, ?_⟩) (by assumption) ?_
    rotate_left
    · intro w hSw; (try dsimp only at hSw); go_simp; (try with_reducible rfl)
    try simp only [Act.put, List.setIfInBounds_toArray, List.set_cons_zero, List.set_cons_succ]
    refine wpHT_takeD (i := 8) (d := 56) (v := ?_) (by kernel_rfl) rfl rfl (by decide) (by kernel_rfl) (by kernel_rfl) (fun _ _ _ h => h) (Or.inl ⟨by kernel_rfl, ?_⟩) (by assumption) ?_
    rotate_left
    · intro w hSw; (try dsimp only at hSw); go_simp; (try with_reducible rfl)
    try simp only [Act.put, List.setIfInBounds_toArray, List.set_cons_zero, List.set_cons_succ]
    refine wpHT_takeD (i := 10) (d := 58) (v := ?_) (by kernel_rfl) rfl rfl (by decide) (by kernel_rfl) (by kernel_rfl) (fun _ _ _ h => h) (Or.inl ⟨by kernel_rfl, ?_⟩) (by assumption) ?_
    rotate_left
    · intro w hSw; (try dsimp only at hSw); go_simp; (try with_reducible rfl)
    try simp only [Act.put, List.setIfInBounds_toArray, List.set_cons_zero, List.set_cons_succ]
    refine wpHT_one (i := 9) (by kernel_rfl) rfl (by decide) (fun K hK => ?_)
    go_simp
    go_at_call 71
    refine (size_any d S B s _ (HD.out.below HX2.out)).mono ?_
    rintro e x3 ⟨rfl, rfl⟩
    refine hK.out _ _ ?_ (fun hHeld => ?_)
    · exact ⟨z0, z1, z3⟩
    clear hK K
    try simp only [Act.put, List.setIfInBounds_toArray, List.set_cons_zero, List.set_cons_succ]
    refine wpHT_one (i := 11) (by kernel_rfl) rfl (by decide) (fun K hK => ?_)
    go_simp
    go_at_call 27
    refine (rsize_any c S' s (by rw [HM.out]; exact hl64) ht4 _ (HR.out.below HX2.out)).mono ?_
    rintro e x3 ⟨rfl, rfl⟩
    refine hK.out _ _ ?_ (fun hHeld => ?_)
    · exact ⟨z0, z1, z3⟩
    clear hK K
    try simp only [Act.put, List.setIfInBounds_toArray, List.set_cons_zero, List.set_cons_succ]
    refine wpHT_takeD (i := 12) (d := 60) (v := ?_) (by kernel_rfl) rfl rfl (by decide) (by kernel_rfl) (by kernel_rfl) (fun _ _ _ h => h) (Or.inl ⟨by kernel_rfl, ?_⟩) (by assumption) ?_
    rotate_left
    · intro w hSw; (try dsimp only at hSw); go_simp; (try with_reducible rfl)
    try simp only [Act.put, List.setIfInBounds_toArray, List.set_cons_zero, List.set_cons_succ]
    refine wpHT_takeD (i := 13) (d := 61) (v := ?_) (by kernel_rfl) rfl rfl (by decide) (by kernel_rfl) (by kernel_rfl) (fun _ _ _ h => h) (Or.inl ⟨by kernel_rfl, ?_⟩) (by assumption) ?_
    rotate_left
    · intro w hSw; (try dsimp only at hSw); go_simp; (try with_reducible rfl)
    try simp only [Act.put, List.setIfInBounds_toArray, List.set_cons_zero, List.set_cons_succ]
    refine wpHT_takeD (i := 14) (d := 62) (v := ?_) (by kernel_rfl) rfl rfl (by decide) (by kernel_rfl) (by kernel_rfl) (fun _ _ _ h => h) (Or.inl ⟨by kernel_rfl, ?_⟩) (by assumption) ?_
    rotate_left
    · intro w hSw; (try dsimp only at hSw); go_simp; (try with_reducible rfl)
    try simp only [Act.put, List.setIfInBounds_toArray, List.set_cons_zero, List.set_cons_succ]
    refine wpHT_takeD (i := 15) (d := 63) (v := ?_) (by kernel_rfl) rfl rfl (by decide) (by kernel_rfl) (by kernel_rfl) (fun _ _ _ h => h) (Or.inl ⟨by kernel_rfl, ?_⟩) (by assumption) ?_
    rotate_left
    · intro w hSw; (try dsimp only at hSw); go_simp; (try with_reducible rfl)
    try simp only [Act.put, List.setIfInBounds_toArray, List.set_cons_zero, List.set_cons_succ]
    refine wpHT_takeD (i := 17) (d := 65) (v := ?_) (by kernel_rfl) rfl rfl (by decide) (by kernel_rfl) (by kernel_rfl) (fun _ _ _ h => h) (Or.inl ⟨by kernel_rfl, ?_⟩) (by assumption) ?_
    rotate_left
    · intro w hSw; (try dsimp only at hSw); go_simp; (try with_reducible rfl)
    try simp only [Act.put, List.setIfInBounds_toArray, List.set_cons_zero, List.set_cons_succ]
    refine wpHT_takeD (i := 18) (d := 66) (v := ?_) (by kernel_rfl) rfl rfl (by decide) (by kernel_rfl) (by kernel_rfl) (fun _ _ _ h => h) (Or.inl ⟨by kernel_rfl, ?_⟩) (by assumption) ?_
    rotate_left
    · intro w hSw; (try dsimp only at hSw); go_simp; (try with_reducible rfl)
    try simp only [Act.put, List.setIfInBounds_toArray, List.set_cons_zero, List.set_cons_succ]
    refine wpHT_takeD (i := 19) (d := 67) (v := ?_) (by kernel_rfl) rfl rfl (by decide) (by kernel_rfl) (by kernel_rfl) (fun _ _ _ h => h) (Or.inl ⟨by kernel_rfl, ?_⟩) (by assumption) ?_
    rotate_left
    · intro w hSw; (try dsimp only at hSw); go_simp; (try with_reducible rfl)
    try simp only [Act.put, List.setIfInBounds_toArray, List.set_cons_zero, List.set_cons_succ]
    refine wpHT_takeD (i := 20) (d := 68) (v := ?_) (by kernel_rfl) rfl rfl (by decide) (by kernel_rfl) (by kernel_rfl) (fun _ _ _ h => h) (Or.inl ⟨by kernel_rfl, ?_⟩) (by assumption) ?_
    rotate_left
    · intro w hSw; (try dsimp only at hSw); go_simp; (try with_reducible rfl)
    try simp only [Act.put, List.setIfInBounds_toArray, List.set_cons_zero, List.set_cons_succ]
    refine wpHT_one (i := 16) (by kernel_rfl) rfl (by decide) (fun K hK => ?_)
    go_simp
    go_at_call 72
    refine (writes_any d S B s _ (HD.out.below HX2.out)).mono ?_
    rintro e x3 ⟨rfl, rfl⟩
    refine hK.out _ _ ?_ (fun hHeld => ?_)
    · exact ⟨z0, z1, z3⟩
    clear hK K
    try simp only [Act.put, List.setIfInBounds_toArray, List.set_cons_zero, List.set_cons_succ]
    refine wpHT_takeD (i := 21) (d := 69) (v := ?_) (by kernel_rfl) rfl rfl (by decide) (by kernel_rfl) (by kernel_rfl) (fun _ _ _ h => h) (Or.inl ⟨by kernel_rfl, ?_⟩) (by assumption) ?_
    rotate_left
    · intro w hSw; (try dsimp only at hSw); go_simp; (try with_reducible rfl)
    try simp only [Act.put, List.setIfInBounds_toArray, List.set_cons_zero, List.set_cons_succ]
    refine wpHT_takeD (i := 22) (d := 70) (v := ?_) (by kernel_rfl) rfl rfl (by decide) (by kernel_rfl) (by kernel_rfl) (fun _ _ _ h => h) (Or.inl ⟨by kernel_rfl, ?_⟩) (by assumption) ?_
    rotate_left
    · intro w hSw; (try dsimp only at hSw); go_simp; (try with_reducible rfl)
    try simp only [Act.put, List.setIfInBounds_toArray, List.set_cons_zero, List.set_cons_succ]
    refine wpHT_takeD (i := 23) (d := 71) (v := ?_) (by kernel_rfl) rfl rfl (by decide) (by kernel_rfl) (by kernel_rfl) (fun _ _ _ h => h) (Or.inl ⟨by kernel_rfl, ?_⟩) (by assumption) ?_
    rotate_left
    · intro w hSw; (try dsimp only at hSw); go_simp; (try with_reducible rfl)
    try simp only [Act.put, List.setIfInBounds_toArray, List.set_cons_zero, List.set_cons_succ]
    refine wpHT_takeD (i := 24) (d := 72) (v := ?_) (by kernel_rfl) rfl rfl (by decide) (by kernel_rfl) (by kernel_rfl) (fun _ _ _ h => h) (Or.inl ⟨by kernel_rfl, ?_⟩) (by assumption) ?_
    rotate_left
    · intro w hSw; (try dsimp only at hSw); go_simp; (try with_reducible rfl)
    try simp only [Act.put, List.setIfInBounds_toArray, List.set_cons_zero, List.set_cons_succ]
    refine wpHT_takeD (i := 26) (d := 74) (v := ?_) (by kernel_rfl) rfl rfl (by decide) (by kernel_rfl) (by kernel_rfl) (fun _ _ _ h => h) (Or.inl ⟨by kernel_rfl, ?_⟩) (by assumption) ?_
    rotate_left
    · intro w hSw; (try dsimp only at hSw); go_simp; (try with_reducible rfl)
    try simp only [Act.put, List.setIfInBounds_toArray, List.set_cons_zero, List.set_cons_succ]
    refine wpHT_takeD (i := 27) (d := 75) (v := ?_) (by kernel_rfl) rfl rfl (by decide) (by kernel_rfl) (by kernel_rfl) (fun _ _ _ h => h) (Or.inl ⟨by kernel_rfl, ?_⟩) (by assumption) ?_
    rotate_left
    · intro w hSw; (try dsimp only at hSw); go_simp; (try with_reducible rfl)
    try simp only [Act.put, List.setIfInBounds_toArray, List.set_cons_zero, List.set_cons_succ]
    refine wpHT_takeD (i := 28) (d := 76) (v := ?_) (by kernel_rfl) rfl rfl (by decide) (by kernel_rfl) (by kernel_rfl) (fun _ _ _ h => h) (Or.inl ⟨by kernel_rfl, ?_⟩) (by assumption) ?_
    rotate_left
    · intro w hSw; (try dsimp only at hSw); go_simp; (try with_reducible rfl)
    try simp only [Act.put, List.setIfInBounds_toArray, List.set_cons_zero, List.set_cons_succ]
    refine wpHT_takeD (i := 29) (d := 77) (v := ?_) (by kernel_rfl) rfl rfl (by decide) (by kernel_rfl) (by kernel_rfl) (fun _ _ _ h => h) (Or.inl ⟨by kernel_rfl, ?_⟩) (by assumption) ?_
    rotate_left
    · intro w hSw; (try dsimp only at hSw); go_simp; (try with_reducible rfl)
    try simp only [Act.put, List.setIfInBounds_toArray, List.set_cons_zero, List.set_cons_succ]
    refine wpHT_one (i := 25) (by kernel_rfl) rfl (by decide) (fun K hK => ?_)
    go_simp
    go_at_call 48
    refine (down_any d S B s _ (HD.out.below HX2.out)).mono ?_
    rintro e x3 ⟨rfl, rfl⟩
    refine hK.out _ _ ?_ (fun hHeld => ?_)
    · exact ⟨z0, z1, z3⟩
    clear hK K
    try simp only [Act.put, List.setIfInBounds_toArray, List.set_cons_zero, List.set_cons_succ]
    refine wpHT_takeD (i := 30) (d := 78) (v := ?_) (by kernel_rfl) rfl rfl (by decide) (by kernel_rfl) (by kernel_rfl) (fun _ _ _ h => h) (Or.inl ⟨by kernel_rfl, ?_⟩) (by assumption) ?_
    rotate_left
    · intro w hSw; (try dsimp only at hSw); go_simp; (try with_reducible rfl)
    try simp only [Act.put, List.setIfInBounds_toArray, List.set_cons_zero, List.set_cons_succ]
    refine wpHT_takeD (i := 31) (d := 79) (v := ?_) (by kernel_rfl) rfl rfl (by decide) (by kernel_rfl) (by kernel_rfl) (fun _ _ _ h => h) (Or.inl ⟨by kernel_rfl, ?_⟩) (by assumption) ?_
    rotate_left
    · intro w hSw; (try dsimp only at hSw); go_simp; (try with_reducible rfl)
    try simp only [Act.put, List.setIfInBounds_toArray, List.set_cons_zero, List.set_cons_succ]
    refine wpHT_done (by kernel_rfl) ?_
    simp only [List.drop_succ_cons, List.drop_zero]
    go_wp2_with fail
    go_ret
    exact TrueEnd.mk HX2.out
end Go.Proofs.YtjjcilinghgphaaGreat
