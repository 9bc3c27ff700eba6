/-
  The walk of DiskPlays.
-/
import Derived.Test.YtdbfkneklkdnaaaE41
namespace Go.Proofs.Ytdbfkneklkdnaaa
open Go.RowKit Go.Maps Go.Sort
set_option maxRecDepth 100000
attribute [local go_sem] bs_size bs_toList

/-- A new disk of the reference's. -/
theorem Rf.start (w : World) : Rf (w.alloc (.cells #[.slice none 0 0, .bool false, .int .i64 0, .int .i64 0] 51)) w.heap.size (fun q => q = w.heap.size) newS := by
  refine ⟨.slice none 0 0, [], heap_alloc_new w _, rfl, World.ownsRow_nil _ _ _ _, rfl, fun k hk => (by simp [Value.ownBlock] at hk), fun k hk => (by subst hk; exact (Array.getElem?_eq_some_iff.1 (heap_alloc_new w _)).1), fun i f u h => (by simp [newS] at h)⟩
/-- The disk of a law, beside what is done elsewhere. -/
theorem LS.beside {B : Int} {W w w' : World} {d : Nat} {S S' : Nat → Prop} {s : DS} (h : LS B W w d S s) (hf : Fr S' w w') (hn : ∀ k, S k → ¬ S' k) (hl : ∀ k, S' k → W.heap.size ≤ k) : LS B W w' d S s :=
  ⟨h.1.keep hf hn, h.2.1, h.2.2.trans (hf.below h.2.2.size fun k hk hs => by have := hl k hs; omega)⟩
set_option maxHeartbeats 4000000 in
theorem plays_walk (a : Option Addr) (n cap : Nat) (os : List OpV) (w : World) (h : RdOps w (fun b => b < w.heap.size) a n cap os) :
    Calls Try.prog 7 #[.slice a n cap] w (TrueEnd w) := by
  have H0 := Lib.hid h
  have HN := Lib.hid h.1
  clear h
  go_enter Try.func7, Try.ntmps7
  go_wp2_with (go_at_call 10; ((with_reducible refine (firstT _).mono ?_); rintro e wa ⟨rfl, hb⟩; have HBA := Lib.hid hb; clear hb))
  go_at_call 11
  refine (few_any a n cap os _ _ (H0.out.below HBA.out)).mono ?_
  rintro e wb ⟨b, rfl, hfew, hb⟩
  have HBB := Lib.hid (next_below HBA.out hb)
  have HFEW := Lib.hid hfew
  clear hb hfew HBA
  cases b with
  | false =>
    clear HFEW
    go_wp2_with (go_at_call 10; ((with_reducible refine (firstT _).mono ?_); rintro e wc ⟨rfl, hb⟩; have HBC := Lib.hid hb; clear hb))
    go_ret
    exact TrueEnd.mk (next_below HBB.out HBC.out)
  | true =>
    have HF := Lib.hid (HFEW.out rfl)
    clear HFEW
    go_wp2_with (go_at_call 12; ((with_reducible refine (new_any 0 (Int.le_refl _) _).mono ?_); rintro e w1 ⟨d, rfl, hb1, hd1⟩; have HL := Lib.hid (LS.start hb1 hd1); clear hb1 hd1))
    have hst := Rf.start w1
    have hbw : Below w1.heap.size w1 (w1.alloc (.cells #[.slice none 0 0, .bool false, .int .i64 0, .int .i64 0] 51)) := (Below.refl _ _).alloc (Nat.le_refl _) _
    obtain ⟨W, hW⟩ : ∃ W, w1.alloc (.cells #[.slice none 0 0, .bool false, .int .i64 0, .int .i64 0] 51) = W := ⟨_, rfl⟩
    rw [hW] at hst hbw ⊢
    have HL2 := Lib.hid (HL.out.new hbw)
    have HR2 := Lib.hid hst
    obtain ⟨c, hc⟩ : ∃ c, w1.heap.size = c := ⟨_, rfl⟩
    rw [hc] at HR2 ⊢
    have HW1 : Hid (∀ q, q = c → wb.heap.size ≤ q) := fun q e => by rw [e, ← hc]; exact HL.out.2.2.size
    have HDJ : Hid (∀ q, wb.heap.size ≤ q ∧ q < w1.heap.size → ¬ q = c) := fun q hq => by omega
    have hn3 : n ≤ 300 := by have := HF.out.1; have := HN.out; omega
    clear hst hbw hW hc HL
    go_loopw [5, 6, 7, 8, 9] (fun i _ _ _ _ wr => ∃ (k : Nat) (S S' : Nat → Prop) (s : DS), k ≤ n ∧ i = .int .i64 (k : Nat) ∧ Hid (LS (k : Nat) wb wr d S s) ∧ Hid (Rf wr c S' s) ∧ Hid (∀ q, S' q → wb.heap.size ≤ q) ∧ Hid (∀ q, S q → ¬ S' q)) (fun i _ _ _ _ _ => n - (intOf i).toNat)
    case atStart => exact ⟨0, _, _, newS, Nat.zero_le _, rfl, HL2.out, HR2.out, HW1.out, HDJ.out⟩
    case round =>
      clear HL2 HR2 HDJ HW1
      obtain ⟨k, S, S', s, hk, rfl, HA, HB, HW, HX⟩ := hrel
      by_cases hlt : k < n
      · obtain ⟨o, ho⟩ : ∃ o, os[k]? = some o := ⟨_, List.getElem?_eq_getElem (by have := HN.out; omega)⟩
        have hbl := (HF.out.each (List.mem_of_getElem? ho)).2.2
        obtain ⟨b, off, ab, cb, ap', cp', rfl, hrd, c0, c1, c2, c3, c4, c5⟩ := (H0.out.below HBB.out).at ho
        have HC : Hid (∀ W, Below wb.heap.size wb W → W.cell? ⟨b, off + k * 6, none⟩ = some (.int .i64 o.k) ∧ W.cell? ⟨b, off + k * 6 + 1, none⟩ = some (.int .i64 o.n) ∧ W.cell? ⟨b, off + k * 6 + 2, none⟩ = some (.string (bs o.nm)) ∧ W.cell? ⟨b, off + k * 6 + 3, none⟩ = some (.string (bs o.tn)) ∧ W.cell? ⟨b, off + k * 6 + 4, none⟩ = some (.slice ab o.b.length cb) ∧ W.cell? ⟨b, off + k * 6 + 5, none⟩ = some (.slice ap' o.p.length cp')) :=
          fun W hb => ⟨cell_below c0 hb, cell_below c1 hb, cell_below c2 hb, cell_below c3 hb, cell_below c4 hb, cell_below c5 hb⟩
        have HRD : Hid (∀ W, Below wb.heap.size wb W → OpRd W (fun b => b < w.heap.size) o ab cb ap' cp') := fun W hb => hrd.below hb
        have HLE : Hid (w.heap.size ≤ wb.heap.size) := HBB.out.size
        have HAd := Lib.hid (HA.out.new ((Below.refl _ wr).drew))
        have HBd := Lib.hid (HB.out.drew)
        have HOK := Lib.hid HA.out.1.ok
        have hnm := hrd.1.2.2.1
        clear ho hrd c0 c1 c2 c3 c4 c5 HA HB
        go_wp2_with fail
        refine wp_region_ht 18 (fun W => W.cell? ⟨b, off + k * 6, none⟩ = some (.int .i64 o.k) ∧ W.cell? ⟨b, off + k * 6 + 1, none⟩ = some (.int .i64 o.n) ∧ W.cell? ⟨b, off + k * 6 + 2, none⟩ = some (.string (bs o.nm)) ∧ W.cell? ⟨b, off + k * 6 + 3, none⟩ = some (.string (bs o.tn)) ∧ W.cell? ⟨b, off + k * 6 + 4, none⟩ = some (.slice ab o.b.length cb) ∧ W.cell? ⟨b, off + k * 6 + 5, none⟩ = some (.slice ap' o.p.length cp')) (by kernel_rfl) (by kernel_rfl) ?_ (fun hHeld => ?_)
        · exact HC.out _ HAd.out.2.2
        try simp only [Act.put, List.setIfInBounds_toArray, List.set_cons_zero, List.set_cons_succ]
        refine wpHT_takeD (i := 0) (d := 27) (v := ?_) (by kernel_rfl) rfl rfl (by decide) (by kernel_rfl) (by kernel_rfl) (fun _ _ _ h => h) (Or.inl ⟨by kernel_rfl, ?_⟩) (by assumption) ?_
        rotate_left
        · intro w hSw; (try dsimp only at hSw); go_simp; (try with_reducible rfl)
        try simp only [Act.put, List.setIfInBounds_toArray, List.set_cons_zero, List.set_cons_succ]
        refine wpHT_takeD (i := 1) (d := 28) (v := ?_) (by kernel_rfl) rfl rfl (by decide) (by kernel_rfl) (by kernel_rfl) (fun _ _ _ h => h) (Or.inl ⟨by kernel_rfl, ?_⟩) (by assumption) ?_
        rotate_left
        · intro w hSw; (try dsimp only at hSw); go_simp; (try with_reducible rfl)
        try simp only [Act.put, List.setIfInBounds_toArray, List.set_cons_zero, List.set_cons_succ]
        refine wpHT_takeD (i := 2) (d := 29) (v := ?_) (by kernel_rfl) rfl rfl (by decide) (by kernel_rfl) (by kernel_rfl) (fun _ _ _ h => h) (Or.inl ⟨by kernel_rfl, ?_⟩) (by assumption) ?_
        rotate_left
        · intro w hSw; (try dsimp only at hSw); go_simp; (try with_reducible rfl)
        try simp only [Act.put, List.setIfInBounds_toArray, List.set_cons_zero, List.set_cons_succ]
        refine wpHT_takeD (i := 3) (d := 30) (v := ?_) (by kernel_rfl) rfl rfl (by decide) (by kernel_rfl) (by kernel_rfl) (fun _ _ _ h => h) (Or.inl ⟨by kernel_rfl, ?_⟩) (by assumption) ?_
        rotate_left
        · intro w hSw; (try dsimp only at hSw); go_simp; (try with_reducible rfl)
        try simp only [Act.put, List.setIfInBounds_toArray, List.set_cons_zero, List.set_cons_succ]
        refine wpHT_takeD (i := 4) (d := 31) (v := ?_) (by kernel_rfl) rfl rfl (by decide) (by kernel_rfl) (by kernel_rfl) (fun _ _ _ h => h) (Or.inl ⟨by kernel_rfl, ?_⟩) (by assumption) ?_
        rotate_left
        · intro w hSw; (try dsimp only at hSw); go_simp; (try with_reducible rfl)
        try simp only [Act.put, List.setIfInBounds_toArray, List.set_cons_zero, List.set_cons_succ]
        refine wpHT_takeD (i := 6) (d := 33) (v := ?_) (by kernel_rfl) rfl rfl (by decide) (by kernel_rfl) (by kernel_rfl) (fun _ _ _ h => h) (Or.inl ⟨by kernel_rfl, ?_⟩) (by assumption) ?_
        rotate_left
        · intro w hSw; (try dsimp only at hSw); go_simp; (try with_reducible rfl)
        try simp only [Act.put, List.setIfInBounds_toArray, List.set_cons_zero, List.set_cons_succ]
        refine wpHT_takeD (i := 7) (d := 34) (v := ?_) (by kernel_rfl) rfl rfl (by decide) (by kernel_rfl) (by kernel_rfl) (fun _ _ _ h => h) (Or.inl ⟨by kernel_rfl, ?_⟩) (by assumption) ?_
        rotate_left
        · intro w hSw; (try dsimp only at hSw); go_simp; (try with_reducible rfl)
        try simp only [Act.put, List.setIfInBounds_toArray, List.set_cons_zero, List.set_cons_succ]
        refine wpHT_takeD (i := 8) (d := 35) (v := ?_) (by kernel_rfl) rfl rfl (by decide) (by kernel_rfl) (by kernel_rfl) (fun _ _ _ h => h) (Or.inl ⟨by kernel_rfl, ?_⟩) (by assumption) ?_
        rotate_left
        · intro w hSw; (try dsimp only at hSw); go_simp; (try with_reducible rfl)
        try simp only [Act.put, List.setIfInBounds_toArray, List.set_cons_zero, List.set_cons_succ]
        refine wpHT_takeD (i := 9) (d := 36) (v := ?_) (by kernel_rfl) rfl rfl (by decide) (by kernel_rfl) (by kernel_rfl) (fun _ _ _ h => h) (Or.inl ⟨by kernel_rfl, ?_⟩) (by assumption) ?_
        rotate_left
        · intro w hSw; (try dsimp only at hSw); go_simp; (try with_reducible rfl)
        try simp only [Act.put, List.setIfInBounds_toArray, List.set_cons_zero, List.set_cons_succ]
        refine wpHT_takeD (i := 10) (d := 37) (v := ?_) (by kernel_rfl) rfl rfl (by decide) (by kernel_rfl) (by kernel_rfl) (fun _ _ _ h => h) (Or.inl ⟨by kernel_rfl, ?_⟩) (by assumption) ?_
        rotate_left
        · intro w hSw; (try dsimp only at hSw); go_simp; (try with_reducible rfl)
        try simp only [Act.put, List.setIfInBounds_toArray, List.set_cons_zero, List.set_cons_succ]
        refine wpHT_one (i := 5) (by kernel_rfl) rfl (by decide) (fun K hK => ?_)
        go_simp
        go_at_call 13
        refine (HAd.out.does (by omega) (by omega) (HRD.out _ HAd.out.2.2) (fun b hb => Nat.lt_of_lt_of_le hb HLE.out)).mono ?_
        rintro e W1 ht
        obtain ⟨rfl, hls, hf⟩ := HAd.out.told ht
        have HA1 := Lib.hid hls
        have HB1 : Hid (Rf W1 c S' s) := HBd.out.keep hf (fun q hq hs => HX.out q hs hq)
        have HX1 : Hid (∀ q, Sx S wr.drew W1 q → ¬ S' q) := fun q hq hs => hq.elim (fun h => HX.out q h hs) (fun h => by have := HBd.out.lt q hs; omega)
        clear ht hls hf HAd HBd HX
        refine hK.out _ _ ?_ (fun hHeld => ?_)
        · exact HC.out _ HA1.out.2.2
        clear hK K
        try simp only [Act.put, List.setIfInBounds_toArray, List.set_cons_zero, List.set_cons_succ]
        refine wpHT_one (i := 11) (by kernel_rfl) rfl (by decide) (fun K hK => ?_)
        go_simp
        go_at_call 25
        refine (model_any c S' _ (by omega) s o ab cb ap' cp' _ (fun q hq hs => by have h1 := HW.out q hs; have h2 := HLE.out; omega) (by omega) HOK.out W1 HB1.out (HRD.out _ HA1.out.2.2)).mono ?_
        rintro e W2 ⟨rfl, hr, hf⟩
        have HB2 := Lib.hid hr
        have HA2 := Lib.hid (HA1.out.beside hf HX1.out HW.out)
        have HX2 : Hid (∀ q, Sx S wr.drew W1 q → ¬ Sx S' W1 W2 q) := fun q hq hs => hs.elim (HX1.out q hq) (fun h => by have := HA1.out.1.lt q hq; omega)
        have HW2 : Hid (∀ q, Sx S' W1 W2 q → wb.heap.size ≤ q) := fun q hq => hq.elim (HW.out q) (fun h => Nat.le_trans HA1.out.2.2.size h.1)
        clear hr hf HA1 HB1 HX1 HW
        refine hK.out _ _ ?_ (fun hHeld => ?_)
        · exact HC.out _ HA2.out.2.2
        clear hK K
        try simp only [Act.put, List.setIfInBounds_toArray, List.set_cons_zero, List.set_cons_succ]
        refine wpHT_takeD (i := 12) (d := 39) (v := ?_) (by kernel_rfl) rfl rfl (by decide) (by kernel_rfl) (by kernel_rfl) (fun _ _ _ h => h) (Or.inl ⟨by kernel_rfl, ?_⟩) (by assumption) ?_
        rotate_left
        · intro w hSw; (try dsimp only at hSw); go_simp; (try with_reducible rfl)
        try simp only [Act.put, List.setIfInBounds_toArray, List.set_cons_zero, List.set_cons_succ]
        refine wpHT_takeD (i := 13) (d := 40) (v := ?_) (by kernel_rfl) rfl rfl (by decide) (by kernel_rfl) (by kernel_rfl) (fun _ _ _ h => h) (Or.inl ⟨by kernel_rfl, ?_⟩) (by assumption) ?_
        rotate_left
        · intro w hSw; (try dsimp only at hSw); go_simp; (try with_reducible rfl)
        try simp only [Act.put, List.setIfInBounds_toArray, List.set_cons_zero, List.set_cons_succ]
        refine wpHT_takeD (i := 14) (d := 41) (v := ?_) (by kernel_rfl) rfl rfl (by decide) (by kernel_rfl) (by kernel_rfl) (fun _ _ _ h => h) (Or.inl ⟨by kernel_rfl, ?_⟩) (by assumption) ?_
        rotate_left
        · intro w hSw; (try dsimp only at hSw); go_simp; (try with_reducible rfl)
        try simp only [Act.put, List.setIfInBounds_toArray, List.set_cons_zero, List.set_cons_succ]
        refine wpHT_takeD (i := 15) (d := 42) (v := ?_) (by kernel_rfl) rfl rfl (by decide) (by kernel_rfl) (by kernel_rfl) (fun _ _ _ h => h) (Or.inl ⟨by kernel_rfl, ?_⟩) (by assumption) ?_
        rotate_left
        · intro w hSw; (try dsimp only at hSw); go_simp; (try with_reducible rfl)
        try simp only [Act.put, List.setIfInBounds_toArray, List.set_cons_zero, List.set_cons_succ]
        refine wpHT_one (i := 16) (by kernel_rfl) rfl (by decide) (fun K hK => ?_)
        go_simp
        go_at_call 26
        refine (same_any d _ _ c _ _ W2 HA2.out.1 HB2.out).mono ?_
        rintro e W3 ⟨rfl, hb3⟩
        have HA3 := Lib.hid (HA2.out.new hb3)
        have HB3 := Lib.hid (HB2.out.below hb3)
        clear hb3 HA2 HB2
        refine hK.out _ _ ?_ (fun hHeld => ?_)
        · exact HC.out _ HA3.out.2.2
        clear hK K
        try simp only [Act.put, List.setIfInBounds_toArray, List.set_cons_zero, List.set_cons_succ]
        refine wpHT_takeD (i := 17) (d := 44) (v := ?_) (by kernel_rfl) rfl rfl (by decide) (by kernel_rfl) (by kernel_rfl) (fun _ _ _ h => h) (Or.inl ⟨by kernel_rfl, ?_⟩) (by assumption) ?_
        rotate_left
        · intro w hSw; (try dsimp only at hSw); go_simp; (try with_reducible rfl)
        try simp only [Act.put, List.setIfInBounds_toArray, List.set_cons_zero, List.set_cons_succ]
        refine wpHT_done (by kernel_rfl) ?_
        simp only [List.drop_succ_cons, List.drop_zero]
        obtain ⟨s1, hs1⟩ : ∃ s1, (doesS s o).1 = s1 := ⟨_, rfl⟩
        rw [hs1] at HA3 HB3
        obtain ⟨c0, c1, c2, c3, c4, c5⟩ := HC.out _ HA3.out.2.2
        clear hs1 hHeld
        go_wp2_with fail
        go_at_call 15
        refine (read_any d _ _ s1 o.nm hnm W3 HA3.out.1).mono ?_
        rintro e w4 ⟨v, rfl, ho, hb⟩
        obtain ⟨D1, hD1⟩ : ∃ D1, dataS s1 o.nm = D1 := ⟨_, rfl⟩
        have ho : Own8 w4 W3.heap.size 5 v D1 := by rw [← hD1]; exact ho
        obtain ⟨a6, c6, rfl, hr6⟩ := ho.rd
        have HA4 := Lib.hid (HA3.out.new hb)
        have HB4 := Lib.hid (HB3.out.below hb)
        have HR6 := Lib.hid hr6
        have hrr := rread_any c _ s1 o.nm HA4.out.1.ok.len w4 HB4.out
        unfold RReadPost at hrr
        rw [hD1] at hrr
        have HRR := Lib.hid hrr
        clear ho hb hr6 hrr c0 c1 c2 c3 c4 c5 HA3 HB3 hD1
        obtain ⟨c0, c1, c2, c3, c4, c5⟩ := HC.out _ HA4.out.2.2
        obtain ⟨E1, hE1⟩ : ∃ E1, hasE s1 o.nm = E1 := ⟨_, rfl⟩
        rw [hE1] at HRR ⊢
        clear hE1
        go_wp2_with fail
        go_at_call 27
        refine (HRR.out).mono ?_
        rintro e w5 ⟨⟨a8, c8, rfl, hr8⟩, rfl⟩
        have hby := bytes_any a6 a8 D1.length D1.length c6 c8 D1 D1 w4 HR6.out hr8
        rw [show (D1 == D1) = true by simp] at hby
        have HBY := Lib.hid hby
        clear hr8 hby c0 c1 c2 c3 c4 c5 HRR
        go_wp2_with (go_at_call 18; ((with_reducible refine (HBY.out).mono ?_); rintro e w' ⟨rfl, rfl⟩))
        go_roundw
        case rel => exact ⟨k + 1, _, _, s1, by omega, by go_num, HA4.out, HB4.out, HW2.out, HX2.out⟩
        case measure => simp [intOf]; omega
      · obtain rfl : k = n := by omega
        go_wp2_with (go_at_call 10; ((with_reducible refine (firstT _).mono ?_); rintro e wc ⟨rfl, hb⟩; have HBC := Lib.hid hb; clear hb))
        go_ret
        exact TrueEnd.mk (next_below (next_below HBB.out HA.out.2.2) HBC.out)
end Go.Proofs.Ytdbfkneklkdnaaa
