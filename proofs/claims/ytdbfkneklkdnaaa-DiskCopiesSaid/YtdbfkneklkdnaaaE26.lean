/-
  The walk of DiskCopies. Written by a program (e26gen.py).
-/
import Derived.Test.YtdbfkneklkdnaaaE22
import Derived.Test.YtdbfkneklkdnaaaE25
namespace Go.Proofs.Ytdbfkneklkdnaaa
open Go.RowKit Go.Maps Go.Sort
set_option maxRecDepth 100000
attribute [local go_sem] bs_size bs_toList

set_option maxHeartbeats 4000000 in
theorem copies_walk (a : Option Addr) (n cap : Nat) (os : List OpV) (a' : Option Addr) (n' cap' : Nat) (os' : List OpV) (w : World) (h : RdOps w (fun b => b < w.heap.size) a n cap os) (h' : RdOps w (fun b => b < w.heap.size) a' n' cap' os') :
    Calls Try.prog 8 #[.slice a n cap, .slice a' n' cap'] w (TrueEnd w) := by
  have H0 := Lib.hid h
  have H1 := Lib.hid h'
  have HN := Lib.hid h.1
  have HN1 := Lib.hid h'.1
  clear h h'
  go_enter Try.func8, Try.ntmps8
  go_wp2_with (go_at_call 10; ((with_reducible refine (firstT _).mono ?_); rintro e wa ⟨rfl, hb⟩; have HBA := Lib.hid hb; clear hb))
  go_at_call 11
  refine (few_any a n cap os _ _ (H0.out.below HBA.out)).mono ?_
  rintro e wb ⟨b, rfl, hfew, hb⟩
  have HBB := Lib.hid (next_below HBA.out hb)
  have HFEW := Lib.hid hfew
  clear hb hfew HBA
  cases b with
  | false =>
    clear HFEW
    go_wp2_with (go_at_call 10; ((with_reducible refine (firstT _).mono ?_); rintro e wc ⟨rfl, hb⟩; have HBC := Lib.hid hb; clear hb))
    go_ret
    exact TrueEnd.mk (next_below HBB.out HBC.out)
  | true =>
    have HF := Lib.hid (HFEW.out rfl)
    clear HFEW
    go_wp2_with fail
    go_at_call 11
    refine (few_any a' n' cap' os' _ _ (H1.out.below HBB.out)).mono ?_
    rintro e wd ⟨b, rfl, hfew, hb⟩
    have HBD := Lib.hid (next_below HBB.out hb)
    have HFEW := Lib.hid hfew
    clear hb hfew HBB
    cases b with
    | false =>
      clear HFEW
      go_wp2_with (go_at_call 10; ((with_reducible refine (firstT _).mono ?_); rintro e wc ⟨rfl, hb⟩; have HBC := Lib.hid hb; clear hb))
      go_ret
      exact TrueEnd.mk (next_below HBD.out HBC.out)
    | true =>
    have HF1 := Lib.hid (HFEW.out rfl)
    clear HFEW
    go_wp2_with (go_at_call 12; ((with_reducible refine (new_any 0 (Int.le_refl _) _).mono ?_); rintro e w1 ⟨d, rfl, hb1, hd1⟩; have HL := Lib.hid (LS.start hb1 hd1); clear hb1 hd1))
    have hn3 : n ≤ 300 := by have := HF.out.1; have := HN.out; omega
    have hn4 : n' ≤ 300 := by have := HF1.out.1; have := HN1.out; omega
    go_loopw [6] (fun i wr => ∃ (k : Nat) (S : Nat → Prop) (s : DS), k ≤ n ∧ i = .int .i64 (k : Nat) ∧ Hid (LS (k : Nat) wd wr d S s)) (fun i _ => n - (intOf i).toNat)
    case atStart => exact ⟨0, _, newS, Nat.zero_le _, rfl, HL.out⟩
    case round =>
      clear HL
      obtain ⟨k, S, s, hk, rfl, HL⟩ := hrel
      by_cases hlt : k < n
      · obtain ⟨o, ho⟩ : ∃ o, os[k]? = some o := ⟨_, List.getElem?_eq_getElem (by have := HN.out; omega)⟩
        obtain ⟨b, off, ab, cb, ap', cp', rfl, hrd, c0, c1, c2, c3, c4, c5⟩ := ((H0.out.below HBD.out).below HL.out.2.2).at ho
        have hbl := (HF.out.each (List.mem_of_getElem? ho)).2.2
        have HRD := Lib.hid hrd
        clear ho hrd
        go_wp2_with fail
        go_at_call 13
        refine (HL.out.does (by omega) (by omega) HRD.out (fun b hb => Nat.lt_of_lt_of_le hb HBD.out.size)).mono ?_
        rintro e w2 ht
        obtain ⟨rfl, hls, _⟩ := HL.out.told ht
        have HL2 := Lib.hid hls
        clear ht hls c0 c1 c2 c3 c4 c5
        go_wp2_with fail
        go_roundw
        case rel => exact ⟨k + 1, _, _, by omega, by go_num, HL2.out⟩
        case measure => simp [intOf]; omega
      · obtain rfl : k = n := by omega
        go_wp2_with fail
        go_at_call 19
        refine (files_any d S _ s wr HL.out.1).mono ?_
        rintro e w2 ⟨v, vs, rfl, ho, hb⟩
        obtain ⟨a7, c7, rfl, hr7⟩ := ho.rd
        have HL2 := Lib.hid (HL.out.new hb)
        have HR7 := Lib.hid hr7
        clear hr7 ho hb HL
        go_wp2_with fail
        go_at_call 28
        refine (copy_any d S _ s w2 HL2.out.1).mono ?_
        rintro e w3 ⟨x8, rfl, hb3, hx8⟩
        have HA3 := Lib.hid (LS.start hb3 hx8)
        have HD3 := Lib.hid (HL2.out.1.below hb3)
        clear hb3 hx8
        go_wp2_with fail
        go_at_call 28
        refine (copy_any d S _ s w3 HD3.out).mono ?_
        rintro e w4 ⟨x9, rfl, hb4, hx9⟩
        have HA4 := Lib.hid (HA3.out.new hb4)
        have HB4 : Hid (LS (k : Nat) w2 w4 x9 (fun q => w3.heap.size ≤ q ∧ q < w4.heap.size) s) := ⟨hx9, fun q hq => Nat.le_trans HA3.out.2.2.size hq.1, HA4.out.2.2⟩
        clear hb4 hx9 HD3 HA3
        go_wp2_with fail
        go_at_call 19
        refine (files_any x8 _ _ s w4 HA4.out.1).mono ?_
        rintro e w5 ⟨v, vs5, rfl, ho, hb5⟩
        obtain ⟨a11, c11, rfl, hr11⟩ := ho.rd
        have HA5 := Lib.hid (HA4.out.new hb5)
        have HB5 := Lib.hid (HB4.out.new hb5)
        have hqq := filesEq_draws _ _ _ _ _ _ _ _ _ _ _ hr11 ((HR7.out.below HA5.out.2.2))
        rw [filesB_self] at hqq
        have HQQ := Lib.hid hqq
        clear hr11 ho hb5 hqq HA4 HB4
        go_wp2_with fail
        go_at_call 21
        refine (HQQ.out).mono ?_
        rintro e w6 ⟨rfl, hd6⟩
        have HA6 := Lib.hid (HA5.out.new (draws_below hd6))
        have HB6 := Lib.hid (HB5.out.new (draws_below hd6))
        clear hd6 HQQ HA5 HB5
        go_wp2_with fail
        go_loopw [10] (fun i wy => ∃ (j : Nat) (Sa Sb : Nat → Prop) (sa : DS), j ≤ n' ∧ i = .int .i64 (j : Nat) ∧ Hid (LS (k + j : Nat) w2 wy x8 Sa sa) ∧ Hid (LS (k + j : Nat) w2 wy x9 Sb sa) ∧ Hid (∀ q, Sa q → ¬ Sb q)) (fun i _ => n' - (intOf i).toNat)
        case atStart => exact ⟨0, _, _, s, Nat.zero_le _, rfl, HA6.out, HB6.out, fun q hq hq' => by omega⟩
        case round =>
          clear HA6 HB6
          obtain ⟨j, Sa, Sb, sa, hj, rfl, HA, HB, HX⟩ := hrel
          by_cases hjt : j < n'
          · obtain ⟨o, ho⟩ : ∃ o, os'[j]? = some o := ⟨_, List.getElem?_eq_getElem (by have := HN1.out; omega)⟩
            have hbl := (HF1.out.each (List.mem_of_getElem? ho)).2.2
            obtain ⟨b, off, ab, cb, ap', cp', rfl, hrd, c0, c1, c2, c3, c4, c5⟩ := (H1.out.below (next_below HBD.out HL2.out.2.2)).at ho
            have HC : Hid (∀ W, Below w2.heap.size w2 W → W.cell? ⟨b, off + j * 6, none⟩ = some (.int .i64 o.k) ∧ W.cell? ⟨b, off + j * 6 + 1, none⟩ = some (.int .i64 o.n) ∧ W.cell? ⟨b, off + j * 6 + 2, none⟩ = some (.string (bs o.nm)) ∧ W.cell? ⟨b, off + j * 6 + 3, none⟩ = some (.string (bs o.tn)) ∧ W.cell? ⟨b, off + j * 6 + 4, none⟩ = some (.slice ab o.b.length cb) ∧ W.cell? ⟨b, off + j * 6 + 5, none⟩ = some (.slice ap' o.p.length cp')) :=
              fun W hb => ⟨cell_below c0 hb, cell_below c1 hb, cell_below c2 hb, cell_below c3 hb, cell_below c4 hb, cell_below c5 hb⟩
            have HRD : Hid (∀ W, Below w2.heap.size w2 W → OpRd W (fun b => b < w.heap.size) o ab cb ap' cp') := fun W hb => hrd.below hb
            have HLE : Hid (w.heap.size ≤ w2.heap.size) := (next_below HBD.out HL2.out.2.2).size
            have HAd := Lib.hid (HA.out.new ((Below.refl _ wr).drew))
            have HBd := Lib.hid (HB.out.new ((Below.refl _ wr).drew))
            clear ho hrd c0 c1 c2 c3 c4 c5 HA HB
            go_wp2_with fail

            refine wp_region_ht 12 (fun W => W.cell? ⟨b, off + j * 6, none⟩ = some (.int .i64 o.k) ∧ W.cell? ⟨b, off + j * 6 + 1, none⟩ = some (.int .i64 o.n) ∧ W.cell? ⟨b, off + j * 6 + 2, none⟩ = some (.string (bs o.nm)) ∧ W.cell? ⟨b, off + j * 6 + 3, none⟩ = some (.string (bs o.tn)) ∧ W.cell? ⟨b, off + j * 6 + 4, none⟩ = some (.slice ab o.b.length cb) ∧ W.cell? ⟨b, off + j * 6 + 5, none⟩ = some (.slice ap' o.p.length cp')) (by kernel_rfl) (by kernel_rfl) ?_ (fun hHeld => ?_)
            · exact HC.out _ HAd.out.2.2
            try simp only [Act.put, List.setIfInBounds_toArray, List.set_cons_zero, List.set_cons_succ]
            refine wpHT_takeD (i := 0) (d := 62) (v := ?_) (by kernel_rfl) rfl rfl (by decide) (by kernel_rfl) (by kernel_rfl) (fun _ _ _ h => h) (Or.inl ⟨by kernel_rfl, ?_⟩) (by assumption) ?_
            rotate_left
            · intro w hSw; (try dsimp only at hSw); go_simp; (try with_reducible rfl)
            try simp only [Act.put, List.setIfInBounds_toArray, List.set_cons_zero, List.set_cons_succ]
            refine wpHT_takeD (i := 1) (d := 63) (v := ?_) (by kernel_rfl) rfl rfl (by decide) (by kernel_rfl) (by kernel_rfl) (fun _ _ _ h => h) (Or.inl ⟨by kernel_rfl, ?_⟩) (by assumption) ?_
            rotate_left
            · intro w hSw; (try dsimp only at hSw); go_simp; (try with_reducible rfl)
            try simp only [Act.put, List.setIfInBounds_toArray, List.set_cons_zero, List.set_cons_succ]
            refine wpHT_takeD (i := 2) (d := 64) (v := ?_) (by kernel_rfl) rfl rfl (by decide) (by kernel_rfl) (by kernel_rfl) (fun _ _ _ h => h) (Or.inl ⟨by kernel_rfl, ?_⟩) (by assumption) ?_
            rotate_left
            · intro w hSw; (try dsimp only at hSw); go_simp; (try with_reducible rfl)
            try simp only [Act.put, List.setIfInBounds_toArray, List.set_cons_zero, List.set_cons_succ]
            refine wpHT_takeD (i := 3) (d := 65) (v := ?_) (by kernel_rfl) rfl rfl (by decide) (by kernel_rfl) (by kernel_rfl) (fun _ _ _ h => h) (Or.inl ⟨by kernel_rfl, ?_⟩) (by assumption) ?_
            rotate_left
            · intro w hSw; (try dsimp only at hSw); go_simp; (try with_reducible rfl)
            try simp only [Act.put, List.setIfInBounds_toArray, List.set_cons_zero, List.set_cons_succ]
            refine wpHT_takeD (i := 4) (d := 66) (v := ?_) (by kernel_rfl) rfl rfl (by decide) (by kernel_rfl) (by kernel_rfl) (fun _ _ _ h => h) (Or.inl ⟨by kernel_rfl, ?_⟩) (by assumption) ?_
            rotate_left
            · intro w hSw; (try dsimp only at hSw); go_simp; (try with_reducible rfl)
            try simp only [Act.put, List.setIfInBounds_toArray, List.set_cons_zero, List.set_cons_succ]
            refine wpHT_takeD (i := 6) (d := 68) (v := ?_) (by kernel_rfl) rfl rfl (by decide) (by kernel_rfl) (by kernel_rfl) (fun _ _ _ h => h) (Or.inl ⟨by kernel_rfl, ?_⟩) (by assumption) ?_
            rotate_left
            · intro w hSw; (try dsimp only at hSw); go_simp; (try with_reducible rfl)
            try simp only [Act.put, List.setIfInBounds_toArray, List.set_cons_zero, List.set_cons_succ]
            refine wpHT_takeD (i := 7) (d := 69) (v := ?_) (by kernel_rfl) rfl rfl (by decide) (by kernel_rfl) (by kernel_rfl) (fun _ _ _ h => h) (Or.inl ⟨by kernel_rfl, ?_⟩) (by assumption) ?_
            rotate_left
            · intro w hSw; (try dsimp only at hSw); go_simp; (try with_reducible rfl)
            try simp only [Act.put, List.setIfInBounds_toArray, List.set_cons_zero, List.set_cons_succ]
            refine wpHT_takeD (i := 8) (d := 70) (v := ?_) (by kernel_rfl) rfl rfl (by decide) (by kernel_rfl) (by kernel_rfl) (fun _ _ _ h => h) (Or.inl ⟨by kernel_rfl, ?_⟩) (by assumption) ?_
            rotate_left
            · intro w hSw; (try dsimp only at hSw); go_simp; (try with_reducible rfl)
            try simp only [Act.put, List.setIfInBounds_toArray, List.set_cons_zero, List.set_cons_succ]
            refine wpHT_takeD (i := 9) (d := 71) (v := ?_) (by kernel_rfl) rfl rfl (by decide) (by kernel_rfl) (by kernel_rfl) (fun _ _ _ h => h) (Or.inl ⟨by kernel_rfl, ?_⟩) (by assumption) ?_
            rotate_left
            · intro w hSw; (try dsimp only at hSw); go_simp; (try with_reducible rfl)
            try simp only [Act.put, List.setIfInBounds_toArray, List.set_cons_zero, List.set_cons_succ]
            refine wpHT_takeD (i := 10) (d := 72) (v := ?_) (by kernel_rfl) rfl rfl (by decide) (by kernel_rfl) (by kernel_rfl) (fun _ _ _ h => h) (Or.inl ⟨by kernel_rfl, ?_⟩) (by assumption) ?_
            rotate_left
            · intro w hSw; (try dsimp only at hSw); go_simp; (try with_reducible rfl)
            try simp only [Act.put, List.setIfInBounds_toArray, List.set_cons_zero, List.set_cons_succ]
            refine wpHT_one (i := 5) (by kernel_rfl) rfl (by decide) (fun K hK => ?_)
            go_simp
            go_at_call 13
            refine (HAd.out.does (by omega) (by omega) (HRD.out _ HAd.out.2.2) (fun b hb => Nat.lt_of_lt_of_le hb HLE.out)).mono ?_
            rintro e W1 ht
            obtain ⟨rfl, hls, hf⟩ := HAd.out.told ht
            have HA1 := Lib.hid hls
            have HB1 : Hid (LS (k + j : Nat) w2 W1 x9 Sb sa) := ⟨HBd.out.1.keep hf (fun q hq hs => HX.out q hs hq), HBd.out.2.1, hls.2.2⟩
            have HX1 : Hid (∀ q, Sx Sa wr.drew W1 q → ¬ Sb q) := fun q hq hs => hq.elim (fun h => HX.out q h hs) (fun h => by have := HBd.out.1.lt q hs; omega)
            clear ht hls hf HAd HBd HX
            refine hK.out _ _ ?_ (fun hHeld => ?_)
            · exact HC.out _ HA1.out.2.2
            clear hK K
            try simp only [Act.put, List.setIfInBounds_toArray, List.set_cons_zero, List.set_cons_succ]
            refine wpHT_one (i := 11) (by kernel_rfl) rfl (by decide) (fun K hK => ?_)
            go_simp
            go_at_call 13
            refine (HB1.out.does (by omega) (by omega) (HRD.out _ HB1.out.2.2) (fun b hb => Nat.lt_of_lt_of_le hb HLE.out)).mono ?_
            rintro e W2 ht
            obtain ⟨rfl, hls, hf⟩ := HB1.out.told ht
            have HB2 := Lib.hid hls
            have HA2 : Hid (LS ((k + j : Nat) + 1) w2 W2 x8 (Sx Sa wr.drew W1) (doesS sa o).1) := ⟨HA1.out.1.keep hf HX1.out, HA1.out.2.1, hls.2.2⟩
            have HX2 : Hid (∀ q, Sx Sa wr.drew W1 q → ¬ Sx Sb W1 W2 q) := fun q hq hs => hs.elim (HX1.out q hq) (fun h => by have := HA1.out.1.lt q hq; omega)
            clear ht hls hf HA1 HB1 HX1
            refine hK.out _ _ ?_ (fun hHeld => ?_)
            · exact HC.out _ HA2.out.2.2
            clear hK K
            try simp only [Act.put, List.setIfInBounds_toArray, List.set_cons_zero, List.set_cons_succ]
            refine wpHT_done (by kernel_rfl) ?_
            simp only [List.drop_succ_cons, List.drop_zero]
            clear hHeld HC HRD
            have dne : ((doesS sa o).2 != (doesS sa o).2) = false := by simp
            go_wp2_with fail
            (try simp only [Act.put])
            go_roundw
            case rel => exact ⟨j + 1, _, _, _, by omega, by go_num, Lib.hid (by have := HA2.out; simpa [Int.add_assoc, Nat.add_assoc] using this), Lib.hid (by have := HB2.out; simpa [Int.add_assoc, Nat.add_assoc] using this), HX2.out⟩
            case measure => simp [intOf]; omega
          · obtain rfl : j = n' := by omega
            have HR7b := Lib.hid (HR7.out.below HA.out.2.2)
            have HDb := Lib.hid (HL2.out.1.below HA.out.2.2)
            clear HX
            go_wp2_with (go_at_call 10; ((with_reducible refine (firstT _).mono ?_); rintro e wc ⟨rfl, hb⟩; have HBC := Lib.hid hb; clear hb))
            have HAc := Lib.hid (HA.out.new HBC.out)
            have HBc := Lib.hid (HB.out.new HBC.out)
            clear HA HB HR7b HDb HBC
            go_at_call 19
            refine (files_any x8 _ _ sa wc HAc.out.1).mono ?_
            rintro e y1 ⟨v, vs1, rfl, ho, hb⟩
            obtain ⟨a21, c21, rfl, hr21⟩ := ho.rd
            have HA1 := Lib.hid (HAc.out.new hb)
            have HB1 := Lib.hid (HBc.out.new hb)
            have HR21 := Lib.hid hr21
            clear hr21 ho hb HAc HBc
            go_wp2_with fail
            go_at_call 19
            refine (files_any x9 _ _ sa y1 HB1.out.1).mono ?_
            rintro e y2 ⟨v, vs2, rfl, ho, hb⟩
            obtain ⟨a22, c22, rfl, hr22⟩ := ho.rd
            have HA2 := Lib.hid (HA1.out.new hb)
            have HB2 := Lib.hid (HB1.out.new hb)
            have hqq := filesEq_draws _ _ _ _ _ _ _ _ _ _ _ (HR21.out.below hb) hr22
            rw [filesB_self] at hqq
            have HQQ := Lib.hid hqq
            clear hr22 ho hb hqq HA1 HB1 HR21
            go_wp2_with fail
            go_at_call 21
            refine (HQQ.out).mono ?_
            rintro e y3 ⟨rfl, hd⟩
            have HA3 := Lib.hid (HA2.out.new (draws_below hd))
            have HB3 := Lib.hid (HB2.out.new (draws_below hd))
            clear hd HQQ HA2 HB2
            go_wp2_with fail
            go_at_call 19
            refine (files_any d S _ s y3 (HL2.out.1.below HA3.out.2.2)).mono ?_
            rintro e y4 ⟨v, vs4, rfl, ho, hb⟩
            obtain ⟨a24, c24, rfl, hr24⟩ := ho.rd
            have HA4 := Lib.hid (HA3.out.new hb)
            have HB4 := Lib.hid (HB3.out.new hb)
            have hqq := filesEq_draws _ _ _ _ _ _ _ _ _ _ _ hr24 (HR7.out.below HA4.out.2.2)
            rw [filesB_self] at hqq
            have HQQ := Lib.hid hqq
            clear hr24 ho hb hqq HA3 HB3
            go_wp2_with fail
            go_at_call 21
            refine (HQQ.out).mono ?_
            rintro e y5 ⟨rfl, hd⟩
            have HA5 := Lib.hid (HA4.out.new (draws_below hd))
            have HB5 := Lib.hid (HB4.out.new (draws_below hd))
            have W8 := Lib.hid (writes_any x8 _ _ sa y5 HA5.out.1)
            have W9 := Lib.hid (writes_any x9 _ _ sa y5 HB5.out.1)
            have D8 := Lib.hid (down_any x8 _ _ sa y5 HA5.out.1)
            have D9 := Lib.hid (down_any x9 _ _ sa y5 HB5.out.1)
            clear hd HQQ HA4 HB4 HB5
            go_wp2_with (first
              | (go_at_call 22; first | ((with_reducible refine (W8.out).mono ?_); rintro e w' ⟨rfl, rfl⟩) | ((with_reducible refine (W9.out).mono ?_); rintro e w' ⟨rfl, rfl⟩))
              | (go_at_call 20; first | ((with_reducible refine (D8.out).mono ?_); rintro e w' ⟨rfl, rfl⟩) | ((with_reducible refine (D9.out).mono ?_); rintro e w' ⟨rfl, rfl⟩)))
            go_ret
            exact TrueEnd.mk (next_below (next_below HBD.out HL2.out.2.2) HA5.out.2.2)
end Go.Proofs.Ytdbfkneklkdnaaa
