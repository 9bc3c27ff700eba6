/-
  The walk of DiskLoads.
-/
import Derived.Test.YtdbfkneklkdnaaaE46
namespace Go.Proofs.Ytdbfkneklkdnaaa
open Go.RowKit Go.Maps Go.Sort
set_option maxRecDepth 100000
attribute [local go_sem] bs_size bs_toList

theorem LI.lower {w : World} {T T' : Nat → Prop} {a : Option Addr} {l : List FlI} (h : LI w T a l) (ht : ∀ q, T q → T' q) : LI w T' a l := fun j f hf => by
  obtain ⟨b, aj, cj, h1, h2, h3, h4, h5⟩ := h j f hf
  exact ⟨b, aj, cj, h1, ht _ h2, h3, h4, fun h0 q hq => ⟨ht _ (h5 h0 q hq).1, (h5 h0 q hq).2⟩⟩
theorem wsI_take (l : List FlI) (k : Nat) : wsI (l.take k) ≤ k * 40002 := by
  have := wsI_le (l.take k)
  rw [List.length_take] at this
  have h2 : min k l.length * 40002 ≤ k * 40002 := Nat.mul_le_mul_right _ (Nat.min_le_left _ _)
  omega
set_option maxHeartbeats 8000000 in
theorem loads_walk (a : Option Addr) (n cap : Nat) (l : List FlI) (a' : Option Addr) (n' cap' : Nat) (os : List OpV) (w : World) (h : RdFi w (fun b => b < w.heap.size) a n cap l) (h' : RdOps w (fun b => b < w.heap.size) a' n' cap' os) :
    Calls Try.prog 9 #[.slice a n cap, .slice a' n' cap'] w (TrueEnd w) := by
  have H0 := Lib.hid h
  have H1 := Lib.hid h'
  have HN := Lib.hid h.1
  have HN1 := Lib.hid h'.1
  have hm1 : n ≤ 9223372036854775807 := by obtain ⟨_, _, vs, hr, _⟩ := h; exact Nat.le_trans hr.1 hr.2.1
  clear h h'
  go_enter Try.func9, Try.ntmps9
  go_wp2_with (go_at_call 10; ((with_reducible refine (firstT _).mono ?_); rintro e wa ⟨rfl, hb⟩; have HBA := Lib.hid hb; clear hb))
  go_loopw [5, 6] (fun x i wx => ∃ k : Nat, k ≤ n ∧ k ≤ 300 ∧ i = .int .i64 (k : Nat) ∧ x = .int .i64 (wsI (l.take k) : Nat) ∧ Hid (Below w.heap.size w wx)) (fun _ i _ => n - (intOf i).toNat)
  case atStart => exact ⟨0, Nat.zero_le _, Nat.zero_le _, rfl, rfl, HBA.out⟩
  case round =>
    clear HBA
    obtain ⟨k, hk, hk3, rfl, rfl, HB⟩ := hrel
    have hws := wsI_take l k
    by_cases hlt : k < n
    · by_cases hl3 : k < 300
      · obtain ⟨f, hf⟩ : ∃ f, l[k]? = some f := ⟨_, List.getElem?_eq_getElem (by have := HN.out; omega)⟩
        obtain ⟨b, off, ai, ci, rfl, hrd, q0, q1, q2⟩ := (H0.out.below HB.out).at hf
        have HS := Lib.hid (wsI_snoc hf)
        have hb1 : f.dt.length ≤ 9223372036854775807 := Nat.le_trans hrd.2.1.2.1 hrd.2.1.2.2.1
        have hb2 := hrd.1.1
        clear hf hrd
        go_wp2_with fail
        go_quiet (fail)
        go_wp2_with fail
        go_roundw
        case rel => exact ⟨k + 1, by omega, by omega, by go_num, by rw [HS.out]; unfold wgI; congr 1; omega, HB.out.trans ⟨rfl, rfl, rfl, Nat.le_refl _, fun _ _ => rfl⟩⟩
        case measure => simp [intOf]; omega
      · have hn3 : decide (300 < n) = true := by simp; omega
        go_wp2_with (go_at_call 10; ((with_reducible refine (firstT _).mono ?_); rintro e wc ⟨rfl, hb⟩; have HBC := Lib.hid hb; clear hb))
        go_ret
        exact TrueEnd.mk (next_below HB.out HBC.out)
    · obtain rfl : k = n := by omega
      have hwl : wsI (l.take k) = wsI l := by rw [List.take_of_length_le (by rw [HN.out]; exact Nat.le_refl _)]
      rw [hwl] at hws ⊢
      obtain ⟨U, hU⟩ : ∃ U, wsI l = U := ⟨_, rfl⟩
      rw [hU] at hws ⊢
      have HU := Lib.hid hU
      clear hwl hU
      have hn3 : decide (300 < k) = false := by simp; omega
      by_cases hbig : 20000 < U
      · have d1 : decide (20000 < U) = true := by simpa using hbig
        go_wp2_with (go_at_call 10; ((with_reducible refine (firstT _).mono ?_); rintro e wc ⟨rfl, hb⟩; have HBC := Lib.hid hb; clear hb))
        go_ret
        exact TrueEnd.mk (next_below HB.out HBC.out)
      · have d1 : decide (20000 < U) = false := by simpa using hbig
        have hT : totI l ≤ 20000 := wsI_tot (by rw [HU.out]; omega)
        have HT := Lib.hid hT
        clear hT
        go_wp2_with fail
        go_at_call 11
        refine (few_any a' n' cap' os _ _ (H1.out.below HB.out)).mono ?_
        rintro e wb ⟨b, rfl, hfew, hb⟩
        have HBB := Lib.hid (next_below HB.out hb)
        have HFEW := Lib.hid hfew
        clear hb hfew HB
        cases b with
        | false =>
          clear HFEW
          go_wp2_with (go_at_call 10; ((with_reducible refine (firstT _).mono ?_); rintro e wc ⟨rfl, hb⟩; have HBC := Lib.hid hb; clear hb))
          go_ret
          exact TrueEnd.mk (next_below HBB.out HBC.out)
        | true =>
          have HF := Lib.hid (HFEW.out rfl)
          clear HFEW hn3 d1 hbig hws
          have hn4 : n' ≤ 300 := by have := HF.out.1; have := HN1.out; omega
          go_wp2_with fail
          go_loopw [7, 8] (fun v i wx => ∃ (j : Nat) (us : List Value), j ≤ k ∧ i = .int .i64 (j : Nat) ∧ Hid (OwnFi wx wb.heap.size v us (l.take j)) ∧ Hid (Below wb.heap.size wb wx)) (fun _ i _ => k - (intOf i).toNat)
          case atStart => exact ⟨0, [], Nat.zero_le _, rfl, OwnFi.nil _ _, Below.refl _ _⟩
          case round =>
            obtain ⟨j, us, hj, rfl, HO, HBr⟩ := hrel
            by_cases hlt : j < k
            · obtain ⟨f, hf⟩ : ∃ f, l[j]? = some f := ⟨_, List.getElem?_eq_getElem (by have := HN.out; omega)⟩
              obtain ⟨b, off, ai, ci, rfl, hrd, q0, q1, q2⟩ := ((H0.out.below HBB.out).below HBr.out).at hf
              have hdl : f.dt.length ≤ 20000 := by
                have h1 := totI_next hf
                have h2 := totI_take_le l (j + 1)
                have h3 := HT.out
                omega
              have H8 := Lib.hid hrd.2.1
              have HFK := Lib.hid hf
              have hbase : Hid (wb.heap.size ≤ wr.heap.size) := HBr.out.size
              have hown0 := HO.out.2.1
              have hjl : (l.take j).length = j := by rw [List.length_take, ← HN.out]; omega
              rw [hjl] at hown0
              have HJL := Lib.hid hjl
              have HOW := Lib.hid hown0
              clear hf hrd hown0 hjl
              go_wp2_with fail
              refine wp_region_ht 19 (fun W => W.cell? ⟨b, off + j * 3, none⟩ = some (.string (bs f.nm)) ∧ W.cell? ⟨b, off + j * 3 + 1, none⟩ = some (.slice ai f.dt.length ci) ∧ W.cell? ⟨b, off + j * 3 + 2, none⟩ = some (.int .i64 f.sf)) (by kernel_rfl) (by kernel_rfl) ?_ (fun hHeld => ?_)
              · exact ⟨q0, q1, q2⟩
              try simp only [Act.put, List.setIfInBounds_toArray, List.set_cons_zero, List.set_cons_succ]
              refine wpHT_takeD (i := 0) (d := 64) (v := ?_) (by kernel_rfl) rfl rfl (by decide) (by kernel_rfl) (by kernel_rfl) (fun _ _ _ h => h) (Or.inl ⟨by kernel_rfl, ?_⟩) (by assumption) ?_
              rotate_left
              · intro w hSw; (try dsimp only at hSw); go_simp; (try with_reducible rfl)
              try simp only [Act.put, List.setIfInBounds_toArray, List.set_cons_zero, List.set_cons_succ]
              refine wpHT_takeD (i := 1) (d := 65) (v := ?_) (by kernel_rfl) rfl rfl (by decide) (by kernel_rfl) (by kernel_rfl) (fun _ _ _ h => h) (Or.inl ⟨by kernel_rfl, ?_⟩) (by assumption) ?_
              rotate_left
              · intro w hSw; (try dsimp only at hSw); go_simp; (try with_reducible rfl)
              try simp only [Act.put, List.setIfInBounds_toArray, List.set_cons_zero, List.set_cons_succ]
              refine wpHT_takeD (i := 2) (d := 66) (v := ?_) (by kernel_rfl) rfl rfl (by decide) (by kernel_rfl) (by kernel_rfl) (fun _ _ _ h => h) (Or.inl ⟨by kernel_rfl, ?_⟩) (by assumption) ?_
              rotate_left
              · intro w hSw; (try dsimp only at hSw); go_simp; (try with_reducible rfl)
              try simp only [Act.put, List.setIfInBounds_toArray, List.set_cons_zero, List.set_cons_succ]
              refine wpHT_takeD (i := 3) (d := 67) (v := ?_) (by kernel_rfl) rfl rfl (by decide) (by kernel_rfl) (by kernel_rfl) (fun _ _ _ h => h) (Or.inl ⟨by kernel_rfl, ?_⟩) (by assumption) ?_
              rotate_left
              · intro w hSw; (try dsimp only at hSw); go_simp; (try with_reducible rfl)
              try simp only [Act.put, List.setIfInBounds_toArray, List.set_cons_zero, List.set_cons_succ]
              refine wpHT_takeD (i := 4) (d := 68) (v := ?_) (by kernel_rfl) rfl rfl (by decide) (by kernel_rfl) (by kernel_rfl) (fun _ _ _ h => h) (Or.inl ⟨by kernel_rfl, ?_⟩) (by assumption) ?_
              rotate_left
              · intro w hSw; (try dsimp only at hSw); go_simp; (try with_reducible rfl)
              try simp only [Act.put, List.setIfInBounds_toArray, List.set_cons_zero, List.set_cons_succ]
              refine wpHT_takeD (i := 5) (d := 69) (v := ?_) (by kernel_rfl) rfl rfl (by decide) (by kernel_rfl) (by kernel_rfl) (fun _ _ _ h => h) (Or.inl ⟨by kernel_rfl, ?_⟩) (by assumption) ?_
              rotate_left
              · intro w hSw; (try dsimp only at hSw); go_simp; (try with_reducible rfl)
              try simp only [Act.put, List.setIfInBounds_toArray, List.set_cons_zero, List.set_cons_succ]
              refine wpHT_takeD (i := 6) (d := 70) (v := ?_) (by kernel_rfl) rfl rfl (by decide) (by kernel_rfl) (by kernel_rfl) (fun _ _ _ h => h) (Or.inl ⟨by kernel_rfl, ?_⟩) (by assumption) ?_
              rotate_left
              · intro w hSw; (try dsimp only at hSw); go_simp; (try with_reducible rfl)
              try simp only [Act.put, List.setIfInBounds_toArray, List.set_cons_zero, List.set_cons_succ]
              refine wpHT_takeD (i := 7) (d := 71) (v := ?_) (by kernel_rfl) rfl rfl (by decide) (by kernel_rfl) (by kernel_rfl) (fun _ _ _ h => h) (Or.inl ⟨by kernel_rfl, ?_⟩) (by assumption) ?_
              rotate_left
              · intro w hSw; (try dsimp only at hSw); go_simp; (try with_reducible rfl)
              try simp only [Act.put, List.setIfInBounds_toArray, List.set_cons_zero, List.set_cons_succ]
              refine wpHT_takeD (i := 8) (d := 72) (v := ?_) (by kernel_rfl) rfl rfl (by decide) (by kernel_rfl) (by kernel_rfl) (fun _ _ _ h => h) (Or.inl ⟨by kernel_rfl, ?_⟩) (by assumption) ?_
              rotate_left
              · intro w hSw; (try dsimp only at hSw); go_simp; (try with_reducible rfl)
              try simp only [Act.put, List.setIfInBounds_toArray, List.set_cons_zero, List.set_cons_succ]
              refine wpHT_takeD (i := 9) (d := 73) (v := ?_) (by kernel_rfl) rfl rfl (by decide) (by kernel_rfl) (by kernel_rfl) (fun _ _ _ h => h) (Or.inl ⟨by kernel_rfl, ?_⟩) (by assumption) ?_
              rotate_left
              · intro w hSw; (try dsimp only at hSw); go_simp; (try with_reducible rfl)
              try simp only [Act.put, List.setIfInBounds_toArray, List.set_cons_zero, List.set_cons_succ]
              refine wpHT_takeD (i := 10) (d := 74) (v := ?_) (by kernel_rfl) rfl rfl (by decide) (by kernel_rfl) (by kernel_rfl) (fun _ _ _ h => h) (Or.inl ⟨by kernel_rfl, ?_⟩) (by assumption) ?_
              rotate_left
              · intro w hSw; (try dsimp only at hSw); go_simp; (try with_reducible rfl)
              try simp only [Act.put, List.setIfInBounds_toArray, List.set_cons_zero, List.set_cons_succ]
              refine wpHT_takeD (i := 12) (d := 76) (v := ?_) (by kernel_rfl) rfl rfl (by decide) (by kernel_rfl) (by kernel_rfl) (fun _ _ _ h => h) (Or.inl ⟨by kernel_rfl, ?_⟩) (by assumption) ?_
              rotate_left
              · intro w hSw; (try dsimp only at hSw); go_simp; (try with_reducible rfl)
              try simp only [Act.put, List.setIfInBounds_toArray, List.set_cons_zero, List.set_cons_succ]
              refine wpHT_takeD (i := 13) (d := 77) (v := ?_) (by kernel_rfl) rfl rfl (by decide) (by kernel_rfl) (by kernel_rfl) (fun _ _ _ h => h) (Or.inl ⟨by kernel_rfl, ?_⟩) (by assumption) ?_
              rotate_left
              · intro w hSw; (try dsimp only at hSw); go_simp; (try with_reducible rfl)
              try simp only [Act.put, List.setIfInBounds_toArray, List.set_cons_zero, List.set_cons_succ]
              refine wpHT_takeD (i := 14) (d := 78) (v := ?_) (by kernel_rfl) rfl rfl (by decide) (by kernel_rfl) (by kernel_rfl) (fun _ _ _ h => h) (Or.inl ⟨by kernel_rfl, ?_⟩) (by assumption) ?_
              rotate_left
              · intro w hSw; (try dsimp only at hSw); go_simp; (try with_reducible rfl)
              try simp only [Act.put, List.setIfInBounds_toArray, List.set_cons_zero, List.set_cons_succ]
              refine wpHT_takeD (i := 15) (d := 79) (v := ?_) (by kernel_rfl) rfl rfl (by decide) (by kernel_rfl) (by kernel_rfl) (fun _ _ _ h => h) (Or.inl ⟨by kernel_rfl, ?_⟩) (by assumption) ?_
              rotate_left
              · intro w hSw; (try dsimp only at hSw); go_simp; (try with_reducible rfl)
              try simp only [Act.put, List.setIfInBounds_toArray, List.set_cons_zero, List.set_cons_succ]
              refine wpHT_takeD (i := 16) (d := 80) (v := ?_) (by kernel_rfl) rfl rfl (by decide) (by kernel_rfl) (by kernel_rfl) (fun _ _ _ h => h) (Or.inl ⟨by kernel_rfl, ?_⟩) (by assumption) ?_
              rotate_left
              · intro w hSw; (try dsimp only at hSw); go_simp; (try with_reducible rfl)
              try simp only [Act.put, List.setIfInBounds_toArray, List.set_cons_zero, List.set_cons_succ]
              refine wpHT_one (i := 11) (by kernel_rfl) rfl (by decide) (fun K hK => ?_)
              go_simp
              go_at_call 29
              refine (copyBytes_any _ _ _ f.dt _ (H8.out.below ((Below.refl _ wr).drew)) (by omega)).mono ?_
              rintro e w2 ⟨v2, rfl, ho, hb⟩
              have hb2 : Below wr.heap.size wr w2 := ((Below.refl _ wr).drew).trans hb
              have ho2 : Own8 w2 wr.heap.size 5 v2 f.dt := ho
              obtain ⟨a2, cap2, rfl, hr2⟩ := ho2.rd
              have q0 := cell_below q0 hb2
              have q1 := cell_below q1 hb2
              have q2 := cell_below q2 hb2
              have HO2 := Lib.hid ho2
              have HB2 := Lib.hid hb2
              clear ho hb ho2 hb2 hr2
              refine hK.out _ _ ?_ (fun hHeld => ?_)
              · exact ⟨q0, q1, q2⟩
              clear hK K
              try simp only [Act.put, List.setIfInBounds_toArray, List.set_cons_zero, List.set_cons_succ]
              refine wpHT_takeD (i := 17) (d := 81) (v := ?_) (by kernel_rfl) rfl rfl (by decide) (by kernel_rfl) (by kernel_rfl) (fun _ _ _ h => h) (Or.inl ⟨by kernel_rfl, ?_⟩) (by assumption) ?_
              rotate_left
              · intro w hSw; (try dsimp only at hSw); go_simp; (try with_reducible rfl)
              try simp only [Act.put, List.setIfInBounds_toArray, List.set_cons_zero, List.set_cons_succ]
              refine wpHT_one (i := 18) (by kernel_rfl) rfl (by decide) (fun K hK => ?_)
              go_simp
              refine hK.out _ _ ?_ (fun hHeld => ?_)
              · exact ⟨cell_alloc_keep q0, cell_alloc_keep q1, cell_alloc_keep q2⟩
              clear hK K
              try simp only [Act.put, List.setIfInBounds_toArray, List.set_cons_zero, List.set_cons_succ]
              refine wpHT_done (by kernel_rfl) ?_
              simp only [List.drop_succ_cons, List.drop_zero]
              clear hHeld q0 q1 q2
              have hb3 : Below wr.heap.size wr (w2.alloc (.cells #[.string (bs f.nm), .slice a2 f.dt.length cap2, .int .i64 f.sf] 43)) := HB2.out.alloc HB2.out.size _
              have HB3 := Lib.hid hb3
              have HOW3 := Lib.hid (ownsRow_keep HOW.out (fun q hq => hb3.block q (World.ownsRow.lt HOW.out q hq).2))
              clear hb3
              go_wp2_with (at_builtin; refine wpList_app2 SFile rfl _ _ rfl wb.heap.size rfl HOW3.out rfl (Rd.litn w2 (cellI f (.slice a2 f.dt.length cap2)) 1 3 rfl (by decide) 43) (by intro u hu; simp [cellI] at hu; rcases hu with rfl | rfl | rfl <;> rfl) (by omega) (by unfold maxLen; omega) (Nat.le_trans hbase.out HB3.out.size) ?_; intro v3 w3 ho3 hg3 hl3; have HO3 := Lib.hid ho3; have HG3 := Lib.hid hg3; clear ho3 hg3 hl3)
              go_roundw
              case rel =>
                refine ⟨j + 1, us ++ [.slice a2 f.dt.length cap2], by omega, by go_num, ?_, ?_⟩
                · have hsn := HO.out.snoc f (.slice a2 f.dt.length cap2) HB3.out ((HO2.out.alloc _).mono hbase.out) (v' := v3) (w2 := w3) (by rw [HJL.out]; exact HO3.out) HG3.out
                  rw [take_snoc HFK.out]; exact hsn
                · exact HBr.out.trans ((HB3.out.mono hbase.out).grown HG3.out (Nat.le_trans hbase.out HB3.out.size) (fun q hq => (World.ownsRow.lt HOW3.out q hq).1))
              case measure => simp [intOf]; omega
            · obtain rfl : j = k := by omega
              have hwf : ∀ f ∈ l, FiWf f := fun f hf => by
                obtain ⟨i, hi⟩ := List.getElem?_of_mem hf
                obtain ⟨_, _, xs, _, h4⟩ := H0.out
                obtain ⟨_, _, _, hw, _⟩ := h4 i f hi
                exact hw
              have hof := HO.out
              rw [List.take_of_length_le (by rw [HN.out]; exact Nat.le_refl _)] at hof
              obtain ⟨a7, c7, e7, hr7⟩ := hof.rd hwf
              rw [← HN.out] at e7 hr7
              subst e7
              obtain ⟨wi, hwi⟩ : ∃ wi, wi = wr := ⟨_, rfl⟩
              subst hwi
              have HLI := Lib.hid (LI.of_own hof)
              have HR7 := Lib.hid hr7
              have HIN : Hid (RdFi wi (fun b => b < w.heap.size) a j cap l) := (H0.out.below HBB.out).below HBr.out
              have hnn : j ≤ 300 := hk3
              clear hwf hof hr7 HO
              go_wp2_with fail
              go_at_call 30
              refine (load_any a7 _ c7 l _ wi HR7.out (by have := HT.out; omega) (by omega)).mono ?_
              rintro e w3 ⟨hb3, hcase⟩
              have HB3 := Lib.hid hb3
              have HRL := Lib.hid (rload_any a _ cap l _ w3 (HIN.out.below hb3) (by have := HT.out; omega) (by omega))
              clear hb3
              rcases hcase with ⟨hne, rfl⟩ | ⟨hz, hok, d, rfl, hd⟩
              · obtain ⟨E, hE⟩ : ∃ E, loadE l = E := ⟨_, rfl⟩
                have HNE : Hid (loadE l ≠ 0) := hne
                have HE := Lib.hid hE
                rw [hE]
                clear hne hE
                go_wp2_with fail
                go_at_call 31
                refine (HRL.out).mono ?_
                rintro e w4 ⟨hb4, hcase⟩
                rcases hcase with ⟨_, rfl⟩ | ⟨hz, _⟩
                · rw [HE.out]
                  have hbi4 : Below wi.heap.size wi w4 := HB3.out.trans (hb4.mono HB3.out.size)
                  have HQ := Lib.hid (filesI_same a7 a _ c7 cap l _ _ w4 (HR7.out.below hbi4) (HIN.out.below hbi4))
                  have HB4 := Lib.hid (HBr.out.trans (hbi4.mono HBr.out.size))
                  clear hb4 hbi4
                  go_wp2_with (go_at_call 21; ((with_reducible refine (HQ.out).mono ?_); rintro e w5 ⟨rfl, hd5⟩; have HB5 := Lib.hid (draws_below hd5); clear hd5))
                  go_wp2_with (go_at_call 10; ((with_reducible refine (firstT _).mono ?_); rintro e wc ⟨rfl, hb⟩; have HBC := Lib.hid hb; clear hb))
                  go_ret
                  exact TrueEnd.mk (next_below (next_below (next_below HBB.out HB4.out) HB5.out) HBC.out)
                · exact absurd hz HNE.out
              · have HZ := Lib.hid hz
                have HOK := Lib.hid hok
                have HD3 := Lib.hid hd
                clear hz hok hd
                go_wp2_with fail
                go_at_call 31
                refine (HRL.out).mono ?_
                rintro e w4 ⟨hb4, hcase⟩
                rcases hcase with ⟨hz, _⟩ | ⟨_, c, rfl, hc⟩
                · exact absurd HZ.out hz
                · have hbi4 : Below wi.heap.size wi w4 := HB3.out.trans (hb4.mono HB3.out.size)
                  have HQ := Lib.hid (filesI_same a7 a _ c7 cap l _ _ w4 (HR7.out.below hbi4) (HIN.out.below hbi4))
                  have HA4 : Hid (LS 0 wb w4 d (fun k => wi.heap.size ≤ k ∧ k < w3.heap.size) (loadS l)) := ⟨HD3.out.below hb4, fun k hk => Nat.le_trans HBr.out.size hk.1, HBr.out.trans (hbi4.mono HBr.out.size)⟩
                  have HC4 := Lib.hid hc
                  have HLI4 := Lib.hid (HLI.out.keep hbi4)
                  have HW34 : Hid (w3.heap.size ≤ w4.heap.size) := hb4.size
                  clear hb4 hbi4 hc HD3 HLI
                  go_wp2_with (go_at_call 21; ((with_reducible refine (HQ.out).mono ?_); rintro e w5 ⟨rfl, hd5⟩; have HB5 := Lib.hid (draws_below hd5); clear hd5))
                  have HA5 := Lib.hid (HA4.out.new HB5.out)
                  have HC5 := Lib.hid (HC4.out.below HB5.out)
                  have HLI5 := Lib.hid (HLI4.out.keep HB5.out)
                  clear HA4 HC4 HLI4 HQ HRL
                  have hwi3 : Hid (wi.heap.size ≤ w3.heap.size) := HB3.out.size
                  go_loopw [13, 14] (fun i _ wx => ∃ J : Nat, J ≤ j ∧ i = .int .i64 (J : Nat) ∧ Hid (LI wx (fun q => wb.heap.size ≤ q ∧ q < wi.heap.size) a7 l) ∧ Hid (Fr (fun q => wb.heap.size ≤ q ∧ q < wi.heap.size) w5 wx)) (fun i _ _ => j - (intOf i).toNat)
                  case atStart => exact ⟨0, Nat.zero_le _, rfl, LI.lower HLI5.out (fun q hq => hq), Fr.refl _ _⟩
                  case round =>
                    obtain ⟨J, hJ, rfl, HLR, HFR⟩ := hrel
                    by_cases hlt : J < j
                    · obtain ⟨f, hf⟩ : ∃ f, l[J]? = some f := ⟨_, List.getElem?_eq_getElem (by have := HN.out; omega)⟩
                      obtain ⟨b, aj, cj, rfl, hbb, hcell, hwr, hblk⟩ := HLR.out J f hf
                      have hdl : f.dt.length ≤ 20000 := by
                        have h1 := totI_next hf
                        have h2 := totI_take_le l (J + 1)
                        have h3 := HT.out
                        omega
                      have HFK := Lib.hid hf
                      clear hf hwr hblk
                      go_wp2_with fail
                      clear hcell
                      go_loopw [14] (fun i wx => ∃ k : Nat, k ≤ f.dt.length ∧ i = .int .i64 (k : Nat) ∧ Hid (LI wx (fun q => wb.heap.size ≤ q ∧ q < wi.heap.size) (some ⟨b, 0, none⟩) l) ∧ Hid (Fr (fun q => wb.heap.size ≤ q ∧ q < wi.heap.size) w5 wx)) (fun i _ => f.dt.length - (intOf i).toNat)
                      case atStart => exact ⟨0, Nat.zero_le _, rfl, HLR.out, HFR.out⟩
                      case round =>
                        obtain ⟨k, hk, rfl, HLX, HFX⟩ := hrel
                        obtain ⟨b', aj', cj', e, hbb', hcell, hwr, hblk⟩ := HLX.out J f HFK.out
                        obtain rfl : b = b' := by simpa using e
                        by_cases hlk : k < f.dt.length
                        · obtain ⟨r, u, rfl, cu, fu, _⟩ := hwr.at hlk
                          have HBK := Lib.hid hblk
                          clear hblk hwr e hbb' hbb
                          go_wp2_with fail
                          go_roundw
                          case rel => exact ⟨k + 1, by omega, by go_num, HLX.out.set k _ (fun q hq => by cases hq; exact (HBK.out (by omega) r rfl).2), HFX.out.setCell (p := ⟨r, k, none⟩) (fun _ => (HBK.out (by omega) r rfl).1) _⟩
                          case measure => simp [intOf]; omega
                        · obtain rfl : k = f.dt.length := by omega
                          clear hblk hwr e hbb' hbb
                          go_wp2_with fail
                          go_roundw
                          case rel => exact ⟨J + 1, by omega, by go_num, HLX.out, HFX.out⟩
                          case measure => simp [intOf]; omega
                    · obtain rfl : J = j := by omega
                      have HA6 := Lib.hid (HA5.out.beside HFR.out (fun q hq hT => by omega) (fun q hT => hT.1))
                      have HC6 := Lib.hid (HC5.out.keep HFR.out (fun q hq hT => by have := hwi3.out; omega))
                      clear HA5 HC5 HLI5 HLR
                      go_wp2_with fail
                      go_at_call 26
                      refine (same_any d _ _ c _ _ wr HA6.out.1 HC6.out).mono ?_
                      rintro e w7 ⟨rfl, hb7⟩
                      have HA7 := Lib.hid (HA6.out.new hb7)
                      have HC7 := Lib.hid (HC6.out.below hb7)
                      have HW7 : Hid (∀ q, (w3.heap.size ≤ q ∧ q < w4.heap.size) → wb.heap.size ≤ q) := fun q hq => by
                        have h1 := hwi3.out
                        have h2 := HBr.out.size
                        omega
                      have HX7 : Hid (∀ q, (wi.heap.size ≤ q ∧ q < w3.heap.size) → ¬ (w3.heap.size ≤ q ∧ q < w4.heap.size)) := fun q hq hq' => by omega
                      clear hb7 HA6 HC6 HFR
                      go_wp2_with fail
                      go_loopw [15] (fun i wx => ∃ (q : Nat) (S S' : Nat → Prop) (s : DS), q ≤ n' ∧ i = .int .i64 (q : Nat) ∧ Hid (LS (q : Nat) wb wx d S s) ∧ Hid (Rf wx c S' s) ∧ Hid (∀ x, S' x → wb.heap.size ≤ x) ∧ Hid (∀ x, S x → ¬ S' x)) (fun i _ => n' - (intOf i).toNat)
                      case atStart => exact ⟨0, _, _, loadS l, Nat.zero_le _, rfl, HA7.out, HC7.out, HW7.out, HX7.out⟩
                      case round =>
                        clear HA7 HC7 HW7 HX7
                        obtain ⟨q, S, S', s, hq, rfl, HA, HB, HW, HX⟩ := hrel
                        by_cases hlt : q < n'
                        · obtain ⟨o, ho⟩ : ∃ o, os[q]? = some o := ⟨_, List.getElem?_eq_getElem (by have := HN1.out; omega)⟩
                          have hbl := (HF.out.each (List.mem_of_getElem? ho)).2.2
                          obtain ⟨b, off, ab, cb, ap', cp', rfl, hrd, c0, c1, c2, c3, c4, c5⟩ := (H1.out.below HBB.out).at ho
                          have HC : Hid (∀ W, Below wb.heap.size wb W → W.cell? ⟨b, off + q * 6, none⟩ = some (.int .i64 o.k) ∧ W.cell? ⟨b, off + q * 6 + 1, none⟩ = some (.int .i64 o.n) ∧ W.cell? ⟨b, off + q * 6 + 2, none⟩ = some (.string (bs o.nm)) ∧ W.cell? ⟨b, off + q * 6 + 3, none⟩ = some (.string (bs o.tn)) ∧ W.cell? ⟨b, off + q * 6 + 4, none⟩ = some (.slice ab o.b.length cb) ∧ W.cell? ⟨b, off + q * 6 + 5, none⟩ = some (.slice ap' o.p.length cp')) :=
                            fun W hb => ⟨cell_below c0 hb, cell_below c1 hb, cell_below c2 hb, cell_below c3 hb, cell_below c4 hb, cell_below c5 hb⟩
                          have HRD : Hid (∀ W, Below wb.heap.size wb W → OpRd W (fun b => b < w.heap.size) o ab cb ap' cp') := fun W hb => hrd.below hb
                          have HLE : Hid (w.heap.size ≤ wb.heap.size) := HBB.out.size
                          have HAd := Lib.hid (HA.out.new ((Below.refl _ wr).drew))
                          have HBd := Lib.hid (HB.out.drew)
                          have HOK := Lib.hid HA.out.1.ok
                          clear ho hrd c0 c1 c2 c3 c4 c5 HA HB
                          go_wp2_with fail
                          refine wp_region_ht 18 (fun W => W.cell? ⟨b, off + q * 6, none⟩ = some (.int .i64 o.k) ∧ W.cell? ⟨b, off + q * 6 + 1, none⟩ = some (.int .i64 o.n) ∧ W.cell? ⟨b, off + q * 6 + 2, none⟩ = some (.string (bs o.nm)) ∧ W.cell? ⟨b, off + q * 6 + 3, none⟩ = some (.string (bs o.tn)) ∧ W.cell? ⟨b, off + q * 6 + 4, none⟩ = some (.slice ab o.b.length cb) ∧ W.cell? ⟨b, off + q * 6 + 5, none⟩ = some (.slice ap' o.p.length cp')) (by kernel_rfl) (by kernel_rfl) ?_ (fun hHeld => ?_)
                          · exact HC.out _ HAd.out.2.2
                          try simp only [Act.put, List.setIfInBounds_toArray, List.set_cons_zero, List.set_cons_succ]
                          refine wpHT_takeD (i := 0) (d := 146) (v := ?_) (by kernel_rfl) rfl rfl (by decide) (by kernel_rfl) (by kernel_rfl) (fun _ _ _ h => h) (Or.inl ⟨by kernel_rfl, ?_⟩) (by assumption) ?_
                          rotate_left
                          · intro w hSw; (try dsimp only at hSw); go_simp; (try with_reducible rfl)
                          try simp only [Act.put, List.setIfInBounds_toArray, List.set_cons_zero, List.set_cons_succ]
                          refine wpHT_takeD (i := 1) (d := 147) (v := ?_) (by kernel_rfl) rfl rfl (by decide) (by kernel_rfl) (by kernel_rfl) (fun _ _ _ h => h) (Or.inl ⟨by kernel_rfl, ?_⟩) (by assumption) ?_
                          rotate_left
                          · intro w hSw; (try dsimp only at hSw); go_simp; (try with_reducible rfl)
                          try simp only [Act.put, List.setIfInBounds_toArray, List.set_cons_zero, List.set_cons_succ]
                          refine wpHT_takeD (i := 2) (d := 148) (v := ?_) (by kernel_rfl) rfl rfl (by decide) (by kernel_rfl) (by kernel_rfl) (fun _ _ _ h => h) (Or.inl ⟨by kernel_rfl, ?_⟩) (by assumption) ?_
                          rotate_left
                          · intro w hSw; (try dsimp only at hSw); go_simp; (try with_reducible rfl)
                          try simp only [Act.put, List.setIfInBounds_toArray, List.set_cons_zero, List.set_cons_succ]
                          refine wpHT_takeD (i := 3) (d := 149) (v := ?_) (by kernel_rfl) rfl rfl (by decide) (by kernel_rfl) (by kernel_rfl) (fun _ _ _ h => h) (Or.inl ⟨by kernel_rfl, ?_⟩) (by assumption) ?_
                          rotate_left
                          · intro w hSw; (try dsimp only at hSw); go_simp; (try with_reducible rfl)
                          try simp only [Act.put, List.setIfInBounds_toArray, List.set_cons_zero, List.set_cons_succ]
                          refine wpHT_takeD (i := 4) (d := 150) (v := ?_) (by kernel_rfl) rfl rfl (by decide) (by kernel_rfl) (by kernel_rfl) (fun _ _ _ h => h) (Or.inl ⟨by kernel_rfl, ?_⟩) (by assumption) ?_
                          rotate_left
                          · intro w hSw; (try dsimp only at hSw); go_simp; (try with_reducible rfl)
                          try simp only [Act.put, List.setIfInBounds_toArray, List.set_cons_zero, List.set_cons_succ]
                          refine wpHT_takeD (i := 6) (d := 152) (v := ?_) (by kernel_rfl) rfl rfl (by decide) (by kernel_rfl) (by kernel_rfl) (fun _ _ _ h => h) (Or.inl ⟨by kernel_rfl, ?_⟩) (by assumption) ?_
                          rotate_left
                          · intro w hSw; (try dsimp only at hSw); go_simp; (try with_reducible rfl)
                          try simp only [Act.put, List.setIfInBounds_toArray, List.set_cons_zero, List.set_cons_succ]
                          refine wpHT_takeD (i := 7) (d := 153) (v := ?_) (by kernel_rfl) rfl rfl (by decide) (by kernel_rfl) (by kernel_rfl) (fun _ _ _ h => h) (Or.inl ⟨by kernel_rfl, ?_⟩) (by assumption) ?_
                          rotate_left
                          · intro w hSw; (try dsimp only at hSw); go_simp; (try with_reducible rfl)
                          try simp only [Act.put, List.setIfInBounds_toArray, List.set_cons_zero, List.set_cons_succ]
                          refine wpHT_takeD (i := 8) (d := 154) (v := ?_) (by kernel_rfl) rfl rfl (by decide) (by kernel_rfl) (by kernel_rfl) (fun _ _ _ h => h) (Or.inl ⟨by kernel_rfl, ?_⟩) (by assumption) ?_
                          rotate_left
                          · intro w hSw; (try dsimp only at hSw); go_simp; (try with_reducible rfl)
                          try simp only [Act.put, List.setIfInBounds_toArray, List.set_cons_zero, List.set_cons_succ]
                          refine wpHT_takeD (i := 9) (d := 155) (v := ?_) (by kernel_rfl) rfl rfl (by decide) (by kernel_rfl) (by kernel_rfl) (fun _ _ _ h => h) (Or.inl ⟨by kernel_rfl, ?_⟩) (by assumption) ?_
                          rotate_left
                          · intro w hSw; (try dsimp only at hSw); go_simp; (try with_reducible rfl)
                          try simp only [Act.put, List.setIfInBounds_toArray, List.set_cons_zero, List.set_cons_succ]
                          refine wpHT_takeD (i := 10) (d := 156) (v := ?_) (by kernel_rfl) rfl rfl (by decide) (by kernel_rfl) (by kernel_rfl) (fun _ _ _ h => h) (Or.inl ⟨by kernel_rfl, ?_⟩) (by assumption) ?_
                          rotate_left
                          · intro w hSw; (try dsimp only at hSw); go_simp; (try with_reducible rfl)
                          try simp only [Act.put, List.setIfInBounds_toArray, List.set_cons_zero, List.set_cons_succ]
                          refine wpHT_one (i := 5) (by kernel_rfl) rfl (by decide) (fun K hK => ?_)
                          go_simp
                          go_at_call 13
                          refine (HAd.out.does (by omega) (by omega) (HRD.out _ HAd.out.2.2) (fun b hb => Nat.lt_of_lt_of_le hb HLE.out)).mono ?_
                          rintro e W1 ht
                          obtain ⟨rfl, hls, hf⟩ := HAd.out.told ht
                          have HA1 := Lib.hid hls
                          have HB1 : Hid (Rf W1 c S' s) := HBd.out.keep hf (fun q hq hs => HX.out q hs hq)
                          have HX1 : Hid (∀ q, Sx S wr.drew W1 q → ¬ S' q) := fun q hq hs => hq.elim (fun h => HX.out q h hs) (fun h => by have := HBd.out.lt q hs; omega)
                          clear ht hls hf HAd HBd HX
                          refine hK.out _ _ ?_ (fun hHeld => ?_)
                          · exact HC.out _ HA1.out.2.2
                          clear hK K
                          try simp only [Act.put, List.setIfInBounds_toArray, List.set_cons_zero, List.set_cons_succ]
                          refine wpHT_one (i := 11) (by kernel_rfl) rfl (by decide) (fun K hK => ?_)
                          go_simp
                          go_at_call 25
                          refine (model_any c S' _ (by omega) s o ab cb ap' cp' _ (fun q hq hs => by have h1 := HW.out q hs; have h2 := HLE.out; omega) (by omega) HOK.out W1 HB1.out (HRD.out _ HA1.out.2.2)).mono ?_
                          rintro e W2 ⟨rfl, hr, hf⟩
                          have HB2 := Lib.hid hr
                          have HA2 := Lib.hid (HA1.out.beside hf HX1.out HW.out)
                          have HX2 : Hid (∀ q, Sx S wr.drew W1 q → ¬ Sx S' W1 W2 q) := fun q hq hs => hs.elim (HX1.out q hq) (fun h => by have := HA1.out.1.lt q hq; omega)
                          have HW2 : Hid (∀ q, Sx S' W1 W2 q → wb.heap.size ≤ q) := fun q hq => hq.elim (HW.out q) (fun h => Nat.le_trans HA1.out.2.2.size h.1)
                          clear hr hf HA1 HB1 HX1 HW
                          refine hK.out _ _ ?_ (fun hHeld => ?_)
                          · exact HC.out _ HA2.out.2.2
                          clear hK K
                          try simp only [Act.put, List.setIfInBounds_toArray, List.set_cons_zero, List.set_cons_succ]
                          refine wpHT_takeD (i := 12) (d := 158) (v := ?_) (by kernel_rfl) rfl rfl (by decide) (by kernel_rfl) (by kernel_rfl) (fun _ _ _ h => h) (Or.inl ⟨by kernel_rfl, ?_⟩) (by assumption) ?_
                          rotate_left
                          · intro w hSw; (try dsimp only at hSw); go_simp; (try with_reducible rfl)
                          try simp only [Act.put, List.setIfInBounds_toArray, List.set_cons_zero, List.set_cons_succ]
                          refine wpHT_takeD (i := 13) (d := 159) (v := ?_) (by kernel_rfl) rfl rfl (by decide) (by kernel_rfl) (by kernel_rfl) (fun _ _ _ h => h) (Or.inl ⟨by kernel_rfl, ?_⟩) (by assumption) ?_
                          rotate_left
                          · intro w hSw; (try dsimp only at hSw); go_simp; (try with_reducible rfl)
                          try simp only [Act.put, List.setIfInBounds_toArray, List.set_cons_zero, List.set_cons_succ]
                          refine wpHT_takeD (i := 14) (d := 160) (v := ?_) (by kernel_rfl) rfl rfl (by decide) (by kernel_rfl) (by kernel_rfl) (fun _ _ _ h => h) (Or.inl ⟨by kernel_rfl, ?_⟩) (by assumption) ?_
                          rotate_left
                          · intro w hSw; (try dsimp only at hSw); go_simp; (try with_reducible rfl)
                          try simp only [Act.put, List.setIfInBounds_toArray, List.set_cons_zero, List.set_cons_succ]
                          refine wpHT_takeD (i := 15) (d := 161) (v := ?_) (by kernel_rfl) rfl rfl (by decide) (by kernel_rfl) (by kernel_rfl) (fun _ _ _ h => h) (Or.inl ⟨by kernel_rfl, ?_⟩) (by assumption) ?_
                          rotate_left
                          · intro w hSw; (try dsimp only at hSw); go_simp; (try with_reducible rfl)
                          try simp only [Act.put, List.setIfInBounds_toArray, List.set_cons_zero, List.set_cons_succ]
                          refine wpHT_one (i := 16) (by kernel_rfl) rfl (by decide) (fun K hK => ?_)
                          go_simp
                          go_at_call 26
                          refine (same_any d _ _ c _ _ W2 HA2.out.1 HB2.out).mono ?_
                          rintro e W3 ⟨rfl, hb3⟩
                          have HA3 := Lib.hid (HA2.out.new hb3)
                          have HB3 := Lib.hid (HB2.out.below hb3)
                          clear hb3 HA2 HB2
                          refine hK.out _ _ ?_ (fun hHeld => ?_)
                          · exact HC.out _ HA3.out.2.2
                          clear hK K
                          try simp only [Act.put, List.setIfInBounds_toArray, List.set_cons_zero, List.set_cons_succ]
                          refine wpHT_takeD (i := 17) (d := 163) (v := ?_) (by kernel_rfl) rfl rfl (by decide) (by kernel_rfl) (by kernel_rfl) (fun _ _ _ h => h) (Or.inl ⟨by kernel_rfl, ?_⟩) (by assumption) ?_
                          rotate_left
                          · intro w hSw; (try dsimp only at hSw); go_simp; (try with_reducible rfl)
                          try simp only [Act.put, List.setIfInBounds_toArray, List.set_cons_zero, List.set_cons_succ]
                          refine wpHT_done (by kernel_rfl) ?_
                          simp only [List.drop_succ_cons, List.drop_zero]
                          obtain ⟨s1, hs1⟩ : ∃ s1, (doesS s o).1 = s1 := ⟨_, rfl⟩
                          rw [hs1] at HA3 HB3
                          clear hs1 hHeld
                          go_wp2_with fail
                          go_roundw
                          case rel => exact ⟨q + 1, _, _, s1, by omega, by go_num, HA3.out, HB3.out, HW2.out, HX2.out⟩
                          case measure => simp [intOf]; omega
                        · obtain rfl : q = n' := by omega
                          go_wp2_with (go_at_call 10; ((with_reducible refine (firstT _).mono ?_); rintro e wc ⟨rfl, hb⟩; have HBC := Lib.hid hb; clear hb))
                          go_ret
                          exact TrueEnd.mk (next_below (next_below HBB.out HA.out.2.2) HBC.out)
end Go.Proofs.Ytdbfkneklkdnaaa
