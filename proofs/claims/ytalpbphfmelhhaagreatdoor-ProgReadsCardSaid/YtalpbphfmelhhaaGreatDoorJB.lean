/-
  The walk of prog.Parse.
  The document's reading of a program (raceref9.word, Parse). Written by a program (h37gen.py).
-/
import Derived.Test.YtalpbphfmelhhaaGreatDoorJA
import Derived.Test.YtalpbphfmelhhaaGreatDoorKA
import Derived.BigRegion
/-! ### The walk of prog.Parse. -/
namespace Go.Proofs.YtalpbphfmelhhaaGreatDoor
open Go.RowKit Go.Maps Go.Sort
set_option maxRecDepth 100000
attribute [local go_sem] bs_size bs_get bs_toList frombits tobits run_store_float
theorem five_at {W : World} {q : Nat} {c0 c1 c2 c3 c4 : Value} {t : TypeId} (h : W.heap[q]? = some (.cells #[c0, c1, c2, c3, c4] t (0, 0))) : W.cell? ⟨q, 0, none⟩ = some c0 ∧ W.cell? ⟨q, 1, none⟩ = some c1 ∧ W.cell? ⟨q, 2, none⟩ = some c2 ∧ W.cell? ⟨q, 3, none⟩ = some c3 ∧ W.cell? ⟨q, 4, none⟩ = some c4 := by
  have d0 := cell_of_row _ q 0 _ _ _ h
  have d1 := cell_of_row _ q 1 _ _ _ h
  have d2 := cell_of_row _ q 2 _ _ _ h
  have d3 := cell_of_row _ q 3 _ _ _ h
  have d4 := cell_of_row _ q 4 _ _ _ h
  simp only [List.getElem?_toArray, List.getElem?_cons_zero, List.getElem?_cons_succ] at d0 d1 d2 d3 d4
  exact ⟨d0, d1, d2, d3, d4⟩
theorem step_field (s : Value) (x y z : Value) (_hs : s.oneCell' = true) (hx : x.oneCell' = true) (W : World) : (Instr.field 64 (.agg #[s, x, y, z]) 1).run Tryz.prog W = .ok x W := by
  cases x <;> first | rfl | (simp [Value.oneCell'] at hx)
theorem own_new {w W W' : World} {v : Value} {l : List OpP} (h : OwnO5 W w.heap.size v l) (hb : Below W.heap.size W W') : OwnO5 W' w.heap.size v l := ownsRow_keep h fun k hk => hb.block k (World.ownsRow.lt h k hk).2
theorem own_set5 {w W : World} {v : Value} {l : List OpP} (h : OwnO5 W w.heap.size v l) {b : Nat} (hne : ∀ k, v.ownBlock = some k → k ≠ b) (a0 a1 a2 a3 a4 : Value) : OwnO5 (set5 W b a0 a1 a2 a3 a4) w.heap.size v l := ownsRow_keep h fun k hk => by
  have n := hne k hk
  exact (Below.heap_setCell _ _ _ _ n).trans ((Below.heap_setCell _ _ _ _ n).trans ((Below.heap_setCell _ _ _ _ n).trans ((Below.heap_setCell _ _ _ _ n).trans (Below.heap_setCell _ _ _ _ n))))
theorem own_snoc {w W : World} {v : Value} {l : List OpP} {n : Nat} (o : OpP) (hn : n = l.length) (h : World.ownsRow W w.heap.size 59 5 v (n + 1) (flatE opCells l ++ opCells o)) : OwnO5 W w.heap.size v (l ++ [o]) := by
  show World.ownsRow _ _ _ _ _ _ _
  rw [List.length_append, flatE_snoc, ← hn]
  exact h
set_option maxHeartbeats 16000000 in
theorem prgParse_any (l : List UInt8) (hl : l.length ≤ 100000) (w : World) : Calls Tryz.prog 28 #[.string (bs l)] w (ParsePost w l) := by
  have HW := Lib.hid (words_any l (by omega) w)
  have HCD : Hid (∀ (x : List UInt8) W, Calls Tryz.prog 54 #[.string (bs x)] W fun e w' => e = .returned (.int .i64 (codeW x)) ∧ Below W.heap.size W w') := fun x W => code_any x W
  have HST : Hid (∀ W, Calls Tryz.prog 55 #[] W fun e w' => e = .returned (.agg stepsA) ∧ Below W.heap.size W w') := steps_any
  go_enter Tryz.func28, Tryz.ntmps28
  go_wp2_with fail
  go_at_call 53
  refine (HW.out).mono ?_
  rintro e w1 (⟨hn, rfl, hb1⟩ | ⟨ws, v, hs, hlen, rfl, ho, hb1⟩)
  · have HR := Lib.hid (ParsePost.err (parseP_none hn) hb1)
    clear hn hb1
    go_wp2_with fail
    refine bodyPost_ret (results_tmp2 rfl _ _ _) rfl ?_
    exact HR.out
  · obtain ⟨aw, cw, rfl, hrd⟩ := OwnK.rd ho
    obtain ⟨nw, hnw⟩ : ∃ n, ws.length = n := ⟨_, rfl⟩
    rw [hnw] at hrd hlen ⊢
    have HRD := Lib.hid hrd
    have HB1 := Lib.hid hb1
    have HWS := Lib.hid hs
    have HXL : Hid (∀ x ∈ ws, x.length ≤ 100000) := fun x hx => by have := wm_len hs x hx; simp at this; omega
    have HNW := Lib.hid hnw
    have hnl : nw ≤ 100000 := by omega
    clear hs hlen ho hb1 hrd hnw
    go_wp2_with fail
    go_loopw [6, 7, 8, 9, 10] (fun pv i _ _ _ WZ => ∃ (j : Nat) (out : List OpP), j ≤ nw ∧ i = .int .i64 (j : Nat) ∧ out.length ≤ j ∧ Hid (OwnO5 WZ w1.heap.size pv out) ∧ Hid (PAt ws j out) ∧ Hid (Below w1.heap.size w1 WZ)) (fun _ i _ _ _ _ => nw - (intOf i).toNat)
    case atStart => exact ⟨0, [], Nat.zero_le _, rfl, Nat.le_refl _, OwnO5.nil _ _, PAt.start ws, Below.refl _ _⟩
    case round =>
      obtain ⟨j, out, hj, rfl, hol, HO, HP, HBV⟩ := hrel
      have HB := Lib.hid (HB1.out.trans (HBV.out.mono HB1.out.size))
      obtain ⟨ap, cp, rfl, _⟩ := OwnO5.rd HO.out
      by_cases hlt : j < nw
      · obtain ⟨x, hx⟩ : ∃ x, ws[j]? = some x := ⟨_, List.getElem?_eq_getElem (by have := HNW.out; omega)⟩
        obtain ⟨bk, offk, rfl, ck0⟩ := (HRD.out.below HBV.out).at hx
        have HX := Lib.hid hx
        clear hx
        go_wp2_with fail
        go_at_call 54
        refine (HCD.out x _).mono ?_
        rintro e w2 ⟨rfl, hb2⟩
        have HB2 := Lib.hid (HB.out.trans (hb2.mono HB.out.size))
        have HBV2 := Lib.hid (HBV.out.trans (hb2.mono HBV.out.size))
        have HO2 := Lib.hid (own_new HO.out hb2)
        clear hb2 ck0
        rcases codeW_cases x with ⟨hc0, _⟩ | ⟨hc1, hc2, hcw⟩
        · have HR := Lib.hid (ParsePost.err (w := w) (w' := w2.alloc (.cells #[.int .i64 0, .string ⟨#[]⟩, .int .i64 0, .float .f64 0, .string ⟨#[]⟩] 59)) (parseP_bad HWS.out (HP.out.bad HX.out hc0) (by decide)) (HB2.out.alloc HB2.out.size _))
          rw [hc0]
          clear hc0
          go_wp2_with fail
          refine bodyPost_ret (results_tmp2 rfl _ _ _) rfl ?_
          exact HR.out
        · obtain ⟨cn, hcn⟩ : ∃ cn : Nat, codeW x = (cn : Int) := ⟨(codeW x).toNat, by omega⟩
          have HCN := Lib.hid hcn
          have HC1 := Lib.hid hc1
          have HC2 := Lib.hid hc2
          rw [hcn]
          have h1 : 1 ≤ cn := by omega
          have h2 : cn ≤ 15 := by omega
          have hix := steps_index cn (by omega)
          rw [stepsA_at cn h1 h2] at hix
          obtain ⟨wd, hwd⟩ : ∃ wd, wordC (cn : Int) = wd := ⟨_, rfl⟩
          obtain ⟨nm, hnm⟩ : ∃ nm, namesC (cn : Int) = nm := ⟨_, rfl⟩
          obtain ⟨tk, htk⟩ : ∃ tk, takeC (cn : Int) = tk := ⟨_, rfl⟩
          obtain ⟨gv, hgv⟩ : ∃ gv, giveC (cn : Int) = gv := ⟨_, rfl⟩
          rw [hwd, hnm, htk, hgv] at hix
          have HNM := Lib.hid hnm
          have hfd := step_field (.string (bs wd)) (.int .i64 nm) (.int .i64 tk) (.int .i64 gv) rfl rfl
          have hba : Below w2.heap.size w2 (w2.alloc (.cells #[.int .i64 (cn : Int), .string ⟨#[]⟩, .int .i64 0, .float .f64 0, .string ⟨#[]⟩] 59)) := (Below.refl _ _).alloc (Nat.le_refl _) _
          have hrow := heap_alloc_new w2 (.cells #[.int .i64 (cn : Int), .string ⟨#[]⟩, .int .i64 0, .float .f64 0, .string ⟨#[]⟩] 59)
          have hc0b : ((cn : Int) == 0) = false := by rw [beq_eq_false_iff_ne]; omega
          have HBA := Lib.hid hba
          have HRO := Lib.hid hrow
          clear hcn hc1 hc2 hwd hnm htk hgv hba hrow hcw
          go_wp2_with fail
          have hba := HBA.out
          have hrow := HRO.out
          clear HBA HRO
          obtain ⟨X, hX⟩ : ∃ X, w2.alloc (.cells #[.int .i64 (cn : Int), .string ⟨#[]⟩, .int .i64 0, .float .f64 0, .string ⟨#[]⟩] 59) = X := ⟨_, rfl⟩
          rw [hX] at hba hrow ⊢
          obtain ⟨q8, hq8⟩ : ∃ q, w2.heap.size = q := ⟨_, rfl⟩
          rw [hq8] at hrow ⊢
          have HQ8 : Hid (q8 < X.heap.size) := (Array.getElem?_eq_some_iff.1 hrow).1
          have HRW := Lib.hid hrow
          obtain ⟨x0, _, _, _, _⟩ := five_at hrow
          have HBX := Lib.hid (HB2.out.trans (hba.mono HB2.out.size))
          have HBVX := Lib.hid (HBV2.out.trans (hba.mono HBV2.out.size))
          have HOX := Lib.hid (own_new HO2.out hba)
          have HQW : Hid (w1.heap.size ≤ q8) := by show w1.heap.size ≤ q8; rw [← hq8]; exact HBV2.out.size
          have HOQ : Hid (∀ k, (Value.slice ap out.length cp).ownBlock = some k → k ≠ q8) := fun k hk e => by
            have := (World.ownsRow.lt HO2.out k hk).2
            rw [hq8, e] at this
            exact Nat.lt_irrefl _ this
          clear hX hq8 hba hrow HO2 HB2 HBV2 HB HBV HO
          refine wp_region_ht 5 (fun W => W.cell? ⟨q8, 0, none⟩ = some (.int .i64 (cn : Int))) (by kernel_rfl) (by kernel_rfl) ?_ (fun hHeld => ?_)
          · exact x0
          try simp only [Act.put, List.setIfInBounds_toArray, List.set_cons_zero, List.set_cons_succ]
          refine wpHT_takeD (i := 1) (d := 35) (v := ?_) (by kernel_rfl) rfl rfl (by decide) (by kernel_rfl) (by kernel_rfl) (fun _ _ _ h => h) (Or.inl ⟨by kernel_rfl, ?_⟩) (by assumption) ?_
          rotate_left
          · intro w hSw; (try dsimp only at hSw); go_simp; (try with_reducible rfl)
          try simp only [Act.put, List.setIfInBounds_toArray, List.set_cons_zero, List.set_cons_succ]
          refine wpHT_takeD (i := 2) (d := 36) (v := ?_) (by kernel_rfl) rfl rfl (by decide) (by kernel_rfl) (by kernel_rfl) (fun _ _ _ h => h) (Or.inl ⟨by kernel_rfl, ?_⟩) (by assumption) ?_
          rotate_left
          · intro w hSw; (try dsimp only at hSw); go_simp; (try with_reducible rfl)
          try simp only [Act.put, List.setIfInBounds_toArray, List.set_cons_zero, List.set_cons_succ]
          refine wpHT_one (i := 0) (by kernel_rfl) rfl (by decide) (fun K hK => ?_)
          go_simp
          go_at_call 55
          refine (HST.out _).mono ?_
          rintro e w3 ⟨rfl, hb3⟩
          have hb3 : Below X.heap.size X w3 := (Below.refl _ X).drew.trans hb3
          have y0 := keep1 x0 hb3
          have HB3 := Lib.hid (HBX.out.trans (hb3.mono HBX.out.size))
          have HBV3 := Lib.hid (HBVX.out.trans (hb3.mono HBVX.out.size))
          have HO3 := Lib.hid (own_new HOX.out hb3)
          have HR3 := Lib.hid ((hb3.block q8 HQ8.out).trans HRW.out)
          clear hb3
          refine hK.out _ _ ?_ (fun hHeld => ?_)
          · exact y0
          clear hK K
          try simp only [Act.put, List.setIfInBounds_toArray, List.set_cons_zero, List.set_cons_succ]
          refine wpHT_takeD (i := 3) (d := 37) (v := ?_) (by kernel_rfl) rfl rfl (by decide) (by kernel_rfl) (by kernel_rfl) (fun _ _ _ h => h) (Or.inl ⟨by kernel_rfl, ?_⟩) (by assumption) ?_
          rotate_left
          · intro w hSw; (try dsimp only at hSw); go_simp; (try with_reducible rfl)
          try simp only [Act.put, List.setIfInBounds_toArray, List.set_cons_zero, List.set_cons_succ]
          refine wpHT_takeD (i := 4) (d := 38) (v := ?_) (by kernel_rfl) rfl rfl (by decide) (by kernel_rfl) (by kernel_rfl) (fun _ _ _ h => h) (Or.inl ⟨by kernel_rfl, ?_⟩) (by assumption) ?_
          rotate_left
          · intro w hSw; (try dsimp only at hSw); go_simp; (try with_reducible rfl)
          try simp only [Act.put, List.setIfInBounds_toArray, List.set_cons_zero, List.set_cons_succ]
          refine wpHT_done (by kernel_rfl) ?_
          simp only [List.drop_succ_cons, List.drop_zero]
          clear hHeld x0
          by_cases hn0 : nm = 0
          · have HP2 := Lib.hid (HP.out.bare HX.out HC1.out HC2.out (by rw [HCN.out, HNM.out]; exact hn0))
            rw [HCN.out] at HP2
            subst hn0
            obtain ⟨y0, y1, y2, y3, y4⟩ := five_at HR3.out
            have HOA : Hid (World.ownsRow (w3.alloc (.cells #[.int .i64 (cn : Int), .string ⟨#[]⟩, .int .i64 0, .float .f64 0, .string ⟨#[]⟩] 59)) w1.heap.size 59 5 (.slice ap out.length cp) out.length (flatE opCells out)) := World.ownsRow.alloc HO3.out _
            have HLA : Hid (Rd (w3.alloc (.cells #[.int .i64 (cn : Int), .string ⟨#[]⟩, .int .i64 0, .float .f64 0, .string ⟨#[]⟩] 59)) (some ⟨w3.heap.size, 0, none⟩) 1 1 5 (opCells ⟨(cn : Int), [], Vl.nil⟩)) := Rd.lone w3 #[.int .i64 (cn : Int), .string ⟨#[]⟩, .int .i64 0, .float .f64 0, .string ⟨#[]⟩] 5 rfl 59
            go_wp2_with (at_builtin; refine wpList_app SOp rfl (.tmp 60) (.tmp 62) rfl w1.heap.size rfl HOA.out rfl HLA.out (by simp [opCells, Value.oneCell']) (by omega) (by unfold maxLen; omega) (by have := HBV3.out.size; simp; omega) ?_)
            intro v5 w5 hown5 hb5 _
            have HO5 := Lib.hid (own_snoc ⟨(cn : Int), [], Vl.nil⟩ rfl hown5)
            have HBV5 := Lib.hid ((HBV3.out.alloc HBV3.out.size _).trans hb5)
            clear hown5 hb5
            go_wp2_with fail
            go_roundw
            case rel => exact ⟨j + 1, _, by omega, by go_num, by simp; omega, HO5.out, HP2.out, HBV5.out⟩
            case measure => simp [intOf]; omega
          · have hn0b : (nm != 0) = true := by simp [hn0]
            by_cases hend : j + 1 = nw
            · have HR := Lib.hid (ParsePost.err (w := w) (w' := w3) (parseP_bad HWS.out (HP.out.short HX.out (by have := HC1.out; omega) (by rw [HCN.out, HNM.out]; exact hn0) (by rw [HNW.out]; exact hend.symm)) (by decide)) HB3.out)
              subst hend
              clear hn0
              go_wp2_with fail
              refine bodyPost_ret (results_tmp2 rfl _ _ _) rfl ?_
              exact HR.out
            · obtain ⟨y, hy⟩ : ∃ y, ws[j + 1]? = some y := ⟨_, List.getElem?_eq_getElem (by have := HNW.out; omega)⟩
              obtain ⟨bk2, offk2, hk2, ck2⟩ := (HRD.out.below HBV3.out).at hy
              cases hk2
              have HY := Lib.hid hy
              have HNA : Hid (∀ W, Calls Tryz.prog 56 #[.agg #[.int .i64 (cn : Int), .string ⟨#[]⟩, .int .i64 0, .float .f64 0, .string ⟨#[]⟩], .int .i64 nm, .string (bs y)] W (NamePost W (cn : Int) y)) := fun W => by
                rw [← HNM.out]
                exact name_any (cn : Int) y (HXL.out y (List.mem_of_getElem? hy)) (by rw [HNM.out]; exact hn0) W
              obtain ⟨y0, y1, y2, y3, y4⟩ := five_at HR3.out
              have dne : decide (j + 1 = nw) = false := by simpa using hend
              have HN0 := Lib.hid hn0
              clear hy hn0
              have HL3 : Hid (q8 < w3.heap.size) := (Array.getElem?_eq_some_iff.1 HR3.out).1
              obtain ⟨er, her⟩ : ∃ er, (nameP (cn : Int) y).1 = er := ⟨_, rfl⟩
              obtain ⟨o, ho⟩ : ∃ o, (nameP (cn : Int) y).2 = o := ⟨_, rfl⟩
              unfold NamePost opV at HNA
              rw [her, ho] at HNA
              have HER := Lib.hid her
              have HOE := Lib.hid ho
              clear her ho
              go_wp2_with fail
              go_region_with (go_at_call 56; refine (HNA.out _).mono ?_; rintro e w5 ⟨rfl, hb5⟩; have hb5 := (Below.refl _ w3).drew.trans hb5; have hr5 := (hb5.block q8 HL3.out).trans HR3.out; obtain ⟨u0, u1, u2, u3, u4, p0, r0, p1, r1, p2, r2, p3, r3, p4, r4⟩ := st5 (there_row hr5 rfl) (.int .i64 o.c) (.string (bs o.key)) (.int .i64 o.v.k) (.float .f64 (fb o.v.x)); have HR5 := Lib.hid (set5_row hr5 (.int .i64 o.c) (.string (bs o.key)) (.int .i64 o.v.k) (.float .f64 (fb o.v.x)) (.string (bs o.v.s))); have HBV5 := Lib.hid (set5_below (HBV3.out.trans (hb5.mono HBV3.out.size)) HQW.out (.int .i64 o.c) (.string (bs o.key)) (.int .i64 o.v.k) (.float .f64 (fb o.v.x)) (.string (bs o.v.s))); have HO5 := Lib.hid (own_set5 (own_new HO3.out hb5) HOQ.out (.int .i64 o.c) (.string (bs o.key)) (.int .i64 o.v.k) (.float .f64 (fb o.v.x)) (.string (bs o.v.s))); clear hr5 hb5)
              all_goals
                unfold set5 at HR5 HBV5 HO5
                clear p0 p1 p2 p3 p4 r0 r1 r2 r3 r4 y0 y1 y2 y3 y4
                obtain ⟨Z, hZ⟩ : ∃ Z, ((((w5.setCell ⟨q8, 0, none⟩ (.int .i64 o.c)).setCell ⟨q8, 1, none⟩ (.string (bs o.key))).setCell ⟨q8, 2, none⟩ (.int .i64 o.v.k)).setCell ⟨q8, 3, none⟩ (.float .f64 (fb o.v.x))).setCell ⟨q8, 4, none⟩ (.string (bs o.v.s)) = Z := ⟨_, rfl⟩
                rw [hZ] at HR5 HBV5 HO5
                by_cases he0 : er = 0
                · have HP2 := Lib.hid (HP.out.name HX.out HY.out HC1.out HC2.out (by rw [HCN.out, HNM.out]; exact HN0.out) (by rw [HCN.out, HER.out]; exact he0))
                  rw [HCN.out, HOE.out] at HP2
                  subst he0
                  obtain ⟨y0, y1, y2, y3, y4⟩ := five_at HR5.out
                  have HOA : Hid (World.ownsRow (Z.alloc (.cells #[.int .i64 o.c, .string (bs o.key), .int .i64 o.v.k, .float .f64 (fb o.v.x), .string (bs o.v.s)] 59)) w1.heap.size 59 5 (.slice ap out.length cp) out.length (flatE opCells out)) := World.ownsRow.alloc HO5.out _
                  have HLA : Hid (Rd (Z.alloc (.cells #[.int .i64 o.c, .string (bs o.key), .int .i64 o.v.k, .float .f64 (fb o.v.x), .string (bs o.v.s)] 59)) (some ⟨Z.heap.size, 0, none⟩) 1 1 5 (opCells o)) := Rd.lone Z #[.int .i64 o.c, .string (bs o.key), .int .i64 o.v.k, .float .f64 (fb o.v.x), .string (bs o.v.s)] 5 rfl 59
                  go_wp2_with (at_builtin; refine wpList_app SOp rfl (.tmp 60) (.tmp 62) rfl w1.heap.size rfl HOA.out rfl HLA.out (by simp [opCells, Value.oneCell']) (by omega) (by unfold maxLen; omega) (by have := HBV5.out.size; simp; omega) ?_)
                  intro v6 w6 hown6 hb6 _
                  have HO6 := Lib.hid (own_snoc o rfl hown6)
                  have HBV6 := Lib.hid ((HBV5.out.alloc HBV5.out.size _).trans hb6)
                  clear hown6 hb6 hZ
                  go_wp2_with fail
                  go_roundw
                  case rel => exact ⟨j + 2, _, by omega, by go_num, by simp; omega, HO6.out, HP2.out, HBV6.out⟩
                  case measure => simp [intOf]; omega
                · have HR := Lib.hid (ParsePost.err (w := w) (w' := Z) (parseP_bad HWS.out (HP.out.fail HX.out HY.out (by have := HC1.out; omega) (by rw [HCN.out, HNM.out]; exact HN0.out) (by rw [HCN.out, HER.out]; exact he0)) (by rw [HCN.out, HER.out]; exact he0)) (HB1.out.trans (HBV5.out.mono HB1.out.size)))
                  rw [HCN.out, HER.out] at HR
                  have he0b : (er != 0) = true := by simp [he0]
                  clear he0
                  go_wp2_with fail
                  refine bodyPost_ret (results_tmp2 rfl _ _ _) rfl ?_
                  exact HR.out
      · obtain rfl : nw = j := by omega
        have hpg : parseGo ws = (0, out) := by
          have := HP.out
          rw [← HNW.out] at this
          exact this.last
        have hpp := parseP_chk HWS.out hpg
        have HCK := Lib.hid (check_all _ _ _ out wr (by
          obtain ⟨a9, c9, h9, hr9⟩ := OwnO5.rd HO.out
          injection h9 with i1 i2 i3
          subst i1 i3
          exact ⟨hr9, HP.out.2⟩))
        obtain ⟨ck, hck⟩ : ∃ ck, checkP out = ck := ⟨_, rfl⟩
        rw [hck] at HCK hpp
        by_cases h0 : ck = 0
        · subst h0
          rw [if_neg (by simp)] at hpp
          have HPP := Lib.hid hpp
          clear hck hpp hpg
          go_wp2_with fail
          go_at_call 16
          refine HCK.out.mono ?_
          rintro e w5 ⟨rfl, hb5⟩
          have HFIN : Hid (ParsePost w l (.returned (.tuple #[.slice ap out.length cp, .int .i64 0])) w5) := ⟨_, by rw [HPP.out], by rw [HPP.out]; exact ownsRow_mono (own_new HO.out hb5) HB1.out.size, HB.out.trans (hb5.mono HB.out.size)⟩
          clear hb5
          go_wp2_with fail
          refine bodyPost_ret (results_tmp2 rfl _ _ _) rfl ?_
          exact HFIN.out
        · rw [if_pos h0] at hpp
          have HPP := Lib.hid hpp
          have h0b : (ck != 0) = true := by simp [h0]
          clear hck hpp hpg h0
          go_wp2_with fail
          go_at_call 16
          refine HCK.out.mono ?_
          rintro e w5 ⟨rfl, hb5⟩
          have HFIN := Lib.hid (ParsePost.err (w := w) (w' := w5) HPP.out (HB.out.trans (hb5.mono HB.out.size)))
          clear hb5
          go_wp2_with fail
          refine bodyPost_ret (results_tmp2 rfl _ _ _) rfl ?_
          exact HFIN.out
end Go.Proofs.YtalpbphfmelhhaaGreatDoor

/-! ### The document's reading of a program (raceref9.word, Parse). Written by a program (h37gen.py). -/
namespace Go.Proofs.YtalpbphfmelhhaaGreatDoor
open Go.RowKit Go.Maps Go.Sort
set_option maxRecDepth 100000
attribute [local go_sem] bs_size bs_get bs_toList frombits tobits run_store_float
end Go.Proofs.YtalpbphfmelhhaaGreatDoor
