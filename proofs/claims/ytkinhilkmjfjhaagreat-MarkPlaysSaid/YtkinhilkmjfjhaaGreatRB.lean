/-
  The walk of MarkPlays.
  The operations of MarkPlays, as they are handed in.
-/
import Derived.Test.YtkinhilkmjfjhaaGreatRA
import Derived.Test.YtkinhilkmjfjhaaGreatE42
import Derived.Test.YtkinhilkmjfjhaaGreatE20
/-! ### The walk of MarkPlays. -/
namespace Go.Proofs.YtkinhilkmjfjhaaGreat
open Go.RowKit Go.Maps Go.Sort
set_option maxRecDepth 100000
attribute [local go_sem] bs_size bs_toList

/-- Both disks beside the present operation's block. -/
structure PAt (wb : World) (d c : Nat) (B : Int) (S S' : Nat → Prop) (sd sc : DS) (pb : Nat) (cs : Array Value) (W : World) : Prop where
  ls : LS B wb W d S sd
  rf : Rf W c S' sc
  hw : ∀ q, S' q → wb.heap.size ≤ q
  hx : ∀ q, S q → ¬ S' q
  row : W.heap[pb]? = some (.cells cs 41 (0, 0))
  ns : ¬ S pb
  ns' : ¬ S' pb
section
variable {wb : World} {d c : Nat} {B B' : Int} {S S' : Nat → Prop} {sd sc s1 : DS} {pb : Nat} {cs : Array Value} {W W' : World}
theorem PAt.lt (h : PAt wb d c B S S' sd sc pb cs W) : pb < W.heap.size := (Array.getElem?_eq_some_iff.1 h.row).1
theorem PAt.cell (h : PAt wb d c B S S' sd sc pb cs W) (j : Nat) : W.cell? ⟨pb, j, none⟩ = cs[j]? := cell_of_row _ _ j _ _ _ h.row
theorem PAt.new (h : PAt wb d c B S S' sd sc pb cs W) (hb : Below W.heap.size W W') : PAt wb d c B S S' sd sc pb cs W' :=
  ⟨h.ls.new hb, h.rf.below hb, h.hw, h.hx, (hb.block pb h.lt).trans h.row, h.ns, h.ns'⟩
theorem PAt.prog (h : PAt wb d c B S S' sd sc pb cs W) (hB : B ≤ B') (k : Done B' W d S s1 W') : PAt wb d c B' (Sx S W W') S' s1 sc pb cs W' := by
  obtain ⟨k1, k2⟩ := (h.ls.mono hB).done k
  have hl := h.lt
  exact ⟨k1, h.rf.keep k2 (fun q hq hs => h.hx q hs hq), h.hw, fun q hq hs => hq.elim (fun e => h.hx q e hs) (fun e => by have := h.rf.lt q hs; omega), (k2.block pb hl h.ns).trans h.row, fun e => e.elim h.ns (fun e => by omega), h.ns'⟩
theorem PAt.refr (h : PAt wb d c B S S' sd sc pb cs W) (k1 : Rf W' c (Sx S' W W') s1) (k2 : Fr S' W W') : PAt wb d c B S (Sx S' W W') sd s1 pb cs W' := by
  have hl := h.lt
  exact ⟨h.ls.beside k2 h.hx h.hw, k1, fun q hq => hq.elim (h.hw q) (fun e => Nat.le_trans h.ls.2.2.size e.1), fun q hq hs => hs.elim (h.hx q hq) (fun e => by have := h.ls.1.lt q hq; omega), (k2.block pb hl h.ns').trans h.row, h.ns, fun e => e.elim h.ns' (fun e => by omega)⟩
end
set_option maxHeartbeats 16000000 in
theorem markPlays_walk (a : Option Addr) (n cap : Nat) (l : List PlV) (w : World) (h : RdPl w (fun b => b < w.heap.size) a n cap l) : Calls Tryz.prog 3 #[.slice a n cap] w (TrueEnd w) := by
  have H0 := Lib.hid h
  have HN := Lib.hid h.1
  have hn6 : n ≤ 9223372036854775807 := by obtain ⟨_, xs, hr, _⟩ := h; exact Nat.le_trans hr.1 hr.2.1
  clear h
  go_enter Tryz.func3, Tryz.ntmps3
  go_wp2_with fail
  go_at_call 4
  refine (mfirst_any w).mono ?_
  rintro e wa ⟨rfl, hb⟩
  have HBA := Lib.hid hb
  clear hb
  go_wp2_with fail
  go_at_call 5
  have hrl : RdPl wa (fun b => b < wa.heap.size) a n cap l := by
    obtain ⟨h1, xs, h2, h3⟩ := H0.out
    refine ⟨h1, xs, h2.below HBA.out, fun i p hp => ?_⟩
    obtain ⟨at_, c, ab, cb, ap, cp, q1, q2, q3, q4⟩ := h3 i p hp
    have hlt : ∀ b, b < w.heap.size → b < wa.heap.size := fun b hb => Nat.lt_of_lt_of_le hb HBA.out.size
    have q5 := q4.below HBA.out
    exact ⟨at_, c, ab, cb, ap, cp, q1, q2.below HBA.out, fun h0 b hb => hlt b (q3 h0 b hb), q5.1, q5.2.1, q5.2.2.1, fun h0 b hb => hlt b (q5.2.2.2.1 h0 b hb), fun h0 b hb => hlt b (q5.2.2.2.2 h0 b hb)⟩
  refine (plfew_any a n cap l wa hrl).mono ?_
  rintro e wb ⟨b, rfl, hfew, hb⟩
  have HBB := Lib.hid (next_below HBA.out hb)
  have HFEW := Lib.hid hfew
  clear hb hfew hrl HBA
  cases b with
  | false =>
    clear HFEW
    go_wp2_with fail
    go_at_call 4
    refine (mfirst_any wb).mono ?_
    rintro e wc ⟨rfl, hb⟩
    have HBC := Lib.hid (next_below HBB.out hb)
    clear hb
    go_wp2_with fail
    go_ret
    exact TrueEnd.mk HBC.out
  | true =>
  have HF := Lib.hid (HFEW.out rfl)
  clear HFEW
  go_wp2_with fail
  go_at_call 6
  refine (new_any 0 (Int.le_refl _) wb).mono ?_
  rintro e w1 ⟨d, rfl, hb1, hd1⟩
  have HL := Lib.hid (LS.start hb1 hd1)
  have hst := Rf.start w1
  have hbw : Below w1.heap.size w1 (w1.alloc (.cells #[.slice none 0 0, .bool false, .int .i64 0, .int .i64 0] 30)) := (Below.refl _ _).alloc (Nat.le_refl _) _
  obtain ⟨W, hW⟩ : ∃ W, w1.alloc (.cells #[.slice none 0 0, .bool false, .int .i64 0, .int .i64 0] 30) = W := ⟨_, rfl⟩
  rw [hW] at hst hbw
  have HL2 := Lib.hid (HL.out.new hbw)
  have HR2 := Lib.hid hst
  obtain ⟨c, hc⟩ : ∃ c, w1.heap.size = c := ⟨_, rfl⟩
  rw [hc] at HR2
  have HW1 : Hid (∀ q, q = c → wb.heap.size ≤ q) := fun q e => by rw [e, ← hc]; exact HL.out.2.2.size
  have HDJ : Hid (∀ q, wb.heap.size ≤ q ∧ q < w1.heap.size → ¬ q = c) := fun q hq => by omega
  have hn3 : n ≤ 100 := by have := HF.out.1; have := HN.out; omega
  clear hst hbw HL hb1 hd1
  go_wp2_with fail
  clear hW hc
  go_loopw [5, 6, 7, 8, 9, 10, 11] (fun i _ _ _ _ _ _ wr => ∃ (k : Nat) (S S' : Nat → Prop) (s : DS), k ≤ n ∧ i = .int .i64 (k : Nat) ∧ Hid (LS ((5 * k : Nat) : Int) wb wr d S s) ∧ Hid (Rf wr c S' s) ∧ Hid (∀ q, S' q → wb.heap.size ≤ q) ∧ Hid (∀ q, S q → ¬ S' q)) (fun i _ _ _ _ _ _ _ => n - (intOf i).toNat)
  case atStart => exact ⟨0, _, _, newS, Nat.zero_le _, rfl, HL2.out, HR2.out, HW1.out, HDJ.out⟩
  case round =>
    clear HL2 HR2 HDJ HW1
    obtain ⟨k, S, S', s, hk, rfl, HA, HB, HW, HX⟩ := hrel
    by_cases hlt : k < n
    case neg =>
      obtain rfl : k = n := by omega
      go_wp2_with fail
      go_at_call 4
      refine (mfirst_any wr).mono ?_
      rintro e wc ⟨rfl, hb⟩
      have HBC := Lib.hid (next_below (next_below HBB.out HA.out.2.2) hb)
      clear hb
      go_wp2_with fail
      go_ret
      exact TrueEnd.mk HBC.out
    case pos =>
    obtain ⟨o, ho⟩ : ∃ o, l[k]? = some o := ⟨_, List.getElem?_eq_getElem (by have := HN.out; omega)⟩
    have hbl := (HF.out.2.2.each (List.mem_map_of_mem (f := PlV.d) (List.mem_of_getElem? ho))).2.2
    have h200 := HF.out.2.1 o (List.mem_of_getElem? ho)
    have hbr := next_below HBB.out HA.out.2.2
    obtain ⟨b, off, at_, ct, ab, cb, ap, cp, rfl, hbw, hrd, hcl⟩ := H0.out.at (Below.refl _ w) ho
    have HRT : Hid (∀ Y, Below wb.heap.size wb Y → RdT Y at_ ct o.m.ts) := fun Y hY => hrd.1.below (next_below HBB.out hY)
    have HOD : Hid (∀ Y, Below wb.heap.size wb Y → OpRd Y (fun b => b < w.heap.size) o.d ab cb ap cp) := fun Y hY => hrd.2.2.below (next_below HBB.out hY)
    have HTB : Hid (∀ S : Nat → Prop, (∀ j, j < wb.heap.size → ¬ S j) → BlkIn at_ o.m.ts.length fun b => ¬ S b) := fun S hS h0 b hb => hS b (Nat.lt_of_lt_of_le (hrd.2.1 h0 b hb) HBB.out.size)
    have HOT : Hid (∀ S : Nat → Prop, (∀ j, j < wb.heap.size → ¬ S j) → ∀ b, b < w.heap.size → ¬ S b) := fun S hS b hb => hS b (Nat.lt_of_lt_of_le hb HBB.out.size)
    have q0 := cell_below (hcl 0 _ rfl) hbr
    have q1 := cell_below (hcl 1 _ rfl) hbr
    have q2 := cell_below (hcl 2 _ rfl) hbr
    have q3 := cell_below (hcl 3 _ rfl) hbr
    have q4 := cell_below (hcl 4 _ rfl) hbr
    have q5 := cell_below (hcl 5 _ rfl) hbr
    have q6 := cell_below (hcl 6 _ rfl) hbr
    have q7 := cell_below (hcl 7 _ rfl) hbr
    have q8 := cell_below (hcl 8 _ rfl) hbr
    have q9 := cell_below (hcl 9 _ rfl) hbr
    have q10 := cell_below (hcl 10 _ rfl) hbr
    simp only [Nat.add_zero] at q0
    have hrow := heap_alloc_new wr (.cells (plCells o at_ ct ab cb ap cp).toArray 41)
    have hba : Below wr.heap.size wr (wr.alloc (.cells (plCells o at_ ct ab cb ap cp).toArray 41)) := (Below.refl _ _).alloc (Nat.le_refl _) _
    obtain ⟨X, hX⟩ : ∃ X, wr.alloc (.cells (plCells o at_ ct ab cb ap cp).toArray 41) = X := ⟨_, rfl⟩
    rw [hX] at hrow hba
    have hX' : wr.alloc (.cells #[.int .i64 o.k, .int .i64 o.m.wall, .int .i64 o.m.logi, .int .i64 o.m.node, .slice at_ o.m.ts.length ct, .int .i64 o.d.k, .int .i64 o.d.n, .string (bs o.d.nm), .string (bs o.d.tn), .slice ab o.d.b.length cb, .slice ap o.d.p.length cp] 41) = X := hX
    obtain ⟨pb, hpb⟩ : ∃ pb, wr.heap.size = pb := ⟨_, rfl⟩
    have hpa : PAt wb d c ((5 * k : Nat) : Int) S S' s s pb (plCells o at_ ct ab cb ap cp).toArray X :=
      ⟨HA.out.new hba, HB.out.below hba, HW.out, HX.out, by rw [← hpb]; exact hrow, fun e => by have := HA.out.1.lt _ e; omega, fun e => by have := HB.out.lt _ e; omega⟩
    have HP := Lib.hid hpa
    have HBL : Hid (o.d.b.length ≤ 4194304) := by show _ ≤ _; omega
    have H200 := Lib.hid h200
    have p0 : X.cell? ⟨pb, 0, none⟩ = some (.int .i64 o.k) := hpa.cell 0
    clear hrd hcl hrow hba hX hpa ho hbl h200 HA HB HW HX hbr
    by_cases hk1 : o.k = 1
    · rw [hk1] at p0 q0 hX'
      clear hk1
      go_wp2_with fail
      clear q0 q1 q2 q3 q4 q5 q6 q7 q8 q9 q10 p0 hX' hpb
      have HPd := Lib.hid (HP.out.new (Below.refl _ X).drew)
      refine wp_region_ht 20 (fun W => W.cell? ⟨pb, 1, none⟩ = some (.int .i64 o.m.wall) ∧ W.cell? ⟨pb, 2, none⟩ = some (.int .i64 o.m.logi) ∧ W.cell? ⟨pb, 3, none⟩ = some (.int .i64 o.m.node) ∧ W.cell? ⟨pb, 4, none⟩ = some (.slice at_ o.m.ts.length ct)) (by kernel_rfl) (by kernel_rfl) ?_ (fun hHeld => ?_)
      · exact ⟨HPd.out.cell 1, HPd.out.cell 2, HPd.out.cell 3, HPd.out.cell 4⟩
      try simp only [Act.put, List.setIfInBounds_toArray, List.set_cons_zero, List.set_cons_succ]
      refine wpHT_takeD (i := 0) (d := 46) (v := ?_) (by kernel_rfl) rfl rfl (by decide) (by kernel_rfl) (by kernel_rfl) (fun _ _ _ h => h) (Or.inl ⟨by kernel_rfl, ?_⟩) (by assumption) ?_
      rotate_left
      · intro w hSw; (try dsimp only at hSw); go_simp; (try with_reducible rfl)
      try simp only [Act.put, List.setIfInBounds_toArray, List.set_cons_zero, List.set_cons_succ]
      refine wpHT_takeD (i := 1) (d := 47) (v := ?_) (by kernel_rfl) rfl rfl (by decide) (by kernel_rfl) (by kernel_rfl) (fun _ _ _ h => h) (Or.inl ⟨by kernel_rfl, ?_⟩) (by assumption) ?_
      rotate_left
      · intro w hSw; (try dsimp only at hSw); go_simp; (try with_reducible rfl)
      try simp only [Act.put, List.setIfInBounds_toArray, List.set_cons_zero, List.set_cons_succ]
      refine wpHT_takeD (i := 2) (d := 48) (v := ?_) (by kernel_rfl) rfl rfl (by decide) (by kernel_rfl) (by kernel_rfl) (fun _ _ _ h => h) (Or.inl ⟨by kernel_rfl, ?_⟩) (by assumption) ?_
      rotate_left
      · intro w hSw; (try dsimp only at hSw); go_simp; (try with_reducible rfl)
      try simp only [Act.put, List.setIfInBounds_toArray, List.set_cons_zero, List.set_cons_succ]
      refine wpHT_takeD (i := 4) (d := 50) (v := ?_) (by kernel_rfl) rfl rfl (by decide) (by kernel_rfl) (by kernel_rfl) (fun _ _ _ h => h) (Or.inl ⟨by kernel_rfl, ?_⟩) (by assumption) ?_
      rotate_left
      · intro w hSw; (try dsimp only at hSw); go_simp; (try with_reducible rfl)
      try simp only [Act.put, List.setIfInBounds_toArray, List.set_cons_zero, List.set_cons_succ]
      refine wpHT_takeD (i := 5) (d := 51) (v := ?_) (by kernel_rfl) rfl rfl (by decide) (by kernel_rfl) (by kernel_rfl) (fun _ _ _ h => h) (Or.inl ⟨by kernel_rfl, ?_⟩) (by assumption) ?_
      rotate_left
      · intro w hSw; (try dsimp only at hSw); go_simp; (try with_reducible rfl)
      try simp only [Act.put, List.setIfInBounds_toArray, List.set_cons_zero, List.set_cons_succ]
      refine wpHT_takeD (i := 6) (d := 52) (v := ?_) (by kernel_rfl) rfl rfl (by decide) (by kernel_rfl) (by kernel_rfl) (fun _ _ _ h => h) (Or.inl ⟨by kernel_rfl, ?_⟩) (by assumption) ?_
      rotate_left
      · intro w hSw; (try dsimp only at hSw); go_simp; (try with_reducible rfl)
      try simp only [Act.put, List.setIfInBounds_toArray, List.set_cons_zero, List.set_cons_succ]
      refine wpHT_one (i := 3) (by kernel_rfl) rfl (by decide) (fun K hK => ?_)
      go_simp
      go_at_call 7
      refine (save_any d S _ (by omega) s o.m at_ ct _ HPd.out.ls.1 (HRT.out _ HPd.out.ls.2.2) (HTB.out S HPd.out.ls.old)).mono ?_
      rintro e Y1 ⟨rfl, hd⟩
      have HP1 := Lib.hid (HPd.out.prog (by omega) hd)
      clear hd
      refine hK.out _ _ ?_ (fun hHeld => ?_)
      · exact ⟨HP1.out.cell 1, HP1.out.cell 2, HP1.out.cell 3, HP1.out.cell 4⟩
      clear hK K
      try simp only [Act.put, List.setIfInBounds_toArray, List.set_cons_zero, List.set_cons_succ]
      refine wpHT_one (i := 7) (by kernel_rfl) rfl (by decide) (fun K hK => ?_)
      go_simp
      go_at_call 9
      refine (mkRef_any o.m at_ ct _ (HRT.out _ HP1.out.ls.2.2) H200.out).mono ?_
      rintro e Y2 ⟨ux, rfl, hox, hyx⟩
      have hbkx : ∀ q, ux.ownBlock = some q → Y1.heap.size ≤ q := fun q hq => (World.ownsRow.lt hox q hq).1
      obtain ⟨ax, cx, rfl, hrx⟩ := hox.rd
      have HRx := Lib.hid hrx
      have HBKx : Hid (∀ q, blk ax = some q → Y1.heap.size ≤ q) := fun q hq => hbkx q (by rw [ownBlock_sl]; exact hq)
      have HP2 := Lib.hid (HP1.out.new hyx)
      clear hox hyx hrx hbkx
      refine hK.out _ _ ?_ (fun hHeld => ?_)
      · exact ⟨HP2.out.cell 1, HP2.out.cell 2, HP2.out.cell 3, HP2.out.cell 4⟩
      clear hK K
      try simp only [Act.put, List.setIfInBounds_toArray, List.set_cons_zero, List.set_cons_succ]
      refine wpHT_one (i := 8) (by kernel_rfl) rfl (by decide) (fun K hK => ?_)
      go_simp
      go_at_call 8
      refine (rsave_any c S' ((5 * k : Nat) : Int) (by omega) s HPd.out.ls.1.ok o.m ax cx Y2 HP2.out.rf HRx.out (fun _ q hq e => by have h1 := HBKx.out q hq; have h2 := HP1.out.rf.lt q e; omega)).mono ?_
      rintro e Y3 ⟨rfl, k1, k2⟩
      have HP3 := Lib.hid (HP2.out.refr k1 k2)
      clear k1 k2
      refine hK.out _ _ ?_ (fun hHeld => ?_)
      · exact ⟨HP3.out.cell 1, HP3.out.cell 2, HP3.out.cell 3, HP3.out.cell 4⟩
      clear hK K
      try simp only [Act.put, List.setIfInBounds_toArray, List.set_cons_zero, List.set_cons_succ]
      refine wpHT_takeD (i := 9) (d := 55) (v := ?_) (by kernel_rfl) rfl rfl (by decide) (by kernel_rfl) (by kernel_rfl) (fun _ _ _ h => h) (Or.inl ⟨by kernel_rfl, ?_⟩) (by assumption) ?_
      rotate_left
      · intro w hSw; (try dsimp only at hSw); go_simp; (try with_reducible rfl)
      try simp only [Act.put, List.setIfInBounds_toArray, List.set_cons_zero, List.set_cons_succ]
      refine wpHT_takeD (i := 10) (d := 56) (v := ?_) (by kernel_rfl) rfl rfl (by decide) (by kernel_rfl) (by kernel_rfl) (fun _ _ _ h => h) (Or.inl ⟨by kernel_rfl, ?_⟩) (by assumption) ?_
      rotate_left
      · intro w hSw; (try dsimp only at hSw); go_simp; (try with_reducible rfl)
      try simp only [Act.put, List.setIfInBounds_toArray, List.set_cons_zero, List.set_cons_succ]
      refine wpHT_takeD (i := 11) (d := 57) (v := ?_) (by kernel_rfl) rfl rfl (by decide) (by kernel_rfl) (by kernel_rfl) (fun _ _ _ h => h) (Or.inl ⟨by kernel_rfl, ?_⟩) (by assumption) ?_
      rotate_left
      · intro w hSw; (try dsimp only at hSw); go_simp; (try with_reducible rfl)
      try simp only [Act.put, List.setIfInBounds_toArray, List.set_cons_zero, List.set_cons_succ]
      refine wpHT_takeD (i := 12) (d := 58) (v := ?_) (by kernel_rfl) rfl rfl (by decide) (by kernel_rfl) (by kernel_rfl) (fun _ _ _ h => h) (Or.inl ⟨by kernel_rfl, ?_⟩) (by assumption) ?_
      rotate_left
      · intro w hSw; (try dsimp only at hSw); go_simp; (try with_reducible rfl)
      try simp only [Act.put, List.setIfInBounds_toArray, List.set_cons_zero, List.set_cons_succ]
      refine wpHT_takeD (i := 14) (d := 60) (v := ?_) (by kernel_rfl) rfl rfl (by decide) (by kernel_rfl) (by kernel_rfl) (fun _ _ _ h => h) (Or.inl ⟨by kernel_rfl, ?_⟩) (by assumption) ?_
      rotate_left
      · intro w hSw; (try dsimp only at hSw); go_simp; (try with_reducible rfl)
      try simp only [Act.put, List.setIfInBounds_toArray, List.set_cons_zero, List.set_cons_succ]
      refine wpHT_takeD (i := 15) (d := 61) (v := ?_) (by kernel_rfl) rfl rfl (by decide) (by kernel_rfl) (by kernel_rfl) (fun _ _ _ h => h) (Or.inl ⟨by kernel_rfl, ?_⟩) (by assumption) ?_
      rotate_left
      · intro w hSw; (try dsimp only at hSw); go_simp; (try with_reducible rfl)
      try simp only [Act.put, List.setIfInBounds_toArray, List.set_cons_zero, List.set_cons_succ]
      refine wpHT_one (i := 13) (by kernel_rfl) rfl (by decide) (fun K hK => ?_)
      go_simp
      go_at_call 10
      refine (may_any o.m at_ ct _ (HRT.out _ HP3.out.ls.2.2)).mono ?_
      rintro e Y4 ⟨rfl, hy⟩
      have HP4 := Lib.hid (HP3.out.new hy)
      clear hy
      refine hK.out _ _ ?_ (fun hHeld => ?_)
      · exact ⟨HP4.out.cell 1, HP4.out.cell 2, HP4.out.cell 3, HP4.out.cell 4⟩
      clear hK K
      try simp only [Act.put, List.setIfInBounds_toArray, List.set_cons_zero, List.set_cons_succ]
      refine wpHT_one (i := 16) (by kernel_rfl) rfl (by decide) (fun K hK => ?_)
      go_simp
      go_at_call 9
      refine (mkRef_any o.m at_ ct _ (HRT.out _ HP4.out.ls.2.2) H200.out).mono ?_
      rintro e Y5 ⟨uz, rfl, hoz, hyz⟩
      have hbkz : ∀ q, uz.ownBlock = some q → Y4.heap.size ≤ q := fun q hq => (World.ownsRow.lt hoz q hq).1
      obtain ⟨az, cz, rfl, hrz⟩ := hoz.rd
      have HRz := Lib.hid hrz
      have HBKz : Hid (∀ q, blk az = some q → Y4.heap.size ≤ q) := fun q hq => hbkz q (by rw [ownBlock_sl]; exact hq)
      have HP5 := Lib.hid (HP4.out.new hyz)
      clear hoz hyz hrz hbkz
      refine hK.out _ _ ?_ (fun hHeld => ?_)
      · exact ⟨HP5.out.cell 1, HP5.out.cell 2, HP5.out.cell 3, HP5.out.cell 4⟩
      clear hK K
      try simp only [Act.put, List.setIfInBounds_toArray, List.set_cons_zero, List.set_cons_succ]
      refine wpHT_one (i := 17) (by kernel_rfl) rfl (by decide) (fun K hK => ?_)
      go_simp
      go_at_call 11
      refine (rmay_any o.m az cz _ HRz.out).mono ?_
      rintro e Y6 ⟨rfl, hy⟩
      have HP6 := Lib.hid (HP5.out.new hy)
      clear hy
      refine hK.out _ _ ?_ (fun hHeld => ?_)
      · exact ⟨HP6.out.cell 1, HP6.out.cell 2, HP6.out.cell 3, HP6.out.cell 4⟩
      clear hK K
      try simp only [Act.put, List.setIfInBounds_toArray, List.set_cons_zero, List.set_cons_succ]
      refine wpHT_takeD (i := 18) (d := 64) (v := ?_) (by kernel_rfl) rfl rfl (by decide) (by kernel_rfl) (by kernel_rfl) (fun _ _ _ h => h) (Or.inl ⟨by kernel_rfl, ?_⟩) (by assumption) ?_
      rotate_left
      · intro w hSw; (try dsimp only at hSw); go_simp; (try with_reducible rfl)
      try simp only [Act.put, List.setIfInBounds_toArray, List.set_cons_zero, List.set_cons_succ]
      refine wpHT_takeD (i := 19) (d := 65) (v := ?_) (by kernel_rfl) rfl rfl (by decide) (by kernel_rfl) (by kernel_rfl) (fun _ _ _ h => h) (Or.inl ⟨by kernel_rfl, ?_⟩) (by assumption) ?_
      rotate_left
      · intro w hSw; (try dsimp only at hSw); go_simp; (try with_reducible rfl)
      try simp only [Act.put, List.setIfInBounds_toArray, List.set_cons_zero, List.set_cons_succ]
      refine wpHT_done (by kernel_rfl) ?_
      simp only [List.drop_succ_cons, List.drop_zero]
      clear hHeld
      obtain ⟨s1, hs1⟩ : ∃ s1, (saveS s o.m).1 = s1 := ⟨_, rfl⟩
      rw [hs1] at HP6
      clear hs1
      go_wp2_with fail
      have HJ := Lib.hid HP6.out
      go_at_call 14
      refine (mload_any d _ _ s1 Y6 HJ.out.ls.1).mono ?_
      rintro e Z1 ⟨v1, rfl, hq1, hz1⟩
      obtain ⟨M, hM⟩ : ∃ M, (loadM s1).1 = M := ⟨_, rfl⟩
      obtain ⟨er, hEr⟩ : ∃ er, (loadM s1).2 = er := ⟨_, rfl⟩
      rw [hM, hEr]
      rw [hM] at hq1
      obtain ⟨a1, c1, rfl, hr1⟩ := hq1.rd
      have HJ1 := Lib.hid (HJ.out.new hz1)
      have HR1 := Lib.hid hr1
      have HM := Lib.hid hM
      have HER := Lib.hid hEr
      clear hq1 hr1 hz1 hM hEr
      go_wp2_with fail
      go_at_call 15
      have hba2 : Below Z1.heap.size Z1 (Z1.alloc (.cells #[.int .i64 M.wall, .int .i64 M.logi, .int .i64 M.node, .slice a1 M.ts.length c1] 35)) := (Below.refl _ _).alloc (Nat.le_refl _) _
      have hrow2 := heap_alloc_new Z1 (.cells #[.int .i64 M.wall, .int .i64 M.logi, .int .i64 M.node, .slice a1 M.ts.length c1] 35)
      obtain ⟨Z2, hZ2⟩ : ∃ Z2, Z1.alloc (.cells #[.int .i64 M.wall, .int .i64 M.logi, .int .i64 M.node, .slice a1 M.ts.length c1] 35) = Z2 := ⟨_, rfl⟩
      rw [hZ2] at hba2 hrow2 ⊢
      have HJ2 := Lib.hid (HJ1.out.new hba2)
      refine (rmload_any c _ s1 HJ2.out.ls.1.ok.len HJ2.out.ls.1.ok.tot Z2 HJ2.out.rf).mono ?_
      rintro e Z3 ⟨v3, rfl, hq3, hz3⟩
      rw [HM.out, HER.out]
      rw [HM.out] at hq3
      obtain ⟨a3, c3, rfl, hr3⟩ := hq3.rd
      have hrow3 := (hz3.block Z1.heap.size (Array.getElem?_eq_some_iff.1 hrow2).1).trans hrow2
      have hba4 : Below Z3.heap.size Z3 (Z3.alloc (.cells #[.int .i64 M.wall, .int .i64 M.logi, .int .i64 M.node, .slice a3 M.ts.length c3] 47)) := (Below.refl _ _).alloc (Nat.le_refl _) _
      have hrow4 := heap_alloc_new Z3 (.cells #[.int .i64 M.wall, .int .i64 M.logi, .int .i64 M.node, .slice a3 M.ts.length c3] 47)
      obtain ⟨Z4, hZ4⟩ : ∃ Z4, Z3.alloc (.cells #[.int .i64 M.wall, .int .i64 M.logi, .int .i64 M.node, .slice a3 M.ts.length c3] 47) = Z4 := ⟨_, rfl⟩
      rw [hZ4] at hba4 hrow4
      have hrow4' := (hba4.block Z1.heap.size (Array.getElem?_eq_some_iff.1 hrow3).1).trans hrow3
      have HJ4 := Lib.hid ((HJ2.out.new hz3).new hba4)
      have hq := msame_any M M a1 a3 c1 c3 Z4 (((HR1.out.below hba2).below hz3).below hba4) (hr3.below hba4)
      rw [sameB_refl] at hq
      have HQ := Lib.hid hq
      have m0 := cell_of_row _ _ 0 _ _ _ hrow4'
      have m1 := cell_of_row _ _ 1 _ _ _ hrow4'
      have m2 := cell_of_row _ _ 2 _ _ _ hrow4'
      have m3 := cell_of_row _ _ 3 _ _ _ hrow4'
      have r0 := cell_of_row _ _ 0 _ _ _ hrow4
      have r1 := cell_of_row _ _ 1 _ _ _ hrow4
      have r2 := cell_of_row _ _ 2 _ _ _ hrow4
      have r3 := cell_of_row _ _ 3 _ _ _ hrow4
      have hee : (er != er) = false := by simp
      clear hq3 hr3 hz3 hba2 hrow2 hZ2 hrow3 hba4 hrow4 hrow4' hq
      go_wp2_with fail
      clear hZ4
      go_at_call 16
      refine (HQ.out).mono ?_
      rintro e Z5 ⟨rfl, hz5⟩
      have HJ5 := Lib.hid (HJ4.out.new hz5)
      clear hz5 m0 m1 m2 m3 r0 r1 r2 r3 hee
      go_wp2_with fail
      go_at_call 17
      refine (same_any d _ _ c _ s1 Z5 HJ5.out.ls.1 HJ5.out.rf).mono ?_
      rintro e Z6 ⟨rfl, hz6⟩
      have HJ6 := Lib.hid (HJ5.out.new hz6)
      clear hz6
      go_wp2_with fail
      go_roundw
      case rel => exact ⟨k + 1, _, _, s1, by omega, by go_num, HJ6.out.ls.mono (by omega), HJ6.out.rf, HJ6.out.hw, HJ6.out.hx⟩
      case measure => simp [intOf]; omega
    by_cases hk2 : o.k = 2
    · rw [hk2] at p0 q0 hX'
      clear hk1 hk2
      go_wp2_with fail
      clear q0 q1 q2 q3 q4 q5 q6 q7 q8 q9 q10 p0 hX' hpb
      obtain ⟨s1, hs1⟩ : ∃ s1, s = s1 := ⟨_, rfl⟩
      rw [hs1] at HP
      clear hs1
      have HJ := Lib.hid HP.out
      go_at_call 14
      refine (mload_any d _ _ s1 X HJ.out.ls.1).mono ?_
      rintro e Z1 ⟨v1, rfl, hq1, hz1⟩
      obtain ⟨M, hM⟩ : ∃ M, (loadM s1).1 = M := ⟨_, rfl⟩
      obtain ⟨er, hEr⟩ : ∃ er, (loadM s1).2 = er := ⟨_, rfl⟩
      rw [hM, hEr]
      rw [hM] at hq1
      obtain ⟨a1, c1, rfl, hr1⟩ := hq1.rd
      have HJ1 := Lib.hid (HJ.out.new hz1)
      have HR1 := Lib.hid hr1
      have HM := Lib.hid hM
      have HER := Lib.hid hEr
      clear hq1 hr1 hz1 hM hEr
      go_wp2_with fail
      go_at_call 15
      have hba2 : Below Z1.heap.size Z1 (Z1.alloc (.cells #[.int .i64 M.wall, .int .i64 M.logi, .int .i64 M.node, .slice a1 M.ts.length c1] 35)) := (Below.refl _ _).alloc (Nat.le_refl _) _
      have hrow2 := heap_alloc_new Z1 (.cells #[.int .i64 M.wall, .int .i64 M.logi, .int .i64 M.node, .slice a1 M.ts.length c1] 35)
      obtain ⟨Z2, hZ2⟩ : ∃ Z2, Z1.alloc (.cells #[.int .i64 M.wall, .int .i64 M.logi, .int .i64 M.node, .slice a1 M.ts.length c1] 35) = Z2 := ⟨_, rfl⟩
      rw [hZ2] at hba2 hrow2 ⊢
      have HJ2 := Lib.hid (HJ1.out.new hba2)
      refine (rmload_any c _ s1 HJ2.out.ls.1.ok.len HJ2.out.ls.1.ok.tot Z2 HJ2.out.rf).mono ?_
      rintro e Z3 ⟨v3, rfl, hq3, hz3⟩
      rw [HM.out, HER.out]
      rw [HM.out] at hq3
      obtain ⟨a3, c3, rfl, hr3⟩ := hq3.rd
      have hrow3 := (hz3.block Z1.heap.size (Array.getElem?_eq_some_iff.1 hrow2).1).trans hrow2
      have hba4 : Below Z3.heap.size Z3 (Z3.alloc (.cells #[.int .i64 M.wall, .int .i64 M.logi, .int .i64 M.node, .slice a3 M.ts.length c3] 47)) := (Below.refl _ _).alloc (Nat.le_refl _) _
      have hrow4 := heap_alloc_new Z3 (.cells #[.int .i64 M.wall, .int .i64 M.logi, .int .i64 M.node, .slice a3 M.ts.length c3] 47)
      obtain ⟨Z4, hZ4⟩ : ∃ Z4, Z3.alloc (.cells #[.int .i64 M.wall, .int .i64 M.logi, .int .i64 M.node, .slice a3 M.ts.length c3] 47) = Z4 := ⟨_, rfl⟩
      rw [hZ4] at hba4 hrow4
      have hrow4' := (hba4.block Z1.heap.size (Array.getElem?_eq_some_iff.1 hrow3).1).trans hrow3
      have HJ4 := Lib.hid ((HJ2.out.new hz3).new hba4)
      have hq := msame_any M M a1 a3 c1 c3 Z4 (((HR1.out.below hba2).below hz3).below hba4) (hr3.below hba4)
      rw [sameB_refl] at hq
      have HQ := Lib.hid hq
      have m0 := cell_of_row _ _ 0 _ _ _ hrow4'
      have m1 := cell_of_row _ _ 1 _ _ _ hrow4'
      have m2 := cell_of_row _ _ 2 _ _ _ hrow4'
      have m3 := cell_of_row _ _ 3 _ _ _ hrow4'
      have r0 := cell_of_row _ _ 0 _ _ _ hrow4
      have r1 := cell_of_row _ _ 1 _ _ _ hrow4
      have r2 := cell_of_row _ _ 2 _ _ _ hrow4
      have r3 := cell_of_row _ _ 3 _ _ _ hrow4
      have hee : (er != er) = false := by simp
      clear hq3 hr3 hz3 hba2 hrow2 hZ2 hrow3 hba4 hrow4 hrow4' hq
      go_wp2_with fail
      clear hZ4
      go_at_call 16
      refine (HQ.out).mono ?_
      rintro e Z5 ⟨rfl, hz5⟩
      have HJ5 := Lib.hid (HJ4.out.new hz5)
      clear hz5 m0 m1 m2 m3 r0 r1 r2 r3 hee
      go_wp2_with fail
      go_at_call 17
      refine (same_any d _ _ c _ s1 Z5 HJ5.out.ls.1 HJ5.out.rf).mono ?_
      rintro e Z6 ⟨rfl, hz6⟩
      have HJ6 := Lib.hid (HJ5.out.new hz6)
      clear hz6
      go_wp2_with fail
      go_roundw
      case rel => exact ⟨k + 1, _, _, s1, by omega, by go_num, HJ6.out.ls.mono (by omega), HJ6.out.rf, HJ6.out.hw, HJ6.out.hx⟩
      case measure => simp [intOf]; omega
    · have d1 : (o.k == 1) = false := by simpa using hk1
      have d2 : (o.k == 2) = false := by simpa using hk2
      clear hk1 hk2
      go_wp2_with fail
      clear q0 q1 q2 q3 q4 q5 q6 q7 q8 q9 q10 p0 hX' hpb d1 d2
      have HPd := Lib.hid (HP.out.new (Below.refl _ X).drew)
      refine wp_region_ht 9 (fun W => W.cell? ⟨pb, 5, none⟩ = some (.int .i64 o.d.k) ∧ W.cell? ⟨pb, 6, none⟩ = some (.int .i64 o.d.n) ∧ W.cell? ⟨pb, 7, none⟩ = some (.string (bs o.d.nm)) ∧ W.cell? ⟨pb, 8, none⟩ = some (.string (bs o.d.tn)) ∧ W.cell? ⟨pb, 9, none⟩ = some (.slice ab o.d.b.length cb) ∧ W.cell? ⟨pb, 10, none⟩ = some (.slice ap o.d.p.length cp)) (by kernel_rfl) (by kernel_rfl) ?_ (fun hHeld => ?_)
      · exact ⟨HPd.out.cell 5, HPd.out.cell 6, HPd.out.cell 7, HPd.out.cell 8, HPd.out.cell 9, HPd.out.cell 10⟩
      try simp only [Act.put, List.setIfInBounds_toArray, List.set_cons_zero, List.set_cons_succ]
      refine wpHT_takeD (i := 0) (d := 35) (v := ?_) (by kernel_rfl) rfl rfl (by decide) (by kernel_rfl) (by kernel_rfl) (fun _ _ _ h => h) (Or.inl ⟨by kernel_rfl, ?_⟩) (by assumption) ?_
      rotate_left
      · intro w hSw; (try dsimp only at hSw); go_simp; (try with_reducible rfl)
      try simp only [Act.put, List.setIfInBounds_toArray, List.set_cons_zero, List.set_cons_succ]
      refine wpHT_takeD (i := 1) (d := 36) (v := ?_) (by kernel_rfl) rfl rfl (by decide) (by kernel_rfl) (by kernel_rfl) (fun _ _ _ h => h) (Or.inl ⟨by kernel_rfl, ?_⟩) (by assumption) ?_
      rotate_left
      · intro w hSw; (try dsimp only at hSw); go_simp; (try with_reducible rfl)
      try simp only [Act.put, List.setIfInBounds_toArray, List.set_cons_zero, List.set_cons_succ]
      refine wpHT_takeD (i := 2) (d := 37) (v := ?_) (by kernel_rfl) rfl rfl (by decide) (by kernel_rfl) (by kernel_rfl) (fun _ _ _ h => h) (Or.inl ⟨by kernel_rfl, ?_⟩) (by assumption) ?_
      rotate_left
      · intro w hSw; (try dsimp only at hSw); go_simp; (try with_reducible rfl)
      try simp only [Act.put, List.setIfInBounds_toArray, List.set_cons_zero, List.set_cons_succ]
      refine wpHT_takeD (i := 4) (d := 39) (v := ?_) (by kernel_rfl) rfl rfl (by decide) (by kernel_rfl) (by kernel_rfl) (fun _ _ _ h => h) (Or.inl ⟨by kernel_rfl, ?_⟩) (by assumption) ?_
      rotate_left
      · intro w hSw; (try dsimp only at hSw); go_simp; (try with_reducible rfl)
      try simp only [Act.put, List.setIfInBounds_toArray, List.set_cons_zero, List.set_cons_succ]
      refine wpHT_takeD (i := 5) (d := 40) (v := ?_) (by kernel_rfl) rfl rfl (by decide) (by kernel_rfl) (by kernel_rfl) (fun _ _ _ h => h) (Or.inl ⟨by kernel_rfl, ?_⟩) (by assumption) ?_
      rotate_left
      · intro w hSw; (try dsimp only at hSw); go_simp; (try with_reducible rfl)
      try simp only [Act.put, List.setIfInBounds_toArray, List.set_cons_zero, List.set_cons_succ]
      refine wpHT_takeD (i := 6) (d := 41) (v := ?_) (by kernel_rfl) rfl rfl (by decide) (by kernel_rfl) (by kernel_rfl) (fun _ _ _ h => h) (Or.inl ⟨by kernel_rfl, ?_⟩) (by assumption) ?_
      rotate_left
      · intro w hSw; (try dsimp only at hSw); go_simp; (try with_reducible rfl)
      try simp only [Act.put, List.setIfInBounds_toArray, List.set_cons_zero, List.set_cons_succ]
      refine wpHT_one (i := 3) (by kernel_rfl) rfl (by decide) (fun K hK => ?_)
      go_simp
      go_at_call 12
      refine (does_any d S _ (by omega) s o.d ab cb ap cp _ (HOT.out S HPd.out.ls.old) HBL.out _ HPd.out.ls.1 (HOD.out _ HPd.out.ls.2.2)).mono ?_
      rintro e Y1 ⟨rfl, hd⟩
      have HP1 := Lib.hid (HPd.out.prog (by omega) hd)
      clear hd
      refine hK.out _ _ ?_ (fun hHeld => ?_)
      · exact ⟨HP1.out.cell 5, HP1.out.cell 6, HP1.out.cell 7, HP1.out.cell 8, HP1.out.cell 9, HP1.out.cell 10⟩
      clear hK K
      try simp only [Act.put, List.setIfInBounds_toArray, List.set_cons_zero, List.set_cons_succ]
      refine wpHT_one (i := 7) (by kernel_rfl) rfl (by decide) (fun K hK => ?_)
      go_simp
      go_at_call 13
      refine (model_any c S' ((5 * k : Nat) : Int) (by omega) s o.d ab cb ap cp _ (HOT.out S' (fun j hj e => by have := HP1.out.hw j e; omega)) HBL.out HPd.out.ls.1.ok Y1 HP1.out.rf (HOD.out _ HP1.out.ls.2.2)).mono ?_
      rintro e Y2 ⟨rfl, k1, k2⟩
      have HP2 := Lib.hid (HP1.out.refr k1 k2)
      clear k1 k2
      refine hK.out _ _ ?_ (fun hHeld => ?_)
      · exact ⟨HP2.out.cell 5, HP2.out.cell 6, HP2.out.cell 7, HP2.out.cell 8, HP2.out.cell 9, HP2.out.cell 10⟩
      clear hK K
      try simp only [Act.put, List.setIfInBounds_toArray, List.set_cons_zero, List.set_cons_succ]
      refine wpHT_takeD (i := 8) (d := 43) (v := ?_) (by kernel_rfl) rfl rfl (by decide) (by kernel_rfl) (by kernel_rfl) (fun _ _ _ h => h) (Or.inl ⟨by kernel_rfl, ?_⟩) (by assumption) ?_
      rotate_left
      · intro w hSw; (try dsimp only at hSw); go_simp; (try with_reducible rfl)
      try simp only [Act.put, List.setIfInBounds_toArray, List.set_cons_zero, List.set_cons_succ]
      refine wpHT_done (by kernel_rfl) ?_
      simp only [List.drop_succ_cons, List.drop_zero]
      clear hHeld
      obtain ⟨s1, hs1⟩ : ∃ s1, (doesS s o.d).1 = s1 := ⟨_, rfl⟩
      rw [hs1] at HP2
      clear hs1
      go_wp2_with fail
      have HJ := Lib.hid HP2.out
      go_at_call 14
      refine (mload_any d _ _ s1 Y2 HJ.out.ls.1).mono ?_
      rintro e Z1 ⟨v1, rfl, hq1, hz1⟩
      obtain ⟨M, hM⟩ : ∃ M, (loadM s1).1 = M := ⟨_, rfl⟩
      obtain ⟨er, hEr⟩ : ∃ er, (loadM s1).2 = er := ⟨_, rfl⟩
      rw [hM, hEr]
      rw [hM] at hq1
      obtain ⟨a1, c1, rfl, hr1⟩ := hq1.rd
      have HJ1 := Lib.hid (HJ.out.new hz1)
      have HR1 := Lib.hid hr1
      have HM := Lib.hid hM
      have HER := Lib.hid hEr
      clear hq1 hr1 hz1 hM hEr
      go_wp2_with fail
      go_at_call 15
      have hba2 : Below Z1.heap.size Z1 (Z1.alloc (.cells #[.int .i64 M.wall, .int .i64 M.logi, .int .i64 M.node, .slice a1 M.ts.length c1] 35)) := (Below.refl _ _).alloc (Nat.le_refl _) _
      have hrow2 := heap_alloc_new Z1 (.cells #[.int .i64 M.wall, .int .i64 M.logi, .int .i64 M.node, .slice a1 M.ts.length c1] 35)
      obtain ⟨Z2, hZ2⟩ : ∃ Z2, Z1.alloc (.cells #[.int .i64 M.wall, .int .i64 M.logi, .int .i64 M.node, .slice a1 M.ts.length c1] 35) = Z2 := ⟨_, rfl⟩
      rw [hZ2] at hba2 hrow2 ⊢
      have HJ2 := Lib.hid (HJ1.out.new hba2)
      refine (rmload_any c _ s1 HJ2.out.ls.1.ok.len HJ2.out.ls.1.ok.tot Z2 HJ2.out.rf).mono ?_
      rintro e Z3 ⟨v3, rfl, hq3, hz3⟩
      rw [HM.out, HER.out]
      rw [HM.out] at hq3
      obtain ⟨a3, c3, rfl, hr3⟩ := hq3.rd
      have hrow3 := (hz3.block Z1.heap.size (Array.getElem?_eq_some_iff.1 hrow2).1).trans hrow2
      have hba4 : Below Z3.heap.size Z3 (Z3.alloc (.cells #[.int .i64 M.wall, .int .i64 M.logi, .int .i64 M.node, .slice a3 M.ts.length c3] 47)) := (Below.refl _ _).alloc (Nat.le_refl _) _
      have hrow4 := heap_alloc_new Z3 (.cells #[.int .i64 M.wall, .int .i64 M.logi, .int .i64 M.node, .slice a3 M.ts.length c3] 47)
      obtain ⟨Z4, hZ4⟩ : ∃ Z4, Z3.alloc (.cells #[.int .i64 M.wall, .int .i64 M.logi, .int .i64 M.node, .slice a3 M.ts.length c3] 47) = Z4 := ⟨_, rfl⟩
      rw [hZ4] at hba4 hrow4
      have hrow4' := (hba4.block Z1.heap.size (Array.getElem?_eq_some_iff.1 hrow3).1).trans hrow3
      have HJ4 := Lib.hid ((HJ2.out.new hz3).new hba4)
      have hq := msame_any M M a1 a3 c1 c3 Z4 (((HR1.out.below hba2).below hz3).below hba4) (hr3.below hba4)
      rw [sameB_refl] at hq
      have HQ := Lib.hid hq
      have m0 := cell_of_row _ _ 0 _ _ _ hrow4'
      have m1 := cell_of_row _ _ 1 _ _ _ hrow4'
      have m2 := cell_of_row _ _ 2 _ _ _ hrow4'
      have m3 := cell_of_row _ _ 3 _ _ _ hrow4'
      have r0 := cell_of_row _ _ 0 _ _ _ hrow4
      have r1 := cell_of_row _ _ 1 _ _ _ hrow4
      have r2 := cell_of_row _ _ 2 _ _ _ hrow4
      have r3 := cell_of_row _ _ 3 _ _ _ hrow4
      have hee : (er != er) = false := by simp
      clear hq3 hr3 hz3 hba2 hrow2 hZ2 hrow3 hba4 hrow4 hrow4' hq
      go_wp2_with fail
      clear hZ4
      go_at_call 16
      refine (HQ.out).mono ?_
      rintro e Z5 ⟨rfl, hz5⟩
      have HJ5 := Lib.hid (HJ4.out.new hz5)
      clear hz5 m0 m1 m2 m3 r0 r1 r2 r3 hee
      go_wp2_with fail
      go_at_call 17
      refine (same_any d _ _ c _ s1 Z5 HJ5.out.ls.1 HJ5.out.rf).mono ?_
      rintro e Z6 ⟨rfl, hz6⟩
      have HJ6 := Lib.hid (HJ5.out.new hz6)
      clear hz6
      go_wp2_with fail
      go_roundw
      case rel => exact ⟨k + 1, _, _, s1, by omega, by go_num, HJ6.out.ls.mono (by omega), HJ6.out.rf, HJ6.out.hw, HJ6.out.hx⟩
      case measure => simp [intOf]; omega
end Go.Proofs.YtkinhilkmjfjhaaGreat

/-! ### The operations of MarkPlays, as they are handed in. -/
namespace Go.Proofs.YtkinhilkmjfjhaaGreat
open Go.RowKit Go.Maps Go.Sort
set_option maxRecDepth 100000

theorem rdT_open {H : Type} {enc : TypeId × Value → H} {w : World} {base : Nat} {sp : Nat → Bool} {held : Bool} {fuel : Nat} {a : Option Addr} {len cap : Nat} {x : DataW H × List MemPlace}
    (h : DataW.trod enc Tryz.prog w base sp held fuel 33 (Value.slice a len cap).cells.toList = some x) : ∃ ts, len = ts.length ∧ RdT w a cap ts := by
  obtain ⟨xs, hr, m, hel⟩ := rd_open (size := 2) Tryz.underlying33 (by kernel_rfl) (by decide) h
  obtain ⟨ts, h1, h2⟩ := choose_list (P := fun i (c : Int × Int) => xs[i * 2]? = some (.int .i64 c.1) ∧ xs[i * 2 + 1]? = some (.int .i64 c.2)) len fun i hi => by
    obtain ⟨y, hy⟩ := hel i hi
    obtain ⟨_, n, hf⟩ := field_of Tryz.underlying60 hy
    obtain ⟨y0, h0⟩ := hf 0 _ rfl
    obtain ⟨y1, h1⟩ := hf 1 _ rfl
    obtain ⟨k, e0, hk⟩ := int_open Tryz.underlying3 h0
    obtain ⟨nn, e1, hnn⟩ := int_open Tryz.underlying3 h1
    have c : ∀ {j : Nat} {v : Value}, j < 2 → (((xs.drop (i * 2)).take 2).drop j).take 1 = [v] → xs[i * 2 + j]? = some v := fun {j v} hj hv => by
      have := one_get hv
      rw [List.getElem?_take, if_pos hj, List.getElem?_drop] at this
      exact this
    exact ⟨(k, nn), c (by decide) e0, c (by decide) e1⟩
  refine ⟨ts, h1.symm, ?_⟩
  have hxs : xs = tCells ts := by
    have hl : xs.length = ts.length * 2 := by rw [hr.2.2.2.1, h1]
    apply List.ext_getElem?
    intro j
    rcases Nat.lt_or_ge j (ts.length * 2) with hj | hj
    · have hi : j / 2 < ts.length := by omega
      obtain ⟨z, hz⟩ : ∃ z, ts[j / 2]? = some z := ⟨_, List.getElem?_eq_getElem hi⟩
      obtain ⟨g1, g2⟩ := h2 (j / 2) z hz
      obtain ⟨g3, g4⟩ := tCells_get ts (j / 2) hi
      have e : ts.getD (j / 2) (0, 0) = z := by simp [List.getD, hz]
      rw [e] at g3 g4
      rcases Nat.mod_two_eq_zero_or_one j with hm | hm
      · rw [show j = j / 2 * 2 by omega, g1, g3]
      · rw [show j = j / 2 * 2 + 1 by omega, g2, g4]
    · rw [List.getElem?_eq_none (by omega), List.getElem?_eq_none (by rw [tCells_len]; omega)]
  unfold RdT
  rw [← hxs, h1]
  exact hr
theorem rdPl_open {H : Type} {enc : TypeId × Value → H} {w : World} {base : Nat} {sp : Nat → Bool} {held : Bool} {fuel : Nat} {a : Option Addr} {len cap : Nat} {x : DataW H × List MemPlace}
    (h : DataW.trod enc Tryz.prog w base sp held fuel 22 (Value.slice a len cap).cells.toList = some x) : ∃ l, RdPl w (fun b => b < w.heap.size) a len cap l := by
  obtain ⟨xs, hr, m, hel⟩ := rd_open (size := 11) Tryz.underlying22 (by kernel_rfl) (by decide) h
  obtain ⟨os, h1, h2⟩ := choose_list (P := fun i (s : PlV) => ∃ at_ c ab cb ap cp, (∀ (j : Nat) (u : Value), (plCells s at_ c ab cb ap cp)[j]? = some u → xs[i * 11 + j]? = some u) ∧ PlRd w (fun b => b < w.heap.size) s at_ c ab cb ap cp) len fun i hi => by
    obtain ⟨y, hy⟩ := hel i hi
    obtain ⟨_, n, hf⟩ := field_of Tryz.underlying41 hy
    obtain ⟨y0, h0⟩ := hf 0 _ rfl
    obtain ⟨y1, h1⟩ := hf 1 _ rfl
    obtain ⟨y2, h2⟩ := hf 2 _ rfl
    obtain ⟨kk, d0, _⟩ := int_open Tryz.underlying3 h0
    obtain ⟨_, n2, hf2⟩ := field_of Tryz.underlying35 h1
    obtain ⟨z0, k0⟩ := hf2 0 _ rfl
    obtain ⟨z1, k1⟩ := hf2 1 _ rfl
    obtain ⟨_, n3, hf3⟩ := field_of Tryz.underlying32 k0
    obtain ⟨_, j0⟩ := hf3 0 _ rfl
    obtain ⟨_, j1⟩ := hf3 1 _ rfl
    obtain ⟨_, j2⟩ := hf3 2 _ rfl
    obtain ⟨x0, d1, _⟩ := int_open Tryz.underlying3 j0
    obtain ⟨x1, d2, _⟩ := int_open Tryz.underlying3 j1
    obtain ⟨x2, d3, _⟩ := int_open Tryz.underlying3 j2
    obtain ⟨at_, lt_, ct, d4⟩ := slice_form Tryz.underlying33 k1
    rw [d4] at k1
    obtain ⟨ts, rfl, hts⟩ := rdT_open (a := at_) (len := lt_) (cap := ct) k1
    obtain ⟨_, n4, hf4⟩ := field_of Tryz.underlying39 h2
    obtain ⟨_, i0⟩ := hf4 0 _ rfl
    obtain ⟨_, i1⟩ := hf4 1 _ rfl
    obtain ⟨_, i2⟩ := hf4 2 _ rfl
    obtain ⟨_, i3⟩ := hf4 3 _ rfl
    obtain ⟨_, i4⟩ := hf4 4 _ rfl
    obtain ⟨_, i5⟩ := hf4 5 _ rfl
    obtain ⟨k, d5, hk⟩ := int_open Tryz.underlying3 i0
    obtain ⟨nn, d6, hnn⟩ := int_open Tryz.underlying3 i1
    obtain ⟨nm, d7, hnm⟩ := str_open Tryz.underlying9 i2
    obtain ⟨tn, d8, htn⟩ := str_open Tryz.underlying9 i3
    obtain ⟨ab, lb, cb, d9⟩ := slice_form Tryz.underlying36 i4
    obtain ⟨ap, lp, cp, d10⟩ := slice_form Tryz.underlying37 i5
    rw [d9] at i4
    rw [d10] at i5
    obtain ⟨b, hb⟩ := rd8_open (a := ab) (len := lb) (cap := cb) Tryz.underlying36 Tryz.underlying5 (by kernel_rfl) i4
    obtain ⟨p, hp⟩ := rdI_open (a := ap) (len := lp) (cap := cp) Tryz.underlying37 Tryz.underlying3 (by kernel_rfl) i5
    obtain rfl : lb = b.length := hb.1
    obtain rfl : lp = p.length := hp.1
    have d0 : List.take 1 (List.drop 0 (List.take 11 (List.drop (i * 11) xs))) = [_] := d0
    have d1 : List.take 1 (List.drop 0 (List.take 3 (List.drop 0 (List.take 4 (List.drop 1 (List.take 11 (List.drop (i * 11) xs))))))) = [_] := d1
    have d2 : List.take 1 (List.drop 1 (List.take 3 (List.drop 0 (List.take 4 (List.drop 1 (List.take 11 (List.drop (i * 11) xs))))))) = [_] := d2
    have d3 : List.take 1 (List.drop 2 (List.take 3 (List.drop 0 (List.take 4 (List.drop 1 (List.take 11 (List.drop (i * 11) xs))))))) = [_] := d3
    have d4 : List.take 1 (List.drop 3 (List.take 4 (List.drop 1 (List.take 11 (List.drop (i * 11) xs))))) = [_] := d4
    have d5 : List.take 1 (List.drop 0 (List.take 6 (List.drop 5 (List.take 11 (List.drop (i * 11) xs))))) = [_] := d5
    have d6 : List.take 1 (List.drop 1 (List.take 6 (List.drop 5 (List.take 11 (List.drop (i * 11) xs))))) = [_] := d6
    have d7 : List.take 1 (List.drop 2 (List.take 6 (List.drop 5 (List.take 11 (List.drop (i * 11) xs))))) = [_] := d7
    have d8 : List.take 1 (List.drop 3 (List.take 6 (List.drop 5 (List.take 11 (List.drop (i * 11) xs))))) = [_] := d8
    have d9 : List.take 1 (List.drop 4 (List.take 6 (List.drop 5 (List.take 11 (List.drop (i * 11) xs))))) = [_] := d9
    have d10 : List.take 1 (List.drop 5 (List.take 6 (List.drop 5 (List.take 11 (List.drop (i * 11) xs))))) = [_] := d10
    have f0 : xs[i * 11 + 0]? = some (.int .i64 kk) := by simpa [List.getElem?_take, List.getElem?_drop] using one_get d0
    have f1 : xs[i * 11 + 1]? = some (.int .i64 x0) := by simpa [List.getElem?_take, List.getElem?_drop] using one_get d1
    have f2 : xs[i * 11 + 2]? = some (.int .i64 x1) := by simpa [List.getElem?_take, List.getElem?_drop] using one_get d2
    have f3 : xs[i * 11 + 3]? = some (.int .i64 x2) := by simpa [List.getElem?_take, List.getElem?_drop] using one_get d3
    have f4 : xs[i * 11 + 4]? = some (.slice at_ ts.length ct) := by simpa [List.getElem?_take, List.getElem?_drop] using one_get d4
    have f5 : xs[i * 11 + 5]? = some (.int .i64 k) := by simpa [List.getElem?_take, List.getElem?_drop] using one_get d5
    have f6 : xs[i * 11 + 6]? = some (.int .i64 nn) := by simpa [List.getElem?_take, List.getElem?_drop] using one_get d6
    have f7 : xs[i * 11 + 7]? = some (.string (bs nm)) := by simpa [List.getElem?_take, List.getElem?_drop] using one_get d7
    have f8 : xs[i * 11 + 8]? = some (.string (bs tn)) := by simpa [List.getElem?_take, List.getElem?_drop] using one_get d8
    have f9 : xs[i * 11 + 9]? = some (.slice ab b.length cb) := by simpa [List.getElem?_take, List.getElem?_drop] using one_get d9
    have f10 : xs[i * 11 + 10]? = some (.slice ap p.length cp) := by simpa [List.getElem?_take, List.getElem?_drop] using one_get d10
    refine ⟨⟨kk, ⟨x0, x1, x2, ts⟩, ⟨k, nn, nm, tn, b, p⟩⟩, at_, ct, ab, cb, ap, cp, fun j u hj => ?_, hts, Rd.blkIn hts (by decide), ⟨hk, hnn, hnm, htn⟩, hb, hp, hb.2.blkIn (by decide), hp.2.1.blkIn (by decide)⟩
    match j, hj with
    | 0, hj => cases hj; exact f0
    | 1, hj => cases hj; exact f1
    | 2, hj => cases hj; exact f2
    | 3, hj => cases hj; exact f3
    | 4, hj => cases hj; exact f4
    | 5, hj => cases hj; exact f5
    | 6, hj => cases hj; exact f6
    | 7, hj => cases hj; exact f7
    | 8, hj => cases hj; exact f8
    | 9, hj => cases hj; exact f9
    | 10, hj => cases hj; exact f10
    | j + 11, hj => simp [plCells] at hj
  exact ⟨os, h1.symm, xs, hr, h2⟩
end Go.Proofs.YtkinhilkmjfjhaaGreat
