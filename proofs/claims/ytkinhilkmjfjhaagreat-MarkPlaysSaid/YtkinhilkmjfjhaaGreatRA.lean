/-
  The reference's bytes of a mark, and its Save.
  The reference's Save of a mark.
  The operations of MarkPlays in memory; the laws' few.
-/
import Derived.Test.YtkinhilkmjfjhaaGreatQ11
import Derived.Test.YtkinhilkmjfjhaaGreatEX
import Derived.Test.YtkinhilkmjfjhaaGreatE20
/-! ### The reference's bytes of a mark, and its Save. -/
namespace Go.Proofs.YtkinhilkmjfjhaaGreat
open Go.RowKit Go.Maps Go.Sort
set_option maxRecDepth 100000
attribute [local go_sem] bs_size bs_toList

/-- What is laid behind bytes of one's own. -/
theorem intB_app (l : List UInt8) (n : Int) : l ++ intB n = l ++ intB n := rfl
set_option maxHeartbeats 2000000 in
theorem stamp_any (m : Mk) (hm : mayM m = true) (w : World) :
    Calls Tryz.prog 88 #[.agg #[.int .i64 m.wall, .int .i64 m.logi, .int .i64 m.node]] w fun e w' => ∃ v, e = .returned v ∧ Own8 w' w.heap.size 5 v (intB m.wall ++ intB m.logi ++ intB m.node) ∧ Below w.heap.size w w' := by
  obtain ⟨W, hW, hbw, c0, c1, c2⟩ := stAt w m 32
  have HB := Lib.hid hbw
  have hb := may_hb hm
  have l1 := intB_len m.wall (by omega) (by omega)
  have l2 := intB_len m.logi (by omega) (by omega)
  have l3 := intB_len m.node (by omega) (by omega)
  have HH := Lib.hid hb
  have L1 := Lib.hid l1
  have L2 := Lib.hid l2
  have L3 := Lib.hid l3
  have hlt : w.heap.size < W.heap.size := World.block_lt_of_cell? W _ c0
  have hW' : w.alloc (.cells #[.int .i64 m.wall, .int .i64 m.logi, .int .i64 m.node] 32) = W := hW.symm
  have C1 := Lib.hid c1
  have C2 := Lib.hid c2
  have HLT := Lib.hid hlt
  clear hbw hW hb l1 l2 l3
  go_enter Tryz.func88, Tryz.ntmps88
  go_wp2_with fail
  go_at_call 89
  refine (rInt_any m.wall (by have := HH.out; omega) (by have := HH.out; omega) W).mono ?_
  rintro e w1 ⟨v1, rfl, ho1, hb1⟩
  have d1 := (hb1.cell (p := ⟨w.heap.size, 1, none⟩) hlt).trans c1
  have HO1 := Lib.hid ho1
  have HB1 := Lib.hid hb1
  clear ho1 hb1 c0 c1 c2 hW'
  go_wp2_with fail
  go_at_call 89
  refine (rInt_any m.logi (by have := HH.out; omega) (by have := HH.out; omega) w1).mono ?_
  rintro e w2 ⟨v2, rfl, ho2, hb2⟩
  obtain ⟨a2, k2, rfl, hr2⟩ := ho2.rd
  have HO12 := Lib.hid (HO1.out.below (Nat.le_refl _) hb2)
  have HR2 := Lib.hid hr2
  have HB2 := Lib.hid (HB1.out.trans (hb2.mono HB1.out.size))
  clear ho2 hb2 hr2 d1
  go_wp2_with (at_builtin; refine wpList_app S8 rfl (.tmp 7) (.tmp 10) rfl W.heap.size rfl HO12.out rfl HR2.out.2 (B8_one _) (by have h1 := L1.out; have h2 := L2.out; omega) (by have h1 := L1.out; have h2 := L2.out; simp [maxLen]; omega) HB2.out.size ?_)
  intro v3 w3 ho3 hb3 _
  have ho3 : Own8 w3 W.heap.size 5 v3 (intB m.wall ++ intB m.logi) := Own8.mk ho3 (by simp) (by rw [B8_append])
  have hb3' := HB2.out.trans hb3
  have d2 := (hb3'.cell (p := ⟨w.heap.size, 2, none⟩) HLT.out).trans C2.out
  have HO3 := Lib.hid ho3
  have HB3 := Lib.hid hb3'
  clear ho3 hb3 hb3' HO1 HB1 HO12 HR2 HB2
  go_wp2_with fail
  go_at_call 89
  refine (rInt_any m.node (by have := HH.out; omega) (by have := HH.out; omega) w3).mono ?_
  rintro e w4 ⟨v4, rfl, ho4, hb4⟩
  obtain ⟨a4, k4, rfl, hr4⟩ := ho4.rd
  have HO34 := Lib.hid (HO3.out.below (Nat.le_refl _) hb4)
  have HR4 := Lib.hid hr4
  have HB4 := Lib.hid (HB3.out.trans (hb4.mono HB3.out.size))
  clear ho4 hb4 hr4 d2 HO3 HB3
  go_wp2_with (at_builtin; refine wpList_app S8 rfl (.tmp 12) (.tmp 15) rfl W.heap.size rfl HO34.out rfl HR4.out.2 (B8_one _) (by have h1 := L1.out; have h2 := L2.out; have h3 := L3.out; rw [List.length_append]; omega) (by have h1 := L1.out; have h2 := L2.out; have h3 := L3.out; rw [List.length_append]; simp [maxLen]; omega) HB4.out.size ?_)
  intro v5 w5 ho5 hb5 _
  have ho5 : Own8 w5 W.heap.size 5 v5 (intB m.wall ++ intB m.logi ++ intB m.node) := Own8.mk ho5 (by simp [Nat.add_assoc]) (B8_append _ _).symm
  have HO5 := Lib.hid ho5
  have HB5 := Lib.hid (HB4.out.trans hb5)
  clear ho5 hb5 HO34 HR4 HB4
  go_wp2_with fail
  go_ret
  exact ⟨_, rfl, HO5.out.mono HB.out.size, HB.out.trans (HB5.out.mono HB.out.size)⟩
/-- The bytes of a mark as far as k tails. -/
def encK (m : Mk) (k : Nat) : List UInt8 := intB m.wall ++ intB m.logi ++ intB m.node ++ intB (m.ts.length : Nat) ++ encT (m.ts.take k)
theorem encK_len {m : Mk} (h : mayM m = true) (k : Nat) : (encK m k).length ≤ 280 := by
  have h1 := encM_len h
  have e0 : encT m.ts = encT (m.ts.take k) ++ encT (m.ts.drop k) := by unfold encT; rw [← List.flatMap_append, List.take_append_drop]
  have e : encM m = encK m k ++ encT (m.ts.drop k) := by
    unfold encM encK
    rw [e0]; simp [List.append_assoc]
  rw [e, List.length_append] at h1; omega
theorem encK_next {m : Mk} {k : Nat} {c : Int × Int} (h : m.ts[k]? = some c) : encK m (k + 1) = encK m k ++ intB c.1 ++ intB c.2 := by
  unfold encK; rw [encT_next h]; simp [List.append_assoc]
theorem encK_all (m : Mk) : encK m m.ts.length = encM m := by unfold encK encM; rw [List.take_length]
set_option maxHeartbeats 4000000 in
theorem rbytes_any (m : Mk) (hm : mayM m = true) (a : Option Addr) (cap : Nat) (w : World) (h : RdT w a cap m.ts) :
    Calls Tryz.prog 33 #[mkV m (.slice a m.ts.length cap)] w fun e w' => ∃ v, e = .returned v ∧ Own8 w' w.heap.size 5 v (encM m) ∧ Below w.heap.size w w' := by
  obtain ⟨n, hn⟩ : ∃ n, m.ts.length = n := ⟨_, rfl⟩
  have hn12 : n ≤ 12 := by rw [← hn]; exact may_len hm
  rw [hn]
  obtain ⟨W, hW, hbw, hsz, c0, c1, c2, c3⟩ := mkAt w m (.slice a n cap) 47
  have HM := Lib.hid hm
  have HB := Lib.hid hbw
  have HR := Lib.hid (h.below hbw)
  have HN := Lib.hid hn
  have C3 := Lib.hid c3
  have hW' : w.alloc (.cells #[.int .i64 m.wall, .int .i64 m.logi, .int .i64 m.node, .slice a n cap] 47) = W := hW.symm
  have hlt0 : w.heap.size < W.heap.size := by omega
  have HLEN := Lib.hid (encK_len hm)
  clear h hn hbw hW hsz hm
  go_enter Tryz.func33, Tryz.ntmps33
  go_wp2_with fail
  go_at_call 88
  refine (stamp_any m HM.out W).mono ?_
  rintro e w1 ⟨v1, rfl, ho1, hb1⟩
  have d3 := (hb1.cell (p := ⟨w.heap.size, 3, none⟩) hlt0).trans c3
  have HO1 := Lib.hid ho1
  have HB1 := Lib.hid hb1
  clear ho1 hb1 c0 c1 c2 c3 hW'
  go_wp2_with fail
  go_at_call 89
  refine (rInt_any (n : Nat) (by omega) (by omega) w1).mono ?_
  rintro e w2 ⟨v2, rfl, ho2, hb2⟩
  obtain ⟨a2, k2, rfl, hr2⟩ := ho2.rd
  have hl2 := intB_len (n : Nat) (by omega) (by omega)
  have HL2 := Lib.hid hl2
  have HO12 := Lib.hid (HO1.out.below (Nat.le_refl _) hb2)
  have HR2 := Lib.hid hr2
  have HB2 := Lib.hid (HB1.out.trans (hb2.mono HB1.out.size))
  have hL0 : (intB m.wall ++ intB m.logi ++ intB m.node).length ≤ 280 := by have := HLEN.out 0; unfold encK at this; rw [List.length_append, List.length_append] at this; omega
  have HL0 := Lib.hid hL0
  clear ho2 hb2 hr2 hl2 hL0 d3
  go_wp2_with (at_builtin; refine wpList_app S8 rfl (.tmp 8) (.tmp 12) rfl W.heap.size rfl HO12.out rfl HR2.out.2 (B8_one _) (by have h1 := HL0.out; have h2 := HL2.out; omega) (by have h1 := HL0.out; have h2 := HL2.out; unfold maxLen; omega) HB2.out.size ?_)
  intro v3 w3 ho3 hb3 _
  have ho3 : Own8 w3 W.heap.size 5 v3 (encK m 0) := Own8.mk ho3 (by simp [encK, encT, HN.out]; omega) (by unfold encK; rw [List.take_zero, HN.out]; simp [encT, B8_append])
  have HO3 := Lib.hid ho3
  have HB3 := Lib.hid (HB2.out.trans hb3)
  clear ho3 hb3 HO1 HB1 HO12 HR2 HB2 HL2 HL0
  go_wp2_with fail
  go_loopw [3, 4] (fun o i wr => ∃ (k : Nat) (v : Value), k ≤ n ∧ i = .int .i64 k ∧ o = v ∧ Hid (Own8 wr W.heap.size 5 v (encK m k)) ∧ Hid (Below W.heap.size W wr)) (fun _ i _ => n - (intOf i).toNat)
  case atStart => exact ⟨0, v3, Nat.zero_le _, rfl, rfl, HO3.out, HB3.out⟩
  case round =>
    clear HO3 HB3
    obtain ⟨k, v, hk, rfl, rfl, HO, HBr⟩ := hrel
    have d3 := (HBr.out.cell (p := ⟨w.heap.size, 3, none⟩) hlt0).trans C3.out
    by_cases hlt : k < n
    · obtain ⟨b, off, rfl, hbl, q0, q1⟩ := HR.out.at (k := k) (by rw [HN.out]; exact hlt)
      have Q1 := Lib.hid q1
      have q0 := (HBr.out.cell (p := ⟨b, off + k * 2, none⟩) hbl).trans q0
      have hg : m.ts[k]? = some (m.ts.getD k (0, 0)) := by simp [List.getD, show k < m.ts.length by rw [HN.out]; exact hlt]
      obtain ⟨c, hc⟩ : ∃ c, m.ts.getD k (0, 0) = c := ⟨_, rfl⟩
      rw [hc] at q0 Q1 hg
      have hcb := may_bd HM.out c (List.mem_of_getElem? hg)
      have HX := Lib.hid (encK_next hg)
      have i1 := intB_len c.1 (by omega) (by omega)
      have i2 := intB_len c.2 (by omega) (by omega)
      have I1 := Lib.hid i1
      have I2 := Lib.hid i2
      have HCB := Lib.hid hcb
      clear hc hg hcb i1 i2
      go_wp2_with fail
      go_at_call 89
      refine (rInt_any c.1 (by have := HCB.out; omega) (by have := HCB.out; omega) wr).mono ?_
      rintro e w4 ⟨v4, rfl, ho4, hb4⟩
      obtain ⟨a4, k4, rfl, hr4⟩ := ho4.rd
      have HO4 := Lib.hid (HO.out.below (Nat.le_refl _) hb4)
      have HR4 := Lib.hid hr4
      have HB4 := Lib.hid (HBr.out.trans (hb4.mono HBr.out.size))
      clear ho4 hb4 hr4 q0 q1 d3
      go_wp2_with (at_builtin; refine wpList_app S8 rfl (.tmp 21) (.tmp 28) rfl W.heap.size rfl HO4.out rfl HR4.out.2 (B8_one _) (by have h1 := HLEN.out k; have h2 := I1.out; omega) (by have h1 := HLEN.out k; have h2 := I1.out; unfold maxLen; omega) HB4.out.size ?_)
      intro v5 w5 ho5 hb5 _
      have ho5 : Own8 w5 W.heap.size 5 v5 (encK m k ++ intB c.1) := Own8.mk ho5 (by simp) (B8_append _ _).symm
      have HO5 := Lib.hid ho5
      have hb45 := HB4.out.trans hb5
      have p1 := (hb45.cell (p := ⟨b, off + k * 2 + 1, none⟩) hbl).trans Q1.out
      have d3 := (hb45.cell (p := ⟨w.heap.size, 3, none⟩) hlt0).trans C3.out
      have HB5 := Lib.hid hb45
      clear ho5 hb5 hb45 HO4 HR4 HB4
      go_wp2_with fail
      go_at_call 89
      refine (rInt_any c.2 (by have := HCB.out; omega) (by have := HCB.out; omega) w5).mono ?_
      rintro e w6 ⟨v6, rfl, ho6, hb6⟩
      obtain ⟨a6, k6, rfl, hr6⟩ := ho6.rd
      have HO6 := Lib.hid (HO5.out.below (Nat.le_refl _) hb6)
      have HR6 := Lib.hid hr6
      have HB6 := Lib.hid (HB5.out.trans (hb6.mono HB5.out.size))
      clear ho6 hb6 hr6 p1 d3 HO5 HB5
      go_wp2_with (at_builtin; refine wpList_app S8 rfl (.tmp 30) (.tmp 37) rfl W.heap.size rfl HO6.out rfl HR6.out.2 (B8_one _) (by have h1 := HLEN.out k; have h2 := I1.out; have h3 := I2.out; rw [List.length_append]; omega) (by have h1 := HLEN.out k; have h2 := I1.out; have h3 := I2.out; rw [List.length_append]; unfold maxLen; omega) HB6.out.size ?_)
      intro v7 w7 ho7 hb7 _
      have ho7 : Own8 w7 W.heap.size 5 v7 (encK m k ++ intB c.1 ++ intB c.2) := Own8.mk ho7 (by simp [Nat.add_assoc]) (B8_append _ _).symm
      rw [← HX.out] at ho7
      have HO7 := Lib.hid ho7
      have HB7 := Lib.hid (HB6.out.trans hb7)
      clear ho7 hb7 HO6 HR6 HB6
      go_wp2_with fail
      go_roundw
      case rel => exact ⟨k + 1, v7, by omega, by go_num, rfl, HO7.out, HB7.out⟩
      case measure => simp [intOf]; omega
    · obtain rfl : k = n := by omega
      have hall : encK m k = encM m := by rw [← HN.out]; exact encK_all m
      rw [hall] at HO
      clear hall
      go_wp2_with fail
      go_ret
      exact ⟨_, rfl, HO.out.mono (Nat.le_of_lt hlt0), HB.out.trans (HBr.out.mono HB.out.size)⟩
end Go.Proofs.YtkinhilkmjfjhaaGreat

/-! ### The reference's Save of a mark. -/
namespace Go.Proofs.YtkinhilkmjfjhaaGreat
open Go.RowKit Go.Maps Go.Sort
set_option maxRecDepth 100000
attribute [local go_sem] bs_size bs_toList

theorem ok_create {B : Int} {s : DS} (h : DOk B s) (n : List UInt8) : DOk (B + 1) (createS s n).1 := h.errW _ _ fun _ he => by
  unfold creE at he
  by_cases h1 : nameOk n = true
  · rw [h1] at he
    by_cases h2 : (getF n s.fs).isSome = true
    · rw [if_neg (by decide), if_pos h2] at he; cases he
    · by_cases h3 : 64 ≤ s.fs.length
      · rw [if_neg (by decide), if_neg h2, if_pos h3] at he; cases he
      · exact h.fall.ins h1 (by rw [fallS_fs]; exact getF_isSome_false h2) (by rw [fallS_fs]; omega)
  · rw [if_pos (by simpa using h1)] at he; cases he
theorem ok_remove {B : Int} {s : DS} (h : DOk B s) (n : List UInt8) : DOk (B + 1) (removeS s n).1 := h.errW _ _ fun _ _ => h.fall.del n
theorem ok_sync {B : Int} {s : DS} (h : DOk B s) (n : List UInt8) : DOk (B + 1) (syncS s n).1 := h.errW _ _ fun _ he => by
  unfold hasE at he
  cases hg : getF n s.fs with
  | none => rw [hg] at he; cases he
  | some f => exact h.fall.upd (f := f) (by rw [fallS_fs]; exact hg) _ (fun _ => rfl) (Nat.le_refl _) (by have := h.tot; rw [fallS_fs]; show f.dt.length + _ ≤ _; omega)
theorem ok_append {B : Int} {s : DS} (h : DOk B s) (n b : List UInt8) : DOk (B + 1) (appendS s n b).1 := by
  by_cases he : appE s n b = 0
  · rw [appendS_ok he]
    unfold appE at he
    split at he
    · cases he
    · split at he
      · cases he
      · split at he
        · cases he
        · rename_i h1 h2 h3
          cases hg : getF n s.fs with
          | none => rw [hg] at h2; exact absurd rfl h2
          | some f =>
            have hf := (h.each f (getF_some hg).1).2.2
            have := h.fall.upd (f := f) (by rw [fallS_fs]; exact hg) (fun f => ⟨f.nm, f.dt ++ b, f.sf⟩) (fun _ => rfl) (by show f.sf ≤ (f.dt ++ b).length; rw [List.length_append]; omega) (by show (f.dt ++ b).length + _ ≤ _; rw [fallS_fs, List.length_append]; omega)
            rw [fallS_fs] at this
            exact this
  · rw [appendS_err he]; exact h.mono (by omega)
/-- The reference's disk behind deeds. -/
def RDn (W : World) (c : Nat) (S : Nat → Prop) (s : DS) (w' : World) : Prop := Rf w' c (Sx S W w') s ∧ Fr S W w'
theorem RDn.step {w w1 w2 w3 : World} {c : Nat} {S : Nat → Prop} {s s' : DS} (h : RDn w c S s w1) (hb : Below w1.heap.size w1 w2) (k1 : Rf w3 c (Sx (Sx S w w1) w2 w3) s') (k2 : Fr (Sx S w w1) w2 w3) : RDn w c S s' w3 := by
  obtain ⟨h1, h2⟩ := h
  have e1 := h2.size
  have e2 := hb.size
  have e3 := k2.size
  refine ⟨k1.grow (fun j hj => ?_) (fun j hj => ?_), ?_⟩
  · rcases hj with hj | hj
    · rcases hj with hj | hj
      · exact .inl hj
      · exact .inr ⟨by omega, by omega⟩
    · exact .inr ⟨by omega, by omega⟩
  · rcases hj with hj | hj
    · have := h1.lt j (.inl hj); omega
    · omega
  · refine (h2.trans (Fr.of_new hb)).trans' k2 (fun _ _ h => h) fun j hj hs => ?_
    rcases hs with hs | hs
    · exact hs
    · omega
theorem RDn.refl {w : World} {c : Nat} {S : Nat → Prop} {s : DS} (h : Rf w c S s) : RDn w c S s w :=
  ⟨h.grow (fun _ hq => .inl hq) (fun q hq => hq.elim (h.lt q) (fun h => by omega)), Fr.refl _ _⟩
theorem RDn.new {w w1 w2 : World} {c : Nat} {S : Nat → Prop} {s : DS} (h : RDn w c S s w1) (hb : Below w1.heap.size w1 w2) : RDn w c S s w2 := by
  obtain ⟨h1, h2⟩ := h
  have e1 := h2.size
  have e2 := hb.size
  refine ⟨(h1.below hb).grow (fun j hj => ?_) (fun j hj => ?_), h2.trans (Fr.of_new hb)⟩
  · rcases hj with hj | hj
    · exact .inl hj
    · exact .inr ⟨by omega, by omega⟩
  · rcases hj with hj | hj
    · have := h1.lt j (.inl hj); omega
    · omega
theorem RDn.front {w w1 w2 : World} {c : Nat} {S : Nat → Prop} {s : DS} (hb : Below w.heap.size w w1) (hS : ∀ q, S q → q < w.heap.size) (h : RDn w1 c S s w2) : RDn w c S s w2 := by
  obtain ⟨h1, h2⟩ := h
  have e1 := hb.size
  have e2 := h2.size
  refine ⟨h1.grow (fun j hj => ?_) (fun j hj => ?_), (Fr.of_new hb).trans h2⟩
  · rcases hj with hj | hj
    · exact .inl hj
    · exact .inr ⟨by omega, by omega⟩
  · rcases hj with hj | hj
    · have := hS j hj; omega
    · omega
set_option maxHeartbeats 4000000 in
theorem rsave_any (c : Nat) (S : Nat → Prop) (B : Int) (hB : B < 999999999000) (s : DS) (hok : DOk B s) (m : Mk) (a : Option Addr) (cap : Nat) (w : World) (h : Rf w c S s) (ht : RdT w a cap m.ts) (hta : BlkIn a m.ts.length fun b => ¬ S b) :
    Calls Tryz.prog 8 #[.pointer (some ⟨c, 0, none⟩), mkV m (.slice a m.ts.length cap)] w fun e w' => e = .returned (.int .i64 (saveS s m).2) ∧ RDn w c S (saveS s m).1 w' := by
  obtain ⟨n, hn⟩ : ∃ n, m.ts.length = n := ⟨_, rfl⟩
  rw [hn] at hta ⊢
  obtain ⟨W, hW, hbw, hsz, c0, c1, c2, c3⟩ := mkAt w m (.slice a n cap) 47
  have HSL : Hid (∀ q, S q → q < w.heap.size) := h.lt
  have HBW := Lib.hid hbw
  have HR := Lib.hid (h.below hbw)
  have HT := Lib.hid (ht.below hbw)
  have HTA := Lib.hid hta
  have HN := Lib.hid hn
  have HOK := Lib.hid hok
  have HNS : Hid (¬ S w.heap.size) := fun e => by have := h.lt _ e; omega
  have hW' : w.alloc (.cells #[.int .i64 m.wall, .int .i64 m.logi, .int .i64 m.node, .slice a n cap] 47) = W := hW.symm
  have HLT : Hid (w.heap.size < W.heap.size) := by show _ < _; omega
  obtain ⟨_, _, _, hoff, _, _, _⟩ := HR.out.row
  have HSAME := Lib.hid (RDn.refl HR.out)
  clear h ht hta hn hbw hW hsz hok
  go_enter Tryz.func8, Tryz.ntmps8
  cases hdn : s.dn with
  | true =>
    rw [hdn] at hoff
    have hres : Hid (saveS s m = (s, 12)) := by show _ = _; unfold saveS; rw [hdn]; rfl
    go_wp2_with fail
    go_ret
    rw [hres.out]
    exact ⟨rfl, RDn.front HBW.out HSL.out HSAME.out⟩
  | false =>
  rw [hdn] at hoff
  have HDN := Lib.hid hdn
  clear hdn
  go_wp2_with fail
  go_at_call 11
  have hmc := rmay_any m a cap W HT.out
  rw [HN.out] at hmc
  refine hmc.mono ?_
  clear hmc
  rintro e w2 ⟨rfl, hb2⟩
  cases hmay : mayM m with
  | false =>
    have hres : Hid (saveS s m = (s, 4)) := by show _ = _; unfold saveS; rw [HDN.out, hmay]; rfl
    have HD2 := Lib.hid (RDn.front HBW.out HSL.out (HSAME.out.new hb2))
    clear hb2 hmay
    go_wp2_with fail
    go_ret
    rw [hres.out]
    exact ⟨rfl, HD2.out⟩
  | true =>
  have HMAY := Lib.hid hmay
  have HB2 := Lib.hid hb2
  have hsv : saveS s m = sv2 (frameOf (encM m)) (if (getF nmF s.fs).isSome then removeS s nmF else (s, 0)) := by unfold saveS; rw [HDN.out, hmay]; rfl
  have HSV := Lib.hid hsv
  clear hmay hb2 hsv hoff
  go_wp2_with fail
  go_at_call 29
  refine (rread_any c S s nmF HOK.out.len w2 (HR.out.below HB2.out)).mono ?_
  rintro e w3 ⟨⟨al, cl, rfl, hrl⟩, rfl⟩
  clear hrl
  cases hg : getF nmF s.fs with
  | some f =>
    rw [hg] at HSV
    rw [show hasE s nmF = 0 by unfold hasE; rw [hg]; rfl]
    have HSV : Hid (saveS s m = sv2 (frameOf (encM m)) (removeS s nmF)) := HSV.out
    have HOK0 := Lib.hid (ok_remove HOK.out nmF)
    clear hg
    go_wp2_with fail
    go_at_call 30
    refine (rremove_any c S B (by omega) s nmF HOK.out w2 (HR.out.below HB2.out)).mono ?_
    rintro e w5 ⟨rfl, k1, k2⟩
    have hd5 : RDn W c S (removeS s nmF).1 w5 := RDn.front HB2.out (fun q hq => Nat.lt_of_lt_of_le (HSL.out q hq) (Nat.le_of_lt HLT.out)) ⟨k1, k2⟩
    obtain ⟨r0, hr0⟩ : ∃ r0, removeS s nmF = r0 := ⟨_, rfl⟩
    rw [hr0] at hd5 HSV HOK0 ⊢
    have HD5 := Lib.hid hd5
    clear hd5 hr0 HB2 k1 k2
    by_cases h0 : r0.2 = 0
    case neg =>
      have e0 : (r0.2 != 0) = true := by simpa using h0
      have hres : Hid (saveS s m = r0) := HSV.out.trans (if_pos h0)
      go_wp2_with fail
      go_ret
      rw [hres.out]
      exact ⟨rfl, RDn.front HBW.out HSL.out HD5.out⟩
    case pos =>
    have e0 : (r0.2 != 0) = false := by simpa using h0
    obtain ⟨s0, hs0⟩ : ∃ s0, r0.1 = s0 := ⟨_, rfl⟩
    have HSV : Hid (saveS s m = sv3 (frameOf (encM m)) (createS s0 nmF)) := by show _ = _; rw [HSV.out, ← hs0]; exact if_neg (fun h => h h0)
    rw [hs0] at HD5 HOK0
    clear h0 hs0
    go_wp2_with fail
    go_at_call 31
    have HOK1 := Lib.hid (ok_create HOK0.out nmF)
    refine (rcreate_any c (Sx S W w5) (B + 1) (by omega) s0 nmF (by decide) HOK0.out w5 HD5.out.1).mono ?_
    rintro e w6 ⟨rfl, k1, k2⟩
    have hd6 := HD5.out.step (Below.refl _ _) k1 k2
    obtain ⟨r1, hr1⟩ : ∃ r1, createS s0 nmF = r1 := ⟨_, rfl⟩
    rw [hr1] at hd6 HSV HOK1 ⊢
    have HD6 := Lib.hid hd6
    clear hd6 hr1 HD5 k1 k2
    by_cases h1 : r1.2 = 0
    case neg =>
      have e1 : (r1.2 != 0) = true := by simpa using h1
      have hres : Hid (saveS s m = r1) := HSV.out.trans (if_pos h1)
      go_wp2_with fail
      go_ret
      rw [hres.out]
      exact ⟨rfl, RDn.front HBW.out HSL.out HD6.out⟩
    case pos =>
    have e1 : (r1.2 != 0) = false := by simpa using h1
    have HSV : Hid (saveS s m = sv4 (appendS r1.1 nmF (frameOf (encM m)))) := HSV.out.trans (if_neg (fun h => h h1))
    have x0 := (HD6.out.2.cell (p := ⟨w.heap.size, 0, none⟩) HLT.out HNS.out).trans c0
    have x1 := (HD6.out.2.cell (p := ⟨w.heap.size, 1, none⟩) HLT.out HNS.out).trans c1
    have x2 := (HD6.out.2.cell (p := ⟨w.heap.size, 2, none⟩) HLT.out HNS.out).trans c2
    have x3 := (HD6.out.2.cell (p := ⟨w.heap.size, 3, none⟩) HLT.out HNS.out).trans c3
    have HT6 := Lib.hid (HT.out.keep HD6.out.2 (by rw [HN.out]; exact HTA.out))
    clear h1 c0 c1 c2 c3
    go_wp2_with fail
    go_at_call 33
    have hec := rbytes_any m HMAY.out a cap w6 HT6.out
    rw [HN.out] at hec
    refine hec.mono ?_
    clear hec
    rintro e w7 ⟨v7, rfl, ho7, hb7⟩
    obtain ⟨a7, c7, rfl, hr7⟩ := ho7.rd
    have HR7 := Lib.hid hr7
    have HB7 := Lib.hid hb7
    clear ho7 hr7 hb7 x0 x1 x2 x3
    go_wp2_with fail
    go_at_call 32
    refine (refFrame_any a7 _ c7 (encM m) w7 HR7.out).mono ?_
    rintro e w8 ⟨v8, hb8, hfe⟩
    obtain ⟨_, rfl, ho8⟩ := hfe.resolve_right (fun h => h.1 (by have := encM_len HMAY.out; omega))
    obtain ⟨a8, c8, rfl, hr8⟩ := ho8.rd
    have HR8 := Lib.hid hr8
    have HB8 := Lib.hid (HB7.out.trans (hb8.mono HB7.out.size))
    obtain ⟨F, hF⟩ : ∃ F, frameOf (encM m) = F := ⟨_, rfl⟩
    have hFl : F.length ≤ 292 := by rw [← hF, frameOf_length]; have := encM_len HMAY.out; omega
    rw [hF] at HSV HR8 ⊢
    clear ho8 hr8 hb8 hfe HR7 HB7 hF
    go_wp2_with fail
    go_at_call 34
    have HOK2 := Lib.hid (ok_append HOK1.out nmF F)
    refine (rappend_any c (Sx S W w6) (B + 1 + 1) (by omega) r1.1 nmF a8 _ c8 F (by omega) HOK1.out w8 (HD6.out.1.below HB8.out) HR8.out).mono ?_
    rintro e w9 ⟨rfl, k1, k2⟩
    have hd9 := HD6.out.step HB8.out k1 k2
    obtain ⟨r2, hr2⟩ : ∃ r2, appendS r1.1 nmF F = r2 := ⟨_, rfl⟩
    rw [hr2] at hd9 HSV HOK2 ⊢
    have HD9 := Lib.hid hd9
    clear hd9 hr2 HD6 HB8 HR8 hFl HT6 k1 k2
    by_cases h2 : r2.2 = 0
    case neg =>
      have e2 : (r2.2 != 0) = true := by simpa using h2
      have hres : Hid (saveS s m = r2) := HSV.out.trans (if_pos h2)
      go_wp2_with fail
      go_ret
      rw [hres.out]
      exact ⟨rfl, RDn.front HBW.out HSL.out HD9.out⟩
    case pos =>
    have e2 : (r2.2 != 0) = false := by simpa using h2
    have HSV : Hid (saveS s m = sv5 (syncS r2.1 nmF)) := HSV.out.trans (if_neg (fun h => h h2))
    clear h2
    go_wp2_with fail
    go_at_call 35
    have HOK3 := Lib.hid (ok_sync HOK2.out nmF)
    refine (rsync_any c (Sx S W w9) (B + 1 + 1 + 1) (by omega) r2.1 nmF HOK2.out w9 HD9.out.1).mono ?_
    rintro e wA ⟨rfl, k1, k2⟩
    have hdA := HD9.out.step (Below.refl _ _) k1 k2
    obtain ⟨r3, hr3⟩ : ∃ r3, syncS r2.1 nmF = r3 := ⟨_, rfl⟩
    rw [hr3] at hdA HSV HOK3 ⊢
    have HDA := Lib.hid hdA
    clear hdA hr3 HD9 k1 k2
    by_cases h3 : r3.2 = 0
    case neg =>
      have e3 : (r3.2 != 0) = true := by simpa using h3
      have hres : Hid (saveS s m = r3) := HSV.out.trans (if_pos h3)
      go_wp2_with fail
      go_ret
      rw [hres.out]
      exact ⟨rfl, RDn.front HBW.out HSL.out HDA.out⟩
    case pos =>
    have e3 : (r3.2 != 0) = false := by simpa using h3
    have HSV : Hid (saveS s m = renameS r3.1 nmF nmM) := HSV.out.trans (if_neg (fun h => h h3))
    clear h3
    go_wp2_with fail
    go_at_call 36
    refine (rrename_any c (Sx S W wA) (B + 1 + 1 + 1 + 1) (by omega) r3.1 nmF nmM (by decide) HOK3.out wA HDA.out.1).mono ?_
    rintro e wB ⟨rfl, k1, k2⟩
    have hdB := HDA.out.step (Below.refl _ _) k1 k2
    rw [← HSV.out] at hdB ⊢
    have HDB := Lib.hid hdB
    clear hdB HDA k1 k2
    go_wp2_with fail
    go_ret
    exact ⟨rfl, RDn.front HBW.out HSL.out HDB.out⟩
  | none =>
    rw [hg] at HSV
    rw [show hasE s nmF = 8 by unfold hasE; rw [hg]; rfl]
    obtain ⟨s0, hs0⟩ : ∃ s0, s = s0 := ⟨_, rfl⟩
    have HSV : Hid (saveS s m = sv3 (frameOf (encM m)) (createS s0 nmF)) := by show _ = _; rw [← hs0]; exact HSV.out
    have HOK0 : Hid (DOk (B + 1) s0) := by show DOk _ _; rw [← hs0]; exact HOK.out.mono (by omega)
    have hd5 := HSAME.out.new HB2.out
    rw [hs0] at hd5
    have HD5 := Lib.hid hd5
    clear hd5 hs0 hg
    go_wp2_with fail
    go_at_call 31
    have HOK1 := Lib.hid (ok_create HOK0.out nmF)
    refine (rcreate_any c (Sx S W w2) (B + 1) (by omega) s0 nmF (by decide) HOK0.out w2 HD5.out.1).mono ?_
    rintro e w6 ⟨rfl, k1, k2⟩
    have hd6 := HD5.out.step (Below.refl _ _) k1 k2
    obtain ⟨r1, hr1⟩ : ∃ r1, createS s0 nmF = r1 := ⟨_, rfl⟩
    rw [hr1] at hd6 HSV HOK1 ⊢
    have HD6 := Lib.hid hd6
    clear hd6 hr1 HD5 k1 k2
    by_cases h1 : r1.2 = 0
    case neg =>
      have e1 : (r1.2 != 0) = true := by simpa using h1
      have hres : Hid (saveS s m = r1) := HSV.out.trans (if_pos h1)
      go_wp2_with fail
      go_ret
      rw [hres.out]
      exact ⟨rfl, RDn.front HBW.out HSL.out HD6.out⟩
    case pos =>
    have e1 : (r1.2 != 0) = false := by simpa using h1
    have HSV : Hid (saveS s m = sv4 (appendS r1.1 nmF (frameOf (encM m)))) := HSV.out.trans (if_neg (fun h => h h1))
    have x0 := (HD6.out.2.cell (p := ⟨w.heap.size, 0, none⟩) HLT.out HNS.out).trans c0
    have x1 := (HD6.out.2.cell (p := ⟨w.heap.size, 1, none⟩) HLT.out HNS.out).trans c1
    have x2 := (HD6.out.2.cell (p := ⟨w.heap.size, 2, none⟩) HLT.out HNS.out).trans c2
    have x3 := (HD6.out.2.cell (p := ⟨w.heap.size, 3, none⟩) HLT.out HNS.out).trans c3
    have HT6 := Lib.hid (HT.out.keep HD6.out.2 (by rw [HN.out]; exact HTA.out))
    clear h1 c0 c1 c2 c3
    go_wp2_with fail
    go_at_call 33
    have hec := rbytes_any m HMAY.out a cap w6 HT6.out
    rw [HN.out] at hec
    refine hec.mono ?_
    clear hec
    rintro e w7 ⟨v7, rfl, ho7, hb7⟩
    obtain ⟨a7, c7, rfl, hr7⟩ := ho7.rd
    have HR7 := Lib.hid hr7
    have HB7 := Lib.hid hb7
    clear ho7 hr7 hb7 x0 x1 x2 x3
    go_wp2_with fail
    go_at_call 32
    refine (refFrame_any a7 _ c7 (encM m) w7 HR7.out).mono ?_
    rintro e w8 ⟨v8, hb8, hfe⟩
    obtain ⟨_, rfl, ho8⟩ := hfe.resolve_right (fun h => h.1 (by have := encM_len HMAY.out; omega))
    obtain ⟨a8, c8, rfl, hr8⟩ := ho8.rd
    have HR8 := Lib.hid hr8
    have HB8 := Lib.hid (HB7.out.trans (hb8.mono HB7.out.size))
    obtain ⟨F, hF⟩ : ∃ F, frameOf (encM m) = F := ⟨_, rfl⟩
    have hFl : F.length ≤ 292 := by rw [← hF, frameOf_length]; have := encM_len HMAY.out; omega
    rw [hF] at HSV HR8 ⊢
    clear ho8 hr8 hb8 hfe HR7 HB7 hF
    go_wp2_with fail
    go_at_call 34
    have HOK2 := Lib.hid (ok_append HOK1.out nmF F)
    refine (rappend_any c (Sx S W w6) (B + 1 + 1) (by omega) r1.1 nmF a8 _ c8 F (by omega) HOK1.out w8 (HD6.out.1.below HB8.out) HR8.out).mono ?_
    rintro e w9 ⟨rfl, k1, k2⟩
    have hd9 := HD6.out.step HB8.out k1 k2
    obtain ⟨r2, hr2⟩ : ∃ r2, appendS r1.1 nmF F = r2 := ⟨_, rfl⟩
    rw [hr2] at hd9 HSV HOK2 ⊢
    have HD9 := Lib.hid hd9
    clear hd9 hr2 HD6 HB8 HR8 hFl HT6 k1 k2
    by_cases h2 : r2.2 = 0
    case neg =>
      have e2 : (r2.2 != 0) = true := by simpa using h2
      have hres : Hid (saveS s m = r2) := HSV.out.trans (if_pos h2)
      go_wp2_with fail
      go_ret
      rw [hres.out]
      exact ⟨rfl, RDn.front HBW.out HSL.out HD9.out⟩
    case pos =>
    have e2 : (r2.2 != 0) = false := by simpa using h2
    have HSV : Hid (saveS s m = sv5 (syncS r2.1 nmF)) := HSV.out.trans (if_neg (fun h => h h2))
    clear h2
    go_wp2_with fail
    go_at_call 35
    have HOK3 := Lib.hid (ok_sync HOK2.out nmF)
    refine (rsync_any c (Sx S W w9) (B + 1 + 1 + 1) (by omega) r2.1 nmF HOK2.out w9 HD9.out.1).mono ?_
    rintro e wA ⟨rfl, k1, k2⟩
    have hdA := HD9.out.step (Below.refl _ _) k1 k2
    obtain ⟨r3, hr3⟩ : ∃ r3, syncS r2.1 nmF = r3 := ⟨_, rfl⟩
    rw [hr3] at hdA HSV HOK3 ⊢
    have HDA := Lib.hid hdA
    clear hdA hr3 HD9 k1 k2
    by_cases h3 : r3.2 = 0
    case neg =>
      have e3 : (r3.2 != 0) = true := by simpa using h3
      have hres : Hid (saveS s m = r3) := HSV.out.trans (if_pos h3)
      go_wp2_with fail
      go_ret
      rw [hres.out]
      exact ⟨rfl, RDn.front HBW.out HSL.out HDA.out⟩
    case pos =>
    have e3 : (r3.2 != 0) = false := by simpa using h3
    have HSV : Hid (saveS s m = renameS r3.1 nmF nmM) := HSV.out.trans (if_neg (fun h => h h3))
    clear h3
    go_wp2_with fail
    go_at_call 36
    refine (rrename_any c (Sx S W wA) (B + 1 + 1 + 1 + 1) (by omega) r3.1 nmF nmM (by decide) HOK3.out wA HDA.out.1).mono ?_
    rintro e wB ⟨rfl, k1, k2⟩
    have hdB := HDA.out.step (Below.refl _ _) k1 k2
    rw [← HSV.out] at hdB ⊢
    have HDB := Lib.hid hdB
    clear hdB HDA k1 k2
    go_wp2_with fail
    go_ret
    exact ⟨rfl, RDn.front HBW.out HSL.out HDB.out⟩
end Go.Proofs.YtkinhilkmjfjhaaGreat

/-! ### The operations of MarkPlays in memory; the laws' few. -/
namespace Go.Proofs.YtkinhilkmjfjhaaGreat
open Go.RowKit Go.Maps Go.Sort
set_option maxRecDepth 100000
attribute [local go_sem] bs_size bs_toList

structure PlV where
  k : Int
  m : Mk
  d : OpV
def plCells (p : PlV) (at_ : Option Addr) (c : Nat) (ab : Option Addr) (cb : Nat) (ap : Option Addr) (cp : Nat) : List Value :=
  [.int .i64 p.k, .int .i64 p.m.wall, .int .i64 p.m.logi, .int .i64 p.m.node, .slice at_ p.m.ts.length c, .int .i64 p.d.k, .int .i64 p.d.n, .string (bs p.d.nm), .string (bs p.d.tn), .slice ab p.d.b.length cb, .slice ap p.d.p.length cp]
def PlRd (w : World) (T : Nat → Prop) (p : PlV) (at_ : Option Addr) (c : Nat) (ab : Option Addr) (cb : Nat) (ap : Option Addr) (cp : Nat) : Prop :=
  RdT w at_ c p.m.ts ∧ BlkIn at_ p.m.ts.length T ∧ OpRd w T p.d ab cb ap cp
def RdPl (w : World) (T : Nat → Prop) (a : Option Addr) (n cap : Nat) (l : List PlV) : Prop :=
  n = l.length ∧ ∃ xs, Rd w a n cap 11 xs ∧ ∀ (i : Nat) (p : PlV), l[i]? = some p → ∃ at_ c ab cb ap cp, (∀ (j : Nat) (u : Value), (plCells p at_ c ab cb ap cp)[j]? = some u → xs[i * 11 + j]? = some u) ∧ PlRd w T p at_ c ab cb ap cp
theorem RdPl.at {w W : World} (hb : Below w.heap.size w W) {T : Nat → Prop} {a : Option Addr} {n cap : Nat} {l : List PlV} (h : RdPl w T a n cap l) {k : Nat} {p : PlV} (hp : l[k]? = some p) :
    ∃ b off at_ c ab cb ap cp, a = some ⟨b, off, none⟩ ∧ b < w.heap.size ∧ PlRd W T p at_ c ab cb ap cp ∧ ∀ (j : Nat) (u : Value), (plCells p at_ c ab cb ap cp)[j]? = some u → W.cell? ⟨b, off + k * 11 + j, none⟩ = some u := by
  obtain ⟨rfl, xs, hr, h2⟩ := h
  have hk : k < l.length := (List.getElem?_eq_some_iff.1 hp).1
  obtain ⟨at_, c, ab, cb, ap, cp, hc, h1, h3, h4⟩ := h2 k p hp
  obtain ⟨b, off, rfl, hbl, hcell⟩ := (hr.below hb).at (by omega)
  have hbl' : b < w.heap.size := by
    obtain ⟨b', off', e, hb', _⟩ := hr.at (by omega)
    cases e; exact hb'
  exact ⟨b, off, at_, c, ab, cb, ap, cp, rfl, hbl', ⟨h1.below hb, h3, h4.below hb⟩, fun j u hu => by rw [Nat.add_assoc]; exact hcell _ _ (hc j u hu)⟩
theorem STo : STy Tryz.prog 61 39 (.agg #[.int .i64 0, .int .i64 0, .string ByteArray.empty, .string ByteArray.empty, .slice none 0 0, .slice none 0 0]) 6 96 := ⟨Tryz.underlying61, ⟨_, rfl, by kernel_rfl, by kernel_rfl, by kernel_rfl⟩, rfl, by decide⟩
/-- Operations of the disk, laid behind one another. -/
def OwnOps (w : World) (base : Nat) (T : Nat → Prop) (v : Value) (os : List OpV) : Prop :=
  ∃ xs, w.ownsRow base 39 6 v os.length xs ∧ ∀ (i : Nat) (o : OpV), os[i]? = some o → ∃ ab cb ap cp, (∀ (j : Nat) (u : Value), (opCells o ab cb ap cp)[j]? = some u → xs[i * 6 + j]? = some u) ∧ OpRd w T o ab cb ap cp
theorem OwnOps.rd {w : World} {base : Nat} {T : Nat → Prop} {v : Value} {os : List OpV} (h : OwnOps w base T v os) : ∃ a cap, v = .slice a os.length cap ∧ RdOps w (fun _ => True) a os.length cap os := by
  obtain ⟨xs, h1, h2⟩ := h
  obtain ⟨a, cap, hv, hr⟩ := Rd.of_own h1
  refine ⟨a, cap, hv, rfl, fun _ _ _ => trivial, xs, hr, fun i o ho => ?_⟩
  obtain ⟨ab, cb, ap, cp, hc, hw, h8, hi, _, _⟩ := h2 i o ho
  exact ⟨ab, cb, ap, cp, hc, hw, h8, hi, fun _ _ _ => trivial, fun _ _ _ => trivial⟩
theorem opCells_one (o : OpV) (ab : Option Addr) (cb : Nat) (ap : Option Addr) (cp : Nat) : ∀ u ∈ opCells o ab cb ap cp, u.oneCell' = true := by
  intro u hu
  simp [opCells] at hu
  rcases hu with rfl | rfl | rfl | rfl | rfl | rfl <;> rfl
theorem Rd.one6 (w : World) (x0 x1 x2 x3 x4 x5 : Value) (e : TypeId) : Rd (w.alloc (.cells #[x0, x1, x2, x3, x4, x5] e)) (some ⟨w.heap.size, 0, none⟩) 1 1 6 [x0, x1, x2, x3, x4, x5] := by
  refine ⟨Nat.le_refl _, by decide, (fun h => by cases h), rfl, fun j u hj => ⟨w.heap.size, 0, rfl, ?_⟩⟩
  rw [Nat.zero_add, cell_of_row _ w.heap.size j #[x0, x1, x2, x3, x4, x5] e (0, 0) (heap_alloc_new w _)]
  simpa using hj
def OpsAt (w : World) (T : Nat → Prop) (xs : List Value) (os : List OpV) : Prop :=
  ∀ (i : Nat) (o : OpV), os[i]? = some o → ∃ ab cb ap cp, (∀ (j : Nat) (u : Value), (opCells o ab cb ap cp)[j]? = some u → xs[i * 6 + j]? = some u) ∧ OpRd w T o ab cb ap cp
theorem OpsAt.snoc {w w2 : World} {S T : Nat → Prop} {xs : List Value} {os : List OpV} {o : OpV} {ab : Option Addr} {cb : Nat} {ap : Option Addr} {cp : Nat} (h : OpsAt w T xs os) (hl : xs.length = os.length * 6) (hf : Fr S w w2) (hn : ∀ b, T b → ¬ S b) (ho : OpRd w2 T o ab cb ap cp) :
    OpsAt w2 T (xs ++ opCells o ab cb ap cp) (os ++ [o]) := fun i o' ho' => by
  rcases Nat.lt_or_ge i os.length with hi | hi
  · rw [List.getElem?_append_left hi] at ho'
    obtain ⟨ab', cb', ap', cp', hc, hr⟩ := h i o' ho'
    refine ⟨ab', cb', ap', cp', fun j u hu => ?_, hr.keep hf hn⟩
    have := hc j u hu
    rw [List.getElem?_append_left (List.getElem?_eq_some_iff.1 this).1]; exact this
  · have hlt := (List.getElem?_eq_some_iff.1 ho').1
    rw [List.length_append, List.length_singleton] at hlt
    obtain rfl : i = os.length := by omega
    rw [List.getElem?_append_right (Nat.le_refl _)] at ho'
    simp at ho'
    subst ho'
    refine ⟨ab, cb, ap, cp, fun j u hu => ?_, ho⟩
    rw [List.getElem?_append_right (by omega), show os.length * 6 + j - xs.length = j by omega]; exact hu
theorem OwnOps.nil (w : World) (base : Nat) (T : Nat → Prop) : OwnOps w base T (.slice none 0 0) [] := ⟨[], World.ownsRow_nil _ _ _ _, fun i o h => by simp at h⟩
def PlFew (l : List PlV) : Prop := l.length ≤ 100 ∧ (∀ p ∈ l, p.m.ts.length ≤ 200) ∧ FewOk (l.map PlV.d)
def PlFewPost (w : World) (l : List PlV) (e : Ending) (w' : World) : Prop := ∃ b : Bool, e = .returned (.bool b) ∧ (b = true → PlFew l) ∧ Below w.heap.size w w'
set_option maxHeartbeats 4000000 in
theorem plfew_any (a : Option Addr) (n cap : Nat) (l : List PlV) (w : World) (h : RdPl w (fun b => b < w.heap.size) a n cap l) : Calls Tryz.prog 5 #[.slice a n cap] w (PlFewPost w l) := by
  have H0 := Lib.hid h
  have HN := Lib.hid h.1
  have hn6 : n ≤ 9223372036854775807 := by obtain ⟨_, xs, hr, _⟩ := h; exact Nat.le_trans hr.1 hr.2.1
  clear h
  go_enter Tryz.func5, Tryz.ntmps5
  go_wp2_with fail
  go_loopw [3, 4] (fun o i wr => ∃ (k : Nat) (v : Value), k ≤ n ∧ k ≤ 100 ∧ i = .int .i64 k ∧ o = v ∧ Hid (OwnOps wr w.heap.size (fun b => b < w.heap.size) v ((l.take k).map PlV.d)) ∧ Hid (Below w.heap.size w wr) ∧ Hid (∀ p ∈ l.take k, p.m.ts.length ≤ 200)) (fun _ i _ => n - (intOf i).toNat)
  case atStart => exact ⟨0, _, Nat.zero_le _, Nat.zero_le _, rfl, rfl, OwnOps.nil _ _ _, Below.refl _ _, fun p hp => by simp at hp⟩
  case round =>
    obtain ⟨k, v, hk, hk1, rfl, rfl, HO, HB, HT⟩ := hrel
    by_cases hgo : k < n ∧ k < 100
    case neg =>
      by_cases hlt : k < n
      · have d0 : decide ((k : Int) < 100) = false := by simp; omega
        have dn : decide ((n : Int) ≤ 100) = false := by simp; omega
        clear hgo
        go_wp2_with fail
        go_ret
        exact ⟨false, rfl, (fun h => nomatch h), HB.out⟩
      · obtain rfl : k = n := by omega
        have hl : l.take k = l := List.take_of_length_le (by rw [HN.out]; exact Nat.le_refl _)
        rw [hl] at HO HT
        obtain ⟨ad, cd, hv, hrd⟩ := HO.out.rd
        subst hv
        have dn : decide ((k : Int) ≤ 100) = true := by simp; omega
        have hfw := few_any ad _ cd _ _ _ hrd
        rw [List.length_map] at hfw
        have HFW := Lib.hid hfw
        clear hgo hrd hl hfw
        go_wp2_with fail
        go_at_call 18
        with_reducible refine (HFW.out).mono ?_
        rintro e w2 ⟨b, rfl, hb, hbl⟩
        have HBB := Lib.hid hb
        have HBL := Lib.hid (HB.out.trans (hbl.mono HB.out.size))
        clear hb hbl
        go_wp2_with fail
        go_ret
        exact ⟨b, rfl, fun h => ⟨by rw [← HN.out]; omega, HT.out, HBB.out h⟩, HBL.out⟩
    case pos =>
    obtain ⟨hlt, h100⟩ := hgo
    obtain ⟨p, hp⟩ : ∃ p, l[k]? = some p := ⟨_, List.getElem?_eq_getElem (by have := HN.out; omega)⟩
    obtain ⟨b, off, at_, ct, ab, cb, ap, cp, rfl, hbl, hrd, hc⟩ := H0.out.at HB.out hp
    have q4 := hc 4 _ rfl
    have q5 := hc 5 _ rfl
    have q6 := hc 6 _ rfl
    have q7 := hc 7 _ rfl
    have q8 := hc 8 _ rfl
    have q9 := hc 9 _ rfl
    have q10 := hc 10 _ rfl
    have d0 : decide ((k : Int) < 100) = true := by simp; omega
    have HTK : Hid (l.take (k + 1) = l.take k ++ [p]) := by show _ = _; rw [List.take_add_one, hp]; rfl
    have HRD := Lib.hid hrd.2.2
    clear hc hrd hp
    by_cases h200 : 200 < p.m.ts.length
    case pos =>
      have d1 : decide ((200 : Int) < p.m.ts.length) = true := by simp; omega
      go_wp2_with fail
      go_ret
      exact ⟨false, rfl, (fun h => nomatch h), HB.out⟩
    case neg =>
    have d1 : decide ((200 : Int) < p.m.ts.length) = false := by simp; omega
    have H200 : Hid (p.m.ts.length ≤ 200) := by show _ ≤ _; omega
    have hba : Below wr.heap.size wr (wr.alloc (.cells #[.int .i64 p.d.k, .int .i64 p.d.n, .string (bs p.d.nm), .string (bs p.d.tn), .slice ab p.d.b.length cb, .slice ap p.d.p.length cp] 39)) := (Below.refl _ _).alloc (Nat.le_refl _) _
    have HBA := Lib.hid hba
    have hbase : w.heap.size ≤ (wr.alloc (.cells #[.int .i64 p.d.k, .int .i64 p.d.n, .string (bs p.d.nm), .string (bs p.d.tn), .slice ab p.d.b.length cb, .slice ap p.d.p.length cp] 39)).heap.size := Nat.le_trans HB.out.size hba.size
    have HO2 := Lib.hid HO.out
    obtain ⟨xs, hxs, hcs⟩ := HO.out
    have HXS := Lib.hid hxs
    have HCS : Hid (OpsAt wr (fun b => b < w.heap.size) xs ((l.take k).map PlV.d)) := hcs
    have hlen : ((l.take k).map PlV.d).length ≤ 100 := by rw [List.length_map, List.length_take]; omega
    clear h200 hba hxs hcs
    go_wp2_with (at_builtin; refine wpList_app STo rfl (.tmp 23) (.tmp 29) rfl w.heap.size rfl (ownsRow_below HXS.out (Nat.le_refl _) HBA.out) rfl (Rd.one6 wr _ _ _ _ _ _ _) (opCells_one p.d ab cb ap cp) (by omega) (by unfold maxLen; omega) hbase ?_)
    intro v' w5 ho5 _ hg5
    have hle : ((l.take k).map PlV.d).length = min k l.length := by rw [List.length_map, List.length_take]
    have hf5 : Fr (fun q => w.heap.size ≤ q) wr w5 := (Fr.of_new HBA.out).grown hg5 fun q _ e => (World.ownsRow.lt HXS.out q e).1
    have hb5 : Below w.heap.size w w5 := HB.out.trans (hf5.below HB.out.size fun q hq e => by omega)
    have hown : OwnOps w5 w.heap.size (fun b => b < w.heap.size) v' ((l.take (k + 1)).map PlV.d) := by
      rw [HTK.out, List.map_append]
      refine ⟨xs ++ opCells p.d ab cb ap cp, by rw [List.length_append, hle]; exact ho5, ?_⟩
      exact HCS.out.snoc HXS.out.1 hf5 (fun b hb e => by omega) (HRD.out.keep hf5 fun b hb e => by omega)
    have HOWN := Lib.hid hown
    have HB5 := Lib.hid hb5
    have HTT : Hid (∀ p ∈ l.take (k + 1), p.m.ts.length ≤ 200) := fun q hq => by
      rw [HTK.out] at hq
      rcases List.mem_append.1 hq with hq | hq
      · exact HT.out q hq
      · simp at hq; rw [hq]; exact H200.out
    clear ho5 hg5 hle hf5 hb5 hown q4 q5 q6 q7 q8 q9 q10 hbase
    go_wp2_with fail
    go_roundw
    case rel => exact ⟨k + 1, v', by omega, by omega, by go_num, rfl, HOWN.out, HB5.out, HTT.out⟩
    case measure => simp [intOf]; omega
end Go.Proofs.YtkinhilkmjfjhaaGreat
