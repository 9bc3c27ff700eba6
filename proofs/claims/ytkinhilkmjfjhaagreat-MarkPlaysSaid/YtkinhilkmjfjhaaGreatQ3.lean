/-
  The writer's bytes, the readers' Int and Count as steps of a reader's way; bytes.Equal; a mark's bytes as the program writes them.
-/
import Derived.Test.YtkinhilkmjfjhaaGreatQ2
import Derived.Test.YtkinhilkmjfjhaaGreatMY
namespace Go.Proofs.YtkinhilkmjfjhaaGreat
open Go.RowKit Go.Maps Go.Sort
set_option maxRecDepth 100000
attribute [local go_sem] bs_size bs_toList

theorem wBytes_any (p : Nat) (v : Value) (l : List UInt8) (hl : l.length ≤ 100000000) (w : World) (h : Wr w p v l) :
    Calls Tryz.prog 77 #[.pointer (some ⟨p, 0, none⟩)] w fun e w' => ∃ v', e = .returned v' ∧ Own8 w' w.heap.size 5 v' l ∧ Below w.heap.size w w' := by
  have HW := Lib.hid h
  obtain ⟨c0, f0, hown⟩ := h
  have hp := HW.out.lt
  obtain ⟨a1, cap1, rfl, hr⟩ := hown.rd
  have HR := Lib.hid hr
  clear hown hr
  go_enter Tryz.func77, Tryz.ntmps77
  go_wp2_with (at_builtin; refine wpList_app S8 rfl (.tmp 3) (.tmp 7) rfl w.heap.size rfl (World.ownsRow_lit w #[] 0 (Nat.le_refl _) (by decide) rfl) rfl (HR.out.2.below ((Below.refl _ _).alloc (Nat.le_refl _) _)) (B8_one _) (by omega) (by simp [maxLen]; omega) (by simp) ?_)
  intro v2 w2 hown' hb _
  have HO := Lib.hid (Own8.mk (l := l) hown' (by simp) (by simp))
  clear hown'
  go_wp2
  go_ret
  exact ⟨_, rfl, HO.out, ((Below.refl _ _).alloc (Nat.le_refl _) _).trans hb⟩

def RrS (w : World) (p : Nat) (a : Option Addr) (cap : Nat) (l : List UInt8) (s : RS) : Prop := Rr w p a cap l (s.i : Int) s.f s.q
def RDoneS (w : World) (p : Nat) (a : Option Addr) (cap : Nat) (l : List UInt8) (s : RS) (w' : World) : Prop := RrS w' p a cap l s ∧ Fr (IsP p) w w'
set_option maxHeartbeats 1000000 in
theorem rdInt_any (p : Nat) (a : Option Addr) (cap : Nat) (l : List UInt8) (hl : l.length ≤ 1000000) (s : RS) (hi : s.i ≤ l.length) (w : World) (h : RrS w p a cap l s) :
    Calls Tryz.prog 49 #[.pointer (some ⟨p, 0, none⟩)] w fun e w' => e = .returned (.int .i64 (vlI l s)) ∧ RDoneS w p a cap l (nxI l s) w' := by
  obtain ⟨i, f, q⟩ := s
  have h : Rr w p a cap l (i : Int) f q := h
  have hi : i ≤ l.length := hi
  have HR := Lib.hid h
  obtain ⟨h0, h1, h2, h3, f1, f2, f3, hrd, _⟩ := h
  clear hrd
  by_cases hf : f = 0
  · subst hf
    by_cases hE : rdE (l.drop i) = 0
    · have HC := Lib.hid (num_ok (a := a) (p := p) hl hi (i0 := i) (q := q) hE w HR.out)
      have hr1 : Hid (vlI l ⟨i, 0, q⟩ = rdN (l.drop i)) := by show _ = _; unfold vlI; rw [if_neg (by simp)]
      have hr2 : Hid (nxI l ⟨i, 0, q⟩ = ⟨cN l i, 0, q⟩) := by show _ = _; unfold nxI; rw [if_neg (by simp), if_pos hE]
      clear hE
      go_enter Tryz.func49, Tryz.ntmps49
      go_wp2_with fail
      go_at_call 92
      refine (HC.out).mono ?_
      rintro e w1 ⟨rfl, hd1⟩
      have HD1 := Lib.hid hd1
      obtain ⟨g0, g1, g2, g3, k1, k2, k3, _, _⟩ := hd1.1
      have hp1 : p < w1.heap.size := World.block_lt_of_cell? w1 _ g0
      clear hd1 h0 h1 h2 h3 f1 f2 f3
      go_wp2
      go_ret
      rw [hr1.out, hr2.out]
      exact ⟨rfl, HD1.out.setAt _⟩
    · have HC := Lib.hid (num_bad (a := a) (p := p) hl hi (i0 := i) (q := q) hE w HR.out)
      have hr1 : Hid (vlI l ⟨i, 0, q⟩ = 0) := by show _ = _; unfold vlI; rw [if_neg (by simp)]; exact rdN_bad hE
      have hr2 : Hid (nxI l ⟨i, 0, q⟩ = ⟨i, rdE (l.drop i), cP l i⟩) := by show _ = _; unfold nxI; rw [if_neg (by simp), if_neg hE]
      clear hE
      go_enter Tryz.func49, Tryz.ntmps49
      go_wp2_with fail
      go_at_call 92
      refine (HC.out).mono ?_
      rintro e w1 ⟨rfl, hd1⟩
      have HD1 := Lib.hid hd1
      clear hd1 h0 h1 h2 h3 f1 f2 f3
      go_wp2
      go_ret
      rw [hr1.out, hr2.out]
      exact ⟨rfl, HD1.out⟩
  · have hd : (f != 0) = true := by simpa using hf
    have hr1 : Hid (vlI l ⟨i, f, q⟩ = 0) := by show _ = _; unfold vlI; rw [if_pos hf]
    have hr2 : Hid (nxI l ⟨i, f, q⟩ = ⟨i, f, q⟩) := nxI_bad hf
    go_enter Tryz.func49, Tryz.ntmps49
    go_wp2
    go_ret
    rw [hr1.out, hr2.out]
    exact ⟨rfl, HR.out, Fr.refl _ _⟩
set_option maxHeartbeats 1000000 in
theorem rdCount_any (most : Int) (p : Nat) (a : Option Addr) (cap : Nat) (l : List UInt8) (hl : l.length ≤ 1000000) (s : RS) (hi : s.i ≤ l.length) (w : World) (h : RrS w p a cap l s) :
    Calls Tryz.prog 50 #[.pointer (some ⟨p, 0, none⟩), .int .i64 most] w fun e w' => e = .returned (.int .i64 (vlC l most s)) ∧ RDoneS w p a cap l (nxC l most s) w' := by
  obtain ⟨i, f, q⟩ := s
  have h : Rr w p a cap l (i : Int) f q := h
  have hi : i ≤ l.length := hi
  have HR := Lib.hid h
  obtain ⟨h0, h1, h2, h3, f1, f2, f3, hrd, _⟩ := h
  clear hrd
  by_cases hf : f = 0
  · subst hf
    have HC := Lib.hid (count_any most 3 rfl i p a cap l hl hi q w HR.out)
    by_cases hE : cE l i most 3 = 0
    · have hr1 : Hid (vlC l most ⟨i, 0, q⟩ = rdN (l.drop i)) := by show _ = _; unfold vlC; rw [if_neg (by simp), if_pos hE]
      have hr2 : Hid (nxC l most ⟨i, 0, q⟩ = ⟨cN l i, 0, q⟩) := by show _ = _; unfold nxC; rw [if_neg (by simp), if_pos hE]
      have HE := Lib.hid hE
      clear hE
      go_enter Tryz.func50, Tryz.ntmps50
      go_wp2_with fail
      go_at_call 93
      refine (HC.out).mono (fun e w1 hp => ?_)
      obtain ⟨rfl, hd1⟩ := hp.1 HE.out
      have HD1 := Lib.hid hd1
      obtain ⟨g0, g1, g2, g3, k1, k2, k3, _, _⟩ := hd1.1
      have hp1 : p < w1.heap.size := World.block_lt_of_cell? w1 _ g0
      clear hd1 h0 h1 h2 h3 f1 f2 f3 hp
      go_wp2
      go_ret
      rw [hr1.out, hr2.out]
      exact ⟨rfl, HD1.out.setAt _⟩
    · have hr1 : Hid (vlC l most ⟨i, 0, q⟩ = 0) := by show _ = _; unfold vlC; rw [if_neg (by simp), if_neg hE]
      have hr2 : Hid (nxC l most ⟨i, 0, q⟩ = ⟨i, cE l i most 3, cP l i⟩) := by show _ = _; unfold nxC; rw [if_neg (by simp), if_neg hE]
      have HE := Lib.hid hE
      clear hE
      go_enter Tryz.func50, Tryz.ntmps50
      go_wp2_with fail
      go_at_call 93
      refine (HC.out).mono (fun e w1 hp => ?_)
      obtain ⟨rfl, hd1⟩ := hp.2 HE.out
      have HD1 := Lib.hid hd1
      clear hd1 h0 h1 h2 h3 f1 f2 f3 hp
      go_wp2
      go_ret
      rw [hr1.out, hr2.out]
      exact ⟨rfl, HD1.out⟩
  · have hd : (f != 0) = true := by simpa using hf
    have hr1 : Hid (vlC l most ⟨i, f, q⟩ = 0) := by show _ = _; unfold vlC; rw [if_pos hf]
    have hr2 : Hid (nxC l most ⟨i, f, q⟩ = ⟨i, f, q⟩) := by show _ = _; unfold nxC; rw [if_pos hf]
    go_enter Tryz.func50, Tryz.ntmps50
    go_wp2
    go_ret
    rw [hr1.out, hr2.out]
    exact ⟨rfl, HR.out, Fr.refl _ _⟩
theorem bytesEq_any (a a' : Option Addr) (n n' cap cap' : Nat) (l l' : List UInt8) (w : World) (h : Rd8 w a n cap l) (h' : Rd8 w a' n' cap' l') :
    Calls Tryz.prog 52 #[.slice a n cap, .slice a' n' cap'] w fun e w' => e = .returned (.bool (l == l')) ∧ w' = w := by
  have q1 := run_toStr h 36 5 9 Tryz.underlying36 (by kernel_rfl) Tryz.underlying9
  have q2 := run_toStr h' 36 5 9 Tryz.underlying36 (by kernel_rfl) Tryz.underlying9
  go_enter Tryz.func52, Tryz.ntmps52
  go_wp2
  go_ret
  exact ⟨rfl, rfl⟩

/-! ### a mark's bytes -/
def hd4 (m : Mk) : List Int := [m.wall, m.logi, m.node, (m.ts.length : Nat)]
def encH (m : Mk) (k : Nat) : List UInt8 := ((hd4 m).take k).flatMap intB
theorem encH_next (m : Mk) {k : Nat} (hk : k < 4) : encH m (k + 1) = encH m k ++ intB ((hd4 m).getD k 0) := by
  have hl : k < (hd4 m).length := hk
  unfold encH
  rw [List.take_add_one, List.getElem?_eq_getElem hl, List.flatMap_append]
  simp [List.getD, hl]
theorem encH_all (m : Mk) : encH m 4 ++ encT m.ts = encM m := by simp [encH, hd4, encM]
theorem hd4_bd {m : Mk} (h : mayM m = true) (k : Nat) : -9223372036854775808 ≤ (hd4 m).getD k 0 ∧ (hd4 m).getD k 0 ≤ 9223372036854775807 := by
  have h1 := may_hb h
  have h2 := may_len h
  match k with
  | 0 => exact ⟨by show _ ≤ m.wall; omega, by show m.wall ≤ _; omega⟩
  | 1 => exact ⟨by show _ ≤ m.logi; omega, by show m.logi ≤ _; omega⟩
  | 2 => exact ⟨by show _ ≤ m.node; omega, by show m.node ≤ _; omega⟩
  | 3 => exact ⟨by show _ ≤ ((m.ts.length : Nat) : Int); omega, by show ((m.ts.length : Nat) : Int) ≤ _; omega⟩
  | k + 4 => exact ⟨by show _ ≤ (0 : Int); omega, by show (0 : Int) ≤ _; omega⟩
theorem encH_len {m : Mk} (h : mayM m = true) (k : Nat) : (encH m k).length ≤ 280 := by
  have h1 := encM_len h
  have h2 : encM m = encH m 4 ++ encT m.ts := (encH_all m).symm
  have h3 : (encH m k).length ≤ (encH m 4).length := by
    have e : encH m 4 = encH m k ++ ((hd4 m).drop k).flatMap intB := by
      unfold encH
      rw [← List.flatMap_append, List.take_append_drop]; rfl
    rw [e, List.length_append]; omega
  rw [h2, List.length_append] at h1; omega
theorem encT_take_len {m : Mk} (h : mayM m = true) (k : Nat) : (encH m 4 ++ encT (m.ts.take k)).length ≤ 280 := by
  have h1 := encM_len h
  have h2 : encM m = encH m 4 ++ encT m.ts := (encH_all m).symm
  have e : encT m.ts = encT (m.ts.take k) ++ encT (m.ts.drop k) := by unfold encT; rw [← List.flatMap_append, List.take_append_drop]
  rw [h2, e, List.length_append, List.length_append] at h1
  rw [List.length_append]; omega
theorem WDone.low {w w' : World} {p : Nat} {v : Value} {l : List UInt8} (h : Wr w p v l) (hf : Fr (WFr v p) w w') : Below p w w' :=
  hf.below (Nat.le_of_lt h.lt) fun k hk e => by
    rcases e with e | e
    · omega
    · have := (World.ownsRow.lt h.2.2 k e).1; omega
set_option maxHeartbeats 4000000 in
theorem encode_any (m : Mk) (hm : mayM m = true) (a : Option Addr) (cap : Nat) (w : World) (h : RdT w a cap m.ts) :
    Calls Tryz.prog 25 #[mkV m (.slice a m.ts.length cap)] w fun e w' => ∃ v, e = .returned v ∧ Own8 w' w.heap.size 5 v (encM m) ∧ Below w.heap.size w w' := by
  obtain ⟨n, hn⟩ : ∃ n, m.ts.length = n := ⟨_, rfl⟩
  have hn12 : n ≤ 12 := by rw [← hn]; exact may_len hm
  rw [hn]
  obtain ⟨W, hW, hbw, hsz, c0, c1, c2, c3⟩ := mkAt w m (.slice a n cap) 35
  have HM := Lib.hid hm
  have HB := Lib.hid hbw
  have HR := Lib.hid (h.below hbw)
  have HN := Lib.hid hn
  have hW' : w.alloc (.cells #[.int .i64 m.wall, .int .i64 m.logi, .int .i64 m.node, .slice a n cap] 35) = W := hW.symm
  have hlt0 : w.heap.size < W.heap.size := by omega
  have C3 := Lib.hid c3
  clear h hn hbw hW hsz hm
  go_enter Tryz.func25, Tryz.ntmps25
  go_wp2_with fail
  go_at_call 75
  refine (newWriter_any W).mono ?_
  rintro e W1 ⟨rfl, rfl⟩
  have hw1 := newWriter_wr W
  obtain ⟨W1, hW1⟩ : ∃ W1, W1 = W.alloc (.cells #[.slice none 0 0] 136) := ⟨_, rfl⟩
  rw [← hW1] at hw1 ⊢
  have hb1 : Below W.heap.size W W1 := by rw [hW1]; exact (Below.refl _ _).alloc (Nat.le_refl _) _
  have hs1 : W1.heap.size = W.heap.size + 1 := by rw [hW1]; simp
  have e0 := (hb1.cell (p := ⟨w.heap.size, 0, none⟩) hlt0).trans c0
  have e1 := (hb1.cell (p := ⟨w.heap.size, 1, none⟩) hlt0).trans c1
  have e2 := (hb1.cell (p := ⟨w.heap.size, 2, none⟩) hlt0).trans c2
  have e3 := (hb1.cell (p := ⟨w.heap.size, 3, none⟩) hlt0).trans c3
  have HW1 := Lib.hid hw1
  have HB1 := Lib.hid hb1
  clear hw1 hb1 hW1 c0 c1 c2 c3 hW'
  have hrow := heap_alloc_new W1 (.cells #[.int .i64 m.wall, .int .i64 m.logi, .int .i64 m.node, .int .i64 (n : Nat)] 3)
  have hb2 : Below W1.heap.size W1 (W1.alloc (.cells #[.int .i64 m.wall, .int .i64 m.logi, .int .i64 m.node, .int .i64 (n : Nat)] 3)) := (Below.refl _ _).alloc (Nat.le_refl _) _
  obtain ⟨W2, hW2⟩ : ∃ W2, W1.alloc (.cells #[.int .i64 m.wall, .int .i64 m.logi, .int .i64 m.node, .int .i64 (n : Nat)] 3) = W2 := ⟨_, rfl⟩
  rw [hW2] at hrow hb2
  have hb2' : Below W.heap.size W W2 := HB1.out.trans (hb2.mono (by omega))
  rw [hs1] at hrow
  have HROW := Lib.hid hrow
  have HB2 := Lib.hid hb2'
  have HW2 := Lib.hid (HW1.out.below hb2)
  clear hb2 hb2' hrow HW1 HB1
  go_wp2_with fail
  clear hW2 e0 e1 e2 e3 hs1
  go_loopw [5, 23] (fun _ i wr => ∃ (k : Nat) (v : Value), k ≤ 4 ∧ i = .int .i64 k ∧ Hid (Wr wr W.heap.size v (encH m k)) ∧ Hid (Below W.heap.size W wr) ∧ Hid (wr.heap[W.heap.size + 1]? = W2.heap[W.heap.size + 1]?) ∧ Hid (v.ownBlock ≠ some (W.heap.size + 1))) (fun _ i _ => 4 - (intOf i).toNat)
  case atStart => exact ⟨0, _, by omega, rfl, HW2.out, HB2.out, rfl, fun h => by cases h⟩
  case round =>
    clear HW2 HB2
    obtain ⟨k, v, hk, rfl, HWR, HBr, HQ, HV⟩ := hrel
    by_cases hlt : k < 4
    · have hcell : wr.cell? ⟨W.heap.size + 1, k, none⟩ = some (.int .i64 ((hd4 m).getD k 0)) := by
        rw [cell_of_row wr (W.heap.size + 1) k _ _ _ (HQ.out.trans HROW.out)]
        match k, hlt with
        | 0, _ => rfl
        | 1, _ => rfl
        | 2, _ => rfl
        | 3, _ => show some (Value.int .i64 (n : Nat)) = some (.int .i64 (m.ts.length : Nat)); rw [HN.out]
      obtain ⟨x, hx⟩ : ∃ x, (hd4 m).getD k 0 = x := ⟨_, rfl⟩
      have hxb := hd4_bd HM.out k
      have hnx := encH_next m hlt
      rw [hx] at hcell hxb hnx
      have HX := Lib.hid hnx
      have HXB := Lib.hid hxb
      clear hx hxb hnx
      go_wp2_with fail
      go_at_call 76
      refine (wInt_any x HXB.out.1 HXB.out.2 W.heap.size v _ (by have := encH_len HM.out k; omega) wr HWR.out).mono ?_
      rintro e w3 ⟨rfl, v3, hw3, hf3, ho3⟩
      have HW3 := Lib.hid hw3
      have HB3 := Lib.hid (HBr.out.trans (WDone.low HWR.out hf3))
      have HQ3 : Hid (w3.heap[W.heap.size + 1]? = W2.heap[W.heap.size + 1]?) := (hf3.block (W.heap.size + 1) (by have := World.block_lt_of_cell? wr _ hcell; exact this) (fun e => by rcases e with e | e; omega; exact HV.out e)).trans HQ.out
      have HV3 : Hid (v3.ownBlock ≠ some (W.heap.size + 1)) := fun e => by
        rcases ho3 _ e with h | h
        · exact HV.out h
        · have := World.block_lt_of_cell? wr _ hcell; have : W.heap.size + 1 < wr.heap.size := this; omega
      clear hw3 hf3 ho3 hcell
      go_wp2_with fail
      go_roundw
      case rel => exact ⟨k + 1, v3, by omega, by go_num, by rw [HX.out]; exact HW3.out, HB3.out, HQ3.out, HV3.out⟩
      case measure => simp [intOf]; omega
    · obtain rfl : k = 4 := by omega
      rw [show ((4 : Nat) : Int) = 4 from rfl]
      have e3 := (HBr.out.cell (p := ⟨w.heap.size, 3, none⟩) hlt0).trans C3.out
      clear HQ HV HROW
      go_wp2_with fail
      go_loopw [7, 34] (fun _ i wr => ∃ (k : Nat) (v : Value), k ≤ n ∧ i = .int .i64 k ∧ Hid (Wr wr W.heap.size v (encH m 4 ++ encT (m.ts.take k))) ∧ Hid (Below W.heap.size W wr)) (fun _ i _ => n - (intOf i).toNat)
      case atStart => exact ⟨0, v, Nat.zero_le _, rfl, by show Wr _ _ _ _; have := HWR.out; simpa [encT] using this, HBr.out⟩
      case round =>
        clear HWR HBr e3
        obtain ⟨k, v, hk, rfl, HWR, HBr⟩ := hrel
        by_cases hlt : k < n
        · obtain ⟨b, off, rfl, hbl, q0, q1⟩ := (HR.out.below HBr.out).at (k := k) (by rw [HN.out]; exact hlt)
          have hg : m.ts[k]? = some (m.ts.getD k (0, 0)) := by simp [List.getD, show k < m.ts.length by rw [HN.out]; exact hlt]
          obtain ⟨c, hc⟩ : ∃ c, m.ts.getD k (0, 0) = c := ⟨_, rfl⟩
          rw [hc] at q0 q1 hg
          have hcb := may_bd HM.out c (List.mem_of_getElem? hg)
          have HX := Lib.hid (encT_next hg)
          obtain ⟨V, hV, hbv, hvs, v0, v1⟩ := curAt wr c.1 c.2 60
          have hV' : wr.alloc (.cells #[.int .i64 c.1, .int .i64 c.2] 60) = V := hV.symm
          have HWV := Lib.hid (HWR.out.below hbv)
          have HBV := Lib.hid (HBr.out.trans (hbv.mono HBr.out.size))
          have hne : wr.heap.size ≠ W.heap.size := by have := HWR.out.lt; omega
          have hno : v.ownBlock ≠ some wr.heap.size := fun e => by have := (World.ownsRow.lt HWR.out.2.2 _ e).2; omega
          have HCB := Lib.hid hcb
          clear hc hg hcb hbl hV hbv hvs
          go_wp2_with fail
          clear q0 q1
          go_at_call 76
          refine (wInt_any c.1 (by have := HCB.out; omega) (by have := HCB.out; omega) W.heap.size v _ (by have := encT_take_len HM.out k; omega) V HWV.out).mono ?_
          rintro e w3 ⟨rfl, v3, hw3, hf3, ho3⟩
          have u1 := WDone.cell hf3 v1 hne hno
          have HW3 := Lib.hid hw3
          have HB3 := Lib.hid (HBV.out.trans (WDone.low HWV.out hf3))
          clear hw3 hf3 ho3 v0 v1 hV'
          go_wp2_with fail
          go_at_call 76
          refine (wInt_any c.2 (by have := HCB.out; omega) (by have := HCB.out; omega) W.heap.size v3 _ (by have := encT_take_len HM.out k; have := intB_len c.1 (by have := HCB.out; omega) (by have := HCB.out; omega); rw [List.length_append]; omega) w3 HW3.out).mono ?_
          rintro e w4 ⟨rfl, v4, hw4, hf4, ho4⟩
          have HW4 := Lib.hid hw4
          have HB4 := Lib.hid (HB3.out.trans (WDone.low HW3.out hf4))
          clear hw4 hf4 ho4 u1
          go_wp2_with fail
          go_roundw
          case rel => exact ⟨k + 1, v4, by omega, by go_num, by rw [HX.out, ← List.append_assoc, ← List.append_assoc]; exact HW4.out, HB4.out⟩
          case measure => simp [intOf]; omega
        · obtain rfl : k = n := by omega
          have hall : Hid (encH m 4 ++ encT (m.ts.take k) = encM m) := by show _ = _; rw [← HN.out, List.take_length, encH_all]
          rw [hall.out] at HWR
          go_wp2_with fail
          go_at_call 77
          refine (wBytes_any _ v _ (by have := encM_len HM.out; omega) wr HWR.out).mono ?_
          rintro e w3 ⟨v3, rfl, hown, hb3⟩
          have hsz : w.heap.size ≤ wr.heap.size := Nat.le_trans (Nat.le_of_lt hlt0) HBr.out.size
          have HO := Lib.hid (hown.mono hsz)
          have HB3 := Lib.hid ((HB.out.trans (HBr.out.mono (Nat.le_of_lt hlt0))).trans (hb3.mono hsz))
          clear hown hb3 hsz
          go_wp2_with fail
          go_ret
          exact ⟨_, rfl, HO.out, HB3.out⟩
end Go.Proofs.YtkinhilkmjfjhaaGreat
