/-
  The reference's disk: drop.
-/
import Derived.Test.YtdbfkneklkdnaaaE31
namespace Go.Proofs.Ytdbfkneklkdnaaa
open Go.RowKit Go.Maps Go.Sort
set_option maxRecDepth 100000
attribute [local go_sem] bs_size bs_toList

theorem below_app0 {base : Nat} {W wr w3 : World} {o : Obj} {e : TypeId} {size : Nat} {v : Value} {n : Nat} {xs : List Value} (h : Below base W wr) (hb : base ≤ wr.heap.size) (ho : wr.ownsRow base e size v n xs) (hg : (wr.alloc o).grownBy w3 v.ownBlock) : Below base W w3 :=
  h.alloc hb o |>.grown hg (Nat.le_trans hb ((Below.refl 0 wr).alloc (Nat.zero_le _) o).size) (fun q hq => (World.ownsRow.lt ho q hq).1)
theorem skp_le {α : Type} (l : List α) (k n : Nat) : (skp l k n).length ≤ n := by
  unfold skp; split
  · exact List.length_take_le _ _
  · rw [List.length_append]
    have := List.length_take_le k l
    have := List.length_take_le (n - k - 1) (l.drop (k + 1))
    omega
set_option maxHeartbeats 2000000 in
theorem drop_any_ (c : Nat) (S : Nat → Prop) (s : DS) (k : Nat) (hl : s.fs.length ≤ 100000) (hk : k < s.fs.length) (w : World) (h : Rf w c S s) :
    Calls Try.prog 67 #[.pointer (some ⟨c, 0, none⟩), .int .i64 (k : Nat)] w (RPost w c S { s with fs := s.fs.take k ++ s.fs.drop (k + 1) }) := by
  obtain ⟨a, cap, vs, hc, hvl, hown, hrd, hrf, hSc, hSa, hlt, hd⟩ := h.rows
  obtain ⟨m, hm⟩ : ∃ m, s.fs.length = m := ⟨_, rfl⟩
  rw [hm] at hrd hl hvl hk
  have c0 := cell_of_row w c 0 _ _ _ hc
  rw [hm] at c0
  have HM := Lib.hid hm
  have HV := Lib.hid hvl
  have HD := Lib.hid hd
  have HLT := Lib.hid hlt
  have HRD := Lib.hid hrd
  have HSC := Lib.hid hSc
  have HG : Hid (∀ W', Below w.heap.size w W' → W'.cell? ⟨c, 0, none⟩ = some (.slice a m cap)) := fun W' hb => cell_below c0 hb
  have HCW : Hid (∀ W', Below w.heap.size w W' → W'.heap[c]? = some (.cells #[.slice a m cap, .bool s.dn, .int .i64 s.ar, .int .i64 s.wr] 51 (0, 0))) := fun W' hb => by rw [← hm]; exact (hb.block c (Array.getElem?_eq_some_iff.1 hc).1).trans hc
  clear hc hm hvl hd hlt hrd hrf hSc hSa hown h c0
  go_enter Try.func67, Try.ntmps67
  go_wp2
  go_loopw [4, 5] (fun v i wr => ∃ (n : Nat), n ≤ m ∧ i = .int .i64 (n : Nat) ∧ Hid (OwnRow wr w.heap.size v (skp vs k n) (skp s.fs k n)) ∧ Hid (Below w.heap.size w wr)) (fun _ i _ => m - (intOf i).toNat)
  case atStart => exact ⟨0, Nat.zero_le _, rfl, by show OwnRow _ _ _ _ _; rw [skp_zero, skp_zero]; exact OwnRow.nil _ _, Below.refl _ _⟩
  case round =>
    obtain ⟨n, hn, rfl, HO, HBr⟩ := hrel
    have c0 := HG.out wr HBr.out
    have how := HO.out.2
    obtain ⟨q, hq⟩ : ∃ q, (skp s.fs k n).length = q := ⟨_, rfl⟩
    have hqn : q ≤ n := by rw [← hq]; exact skp_le _ _ _
    rw [hq] at how
    have HOW := Lib.hid how
    have HQ := Lib.hid hq
    have hbs := HBr.out.size
    clear hq how
    by_cases hlt : n < m
    · by_cases hne : n = k
      · subst hne
        go_wp2
        go_roundw
        case rel => exact ⟨n + 1, by omega, by go_num, by rw [skp_here, skp_here]; exact HO.out, HBr.out⟩
        case measure => simp [intOf]; omega
      · obtain ⟨g, hg⟩ : ∃ g, s.fs[n]? = some g := ⟨_, List.getElem?_eq_getElem (by have := HM.out; omega)⟩
        obtain ⟨u, hu⟩ : ∃ u, vs[n]? = some u := ⟨_, List.getElem?_eq_getElem (by have := HV.out; omega)⟩
        obtain ⟨aj, cj, rfl, _, _⟩ := HD.out n g u hg hu
        obtain ⟨b, off, rfl, q0, q1, q2⟩ := rowAt (HRD.out.below HBr.out) (by rw [HV.out, HM.out]) hg hu
        have d2 : ((n : Int) != (k : Int)) = true := by simp; omega
        have HGK := Lib.hid (skp_next hg hne)
        have HUK := Lib.hid (skp_next hu hne)
        clear hg hu
        go_wp2_with (at_builtin; refine wpList_app2 SFile rfl _ _ rfl w.heap.size rfl (HOW.out.alloc _) rfl (Rd.cellF _ g aj g.dt.length cj) (cellF_one _ _ _ _) (by omega) (by unfold maxLen; omega) (Nat.le_trans hbs ((Below.refl 0 wr).alloc (Nat.zero_le _) _).size) ?_)
        intro v3 w3 ho3 hg3 _
        have HO3 := Lib.hid ho3
        have HB3 := Lib.hid (below_app0 HBr.out hbs HOW.out hg3)
        clear ho3 hg3
        go_wp2
        go_roundw
        case rel => exact ⟨n + 1, by omega, by go_num, by rw [HGK.out, HUK.out]; exact OwnRow.snoc HQ.out.symm HO.out.1 g _ HO3.out, HB3.out⟩
        case measure => simp [intOf]; omega
    · obtain rfl : n = m := by omega
      have f0 := frozen_of_row wr c 0 _ _ (HCW.out wr HBr.out)
      obtain ⟨a4, cap4, rfl, _⟩ := Rd.of_own HOW.out
      go_wp2
      go_end0
      have hfr : Fr (fun k => k = c) w (wr.setCell ⟨c, 0, none⟩ (.slice a4 q cap4)) := (Fr.of_new (S := fun k => k = c) HBr.out).setCell (fun _ => rfl) _
      have hvl : vs.length = s.fs.length := by rw [HV.out, HM.out]
      have hks : k < s.fs.length := by rw [HM.out]; omega
      have e1 : skp s.fs k n = s.fs.take k ++ s.fs.drop (k + 1) := by rw [← HM.out]; exact skp_all hks
      have hho := HO.out
      refine ⟨rfl, Rf.mk (us := skp vs k n) HSC.out HLT.out hfr (row_set (HCW.out _ HBr.out) rfl) ⟨?_, ?_⟩ (fun i x y hx hy => ?_), hfr⟩
      · show _ = (s.fs.take k ++ s.fs.drop (k + 1)).length
        rw [← e1]; exact hho.1
      · show (wr.setCell ⟨c, 0, none⟩ (.slice a4 q cap4)).ownsRow w.heap.size 43 3 (.slice a4 q cap4) (s.fs.take k ++ s.fs.drop (k + 1)).length (flatF (s.fs.take k ++ s.fs.drop (k + 1)) _)
        rw [← e1]
        refine ownsRow_keep hho.2 fun j hj => Below.heap_setCell wr ⟨c, 0, none⟩ _ j fun e => ?_
        have h1 := (World.ownsRow.lt hho.2 j hj).1
        have h2 := HLT.out c HSC.out
        have h4 : j = c := e
        omega
      · have hx : (s.fs.take k ++ s.fs.drop (k + 1))[i]? = some x := hx
        rw [← e1] at hx
        obtain ⟨j, h1, h2⟩ := skp_mem hvl.symm hx hy
        obtain ⟨aj, cj, e, h8, hb⟩ := HD.out j x y h1 h2
        exact ⟨aj, cj, e, h8, fun h0 b hb' => ⟨(hb h0 b hb').1, (hb h0 b hb').2.1⟩⟩
end Go.Proofs.Ytdbfkneklkdnaaa
