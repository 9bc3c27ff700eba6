/-
  The walk of WalPlays.
-/
import Derived.Test.YtjjcilinghgphaaGreatUE
namespace Go.Proofs.YtjjcilinghgphaaGreat
open Go.RowKit Go.Maps Go.Sort
set_option maxRecDepth 100000
attribute [local go_sem] bs_size bs_toList
/-- Both disks new, and the row that holds them. -/
theorem BD.start {wb w1 : World} {d : Nat} (hb1 : Below wb.heap.size wb w1) (hd1 : DkS 0 w1 d (fun k => wb.heap.size ≤ k ∧ k < w1.heap.size) newS) {c : Nat} {T' : Nat → Prop} {W : World} {s : DS} (hb2 : Below w1.heap.size w1 W) (hr : Rf W c T' s) (ht : ∀ k, T' k → w1.heap.size ≤ k) (hs : s = newS) (dir : List UInt8) (room : Int) :
    BD wb 0 W.heap.size d c dir room newS (fun k => wb.heap.size ≤ k ∧ k < w1.heap.size) T' none none (W.alloc (.cells (bothC d c none none dir room) 39)) := by
  subst hs
  have hs1 := hb1.size
  have hs2 := hb2.size
  have ha : AB wb (fun k => wb.heap.size ≤ k ∧ k < w1.heap.size) T' W :=
    ⟨fun k hk => hk.1, fun k hk => Nat.le_trans hs1 (ht k hk), fun k hk => Nat.lt_of_lt_of_le hk.2 hs2, hr.lt, fun k hk e => by have := ht k e; have := hk.2; omega, next_below hb1 hb2⟩
  have hb : Below W.heap.size W (W.alloc (.cells (bothC d c none none dir room) 39)) := (Below.refl _ _).alloc (Nat.le_refl _) _
  exact ⟨ha.new hb, ha.fresh _ _, (hd1.below hb2).below hb, hr.below hb, by omega⟩
set_option maxHeartbeats 8000000 in
theorem wplays_walk (dir : List UInt8) (room : Int) (a : Option Addr) (n cap : Nat) (os : List OpW) (w : World) (hd : dir.length ≤ 9223372036854775807) (h : RdOw w (fun b => b < w.heap.size) a n cap os) :
    Calls Tryz.prog 4 #[.string (bs dir), .int .i64 room, .slice a n cap] w (TEnd w) := by
  have H0 := Lib.hid h
  have HN := Lib.hid h.1
  have hn6 : n ≤ 9223372036854775807 := by obtain ⟨_, _, xs, hr, _⟩ := h; exact Nat.le_trans hr.1 hr.2.1
  clear h
  go_enter Tryz.func4, Tryz.ntmps4
  go_wp2_with fail
  go_at_call 5
  refine (wfirst_any w).mono ?_
  rintro e wa ⟨rfl, hb⟩
  have HBA := Lib.hid hb
  clear hb
  go_wp2_with fail
  go_at_call 12
  refine (fewW_any a n cap os _ wa (H0.out.below HBA.out)).mono ?_
  rintro e wb ⟨b, rfl, hfew, hb⟩
  have HBB := Lib.hid (next_below HBA.out hb)
  have HFEW := Lib.hid hfew
  clear hb hfew HBA
  cases b with
  | false =>
    clear HFEW
    go_wp2_with fail
    go_at_call 5
    refine (wfirst_any wb).mono ?_
    rintro e wc ⟨rfl, hb⟩
    have HBC := Lib.hid (next_below HBB.out hb)
    clear hb
    go_wp2_with fail
    go_ret
    exact TEnd.mk HBC.out
  | true =>
  have HF := Lib.hid (HFEW.out rfl)
  clear HFEW
  obtain ⟨dl, hdl⟩ : ∃ dl, dir.length = dl := ⟨_, rfl⟩
  have HDL := Lib.hid hdl
  by_cases hlong : (200 : Int) < (dl : Int)
  · go_wp2_with fail
    go_at_call 5
    refine (wfirst_any wb).mono ?_
    rintro e wc ⟨rfl, hb⟩
    have HBC := Lib.hid (next_below HBB.out hb)
    clear hb
    go_wp2_with fail
    go_ret
    exact TEnd.mk HBC.out
  have hdir : dir.length ≤ 1000000 := by omega
  have HDIR := Lib.hid hdir
  go_wp2_with fail
  go_at_call 13
  clear hdl hlong hdir hd
  refine (new_any 0 (Int.le_refl _) wb).mono ?_
  rintro e w1 ⟨d, rfl, hb1, hd1⟩
  have hst := Rf.start w1
  have hbw : Below w1.heap.size w1 (w1.alloc (.cells #[.slice none 0 0, .bool false, .int .i64 0, .int .i64 0] 45)) := (Below.refl _ _).alloc (Nat.le_refl _) _
  obtain ⟨W, hW⟩ : ∃ W, w1.alloc (.cells #[.slice none 0 0, .bool false, .int .i64 0, .int .i64 0] 45) = W := ⟨_, rfl⟩
  rw [hW] at hst hbw
  obtain ⟨c, hc⟩ : ∃ c, w1.heap.size = c := ⟨_, rfl⟩
  have hbd := BD.start hb1 hd1 hbw hst (fun k hk => by rw [hk]; exact Nat.le_refl _) rfl dir room
  rw [hc] at hbd
  unfold bothC at hbd
  obtain ⟨X, hX⟩ : ∃ X, W.alloc (.cells #[.pointer (some ⟨d, 0, none⟩), .pointer (some ⟨c, 0, none⟩), .pointer none, .pointer none, .string (bs dir), .int .i64 room] 39) = X := ⟨_, rfl⟩
  rw [hX] at hbd
  obtain ⟨q, hq⟩ : ∃ q, W.heap.size = q := ⟨_, rfl⟩
  rw [hq] at hbd
  have HBD := Lib.hid hbd
  have c0 : X.cell? ⟨q, 0, none⟩ = some (.pointer (some ⟨d, 0, none⟩)) := by rw [hbd.rb.cell]; rfl
  clear hst hbw hb1 hd1 hbd
  go_wp2_with fail
  go_at_call 10
  clear hW hX hc hq c0
  refine (opens_any HBD.out (by omega) HDIR.out).mono ?_
  rintro e X1 ⟨rfl, hbb⟩
  obtain ⟨s0, hs0⟩ : ∃ s0, (openL newS dir room).s = s0 := ⟨_, rfl⟩
  obtain ⟨g0, hg0⟩ : ∃ g0, (openL newS dir room).g = g0 := ⟨_, rfl⟩
  rw [hs0, hg0] at hbb
  have HB1 := Lib.hid hbb
  have hn3 : n ≤ 200 := by have := HF.out.1; have := HN.out; omega
  have HRO : Hid (RdOw wb (fun b => b < wb.heap.size) a n cap os) := (H0.out.below HBB.out).mono fun b hb => Nat.lt_of_lt_of_le hb HBB.out.size
  clear hbb hs0 hg0 HBD
  go_wp2_with fail
  go_loopw [8, 9] (fun i _ wr => ∃ (k : Nat) (s : DS) (og : Option LG), k ≤ n ∧ i = .int .i64 (k : Nat) ∧ Hid (BB wb (3 + 100000003 * (k : Int)) q d c dir room s og wr)) (fun i _ _ => n - (intOf i).toNat)
  case atStart => exact ⟨0, s0, g0, Nat.zero_le _, rfl, HB1.out⟩
  case round =>
    clear HB1
    obtain ⟨k, s, og, hk, rfl, HA⟩ := hrel
    by_cases hlt : k < n
    case neg =>
      obtain rfl : k = n := by omega
      go_wp2_with fail
      go_at_call 5
      refine (wfirst_any wr).mono ?_
      rintro e wc ⟨rfl, hb⟩
      have HBC := Lib.hid (next_below (next_below HBB.out HA.out.bl) hb)
      clear hb
      go_wp2_with fail
      go_ret
      exact TEnd.mk HBC.out
    case pos =>
    obtain ⟨o, ho⟩ : ∃ o, os[k]? = some o := ⟨_, List.getElem?_eq_getElem (by have := HN.out; omega)⟩
    obtain ⟨hnl, hbl⟩ := HF.out.each (List.mem_of_getElem? ho)
    obtain ⟨b, off, ab, cb, ap, cp, rfl, hrd, y0, y1, y2, y3, y4, y5⟩ := HRO.out.at ho
    have hbr := HA.out.bl
    have y0 := cell_below y0 hbr
    have y1 := cell_below y1 hbr
    have y2 := cell_below y2 hbr
    have y3 := cell_below y3 hbr
    have y4 := cell_below y4 hbr
    have y5 := cell_below y5 hbr
    have HRD := Lib.hid hrd
    have HBL := Lib.hid hbl
    have hrow := heap_alloc_new wr (.cells #[.int .i64 o.k, .int .i64 o.n, .int .i64 o.m, .slice ab o.b.length cb, .string (bs o.nm), .slice ap o.p.length cp] 48)
    have hba : Below wr.heap.size wr (wr.alloc (.cells #[.int .i64 o.k, .int .i64 o.n, .int .i64 o.m, .slice ab o.b.length cb, .string (bs o.nm), .slice ap o.p.length cp] 48)) := (Below.refl _ _).alloc (Nat.le_refl _) _
    obtain ⟨X, hX⟩ : ∃ X, wr.alloc (.cells #[.int .i64 o.k, .int .i64 o.n, .int .i64 o.m, .slice ab o.b.length cb, .string (bs o.nm), .slice ap o.p.length cp] 48) = X := ⟨_, rfl⟩
    rw [hX] at hrow hba
    obtain ⟨pb, hpb⟩ : ∃ pb, wr.heap.size = pb := ⟨_, rfl⟩
    rw [hpb] at hrow
    have HBX := Lib.hid hba
    have HPB := Lib.hid hpb
    have x0 : X.cell? ⟨pb, 0, none⟩ = some (.int .i64 o.k) := cell_of_row _ _ 0 _ _ _ hrow
    have x1 : X.cell? ⟨pb, 1, none⟩ = some (.int .i64 o.n) := cell_of_row _ _ 1 _ _ _ hrow
    have x2 : X.cell? ⟨pb, 2, none⟩ = some (.int .i64 o.m) := cell_of_row _ _ 2 _ _ _ hrow
    have x3 : X.cell? ⟨pb, 3, none⟩ = some (.slice ab o.b.length cb) := cell_of_row _ _ 3 _ _ _ hrow
    have x4 : X.cell? ⟨pb, 4, none⟩ = some (.string (bs o.nm)) := cell_of_row _ _ 4 _ _ _ hrow
    have x5 : X.cell? ⟨pb, 5, none⟩ = some (.slice ap o.p.length cp) := cell_of_row _ _ 5 _ _ _ hrow
    have HROW := Lib.hid hrow
    have hkk : (3 + 100000003 * (k : Int)) + 100000003 = 3 + 100000003 * ((k + 1 : Nat) : Int) := by push_cast; omega
    have hkb : 3 + 100000003 * (k : Int) < 900000000000 := by omega
    have HKK := Lib.hid hkk
    have HKB := Lib.hid hkb
    clear ho hrd hbl hbr hba hrow hkk hkb
    by_cases hcut : 4 < o.nm.length ∧ o.k = 9
    · obtain ⟨h4, hk9⟩ := hcut
      have h4' : (4 : Int) < (o.nm.length : Int) := by omega
      have q1 : (bs o.nm).extract 0 4 = bs (o.nm.take 4) := bs_takeV o.nm _
      have f4 : X.frozen? ⟨pb, 4, none⟩ = false := frozen_of_row _ _ 4 _ _ HROW.out
      have hrow2 := row_set (i := 4) HROW.out (v := .string (bs (o.nm.take 4))) rfl
      have hb2 : Below wr.heap.size wr (X.setCell ⟨pb, 4, none⟩ (.string (bs (o.nm.take 4)))) := HBX.out.setCell (p := ⟨pb, 4, none⟩) (by rw [HPB.out]; exact Nat.le_refl _) _
      have z0 : (X.setCell ⟨pb, 4, none⟩ (.string (bs (o.nm.take 4)))).cell? ⟨pb, 0, none⟩ = some (.int .i64 o.k) := cell_of_row _ _ 0 _ _ _ hrow2
      have z1 : (X.setCell ⟨pb, 4, none⟩ (.string (bs (o.nm.take 4)))).cell? ⟨pb, 1, none⟩ = some (.int .i64 o.n) := cell_of_row _ _ 1 _ _ _ hrow2
      have z2 : (X.setCell ⟨pb, 4, none⟩ (.string (bs (o.nm.take 4)))).cell? ⟨pb, 2, none⟩ = some (.int .i64 o.m) := cell_of_row _ _ 2 _ _ _ hrow2
      have z3 : (X.setCell ⟨pb, 4, none⟩ (.string (bs (o.nm.take 4)))).cell? ⟨pb, 3, none⟩ = some (.slice ab o.b.length cb) := cell_of_row _ _ 3 _ _ _ hrow2
      have z4 : (X.setCell ⟨pb, 4, none⟩ (.string (bs (o.nm.take 4)))).cell? ⟨pb, 4, none⟩ = some (.string (bs (o.nm.take 4))) := cell_of_row _ _ 4 _ _ _ hrow2
      have z5 : (X.setCell ⟨pb, 4, none⟩ (.string (bs (o.nm.take 4)))).cell? ⟨pb, 5, none⟩ = some (.slice ap o.p.length cp) := cell_of_row _ _ 5 _ _ _ hrow2
      have hb4 : (o.nm.take 4).length ≤ 4 := List.length_take_le _ _
      have HB2X := Lib.hid hb2
      have HK9 := Lib.hid hk9
      have HB4 := Lib.hid hb4
      rw [hk9] at y0 x0 hX z0
      clear hrow2 hb2 hk9 hb4 h4
      go_wp2_with fail
      go_at_call 14
      refine (wdoes_any (o := ⟨9, o.n, o.m, o.b, o.nm.take 4, o.p⟩) (HA.out.new HB2X.out) HKB.out HDIR.out ⟨⟨⟨by show (-9223372036854775808 : Int) ≤ 9; decide, by show (9 : Int) ≤ 9223372036854775807; decide⟩, HRD.out.1.2.1, HRD.out.1.2.2.1, by show (o.nm.take 4).length ≤ _; have := HB4.out; omega⟩, HRD.out.2⟩ (fun _ => HB4.out) (by exact HBL.out)).mono ?_
      rintro e W2 ⟨rfl, s2, og2, hbb⟩
      have HB2 := Lib.hid hbb
      clear hbb y0 y1 y2 y3 y4 y5 x0 x1 x2 x3 x4 x5 z0 z1 z2 z3 z4 z5 hX hpb q1 f4 h4'
      go_wp2_with fail
      go_at_call 11
      refine (stands_any HB2.out).mono ?_
      rintro e W3 ⟨rfl, hb3⟩
      have hB3 := HB2.out.new hb3
      rw [HKK.out] at hB3
      have HB3 := Lib.hid hB3
      clear hb3 hB3
      go_wp2_with fail
      go_roundw
      case rel => exact ⟨k + 1, _, _, by omega, by go_num, HB3.out⟩
      case measure => simp [intOf]; omega
    · obtain ⟨ok, hok⟩ : ∃ ok, o.k = ok := ⟨_, rfl⟩
      have HN9 : Hid (ok = 9 → o.nm.length ≤ 4) := fun e => by
        rcases Nat.lt_or_ge 4 o.nm.length with h | h
        · exact absurd ⟨h, hok.trans e⟩ hcut
        · exact h
      have HOW : Hid (OpwRd wb (fun b => b < wb.heap.size) ⟨ok, o.n, o.m, o.b, o.nm, o.p⟩ ab cb ap cp) := by
        have := HRD.out
        subst hok
        exact this
      rw [hok] at y0 x0 hX
      by_cases h4 : (4 : Int) < (o.nm.length : Int)
      · have hk9 : (ok == 9) = false := by
          have : ok ≠ 9 := fun e => by have := HN9.out e; omega
          simpa using this
        clear hcut hok
        go_wp2_with fail
        go_at_call 14
        refine (wdoes_any (o := ⟨ok, o.n, o.m, o.b, o.nm, o.p⟩) (HA.out.new HBX.out) HKB.out HDIR.out HOW.out HN9.out (by exact HBL.out)).mono ?_
        rintro e W2 ⟨rfl, s2, og2, hbb⟩
        have HB2 := Lib.hid hbb
        clear hbb y0 y1 y2 y3 y4 y5 x0 x1 x2 x3 x4 x5 hX hpb hk9 h4
        go_wp2_with fail
        go_at_call 11
        refine (stands_any HB2.out).mono ?_
        rintro e W3 ⟨rfl, hb3⟩
        have hB3 := HB2.out.new hb3
        rw [HKK.out] at hB3
        have HB3 := Lib.hid hB3
        clear hb3 hB3
        go_wp2_with fail
        go_roundw
        case rel => exact ⟨k + 1, _, _, by omega, by go_num, HB3.out⟩
        case measure => simp [intOf]; omega
      · clear hcut hok
        go_wp2_with fail
        go_at_call 14
        refine (wdoes_any (o := ⟨ok, o.n, o.m, o.b, o.nm, o.p⟩) (HA.out.new HBX.out) HKB.out HDIR.out HOW.out HN9.out (by exact HBL.out)).mono ?_
        rintro e W2 ⟨rfl, s2, og2, hbb⟩
        have HB2 := Lib.hid hbb
        clear hbb y0 y1 y2 y3 y4 y5 x0 x1 x2 x3 x4 x5 hX hpb h4
        go_wp2_with fail
        go_at_call 11
        refine (stands_any HB2.out).mono ?_
        rintro e W3 ⟨rfl, hb3⟩
        have hB3 := HB2.out.new hb3
        rw [HKK.out] at hB3
        have HB3 := Lib.hid hB3
        clear hb3 hB3
        go_wp2_with fail
        go_roundw
        case rel => exact ⟨k + 1, _, _, by omega, by go_num, HB3.out⟩
        case measure => simp [intOf]; omega
end Go.Proofs.YtjjcilinghgphaaGreat
