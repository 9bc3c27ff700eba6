/-
  The number of a file's name (wal.number).
-/
import Derived.Test.YtjjcilinghgphaaV13
import Derived.Laws.IdiomStrings
namespace Go.Proofs.Ytjjcilinghgphaa
open Go.RowKit Go.Maps
set_option maxRecDepth 100000
attribute [local go_sem] bs_size bs_toList bs_get
theorem valA_snoc : ∀ (l : List UInt8) (a : Nat) (c : UInt8), valA a (l ++ [c]) = valA a l * 10 + (c.toNat - 48)
  | [], _, _ => rfl
  | _x :: l, _a, c => valA_snoc l _ c
theorem bs_takeV (l : List UInt8) (k : Nat) : (bs l).extract 0 k = bs (l.take k) := by
  apply ByteArray.ext
  rw [ByteArray.data_extract]
  simp [bs]
theorem bs_dropV (l : List UInt8) (k : Nat) : (bs l).extract k l.length = bs (l.drop k) := by
  apply ByteArray.ext
  rw [ByteArray.data_extract]
  simp [bs]
  rw [List.take_of_length_le (by simp)]
/-- A string's bytes in new memory. -/
theorem run_toBytes {P : Program} (w : World) (src dst e : TypeId) (q : List UInt8) (hs : P.underlying src = some .string) (hd : P.underlying dst = some (.slice e)) (he : P.underlying e = some (.int .u8)) :
    ∃ cap W1, (convert src dst (.string (bs q))).run P w = .ok (.slice (some ⟨w.heap.size, 0, none⟩) q.length cap) W1 ∧ Below w.heap.size w W1 ∧ ∀ j, j < q.length → W1.cell? ⟨w.heap.size, j, none⟩ = some (.int .u8 ((bAt q j).toNat : Int)) := by
  have h := run_bytes_of_string w src dst e (bs q) hs hd he
  rw [bs_size] at h
  refine ⟨_, _, h, (Below.refl _ w).drew.alloc (Nat.le_refl _) _, fun j hj => ?_⟩
  have hc := World.cell?_alloc_mark w.drew (bytesRow (bs q) (grownCap w q.length 0 e)) e ((bytesRow (bs q) (grownCap w q.length 0 e)).size, (bytesRow (bs q) (grownCap w q.length 0 e)).size + 1) j
  have hc' : (w.drew.alloc (.cells (bytesRow (bs q) (grownCap w q.length 0 e)) e ((bytesRow (bs q) (grownCap w q.length 0 e)).size, (bytesRow (bs q) (grownCap w q.length 0 e)).size + 1))).cell? ⟨w.heap.size, j, none⟩ = _ := hc
  rw [hc', bytesRow_at (bs q) _ j (by simp [bs]; exact hj)]
  simp [bs, bAt, hj]
def NumPost (w : World) (n : Nat) (e : Ending) (w' : World) : Prop := e = .returned (.int .i64 (n : Nat)) ∧ Below w.heap.size w w'
set_option maxHeartbeats 2000000 in
theorem number_any (dir nm : List UInt8) (hd : dir.length ≤ 1000000) (_hn : nm.length ≤ 9223372036854775807) (w : World) :
    Calls Try.prog 37 #[.string (bs dir), .string (bs nm)] w (NumPost w (numS dir nm)) := by
  have w9 : IntKind.i64.wrap ((dir.length : Int) + 9) = (dir.length : Int) + 9 := IntWalk.i64_in _ (by omega)
  by_cases h1 : nm.length = dir.length + 9
  case neg =>
    have hz : Hid (numS dir nm = 0) := by show _ = _; unfold numS; rw [if_neg (fun h => h1 h.1)]
    have d1 : ((nm.length : Int) != (dir.length : Int) + 9) = true := by simp; omega
    clear h1
    go_enter Try.func37, Try.ntmps37
    go_wp2
    go_ret
    exact ⟨by rw [hz.out]; rfl, Below.refl _ _⟩
  case pos =>
  have hle : dir.length ≤ nm.length := by omega
  have hlt : dir.length < nm.length := by omega
  have q1 : (bs nm).extract 0 dir.length = bs (nm.take dir.length) := bs_takeV nm _
  have d1 : ((nm.length : Int) != (dir.length : Int) + 9) = false := by simp; omega
  by_cases h2 : nm.take dir.length = dir
  case neg =>
    have hz : Hid (numS dir nm = 0) := by show _ = _; unfold numS; rw [if_neg (fun h => h2 h.2.1)]
    have d2 : (nm.take dir.length == dir) = false := by simpa using h2
    have H1 := Lib.hid h1
    clear h1 h2
    go_enter Try.func37, Try.ntmps37
    go_wp2
    go_ret
    exact ⟨by rw [hz.out]; rfl, Below.refl _ _⟩
  case pos =>
  have d2 : (nm.take dir.length == dir) = true := by simpa using h2
  have hg : nm.getD dir.length 0 = bAt nm dir.length := rfl
  by_cases h3 : bAt nm dir.length = 46
  case neg =>
    have hz : Hid (numS dir nm = 0) := by show _ = _; unfold numS; rw [if_neg (fun h => h3 h.2.2.1)]
    have d3 : (((bAt nm dir.length).toNat : Int) != 46) = true := by
      simp only [bne_iff_ne, ne_eq]
      intro e
      exact h3 (UInt8.toNat_inj.1 (by have : (bAt nm dir.length).toNat = 46 := by omega
                                      rw [this]; rfl))
    have H1 := Lib.hid h1
    have H2 := Lib.hid h2
    clear h1 h2 h3 hg
    go_enter Try.func37, Try.ntmps37
    go_wp2
    go_ret
    exact ⟨by rw [hz.out]; rfl, Below.refl _ _⟩
  case pos =>
  have d3 : (((bAt nm dir.length).toNat : Int) != 46) = false := by rw [h3]; rfl
  have q2 : (bs nm).extract (dir.length + 1) nm.length = bs (nm.drop (dir.length + 1)) := bs_dropV nm _
  obtain ⟨q, hq⟩ : ∃ q, nm.drop (dir.length + 1) = q := ⟨_, rfl⟩
  have hql : q.length = 8 := by rw [← hq, List.length_drop]; omega
  have hnum : numS dir nm = if q.all isD = true then valA 0 q else 0 := by
    unfold numS
    rw [hq]
    by_cases hq2 : q.all isD = true
    · rw [if_pos ⟨h1, h2, h3, hq2⟩, if_pos hq2]
    · rw [if_neg (fun h => hq2 h.2.2.2), if_neg hq2]
  rw [hq] at q2
  obtain ⟨cap, W1, hrun, hbW, hcell⟩ := run_toBytes (P := Try.prog) w 9 35 5 q Try.underlying9 Try.underlying35 Try.underlying5
  rw [hql] at hrun hcell
  have HNUM := Lib.hid hnum
  have HQL := Lib.hid hql
  have HC := Lib.hid hcell
  have HB := Lib.hid hbW
  have H1 := Lib.hid h1
  have H2 := Lib.hid h2
  have w1 : IntKind.i64.wrap ((dir.length : Int) + 1) = (dir.length : Int) + 1 := IntWalk.i64_in _ (by omega)
  have hs1 : dir.length + 1 ≤ nm.length := by omega
  have hs2 : nm.length - (dir.length + 1) = 8 := by omega
  clear hnum hql hcell hbW h1 h2 h3 hg hq
  go_enter Try.func37, Try.ntmps37
  go_wp2
  clear d1 d2 d3 q1 q2 hrun
  go_loop [5, 36] (fun n i => ∃ k : Nat, k ≤ 8 ∧ i = .int .i64 (k : Nat) ∧ n = .int .i64 (valA 0 (q.take k) : Nat) ∧ Hid ((q.take k).all isD = true)) (fun _ i => 8 - (intOf i).toNat)
  case atStart => exact ⟨0, by omega, rfl, rfl, rfl⟩
  case round =>
    obtain ⟨k, hk, rfl, rfl, HALL⟩ := hrel
    by_cases hlt8 : k < 8
    · have hc := HC.out k hlt8
      have hsn : q.take (k + 1) = q.take k ++ [bAt q k] := by
        rw [List.take_succ_eq_append_getElem (by rw [HQL.out]; exact hlt8)]
        congr 2
        simp [bAt, HQL.out, hlt8]
      have hv := valA_bd (q.take k) 0 HALL.out
      have hvl : (q.take k).length ≤ 7 := by rw [List.length_take]; omega
      have hpw : 10 ^ (q.take k).length ≤ 10 ^ 7 := Nat.pow_le_pow_right (by omega) hvl
      have hvb : valA 0 (q.take k) ≤ 10000000 := by
        have h7 : (10 : Nat) ^ 7 = 10000000 := by decide
        rw [h7] at hpw
        omega
      have hval := valA_snoc (q.take k) 0 (bAt q k)
      obtain ⟨c, hcc⟩ : ∃ c, bAt q k = c := ⟨_, rfl⟩
      rw [hcc] at hc hsn hval
      have HSN := Lib.hid hsn
      have HVAL := Lib.hid hval
      have hy255 : c.toNat ≤ 255 := by have := c.toNat_lt; omega
      obtain ⟨v, hv'⟩ : ∃ v, valA 0 (q.take k) = v := ⟨_, rfl⟩
      rw [hv'] at hvb HVAL ⊢
      have HMEM : Hid (c ∈ q) := by rw [← hcc]; exact bAt_mem q k (by rw [HQL.out]; exact hlt8)
      clear hsn hval hv hvl hpw hv' hcc
      obtain ⟨y, hy⟩ : ∃ y, c.toNat = y := ⟨_, rfl⟩
      rw [hy] at hc hy255 HVAL
      have HY := Lib.hid hy
      clear hy
      by_cases hdig : 48 ≤ y ∧ y ≤ 57
      · obtain ⟨g1, g2⟩ := hdig
        have hall2 : (q.take (k + 1)).all isD = true := by
          rw [HSN.out, List.all_append, HALL.out]
          simp [isD_iff, HY.out, g1, g2]
        have HALL2 := Lib.hid hall2
        have b1 : ¬ ((y : Int) < 48) := by omega
        have b2 : ¬ ((57 : Int) < (y : Int)) := by omega
        have b1' : decide ((y : Int) < 48) = false := by simpa using b1
        have b2' : decide ((57 : Int) < (y : Int)) = false := by simpa using b2
        have w2 : IntKind.u8.wrap ((y : Int) - 48) = (y : Int) - 48 := by simp [IntKind.wrap, IntKind.bits, IntKind.signed]; omega
        clear hall2
        go_wp2
        go_round
        case rel => exact ⟨k + 1, by omega, by go_num, by rw [HSN.out, HVAL.out]; congr 1; omega, HALL2.out⟩
        case measure => simp [intOf]; omega
      · have hz : Hid (numS dir nm = 0) := by
          show _ = _
          rw [HNUM.out, if_neg]
          intro h
          have := (isD_iff c).1 (List.all_eq_true.1 h c HMEM.out)
          rw [HY.out] at this
          exact hdig this
        by_cases b1 : (y : Int) < 48
        · have b1' : decide ((y : Int) < 48) = true := by simpa using b1
          clear hdig
          go_wp2
          go_ret
          exact ⟨by rw [hz.out]; rfl, HB.out⟩
        · have b2 : (57 : Int) < (y : Int) := by omega
          have b1' : decide ((y : Int) < 48) = false := by simpa using b1
          have b2' : decide ((57 : Int) < (y : Int)) = true := by simpa using b2
          clear hdig
          go_wp2
          go_ret
          exact ⟨by rw [hz.out]; rfl, HB.out⟩
    · obtain rfl : k = 8 := by omega
      have ht : q.take 8 = q := List.take_of_length_le (by rw [HQL.out]; exact Nat.le_refl _)
      have hz : Hid (numS dir nm = valA 0 (q.take 8)) := by
        show _ = _
        have := HALL.out
        rw [ht] at this ⊢
        rw [HNUM.out, if_pos this]
      clear ht
      go_wp2
      go_ret
      exact ⟨by rw [hz.out]; rfl, HB.out⟩
end Go.Proofs.Ytjjcilinghgphaa
