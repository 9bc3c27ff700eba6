/-
  The walk of WalTells.
-/
import Derived.Test.YtjjcilinghgphaaVF
namespace Go.Proofs.Ytjjcilinghgphaa
open Go.RowKit Go.Maps Go.Sort
set_option maxRecDepth 100000
attribute [local go_sem] bs_size bs_toList

theorem wf64 {n : Int} (h : (Lit.int .i64 n).wf = true) : -9223372036854775808 ≤ n ∧ n ≤ 9223372036854775807 := by
  simp [Lit.wf, IntKind.min, IntKind.max, IntKind.signed, IntKind.bits] at h; omega
/-- A log and the records that were taken, in a law. -/
structure TA (wb : World) (d l : Nat) (seg : Int) (s : DS) (g : LG) (av : Option Addr) (gl cv : Nat) (W : World) : Prop where
  ll : ∃ T, LL wb 1000 d l T s g W
  rd : Rd88 W av gl cv g.all
theorem TA.new {wb W W' : World} {d l : Nat} {seg : Int} {s : DS} {g : LG} {av : Option Addr} {gl cv : Nat} (h : TA wb d l seg s g av gl cv W) (hb : Below W.heap.size W W') : TA wb d l seg s g av gl cv W' := by
  obtain ⟨T, hl⟩ := h.ll
  exact ⟨⟨T, hl.new hb⟩, h.rd.below hb⟩
theorem TA.nextB {wb W : World} {d l : Nat} {seg : Int} {s : DS} {g : LG} {av : Option Addr} {gl cv : Nat} (h : TA wb d l seg s g av gl cv W) : Calls Try.prog 15 #[.pointer (some ⟨l, 0, none⟩)] W fun e w' => e = .returned (.int .i64 (g.next : Nat)) ∧ Below W.heap.size W w' := by
  obtain ⟨T, hl⟩ := h.ll
  exact hl.next'.mono fun e w' ⟨h1, i, h2⟩ => ⟨h1, by rw [h2]; exact below_dn (Below.refl _ _) i⟩
theorem TA.safeB {wb W : World} {d l : Nat} {seg : Int} {s : DS} {g : LG} {av : Option Addr} {gl cv : Nat} (h : TA wb d l seg s g av gl cv W) : Calls Try.prog 16 #[.pointer (some ⟨l, 0, none⟩)] W fun e w' => e = .returned (.int .i64 (g.safe : Nat)) ∧ Below W.heap.size W w' := by
  obtain ⟨T, hl⟩ := h.ll
  exact hl.safe.mono fun e w' ⟨h1, i, h2⟩ => ⟨h1, by rw [h2]; exact below_dn (Below.refl _ _) i⟩
theorem TA.firstB {wb W : World} {d l : Nat} {seg : Int} {s : DS} {g : LG} {av : Option Addr} {gl cv : Nat} (h : TA wb d l seg s g av gl cv W) : Calls Try.prog 14 #[.pointer (some ⟨l, 0, none⟩)] W fun e w' => e = .returned (.int .i64 (g.first : Nat)) ∧ W = w' := by
  obtain ⟨T, hl⟩ := h.ll
  exact hl.first
theorem TA.readB {wb W : World} {d l : Nat} {seg : Int} {s : DS} {g : LG} {av : Option Addr} {gl cv : Nat} (h : TA wb d l seg s g av gl cv W) (n : Int) (h0 : -9223372036854775808 ≤ n) (h1 : n ≤ 9223372036854775807) : Calls Try.prog 17 #[.pointer (some ⟨l, 0, none⟩), .int .i64 n] W (WReadPost W g n) := by
  obtain ⟨T, hl⟩ := h.ll
  exact hl.read n h0 h1
theorem TA.fromB {wb W : World} {d l : Nat} {seg : Int} {s : DS} {g : LG} {av : Option Addr} {gl cv : Nat} (h : TA wb d l seg s g av gl cv W) (n most : Int) (h0 : -9223372036854775808 ≤ n) (h1 : n ≤ 9223372036854775807) : Calls Try.prog 19 #[.pointer (some ⟨l, 0, none⟩), .int .i64 n, .int .i64 most] W (WFromPost W g n most) := by
  obtain ⟨T, hl⟩ := h.ll
  exact hl.from n most h0 h1
theorem TA.bl {wb W : World} {d l : Nat} {seg : Int} {s : DS} {g : LG} {av : Option Addr} {gl cv : Nat} (h : TA wb d l seg s g av gl cv W) : Below wb.heap.size wb W := by
  obtain ⟨T, hl⟩ := h.ll
  exact hl.bl
theorem mayL_one {g : LG} (h1 : g.first = 1) {n : Int} : mayL g n = (decide (1 ≤ n) && decide (n ≤ (g.safe : Nat) + 1)) := by unfold mayL; rw [h1]; rfl
theorem Rd88.slice {w : World} {a : Option Addr} {n cap : Nat} {ls : List (List UInt8)} (h : Rd88 w a n cap ls) (l k : Nat) (hk : l + k ≤ n) : ∃ ad' cap', (∀ w', (Instr.slice 31 (.slice a n cap) (some (.int .i64 l)) (some (.int .i64 ((l + k : Nat) : Int))) none).run Try.prog w' = .ok (.slice ad' k cap') w') ∧ Rd88 w ad' k cap' ((ls.drop l).take k) := by
  obtain ⟨hn, vs, hr, hel⟩ := h
  obtain ⟨ad', cap', h1, h2⟩ := run_slice S88 hr (some (.int .i64 l)) (some (.int .i64 ((l + k : Nat) : Int))) l (l + k) (.inr rfl) (.inr rfl) (by omega) hk
  rw [show l + k - l = k by omega] at h1 h2
  refine ⟨ad', cap', h1, by rw [List.length_take, List.length_drop]; omega, _, h2, fun i x hx => ?_⟩
  rw [List.getElem?_take] at hx
  split at hx
  · rename_i hik
    rw [List.getElem?_drop] at hx
    obtain ⟨ai, ci, e1, e2⟩ := hel (l + i) x hx
    refine ⟨ai, ci, ?_, e2⟩
    rw [Nat.mul_one, Nat.mul_one, List.getElem?_take, if_pos hik, List.getElem?_drop]
    exact e1
  · cases hx
theorem rec_eq {g : LG} (h1 : g.first = 1) {k : Nat} {r : List UInt8} (hk : g.all[k]? = some r) : recL g ((k : Int) + 1) = r := by
  unfold recL
  rw [h1, show ((k : Int) + 1).toNat - 1 = k by omega, List.getD_eq_getElem?_getD, hk]; rfl
set_option maxHeartbeats 8000000 in
theorem tells_walk (seg : Int) (a : Option Addr) (len cap : Nat) (os : List OpW) (n most : Int) (w : World) (h : RdOw w (fun b => b < w.heap.size) a len cap os) (hn0 : -9223372036854775808 ≤ n) (hn1 : n ≤ 9223372036854775807) (hm0 : -9223372036854775808 ≤ most) (hm1 : most ≤ 9223372036854775807) :
    Calls Try.prog 4 #[.int .i64 seg, .slice a len cap, .int .i64 n, .int .i64 most] w (TEnd w) := by
  have H0 := Lib.hid h
  have HM0 := Lib.hid hm0
  clear h hm0
  go_enter Try.func4, Try.ntmps4
  go_wp2_with fail
  go_at_call 9
  refine (wfirst_any w).mono ?_
  rintro e wa ⟨rfl, hb⟩
  have HBA := Lib.hid hb
  clear hb
  go_wp2_with fail
  go_at_call 12
  have hrl : RdOw wa (fun b => b < wa.heap.size) a len cap os := (H0.out.below HBA.out).mono fun b hb => Nat.lt_of_lt_of_le hb HBA.out.size
  refine (fewW_any a len cap os _ wa hrl).mono ?_
  rintro e wb ⟨b, rfl, hfew, hb⟩
  have HBB := Lib.hid (next_below HBA.out hb)
  have HFEW := Lib.hid hfew
  have HRD := Lib.hid ((hrl.below hb).mono (T' := fun b => b < wb.heap.size) fun b hb' => Nat.lt_of_lt_of_le hb' hb.size)
  clear hb hfew hrl HBA
  by_cases hbad : b = false ∨ seg < 64 ∨ 262144 < seg
  · clear HFEW HRD
    have hcs : b = false ∨ (b = true ∧ seg < 64) ∨ (b = true ∧ ¬ seg < 64 ∧ 262144 < seg) := by
      cases b with
      | false => exact .inl rfl
      | true =>
        by_cases h : seg < 64
        · exact .inr (.inl ⟨rfl, h⟩)
        · exact .inr (.inr ⟨rfl, h, by rcases hbad with h' | h' | h'; cases h'; omega; exact h'⟩)
    clear hbad
    rcases hcs with rfl | ⟨rfl, h1⟩ | ⟨rfl, h1, h2⟩
    all_goals
      go_wp2_with fail
      go_at_call 9
      refine (wfirst_any wb).mono ?_
      rintro e wc ⟨rfl, hb⟩
      have HBC := Lib.hid (next_below HBB.out hb)
      clear hb
      go_wp2_with fail
      go_ret
      exact TEnd.mk HBC.out
  obtain ⟨rfl, hs1, hs2⟩ : b = true ∧ ¬ seg < 64 ∧ ¬ 262144 < seg := by
    cases b with
    | false => exact absurd (.inl rfl) hbad
    | true => exact ⟨rfl, fun h => hbad (.inr (.inl h)), fun h => hbad (.inr (.inr h))⟩
  have HF := Lib.hid (HFEW.out rfl)
  have e1 : decide (seg < 64) = false := by simpa using hs1
  have e2 : decide (262144 < seg) = false := by simpa using hs2
  clear hbad HFEW
  go_wp2_with fail
  go_at_call 13
  refine (opened_any seg (by omega) (by omega) a len cap os HF.out.1 wb HRD.out).mono ?_
  rintro e w1 ⟨d, l, T, s, g, v, vs, rfl, hl, hf, ha⟩
  obtain ⟨av, cv, rfl, hr88⟩ := ha.rd
  have hal := hl.ok.all_len
  have hnl := hl.ok.next_le
  have hsl := hl.ok.safe_lt
  rw [hf.one] at hal
  obtain ⟨gl, hgl⟩ : ∃ gl, g.all.length = gl := ⟨_, rfl⟩
  rw [hgl] at hal hr88 ⊢
  have hnx : ((g.next : Nat) : Int) = (gl : Int) + 1 := by omega
  have hgb : gl ≤ 100349524 := by omega
  obtain ⟨sf, hsf⟩ : ∃ sf, g.safe = sf := ⟨_, rfl⟩
  rw [hsf] at hsl
  have hsg : sf ≤ gl := by omega
  have HT : Hid (TA wb d l seg s g av gl cv w1) := ⟨⟨T, hl⟩, hr88⟩
  have HONE := Lib.hid hf.one
  have HGL := Lib.hid hgl
  have HNX := Lib.hid hnx
  have HSF := Lib.hid hsf
  clear hl hf ha hr88 hal hnl hsl hgl hnx hsf HF HRD
  have d1 : ¬ (gl : Int) < (sf : Int) := by omega
  have d1' : decide (gl < sf) = false := by simp; omega
  have d2 : ¬ (sf : Int) < 0 := by omega
  go_wp2_with fail
  go_at_call 14
  refine (HT.out.firstB).mono ?_
  rintro e w2 ⟨rfl, rfl⟩
  rw [HONE.out]
  go_wp2_with fail
  go_at_call 15
  refine (HT.out.nextB).mono ?_
  rintro e w2 ⟨rfl, hb⟩
  rw [HNX.out]
  have HT2 := Lib.hid (HT.out.new hb)
  clear hb
  go_wp2_with fail
  go_at_call 16
  refine (HT2.out.safeB).mono ?_
  rintro e w3 ⟨rfl, hb⟩
  rw [HSF.out]
  have HT3 := Lib.hid (HT2.out.new hb)
  clear hb
  go_wp2_with fail
  go_at_call 16
  refine (HT3.out.safeB).mono ?_
  rintro e w4 ⟨rfl, hb⟩
  rw [HSF.out]
  have HT4 := Lib.hid (HT3.out.new hb)
  clear hb HT HT2 HT3
  go_wp2_with fail
  go_loopw [12, 13, 14] (fun i _ _ wr => ∃ k : Nat, k ≤ gl ∧ i = .int .i64 (k : Nat) ∧ Hid (TA wb d l seg s g av gl cv wr)) (fun i _ _ _ => gl - (intOf i).toNat)
  case atStart => exact ⟨0, Nat.zero_le _, rfl, HT4.out⟩
  case round =>
    clear HT4
    obtain ⟨k, hk, rfl, HT⟩ := hrel
    by_cases hlt : k < gl
    · obtain ⟨r, hr⟩ : ∃ r, g.all[k]? = some r := ⟨_, List.getElem?_eq_getElem (by rw [HGL.out]; exact hlt)⟩
      have hrec := rec_eq HONE.out hr
      have hhas : hasL g ((k : Int) + 1) = true := by unfold hasL; rw [HONE.out, HNX.out]; simp; omega
      obtain ⟨hn88, vs, hrv, hel⟩ := HT.out.rd
      obtain ⟨ai, ci, hv1, hv2⟩ := hel k r hr
      obtain ⟨b1, o1, rfl, _, hc1⟩ := hrv.at (by omega)
      have hck := hc1 k _ hv1
      have HREC := Lib.hid hrec
      have HHAS := Lib.hid hhas
      have HCK := Lib.hid hck
      have HV2 := Lib.hid hv2
      clear hr hrec hhas hn88 hrv hel hv1 hv2 hc1 hck
      go_wp2_with fail
      go_at_call 17
      refine (HT.out.readB ((k : Int) + 1) (by omega) (by omega)).mono ?_
      rintro e w5 ⟨v5, rfl, ho, hb⟩
      rw [HHAS.out] at ho ⊢
      have ho' : Own8 w5 wr.heap.size 5 v5 r := by rw [if_pos rfl, HREC.out] at ho; exact ho
      obtain ⟨a5, c5, rfl, hr5⟩ := ho'.rd
      have HT5 := Lib.hid (HT.out.new hb)
      have HR5 := Lib.hid hr5
      have HV5 := Lib.hid (HV2.out.below hb)
      have hck := cell_below HCK.out hb
      clear ho ho' hr5 hb
      go_wp2_with fail
      go_at_call 18
      refine (bytes_any a5 ai r.length r.length c5 ci r r w5 HR5.out HV5.out).mono ?_
      rintro e w6 ⟨rfl, rfl⟩
      rw [show (r == r) = true from by simp]
      clear hck
      go_wp2_with fail
      go_roundw
      case rel => exact ⟨k + 1, by omega, by go_num, HT5.out⟩
      case measure => simp [intOf]; omega
    · obtain rfl : k = gl := by omega
      have h0no : hasL g 0 = false := by unfold hasL; rw [HONE.out]; simp
      have h1no : hasL g ((k : Int) + 1) = false := by unfold hasL; rw [HNX.out]; simp
      have H0NO := Lib.hid h0no
      have H1NO := Lib.hid h1no
      clear h0no h1no
      go_wp2_with fail
      go_at_call 17
      refine (HT.out.readB 0 (by omega) (by omega)).mono ?_
      rintro e w5 ⟨v5, rfl, ho, hb⟩
      rw [H0NO.out] at ho ⊢
      have HT5 := Lib.hid (HT.out.new hb)
      clear ho hb
      go_wp2_with fail
      go_at_call 17
      refine (HT5.out.readB ((k : Int) + 1) (by omega) (by omega)).mono ?_
      rintro e w6 ⟨v6, rfl, ho, hb⟩
      rw [H1NO.out] at ho ⊢
      have HT6 := Lib.hid (HT5.out.new hb)
      clear ho hb
      go_wp2_with fail
      go_at_call 19
      refine (HT6.out.fromB n most hn0 hn1).mono ?_
      rintro e w7 ⟨v7, vs7, rfl, ho, hb⟩
      have HT7 := Lib.hid (HT6.out.new hb)
      have hmay := mayL_one HONE.out (n := n)
      rw [HSF.out] at hmay
      clear HT HT5 HT6 hb
      by_cases hlo : n < 1
      · have hm : mayL g n = false := by rw [hmay]; simp; omega
        rw [hm] at ho ⊢
        have ho' : Own88 w7 w6.heap.size v7 vs7 [] := ho
        obtain ⟨a7, c7, rfl, _⟩ := Own88.rd ho'
        clear ho ho' hm hmay
        go_wp2_with fail
        go_at_call 9
        refine (wfirst_any w7).mono ?_
        rintro e w8 ⟨rfl, hb⟩
        have HBC := Lib.hid (next_below HBB.out (next_below HT7.out.bl hb))
        clear hb
        go_wp2_with fail
        go_ret
        exact TEnd.mk HBC.out
      · by_cases hhi : (sf : Int) + 1 < n
        · have hm : mayL g n = false := by rw [hmay]; simp; omega
          rw [hm] at ho ⊢
          have ho' : Own88 w7 w6.heap.size v7 vs7 [] := ho
          obtain ⟨a7, c7, rfl, _⟩ := Own88.rd ho'
          clear ho ho' hm hmay
          go_wp2_with fail
          go_at_call 16
          refine (HT7.out.safeB).mono ?_
          rintro e w8 ⟨rfl, hb⟩
          rw [HSF.out]
          have HT8 := Lib.hid (HT7.out.new hb)
          clear hb
          go_wp2_with fail
          go_at_call 9
          refine (wfirst_any w8).mono ?_
          rintro e w9 ⟨rfl, hb⟩
          have HBC := Lib.hid (next_below HBB.out (next_below HT8.out.bl hb))
          clear hb
          go_wp2_with fail
          go_ret
          exact TEnd.mk HBC.out
        · have hm : mayL g n = true := by rw [hmay]; simp; omega
          rw [hm] at ho ⊢
          obtain ⟨N, rfl⟩ : ∃ N : Nat, n = (N : Int) := ⟨n.toNat, by omega⟩
          have hfl : fromL g (N : Int) most = (g.all.drop (N - 1)).take (min (max most 0) ((sf : Int) + 1 - (N : Int))).toNat := by unfold fromL manyL; rw [HONE.out, HSF.out]; rfl
          have ho' : Own88 w7 w6.heap.size v7 vs7 ((g.all.drop (N - 1)).take (min (max most 0) ((sf : Int) + 1 - (N : Int))).toNat) := by rw [← hfl]; exact ho
          obtain ⟨M, hM⟩ : ∃ M : Nat, (min (max most 0) ((sf : Int) + 1 - (N : Int))).toNat = M := ⟨_, rfl⟩
          have hMi : min (max most 0) ((sf : Int) - (N : Int) + 1) = (M : Int) := by omega
          rw [hM] at ho'
          have hml : M + N ≤ sf + 1 := by omega
          have hN1 : 1 ≤ N := by omega
          have hown7 := Own88.rd ho'
          obtain ⟨a7, c7, rfl, hr7⟩ := hown7
          have hl7 : ((g.all.drop (N - 1)).take M).length = M := by rw [List.length_take, List.length_drop, HGL.out]; omega
          rw [hl7] at hr7 ⊢
          have HR7 := Lib.hid hr7
          clear ho ho' hm hmay hfl hl7 hr7 hM hsg
          have w1 : IntKind.i64.wrap ((sf : Int) - (N : Int)) = (sf : Int) - (N : Int) := IntWalk.i64_in _ (by omega)
          have w2 : IntKind.i64.wrap ((sf : Int) - (N : Int) + 1) = (sf : Int) - (N : Int) + 1 := IntWalk.i64_in _ (by omega)
          have hlo' : decide ((N : Int) < 1) = false := by simp; omega
          have hlo2 : decide (N < 1) = false := by simp; omega
          have hhi' : decide ((sf : Int) + 1 < (N : Int)) = false := by simp; omega
          go_wp2_with fail
          go_at_call 16
          refine (HT7.out.safeB).mono ?_
          rintro e w8 ⟨rfl, hb⟩
          rw [HSF.out]
          have HT8 := Lib.hid (HT7.out.new hb)
          have HR8 := Lib.hid (HR7.out.below hb)
          clear hb
          go_wp2_with fail
          go_at_call 16
          refine (HT8.out.safeB).mono ?_
          rintro e w9 ⟨rfl, hb⟩
          rw [HSF.out]
          have HT9 := Lib.hid (HT8.out.new hb)
          have HR9 := Lib.hid (HR8.out.below hb)
          clear hb
          go_wp2_with fail
          go_at_call 9
          refine (wfirst_any w9).mono ?_
          rintro e w10 ⟨rfl, hb⟩
          have HBC := Lib.hid (next_below HBB.out (next_below HT9.out.bl hb))
          have HR10 := Lib.hid (HR9.out.below hb)
          obtain ⟨as_, cs_, hrun, hrs⟩ := (HT9.out.rd.below hb).slice (N - 1) M (by omega)
          rw [show (((N - 1 : Nat) : Nat) : Int) = (N : Int) - 1 by omega, show ((N - 1 + M : Nat) : Int) = (N : Int) - 1 + (M : Int) by omega] at hrun
          have HRS := Lib.hid hrs
          clear hb hrs w1 w2
          go_wp2_with fail
          go_at_call 20
          refine (wrows_any a7 as_ M M c7 cs_ _ _ w10 HR10.out HRS.out).mono ?_
          rintro e w11 ⟨rfl, nd, rfl⟩
          rw [show (((g.all.drop (N - 1)).take M) == ((g.all.drop (N - 1)).take M)) = true from by simp]
          go_wp2_with fail
          go_ret
          exact TEnd.mk (below_dn HBC.out nd)
end Go.Proofs.Ytjjcilinghgphaa
