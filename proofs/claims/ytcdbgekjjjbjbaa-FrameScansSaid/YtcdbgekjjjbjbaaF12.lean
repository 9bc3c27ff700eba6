import Derived.Test.YtcdbgekjjjbjbaaF11
import Derived.Test.YtcdbgekjjjbjbaaF0c
namespace Go.Proofs.Ytcdbgekjjjbjbaa
open Go.RowKit
attribute [local go_sem] n8_xor

set_option maxRecDepth 100000 in
set_option maxHeartbeats 1600000 in
theorem torn_walk (a : Option Addr) (n cap : Nat) (ls : List (List UInt8)) (at_ : Int) (mask : UInt8) (cut : Bool) (w : World) (h : Rd88 w a n cap ls) (ba : -9223372036854775808 ≤ at_ ∧ at_ ≤ 9223372036854775807) :
    Calls Try.prog 7 #[.slice a n cap, .int .i64 at_, .int .u8 (n8 mask), .bool cut] w (TrueEnd w) := by
  have hR := h
  obtain ⟨rfl, vs, hr, _⟩ := h
  have hm := hr.2.1
  have hnc := hr.1
  unfold maxLen at hm
  clear hr
  go_enter Try.func7, Try.ntmps7
  go_wp2_with fail
  refine (firstT _).mono ?_
  rintro e w1 ⟨rfl, hb1⟩
  have hl1 := hb1.size
  go_wp2_with fail
  refine (few_any _ _ _ ls w1 (hR.below hb1)).mono ?_
  rintro e w1 ⟨rfl, rfl⟩
  by_cases hf : fewB ls = true
  · obtain ⟨f1, f2, f3⟩ := few_facts hf
    have Hs := Lib.hid (fun p (hp : p ∈ ls) => show p.length ≤ 262144 by have := f2 p hp; omega)
    have Hf := Lib.hid hf
    clear f2
    rw [hf]
    clear hf
    go_wp2_with fail
    refine (joined_any _ _ _ ls w1 (hR.below hb1) Hf.out).mono ?_
    rintro e w2 ⟨v2, rfl, hown2, hb2⟩
    have hl2 := hb2.size
    have hbw2 := hb1.trans (hb2.mono hl1)
    have Hend := Lib.hid (endTo_all ls ls.length (Nat.le_refl _))
    have Htorn := Lib.hid (fun k i => scan_torn ls Hs.out k i)
    generalize joinF ls = b at *
    obtain ⟨a2, c2, rfl, hr2⟩ := hown2.rd
    have hX : ∃ X : Bool, X = (decide (b.length = 0) || (mask == 0 && !cut)) := ⟨_, rfl⟩
    obtain ⟨X, hX⟩ := hX
    have HX := Lib.hid hX; clear hX
    go_upto_region 8 with fail
    go_cut [38] (fun s wx => s = .bool X ∧ wx = w2)
    case first =>
      by_cases h0 : b.length = 0
      · have d0 : ((b.length : Int) == 0) = true := beq_iff_eq.2 (by omega)
        have hx : Hid (X = true) := by rw [HX.out]; simp [h0]; exact trivial
        clear h0
        go_wp2
        go_meet
        exact ⟨by rw [hx.out], rfl⟩
      · have d0 : ((b.length : Int) == 0) = false := beq_eq_false_iff_ne.2 (by omega)
        by_cases h1 : mask = 0
        · have d1 : (n8 mask == 0) = true := by rw [h1]; rfl
          have hx : Hid (X = !cut) := by rw [HX.out]; simp [h0, h1]; exact trivial
          clear h0 h1
          go_wp2
          go_meet
          exact ⟨by rw [hx.out], rfl⟩
        · have d1 : (n8 mask == 0) = false := beq_eq_false_iff_ne.2 fun e => h1 (n8_inj.1 e)
          have hx : Hid (X = false) := by rw [HX.out]; simp [h0, h1]; exact trivial
          clear h0 h1
          go_wp2
          go_meet
          exact ⟨by rw [hx.out], rfl⟩
    case rest =>
      obtain ⟨rfl, hwc⟩ := hcut
      have hwc := hwc.symm
      subst hwc
      cases X with
      | true =>
        go_wp2_with fail
        refine (firstT _).mono ?_
        rintro e w3 ⟨rfl, hb3⟩
        go_wp2
        go_ret
        exact ⟨rfl, hbw2.trans (hb3.mono (by omega))⟩
      | false =>
        have hpos : 0 < b.length := by
          have := HX.out.symm
          simp only [Bool.or_eq_false_iff, decide_eq_false_iff_not] at this
          omega
        have Hmc : Hid (cut = false → mask ≠ 0) := by
          intro hc hm0
          have := HX.out.symm
          simp [hc, hm0] at this
        go_upto_if 41 with fail
        go_cut [1] (fun s1 wx => (∃ A : Nat, s1 = .int .i64 A ∧ (A : Int) ≤ 9223372036854775807) ∧ wx = w2)
        case first =>
          by_cases hn : at_ < 0
          · have hn' : decide (at_ < 0) = true := by simp; omega
            go_wp2
            go_meet
            exact ⟨⟨(-(at_ + 1)).toNat, by congr 1; omega, by omega⟩, rfl⟩
          · have hn' : decide (at_ < 0) = false := by simp; omega
            go_wp2
            go_meet
            exact ⟨⟨at_.toNat, by congr 1; omega, by omega⟩, rfl⟩
        case rest =>
          obtain ⟨⟨A, rfl, hA⟩, hwc⟩ := hcut
          have hwc := hwc.symm
          subst hwc
          have hlt : A % b.length < b.length := Nat.mod_lt _ hpos
          generalize hi : A % b.length = i at *
          have hmod : ((A : Int) % (b.length : Int)) = (i : Int) := by omega
          have Hi := Lib.hid hi; clear hi
          go_upto_if 49 with fail
          rw [hmod]
          clear hmod
          go_cut [9] (fun s9 wx => (∃ (ad : Option Addr) (m c : Nat) (b' : List UInt8), s9 = .slice ad m c ∧ Rd8 wx ad m c b' ∧ b'.length ≤ b.length ∧ (b' = b.take i ∨ ∃ y, y ≠ b.getD i 0 ∧ b' = b.set i y)) ∧ Below w1.heap.size w2 wx)
          case first =>
            cases cut with
            | true =>
              obtain ⟨a3, c3, hs3, hr3⟩ := run_slice8 S8 hr2 none (some (.int .i64 i)) 0 i (.inl ⟨rfl, rfl⟩) (.inr rfl) (by omega) (by omega)
              rw [Nat.sub_zero, List.drop_zero] at hr3
              rw [Nat.sub_zero] at hs3
              go_wp2
              go_meet
              exact ⟨⟨_, _, _, _, rfl, hr3, by simp; omega, .inl rfl⟩, Below.refl _ _⟩
            | false =>
              have hm0 := Hmc.out rfl
              rcases hown2.2 with ⟨he, h00⟩ | ⟨g, cp, cur, he, hbg, hg, hnc2, hcm2, hcs2, ht2⟩
              · omega
              simp only [Value.slice.injEq, true_and] at he
              obtain ⟨rfl, rfl⟩ := he
              have hcell : w2.cell? ⟨g, i, none⟩ = some (.int .u8 (n8 (b.getD i 0))) := by
                have h3 := World.ownsRow.cellAt (w := w2) (g := g) (cap := c2) (n := b.length) (xs := B8 b) hown2 i (by omega)
                rw [h3]; exact B8_get _ _ hlt
              have hfr := World.ownsRow.frozenAt (w := w2) (g := g) (cap := c2) (n := b.length) (xs := B8 b) hown2 i
              have Hne : Hid (b.getD i 0 ^^^ mask ≠ b.getD i 0) := by
                intro e
                have e2 : b.getD i 0 ^^^ mask = b.getD i 0 ^^^ 0 := by rw [e]; simp
                exact hm0 ((UInt8.xor_right_inj _).1 e2)
              have hst := (World.ownsRow.stored (w := w2) (g := g) (cap := c2) (n := b.length) (xs := B8 b) hown2 i (.int .u8 (n8 (b.getD i 0 ^^^ mask)))).1
              have hst := Own8.mk (l := b.set i (b.getD i 0 ^^^ mask)) hst (by simp) (by simp [B8, List.map_set])
              have hbs : Below w1.heap.size w2 (w2.setCell ⟨g, i, none⟩ (.int .u8 (n8 (b.getD i 0 ^^^ mask)))) := (Below.refl _ _).setCell hbg _
              obtain ⟨a5, c5, hv5, hr5⟩ := hst.rd
              simp only [Value.slice.injEq] at hv5
              obtain ⟨rfl, hln, rfl⟩ := hv5
              have hr5 := hr5.len hln
              clear hln hm0 hg ht2 hst
              generalize b.getD i 0 = x at *
              go_wp2
              go_meet
              exact ⟨⟨_, _, _, _, rfl, hr5, by simp, .inr ⟨_, Hne.out, rfl⟩⟩, hbs⟩
          case rest =>
            obtain ⟨⟨ad, m, c, b', rfl, hrb, hbl, hcase⟩, hbel⟩ := hcut
            have Hcase := Lib.hid hcase; clear hcase
            have hbwc := hbw2.trans (hbel.mono hl1)
            have hRc := hR.below hbwc
            go_wp2_with fail
            go_loop [11, 12] (fun k_ e_ => ∃ k : Nat, k ≤ ls.length ∧ k_ = .int .i64 k ∧ e_ = .int .i64 (endTo ls k : Nat) ∧ endTo ls k ≤ i) (fun k_ _ => ls.length - (intOf k_).toNat)
            case atStart => exact ⟨0, Nat.zero_le _, rfl, rfl, Nat.zero_le _⟩
            case round =>
              obtain ⟨k, hk, rfl, rfl, hle⟩ := hrel
              have hklt : k < ls.length := by
                rcases Nat.lt_or_ge k ls.length with h | h
                · exact h
                · obtain rfl : k = ls.length := by omega
                  have := Hend.out; omega
              have hes := endTo_succ ls k hklt
              have hdk : decide (k < ls.length) = true := by simp; omega
              by_cases hlt2 : endTo ls (k + 1) ≤ i
              · obtain ⟨bb, off, ai, ci, rfl, hb', hc', hri'⟩ := hRc.cell hklt
                have Hes := Lib.hid hes
                have hs : endTo ls k + (12 + (ls.getD k []).length) ≤ i := by omega
                clear hes hri'
                generalize ls.getD k [] = x at *
                generalize endTo ls k = e0 at *
                go_wp2
                go_round
                case rel => exact ⟨k + 1, by omega, by go_num, by rw [Hes.out]; congr 1; omega, by rw [Hes.out]; omega⟩
                case measure => simp [intOf]; omega
              · have hsc := Htorn.out k i hklt hle (by omega)
                have Hscan : Hid (scan b' = (ls.take k, endTo ls k)) := by
                  rcases Hcase.out with h | ⟨y, hy, h⟩
                  · rw [h]; exact hsc.1
                  · rw [h]; exact hsc.2 y hy
                obtain ⟨bb, off, ai, ci, rfl, hb', hc', hri'⟩ := hRc.cell hklt
                have hs : ¬ (endTo ls k + (12 + (ls.getD k []).length) ≤ i) := by omega
                have hxl : (ls.getD k []).length ≤ 262144 := Hs.out _ (by simp [List.getD, hklt])
                clear hes hri' hsc hlt2
                generalize ls.getD k [] = x at *
                generalize he0 : endTo ls k = e0 at *
                clear he0
                have hs2 : decide ((e0 : Int) + 12 + x.length ≤ i) = false := by simp; omega
                go_wp2_with fail
                refine (scan_any _ _ _ b' wc hrb (by omega)).mono ?_
                rintro e w3 ⟨v3, vs3, rfl, h88, hb3⟩
                rw [Hscan.out] at h88 ⊢
                have hl3 := hb3.size
                obtain ⟨a3, c3, rfl, hr3⟩ := h88.rd
                go_wp2_with fail
                refine (firstT _).mono ?_
                rintro e w4 ⟨rfl, hb4⟩
                have hlc := hbel.size
                have hbw4 := (hbwc.trans (hb3.mono (by omega))).trans (hb4.mono (by omega))
                have hr4 := hr3.below hb4
                obtain ⟨a9, c9, hs9, hr9⟩ := run_take88 (hR.below hbw4) k hk
                have hlk : (ls.take k).length = k := by simp; omega
                rw [hlk] at hr4
                clear hlk
                go_wp2_with fail
                refine (rows_any _ _ _ _ _ _ (ls.take k) (ls.take k) w4 hr4 hr9).mono ?_
                rintro e w5 ⟨rfl, nd, hw5⟩
                have hbt : (ls.take k == ls.take k) = true := by simp
                rw [hbt]
                have hbw5 : Below w.heap.size w w5 := by rw [hw5]; exact below_drewN hbw4 nd
                clear hw5 hbt
                go_wp2
                go_ret
                exact ⟨rfl, hbw5⟩
  · have hf : fewB ls = false := by simpa using hf
    rw [hf]
    clear hf
    go_wp2_with fail
    refine (firstT _).mono ?_
    rintro e w2 ⟨rfl, hb2⟩
    go_wp2
    go_ret
    exact ⟨rfl, hb1.trans (hb2.mono hl1)⟩
end Go.Proofs.Ytcdbgekjjjbjbaa
