import Derived.Test.YtjjcilinghgphaaF3
namespace Go.Proofs.Ytjjcilinghgphaa
open Go.RowKit

theorem S88 : STy Try.prog 31 35 (.slice none 0 0) 1 24 := ⟨Try.underlying31, info_parts (by kernel_rfl), rfl, by decide⟩

/-- Two slices share no block. -/
def Apart (u v : Value) : Prop := u.ownBlock = none ∨ u.ownBlock ≠ v.ownBlock
/-- A list of lists of bytes, all of the call's own, each in a block of its own. -/
def Own88 (w : World) (base : Nat) (v : Value) (vs : List Value) (ls : List (List UInt8)) : Prop :=
  w.ownsRow base 35 1 v ls.length vs ∧ (∀ (i : Nat) (u : Value) (l : List UInt8), vs[i]? = some u → ls[i]? = some l → Own8 w base 5 u l) ∧ vs.Pairwise Apart

theorem Own88.nil (w : World) (base : Nat) : Own88 w base (.slice none 0 0) [] [] := ⟨World.ownsRow_nil _ _ _ _, by simp, .nil⟩
theorem own_apart {w : World} {base b2 : Nat} {e e' : TypeId} {s s' n n' : Nat} {u v : Value} {xs ys : List Value} (hu : w.ownsRow base e s u n xs) (hv : w.ownsRow b2 e' s' v n' ys) (he : e ≠ e') : Apart u v := by
  rcases hu.2 with ⟨rfl, _⟩ | ⟨g, cap, cur, rfl, _, hg, _⟩
  · exact .inl rfl
  · rcases hv.2 with ⟨rfl, _⟩ | ⟨g', cap', cur', rfl, _, hg', _⟩
    · exact .inr (by simp [Value.ownBlock])
    · refine .inr ?_
      simp only [Value.ownBlock, ne_eq, Option.some.injEq]
      rintro rfl
      rw [hg] at hg'; simp at hg'; exact he hg'.2
theorem ownsRow_below {w w' : World} {base : Nat} {e : TypeId} {size : Nat} {v : Value} {n : Nat} {xs : List Value} (h : w.ownsRow base e size v n xs) {B : Nat} (hB : w.heap.size ≤ B) (hb : Below B w w') : w'.ownsRow base e size v n xs := by
  refine World.ownsRow.kept (row := none) h ⟨hb.os, hb.tape, hb.output, hb.size, fun k hk _ => hb.block k (by omega)⟩ ?_
  cases v.ownBlock <;> simp
theorem Own88.below {w w' : World} {base : Nat} {v : Value} {vs : List Value} {ls : List (List UInt8)} (h : Own88 w base v vs ls) {B : Nat} (hB : w.heap.size ≤ B) (hb : Below B w w') : Own88 w' base v vs ls := by
  obtain ⟨h1, h3, h4⟩ := h
  exact ⟨ownsRow_below h1 hB hb, fun i u l hu hl => (h3 i u l hu hl).below hB hb, h4⟩

/-- One more list of bytes, made since. -/
theorem Own88.snoc {w w1 w2 : World} {base : Nat} {v v' u : Value} {vs : List Value} {ls : List (List UInt8)} {l : List UInt8} (h : Own88 w base v vs ls) (hb : Below w.heap.size w w1)
    (hu : Own8 w1 w.heap.size 5 u l) (hbase : base ≤ w.heap.size) (hv : w2.ownsRow base 35 1 v' (ls.length + 1) (vs ++ [u])) (hg : w1.grownBy w2 v.ownBlock) : Own88 w2 base v' (vs ++ [u]) (ls ++ [l]) := by
  obtain ⟨h1, h3, h4⟩ := h
  have hlen : vs.length = ls.length := by simpa using h1.1
  have h1' := ownsRow_below h1 (Nat.le_refl _) hb
  refine ⟨by simpa using hv, fun i x m hx hm => ?_, ?_⟩
  · by_cases hi : i < ls.length
    · rw [List.getElem?_append_left (by omega)] at hx
      rw [List.getElem?_append_left hi] at hm
      have h8 := (h3 i x m hx hm).below (Nat.le_refl _) hb
      exact World.ownsRow.kept h8 hg (own_apart h8 h1' (by decide))
    · have hi2 : i = ls.length := by
        have : i < (ls ++ [l]).length := by
          rcases Nat.lt_or_ge i (ls ++ [l]).length with h | h
          · exact h
          · rw [List.getElem?_eq_none h] at hm; cases hm
        simp at this; omega
      subst hi2
      rw [← hlen] at hx
      simp at hx hm
      subst hx hm
      exact ownsRow_mono (World.ownsRow.kept hu hg (own_apart hu h1' (by decide))) hbase
  · rw [List.pairwise_append]
    refine ⟨h4, List.pairwise_singleton _ _, fun x hx y hy => ?_⟩
    obtain rfl : y = u := by simpa using hy
    obtain ⟨i, hi, hxi⟩ := List.mem_iff_getElem.1 hx
    have h8 := h3 i x (ls[i]'(by omega)) (by rw [List.getElem?_eq_getElem hi, hxi]) (List.getElem?_eq_getElem _)
    cases hob : x.ownBlock with
    | none => exact .inl hob
    | some k =>
      refine .inr ?_
      rw [hob]
      intro e
      have q1 := (World.ownsRow.lt h8 k hob).2
      have q2 := (World.ownsRow.lt hu k e.symm).1
      omega

/-- What a scan ends with. -/
def ScanEnd (w : World) (l : List UInt8) (e : Ending) (w' : World) : Prop :=
  ∃ v vs, e = .returned (.tuple #[v, .int .i64 ((scan l).2 : Nat)]) ∧ Own88 w' w.heap.size v vs (scan l).1 ∧ Below w.heap.size w w'

theorem get_quiet (a : Option Addr) (n cap : Nat) (l : List UInt8) (w : World) (h : Rd8 w a n cap l) (hn : 4 ≤ l.length) : Calls Try.prog 63 #[.slice a n cap] w fun e w' => e = .returned (.int .u32 (n32 (get4 l))) ∧ ∃ k, w' = w.drewN k := get_any a n cap l w h hn

set_option maxHeartbeats 400000 in
theorem scan_any (a : Option Addr) (n cap : Nat) (l : List UInt8) (w : World) (h : Rd8 w a n cap l) (hn : l.length ≤ 5000000) :
    Calls Try.prog 49 #[.slice a n cap] w (ScanEnd w l) := by
  have hrd := h
  obtain ⟨rfl, hr⟩ := h
  go_enter Try.func49, Try.ntmps49
  go_wp2
  go_loopw [4, 5, 6, 7] (fun v at_ _ _ wr => ∃ k out vs, at_ = .int .i64 (k : Nat) ∧ ScanAt l k out ∧ Own88 wr w.heap.size v vs out ∧ Below w.heap.size w wr) (fun _ at_ _ _ _ => l.length - (intOf at_).toNat)
  case atStart => exact ⟨0, [], [], rfl, ScanAt.start l, Own88.nil _ _, Below.refl _ _⟩
  case round =>
    obtain ⟨k, out, vs, rfl, hat, hown, hbel⟩ := hrel
    have hkl := hat.1
    have Hat := Lib.hid hat
    clear hat
    have hrw := hrd.below hbel
    by_cases h12 : 12 ≤ l.length - k
    · obtain ⟨a1, c1, hs1, hr1⟩ := run_slice8 S8 hrw (some (.int .i64 k)) none k l.length (.inr rfl) (.inl ⟨rfl, rfl⟩) hkl (Nat.le_refl _)
      obtain ⟨a2, c2, hs2, hr2⟩ := run_slice8 S8 hrw (some (.int .i64 (k + 4))) none (k + 4) l.length (.inr rfl) (.inl ⟨rfl, rfl⟩) (by omega) (Nat.le_refl _)
      obtain ⟨a3, c3, hs3, hr3⟩ := run_slice8 S8 hrw (some (.int .i64 k)) (some (.int .i64 (k + 4))) k (k + 4) (.inr rfl) (.inr rfl) (by omega) (by omega)
      rw [Nat.add_sub_cancel_left] at hs3 hr3
      rw [List.take_of_length_le (by simp)] at hr1 hr2
      have d12 : decide ((12 : Int) ≤ l.length - k) = true := by simp; omega
      go_wp2_with fail
      refine (get_any _ _ _ _ wr hr1 (by simp; omega)).mono ?_
      rintro e w1 ⟨rfl, nd, hw1⟩
      have hbel1 : Below w.heap.size w w1 := by rw [hw1]; exact below_drewN hbel nd
      have hown1 : Own88 w1 w.heap.size _ vs out := hown.below (Nat.le_refl _) (by rw [hw1]; exact below_drewN (Below.refl _ _) nd)
      have hwb : Below wr.heap.size wr w1 := by rw [hw1]; exact below_drewN (Below.refl _ _) nd
      clear hw1 hown hr1 hrw
      have hr2 := hr2.below hwb
      have hr3 := hr3.below hwb
      rw [show n32 (get4 (l.drop k)) = (sizeOf4 (l.drop k) : Nat) from rfl]
      have hm32 : sizeOf4 (l.drop k) < 4294967296 := (get4 (l.drop k)).toNat_lt
      have hwl : whole (l.drop k) = (headOk (l.drop k) && get4 ((l.drop k).drop (8 + sizeOf4 (l.drop k))) == crc (recOf (l.drop k))) := by
        unfold whole; rw [show decide (12 ≤ (l.drop k).length) = true by rw [List.length_drop]; simpa using h12]; rfl
      have Hwl := Lib.hid hwl; clear hwl
      have hho : headOk (l.drop k) = (decide (sizeOf4 (l.drop k) ≤ 262144) && get4 (l.drop (k + 4)) == crc ((l.drop k).take 4) && decide (sizeOf4 (l.drop k) + 12 ≤ l.length - k)) := by
        unfold headOk; rw [List.drop_drop]; simp
      have Hho := Lib.hid hho; clear hho
      go_wp2_with fail
      by_cases hA : sizeOf4 (l.drop k) ≤ 262144
      · have dA : decide ((262144 : Int) < sizeOf4 (l.drop k)) = false := by simp; omega
        have q : ∀ (w2 : World), (∃ n, w2 = w1.drewN n) → Rd8 w2 a2 (l.length - (k + 4)) c2 (l.drop (k + 4)) ∧ Rd8 w2 a3 4 c3 ((l.drop k).take 4) := by
          rintro w2 ⟨n, rfl⟩
          exact ⟨hr2.below (below_drewN (Below.refl _ _) _), hr3.below (below_drewN (Below.refl _ _) _)⟩
        have L1 : 4 ≤ (l.drop (k + 4)).length := by simp; omega
        have L2 : ((l.drop k).take 4).length < 64 := by simp; omega
        have e4 : IntKind.i64.wrap ((k : Int) + 4) = (k : Int) + 4 := IntWalk.i64_in _ (by omega)
        have elk : IntKind.i64.wrap ((l.length : Int) - k) = (l.length : Int) - k := IntWalk.i64_in _ (by omega)
        have elk12 : IntKind.i64.wrap ((l.length : Int) - k - 12) = (l.length : Int) - k - 12 := IntWalk.i64_in _ (by omega)
        by_cases hB : get4 (l.drop (k + 4)) = crc ((l.drop k).take 4)
        · have dB : (n32 (get4 (l.drop (k + 4))) == n32 (crc ((l.drop k).take 4))) = true := by rw [beq_iff_eq, hB]
          have dB' : (n32 (get4 (l.drop (k + 4))) != n32 (crc ((l.drop k).take 4))) = false := by rw [bne, dB]; rfl
          by_cases hC : sizeOf4 (l.drop k) + 12 ≤ l.length - k
          · have dC : decide ((l.length : Int) - k - 12 < sizeOf4 (l.drop k)) = false := by simp; omega
            have Hh : Hid (headOk (l.drop k) = true) := by rw [Hho.out]; simp [hA, hB, hC]; exact trivial
            clear hB
            go_quiet (first | (go_at_call 63; exact Calls.quiet_of (get_any _ _ _ _ _ (q _ ⟨_, rfl⟩).1 L1)) | (go_at_call 53; exact Calls.quiet_of_same (sum_few _ _ _ _ _ (q _ ⟨_, rfl⟩).2 L2)))
            clear e4 elk elk12
            have hb1 : Below w.heap.size w (w1.drewN nq) := below_drewN hbel1 nq
            have hown1 : Own88 (w1.drewN nq) w.heap.size _ vs out := hown1.below (Nat.le_refl _) (below_drewN (Below.refl _ _) nq)
            generalize w1.drewN nq = w2 at *
            have hrw := hrd.below hb1
            clear hbel1 hr2 hr3 q hwb dB dB' hs1 hs2 hs3
            obtain ⟨a4, c4, hs4, hr4⟩ := run_slice8 S8 hrw (some (.int .i64 (k + 8))) (some (.int .i64 (k + 8 + sizeOf4 (l.drop k)))) (k + 8) (k + 8 + sizeOf4 (l.drop k)) (.inr rfl) (.inr rfl) (by omega) (by omega)
            obtain ⟨a5, c5, hs5, hr5⟩ := run_slice8 S8 hrw (some (.int .i64 (k + 8 + sizeOf4 (l.drop k)))) none (k + 8 + sizeOf4 (l.drop k)) l.length (.inr rfl) (.inl ⟨rfl, rfl⟩) (by omega) (Nat.le_refl _)
            rw [Nat.add_sub_cancel_left] at hs4 hr4
            rw [List.take_of_length_le (by simp)] at hr5
            have er : (l.drop (k + 8)).take (sizeOf4 (l.drop k)) = recOf (l.drop k) := by unfold recOf; rw [List.drop_drop]
            rw [er] at hr4
            have Hp : Hid ((recOf (l.drop k)).length = sizeOf4 (l.drop k)) := hr4.1.symm
            have hpl : (recOf (l.drop k)).length ≤ 262144 := by rw [Hp.out]; exact hA
            clear er
            go_wp2_with fail
            refine (get_any _ _ _ _ w2 hr5 (by simp; omega)).mono ?_
            rintro e w3 ⟨rfl, nd3, hw3⟩
            have h23 : Below w2.heap.size w2 w3 := by rw [hw3]; exact below_drewN (Below.refl _ _) nd3
            have hl3 := h23.size
            clear hw3
            go_wp2_with fail
            refine (sum_any _ _ _ _ w3 (hr4.below h23) (by omega)).mono ?_
            rintro e w4 ⟨rfl, h34⟩
            have hl4 := h34.size
            have h24 : Below w2.heap.size w2 w4 := h23.trans (h34.mono hl3)
            have hb4 : Below w.heap.size w w4 := hb1.trans (h24.mono hb1.size)
            have hown4 := hown1.below (Nat.le_refl _) h24
            have hr4' := hr4.below h24
            clear h23 h34 hr4 hr5 hown1 hb1 hrw hl3 hl4
            by_cases hD : get4 (l.drop (k + 8 + sizeOf4 (l.drop k))) = crc (recOf (l.drop k))
            · have dD : (n32 (get4 (l.drop (k + 8 + sizeOf4 (l.drop k)))) == n32 (crc (recOf (l.drop k)))) = true := by rw [beq_iff_eq, hD]
              have dD' : (n32 (get4 (l.drop (k + 8 + sizeOf4 (l.drop k)))) != n32 (crc (recOf (l.drop k)))) = false := by rw [bne, dD]; rfl
              have Hw : Hid (whole (l.drop k) = true) := by
                rw [Hwl.out, Hh.out, List.drop_drop, ← Nat.add_assoc, hD]; simp; trivial
              have Hn := Lib.hid ((Hat.out).next Hw.out)
              clear hD
              have hls := hb4.size
              go_wp2_with (at_builtin; refine wpList_app S8 rfl (.tmp 62) (.tmp 63) rfl w4.heap.size rfl (World.ownsRow_lit w4 #[] 0 (Nat.le_refl _) (by decide) rfl) rfl (hr4'.below ((Below.refl _ _).alloc (Nat.le_refl _) _)).2 ?c1 ?c2 ?c3 ?c4 ?_)
              case c1 => exact B8_one _
              case c2 => omega
              case c3 => unfold maxLen; omega
              case c4 => simp
              intro u5 w5 hown5 hb5 _
              have hown5 := Own8.mk (l := recOf (l.drop k)) hown5 (by rw [Hp.out]) (by simp)
              obtain ⟨a6, c6, rfl, _⟩ := hown5.rd
              have hb45 : Below w4.heap.size w4 w5 := ((Below.refl _ _).alloc (Nat.le_refl _) _).trans hb5
              have hl5 := hb45.size
              have hv5 := ownsRow_below hown4.1 (Nat.le_refl _) hb45
              have houtl : out.length ≤ 1000000 := by
                have := (Hat.out).2.1
                omega
              clear hr4' hb5
              go_wp2_with (at_builtin; refine wpList_app S88 rfl (.tmp 61) (.tmp 65) rfl w.heap.size rfl (hv5.alloc _) rfl (Rd.one _ _ _) ?c1 ?c2 ?c3 ?c4 ?_)
              case c1 => simp [Value.oneCell']
              case c2 => omega
              case c3 => unfold maxLen; omega
              case c4 => simp; omega
              intro u6 w6 hown6 hb6 hg6
              have h88 := Own88.snoc hown4 (hb45.alloc (by omega) _) (hown5.alloc _) hls hown6 hg6
              have hb7 : Below w.heap.size w w6 := ((hb4.trans (hb45.mono hls)).alloc (by omega) _).trans hb6
              clear hown4 hown5 hown6 hg6 hv5 hb45 hb6
              go_wp2
              go_roundw
              case rel => exact ⟨_, _, _, by go_num, Hn.out, h88, hb7⟩
              case measure => simp [intOf]; omega
            · have dD : (n32 (get4 (l.drop (k + 8 + sizeOf4 (l.drop k)))) == n32 (crc (recOf (l.drop k)))) = false := by rw [beq_eq_false_iff_ne]; exact fun e => hD (n32_inj.1 e)
              have dD' : (n32 (get4 (l.drop (k + 8 + sizeOf4 (l.drop k)))) != n32 (crc (recOf (l.drop k)))) = true := by rw [bne, dD]; rfl
              have Hd := Lib.hid ((Hat.out).done (by rw [Hwl.out, List.drop_drop, ← Nat.add_assoc]; simp [hD]))
              clear hD
              go_wp2
              go_ret2
              exact ⟨_, vs, by rw [Hd.out]; rfl, by rw [Hd.out]; exact hown4, hb4⟩
          · have dC : decide ((l.length : Int) - k - 12 < sizeOf4 (l.drop k)) = true := by simp; omega
            have Hd := Lib.hid ((Hat.out).done (by rw [Hwl.out, Hho.out]; simp [hC]))
            clear hB
            go_quiet (first | (go_at_call 63; exact Calls.quiet_of (get_any _ _ _ _ _ (q _ ⟨_, rfl⟩).1 L1)) | (go_at_call 53; exact Calls.quiet_of_same (sum_few _ _ _ _ _ (q _ ⟨_, rfl⟩).2 L2)))
            clear e4 elk elk12
            go_wp2
            go_ret2
            exact ⟨_, vs, by rw [Hd.out]; rfl, by rw [Hd.out]; exact hown1, below_drewN hbel1 _⟩
        · have dB : (n32 (get4 (l.drop (k + 4))) == n32 (crc ((l.drop k).take 4))) = false := by rw [beq_eq_false_iff_ne]; exact fun e => hB (n32_inj.1 e)
          have dB' : (n32 (get4 (l.drop (k + 4))) != n32 (crc ((l.drop k).take 4))) = true := by rw [bne, dB]; rfl
          have Hd := Lib.hid ((Hat.out).done (by rw [Hwl.out, Hho.out]; simp [hB]))
          clear hB
          go_quiet (first | (go_at_call 63; exact Calls.quiet_of (get_any _ _ _ _ _ (q _ ⟨_, rfl⟩).1 L1)) | (go_at_call 53; exact Calls.quiet_of_same (sum_few _ _ _ _ _ (q _ ⟨_, rfl⟩).2 L2)))
          clear e4 elk elk12
          go_wp2
          go_ret2
          exact ⟨_, vs, by rw [Hd.out]; rfl, by rw [Hd.out]; exact hown1, below_drewN hbel1 _⟩
      · have dA : decide ((262144 : Int) < sizeOf4 (l.drop k)) = true := by simp; omega
        have Hd := Lib.hid ((Hat.out).done (by rw [Hwl.out, Hho.out]; simp [hA]))
        go_quiet (fail)
        go_wp2
        go_ret2
        exact ⟨_, vs, by rw [Hd.out]; rfl, by rw [Hd.out]; exact hown1, below_drewN hbel1 _⟩
    · have d12 : decide ((12 : Int) ≤ l.length - k) = false := by simp; omega
      have Hd := Lib.hid ((Hat.out).done (by unfold whole; simp; omega))
      go_wp2
      go_ret2
      exact ⟨_, vs, by rw [Hd.out]; rfl, by rw [Hd.out]; exact hown, hbel⟩
end Go.Proofs.Ytjjcilinghgphaa
