/-
  The walk of Unquote.
-/
import Derived.Test.YtalpbphfmelhhaaGreatDoorDC
namespace Go.Proofs.YtalpbphfmelhhaaGreatDoor
set_option maxRecDepth 100000
open Go.RowKit Go.Shelf Go.Sort
attribute [local go_sem] bs_size bs_get bs_toList
theorem shl4 (a : Int) (h0 : 0 ≤ a) (h : a ≤ 15) : Op.shift .shl .i64 a .u64 4 = pure (.int .i64 (a * 16)) := by
  rw [shift_shl _ _ _ _ (by decide) (by simp [IntKind.bits])]
  congr 2
  rw [show a * 2 ^ (4 : Int).toNat = a * 16 from rfl]
  simp [IntKind.wrap, IntKind.bits, IntKind.signed]; omega
theorem or16 (a b : Int) (ha0 : 0 ≤ a) (ha : a ≤ 15) (hb0 : 0 ≤ b) (hb : b ≤ 15) : bits .or .i64 (a * 16) b = a * 16 + b := by
  have e : ∀ x y : Fin 16, bits .or .i64 ((x.val : Int) * 16) (y.val : Int) = (x.val : Int) * 16 + (y.val : Int) := by decide +kernel
  have := e ⟨a.toNat, by omega⟩ ⟨b.toNat, by omega⟩
  rwa [show ((a.toNat : Nat) : Int) = a by omega, show ((b.toNat : Nat) : Int) = b by omega] at this
theorem wrap8 (n : Int) (h0 : 0 ≤ n) (h : n ≤ 255) : IntKind.u8.wrap n = n := by
  simp [IntKind.wrap, IntKind.bits, IntKind.signed]; omega
theorem bs_inner (l : List UInt8) : (bs l).extract 1 (l.length - 1) = bs (inner l) := by
  apply ByteArray.ext
  simp [bs, inner, ByteArray.data_extract]
  congr 1
  omega
theorem inner_len (l : List UInt8) : (inner l).length = l.length - 2 := by unfold inner; simp; omega
theorem unqV_len {l : List UInt8} (h : l.length < 2) : unqV l = .tuple #[.string (bs []), .int .i64 4] := unqV_none fun t e => by have := quoteOf_len t; rw [← e] at this; omega
theorem unqV_head {l : List UInt8} (h : bAt l 0 ≠ 34) : unqV l = .tuple #[.string (bs []), .int .i64 4] := unqV_none fun t e => h (by rw [e]; exact quoteOf_head t)
theorem unqV_last {l : List UInt8} (h : bAt l (l.length - 1) ≠ 34) : unqV l = .tuple #[.string (bs []), .int .i64 4] := unqV_none fun t e => h (by rw [e]; exact quoteOf_last t)
theorem unqV_stuck {l : List UInt8} (h : ∀ t : List UInt8, inner l ≠ t.flatMap quoteC) : unqV l = .tuple #[.string (bs []), .int .i64 4] := unqV_none fun t e => h t (by rw [e]; exact inner_quote t)
theorem own_drewN {w : World} {base : Nat} {e : TypeId} {v : Value} {l : List UInt8} (h : Own8 w base e v l) (n : Nat) : Own8 (w.drewN n) base e v l := h.below (Nat.le_refl _) (below_drewN (Below.refl _ _) n)
set_option maxHeartbeats 2000000 in
theorem unquote_any (l : List UInt8) (hl : l.length ≤ 1000000) (w : World) :
    Calls Tryz.prog 89 #[.string (bs l)] w fun e w' => e = .returned (unqV l) ∧ Below w.heap.size w w' := by
  obtain ⟨n, hn⟩ : ∃ n, l.length = n := ⟨_, rfl⟩
  have hsz : (bs l).size = n := by rw [bs_size, hn]
  by_cases h2 : 2 ≤ n
  · have hn6 : n ≤ 1000000 := by omega
    have q0 : ((n : Int) - 1).toNat = n - 1 := by omega
    obtain ⟨c0, hc0⟩ : ∃ c, bAt l 0 = c := ⟨_, rfl⟩
    obtain ⟨c1, hc1⟩ : ∃ c, bAt l (n - 1) = c := ⟨_, rfl⟩
    by_cases a0 : c0 = 34
    · by_cases a1 : c1 = 34
      · have z0 : ((c0.toNat : Int) != 34) = false := by subst a0; rfl
        have z1 : ((c1.toNat : Int) != 34) = false := by subst a1; rfl
        have q2 : (bs l).extract 1 (n - 1) = bs (inner l) := by rw [← bs_inner, hn]
        have hq : ∀ {t : List UInt8}, inner l = t.flatMap quoteC → unqV l = .tuple #[.string (bs t), .int .i64 0] := fun {t} h => by
          rw [quote_of_inner (by omega) (by rw [hc0]; exact a0) (by rw [hn, hc1]; exact a1) h]; exact unqV_some t
        have HQ : Hid (∀ t : List UInt8, inner l = t.flatMap quoteC → unqV l = .tuple #[.string (bs t), .int .i64 0]) := fun t h => hq h
        have HS : Hid ((∀ t : List UInt8, inner l ≠ t.flatMap quoteC) → unqV l = .tuple #[.string (bs []), .int .i64 4]) := unqV_stuck
        obtain ⟨p, hp2⟩ : ∃ p, n = p + 2 := ⟨n - 2, by omega⟩
        have hml : (inner l).length = p := by rw [inner_len, hn]; omega
        obtain ⟨m, hm⟩ : ∃ m, inner l = m := ⟨_, rfl⟩
        obtain ⟨R, hR⟩ : ∃ R, unqV l = R := ⟨_, rfl⟩
        rw [hm] at q2 HQ HS hml
        rw [hR] at HQ HS ⊢
        have HN := Lib.hid hml
        have hsm : (bs m).size = p := by rw [bs_size, hml]
        have hpl : p ≤ 1000000 := by omega
        clear hq hm hR hml a0 a1 hl hn hp2
        go_enter Tryz.func89, Tryz.ntmps89
        go_wp2_with fail
        go_loopw [4, 5] (fun v i wr => ∃ (k : Nat) (out : List UInt8), k ≤ p ∧ i = .int .i64 k ∧ Own8 wr w.heap.size 5 v out ∧ Hid (m.take k = out.flatMap quoteC) ∧ out.length ≤ k ∧ Below w.heap.size w wr) (fun _ i _ => p - (intOf i).toNat)
        case atStart => exact ⟨0, [], Nat.zero_le _, rfl, Own8.nil _ _ _, rfl, Nat.le_refl _, Below.refl _ _⟩
        case round =>
          obtain ⟨k, out, hk, rfl, hown, HT, hol, hbel⟩ := hrel
          have hbl := hbel.size
          by_cases hlt : k < p
          · have hkl : k < m.length := by rw [HN.out]; exact hlt
            obtain ⟨c, hc⟩ : ∃ c, bAt m k = c := ⟨_, rfl⟩
            have hcl : c.toNat ≤ 255 := by have := c.toNat_lt; omega
            have HC := Lib.hid hc
            have HP : Hid (∀ W, Calls Tryz.prog 93 #[.int .u8 (c.toNat : Int)] W fun e w' => e = .returned (.bool (plainZ (c.toNat : Int))) ∧ w' = W) := fun W => plain_any _ (by omega) (by omega) W
            cases hp : plainZ (c.toNat : Int) with
            | true =>
              have HT2 : Hid (m.take (k + 1) = (out ++ [c]).flatMap quoteC) := by have := step_plain HT.out hkl (by rw [HC.out]; exact hp); rwa [HC.out] at this
              rw [hp] at HP
              clear hp hkl
              go_wp2_with (first | (go_at_call 93; ((with_reducible refine (HP.out _).mono ?_); rintro e w' ⟨rfl, rfl⟩)) | (at_builtin; refine wpList_app S8 rfl (.tmp 39) (.tmp 41) rfl w.heap.size rfl (hown.alloc _) rfl (Rd.one _ _ _) (by simp [Value.oneCell']) (by omega) (by simp [maxLen]; omega) (by simp; omega) ?_))
              intro v' w1 hown' hb1 _
              clear hown
              go_wp2
              go_roundw
              case rel => exact ⟨k + 1, out ++ [c], by omega, by go_num, Own8.mk hown' (by rw [List.length_append]; rfl) (by rw [B8_append]; rfl), HT2, by rw [List.length_append]; simp; omega, (hbel.alloc hbl _).trans hb1⟩
              case measure => simp [intOf]; omega
            | false =>
              have HN0 : Hid (plainZ ((bAt m k).toNat : Int) = false) := by rw [HC.out]; exact hp
              have HK := Lib.hid hkl
              rw [hp] at HP
              clear hp hkl
              by_cases b92 : c = 92
              · have y0 : ((c.toNat : Int) != 92) = false := by rw [b92]; rfl
                have H92 : Hid (bAt m k = 92) := by rw [HC.out]; exact b92
                clear b92
                by_cases b3 : k + 2 < p
                · obtain ⟨d1, hd1⟩ : ∃ c, bAt m (k + 1) = c := ⟨_, rfl⟩
                  obtain ⟨d2, hd2⟩ : ∃ c, bAt m (k + 2) = c := ⟨_, rfl⟩
                  have hl1 : d1.toNat ≤ 255 := by have := d1.toNat_lt; omega
                  have hl2 : d2.toNat ≤ 255 := by have := d2.toNat_lt; omega
                  have HD1 : Hid (∀ W, Calls Tryz.prog 112 #[.int .u8 (d1.toNat : Int)] W fun e w' => e = .returned (.int .i64 (hexZ (d1.toNat : Int))) ∧ w' = W) := fun W => digit_any _ (by omega) (by omega) W
                  have HD2 : Hid (∀ W, Calls Tryz.prog 112 #[.int .u8 (d2.toNat : Int)] W fun e w' => e = .returned (.int .i64 (hexZ (d2.toNat : Int))) ∧ w' = W) := fun W => digit_any _ (by omega) (by omega) W
                  have HE1 := Lib.hid hd1
                  have HE2 := Lib.hid hd2
                  have hx := hexZ_bd (d1.toNat : Int)
                  have hy := hexZ_bd (d2.toNat : Int)
                  have HX : Hid (((hexZ (d1.toNat : Int)) < 0 → R = .tuple #[.string (bs []), .int .i64 4]) ∧ ((hexZ (d2.toNat : Int)) < 0 → R = .tuple #[.string (bs []), .int .i64 4])) :=
                    ⟨fun h => HS.out fun t => stuck_no HT.out HK.out HN0.out (.inr (.inr (.inl (by rw [HE1.out]; exact h)))) t, fun h => HS.out fun t => stuck_no HT.out HK.out HN0.out (.inr (.inr (.inr (.inl (by rw [HE2.out]; exact h))))) t⟩
                  by_cases sx : hexZ (d1.toNat : Int) < 0
                  · have HR : Hid (R = .tuple #[.string (bs []), .int .i64 4]) := HX.out.1 sx
                    clear HX HD1 HD2
                    go_wp2_with (first | (go_at_call 93; ((with_reducible refine (HP.out _).mono ?_); rintro e w' ⟨rfl, rfl⟩)) | (go_at_call 112; ((with_reducible refine (digit_any _ (by omega) (by omega) _).mono ?_); rintro e w' ⟨rfl, rfl⟩)))
                    exact bodyPost_ret (v := .tuple #[.string (bs []), .int .i64 4]) (by simp [results, Tryz.results89, go_sem] <;> rfl) rfl ⟨by rw [HR.out], hbel⟩
                  · by_cases sy : hexZ (d2.toNat : Int) < 0
                    · have HR : Hid (R = .tuple #[.string (bs []), .int .i64 4]) := HX.out.2 sy
                      clear HX HD1 HD2
                      go_wp2_with (first | (go_at_call 93; ((with_reducible refine (HP.out _).mono ?_); rintro e w' ⟨rfl, rfl⟩)) | (go_at_call 112; ((with_reducible refine (digit_any _ (by omega) (by omega) _).mono ?_); rintro e w' ⟨rfl, rfl⟩)))
                      exact bodyPost_ret (v := .tuple #[.string (bs []), .int .i64 4]) (by simp [results, Tryz.results89, go_sem] <;> rfl) rfl ⟨by rw [HR.out], hbel⟩
                    · obtain ⟨v, hv⟩ : ∃ v, hexV d1 d2 = v := ⟨_, rfl⟩
                      have hvi := hexV_int d1 d2 (by omega) (by omega)
                      rw [hv] at hvi
                      have HV := Lib.hid hv
                      clear hv
                      have hvl : v.toNat ≤ 255 := by have := v.toNat_lt; omega
                      have q1 := shl4 (hexZ (d1.toNat : Int)) (by omega) (by omega)
                      have q2 := or16 (hexZ (d1.toNat : Int)) (hexZ (d2.toNat : Int)) (by omega) (by omega) (by omega) (by omega)
                      rw [← hvi] at q2
                      have q3 := wrap8 (v.toNat : Int) (by omega) (by omega)
                      have HPV : Hid (∀ W, Calls Tryz.prog 93 #[.int .u8 (v.toNat : Int)] W fun e w' => e = .returned (.bool (plainZ (v.toNat : Int))) ∧ w' = W) := fun W => plain_any _ (by omega) (by omega) W
                      have hx0 : 0 ≤ hexZ (d1.toNat : Int) := by omega
                      have hy0 : 0 ≤ hexZ (d2.toNat : Int) := by omega
                      clear HX hvi sx sy HD1 HD2
                      go_wp2_with (first | (go_at_call 93; ((with_reducible refine (HP.out _).mono ?_); rintro e w' ⟨rfl, rfl⟩)) | (go_at_call 112; ((with_reducible refine (digit_any _ (by omega) (by omega) _).mono ?_); rintro e w' ⟨rfl, rfl⟩)))
                      go_quiet ((go_at_call 112; exact Calls.quiet_of_same (digit_any _ (by omega) (by omega) _)))
                      cases hpv : plainZ (v.toNat : Int) with
                      | true =>
                        have HR : Hid (R = .tuple #[.string (bs []), .int .i64 4]) := HS.out fun t => stuck_no HT.out HK.out HN0.out (.inr (.inr (.inr (.inr (by rw [HE1.out, HE2.out, HV.out]; exact hpv))))) t
                        rw [hpv] at HPV
                        clear hpv
                        go_wp2_with (go_at_call 93; ((with_reducible refine (HPV.out _).mono ?_); rintro e w' ⟨rfl, rfl⟩))
                        exact bodyPost_ret (v := .tuple #[.string (bs []), .int .i64 4]) (by simp [results, Tryz.results89, go_sem] <;> rfl) rfl ⟨by rw [HR.out], below_drewN hbel _⟩
                      | false =>
                        have HT2 : Hid (m.take (k + 3) = (out ++ [v]).flatMap quoteC) := by
                          have := step_hex HT.out (by rw [HN.out]; exact b3) H92.out (by rw [HE1.out]; exact hx0) (by rw [HE2.out]; exact hy0) (by rw [HE1.out, HE2.out, HV.out]; exact hpv)
                          rwa [HE1.out, HE2.out, HV.out] at this
                        rw [hpv] at HPV
                        clear hpv
                        go_wp2_with (first | (go_at_call 93; ((with_reducible refine (HPV.out _).mono ?_); rintro e w' ⟨rfl, rfl⟩)) | (at_builtin; refine wpList_app S8 rfl (.tmp 83) (.tmp 85) rfl w.heap.size rfl ((own_drewN hown _).alloc _) rfl (Rd.one _ _ _) (by simp [Value.oneCell']) (by omega) (by simp [maxLen]; omega) (by simp; omega) ?_))
                        intro v' w1 hown' hb1 _
                        clear hown
                        go_wp2
                        go_roundw
                        case rel => exact ⟨k + 3, out ++ [v], by omega, by go_num, Own8.mk hown' (by rw [List.length_append]; rfl) (by rw [B8_append]; rfl), HT2, by rw [List.length_append]; simp; omega, ((below_drewN hbel _).alloc (by simpa using hbl) _).trans hb1⟩
                        case measure => simp [intOf]; omega
                · have HR : Hid (R = .tuple #[.string (bs []), .int .i64 4]) := HS.out fun t => stuck_no HT.out HK.out HN0.out (.inr (.inl (by rw [HN.out]; exact b3))) t
                  go_wp2_with (go_at_call 93; ((with_reducible refine (HP.out _).mono ?_); rintro e w' ⟨rfl, rfl⟩))
                  exact bodyPost_ret (v := .tuple #[.string (bs []), .int .i64 4]) (by simp [results, Tryz.results89, go_sem] <;> rfl) rfl ⟨by rw [HR.out], hbel⟩
              · have HR : Hid (R = .tuple #[.string (bs []), .int .i64 4]) := HS.out fun t => stuck_no HT.out HK.out HN0.out (.inl (by rw [HC.out]; exact b92)) t
                have y0 : ((c.toNat : Int) != 92) = true := by simp only [bne_iff_ne, ne_eq]; intro h; exact b92 (UInt8.toNat_inj.1 (by rw [show (92 : UInt8).toNat = 92 from rfl]; omega))
                clear b92
                go_wp2_with (go_at_call 93; ((with_reducible refine (HP.out _).mono ?_); rintro e w' ⟨rfl, rfl⟩))
                exact bodyPost_ret (v := .tuple #[.string (bs []), .int .i64 4]) (by simp [results, Tryz.results89, go_sem] <;> rfl) rfl ⟨by rw [HR.out], hbel⟩
          · have hkp : k = p := by omega
            subst hkp
            have HR : Hid (R = .tuple #[.string (bs out), .int .i64 0]) := HQ.out out (by rw [← HT.out, List.take_of_length_le (by rw [HN.out]; exact Nat.le_refl _)])
            obtain ⟨a, cap, rfl, hr⟩ := hown.rd
            have hcv := run_toStr (P := Tryz.prog) hr 106 5 9 Tryz.underlying106 Tryz.underlying5 Tryz.underlying9
            clear hown
            go_wp2
            exact bodyPost_ret (v := .tuple #[.string (bs out), .int .i64 0]) (by simp [results, Tryz.results89, go_sem] <;> rfl) rfl ⟨by rw [HR.out], hbel⟩
      · have HV : Hid (unqV l = .tuple #[.string (bs []), .int .i64 4]) := unqV_last (by rw [hn, hc1]; exact a1)
        have z0 : ((c0.toNat : Int) != 34) = false := by subst a0; rfl
        have z1 : ((c1.toNat : Int) != 34) = true := by simp only [bne_iff_ne, ne_eq]; intro h; exact a1 (UInt8.toNat_inj.1 (by rw [show (34 : UInt8).toNat = 34 from rfl]; omega))
        rw [HV.out]
        clear HV a0 a1 hl hn
        go_enter Tryz.func89, Tryz.ntmps89
        go_wp2
        exact bodyPost_ret (v := .tuple #[.string (bs []), .int .i64 4]) (by simp [results, Tryz.results89, go_sem] <;> rfl) rfl ⟨rfl, Below.refl _ _⟩
    · have HV : Hid (unqV l = .tuple #[.string (bs []), .int .i64 4]) := unqV_head (by rw [hc0]; exact a0)
      have z0 : ((c0.toNat : Int) != 34) = true := by simp only [bne_iff_ne, ne_eq]; intro h; exact a0 (UInt8.toNat_inj.1 (by rw [show (34 : UInt8).toNat = 34 from rfl]; omega))
      rw [HV.out]
      clear HV a0 hl hn hc1
      go_enter Tryz.func89, Tryz.ntmps89
      go_wp2
      exact bodyPost_ret (v := .tuple #[.string (bs []), .int .i64 4]) (by simp [results, Tryz.results89, go_sem] <;> rfl) rfl ⟨rfl, Below.refl _ _⟩
  · have HV : Hid (unqV l = .tuple #[.string (bs []), .int .i64 4]) := unqV_len (by omega)
    rw [HV.out]
    clear HV hl hn
    go_enter Tryz.func89, Tryz.ntmps89
    go_wp2
    exact bodyPost_ret (v := .tuple #[.string (bs []), .int .i64 4]) (by simp [results, Tryz.results89, go_sem] <;> rfl) rfl ⟨rfl, Below.refl _ _⟩
end Go.Proofs.YtalpbphfmelhhaaGreatDoor
