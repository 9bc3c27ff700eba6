/-
  The walk of the reference's Unquote.
-/
import Derived.Test.YtalpbphfmelhhaaGreatDoorD10
import Derived.StillTailTactics
namespace Go.Proofs.YtalpbphfmelhhaaGreatDoor
set_option maxRecDepth 100000
open Go.RowKit Go.Shelf Go.Sort
attribute [local go_sem] bs_size bs_get bs_toList
/-- What is read so far is a beginning, if the text is a quoted one. -/
def Begun (m out : List UInt8) (k : Nat) : Prop := ∀ t : List UInt8, m = t.flatMap quoteC → m.take k = out.flatMap quoteC
theorem Begun.plain {m out : List UInt8} {k : Nat} (h : Begun m out k) (hk : k < m.length) (h92 : bAt m k ≠ 92) : Begun m (out ++ [bAt m k]) (k + 1) := by
  intro t ht
  obtain ⟨c, h1 | h1⟩ := stuck (h t ht) hk ht
  · exact step_plain (h t ht) hk (by rw [h1.2]; exact h1.1)
  · exact absurd h1.2.1 h92
theorem Begun.hex {m out : List UInt8} {k : Nat} (h : Begun m out k) (hk : k < m.length) (h92 : bAt m k = 92) : Begun m (out ++ [hexV (bAt m (k + 1)) (bAt m (k + 2))]) (k + 3) := by
  intro t ht
  obtain ⟨c, h1 | h1⟩ := stuck (h t ht) hk ht
  · rw [← h1.2, h92] at h1; exact absurd h1.1 (by decide)
  · obtain ⟨p1, p2, p3, p4, p5⟩ := h1
    have hc := c.toNat_lt
    have z1 := hexZ_hexC (c.toNat / 16) (by omega)
    have z2 := hexZ_hexC (c.toNat % 16) (by omega)
    have hv : hexV (bAt m (k + 1)) (bAt m (k + 2)) = c := by
      apply UInt8.toNat_inj.1
      have hv := hexV_int (bAt m (k + 1)) (bAt m (k + 2)) (by rw [p4]; omega) (by rw [p5]; omega)
      rw [p4, p5] at hv ⊢
      omega
    exact step_hex (h t ht) p3 h92 (by rw [p4, z1]; omega) (by rw [p5, z2]; omega) (by rw [hv]; exact p1)
theorem Begun.no {m out : List UInt8} {k : Nat} (h : Begun m out k) (hk : k < m.length) (h92 : bAt m k = 92)
    (hb : ¬ k + 2 < m.length ∨ hexZ ((bAt m (k + 1)).toNat : Int) < 0 ∨ hexZ ((bAt m (k + 2)).toNat : Int) < 0) : ∀ t : List UInt8, m ≠ t.flatMap quoteC := by
  intro t ht
  obtain ⟨c, h1 | h1⟩ := stuck (h t ht) hk ht
  · rw [← h1.2, h92] at h1; exact absurd h1.1 (by decide)
  · obtain ⟨p1, p2, p3, p4, p5⟩ := h1
    have hc := c.toNat_lt
    have z1 := hexZ_hexC (c.toNat / 16) (by omega)
    have z2 := hexZ_hexC (c.toNat % 16) (by omega)
    rcases hb with hb | hb | hb
    · exact hb p3
    · rw [p4] at hb; omega
    · rw [p5] at hb; omega
theorem bAt_inner (l : List UInt8) (k : Nat) (h : k < (inner l).length) : bAt (inner l) k = bAt l (k + 1) := by
  have h2 : k < l.length - 2 := by rw [inner_len] at h; exact h
  unfold inner bAt
  rw [List.getD_eq_getElem?_getD, List.getD_eq_getElem?_getD, List.getElem?_take, if_pos h2, List.getElem?_drop, Nat.add_comm 1 k]
theorem hexR_eq (n : Int) : (15 < hexR n ↔ hexZ n < 0) ∧ (0 ≤ hexZ n → hexR n = hexZ n) := by
  have := hexZ_bd n
  unfold hexR
  split <;> constructor <;> omega
theorem hexR_hexV (a b : UInt8) (ha : 0 ≤ hexZ (a.toNat : Int)) (hb : 0 ≤ hexZ (b.toNat : Int)) : 16 * hexR (a.toNat : Int) + hexR (b.toNat : Int) = ((hexV a b).toNat : Int) := by
  rw [hexV_int a b ha hb, (hexR_eq _).2 ha, (hexR_eq _).2 hb]; omega
/-- At the end. -/
theorem unqV_end {l out : List UInt8} {k : Nat} (h : Begun (inner l) out k) (hk : (inner l).length ≤ k) : unqV l = if quoteOf out = l then .tuple #[.string (bs out), .int .i64 0] else .tuple #[.string (bs []), .int .i64 4] := by
  split
  · rename_i e; rw [← e]; exact unqV_some out
  · rename_i e
    refine unqV_none fun t ht => e ?_
    have h1 := h t (by rw [ht]; exact inner_quote t)
    rw [List.take_of_length_le hk, ht, inner_quote] at h1
    rw [ht, flat_inj h1]
theorem u8_15 (n : Int) : (decide ((15 : Int) < hexR n)) = decide (hexZ n < 0) := by rw [Bool.eq_iff_iff]; simp [(hexR_eq n).1]
theorem Own8.drew {w : World} {base : Nat} {e : TypeId} {v : Value} {l : List UInt8} (h : Own8 w base e v l) : Own8 w.drew base e v l := h.below (Nat.le_refl _) (Below.refl _ _).drew
set_option maxHeartbeats 2000000 in
theorem refUnquote_any (l : List UInt8) (hl : l.length ≤ 100000) (w : World) :
    Calls Tryz.prog 59 #[.string (bs l)] w fun e w' => e = .returned (unqV l) ∧ Below w.heap.size w w' := by
  obtain ⟨n, hn⟩ : ∃ n, l.length = n := ⟨_, rfl⟩
  have hml : (inner l).length = n - 2 := by rw [inner_len, hn]
  have HE : Hid (∀ (out : List UInt8) (k : Nat), Begun (inner l) out k → (inner l).length ≤ k → unqV l = if quoteOf out = l then .tuple #[.string (bs out), .int .i64 0] else .tuple #[.string (bs []), .int .i64 4]) := fun out k h hk => unqV_end h hk
  have HS : Hid ((∀ t : List UInt8, inner l ≠ t.flatMap quoteC) → unqV l = .tuple #[.string (bs []), .int .i64 4]) := unqV_stuck
  have HI : Hid (∀ k, k < n - 2 → bAt (inner l) k = bAt l (k + 1)) := fun k hk => bAt_inner l k (by omega)
  obtain ⟨m, hm⟩ : ∃ m, inner l = m := ⟨_, rfl⟩
  obtain ⟨R, hR⟩ : ∃ R, unqV l = R := ⟨_, rfl⟩
  rw [hm] at hml HE HS HI
  rw [hR] at HE HS ⊢
  have HN := Lib.hid hml
  have hsz : (bs l).size = n := by rw [bs_size, hn]
  have HL : Hid (l.length = n) := hn
  have hn6 : n ≤ 100000 := by omega
  clear hm hR hml hl hn
  go_enter Tryz.func59, Tryz.ntmps59
  go_wp2_with fail
  go_loopw [4, 6] (fun v i wr => ∃ (k : Nat) (out : List UInt8), (k + 2 ≤ n ∨ k = 0) ∧ i = .int .i64 ((k : Int) + 1) ∧ Own8 wr w.heap.size 5 v out ∧ Hid (Begun m out k) ∧ out.length ≤ k ∧ Below w.heap.size w wr) (fun _ i _ => n + 1 - (intOf i).toNat)
  case atStart => exact ⟨0, [], .inr rfl, rfl, Own8.nil _ _ _, fun t _ => by simp, Nat.le_refl _, Below.refl _ _⟩
  case round =>
    obtain ⟨k, out, hk, rfl, hown, HT, hol, hbel⟩ := hrel
    have hbl := hbel.size
    have hkn : k ≤ 100000 := by omega
    by_cases hlt : k + 2 < n
    · have hkl : k < m.length := by rw [HN.out]; omega
      have HK := Lib.hid hkl
      have hbk : bAt m k = bAt l (k + 1) := HI.out k (by omega)
      obtain ⟨c, hc⟩ : ∃ c, bAt l (k + 1) = c := ⟨_, rfl⟩
      have hcl : c.toNat ≤ 255 := by have := c.toNat_lt; omega
      rw [hc] at hbk
      have HC := Lib.hid hbk
      clear hbk hkl
      have hlt1 : decide ((k : Int) + 1 < (n : Int) - 1) = true := decide_eq_true (by omega)
      by_cases b92 : c = 92
      · have y0 : ((c.toNat : Int) != 92) = false := by rw [b92]; rfl
        have H92 : Hid (bAt m k = 92) := by rw [HC.out]; exact b92
        clear b92
        by_cases b3 : k + 4 < n
        · have hb3 : decide ((k : Int) + 1 + 2 < (n : Int) - 1) = true := decide_eq_true (by omega)
          obtain ⟨d1, hd1⟩ : ∃ c, bAt l (k + 2) = c := ⟨_, rfl⟩
          obtain ⟨d2, hd2⟩ : ∃ c, bAt l (k + 3) = c := ⟨_, rfl⟩
          have hl1 : d1.toNat ≤ 255 := by have := d1.toNat_lt; omega
          have hl2 : d2.toNat ≤ 255 := by have := d2.toNat_lt; omega
          have HE1 : Hid (bAt m (k + 1) = d1) := by rw [HI.out _ (by omega)]; exact hd1
          have HE2 : Hid (bAt m (k + 2) = d2) := by rw [HI.out _ (by omega)]; exact hd2
          have g1 : decide (15 < hexR (d1.toNat : Int)) = decide (hexZ (d1.toNat : Int) < 0) := u8_15 _
          have g2 : decide (15 < hexR (d2.toNat : Int)) = decide (hexZ (d2.toNat : Int) < 0) := u8_15 _
          by_cases sx : hexZ (d1.toNat : Int) < 0
          · have HR : Hid (R = .tuple #[.string (bs []), .int .i64 4]) := HS.out (HT.out.no HK.out H92.out (.inr (.inl (by rw [HE1.out]; exact sx))))
            rw [decide_eq_true sx] at g1
            clear g2 sx
            go_wp2_with (go_at_call 90; ((with_reducible refine (refValue_any _ (by omega) (by omega) _).mono ?_); rintro e w' ⟨rfl, rfl⟩))
            exact bodyPost_ret (v := .tuple #[.string (bs []), .int .i64 4]) (by simp [results, Tryz.results59, go_sem] <;> rfl) rfl ⟨by rw [HR.out], hbel⟩
          · by_cases sy : hexZ (d2.toNat : Int) < 0
            · have HR : Hid (R = .tuple #[.string (bs []), .int .i64 4]) := HS.out (HT.out.no HK.out H92.out (.inr (.inr (by rw [HE2.out]; exact sy))))
              rw [decide_eq_false sx] at g1
              rw [decide_eq_true sy] at g2
              clear sx sy
              go_wp2_with (go_at_call 90; ((with_reducible refine (refValue_any _ (by omega) (by omega) _).mono ?_); rintro e w' ⟨rfl, rfl⟩))
              exact bodyPost_ret (v := .tuple #[.string (bs []), .int .i64 4]) (by simp [results, Tryz.results59, go_sem] <;> rfl) rfl ⟨by rw [HR.out], hbel⟩
            · obtain ⟨v, hv⟩ : ∃ v, hexV d1 d2 = v := ⟨_, rfl⟩
              have q1 := hexR_hexV d1 d2 (by omega) (by omega)
              rw [hv] at q1
              have hvl : v.toNat ≤ 255 := by have := v.toNat_lt; omega
              have r1 := (hexR_eq (d1.toNat : Int)).2 (by omega)
              have r2 := (hexR_eq (d2.toNat : Int)).2 (by omega)
              have z1 := hexZ_bd (d1.toNat : Int)
              have z2 := hexZ_bd (d2.toNat : Int)
              have HT2 : Hid (Begun m (out ++ [v]) (k + 3)) := by have := HT.out.hex HK.out H92.out; rwa [HE1.out, HE2.out, hv] at this
              have w1' : IntKind.u8.wrap (16 * hexR (d1.toNat : Int)) = 16 * hexR (d1.toNat : Int) := wrap8 _ (by omega) (by omega)
              have w2' : IntKind.u8.wrap (16 * hexR (d1.toNat : Int) + hexR (d2.toNat : Int)) = (v.toNat : Int) := by rw [q1]; exact wrap8 _ (by omega) (by omega)
              rw [decide_eq_false sx] at g1
              rw [decide_eq_false sy] at g2
              clear sx sy q1 r1 r2 z1 z2 hv
              go_wp2_with (go_at_call 90; ((with_reducible refine (refValue_any _ (by omega) (by omega) _).mono ?_); rintro e w' ⟨rfl, rfl⟩))
              have s1 : IntKind.i64.wrap ((k : Int) + 1 + 1) = (k : Int) + 1 + 1 := IntWalk.i64_in _ (by omega)
              have s2 : (0 : Int) ≤ (k : Int) + 1 + 1 := by omega
              have s3 : ((k : Int) + 1 + 1).toNat = k + 2 := by omega
              have s4 : (k : Int) + 1 + 1 < (n : Int) := by omega
              have s5 : IntKind.i64.wrap ((k : Int) + 1 + 2) = (k : Int) + 1 + 2 := IntWalk.i64_in _ (by omega)
              have s6 : (0 : Int) ≤ (k : Int) + 1 + 2 := by omega
              have s7 : ((k : Int) + 1 + 2).toNat = k + 3 := by omega
              have s8 : (k : Int) + 1 + 2 < (n : Int) := by omega
              go_region_law (first | (refine step_app S8 (by rfl) (.tmp 46) (.tmp 59) (by rfl) w.heap.size (by simp [Act.eval]) (Own8.drew (hown.alloc _)) (by simp [Act.eval]) ((Rd.one _ _ _).below (Below.refl _ _).drew) (by simp [Value.oneCell']) (by decide) (by omega) (by simp [maxLen]; omega) (by simp; omega) ?_; intro v' w1 hown' hb1) | (go_simp; go_at_call 90; refine (refValue_any _ (by omega) (by omega) _).mono ?_; rintro e w' ⟨rfl, rfl⟩))
              all_goals
                clear s1 s2 s3 s4 s5 s6 s7 s8 hown
                go_wp2
                go_roundw
                case rel => exact ⟨k + 3, out ++ [v], .inl (by omega), by go_num, Own8.mk hown' (by rw [List.length_append]; rfl) (by rw [B8_append]; rfl), HT2, by rw [List.length_append]; simp; omega, ((hbel.alloc hbl _).drew).trans hb1⟩
                case measure => simp [intOf]; omega
        · have HR : Hid (R = .tuple #[.string (bs []), .int .i64 4]) := HS.out (HT.out.no HK.out H92.out (.inl (by rw [HN.out]; omega)))
          go_wp2
          exact bodyPost_ret (v := .tuple #[.string (bs []), .int .i64 4]) (by simp [results, Tryz.results59, go_sem] <;> rfl) rfl ⟨by rw [HR.out], hbel⟩
      · have y0 : ((c.toNat : Int) != 92) = true := by simp only [bne_iff_ne, ne_eq]; intro h; exact b92 (UInt8.toNat_inj.1 (by rw [show (92 : UInt8).toNat = 92 from rfl]; omega))
        have HT2 : Hid (Begun m (out ++ [c]) (k + 1)) := by have := HT.out.plain HK.out (by rw [HC.out]; exact b92); rwa [HC.out] at this
        clear b92
        go_wp2_with (at_builtin; refine wpList_app S8 rfl (.tmp 19) (.tmp 23) rfl w.heap.size rfl (hown.alloc _) rfl (Rd.one _ _ _) (by simp [Value.oneCell']) (by omega) (by simp [maxLen]; omega) (by simp; omega) ?_)
        intro v' w1 hown' hb1 _
        clear hown
        go_wp2
        go_roundw
        case rel => exact ⟨k + 1, out ++ [c], .inl (by omega), by go_num, Own8.mk hown' (by rw [List.length_append]; rfl) (by rw [B8_append]; rfl), HT2, by rw [List.length_append]; simp; omega, (hbel.alloc hbl _).trans hb1⟩
        case measure => simp [intOf]; omega
    · have hkp : m.length ≤ k := by rw [HN.out]; omega
      have HR : Hid (R = if quoteOf out = l then .tuple #[.string (bs out), .int .i64 0] else .tuple #[.string (bs []), .int .i64 4]) := HE.out out k HT.out hkp
      have hlt1 : decide ((k : Int) + 1 < (n : Int) - 1) = false := decide_eq_false (by omega)
      obtain ⟨a, cap, rfl, hr⟩ := hown.rd
      have hcv := run_toStr (P := Tryz.prog) hr 106 5 9 Tryz.underlying106 Tryz.underlying5 Tryz.underlying9
      clear hown
      have hol2 : out.length ≤ 100000 := by omega
      cases hq : (quoteOf out == l) with
      | true =>
        have HR2 : Hid (R = .tuple #[.string (bs out), .int .i64 0]) := by rw [HR.out, if_pos (eq_of_beq hq)]; exact rfl
        go_wp2_with (go_at_call 63; ((with_reducible refine (refQuote_any _ (by omega) _).mono ?_); rintro e w1 ⟨rfl, hb1⟩; have hcv2 := run_toStr (P := Tryz.prog) (hr.below hb1) 106 5 9 Tryz.underlying106 Tryz.underlying5 Tryz.underlying9; clear hcv))
        exact bodyPost_ret (v := .tuple #[.string (bs out), .int .i64 0]) (by simp [results, Tryz.results59, go_sem] <;> rfl) rfl ⟨by rw [HR2.out], hbel.trans (hb1.mono hbl)⟩
      | false =>
        have hqn : quoteOf out ≠ l := by intro h; rw [h] at hq; simp at hq
        have HR2 : Hid (R = .tuple #[.string (bs []), .int .i64 4]) := by rw [HR.out, if_neg hqn]; exact rfl
        clear hqn
        go_wp2_with (go_at_call 63; ((with_reducible refine (refQuote_any _ (by omega) _).mono ?_); rintro e w1 ⟨rfl, hb1⟩; clear hcv))
        exact bodyPost_ret (v := .tuple #[.string (bs []), .int .i64 4]) (by simp [results, Tryz.results59, go_sem] <;> rfl) rfl ⟨by rw [HR2.out], hbel.trans (hb1.mono hbl)⟩
end Go.Proofs.YtalpbphfmelhhaaGreatDoor
