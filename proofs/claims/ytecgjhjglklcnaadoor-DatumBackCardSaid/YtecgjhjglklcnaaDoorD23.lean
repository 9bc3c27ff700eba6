/-
  Quoted texts, byte by byte; the walk of DatumQuotes.
-/
import Derived.Test.YtecgjhjglklcnaaDoorD22
namespace Go.Proofs.YtecgjhjglklcnaaDoor
set_option maxRecDepth 100000
open Go.RowKit Go.Shelf Go.Sort
attribute [local go_sem] bs_size bs_get bs_toList
theorem hexC_bd (k : Nat) (h : k < 16) : 48 ≤ (hexC k).toNat ∧ (hexC k).toNat ≤ 102 := by
  rw [hexC_nat k h]; split <;> omega
theorem flat_seen (l : List UInt8) : ∀ c ∈ l.flatMap quoteC, 32 ≤ c.toNat ∧ c.toNat ≤ 126 ∧ c.toNat ≠ 34 := by
  intro c hc
  obtain ⟨d, _, hd⟩ := List.mem_flatMap.1 hc
  have hdl := d.toNat_lt
  unfold quoteC at hd
  split at hd
  · rename_i hp
    rw [List.mem_singleton] at hd
    subst hd
    unfold plainZ at hp
    simp only [Bool.and_eq_true, decide_eq_true_eq, Bool.not_eq_true', beq_eq_false_iff_ne] at hp
    omega
  · have b1 := hexC_bd (d.toNat / 16) (by omega)
    have b2 := hexC_bd (d.toNat % 16) (by omega)
    simp only [List.mem_cons, List.not_mem_nil, or_false] at hd
    rcases hd with rfl | rfl | rfl
    · decide
    · omega
    · omega
theorem quote_seen (l : List UInt8) (k : Nat) (h : k < (quoteOf l).length) : 32 ≤ (bAt (quoteOf l) k).toNat ∧ (bAt (quoteOf l) k).toNat ≤ 126 ∧ ((bAt (quoteOf l) k).toNat = 34 ↔ k = 0 ∨ k = (quoteOf l).length - 1) := by
  have hl : (quoteOf l).length = (l.flatMap quoteC).length + 2 := by unfold quoteOf; simp
  by_cases h0 : k = 0
  · subst h0
    rw [quoteOf_head]
    exact ⟨by decide, by decide, fun _ => .inl rfl, fun _ => rfl⟩
  · by_cases h1 : k = (quoteOf l).length - 1
    · rw [h1, quoteOf_last]
      exact ⟨by decide, by decide, by simp⟩
    · have hk : k - 1 < (l.flatMap quoteC).length := by omega
      have he : bAt (quoteOf l) k = (l.flatMap quoteC)[k - 1] := by
        unfold bAt quoteOf
        rw [List.getD_eq_getElem?_getD, List.getElem?_append_left (by rw [List.length_cons]; omega), List.getElem?_cons, if_neg h0, List.getElem?_eq_getElem hk]; rfl
      have := flat_seen l _ (List.getElem_mem hk)
      rw [he]
      exact ⟨this.1, this.2.1, fun h2 => absurd h2 this.2.2, fun h2 => by omega⟩
theorem quote_app (s t : List UInt8) : quoteOf (s ++ t) = (quoteOf s).take ((quoteOf s).length - 1) ++ (quoteOf t).tail := by
  have hl : (quoteOf s).length - 1 = (34 :: s.flatMap quoteC).length := by unfold quoteOf; simp
  rw [hl]
  unfold quoteOf
  rw [List.take_append_of_le_length (Nat.le_refl _), List.take_length]
  simp
theorem bs_app (s t : List UInt8) : bs s ++ bs t = bs (s ++ t) := by
  apply ByteArray.ext
  simp [bs]
theorem cat_run (a b : List UInt8) (h : a.length + b.length ≤ 100000) : Op.stringOp .add (bs a) (bs b) = pure (.string (bs (a ++ b))) := by
  unfold Op.stringOp
  have h1 := bs_size a
  have h2 := bs_size b
  have hm : IntKind.i64.max = 9223372036854775807 := by decide
  simp only
  rw [if_neg (by rw [h1, h2, hm]; omega), bs_app]
def SeenAll (q : List UInt8) (n : Nat) : Prop := ∀ k, k < n → 32 ≤ (bAt q k).toNat ∧ (bAt q k).toNat ≤ 126 ∧ ((bAt q k).toNat = 34 ↔ k = 0 ∨ k = n - 1)
set_option maxHeartbeats 4000000 in
theorem quotes_any (s t : List UInt8) (w : World) (hT : Laid w) : Calls Tryd.prog 5 #[.string (bs s), .string (bs t)] w fun e w' => e = .returned (.bool true) ∧ Below w.heap.size w w' := by
  have HK : Hid (Kp w w) := Kp.start hT
  clear hT
  have hss : (bs s).size = s.length := bs_size s
  have hts : (bs t).size = t.length := bs_size t
  by_cases hs : s.length ≤ 2000
  case neg =>
    have hl2 : decide ((2000 : Int) < (s.length : Int)) = true := decide_eq_true (by omega)
    go_enter Tryd.func5, Tryd.ntmps5
    go_wp2_with (go_at_call 11; ((with_reducible refine (first_any _ HK.out.laid).mono ?_); rintro e W ⟨rfl, hb⟩; have HK := Lib.hid (HK.out.next hb); clear hb))
    go_ret
    exact ⟨rfl, HK.out.below⟩
  case pos =>
  by_cases ht : t.length ≤ 2000
  case neg =>
    have hl1 : decide ((2000 : Int) < (s.length : Int)) = false := decide_eq_false (by omega)
    have hl2 : decide ((2000 : Int) < (t.length : Int)) = true := decide_eq_true (by omega)
    go_enter Tryd.func5, Tryd.ntmps5
    go_wp2_with (go_at_call 11; ((with_reducible refine (first_any _ HK.out.laid).mono ?_); rintro e W ⟨rfl, hb⟩; have HK := Lib.hid (HK.out.next hb); clear hb))
    go_ret
    exact ⟨rfl, HK.out.below⟩
  case pos =>
  have HA : Hid (quoteOf (s ++ t) = (quoteOf s).take ((quoteOf s).length - 1) ++ (quoteOf t).drop 1) := quote_app s t
  have HS : Hid (SeenAll (quoteOf s) (quoteOf s).length) := fun k hk => quote_seen s k hk
  have hq1 := quoteOf_len s
  have hp1 := quoteOf_len t
  have HQ : Hid (∀ W, Calls Tryd.prog 26 #[.string (bs s)] W fun e w' => e = .returned (.string (bs (quoteOf s))) ∧ Below W.heap.size W w') := fun W => cquote s (by omega) W
  have HP : Hid (∀ W, Calls Tryd.prog 26 #[.string (bs t)] W fun e w' => e = .returned (.string (bs (quoteOf t))) ∧ Below W.heap.size W w') := fun W => cquote t (by omega) W
  have HB : Hid (∀ W, Calls Tryd.prog 26 #[.string (bs (s ++ t))] W fun e w' => e = .returned (.string (bs (quoteOf (s ++ t)))) ∧ Below W.heap.size W w') := fun W => cquote _ (by rw [List.length_append]; omega) W
  have hq2 : (quoteOf s).length ≤ 10000 := by have := quoteTo_len s s.length; have := quoteTo_all s s.length rfl; rw [← this, List.length_append]; simp; omega
  have hp2 : (quoteOf t).length ≤ 10000 := by have := quoteTo_len t t.length; have := quoteTo_all t t.length rfl; rw [← this, List.length_append]; simp; omega
  rw [HA.out] at HB
  obtain ⟨q, hq⟩ : ∃ q, quoteOf s = q := ⟨_, rfl⟩
  obtain ⟨p, hp⟩ : ∃ p, quoteOf t = p := ⟨_, rfl⟩
  rw [hq] at HS HQ HB hq1 hq2
  rw [hp] at HP HB hp1 hp2
  clear HA hq hp
  obtain ⟨n, hn⟩ : ∃ n, q.length = n := ⟨_, rfl⟩
  obtain ⟨m, hm⟩ : ∃ m, p.length = m := ⟨_, rfl⟩
  have hqs : (bs q).size = n := by rw [bs_size, hn]
  have hps : (bs p).size = m := by rw [bs_size, hm]
  rw [hn] at HS HB hq1 hq2
  rw [hm] at hp1 hp2
  have e1 := cat_run s t (by omega)
  have e2 : (bs q).extract 0 (n - 1) = bs (q.take (n - 1)) := bs_take q _
  have e3 : (bs p).extract 1 m = bs p.tail := by rw [← hm, ← List.drop_one]; exact bs_drop p 1
  have e4 := cat_run (q.take (n - 1)) p.tail (by rw [List.length_take, List.length_tail]; omega)
  go_enter Tryd.func5, Tryd.ntmps5
  go_wp2_with (first | (go_at_call 11; ((with_reducible refine (first_any _ HK.out.laid).mono ?_); rintro e W ⟨rfl, hb⟩; have HK := Lib.hid (HK.out.next hb); clear hb)) | (go_at_call 26; ((with_reducible refine (HQ.out _).mono ?_); rintro e W ⟨rfl, hb⟩; have HK := Lib.hid (HK.out.next hb); clear hb)) | (go_at_call 26; ((with_reducible refine (HP.out _).mono ?_); rintro e W ⟨rfl, hb⟩; have HK := Lib.hid (HK.out.next hb); clear hb)))
  go_loop [7] (fun i => ∃ k : Nat, k ≤ n ∧ i = .int .i64 k) (fun i => n - (intOf i).toNat)
  case atStart => exact ⟨0, Nat.zero_le _, rfl⟩
  case round =>
    obtain ⟨k, hk, rfl⟩ := hrel
    by_cases hlt : k < n
    · obtain ⟨b1, b2, b3⟩ := HS.out k hlt
      obtain ⟨c, hc⟩ : ∃ c, bAt q k = c := ⟨_, rfl⟩
      rw [hc] at b1 b2 b3
      by_cases k0 : k = 0
      · subst k0
        have z1 : ((c.toNat : Int) == 34) = true := by rw [beq_iff_eq]; have := b3.2 (.inl rfl); omega
        clear b3
        go_wp2
        go_round
        case rel => exact ⟨1, by omega, rfl⟩
        case measure => simp [intOf]; omega
      · have z2 : ((k : Int) == 0) = false := by rw [beq_eq_false_iff_ne]; omega
        by_cases k1 : k = n - 1
        · have z1 : ((c.toNat : Int) == 34) = true := by rw [beq_iff_eq]; have := b3.2 (.inr k1); omega
          have z3 : ((k : Int) == (n : Int) - 1) = true := by rw [beq_iff_eq]; omega
          have K1 := Lib.hid k1
          clear b3 k1
          go_wp2
          go_round
          case rel => exact ⟨k + 1, by omega, by go_num⟩
          case measure => simp [intOf]; omega
        · have z1 : ((c.toNat : Int) == 34) = false := by rw [beq_eq_false_iff_ne]; intro h; have := b3.1 (by omega); omega
          have z3 : ((k : Int) == (n : Int) - 1) = false := by rw [beq_eq_false_iff_ne]; omega
          clear b3
          go_wp2
          go_round
          case rel => exact ⟨k + 1, by omega, by go_num⟩
          case measure => simp [intOf]; omega
    · have hkn : k = n := by omega
      subst hkn
      go_wp2
      have s1 : IntKind.i64.wrap ((k : Int) - 1) = (k : Int) - 1 := IntWalk.i64_in _ (by omega)
      have s2 : (0 : Int) ≤ (k : Int) - 1 := by omega
      have s3 : ((k : Int) - 1).toNat = k - 1 := by omega
      have s4 : (1 : Int) ≤ (m : Int) := by omega
      have s6 : (1 : Int) ≤ (k : Int) := by omega
      have s5 : (k : Int) - 1 ≤ (k : Int) := by omega
      go_region_held3 (fun W => True ∧ Kp w W) (first | assumption | exact ⟨trivial, HK.out.drew⟩ | exact ⟨trivial, (by assumption : True ∧ Kp w _).2.next hb⟩) ((first | (go_at_call 11; with_reducible (refine (first_any _ (by assumption : True ∧ Kp w _).2.laid).mono ?_); rintro e W ⟨rfl, hb⟩) | (go_at_call 26; with_reducible (refine (HB.out _).mono ?_); rintro e W ⟨rfl, hb⟩)))
      all_goals
        go_wp2
        go_ret
        exact ⟨rfl, (by assumption : True ∧ Kp w _).2.below⟩
end Go.Proofs.YtecgjhjglklcnaaDoor
