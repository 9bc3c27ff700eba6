/-
  The walk of Quote.
  Plain laws of quoted texts: a text is quoted in one way.
  Plain laws of the way through a quoted text.
-/
import Derived.Test.YtalpbphfmelhhaaGreatDoorDB
import Derived.Test.YtalpbphfmelhhaaGreatDoorKA
/-! ### The walk of Quote. -/
namespace Go.Proofs.YtalpbphfmelhhaaGreatDoor
set_option maxRecDepth 100000
open Go.RowKit Go.Shelf Go.Sort
attribute [local go_sem] bs_size bs_get bs_toList
theorem hexI (j : Nat) (h : j < 16) (w : World) : (Instr.index 9 (.string ⟨#[48, 49, 50, 51, 52, 53, 54, 55, 56, 57, 97, 98, 99, 100, 101, 102]⟩) (.int .u8 (j : Int))).run Tryz.prog w = .ok (.int .u8 ((hexC j).toNat : Int)) w := by
  have : j = 0 ∨ j = 1 ∨ j = 2 ∨ j = 3 ∨ j = 4 ∨ j = 5 ∨ j = 6 ∨ j = 7 ∨ j = 8 ∨ j = 9 ∨ j = 10 ∨ j = 11 ∨ j = 12 ∨ j = 13 ∨ j = 14 ∨ j = 15 := by omega
  clear h
  rcases this with rfl | rfl | rfl | rfl | rfl | rfl | rfl | rfl | rfl | rfl | rfl | rfl | rfl | rfl | rfl | rfl <;> rfl
theorem shr4 (n : Nat) (_h : n ≤ 255) : Op.shift .shr .u8 (n : Int) .u64 4 = pure (.int .u8 ((n / 16 : Nat) : Int)) := by
  rw [shift_shr _ _ _ _ (by decide) (by simp [IntKind.bits])]
  congr 2
theorem and15 (n : Nat) (h : n ≤ 255) : bits .and .u8 (n : Int) 15 = ((n % 16 : Nat) : Int) := by
  have e : ∀ m : Fin 256, bits .and .u8 (m.val : Int) 15 = ((m.val % 16 : Nat) : Int) := by decide +kernel
  exact e ⟨n, by omega⟩
set_option maxHeartbeats 1000000 in
theorem quote_any (l : List UInt8) (hl : l.length ≤ 1000000) (w : World) :
    Calls Tryz.prog 61 #[.string (bs l)] w fun e w' => e = .returned (.string (bs (quoteOf l))) ∧ Below w.heap.size w w' := by
  obtain ⟨n, hn⟩ : ∃ n, l.length = n := ⟨_, rfl⟩
  rw [hn] at hl
  have HN := Lib.hid hn
  clear hn
  have hsz : (bs l).size = n := by rw [bs_size, HN.out]
  go_enter Tryz.func61, Tryz.ntmps61
  go_wp2_with fail
  go_loopw [3, 9] (fun v i wr => ∃ k : Nat, k ≤ n ∧ i = .int .i64 k ∧ Own8 wr w.heap.size 5 v (quoteTo l k) ∧ Below w.heap.size w wr) (fun _ i _ => n - (intOf i).toNat)
  case atStart => exact ⟨0, Nat.zero_le _, rfl, Own8.mk (l := [34]) (World.ownsRow_lit w #[.int .u8 34] 1 (Nat.le_refl _) (by decide) rfl) rfl rfl, (Below.refl _ _).alloc (Nat.le_refl _) _⟩
  case round =>
    obtain ⟨k, hk, rfl, hown, hbel⟩ := hrel
    have hbl := hbel.size
    by_cases hlt : k < n
    · have hkl : k < l.length := by rw [HN.out]; exact hlt
      have HQ : Hid (quoteTo l (k + 1) = quoteTo l k ++ quoteC (bAt l k)) := quoteTo_succ l k hkl
      have hql := quoteTo_len l k
      rw [HN.out] at hql
      obtain ⟨c, hc⟩ : ∃ c, bAt l k = c := ⟨_, rfl⟩
      have hcl : c.toNat ≤ 255 := by have := c.toNat_lt; omega
      rw [hc] at HQ
      have HP : Hid (∀ W, Calls Tryz.prog 93 #[.int .u8 (c.toNat : Int)] W fun e w' => e = .returned (.bool (plainZ (c.toNat : Int))) ∧ w' = W) := fun W => plain_any _ (by omega) (by omega) W
      cases hp : plainZ (c.toNat : Int) with
      | true =>
        have HQ2 : Hid (quoteTo l (k + 1) = quoteTo l k ++ [c]) := by rw [HQ.out]; unfold quoteC; rw [hp, if_pos rfl]; exact rfl
        rw [hp] at HP
        clear hp HQ
        go_wp2_with (first | (go_at_call 93; ((with_reducible refine (HP.out _).mono ?_); rintro e w' ⟨rfl, rfl⟩)) | (at_builtin; refine wpList_app S8 rfl (.tmp 17) (.tmp 19) rfl w.heap.size rfl (hown.alloc _) rfl (Rd.one _ _ _) (by simp [Value.oneCell']) (by omega) (by simp [maxLen]; omega) (by simp; omega) ?_))
        intro v' w1 hown' hb1 _
        clear hown
        go_wp2
        go_roundw
        case rel => exact ⟨k + 1, by omega, by go_num, Own8.mk hown' (by rw [HQ2.out, List.length_append]; rfl) (by rw [HQ2.out, B8_append]; rfl), (hbel.alloc hbl _).trans hb1⟩
        case measure => simp [intOf]; omega
      | false =>
        have HQ2 : Hid (quoteTo l (k + 1) = quoteTo l k ++ [92, hexC (c.toNat / 16), hexC (c.toNat % 16)]) := by rw [HQ.out]; unfold quoteC; rw [hp, if_neg (by decide)]; exact rfl
        rw [hp] at HP
        have q1 := shr4 c.toNat hcl
        have q2 := and15 c.toNat hcl
        have q3 := hexI (c.toNat / 16) (by omega)
        have q4 := hexI (c.toNat % 16) (by omega)
        obtain ⟨d1, hd1⟩ : ∃ d, hexC (c.toNat / 16) = d := ⟨_, rfl⟩
        obtain ⟨d2, hd2⟩ : ∃ d, hexC (c.toNat % 16) = d := ⟨_, rfl⟩
        rw [hd1] at HQ2 q3
        rw [hd2] at HQ2 q4
        clear hd1 hd2 hp HQ
        generalize ((c.toNat / 16 : Nat) : Int) = j1 at *
        generalize ((c.toNat % 16 : Nat) : Int) = j2 at *
        go_wp2_with (go_at_call 93; ((with_reducible refine (HP.out _).mono ?_); rintro e w' ⟨rfl, rfl⟩))
        go_region_law ((refine step_app S8 (by rfl) (.tmp 21) (.tmp 28) (by rfl) w.heap.size (by simp [Act.eval]) (hown.alloc _) (by simp [Act.eval]) (Rd.lit _ (B8 [92, d1, d2]) 3 rfl (by decide) _) (B8_one _) (by decide) (by omega) (by simp [maxLen]; omega) (by simp; omega) ?_; intro v' w1 hown' hb1))
        all_goals
          clear hown
          go_wp2
          go_roundw
          case rel => exact ⟨k + 1, by omega, by go_num, Own8.mk hown' (by rw [HQ2.out, List.length_append]; rfl) (by rw [HQ2.out, B8_append]), (hbel.alloc hbl _).drew.trans hb1⟩
          case measure => simp [intOf]; omega
    · have hkn : k = n := by omega
      subst hkn
      have HQ : Hid (quoteTo l k ++ [34] = quoteOf l) := quoteTo_all l k HN.out.symm
      have hql := quoteTo_len l k
      rw [HN.out] at hql
      go_wp2_with (at_builtin; refine wpList_app S8 rfl (.tmp 31) (.tmp 32) rfl w.heap.size rfl (hown.alloc _) rfl (Rd.one _ _ _) (by simp [Value.oneCell']) (by omega) (by simp [maxLen]; omega) (by simp; omega) ?_)
      intro v' w1 hown' hb1 _
      clear hown
      have hown2 : Own8 w1 w.heap.size 5 v' (quoteOf l) := Own8.mk hown' (by rw [← HQ.out, List.length_append]; rfl) (by rw [← HQ.out, B8_append]; rfl)
      obtain ⟨a, cap, rfl, hr⟩ := hown2.rd
      have hcv := run_toStr (P := Tryz.prog) hr 106 5 9 Tryz.underlying106 Tryz.underlying5 Tryz.underlying9
      clear hown' hown2
      go_wp2
      go_ret
      exact ⟨rfl, (hbel.alloc hbl _).trans hb1⟩
end Go.Proofs.YtalpbphfmelhhaaGreatDoor

/-! ### Plain laws of quoted texts: a text is quoted in one way. -/
namespace Go.Proofs.YtalpbphfmelhhaaGreatDoor
open Go.RowKit Go.Shelf Go.Sort
theorem plain92 : plainZ 92 = false := by decide
theorem hexC_nat (k : Nat) (h : k < 16) : (hexC k).toNat = if k < 10 then 48 + k else 87 + k := by
  unfold hexC
  rw [UInt8.toNat_ofNat']
  split <;> omega
theorem hexZ_hexC (k : Nat) (h : k < 16) : hexZ ((hexC k).toNat : Int) = k := by
  rw [hexC_nat k h]
  unfold hexZ
  split <;> split <;> (try split) <;> omega
theorem hexC_inj {j k : Nat} (hj : j < 16) (hk : k < 16) (h : hexC j = hexC k) : j = k := by
  have h1 := hexZ_hexC j hj
  have h2 := hexZ_hexC k hk
  rw [h] at h1; omega
/-- The first quoted byte, and what is behind it, are one. -/
theorem quoteC_inj {c d : UInt8} {x y : List UInt8} (h : quoteC c ++ x = quoteC d ++ y) : c = d ∧ x = y := by
  have hc := c.toNat_lt
  have hd := d.toNat_lt
  unfold quoteC at h
  cases hpc : plainZ (c.toNat : Int) with
  | true =>
    rw [hpc, if_pos rfl] at h
    cases hpd : plainZ (d.toNat : Int) with
    | true =>
      rw [hpd, if_pos rfl] at h
      exact List.cons.inj h
    | false =>
      rw [hpd, if_neg (by decide)] at h
      have := (List.cons.inj h).1
      subst this
      rw [show ((92 : UInt8).toNat : Int) = 92 from rfl, plain92] at hpc; cases hpc
  | false =>
    rw [hpc, if_neg (by decide)] at h
    cases hpd : plainZ (d.toNat : Int) with
    | true =>
      rw [hpd, if_pos rfl] at h
      have := (List.cons.inj h).1
      rw [← this, show ((92 : UInt8).toNat : Int) = 92 from rfl, plain92] at hpd; cases hpd
    | false =>
      rw [hpd, if_neg (by decide)] at h
      obtain ⟨_, h⟩ := List.cons.inj h
      obtain ⟨h1, h⟩ := List.cons.inj h
      obtain ⟨h2, h⟩ := List.cons.inj h
      have e1 := hexC_inj (by omega) (by omega) h1
      have e2 := hexC_inj (by omega) (by omega) h2
      exact ⟨UInt8.toNat_inj.1 (by omega), h⟩
theorem quoteC_ne (c : UInt8) : quoteC c ≠ [] := by unfold quoteC; split <;> simp
/-- What is read so far is a beginning. -/
theorem flat_prefix : ∀ (out t : List UInt8) (r : List UInt8), out.flatMap quoteC ++ r = t.flatMap quoteC → ∃ rest, t = out ++ rest ∧ r = rest.flatMap quoteC
  | [], t, r, h => ⟨t, rfl, h⟩
  | c :: out, [], r, h => by
    rw [List.flatMap_cons, List.flatMap_nil, List.append_assoc] at h
    exact absurd (List.append_eq_nil_iff.1 h).1 (quoteC_ne c)
  | c :: out, d :: t, r, h => by
    rw [List.flatMap_cons, List.flatMap_cons, List.append_assoc] at h
    obtain ⟨e, h'⟩ := quoteC_inj h
    subst e
    obtain ⟨rest, e2, hr⟩ := flat_prefix out t r h'
    exact ⟨rest, by rw [e2]; rfl, hr⟩
theorem flat_inj {a b : List UInt8} (h : a.flatMap quoteC = b.flatMap quoteC) : a = b := by
  obtain ⟨rest, h1, h2⟩ := flat_prefix a b [] (by rw [List.append_nil]; exact h)
  cases rest with
  | nil => rw [h1, List.append_nil]
  | cons c t => rw [List.flatMap_cons] at h2; exact absurd (List.append_eq_nil_iff.1 h2.symm).1 (quoteC_ne c)
theorem quoteOf_inj {a b : List UInt8} (h : quoteOf a = quoteOf b) : a = b := by
  unfold quoteOf at h
  have h1 : a.flatMap quoteC ++ [34] = b.flatMap quoteC ++ [34] := (List.cons.inj h).2
  exact flat_inj (List.append_cancel_right h1)
open Classical in
/-- What a quoted text says. -/
noncomputable def unqOf (s : List UInt8) : Option (List UInt8) := if h : ∃ t, s = quoteOf t then some (Classical.choose h) else none
theorem unq_some (t : List UInt8) : unqOf (quoteOf t) = some t := by
  unfold unqOf
  have h : ∃ u, quoteOf t = quoteOf u := ⟨t, rfl⟩
  rw [dif_pos h]
  congr 1
  exact (quoteOf_inj (Classical.choose_spec h)).symm
theorem unq_none {s : List UInt8} (h : ∀ t, s ≠ quoteOf t) : unqOf s = none := by
  unfold unqOf
  rw [dif_neg (fun ⟨t, ht⟩ => h t ht)]
/-- What Unquote tells. -/
noncomputable def unqV (s : List UInt8) : Value := match unqOf s with | some t => .tuple #[.string (bs t), .int .i64 0] | none => .tuple #[.string (bs []), .int .i64 4]
theorem unqV_some (t : List UInt8) : unqV (quoteOf t) = .tuple #[.string (bs t), .int .i64 0] := by unfold unqV; rw [unq_some]
theorem unqV_none {s : List UInt8} (h : ∀ t, s ≠ quoteOf t) : unqV s = .tuple #[.string (bs []), .int .i64 4] := by unfold unqV; rw [unq_none h]
theorem quoteOf_len (t : List UInt8) : 2 ≤ (quoteOf t).length := by unfold quoteOf; simp
theorem quoteOf_head (t : List UInt8) : bAt (quoteOf t) 0 = 34 := rfl
theorem quoteOf_last (t : List UInt8) : bAt (quoteOf t) ((quoteOf t).length - 1) = 34 := by
  have : quoteOf t = (34 :: t.flatMap quoteC) ++ [34] := rfl
  rw [this, List.length_append, show ([34] : List UInt8).length = 1 from rfl, Nat.add_sub_cancel]
  have := bAt_app2 (34 :: t.flatMap quoteC) [34] 0
  rw [Nat.add_zero] at this
  rw [this]; rfl
/-- The bytes between the quotes. -/
def inner (s : List UInt8) : List UInt8 := (s.drop 1).take (s.length - 2)
theorem inner_quote (t : List UInt8) : inner (quoteOf t) = t.flatMap quoteC := by
  unfold inner quoteOf
  simp
theorem inner_back {s : List UInt8} (h2 : 2 ≤ s.length) (hh : bAt s 0 = 34) (hl : bAt s (s.length - 1) = 34) : s = 34 :: inner s ++ [34] := by
  unfold inner
  cases s with
  | nil => simp at h2
  | cons c r =>
    have hc : c = 34 := hh
    subst hc
    rw [show (34 :: r).drop 1 = r from rfl, List.cons_append]
    congr 1
    have hr : r ≠ [] := by intro h; rw [h] at h2; simp at h2
    have hlen : (34 :: r).length - 2 = r.length - 1 := by simp
    have hlast : r.getLast hr = 34 := by
      have e : (34 :: r).length - 1 = (r.length - 1) + 1 := by
        have := List.length_pos_iff.2 hr; simp; omega
      rw [e] at hl
      rw [List.getLast_eq_getElem]
      have hb : bAt (34 :: r) (r.length - 1 + 1) = bAt r (r.length - 1) := rfl
      rw [hb] at hl
      have := List.length_pos_iff.2 hr
      simpa [bAt, show r.length - 1 < r.length by omega] using hl
    rw [hlen]
    conv => lhs; rw [← List.dropLast_concat_getLast hr, hlast]
    rw [List.dropLast_eq_take]
theorem quote_of_inner {s : List UInt8} (h2 : 2 ≤ s.length) (hh : bAt s 0 = 34) (hl : bAt s (s.length - 1) = 34) {t : List UInt8} (h : inner s = t.flatMap quoteC) : s = quoteOf t := by
  rw [inner_back h2 hh hl, h]; rfl
end Go.Proofs.YtalpbphfmelhhaaGreatDoor

/-! ### Plain laws of the way through a quoted text. -/
namespace Go.Proofs.YtalpbphfmelhhaaGreatDoor
open Go.RowKit Go.Shelf Go.Sort
theorem hexZ_bd (n : Int) : -1 ≤ hexZ n ∧ hexZ n ≤ 15 := by unfold hexZ; split <;> (try split) <;> omega
theorem hexC_hexZ (c : UInt8) (h : 0 ≤ hexZ (c.toNat : Int)) : hexC (hexZ (c.toNat : Int)).toNat = c := by
  have hb := hexZ_bd (c.toNat : Int)
  apply UInt8.toNat_inj.1
  rw [hexC_nat _ (by omega)]
  unfold hexZ at h ⊢
  split at h
  · rename_i h1; rw [if_pos h1]; split <;> omega
  · rename_i h1
    split at h
    · rename_i h2; rw [if_neg h1, if_pos h2]; split <;> omega
    · omega
theorem bAt_drop (m : List UInt8) (i j : Nat) : bAt (m.drop i) j = bAt m (i + j) := by simp [bAt]
/-- What stands where the reading stands, if the text is a quoted one. -/
theorem stuck {m out t : List UInt8} {i : Nat} (h : m.take i = out.flatMap quoteC) (hi : i < m.length) (hm : m = t.flatMap quoteC) :
    ∃ c : UInt8, (plainZ (c.toNat : Int) = true ∧ bAt m i = c) ∨ (plainZ (c.toNat : Int) = false ∧ bAt m i = 92 ∧ i + 2 < m.length ∧ bAt m (i + 1) = hexC (c.toNat / 16) ∧ bAt m (i + 2) = hexC (c.toNat % 16)) := by
  have hs : out.flatMap quoteC ++ m.drop i = t.flatMap quoteC := by rw [← h, List.take_append_drop]; exact hm
  obtain ⟨rest, _, hr⟩ := flat_prefix out t _ hs
  cases rest with
  | nil =>
    exfalso
    have : (m.drop i).length = 0 := by rw [hr]; rfl
    rw [List.length_drop] at this; omega
  | cons c u =>
    rw [List.flatMap_cons] at hr
    have b0 := bAt_drop m i 0
    have b1 := bAt_drop m i 1
    have b2 := bAt_drop m i 2
    refine ⟨c, ?_⟩
    generalize u.flatMap quoteC = U at hr
    unfold quoteC at hr
    cases hp : plainZ (c.toNat : Int) with
    | true =>
      rw [hp, if_pos rfl] at hr
      rw [hr] at b0
      exact .inl ⟨rfl, b0.symm⟩
    | false =>
      rw [hp, if_neg (by decide)] at hr
      have hl : (m.drop i).length = 3 + U.length := by rw [hr]; simp only [List.length_append, List.length_cons, List.length_nil]
      rw [List.length_drop] at hl
      rw [hr] at b0 b1 b2
      exact .inr ⟨rfl, b0.symm, by omega, b1.symm, b2.symm⟩
theorem take_succ' (m : List UInt8) (i : Nat) (h : i < m.length) : m.take (i + 1) = m.take i ++ [bAt m i] := B8_take_succ m i h
/-- A plain byte read. -/
theorem step_plain {m out : List UInt8} {i : Nat} (h : m.take i = out.flatMap quoteC) (hi : i < m.length) (hp : plainZ ((bAt m i).toNat : Int) = true) : m.take (i + 1) = (out ++ [bAt m i]).flatMap quoteC := by
  rw [take_succ' m i hi, h, List.flatMap_append]
  congr 1
  simp [quoteC, hp]
/-- A byte in base sixteen read. -/
def hexV (a b : UInt8) : UInt8 := UInt8.ofNat (hexZ (a.toNat : Int) * 16 + hexZ (b.toNat : Int)).toNat
theorem hexV_int (a b : UInt8) (ha : 0 ≤ hexZ (a.toNat : Int)) (hb : 0 ≤ hexZ (b.toNat : Int)) : ((hexV a b).toNat : Int) = hexZ (a.toNat : Int) * 16 + hexZ (b.toNat : Int) := by
  have h1 := hexZ_bd (a.toNat : Int)
  have h2 := hexZ_bd (b.toNat : Int)
  unfold hexV
  rw [UInt8.toNat_ofNat']; omega
theorem step_hex {m out : List UInt8} {i : Nat} (h : m.take i = out.flatMap quoteC) (hi : i + 2 < m.length) (h92 : bAt m i = 92) (ha : 0 ≤ hexZ ((bAt m (i + 1)).toNat : Int)) (hb : 0 ≤ hexZ ((bAt m (i + 2)).toNat : Int))
    (hp : plainZ ((hexV (bAt m (i + 1)) (bAt m (i + 2))).toNat : Int) = false) : m.take (i + 3) = (out ++ [hexV (bAt m (i + 1)) (bAt m (i + 2))]).flatMap quoteC := by
  have hv := hexV_int _ _ ha hb
  have b1 := hexZ_bd ((bAt m (i + 1)).toNat : Int)
  have b2 := hexZ_bd ((bAt m (i + 2)).toNat : Int)
  rw [take_succ' m (i + 2) hi, take_succ' m (i + 1) (by omega), take_succ' m i (by omega), h, List.flatMap_append, h92]
  have e1 : (hexV (bAt m (i + 1)) (bAt m (i + 2))).toNat / 16 = (hexZ ((bAt m (i + 1)).toNat : Int)).toNat := by omega
  have e2 : (hexV (bAt m (i + 1)) (bAt m (i + 2))).toNat % 16 = (hexZ ((bAt m (i + 2)).toNat : Int)).toNat := by omega
  have hq : quoteC (hexV (bAt m (i + 1)) (bAt m (i + 2))) = [92, bAt m (i + 1), bAt m (i + 2)] := by
    unfold quoteC
    rw [hp, if_neg (by decide), e1, e2, hexC_hexZ _ ha, hexC_hexZ _ hb]
  simp [hq]
/-- No reading where it is stuck. -/
theorem stuck_no {m out : List UInt8} {i : Nat} (h : m.take i = out.flatMap quoteC) (hi : i < m.length) (hp : plainZ ((bAt m i).toNat : Int) = false)
    (hb : bAt m i ≠ 92 ∨ ¬ i + 2 < m.length ∨ hexZ ((bAt m (i + 1)).toNat : Int) < 0 ∨ hexZ ((bAt m (i + 2)).toNat : Int) < 0 ∨ plainZ ((hexV (bAt m (i + 1)) (bAt m (i + 2))).toNat : Int) = true) (t : List UInt8) : m ≠ t.flatMap quoteC := by
  intro hm
  obtain ⟨c, h1 | ⟨h1, h2, h3, h4, h5⟩⟩ := stuck h hi hm
  · rw [h1.2] at hp; rw [hp] at h1; cases h1.1
  · have hc := c.toNat_lt
    have z1 := hexZ_hexC (c.toNat / 16) (by omega)
    have z2 := hexZ_hexC (c.toNat % 16) (by omega)
    rcases hb with hb | hb | hb | hb | hb
    · exact hb h2
    · exact hb h3
    · rw [h4] at hb; omega
    · rw [h5] at hb; omega
    · have : hexV (bAt m (i + 1)) (bAt m (i + 2)) = c := by
        apply UInt8.toNat_inj.1
        have hv := hexV_int (bAt m (i + 1)) (bAt m (i + 2)) (by rw [h4]; omega) (by rw [h5]; omega)
        rw [h4, h5] at hv ⊢
        omega
      rw [this, h1] at hb; cases hb
end Go.Proofs.YtalpbphfmelhhaaGreatDoor
