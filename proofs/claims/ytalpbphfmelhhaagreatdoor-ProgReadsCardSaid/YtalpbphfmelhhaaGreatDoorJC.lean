/-
  A program told as a text (prog.Print). Written by a program (h39gen.py).
  The document's text of a program (raceref9.Print).
-/
import Derived.Test.YtalpbphfmelhhaaGreatDoorJB
import Derived.Test.YtalpbphfmelhhaaGreatDoorLK
/-! ### A program told as a text (prog.Print). Written by a program (h39gen.py). -/
namespace Go.Proofs.YtalpbphfmelhhaaGreatDoor
open Go.RowKit Go.Maps Go.Sort
set_option maxRecDepth 100000
attribute [local go_sem] bs_size bs_get bs_toList frombits tobits run_store_float
/-! ### plain -/
def txtO (o : OpP) : List UInt8 := wordX o.c ++ (if namesC o.c = 1 then 32 :: quoteOf o.key else if namesC o.c = 2 then 32 :: textOf o.v.k o.v.x o.v.s else [])
theorem joinW_opW (o : OpP) : joinW (opW o) = txtO o := by
  unfold opW txtO
  split
  · rw [joinW, joinW]
  · split
    · rw [joinW, joinW]
    · rw [joinW]; simp
theorem joinW_app : ∀ {a b : List (List UInt8)}, a ≠ [] → b ≠ [] → joinW (a ++ b) = joinW a ++ 32 :: joinW b
  | [], _, h, _ => absurd rfl h
  | [x], b, _, hb => by
    cases b with
    | nil => exact absurd rfl hb
    | cons y r => rw [List.cons_append, List.nil_append, joinW_cons, joinW]
  | x :: y :: r, b, _, hb => by
    rw [List.cons_append, List.cons_append, joinW_cons, joinW_cons, ← List.cons_append, joinW_app (by simp) hb]
    simp
theorem opW_ne (o : OpP) : opW o ≠ [] := by unfold opW; simp
theorem printP_nil : printP [] = [] := rfl
theorem printP_snoc {l : List OpP} {o : OpP} (h : l ≠ []) : printP (l ++ [o]) = printP l ++ [32] ++ txtO o := by
  unfold printP
  rw [List.flatMap_append]
  have hne : l.flatMap opW ≠ [] := by
    cases l with
    | nil => exact absurd rfl h
    | cons x r =>
      rw [List.flatMap_cons]
      intro e
      exact opW_ne x (List.append_eq_nil_iff.1 e).1
  have h2 : [o].flatMap opW = opW o := by simp
  rw [h2, joinW_app hne (opW_ne o), joinW_opW]
  simp
theorem printP_one (o : OpP) : printP [o] = txtO o := by
  unfold printP
  rw [show [o].flatMap opW = opW o by simp, joinW_opW]
theorem quote_bd9 (l : List UInt8) : (quoteOf l).length ≤ 3 * l.length + 2 := by
  have h1 := quoteTo_len l l.length; have h2 := quoteTo_all l l.length rfl; rw [← h2, List.length_append]; simp; omega
theorem itoa_len9 (e : Int) (h : (Lib.decDigits e.natAbs).length ≤ 5) : (Lib.itoa e).length ≤ 6 := by
  rcases Int.lt_or_le e 0 with h0 | h0
  · have : e = -((e.natAbs : Nat) : Int) := by omega
    rw [this, itoa_down _ (by omega), List.length_cons]; omega
  · have : e = ((e.natAbs : Nat) : Int) := by omega
    rw [this, itoa_plain]; omega
theorem print_len9 (x : UInt64) : (printOf x).length ≤ 100 := by
  rcases parse_ok (parse_print x) with h1 | h1 | h1 | h1 | h1 | ⟨neg, m, e, hr, _, h1, _⟩
  · rw [h1.1]; decide
  · rw [h1.1]; decide
  · rw [h1.1]; decide
  · rw [h1.1]; decide
  · rw [h1.1]; decide
  · rw [h1]
    obtain ⟨a, b⟩ := hr.len
    have := itoa_len9 e b
    unfold txt
    cases neg <;> simp only [List.length_append, List.length_cons, List.length_nil, if_true, if_false, Bool.false_eq_true] <;> omega
theorem text_len9 (k : Int) (x : UInt64) (s : List UInt8) : (textOf k x s).length ≤ 200 := by
  cases h : mayB k x s with
  | false => unfold textOf; rw [h, if_neg (by simp)]; decide
  | true =>
    rcases may_kinds h with rfl | rfl | rfl
    · rw [text0 h]; decide
    · rw [text1 h]; have := print_len9 x; omega
    · rw [text2 h]
      have h1 := quote_bd9 s; have h3 := may2_len h
      omega
theorem wordC_len (c : Int) : (wordC c).length ≤ 4 := by
  by_cases h : 1 ≤ c ∧ c ≤ 15
  · rcases code15 h.1 h.2 with rfl | rfl | rfl | rfl | rfl | rfl | rfl | rfl | rfl | rfl | rfl | rfl | rfl | rfl | rfl <;> decide
  · unfold wordC
    simp [show c ≠ 1 by omega, show c ≠ 2 by omega, show c ≠ 3 by omega, show c ≠ 4 by omega, show c ≠ 5 by omega, show c ≠ 6 by omega, show c ≠ 7 by omega, show c ≠ 8 by omega, show c ≠ 9 by omega, show c ≠ 10 by omega, show c ≠ 11 by omega, show c ≠ 12 by omega, show c ≠ 13 by omega, show c ≠ 14 by omega, show c ≠ 15 by omega]
theorem txtO_len {o : OpP} (h : OpOk o) : (txtO o).length ≤ 60010 := by
  unfold txtO
  have h1 : (wordX o.c).length ≤ 4 := by unfold wordX; split; exact wordC_len _; simp
  have h2 := quote_bd9 o.key
  have h3 := text_len9 o.v.k o.v.x o.v.s
  have h4 := h.kl
  rw [List.length_append]
  split
  · rw [List.length_cons]; omega
  · split
    · rw [List.length_cons]; omega
    · simp; omega
theorem printP_len : ∀ {l : List OpP} (k : Nat), (∀ o ∈ l, OpOk o) → k ≤ l.length → (printP (l.take k)).length ≤ k * 60011
  | l, 0, _, _ => by rw [List.take_zero, printP_nil]; simp
  | l, k + 1, h, hk => by
    obtain ⟨o, ho⟩ : ∃ o, l[k]? = some o := ⟨_, List.getElem?_eq_getElem (by omega)⟩
    have ih := printP_len (l := l) k h (by omega)
    have ht := txtO_len (h o (List.mem_of_getElem? ho))
    rw [take_snoc ho]
    by_cases h0 : k = 0
    · subst h0
      rw [List.take_zero, List.nil_append, printP_one]; omega
    · rw [printP_snoc (by intro e; have := congrArg List.length e; rw [List.length_take, List.length_nil] at this; omega), List.length_append, List.length_append]
      simp; omega
/-! ### the walk -/
theorem Rd.one2 (w : World) (o : Obj) (x : Value) (e : TypeId) : Rd ((w.alloc o).alloc (.cells #[x] e)) (some ⟨w.heap.size + 1, 0, none⟩) 1 1 1 [x] := by
  have h := Rd.one (w.alloc o) x e
  rw [World.size_alloc] at h
  exact h
/-- The text on its way, a step in its block. -/
structure PrS (w : World) (q : Nat) (o : OpP) (v : Value) (out : List UInt8) (W : World) : Prop where
  own : Own8 W w.heap.size 5 v out
  row : W.heap[q]? = some (.cells #[.int .i64 o.c, .string (bs o.key), .int .i64 o.v.k, .float .f64 (fb o.v.x), .string (bs o.v.s)] 59 (0, 0))
  bl : Below w.heap.size w W
section
variable {w W W' : World} {q : Nat} {o : OpP} {v v' : Value} {out out' : List UInt8}
theorem PrS.below (h : PrS w q o v out W) (hb : Below W.heap.size W W') : PrS w q o v out W' :=
  ⟨ownsRow_keep h.own fun k hk => hb.block k (World.ownsRow.lt h.own k hk).2, (hb.block q (Array.getElem?_eq_some_iff.1 h.row).1).trans h.row, h.bl.trans (hb.mono h.bl.size)⟩
theorem PrS.grow (h : PrS w q o v out W) (ho : Own8 W' w.heap.size 5 v' out') (hg : W.grownBy W' v.ownBlock) : PrS w q o v' out' W' :=
  ⟨ho, (hg.block q (Array.getElem?_eq_some_iff.1 h.row).1 (fun e => by
    obtain ⟨cur, hc⟩ := own_isRow h.own e.symm
    rw [h.row] at hc
    cases hc)).trans h.row, h.bl.trans ((Below.refl _ W).grown hg h.bl.size fun k hk => (World.ownsRow.lt h.own k hk).1)⟩
end
set_option maxHeartbeats 16000000 in
theorem prgPrint_any (ad : Option Addr) (n cap : Nat) (p : List OpP) (w : World) (h : RdO w ad n cap p) (hn : n ≤ 1000) (hT : Laid w) : Calls Tryz.prog 30 #[.slice ad n cap] w fun e w' => e = .returned (.string (bs (printP p))) ∧ Below w.heap.size w w' := by
  have H := Lib.hid h
  have HN := Lib.hid h.rd.1
  have HT := Lib.hid hT
  have HQT : Hid (∀ (l : List UInt8) W, l.length ≤ 1000000 → Calls Tryz.prog 61 #[.string (bs l)] W fun e w' => e = .returned (.string (bs (quoteOf l))) ∧ Below W.heap.size W w') := fun l W hl => quote_any l hl W
  have HPV : Hid (∀ (k : Int) (x : UInt64) (s : List UInt8) W, Laid W → Calls Tryz.prog 62 #[.agg #[.int .i64 k, .float .f64 (fb x), .string (bs s)]] W fun e w' => e = .returned (.string (bs (textOf k x s))) ∧ Below W.heap.size W w') := fun k x s W h => printV_any k x s W h
  clear h hT
  have hoe : Own8 (w.alloc (.cells #[] 5)) w.heap.size 5 (.slice (some ⟨w.heap.size, 0, none⟩) 0 0) [] := Own8.mk (l := []) (World.ownsRow_lit w #[] 0 (Nat.le_refl _) (by decide) rfl) rfl rfl
  have HOE := Lib.hid hoe
  clear hoe
  go_enter Tryz.func30, Tryz.ntmps30
  go_wp2_with fail
  go_loopw [3, 4, 5, 6, 7, 11] (fun v _ _ _ _ i WZ => ∃ k : Nat, k ≤ n ∧ i = .int .i64 (k : Nat) ∧ Hid (Own8 WZ w.heap.size 5 v (printP (p.take k))) ∧ Hid (Below w.heap.size w WZ)) (fun _ _ _ _ _ i _ => n - (intOf i).toNat)
  case atStart => exact ⟨0, Nat.zero_le _, rfl, HOE.out, (Below.refl _ _).alloc (Nat.le_refl _) _⟩
  case round =>
    obtain ⟨k, hk, rfl, HO, HB⟩ := hrel
    obtain ⟨av, cv, rfl, hrd⟩ := Own8.rd HO.out
    clear hrd
    by_cases hlt : k < n
    · obtain ⟨o, ho⟩ : ∃ o, p[k]? = some o := ⟨_, List.getElem?_eq_getElem (by have := HN.out; omega)⟩
      obtain ⟨bk, off, rfl, c0, c1, c2, c3, c4⟩ := (H.out.below HB.out).at ho
      have hok := H.out.ok o (List.mem_of_getElem? ho)
      have HKK : Hid (o.key.length ≤ 20000) := hok.kl
      have HKL : Hid (o.key.length ≤ 1000000) := by have := hok.kl; show _ ≤ _; omega
      have htl := txtO_len hok
      have hpl := printP_len k H.out.ok (by have := HN.out; omega)
      have HST : Hid (printP (p.take (k + 1)) = printP (p.take k) ++ (if k = 0 then [] else [32]) ++ txtO o) := by
        show _ = _
        rw [take_snoc ho]
        by_cases h0 : k = 0
        · subst h0; rw [List.take_zero, List.nil_append, printP_one, printP_nil]; rfl
        · rw [if_neg h0, printP_snoc (by intro e; have := congrArg List.length e; rw [List.length_take, List.length_nil] at this; have := HN.out; omega)]
      obtain ⟨out, hout⟩ : ∃ out, printP (p.take k) = out := ⟨_, rfl⟩
      rw [hout] at HO HST hpl ⊢
      have hol : out.length ≤ 60011000 := by have : k * 60011 ≤ 1000 * 60011 := Nat.mul_le_mul_right _ (by omega); omega
      have HR0 : Hid (PrS w wr.heap.size o (.slice av out.length cv) out (wr.alloc (.cells #[.int .i64 o.c, .string (bs o.key), .int .i64 o.v.k, .float .f64 (fb o.v.x), .string (bs o.v.s)] 59))) :=
        ⟨World.ownsRow.alloc HO.out _, heap_alloc_new wr _, HB.out.alloc HB.out.size _⟩
      clear ho hok hout hpl
      by_cases h0 : k = 0
      · rw [if_pos h0, List.append_nil] at HST
        subst h0
        simp only [Nat.zero_mul, Nat.add_zero] at c0 c1 c2 c3 c4
        go_wp2_with fail
        obtain ⟨X, hX⟩ : ∃ X, wr.alloc (.cells #[.int .i64 o.c, .string (bs o.key), .int .i64 o.v.k, .float .f64 (fb o.v.x), .string (bs o.v.s)] 59) = X := ⟨_, rfl⟩
        rw [hX] at HR0 ⊢
        obtain ⟨q5, hq5⟩ : ∃ q, wr.heap.size = q := ⟨_, rfl⟩
        rw [hq5] at HR0 ⊢
        clear hX hq5 c0 c1 c2 c3 c4
        go_at_call 36
        refine (of_any' o.c _).mono ?_
        rintro e w3 ⟨rfl, hb3⟩
        have HR3 := Lib.hid (HR0.out.below hb3)
        clear hb3
        cases hco : codeOk o.c with
        | false =>
          have hv : ofV o.c = .agg #[.string (bs []), .int .i64 0, .int .i64 0, .int .i64 0] := by unfold ofV; rw [hco]; rfl
          have htx : txtO o = [63] := by
            have hn0 : namesC o.c = 0 := by
              unfold codeOk at hco
              rw [Bool.and_eq_false_iff, decide_eq_false_iff_not, decide_eq_false_iff_not] at hco
              unfold namesC
              rw [if_neg (by omega), if_neg (by omega)]
            unfold txtO wordX
            rw [hco, hn0]; rfl
          rw [htx] at HST
          rw [hv]
          have HR4 := Lib.hid ((HR3.out.below ((Below.refl _ _).alloc (Nat.le_refl _) (.cells #[.string (bs []), .int .i64 0, .int .i64 0, .int .i64 0] 64))).below ((Below.refl _ _).alloc (Nat.le_refl _) (.cells #[.int .u8 63] 5)))
          clear hv hco htx
          go_wp2_with (at_builtin; refine wpList_app S8 rfl (.tmp 29) (.tmp 30) rfl w.heap.size rfl HR4.out.own rfl (Rd.one2 _ _ _ _) (by simp [Value.oneCell']) (by omega) (by unfold maxLen; omega) HR4.out.bl.size ?_)
          intro v5 w5 hown5 _ hg5
          have HR5 := Lib.hid (HR4.out.grow (v' := v5) (W' := w5) (out' := out ++ [63]) (Own8.mk hown5 (by simp) (by rw [B8_append]; rfl)) hg5)
          rw [← HST.out] at HR5
          clear hown5 hg5
          go_wp2_with fail
          go_roundw
          case rel => exact ⟨0 + 1, by omega, by go_num, HR5.out.own, HR5.out.bl⟩
          case measure => simp [intOf]; omega
        | true =>
          have hv : ofV o.c = stepV o.c := by unfold ofV; rw [hco]; rfl
          have hwx : wordX o.c = wordC o.c := by unfold wordX; rw [if_pos hco]
          have hwl := wordC_len o.c
          rw [hv]
          unfold stepV
          unfold txtO at HST
          rw [hwx] at HST
          obtain ⟨wd, hwd⟩ : ∃ wd, wordC o.c = wd := ⟨_, rfl⟩
          obtain ⟨nm, hnm⟩ : ∃ nm, namesC o.c = nm := ⟨_, rfl⟩
          obtain ⟨tk, htk⟩ : ∃ tk, takeC o.c = tk := ⟨_, rfl⟩
          obtain ⟨gv, hgv⟩ : ∃ gv, giveC o.c = gv := ⟨_, rfl⟩
          rw [hwd] at HST hwl ⊢
          rw [hnm] at HST ⊢
          rw [htk, hgv]
          have hnn := names_cases o.c
          rw [hnm] at hnn
          have HR4 := Lib.hid (HR3.out.below ((Below.refl _ _).alloc (Nat.le_refl _) (.cells #[.string (bs wd), .int .i64 nm, .int .i64 tk, .int .i64 gv] 64)))
          have hr6 := heap_alloc_new w3 (.cells #[.string (bs wd), .int .i64 nm, .int .i64 tk, .int .i64 gv] 64)
          have HR6 := Lib.hid hr6
          have HS6 : Hid (w3.heap.size < (w3.alloc (.cells #[.string (bs wd), .int .i64 nm, .int .i64 tk, .int .i64 gv] 64)).heap.size) := (Array.getElem?_eq_some_iff.1 hr6).1
          have HB6 : Hid (∀ k, (Value.slice av out.length cv).ownBlock = some k → k < w3.heap.size) := fun k hk => (World.ownsRow.lt HR3.out.own k hk).2
          clear hv hco hwx hwd hnm htk hgv hr6
          go_wp2_with (at_builtin; refine wpList_appS S8 Tryz.underlying9 rfl (.tmp 32) (.tmp 34) rfl w.heap.size rfl HR4.out.own rfl (by omega) HR4.out.bl.size ?_)
          intro v5 w5 hown5 hg5
          obtain ⟨av5, cv5, rfl, _⟩ := Own8.rd hown5
          have HR5 := Lib.hid (HR4.out.grow hown5 hg5)
          have hr7 := (hg5.block w3.heap.size HS6.out (fun e => Nat.lt_irrefl _ (HB6.out _ e.symm))).trans HR6.out
          have s1 := cell_of_row _ w3.heap.size 1 _ _ _ hr7
          simp only [List.getElem?_toArray, List.getElem?_cons_zero, List.getElem?_cons_succ] at s1
          obtain ⟨out5, hout5⟩ : ∃ out5, out ++ wd = out5 := ⟨_, rfl⟩
          have hol5 : out5.length ≤ 60011010 := by rw [← hout5, List.length_append]; omega
          rw [← List.append_assoc, hout5] at HST
          rw [hout5] at HR5 ⊢
          clear hown5 hg5 hr7 hout5 HR6 HS6 HB6 HR4
          rcases hnn with hn0 | hn0 | hn0
          · subst hn0
            rw [if_neg (by decide), if_neg (by decide), List.append_nil] at HST
            have HRF : Hid (Own8 w5 w.heap.size 5 (.slice av5 out5.length cv5) (printP (p.take (0 + 1)))) := by show Own8 _ _ _ _ _; rw [HST.out]; exact HR5.out.own
            go_wp2_with fail
            go_roundw
            case rel => exact ⟨0 + 1, by omega, by go_num, HRF.out, HR5.out.bl⟩
            case measure => simp [intOf]; omega
          · subst hn0
            rw [if_pos rfl] at HST
            obtain ⟨_, z1, _, _, _⟩ := five_at HR5.out.row
            have HR6 := Lib.hid (HR5.out.below ((Below.refl _ _).drew.alloc (Nat.le_refl _) (.cells #[.int .u8 32] 5)))
            have HQL := Lib.hid (quote_bd9 o.key)
            have HKL2 : Hid (o.key.length ≤ 20000) := HKK.out
            go_wp2_with fail
            refine wp_region_ht 5 (fun W => W.cell? ⟨q5, 1, none⟩ = some (.string (bs o.key))) (by kernel_rfl) (by kernel_rfl) ?_ (fun hHeld => ?_)
            · exact z1
            try simp only [Act.put, List.setIfInBounds_toArray, List.set_cons_zero, List.set_cons_succ]
            refine wpHT_takeD (i := 0) (d := 40) (v := ?_) (by kernel_rfl) rfl rfl (by decide) (by kernel_rfl) (by kernel_rfl) (fun _ _ _ h => h) (Or.inl ⟨by kernel_rfl, ?_⟩) (by assumption) ?_
            rotate_left
            · intro w hSw; (try dsimp only at hSw); go_simp; (try with_reducible rfl)
            try simp only [Act.put, List.setIfInBounds_toArray, List.set_cons_zero, List.set_cons_succ]
            refine wpHT_takeD (i := 3) (d := 43) (v := ?_) (by kernel_rfl) rfl rfl (by decide) (by kernel_rfl) (by kernel_rfl) (fun _ _ _ h => h) (Or.inl ⟨by kernel_rfl, ?_⟩) (by assumption) ?_
            rotate_left
            · intro w hSw; (try dsimp only at hSw); go_simp; (try with_reducible rfl)
            try simp only [Act.put, List.setIfInBounds_toArray, List.set_cons_zero, List.set_cons_succ]
            refine wpHT_takeD (i := 4) (d := 44) (v := ?_) (by kernel_rfl) rfl rfl (by decide) (by kernel_rfl) (by kernel_rfl) (fun _ _ _ h => h) (Or.inl ⟨by kernel_rfl, ?_⟩) (by assumption) ?_
            rotate_left
            · intro w hSw; (try dsimp only at hSw); go_simp; (try with_reducible rfl)
            try simp only [Act.put, List.setIfInBounds_toArray, List.set_cons_zero, List.set_cons_succ]
            refine wpHT_one (i := 1) (by kernel_rfl) rfl (by decide) (fun K hK => ?_)
            go_simp
            refine hK.out _ _ ?_ (fun hHeld => ?_)
            · exact (five_at HR6.out.row).2.1
            clear hK K
            try simp only [Act.put, List.setIfInBounds_toArray, List.set_cons_zero, List.set_cons_succ]
            refine wpHT_one (i := 2) (by kernel_rfl) rfl (by decide) (fun K hK => ?_)
            refine step_app2 S8 rfl _ _ rfl w.heap.size rfl HR6.out.own rfl (Rd.one _ _ _) (by simp [Value.oneCell']) (by omega) (by unfold maxLen; omega) HR6.out.bl.size ?_
            intro v7 w7 hown7 hg7 _
            have hown7' : Own8 w7 w.heap.size 5 v7 (out5 ++ [32]) := Own8.mk hown7 (by simp) (by rw [B8_append]; rfl)
            obtain ⟨out7, hout7⟩ : ∃ out7, out5 ++ [32] = out7 := ⟨_, rfl⟩
            have hol7 : out7.length ≤ 60011011 := by rw [← hout7]; simp; omega
            rw [hout7] at hown7'
            have HO7 := Lib.hid hout7
            clear hout7
            obtain ⟨av7, cv7, rfl, _⟩ := Own8.rd hown7'
            have HR7 := Lib.hid (HR6.out.grow hown7' hg7)
            clear hown7 hown7' hg7
            refine hK.out _ _ ?_ (fun hHeld => ?_)
            · exact (five_at HR7.out.row).2.1
            clear hK K
            try simp only [Act.put, List.setIfInBounds_toArray]
            refine wpHT_done (by kernel_rfl) ?_
            simp only [List.drop_succ_cons, List.drop_zero]
            clear hHeld z1
            go_wp2_with fail
            go_at_call 61
            refine (HQT.out o.key _ HKL.out).mono ?_
            rintro e w8 ⟨rfl, hb8⟩
            have HR8 := Lib.hid (HR7.out.below hb8)
            have hql := HQL.out
            have hkl2 := HKL2.out
            clear hb8
            go_wp2_with (at_builtin; refine wpList_appS S8 Tryz.underlying9 rfl (.tmp 42) (.tmp 45) rfl w.heap.size rfl HR8.out.own rfl (by omega) HR8.out.bl.size ?_)
            intro v9 w9 hown9 hg9
            have HR9 := Lib.hid (HR8.out.grow hown9 hg9)
            have e9 : out7 ++ quoteOf o.key = out5 ++ 32 :: quoteOf o.key := by rw [← HO7.out]; simp
            rw [e9, ← HST.out] at HR9
            clear hown9 hg9 e9
            go_wp2_with fail
            go_roundw
            case rel => exact ⟨0 + 1, by omega, by go_num, HR9.out.own, HR9.out.bl⟩
            case measure => simp [intOf]; omega
          · subst hn0
            rw [if_neg (by decide), if_pos rfl] at HST
            obtain ⟨_, _, z2, z3, z4⟩ := five_at HR5.out.row
            have HR6 := Lib.hid (HR5.out.below ((Below.refl _ _).drew.alloc (Nat.le_refl _) (.cells #[.int .u8 32] 5)))
            go_wp2_with fail
            refine wp_region_ht 5 (fun W => W.cell? ⟨q5, 2, none⟩ = some (.int .i64 o.v.k) ∧ W.cell? ⟨q5, 3, none⟩ = some (.float .f64 (fb o.v.x)) ∧ W.cell? ⟨q5, 4, none⟩ = some (.string (bs o.v.s))) (by kernel_rfl) (by kernel_rfl) ?_ (fun hHeld => ?_)
            · exact ⟨z2, z3, z4⟩
            try simp only [Act.put, List.setIfInBounds_toArray, List.set_cons_zero, List.set_cons_succ]
            refine wpHT_takeD (i := 0) (d := 49) (v := ?_) (by kernel_rfl) rfl rfl (by decide) (by kernel_rfl) (by kernel_rfl) (fun _ _ _ h => h) (Or.inl ⟨by kernel_rfl, ?_⟩) (by assumption) ?_
            rotate_left
            · intro w hSw; (try dsimp only at hSw); go_simp; (try with_reducible rfl)
            try simp only [Act.put, List.setIfInBounds_toArray, List.set_cons_zero, List.set_cons_succ]
            refine wpHT_takeD (i := 3) (d := 52) (v := ?_) (by kernel_rfl) rfl rfl (by decide) (by kernel_rfl) (by kernel_rfl) (fun _ _ _ h => h) (Or.inl ⟨by kernel_rfl, ?_⟩) (by assumption) ?_
            rotate_left
            · intro w hSw; (try dsimp only at hSw); go_simp; (try with_reducible rfl)
            try simp only [Act.put, List.setIfInBounds_toArray, List.set_cons_zero, List.set_cons_succ]
            refine wpHT_takeD (i := 4) (d := 53) (v := ?_) (by kernel_rfl) rfl rfl (by decide) (by kernel_rfl) (by kernel_rfl) (fun _ _ _ h => h) (Or.inl ⟨by kernel_rfl, ?_⟩) (by assumption) ?_
            rotate_left
            · intro w hSw; (try dsimp only at hSw); go_simp; (try with_reducible rfl)
            try simp only [Act.put, List.setIfInBounds_toArray, List.set_cons_zero, List.set_cons_succ]
            refine wpHT_one (i := 1) (by kernel_rfl) rfl (by decide) (fun K hK => ?_)
            go_simp
            refine hK.out _ _ ?_ (fun hHeld => ?_)
            · exact (five_at HR6.out.row).2.2
            clear hK K
            try simp only [Act.put, List.setIfInBounds_toArray, List.set_cons_zero, List.set_cons_succ]
            refine wpHT_one (i := 2) (by kernel_rfl) rfl (by decide) (fun K hK => ?_)
            refine step_app2 S8 rfl _ _ rfl w.heap.size rfl HR6.out.own rfl (Rd.one _ _ _) (by simp [Value.oneCell']) (by omega) (by unfold maxLen; omega) HR6.out.bl.size ?_
            intro v7 w7 hown7 hg7 _
            have hown7' : Own8 w7 w.heap.size 5 v7 (out5 ++ [32]) := Own8.mk hown7 (by simp) (by rw [B8_append]; rfl)
            obtain ⟨out7, hout7⟩ : ∃ out7, out5 ++ [32] = out7 := ⟨_, rfl⟩
            have hol7 : out7.length ≤ 60011011 := by rw [← hout7]; simp; omega
            rw [hout7] at hown7'
            have HO7 := Lib.hid hout7
            clear hout7
            obtain ⟨av7, cv7, rfl, _⟩ := Own8.rd hown7'
            have HR7 := Lib.hid (HR6.out.grow hown7' hg7)
            clear hown7 hown7' hg7
            refine hK.out _ _ ?_ (fun hHeld => ?_)
            · exact (five_at HR7.out.row).2.2
            clear hK K
            try simp only [Act.put, List.setIfInBounds_toArray]
            refine wpHT_done (by kernel_rfl) ?_
            simp only [List.drop_succ_cons, List.drop_zero]
            clear hHeld z2 z3 z4
            go_wp2_with fail
            go_at_call 62
            refine (HPV.out o.v.k o.v.x o.v.s _ (HT.out.below HR7.out.bl)).mono ?_
            rintro e w8 ⟨rfl, hb8⟩
            have HR8 := Lib.hid (HR7.out.below hb8)
            have htl9 := text_len9 o.v.k o.v.x o.v.s
            obtain ⟨tx, htx⟩ : ∃ tx, textOf o.v.k o.v.x o.v.s = tx := ⟨_, rfl⟩
            rw [htx] at htl9 HST ⊢
            clear hb8 htx
            go_wp2_with (at_builtin; refine wpList_appS S8 Tryz.underlying9 rfl (.tmp 51) (.tmp 54) rfl w.heap.size rfl HR8.out.own rfl (by omega) HR8.out.bl.size ?_)
            intro v9 w9 hown9 hg9
            have HR9 := Lib.hid (HR8.out.grow hown9 hg9)
            have e9 : out7 ++ tx = out5 ++ 32 :: tx := by rw [← HO7.out]; simp
            rw [e9, ← HST.out] at HR9
            clear hown9 hg9 e9
            go_wp2_with fail
            go_roundw
            case rel => exact ⟨0 + 1, by omega, by go_num, HR9.out.own, HR9.out.bl⟩
            case measure => simp [intOf]; omega
      · rw [if_neg h0] at HST
        have hk0 : decide ((0 : Int) < (k : Int)) = true := decide_eq_true (by omega)
        have hk0' : decide (0 < k) = true := decide_eq_true (by omega)
        have HR1 := Lib.hid (HR0.out.below ((Below.refl _ _).alloc (Nat.le_refl _) (.cells #[.int .u8 32] 5)))
        go_wp2_with (at_builtin; refine wpList_app S8 rfl (.tmp 18) (.tmp 19) rfl w.heap.size rfl HR1.out.own rfl (Rd.one2 _ _ _ _) (by simp [Value.oneCell']) (by omega) (by unfold maxLen; omega) HR1.out.bl.size ?_)
        intro v2 w2 hown2 _ hg2
        have hown2' : Own8 w2 w.heap.size 5 v2 (out ++ [32]) := Own8.mk hown2 (by simp) (by rw [B8_append]; rfl)
        obtain ⟨av2, cv2, rfl, _⟩ := Own8.rd hown2'
        have HR2 := Lib.hid (HR1.out.grow hown2' hg2)
        obtain ⟨out2, hout2⟩ : ∃ out2, out ++ [32] = out2 := ⟨_, rfl⟩
        have hol2 : out2.length ≤ 60011001 := by rw [← hout2]; simp; omega
        rw [hout2] at HR2 HST ⊢
        obtain ⟨q5, hq5⟩ : ∃ q, wr.heap.size = q := ⟨_, rfl⟩
        rw [hq5] at HR2 ⊢
        clear hown2 hown2' hg2 hout2 HR1 HR0 c0 c1 c2 c3 c4 hol hq5
        obtain ⟨z0, _, _, _, _⟩ := five_at HR2.out.row
        go_wp2_with fail
        clear z0
        go_at_call 36
        refine (of_any' o.c _).mono ?_
        rintro e w3 ⟨rfl, hb3⟩
        have HR3 := Lib.hid (HR2.out.below hb3)
        clear hb3
        cases hco : codeOk o.c with
        | false =>
          have hv : ofV o.c = .agg #[.string (bs []), .int .i64 0, .int .i64 0, .int .i64 0] := by unfold ofV; rw [hco]; rfl
          have htx : txtO o = [63] := by
            have hn0 : namesC o.c = 0 := by
              unfold codeOk at hco
              rw [Bool.and_eq_false_iff, decide_eq_false_iff_not, decide_eq_false_iff_not] at hco
              unfold namesC
              rw [if_neg (by omega), if_neg (by omega)]
            unfold txtO wordX
            rw [hco, hn0]; rfl
          rw [htx] at HST
          rw [hv]
          have HR4 := Lib.hid ((HR3.out.below ((Below.refl _ _).alloc (Nat.le_refl _) (.cells #[.string (bs []), .int .i64 0, .int .i64 0, .int .i64 0] 64))).below ((Below.refl _ _).alloc (Nat.le_refl _) (.cells #[.int .u8 63] 5)))
          clear hv hco htx
          go_wp2_with (at_builtin; refine wpList_app S8 rfl (.tmp 29) (.tmp 30) rfl w.heap.size rfl HR4.out.own rfl (Rd.one2 _ _ _ _) (by simp [Value.oneCell']) (by omega) (by unfold maxLen; omega) HR4.out.bl.size ?_)
          intro v5 w5 hown5 _ hg5
          have HR5 := Lib.hid (HR4.out.grow (v' := v5) (W' := w5) (out' := out2 ++ [63]) (Own8.mk hown5 (by simp) (by rw [B8_append]; rfl)) hg5)
          rw [← HST.out] at HR5
          clear hown5 hg5
          go_wp2_with fail
          go_roundw
          case rel => exact ⟨k + 1, by omega, by go_num, HR5.out.own, HR5.out.bl⟩
          case measure => simp [intOf]; omega
        | true =>
          have hv : ofV o.c = stepV o.c := by unfold ofV; rw [hco]; rfl
          have hwx : wordX o.c = wordC o.c := by unfold wordX; rw [if_pos hco]
          have hwl := wordC_len o.c
          rw [hv]
          unfold stepV
          unfold txtO at HST
          rw [hwx] at HST
          obtain ⟨wd, hwd⟩ : ∃ wd, wordC o.c = wd := ⟨_, rfl⟩
          obtain ⟨nm, hnm⟩ : ∃ nm, namesC o.c = nm := ⟨_, rfl⟩
          obtain ⟨tk, htk⟩ : ∃ tk, takeC o.c = tk := ⟨_, rfl⟩
          obtain ⟨gv, hgv⟩ : ∃ gv, giveC o.c = gv := ⟨_, rfl⟩
          rw [hwd] at HST hwl ⊢
          rw [hnm] at HST ⊢
          rw [htk, hgv]
          have hnn := names_cases o.c
          rw [hnm] at hnn
          have HR4 := Lib.hid (HR3.out.below ((Below.refl _ _).alloc (Nat.le_refl _) (.cells #[.string (bs wd), .int .i64 nm, .int .i64 tk, .int .i64 gv] 64)))
          have hr6 := heap_alloc_new w3 (.cells #[.string (bs wd), .int .i64 nm, .int .i64 tk, .int .i64 gv] 64)
          have HR6 := Lib.hid hr6
          have HS6 : Hid (w3.heap.size < (w3.alloc (.cells #[.string (bs wd), .int .i64 nm, .int .i64 tk, .int .i64 gv] 64)).heap.size) := (Array.getElem?_eq_some_iff.1 hr6).1
          have HB6 : Hid (∀ k, (Value.slice av2 out2.length cv2).ownBlock = some k → k < w3.heap.size) := fun k hk => (World.ownsRow.lt HR3.out.own k hk).2
          clear hv hco hwx hwd hnm htk hgv hr6
          go_wp2_with (at_builtin; refine wpList_appS S8 Tryz.underlying9 rfl (.tmp 32) (.tmp 34) rfl w.heap.size rfl HR4.out.own rfl (by omega) HR4.out.bl.size ?_)
          intro v5 w5 hown5 hg5
          obtain ⟨av5, cv5, rfl, _⟩ := Own8.rd hown5
          have HR5 := Lib.hid (HR4.out.grow hown5 hg5)
          have hr7 := (hg5.block w3.heap.size HS6.out (fun e => Nat.lt_irrefl _ (HB6.out _ e.symm))).trans HR6.out
          have s1 := cell_of_row _ w3.heap.size 1 _ _ _ hr7
          simp only [List.getElem?_toArray, List.getElem?_cons_zero, List.getElem?_cons_succ] at s1
          obtain ⟨out5, hout5⟩ : ∃ out5, out2 ++ wd = out5 := ⟨_, rfl⟩
          have hol5 : out5.length ≤ 60011010 := by rw [← hout5, List.length_append]; omega
          rw [← List.append_assoc, hout5] at HST
          rw [hout5] at HR5 ⊢
          clear hown5 hg5 hr7 hout5 HR6 HS6 HB6 HR4
          rcases hnn with hn0 | hn0 | hn0
          · subst hn0
            rw [if_neg (by decide), if_neg (by decide), List.append_nil] at HST
            have HRF : Hid (Own8 w5 w.heap.size 5 (.slice av5 out5.length cv5) (printP (p.take (k + 1)))) := by show Own8 _ _ _ _ _; rw [HST.out]; exact HR5.out.own
            go_wp2_with fail
            go_roundw
            case rel => exact ⟨k + 1, by omega, by go_num, HRF.out, HR5.out.bl⟩
            case measure => simp [intOf]; omega
          · subst hn0
            rw [if_pos rfl] at HST
            obtain ⟨_, z1, _, _, _⟩ := five_at HR5.out.row
            have HR6 := Lib.hid (HR5.out.below ((Below.refl _ _).drew.alloc (Nat.le_refl _) (.cells #[.int .u8 32] 5)))
            have HQL := Lib.hid (quote_bd9 o.key)
            have HKL2 : Hid (o.key.length ≤ 20000) := HKK.out
            go_wp2_with fail
            refine wp_region_ht 5 (fun W => W.cell? ⟨q5, 1, none⟩ = some (.string (bs o.key))) (by kernel_rfl) (by kernel_rfl) ?_ (fun hHeld => ?_)
            · exact z1
            try simp only [Act.put, List.setIfInBounds_toArray, List.set_cons_zero, List.set_cons_succ]
            refine wpHT_takeD (i := 0) (d := 40) (v := ?_) (by kernel_rfl) rfl rfl (by decide) (by kernel_rfl) (by kernel_rfl) (fun _ _ _ h => h) (Or.inl ⟨by kernel_rfl, ?_⟩) (by assumption) ?_
            rotate_left
            · intro w hSw; (try dsimp only at hSw); go_simp; (try with_reducible rfl)
            try simp only [Act.put, List.setIfInBounds_toArray, List.set_cons_zero, List.set_cons_succ]
            refine wpHT_takeD (i := 3) (d := 43) (v := ?_) (by kernel_rfl) rfl rfl (by decide) (by kernel_rfl) (by kernel_rfl) (fun _ _ _ h => h) (Or.inl ⟨by kernel_rfl, ?_⟩) (by assumption) ?_
            rotate_left
            · intro w hSw; (try dsimp only at hSw); go_simp; (try with_reducible rfl)
            try simp only [Act.put, List.setIfInBounds_toArray, List.set_cons_zero, List.set_cons_succ]
            refine wpHT_takeD (i := 4) (d := 44) (v := ?_) (by kernel_rfl) rfl rfl (by decide) (by kernel_rfl) (by kernel_rfl) (fun _ _ _ h => h) (Or.inl ⟨by kernel_rfl, ?_⟩) (by assumption) ?_
            rotate_left
            · intro w hSw; (try dsimp only at hSw); go_simp; (try with_reducible rfl)
            try simp only [Act.put, List.setIfInBounds_toArray, List.set_cons_zero, List.set_cons_succ]
            refine wpHT_one (i := 1) (by kernel_rfl) rfl (by decide) (fun K hK => ?_)
            go_simp
            refine hK.out _ _ ?_ (fun hHeld => ?_)
            · exact (five_at HR6.out.row).2.1
            clear hK K
            try simp only [Act.put, List.setIfInBounds_toArray, List.set_cons_zero, List.set_cons_succ]
            refine wpHT_one (i := 2) (by kernel_rfl) rfl (by decide) (fun K hK => ?_)
            refine step_app2 S8 rfl _ _ rfl w.heap.size rfl HR6.out.own rfl (Rd.one _ _ _) (by simp [Value.oneCell']) (by omega) (by unfold maxLen; omega) HR6.out.bl.size ?_
            intro v7 w7 hown7 hg7 _
            have hown7' : Own8 w7 w.heap.size 5 v7 (out5 ++ [32]) := Own8.mk hown7 (by simp) (by rw [B8_append]; rfl)
            obtain ⟨out7, hout7⟩ : ∃ out7, out5 ++ [32] = out7 := ⟨_, rfl⟩
            have hol7 : out7.length ≤ 60011011 := by rw [← hout7]; simp; omega
            rw [hout7] at hown7'
            have HO7 := Lib.hid hout7
            clear hout7
            obtain ⟨av7, cv7, rfl, _⟩ := Own8.rd hown7'
            have HR7 := Lib.hid (HR6.out.grow hown7' hg7)
            clear hown7 hown7' hg7
            refine hK.out _ _ ?_ (fun hHeld => ?_)
            · exact (five_at HR7.out.row).2.1
            clear hK K
            try simp only [Act.put, List.setIfInBounds_toArray]
            refine wpHT_done (by kernel_rfl) ?_
            simp only [List.drop_succ_cons, List.drop_zero]
            clear hHeld z1
            go_wp2_with fail
            go_at_call 61
            refine (HQT.out o.key _ HKL.out).mono ?_
            rintro e w8 ⟨rfl, hb8⟩
            have HR8 := Lib.hid (HR7.out.below hb8)
            have hql := HQL.out
            have hkl2 := HKL2.out
            clear hb8
            go_wp2_with (at_builtin; refine wpList_appS S8 Tryz.underlying9 rfl (.tmp 42) (.tmp 45) rfl w.heap.size rfl HR8.out.own rfl (by omega) HR8.out.bl.size ?_)
            intro v9 w9 hown9 hg9
            have HR9 := Lib.hid (HR8.out.grow hown9 hg9)
            have e9 : out7 ++ quoteOf o.key = out5 ++ 32 :: quoteOf o.key := by rw [← HO7.out]; simp
            rw [e9, ← HST.out] at HR9
            clear hown9 hg9 e9
            go_wp2_with fail
            go_roundw
            case rel => exact ⟨k + 1, by omega, by go_num, HR9.out.own, HR9.out.bl⟩
            case measure => simp [intOf]; omega
          · subst hn0
            rw [if_neg (by decide), if_pos rfl] at HST
            obtain ⟨_, _, z2, z3, z4⟩ := five_at HR5.out.row
            have HR6 := Lib.hid (HR5.out.below ((Below.refl _ _).drew.alloc (Nat.le_refl _) (.cells #[.int .u8 32] 5)))
            go_wp2_with fail
            refine wp_region_ht 5 (fun W => W.cell? ⟨q5, 2, none⟩ = some (.int .i64 o.v.k) ∧ W.cell? ⟨q5, 3, none⟩ = some (.float .f64 (fb o.v.x)) ∧ W.cell? ⟨q5, 4, none⟩ = some (.string (bs o.v.s))) (by kernel_rfl) (by kernel_rfl) ?_ (fun hHeld => ?_)
            · exact ⟨z2, z3, z4⟩
            try simp only [Act.put, List.setIfInBounds_toArray, List.set_cons_zero, List.set_cons_succ]
            refine wpHT_takeD (i := 0) (d := 49) (v := ?_) (by kernel_rfl) rfl rfl (by decide) (by kernel_rfl) (by kernel_rfl) (fun _ _ _ h => h) (Or.inl ⟨by kernel_rfl, ?_⟩) (by assumption) ?_
            rotate_left
            · intro w hSw; (try dsimp only at hSw); go_simp; (try with_reducible rfl)
            try simp only [Act.put, List.setIfInBounds_toArray, List.set_cons_zero, List.set_cons_succ]
            refine wpHT_takeD (i := 3) (d := 52) (v := ?_) (by kernel_rfl) rfl rfl (by decide) (by kernel_rfl) (by kernel_rfl) (fun _ _ _ h => h) (Or.inl ⟨by kernel_rfl, ?_⟩) (by assumption) ?_
            rotate_left
            · intro w hSw; (try dsimp only at hSw); go_simp; (try with_reducible rfl)
            try simp only [Act.put, List.setIfInBounds_toArray, List.set_cons_zero, List.set_cons_succ]
            refine wpHT_takeD (i := 4) (d := 53) (v := ?_) (by kernel_rfl) rfl rfl (by decide) (by kernel_rfl) (by kernel_rfl) (fun _ _ _ h => h) (Or.inl ⟨by kernel_rfl, ?_⟩) (by assumption) ?_
            rotate_left
            · intro w hSw; (try dsimp only at hSw); go_simp; (try with_reducible rfl)
            try simp only [Act.put, List.setIfInBounds_toArray, List.set_cons_zero, List.set_cons_succ]
            refine wpHT_one (i := 1) (by kernel_rfl) rfl (by decide) (fun K hK => ?_)
            go_simp
            refine hK.out _ _ ?_ (fun hHeld => ?_)
            · exact (five_at HR6.out.row).2.2
            clear hK K
            try simp only [Act.put, List.setIfInBounds_toArray, List.set_cons_zero, List.set_cons_succ]
            refine wpHT_one (i := 2) (by kernel_rfl) rfl (by decide) (fun K hK => ?_)
            refine step_app2 S8 rfl _ _ rfl w.heap.size rfl HR6.out.own rfl (Rd.one _ _ _) (by simp [Value.oneCell']) (by omega) (by unfold maxLen; omega) HR6.out.bl.size ?_
            intro v7 w7 hown7 hg7 _
            have hown7' : Own8 w7 w.heap.size 5 v7 (out5 ++ [32]) := Own8.mk hown7 (by simp) (by rw [B8_append]; rfl)
            obtain ⟨out7, hout7⟩ : ∃ out7, out5 ++ [32] = out7 := ⟨_, rfl⟩
            have hol7 : out7.length ≤ 60011011 := by rw [← hout7]; simp; omega
            rw [hout7] at hown7'
            have HO7 := Lib.hid hout7
            clear hout7
            obtain ⟨av7, cv7, rfl, _⟩ := Own8.rd hown7'
            have HR7 := Lib.hid (HR6.out.grow hown7' hg7)
            clear hown7 hown7' hg7
            refine hK.out _ _ ?_ (fun hHeld => ?_)
            · exact (five_at HR7.out.row).2.2
            clear hK K
            try simp only [Act.put, List.setIfInBounds_toArray]
            refine wpHT_done (by kernel_rfl) ?_
            simp only [List.drop_succ_cons, List.drop_zero]
            clear hHeld z2 z3 z4
            go_wp2_with fail
            go_at_call 62
            refine (HPV.out o.v.k o.v.x o.v.s _ (HT.out.below HR7.out.bl)).mono ?_
            rintro e w8 ⟨rfl, hb8⟩
            have HR8 := Lib.hid (HR7.out.below hb8)
            have htl9 := text_len9 o.v.k o.v.x o.v.s
            obtain ⟨tx, htx⟩ : ∃ tx, textOf o.v.k o.v.x o.v.s = tx := ⟨_, rfl⟩
            rw [htx] at htl9 HST ⊢
            clear hb8 htx
            go_wp2_with (at_builtin; refine wpList_appS S8 Tryz.underlying9 rfl (.tmp 51) (.tmp 54) rfl w.heap.size rfl HR8.out.own rfl (by omega) HR8.out.bl.size ?_)
            intro v9 w9 hown9 hg9
            have HR9 := Lib.hid (HR8.out.grow hown9 hg9)
            have e9 : out7 ++ tx = out5 ++ 32 :: tx := by rw [← HO7.out]; simp
            rw [e9, ← HST.out] at HR9
            clear hown9 hg9 e9
            go_wp2_with fail
            go_roundw
            case rel => exact ⟨k + 1, by omega, by go_num, HR9.out.own, HR9.out.bl⟩
            case measure => simp [intOf]; omega
    · obtain rfl : n = k := by omega
      have ho := HO.out
      rw [List.take_of_length_le (by have := HN.out; omega)] at ho ⊢
      have HP := Lib.hid ho
      obtain ⟨a9, c9, h9, hr⟩ := Own8.rd ho
      injection h9 with i1 i2 i3
      subst i1 i3
      have hcv := run_toStr (P := Tryz.prog) hr 106 5 9 Tryz.underlying106 Tryz.underlying5 Tryz.underlying9
      clear ho hr i2
      go_wp2_with fail
      go_ret
      exact ⟨rfl, HB.out⟩
end Go.Proofs.YtalpbphfmelhhaaGreatDoor

/-! ### The document's text of a program (raceref9.Print). -/
namespace Go.Proofs.YtalpbphfmelhhaaGreatDoor
open Go.RowKit Go.Maps Go.Sort
set_option maxRecDepth 100000
attribute [local go_sem] bs_size bs_get bs_toList frombits tobits run_store_float
end Go.Proofs.YtalpbphfmelhhaaGreatDoor
