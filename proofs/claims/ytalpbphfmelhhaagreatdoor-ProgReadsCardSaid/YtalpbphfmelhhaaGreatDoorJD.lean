/-
  Programs as texts (plain): words, steps; there and back. No walk.
  Plain laws of runs: what hangs on what is read, beginnings, two programs one behind the other, a need behind all. No walk.
-/
import Derived.Test.YtalpbphfmelhhaaGreatDoorHH
import Derived.Test.YtalpbphfmelhhaaGreatDoorD17
import Derived.Test.YtalpbphfmelhhaaGreatDoorHX
/-! ### Programs as texts (plain): words, steps; there and back. No walk. -/
namespace Go.Proofs.YtalpbphfmelhhaaGreatDoor
open Go.RowKit Go.Maps
set_option maxRecDepth 100000
/-! ### words -/
/-- The words of a text; m: 0 between words, 1 in a word, 2 in a quoted one, 3 behind one; c is the word up to here. -/
def wordsM : List UInt8 → Nat → List UInt8 → Option (List (List UInt8))
  | [], m, c => if m = 0 then some [] else if m = 2 then none else some [c]
  | x :: r, m, c =>
    if m = 0 then (if x = 32 then wordsM r 0 [] else if x = 34 then wordsM r 2 [34] else wordsM r 1 [x])
    else if m = 1 then (if x = 32 then (wordsM r 0 []).map (fun l => c :: l) else if x = 34 then none else wordsM r 1 (c ++ [x]))
    else if m = 2 then (if x = 34 then wordsM r 3 (c ++ [34]) else wordsM r 2 (c ++ [x]))
    else (if x = 32 then (wordsM r 0 []).map (fun l => c :: l) else none)
theorem wm_nil (m : Nat) (c : List UInt8) : wordsM [] m c = if m = 0 then some [] else if m = 2 then none else some [c] := by rw [wordsM]
theorem wm_0 (x : UInt8) (r c : List UInt8) : wordsM (x :: r) 0 c = if x = 32 then wordsM r 0 [] else if x = 34 then wordsM r 2 [34] else wordsM r 1 [x] := by rw [wordsM]; rfl
theorem wm_1 (x : UInt8) (r c : List UInt8) : wordsM (x :: r) 1 c = if x = 32 then (wordsM r 0 []).map (fun l => c :: l) else if x = 34 then none else wordsM r 1 (c ++ [x]) := by rw [wordsM]; rfl
theorem wm_2 (x : UInt8) (r c : List UInt8) : wordsM (x :: r) 2 c = if x = 34 then wordsM r 3 (c ++ [34]) else wordsM r 2 (c ++ [x]) := by rw [wordsM]; rfl
theorem wm_3 (x : UInt8) (r c : List UInt8) : wordsM (x :: r) 3 c = if x = 32 then (wordsM r 0 []).map (fun l => c :: l) else none := by rw [wordsM]; rfl
theorem wm_run1 : ∀ (w c r : List UInt8), (∀ x ∈ w, x ≠ 32 ∧ x ≠ 34) → wordsM (w ++ r) 1 c = wordsM r 1 (c ++ w)
  | [], c, r, _ => by simp
  | x :: w, c, r, h => by
    obtain ⟨h1, h2⟩ := h x (by simp)
    rw [List.cons_append, wm_1, if_neg h1, if_neg h2, wm_run1 w _ r fun y hy => h y (by simp [hy])]
    simp
theorem wm_run2 : ∀ (w c r : List UInt8), (∀ x ∈ w, x ≠ 34) → wordsM (w ++ r) 2 c = wordsM r 2 (c ++ w)
  | [], c, r, _ => by simp
  | x :: w, c, r, h => by
    have h1 := h x (by simp)
    rw [List.cons_append, wm_2, if_neg h1, wm_run2 w _ r fun y hy => h y (by simp [hy])]
    simp
/-- What can stand as one word. -/
def WordOk (w : List UInt8) : Prop := (w ≠ [] ∧ ∀ c ∈ w, c ≠ 32 ∧ c ≠ 34) ∨ ∃ b, w = 34 :: b ++ [34] ∧ ∀ c ∈ b, c ≠ 34
theorem wm_word {w : List UInt8} (h : WordOk w) (r : List UInt8) : wordsM (w ++ 32 :: r) 0 [] = (wordsM r 0 []).map (fun l => w :: l) := by
  rcases h with ⟨h1, h2⟩ | ⟨b, rfl, h2⟩
  · cases w with
    | nil => exact absurd rfl h1
    | cons x w =>
      obtain ⟨e1, e2⟩ := h2 x (by simp)
      rw [List.cons_append, wm_0, if_neg e1, if_neg e2, wm_run1 w _ _ fun y hy => h2 y (by simp [hy]), wm_1, if_pos rfl]
      rfl
  · have e : (34 :: b ++ [34]) ++ 32 :: r = 34 :: (b ++ (34 :: 32 :: r)) := by simp
    rw [e, wm_0, if_neg (by decide), if_pos rfl, wm_run2 b _ _ h2, wm_2, if_pos rfl, wm_3, if_pos rfl]
    rfl
theorem wm_last {w : List UInt8} (h : WordOk w) : wordsM w 0 [] = some [w] := by
  rcases h with ⟨h1, h2⟩ | ⟨b, rfl, h2⟩
  · cases w with
    | nil => exact absurd rfl h1
    | cons x w =>
      obtain ⟨e1, e2⟩ := h2 x (by simp)
      have := wm_run1 w [x] [] fun y hy => h2 y (by simp [hy])
      rw [List.append_nil] at this
      rw [wm_0, if_neg e1, if_neg e2, this, wm_nil]
      rfl
  · have e : (34 :: b ++ [34]) = 34 :: (b ++ [34]) := by simp
    rw [e, wm_0, if_neg (by decide), if_pos rfl, wm_run2 b _ _ h2, wm_2, if_pos rfl, wm_nil]
    rfl
/-- Words with one blank between them. -/
def joinW : List (List UInt8) → List UInt8
  | [] => []
  | [w] => w
  | w :: x :: r => w ++ 32 :: joinW (x :: r)
theorem joinW_cons (w x : List UInt8) (r : List (List UInt8)) : joinW (w :: x :: r) = w ++ 32 :: joinW (x :: r) := by rw [joinW]
theorem wm_join : ∀ {ws : List (List UInt8)}, (∀ w ∈ ws, WordOk w) → wordsM (joinW ws) 0 [] = some ws
  | [], _ => by rw [joinW, wm_nil]; rfl
  | [w], h => by rw [joinW]; exact wm_last (h w (by simp))
  | w :: x :: r, h => by
    rw [joinW, wm_word (h w (by simp)), wm_join fun y hy => h y (List.mem_cons_of_mem _ hy)]
    rfl
/-! ### steps as words -/
def wordX (c : Int) : List UInt8 := if codeOk c then wordC c else [63]
def opW (o : OpP) : List (List UInt8) := wordX o.c :: (if namesC o.c = 1 then [quoteOf o.key] else if namesC o.c = 2 then [textOf o.v.k o.v.x o.v.s] else [])
def printP (p : List OpP) : List UInt8 := joinW (p.flatMap opW)
def codeW (w : List UInt8) : Int :=
  if w = wordC 1 then 1 else if w = wordC 2 then 2 else if w = wordC 3 then 3 else if w = wordC 4 then 4 else if w = wordC 5 then 5 else if w = wordC 6 then 6 else if w = wordC 7 then 7 else if w = wordC 8 then 8
  else if w = wordC 9 then 9 else if w = wordC 10 then 10 else if w = wordC 11 then 11 else if w = wordC 12 then 12 else if w = wordC 13 then 13 else if w = wordC 14 then 14 else if w = wordC 15 then 15 else 0
theorem code15 {c : Int} (h1 : 1 ≤ c) (h2 : c ≤ 15) : c = 1 ∨ c = 2 ∨ c = 3 ∨ c = 4 ∨ c = 5 ∨ c = 6 ∨ c = 7 ∨ c = 8 ∨ c = 9 ∨ c = 10 ∨ c = 11 ∨ c = 12 ∨ c = 13 ∨ c = 14 ∨ c = 15 := by omega
theorem codeW_of {c : Int} (h1 : 1 ≤ c) (h2 : c ≤ 15) : codeW (wordC c) = c := by
  rcases code15 h1 h2 with rfl | rfl | rfl | rfl | rfl | rfl | rfl | rfl | rfl | rfl | rfl | rfl | rfl | rfl | rfl <;> decide
theorem codeW_no {w : List UInt8} (h : ∀ c : Int, 1 ≤ c → c ≤ 15 → wordC c ≠ w) : codeW w = 0 := by
  have h' : ∀ c : Int, 1 ≤ c → c ≤ 15 → ¬ w = wordC c := fun c h1 h2 e => h c h1 h2 e.symm
  unfold codeW
  rw [if_neg (h' 1 (by decide) (by decide)), if_neg (h' 2 (by decide) (by decide)), if_neg (h' 3 (by decide) (by decide)), if_neg (h' 4 (by decide) (by decide)), if_neg (h' 5 (by decide) (by decide)), if_neg (h' 6 (by decide) (by decide)), if_neg (h' 7 (by decide) (by decide)), if_neg (h' 8 (by decide) (by decide)),
    if_neg (h' 9 (by decide) (by decide)), if_neg (h' 10 (by decide) (by decide)), if_neg (h' 11 (by decide) (by decide)), if_neg (h' 12 (by decide) (by decide)), if_neg (h' 13 (by decide) (by decide)), if_neg (h' 14 (by decide) (by decide)), if_neg (h' 15 (by decide) (by decide))]
theorem codeW_cases (w : List UInt8) : (codeW w = 0 ∧ ∀ c : Int, 1 ≤ c → c ≤ 15 → wordC c ≠ w) ∨ (1 ≤ codeW w ∧ codeW w ≤ 15 ∧ wordC (codeW w) = w) := by
  by_cases h : ∃ c : Int, 1 ≤ c ∧ c ≤ 15 ∧ wordC c = w
  · obtain ⟨c, h1, h2, rfl⟩ := h
    right
    rw [codeW_of h1 h2]
    exact ⟨h1, h2, rfl⟩
  · have h' : ∀ c : Int, 1 ≤ c → c ≤ 15 → wordC c ≠ w := fun c h1 h2 e => h ⟨c, h1, h2, e⟩
    exact .inl ⟨codeW_no h', h'⟩
/-- What a step of this code names, read. -/
noncomputable def nameP (c : Int) (x : List UInt8) : Int × OpP :=
  if namesC c = 2 then ((parseD x).e, ⟨c, [], ⟨(parseD x).k, (parseD x).x, (parseD x).s⟩⟩)
  else match unqOf x with
    | none => (4, ⟨c, [], Vl.nil⟩)
    | some t => if keyB t then (0, ⟨c, t, Vl.nil⟩) else (4, ⟨c, [], Vl.nil⟩)
/-- Steps ahead of what is read. -/
def preG (out : List OpP) (r : Int × List OpP) : Int × List OpP := (r.1, if r.1 = 0 then out ++ r.2 else [])
noncomputable def parseGo : List (List UInt8) → Int × List OpP
  | [] => (0, [])
  | w :: r =>
    if codeW w = 0 then (7, [])
    else if namesC (codeW w) = 0 then preG [⟨codeW w, [], Vl.nil⟩] (parseGo r)
    else match r with
      | [] => (5, [])
      | x :: t => if (nameP (codeW w) x).1 ≠ 0 then ((nameP (codeW w) x).1, []) else preG [(nameP (codeW w) x).2] (parseGo t)
theorem pg_bad {w : List UInt8} (r : List (List UInt8)) (h : codeW w = 0) : parseGo (w :: r) = (7, []) := by rw [parseGo.eq_def]; dsimp only; rw [if_pos h]
theorem pg_bare {w : List UInt8} (r : List (List UInt8)) (h : codeW w ≠ 0) (hn : namesC (codeW w) = 0) : parseGo (w :: r) = preG [⟨codeW w, [], Vl.nil⟩] (parseGo r) := by rw [parseGo.eq_def]; dsimp only; rw [if_neg h, if_pos hn]
theorem pg_short {w : List UInt8} (h : codeW w ≠ 0) (hn : namesC (codeW w) ≠ 0) : parseGo [w] = (5, []) := by rw [parseGo, if_neg h, if_neg hn]
theorem pg_name {w : List UInt8} (x : List UInt8) (r : List (List UInt8)) (h : codeW w ≠ 0) (hn : namesC (codeW w) ≠ 0) : parseGo (w :: x :: r) = if (nameP (codeW w) x).1 ≠ 0 then ((nameP (codeW w) x).1, []) else preG [(nameP (codeW w) x).2] (parseGo r) := by rw [parseGo, if_neg h, if_neg hn]
theorem preG_nil {r : Int × List OpP} (h : r.1 ≠ 0 → r.2 = []) : preG [] r = r := by
  unfold preG
  by_cases h0 : r.1 = 0
  · rw [if_pos h0]; rfl
  · rw [if_neg h0, ← h h0]
theorem preG_preG (a b : List OpP) (r : Int × List OpP) : preG a (preG b r) = preG (a ++ b) r := by
  unfold preG
  by_cases h0 : r.1 = 0
  · simp [h0]
  · simp [h0]
theorem pg_err : ∀ {ws : List (List UInt8)}, (parseGo ws).1 ≠ 0 → (parseGo ws).2 = []
  | [], h => absurd (by rw [parseGo]) h
  | w :: r, h => by
    by_cases h0 : codeW w = 0
    · rw [pg_bad r h0]
    · by_cases hn : namesC (codeW w) = 0
      · rw [pg_bare r h0 hn] at h ⊢
        exact if_neg h
      · cases r with
        | nil => rw [pg_short h0 hn]
        | cons x t =>
          rw [pg_name x t h0 hn] at h ⊢
          split
          · rfl
          · rename_i he
            rw [if_neg he] at h
            exact if_neg h
noncomputable def parseP (s : List UInt8) : Int × List OpP :=
  match wordsM s 0 [] with
  | none => (4, [])
  | some ws => if (parseGo ws).1 ≠ 0 then ((parseGo ws).1, []) else if checkP (parseGo ws).2 ≠ 0 then (checkP (parseGo ws).2, []) else (0, (parseGo ws).2)
/-! ### there and back -/
theorem may009 : mayB 0 0 [] = true := by decide
theorem may1_of9 {z : UInt64} (h : canon z = z) : mayB 1 z [] = true := by
  unfold mayB; rw [if_neg (by decide), if_pos rfl, h]; simp
/-- A value that may be comes back of its text. -/
theorem text_parse9 {k : Int} {x : UInt64} {s : List UInt8} (h : mayB k x s = true) : parseD (textOf k x s) = ⟨k, x, s, 0⟩ := by
  rcases may_kinds h with rfl | rfl | rfl
  · obtain ⟨rfl, rfl⟩ := may0 h
    rw [text0 h]
    unfold parseD
    rw [if_neg (by decide), if_pos rfl]
  · obtain ⟨rfl, hc⟩ := may_one h
    rw [text1 h]
    unfold parseD
    rw [if_neg (fun hh => print_not34 x hh.2), if_neg (print_notNone x), parse_print, if_pos rfl]
    simp only
    rw [canon_canon, ← hc]
  · obtain ⟨rfl, hl⟩ := may_two h
    rw [text2 h]
    unfold parseD
    rw [if_pos ⟨by have := quoteOf_len s; omega, quoteOf_head s⟩, unq_some]
    simp only
    rw [if_neg (by omega)]
theorem form_names {o : OpP} (hf : formO o = true) : (namesC o.c = 1 → keyB o.key = true) ∧ (namesC o.c ≠ 1 → o.key = []) ∧ (namesC o.c = 2 → o.v.may = true) ∧ (namesC o.c ≠ 2 → o.v = Vl.nil) := by
  unfold formO at hf
  rw [Bool.and_eq_true] at hf
  obtain ⟨h1, h2⟩ := hf
  refine ⟨fun e => ?_, fun e => ?_, fun e => ?_, fun e => ?_⟩
  · rw [if_pos e] at h1; exact h1
  · rw [if_neg e] at h1; simpa using h1
  · rw [if_pos e] at h2; exact h2
  · rw [if_neg e, Bool.and_eq_true, decide_eq_true_eq] at h2
    obtain ⟨⟨k, x, s⟩, h3⟩ : ∃ v, o.v = v := ⟨_, rfl⟩
    rw [h3] at h2 ⊢
    obtain ⟨ha, hb⟩ := h2
    have hb' : k = 0 := hb
    subst hb'
    obtain ⟨rfl, rfl⟩ := may0 ha
    rfl
theorem names_cases (c : Int) : namesC c = 0 ∨ namesC c = 1 ∨ namesC c = 2 := by unfold namesC; split <;> (try split) <;> simp
theorem pg_op {o : OpP} (hc : codeOk o.c = true) (hf : formO o = true) (r : List (List UInt8)) : parseGo (opW o ++ r) = preG [o] (parseGo r) := by
  obtain ⟨c1, c2⟩ := codeOk_iff hc
  have hw : codeW (wordX o.c) = o.c := by unfold wordX; rw [if_pos hc]; exact codeW_of c1 c2
  have h0 : codeW (wordX o.c) ≠ 0 := by rw [hw]; omega
  obtain ⟨f1, f2, f3, f4⟩ := form_names hf
  obtain ⟨c, key, v⟩ := o
  dsimp only at *
  unfold opW
  dsimp only
  rcases names_cases c with hn | hn | hn
  · rw [if_neg (by omega), if_neg (by omega), List.cons_append, List.nil_append, pg_bare r h0 (by rw [hw]; exact hn), hw, f2 (by omega), f4 (by omega)]
  · rw [if_pos hn, List.cons_append, List.cons_append, List.nil_append, pg_name _ r h0 (by rw [hw]; omega), hw]
    have hnm : nameP c (quoteOf key) = (0, ⟨c, key, Vl.nil⟩) := by
      unfold nameP
      rw [if_neg (by omega), unq_some]
      simp only
      rw [if_pos (f1 hn)]
    rw [hnm, if_neg (by simp), f4 (by omega)]
  · rw [if_neg (by omega), if_pos hn, List.cons_append, List.cons_append, List.nil_append, pg_name _ r h0 (by rw [hw]; omega), hw]
    have hm := f3 hn
    have hnm : nameP c (textOf v.k v.x v.s) = (0, ⟨c, [], v⟩) := by
      unfold nameP
      rw [if_pos hn, text_parse9 hm]
    rw [hnm, if_neg (by simp), f2 (by omega)]
theorem chk_all : ∀ {p : List OpP} {h : Int}, chkGo p h = 0 → ∀ o ∈ p, codeOk o.c = true ∧ formO o = true
  | [], _, _, o, ho => by cases ho
  | x :: r, h, hz, o, ho => by
    obtain ⟨c1, c2, c3, c4, c5⟩ := chk_cons hz
    rcases List.mem_cons.1 ho with rfl | ho
    · exact ⟨c1, c2⟩
    · exact chk_all c5 o ho
theorem pg_ops : ∀ {p : List OpP}, (∀ o ∈ p, codeOk o.c = true ∧ formO o = true) → parseGo (p.flatMap opW) = (0, p)
  | [], _ => by rw [List.flatMap_nil, parseGo]
  | o :: p, h => by
    obtain ⟨h1, h2⟩ := h o (by simp)
    rw [List.flatMap_cons, pg_op h1 h2, pg_ops fun x hx => h x (by simp [hx])]
    simp [preG]
theorem wordX_ok {c : Int} (h : codeOk c = true) : WordOk (wordX c) := by
  obtain ⟨h1, h2⟩ := codeOk_iff h
  unfold wordX
  rw [if_pos h]
  left
  rcases code15 h1 h2 with rfl | rfl | rfl | rfl | rfl | rfl | rfl | rfl | rfl | rfl | rfl | rfl | rfl | rfl | rfl <;> decide
theorem flat_no34 (l : List UInt8) : ∀ c ∈ l.flatMap quoteC, c ≠ 34 := by
  intro c hc
  obtain ⟨d, _, hd⟩ := List.mem_flatMap.1 hc
  have hdl := d.toNat_lt
  have hx : ∀ k : Nat, k < 16 → hexC k ≠ 34 := fun k hk e => by
    have h1 := hexC_nat k hk
    rw [e] at h1
    have h2 : (34 : UInt8).toNat = 34 := rfl
    rw [h2] at h1
    split at h1 <;> omega
  unfold quoteC at hd
  split at hd
  · rename_i hp
    rw [List.mem_singleton] at hd
    subst hd
    intro e
    rw [e] at hp
    exact absurd hp (by decide)
  · simp only [List.mem_cons, List.not_mem_nil, or_false] at hd
    rcases hd with rfl | rfl | rfl
    · decide
    · exact hx _ (by omega)
    · exact hx _ (by omega)
theorem quote_ok (l : List UInt8) : WordOk (quoteOf l) := .inr ⟨l.flatMap quoteC, rfl, flat_no34 l⟩
theorem dd_chars (n : Nat) : ∀ c ∈ Lib.decDigits n, c ≠ 32 ∧ c ≠ 34 := by
  intro c hc
  have h := List.all_eq_true.1 (dd_all n) c hc
  refine ⟨fun e => ?_, fun e => ?_⟩ <;> (rw [e] at h; exact absurd h (by decide))
theorem itoa_chars (e : Int) : ∀ c ∈ Lib.itoa e, c ≠ 32 ∧ c ≠ 34 := by
  unfold Lib.itoa
  split
  · intro c hc
    rcases List.mem_cons.1 hc with rfl | hc
    · decide
    · exact dd_chars _ c hc
  · exact dd_chars _
theorem print_ok (x : UInt64) : WordOk (printOf x) := by
  left
  rcases parse_ok (parse_print x) with h1 | h1 | h1 | h1 | h1 | ⟨neg, m, e, hr, _, h1, _⟩
  · rw [h1.1]; decide
  · rw [h1.1]; decide
  · rw [h1.1]; decide
  · rw [h1.1]; decide
  · rw [h1.1]; decide
  · rw [h1]
    unfold txt
    refine ⟨by cases neg <;> simp, fun c hc => ?_⟩
    rcases List.mem_append.1 hc with hc | hc
    · cases neg with
      | true =>
        have : c = 45 := by simpa using hc
        subst this; decide
      | false => exact absurd hc (by simp)
    · rcases List.mem_append.1 hc with hc | hc
      · exact dd_chars _ c hc
      · rcases List.mem_cons.1 hc with rfl | hc
        · decide
        · exact itoa_chars _ c hc
theorem text_ok {k : Int} {x : UInt64} {s : List UInt8} (h : mayB k x s = true) : WordOk (textOf k x s) := by
  rcases may_kinds h with rfl | rfl | rfl
  · rw [text0 h]; exact .inl (by decide)
  · rw [text1 h]; exact print_ok x
  · rw [text2 h]; exact quote_ok s
theorem opW_ok {o : OpP} (hc : codeOk o.c = true) (hf : formO o = true) : ∀ w ∈ opW o, WordOk w := by
  obtain ⟨f1, f2, f3, f4⟩ := form_names hf
  intro w hw
  unfold opW at hw
  rcases List.mem_cons.1 hw with rfl | hw
  · exact wordX_ok hc
  · rcases names_cases o.c with hn | hn | hn
    · rw [if_neg (by omega), if_neg (by omega)] at hw; cases hw
    · rw [if_pos hn, List.mem_singleton] at hw
      rw [hw]; exact quote_ok _
    · rw [if_neg (by omega), if_pos hn, List.mem_singleton] at hw
      rw [hw]; exact text_ok (f3 hn)
theorem words_ok {p : List OpP} (h : ∀ o ∈ p, codeOk o.c = true ∧ formO o = true) : ∀ w ∈ p.flatMap opW, WordOk w := fun w hw => by
  obtain ⟨o, ho, hw⟩ := List.mem_flatMap.1 hw
  exact opW_ok (h o ho).1 (h o ho).2 w hw
/-- A program that may be comes back of its text. -/
theorem parse_printP {p : List OpP} (h : checkP p = 0) : parseP (printP p) = (0, p) := by
  have ha := chk_all (chk_of h).2
  unfold parseP printP
  rw [wm_join (words_ok ha)]
  simp only
  rw [pg_ops ha, if_neg (by simp), if_neg (by simpa using h)]
/-- What the chapter's example fixes. -/
def exP : List OpP := [⟨1, [97], Vl.nil⟩, ⟨4, [], ⟨1, 4607182418800017408, []⟩⟩, ⟨5, [], Vl.nil⟩, ⟨2, [97], Vl.nil⟩]
end Go.Proofs.YtalpbphfmelhhaaGreatDoor

/-! ### Plain laws of runs: what hangs on what is read, beginnings, two programs one behind the other, a need behind all. No walk. -/
namespace Go.Proofs.YtalpbphfmelhhaaGreatDoor
open Go.RowKit Go.Maps
set_option maxRecDepth 100000
/-! ### checks of programs one behind the other -/
def hgtP (p : List OpP) (h : Int) : Int := p.foldl (fun h o => h + giveC o.c - takeC o.c) h
theorem chk_front : ∀ {p q : List OpP} {h : Int}, chkGo (p ++ q) h = 0 → chkGo p h = 0
  | [], q, h, _ => rfl
  | o :: p, q, h, hz => by
    obtain ⟨c1, c2, c3, c4, c5⟩ := chk_cons hz
    show (if codeOk o.c = false then 7 else if formO o = false then 4 else if h < takeC o.c then 5 else if 16 < h + giveC o.c - takeC o.c then 2 else chkGo p (h + giveC o.c - takeC o.c)) = _
    rw [if_neg (by rw [c1]; simp), if_neg (by rw [c2]; simp), if_neg (by omega), if_neg (by omega)]
    exact chk_front c5
def nmF (a b : Int) (l : List (List UInt8)) (o : OpP) : List (List UInt8) := if (o.c = a ∨ o.c = b) ∧ keyB o.key = true then insK o.key l else l
theorem namedP_fold (a b : Int) (p : List OpP) : namedP a b p = p.foldl (nmF a b) [] := rfl
theorem insK_len (k : List UInt8) : ∀ l : List (List UInt8), l.length ≤ (insK k l).length
  | [] => by simp
  | y :: r => by
    unfold insK
    split
    · simp
    · split
      · simp
      · simp only [List.length_cons]; have := insK_len k r; omega
theorem nm_len (a b : Int) : ∀ (p : List OpP) (l : List (List UInt8)), l.length ≤ (p.foldl (nmF a b) l).length
  | [], l => by simp
  | o :: p, l => by
    rw [List.foldl_cons]
    refine Nat.le_trans ?_ (nm_len a b p _)
    unfold nmF
    split
    · exact insK_len _ _
    · exact Nat.le_refl _
theorem nm_mem (a b : Int) : ∀ (p : List OpP) (l : List (List UInt8)) (k : List UInt8), k ∈ p.foldl (nmF a b) l ↔ k ∈ l ∨ ∃ o ∈ p, (o.c = a ∨ o.c = b) ∧ keyB o.key = true ∧ o.key = k
  | [], l, k => by simp
  | o :: p, l, k => by
    rw [List.foldl_cons, nm_mem a b p]
    have h1 : k ∈ nmF a b l o ↔ k ∈ l ∨ ((o.c = a ∨ o.c = b) ∧ keyB o.key = true ∧ o.key = k) := by
      unfold nmF
      split
      · rename_i h
        rw [mem_insK]
        constructor
        · rintro (e | e)
          · exact .inr ⟨h.1, h.2, e.symm⟩
          · exact .inl e
        · rintro (e | e)
          · exact .inr e
          · exact .inl e.2.2.symm
      · rename_i h
        constructor
        · exact .inl
        · rintro (e | e)
          · exact e
          · exact absurd ⟨e.1, e.2.1⟩ h
    rw [h1]
    constructor
    · rintro ((e | e) | ⟨x, hx, e⟩)
      · exact .inl e
      · exact .inr ⟨o, by simp, e⟩
      · exact .inr ⟨x, by simp [hx], e⟩
    · rintro (e | ⟨x, hx, e⟩)
      · exact .inl (.inl e)
      · rcases List.mem_cons.1 hx with rfl | hx
        · exact .inl (.inr e)
        · exact .inr ⟨x, hx, e⟩
theorem named_mem {a b : Int} {p : List OpP} {k : List UInt8} : k ∈ namedP a b p ↔ ∃ o ∈ p, (o.c = a ∨ o.c = b) ∧ keyB o.key = true ∧ o.key = k := by
  rw [namedP_fold, nm_mem]; simp
theorem named_app (a b : Int) (p q : List OpP) : namedP a b (p ++ q) = q.foldl (nmF a b) (namedP a b p) := by
  rw [namedP_fold, List.foldl_append]; rfl
theorem named_len (a b : Int) (p q : List OpP) : (namedP a b p).length ≤ (namedP a b (p ++ q)).length := by rw [named_app]; exact nm_len a b q _
theorem named_sub {a b : Int} {p q : List OpP} {k : List UInt8} (h : k ∈ namedP a b p) : k ∈ namedP a b (p ++ q) := by
  obtain ⟨o, ho, h⟩ := named_mem.1 h
  exact named_mem.2 ⟨o, by simp [ho], h⟩
theorem named_sub2 {a b : Int} {p q : List OpP} {k : List UInt8} (h : k ∈ namedP a b q) : k ∈ namedP a b (p ++ q) := by
  obtain ⟨o, ho, h⟩ := named_mem.1 h
  exact named_mem.2 ⟨o, by simp [ho], h⟩
theorem check_parts {p : List OpP} (h : checkP p = 0) : p.length ≤ 40 ∧ chkGo p 0 = 0 ∧ (readsP p).length ≤ 16 ∧ (namesP p).length ≤ 16 := by
  obtain ⟨h1, h2⟩ := chk_of h
  unfold checkP at h
  rw [if_neg (by omega), if_neg (by simpa using h2)] at h
  split at h
  · cases h
  · rename_i h3; exact ⟨h1, h2, by omega, by omega⟩
theorem check_of {p : List OpP} (h1 : p.length ≤ 40) (h2 : chkGo p 0 = 0) (h3 : (readsP p).length ≤ 16) (h4 : (namesP p).length ≤ 16) : checkP p = 0 := by
  unfold checkP
  rw [if_neg (by omega), if_neg (by simpa using h2), if_neg (by omega)]
/-- A beginning of a program that may be may be. -/
theorem check_front {p q : List OpP} (h : checkP (p ++ q) = 0) : checkP p = 0 := by
  obtain ⟨h1, h2, h3, h4⟩ := check_parts h
  exact check_of (by rw [List.length_append] at h1; omega) (chk_front h2) (Nat.le_trans (named_len 1 1 p q) h3) (Nat.le_trans (named_len 2 3 p q) h4)
/-! ### runs -/
variable {sn : List SnP}
theorem run_app0 : ∀ {p : List OpP} (q : List OpP) {r : RS}, (runGo sn p r).2 = 0 → runGo sn (p ++ q) r = runGo sn q (runGo sn p r).1
  | [], q, r, _ => rfl
  | o :: p, q, r, h => by
    have e : ∀ l, runGo sn (o :: l) r = if (stepP sn o r).2 ≠ 0 then stepP sn o r else runGo sn l (stepP sn o r).1 := fun l => rfl
    rw [List.cons_append, e, e]
    rw [e] at h
    by_cases hz : (stepP sn o r).2 ≠ 0
    · rw [if_pos hz] at h; exact absurd h hz
    · rw [if_neg hz] at h ⊢
      rw [if_neg hz]
      exact run_app0 q h
theorem run_app1 : ∀ {p : List OpP} (q : List OpP) {r : RS}, (runGo sn p r).2 ≠ 0 → runGo sn (p ++ q) r = runGo sn p r
  | [], q, r, h => absurd rfl h
  | o :: p, q, r, h => by
    have e : ∀ l, runGo sn (o :: l) r = if (stepP sn o r).2 ≠ 0 then stepP sn o r else runGo sn l (stepP sn o r).1 := fun l => rfl
    rw [List.cons_append, e, e]
    rw [e] at h
    by_cases hz : (stepP sn o r).2 ≠ 0
    · rw [if_pos hz, if_pos hz]
    · rw [if_neg hz] at h ⊢
      rw [if_neg hz]
      exact run_app1 q h
theorem miss_sub {ks ms : List (List UInt8)} (h : ∀ k ∈ ks, k ∈ ms) (hm : missB sn ms = false) : missB sn ks = false := by
  unfold missB at hm ⊢
  rw [List.any_eq_false] at hm ⊢
  exact fun k hk => hm k (h k hk)
theorem bad_sub {ks ms : List (List UInt8)} (h : ∀ k ∈ ks, k ∈ ms) (hm : badB sn ms = false) : badB sn ks = false := by
  unfold badB at hm ⊢
  rw [List.any_eq_false] at hm ⊢
  exact fun k hk => hm k (h k hk)
theorem runW_err {p : List OpP} (h : runE p sn ≠ 0) : runW p sn = [] := by
  unfold runW
  rw [if_pos h]
theorem starts_of {p : List OpP} (hc : checkP p = 0) (h8 : runE p sn ≠ 8) (h4 : runE p sn ≠ 4) : Starts p sn := by
  unfold runE at h8 h4
  rw [if_neg (by rw [hc]; simp)] at h8 h4
  cases hm : missB sn (readsP p) with
  | true => rw [hm] at h8; exact absurd rfl h8
  | false =>
    rw [hm] at h4
    cases hb : badB sn (readsP p) with
    | true => rw [hb] at h4; exact absurd rfl h4
    | false => exact ⟨hc, hm, hb⟩
theorem run_check {p : List OpP} (h : runE p sn = 0) : checkP p = 0 := by
  unfold runE at h
  split at h
  · rename_i h1; exact absurd h h1
  · rename_i h1; simpa using h1
theorem starts_ok {p : List OpP} (h : runE p sn = 0) : Starts p sn := starts_of (run_check h) (by rw [h]; decide) (by rw [h]; decide)
theorem Starts.front {p q : List OpP} (h : Starts (p ++ q) sn) : Starts p sn := ⟨check_front h.c, miss_sub (fun _ => named_sub) h.m, bad_sub (fun _ => named_sub) h.b⟩
/-! ### ProgCuts -/
theorem cuts_run {p q : List OpP} (hc : checkP (p ++ q) = 0) (h8 : runE (p ++ q) sn ≠ 8) (h4 : runE (p ++ q) sn ≠ 4) : runE p sn = 0 ∨ runE p sn = runE (p ++ q) sn := by
  have h := starts_of hc h8 h4
  rw [h.e, h.front.e]
  by_cases hz : (runGo sn p ⟨[], []⟩).2 = 0
  · exact .inl hz
  · right; rw [run_app1 q hz]
/-! ### ProgNeeds -/
def pushN (x : UInt64) : OpP := ⟨4, [], ⟨1, x, []⟩⟩
def needN : OpP := ⟨13, [], Vl.nil⟩
/-! ### ProgReads -/
/-- Two lists tell the same of keys. -/
def AgreeK (ks : List (List UInt8)) (sn sn' : List SnP) : Prop := ∀ k ∈ ks, (sn.find? (fun s => s.key == k)).map (fun s => s.v) = (sn'.find? (fun s => s.key == k)).map (fun s => s.v)
theorem AgreeK.seen {ks : List (List UInt8)} {sn sn' : List SnP} (h : AgreeK ks sn sn') {k : List UInt8} (hk : k ∈ ks) : seenV sn k = seenV sn' k := by
  have := h k hk
  unfold seenV
  cases h1 : sn.find? (fun s => s.key == k) <;> cases h2 : sn'.find? (fun s => s.key == k) <;> rw [h1, h2] at this <;> simp at this ⊢
  exact this
theorem AgreeK.miss {ks : List (List UInt8)} {sn sn' : List SnP} (h : AgreeK ks sn sn') : missB sn ks = missB sn' ks := by
  unfold missB
  rw [Bool.eq_iff_iff, List.any_eq_true, List.any_eq_true]
  have e : ∀ k ∈ ks, (sn.find? (fun s => s.key == k)).isNone = (sn'.find? (fun s => s.key == k)).isNone := fun k hk => by
    have := h k hk
    cases h1 : sn.find? (fun s => s.key == k) <;> cases h2 : sn'.find? (fun s => s.key == k) <;> rw [h1, h2] at this <;> simp at this ⊢
  exact ⟨fun ⟨k, hk, hz⟩ => ⟨k, hk, by rw [← e k hk]; exact hz⟩, fun ⟨k, hk, hz⟩ => ⟨k, hk, by rw [e k hk]; exact hz⟩⟩
theorem AgreeK.bad {ks : List (List UInt8)} {sn sn' : List SnP} (h : AgreeK ks sn sn') : badB sn ks = badB sn' ks := by
  unfold badB
  rw [Bool.eq_iff_iff, List.any_eq_true, List.any_eq_true]
  exact ⟨fun ⟨k, hk, hz⟩ => ⟨k, hk, by rw [← h.seen hk]; exact hz⟩, fun ⟨k, hk, hz⟩ => ⟨k, hk, by rw [h.seen hk]; exact hz⟩⟩
theorem step_agree {sn sn' : List SnP} {o : OpP} {r : RS} (h : o.c = 1 → seenV sn o.key = seenV sn' o.key) : stepP sn o r = stepP sn' o r := by
  unfold stepP
  by_cases h1 : o.c = 1
  · rw [if_pos h1, if_pos h1]
    unfold getV
    rw [h h1]
  · rw [if_neg h1, if_neg h1]
theorem go_agree {sn sn' : List SnP} {ks : List (List UInt8)} (h : AgreeK ks sn sn') : ∀ {p : List OpP} {r : RS}, (∀ o ∈ p, o.c = 1 → o.key ∈ ks) → runGo sn p r = runGo sn' p r
  | [], r, _ => rfl
  | o :: p, r, hp => by
    have e := step_agree (r := r) (fun h1 => h.seen (hp o (by simp) h1))
    show (if (stepP sn o r).2 ≠ 0 then stepP sn o r else runGo sn p (stepP sn o r).1) = (if (stepP sn' o r).2 ≠ 0 then stepP sn' o r else runGo sn' p (stepP sn' o r).1)
    rw [e, go_agree h fun x hx => hp x (by simp [hx])]
theorem run_agree {sn sn' : List SnP} {p : List OpP} (h : AgreeK (readsP p) sn sn') : runE p sn = runE p sn' ∧ runW p sn = runW p sn' := by
  have he : checkP p = 0 → runGo sn p ⟨[], []⟩ = runGo sn' p ⟨[], []⟩ := fun hc => go_agree h fun o ho h1 => mem_reads ho h1 (form_get (chk_all (chk_of hc).2 o ho).2 h1)
  have hE : runE p sn = runE p sn' := by
    unfold runE
    by_cases hc : checkP p = 0
    · have hc' : ¬ checkP p ≠ 0 := by simpa using hc
      rw [if_neg hc', if_neg hc', h.miss, h.bad, he hc]
    · rw [if_pos hc, if_pos hc]
  refine ⟨hE, ?_⟩
  unfold runW
  rw [hE]
  by_cases hz : runE p sn' = 0
  · have hz' : ¬ runE p sn' ≠ 0 := by simpa using hz
    rw [if_neg hz', if_neg hz', he (by rw [← hE] at hz; exact run_check hz)]
  · rw [if_pos hz, if_pos hz]
/-- What lies on the stack and was written may be. -/
structure MayR (r : RS) : Prop where
  st : ∀ v ∈ r.st, Vl.may v = true
  wr : ∀ q ∈ r.wr, Vl.may q.2 = true
theorem may_num (x : UInt64) : (Vl.num x).may = true := may1_of9 (canon_canon x)
theorem may_nil : Vl.nil.may = true := may009
theorem may_ofB (b : Bool) : (Vl.ofB b).may = true := may_num _
theorem two_may {c : Int} {a b : Vl} (ha : a.may = true) (hb : b.may = true) : ∀ v ∈ (twoP c a b).1, Vl.may v = true := by
  unfold twoP
  intro v hv
  split at hv
  · rw [List.mem_singleton] at hv; rw [hv]; exact may_ofB _
  · split at hv
    · rw [List.mem_singleton] at hv; rw [hv]; exact may_ofB _
    · split at hv
      · simp only [List.mem_cons, List.not_mem_nil, or_false] at hv
        rcases hv with rfl | rfl <;> assumption
      · split at hv
        · cases hv
        · rw [List.mem_singleton] at hv; rw [hv]; exact may_num _
theorem put_may {w : List (List UInt8 × Vl)} {p : List UInt8 × Vl} (h : ∀ q ∈ w, Vl.may q.2 = true) (hp : p.2.may = true) : ∀ q ∈ putG p w, Vl.may q.2 = true := fun q hq => by
  rcases mem_putG.1 hq with rfl | hq
  · exact hp
  · exact h q hq.1
theorem getG_may {w : List (List UInt8 × Vl)} (h : ∀ q ∈ w, Vl.may q.2 = true) (k : List UInt8) (d : Vl) (hd : d.may = true) : ((getG k w).getD d).may = true := by
  cases hg : getG k w with
  | none => exact hd
  | some v => exact h _ (getG_some hg)
theorem step_may {o : OpP} {r : RS} (h : MayR r) (hs : o.c = 1 → (seenV sn o.key).may = true) (hv : o.c = 4 → o.v.may = true) : MayR (stepP sn o r).1 := by
  obtain ⟨st, wr⟩ := r
  obtain ⟨h1, h2⟩ := h
  dsimp only at h1 h2
  unfold stepP
  dsimp only
  split
  · rename_i hc
    refine ⟨fun v hv => ?_, h2⟩
    rcases List.mem_cons.1 hv with rfl | hv
    · exact getG_may h2 _ _ (hs hc)
    · exact h1 v hv
  · split
    · exact ⟨h1, put_may h2 may_nil⟩
    · split
      · rename_i hc
        refine ⟨fun v hv' => ?_, h2⟩
        rcases List.mem_cons.1 hv' with rfl | hv'
        · exact hv hc
        · exact h1 v hv'
      · cases st with
        | nil => exact ⟨h1, h2⟩
        | cons b t =>
          have hb := h1 b (by simp)
          have ht : ∀ v ∈ t, Vl.may v = true := fun v hv => h1 v (by simp [hv])
          dsimp only
          split
          · exact ⟨ht, put_may h2 hb⟩
          · split
            · split <;> exact ⟨ht, h2⟩
            · split
              · refine ⟨fun v hv => ?_, h2⟩
                rcases List.mem_cons.1 hv with rfl | hv
                · exact hb
                · exact h1 v hv
              · cases t with
                | nil => exact ⟨h1, h2⟩
                | cons a t =>
                  refine ⟨fun v hv => ?_, h2⟩
                  rcases List.mem_append.1 hv with hv | hv
                  · exact two_may (ht a (by simp)) hb v hv
                  · exact ht v (by simp [hv])
theorem step_srt {o : OpP} {r : RS} (h : SrtG r.wr) : SrtG (stepP sn o r).1.wr := by
  unfold stepP
  split
  · exact h
  · split
    · exact h.put
    · split
      · exact h
      · split
        · exact h
        · split
          · exact h.put
          · split
            · split <;> exact h
            · split
              · exact h
              · split <;> exact h
theorem step_names {o : OpP} {r : RS} (h : SrtG r.wr) (hf : formO o = true) (hz : (stepP sn o r).2 = 0) : (stepP sn o r).1.wr.map (fun q => q.1) = nmF 2 3 (r.wr.map fun q => q.1) o := by
  obtain ⟨f1, _, _, _⟩ := form_names hf
  unfold stepP at hz ⊢
  unfold nmF
  by_cases h1 : o.c = 1
  · rw [if_pos h1, if_neg (by omega)]
  · rw [if_neg h1] at hz ⊢
    by_cases h3 : o.c = 3
    · rw [if_pos h3, if_pos ⟨.inr h3, f1 (by rw [h3]; decide)⟩]
      exact putG_keys h _
    · rw [if_neg h3] at hz ⊢
      by_cases h4 : o.c = 4
      · rw [if_pos h4, if_neg (by omega)]
      · rw [if_neg h4] at hz ⊢
        cases hst : r.st with
        | nil => rw [hst] at hz; cases hz
        | cons b t =>
          rw [hst] at hz
          dsimp only at hz ⊢
          by_cases h2 : o.c = 2
          · rw [if_pos h2, if_pos ⟨.inl h2, f1 (by rw [h2]; decide)⟩]
            exact putG_keys h _
          · rw [if_neg h2] at hz ⊢
            rw [if_neg (show ¬ ((o.c = 2 ∨ o.c = 3) ∧ keyB o.key = true) from fun e => e.1.elim h2 h3)]
            split
            · split <;> rfl
            · split
              · rfl
              · split <;> rfl
theorem go_facts : ∀ {p : List OpP} {r : RS}, (∀ o ∈ p, formO o = true) → (∀ o ∈ p, o.c = 1 → (seenV sn o.key).may = true) → MayR r → SrtG r.wr →
    MayR (runGo sn p r).1 ∧ SrtG (runGo sn p r).1.wr ∧ ((runGo sn p r).2 = 0 → (runGo sn p r).1.wr.map (fun q => q.1) = p.foldl (nmF 2 3) (r.wr.map fun q => q.1))
  | [], r, _, _, hm, hs => ⟨hm, hs, fun _ => rfl⟩
  | o :: p, r, hf, hv, hm, hs => by
    have hfo := hf o (by simp)
    have hm1 : MayR (stepP sn o r).1 := step_may hm (hv o (by simp)) fun h4 => (form_names hfo).2.2.1 (by rw [h4]; decide)
    have hs1 : SrtG (stepP sn o r).1.wr := step_srt hs
    have e : runGo sn (o :: p) r = if (stepP sn o r).2 ≠ 0 then stepP sn o r else runGo sn p (stepP sn o r).1 := rfl
    rw [e]
    by_cases hz : (stepP sn o r).2 ≠ 0
    · rw [if_pos hz]; exact ⟨hm1, hs1, fun h => absurd h hz⟩
    · rw [if_neg hz]
      have hz : (stepP sn o r).2 = 0 := by simpa using hz
      obtain ⟨g1, g2, g3⟩ := go_facts (p := p) (fun x hx => hf x (by simp [hx])) (fun x hx => hv x (by simp [hx])) hm1 hs1
      refine ⟨g1, g2, fun h => ?_⟩
      rw [g3 h, step_names hs hfo hz]; rfl
/-- What a run writes rises, is named, may be. -/
theorem run_facts {p : List OpP} (h : runE p sn = 0) : SrtG (runW p sn) ∧ (runW p sn).map (fun q => q.1) = namesP p ∧ ∀ q ∈ runW p sn, Vl.may q.2 = true := by
  have hs := starts_ok h
  have h0 : (runGo sn p ⟨[], []⟩).2 = 0 := by rw [← hs.e]; exact h
  have ha := chk_all (chk_of hs.c).2
  have hb := hs.b
  unfold badB at hb
  rw [List.any_eq_false] at hb
  obtain ⟨g1, g2, g3⟩ := go_facts (sn := sn) (p := p) (r := ⟨[], []⟩) (fun o ho => (ha o ho).2) (fun o ho h1 => by
    have := hb _ (mem_reads ho h1 (form_get (ha o ho).2 h1)); simpa using this) ⟨fun v hv => (by cases hv), fun v hv => (by cases hv)⟩ SrtG.nil
  rw [hs.w, if_neg (by simpa using h0)]
  exact ⟨g2, g3 h0, g1.wr⟩
/-! ### ProgJoins -/
/-- Two lists of writes by rising keys as one; the second one's count. -/
def mergeW : List (List UInt8 × Vl) → List (List UInt8 × Vl) → List (List UInt8 × Vl)
  | [], b => b
  | a, [] => a
  | a :: r, b :: s => if bB a.1 b.1 then a :: mergeW r (b :: s) else if bB b.1 a.1 then b :: mergeW (a :: r) s else b :: mergeW r s
  termination_by a b => a.length + b.length
theorem mg_nil (b : List (List UInt8 × Vl)) : mergeW [] b = b := by rw [mergeW]
theorem mg_nil2 (a : List (List UInt8 × Vl)) : mergeW a [] = a := by
  cases a with
  | nil => rw [mergeW]
  | cons x r => rw [mergeW]; simp
theorem mg_cons (a b : List UInt8 × Vl) (r s : List (List UInt8 × Vl)) : mergeW (a :: r) (b :: s) = if bB a.1 b.1 then a :: mergeW r (b :: s) else if bB b.1 a.1 then b :: mergeW (a :: r) s else b :: mergeW r s := by rw [mergeW]
theorem mg_mem {k : List UInt8} {v : Vl} : ∀ (n : Nat) (a b : List (List UInt8 × Vl)), a.length + b.length ≤ n → SrtG a → SrtG b → ((k, v) ∈ mergeW a b ↔ (k, v) ∈ b ∨ ((k, v) ∈ a ∧ ∀ q ∈ b, q.1 ≠ k))
  | _, [], b, _, _, _ => by rw [mg_nil]; simp
  | _, a :: r, [], _, _, _ => by rw [mg_nil2]; simp
  | 0, a :: r, b :: s, h, _, _ => by simp at h
  | n + 1, a :: r, b :: s, h, ha, hb => by
    obtain ⟨a1, a2⟩ := List.pairwise_cons.1 ha
    obtain ⟨b1, b2⟩ := List.pairwise_cons.1 hb
    simp only [List.length_cons] at h
    rw [mg_cons]
    by_cases h1 : bB a.1 b.1 = true
    · rw [if_pos h1, List.mem_cons, mg_mem n r (b :: s) (by simp; omega) a2 hb]
      have hne : ∀ q ∈ b :: s, q.1 ≠ a.1 := fun q hq e => by
        rcases List.mem_cons.1 hq with rfl | hq
        · exact bB_ne h1 e.symm
        · exact bB_ne (bB_trans h1 (b1 q hq)) e.symm
      constructor
      · rintro (e | e | ⟨e1, e2⟩)
        · exact .inr ⟨by simp [e], fun q hq => by have := hne q hq; rw [← e] at this; exact this⟩
        · exact .inl e
        · exact .inr ⟨by simp [e1], e2⟩
      · rintro (e | ⟨e1, e2⟩)
        · exact .inr (.inl e)
        · rcases List.mem_cons.1 e1 with e | e
          · exact .inl e
          · exact .inr (.inr ⟨e, e2⟩)
    · rw [if_neg h1]
      by_cases h2 : bB b.1 a.1 = true
      · rw [if_pos h2, List.mem_cons, mg_mem n (a :: r) s (by simp; omega) ha b2]
        have hne : ∀ q ∈ a :: r, q.1 ≠ b.1 := fun q hq e => by
          rcases List.mem_cons.1 hq with rfl | hq
          · exact bB_ne h2 e.symm
          · exact bB_ne (bB_trans h2 (a1 q hq)) e.symm
        constructor
        · rintro (e | e | ⟨e1, e2⟩)
          · exact .inl (by simp [e])
          · exact .inl (by simp [e])
          · refine .inr ⟨e1, fun q hq => ?_⟩
            rcases List.mem_cons.1 hq with rfl | hq
            · exact fun e => hne _ e1 e.symm
            · exact e2 q hq
        · rintro (e | ⟨e1, e2⟩)
          · rcases List.mem_cons.1 e with e | e
            · exact .inl e
            · exact .inr (.inl e)
          · exact .inr (.inr ⟨e1, fun q hq => e2 q (by simp [hq])⟩)
      · rw [if_neg h2, List.mem_cons, mg_mem n r s (by omega) a2 b2]
        have hab : a.1 = b.1 := Classical.byContradiction fun e => (bB_total e).elim h1 h2
        constructor
        · rintro (e | e | ⟨e1, e2⟩)
          · exact .inl (by simp [e])
          · exact .inl (by simp [e])
          · refine .inr ⟨by simp [e1], fun q hq => ?_⟩
            rcases List.mem_cons.1 hq with rfl | hq
            · intro e
              have := a1 _ e1
              rw [hab, e, bB_irrefl] at this; cases this
            · exact e2 q hq
        · rintro (e | ⟨e1, e2⟩)
          · rcases List.mem_cons.1 e with e | e
            · exact .inl e
            · exact .inr (.inl e)
          · rcases List.mem_cons.1 e1 with e | e
            · exact absurd (by rw [← hab, ← e] : b.1 = k) (e2 b (by simp))
            · exact .inr (.inr ⟨e, fun q hq => e2 q (by simp [hq])⟩)
theorem mg_srt : ∀ (n : Nat) (a b : List (List UInt8 × Vl)), a.length + b.length ≤ n → SrtG a → SrtG b → SrtG (mergeW a b)
  | _, [], b, _, _, hb => by rw [mg_nil]; exact hb
  | _, a :: r, [], _, ha, _ => by rw [mg_nil2]; exact ha
  | 0, a :: r, b :: s, h, _, _ => by simp at h
  | n + 1, a :: r, b :: s, h, ha, hb => by
    obtain ⟨a1, a2⟩ := List.pairwise_cons.1 ha
    obtain ⟨b1, b2⟩ := List.pairwise_cons.1 hb
    simp only [List.length_cons] at h
    rw [mg_cons]
    by_cases h1 : bB a.1 b.1 = true
    · rw [if_pos h1]
      refine List.pairwise_cons.2 ⟨fun q hq => ?_, mg_srt n r (b :: s) (by simp; omega) a2 hb⟩
      rcases (mg_mem (k := q.1) (v := q.2) n r (b :: s) (by simp; omega) a2 hb).1 hq with e | e
      · rcases List.mem_cons.1 e with e | e
        · rw [show q = b from e]; exact h1
        · exact bB_trans h1 (b1 q e)
      · exact a1 q e.1
    · rw [if_neg h1]
      by_cases h2 : bB b.1 a.1 = true
      · rw [if_pos h2]
        refine List.pairwise_cons.2 ⟨fun q hq => ?_, mg_srt n (a :: r) s (by simp; omega) ha b2⟩
        rcases (mg_mem (k := q.1) (v := q.2) n (a :: r) s (by simp; omega) ha b2).1 hq with e | e
        · exact b1 q e
        · rcases List.mem_cons.1 e.1 with e | e
          · rw [show q = a from e]; exact h2
          · exact bB_trans h2 (a1 q e)
      · rw [if_neg h2]
        have hab : a.1 = b.1 := Classical.byContradiction fun e => (bB_total e).elim h1 h2
        refine List.pairwise_cons.2 ⟨fun q hq => ?_, mg_srt n r s (by omega) a2 b2⟩
        rcases (mg_mem (k := q.1) (v := q.2) n r s (by omega) a2 b2).1 hq with e | e
        · exact b1 q e
        · rw [← hab]; exact a1 q e.1
/-- A run with a stack beneath it, over what was written ahead of it. -/
structure SimJ (base : List Vl) (w0 : List (List UInt8 × Vl)) (big small : RS) : Prop where
  st : big.st = small.st ++ base
  get : ∀ k, getG k big.wr = match getG k small.wr with | some v => some v | none => getG k w0
  s1 : SrtG big.wr
  s2 : SrtG small.wr
theorem SimJ.put {base : List Vl} {w0 : List (List UInt8 × Vl)} {big small : RS} (h : SimJ base w0 big small) (p : List UInt8 × Vl) {st st' : List Vl} (hst : st = st' ++ base) : SimJ base w0 ⟨st, putG p big.wr⟩ ⟨st', putG p small.wr⟩ := by
  refine ⟨hst, fun k => ?_, h.s1.put, h.s2.put⟩
  dsimp only
  by_cases hk : k = p.1
  · subst hk
    rw [getG_put_same h.s1, getG_put_same h.s2]
  · rw [getG_put_other h.s1 hk, getG_put_other h.s2 hk, h.get]
theorem step_sim {sn sn' : List SnP} {base : List Vl} {w0 : List (List UInt8 × Vl)} {big small : RS} (h : SimJ base w0 big small) {o : OpP} (hc : codeOk o.c = true) (ht : takeC o.c ≤ (small.st.length : Int))
    (hs : o.c = 1 → ∀ k, seenV sn' k = (getG k w0).getD (seenV sn k)) : SimJ base w0 (stepP sn o big).1 (stepP sn' o small).1 ∧ (stepP sn o big).2 = (stepP sn' o small).2 := by
  obtain ⟨st, wr⟩ := small
  obtain ⟨st2, wr2⟩ := big
  have hst : st2 = st ++ base := h.st
  subst hst
  unfold stepP
  dsimp only at ht ⊢
  by_cases h1 : o.c = 1
  · rw [if_pos h1, if_pos h1]
    refine ⟨⟨?_, h.get, h.s1, h.s2⟩, rfl⟩
    have hg : getV sn ⟨st ++ base, wr2⟩ o.key = getV sn' ⟨st, wr⟩ o.key := by
      unfold getV
      dsimp only
      have := h.get o.key
      dsimp only at this
      rw [this, hs h1]
      cases getG o.key wr with
      | none => rfl
      | some v => rfl
    rw [hg]; rfl
  · rw [if_neg h1, if_neg h1]
    by_cases h3 : o.c = 3
    · rw [if_pos h3, if_pos h3]
      exact ⟨h.put _ rfl, rfl⟩
    · rw [if_neg h3, if_neg h3]
      by_cases h4 : o.c = 4
      · rw [if_pos h4, if_pos h4]
        exact ⟨⟨rfl, h.get, h.s1, h.s2⟩, rfl⟩
      · rw [if_neg h4, if_neg h4]
        cases st with
        | nil =>
          have : 1 ≤ takeC o.c := by unfold takeC; rw [if_neg (by omega)]; split <;> omega
          simp at ht; omega
        | cons b t =>
          rw [List.cons_append]
          dsimp only
          by_cases h2 : o.c = 2
          · rw [if_pos h2, if_pos h2]
            exact ⟨h.put _ rfl, rfl⟩
          · rw [if_neg h2, if_neg h2]
            by_cases h13 : o.c = 13
            · rw [if_pos h13, if_pos h13]
              cases holdsB b with
              | true => exact ⟨⟨rfl, h.get, h.s1, h.s2⟩, rfl⟩
              | false => exact ⟨⟨rfl, h.get, h.s1, h.s2⟩, rfl⟩
            · rw [if_neg h13, if_neg h13]
              by_cases h14 : o.c = 14
              · rw [if_pos h14, if_pos h14]
                exact ⟨⟨rfl, h.get, h.s1, h.s2⟩, rfl⟩
              · rw [if_neg h14, if_neg h14]
                cases t with
                | nil =>
                  rw [take_two hc h1 h2 h3 h4 h13 h14] at ht
                  simp at ht
                | cons a t =>
                  rw [List.cons_append]
                  dsimp only
                  exact ⟨⟨by simp, h.get, h.s1, h.s2⟩, rfl⟩
theorem go_sim {sn sn' : List SnP} {base : List Vl} {w0 : List (List UInt8 × Vl)} (hs : ∀ k, seenV sn' k = (getG k w0).getD (seenV sn k)) : ∀ {q : List OpP} {big small : RS}, SimJ base w0 big small → chkGo q (small.st.length : Int) = 0 →
    SimJ base w0 (runGo sn q big).1 (runGo sn' q small).1 ∧ (runGo sn q big).2 = (runGo sn' q small).2
  | [], big, small, h, _ => ⟨h, rfl⟩
  | o :: q, big, small, h, hc => by
    obtain ⟨c1, c2, c3, c4, c5⟩ := chk_cons hc
    obtain ⟨s1, s2⟩ := step_sim (sn := sn) (sn' := sn') h c1 c3 (fun _ => hs)
    show SimJ base w0 (if (stepP sn o big).2 ≠ 0 then stepP sn o big else runGo sn q (stepP sn o big).1).1 (if (stepP sn' o small).2 ≠ 0 then stepP sn' o small else runGo sn' q (stepP sn' o small).1).1 ∧ (if (stepP sn o big).2 ≠ 0 then stepP sn o big else runGo sn q (stepP sn o big).1).2 = (if (stepP sn' o small).2 ≠ 0 then stepP sn' o small else runGo sn' q (stepP sn' o small).1).2
    rw [s2]
    by_cases hz : (stepP sn' o small).2 ≠ 0
    · rw [if_pos hz, if_pos hz]; exact ⟨s1, s2⟩
    · rw [if_neg hz, if_neg hz]
      have hz0 : (stepP sn' o small).2 = 0 := by simpa using hz
      refine go_sim hs s1 ?_
      rw [step_height c1 hz0]; exact c5
def sawOf (w : List (List UInt8 × Vl)) : List SnP := w.map fun q => ⟨q.1, q.2, 0, 0, 0⟩
theorem saw_seen (w : List (List UInt8 × Vl)) (sn : List SnP) (k : List UInt8) : seenV (sawOf w ++ sn) k = (getG k w).getD (seenV sn k) := by
  unfold seenV sawOf getG
  rw [List.find?_append, List.find?_map]
  have e : ((fun s : SnP => s.key == k) ∘ fun q : List UInt8 × Vl => (⟨q.1, q.2, 0, 0, 0⟩ : SnP)) = fun q => q.1 == k := rfl
  rw [e]
  cases w.find? fun q => q.1 == k with
  | none => rfl
  | some q => rfl
theorem saw_find {w : List (List UInt8 × Vl)} {sn : List SnP} {k : List UInt8} (h : (sn.find? (fun s => s.key == k)).isNone = false) : ((sawOf w ++ sn).find? (fun s => s.key == k)).isNone = false := by
  rw [List.find?_append]
  cases h1 : (sawOf w).find? (fun s => s.key == k) with
  | none => exact h
  | some s => rfl
/-- Two programs one behind the other. -/
theorem joins_err {p q : List OpP} (h : Starts (p ++ q) sn) (he : runE p sn ≠ 0) : runE (p ++ q) sn = runE p sn ∧ runW (p ++ q) sn = [] := by
  have hp := h.front
  have he' := he
  rw [hp.e] at he'
  have e : runE (p ++ q) sn = runE p sn := by rw [h.e, hp.e, run_app1 q he']
  exact ⟨e, runW_err (by rw [e]; exact he)⟩
theorem joins_run {p q : List OpP} (h : Starts (p ++ q) sn) (hq : checkP q = 0) (he : runE p sn = 0) :
    runE (p ++ q) sn = runE q (sawOf (runW p sn) ++ sn) ∧ (runE q (sawOf (runW p sn) ++ sn) = 0 → runW (p ++ q) sn = mergeW (runW p sn) (runW q (sawOf (runW p sn) ++ sn))) := by
  have hp := h.front
  obtain ⟨f1, f2, f3⟩ := run_facts he
  have h0 : (runGo sn p ⟨[], []⟩).2 = 0 := by rw [← hp.e]; exact he
  have hw : runW p sn = (runGo sn p ⟨[], []⟩).1.wr := by rw [hp.w, if_neg (by simpa using h0)]
  obtain ⟨w0, hw0⟩ : ∃ w0, runW p sn = w0 := ⟨_, rfl⟩
  rw [hw0] at f1 f3 hw ⊢
  have hm := h.m
  have hb := h.b
  unfold missB at hm
  unfold badB at hb
  rw [List.any_eq_false] at hm hb
  have hsq : Starts q (sawOf w0 ++ sn) := by
    refine ⟨hq, ?_, ?_⟩
    · unfold missB
      rw [List.any_eq_false]
      intro k hk
      have := hm k (named_sub2 hk)
      rw [saw_find (by simpa using this)]; simp
    · unfold badB
      rw [List.any_eq_false]
      intro k hk
      have := hb k (named_sub2 hk)
      rw [saw_seen, getG_may f3 _ _ (by simpa using this)]; simp
  obtain ⟨s1, s2⟩ := go_sim (sn := sn) (sn' := sawOf w0 ++ sn) (base := (runGo sn p ⟨[], []⟩).1.st) (w0 := w0) (fun k => saw_seen w0 sn k) (q := q) (big := (runGo sn p ⟨[], []⟩).1) (small := ⟨[], []⟩)
    ⟨rfl, fun k => by rw [← hw]; rfl, by rw [← hw]; exact f1, SrtG.nil⟩ (chk_of hq).2
  have hE : runE (p ++ q) sn = runE q (sawOf w0 ++ sn) := by rw [h.e, run_app0 q h0, hsq.e]; exact s2
  refine ⟨hE, fun hz => ?_⟩
  have hz' := hz
  rw [hsq.e] at hz'
  rw [h.w, run_app0 q h0, s2, if_neg (by simpa using hz'), hsq.w, if_neg (by simpa using hz')]
  have g2 : SrtG (runGo (sawOf w0 ++ sn) q ⟨[], []⟩).1.wr := s1.s2
  refine SrtG.ext s1.s1 (mg_srt _ _ _ (Nat.le_refl _) f1 g2) fun ⟨k, v⟩ => ?_
  rw [mg_mem _ _ _ (Nat.le_refl _) f1 g2]
  have hg := s1.get k
  constructor
  · intro hm
    rw [getG_mem s1.s1 hm] at hg
    cases h1 : getG k (runGo (sawOf w0 ++ sn) q ⟨[], []⟩).1.wr with
    | some u =>
      rw [h1] at hg
      injection hg with hg
      rw [hg]
      exact .inl (getG_some h1)
    | none =>
      rw [h1] at hg
      exact .inr ⟨getG_some hg.symm, fun x hx => getG_none.1 h1 x hx⟩
  · rintro (hm | ⟨hm, hn⟩)
    · rw [getG_mem g2 hm] at hg
      exact getG_some hg
    · rw [getG_none.2 hn] at hg
      rw [getG_mem f1 hm] at hg
      exact getG_some hg
end Go.Proofs.YtalpbphfmelhhaaGreatDoor
