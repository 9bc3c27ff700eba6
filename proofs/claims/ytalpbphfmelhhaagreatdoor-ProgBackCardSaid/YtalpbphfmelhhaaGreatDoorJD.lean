/-
  Programs as texts (plain): words, steps; there and back. No walk.
  Plain laws of runs: what hangs on what is read, beginnings, two programs one behind the other, a need behind all. No walk.
-/
import Derived.Test.YtalpbphfmelhhaaGreatDoorHH
import Derived.Test.YtalpbphfmelhhaaGreatDoorD17
import Derived.Test.YtalpbphfmelhhaaGreatDoorHX
/-! ### Programs as texts (plain): words, steps; there and back. No walk. -/
namespace Go.Proofs.YtalpbphfmelhhaaGreatDoor
open Go.RowKit Go.Maps
set_option maxRecDepth 100000
/-! ### words -/
/-- The words of a text; m: 0 between words, 1 in a word, 2 in a quoted one, 3 behind one; c is the word up to here. -/
def wordsM : List UInt8 → Nat → List UInt8 → Option (List (List UInt8))
  | [], m, c => if m = 0 then some [] else if m = 2 then none else some [c]
  | x :: r, m, c =>
    if m = 0 then (if x = 32 then wordsM r 0 [] else if x = 34 then wordsM r 2 [34] else wordsM r 1 [x])
    else if m = 1 then (if x = 32 then (wordsM r 0 []).map (fun l => c :: l) else if x = 34 then none else wordsM r 1 (c ++ [x]))
    else if m = 2 then (if x = 34 then wordsM r 3 (c ++ [34]) else wordsM r 2 (c ++ [x]))
    else (if x = 32 then (wordsM r 0 []).map (fun l => c :: l) else none)
theorem wm_nil (m : Nat) (c : List UInt8) : wordsM [] m c = if m = 0 then some [] else if m = 2 then none else some [c] := by rw [wordsM]
theorem wm_0 (x : UInt8) (r c : List UInt8) : wordsM (x :: r) 0 c = if x = 32 then wordsM r 0 [] else if x = 34 then wordsM r 2 [34] else wordsM r 1 [x] := by rw [wordsM]; rfl
theorem wm_1 (x : UInt8) (r c : List UInt8) : wordsM (x :: r) 1 c = if x = 32 then (wordsM r 0 []).map (fun l => c :: l) else if x = 34 then none else wordsM r 1 (c ++ [x]) := by rw [wordsM]; rfl
theorem wm_2 (x : UInt8) (r c : List UInt8) : wordsM (x :: r) 2 c = if x = 34 then wordsM r 3 (c ++ [34]) else wordsM r 2 (c ++ [x]) := by rw [wordsM]; rfl
theorem wm_3 (x : UInt8) (r c : List UInt8) : wordsM (x :: r) 3 c = if x = 32 then (wordsM r 0 []).map (fun l => c :: l) else none := by rw [wordsM]; rfl
theorem wm_run1 : ∀ (w c r : List UInt8), (∀ x ∈ w, x ≠ 32 ∧ x ≠ 34) → wordsM (w ++ r) 1 c = wordsM r 1 (c ++ w)
  | [], c, r, _ => by simp
  | x :: w, c, r, h => by
    obtain ⟨h1, h2⟩ := h x (by simp)
    rw [List.cons_append, wm_1, if_neg h1, if_neg h2, wm_run1 w _ r fun y hy => h y (by simp [hy])]
    simp
theorem wm_run2 : ∀ (w c r : List UInt8), (∀ x ∈ w, x ≠ 34) → wordsM (w ++ r) 2 c = wordsM r 2 (c ++ w)
  | [], c, r, _ => by simp
  | x :: w, c, r, h => by
    have h1 := h x (by simp)
    rw [List.cons_append, wm_2, if_neg h1, wm_run2 w _ r fun y hy => h y (by simp [hy])]
    simp
/-- What can stand as one word. -/
def WordOk (w : List UInt8) : Prop := (w ≠ [] ∧ ∀ c ∈ w, c ≠ 32 ∧ c ≠ 34) ∨ ∃ b, w = 34 :: b ++ [34] ∧ ∀ c ∈ b, c ≠ 34
theorem wm_word {w : List UInt8} (h : WordOk w) (r : List UInt8) : wordsM (w ++ 32 :: r) 0 [] = (wordsM r 0 []).map (fun l => w :: l) := by
  rcases h with ⟨h1, h2⟩ | ⟨b, rfl, h2⟩
  · cases w with
    | nil => exact absurd rfl h1
    | cons x w =>
      obtain ⟨e1, e2⟩ := h2 x (by simp)
      rw [List.cons_append, wm_0, if_neg e1, if_neg e2, wm_run1 w _ _ fun y hy => h2 y (by simp [hy]), wm_1, if_pos rfl]
      rfl
  · have e : (34 :: b ++ [34]) ++ 32 :: r = 34 :: (b ++ (34 :: 32 :: r)) := by simp
    rw [e, wm_0, if_neg (by decide), if_pos rfl, wm_run2 b _ _ h2, wm_2, if_pos rfl, wm_3, if_pos rfl]
    rfl
theorem wm_last {w : List UInt8} (h : WordOk w) : wordsM w 0 [] = some [w] := by
  rcases h with ⟨h1, h2⟩ | ⟨b, rfl, h2⟩
  · cases w with
    | nil => exact absurd rfl h1
    | cons x w =>
      obtain ⟨e1, e2⟩ := h2 x (by simp)
      have := wm_run1 w [x] [] fun y hy => h2 y (by simp [hy])
      rw [List.append_nil] at this
      rw [wm_0, if_neg e1, if_neg e2, this, wm_nil]
      rfl
  · have e : (34 :: b ++ [34]) = 34 :: (b ++ [34]) := by simp
    rw [e, wm_0, if_neg (by decide), if_pos rfl, wm_run2 b _ _ h2, wm_2, if_pos rfl, wm_nil]
    rfl
/-- Words with one blank between them. -/
def joinW : List (List UInt8) → List UInt8
  | [] => []
  | [w] => w
  | w :: x :: r => w ++ 32 :: joinW (x :: r)
theorem joinW_cons (w x : List UInt8) (r : List (List UInt8)) : joinW (w :: x :: r) = w ++ 32 :: joinW (x :: r) := by rw [joinW]
theorem wm_join : ∀ {ws : List (List UInt8)}, (∀ w ∈ ws, WordOk w) → wordsM (joinW ws) 0 [] = some ws
  | [], _ => by rw [joinW, wm_nil]; rfl
  | [w], h => by rw [joinW]; exact wm_last (h w (by simp))
  | w :: x :: r, h => by
    rw [joinW, wm_word (h w (by simp)), wm_join fun y hy => h y (List.mem_cons_of_mem _ hy)]
    rfl
theorem wm_joinB : ∀ {ws : List (List UInt8)}, (∀ w ∈ ws, WordOk w) → wordsM (joinW ws ++ [32]) 0 [] = some ws
  | [], _ => by rw [joinW]; rfl
  | [w], h => by
    rw [joinW, wm_word (h w (by simp)), wm_nil]; rfl
  | w :: x :: r, h => by
    rw [joinW, List.append_assoc, List.cons_append, wm_word (h w (by simp)), wm_joinB fun y hy => h y (List.mem_cons_of_mem _ hy)]
    rfl
theorem wm_blanks (r : List UInt8) : wordsM (32 :: 32 :: r) 0 [] = wordsM r 0 [] := by rw [wm_0, if_pos rfl, wm_0, if_pos rfl]
/-! ### steps as words -/
def wordX (c : Int) : List UInt8 := if codeOk c then wordC c else [63]
def opW (o : OpP) : List (List UInt8) := wordX o.c :: (if namesC o.c = 1 then [quoteOf o.key] else if namesC o.c = 2 then [textOf o.v.k o.v.x o.v.s] else [])
def printP (p : List OpP) : List UInt8 := joinW (p.flatMap opW)
def codeW (w : List UInt8) : Int :=
  if w = wordC 1 then 1 else if w = wordC 2 then 2 else if w = wordC 3 then 3 else if w = wordC 4 then 4 else if w = wordC 5 then 5 else if w = wordC 6 then 6 else if w = wordC 7 then 7 else if w = wordC 8 then 8
  else if w = wordC 9 then 9 else if w = wordC 10 then 10 else if w = wordC 11 then 11 else if w = wordC 12 then 12 else if w = wordC 13 then 13 else if w = wordC 14 then 14 else if w = wordC 15 then 15 else 0
theorem code15 {c : Int} (h1 : 1 ≤ c) (h2 : c ≤ 15) : c = 1 ∨ c = 2 ∨ c = 3 ∨ c = 4 ∨ c = 5 ∨ c = 6 ∨ c = 7 ∨ c = 8 ∨ c = 9 ∨ c = 10 ∨ c = 11 ∨ c = 12 ∨ c = 13 ∨ c = 14 ∨ c = 15 := by omega
theorem codeW_of {c : Int} (h1 : 1 ≤ c) (h2 : c ≤ 15) : codeW (wordC c) = c := by
  rcases code15 h1 h2 with rfl | rfl | rfl | rfl | rfl | rfl | rfl | rfl | rfl | rfl | rfl | rfl | rfl | rfl | rfl <;> decide
theorem codeW_no {w : List UInt8} (h : ∀ c : Int, 1 ≤ c → c ≤ 15 → wordC c ≠ w) : codeW w = 0 := by
  have h' : ∀ c : Int, 1 ≤ c → c ≤ 15 → ¬ w = wordC c := fun c h1 h2 e => h c h1 h2 e.symm
  unfold codeW
  rw [if_neg (h' 1 (by decide) (by decide)), if_neg (h' 2 (by decide) (by decide)), if_neg (h' 3 (by decide) (by decide)), if_neg (h' 4 (by decide) (by decide)), if_neg (h' 5 (by decide) (by decide)), if_neg (h' 6 (by decide) (by decide)), if_neg (h' 7 (by decide) (by decide)), if_neg (h' 8 (by decide) (by decide)),
    if_neg (h' 9 (by decide) (by decide)), if_neg (h' 10 (by decide) (by decide)), if_neg (h' 11 (by decide) (by decide)), if_neg (h' 12 (by decide) (by decide)), if_neg (h' 13 (by decide) (by decide)), if_neg (h' 14 (by decide) (by decide)), if_neg (h' 15 (by decide) (by decide))]
theorem codeW_cases (w : List UInt8) : (codeW w = 0 ∧ ∀ c : Int, 1 ≤ c → c ≤ 15 → wordC c ≠ w) ∨ (1 ≤ codeW w ∧ codeW w ≤ 15 ∧ wordC (codeW w) = w) := by
  by_cases h : ∃ c : Int, 1 ≤ c ∧ c ≤ 15 ∧ wordC c = w
  · obtain ⟨c, h1, h2, rfl⟩ := h
    right
    rw [codeW_of h1 h2]
    exact ⟨h1, h2, rfl⟩
  · have h' : ∀ c : Int, 1 ≤ c → c ≤ 15 → wordC c ≠ w := fun c h1 h2 e => h ⟨c, h1, h2, e⟩
    exact .inl ⟨codeW_no h', h'⟩
/-- What a step of this code names, read. -/
noncomputable def nameP (c : Int) (x : List UInt8) : Int × OpP :=
  if namesC c = 2 then ((parseD x).e, ⟨c, [], ⟨(parseD x).k, (parseD x).x, (parseD x).s⟩⟩)
  else match unqOf x with
    | none => (4, ⟨c, [], Vl.nil⟩)
    | some t => if keyB t then (0, ⟨c, t, Vl.nil⟩) else (4, ⟨c, [], Vl.nil⟩)
/-- Steps ahead of what is read. -/
def preG (out : List OpP) (r : Int × List OpP) : Int × List OpP := (r.1, if r.1 = 0 then out ++ r.2 else [])
noncomputable def parseGo : List (List UInt8) → Int × List OpP
  | [] => (0, [])
  | w :: r =>
    if codeW w = 0 then (7, [])
    else if namesC (codeW w) = 0 then preG [⟨codeW w, [], Vl.nil⟩] (parseGo r)
    else match r with
      | [] => (5, [])
      | x :: t => if (nameP (codeW w) x).1 ≠ 0 then ((nameP (codeW w) x).1, []) else preG [(nameP (codeW w) x).2] (parseGo t)
theorem pg_bad {w : List UInt8} (r : List (List UInt8)) (h : codeW w = 0) : parseGo (w :: r) = (7, []) := by rw [parseGo.eq_def]; dsimp only; rw [if_pos h]
theorem pg_bare {w : List UInt8} (r : List (List UInt8)) (h : codeW w ≠ 0) (hn : namesC (codeW w) = 0) : parseGo (w :: r) = preG [⟨codeW w, [], Vl.nil⟩] (parseGo r) := by rw [parseGo.eq_def]; dsimp only; rw [if_neg h, if_pos hn]
theorem pg_short {w : List UInt8} (h : codeW w ≠ 0) (hn : namesC (codeW w) ≠ 0) : parseGo [w] = (5, []) := by rw [parseGo, if_neg h, if_neg hn]
theorem pg_name {w : List UInt8} (x : List UInt8) (r : List (List UInt8)) (h : codeW w ≠ 0) (hn : namesC (codeW w) ≠ 0) : parseGo (w :: x :: r) = if (nameP (codeW w) x).1 ≠ 0 then ((nameP (codeW w) x).1, []) else preG [(nameP (codeW w) x).2] (parseGo r) := by rw [parseGo, if_neg h, if_neg hn]
theorem preG_nil {r : Int × List OpP} (h : r.1 ≠ 0 → r.2 = []) : preG [] r = r := by
  unfold preG
  by_cases h0 : r.1 = 0
  · rw [if_pos h0]; rfl
  · rw [if_neg h0, ← h h0]
theorem preG_preG (a b : List OpP) (r : Int × List OpP) : preG a (preG b r) = preG (a ++ b) r := by
  unfold preG
  by_cases h0 : r.1 = 0
  · simp [h0]
  · simp [h0]
theorem pg_err : ∀ {ws : List (List UInt8)}, (parseGo ws).1 ≠ 0 → (parseGo ws).2 = []
  | [], h => absurd (by rw [parseGo]) h
  | w :: r, h => by
    by_cases h0 : codeW w = 0
    · rw [pg_bad r h0]
    · by_cases hn : namesC (codeW w) = 0
      · rw [pg_bare r h0 hn] at h ⊢
        exact if_neg h
      · cases r with
        | nil => rw [pg_short h0 hn]
        | cons x t =>
          rw [pg_name x t h0 hn] at h ⊢
          split
          · rfl
          · rename_i he
            rw [if_neg he] at h
            exact if_neg h
noncomputable def parseP (s : List UInt8) : Int × List OpP :=
  match wordsM s 0 [] with
  | none => (4, [])
  | some ws => if (parseGo ws).1 ≠ 0 then ((parseGo ws).1, []) else if checkP (parseGo ws).2 ≠ 0 then (checkP (parseGo ws).2, []) else (0, (parseGo ws).2)
theorem parseP_err {s : List UInt8} (h : (parseP s).1 ≠ 0) : (parseP s).2 = [] := by
  unfold parseP at h ⊢
  cases hw : wordsM s 0 [] with
  | none => rfl
  | some ws =>
    rw [hw] at h
    simp only at h ⊢
    split
    · rfl
    · split
      · rfl
      · rename_i h1 h2
        rw [if_neg h1, if_neg h2] at h
        exact absurd rfl h
theorem parseP_ok {s : List UInt8} (h : (parseP s).1 = 0) : checkP (parseP s).2 = 0 := by
  unfold parseP at h ⊢
  cases hw : wordsM s 0 [] with
  | none => rw [hw] at h; exact absurd h (by decide)
  | some ws =>
    rw [hw] at h
    simp only at h ⊢
    by_cases h1 : (parseGo ws).1 ≠ 0
    · rw [if_pos h1] at h; exact absurd h h1
    · rw [if_neg h1] at h ⊢
      by_cases h2 : checkP (parseGo ws).2 ≠ 0
      · rw [if_pos h2] at h; exact absurd h h2
      · rw [if_neg h2]; simpa using h2
/-! ### there and back -/
theorem may009 : mayB 0 0 [] = true := by decide
theorem may1_of9 {z : UInt64} (h : canon z = z) : mayB 1 z [] = true := by
  unfold mayB; rw [if_neg (by decide), if_pos rfl, h]; simp
/-- A value that may be comes back of its text. -/
theorem text_parse9 {k : Int} {x : UInt64} {s : List UInt8} (h : mayB k x s = true) : parseD (textOf k x s) = ⟨k, x, s, 0⟩ := by
  rcases may_kinds h with rfl | rfl | rfl
  · obtain ⟨rfl, rfl⟩ := may0 h
    rw [text0 h]
    unfold parseD
    rw [if_neg (by decide), if_pos rfl]
  · obtain ⟨rfl, hc⟩ := may_one h
    rw [text1 h]
    unfold parseD
    rw [if_neg (fun hh => print_not34 x hh.2), if_neg (print_notNone x), parse_print, if_pos rfl]
    simp only
    rw [canon_canon, ← hc]
  · obtain ⟨rfl, hl⟩ := may_two h
    rw [text2 h]
    unfold parseD
    rw [if_pos ⟨by have := quoteOf_len s; omega, quoteOf_head s⟩, unq_some]
    simp only
    rw [if_neg (by omega)]
theorem form_names {o : OpP} (hf : formO o = true) : (namesC o.c = 1 → keyB o.key = true) ∧ (namesC o.c ≠ 1 → o.key = []) ∧ (namesC o.c = 2 → o.v.may = true) ∧ (namesC o.c ≠ 2 → o.v = Vl.nil) := by
  unfold formO at hf
  rw [Bool.and_eq_true] at hf
  obtain ⟨h1, h2⟩ := hf
  refine ⟨fun e => ?_, fun e => ?_, fun e => ?_, fun e => ?_⟩
  · rw [if_pos e] at h1; exact h1
  · rw [if_neg e] at h1; simpa using h1
  · rw [if_pos e] at h2; exact h2
  · rw [if_neg e, Bool.and_eq_true, decide_eq_true_eq] at h2
    obtain ⟨⟨k, x, s⟩, h3⟩ : ∃ v, o.v = v := ⟨_, rfl⟩
    rw [h3] at h2 ⊢
    obtain ⟨ha, hb⟩ := h2
    have hb' : k = 0 := hb
    subst hb'
    obtain ⟨rfl, rfl⟩ := may0 ha
    rfl
theorem names_cases (c : Int) : namesC c = 0 ∨ namesC c = 1 ∨ namesC c = 2 := by unfold namesC; split <;> (try split) <;> simp
theorem pg_op {o : OpP} (hc : codeOk o.c = true) (hf : formO o = true) (r : List (List UInt8)) : parseGo (opW o ++ r) = preG [o] (parseGo r) := by
  obtain ⟨c1, c2⟩ := codeOk_iff hc
  have hw : codeW (wordX o.c) = o.c := by unfold wordX; rw [if_pos hc]; exact codeW_of c1 c2
  have h0 : codeW (wordX o.c) ≠ 0 := by rw [hw]; omega
  obtain ⟨f1, f2, f3, f4⟩ := form_names hf
  obtain ⟨c, key, v⟩ := o
  dsimp only at *
  unfold opW
  dsimp only
  rcases names_cases c with hn | hn | hn
  · rw [if_neg (by omega), if_neg (by omega), List.cons_append, List.nil_append, pg_bare r h0 (by rw [hw]; exact hn), hw, f2 (by omega), f4 (by omega)]
  · rw [if_pos hn, List.cons_append, List.cons_append, List.nil_append, pg_name _ r h0 (by rw [hw]; omega), hw]
    have hnm : nameP c (quoteOf key) = (0, ⟨c, key, Vl.nil⟩) := by
      unfold nameP
      rw [if_neg (by omega), unq_some]
      simp only
      rw [if_pos (f1 hn)]
    rw [hnm, if_neg (by simp), f4 (by omega)]
  · rw [if_neg (by omega), if_pos hn, List.cons_append, List.cons_append, List.nil_append, pg_name _ r h0 (by rw [hw]; omega), hw]
    have hm := f3 hn
    have hnm : nameP c (textOf v.k v.x v.s) = (0, ⟨c, [], v⟩) := by
      unfold nameP
      rw [if_pos hn, text_parse9 hm]
    rw [hnm, if_neg (by simp), f2 (by omega)]
theorem chk_all : ∀ {p : List OpP} {h : Int}, chkGo p h = 0 → ∀ o ∈ p, codeOk o.c = true ∧ formO o = true
  | [], _, _, o, ho => by cases ho
  | x :: r, h, hz, o, ho => by
    obtain ⟨c1, c2, c3, c4, c5⟩ := chk_cons hz
    rcases List.mem_cons.1 ho with rfl | ho
    · exact ⟨c1, c2⟩
    · exact chk_all c5 o ho
theorem pg_ops : ∀ {p : List OpP}, (∀ o ∈ p, codeOk o.c = true ∧ formO o = true) → parseGo (p.flatMap opW) = (0, p)
  | [], _ => by rw [List.flatMap_nil, parseGo]
  | o :: p, h => by
    obtain ⟨h1, h2⟩ := h o (by simp)
    rw [List.flatMap_cons, pg_op h1 h2, pg_ops fun x hx => h x (by simp [hx])]
    simp [preG]
theorem wordX_ok {c : Int} (h : codeOk c = true) : WordOk (wordX c) := by
  obtain ⟨h1, h2⟩ := codeOk_iff h
  unfold wordX
  rw [if_pos h]
  left
  rcases code15 h1 h2 with rfl | rfl | rfl | rfl | rfl | rfl | rfl | rfl | rfl | rfl | rfl | rfl | rfl | rfl | rfl <;> decide
theorem flat_no34 (l : List UInt8) : ∀ c ∈ l.flatMap quoteC, c ≠ 34 := by
  intro c hc
  obtain ⟨d, _, hd⟩ := List.mem_flatMap.1 hc
  have hdl := d.toNat_lt
  have hx : ∀ k : Nat, k < 16 → hexC k ≠ 34 := fun k hk e => by
    have h1 := hexC_nat k hk
    rw [e] at h1
    have h2 : (34 : UInt8).toNat = 34 := rfl
    rw [h2] at h1
    split at h1 <;> omega
  unfold quoteC at hd
  split at hd
  · rename_i hp
    rw [List.mem_singleton] at hd
    subst hd
    intro e
    rw [e] at hp
    exact absurd hp (by decide)
  · simp only [List.mem_cons, List.not_mem_nil, or_false] at hd
    rcases hd with rfl | rfl | rfl
    · decide
    · exact hx _ (by omega)
    · exact hx _ (by omega)
theorem quote_ok (l : List UInt8) : WordOk (quoteOf l) := .inr ⟨l.flatMap quoteC, rfl, flat_no34 l⟩
theorem dd_chars (n : Nat) : ∀ c ∈ Lib.decDigits n, c ≠ 32 ∧ c ≠ 34 := by
  intro c hc
  have h := List.all_eq_true.1 (dd_all n) c hc
  refine ⟨fun e => ?_, fun e => ?_⟩ <;> (rw [e] at h; exact absurd h (by decide))
theorem itoa_chars (e : Int) : ∀ c ∈ Lib.itoa e, c ≠ 32 ∧ c ≠ 34 := by
  unfold Lib.itoa
  split
  · intro c hc
    rcases List.mem_cons.1 hc with rfl | hc
    · decide
    · exact dd_chars _ c hc
  · exact dd_chars _
theorem print_ok (x : UInt64) : WordOk (printOf x) := by
  left
  rcases parse_ok (parse_print x) with h1 | h1 | h1 | h1 | h1 | ⟨neg, m, e, hr, _, h1, _⟩
  · rw [h1.1]; decide
  · rw [h1.1]; decide
  · rw [h1.1]; decide
  · rw [h1.1]; decide
  · rw [h1.1]; decide
  · rw [h1]
    unfold txt
    refine ⟨by cases neg <;> simp, fun c hc => ?_⟩
    rcases List.mem_append.1 hc with hc | hc
    · cases neg with
      | true =>
        have : c = 45 := by simpa using hc
        subst this; decide
      | false => exact absurd hc (by simp)
    · rcases List.mem_append.1 hc with hc | hc
      · exact dd_chars _ c hc
      · rcases List.mem_cons.1 hc with rfl | hc
        · decide
        · exact itoa_chars _ c hc
theorem text_ok {k : Int} {x : UInt64} {s : List UInt8} (h : mayB k x s = true) : WordOk (textOf k x s) := by
  rcases may_kinds h with rfl | rfl | rfl
  · rw [text0 h]; exact .inl (by decide)
  · rw [text1 h]; exact print_ok x
  · rw [text2 h]; exact quote_ok s
theorem opW_ok {o : OpP} (hc : codeOk o.c = true) (hf : formO o = true) : ∀ w ∈ opW o, WordOk w := by
  obtain ⟨f1, f2, f3, f4⟩ := form_names hf
  intro w hw
  unfold opW at hw
  rcases List.mem_cons.1 hw with rfl | hw
  · exact wordX_ok hc
  · rcases names_cases o.c with hn | hn | hn
    · rw [if_neg (by omega), if_neg (by omega)] at hw; cases hw
    · rw [if_pos hn, List.mem_singleton] at hw
      rw [hw]; exact quote_ok _
    · rw [if_neg (by omega), if_pos hn, List.mem_singleton] at hw
      rw [hw]; exact text_ok (f3 hn)
theorem words_ok {p : List OpP} (h : ∀ o ∈ p, codeOk o.c = true ∧ formO o = true) : ∀ w ∈ p.flatMap opW, WordOk w := fun w hw => by
  obtain ⟨o, ho, hw⟩ := List.mem_flatMap.1 hw
  exact opW_ok (h o ho).1 (h o ho).2 w hw
/-- A program that may be comes back of its text. -/
theorem parse_printP {p : List OpP} (h : checkP p = 0) : parseP (printP p) = (0, p) := by
  have ha := chk_all (chk_of h).2
  unfold parseP printP
  rw [wm_join (words_ok ha)]
  simp only
  rw [pg_ops ha, if_neg (by simp), if_neg (by simpa using h)]
theorem parse_blanks {p : List OpP} (h : checkP p = 0) : parseP (32 :: 32 :: (printP p ++ [32])) = (0, p) := by
  have ha := chk_all (chk_of h).2
  unfold parseP printP
  rw [wm_blanks, wm_joinB (words_ok ha)]
  simp only
  rw [pg_ops ha, if_neg (by simp), if_neg (by simpa using h)]
/-- What the chapter's example fixes. -/
def exP : List OpP := [⟨1, [97], Vl.nil⟩, ⟨4, [], ⟨1, 4607182418800017408, []⟩⟩, ⟨5, [], Vl.nil⟩, ⟨2, [97], Vl.nil⟩]
end Go.Proofs.YtalpbphfmelhhaaGreatDoor

/-! ### Plain laws of runs: what hangs on what is read, beginnings, two programs one behind the other, a need behind all. No walk. -/
namespace Go.Proofs.YtalpbphfmelhhaaGreatDoor
open Go.RowKit Go.Maps
set_option maxRecDepth 100000
/-! ### checks of programs one behind the other -/
def hgtP (p : List OpP) (h : Int) : Int := p.foldl (fun h o => h + giveC o.c - takeC o.c) h
theorem chk_app : ∀ {p : List OpP} (q : List OpP) {h : Int}, chkGo p h = 0 → chkGo (p ++ q) h = chkGo q (hgtP p h)
  | [], q, h, _ => rfl
  | o :: p, q, h, hz => by
    obtain ⟨c1, c2, c3, c4, c5⟩ := chk_cons hz
    have e : chkGo (o :: p ++ q) h = chkGo (p ++ q) (h + giveC o.c - takeC o.c) := by
      rw [List.cons_append]
      show (if codeOk o.c = false then 7 else if formO o = false then 4 else if h < takeC o.c then 5 else if 16 < h + giveC o.c - takeC o.c then 2 else chkGo (p ++ q) (h + giveC o.c - takeC o.c)) = _
      rw [if_neg (by rw [c1]; simp), if_neg (by rw [c2]; simp), if_neg (by omega), if_neg (by omega)]
    rw [e, chk_app q c5]; rfl
def nmF (a b : Int) (l : List (List UInt8)) (o : OpP) : List (List UInt8) := if (o.c = a ∨ o.c = b) ∧ keyB o.key = true then insK o.key l else l
theorem namedP_fold (a b : Int) (p : List OpP) : namedP a b p = p.foldl (nmF a b) [] := rfl
theorem named_app (a b : Int) (p q : List OpP) : namedP a b (p ++ q) = q.foldl (nmF a b) (namedP a b p) := by
  rw [namedP_fold, List.foldl_append]; rfl
theorem check_parts {p : List OpP} (h : checkP p = 0) : p.length ≤ 40 ∧ chkGo p 0 = 0 ∧ (readsP p).length ≤ 16 ∧ (namesP p).length ≤ 16 := by
  obtain ⟨h1, h2⟩ := chk_of h
  unfold checkP at h
  rw [if_neg (by omega), if_neg (by simpa using h2)] at h
  split at h
  · cases h
  · rename_i h3; exact ⟨h1, h2, by omega, by omega⟩
/-! ### runs -/
variable {sn : List SnP}
theorem run_app0 : ∀ {p : List OpP} (q : List OpP) {r : RS}, (runGo sn p r).2 = 0 → runGo sn (p ++ q) r = runGo sn q (runGo sn p r).1
  | [], q, r, _ => rfl
  | o :: p, q, r, h => by
    have e : ∀ l, runGo sn (o :: l) r = if (stepP sn o r).2 ≠ 0 then stepP sn o r else runGo sn l (stepP sn o r).1 := fun l => rfl
    rw [List.cons_append, e, e]
    rw [e] at h
    by_cases hz : (stepP sn o r).2 ≠ 0
    · rw [if_pos hz] at h; exact absurd h hz
    · rw [if_neg hz] at h ⊢
      rw [if_neg hz]
      exact run_app0 q h
theorem runW_err {p : List OpP} (h : runE p sn ≠ 0) : runW p sn = [] := by
  unfold runW
  rw [if_pos h]
theorem starts_of {p : List OpP} (hc : checkP p = 0) (h8 : runE p sn ≠ 8) (h4 : runE p sn ≠ 4) : Starts p sn := by
  unfold runE at h8 h4
  rw [if_neg (by rw [hc]; simp)] at h8 h4
  cases hm : missB sn (readsP p) with
  | true => rw [hm] at h8; exact absurd rfl h8
  | false =>
    rw [hm] at h4
    cases hb : badB sn (readsP p) with
    | true => rw [hb] at h4; exact absurd rfl h4
    | false => exact ⟨hc, hm, hb⟩
theorem run_check {p : List OpP} (h : runE p sn = 0) : checkP p = 0 := by
  unfold runE at h
  split at h
  · rename_i h1; exact absurd h h1
  · rename_i h1; simpa using h1
theorem starts_ok {p : List OpP} (h : runE p sn = 0) : Starts p sn := starts_of (run_check h) (by rw [h]; decide) (by rw [h]; decide)
/-! ### ProgCuts -/
/-! ### ProgNeeds -/
def pushN (x : UInt64) : OpP := ⟨4, [], ⟨1, x, []⟩⟩
def needN : OpP := ⟨13, [], Vl.nil⟩
theorem needs_chk {x : UInt64} (hx : mayB 1 x [] = true) (h : Int) (h0 : 0 ≤ h) : chkGo [pushN x, needN] h = if 16 < h + 1 then 2 else 0 := by
  have f1 : formO (pushN x) = true := by
    show ((([] : List UInt8).isEmpty) && mayB 1 x []) = true
    rw [hx]; rfl
  show (if codeOk 4 = false then 7 else if formO (pushN x) = false then 4 else if h < takeC 4 then 5 else if 16 < h + giveC 4 - takeC 4 then 2 else chkGo [needN] (h + giveC 4 - takeC 4)) = _
  have e1 : giveC 4 = 1 := by decide
  have e2 : takeC 4 = 0 := by decide
  rw [if_neg (by decide), f1, if_neg (by simp), e1, e2, if_neg (by omega)]
  have e3 : h + 1 - 0 = h + 1 := by omega
  rw [e3]
  by_cases hb : 16 < h + 1
  · rw [if_pos hb, if_pos hb]
  · rw [if_neg hb, if_neg hb]
    show (if codeOk 13 = false then 7 else if formO needN = false then 4 else if h + 1 < takeC 13 then 5 else if 16 < h + 1 + giveC 13 - takeC 13 then 2 else 0) = _
    have e4 : giveC 13 = 0 := by decide
    have e5 : takeC 13 = 1 := by decide
    rw [if_neg (by decide), if_neg (by decide), e4, e5, if_neg (by omega), if_neg (by omega)]
theorem needs_named (x : UInt64) (a b : Int) (p : List OpP) (h4 : a ≠ 4 ∧ b ≠ 4) (h13 : a ≠ 13 ∧ b ≠ 13) : namedP a b (p ++ [pushN x, needN]) = namedP a b p := by
  rw [named_app]
  simp only [List.foldl_cons, List.foldl_nil]
  unfold nmF
  rw [if_neg, if_neg]
  · rintro ⟨h | h, _⟩
    · exact h4.1 h.symm
    · exact h4.2 h.symm
  · rintro ⟨h | h, _⟩
    · exact h13.1 h.symm
    · exact h13.2 h.symm
theorem hgt_nonneg : ∀ {p : List OpP} {h : Int}, 0 ≤ h → chkGo p h = 0 → 0 ≤ hgtP p h
  | [], h, h0, _ => h0
  | o :: p, h, h0, hz => by
    obtain ⟨c1, c2, c3, c4, c5⟩ := chk_cons hz
    obtain ⟨g1, g2⟩ := give_bd o.c
    exact hgt_nonneg (p := p) (h := h + giveC o.c - takeC o.c) (by omega) c5
theorem needs_check {x : UInt64} (hx : mayB 1 x [] = true) {p : List OpP} (hc : checkP p = 0) (hl : p.length ≤ 38) : checkP (p ++ [pushN x, needN]) = if 16 < hgtP p 0 + 1 then 2 else 0 := by
  obtain ⟨h1, h2, h3, h4⟩ := check_parts hc
  have e : chkGo (p ++ [pushN x, needN]) 0 = if 16 < hgtP p 0 + 1 then 2 else 0 := by rw [chk_app _ h2, needs_chk hx _ (hgt_nonneg (Int.le_refl _) h2)]
  have er : readsP (p ++ [pushN x, needN]) = readsP p := needs_named x 1 1 p (by decide) (by decide)
  have en : namesP (p ++ [pushN x, needN]) = namesP p := needs_named x 2 3 p (by decide) (by decide)
  have e40 : ¬ 40 < (p ++ [pushN x, needN]).length := by simp; omega
  unfold checkP
  rw [if_neg e40, e, er, en]
  by_cases hb : 16 < hgtP p 0 + 1
  · rw [if_pos hb, if_pos (by decide)]
  · rw [if_neg hb, if_neg (by decide), if_neg (by omega)]
theorem needs_run {x : UInt64} {p : List OpP} (_hx : mayB 1 x [] = true) (h : runE p sn = 0) (_hl : p.length ≤ 38) (hc : checkP (p ++ [pushN x, needN]) = 0) (b : Bool) (hb : holdsB ⟨1, x, []⟩ = b) :
    runE (p ++ [pushN x, needN]) sn = (if b then 0 else 22) ∧ runW (p ++ [pushN x, needN]) sn = (if b then runW p sn else []) := by
  have hs := starts_ok h
  have er : readsP (p ++ [pushN x, needN]) = readsP p := needs_named x 1 1 p (by decide) (by decide)
  have hs2 : Starts (p ++ [pushN x, needN]) sn := ⟨hc, by rw [er]; exact hs.m, by rw [er]; exact hs.b⟩
  have h0 : (runGo sn p ⟨[], []⟩).2 = 0 := by rw [← hs.e]; exact h
  have hgo : runGo sn (p ++ [pushN x, needN]) ⟨[], []⟩ = (⟨(runGo sn p ⟨[], []⟩).1.st, (runGo sn p ⟨[], []⟩).1.wr⟩, if b then 0 else 22) := by
    rw [run_app0 _ h0]
    obtain ⟨r, hr⟩ : ∃ r, (runGo sn p ⟨[], []⟩).1 = r := ⟨_, rfl⟩
    rw [hr]
    show (if (stepP sn (pushN x) r).2 ≠ 0 then stepP sn (pushN x) r else runGo sn [needN] (stepP sn (pushN x) r).1) = _
    have e1 : stepP sn (pushN x) r = (⟨⟨1, x, []⟩ :: r.st, r.wr⟩, 0) := by
      unfold stepP pushN
      dsimp only
      rw [if_neg (by decide), if_neg (by decide), if_pos rfl]
    rw [e1, if_neg (by simp)]
    show (if (stepP sn needN ⟨⟨1, x, []⟩ :: r.st, r.wr⟩).2 ≠ 0 then stepP sn needN ⟨⟨1, x, []⟩ :: r.st, r.wr⟩ else ((stepP sn needN ⟨⟨1, x, []⟩ :: r.st, r.wr⟩).1, 0)) = _
    have e2 : stepP sn needN ⟨⟨1, x, []⟩ :: r.st, r.wr⟩ = (⟨r.st, r.wr⟩, if b then 0 else 22) := by
      unfold stepP needN
      dsimp only
      rw [if_neg (by decide), if_neg (by decide), if_neg (by decide), if_neg (by decide), if_pos rfl, hb]
      cases b <;> rfl
    rw [e2]
    cases b <;> rfl
  have hE := hs2.e
  rw [hgo] at hE
  refine ⟨hE, ?_⟩
  rw [hs2.w, hgo, hs.w, h0]
  cases b <;> rfl
theorem holds_no : holdsB ⟨1, 0, []⟩ = false := by decide +kernel
theorem holds_yes : holdsB ⟨1, 4607182418800017408, []⟩ = true := by decide +kernel
/-! ### ProgReads -/
/-- Two lists tell the same of keys. -/
def AgreeK (ks : List (List UInt8)) (sn sn' : List SnP) : Prop := ∀ k ∈ ks, (sn.find? (fun s => s.key == k)).map (fun s => s.v) = (sn'.find? (fun s => s.key == k)).map (fun s => s.v)
theorem AgreeK.seen {ks : List (List UInt8)} {sn sn' : List SnP} (h : AgreeK ks sn sn') {k : List UInt8} (hk : k ∈ ks) : seenV sn k = seenV sn' k := by
  have := h k hk
  unfold seenV
  cases h1 : sn.find? (fun s => s.key == k) <;> cases h2 : sn'.find? (fun s => s.key == k) <;> rw [h1, h2] at this <;> simp at this ⊢
  exact this
theorem AgreeK.miss {ks : List (List UInt8)} {sn sn' : List SnP} (h : AgreeK ks sn sn') : missB sn ks = missB sn' ks := by
  unfold missB
  rw [Bool.eq_iff_iff, List.any_eq_true, List.any_eq_true]
  have e : ∀ k ∈ ks, (sn.find? (fun s => s.key == k)).isNone = (sn'.find? (fun s => s.key == k)).isNone := fun k hk => by
    have := h k hk
    cases h1 : sn.find? (fun s => s.key == k) <;> cases h2 : sn'.find? (fun s => s.key == k) <;> rw [h1, h2] at this <;> simp at this ⊢
  exact ⟨fun ⟨k, hk, hz⟩ => ⟨k, hk, by rw [← e k hk]; exact hz⟩, fun ⟨k, hk, hz⟩ => ⟨k, hk, by rw [e k hk]; exact hz⟩⟩
theorem AgreeK.bad {ks : List (List UInt8)} {sn sn' : List SnP} (h : AgreeK ks sn sn') : badB sn ks = badB sn' ks := by
  unfold badB
  rw [Bool.eq_iff_iff, List.any_eq_true, List.any_eq_true]
  exact ⟨fun ⟨k, hk, hz⟩ => ⟨k, hk, by rw [← h.seen hk]; exact hz⟩, fun ⟨k, hk, hz⟩ => ⟨k, hk, by rw [h.seen hk]; exact hz⟩⟩
/-- What lies on the stack and was written may be. -/
structure MayR (r : RS) : Prop where
  st : ∀ v ∈ r.st, Vl.may v = true
  wr : ∀ q ∈ r.wr, Vl.may q.2 = true
theorem may_num (x : UInt64) : (Vl.num x).may = true := may1_of9 (canon_canon x)
theorem may_nil : Vl.nil.may = true := may009
theorem may_ofB (b : Bool) : (Vl.ofB b).may = true := may_num _
theorem two_may {c : Int} {a b : Vl} (ha : a.may = true) (hb : b.may = true) : ∀ v ∈ (twoP c a b).1, Vl.may v = true := by
  unfold twoP
  intro v hv
  split at hv
  · rw [List.mem_singleton] at hv; rw [hv]; exact may_ofB _
  · split at hv
    · rw [List.mem_singleton] at hv; rw [hv]; exact may_ofB _
    · split at hv
      · simp only [List.mem_cons, List.not_mem_nil, or_false] at hv
        rcases hv with rfl | rfl <;> assumption
      · split at hv
        · cases hv
        · rw [List.mem_singleton] at hv; rw [hv]; exact may_num _
theorem put_may {w : List (List UInt8 × Vl)} {p : List UInt8 × Vl} (h : ∀ q ∈ w, Vl.may q.2 = true) (hp : p.2.may = true) : ∀ q ∈ putG p w, Vl.may q.2 = true := fun q hq => by
  rcases mem_putG.1 hq with rfl | hq
  · exact hp
  · exact h q hq.1
theorem getG_may {w : List (List UInt8 × Vl)} (h : ∀ q ∈ w, Vl.may q.2 = true) (k : List UInt8) (d : Vl) (hd : d.may = true) : ((getG k w).getD d).may = true := by
  cases hg : getG k w with
  | none => exact hd
  | some v => exact h _ (getG_some hg)
theorem step_may {o : OpP} {r : RS} (h : MayR r) (hs : o.c = 1 → (seenV sn o.key).may = true) (hv : o.c = 4 → o.v.may = true) : MayR (stepP sn o r).1 := by
  obtain ⟨st, wr⟩ := r
  obtain ⟨h1, h2⟩ := h
  dsimp only at h1 h2
  unfold stepP
  dsimp only
  split
  · rename_i hc
    refine ⟨fun v hv => ?_, h2⟩
    rcases List.mem_cons.1 hv with rfl | hv
    · exact getG_may h2 _ _ (hs hc)
    · exact h1 v hv
  · split
    · exact ⟨h1, put_may h2 may_nil⟩
    · split
      · rename_i hc
        refine ⟨fun v hv' => ?_, h2⟩
        rcases List.mem_cons.1 hv' with rfl | hv'
        · exact hv hc
        · exact h1 v hv'
      · cases st with
        | nil => exact ⟨h1, h2⟩
        | cons b t =>
          have hb := h1 b (by simp)
          have ht : ∀ v ∈ t, Vl.may v = true := fun v hv => h1 v (by simp [hv])
          dsimp only
          split
          · exact ⟨ht, put_may h2 hb⟩
          · split
            · split <;> exact ⟨ht, h2⟩
            · split
              · refine ⟨fun v hv => ?_, h2⟩
                rcases List.mem_cons.1 hv with rfl | hv
                · exact hb
                · exact h1 v hv
              · cases t with
                | nil => exact ⟨h1, h2⟩
                | cons a t =>
                  refine ⟨fun v hv => ?_, h2⟩
                  rcases List.mem_append.1 hv with hv | hv
                  · exact two_may (ht a (by simp)) hb v hv
                  · exact ht v (by simp [hv])
theorem step_srt {o : OpP} {r : RS} (h : SrtG r.wr) : SrtG (stepP sn o r).1.wr := by
  unfold stepP
  split
  · exact h
  · split
    · exact h.put
    · split
      · exact h
      · split
        · exact h
        · split
          · exact h.put
          · split
            · split <;> exact h
            · split
              · exact h
              · split <;> exact h
theorem step_names {o : OpP} {r : RS} (h : SrtG r.wr) (hf : formO o = true) (hz : (stepP sn o r).2 = 0) : (stepP sn o r).1.wr.map (fun q => q.1) = nmF 2 3 (r.wr.map fun q => q.1) o := by
  obtain ⟨f1, _, _, _⟩ := form_names hf
  unfold stepP at hz ⊢
  unfold nmF
  by_cases h1 : o.c = 1
  · rw [if_pos h1, if_neg (by omega)]
  · rw [if_neg h1] at hz ⊢
    by_cases h3 : o.c = 3
    · rw [if_pos h3, if_pos ⟨.inr h3, f1 (by rw [h3]; decide)⟩]
      exact putG_keys h _
    · rw [if_neg h3] at hz ⊢
      by_cases h4 : o.c = 4
      · rw [if_pos h4, if_neg (by omega)]
      · rw [if_neg h4] at hz ⊢
        cases hst : r.st with
        | nil => rw [hst] at hz; cases hz
        | cons b t =>
          rw [hst] at hz
          dsimp only at hz ⊢
          by_cases h2 : o.c = 2
          · rw [if_pos h2, if_pos ⟨.inl h2, f1 (by rw [h2]; decide)⟩]
            exact putG_keys h _
          · rw [if_neg h2] at hz ⊢
            rw [if_neg (show ¬ ((o.c = 2 ∨ o.c = 3) ∧ keyB o.key = true) from fun e => e.1.elim h2 h3)]
            split
            · split <;> rfl
            · split
              · rfl
              · split <;> rfl
theorem go_facts : ∀ {p : List OpP} {r : RS}, (∀ o ∈ p, formO o = true) → (∀ o ∈ p, o.c = 1 → (seenV sn o.key).may = true) → MayR r → SrtG r.wr →
    MayR (runGo sn p r).1 ∧ SrtG (runGo sn p r).1.wr ∧ ((runGo sn p r).2 = 0 → (runGo sn p r).1.wr.map (fun q => q.1) = p.foldl (nmF 2 3) (r.wr.map fun q => q.1))
  | [], r, _, _, hm, hs => ⟨hm, hs, fun _ => rfl⟩
  | o :: p, r, hf, hv, hm, hs => by
    have hfo := hf o (by simp)
    have hm1 : MayR (stepP sn o r).1 := step_may hm (hv o (by simp)) fun h4 => (form_names hfo).2.2.1 (by rw [h4]; decide)
    have hs1 : SrtG (stepP sn o r).1.wr := step_srt hs
    have e : runGo sn (o :: p) r = if (stepP sn o r).2 ≠ 0 then stepP sn o r else runGo sn p (stepP sn o r).1 := rfl
    rw [e]
    by_cases hz : (stepP sn o r).2 ≠ 0
    · rw [if_pos hz]; exact ⟨hm1, hs1, fun h => absurd h hz⟩
    · rw [if_neg hz]
      have hz : (stepP sn o r).2 = 0 := by simpa using hz
      obtain ⟨g1, g2, g3⟩ := go_facts (p := p) (fun x hx => hf x (by simp [hx])) (fun x hx => hv x (by simp [hx])) hm1 hs1
      refine ⟨g1, g2, fun h => ?_⟩
      rw [g3 h, step_names hs hfo hz]; rfl
/-- What a run writes rises, is named, may be. -/
theorem run_facts {p : List OpP} (h : runE p sn = 0) : SrtG (runW p sn) ∧ (runW p sn).map (fun q => q.1) = namesP p ∧ ∀ q ∈ runW p sn, Vl.may q.2 = true := by
  have hs := starts_ok h
  have h0 : (runGo sn p ⟨[], []⟩).2 = 0 := by rw [← hs.e]; exact h
  have ha := chk_all (chk_of hs.c).2
  have hb := hs.b
  unfold badB at hb
  rw [List.any_eq_false] at hb
  obtain ⟨g1, g2, g3⟩ := go_facts (sn := sn) (p := p) (r := ⟨[], []⟩) (fun o ho => (ha o ho).2) (fun o ho h1 => by
    have := hb _ (mem_reads ho h1 (form_get (ha o ho).2 h1)); simpa using this) ⟨fun v hv => (by cases hv), fun v hv => (by cases hv)⟩ SrtG.nil
  rw [hs.w, if_neg (by simpa using h0)]
  exact ⟨g2, g3 h0, g1.wr⟩
/-! ### ProgJoins -/
/-- Two lists of writes by rising keys as one; the second one's count. -/
def mergeW : List (List UInt8 × Vl) → List (List UInt8 × Vl) → List (List UInt8 × Vl)
  | [], b => b
  | a, [] => a
  | a :: r, b :: s => if bB a.1 b.1 then a :: mergeW r (b :: s) else if bB b.1 a.1 then b :: mergeW (a :: r) s else b :: mergeW r s
  termination_by a b => a.length + b.length
/-- A run with a stack beneath it, over what was written ahead of it. -/
structure SimJ (base : List Vl) (w0 : List (List UInt8 × Vl)) (big small : RS) : Prop where
  st : big.st = small.st ++ base
  get : ∀ k, getG k big.wr = match getG k small.wr with | some v => some v | none => getG k w0
  s1 : SrtG big.wr
  s2 : SrtG small.wr
theorem SimJ.put {base : List Vl} {w0 : List (List UInt8 × Vl)} {big small : RS} (h : SimJ base w0 big small) (p : List UInt8 × Vl) {st st' : List Vl} (hst : st = st' ++ base) : SimJ base w0 ⟨st, putG p big.wr⟩ ⟨st', putG p small.wr⟩ := by
  refine ⟨hst, fun k => ?_, h.s1.put, h.s2.put⟩
  dsimp only
  by_cases hk : k = p.1
  · subst hk
    rw [getG_put_same h.s1, getG_put_same h.s2]
  · rw [getG_put_other h.s1 hk, getG_put_other h.s2 hk, h.get]
def sawOf (w : List (List UInt8 × Vl)) : List SnP := w.map fun q => ⟨q.1, q.2, 0, 0, 0⟩
end Go.Proofs.YtalpbphfmelhhaaGreatDoor
