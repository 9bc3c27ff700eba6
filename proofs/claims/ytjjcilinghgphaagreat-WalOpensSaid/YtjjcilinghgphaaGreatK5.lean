/-
 Laws of this claim's own: a slice that the call owns and that may begin anywhere in its row (OwnO): append, cut from the front. No Go text in sight.
-/
import Derived.Test.YtjjcilinghgphaaGreatK3
import Derived.Deep.Upon
import Derived.ArgAppend
namespace Go.Proofs.YtjjcilinghgphaaGreat
open Go.RowKit

/-- A slice value owns these cells (one an element), wherever in its row it begins. -/
def OwnO (w : World) (e : TypeId) (v : Value) (n : Nat) (xs : List Value) : Prop :=
 xs.length = n ∧ ((v = .slice none 0 0 ∧ n = 0) ∨
  ∃ r off cap cur, v = .slice (some ⟨r, off, none⟩) n cap ∧ w.heap[r]? = some (.cells cur e (0, 0)) ∧ n ≤ cap ∧ cap ≤ maxLen ∧ off + cap ≤ cur.size ∧ (cur.toList.drop off).take n = xs)

theorem OwnO.nil (w : World) (e : TypeId) : OwnO w e (.slice none 0 0) 0 [] := ⟨rfl, .inl ⟨rfl, rfl⟩⟩
theorem OwnO.of_own {w : World} {base : Nat} {e : TypeId} {v : Value} {n : Nat} {xs : List Value} (h : w.ownsRow base e 1 v n xs) : OwnO w e v n xs := by
 obtain ⟨h1, h2⟩ := h
 refine ⟨by omega, ?_⟩
 rcases h2 with ⟨rfl, hl⟩ | ⟨g, cap, cur, rfl, hb, hg, hnc, hcm, hcs, ht⟩
 · exact .inl ⟨rfl, hl⟩
 · exact .inr ⟨g, 0, cap, cur, rfl, hg, hnc, hcm, by omega, by simpa [h1] using ht⟩
theorem OwnO.rd {w : World} {e : TypeId} {v : Value} {n : Nat} {xs : List Value} (h : OwnO w e v n xs) : ∃ a cap, v = .slice a n cap ∧ Rd w a n cap 1 xs := by
 obtain ⟨h1, h2⟩ := h
 rcases h2 with ⟨rfl, rfl⟩ | ⟨r, off, cap, cur, rfl, hg, hnc, hcm, hcs, ht⟩
 · rw [List.eq_nil_of_length_eq_zero h1]
   exact ⟨none, 0, rfl, Rd.nil _ _⟩
 · refine ⟨_, _, rfl, hnc, hcm, (fun h => by cases h), by omega, fun j u hj => ⟨r, off, rfl, ?_⟩⟩
   rw [cell_of_row w r (off + j) cur e (0, 0) hg]
   rw [← ht, List.getElem?_take] at hj
   split at hj
   · simpa [List.getElem?_drop] using hj
   · cases hj
theorem OwnO.keep {w w' : World} {e : TypeId} {v : Value} {n : Nat} {xs : List Value} (h : OwnO w e v n xs) (hb : ∀ k, v.ownBlock = some k → w'.heap[k]? = w.heap[k]?) : OwnO w' e v n xs := by
 obtain ⟨h1, h2⟩ := h
 refine ⟨h1, ?_⟩
 rcases h2 with h | ⟨r, off, cap, cur, rfl, hg, rest⟩
 · exact .inl h
 · exact .inr ⟨r, off, cap, cur, rfl, by rw [hb r rfl]; exact hg, rest⟩
theorem OwnO.lt {w : World} {e : TypeId} {v : Value} {n : Nat} {xs : List Value} (h : OwnO w e v n xs) : ∀ k, v.ownBlock = some k → k < w.heap.size ∧ ∃ cur, w.heap[k]? = some (.cells cur e (0, 0)) := by
 intro k hk
 obtain ⟨h1, h2⟩ := h
 rcases h2 with ⟨rfl, _⟩ | ⟨r, off, cap, cur, rfl, hg, rest⟩
 · simp [Value.ownBlock] at hk
 · simp [Value.ownBlock] at hk; subst hk; exact ⟨(Array.getElem?_eq_some_iff.1 hg).1, cur, hg⟩
theorem OwnO.len {w : World} {e : TypeId} {v : Value} {n : Nat} {xs : List Value} (h : OwnO w e v n xs) : n ≤ maxLen := by
 obtain ⟨a, cap, _, hr⟩ := h.rd
 exact Nat.le_trans hr.1 hr.2.1

/-- Cells written one behind another in a row that is known whole. -/
theorem setCells_row (b : Nat) (e : TypeId) : ∀ (vs : List Value) (o : Nat) (w : World) (cur : Array Value), w.heap[b]? = some (.cells cur e (0, 0)) → o + vs.length ≤ cur.size →
 (w.setCells b o vs).heap[b]? = some (.cells (cur.toList.take o ++ vs ++ cur.toList.drop (o + vs.length)).toArray e (0, 0))
 | [], o, w, cur, h, _ => by
  show w.heap[b]? = _
  rw [h]
  simp
 | v :: vs, o, w, cur, h, hl => by
  have hl' : o + 1 + vs.length ≤ cur.size := by simp at hl; omega
  have h1 : (w.setCell ⟨b, o, none⟩ v).heap[b]? = some (.cells (cur.setIfInBounds o v) e (0, 0)) := by
   rw [setCell_eq_setRow w b o cur e (0, 0) v h]
   exact setRow_heap w b cur _ e _ h
  have ih := setCells_row b e vs (o + 1) (w.setCell ⟨b, o, none⟩ v) (cur.setIfInBounds o v) h1 (by simpa using hl')
  show ((w.setCell ⟨b, o, none⟩ v).setCells b (o + 1) vs).heap[b]? = _
  rw [ih]
  congr 3
  have hlo : o < cur.toList.length := by simp; omega
  apply List.ext_getElem?
  intro j
  simp only [Array.toList_setIfInBounds]
  simp only [List.getElem?_append, List.getElem?_take, List.getElem?_drop, List.length_append, List.length_take, List.length_set, List.length_cons, List.getElem?_set, Array.length_toList]
  rcases Nat.lt_trichotomy j o with hj | hj | hj
  · rw [if_pos (by omega), if_pos (by omega), if_pos (by omega), if_neg (by omega), if_pos (by omega), if_pos (by omega), if_pos (by omega)]
  · subst hj
    rw [if_pos (by omega), if_pos (by omega), if_pos (by omega), if_pos rfl, if_pos (by omega), if_pos (by omega), if_neg (by omega), Nat.min_eq_left (by omega), Nat.sub_self]
    simp
  · by_cases hj2 : j < o + 1 + vs.length
    · rw [if_pos (by omega), if_neg (by omega), if_pos (by omega), if_neg (by omega), Nat.min_eq_left (by omega), Nat.min_eq_left (by omega)]
      rw [show j - o = (j - (o + 1)) + 1 by omega, List.getElem?_cons_succ]
    · rw [if_neg (by omega), if_neg (by omega), if_neg (by omega)]
      rw [Nat.min_eq_left (by omega), Nat.min_eq_left (by omega)]
      congr 1; omega
theorem size_setCells' (b : Nat) : ∀ (vs : List Value) (o : Nat) (w : World), (w.setCells b o vs).heap.size = w.heap.size
 | [], _, _ => rfl
 | v :: vs, o, w => by
  show ((w.setCell ⟨b, o, none⟩ v).setCells b (o + 1) vs).heap.size = _
  rw [size_setCells' b vs]; simp

theorem tape_setCells (b : Nat) : ∀ (vs : List Value) (o : Nat) (w : World), (w.setCells b o vs).tape = w.tape
 | [], _, _ => rfl
 | v :: vs, o, w => by
  show ((w.setCell ⟨b, o, none⟩ v).setCells b (o + 1) vs).tape = _
  rw [tape_setCells b vs]; simp

/-- append, in memory's terms. -/
theorem run_appO {P : Program} {t e : TypeId} {z : Value} {bytes : Nat} (S : STy P t e z 1 bytes) {w : World} {v : Value} {n : Nat} {xs : List Value} (hown : OwnO w e v n xs)
 {ad : Option Addr} {m c : Nat} {news : List Value} (hr : Rd w ad m c 1 news) (h1 : ∀ u ∈ news, u.oneCell' = true)
 (hbytes : (n + m) * bytes ≤ 140737488355328) (h63 : n + m ≤ maxLen) (ty : TypeId) :
 ∃ v' w', (Builtin.append_ #[t, t] ty #[v, .slice ad m c]).run P w = .ok v' w' ∧ OwnO w' e v' (n + m) (xs ++ news) ∧ w.grownBy w' v.ownBlock ∧ (v'.ownBlock = v.ownBlock ∨ v'.ownBlock = some w.heap.size) := by
 obtain ⟨i, hi0, hi1, hi2, hi3⟩ := S.info
 have hmx : maxLen = 9223372036854775807 := rfl
 obtain ⟨hxl, h⟩ := hown
 have hml : news.length = m := by have := hr.2.2.2.1; omega
 by_cases hm : m = 0
 · have hnil : news = [] := List.eq_nil_of_length_eq_zero (by omega)
   subst hnil
   subst hm
   refine ⟨v, w, ?_, ⟨by simpa using hxl, by simpa using h⟩, World.grownBy.refl _ _, .inl rfl⟩
   have hs : Src P i.size t (.slice ad 0 c) 0 [] w := by
    cases ad with
    | none => exact Src.ofNil w S.ht c
    | some a => exact Src.ofSlice w S.ht a 0 c [] (by simp) (by simp) (by simp)
   rcases h with ⟨rfl, rfl⟩ | ⟨r, off, cap, cur, rfl, hg, hnc, hcm, hcs, ht⟩
   · exact run_append_nothing w _ _ ty _ i S.ht hi0 none 0 0 (Nat.le_refl _) _ hs
   · exact run_append_nothing w _ _ ty _ i S.ht hi0 _ _ _ hnc _ hs
 · obtain ⟨b, off', rfl, hbl, hcell⟩ := hr.at (by omega)
   have hnews : ∀ j u, news[j]? = some u → w.cell? ((⟨b, off', none⟩ : Addr).add j) = some u := fun j u hj => by rw [Addr.add_none]; exact hcell j u hj
   rcases h with ⟨rfl, rfl⟩ | ⟨r, off, cap, cur, rfl, hg, hnc, hcm, hcs, ht⟩
   · have hx0 : xs = [] := List.eq_nil_of_length_eq_zero hxl
     subst hx0
     obtain ⟨v', w', h1', h2, h3, _, h5⟩ := run_append_own_at (P := P) w 0 t ty e i z 1 bytes S.ht hi0 hi1 hi2 hi3 S.zs (by decide) _ _ _ (World.ownsRow_nil w 0 e 1) ⟨b, off', none⟩ m c news (by omega) hnews h1 (by omega) (by omega) (Nat.zero_le _)
     exact ⟨v', w', h1', OwnO.of_own h2, h3, h5⟩
   · by_cases hroom : n + m ≤ cap
     · have hrun := run_append_room_cells (P := P) w t ty e i S.ht hi0 r off n cap ⟨b, off', none⟩ m c news (by rw [hi2]; omega) hnews h1 hroom
        (fun j hj => by rw [cell_of_row w r _ cur e (0, 0) hg, hi2, Nat.mul_one]; rw [Array.getElem?_eq_getElem (by omega)]; rfl)
        (fun j hj => by simp [World.frozen?, hg])
       rw [hi2, Nat.mul_one] at hrun
       refine ⟨_, _, hrun, ⟨by rw [List.length_append]; omega, .inr ⟨r, off, cap, _, rfl, setCells_row r e news (off + n) w cur hg (by omega), hroom, hcm, ?_, ?_⟩⟩, ⟨World.os_setCells w _ _ _, ?_, ?_, Nat.le_of_eq (size_setCells' _ _ _ _).symm, fun k hk hne => World.heap_setCells_other w r _ _ hk (fun e => hne (by simp [Value.ownBlock, e]))⟩, .inl rfl⟩
       · simp; omega
       · rw [← ht]
         apply List.ext_getElem?
         intro j
         simp only [List.getElem?_append, List.getElem?_take, List.getElem?_drop, List.length_append, List.length_take, List.length_drop, Array.length_toList]
         rw [Nat.min_eq_left (by omega : off + n ≤ cur.size), Nat.min_eq_left (by omega : n ≤ cur.size - off)]
         by_cases hj : j < n
         · rw [if_pos (by omega), if_pos (by omega), if_pos (by omega), if_pos (by omega), if_pos (by omega), if_pos (by omega)]
         · by_cases hj2 : j < n + m
           · rw [if_pos (by omega), if_pos (by omega), if_neg (by omega), if_neg (by omega)]
             congr 1; omega
           · rw [if_neg (by omega), if_neg (by omega), List.getElem?_eq_none (by omega)]
       · exact tape_setCells r news _ w
       · exact World.output_setCells w _ _ _
     · have holds : ∀ j u, xs[j]? = some u → w.cell? ((⟨r, off, none⟩ : Addr).add j) = some u := fun j u hj => by
        rw [Addr.add_none, cell_of_row w r (off + j) cur e (0, 0) hg]
        rw [← ht, List.getElem?_take] at hj
        split at hj
        · simpa [List.getElem?_drop] using hj
        · cases hj
       have hrun := run_append_grow (P := P) w t ty e i z S.ht hi0 hi1 ⟨r, off, none⟩ n cap xs (by rw [hi2]; omega) holds ⟨b, off', none⟩ m c news (by rw [hi2]; omega) hnews (by omega) (by omega) (growslice_fits (by omega) (by rw [hi3]; omega))
       have hge := grownCap_ge w (n + m) cap e
       have hgm := grownCap_le_maxLen w (n + m) cap e (by omega)
       refine ⟨_, _, hrun, ⟨by rw [List.length_append]; omega, .inr ⟨_, 0, _, _, rfl, heap_alloc_new w.drew _, hge, hgm, ?_, ?_⟩⟩, ⟨rfl, rfl, rfl, by simp, fun k hk _ => heap_alloc_old w.drew _ hk⟩, .inr rfl⟩
       · simp only [Array.size_append, List.size_toArray, size_zeroCells, S.zs]
         show _ ≤ _ + _ + _ * 1
         omega
       · simp only [Array.toList_append, List.append_assoc, List.drop_zero]
         rw [← List.append_assoc, List.take_left' (by rw [List.length_append]; omega)]

/-- The walk's own form. -/
theorem wpList_appO {P : Program} {t e : TypeId} {z : Value} {bytes : Nat} (S : STy P t e z 1 bytes) {w : World} {ops : Array Oper} {rest : List Oper} {o : Oper} {a : Act} {Q : Exit → Act → World → Prop}
 (hgd : o.guard = none) (s x : Operand) (ho : o.op = .call { callee := .builtin .append, args := #[s, x], argTypes := #[t, t] })
 {v : Value} {n : Nat} {xs : List Value} (hs : a.eval s = v) (hown : OwnO w e v n xs)
 {ad : Option Addr} {m c : Nat} {news : List Value} (hx : a.eval x = .slice ad m c) (hr : Rd w ad m c 1 news) (h1 : ∀ u ∈ news, u.oneCell' = true)
 (hbytes : (n + m) * bytes ≤ 140737488355328) (h63 : n + m ≤ maxLen)
 (hK : ∀ v' w', OwnO w' e v' (n + m) (xs ++ news) → w.grownBy w' v.ownBlock → (v'.ownBlock = v.ownBlock ∨ v'.ownBlock = some w.heap.size) → wpList P ops Q rest (a.put o.dst v') w') : wpList P ops Q (o :: rest) a w := by
 refine wpList_plain hgd fun K hK' => ?_
 obtain ⟨v', w', hrun, h2, h3, h5⟩ := run_appO S hown hr h1 hbytes h63 o.type
 unfold Oper.wp execOp
 simp only [ho, resolve, invoke, builtin, Sem.run_bind, Sem.run_pure, Result.andThen_ok, List.map_toArray, List.map_cons, List.map_nil, hs, hx, hrun]
 exact hK' _ _ (hK v' w' h2 h3 h5)
/-- In a drawn region. -/
theorem step_appO {P : Program} {t e : TypeId} {z : Value} {bytes : Nat} (S : STy P t e z 1 bytes) {w : World} {ops : Array Oper} {o : Oper} {a : Act} {K : Act → World → Prop} {Q : Exit → Act → World → Prop} {E : Prop}
 (hgd : o.guard = none) (s x : Operand) (ho : o.op = .call { callee := .builtin .append, args := #[s, x], argTypes := #[t, t] })
 {v : Value} {n : Nat} {xs : List Value} (hs : a.eval s = v) (hown : OwnO w e v n xs)
 {ad : Option Addr} {m c : Nat} {news : List Value} (hx : a.eval x = .slice ad m c) (hr : Rd w ad m c 1 news) (h1 : ∀ u ∈ news, u.oneCell' = true)
 (hbytes : (n + m) * bytes ≤ 140737488355328) (h63 : n + m ≤ maxLen)
 (hK : ∀ v' w', OwnO w' e v' (n + m) (xs ++ news) → w.grownBy w' v.ownBlock → (v'.ownBlock = v.ownBlock ∨ v'.ownBlock = some w.heap.size) → K (a.put o.dst v') w') :
 if Region.wanted o (yielded ops a.tmps) = true then Oper.wp P o a w K Q else E := by
 have hw : Region.wanted o (yielded ops a.tmps) = true := by simp [Region.wanted, hgd]
 rw [if_pos hw]
 obtain ⟨v', w', hrun, h2, h3, h4⟩ := run_appO S hown hr h1 hbytes h63 o.type
 unfold Oper.wp execOp
 simp only [ho, resolve, invoke, builtin, Sem.run_bind, Sem.run_pure, Result.andThen_ok, List.map_toArray, List.map_cons, List.map_nil, hs, hx, hrun]
 exact hK v' w' h2 h3 h4
/-- Cut from the front. -/
theorem run_sliceO {P : Program} {t e : TypeId} {z : Value} {bytes : Nat} (S : STy P t e z 1 bytes) {w : World} {v : Value} {n : Nat} {xs : List Value} (h : OwnO w e v n xs) (l : Nat) (hl : l ≤ n) :
 ∃ v', (∀ w', (Instr.slice t v (some (.int .i64 l)) none none).run P w' = .ok v' w') ∧ OwnO w e v' (n - l) (xs.drop l) ∧ (v'.ownBlock = v.ownBlock) := by
 obtain ⟨i, hi0, hi1, hi2, hi3⟩ := S.info
 obtain ⟨hxl, h⟩ := h
 rcases h with ⟨rfl, rfl⟩ | ⟨r, off, cap, cur, rfl, hg, hnc, hcm, hcs, ht⟩
 · obtain rfl : l = 0 := by omega
   have hx0 : xs = [] := List.eq_nil_of_length_eq_zero hxl
   subst hx0
   refine ⟨.slice none 0 0, fun w' => ?_, ⟨rfl, .inl ⟨rfl, rfl⟩⟩, rfl⟩
   simp [Instr.slice, run_underlying S.ht, Instr.sliceBounds, Instr.sliceBound, asIntOf, sizeOf, typeInfo, hi0, hi2]
 · by_cases hc : cap = l
   · subst hc
     obtain rfl : n = cap := by omega
     refine ⟨.slice (some ⟨r, off, none⟩) 0 0, fun w' => ?_, ⟨by simp [hxl], .inr ⟨r, off, 0, cur, by simp, hg, by omega, by omega, by omega, by simp [hxl]⟩⟩, rfl⟩
     simp [Instr.slice, run_underlying S.ht, Instr.sliceBounds, Instr.sliceBound, asIntOf, sizeOf, typeInfo, hi0, hi2]
   · refine ⟨.slice (some ⟨r, off + l, none⟩) (n - l) (cap - l), fun w' => ?_, ⟨by rw [List.length_drop]; omega, .inr ⟨r, off + l, cap - l, cur, rfl, hg, by omega, by omega, by omega, ?_⟩⟩, rfl⟩
     · have e2 : n ≤ cap := hnc
       simp [Instr.slice, run_underlying S.ht, Instr.sliceBounds, Instr.sliceBound, asIntOf, sizeOf, typeInfo, hi0, hi2, hl, e2, hc, Addr.add_none]
     · rw [← ht, List.drop_take, List.drop_drop]
end Go.Proofs.YtjjcilinghgphaaGreat
