/-
  append at a step of a drawn region; lists of files in memory; the disk's Files. Written by a program (e12gen.py).
-/
import Derived.Test.YtkinhilkmjfjhaaE11
namespace Go.Proofs.Ytkinhilkmjfjhaa
open Go.RowKit Go.Maps Go.Sort
set_option maxRecDepth 100000
attribute [local go_sem] bs_size bs_toList

theorem run_app {P : Program} {t e : TypeId} {z : Value} {size bytes : Nat} (S : STy P t e z size bytes) {w : World} (base : Nat) {v : Value} {n : Nat} {xs : List Value} (hown : w.ownsRow base e size v n xs)
    {ad : Option Addr} {m c : Nat} {news : List Value} (hr : Rd w ad m c size news) (h1 : ∀ u ∈ news, u.oneCell' = true)
    (hbytes : (n + m) * bytes ≤ 140737488355328) (h63 : n + m ≤ maxLen) (hbase : base ≤ w.heap.size) (ty : TypeId) :
    ∃ v' w', (Builtin.append_ #[t, t] ty #[v, .slice ad m c]).run P w = .ok v' w' ∧ w'.ownsRow base e size v' (n + m) (xs ++ news) ∧ w.grownBy w' v.ownBlock ∧ (v'.ownBlock = v.ownBlock ∨ v'.ownBlock = some w.heap.size) := by
  obtain ⟨i, hi0, hi1, hi2, hi3⟩ := S.info
  by_cases hm : m = 0
  · subst hm
    have hnil : news = [] := List.eq_nil_of_length_eq_zero (by simpa using hr.2.2.2.1)
    subst hnil
    cases ad with
    | none =>
      have hc : c = 0 := hr.2.2.1 rfl
      subst hc
      exact ⟨v, w, run_append_owned_none (P := P) (w := w) base t ty e i size S.ht hi0 v n xs hown, by simpa using hown, World.grownBy.refl _ _, .inl rfl⟩
    | some ad =>
      obtain ⟨v', w', h2, h3, h4, _, h5⟩ := run_append_own_at (P := P) w base t ty e i z size bytes S.ht hi0 hi1 hi2 hi3 S.zs S.pos v n xs hown ad 0 c [] (by simp) (by simp) (by simp) h63 hbytes hbase
      exact ⟨v', w', h2, h3, h4, h5⟩
  · obtain ⟨b, off, rfl, hb, hcell⟩ := hr.at (Nat.mul_pos (by omega) S.pos)
    obtain ⟨v', w', h2, h3, h4, _, h5⟩ := run_append_own_at (P := P) w base t ty e i z size bytes S.ht hi0 hi1 hi2 hi3 S.zs S.pos v n xs hown _ m c news hr.2.2.2.1
      (fun j u hj => by rw [Addr.add_none]; exact hcell j u hj) h1 h63 hbytes hbase
    exact ⟨v', w', h2, h3, h4, h5⟩
theorem step_app2 {P : Program} {t e : TypeId} {z : Value} {size bytes : Nat} (S : STy P t e z size bytes) {w : World} {ops : Array Oper} {o : Oper} {a : Act} {K : Act → World → Prop} {Q : Exit → Act → World → Prop} {E : Prop}
    (hgd : o.guard = none) (s x : Operand) (ho : o.op = .call { callee := .builtin .append, args := #[s, x], argTypes := #[t, t] })
    (base : Nat) {v : Value} {n : Nat} {xs : List Value} (hs : a.eval s = v) (hown : w.ownsRow base e size v n xs)
    {ad : Option Addr} {m c : Nat} {news : List Value} (hx : a.eval x = .slice ad m c) (hr : Rd w ad m c size news) (h1 : ∀ u ∈ news, u.oneCell' = true)
    (hbytes : (n + m) * bytes ≤ 140737488355328) (h63 : n + m ≤ maxLen) (hbase : base ≤ w.heap.size)
    (hK : ∀ v' w', w'.ownsRow base e size v' (n + m) (xs ++ news) → w.grownBy w' v.ownBlock → (v'.ownBlock = v.ownBlock ∨ v'.ownBlock = some w.heap.size) → K (a.put o.dst v') w') :
    if Region.wanted o (yielded ops a.tmps) = true then Oper.wp P o a w K Q else E := by
  have hw : Region.wanted o (yielded ops a.tmps) = true := by simp [Region.wanted, hgd]
  rw [if_pos hw]
  obtain ⟨v', w', hrun, h2, h3, h4⟩ := run_app S base hown hr h1 hbytes h63 hbase o.type
  unfold Oper.wp execOp
  simp only [ho, resolve, invoke, builtin, Sem.run_bind, Sem.run_pure, Result.andThen_ok, List.map_toArray, List.map_cons, List.map_nil, hs, hx, hrun]
  exact hK v' w' h2 h3 h4
/-- A literal of elements of any size. -/
theorem Rd.litn (w : World) (xs : List Value) (n size : Nat) (hn : xs.length = n * size) (hm : n ≤ maxLen) (e : TypeId) : Rd (w.alloc (.cells xs.toArray e)) (some ⟨w.heap.size, 0, none⟩) n n size xs := by
  refine ⟨Nat.le_refl _, hm, (fun h => by cases h), hn, fun j u hj => ⟨w.heap.size, 0, rfl, ?_⟩⟩
  rw [Nat.zero_add, cell_of_row _ w.heap.size j xs.toArray e (0, 0) (heap_alloc_new w _)]
  simpa using hj

/-! ### lists of files -/
def cellF (f : Fl) (v : Value) : List Value := [.string (bs f.nm), v, .int .i64 (f.sf : Nat)]
def flatF : List Fl → List Value → List Value
  | f :: r, v :: vs => cellF f v ++ flatF r vs
  | _, _ => []
theorem flatF_snoc : ∀ (l : List Fl) (vs : List Value) (f : Fl) (u : Value), vs.length = l.length → flatF (l ++ [f]) (vs ++ [u]) = flatF l vs ++ cellF f u
  | [], [], f, u, _ => by simp [flatF]
  | g :: r, v :: vs, f, u, h => by
    show cellF g v ++ flatF (r ++ [f]) (vs ++ [u]) = (cellF g v ++ flatF r vs) ++ cellF f u
    rw [flatF_snoc r vs f u (by simpa using h), List.append_assoc]
  | [], _ :: _, _, _, h => by simp at h
  | _ :: _, [], _, _, h => by simp at h
theorem flatF_length : ∀ (l : List Fl) (vs : List Value), vs.length = l.length → (flatF l vs).length = l.length * 3
  | [], [], _ => rfl
  | g :: r, v :: vs, h => by
    show (cellF g v ++ flatF r vs).length = _
    rw [List.length_append, flatF_length r vs (by simpa using h)]
    simp [cellF]; omega
  | [], _ :: _, h => by simp at h
  | _ :: _, [], h => by simp at h
theorem flatF_get : ∀ (l : List Fl) (vs : List Value) (i : Nat) (f : Fl) (u : Value), l[i]? = some f → vs[i]? = some u → (flatF l vs)[3 * i]? = some (.string (bs f.nm)) ∧ (flatF l vs)[3 * i + 1]? = some u ∧ (flatF l vs)[3 * i + 2]? = some (.int .i64 (f.sf : Nat))
  | [], _, i, _, _, h, _ => by simp at h
  | _ :: _, [], i, _, _, _, h => by simp at h
  | g :: r, v :: vs, 0, f, u, h1, h2 => by
    simp at h1 h2
    subst h1 h2
    exact ⟨rfl, rfl, rfl⟩
  | g :: r, v :: vs, i + 1, f, u, h1, h2 => by
    have ih := flatF_get r vs i f u (by simpa using h1) (by simpa using h2)
    show (cellF g v ++ flatF r vs)[3 * (i + 1)]? = _ ∧ (cellF g v ++ flatF r vs)[3 * (i + 1) + 1]? = _ ∧ (cellF g v ++ flatF r vs)[3 * (i + 1) + 2]? = _
    have hl : (cellF g v).length = 3 := rfl
    rw [List.getElem?_append_right (by omega), List.getElem?_append_right (by omega), List.getElem?_append_right (by omega), hl]
    rw [show 3 * (i + 1) - 3 = 3 * i by omega, show 3 * (i + 1) + 1 - 3 = 3 * i + 1 by omega, show 3 * (i + 1) + 2 - 3 = 3 * i + 2 by omega]
    exact ih
theorem flatF_one : ∀ (l : List Fl) (vs : List Value), (∀ v ∈ vs, v.oneCell' = true) → ∀ u ∈ flatF l vs, u.oneCell' = true
  | [], _, _, u, h => by simp [flatF] at h
  | _ :: _, [], _, u, h => by simp [flatF] at h
  | g :: r, v :: vs, hv, u, h => by
    have h' : u ∈ cellF g v ++ flatF r vs := h
    rcases List.mem_append.1 h' with h1 | h1
    · simp [cellF] at h1
      rcases h1 with rfl | rfl | rfl
      · rfl
      · exact hv _ (by simp)
      · rfl
    · exact flatF_one r vs (fun x hx => hv x (by simp [hx])) u h1
theorem infoFile : (Try.prog.info? 57).map (fun i => (i.zero, i.size, i.bytes)) = some (some (.agg #[.string ByteArray.empty, .slice none 0 0, .int .i64 0]), 3, 48) := by kernel_rfl
theorem SFile : STy Try.prog 58 57 (.agg #[.string ByteArray.empty, .slice none 0 0, .int .i64 0]) 3 48 := ⟨Try.underlying58, info_parts infoFile, rfl, by decide⟩
/-- A list of files of the call's own: the row, and each file's bytes. -/
def OwnFs (w : World) (base : Nat) (v : Value) (vs : List Value) (l : List Fl) : Prop :=
  vs.length = l.length ∧ w.ownsRow base 57 3 v l.length (flatF l vs) ∧ ∀ (i : Nat) (f : Fl) (u : Value), l[i]? = some f → vs[i]? = some u → Own8 w base 5 u f.dt
theorem OwnFs.nil (w : World) (base : Nat) : OwnFs w base (.slice none 0 0) [] [] := ⟨rfl, World.ownsRow_nil _ _ _ _, fun i f u h => by simp at h⟩
theorem ownsRow_type {w : World} {base : Nat} {e : TypeId} {size : Nat} {v : Value} {n : Nat} {xs : List Value} (h : w.ownsRow base e size v n xs) {k : Nat} (hk : v.ownBlock = some k) : ∃ cur, w.heap[k]? = some (.cells cur e (0, 0)) := by
  rcases h.2 with ⟨rfl, _⟩ | ⟨g, cap, cur, rfl, hb, hg, _⟩
  · simp [Value.ownBlock] at hk
  · simp [Value.ownBlock] at hk; subst hk; exact ⟨cur, hg⟩
/-- One file more: its bytes just made, then the row. -/
theorem OwnFs.snoc {w w1 w2 : World} {base : Nat} {v v' : Value} {vs : List Value} {l : List Fl} (h : OwnFs w base v vs l) (f : Fl) (u : Value) (h1 : Below w.heap.size w w1) (hu : Own8 w1 base 5 u f.dt)
    (hown : w2.ownsRow base 57 3 v' (l.length + 1) (flatF l vs ++ cellF f u)) (hg : w1.grownBy w2 v.ownBlock) : OwnFs w2 base v' (vs ++ [u]) (l ++ [f]) := by
  obtain ⟨hl, hr, hd⟩ := h
  refine ⟨by simp [hl], by rw [flatF_snoc _ _ _ _ hl, List.length_append]; exact hown, fun i g x hg' hx => ?_⟩
  have old : ∀ {g : Fl} {x : Value}, Own8 w1 base 5 x g.dt → Own8 w2 base 5 x g.dt := fun {g x} ho => by
    refine ownsRow_keep ho fun k hk => hg.block k (World.ownsRow.lt ho k hk).2 fun e => ?_
    obtain ⟨cur, hc⟩ := ownsRow_type ho hk
    obtain ⟨cur', hc'⟩ := ownsRow_type hr e.symm
    have hlt := (Array.getElem?_eq_some_iff.1 hc').1
    have := (h1.block k hlt).trans hc'
    rw [this] at hc
    simp at hc
  rcases Nat.lt_or_ge i l.length with hi | hi
  · rw [List.getElem?_append_left hi] at hg'
    rw [List.getElem?_append_left (by omega)] at hx
    exact old ((hd i g x hg' hx).below (Nat.le_refl _) h1)
  · have : i = l.length := by
      have h2 := (List.getElem?_eq_some_iff.1 hg').1
      simp at h2; omega
    subst this
    rw [List.getElem?_append_right (Nat.le_refl _)] at hg'
    rw [List.getElem?_append_right (by omega)] at hx
    simp [hl] at hg' hx
    subst hg' hx
    exact old hu
theorem cell_below {W W' : World} {a : Addr} {v : Value} (h : W.cell? a = some v) (hb : Below W.heap.size W W') : W'.cell? a = some v := (hb.cell (p := a) (World.block_lt_of_cell? _ _ h)).trans h
theorem encStr_bs (l : List UInt8) : encStr l = .string (bs l) := rfl
def FilesPost (w : World) (l : List Fl) (e : Ending) (w' : World) : Prop := ∃ v vs, e = .returned v ∧ OwnFs w' w.heap.size v vs l ∧ Below w.heap.size w w'
end Go.Proofs.Ytkinhilkmjfjhaa
