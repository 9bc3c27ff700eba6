/-
  Files that are handed in: opened, compared, written over.
-/
import Derived.Test.YtdbfkneklkdnaaaE45
import Derived.Test.YtdbfkneklkdnaaaE20
namespace Go.Proofs.Ytdbfkneklkdnaaa
open Go.RowKit Go.Maps Go.Sort
set_option maxRecDepth 100000
attribute [local go_sem] bs_size bs_toList

def cellI (f : FlI) (v : Value) : List Value := [.string (bs f.nm), v, .int .i64 f.sf]
def flatI : List FlI → List Value → List Value
  | f :: r, v :: vs => cellI f v ++ flatI r vs
  | _, _ => []
theorem flatI_snoc : ∀ (l : List FlI) (vs : List Value) (f : FlI) (u : Value), vs.length = l.length → flatI (l ++ [f]) (vs ++ [u]) = flatI l vs ++ cellI f u
  | [], [], f, u, _ => by simp [flatI]
  | g :: r, v :: vs, f, u, h => by
    show cellI g v ++ flatI (r ++ [f]) (vs ++ [u]) = (cellI g v ++ flatI r vs) ++ cellI f u
    rw [flatI_snoc r vs f u (by simpa using h), List.append_assoc]
  | [], _ :: _, _, _, h => by simp at h
  | _ :: _, [], _, _, h => by simp at h
theorem flatI_length : ∀ (l : List FlI) (vs : List Value), vs.length = l.length → (flatI l vs).length = l.length * 3
  | [], [], _ => rfl
  | g :: r, v :: vs, h => by
    show (cellI g v ++ flatI r vs).length = _
    rw [List.length_append, flatI_length r vs (by simpa using h)]
    simp [cellI]; omega
  | [], _ :: _, h => by simp at h
  | _ :: _, [], h => by simp at h
theorem flatI_get : ∀ (l : List FlI) (vs : List Value) (i : Nat) (f : FlI) (u : Value), l[i]? = some f → vs[i]? = some u → (flatI l vs)[3 * i]? = some (.string (bs f.nm)) ∧ (flatI l vs)[3 * i + 1]? = some u ∧ (flatI l vs)[3 * i + 2]? = some (.int .i64 f.sf)
  | [], _, i, _, _, h, _ => by simp at h
  | _ :: _, [], i, _, _, _, h => by simp at h
  | g :: r, v :: vs, 0, f, u, h1, h2 => by
    simp at h1 h2
    subst h1 h2
    exact ⟨rfl, rfl, rfl⟩
  | g :: r, v :: vs, i + 1, f, u, h1, h2 => by
    have ih := flatI_get r vs i f u (by simpa using h1) (by simpa using h2)
    show (cellI g v ++ flatI r vs)[3 * (i + 1)]? = _ ∧ (cellI g v ++ flatI r vs)[3 * (i + 1) + 1]? = _ ∧ (cellI g v ++ flatI r vs)[3 * (i + 1) + 2]? = _
    have hl : (cellI g v).length = 3 := rfl
    rw [List.getElem?_append_right (by omega), List.getElem?_append_right (by omega), List.getElem?_append_right (by omega), hl]
    rw [show 3 * (i + 1) - 3 = 3 * i by omega, show 3 * (i + 1) + 1 - 3 = 3 * i + 1 by omega, show 3 * (i + 1) + 2 - 3 = 3 * i + 2 by omega]
    exact ih
theorem flatI_one : ∀ (l : List FlI) (vs : List Value), (∀ v ∈ vs, v.oneCell' = true) → ∀ u ∈ flatI l vs, u.oneCell' = true
  | [], _, _, u, h => by simp [flatI] at h
  | _ :: _, [], _, u, h => by simp [flatI] at h
  | g :: r, v :: vs, hv, u, h => by
    have h' : u ∈ cellI g v ++ flatI r vs := h
    rcases List.mem_append.1 h' with h1 | h1
    · simp [cellI] at h1
      rcases h1 with rfl | rfl | rfl
      · rfl
      · exact hv _ (by simp)
      · rfl
    · exact flatI_one r vs (fun x hx => hv x (by simp [hx])) u h1
/-- A list of files of the call's own: the row, and each file's bytes. -/
def OwnFi (w : World) (base : Nat) (v : Value) (vs : List Value) (l : List FlI) : Prop :=
  vs.length = l.length ∧ w.ownsRow base 43 3 v l.length (flatI l vs) ∧ ∀ (i : Nat) (f : FlI) (u : Value), l[i]? = some f → vs[i]? = some u → Own8 w base 5 u f.dt
theorem OwnFi.nil (w : World) (base : Nat) : OwnFi w base (.slice none 0 0) [] [] := ⟨rfl, World.ownsRow_nil _ _ _ _, fun i f u h => by simp at h⟩
/-- One file more: its bytes just made, then the row. -/
theorem OwnFi.snoc {w w1 w2 : World} {base : Nat} {v v' : Value} {vs : List Value} {l : List FlI} (h : OwnFi w base v vs l) (f : FlI) (u : Value) (h1 : Below w.heap.size w w1) (hu : Own8 w1 base 5 u f.dt)
    (hown : w2.ownsRow base 43 3 v' (l.length + 1) (flatI l vs ++ cellI f u)) (hg : w1.grownBy w2 v.ownBlock) : OwnFi w2 base v' (vs ++ [u]) (l ++ [f]) := by
  obtain ⟨hl, hr, hd⟩ := h
  refine ⟨by simp [hl], by rw [flatI_snoc _ _ _ _ hl, List.length_append]; exact hown, fun i g x hg' hx => ?_⟩
  have old : ∀ {g : FlI} {x : Value}, Own8 w1 base 5 x g.dt → Own8 w2 base 5 x g.dt := fun {g x} ho => by
    refine ownsRow_keep ho fun k hk => hg.block k (World.ownsRow.lt ho k hk).2 fun e => ?_
    obtain ⟨cur, hc⟩ := ownsRow_type ho hk
    obtain ⟨cur', hc'⟩ := ownsRow_type hr e.symm
    have hlt := (Array.getElem?_eq_some_iff.1 hc').1
    have := (h1.block k hlt).trans hc'
    rw [this] at hc
    simp at hc
  rcases Nat.lt_or_ge i l.length with hi | hi
  · rw [List.getElem?_append_left hi] at hg'
    rw [List.getElem?_append_left (by omega)] at hx
    exact old ((hd i g x hg' hx).below (Nat.le_refl _) h1)
  · have : i = l.length := by
      have h2 := (List.getElem?_eq_some_iff.1 hg').1
      simp at h2; omega
    subst this
    rw [List.getElem?_append_right (Nat.le_refl _)] at hg'
    rw [List.getElem?_append_right (by omega)] at hx
    simp [hl] at hg' hx
    subst hg' hx
    exact old hu
/-- Files that the call made, that may be written over: row and bytes. -/
def LI (w : World) (T : Nat → Prop) (a : Option Addr) (l : List FlI) : Prop :=
  ∀ (j : Nat) (f : FlI), l[j]? = some f → ∃ b aj cj, a = some ⟨b, 0, none⟩ ∧ T b ∧ w.cell? ⟨b, j * 3 + 1, none⟩ = some (.slice aj f.dt.length cj) ∧ WrB w aj f.dt.length ∧ BlkIn aj f.dt.length (fun q => T q ∧ q ≠ b)
theorem LI.of_own {w : World} {base : Nat} {a : Option Addr} {n cap : Nat} {vs : List Value} {l : List FlI} (h : OwnFi w base (.slice a n cap) vs l) : LI w (fun q => base ≤ q ∧ q < w.heap.size) a l := by
  obtain ⟨hl, hr, hd⟩ := h
  intro j f hf
  obtain ⟨u, hu⟩ : ∃ u, vs[j]? = some u := ⟨_, List.getElem?_eq_getElem (by have := (List.getElem?_eq_some_iff.1 hf).1; omega)⟩
  have ho := hd j f u hf hu
  obtain ⟨aj, cj, rfl, h8⟩ := ho.rd
  obtain ⟨g1, g2, g3⟩ := flatI_get l vs j f _ hf hu
  have hr' := hr
  rcases hr.2 with ⟨h1, h2⟩ | ⟨g, cap', cur, h1, hb, hg, hnc, hcm, hcs, ht⟩
  · have := (List.getElem?_eq_some_iff.1 hf).1; omega
  · simp at h1
    obtain ⟨rfl, _, rfl⟩ := h1
    refine ⟨g, aj, cj, rfl, ⟨hb, (Array.getElem?_eq_some_iff.1 hg).1⟩, ?_, WrB.of_own ho rfl, fun h0 q hq => ?_⟩
    · rw [cell_of_row w g _ _ _ _ hg, Nat.mul_comm]
      rw [← ht, List.getElem?_take] at g2
      split at g2
      · simpa using g2
      · cases g2
    · have hq' : (Value.slice aj f.dt.length cj).ownBlock = some q := by rw [ownBlock_sl]; exact hq
      refine ⟨World.ownsRow.lt ho q hq', fun e => ?_⟩
      obtain ⟨cur', hc'⟩ := ownsRow_type ho hq'
      rw [e, hg] at hc'
      simp at hc'
theorem LI.keep {w w' : World} {T : Nat → Prop} {a : Option Addr} {l : List FlI} (h : LI w T a l) (hb : Below w.heap.size w w') : LI w' T a l := fun j f hf => by
  obtain ⟨b, aj, cj, h1, h2, h3, h4, h5⟩ := h j f hf
  refine ⟨b, aj, cj, h1, h2, cell_below h3 hb, ?_, h5⟩
  rcases h4 with h4 | ⟨r, cur, rfl, hg, hc⟩
  · exact .inl h4
  · exact .inr ⟨r, cur, rfl, (hb.block r (Array.getElem?_eq_some_iff.1 hg).1).trans hg, hc⟩
theorem LI.set {w : World} {T : Nat → Prop} {a : Option Addr} {l : List FlI} (h : LI w T a l) {r : Nat} (k : Nat) (v : Value) (hr : ∀ b, blk a = some b → r ≠ b) : LI (w.setCell ⟨r, k, none⟩ v) T a l := fun j f hf => by
  obtain ⟨b, aj, cj, rfl, h2, h3, h4, h5⟩ := h j f hf
  refine ⟨b, aj, cj, rfl, h2, ?_, h4.set r k v, h5⟩
  have fr : Fr (fun q => q = r) w (w.setCell ⟨r, k, none⟩ v) := (Fr.refl (fun q => q = r) w).setCell (fun _ => rfl) _
  exact (fr.cell (p := ⟨b, j * 3 + 1, none⟩) (World.block_lt_of_cell? _ _ h3) (fun e => hr b rfl e.symm)).trans h3

theorem OwnFi.rd {w : World} {base : Nat} {v : Value} {vs : List Value} {l : List FlI} (h : OwnFi w base v vs l) (hwf : ∀ f ∈ l, FiWf f) : ∃ a cap, v = .slice a l.length cap ∧ RdFi w (fun b => base ≤ b ∧ b < w.heap.size) a l.length cap l := by
  obtain ⟨h1, h2, h3⟩ := h
  obtain ⟨a, cap, rfl, hr⟩ := Rd.of_own h2
  refine ⟨a, cap, rfl, rfl, fun _ b hb => World.ownsRow.lt h2 b (by rw [ownBlock_sl]; exact hb), _, hr, fun i f hf => ?_⟩
  obtain ⟨u, hu⟩ : ∃ u, vs[i]? = some u := ⟨_, List.getElem?_eq_getElem (by have := (List.getElem?_eq_some_iff.1 hf).1; omega)⟩
  have ho := h3 i f u hf hu
  obtain ⟨ai, ci, rfl, hr8⟩ := ho.rd
  obtain ⟨g1, g2, g3⟩ := flatI_get l vs i f _ hf hu
  refine ⟨ai, ci, fun j x hx => ?_, hwf f (List.mem_of_getElem? hf), hr8, fun _ b hb => World.ownsRow.lt ho b (by rw [ownBlock_sl]; exact hb)⟩
  rw [Nat.mul_comm i 3]
  match j, hx with
  | 0, hx => cases hx; exact g1
  | 1, hx => cases hx; exact g2
  | 2, hx => cases hx; exact g3
  | j + 3, hx => simp [fiCells] at hx
theorem rdFi_open {H : Type} {enc : TypeId × Value → H} {w : World} {base : Nat} {sp : Nat → Bool} {held : Bool} {fuel : Nat} {a : Option Addr} {len cap : Nat} {x : DataW H × List MemPlace}
    (h : DataW.trod enc Try.prog w base sp held fuel 40 (Value.slice a len cap).cells.toList = some x) : ∃ l, RdFi w (fun b => b < w.heap.size) a len cap l := by
  obtain ⟨xs, hr, m, hel⟩ := rd_open (size := 3) Try.underlying40 (by kernel_rfl) (by decide) h
  obtain ⟨os, h1, h2⟩ := choose_list (P := fun i (f : FlI) => ∃ ai ci, (∀ (j : Nat) (u : Value), (fiCells f ai ci)[j]? = some u → xs[i * 3 + j]? = some u) ∧ FiRd w (fun b => b < w.heap.size) f ai ci) len fun i hi => by
    obtain ⟨y, hy⟩ := hel i hi
    obtain ⟨_, n, hf⟩ := field_of Try.underlying43 hy
    obtain ⟨y0, h0⟩ := hf 0 _ rfl
    obtain ⟨y1, h1⟩ := hf 1 _ rfl
    obtain ⟨y2, h2⟩ := hf 2 _ rfl
    obtain ⟨nm, e0, hnm⟩ := str_open Try.underlying9 h0
    obtain ⟨ab, lb, cb, e1⟩ := slice_form Try.underlying30 h1
    obtain ⟨sf, e2, hsf⟩ := int_open Try.underlying3 h2
    rw [e1] at h1
    obtain ⟨b, hb⟩ := rd8_open (a := ab) (len := lb) (cap := cb) Try.underlying30 Try.underlying5 (by kernel_rfl) h1
    obtain rfl : lb = b.length := hb.1
    have c : ∀ {j : Nat} {v : Value}, j < 3 → (((xs.drop (i * 3)).take 3).drop j).take 1 = [v] → xs[i * 3 + j]? = some v := fun {j v} hj hv => by
      have := one_get hv
      rw [List.getElem?_take, if_pos hj, List.getElem?_drop] at this
      exact this
    refine ⟨⟨nm, b, sf⟩, ab, cb, fun j u hj => ?_, ⟨hnm, hsf.1, hsf.2⟩, hb, hb.2.blkIn (by decide)⟩
    match j, hj with
    | 0, hj => cases hj; exact c (by decide) e0
    | 1, hj => cases hj; exact c (by decide) e1
    | 2, hj => cases hj; exact c (by decide) e2
    | j + 3, hj => simp [fiCells] at hj
  exact ⟨os, h1.symm, hr.blkIn (by decide), xs, hr, h2⟩
set_option maxHeartbeats 1000000 in
/-- Two equal lists of files. -/
theorem filesI_same (a a' : Option Addr) (n cap cap' : Nat) (l : List FlI) (T T' : Nat → Prop) (w : World) (h : RdFi w T a n cap l) (h' : RdFi w T' a' n cap' l) :
    Calls Try.prog 21 #[.slice a n cap, .slice a' n cap'] w fun e w' => e = .returned (.bool true) ∧ ∃ m, w' = w.drewN m := by
  have H1 := Lib.hid h
  have H2 := Lib.hid h'
  have E1 := Lib.hid h.1
  have hm1 : n ≤ 9223372036854775807 := by obtain ⟨_, _, vs, hr, _⟩ := h; exact Nat.le_trans hr.1 hr.2.1
  clear h h'
  go_enter Try.func21, Try.ntmps21
  go_wp2_with fail
  go_loopw [5] (fun i wr => ∃ k : Nat, k ≤ n ∧ i = .int .i64 k ∧ Hid (∃ m, wr = w.drewN m)) (fun i _ => n - (intOf i).toNat)
  case atStart => exact ⟨0, Nat.zero_le _, rfl, 0, rfl⟩
  case round =>
    obtain ⟨k, hk, rfl, HB⟩ := hrel
    by_cases hlt : k < n
    · obtain ⟨f, hf⟩ : ∃ f, l[k]? = some f := ⟨_, List.getElem?_eq_getElem (by have := E1.out; omega)⟩
      obtain ⟨b, off, ai, ci, rfl, hr, c1, c2, c3⟩ := (H1.out.keep (draws_fr HB.out) (fun _ _ h => h)).at hf
      obtain ⟨b', off', ai', ci', rfl, hr', c1', c2', c3'⟩ := (H2.out.keep (draws_fr HB.out) (fun _ _ h => h)).at hf
      have k1 : ∀ i, (convert 30 9 (.slice ai f.dt.length ci)).run Try.prog (wr.drewN i) = .ok (.string (bs f.dt)) (wr.drewN i) := fun i => run_toStr (P := Try.prog) (hr.2.1.keep ((Fr.refl (fun _ => False) wr).drewN i) (fun _ _ h => h)) 30 5 9 Try.underlying30 Try.underlying5 Try.underlying9
      have k2 : ∀ i, (convert 30 9 (.slice ai' f.dt.length ci')).run Try.prog (wr.drewN i) = .ok (.string (bs f.dt)) (wr.drewN i) := fun i => run_toStr (P := Try.prog) (hr'.2.1.keep ((Fr.refl (fun _ => False) wr).drewN i) (fun _ _ h => h)) 30 5 9 Try.underlying30 Try.underlying5 Try.underlying9
      clear hf hr hr'
      go_wp2_with fail
      go_quiet (fail)
      go_wp2_with fail
      go_roundw
      case rel => exact ⟨k + 1, by omega, by go_num, draws_next HB.out _⟩
      case measure => simp [intOf]; omega
    · obtain rfl : k = n := by omega
      go_wp2_with fail
      go_ret
      exact ⟨rfl, HB.out⟩
/-! ### few and small -/
def wgI (f : FlI) : Nat := min f.nm.length 20001 + min f.dt.length 20001
def wsI (l : List FlI) : Nat := (l.map wgI).sum
theorem wsI_le (l : List FlI) : wsI l ≤ l.length * 40002 := by
  induction l with
  | nil => simp [wsI]
  | cons o r ih => have : wgI o ≤ 40002 := by unfold wgI; omega
                   simp only [wsI, List.map_cons, List.sum_cons, List.length_cons] at ih ⊢; omega
theorem wsI_snoc {l : List FlI} {k : Nat} {f : FlI} (h : l[k]? = some f) : wsI (l.take (k + 1)) = wsI (l.take k) + wgI f := by
  rw [List.take_add_one, h]; simp [wsI]
theorem wsI_tot {l : List FlI} (h : wsI l ≤ 20000) : totI l ≤ 20000 := by
  suffices h' : ∀ l : List FlI, wsI l ≤ 20000 → totI l ≤ wsI l from Nat.le_trans (h' l h) h
  intro l
  induction l with
  | nil => simp [totI]
  | cons f r ih =>
    intro hw
    simp only [wsI, totI, List.map_cons, List.sum_cons] at hw ih ⊢
    have := ih (by omega)
    have e : wgI f = min f.nm.length 20001 + min f.dt.length 20001 := rfl
    omega
end Go.Proofs.Ytdbfkneklkdnaaa
