/-
  A disk within a law; DiskSynced.
-/
import Derived.Test.YtjjcilinghgphaaE17
namespace Go.Proofs.Ytjjcilinghgphaa
open Go.RowKit Go.Maps Go.Sort
set_option maxRecDepth 100000
attribute [local go_sem] bs_size bs_toList

/-- A disk that a law made: in blocks from W's end on. -/
def LS (B : Int) (W w : World) (d : Nat) (S : Nat → Prop) (s : DS) : Prop := DkS B w d S s ∧ (∀ k, S k → W.heap.size ≤ k) ∧ Below W.heap.size W w
theorem LS.told {B : Int} {W w w' : World} {d : Nat} {S : Nat → Prop} {s : DS} {r : DS × Int} {x : Ending} (h : LS B W w d S s) (k : Told B w d S r x w') : x = .returned (.int .i64 r.2) ∧ LS (B + 1) W w' d (Sx S w w') r.1 ∧ Fr S w w' :=
  ⟨k.1, ⟨k.2.1, fun q hq => hq.elim (h.2.1 q) fun hq => Nat.le_trans h.2.2.size hq.1, h.2.2.trans (k.2.2.below h.2.2.size fun q hq hs => by have := h.2.1 q hs; omega)⟩, k.2.2⟩
theorem LS.done {B : Int} {W w w' : World} {d : Nat} {S : Nat → Prop} {s s' : DS} (h : LS B W w d S s) (k : Done B w d S s' w') : LS B W w' d (Sx S w w') s' ∧ Fr S w w' :=
  ⟨⟨k.1, fun q hq => hq.elim (h.2.1 q) fun hq => Nat.le_trans h.2.2.size hq.1, h.2.2.trans (k.2.below h.2.2.size fun q hq hs => by have := h.2.1 q hs; omega)⟩, k.2⟩
theorem LS.new {B : Int} {W w w' : World} {d : Nat} {S : Nat → Prop} {s : DS} (h : LS B W w d S s) (hb : Below w.heap.size w w') : LS B W w' d S s := ⟨h.1.below hb, h.2.1, h.2.2.trans (hb.mono h.2.2.size)⟩
theorem LS.start {B : Int} {W w : World} {d : Nat} {s : DS} (hb : Below W.heap.size W w) (h : DkS B w d (fun k => W.heap.size ≤ k ∧ k < w.heap.size) s) : LS B W w d (fun k => W.heap.size ≤ k ∧ k < w.heap.size) s := ⟨h, fun _ hk => hk.1, hb⟩
theorem LS.mono {B B' : Int} {W w : World} {d : Nat} {S : Nat → Prop} {s : DS} (h : LS B W w d S s) (hb : B ≤ B') : LS B' W w d S s := ⟨h.1.mono hb (fun _ h => h) h.1.lt, h.2⟩
theorem LS.old {B : Int} {W w : World} {d : Nat} {S : Nat → Prop} {s : DS} (h : LS B W w d S s) : ∀ k, k < W.heap.size → ¬ S k := fun k hk e => by have := h.2.1 k e; omega
/-! ### plain laws -/
def dataS (s : DS) (n : List UInt8) : List UInt8 := ((getF n s.fs).map Fl.dt).getD []
theorem get_crash (picks : List Int) (n : List UInt8) : ∀ (i : Nat) (l : List Fl), (∀ f, getF n l = some f → f.dt.length = f.sf) → getF n (crashL picks i l) = getF n l
  | _, [], _ => rfl
  | i, y :: r, h => by
    rw [crashL_cons]
    by_cases hy : y.nm == n
    · have hf : getF n (y :: r) = some y := by unfold getF; rw [List.find?_cons, hy]
      rw [if_pos (h y hf), hf]
      unfold getF; rw [List.find?_cons, hy]
    · have hyf : (y.nm == n) = false := Bool.eq_false_iff.2 hy
      have e : getF n (y :: r) = getF n r := by unfold getF; rw [List.find?_cons, hyf]
      rw [e] at h ⊢
      split
      · rw [← get_crash picks n i r h]
        unfold getF; rw [List.find?_cons, hyf]
      · rw [← get_crash picks n (i + 1) r h]
        unfold getF; rw [List.find?_cons]
        show (match y.nm == n with | true => _ | false => _) = _
        rw [hyf]
theorem errW_zero {s : DS} {e : Int} {g : DS → DS} (h : (errW s e g).2 = 0) : s.dn = false ∧ e = 0 ∧ (errW s e g).1 = g (fallS s).1 := by
  unfold errW at h ⊢
  cases hd : s.dn with
  | true => rw [hd] at h; simp at h
  | false =>
    rw [hd] at h
    by_cases he : e = 0
    · simp only [he, ne_eq, not_true, if_false] at h ⊢
      cases hf : (fallS s).2 with
      | true => rw [hf] at h; simp at h
      | false => simp
    · simp [he] at h
theorem errW_fs {s : DS} {e : Int} {g : DS → DS} (h : (errW s e g).2 ≠ 0) : (errW s e g).1.fs = s.fs := by
  unfold errW at h ⊢
  split
  · rfl
  · split
    · rfl
    · split
      · exact fallS_fs s
      · rename_i h1 h2 h3
        simp [h1, h2, h3] at h
theorem synced {s : DS} {nm tn : List UInt8} {picks : List Int} (h : (syncS s nm).2 = 0) :
    hasE (syncS s nm).1 nm = 0 ∧ hasE (crashS (renameS (syncS s nm).1 nm tn).1 picks) (if (renameS (syncS s nm).1 nm tn).2 = 0 then tn else nm) = 0 ∧
      dataS (crashS (renameS (syncS s nm).1 nm tn).1 picks) (if (renameS (syncS s nm).1 nm tn).2 = 0 then tn else nm) = dataS (syncS s nm).1 nm ∧
      ((renameS (syncS s nm).1 nm tn).2 = 0 → nm ≠ tn → hasE (crashS (renameS (syncS s nm).1 nm tn).1 picks) nm = 8) := by
  obtain ⟨hdn, he, h1⟩ := errW_zero h
  have hget : ∃ f, getF nm s.fs = some f := by
    unfold hasE at he
    cases hg : getF nm s.fs with
    | none => rw [hg] at he; cases he
    | some f => exact ⟨f, rfl⟩
  obtain ⟨f, hf⟩ := hget
  have hs1 : getF nm (syncS s nm).1.fs = some ⟨f.nm, f.dt, f.dt.length⟩ := by
    show getF nm (errW s (hasE s nm) _).1.fs = _
    rw [h1]
    show getF nm (updF nm _ (fallS s).1.fs) = _
    rw [fallS_fs]
    exact get_upd _ (fun _ => rfl) hf
  obtain ⟨s1, hs⟩ : ∃ s1, (syncS s nm).1 = s1 := ⟨_, rfl⟩
  rw [hs] at hs1 ⊢
  refine ⟨by unfold hasE; rw [hs1]; rfl, ?_⟩
  by_cases h2 : (renameS s1 nm tn).2 = 0
  · obtain ⟨_, he2, h3⟩ := errW_zero h2
    have hfs : (renameS s1 nm tn).1.fs = renL nm tn s1.fs := by
      show (errW s1 (renE s1 nm tn) _).1.fs = _
      rw [h3]
      show renL nm tn (fallS s1).1.fs = _
      rw [fallS_fs]
    simp only [h2, if_true]
    have hrl : renL nm tn s1.fs = if nm = tn then s1.fs else insF ⟨tn, f.dt, f.dt.length⟩ (delF tn (delF nm s1.fs)) := by unfold renL; rw [hs1]
    have hgt : ∃ x, getF tn (renL nm tn s1.fs) = some ⟨x, f.dt, f.dt.length⟩ := by
      rw [hrl]
      by_cases e : nm = tn
      · rw [if_pos e, ← e]; exact ⟨_, hs1⟩
      · rw [if_neg e]
        exact ⟨tn, get_ins_same (f := ⟨tn, f.dt, f.dt.length⟩) (fun g hg => (mem_del.1 hg).2)⟩
    obtain ⟨x, hx⟩ := hgt
    have hc : getF tn (crashS (renameS s1 nm tn).1 picks).fs = some ⟨x, f.dt, f.dt.length⟩ := by
      show getF tn (crashL picks 0 (renameS s1 nm tn).1.fs) = _
      rw [hfs, get_crash picks tn 0 _ (fun g hg => by rw [hx] at hg; cases hg; rfl)]
      exact hx
    refine ⟨by unfold hasE; rw [hc]; rfl, by unfold dataS; rw [hc, hs1]; rfl, fun _ hne => ?_⟩
    have hn : getF nm (renL nm tn s1.fs) = none := by
      rw [hrl, if_neg hne, get_ins_other hne, get_del_other hne]
      exact get_del_same _ _
    have hc2 : getF nm (crashS (renameS s1 nm tn).1 picks).fs = none := by
      show getF nm (crashL picks 0 (renameS s1 nm tn).1.fs) = _
      rw [hfs, get_crash picks nm 0 _ (fun g hg => by rw [hn] at hg; cases hg)]
      exact hn
    unfold hasE; rw [hc2]; rfl
  · have hfs : (renameS s1 nm tn).1.fs = s1.fs := errW_fs h2
    simp only [h2, if_false]
    have hc : getF nm (crashS (renameS s1 nm tn).1 picks).fs = some ⟨f.nm, f.dt, f.dt.length⟩ := by
      show getF nm (crashL picks 0 (renameS s1 nm tn).1.fs) = _
      rw [hfs, get_crash picks nm 0 _ (fun g hg => by rw [hs1] at hg; cases hg; rfl)]
      exact hs1
    exact ⟨by unfold hasE; rw [hc]; rfl, by unfold dataS; rw [hc, hs1], fun h => h.elim⟩
end Go.Proofs.Ytjjcilinghgphaa
