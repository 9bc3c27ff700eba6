/-
  Plain laws: what Save of a mark leaves, and what Load tells behind it.
-/
import Derived.Test.YtkinhilkmjfjhaaGreatQ6
import Derived.Test.YtkinhilkmjfjhaaGreatF0b
namespace Go.Proofs.YtkinhilkmjfjhaaGreat
open Go.RowKit Go.Maps Go.Sort
set_option maxRecDepth 100000

theorem nm_ne : nmM ≠ nmF := by decide
theorem upd_ins {n : List UInt8} {g : Fl → Fl} {f : Fl} (hf : f.nm = n) (hg : (g f).nm = f.nm) : ∀ {D : List Fl}, (∀ y ∈ D, y.nm ≠ n) → updF n g (insF f D) = insF (g f) D
  | [], _ => by unfold updF insF; simp [hf]
  | y :: r, h => by
    have hy : y.nm ≠ n := h y (by simp)
    have hr : ∀ z ∈ r, z.nm ≠ n := fun z hz => h z (by simp [hz])
    have hid : updF n g r = r := by
      unfold updF
      conv => rhs; rw [← List.map_id r]
      refine List.map_congr_left fun z hz => ?_
      rw [if_neg (by simpa using hr z hz)]; rfl
    have ih := upd_ins hf hg hr
    unfold insF
    rw [hg]
    by_cases hb : bB f.nm y.nm
    · rw [if_pos hb, if_pos hb]
      unfold updF at hid ⊢
      rw [List.map_cons, List.map_cons, hid, if_pos (by simpa using hf), if_neg (by simpa using hy)]
    · rw [if_neg hb, if_neg hb]
      unfold updF at ih ⊢
      rw [List.map_cons, ih, if_neg (by simpa using hy)]
theorem del_ins_same {n : List UInt8} {f : Fl} (hf : f.nm = n) : ∀ {D : List Fl}, (∀ y ∈ D, y.nm ≠ n) → delF n (insF f D) = D
  | [], _ => by unfold delF insF; simp [hf]
  | y :: r, h => by
    have hy : y.nm ≠ n := h y (by simp)
    have hr : ∀ z ∈ r, z.nm ≠ n := fun z hz => h z (by simp [hz])
    have hid : delF n r = r := by
      unfold delF
      rw [List.filter_eq_self]
      intro z hz
      simpa using hr z hz
    have ih := del_ins_same hf hr
    unfold insF
    by_cases hb : bB f.nm y.nm
    · rw [if_pos hb]
      unfold delF at hid ⊢
      rw [List.filter_cons_of_neg (by simpa using hf), List.filter_cons_of_pos (by simpa using hy), hid]
    · rw [if_neg hb]
      unfold delF at ih ⊢
      rw [List.filter_cons_of_pos (by simpa using hy), ih]
theorem del_ne {n : List UInt8} {l : List Fl} : ∀ y ∈ delF n l, y.nm ≠ n := fun _ hy => (mem_del.1 hy).2
theorem dsF (d : List UInt8) (k : Nat) (l : List Fl) : delF nmF (insF ⟨nmF, d, k⟩ (delF nmF l)) = delF nmF l := del_ins_same (f := ⟨nmF, d, k⟩) rfl del_ne
theorem usF {g : Fl → Fl} (d : List UInt8) (k : Nat) (l : List Fl) (hg : (g ⟨nmF, d, k⟩).nm = nmF) : updF nmF g (insF ⟨nmF, d, k⟩ (delF nmF l)) = insF (g ⟨nmF, d, k⟩) (delF nmF l) := upd_ins (f := ⟨nmF, d, k⟩) rfl hg del_ne
theorem get_ins {f : Fl} {D : List Fl} (h : ∀ y ∈ D, y.nm ≠ f.nm) : getF f.nm (insF f D) = some f := get_ins_same h
/-- A write without an error of its own. -/
theorem errW_cases {s : DS} {e : Int} {g : DS → DS} (hdn : s.dn = false) (he : e = 0) :
    (errW s e g = (⟨s.fs, s.wr, 0, true⟩, 12) ∧ s.ar = 1) ∨ (errW s e g = (g (fallS s).1, 0) ∧ (fallS s).1.fs = s.fs ∧ (fallS s).1.dn = false ∧ (s.ar = 0 → (fallS s).1.ar = 0)) := by
  unfold errW
  rw [hdn, if_neg (by decide), if_neg (by omega)]
  by_cases h1 : s.ar = 1
  · rw [fall_one h1]; exact .inl ⟨rfl, h1⟩
  · rw [fall_more h1 hdn]
    refine .inr ⟨rfl, rfl, rfl, fun h0 => ?_⟩
    show (if 0 < s.ar then s.ar - 1 else s.ar) = 0
    rw [if_neg (by omega)]; exact h0
theorem append_cases {s : DS} {n b : List UInt8} (hdn : s.dn = false) (he : appE s n b = 0) :
    (∃ wr, appendS s n b = (⟨updF n (fun f => ⟨f.nm, f.dt ++ b, f.sf⟩) s.fs, wr, 0, true⟩, 12) ∧ s.ar = 1) ∨
    (∃ wr ar, appendS s n b = (⟨updF n (fun f => ⟨f.nm, f.dt ++ b, f.sf⟩) s.fs, wr, ar, false⟩, 0) ∧ (s.ar = 0 → ar = 0)) := by
  rw [appendS_ok he]
  by_cases h1 : s.ar = 1
  · rw [fall_one h1]; exact .inl ⟨_, rfl, h1⟩
  · rw [fall_more h1 hdn]
    refine .inr ⟨_, _, rfl, fun h0 => ?_⟩
    rw [if_neg (by omega)]; exact h0
/-- What Save comes to: cut off, or done. -/
def SvEnd (s : DS) (m : Mk) (r : DS × Int) : Prop :=
  (r.2 = 12 ∧ r.1.dn = true ∧ s.ar ≠ 0 ∧ delF nmF r.1.fs = delF nmF s.fs) ∨
  (r.2 = 0 ∧ r.1.dn = false ∧ (s.ar = 0 → r.1.ar = 0) ∧ r.1.fs = insF ⟨nmM, frameOf (encM m), (frameOf (encM m)).length⟩ (delF nmM (delF nmF s.fs)))
theorem svend_12 {s : DS} {m : Mk} {r : DS × Int} (h1 : r.2 = 12) (h2 : r.1.dn = true) (h3 : s.ar ≠ 0) (h4 : delF nmF r.1.fs = delF nmF s.fs) : SvEnd s m r := .inl ⟨h1, h2, h3, h4⟩
theorem sv5_end {s : DS} {m : Mk} {r : DS × Int} (h0 : r.2 = 0) (hdn : r.1.dn = false) (har : s.ar = 0 → r.1.ar = 0) (hfs : r.1.fs = insF ⟨nmF, frameOf (encM m), (frameOf (encM m)).length⟩ (delF nmF s.fs)) : SvEnd s m (sv5 r) := by
  have hg : getF nmF r.1.fs = some ⟨nmF, frameOf (encM m), (frameOf (encM m)).length⟩ := by rw [hfs]; exact get_ins (f := ⟨nmF, _, _⟩) del_ne
  have hE : renE r.1 nmF nmM = 0 := by unfold renE; rw [hg]; rfl
  unfold sv5
  rw [if_neg (fun h => h h0)]
  unfold renameS
  rcases errW_cases (g := fun s => { s with fs := renL nmF nmM s.fs }) hdn hE with ⟨he, h1⟩ | ⟨he, h1, h2, h3⟩
  · rw [he]
    refine svend_12 rfl rfl (fun h => by have := har h; omega) ?_
    show delF nmF r.1.fs = _
    rw [hfs, dsF]
  · rw [he]
    refine .inr ⟨rfl, h2, fun h => h3 (har h), ?_⟩
    show renL nmF nmM (fallS r.1).1.fs = _
    rw [h1]
    unfold renL
    rw [hg]
    show (if nmF = nmM then r.1.fs else _) = _
    rw [if_neg (fun h => nm_ne h.symm), hfs, dsF]
theorem sv4_end {s : DS} {m : Mk} {r : DS × Int} (h0 : r.2 = 0) (hdn : r.1.dn = false) (har : s.ar = 0 → r.1.ar = 0) (hfs : r.1.fs = insF ⟨nmF, frameOf (encM m), 0⟩ (delF nmF s.fs)) : SvEnd s m (sv4 r) := by
  have hg : getF nmF r.1.fs = some ⟨nmF, frameOf (encM m), 0⟩ := by rw [hfs]; exact get_ins (f := ⟨nmF, _, _⟩) del_ne
  have hE : hasE r.1 nmF = 0 := by unfold hasE; rw [hg]; rfl
  unfold sv4
  rw [if_neg (fun h => h h0)]
  unfold syncS
  rcases errW_cases (g := fun s => { s with fs := updF nmF (fun f => ⟨f.nm, f.dt, f.dt.length⟩) s.fs }) hdn hE with ⟨he, h1⟩ | ⟨he, h1, h2, h3⟩
  · rw [he]
    unfold sv5
    rw [if_pos (by simp)]
    refine svend_12 rfl rfl (fun h => by have := har h; omega) ?_
    show delF nmF r.1.fs = _
    rw [hfs, dsF]
  · rw [he]
    refine sv5_end rfl h2 (fun h => h3 (har h)) ?_
    show updF nmF _ (fallS r.1).1.fs = _
    rw [h1, hfs, usF _ _ _ rfl]
theorem sv3_end {s : DS} {m : Mk} (hm : mayM m = true) (ht : tot (delF nmF s.fs) + 292 ≤ 4194304) {r : DS × Int} (h0 : r.2 = 0) (hdn : r.1.dn = false) (har : s.ar = 0 → r.1.ar = 0) (hfs : r.1.fs = insF ⟨nmF, [], 0⟩ (delF nmF s.fs)) : SvEnd s m (sv3 (frameOf (encM m)) r) := by
  have hg : getF nmF r.1.fs = some ⟨nmF, [], 0⟩ := by rw [hfs]; exact get_ins (f := ⟨nmF, _, _⟩) del_ne
  have hl : (frameOf (encM m)).length ≤ 292 := by rw [frameOf_length]; have := encM_len hm; omega
  have htt : tot r.1.fs = tot (delF nmF s.fs) := by rw [hfs, tot_ins]; simp
  have hE : appE r.1 nmF (frameOf (encM m)) = 0 := by
    unfold appE
    rw [hdn, hg, htt, if_neg (by decide), if_neg (by simp), if_neg (by omega)]
  unfold sv3
  rw [if_neg (fun h => h h0)]
  rcases append_cases hdn hE with ⟨wr, he, h1⟩ | ⟨wr, ar, he, h1⟩
  · rw [he]
    unfold sv4
    rw [if_pos (by simp)]
    refine svend_12 rfl rfl (fun h => by have := har h; omega) ?_
    show delF nmF (updF nmF _ r.1.fs) = _
    rw [hfs, usF _ _ _ rfl, dsF]
  · rw [he]
    refine sv4_end rfl rfl (fun h => h1 (har h)) ?_
    show updF nmF _ r.1.fs = _
    rw [hfs, usF _ _ _ rfl]
    simp
theorem sv2_end {s : DS} {m : Mk} (hm : mayM m = true) (hl : (delF nmF s.fs).length < 64) (ht : tot (delF nmF s.fs) + 292 ≤ 4194304) {r : DS × Int} (h0 : r.2 = 0) (hdn : r.1.dn = false) (har : s.ar = 0 → r.1.ar = 0) (hfs : r.1.fs = delF nmF s.fs) : SvEnd s m (sv2 (frameOf (encM m)) r) := by
  have hg : getF nmF r.1.fs = none := by rw [hfs]; exact get_del_same _ _
  have hE : creE r.1 nmF = 0 := by
    unfold creE
    rw [hg, hfs, if_neg (by decide), if_neg (by simp), if_neg (by omega)]
  unfold sv2
  rw [if_neg (fun h => h h0)]
  unfold createS
  rcases errW_cases (g := fun s => { s with fs := insF ⟨nmF, [], 0⟩ s.fs }) hdn hE with ⟨he, h1⟩ | ⟨he, h1, h2, h3⟩
  · rw [he]
    unfold sv3
    rw [if_pos (by simp)]
    refine svend_12 rfl rfl (fun h => by have := har h; omega) ?_
    show delF nmF r.1.fs = _
    rw [hfs]
    exact del_none (get_del_same _ _)
  · rw [he]
    refine sv3_end hm ht rfl h2 (fun h => h3 (har h)) ?_
    show insF _ (fallS r.1).1.fs = _
    rw [h1, hfs]
theorem save_end {s : DS} {m : Mk} (hdn : s.dn = false) (hm : mayM m = true) (hl : (delF nmF s.fs).length < 64) (ht : tot (delF nmF s.fs) + 292 ≤ 4194304) : SvEnd s m (saveS s m) := by
  unfold saveS
  rw [hdn, hm, if_neg (by decide), if_neg (by decide)]
  cases hg : getF nmF s.fs with
  | none =>
    rw [if_neg (by simp)]
    exact sv2_end hm hl ht rfl hdn (fun h => h) (del_none hg).symm
  | some f =>
    rw [show (some f).isSome = true from rfl, if_pos rfl]
    have hE : hasE s nmF = 0 := by unfold hasE; rw [hg]; rfl
    unfold removeS
    rcases errW_cases (g := fun s => { s with fs := delF nmF s.fs }) hdn hE with ⟨he, h1⟩ | ⟨he, h1, h2, h3⟩
    · rw [he]
      unfold sv2
      rw [if_pos (by simp)]
      exact svend_12 rfl rfl (fun h => by omega) rfl
    · rw [he]
      refine sv2_end hm hl ht rfl h2 h3 ?_
      show delF nmF (fallS s).1.fs = _
      rw [h1]
theorem scan_frame (p : List UInt8) (hp : p.length ≤ 262144) : scan (frameOf p) = ([p], (frameOf p).length) := by
  have := scan_joinF' [p] (by simpa using hp)
  simpa [joinF] using this
theorem loadR_enc {m : Mk} (h : mayM m = true) : loadR (frameOf (encM m)) = (m, 0) := by
  have hl := encM_len h
  have hs := scan_frame (encM m) (by omega)
  obtain ⟨h1, h2⟩ := enc_rdM h
  unfold loadR
  rw [hs]
  simp only [List.length_singleton, List.getD_cons_zero, h1, h2, and_self, if_true]
theorem loadM_of {s : DS} {m : Mk} (h : mayM m = true) {k : Nat} (hg : getF nmM s.fs = some ⟨nmM, frameOf (encM m), k⟩) : loadM s = (m, 0) := by
  unfold loadM; rw [hg]; exact loadR_enc h
theorem loadM_same {s s' : DS} (h : getF nmM s'.fs = getF nmM s.fs) : loadM s' = loadM s := by unfold loadM; rw [h]
theorem get_of_del {l l' : List Fl} (h : delF nmF l' = delF nmF l) : getF nmM l' = getF nmM l := by rw [← get_del_other (n := nmF) nm_ne, h, get_del_other nm_ne]
theorem get_saved {s : DS} {m : Mk} {k : Nat} : getF nmM (insF ⟨nmM, frameOf (encM m), k⟩ (delF nmM (delF nmF s.fs))) = some ⟨nmM, frameOf (encM m), k⟩ := get_ins (f := ⟨nmM, _, _⟩) del_ne
/-- A mark that is saved on a new disk. -/
theorem saved_new {m : Mk} (h : mayM m = true) : (saveS newS m).2 = 0 ∧ loadM (saveS newS m).1 = (m, 0) := by
  rcases save_end (s := newS) rfl h (by decide) (by decide) with ⟨_, _, h3, _⟩ | ⟨h1, _, _, h4⟩
  · exact absurd rfl h3
  · exact ⟨h1, loadM_of h (by rw [h4]; exact get_saved)⟩
end Go.Proofs.YtkinhilkmjfjhaaGreat
