/-
 The deeds of the disk's writes, and writes, over a disk in a state (DkS). Written by a program (e7gen.py).
-/
import Derived.Test.YtjjcilinghgphaaGreatE6
namespace Go.Proofs.YtjjcilinghgphaaGreat
open Go.RowKit Go.Maps
set_option maxRecDepth 100000

/-- Behind a deed: the disk in a new state, in its own blocks and new ones; all else as it was. -/
def Done (B : Int) (w : World) (d : Nat) (S : Nat → Prop) (s : DS) (w' : World) : Prop := DkS B w' d (Sx S w w') s ∧ Fr S w w'
theorem Cov.fr {S : Nat → Prop} {d m : Nat} {L : List Cel} (h : Cov S d m L) {w w' : World} (hf : Fr (fun k => k = d ∨ k = m) w w') : Fr S w w' := hf.mono fun k _ hk => by rcases hk with rfl | rfl; exact h.1; exact h.2.1
/-- A disk behind a deed, told by its blocks. -/
theorem Done.mk {B : Int} {w w' : World} {d : Nat} {S : Nat → Prop} {s : DS} {m : Nat} {L : List Cel} (hD : Dk w' d m L s.wr s.ar s.dn) (hL : L.map Cel.f = s.fs) (hC : Cov (Sx S w w') d m L) (hS : ∀ k, S k → k < w.heap.size) (hok : DOk B s) (hf : Fr S w w') : Done B w d S s w' :=
 ⟨⟨m, L, hD, hL, hC, fun k hk => by
  rcases hk with hk | hk
  · exact Nat.lt_of_lt_of_le (hS k hk) hf.size
  · exact hk.2, hok⟩, hf⟩
theorem Done.refl {B : Int} {w : World} {d : Nat} {S : Nat → Prop} {s : DS} (h : DkS B w d S s) : Done B w d S s w :=
 ⟨h.mono (Int.le_refl _) (fun k hk => .inl hk) (fun k hk => by rcases hk with hk | hk; exact h.lt k hk; omega), Fr.refl _ _⟩
/-- One deed behind another. -/
theorem Done.trans {B : Int} {w w1 w2 : World} {d : Nat} {S : Nat → Prop} {s' : DS} (h : Fr S w w1) (k : Done B w1 d (Sx S w w1) s' w2) : Done B w d S s' w2 := by
 obtain ⟨h1, h2⟩ := k
 have hsz := h.size
 have hsz2 := h2.size
 refine ⟨h1.mono (Int.le_refl _) (fun k hk => ?_) (fun k hk => ?_), ?_⟩
 · rcases hk with (hk | hk) | hk
   · exact .inl hk
   · exact .inr ⟨hk.1, by omega⟩
   · exact .inr ⟨by omega, hk.2⟩
 · rcases hk with hk | hk
   · obtain ⟨_, _, _, _, hC, hl, _⟩ := h1
     exact hl k (.inl (.inl hk))
   · exact hk.2
 · exact h.trans' h2 (fun _ _ h => h) (fun k hk h => by rcases h with h | h; exact h; omega)
theorem Done.trans0 {B : Int} {w w1 w2 : World} {d : Nat} {S : Nat → Prop} {s' : DS} (h : Fr S w w1) (k : Done B w1 d S s' w2) : Done B w d S s' w2 := by
 obtain ⟨h1, h2⟩ := k
 have hsz := h.size
 have hsz2 := h2.size
 refine ⟨h1.mono (Int.le_refl _) (fun k hk => ?_) (fun k hk => ?_), h.trans h2⟩
 · rcases hk with hk | hk
   · exact .inl hk
   · exact .inr ⟨by omega, hk.2⟩
 · rcases hk with hk | hk
   · exact h1.lt k (.inl hk)
   · exact hk.2

theorem ownBlock_sl (a : Option Addr) (n c : Nat) : (Value.slice a n c).ownBlock = a.map (·.block) := by cases a <;> rfl
theorem names_none {L : List Cel} {n : List UInt8} {s : DS} (hL : L.map Cel.f = s.fs) (h : getF n s.fs = none) : getC n L = none := by
 rw [← hL, getC_f] at h
 simpa using h
theorem names_some {L : List Cel} {n : List UInt8} {s : DS} {f : Fl} (hL : L.map Cel.f = s.fs) (h : getF n s.fs = some f) : ∃ c, getC n L = some c ∧ c.f = f := by
 rw [← hL, getC_f] at h
 simpa using h
theorem len_of {L : List Cel} {s : DS} (hL : L.map Cel.f = s.fs) : L.length = s.fs.length := by rw [← hL, List.length_map]

theorem create1_S (p q d : Nat) (S : Nat → Prop) (B : Int) (s : DS) (n : List UInt8) (hn : nameOk n = true) (hg : getF n s.fs = none) (hl : s.fs.length < 64) (w : World) (k2 : w.cell? ⟨p, 0, none⟩ = some (.pointer (some ⟨d, 0, none⟩))) (k3 : w.cell? ⟨q, 0, none⟩ = some (.string (bs n))) (h : DkS B w d S s) :
 Calls Tryz.prog 74 #[.pointer (some ⟨p, 0, none⟩), .pointer (some ⟨q, 0, none⟩)] w fun e w' => e = .returned (.tuple #[]) ∧ Done B w d S { s with fs := insF ⟨n, [], 0⟩ s.fs } w' := by
 obtain ⟨m, L, hD, hL, hC, hS, hok⟩ := h
 have hgC := names_none hL hg
 have hlen := len_of hL
 have hnl := (nameOk_iff n).1 hn
 refine (create1_any p q d m _ L n (by omega) w k2 k3 (cell_of_row w d 0 _ _ _ hD.hd) hD.hm (by unfold maxLen; omega)).mono ?_
 rintro e w' ⟨rfl, hgr, k, hown⟩
 refine ⟨rfl, ?_⟩
 have hf : Fr (fun k => k = d ∨ k = m) w w' := ((Fr.refl _ w).drew.alloc _).grown hgr (fun k _ e => .inr (Option.some.inj e).symm)
 obtain ⟨b1, b2, b3⟩ := hD.blocks
 have hput := mapOf_put L ⟨n, [], 0, w.heap.size, .slice none 0 0⟩
 rw [show delC (Cel.mk n [] 0 w.heap.size (.slice none 0 0)).nm L = L from delC_none hgC] at hput
 have hsz : w.heap.size < (w.drew.alloc (.cells #[.slice none 0 0, .int .i64 0] 68)).heap.size := by simp
 refine Done.mk (m := m) (L := insC ⟨n, [], 0, w.heap.size, .slice none 0 0⟩ L)
  (hD.put (c := ⟨n, [], 0, w.heap.size, .slice none 0 0⟩) hgC (sz := tot (L.map Cel.f)) (by simp) hf ?_ ⟨k, ?_⟩ ?_ (.inl ⟨rfl, rfl⟩) (Nat.le_refl _) (fun k hk => by simp [Value.ownBlock] at hk)) ?_ ?_ hS (hok.ins hn hg hl) (hC.fr hf)
 · exact (hgr.block d (Nat.lt_trans b1 hsz) (fun e => hD.apart.1 (Option.some.inj e))).trans ((heap_alloc_old w.drew _ b1).trans hD.hd)
 · rw [← hput]; exact hown
 · exact (hgr.block w.heap.size hsz (fun e => by have := Option.some.inj e; omega)).trans (heap_alloc_new w.drew _)
 · rw [insC_f, hL]; rfl
 · refine ⟨.inl hC.1, .inl hC.2.1, fun c hc => ?_⟩
   rcases mem_insC.1 hc with rfl | hc
   · exact ⟨.inr ⟨Nat.le_refl _, Nat.lt_of_lt_of_le hsz hgr.size⟩, fun k hk => by simp [Value.ownBlock] at hk⟩
   · exact ⟨.inl (hC.2.2 c hc).1, fun k hk => .inl ((hC.2.2 c hc).2 k hk)⟩

/-- A file's block is another. -/
theorem Done.file {B : Int} {w w' : World} {d m : Nat} {S : Nat → Prop} {s : DS} {L : List Cel} (hD : Dk w d m L s.wr s.ar s.dn) (hL : L.map Cel.f = s.fs) (hC : Cov S d m L) (hS : ∀ k, S k → k < w.heap.size) (hok : DOk B s) {n : List UInt8} {c : Cel} (hg : getC n L = some c)
 (g : Fl → Fl) (hn : ∀ f, (g f).nm = f.nm) (hs : (g c.f).sf ≤ (g c.f).dt.length) (ht : (g c.f).dt.length + tot s.fs ≤ 4194304 + c.dt.length) {v' : Value}
 (hf : Fr (fun k => k = d ∨ k = c.b ∨ c.v.ownBlock = some k) w w')
 (hd : w'.heap[d]? = some (.cells #[.map (some m), .int .i64 ((tot s.fs : Nat) + (g c.f).dt.length - c.dt.length), .int .i64 s.wr, .int .i64 s.ar, .bool s.dn] 66 (0, 0)))
 (hb : w'.heap[c.b]? = some (.cells #[v', .int .i64 ((g c.f).sf : Nat)] 68 (0, 0))) (ho : OwnC w' v' (g c.f).dt) (hv : ∀ k, v'.ownBlock = some k → c.v.ownBlock = some k ∨ w.heap.size ≤ k) :
 Done B w d S { s with fs := updF n g s.fs } w' := by
 obtain ⟨hcL, hcn⟩ := getC_some hg
 have hgF : getF n s.fs = some c.f := by rw [← hL, getC_f, hg]; rfl
 have hsr : Srt (L.map Cel.f) := by rw [hL]; exact hok.srt
 have huF : updF n (fun f => ⟨f.nm, (g c.f).dt, (g c.f).sf⟩) s.fs = updF n g s.fs := by
  refine List.map_congr_left fun f hf => ?_
  by_cases e : f.nm == n
  · rw [if_pos e, if_pos e]
    have : f = c.f := srt_one hok.srt hf (getF_some hgF).1 (by rw [(getF_some hgF).2]; simpa using e)
    subst this
    have := hn c.f
    cases hq : g c.f with
    | mk a b e => rw [hq] at this; simp only [] at this; rw [this]
  · rw [if_neg e, if_neg e]
 have t1 := tot_upd hok.srt g hn hgF
 have t2 := tot_del hok.srt hgF
 have t3 : c.f.dt.length = c.dt.length := rfl
 have hle : c.dt.length ≤ tot s.fs := by omega
 refine Done.mk (m := m) (hD.file hsr hg (dt' := (g c.f).dt) (sf' := (g c.f).sf) (v' := v') hf ?_ hb ho hv) ?_ ?_ hS (hok.upd hgF g hn hs ht) (hf.mono fun k _ hk => ?_)
 · rw [hL, huF, t1, show (((g c.f).dt.length + tot (delF n s.fs) : Nat) : Int) = (tot s.fs : Nat) + (g c.f).dt.length - c.dt.length by omega]; exact hd
 · rw [updC_f n _ (fun f => ⟨f.nm, (g c.f).dt, (g c.f).sf⟩) (fun _ _ => rfl), hL, huF]
 · refine ⟨.inl hC.1, .inl hC.2.1, fun y hy => ?_⟩
   obtain ⟨z, hz, ⟨hzn, rfl⟩ | ⟨hzn, rfl⟩⟩ := mem_updC hy
   · exact ⟨.inl (hC.2.2 y hz).1, fun k hk => .inl ((hC.2.2 y hz).2 k hk)⟩
   · refine ⟨.inl (hC.2.2 z hz).1, fun k hk => ?_⟩
     rcases hv k hk with h1 | h1
     · exact .inl ((hC.2.2 c hcL).2 k h1)
     · refine .inr ⟨h1, ?_⟩
       obtain ⟨cur, hcur⟩ := ho.at k hk
       exact (Array.getElem?_eq_some_iff.1 hcur).1
 · rcases hk with rfl | rfl | hk
   · exact hC.1
   · exact (hC.2.2 c hcL).1
   · exact (hC.2.2 c hcL).2 k hk

theorem sync1_S (p q d : Nat) (S : Nat → Prop) (B : Int) (s : DS) (n : List UInt8) (hn : n.length ≤ 9223372036854775807) (f : Fl) (hg : getF n s.fs = some f) (w : World) (k2 : w.cell? ⟨p, 0, none⟩ = some (.pointer (some ⟨d, 0, none⟩))) (k3 : w.cell? ⟨q, 0, none⟩ = some (.string (bs n))) (h : DkS B w d S s) :
 Calls Tryz.prog 88 #[.pointer (some ⟨p, 0, none⟩), .pointer (some ⟨q, 0, none⟩)] w fun e w' => e = .returned (.tuple #[]) ∧ Done B w d S { s with fs := updF n (fun f => ⟨f.nm, f.dt, f.dt.length⟩) s.fs } w' := by
 obtain ⟨m, L, hD, hL, hC, hS, hok⟩ := h
 obtain ⟨c, hgC, rfl⟩ := names_some hL hg
 obtain ⟨hcL, hcn⟩ := getC_some hgC
 obtain ⟨hcb, hco⟩ := hD.hc c hcL
 obtain ⟨a, cap, hv, hah, hdc, hcap⟩ := hco.sl
 have hcb' := hcb
 rw [hv] at hcb'
 refine (sync1_any p q d m _ L n hn c hgC a c.dt.length cap c.sf w k2 k3 (cell_of_row w d 0 _ _ _ hD.hd) hD.hm hcb').mono ?_
 rintro e w' ⟨rfl, rfl⟩
 have hap := hD.apart
 refine ⟨rfl, Done.file hD hL hC hS hok hgC (fun f => ⟨f.nm, f.dt, f.dt.length⟩) (fun _ => rfl) (Nat.le_refl _) (by show c.dt.length + _ ≤ _; have := hok.tot; omega) (v' := c.v) ((Fr.refl _ w).drew.setCell (fun _ => .inr (.inl rfl)) _) ?_ ?_ ?_ (fun k hk => .inl hk)⟩
 · rw [show (((tot s.fs : Nat) : Int) + ((fun f : Fl => (⟨f.nm, f.dt, f.dt.length⟩ : Fl)) c.f).dt.length - c.dt.length) = (tot (L.map Cel.f) : Nat) by rw [hL]; show (_ + (c.dt.length : Int) - _) = _; omega]
   exact (heap_setCell_other w ⟨c.b, 1, none⟩ d _ (Ne.symm (hap.2 c hcL).1)).trans hD.hd
 · exact row_set (w := w.drew) hcb rfl
 · exact hco.block fun k hk => heap_setCell_other w ⟨c.b, 1, none⟩ k _ (((hap.2 c hcL).2.2 k hk).2.2 c hcL)

theorem cut1_S (p q r d : Nat) (S : Nat → Prop) (B : Int) (s : DS) (n : List UInt8) (hn : n.length ≤ 9223372036854775807) (f : Fl) (hg : getF n s.fs = some f) (x : Nat) (hx : x ≤ f.dt.length) (w : World) (k2 : w.cell? ⟨p, 0, none⟩ = some (.pointer (some ⟨d, 0, none⟩))) (k3 : w.cell? ⟨q, 0, none⟩ = some (.string (bs n))) (k4 : w.cell? ⟨r, 0, none⟩ = some (.int .i64 x))
 (np : ¬ S p) (nq : ¬ S q) (nr : ¬ S r) (h : DkS B w d S s) :
 Calls Tryz.prog 99 #[.pointer (some ⟨p, 0, none⟩), .pointer (some ⟨q, 0, none⟩), .pointer (some ⟨r, 0, none⟩)] w fun e w' => e = .returned (.tuple #[]) ∧ Done B w d S { s with fs := updF n (fun f => ⟨f.nm, f.dt.take x, min f.sf x⟩) s.fs } w' := by
 obtain ⟨m, L, hD, hL, hC, hS, hok⟩ := h
 obtain ⟨c, hgC, rfl⟩ := names_some hL hg
 obtain ⟨hcL, hcn⟩ := getC_some hgC
 obtain ⟨hcb, hco⟩ := hD.hc c hcL
 obtain ⟨a, cap, hv, hah, hdc, hcap⟩ := hco.sl
 rw [hv] at hcb
 have hx' : x ≤ c.dt.length := hx
 have hle : c.dt.length ≤ tot (L.map Cel.f) := dt_le_tot (f := c.f) (List.mem_map_of_mem hcL)
 have htot := hok.tot
 rw [← hL] at htot
 have hap := hD.apart
 have ne : ∀ {i j : Nat}, ¬ S i → S j → i ≠ j := fun h1 h2 e => h1 (e ▸ h2)
 refine (cut1_any s.wr s.ar s.dn a hah p q r d m _ L n hn c hgC c.dt.length cap c.sf (tot (L.map Cel.f) : Nat) x hx' hdc hcap (by omega) (by omega) (by omega) w k2 k3 k4 hD.hd hD.hm hcb (ne np hC.1) (ne nq hC.1) (ne nr hC.1) (ne np (hC.2.2 c hcL).1) (ne nq (hC.2.2 c hcL).1) (ne nr (hC.2.2 c hcL).1) (hap.2 c hcL).1).mono ?_
 rintro e w' ⟨rfl, hf, h1, h2⟩
 refine ⟨rfl, Done.file hD hL hC hS hok hgC (fun f => ⟨f.nm, f.dt.take x, min f.sf x⟩) (fun _ => rfl) ?_ ?_ (v' := .slice a x x) (hf.mono fun k _ hk => hk.elim .inl fun h => .inr (.inl h)) ?_ ?_ ?_ ?_⟩
 · show min c.sf x ≤ (c.dt.take x).length
   rw [List.length_take]; omega
 · show (c.dt.take x).length + _ ≤ _
   rw [List.length_take, ← hL]; omega
 · rw [show (((tot s.fs : Nat) : Int) + ((fun f : Fl => (⟨f.nm, f.dt.take x, min f.sf x⟩ : Fl)) c.f).dt.length - c.dt.length) = (tot (L.map Cel.f) : Nat) - ((c.dt.length : Nat) - (x : Int)) by
    rw [← hL]; show (_ + ((c.dt.take x).length : Int) - _) = _; rw [List.length_take, Nat.min_eq_left hx']; omega]
   exact h1
 · rw [h2]; show _ = some (Obj.cells #[_, .int .i64 ((min c.sf x : Nat) : Int)] _ _); rw [show ((min c.sf x : Nat) : Int) = min (c.sf : Int) (x : Int) by omega]
 · have hco2 := hco
   rw [hv] at hco2
   refine (hco2.cut x hx').block fun k hk => hf.block k ?_ ?_
   · have hk' : c.v.ownBlock = some k := by rw [hv, ownBlock_sl]; rw [ownBlock_sl] at hk; exact hk
     exact (hD.blocks.2.2 c hcL).2 k hk'
   · have hk' : c.v.ownBlock = some k := by rw [hv, ownBlock_sl]; rw [ownBlock_sl] at hk; exact hk
     have := (hap.2 c hcL).2.2 k hk'
     rintro (e | e)
     · exact this.1 e
     · exact this.2.2 c hcL e
 · intro k hk
   left; rw [hv, ownBlock_sl]; rw [ownBlock_sl] at hk; exact hk

theorem remove1_S (p q d : Nat) (S : Nat → Prop) (B : Int) (s : DS) (n : List UInt8) (hn : n.length ≤ 9223372036854775807) (w : World) (k2 : w.cell? ⟨p, 0, none⟩ = some (.pointer (some ⟨d, 0, none⟩))) (k3 : w.cell? ⟨q, 0, none⟩ = some (.string (bs n))) (h : DkS B w d S s) :
 Calls Tryz.prog 95 #[.pointer (some ⟨p, 0, none⟩), .pointer (some ⟨q, 0, none⟩)] w fun e w' => e = .returned (.tuple #[]) ∧ Done B w d S { s with fs := delF n s.fs } w' := by
 obtain ⟨m, L, hD, hL, hC, hS, hok⟩ := h
 refine (remove1_any p q d m L n hn s.wr s.ar s.dn w k2 k3 hD (by rw [hL]; exact hok.srt) (by rw [hL]; exact hok.tot)).mono ?_
 rintro e w' ⟨rfl, hf, h1, h2⟩
 refine ⟨rfl, Done.mk (m := m) (hD.del n rfl hf h1 ⟨_, h2⟩) (by rw [delC_f, hL]) ⟨.inl hC.1, .inl hC.2.1, fun c hc => ?_⟩ hS (hok.del n) (hC.fr hf)⟩
 have hc := (mem_delC.1 hc).1
 exact ⟨.inl (hC.2.2 c hc).1, fun k hk => .inl ((hC.2.2 c hc).2 k hk)⟩

theorem mem_renC {a b : List UInt8} {c y : Cel} {L : List Cel} (h : y ∈ renC a b c L) : y = ⟨b, c.dt, c.sf, c.b, c.v⟩ ∨ (y ∈ L ∧ y.nm ≠ a ∧ y.nm ≠ b) := by
 obtain ⟨h1, h2⟩ := mem_delC.1 h
 rcases mem_insC.1 h1 with h1 | h1
 · exact .inl h1
 · exact .inr ⟨(mem_delC.1 h1).1, h2, (mem_delC.1 h1).2⟩
/-- The disk's own numbers are others. -/
theorem DkS.scal {B' : Int} {w w' : World} {d m : Nat} {S : Nat → Prop} {s : DS} {L : List Cel} (hD : Dk w d m L s.wr s.ar s.dn) (hL : L.map Cel.f = s.fs) (hC : Cov S d m L) (hS : ∀ k, S k → k < w.heap.size) {wr ar : Int} {dn : Bool} (hok : DOk B' ⟨s.fs, wr, ar, dn⟩) (hf : Fr (fun k => k = d) w w')
 (hd : w'.heap[d]? = some (.cells #[.map (some m), .int .i64 (tot (L.map Cel.f) : Nat), .int .i64 wr, .int .i64 ar, .bool dn] 66 (0, 0))) : DkS B' w' d S ⟨s.fs, wr, ar, dn⟩ :=
 ⟨m, L, hD.scal hf hd, hL, hC, fun k hk => Nat.lt_of_lt_of_le (hS k hk) hf.size, hok⟩
theorem fall_one {s : DS} (h : s.ar = 1) : fallS s = (⟨s.fs, s.wr, 0, true⟩, true) := by
 unfold fallS
 rw [if_pos (by omega), if_pos h]
theorem fall_more {s : DS} (h : s.ar ≠ 1) (hd : s.dn = false) : fallS s = (⟨s.fs, s.wr + 1, if 0 < s.ar then s.ar - 1 else s.ar, false⟩, false) := by
 unfold fallS
 split
 · simp [h, hd]
 · simp [hd]

/-- A write over a disk in a state. -/
theorem write_create_S (d : Nat) (S : Nat → Prop) (B : Int) (hB : B < 1000000000000) (s : DS) (e : Int) (cv : Array Value) (g : DS → DS) (w : World) (h : DkS B w d S s)
 (hdo : s.dn = false → e = 0 → (fallS s).2 = false → ∀ W, Fr S w W → DkS (B + 1) W d S (fallS s).1 → Calls Tryz.prog 74 cv W fun x w' => x = .returned (.tuple #[]) ∧ Done (B + 1) W d S (g (fallS s).1) w') :
 Calls Tryz.prog 73 #[.pointer (some ⟨d, 0, none⟩), .int .i64 e, .func (.func 74) #[] cv] w fun x w' => x = .returned (.int .i64 (errW s e g).2) ∧ Done (B + 1) w d S (errW s e g).1 w' := by
 obtain ⟨m, L, hD, hL, hC, hS, hok⟩ := h
 have h0 : DkS B w d S s := ⟨m, L, hD, hL, hC, hS, hok⟩
 by_cases herr : s.dn = true ∨ e ≠ 0
 · refine (write_err d s.dn e _ w (cell_of_row w d 4 _ _ _ hD.hd) herr).mono ?_
   rintro x w' ⟨rfl, rfl⟩
   have hr : errW s e g = (s, if s.dn then 12 else e) := by
    unfold errW
    cases hdn : s.dn with
    | true => rfl
    | false =>
     rcases herr with h | h
     · rw [hdn] at h; cases h
     · simp [h]
   rw [hr]
   exact ⟨rfl, Done.refl (h0.mono (by omega) (fun _ h => h) hS)⟩
 · have hdn : s.dn = false := by
    cases hx : s.dn with
    | false => rfl
    | true => exact absurd (.inl hx) herr
   have he : e = 0 := Decidable.byContradiction fun h => herr (.inr h)
   subst he
   have hd := hD.hd
   rw [hdn] at hd
   by_cases ha : s.ar = 1
   · rw [ha] at hd
     refine (write_last d m _ s.wr _ w hd hok.wr0 (by have := hok.wr1; omega)).mono ?_
     rintro x w' ⟨rfl, hf, h1⟩
     have hfl := fall_one ha
     have hr : errW s 0 g = (⟨s.fs, s.wr, 0, true⟩, 12) := by unfold errW; rw [hdn, hfl]; rfl
     rw [hr]
     have hokf := hok.fall
     rw [hfl] at hokf
     have := DkS.scal hD hL hC hS hokf hf h1
     exact ⟨rfl, Done.trans0 (hf.mono fun k _ hk => by subst hk; exact hC.1) (Done.refl this)⟩
   · have hfl := fall_more ha hdn
     have hokf := hok.fall
     rw [hfl] at hokf
     refine (write_do_create d m _ s.wr s.ar cv w hd hok.ar0 hok.ar1 ha hok.wr0 (by have := hok.wr1; omega) (fun w' => Done (B + 1) w d S (g (fallS s).1) w') fun W hf h1 => ?_).mono ?_
     · have hfS : Fr S w W := hf.mono fun k _ hk => by subst hk; exact hC.1
       refine (hdo hdn rfl (by rw [hfl]) W hfS (by rw [hfl]; exact DkS.scal hD hL hC hS hokf hf h1)).mono ?_
       rintro x w' ⟨rfl, hd⟩
       exact ⟨rfl, Done.trans0 hfS hd⟩
     · rintro x w' ⟨rfl, hd⟩
       have hr : errW s 0 g = (g (fallS s).1, 0) := by unfold errW; rw [hdn, hfl]; rfl
       rw [hr]
       exact ⟨rfl, hd⟩

/-- A write over a disk in a state. -/
theorem write_sync_S (d : Nat) (S : Nat → Prop) (B : Int) (hB : B < 1000000000000) (s : DS) (e : Int) (cv : Array Value) (g : DS → DS) (w : World) (h : DkS B w d S s)
 (hdo : s.dn = false → e = 0 → (fallS s).2 = false → ∀ W, Fr S w W → DkS (B + 1) W d S (fallS s).1 → Calls Tryz.prog 88 cv W fun x w' => x = .returned (.tuple #[]) ∧ Done (B + 1) W d S (g (fallS s).1) w') :
 Calls Tryz.prog 73 #[.pointer (some ⟨d, 0, none⟩), .int .i64 e, .func (.func 88) #[] cv] w fun x w' => x = .returned (.int .i64 (errW s e g).2) ∧ Done (B + 1) w d S (errW s e g).1 w' := by
 obtain ⟨m, L, hD, hL, hC, hS, hok⟩ := h
 have h0 : DkS B w d S s := ⟨m, L, hD, hL, hC, hS, hok⟩
 by_cases herr : s.dn = true ∨ e ≠ 0
 · refine (write_err d s.dn e _ w (cell_of_row w d 4 _ _ _ hD.hd) herr).mono ?_
   rintro x w' ⟨rfl, rfl⟩
   have hr : errW s e g = (s, if s.dn then 12 else e) := by
    unfold errW
    cases hdn : s.dn with
    | true => rfl
    | false =>
     rcases herr with h | h
     · rw [hdn] at h; cases h
     · simp [h]
   rw [hr]
   exact ⟨rfl, Done.refl (h0.mono (by omega) (fun _ h => h) hS)⟩
 · have hdn : s.dn = false := by
    cases hx : s.dn with
    | false => rfl
    | true => exact absurd (.inl hx) herr
   have he : e = 0 := Decidable.byContradiction fun h => herr (.inr h)
   subst he
   have hd := hD.hd
   rw [hdn] at hd
   by_cases ha : s.ar = 1
   · rw [ha] at hd
     refine (write_last d m _ s.wr _ w hd hok.wr0 (by have := hok.wr1; omega)).mono ?_
     rintro x w' ⟨rfl, hf, h1⟩
     have hfl := fall_one ha
     have hr : errW s 0 g = (⟨s.fs, s.wr, 0, true⟩, 12) := by unfold errW; rw [hdn, hfl]; rfl
     rw [hr]
     have hokf := hok.fall
     rw [hfl] at hokf
     have := DkS.scal hD hL hC hS hokf hf h1
     exact ⟨rfl, Done.trans0 (hf.mono fun k _ hk => by subst hk; exact hC.1) (Done.refl this)⟩
   · have hfl := fall_more ha hdn
     have hokf := hok.fall
     rw [hfl] at hokf
     refine (write_do_sync d m _ s.wr s.ar cv w hd hok.ar0 hok.ar1 ha hok.wr0 (by have := hok.wr1; omega) (fun w' => Done (B + 1) w d S (g (fallS s).1) w') fun W hf h1 => ?_).mono ?_
     · have hfS : Fr S w W := hf.mono fun k _ hk => by subst hk; exact hC.1
       refine (hdo hdn rfl (by rw [hfl]) W hfS (by rw [hfl]; exact DkS.scal hD hL hC hS hokf hf h1)).mono ?_
       rintro x w' ⟨rfl, hd⟩
       exact ⟨rfl, Done.trans0 hfS hd⟩
     · rintro x w' ⟨rfl, hd⟩
       have hr : errW s 0 g = (g (fallS s).1, 0) := by unfold errW; rw [hdn, hfl]; rfl
       rw [hr]
       exact ⟨rfl, hd⟩

/-- A write over a disk in a state. -/
theorem write_cut_S (d : Nat) (S : Nat → Prop) (B : Int) (hB : B < 1000000000000) (s : DS) (e : Int) (cv : Array Value) (g : DS → DS) (w : World) (h : DkS B w d S s)
 (hdo : s.dn = false → e = 0 → (fallS s).2 = false → ∀ W, Fr S w W → DkS (B + 1) W d S (fallS s).1 → Calls Tryz.prog 99 cv W fun x w' => x = .returned (.tuple #[]) ∧ Done (B + 1) W d S (g (fallS s).1) w') :
 Calls Tryz.prog 73 #[.pointer (some ⟨d, 0, none⟩), .int .i64 e, .func (.func 99) #[] cv] w fun x w' => x = .returned (.int .i64 (errW s e g).2) ∧ Done (B + 1) w d S (errW s e g).1 w' := by
 obtain ⟨m, L, hD, hL, hC, hS, hok⟩ := h
 have h0 : DkS B w d S s := ⟨m, L, hD, hL, hC, hS, hok⟩
 by_cases herr : s.dn = true ∨ e ≠ 0
 · refine (write_err d s.dn e _ w (cell_of_row w d 4 _ _ _ hD.hd) herr).mono ?_
   rintro x w' ⟨rfl, rfl⟩
   have hr : errW s e g = (s, if s.dn then 12 else e) := by
    unfold errW
    cases hdn : s.dn with
    | true => rfl
    | false =>
     rcases herr with h | h
     · rw [hdn] at h; cases h
     · simp [h]
   rw [hr]
   exact ⟨rfl, Done.refl (h0.mono (by omega) (fun _ h => h) hS)⟩
 · have hdn : s.dn = false := by
    cases hx : s.dn with
    | false => rfl
    | true => exact absurd (.inl hx) herr
   have he : e = 0 := Decidable.byContradiction fun h => herr (.inr h)
   subst he
   have hd := hD.hd
   rw [hdn] at hd
   by_cases ha : s.ar = 1
   · rw [ha] at hd
     refine (write_last d m _ s.wr _ w hd hok.wr0 (by have := hok.wr1; omega)).mono ?_
     rintro x w' ⟨rfl, hf, h1⟩
     have hfl := fall_one ha
     have hr : errW s 0 g = (⟨s.fs, s.wr, 0, true⟩, 12) := by unfold errW; rw [hdn, hfl]; rfl
     rw [hr]
     have hokf := hok.fall
     rw [hfl] at hokf
     have := DkS.scal hD hL hC hS hokf hf h1
     exact ⟨rfl, Done.trans0 (hf.mono fun k _ hk => by subst hk; exact hC.1) (Done.refl this)⟩
   · have hfl := fall_more ha hdn
     have hokf := hok.fall
     rw [hfl] at hokf
     refine (write_do_cut d m _ s.wr s.ar cv w hd hok.ar0 hok.ar1 ha hok.wr0 (by have := hok.wr1; omega) (fun w' => Done (B + 1) w d S (g (fallS s).1) w') fun W hf h1 => ?_).mono ?_
     · have hfS : Fr S w W := hf.mono fun k _ hk => by subst hk; exact hC.1
       refine (hdo hdn rfl (by rw [hfl]) W hfS (by rw [hfl]; exact DkS.scal hD hL hC hS hokf hf h1)).mono ?_
       rintro x w' ⟨rfl, hd⟩
       exact ⟨rfl, Done.trans0 hfS hd⟩
     · rintro x w' ⟨rfl, hd⟩
       have hr : errW s 0 g = (g (fallS s).1, 0) := by unfold errW; rw [hdn, hfl]; rfl
       rw [hr]
       exact ⟨rfl, hd⟩

/-- A write over a disk in a state. -/
theorem write_remove_S (d : Nat) (S : Nat → Prop) (B : Int) (hB : B < 1000000000000) (s : DS) (e : Int) (cv : Array Value) (g : DS → DS) (w : World) (h : DkS B w d S s)
 (hdo : s.dn = false → e = 0 → (fallS s).2 = false → ∀ W, Fr S w W → DkS (B + 1) W d S (fallS s).1 → Calls Tryz.prog 95 cv W fun x w' => x = .returned (.tuple #[]) ∧ Done (B + 1) W d S (g (fallS s).1) w') :
 Calls Tryz.prog 73 #[.pointer (some ⟨d, 0, none⟩), .int .i64 e, .func (.func 95) #[] cv] w fun x w' => x = .returned (.int .i64 (errW s e g).2) ∧ Done (B + 1) w d S (errW s e g).1 w' := by
 obtain ⟨m, L, hD, hL, hC, hS, hok⟩ := h
 have h0 : DkS B w d S s := ⟨m, L, hD, hL, hC, hS, hok⟩
 by_cases herr : s.dn = true ∨ e ≠ 0
 · refine (write_err d s.dn e _ w (cell_of_row w d 4 _ _ _ hD.hd) herr).mono ?_
   rintro x w' ⟨rfl, rfl⟩
   have hr : errW s e g = (s, if s.dn then 12 else e) := by
    unfold errW
    cases hdn : s.dn with
    | true => rfl
    | false =>
     rcases herr with h | h
     · rw [hdn] at h; cases h
     · simp [h]
   rw [hr]
   exact ⟨rfl, Done.refl (h0.mono (by omega) (fun _ h => h) hS)⟩
 · have hdn : s.dn = false := by
    cases hx : s.dn with
    | false => rfl
    | true => exact absurd (.inl hx) herr
   have he : e = 0 := Decidable.byContradiction fun h => herr (.inr h)
   subst he
   have hd := hD.hd
   rw [hdn] at hd
   by_cases ha : s.ar = 1
   · rw [ha] at hd
     refine (write_last d m _ s.wr _ w hd hok.wr0 (by have := hok.wr1; omega)).mono ?_
     rintro x w' ⟨rfl, hf, h1⟩
     have hfl := fall_one ha
     have hr : errW s 0 g = (⟨s.fs, s.wr, 0, true⟩, 12) := by unfold errW; rw [hdn, hfl]; rfl
     rw [hr]
     have hokf := hok.fall
     rw [hfl] at hokf
     have := DkS.scal hD hL hC hS hokf hf h1
     exact ⟨rfl, Done.trans0 (hf.mono fun k _ hk => by subst hk; exact hC.1) (Done.refl this)⟩
   · have hfl := fall_more ha hdn
     have hokf := hok.fall
     rw [hfl] at hokf
     refine (write_do_remove d m _ s.wr s.ar cv w hd hok.ar0 hok.ar1 ha hok.wr0 (by have := hok.wr1; omega) (fun w' => Done (B + 1) w d S (g (fallS s).1) w') fun W hf h1 => ?_).mono ?_
     · have hfS : Fr S w W := hf.mono fun k _ hk => by subst hk; exact hC.1
       refine (hdo hdn rfl (by rw [hfl]) W hfS (by rw [hfl]; exact DkS.scal hD hL hC hS hokf hf h1)).mono ?_
       rintro x w' ⟨rfl, hd⟩
       exact ⟨rfl, Done.trans0 hfS hd⟩
     · rintro x w' ⟨rfl, hd⟩
       have hr : errW s 0 g = (g (fallS s).1, 0) := by unfold errW; rw [hdn, hfl]; rfl
       rw [hr]
       exact ⟨rfl, hd⟩

end Go.Proofs.YtjjcilinghgphaaGreat
