/-
 A log in memory turned: its own cells, a segment more, a record more, a segment less; beside its disk.
 A log's Sync, and a segment made (roll).
 A segment made (roll).
 Plain laws of Append; a record more in memory.
-/
import Derived.Test.YtjjcilinghgphaaGreatVA
/-! ### A log in memory turned: its own cells, a segment more, a record more, a segment less; beside its disk. -/
namespace Go.Proofs.YtjjcilinghgphaaGreat
open Go.RowKit Go.Maps
set_option maxRecDepth 100000

theorem block_ne {w : World} {a b : Nat} {cs cs' : Array Value} {t t' : TypeId} {fr fr' : Nat × Nat} (ha : w.heap[a]? = some (.cells cs t fr)) (hb : w.heap[b]? = some (.cells cs' t' fr')) (ht : t ≠ t') : a ≠ b := by
 rintro rfl
 rw [ha] at hb
 cases hb
 exact ht rfl
section
variable {w w' : World} {l d : Nat} {dir : List UInt8} {room : Int} {sf sf' : Nat} {sv sv' : Value} {L : List Sv} {S S' : Nat → Prop} {gs : List Sg}
theorem LgM.apart (h : LgM w l d dir room sf sv L) : (∀ k, sv.ownBlock = some k → k ≠ l ∧ ∀ x ∈ L, k ≠ x.b ∧ ∀ j, x.v.ownBlock = some j → k ≠ j) ∧
 ∀ x ∈ L, x.b ≠ l ∧ (∀ k, x.v.ownBlock = some k → k ≠ l ∧ ∀ y ∈ L, k ≠ y.b) ∧ ∀ u ∈ x.us, ∀ k, u.ownBlock = some k → k ≠ l ∧ sv.ownBlock ≠ some k ∧ ∀ y ∈ L, k ≠ y.b ∧ y.v.ownBlock ≠ some k := by
 have hd := h.hd
 have hS : ∀ k, sv.ownBlock = some k → ∃ cs, w.heap[k]? = some (.cells cs 91 (0, 0)) := fun k hk => (h.hs.lt k hk).2
 have hV : ∀ x ∈ L, ∀ k, x.v.ownBlock = some k → ∃ cs, w.heap[k]? = some (.cells cs 24 (0, 0)) := fun x hx k hk => ((h.hc x hx).recs.lt k hk).2
 have hU : ∀ x ∈ L, ∀ u ∈ x.us, ∀ k, u.ownBlock = some k → ∃ cs, w.heap[k]? = some (.cells cs 5 (0, 0)) := fun x hx u hu k hk => ((h.hc x hx).each.lt u hu k hk).2
 refine ⟨fun k hk => ?_, fun x hx => ⟨block_ne (h.hc x hx).row hd (by decide), fun k hk => ?_, fun u hu k hk => ?_⟩⟩
 · obtain ⟨cs, hcs⟩ := hS k hk
   refine ⟨block_ne hcs hd (by decide), fun x hx => ⟨block_ne hcs (h.hc x hx).row (by decide), fun j hj => ?_⟩⟩
   obtain ⟨cs', hcs'⟩ := hV x hx j hj
   exact block_ne hcs hcs' (by decide)
 · obtain ⟨cs, hcs⟩ := hV x hx k hk
   exact ⟨block_ne hcs hd (by decide), fun y hy => block_ne hcs (h.hc y hy).row (by decide)⟩
 · obtain ⟨cs, hcs⟩ := hU x hx u hu k hk
   refine ⟨block_ne hcs hd (by decide), fun e => ?_, fun y hy => ⟨block_ne hcs (h.hc y hy).row (by decide), fun e => ?_⟩⟩
   · obtain ⟨cs', hcs'⟩ := hS k e
     exact block_ne hcs hcs' (by decide) rfl
   · obtain ⟨cs', hcs'⟩ := hV y hy k e
     exact block_ne hcs hcs' (by decide) rfl
theorem LgM.blocks (h : LgM w l d dir room sf sv L) : l < w.heap.size ∧ (∀ k, sv.ownBlock = some k → k < w.heap.size) ∧ ∀ x ∈ L, x.b < w.heap.size ∧ (∀ k, x.v.ownBlock = some k → k < w.heap.size) ∧ ∀ u ∈ x.us, ∀ k, u.ownBlock = some k → k < w.heap.size :=
 ⟨(Array.getElem?_eq_some_iff.1 h.hd).1, fun k hk => (h.hs.lt k hk).1, fun x hx => ⟨(Array.getElem?_eq_some_iff.1 (h.hc x hx).row).1, fun k hk => ((h.hc x hx).recs.lt k hk).1, fun u hu k hk => ((h.hc x hx).each.lt u hu k hk).1⟩⟩
/-- The log's own block and its segments' row turned; what else there was stays. -/
theorem LgM.olds (h : LgM w l d dir room sf sv L) (hf : Fr (fun k => k = l ∨ sv.ownBlock = some k) w w') : ∀ x ∈ L, SvAt w' x := by
 obtain ⟨a1, a2⟩ := h.apart
 obtain ⟨_, _, b3⟩ := h.blocks
 refine fun x hx => (h.hc x hx).keep (hf.block _ (b3 x hx).1 ?_) (fun k hk => hf.block k ((b3 x hx).2.1 k hk) ?_) (fun u hu k hk => hf.block k ((b3 x hx).2.2 u hu k hk) ?_)
 · rintro (e | e)
   · exact (a2 x hx).1 e
   · exact ((a1 _ e).2 x hx).1 rfl
 · rintro (e | e)
   · exact ((a2 x hx).2.1 k hk).1 e
   · exact ((a1 k e).2 x hx).2 k hk rfl
 · rintro (e | e)
   · exact ((a2 x hx).2.2 u hu k hk).1 e
   · exact ((a2 x hx).2.2 u hu k hk).2.1 e
theorem LgM.setSafe (h : LgM w l d dir room sf sv L) (sf' : Nat) : LgM (w.setCell ⟨l, 4, none⟩ (.int .i64 (sf' : Nat))) l d dir room sf' sv L := by
 have hf : Fr (fun k => k = l) w (w.setCell ⟨l, 4, none⟩ (.int .i64 (sf' : Nat))) := (Fr.refl (fun k => k = l) w).setCell (p := ⟨l, 4, none⟩) (fun _ => rfl) _
 obtain ⟨a1, a2⟩ := h.apart
 obtain ⟨_, b2, _⟩ := h.blocks
 exact ⟨row_set h.hd rfl, h.hs.keep fun k hk => hf.block k (b2 k hk) (a1 k hk).1, h.olds (hf.mono fun k _ e => .inl e), h.ap⟩
theorem LgM.push (h : LgM w l d dir room sf sv L) {y : Sv} (hf : Fr (fun k => k = l ∨ sv.ownBlock = some k) w w') (hl : w'.heap[l]? = some (.cells #[.pointer (some ⟨d, 0, none⟩), .string (bs dir), .int .i64 room, sv', .int .i64 (sf : Nat)] 86 (0, 0)))
 (hs : OwnO w' 91 sv' (L.length + 1) (L.map Sv.ptr ++ [y.ptr])) (hy : SvAt w' y) (hn : w.heap.size ≤ y.b) (hv : ∀ k, y.v.ownBlock = some k → w.heap.size ≤ k) : LgM w' l d dir room sf sv' (L ++ [y]) := by
 obtain ⟨_, _, b3⟩ := h.blocks
 refine ⟨hl, by simpa using hs, fun x hx => ?_, List.pairwise_append.2 ⟨h.ap, by simp, fun x hx z hz => ?_⟩⟩
 · rcases List.mem_append.1 hx with hx | hx
   · exact h.olds hf x hx
   · rw [List.mem_singleton] at hx; subst hx; exact hy
 · rw [List.mem_singleton] at hz
   subst hz
   have hb := b3 x hx
   exact ⟨by have := hb.1; omega, fun k hk e => by have h1 := hb.2.1 k hk; have h2 := hv k e; omega⟩
theorem LgM.pop {x : Sv} (h : LgM w l d dir room sf sv (x :: L)) (hf : Fr (fun k => k = l) w w') (hl : w'.heap[l]? = some (.cells #[.pointer (some ⟨d, 0, none⟩), .string (bs dir), .int .i64 room, sv', .int .i64 (sf : Nat)] 86 (0, 0)))
 (hs : OwnO w' 91 sv' L.length (L.map Sv.ptr)) : LgM w' l d dir room sf sv' L :=
 ⟨hl, hs, fun y hy => h.olds (hf.mono fun k _ e => .inl e) y (List.mem_cons_of_mem _ hy), (List.pairwise_cons.1 h.ap).2⟩
theorem RecsAt.snoc {w : World} {us : List Value} {rs : List (List UInt8)} (h : RecsAt w us rs) {u : Value} {p : List UInt8} (hu : Own8 w 0 5 u p) : RecsAt w (us ++ [u]) (rs ++ [p]) := by
 refine ⟨by simp [h.1], fun i x r hx hr => ?_⟩
 by_cases hi : i < us.length
 · rw [List.getElem?_append_left hi] at hx
   rw [List.getElem?_append_left (by rw [← h.1]; exact hi)] at hr
   exact h.2 i x r hx hr
 · rw [List.getElem?_append_right (by omega)] at hx
   rw [List.getElem?_append_right (by rw [← h.1]; omega), ← h.1] at hr
   have hl := (List.getElem?_eq_some_iff.1 hx).1
   rw [List.length_singleton] at hl
   rw [show i - us.length = 0 by omega] at hx hr
   simp at hx hr
   subst hx hr
   exact hu
theorem LgM.put {P : List Sv} {x : Sv} (h : LgM w l d dir room sf sv (P ++ [x])) {sg' : Sg} {v' u : Value} {p : List UInt8} (hsg : sg' = ⟨x.sg.f, x.sg.rs ++ [p]⟩) (hf : Fr (fun k => k = x.b ∨ x.v.ownBlock = some k) w w')
 (hb : w'.heap[x.b]? = some (.cells #[.int .i64 (sg'.f : Nat), v', .int .i64 (szS sg' : Nat)] 90 (0, 0))) (ho : OwnO w' 24 v' (x.sg.rs.length + 1) (x.us ++ [u])) (hu : Own8 w' 0 5 u p)
 (hv : ∀ k, v'.ownBlock = some k → x.v.ownBlock = some k ∨ w.heap.size ≤ k) : LgM w' l d dir room sf sv (P ++ [⟨sg', x.b, v', x.us ++ [u]⟩]) := by
 obtain ⟨a1, a2⟩ := h.apart
 obtain ⟨b1, b2, b3⟩ := h.blocks
 obtain ⟨p1, _, p3⟩ := List.pairwise_append.1 h.ap
 have hx : x ∈ P ++ [x] := by simp
 have hus : ∀ y ∈ P ++ [x], ∀ u ∈ y.us, ∀ k, u.ownBlock = some k → w'.heap[k]? = w.heap[k]? := fun y hy u hu k hk => hf.block k ((b3 y hy).2.2 u hu k hk) fun e => by
  obtain ⟨_, _, h3⟩ := (a2 y hy).2.2 u hu k hk
  rcases e with e | e
  · exact (h3 x hx).1 e
  · exact (h3 x hx).2 e
 refine ⟨(hf.block l b1 fun e => ?_).trans h.hd, ?_, fun y hy => ?_, List.pairwise_append.2 ⟨p1, by simp, fun y hy z hz => ?_⟩⟩
 · rcases e with e | e
   · exact (a2 x hx).1 e.symm
   · exact ((a2 x hx).2.1 l e).1 rfl
 · have hk := h.hs.keep (w' := w') fun k hk => hf.block k (b2 k hk) fun e => by
    rcases e with e | e
    · exact ((a1 k hk).2 x hx).1 e
    · exact ((a1 k hk).2 x hx).2 k e rfl
   simpa [Sv.ptr] using hk
 · rcases List.mem_append.1 hy with hy | hy
   · have hy' : y ∈ P ++ [x] := List.mem_append_left _ hy
     refine (h.hc y hy').keep (hf.block _ (b3 y hy').1 fun e => ?_) (fun k hk => hf.block k ((b3 y hy').2.1 k hk) fun e => ?_) (hus y hy')
     · rcases e with e | e
       · exact (p3 y hy x (by simp)).1 e
       · exact ((a2 x hx).2.1 _ e).2 y hy' rfl
     · rcases e with e | e
       · exact ((a2 y hy').2.1 k hk).2 x hx e
       · exact (p3 y hy x (by simp)).2 k hk e
   · rw [List.mem_singleton] at hy
     subst hy
     subst hsg
     exact ⟨hb, by simpa using ho, ((h.hc x hx).each.keep (hus x hx)).snoc hu⟩
 · rw [List.mem_singleton] at hz
   subst hz
   have hy' : y ∈ P ++ [x] := List.mem_append_left _ hy
   refine ⟨(p3 y hy x (by simp)).1, fun k hk e => ?_⟩
   rcases hv k e with e | e
   · exact (p3 y hy x (by simp)).2 k hk e
   · have := (b3 y hy').2.1 k hk; omega
theorem CovL.mono (h : CovL S l sv L) (hs : ∀ k, S k → S' k) : CovL S' l sv L :=
 ⟨hs _ h.cl, fun k hk => hs k (h.cs k hk), fun x hx => ⟨hs _ (h.cx x hx).1, fun k hk => hs k ((h.cx x hx).2.1 k hk), fun u hu k hk => hs k ((h.cx x hx).2.2 u hu k hk)⟩⟩
end

/-- A log beside its disk, since a world w0 in which all of theirs lay within T. -/
structure LAt (w0 : World) (T : Nat → Prop) (d l : Nat) (B : Int) (Sd Sl : Nat → Prop) (s : DS) (dir : List UInt8) (room : Int) (sf : Nat) (gs : List Sg) (w : World) : Prop where
 dk : DkS B w d Sd s
 lg : LgS w l d Sl dir room sf gs
 dj : ∀ k, Sd k → ¬ Sl k
 sd : ∀ k, Sd k → Sx T w0 w k
 sl : ∀ k, Sl k → Sx T w0 w k
 fr : Fr T w0 w
 t0 : ∀ k, T k → k < w0.heap.size
def LWS (B : Int) (w : World) (d l : Nat) (T : Nat → Prop) (s : DS) (g : LG) : Prop :=
 ∃ Sd Sl, DkS B w d Sd s ∧ LgG w l d Sl g ∧ (∀ k, Sd k → ¬ Sl k) ∧ (∀ k, Sd k → T k) ∧ (∀ k, Sl k → T k) ∧ ∀ k, T k → k < w.heap.size
def LTold (B : Int) (w : World) (d l : Nat) (T : Nat → Prop) (r : LR) (x : Ending) (w' : World) : Prop := x = .returned (.int .i64 r.e) ∧ LWS B w' d l (Sx T w w') r.s r.g ∧ Fr T w w'
section
variable {w0 w w' : World} {T Sd Sl Sl' : Nat → Prop} {d l : Nat} {B B' : Int} {s s1 : DS} {dir : List UInt8} {room : Int} {sf sf' : Nat} {gs gs' : List Sg} {g : LG}
theorem Sx.mono {k : Nat} (h : Sx T w0 w k) (hs : w.heap.size ≤ w'.heap.size) : Sx T w0 w' k := h.imp id fun e => ⟨e.1, Nat.lt_of_lt_of_le e.2 hs⟩
theorem LWS.open (h : LWS B w d l T s g) : ∃ Sd Sl, LAt w T d l B Sd Sl s g.dir g.room g.sf g.segs w := by
 obtain ⟨Sd, Sl, h1, h2, h3, h4, h5, h6⟩ := h
 exact ⟨Sd, Sl, h1, h2, h3, fun k hk => .inl (h4 k hk), fun k hk => .inl (h5 k hk), Fr.refl _ _, h6⟩
theorem LAt.fin (h : LAt w0 T d l B Sd Sl s g.dir g.room g.sf g.segs w) : LWS B w d l (Sx T w0 w) s g ∧ Fr T w0 w :=
 ⟨⟨Sd, Sl, h.dk, h.lg, h.dj, h.sd, h.sl, fun k hk => hk.elim (fun e => Nat.lt_of_lt_of_le (h.t0 k e) h.fr.size) (fun e => e.2)⟩, h.fr⟩
theorem LAt.told (h : LAt w0 T d l B Sd Sl s g.dir g.room g.sf g.segs w) {e : Int} : LTold B w0 d l T ⟨s, g, e⟩ (.returned (.int .i64 e)) w := ⟨rfl, h.fin⟩
theorem LAt.lt (h : LAt w0 T d l B Sd Sl s dir room sf gs w) : (∀ k, Sd k → k < w.heap.size) ∧ ∀ k, Sl k → k < w.heap.size := ⟨h.dk.lt, h.lg.lt⟩
theorem LAt.new (h : LAt w0 T d l B Sd Sl s dir room sf gs w) (hb : Below w.heap.size w w') : LAt w0 T d l B Sd Sl s dir room sf gs w' :=
 ⟨h.dk.below hb, h.lg.below hb, h.dj, fun k hk => (h.sd k hk).mono hb.size, fun k hk => (h.sl k hk).mono hb.size, h.fr.trans (Fr.of_new hb), h.t0⟩
theorem LAt.mono (h : LAt w0 T d l B Sd Sl s dir room sf gs w) (hB : B ≤ B') : LAt w0 T d l B' Sd Sl s dir room sf gs w :=
 ⟨h.dk.mono hB (fun _ hk => hk) h.dk.lt, h.lg, h.dj, h.sd, h.sl, h.fr, h.t0⟩
theorem LAt.disk (h : LAt w0 T d l B Sd Sl s dir room sf gs w) (k : Done B' w d Sd s1 w') : LAt w0 T d l B' (Sx Sd w w') Sl s1 dir room sf gs w' := by
 have hl := h.lt
 have hs := h.fr.size
 have hw := k.2.size
 refine ⟨k.1, h.lg.keep k.2 fun q hq hs => h.dj q hs hq, fun q hq hs => ?_, fun q hq => ?_, fun q hq => (h.sl q hq).mono hw, h.fr.trans' k.2 (fun _ _ e => e) (fun q hq e => ?_), h.t0⟩
 · rcases hq with e | e
   · exact h.dj q e hs
   · have := hl.2 q hs; omega
 · rcases hq with e | e
   · exact (h.sd q e).mono hw
   · exact .inr ⟨by omega, e.2⟩
 · rcases h.sd q e with e | e
   · exact e
   · omega
theorem LAt.log (h : LAt w0 T d l B Sd Sl s dir room sf gs w) (hg : LgS w' l d Sl' dir room sf' gs') (hf : Fr Sl w w') (hx : ∀ k, Sl' k → Sx Sl w w' k) : LAt w0 T d l B Sd Sl' s dir room sf' gs' w' := by
 have hl := h.lt
 have hs := h.fr.size
 have hw := hf.size
 refine ⟨h.dk.keep hf fun q hq hs => h.dj q hq hs, hg, fun q hq hs => ?_, fun q hq => (h.sd q hq).mono hw, fun q hq => ?_, h.fr.trans' hf (fun _ _ e => e) (fun q hq e => ?_), h.t0⟩
 · rcases hx q hs with e | e
   · exact h.dj q hq e
   · have := hl.1 q hq; omega
 · rcases hx q hq with e | e
   · exact (h.sl q e).mono hw
   · exact .inr ⟨by omega, e.2⟩
 · rcases h.sl q e with e | e
   · exact e
   · omega
end
end Go.Proofs.YtjjcilinghgphaaGreat

/-! ### A log's Sync, and a segment made (roll). -/
namespace Go.Proofs.YtjjcilinghgphaaGreat
open Go.RowKit Go.Maps
set_option maxRecDepth 100000
attribute [local go_sem] bs_size bs_toList
section
variable {w w' : World} {l d : Nat} {dir : List UInt8} {room : Int} {sf sf' : Nat} {sv sv' : Value} {L : List Sv} {S S' : Nat → Prop} {gs : List Sg}
theorem LgM.after (h : LgM w l d dir room sf sv L) (hC : CovL S l sv L) (hf : Fr S' w w') (hn : ∀ k, S k → ¬ S' k) : LgM w' l d dir room sf sv L := by
 obtain ⟨b1, b2, b3⟩ := h.blocks
 exact h.keep (hf.block l b1 (hn _ hC.cl)) (fun k hk => hf.block k (b2 k hk) (hn _ (hC.cs k hk))) fun x hx =>
  ⟨hf.block _ (b3 x hx).1 (hn _ (hC.cx x hx).1), fun k hk => hf.block k ((b3 x hx).2.1 k hk) (hn _ ((hC.cx x hx).2.1 k hk)), fun u hu k hk => hf.block k ((b3 x hx).2.2 u hu k hk) (hn _ ((hC.cx x hx).2.2 u hu k hk))⟩
theorem LgM.new (h : LgM w l d dir room sf sv L) (hb : Below w.heap.size w w') : LgM w' l d dir room sf sv L := by
 obtain ⟨b1, b2, b3⟩ := h.blocks
 exact h.keep (hb.block l b1) (fun k hk => hb.block k (b2 k hk)) fun x hx => ⟨hb.block _ (b3 x hx).1, fun k hk => hb.block k ((b3 x hx).2.1 k hk), fun u hu k hk => hb.block k ((b3 x hx).2.2 u hu k hk)⟩
end
set_option maxHeartbeats 1000000 in
theorem wsync_any {w : World} {d l : Nat} {T : Nat → Prop} {B : Int} {s : DS} {g : LG} (hB : B < 1000000000000) (h : LWS B w d l T s g) (hk : LOk s g) :
 Calls Tryz.prog 18 #[.pointer (some ⟨l, 0, none⟩)] w (LTold (B + 1) w d l T (syncL s g)) := by
 obtain ⟨Sd, Sl, hA⟩ := h.open
 obtain ⟨sv, L, hM, hL, hC, hlt⟩ := hA.lg
 obtain ⟨P, x, hLx, hP, hx, hi⟩ := last_view hL
 obtain ⟨c0, c1, _, _, _, _, _⟩ := hM.cells
 have hxm : x ∈ L := List.mem_of_getElem? hi
 obtain ⟨s0, _, _, _, _⟩ := (hM.hc x hxm).cells
 rw [hx] at s0
 have hf2 := hk.la.f2
 have hdl := hk.d2
 have hnl := hk.next_le
 have hnp := hk.next_pos
 have hnn : g.lnm.length ≤ 9223372036854775807 := by unfold LG.lnm; rw [segN_length]; omega
 have HFin : Hid (∀ w3 Sd' sf' e, LAt w T d l (B + 1) Sd' Sl (syncS s g.lnm).1 g.dir g.room sf' g.segs w3 → ((syncS s g.lnm).2 = 0 → sf' = g.next - 1 ∧ e = 0) → ((syncS s g.lnm).2 ≠ 0 → sf' = g.sf ∧ e = (syncS s g.lnm).2) → LTold (B + 1) w d l T (syncL s g) (.returned (.int .i64 e)) w3) := by
  intro w3 Sd' sf' e h1 h2 h3
  unfold syncL
  by_cases h0 : (syncS s g.lnm).2 = 0
  · obtain ⟨rfl, rfl⟩ := h2 h0
    rw [if_pos h0]
    exact LAt.told (g := { g with sf := g.next - 1 }) h1
  · obtain ⟨rfl, rfl⟩ := h3 h0
    rw [if_neg h0]
    exact LAt.told (g := g) h1
 have HA := Lib.hid hA
 have HM := Lib.hid hM
 have HC := Lib.hid hC
 have HL := Lib.hid hL
 have HI := Lib.hid hi
 have HK := Lib.hid hk
 have HX := Lib.hid hx
 have HF2 := Lib.hid hf2
 have HDL := Lib.hid hdl
 have HNL := Lib.hid hnl
 have HNP := Lib.hid hnp
 have HNN := Lib.hid hnn
 have hla := fun W (hW : ∃ k, W = w.drewN k) => last_seg (hM.draws hW) hi
 obtain ⟨xb, hxb⟩ : ∃ xb, x.b = xb := ⟨_, rfl⟩
 rw [hxb] at s0
 have HLA : Hid (∀ W, (∃ k, W = w.drewN k) → Calls Tryz.prog 53 #[.pointer (some ⟨l, 0, none⟩)] W fun e w' => e = .returned (.pointer (some ⟨xb, 0, none⟩)) ∧ ∃ n, w' = W.drewN n) := fun W hW => by rw [← hxb]; exact hla W hW
 clear hla
 obtain ⟨f, hff⟩ : ∃ f, g.la.f = f := ⟨_, rfl⟩
 rw [hff] at s0 HF2
 have HFF := Lib.hid hff
 obtain ⟨dir, hdir⟩ : ∃ dir, g.dir = dir := ⟨_, rfl⟩
 rw [hdir] at c1 HDL
 have HDIR := Lib.hid hdir
 have hlnm : g.lnm = segN dir f := by unfold LG.lnm; rw [hdir, hff]
 have HLNM := Lib.hid hlnm
 clear h hk hA hM hL hC hlt hLx hP hx hi hxm hf2 hdl hnl hnp hnn hxb hff hdir hlnm
 go_enter Tryz.func18, Tryz.ntmps18
 go_wp2_with fail
 refine wp_region_ht 14 (fun W => W.cell? ⟨l, 0, none⟩ = some (.pointer (some ⟨d, 0, none⟩)) ∧ W.cell? ⟨l, 1, none⟩ = some (.string (bs dir)) ∧ W.cell? ⟨xb, 0, none⟩ = some (.int .i64 (f : Nat))) (by kernel_rfl) (by kernel_rfl) ?_ (fun hHeld => ?_)
 · exact ⟨c0, c1, s0⟩
 try simp only [Act.put, List.setIfInBounds_toArray, List.set_cons_zero, List.set_cons_succ]
 refine wpHT_takeD (i := 0) (d := 4) (v := ?_) (by kernel_rfl) rfl rfl (by decide) (by kernel_rfl) (by kernel_rfl) (fun _ _ _ h => h) (Or.inl ⟨by kernel_rfl, ?_⟩) (by assumption) ?_
 rotate_left
 · intro w hSw; (try dsimp only at hSw); go_simp; (try with_reducible rfl)
 try simp only [Act.put, List.setIfInBounds_toArray, List.set_cons_zero, List.set_cons_succ]
 refine wpHT_takeD (i := 1) (d := 5) (v := ?_) (by kernel_rfl) rfl rfl (by decide) (by kernel_rfl) (by kernel_rfl) (fun _ _ _ h => h) (Or.inl ⟨by kernel_rfl, ?_⟩) (by assumption) ?_
 rotate_left
 · intro w hSw; (try dsimp only at hSw); go_simp; (try with_reducible rfl)
 try simp only [Act.put, List.setIfInBounds_toArray, List.set_cons_zero, List.set_cons_succ]
 refine wpHT_takeD (i := 2) (d := 6) (v := ?_) (by kernel_rfl) rfl rfl (by decide) (by kernel_rfl) (by kernel_rfl) (fun _ _ _ h => h) (Or.inl ⟨by kernel_rfl, ?_⟩) (by assumption) ?_
 rotate_left
 · intro w hSw; (try dsimp only at hSw); go_simp; (try with_reducible rfl)
 try simp only [Act.put, List.setIfInBounds_toArray, List.set_cons_zero, List.set_cons_succ]
 refine wpHT_takeD (i := 3) (d := 7) (v := ?_) (by kernel_rfl) rfl rfl (by decide) (by kernel_rfl) (by kernel_rfl) (fun _ _ _ h => h) (Or.inl ⟨by kernel_rfl, ?_⟩) (by assumption) ?_
 rotate_left
 · intro w hSw; (try dsimp only at hSw); go_simp; (try with_reducible rfl)
 try simp only [Act.put, List.setIfInBounds_toArray, List.set_cons_zero, List.set_cons_succ]
 refine wpHT_takeD (i := 4) (d := 8) (v := ?_) (by kernel_rfl) rfl rfl (by decide) (by kernel_rfl) (by kernel_rfl) (fun _ _ _ h => h) (Or.inl ⟨by kernel_rfl, ?_⟩) (by assumption) ?_
 rotate_left
 · intro w hSw; (try dsimp only at hSw); go_simp; (try with_reducible rfl)
 try simp only [Act.put, List.setIfInBounds_toArray, List.set_cons_zero, List.set_cons_succ]
 refine wpHT_takeD (i := 5) (d := 9) (v := ?_) (by kernel_rfl) rfl rfl (by decide) (by kernel_rfl) (by kernel_rfl) (fun _ _ _ h => h) (Or.inl ⟨by kernel_rfl, ?_⟩) (by assumption) ?_
 rotate_left
 · intro w hSw; (try dsimp only at hSw); go_simp; (try with_reducible rfl)
 try simp only [Act.put, List.setIfInBounds_toArray, List.set_cons_zero, List.set_cons_succ]
 refine wpHT_takeD (i := 6) (d := 10) (v := ?_) (by kernel_rfl) rfl rfl (by decide) (by kernel_rfl) (by kernel_rfl) (fun _ _ _ h => h) (Or.inl ⟨by kernel_rfl, ?_⟩) (by assumption) ?_
 rotate_left
 · intro w hSw; (try dsimp only at hSw); go_simp; (try with_reducible rfl)
 try simp only [Act.put, List.setIfInBounds_toArray, List.set_cons_zero, List.set_cons_succ]
 refine wpHT_takeD (i := 7) (d := 11) (v := ?_) (by kernel_rfl) rfl rfl (by decide) (by kernel_rfl) (by kernel_rfl) (fun _ _ _ h => h) (Or.inl ⟨by kernel_rfl, ?_⟩) (by assumption) ?_
 rotate_left
 · intro w hSw; (try dsimp only at hSw); go_simp; (try with_reducible rfl)
 try simp only [Act.put, List.setIfInBounds_toArray, List.set_cons_zero, List.set_cons_succ]
 refine wpHT_takeD (i := 8) (d := 12) (v := ?_) (by kernel_rfl) rfl rfl (by decide) (by kernel_rfl) (by kernel_rfl) (fun _ _ _ h => h) (Or.inl ⟨by kernel_rfl, ?_⟩) (by assumption) ?_
 rotate_left
 · intro w hSw; (try dsimp only at hSw); go_simp; (try with_reducible rfl)
 try simp only [Act.put, List.setIfInBounds_toArray, List.set_cons_zero, List.set_cons_succ]
 refine wpHT_one (i := 9) (by kernel_rfl) rfl (by decide) (fun K hK => ?_)
 go_simp
 go_at_call 53
 refine (HLA.out _ ⟨1, rfl⟩).mono ?_
 rintro e w1 ⟨rfl, i, rfl⟩
 refine hK.out _ _ ?_ (fun hHeld => ?_)
 · exact ⟨c0, c1, s0⟩
 clear hK K
 try simp only [Act.put, List.setIfInBounds_toArray, List.set_cons_zero, List.set_cons_succ]
 refine wpHT_takeD (i := 10) (d := 14) (v := ?_) (by kernel_rfl) rfl rfl (by decide) (by kernel_rfl) (by kernel_rfl) (fun _ _ _ h => h) (Or.inl ⟨by kernel_rfl, ?_⟩) (by assumption) ?_
 rotate_left
 · intro w hSw; (try dsimp only at hSw); go_simp; (try with_reducible rfl)
 try simp only [Act.put, List.setIfInBounds_toArray, List.set_cons_zero, List.set_cons_succ]
 refine wpHT_takeD (i := 11) (d := 15) (v := ?_) (by kernel_rfl) rfl rfl (by decide) (by kernel_rfl) (by kernel_rfl) (fun _ _ _ h => h) (Or.inl ⟨by kernel_rfl, ?_⟩) (by assumption) ?_
 rotate_left
 · intro w hSw; (try dsimp only at hSw); go_simp; (try with_reducible rfl)
 try simp only [Act.put, List.setIfInBounds_toArray, List.set_cons_zero, List.set_cons_succ]
 refine wpHT_takeD (i := 12) (d := 16) (v := ?_) (by kernel_rfl) rfl rfl (by decide) (by kernel_rfl) (by kernel_rfl) (fun _ _ _ h => h) (Or.inl ⟨by kernel_rfl, ?_⟩) (by assumption) ?_
 rotate_left
 · intro w hSw; (try dsimp only at hSw); go_simp; (try with_reducible rfl)
 try simp only [Act.put, List.setIfInBounds_toArray, List.set_cons_zero, List.set_cons_succ]
 refine wpHT_one (i := 13) (by kernel_rfl) rfl (by decide) (fun K hK => ?_)
 go_simp
 go_at_call 56
 refine (file_any dir f HF2.out (by have := HDL.out; omega) _).mono ?_
 rintro e w2 ⟨rfl, hb⟩
 have hb' : Below w.heap.size w w2 := (below_dn (Below.refl _ w) _).trans hb
 have HB2 := Lib.hid hb'
 have c0 := cell_below c0 hb'
 have c1 := cell_below c1 hb'
 have s0 := cell_below s0 hb'
 clear hb hb'
 refine hK.out _ _ ?_ (fun hHeld => ?_)
 · exact ⟨c0, c1, s0⟩
 clear hK K
 try simp only [Act.put, List.setIfInBounds_toArray, List.set_cons_zero, List.set_cons_succ]
 refine wpHT_done (by kernel_rfl) ?_
 simp only [List.drop_succ_cons, List.drop_zero]
 clear hHeld
 have HA2 := Lib.hid (HA.out.new HB2.out)
 go_wp2_with fail
 go_at_call 57
 rw [← HLNM.out]
 refine (sync_any d Sd B hB s g.lnm HNN.out w2 HA2.out.dk).mono ?_
 rintro e w3 ⟨rfl, hd⟩
 have HA3 := Lib.hid (HA2.out.disk hd)
 have hM3 := (HM.out.new HB2.out).after HC.out hd.2 (fun k hk hs => HA2.out.dj k hs hk)
 have HM3 := Lib.hid hM3
 clear hd c0 c1 s0
 by_cases h0 : (syncS s g.lnm).2 = 0
 · rw [h0]
   have hc := hM3.cells
   obtain ⟨_, _, _, _, c4, _, c6⟩ := hc
   have hnx := next_seg hM3 HI.out (by have := HNL.out; unfold LG.next at this; rw [HX.out]; omega)
   have hnx' : Hid (Calls Tryz.prog 21 #[.pointer (some ⟨l, 0, none⟩)] w3 fun e w' => e = .returned (.int .i64 (g.next : Nat)) ∧ ∃ n, w' = w3.drewN n) := by unfold LG.next; rw [← HX.out]; exact hnx
   have H0 := Lib.hid h0
   clear hM3 hnx h0
   obtain ⟨nx, hnx2⟩ : ∃ nx, g.next = nx := ⟨_, rfl⟩
   have hnb : 1 ≤ nx ∧ nx ≤ 100349524 := by rw [← hnx2]; exact ⟨HNP.out, HNL.out⟩
   rw [hnx2] at hnx'
   have HNX := Lib.hid hnx2
   clear hnx2
   obtain ⟨hn1, hn2⟩ := hnb
   go_wp2_with fail
   go_at_call 21
   refine (hnx'.out).mono ?_
   rintro e w4 ⟨rfl, i, rfl⟩
   have c4 : (w3.drewN i).cell? ⟨l, 4, none⟩ = some (.int .i64 (g.sf : Nat)) := c4
   have c6 : (w3.drewN i).frozen? ⟨l, 4, none⟩ = false := c6
   have HA4 := Lib.hid (HA3.out.new (below_dn (Below.refl _ _) i))
   have HM4 := Lib.hid (HM3.out.draws ⟨i, rfl⟩)
   obtain ⟨w4, hw4⟩ : ∃ w4, w3.drewN i = w4 := ⟨_, rfl⟩
   rw [hw4] at c4 c6 HA4 HM4 ⊢
   clear hw4
   go_wp2_with fail
   go_ret
   have hz : ((nx : Int) - 1) = ((nx - 1 : Nat) : Int) := by omega
   rw [hz]
   have hset := HM4.out.setSafe (nx - 1)
   have hfr : Fr Sl w4 (w4.setCell ⟨l, 4, none⟩ (.int .i64 ((nx - 1 : Nat) : Int))) := (Fr.refl Sl w4).setCell (p := ⟨l, 4, none⟩) (fun _ => HC.out.cl) _
   refine HFin.out _ _ (nx - 1) _ (HA4.out.log (Sl' := Sl) ⟨sv, L, hset, HL.out, HC.out, fun k hk => ?_⟩ hfr (fun k hk => .inl hk)) (fun _ => ⟨by rw [HNX.out], rfl⟩) (fun h => absurd H0.out h)
   have := HA4.out.lt.2 k hk
   have := hfr.size
   omega
 · have hb : ((syncS s g.lnm).2 == 0) = false := by simpa using h0
   have HG : Hid (LTold (B + 1) w d l T (syncL s g) (.returned (.int .i64 (syncS s g.lnm).2)) w3) := HFin.out _ _ _ _ HA3.out (fun h => absurd h h0) (fun _ => ⟨rfl, rfl⟩)
   clear hM3 h0
   obtain ⟨e, he⟩ : ∃ e, (syncS s g.lnm).2 = e := ⟨_, rfl⟩
   rw [he] at HG hb ⊢
   clear he
   go_wp2_with fail
   go_ret
   exact HG.out
end Go.Proofs.YtjjcilinghgphaaGreat

/-! ### A segment made (roll). -/
namespace Go.Proofs.YtjjcilinghgphaaGreat
open Go.RowKit Go.Maps
set_option maxRecDepth 100000
attribute [local go_sem] bs_size bs_toList
def RollPost (w0 : World) (T : Nat → Prop) (d l : Nat) (B : Int) (s : DS) (dir : List UInt8) (room : Int) (sf : Nat) (gs : List Sg) (n : Nat) (e : Ending) (w' : World) : Prop :=
 ∃ Sd' Sl', e = .returned (.int .i64 (createS s (segN dir n)).2) ∧ LAt w0 T d l (B + 1) Sd' Sl' (createS s (segN dir n)).1 dir room sf (if (createS s (segN dir n)).2 = 0 then gs ++ [⟨n, []⟩] else gs) w'
theorem OwnO.new {w w' : World} {e : TypeId} {v : Value} {n : Nat} {xs : List Value} (h : OwnO w e v n xs) (hb : Below w.heap.size w w') : OwnO w' e v n xs := h.keep fun k hk => hb.block k (h.lt k hk).1
/-- A segment more: what append and the store behind it leave. -/
theorem LgM.pushed {w Y w5 : World} {l d : Nat} {dir : List UInt8} {room : Int} {sf : Nat} {a : Option Addr} {m cap : Nat} {L : List Sv} {S : Nat → Prop} (h : LgM w l d dir room sf (.slice a m cap) L) (hC : CovL S l (.slice a m cap) L) (hlt : ∀ k, S k → k < w.heap.size) {y : Sv} {a' : Option Addr} {n' cap' : Nat}
 (hY : Below w.heap.size w Y) (hyb : w.heap.size ≤ y.b) (hyl : y.b < Y.heap.size) (hrow : Y.heap[y.b]? = some (.cells #[.int .i64 (y.sg.f : Nat), y.v, .int .i64 (szS y.sg : Nat)] 90 (0, 0)))
 (hrec : ∀ W, Fr (fun k => k < w.heap.size ∨ Y.heap.size ≤ k) Y W → OwnO W 24 y.v y.sg.rs.length y.us ∧ RecsAt W y.us y.sg.rs) (hyv : ∀ k, y.v.ownBlock = some k → w.heap.size ≤ k ∧ k < Y.heap.size) (hyu : ∀ u ∈ y.us, ∀ k, u.ownBlock = some k → w.heap.size ≤ k ∧ k < Y.heap.size)
 (hown : OwnO w5 91 (.slice a' n' cap') (L.length + 1) (L.map Sv.ptr ++ [y.ptr])) (hgr : Y.grownBy w5 (Value.slice a m cap).ownBlock) (hbk : (Value.slice a' n' cap').ownBlock = (Value.slice a m cap).ownBlock ∨ (Value.slice a' n' cap').ownBlock = some Y.heap.size) :
 w5.cell? ⟨l, 3, none⟩ = some (.slice a m cap) ∧ w5.frozen? ⟨l, 3, none⟩ = false ∧
 LgM (w5.setCell ⟨l, 3, none⟩ (.slice a' n' cap')) l d dir room sf (.slice a' n' cap') (L ++ [y]) ∧ Fr S w (w5.setCell ⟨l, 3, none⟩ (.slice a' n' cap')) ∧ CovL (Sx S w (w5.setCell ⟨l, 3, none⟩ (.slice a' n' cap'))) l (.slice a' n' cap') (L ++ [y]) := by
 obtain ⟨b1, b2, b3⟩ := h.blocks
 obtain ⟨a1, a2⟩ := h.apart
 have hYs := hY.size
 have h5s := hgr.size
 have hl5 : w5.heap[l]? = w.heap[l]? := (hgr.block l (by omega) (fun e => (a1 l e.symm).1 rfl)).trans (hY.block l b1)
 have hrow5 := hl5.trans h.hd
 have hfr5 : Fr (fun k => (Value.slice a m cap).ownBlock = some k) w w5 := (Fr.of_new hY).grown hgr (fun k _ e => e)
 have hfr : Fr (fun k => k = l ∨ (Value.slice a m cap).ownBlock = some k) w (w5.setCell ⟨l, 3, none⟩ (.slice a' n' cap')) := (hfr5.mono fun k _ e => .inr e).setCell (p := ⟨l, 3, none⟩) (fun _ => .inl rfl) _
 have hsz : (w5.setCell ⟨l, 3, none⟩ (.slice a' n' cap')).heap.size = w5.heap.size := by simp
 have hfrY : Fr (fun k => k < w.heap.size ∨ Y.heap.size ≤ k) Y (w5.setCell ⟨l, 3, none⟩ (.slice a' n' cap')) :=
  ((Fr.refl _ Y).grown hgr (fun k _ e => .inl (b2 k e))).setCell (p := ⟨l, 3, none⟩) (fun _ => .inl b1) _
 obtain ⟨r1, r2⟩ := hrec _ hfrY
 refine ⟨cell_of_row w5 l 3 _ _ _ hrow5, frozen_of_row w5 l 3 _ _ hrow5, ?_, ?_, ?_⟩
 · refine h.push hfr (row_set hrow5 rfl) (hown.keep fun k hk => heap_setCell_other _ _ k _ fun e => ?_) ⟨?_, r1, r2⟩ hyb fun k hk => (hyv k hk).1
   · obtain ⟨_, cs, hcs⟩ := hown.lt k hk
     exact block_ne hcs hrow5 (by decide) e
   · exact (hfrY.block y.b hyl (by rintro (e | e) <;> omega)).trans hrow
 · exact hfr.mono fun k _ e => e.elim (fun e => e ▸ hC.cl) (fun e => hC.cs k e)
 · have hnew : ∀ k, w.heap.size ≤ k → k < w5.heap.size → Sx S w (w5.setCell ⟨l, 3, none⟩ (.slice a' n' cap')) k := fun k h1 h2 => .inr ⟨h1, by rw [hsz]; exact h2⟩
   refine ⟨.inl hC.cl, fun k hk => ?_, fun x hx => ?_⟩
   · rcases hbk with e | e
     · rw [e] at hk; exact .inl (hC.cs k hk)
     · have hk5 := (hown.lt k hk).1
       rw [e] at hk
       cases hk
       exact hnew _ hYs hk5
   · rcases List.mem_append.1 hx with hx | hx
     · exact ⟨.inl (hC.cx x hx).1, fun k hk => .inl ((hC.cx x hx).2.1 k hk), fun u hu k hk => .inl ((hC.cx x hx).2.2 u hu k hk)⟩
     · rw [List.mem_singleton] at hx
       subst hx
       exact ⟨hnew _ hyb (by omega), fun k hk => hnew _ (hyv k hk).1 (by have := (hyv k hk).2; omega), fun u hu k hk => hnew _ (hyu u hu k hk).1 (by have := (hyu u hu k hk).2; omega)⟩
theorem szS_nil (n : Nat) : szS ⟨n, []⟩ = 0 := rfl
set_option maxHeartbeats 1000000 in
theorem roll_seg {w0 w : World} {d l : Nat} {T Sd Sl : Nat → Prop} {B : Int} {s : DS} {dir : List UInt8} {room : Int} {sf : Nat} {gs : List Sg} (hB : B < 1000000000000) (hA : LAt w0 T d l B Sd Sl s dir room sf gs w) (n : Nat) (hn : n ≤ 99999999) (hdl : dir.length ≤ 11) (hgl : gs.length ≤ 100000000) :
 Calls Tryz.prog 51 #[.pointer (some ⟨l, 0, none⟩), .int .i64 (n : Nat)] w (RollPost w0 T d l B s dir room sf gs n) := by
 obtain ⟨sv, L, hM, hL, hC, hlt⟩ := hA.lg
 obtain ⟨c0, c1, _, _, _, _, _⟩ := hM.cells
 have hLl : L.length ≤ 100000000 := by rw [← List.length_map (f := Sv.sg), hL]; exact hgl
 have hnn : (segN dir n).length ≤ 9223372036854775807 := by rw [segN_length]; omega
 have HFin : Hid (∀ w3 Sd' Sl' gs' e, LAt w0 T d l (B + 1) Sd' Sl' (createS s (segN dir n)).1 dir room sf gs' w3 → ((createS s (segN dir n)).2 = 0 → gs' = gs ++ [⟨n, []⟩] ∧ e = 0) → ((createS s (segN dir n)).2 ≠ 0 → gs' = gs ∧ e = (createS s (segN dir n)).2) → RollPost w0 T d l B s dir room sf gs n (.returned (.int .i64 e)) w3) := by
  intro w3 Sd' Sl' gs' e h1 h2 h3
  by_cases h0 : (createS s (segN dir n)).2 = 0
  · obtain ⟨rfl, rfl⟩ := h2 h0
    exact ⟨Sd', Sl', by rw [h0], by rw [if_pos h0]; exact h1⟩
  · obtain ⟨rfl, rfl⟩ := h3 h0
    exact ⟨Sd', Sl', rfl, by rw [if_neg h0]; exact h1⟩
 have HA := Lib.hid hA
 have HM := Lib.hid hM
 have HC := Lib.hid hC
 have HL := Lib.hid hL
 have HLL := Lib.hid hLl
 have HN := Lib.hid hn
 have HDL := Lib.hid hdl
 have HNN := Lib.hid hnn
 clear hA hM hL hC hlt hdl hgl hLl hnn
 go_enter Tryz.func51, Tryz.ntmps51
 go_wp2_with fail
 refine wp_region_ht 10 (fun W => W.cell? ⟨l, 0, none⟩ = some (.pointer (some ⟨d, 0, none⟩)) ∧ W.cell? ⟨l, 1, none⟩ = some (.string (bs dir))) (by kernel_rfl) (by kernel_rfl) ?_ (fun hHeld => ?_)
 · exact ⟨c0, c1⟩
 try simp only [Act.put, List.setIfInBounds_toArray, List.set_cons_zero, List.set_cons_succ]
 refine wpHT_takeD (i := 0) (d := 6) (v := ?_) (by kernel_rfl) rfl rfl (by decide) (by kernel_rfl) (by kernel_rfl) (fun _ _ _ h => h) (Or.inl ⟨by kernel_rfl, ?_⟩) (by assumption) ?_
 rotate_left
 · intro w hSw; (try dsimp only at hSw); go_simp; (try with_reducible rfl)
 try simp only [Act.put, List.setIfInBounds_toArray, List.set_cons_zero, List.set_cons_succ]
 refine wpHT_takeD (i := 1) (d := 7) (v := ?_) (by kernel_rfl) rfl rfl (by decide) (by kernel_rfl) (by kernel_rfl) (fun _ _ _ h => h) (Or.inl ⟨by kernel_rfl, ?_⟩) (by assumption) ?_
 rotate_left
 · intro w hSw; (try dsimp only at hSw); go_simp; (try with_reducible rfl)
 try simp only [Act.put, List.setIfInBounds_toArray, List.set_cons_zero, List.set_cons_succ]
 refine wpHT_takeD (i := 2) (d := 8) (v := ?_) (by kernel_rfl) rfl rfl (by decide) (by kernel_rfl) (by kernel_rfl) (fun _ _ _ h => h) (Or.inl ⟨by kernel_rfl, ?_⟩) (by assumption) ?_
 rotate_left
 · intro w hSw; (try dsimp only at hSw); go_simp; (try with_reducible rfl)
 try simp only [Act.put, List.setIfInBounds_toArray, List.set_cons_zero, List.set_cons_succ]
 refine wpHT_takeD (i := 3) (d := 9) (v := ?_) (by kernel_rfl) rfl rfl (by decide) (by kernel_rfl) (by kernel_rfl) (fun _ _ _ h => h) (Or.inl ⟨by kernel_rfl, ?_⟩) (by assumption) ?_
 rotate_left
 · intro w hSw; (try dsimp only at hSw); go_simp; (try with_reducible rfl)
 try simp only [Act.put, List.setIfInBounds_toArray, List.set_cons_zero, List.set_cons_succ]
 refine wpHT_takeD (i := 4) (d := 10) (v := ?_) (by kernel_rfl) rfl rfl (by decide) (by kernel_rfl) (by kernel_rfl) (fun _ _ _ h => h) (Or.inl ⟨by kernel_rfl, ?_⟩) (by assumption) ?_
 rotate_left
 · intro w hSw; (try dsimp only at hSw); go_simp; (try with_reducible rfl)
 try simp only [Act.put, List.setIfInBounds_toArray, List.set_cons_zero, List.set_cons_succ]
 refine wpHT_takeD (i := 5) (d := 11) (v := ?_) (by kernel_rfl) rfl rfl (by decide) (by kernel_rfl) (by kernel_rfl) (fun _ _ _ h => h) (Or.inl ⟨by kernel_rfl, ?_⟩) (by assumption) ?_
 rotate_left
 · intro w hSw; (try dsimp only at hSw); go_simp; (try with_reducible rfl)
 try simp only [Act.put, List.setIfInBounds_toArray, List.set_cons_zero, List.set_cons_succ]
 refine wpHT_takeD (i := 6) (d := 12) (v := ?_) (by kernel_rfl) rfl rfl (by decide) (by kernel_rfl) (by kernel_rfl) (fun _ _ _ h => h) (Or.inl ⟨by kernel_rfl, ?_⟩) (by assumption) ?_
 rotate_left
 · intro w hSw; (try dsimp only at hSw); go_simp; (try with_reducible rfl)
 try simp only [Act.put, List.setIfInBounds_toArray, List.set_cons_zero, List.set_cons_succ]
 refine wpHT_takeD (i := 7) (d := 13) (v := ?_) (by kernel_rfl) rfl rfl (by decide) (by kernel_rfl) (by kernel_rfl) (fun _ _ _ h => h) (Or.inl ⟨by kernel_rfl, ?_⟩) (by assumption) ?_
 rotate_left
 · intro w hSw; (try dsimp only at hSw); go_simp; (try with_reducible rfl)
 try simp only [Act.put, List.setIfInBounds_toArray, List.set_cons_zero, List.set_cons_succ]
 refine wpHT_takeD (i := 8) (d := 14) (v := ?_) (by kernel_rfl) rfl rfl (by decide) (by kernel_rfl) (by kernel_rfl) (fun _ _ _ h => h) (Or.inl ⟨by kernel_rfl, ?_⟩) (by assumption) ?_
 rotate_left
 · intro w hSw; (try dsimp only at hSw); go_simp; (try with_reducible rfl)
 try simp only [Act.put, List.setIfInBounds_toArray, List.set_cons_zero, List.set_cons_succ]
 refine wpHT_one (i := 9) (by kernel_rfl) rfl (by decide) (fun K hK => ?_)
 go_simp
 go_at_call 56
 refine (file_any dir n HN.out (by have := HDL.out; omega) _).mono ?_
 rintro e w2 ⟨rfl, hb⟩
 have hb' : Below w.heap.size w w2 := (Below.refl _ w).drew.trans hb
 have HB2 := Lib.hid hb'
 have c0 := cell_below c0 hb'
 have c1 := cell_below c1 hb'
 clear hb hb'
 refine hK.out _ _ ?_ (fun hHeld => ?_)
 · exact ⟨c0, c1⟩
 clear hK K
 try simp only [Act.put, List.setIfInBounds_toArray, List.set_cons_zero, List.set_cons_succ]
 refine wpHT_done (by kernel_rfl) ?_
 simp only [List.drop_succ_cons, List.drop_zero]
 clear hHeld
 have HA2 := Lib.hid (HA.out.new HB2.out)
 go_wp2_with fail
 go_at_call 39
 refine (create_any d Sd B hB s (segN dir n) HNN.out w2 HA2.out.dk).mono ?_
 rintro e w3 ⟨rfl, hd⟩
 have HA3 := Lib.hid (HA2.out.disk hd)
 have hM3 := (HM.out.new HB2.out).after HC.out hd.2 (fun k hk hs => HA2.out.dj k hs hk)
 have HM3 := Lib.hid hM3
 clear hd c0 c1
 by_cases h0 : (createS s (segN dir n)).2 = 0
 · rw [h0]
   have H0 := Lib.hid h0
   obtain ⟨_, _, _, c3, _, _, _⟩ := hM3.cells
   obtain ⟨a, cap, rfl, _⟩ := hM3.hs.rd
   have hs3 := hM3.hs
   obtain ⟨m, hm⟩ : ∃ m, L.length = m := ⟨_, rfl⟩
   have hmb : m ≤ 100000000 := by rw [← hm]; exact HLL.out
   have hC3 := HC.out
   rw [hm] at c3 hs3 hM3 hC3
   have HM3 := Lib.hid hM3
   have HC3 := Lib.hid hC3
   have HM' := Lib.hid hm
   have HS3 := Lib.hid hs3
   obtain ⟨X, hX⟩ : ∃ X, w3.alloc (.cells #[.int .i64 (n : Nat), .slice none 0 0, .int .i64 0] 90) = X := ⟨_, rfl⟩
   have hbX : Below w3.heap.size w3 X := by rw [← hX]; exact (Below.refl _ _).alloc (Nat.le_refl _) _
   have hrowX : X.heap[w3.heap.size]? = some (.cells #[.int .i64 (n : Nat), .slice none 0 0, .int .i64 0] 90 (0, 0)) := by rw [← hX]; exact heap_alloc_new w3 _
   have HBX := Lib.hid hbX
   have HRX := Lib.hid hrowX
   clear hM3 hC3 h0 hm hs3 hbX hrowX
   have HSX : Hid (OwnO (X.alloc (.cells #[.pointer (some ⟨w3.heap.size, 0, none⟩)] 91)) 91 (.slice a m cap) m (L.map Sv.ptr)) := HS3.out.new (HBX.out.alloc HBX.out.size _)
   go_wp2_with (at_builtin; refine wpList_appO Sseg rfl (.tmp 23) (.tmp 27) rfl rfl HSX.out rfl (Rd.one _ _ _) ?c1 ?c2 ?c3 ?_)
   case c1 => simp [Value.oneCell']
   case c2 => omega
   case c3 => unfold maxLen; omega
   intro v5 w5 hown hgr hbk
   obtain ⟨a', cap', rfl, _⟩ := hown.rd
   have hp := HM3.out.pushed HC3.out (fun k hk => HA3.out.lt.2 k hk) (Y := X.alloc (.cells #[.pointer (some ⟨w3.heap.size, 0, none⟩)] 91)) (w5 := w5) (y := ⟨⟨n, []⟩, w3.heap.size, .slice none 0 0, []⟩) (a' := a') (n' := m + 1) (cap' := cap')
    (HBX.out.alloc HBX.out.size _) (Nat.le_refl _) (by have := (Array.getElem?_eq_some_iff.1 HRX.out).1; simp; omega) ((heap_alloc_old X _ (Array.getElem?_eq_some_iff.1 HRX.out).1).trans HRX.out)
    (fun W _ => ⟨OwnO.nil _ _, rfl, fun i u r hu _ => by simp at hu⟩) (fun k hk => by simp [Value.ownBlock] at hk) (fun u hu => by cases hu) (by rw [HM'.out]; exact hown) hgr (hbk.imp id fun e => e.trans (by simp))
   obtain ⟨p1, p2, p3, p4, p5⟩ := hp
   have P3 := Lib.hid p3
   have P4 := Lib.hid p4
   have P5 := Lib.hid p5
   clear p3 p4 p5 hown hgr hbk hX
   go_wp2_with fail
   go_ret
   refine HFin.out _ _ (Sx Sl w3 (w5.setCell ⟨l, 3, none⟩ (.slice a' (m + 1) cap'))) _ _ (HA3.out.log (Sl' := Sx Sl w3 (w5.setCell ⟨l, 3, none⟩ (.slice a' (m + 1) cap'))) ⟨_, _, P3.out, by rw [List.map_append, HL.out]; rfl, P5.out, fun k hk => ?_⟩ P4.out (fun k hk => hk)) (fun _ => ⟨rfl, rfl⟩) (fun h => absurd H0.out h)
   rcases hk with hk | hk
   · exact Nat.lt_of_lt_of_le (HA3.out.lt.2 k hk) P4.out.size
   · exact hk.2
 · have hb : ((createS s (segN dir n)).2 == 0) = false := by simpa using h0
   have HG : Hid (RollPost w0 T d l B s dir room sf gs n (.returned (.int .i64 (createS s (segN dir n)).2)) w3) := HFin.out _ _ _ _ _ HA3.out (fun h => absurd h h0) (fun _ => ⟨rfl, rfl⟩)
   clear hM3 h0
   obtain ⟨e, he⟩ : ∃ e, (createS s (segN dir n)).2 = e := ⟨_, rfl⟩
   rw [he] at HG hb ⊢
   clear he
   go_wp2_with fail
   go_ret
   exact HG.out
end Go.Proofs.YtjjcilinghgphaaGreat

/-! ### Plain laws of Append; a record more in memory. -/
namespace Go.Proofs.YtjjcilinghgphaaGreat
open Go.RowKit Go.Maps
set_option maxRecDepth 100000
section
variable {s : DS} {g : LG} {p : List UInt8}
theorem turnL_free (h : (szS g.la : Int) < g.room) : turnL s g = ⟨s, g, 0⟩ := by unfold turnL; rw [if_pos h]
theorem turnL_sync (h : ¬ (szS g.la : Int) < g.room) (h0 : (syncL s g).e ≠ 0) : turnL s g = syncL s g := by unfold turnL; rw [if_neg h, if_pos h0]
theorem syncL_next : (syncL s g).g.next = g.next ∧ (syncL s g).g.la = g.la ∧ (syncL s g).g.pre = g.pre ∧ (syncL s g).g.dir = g.dir ∧ (syncL s g).g.room = g.room := by
 unfold syncL
 split <;> exact ⟨rfl, rfl, rfl, rfl, rfl⟩
theorem turnL_roll (h : ¬ (szS g.la : Int) < g.room) (h0 : (syncL s g).e = 0) : turnL s g = rollL (syncL s g).s (syncL s g).g g.next := by
 unfold turnL
 rw [if_neg h, if_neg (fun h => h h0), syncL_next.1]
theorem rollL_ok {n : Nat} (h : (createS s (segN g.dir n)).2 = 0) : rollL s g n = ⟨(createS s (segN g.dir n)).1, { g with pre := g.pre ++ [g.la], la := ⟨n, []⟩ }, 0⟩ := by unfold rollL; rw [if_pos h]
theorem rollL_err {n : Nat} (h : (createS s (segN g.dir n)).2 ≠ 0) : rollL s g n = ⟨(createS s (segN g.dir n)).1, g, (createS s (segN g.dir n)).2⟩ := by unfold rollL; rw [if_neg h]
theorem appL_long (h : 262144 < p.length) : appL s g p = ⟨s, g, 2⟩ ∧ appN s g p = 0 := by
 have e : appL s g p = ⟨s, g, 2⟩ := by unfold appL; rw [if_pos h]
 exact ⟨e, by unfold appN; rw [e, if_neg (by simp)]⟩
theorem appL_range (h : ¬ 262144 < p.length) (h2 : 99999999 < g.next) : appL s g p = ⟨s, g, 1⟩ ∧ appN s g p = 0 := by
 have e : appL s g p = ⟨s, g, 1⟩ := by unfold appL; rw [if_neg h, if_pos h2]
 exact ⟨e, by unfold appN; rw [e, if_neg (by simp)]⟩
theorem appL_turn (h : ¬ 262144 < p.length) (h2 : ¬ 99999999 < g.next) (h3 : (turnL s g).e ≠ 0) : appL s g p = turnL s g ∧ appN s g p = 0 := by
 have e : appL s g p = turnL s g := by unfold appL; rw [if_neg h, if_neg h2, if_pos h3]
 exact ⟨e, by unfold appN; rw [e, if_neg h3]⟩
theorem appL_put (h : ¬ 262144 < p.length) (h2 : ¬ 99999999 < g.next) (h3 : (turnL s g).e = 0) : appL s g p = putL (turnL s g).s (turnL s g).g p := by
 unfold appL
 rw [if_neg h, if_neg h2, if_neg (fun e => e h3)]
theorem LOk.turn (h : LOk s g) (hn : g.next ≤ 99999999) : LOk (turnL s g).s (turnL s g).g ∧ ((turnL s g).e = 0 → (turnL s g).g.next = g.next) := by
 by_cases hf : (szS g.la : Int) < g.room
 · rw [turnL_free hf]; exact ⟨h, fun _ => rfl⟩
 · have hs := h.sync
   obtain ⟨n1, n2, _, _, _⟩ := syncL_next (s := s) (g := g)
   by_cases h0 : (syncL s g).e = 0
   · rw [turnL_roll hf h0]
     have hne : 0 < (syncL s g).g.la.rs.length := by
      rw [n2]
      have := h.r1
      rcases Nat.eq_zero_or_pos g.la.rs.length with h | h
      · have hnil := List.eq_nil_of_length_eq_zero h
        unfold szS at hf
        rw [hnil] at hf
        simp [joinF] at hf
        omega
      · exact h
     have hr := hs.roll (by rw [n1]; exact hn) hne
     rw [n1] at hr
     refine ⟨hr, fun e => ?_⟩
     unfold rollL at e ⊢
     split at e
     · rw [if_pos (by assumption)]; exact Nat.add_zero _
     · exact absurd e (by assumption)
   · rw [turnL_sync hf h0]
     exact ⟨hs, fun e => absurd e h0⟩
theorem LOk.app {B : Int} (h : LOk s g) (hd : DOk B (turnL s g).s) : LOk (appL s g p).s (appL s g p).g := by
 by_cases h1 : 262144 < p.length
 · rw [(appL_long h1).1]; exact h
 · by_cases h2 : 99999999 < g.next
   · rw [(appL_range h1 h2).1]; exact h
   · obtain ⟨t1, t2⟩ := h.turn (by omega)
     by_cases h3 : (turnL s g).e = 0
     · rw [appL_put h1 h2 h3]; exact t1.put hd p
     · rw [(appL_turn h1 h2 h3).1]; exact t1
theorem DOk.syncS' {B : Int} (h : DOk B s) (n : List UInt8) : DOk (B + 1) (syncS s n).1 := by
 refine h.errW _ _ fun _ he => ?_
 have hg : ∃ f, getF n s.fs = some f := by
  unfold hasE at he
  cases hf : getF n s.fs with
  | none => rw [hf] at he; simp at he
  | some f => exact ⟨f, rfl⟩
 obtain ⟨f, hf⟩ := hg
 refine h.fall.upd (f := f) (by rw [fallS_fs]; exact hf) _ (fun _ => rfl) (Nat.le_refl _) ?_
 show f.dt.length + _ ≤ _
 rw [fallS_fs]
 have := h.tot
 omega
end
/-- A record more: what both appends and the stores behind them leave. -/
theorem LgM.putted {w Y w5 : World} {l d : Nat} {dir : List UInt8} {room : Int} {sf : Nat} {sv : Value} {P : List Sv} {x : Sv} {S : Nat → Prop} (h : LgM w l d dir room sf sv (P ++ [x])) (hC : CovL S l sv (P ++ [x])) {a a' : Option Addr} {n cap n' cap' : Nat} {u : Value} {p : List UInt8} (hxv : x.v = .slice a n cap)
 (hY : Below w.heap.size w Y) (hu : Own8 Y w.heap.size 5 u p)
 (hown : OwnO w5 24 (.slice a' n' cap') (x.sg.rs.length + 1) (x.us ++ [u])) (hgr : Y.grownBy w5 (Value.slice a n cap).ownBlock) (hbk : (Value.slice a' n' cap').ownBlock = (Value.slice a n cap).ownBlock ∨ (Value.slice a' n' cap').ownBlock = some Y.heap.size) {z : Nat} (hz : z = szS x.sg + (p.length + 12)) :
 (w5.cell? ⟨x.b, 1, none⟩ = some (.slice a n cap) ∧ w5.frozen? ⟨x.b, 1, none⟩ = false ∧ (w5.setCell ⟨x.b, 1, none⟩ (.slice a' n' cap')).cell? ⟨x.b, 2, none⟩ = some (.int .i64 (szS x.sg : Nat)) ∧ (w5.setCell ⟨x.b, 1, none⟩ (.slice a' n' cap')).frozen? ⟨x.b, 2, none⟩ = false) ∧
 LgM ((w5.setCell ⟨x.b, 1, none⟩ (.slice a' n' cap')).setCell ⟨x.b, 2, none⟩ (.int .i64 (z : Nat))) l d dir room sf sv (P ++ [⟨⟨x.sg.f, x.sg.rs ++ [p]⟩, x.b, .slice a' n' cap', x.us ++ [u]⟩]) ∧
 Fr S w ((w5.setCell ⟨x.b, 1, none⟩ (.slice a' n' cap')).setCell ⟨x.b, 2, none⟩ (.int .i64 (z : Nat))) ∧
 CovL (Sx S w ((w5.setCell ⟨x.b, 1, none⟩ (.slice a' n' cap')).setCell ⟨x.b, 2, none⟩ (.int .i64 (z : Nat)))) l sv (P ++ [⟨⟨x.sg.f, x.sg.rs ++ [p]⟩, x.b, .slice a' n' cap', x.us ++ [u]⟩]) := by
 obtain ⟨b1, b2, b3⟩ := h.blocks
 obtain ⟨a1, a2⟩ := h.apart
 have hx : x ∈ P ++ [x] := by simp
 have hYs := hY.size
 have h5s := hgr.size
 have hxvb : (Value.slice a n cap).ownBlock = x.v.ownBlock := by rw [hxv]
 have hb5 : w5.heap[x.b]? = w.heap[x.b]? := (hgr.block x.b (by have := (b3 x hx).1; omega) (fun e => ((a2 x hx).2.1 x.b (by rw [← hxvb]; exact e.symm)).2 x hx rfl)).trans (hY.block _ (b3 x hx).1)
 have hrow5 := hb5.trans (h.hc x hx).row
 have hrow6 : (w5.setCell ⟨x.b, 1, none⟩ (.slice a' n' cap')).heap[x.b]? = some (.cells #[.int .i64 (x.sg.f : Nat), .slice a' n' cap', .int .i64 (szS x.sg : Nat)] 90 (0, 0)) := row_set hrow5 rfl
 have hsz : szS ⟨x.sg.f, x.sg.rs ++ [p]⟩ = z := by
  unfold szS at hz ⊢
  rw [joinF_snoc, List.length_append, frameOf_length]
  omega
 have hrow7 : ((w5.setCell ⟨x.b, 1, none⟩ (.slice a' n' cap')).setCell ⟨x.b, 2, none⟩ (.int .i64 (z : Nat))).heap[x.b]? = some (.cells #[.int .i64 (x.sg.f : Nat), .slice a' n' cap', .int .i64 (z : Nat)] 90 (0, 0)) := row_set hrow6 rfl
 have hfr5 : Fr (fun k => x.v.ownBlock = some k) w w5 := (Fr.of_new hY).grown hgr (fun k _ e => by rw [← hxvb]; exact e)
 have hfr : Fr (fun k => k = x.b ∨ x.v.ownBlock = some k) w ((w5.setCell ⟨x.b, 1, none⟩ (.slice a' n' cap')).setCell ⟨x.b, 2, none⟩ (.int .i64 (z : Nat))) :=
  ((hfr5.mono fun k _ e => .inr e).setCell (p := ⟨x.b, 1, none⟩) (fun _ => .inl rfl) _).setCell (p := ⟨x.b, 2, none⟩) (fun _ => .inl rfl) _
 have hs7 : ((w5.setCell ⟨x.b, 1, none⟩ (.slice a' n' cap')).setCell ⟨x.b, 2, none⟩ (.int .i64 (z : Nat))).heap.size = w5.heap.size := by simp
 have hoth : ∀ k, k ≠ x.b → ((w5.setCell ⟨x.b, 1, none⟩ (.slice a' n' cap')).setCell ⟨x.b, 2, none⟩ (.int .i64 (z : Nat))).heap[k]? = w5.heap[k]? := fun k hk =>
  (heap_setCell_other _ _ k _ hk).trans (heap_setCell_other _ _ k _ hk)
 have hvb : ∀ k, (Value.slice a' n' cap').ownBlock = some k → x.v.ownBlock = some k ∨ w.heap.size ≤ k := fun k hk => by
  rcases hbk with e | e
  · rw [e, hxvb] at hk; exact .inl hk
  · rw [e] at hk; cases hk; exact .inr hYs
 have hnew : ∀ k, w.heap.size ≤ k → k < w5.heap.size → Sx S w ((w5.setCell ⟨x.b, 1, none⟩ (.slice a' n' cap')).setCell ⟨x.b, 2, none⟩ (.int .i64 (z : Nat))) k := fun k h1 h2 => .inr ⟨h1, by rw [hs7]; exact h2⟩
 have hun : ∀ k, u.ownBlock = some k → w.heap.size ≤ k ∧ k < Y.heap.size := fun k hk => World.ownsRow.lt hu k hk
 refine ⟨⟨by rw [← hxv]; exact cell_of_row w5 x.b 1 _ _ _ hrow5, frozen_of_row w5 x.b 1 _ _ hrow5, cell_of_row _ x.b 2 _ _ _ hrow6, frozen_of_row _ x.b 2 _ _ hrow6⟩, ?_, ?_, ?_⟩
 · refine h.put (sg' := ⟨x.sg.f, x.sg.rs ++ [p]⟩) (p := p) rfl hfr (by rw [hsz]; exact hrow7) (hown.keep fun k hk => hoth k fun e => ?_) (ownsRow_keep (ownsRow_mono hu (Nat.zero_le _)) fun k hk => ?_) hvb
   · obtain ⟨_, cs, hcs⟩ := hown.lt k hk
     exact block_ne hcs hrow5 (by decide) e
   · obtain ⟨k1, k2⟩ := hun k hk
     refine (hoth k (fun e => by have := (b3 x hx).1; omega)).trans (hgr.block k k2 fun e => ?_)
     have := (b3 x hx).2.1 k (by rw [← hxvb]; exact e.symm)
     omega
 · exact hfr.mono fun k _ e => e.elim (fun e => e ▸ (hC.cx x hx).1) (fun e => (hC.cx x hx).2.1 k e)
 · refine ⟨.inl hC.cl, fun k hk => .inl (hC.cs k hk), fun y hy => ?_⟩
   rcases List.mem_append.1 hy with hy | hy
   · have hy' : y ∈ P ++ [x] := List.mem_append_left _ hy
     exact ⟨.inl (hC.cx y hy').1, fun k hk => .inl ((hC.cx y hy').2.1 k hk), fun u hu k hk => .inl ((hC.cx y hy').2.2 u hu k hk)⟩
   · rw [List.mem_singleton] at hy
     subst hy
     refine ⟨.inl (hC.cx x hx).1, fun k hk => ?_, fun q hq k hk => ?_⟩
     · rcases hvb k hk with e | e
       · exact .inl ((hC.cx x hx).2.1 k e)
       · exact hnew k e (hown.lt k hk).1
     · rcases List.mem_append.1 (show q ∈ x.us ++ [u] from hq) with hq | hq
       · exact .inl ((hC.cx x hx).2.2 q hq k hk)
       · rw [List.mem_singleton] at hq
         subst hq
         obtain ⟨k1, k2⟩ := hun k hk
         exact hnew k k1 (by omega)
/-- Steps one behind another. -/
theorem LWS.trans {B : Int} {w wx w' : World} {d l : Nat} {T : Nat → Prop} {s : DS} {g : LG} (h1 : Fr T w wx) (h2 : LWS B w' d l (Sx (Sx T w wx) wx w') s g) (h3 : Fr (Sx T w wx) wx w') (ht : ∀ k, T k → k < w.heap.size) : LWS B w' d l (Sx T w w') s g ∧ Fr T w w' := by
 have hs1 := h1.size
 have hs3 := h3.size
 have hsub : ∀ k, Sx (Sx T w wx) wx w' k → Sx T w w' k := fun k hk => by
  rcases hk with (e | e) | e
  · exact .inl e
  · exact .inr ⟨e.1, by omega⟩
  · exact .inr ⟨by omega, e.2⟩
 obtain ⟨Sd, Sl, q1, q2, q3, q4, q5, q6⟩ := h2
 refine ⟨⟨Sd, Sl, q1, q2, q3, fun k hk => hsub k (q4 k hk), fun k hk => hsub k (q5 k hk), fun k hk => hk.elim (fun e => by have := ht k e; omega) (fun e => e.2)⟩, h1.trans' h3 (fun _ _ e => e) fun k hk e => ?_⟩
 rcases e with e | e
 · exact e
 · omega
theorem LWS.new {B : Int} {w w' : World} {d l : Nat} {T : Nat → Prop} {s : DS} {g : LG} (h : LWS B w d l T s g) (hb : Below w.heap.size w w') : LWS B w' d l T s g := by
 obtain ⟨Sd, Sl, q1, q2, q3, q4, q5, q6⟩ := h
 exact ⟨Sd, Sl, q1.below hb, q2.below hb, q3, q4, q5, fun k hk => Nat.lt_of_lt_of_le (q6 k hk) hb.size⟩
theorem LWS.mono {B B' : Int} {w : World} {d l : Nat} {T T' : Nat → Prop} {s : DS} {g : LG} (h : LWS B w d l T s g) (hB : B ≤ B') (hT : ∀ k, T k → T' k) (hl : ∀ k, T' k → k < w.heap.size) : LWS B' w d l T' s g := by
 obtain ⟨Sd, Sl, q1, q2, q3, q4, q5, q6⟩ := h
 exact ⟨Sd, Sl, q1.mono hB (fun _ hk => hk) q1.lt, q2, q3, fun k hk => hT k (q4 k hk), fun k hk => hT k (q5 k hk), hl⟩
theorem LWS.lt {B : Int} {w : World} {d l : Nat} {T : Nat → Prop} {s : DS} {g : LG} (h : LWS B w d l T s g) : ∀ k, T k → k < w.heap.size := by
 obtain ⟨Sd, Sl, q1, q2, q3, q4, q5, q6⟩ := h
 exact q6
theorem LWS.ok {B : Int} {w : World} {d l : Nat} {T : Nat → Prop} {s : DS} {g : LG} (h : LWS B w d l T s g) : DOk B s := by
 obtain ⟨Sd, Sl, q1, q2, q3, q4, q5, q6⟩ := h
 exact q1.ok
theorem Sx.lt {w w' : World} {T : Nat → Prop} (hs : w.heap.size ≤ w'.heap.size) (ht : ∀ k, T k → k < w.heap.size) : ∀ k, Sx T w w' k → k < w'.heap.size := fun k hk => hk.elim (fun e => by have := ht k e; omega) (fun e => e.2)
def AppPost (B : Int) (w : World) (d l : Nat) (T : Nat → Prop) (s : DS) (g : LG) (p : List UInt8) (e : Ending) (w' : World) : Prop :=
 e = .returned (.tuple #[.int .i64 (appN s g p), .int .i64 (appL s g p).e]) ∧ LWS B w' d l (Sx T w w') (appL s g p).s (appL s g p).g ∧ Fr T w w'
end Go.Proofs.YtjjcilinghgphaaGreat
