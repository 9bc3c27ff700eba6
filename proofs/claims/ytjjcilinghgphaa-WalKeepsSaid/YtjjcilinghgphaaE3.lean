/-
  The disk of chapter 6 in memory: what becomes of it when a block is written. The walk of 'last'.
-/
import Derived.Test.YtjjcilinghgphaaE2
import Derived.OneCell
import Derived.Laws.Rows
import Derived.StillTailTactics
namespace Go.Proofs.Ytjjcilinghgphaa
open Go.RowKit Go.Maps
set_option maxRecDepth 100000

theorem row_set {w : World} {g i : Nat} {cs cs' : Array Value} {t : TypeId} {v : Value} (hg : w.heap[g]? = some (.cells cs t (0, 0))) (he : cs.setIfInBounds i v = cs') : (w.setCell ⟨g, i, none⟩ v).heap[g]? = some (.cells cs' t (0, 0)) := by
  rw [heap_setCell_same w g i cs t v hg, he]
/-- One file of a name. -/
theorem one_of {L : List Cel} (h : Srt (L.map Cel.f)) {c y : Cel} (hc : c ∈ L) (hy : y ∈ L) (e : c.nm = y.nm) : c = y := by
  have h1 : L.Pairwise fun a b => bB a.nm b.nm = true := List.pairwise_map.1 h
  clear h
  induction L with
  | nil => cases hc
  | cons z r ih =>
    obtain ⟨h2, h3⟩ := List.pairwise_cons.1 h1
    rcases List.mem_cons.1 hc with hc' | hc' <;> rcases List.mem_cons.1 hy with hy' | hy'
    · rw [hc', hy']
    · subst hc'; exact absurd e (bB_ne (h2 y hy'))
    · subst hy'; exact absurd e.symm (bB_ne (h2 c hc'))
    · exact ih hc' hy' h3
theorem ap_of {L : List Cel} (h : L.Pairwise fun x y => x.b ≠ y.b ∧ ∀ k, x.v.ownBlock = some k → y.v.ownBlock ≠ some k) {x y : Cel} (hx : x ∈ L) (hy : y ∈ L) (hne : x ≠ y) : x.b ≠ y.b ∧ ∀ k, x.v.ownBlock = some k → y.v.ownBlock ≠ some k := by
  induction L with
  | nil => cases hx
  | cons z r ih =>
    obtain ⟨h2, h3⟩ := List.pairwise_cons.1 h
    rcases List.mem_cons.1 hx with hx' | hx' <;> rcases List.mem_cons.1 hy with hy' | hy'
    · exact absurd (hx'.trans hy'.symm) hne
    · subst hx'; exact h2 y hy'
    · subst hy'
      have := h2 x hx'
      exact ⟨fun e => this.1 e.symm, fun k hk hk' => this.2 k hk' hk⟩
    · exact ih h3 hx' hy'

section
variable {w w' : World} {d m : Nat} {L : List Cel} {wr ar : Int} {dn : Bool}
/-- Blocks of different kinds are different. -/
theorem Dk.apart (h : Dk w d m L wr ar dn) : d ≠ m ∧ ∀ c ∈ L, c.b ≠ d ∧ c.b ≠ m ∧ (∀ k, c.v.ownBlock = some k → k ≠ d ∧ k ≠ m ∧ ∀ y ∈ L, k ≠ y.b) := by
  obtain ⟨es, ck, hmm⟩ := ownsMap_isMap h.hm
  have hd := h.hd
  refine ⟨fun e => (by rw [e, hmm] at hd; cases hd), fun c hc => ?_⟩
  obtain ⟨h1, h2⟩ := h.hc c hc
  refine ⟨fun e => (by rw [e, hd] at h1; simp at h1), fun e => (by rw [e, hmm] at h1; cases h1), fun k hk => ?_⟩
  obtain ⟨cur, hg⟩ := h2.at k hk
  refine ⟨fun e => (by rw [e, hd] at hg; simp at hg), fun e => (by rw [e, hmm] at hg; cases hg), fun y hy e => ?_⟩
  have h3 := (h.hc y hy).1
  rw [e, h3] at hg
  simp at hg
/-- The disk's own numbers are others. -/
theorem Dk.scal (h : Dk w d m L wr ar dn) {wr' ar' : Int} {dn' : Bool} (hf : Fr (fun k => k = d) w w') (hd : w'.heap[d]? = some (.cells #[.map (some m), .int .i64 (tot (L.map Cel.f) : Nat), .int .i64 wr', .int .i64 ar', .bool dn'] 82 (0, 0))) : Dk w' d m L wr' ar' dn' := by
  obtain ⟨b1, b2, b3⟩ := h.blocks
  obtain ⟨a1, a2⟩ := h.apart
  exact ⟨hd, ownsMap_block h.hm (hf.block m b2 (fun e => a1 e.symm)), fun c hc =>
    ⟨(hf.block c.b (b3 c hc).1 (a2 c hc).1).trans (h.hc c hc).1, (h.hc c hc).2.block fun k hk => hf.block k ((b3 c hc).2 k hk) ((a2 c hc).2.2 k hk).1⟩, h.ap⟩
/-- A file's block and bytes are others. -/
theorem Dk.file (h : Dk w d m L wr ar dn) (hsr : Srt (L.map Cel.f)) {n : List UInt8} {c : Cel} (hg : getC n L = some c) {dt' : List UInt8} {sf' : Nat} {v' : Value}
    (hf : Fr (fun k => k = d ∨ k = c.b ∨ c.v.ownBlock = some k) w w')
    (hd : w'.heap[d]? = some (.cells #[.map (some m), .int .i64 (tot (updF n (fun f => ⟨f.nm, dt', sf'⟩) (L.map Cel.f)) : Nat), .int .i64 wr, .int .i64 ar, .bool dn] 82 (0, 0)))
    (hb : w'.heap[c.b]? = some (.cells #[v', .int .i64 (sf' : Nat)] 84 (0, 0))) (ho : OwnC w' v' dt') (hv : ∀ k, v'.ownBlock = some k → c.v.ownBlock = some k ∨ w.heap.size ≤ k) :
    Dk w' d m (updC n (fun c => ⟨c.nm, dt', sf', c.b, v'⟩) L) wr ar dn := by
  obtain ⟨b1, b2, b3⟩ := h.blocks
  obtain ⟨a1, a2⟩ := h.apart
  obtain ⟨hcL, hcn⟩ := getC_some hg
  have hone : ∀ y ∈ L, y.nm = n → y = c := fun y hy e => one_of hsr hy hcL (e.trans hcn.symm)
  have huf : (updC n (fun c => ⟨c.nm, dt', sf', c.b, v'⟩) L).map Cel.f = updF n (fun f => ⟨f.nm, dt', sf'⟩) (L.map Cel.f) := updC_f n _ _ (fun _ _ => rfl) L
  refine ⟨by rw [huf]; exact hd, ?_, fun y hy => ?_, ?_⟩
  · rw [mapOf_upd L n (fun c => ⟨c.nm, dt', sf', c.b, v'⟩) (fun _ => ⟨rfl, rfl⟩), show (updC n (fun c => ⟨c.nm, dt', sf', c.b, v'⟩) L).length = L.length by simp [updC]]
    refine ownsMap_block h.hm (hf.block m b2 ?_)
    rintro (e | e | e)
    · exact a1 e.symm
    · exact (a2 c hcL).2.1 e.symm
    · exact ((a2 c hcL).2.2 m e).2.1 rfl
  · obtain ⟨z, hz, ⟨hzn, rfl⟩ | ⟨hzn, rfl⟩⟩ := mem_updC hy
    · have hzc : y ≠ c := fun e => hzn (by rw [e]; exact hcn)
      have hap := ap_of h.ap hz hcL hzc
      refine ⟨(hf.block y.b (b3 y hz).1 ?_).trans (h.hc y hz).1, (h.hc y hz).2.block fun k hk => hf.block k ((b3 y hz).2 k hk) ?_⟩
      · rintro (e | e | e)
        · exact (a2 y hz).1 e
        · exact hap.1 e
        · exact ((a2 c hcL).2.2 _ e).2.2 y hz rfl
      · rintro (e | e | e)
        · exact ((a2 y hz).2.2 k hk).1 e
        · exact ((a2 y hz).2.2 k hk).2.2 c hcL e
        · exact hap.2 k hk e
    · obtain rfl := hone z hz hzn
      exact ⟨hb, ho⟩
  · have hvn : ∀ y ∈ L, y.nm ≠ n → ∀ k, v'.ownBlock = some k → y.v.ownBlock ≠ some k := fun y hy hyn k hk hk' => by
      have hyc : y ≠ c := fun e => hyn (by rw [e]; exact hcn)
      rcases hv k hk with h1 | h1
      · exact (ap_of h.ap hy hcL hyc).2 k hk' h1
      · have := (b3 y hy).2 k hk'; omega
    have h1 : L.Pairwise fun a b => bB a.nm b.nm = true := List.pairwise_map.1 hsr
    refine List.pairwise_map.2 ((List.pairwise_and_iff.2 ⟨h.ap, h1⟩).imp_of_mem fun {x y} hx hy hxy => ?_)
    obtain ⟨hxy, hnn⟩ := hxy
    by_cases ex : x.nm == n <;> by_cases ey : y.nm == n
    · rw [beq_iff_eq] at ex ey
      exact absurd (ex.trans ey.symm) (bB_ne hnn)
    · rw [if_pos ex, if_neg ey]
      exact ⟨hxy.1, fun k hk => hvn y hy (by simpa using ey) k hk⟩
    · rw [if_neg ex, if_pos ey]
      exact ⟨hxy.1, fun k hk hk' => hvn x hx (by simpa using ex) k hk' hk⟩
    · rw [if_neg ex, if_neg ey]; exact hxy
/-- A new file. -/
theorem Dk.put (h : Dk w d m L wr ar dn) {c : Cel} (hg : getC c.nm L = none) {sz : Nat} (hsz : sz = tot (L.map Cel.f) + c.dt.length) {wr' ar' : Int} {dn' : Bool} (hf : Fr (fun k => k = d ∨ k = m) w w')
    (hd : w'.heap[d]? = some (.cells #[.map (some m), .int .i64 (sz : Nat), .int .i64 wr', .int .i64 ar', .bool dn'] 82 (0, 0)))
    (hm : ∃ n, w'.ownsMap Try.prog 9 ptrE m n (mapOf (insC c L)))
    (hb : w'.heap[c.b]? = some (.cells #[c.v, .int .i64 (c.sf : Nat)] 84 (0, 0))) (ho : OwnC w' c.v c.dt) (hbn : w.heap.size ≤ c.b) (hv : ∀ k, c.v.ownBlock = some k → w.heap.size ≤ k) :
    Dk w' d m (insC c L) wr' ar' dn' := by
  obtain ⟨b1, b2, b3⟩ := h.blocks
  obtain ⟨a1, a2⟩ := h.apart
  refine ⟨?_, ?_, fun y hy => ?_, pairwise_insC (fun a b hab => ⟨fun e => hab.1 e.symm, fun k hk hk' => hab.2 k hk' hk⟩) h.ap fun y hy => ⟨fun e => ?_, fun k hk hk' => ?_⟩⟩
  · rw [insC_f, tot_ins, show c.f.dt.length + tot (L.map Cel.f) = sz by rw [hsz, Nat.add_comm]; rfl]; exact hd
  · obtain ⟨n, hm⟩ := hm
    have := ownsMap_tight hm
    rw [mapOf_size] at this; exact this
  · rcases mem_insC.1 hy with rfl | hy
    · exact ⟨hb, ho⟩
    · refine ⟨(hf.block y.b (b3 y hy).1 ?_).trans (h.hc y hy).1, (h.hc y hy).2.block fun k hk => hf.block k ((b3 y hy).2 k hk) ?_⟩
      · rintro (e | e)
        · exact (a2 y hy).1 e
        · exact (a2 y hy).2.1 e
      · rintro (e | e)
        · exact ((a2 y hy).2.2 k hk).1 e
        · exact ((a2 y hy).2.2 k hk).2.1 e
  · have := (b3 y hy).1; omega
  · have := (b3 y hy).2 k hk'; have := hv k hk; omega
/-- A file less. -/
theorem Dk.del (h : Dk w d m L wr ar dn) (n : List UInt8) {sz : Nat} (hsz : sz = tot ((delC n L).map Cel.f)) (hf : Fr (fun k => k = d ∨ k = m) w w')
    (hd : w'.heap[d]? = some (.cells #[.map (some m), .int .i64 (sz : Nat), .int .i64 wr, .int .i64 ar, .bool dn] 82 (0, 0)))
    (hm : ∃ k, w'.ownsMap Try.prog 9 ptrE m k (mapOf (delC n L))) : Dk w' d m (delC n L) wr ar dn := by
  obtain ⟨b1, b2, b3⟩ := h.blocks
  obtain ⟨a1, a2⟩ := h.apart
  refine ⟨by rw [← hsz]; exact hd, ?_, fun y hy => ?_, h.ap.filter _⟩
  · obtain ⟨k, hm⟩ := hm
    have := ownsMap_tight hm
    rw [mapOf_size] at this; exact this
  · have hy := (mem_delC.1 hy).1
    refine ⟨(hf.block y.b (b3 y hy).1 ?_).trans (h.hc y hy).1, (h.hc y hy).2.block fun k hk => hf.block k ((b3 y hy).2 k hk) ?_⟩
    · rintro (e | e)
      · exact (a2 y hy).1 e
      · exact (a2 y hy).2.1 e
    · rintro (e | e)
      · exact ((a2 y hy).2.2 k hk).1 e
      · exact ((a2 y hy).2.2 k hk).2.1 e
/-- The disk's cells, for a walk. -/
theorem dcells {sz : Int} (hd : w.heap[d]? = some (.cells #[.map (some m), .int .i64 sz, .int .i64 wr, .int .i64 ar, .bool dn] 82 (0, 0))) :
    (w.cell? ⟨d, 0, none⟩ = some (.map (some m)) ∧ w.cell? ⟨d, 1, none⟩ = some (.int .i64 sz) ∧ w.cell? ⟨d, 2, none⟩ = some (.int .i64 wr) ∧ w.cell? ⟨d, 3, none⟩ = some (.int .i64 ar) ∧ w.cell? ⟨d, 4, none⟩ = some (.bool dn)) ∧
    (w.frozen? ⟨d, 1, none⟩ = false ∧ w.frozen? ⟨d, 2, none⟩ = false ∧ w.frozen? ⟨d, 3, none⟩ = false ∧ w.frozen? ⟨d, 4, none⟩ = false) :=
  ⟨⟨cell_of_row w d 0 _ _ _ hd, cell_of_row w d 1 _ _ _ hd, cell_of_row w d 2 _ _ _ hd, cell_of_row w d 3 _ _ _ hd, cell_of_row w d 4 _ _ _ hd⟩,
   ⟨frozen_of_row w d 1 _ _ hd, frozen_of_row w d 2 _ _ hd, frozen_of_row w d 3 _ _ hd, frozen_of_row w d 4 _ _ hd⟩⟩
end

/-- The block of the disk behind 'last'. -/
def LastPost (w : World) (d m : Nat) (sz _wr _ar : Int) (l : Bool) (wr' ar' : Int) (e : Ending) (w' : World) : Prop :=
  e = .returned (.bool l) ∧ Fr (fun k => k = d) w w' ∧ w'.heap[d]? = some (.cells #[.map (some m), .int .i64 sz, .int .i64 wr', .int .i64 ar', .bool l] 82 (0, 0))
set_option maxHeartbeats 1000000 in
theorem last_any (d m : Nat) (sz wr ar : Int) (w : World) (hd : w.heap[d]? = some (.cells #[.map (some m), .int .i64 sz, .int .i64 wr, .int .i64 ar, .bool false] 82 (0, 0)))
    (h0 : 0 ≤ ar) (h1 : ar ≤ 9223372036854775807) (h2 : 0 ≤ wr) (h3 : wr < 1000000000000) :
    Calls Try.prog 54 #[.pointer (some ⟨d, 0, none⟩)] w (LastPost w d m sz wr ar (decide (ar = 1)) (if ar = 1 then wr else wr + 1) (if 0 < ar then ar - 1 else ar)) := by
  have HD := Lib.hid hd
  obtain ⟨⟨c0, c1, c2, c3, c4⟩, f1, f2, f3, f4⟩ := dcells hd
  clear hd
  rcases (by omega : ar = 1 ∨ 1 < ar ∨ ar = 0) with rfl | ha | rfl
  · go_enter Try.func54, Try.ntmps54
    go_wp2
    go_ret
    exact ⟨rfl, (((Fr.refl (fun k => k = d) w).setCell (fun _ => rfl) _).setCell (fun _ => rfl) _), row_set (row_set HD.out rfl) rfl⟩
  · have e1 : (ar == 1) = false := by simp; omega
    have e2 : ¬ ar = 1 := by omega
    have e3 : decide (0 < ar) = true := by simp; omega
    have e4 : (ar - 1 == 0) = false := by simp; omega
    have e5 : 0 < ar := by omega
    go_enter Try.func54, Try.ntmps54
    go_wp2
    go_ret
    exact ⟨rfl, ((((Fr.refl (fun k => k = d) w).setCell (fun _ => rfl) _).setCell (fun _ => rfl) _).setCell (fun _ => rfl) _), row_set (row_set (row_set HD.out rfl) rfl) rfl⟩
  · go_enter Try.func54, Try.ntmps54
    go_wp2
    go_ret
    exact ⟨rfl, ((Fr.refl (fun k => k = d) w).setCell (fun _ => rfl) _), row_set HD.out rfl⟩
end Go.Proofs.Ytjjcilinghgphaa
