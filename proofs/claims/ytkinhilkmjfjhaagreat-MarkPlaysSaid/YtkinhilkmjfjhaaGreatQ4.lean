/-
  What Load of a mark tells; the program's Load.
-/
import Derived.Test.YtkinhilkmjfjhaaGreatQ3
import Derived.Test.YtkinhilkmjfjhaaGreatFZ
import Derived.Test.YtkinhilkmjfjhaaGreatE12
import Derived.Laws.ResultCell
namespace Go.Proofs.YtkinhilkmjfjhaaGreat
open Go.RowKit Go.Maps Go.Sort
set_option maxRecDepth 100000
attribute [local go_sem] bs_size bs_toList

def nmM : List UInt8 := [109, 97, 114, 107]
def nmF : List UInt8 := [109, 97, 114, 107, 46, 110, 101, 119]
/-- What bytes tell. -/
def loadR (b : List UInt8) : Mk × Int :=
  if (scan b).1.length = 1 ∧ (scan b).2 = b.length ∧ okL ((scan b).1.getD 0 []) = true then (rdM ((scan b).1.getD 0 []), 0) else (mk0, 13)
def loadM (s : DS) : Mk × Int := match getF nmM s.fs with
  | none => (mk0, 8)
  | some f => loadR f.dt
theorem scanN_rec : ∀ (k : Nat) (b : List UInt8), ∀ r ∈ (scanN k b).1, r.length ≤ 262144
  | 0, b, r, h => by simp [scanN] at h
  | k + 1, b, r, h => by
    unfold scanN at h
    split at h
    · rename_i hw
      rcases List.mem_cons.1 h with rfl | h
      · have h1 : sizeOf4 b ≤ 262144 := by
          unfold whole headOk at hw
          simp only [Bool.and_eq_true, decide_eq_true_eq] at hw
          exact hw.1.2.1.1
        unfold recOf
        rw [List.length_take]; omega
      · exact scanN_rec k _ r h
    · simp at h
theorem scan_rec (b : List UInt8) : ∀ r ∈ (scan b).1, r.length ≤ 262144 := scanN_rec _ b
def OwnT (w : World) (base : Nat) (t : TypeId) (v : Value) (ts : List (Int × Int)) : Prop := w.ownsRow base t 2 v ts.length (tCells ts)
theorem OwnT.rd {w : World} {base : Nat} {t : TypeId} {v : Value} {ts : List (Int × Int)} (h : OwnT w base t v ts) : ∃ a cap, v = .slice a ts.length cap ∧ RdT w a cap ts := by
  obtain ⟨a, cap, hv, hr⟩ := Rd.of_own h
  exact ⟨a, cap, hv, hr⟩
theorem OwnT.nil (w : World) (base : Nat) (t : TypeId) : OwnT w base t (.slice none 0 0) [] := World.ownsRow_nil _ _ _ _
theorem OwnT.below {w w' : World} {base : Nat} {t : TypeId} {v : Value} {ts : List (Int × Int)} (h : OwnT w base t v ts) {B : Nat} (hB : w.heap.size ≤ B) (hb : Below B w w') : OwnT w' base t v ts := ownsRow_below h hB hb
theorem OwnT.mono {w : World} {base base' : Nat} {t : TypeId} {v : Value} {ts : List (Int × Int)} (h : OwnT w base t v ts) (hb : base' ≤ base) : OwnT w base' t v ts := ownsRow_mono h hb
def LoadEnd (w : World) (t : TypeId) (r : Mk × Int) (e : Ending) (w' : World) : Prop :=
  ∃ v, e = .returned (.tuple #[mkV r.1 v, .int .i64 r.2]) ∧ OwnT w' w.heap.size t v r.1.ts ∧ Below w.heap.size w w'
theorem STc : STy Tryz.prog 33 60 (.agg #[.int .i64 0, .int .i64 0]) 2 16 := ⟨Tryz.underlying33, ⟨_, rfl, by kernel_rfl, by kernel_rfl, by kernel_rfl⟩, rfl, by decide⟩
theorem mk_zero : (Tryz.prog.info? 35).bind (fun i => i.zero.map (·.cells)) = some #[.int .i64 0, .int .i64 0, .int .i64 0, .slice none 0 0] := by kernel_rfl
theorem load_mk {w : World} {b : Nat} {x y z v : Value} (c0 : w.cell? ⟨b, 0, none⟩ = some x) (c1 : w.cell? ⟨b, 1, none⟩ = some y) (c2 : w.cell? ⟨b, 2, none⟩ = some z) (c3 : w.cell? ⟨b, 3, none⟩ = some v) :
    (loadVar 35 ⟨b, 0, none⟩).run Tryz.prog w = .ok (.agg #[x, y, z, v]) w := by
  go_simp
theorem below_set4 {B b : Nat} {w w' : World} (h : Below B w w') (hb : B ≤ b) (x y z v : Value) :
    Below B w ((((w'.setCell ⟨b, 0, none⟩ x).setCell ⟨b, 1, none⟩ y).setCell ⟨b, 2, none⟩ z).setCell ⟨b, 3, none⟩ v) :=
  (((h.setCell (p := ⟨b, 0, none⟩) hb _).setCell (p := ⟨b, 1, none⟩) hb _).setCell (p := ⟨b, 2, none⟩) hb _).setCell (p := ⟨b, 3, none⟩) hb _
theorem row_set4 {w : World} {b : Nat} {t : TypeId} {x0 x1 x2 x3 : Value} (h : w.heap[b]? = some (.cells #[x0, x1, x2, x3] t (0, 0))) (x y z v : Value) :
    ((((w.setCell ⟨b, 0, none⟩ x).setCell ⟨b, 1, none⟩ y).setCell ⟨b, 2, none⟩ z).setCell ⟨b, 3, none⟩ v).heap[b]? = some (.cells #[x, y, z, v] t (0, 0)) :=
  row_set (i := 3) (row_set (i := 2) (row_set (i := 1) (row_set (i := 0) h rfl) rfl) rfl) rfl
theorem same_set4 {w : World} {b k : Nat} (h : k ≠ b) (x y z v : Value) : ((((w.setCell ⟨b, 0, none⟩ x).setCell ⟨b, 1, none⟩ y).setCell ⟨b, 2, none⟩ z).setCell ⟨b, 3, none⟩ v).heap[k]? = w.heap[k]? := by
  rw [Below.heap_setCell _ _ _ _ h, Below.heap_setCell _ _ _ _ h, Below.heap_setCell _ _ _ _ h, Below.heap_setCell _ _ _ _ h]
theorem load_row {w : World} {b : Nat} {t : TypeId} {fr : Nat × Nat} {x y z v : Value} (h : w.heap[b]? = some (.cells #[x, y, z, v] t fr)) : (loadVar 35 ⟨b, 0, none⟩).run Tryz.prog w = .ok (.agg #[x, y, z, v]) w :=
  load_mk (cell_of_row _ _ 0 _ _ _ h) (cell_of_row _ _ 1 _ _ _ h) (cell_of_row _ _ 2 _ _ _ h) (cell_of_row _ _ 3 _ _ _ h)
/-- The result's block while Load goes on. -/
structure ResAt (w : World) (W : World) : Prop where
  row : W.heap[w.heap.size]? = some (.cells #[.int .i64 0, .int .i64 0, .int .i64 0, .slice none 0 0] 35 (0, 0))
  bel : Below w.heap.size w W
theorem ResAt.new {w W W' : World} (h : ResAt w W) (hb : Below W.heap.size W W') : ResAt w W' :=
  ⟨(hb.block w.heap.size (Array.getElem?_eq_some_iff.1 h.row).1).trans h.row, h.bel.trans (hb.mono h.bel.size)⟩
theorem ResAt.keep {S : Nat → Prop} {w W W' : World} (h : ResAt w W) (hf : Fr S W W') (hn : ∀ k, k ≤ w.heap.size → ¬ S k) : ResAt w W' :=
  ⟨(hf.block w.heap.size (Array.getElem?_eq_some_iff.1 h.row).1 (hn _ (Nat.le_refl _))).trans h.row, h.bel.trans (hf.below h.bel.size fun k hk => hn k (Nat.le_of_lt hk))⟩
theorem resAt0 (w : World) : ResAt w (w.alloc (.cells #[.int .i64 0, .int .i64 0, .int .i64 0, .slice none 0 0] 35)) := ⟨heap_alloc_new _ _, (Below.refl _ _).alloc (Nat.le_refl _) _⟩
theorem Own88.one {w : World} {base : Nat} {v : Value} {vs : List Value} {ls : List (List UInt8)} {r : List UInt8} (h : Own88 w base v vs ls) (hl : ls = [r]) :
    ∃ b off cap ai ci, v = .slice (some ⟨b, off, none⟩) 1 cap ∧ w.cell? ⟨b, off, none⟩ = some (.slice ai r.length ci) ∧ Rd8 w ai r.length ci r ∧ b < w.heap.size := by
  subst hl
  obtain ⟨h1, h2, _⟩ := h
  obtain ⟨a, cap, rfl, hr⟩ := Rd.of_own h1
  have hv : vs.length = 1 := by have := hr.2.2.2.1; simpa using this
  obtain ⟨u, rfl⟩ := List.length_eq_one_iff.1 hv
  have h8 := h2 0 u r rfl rfl
  obtain ⟨ai, ci, rfl, hrd⟩ := h8.rd
  obtain ⟨b, off, rfl, hb, hc⟩ := hr.at (by simp)
  exact ⟨b, off, cap, ai, ci, rfl, hc 0 _ rfl, hrd, hb⟩
/-- A mark that is being read: the reader at p, the mark's variable at q (p < q). -/
structure LpM (w3 : World) (p q : Nat) (a : Option Addr) (cap : Nat) (r : List UInt8) (tm tc : TypeId) (x y z : Int) (s : RS) (v : Value) (ts : List (Int × Int)) (W : World) : Prop where
  rr : RrS W p a cap r s
  low : Below w3.heap.size w3 W
  row : W.heap[q]? = some (.cells #[.int .i64 x, .int .i64 y, .int .i64 z, v] tm (0, 0))
  own : OwnT W (q + 1) tc v ts
  c1 : w3.heap.size ≤ p
  c2 : p < q
  c3 : ∀ b, blk a = some b → b < q
section
variable {w3 : World} {p q : Nat} {a : Option Addr} {cap : Nat} {r : List UInt8} {tm tc : TypeId} {x y z : Int} {s : RS} {v : Value} {ts : List (Int × Int)} {W W' : World}
theorem LpM.lt (h : LpM w3 p q a cap r tm tc x y z s v ts W) : q < W.heap.size := (Array.getElem?_eq_some_iff.1 h.row).1
theorem LpM.cell3 (h : LpM w3 p q a cap r tm tc x y z s v ts W) : W.cell? ⟨q, 3, none⟩ = some v := cell_of_row _ _ 3 _ _ _ h.row
theorem LpM.fr3 (h : LpM w3 p q a cap r tm tc x y z s v ts W) : W.frozen? ⟨q, 3, none⟩ = false := frozen_of_row _ _ 3 _ _ h.row
theorem LpM.new (h : LpM w3 p q a cap r tm tc x y z s v ts W) (hb : Below W.heap.size W W') : LpM w3 p q a cap r tm tc x y z s v ts W' :=
  ⟨Rr.below h.rr hb, h.low.trans (hb.mono h.low.size), (hb.block q h.lt).trans h.row, OwnT.below h.own (Nat.le_refl _) hb, h.c1, h.c2, h.c3⟩
theorem LpM.int (h : LpM w3 p q a cap r tm tc x y z s v ts W) {s' : RS} (hd : RDoneS W p a cap r s' W') : LpM w3 p q a cap r tm tc x y z s' v ts W' := by
  have c1 := h.c1
  have c2 := h.c2
  refine ⟨hd.1, h.low.trans (hd.2.below h.low.size fun k hk e => ?_), (hd.2.block q h.lt fun e => ?_).trans h.row, ownsRow_keep h.own fun k hk => hd.2.block k (World.ownsRow.lt h.own k hk).2 fun e => ?_, h.c1, h.c2, h.c3⟩
  · have e : k = p := e; omega
  · have e : q = p := e; omega
  · have e : k = p := e; have := (World.ownsRow.lt h.own k hk).1; omega
theorem LpM.app (h : LpM w3 p q a cap r tm tc x y z s v ts W) {W1 : World} (hb : Below W.heap.size W W1) (hg : W1.grownBy W' v.ownBlock) {v' : Value} {ts' : List (Int × Int)} (ho : OwnT W' (q + 1) tc v' ts') :
    LpM w3 p q a cap r tm tc x y z s v' ts' (W'.setCell ⟨q, 3, none⟩ v') := by
  have c1 := h.c1
  have c2 := h.c2
  have h1 := h.new hb
  have hf : Fr (fun k => v.ownBlock = some k) W1 W' := (Fr.refl _ W1).grown hg fun k _ e => e
  have hov : ∀ k, v.ownBlock = some k → q + 1 ≤ k ∧ k < W1.heap.size := fun k hk => World.ownsRow.lt h1.own k hk
  have hq : W'.heap[q]? = _ := (hf.block q h1.lt fun e => by have := (hov q e).1; omega).trans h1.row
  have hrr : RrS W' p a cap r s := Rr.keep h1.rr hf (fun e => by have := (hov p e).1; omega) (fun b hb e => by have := (hov b e).1; have := h.c3 b hb; omega)
  have hs : Fr (fun k => k = q) W' (W'.setCell ⟨q, 3, none⟩ v') := (Fr.refl (fun k => k = q) W').setCell (p := ⟨q, 3, none⟩) (fun _ => rfl) _
  refine ⟨Rr.keep hrr hs (fun e => by omega) (fun b hb e => by have := h.c3 b hb; omega), (h1.low.trans (hf.below h1.low.size fun k hk e => by have := (hov k e).1; omega)).setCell (p := ⟨q, 3, none⟩) (by show w3.heap.size ≤ q; omega) _, row_set (i := 3) hq rfl, ownsRow_keep ho fun k hk => hs.block k (World.ownsRow.lt ho k hk).2 fun e => ?_, h.c1, h.c2, h.c3⟩
  have := (World.ownsRow.lt ho k hk).1; omega
theorem LpM.appRow (h : LpM w3 p q a cap r tm tc x y z s v ts W) {W1 : World} (hb : Below W.heap.size W W1) (hg : W1.grownBy W' v.ownBlock) :
    W'.cell? ⟨q, 3, none⟩ = some v ∧ W'.frozen? ⟨q, 3, none⟩ = false ∧ q < W'.heap.size := by
  have h1 := h.new hb
  have hf : Fr (fun k => v.ownBlock = some k) W1 W' := (Fr.refl _ W1).grown hg fun k _ e => e
  have hq : W'.heap[q]? = _ := (hf.block q h1.lt fun e => by have := (World.ownsRow.lt h1.own q e).1; omega).trans h1.row
  exact ⟨cell_of_row _ _ 3 _ _ _ hq, frozen_of_row _ _ 3 _ _ hq, (Array.getElem?_eq_some_iff.1 hq).1⟩
end
theorem Rd.one2 (w : World) (x y : Value) (e : TypeId) : Rd (w.alloc (.cells #[x, y] e)) (some ⟨w.heap.size, 0, none⟩) 1 1 2 [x, y] := by
  refine ⟨Nat.le_refl _, by decide, (fun h => by cases h), rfl, fun j u hj => ⟨w.heap.size, 0, rfl, ?_⟩⟩
  rw [Nat.zero_add, cell_of_row _ w.heap.size j #[x, y] e (0, 0) (heap_alloc_new w _)]
  simpa using hj
set_option maxHeartbeats 4000000 in
theorem mload_any (d : Nat) (S : Nat → Prop) (B : Int) (s : DS) (w : World) (h : DkS B w d S s) :
    Calls Tryz.prog 14 #[.pointer (some ⟨d, 0, none⟩)] w (LoadEnd w 60 (loadM s)) := by
  have HD := Lib.hid h
  clear h
  go_enter Tryz.func14, Tryz.ntmps14
  go_wp2_with fail
  go_at_call 43
  have hr := resAt0 w
  obtain ⟨W1, hW1⟩ : ∃ W1, w.alloc (.cells #[.int .i64 0, .int .i64 0, .int .i64 0, .slice none 0 0] 35) = W1 := ⟨_, rfl⟩
  rw [hW1] at hr ⊢
  refine (read_any d S B s nmM (by decide) W1 (HD.out.below hr.bel)).mono ?_
  rintro e w2 ⟨v, rfl, ho, hb2⟩
  have HR2 := Lib.hid (hr.new hb2)
  cases hg : getF nmM s.fs with
  | none =>
    rw [show hasE s nmM = 8 by unfold hasE; rw [hg]; rfl]
    have hM : Hid (loadM s = (mk0, 8)) := by show _ = _; unfold loadM; rw [hg]
    have hz := HR2.out.row
    have g0 := cell_of_row w2 w.heap.size 0 _ _ _ hz
    have g1 := cell_of_row w2 w.heap.size 1 _ _ _ hz
    have g2 := cell_of_row w2 w.heap.size 2 _ _ _ hz
    have g3 := cell_of_row w2 w.heap.size 3 _ _ _ hz
    have f0 := frozen_of_row w2 w.heap.size 0 _ _ hz
    have f1 := frozen_of_row w2 w.heap.size 1 _ _ hz
    have f2 := frozen_of_row w2 w.heap.size 2 _ _ hz
    have f3 := frozen_of_row w2 w.heap.size 3 _ _ hz
    have hlt : w.heap.size < w2.heap.size := (Array.getElem?_eq_some_iff.1 hz).1
    clear ho hb2 hr hW1 hg hz
    go_wp2_with fail
    have r4 := row_set4 HR2.out.row (.int .i64 0) (.int .i64 0) (.int .i64 0) (.slice none 0 0)
    (try simp only [Exit.inBlock, Exit.then])
    refine bodyPost_ret (v := .tuple #[mkV mk0 (.slice none 0 0), .int .i64 8]) ?_ rfl ?_
    · rw [results_cell_tmp rfl]
      simp [asAddr, Result.andThen, load_row r4, mk0]
    · rw [hM.out]
      exact ⟨_, rfl, OwnT.nil _ _ _, below_set4 HR2.out.bel (Nat.le_refl _) _ _ _ _⟩
  | some f =>
    rw [show hasE s nmM = 0 by unfold hasE; rw [hg]; rfl]
    have hM : Hid (loadM s = loadR f.dt) := by show _ = _; unfold loadM; rw [hg]
    have hlen : f.dt.length ≤ 4194304 := by
      have h1 := HD.out.ok.tot
      have h2 := dt_le_tot (getF_some hg).1
      omega
    rw [hg] at ho
    have ho : Own8 w2 W1.heap.size 5 v f.dt := ho
    obtain ⟨l, hl⟩ : ∃ l, f.dt = l := ⟨_, rfl⟩
    rw [hl] at ho hM hlen
    obtain ⟨a1, cap1, rfl, hrd⟩ := ho.rd
    have HRD := Lib.hid hrd
    clear ho hb2 hr hW1 hg hl hrd
    go_wp2_with fail
    go_at_call 47
    refine (scan_any a1 l.length cap1 l w2 HRD.out (by omega)).mono ?_
    rintro e w3 ⟨v3, vs, rfl, ho3, hb3⟩
    have HR3 := Lib.hid (HR2.out.new hb3)
    obtain ⟨a3, cap3, rfl, hr3⟩ := Rd.of_own ho3.1
    by_cases h1 : (scan l).1.length = 1
    case neg =>
      have hres : Hid (loadR l = (mk0, 13)) := by show _ = _; unfold loadR; rw [if_neg (fun h => h1 h.1)]
      have hne : (((scan l).1.length : Int) != 1) = true := by simp; omega
      have hz := HR3.out.row
      have z0 := cell_of_row w3 w.heap.size 0 _ _ _ hz
      have z1 := cell_of_row w3 w.heap.size 1 _ _ _ hz
      have z2 := cell_of_row w3 w.heap.size 2 _ _ _ hz
      have z3 := cell_of_row w3 w.heap.size 3 _ _ _ hz
      have y0 := frozen_of_row w3 w.heap.size 0 _ _ hz
      have y1 := frozen_of_row w3 w.heap.size 1 _ _ hz
      have y2 := frozen_of_row w3 w.heap.size 2 _ _ hz
      have y3 := frozen_of_row w3 w.heap.size 3 _ _ hz
      have hzl : w.heap.size < w3.heap.size := (Array.getElem?_eq_some_iff.1 hz).1
      clear hz
      clear ho3 hb3 hr3 h1
      go_wp2_with fail
      have r4 := row_set4 HR3.out.row (.int .i64 0) (.int .i64 0) (.int .i64 0) (.slice none 0 0)
      (try simp only [Exit.inBlock, Exit.then])
      refine bodyPost_ret (v := .tuple #[mkV mk0 (.slice none 0 0), .int .i64 13]) ?_ rfl ?_
      · rw [results_cell_tmp rfl]
        simp [asAddr, Result.andThen, load_row r4, mk0]
      · rw [hM.out, hres.out]
        exact ⟨_, rfl, OwnT.nil _ _ _, below_set4 HR3.out.bel (Nat.le_refl _) _ _ _ _⟩
    case pos =>
    have hne : (((scan l).1.length : Int) != 1) = false := by rw [h1]; rfl
    by_cases h2 : (scan l).2 = l.length
    case neg =>
      have hres : Hid (loadR l = (mk0, 13)) := by show _ = _; unfold loadR; rw [if_neg (fun h => h2 h.2.1)]
      have hne2 : (((scan l).2 : Int) != (l.length : Int)) = true := by simp; omega
      have hz := HR3.out.row
      have z0 := cell_of_row w3 w.heap.size 0 _ _ _ hz
      have z1 := cell_of_row w3 w.heap.size 1 _ _ _ hz
      have z2 := cell_of_row w3 w.heap.size 2 _ _ _ hz
      have z3 := cell_of_row w3 w.heap.size 3 _ _ _ hz
      have y0 := frozen_of_row w3 w.heap.size 0 _ _ hz
      have y1 := frozen_of_row w3 w.heap.size 1 _ _ hz
      have y2 := frozen_of_row w3 w.heap.size 2 _ _ hz
      have y3 := frozen_of_row w3 w.heap.size 3 _ _ hz
      have hzl : w.heap.size < w3.heap.size := (Array.getElem?_eq_some_iff.1 hz).1
      clear hz
      clear ho3 hb3 hr3 h1 h2
      go_wp2_with fail
      have r4 := row_set4 HR3.out.row (.int .i64 0) (.int .i64 0) (.int .i64 0) (.slice none 0 0)
      (try simp only [Exit.inBlock, Exit.then])
      refine bodyPost_ret (v := .tuple #[mkV mk0 (.slice none 0 0), .int .i64 13]) ?_ rfl ?_
      · rw [results_cell_tmp rfl]
        simp [asAddr, Result.andThen, load_row r4, mk0]
      · rw [hM.out, hres.out]
        exact ⟨_, rfl, OwnT.nil _ _ _, below_set4 HR3.out.bel (Nat.le_refl _) _ _ _ _⟩
    case pos =>
    have hne2 : (((scan l).2 : Int) != (l.length : Int)) = false := by simp [h2]
    obtain ⟨r, hr⟩ := List.length_eq_one_iff.1 h1
    have hrl : r.length ≤ 262144 := scan_rec l r (by rw [hr]; simp)
    have hL : Hid (loadR l = if okL r = true then (rdM r, 0) else (mk0, 13)) := by
      show _ = _
      unfold loadR
      rw [hr, h2]; simp
    obtain ⟨b3, o3, cap3', ai, ci, e3, hc3, hr8, hb3l⟩ := ho3.one hr
    obtain ⟨rfl, e4, rfl⟩ : a3 = some ⟨b3, o3, none⟩ ∧ (scan l).1.length = 1 ∧ cap3 = cap3' := by simpa using e3
    rw [e4] at hne ⊢
    have H8 := Lib.hid hr8
    clear ho3 hb3 hr3 h1 h2 hr hr8 e3 e4
    go_wp2_with fail
    go_at_call 48
    refine (newReader_any ai ci r (by omega) w3 H8.out).mono ?_
    rintro e w4 ⟨p, a, cap, rfl, hrr, hb4, hp, hblk⟩
    have HRR4 : Hid (RrS w4 p a cap r ⟨0, 0, 0⟩) := hrr
    have HB4 : Hid (Below w3.heap.size w3 w4) := hb4
    have HBLK := Lib.hid hblk
    have HP : Hid (w3.heap.size ≤ p) := hp
    clear hrr hb4 hp hblk
    go_wp2_with fail
    go_at_call 49
    refine (rdInt_any p a cap r (by omega) ⟨0, 0, 0⟩ (rin0 r).1 w4 HRR4.out).mono ?_
    rintro e w5 ⟨rfl, hrr, hf⟩
    have HRR5 : Hid (RrS w5 p a cap r (rs1 r)) := hrr
    have HB5 := Lib.hid (HB4.out.trans (hf.below HB4.out.size fun k hk e => by have : k = p := e; have := HP.out; omega))
    have hs5 := hf.size
    clear hrr hf
    go_wp2_with fail
    go_at_call 49
    refine (rdInt_any p a cap r (by omega) (rs1 r) (rin1 r).1 w5 HRR5.out).mono ?_
    rintro e w6 ⟨rfl, hrr, hf⟩
    have HRR6 : Hid (RrS w6 p a cap r (rs2 r)) := hrr
    have HB6 := Lib.hid (HB5.out.trans (hf.below HB5.out.size fun k hk e => by have : k = p := e; have := HP.out; omega))
    have hs6 := hf.size
    clear hrr hf
    go_wp2_with fail
    go_at_call 49
    refine (rdInt_any p a cap r (by omega) (rs2 r) (rin2 r).1 w6 HRR6.out).mono ?_
    rintro e w7 ⟨rfl, hrr, hf⟩
    have HRR7 : Hid (RrS w7 p a cap r (rs3 r)) := hrr
    have HB7 := Lib.hid (HB6.out.trans (hf.below HB6.out.size fun k hk e => by have : k = p := e; have := HP.out; omega))
    have hs7 := hf.size
    clear hrr hf
    go_wp2_with fail
    have hM0 : rdM r = ⟨vlI r ⟨0, 0, 0⟩, vlI r (rs1 r), vlI r (rs2 r), curs r (rs4 r) (rdK r)⟩ := rfl
    obtain ⟨x, hx⟩ : ∃ x, vlI r ⟨0, 0, 0⟩ = x := ⟨_, rfl⟩
    obtain ⟨y, hy⟩ : ∃ y, vlI r (rs1 r) = y := ⟨_, rfl⟩
    obtain ⟨z, hz⟩ : ∃ z, vlI r (rs2 r) = z := ⟨_, rfl⟩
    rw [hx, hy, hz] at hM0 ⊢
    have HM0 := Lib.hid hM0
    obtain ⟨W8, hW8⟩ : ∃ W8, w7.alloc (.cells #[.int .i64 x, .int .i64 y, .int .i64 z, .slice none 0 0] 35) = W8 := ⟨_, rfl⟩
    obtain ⟨q, hq⟩ : ∃ q, w7.heap.size = q := ⟨_, rfl⟩
    have hrow : W8.heap[q]? = some (.cells #[.int .i64 x, .int .i64 y, .int .i64 z, .slice none 0 0] 35 (0, 0)) := by rw [← hW8, ← hq]; exact heap_alloc_new _ _
    have hb8 : Below w7.heap.size w7 W8 := by rw [← hW8]; exact (Below.refl _ _).alloc (Nat.le_refl _) _
    have hpq : p < q := by have h : p < w7.heap.size := World.block_lt_of_cell? w7 _ HRR7.out.1; omega
    have haq : ∀ b, blk a = some b → b < q := fun b hb => by have := (HBLK.out b hb).2; omega
    have hwq : w3.heap.size ≤ q := by have := HB7.out.size; omega
    rw [hW8, hq]
    have HRR8 := Lib.hid (HRR7.out.below hb8)
    have HB8 := Lib.hid (HB7.out.trans (hb8.mono HB7.out.size))
    have HROW := Lib.hid hrow
    have HPQ := Lib.hid hpq
    have HAQ := Lib.hid haq
    have HWQ := Lib.hid hwq
    have hs8 := hb8.size
    clear hM0 hx hy hz hW8 hb8 hrow hpq haq hwq hq hs5 hs6 hs7 hs8 HB4 HB5 HB6 HB7 HRR4 HRR5 HRR6 HRR7
    refine (rdCount_any 12 p a cap r (by omega) (rs3 r) (rin3 r).1 W8 HRR8.out).mono ?_
    rintro e W9 ⟨rfl, hrr, hf⟩
    have HRR9 : Hid (RrS W9 p a cap r (rs4 r)) := hrr
    have HB9 := Lib.hid (HB8.out.trans (hf.below HB8.out.size fun k hk e => by have : k = p := e; have := HP.out; omega))
    have HROW9 : Hid (W9.heap[q]? = some (.cells #[.int .i64 x, .int .i64 y, .int .i64 z, .slice none 0 0] 35 (0, 0))) :=
      (hf.block q (Array.getElem?_eq_some_iff.1 HROW.out).1 (fun e => by have : q = p := e; have := HPQ.out; omega)).trans HROW.out
    rw [rdK_val]
    have hK12 := rdK_le r
    obtain ⟨K, hK⟩ : ∃ K, rdK r = K := ⟨_, rfl⟩
    rw [hK] at HM0 hK12 ⊢
    have HK := Lib.hid hK
    have hlp : LpM w3 p q a cap r 35 60 x y z (rs4 r) (.slice none 0 0) [] W9 := ⟨HRR9.out, HB9.out, HROW9.out, OwnT.nil _ _ _, HP.out, HPQ.out, HAQ.out⟩
    have HLP := Lib.hid hlp
    clear hrr hf hK HROW HB8 HRR8 HRR9 HB9 HROW9 hlp HP HPQ HAQ HWQ HBLK
    go_wp2_with fail
    go_loopw [49] (fun i wr => ∃ (k : Nat) (v : Value), k ≤ K ∧ i = .int .i64 k ∧ Hid (LpM w3 p q a cap r 35 60 x y z (curS r (rs4 r) k) v (curs r (rs4 r) k) wr)) (fun i _ => K - (intOf i).toNat)
    case atStart => exact ⟨0, _, Nat.zero_le _, rfl, HLP.out⟩
    case round =>
      clear HLP
      obtain ⟨k, v, hk, rfl, HLP⟩ := hrel
      by_cases hlt : k < K
      · have hn3 := HLP.out.cell3
        have hin := Lib.hid ((rin4 r).curS k)
        obtain ⟨s, hs⟩ : ∃ s, curS r (rs4 r) k = s := ⟨_, rfl⟩
        obtain ⟨ts, hts⟩ : ∃ ts, curs r (rs4 r) k = ts := ⟨_, rfl⟩
        have htl : ts.length = k := by rw [← hts]; exact curs_len _ _ _
        have hnx : curS r (rs4 r) (k + 1) = nxI r (nxI r s) := by rw [← hs]; rfl
        have hny : curs r (rs4 r) (k + 1) = ts ++ [(vlI r s, vlI r (nxI r s))] := by rw [← hs, ← hts]; rfl
        rw [hs, hts] at HLP
        rw [hs] at hin
        have HNX := Lib.hid hnx
        have HNY := Lib.hid hny
        have HTL := Lib.hid htl
        clear hs hnx hny hts htl
        go_wp2_with fail
        refine wp_region_ht 8 (fun W => W.cell? ⟨q, 3, none⟩ = some v) (by kernel_rfl) (by kernel_rfl) ?_ (fun hHeld => ?_)
        · exact hn3
        try simp only [Act.put, List.setIfInBounds_toArray, List.set_cons_zero, List.set_cons_succ]
        refine wpHT_takeD (i := 0) (d := 51) (v := ?_) (by kernel_rfl) rfl rfl (by decide) (by kernel_rfl) (by kernel_rfl) (fun _ _ _ h => h) (Or.inl ⟨by kernel_rfl, ?_⟩) (by assumption) ?_
        rotate_left
        · intro w hSw; (try dsimp only at hSw); go_simp; (try with_reducible rfl)
        try simp only [Act.put, List.setIfInBounds_toArray, List.set_cons_zero, List.set_cons_succ]
        refine wpHT_takeD (i := 1) (d := 52) (v := ?_) (by kernel_rfl) rfl rfl (by decide) (by kernel_rfl) (by kernel_rfl) (fun _ _ _ h => h) (Or.inl ⟨by kernel_rfl, ?_⟩) (by assumption) ?_
        rotate_left
        · intro w hSw; (try dsimp only at hSw); go_simp; (try with_reducible rfl)
        try simp only [Act.put, List.setIfInBounds_toArray, List.set_cons_zero, List.set_cons_succ]
        refine wpHT_takeD (i := 2) (d := 53) (v := ?_) (by kernel_rfl) rfl rfl (by decide) (by kernel_rfl) (by kernel_rfl) (fun _ _ _ h => h) (Or.inl ⟨by kernel_rfl, ?_⟩) (by assumption) ?_
        rotate_left
        · intro w hSw; (try dsimp only at hSw); go_simp; (try with_reducible rfl)
        try simp only [Act.put, List.setIfInBounds_toArray, List.set_cons_zero, List.set_cons_succ]
        refine wpHT_takeD (i := 4) (d := 55) (v := ?_) (by kernel_rfl) rfl rfl (by decide) (by kernel_rfl) (by kernel_rfl) (fun _ _ _ h => h) (Or.inl ⟨by kernel_rfl, ?_⟩) (by assumption) ?_
        rotate_left
        · intro w hSw; (try dsimp only at hSw); go_simp; (try with_reducible rfl)
        try simp only [Act.put, List.setIfInBounds_toArray, List.set_cons_zero, List.set_cons_succ]
        refine wpHT_one (i := 3) (by kernel_rfl) rfl (by decide) (fun K hK => ?_)
        go_simp
        go_at_call 49
        refine (rdInt_any p a cap r (by omega) s hin.out.1 _ (HLP.out.new (Below.refl _ wr).drew).rr).mono ?_
        rintro e w1 ⟨rfl, hd⟩
        have HL1 := Lib.hid ((HLP.out.new (Below.refl _ wr).drew).int hd)
        have n1 := HL1.out.cell3
        clear hd
        refine hK.out _ _ ?_ (fun hHeld => ?_)
        · exact n1
        clear hK K
        try simp only [Act.put, List.setIfInBounds_toArray, List.set_cons_zero, List.set_cons_succ]
        refine wpHT_one (i := 5) (by kernel_rfl) rfl (by decide) (fun K hK => ?_)
        go_simp
        go_at_call 49
        refine (rdInt_any p a cap r (by omega) (nxI r s) hin.out.nxI.1 _ HL1.out.rr).mono ?_
        rintro e w2 ⟨rfl, hd⟩
        have HL2 := Lib.hid (HL1.out.int hd)
        have n2 := HL2.out.cell3
        clear hd n1
        refine hK.out _ _ ?_ (fun hHeld => ?_)
        · exact n2
        clear hK K
        try simp only [Act.put, List.setIfInBounds_toArray, List.set_cons_zero, List.set_cons_succ]
        refine wpHT_takeD (i := 6) (d := 57) (v := ?_) (by kernel_rfl) rfl rfl (by decide) (by kernel_rfl) (by kernel_rfl) (fun _ _ _ h => h) (Or.inl ⟨by kernel_rfl, ?_⟩) (by assumption) ?_
        rotate_left
        · intro w hSw; (try dsimp only at hSw); go_simp; (try with_reducible rfl)
        try simp only [Act.put, List.setIfInBounds_toArray, List.set_cons_zero, List.set_cons_succ]
        refine wpHT_one (i := 7) (by kernel_rfl) rfl (by decide) (fun K hK => ?_)
        go_simp
        refine hK.out _ _ ?_ (fun hHeld => ?_)
        · exact cell_alloc_keep n2
        clear hK K
        try simp only [Act.put, List.setIfInBounds_toArray, List.set_cons_zero, List.set_cons_succ]
        refine wpHT_done (by kernel_rfl) ?_
        simp only [List.drop_succ_cons, List.drop_zero]
        clear hHeld n2 hn3
        have hba : Below w2.heap.size w2 (w2.alloc (.cells #[.int .i64 (vlI r s), .int .i64 (vlI r (nxI r s))] 60)) := (Below.refl _ _).alloc (Nat.le_refl _) _
        have hqa : q + 1 ≤ (w2.alloc (.cells #[.int .i64 (vlI r s), .int .i64 (vlI r (nxI r s))] 60)).heap.size := Nat.le_trans HL2.out.lt hba.size
        have HBA := Lib.hid hba
        clear hba
        go_wp2_with (at_builtin; refine wpList_app STc rfl (.tmp 52) (.tmp 58) rfl (q + 1) rfl (HL2.out.new HBA.out).own rfl (Rd.one2 w2 _ _ _) (by simp; exact ⟨rfl, rfl⟩) (by have := HTL.out; omega) (by have := HTL.out; unfold maxLen; omega) hqa ?_)
        intro v' w5 ho5 _ hg5
        have ho5 : OwnT w5 (q + 1) 60 v' (ts ++ [(vlI r s, vlI r (nxI r s))]) := by
          unfold OwnT
          rw [tCells_app, List.length_append]
          exact ho5
        obtain ⟨m0, m1, m2⟩ := HL2.out.appRow HBA.out hg5
        have HL5 := Lib.hid (HL2.out.app HBA.out hg5 ho5)
        obtain ⟨av, cv, hv, hav⟩ := ho5.rd
        rw [List.length_append] at hv
        have hv : v' = .slice av (ts.length + 1) cv := hv
        subst hv
        clear ho5 hg5 hqa hav
        go_wp2_with fail
        go_roundw
        case rel => exact ⟨k + 1, _, by omega, by go_num, by rw [HNX.out, HNY.out]; exact HL5.out⟩
        case measure => simp [intOf]; omega
      · obtain rfl : k = K := by omega
        have hm : rdM r = ⟨x, y, z, curs r (rs4 r) k⟩ := HM0.out
        have hF : rsF r = curS r (rs4 r) k := by unfold rsF; rw [HK.out]
        rw [← hF] at HLP
        obtain ⟨ts, hts⟩ : ∃ ts, curs r (rs4 r) k = ts := ⟨_, rfl⟩
        rw [hts] at hm HLP
        obtain ⟨av, cv, rfl, hrt⟩ := HLP.out.own.rd
        have HIN := Lib.hid (rinF r)
        obtain ⟨sF, hsF⟩ : ∃ sF, rsF r = sF := ⟨_, rfl⟩
        rw [hsF] at HLP HIN
        have HSF := Lib.hid hsF
        have HM := Lib.hid hm
        have HRT := Lib.hid hrt
        clear hm hF hts hrt hsF HM0
        go_wp2_with fail
        go_at_call 51
        refine (end_any p a cap r (by omega) sF.i sF.f sF.q wr HLP.out.rr HIN.out.2).mono ?_
        rintro e w2 ⟨rfl, hb2⟩
        have HL2 := Lib.hid (HLP.out.new hb2)
        have HRT2 := Lib.hid (HRT.out.below hb2)
        have HR2' := Lib.hid (HR3.out.new HL2.out.low)
        clear hb2
        by_cases hok : sF.f = 0 ∧ ¬ sF.i < r.length
        · rw [if_neg (fun h => hok.2 h.2), hok.1, HIN.out.2 hok.1]
          have hq2 := HL2.out.row
          have q0 := cell_of_row w2 q 0 _ _ _ hq2
          have q1 := cell_of_row w2 q 1 _ _ _ hq2
          have q2 := cell_of_row w2 q 2 _ _ _ hq2
          have q3 := cell_of_row w2 q 3 _ _ _ hq2
          have q4 := (HL2.out.low.cell (p := ⟨b3, o3, none⟩) hb3l).trans hc3
          have H82 := Lib.hid (H8.out.below HL2.out.low)
          have hfin : rsF r = sF := HSF.out
          have HFIN : Hid ((rsF r).f = 0 ∧ ¬ (rsF r).i < r.length) := by show _ ∧ _; rw [hfin]; exact hok
          clear hq2 hok hfin hb3l hc3
          cases hmay : mayM (⟨x, y, z, ts⟩ : Mk) with
          | false =>
            have HMY := Lib.hid hmay
            have hres : Hid (loadR l = (mk0, 13)) := by
              show _ = _
              rw [hL.out, if_neg (fun h => by have := (okL_iff h).2.2; rw [HM.out, hmay] at this; cases this)]
            clear hmay
            go_wp2_with fail
            refine wp_region_ht 15 (fun W => W.cell? ⟨q, 0, none⟩ = some (.int .i64 x) ∧ W.cell? ⟨q, 1, none⟩ = some (.int .i64 y) ∧ W.cell? ⟨q, 2, none⟩ = some (.int .i64 z) ∧ W.cell? ⟨q, 3, none⟩ = some (.slice av ts.length cv) ∧ W.cell? ⟨b3, o3, none⟩ = some (.slice ai r.length ci)) (by kernel_rfl) (by kernel_rfl) ?_ (fun hHeld => ?_)
            · exact ⟨q0, q1, q2, q3, q4⟩
            try simp only [Act.put, List.setIfInBounds_toArray, List.set_cons_zero, List.set_cons_succ]
            refine wpHT_takeD (i := 0) (d := 67) (v := ?_) (by kernel_rfl) rfl rfl (by decide) (by kernel_rfl) (by kernel_rfl) (fun _ _ _ h => h) (Or.inl ⟨by kernel_rfl, ?_⟩) (by assumption) ?_
            rotate_left
            · intro w hSw; (try dsimp only at hSw); go_simp; (try with_reducible rfl)
            try simp only [Act.put, List.setIfInBounds_toArray, List.set_cons_zero, List.set_cons_succ]
            refine wpHT_takeD (i := 1) (d := 68) (v := ?_) (by kernel_rfl) rfl rfl (by decide) (by kernel_rfl) (by kernel_rfl) (fun _ _ _ h => h) (Or.inl ⟨by kernel_rfl, ?_⟩) (by assumption) ?_
            rotate_left
            · intro w hSw; (try dsimp only at hSw); go_simp; (try with_reducible rfl)
            try simp only [Act.put, List.setIfInBounds_toArray, List.set_cons_zero, List.set_cons_succ]
            refine wpHT_takeD (i := 2) (d := 69) (v := ?_) (by kernel_rfl) rfl rfl (by decide) (by kernel_rfl) (by kernel_rfl) (fun _ _ _ h => h) (Or.inl ⟨by kernel_rfl, ?_⟩) (by assumption) ?_
            rotate_left
            · intro w hSw; (try dsimp only at hSw); go_simp; (try with_reducible rfl)
            try simp only [Act.put, List.setIfInBounds_toArray, List.set_cons_zero, List.set_cons_succ]
            refine wpHT_takeD (i := 3) (d := 70) (v := ?_) (by kernel_rfl) rfl rfl (by decide) (by kernel_rfl) (by kernel_rfl) (fun _ _ _ h => h) (Or.inl ⟨by kernel_rfl, ?_⟩) (by assumption) ?_
            rotate_left
            · intro w hSw; (try dsimp only at hSw); go_simp; (try with_reducible rfl)
            try simp only [Act.put, List.setIfInBounds_toArray, List.set_cons_zero, List.set_cons_succ]
            refine wpHT_one (i := 4) (by kernel_rfl) rfl (by decide) (fun K hK => ?_)
            go_simp
            go_at_call 10
            refine (may_any ⟨x, y, z, ts⟩ av cv _ (HRT2.out.below (Below.refl _ w2).drew)).mono ?_
            rintro e w5 ⟨rfl, hb5⟩
            have hb5 : Below w2.heap.size w2 w5 := (Below.refl _ w2).drew.trans hb5
            rw [HMY.out]
            have g0 := cell_below q0 hb5
            have g1 := cell_below q1 hb5
            have g2 := cell_below q2 hb5
            have g3 := cell_below q3 hb5
            have g4 := cell_below q4 hb5
            have HB5 := Lib.hid hb5
            clear hb5
            refine hK.out _ _ ?_ (fun hHeld => ?_)
            · exact ⟨g0, g1, g2, g3, g4⟩
            clear hK K
            try simp only [Act.put, List.setIfInBounds_toArray, List.set_cons_zero, List.set_cons_succ]
            refine wpHT_takeD (i := 5) (d := 72) (v := ?_) (by kernel_rfl) rfl rfl (by decide) (by kernel_rfl) (by kernel_rfl) (fun _ _ _ h => h) (Or.inl ⟨by kernel_rfl, ?_⟩) (by assumption) ?_
            rotate_left
            · intro w hSw; (try dsimp only at hSw); go_simp; (try with_reducible rfl)
            try simp only [Act.put, List.setIfInBounds_toArray, List.set_cons_zero, List.set_cons_succ]
            refine wpHT_takeD (i := 6) (d := 73) (v := ?_) (by kernel_rfl) rfl rfl (by decide) (by kernel_rfl) (by kernel_rfl) (fun _ _ _ h => h) (Or.inl ⟨by kernel_rfl, ?_⟩) (by assumption) ?_
            rotate_left
            · intro w hSw; (try dsimp only at hSw); go_simp; (try with_reducible rfl)
            try simp only [Act.put, List.setIfInBounds_toArray, List.set_cons_zero, List.set_cons_succ]
            refine wpHT_takeD (i := 7) (d := 74) (v := ?_) (by kernel_rfl) rfl rfl (by decide) (by kernel_rfl) (by kernel_rfl) (fun _ _ _ h => h) (Or.inl ⟨by kernel_rfl, ?_⟩) (by assumption) ?_
            rotate_left
            · intro w hSw; (try dsimp only at hSw); go_simp; (try with_reducible rfl)
            try simp only [Act.put, List.setIfInBounds_toArray, List.set_cons_zero, List.set_cons_succ]
            refine wpHT_takeD (i := 8) (d := 75) (v := undef) (by kernel_rfl) rfl rfl (by decide) (by kernel_rfl) (by kernel_rfl) (fun _ _ _ h => h) (Or.inr ⟨by kernel_rfl, rfl⟩) (by assumption) ?_
            try simp only [Act.put, List.setIfInBounds_toArray, List.set_cons_zero, List.set_cons_succ]
            refine wpHT_takeD (i := 9) (d := 76) (v := undef) (by kernel_rfl) rfl rfl (by decide) (by kernel_rfl) (by kernel_rfl) (fun _ _ _ h => h) (Or.inr ⟨by kernel_rfl, rfl⟩) (by assumption) ?_
            try simp only [Act.put, List.setIfInBounds_toArray, List.set_cons_zero, List.set_cons_succ]
            refine wpHT_takeD (i := 10) (d := 77) (v := undef) (by kernel_rfl) rfl rfl (by decide) (by kernel_rfl) (by kernel_rfl) (fun _ _ _ h => h) (Or.inr ⟨by kernel_rfl, rfl⟩) (by assumption) ?_
            try simp only [Act.put, List.setIfInBounds_toArray, List.set_cons_zero, List.set_cons_succ]
            refine wpHT_takeD (i := 11) (d := 78) (v := undef) (by kernel_rfl) rfl rfl (by decide) (by kernel_rfl) (by kernel_rfl) (fun _ _ _ h => h) (Or.inr ⟨by kernel_rfl, rfl⟩) (by assumption) ?_
            try simp only [Act.put, List.setIfInBounds_toArray, List.set_cons_zero, List.set_cons_succ]
            refine wpHT_takeD (i := 12) (d := 79) (v := undef) (by kernel_rfl) rfl rfl (by decide) (by kernel_rfl) (by kernel_rfl) (fun _ _ _ h => h) (Or.inr ⟨by kernel_rfl, rfl⟩) (by assumption) ?_
            try simp only [Act.put, List.setIfInBounds_toArray, List.set_cons_zero, List.set_cons_succ]
            refine wpHT_takeD (i := 13) (d := 80) (v := undef) (by kernel_rfl) rfl rfl (by decide) (by kernel_rfl) (by kernel_rfl) (fun _ _ _ h => h) (Or.inr ⟨by kernel_rfl, rfl⟩) (by assumption) ?_
            try simp only [Act.put, List.setIfInBounds_toArray, List.set_cons_zero, List.set_cons_succ]
            refine wpHT_takeD (i := 14) (d := 81) (v := undef) (by kernel_rfl) rfl rfl (by decide) (by kernel_rfl) (by kernel_rfl) (fun _ _ _ h => h) (Or.inr ⟨by kernel_rfl, rfl⟩) (by assumption) ?_
            try simp only [Act.put, List.setIfInBounds_toArray, List.set_cons_zero, List.set_cons_succ]
            refine wpHT_done (by kernel_rfl) ?_
            simp only [List.drop_succ_cons, List.drop_zero]
            clear hHeld g0 g1 g2 g3 g4 q0 q1 q2 q3 q4
            have HR5 := Lib.hid (HR2'.out.new HB5.out)
            have hz := HR5.out.row
            have z0 := cell_of_row w5 w.heap.size 0 _ _ _ hz
            have z1 := cell_of_row w5 w.heap.size 1 _ _ _ hz
            have z2 := cell_of_row w5 w.heap.size 2 _ _ _ hz
            have z3 := cell_of_row w5 w.heap.size 3 _ _ _ hz
            have y0 := frozen_of_row w5 w.heap.size 0 _ _ hz
            have y1 := frozen_of_row w5 w.heap.size 1 _ _ hz
            have y2 := frozen_of_row w5 w.heap.size 2 _ _ hz
            have y3 := frozen_of_row w5 w.heap.size 3 _ _ hz
            have hzl : w.heap.size < w5.heap.size := (Array.getElem?_eq_some_iff.1 hz).1
            clear hz
            go_wp2_with fail
            have r4 := row_set4 HR5.out.row (.int .i64 0) (.int .i64 0) (.int .i64 0) (.slice none 0 0)
            (try simp only [Exit.inBlock, Exit.then])
            refine bodyPost_ret (v := .tuple #[mkV mk0 (.slice none 0 0), .int .i64 13]) ?_ rfl ?_
            · rw [results_cell_tmp rfl]
              simp [asAddr, Result.andThen, load_row r4, mk0]
            · rw [hM.out, hres.out]
              exact ⟨_, rfl, OwnT.nil _ _ _, below_set4 HR5.out.bel (Nat.le_refl _) _ _ _ _⟩
          | true =>
            have HMY := Lib.hid hmay
            have hres : Hid (loadR l = (⟨x, y, z, ts⟩, 0)) := by
              show _ = _
              have : okL r = true := by
                unfold okL
                rw [HM.out, hmay]
                have := HFIN.out
                simp [this.1, this.2]
              rw [hL.out, if_pos this, HM.out]
            have heq : Hid ((encM ⟨x, y, z, ts⟩ == r) = true) := by
              show _ = _
              rw [← HM.out, rdM_enc HFIN.out.1 HFIN.out.2]; simp
            clear hmay
            go_wp2_with fail
            refine wp_region_ht 15 (fun W => W.cell? ⟨q, 0, none⟩ = some (.int .i64 x) ∧ W.cell? ⟨q, 1, none⟩ = some (.int .i64 y) ∧ W.cell? ⟨q, 2, none⟩ = some (.int .i64 z) ∧ W.cell? ⟨q, 3, none⟩ = some (.slice av ts.length cv) ∧ W.cell? ⟨b3, o3, none⟩ = some (.slice ai r.length ci)) (by kernel_rfl) (by kernel_rfl) ?_ (fun hHeld => ?_)
            · exact ⟨q0, q1, q2, q3, q4⟩
            try simp only [Act.put, List.setIfInBounds_toArray, List.set_cons_zero, List.set_cons_succ]
            refine wpHT_takeD (i := 0) (d := 67) (v := ?_) (by kernel_rfl) rfl rfl (by decide) (by kernel_rfl) (by kernel_rfl) (fun _ _ _ h => h) (Or.inl ⟨by kernel_rfl, ?_⟩) (by assumption) ?_
            rotate_left
            · intro w hSw; (try dsimp only at hSw); go_simp; (try with_reducible rfl)
            try simp only [Act.put, List.setIfInBounds_toArray, List.set_cons_zero, List.set_cons_succ]
            refine wpHT_takeD (i := 1) (d := 68) (v := ?_) (by kernel_rfl) rfl rfl (by decide) (by kernel_rfl) (by kernel_rfl) (fun _ _ _ h => h) (Or.inl ⟨by kernel_rfl, ?_⟩) (by assumption) ?_
            rotate_left
            · intro w hSw; (try dsimp only at hSw); go_simp; (try with_reducible rfl)
            try simp only [Act.put, List.setIfInBounds_toArray, List.set_cons_zero, List.set_cons_succ]
            refine wpHT_takeD (i := 2) (d := 69) (v := ?_) (by kernel_rfl) rfl rfl (by decide) (by kernel_rfl) (by kernel_rfl) (fun _ _ _ h => h) (Or.inl ⟨by kernel_rfl, ?_⟩) (by assumption) ?_
            rotate_left
            · intro w hSw; (try dsimp only at hSw); go_simp; (try with_reducible rfl)
            try simp only [Act.put, List.setIfInBounds_toArray, List.set_cons_zero, List.set_cons_succ]
            refine wpHT_takeD (i := 3) (d := 70) (v := ?_) (by kernel_rfl) rfl rfl (by decide) (by kernel_rfl) (by kernel_rfl) (fun _ _ _ h => h) (Or.inl ⟨by kernel_rfl, ?_⟩) (by assumption) ?_
            rotate_left
            · intro w hSw; (try dsimp only at hSw); go_simp; (try with_reducible rfl)
            try simp only [Act.put, List.setIfInBounds_toArray, List.set_cons_zero, List.set_cons_succ]
            refine wpHT_one (i := 4) (by kernel_rfl) rfl (by decide) (fun K hK => ?_)
            go_simp
            go_at_call 10
            refine (may_any ⟨x, y, z, ts⟩ av cv _ (HRT2.out.below (Below.refl _ w2).drew)).mono ?_
            rintro e w5 ⟨rfl, hb5⟩
            have hb5 : Below w2.heap.size w2 w5 := (Below.refl _ w2).drew.trans hb5
            rw [HMY.out]
            have g0 := cell_below q0 hb5
            have g1 := cell_below q1 hb5
            have g2 := cell_below q2 hb5
            have g3 := cell_below q3 hb5
            have g4 := cell_below q4 hb5
            have HB5 := Lib.hid hb5
            clear hb5
            refine hK.out _ _ ?_ (fun hHeld => ?_)
            · exact ⟨g0, g1, g2, g3, g4⟩
            clear hK K
            try simp only [Act.put, List.setIfInBounds_toArray, List.set_cons_zero, List.set_cons_succ]
            refine wpHT_takeD (i := 5) (d := 72) (v := ?_) (by kernel_rfl) rfl rfl (by decide) (by kernel_rfl) (by kernel_rfl) (fun _ _ _ h => h) (Or.inl ⟨by kernel_rfl, ?_⟩) (by assumption) ?_
            rotate_left
            · intro w hSw; (try dsimp only at hSw); go_simp; (try with_reducible rfl)
            try simp only [Act.put, List.setIfInBounds_toArray, List.set_cons_zero, List.set_cons_succ]
            refine wpHT_takeD (i := 6) (d := 73) (v := ?_) (by kernel_rfl) rfl rfl (by decide) (by kernel_rfl) (by kernel_rfl) (fun _ _ _ h => h) (Or.inl ⟨by kernel_rfl, ?_⟩) (by assumption) ?_
            rotate_left
            · intro w hSw; (try dsimp only at hSw); go_simp; (try with_reducible rfl)
            try simp only [Act.put, List.setIfInBounds_toArray, List.set_cons_zero, List.set_cons_succ]
            refine wpHT_takeD (i := 7) (d := 74) (v := ?_) (by kernel_rfl) rfl rfl (by decide) (by kernel_rfl) (by kernel_rfl) (fun _ _ _ h => h) (Or.inl ⟨by kernel_rfl, ?_⟩) (by assumption) ?_
            rotate_left
            · intro w hSw; (try dsimp only at hSw); go_simp; (try with_reducible rfl)
            try simp only [Act.put, List.setIfInBounds_toArray, List.set_cons_zero, List.set_cons_succ]
            refine wpHT_takeD (i := 8) (d := 75) (v := ?_) (by kernel_rfl) rfl rfl (by decide) (by kernel_rfl) (by kernel_rfl) (fun _ _ _ h => h) (Or.inl ⟨by kernel_rfl, ?_⟩) (by assumption) ?_
            rotate_left
            · intro w hSw; (try dsimp only at hSw); go_simp; (try with_reducible rfl)
            try simp only [Act.put, List.setIfInBounds_toArray, List.set_cons_zero, List.set_cons_succ]
            refine wpHT_takeD (i := 10) (d := 77) (v := ?_) (by kernel_rfl) rfl rfl (by decide) (by kernel_rfl) (by kernel_rfl) (fun _ _ _ h => h) (Or.inl ⟨by kernel_rfl, ?_⟩) (by assumption) ?_
            rotate_left
            · intro w hSw; (try dsimp only at hSw); go_simp; (try with_reducible rfl)
            try simp only [Act.put, List.setIfInBounds_toArray, List.set_cons_zero, List.set_cons_succ]
            refine wpHT_takeD (i := 11) (d := 78) (v := ?_) (by kernel_rfl) rfl rfl (by decide) (by kernel_rfl) (by kernel_rfl) (fun _ _ _ h => h) (Or.inl ⟨by kernel_rfl, ?_⟩) (by assumption) ?_
            rotate_left
            · intro w hSw; (try dsimp only at hSw); go_simp; (try with_reducible rfl)
            try simp only [Act.put, List.setIfInBounds_toArray, List.set_cons_zero, List.set_cons_succ]
            refine wpHT_takeD (i := 12) (d := 79) (v := ?_) (by kernel_rfl) rfl rfl (by decide) (by kernel_rfl) (by kernel_rfl) (fun _ _ _ h => h) (Or.inl ⟨by kernel_rfl, ?_⟩) (by assumption) ?_
            rotate_left
            · intro w hSw; (try dsimp only at hSw); go_simp; (try with_reducible rfl)
            try simp only [Act.put, List.setIfInBounds_toArray, List.set_cons_zero, List.set_cons_succ]
            refine wpHT_one (i := 9) (by kernel_rfl) rfl (by decide) (fun K hK => ?_)
            go_simp
            go_at_call 25
            refine (encode_any ⟨x, y, z, ts⟩ HMY.out av cv _ (HRT2.out.below HB5.out)).mono ?_
            rintro e w6 ⟨v6, rfl, ho6, hb6⟩
            obtain ⟨a6, c6, rfl, hr6⟩ := ho6.rd
            have HR6 := Lib.hid hr6
            have h0 := cell_below g0 hb6
            have h1 := cell_below g1 hb6
            have h2 := cell_below g2 hb6
            have h3 := cell_below g3 hb6
            have h4 := cell_below g4 hb6
            have HB6 := Lib.hid (HB5.out.trans (hb6.mono HB5.out.size))
            clear ho6 hb6 hr6
            refine hK.out _ _ ?_ (fun hHeld => ?_)
            · exact ⟨h0, h1, h2, h3, h4⟩
            clear hK K
            try simp only [Act.put, List.setIfInBounds_toArray, List.set_cons_zero, List.set_cons_succ]
            refine wpHT_one (i := 13) (by kernel_rfl) rfl (by decide) (fun K hK => ?_)
            go_simp
            go_at_call 52
            refine (bytesEq_any a6 ai _ _ c6 ci _ r w6 HR6.out (H82.out.below HB6.out)).mono ?_
            rintro e w7 ⟨rfl, rfl⟩
            rw [heq.out]
            refine hK.out _ _ ?_ (fun hHeld => ?_)
            · exact ⟨h0, h1, h2, h3, h4⟩
            clear hK K
            try simp only [Act.put, List.setIfInBounds_toArray, List.set_cons_zero, List.set_cons_succ]
            refine wpHT_takeD (i := 14) (d := 81) (v := ?_) (by kernel_rfl) rfl rfl (by decide) (by kernel_rfl) (by kernel_rfl) (fun _ _ _ h => h) (Or.inl ⟨by kernel_rfl, ?_⟩) (by assumption) ?_
            rotate_left
            · intro w hSw; (try dsimp only at hSw); go_simp; (try with_reducible rfl)
            try simp only [Act.put, List.setIfInBounds_toArray, List.set_cons_zero, List.set_cons_succ]
            refine wpHT_done (by kernel_rfl) ?_
            simp only [List.drop_succ_cons, List.drop_zero]
            clear hHeld g0 g1 g2 g3 g4 q0 q1 q2 q3 q4 h4
            have HRS := Lib.hid (HR2'.out.new HB6.out)
            have HLS := Lib.hid (HL2.out.new HB6.out)
            have hz := HRS.out.row
            have z0 := cell_of_row w7 w.heap.size 0 _ _ _ hz
            have z1 := cell_of_row w7 w.heap.size 1 _ _ _ hz
            have z2 := cell_of_row w7 w.heap.size 2 _ _ _ hz
            have z3 := cell_of_row w7 w.heap.size 3 _ _ _ hz
            have y0 := frozen_of_row w7 w.heap.size 0 _ _ hz
            have y1 := frozen_of_row w7 w.heap.size 1 _ _ hz
            have y2 := frozen_of_row w7 w.heap.size 2 _ _ hz
            have y3 := frozen_of_row w7 w.heap.size 3 _ _ hz
            have hzl : w.heap.size < w7.heap.size := (Array.getElem?_eq_some_iff.1 hz).1
            clear hz
            go_wp2_with fail
            have r4 := row_set4 HRS.out.row (.int .i64 x) (.int .i64 y) (.int .i64 z) (.slice av ts.length cv)
            (try simp only [Exit.inBlock, Exit.then])
            refine bodyPost_ret (v := .tuple #[mkV ⟨x, y, z, ts⟩ (.slice av ts.length cv), .int .i64 0]) ?_ rfl ?_
            · rw [results_cell_tmp rfl]
              simp [asAddr, Result.andThen, load_row r4]
            · rw [hM.out, hres.out]
              have hwq : w.heap.size < q := by have h1 := HLS.out.c1; have h2 := HLS.out.c2; have h3 := (Array.getElem?_eq_some_iff.1 HR3.out.row).1; omega
              refine ⟨_, rfl, ownsRow_keep (ownsRow_mono HLS.out.own (by omega)) fun k hk => ?_, below_set4 HRS.out.bel (Nat.le_refl _) _ _ _ _⟩
              exact same_set4 (fun e => by have := (World.ownsRow.lt HLS.out.own k hk).1; omega) _ _ _ _
        · have hres : Hid (loadR l = (mk0, 13)) := by
            show _ = _
            rw [hL.out, if_neg (fun h => hok (by have := okL_iff h; rw [HSF.out] at this; exact ⟨this.1, this.2.1⟩))]
          obtain ⟨e1, e2, he, h0⟩ : ∃ e1 e2 : Int, (if sF.f = 0 ∧ sF.i < r.length then Value.tuple #[.int .i64 6, .int .i64 sF.i] else .tuple #[.int .i64 sF.f, .int .i64 sF.q]) = .tuple #[.int .i64 e1, .int .i64 e2] ∧ e1 ≠ 0 := by
            by_cases h : sF.f = 0 ∧ sF.i < r.length
            · exact ⟨6, sF.i, by rw [if_pos h], by decide⟩
            · refine ⟨sF.f, sF.q, by rw [if_neg h], fun h0 => ?_⟩
              exact hok ⟨h0, fun h1 => h ⟨h0, h1⟩⟩
          rw [he]
          have hne1 : (e1 != 0) = true := by simpa using h0
          clear he hok h0
          have hz := HR2'.out.row
          have z0 := cell_of_row w2 w.heap.size 0 _ _ _ hz
          have z1 := cell_of_row w2 w.heap.size 1 _ _ _ hz
          have z2 := cell_of_row w2 w.heap.size 2 _ _ _ hz
          have z3 := cell_of_row w2 w.heap.size 3 _ _ _ hz
          have y0 := frozen_of_row w2 w.heap.size 0 _ _ hz
          have y1 := frozen_of_row w2 w.heap.size 1 _ _ hz
          have y2 := frozen_of_row w2 w.heap.size 2 _ _ hz
          have y3 := frozen_of_row w2 w.heap.size 3 _ _ hz
          have hzl : w.heap.size < w2.heap.size := (Array.getElem?_eq_some_iff.1 hz).1
          clear hz
          go_wp2_with fail
          go_quiet (fail)
          go_wp2_with fail
          have r4 := row_set4 (HR2'.out.new (W' := w2.drewN nq) ⟨rfl, rfl, rfl, Nat.le_refl _, fun _ _ => rfl⟩).row (.int .i64 0) (.int .i64 0) (.int .i64 0) (.slice none 0 0)
          (try simp only [Exit.inBlock, Exit.then])
          refine bodyPost_ret (v := .tuple #[mkV mk0 (.slice none 0 0), .int .i64 13]) ?_ rfl ?_
          · rw [results_cell_tmp rfl]
            simp [asAddr, Result.andThen, load_row r4, mk0]
          · rw [hM.out, hres.out]
            exact ⟨_, rfl, OwnT.nil _ _ _, below_set4 (HR2'.out.new (W' := w2.drewN nq) ⟨rfl, rfl, rfl, Nat.le_refl _, fun _ _ => rfl⟩).bel (Nat.le_refl _) _ _ _ _⟩
end Go.Proofs.YtkinhilkmjfjhaaGreat
