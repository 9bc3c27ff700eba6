/-
  A program run over what was seen (prog.Run): the ends before its first step.
  A program run over what was seen (prog.Run): its steps.
  A program run over what was seen (prog.Run), whole.
-/
import Derived.Test.YtalpbphfmelhhaaGreatDoorHH
import Derived.Test.YtalpbphfmelhhaaGreatDoorHC
/-! ### A program run over what was seen (prog.Run): the ends before its first step. -/
namespace Go.Proofs.YtalpbphfmelhhaaGreatDoor
open Go.RowKit Go.Maps Go.Sort
set_option maxRecDepth 100000
attribute [local go_sem] bs_size bs_get bs_toList frombits tobits run_store_float
def wrCells (p : List UInt8 × Vl) : List Value := [.string (bs p.1), .int .i64 p.2.k, .float .f64 (fb p.2.x), .string (bs p.2.s)]
theorem wrCells4 (p : List UInt8 × Vl) : (wrCells p).length = 4 := rfl
def OwnW (w : World) (base : Nat) (v : Value) (l : List (List UInt8 × Vl)) : Prop := w.ownsRow base 54 4 v l.length (flatE wrCells l)
theorem OwnW.nil (w : World) (base : Nat) : OwnW w base (.slice none 0 0) [] := World.ownsRow_nil _ _ _ _
def RunPost (w : World) (p : List OpP) (sn : List SnP) (e : Ending) (w' : World) : Prop := ∃ v, e = .returned (.tuple #[v, .int .i64 (runE p sn)]) ∧ OwnW w' w.heap.size v (runW p sn) ∧ Below w.heap.size w w'
theorem RunPost.err {w w' : World} {p : List OpP} {sn : List SnP} {x : Int} (hx : runE p sn = x) (h0 : x ≠ 0) (hb : Below w.heap.size w w') : RunPost w p sn (.returned (.tuple #[.slice none 0 0, .int .i64 x])) w' := by
  refine ⟨_, by rw [hx], ?_, hb⟩
  have : runW p sn = [] := by unfold runW; rw [if_pos (by rw [hx]; exact h0)]
  rw [this]
  exact OwnW.nil _ _
/-- The cells that hold what a run answers. -/
structure Cx (w : World) (x0 : Value) (y : Int) (W : World) : Prop where
  p : W.heap[w.heap.size]? = some (.cells #[x0] 35 (0, 0))
  q : W.heap[w.heap.size + 1]? = some (.cells #[.int .i64 y] 28 (0, 0))
  bl : Below w.heap.size w W
section
variable {w W W' : World} {x0 x1 : Value} {y y1 : Int}
theorem Cx.start (w : World) : Cx w (.slice none 0 0) 0 ((w.alloc (.cells #[.slice none 0 0] 35)).alloc (.cells #[.int .i64 0] 28)) := by
  have h1 := heap_alloc_new w (.cells #[.slice none 0 0] 35)
  have h2 := heap_alloc_new (w.alloc (.cells #[.slice none 0 0] 35)) (.cells #[.int .i64 0] 28)
  rw [World.size_alloc] at h2
  exact ⟨(Below.heap_alloc _ _ _ (by simp)).trans h1, h2, ((Below.refl _ _).alloc (Nat.le_refl _) _).alloc (by simp) _⟩
theorem Cx.lt (h : Cx w x0 y W) : w.heap.size + 1 < W.heap.size := (Array.getElem?_eq_some_iff.1 h.q).1
theorem Cx.below (h : Cx w x0 y W) (hb : Below W.heap.size W W') : Cx w x0 y W' := ⟨(hb.block _ (by have := h.lt; omega)).trans h.p, (hb.block _ h.lt).trans h.q, h.bl.trans (hb.mono h.bl.size)⟩
theorem Cx.cells (h : Cx w x0 y W) : W.cell? ⟨w.heap.size, 0, none⟩ = some x0 ∧ W.frozen? ⟨w.heap.size, 0, none⟩ = false ∧ W.cell? ⟨w.heap.size + 1, 0, none⟩ = some (.int .i64 y) ∧ W.frozen? ⟨w.heap.size + 1, 0, none⟩ = false :=
  ⟨cell_of_row _ _ 0 _ _ _ h.p, frozen_of_row _ _ 0 _ _ h.p, cell_of_row _ _ 0 _ _ _ h.q, frozen_of_row _ _ 0 _ _ h.q⟩
theorem Cx.setP (h : Cx w x0 y W) (x1 : Value) : Cx w x1 y (W.setCell ⟨w.heap.size, 0, none⟩ x1) := ⟨row_set h.p rfl, (Below.heap_setCell _ _ _ _ (by simp)).trans h.q, h.bl.setCell (p := ⟨w.heap.size, 0, none⟩) (Nat.le_refl _) _⟩
theorem Cx.setQ (h : Cx w x0 y W) (y1 : Int) : Cx w x0 y1 (W.setCell ⟨w.heap.size + 1, 0, none⟩ (.int .i64 y1)) := ⟨(Below.heap_setCell _ _ _ _ (by simp)).trans h.p, row_set h.q rfl, h.bl.setCell (p := ⟨w.heap.size + 1, 0, none⟩) (Nat.le_succ _) _⟩
theorem Cx.drew (h : Cx w x0 y W) : Cx w x0 y W.drew := h.below (Below.refl _ _).drew
theorem Cx.res {a : Option Addr} {n c : Nat} (h : Cx w (.slice a n c) y W) {tmps : Array Value} (h4 : tmps.getD 4 undef = .pointer (some ⟨w.heap.size, 0, none⟩)) (h5 : tmps.getD 5 undef = .pointer (some ⟨w.heap.size + 1, 0, none⟩)) :
    (results Tryz.f24 tmps).run Tryz.prog W = .ok (.tuple #[.slice a n c, .int .i64 y]) W := by
  obtain ⟨c0, _, c1, _⟩ := h.cells
  have r1 : (loadVar 35 ⟨w.heap.size, 0, none⟩).run Tryz.prog W = .ok (.slice a n c) W := by
    simp [go_sem, c0]
  have r2 : (loadVar 28 ⟨w.heap.size + 1, 0, none⟩).run Tryz.prog W = .ok (.int .i64 y) W := by
    simp [go_sem, c1]
  rw [Array.getD_eq_getD_getElem?] at h4 h5
  simp [results, Tryz.results24, h4, h5, asAddr, Sem.run_bind, Result.andThen, r1, r2]
end
theorem results_run (tmps : Array Value) (d : Nat) (v : Value) (h4 : d ≠ 4) (h5 : d ≠ 5) : results Tryz.f24 (tmps.setIfInBounds d v) = results Tryz.f24 tmps := by
  have g : ∀ i, d ≠ i → (tmps.setIfInBounds d v).getD i undef = tmps.getD i undef := by
    intro i hi
    rw [Array.getD_eq_getD_getElem?, Array.getD_eq_getD_getElem?, Array.getElem?_setIfInBounds_ne hi]
  unfold results
  rw [Tryz.results24]
  have g4 := g 4 h4
  have g5 := g 5 h5
  rw [Array.getD_eq_getD_getElem?, Array.getD_eq_getD_getElem?] at g4 g5
  simp [Array.getD_eq_getD_getElem?, g4, g5]
theorem leaves_run {tmps : Array Value} {d : Nat} {v : Value} (h4 : d ≠ 4) (h5 : d ≠ 5) {R : Ending → World → Prop} : ∀ {ds : List Deferred} {m : FrameMode} {w : World}, Leaves Tryz.prog Tryz.f24 (tmps.setIfInBounds d v) R ds m w → Leaves Tryz.prog Tryz.f24 tmps R ds m w
  | [], .returning, _, h => by
    unfold Leaves at h ⊢
    rw [results_run _ _ _ h4 h5] at h
    exact h
  | [], .panicking _, _, h => h
  | [], .run, _, h => h
  | _ :: ds, _, _, h => by
    unfold Leaves at h ⊢
    obtain ⟨hu, fv, cap, f, args, ht, hi, hc⟩ := h
    refine ⟨hu, fv, cap, f, args, ht, hi, hc.mono fun e u' w' he => ?_⟩
    cases e with
    | returned _ => exact leaves_run h4 h5 he
    | panicked _ => exact leaves_run h4 h5 he
    | outgrown => exact he
set_option maxHeartbeats 4000000 in
theorem run_chk (ap : Option Addr) (np cp : Nat) (p : List OpP) (a : Option Addr) (n cap : Nat) (sn : List SnP) (w : World) (hP : RdO w ap np cp p) (_hS : RdS w a n cap sn) (hnp : np ≤ 1000) (hc : checkP p ≠ 0) :
    Calls Tryz.prog 24 #[.slice ap np cp, .slice a n cap] w (RunPost w p sn) := by
  have HP := Lib.hid hP
  have hre : runE p sn = checkP p := by unfold runE; rw [if_pos hc]
  have hcb : (checkP p == 0) = false := by simpa using hc
  have HRE := Lib.hid hre
  have HC0 := Lib.hid hc
  have HCH : Hid (∀ W, RdO W ap np cp p → Calls Tryz.prog 16 #[.slice ap np cp] W (IntPost W (checkP p))) := fun W h => check_any ap np cp p W h hnp
  generalize checkP p = x at hcb HRE HC0 HCH
  clear hP _hS hre hc
  go_enter_defers Tryz.func24, Tryz.ntmps24
  go_wp2_with fail
  go_at_call 16
  have hx := Cx.start w
  refine (HCH.out _ (HP.out.below hx.bl)).mono ?_
  rintro e w1 ⟨rfl, hb1⟩
  have hx1 := hx.below hb1
  obtain ⟨c0, f0, c1, f1⟩ := hx1.cells
  obtain ⟨_, _, c2, f2⟩ := (hx1.setP (.slice none 0 0)).cells
  have HX := Lib.hid ((hx1.setP (.slice none 0 0)).setQ x)
  clear hx hx1 hb1
  go_wp2_with fail
  exact ⟨_, HX.out.res rfl rfl, RunPost.err HRE.out HC0.out HX.out.bl⟩
theorem keys_len {a b : Int} {p : List OpP} (hp : ∀ o ∈ p, OpOk o) : ∀ q ∈ namedP a b p, q.length ≤ 20000 := by
  have gen : ∀ (l : List OpP) (acc : List (List UInt8)), (∀ o ∈ l, OpOk o) → (∀ q ∈ acc, q.length ≤ 20000) → ∀ q ∈ l.foldl (fun l o => if (o.c = a ∨ o.c = b) ∧ keyB o.key = true then insK o.key l else l) acc, q.length ≤ 20000 := by
    intro l
    induction l with
    | nil => intro acc _ h; exact h
    | cons y l ih =>
      intro acc h1 h2
      rw [List.foldl_cons]
      refine ih _ (fun o ho => h1 o (List.mem_cons_of_mem _ ho)) ?_
      split
      · intro q hq
        rcases mem_insK.1 hq with rfl | hq
        · exact (h1 y (List.mem_cons_self ..)).kl
        · exact h2 q hq
      · exact h2
  exact gen p [] hp (fun q hq => by cases hq)
set_option maxHeartbeats 4000000 in
theorem run_find (ap : Option Addr) (np cp : Nat) (p : List OpP) (a : Option Addr) (n cap : Nat) (sn : List SnP) (w : World) (hP : RdO w ap np cp p) (hS : RdS w a n cap sn) (hnp : np ≤ 1000) (hc : checkP p = 0) (x : Int) (hx0 : x ≠ 0)
    (hx : ∀ W e W', FdPost W (readsP p) sn e W' → e = .returned (.tuple #[.map none, .int .i64 x])) (hre : runE p sn = x) :
    Calls Tryz.prog 24 #[.slice ap np cp, .slice a n cap] w (RunPost w p sn) := by
  have HP := Lib.hid hP
  have HS := Lib.hid hS
  have HRE := Lib.hid hre
  have HX0 := Lib.hid hx0
  have HXX := Lib.hid hx
  have hxb : (x == 0) = false := by simpa using hx0
  have HCH : Hid (∀ W, RdO W ap np cp p → Calls Tryz.prog 16 #[.slice ap np cp] W (IntPost W 0)) := fun W h => by have := check_any ap np cp p W h hnp; rwa [hc] at this
  have HRD : Hid (∀ W, RdO W ap np cp p → Calls Tryz.prog 14 #[.slice ap np cp] W (KeysPost W (readsP p))) := fun W h => reads_any ap np cp p W h hnp
  have HKL : Hid (∀ q ∈ readsP p, q.length ≤ 100000) := fun q hq => Nat.le_trans (keys_len hP.ok q hq) (by decide)
  have HRL : Hid ((readsP p).length ≤ 1000) := Nat.le_trans (namedP_length 1 1 p) (by have := hP.rd.1; omega)
  clear hP hS hre hc hx0 hx
  go_enter_defers Tryz.func24, Tryz.ntmps24
  go_wp2_with fail
  go_at_call 16
  have hx := Cx.start w
  refine (HCH.out _ (HP.out.below hx.bl)).mono ?_
  rintro e w1 ⟨rfl, hb1⟩
  have HX1 := Lib.hid (hx.below hb1)
  clear hx hb1
  go_wp2_with fail
  go_at_call 14
  refine (HRD.out _ (HP.out.below HX1.out.bl)).mono ?_
  rintro e w2 ⟨v, rfl, ho, hb2⟩
  obtain ⟨ak, ck, rfl, hrk⟩ := OwnK.rd ho
  have HX2 := Lib.hid (HX1.out.below hb2)
  have HRK := Lib.hid hrk
  clear ho hrk hb2
  go_wp2_with fail
  go_at_call 43
  refine (find_any _ _ _ _ _ _ _ _ w2 HRK.out HKL.out (HS.out.below HX2.out.bl) HRL.out).mono ?_
  intro e w3 hf
  obtain rfl := HXX.out _ _ _ hf
  have hx3 := HX2.out.below hf.1
  have hx4 := hx3.setQ x
  have HX5 := Lib.hid ((hx4.setP (.slice none 0 0)).setQ x)
  obtain ⟨_, _, c1, f1⟩ := hx3.cells
  obtain ⟨d0, e0, d1, e1⟩ := hx4.cells
  obtain ⟨_, _, g1, k1⟩ := (hx4.setP (.slice none 0 0)).cells
  clear hx3 hx4 hf
  go_wp2_with fail
  refine wp_region_ht 2 (fun W => W.cell? ⟨w.heap.size + 1, 0, none⟩ = some (.int .i64 x)) (by kernel_rfl) (by kernel_rfl) ?_ (fun hHeld => ?_)
  · exact d1
  try simp only [Act.put, List.setIfInBounds_toArray, List.set_cons_zero, List.set_cons_succ]
  refine wpHT_takeD (i := 0) (d := 27) (v := ?_) (by kernel_rfl) rfl rfl (by decide) (by kernel_rfl) (by kernel_rfl) (fun _ _ _ h => leaves_run (by decide) (by decide) h) (Or.inl ⟨by kernel_rfl, ?_⟩) (by assumption) ?_
  rotate_left
  · intro w hSw; (try dsimp only at hSw); go_simp; (try with_reducible rfl)
  try simp only [Act.put, List.setIfInBounds_toArray, List.set_cons_zero, List.set_cons_succ]
  refine wpHT_one (i := 1) (by kernel_rfl) rfl (by decide) (fun K hK => ?_)
  go_simp
  refine hK.out _ _ ?_ (fun hHeld => ?_)
  · exact g1
  clear hK K
  try simp only [Act.put, List.setIfInBounds_toArray, List.set_cons_zero, List.set_cons_succ]
  refine wpHT_done (by kernel_rfl) ?_
  simp only [List.drop_succ_cons, List.drop_zero]
  clear hHeld
  go_wp2_with fail
  exact ⟨_, HX5.out.drew.res rfl rfl, RunPost.err HRE.out HX0.out HX5.out.drew.bl⟩
end Go.Proofs.YtalpbphfmelhhaaGreatDoor

/-! ### A program run over what was seen (prog.Run): its steps. -/
namespace Go.Proofs.YtalpbphfmelhhaaGreatDoor
open Go.RowKit Go.Maps Go.Sort
set_option maxRecDepth 100000
attribute [local go_sem] bs_size bs_get bs_toList frombits tobits run_store_float
theorem Cx.kept {K : Nat → Prop} {w W W' : World} {x0 : Value} {y : Int} (h : Cx w x0 y W) (hk : Fw K w.heap.size W W') (h1 : K w.heap.size) (h2 : K (w.heap.size + 1)) : Cx w x0 y W' := ⟨(hk.2 _ h1).trans h.p, (hk.2 _ h2).trans h.q, h.bl.trans hk.1⟩
def KPQ (w : World) (k : Nat) : Prop := k = w.heap.size ∨ k = w.heap.size + 1
/-- The run, made. -/
theorem run_made {w W : World} {m : Nat} {L : List (List UInt8 × Vl)} (hx : Cx w (.slice none 0 0) 0 W) (hm : OwnV W m L) (hlo : w.heap.size + 1 < m) :
    RnS (KPQ w) w.heap.size (W.heap.size + 1) m W.heap.size L ⟨[], []⟩ ((W.alloc (.map #[] 0)).alloc (.cells #[.slice none 0 0, .map (some m), .map (some W.heap.size)] 82)) := by
  have h2 := heap_alloc_new (W.alloc (.map #[] 0)) (.cells #[.slice none 0 0, .map (some m), .map (some W.heap.size)] 82)
  rw [World.size_alloc] at h2
  have hb : Below W.heap.size W ((W.alloc (.map #[] 0)).alloc (.cells #[.slice none 0 0, .map (some m), .map (some W.heap.size)] 82)) := ((Below.refl _ W).alloc (Nat.le_refl _) _).alloc (by simp) _
  have hmw : OwnV ((W.alloc (.map #[] 0)).alloc (.cells #[.slice none 0 0, .map (some m), .map (some W.heap.size)] 82)) W.heap.size [] := (World.ownsMap_made W Tryz.prog 9 RVal).alloc _
  have hlt := hx.lt
  have hml := hm.lt
  refine ⟨.slice none 0 0, ⟨h2, World.ownsRow_nil _ _ _ _, ownsMap_block hm (hb.block m hml), hmw, SrtG.nil, by omega, by omega, by omega, Nat.le_trans (by omega) hb.size⟩, ?_, ?_, fun k e => by simp [Value.ownBlock] at e, fun k e => ?_⟩
  · rintro (e | e) <;> omega
  · rintro (e | e) <;> omega
  · have := hb.size
    rcases e with e | e <;> omega
theorem SWr : STy Tryz.prog 35 54 (.agg #[.string ⟨#[]⟩, .int .i64 0, .float .f64 0, .string ⟨#[]⟩]) 4 48 := ⟨Tryz.underlying35, info_parts (by kernel_rfl), by decide, by decide⟩
/-- What is written, while it is listed. -/
structure L2 (w wl : World) (l : List (List UInt8 × Vl)) (j : Nat) (v : Value) (W : World) : Prop where
  fr : Fr (fun k => k = w.heap.size) wl W
  cx : Cx w v 0 W
  own : OwnW W wl.heap.size v (l.take j)
theorem S17 {K : Nat → Prop} {B rb m wm : Nat} {L : List (List UInt8 × Vl)} {r : RS} {w wl X : World} (fr : Fr (fun k => k = w.heap.size) wl X) (h : RnS K B rb m wm L r wl) (h1 : rb ≠ w.heap.size) (h2 : wm ≠ w.heap.size) : X.cell? ⟨rb, 2, none⟩ = some (.map (some wm)) ∧ OwnV X wm r.wr := by
  obtain ⟨sv, h, _⟩ := h
  obtain ⟨l1, _, l3, _⟩ := h.lt
  exact ⟨(World.cell?_of_block (fr.block rb l1 h1)).trans h.cells.2.2.1, ownsMap_block h.wr (fr.block wm l3 h2)⟩
theorem L2.mid {w wl W W1 w5 : World} {l : List (List UInt8 × Vl)} {j : Nat} {v : Value} (h : L2 w wl l j v W) (hP : w.heap.size + 1 < wl.heap.size) (hb : Below W.heap.size W W1) (hg : W1.grownBy w5 v.ownBlock) : Fr (fun k => k = w.heap.size) wl w5 ∧ Cx w v 0 w5 := by
  have hown : ∀ k, v.ownBlock = some k → wl.heap.size ≤ k := fun k hk => (World.ownsRow.lt h.own k hk).1
  have h1 := h.cx.below hb
  have hb0 := h.fr.size
  refine ⟨(h.fr.trans (Fr.of_new hb)).grown hg (fun k hk e => by have := hown k e; omega), ⟨(hg.block _ (by have := h1.lt; omega) (fun e => by have := hown _ e.symm; omega)).trans h1.p, (hg.block _ h1.lt (fun e => by have := hown _ e.symm; omega)).trans h1.q, h1.bl.grown hg h1.bl.size (fun k e => by have := hown k e; omega)⟩⟩
theorem L2.next {w wl W w5 : World} {l : List (List UInt8 × Vl)} {j : Nat} {v v5 : Value} {q : List UInt8 × Vl} (_h : L2 w wl l j v W) (hP : w.heap.size + 1 < wl.heap.size) (hq : l[j]? = some q) (hf : Fr (fun k => k = w.heap.size) wl w5) (hc : Cx w v 0 w5) (ho : w5.ownsRow wl.heap.size 54 4 v5 ((l.take j).length + 1) (flatE wrCells (l.take j) ++ wrCells q)) : L2 w wl l (j + 1) v5 (w5.setCell ⟨w.heap.size, 0, none⟩ v5) := by
  refine ⟨hf.setCell (p := ⟨w.heap.size, 0, none⟩) (fun _ => rfl) _, hc.setP v5, ?_⟩
  have e : l.take (j + 1) = l.take j ++ [q] := take_snoc hq
  show World.ownsRow _ _ _ _ _ _ _
  rw [e, flatE_snoc, List.length_append]
  exact ownsRow_keep ho fun k hk => Below.heap_setCell _ _ _ _ (fun e => by have h5 : k = w.heap.size := e; have := (World.ownsRow.lt ho k hk).1; omega)
set_option maxHeartbeats 8000000 in
theorem run_go (ap : Option Addr) (np cp : Nat) (p : List OpP) (a : Option Addr) (n cap : Nat) (sn : List SnP) (w : World) (hP : RdO w ap np cp p) (hS : RdS w a n cap sn) (hnp : np ≤ 1000) (hc : checkP p = 0) (hmi : missB sn (readsP p) = false) (hbd : badB sn (readsP p) = false) :
    Calls Tryz.prog 24 #[.slice ap np cp, .slice a n cap] w (RunPost w p sn) := by
  have HP := Lib.hid hP
  have HS := Lib.hid hS
  have hre : runE p sn = (runGo sn p ⟨[], []⟩).2 := by unfold runE; rw [if_neg (by rw [hc]; simp), hmi, hbd]; rfl
  have HRE := Lib.hid hre
  have HXX : Hid (∀ W e W', FdPost W (readsP p) sn e W' → ∃ m L, e = .returned (.tuple #[.map (some m), .int .i64 0]) ∧ OwnV W' m L ∧ W.heap.size ≤ m ∧ (∀ q ∈ readsP p, getG q L = some (seenV sn q))) := by
    intro W e W' h
    have := h.2
    rw [hmi, hbd] at this
    obtain ⟨m, L, h1, h2, h3, h4, _⟩ := this
    exact ⟨m, L, h1, h2, h3, h4⟩
  have HCH : Hid (∀ W, RdO W ap np cp p → Calls Tryz.prog 16 #[.slice ap np cp] W (IntPost W 0)) := fun W h => by have := check_any ap np cp p W h hnp; rwa [hc] at this
  have HRD : Hid (∀ W, RdO W ap np cp p → Calls Tryz.prog 14 #[.slice ap np cp] W (KeysPost W (readsP p))) := fun W h => reads_any ap np cp p W h hnp
  have HKL : Hid (∀ q ∈ readsP p, q.length ≤ 100000) := fun q hq => Nat.le_trans (keys_len hP.ok q hq) (by decide)
  have HRL : Hid ((readsP p).length ≤ 1000) := Nat.le_trans (namedP_length 1 1 p) (by have := hP.rd.1; omega)
  have HCK := Lib.hid (chk_of hc)
  have HN := Lib.hid hP.rd.1
  have hmm := @run_makeMap Tryz.prog
  clear hP hS hre hc hmi hbd
  go_enter_defers Tryz.func24, Tryz.ntmps24
  go_wp2_with fail
  go_at_call 16
  have hx := Cx.start w
  refine (HCH.out _ (HP.out.below hx.bl)).mono ?_
  rintro e w1 ⟨rfl, hb1⟩
  have HX1 := Lib.hid (hx.below hb1)
  clear hx hb1
  go_wp2_with fail
  go_at_call 14
  refine (HRD.out _ (HP.out.below HX1.out.bl)).mono ?_
  rintro e w2 ⟨v, rfl, ho, hb2⟩
  obtain ⟨ak, ck, rfl, hrk⟩ := OwnK.rd ho
  have HX2 := Lib.hid (HX1.out.below hb2)
  have HRK := Lib.hid hrk
  clear ho hrk hb2
  go_wp2_with fail
  go_at_call 43
  refine (find_any _ _ _ _ _ _ _ _ w2 HRK.out HKL.out (HS.out.below HX2.out.bl) HRL.out).mono ?_
  intro e w3 hf
  obtain ⟨m, L, rfl, hom, hml, hgt⟩ := HXX.out _ _ _ hf
  have hx3 := HX2.out.below hf.1
  have hx4 := hx3.setQ 0
  have hlo : w.heap.size + 1 < m := Nat.lt_of_lt_of_le HX2.out.lt hml
  have hom4 : OwnV (w3.setCell ⟨w.heap.size + 1, 0, none⟩ (.int .i64 0)) m L := ownsMap_block hom (Below.heap_setCell _ _ _ _ (by show m ≠ w.heap.size + 1; omega))
  have HW3 : Hid (w.heap.size + 1 < w3.heap.size) := hx3.lt
  have hsz : (w3.setCell ⟨w.heap.size + 1, 0, none⟩ (.int .i64 0)).heap.size = w3.heap.size := by simp [World.setCell]
  have hrm := run_made hx4 hom4 hlo
  rw [hsz] at hrm
  have HR := Lib.hid hrm
  have HGT := Lib.hid hgt
  have HX5 := Lib.hid ((hx4.below ((Below.refl _ _).alloc (Nat.le_refl _) (.map #[] 0))).below ((Below.refl _ _).alloc (Nat.le_refl _) (.cells #[.slice none 0 0, .map (some m), .map (some w3.heap.size)] 82)))
  obtain ⟨_, _, c1, f1⟩ := hx3.cells
  obtain ⟨d0, e0, d1, e1⟩ := hx4.cells
  clear hx3 hx4 hf hom hml hgt hlo hom4 hrm hsz
  have hmf : ∀ (fn : Fn) (first cap : Array Value) (w : World), (Instr.makeFunc fn first cap).run Tryz.prog w = .ok (.func fn first cap) w := fun _ _ _ _ => rfl
  go_wp2_with fail
  clear c1 f1 d0 e0 d1 e1
  go_loopw [35] (fun i wr => ∃ (k : Nat) (r : RS), k ≤ np ∧ i = .int .i64 (k : Nat) ∧ Hid (RunAt p sn k r) ∧ Hid (RnS (KPQ w) w.heap.size (w3.heap.size + 1) m w3.heap.size L r wr) ∧ Hid (Cx w (.slice none 0 0) 0 wr)) (fun i _ => np - (intOf i).toNat)
  case atStart => exact ⟨0, _, Nat.zero_le _, rfl, RunAt.start HCK.out.2, HR.out, HX5.out⟩
  case round =>
    obtain ⟨k, r, hk, rfl, HA, HRR, HXR⟩ := hrel
    by_cases hlt : k < np
    · obtain ⟨o, ho⟩ : ∃ o, p[k]? = some o := ⟨_, List.getElem?_eq_getElem (by have := HN.out; omega)⟩
      obtain ⟨b, off, rfl, c0, c1, c2, c3, c4⟩ := (HP.out.below HXR.out.bl).at ho
      obtain ⟨n1, n2, n3, n4, n5⟩ := HA.out.next ho
      have hok := HP.out.ok o (List.mem_of_getElem? ho)
      have hb5 : Below wr.heap.size wr (wr.alloc (.cells #[.int .i64 o.c, .string (bs o.key), .int .i64 o.v.k, .float .f64 (fb o.v.x), .string (bs o.v.s)] 59)) := (Below.refl _ _).alloc (Nat.le_refl _) _
      have HR6 := Lib.hid (HRR.out.new hb5)
      have HX6 := Lib.hid (HXR.out.below hb5)
      have HHI : Hid (r.st.length ≤ 800) := Nat.le_trans HA.out.hi (by decide)
      have HWR : Hid (r.wr.length < maxLen) := Nat.lt_of_le_of_lt HA.out.wr (by have := HCK.out.1; have := HN.out; unfold maxLen; omega)
      have HKY : Hid (o.key.length ≤ maxLen) := Nat.le_trans hok.kl (by decide)
      have HGE : Hid (o.c = 1 → (getG o.key L).getD Vl.nil = seenV sn o.key) := fun e => by rw [HGT.out _ (n3 e)]; rfl
      have HN1 := Lib.hid n1
      have HN2 := Lib.hid n2
      clear hok hb5 ho n1 n2 n3
      by_cases hz : (stepP sn o r).2 = 0
      · have HDO := Lib.hid (do_ok o HN1.out HN2.out HHI.out HKY.out HWR.out HGE.out hz _ HR6.out)
        have HA2 := Lib.hid (n4 hz)
        clear n4 n5 hz
        go_wp2_with fail
        go_at_call 45
        refine HDO.out.mono ?_
        rintro e w5 ⟨rfl, hr5, hf5⟩
        have HR5 := Lib.hid hr5
        have HX7 := Lib.hid (HX6.out.kept hf5 (.inl rfl) (.inr rfl))
        clear hr5 hf5
        go_wp2_with fail
        go_roundw
        case rel => exact ⟨k + 1, _, by omega, by go_num, HA2.out, HR5.out, HX7.out⟩
        case measure => simp [intOf]; omega
      · have HDO := Lib.hid (do_no o HN1.out HN2.out HHI.out hz _ HR6.out)
        have HE5 := Lib.hid (n5 hz)
        have HZ := Lib.hid hz
        clear n4 n5 hz
        go_wp2_with fail
        go_at_call 45
        refine HDO.out.mono ?_
        rintro e w5 ⟨rfl, hf5⟩
        have HX7 := Lib.hid (HX6.out.kept hf5 (.inl rfl) (.inr rfl))
        clear hf5
        refine leaves_cons (f := 44) (args := #[.pointer (some ⟨w.heap.size, 0, none⟩), .pointer (some ⟨w.heap.size + 1, 0, none⟩)]) (by simp) (by simp [go_sem]) ?_
        refine (catch_stop w.heap.size (w.heap.size + 1) (stepP sn o r).2 [] _ (.slice none 0 0) 0 HX7.out.p HX7.out.q (by simp)).mono ?_
        rintro e u' w6 ⟨rfl, rfl, hp6, hq6, hb6⟩
        have hx8 : Cx w (.slice none 0 0) (stepP sn o r).2 w6 := ⟨hp6, hq6, HX7.out.bl.trans (hb6 _ (Nat.le_refl _) (Nat.le_succ _) HX7.out.bl.size)⟩
        exact ⟨_, hx8.res rfl rfl, RunPost.err (HRE.out.trans HE5.out) HZ.out hx8.bl⟩
    · obtain rfl : k = np := by omega
      have HGO : Hid (runGo sn p ⟨[], []⟩ = (r, 0)) := HA.out.last (by have := HN.out; omega)
      have HWK : Hid (∀ q ∈ r.wr, q.1.length ≤ maxLen) := fun q hq => by
        obtain ⟨o, ho, e⟩ := HA.out.kl q hq
        rw [e]
        exact Nat.le_trans (HP.out.ok o ho).kl (by decide)
      have HE0 : Hid (runE p sn = 0) := by show _ = _; rw [HRE.out, HGO.out]
      have HWW : Hid (runW p sn = r.wr) := by show _ = _; unfold runW; rw [if_neg (by rw [HE0.out]; simp), HGO.out]
      have hsrt : SrtG r.wr := by obtain ⟨sv, h, _⟩ := HRR.out; exact h.srt
      have hks : strKeys (mapG valL r.wr) = r.wr.map (fun q => q.1) := mapG_keys valL r.wr
      have hln : r.wr.length ≤ 1000 := Nat.le_trans HA.out.wr hnp
      have HKS := Lib.hid (callsIn_wide.1 (Tryz.maps_Keys_47 (some w3.heap.size) wr))
      have HST := Lib.hid (callsIn_wide.1 (Tryz.slices_Sorted_keys_46_47 w3.heap.size _ (mapG valL r.wr) RVal wr HRR.out.wr (by rw [mapG_size]; unfold maxLen; omega) (by rw [mapG_size]; omega)))
      have c2 := HRR.out.cell2
      have HSK : Hid (∀ ss : List (List UInt8), ss.Perm (strKeys (mapG valL r.wr)) → ss.mergeSort (fun x y => decide (x ≤ y)) = r.wr.map (fun q => q.1)) := fun ss hp => by rw [hks] at hp; exact hsrt.keys.sorted hp
      have HSRT := Lib.hid hsrt
      have HLN := Lib.hid hln
      clear hsrt hks hln
      go_wp2_with fail
      go_at_call 47
      refine (HKS.out).mono ?_
      rintro e wk ⟨rfl, rfl⟩
      go_wp2_with fail
      go_at_call 46
      refine (HST.out).mono ?_
      rintro e wl ⟨v, ss, rfl, hp, hrow, _, hb⟩
      rw [HSK.out ss hp] at hrow
      have hpl := hp.length_eq
      rw [mapG_keys, List.length_map] at hpl
      have hbl : Below wr.heap.size wr wl := ((Below.refl _ wr).alloc (Nat.le_refl _) _).trans (hb.mono (by simp))
      obtain ⟨al, cl, rfl, hrl⟩ := Rd.of_own hrow
      have HRL2 : Hid (RdK wl al r.wr.length cl (r.wr.map fun q => q.1)) := by rw [hpl] at hrl; exact ⟨by simp, hrl⟩
      rw [hpl]
      have HBL := Lib.hid hbl
      have HXL := Lib.hid (HXR.out.below hbl)
      have HRN := Lib.hid (HRR.out.new hbl)
      have HOK : Hid (OwnK wl wr.heap.size (.slice al r.wr.length cl) (r.wr.map fun q => q.1)) := by
        rw [hpl] at hrow
        show World.ownsRow _ _ _ _ _ _ _
        rw [List.length_map]
        exact ownsRow_mono hrow (by simp)
      have HPL : Hid (w.heap.size + 1 < wl.heap.size) := HXL.out.lt
      have HPW : Hid (w.heap.size < wr.heap.size) := by have := HXR.out.lt; show _ < _; omega
      clear hp hrow hb hpl hbl hrl c2
      go_wp2_with fail
      go_loopw [50] (fun i wz => ∃ (j : Nat) (v : Value), j ≤ r.wr.length ∧ i = .int .i64 (j : Nat) ∧ Hid (L2 w wl r.wr j v wz)) (fun i _ => r.wr.length - (intOf i).toNat)
      case atStart => exact ⟨0, .slice none 0 0, Nat.zero_le _, rfl, Fr.refl _ _, HXL.out, OwnW.nil _ _⟩
      case round =>
        obtain ⟨j, v, hj, rfl, HL⟩ := hrel
        by_cases hlt2 : j < r.wr.length
        · obtain ⟨q, hq⟩ : ∃ q, r.wr[j]? = some q := ⟨_, List.getElem?_eq_getElem hlt2⟩
          have hkq : (r.wr.map fun q => q.1)[j]? = some q.1 := by rw [List.getElem?_map, hq]; rfl
          have hkr := ownsRow_keep HOK.out (fun i hi => HL.out.fr.block i (World.ownsRow.lt HOK.out i hi).2 (fun e => by have := (World.ownsRow.lt HOK.out i hi).1; have := HPW.out; omega))
          obtain ⟨a9, c9, h9, hrk9⟩ := OwnK.rd hkr
          injection h9 with i1 i2 i3
          subst i1 i3
          obtain ⟨bk, offk, rfl, ck0⟩ := hrk9.at hkq
          have hgv : (getG q.1 r.wr).getD Vl.nil = q.2 := by rw [getG_mem HSRT.out (n := q.1) (a := q.2) (List.mem_of_getElem? hq)]; rfl
          have HQ := Lib.hid hq
          have HGV := Lib.hid hgv
          have HKL2 : Hid (q.1.length ≤ maxLen) := HWK.out q (List.mem_of_getElem? hq)
          clear hkq hkr hrk9 hgv hq i2
          obtain ⟨av, cv, rfl, hav⟩ := Rd.of_own HL.out.own
          clear hav
          have htl : (r.wr.take j).length = j := by rw [List.length_take]; omega
          rw [htl] at HL
          have HTL := Lib.hid htl
          obtain ⟨s2, s3⟩ := S17 HL.out.fr HRN.out (by have := HW3.out; omega) (by have := HW3.out; omega)
          obtain ⟨s1, _, _, _⟩ := HL.out.cx.cells
          have hb8 : Below wr.heap.size wr ((wr.alloc (.cells #[.string (bs q.1), .int .i64 q.2.k, .float .f64 (fb q.2.x), .string (bs q.2.s)] 54)).drew) := ((Below.refl _ _).alloc (Nat.le_refl _) _).drew
          have HO8 : Hid (World.ownsRow ((wr.alloc (.cells #[.string (bs q.1), .int .i64 q.2.k, .float .f64 (fb q.2.x), .string (bs q.2.s)] 54)).drew) wl.heap.size 54 4 (.slice av j cv) j (flatE wrCells (r.wr.take j))) := by
            have := World.ownsRow.alloc HL.out.own (.cells #[.string (bs q.1), .int .i64 q.2.k, .float .f64 (fb q.2.x), .string (bs q.2.s)] 54)
            rw [htl] at this
            exact this
          have HL8 : Hid (Rd ((wr.alloc (.cells #[.string (bs q.1), .int .i64 q.2.k, .float .f64 (fb q.2.x), .string (bs q.2.s)] 54)).drew) (some ⟨wr.heap.size, 0, none⟩) 1 1 4 (wrCells q)) := (Rd.lone wr #[.string (bs q.1), .int .i64 q.2.k, .float .f64 (fb q.2.x), .string (bs q.2.s)] 4 rfl 54).below (Below.refl _ _).drew
          have t1 := cell_alloc_keep (o := (.cells #[.string (bs q.1), .int .i64 q.2.k, .float .f64 (fb q.2.x), .string (bs q.2.s)] 54)) s1
          have t2 := cell_alloc_keep (o := (.cells #[.string (bs q.1), .int .i64 q.2.k, .float .f64 (fb q.2.x), .string (bs q.2.s)] 54)) s2
          have t3 : OwnV ((wr.alloc (.cells #[.string (bs q.1), .int .i64 q.2.k, .float .f64 (fb q.2.x), .string (bs q.2.s)] 54)).drew) w3.heap.size r.wr := ownsMap_block s3 (hb8.block _ s3.lt)
          have HSZ : Hid (wl.heap.size ≤ wr.heap.size) := HL.out.fr.size
          have HB8 := Lib.hid hb8
          have hjl : j ≤ 1000 := by have := HLN.out; omega
          clear hb8 htl
          go_wp2_with fail
          refine wp_region_ht 11 (fun W => W.cell? ⟨w.heap.size, 0, none⟩ = some (.slice av j cv) ∧ W.cell? ⟨w3.heap.size + 1, 2, none⟩ = some (.map (some w3.heap.size)) ∧ OwnV W w3.heap.size r.wr) (by kernel_rfl) (by kernel_rfl) ?_ (fun hHeld => ?_)
          · exact ⟨s1, s2, s3⟩
          try simp only [Act.put, List.setIfInBounds_toArray, List.set_cons_zero, List.set_cons_succ]
          refine wpHT_takeD (i := 0) (d := 54) (v := ?_) (by kernel_rfl) rfl rfl (by decide) (by kernel_rfl) (by kernel_rfl) (fun _ _ _ h => leaves_run (by decide) (by decide) h) (Or.inl ⟨by kernel_rfl, ?_⟩) (by assumption) ?_
          rotate_left
          · intro w hSw; (try dsimp only at hSw); go_simp; (try with_reducible rfl)
          try simp only [Act.put, List.setIfInBounds_toArray, List.set_cons_zero, List.set_cons_succ]
          refine wpHT_takeD (i := 1) (d := 55) (v := ?_) (by kernel_rfl) rfl rfl (by decide) (by kernel_rfl) (by kernel_rfl) (fun _ _ _ h => leaves_run (by decide) (by decide) h) (Or.inl ⟨by kernel_rfl, ?_⟩) (by assumption) ?_
          rotate_left
          · intro w hSw; (try dsimp only at hSw); go_simp; (try with_reducible rfl)
          try simp only [Act.put, List.setIfInBounds_toArray, List.set_cons_zero, List.set_cons_succ]
          refine wpHT_takeD (i := 2) (d := 56) (v := ?_) (by kernel_rfl) rfl rfl (by decide) (by kernel_rfl) (by kernel_rfl) (fun _ _ _ h => leaves_run (by decide) (by decide) h) (Or.inl ⟨by kernel_rfl, ?_⟩) (by assumption) ?_
          rotate_left
          · intro w hSw; (try dsimp only at hSw); go_simp; (try with_reducible rfl)
          try simp only [Act.put, List.setIfInBounds_toArray, List.set_cons_zero, List.set_cons_succ]
          refine wpHT_takeD (i := 3) (d := 57) (v := ?_) (by kernel_rfl) rfl rfl (by decide) (by kernel_rfl) (by kernel_rfl) (fun _ _ _ h => leaves_run (by decide) (by decide) h) (Or.inl ⟨by kernel_rfl, ?_⟩) (by assumption) ?_
          rotate_left
          · intro w hSw; (try dsimp only at hSw); go_simp; (try with_reducible rfl)
          try simp only [Act.put, List.setIfInBounds_toArray, List.set_cons_zero, List.set_cons_succ]
          refine wpHT_takeD (i := 4) (d := 58) (v := ?_) (by kernel_rfl) rfl rfl (by decide) (by kernel_rfl) (by kernel_rfl) (fun _ _ _ h => leaves_run (by decide) (by decide) h) (Or.inl ⟨by kernel_rfl, ?_⟩) (by assumption) ?_
          rotate_left
          · intro w hSw; (try dsimp only at hSw); go_simp; (try with_reducible rfl)
          try simp only [Act.put, List.setIfInBounds_toArray, List.set_cons_zero, List.set_cons_succ]
          refine wpHT_takeD (i := 5) (d := 59) (v := ?_) (by kernel_rfl) rfl rfl (by decide) (by kernel_rfl) (by kernel_rfl) (fun _ _ _ h => leaves_run (by decide) (by decide) h) (Or.inl ⟨by kernel_rfl, ?_⟩) (by assumption) ?_
          rotate_left
          · intro w hSw; (try dsimp only at hSw); go_simp; (try with_reducible rfl)
          try simp only [Act.put, List.setIfInBounds_toArray, List.set_cons_zero, List.set_cons_succ]
          refine wpHT_takeD (i := 6) (d := 60) (v := ?_) (by kernel_rfl) rfl rfl (by decide) (by kernel_rfl) (by kernel_rfl) (fun _ _ _ h => leaves_run (by decide) (by decide) h) (Or.inl ⟨by kernel_rfl, ?_⟩) (by assumption) ?_
          rotate_left
          · intro w hSw; (try dsimp only at hSw); go_simp; (try with_reducible rfl)
          try simp only [Act.put, List.setIfInBounds_toArray, List.set_cons_zero, List.set_cons_succ]
          refine wpHT_takeD (i := 7) (d := 61) (v := ?_) (by kernel_rfl) rfl rfl (by decide) (by kernel_rfl) (by kernel_rfl) (fun _ _ _ h => leaves_run (by decide) (by decide) h) (Or.inl ⟨by kernel_rfl, ?_⟩) (by assumption) ?_
          rotate_left
          · intro W' hSw; have kq := lookV_run hSw.2.2 q.1 HKL2.out; rw [HGV.out] at kq; unfold VA at kq; go_simp; (try with_reducible rfl)
          try simp only [Act.put, List.setIfInBounds_toArray, List.set_cons_zero, List.set_cons_succ]
          refine wpHT_takeD (i := 8) (d := 62) (v := ?_) (by kernel_rfl) rfl rfl (by decide) (by kernel_rfl) (by kernel_rfl) (fun _ _ _ h => leaves_run (by decide) (by decide) h) (Or.inl ⟨by kernel_rfl, ?_⟩) (by assumption) ?_
          rotate_left
          · intro w hSw; (try dsimp only at hSw); go_simp; (try with_reducible rfl)
          try simp only [Act.put, List.setIfInBounds_toArray, List.set_cons_zero, List.set_cons_succ]
          refine wpHT_one (i := 9) (by kernel_rfl) rfl (by decide) (fun K hK => ?_)
          go_simp
          refine hK.out _ _ ?_ (fun hHeld => ?_)
          · exact ⟨t1, t2, t3⟩
          clear hK K
          try simp only [Act.put, List.setIfInBounds_toArray, List.set_cons_zero, List.set_cons_succ]
          refine wpHT_one (i := 10) (by kernel_rfl) rfl (by decide) (fun K hK => ?_)
          refine step_app2 SWr rfl _ _ rfl wl.heap.size rfl HO8.out rfl HL8.out (by simp [wrCells, Value.oneCell']) (by omega) (by unfold maxLen; omega) (by have := HSZ.out; simp; omega) ?_
          intro v5 w5 hown5 hg5 _
          have hmid := HL.out.mid HPL.out HB8.out hg5
          obtain ⟨a5, d5, hv5, _⟩ := Rd.of_own hown5
          subst hv5
          have HNX := Lib.hid (HL.out.next HPL.out HQ.out hmid.1 hmid.2 (by rw [HTL.out]; exact hown5))
          obtain ⟨y2, y3⟩ := S17 hmid.1 HRN.out (by have := HW3.out; omega) (by have := HW3.out; omega)
          obtain ⟨y1, z1, _, _⟩ := hmid.2.cells
          clear hmid hown5 hg5
          refine hK.out _ _ ?_ (fun hHeld => ?_)
          · exact ⟨y1, y2, y3⟩
          clear hK K
          try simp only [Act.put, List.setIfInBounds_toArray]
          refine wpHT_done (by kernel_rfl) ?_
          simp only [List.drop_succ_cons, List.drop_zero]
          clear hHeld
          go_wp2_with fail
          go_roundw
          case rel => exact ⟨j + 1, _, by omega, by go_num, HNX.out⟩
          case measure => simp [intOf]; omega
        · obtain rfl : j = r.wr.length := by omega
          have ht : r.wr.take r.wr.length = r.wr := List.take_length
          have ho := HL.out.own
          rw [ht] at ho
          obtain ⟨av, cv, rfl, _⟩ := Rd.of_own ho
          have hx6 := HL.out.cx.setP (.slice av r.wr.length cv)
          obtain ⟨d0, e0, _, _⟩ := HL.out.cx.cells
          obtain ⟨_, _, d1, e1⟩ := hx6.cells
          have HX6 := Lib.hid (hx6.setQ 0)
          have HOF : Hid (OwnW ((wr.setCell ⟨w.heap.size, 0, none⟩ (.slice av r.wr.length cv)).setCell ⟨w.heap.size + 1, 0, none⟩ (.int .i64 0)) w.heap.size (.slice av r.wr.length cv) (runW p sn)) := by
            show OwnW _ _ _ _
            rw [HWW.out]
            have hp := HPL.out
            exact ownsRow_mono (ownsRow_keep ho fun q hq => by
              have h5 := (World.ownsRow.lt ho q hq).1
              have n1 : q ≠ w.heap.size + 1 := by omega
              have n2 : q ≠ w.heap.size := by omega
              exact (Below.heap_setCell _ _ _ _ n1).trans (Below.heap_setCell _ _ _ _ n2)) (by omega)
          clear ho ht
          clear hx6
          go_wp2_with fail
          refine leaves_cons (f := 44) (args := #[.pointer (some ⟨w.heap.size, 0, none⟩), .pointer (some ⟨w.heap.size + 1, 0, none⟩)]) (by simp) (by simp [go_sem]) ?_
          refine (catch_idle ⟨w.heap.size, 0, none⟩ ⟨w.heap.size + 1, 0, none⟩ _).mono ?_
          rintro e u' w6 ⟨rfl, rfl, rfl⟩
          exact ⟨_, HX6.out.res rfl rfl, _, by rw [HE0.out], HOF.out, HX6.out.bl⟩
end Go.Proofs.YtalpbphfmelhhaaGreatDoor

/-! ### A program run over what was seen (prog.Run), whole. -/
namespace Go.Proofs.YtalpbphfmelhhaaGreatDoor
open Go.RowKit Go.Maps Go.Sort
set_option maxRecDepth 100000
theorem run_any (ap : Option Addr) (np cp : Nat) (p : List OpP) (a : Option Addr) (n cap : Nat) (sn : List SnP) (w : World) (hP : RdO w ap np cp p) (hS : RdS w a n cap sn) (hnp : np ≤ 1000) :
    Calls Tryz.prog 24 #[.slice ap np cp, .slice a n cap] w (RunPost w p sn) := by
  by_cases hc : checkP p = 0
  · cases hmi : missB sn (readsP p) with
    | true =>
      refine run_find ap np cp p a n cap sn w hP hS hnp hc 8 (by decide) (fun W e W' h => ?_) (by unfold runE; rw [if_neg (by rw [hc]; simp), if_pos hmi])
      have := h.2
      rw [if_pos hmi] at this
      exact this
    | false =>
      cases hbd : badB sn (readsP p) with
      | true =>
        refine run_find ap np cp p a n cap sn w hP hS hnp hc 4 (by decide) (fun W e W' h => ?_) (by unfold runE; rw [if_neg (by rw [hc]; simp), hmi, hbd]; rfl)
        have := h.2
        rw [hmi, hbd] at this
        exact this
      | false => exact run_go ap np cp p a n cap sn w hP hS hnp hc hmi hbd
  · exact run_chk ap np cp p a n cap sn w hP hS hnp hc
end Go.Proofs.YtalpbphfmelhhaaGreatDoor
