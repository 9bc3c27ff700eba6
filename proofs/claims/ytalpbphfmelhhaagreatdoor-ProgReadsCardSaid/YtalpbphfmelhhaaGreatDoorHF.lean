/-
  The run's own small functions: pop, push, get, truth, holds, reckon.
  Steps of values: truth, holds, reckon (prog).
  A step of numbers: reckon (prog).
-/
import Derived.Test.YtalpbphfmelhhaaGreatDoorHE
import Derived.Test.YtalpbphfmelhhaaGreatDoorDE
import Derived.WalkLawsBesides
/-! ### The run's own small functions: pop, push, get, truth, holds, reckon. -/
namespace Go.Proofs.YtalpbphfmelhhaaGreatDoor
open Go.RowKit Go.Maps Go.Sort
set_option maxRecDepth 100000
attribute [local go_sem] bs_size bs_get bs_toList frombits tobits run_store_float
theorem run_app {P : Program} {t e : TypeId} {z : Value} {size bytes : Nat} (S : STy P t e z size bytes) {w : World} (base : Nat) {v : Value} {n : Nat} {xs : List Value} (hown : w.ownsRow base e size v n xs)
    {ad : Option Addr} {m c : Nat} {news : List Value} (hr : Rd w ad m c size news) (h1 : ∀ u ∈ news, u.oneCell' = true)
    (hbytes : (n + m) * bytes ≤ 140737488355328) (h63 : n + m ≤ maxLen) (hbase : base ≤ w.heap.size) (ty : TypeId) :
    ∃ v' w', (Builtin.append_ #[t, t] ty #[v, .slice ad m c]).run P w = .ok v' w' ∧ w'.ownsRow base e size v' (n + m) (xs ++ news) ∧ w.grownBy w' v.ownBlock ∧ (v'.ownBlock = v.ownBlock ∨ v'.ownBlock = some w.heap.size) := by
  obtain ⟨i, hi0, hi1, hi2, hi3⟩ := S.info
  by_cases hm : m = 0
  · subst hm
    have hnil : news = [] := List.eq_nil_of_length_eq_zero (by simpa using hr.2.2.2.1)
    subst hnil
    cases ad with
    | none =>
      have hc : c = 0 := hr.2.2.1 rfl
      subst hc
      exact ⟨v, w, run_append_owned_none (P := P) (w := w) base t ty e i size S.ht hi0 v n xs hown, by simpa using hown, World.grownBy.refl _ _, .inl rfl⟩
    | some ad =>
      obtain ⟨v', w', h2, h3, h4, _, h5⟩ := run_append_own_at (P := P) w base t ty e i z size bytes S.ht hi0 hi1 hi2 hi3 S.zs S.pos v n xs hown ad 0 c [] (by simp) (by simp) (by simp) h63 hbytes hbase
      exact ⟨v', w', h2, h3, h4, h5⟩
  · obtain ⟨b, off, rfl, hb, hcell⟩ := hr.at (Nat.mul_pos (by omega) S.pos)
    obtain ⟨v', w', h2, h3, h4, _, h5⟩ := run_append_own_at (P := P) w base t ty e i z size bytes S.ht hi0 hi1 hi2 hi3 S.zs S.pos v n xs hown _ m c news hr.2.2.2.1
      (fun j u hj => by rw [Addr.add_none]; exact hcell j u hj) h1 h63 hbytes hbase
    exact ⟨v', w', h2, h3, h4, h5⟩
theorem step_app2 {P : Program} {t e : TypeId} {z : Value} {size bytes : Nat} (S : STy P t e z size bytes) {w : World} {ops : Array Oper} {o : Oper} {a : Act} {K : Act → World → Prop} {Q : Exit → Act → World → Prop} {E : Prop}
    (hgd : o.guard = none) (s x : Operand) (ho : o.op = .call { callee := .builtin .append, args := #[s, x], argTypes := #[t, t] })
    (base : Nat) {v : Value} {n : Nat} {xs : List Value} (hs : a.eval s = v) (hown : w.ownsRow base e size v n xs)
    {ad : Option Addr} {m c : Nat} {news : List Value} (hx : a.eval x = .slice ad m c) (hr : Rd w ad m c size news) (h1 : ∀ u ∈ news, u.oneCell' = true)
    (hbytes : (n + m) * bytes ≤ 140737488355328) (h63 : n + m ≤ maxLen) (hbase : base ≤ w.heap.size)
    (hK : ∀ v' w', w'.ownsRow base e size v' (n + m) (xs ++ news) → w.grownBy w' v.ownBlock → (v'.ownBlock = v.ownBlock ∨ v'.ownBlock = some w.heap.size) → K (a.put o.dst v') w') :
    if Region.wanted o (yielded ops a.tmps) = true then Oper.wp P o a w K Q else E := by
  have hw : Region.wanted o (yielded ops a.tmps) = true := by simp [Region.wanted, hgd]
  rw [if_pos hw]
  obtain ⟨v', w', hrun, h2, h3, h4⟩ := run_app S base hown hr h1 hbytes h63 hbase o.type
  unfold Oper.wp execOp
  simp only [ho, resolve, invoke, builtin, Sem.run_bind, Sem.run_pure, Result.andThen_ok, List.map_toArray, List.map_cons, List.map_nil, hs, hx, hrun]
  exact hK v' w' h2 h3 h4
theorem run_cutV {g n k cap : Nat} (h1 : k ≤ n) (h2 : n ≤ cap) (w : World) :
    (Instr.slice 80 (.slice (some ⟨g, 0, none⟩) n cap) none (some (.int .i64 (k : Int))) none).run Tryz.prog w = .ok (.slice (some ⟨g, 0, none⟩) k cap) w := by
  obtain ⟨i, hi0, hi1, hi2, hi3⟩ := SVl.info
  have e2 : k ≤ cap := by omega
  simp [Instr.slice, run_underlying SVl.ht, Instr.sliceBounds, Instr.sliceBound, asIntOf, sizeOf, typeInfo, hi0, e2, Addr.add]
theorem RnM.newB {B rb m wm : Nat} {sn : List (List UInt8 × Vl)} {r : RS} {sv : Value} {w w' : World} (h : RnM B rb m wm sn r sv w) {b : Nat} (l1 : rb < b) (l2 : m < b) (l3 : wm < b) (l4 : ∀ k, sv.ownBlock = some k → k < b) (hb : Below b w w') : RnM B rb m wm sn r sv w' :=
  h.keep (hb.block rb l1) (hb.block m l2) (hb.block wm l3) (fun k hk => hb.block k (l4 k hk)) (Nat.le_trans h.bw hb.size)
theorem below_cells9 {B : Nat} {a : World} (b : Nat) (hb : B ≤ b) : ∀ (vs : List Value) (o : Nat) {w : World}, Below B a w → Below B a (w.setCells b o vs)
  | [], _, _, h => h
  | v :: r, o, _, h => by rw [World.setCells]; exact below_cells9 b hb r (o + 1) (h.setCell (p := ⟨b, o, none⟩) hb v)
def vlA (v : Vl) : Array Value := #[.int .i64 v.k, .float .f64 (fb v.x), .string (bs v.s)]
theorem ret_vl {W : World} {b : Nat} {v : Vl} (ht : W.there b 0 3) : (loadVar 48 ⟨b, 0, none⟩).run Tryz.prog (W.setCells b 0 (vlA v).toList) = .ok (VA v.k v.x v.s) (W.setCells b 0 (vlA v).toList) :=
  run_loadVar_mid _ b 0 48 (vlA v).toList _ (World.rangeAt_setCells_same W b 0 _ ht) Tryz.underlying48 rfl (by kernel_rfl)
theorem there_new (w : World) (c : Array Value) (t : TypeId) (n : Nat) (hn : c.size = n) : (w.alloc (.cells c t)).there w.heap.size 0 n := fun j hj => by
  rw [Nat.zero_add]
  refine ⟨?_, frozen_of_row _ w.heap.size j c t (heap_alloc_new w _)⟩
  rw [cell_of_row _ w.heap.size j c t (0, 0) (heap_alloc_new w _)]
  simp; omega
theorem there_keep {w w' : World} {b o n B : Nat} (h : w.there b o n) (hb : Below B w w') (hlt : b < B) : w'.there b o n := fun j hj => by
  rw [hb.cell (p := ⟨b, o + j, none⟩) hlt, hb.frozen (p := ⟨b, o + j, none⟩) hlt]
  exact h j hj
theorem st3 {X : World} {b : Nat} (h : X.there b 0 3) (x y : Value) : ∃ u0 u1 u2, X.cell? ⟨b, 0, none⟩ = some u0 ∧ X.frozen? ⟨b, 0, none⟩ = false ∧ (X.setCell ⟨b, 0, none⟩ x).cell? ⟨b, 1, none⟩ = some u1 ∧ (X.setCell ⟨b, 0, none⟩ x).frozen? ⟨b, 1, none⟩ = false ∧
    ((X.setCell ⟨b, 0, none⟩ x).setCell ⟨b, 1, none⟩ y).cell? ⟨b, 2, none⟩ = some u2 ∧ ((X.setCell ⟨b, 0, none⟩ x).setCell ⟨b, 1, none⟩ y).frozen? ⟨b, 2, none⟩ = false := by
  obtain ⟨u0, h0⟩ := Option.isSome_iff_exists.1 (h 0 (by decide)).1
  obtain ⟨u1, h1⟩ := Option.isSome_iff_exists.1 (h 1 (by decide)).1
  obtain ⟨u2, h2⟩ := Option.isSome_iff_exists.1 (h 2 (by decide)).1
  have f0 := (h 0 (by decide)).2
  have f1 := (h 1 (by decide)).2
  have f2 := (h 2 (by decide)).2
  simp only [Nat.zero_add] at h0 h1 h2 f0 f1 f2
  refine ⟨u0, u1, u2, h0, f0, ?_, ?_, ?_, ?_⟩
  · exact (World.cell?_setCells_out b [x] 0 X ⟨b, 1, none⟩ (by simp)).trans h1
  · exact (World.frozen?_setCells b [x] 0 X ⟨b, 1, none⟩).trans f1
  · exact (World.cell?_setCells_out b [x, y] 0 X ⟨b, 2, none⟩ (by simp)).trans h2
  · exact (World.frozen?_setCells b [x, y] 0 X ⟨b, 2, none⟩).trans f2
def zV : Array Value := #[.int .i64 0, .float .f64 0, .string ⟨#[]⟩]
set_option maxHeartbeats 2000000 in
theorem pop_any {B rb m wm : Nat} {sn : List (List UInt8 × Vl)} {r : RS} {K : Nat → Prop} (v : Vl) (st : List Vl) (hr : r.st = v :: st) (w : World) (h : RnS K B rb m wm sn r w) (hn : st.length ≤ 1000) :
    Calls Tryz.prog 76 #[.pointer (some ⟨rb, 0, none⟩)] w (fun e w' => e = .returned (VA v.k v.x v.s) ∧ RnS K B rb m wm sn ⟨st, r.wr⟩ w' ∧ Below B w w' ∧ KpK K w w') := by
  obtain ⟨sv, h, hap⟩ := h
  have HH := Lib.hid h
  obtain ⟨c0, _, _, fz⟩ := h.cells
  have hlen : r.st.length = st.length + 1 := by rw [hr]; rfl
  obtain ⟨g, cap, hsv, hcap, hcm, hcut⟩ := own_cut h.st st.length (by omega) (by omega)
  obtain ⟨ad, cap', hv', hrd⟩ := Rd.of_own h.st
  have hrE : RdE vlCells 3 w ad r.st.length cap' r.st.reverse := ⟨by simp, hrd⟩
  obtain ⟨b, off, hb, hc⟩ := hrE.at vlCells3 (i := st.length) (x := v) (by rw [hr]; simp) (by decide)
  rw [hsv] at hv' c0
  injection hv' with i1 i2 i3
  rw [← i1] at hb
  injection hb with hb
  injection hb with i4 i5
  subst i4 i5
  have d0 := hc 0 _ rfl
  have d1 := hc 1 _ rfl
  have d2 := hc 2 _ rfl
  rw [hlen] at c0 hcap
  have hcat : flatE vlCells st.reverse = (flatE vlCells r.st.reverse).take (st.length * 3) := by
    rw [flatE_take vlCells3, hr, List.reverse_cons, List.take_left' (by simp)]
  have hcut' : w.ownsRow B 48 3 (.slice (some ⟨g, 0, none⟩) st.length cap) st.length (flatE vlCells st.reverse) := by rw [hcat]; exact hcut
  simp only [Nat.zero_add, Nat.add_zero] at d0 d1 d2
  have g0 := cell_alloc_keep (o := .cells #[.int .i64 0, .float .f64 0, .string ⟨#[]⟩] 48) c0
  have e0 := cell_alloc_keep (o := .cells #[.int .i64 0, .float .f64 0, .string ⟨#[]⟩] 48) d0
  have e1 := cell_alloc_keep (o := .cells #[.int .i64 0, .float .f64 0, .string ⟨#[]⟩] 48) d1
  have e2 := cell_alloc_keep (o := .cells #[.int .i64 0, .float .f64 0, .string ⟨#[]⟩] 48) d2
  have f0 := cell_alloc_keep (o := .cells #[.int .i64 v.k, .float .f64 (fb v.x), .string (bs v.s)] 48) g0
  obtain ⟨k0, k1, k2⟩ := vat (w.alloc (.cells #[.int .i64 0, .float .f64 0, .string ⟨#[]⟩] 48)) v.k v.x v.s 48
  have hne : rb ≠ (w.alloc (.cells #[.int .i64 0, .float .f64 0, .string ⟨#[]⟩] 48)).heap.size := by have := h.lt.1; simp; omega
  rw [← World.cell?_setCell_far _ ⟨rb, 0, none⟩ _ (.slice (some ⟨g, 0, none⟩) st.length cap) hne] at k0 k1 k2
  simp only [World.size_alloc] at k0 k1 k2
  have hbb : Below w.heap.size w ((w.alloc (.cells #[.int .i64 0, .float .f64 0, .string ⟨#[]⟩] 48)).alloc (.cells #[.int .i64 v.k, .float .f64 (fb v.x), .string (bs v.s)] 48)) := ((Below.refl _ w).alloc (Nat.le_refl _) _).alloc (by simp) _
  generalize hW5 : ((w.alloc (.cells #[.int .i64 0, .float .f64 0, .string ⟨#[]⟩] 48)).alloc (.cells #[.int .i64 v.k, .float .f64 (fb v.x), .string (bs v.s)] 48)) = W5 at hbb k0 k1 k2 f0
  obtain ⟨_, _, t1, t2⟩ := h.turn (.inl hbb) (ownsRow_keep hcut' fun k hk => hbb.block k (World.ownsRow.lt hcut' k hk).2)
  have hth : (W5.setCell ⟨rb, 0, none⟩ (.slice (some ⟨g, 0, none⟩) st.length cap)).there w.heap.size 0 3 := by
    have h1 := there_keep (there_new w #[.int .i64 0, .float .f64 0, .string ⟨#[]⟩] 48 3 rfl) (B := w.heap.size + 1) ((Below.refl _ _).alloc (by simp) (.cells #[.int .i64 v.k, .float .f64 (fb v.x), .string (bs v.s)] 48)) (Nat.lt_succ_self _)
    rw [hW5] at h1
    intro j hj
    have hn1 : rb ≠ w.heap.size := Nat.ne_of_lt h.lt.1
    rw [World.cell?_setCell_far _ ⟨rb, 0, none⟩ ⟨w.heap.size, 0 + j, none⟩ _ hn1]
    refine ⟨(h1 j hj).1, ?_⟩
    have h2 := (h1 j hj).2
    rw [← h2]
    exact World.frozen?_of_block (Below.heap_setCell _ _ _ _ (Ne.symm hn1))
  have hkp : KpK K w ((W5.setCell ⟨rb, 0, none⟩ (.slice (some ⟨g, 0, none⟩) st.length cap)).setCells w.heap.size 0 (vlA v).toList) :=
    (hap.turn (.inl hbb)).trans (KpK.below (below_cells9 (B := w.heap.size) w.heap.size (Nat.le_refl _) (vlA v).toList 0 (Below.refl _ (W5.setCell ⟨rb, 0, none⟩ (.slice (some ⟨g, 0, none⟩) st.length cap)))) hap.2.2.2)
  have hfin : Hid (RnS K B rb m wm sn ⟨st, r.wr⟩ ((W5.setCell ⟨rb, 0, none⟩ (.slice (some ⟨g, 0, none⟩) st.length cap)).setCells w.heap.size 0 (vlA v).toList) ∧ KpK K w ((W5.setCell ⟨rb, 0, none⟩ (.slice (some ⟨g, 0, none⟩) st.length cap)).setCells w.heap.size 0 (vlA v).toList) ∧ Below B w ((W5.setCell ⟨rb, 0, none⟩ (.slice (some ⟨g, 0, none⟩) st.length cap)).setCells w.heap.size 0 (vlA v).toList)) := by
    have hb6 := below_cells9 (B := w.heap.size) w.heap.size (Nat.le_refl _) (vlA v).toList 0 (Below.refl _ (W5.setCell ⟨rb, 0, none⟩ (.slice (some ⟨g, 0, none⟩) st.length cap)))
    obtain ⟨l1, l2, l3, l4⟩ := h.lt
    exact ⟨⟨_, t1.newB l1 l2 l3 (fun k hk => (World.ownsRow.lt hcut' k hk).2) hb6, hap.1, hap.2.1, (fun k e => hap.2.2.1 k (by rw [hsv]; exact e)), fun k hk => Nat.lt_of_lt_of_le (hap.2.2.2 k hk) (t2.trans (hb6.mono h.bw)).size⟩, hkp, t2.trans (hb6.mono h.bw)⟩
  obtain ⟨u0, u1, u2, p0, q0, p1, q1, p2, q2⟩ := st3 hth (.int .i64 v.k) (.float .f64 (fb v.x))
  have HRV := Lib.hid (ret_vl (v := v) hth)
  have HC := Lib.hid (fun W => run_cutV (g := g) (n := st.length + 1) (k := st.length) (cap := cap) (by omega) hcap W)
  subst hW5
  clear hbb hne t1 t2 hth hap hkp
  clear hc hcut hcut' hcat c0 d0 d1 d2 hrd hrE i1 i2 i3 hr h
  go_enter Tryz.func76, Tryz.ntmps76
  go_wp2_with fail
  refine bodyPost_ret (v := VA v.k v.x v.s) (by rw [results_cell_one' rfl]; simp only [Array.getD_eq_getD_getElem?]; simp [asAddr, Result.andThen]; exact HRV.out) rfl ⟨rfl, hfin.out.1, hfin.out.2.2, hfin.out.2.1⟩
theorem RnS.push {K : Nat → Prop} {B rb m wm : Nat} {sn : List (List UInt8 × Vl)} {r r' : RS} {sv sv' : Value} {w w6 : World} (_h : RnM B rb m wm sn r sv w) (hap : ApK K rb wm sv w) (h' : RnM B rb m wm sn r' sv' w6) (hob : sv'.ownBlock = sv.ownBlock ∨ sv'.ownBlock = some w.heap.size) (hb : Below B w w6) : RnS K B rb m wm sn r' w6 := by
  refine ⟨sv', h', hap.1, hap.2.1, fun k e hk => ?_, fun k hk => Nat.lt_of_lt_of_le (hap.2.2.2 k hk) hb.size⟩
  rcases hob with e' | e'
  · exact hap.2.2.1 k (e'.symm.trans e) hk
  · rw [e'] at e
    cases e
    exact Nat.lt_irrefl _ (hap.2.2.2 _ hk)
set_option maxHeartbeats 2000000 in
theorem push_any {B rb m wm : Nat} {sn : List (List UInt8 × Vl)} {r : RS} {K : Nat → Prop} (v : Vl) (w : World) (h : RnS K B rb m wm sn r w) (hn : r.st.length ≤ 1000) :
    Calls Tryz.prog 74 #[.pointer (some ⟨rb, 0, none⟩), .agg #[.int .i64 v.k, .float .f64 (fb v.x), .string (bs v.s)]] w (fun e w' => e = .returned (.tuple #[]) ∧ RnS K B rb m wm sn ⟨v :: r.st, r.wr⟩ w' ∧ Below B w w' ∧ KpK K w w') := by
  obtain ⟨sv, h, hap⟩ := h
  have hb1 : Below w.heap.size w (w.alloc (.cells #[.int .i64 v.k, .float .f64 (fb v.x), .string (bs v.s)] 48)) := (Below.refl _ w).alloc (Nat.le_refl _) _
  have hb2 : Below w.heap.size w ((w.alloc (.cells #[.int .i64 v.k, .float .f64 (fb v.x), .string (bs v.s)] 48)).alloc (.cells #[.int .i64 v.k, .float .f64 (fb v.x), .string (bs v.s)] 48)).drew := (hb1.alloc (by simp) _).drew
  have h2 := h.new hb2
  have H2 := Lib.hid h2
  have HB2 := Lib.hid (hb2.mono h.bw)
  have HK2 := Lib.hid (KpK.below (K := K) hb2 hap.2.2.2)
  have HAP := Lib.hid (hap.new hb2.size)
  obtain ⟨c0, _, _, _⟩ := (h.new hb1).cells
  obtain ⟨g0, g1, g2⟩ := vat w v.k v.x v.s 48
  have HL : Hid (Rd ((w.alloc (.cells #[.int .i64 v.k, .float .f64 (fb v.x), .string (bs v.s)] 48)).alloc (.cells #[.int .i64 v.k, .float .f64 (fb v.x), .string (bs v.s)] 48)).drew (some ⟨w.heap.size + 1, 0, none⟩) 1 1 3 (vlCells v)) := by
    have := (Rd.lone (w.alloc (.cells #[.int .i64 v.k, .float .f64 (fb v.x), .string (bs v.s)] 48)) #[.int .i64 v.k, .float .f64 (fb v.x), .string (bs v.s)] 3 rfl 48).below (Below.refl _ _).drew
    rw [World.size_alloc] at this
    exact this
  have k0 := cell_alloc_keep (o := (.cells #[.int .i64 v.k, .float .f64 (fb v.x), .string (bs v.s)] 48)) c0
  have k1 := cell_alloc_keep (o := (.cells #[.int .i64 v.k, .float .f64 (fb v.x), .string (bs v.s)] 48)) g0
  have k2 := cell_alloc_keep (o := (.cells #[.int .i64 v.k, .float .f64 (fb v.x), .string (bs v.s)] 48)) g1
  have k3 := cell_alloc_keep (o := (.cells #[.int .i64 v.k, .float .f64 (fb v.x), .string (bs v.s)] 48)) g2
  have HK5 : Hid (∀ w5, World.grownBy ((w.alloc (.cells #[.int .i64 v.k, .float .f64 (fb v.x), .string (bs v.s)] 48)).alloc (.cells #[.int .i64 v.k, .float .f64 (fb v.x), .string (bs v.s)] 48)).drew w5 sv.ownBlock → w5.cell? ⟨w.heap.size, 0, none⟩ = some (.int .i64 v.k) ∧ w5.cell? ⟨w.heap.size, 1, none⟩ = some (.float .f64 (fb v.x)) ∧ w5.cell? ⟨w.heap.size, 2, none⟩ = some (.string (bs v.s))) := by
    intro w5 hg
    have hne : some w.heap.size ≠ sv.ownBlock := fun e => Nat.lt_irrefl _ (h.lt.2.2.2 _ e.symm)
    have hbk := hg.block w.heap.size (by simp; omega) hne
    exact ⟨(World.cell?_of_block hbk).trans k1, (World.cell?_of_block hbk).trans k2, (World.cell?_of_block hbk).trans k3⟩
  clear h h2 hb1 hb2 hap
  go_enter Tryz.func74, Tryz.ntmps74
  go_wp2_with fail
  refine wp_region_ht 8 (fun W => W.cell? ⟨rb, 0, none⟩ = some sv ∧ W.cell? ⟨w.heap.size, 0, none⟩ = some (.int .i64 v.k) ∧ W.cell? ⟨w.heap.size, 1, none⟩ = some (.float .f64 (fb v.x)) ∧ W.cell? ⟨w.heap.size, 2, none⟩ = some (.string (bs v.s))) (by kernel_rfl) (by kernel_rfl) ?_ (fun hHeld => ?_)
  · exact ⟨c0, g0, g1, g2⟩
  try simp only [Act.put, List.setIfInBounds_toArray, List.set_cons_zero, List.set_cons_succ]
  refine wpHT_takeD (i := 0) (d := 4) (v := ?_) (by kernel_rfl) rfl rfl (by decide) (by kernel_rfl) (by kernel_rfl) (fun _ _ _ h => h) (Or.inl ⟨by kernel_rfl, ?_⟩) (by assumption) ?_
  rotate_left
  · intro w hSw; (try dsimp only at hSw); go_simp; (try with_reducible rfl)
  try simp only [Act.put, List.setIfInBounds_toArray, List.set_cons_zero, List.set_cons_succ]
  refine wpHT_takeD (i := 1) (d := 5) (v := ?_) (by kernel_rfl) rfl rfl (by decide) (by kernel_rfl) (by kernel_rfl) (fun _ _ _ h => h) (Or.inl ⟨by kernel_rfl, ?_⟩) (by assumption) ?_
  rotate_left
  · intro w hSw; (try dsimp only at hSw); go_simp; (try with_reducible rfl)
  try simp only [Act.put, List.setIfInBounds_toArray, List.set_cons_zero, List.set_cons_succ]
  refine wpHT_takeD (i := 2) (d := 6) (v := ?_) (by kernel_rfl) rfl rfl (by decide) (by kernel_rfl) (by kernel_rfl) (fun _ _ _ h => h) (Or.inl ⟨by kernel_rfl, ?_⟩) (by assumption) ?_
  rotate_left
  · intro w hSw; (try dsimp only at hSw); go_simp; (try with_reducible rfl)
  try simp only [Act.put, List.setIfInBounds_toArray, List.set_cons_zero, List.set_cons_succ]
  refine wpHT_takeD (i := 3) (d := 7) (v := ?_) (by kernel_rfl) rfl rfl (by decide) (by kernel_rfl) (by kernel_rfl) (fun _ _ _ h => h) (Or.inl ⟨by kernel_rfl, ?_⟩) (by assumption) ?_
  rotate_left
  · intro w hSw; (try dsimp only at hSw); go_simp; (try with_reducible rfl)
  try simp only [Act.put, List.setIfInBounds_toArray, List.set_cons_zero, List.set_cons_succ]
  refine wpHT_takeD (i := 4) (d := 8) (v := ?_) (by kernel_rfl) rfl rfl (by decide) (by kernel_rfl) (by kernel_rfl) (fun _ _ _ h => h) (Or.inl ⟨by kernel_rfl, ?_⟩) (by assumption) ?_
  rotate_left
  · intro w hSw; (try dsimp only at hSw); go_simp; (try with_reducible rfl)
  try simp only [Act.put, List.setIfInBounds_toArray, List.set_cons_zero, List.set_cons_succ]
  refine wpHT_takeD (i := 5) (d := 9) (v := ?_) (by kernel_rfl) rfl rfl (by decide) (by kernel_rfl) (by kernel_rfl) (fun _ _ _ h => h) (Or.inl ⟨by kernel_rfl, ?_⟩) (by assumption) ?_
  rotate_left
  · intro w hSw; (try dsimp only at hSw); go_simp; (try with_reducible rfl)
  try simp only [Act.put, List.setIfInBounds_toArray, List.set_cons_zero, List.set_cons_succ]
  refine wpHT_one (i := 6) (by kernel_rfl) rfl (by decide) (fun K hK => ?_)
  go_simp
  refine hK.out _ _ ?_ (fun hHeld => ?_)
  · exact ⟨k0, k1, k2, k3⟩
  clear hK K
  try simp only [Act.put, List.setIfInBounds_toArray, List.set_cons_zero, List.set_cons_succ]
  refine wpHT_one (i := 7) (by kernel_rfl) rfl (by decide) (fun K hK => ?_)
  refine step_app2 SVl rfl _ _ rfl B rfl H2.out.st rfl HL.out (by simp [vlCells, Value.oneCell']) (by omega) (by unfold maxLen; omega) (by have := H2.out.bw; exact this) ?_
  intro v5 w5 hown5 hg5 hob
  have hown : w5.ownsRow B 48 3 v5 (v :: r.st).length (flatE vlCells (v :: r.st).reverse) := (by rw [List.reverse_cons, flatE_snoc]; exact hown5)
  obtain ⟨c5, fz, hR, hBB⟩ := H2.out.turn (.inr hg5) hown
  obtain ⟨a5, d5, hv5, _⟩ := Rd.of_own hown
  subst hv5
  have HR := Lib.hid (RnS.push H2.out HAP.out hR hob hBB)
  have HKP := Lib.hid (HAP.out.turn (sv' := .slice a5 (v :: r.st).length d5) (.inr hg5))
  have HBB := Lib.hid hBB
  have n0 := (HK5.out w5 hg5).1
  have n1 := (HK5.out w5 hg5).2.1
  have n2 := (HK5.out w5 hg5).2.2
  clear hown5 hg5 hown hR hBB hob
  refine hK.out _ _ ?_ (fun hHeld => ?_)
  · exact ⟨c5, n0, n1, n2⟩
  clear hK K
  try simp only [Act.put, List.setIfInBounds_toArray]
  refine wpHT_done (by kernel_rfl) ?_
  simp only [List.drop_succ_cons, List.drop_zero]
  clear hHeld
  go_wp2_with fail
  refine bodyPost_end (results_none rfl _ _ _) rfl ?_
  exact ⟨rfl, HR.out, HB2.out.trans HBB.out, HK2.out.trans HKP.out⟩
set_option maxHeartbeats 2000000 in
theorem get_any {B rb m wm : Nat} {sn : List (List UInt8 × Vl)} {r : RS} {K : Nat → Prop} (k : List UInt8) (hk : k.length ≤ maxLen) (w : World) (h : RnS K B rb m wm sn r w) :
    Calls Tryz.prog 75 #[.pointer (some ⟨rb, 0, none⟩), .string (bs k)] w (fun e w' => e = .returned (VA ((getG k r.wr).getD ((getG k sn).getD Vl.nil)).k ((getG k r.wr).getD ((getG k sn).getD Vl.nil)).x ((getG k r.wr).getD ((getG k sn).getD Vl.nil)).s) ∧ Below w.heap.size w w') := by
  obtain ⟨sv, h, hap⟩ := h
  have hb1 : Below w.heap.size w (w.alloc (.cells #[.int .i64 0, .float .f64 0, .string ⟨#[]⟩] 48)) := (Below.refl _ w).alloc (Nat.le_refl _) _
  have HB1 := Lib.hid hb1
  obtain ⟨_, _, c2, _⟩ := (h.new hb1).cells
  have hl := lookV_ok (h.new hb1).wr k hk
  cases hg : getG k r.wr with
  | some u =>
    rw [hg] at hl
    simp only [Option.getD_some, Option.isSome_some] at hl ⊢
    unfold VA at hl ⊢
    clear h hg hb1
    go_enter Tryz.func75, Tryz.ntmps75
    go_wp2_with fail
    refine bodyPost_ret (v := VA u.k u.x u.s) (by rw [results_cell_one' rfl]; simp [asAddr, Result.andThen, go_sem, VA]) rfl ⟨rfl, ?_⟩
    exact ((Below.refl _ w).alloc (Nat.le_refl _) _).alloc (by simp) _
  | none =>
    rw [hg] at hl
    have hb2 : Below w.heap.size w ((w.alloc (.cells #[.int .i64 0, .float .f64 0, .string ⟨#[]⟩] 48)).alloc (.cells #[.int .i64 0, .float .f64 (fb 0), .string (bs [])] 48)) := hb1.alloc (by simp) _
    obtain ⟨_, c1, _, _⟩ := (h.new hb2).cells
    have hl2 := lookV_run (h.new hb2).sn k hk
    simp only [Option.getD_none, Option.isSome_none] at hl ⊢
    generalize (getG k sn).getD Vl.nil = u at hl2 ⊢
    unfold VA at hl hl2 ⊢
    simp only [Vl.nil] at hl
    have HB2 := Lib.hid hb2
    clear h hg hb1 hb2
    go_enter Tryz.func75, Tryz.ntmps75
    go_wp2_with fail
    refine bodyPost_ret (v := VA u.k u.x u.s) (by rw [results_cell_one' rfl]; simp [asAddr, Result.andThen, go_sem, VA]) rfl ⟨rfl, ?_⟩
    exact ((Below.refl _ w).alloc (Nat.le_refl _) _).alloc (by simp) _
end Go.Proofs.YtalpbphfmelhhaaGreatDoor

/-! ### Steps of values: truth, holds, reckon (prog). -/
namespace Go.Proofs.YtalpbphfmelhhaaGreatDoor
open Go.RowKit Go.Maps Go.Sort
set_option maxRecDepth 100000
attribute [local go_sem] bs_size bs_get bs_toList frombits tobits run_store_float
/-- What a result's cell takes, behind a call. -/
theorem retV {w W : World} (hb : Below (w.alloc (.cells #[.int .i64 0, .float .f64 0, .string ⟨#[]⟩] 48)).heap.size (w.alloc (.cells #[.int .i64 0, .float .f64 0, .string ⟨#[]⟩] 48)) W) (v : Vl) :
    ∃ u0 u1 u2, W.cell? ⟨w.heap.size, 0, none⟩ = some u0 ∧ W.frozen? ⟨w.heap.size, 0, none⟩ = false ∧ (W.setCell ⟨w.heap.size, 0, none⟩ (.int .i64 v.k)).cell? ⟨w.heap.size, 1, none⟩ = some u1 ∧ (W.setCell ⟨w.heap.size, 0, none⟩ (.int .i64 v.k)).frozen? ⟨w.heap.size, 1, none⟩ = false ∧
    ((W.setCell ⟨w.heap.size, 0, none⟩ (.int .i64 v.k)).setCell ⟨w.heap.size, 1, none⟩ (.float .f64 (fb v.x))).cell? ⟨w.heap.size, 2, none⟩ = some u2 ∧ ((W.setCell ⟨w.heap.size, 0, none⟩ (.int .i64 v.k)).setCell ⟨w.heap.size, 1, none⟩ (.float .f64 (fb v.x))).frozen? ⟨w.heap.size, 2, none⟩ = false ∧
    Hid ((loadVar 48 ⟨w.heap.size, 0, none⟩).run Tryz.prog (((W.setCell ⟨w.heap.size, 0, none⟩ (.int .i64 v.k)).setCell ⟨w.heap.size, 1, none⟩ (.float .f64 (fb v.x))).setCell ⟨w.heap.size, 2, none⟩ (.string (bs v.s))) = .ok (VA v.k v.x v.s) (((W.setCell ⟨w.heap.size, 0, none⟩ (.int .i64 v.k)).setCell ⟨w.heap.size, 1, none⟩ (.float .f64 (fb v.x))).setCell ⟨w.heap.size, 2, none⟩ (.string (bs v.s)))) ∧
    Hid (Below w.heap.size w (((W.setCell ⟨w.heap.size, 0, none⟩ (.int .i64 v.k)).setCell ⟨w.heap.size, 1, none⟩ (.float .f64 (fb v.x))).setCell ⟨w.heap.size, 2, none⟩ (.string (bs v.s)))) := by
  have hth : W.there w.heap.size 0 3 := there_keep (there_new w #[.int .i64 0, .float .f64 0, .string ⟨#[]⟩] 48 3 rfl) hb (by simp)
  obtain ⟨u0, u1, u2, p0, q0, p1, q1, p2, q2⟩ := st3 hth (.int .i64 v.k) (.float .f64 (fb v.x))
  have h0 : Below w.heap.size w W := ((Below.refl _ w).alloc (Nat.le_refl _) _).trans (hb.mono (by simp))
  exact ⟨u0, u1, u2, p0, q0, p1, q1, p2, q2, ret_vl (v := v) hth, ((h0.setCell (p := ⟨w.heap.size, 0, none⟩) (Nat.le_refl _) _).setCell (p := ⟨w.heap.size, 1, none⟩) (Nat.le_refl _) _).setCell (p := ⟨w.heap.size, 2, none⟩) (Nat.le_refl _) _⟩
set_option maxHeartbeats 1000000 in
theorem truth_any (b : Bool) (w : World) : Calls Tryz.prog 102 #[.bool b] w (fun e w' => e = .returned (VA (Vl.ofB b).k (Vl.ofB b).x (Vl.ofB b).s) ∧ Below w.heap.size w w') := by
  have H1 : Hid (∀ W, Calls Tryz.prog 111 #[.float .f64 4607182418800017408] W fun e w' => e = .returned (.agg #[.int .i64 (Vl.ofB true).k, .float .f64 (fb (Vl.ofB true).x), .string (bs (Vl.ofB true).s)]) ∧ Below W.heap.size W w') := fun W => cnum 4607182418800017408 W
  have H2 : Hid (∀ W, Calls Tryz.prog 111 #[.float .f64 0] W fun e w' => e = .returned (.agg #[.int .i64 (Vl.ofB false).k, .float .f64 (fb (Vl.ofB false).x), .string (bs (Vl.ofB false).s)]) ∧ Below W.heap.size W w') := fun W => cnum 0 W
  cases b with
  | true =>
    generalize Vl.ofB true = v at H1 ⊢
    go_enter Tryz.func102, Tryz.ntmps102
    go_wp2_with (go_at_call 111; ((with_reducible refine (H1.out _).mono ?_); rintro e w1 ⟨rfl, hb1⟩; obtain ⟨u0, u1, u2, p0, q0, p1, q1, p2, q2, HL, HB⟩ := retV hb1 v; clear hb1))
    refine bodyPost_ret (v := VA v.k v.x v.s) (by rw [results_cell_one' rfl]; simp [asAddr, Result.andThen]; exact HL.out) rfl ⟨rfl, HB.out⟩
  | false =>
    generalize Vl.ofB false = v at H2 ⊢
    go_enter Tryz.func102, Tryz.ntmps102
    go_wp2_with (go_at_call 111; ((with_reducible refine (H2.out _).mono ?_); rintro e w1 ⟨rfl, hb1⟩; obtain ⟨u0, u1, u2, p0, q0, p1, q1, p2, q2, HL, HB⟩ := retV hb1 v; clear hb1))
    refine bodyPost_ret (v := VA v.k v.x v.s) (by rw [results_cell_one' rfl]; simp [asAddr, Result.andThen]; exact HL.out) rfl ⟨rfl, HB.out⟩
set_option maxHeartbeats 1000000 in
theorem holds_any (v : Vl) (w : World) : Calls Tryz.prog 77 #[.agg #[.int .i64 v.k, .float .f64 (fb v.x), .string (bs v.s)]] w (fun e w' => e = .returned (.bool (holdsB v)) ∧ Below w.heap.size w w') := by
  have H1 : Hid (∀ W, Calls Tryz.prog 101 #[.float .f64 (fb v.x)] W fun e w' => e = .returned (.int .i64 (classOf v.x)) ∧ w' = W) := fun W => class_any v.x W
  have HB : Hid (Below w.heap.size w (w.alloc (.cells #[.int .i64 v.k, .float .f64 (fb v.x), .string (bs v.s)] 48))) := (Below.refl _ _).alloc (Nat.le_refl _) _
  by_cases hk : v.k = 1
  · have hres : holdsB v = (decide (classOf v.x ≠ 0) && decide (classOf v.x ≠ 4) && decide (classOf v.x ≠ 5)) := by unfold holdsB; rw [if_pos hk]
    rw [hres]
    rw [hk] at HB ⊢
    clear hres hk
    generalize classOf v.x = c at H1 ⊢
    by_cases h0 : c = 0
    · subst h0
      go_enter Tryz.func77, Tryz.ntmps77
      go_wp2_with (go_at_call 101; ((with_reducible refine (H1.out _).mono ?_); rintro e w1 ⟨rfl, rfl⟩))
      go_ret
      exact ⟨rfl, HB.out⟩
    · by_cases h4 : c = 4
      · subst h4
        go_enter Tryz.func77, Tryz.ntmps77
        go_wp2_with (go_at_call 101; ((with_reducible refine (H1.out _).mono ?_); rintro e w1 ⟨rfl, rfl⟩))
        go_ret
        exact ⟨rfl, HB.out⟩
      · by_cases h5 : c = 5
        · subst h5
          go_enter Tryz.func77, Tryz.ntmps77
          go_wp2_with (go_at_call 101; ((with_reducible refine (H1.out _).mono ?_); rintro e w1 ⟨rfl, rfl⟩))
          go_ret
          exact ⟨rfl, HB.out⟩
        · have hr : (decide (c ≠ 0) && decide (c ≠ 4) && decide (c ≠ 5)) = true := by simp [h0, h4, h5]
          rw [hr]
          clear hr
          go_enter Tryz.func77, Tryz.ntmps77
          go_wp2_with (go_at_call 101; ((with_reducible refine (H1.out _).mono ?_); rintro e w1 ⟨rfl, rfl⟩))
          go_ret
          exact ⟨by simp [h0, h4, h5], HB.out⟩
  · by_cases hk2 : v.k = 2
    · have hres : holdsB v = !v.s.isEmpty := by unfold holdsB; rw [if_neg hk, if_pos hk2]
      rw [hres]
      rw [hk2] at HB ⊢
      clear hres hk
      cases hs : v.s with
      | nil =>
        rw [hs] at HB
        go_enter Tryz.func77, Tryz.ntmps77
        go_wp2_with fail
        go_ret
        exact ⟨rfl, HB.out⟩
      | cons c r =>
        rw [hs] at HB
        go_enter Tryz.func77, Tryz.ntmps77
        go_wp2_with fail
        go_ret
        exact ⟨rfl, HB.out⟩
    · have hres : holdsB v = false := by unfold holdsB; rw [if_neg hk, if_neg hk2]
      rw [hres]
      clear hres
      go_enter Tryz.func77, Tryz.ntmps77
      go_wp2_with fail
      go_ret
      exact ⟨rfl, HB.out⟩
end Go.Proofs.YtalpbphfmelhhaaGreatDoor

/-! ### A step of numbers: reckon (prog). -/
namespace Go.Proofs.YtalpbphfmelhhaaGreatDoor
open Go.RowKit Go.Maps Go.Sort
set_option maxRecDepth 100000
attribute [local go_sem] bs_size bs_get bs_toList frombits tobits run_store_float
/-- What a run is given up by. -/
def stopI (e : Int) : List PanicEntry := [{ v := .iface 78 (.agg #[.int .i64 e]), recovered := false }]
theorem below_va3 (w : World) (a b : Vl) : Below w.heap.size w (((w.alloc (.cells #[.int .i64 a.k, .float .f64 (fb a.x), .string (bs a.s)] 48)).alloc (.cells #[.int .i64 b.k, .float .f64 (fb b.x), .string (bs b.s)] 48)).alloc (.cells #[.int .i64 0, .float .f64 0, .string ⟨#[]⟩] 48)) :=
  (((Below.refl _ w).alloc (Nat.le_refl _) _).alloc (by simp) _).alloc (by simp; omega) _
set_option maxHeartbeats 1000000 in
theorem reckon_bad (c : Int) (a b : Vl) (h : a.k = 2 ∨ b.k = 2) (w : World) : Calls Tryz.prog 104 #[.int .i64 c, .agg #[.int .i64 a.k, .float .f64 (fb a.x), .string (bs a.s)], .agg #[.int .i64 b.k, .float .f64 (fb b.x), .string (bs b.s)]] w (fun e w' => e = .panicked (stopI 23) ∧ Below w.heap.size w w') := by
  have HB := Lib.hid (below_va3 w a b)
  by_cases ha : a.k = 2
  · rw [ha] at HB ⊢
    clear h
    go_enter Tryz.func104, Tryz.ntmps104
    go_wp2_with fail
    exact ⟨rfl, rfl, HB.out⟩
  · have hb : b.k = 2 := h.resolve_left ha
    rw [hb] at HB ⊢
    clear h hb
    go_enter Tryz.func104, Tryz.ntmps104
    go_wp2_with fail
    exact ⟨rfl, rfl, HB.out⟩
theorem below3d {w0 w1 w2 : World} {n : Nat} (h1 : Below (w0.drewN n).heap.size (w0.drewN n) w1) (h2 : Below w1.heap.size w1 w2) : Below w0.heap.size w0 w2 := (below_drewN (Below.refl _ w0) n).trans (h1.trans (h2.mono h1.size))
set_option maxHeartbeats 1000000 in
theorem recv5 (a b : Vl) (ha : a.k ≠ 2) (hb : b.k ≠ 2) (w : World) : Calls Tryz.prog 104 #[.int .i64 5, .agg #[.int .i64 a.k, .float .f64 (fb a.x), .string (bs a.s)], .agg #[.int .i64 b.k, .float .f64 (fb b.x), .string (bs b.s)]] w (fun e w' => e = .returned (VA (Vl.num (opOf .add a.x b.x)).k (Vl.num (opOf .add a.x b.x)).x (Vl.num (opOf .add a.x b.x)).s) ∧ Below w.heap.size w w') := by
  have H1 : Hid (∀ W, Calls Tryz.prog 124 #[.float .f64 (fb a.x), .float .f64 (fb b.x)] W fun e w' => e = .returned (.float .f64 (fb (opOf .add a.x b.x))) ∧ Below W.heap.size W w') := fun W => (add_any a.x b.x W).mono fun e w' h => by obtain ⟨rfl, nd, rfl⟩ := h; exact ⟨rfl, below_drewN (Below.refl _ _) nd⟩
  generalize opOf .add a.x b.x = x at H1 ⊢
  have H2 : Hid (∀ W, Calls Tryz.prog 111 #[.float .f64 (fb x)] W fun e w' => e = .returned (.agg #[.int .i64 (Vl.num x).k, .float .f64 (fb (Vl.num x).x), .string (bs (Vl.num x).s)]) ∧ Below W.heap.size W w') := fun W => cnum x W
  generalize Vl.num x = v at H2 ⊢
  have ga : (a.k == 2) = false := by simp [ha]
  have gb : (b.k == 2) = false := by simp [hb]
  have HW : Hid (Below w.heap.size w ((w.alloc (.cells #[.int .i64 a.k, .float .f64 (fb a.x), .string (bs a.s)] 48)).alloc (.cells #[.int .i64 b.k, .float .f64 (fb b.x), .string (bs b.s)] 48))) := ((Below.refl _ w).alloc (Nat.le_refl _) _).alloc (by simp) _
  go_enter Tryz.func104, Tryz.ntmps104
  go_wp2_with fail
  go_quiet (fail)
  go_wp2_with (first | (go_at_call 124; ((with_reducible refine (H1.out _).mono ?_); rintro e w1 ⟨rfl, hb1⟩)) | (go_at_call 111; ((with_reducible refine (H2.out _).mono ?_); rintro e w2 ⟨rfl, hb2⟩; have hb3 := below3d hb1 hb2; clear hb1 hb2; obtain ⟨u0, u1, u2, p0, q0, p1, q1, p2, q2, HL, HB⟩ := retV hb3 v; clear hb3; simp only [World.size_alloc] at p0 q0 p1 q1 p2 q2)))
  refine bodyPost_ret (v := VA v.k v.x v.s) (by rw [results_cell_one' rfl]; simp [asAddr, Result.andThen]; have h := HL.out; simp only [World.size_alloc] at h; exact h) rfl ⟨rfl, ?_⟩
  have h := HW.out.trans (HB.out.mono HW.out.size)
  simp only [World.size_alloc] at h
  exact h
set_option maxHeartbeats 1000000 in
theorem recv6 (a b : Vl) (ha : a.k ≠ 2) (hb : b.k ≠ 2) (w : World) : Calls Tryz.prog 104 #[.int .i64 6, .agg #[.int .i64 a.k, .float .f64 (fb a.x), .string (bs a.s)], .agg #[.int .i64 b.k, .float .f64 (fb b.x), .string (bs b.s)]] w (fun e w' => e = .returned (VA (Vl.num (opOf .sub a.x b.x)).k (Vl.num (opOf .sub a.x b.x)).x (Vl.num (opOf .sub a.x b.x)).s) ∧ Below w.heap.size w w') := by
  have H1 : Hid (∀ W, Calls Tryz.prog 125 #[.float .f64 (fb a.x), .float .f64 (fb b.x)] W fun e w' => e = .returned (.float .f64 (fb (opOf .sub a.x b.x))) ∧ Below W.heap.size W w') := fun W => (sub_any a.x b.x W).mono fun e w' h => by obtain ⟨rfl, nd, rfl⟩ := h; exact ⟨rfl, below_drewN (Below.refl _ _) nd⟩
  generalize opOf .sub a.x b.x = x at H1 ⊢
  have H2 : Hid (∀ W, Calls Tryz.prog 111 #[.float .f64 (fb x)] W fun e w' => e = .returned (.agg #[.int .i64 (Vl.num x).k, .float .f64 (fb (Vl.num x).x), .string (bs (Vl.num x).s)]) ∧ Below W.heap.size W w') := fun W => cnum x W
  generalize Vl.num x = v at H2 ⊢
  have ga : (a.k == 2) = false := by simp [ha]
  have gb : (b.k == 2) = false := by simp [hb]
  have HW : Hid (Below w.heap.size w ((w.alloc (.cells #[.int .i64 a.k, .float .f64 (fb a.x), .string (bs a.s)] 48)).alloc (.cells #[.int .i64 b.k, .float .f64 (fb b.x), .string (bs b.s)] 48))) := ((Below.refl _ w).alloc (Nat.le_refl _) _).alloc (by simp) _
  go_enter Tryz.func104, Tryz.ntmps104
  go_wp2_with fail
  go_quiet (fail)
  go_wp2_with (first | (go_at_call 125; ((with_reducible refine (H1.out _).mono ?_); rintro e w1 ⟨rfl, hb1⟩)) | (go_at_call 111; ((with_reducible refine (H2.out _).mono ?_); rintro e w2 ⟨rfl, hb2⟩; have hb3 := below3d hb1 hb2; clear hb1 hb2; obtain ⟨u0, u1, u2, p0, q0, p1, q1, p2, q2, HL, HB⟩ := retV hb3 v; clear hb3; simp only [World.size_alloc] at p0 q0 p1 q1 p2 q2)))
  refine bodyPost_ret (v := VA v.k v.x v.s) (by rw [results_cell_one' rfl]; simp [asAddr, Result.andThen]; have h := HL.out; simp only [World.size_alloc] at h; exact h) rfl ⟨rfl, ?_⟩
  have h := HW.out.trans (HB.out.mono HW.out.size)
  simp only [World.size_alloc] at h
  exact h
set_option maxHeartbeats 1000000 in
theorem recv7 (a b : Vl) (ha : a.k ≠ 2) (hb : b.k ≠ 2) (w : World) : Calls Tryz.prog 104 #[.int .i64 7, .agg #[.int .i64 a.k, .float .f64 (fb a.x), .string (bs a.s)], .agg #[.int .i64 b.k, .float .f64 (fb b.x), .string (bs b.s)]] w (fun e w' => e = .returned (VA (Vl.num (opOf .mul a.x b.x)).k (Vl.num (opOf .mul a.x b.x)).x (Vl.num (opOf .mul a.x b.x)).s) ∧ Below w.heap.size w w') := by
  have H1 : Hid (∀ W, Calls Tryz.prog 126 #[.float .f64 (fb a.x), .float .f64 (fb b.x)] W fun e w' => e = .returned (.float .f64 (fb (opOf .mul a.x b.x))) ∧ Below W.heap.size W w') := fun W => (mul_any a.x b.x W).mono fun e w' h => by obtain ⟨rfl, nd, rfl⟩ := h; exact ⟨rfl, below_drewN (Below.refl _ _) nd⟩
  generalize opOf .mul a.x b.x = x at H1 ⊢
  have H2 : Hid (∀ W, Calls Tryz.prog 111 #[.float .f64 (fb x)] W fun e w' => e = .returned (.agg #[.int .i64 (Vl.num x).k, .float .f64 (fb (Vl.num x).x), .string (bs (Vl.num x).s)]) ∧ Below W.heap.size W w') := fun W => cnum x W
  generalize Vl.num x = v at H2 ⊢
  have ga : (a.k == 2) = false := by simp [ha]
  have gb : (b.k == 2) = false := by simp [hb]
  have HW : Hid (Below w.heap.size w ((w.alloc (.cells #[.int .i64 a.k, .float .f64 (fb a.x), .string (bs a.s)] 48)).alloc (.cells #[.int .i64 b.k, .float .f64 (fb b.x), .string (bs b.s)] 48))) := ((Below.refl _ w).alloc (Nat.le_refl _) _).alloc (by simp) _
  go_enter Tryz.func104, Tryz.ntmps104
  go_wp2_with fail
  go_quiet (fail)
  go_wp2_with (first | (go_at_call 126; ((with_reducible refine (H1.out _).mono ?_); rintro e w1 ⟨rfl, hb1⟩)) | (go_at_call 111; ((with_reducible refine (H2.out _).mono ?_); rintro e w2 ⟨rfl, hb2⟩; have hb3 := below3d hb1 hb2; clear hb1 hb2; obtain ⟨u0, u1, u2, p0, q0, p1, q1, p2, q2, HL, HB⟩ := retV hb3 v; clear hb3; simp only [World.size_alloc] at p0 q0 p1 q1 p2 q2)))
  refine bodyPost_ret (v := VA v.k v.x v.s) (by rw [results_cell_one' rfl]; simp [asAddr, Result.andThen]; have h := HL.out; simp only [World.size_alloc] at h; exact h) rfl ⟨rfl, ?_⟩
  have h := HW.out.trans (HB.out.mono HW.out.size)
  simp only [World.size_alloc] at h
  exact h
set_option maxHeartbeats 1000000 in
theorem recv8 (a b : Vl) (ha : a.k ≠ 2) (hb : b.k ≠ 2) (w : World) : Calls Tryz.prog 104 #[.int .i64 8, .agg #[.int .i64 a.k, .float .f64 (fb a.x), .string (bs a.s)], .agg #[.int .i64 b.k, .float .f64 (fb b.x), .string (bs b.s)]] w (fun e w' => e = .returned (VA (Vl.num (opOf .quo a.x b.x)).k (Vl.num (opOf .quo a.x b.x)).x (Vl.num (opOf .quo a.x b.x)).s) ∧ Below w.heap.size w w') := by
  have H1 : Hid (∀ W, Calls Tryz.prog 127 #[.float .f64 (fb a.x), .float .f64 (fb b.x)] W fun e w' => e = .returned (.float .f64 (fb (opOf .quo a.x b.x))) ∧ Below W.heap.size W w') := fun W => (div_any a.x b.x W).mono fun e w' h => by obtain ⟨rfl, nd, rfl⟩ := h; exact ⟨rfl, below_drewN (Below.refl _ _) nd⟩
  generalize opOf .quo a.x b.x = x at H1 ⊢
  have H2 : Hid (∀ W, Calls Tryz.prog 111 #[.float .f64 (fb x)] W fun e w' => e = .returned (.agg #[.int .i64 (Vl.num x).k, .float .f64 (fb (Vl.num x).x), .string (bs (Vl.num x).s)]) ∧ Below W.heap.size W w') := fun W => cnum x W
  generalize Vl.num x = v at H2 ⊢
  have ga : (a.k == 2) = false := by simp [ha]
  have gb : (b.k == 2) = false := by simp [hb]
  have HW : Hid (Below w.heap.size w ((w.alloc (.cells #[.int .i64 a.k, .float .f64 (fb a.x), .string (bs a.s)] 48)).alloc (.cells #[.int .i64 b.k, .float .f64 (fb b.x), .string (bs b.s)] 48))) := ((Below.refl _ w).alloc (Nat.le_refl _) _).alloc (by simp) _
  go_enter Tryz.func104, Tryz.ntmps104
  go_wp2_with fail
  go_quiet (fail)
  go_wp2_with (first | (go_at_call 127; ((with_reducible refine (H1.out _).mono ?_); rintro e w1 ⟨rfl, hb1⟩)) | (go_at_call 111; ((with_reducible refine (H2.out _).mono ?_); rintro e w2 ⟨rfl, hb2⟩; have hb3 := below3d hb1 hb2; clear hb1 hb2; obtain ⟨u0, u1, u2, p0, q0, p1, q1, p2, q2, HL, HB⟩ := retV hb3 v; clear hb3; simp only [World.size_alloc] at p0 q0 p1 q1 p2 q2)))
  refine bodyPost_ret (v := VA v.k v.x v.s) (by rw [results_cell_one' rfl]; simp [asAddr, Result.andThen]; have h := HL.out; simp only [World.size_alloc] at h; exact h) rfl ⟨rfl, ?_⟩
  have h := HW.out.trans (HB.out.mono HW.out.size)
  simp only [World.size_alloc] at h
  exact h
set_option maxHeartbeats 1000000 in
theorem recv9 (a b : Vl) (ha : a.k ≠ 2) (hb : b.k ≠ 2) (w : World) : Calls Tryz.prog 104 #[.int .i64 9, .agg #[.int .i64 a.k, .float .f64 (fb a.x), .string (bs a.s)], .agg #[.int .i64 b.k, .float .f64 (fb b.x), .string (bs b.s)]] w (fun e w' => e = .returned (VA (Vl.num (leastOf a.x b.x)).k (Vl.num (leastOf a.x b.x)).x (Vl.num (leastOf a.x b.x)).s) ∧ Below w.heap.size w w') := by
  have H1 : Hid (∀ W, Calls Tryz.prog 128 #[.float .f64 (fb a.x), .float .f64 (fb b.x)] W fun e w' => e = .returned (.float .f64 (fb (leastOf a.x b.x))) ∧ Below W.heap.size W w') := fun W => (least_any a.x b.x W).mono fun e w' h => by obtain ⟨rfl, rfl⟩ := h; exact ⟨rfl, Below.refl _ _⟩
  generalize leastOf a.x b.x = x at H1 ⊢
  have H2 : Hid (∀ W, Calls Tryz.prog 111 #[.float .f64 (fb x)] W fun e w' => e = .returned (.agg #[.int .i64 (Vl.num x).k, .float .f64 (fb (Vl.num x).x), .string (bs (Vl.num x).s)]) ∧ Below W.heap.size W w') := fun W => cnum x W
  generalize Vl.num x = v at H2 ⊢
  have ga : (a.k == 2) = false := by simp [ha]
  have gb : (b.k == 2) = false := by simp [hb]
  have HW : Hid (Below w.heap.size w ((w.alloc (.cells #[.int .i64 a.k, .float .f64 (fb a.x), .string (bs a.s)] 48)).alloc (.cells #[.int .i64 b.k, .float .f64 (fb b.x), .string (bs b.s)] 48))) := ((Below.refl _ w).alloc (Nat.le_refl _) _).alloc (by simp) _
  go_enter Tryz.func104, Tryz.ntmps104
  go_wp2_with fail
  go_quiet (fail)
  go_wp2_with (first | (go_at_call 128; ((with_reducible refine (H1.out _).mono ?_); rintro e w1 ⟨rfl, hb1⟩)) | (go_at_call 111; ((with_reducible refine (H2.out _).mono ?_); rintro e w2 ⟨rfl, hb2⟩; have hb3 := below3d hb1 hb2; clear hb1 hb2; obtain ⟨u0, u1, u2, p0, q0, p1, q1, p2, q2, HL, HB⟩ := retV hb3 v; clear hb3; simp only [World.size_alloc] at p0 q0 p1 q1 p2 q2)))
  refine bodyPost_ret (v := VA v.k v.x v.s) (by rw [results_cell_one' rfl]; simp [asAddr, Result.andThen]; have h := HL.out; simp only [World.size_alloc] at h; exact h) rfl ⟨rfl, ?_⟩
  have h := HW.out.trans (HB.out.mono HW.out.size)
  simp only [World.size_alloc] at h
  exact h
set_option maxHeartbeats 1000000 in
theorem recv0 (c : Int) (h5 : c ≠ 5) (h6 : c ≠ 6) (h7 : c ≠ 7) (h8 : c ≠ 8) (h9 : c ≠ 9) (a b : Vl) (ha : a.k ≠ 2) (hb : b.k ≠ 2) (w : World) : Calls Tryz.prog 104 #[.int .i64 c, .agg #[.int .i64 a.k, .float .f64 (fb a.x), .string (bs a.s)], .agg #[.int .i64 b.k, .float .f64 (fb b.x), .string (bs b.s)]] w (fun e w' => e = .returned (VA (Vl.num (mostOf a.x b.x)).k (Vl.num (mostOf a.x b.x)).x (Vl.num (mostOf a.x b.x)).s) ∧ Below w.heap.size w w') := by
  have H1 : Hid (∀ W, Calls Tryz.prog 129 #[.float .f64 (fb a.x), .float .f64 (fb b.x)] W fun e w' => e = .returned (.float .f64 (fb (mostOf a.x b.x))) ∧ Below W.heap.size W w') := fun W => (most_any a.x b.x W).mono fun e w' h => by obtain ⟨rfl, rfl⟩ := h; exact ⟨rfl, Below.refl _ _⟩
  generalize mostOf a.x b.x = x at H1 ⊢
  have H2 : Hid (∀ W, Calls Tryz.prog 111 #[.float .f64 (fb x)] W fun e w' => e = .returned (.agg #[.int .i64 (Vl.num x).k, .float .f64 (fb (Vl.num x).x), .string (bs (Vl.num x).s)]) ∧ Below W.heap.size W w') := fun W => cnum x W
  generalize Vl.num x = v at H2 ⊢
  have ga : (a.k == 2) = false := by simp [ha]
  have gb : (b.k == 2) = false := by simp [hb]
  have HW : Hid (Below w.heap.size w ((w.alloc (.cells #[.int .i64 a.k, .float .f64 (fb a.x), .string (bs a.s)] 48)).alloc (.cells #[.int .i64 b.k, .float .f64 (fb b.x), .string (bs b.s)] 48))) := ((Below.refl _ w).alloc (Nat.le_refl _) _).alloc (by simp) _
  go_enter Tryz.func104, Tryz.ntmps104
  go_wp2_with fail
  go_quiet (fail)
  go_wp2_with (first | (go_at_call 129; ((with_reducible refine (H1.out _).mono ?_); rintro e w1 ⟨rfl, hb1⟩)) | (go_at_call 111; ((with_reducible refine (H2.out _).mono ?_); rintro e w2 ⟨rfl, hb2⟩; have hb3 := below3d hb1 hb2; clear hb1 hb2; obtain ⟨u0, u1, u2, p0, q0, p1, q1, p2, q2, HL, HB⟩ := retV hb3 v; clear hb3; simp only [World.size_alloc] at p0 q0 p1 q1 p2 q2)))
  refine bodyPost_ret (v := VA v.k v.x v.s) (by rw [results_cell_one' rfl]; simp [asAddr, Result.andThen]; have h := HL.out; simp only [World.size_alloc] at h; exact h) rfl ⟨rfl, ?_⟩
  have h := HW.out.trans (HB.out.mono HW.out.size)
  simp only [World.size_alloc] at h
  exact h
theorem reckon_ok (c : Int) (a b : Vl) (ha : a.k ≠ 2) (hb : b.k ≠ 2) (w : World) : Calls Tryz.prog 104 #[.int .i64 c, .agg #[.int .i64 a.k, .float .f64 (fb a.x), .string (bs a.s)], .agg #[.int .i64 b.k, .float .f64 (fb b.x), .string (bs b.s)]] w (fun e w' => e = .returned (VA (Vl.num (recX c a.x b.x)).k (Vl.num (recX c a.x b.x)).x (Vl.num (recX c a.x b.x)).s) ∧ Below w.heap.size w w') := by
  unfold recX
  by_cases h5 : c = 5
  · rw [if_pos h5]; subst h5; exact recv5 a b ha hb w
  · by_cases h6 : c = 6
    · rw [if_neg h5, if_pos h6]; subst h6; exact recv6 a b ha hb w
    · by_cases h7 : c = 7
      · rw [if_neg h5, if_neg h6, if_pos h7]; subst h7; exact recv7 a b ha hb w
      · by_cases h8 : c = 8
        · rw [if_neg h5, if_neg h6, if_neg h7, if_pos h8]; subst h8; exact recv8 a b ha hb w
        · by_cases h9 : c = 9
          · rw [if_neg h5, if_neg h6, if_neg h7, if_neg h8, if_pos h9]; subst h9; exact recv9 a b ha hb w
          · rw [if_neg h5, if_neg h6, if_neg h7, if_neg h8, if_neg h9]; exact recv0 c h5 h6 h7 h8 h9 a b ha hb w
end Go.Proofs.YtalpbphfmelhhaaGreatDoor
