/-
  Programs that come in: weighed, copied, compared (racelaw9.Few, raceref.CopyOps, Ops, Texts).
  A program on its way in memory: the stack, the map of what was seen, the map of what was written (prog.run); pop, push, get.
-/
import Derived.Test.YtalpbphfmelhhaaGreatDoorH8
import Derived.Test.YtalpbphfmelhhaaGreatDoorKA
/-! ### Programs that come in: weighed, copied, compared (racelaw9.Few, raceref.CopyOps, Ops, Texts). -/
namespace Go.Proofs.YtalpbphfmelhhaaGreatDoor
open Go.RowKit Go.Maps Go.Sort
set_option maxRecDepth 100000
attribute [local go_sem] bs_size bs_get bs_toList frombits tobits run_store_float
/-- A slice of steps that came in. -/
structure RdOr (w : World) (a : Option Addr) (n cap : Nat) (l : List OpP) : Prop where
  rd : RdE opCells 5 w a n cap l
  c : ∀ o ∈ l, -9223372036854775808 ≤ o.c ∧ o.c ≤ 9223372036854775807 ∧ o.key.length ≤ 9223372036854775807 ∧ o.v.s.length ≤ 9223372036854775807
theorem RdOr.below {w w' : World} {a : Option Addr} {n cap : Nat} {l : List OpP} (h : RdOr w a n cap l) (hb : Below w.heap.size w w') : RdOr w' a n cap l := ⟨h.rd.below hb, h.c⟩
theorem RdE.at5 {w : World} {a : Option Addr} {n cap : Nat} {l : List OpP} (h : RdE opCells 5 w a n cap l) {i : Nat} {o : OpP} (hi : l[i]? = some o) : ∃ b off, a = some ⟨b, off, none⟩ ∧ w.cell? ⟨b, off + i * 5, none⟩ = some (.int .i64 o.c) ∧
    w.cell? ⟨b, off + i * 5 + 1, none⟩ = some (.string (bs o.key)) ∧ w.cell? ⟨b, off + i * 5 + 2, none⟩ = some (.int .i64 o.v.k) ∧ w.cell? ⟨b, off + i * 5 + 3, none⟩ = some (.float .f64 (fb o.v.x)) ∧ w.cell? ⟨b, off + i * 5 + 4, none⟩ = some (.string (bs o.v.s)) := by
  obtain ⟨b, off, ha, hc⟩ := h.at opCells5 hi (by decide)
  exact ⟨b, off, ha, hc 0 _ rfl, hc 1 _ rfl, hc 2 _ rfl, hc 3 _ rfl, hc 4 _ rfl⟩
def wgtO (o : OpP) : Nat := min o.key.length 20001 + min o.v.s.length 20001
def wsumO (l : List OpP) : Nat := (l.map wgtO).sum
theorem wgtO_le (o : OpP) : wgtO o ≤ 40002 := by unfold wgtO; omega
theorem wsumO_le (l : List OpP) : wsumO l ≤ l.length * 40002 := by
  induction l with
  | nil => simp [wsumO]
  | cons o r ih =>
    have := wgtO_le o
    simp only [wsumO, List.map_cons, List.sum_cons, List.length_cons] at ih ⊢
    omega
theorem wsumO_snoc {l : List OpP} {k : Nat} {o : OpP} (h : l[k]? = some o) : wsumO (l.take (k + 1)) = wsumO (l.take k) + wgtO o := by
  rw [List.take_add_one, h]; simp [wsumO]
theorem wgtO_mem {l : List OpP} {o : OpP} (h : o ∈ l) : wgtO o ≤ wsumO l := by
  induction l with
  | nil => cases h
  | cons y r ih =>
    simp only [wsumO, List.map_cons, List.sum_cons] at ih ⊢
    rcases List.mem_cons.1 h with rfl | h
    · omega
    · have := ih h; omega
def FewO (l : List OpP) : Prop := l.length ≤ 200 ∧ wsumO l ≤ 20000
theorem RdOr.few {w : World} {a : Option Addr} {n cap : Nat} {l : List OpP} (h : RdOr w a n cap l) (hf : FewO l) : RdO w a n cap l := by
  refine ⟨h.rd, fun o ho => ?_⟩
  obtain ⟨h1, h2, _, _⟩ := h.c o ho
  have h3 := wgtO_mem ho
  have h4 := hf.2
  unfold wgtO at h3
  exact ⟨h1, h2, by omega, by omega⟩
def FewOPost (w : World) (l : List OpP) (e : Ending) (w' : World) : Prop := ∃ b : Bool, e = .returned (.bool b) ∧ (b = true → FewO l) ∧ Below w.heap.size w w'
set_option maxHeartbeats 1000000 in
theorem fewO_any (a : Option Addr) (n cap : Nat) (l : List OpP) (w : World) (h : RdOr w a n cap l) : Calls Tryz.prog 12 #[.slice a n cap] w (FewOPost w l) := by
  have H0 := Lib.hid h
  have hm : n ≤ 9223372036854775807 := h.rd.len
  have HN := Lib.hid h.rd.1
  clear h
  go_enter Tryz.func12, Tryz.ntmps12
  go_wp2_with fail
  go_loopw [3, 4] (fun x i wr => ∃ k : Nat, k ≤ n ∧ k ≤ 200 ∧ i = .int .i64 (k : Nat) ∧ x = .int .i64 (wsumO (l.take k) : Nat) ∧ Hid (Below w.heap.size w wr)) (fun _ i _ => n - (intOf i).toNat)
  case atStart => exact ⟨0, Nat.zero_le _, Nat.zero_le _, rfl, rfl, Below.refl _ _⟩
  case round =>
    obtain ⟨k, hk, hk3, rfl, rfl, HF⟩ := hrel
    have hws : wsumO (l.take k) ≤ 8000400 := by
      have := wsumO_le (l.take k)
      rw [List.length_take] at this
      omega
    by_cases hlt : k < n
    · by_cases hl3 : k < 200
      · obtain ⟨o, ho⟩ : ∃ o, l[k]? = some o := ⟨_, List.getElem?_eq_getElem (by have := HN.out; omega)⟩
        obtain ⟨b, off, rfl, c0, c1, c2, c3, c4⟩ := (H0.out.below HF.out).rd.at5 ho
        have HS := Lib.hid (wsumO_snoc ho)
        obtain ⟨_, _, hb1, hb2⟩ := H0.out.c o (List.mem_of_getElem? ho)
        clear ho c0 c2 c3
        go_wp2_with fail
        go_quiet (fail)
        go_wp2_with fail
        go_roundw
        case rel => exact ⟨k + 1, by omega, by omega, by go_num, by rw [HS.out]; unfold wgtO; congr 1; omega, HF.out.trans ⟨rfl, rfl, rfl, Nat.le_refl _, fun _ _ => rfl⟩⟩
        case measure => simp [intOf]; omega
      · have hn3 : decide ((n : Int) ≤ 200) = false := by simp; omega
        go_wp2_with fail
        go_ret
        exact ⟨_, rfl, (fun h => by cases h), HF.out⟩
    · obtain rfl : k = n := by omega
      have hfin : Hid (decide ((wsumO (l.take k) : Int) ≤ 20000) = true → FewO l) := fun h => by
        have h1 := of_decide_eq_true h
        rw [List.take_of_length_le (by have := HN.out; omega)] at h1
        exact ⟨by have := HN.out; omega, by omega⟩
      go_wp2_with fail
      go_ret
      exact ⟨_, rfl, hfin.out, HF.out⟩
/-! ### copies -/
theorem SOp : STy Tryz.prog 22 59 (.agg #[.int .i64 0, .string ⟨#[]⟩, .int .i64 0, .float .f64 0, .string ⟨#[]⟩]) 5 56 := ⟨Tryz.underlying22, info_parts (by kernel_rfl), by decide, by decide⟩
theorem Rd.lone (w : World) (cs : Array Value) (m : Nat) (hm : cs.size = m) (e : TypeId) : Rd (w.alloc (.cells cs e)) (some ⟨w.heap.size, 0, none⟩) 1 1 m cs.toList := by
  refine ⟨Nat.le_refl _, by decide, (fun h => by cases h), by simp [hm], fun j u hj => ⟨w.heap.size, 0, rfl, ?_⟩⟩
  rw [Nat.zero_add, cell_of_row _ w.heap.size j cs e (0, 0) (heap_alloc_new w _)]
  simpa using hj
def OwnO5 (w : World) (base : Nat) (v : Value) (l : List OpP) : Prop := w.ownsRow base 59 5 v l.length (flatE opCells l)
theorem OwnO5.nil (w : World) (base : Nat) : OwnO5 w base (.slice none 0 0) [] := World.ownsRow_nil _ _ _ _
theorem OwnO5.rd {w : World} {base : Nat} {v : Value} {l : List OpP} (h : OwnO5 w base v l) : ∃ a cap, v = .slice a l.length cap ∧ RdE opCells 5 w a l.length cap l := by
  obtain ⟨a, cap, hv, hr⟩ := Rd.of_own h
  exact ⟨a, cap, hv, rfl, hr⟩
def OpsPost (w : World) (l : List OpP) (e : Ending) (w' : World) : Prop := ∃ v, e = .returned v ∧ OwnO5 w' w.heap.size v l ∧ Below w.heap.size w w'
set_option maxHeartbeats 2000000 in
theorem copyOps_any (a : Option Addr) (n cap : Nat) (l : List OpP) (w : World) (h : RdO w a n cap l) (hn : n ≤ 1000) : Calls Tryz.prog 13 #[.slice a n cap] w (OpsPost w l) := by
  have H0 := Lib.hid h
  have HN := Lib.hid h.rd.1
  clear h
  go_enter Tryz.func13, Tryz.ntmps13
  go_wp2_with fail
  go_loopw [3, 4] (fun v i wr => ∃ k : Nat, k ≤ n ∧ i = .int .i64 (k : Nat) ∧ Hid (OwnO5 wr w.heap.size v (l.take k)) ∧ Hid (Below w.heap.size w wr)) (fun _ i _ => n - (intOf i).toNat)
  case atStart => exact ⟨0, Nat.zero_le _, rfl, OwnO5.nil _ _, Below.refl _ _⟩
  case round =>
    obtain ⟨k, hk, rfl, HO, HB⟩ := hrel
    obtain ⟨av, cv, rfl, _⟩ := OwnO5.rd HO.out
    have htl : (l.take k).length = k := by rw [List.length_take]; have := HN.out; omega
    rw [htl]
    by_cases hlt : k < n
    · obtain ⟨o, ho⟩ : ∃ o, l[k]? = some o := ⟨_, List.getElem?_eq_getElem (by have := HN.out; omega)⟩
      obtain ⟨b, off, rfl, c0, c1, c2, c3, c4⟩ := (H0.out.below HB.out).at ho
      have HO1 : Hid ((wr.alloc (.cells #[.int .i64 o.c, .string (bs o.key), .int .i64 o.v.k, .float .f64 (fb o.v.x), .string (bs o.v.s)] 59)).ownsRow w.heap.size 59 5 (.slice av k cv) k (flatE opCells (l.take k))) := by
        have := World.ownsRow.alloc HO.out (.cells #[.int .i64 o.c, .string (bs o.key), .int .i64 o.v.k, .float .f64 (fb o.v.x), .string (bs o.v.s)] 59)
        rw [htl] at this
        exact this
      have HF := Lib.hid ho
      have HTL := Lib.hid htl
      clear ho htl
      go_wp2_with (at_builtin; refine wpList_app SOp rfl (.tmp 11) (.tmp 16) rfl w.heap.size rfl HO1.out rfl (Rd.lone _ _ 5 rfl _) (by simp [Value.oneCell']) (by omega) (by unfold maxLen; omega) (by have := HB.out.size; simp; omega) ?_)
      intro v5 w5 hown5 hb5 _
      have HO5 : Hid (OwnO5 w5 w.heap.size v5 (l.take (k + 1))) := by
        have e : l.take (k + 1) = l.take k ++ [o] := by rw [List.take_add_one, HF.out]; rfl
        show w5.ownsRow _ _ _ _ _ _
        rw [e, flatE_snoc, List.length_append, HTL.out]
        exact hown5
      have HB5 := Lib.hid ((HB.out.alloc HB.out.size _).trans hb5)
      clear hown5 hb5 c0 c1 c2 c3 c4
      go_wp2_with fail
      go_roundw
      case rel => exact ⟨k + 1, by omega, by go_num, HO5.out, HB5.out⟩
      case measure => simp [intOf]; omega
    · obtain rfl : k = n := by omega
      have HG : Hid (OpsPost w l (.returned (.slice av k cv)) wr) := by
        have h := HO.out
        have ht : l.take k = l := List.take_of_length_le (by rw [HN.out]; exact Nat.le_refl _)
        rw [ht] at h htl
        rw [htl] at h
        exact ⟨_, rfl, h, HB.out⟩
      clear htl
      go_wp2_with fail
      go_ret
      exact HG.out
/-! ### comparisons -/
end Go.Proofs.YtalpbphfmelhhaaGreatDoor

/-! ### A program on its way in memory: the stack, the map of what was seen, the map of what was written (prog.run); pop, push, get. -/
namespace Go.Proofs.YtalpbphfmelhhaaGreatDoor
open Go.RowKit Go.Maps Go.Sort
set_option maxRecDepth 100000
attribute [local go_sem] bs_size bs_get bs_toList frombits tobits run_store_float
def valL (v : Vl) : DataW Unit := .agg [.lit (.int .i64 v.k), .lit (.int .u64 (v.x.toNat : Int)), .lit (.string v.s)]
def RVal : Value → Option (DataW Unit × List MemPlace)
  | .agg cs => match cs.toList with
    | [.int .i64 k, .float .f64 x, .string s] => some (.agg [.lit (.int .i64 k), .lit (.int .u64 (x : Int)), .lit (.string s.data.toList)], [])
    | _ => none
  | _ => none
theorem rval_mk (v : Vl) : RVal (VA v.k v.x v.s) = some (valL v, []) := by
  unfold VA valL
  simp [RVal, fb, bs]
theorem rval_inv {u : Value} {v : Vl} {ps : List MemPlace} (h : RVal u = some (valL v, ps)) : u = VA v.k v.x v.s := by
  unfold RVal at h
  split at h
  · rename_i cs
    split at h
    · rename_i k x s hl
      simp [valL] at h
      obtain ⟨⟨rfl, hx, hs⟩, _⟩ := h
      have hc : cs = #[.int .i64 v.k, .float .f64 x, .string s] := by rw [← Array.toList_inj]; exact hl
      have h1 : x = fb v.x := by unfold fb; omega
      have h2 : s = bs v.s := by
        unfold bs
        rw [← hs]
      unfold VA
      rw [hc, h1, h2]
    · cases h
  · cases h
theorem zeroVl (w : World) : (zeroValue 48).run Tryz.prog w = .ok (VA 0 0 []) w := by kernel_rfl
abbrev OwnV (w : World) (m : Nat) (L : List (List UInt8 × Vl)) : Prop := w.ownsMap Tryz.prog 9 RVal m L.length (mapG valL L)
theorem lookV_run {w : World} {m : Nat} {L : List (List UInt8 × Vl)} (h : OwnV w m L) (k : List UInt8) (hk : k.length ≤ maxLen) :
    (Instr.lookup 74 (.map (some m)) (.string (bs k)) false).run Tryz.prog w = .ok (VA ((getG k L).getD Vl.nil).k ((getG k L).getD Vl.nil).x ((getG k L).getD Vl.nil).s) w := by
  obtain ⟨v, ps, hrun, hv⟩ := h.lookup strKeyed Tryz.underlying74 (zeroVl w) (zd := valL Vl.nil) (zp := []) (rval_mk Vl.nil) (keyS k hk)
  rw [mapG_at] at hv
  rw [hrun]
  cases hg : getG k L with
  | none => rw [hg] at hv; rw [rval_inv hv]; rfl
  | some c => rw [hg] at hv; rw [rval_inv hv]; rfl
theorem lookV_ok {w : World} {m : Nat} {L : List (List UInt8 × Vl)} (h : OwnV w m L) (k : List UInt8) (hk : k.length ≤ maxLen) :
    (Instr.lookup 74 (.map (some m)) (.string (bs k)) true).run Tryz.prog w = .ok (.tuple #[VA ((getG k L).getD Vl.nil).k ((getG k L).getD Vl.nil).x ((getG k L).getD Vl.nil).s, .bool (getG k L).isSome]) w := by
  obtain ⟨v, ps, hrun, hv⟩ := h.look_ok strKeyed Tryz.underlying74 (zeroVl w) (zd := valL Vl.nil) (zp := []) (rval_mk Vl.nil) (keyS k hk)
  rw [mapG_at] at hv
  rw [mapG_has] at hrun
  rw [hrun]
  cases hg : getG k L with
  | none => rw [hg] at hv; rw [rval_inv hv]; rfl
  | some c => rw [hg] at hv; rw [rval_inv hv]; rfl
/-! ### the stack -/
def vlCells (v : Vl) : List Value := [.int .i64 v.k, .float .f64 (fb v.x), .string (bs v.s)]
theorem vlCells3 (v : Vl) : (vlCells v).length = 3 := rfl
theorem SVl : STy Tryz.prog 80 48 (.agg #[.int .i64 0, .float .f64 0, .string ⟨#[]⟩]) 3 32 := ⟨Tryz.underlying80, info_parts (by kernel_rfl), by decide, by decide⟩
theorem own_cut {w : World} {base : Nat} {e : TypeId} {size : Nat} {v : Value} {n : Nat} {xs : List Value} (h : w.ownsRow base e size v n xs) (k : Nat) (hk : k ≤ n) (hn : 0 < n) :
    ∃ g cap, v = .slice (some ⟨g, 0, none⟩) n cap ∧ n ≤ cap ∧ cap ≤ maxLen ∧ w.ownsRow base e size (.slice (some ⟨g, 0, none⟩) k cap) k (xs.take (k * size)) := by
  obtain ⟨h1, h2⟩ := h
  rcases h2 with ⟨rfl, h0⟩ | ⟨g, cap, cur, rfl, hb, hg, hnc, hcm, hcs, ht⟩
  · omega
  · refine ⟨g, cap, rfl, hnc, hcm, ?_, .inr ⟨g, cap, cur, rfl, hb, hg, by omega, hcm, hcs, ?_⟩⟩
    · rw [List.length_take, h1]
      exact Nat.min_eq_left (Nat.mul_le_mul_right _ hk)
    · rw [← ht, List.take_take, Nat.min_eq_left (Nat.mul_le_mul_right _ hk)]
structure RnM (B : Nat) (rb m wm : Nat) (sn : List (List UInt8 × Vl)) (r : RS) (sv : Value) (w : World) : Prop where
  row : w.heap[rb]? = some (.cells #[sv, .map (some m), .map (some wm)] 82 (0, 0))
  st : w.ownsRow B 48 3 sv r.st.length (flatE vlCells r.st.reverse)
  sn : OwnV w m sn
  wr : OwnV w wm r.wr
  srt : SrtG r.wr
  b1 : B ≤ rb
  b2 : B ≤ wm
  b3 : m ≠ wm
  bw : B ≤ w.heap.size
/-- The run lies apart of the blocks K. -/
def ApK (K : Nat → Prop) (rb wm : Nat) (sv : Value) (w : World) : Prop := ¬ K rb ∧ ¬ K wm ∧ (∀ k, sv.ownBlock = some k → ¬ K k) ∧ ∀ k, K k → k < w.heap.size
/-- The blocks K are as they were. -/
def KpK (K : Nat → Prop) (w w' : World) : Prop := ∀ k, K k → w'.heap[k]? = w.heap[k]?
def RnS (K : Nat → Prop) (B rb m wm : Nat) (sn : List (List UInt8 × Vl)) (r : RS) (w : World) : Prop := ∃ sv, RnM B rb m wm sn r sv w ∧ ApK K rb wm sv w
section
variable {B rb m wm : Nat} {sn : List (List UInt8 × Vl)} {r : RS} {sv : Value} {w w' : World}
theorem RnM.cells (h : RnM B rb m wm sn r sv w) : w.cell? ⟨rb, 0, none⟩ = some sv ∧ w.cell? ⟨rb, 1, none⟩ = some (.map (some m)) ∧ w.cell? ⟨rb, 2, none⟩ = some (.map (some wm)) ∧ w.frozen? ⟨rb, 0, none⟩ = false :=
  ⟨cell_of_row w rb 0 _ _ _ h.row, cell_of_row w rb 1 _ _ _ h.row, cell_of_row w rb 2 _ _ _ h.row, frozen_of_row w rb 0 _ _ h.row⟩
theorem RnM.lt (h : RnM B rb m wm sn r sv w) : rb < w.heap.size ∧ m < w.heap.size ∧ wm < w.heap.size ∧ ∀ k, sv.ownBlock = some k → k < w.heap.size :=
  ⟨(Array.getElem?_eq_some_iff.1 h.row).1, h.sn.lt, h.wr.lt, fun k hk => (World.ownsRow.lt h.st k hk).2⟩
theorem own_isMap {P : Program} {k : TypeId} {R : Value → Option (DataW Unit × List MemPlace)} {b n : Nat} {D : DataW Unit} (h : w.ownsMap P k R b n D) : ∃ es clock, w.heap[b]? = some (.map es clock) := by
  obtain ⟨es, clock, h1, _⟩ := h
  exact ⟨es, clock, h1⟩
theorem own_isRow {base : Nat} {e : TypeId} {size : Nat} {v : Value} {n : Nat} {xs : List Value} (h : w.ownsRow base e size v n xs) {k : Nat} (hk : v.ownBlock = some k) : ∃ cur, w.heap[k]? = some (.cells cur e (0, 0)) := by
  obtain ⟨_, h2⟩ := h
  rcases h2 with ⟨rfl, _⟩ | ⟨g, cap, cur, rfl, _, hg, _⟩
  · simp [Value.ownBlock] at hk
  · simp [Value.ownBlock] at hk; subst hk; exact ⟨cur, hg⟩
/-- The blocks lie apart. -/
theorem RnM.apart (h : RnM B rb m wm sn r sv w) : m ≠ rb ∧ wm ≠ rb ∧ ∀ k, sv.ownBlock = some k → k ≠ rb ∧ k ≠ m ∧ k ≠ wm := by
  obtain ⟨es, cl, h1⟩ := own_isMap h.sn
  obtain ⟨es', cl', h2⟩ := own_isMap h.wr
  have h3 := h.row
  refine ⟨fun e => ?_, fun e => ?_, fun k hk => ?_⟩
  · rw [e, h3] at h1; cases h1
  · rw [e, h3] at h2; cases h2
  · obtain ⟨cur, h4⟩ := own_isRow h.st hk
    refine ⟨fun e => ?_, fun e => ?_, fun e => ?_⟩
    · rw [e, h3] at h4
      cases h4
    · rw [e, h1] at h4; cases h4
    · rw [e, h2] at h4; cases h4
theorem RnM.keep (h : RnM B rb m wm sn r sv w) (h1 : w'.heap[rb]? = w.heap[rb]?) (h2 : w'.heap[m]? = w.heap[m]?) (h3 : w'.heap[wm]? = w.heap[wm]?) (h4 : ∀ k, sv.ownBlock = some k → w'.heap[k]? = w.heap[k]?) (hb : B ≤ w'.heap.size) : RnM B rb m wm sn r sv w' :=
  ⟨h1.trans h.row, ownsRow_keep h.st h4, ownsMap_block h.sn h2, ownsMap_block h.wr h3, h.srt, h.b1, h.b2, h.b3, hb⟩
theorem RnM.new (h : RnM B rb m wm sn r sv w) (hb : Below w.heap.size w w') : RnM B rb m wm sn r sv w' := by
  obtain ⟨l1, l2, l3, l4⟩ := h.lt
  exact h.keep (hb.block rb l1) (hb.block m l2) (hb.block wm l3) (fun k hk => hb.block k (l4 k hk)) (Nat.le_trans h.bw hb.size)
theorem ApK.new {K : Nat → Prop} (h : ApK K rb wm sv w) (hs : w.heap.size ≤ w'.heap.size) : ApK K rb wm sv w' := ⟨h.1, h.2.1, h.2.2.1, fun k hk => Nat.lt_of_lt_of_le (h.2.2.2 k hk) hs⟩
theorem RnS.new {K : Nat → Prop} (h : RnS K B rb m wm sn r w) (hb : Below w.heap.size w w') : RnS K B rb m wm sn r w' := by
  obtain ⟨sv, h, hk⟩ := h
  exact ⟨sv, h.new hb, hk.new hb.size⟩
theorem RnS.lt {K : Nat → Prop} (h : RnS K B rb m wm sn r w) : ∀ k, K k → k < w.heap.size := by
  obtain ⟨sv, _, hk⟩ := h
  exact hk.2.2.2
/-- A new block is kept, too. -/
theorem RnS.add {K : Nat → Prop} (h : RnS K B rb m wm sn r w) {c : Nat} (hb : Below w.heap.size w w') (h1 : w.heap.size ≤ c) (h2 : c < w'.heap.size) : RnS (fun k => K k ∨ k = c) B rb m wm sn r w' := by
  obtain ⟨sv, h, hk⟩ := h
  obtain ⟨l1, l2, l3, l4⟩ := h.lt
  refine ⟨sv, h.new hb, ?_, ?_, fun k e => ?_, fun k e => ?_⟩
  · rintro (e | e)
    · exact hk.1 e
    · omega
  · rintro (e | e)
    · exact hk.2.1 e
    · omega
  · have := l4 k e
    rintro (e' | e')
    · exact hk.2.2.1 k e e'
    · omega
  · rcases e with e | e
    · exact Nat.lt_of_lt_of_le (hk.2.2.2 k e) hb.size
    · omega
theorem RnS.less {K K' : Nat → Prop} (h : RnS K B rb m wm sn r w) (hk : ∀ k, K' k → K k) : RnS K' B rb m wm sn r w := by
  obtain ⟨sv, h, h1, h2, h3, h4⟩ := h
  exact ⟨sv, h, fun e => h1 (hk _ e), fun e => h2 (hk _ e), fun k e e' => h3 k e (hk _ e'), fun k e => h4 k (hk _ e)⟩
theorem KpK.trans {K : Nat → Prop} {w w' w'' : World} (h1 : KpK K w w') (h2 : KpK K w' w'') : KpK K w w'' := fun k hk => (h2 k hk).trans (h1 k hk)
theorem KpK.less {K K' : Nat → Prop} {w w' : World} (h1 : KpK K w w') (hk : ∀ k, K' k → K k) : KpK K' w w' := fun k e => h1 k (hk k e)
theorem KpK.below {K : Nat → Prop} {w w' : World} {b : Nat} (hb : Below b w w') (hlt : ∀ k, K k → k < b) : KpK K w w' := fun k hk => hb.block k (hlt k hk)
theorem KpK.cell {K : Nat → Prop} {w w' : World} (h : KpK K w w') {a : Addr} {v : Value} (hc : w.cell? a = some v) (hk : K a.block) : w'.cell? a = some v := (World.cell?_of_block (h _ hk)).trans hc
theorem KpK.frozen {K : Nat → Prop} {w w' : World} (h : KpK K w w') {a : Addr} {b : Bool} (hc : w.frozen? a = b) (hk : K a.block) : w'.frozen? a = b := (World.frozen?_of_block (h _ hk)).trans hc
theorem ApK.turn {K : Nat → Prop} (h : ApK K rb wm sv w) {w5 : World} {sv' : Value} (hf : Below w.heap.size w w5 ∨ w.grownBy w5 sv.ownBlock) : KpK K w (w5.setCell ⟨rb, 0, none⟩ sv') := by
  obtain ⟨h1, h2, h3, h4⟩ := h
  intro k hk
  have e1 : (w5.setCell ⟨rb, 0, none⟩ sv').heap[k]? = w5.heap[k]? := Below.heap_setCell w5 _ _ k (fun e => h1 (by rw [show rb = k from e.symm]; exact hk))
  rw [e1]
  rcases hf with e | e
  · exact e.block k (h4 k hk)
  · exact e.block k (h4 k hk) (fun e' => h3 k e'.symm hk)
/-- The stack turned: the slice's row, then the run's first cell. -/
theorem RnM.turn (h : RnM B rb m wm sn r sv w) {w5 : World} {sv' : Value} {st' : List Vl} (hf : Below w.heap.size w w5 ∨ w.grownBy w5 sv.ownBlock) (ho : w5.ownsRow B 48 3 sv' st'.length (flatE vlCells st'.reverse)) :
    w5.cell? ⟨rb, 0, none⟩ = some sv ∧ w5.frozen? ⟨rb, 0, none⟩ = false ∧ RnM B rb m wm sn ⟨st', r.wr⟩ sv' (w5.setCell ⟨rb, 0, none⟩ sv') ∧ Below B w (w5.setCell ⟨rb, 0, none⟩ sv') := by
  obtain ⟨l1, l2, l3, l4⟩ := h.lt
  obtain ⟨a1, a2, a3⟩ := h.apart
  have hfr : Fr (fun k => sv.ownBlock = some k) w w5 := by
    rcases hf with e | e
    · exact Fr.of_new e
    · exact (Fr.refl _ w).grown e fun k _ e => e
  have h1 : w5.heap[rb]? = w.heap[rb]? := hfr.block rb l1 fun e => (a3 rb e).1 rfl
  have h2 : w5.heap[m]? = w.heap[m]? := hfr.block m l2 fun e => (a3 m e).2.1 rfl
  have h3 : w5.heap[wm]? = w.heap[wm]? := hfr.block wm l3 fun e => (a3 wm e).2.2 rfl
  have hrow := h1.trans h.row
  have hf2 : Fr (fun k => k = rb) w5 (w5.setCell ⟨rb, 0, none⟩ sv') := (Fr.refl (fun k => k = rb) w5).setCell (p := ⟨rb, 0, none⟩) (fun _ => rfl) _
  have hs := hfr.size
  refine ⟨cell_of_row w5 rb 0 _ _ _ hrow, frozen_of_row w5 rb 0 _ _ hrow, ⟨row_set hrow rfl, ownsRow_keep ho fun k hk => ?_, ownsMap_block (ownsMap_block h.sn h2) (hf2.block m (by omega) a1), ownsMap_block (ownsMap_block h.wr h3) (hf2.block wm (by omega) a2), h.srt, h.b1, h.b2, h.b3, by have := h.bw; have := hf2.size; omega⟩, ?_⟩
  · obtain ⟨cur, hcur⟩ := own_isRow ho hk
    refine hf2.block k (World.ownsRow.lt ho k hk).2 fun e => ?_
    rw [e, hrow] at hcur
    cases hcur
  · refine Below.setCell (p := ⟨rb, 0, none⟩) ?_ h.b1 _
    rcases hf with e | e
    · exact e.mono h.bw
    · exact (Below.refl B w).grown e h.bw fun k hk => (World.ownsRow.lt h.st k hk).1
end
end Go.Proofs.YtalpbphfmelhhaaGreatDoor
