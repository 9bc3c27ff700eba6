/-
  What was seen of keys: lists that read, the first element of a key (prog.find's closure, slices.IndexFunc).
  What was seen of the keys that a program reads (prog.find).
  What a run is given up by is caught (prog.Run's deferred closure).
  A step of the run, whatever it is; heights (plain).
  A run's heights, its keys, its errors (plain).
-/
import Derived.Test.YtalpbphfmelhhaaGreatDoorHG
import Derived.Tactics2
import Derived.Defers
import Derived.Recover
import Derived.Laws.Pointers
/-! ### What was seen of keys: lists that read, the first element of a key (prog.find's closure, slices.IndexFunc). -/
namespace Go.Proofs.YtalpbphfmelhhaaGreatDoor
open Go.RowKit Go.Maps Go.Sort
set_option maxRecDepth 100000
attribute [local go_sem] bs_size bs_get bs_toList frombits tobits run_store_float
def snCells (s : SnP) : List Value := [.string (bs s.key), .int .i64 s.v.k, .float .f64 (fb s.v.x), .string (bs s.v.s), .int .i64 s.w, .int .i64 s.l, .int .i64 s.n]
theorem snCells7 (s : SnP) : (snCells s).length = 7 := rfl
structure SnOk (s : SnP) : Prop where
  kl : s.key.length ≤ 9223372036854775807
  sl : s.v.s.length ≤ 9223372036854775807
structure RdS (w : World) (a : Option Addr) (n cap : Nat) (l : List SnP) : Prop where
  rd : RdE snCells 7 w a n cap l
  ok : ∀ s ∈ l, SnOk s
theorem RdS.below {w w' : World} {a : Option Addr} {n cap : Nat} {l : List SnP} (h : RdS w a n cap l) (hb : Below w.heap.size w w') : RdS w' a n cap l := ⟨h.rd.below hb, h.ok⟩
theorem RdE.at7 {w : World} {a : Option Addr} {n cap : Nat} {l : List SnP} (h : RdE snCells 7 w a n cap l) {i : Nat} {s : SnP} (hi : l[i]? = some s) : ∃ b off, a = some ⟨b, off, none⟩ ∧ w.cell? ⟨b, off + i * 7, none⟩ = some (.string (bs s.key)) ∧
    w.cell? ⟨b, off + i * 7 + 1, none⟩ = some (.int .i64 s.v.k) ∧ w.cell? ⟨b, off + i * 7 + 2, none⟩ = some (.float .f64 (fb s.v.x)) ∧ w.cell? ⟨b, off + i * 7 + 3, none⟩ = some (.string (bs s.v.s)) ∧
    w.cell? ⟨b, off + i * 7 + 4, none⟩ = some (.int .i64 s.w) ∧ w.cell? ⟨b, off + i * 7 + 5, none⟩ = some (.int .i64 s.l) ∧ w.cell? ⟨b, off + i * 7 + 6, none⟩ = some (.int .i64 s.n) := by
  obtain ⟨b, off, ha, hc⟩ := h.at snCells7 hi (by decide)
  exact ⟨b, off, ha, hc 0 _ rfl, hc 1 _ rfl, hc 2 _ rfl, hc 3 _ rfl, hc 4 _ rfl, hc 5 _ rfl, hc 6 _ rfl⟩
/-- Where a key's first element lies. -/
def idxF (k : List UInt8) : List SnP → Nat → Int
  | [], _ => -1
  | s :: r, j => if s.key == k then ((j : Nat) : Int) else idxF k r (j + 1)
theorem idxF_spec (k : List UInt8) : ∀ (l : List SnP) (j : Nat), (l.find? (fun s => s.key == k) = none ∧ idxF k l j = -1) ∨ ∃ i s, l[i]? = some s ∧ l.find? (fun s => s.key == k) = some s ∧ idxF k l j = ((j + i : Nat) : Int)
  | [], j => .inl ⟨rfl, rfl⟩
  | s :: r, j => by
    cases h : (s.key == k) with
    | true => exact .inr ⟨0, s, rfl, by rw [List.find?_cons, h], by unfold idxF; rw [if_pos h]; rfl⟩
    | false =>
      have e1 : (s :: r).find? (fun s => s.key == k) = r.find? (fun s => s.key == k) := by rw [List.find?_cons, h]
      have e2 : idxF k (s :: r) j = idxF k r (j + 1) := by rw [idxF, h]; simp
      rw [e1, e2]
      rcases idxF_spec k r (j + 1) with h1 | ⟨i, s', h1, h2, h3⟩
      · exact .inl h1
      · exact .inr ⟨i + 1, s', h1, h2, by rw [h3]; congr 1; omega⟩
theorem idxF_step {k : List UInt8} {l : List SnP} {j : Nat} {s : SnP} (h : l[j]? = some s) : idxF k (l.drop j) j = if s.key == k then ((j : Nat) : Int) else idxF k (l.drop (j + 1)) (j + 1) := by
  have hlt := (List.getElem?_eq_some_iff.1 h).1
  have e : l.drop j = s :: l.drop (j + 1) := by
    rw [List.drop_eq_getElem_cons hlt]
    congr 1
    exact (List.getElem?_eq_some_iff.1 h).2
  rw [e, idxF]
set_option maxHeartbeats 1000000 in
theorem fcl_any (s : SnP) (k : List UInt8) (c : Nat) (w : World) (hc : w.cell? ⟨c, 0, none⟩ = some (.string (bs k))) :
    Calls Tryz.prog 73 #[.agg #[.string (bs s.key), .int .i64 s.v.k, .float .f64 (fb s.v.x), .string (bs s.v.s), .int .i64 s.w, .int .i64 s.l, .int .i64 s.n], .pointer (some ⟨c, 0, none⟩)] w fun e w' => e = .returned (.bool (s.key == k)) ∧ Below w.heap.size w w' := by
  have g0 := cell_alloc_keep (o := .cells #[.string (bs s.key), .int .i64 s.v.k, .float .f64 (fb s.v.x), .string (bs s.v.s), .int .i64 s.w, .int .i64 s.l, .int .i64 s.n] 52) hc
  clear hc
  go_enter Tryz.func73, Tryz.ntmps73
  go_wp2_with fail
  go_ret
  exact ⟨rfl, (Below.refl _ _).alloc (Nat.le_refl _) _⟩
set_option maxHeartbeats 2000000 in
theorem idx_any (a : Option Addr) (n cap : Nat) (l : List SnP) (k : List UInt8) (c : Nat) (w : World) (h : RdS w a n cap l) (hc : w.cell? ⟨c, 0, none⟩ = some (.string (bs k))) :
    Calls Tryz.prog 72 #[.slice a n cap, .func (.func 73) #[] #[.pointer (some ⟨c, 0, none⟩)]] w fun e w' => e = .returned (.int .i64 (idxF k l 0)) ∧ Below w.heap.size w w' := by
  have H0 := Lib.hid h
  have HC := Lib.hid hc
  have hm : n ≤ 9223372036854775807 := h.rd.len
  have HN := Lib.hid h.rd.1
  clear h hc
  go_enter Tryz.func72, Tryz.ntmps72
  go_wp2_with fail
  go_loopw [8] (fun i wr => ∃ j : Nat, j ≤ n ∧ i = .int .i64 (j : Nat) ∧ Hid (idxF k l 0 = idxF k (l.drop j) j) ∧ Hid (Below w.heap.size w wr)) (fun i _ => n - (intOf i).toNat)
  case atStart => exact ⟨0, Nat.zero_le _, rfl, rfl, Below.refl _ _⟩
  case round =>
    obtain ⟨j, hj, rfl, HI, HF⟩ := hrel
    by_cases hlt : j < n
    · obtain ⟨s, hs⟩ : ∃ s, l[j]? = some s := ⟨_, List.getElem?_eq_getElem (by have := HN.out; omega)⟩
      obtain ⟨b, off, rfl, c0, c1, c2, c3, c4, c5, c6⟩ := (H0.out.below HF.out).rd.at7 hs
      have HS := Lib.hid hs
      have HCL := Lib.hid (fcl_any s k c wr (keep1 HC.out HF.out))
      clear hs
      cases he : (s.key == k) with
      | true =>
        rw [he] at HCL
        have HR : Hid (idxF k l 0 = (j : Nat)) := by show _ = _; rw [HI.out, idxF_step HS.out, he]; rfl
        go_wp2_with (go_at_call 73; ((with_reducible refine (HCL.out).mono ?_); rintro e w1 ⟨rfl, hb1⟩))
        go_ret
        exact ⟨by rw [HR.out]; rfl, HF.out.trans (hb1.mono HF.out.size)⟩
      | false =>
        rw [he] at HCL
        have HR : Hid (idxF k l 0 = idxF k (l.drop (j + 1)) (j + 1)) := by show _ = _; rw [HI.out, idxF_step HS.out, he]; rfl
        go_wp2_with (go_at_call 73; ((with_reducible refine (HCL.out).mono ?_); rintro e w1 ⟨rfl, hb1⟩))
        go_roundw
        case rel => exact ⟨j + 1, by omega, by go_num, HR.out, HF.out.trans (hb1.mono HF.out.size)⟩
        case measure => simp [intOf]; omega
    · obtain rfl : j = n := by omega
      have HR : Hid (idxF k l 0 = -1) := by show _ = _; rw [HI.out, List.drop_of_length_le (by have := HN.out; omega)]; rfl
      go_wp2_with fail
      go_ret
      exact ⟨by rw [HR.out]; rfl, HF.out⟩
end Go.Proofs.YtalpbphfmelhhaaGreatDoor

/-! ### What was seen of the keys that a program reads (prog.find). -/
namespace Go.Proofs.YtalpbphfmelhhaaGreatDoor
open Go.RowKit Go.Maps Go.Sort
set_option maxRecDepth 100000
attribute [local go_sem] bs_size bs_get bs_toList frombits tobits run_store_float
/-- The map of what was seen, while it is made. -/
structure FdAt (w : World) (m : Nat) (ks : List (List UInt8)) (sn : List SnP) (k : Nat) (bd : Bool) (L : List (List UInt8 × Vl)) (W : World) : Prop where
  own : OwnV W m L
  srt : SrtG L
  len : L.length ≤ k
  miss : missB sn (ks.take k) = false
  bad : badB sn (ks.take k) = bd
  get : ∀ q ∈ ks.take k, getG q L = some (seenV sn q)
  lo : w.heap.size ≤ m
  bl : Below w.heap.size w W
def FdPost (w : World) (ks : List (List UInt8)) (sn : List SnP) (e : Ending) (w' : World) : Prop :=
  Below w.heap.size w w' ∧ if missB sn ks = true then e = .returned (.tuple #[.map none, .int .i64 8]) else if badB sn ks = true then e = .returned (.tuple #[.map none, .int .i64 4]) else ∃ m L, e = .returned (.tuple #[.map (some m), .int .i64 0]) ∧ OwnV w' m L ∧ w.heap.size ≤ m ∧ (∀ q ∈ ks, getG q L = some (seenV sn q)) ∧ L.length ≤ ks.length
theorem missB_snoc (sn : List SnP) (l : List (List UInt8)) (k : List UInt8) : missB sn (l ++ [k]) = (missB sn l || (sn.find? (fun s => s.key == k)).isNone) := by simp [missB]
theorem badB_snoc (sn : List SnP) (l : List (List UInt8)) (k : List UInt8) : badB sn (l ++ [k]) = (badB sn l || !(seenV sn k).may) := by simp [badB]
theorem take_snoc {α : Type} {l : List α} {k : Nat} {x : α} (h : l[k]? = some x) : l.take (k + 1) = l.take k ++ [x] := by rw [List.take_add_one, h]; rfl
theorem missB_miss {sn : List SnP} {ks : List (List UInt8)} {k : List UInt8} (hk : k ∈ ks) (h : sn.find? (fun s => s.key == k) = none) : missB sn ks = true := by
  unfold missB
  rw [List.any_eq_true]
  exact ⟨k, hk, by rw [h]; rfl⟩
theorem FdAt.next {w W W' : World} {m : Nat} {ks : List (List UInt8)} {sn : List SnP} {k : Nat} {bd : Bool} {L : List (List UInt8 × Vl)} {y : List UInt8} {s : SnP} (h : FdAt w m ks sn k bd L W) (hy : ks[k]? = some y) (hs : sn.find? (fun s => s.key == y) = some s) {W1 : World} (hb : Below W.heap.size W W1)
    (ho : W'.ownsMap Tryz.prog 9 RVal m (L.length + 1) ((mapG valL L).put (.string y) (valL s.v))) (hg : W1.grownBy W' (some m)) : FdAt w m ks sn (k + 1) (bd || !s.v.may) (putG (y, s.v) L) W' := by
  have hsv : seenV sn y = s.v := by unfold seenV; rw [hs]
  rw [show ((mapG valL L).put (.string y) (valL s.v)) = mapG valL (putG (y, s.v) L) from mapG_put valL L (y, s.v)] at ho
  have ht := ownsMap_tight ho
  rw [mapG_size] at ht
  refine ⟨ht, h.srt.put, by have := putG_length (y, s.v) L; have := h.len; omega, ?_, ?_, fun q hq => ?_, h.lo, ((h.bl.trans (hb.mono h.bl.size)).grown hg (Nat.le_trans h.bl.size hb.size) (fun q e => by cases e; exact h.lo))⟩
  · rw [take_snoc hy, missB_snoc, h.miss, hs]; rfl
  · rw [take_snoc hy, badB_snoc, h.bad, hsv]
  · rw [take_snoc hy, List.mem_append] at hq
    by_cases e : q = y
    · subst e
      rw [hsv]
      exact getG_put_same h.srt (q, s.v)
    · rw [getG_put_other h.srt (p := (y, s.v)) e]
      rcases hq with hq | hq
      · exact h.get q hq
      · exact absurd (List.mem_singleton.1 hq) e
set_option maxHeartbeats 4000000 in
theorem find_any (ak : Option Addr) (nk ck : Nat) (ks : List (List UInt8)) (a : Option Addr) (n cap : Nat) (sn : List SnP) (w : World) (hK : RdK w ak nk ck ks) (hl : ∀ q ∈ ks, q.length ≤ 100000) (h : RdS w a n cap sn) (hnk : nk ≤ 1000) :
    Calls Tryz.prog 43 #[.slice ak nk ck, .slice a n cap] w (FdPost w ks sn) := by
  have H0 := Lib.hid h
  have HK := Lib.hid hK
  have HL := Lib.hid hl
  have HN := Lib.hid hK.1
  have HM := Lib.hid h.rd.1
  clear h hK hl
  have hmm := @run_makeMap Tryz.prog
  go_enter Tryz.func43, Tryz.ntmps43
  go_wp2_with fail
  go_loopw [7, 14] (fun bv i wr => ∃ k bd L, k ≤ nk ∧ bv = .bool bd ∧ i = .int .i64 (k : Nat) ∧ Hid (FdAt w w.heap.size ks sn k bd L wr)) (fun _ i _ => nk - (intOf i).toNat)
  case atStart =>
    exact ⟨0, false, [], Nat.zero_le _, rfl, rfl, ⟨World.ownsMap_made w Tryz.prog 9 RVal, SrtG.nil, Nat.le_refl _, rfl, rfl, (fun q hq => by simp at hq), Nat.le_refl _, (Below.refl _ _).alloc (Nat.le_refl _) _⟩⟩
  case round =>
    obtain ⟨k, bd, L, hk, rfl, rfl, HX⟩ := hrel
    by_cases hlt : k < nk
    · obtain ⟨y, hy⟩ : ∃ y, ks[k]? = some y := ⟨_, List.getElem?_eq_getElem (by have := HN.out; omega)⟩
      obtain ⟨bk, offk, rfl, ck0⟩ := (HK.out.below HX.out.bl).at hy
      have HY := Lib.hid hy
      have HBA : Hid (Below w.heap.size w (wr.alloc (.cells #[.string (bs y)] 9))) := HX.out.bl.alloc HX.out.bl.size _
      have HCY : Hid ((wr.alloc (.cells #[.string (bs y)] 9)).cell? ⟨wr.heap.size, 0, none⟩ = some (.string (bs y))) := cell_of_row _ wr.heap.size 0 _ _ _ (heap_alloc_new wr _)
      have HID := Lib.hid (idx_any a n cap sn y wr.heap.size _ (H0.out.below HBA.out) HCY.out)
      clear hy
      rcases idxF_spec y sn 0 with ⟨hf, he⟩ | ⟨i, s, hi, hf, he⟩
      · have HR : Hid (missB sn ks = true) := missB_miss (List.mem_of_getElem? HY.out) hf
        rw [he] at HID
        clear he hf
        go_wp2_with (go_at_call 72; ((with_reducible refine (HID.out).mono ?_); rintro e w1 ⟨rfl, hb1⟩))
        refine bodyPost_ret (results_tmp2 rfl _ _ _) rfl ?_
        exact ⟨HBA.out.trans (hb1.mono HBA.out.size), by rw [if_pos HR.out]; rfl⟩
      · rw [he] at HID
        have hin : decide (((0 + i : Nat) : Int) < 0) = false := by simp
        have hil : i < n := by have := (List.getElem?_eq_some_iff.1 hi).1; have := HM.out; omega
        have HI := Lib.hid hi
        have HFD := Lib.hid hf
        have HMY : Hid (∀ W, Calls Tryz.prog 69 #[.agg #[.int .i64 s.v.k, .float .f64 (fb s.v.x), .string (bs s.v.s)]] W fun e w' => e = .returned (.bool s.v.may) ∧ Below W.heap.size W w') := fun W => cmay s.v.k s.v.x s.v.s W
        simp only [Nat.zero_add] at HID hin
        obtain ⟨b, off, rfl, g0, g1, g2, g3, g4, g5, g6⟩ := H0.out.rd.at7 HI.out
        clear he hf hi g0 g4 g5 g6
        cases bd with
        | true =>
          go_wp2_with (go_at_call 72; ((with_reducible refine (HID.out).mono ?_); rintro e w1 ⟨rfl, hb1⟩))
          have HV : Hid (Below w.heap.size w w1) := HBA.out.trans (hb1.mono HBA.out.size)
          have HWD : Hid (Below wr.heap.size wr (w1).drew) := (((Below.refl _ wr).alloc (Nat.le_refl _) _).trans (hb1.mono (by simp))).drew
          have HU := Lib.hid (hb1)
          have c0 := keep1 HCY.out HU.out
          have d1 := keep1 g1 HV.out
          have d2 := keep1 g2 HV.out
          have d3 := keep1 g3 HV.out
          refine wp_region_ht 7 (fun W => W.cell? ⟨wr.heap.size, 0, none⟩ = some (.string (bs y)) ∧ W.cell? ⟨b, off + i * 7 + 1, none⟩ = some (.int .i64 s.v.k) ∧ W.cell? ⟨b, off + i * 7 + 2, none⟩ = some (.float .f64 (fb s.v.x)) ∧ W.cell? ⟨b, off + i * 7 + 3, none⟩ = some (.string (bs s.v.s))) (by kernel_rfl) (by kernel_rfl) ?_ (fun hHeld => ?_)
          · exact ⟨c0, d1, d2, d3⟩
          try simp only [Act.put, List.setIfInBounds_toArray, List.set_cons_zero, List.set_cons_succ]
          refine wpHT_takeD (i := 0) (d := 33) (v := ?_) (by kernel_rfl) rfl rfl (by decide) (by kernel_rfl) (by kernel_rfl) (fun _ _ _ h => h) (Or.inl ⟨by kernel_rfl, ?_⟩) (by assumption) ?_
          rotate_left
          · intro w hSw; (try dsimp only at hSw); go_simp; (try with_reducible rfl)
          try simp only [Act.put, List.setIfInBounds_toArray, List.set_cons_zero, List.set_cons_succ]
          refine wpHT_takeD (i := 1) (d := 34) (v := ?_) (by kernel_rfl) rfl rfl (by decide) (by kernel_rfl) (by kernel_rfl) (fun _ _ _ h => h) (Or.inl ⟨by kernel_rfl, ?_⟩) (by assumption) ?_
          rotate_left
          · intro w hSw; (try dsimp only at hSw); go_simp; (try with_reducible rfl)
          try simp only [Act.put, List.setIfInBounds_toArray, List.set_cons_zero, List.set_cons_succ]
          refine wpHT_takeD (i := 2) (d := 35) (v := ?_) (by kernel_rfl) rfl rfl (by decide) (by kernel_rfl) (by kernel_rfl) (fun _ _ _ h => h) (Or.inl ⟨by kernel_rfl, ?_⟩) (by assumption) ?_
          rotate_left
          · intro w hSw; (try dsimp only at hSw); go_simp; (try with_reducible rfl)
          try simp only [Act.put, List.setIfInBounds_toArray, List.set_cons_zero, List.set_cons_succ]
          refine wpHT_takeD (i := 3) (d := 36) (v := ?_) (by kernel_rfl) rfl rfl (by decide) (by kernel_rfl) (by kernel_rfl) (fun _ _ _ h => h) (Or.inl ⟨by kernel_rfl, ?_⟩) (by assumption) ?_
          rotate_left
          · intro w hSw; (try dsimp only at hSw); go_simp; (try with_reducible rfl)
          try simp only [Act.put, List.setIfInBounds_toArray, List.set_cons_zero, List.set_cons_succ]
          refine wpHT_takeD (i := 4) (d := 37) (v := ?_) (by kernel_rfl) rfl rfl (by decide) (by kernel_rfl) (by kernel_rfl) (fun _ _ _ h => h) (Or.inl ⟨by kernel_rfl, ?_⟩) (by assumption) ?_
          rotate_left
          · intro w hSw; (try dsimp only at hSw); go_simp; (try with_reducible rfl)
          try simp only [Act.put, List.setIfInBounds_toArray, List.set_cons_zero, List.set_cons_succ]
          refine wpHT_takeD (i := 5) (d := 38) (v := ?_) (by kernel_rfl) rfl rfl (by decide) (by kernel_rfl) (by kernel_rfl) (fun _ _ _ h => h) (Or.inl ⟨by kernel_rfl, ?_⟩) (by assumption) ?_
          rotate_left
          · intro w hSw; (try dsimp only at hSw); go_simp; (try with_reducible rfl)
          try simp only [Act.put, List.setIfInBounds_toArray, List.set_cons_zero, List.set_cons_succ]
          refine wpHT_takeD (i := 6) (d := 39) (v := ?_) (by kernel_rfl) rfl rfl (by decide) (by kernel_rfl) (by kernel_rfl) (fun _ _ _ h => h) (Or.inl ⟨by kernel_rfl, ?_⟩) (by assumption) ?_
          rotate_left
          · intro w hSw; (try dsimp only at hSw); go_simp; (try with_reducible rfl)
          try simp only [Act.put, List.setIfInBounds_toArray, List.set_cons_zero, List.set_cons_succ]
          refine wpHT_done (by kernel_rfl) ?_
          simp only [List.drop_succ_cons, List.drop_zero]
          clear hHeld c0 d1 d2 d3
          refine wpList_mapUpdate_own _ rfl _ _ _ 74 rfl 9 48 strKeyed Tryz.underlying74 RVal w.heap.size L.length (mapG valL L) rfl (ownsMap_block HX.out.own (HWD.out.block w.heap.size HX.out.own.lt)) (by have := HX.out.len; unfold maxLen; omega) _ (VA s.v.k s.v.x s.v.s) (.string y) rfl rfl (keyS y (by have := HL.out y (List.mem_of_getElem? HY.out); unfold maxLen; omega)) (valL s.v) [] (rval_mk s.v) ?_
          intro w4 hown4 hgrow4
          have HNX := Lib.hid (HX.out.next HY.out HFD.out HWD.out hown4 hgrow4)
          clear hown4 hgrow4
          go_wp2_with fail
          go_roundw
          case rel => exact ⟨k + 1, true, _, by omega, rfl, by go_num, HNX.out⟩
          case measure => simp [intOf]; omega
        | false =>
          go_wp2_with (go_at_call 72; ((with_reducible refine (HID.out).mono ?_); rintro e w1 ⟨rfl, hb1⟩; have e1 := keep1 g1 (HBA.out.trans (hb1.mono HBA.out.size)); have e2 := keep1 g2 (HBA.out.trans (hb1.mono HBA.out.size)); have e3 := keep1 g3 (HBA.out.trans (hb1.mono HBA.out.size))))
          go_at_call 69
          refine (HMY.out _).mono ?_
          rintro e w2 ⟨rfl, hb2⟩
          clear e1 e2 e3
          have HV : Hid (Below w.heap.size w w2) := (HBA.out.trans (hb1.mono HBA.out.size)).trans (hb2.mono (HBA.out.trans (hb1.mono HBA.out.size)).size)
          have HWD : Hid (Below wr.heap.size wr (w2).drew) := ((((Below.refl _ wr).alloc (Nat.le_refl _) _).trans (hb1.mono (by simp))).trans (hb2.mono (Nat.le_trans (by simp) hb1.size))).drew
          go_wp2_with fail
          have HU := Lib.hid (hb1.trans (hb2.mono hb1.size))
          have c0 := keep1 HCY.out HU.out
          have d1 := keep1 g1 HV.out
          have d2 := keep1 g2 HV.out
          have d3 := keep1 g3 HV.out
          refine wp_region_ht 7 (fun W => W.cell? ⟨wr.heap.size, 0, none⟩ = some (.string (bs y)) ∧ W.cell? ⟨b, off + i * 7 + 1, none⟩ = some (.int .i64 s.v.k) ∧ W.cell? ⟨b, off + i * 7 + 2, none⟩ = some (.float .f64 (fb s.v.x)) ∧ W.cell? ⟨b, off + i * 7 + 3, none⟩ = some (.string (bs s.v.s))) (by kernel_rfl) (by kernel_rfl) ?_ (fun hHeld => ?_)
          · exact ⟨c0, d1, d2, d3⟩
          try simp only [Act.put, List.setIfInBounds_toArray, List.set_cons_zero, List.set_cons_succ]
          refine wpHT_takeD (i := 0) (d := 33) (v := ?_) (by kernel_rfl) rfl rfl (by decide) (by kernel_rfl) (by kernel_rfl) (fun _ _ _ h => h) (Or.inl ⟨by kernel_rfl, ?_⟩) (by assumption) ?_
          rotate_left
          · intro w hSw; (try dsimp only at hSw); go_simp; (try with_reducible rfl)
          try simp only [Act.put, List.setIfInBounds_toArray, List.set_cons_zero, List.set_cons_succ]
          refine wpHT_takeD (i := 1) (d := 34) (v := ?_) (by kernel_rfl) rfl rfl (by decide) (by kernel_rfl) (by kernel_rfl) (fun _ _ _ h => h) (Or.inl ⟨by kernel_rfl, ?_⟩) (by assumption) ?_
          rotate_left
          · intro w hSw; (try dsimp only at hSw); go_simp; (try with_reducible rfl)
          try simp only [Act.put, List.setIfInBounds_toArray, List.set_cons_zero, List.set_cons_succ]
          refine wpHT_takeD (i := 2) (d := 35) (v := ?_) (by kernel_rfl) rfl rfl (by decide) (by kernel_rfl) (by kernel_rfl) (fun _ _ _ h => h) (Or.inl ⟨by kernel_rfl, ?_⟩) (by assumption) ?_
          rotate_left
          · intro w hSw; (try dsimp only at hSw); go_simp; (try with_reducible rfl)
          try simp only [Act.put, List.setIfInBounds_toArray, List.set_cons_zero, List.set_cons_succ]
          refine wpHT_takeD (i := 3) (d := 36) (v := ?_) (by kernel_rfl) rfl rfl (by decide) (by kernel_rfl) (by kernel_rfl) (fun _ _ _ h => h) (Or.inl ⟨by kernel_rfl, ?_⟩) (by assumption) ?_
          rotate_left
          · intro w hSw; (try dsimp only at hSw); go_simp; (try with_reducible rfl)
          try simp only [Act.put, List.setIfInBounds_toArray, List.set_cons_zero, List.set_cons_succ]
          refine wpHT_takeD (i := 4) (d := 37) (v := ?_) (by kernel_rfl) rfl rfl (by decide) (by kernel_rfl) (by kernel_rfl) (fun _ _ _ h => h) (Or.inl ⟨by kernel_rfl, ?_⟩) (by assumption) ?_
          rotate_left
          · intro w hSw; (try dsimp only at hSw); go_simp; (try with_reducible rfl)
          try simp only [Act.put, List.setIfInBounds_toArray, List.set_cons_zero, List.set_cons_succ]
          refine wpHT_takeD (i := 5) (d := 38) (v := ?_) (by kernel_rfl) rfl rfl (by decide) (by kernel_rfl) (by kernel_rfl) (fun _ _ _ h => h) (Or.inl ⟨by kernel_rfl, ?_⟩) (by assumption) ?_
          rotate_left
          · intro w hSw; (try dsimp only at hSw); go_simp; (try with_reducible rfl)
          try simp only [Act.put, List.setIfInBounds_toArray, List.set_cons_zero, List.set_cons_succ]
          refine wpHT_takeD (i := 6) (d := 39) (v := ?_) (by kernel_rfl) rfl rfl (by decide) (by kernel_rfl) (by kernel_rfl) (fun _ _ _ h => h) (Or.inl ⟨by kernel_rfl, ?_⟩) (by assumption) ?_
          rotate_left
          · intro w hSw; (try dsimp only at hSw); go_simp; (try with_reducible rfl)
          try simp only [Act.put, List.setIfInBounds_toArray, List.set_cons_zero, List.set_cons_succ]
          refine wpHT_done (by kernel_rfl) ?_
          simp only [List.drop_succ_cons, List.drop_zero]
          clear hHeld c0 d1 d2 d3
          refine wpList_mapUpdate_own _ rfl _ _ _ 74 rfl 9 48 strKeyed Tryz.underlying74 RVal w.heap.size L.length (mapG valL L) rfl (ownsMap_block HX.out.own (HWD.out.block w.heap.size HX.out.own.lt)) (by have := HX.out.len; unfold maxLen; omega) _ (VA s.v.k s.v.x s.v.s) (.string y) rfl rfl (keyS y (by have := HL.out y (List.mem_of_getElem? HY.out); unfold maxLen; omega)) (valL s.v) [] (rval_mk s.v) ?_
          intro w4 hown4 hgrow4
          have HNX := Lib.hid (HX.out.next HY.out HFD.out HWD.out hown4 hgrow4)
          clear hown4 hgrow4
          go_wp2_with fail
          go_roundw
          case rel => exact ⟨k + 1, !s.v.may, _, by omega, rfl, by go_num, HNX.out⟩
          case measure => simp [intOf]; omega
    · obtain rfl : k = nk := by omega
      have hks : ks.take k = ks := List.take_of_length_le (by have := HN.out; omega)
      have hX := HX.out
      have hms := hX.miss
      have hbd := hX.bad
      have hgt := hX.get
      rw [hks] at hms hbd hgt
      cases bd with
      | true =>
        have HP : Hid (FdPost w ks sn (.returned (.tuple #[.map none, .int .i64 4])) wr) := ⟨hX.bl, by rw [hms, hbd]; rfl⟩
        clear hX hms hbd hgt hks
        go_wp2_with fail
        refine bodyPost_ret (results_tmp2 rfl _ _ _) rfl ?_
        exact HP.out
      | false =>
        have HP : Hid (FdPost w ks sn (.returned (.tuple #[.map (some w.heap.size), .int .i64 0])) wr) := ⟨hX.bl, by rw [hms, hbd]; exact ⟨_, L, rfl, hX.own, hX.lo, hgt, by have := hX.len; have := HN.out; omega⟩⟩
        clear hX hms hbd hgt hks
        go_wp2_with fail
        refine bodyPost_ret (results_tmp2 rfl _ _ _) rfl ?_
        exact HP.out
end Go.Proofs.YtalpbphfmelhhaaGreatDoor

/-! ### What a run is given up by is caught (prog.Run's deferred closure). -/
namespace Go.Proofs.YtalpbphfmelhhaaGreatDoor
open Go.RowKit Go.Maps Go.Sort
set_option maxRecDepth 100000
attribute [local go_sem] bs_size bs_get bs_toList frombits tobits run_store_float
set_option maxHeartbeats 1000000 in
theorem catch_idle (p q : Addr) (w : World) :
    CallsD Tryz.prog 44 #[.pointer (some p), .pointer (some q)] .returning w fun e u' w' => e = .returned (.tuple #[]) ∧ u' = .returning ∧ w' = w := by
  refine callsD_of_wpS Tryz.func44 rfl fun c₀ cs hu => ?_
  apply wpS_seq
  apply wpS_region
  simp [wpOpsS, go_sem, recoverD, hu, Tryz.ntmps44, Exit.thenS]
  refine wpS_of_wp ?_
  go_wp2_with fail
  cases c₀
  simp_all [bodyPostS, results, Tryz.results44]
set_option maxHeartbeats 1000000 in
theorem catch_stop (p q : Nat) (e : Int) (older : List PanicEntry) (w : World) (x0 : Value) (y : Int) (hp : w.heap[p]? = some (.cells #[x0] 35 (0, 0))) (hq : w.heap[q]? = some (.cells #[.int .i64 y] 28 (0, 0))) (hne : p ≠ q) :
    CallsD Tryz.prog 44 #[.pointer (some ⟨p, 0, none⟩), .pointer (some ⟨q, 0, none⟩)] (.panicking ({ v := .iface 78 (.agg #[.int .i64 e]), recovered := false } :: older)) w fun x u' w' =>
      x = .returned (.tuple #[]) ∧ u' = .panicking ({ v := .iface 78 (.agg #[.int .i64 e]), recovered := true } :: older) ∧ w'.heap[p]? = some (.cells #[.slice none 0 0] 35 (0, 0)) ∧ w'.heap[q]? = some (.cells #[.int .i64 e] 28 (0, 0)) ∧ ∀ B, B ≤ p → B ≤ q → B ≤ w.heap.size → Below B w w' := by
  have hpl := (Array.getElem?_eq_some_iff.1 hp).1
  have hql := (Array.getElem?_eq_some_iff.1 hq).1
  have hb1 : Below w.heap.size w (w.alloc (.cells #[.int .i64 e] 78)) := (Below.refl _ _).alloc (Nat.le_refl _) _
  have p1 := (hb1.block p hpl).trans hp
  have q1 := (hb1.block q hql).trans hq
  have cp := cell_of_row _ p 0 _ _ _ p1
  have fp := frozen_of_row _ p 0 _ _ p1
  have q2 : ((w.alloc (.cells #[.int .i64 e] 78)).setCell ⟨p, 0, none⟩ (.slice none 0 0)).heap[q]? = some (.cells #[.int .i64 y] 28 (0, 0)) := (Below.heap_setCell _ _ _ q (Ne.symm hne)).trans q1
  have cq := cell_of_row _ q 0 _ _ _ q2
  have fq := frozen_of_row _ q 0 _ _ q2
  have p2 : ((w.alloc (.cells #[.int .i64 e] 78)).setCell ⟨p, 0, none⟩ (.slice none 0 0)).heap[p]? = some (.cells #[.slice none 0 0] 35 (0, 0)) := row_set p1 rfl
  have g0 : (w.alloc (.cells #[.int .i64 e] 78)).cell? ⟨w.heap.size, 0, none⟩ = some (.int .i64 e) := cell_of_row _ w.heap.size 0 _ _ _ (heap_alloc_new w _)
  have g1 : ((w.alloc (.cells #[.int .i64 e] 78)).setCell ⟨p, 0, none⟩ (.slice none 0 0)).cell? ⟨w.heap.size, 0, none⟩ = some (.int .i64 e) := (World.cell?_setCell_far _ ⟨p, 0, none⟩ ⟨w.heap.size, 0, none⟩ _ (by show p ≠ w.heap.size; omega)).trans g0
  have HFIN : Hid ((((w.alloc (.cells #[.int .i64 e] 78)).setCell ⟨p, 0, none⟩ (.slice none 0 0)).setCell ⟨q, 0, none⟩ (.int .i64 e)).heap[p]? = some (.cells #[.slice none 0 0] 35 (0, 0)) ∧ (((w.alloc (.cells #[.int .i64 e] 78)).setCell ⟨p, 0, none⟩ (.slice none 0 0)).setCell ⟨q, 0, none⟩ (.int .i64 e)).heap[q]? = some (.cells #[.int .i64 e] 28 (0, 0)) ∧
      ∀ B, B ≤ p → B ≤ q → B ≤ w.heap.size → Below B w (((w.alloc (.cells #[.int .i64 e] 78)).setCell ⟨p, 0, none⟩ (.slice none 0 0)).setCell ⟨q, 0, none⟩ (.int .i64 e))) :=
    ⟨(Below.heap_setCell _ _ _ p hne).trans p2, row_set q2 rfl, fun B h1 h2 h3 => (((hb1.mono h3).setCell (p := ⟨p, 0, none⟩) h1 _).setCell (p := ⟨q, 0, none⟩) h2 _)⟩
  clear hpl hql hb1 p1 q1 p2 q2 hp hq hne
  have hta : ∀ W : World, (Instr.typeAssert (.iface 78 (.agg #[.int .i64 e])) 20 78 true).run Tryz.prog W = .ok (.tuple #[.agg #[.int .i64 e], .bool true]) W := fun W => by kernel_rfl
  refine callsD_of_wpS Tryz.func44 rfl fun c₀ cs hu => ?_
  simp only [Tryz.ntmps44, List.size_toArray, List.length_cons, List.length_nil, Nat.reduceAdd, Nat.reduceSub, Array.replicate_succ, Array.replicate_zero, List.push_toArray, List.append_toArray, List.nil_append, List.cons_append]
  apply wpS_seq
  apply wpS_region
  simp [wpOpsS, go_sem, recoverD, hu, Exit.thenS]
  refine wpS_of_wp ?_
  go_wp2_with fail
  refine wp_region_ht 3 (fun W => W.cell? ⟨w.heap.size, 0, none⟩ = some (.int .i64 e)) (by kernel_rfl) (by kernel_rfl) ?_ (fun hHeld => ?_)
  · exact g0
  try simp only [Act.put, List.setIfInBounds_toArray, List.set_cons_zero, List.set_cons_succ]
  refine wpHT_takeD (i := 0) (d := 11) (v := ?_) (by kernel_rfl) rfl rfl (by decide) (by kernel_rfl) (by kernel_rfl) (fun _ _ _ h => h) (Or.inl ⟨by kernel_rfl, ?_⟩) (by assumption) ?_
  rotate_left
  · intro w hSw; (try dsimp only at hSw); go_simp; (try with_reducible rfl)
  try simp only [Act.put, List.setIfInBounds_toArray, List.set_cons_zero, List.set_cons_succ]
  refine wpHT_takeD (i := 1) (d := 12) (v := ?_) (by kernel_rfl) rfl rfl (by decide) (by kernel_rfl) (by kernel_rfl) (fun _ _ _ h => h) (Or.inl ⟨by kernel_rfl, ?_⟩) (by assumption) ?_
  rotate_left
  · intro w hSw; (try dsimp only at hSw); go_simp; (try with_reducible rfl)
  try simp only [Act.put, List.setIfInBounds_toArray, List.set_cons_zero, List.set_cons_succ]
  refine wpHT_one (i := 2) (by kernel_rfl) rfl (by decide) (fun K hK => ?_)
  go_simp
  refine hK.out _ _ ?_ (fun hHeld => ?_)
  · exact g1
  clear hK K
  try simp only [Act.put, List.setIfInBounds_toArray, List.set_cons_zero, List.set_cons_succ]
  refine wpHT_done (by kernel_rfl) ?_
  simp only [List.drop_succ_cons, List.drop_zero]
  clear hHeld
  go_wp2_with fail
  exact ⟨rfl, _, rfl, .tuple #[], results_none rfl _ _ _, rfl, rfl, HFIN.out.1, HFIN.out.2.1, fun B h1 h2 h3 => (HFIN.out.2.2 B h1 h2 h3).drew⟩
end Go.Proofs.YtalpbphfmelhhaaGreatDoor

/-! ### A step of the run, whatever it is; heights (plain). -/
namespace Go.Proofs.YtalpbphfmelhhaaGreatDoor
open Go.RowKit Go.Maps Go.Sort
set_option maxRecDepth 100000
theorem codeOk_iff {c : Int} (h : codeOk c = true) : 1 ≤ c ∧ c ≤ 15 := by
  unfold codeOk at h
  simp at h
  exact h
theorem take_two {c : Int} (_hc : codeOk c = true) (h1 : c ≠ 1) (h2 : c ≠ 2) (h3 : c ≠ 3) (h4 : c ≠ 4) (h13 : c ≠ 13) (h14 : c ≠ 14) : takeC c = 2 := by
  unfold takeC
  simp [h1, h2, h3, h4, h13, h14]
section
variable {K : Nat → Prop} {B rb m wm : Nat} {mp : List (List UInt8 × Vl)} {r : RS} {sn : List SnP}
theorem do_ok (o : OpP) (_hc : codeOk o.c = true) (_ht : takeC o.c ≤ (r.st.length : Int)) (hn : r.st.length ≤ 800) (hk : o.key.length ≤ maxLen) (hl : r.wr.length < maxLen) (hg : o.c = 1 → (getG o.key mp).getD Vl.nil = seenV sn o.key) (hz : (stepP sn o r).2 = 0) (w : World) (h : RnS K B rb m wm mp r w) :
    Calls Tryz.prog 45 #[.pointer (some ⟨rb, 0, none⟩), .agg #[.int .i64 o.c, .string (bs o.key), .int .i64 o.v.k, .float .f64 (fb o.v.x), .string (bs o.v.s)]] w (OwnP K B rb m wm mp w (stepP sn o r).1) := by
  by_cases h1 : o.c = 1
  · have e : stepP sn o r = (⟨getV sn r o.key :: r.st, r.wr⟩, 0) := by unfold stepP; rw [if_pos h1]
    rw [e, h1]
    exact do_get o.key o.v w h hn hk _ (by unfold getV; rw [hg h1])
  · by_cases h3 : o.c = 3
    · have e : stepP sn o r = (⟨r.st, putG (o.key, Vl.nil) r.wr⟩, 0) := by unfold stepP; rw [if_neg h1, if_pos h3]
      rw [e, h3]
      exact do_drop o.key o.v w h hk hl
    · by_cases h4 : o.c = 4
      · have e : stepP sn o r = (⟨o.v :: r.st, r.wr⟩, 0) := by unfold stepP; rw [if_neg h1, if_neg h3, if_pos h4]
        rw [e, h4]
        exact do_push o.key o.v w h hn
      · cases hst : r.st with
        | nil =>
          have e : (stepP sn o r).2 = 99 := by unfold stepP; rw [if_neg h1, if_neg h3, if_neg h4, hst]
          rw [e] at hz; cases hz
        | cons b t =>
          by_cases h2 : o.c = 2
          · have e : stepP sn o r = (⟨t, putG (o.key, b) r.wr⟩, 0) := by unfold stepP; rw [if_neg h1, if_neg h3, if_neg h4, hst]; simp [h2]
            rw [e, h2]
            exact do_put o.key o.v w h hn hk hl b t hst
          · by_cases h13 : o.c = 13
            · cases hb : holdsB b with
              | true =>
                have e : stepP sn o r = (⟨t, r.wr⟩, 0) := by unfold stepP; rw [if_neg h1, if_neg h3, if_neg h4, hst]; simp [h13, hb]
                rw [e, h13]
                exact do_need o.key o.v w h hn b t hst hb
              | false =>
                have e : (stepP sn o r).2 = 22 := by unfold stepP; rw [if_neg h1, if_neg h3, if_neg h4, hst]; simp [h13, hb]
                rw [e] at hz; cases hz
            · by_cases h14 : o.c = 14
              · have e : stepP sn o r = (⟨b :: b :: t, r.wr⟩, 0) := by unfold stepP; rw [if_neg h1, if_neg h3, if_neg h4, hst]; simp [h14]
                rw [e, h14]
                exact do_dup o.key o.v w h hn b t hst
              · cases t with
                | nil =>
                  have e : (stepP sn o r).2 = 99 := by unfold stepP; rw [if_neg h1, if_neg h3, if_neg h4, hst]; simp [h2, h13, h14]
                  rw [e] at hz; cases hz
                | cons a t =>
                  have e : stepP sn o r = (⟨(twoP o.c a b).1 ++ t, r.wr⟩, (twoP o.c a b).2) := by unfold stepP; rw [if_neg h1, if_neg h3, if_neg h4, hst]; simp [h2, h13, h14]
                  rw [e] at hz ⊢
                  exact do_two o.key o.v w h hn o.c ⟨h1, h2, h3, h4, h13, h14⟩ a b t hst hz
theorem do_no (o : OpP) (hc : codeOk o.c = true) (ht : takeC o.c ≤ (r.st.length : Int)) (hn : r.st.length ≤ 800) (hz : (stepP sn o r).2 ≠ 0) (w : World) (h : RnS K B rb m wm mp r w) :
    Calls Tryz.prog 45 #[.pointer (some ⟨rb, 0, none⟩), .agg #[.int .i64 o.c, .string (bs o.key), .int .i64 o.v.k, .float .f64 (fb o.v.x), .string (bs o.v.s)]] w (fun e w' => e = .panicked (stopI (stepP sn o r).2) ∧ Fw K B w w') := by
  by_cases h1 : o.c = 1
  · have e : stepP sn o r = (⟨getV sn r o.key :: r.st, r.wr⟩, 0) := by unfold stepP; rw [if_pos h1]
    rw [e] at hz; exact absurd rfl hz
  · by_cases h3 : o.c = 3
    · have e : stepP sn o r = (⟨r.st, putG (o.key, Vl.nil) r.wr⟩, 0) := by unfold stepP; rw [if_neg h1, if_pos h3]
      rw [e] at hz; exact absurd rfl hz
    · by_cases h4 : o.c = 4
      · have e : stepP sn o r = (⟨o.v :: r.st, r.wr⟩, 0) := by unfold stepP; rw [if_neg h1, if_neg h3, if_pos h4]
        rw [e] at hz; exact absurd rfl hz
      · cases hst : r.st with
        | nil =>
          exfalso
          rw [hst] at ht
          unfold takeC at ht
          simp [h1, h3, h4] at ht
          split at ht <;> omega
        | cons b t =>
          by_cases h2 : o.c = 2
          · have e : stepP sn o r = (⟨t, putG (o.key, b) r.wr⟩, 0) := by unfold stepP; rw [if_neg h1, if_neg h3, if_neg h4, hst]; simp [h2]
            rw [e] at hz; exact absurd rfl hz
          · by_cases h13 : o.c = 13
            · cases hb : holdsB b with
              | true =>
                have e : stepP sn o r = (⟨t, r.wr⟩, 0) := by unfold stepP; rw [if_neg h1, if_neg h3, if_neg h4, hst]; simp [h13, hb]
                rw [e] at hz; exact absurd rfl hz
              | false =>
                have e : (stepP sn o r).2 = 22 := by unfold stepP; rw [if_neg h1, if_neg h3, if_neg h4, hst]; simp [h13, hb]
                rw [e, h13]
                exact do_fail o.key o.v w h hn b t hst hb
            · by_cases h14 : o.c = 14
              · have e : stepP sn o r = (⟨b :: b :: t, r.wr⟩, 0) := by unfold stepP; rw [if_neg h1, if_neg h3, if_neg h4, hst]; simp [h14]
                rw [e] at hz; exact absurd rfl hz
              · cases t with
                | nil =>
                  exfalso
                  rw [hst] at ht
                  rw [take_two hc h1 h2 h3 h4 h13 h14] at ht
                  simp at ht
                | cons a t =>
                  have e : stepP sn o r = (⟨(twoP o.c a b).1 ++ t, r.wr⟩, (twoP o.c a b).2) := by unfold stepP; rw [if_neg h1, if_neg h3, if_neg h4, hst]; simp [h2, h13, h14]
                  rw [e] at hz ⊢
                  have h23 : (twoP o.c a b).2 = 23 := by
                    unfold twoP at hz ⊢
                    split <;> simp_all
                    split <;> simp_all
                    split <;> simp_all
                    split <;> simp_all
                  show Calls _ _ _ _ (fun e w' => e = .panicked (stopI (twoP o.c a b).2) ∧ Fw K B w w')
                  rw [h23]
                  exact do_twobad o.key o.v w h hn o.c ⟨h1, h2, h3, h4, h13, h14⟩ a b t hst hz
end
end Go.Proofs.YtalpbphfmelhhaaGreatDoor

/-! ### A run's heights, its keys, its errors (plain). -/
namespace Go.Proofs.YtalpbphfmelhhaaGreatDoor
open Go.RowKit Go.Maps Go.Sort
set_option maxRecDepth 100000
variable {sn : List SnP}
theorem two_len {c : Int} {a b : Vl} (hz : (twoP c a b).2 = 0) : ((twoP c a b).1.length : Int) = if c = 15 then 2 else 1 := by
  unfold twoP at hz ⊢
  by_cases h11 : c = 11
  · subst h11; simp
  · by_cases h12 : c = 12
    · subst h12; simp
    · by_cases h15 : c = 15
      · subst h15; simp
      · rw [if_neg h11, if_neg h12, if_neg h15] at hz ⊢
        split at hz
        · cases hz
        · rename_i hk
          rw [if_neg hk, if_neg h15]; rfl
theorem step_height {o : OpP} {r : RS} (hc : codeOk o.c = true) (hz : (stepP sn o r).2 = 0) : ((stepP sn o r).1.st.length : Int) = r.st.length + giveC o.c - takeC o.c := by
  unfold stepP at hz ⊢
  by_cases h1 : o.c = 1
  · rw [if_pos h1]; simp [giveC, takeC, h1]
  · rw [if_neg h1] at hz ⊢
    by_cases h3 : o.c = 3
    · rw [if_pos h3]; simp [giveC, takeC, h3]
    · rw [if_neg h3] at hz ⊢
      by_cases h4 : o.c = 4
      · rw [if_pos h4]; simp [giveC, takeC, h4]
      · rw [if_neg h4] at hz ⊢
        cases hst : r.st with
        | nil => rw [hst] at hz; cases hz
        | cons b t =>
          rw [hst] at hz
          by_cases h2 : o.c = 2
          · simp [giveC, takeC, h2]
          · by_cases h13 : o.c = 13
            · simp only [h13] at hz ⊢
              by_cases hb : holdsB b = true
              · simp [hb, giveC, takeC]
              · simp [hb] at hz
            · by_cases h14 : o.c = 14
              · simp [giveC, takeC, h14]; omega
              · cases t with
                | nil => simp [h2, h13, h14] at hz
                | cons a t =>
                  simp only [if_neg h2, if_neg h13, if_neg h14] at hz ⊢
                  have hl := two_len hz
                  rw [take_two hc h1 h2 h3 h4 h13 h14]
                  simp only [List.length_append, List.length_cons]
                  unfold giveC
                  rw [if_neg (by omega)]
                  by_cases h15 : o.c = 15
                  · rw [if_pos h15] at hl; rw [if_pos (.inr h15)]; omega
                  · rw [if_neg h15] at hl; rw [if_neg (by omega)]; omega
theorem step_wr (o : OpP) (r : RS) : (stepP sn o r).1.wr.length ≤ r.wr.length + 1 := by
  unfold stepP
  split
  · simp
  · split
    · exact putG_length _ _
    · split
      · simp
      · split
        · simp
        · split
          · exact putG_length _ _
          · split
            · split <;> simp
            · split
              · simp
              · split <;> simp
theorem step_keys (o : OpP) (r : RS) : ∀ q ∈ (stepP sn o r).1.wr, q ∈ r.wr ∨ q.1 = o.key := by
  have hput : ∀ v, ∀ q ∈ putG (o.key, v) r.wr, q ∈ r.wr ∨ q.1 = o.key := by
    intro v q hq
    rcases mem_putG.1 hq with e | e
    · exact .inr (by rw [e])
    · exact .inl e.1
  unfold stepP
  split
  · exact fun q hq => .inl hq
  · split
    · exact hput _
    · split
      · exact fun q hq => .inl hq
      · split
        · exact fun q hq => .inl hq
        · split
          · exact hput _
          · split
            · split <;> exact fun q hq => .inl hq
            · split
              · exact fun q hq => .inl hq
              · split <;> exact fun q hq => .inl hq
theorem chk_cons {o : OpP} {p : List OpP} {h : Int} (hz : chkGo (o :: p) h = 0) : codeOk o.c = true ∧ formO o = true ∧ takeC o.c ≤ h ∧ h + giveC o.c - takeC o.c ≤ 16 ∧ chkGo p (h + giveC o.c - takeC o.c) = 0 := by
  unfold chkGo at hz
  split at hz
  · cases hz
  · rename_i h1
    split at hz
    · cases hz
    · rename_i h2
      split at hz
      · cases hz
      · rename_i h3
        split at hz
        · cases hz
        · rename_i h4
          exact ⟨by simpa using h1, by simpa using h2, by omega, by omega, hz⟩
theorem form_get {o : OpP} (hf : formO o = true) (h : o.c = 1) : keyB o.key = true := by
  unfold formO at hf
  simp [namesC, h] at hf
  exact hf.1
theorem mem_namedP {a b : Int} {o : OpP} : ∀ {l : List OpP} (acc : List (List UInt8)), o ∈ l → (o.c = a ∨ o.c = b) → keyB o.key = true → o.key ∈ l.foldl (fun l o => if (o.c = a ∨ o.c = b) ∧ keyB o.key = true then insK o.key l else l) acc
  | x :: l, acc, hm, hc, hk => by
    rw [List.foldl_cons]
    rcases List.mem_cons.1 hm with rfl | hm
    · rw [if_pos ⟨hc, hk⟩]
      have keep : ∀ (l : List OpP) (acc : List (List UInt8)), o.key ∈ acc → o.key ∈ l.foldl (fun l o => if (o.c = a ∨ o.c = b) ∧ keyB o.key = true then insK o.key l else l) acc := by
        intro l
        induction l with
        | nil => intro acc h; exact h
        | cons y l ih =>
          intro acc h
          rw [List.foldl_cons]
          refine ih _ ?_
          split
          · exact mem_insK.2 (.inr h)
          · exact h
      exact keep l _ (mem_insK.2 (.inl rfl))
    · exact mem_namedP _ hm hc hk
theorem mem_reads {o : OpP} {l : List OpP} (hm : o ∈ l) (hc : o.c = 1) (hk : keyB o.key = true) : o.key ∈ readsP l := mem_namedP [] hm (.inl hc) hk
/-- Where the run stands behind k steps. -/
structure RunAt (p : List OpP) (sn : List SnP) (k : Nat) (r : RS) : Prop where
  go : runGo sn p ⟨[], []⟩ = runGo sn (p.drop k) r
  chk : chkGo (p.drop k) (r.st.length : Int) = 0
  hi : r.st.length ≤ 16
  wr : r.wr.length ≤ k
  kl : ∀ q ∈ r.wr, ∃ o ∈ p, q.1 = o.key
theorem RunAt.start {p : List OpP} (h : chkGo p 0 = 0) : RunAt p sn 0 ⟨[], []⟩ := ⟨rfl, h, by simp, by simp, fun q hq => by cases hq⟩
theorem RunAt.next {p : List OpP} {k : Nat} {r : RS} (h : RunAt p sn k r) {o : OpP} (ho : p[k]? = some o) :
    codeOk o.c = true ∧ takeC o.c ≤ (r.st.length : Int) ∧ (o.c = 1 → o.key ∈ readsP p) ∧ ((stepP sn o r).2 = 0 → RunAt p sn (k + 1) (stepP sn o r).1) ∧ ((stepP sn o r).2 ≠ 0 → (runGo sn p ⟨[], []⟩).2 = (stepP sn o r).2) := by
  have hlt := (List.getElem?_eq_some_iff.1 ho).1
  have hd : p.drop k = o :: p.drop (k + 1) := by
    rw [List.drop_eq_getElem_cons hlt]
    congr 1
    exact (List.getElem?_eq_some_iff.1 ho).2
  have hchk := h.chk
  rw [hd] at hchk
  obtain ⟨c1, c2, c3, c4, c5⟩ := chk_cons hchk
  have hgo := h.go
  rw [hd] at hgo
  refine ⟨c1, c3, fun e => mem_reads (List.mem_of_getElem? ho) e (form_get c2 e), fun hz => ?_, fun hz => ?_⟩
  · have hh := step_height (sn := sn) c1 hz
    refine ⟨?_, by rw [hh]; exact c5, by omega, by have := step_wr (sn := sn) o r; have := h.wr; omega, fun q hq => by
      rcases step_keys o r q hq with e | e
      · exact h.kl q e
      · exact ⟨o, List.mem_of_getElem? ho, e⟩⟩
    rw [hgo]
    show runGo sn (o :: p.drop (k + 1)) r = _
    rw [runGo, if_neg (by simpa using hz)]
  · rw [hgo, runGo, if_pos hz]
theorem RunAt.last {p : List OpP} {r : RS} {k : Nat} (h : RunAt p sn k r) (hk : p.length ≤ k) : runGo sn p ⟨[], []⟩ = (r, 0) := by
  rw [h.go, List.drop_of_length_le hk]; rfl
theorem chk_of {p : List OpP} (h : checkP p = 0) : p.length ≤ 40 ∧ chkGo p 0 = 0 := by
  unfold checkP at h
  split at h
  · cases h
  · rename_i h1
    split at h
    · rename_i h2; exact absurd h h2
    · rename_i h2; exact ⟨by omega, by simpa using h2⟩
end Go.Proofs.YtalpbphfmelhhaaGreatDoor
