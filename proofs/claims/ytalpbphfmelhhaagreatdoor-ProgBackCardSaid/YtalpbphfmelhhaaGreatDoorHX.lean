/-
  A write in its place (plain): what raceref9.put does to a sorted list.
  A write in its place (raceref9.put).
  The document's stack in memory: two values swapped in their row (raceref9.Run).
-/
import Derived.Test.YtalpbphfmelhhaaGreatDoorHJ
import Derived.Laws.OwnMore
import Derived.Deep.RegionHeld3
/-! ### A write in its place (plain): what raceref9.put does to a sorted list. -/
namespace Go.Proofs.YtalpbphfmelhhaaGreatDoor
open Go.RowKit Go.Maps Go.Sort
set_option maxRecDepth 100000
variable {α : Type}
/-- put, as a walk over the list: dn tells that the write is out. -/
def ptG (p : List UInt8 × α) : List (List UInt8 × α) → Bool → List (List UInt8 × α)
  | [], dn => if dn then [] else [p]
  | q :: r, dn => if q.1 == p.1 then p :: ptG p r true else if !dn && bB p.1 q.1 then p :: q :: ptG p r true else q :: ptG p r dn
theorem ptG_done (p : List UInt8 × α) : ∀ {l : List (List UInt8 × α)}, (∀ q ∈ l, q.1 ≠ p.1) → ptG p l true = l
  | [], _ => rfl
  | q :: r, h => by
    have hq : (q.1 == p.1) = false := by simpa using h q (List.mem_cons_self ..)
    rw [ptG, hq]
    simp [ptG_done p (fun x hx => h x (List.mem_cons_of_mem _ hx))]
theorem ptG_mem (p : List UInt8 × α) : ∀ {l : List (List UInt8 × α)}, SrtG l → ∀ q, q ∈ ptG p l false ↔ q = p ∨ (q ∈ l ∧ q.1 ≠ p.1)
  | [], _, q => by simp [ptG]
  | x :: r, hs, q => by
    have hx := List.pairwise_cons.1 hs
    by_cases he : x.1 = p.1
    · have hd : ∀ z ∈ r, z.1 ≠ p.1 := fun z hz e => by
        have := hx.1 z hz
        rw [e, ← he, bB_irrefl] at this
        cases this
      have e : ptG p (x :: r) false = p :: r := by rw [ptG, if_pos (by simpa using he), ptG_done p hd]
      rw [e]
      constructor
      · intro h
        rcases List.mem_cons.1 h with h | h
        · exact .inl h
        · exact .inr ⟨List.mem_cons_of_mem _ h, hd q h⟩
      · rintro (h | ⟨h, hn⟩)
        · exact List.mem_cons.2 (.inl h)
        · rcases List.mem_cons.1 h with h | h
          · rw [h] at hn; exact absurd he hn
          · exact List.mem_cons_of_mem _ h
    · by_cases hb : bB p.1 x.1 = true
      · have hd : ∀ z ∈ r, z.1 ≠ p.1 := fun z hz e => by
          have h1 := hx.1 z hz
          rw [e] at h1
          rw [bB_asymm hb] at h1
          cases h1
        have e : ptG p (x :: r) false = p :: x :: r := by rw [ptG, if_neg (by simpa using he), if_pos (by simp [hb]), ptG_done p hd]
        rw [e]
        constructor
        · intro h
          rcases List.mem_cons.1 h with h | h
          · exact .inl h
          · refine .inr ⟨h, ?_⟩
            rcases List.mem_cons.1 h with h | h
            · rw [h]; exact he
            · exact hd q h
        · rintro (h | ⟨h, hn⟩)
          · exact List.mem_cons.2 (.inl h)
          · exact List.mem_cons_of_mem _ h
      · have e : ptG p (x :: r) false = x :: ptG p r false := by rw [ptG, if_neg (by simpa using he), if_neg (by simp [hb])]
        rw [e, List.mem_cons, ptG_mem p hx.2 q]
        constructor
        · rintro (h | h | h)
          · exact .inr ⟨List.mem_cons.2 (.inl h), by rw [h]; exact he⟩
          · exact .inl h
          · exact .inr ⟨List.mem_cons_of_mem _ h.1, h.2⟩
        · rintro (h | ⟨h, hn⟩)
          · exact .inr (.inl h)
          · rcases List.mem_cons.1 h with h | h
            · exact .inl h
            · exact .inr (.inr ⟨h, hn⟩)
theorem ptG_srt (p : List UInt8 × α) : ∀ {l : List (List UInt8 × α)}, SrtG l → SrtG (ptG p l false)
  | [], _ => by simp [ptG, SrtG]
  | x :: r, hs => by
    have hx := List.pairwise_cons.1 hs
    by_cases he : x.1 = p.1
    · have hd : ∀ z ∈ r, z.1 ≠ p.1 := fun z hz e => by
        have := hx.1 z hz
        rw [e, ← he, bB_irrefl] at this
        cases this
      have e : ptG p (x :: r) false = p :: r := by rw [ptG, if_pos (by simpa using he), ptG_done p hd]
      rw [e]
      exact List.pairwise_cons.2 ⟨fun z hz => by rw [← he]; exact hx.1 z hz, hx.2⟩
    · by_cases hb : bB p.1 x.1 = true
      · have hd : ∀ z ∈ r, z.1 ≠ p.1 := fun z hz e => by
          have h1 := hx.1 z hz
          rw [e] at h1
          rw [bB_asymm hb] at h1
          cases h1
        have e : ptG p (x :: r) false = p :: x :: r := by rw [ptG, if_neg (by simpa using he), if_pos (by simp [hb]), ptG_done p hd]
        rw [e]
        refine List.pairwise_cons.2 ⟨fun z hz => ?_, hs⟩
        rcases List.mem_cons.1 hz with h | h
        · rw [h]; exact hb
        · exact bB_trans hb (hx.1 z h)
      · have e : ptG p (x :: r) false = x :: ptG p r false := by rw [ptG, if_neg (by simpa using he), if_neg (by simp [hb])]
        rw [e]
        refine List.pairwise_cons.2 ⟨fun z hz => ?_, ptG_srt p hx.2⟩
        rcases (ptG_mem p hx.2 z).1 hz with h | h
        · rw [h]
          rcases bB_total he with h1 | h1
          · exact h1
          · exact absurd h1 hb
        · exact hx.1 z h.1
theorem ptG_put (p : List UInt8 × α) {l : List (List UInt8 × α)} (h : SrtG l) : ptG p l false = putG p l :=
  SrtG.ext (ptG_srt p h) h.put fun q => by rw [ptG_mem p h, mem_putG]
end Go.Proofs.YtalpbphfmelhhaaGreatDoor

/-! ### A write in its place (raceref9.put). -/
namespace Go.Proofs.YtalpbphfmelhhaaGreatDoor
open Go.RowKit Go.Maps Go.Sort
set_option maxRecDepth 100000
attribute [local go_sem] bs_size bs_get bs_toList frombits tobits run_store_float
theorem RdE.at4 {w : World} {a : Option Addr} {n cap : Nat} {l : List (List UInt8 × Vl)} (h : RdE wrCells 4 w a n cap l) {i : Nat} {q : List UInt8 × Vl} (hi : l[i]? = some q) : ∃ b off, a = some ⟨b, off, none⟩ ∧ w.cell? ⟨b, off + i * 4, none⟩ = some (.string (bs q.1)) ∧
    w.cell? ⟨b, off + i * 4 + 1, none⟩ = some (.int .i64 q.2.k) ∧ w.cell? ⟨b, off + i * 4 + 2, none⟩ = some (.float .f64 (fb q.2.x)) ∧ w.cell? ⟨b, off + i * 4 + 3, none⟩ = some (.string (bs q.2.s)) := by
  obtain ⟨b, off, ha, hc⟩ := h.at wrCells4 hi (by decide)
  exact ⟨b, off, ha, hc 0 _ rfl, hc 1 _ rfl, hc 2 _ rfl, hc 3 _ rfl⟩
theorem ptG_step {p q : List UInt8 × Vl} {l : List (List UInt8 × Vl)} {j : Nat} (h : l[j]? = some q) (dn : Bool) : ptG p (l.drop j) dn = if q.1 == p.1 then p :: ptG p (l.drop (j + 1)) true else if !dn && bB p.1 q.1 then p :: q :: ptG p (l.drop (j + 1)) true else q :: ptG p (l.drop (j + 1)) dn := by
  have hlt := (List.getElem?_eq_some_iff.1 h).1
  have e : l.drop j = q :: l.drop (j + 1) := by
    rw [List.drop_eq_getElem_cons hlt]
    congr 1
    exact (List.getElem?_eq_some_iff.1 h).2
  rw [e, ptG]
abbrev boxW (w : World) (p : List UInt8 × Vl) : World := w.alloc (.cells #[.string (bs p.1), .int .i64 p.2.k, .float .f64 (fb p.2.x), .string (bs p.2.s)] 54)
set_option maxHeartbeats 4000000 in
theorem put9_any (a : Option Addr) (n cap : Nat) (l : List (List UInt8 × Vl)) (p : List UInt8 × Vl) (w : World) (h : RdE wrCells 4 w a n cap l) (hs : SrtG l) (hn : n ≤ 1000) :
    Calls Tryz.prog 49 #[.slice a n cap, .agg #[.string (bs p.1), .int .i64 p.2.k, .float .f64 (fb p.2.x), .string (bs p.2.s)]] w (fun e w' => ∃ v, e = .returned v ∧ OwnW w' w.heap.size v (putG p l) ∧ Below w.heap.size w w') := by
  have hbx : Below w.heap.size w (boxW w p) := (Below.refl _ _).alloc (Nat.le_refl _) _
  have H := Lib.hid (h.below hbx)
  have HN := Lib.hid h.1
  have HS := Lib.hid hs
  have g0 : (boxW w p).cell? ⟨w.heap.size, 0, none⟩ = some (.string (bs p.1)) := cell_of_row _ w.heap.size 0 _ _ _ (heap_alloc_new w _)
  have g1 : (boxW w p).cell? ⟨w.heap.size, 1, none⟩ = some (.int .i64 p.2.k) := cell_of_row _ w.heap.size 1 _ _ _ (heap_alloc_new w _)
  have g2 : (boxW w p).cell? ⟨w.heap.size, 2, none⟩ = some (.float .f64 (fb p.2.x)) := cell_of_row _ w.heap.size 2 _ _ _ (heap_alloc_new w _)
  have g3 : (boxW w p).cell? ⟨w.heap.size, 3, none⟩ = some (.string (bs p.2.s)) := cell_of_row _ w.heap.size 3 _ _ _ (heap_alloc_new w _)
  have HG : Hid ((boxW w p).cell? ⟨w.heap.size, 0, none⟩ = some (.string (bs p.1)) ∧ (boxW w p).cell? ⟨w.heap.size, 1, none⟩ = some (.int .i64 p.2.k) ∧ (boxW w p).cell? ⟨w.heap.size, 2, none⟩ = some (.float .f64 (fb p.2.x)) ∧ (boxW w p).cell? ⟨w.heap.size, 3, none⟩ = some (.string (bs p.2.s))) := ⟨g0, g1, g2, g3⟩
  clear h hs hbx g0 g1 g2 g3
  go_enter Tryz.func49, Tryz.ntmps49
  go_wp2_with fail
  go_loopw [5, 6, 7] (fun v d i wr => ∃ (j : Nat) (dn : Bool) (out : List (List UInt8 × Vl)), j ≤ n ∧ i = .int .i64 (j : Nat) ∧ d = .bool dn ∧ Hid (OwnW wr (w.heap.size + 1) v out) ∧ out.length ≤ j + dn.toNat ∧ Hid (out ++ ptG p (l.drop j) dn = ptG p l false) ∧ Hid (Below (w.heap.size + 1) (boxW w p) wr)) (fun _ _ i _ => n - (intOf i).toNat)
  case atStart => exact ⟨0, false, [], Nat.zero_le _, rfl, rfl, OwnW.nil _ _, Nat.zero_le _, rfl, Below.refl _ _⟩
  case round =>
    obtain ⟨j, dn, out, hj, rfl, rfl, HOW, hol', HPT, HB⟩ := hrel
    have hol : out.length ≤ j + 1 := by have := Bool.toNat_le dn; omega
    have HOL := Lib.hid hol'
    clear hol'
    obtain ⟨av, cv, rfl, _⟩ := Rd.of_own HOW.out
    have hbs : (boxW w p).heap.size = w.heap.size + 1 := World.size_alloc ..
    have hH := HB.out
    rw [← hbs] at hH
    by_cases hlt : j < n
    · obtain ⟨q, hq⟩ : ∃ q, l[j]? = some q := ⟨_, List.getElem?_eq_getElem (by have := HN.out; omega)⟩
      obtain ⟨b, off, rfl, c0, c1, c2, c3⟩ := (H.out.below hH).at4 hq
      have g0 := keep1 HG.out.1 hH
      have g1 := keep1 HG.out.2.1 hH
      have g2 := keep1 HG.out.2.2.1 hH
      have g3 := keep1 HG.out.2.2.2 hH
      have hst := HPT.out
      rw [ptG_step hq] at hst
      have HQ := Lib.hid hq
      have hsz : w.heap.size + 1 ≤ wr.heap.size := by have := hH.size; omega
      clear hq hH hbs
      cases he : (q.1 == p.1) with
      | true =>
        rw [if_pos he] at hst
        have HST := Lib.hid hst
        have HO1 : Hid (World.ownsRow (wr.alloc (.cells #[.string (bs p.1), .int .i64 p.2.k, .float .f64 (fb p.2.x), .string (bs p.2.s)] 54)).drew (w.heap.size + 1) 54 4 (.slice av out.length cv) out.length (flatE wrCells out)) := World.ownsRow.alloc HOW.out _
        have HL1 : Hid (Rd (wr.alloc (.cells #[.string (bs p.1), .int .i64 p.2.k, .float .f64 (fb p.2.x), .string (bs p.2.s)] 54)).drew (some ⟨wr.heap.size, 0, none⟩) 1 1 4 (wrCells p)) := (Rd.lone wr #[.string (bs p.1), .int .i64 p.2.k, .float .f64 (fb p.2.x), .string (bs p.2.s)] 4 rfl 54).below (Below.refl _ _).drew
        clear hst
        go_wp2_with fail
        go_quiet (fail)
        go_wp2_with (at_builtin; refine wpList_app SWr rfl (.tmp 22) (.tmp 24) rfl (w.heap.size + 1) rfl HO1.out rfl HL1.out (by simp [wrCells, Value.oneCell']) (by omega) (by unfold maxLen; omega) (by simp; omega) ?_)
        intro v5 w5 hown5 hb5 _
        have HO5 : Hid (OwnW w5 (w.heap.size + 1) v5 (out ++ [p])) := by
          show World.ownsRow _ _ _ _ _ _ _
          rw [List.length_append, flatE_snoc]
          exact hown5
        have HB5 := Lib.hid (((below_drewN HB.out _).alloc hsz _).trans hb5)
        have HP5 : Hid (out ++ [p] ++ ptG p (l.drop (j + 1)) true = ptG p l false) := by show _ = _; rw [List.append_assoc]; exact HST.out
        clear hown5 hb5
        go_wp2_with fail
        go_roundw
        case rel => exact ⟨j + 1, true, out ++ [p], by omega, by go_num, rfl, HO5.out, by have := HOL.out; simp at this ⊢; omega, HP5.out, HB5.out⟩
        case measure => simp [intOf]; omega
      | false =>
        have hne : p.1 ≠ q.1 := fun e => by rw [e] at he; simp at he
        rw [if_neg (by rw [he]; simp)] at hst
        cases dn with
        | true =>
          simp only [Bool.not_true, Bool.false_and, Bool.false_eq_true, if_false] at hst
          have HST := Lib.hid hst
          have HO1 : Hid (World.ownsRow (wr.alloc (.cells #[.string (bs q.1), .int .i64 q.2.k, .float .f64 (fb q.2.x), .string (bs q.2.s)] 54)) (w.heap.size + 1) 54 4 (.slice av out.length cv) out.length (flatE wrCells out)) := World.ownsRow.alloc HOW.out _
          have HL1 : Hid (Rd (wr.alloc (.cells #[.string (bs q.1), .int .i64 q.2.k, .float .f64 (fb q.2.x), .string (bs q.2.s)] 54)) (some ⟨wr.heap.size, 0, none⟩) 1 1 4 (wrCells q)) := Rd.lone wr #[.string (bs q.1), .int .i64 q.2.k, .float .f64 (fb q.2.x), .string (bs q.2.s)] 4 rfl 54
          clear hst
          go_wp2_with fail
          go_quiet (fail)
          go_wp2_with fail
          go_quiet (fail)
          go_wp2_with (at_builtin; refine wpList_app SWr rfl (.tmp 42) (.tmp 47) rfl (w.heap.size + 1) rfl HO1.out rfl HL1.out (by simp [wrCells, Value.oneCell']) (by omega) (by unfold maxLen; omega) (by simp; omega) ?_)
          intro v5 w5 hown5 hb5 _
          have HO5 : Hid (OwnW w5 (w.heap.size + 1) v5 (out ++ [q])) := by
            show World.ownsRow _ _ _ _ _ _ _
            rw [List.length_append, flatE_snoc]
            exact hown5
          have HB5 := Lib.hid (((below_drewN HB.out _).alloc hsz _).trans hb5)
          have HP5 : Hid (out ++ [q] ++ ptG p (l.drop (j + 1)) true = ptG p l false) := by show _ = _; rw [List.append_assoc]; exact HST.out
          clear hown5 hb5
          go_wp2_with fail
          go_roundw
          case rel => exact ⟨j + 1, true, out ++ [q], by omega, by go_num, rfl, HO5.out, by have := HOL.out; simp at this ⊢; omega, HP5.out, HB5.out⟩
          case measure => simp [intOf]; omega
        | false =>
          cases hg : bB p.1 q.1 with
          | true =>
            simp only [hg, Bool.not_false, Bool.true_and, if_true] at hst
            have hbl : Op.bytesLess q.1 p.1 = false := bl_gt.trans (bB_asymm hg)
            have HST := Lib.hid hst
            have HO1 : Hid (World.ownsRow (wr.alloc (.cells #[.string (bs p.1), .int .i64 p.2.k, .float .f64 (fb p.2.x), .string (bs p.2.s)] 54)) (w.heap.size + 1) 54 4 (.slice av out.length cv) out.length (flatE wrCells out)) := World.ownsRow.alloc HOW.out _
            have HL1 : Hid (Rd (wr.alloc (.cells #[.string (bs p.1), .int .i64 p.2.k, .float .f64 (fb p.2.x), .string (bs p.2.s)] 54)) (some ⟨wr.heap.size, 0, none⟩) 1 1 4 (wrCells p)) := Rd.lone wr #[.string (bs p.1), .int .i64 p.2.k, .float .f64 (fb p.2.x), .string (bs p.2.s)] 4 rfl 54
            clear hst
            go_wp2_with fail
            go_quiet (fail)
            go_wp2_with fail
            go_quiet (fail)
            go_wp2_with (at_builtin; refine wpList_app SWr rfl (.tmp 38) (.tmp 40) rfl (w.heap.size + 1) rfl HO1.out rfl HL1.out (by simp [wrCells, Value.oneCell']) (by omega) (by unfold maxLen; omega) (by simp; omega) ?_)
            intro v4 w4 hown4 hb4 _
            have HB4 := Lib.hid (((below_drewN HB.out _).alloc hsz _).trans hb4)
            have hX : Below (boxW w p).heap.size (boxW w p) w4 := by rw [show (boxW w p).heap.size = w.heap.size + 1 from World.size_alloc ..]; exact HB4.out
            obtain ⟨b4, o4, e4, c0, c1, c2, c3⟩ := (H.out.below hX).at4 HQ.out
            cases e4
            have hsz4 : w.heap.size + 1 ≤ w4.heap.size := Nat.le_trans hsz (by have := hb4.size; simp at this; omega)
            have hown4' : World.ownsRow w4 (w.heap.size + 1) 54 4 v4 (out.length + 1) (flatE wrCells (out ++ [p])) := by rw [flatE_snoc]; exact hown4
            obtain ⟨a4, cp4, rfl, _⟩ := Rd.of_own hown4'
            have HO2 : Hid (World.ownsRow (w4.alloc (.cells #[.string (bs q.1), .int .i64 q.2.k, .float .f64 (fb q.2.x), .string (bs q.2.s)] 54)) (w.heap.size + 1) 54 4 (.slice a4 (out.length + 1) cp4) (out.length + 1) (flatE wrCells (out ++ [p]))) := World.ownsRow.alloc hown4' _
            have HL2 : Hid (Rd (w4.alloc (.cells #[.string (bs q.1), .int .i64 q.2.k, .float .f64 (fb q.2.x), .string (bs q.2.s)] 54)) (some ⟨w4.heap.size, 0, none⟩) 1 1 4 (wrCells q)) := Rd.lone w4 #[.string (bs q.1), .int .i64 q.2.k, .float .f64 (fb q.2.x), .string (bs q.2.s)] 4 rfl 54
            clear hown4 hown4' hb4 hX
            go_wp2_with (at_builtin; refine wpList_app SWr rfl (.tmp 42) (.tmp 47) rfl (w.heap.size + 1) rfl HO2.out rfl HL2.out (by simp [wrCells, Value.oneCell']) (by omega) (by unfold maxLen; omega) (by simp; omega) ?_)
            intro v5 w5 hown5 hb5 _
            have HO5 : Hid (OwnW w5 (w.heap.size + 1) v5 (out ++ [p] ++ [q])) := by
              show World.ownsRow _ _ _ _ _ _ _
              rw [List.length_append, List.length_append, flatE_snoc]
              exact hown5
            have HB5 := Lib.hid ((HB4.out.alloc hsz4 _).trans hb5)
            have HP5 : Hid (out ++ [p] ++ [q] ++ ptG p (l.drop (j + 1)) true = ptG p l false) := by show _ = _; rw [List.append_assoc, List.append_assoc]; exact HST.out
            clear hown5 hb5
            go_wp2_with fail
            go_roundw
            case rel => exact ⟨j + 1, true, out ++ [p] ++ [q], by omega, by go_num, rfl, HO5.out, by have := HOL.out; simp at this ⊢; omega, HP5.out, HB5.out⟩
            case measure => simp [intOf]; omega
          | false =>
            simp only [hg, Bool.not_false, Bool.true_and, Bool.false_eq_true, if_false] at hst
            have hbl : Op.bytesLess q.1 p.1 = true := bl_gt.trans ((bB_total hne).resolve_left (by rw [hg]; simp))
            have HST := Lib.hid hst
            have HO1 : Hid (World.ownsRow (wr.alloc (.cells #[.string (bs q.1), .int .i64 q.2.k, .float .f64 (fb q.2.x), .string (bs q.2.s)] 54)) (w.heap.size + 1) 54 4 (.slice av out.length cv) out.length (flatE wrCells out)) := World.ownsRow.alloc HOW.out _
            have HL1 : Hid (Rd (wr.alloc (.cells #[.string (bs q.1), .int .i64 q.2.k, .float .f64 (fb q.2.x), .string (bs q.2.s)] 54)) (some ⟨wr.heap.size, 0, none⟩) 1 1 4 (wrCells q)) := Rd.lone wr #[.string (bs q.1), .int .i64 q.2.k, .float .f64 (fb q.2.x), .string (bs q.2.s)] 4 rfl 54
            clear hst
            go_wp2_with fail
            go_quiet (fail)
            go_wp2_with fail
            go_quiet (fail)
            go_wp2_with (at_builtin; refine wpList_app SWr rfl (.tmp 42) (.tmp 47) rfl (w.heap.size + 1) rfl HO1.out rfl HL1.out (by simp [wrCells, Value.oneCell']) (by omega) (by unfold maxLen; omega) (by simp; omega) ?_)
            intro v5 w5 hown5 hb5 _
            have HO5 : Hid (OwnW w5 (w.heap.size + 1) v5 (out ++ [q])) := by
              show World.ownsRow _ _ _ _ _ _ _
              rw [List.length_append, flatE_snoc]
              exact hown5
            have HB5 := Lib.hid (((below_drewN HB.out _).alloc hsz _).trans hb5)
            have HP5 : Hid (out ++ [q] ++ ptG p (l.drop (j + 1)) false = ptG p l false) := by show _ = _; rw [List.append_assoc]; exact HST.out
            clear hown5 hb5
            go_wp2_with fail
            go_roundw
            case rel => exact ⟨j + 1, false, out ++ [q], by omega, by go_num, rfl, HO5.out, by have := HOL.out; simp at this ⊢; omega, HP5.out, HB5.out⟩
            case measure => simp [intOf]; omega
    · obtain rfl : j = n := by omega
      have hst := HPT.out
      rw [List.drop_of_length_le (by have := HN.out; omega)] at hst
      cases dn with
      | true =>
        have HFIN : Hid (∃ v, Ending.returned (.slice av out.length cv) = .returned v ∧ OwnW wr w.heap.size v (putG p l) ∧ Below w.heap.size w wr) := by
          refine ⟨_, rfl, ?_, ((Below.refl _ _).alloc (Nat.le_refl _) _).trans (HB.out.mono (Nat.le_succ _))⟩
          rw [← ptG_put p HS.out, ← hst]
          simp [ptG]
          exact ownsRow_mono HOW.out (Nat.le_succ _)
        clear hst
        go_wp2_with fail
        go_ret
        exact HFIN.out
      | false =>
        have hbs : (boxW w p).heap.size = w.heap.size + 1 := World.size_alloc ..
        have hH := HB.out
        rw [← hbs] at hH
        have g0 := keep1 HG.out.1 hH
        have g1 := keep1 HG.out.2.1 hH
        have g2 := keep1 HG.out.2.2.1 hH
        have g3 := keep1 HG.out.2.2.2 hH
        have hsz : w.heap.size + 1 ≤ wr.heap.size := by have := hH.size; omega
        have HO1 : Hid (World.ownsRow (wr.alloc (.cells #[.string (bs p.1), .int .i64 p.2.k, .float .f64 (fb p.2.x), .string (bs p.2.s)] 54)) (w.heap.size + 1) 54 4 (.slice av out.length cv) out.length (flatE wrCells out)) := World.ownsRow.alloc HOW.out _
        have HL1 : Hid (Rd (wr.alloc (.cells #[.string (bs p.1), .int .i64 p.2.k, .float .f64 (fb p.2.x), .string (bs p.2.s)] 54)) (some ⟨wr.heap.size, 0, none⟩) 1 1 4 (wrCells p)) := Rd.lone wr #[.string (bs p.1), .int .i64 p.2.k, .float .f64 (fb p.2.x), .string (bs p.2.s)] 4 rfl 54
        have HST := Lib.hid hst
        clear hst hH hbs
        go_wp2_with (at_builtin; refine wpList_app SWr rfl (.tmp 51) (.tmp 53) rfl (w.heap.size + 1) rfl HO1.out rfl HL1.out (by simp [wrCells, Value.oneCell']) (by omega) (by unfold maxLen; omega) (by simp; omega) ?_)
        intro v5 w5 hown5 hb5 _
        have HFIN : Hid (∃ v, Ending.returned v5 = .returned v ∧ OwnW w5 w.heap.size v (putG p l) ∧ Below w.heap.size w w5) := by
          refine ⟨_, rfl, ?_, (((Below.refl _ _).alloc (Nat.le_refl _) _).trans (HB.out.mono (Nat.le_succ _))).trans ((((Below.refl _ wr).alloc hsz _).trans hb5).mono (Nat.le_succ _))⟩
          rw [← ptG_put p HS.out, ← HST.out]
          show World.ownsRow _ _ _ _ _ _ _
          simp only [ptG, Bool.false_eq_true, if_false]
          rw [List.length_append, flatE_snoc]
          exact ownsRow_mono hown5 (Nat.le_succ _)
        clear hown5 hb5
        go_wp2_with fail
        go_ret
        exact HFIN.out
end Go.Proofs.YtalpbphfmelhhaaGreatDoor

/-! ### The document's stack in memory: two values swapped in their row (raceref9.Run). -/
namespace Go.Proofs.YtalpbphfmelhhaaGreatDoor
open Go.RowKit Go.Maps Go.Sort
set_option maxRecDepth 100000
def OwnVl (w : World) (base : Nat) (v : Value) (l : List Vl) : Prop := w.ownsRow base 48 3 v l.length (flatE vlCells l)
theorem OwnVl.nil (w : World) (base : Nat) : OwnVl w base (.slice none 0 0) [] := World.ownsRow_nil _ _ _ _
/-- Three cells stored. -/
theorem own_put3 {w : World} {base g n cap : Nat} {xs : List Value} (h : w.ownsRow base 48 3 (.slice (some ⟨g, 0, none⟩) n cap) n xs) (o : Nat) (x y z : Value) :
    (((w.setCell ⟨g, o, none⟩ x).setCell ⟨g, o + 1, none⟩ y).setCell ⟨g, o + 2, none⟩ z).ownsRow base 48 3 (.slice (some ⟨g, 0, none⟩) n cap) n (((xs.set o x).set (o + 1) y).set (o + 2) z) ∧ w.grownBy (((w.setCell ⟨g, o, none⟩ x).setCell ⟨g, o + 1, none⟩ y).setCell ⟨g, o + 2, none⟩ z) (some g) := by
  obtain ⟨h1, g1⟩ := h.stored o x
  obtain ⟨h2, g2⟩ := h1.stored (o + 1) y
  obtain ⟨h3, g3⟩ := h2.stored (o + 2) z
  refine ⟨h3, ⟨rfl, rfl, rfl, by simp [World.setCell], fun k hk hne => ?_⟩⟩
  have hk1 : k < (w.setCell ⟨g, o, none⟩ x).heap.size := by simpa [World.setCell] using hk
  have hk2 : k < ((w.setCell ⟨g, o, none⟩ x).setCell ⟨g, o + 1, none⟩ y).heap.size := by simpa [World.setCell] using hk
  exact (g3.block k hk2 hne).trans ((g2.block k hk1 hne).trans (g1.block k hk hne))
theorem flat_set3 (v : Vl) : ∀ (l : List Vl) (j : Nat), (((flatE vlCells l).set (j * 3) (.int .i64 v.k)).set (j * 3 + 1) (.float .f64 (fb v.x))).set (j * 3 + 2) (.string (bs v.s)) = flatE vlCells (l.set j v)
  | [], j => by simp [flatE]
  | y :: r, 0 => by simp [flatE, vlCells]
  | y :: r, j + 1 => by
    have e : (j + 1) * 3 = j * 3 + 3 := by omega
    have h := flat_set3 v r j
    show ((((vlCells y ++ flatE vlCells r).set ((j + 1) * 3) _).set ((j + 1) * 3 + 1) _).set ((j + 1) * 3 + 2) _) = vlCells y ++ flatE vlCells (r.set j v)
    rw [e, ← h]
    simp [vlCells]
/-- The document's run, while it goes. -/
structure S9 (B : Nat) (r : RS) (vo vs : Value) (w0 W : World) : Prop where
  st : OwnVl W B vs r.st.reverse
  out : OwnW W B vo r.wr
  srt : SrtG r.wr
  bl : Below B w0 W
  sz : B ≤ W.heap.size
section
variable {B : Nat} {r : RS} {vo vs : Value} {w0 W W' : World}
theorem S9.below (h : S9 B r vo vs w0 W) (hb : Below W.heap.size W W') : S9 B r vo vs w0 W' :=
  ⟨ownsRow_keep h.st fun k hk => hb.block k (World.ownsRow.lt h.st k hk).2, ownsRow_keep h.out fun k hk => hb.block k (World.ownsRow.lt h.out k hk).2, h.srt, h.bl.trans (hb.mono h.sz), Nat.le_trans h.sz hb.size⟩
theorem S9.apart (h : S9 B r vo vs w0 W) : ∀ k, vo.ownBlock = some k → vs.ownBlock ≠ some k := fun k hk e => by
  obtain ⟨c1, h1⟩ := own_isRow h.out hk
  obtain ⟨c2, h2⟩ := own_isRow h.st e
  rw [h1] at h2
  simp at h2
/-- The stack turned. -/
theorem S9.turn (h : S9 B r vo vs w0 W) {st' : List Vl} {vs' : Value} (ho : OwnVl W' B vs' st'.reverse) (hg : W.grownBy W' vs.ownBlock) : S9 B ⟨st', r.wr⟩ vo vs' w0 W' :=
  ⟨ho, ownsRow_keep h.out fun k hk => hg.block k (World.ownsRow.lt h.out k hk).2 (fun e => h.apart k hk e.symm), h.srt, h.bl.trans ((Below.refl B W).grown hg h.sz fun k hk => (World.ownsRow.lt h.st k hk).1), Nat.le_trans h.sz hg.size⟩
/-- A value more. -/
theorem S9.push (h : S9 B r vo vs w0 W) (x : Vl) {v5 : Value} (ho : W'.ownsRow B 48 3 v5 (r.st.reverse.length + 1) (flatE vlCells r.st.reverse ++ vlCells x)) (hg : W.grownBy W' vs.ownBlock) : S9 B ⟨x :: r.st, r.wr⟩ vo v5 w0 W' := by
  refine h.turn ?_ hg
  show World.ownsRow _ _ _ _ _ _ _
  rw [List.reverse_cons, List.length_append, flatE_snoc]
  exact ho
theorem S9.put (h : S9 B r vo vs w0 W) (p : List UInt8 × Vl) {v' : Value} (ho : OwnW W' W.heap.size v' (putG p r.wr)) (hb : Below W.heap.size W W') : S9 B ⟨r.st, putG p r.wr⟩ v' vs w0 W' := by
  have h2 := h.below hb
  exact ⟨h2.st, ownsRow_mono ho h.sz, h.srt.put, h2.bl, h2.sz⟩
theorem S9.wr (h : S9 B r vo vs w0 W) : ∃ a cap, vo = .slice a r.wr.length cap ∧ RdE wrCells 4 W a r.wr.length cap r.wr := by
  obtain ⟨a, cap, hv, hr⟩ := Rd.of_own h.out
  exact ⟨a, cap, hv, rfl, hr⟩
/-- The stack's slice, its top, what is beneath. -/
theorem S9.top (h : S9 B r vo vs w0 W) {b : Vl} {t : List Vl} (hr : r.st = b :: t) : ∃ g cap, vs = .slice (some ⟨g, 0, none⟩) (t.length + 1) cap ∧ t.length + 1 ≤ cap ∧ cap ≤ maxLen ∧
    W.cell? ⟨g, t.length * 3, none⟩ = some (.int .i64 b.k) ∧ W.cell? ⟨g, t.length * 3 + 1, none⟩ = some (.float .f64 (fb b.x)) ∧ W.cell? ⟨g, t.length * 3 + 2, none⟩ = some (.string (bs b.s)) ∧
    S9 B ⟨t, r.wr⟩ vo (.slice (some ⟨g, 0, none⟩) t.length cap) w0 W := by
  have hl : r.st.reverse.length = t.length + 1 := by rw [hr]; simp
  obtain ⟨g, cap, hv, hc, hm, ho⟩ := own_cut h.st t.length (by omega) (by omega)
  rw [hl] at hv hc
  obtain ⟨ad, cap', hv', hrd⟩ := Rd.of_own h.st
  have hrE : RdE vlCells 3 W ad r.st.reverse.length cap' r.st.reverse := ⟨rfl, hrd⟩
  obtain ⟨b', off, hb, hcl⟩ := hrE.at vlCells3 (i := t.length) (x := b) (by rw [hr]; simp) (by decide)
  rw [hv] at hv'
  injection hv' with i1 i2 i3
  rw [← i1] at hb
  injection hb with hb
  injection hb with i4 i5
  subst i4 i5
  have d0 := hcl 0 _ rfl
  have d1 := hcl 1 _ rfl
  have d2 := hcl 2 _ rfl
  simp only [Nat.zero_add, Nat.add_zero] at d0 d1 d2
  refine ⟨g, cap, hv, hc, hm, d0, d1, d2, ?_, h.out, h.srt, h.bl, h.sz⟩
  show World.ownsRow _ _ _ _ _ _ _
  have e : flatE vlCells t.reverse = (flatE vlCells r.st.reverse).take (t.length * 3) := by
    rw [flatE_take vlCells3, hr, List.reverse_cons, List.take_left' (by simp)]
  rw [List.length_reverse, e]
  exact ho
/-- Two values. -/
theorem S9.top2 (h : S9 B r vo vs w0 W) {a b : Vl} {t : List Vl} (hr : r.st = b :: a :: t) : ∃ g cap, vs = .slice (some ⟨g, 0, none⟩) (t.length + 2) cap ∧ t.length + 2 ≤ cap ∧ cap ≤ maxLen ∧
    W.cell? ⟨g, (t.length + 1) * 3, none⟩ = some (.int .i64 b.k) ∧ W.cell? ⟨g, (t.length + 1) * 3 + 1, none⟩ = some (.float .f64 (fb b.x)) ∧ W.cell? ⟨g, (t.length + 1) * 3 + 2, none⟩ = some (.string (bs b.s)) ∧
    W.cell? ⟨g, t.length * 3, none⟩ = some (.int .i64 a.k) ∧ W.cell? ⟨g, t.length * 3 + 1, none⟩ = some (.float .f64 (fb a.x)) ∧ W.cell? ⟨g, t.length * 3 + 2, none⟩ = some (.string (bs a.s)) ∧
    S9 B ⟨t, r.wr⟩ vo (.slice (some ⟨g, 0, none⟩) t.length cap) w0 W ∧ W.ownsRow B 48 3 (.slice (some ⟨g, 0, none⟩) (t.length + 2) cap) (t.length + 2) (flatE vlCells (b :: a :: t).reverse) := by
  obtain ⟨g, cap, hv, hc, hm, c0, c1, c2, h1⟩ := h.top hr
  obtain ⟨g', cap', hv', hc', hm', d0, d1, d2, h2⟩ := h1.top (b := a) (t := t) rfl
  injection hv' with i1 i2 i3
  injection i1 with i1
  injection i1 with i4 i5
  subst i3 i4
  refine ⟨g, cap, hv, hc, hm, c0, c1, c2, d0, d1, d2, h2, ?_⟩
  have ho := h.st
  unfold OwnVl at ho
  rw [hv, hr] at ho
  have e : (b :: a :: t).reverse.length = t.length + 2 := by simp
  rw [e] at ho
  exact ho
/-- Two values swapped. -/
theorem S9.swap (h : S9 B r vo vs w0 W) {a b : Vl} {t : List Vl} {g cap : Nat} (hr : r.st = b :: a :: t) (hv : vs = .slice (some ⟨g, 0, none⟩) (t.length + 2) cap) :
    S9 B ⟨a :: b :: t, r.wr⟩ vo vs w0 (((((((W.setCell ⟨g, (t.length + 1) * 3, none⟩ (.int .i64 a.k)).setCell ⟨g, (t.length + 1) * 3 + 1, none⟩ (.float .f64 (fb a.x))).setCell ⟨g, (t.length + 1) * 3 + 2, none⟩ (.string (bs a.s))).setCell ⟨g, t.length * 3, none⟩ (.int .i64 b.k)).setCell ⟨g, t.length * 3 + 1, none⟩ (.float .f64 (fb b.x))).setCell ⟨g, t.length * 3 + 2, none⟩ (.string (bs b.s)))) := by
  have ho := h.st
  unfold OwnVl at ho
  have e : r.st.reverse.length = t.length + 2 := by rw [hr]; simp
  rw [hv, e] at ho
  obtain ⟨h1, g1⟩ := own_put3 ho ((t.length + 1) * 3) (.int .i64 a.k) (.float .f64 (fb a.x)) (.string (bs a.s))
  rw [flat_set3] at h1
  obtain ⟨h2, g2⟩ := own_put3 h1 (t.length * 3) (.int .i64 b.k) (.float .f64 (fb b.x)) (.string (bs b.s))
  rw [flat_set3] at h2
  have el : (r.st.reverse.set (t.length + 1) a).set t.length b = (a :: b :: t).reverse := by
    rw [hr]
    simp
  rw [el] at h2
  refine h.turn (st' := a :: b :: t) ?_ ?_
  · show World.ownsRow _ _ _ _ _ _ _
    have e2 : (a :: b :: t).reverse.length = t.length + 2 := by simp
    rw [hv, e2]
    exact h2
  · rw [hv]
    show W.grownBy _ (some g)
    exact ⟨g2.os.trans g1.os, g2.tape.trans g1.tape, g2.output.trans g1.output, Nat.le_trans g1.size g2.size, fun k hk hne => (g2.block k (Nat.lt_of_lt_of_le hk g1.size) hne).trans (g1.block k hk hne)⟩
end
theorem badB_of {sn : List SnP} {ks : List (List UInt8)} {k : List UInt8} (hk : k ∈ ks) (h : (seenV sn k).may = false) : badB sn ks = true := by
  unfold badB
  exact List.any_eq_true.2 ⟨k, hk, by rw [h]; rfl⟩
theorem seenV_of {sn : List SnP} {k : List UInt8} {s : SnP} (h : sn.find? (fun s => s.key == k) = some s) : seenV sn k = s.v := by
  unfold seenV; rw [h]
theorem hold_idx {sn : List SnP} {k : List UInt8} (h : (sn.find? (fun s => s.key == k)).isNone = false) : ∃ i s, sn[i]? = some s ∧ sn.find? (fun s => s.key == k) = some s ∧ idxF k sn 0 = ((i : Nat) : Int) := by
  rcases idxF_spec k sn 0 with ⟨h1, _⟩ | ⟨i, s, h1, h2, h3⟩
  · rw [h1] at h; cases h
  · exact ⟨i, s, h1, h2, by rw [h3]; congr 1; omega⟩
/-- The last write of a key among a beginning of the writes. -/
theorem getG_snoc {l : List (List UInt8 × Vl)} (hs : SrtG l) {j : Nat} {q : List UInt8 × Vl} (hq : l[j]? = some q) (k : List UInt8) (d : Vl) : (getG k (l.take (j + 1))).getD d = if q.1 == k then q.2 else (getG k (l.take j)).getD d := by
  have e : l.take (j + 1) = l.take j ++ [q] := by rw [List.take_add_one, hq]; rfl
  have hs1 : SrtG (l.take (j + 1)) := List.Pairwise.sublist (List.take_sublist _ _) hs
  cases hk : (q.1 == k) with
  | true =>
    have hk' : q.1 = k := by simpa using hk
    rw [if_pos rfl, getG_mem hs1 (n := k) (a := q.2) (by rw [e, ← hk']; simp)]; rfl
  | false =>
    rw [if_neg (by simp), e]
    unfold getG
    rw [List.find?_append]
    cases (l.take j).find? fun p => p.1 == k with
    | some x => rfl
    | none => simp [hk]
/-! ### steps, code by code -/
section
variable {sn : List SnP} {o : OpP} {r : RS} {a b : Vl} {t : List Vl}
theorem stp1 (h : o.c = 1) : stepP sn o r = (⟨getV sn r o.key :: r.st, r.wr⟩, 0) := by unfold stepP; rw [if_pos h]
theorem stp3 (h : o.c = 3) : stepP sn o r = (⟨r.st, putG (o.key, Vl.nil) r.wr⟩, 0) := by unfold stepP; rw [if_neg (by omega), if_pos h]
theorem stp4 (h : o.c = 4) : stepP sn o r = (⟨o.v :: r.st, r.wr⟩, 0) := by unfold stepP; rw [if_neg (by omega), if_neg (by omega), if_pos h]
theorem stp2 (h : o.c = 2) (hr : r.st = b :: t) : stepP sn o r = (⟨t, putG (o.key, b) r.wr⟩, 0) := by unfold stepP; rw [if_neg (by omega), if_neg (by omega), if_neg (by omega), hr]; dsimp only; rw [if_pos h]
theorem stp13 (h : o.c = 13) (hr : r.st = b :: t) : stepP sn o r = (⟨t, r.wr⟩, if holdsB b then 0 else 22) := by
  unfold stepP; rw [if_neg (by omega), if_neg (by omega), if_neg (by omega), hr]; dsimp only; rw [if_neg (by omega), if_pos h]; split <;> rfl
theorem stp14 (h : o.c = 14) (hr : r.st = b :: t) : stepP sn o r = (⟨b :: b :: t, r.wr⟩, 0) := by unfold stepP; rw [if_neg (by omega), if_neg (by omega), if_neg (by omega), hr]; dsimp only; rw [if_neg (by omega), if_neg (by omega), if_pos h]
theorem stpT (h5 : 5 ≤ o.c) (h12 : o.c ≤ 12 ∨ o.c = 15) (hr : r.st = b :: a :: t) : stepP sn o r = (⟨(twoP o.c a b).1 ++ t, r.wr⟩, (twoP o.c a b).2) := by
  unfold stepP; rw [if_neg (by omega), if_neg (by omega), if_neg (by omega), hr]; dsimp only; rw [if_neg (by omega), if_neg (by omega), if_neg (by omega)]
theorem stp15 (h : o.c = 15) (hr : r.st = b :: a :: t) : stepP sn o r = (⟨a :: b :: t, r.wr⟩, 0) := by
  rw [stpT (by omega) (.inr h) hr, h]; rfl
theorem st_one {l : List Vl} (h : 1 ≤ (l.length : Int)) : ∃ b t, l = b :: t := by
  cases l with
  | nil => simp at h
  | cons b t => exact ⟨b, t, rfl⟩
theorem st_two {l : List Vl} (h : 2 ≤ (l.length : Int)) : ∃ b a t, l = b :: a :: t := by
  match l, h with
  | [], h => simp at h
  | [x], h => simp at h
  | b :: a :: t, _ => exact ⟨b, a, t, rfl⟩
end
/-! ### three cells stored in a row that is owned -/
theorem own_there {w : World} {base g n cap size : Nat} {e : TypeId} {xs : List Value} (h : w.ownsRow base e size (.slice (some ⟨g, 0, none⟩) n cap) n xs) {o m : Nat} (hm : o + m ≤ n * size) : w.there g o m := by
  obtain ⟨h1, h2⟩ := h
  rcases h2 with ⟨h2, _⟩ | ⟨g', cap', cur, hv, hb, hg, hnc, hcm, hcs, ht⟩
  · cases h2
  · injection hv with i1 i2 i3
    injection i1 with i1
    injection i1 with i1 _
    subst i1
    intro j hj
    refine ⟨?_, frozen_of_row _ g (o + j) _ _ hg⟩
    rw [cell_of_row w g (o + j) cur e (0, 0) hg]
    have hl : o + j < cur.size := by rw [hcs]; exact Nat.lt_of_lt_of_le (by omega) (Nat.mul_le_mul_right size hnc)
    simp [hl]
theorem there_row {w : World} {b n : Nat} {c : Array Value} {t : TypeId} (h : w.heap[b]? = some (.cells c t (0, 0))) (hn : c.size = n) : w.there b 0 n := fun j hj => by
  rw [Nat.zero_add]
  refine ⟨?_, frozen_of_row _ b j c t h⟩
  rw [cell_of_row _ b j c t (0, 0) h]
  simp; omega
theorem st3o {X : World} {b o : Nat} (h : X.there b o 3) (x y : Value) : ∃ u0 u1 u2, X.cell? ⟨b, o, none⟩ = some u0 ∧ X.frozen? ⟨b, o, none⟩ = false ∧ (X.setCell ⟨b, o, none⟩ x).cell? ⟨b, o + 1, none⟩ = some u1 ∧ (X.setCell ⟨b, o, none⟩ x).frozen? ⟨b, o + 1, none⟩ = false ∧
    ((X.setCell ⟨b, o, none⟩ x).setCell ⟨b, o + 1, none⟩ y).cell? ⟨b, o + 2, none⟩ = some u2 ∧ ((X.setCell ⟨b, o, none⟩ x).setCell ⟨b, o + 1, none⟩ y).frozen? ⟨b, o + 2, none⟩ = false := by
  obtain ⟨u0, h0⟩ := Option.isSome_iff_exists.1 (h 0 (by decide)).1
  obtain ⟨u1, h1⟩ := Option.isSome_iff_exists.1 (h 1 (by decide)).1
  obtain ⟨u2, h2⟩ := Option.isSome_iff_exists.1 (h 2 (by decide)).1
  have f0 := (h 0 (by decide)).2
  have f1 := (h 1 (by decide)).2
  have f2 := (h 2 (by decide)).2
  simp only [Nat.add_zero] at h0 f0
  refine ⟨u0, u1, u2, h0, f0, ?_, ?_, ?_, ?_⟩
  · exact (World.cell?_setCells_out b [x] o X ⟨b, o + 1, none⟩ (by simp)).trans h1
  · exact (World.frozen?_setCells b [x] o X ⟨b, o + 1, none⟩).trans f1
  · exact (World.cell?_setCells_out b [x, y] o X ⟨b, o + 2, none⟩ (by simp)).trans h2
  · exact (World.frozen?_setCells b [x, y] o X ⟨b, o + 2, none⟩).trans f2
section
variable {sn : List SnP}
/-- What a run needs to begin. -/
structure Starts (p : List OpP) (sn : List SnP) : Prop where
  c : checkP p = 0
  m : missB sn (readsP p) = false
  b : badB sn (readsP p) = false
theorem Starts.e {p : List OpP} (h : Starts p sn) : runE p sn = (runGo sn p ⟨[], []⟩).2 := by
  unfold runE
  rw [if_neg (by rw [h.c]; simp), h.m, h.b]; rfl
theorem Starts.w {p : List OpP} (h : Starts p sn) : runW p sn = if (runGo sn p ⟨[], []⟩).2 ≠ 0 then [] else (runGo sn p ⟨[], []⟩).1.wr := by
  unfold runW
  rw [h.e]
theorem missB_no {ks : List (List UInt8)} {k : List UInt8} (h : missB sn ks = false) (hk : k ∈ ks) : (sn.find? (fun s => s.key == k)).isNone = false := by
  unfold missB at h
  rw [List.any_eq_false] at h
  simpa using h k hk
/-- A value in its own block, behind a world. -/
def V4 (X : World) (v : Vl) (W : World) : Prop := W.heap[X.heap.size]? = some (.cells #[.int .i64 v.k, .float .f64 (fb v.x), .string (bs v.s)] 48 (0, 0)) ∧ Below X.heap.size X W
end
theorem wpAnyH_takeD9 {P : Program} {ops : Array Oper} {Q : Exit → Act → World → Prop} {md : Region.Mode} {S : World → Prop} {i d : Nat} {oi : Oper} {v : Value} {fuel : Nat} {listed : Array Bool} {a : Act} {w : World} (hi : ops[i]? = some oi) (hd : oi.dst = some d) (hs : Region.noSelect ops = true) (hf : Region.free md ops listed i = true) (hr : (Region.ready md ops listed).contains i = true) (hQ : ∀ c a w, Q (.panic c) (a.put oi.dst v) w → Q (.panic c) a w) (hy : YieldsIf P ops S oi v a) (hS : S w) (h : wpAnyH P md ops Q S fuel (listed.setIfInBounds i true) (a.put (some d) v) w) : wpAnyH P md ops Q S (fuel + 1) listed a w :=
  wpAnyH_take hi hs hf hr hQ hy hS (by rw [hd]; exact h)
end Go.Proofs.YtalpbphfmelhhaaGreatDoor
