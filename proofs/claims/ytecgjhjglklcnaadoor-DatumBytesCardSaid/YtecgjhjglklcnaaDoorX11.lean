/-
  The walks of the reader: NewReader, Float, Text.
-/
import Derived.Test.YtecgjhjglklcnaaDoorX10
namespace Go.Proofs.YtecgjhjglklcnaaDoor
set_option maxRecDepth 100000
open Go.RowKit Go.Shelf Go.Sort
attribute [local go_sem] bs_size bs_get bs_toList frombits tobits run_store_float
/-- A new reader. -/
def NewPost (w : World) (l : List UInt8) (e : Ending) (w' : World) : Prop :=
  ∃ (p : Nat) (a : Option Addr) (cap : Nat), e = .returned (.pointer (some ⟨p, 0, none⟩)) ∧ Rr w' p a cap l 0 0 0 ∧ Below w.heap.size w w' ∧ w.heap.size ≤ p ∧ (∀ b, blk a = some b → w.heap.size ≤ b)
theorem rr_new (w : World) (a : Option Addr) (cap : Nat) (l : List UInt8) (t : TypeId) (h : Rd8 w a l.length cap l) (hb : ∀ b, blk a = some b → b < w.heap.size) :
    Rr (w.alloc (.cells #[.slice a l.length cap, .int .i64 0, .int .i64 0, .int .i64 0] t)) w.heap.size a cap l 0 0 0 := by
  refine ⟨?_, ?_, ?_, ?_, by simp, by simp, by simp, h.below ((Below.refl _ _).alloc (Nat.le_refl _) _), fun e => by have := hb _ e; omega⟩ <;>
    (rw [cell_of_row _ w.heap.size _ _ t (0, 0) (heap_alloc_new w _)]; rfl)
set_option maxHeartbeats 1000000 in
theorem newReader_any (a0 : Option Addr) (cap0 : Nat) (l : List UInt8) (hl : l.length ≤ 1000000) (w : World) (h : Rd8 w a0 l.length cap0 l) :
    Calls Tryd.prog 37 #[.slice a0 l.length cap0] w (NewPost w l) := by
  have HR := Lib.hid h
  clear h
  go_enter Tryd.func37, Tryd.ntmps37
  go_wp2_with (at_builtin; refine wpList_app S8 rfl (.tmp 3) (.tmp 4) rfl w.heap.size rfl (World.ownsRow_lit w #[] 0 (Nat.le_refl _) (by decide) rfl) rfl (HR.out.2.below ((Below.refl _ _).alloc (Nat.le_refl _) _)) (B8_one _) (by omega) (by simp [maxLen]; omega) (by simp) ?_)
  intro v2 w2 hown' hb _
  have hown2 : Own8 w2 w.heap.size 5 v2 l := Own8.mk hown' (by simp) (by simp)
  have HB := Lib.hid (Below.trans ((Below.refl _ _).alloc (Nat.le_refl _) _) hb)
  have hlt : ∀ b, v2.ownBlock = some b → w.heap.size ≤ b ∧ b < w2.heap.size := fun b hb => World.ownsRow.lt hown2 b hb
  obtain ⟨a, cap, rfl, hr⟩ := hown2.rd
  have HRD := Lib.hid hr
  have HLT : Hid (∀ b, blk a = some b → w.heap.size ≤ b ∧ b < w2.heap.size) := fun b hb => hlt b (by cases a with | none => cases hb | some x => exact hb)
  clear hown' hown2 hb hlt hr
  go_wp2
  go_ret
  exact ⟨_, a, cap, rfl, rr_new w2 a cap l _ HRD.out (fun b hb => (HLT.out b hb).2), HB.out.alloc HB.out.size _, HB.out.size, fun b hb => (HLT.out b hb).1⟩
/-! ### Eight bytes -/
def fU (l : List UInt8) (i : Nat) : UInt64 := r8 ((l.drop i).take 8)
def fE (l : List UInt8) (i : Nat) : Int := if l.length - i < 8 then 5 else if canon (fU l i) = fU l i then 0 else 4
def fP (l : List UInt8) (i : Nat) : Int := if l.length - i < 8 then (l.length : Int) else (i : Int)
theorem r8_step (g : List UInt8) (k : Nat) (h : k < g.length) : r8 (g.drop k) = (r8 (g.drop (k + 1)) <<< 8) ||| (g.getD k 0).toUInt64 := by
  rw [List.drop_eq_getElem_cons h]
  show (r8 (g.drop (k + 1)) <<< 8) ||| (g[k]).toUInt64 = _
  simp [List.getD, h]
theorem HRD0 {w : World} {p : Nat} {a : Option Addr} {cap : Nat} {l : List UInt8} {i f q : Int} (h : Rr w p a cap l i f q) (n : Nat) : Rr (w.drewN n) p a cap l i f q := h.below (below_drewN (Below.refl _ _) n)
/-- What Float does. -/
def FlPost (w : World) (p : Nat) (a : Option Addr) (cap : Nat) (l : List UInt8) (i : Nat) (q : Int) (e : Ending) (w' : World) : Prop :=
  (fE l i = 0 → e = .returned (.float .f64 (fb (fU l i))) ∧ RDone w p a cap l ((i + 8 : Nat) : Int) 0 q w') ∧
  (fE l i ≠ 0 → e = .returned (.float .f64 (fb 0)) ∧ RDone w p a cap l i (fE l i) (fP l i) w')
set_option maxHeartbeats 4000000 in
theorem float_any (i : Nat) (p : Nat) (a : Option Addr) (cap : Nat) (l : List UInt8) (hl : l.length ≤ 1000000) (hi : i ≤ l.length) (q : Int) (w : World) (h : Rr w p a cap l i 0 q) :
    Calls Tryd.prog 67 #[.pointer (some ⟨p, 0, none⟩)] w (FlPost w p a cap l i q) := by
  have HR := Lib.hid h
  obtain ⟨h0, h1, h2, h3, f1, f2, f3, hrd, _⟩ := h
  have hpl : p < w.heap.size := World.block_lt_of_cell? w _ h0
  have HRD := Lib.hid hrd
  obtain ⟨n, hn⟩ : ∃ n, l.length = n := ⟨_, rfl⟩
  have HN := Lib.hid hn
  rw [hn] at hl hi h0
  clear hn hrd
  have s1 : IntKind.i64.wrap ((n : Int) - (i : Int)) = (n : Int) - (i : Int) := IntWalk.i64_in _ (by omega)
  by_cases h8 : n - i < 8
  · have HE : Hid (fE l i = 5) := by unfold fE; rw [HN.out]; exact if_pos h8
    have HP : Hid (fP l i = n) := by unfold fP; rw [HN.out]; exact if_pos h8
    have hd : decide ((n : Int) - (i : Int) < 8) = true := decide_eq_true (by omega)
    clear h8
    go_enter Tryd.func67, Tryd.ntmps67
    go_wp2_with fail
    go_quiet (fail)
    go_wp2_with (go_at_call 97; ((with_reducible refine (fail_any 5 _ rfl p _ _ _ _ _ _ (HRD0 HR.out _)).mono ?_); rintro e w' ⟨rfl, hdn⟩; have HD := Lib.hid hdn; clear hdn))
    go_ret
    exact ⟨fun h => absurd (HE.out.symm.trans h) (by decide), fun _ => ⟨rfl, by rw [HE.out, HP.out]; exact RDone.next (Fr.of_new (below_drewN (Below.refl _ _) _)) HD.out⟩⟩
  · have hd : decide ((n : Int) - (i : Int) < 8) = false := decide_eq_false (by omega)
    obtain ⟨g, hg⟩ : ∃ g, (l.drop i).take 8 = g := ⟨_, rfl⟩
    have hgl : g.length = 8 := by rw [← hg, List.length_take, List.length_drop, HN.out]; omega
    have HG := Lib.hid hg
    have HGL := Lib.hid hgl
    obtain ⟨b, off, ha, hbl, hcell⟩ := HRD.out.at (by rw [HN.out]; omega)
    subst ha
    have HCELL : Hid (∀ k, k < 8 → w.cell? ⟨b, off + (i + k), none⟩ = some (.int .u8 (n8 (g.getD k 0)))) := fun k hk => by
      rw [hcell (i + k) (by rw [HN.out]; omega), ← HG.out]
      congr 3
      simp [List.getD, hk]
    clear hcell hg hgl
    have hn8 : i + 8 ≤ n := by omega
    have HE0 : Hid (fE l i = if canon (r8 g) = r8 g then 0 else 4) := by unfold fE fU; rw [HN.out, if_neg h8, HG.out]; exact rfl
    have HP : Hid (fP l i = i) := by unfold fP; rw [HN.out]; exact if_neg h8
    have HU : Hid (fU l i = r8 g) := by unfold fU; rw [HG.out]; exact rfl
    clear h8
    go_enter Tryd.func67, Tryd.ntmps67
    go_wp2_with fail
    go_quiet (fail)
    go_wp2_with fail
    go_loopw [3, 4] (fun u j wr => ∃ (k : Nat) (x : Int), k ≤ 8 ∧ j = .int .i64 x ∧ Hid (x = (k : Int) - 1) ∧ u = .int .u64 (n64 (r8 (g.drop k))) ∧ Hid (Below w.heap.size w wr)) (fun _ j _ => (intOf j + 1).toNat)
    case atStart =>
      refine ⟨8, 7, Nat.le_refl _, rfl, (by decide : (7 : Int) = ((8 : Nat) : Int) - 1), ?_, below_drewN (Below.refl _ _) _⟩
      rw [List.drop_of_length_le (by rw [HGL.out]; exact Nat.le_refl _)]; rfl
    case round =>
      obtain ⟨k, x, hk, rfl, HX, rfl, HB⟩ := hrel
      have HR1 := Lib.hid (HR.out.below HB.out)
      obtain ⟨g0, g1, g2, g3, k1, k2, k3, _, _⟩ := HR.out.below HB.out
      rw [HN.out] at g0
      have hp1 : p < wr.heap.size := World.block_lt_of_cell? wr _ g0
      clear h0 h1 h2 h3 f1 f2 f3 hd
      by_cases hk0 : k = 0
      · have hx : x = -1 := by have := HX.out; omega
        subst hx
        subst hk0
        rw [List.drop_zero]
        obtain ⟨U, hU⟩ : ∃ U, r8 g = U := ⟨_, rfl⟩
        rw [hU] at HE0 HU ⊢
        clear hU
        have q1 := n64_eq (canon U) U
        have HO : Hid (∀ W, Calls Tryd.prog 78 #[.int .u64 (n64 U)] W fun e w' => e = .returned (.float .f64 (fb (canon U))) ∧ w' = W) := fun W => of_any U W
        have HBI : Hid (∀ W, Calls Tryd.prog 50 #[.float .f64 (fb (canon U))] W fun e w' => e = .returned (.int .u64 (n64 (canon U))) ∧ w' = W) := fun W => by have := bitsF_any (canon U) W; rw [canon_canon] at this; exact this
        by_cases hc : canon U = U
        · have HE : Hid (fE l i = 0) := HE0.out.trans (if_pos hc)
          have HCC := Lib.hid hc
          rw [show (canon U == U) = true by rw [beq_iff_eq]; exact hc] at q1
          clear hc HE0
          go_wp2_with (first | (go_at_call 78; ((with_reducible refine (HO.out _).mono ?_); rintro e w' ⟨rfl, rfl⟩)) | (go_at_call 50; ((with_reducible refine (HBI.out _).mono ?_); rintro e w' ⟨rfl, rfl⟩)))
          go_ret
          exact ⟨fun _ => ⟨by rw [HU.out]; show _ = Ending.returned (.float .f64 (fb U)); rw [← HCC.out]; simp [HCC.out], by first | exact (RDone.next (Fr.of_new HB.out) (RDone.same HR1.out)).setAt _ | skip⟩, fun h => absurd HE.out h⟩
        · have HE : Hid (fE l i = 4) := HE0.out.trans (if_neg hc)
          rw [show (canon U == U) = false by rw [beq_eq_false_iff_ne]; exact hc] at q1
          clear hc HE0
          go_wp2_with (first | (go_at_call 78; ((with_reducible refine (HO.out _).mono ?_); rintro e w' ⟨rfl, rfl⟩)) | (go_at_call 50; ((with_reducible refine (HBI.out _).mono ?_); rintro e w' ⟨rfl, rfl⟩)) | (go_at_call 97; ((with_reducible refine (fail_any 4 _ rfl p _ _ _ _ _ _ HR1.out).mono ?_); rintro e w' ⟨rfl, hdn⟩; have HD := Lib.hid hdn; clear hdn)))
          go_ret
          exact ⟨fun h => absurd (HE.out.symm.trans h) (by decide), fun _ => ⟨rfl, by rw [HE.out, HP.out]; exact RDone.next (Fr.of_new HB.out) HD.out⟩⟩
      · obtain ⟨m, rfl⟩ : ∃ m, k = m + 1 := ⟨k - 1, by omega⟩
        have hx : x = (m : Int) := by have := HX.out; omega
        subst hx
        have hm8 : m < 8 := by omega
        have hc0 := HCELL.out m hm8
        have hc1 : wr.cell? ⟨b, off + (i + m), none⟩ = some (.int .u8 (n8 (g.getD m 0))) := by rw [HB.out.cell (p := ⟨b, off + (i + m), none⟩) (World.block_lt_of_cell? _ _ hc0)]; exact hc0
        have HST : Hid (r8 (g.drop m) = (r8 (g.drop (m + 1)) <<< 8) ||| (g.getD m 0).toUInt64) := r8_step g m (by rw [HGL.out]; exact hm8)
        clear hc0 hk0
        generalize g.getD m 0 = c at *
        generalize r8 (g.drop (m + 1)) = V at *
        have q1 := n8_to64 c
        have q2 : Op.shift .shl .u64 (n64 V) .u64 8 = pure (.int .u64 (n64 (V <<< 8))) := sh64_shl V .u64 8 (by decide) (by decide)
        have q3 := n64_or (V <<< 8) c.toUInt64
        rw [← HST.out] at q3
        have t1 : IntKind.i64.wrap ((i : Int) + (m : Int)) = (i : Int) + (m : Int) := IntWalk.i64_in _ (by omega)
        have t2 : (0 : Int) ≤ (i : Int) + (m : Int) := by omega
        have t3 : ((i : Int) + (m : Int)).toNat = i + m := by omega
        have t4 : (i : Int) + (m : Int) < (n : Int) := by omega
        go_wp2_with fail
        go_quiet (fail)
        clear t1 t2 t3 t4
        go_wp2
        go_roundw
        case rel => exact ⟨m, (m : Int) - 1, by omega, by go_num, rfl, by first | rfl | skip, below_drewN HB.out _⟩
        case measure => simp [intOf]
end Go.Proofs.YtecgjhjglklcnaaDoor
