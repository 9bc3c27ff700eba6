/-
  The walk of DatumBytes.
-/
import Derived.Test.YtecgjhjglklcnaaDoorXR
import Derived.Test.YtecgjhjglklcnaaDoorX14
namespace Go.Proofs.YtecgjhjglklcnaaDoor
set_option maxRecDepth 100000
open Go.RowKit Go.Shelf Go.Sort
attribute [local go_sem] bs_size bs_get bs_toList frombits tobits run_store_float

set_option maxHeartbeats 400000 in
theorem bytesR_any (a a' : Option Addr) (n n' cap cap' : Nat) (l l' : List UInt8) (w : World) (h : Rd8 w a n cap l) (h' : Rd8 w a' n' cap' l') :
    Calls Tryd.prog 43 #[.slice a n cap, .slice a' n' cap'] w fun e w' => e = .returned (.bool (l == l')) ∧ w = w' := by
  have k1 := run_toStr (P := Tryd.prog) h 44 5 9 Tryd.underlying44 Tryd.underlying5 Tryd.underlying9
  have k2 := run_toStr (P := Tryd.prog) h' 44 5 9 Tryd.underlying44 Tryd.underlying5 Tryd.underlying9
  go_enter Tryd.func43, Tryd.ntmps43
  go_wp2
  go_ret
  exact ⟨rfl, rfl⟩


theorem encU_ne (u : Nat) : encU u ≠ [] := by
  obtain ⟨g, c, e, _⟩ := encU_whole u
  rw [e]; simp
theorem putB_ne {k : Int} {x : UInt64} {s : List UInt8} : 0 < (putB k x s).length := by
  unfold putB
  split
  · have := List.length_pos_iff.2 (encU_ne (zz k)); rw [List.length_append]; change 0 < (intB k).length at this; omega
  · exact List.length_pos_iff.2 (encU_ne (zz 0))
theorem Wr.keep {S : Nat → Prop} {w w' : World} {p : Nat} {v : Value} {l : List UInt8} (h : Wr w p v l) (hf : Fr S w w') (hp : ¬ S p) (hv : ∀ q, v.ownBlock = some q → ¬ S q) : Wr w' p v l := by
  obtain ⟨h0, h1, h2⟩ := h
  have hl := World.block_lt_of_cell? w _ h0
  exact ⟨(hf.cell (p := ⟨p, 0, none⟩) hl hp).trans h0, (hf.frozen (p := ⟨p, 0, none⟩) hl hp).trans h1, h2.keep hf hv⟩
theorem own_not {w : World} {base : Nat} {e : TypeId} {v : Value} {l : List UInt8} (h : Own8 w base e v l) (hl : 0 < l.length) {q : Nat} (hq : v.ownBlock = some q) {a : Option Addr} {n c : Nat} (hc : w.cell? ⟨q, 0, none⟩ = some (.slice a n c)) : False := by
  rcases h.2 with ⟨h1, h2⟩ | ⟨g, cap, cur, rfl, hb, hg, hnc, hcm, hcs, ht⟩
  · omega
  · simp [Value.ownBlock] at hq
    subst hq
    rw [cell_of_row w g 0 _ _ _ hg] at hc
    have h0 : (B8 l)[0]? = some (.slice a n c) := by
      rw [← ht, List.getElem?_take, if_pos (by omega)]; simpa using hc
    rw [B8_get l 0 hl] at h0
    cases h0
set_option maxHeartbeats 2000000 in
theorem bytes_l1 (k : Int) (x : UInt64) (s : List UInt8) (a : Option Addr) (cap : Nat) (b : List UInt8) (w : World) (hT : Laid w) (h : Rd8 w a b.length cap b) (HS : Hid (decide (s.length ≤ 2000) = false)) : Calls Tryd.prog 9 #[VA k x s, .slice a b.length cap] w fun e w' => e = .returned (.bool true) ∧ Below w.heap.size w w' := by
  unfold VA
  have HK : Hid (Kp w (w.alloc (.cells #[.int .i64 k, .float .f64 (fb x), .string (bs s)] 24))) := (Kp.start hT).alloc _
  clear hT
  obtain ⟨c0, c1, c2⟩ := vat w k x s 24
  have hm : b.length ≤ 9223372036854775807 := Nat.le_trans h.2.1 h.2.2.1
  have HRB := Lib.hid h
  clear h
  go_enter Tryd.func9, Tryd.ntmps9
  go_wp2_with (first | (go_at_call 11; ((with_reducible refine (first_any _ HK.out.laid).mono ?_); rintro e W ⟨rfl, hb⟩; have h4 := keepc3 ⟨c0, c1, c2, HK.out⟩ hb; clear c0 c1 c2 HK hb; obtain ⟨c0, c1, c2, HK'⟩ := h4; have HK := Lib.hid HK'; clear HK')) | (go_at_call 12; ((with_reducible refine (csmall HS.out _).mono ?_); rintro e W ⟨rfl, hb⟩; have h4 := keepc3 ⟨c0, c1, c2, HK.out⟩ hb; clear c0 c1 c2 HK hb; obtain ⟨c0, c1, c2, HK'⟩ := h4; have HK := Lib.hid HK'; clear HK')))
  go_ret
  exact ⟨rfl, HK.out.below⟩
set_option maxHeartbeats 2000000 in
theorem bytes_l2 (k : Int) (x : UInt64) (s : List UInt8) (a : Option Addr) (cap : Nat) (b : List UInt8) (w : World) (hT : Laid w) (h : Rd8 w a b.length cap b) (HS : Hid (decide (s.length ≤ 2000) = true)) (hl : ¬ b.length ≤ 2000) : Calls Tryd.prog 9 #[VA k x s, .slice a b.length cap] w fun e w' => e = .returned (.bool true) ∧ Below w.heap.size w w' := by
  unfold VA
  have HK : Hid (Kp w (w.alloc (.cells #[.int .i64 k, .float .f64 (fb x), .string (bs s)] 24))) := (Kp.start hT).alloc _
  clear hT
  obtain ⟨c0, c1, c2⟩ := vat w k x s 24
  have hm : b.length ≤ 9223372036854775807 := Nat.le_trans h.2.1 h.2.2.1
  have HRB := Lib.hid h
  clear h
  have hd : decide ((2000 : Int) < (b.length : Int)) = true := decide_eq_true (by omega)
  go_enter Tryd.func9, Tryd.ntmps9
  go_wp2_with (first | (go_at_call 11; ((with_reducible refine (first_any _ HK.out.laid).mono ?_); rintro e W ⟨rfl, hb⟩; have h4 := keepc3 ⟨c0, c1, c2, HK.out⟩ hb; clear c0 c1 c2 HK hb; obtain ⟨c0, c1, c2, HK'⟩ := h4; have HK := Lib.hid HK'; clear HK')) | (go_at_call 12; ((with_reducible refine (csmall HS.out _).mono ?_); rintro e W ⟨rfl, hb⟩; have h4 := keepc3 ⟨c0, c1, c2, HK.out⟩ hb; clear c0 c1 c2 HK hb; obtain ⟨c0, c1, c2, HK'⟩ := h4; have HK := Lib.hid HK'; clear HK')))
  go_ret
  exact ⟨rfl, HK.out.below⟩
set_option maxHeartbeats 8000000 in
theorem bytes_main (k : Int) (x : UInt64) (s : List UInt8) (a : Option Addr) (cap : Nat) (b : List UInt8) (w : World) (hT : Laid w) (h : Rd8 w a b.length cap b) (HS : Hid (decide (s.length ≤ 2000) = true)) (hl : b.length ≤ 2000) : Calls Tryd.prog 9 #[VA k x s, .slice a b.length cap] w fun e w' => e = .returned (.bool true) ∧ Below w.heap.size w w' := by
  unfold VA
  have HK : Hid (Kp w (w.alloc (.cells #[.int .i64 k, .float .f64 (fb x), .string (bs s)] 24))) := (Kp.start hT).alloc _
  clear hT
  obtain ⟨c0, c1, c2⟩ := vat w k x s 24
  have hm : b.length ≤ 9223372036854775807 := Nat.le_trans h.2.1 h.2.2.1
  have HRB := Lib.hid h
  clear h
  have hd : decide ((2000 : Int) < (b.length : Int)) = false := decide_eq_false (by omega)
  have hs2 : s.length ≤ 2000 := of_decide_eq_true HS.out
  obtain ⟨g, hg⟩ : ∃ g, getG b = g := ⟨_, rfl⟩
  have HG := Lib.hid hg
  clear hg
  go_enter Tryd.func9, Tryd.ntmps9
  go_wp2_with (first | (go_at_call 11; ((with_reducible refine (first_any _ HK.out.laid).mono ?_); rintro e W ⟨rfl, hb⟩; have h4 := keepc3 ⟨c0, c1, c2, HK.out⟩ hb; clear c0 c1 c2 HK hb; obtain ⟨c0, c1, c2, HK'⟩ := h4; have HK := Lib.hid HK'; clear HK')) | (go_at_call 12; ((with_reducible refine (csmall HS.out _).mono ?_); rintro e W ⟨rfl, hb⟩; have h4 := keepc3 ⟨c0, c1, c2, HK.out⟩ hb; clear c0 c1 c2 HK hb; obtain ⟨c0, c1, c2, HK'⟩ := h4; have HK := Lib.hid HK'; clear HK')))
  have HRW := Lib.hid (HRB.out.below HK.out.below)
  have HC := Lib.hid (And.intro c0 (And.intro c1 (And.intro c2 HK.out)))
  clear c0 c1 c2 HK
  go_at_call 36
  refine (newWriter_any W).mono ?_
  rintro e w' ⟨rfl, rfl⟩
  have hwr := newWriter_wr W
  have hbn : Below W.heap.size W (W.alloc (.cells #[.slice none 0 0] 77)) := (Below.refl _ _).alloc (Nat.le_refl _) _
  have hsz : W.heap.size < (W.alloc (.cells #[.slice none 0 0] 77)).heap.size := (Array.getElem?_eq_some_iff.1 (heap_alloc_new W _)).1
  generalize W.alloc (.cells #[.slice none 0 0] 77) = W1 at *
  have HWR := Lib.hid hwr
  have HB1 := Lib.hid hbn
  have HSZ := Lib.hid hsz
  clear hwr hbn hsz
  go_wp2_with fail
  go_at_call 37
  refine (newReader_any2 a cap b (by omega) W1 (HRW.out.below HB1.out)).mono ?_
  rintro e W2 ⟨pr, ar, cr, rfl, hrr, hb2, hpr, hblk⟩
  have HRR2 := Lib.hid hrr
  have HB2 : Hid (Below W.heap.size W W2) := HB1.out.trans (hb2.mono HB1.out.size)
  have HWR2 := Lib.hid (HWR.out.below hb2)
  have HPR : Hid (W.heap.size < pr) := Nat.lt_of_lt_of_le HSZ.out hpr
  have HBK : Hid (∀ c, blk ar = some c → W.heap.size < c ∧ c < W2.heap.size) := fun c hc => ⟨Nat.lt_of_lt_of_le HSZ.out (hblk c hc).1, (hblk c hc).2⟩
  have HPRL : Hid (pr < W2.heap.size) := World.block_lt_of_cell? _ _ hrr.1
  clear hrr hb2 hpr hblk
  obtain ⟨c0, c1, c2, _⟩ := keep3 HC.out HB2.out
  go_wp2_with fail
  go_at_call 38
  refine (put_any k x s hs2 _ _ [] (by simp) W2 HWR2.out).mono ?_
  rintro e W3 ⟨rfl, v2, hw2, hf2⟩
  rw [List.nil_append] at hw2
  have HW3 := Lib.hid hw2
  have HB3 : Hid (Below W.heap.size W W3) := HB2.out.trans (hf2.below HB2.out.size (fun k hk h => by rcases h with h | h; omega; cases h))
  have HRR3 : Hid (Rr W3 pr ar cr b 0 0 0) := HRR2.out.keep hf2 (fun h => by have := HPR.out; rcases h with h | h; omega; cases h) (fun c hc h => by have := (HBK.out c hc).1; rcases h with h | h; omega; cases h)
  have HS23 : Hid (W2.heap.size ≤ W3.heap.size) := hf2.size
  clear hw2 hf2 c0 c1 c2
  go_wp2_with fail
  go_at_call 39
  have hb4 : Below W3.heap.size W3 (W3.alloc (.cells #[.slice a b.length cap, .int .i64 0, .int .i64 0, .int .i64 0] 52)) := (Below.refl _ _).alloc (Nat.le_refl _) _
  have hrow4 := heap_alloc_new W3 (.cells #[.slice a b.length cap, .int .i64 0, .int .i64 0, .int .i64 0] 52)
  generalize W3.alloc (.cells #[.slice a b.length cap, .int .i64 0, .int .i64 0, .int .i64 0] 52) = W4 at *
  have hget := get_any pr ar cr b (by omega) W4 (HRR3.out.below hb4) (fun c hc => Nat.lt_of_lt_of_le (HBK.out c hc).2 (Nat.le_trans HS23.out hb4.size))
  rw [HG.out] at hget
  unfold GetPost VA at hget
  have hpx4 : W3.heap.size < W4.heap.size := (Array.getElem?_eq_some_iff.1 hrow4).1
  have HB4 : Hid (Below W.heap.size W W4) := HB3.out.trans (hb4.mono HB3.out.size)
  have HROW4 := Lib.hid hrow4
  have HPX4 := Lib.hid hpx4
  have HW4 := Lib.hid (HW3.out.below hb4)
  clear hb4 hrow4 hpx4
  refine (hget).mono ?_
  rintro e W5 ⟨rfl, hd5⟩
  have hne : ¬ W3.heap.size = pr := by have := HPRL.out; have := HS23.out; omega
  have HB5 : Hid (Below W.heap.size W W5) := HB4.out.trans (hd5.2.below HB4.out.size (fun k hk h => by have := HPR.out; have h' : k = pr := h; omega))
  have HROW5 : Hid (W5.heap[W3.heap.size]? = some (.cells #[.slice a b.length cap, .int .i64 0, .int .i64 0, .int .i64 0] 52 (0, 0))) := (hd5.2.block _ HPX4.out hne).trans HROW4.out
  have HD5 := Lib.hid hd5
  have HNE := Lib.hid hne
  have HVQ : Hid (∀ q, v2.ownBlock = some q → q < W3.heap.size) := fun q hq => (World.ownsRow.lt HW3.out.2.2 q hq).2
  have HW5 : Hid (Wr W5 W.heap.size v2 (putB k x s)) := HW4.out.keep hd5.2 (fun h => by have h' : W.heap.size = pr := h; have := HPR.out; omega) (fun q hq h => by
    have h' : q = pr := h
    subst h'
    exact own_not HW3.out.2.2 putB_ne hq HRR3.out.1)
  have HS45 : Hid (W4.heap.size ≤ W5.heap.size) := hd5.2.size
  clear hd5 hget hne
  go_wp2_with fail
  go_at_call 40
  have hv6 := vat W5 g.k g.x g.s 24
  have hb6 : Below W5.heap.size W5 (W5.alloc (.cells #[.int .i64 g.k, .float .f64 (fb g.x), .string (bs g.s)] 24)) := (Below.refl _ _).alloc (Nat.le_refl _) _
  generalize W5.alloc (.cells #[.int .i64 g.k, .float .f64 (fb g.x), .string (bs g.s)] 24) = W6 at *
  have hrow6 := (hb6.block W3.heap.size (Nat.lt_of_lt_of_le HPX4.out HS45.out)).trans HROW5.out
  have HB6 : Hid (Below W.heap.size W W6) := HB5.out.trans (hb6.mono HB5.out.size)
  have hgx := rget_all W3.heap.size a cap b (by omega) W6 (cell_of_row W6 _ 0 _ _ _ hrow6) (cell_of_row W6 _ 1 _ _ _ hrow6) (cell_of_row W6 _ 2 _ _ _ hrow6) (cell_of_row W6 _ 3 _ _ _ hrow6) (frozen_of_row W6 _ 1 _ _ hrow6) (frozen_of_row W6 _ 2 _ _ hrow6) (frozen_of_row W6 _ 3 _ _ hrow6)
    (HRW.out.below HB6.out) (fun h0 c hc => by have h1 := blk_lt HRW.out h0 hc; have h2 := HB6.out.size; have h3 := HB3.out.size; exact ⟨by omega, by omega⟩)
  rw [HG.out] at hgx
  unfold VA at hgx
  refine (hgx).mono ?_
  rintro e W7 ⟨rfl, hf7, hend⟩
  have hn5 : ¬ W5.heap.size = W3.heap.size := by have h1 := HPX4.out; have h2 := HS45.out; omega
  have hl5 : W5.heap.size < W6.heap.size := World.block_lt_of_cell? W6 _ hv6.1
  have d0 := (hf7.cell (p := ⟨W5.heap.size, 0, none⟩) hl5 hn5).trans hv6.1
  have d1 := (hf7.cell (p := ⟨W5.heap.size, 1, none⟩) hl5 hn5).trans hv6.2.1
  have d2 := (hf7.cell (p := ⟨W5.heap.size, 2, none⟩) hl5 hn5).trans hv6.2.2
  have HB7 : Hid (Below W.heap.size W W7) := HB6.out.trans (hf7.below HB6.out.size (fun q hq h => by have h' : q = W3.heap.size := h; have := HB3.out.size; omega))
  have HR7 : Hid (Rr W7 pr ar cr b g.i g.f g.q) := (HD5.out.1.below hb6).keep hf7 (fun h => HNE.out (show pr = W3.heap.size from h).symm) (fun c hc h => by have h' : c = W3.heap.size := h; have h1 := (HBK.out c hc).2; have h2 := HS23.out; omega)
  have HW7 : Hid (Wr W7 W.heap.size v2 (putB k x s)) := (HW5.out.below hb6).keep hf7 (fun h => by have h' : W.heap.size = W3.heap.size := h; have h1 := HPR.out; have h2 := HPRL.out; have h3 := HS23.out; omega) (fun q hq h => by have h' : q = W3.heap.size := h; have := HVQ.out q hq; omega)
  have HE := Lib.hid hend
  clear hv6 hb6 hrow6 hgx hf7 hend hn5 hl5 HROW5 HD5 HW5 HW4 HROW4
  go_wp2_with fail
  go_at_call 41
  have hv8 := vat W7 g.k g.x g.s 24
  have hb8 : Below W7.heap.size W7 (W7.alloc (.cells #[.int .i64 g.k, .float .f64 (fb g.x), .string (bs g.s)] 24)) := (Below.refl _ _).alloc (Nat.le_refl _) _
  generalize W7.alloc (.cells #[.int .i64 g.k, .float .f64 (fb g.x), .string (bs g.s)] 24) = W8 at *
  have he8 := end_any pr ar cr b (by omega) g.i g.f g.q W8 (HR7.out.below hb8) (fun h => by have := getG_q b; rw [HG.out] at this; exact this h)
  rw [end_val] at he8
  obtain ⟨EA, hEA⟩ : ∃ EA, endA b g = EA := ⟨_, rfl⟩
  obtain ⟨EB, hEB⟩ : ∃ EB, endB b g = EB := ⟨_, rfl⟩
  rw [hEA, hEB] at he8 HE
  clear hEA hEB
  refine (he8).mono ?_
  rintro e W9 ⟨rfl, hb9⟩
  have hb79 : Below W7.heap.size W7 W9 := hb8.trans (hb9.mono hb8.size)
  have HE9 := Lib.hid (HE.out W9 hb79)
  have HB79 := Lib.hid hb79
  obtain ⟨e0, e1, e2⟩ := hv8
  have e0 := keep1 e0 hb9
  have e1 := keep1 e1 hb9
  have e2 := keep1 e2 hb9
  have d0 := keep1 d0 hb79
  have d1 := keep1 d1 hb79
  have d2 := keep1 d2 hb79
  clear hb8 hb9 he8 hb79
  go_wp2_with fail
  go_at_call 42
  refine (HE9.out).mono ?_
  rintro e X ⟨rfl, hb10⟩
  have hx7 : Below W7.heap.size W7 X := HB79.out.trans (hb10.mono HB79.out.size)
  have HBX : Hid (Below W.heap.size W X) := HB7.out.trans (hx7.mono HB7.out.size)
  have HWX := Lib.hid (HW7.out.below hx7)
  have e0 := keep1 e0 hb10
  have e1 := keep1 e1 hb10
  have e2 := keep1 e2 hb10
  have d0 := keep1 d0 hb10
  have d1 := keep1 d1 hb10
  have d2 := keep1 d2 hb10
  obtain ⟨c0, c1, c2, hk⟩ := keep3 HC.out HBX.out
  have HKX := Lib.hid hk
  have HPB : Hid ((putB k x s).length ≤ 10000) := putB_len k x s hs2
  clear hb10 hx7 hk HE9 HB79 HE
  go_wp2_with fail
  refine wp_region_ht 23 (fun W => Below X.heap.size X W) (by kernel_rfl) (by kernel_rfl) ?_ (fun hHeld => ?_)
  · exact (Below.refl _ _).drew
  try simp only [Act.put, List.setIfInBounds_toArray, List.set_cons_zero, List.set_cons_succ]
  refine wpHT_one (i := 0) (by kernel_rfl) rfl (by decide) (fun K hK => ?_)
  go_simp
  go_at_call 11
  refine (first_any _ (HKX.out.next hHeld).laid).mono ?_
  rintro e Y1 ⟨rfl, hy⟩
  have hY1 : Below X.heap.size X Y1 := hHeld.trans (hy.mono hHeld.size)
  clear hy
  refine hK.out _ _ ?_ (fun hHeld => ?_)
  · exact hY1
  clear hK K
  try simp only [Act.put, List.setIfInBounds_toArray, List.set_cons_zero, List.set_cons_succ]
  refine wpHT_takeD (i := 1) (d := 55) (v := ?_) (by kernel_rfl) rfl rfl (by decide) (by kernel_rfl) (by kernel_rfl) (fun _ _ _ h => h) (Or.inl ⟨by kernel_rfl, ?_⟩) (by assumption) ?_
  rotate_left
  · intro w hSw; (try dsimp only at hSw); go_simp; (try with_reducible rfl)
  try simp only [Act.put, List.setIfInBounds_toArray, List.set_cons_zero, List.set_cons_succ]
  refine wpHT_takeD (i := 2) (d := 56) (v := ?_) (by kernel_rfl) rfl rfl (by decide) (by kernel_rfl) (by kernel_rfl) (fun _ _ _ h => h) (Or.inl ⟨by kernel_rfl, ?_⟩) (by assumption) ?_
  rotate_left
  · intro w hSw; (try dsimp only at hSw); go_simp; (try with_reducible rfl)
  try simp only [Act.put, List.setIfInBounds_toArray, List.set_cons_zero, List.set_cons_succ]
  refine wpHT_takeD (i := 4) (d := 58) (v := ?_) (by kernel_rfl) rfl rfl (by decide) (by kernel_rfl) (by kernel_rfl) (fun _ _ _ h => h) (Or.inl ⟨by kernel_rfl, ?_⟩) (by assumption) ?_
  rotate_left
  · intro W' hSw; have z0 := keep1 c0 hSw; have z1 := keep1 c1 hSw; have z2 := keep1 c2 hSw; go_simp; (try with_reducible rfl)
  try simp only [Act.put, List.setIfInBounds_toArray, List.set_cons_zero, List.set_cons_succ]
  refine wpHT_one (i := 3) (by kernel_rfl) rfl (by decide) (fun K hK => ?_)
  go_simp
  go_at_call 44
  refine (wBytes_any _ v2 (putB k x s) (by have := HPB.out; omega) _ (HWX.out.below hHeld)).mono ?_
  rintro e Y2 ⟨v57, rfl, ho57, hy⟩
  obtain ⟨a57, c57, rfl, hr57⟩ := ho57.rd
  have hY2 : Below X.heap.size X Y2 := hHeld.trans (hy.mono hHeld.size)
  have HR57 := Lib.hid hr57
  clear hy ho57 hr57
  refine hK.out _ _ ?_ (fun hHeld => ?_)
  · exact hY2
  clear hK K
  try simp only [Act.put, List.setIfInBounds_toArray, List.set_cons_zero, List.set_cons_succ]
  refine wpHT_one (i := 5) (by kernel_rfl) rfl (by decide) (fun K hK => ?_)
  go_simp
  go_at_call 45
  refine (refPut_any k x s hs2 _).mono ?_
  rintro e Y3 ⟨v59, rfl, ho59, hy⟩
  obtain ⟨a59, c59, rfl, hr59⟩ := ho59.rd
  have hY3 : Below X.heap.size X Y3 := hHeld.trans (hy.mono hHeld.size)
  have hby := bytesR_any a57 a59 _ _ c57 c59 _ _ Y3 (HR57.out.below hy) hr59
  rw [show (putB k x s == putB k x s) = true by simp] at hby
  have HBY := Lib.hid hby
  clear hy ho59 hr59 hby
  refine hK.out _ _ ?_ (fun hHeld => ?_)
  · exact hY3
  clear hK K
  try simp only [Act.put, List.setIfInBounds_toArray, List.set_cons_zero, List.set_cons_succ]
  refine wpHT_one (i := 6) (by kernel_rfl) rfl (by decide) (fun K hK => ?_)
  go_simp
  go_at_call 43
  refine (HBY.out).mono ?_
  rintro e Y4 ⟨rfl, rfl⟩
  refine hK.out _ _ ?_ (fun hHeld => ?_)
  · exact hY3
  clear hK K
  try simp only [Act.put, List.setIfInBounds_toArray, List.set_cons_zero, List.set_cons_succ]
  refine wpHT_takeD (i := 7) (d := 61) (v := ?_) (by kernel_rfl) rfl rfl (by decide) (by kernel_rfl) (by kernel_rfl) (fun _ _ _ h => h) (Or.inl ⟨by kernel_rfl, ?_⟩) (by assumption) ?_
  rotate_left
  · intro w hSw; (try dsimp only at hSw); go_simp; (try with_reducible rfl)
  try simp only [Act.put, List.setIfInBounds_toArray, List.set_cons_zero, List.set_cons_succ]
  refine wpHT_takeD (i := 8) (d := 62) (v := ?_) (by kernel_rfl) rfl rfl (by decide) (by kernel_rfl) (by kernel_rfl) (fun _ _ _ h => h) (Or.inl ⟨by kernel_rfl, ?_⟩) (by assumption) ?_
  rotate_left
  · intro w hSw; (try dsimp only at hSw); go_simp; (try with_reducible rfl)
  try simp only [Act.put, List.setIfInBounds_toArray, List.set_cons_zero, List.set_cons_succ]
  refine wpHT_takeD (i := 9) (d := 63) (v := ?_) (by kernel_rfl) rfl rfl (by decide) (by kernel_rfl) (by kernel_rfl) (fun _ _ _ h => h) (Or.inl ⟨by kernel_rfl, ?_⟩) (by assumption) ?_
  rotate_left
  · intro W' hSw; have z0 := keep1 d0 hSw; have z1 := keep1 d1 hSw; have z2 := keep1 d2 hSw; go_simp; (try with_reducible rfl)
  try simp only [Act.put, List.setIfInBounds_toArray, List.set_cons_zero, List.set_cons_succ]
  refine wpHT_takeD (i := 10) (d := 64) (v := ?_) (by kernel_rfl) rfl rfl (by decide) (by kernel_rfl) (by kernel_rfl) (fun _ _ _ h => h) (Or.inl ⟨by kernel_rfl, ?_⟩) (by assumption) ?_
  rotate_left
  · intro W' hSw; have z0 := keep1 e0 hSw; have z1 := keep1 e1 hSw; have z2 := keep1 e2 hSw; go_simp; (try with_reducible rfl)
  try simp only [Act.put, List.setIfInBounds_toArray, List.set_cons_zero, List.set_cons_succ]
  refine wpHT_one (i := 11) (by kernel_rfl) rfl (by decide) (fun K hK => ?_)
  go_simp
  go_at_call 13
  refine (cval_self _ _ _ _).mono ?_
  rintro e Y5 ⟨rfl, hy⟩
  have hY5 : Below X.heap.size X Y5 := hHeld.trans (hy.mono hHeld.size)
  clear hy
  refine hK.out _ _ ?_ (fun hHeld => ?_)
  · exact hY5
  clear hK K
  try simp only [Act.put, List.setIfInBounds_toArray, List.set_cons_zero, List.set_cons_succ]
  refine wpHT_takeD (i := 12) (d := 66) (v := ?_) (by kernel_rfl) rfl rfl (by decide) (by kernel_rfl) (by kernel_rfl) (fun _ _ _ h => h) (Or.inl ⟨by kernel_rfl, ?_⟩) (by assumption) ?_
  rotate_left
  · intro w hSw; (try dsimp only at hSw); go_simp; (try with_reducible rfl)
  try simp only [Act.put, List.setIfInBounds_toArray, List.set_cons_zero, List.set_cons_succ]
  refine wpHT_takeD (i := 13) (d := 67) (v := ?_) (by kernel_rfl) rfl rfl (by decide) (by kernel_rfl) (by kernel_rfl) (fun _ _ _ h => h) (Or.inl ⟨by kernel_rfl, ?_⟩) (by assumption) ?_
  rotate_left
  · intro w hSw; (try dsimp only at hSw); go_simp; (try with_reducible rfl)
  try simp only [Act.put, List.setIfInBounds_toArray, List.set_cons_zero, List.set_cons_succ]
  refine wpHT_takeD (i := 14) (d := 68) (v := ?_) (by kernel_rfl) rfl rfl (by decide) (by kernel_rfl) (by kernel_rfl) (fun _ _ _ h => h) (Or.inl ⟨by kernel_rfl, ?_⟩) (by assumption) ?_
  rotate_left
  · intro w hSw; (try dsimp only at hSw); go_simp; (try with_reducible rfl)
  try simp only [Act.put, List.setIfInBounds_toArray, List.set_cons_zero, List.set_cons_succ]
  refine wpHT_takeD (i := 15) (d := 69) (v := ?_) (by kernel_rfl) rfl rfl (by decide) (by kernel_rfl) (by kernel_rfl) (fun _ _ _ h => h) (Or.inl ⟨by kernel_rfl, ?_⟩) (by assumption) ?_
  rotate_left
  · intro w hSw; (try dsimp only at hSw); go_simp; (try with_reducible rfl)
  try simp only [Act.put, List.setIfInBounds_toArray, List.set_cons_zero, List.set_cons_succ]
  refine wpHT_takeD (i := 16) (d := 70) (v := ?_) (by kernel_rfl) rfl rfl (by decide) (by kernel_rfl) (by kernel_rfl) (fun _ _ _ h => h) (Or.inl ⟨by kernel_rfl, ?_⟩) (by assumption) ?_
  rotate_left
  · intro w hSw; (try dsimp only at hSw); go_simp; (try with_reducible rfl)
  try simp only [Act.put, List.setIfInBounds_toArray, List.set_cons_zero, List.set_cons_succ]
  refine wpHT_takeD (i := 17) (d := 71) (v := ?_) (by kernel_rfl) rfl rfl (by decide) (by kernel_rfl) (by kernel_rfl) (fun _ _ _ h => h) (Or.inl ⟨by kernel_rfl, ?_⟩) (by assumption) ?_
  rotate_left
  · intro w hSw; (try dsimp only at hSw); go_simp; (try with_reducible rfl)
  try simp only [Act.put, List.setIfInBounds_toArray, List.set_cons_zero, List.set_cons_succ]
  refine wpHT_takeD (i := 18) (d := 72) (v := ?_) (by kernel_rfl) rfl rfl (by decide) (by kernel_rfl) (by kernel_rfl) (fun _ _ _ h => h) (Or.inl ⟨by kernel_rfl, ?_⟩) (by assumption) ?_
  rotate_left
  · intro w hSw; (try dsimp only at hSw); go_simp; (try with_reducible rfl)
  try simp only [Act.put, List.setIfInBounds_toArray, List.set_cons_zero, List.set_cons_succ]
  refine wpHT_takeD (i := 19) (d := 73) (v := ?_) (by kernel_rfl) rfl rfl (by decide) (by kernel_rfl) (by kernel_rfl) (fun _ _ _ h => h) (Or.inl ⟨by kernel_rfl, ?_⟩) (by assumption) ?_
  rotate_left
  · intro w hSw; (try dsimp only at hSw); go_simp; (try with_reducible rfl)
  try simp only [Act.put, List.setIfInBounds_toArray, List.set_cons_zero, List.set_cons_succ]
  refine wpHT_takeD (i := 20) (d := 74) (v := ?_) (by kernel_rfl) rfl rfl (by decide) (by kernel_rfl) (by kernel_rfl) (fun _ _ _ h => h) (Or.inl ⟨by kernel_rfl, ?_⟩) (by assumption) ?_
  rotate_left
  · intro w hSw; (try dsimp only at hSw); go_simp; (try with_reducible rfl)
  try simp only [Act.put, List.setIfInBounds_toArray, List.set_cons_zero, List.set_cons_succ]
  refine wpHT_takeD (i := 21) (d := 75) (v := ?_) (by kernel_rfl) rfl rfl (by decide) (by kernel_rfl) (by kernel_rfl) (fun _ _ _ h => h) (Or.inl ⟨by kernel_rfl, ?_⟩) (by assumption) ?_
  rotate_left
  · intro w hSw; (try dsimp only at hSw); go_simp; (try with_reducible rfl)
  try simp only [Act.put, List.setIfInBounds_toArray, List.set_cons_zero, List.set_cons_succ]
  refine wpHT_takeD (i := 22) (d := 76) (v := ?_) (by kernel_rfl) rfl rfl (by decide) (by kernel_rfl) (by kernel_rfl) (fun _ _ _ h => h) (Or.inl ⟨by kernel_rfl, ?_⟩) (by assumption) ?_
  rotate_left
  · intro w hSw; (try dsimp only at hSw); go_simp; (try with_reducible rfl)
  try simp only [Act.put, List.setIfInBounds_toArray, List.set_cons_zero, List.set_cons_succ]
  refine wpHT_done (by kernel_rfl) ?_
  simp only [List.drop_succ_cons, List.drop_zero]
  go_wp2_with fail
  go_ret
  have h1 : Below w.heap.size w X := HKX.out.below
  exact ⟨rfl, h1.trans (hY5.mono h1.size)⟩
theorem bytes_walk (k : Int) (x : UInt64) (s : List UInt8) (a : Option Addr) (cap : Nat) (b : List UInt8) (w : World) (hT : Laid w) (h : Rd8 w a b.length cap b) : Calls Tryd.prog 9 #[VA k x s, .slice a b.length cap] w fun e w' => e = .returned (.bool true) ∧ Below w.heap.size w w' := by
  cases h1 : decide (s.length ≤ 2000) with
  | false => exact bytes_l1 _ _ _ _ _ _ w hT h h1
  | true =>
    by_cases hl : b.length ≤ 2000
    · exact bytes_main _ _ _ _ _ _ w hT h h1 hl
    · exact bytes_l2 _ _ _ _ _ _ w hT h h1 hl
end Go.Proofs.YtecgjhjglklcnaaDoor
