/-
 A log in memory: its own block, its segments, their records.
 What a log tells: last, First, Next, Safe.
 What a log tells: Safe, a record, Read.
 What a log tells, by its state: First, Next, Safe, Read, From.
 What a log tells: From.
-/
import Derived.Test.YtjjcilinghgphaaGreatV2
import Derived.Test.YtjjcilinghgphaaGreatK5
import Derived.Test.YtjjcilinghgphaaGreatFZ
import Derived.Test.YtjjcilinghgphaaGreatK4
/-! ### A log in memory: its own block, its segments, their records. -/
namespace Go.Proofs.YtjjcilinghgphaaGreat
open Go.RowKit Go.Maps
set_option maxRecDepth 100000

theorem S8v : STy Tryz.prog 24 5 (.int .u8 0) 1 1 := S8
theorem Sseg : STy Tryz.prog 84 91 (.pointer none) 1 8 := ⟨Tryz.underlying84, info_parts (by kernel_rfl), rfl, by decide⟩
/-- A segment in memory: what it is, its block, its records' row, the records' own slices. -/
structure Sv where
 sg : Sg
 b : Nat
 v : Value
 us : List Value
def Sv.ptr (x : Sv) : Value := .pointer (some ⟨x.b, 0, none⟩)
/-- Records: each in a row of its own. -/
def RecsAt (w : World) (us : List Value) (rs : List (List UInt8)) : Prop := us.length = rs.length ∧ ∀ (i : Nat) (u : Value) (r : List UInt8), us[i]? = some u → rs[i]? = some r → Own8 w 0 5 u r
structure SvAt (w : World) (x : Sv) : Prop where
 row : w.heap[x.b]? = some (.cells #[.int .i64 (x.sg.f : Nat), x.v, .int .i64 (szS x.sg : Nat)] 90 (0, 0))
 recs : OwnO w 24 x.v x.sg.rs.length x.us
 each : RecsAt w x.us x.sg.rs
structure LgM (w : World) (l d : Nat) (dir : List UInt8) (room : Int) (sf : Nat) (sv : Value) (L : List Sv) : Prop where
 hd : w.heap[l]? = some (.cells #[.pointer (some ⟨d, 0, none⟩), .string (bs dir), .int .i64 room, sv, .int .i64 (sf : Nat)] 86 (0, 0))
 hs : OwnO w 91 sv L.length (L.map Sv.ptr)
 hc : ∀ x ∈ L, SvAt w x
 ap : L.Pairwise fun x y => x.b ≠ y.b ∧ ∀ k, x.v.ownBlock = some k → y.v.ownBlock ≠ some k
structure CovL (S : Nat → Prop) (l : Nat) (sv : Value) (L : List Sv) : Prop where
 cl : S l
 cs : ∀ k, sv.ownBlock = some k → S k
 cx : ∀ x ∈ L, S x.b ∧ (∀ k, x.v.ownBlock = some k → S k) ∧ ∀ u ∈ x.us, ∀ k, u.ownBlock = some k → S k
/-- A log, its blocks within S. -/
def LgS (w : World) (l d : Nat) (S : Nat → Prop) (dir : List UInt8) (room : Int) (sf : Nat) (gs : List Sg) : Prop :=
 ∃ sv L, LgM w l d dir room sf sv L ∧ L.map Sv.sg = gs ∧ CovL S l sv L ∧ ∀ k, S k → k < w.heap.size
def LgD (w : World) (l d : Nat) (S : Nat → Prop) (dir : List UInt8) (room : Int) (sf : Nat) (gs : List Sg) (w' : World) : Prop := LgS w' l d (Sx S w w') dir room sf gs ∧ Fr S w w'

theorem RecsAt.keep {w w' : World} {us : List Value} {rs : List (List UInt8)} (h : RecsAt w us rs) (hb : ∀ u ∈ us, ∀ k, u.ownBlock = some k → w'.heap[k]? = w.heap[k]?) : RecsAt w' us rs :=
 ⟨h.1, fun i u r hu hr => ownsRow_keep (h.2 i u r hu hr) fun k hk => hb u (List.mem_of_getElem? hu) k hk⟩
theorem SvAt.keep {w w' : World} {x : Sv} (h : SvAt w x) (h1 : w'.heap[x.b]? = w.heap[x.b]?) (h2 : ∀ k, x.v.ownBlock = some k → w'.heap[k]? = w.heap[k]?) (h3 : ∀ u ∈ x.us, ∀ k, u.ownBlock = some k → w'.heap[k]? = w.heap[k]?) : SvAt w' x :=
 ⟨h1.trans h.row, h.recs.keep h2, h.each.keep h3⟩
theorem RecsAt.lt {w : World} {us : List Value} {rs : List (List UInt8)} (h : RecsAt w us rs) : ∀ u ∈ us, ∀ k, u.ownBlock = some k → k < w.heap.size ∧ ∃ cur, w.heap[k]? = some (.cells cur 5 (0, 0)) := by
 intro u hu k hk
 obtain ⟨i, hi⟩ := List.getElem?_of_mem hu
 have hlt := (List.getElem?_eq_some_iff.1 hi).1
 have ho := h.2 i u _ hi (List.getElem?_eq_getElem (by rw [← h.1]; exact hlt))
 exact ⟨(World.ownsRow.lt ho k hk).2, ownsRow_type ho hk⟩
section
variable {w w' : World} {l d : Nat} {dir : List UInt8} {room : Int} {sf : Nat} {sv : Value} {L : List Sv} {S S' : Nat → Prop} {gs : List Sg}
theorem LgM.keep (h : LgM w l d dir room sf sv L) (h1 : w'.heap[l]? = w.heap[l]?) (h2 : ∀ k, sv.ownBlock = some k → w'.heap[k]? = w.heap[k]?)
 (h3 : ∀ x ∈ L, w'.heap[x.b]? = w.heap[x.b]? ∧ (∀ k, x.v.ownBlock = some k → w'.heap[k]? = w.heap[k]?) ∧ ∀ u ∈ x.us, ∀ k, u.ownBlock = some k → w'.heap[k]? = w.heap[k]?) : LgM w' l d dir room sf sv L :=
 ⟨h1.trans h.hd, h.hs.keep h2, fun x hx => (h.hc x hx).keep (h3 x hx).1 (h3 x hx).2.1 (h3 x hx).2.2, h.ap⟩
theorem LgS.keep (h : LgS w l d S dir room sf gs) (hf : Fr S' w w') (hn : ∀ k, S k → ¬ S' k) : LgS w' l d S dir room sf gs := by
 obtain ⟨sv, L, hM, hL, hC, hlt⟩ := h
 have hb : ∀ k, S k → w'.heap[k]? = w.heap[k]? := fun k hk => hf.block k (hlt k hk) (hn k hk)
 exact ⟨sv, L, hM.keep (hb _ hC.cl) (fun k hk => hb k (hC.cs k hk)) (fun x hx => ⟨hb _ (hC.cx x hx).1, fun k hk => hb k ((hC.cx x hx).2.1 k hk), fun u hu k hk => hb k ((hC.cx x hx).2.2 u hu k hk)⟩), hL, hC, fun k hk => Nat.lt_of_lt_of_le (hlt k hk) hf.size⟩
theorem LgS.below (h : LgS w l d S dir room sf gs) (hb : Below w.heap.size w w') : LgS w' l d S dir room sf gs := by
 have hf : Fr (fun k => w.heap.size ≤ k) w w' := Fr.of_below hb
 refine h.keep hf fun k hk => ?_
 obtain ⟨_, _, _, _, _, hlt⟩ := h
 have := hlt k hk
 omega
theorem LgS.lt (h : LgS w l d S dir room sf gs) : ∀ k, S k → k < w.heap.size := by
 obtain ⟨_, _, _, _, _, hlt⟩ := h
 exact hlt
/-- The log's own cells. -/
theorem LgM.cells (h : LgM w l d dir room sf sv L) : w.cell? ⟨l, 0, none⟩ = some (.pointer (some ⟨d, 0, none⟩)) ∧ w.cell? ⟨l, 1, none⟩ = some (.string (bs dir)) ∧ w.cell? ⟨l, 2, none⟩ = some (.int .i64 room) ∧ w.cell? ⟨l, 3, none⟩ = some sv ∧ w.cell? ⟨l, 4, none⟩ = some (.int .i64 (sf : Nat)) ∧
 w.frozen? ⟨l, 3, none⟩ = false ∧ w.frozen? ⟨l, 4, none⟩ = false :=
 ⟨cell_of_row w l 0 _ _ _ h.hd, cell_of_row w l 1 _ _ _ h.hd, cell_of_row w l 2 _ _ _ h.hd, cell_of_row w l 3 _ _ _ h.hd, cell_of_row w l 4 _ _ _ h.hd, frozen_of_row w l 3 _ _ h.hd, frozen_of_row w l 4 _ _ h.hd⟩
theorem SvAt.cells {x : Sv} (h : SvAt w x) : w.cell? ⟨x.b, 0, none⟩ = some (.int .i64 (x.sg.f : Nat)) ∧ w.cell? ⟨x.b, 1, none⟩ = some x.v ∧ w.cell? ⟨x.b, 2, none⟩ = some (.int .i64 (szS x.sg : Nat)) ∧ w.frozen? ⟨x.b, 1, none⟩ = false ∧ w.frozen? ⟨x.b, 2, none⟩ = false :=
 ⟨cell_of_row w x.b 0 _ _ _ h.row, cell_of_row w x.b 1 _ _ _ h.row, cell_of_row w x.b 2 _ _ _ h.row, frozen_of_row w x.b 1 _ _ h.row, frozen_of_row w x.b 2 _ _ h.row⟩
/-- A segment's pointer. -/
theorem LgM.at (h : LgM w l d dir room sf sv L) {i : Nat} {x : Sv} (hx : L[i]? = some x) : ∃ r off cap, sv = .slice (some ⟨r, off, none⟩) L.length cap ∧ w.cell? ⟨r, off + i, none⟩ = some (.pointer (some ⟨x.b, 0, none⟩)) ∧ SvAt w x := by
 obtain ⟨a, cap, hv, hr⟩ := h.hs.rd
 have hi := (List.getElem?_eq_some_iff.1 hx).1
 obtain ⟨r, off, rfl, _, hc⟩ := hr.at (by omega)
 exact ⟨r, off, cap, hv, hc i _ (by rw [List.getElem?_map, hx]; rfl), h.hc x (List.mem_of_getElem? hx)⟩
end
end Go.Proofs.YtjjcilinghgphaaGreat

/-! ### What a log tells: last, First, Next, Safe. -/
namespace Go.Proofs.YtjjcilinghgphaaGreat
open Go.RowKit Go.Maps
set_option maxRecDepth 100000
attribute [local go_sem] bs_size bs_toList
section
variable {w w' : World} {l d : Nat} {dir : List UInt8} {room : Int} {sf : Nat} {sv : Value} {L : List Sv} {S S' : Nat → Prop} {gs : List Sg}
theorem LgM.draws (h : LgM w l d dir room sf sv L) (hw : ∃ k, w' = w.drewN k) : LgM w' l d dir room sf sv L := by
 obtain ⟨k, rfl⟩ := hw
 exact h.keep rfl (fun _ _ => rfl) fun _ _ => ⟨rfl, fun _ _ => rfl, fun _ _ _ _ => rfl⟩
theorem LgM.len (h : LgM w l d dir room sf sv L) : L.length ≤ maxLen := h.hs.len
set_option maxHeartbeats 1000000 in
theorem last_seg (h : LgM w l d dir room sf sv L) {x : Sv} (hx : L[L.length - 1]? = some x) :
 Calls Tryz.prog 53 #[.pointer (some ⟨l, 0, none⟩)] w fun e w' => e = .returned (.pointer (some ⟨x.b, 0, none⟩)) ∧ ∃ n, w' = w.drewN n := by
 have hlt := (List.getElem?_eq_some_iff.1 hx).1
 have hmx := h.len
 unfold maxLen at hmx
 obtain ⟨r, off, cap, rfl, hp, _⟩ := h.at hx
 obtain ⟨_, _, _, c3, _, _, _⟩ := h.cells
 obtain ⟨n, hn⟩ : ∃ n, L.length = n := ⟨_, rfl⟩
 rw [hn] at hlt hmx hp c3
 have w1 : IntKind.i64.wrap ((n : Int) - 1) = (n : Int) - 1 := IntWalk.i64_in _ (by omega)
 have w2 : 0 ≤ (n : Int) - 1 := by omega
 have w2' : (1 : Int) ≤ n := by omega
 have w3 : (n : Int) - 1 < n := by omega
 have w4 : ((n : Int) - 1).toNat = n - 1 := by omega
 clear hx h
 go_enter Tryz.func53, Tryz.ntmps53
 go_wp2
 go_quiet (fail)
 go_wp2
 go_ret
 exact ⟨rfl, _, rfl⟩
set_option maxHeartbeats 1000000 in
theorem first_seg (h : LgM w l d dir room sf sv L) {x : Sv} (hx : L[0]? = some x) :
 Calls Tryz.prog 30 #[.pointer (some ⟨l, 0, none⟩)] w fun e w' => e = .returned (.int .i64 (x.sg.f : Nat)) ∧ w = w' := by
 have hlt := (List.getElem?_eq_some_iff.1 hx).1
 have hmx := h.len
 unfold maxLen at hmx
 obtain ⟨r, off, cap, rfl, hp, hs⟩ := h.at hx
 obtain ⟨_, _, _, c3, _, _, _⟩ := h.cells
 obtain ⟨s0, _, _, _, _⟩ := hs.cells
 simp only [Nat.add_zero] at hp
 obtain ⟨n, hn⟩ : ∃ n, L.length = n := ⟨_, rfl⟩
 rw [hn] at hlt hmx c3
 clear hx h hs hn
 go_enter Tryz.func30, Tryz.ntmps30
 go_wp2
 go_ret
 exact ⟨rfl, rfl⟩
set_option maxHeartbeats 1000000 in
theorem next_seg (h : LgM w l d dir room sf sv L) {x : Sv} (hx : L[L.length - 1]? = some x) (hf : x.sg.f + x.sg.rs.length ≤ 1000000000) :
 Calls Tryz.prog 21 #[.pointer (some ⟨l, 0, none⟩)] w fun e w' => e = .returned (.int .i64 ((x.sg.f + x.sg.rs.length : Nat))) ∧ ∃ n, w' = w.drewN n := by
 have q := fun W (hW : ∃ k, W = w.drewN k) => last_seg (h.draws hW) hx
 obtain ⟨r, off, cap, rfl, hp, hs⟩ := h.at hx
 obtain ⟨_, _, _, c3, _, _, _⟩ := h.cells
 obtain ⟨s0, s1, _, _, _⟩ := hs.cells
 obtain ⟨a, c, hv, _⟩ := hs.recs.rd
 rw [hv] at s1
 have w1 : IntKind.i64.wrap ((x.sg.f : Int) + (x.sg.rs.length : Int)) = (x.sg.f : Int) + (x.sg.rs.length : Int) := IntWalk.i64_in _ (by omega)
 obtain ⟨m, hm⟩ : ∃ m, x.sg.rs.length = m := ⟨_, rfl⟩
 rw [hm] at s1 w1 hf
 have Q := Lib.hid q
 have HM := Lib.hid hm
 clear hx h hs hm q
 go_enter Tryz.func21, Tryz.ntmps21
 go_wp2
 go_quiet ((go_at_call 53; exact Calls.quiet_of (Q.out _ ⟨_, rfl⟩)))
 go_wp2
 go_ret
 exact ⟨by rw [HM.out]; congr 2, _, rfl⟩
end
end Go.Proofs.YtjjcilinghgphaaGreat

/-! ### What a log tells: Safe, a record, Read. -/
namespace Go.Proofs.YtjjcilinghgphaaGreat
open Go.RowKit Go.Maps
set_option maxRecDepth 100000
attribute [local go_sem] bs_size bs_toList
section
variable {w w' : World} {l d : Nat} {dir : List UInt8} {room : Int} {sf : Nat} {sv : Value} {L : List Sv} {S S' : Nat → Prop} {gs : List Sg}
set_option maxHeartbeats 1000000 in
theorem safe_seg (h : LgM w l d dir room sf sv L) {x : Sv} (hx : L[0]? = some x) (h1 : 1 ≤ x.sg.f) (hf : x.sg.f ≤ 1000000000) (hs : sf ≤ 1000000000) :
 Calls Tryz.prog 17 #[.pointer (some ⟨l, 0, none⟩)] w fun e w' => e = .returned (.int .i64 (max sf (x.sg.f - 1) : Nat)) ∧ ∃ n, w' = w.drewN n := by
 have q := fun W (hW : ∃ k, W = w.drewN k) => first_seg (h.draws hW) hx
 obtain ⟨_, _, _, _, c4, _, _⟩ := h.cells
 have w1 : IntKind.i64.wrap ((x.sg.f : Int) - 1) = (x.sg.f : Int) - 1 := IntWalk.i64_in _ (by omega)
 have Q : Hid (∀ W, (∃ k, W = w.drewN k) → Calls Tryz.prog 30 #[.pointer (some ⟨l, 0, none⟩)] W fun e w' => e = .returned (.int .i64 (x.sg.f : Nat)) ∧ w' = W) := fun W hW => (q W hW).mono fun e w' hh => ⟨hh.1, hh.2.symm⟩
 clear h hx q
 have HX : Hid (max (sf : Int) ((x.sg.f : Int) - 1) = ((max sf (x.sg.f - 1) : Nat) : Int)) := by show _ = _; omega
 go_enter Tryz.func17, Tryz.ntmps17
 go_wp2
 go_quiet ((go_at_call 30; exact Calls.quiet_of_same (Q.out _ ⟨_, rfl⟩)))
 go_wp2
 go_ret
 exact ⟨congrArg (fun z => Ending.returned (.int .i64 z)) HX.out, _, rfl⟩
set_option maxHeartbeats 4000000 in
theorem at_seg (h : LgM w l d dir room sf sv L) {k0 : Nat} {x : Sv} (hx : L[k0]? = some x) (N : Nat) (h1 : x.sg.f ≤ N) (hN : N ≤ 1000000000) (h3 : ∀ j y, k0 < j → L[j]? = some y → N < y.sg.f ∧ y.sg.f ≤ 1000000000)
 {r : List UInt8} (hr : x.sg.rs[N - x.sg.f]? = some r) (hrl : r.length ≤ 4194304) :
 Calls Tryz.prog 58 #[.pointer (some ⟨l, 0, none⟩), .int .i64 (N : Nat)] w (Made8 w r) := by
 have hmx := h.len
 unfold maxLen at hmx
 have hlt := (List.getElem?_eq_some_iff.1 hx).1
 obtain ⟨rr, off, cap, rfl, hp, hs⟩ := h.at hx
 obtain ⟨_, _, _, c3, _, _, _⟩ := h.cells
 obtain ⟨s0, s1, _, _, _⟩ := hs.cells
 obtain ⟨a, c, hv, hrd⟩ := hs.recs.rd
 rw [hv] at s1
 have hjl := (List.getElem?_eq_some_iff.1 hr).1
 obtain ⟨rb, ro, rfl, _, hc⟩ := hrd.at (by omega)
 obtain ⟨u, hu⟩ : ∃ u, x.us[N - x.sg.f]? = some u := ⟨_, List.getElem?_eq_getElem (by rw [hs.each.1]; exact hjl)⟩
 have hcu := hc _ _ hu
 obtain ⟨au, cu, rfl, hru⟩ := (hs.each.2 _ _ _ hu hr).rd
 have H := Lib.hid h
 have H3 := Lib.hid h3
 have HX := Lib.hid hx
 have HRU := Lib.hid hru
 obtain ⟨n, hn⟩ : ∃ n, L.length = n := ⟨_, rfl⟩
 have HN := Lib.hid hn
 obtain ⟨m, hm⟩ : ∃ m, x.sg.rs.length = m := ⟨_, rfl⟩
 obtain ⟨f, hf⟩ : ∃ f, x.sg.f = f := ⟨_, rfl⟩
 obtain ⟨j, hj⟩ : ∃ j, N - f = j := ⟨_, rfl⟩
 rw [hn] at hmx hlt c3
 rw [hm, hf] at hjl
 rw [hf] at h1 s0 hcu
 rw [hm] at s1
 rw [hj] at hcu hjl
 have hm9 : m ≤ 9223372036854775807 := by rw [← hm]; exact hs.recs.len
 have HF := Lib.hid hf
 obtain ⟨sb, hsb⟩ : ∃ sb, x.b = sb := ⟨_, rfl⟩
 rw [hsb] at hp s0 s1
 clear h h3 hx hru hs hrd hc hu hr hn hm hv hf hsb
 go_enter Tryz.func58, Tryz.ntmps58
 go_wp2
 go_loop [5] (fun i => ∃ k : Nat, k0 ≤ k ∧ k < n ∧ i = .int .i64 (k : Nat)) (fun i => (intOf i).toNat)
 case atStart => exact ⟨n - 1, by omega, by omega, by congr 1; omega⟩
 case round =>
  obtain ⟨k, hk0, hk, rfl⟩ := hrel
  by_cases hgt : k0 < k
  · obtain ⟨y, hy⟩ : ∃ y, L[k]? = some y := ⟨_, List.getElem?_eq_getElem (by rw [HN.out]; exact hk)⟩
    obtain ⟨r', off', cap', e1, hp', hs'⟩ := H.out.at hy
    have hy3 := (H3.out k y hgt hy)
    obtain ⟨t0, _, _, _, _⟩ := hs'.cells
    simp only [Value.slice.injEq, Option.some.injEq, Addr.mk.injEq] at e1
    obtain ⟨⟨rfl, rfl, _⟩, _, rfl⟩ := e1
    obtain ⟨yf, hyf⟩ : ∃ yf, y.sg.f = yf := ⟨_, rfl⟩
    rw [hyf] at hy3 t0
    obtain ⟨hy3a, hy3b⟩ := hy3
    have hgo : decide ((N : Int) < (yf : Int)) = true := by simp; omega
    have hgo' : decide (N < yf) = true := by simpa using hy3a
    clear hy hs' hyf
    go_wp2
    go_round
    case rel => exact ⟨k - 1, by omega, by omega, by congr 1; omega⟩
    case measure => simp [intOf]; omega
  · obtain rfl : k = k0 := by omega
    have hgo : decide (N < f) = false := by simp; omega
    have w1 : IntKind.i64.wrap ((N : Int) - (f : Int)) = (N : Int) - (f : Int) := IntWalk.i64_in _ (by omega)
    have w2 : 0 ≤ (N : Int) - (f : Int) := by omega
    have w2' : (f : Int) ≤ (N : Int) := by omega
    have w3 : (N : Int) - (f : Int) < (m : Int) := by omega
    have w4 : ((N : Int) - (f : Int)).toNat = j := by omega
    have w5 : IntKind.i64.wrap ((N : Int) - (f : Int)) = (j : Int) := by rw [w1]; omega
    clear w1 w2 w2' w3 w4
    go_wp2
    refine wp_region_ht 25 (fun W => W.cell? ⟨l, 3, none⟩ = some (.slice (some ⟨rr, off, none⟩) n cap) ∧ W.cell? ⟨rr, off + k, none⟩ = some (.pointer (some ⟨sb, 0, none⟩)) ∧ W.cell? ⟨sb, 0, none⟩ = some (.int .i64 (f : Nat)) ∧ W.cell? ⟨sb, 1, none⟩ = some (.slice (some ⟨rb, ro, none⟩) m c) ∧ W.cell? ⟨rb, ro + j, none⟩ = some (.slice au r.length cu)) (by kernel_rfl) (by kernel_rfl) ?_ (fun hHeld => ?_)
    · exact ⟨c3, hp, s0, s1, hcu⟩
    try simp only [Act.put, List.setIfInBounds_toArray, List.set_cons_zero, List.set_cons_succ]
    refine wpHT_takeD (i := 1) (d := 27) (v := ?_) (by kernel_rfl) rfl rfl (by decide) (by kernel_rfl) (by kernel_rfl) (fun _ _ _ h => h) (Or.inl ⟨by kernel_rfl, ?_⟩) (by assumption) ?_
    rotate_left
    · intro w hSw; (try dsimp only at hSw); go_simp; (try with_reducible rfl)
    try simp only [Act.put, List.setIfInBounds_toArray, List.set_cons_zero, List.set_cons_succ]
    refine wpHT_takeD (i := 2) (d := 28) (v := ?_) (by kernel_rfl) rfl rfl (by decide) (by kernel_rfl) (by kernel_rfl) (fun _ _ _ h => h) (Or.inl ⟨by kernel_rfl, ?_⟩) (by assumption) ?_
    rotate_left
    · intro w hSw; (try dsimp only at hSw); go_simp; (try with_reducible rfl)
    try simp only [Act.put, List.setIfInBounds_toArray, List.set_cons_zero, List.set_cons_succ]
    refine wpHT_takeD (i := 3) (d := 29) (v := ?_) (by kernel_rfl) rfl rfl (by decide) (by kernel_rfl) (by kernel_rfl) (fun _ _ _ h => h) (Or.inl ⟨by kernel_rfl, ?_⟩) (by assumption) ?_
    rotate_left
    · intro w hSw; (try dsimp only at hSw); go_simp; (try with_reducible rfl)
    try simp only [Act.put, List.setIfInBounds_toArray, List.set_cons_zero, List.set_cons_succ]
    refine wpHT_takeD (i := 4) (d := 30) (v := ?_) (by kernel_rfl) rfl rfl (by decide) (by kernel_rfl) (by kernel_rfl) (fun _ _ _ h => h) (Or.inl ⟨by kernel_rfl, ?_⟩) (by assumption) ?_
    rotate_left
    · intro w hSw; (try dsimp only at hSw); go_simp; (try with_reducible rfl)
    try simp only [Act.put, List.setIfInBounds_toArray, List.set_cons_zero, List.set_cons_succ]
    refine wpHT_takeD (i := 5) (d := 31) (v := ?_) (by kernel_rfl) rfl rfl (by decide) (by kernel_rfl) (by kernel_rfl) (fun _ _ _ h => h) (Or.inl ⟨by kernel_rfl, ?_⟩) (by assumption) ?_
    rotate_left
    · intro w hSw; (try dsimp only at hSw); go_simp; (try with_reducible rfl)
    try simp only [Act.put, List.setIfInBounds_toArray, List.set_cons_zero, List.set_cons_succ]
    refine wpHT_takeD (i := 6) (d := 32) (v := ?_) (by kernel_rfl) rfl rfl (by decide) (by kernel_rfl) (by kernel_rfl) (fun _ _ _ h => h) (Or.inl ⟨by kernel_rfl, ?_⟩) (by assumption) ?_
    rotate_left
    · intro w hSw; (try dsimp only at hSw); go_simp; (try with_reducible rfl)
    try simp only [Act.put, List.setIfInBounds_toArray, List.set_cons_zero, List.set_cons_succ]
    refine wpHT_takeD (i := 7) (d := 33) (v := ?_) (by kernel_rfl) rfl rfl (by decide) (by kernel_rfl) (by kernel_rfl) (fun _ _ _ h => h) (Or.inl ⟨by kernel_rfl, ?_⟩) (by assumption) ?_
    rotate_left
    · intro w hSw; (try dsimp only at hSw); go_simp; (try with_reducible rfl)
    try simp only [Act.put, List.setIfInBounds_toArray, List.set_cons_zero, List.set_cons_succ]
    refine wpHT_takeD (i := 8) (d := 34) (v := ?_) (by kernel_rfl) rfl rfl (by decide) (by kernel_rfl) (by kernel_rfl) (fun _ _ _ h => h) (Or.inl ⟨by kernel_rfl, ?_⟩) (by assumption) ?_
    rotate_left
    · intro w hSw; (try dsimp only at hSw); go_simp; (try with_reducible rfl)
    try simp only [Act.put, List.setIfInBounds_toArray, List.set_cons_zero, List.set_cons_succ]
    refine wpHT_takeD (i := 9) (d := 35) (v := ?_) (by kernel_rfl) rfl rfl (by decide) (by kernel_rfl) (by kernel_rfl) (fun _ _ _ h => h) (Or.inl ⟨by kernel_rfl, ?_⟩) (by assumption) ?_
    rotate_left
    · intro w hSw; (try dsimp only at hSw); go_simp; (try with_reducible rfl)
    try simp only [Act.put, List.setIfInBounds_toArray, List.set_cons_zero, List.set_cons_succ]
    refine wpHT_takeD (i := 10) (d := 36) (v := ?_) (by kernel_rfl) rfl rfl (by decide) (by kernel_rfl) (by kernel_rfl) (fun _ _ _ h => h) (Or.inl ⟨by kernel_rfl, ?_⟩) (by assumption) ?_
    rotate_left
    · intro w hSw; (try dsimp only at hSw); go_simp; (try with_reducible rfl)
    try simp only [Act.put, List.setIfInBounds_toArray, List.set_cons_zero, List.set_cons_succ]
    refine wpHT_takeD (i := 11) (d := 37) (v := ?_) (by kernel_rfl) rfl rfl (by decide) (by kernel_rfl) (by kernel_rfl) (fun _ _ _ h => h) (Or.inl ⟨by kernel_rfl, ?_⟩) (by assumption) ?_
    rotate_left
    · intro w hSw; (try dsimp only at hSw); go_simp; (try with_reducible rfl)
    try simp only [Act.put, List.setIfInBounds_toArray, List.set_cons_zero, List.set_cons_succ]
    refine wpHT_takeD (i := 12) (d := 38) (v := ?_) (by kernel_rfl) rfl rfl (by decide) (by kernel_rfl) (by kernel_rfl) (fun _ _ _ h => h) (Or.inl ⟨by kernel_rfl, ?_⟩) (by assumption) ?_
    rotate_left
    · intro w hSw; (try dsimp only at hSw); go_simp; (try with_reducible rfl)
    try simp only [Act.put, List.setIfInBounds_toArray, List.set_cons_zero, List.set_cons_succ]
    refine wpHT_takeD (i := 13) (d := 39) (v := ?_) (by kernel_rfl) rfl rfl (by decide) (by kernel_rfl) (by kernel_rfl) (fun _ _ _ h => h) (Or.inl ⟨by kernel_rfl, ?_⟩) (by assumption) ?_
    rotate_left
    · intro w hSw; (try dsimp only at hSw); go_simp; (try with_reducible rfl)
    try simp only [Act.put, List.setIfInBounds_toArray, List.set_cons_zero, List.set_cons_succ]
    refine wpHT_takeD (i := 14) (d := 40) (v := ?_) (by kernel_rfl) rfl rfl (by decide) (by kernel_rfl) (by kernel_rfl) (fun _ _ _ h => h) (Or.inl ⟨by kernel_rfl, ?_⟩) (by assumption) ?_
    rotate_left
    · intro w hSw; (try dsimp only at hSw); go_simp; (try with_reducible rfl)
    try simp only [Act.put, List.setIfInBounds_toArray, List.set_cons_zero, List.set_cons_succ]
    refine wpHT_takeD (i := 15) (d := 41) (v := ?_) (by kernel_rfl) rfl rfl (by decide) (by kernel_rfl) (by kernel_rfl) (fun _ _ _ h => h) (Or.inl ⟨by kernel_rfl, ?_⟩) (by assumption) ?_
    rotate_left
    · intro w hSw; (try dsimp only at hSw); go_simp; (try with_reducible rfl)
    try simp only [Act.put, List.setIfInBounds_toArray, List.set_cons_zero, List.set_cons_succ]
    refine wpHT_takeD (i := 16) (d := 42) (v := ?_) (by kernel_rfl) rfl rfl (by decide) (by kernel_rfl) (by kernel_rfl) (fun _ _ _ h => h) (Or.inl ⟨by kernel_rfl, ?_⟩) (by assumption) ?_
    rotate_left
    · intro w hSw; (try dsimp only at hSw); go_simp; (try with_reducible rfl)
    try simp only [Act.put, List.setIfInBounds_toArray, List.set_cons_zero, List.set_cons_succ]
    refine wpHT_takeD (i := 17) (d := 43) (v := ?_) (by kernel_rfl) rfl rfl (by decide) (by kernel_rfl) (by kernel_rfl) (fun _ _ _ h => h) (Or.inl ⟨by kernel_rfl, ?_⟩) (by assumption) ?_
    rotate_left
    · intro w hSw; (try dsimp only at hSw); go_simp; (try with_reducible rfl)
    try simp only [Act.put, List.setIfInBounds_toArray, List.set_cons_zero, List.set_cons_succ]
    refine wpHT_takeD (i := 18) (d := 44) (v := ?_) (by kernel_rfl) rfl rfl (by decide) (by kernel_rfl) (by kernel_rfl) (fun _ _ _ h => h) (Or.inl ⟨by kernel_rfl, ?_⟩) (by assumption) ?_
    rotate_left
    · intro w hSw; (try dsimp only at hSw); go_simp; (try with_reducible rfl)
    try simp only [Act.put, List.setIfInBounds_toArray, List.set_cons_zero, List.set_cons_succ]
    refine wpHT_takeD (i := 19) (d := 45) (v := ?_) (by kernel_rfl) rfl rfl (by decide) (by kernel_rfl) (by kernel_rfl) (fun _ _ _ h => h) (Or.inl ⟨by kernel_rfl, ?_⟩) (by assumption) ?_
    rotate_left
    · intro w hSw; (try dsimp only at hSw); go_simp; (try with_reducible rfl)
    try simp only [Act.put, List.setIfInBounds_toArray, List.set_cons_zero, List.set_cons_succ]
    refine wpHT_takeD (i := 20) (d := 46) (v := ?_) (by kernel_rfl) rfl rfl (by decide) (by kernel_rfl) (by kernel_rfl) (fun _ _ _ h => h) (Or.inl ⟨by kernel_rfl, ?_⟩) (by assumption) ?_
    rotate_left
    · intro w hSw; (try dsimp only at hSw); go_simp; (try with_reducible rfl)
    try simp only [Act.put, List.setIfInBounds_toArray, List.set_cons_zero, List.set_cons_succ]
    refine wpHT_takeD (i := 21) (d := 47) (v := ?_) (by kernel_rfl) rfl rfl (by decide) (by kernel_rfl) (by kernel_rfl) (fun _ _ _ h => h) (Or.inl ⟨by kernel_rfl, ?_⟩) (by assumption) ?_
    rotate_left
    · intro w hSw; (try dsimp only at hSw); go_simp; (try with_reducible rfl)
    try simp only [Act.put, List.setIfInBounds_toArray, List.set_cons_zero, List.set_cons_succ]
    refine wpHT_takeD (i := 22) (d := 48) (v := ?_) (by kernel_rfl) rfl rfl (by decide) (by kernel_rfl) (by kernel_rfl) (fun _ _ _ h => h) (Or.inl ⟨by kernel_rfl, ?_⟩) (by assumption) ?_
    rotate_left
    · intro w hSw; (try dsimp only at hSw); go_simp; (try with_reducible rfl)
    try simp only [Act.put, List.setIfInBounds_toArray, List.set_cons_zero, List.set_cons_succ]
    refine wpHT_takeD (i := 23) (d := 49) (v := ?_) (by kernel_rfl) rfl rfl (by decide) (by kernel_rfl) (by kernel_rfl) (fun _ _ _ h => h) (Or.inl ⟨by kernel_rfl, ?_⟩) (by assumption) ?_
    rotate_left
    · intro w hSw; (try dsimp only at hSw); go_simp; (try with_reducible rfl)
    try simp only [Act.put, List.setIfInBounds_toArray, List.set_cons_zero, List.set_cons_succ]
    refine wpHT_takeD (i := 24) (d := 50) (v := ?_) (by kernel_rfl) rfl rfl (by decide) (by kernel_rfl) (by kernel_rfl) (fun _ _ _ h => h) (Or.inl ⟨by kernel_rfl, ?_⟩) (by assumption) ?_
    rotate_left
    · intro w hSw; (try dsimp only at hSw); go_simp; (try with_reducible rfl)
    try simp only [Act.put, List.setIfInBounds_toArray, List.set_cons_zero, List.set_cons_succ]
    refine wpHT_one (i := 0) (by kernel_rfl) rfl (by decide) (fun K hK => ?_)
    go_simp
    refine hK.out _ _ ?_ (fun hHeld => ?_)
    · exact ⟨cell_alloc_keep (w := w.drew) c3, cell_alloc_keep (w := w.drew) hp, cell_alloc_keep (w := w.drew) s0, cell_alloc_keep (w := w.drew) s1, cell_alloc_keep (w := w.drew) hcu⟩
    clear hK K
    try simp only [Act.put, List.setIfInBounds_toArray, List.set_cons_zero, List.set_cons_succ]
    refine wpHT_done (by kernel_rfl) ?_
    simp only [List.drop_succ_cons, List.drop_zero]
    go_wp2_with (at_builtin; refine wpList_app S8 rfl _ _ rfl w.heap.size rfl (made0 w.drew) rfl (HRU.out.below ((Below.refl _ w).drew.alloc (Nat.le_refl _) _)).2 (B8_one _) (by omega) (by unfold maxLen; omega) (by simp) ?_; intro v' w' ho hb hgr; have HO := Lib.hid ho; have HB := Lib.hid hb; clear ho hb hgr)
    go_ret
    exact ⟨_, rfl, Own8.mk HO.out (by simp) (by simp), ((Below.refl _ w).drew.alloc (Nat.le_refl _) _).trans HB.out⟩
end
end Go.Proofs.YtjjcilinghgphaaGreat

/-! ### What a log tells, by its state: First, Next, Safe, Read, From. -/
namespace Go.Proofs.YtjjcilinghgphaaGreat
open Go.RowKit Go.Maps
set_option maxRecDepth 100000
attribute [local go_sem] bs_size bs_toList

theorem below_dn {B : Nat} {a w : World} (h : Below B a w) (n : Nat) : Below B a (w.drewN n) := h.trans ⟨rfl, rfl, rfl, Nat.le_refl _, fun _ _ => rfl⟩
theorem chain_ge : ∀ {r : List Sg} {b y : Sg}, ChainS (b :: r) → y ∈ b :: r → b.f ≤ y.f
 | [], b, y, _, hy => by rw [List.mem_singleton] at hy; rw [hy]; exact Nat.le_refl _
 | c :: r, b, y, h, hy => by
  rcases List.mem_cons.1 hy with rfl | hy
  · exact Nat.le_refl _
  · have := chain_ge h.2 hy
    have := h.1
    omega
theorem allR_cons (a : Sg) (l : List Sg) : allR (a :: l) = a.rs ++ allR l := by simp [allR]
theorem find_seg {N : Nat} : ∀ (l : List Sg) (a : Sg), ChainS (a :: l) → a.f ≤ N → N < a.f + (allR (a :: l)).length →
 ∃ (k : Nat) (x : Sg), (a :: l)[k]? = some x ∧ x.f ≤ N ∧ N < x.f + x.rs.length ∧ x.rs[N - x.f]? = (allR (a :: l))[N - a.f]? ∧ ∀ (j : Nat) (y : Sg), k < j → (a :: l)[j]? = some y → N < y.f
 | [], a, _, h1, h2 => by
  refine ⟨0, a, rfl, h1, by simpa [allR] using h2, by simp [allR], fun j y hj hy => ?_⟩
  rw [List.getElem?_eq_none (by simp; omega)] at hy
  cases hy
 | b :: r, a, hc, h1, h2 => by
  have hb := hc.1
  rw [allR_cons, List.length_append] at h2
  by_cases hN : N < b.f
  · refine ⟨0, a, rfl, h1, by omega, ?_, fun j y hj hy => ?_⟩
    · have h5 : N - a.f < a.rs.length := by omega
      rw [allR_cons a, List.getElem?_append_left h5]
    · obtain ⟨j, rfl⟩ : ∃ i, j = i + 1 := ⟨j - 1, by omega⟩
      rw [List.getElem?_cons_succ] at hy
      have := chain_ge hc.2 (List.mem_of_getElem? hy)
      omega
  · obtain ⟨k, x, e1, e2, e3, e4, e5⟩ := find_seg (N := N) r b hc.2 (by omega) (by omega)
    refine ⟨k + 1, x, by rw [List.getElem?_cons_succ]; exact e1, e2, e3, ?_, fun j y hj hy => ?_⟩
    · have h5 : a.rs.length ≤ N - a.f := by omega
      rw [e4, allR_cons a, List.getElem?_append_right h5]
      congr 1; omega
    · obtain ⟨j, rfl⟩ : ∃ i, j = i + 1 := ⟨j - 1, by omega⟩
      rw [List.getElem?_cons_succ] at hy
      exact e5 j y (by omega) hy
theorem segs_cons (g : LG) : ∃ a l, g.segs = a :: l ∧ a.f = g.first := by
 have h := g.first_eq
 unfold LG.segs at h ⊢
 cases hp : g.pre with
 | nil => exact ⟨g.la, [], rfl, by rw [hp] at h; simpa using h⟩
 | cons x r => exact ⟨x, r ++ [g.la], rfl, by rw [hp] at h; simpa using h⟩
theorem rec_len {s : DS} {g : LG} (h : LOk s g) {x : Sg} (hx : x ∈ g.segs) {r : List UInt8} (hr : r ∈ x.rs) : r.length ≤ 4194304 := by
 have h1 := (h.num x hx).sz
 unfold szS at h1
 have : ∀ l : List (List UInt8), r ∈ l → r.length ≤ (joinF l).length := by
  intro l
  induction l with
  | nil => intro h; cases h
  | cons p q ih =>
   intro h
   show _ ≤ (frameOf p ++ joinF q).length
   rw [List.length_append, frameOf_length]
   rcases List.mem_cons.1 h with rfl | h
   · omega
   · have := ih h; omega
 have := this _ hr
 omega
theorem LOk.find {s : DS} {g : LG} (h : LOk s g) {N : Nat} (h1 : g.first ≤ N) (h2 : N < g.next) :
 ∃ (k : Nat) (x : Sg), g.segs[k]? = some x ∧ x.f ≤ N ∧ x.rs[N - x.f]? = some (recL g N) ∧ (recL g N).length ≤ 4194304 ∧ ∀ (j : Nat) (y : Sg), k < j → g.segs[j]? = some y → N < y.f ∧ y.f ≤ 1000000000 := by
 obtain ⟨a, l, hs, ha⟩ := segs_cons g
 have hal := h.all_len
 have hch := h.chain
 unfold LG.all at hal
 rw [hs] at hal hch
 obtain ⟨k, x, e1, e2, e3, e4, e5⟩ := find_seg (N := N) l a hch (by omega) (by omega)
 rw [← hs] at e1
 have hr : x.rs[N - x.f]? = some (recL g N) := by
  rw [e4]
  unfold recL LG.all
  rw [hs, List.getD_eq_getElem?_getD, ha]
  have : N - g.first < (allR (a :: l)).length := by omega
  rw [show ((N : Int).toNat) = N from rfl, List.getElem?_eq_getElem this]
  rfl
 refine ⟨k, x, e1, e2, hr, rec_len h (List.mem_of_getElem? e1) (List.mem_of_getElem? hr), fun j y hj hy => ⟨e5 j y hj (by rw [← hs]; exact hy), ?_⟩⟩
 have := (h.num y (List.mem_of_getElem? hy)).f2
 omega

section
variable {w w' : World} {l d : Nat} {S S' : Nat → Prop} {s : DS} {g : LG}
def LgG (w : World) (l d : Nat) (S : Nat → Prop) (g : LG) : Prop := LgS w l d S g.dir g.room g.sf g.segs
theorem LgG.first (h : LgG w l d S g) (hk : LOk s g) : Calls Tryz.prog 30 #[.pointer (some ⟨l, 0, none⟩)] w fun e w' => e = .returned (.int .i64 (g.first : Nat)) ∧ w = w' := by
 obtain ⟨sv, L, hM, hL, hC, hlt⟩ := h
 obtain ⟨a, r, hs, ha⟩ := segs_cons g
 rw [hs] at hL
 obtain ⟨x, hx, hxa⟩ : ∃ x, L[0]? = some x ∧ x.sg = a := by
  cases L with
  | nil => cases hL
  | cons y q => simp at hL; exact ⟨y, rfl, hL.1⟩
 rw [← ha, ← hxa]
 exact first_seg hM hx
theorem last_view {L : List Sv} (hL : L.map Sv.sg = g.segs) : ∃ P x, L = P ++ [x] ∧ P.map Sv.sg = g.pre ∧ x.sg = g.la ∧ L[L.length - 1]? = some x := by
 unfold LG.segs at hL
 obtain ⟨P, Q, rfl, h1, h2⟩ := List.map_eq_append_iff.1 hL
 obtain ⟨x, rfl, h3⟩ := List.map_eq_singleton_iff.1 h2
 exact ⟨P, x, rfl, h1, h3, by simp⟩
theorem LgG.next (h : LgG w l d S g) (hk : LOk s g) : Calls Tryz.prog 21 #[.pointer (some ⟨l, 0, none⟩)] w fun e w' => e = .returned (.int .i64 (g.next : Nat)) ∧ ∃ n, w' = w.drewN n := by
 obtain ⟨sv, L, hM, hL, hC, hlt⟩ := h
 obtain ⟨P, x, _, _, hx, hg⟩ := last_view hL
 have hb := hk.next_le
 unfold LG.next at hb ⊢
 rw [← hx] at hb ⊢
 exact next_seg hM hg (by omega)
theorem LgG.safe (h : LgG w l d S g) (hk : LOk s g) : Calls Tryz.prog 17 #[.pointer (some ⟨l, 0, none⟩)] w fun e w' => e = .returned (.int .i64 (g.safe : Nat)) ∧ ∃ n, w' = w.drewN n := by
 obtain ⟨sv, L, hM, hL, hC, hlt⟩ := h
 obtain ⟨a, r, hs, ha⟩ := segs_cons g
 rw [hs] at hL
 obtain ⟨x, hx, hxa⟩ : ∃ x, L[0]? = some x ∧ x.sg = a := by
  cases L with
  | nil => cases hL
  | cons y q => simp at hL; exact ⟨y, rfl, hL.1⟩
 have h1 := hk.first_pos
 have h2 := hk.safe_lt
 have h3 := hk.next_le
 have h4 := hk.sfl
 have h5 := hk.all_len
 unfold LG.safe
 rw [← ha, ← hxa] at h1 h5 ⊢
 exact safe_seg hM hx h1 (by omega) (by omega)
theorem LgG.at (h : LgG w l d S g) (hk : LOk s g) {N : Nat} (h1 : g.first ≤ N) (h2 : N < g.next) : Calls Tryz.prog 58 #[.pointer (some ⟨l, 0, none⟩), .int .i64 (N : Nat)] w (Made8 w (recL g N)) := by
 obtain ⟨sv, L, hM, hL, hC, hlt⟩ := h
 obtain ⟨k, x, e1, e2, e3, e4, e5⟩ := hk.find h1 h2
 have hb := hk.next_le
 rw [← hL, List.getElem?_map] at e1
 obtain ⟨v, hv, rfl⟩ := Option.map_eq_some_iff.1 e1
 exact at_seg hM hv N e2 (by omega) (fun j y hj hy => e5 j y.sg hj (by rw [← hL, List.getElem?_map, hy]; rfl)) e3 e4
theorem LgG.below (h : LgG w l d S g) (hb : Below w.heap.size w w') : LgG w' l d S g := LgS.below h hb
theorem LgG.keep (h : LgG w l d S g) (hf : Fr S' w w') (hn : ∀ k, S k → ¬ S' k) : LgG w' l d S g := LgS.keep h hf hn
theorem LgG.drewN (h : LgG w l d S g) (n : Nat) : LgG (w.drewN n) l d S g := h.below (below_dn (Below.refl _ _) n)
def WReadPost (w : World) (g : LG) (n : Int) (e : Ending) (w' : World) : Prop :=
 ∃ v, e = .returned (.tuple #[v, .int .i64 (if hasL g n then 0 else 8)]) ∧ Own8 w' w.heap.size 5 v (if hasL g n then recL g n else []) ∧ Below w.heap.size w w'
set_option maxHeartbeats 1000000 in
theorem wread_any (h : LgG w l d S g) (hk : LOk s g) (n : Int) (_hn0 : -9223372036854775808 ≤ n) (_hn1 : n ≤ 9223372036854775807) :
 Calls Tryz.prog 34 #[.pointer (some ⟨l, 0, none⟩), .int .i64 n] w (WReadPost w g n) := by
 have hno : Hid (hasL g n = false → ∀ i, WReadPost w g n (.returned (.tuple #[.slice none 0 0, .int .i64 8])) (w.drewN i)) := fun hb i =>
  ⟨_, by rw [hb]; rfl, by rw [hb]; exact Own8.nil _ _ _, below_dn (Below.refl _ _) i⟩
 have H1 := Lib.hid (h.first hk)
 have H2 := Lib.hid (h.next hk)
 by_cases hlo : n < (g.first : Int)
 · have hb : hasL g n = false := by unfold hasL; simp; omega
   go_enter Tryz.func34, Tryz.ntmps34
   go_wp2_with fail
   go_at_call 30
   refine (H1.out).mono ?_
   rintro e w1 ⟨rfl, rfl⟩
   go_wp2_with fail
   go_ret2
   exact hno.out hb 0
 · by_cases hhi : (g.next : Int) ≤ n
   · have hb : hasL g n = false := by unfold hasL; simp; omega
     go_enter Tryz.func34, Tryz.ntmps34
     go_wp2_with fail
     go_at_call 30
     refine (H1.out).mono ?_
     rintro e w1 ⟨rfl, rfl⟩
     go_wp2_with fail
     go_at_call 21
     refine (H2.out).mono ?_
     rintro e w1 ⟨rfl, i, rfl⟩
     go_wp2_with fail
     go_ret2
     exact hno.out hb i
   · have hb : hasL g n = true := by unfold hasL; simp; omega
     obtain ⟨N, rfl⟩ : ∃ N : Nat, n = (N : Int) := ⟨n.toNat, by omega⟩
     have h3 : g.first ≤ N := by omega
     have h4 : N < g.next := by omega
     have hy : Hid (∀ i v w', Own8 w' (w.drewN i).heap.size 5 v (recL g N) → Below (w.drewN i).heap.size (w.drewN i) w' → WReadPost w g N (.returned (.tuple #[v, .int .i64 0])) w') := fun i v w' k1 k2 =>
      ⟨_, by rw [hb]; rfl, by rw [hb]; exact k1, (below_dn (Below.refl _ _) i).trans k2⟩
     have H3 : Hid (∀ i, Calls Tryz.prog 58 #[.pointer (some ⟨l, 0, none⟩), .int .i64 (N : Nat)] (w.drewN i) (Made8 (w.drewN i) (recL g N))) := fun i => (h.drewN i).at hk h3 h4
     clear h hk hno hb h3 h4
     go_enter Tryz.func34, Tryz.ntmps34
     go_wp2_with fail
     go_at_call 30
     refine (H1.out).mono ?_
     rintro e w1 ⟨rfl, rfl⟩
     go_wp2_with fail
     go_at_call 21
     refine (H2.out).mono ?_
     rintro e w1 ⟨rfl, i, rfl⟩
     go_wp2_with fail
     go_at_call 58
     refine (H3.out i).mono ?_
     rintro e w1 ⟨v, rfl, ho, hb⟩
     have HY := Lib.hid (hy.out i v w1 ho hb)
     clear ho hb
     go_wp2_with fail
     go_ret2
     exact HY.out
end
end Go.Proofs.YtjjcilinghgphaaGreat

/-! ### What a log tells: From. -/
namespace Go.Proofs.YtjjcilinghgphaaGreat
open Go.RowKit Go.Maps
set_option maxRecDepth 100000
attribute [local go_sem] bs_size bs_toList
theorem take_snocV {α : Type} {l : List α} {k : Nat} {x : α} (h : l[k]? = some x) : l.take (k + 1) = l.take k ++ [x] := by
 obtain ⟨hk, rfl⟩ := List.getElem?_eq_some_iff.1 h
 rw [List.take_succ_eq_append_getElem hk]
section
variable {w w' : World} {l d : Nat} {S S' : Nat → Prop} {s : DS} {g : LG}
def WFromPost (w : World) (g : LG) (n most : Int) (e : Ending) (w' : World) : Prop :=
 ∃ v vs, e = .returned (.tuple #[v, .int .i64 (if mayL g n then 0 else 8)]) ∧ Own88 w' w.heap.size v vs (if mayL g n then fromL g n most else []) ∧ Below w.heap.size w w'
theorem fromL_take {s : DS} {g : LG} (hk : LOk s g) {N : Nat} {most : Int} (h1 : g.first ≤ N) : fromL g (N : Int) most = (g.all.drop (N - g.first)).take (manyL g N most) ∧ (N ≤ g.safe + 1 → (manyL g N most) + N ≤ g.safe + 1 ∧ ((manyL g N most : Nat) : Int) ≤ max most 0) ∧
 (∀ k : Nat, (k : Int) < most → k + N ≤ g.safe → k < manyL g N most) ∧ ∀ k : Nat, k < manyL g N most → (k : Int) < most ∧ k + N ≤ g.safe ∧ (g.all.drop (N - g.first))[k]? = some (recL g ((N + k : Nat) : Int)) := by
 refine ⟨rfl, fun h => ⟨by unfold manyL; omega, by unfold manyL; omega⟩, fun k h2 h3 => by unfold manyL; omega, fun k h2 => ?_⟩
 have h3 : (k : Int) < most ∧ k + N ≤ g.safe := by unfold manyL at h2; omega
 refine ⟨h3.1, h3.2, ?_⟩
 have h4 := hk.safe_lt
 have h5 := hk.all_len
 rw [List.getElem?_drop]
 unfold recL
 rw [List.getD_eq_getElem?_getD, show ((N + k : Nat) : Int).toNat = N + k from rfl, show N - g.first + k = N + k - g.first by omega, List.getElem?_eq_getElem (by omega)]
 rfl
set_option maxHeartbeats 4000000 in
theorem wfrom_any (h : LgG w l d S g) (hk : LOk s g) (n most : Int) (_hn0 : -9223372036854775808 ≤ n) (hn1 : n ≤ 9223372036854775807) :
 Calls Tryz.prog 19 #[.pointer (some ⟨l, 0, none⟩), .int .i64 n, .int .i64 most] w (WFromPost w g n most) := by
 have hno : Hid (mayL g n = false → ∀ i, WFromPost w g n most (.returned (.tuple #[.slice none 0 0, .int .i64 8])) (w.drewN i)) := fun hb i =>
  ⟨_, [], by rw [hb]; rfl, by rw [hb]; exact Own88.nil _ _, below_dn (Below.refl _ _) i⟩
 have H1 := Lib.hid (h.first hk)
 have H2 := Lib.hid (h.safe hk)
 have hsl := hk.safe_lt
 have hnl := hk.next_le
 by_cases hlo : n < (g.first : Int)
 · have hb : mayL g n = false := by unfold mayL; simp; omega
   clear h hk
   go_enter Tryz.func19, Tryz.ntmps19
   go_wp2_with fail
   go_at_call 30
   refine (H1.out).mono ?_
   rintro e w1 ⟨rfl, rfl⟩
   go_wp2_with fail
   go_ret2
   exact hno.out hb 0
 · by_cases hhi : (g.safe : Int) + 1 < n
   · have hb : mayL g n = false := by unfold mayL; simp; omega
     clear h hk
     go_enter Tryz.func19, Tryz.ntmps19
     go_wp2_with fail
     go_at_call 30
     refine (H1.out).mono ?_
     rintro e w1 ⟨rfl, rfl⟩
     go_wp2_with fail
     go_at_call 17
     refine (H2.out).mono ?_
     rintro e w1 ⟨rfl, i, rfl⟩
     go_wp2_with fail
     go_ret2
     exact hno.out hb i
   · have hb : mayL g n = true := by unfold mayL; simp; omega
     obtain ⟨N, rfl⟩ : ∃ N : Nat, n = (N : Int) := ⟨n.toNat, by omega⟩
     have h3 : g.first ≤ N := by omega
     obtain ⟨f1, f2, f3, f4⟩ := fromL_take (most := most) hk h3
     have f2' := f2 (by omega)
     obtain ⟨M, hM⟩ : ∃ M, manyL g N most = M := ⟨_, rfl⟩
     obtain ⟨R, hR⟩ : ∃ R, g.all.drop (N - g.first) = R := ⟨_, rfl⟩
     rw [hM] at f1 f2' f3 f4
     rw [hR] at f1 f4
     have hy : Hid (∀ v vs w', Own88 w' w.heap.size v vs (R.take M) → Below w.heap.size w w' → WFromPost w g N most (.returned (.tuple #[v, .int .i64 0])) w') := fun v vs w' k1 k2 =>
      ⟨_, vs, by rw [hb]; rfl, by rw [hb]; exact f1 ▸ k1, k2⟩
     have hRlen : R.length + N = g.next := by rw [← hR, List.length_drop]; have := hk.all_len; omega
     have HL := Lib.hid h
     have HK := Lib.hid hk
     have F3 := Lib.hid f3
     have F4 := Lib.hid f4
     obtain ⟨f2a, f2b⟩ := f2'
     obtain ⟨sa, hsa⟩ : ∃ sa, g.safe = sa := ⟨_, rfl⟩
     obtain ⟨nx, hnx⟩ : ∃ nx, g.next = nx := ⟨_, rfl⟩
     rw [hsa] at hhi hsl f2a
     rw [hnx] at hsl hnl hRlen
     have HRLEN := Lib.hid hRlen
     have HSA := Lib.hid hsa
     have HNX := Lib.hid hnx
     rw [hsa] at H2
     have e1 : decide (N < g.first) = false := by simp; omega
     have e2 : decide ((sa : Int) + 1 < (N : Int)) = false := by simp; omega
     clear h hk hno hb f1 f2 f3 f4 hM hR hsa hnx hRlen
     go_enter Tryz.func19, Tryz.ntmps19
     go_wp2_with fail
     go_at_call 30
     refine (H1.out).mono ?_
     rintro e w1 ⟨rfl, rfl⟩
     go_wp2_with fail
     go_at_call 17
     refine (H2.out).mono ?_
     rintro e w1 ⟨rfl, i, rfl⟩
     go_wp2_with fail
     clear H1 H2
     go_loopw [1, 8] (fun nv v wr => ∃ (k : Nat) (vs : List Value), k ≤ M ∧ nv = .int .i64 ((N + k : Nat) : Int) ∧ Own88 wr w.heap.size v vs (R.take k) ∧ Below w.heap.size w wr) (fun nv _ _ => M + N - (intOf nv).toNat)
     case atStart => exact ⟨0, [], Nat.zero_le _, rfl, Own88.nil _ _, below_dn (Below.refl _ _) i⟩
     case round =>
      obtain ⟨k, vs, hkM, rfl, hown, hbw⟩ := hrel
      have hle := hbw.size
      have hsf := (HL.out.below hbw).safe HK.out
      rw [HSA.out] at hsf
      have HSF := Lib.hid hsf
      have hRl : (R.take k).length = k := by rw [List.length_take]; have := HRLEN.out; omega
      have HRL := Lib.hid hRl
      obtain ⟨av, cv, hav, hrv⟩ := (show OwnO _ _ _ _ _ from OwnO.of_own hown.1).rd
      rw [hRl] at hav
      subst hav
      clear hRl
      have HOWN := Lib.hid hown
      have HBW := Lib.hid hbw
      clear hown hbw hrv hsf
      by_cases hlt : k < M
      · obtain ⟨g1, g2, g3⟩ := F4.out k hlt
        have hnw : Calls Tryz.prog 58 #[.pointer (some ⟨l, 0, none⟩), .int .i64 ((N + k : Nat) : Int)] wr (Made8 wr (recL g ((N + k : Nat) : Int))) := (HL.out.below HBW.out).at HK.out (by omega) (by rw [HNX.out]; rw [HSA.out] at g2; omega)
        have HAT : Hid (∀ j, Calls Tryz.prog 58 #[.pointer (some ⟨l, 0, none⟩), .int .i64 ((N + k : Nat) : Int)] (wr.drewN j) (Made8 (wr.drewN j) (recL g ((N + k : Nat) : Int)))) := fun j =>
         ((HL.out.below HBW.out).drewN j).at HK.out (by omega) (by rw [HNX.out]; rw [HSA.out] at g2; omega)
        have G3 := Lib.hid g3
        rw [HSA.out] at g2
        have d1 : decide (N + k ≤ sa) = true := by simp; omega
        have d1' : ((N + k : Nat) : Int) ≤ (sa : Int) := by omega
        clear g3 hnw
        obtain ⟨NK, hNK⟩ : ∃ NK, N + k = NK := ⟨_, rfl⟩
        rw [hNK] at HAT G3 d1 d1' ⊢
        have HNK := Lib.hid hNK
        clear hNK
        go_wp2_with fail
        go_at_call 17
        refine (HSF.out).mono ?_
        rintro e w1 ⟨rfl, j, rfl⟩
        go_wp2_with fail
        go_at_call 58
        refine (HAT.out j).mono ?_
        rintro e w2 ⟨u, rfl, hou, hbu⟩
        obtain ⟨au, cu, rfl, hru⟩ := hou.rd
        have hbu' : Below wr.heap.size wr w2 := (below_dn (Below.refl _ wr) j).trans hbu
        have hou' : Own8 w2 wr.heap.size 5 (.slice au (recL g (NK : Int)).length cu) (recL g (NK : Int)) := hou
        have hv5 := ownsRow_below HOWN.out.1 (Nat.le_refl _) hbu'
        rw [HRL.out] at hv5
        have HOU := Lib.hid hou'
        have HBU := Lib.hid hbu'
        clear hru hou hou' hbu hbu'
        have hz2 := HBU.out.size
        go_wp2_with (at_builtin; refine wpList_app S88 rfl (.tmp 32) (.tmp 36) rfl w.heap.size rfl (hv5.alloc _) rfl (Rd.one _ _ _) ?c1 ?c2 ?c3 ?c4 ?_)
        case c1 => simp [Value.oneCell']
        case c2 => omega
        case c3 => unfold maxLen; omega
        case c4 => simp; omega
        intro u6 w6 hown6 hb6 hg6
        have h88 := Own88.snoc HOWN.out (HBU.out.alloc (by omega) _) (HOU.out.alloc _) hle (by rw [HRL.out]; exact hown6) hg6
        have hb7 : Below w.heap.size w w6 := ((HBW.out.trans (HBU.out.mono hle)).alloc (by omega) _).trans hb6
        have htk : R.take (k + 1) = R.take k ++ [recL g (NK : Int)] := take_snocV G3.out
        rw [← htk] at h88
        have H88 := Lib.hid h88
        have HB7 := Lib.hid hb7
        clear hown6 hb6 hg6 hv5 h88 hb7 htk
        go_wp2
        go_roundw
        case rel => exact ⟨k + 1, _, by omega, by rw [← HNK.out]; congr 1, H88.out, HB7.out⟩
        case measure => have := HNK.out; simp [intOf]; omega
      · obtain rfl : k = M := by omega
        by_cases hs : N + k ≤ sa
        · have hms : ¬ ((k : Int) < most) := fun h => by have := F3.out k h (by rw [HSA.out]; omega); omega
          have d1' : ((N + k : Nat) : Int) ≤ (sa : Int) := by omega
          have d1 : decide (N + k ≤ sa) = true := by simp; omega
          obtain ⟨NK, hNK⟩ : ∃ NK, N + k = NK := ⟨_, rfl⟩
          rw [hNK] at d1 d1' ⊢
          clear hNK
          go_wp2_with fail
          go_at_call 17
          refine (HSF.out).mono ?_
          rintro e w1 ⟨rfl, j, rfl⟩
          have HF : Hid (WFromPost w g N most (.returned (.tuple #[.slice av k cv, .int .i64 0])) (wr.drewN j)) := hy.out _ vs _ (HOWN.out.below (Nat.le_refl _) (below_dn (Below.refl _ _) j)) (below_dn HBW.out j)
          go_wp2_with fail
          go_ret2
          exact HF.out
        · have d1' : ¬ ((N + k : Nat) : Int) ≤ (sa : Int) := by omega
          have d1 : decide (N + k ≤ sa) = false := by simp; omega
          obtain ⟨NK, hNK⟩ : ∃ NK, N + k = NK := ⟨_, rfl⟩
          rw [hNK] at d1 d1' ⊢
          clear hNK
          go_wp2_with fail
          go_at_call 17
          refine (HSF.out).mono ?_
          rintro e w1 ⟨rfl, j, rfl⟩
          have HF := Lib.hid (hy.out _ vs (wr.drewN j) (HOWN.out.below (Nat.le_refl _) (below_dn (Below.refl _ _) j)) (below_dn HBW.out j))
          go_wp2_with fail
          go_ret2
          exact HF.out
end
end Go.Proofs.YtjjcilinghgphaaGreat
