/-
  Operations of the laws of chapter 7, how they lie; Few.
-/
import Derived.Test.YtjjcilinghgphaaVD
namespace Go.Proofs.Ytjjcilinghgphaa
open Go.RowKit Go.Maps Go.Sort
set_option maxRecDepth 100000
attribute [local go_sem] bs_size bs_toList

structure OpW where
  k : Int
  n : Int
  m : Int
  b : List UInt8
  nm : List UInt8
  p : List Int
def int64 (x : Int) : Prop := -9223372036854775808 ≤ x ∧ x ≤ 9223372036854775807
def opwCells (o : OpW) (ab : Option Addr) (cb : Nat) (ap : Option Addr) (cp : Nat) : List Value := [.int .i64 o.k, .int .i64 o.n, .int .i64 o.m, .slice ab o.b.length cb, .string (bs o.nm), .slice ap o.p.length cp]
def OpwRd (w : World) (T : Nat → Prop) (o : OpW) (ab : Option Addr) (cb : Nat) (ap : Option Addr) (cp : Nat) : Prop :=
  (int64 o.k ∧ int64 o.n ∧ int64 o.m ∧ o.nm.length ≤ 9223372036854775807) ∧ Rd8 w ab o.b.length cb o.b ∧ RdI w ap o.p.length cp o.p ∧ BlkIn ab o.b.length T ∧ BlkIn ap o.p.length T
theorem OpwRd.below {T : Nat → Prop} {w w' : World} {o : OpW} {ab : Option Addr} {cb : Nat} {ap : Option Addr} {cp : Nat} (h : OpwRd w T o ab cb ap cp) (hb : Below w.heap.size w w') : OpwRd w' T o ab cb ap cp :=
  ⟨h.1, h.2.1.below hb, h.2.2.1.below hb, h.2.2.2⟩
def RdOw (w : World) (T : Nat → Prop) (a : Option Addr) (n cap : Nat) (os : List OpW) : Prop :=
  n = os.length ∧ BlkIn a n T ∧ ∃ xs, Rd w a n cap 6 xs ∧ ∀ (i : Nat) (o : OpW), os[i]? = some o → ∃ ab cb ap cp, (∀ (j : Nat) (u : Value), (opwCells o ab cb ap cp)[j]? = some u → xs[i * 6 + j]? = some u) ∧ OpwRd w T o ab cb ap cp
theorem RdOw.below {T : Nat → Prop} {w w' : World} {a : Option Addr} {n cap : Nat} {os : List OpW} (h : RdOw w T a n cap os) (hb : Below w.heap.size w w') : RdOw w' T a n cap os := by
  obtain ⟨h1, h2, xs, h3, h4⟩ := h
  refine ⟨h1, h2, xs, h3.below hb, fun i o ho => ?_⟩
  obtain ⟨ab, cb, ap, cp, hc, hr⟩ := h4 i o ho
  exact ⟨ab, cb, ap, cp, hc, hr.below hb⟩
theorem RdOw.mono {T T' : Nat → Prop} {w : World} {a : Option Addr} {n cap : Nat} {os : List OpW} (h : RdOw w T a n cap os) (ht : ∀ b, T b → T' b) : RdOw w T' a n cap os := by
  obtain ⟨h1, h2, xs, h3, h4⟩ := h
  refine ⟨h1, fun h0 b hb => ht b (h2 h0 b hb), xs, h3, fun i o ho => ?_⟩
  obtain ⟨ab, cb, ap, cp, hc, q1, q2, q3, q4, q5⟩ := h4 i o ho
  exact ⟨ab, cb, ap, cp, hc, q1, q2, q3, fun h0 b hb => ht b (q4 h0 b hb), fun h0 b hb => ht b (q5 h0 b hb)⟩
theorem RdOw.at {w : World} {T : Nat → Prop} {a : Option Addr} {n cap : Nat} {os : List OpW} (h : RdOw w T a n cap os) {k : Nat} {o : OpW} (ho : os[k]? = some o) :
    ∃ b off ab cb ap cp, a = some ⟨b, off, none⟩ ∧ OpwRd w T o ab cb ap cp ∧ w.cell? ⟨b, off + k * 6, none⟩ = some (.int .i64 o.k) ∧ w.cell? ⟨b, off + k * 6 + 1, none⟩ = some (.int .i64 o.n) ∧ w.cell? ⟨b, off + k * 6 + 2, none⟩ = some (.int .i64 o.m) ∧
      w.cell? ⟨b, off + k * 6 + 3, none⟩ = some (.slice ab o.b.length cb) ∧ w.cell? ⟨b, off + k * 6 + 4, none⟩ = some (.string (bs o.nm)) ∧ w.cell? ⟨b, off + k * 6 + 5, none⟩ = some (.slice ap o.p.length cp) := by
  obtain ⟨rfl, h2, xs, h3, h4⟩ := h
  have hk : k < os.length := (List.getElem?_eq_some_iff.1 ho).1
  obtain ⟨ab, cb, ap, cp, hc, hr⟩ := h4 k o ho
  obtain ⟨b, off, rfl, _, hcell⟩ := h3.at (by omega)
  refine ⟨b, off, ab, cb, ap, cp, rfl, hr, hcell _ _ (hc 0 _ rfl), ?_, ?_, ?_, ?_, ?_⟩
  · rw [Nat.add_assoc]; exact hcell _ _ (hc 1 _ rfl)
  · rw [Nat.add_assoc]; exact hcell _ _ (hc 2 _ rfl)
  · rw [Nat.add_assoc]; exact hcell _ _ (hc 3 _ rfl)
  · rw [Nat.add_assoc]; exact hcell _ _ (hc 4 _ rfl)
  · rw [Nat.add_assoc]; exact hcell _ _ (hc 5 _ rfl)
def wgtW (o : OpW) : Nat := min o.b.length 20001 + min o.nm.length 20001
def wsumW (os : List OpW) : Nat := (os.map wgtW).sum
theorem wgtW_le (o : OpW) : wgtW o ≤ 40002 := by unfold wgtW; omega
theorem wsumW_le (os : List OpW) : wsumW os ≤ os.length * 40002 := by
  induction os with
  | nil => simp [wsumW]
  | cons o r ih => have := wgtW_le o; simp only [wsumW, List.map_cons, List.sum_cons, List.length_cons] at ih ⊢; omega
theorem wsumW_snoc {os : List OpW} {k : Nat} {o : OpW} (h : os[k]? = some o) : wsumW (os.take (k + 1)) = wsumW (os.take k) + wgtW o := by
  rw [List.take_add_one, h]; simp [wsumW]
theorem wgtW_mem {os : List OpW} {o : OpW} (h : o ∈ os) : wgtW o ≤ wsumW os := by
  induction os with
  | nil => cases h
  | cons y r ih =>
    simp only [wsumW, List.map_cons, List.sum_cons] at ih ⊢
    rcases List.mem_cons.1 h with rfl | h
    · omega
    · have := ih h; omega
def FewW (os : List OpW) : Prop := os.length ≤ 200 ∧ wsumW os ≤ 20000
theorem FewW.each {os : List OpW} (h : FewW os) {o : OpW} (ho : o ∈ os) : o.nm.length ≤ 20000 ∧ o.b.length ≤ 20000 := by
  have h1 := wgtW_mem ho
  have h2 := h.2
  unfold wgtW at h1
  omega
def FewWPost (w : World) (os : List OpW) (e : Ending) (w' : World) : Prop := ∃ b : Bool, e = .returned (.bool b) ∧ (b = true → FewW os) ∧ Below w.heap.size w w'
set_option maxHeartbeats 1000000 in
theorem fewW_any (a : Option Addr) (n cap : Nat) (os : List OpW) (T : Nat → Prop) (w : World) (h : RdOw w T a n cap os) : Calls Try.prog 12 #[.slice a n cap] w (FewWPost w os) := by
  have H0 := Lib.hid h
  have hm : n ≤ 9223372036854775807 := by obtain ⟨_, _, xs, hr, _⟩ := h; exact Nat.le_trans hr.1 hr.2.1
  have HN := Lib.hid h.1
  clear h
  go_enter Try.func12, Try.ntmps12
  go_wp2_with fail
  go_loopw [3, 4] (fun x i wr => ∃ k : Nat, k ≤ n ∧ k ≤ 200 ∧ i = .int .i64 (k : Nat) ∧ x = .int .i64 (wsumW (os.take k) : Nat) ∧ Hid (Below w.heap.size w wr)) (fun _ i _ => n - (intOf i).toNat)
  case atStart => exact ⟨0, Nat.zero_le _, Nat.zero_le _, rfl, rfl, Below.refl _ _⟩
  case round =>
    obtain ⟨k, hk, hk3, rfl, rfl, HF⟩ := hrel
    have hws : wsumW (os.take k) ≤ 8000400 := by
      have := wsumW_le (os.take k)
      rw [List.length_take] at this
      omega
    by_cases hlt : k < n
    · by_cases hl3 : k < 200
      · obtain ⟨o, ho⟩ : ∃ o, os[k]? = some o := ⟨_, List.getElem?_eq_getElem (by have := HN.out; omega)⟩
        obtain ⟨b, off, ab, cb, ap, cp, rfl, hrd, c0, c1, c2, c3, c4, c5⟩ := (H0.out.below HF.out).at ho
        have HS := Lib.hid (wsumW_snoc ho)
        have hb1 : o.b.length ≤ 9223372036854775807 := by obtain ⟨_, hr, _⟩ := hrd; exact Nat.le_trans hr.2.1 hr.2.2.1
        have hb2 := hrd.1.2.2.2
        clear ho hrd
        go_wp2_with fail
        go_quiet (fail)
        go_wp2_with fail
        go_roundw
        case rel => exact ⟨k + 1, by omega, by omega, by go_num, by rw [HS.out]; unfold wgtW; congr 1; omega, below_dn HF.out _⟩
        case measure => simp [intOf]; omega
      · have hn3 : decide ((n : Int) ≤ 200) = false := by simp; omega
        go_wp2_with fail
        go_ret
        exact ⟨_, rfl, (fun h => by cases h), HF.out⟩
    · obtain rfl : k = n := by omega
      have hfin : Hid (decide ((wsumW (os.take k) : Int) ≤ 20000) = true → FewW os) := fun h => by
        have h1 := of_decide_eq_true h
        rw [List.take_of_length_le (by have := HN.out; omega)] at h1
        exact ⟨by have := HN.out; omega, by omega⟩
      go_wp2_with fail
      go_ret
      exact ⟨_, rfl, hfin.out, HF.out⟩
/-- Operations that are handed in. -/
theorem rdOw_open {H : Type} {enc : TypeId × Value → H} {w : World} {base : Nat} {sp : Nat → Bool} {held : Bool} {fuel : Nat} {a : Option Addr} {len cap : Nat} {x : DataW H × List MemPlace}
    (h : DataW.trod enc Try.prog w base sp held fuel 27 (Value.slice a len cap).cells.toList = some x) : ∃ os, RdOw w (fun b => b < w.heap.size) a len cap os := by
  obtain ⟨xs, hr, m, hel⟩ := rd_open (size := 6) Try.underlying27 (by kernel_rfl) (by decide) h
  obtain ⟨os, h1, h2⟩ := choose_list (P := fun i (o : OpW) => ∃ ab cb ap cp, (∀ (j : Nat) (u : Value), (opwCells o ab cb ap cp)[j]? = some u → xs[i * 6 + j]? = some u) ∧ OpwRd w (fun b => b < w.heap.size) o ab cb ap cp) len fun i hi => by
    obtain ⟨y, hy⟩ := hel i hi
    obtain ⟨_, n, hf⟩ := field_of Try.underlying60 hy
    obtain ⟨y0, h0⟩ := hf 0 _ rfl
    obtain ⟨y1, h1⟩ := hf 1 _ rfl
    obtain ⟨y2, h2⟩ := hf 2 _ rfl
    obtain ⟨y3, h3⟩ := hf 3 _ rfl
    obtain ⟨y4, h4⟩ := hf 4 _ rfl
    obtain ⟨y5, h5⟩ := hf 5 _ rfl
    obtain ⟨k, e0, hk⟩ := int_open Try.underlying3 h0
    obtain ⟨nn, e1, hnn⟩ := int_open Try.underlying3 h1
    obtain ⟨mm, e2, hmm⟩ := int_open Try.underlying3 h2
    obtain ⟨ab, lb, cb, e3⟩ := slice_form Try.underlying35 h3
    obtain ⟨nm, e4, hnm⟩ := str_open Try.underlying9 h4
    obtain ⟨ap, lp, cp, e5⟩ := slice_form Try.underlying58 h5
    rw [e3] at h3
    rw [e5] at h5
    obtain ⟨b, hb⟩ := rd8_open (a := ab) (len := lb) (cap := cb) Try.underlying35 Try.underlying5 (by kernel_rfl) h3
    obtain ⟨p, hp⟩ := rdI_open (a := ap) (len := lp) (cap := cp) Try.underlying58 Try.underlying3 (by kernel_rfl) h5
    obtain rfl : lb = b.length := hb.1
    obtain rfl : lp = p.length := hp.1
    have c : ∀ {j : Nat} {v : Value}, j < 6 → (((xs.drop (i * 6)).take 6).drop j).take 1 = [v] → xs[i * 6 + j]? = some v := fun {j v} hj hv => by
      have := one_get hv
      rw [List.getElem?_take, if_pos hj, List.getElem?_drop] at this
      exact this
    refine ⟨⟨k, nn, mm, b, nm, p⟩, ab, cb, ap, cp, fun j u hj => ?_, ⟨hk, hnn, hmm, hnm⟩, hb, hp, hb.2.blkIn (by decide), hp.2.1.blkIn (by decide)⟩
    match j, hj with
    | 0, hj => cases hj; exact c (by decide) e0
    | 1, hj => cases hj; exact c (by decide) e1
    | 2, hj => cases hj; exact c (by decide) e2
    | 3, hj => cases hj; exact c (by decide) e3
    | 4, hj => cases hj; exact c (by decide) e4
    | 5, hj => cases hj; exact c (by decide) e5
    | j + 6, hj => simp [opwCells] at hj
  exact ⟨os, h1.symm, hr.blkIn (by decide), xs, hr, h2⟩
end Go.Proofs.Ytjjcilinghgphaa
