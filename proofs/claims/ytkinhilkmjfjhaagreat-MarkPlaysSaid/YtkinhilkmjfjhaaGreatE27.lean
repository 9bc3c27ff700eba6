/-
  The reference's disk in memory; what reads it: at, name, Size.
-/
import Derived.Test.YtkinhilkmjfjhaaGreatE22
namespace Go.Proofs.YtkinhilkmjfjhaaGreat
open Go.RowKit Go.Maps Go.Sort
set_option maxRecDepth 100000
attribute [local go_sem] bs_size bs_toList

/-- The reference's disk at block c, in blocks S, in state s. Its bytes are never written in place. -/
def Rf (w : World) (c : Nat) (S : Nat → Prop) (s : DS) : Prop :=
  ∃ v vs, w.heap[c]? = some (.cells #[v, .bool s.dn, .int .i64 s.ar, .int .i64 s.wr] 30 (0, 0)) ∧ vs.length = s.fs.length ∧ w.ownsRow 0 100 3 v s.fs.length (flatF s.fs vs) ∧ S c ∧
    (∀ k, v.ownBlock = some k → S k ∧ k ≠ c) ∧ (∀ k, S k → k < w.heap.size) ∧
    ∀ (i : Nat) (f : Fl) (u : Value), s.fs[i]? = some f → vs[i]? = some u → ∃ ai ci, u = .slice ai f.dt.length ci ∧ Rd8 w ai f.dt.length ci f.dt ∧ BlkIn ai f.dt.length fun b => S b ∧ b ≠ c ∧ v.ownBlock ≠ some b
/-- What the reference's disk shows. -/
theorem Rf.row {w : World} {c : Nat} {S : Nat → Prop} {s : DS} (h : Rf w c S s) : ∃ a cap, w.cell? ⟨c, 0, none⟩ = some (.slice a s.fs.length cap) ∧ w.cell? ⟨c, 1, none⟩ = some (.bool s.dn) ∧ w.cell? ⟨c, 2, none⟩ = some (.int .i64 s.ar) ∧ w.cell? ⟨c, 3, none⟩ = some (.int .i64 s.wr) ∧ RdFs w S a s.fs.length cap s.fs := by
  obtain ⟨v, vs, hc, hl, hr, hS, hv, hlt, hd⟩ := h
  obtain ⟨a, cap, rfl, hrd⟩ := Rd.of_own hr
  refine ⟨a, cap, cell_of_row w c 0 _ _ _ hc, cell_of_row w c 1 _ _ _ hc, cell_of_row w c 2 _ _ _ hc, cell_of_row w c 3 _ _ _ hc, rfl, fun _ b hb => (hv b (by rw [ownBlock_sl]; exact hb)).1, vs, hl, hrd, fun i f u hf hu => ?_⟩
  obtain ⟨ai, ci, e, h8, hb⟩ := hd i f u hf hu
  exact ⟨ai, ci, e, h8, fun h0 b hb' => (hb h0 b hb').1⟩
theorem Rf.keep {w w' : World} {c : Nat} {S S' : Nat → Prop} {s : DS} (h : Rf w c S s) (hf : Fr S' w w') (hn : ∀ k, S k → ¬ S' k) : Rf w' c S s := by
  obtain ⟨v, vs, hc, hl, hr, hS, hv, hlt, hd⟩ := h
  refine ⟨v, vs, (hf.block c (hlt c hS) (hn c hS)).trans hc, hl, ownsRow_keep hr fun k hk => hf.block k (hlt k (hv k hk).1) (hn k (hv k hk).1), hS, hv, fun k hk => Nat.lt_of_lt_of_le (hlt k hk) hf.size, fun i f u hfi hui => ?_⟩
  obtain ⟨ai, ci, e, h8, hb⟩ := hd i f u hfi hui
  exact ⟨ai, ci, e, h8.keep0 hf fun h0 b hb' => hn b (hb h0 b hb').1, hb⟩
theorem Rf.below {w w' : World} {c : Nat} {S : Nat → Prop} {s : DS} (h : Rf w c S s) (hb : Below w.heap.size w w') : Rf w' c S s :=
  h.keep (Fr.of_below hb) fun k hk hk' => by obtain ⟨v, vs, _, _, _, _, _, hlt, _⟩ := h; have := hlt k hk; omega
/-- A file's place. -/
def atI (n : List UInt8) (l : List Fl) : Int := match l.findIdx? (fun f => f.nm == n) with | some i => (i : Nat) | none => -1
theorem atI_hit {n : List UInt8} {l : List Fl} {k : Nat} {f : Fl} (h : ∀ g ∈ l.take k, g.nm ≠ n) (hk : l[k]? = some f) (hf : f.nm = n) : atI n l = (k : Nat) := by
  have : l.findIdx? (fun f => f.nm == n) = some k := by
    obtain ⟨hlt, he⟩ := List.getElem?_eq_some_iff.1 hk
    rw [List.findIdx?_eq_some_iff_getElem]
    refine ⟨hlt, by rw [he]; simpa using hf, fun j hj => ?_⟩
    have := h l[j] (List.mem_of_getElem? (i := j) (by rw [List.getElem?_take, if_pos hj]; exact List.getElem?_eq_getElem _))
    simpa using this
  unfold atI; rw [this]
theorem atI_miss {n : List UInt8} {l : List Fl} (h : ∀ g ∈ l, g.nm ≠ n) : atI n l = -1 := by
  have : l.findIdx? (fun f => f.nm == n) = none := List.findIdx?_eq_none_iff.2 fun g hg => by simpa using h g hg
  unfold atI; rw [this]
set_option maxHeartbeats 1000000 in
theorem at_any (c : Nat) (S : Nat → Prop) (s : DS) (n : List UInt8) (hl : s.fs.length ≤ 64) (w : World) (h : Rf w c S s) :
    Calls Tryz.prog 81 #[.pointer (some ⟨c, 0, none⟩), .string (bs n)] w fun e w' => e = .returned (.int .i64 (atI n s.fs)) ∧ w = w' := by
  obtain ⟨a, cap, c0, _, _, _, hr⟩ := h.row
  clear h
  obtain ⟨m, hm⟩ : ∃ m, s.fs.length = m := ⟨_, rfl⟩
  rw [hm] at c0 hr hl
  have HR := Lib.hid hr
  have HM := Lib.hid hm
  clear hr hm
  go_enter Tryz.func81, Tryz.ntmps81
  go_wp2
  go_loopw [5] (fun i wr => ∃ k : Nat, k ≤ m ∧ i = .int .i64 k ∧ w = wr ∧ Hid (∀ g ∈ s.fs.take k, g.nm ≠ n)) (fun i _ => m - (intOf i).toNat)
  case atStart => exact ⟨0, Nat.zero_le _, rfl, rfl, fun g hg => by simp at hg⟩
  case round =>
    obtain ⟨k, hk, rfl, rfl, HT⟩ := hrel
    by_cases hlt : k < m
    · obtain ⟨f, hf⟩ : ∃ f, s.fs[k]? = some f := ⟨_, List.getElem?_eq_getElem (by have := HM.out; omega)⟩
      obtain ⟨b, off, ai, ci, rfl, q1, _, _, _, _⟩ := HR.out.at hf
      have HF := Lib.hid hf
      clear hf
      by_cases hn : f.nm = n
      · have e1 : (f.nm == n) = true := by simpa using hn
        have hres := Lib.hid (atI_hit HT.out HF.out hn)
        clear hn
        go_wp2
        go_ret
        exact ⟨by rw [hres.out]; rfl, rfl⟩
      · have e1 : (f.nm == n) = false := by simpa using hn
        have HT2 : Hid (∀ g ∈ s.fs.take (k + 1), g.nm ≠ n) := fun g hg => by
          rw [List.take_add_one, HF.out] at hg
          rcases List.mem_append.1 hg with h1 | h1
          · exact HT.out g h1
          · simp at h1; subst h1; exact hn
        clear hn
        go_wp2
        go_roundw
        case rel => exact ⟨k + 1, by omega, by go_num, trivial, HT2.out⟩
        case measure => simp [intOf]; omega
    · obtain rfl : k = m := by omega
      have hres : Hid (atI n s.fs = -1) := atI_miss fun g hg => HT.out g (by rw [List.take_of_length_le (by rw [HM.out]; omega)]; exact hg)
      go_wp2
      go_ret
      exact ⟨by rw [hres.out]; rfl, rfl⟩
theorem rname_any (n : List UInt8) (hn : n.length ≤ 9223372036854775807) (w : World) : Calls Tryz.prog 84 #[.string (bs n)] w fun e w' => e = .returned (.bool (nameOk n)) ∧ w = w' := by
  by_cases h1 : 1 ≤ n.length
  · by_cases h2 : n.length ≤ 20
    · have hr : Hid (nameOk n = true) := by show _ = _; unfold nameOk; simp [h1, h2]
      go_enter Tryz.func84, Tryz.ntmps84
      go_wp2
      go_ret
      exact ⟨by rw [hr.out]; simp <;> omega, rfl⟩
    · have hr : Hid (nameOk n = false) := by show _ = _; unfold nameOk; simp [h2]
      go_enter Tryz.func84, Tryz.ntmps84
      go_wp2
      go_ret
      exact ⟨by rw [hr.out]; simp <;> omega, rfl⟩
  · have hr : Hid (nameOk n = false) := by show _ = _; unfold nameOk; simp [h1]
    go_enter Tryz.func84, Tryz.ntmps84
    go_wp2
    go_ret
    exact ⟨by rw [hr.out]; simp <;> omega, rfl⟩
theorem tot_next' {l : List Fl} {k : Nat} {f : Fl} (h : l[k]? = some f) : tot (l.take (k + 1)) = tot (l.take k) + f.dt.length := by
  rw [List.take_add_one, h]; simp [tot]
theorem tot_take_le (l : List Fl) (k : Nat) : tot (l.take k) ≤ tot l := by
  have := congrArg tot (List.take_append_drop k l)
  simp only [tot, List.map_append, List.sum_append] at this ⊢; omega
set_option maxHeartbeats 1000000 in
theorem rsize_any (c : Nat) (S : Nat → Prop) (s : DS) (hl : s.fs.length ≤ 64) (ht : tot s.fs ≤ 4194304) (w : World) (h : Rf w c S s) :
    Calls Tryz.prog 62 #[.pointer (some ⟨c, 0, none⟩)] w fun e w' => e = .returned (.int .i64 (tot s.fs : Nat)) ∧ w = w' := by
  obtain ⟨a, cap, c0, _, _, _, hr⟩ := h.row
  clear h
  obtain ⟨m, hm⟩ : ∃ m, s.fs.length = m := ⟨_, rfl⟩
  rw [hm] at c0 hr hl
  have HR := Lib.hid hr
  have HM := Lib.hid hm
  clear hr hm
  go_enter Tryz.func62, Tryz.ntmps62
  go_wp2
  go_loopw [3, 4] (fun v i wr => ∃ k U : Nat, k ≤ m ∧ i = .int .i64 k ∧ v = .int .i64 (U : Nat) ∧ w = wr ∧ Hid (U = tot (s.fs.take k))) (fun _ i _ => m - (intOf i).toNat)
  case atStart => exact ⟨0, 0, Nat.zero_le _, rfl, rfl, rfl, rfl⟩
  case round =>
    obtain ⟨k, U, hk, rfl, rfl, rfl, HU⟩ := hrel
    by_cases hlt : k < m
    · obtain ⟨f, hf⟩ : ∃ f, s.fs[k]? = some f := ⟨_, List.getElem?_eq_getElem (by have := HM.out; omega)⟩
      obtain ⟨b, off, ai, ci, rfl, q1, q2, _, _, _⟩ := HR.out.at hf
      have hU := HU.out
      have htn := tot_next' hf
      have htl := tot_take_le s.fs (k + 1)
      have HTN : Hid (U + f.dt.length = tot (s.fs.take (k + 1))) := by show _ = _; rw [htn, hU]
      have hUl : U + f.dt.length ≤ 4194304 := by have := HTN.out; omega
      clear hf hU htn htl
      go_wp2
      go_roundw
      case rel => exact ⟨k + 1, U + f.dt.length, by omega, by go_num, by go_num, trivial, HTN.out⟩
      case measure => simp [intOf]; omega
    · obtain rfl : k = m := by omega
      have hres : Hid (U = tot s.fs) := by
        have := HU.out
        rw [List.take_of_length_le (by rw [HM.out]; omega)] at this; exact this
      go_wp2
      go_ret
      exact ⟨by rw [← hres.out]; rfl, rfl⟩
end Go.Proofs.YtkinhilkmjfjhaaGreat
