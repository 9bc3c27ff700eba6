/-
  The walk of DiskRefused.
-/
import Derived.Test.YtdbfkneklkdnaaaE22
namespace Go.Proofs.Ytdbfkneklkdnaaa
open Go.RowKit Go.Maps Go.Sort
set_option maxRecDepth 100000
attribute [local go_sem] bs_size bs_toList

/-- An operation in a block of its own. -/
def OpAt (w : World) (p : Nat) (o : OpV) (ab : Option Addr) (cb : Nat) (ap : Option Addr) (cp : Nat) : Prop :=
  ∀ (j : Nat) (u : Value), (opCells o ab cb ap cp)[j]? = some u → w.cell? ⟨p, j, none⟩ = some u
theorem OpAt.below {w w' : World} {p : Nat} {o : OpV} {ab : Option Addr} {cb : Nat} {ap : Option Addr} {cp : Nat} (h : OpAt w p o ab cb ap cp) (hb : Below w.heap.size w w') : OpAt w' p o ab cb ap cp :=
  fun j u hu => cell_below (h j u hu) hb
theorem OpAt.keep {S : Nat → Prop} {w w' : World} {p : Nat} {o : OpV} {ab : Option Addr} {cb : Nat} {ap : Option Addr} {cp : Nat} (h : OpAt w p o ab cb ap cp) (hf : Fr S w w') (hp : ¬ S p) : OpAt w' p o ab cb ap cp := fun j u hu => by
  have h1 := h j u hu
  have hlt := World.block_lt_of_cell? _ _ h1
  exact (hf.cell (p := ⟨p, j, none⟩) hlt hp).trans h1
/-- What the law compares. -/
def Shown (k : Int) (dn sm : Bool) (wr wr' : Int) (dn' : Bool) (e : Int) : Prop :=
  (dn = true ∧ sm = true ∧ wr' = wr ∧ dn' = true ∧ (1 ≤ k → k ≤ 6 → e = 12)) ∨
  (dn = false ∧ e = 0 ∧ (1 ≤ k → k ≤ 6 → wr' = wr + 1)) ∨
  (dn = false ∧ e = 12 ∧ dn' = true ∧ wr' = wr ∧ (sm = true ∨ (sm = false ∧ k = 2))) ∨
  (dn = false ∧ e ≠ 0 ∧ e ≠ 12 ∧ sm = true ∧ dn' = false ∧ wr' = wr)
theorem Plain.shown {k : Int} {s : DS} {r : DS × Int} (h : Plain k s r) : Shown k s.dn (filesB r.1.fs s.fs) s.wr r.1.wr r.1.dn r.2 := by
  have hs : r.1.fs = s.fs → filesB r.1.fs s.fs = true := fun e => (filesB_iff _ _).2 e
  rcases h with ⟨h1, h2, h3, h4, h5⟩ | ⟨h1, h2, h3⟩ | ⟨h1, h2, h3, h4, h5⟩ | ⟨h1, h2, h3, h4, h5, h6⟩
  · exact .inl ⟨h1, hs h2, h3, h4, h5⟩
  · exact .inr (.inl ⟨h1, h2, h3⟩)
  · refine .inr (.inr (.inl ⟨h1, h2, h3, h4, ?_⟩))
    cases hb : filesB r.1.fs s.fs with
    | true => exact .inl rfl
    | false => exact .inr ⟨rfl, h5.resolve_left fun e => by rw [hs e] at hb; cases hb⟩
  · exact .inr (.inr (.inr ⟨h1, h2, h3, hs h4, h5, h6⟩))
set_option maxHeartbeats 4000000 in
theorem refused_walk (a : Option Addr) (n cap : Nat) (os : List OpV) (w : World) (h : RdOps w (fun b => b < w.heap.size) a n cap os) :
    Calls Try.prog 5 #[.slice a n cap] w (TrueEnd w) := by
  have H0 := Lib.hid h
  have HN := Lib.hid h.1
  clear h
  go_enter Try.func5, Try.ntmps5
  go_wp2_with (go_at_call 10; ((with_reducible refine (firstT _).mono ?_); rintro e wa ⟨rfl, hb⟩; have HBA := Lib.hid hb; clear hb))
  go_at_call 11
  refine (few_any a n cap os _ _ (H0.out.below HBA.out)).mono ?_
  rintro e wb ⟨b, rfl, hfew, hb⟩
  have HBB := Lib.hid (next_below HBA.out hb)
  have HFEW := Lib.hid hfew
  clear hb hfew HBA
  cases b with
  | false =>
    clear HFEW
    go_wp2_with (go_at_call 10; ((with_reducible refine (firstT _).mono ?_); rintro e wc ⟨rfl, hb⟩; have HBC := Lib.hid hb; clear hb))
    go_ret
    exact TrueEnd.mk (next_below HBB.out HBC.out)
  | true =>
    have HF := Lib.hid (HFEW.out rfl)
    clear HFEW
    go_wp2_with (go_at_call 12; ((with_reducible refine (new_any 0 (Int.le_refl _) _).mono ?_); rintro e w1 ⟨d, rfl, hb1, hd1⟩; have HL := Lib.hid (LS.start hb1 hd1); clear hb1 hd1))
    have hn3 : n ≤ 300 := by have := HF.out.1; have := HN.out; omega
    go_loopw [4, 5, 6, 7, 8, 9, 10] (fun i _ _ _ _ _ _ wr => ∃ (k : Nat) (S : Nat → Prop) (s : DS), k ≤ n ∧ i = .int .i64 (k : Nat) ∧ Hid (LS (k : Nat) wb wr d S s)) (fun i _ _ _ _ _ _ _ => n - (intOf i).toNat)
    case atStart => exact ⟨0, _, newS, Nat.zero_le _, rfl, HL.out⟩
    case round =>
      clear HL
      obtain ⟨k, S, s, hk, rfl, HL⟩ := hrel
      by_cases hlt : k < n
      · obtain ⟨o, ho⟩ : ∃ o, os[k]? = some o := ⟨_, List.getElem?_eq_getElem (by have := HN.out; omega)⟩
        obtain ⟨b, off, ab, cb, ap', cp', rfl, hrd, c0, c1, c2, c3, c4, c5⟩ := ((H0.out.below HBB.out).below HL.out.2.2).at ho
        have hbl := (HF.out.each (List.mem_of_getElem? ho)).2.2
        have HRD := Lib.hid hrd
        clear ho hrd
        go_wp2_with fail
        obtain ⟨w0, hw0⟩ : ∃ w0, wr.alloc (.cells #[.int .i64 o.k, .int .i64 o.n, .string (bs o.nm), .string (bs o.tn), .slice ab o.b.length cb, .slice ap' o.p.length cp'] 32) = w0 := ⟨_, rfl⟩
        rw [hw0]
        obtain ⟨p, hp⟩ : ∃ p, wr.heap.size = p := ⟨_, rfl⟩
        have hb0 : Below wr.heap.size wr w0 := by rw [← hw0]; exact (Below.refl _ _).alloc (Nat.le_refl _) _
        have HA0 : Hid (OpAt w0 p o ab cb ap' cp') := fun j u hu => by
          rw [← hw0, ← hp, cell_of_row _ wr.heap.size j _ _ (0, 0) (heap_alloc_new wr _)]
          simpa [opCells] using hu
        have HL0 := Lib.hid (HL.out.new hb0)
        have HRD0 := Lib.hid (HRD.out.below hb0)
        have HP0 : Hid (¬ S p ∧ p < w0.heap.size) := ⟨fun e => by have := HL.out.1.lt p e; omega, World.block_lt_of_cell? _ ⟨p, 0, none⟩ (HA0.out 0 _ rfl)⟩
        rw [hp]
        clear c0 c1 c2 c3 c4 c5 hb0 HRD HL hp hw0
        go_at_call 19
        refine (files_any d S _ s w0 HL0.out.1).mono ?_
        rintro e w2 ⟨v, vs, rfl, hown, hb⟩
        obtain ⟨a6, c6, rfl, hr6⟩ := hown.rd
        have HL2 := Lib.hid (HL0.out.new hb)
        have HT6 : Hid (∀ b, w0.heap.size ≤ b ∧ b < w2.heap.size → ¬ S b) := fun q hq e => by have := HL0.out.1.lt q e; omega
        have HR6 := Lib.hid hr6
        have HA2 := Lib.hid (HA0.out.below hb)
        have HRD2 := Lib.hid (HRD0.out.below hb)
        have HP2 : Hid (¬ S p ∧ p < w2.heap.size) := ⟨HP0.out.1, by have := HP0.out.2; have := hb.size; omega⟩
        have HDN := Lib.hid (down_any d _ _ s w2 HL2.out.1)
        have HWR := Lib.hid (writes_any d _ _ s w2 HL2.out.1)
        have hwr0 : 0 ≤ s.wr := HL2.out.1.ok.wr0
        have hwr1 : s.wr ≤ k := HL2.out.1.ok.wr1
        clear hr6 hown hb HL0 HA0 HRD0 HP0
        have z0 := HA2.out 0 _ rfl
        have z1 := HA2.out 1 _ rfl
        have z2 := HA2.out 2 _ rfl
        have z3 := HA2.out 3 _ rfl
        have z4 := HA2.out 4 _ rfl
        have z5 := HA2.out 5 _ rfl
        go_wp2_with (first
          | (go_at_call 20; ((with_reducible refine (HDN.out).mono ?_); rintro e w' ⟨rfl, rfl⟩))
          | (go_at_call 22; ((with_reducible refine (HWR.out).mono ?_); rintro e w' ⟨rfl, rfl⟩)))
        go_at_call 13
        refine (HL2.out.does (by omega) (by omega) HRD2.out (fun b hb => Nat.lt_of_lt_of_le hb HBB.out.size)).mono ?_
        rintro e w3 ht
        obtain ⟨rfl, hls, hf⟩ := HL2.out.told ht
        have HL3 := Lib.hid hls
        have HR63 := Lib.hid (HR6.out.keep hf HT6.out)
        have HA3 := Lib.hid (HA2.out.keep hf HP2.out.1)
        have HPL := Lib.hid (fun h8 => plain_does s o h8)
        clear ht hls hf z0 z1 z2 z3 z4 z5 HR6 HT6 HRD2 HA2 HP2 HDN HWR HL2
        have z0 := HA3.out 0 _ rfl
        obtain ⟨r, hr⟩ : ∃ r, doesS s o = r := ⟨_, rfl⟩
        rw [hr] at HL3 HPL ⊢
        clear hr
        obtain ⟨kk, hkk⟩ : ∃ kk, o.k = kk := ⟨_, rfl⟩
        rw [hkk] at z0 HPL
        by_cases h8 : kk = 8
        · subst h8
          clear HPL HA3 HR63 hkk
          go_wp2_with fail
          go_roundw
          case rel => exact ⟨k + 1, _, _, by omega, by go_num, HL3.out⟩
          case measure => simp [intOf]; omega
        · have hpl := HPL.out h8
          have HPL2 := Lib.hid hpl
          have hk8 : (kk == 8) = false := by simpa using h8
          clear hpl HPL h8
          go_wp2_with fail
          go_at_call 19
          refine (files_any d _ _ r.1 w3 HL3.out.1).mono ?_
          rintro e w4 ⟨v, vs', rfl, hown, hb⟩
          obtain ⟨a7, c7, rfl, hr7⟩ := hown.rd
          have HL4 := Lib.hid (HL3.out.new hb)
          have HQQ := Lib.hid (filesEq_draws _ _ _ _ _ _ _ _ _ _ _ hr7 (HR63.out.below hb))
          have HA4 := Lib.hid (HA3.out.below hb)
          clear hr7 hown hb z0 HL3 HR63 HA3
          go_wp2_with fail
          go_at_call 21
          refine (HQQ.out).mono ?_
          rintro e w5 ⟨rfl, hd⟩
          have HL5 := Lib.hid (HL4.out.new (draws_below hd))
          have HDN := Lib.hid (down_any d _ _ r.1 w5 HL5.out.1)
          have HWR := Lib.hid (writes_any d _ _ r.1 w5 HL5.out.1)
          have z0 := (HA4.out.below (draws_below hd)) 0 _ rfl
          have hsh := HPL2.out.shown
          rw [hkk] at z0
          clear hd HQQ HL4 HA4 HPL2 hkk
          generalize filesB r.1.fs s.fs = sm at hsh ⊢
          generalize r.1.wr = wr' at hsh HWR ⊢
          generalize r.1.dn = dn' at hsh HDN ⊢
          generalize r.2 = ee at hsh ⊢
          generalize s.dn = dn at hsh ⊢
          generalize s.wr = swr at hsh hwr0 hwr1 ⊢
          have hw1 : wrap64 (swr + 1) = swr + 1 := IntWalk.wrap64_in _ ⟨by omega, by omega⟩
          have hw2 : (swr + 1 != wrap64 (swr + 1)) = false := by rw [hw1]; simp
          have hrg : (decide (1 ≤ kk) = false) ∨ (decide (1 ≤ kk) = true ∧ decide (kk ≤ 6) = false) ∨ (decide (1 ≤ kk) = true ∧ decide (kk ≤ 6) = true) := by
            simp only [decide_eq_true_eq, decide_eq_false_iff_not]; omega
          rcases hrg with g1 | ⟨g1, g6⟩ | ⟨g1, g6⟩
          · rcases hsh with ⟨rfl, rfl, rfl, rfl, _⟩ | ⟨rfl, rfl, _⟩ | ⟨rfl, rfl, rfl, rfl, rfl | ⟨rfl, rfl⟩⟩ | ⟨rfl, m0, m12, rfl, rfl, rfl⟩
            case' inl => rcases (show (ee == 0) = true ∨ (ee == 0) = false by cases (ee == 0) <;> simp) with m0 | m0
            case' inr.inr.inr =>
              have n1 : (ee != 0) = true := by simpa using m0
              have n2 : (ee == 0) = false := by simpa using m0
              have n3 : (ee != 12) = true := by simpa using m12
              have n4 : (ee == 12) = false := by simpa using m12
            all_goals
              go_wp2_with (first
                | (go_at_call 20; ((with_reducible refine (HDN.out).mono ?_); rintro e w' ⟨rfl, rfl⟩))
                | (go_at_call 22; ((with_reducible refine (HWR.out).mono ?_); rintro e w' ⟨rfl, rfl⟩)))
              go_roundw
              case rel => exact ⟨k + 1, _, _, by omega, by go_num, HL5.out⟩
              case measure => simp [intOf]; omega
          · rcases hsh with ⟨rfl, rfl, rfl, rfl, _⟩ | ⟨rfl, rfl, _⟩ | ⟨rfl, rfl, rfl, rfl, rfl | ⟨rfl, rfl⟩⟩ | ⟨rfl, m0, m12, rfl, rfl, rfl⟩
            case' inl => rcases (show (ee == 0) = true ∨ (ee == 0) = false by cases (ee == 0) <;> simp) with m0 | m0
            case' inr.inr.inr =>
              have n1 : (ee != 0) = true := by simpa using m0
              have n2 : (ee == 0) = false := by simpa using m0
              have n3 : (ee != 12) = true := by simpa using m12
              have n4 : (ee == 12) = false := by simpa using m12
            all_goals
              go_wp2_with (first
                | (go_at_call 20; ((with_reducible refine (HDN.out).mono ?_); rintro e w' ⟨rfl, rfl⟩))
                | (go_at_call 22; ((with_reducible refine (HWR.out).mono ?_); rintro e w' ⟨rfl, rfl⟩)))
              go_roundw
              case rel => exact ⟨k + 1, _, _, by omega, by go_num, HL5.out⟩
              case measure => simp [intOf]; omega
          · have i1 : 1 ≤ kk := by simpa using g1
            have i6 : kk ≤ 6 := by simpa using g6
            rcases hsh with ⟨rfl, rfl, rfl, rfl, h5⟩ | ⟨rfl, rfl, h5⟩ | ⟨rfl, rfl, rfl, rfl, rfl | ⟨rfl, rfl⟩⟩ | ⟨rfl, m0, m12, rfl, rfl, rfl⟩
            any_goals (try (obtain rfl := h5 i1 i6))
            case' inr.inr.inr =>
              have n1 : (ee != 0) = true := by simpa using m0
              have n2 : (ee == 0) = false := by simpa using m0
              have n3 : (ee != 12) = true := by simpa using m12
              have n4 : (ee == 12) = false := by simpa using m12
            all_goals
              go_wp2_with (first
                | (go_at_call 20; ((with_reducible refine (HDN.out).mono ?_); rintro e w' ⟨rfl, rfl⟩))
                | (go_at_call 22; ((with_reducible refine (HWR.out).mono ?_); rintro e w' ⟨rfl, rfl⟩)))
              go_roundw
              case rel => exact ⟨k + 1, _, _, by omega, by go_num, HL5.out⟩
              case measure => simp [intOf]; omega
      · obtain rfl : k = n := by omega
        go_wp2_with (go_at_call 10; ((with_reducible refine (firstT _).mono ?_); rintro e wc ⟨rfl, hb⟩; have HBC := Lib.hid hb; clear hb))
        go_ret
        exact TrueEnd.mk (next_below (next_below HBB.out HL.out.2.2) HBC.out)
end Go.Proofs.Ytdbfkneklkdnaaa
