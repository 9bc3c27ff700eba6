/-
  The walk of DiskApart.
-/
import Derived.Test.YtdbfkneklkdnaaaE22
namespace Go.Proofs.Ytdbfkneklkdnaaa
open Go.RowKit Go.Maps Go.Sort
set_option maxRecDepth 100000
attribute [local go_sem] bs_size bs_toList

theorem tot_next {l : List Fl} {k : Nat} {f : Fl} (h : l[k]? = some f) : tot (l.take (k + 1)) = tot (l.take k) + f.dt.length := by
  rw [List.take_add_one, h]; simp [tot]
def metB (f : Fl) (l : List Fl) (j : Nat) : Bool := (l.take j).any fun x => filesB [x] [f]
theorem metB_next {f : Fl} {l : List Fl} {j : Nat} {x : Fl} (h : l[j]? = some x) : metB f l (j + 1) = (metB f l j || filesB [x] [f]) := by
  unfold metB; rw [List.take_add_one, h]; simp
theorem metB_all {f : Fl} {l : List Fl} (h : f ∈ l) : metB f l l.length = true := by
  unfold metB; rw [List.take_of_length_le (Nat.le_refl _), List.any_eq_true]
  exact ⟨f, h, filesB_self _⟩
theorem srt_next {l : List Fl} (h : Srt l) {k : Nat} {f g : Fl} (hf : l[k]? = some f) (hg : l[k + 1]? = some g) : bB f.nm g.nm = true := by
  obtain ⟨h1, e1⟩ := List.getElem?_eq_some_iff.1 hf
  obtain ⟨h2, e2⟩ := List.getElem?_eq_some_iff.1 hg
  have := List.pairwise_iff_getElem.1 h k (k + 1) h1 h2 (by omega)
  rw [e1, e2] at this; exact this
/-- One file of a list. -/
theorem RdFs.one {w : World} {T : Nat → Prop} {b off n cap : Nat} {l : List Fl} (h : RdFs w T (some ⟨b, off, none⟩) n cap l) {k : Nat} {f : Fl} (hf : l[k]? = some f) :
    k + 1 ≤ cap ∧ cap ≠ k ∧ RdFs w T (some ⟨b, off + k * 3, none⟩) 1 (cap - k) [f] := by
  obtain ⟨rfl, h2, vs, h3, h4, h5⟩ := h
  have hk : k < l.length := (List.getElem?_eq_some_iff.1 hf).1
  obtain ⟨u, hu⟩ : ∃ u, vs[k]? = some u := ⟨_, List.getElem?_eq_getElem (by omega)⟩
  have hc := h4.1
  have hne : cap ≠ k := by omega
  refine ⟨by omega, hne, rfl, fun _ q hq => h2 (by omega) q (by simpa [blk] using hq), [u], rfl, ?_, fun i g x hg hx => ?_⟩
  · have hs := h4.sub k (k + 1) (by omega) (by omega)
    rw [if_neg hne, show k + 1 - k = 1 by omega] at hs
    have e : flatF [f] [u] = ((flatF l vs).drop (k * 3)).take (1 * 3) := by
      obtain ⟨g1, g2, g3⟩ := flatF_get l vs k f u hf hu
      have hl := flatF_length l vs h3
      apply List.ext_getElem?
      intro i
      rw [List.getElem?_take, List.getElem?_drop]
      match i with
      | 0 => rw [if_pos (by decide), Nat.add_zero, Nat.mul_comm k 3, g1]; rfl
      | 1 => rw [if_pos (by decide), Nat.mul_comm k 3, g2]; rfl
      | 2 => rw [if_pos (by decide), Nat.mul_comm k 3, g3]; rfl
      | i + 3 => rw [if_neg (by omega)]; simp [flatF, cellF]
    rw [e]
    simpa [Addr.add_none] using hs
  · match i, hg with
    | 0, hg =>
      simp at hg hx; subst hg hx
      exact h5 k _ _ hf hu
    | i + 1, hg => simp at hg
set_option maxHeartbeats 4000000 in
theorem apart_walk (a : Option Addr) (n cap : Nat) (os : List OpV) (w : World) (h : RdOps w (fun b => b < w.heap.size) a n cap os) :
    Calls Try.prog 6 #[.slice a n cap] w (TrueEnd w) := by
  have H0 := Lib.hid h
  have HN := Lib.hid h.1
  clear h
  go_enter Try.func6, Try.ntmps6
  go_wp2_with (go_at_call 10; ((with_reducible refine (firstT _).mono ?_); rintro e wa ⟨rfl, hb⟩; have HBA := Lib.hid hb; clear hb))
  go_at_call 11
  refine (few_any a n cap os _ _ (H0.out.below HBA.out)).mono ?_
  rintro e wb ⟨b, rfl, hfew, hb⟩
  have HBB := Lib.hid (next_below HBA.out hb)
  have HFEW := Lib.hid hfew
  clear hb hfew HBA
  cases b with
  | false =>
    clear HFEW
    go_wp2_with (go_at_call 10; ((with_reducible refine (firstT _).mono ?_); rintro e wc ⟨rfl, hb⟩; have HBC := Lib.hid hb; clear hb))
    go_ret
    exact TrueEnd.mk (next_below HBB.out HBC.out)
  | true =>
    have HF := Lib.hid (HFEW.out rfl)
    clear HFEW
    go_wp2_with (go_at_call 12; ((with_reducible refine (new_any 0 (Int.le_refl _) _).mono ?_); rintro e w1 ⟨d, rfl, hb1, hd1⟩; have HL := Lib.hid (LS.start hb1 hd1); clear hb1 hd1))
    have hn3 : n ≤ 300 := by have := HF.out.1; have := HN.out; omega
    go_loopw [4, 5, 6, 7, 8, 9, 10, 11] (fun i _ _ _ _ _ _ _ wr => ∃ (k : Nat) (S : Nat → Prop) (s : DS), k ≤ n ∧ i = .int .i64 (k : Nat) ∧ Hid (LS (k : Nat) wb wr d S s)) (fun i _ _ _ _ _ _ _ _ => n - (intOf i).toNat)
    case atStart => exact ⟨0, _, newS, Nat.zero_le _, rfl, HL.out⟩
    case round =>
      clear HL
      obtain ⟨k, S, s, hk, rfl, HL⟩ := hrel
      by_cases hlt : k < n
      · obtain ⟨o, ho⟩ : ∃ o, os[k]? = some o := ⟨_, List.getElem?_eq_getElem (by have := HN.out; omega)⟩
        have HO := Lib.hid ho
        have hbl := (HF.out.each (List.mem_of_getElem? ho)).2.2
        clear ho
        go_wp2_with fail
        go_at_call 19
        refine (files_any d S _ s wr HL.out.1).mono ?_
        rintro e w2 ⟨v, vs, rfl, hown, hb⟩
        obtain ⟨a5, c5, rfl, hr5⟩ := hown.rd
        have HL2 := Lib.hid (HL.out.new hb)
        have HT5 : Hid (∀ b, wr.heap.size ≤ b ∧ b < w2.heap.size → ¬ S b) := fun q hq e => by have := HL.out.1.lt q e; omega
        have HR5 := Lib.hid hr5
        have hm64 : s.fs.length ≤ 64 := HL.out.1.ok.len
        have HSRT0 := Lib.hid HL.out.1.ok.srt
        obtain ⟨m, hm⟩ : ∃ m, s.fs.length = m := ⟨_, rfl⟩
        have HM := Lib.hid hm
        rw [hm] at HR5 hm64 ⊢
        clear hr5 hown hb HL hm
        obtain ⟨b, off, ab, cb, ap', cp', rfl, hrd, c0, c1, c2, c3, c4, c5'⟩ := ((H0.out.below HBB.out).below HL2.out.2.2).at HO.out
        have HRD := Lib.hid hrd
        clear hrd
        go_wp2_with fail
        go_at_call 13
        refine (HL2.out.does (by omega) (by omega) HRD.out (fun b hb => Nat.lt_of_lt_of_le hb HBB.out.size)).mono ?_
        rintro e w3 ht
        obtain ⟨rfl, hls, hf⟩ := HL2.out.told ht
        have HL3 := Lib.hid hls
        have HR53 := Lib.hid (HR5.out.keep hf HT5.out)
        have HAP := Lib.hid (fun h8 => does_apart s o h8)
        clear ht hls hf c0 c1 c2 c3 c4 c5' HR5 HT5 HRD
        obtain ⟨s3, hs3⟩ : ∃ s3, (doesS s o).1 = s3 := ⟨_, rfl⟩
        rw [hs3] at HL3 HAP
        clear hs3
        go_wp2_with fail
        go_at_call 19
        refine (files_any d _ _ s3 w3 HL3.out.1).mono ?_
        rintro e w4 ⟨v, vs', rfl, hown, hb⟩
        obtain ⟨a6, c6, rfl, hr6⟩ := hown.rd
        have HL4 := Lib.hid (HL3.out.new hb)
        have HR6 := Lib.hid hr6
        have HR5 := Lib.hid (HR53.out.below hb)
        have hm64' : s3.fs.length ≤ 64 := HL3.out.1.ok.len
        have htt : tot s3.fs ≤ 4194304 := HL3.out.1.ok.tot
        have HSRT := Lib.hid HL3.out.1.ok.srt
        have HSF := Lib.hid (fun x hx => (HL3.out.1.ok.each x hx).2.2)
        obtain ⟨m', hm'⟩ : ∃ m', s3.fs.length = m' := ⟨_, rfl⟩
        have HM' := Lib.hid hm'
        rw [hm'] at HR6 hm64' ⊢
        clear hr6 hown hb HR53 HL3 hm'
        go_wp2_with fail
        go_loopw [7, 8] (fun v i wx => ∃ j U : Nat, j ≤ m' ∧ i = .int .i64 j ∧ v = .int .i64 (U : Nat) ∧ Hid (U = tot (s3.fs.take j)) ∧ Hid (∃ q, wx = w4.drewN q)) (fun _ i _ => m' - (intOf i).toNat)
        case atStart => exact ⟨0, 0, Nat.zero_le _, rfl, rfl, rfl, 0, rfl⟩
        case round =>
          obtain ⟨j, U, hj, rfl, rfl, HU, HD⟩ := hrel
          by_cases hjt : j < m'
          · obtain ⟨f, hf⟩ : ∃ f, s3.fs[j]? = some f := ⟨_, List.getElem?_eq_getElem (by have := HM'.out; omega)⟩
            obtain ⟨b6, o6, a6', c6', rfl, q1, q2, q3, _, _⟩ := (HR6.out.draws HD.out).at hf
            have hsf := HSF.out f (List.mem_of_getElem? hf)
            have htn := tot_next hf
            have htl : tot (s3.fs.take (j + 1)) ≤ tot s3.fs := by
              have := congrArg tot (List.take_append_drop (j + 1) s3.fs)
              simp only [tot, List.map_append, List.sum_append] at this ⊢; omega
            have d1 : decide ((f.sf : Int) < 0) = false := by simp
            have d2 : decide (f.dt.length < f.sf) = false := by simp; omega
            have hU := HU.out
            have HTN : Hid (U + f.dt.length = tot (s3.fs.take (j + 1))) := by show _ = _; rw [htn, hU]
            have hUl : U + f.dt.length ≤ 4194304 := by have := HTN.out; omega
            clear hU
            rcases Nat.eq_zero_or_pos j with h0 | h0
            · subst h0
              clear hf htn
              go_wp2_with fail
              go_quiet (fail)
              go_wp2_with fail
              go_roundw
              case rel => exact ⟨1, U + f.dt.length, by omega, by go_num, by go_num, HTN.out, draws_next HD.out _⟩
              case measure => simp [intOf]; omega
            · obtain ⟨j', rfl⟩ : ∃ j', j = j' + 1 := ⟨j - 1, by omega⟩
              obtain ⟨g, hg⟩ : ∃ g, s3.fs[j']? = some g := ⟨_, List.getElem?_eq_getElem (by have := HM'.out; omega)⟩
              obtain ⟨b6', o6', a6'', c6'', he6, q1', q2', q3', _, _⟩ := (HR6.out.draws HD.out).at hg
              cases he6
              have hbb := srt_next HSRT.out hg hf
              have hb1 : Op.bytesLess f.nm g.nm = false := by rw [bytesLess_eq, ← bB_lt]; exact bB_asymm hbb
              have hb2 : (f.nm == g.nm) = false := by simpa using (bB_ne hbb).symm
              clear hf hg hbb htn
              go_wp2_with fail
              go_quiet (fail)
              go_wp2_with fail
              go_roundw
              case rel => exact ⟨j' + 1 + 1, U + f.dt.length, by omega, by go_num, by go_num, HTN.out, draws_next HD.out _⟩
              case measure => simp [intOf]; omega
          · obtain rfl : m' = j := by omega
            have HL5 := Lib.hid (HL4.out.new (draws_below HD.out))
            have HR55 := Lib.hid (HR5.out.draws HD.out)
            have HR65 := Lib.hid (HR6.out.draws HD.out)
            have HSZ := Lib.hid (size_any d _ _ s3 wr HL5.out.1)
            have HLI := Lib.hid (list_any d _ _ s3 wr HL5.out.1)
            have htj : tot (s3.fs.take m') = tot s3.fs := by rw [List.take_of_length_le]; have := HM'.out; omega
            have hU := HU.out
            rw [htj] at hU
            subst hU
            have hm1 := HM'.out
            clear HL4 HR5 HR6 htj
            go_wp2_with (first
              | (go_at_call 23; ((with_reducible refine (HSZ.out).mono ?_); rintro e w' ⟨rfl, rfl⟩))
              | (go_at_call 24; ((with_reducible refine (HLI.out).mono ?_); rintro e w6 ⟨v, rfl, hrow, hb⟩; rw [List.length_map, hm1] at hrow; obtain ⟨a9, c9, rfl, _⟩ := Rd.of_own hrow; have HB6 := Lib.hid hb; clear hrow hb)))
            have HL6 := Lib.hid (HL5.out.new HB6.out)
            have HR56 := Lib.hid (HR55.out.below HB6.out)
            have HR66 := Lib.hid (HR65.out.below HB6.out)
            clear HL5 HR55 HR65 HB6 HSZ HLI
            go_loopw [9, 10, 11] (fun i _ _ wx => ∃ q : Nat, q ≤ m ∧ i = .int .i64 q ∧ Hid (∃ z, wx = w6.drewN z)) (fun i _ _ _ => m - (intOf i).toNat)
            case atStart => exact ⟨0, Nat.zero_le _, rfl, 0, rfl⟩
            case round =>
              obtain ⟨q, hq, rfl, HE⟩ := hrel
              obtain ⟨b', off', ab', cb', ap'', cp'', heq, hrd, c0, c1, c2, c3, c4, c5'⟩ := ((H0.out.below HBB.out).below (HL6.out.new (draws_below HE.out)).2.2).at HO.out
              cases heq
              clear hrd
              have HL7 := Lib.hid (HL6.out.new (draws_below HE.out))
              by_cases hqt : q < m
              · by_cases h8 : o.k = 8
                · have e8 : (o.k != 8) = false := by simpa using h8
                  clear h8
                  go_wp2_with fail
                  go_roundw
                  case rel => exact ⟨k + 1, _, _, by omega, by go_num, HL7.out⟩
                  case measure => simp [intOf]; omega
                · have e8 : (o.k != 8) = true := by simpa using h8
                  obtain ⟨f, hf⟩ : ∃ f, s.fs[q]? = some f := ⟨_, List.getElem?_eq_getElem (by have := HM.out; omega)⟩
                  have R5 := HR56.out.draws HE.out
                  have R50 := HR56.out
                  obtain ⟨b5, o5, a5', c5'', rfl, q1, q2, q3, _, _⟩ := R5.at hf
                  obtain ⟨hx1, hx2, hx3⟩ := R5.one hf
                  have HX3 := Lib.hid (R50.one hf).2.2
                  have HIN : Hid (f.nm ≠ o.nm → f.nm ≠ o.tn → f ∈ s3.fs) := fun e1 e2 => (getF_some ((HAP.out h8 _ e1 e2).trans (get_of_mem HSRT0.out (List.mem_of_getElem? hf)))).1
                  clear R5 R50 hx3 h8 hf
                  go_wp2_with fail
                  rcases (show (f.nm == o.nm) = true ∨ (f.nm == o.nm) = false by cases (f.nm == o.nm) <;> simp) with n1 | n1
                  · go_quiet (fail)
                    go_wp2_with fail
                    go_roundw
                    case rel => exact ⟨q + 1, by omega, by go_num, draws_next HE.out _⟩
                    case measure => simp [intOf]; omega
                  · rcases (show (f.nm == o.tn) = true ∨ (f.nm == o.tn) = false by cases (f.nm == o.tn) <;> simp) with n2 | n2
                    · go_quiet (fail)
                      go_wp2_with fail
                      go_roundw
                      case rel => exact ⟨q + 1, by omega, by go_num, draws_next HE.out _⟩
                      case measure => simp [intOf]; omega
                    · have HIN2 := Lib.hid (HIN.out (by simpa using n1) (by simpa using n2))
                      clear HIN
                      go_quiet (fail)
                      clear n1 n2 q1 q2 q3 c0 c1 c2 c3 c4 c5'
                      go_wp2_with fail
                      go_loopw [10, 11] (fun v i wy => ∃ (j : Nat) (bv : Bool), j ≤ m' ∧ i = .int .i64 j ∧ v = .bool bv ∧ Hid (bv = metB f s3.fs j) ∧ Hid (∃ z, wy = w6.drewN z)) (fun _ i _ => m' - (intOf i).toNat)
                      case atStart => exact ⟨0, false, Nat.zero_le _, rfl, rfl, rfl, draws_next HE.out _⟩
                      case round =>
                        obtain ⟨jj, bv, hjj, rfl, rfl, HV, HG⟩ := hrel
                        by_cases hjt2 : jj < m'
                        · obtain ⟨g, hg⟩ : ∃ g, s3.fs[jj]? = some g := ⟨_, List.getElem?_eq_getElem (by have := HM'.out; omega)⟩
                          have HV2 : Hid (metB f s3.fs (jj + 1) = (bv || filesB [g] [f])) := by show _ = _; rw [metB_next hg, HV.out]
                          cases bv with
                          | true =>
                            clear hg
                            go_wp2_with fail
                            go_quiet (fail)
                            go_wp2_with fail
                            go_roundw
                            case rel => exact ⟨jj + 1, true, by omega, by go_num, rfl, by rw [Hid, HV2.out]; rfl, draws_next HG.out _⟩
                            case measure => simp [intOf]; omega
                          | false =>
                            have R6 := HR66.out.draws HG.out
                            obtain ⟨b6, o6, _, _, rfl, _⟩ := R6.at hg
                            obtain ⟨hy1, hy2, hy3⟩ := R6.one hg
                            have HY3 := Lib.hid hy3
                            have HX5 := Lib.hid (HX3.out.draws HG.out)
                            clear hg hy3 R6
                            go_wp2_with fail
                            go_quiet ((go_at_call 21; exact Calls.quiet_of (filesEq_draws _ _ _ _ _ _ _ _ _ _ _ (HY3.out.draws ⟨_, rfl⟩) (HX5.out.draws ⟨_, rfl⟩))))
                            go_wp2_with fail
                            go_roundw
                            case rel => exact ⟨jj + 1, filesB [g] [f], by omega, by go_num, rfl, by rw [Hid, HV2.out]; rfl, draws_next HG.out _⟩
                            case measure => simp [intOf]; omega
                        · obtain rfl : jj = m' := by omega
                          have hbv : bv = true := by rw [HV.out, ← HM'.out]; exact metB_all HIN2.out
                          subst hbv
                          go_wp2_with fail
                          go_roundw
                          case rel => exact ⟨q + 1, by omega, by go_num, HG.out⟩
                          case measure => simp [intOf]; omega
              · obtain rfl : q = m := by omega
                go_wp2_with fail
                go_roundw
                case rel => exact ⟨k + 1, _, _, by omega, by go_num, HL7.out⟩
                case measure => simp [intOf]; omega
      · obtain rfl : k = n := by omega
        go_wp2_with (go_at_call 10; ((with_reducible refine (firstT _).mono ?_); rintro e wc ⟨rfl, hb⟩; have HBC := Lib.hid hb; clear hb))
        go_ret
        exact TrueEnd.mk (next_below (next_below HBB.out HL.out.2.2) HBC.out)
end Go.Proofs.Ytdbfkneklkdnaaa
