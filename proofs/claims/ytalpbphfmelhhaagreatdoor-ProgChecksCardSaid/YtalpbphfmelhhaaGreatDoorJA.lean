/-
  Texts part into words: the walks of prog.quoted, prog.words, raceref9.split.
  A word's code, what a step names: the walks of prog.code, prog.name.
  A text read as a program (prog.Parse).
-/
import Derived.Test.YtalpbphfmelhhaaGreatDoorJD
import Derived.Test.YtalpbphfmelhhaaGreatDoorHX
import Derived.Test.YtalpbphfmelhhaaGreatDoorDE
import Derived.Deep.RegionWith
/-! ### Texts part into words: the walks of prog.quoted, prog.words, raceref9.split. -/
namespace Go.Proofs.YtalpbphfmelhhaaGreatDoor
open Go.RowKit Go.Maps Go.Sort
set_option maxRecDepth 100000
attribute [local go_sem] bs_size bs_get bs_toList frombits tobits run_store_float
/-! ### plain -/
def subL (l : List UInt8) (i k : Nat) : List UInt8 := (l.drop i).take (k - i)
theorem drop_bAt {l : List UInt8} {k : Nat} (h : k < l.length) : l.drop k = bAt l k :: l.drop (k + 1) := by
  rw [List.drop_eq_getElem_cons h]
  congr 1
  simp [bAt, h]
theorem subL_self (l : List UInt8) (i : Nat) : subL l i i = [] := by unfold subL; rw [Nat.sub_self]; simp
theorem subL_snoc {l : List UInt8} {i k : Nat} (h : i ≤ k) (hk : k < l.length) : subL l i (k + 1) = subL l i k ++ [bAt l k] := by
  unfold subL
  rw [show k + 1 - i = (k - i) + 1 by omega, List.take_add_one]
  congr 1
  rw [List.getElem?_drop, show i + (k - i) = k by omega]
  simp [bAt, hk]
theorem q_start {l : List UInt8} {i : Nat} (h : i < l.length) (hq : bAt l i = 34) : wordsM (l.drop i) 0 [] = wordsM (l.drop (i + 1)) 2 (subL l i (i + 1)) := by
  rw [drop_bAt h, hq, wm_0, if_neg (by decide), if_pos rfl, subL_snoc (Nat.le_refl _) h, subL_self, hq]; rfl
theorem q_next {l : List UInt8} {i k : Nat} (h : i ≤ k) (hk : k < l.length) (hq : bAt l k ≠ 34) : wordsM (l.drop k) 2 (subL l i k) = wordsM (l.drop (k + 1)) 2 (subL l i (k + 1)) := by
  rw [drop_bAt hk, wm_2, if_neg hq, subL_snoc h hk]
theorem q_close {l : List UInt8} {i k : Nat} (h : i ≤ k) (hk : k < l.length) (hq : bAt l k = 34) : wordsM (l.drop k) 2 (subL l i k) = wordsM (l.drop (k + 1)) 3 (subL l i (k + 1)) := by
  rw [drop_bAt hk, wm_2, if_pos hq, subL_snoc h hk, hq]
theorem q_open {l : List UInt8} (c : List UInt8) : wordsM (l.drop l.length) 2 c = none := by rw [List.drop_length, wm_nil]; rfl
theorem q_end {l : List UInt8} {k : Nat} (c : List UInt8) (h : k = l.length ∨ (k < l.length ∧ bAt l k = 32)) : wordsM (l.drop k) 3 c = (wordsM (l.drop k) 0 []).map (fun m => c :: m) := by
  rcases h with rfl | ⟨h, hb⟩
  · rw [List.drop_length, wm_nil, wm_nil]; rfl
  · rw [drop_bAt h, hb, wm_3, if_pos rfl, wm_0, if_pos rfl]
theorem q_bad {l : List UInt8} {k : Nat} (c : List UInt8) (h : k < l.length) (hb : bAt l k ≠ 32) : wordsM (l.drop k) 3 c = none := by
  rw [drop_bAt h, wm_3, if_neg hb]
theorem p_start {l : List UInt8} {i : Nat} (h : i < l.length) (h1 : bAt l i ≠ 32) (h2 : bAt l i ≠ 34) : wordsM (l.drop i) 0 [] = wordsM (l.drop i) 1 (subL l i i) := by
  rw [drop_bAt h, wm_0, if_neg h1, if_neg h2, wm_1, if_neg h1, if_neg h2, subL_self]; rfl
theorem p_next {l : List UInt8} {i k : Nat} (h : i ≤ k) (hk : k < l.length) (h1 : bAt l k ≠ 32) (h2 : bAt l k ≠ 34) : wordsM (l.drop k) 1 (subL l i k) = wordsM (l.drop (k + 1)) 1 (subL l i (k + 1)) := by
  rw [drop_bAt hk, wm_1, if_neg h1, if_neg h2, subL_snoc h hk]
theorem p_end {l : List UInt8} {k : Nat} (c : List UInt8) (h : k = l.length ∨ (k < l.length ∧ bAt l k = 32)) : wordsM (l.drop k) 1 c = (wordsM (l.drop k) 0 []).map (fun m => c :: m) := by
  rcases h with rfl | ⟨h, hb⟩
  · rw [List.drop_length, wm_nil, wm_nil]; rfl
  · rw [drop_bAt h, hb, wm_1, if_pos rfl, wm_0, if_pos rfl]
theorem p_bad {l : List UInt8} {k : Nat} (c : List UInt8) (h : k < l.length) (hb : bAt l k = 34) : wordsM (l.drop k) 1 c = none := by
  rw [drop_bAt h, hb, wm_1, if_neg (by decide), if_pos rfl]
theorem b_next {l : List UInt8} {i : Nat} (h : i < l.length) (hb : bAt l i = 32) : wordsM (l.drop i) 0 [] = wordsM (l.drop (i + 1)) 0 [] := by
  rw [drop_bAt h, hb, wm_0, if_pos rfl]
/-- Where a word that begins at i ends. -/
def EndsAt (l : List UInt8) (i : Nat) (x : Int) : Prop := (x = -1 ∧ wordsM (l.drop i) 0 [] = none) ∨ ∃ k : Nat, x = (k : Int) ∧ i < k ∧ k ≤ l.length ∧ wordsM (l.drop i) 0 [] = (wordsM (l.drop k) 0 []).map (fun m => subL l i k :: m)
/-- A byte's tests. -/
theorem byte_is {c : UInt8} {n : UInt8} (h : c = n) : ((c.toNat : Int) == (n.toNat : Int)) = true := by rw [h]; simp
theorem byte_not {c : UInt8} {n : UInt8} (h : c ≠ n) : ((c.toNat : Int) == (n.toNat : Int)) = false := by
  rw [beq_eq_false_iff_ne]
  intro e
  exact h (UInt8.toNat_inj.1 (by omega))
theorem bs_sub (l : List UInt8) (i k : Nat) : (bs l).extract i k = bs (subL l i k) := by
  apply ByteArray.ext
  apply Array.toList_inj.1
  simp [bs, subL, List.extract_eq_take_drop]
/-! ### prog.quoted -/
set_option maxHeartbeats 1000000 in
theorem quoted_any (l : List UInt8) (i : Nat) (hi : i < l.length) (hq : bAt l i = 34) (hl : l.length ≤ 1000000) (w : World) :
    Calls Tryz.prog 87 #[.string (bs l), .int .i64 (i : Nat)] w fun e w' => ∃ x : Int, e = .returned (.int .i64 x) ∧ EndsAt l i x ∧ w' = w := by
  obtain ⟨n, hn⟩ : ∃ n, l.length = n := ⟨_, rfl⟩
  rw [hn] at hl hi
  have HN := Lib.hid hn
  have HS0 : Hid (wordsM (l.drop i) 0 [] = wordsM (l.drop (i + 1)) 2 (subL l i (i + 1))) := q_start (by rw [hn]; exact hi) hq
  clear hn hq
  have hsz : (bs l).size = n := by rw [bs_size, HN.out]
  go_enter Tryz.func87, Tryz.ntmps87
  go_wp2_with fail
  go_loop [5] (fun x => ∃ k : Nat, i < k ∧ k ≤ n ∧ x = .int .i64 (k : Nat) ∧ Hid (wordsM (l.drop i) 0 [] = wordsM (l.drop k) 2 (subL l i k))) (fun x => n - (intOf x).toNat)
  case atStart => exact ⟨i + 1, by omega, by omega, by go_num, HS0.out⟩
  case round =>
    obtain ⟨k, hik, hk, rfl, HK⟩ := hrel
    by_cases hlt : k < n
    · have hkl : k < l.length := by rw [HN.out]; exact hlt
      obtain ⟨c, hc⟩ : ∃ c, bAt l k = c := ⟨_, rfl⟩
      have HC := Lib.hid hc
      by_cases hq : c = 34
      · have t1 : ((c.toNat : Int) == 34) = true := byte_is hq
        have HQ2 : Hid (wordsM (l.drop i) 0 [] = wordsM (l.drop (k + 1)) 3 (subL l i (k + 1))) := by show _ = _; rw [HK.out]; exact q_close (by omega) hkl (by rw [hc]; exact hq)
        clear hq
        by_cases hl2 : k + 1 < n
        · obtain ⟨d, hd⟩ : ∃ d, bAt l (k + 1) = d := ⟨_, rfl⟩
          have HD := Lib.hid hd
          by_cases hb : d = 32
          · have t2 : ((d.toNat : Int) != 32) = false := by rw [bne, show ((d.toNat : Int) == 32) = true from byte_is hb]; rfl
            have HR : Hid (EndsAt l i ((k + 1 : Nat) : Int)) := .inr ⟨k + 1, rfl, by omega, by rw [HN.out]; omega, by rw [HQ2.out]; exact q_end _ (.inr ⟨by rw [HN.out]; exact hl2, by rw [hd]; exact hb⟩)⟩
            clear hb
            go_wp2_with fail
            go_ret
            exact ⟨_, rfl, by have := HR.out; rwa [show ((k + 1 : Nat) : Int) = (k : Int) + 1 by omega] at this, rfl⟩
          · have t2 : ((d.toNat : Int) != 32) = true := by rw [bne, show ((d.toNat : Int) == 32) = false from byte_not hb]; rfl
            have HR : Hid (EndsAt l i (-1)) := .inl ⟨rfl, by rw [HQ2.out]; exact q_bad _ (by rw [HN.out]; exact hl2) (by rw [hd]; exact hb)⟩
            clear hb
            go_wp2_with fail
            go_ret
            exact ⟨_, rfl, HR.out, rfl⟩
        · have HR : Hid (EndsAt l i ((k + 1 : Nat) : Int)) := .inr ⟨k + 1, rfl, by omega, by rw [HN.out]; omega, by rw [HQ2.out]; exact q_end _ (.inl (by rw [HN.out]; omega))⟩
          go_wp2_with fail
          go_ret
          exact ⟨_, rfl, by have := HR.out; rwa [show ((k + 1 : Nat) : Int) = (k : Int) + 1 by omega] at this, rfl⟩
      · have t1 : ((c.toNat : Int) == 34) = false := byte_not hq
        have HK2 : Hid (wordsM (l.drop i) 0 [] = wordsM (l.drop (k + 1)) 2 (subL l i (k + 1))) := by show _ = _; rw [HK.out]; exact q_next (by omega) hkl (by rw [hc]; exact hq)
        clear hq
        go_wp2_with fail
        go_round
        case rel => exact ⟨k + 1, by omega, by omega, by go_num, HK2.out⟩
        case measure => simp [intOf]; omega
    · obtain rfl : k = n := by omega
      have HR : Hid (EndsAt l i (-1)) := .inl ⟨rfl, by rw [HK.out, ← HN.out]; exact q_open _⟩
      go_wp2_with fail
      go_ret
      exact ⟨_, rfl, HR.out, rfl⟩
/-! ### prog.words -/
def WordsOut (out : List (List UInt8)) (l : List UInt8) (i : Nat) : Prop := wordsM l 0 [] = (wordsM (l.drop i) 0 []).map (fun m => out ++ m)
theorem WordsOut.start (l : List UInt8) : WordsOut [] l 0 := by
  unfold WordsOut
  rw [List.drop_zero]
  cases wordsM l 0 [] <;> rfl
theorem WordsOut.blank {out : List (List UInt8)} {l : List UInt8} {i : Nat} (h : WordsOut out l i) (hi : i < l.length) (hb : bAt l i = 32) : WordsOut out l (i + 1) := by
  unfold WordsOut at *
  rw [h, b_next hi hb]
theorem WordsOut.word {out : List (List UInt8)} {l : List UInt8} {i k : Nat} (h : WordsOut out l i) (he : wordsM (l.drop i) 0 [] = (wordsM (l.drop k) 0 []).map (fun m => subL l i k :: m)) : WordsOut (out ++ [subL l i k]) l k := by
  unfold WordsOut at *
  rw [h, he]
  cases wordsM (l.drop k) 0 [] with
  | none => rfl
  | some m => simp
theorem WordsOut.none {out : List (List UInt8)} {l : List UInt8} {i : Nat} (h : WordsOut out l i) (he : wordsM (l.drop i) 0 [] = none) : wordsM l 0 [] = none := by
  unfold WordsOut at h
  rw [h, he]; rfl
theorem WordsOut.last {out : List (List UInt8)} {l : List UInt8} (h : WordsOut out l l.length) : wordsM l 0 [] = some out := by
  unfold WordsOut at h
  rw [h, List.drop_length, wm_nil]; simp
/-- What words tells: the words, or none. -/
def WordsPost (w : World) (l : List UInt8) (okv bad : Value) (e : Ending) (w' : World) : Prop :=
  (wordsM l 0 [] = none ∧ e = .returned (.tuple #[.slice none 0 0, bad]) ∧ Below w.heap.size w w') ∨ ∃ ws v, wordsM l 0 [] = some ws ∧ ws.length ≤ l.length ∧ e = .returned (.tuple #[v, okv]) ∧ OwnK w' w.heap.size v ws ∧ Below w.heap.size w w'
set_option maxHeartbeats 4000000 in
theorem words_any (l : List UInt8) (hl : l.length ≤ 1000000) (w : World) : Calls Tryz.prog 53 #[.string (bs l)] w (WordsPost w l (.bool true) (.bool false)) := by
  obtain ⟨n, hn⟩ : ∃ n, l.length = n := ⟨_, rfl⟩
  have HN := Lib.hid hn
  rw [hn] at hl
  clear hn
  have hsz : (bs l).size = n := by rw [bs_size, HN.out]
  go_enter Tryz.func53, Tryz.ntmps53
  go_wp2_with fail
  go_loopw [4, 5, 6] (fun v x _ wr => ∃ (i : Nat) (out : List (List UInt8)), i ≤ n ∧ x = .int .i64 (i : Nat) ∧ out.length ≤ i ∧ Hid (OwnK wr w.heap.size v out) ∧ Hid (WordsOut out l i) ∧ Hid (Below w.heap.size w wr)) (fun _ x _ _ => n - (intOf x).toNat)
  case atStart => exact ⟨0, [], Nat.zero_le _, rfl, Nat.le_refl _, OwnK.nil _ _, WordsOut.start l, Below.refl _ _⟩
  case round =>
    obtain ⟨i, out, hi, rfl, hol, HO, HW, HB⟩ := hrel
    obtain ⟨av, cv, rfl, _⟩ := OwnK.rd HO.out
    by_cases hlt : i < n
    · have hil : i < l.length := by rw [HN.out]; exact hlt
      have HIL := Lib.hid hil
      obtain ⟨c, hc⟩ : ∃ c, bAt l i = c := ⟨_, rfl⟩
      have HC := Lib.hid hc
      by_cases h32 : c = 32
      · have t1 : ((c.toNat : Int) == 32) = true := byte_is h32
        have HW2 := Lib.hid (HW.out.blank hil (by rw [hc]; exact h32))
        clear h32 hil
        go_wp2_with fail
        go_roundw
        case rel => exact ⟨i + 1, out, by omega, by go_num, by omega, HO.out, HW2.out, HB.out⟩
        case measure => simp [intOf]; omega
      · have t1 : ((c.toNat : Int) == 32) = false := byte_not h32
        by_cases h34 : c = 34
        · have t2 : ((c.toNat : Int) == 34) = true := byte_is h34
          have HQ := Lib.hid (quoted_any l i hil (by rw [hc]; exact h34) (by rw [HN.out]; exact hl) wr)
          clear h32 h34 hil
          go_wp2_with fail
          go_at_call 87
          refine HQ.out.mono ?_
          rintro e W ⟨x, rfl, hx, rfl⟩
          rcases hx with ⟨rfl, hx⟩ | ⟨k, rfl, hik, hkl, hx⟩
          · have HR := Lib.hid (HW.out.none hx)
            clear hx
            go_wp2_with fail
            refine bodyPost_ret (results_tmp2 rfl _ _ _) rfl ?_
            exact .inl ⟨HR.out, rfl, HB.out⟩
          · have HE := Lib.hid hx
            have hkn : k ≤ n := by rw [HN.out] at hkl; exact hkl
            clear hx hkl
            have HO1 : Hid (World.ownsRow (W.alloc (.cells #[.string (bs (subL l i k))] 9)) w.heap.size 9 1 (.slice av out.length cv) out.length (out.map encStr)) := World.ownsRow.alloc HO.out _
            have e9 : (bs l).extract i k = bs (subL l i k) := bs_sub l i k
            go_wp2_with (at_builtin; refine wpList_app SStrU rfl (.tmp 55) (.tmp 60) rfl w.heap.size rfl HO1.out rfl (Rd.one _ _ _) (by simp [Value.oneCell']) (by omega) (by unfold maxLen; omega) (by have := HB.out.size; simp; omega) ?_)
            intro v5 w5 hown5 hb5 _
            have HO5 : Hid (OwnK w5 w.heap.size v5 (out ++ [subL l i k])) := by
              show w5.ownsRow _ _ _ _ _ _
              simpa [encStr_bs] using hown5
            have HB5 := Lib.hid ((HB.out.alloc HB.out.size _).trans hb5)
            clear hown5 hb5
            go_wp2_with fail
            go_roundw
            case rel => exact ⟨k, out ++ [subL l i k], by omega, rfl, by simp; omega, HO5.out, HW.out.word HE.out, HB5.out⟩
            case measure => simp [intOf]; omega
        · have t2 : ((c.toNat : Int) == 34) = false := byte_not h34
          have HP0 := Lib.hid (p_start hil (by rw [hc]; exact h32) (by rw [hc]; exact h34))
          have HNE : Hid (bAt l i ≠ 32 ∧ bAt l i ≠ 34) := ⟨by rw [hc]; exact h32, by rw [hc]; exact h34⟩
          clear h32 h34 hil
          go_wp2_with fail
          go_loopw [6] (fun x wz => ∃ k : Nat, i ≤ k ∧ k ≤ n ∧ x = .int .i64 (k : Nat) ∧ Hid (wordsM (l.drop i) 0 [] = wordsM (l.drop k) 1 (subL l i k)) ∧ wz = wr) (fun x _ => n - (intOf x).toNat)
          case atStart => exact ⟨i, Nat.le_refl _, by omega, rfl, HP0.out, rfl⟩
          case round =>
            clear HP0
            obtain ⟨k, hik, hkn, rfl, HK, rfl⟩ := hrel
            by_cases hlt2 : k < n
            · have hkl : k < l.length := by rw [HN.out]; exact hlt2
              obtain ⟨d, hd⟩ : ∃ d, bAt l k = d := ⟨_, rfl⟩
              have HD := Lib.hid hd
              by_cases g32 : d = 32
              · have u1 : ((d.toNat : Int) != 32) = false := by rw [bne, show ((d.toNat : Int) == 32) = true from byte_is g32]; rfl
                have u2 : ((d.toNat : Int) == 34) = false := by rw [g32]; rfl
                have hlt3 : i < k := by
                  rcases Nat.lt_or_ge i k with h | h
                  · exact h
                  · have : k = i := by omega
                    rw [this] at hd
                    exact absurd (hd.trans g32) HNE.out.1
                have HE : Hid (wordsM (l.drop i) 0 [] = (wordsM (l.drop k) 0 []).map (fun m => subL l i k :: m)) := by show _ = _; rw [HK.out]; exact p_end _ (.inr ⟨hkl, by rw [hd]; exact g32⟩)
                clear g32 hkl
                have HO1 : Hid (World.ownsRow (wr.alloc (.cells #[.string (bs (subL l i k))] 9)) w.heap.size 9 1 (.slice av out.length cv) out.length (out.map encStr)) := World.ownsRow.alloc HO.out _
                have e9 : (bs l).extract i k = bs (subL l i k) := bs_sub l i k
                go_wp2_with (at_builtin; refine wpList_app SStrU rfl (.tmp 55) (.tmp 60) rfl w.heap.size rfl HO1.out rfl (Rd.one _ _ _) (by simp [Value.oneCell']) (by omega) (by unfold maxLen; omega) (by have := HB.out.size; simp; omega) ?_)
                intro v5 w5 hown5 hb5 _
                have HO5 : Hid (OwnK w5 w.heap.size v5 (out ++ [subL l i k])) := by
                  show w5.ownsRow _ _ _ _ _ _
                  simpa [encStr_bs] using hown5
                have HB5 := Lib.hid ((HB.out.alloc HB.out.size _).trans hb5)
                clear hown5 hb5
                go_wp2_with fail
                go_roundw
                case rel => exact ⟨k, out ++ [subL l i k], by omega, rfl, by simp; omega, HO5.out, HW.out.word HE.out, HB5.out⟩
                case measure => simp [intOf]; omega
              · have u1 : ((d.toNat : Int) != 32) = true := by rw [bne, show ((d.toNat : Int) == 32) = false from byte_not g32]; rfl
                by_cases g34 : d = 34
                · have u2 : ((d.toNat : Int) != 34) = false := by rw [bne, show ((d.toNat : Int) == 34) = true from byte_is g34]; rfl
                  have u3 : ((d.toNat : Int) == 34) = true := byte_is g34
                  have HR := Lib.hid (HW.out.none (HK.out.trans (p_bad _ hkl (by rw [hd]; exact g34))))
                  clear g32 g34 hkl
                  go_wp2_with fail
                  refine bodyPost_ret (results_tmp2 rfl _ _ _) rfl ?_
                  exact .inl ⟨HR.out, rfl, HB.out⟩
                · have u2 : ((d.toNat : Int) != 34) = true := by rw [bne, show ((d.toNat : Int) == 34) = false from byte_not g34]; rfl
                  have HK2 : Hid (wordsM (l.drop i) 0 [] = wordsM (l.drop (k + 1)) 1 (subL l i (k + 1))) := by show _ = _; rw [HK.out]; exact p_next hik hkl (by rw [hd]; exact g32) (by rw [hd]; exact g34)
                  clear g32 g34 hkl
                  go_wp2_with fail
                  go_roundw
                  case rel => exact ⟨k + 1, by omega, by omega, by go_num, HK2.out, trivial⟩
                  case measure => simp [intOf]; omega
            · obtain rfl : k = n := by omega
              have HE : Hid (wordsM (l.drop i) 0 [] = (wordsM (l.drop k) 0 []).map (fun m => subL l i k :: m)) := by show _ = _; rw [HK.out]; exact p_end _ (.inl HN.out.symm)
              have HO1 : Hid (World.ownsRow (wr.alloc (.cells #[.string (bs (subL l i k))] 9)) w.heap.size 9 1 (.slice av out.length cv) out.length (out.map encStr)) := World.ownsRow.alloc HO.out _
              have e9 : (bs l).extract i k = bs (subL l i k) := bs_sub l i k
              go_wp2_with (at_builtin; refine wpList_app SStrU rfl (.tmp 55) (.tmp 60) rfl w.heap.size rfl HO1.out rfl (Rd.one _ _ _) (by simp [Value.oneCell']) (by omega) (by unfold maxLen; omega) (by have := HB.out.size; simp; omega) ?_)
              intro v5 w5 hown5 hb5 _
              have HO5 : Hid (OwnK w5 w.heap.size v5 (out ++ [subL l i k])) := by
                show w5.ownsRow _ _ _ _ _ _
                simpa [encStr_bs] using hown5
              have HB5 := Lib.hid ((HB.out.alloc HB.out.size _).trans hb5)
              clear hown5 hb5
              go_wp2_with fail
              go_roundw
              case rel => exact ⟨k, out ++ [subL l i k], by omega, rfl, by simp; omega, HO5.out, HW.out.word HE.out, HB5.out⟩
              case measure => simp [intOf]; omega
    · obtain rfl : i = n := by omega
      have HR : Hid (wordsM l 0 [] = some out) := by
        have := HW.out
        rw [← HN.out] at this
        exact this.last
      have HFIN : Hid (WordsPost w l (.bool true) (.bool false) (.returned (.tuple #[.slice av out.length cv, .bool true])) wr) := .inr ⟨out, _, HR.out, by rw [HN.out]; exact hol, rfl, HO.out, HB.out⟩
      go_wp2_with fail
      refine bodyPost_ret (results_tmp2 rfl _ _ _) rfl ?_
      exact HFIN.out
end Go.Proofs.YtalpbphfmelhhaaGreatDoor

/-! ### A word's code, what a step names: the walks of prog.code, prog.name. -/
namespace Go.Proofs.YtalpbphfmelhhaaGreatDoor
open Go.RowKit Go.Maps Go.Sort
set_option maxRecDepth 100000
attribute [local go_sem] bs_size bs_get bs_toList frombits tobits run_store_float
theorem there_rowo {w : World} {b o m : Nat} {c : Array Value} {t : TypeId} (h : w.heap[b]? = some (.cells c t (0, 0))) (hn : o + m ≤ c.size) : w.there b o m := fun j hj => by
  refine ⟨?_, frozen_of_row _ b (o + j) c t h⟩
  rw [cell_of_row _ b (o + j) c t (0, 0) h]
  simp; omega
theorem codeW_eq {x : List UInt8} {k : Nat} (h1 : 1 ≤ k) (h2 : k < 16) (he : wordC k = x) : codeW x = k := by
  rw [← he, codeW_of (by omega) (by omega)]
theorem codeW_zero {x : List UInt8} (h : ∀ c : Nat, 1 ≤ c → c < 16 → wordC c ≠ x) : codeW x = 0 := codeW_no fun c h1 h2 e => by
  obtain ⟨n, rfl⟩ : ∃ n : Nat, c = (n : Int) := ⟨c.toNat, by omega⟩
  exact h n (by omega) (by omega) e
set_option maxHeartbeats 2000000 in
theorem code_any (x : List UInt8) (w : World) : Calls Tryz.prog 54 #[.string (bs x)] w fun e w' => e = .returned (.int .i64 (codeW x)) ∧ Below w.heap.size w w' := by
  have HS : Hid (∀ W, Calls Tryz.prog 55 #[] W fun e w' => e = .returned (.agg stepsA) ∧ Below W.heap.size W w') := steps_any
  go_enter Tryz.func54, Tryz.ntmps54
  go_wp2_with fail
  go_at_call 55
  refine (HS.out _).mono ?_
  rintro e w1 ⟨rfl, hb1⟩
  have HB1 := Lib.hid hb1
  clear hb1
  go_wp2_with fail
  go_loopw [3, 4, 6] (fun _ _ i wr => ∃ k : Nat, k ≤ 16 ∧ i = .int .i64 (k : Nat) ∧ Hid (∀ c : Nat, 1 ≤ c → c < k → wordC c ≠ x) ∧ Hid (Below w.heap.size w wr)) (fun _ _ i _ => 16 - (intOf i).toNat)
  case atStart => exact ⟨0, by decide, rfl, (fun c h1 h2 => absurd h2 (by omega)), HB1.out⟩
  case round =>
    obtain ⟨k, hk, rfl, HC, HB⟩ := hrel
    by_cases hlt : k < 16
    · have hx := steps_index k hlt
      by_cases h0 : k = 0
      · subst h0
        have hx0 : ∀ W, (Instr.index 96 (.agg stepsA) (.int .i64 0)).run Tryz.prog W = .ok (.agg #[.string (bs []), .int .i64 0, .int .i64 0, .int .i64 0]) W := hx
        clear hx
        rw [show ((0 : Nat) : Int) = 0 from rfl]
        go_wp2_with fail
        go_roundw
        case rel => exact ⟨1, by omega, by go_num, (fun c h1 h2 => absurd h2 (by omega)), HB.out.alloc HB.out.size _⟩
        case measure => simp [intOf]
      · rw [stepsA_at k (by omega) (by omega)] at hx
        obtain ⟨wd, hwd⟩ : ∃ wd, wordC (k : Int) = wd := ⟨_, rfl⟩
        obtain ⟨nm, hnm⟩ : ∃ nm, namesC (k : Int) = nm := ⟨_, rfl⟩
        obtain ⟨tk, htk⟩ : ∃ tk, takeC (k : Int) = tk := ⟨_, rfl⟩
        obtain ⟨gv, hgv⟩ : ∃ gv, giveC (k : Int) = gv := ⟨_, rfl⟩
        rw [hwd, hnm, htk, hgv] at hx
        have d1 : decide ((0 : Int) < (k : Int)) = true := decide_eq_true (by omega)
        have d0 : decide (0 < k) = true := decide_eq_true (by omega)
        cases he : (wd == x) with
        | true =>
          have HR : Hid (codeW x = (k : Int)) := codeW_eq (by omega) hlt (by rw [hwd]; simpa using he)
          clear hwd hnm htk hgv
          go_wp2_with fail
          go_ret
          exact ⟨by rw [HR.out]; rfl, HB.out.alloc HB.out.size _⟩
        | false =>
          have HC2 : Hid (∀ c : Nat, 1 ≤ c → c < k + 1 → wordC c ≠ x) := fun c h1 h2 => by
            rcases Nat.lt_or_ge c k with h | h
            · exact HC.out c h1 h
            · have : c = k := by omega
              rw [this, hwd]
              simpa using he
          clear hwd hnm htk hgv
          go_wp2_with fail
          go_roundw
          case rel => exact ⟨k + 1, by omega, by go_num, HC2.out, HB.out.alloc HB.out.size _⟩
          case measure => simp [intOf]; omega
    · obtain rfl : k = 16 := by omega
      have HR : Hid (codeW x = 0) := codeW_zero HC.out
      go_wp2_with fail
      go_ret
      exact ⟨by rw [HR.out]; rfl, HB.out⟩
theorem st5 {X : World} {b : Nat} (h : X.there b 0 5) (a0 a1 a2 a3 : Value) : ∃ u0 u1 u2 u3 u4, X.cell? ⟨b, 0, none⟩ = some u0 ∧ X.frozen? ⟨b, 0, none⟩ = false ∧ (X.setCell ⟨b, 0, none⟩ a0).cell? ⟨b, 1, none⟩ = some u1 ∧ (X.setCell ⟨b, 0, none⟩ a0).frozen? ⟨b, 1, none⟩ = false ∧
    ((X.setCell ⟨b, 0, none⟩ a0).setCell ⟨b, 1, none⟩ a1).cell? ⟨b, 2, none⟩ = some u2 ∧ ((X.setCell ⟨b, 0, none⟩ a0).setCell ⟨b, 1, none⟩ a1).frozen? ⟨b, 2, none⟩ = false ∧
    (((X.setCell ⟨b, 0, none⟩ a0).setCell ⟨b, 1, none⟩ a1).setCell ⟨b, 2, none⟩ a2).cell? ⟨b, 3, none⟩ = some u3 ∧ (((X.setCell ⟨b, 0, none⟩ a0).setCell ⟨b, 1, none⟩ a1).setCell ⟨b, 2, none⟩ a2).frozen? ⟨b, 3, none⟩ = false ∧
    ((((X.setCell ⟨b, 0, none⟩ a0).setCell ⟨b, 1, none⟩ a1).setCell ⟨b, 2, none⟩ a2).setCell ⟨b, 3, none⟩ a3).cell? ⟨b, 4, none⟩ = some u4 ∧ ((((X.setCell ⟨b, 0, none⟩ a0).setCell ⟨b, 1, none⟩ a1).setCell ⟨b, 2, none⟩ a2).setCell ⟨b, 3, none⟩ a3).frozen? ⟨b, 4, none⟩ = false := by
  obtain ⟨u0, h0⟩ := Option.isSome_iff_exists.1 (h 0 (by decide)).1
  obtain ⟨u1, h1⟩ := Option.isSome_iff_exists.1 (h 1 (by decide)).1
  obtain ⟨u2, h2⟩ := Option.isSome_iff_exists.1 (h 2 (by decide)).1
  obtain ⟨u3, h3⟩ := Option.isSome_iff_exists.1 (h 3 (by decide)).1
  obtain ⟨u4, h4⟩ := Option.isSome_iff_exists.1 (h 4 (by decide)).1
  have f0 := (h 0 (by decide)).2
  have f1 := (h 1 (by decide)).2
  have f2 := (h 2 (by decide)).2
  have f3 := (h 3 (by decide)).2
  have f4 := (h 4 (by decide)).2
  simp only [Nat.zero_add] at h0 h1 h2 h3 h4 f0 f1 f2 f3 f4
  refine ⟨u0, u1, u2, u3, u4, h0, f0, ?_, ?_, ?_, ?_, ?_, ?_, ?_, ?_⟩
  · exact (World.cell?_setCells_out b [a0] 0 X ⟨b, 1, none⟩ (by simp)).trans h1
  · exact (World.frozen?_setCells b [a0] 0 X ⟨b, 1, none⟩).trans f1
  · exact (World.cell?_setCells_out b [a0, a1] 0 X ⟨b, 2, none⟩ (by simp)).trans h2
  · exact (World.frozen?_setCells b [a0, a1] 0 X ⟨b, 2, none⟩).trans f2
  · exact (World.cell?_setCells_out b [a0, a1, a2] 0 X ⟨b, 3, none⟩ (by simp)).trans h3
  · exact (World.frozen?_setCells b [a0, a1, a2] 0 X ⟨b, 3, none⟩).trans f3
  · exact (World.cell?_setCells_out b [a0, a1, a2, a3] 0 X ⟨b, 4, none⟩ (by simp)).trans h4
  · exact (World.frozen?_setCells b [a0, a1, a2, a3] 0 X ⟨b, 4, none⟩).trans f4
/-- A row of five cells written over, whole. -/
def set5 (X : World) (b : Nat) (a0 a1 a2 a3 a4 : Value) : World := ((((X.setCell ⟨b, 0, none⟩ a0).setCell ⟨b, 1, none⟩ a1).setCell ⟨b, 2, none⟩ a2).setCell ⟨b, 3, none⟩ a3).setCell ⟨b, 4, none⟩ a4
theorem set5_row {X : World} {b : Nat} {t : TypeId} {c0 c1 c2 c3 c4 : Value} (h : X.heap[b]? = some (.cells #[c0, c1, c2, c3, c4] t (0, 0))) (a0 a1 a2 a3 a4 : Value) : (set5 X b a0 a1 a2 a3 a4).heap[b]? = some (.cells #[a0, a1, a2, a3, a4] t (0, 0)) :=
  row_set (i := 4) (v := a4) (row_set (i := 3) (v := a3) (row_set (i := 2) (v := a2) (row_set (i := 1) (v := a1) (row_set (i := 0) (v := a0) h rfl) rfl) rfl) rfl) rfl
theorem set5_below {B b : Nat} {w X : World} (h : Below B w X) (hb : B ≤ b) (a0 a1 a2 a3 a4 : Value) : Below B w (set5 X b a0 a1 a2 a3 a4) :=
  ((((h.setCell (p := ⟨b, 0, none⟩) hb _).setCell (p := ⟨b, 1, none⟩) hb _).setCell (p := ⟨b, 2, none⟩) hb _).setCell (p := ⟨b, 3, none⟩) hb _).setCell (p := ⟨b, 4, none⟩) hb _
theorem set5_load {X : World} {b : Nat} {c0 c1 c2 c3 c4 : Value} (h : X.heap[b]? = some (.cells #[c0, c1, c2, c3, c4] 59 (0, 0))) (a0 a1 a2 a3 a4 : Value) : (loadVar 59 ⟨b, 0, none⟩).run Tryz.prog (set5 X b a0 a1 a2 a3 a4) = .ok (.agg #[a0, a1, a2, a3, a4]) (set5 X b a0 a1 a2 a3 a4) := by
  have hr := set5_row h a0 a1 a2 a3 a4
  have d0 := cell_of_row _ b 0 _ _ _ hr
  have d1 := cell_of_row _ b 1 _ _ _ hr
  have d2 := cell_of_row _ b 2 _ _ _ hr
  have d3 := cell_of_row _ b 3 _ _ _ hr
  have d4 := cell_of_row _ b 4 _ _ _ hr
  generalize set5 X b a0 a1 a2 a3 a4 = Y at *
  simp only [List.getElem?_toArray, List.getElem?_cons_zero, List.getElem?_cons_succ] at d0 d1 d2 d3 d4
  simp [go_sem, d0, d1, d2, d3, d4, Result.andThen]
set_option maxHeartbeats 4000000 in
theorem name_two (c : Int) (x : List UInt8) (hx : x.length ≤ 100000) (w : World) :
    Calls Tryz.prog 56 #[.agg #[.int .i64 c, .string ⟨#[]⟩, .int .i64 0, .float .f64 0, .string ⟨#[]⟩], .int .i64 2, .string (bs x)] w fun e w' => e = .returned (.tuple #[opV c [] (parseD x).k (parseD x).x (parseD x).s, .int .i64 (parseD x).e]) ∧ Below w.heap.size w w' := by
  obtain ⟨p, hp⟩ : ∃ p, parseD x = p := ⟨_, rfl⟩
  have HP : Hid (∀ W, Calls Tryz.prog 88 #[.string (bs x)] W fun e w' => e = .returned (.tuple #[.agg #[.int .i64 p.k, .float .f64 (fb p.x), .string (bs p.s)], .int .i64 p.e]) ∧ Below W.heap.size W w') := fun W => cparseA x hx hp W
  rw [hp]
  clear hp
  have hb0 : Below w.heap.size w ((w.alloc (.cells #[.int .i64 c, .string ⟨#[]⟩, .int .i64 0, .float .f64 0, .string ⟨#[]⟩] 59)).alloc (.cells #[.int .i64 0, .string ⟨#[]⟩, .int .i64 0, .float .f64 0, .string ⟨#[]⟩] 59)) := ((Below.refl _ w).alloc (Nat.le_refl _) _).alloc (by simp) _
  have hq3 : ((w.alloc (.cells #[.int .i64 c, .string ⟨#[]⟩, .int .i64 0, .float .f64 0, .string ⟨#[]⟩] 59)).alloc (.cells #[.int .i64 0, .string ⟨#[]⟩, .int .i64 0, .float .f64 0, .string ⟨#[]⟩] 59)).heap[w.heap.size]? = some (.cells #[.int .i64 c, .string ⟨#[]⟩, .int .i64 0, .float .f64 0, .string ⟨#[]⟩] 59 (0, 0)) := (((Below.refl (w.heap.size + 1) (w.alloc (.cells #[.int .i64 c, .string ⟨#[]⟩, .int .i64 0, .float .f64 0, .string ⟨#[]⟩] 59))).alloc (by simp) (.cells #[.int .i64 0, .string ⟨#[]⟩, .int .i64 0, .float .f64 0, .string ⟨#[]⟩] 59)).block w.heap.size (Nat.lt_succ_self _)).trans (heap_alloc_new w _)
  have hq6 : ((w.alloc (.cells #[.int .i64 c, .string ⟨#[]⟩, .int .i64 0, .float .f64 0, .string ⟨#[]⟩] 59)).alloc (.cells #[.int .i64 0, .string ⟨#[]⟩, .int .i64 0, .float .f64 0, .string ⟨#[]⟩] 59)).heap[w.heap.size + 1]? = some (.cells #[.int .i64 0, .string ⟨#[]⟩, .int .i64 0, .float .f64 0, .string ⟨#[]⟩] 59 (0, 0)) := by
    have := heap_alloc_new (w.alloc (.cells #[.int .i64 c, .string ⟨#[]⟩, .int .i64 0, .float .f64 0, .string ⟨#[]⟩] 59)) (.cells #[.int .i64 0, .string ⟨#[]⟩, .int .i64 0, .float .f64 0, .string ⟨#[]⟩] 59)
    rw [World.size_alloc] at this
    exact this
  obtain ⟨X, hX⟩ : ∃ X, (w.alloc (.cells #[.int .i64 c, .string ⟨#[]⟩, .int .i64 0, .float .f64 0, .string ⟨#[]⟩] 59)).alloc (.cells #[.int .i64 0, .string ⟨#[]⟩, .int .i64 0, .float .f64 0, .string ⟨#[]⟩] 59) = X := ⟨_, rfl⟩
  rw [hX] at hb0 hq3 hq6
  obtain ⟨q3, hq3e⟩ : ∃ q, w.heap.size = q := ⟨_, rfl⟩
  rw [hq3e] at hq3 hq6
  obtain ⟨q6, hq6e⟩ : ∃ q, q3 + 1 = q := ⟨_, rfl⟩
  rw [hq6e] at hq6
  have HQ3 : Hid (w.heap.size ≤ q3) := Nat.le_of_eq hq3e
  have HQ6 : Hid (w.heap.size ≤ q6) := by show w.heap.size ≤ q6; omega
  have HNE : Hid (q3 ≠ q6) := by show q3 ≠ q6; omega
  have HB0 := Lib.hid hb0
  have HR3 := Lib.hid hq3
  have HR6 := Lib.hid hq6
  clear hb0 hq3 hq6
  go_enter Tryz.func56, Tryz.ntmps56
  go_wp2_with fail
  go_at_call 88
  refine (HP.out _).mono ?_
  rintro e w1 ⟨rfl, hb1⟩
  have hbY : Below X.heap.size X (w1.alloc (.cells #[.int .i64 p.k, .float .f64 (fb p.x), .string (bs p.s)] 48)) := hb1.alloc hb1.size _
  obtain ⟨s0, s1, s2⟩ := vat w1 p.k p.x p.s 48
  obtain ⟨Y, hY⟩ : ∃ Y, w1.alloc (.cells #[.int .i64 p.k, .float .f64 (fb p.x), .string (bs p.s)] 48) = Y := ⟨_, rfl⟩
  rw [hY] at hbY s0 s1 s2
  obtain ⟨q8, hq8⟩ : ∃ q, w1.heap.size = q := ⟨_, rfl⟩
  rw [hq8] at s0 s1 s2
  have hr3 := (hbY.block q3 (Array.getElem?_eq_some_iff.1 HR3.out).1).trans HR3.out
  have hr6 := (hbY.block q6 (Array.getElem?_eq_some_iff.1 HR6.out).1).trans HR6.out
  have HBY := Lib.hid (HB0.out.trans (hbY.mono HB0.out.size))
  have h3o := st3o (there_rowo (o := 2) (m := 3) hr3 (by simp)) (.int .i64 p.k) (.float .f64 (fb p.x))
  simp only [Nat.reduceAdd] at h3o
  obtain ⟨v0, v1, v2, a0, a1, a2, a3, a4, a5⟩ := h3o
  have hr3' := row_set (i := 4) (v := .string (bs p.s)) (row_set (i := 3) (v := .float .f64 (fb p.x)) (row_set (i := 2) (v := .int .i64 p.k) hr3 rfl) rfl) rfl
  have hr6' : (((Y.setCell ⟨q3, 2, none⟩ (.int .i64 p.k)).setCell ⟨q3, 3, none⟩ (.float .f64 (fb p.x))).setCell ⟨q3, 4, none⟩ (.string (bs p.s))).heap[q6]? = _ :=
    (Below.heap_setCell _ _ _ _ (Ne.symm HNE.out)).trans ((Below.heap_setCell _ _ _ _ (Ne.symm HNE.out)).trans ((Below.heap_setCell _ _ _ _ (Ne.symm HNE.out)).trans hr6))
  have hbY2 : Below w.heap.size w (((Y.setCell ⟨q3, 2, none⟩ (.int .i64 p.k)).setCell ⟨q3, 3, none⟩ (.float .f64 (fb p.x))).setCell ⟨q3, 4, none⟩ (.string (bs p.s))) :=
    ((HBY.out.setCell (p := ⟨q3, 2, none⟩) HQ3.out _).setCell (p := ⟨q3, 3, none⟩) HQ3.out _).setCell (p := ⟨q3, 4, none⟩) HQ3.out _
  obtain ⟨Y2, hY2⟩ : ∃ Y2, ((Y.setCell ⟨q3, 2, none⟩ (.int .i64 p.k)).setCell ⟨q3, 3, none⟩ (.float .f64 (fb p.x))).setCell ⟨q3, 4, none⟩ (.string (bs p.s)) = Y2 := ⟨_, rfl⟩
  rw [hY2] at hr3' hr6' hbY2
  have c0 := cell_of_row _ q3 0 _ _ _ hr3'
  have c1 := cell_of_row _ q3 1 _ _ _ hr3'
  have c2 := cell_of_row _ q3 2 _ _ _ hr3'
  have c3 := cell_of_row _ q3 3 _ _ _ hr3'
  have c4 := cell_of_row _ q3 4 _ _ _ hr3'
  simp at c0 c1 c2 c3 c4
  obtain ⟨u0, u1, u2, u3, u4, p0, r0, p1, r1, p2, r2, p3, r3, p4, r4⟩ := st5 (there_row hr6' rfl) (.int .i64 c) (.string ⟨#[]⟩) (.int .i64 p.k) (.float .f64 (fb p.x))
  have HLD := Lib.hid (set5_load hr6' (.int .i64 c) (.string ⟨#[]⟩) (.int .i64 p.k) (.float .f64 (fb p.x)) (.string (bs p.s)))
  have HBF := Lib.hid (set5_below hbY2 HQ6.out (.int .i64 c) (.string ⟨#[]⟩) (.int .i64 p.k) (.float .f64 (fb p.x)) (.string (bs p.s)))
  unfold set5 at HLD HBF
  clear hr3 hr6 hr3' hr6' hbY2 hbY hb1
  go_wp2_with fail
  refine bodyPost_ret (v := .tuple #[.agg #[.int .i64 c, .string ⟨#[]⟩, .int .i64 p.k, .float .f64 (fb p.x), .string (bs p.s)], .int .i64 p.e]) (by rw [results_cell_tmp rfl]; simp [asAddr, Result.andThen]; rw [HLD.out]) rfl ⟨rfl, HBF.out⟩
set_option maxHeartbeats 4000000 in
theorem name_none (c : Int) (x : List UInt8) (hx : x.length ≤ 100000) (hu : unqV x = .tuple #[.string (bs []), .int .i64 4]) (w : World) :
    Calls Tryz.prog 56 #[.agg #[.int .i64 c, .string ⟨#[]⟩, .int .i64 0, .float .f64 0, .string ⟨#[]⟩], .int .i64 1, .string (bs x)] w fun e w' => e = .returned (.tuple #[.agg #[.int .i64 c, .string ⟨#[]⟩, .int .i64 0, .float .f64 0, .string ⟨#[]⟩], .int .i64 4]) ∧ Below w.heap.size w w' := by
  have HU : Hid (∀ W, Calls Tryz.prog 89 #[.string (bs x)] W fun e w' => e = .returned (.tuple #[.string (bs []), .int .i64 4]) ∧ Below W.heap.size W w') := fun W => by
    have := unquote_any x (by omega) W
    rw [hu] at this; exact this
  clear hu
  have hb0 : Below w.heap.size w ((w.alloc (.cells #[.int .i64 c, .string ⟨#[]⟩, .int .i64 0, .float .f64 0, .string ⟨#[]⟩] 59)).alloc (.cells #[.int .i64 0, .string ⟨#[]⟩, .int .i64 0, .float .f64 0, .string ⟨#[]⟩] 59)) := ((Below.refl _ w).alloc (Nat.le_refl _) _).alloc (by simp) _
  have hq3 : ((w.alloc (.cells #[.int .i64 c, .string ⟨#[]⟩, .int .i64 0, .float .f64 0, .string ⟨#[]⟩] 59)).alloc (.cells #[.int .i64 0, .string ⟨#[]⟩, .int .i64 0, .float .f64 0, .string ⟨#[]⟩] 59)).heap[w.heap.size]? = some (.cells #[.int .i64 c, .string ⟨#[]⟩, .int .i64 0, .float .f64 0, .string ⟨#[]⟩] 59 (0, 0)) := (((Below.refl (w.heap.size + 1) (w.alloc (.cells #[.int .i64 c, .string ⟨#[]⟩, .int .i64 0, .float .f64 0, .string ⟨#[]⟩] 59))).alloc (by simp) (.cells #[.int .i64 0, .string ⟨#[]⟩, .int .i64 0, .float .f64 0, .string ⟨#[]⟩] 59)).block w.heap.size (Nat.lt_succ_self _)).trans (heap_alloc_new w _)
  have hq6 : ((w.alloc (.cells #[.int .i64 c, .string ⟨#[]⟩, .int .i64 0, .float .f64 0, .string ⟨#[]⟩] 59)).alloc (.cells #[.int .i64 0, .string ⟨#[]⟩, .int .i64 0, .float .f64 0, .string ⟨#[]⟩] 59)).heap[w.heap.size + 1]? = some (.cells #[.int .i64 0, .string ⟨#[]⟩, .int .i64 0, .float .f64 0, .string ⟨#[]⟩] 59 (0, 0)) := by
    have := heap_alloc_new (w.alloc (.cells #[.int .i64 c, .string ⟨#[]⟩, .int .i64 0, .float .f64 0, .string ⟨#[]⟩] 59)) (.cells #[.int .i64 0, .string ⟨#[]⟩, .int .i64 0, .float .f64 0, .string ⟨#[]⟩] 59)
    rw [World.size_alloc] at this
    exact this
  obtain ⟨X, hX⟩ : ∃ X, (w.alloc (.cells #[.int .i64 c, .string ⟨#[]⟩, .int .i64 0, .float .f64 0, .string ⟨#[]⟩] 59)).alloc (.cells #[.int .i64 0, .string ⟨#[]⟩, .int .i64 0, .float .f64 0, .string ⟨#[]⟩] 59) = X := ⟨_, rfl⟩
  rw [hX] at hb0 hq3 hq6
  obtain ⟨q3, hq3e⟩ : ∃ q, w.heap.size = q := ⟨_, rfl⟩
  rw [hq3e] at hq3 hq6
  obtain ⟨q6, hq6e⟩ : ∃ q, q3 + 1 = q := ⟨_, rfl⟩
  rw [hq6e] at hq6
  have HQ3 : Hid (w.heap.size ≤ q3) := Nat.le_of_eq hq3e
  have HQ6 : Hid (w.heap.size ≤ q6) := by show w.heap.size ≤ q6; omega
  have HNE : Hid (q3 ≠ q6) := by show q3 ≠ q6; omega
  have HB0 := Lib.hid hb0
  have HR3 := Lib.hid hq3
  have HR6 := Lib.hid hq6
  clear hb0 hq3 hq6
  go_enter Tryz.func56, Tryz.ntmps56
  go_wp2_with fail
  go_at_call 89
  refine (HU.out _).mono ?_
  rintro e Y ⟨rfl, hbY⟩
  have hr3 := (hbY.block q3 (Array.getElem?_eq_some_iff.1 HR3.out).1).trans HR3.out
  have hr6 := (hbY.block q6 (Array.getElem?_eq_some_iff.1 HR6.out).1).trans HR6.out
  have HBY := Lib.hid (HB0.out.trans (hbY.mono HB0.out.size))
  clear hbY
  have c0 := cell_of_row _ q3 0 _ _ _ hr3
  have c1 := cell_of_row _ q3 1 _ _ _ hr3
  have c2 := cell_of_row _ q3 2 _ _ _ hr3
  have c3 := cell_of_row _ q3 3 _ _ _ hr3
  have c4 := cell_of_row _ q3 4 _ _ _ hr3
  simp at c0 c1 c2 c3 c4
  obtain ⟨u0, u1, u2, u3, u4, p0, r0, p1, r1, p2, r2, p3, r3, p4, r4⟩ := st5 (there_row hr6 rfl) (.int .i64 c) (.string ⟨#[]⟩) (.int .i64 0) (.float .f64 0)
  have HLD := Lib.hid (set5_load hr6 (.int .i64 c) (.string ⟨#[]⟩) (.int .i64 0) (.float .f64 0) (.string ⟨#[]⟩))
  have HBF := Lib.hid (set5_below HBY.out HQ6.out (.int .i64 c) (.string ⟨#[]⟩) (.int .i64 0) (.float .f64 0) (.string ⟨#[]⟩))
  unfold set5 at HLD HBF
  clear hr3 hr6
  go_wp2_with fail
  refine bodyPost_ret (v := .tuple #[.agg #[.int .i64 c, .string ⟨#[]⟩, .int .i64 0, .float .f64 0, .string ⟨#[]⟩], .int .i64 4]) (by rw [results_cell_tmp rfl]; simp [asAddr, Result.andThen]; rw [HLD.out]) rfl ⟨rfl, HBF.out⟩
set_option maxHeartbeats 4000000 in
theorem name_notkey (c : Int) (x : List UInt8) (hx : x.length ≤ 100000) (t : List UInt8) (hu : unqV x = .tuple #[.string (bs t), .int .i64 0]) (hk : keyB t = false) (w : World) :
    Calls Tryz.prog 56 #[.agg #[.int .i64 c, .string ⟨#[]⟩, .int .i64 0, .float .f64 0, .string ⟨#[]⟩], .int .i64 1, .string (bs x)] w fun e w' => e = .returned (.tuple #[.agg #[.int .i64 c, .string ⟨#[]⟩, .int .i64 0, .float .f64 0, .string ⟨#[]⟩], .int .i64 4]) ∧ Below w.heap.size w w' := by
  have HU : Hid (∀ W, Calls Tryz.prog 89 #[.string (bs x)] W fun e w' => e = .returned (.tuple #[.string (bs t), .int .i64 0]) ∧ Below W.heap.size W w') := fun W => by
    have := unquote_any x (by omega) W
    rw [hu] at this; exact this
  clear hu
  have HK : Hid (∀ W, Calls Tryz.prog 67 #[.string (bs t)] W fun e w' => e = .returned (.bool false) ∧ w' = W) := fun W => by rw [← hk]; exact key_any t W
  clear hk
  have hb0 : Below w.heap.size w ((w.alloc (.cells #[.int .i64 c, .string ⟨#[]⟩, .int .i64 0, .float .f64 0, .string ⟨#[]⟩] 59)).alloc (.cells #[.int .i64 0, .string ⟨#[]⟩, .int .i64 0, .float .f64 0, .string ⟨#[]⟩] 59)) := ((Below.refl _ w).alloc (Nat.le_refl _) _).alloc (by simp) _
  have hq3 : ((w.alloc (.cells #[.int .i64 c, .string ⟨#[]⟩, .int .i64 0, .float .f64 0, .string ⟨#[]⟩] 59)).alloc (.cells #[.int .i64 0, .string ⟨#[]⟩, .int .i64 0, .float .f64 0, .string ⟨#[]⟩] 59)).heap[w.heap.size]? = some (.cells #[.int .i64 c, .string ⟨#[]⟩, .int .i64 0, .float .f64 0, .string ⟨#[]⟩] 59 (0, 0)) := (((Below.refl (w.heap.size + 1) (w.alloc (.cells #[.int .i64 c, .string ⟨#[]⟩, .int .i64 0, .float .f64 0, .string ⟨#[]⟩] 59))).alloc (by simp) (.cells #[.int .i64 0, .string ⟨#[]⟩, .int .i64 0, .float .f64 0, .string ⟨#[]⟩] 59)).block w.heap.size (Nat.lt_succ_self _)).trans (heap_alloc_new w _)
  have hq6 : ((w.alloc (.cells #[.int .i64 c, .string ⟨#[]⟩, .int .i64 0, .float .f64 0, .string ⟨#[]⟩] 59)).alloc (.cells #[.int .i64 0, .string ⟨#[]⟩, .int .i64 0, .float .f64 0, .string ⟨#[]⟩] 59)).heap[w.heap.size + 1]? = some (.cells #[.int .i64 0, .string ⟨#[]⟩, .int .i64 0, .float .f64 0, .string ⟨#[]⟩] 59 (0, 0)) := by
    have := heap_alloc_new (w.alloc (.cells #[.int .i64 c, .string ⟨#[]⟩, .int .i64 0, .float .f64 0, .string ⟨#[]⟩] 59)) (.cells #[.int .i64 0, .string ⟨#[]⟩, .int .i64 0, .float .f64 0, .string ⟨#[]⟩] 59)
    rw [World.size_alloc] at this
    exact this
  obtain ⟨X, hX⟩ : ∃ X, (w.alloc (.cells #[.int .i64 c, .string ⟨#[]⟩, .int .i64 0, .float .f64 0, .string ⟨#[]⟩] 59)).alloc (.cells #[.int .i64 0, .string ⟨#[]⟩, .int .i64 0, .float .f64 0, .string ⟨#[]⟩] 59) = X := ⟨_, rfl⟩
  rw [hX] at hb0 hq3 hq6
  obtain ⟨q3, hq3e⟩ : ∃ q, w.heap.size = q := ⟨_, rfl⟩
  rw [hq3e] at hq3 hq6
  obtain ⟨q6, hq6e⟩ : ∃ q, q3 + 1 = q := ⟨_, rfl⟩
  rw [hq6e] at hq6
  have HQ3 : Hid (w.heap.size ≤ q3) := Nat.le_of_eq hq3e
  have HQ6 : Hid (w.heap.size ≤ q6) := by show w.heap.size ≤ q6; omega
  have HNE : Hid (q3 ≠ q6) := by show q3 ≠ q6; omega
  have HB0 := Lib.hid hb0
  have HR3 := Lib.hid hq3
  have HR6 := Lib.hid hq6
  clear hb0 hq3 hq6
  go_enter Tryz.func56, Tryz.ntmps56
  go_wp2_with fail
  go_at_call 89
  refine (HU.out _).mono ?_
  rintro e Y ⟨rfl, hbY⟩
  have hr3 := (hbY.block q3 (Array.getElem?_eq_some_iff.1 HR3.out).1).trans HR3.out
  have hr6 := (hbY.block q6 (Array.getElem?_eq_some_iff.1 HR6.out).1).trans HR6.out
  have HBY := Lib.hid (HB0.out.trans (hbY.mono HB0.out.size))
  clear hbY
  have c0 := cell_of_row _ q3 0 _ _ _ hr3
  have c1 := cell_of_row _ q3 1 _ _ _ hr3
  have c2 := cell_of_row _ q3 2 _ _ _ hr3
  have c3 := cell_of_row _ q3 3 _ _ _ hr3
  have c4 := cell_of_row _ q3 4 _ _ _ hr3
  simp at c0 c1 c2 c3 c4
  obtain ⟨u0, u1, u2, u3, u4, p0, r0, p1, r1, p2, r2, p3, r3, p4, r4⟩ := st5 (there_row hr6 rfl) (.int .i64 c) (.string ⟨#[]⟩) (.int .i64 0) (.float .f64 0)
  have HLD := Lib.hid (set5_load hr6 (.int .i64 c) (.string ⟨#[]⟩) (.int .i64 0) (.float .f64 0) (.string ⟨#[]⟩))
  have HBF := Lib.hid (set5_below HBY.out HQ6.out (.int .i64 c) (.string ⟨#[]⟩) (.int .i64 0) (.float .f64 0) (.string ⟨#[]⟩))
  unfold set5 at HLD HBF
  clear hr3 hr6
  go_wp2_with (go_at_call 67; ((with_reducible refine (HK.out _).mono ?_); rintro e w2 ⟨rfl, rfl⟩))
  refine bodyPost_ret (v := .tuple #[.agg #[.int .i64 c, .string ⟨#[]⟩, .int .i64 0, .float .f64 0, .string ⟨#[]⟩], .int .i64 4]) (by rw [results_cell_tmp rfl]; simp [asAddr, Result.andThen]; rw [HLD.out]) rfl ⟨rfl, HBF.out⟩
set_option maxHeartbeats 4000000 in
theorem name_key (c : Int) (x : List UInt8) (hx : x.length ≤ 100000) (t : List UInt8) (hu : unqV x = .tuple #[.string (bs t), .int .i64 0]) (hk : keyB t = true) (w : World) :
    Calls Tryz.prog 56 #[.agg #[.int .i64 c, .string ⟨#[]⟩, .int .i64 0, .float .f64 0, .string ⟨#[]⟩], .int .i64 1, .string (bs x)] w fun e w' => e = .returned (.tuple #[.agg #[.int .i64 c, .string (bs t), .int .i64 0, .float .f64 0, .string ⟨#[]⟩], .int .i64 0]) ∧ Below w.heap.size w w' := by
  have HU : Hid (∀ W, Calls Tryz.prog 89 #[.string (bs x)] W fun e w' => e = .returned (.tuple #[.string (bs t), .int .i64 0]) ∧ Below W.heap.size W w') := fun W => by
    have := unquote_any x (by omega) W
    rw [hu] at this; exact this
  clear hu
  have HK : Hid (∀ W, Calls Tryz.prog 67 #[.string (bs t)] W fun e w' => e = .returned (.bool true) ∧ w' = W) := fun W => by rw [← hk]; exact key_any t W
  clear hk
  have hb0 : Below w.heap.size w ((w.alloc (.cells #[.int .i64 c, .string ⟨#[]⟩, .int .i64 0, .float .f64 0, .string ⟨#[]⟩] 59)).alloc (.cells #[.int .i64 0, .string ⟨#[]⟩, .int .i64 0, .float .f64 0, .string ⟨#[]⟩] 59)) := ((Below.refl _ w).alloc (Nat.le_refl _) _).alloc (by simp) _
  have hq3 : ((w.alloc (.cells #[.int .i64 c, .string ⟨#[]⟩, .int .i64 0, .float .f64 0, .string ⟨#[]⟩] 59)).alloc (.cells #[.int .i64 0, .string ⟨#[]⟩, .int .i64 0, .float .f64 0, .string ⟨#[]⟩] 59)).heap[w.heap.size]? = some (.cells #[.int .i64 c, .string ⟨#[]⟩, .int .i64 0, .float .f64 0, .string ⟨#[]⟩] 59 (0, 0)) := (((Below.refl (w.heap.size + 1) (w.alloc (.cells #[.int .i64 c, .string ⟨#[]⟩, .int .i64 0, .float .f64 0, .string ⟨#[]⟩] 59))).alloc (by simp) (.cells #[.int .i64 0, .string ⟨#[]⟩, .int .i64 0, .float .f64 0, .string ⟨#[]⟩] 59)).block w.heap.size (Nat.lt_succ_self _)).trans (heap_alloc_new w _)
  have hq6 : ((w.alloc (.cells #[.int .i64 c, .string ⟨#[]⟩, .int .i64 0, .float .f64 0, .string ⟨#[]⟩] 59)).alloc (.cells #[.int .i64 0, .string ⟨#[]⟩, .int .i64 0, .float .f64 0, .string ⟨#[]⟩] 59)).heap[w.heap.size + 1]? = some (.cells #[.int .i64 0, .string ⟨#[]⟩, .int .i64 0, .float .f64 0, .string ⟨#[]⟩] 59 (0, 0)) := by
    have := heap_alloc_new (w.alloc (.cells #[.int .i64 c, .string ⟨#[]⟩, .int .i64 0, .float .f64 0, .string ⟨#[]⟩] 59)) (.cells #[.int .i64 0, .string ⟨#[]⟩, .int .i64 0, .float .f64 0, .string ⟨#[]⟩] 59)
    rw [World.size_alloc] at this
    exact this
  obtain ⟨X, hX⟩ : ∃ X, (w.alloc (.cells #[.int .i64 c, .string ⟨#[]⟩, .int .i64 0, .float .f64 0, .string ⟨#[]⟩] 59)).alloc (.cells #[.int .i64 0, .string ⟨#[]⟩, .int .i64 0, .float .f64 0, .string ⟨#[]⟩] 59) = X := ⟨_, rfl⟩
  rw [hX] at hb0 hq3 hq6
  obtain ⟨q3, hq3e⟩ : ∃ q, w.heap.size = q := ⟨_, rfl⟩
  rw [hq3e] at hq3 hq6
  obtain ⟨q6, hq6e⟩ : ∃ q, q3 + 1 = q := ⟨_, rfl⟩
  rw [hq6e] at hq6
  have HQ3 : Hid (w.heap.size ≤ q3) := Nat.le_of_eq hq3e
  have HQ6 : Hid (w.heap.size ≤ q6) := by show w.heap.size ≤ q6; omega
  have HNE : Hid (q3 ≠ q6) := by show q3 ≠ q6; omega
  have HB0 := Lib.hid hb0
  have HR3 := Lib.hid hq3
  have HR6 := Lib.hid hq6
  clear hb0 hq3 hq6
  go_enter Tryz.func56, Tryz.ntmps56
  go_wp2_with fail
  go_at_call 89
  refine (HU.out _).mono ?_
  rintro e Y ⟨rfl, hbY⟩
  have hr3 := (hbY.block q3 (Array.getElem?_eq_some_iff.1 HR3.out).1).trans HR3.out
  have hr6 := (hbY.block q6 (Array.getElem?_eq_some_iff.1 HR6.out).1).trans HR6.out
  have HBY := Lib.hid (HB0.out.trans (hbY.mono HB0.out.size))
  have g1 := cell_of_row _ q3 1 _ _ _ hr3
  have g2 := frozen_of_row _ q3 1 _ _ hr3
  simp at g1
  have hr3' := row_set (i := 1) (v := .string (bs t)) hr3 rfl
  have hr6' : (Y.setCell ⟨q3, 1, none⟩ (.string (bs t))).heap[q6]? = _ := (Below.heap_setCell _ _ _ _ (Ne.symm HNE.out)).trans hr6
  have HBY2 := Lib.hid (HBY.out.setCell (p := ⟨q3, 1, none⟩) HQ3.out (.string (bs t)))
  obtain ⟨Y2, hY2⟩ : ∃ Y2, Y.setCell ⟨q3, 1, none⟩ (.string (bs t)) = Y2 := ⟨_, rfl⟩
  rw [hY2] at hr3' hr6' HBY2
  clear hr3 hr6 HBY hbY
  have hr3 := hr3'
  have hr6 := hr6'
  have HBY := HBY2
  clear hr3' hr6' HBY2
  have c0 := cell_of_row _ q3 0 _ _ _ hr3
  have c1 := cell_of_row _ q3 1 _ _ _ hr3
  have c2 := cell_of_row _ q3 2 _ _ _ hr3
  have c3 := cell_of_row _ q3 3 _ _ _ hr3
  have c4 := cell_of_row _ q3 4 _ _ _ hr3
  simp at c0 c1 c2 c3 c4
  obtain ⟨u0, u1, u2, u3, u4, p0, r0, p1, r1, p2, r2, p3, r3, p4, r4⟩ := st5 (there_row hr6 rfl) (.int .i64 c) (.string (bs t)) (.int .i64 0) (.float .f64 0)
  have HLD := Lib.hid (set5_load hr6 (.int .i64 c) (.string (bs t)) (.int .i64 0) (.float .f64 0) (.string ⟨#[]⟩))
  have HBF := Lib.hid (set5_below HBY.out HQ6.out (.int .i64 c) (.string (bs t)) (.int .i64 0) (.float .f64 0) (.string ⟨#[]⟩))
  unfold set5 at HLD HBF
  clear hr3 hr6
  go_wp2_with (go_at_call 67; ((with_reducible refine (HK.out _).mono ?_); rintro e w2 ⟨rfl, rfl⟩))
  refine bodyPost_ret (v := .tuple #[.agg #[.int .i64 c, .string (bs t), .int .i64 0, .float .f64 0, .string ⟨#[]⟩], .int .i64 0]) (by rw [results_cell_tmp rfl]; simp [asAddr, Result.andThen]; rw [HLD.out]) rfl ⟨rfl, HBF.out⟩
end Go.Proofs.YtalpbphfmelhhaaGreatDoor

/-! ### A text read as a program (prog.Parse). -/
namespace Go.Proofs.YtalpbphfmelhhaaGreatDoor
open Go.RowKit Go.Maps Go.Sort
set_option maxRecDepth 100000
attribute [local go_sem] bs_size bs_get bs_toList frombits tobits run_store_float
/-! ### plain -/
theorem wm_len : ∀ {l : List UInt8} {m : Nat} {c : List UInt8} {ws : List (List UInt8)}, wordsM l m c = some ws → ∀ x ∈ ws, x.length ≤ c.length + l.length
  | [], m, c, ws, h, x, hx => by
    rw [wm_nil] at h
    split at h
    · cases h; cases hx
    · split at h
      · cases h
      · cases h
        rw [List.mem_singleton] at hx
        rw [hx]; exact Nat.le_add_right _ _
  | y :: r, m, c, ws, h, x, hx => by
    have hmap : ∀ {ws : List (List UInt8)}, (wordsM r 0 []).map (fun l => c :: l) = some ws → x ∈ ws → x.length ≤ c.length + (y :: r).length := by
      intro ws h hx
      obtain ⟨m', hm, rfl⟩ := Option.map_eq_some_iff.1 h
      rcases List.mem_cons.1 hx with rfl | hx
      · exact Nat.le_add_right _ _
      · have := wm_len hm x hx
        simp only [List.length_nil, List.length_cons] at this ⊢; omega
    rw [wordsM] at h
    split at h
    · split at h
      · have := wm_len h x hx; simp only [List.length_nil, List.length_cons] at this ⊢; omega
      · split at h
        · have := wm_len h x hx; simp only [List.length_nil, List.length_cons] at this ⊢; omega
        · have := wm_len h x hx; simp only [List.length_nil, List.length_cons] at this ⊢; omega
    · split at h
      · split at h
        · exact hmap h hx
        · split at h
          · cases h
          · have := wm_len h x hx; simp only [List.length_nil, List.length_cons, List.length_append] at this ⊢; omega
      · split at h
        · split at h
          · have := wm_len h x hx; simp only [List.length_nil, List.length_cons, List.length_append] at this ⊢; omega
          · have := wm_len h x hx; simp only [List.length_nil, List.length_cons, List.length_append] at this ⊢; omega
        · split at h
          · exact hmap h hx
          · cases h
theorem keyB_len {k : List UInt8} (h : keyB k = true) : k.length ≤ 20000 := by
  unfold keyB at h
  have := of_decide_eq_true h
  omega
theorem parseD_len {x : List UInt8} (_h : (parseD x).e = 0) : (parseD x).s.length ≤ 20000 := by
  unfold parseD at _h ⊢
  split
  · rename_i hq
    rw [if_pos hq] at _h
    split
    · simp
    · rename_i t ht
      rw [ht] at _h
      dsimp only at _h
      split
      · simp
      · dsimp only; omega
  · split
    · simp
    · split <;> simp
theorem nameP_ok {c : Int} (h1 : 1 ≤ c) (h2 : c ≤ 15) {x : List UInt8} (h : (nameP c x).1 = 0) : OpOk (nameP c x).2 := by
  unfold nameP at h ⊢
  split
  · rename_i hn
    rw [if_pos hn] at h
    exact ⟨by dsimp only; omega, by dsimp only; omega, by simp, parseD_len h⟩
  · rename_i hn
    rw [if_neg hn] at h
    split
    · exact ⟨by dsimp only; omega, by dsimp only; omega, by simp, by simp [Vl.nil]⟩
    · rename_i t ht
      rw [ht] at h
      dsimp only at h
      split
      · rename_i hk
        exact ⟨by dsimp only; omega, by dsimp only; omega, keyB_len hk, by simp [Vl.nil]⟩
      · exact ⟨by dsimp only; omega, by dsimp only; omega, by simp, by simp [Vl.nil]⟩
theorem pg_at {ws : List (List UInt8)} {j : Nat} {x : List UInt8} (h : ws[j]? = some x) : ws.drop j = x :: ws.drop (j + 1) := by
  obtain ⟨hl, he⟩ := List.getElem?_eq_some_iff.1 h
  rw [List.drop_eq_getElem_cons hl, he]
/-- Behind so many words these steps are read. -/
def PAt (ws : List (List UInt8)) (j : Nat) (out : List OpP) : Prop := parseGo ws = preG out (parseGo (ws.drop j)) ∧ ∀ o ∈ out, OpOk o
theorem PAt.start (ws : List (List UInt8)) : PAt ws 0 [] := ⟨by rw [List.drop_zero, preG_nil pg_err], fun o ho => by cases ho⟩
theorem PAt.bad {ws : List (List UInt8)} {j : Nat} {out : List OpP} (h : PAt ws j out) {x : List UInt8} (hx : ws[j]? = some x) (hc : codeW x = 0) : parseGo ws = (7, []) := by
  rw [h.1, pg_at hx, pg_bad _ hc]; rfl
theorem PAt.bare {ws : List (List UInt8)} {j : Nat} {out : List OpP} (h : PAt ws j out) {x : List UInt8} (hx : ws[j]? = some x) (h1 : 1 ≤ codeW x) (h2 : codeW x ≤ 15) (hn : namesC (codeW x) = 0) : PAt ws (j + 1) (out ++ [⟨codeW x, [], Vl.nil⟩]) := by
  refine ⟨by rw [h.1, pg_at hx, pg_bare _ (by omega) hn, preG_preG], fun o ho => ?_⟩
  rcases List.mem_append.1 ho with ho | ho
  · exact h.2 o ho
  · rw [List.mem_singleton] at ho
    rw [ho]
    exact ⟨by dsimp only; omega, by dsimp only; omega, by simp, by simp [Vl.nil]⟩
theorem PAt.short {ws : List (List UInt8)} {j : Nat} {out : List OpP} (h : PAt ws j out) {x : List UInt8} (hx : ws[j]? = some x) (hc : codeW x ≠ 0) (hn : namesC (codeW x) ≠ 0) (hl : ws.length = j + 1) : parseGo ws = (5, []) := by
  rw [h.1, pg_at hx, List.drop_of_length_le (i := j + 1) (by omega), pg_short hc hn]; rfl
theorem PAt.fail {ws : List (List UInt8)} {j : Nat} {out : List OpP} (h : PAt ws j out) {x y : List UInt8} (hx : ws[j]? = some x) (hy : ws[j + 1]? = some y) (hc : codeW x ≠ 0) (hn : namesC (codeW x) ≠ 0) (he : (nameP (codeW x) y).1 ≠ 0) : parseGo ws = ((nameP (codeW x) y).1, []) := by
  rw [h.1, pg_at hx, pg_at hy, pg_name _ _ hc hn, if_pos he]
  unfold preG
  rw [if_neg he]
theorem PAt.name {ws : List (List UInt8)} {j : Nat} {out : List OpP} (h : PAt ws j out) {x y : List UInt8} (hx : ws[j]? = some x) (hy : ws[j + 1]? = some y) (h1 : 1 ≤ codeW x) (h2 : codeW x ≤ 15) (hn : namesC (codeW x) ≠ 0) (he : (nameP (codeW x) y).1 = 0) : PAt ws (j + 2) (out ++ [(nameP (codeW x) y).2]) := by
  refine ⟨by rw [h.1, pg_at hx, pg_at hy, pg_name _ _ (by omega) hn, if_neg (by simpa using he), preG_preG], fun o ho => ?_⟩
  rcases List.mem_append.1 ho with ho | ho
  · exact h.2 o ho
  · rw [List.mem_singleton] at ho
    rw [ho]
    exact nameP_ok h1 h2 he
theorem PAt.last {ws : List (List UInt8)} {out : List OpP} (h : PAt ws ws.length out) : parseGo ws = (0, out) := by
  rw [h.1, List.drop_length, parseGo]
  simp [preG]
theorem parseP_none {l : List UInt8} (h : wordsM l 0 [] = none) : parseP l = (4, []) := by unfold parseP; rw [h]
theorem parseP_bad {l : List UInt8} {ws : List (List UInt8)} (h : wordsM l 0 [] = some ws) {e : Int} (he : parseGo ws = (e, [])) (h0 : e ≠ 0) : parseP l = (e, []) := by
  unfold parseP
  rw [h]
  simp only
  rw [he, if_pos h0]
theorem parseP_chk {l : List UInt8} {ws : List (List UInt8)} (h : wordsM l 0 [] = some ws) {p : List OpP} (he : parseGo ws = (0, p)) : parseP l = if checkP p ≠ 0 then (checkP p, []) else (0, p) := by
  unfold parseP
  rw [h]
  simp only
  rw [he, if_neg (by simp)]
/-! ### a name read -/
def NamePost (w : World) (c : Int) (x : List UInt8) (e : Ending) (w' : World) : Prop := e = .returned (.tuple #[opV (nameP c x).2.c (nameP c x).2.key (nameP c x).2.v.k (nameP c x).2.v.x (nameP c x).2.v.s, .int .i64 (nameP c x).1]) ∧ Below w.heap.size w w'
theorem name_any (c : Int) (x : List UInt8) (hx : x.length ≤ 100000) (hn : namesC c ≠ 0) (w : World) :
    Calls Tryz.prog 56 #[.agg #[.int .i64 c, .string ⟨#[]⟩, .int .i64 0, .float .f64 0, .string ⟨#[]⟩], .int .i64 (namesC c), .string (bs x)] w (NamePost w c x) := by
  rcases names_cases c with h | h | h
  · exact absurd h hn
  · have h2 : ¬ namesC c = 2 := by omega
    rw [h]
    rcases unqV_cases x with ⟨hu, hv⟩ | ⟨t, hu, _, hv⟩
    · refine (name_none c x hx hv w).mono fun e w' hp => ⟨?_, hp.2⟩
      have hm : nameP c x = (4, ⟨c, [], Vl.nil⟩) := by unfold nameP; rw [if_neg h2, hu]
      rw [hm]; exact hp.1
    · cases hk : keyB t with
      | false =>
        refine (name_notkey c x hx t hv hk w).mono fun e w' hp => ⟨?_, hp.2⟩
        have hm : nameP c x = (4, ⟨c, [], Vl.nil⟩) := by unfold nameP; rw [if_neg h2, hu]; simp only; rw [hk]; rfl
        rw [hm]; exact hp.1
      | true =>
        refine (name_key c x hx t hv hk w).mono fun e w' hp => ⟨?_, hp.2⟩
        have hm : nameP c x = (0, ⟨c, t, Vl.nil⟩) := by unfold nameP; rw [if_neg h2, hu]; simp only; rw [hk]; rfl
        rw [hm]; exact hp.1
  · rw [h]
    refine (name_two c x hx w).mono fun e w' hp => ⟨?_, hp.2⟩
    have hm : nameP c x = ((parseD x).e, ⟨c, [], ⟨(parseD x).k, (parseD x).x, (parseD x).s⟩⟩) := by unfold nameP; rw [if_pos h]
    rw [hm]; exact hp.1
/-! ### checks of long programs -/
set_option maxHeartbeats 1000000 in
theorem check_big (ad : Option Addr) (n cap : Nat) (l : List OpP) (w : World) (hl : n = l.length) (hlong : 40 < n) : Calls Tryz.prog 16 #[.slice ad n cap] w (IntPost w (checkP l)) := by
  have hc : checkP l = 3 := by unfold checkP; rw [if_pos (by rw [← hl]; exact hlong)]
  have hd : decide (40 < n) = true := decide_eq_true hlong
  have hd' : decide ((40 : Int) < (n : Int)) = true := decide_eq_true (by omega)
  rw [hc]
  clear hc hlong hl
  go_enter Tryz.func16, Tryz.ntmps16
  go_wp2_with fail
  go_ret
  exact ⟨rfl, Below.refl _ _⟩
theorem check_all (ad : Option Addr) (n cap : Nat) (l : List OpP) (w : World) (h : RdO w ad n cap l) : Calls Tryz.prog 16 #[.slice ad n cap] w (IntPost w (checkP l)) := by
  by_cases hn : n ≤ 1000
  · exact check_any ad n cap l w h hn
  · exact check_big ad n cap l w h.rd.1 (by omega)
set_option maxHeartbeats 1000000 in
theorem check9_big (ad : Option Addr) (n cap : Nat) (l : List OpP) (w : World) (hl : n = l.length) (hlong : 40 < n) : Calls Tryz.prog 17 #[.slice ad n cap] w (IntPost w (checkP l)) := by
  have hc : checkP l = 3 := by unfold checkP; rw [if_pos (by rw [← hl]; exact hlong)]
  have hd : decide (40 < n) = true := decide_eq_true hlong
  have hd' : decide ((40 : Int) < (n : Int)) = true := decide_eq_true (by omega)
  rw [hc]
  clear hc hlong hl
  go_enter Tryz.func17, Tryz.ntmps17
  go_wp2_with fail
  go_ret
  exact ⟨rfl, Below.refl _ _⟩
theorem check9_all (ad : Option Addr) (n cap : Nat) (l : List OpP) (w : World) (h : RdO w ad n cap l) : Calls Tryz.prog 17 #[.slice ad n cap] w (IntPost w (checkP l)) := by
  by_cases hn : n ≤ 1000
  · exact check9_any ad n cap l w h hn
  · exact check9_big ad n cap l w h.rd.1 (by omega)
def ParsePost (w : World) (l : List UInt8) (e : Ending) (w' : World) : Prop := ∃ v, e = .returned (.tuple #[v, .int .i64 (parseP l).1]) ∧ OwnO5 w' w.heap.size v (parseP l).2 ∧ Below w.heap.size w w'
theorem ParsePost.err {w w' : World} {l : List UInt8} {e : Int} (h : parseP l = (e, [])) (hb : Below w.heap.size w w') : ParsePost w l (.returned (.tuple #[.slice none 0 0, .int .i64 e])) w' :=
  ⟨_, by rw [h], by rw [h]; exact OwnO5.nil _ _, hb⟩
end Go.Proofs.YtalpbphfmelhhaaGreatDoor
