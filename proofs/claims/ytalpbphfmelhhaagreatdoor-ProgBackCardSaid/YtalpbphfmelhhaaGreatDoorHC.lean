/-
  The document's tables of codes; the keys that it says a program names (raceref9.named, takes, add, Reads, Names).
  A key more, in its place, once, by the document (raceref9.add).
  The keys that a program reads and writes, by the document (raceref9.Reads, Names).
-/
import Derived.Test.YtalpbphfmelhhaaGreatDoorHB
/-! ### The document's tables of codes; the keys that it says a program names (raceref9.named, takes, add, Reads, Names). -/
namespace Go.Proofs.YtalpbphfmelhhaaGreatDoor
open Go.RowKit Go.Maps Go.Sort
set_option maxRecDepth 100000
attribute [local go_sem] bs_size bs_get bs_toList frombits tobits run_store_float
theorem bl_bB : ∀ a b : List UInt8, Op.bytesLess a b = bB a b
  | [], [] => rfl
  | _ :: _, [] => rfl
  | [], _ :: _ => rfl
  | a :: x, b :: y => by
    have ih := bl_bB x y
    unfold bB at ih ⊢
    rw [Op.bytesLess, bytesBefore, ih]
theorem bl_gt {a b : List UInt8} : Op.bytesLess a b = bB a b := bl_bB a b
def codes (c : Int) : Prop := c = 1 ∨ c = 2 ∨ c = 3 ∨ c = 4 ∨ c = 13 ∨ c = 14 ∨ c = 15
set_option maxHeartbeats 1000000 in
theorem named9_any (c : Int) (w : World) : Calls Tryz.prog 38 #[.int .i64 c] w fun e w' => e = .returned (.int .i64 (namesC c)) ∧ w' = w := by
  by_cases h1 : c = 1
  · subst h1
    go_enter Tryz.func38, Tryz.ntmps38
    go_wp2
    go_ret
    exact ⟨rfl, rfl⟩
  by_cases h2 : c = 2
  · subst h2
    go_enter Tryz.func38, Tryz.ntmps38
    go_wp2
    go_ret
    exact ⟨rfl, rfl⟩
  by_cases h3 : c = 3
  · subst h3
    go_enter Tryz.func38, Tryz.ntmps38
    go_wp2
    go_ret
    exact ⟨rfl, rfl⟩
  by_cases h4 : c = 4
  · subst h4
    go_enter Tryz.func38, Tryz.ntmps38
    go_wp2
    go_ret
    exact ⟨rfl, rfl⟩
  have b1 : (c == 1) = false := by simpa using h1
  have b2 : (c == 2) = false := by simpa using h2
  have b3 : (c == 3) = false := by simpa using h3
  have b4 : (c == 4) = false := by simpa using h4
  have hv : namesC c = 0 := by unfold namesC; rw [if_neg (by omega), if_neg h4]
  rw [hv]
  clear hv h1 h2 h3 h4
  go_enter Tryz.func38, Tryz.ntmps38
  go_wp2
  go_ret
  exact ⟨rfl, rfl⟩
set_option maxHeartbeats 1000000 in
theorem takes9_any (c : Int) (w : World) : Calls Tryz.prog 40 #[.int .i64 c] w fun e w' => e = .returned (.tuple #[.int .i64 (takeC c), .int .i64 (giveC c)]) ∧ w' = w := by
  by_cases h1 : c = 1
  · subst h1
    go_enter Tryz.func40, Tryz.ntmps40
    go_wp2
    go_ret2
    exact ⟨rfl, rfl⟩
  by_cases h2 : c = 2
  · subst h2
    go_enter Tryz.func40, Tryz.ntmps40
    go_wp2
    go_ret2
    exact ⟨rfl, rfl⟩
  by_cases h3 : c = 3
  · subst h3
    go_enter Tryz.func40, Tryz.ntmps40
    go_wp2
    go_ret2
    exact ⟨rfl, rfl⟩
  by_cases h4 : c = 4
  · subst h4
    go_enter Tryz.func40, Tryz.ntmps40
    go_wp2
    go_ret2
    exact ⟨rfl, rfl⟩
  by_cases h13 : c = 13
  · subst h13
    go_enter Tryz.func40, Tryz.ntmps40
    go_wp2
    go_ret2
    exact ⟨rfl, rfl⟩
  by_cases h14 : c = 14
  · subst h14
    go_enter Tryz.func40, Tryz.ntmps40
    go_wp2
    go_ret2
    exact ⟨rfl, rfl⟩
  by_cases h15 : c = 15
  · subst h15
    go_enter Tryz.func40, Tryz.ntmps40
    go_wp2
    go_ret2
    exact ⟨rfl, rfl⟩
  have b1 : (c == 1) = false := by simpa using h1
  have b2 : (c == 2) = false := by simpa using h2
  have b3 : (c == 3) = false := by simpa using h3
  have b4 : (c == 4) = false := by simpa using h4
  have b13 : (c == 13) = false := by simpa using h13
  have b14 : (c == 14) = false := by simpa using h14
  have b15 : (c == 15) = false := by simpa using h15
  have hv : takeC c = 2 ∧ giveC c = 1 := by unfold takeC giveC; exact ⟨by rw [if_neg (by omega), if_neg (by omega)], by rw [if_neg (by omega), if_neg (by omega)]⟩
  rw [hv.1, hv.2]
  clear hv h1 h2 h3 h4 h13 h14 h15
  go_enter Tryz.func40, Tryz.ntmps40
  go_wp2
  go_ret2
  exact ⟨rfl, rfl⟩
theorem insK_done {k : List UInt8} : ∀ {P Q : List (List UInt8)}, (∃ z ∈ P, bB z k = false) → insK k (P ++ Q) = insK k P ++ Q
  | [], _, h => by obtain ⟨_, h, _⟩ := h; cases h
  | y :: P, Q, h => by
    show insK k (y :: (P ++ Q)) = insK k (y :: P) ++ Q
    unfold insK
    by_cases he : (k == y) = true
    · rw [if_pos he, if_pos he]; rfl
    · rw [if_neg he, if_neg he]
      by_cases hb : bB k y = true
      · rw [if_pos hb, if_pos hb]; rfl
      · rw [if_neg hb, if_neg hb]
        have h2 : ∃ z ∈ P, bB z k = false := by
          obtain ⟨z, hz, hzk⟩ := h
          rcases List.mem_cons.1 hz with rfl | hz
          · have hne : k ≠ z := by simpa using he
            rcases bB_total hne with e | e
            · exact absurd e hb
            · rw [hzk] at e; cases e
          · exact ⟨z, hz, hzk⟩
        rw [insK_done h2]; rfl
theorem insK_skip {k : List UInt8} : ∀ {P Q : List (List UInt8)}, (∀ z ∈ P, bB z k = true) → insK k (P ++ Q) = P ++ insK k Q
  | [], _, _ => rfl
  | y :: P, Q, h => by
    show insK k (y :: (P ++ Q)) = y :: (P ++ insK k Q)
    have hy := h y (by simp)
    rw [show insK k (y :: (P ++ Q)) = if (k == y) = true then y :: (P ++ Q) else if bB k y = true then k :: y :: (P ++ Q) else y :: insK k (P ++ Q) from rfl, if_neg (by intro e; rw [show k = y by simpa using e, bB_irrefl] at hy; cases hy), if_neg (by rw [bB_asymm hy]; simp), insK_skip fun z hz => h z (by simp [hz])]
theorem insK_length (k : List UInt8) : ∀ l : List (List UInt8), (insK k l).length ≤ l.length + 1
  | [] => by simp [insK]
  | y :: r => by
    unfold insK
    split
    · simp
    · split
      · simp
      · have := insK_length k r
        simp only [List.length_cons]; omega
theorem encStr_bs (l : List UInt8) : encStr l = .string (bs l) := rfl
theorem SStrU : STy Tryz.prog 26 9 (.string ⟨#[]⟩) 1 16 := ⟨Tryz.underlying26, info_parts (by kernel_rfl), rfl, by decide⟩
/-- A slice of strings that reads. -/
def RdK (w : World) (a : Option Addr) (n cap : Nat) (ks : List (List UInt8)) : Prop := n = ks.length ∧ Rd w a n cap 1 (ks.map encStr)
theorem RdK.below {w w' : World} {a : Option Addr} {n cap : Nat} {ks : List (List UInt8)} (h : RdK w a n cap ks) (hb : Below w.heap.size w w') : RdK w' a n cap ks := ⟨h.1, h.2.below hb⟩
theorem RdK.at {w : World} {a : Option Addr} {n cap : Nat} {ks : List (List UInt8)} (h : RdK w a n cap ks) {i : Nat} {k : List UInt8} (hi : ks[i]? = some k) : ∃ b off, a = some ⟨b, off, none⟩ ∧ w.cell? ⟨b, off + i, none⟩ = some (.string (bs k)) := by
  obtain ⟨rfl, hr⟩ := h
  have hlt := (List.getElem?_eq_some_iff.1 hi).1
  obtain ⟨b, off, ha, _, hc⟩ := hr.at (by omega)
  refine ⟨b, off, ha, ?_⟩
  have := hc i _ (by rw [List.getElem?_map, hi]; rfl)
  rwa [encStr_bs] at this
abbrev OwnK (w : World) (base : Nat) (v : Value) (ks : List (List UInt8)) : Prop := w.ownsRow base 9 1 v ks.length (ks.map encStr)
theorem OwnK.rd {w : World} {base : Nat} {v : Value} {ks : List (List UInt8)} (h : OwnK w base v ks) : ∃ a cap, v = .slice a ks.length cap ∧ RdK w a ks.length cap ks := by
  obtain ⟨a, cap, hv, hr⟩ := Rd.of_own h
  exact ⟨a, cap, hv, rfl, hr⟩
theorem OwnK.nil (w : World) (base : Nat) : OwnK w base (.slice none 0 0) [] := World.ownsRow_nil _ _ _ _
end Go.Proofs.YtalpbphfmelhhaaGreatDoor

/-! ### A key more, in its place, once, by the document (raceref9.add). -/
namespace Go.Proofs.YtalpbphfmelhhaaGreatDoor
open Go.RowKit Go.Maps Go.Sort
set_option maxRecDepth 100000
attribute [local go_sem] bs_size bs_get bs_toList frombits tobits run_store_float
set_option maxHeartbeats 4000000 in
theorem add9_any (ad : Option Addr) (n cap : Nat) (ks : List (List UInt8)) (k : List UInt8) (w : World) (h : RdK w ad n cap ks) (hn : n ≤ 100000) :
    Calls Tryz.prog 41 #[.slice ad n cap, .string (bs k)] w (KeysPost w (insK k ks)) := by
  have H := Lib.hid h
  have HN := Lib.hid h.1
  clear h
  go_enter Tryz.func41, Tryz.ntmps41
  go_wp2_with fail
  go_loopw [5, 6, 7] (fun v d i wr => ∃ (j : Nat) (dn : Bool) (out : List (List UInt8)), j ≤ n ∧ i = .int .i64 (j : Nat) ∧ d = .bool dn ∧ Hid (OwnK wr w.heap.size v out) ∧ out.length ≤ j + 1 ∧ Hid (dn = true → (∃ z ∈ ks.take j, bB z k = false) ∧ out = insK k (ks.take j)) ∧ Hid (dn = false → (∀ z ∈ ks.take j, bB z k = true) ∧ out = ks.take j) ∧ Hid (Below w.heap.size w wr)) (fun _ _ i _ => n - (intOf i).toNat)
  case atStart => exact ⟨0, false, [], Nat.zero_le _, rfl, rfl, OwnK.nil _ _, Nat.zero_le _, fun h => (by cases h), fun _ => ⟨fun z hz => (by simp at hz), rfl⟩, Below.refl _ _⟩
  case round =>
    obtain ⟨j, dn, out, hj, rfl, rfl, HOW, hol, HD, HU, HB⟩ := hrel
    obtain ⟨av, cv, rfl, _⟩ := OwnK.rd HOW.out
    by_cases hlt : j < n
    · obtain ⟨y, hy⟩ : ∃ y, ks[j]? = some y := ⟨_, List.getElem?_eq_getElem (by have := HN.out; omega)⟩
      obtain ⟨bk, off, rfl, c0⟩ := (H.out.below HB.out).at hy
      have htk : ks.take (j + 1) = ks.take j ++ [y] := by rw [List.take_add_one, hy]; rfl
      have HTK := Lib.hid htk
      have HY := Lib.hid hy
      have HO1 : Hid (OwnK (wr.alloc (.cells #[.string (bs y)] 9)) w.heap.size (.slice av out.length cv) out) := World.ownsRow.alloc HOW.out _
      clear hy htk
      cases dn with
      | true =>
        obtain ⟨hex, hout⟩ := HD.out rfl
        have HX : Hid ((∃ z ∈ ks.take (j + 1), bB z k = false) ∧ out ++ [y] = insK k (ks.take (j + 1))) := by
          rw [HTK.out]
          refine ⟨by obtain ⟨z, hz, hzk⟩ := hex; exact ⟨z, by simp [hz], hzk⟩, ?_⟩
          rw [insK_done hex, hout]
        clear hex hout HD HU
        cases he : (y == k) with
        | true =>
          go_wp2_with (at_builtin; refine wpList_app SStrU rfl (.tmp 34) (.tmp 39) rfl w.heap.size rfl HO1.out rfl (Rd.one _ _ _) (by simp [Value.oneCell']) (by omega) (by unfold maxLen; omega) (by have := HB.out.size; simp; omega) ?_)
          intro v5 w5 hown5 hb5 _
          have HO5 : Hid (OwnK w5 w.heap.size v5 (out ++ [y])) := by
            show w5.ownsRow _ _ _ _ _ _
            simpa [encStr_bs] using hown5
          have HB5 := Lib.hid ((HB.out.alloc HB.out.size _).trans hb5)
          clear hown5 hb5
          go_wp2_with fail
          go_roundw
          case rel => exact ⟨j + 1, true, out ++ [y], by omega, by go_num, rfl, HO5.out, by simp; omega, fun _ => HX.out, fun h => (by cases h), HB5.out⟩
          case measure => simp [intOf]; omega
        | false =>
          go_wp2_with (at_builtin; refine wpList_app SStrU rfl (.tmp 34) (.tmp 39) rfl w.heap.size rfl HO1.out rfl (Rd.one _ _ _) (by simp [Value.oneCell']) (by omega) (by unfold maxLen; omega) (by have := HB.out.size; simp; omega) ?_)
          intro v5 w5 hown5 hb5 _
          have HO5 : Hid (OwnK w5 w.heap.size v5 (out ++ [y])) := by
            show w5.ownsRow _ _ _ _ _ _
            simpa [encStr_bs] using hown5
          have HB5 := Lib.hid ((HB.out.alloc HB.out.size _).trans hb5)
          clear hown5 hb5
          go_wp2_with fail
          go_roundw
          case rel => exact ⟨j + 1, true, out ++ [y], by omega, by go_num, rfl, HO5.out, by simp; omega, fun _ => HX.out, fun h => (by cases h), HB5.out⟩
          case measure => simp [intOf]; omega
      | false =>
        obtain ⟨hall, hout⟩ := HU.out rfl
        have hol2 : out.length ≤ j := by rw [hout, List.length_take]; omega
        cases he : (y == k) with
        | true =>
          have HX : Hid ((∃ z ∈ ks.take (j + 1), bB z k = false) ∧ out ++ [y] = insK k (ks.take (j + 1))) := by
            have hyk : y = k := by simpa using he
            subst hyk
            rw [HTK.out, insK_skip hall, hout]
            exact ⟨⟨y, by simp, bB_irrefl y⟩, by simp [insK]⟩
          clear hall hout HD HU
          go_wp2_with (at_builtin; refine wpList_app SStrU rfl (.tmp 34) (.tmp 39) rfl w.heap.size rfl HO1.out rfl (Rd.one _ _ _) (by simp [Value.oneCell']) (by omega) (by unfold maxLen; omega) (by have := HB.out.size; simp; omega) ?_)
          intro v5 w5 hown5 hb5 _
          have HO5 : Hid (OwnK w5 w.heap.size v5 (out ++ [y])) := by
            show w5.ownsRow _ _ _ _ _ _
            simpa [encStr_bs] using hown5
          have HB5 := Lib.hid ((HB.out.alloc HB.out.size _).trans hb5)
          clear hown5 hb5
          go_wp2_with fail
          go_roundw
          case rel => exact ⟨j + 1, true, out ++ [y], by omega, by go_num, rfl, HO5.out, by simp; omega, fun _ => HX.out, fun h => (by cases h), HB5.out⟩
          case measure => simp [intOf]; omega
        | false =>
          have hne : ¬ y = k := by simpa using he
          cases hg : bB k y with
          | true =>
            have HX : Hid ((∃ z ∈ ks.take (j + 1), bB z k = false) ∧ out ++ [k] ++ [y] = insK k (ks.take (j + 1))) := by
              rw [HTK.out, insK_skip hall, hout]
              refine ⟨⟨y, by simp, bB_asymm hg⟩, ?_⟩
              rw [show insK k [y] = if (k == y) = true then [y] else if bB k y = true then [k, y] else y :: insK k [] from rfl, if_neg (by simpa using fun e : k = y => hne e.symm), if_pos hg]
              simp
            have hbl : Op.bytesLess y k = false := bl_gt.trans (bB_asymm hg)
            clear hall hout hg hne HD HU HO1
            have HO0 : Hid (OwnK (wr.alloc (.cells #[.string (bs k)] 9)) w.heap.size (.slice av out.length cv) out) := World.ownsRow.alloc HOW.out _
            go_wp2_with (at_builtin; refine wpList_app SStrU rfl (.tmp 30) (.tmp 32) rfl w.heap.size rfl HO0.out rfl (Rd.one _ _ _) (by simp [Value.oneCell']) (by omega) (by unfold maxLen; omega) (by have := HB.out.size; simp; omega) ?_)
            intro v4 w4 hown4 hb4 _
            have HO4 : Hid (OwnK w4 w.heap.size v4 (out ++ [k])) := by
              have h : w4.ownsRow w.heap.size 9 1 v4 (out.length + 1) (out.map encStr ++ [.string (bs k)]) := hown4
              show w4.ownsRow _ _ _ _ _ _
              rw [List.length_append, List.map_append]; exact h
            have hb04 := (HB.out.alloc HB.out.size _).trans hb4
            have HB4 := Lib.hid hb04
            obtain ⟨a4, cap4, rfl, _⟩ := OwnK.rd HO4.out
            have hl4 : (out ++ [k]).length = out.length + 1 := by simp
            rw [hl4]
            have c0 : w4.cell? ⟨bk, off + j, none⟩ = some (.string (bs y)) := by
              obtain ⟨b', off', e, hc⟩ := (H.out.below hb04).at HY.out
              cases e
              exact hc
            have HO1 : Hid ((w4.alloc (.cells #[.string (bs y)] 9)).ownsRow w.heap.size 9 1 (.slice a4 (out.length + 1) cap4) (out.length + 1) ((out ++ [k]).map encStr)) := by
              have := World.ownsRow.alloc HO4.out (.cells #[.string (bs y)] 9)
              show World.ownsRow _ _ _ _ _ _ _
              rw [hl4] at this
              exact this
            clear hown4 hb4 hb04 hl4
            go_wp2_with (at_builtin; refine wpList_app SStrU rfl (.tmp 34) (.tmp 39) rfl w.heap.size rfl HO1.out rfl (Rd.one _ _ _) (by simp [Value.oneCell']) (by omega) (by unfold maxLen; omega) (by have := HB4.out.size; simp; omega) ?_)
            intro v5 w5 hown5 hb5 _
            have HO5 : Hid (OwnK w5 w.heap.size v5 ((out ++ [k]) ++ [y])) := by
              show w5.ownsRow _ _ _ _ _ _
              simpa [encStr_bs] using hown5
            have HB5 := Lib.hid ((HB4.out.alloc HB4.out.size _).trans hb5)
            clear hown5 hb5
            go_wp2_with fail
            go_roundw
            case rel => exact ⟨j + 1, true, (out ++ [k]) ++ [y], by omega, by go_num, rfl, HO5.out, by simp; omega, fun _ => HX.out, fun h => (by cases h), HB5.out⟩
            case measure => simp [intOf]; omega
          | false =>
            have HX : Hid ((∀ z ∈ ks.take (j + 1), bB z k = true) ∧ out ++ [y] = ks.take (j + 1)) := by
              rw [HTK.out, hout]
              refine ⟨fun z hz => ?_, rfl⟩
              rcases List.mem_append.1 hz with hz | hz
              · exact hall z hz
              · rw [List.mem_singleton] at hz
                subst hz
                exact (bB_total hne).resolve_right (by rw [hg]; simp)
            have hbl : Op.bytesLess y k = true := bl_gt.trans ((bB_total hne).resolve_right (by rw [hg]; simp))
            clear hall hout hg hne HD HU
            go_wp2_with (at_builtin; refine wpList_app SStrU rfl (.tmp 34) (.tmp 39) rfl w.heap.size rfl HO1.out rfl (Rd.one _ _ _) (by simp [Value.oneCell']) (by omega) (by unfold maxLen; omega) (by have := HB.out.size; simp; omega) ?_)
            intro v5 w5 hown5 hb5 _
            have HO5 : Hid (OwnK w5 w.heap.size v5 (out ++ [y])) := by
              show w5.ownsRow _ _ _ _ _ _
              simpa [encStr_bs] using hown5
            have HB5 := Lib.hid ((HB.out.alloc HB.out.size _).trans hb5)
            clear hown5 hb5
            go_wp2_with fail
            go_roundw
            case rel => exact ⟨j + 1, false, out ++ [y], by omega, by go_num, rfl, HO5.out, by simp; omega, fun h => (by cases h), fun _ => HX.out, HB5.out⟩
            case measure => simp [intOf]; omega
    · obtain rfl : j = n := by omega
      have htk : ks.take j = ks := List.take_of_length_le (by rw [HN.out]; exact Nat.le_refl _)
      rw [htk] at HD HU
      cases dn with
      | true =>
        have HG : Hid (KeysPost w (insK k ks) (.returned (.slice av out.length cv)) wr) := by
          obtain ⟨_, ho⟩ := HD.out rfl
          have h := HOW.out
          rw [← ho]
          exact ⟨_, rfl, h, HB.out⟩
        clear HD HU
        go_wp2_with fail
        go_ret
        exact HG.out
      | false =>
        obtain ⟨hall, hout⟩ := HU.out rfl
        have HX : Hid (out ++ [k] = insK k ks) := by
          have := insK_skip (Q := []) hall
          rw [List.append_nil] at this
          show _ = _
          rw [this, hout]; rfl
        have HO1 : Hid (OwnK (wr.alloc (.cells #[.string (bs k)] 9)) w.heap.size (.slice av out.length cv) out) := World.ownsRow.alloc HOW.out _
        clear hall hout HD HU htk
        go_wp2_with (at_builtin; refine wpList_app SStrU rfl (.tmp 43) (.tmp 45) rfl w.heap.size rfl HO1.out rfl (Rd.one _ _ _) (by simp [Value.oneCell']) (by omega) (by unfold maxLen; omega) (by have := HB.out.size; simp; omega) ?_)
        intro v5 w5 hown5 hb5 _
        have HG : Hid (KeysPost w (insK k ks) (.returned v5) w5) := by
          rw [← HX.out]
          have h : w5.ownsRow w.heap.size 9 1 v5 (out.length + 1) (out.map encStr ++ [.string (bs k)]) := hown5
          exact ⟨_, rfl, by rw [List.length_append, List.map_append]; exact h, (HB.out.alloc HB.out.size _).trans hb5⟩
        clear hown5 hb5
        go_wp2_with fail
        go_ret
        exact HG.out
end Go.Proofs.YtalpbphfmelhhaaGreatDoor

/-! ### The keys that a program reads and writes, by the document (raceref9.Reads, Names). -/
namespace Go.Proofs.YtalpbphfmelhhaaGreatDoor
open Go.RowKit Go.Maps Go.Sort
set_option maxRecDepth 100000
attribute [local go_sem] bs_size bs_get bs_toList frombits tobits run_store_float
theorem namedP_length (a b : Int) (l : List OpP) : (namedP a b l).length ≤ l.length := by
  unfold namedP
  have h : ∀ (l : List OpP) (k : List (List UInt8)), (l.foldl (fun l o => if (o.c = a ∨ o.c = b) ∧ keyB o.key = true then insK o.key l else l) k).length ≤ k.length + l.length := by
    intro l
    induction l with
    | nil => intro k; simp
    | cons x r ih =>
      intro k
      rw [List.foldl_cons, List.length_cons]
      have h1 := ih (if (x.c = a ∨ x.c = b) ∧ keyB x.key = true then insK x.key k else k)
      have h2 : (if (x.c = a ∨ x.c = b) ∧ keyB x.key = true then insK x.key k else k).length ≤ k.length + 1 := by
        split
        · exact insK_length _ _
        · omega
      omega
  have := h l []
  simpa using this
set_option maxHeartbeats 4000000 in
theorem reads9_any (ad : Option Addr) (n cap : Nat) (l : List OpP) (w : World) (h : RdO w ad n cap l) (hn : n ≤ 1000) :
    Calls Tryz.prog 19 #[.slice ad n cap] w (KeysPost w (namedP 1 1 l)) := by
  have H := Lib.hid h
  have HN := Lib.hid h.rd.1
  clear h
  go_enter Tryz.func19, Tryz.ntmps19
  go_wp2_with fail
  go_loopw [3, 4] (fun v i wr => ∃ k : Nat, k ≤ n ∧ i = .int .i64 (k : Nat) ∧ Hid (OwnK wr w.heap.size v (namedP 1 1 (l.take k))) ∧ Hid (Below w.heap.size w wr)) (fun _ i _ => n - (intOf i).toNat)
  case atStart => exact ⟨0, Nat.zero_le _, rfl, OwnK.nil _ _, Below.refl _ _⟩
  case round =>
    obtain ⟨k, hk, rfl, HO, HB⟩ := hrel
    obtain ⟨av, cv, rfl, hrk⟩ := OwnK.rd HO.out
    by_cases hlt : k < n
    · obtain ⟨o, ho⟩ : ∃ o, l[k]? = some o := ⟨_, List.getElem?_eq_getElem (by have := HN.out; omega)⟩
      obtain ⟨bk, off, rfl, c0, c1, _, _, _⟩ := (H.out.below HB.out).at ho
      have HF := Lib.hid ho
      have HRK := Lib.hid hrk
      have HKB : Hid (∀ W, Calls Tryz.prog 39 #[.string (bs o.key)] W fun e w' => e = .returned (.bool (keyB o.key)) ∧ w' = W) := fun W => refKey_any o.key W
      have hnl : (namedP 1 1 (l.take k)).length ≤ 1000 := by
        have := namedP_length 1 1 (l.take k)
        have h2 := List.length_take_le k l
        omega
      clear ho hrk
      cases hka : (o.c == 1) with
      | true =>
        cases hkb : keyB o.key with
        | true =>
          have HCND : Hid ((o.c = 1 ∨ o.c = 1) ∧ keyB o.key = true) := ⟨.inl (by simpa using hka), hkb⟩
          rw [hkb] at HKB
          clear hkb
          have HADD := Lib.hid (add9_any av _ cv (namedP 1 1 (l.take k)) o.key wr HRK.out (by have := hnl; omega))
          go_wp2_with (first | (go_at_call 39; ((with_reducible refine (HKB.out _).mono ?_); rintro e w' ⟨rfl, rfl⟩)) | (go_at_call 41; refine (HADD.out).mono ?_; rintro e w2 ⟨v2, rfl, hown2, hb2⟩))
          have HO2 : Hid (OwnK w2 w.heap.size v2 (namedP 1 1 (l.take (k + 1)))) := by
            rw [namedP_next HF.out, if_pos HCND.out]
            exact ownsRow_mono hown2 HB.out.size
          have HB2 := Lib.hid (next_below' HB.out hb2)
          clear hown2 hb2
          go_roundw
          case rel => exact ⟨k + 1, by omega, by go_num, HO2.out, HB2.out⟩
          case measure => simp [intOf]; omega
        | false =>
          have HCND : Hid (¬ ((o.c = 1 ∨ o.c = 1) ∧ keyB o.key = true)) := fun h => by rw [hkb] at h; cases h.2
          rw [hkb] at HKB
          clear hkb
          have HO2 : Hid (OwnK wr w.heap.size (.slice av (namedP 1 1 (l.take k)).length cv) (namedP 1 1 (l.take (k + 1)))) := by
            rw [namedP_next HF.out, if_neg HCND.out]
            exact HO.out
          go_wp2_with (go_at_call 39; ((with_reducible refine (HKB.out _).mono ?_); rintro e w' ⟨rfl, rfl⟩))
          go_roundw
          case rel => exact ⟨k + 1, by omega, by go_num, HO2.out, HB.out⟩
          case measure => simp [intOf]; omega
      | false =>
        have HCND : Hid (¬ ((o.c = 1 ∨ o.c = 1) ∧ keyB o.key = true)) := fun h => by
          rcases h.1 with e | e <;> (rw [e] at hka; simp at hka)
        have HO2 : Hid (OwnK wr w.heap.size (.slice av (namedP 1 1 (l.take k)).length cv) (namedP 1 1 (l.take (k + 1)))) := by
          rw [namedP_next HF.out, if_neg HCND.out]
          exact HO.out
        go_wp2_with (go_at_call 39; ((with_reducible refine (HKB.out _).mono ?_); rintro e w' ⟨rfl, rfl⟩))
        go_roundw
        case rel => exact ⟨k + 1, by omega, by go_num, HO2.out, HB.out⟩
        case measure => simp [intOf]; omega
    · obtain rfl : k = n := by omega
      have HG : Hid (KeysPost w (namedP 1 1 l) (.returned (.slice av (namedP 1 1 (l.take k)).length cv)) wr) := by
        have h := HO.out
        have ht : l.take k = l := List.take_of_length_le (by rw [HN.out]; exact Nat.le_refl _)
        rw [ht] at h ⊢
        exact ⟨_, rfl, h, HB.out⟩
      clear hrk
      go_wp2_with fail
      go_ret
      exact HG.out
set_option maxHeartbeats 4000000 in
theorem names9_any (ad : Option Addr) (n cap : Nat) (l : List OpP) (w : World) (h : RdO w ad n cap l) (hn : n ≤ 1000) :
    Calls Tryz.prog 20 #[.slice ad n cap] w (KeysPost w (namedP 2 3 l)) := by
  have H := Lib.hid h
  have HN := Lib.hid h.rd.1
  clear h
  go_enter Tryz.func20, Tryz.ntmps20
  go_wp2_with fail
  go_loopw [3, 4] (fun v i wr => ∃ k : Nat, k ≤ n ∧ i = .int .i64 (k : Nat) ∧ Hid (OwnK wr w.heap.size v (namedP 2 3 (l.take k))) ∧ Hid (Below w.heap.size w wr)) (fun _ i _ => n - (intOf i).toNat)
  case atStart => exact ⟨0, Nat.zero_le _, rfl, OwnK.nil _ _, Below.refl _ _⟩
  case round =>
    obtain ⟨k, hk, rfl, HO, HB⟩ := hrel
    obtain ⟨av, cv, rfl, hrk⟩ := OwnK.rd HO.out
    by_cases hlt : k < n
    · obtain ⟨o, ho⟩ : ∃ o, l[k]? = some o := ⟨_, List.getElem?_eq_getElem (by have := HN.out; omega)⟩
      obtain ⟨bk, off, rfl, c0, c1, _, _, _⟩ := (H.out.below HB.out).at ho
      have HF := Lib.hid ho
      have HRK := Lib.hid hrk
      have HKB : Hid (∀ W, Calls Tryz.prog 39 #[.string (bs o.key)] W fun e w' => e = .returned (.bool (keyB o.key)) ∧ w' = W) := fun W => refKey_any o.key W
      have hnl : (namedP 2 3 (l.take k)).length ≤ 1000 := by
        have := namedP_length 2 3 (l.take k)
        have h2 := List.length_take_le k l
        omega
      clear ho hrk
      cases hka : (o.c == 2) with
      | true =>
        cases hkb : keyB o.key with
        | true =>
          have HCND : Hid ((o.c = 2 ∨ o.c = 3) ∧ keyB o.key = true) := ⟨.inl (by simpa using hka), hkb⟩
          rw [hkb] at HKB
          clear hkb
          have HADD := Lib.hid (add9_any av _ cv (namedP 2 3 (l.take k)) o.key wr HRK.out (by have := hnl; omega))
          go_wp2_with (first | (go_at_call 39; ((with_reducible refine (HKB.out _).mono ?_); rintro e w' ⟨rfl, rfl⟩)) | (go_at_call 41; refine (HADD.out).mono ?_; rintro e w2 ⟨v2, rfl, hown2, hb2⟩))
          have HO2 : Hid (OwnK w2 w.heap.size v2 (namedP 2 3 (l.take (k + 1)))) := by
            rw [namedP_next HF.out, if_pos HCND.out]
            exact ownsRow_mono hown2 HB.out.size
          have HB2 := Lib.hid (next_below' HB.out hb2)
          clear hown2 hb2
          go_roundw
          case rel => exact ⟨k + 1, by omega, by go_num, HO2.out, HB2.out⟩
          case measure => simp [intOf]; omega
        | false =>
          have HCND : Hid (¬ ((o.c = 2 ∨ o.c = 3) ∧ keyB o.key = true)) := fun h => by rw [hkb] at h; cases h.2
          rw [hkb] at HKB
          clear hkb
          have HO2 : Hid (OwnK wr w.heap.size (.slice av (namedP 2 3 (l.take k)).length cv) (namedP 2 3 (l.take (k + 1)))) := by
            rw [namedP_next HF.out, if_neg HCND.out]
            exact HO.out
          go_wp2_with (go_at_call 39; ((with_reducible refine (HKB.out _).mono ?_); rintro e w' ⟨rfl, rfl⟩))
          go_roundw
          case rel => exact ⟨k + 1, by omega, by go_num, HO2.out, HB.out⟩
          case measure => simp [intOf]; omega
      | false =>
        cases hkc : (o.c == 3) with
        | true =>
          cases hkb : keyB o.key with
          | true =>
            have HCND : Hid ((o.c = 2 ∨ o.c = 3) ∧ keyB o.key = true) := ⟨.inr (by simpa using hkc), hkb⟩
            rw [hkb] at HKB
            clear hkb
            have HADD := Lib.hid (add9_any av _ cv (namedP 2 3 (l.take k)) o.key wr HRK.out (by have := hnl; omega))
            go_wp2_with (first | (go_at_call 39; ((with_reducible refine (HKB.out _).mono ?_); rintro e w' ⟨rfl, rfl⟩)) | (go_at_call 41; refine (HADD.out).mono ?_; rintro e w2 ⟨v2, rfl, hown2, hb2⟩))
            have HO2 : Hid (OwnK w2 w.heap.size v2 (namedP 2 3 (l.take (k + 1)))) := by
              rw [namedP_next HF.out, if_pos HCND.out]
              exact ownsRow_mono hown2 HB.out.size
            have HB2 := Lib.hid (next_below' HB.out hb2)
            clear hown2 hb2
            go_roundw
            case rel => exact ⟨k + 1, by omega, by go_num, HO2.out, HB2.out⟩
            case measure => simp [intOf]; omega
          | false =>
            have HCND : Hid (¬ ((o.c = 2 ∨ o.c = 3) ∧ keyB o.key = true)) := fun h => by rw [hkb] at h; cases h.2
            rw [hkb] at HKB
            clear hkb
            have HO2 : Hid (OwnK wr w.heap.size (.slice av (namedP 2 3 (l.take k)).length cv) (namedP 2 3 (l.take (k + 1)))) := by
              rw [namedP_next HF.out, if_neg HCND.out]
              exact HO.out
            go_wp2_with (go_at_call 39; ((with_reducible refine (HKB.out _).mono ?_); rintro e w' ⟨rfl, rfl⟩))
            go_roundw
            case rel => exact ⟨k + 1, by omega, by go_num, HO2.out, HB.out⟩
            case measure => simp [intOf]; omega
        | false =>
          have HCND : Hid (¬ ((o.c = 2 ∨ o.c = 3) ∧ keyB o.key = true)) := fun h => by
            rcases h.1 with e | e
            · rw [e] at hka; simp at hka
            · rw [e] at hkc; simp at hkc
          have HO2 : Hid (OwnK wr w.heap.size (.slice av (namedP 2 3 (l.take k)).length cv) (namedP 2 3 (l.take (k + 1)))) := by
            rw [namedP_next HF.out, if_neg HCND.out]
            exact HO.out
          go_wp2_with (go_at_call 39; ((with_reducible refine (HKB.out _).mono ?_); rintro e w' ⟨rfl, rfl⟩))
          go_roundw
          case rel => exact ⟨k + 1, by omega, by go_num, HO2.out, HB.out⟩
          case measure => simp [intOf]; omega
    · obtain rfl : k = n := by omega
      have HG : Hid (KeysPost w (namedP 2 3 l) (.returned (.slice av (namedP 2 3 (l.take k)).length cv)) wr) := by
        have h := HO.out
        have ht : l.take k = l := List.take_of_length_le (by rw [HN.out]; exact Nat.le_refl _)
        rw [ht] at h ⊢
        exact ⟨_, rfl, h, HB.out⟩
      clear hrk
      go_wp2_with fail
      go_ret
      exact HG.out
end Go.Proofs.YtalpbphfmelhhaaGreatDoor
