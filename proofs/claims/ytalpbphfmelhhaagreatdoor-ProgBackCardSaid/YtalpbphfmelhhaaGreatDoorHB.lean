/-
  The keys that a program reads and writes (prog.named, Reads, Names).
  What is wrong with a program (prog.Check).
-/
import Derived.Test.YtalpbphfmelhhaaGreatDoorHA
import Derived.Test.YtalpbphfmelhhaaGreatDoorIT
import Derived.Maps.StringElems
/-! ### The keys that a program reads and writes (prog.named, Reads, Names). -/
namespace Go.Proofs.YtalpbphfmelhhaaGreatDoor
open Go.RowKit Go.Maps Go.Sort
set_option maxRecDepth 100000
attribute [local go_sem] bs_size bs_get bs_toList frombits tobits run_store_float
def intL (n : Nat) : DataW Unit := .lit (.int .i64 (n : Int))
def RInt : Value → Option (DataW Unit × List MemPlace)
  | .int .i64 n => some (.lit (.int .i64 n), [])
  | _ => none
theorem rint_inv {v : Value} {n : Nat} {ps : List MemPlace} (h : RInt v = some (intL n, ps)) : v = .int .i64 (n : Int) := by
  unfold RInt at h
  split at h
  · simp [intL] at h; rw [h.1]
  · cases h
theorem zeroI (w : World) : (zeroValue 3).run Tryz.prog w = .ok (.int .i64 0) w := by kernel_rfl
/-- A count, asked of the map. -/
theorem lookI_run {w : World} {m n : Nat} {L : List (List UInt8 × Nat)} (h : w.ownsMap Tryz.prog 9 RInt m n (mapG intL L)) (nm : List UInt8) (hn : nm.length ≤ maxLen) :
    (Instr.lookup 111 (.map (some m)) (.string (bs nm)) false).run Tryz.prog w = .ok (.int .i64 (((getG nm L).getD 0 : Nat) : Int)) w := by
  obtain ⟨v, ps, hrun, hv⟩ := h.lookup strKeyed Tryz.underlying111 (zeroI w) (zd := intL 0) (zp := []) rfl (keyS nm hn)
  rw [mapG_at] at hv
  rw [hrun]
  cases hg : getG nm L with
  | none => rw [hg] at hv; rw [rint_inv hv]; rfl
  | some c => rw [hg] at hv; rw [rint_inv hv]; rfl
/-! ### lists of steps -/
def opCells (o : OpP) : List Value := [.int .i64 o.c, .string (bs o.key), .int .i64 o.v.k, .float .f64 (fb o.v.x), .string (bs o.v.s)]
theorem opCells5 (o : OpP) : (opCells o).length = 5 := rfl
structure OpOk (o : OpP) : Prop where
  c0 : -9223372036854775808 ≤ o.c
  c1 : o.c ≤ 9223372036854775807
  kl : o.key.length ≤ 20000
  sl : o.v.s.length ≤ 20000
/-- A slice of steps that reads. -/
structure RdO (w : World) (a : Option Addr) (n cap : Nat) (l : List OpP) : Prop where
  rd : RdE opCells 5 w a n cap l
  ok : ∀ o ∈ l, OpOk o
theorem RdO.below {w w' : World} {a : Option Addr} {n cap : Nat} {l : List OpP} (h : RdO w a n cap l) (hb : Below w.heap.size w w') : RdO w' a n cap l := ⟨h.rd.below hb, h.ok⟩
theorem RdO.at {w : World} {a : Option Addr} {n cap : Nat} {l : List OpP} (h : RdO w a n cap l) {i : Nat} {o : OpP} (hi : l[i]? = some o) : ∃ b off, a = some ⟨b, off, none⟩ ∧ w.cell? ⟨b, off + i * 5, none⟩ = some (.int .i64 o.c) ∧
    w.cell? ⟨b, off + i * 5 + 1, none⟩ = some (.string (bs o.key)) ∧ w.cell? ⟨b, off + i * 5 + 2, none⟩ = some (.int .i64 o.v.k) ∧ w.cell? ⟨b, off + i * 5 + 3, none⟩ = some (.float .f64 (fb o.v.x)) ∧ w.cell? ⟨b, off + i * 5 + 4, none⟩ = some (.string (bs o.v.s)) := by
  obtain ⟨b, off, ha, hc⟩ := h.rd.at opCells5 hi (by decide)
  exact ⟨b, off, ha, hc 0 _ rfl, hc 1 _ rfl, hc 2 _ rfl, hc 3 _ rfl, hc 4 _ rfl⟩
theorem namedP_next {a b : Int} {l : List OpP} {k : Nat} {o : OpP} (h : l[k]? = some o) : namedP a b (l.take (k + 1)) = if (o.c = a ∨ o.c = b) ∧ keyB o.key = true then insK o.key (namedP a b (l.take k)) else namedP a b (l.take k) := by
  unfold namedP
  rw [List.take_add_one, h, List.foldl_append]
  rfl
/-- The map of names while it is made. -/
structure NmAt (w : World) (m : Nat) (a b : Int) (l : List OpP) (k : Nat) (L : List (List UInt8 × Nat)) (W : World) : Prop where
  own : W.ownsMap Tryz.prog 9 RInt m L.length (mapG intL L)
  srt : SrtG L
  keys : L.map (fun p => p.1) = namedP a b (l.take k)
  vals : ∀ p ∈ L, p.2 ≤ k
  len : L.length ≤ k
  bl : Below w.heap.size w W
def KeysPost (w : World) (ks : List (List UInt8)) (e : Ending) (w' : World) : Prop := ∃ v, e = .returned v ∧ w'.ownsRow w.heap.size 9 1 v ks.length (ks.map encStr) ∧ Below w.heap.size w w'
set_option maxHeartbeats 4000000 in
theorem named_any (ad : Option Addr) (n cap : Nat) (l : List OpP) (a b : Int) (w : World) (h : RdO w ad n cap l) (hn : n ≤ 1000) :
    Calls Tryz.prog 35 #[.slice ad n cap, .int .i64 a, .int .i64 b] w (KeysPost w (namedP a b l)) := by
  have H := Lib.hid h
  have HN := Lib.hid h.rd.1
  have hmm := @run_makeMap Tryz.prog
  clear h
  obtain ⟨m, hm⟩ : ∃ m, w.heap.size = m := ⟨_, rfl⟩
  have hst : NmAt w m a b l 0 [] (w.alloc (.map #[] 0)) := by
    have := World.ownsMap_made w Tryz.prog 9 RInt
    rw [hm] at this
    exact ⟨this, SrtG.nil, rfl, fun p hp => (by cases hp), Nat.le_refl _, (Below.refl _ _).alloc (Nat.le_refl _) _⟩
  have HM := Lib.hid hm
  have HST := Lib.hid hst
  clear hst
  go_enter Tryz.func35, Tryz.ntmps35
  go_wp2_with fail
  clear hm
  go_loopw [9, 13] (fun _ i wr => ∃ (k : Nat) (L : List (List UInt8 × Nat)), k ≤ n ∧ i = .int .i64 (k : Nat) ∧ Hid (NmAt w m a b l k L wr)) (fun _ i _ => n - (intOf i).toNat)
  case atStart => exact ⟨0, [], Nat.zero_le _, rfl, HST.out⟩
  case round =>
    clear HST
    obtain ⟨k, L, hk, rfl, HO⟩ := hrel
    by_cases hlt : k < n
    · obtain ⟨o, ho⟩ : ∃ o, l[k]? = some o := ⟨_, List.getElem?_eq_getElem (by have := HN.out; omega)⟩
      obtain ⟨bk, off, rfl, c0, c1, c2, c3, c4⟩ := (H.out.below HO.out.bl).at ho
      have hok := H.out.ok o (List.mem_of_getElem? ho)
      have HKL := Lib.hid hok.kl
      have HF := Lib.hid ho
      have HKB : Hid (∀ W, Calls Tryz.prog 67 #[.string (bs o.key)] W fun e w' => e = .returned (.bool (keyB o.key)) ∧ w' = W) := fun W => key_any o.key W
      have hba : Below wr.heap.size wr (wr.alloc (.cells #[.int .i64 o.c, .string (bs o.key), .int .i64 o.v.k, .float .f64 (fb o.v.x), .string (bs o.v.s)] 59)) := (Below.refl _ _).alloc (Nat.le_refl _) _
      have hrow := heap_alloc_new wr (.cells #[.int .i64 o.c, .string (bs o.key), .int .i64 o.v.k, .float .f64 (fb o.v.x), .string (bs o.v.s)] 59)
      obtain ⟨X, hX⟩ : ∃ X, wr.alloc (.cells #[.int .i64 o.c, .string (bs o.key), .int .i64 o.v.k, .float .f64 (fb o.v.x), .string (bs o.v.s)] 59) = X := ⟨_, rfl⟩
      rw [hX] at hba hrow
      obtain ⟨pb, hpb⟩ : ∃ pb, wr.heap.size = pb := ⟨_, rfl⟩
      rw [hpb] at hrow
      have x0 : X.cell? ⟨pb, 0, none⟩ = some (.int .i64 o.c) := cell_of_row _ _ 0 _ _ _ hrow
      have x1 : X.cell? ⟨pb, 1, none⟩ = some (.string (bs o.key)) := cell_of_row _ _ 1 _ _ _ hrow
      have HOX : Hid (X.ownsMap Tryz.prog 9 RInt m L.length (mapG intL L)) := ownsMap_block HO.out.own (hba.block m HO.out.own.lt)
      have HBX := Lib.hid (next_below' HO.out.bl hba)
      have hlk := lookI_run HOX.out o.key (by have := HKL.out; unfold maxLen; omega)
      have hvb : (getG o.key L).getD 0 ≤ k := by
        cases hg : getG o.key L with
        | none => exact Nat.zero_le _
        | some v => exact HO.out.vals _ (getG_some hg)
      obtain ⟨v, hv⟩ : ∃ v, (getG o.key L).getD 0 = v := ⟨_, rfl⟩
      rw [hv] at hlk hvb
      have hw1 : IntKind.i64.wrap ((v : Int) + 1) = ((v + 1 : Nat) : Int) := by rw [IntWalk.i64_in _ (by omega)]; omega
      have HVB := Lib.hid hvb
      clear ho hok hba hrow hv hvb
      cases hka : (o.c == a) with
      | true =>
        cases hkb : keyB o.key with
        | true =>
          have HCND : Hid ((o.c = a ∨ o.c = b) ∧ keyB o.key = true) := ⟨.inl (by simpa using hka), hkb⟩
          rw [hkb] at HKB
          clear hkb
          go_wp2_with (first | (go_at_call 67; ((with_reducible refine (HKB.out _).mono ?_); rintro e w' ⟨rfl, rfl⟩)) | (at_mapUpdate; refine wpList_mapUpdate_own _ rfl _ _ _ 111 rfl 9 3 strKeyed Tryz.underlying111 RInt m L.length (mapG intL L) rfl HOX.out (by have := HO.out.len; unfold maxLen; omega) _ _ (.string o.key) rfl rfl (keyS o.key (by have := HKL.out; unfold maxLen; omega)) (intL (v + 1)) [] rfl ?_; intro W4 hown4 hgrow4))
          have hnx : NmAt w m a b l (k + 1) (putG (o.key, v + 1) L) W4 := by
            have h4 : W4.ownsMap Tryz.prog 9 RInt m (L.length + 1) (mapG intL (putG (o.key, v + 1) L)) := by rw [← mapG_put]; exact hown4
            refine ⟨by have := ownsMap_tight h4; rwa [mapG_size] at this, HO.out.srt.put, ?_, fun p hp => ?_, by have := putG_length (o.key, v + 1) L; have := HO.out.len; omega, HBX.out.grown hgrow4 HBX.out.size (fun q hq => by cases hq; rw [← HM.out]; exact Nat.le_refl _)⟩
            · rw [putG_keys HO.out.srt, HO.out.keys, namedP_next HF.out, if_pos HCND.out]
            · rcases mem_putG.1 hp with rfl | hp
              · show v + 1 ≤ k + 1
                have := HVB.out
                omega
              · have := HO.out.vals p hp.1; omega
          have HNX := Lib.hid hnx
          clear hnx hown4 hgrow4
          go_wp2_with fail
          go_roundw
          case rel => exact ⟨k + 1, _, by omega, by go_num, HNX.out⟩
          case measure => simp [intOf]; omega
        | false =>
          have HCND : Hid (¬ ((o.c = a ∨ o.c = b) ∧ keyB o.key = true)) := fun h => by rw [hkb] at h; cases h.2
          rw [hkb] at HKB
          clear hkb
          have hnx : NmAt w m a b l (k + 1) L X := by
            have h := HO.out
            exact ⟨HOX.out, h.srt, by rw [namedP_next HF.out, if_neg HCND.out]; exact h.keys, fun p hp => Nat.le_succ_of_le (h.vals p hp), Nat.le_succ_of_le h.len, HBX.out⟩
          have HNX := Lib.hid hnx
          clear hnx
          go_wp2_with (go_at_call 67; ((with_reducible refine (HKB.out _).mono ?_); rintro e w' ⟨rfl, rfl⟩))
          go_roundw
          case rel => exact ⟨k + 1, L, by omega, by go_num, HNX.out⟩
          case measure => simp [intOf]; omega
      | false =>
        cases hkc : (o.c == b) with
        | true =>
          cases hkb : keyB o.key with
          | true =>
            have HCND : Hid ((o.c = a ∨ o.c = b) ∧ keyB o.key = true) := ⟨.inr (by simpa using hkc), hkb⟩
            rw [hkb] at HKB
            clear hkb
            go_wp2_with (first | (go_at_call 67; ((with_reducible refine (HKB.out _).mono ?_); rintro e w' ⟨rfl, rfl⟩)) | (at_mapUpdate; refine wpList_mapUpdate_own _ rfl _ _ _ 111 rfl 9 3 strKeyed Tryz.underlying111 RInt m L.length (mapG intL L) rfl HOX.out (by have := HO.out.len; unfold maxLen; omega) _ _ (.string o.key) rfl rfl (keyS o.key (by have := HKL.out; unfold maxLen; omega)) (intL (v + 1)) [] rfl ?_; intro W4 hown4 hgrow4))
            have hnx : NmAt w m a b l (k + 1) (putG (o.key, v + 1) L) W4 := by
              have h4 : W4.ownsMap Tryz.prog 9 RInt m (L.length + 1) (mapG intL (putG (o.key, v + 1) L)) := by rw [← mapG_put]; exact hown4
              refine ⟨by have := ownsMap_tight h4; rwa [mapG_size] at this, HO.out.srt.put, ?_, fun p hp => ?_, by have := putG_length (o.key, v + 1) L; have := HO.out.len; omega, HBX.out.grown hgrow4 HBX.out.size (fun q hq => by cases hq; rw [← HM.out]; exact Nat.le_refl _)⟩
              · rw [putG_keys HO.out.srt, HO.out.keys, namedP_next HF.out, if_pos HCND.out]
              · rcases mem_putG.1 hp with rfl | hp
                · show v + 1 ≤ k + 1
                  have := HVB.out
                  omega
                · have := HO.out.vals p hp.1; omega
            have HNX := Lib.hid hnx
            clear hnx hown4 hgrow4
            go_wp2_with fail
            go_roundw
            case rel => exact ⟨k + 1, _, by omega, by go_num, HNX.out⟩
            case measure => simp [intOf]; omega
          | false =>
            have HCND : Hid (¬ ((o.c = a ∨ o.c = b) ∧ keyB o.key = true)) := fun h => by rw [hkb] at h; cases h.2
            rw [hkb] at HKB
            clear hkb
            have hnx : NmAt w m a b l (k + 1) L X := by
              have h := HO.out
              exact ⟨HOX.out, h.srt, by rw [namedP_next HF.out, if_neg HCND.out]; exact h.keys, fun p hp => Nat.le_succ_of_le (h.vals p hp), Nat.le_succ_of_le h.len, HBX.out⟩
            have HNX := Lib.hid hnx
            clear hnx
            go_wp2_with (go_at_call 67; ((with_reducible refine (HKB.out _).mono ?_); rintro e w' ⟨rfl, rfl⟩))
            go_roundw
            case rel => exact ⟨k + 1, L, by omega, by go_num, HNX.out⟩
            case measure => simp [intOf]; omega
        | false =>
          have HCND : Hid (¬ ((o.c = a ∨ o.c = b) ∧ keyB o.key = true)) := fun h => by
            rcases h.1 with e | e
            · rw [e] at hka; simp at hka
            · rw [e] at hkc; simp at hkc
          have hnx : NmAt w m a b l (k + 1) L X := by
            have h := HO.out
            exact ⟨HOX.out, h.srt, by rw [namedP_next HF.out, if_neg HCND.out]; exact h.keys, fun p hp => Nat.le_succ_of_le (h.vals p hp), Nat.le_succ_of_le h.len, HBX.out⟩
          have HNX := Lib.hid hnx
          clear hnx
          go_wp2_with (go_at_call 67; ((with_reducible refine (HKB.out _).mono ?_); rintro e w' ⟨rfl, rfl⟩))
          go_roundw
          case rel => exact ⟨k + 1, L, by omega, by go_num, HNX.out⟩
          case measure => simp [intOf]; omega
    · obtain rfl : k = n := by omega
      have hks : strKeys (mapG intL L) = namedP a b l := by rw [mapG_keys, HO.out.keys, List.take_of_length_le (by rw [HN.out]; exact Nat.le_refl _)]
      have hsk : SrtK (namedP a b l) := by rw [← hks, mapG_keys]; exact HO.out.srt.keys
      have hln : L.length ≤ 1000 := Nat.le_trans HO.out.len hn
      have HK := Lib.hid (callsIn_wide.1 (Tryz.maps_Keys_68 (some m) wr))
      have HS := Lib.hid (callsIn_wide.1 (Tryz.slices_Sorted_keys_46_68 m _ (mapG intL L) RInt wr HO.out.own (by rw [mapG_size]; unfold maxLen; omega) (by rw [mapG_size]; omega)))
      have HB := Lib.hid HO.out.bl
      have HFIN : Hid (∀ (v : Value) (ss : List (List UInt8)) (w' : World), ss.Perm (strKeys (mapG intL L)) → w'.ownsRow (wr.alloc (.cells #[.map (some m)] 111)).heap.size 9 1 v ss.length ((ss.mergeSort (fun x y => decide (x ≤ y))).map encStr) → Below (wr.alloc (.cells #[.map (some m)] 111)).heap.size (wr.alloc (.cells #[.map (some m)] 111)) w' → KeysPost w (namedP a b l) (.returned v) w') := by
        intro v ss w' hp hrow hb
        rw [hks] at hp
        rw [hsk.sorted hp, hp.length_eq] at hrow
        have hs := HB.out.size
        exact ⟨v, rfl, ownsRow_mono hrow (by simp; omega), (HB.out.alloc HB.out.size _).trans (hb.mono (by simp; omega))⟩
      clear hks hsk hln HO
      go_wp2_with fail
      go_at_call 68
      refine (HK.out).mono ?_
      rintro e w1 ⟨rfl, rfl⟩
      go_wp2_with fail
      go_at_call 46
      refine (HS.out).mono ?_
      rintro e w2 ⟨v, ss, rfl, hp, hrow, _, hb⟩
      have HG := Lib.hid (HFIN.out v ss w2 hp hrow hb)
      clear hp hrow hb
      go_wp2_with fail
      go_ret
      exact HG.out
theorem reads_any (ad : Option Addr) (n cap : Nat) (l : List OpP) (w : World) (h : RdO w ad n cap l) (hn : n ≤ 1000) : Calls Tryz.prog 14 #[.slice ad n cap] w (KeysPost w (readsP l)) := by
  have H := Lib.hid (named_any ad n cap l 1 1 w h hn)
  clear h
  go_enter Tryz.func14, Tryz.ntmps14
  go_wp2_with fail
  go_at_call 35
  refine (H.out).mono ?_
  rintro e w1 hp
  have HP := Lib.hid hp
  obtain ⟨v, rfl, _⟩ := id hp
  clear hp
  go_wp2_with fail
  go_ret
  exact HP.out
theorem names_any (ad : Option Addr) (n cap : Nat) (l : List OpP) (w : World) (h : RdO w ad n cap l) (hn : n ≤ 1000) : Calls Tryz.prog 15 #[.slice ad n cap] w (KeysPost w (namesP l)) := by
  have H := Lib.hid (named_any ad n cap l 2 3 w h hn)
  clear h
  go_enter Tryz.func15, Tryz.ntmps15
  go_wp2_with fail
  go_at_call 35
  refine (H.out).mono ?_
  rintro e w1 hp
  have HP := Lib.hid hp
  obtain ⟨v, rfl, _⟩ := id hp
  clear hp
  go_wp2_with fail
  go_ret
  exact HP.out
end Go.Proofs.YtalpbphfmelhhaaGreatDoor

/-! ### What is wrong with a program (prog.Check). -/
namespace Go.Proofs.YtalpbphfmelhhaaGreatDoor
open Go.RowKit Go.Maps Go.Sort
set_option maxRecDepth 100000
attribute [local go_sem] bs_size bs_get bs_toList frombits tobits run_store_float
theorem take_bd (c : Int) : 0 ≤ takeC c ∧ takeC c ≤ 2 := by unfold takeC; split <;> (try split) <;> omega
theorem give_bd (c : Int) : 0 ≤ giveC c ∧ giveC c ≤ 2 := by unfold giveC; split <;> (try split) <;> omega
theorem chkGo_cons (o : OpP) (r : List OpP) (h : Int) : chkGo (o :: r) h = if codeOk o.c = false then 7 else if formO o = false then 4 else if h < takeC o.c then 5 else if 16 < h + giveC o.c - takeC o.c then 2 else chkGo r (h + giveC o.c - takeC o.c) := rfl
def IntPost (w : World) (x : Int) (e : Ending) (w' : World) : Prop := e = .returned (.int .i64 x) ∧ Below w.heap.size w w'
set_option maxHeartbeats 4000000 in
theorem check_any (ad : Option Addr) (n cap : Nat) (l : List OpP) (w : World) (h : RdO w ad n cap l) (hn : n ≤ 1000) :
    Calls Tryz.prog 16 #[.slice ad n cap] w (IntPost w (checkP l)) := by
  have H := Lib.hid h
  have HN := Lib.hid h.rd.1
  clear h
  by_cases hlong : 40 < n
  · have hc : checkP l = 3 := by unfold checkP; rw [if_pos (by rw [← HN.out]; exact hlong)]
    have hd : decide (40 < n) = true := decide_eq_true hlong
    have hd' : decide ((40 : Int) < (n : Int)) = true := decide_eq_true (by omega)
    rw [hc]
    clear hc hlong
    go_enter Tryz.func16, Tryz.ntmps16
    go_wp2_with fail
    go_ret
    exact ⟨rfl, Below.refl _ _⟩
  have hd : decide (40 < n) = false := decide_eq_false hlong
  have hd' : decide ((40 : Int) < (n : Int)) = false := decide_eq_false (by omega)
  have HG : Hid (chkGo l 0 ≠ 0 → checkP l = chkGo l 0) := fun h0 => by
    unfold checkP
    rw [if_neg (by rw [← HN.out]; exact hlong), if_pos h0]
  have HZ : Hid (chkGo l 0 = 0 → checkP l = if 16 < (readsP l).length ∨ 16 < (namesP l).length then 3 else 0) := fun h0 => by
    unfold checkP
    rw [if_neg (by rw [← HN.out]; exact hlong), if_neg (fun e => e h0)]
  go_enter Tryz.func16, Tryz.ntmps16
  go_wp2_with fail
  clear hd hd'
  go_loopw [3, 5, 6, 7, 13] (fun hi _ _ _ i wr => ∃ (k : Nat) (hh : Int), k ≤ n ∧ i = .int .i64 (k : Nat) ∧ hi = .int .i64 hh ∧ 0 ≤ hh ∧ hh ≤ 16 ∧ Hid (chkGo l 0 = chkGo (l.drop k) hh) ∧ Hid (Below w.heap.size w wr)) (fun _ _ _ _ i _ => n - (intOf i).toNat)
  case atStart => exact ⟨0, 0, Nat.zero_le _, rfl, rfl, Int.le_refl _, by decide, rfl, Below.refl _ _⟩
  case round =>
    obtain ⟨k, hh, hk, rfl, rfl, h0, h1, HC, HB⟩ := hrel
    by_cases hlt : k < n
    · obtain ⟨o, ho⟩ : ∃ o, l[k]? = some o := ⟨_, List.getElem?_eq_getElem (by have := HN.out; omega)⟩
      obtain ⟨bk, off, rfl, c0, c1, c2, c3, c4⟩ := (H.out.below HB.out).at ho
      have hdr : l.drop k = o :: l.drop (k + 1) := by
        obtain ⟨hl, he⟩ := List.getElem?_eq_some_iff.1 ho
        rw [List.drop_eq_getElem_cons hl, he]
      have hch := HC.out
      rw [hdr, chkGo_cons] at hch
      have HCH := Lib.hid hch
      have hba : Below wr.heap.size wr (wr.alloc (.cells #[.int .i64 o.c, .string (bs o.key), .int .i64 o.v.k, .float .f64 (fb o.v.x), .string (bs o.v.s)] 59)) := (Below.refl _ _).alloc (Nat.le_refl _) _
      have hrow := heap_alloc_new wr (.cells #[.int .i64 o.c, .string (bs o.key), .int .i64 o.v.k, .float .f64 (fb o.v.x), .string (bs o.v.s)] 59)
      obtain ⟨X, hX⟩ : ∃ X, wr.alloc (.cells #[.int .i64 o.c, .string (bs o.key), .int .i64 o.v.k, .float .f64 (fb o.v.x), .string (bs o.v.s)] 59) = X := ⟨_, rfl⟩
      rw [hX] at hba hrow
      obtain ⟨pb, hpb⟩ : ∃ pb, wr.heap.size = pb := ⟨_, rfl⟩
      rw [hpb] at hrow
      have HRX : Hid (∀ W, Below X.heap.size X W → W.cell? ⟨pb, 0, none⟩ = some (.int .i64 o.c) ∧ W.cell? ⟨pb, 1, none⟩ = some (.string (bs o.key)) ∧ W.cell? ⟨pb, 2, none⟩ = some (.int .i64 o.v.k) ∧ W.cell? ⟨pb, 3, none⟩ = some (.float .f64 (fb o.v.x)) ∧ W.cell? ⟨pb, 4, none⟩ = some (.string (bs o.v.s))) := fun W hW => by
        have hr := (hW.block pb (Array.getElem?_eq_some_iff.1 hrow).1).trans hrow
        exact ⟨cell_of_row _ _ 0 _ _ _ hr, cell_of_row _ _ 1 _ _ _ hr, cell_of_row _ _ 2 _ _ _ hr, cell_of_row _ _ 3 _ _ _ hr, cell_of_row _ _ 4 _ _ _ hr⟩
      obtain ⟨x0, x1, x2, x3, x4⟩ := HRX.out X (Below.refl _ _)
      have HBX := Lib.hid (next_below' HB.out hba)
      have hof := of_any' o.c X
      have hfo := form_any o.c o.key o.v.k o.v.x o.v.s (namesC o.c)
      have HFO : Hid (∀ W, Calls Tryz.prog 37 #[opV o.c o.key o.v.k o.v.x o.v.s, .int .i64 (namesC o.c)] W fun e w' => e = .returned (.bool (formO o)) ∧ Below W.heap.size W w') := fun W => hfo W
      clear hdr hch hba hrow ho hfo
      cases hco : codeOk o.c with
      | false =>
        have hv : ofV o.c = .agg #[.string (bs []), .int .i64 0, .int .i64 0, .int .i64 0] := by unfold ofV; rw [hco]; rfl
        rw [hv, hco] at hof
        have HOF := Lib.hid hof
        have hres : checkP l = 7 := by
          have h7 : chkGo l 0 = 7 := by rw [HCH.out, if_pos hco]
          rw [HG.out (by rw [h7]; decide), h7]
        have HRS := Lib.hid hres
        clear hof hv hco hres
        go_wp2_with fail
        go_at_call 36
        refine (HOF.out).mono ?_
        rintro e w2 ⟨rfl, hb2⟩
        have HB2 := Lib.hid (next_below' HBX.out hb2)
        clear hb2 x0 x1 x2 x3 x4
        go_wp2_with fail
        go_ret
        exact ⟨by rw [HRS.out]; rfl, HB2.out.alloc HB2.out.size _⟩
      | true =>
        have hv : ofV o.c = stepV o.c := by unfold ofV; rw [hco]; rfl
        rw [hv, hco] at hof
        unfold stepV at hof
        have HOF := Lib.hid hof
        have hch2 := HCH.out
        rw [if_neg (by rw [hco]; simp)] at hch2
        have HCH2 := Lib.hid hch2
        obtain ⟨ht0, ht1⟩ := take_bd o.c
        obtain ⟨hg0, hg1⟩ := give_bd o.c
        obtain ⟨wd, hwd⟩ : ∃ wd, wordC o.c = wd := ⟨_, rfl⟩
        obtain ⟨nm, hnm⟩ : ∃ nm, namesC o.c = nm := ⟨_, rfl⟩
        obtain ⟨tk, htk⟩ : ∃ tk, takeC o.c = tk := ⟨_, rfl⟩
        obtain ⟨gv, hgv⟩ : ∃ gv, giveC o.c = gv := ⟨_, rfl⟩
        rw [hwd, hnm, htk, hgv] at HOF
        rw [htk, hgv] at HCH2
        rw [hnm] at HFO
        rw [htk] at ht0 ht1
        rw [hgv] at hg0 hg1
        clear hof hv hco hch2 HCH hwd hnm htk hgv
        go_wp2_with fail
        go_at_call 36
        refine (HOF.out).mono ?_
        rintro e w2 ⟨rfl, hb2⟩
        have hb3 : Below X.heap.size X (w2.alloc (.cells #[.string (bs wd), .int .i64 nm, .int .i64 tk, .int .i64 gv] 64)) := hb2.alloc hb2.size _
        have hrow2 := heap_alloc_new w2 (.cells #[.string (bs wd), .int .i64 nm, .int .i64 tk, .int .i64 gv] 64)
        obtain ⟨Y, hY⟩ : ∃ Y, w2.alloc (.cells #[.string (bs wd), .int .i64 nm, .int .i64 tk, .int .i64 gv] 64) = Y := ⟨_, rfl⟩
        rw [hY] at hb3 hrow2
        obtain ⟨ps, hps⟩ : ∃ ps, w2.heap.size = ps := ⟨_, rfl⟩
        rw [hps] at hrow2
        obtain ⟨x0, x1, x2, x3, x4⟩ := HRX.out Y hb3
        have HRY : Hid (∀ W, Below Y.heap.size Y W → W.cell? ⟨ps, 1, none⟩ = some (.int .i64 nm) ∧ W.cell? ⟨ps, 2, none⟩ = some (.int .i64 tk) ∧ W.cell? ⟨ps, 3, none⟩ = some (.int .i64 gv)) := fun W hW => by
          have hr := (hW.block ps (Array.getElem?_eq_some_iff.1 hrow2).1).trans hrow2
          exact ⟨cell_of_row _ _ 1 _ _ _ hr, cell_of_row _ _ 2 _ _ _ hr, cell_of_row _ _ 3 _ _ _ hr⟩
        obtain ⟨y1, y2, y3⟩ := HRY.out Y (Below.refl _ _)
        have HBY := Lib.hid (next_below' HBX.out hb3)
        clear hb2 hb3 hrow2
        go_wp2_with fail
        go_at_call 37
        refine (HFO.out _).mono ?_
        rintro e w3 ⟨rfl, hb4⟩
        obtain ⟨y1, y2, y3⟩ := HRY.out w3 hb4
        have HB4 := Lib.hid (next_below' HBY.out hb4)
        clear hb4 hX hpb hY hps x0 x1 x2 x3 x4
        cases hfo : formO o with
        | false =>
          have hres : checkP l = 4 := by
            have h7 : chkGo l 0 = 4 := by rw [HCH2.out, if_pos hfo]
            rw [HG.out (by rw [h7]; decide), h7]
          have HRS := Lib.hid hres
          clear hfo hres
          go_wp2_with fail
          go_ret
          exact ⟨by rw [HRS.out]; rfl, HB4.out⟩
        | true =>
          have hch3 := HCH2.out
          rw [if_neg (by rw [hfo]; simp)] at hch3
          have HCH3 := Lib.hid hch3
          clear hfo hch3
          by_cases hst : hh < tk
          · have hres : checkP l = 5 := by
              have h7 : chkGo l 0 = 5 := by rw [HCH3.out, if_pos hst]
              rw [HG.out (by rw [h7]; decide), h7]
            have HRS := Lib.hid hres
            clear hres
            go_wp2_with fail
            go_ret
            exact ⟨by rw [HRS.out]; rfl, HB4.out⟩
          · have hch4 := HCH3.out
            rw [if_neg hst] at hch4
            have HCH4 := Lib.hid hch4
            have w1 : IntKind.i64.wrap (gv - tk) = gv - tk := IntWalk.i64_in _ (by omega)
            obtain ⟨hn, hhn⟩ : ∃ hn, hh + gv - tk = hn := ⟨_, rfl⟩
            have w2 : IntKind.i64.wrap (hh + (gv - tk)) = hn := by rw [IntWalk.i64_in _ (by omega)]; omega
            rw [hhn] at HCH4
            have hn0 : 0 ≤ hn := by omega
            clear hch4 hhn
            by_cases hbig : 16 < hn
            · have hres : checkP l = 2 := by
                have h7 : chkGo l 0 = 2 := by rw [HCH4.out, if_pos hbig]
                rw [HG.out (by rw [h7]; decide), h7]
              have HRS := Lib.hid hres
              clear hres
              go_wp2_with fail
              go_ret
              exact ⟨by rw [HRS.out]; rfl, HB4.out⟩
            · have hnx : Hid (chkGo l 0 = chkGo (l.drop (k + 1)) hn) := by show _ = _; rw [HCH4.out, if_neg hbig]
              go_wp2_with fail
              go_roundw
              case rel => exact ⟨k + 1, hn, by omega, by go_num, rfl, hn0, by omega, hnx.out, HB4.out⟩
              case measure => simp [intOf]; omega
    · obtain rfl : k = n := by omega
      have hz : chkGo l 0 = 0 := by rw [HC.out, List.drop_of_length_le (by rw [HN.out]; exact Nat.le_refl _)]; rfl
      have hres := HZ.out hz
      have HRD := Lib.hid (reads_any ad k cap l wr (H.out.below HB.out) hn)
      obtain ⟨a, ha⟩ : ∃ a, (readsP l).length = a := ⟨_, rfl⟩
      obtain ⟨b, hb⟩ : ∃ b, (namesP l).length = b := ⟨_, rfl⟩
      rw [ha, hb] at hres
      have HRES := Lib.hid hres
      have HA := Lib.hid ha
      have HBB := Lib.hid hb
      clear hz hres ha hb
      go_wp2_with fail
      go_at_call 14
      refine (HRD.out).mono ?_
      rintro e w1 ⟨v, rfl, hown, hb1⟩
      obtain ⟨av, cv, rfl, _⟩ := Rd.of_own hown
      rw [HA.out]
      have HB1 := Lib.hid (next_below' HB.out hb1)
      clear hown hb1
      by_cases h16 : 16 < a
      · have d1 : decide ((16 : Int) < (a : Int)) = true := decide_eq_true (by omega)
        have hr3 : checkP l = 3 := by rw [HRES.out, if_pos (.inl h16)]
        have HRS := Lib.hid hr3
        clear hr3 h16
        go_wp2_with fail
        go_ret
        exact ⟨by rw [HRS.out]; rfl, HB1.out⟩
      · have d1 : decide ((16 : Int) < (a : Int)) = false := decide_eq_false (by omega)
        have HRN := Lib.hid (names_any ad k cap l w1 (H.out.below HB1.out) hn)
        go_wp2_with fail
        go_at_call 15
        refine (HRN.out).mono ?_
        rintro e w2 ⟨v, rfl, hown, hb2⟩
        obtain ⟨av2, cv2, rfl, _⟩ := Rd.of_own hown
        rw [HBB.out]
        have HB2 := Lib.hid (next_below' HB1.out hb2)
        clear hown hb2
        by_cases h17 : 16 < b
        · have d2 : decide ((16 : Int) < (b : Int)) = true := decide_eq_true (by omega)
          have hr3 : checkP l = 3 := by rw [HRES.out, if_pos (.inr h17)]
          have HRS := Lib.hid hr3
          clear hr3
          go_wp2_with fail
          go_ret
          exact ⟨by rw [HRS.out]; rfl, HB2.out⟩
        · have d2 : decide ((16 : Int) < (b : Int)) = false := decide_eq_false (by omega)
          have hr3 : checkP l = 0 := by rw [HRES.out, if_neg (fun h => h.elim h16 h17)]
          have HRS := Lib.hid hr3
          clear hr3
          go_wp2_with fail
          go_ret
          exact ⟨by rw [HRS.out]; rfl, HB2.out⟩
end Go.Proofs.YtalpbphfmelhhaaGreatDoor
