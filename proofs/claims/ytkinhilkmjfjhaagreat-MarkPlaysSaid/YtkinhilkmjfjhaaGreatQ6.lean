/-
  slices.Contains of texts; what Save of a mark does; the program's Save.
-/
import Derived.Test.YtkinhilkmjfjhaaGreatQ5
import Derived.Test.YtkinhilkmjfjhaaGreatEY
namespace Go.Proofs.YtkinhilkmjfjhaaGreat
open Go.RowKit Go.Maps Go.Sort
set_option maxRecDepth 100000
attribute [local go_sem] bs_size bs_toList

theorem enc_bs (l : List UInt8) : encStr l = .string (bs l) := rfl
def idxI (n : List UInt8) (l : List (List UInt8)) : Int := match l.findIdx? (fun f => f == n) with | some i => (i : Nat) | none => -1
theorem idxI_hit {n : List UInt8} {l : List (List UInt8)} {k : Nat} {f : List UInt8} (h : ∀ g ∈ l.take k, g ≠ n) (hk : l[k]? = some f) (hf : f = n) : idxI n l = (k : Nat) := by
  have : l.findIdx? (fun f => f == n) = some k := by
    obtain ⟨hlt, he⟩ := List.getElem?_eq_some_iff.1 hk
    rw [List.findIdx?_eq_some_iff_getElem]
    refine ⟨hlt, by rw [he]; simpa using hf, fun j hj => ?_⟩
    have := h l[j] (List.mem_of_getElem? (i := j) (by rw [List.getElem?_take, if_pos hj]; exact List.getElem?_eq_getElem _))
    simpa using this
  unfold idxI; rw [this]
theorem idxI_miss {n : List UInt8} {l : List (List UInt8)} (h : ∀ g ∈ l, g ≠ n) : idxI n l = -1 := by
  have : l.findIdx? (fun f => f == n) = none := List.findIdx?_eq_none_iff.2 fun g hg => by simpa using h g hg
  unfold idxI; rw [this]
theorem idxI_mem (n : List UInt8) (l : List (List UInt8)) : decide (0 ≤ idxI n l) = decide (n ∈ l) := by
  unfold idxI
  cases h : l.findIdx? (fun f => f == n) with
  | none =>
    have := List.findIdx?_eq_none_iff.1 h
    have hn : n ∉ l := fun hm => by have := this n hm; simp at this
    simp [hn]
  | some k =>
    rw [List.findIdx?_eq_some_iff_getElem] at h
    obtain ⟨hlt, he, _⟩ := h
    have : n ∈ l := by have e : l[k] = n := by simpa using he
                       rw [← e]; exact List.getElem_mem _
    simp [this]
theorem index_any (a : Option Addr) (cap : Nat) (l : List (List UInt8)) (n : List UInt8) (w : World) (h : Rd w a l.length cap 1 (l.map encStr)) :
    Calls Tryz.prog 64 #[.slice a l.length cap, .string (bs n)] w fun e w' => e = .returned (.int .i64 (idxI n l)) ∧ w = w' := by
  have hm6 : l.length ≤ 9223372036854775807 := Nat.le_trans h.1 h.2.1
  obtain ⟨m, hm⟩ : ∃ m, l.length = m := ⟨_, rfl⟩
  rw [hm] at h hm6 ⊢
  have HR := Lib.hid h
  have HM := Lib.hid hm
  clear h hm
  go_enter Tryz.func64, Tryz.ntmps64
  go_wp2
  go_loopw [5, 8] (fun _ i wr => ∃ k : Nat, k ≤ m ∧ i = .int .i64 k ∧ w = wr ∧ Hid (∀ g ∈ l.take k, g ≠ n)) (fun _ i _ => m - (intOf i).toNat)
  case atStart => exact ⟨0, Nat.zero_le _, rfl, rfl, fun g hg => by simp at hg⟩
  case round =>
    obtain ⟨k, hk, rfl, rfl, HT⟩ := hrel
    by_cases hlt : k < m
    · obtain ⟨f, hf⟩ : ∃ f, l[k]? = some f := ⟨_, List.getElem?_eq_getElem (by have := HM.out; omega)⟩
      obtain ⟨b, off, rfl, _, hc⟩ := HR.out.at (by omega)
      have q1 : w.cell? ⟨b, off + k, none⟩ = some (.string (bs f)) := hc k _ (by rw [List.getElem?_map, hf]; rfl)
      have HF := Lib.hid hf
      clear hf hc
      by_cases hn : f = n
      · have e1 : (n == f) = true := by simpa using hn.symm
        have hres := Lib.hid (idxI_hit HT.out HF.out hn)
        clear hn
        go_wp2
        go_ret
        exact ⟨by rw [hres.out]; rfl, rfl⟩
      · have e1 : (n == f) = false := by simpa using fun e => hn e.symm
        have HT2 : Hid (∀ g ∈ l.take (k + 1), g ≠ n) := fun g hg => by
          rw [List.take_add_one, HF.out] at hg
          rcases List.mem_append.1 hg with h1 | h1
          · exact HT.out g h1
          · simp at h1; subst h1; exact hn
        clear hn
        go_wp2
        go_roundw
        case rel => exact ⟨k + 1, by omega, by go_num, trivial, HT2.out⟩
        case measure => simp [intOf]; omega
    · obtain rfl : k = m := by omega
      have hres : Hid (idxI n l = -1) := idxI_miss fun g hg => HT.out g (by rw [List.take_of_length_le (by rw [HM.out]; omega)]; exact hg)
      go_wp2
      go_ret
      exact ⟨by rw [hres.out]; rfl, rfl⟩
theorem contains_any (a : Option Addr) (cap : Nat) (l : List (List UInt8)) (n : List UInt8) (w : World) (h : Rd w a l.length cap 1 (l.map encStr)) :
    Calls Tryz.prog 20 #[.slice a l.length cap, .string (bs n)] w fun e w' => e = .returned (.bool (decide (n ∈ l))) ∧ w = w' := by
  have HC := Lib.hid (index_any a cap l n w h)
  have HI := Lib.hid (idxI_mem n l)
  clear h
  go_enter Tryz.func20, Tryz.ntmps20
  go_wp2_with fail
  go_at_call 64
  refine (HC.out).mono ?_
  rintro e w1 ⟨rfl, rfl⟩
  go_wp2
  go_ret
  exact ⟨by rw [← HI.out]; rfl, rfl⟩

/-! ### Save -/
def sv5 (r : DS × Int) : DS × Int := if r.2 ≠ 0 then r else renameS r.1 nmF nmM
def sv4 (r : DS × Int) : DS × Int := if r.2 ≠ 0 then r else sv5 (syncS r.1 nmF)
def sv3 (b : List UInt8) (r : DS × Int) : DS × Int := if r.2 ≠ 0 then r else sv4 (appendS r.1 nmF b)
def sv2 (b : List UInt8) (r : DS × Int) : DS × Int := if r.2 ≠ 0 then r else sv3 b (createS r.1 nmF)
def saveS (s : DS) (m : Mk) : DS × Int := if s.dn then (s, 12) else if mayM m = false then (s, 4) else sv2 (frameOf (encM m)) (if (getF nmF s.fs).isSome then removeS s nmF else (s, 0))
theorem mem_names (n : List UInt8) (l : List Fl) : decide (n ∈ l.map Fl.nm) = (getF n l).isSome := by
  cases h : getF n l with
  | none =>
    have := getF_none h
    have hn : n ∉ l.map Fl.nm := fun hm => by obtain ⟨f, hf, e⟩ := List.mem_map.1 hm; exact this f hf e
    simpa using hn
  | some f =>
    obtain ⟨h1, h2⟩ := getF_some h
    have : n ∈ l.map Fl.nm := by rw [← h2]; exact List.mem_map_of_mem h1
    simpa using this
theorem Done.step {B B' : Int} {w w1 w2 w3 : World} {d : Nat} {S : Nat → Prop} {s s' : DS} (h : Done B w d S s w1) (hb : Below w1.heap.size w1 w2) (k : Done B' w2 d (Sx S w w1) s' w3) : Done B' w d S s' w3 := by
  obtain ⟨h1, h2⟩ := h
  obtain ⟨k1, k2⟩ := k
  have e1 := h2.size
  have e2 := hb.size
  have e3 := k2.size
  refine ⟨k1.mono (Int.le_refl _) (fun j hj => ?_) (fun j hj => ?_), ?_⟩
  · rcases hj with hj | hj
    · rcases hj with hj | hj
      · exact .inl hj
      · exact .inr ⟨by omega, by omega⟩
    · exact .inr ⟨by omega, by omega⟩
  · rcases hj with hj | hj
    · have := h1.lt j (.inl hj); omega
    · omega
  · refine (h2.trans (Fr.of_new hb)).trans' k2 (fun _ _ h => h) fun j hj hs => ?_
    rcases hs with hs | hs
    · exact hs
    · omega
theorem Done.up {B B' : Int} (hB : B ≤ B') {w w1 : World} {d : Nat} {S : Nat → Prop} {s : DS} (h : Done B w d S s w1) : Done B' w d S s w1 := ⟨h.1.mono hB (fun _ h => h) h.1.lt, h.2⟩
theorem RdT.keep {S : Nat → Prop} {w w' : World} {a : Option Addr} {cap : Nat} {ts : List (Int × Int)} (h : RdT w a cap ts) (hf : Fr S w w') (hk : BlkIn a ts.length fun b => ¬ S b) : RdT w' a cap ts := Rd.keep0 h hf hk
theorem hn20 {x _y : List UInt8} (hx : x = nmF ∨ x = nmM) : x.length ≤ 9223372036854775807 := by rcases hx with rfl | rfl <;> decide
set_option maxHeartbeats 4000000 in
theorem save_any (d : Nat) (S : Nat → Prop) (B : Int) (hB : B < 999999999000) (s : DS) (m : Mk) (a : Option Addr) (cap : Nat) (w : World) (h : DkS B w d S s) (ht : RdT w a cap m.ts) (hta : BlkIn a m.ts.length fun b => ¬ S b) :
    Calls Tryz.prog 7 #[.pointer (some ⟨d, 0, none⟩), mkV m (.slice a m.ts.length cap)] w fun e w' => e = .returned (.int .i64 (saveS s m).2) ∧ Done (B + 5) w d S (saveS s m).1 w' := by
  obtain ⟨n, hn⟩ : ∃ n, m.ts.length = n := ⟨_, rfl⟩
  rw [hn] at hta ⊢
  obtain ⟨W, hW, hbw, hsz, c0, c1, c2, c3⟩ := mkAt w m (.slice a n cap) 35
  have HFW : Hid (Fr S w W) := Fr.of_new hbw
  have HD := Lib.hid (h.below hbw)
  have HT := Lib.hid (ht.below hbw)
  have HTA := Lib.hid hta
  have HN := Lib.hid hn
  have HNS : Hid (¬ S w.heap.size) := fun e => by have := h.lt _ e; omega
  have hW' : w.alloc (.cells #[.int .i64 m.wall, .int .i64 m.logi, .int .i64 m.node, .slice a n cap] 35) = W := hW.symm
  have HLT : Hid (w.heap.size < W.heap.size) := by show _ < _; omega
  have HSAME : Hid (Done B W d S s W) := Done.refl HD.out
  clear h ht hta hn hbw hW hsz
  go_enter Tryz.func7, Tryz.ntmps7
  go_wp2_with fail
  go_at_call 19
  refine (down_any d S B s W HD.out).mono ?_
  rintro e w1 ⟨rfl, rfl⟩
  cases hdn : s.dn with
  | true =>
    have hres : Hid (saveS s m = (s, 12)) := by show _ = _; unfold saveS; rw [hdn]; rfl
    go_wp2_with fail
    go_ret
    rw [hres.out]
    exact ⟨rfl, Done.trans0 HFW.out (HSAME.out.up (by omega))⟩
  | false =>
  have HDN := Lib.hid hdn
  clear hdn
  go_wp2_with fail
  go_at_call 10
  have hmc := may_any m a cap W HT.out
  rw [HN.out] at hmc
  refine hmc.mono ?_
  clear hmc
  rintro e w2 ⟨rfl, hb2⟩
  cases hmay : mayM m with
  | false =>
    have hres : Hid (saveS s m = (s, 4)) := by show _ = _; unfold saveS; rw [HDN.out, hmay]; rfl
    have HD2 := Lib.hid (Done.trans0 HFW.out ((HSAME.out.up (B' := B + 5) (by omega)).new hb2))
    clear hb2 hmay
    go_wp2_with fail
    go_ret
    rw [hres.out]
    exact ⟨rfl, HD2.out⟩
  | true =>
  have HMAY := Lib.hid hmay
  have HB2 := Lib.hid hb2
  have hsv : saveS s m = sv2 (frameOf (encM m)) (if (getF nmF s.fs).isSome then removeS s nmF else (s, 0)) := by unfold saveS; rw [HDN.out, hmay]; rfl
  have HSV := Lib.hid hsv
  clear hmay hb2 hsv
  go_wp2_with fail
  go_at_call 21
  refine (list_any d S B s w2 (HD.out.below HB2.out)).mono ?_
  rintro e w3 ⟨v, rfl, ho3, hb3⟩
  obtain ⟨al, cl, rfl, hrl⟩ := Rd.of_own ho3
  have HB3 := Lib.hid (HB2.out.trans (hb3.mono HB2.out.size))
  have hcc := contains_any al cl _ nmF w3 hrl
  rw [mem_names, List.length_map] at hcc
  have HCC := Lib.hid hcc
  clear ho3 hb3 hrl hcc HB2
  go_wp2_with fail
  go_at_call 20
  refine (HCC.out).mono ?_
  clear HCC
  rintro e w4 ⟨rfl, rfl⟩
  cases hg : (getF nmF s.fs).isSome with
  | true =>
    rw [hg] at HSV
    have HSV : Hid (saveS s m = sv2 (frameOf (encM m)) (removeS s nmF)) := HSV.out
    go_wp2_with fail
    go_at_call 22
    refine (remove_any d S B (by omega) s nmF (by decide) w3 (HD.out.below HB3.out)).mono ?_
    rintro e w5 ⟨rfl, hd5⟩
    have hd5 := Done.trans0 (Fr.of_new (S := S) HB3.out) hd5
    obtain ⟨r0, hr0⟩ : ∃ r0, removeS s nmF = r0 := ⟨_, rfl⟩
    rw [hr0] at hd5 HSV ⊢
    have HD5 := Lib.hid hd5
    clear hd5 hr0 HB3
    by_cases h0 : r0.2 = 0
    case neg =>
      have e0 : (r0.2 != 0) = true := by simpa using h0
      have hres : Hid (saveS s m = r0) := HSV.out.trans (if_pos h0)
      go_wp2_with fail
      go_ret
      rw [hres.out]
      exact ⟨rfl, Done.trans0 HFW.out (HD5.out.up (by omega))⟩
    case pos =>
    have e0 : (r0.2 != 0) = false := by simpa using h0
    obtain ⟨s0, hs0⟩ : ∃ s0, r0.1 = s0 := ⟨_, rfl⟩
    have HSV : Hid (saveS s m = sv3 (frameOf (encM m)) (createS s0 nmF)) := by show _ = _; rw [HSV.out, ← hs0]; exact if_neg (fun h => h h0)
    rw [hs0] at HD5
    clear h0 hs0
    go_wp2_with fail
    go_at_call 23
    refine (create_any d (Sx S W w5) (B + 1) (by omega) s0 nmF (by decide) w5 HD5.out.1).mono ?_
    rintro e w6 ⟨rfl, hd6⟩
    have hd6 := HD5.out.step (Below.refl _ _) hd6
    obtain ⟨r1, hr1⟩ : ∃ r1, createS s0 nmF = r1 := ⟨_, rfl⟩
    rw [hr1] at hd6 HSV ⊢
    have HD6 := Lib.hid hd6
    clear hd6 hr1 HD5
    by_cases h1 : r1.2 = 0
    case neg =>
      have e1 : (r1.2 != 0) = true := by simpa using h1
      have hres : Hid (saveS s m = r1) := HSV.out.trans (if_pos h1)
      go_wp2_with fail
      go_ret
      rw [hres.out]
      exact ⟨rfl, Done.trans0 HFW.out (HD6.out.up (by omega))⟩
    case pos =>
    have e1 : (r1.2 != 0) = false := by simpa using h1
    have HSV : Hid (saveS s m = sv4 (appendS r1.1 nmF (frameOf (encM m)))) := HSV.out.trans (if_neg (fun h => h h1))
    have k0 := (HD6.out.2.cell (p := ⟨w.heap.size, 0, none⟩) HLT.out HNS.out).trans c0
    have k1 := (HD6.out.2.cell (p := ⟨w.heap.size, 1, none⟩) HLT.out HNS.out).trans c1
    have k2 := (HD6.out.2.cell (p := ⟨w.heap.size, 2, none⟩) HLT.out HNS.out).trans c2
    have k3 := (HD6.out.2.cell (p := ⟨w.heap.size, 3, none⟩) HLT.out HNS.out).trans c3
    have HT6 := Lib.hid (HT.out.keep HD6.out.2 (by rw [HN.out]; exact HTA.out))
    clear h1 c0 c1 c2 c3
    go_wp2_with fail
    go_at_call 25
    have hec := encode_any m HMAY.out a cap w6 HT6.out
    rw [HN.out] at hec
    refine hec.mono ?_
    clear hec
    rintro e w7 ⟨v7, rfl, ho7, hb7⟩
    obtain ⟨a7, c7, rfl, hr7⟩ := ho7.rd
    have HR7 := Lib.hid hr7
    have HB7 := Lib.hid hb7
    clear ho7 hr7 hb7 k0 k1 k2 k3
    go_wp2_with fail
    go_at_call 24
    refine (frame_any a7 _ c7 (encM m) w7 HR7.out).mono ?_
    rintro e w8 ⟨v8, hb8, hfe⟩
    obtain ⟨_, rfl, ho8⟩ := hfe.resolve_right (fun h => h.1 (by have := encM_len HMAY.out; omega))
    have hbk : ∀ k, v8.ownBlock = some k → ¬ Sx S W w6 k := fun k hk e => by
      have h1 := (World.ownsRow.lt ho8 k hk).1
      have h2 := HD6.out.1.lt k e
      have h3 := HB7.out.size
      omega
    obtain ⟨a8, c8, rfl, hr8⟩ := ho8.rd
    have HR8 := Lib.hid hr8
    have HBK : Hid (∀ k, blk a8 = some k → ¬ Sx S W w6 k) := fun k hk => hbk k (by rw [ownBlock_sl]; exact hk)
    have HB8 := Lib.hid (HB7.out.trans (hb8.mono HB7.out.size))
    obtain ⟨F, hF⟩ : ∃ F, frameOf (encM m) = F := ⟨_, rfl⟩
    have hFl : F.length ≤ 292 := by rw [← hF, frameOf_length]; have := encM_len HMAY.out; omega
    rw [hF] at HSV HR8 ⊢
    clear ho8 hr8 hbk hb8 hfe HR7 HB7 hF
    go_wp2_with fail
    go_at_call 26
    refine (append_any d (Sx S W w6) (B + 1 + 1) (by omega) r1.1 nmF (by decide) a8 c8 F (by omega) w8 (HD6.out.1.below HB8.out) HR8.out HBK.out).mono ?_
    rintro e w9 ⟨rfl, hd9⟩
    have hd9 := HD6.out.step HB8.out hd9
    obtain ⟨r2, hr2⟩ : ∃ r2, appendS r1.1 nmF F = r2 := ⟨_, rfl⟩
    rw [hr2] at hd9 HSV ⊢
    have HD9 := Lib.hid hd9
    clear hd9 hr2 HD6 HB8 HR8 HBK hFl HT6
    by_cases h2 : r2.2 = 0
    case neg =>
      have e2 : (r2.2 != 0) = true := by simpa using h2
      have hres : Hid (saveS s m = r2) := HSV.out.trans (if_pos h2)
      go_wp2_with fail
      go_ret
      rw [hres.out]
      exact ⟨rfl, Done.trans0 HFW.out (HD9.out.up (by omega))⟩
    case pos =>
    have e2 : (r2.2 != 0) = false := by simpa using h2
    have HSV : Hid (saveS s m = sv5 (syncS r2.1 nmF)) := HSV.out.trans (if_neg (fun h => h h2))
    clear h2
    go_wp2_with fail
    go_at_call 27
    refine (sync_any d (Sx S W w9) (B + 1 + 1 + 1) (by omega) r2.1 nmF (by decide) w9 HD9.out.1).mono ?_
    rintro e wA ⟨rfl, hdA⟩
    have hdA := HD9.out.step (Below.refl _ _) hdA
    obtain ⟨r3, hr3⟩ : ∃ r3, syncS r2.1 nmF = r3 := ⟨_, rfl⟩
    rw [hr3] at hdA HSV ⊢
    have HDA := Lib.hid hdA
    clear hdA hr3 HD9
    by_cases h3 : r3.2 = 0
    case neg =>
      have e3 : (r3.2 != 0) = true := by simpa using h3
      have hres : Hid (saveS s m = r3) := HSV.out.trans (if_pos h3)
      go_wp2_with fail
      go_ret
      rw [hres.out]
      exact ⟨rfl, Done.trans0 HFW.out (HDA.out.up (by omega))⟩
    case pos =>
    have e3 : (r3.2 != 0) = false := by simpa using h3
    have HSV : Hid (saveS s m = renameS r3.1 nmF nmM) := HSV.out.trans (if_neg (fun h => h h3))
    clear h3
    go_wp2_with fail
    go_at_call 28
    refine (rename_any d (Sx S W wA) (B + 1 + 1 + 1 + 1) (by omega) r3.1 nmF nmM (by decide) (by decide) wA HDA.out.1).mono ?_
    rintro e wB ⟨rfl, hdB⟩
    have hdB := HDA.out.step (Below.refl _ _) hdB
    rw [← HSV.out] at hdB ⊢
    have HDB := Lib.hid hdB
    clear hdB HDA
    go_wp2_with fail
    go_ret
    exact ⟨rfl, Done.trans0 HFW.out (HDB.out.up (by omega))⟩
  | false =>
    rw [hg] at HSV
    obtain ⟨s0, hs0⟩ : ∃ s0, s = s0 := ⟨_, rfl⟩
    have HSV : Hid (saveS s m = sv3 (frameOf (encM m)) (createS s0 nmF)) := by show _ = _; rw [← hs0]; exact HSV.out
    have hd5 := (HSAME.out.up (B' := B + 1) (by omega)).new HB3.out
    rw [hs0] at hd5
    have HD5 := Lib.hid hd5
    clear hd5 hs0 hg
    go_wp2_with fail
    go_at_call 23
    refine (create_any d (Sx S W w3) (B + 1) (by omega) s0 nmF (by decide) w3 HD5.out.1).mono ?_
    rintro e w6 ⟨rfl, hd6⟩
    have hd6 := HD5.out.step (Below.refl _ _) hd6
    obtain ⟨r1, hr1⟩ : ∃ r1, createS s0 nmF = r1 := ⟨_, rfl⟩
    rw [hr1] at hd6 HSV ⊢
    have HD6 := Lib.hid hd6
    clear hd6 hr1 HD5
    by_cases h1 : r1.2 = 0
    case neg =>
      have e1 : (r1.2 != 0) = true := by simpa using h1
      have hres : Hid (saveS s m = r1) := HSV.out.trans (if_pos h1)
      go_wp2_with fail
      go_ret
      rw [hres.out]
      exact ⟨rfl, Done.trans0 HFW.out (HD6.out.up (by omega))⟩
    case pos =>
    have e1 : (r1.2 != 0) = false := by simpa using h1
    have HSV : Hid (saveS s m = sv4 (appendS r1.1 nmF (frameOf (encM m)))) := HSV.out.trans (if_neg (fun h => h h1))
    have k0 := (HD6.out.2.cell (p := ⟨w.heap.size, 0, none⟩) HLT.out HNS.out).trans c0
    have k1 := (HD6.out.2.cell (p := ⟨w.heap.size, 1, none⟩) HLT.out HNS.out).trans c1
    have k2 := (HD6.out.2.cell (p := ⟨w.heap.size, 2, none⟩) HLT.out HNS.out).trans c2
    have k3 := (HD6.out.2.cell (p := ⟨w.heap.size, 3, none⟩) HLT.out HNS.out).trans c3
    have HT6 := Lib.hid (HT.out.keep HD6.out.2 (by rw [HN.out]; exact HTA.out))
    clear h1 c0 c1 c2 c3
    go_wp2_with fail
    go_at_call 25
    have hec := encode_any m HMAY.out a cap w6 HT6.out
    rw [HN.out] at hec
    refine hec.mono ?_
    clear hec
    rintro e w7 ⟨v7, rfl, ho7, hb7⟩
    obtain ⟨a7, c7, rfl, hr7⟩ := ho7.rd
    have HR7 := Lib.hid hr7
    have HB7 := Lib.hid hb7
    clear ho7 hr7 hb7 k0 k1 k2 k3
    go_wp2_with fail
    go_at_call 24
    refine (frame_any a7 _ c7 (encM m) w7 HR7.out).mono ?_
    rintro e w8 ⟨v8, hb8, hfe⟩
    obtain ⟨_, rfl, ho8⟩ := hfe.resolve_right (fun h => h.1 (by have := encM_len HMAY.out; omega))
    have hbk : ∀ k, v8.ownBlock = some k → ¬ Sx S W w6 k := fun k hk e => by
      have h1 := (World.ownsRow.lt ho8 k hk).1
      have h2 := HD6.out.1.lt k e
      have h3 := HB7.out.size
      omega
    obtain ⟨a8, c8, rfl, hr8⟩ := ho8.rd
    have HR8 := Lib.hid hr8
    have HBK : Hid (∀ k, blk a8 = some k → ¬ Sx S W w6 k) := fun k hk => hbk k (by rw [ownBlock_sl]; exact hk)
    have HB8 := Lib.hid (HB7.out.trans (hb8.mono HB7.out.size))
    obtain ⟨F, hF⟩ : ∃ F, frameOf (encM m) = F := ⟨_, rfl⟩
    have hFl : F.length ≤ 292 := by rw [← hF, frameOf_length]; have := encM_len HMAY.out; omega
    rw [hF] at HSV HR8 ⊢
    clear ho8 hr8 hbk hb8 hfe HR7 HB7 hF
    go_wp2_with fail
    go_at_call 26
    refine (append_any d (Sx S W w6) (B + 1 + 1) (by omega) r1.1 nmF (by decide) a8 c8 F (by omega) w8 (HD6.out.1.below HB8.out) HR8.out HBK.out).mono ?_
    rintro e w9 ⟨rfl, hd9⟩
    have hd9 := HD6.out.step HB8.out hd9
    obtain ⟨r2, hr2⟩ : ∃ r2, appendS r1.1 nmF F = r2 := ⟨_, rfl⟩
    rw [hr2] at hd9 HSV ⊢
    have HD9 := Lib.hid hd9
    clear hd9 hr2 HD6 HB8 HR8 HBK hFl HT6
    by_cases h2 : r2.2 = 0
    case neg =>
      have e2 : (r2.2 != 0) = true := by simpa using h2
      have hres : Hid (saveS s m = r2) := HSV.out.trans (if_pos h2)
      go_wp2_with fail
      go_ret
      rw [hres.out]
      exact ⟨rfl, Done.trans0 HFW.out (HD9.out.up (by omega))⟩
    case pos =>
    have e2 : (r2.2 != 0) = false := by simpa using h2
    have HSV : Hid (saveS s m = sv5 (syncS r2.1 nmF)) := HSV.out.trans (if_neg (fun h => h h2))
    clear h2
    go_wp2_with fail
    go_at_call 27
    refine (sync_any d (Sx S W w9) (B + 1 + 1 + 1) (by omega) r2.1 nmF (by decide) w9 HD9.out.1).mono ?_
    rintro e wA ⟨rfl, hdA⟩
    have hdA := HD9.out.step (Below.refl _ _) hdA
    obtain ⟨r3, hr3⟩ : ∃ r3, syncS r2.1 nmF = r3 := ⟨_, rfl⟩
    rw [hr3] at hdA HSV ⊢
    have HDA := Lib.hid hdA
    clear hdA hr3 HD9
    by_cases h3 : r3.2 = 0
    case neg =>
      have e3 : (r3.2 != 0) = true := by simpa using h3
      have hres : Hid (saveS s m = r3) := HSV.out.trans (if_pos h3)
      go_wp2_with fail
      go_ret
      rw [hres.out]
      exact ⟨rfl, Done.trans0 HFW.out (HDA.out.up (by omega))⟩
    case pos =>
    have e3 : (r3.2 != 0) = false := by simpa using h3
    have HSV : Hid (saveS s m = renameS r3.1 nmF nmM) := HSV.out.trans (if_neg (fun h => h h3))
    clear h3
    go_wp2_with fail
    go_at_call 28
    refine (rename_any d (Sx S W wA) (B + 1 + 1 + 1 + 1) (by omega) r3.1 nmF nmM (by decide) (by decide) wA HDA.out.1).mono ?_
    rintro e wB ⟨rfl, hdB⟩
    have hdB := HDA.out.step (Below.refl _ _) hdB
    rw [← HSV.out] at hdB ⊢
    have HDB := Lib.hid hdB
    clear hdB HDA
    go_wp2_with fail
    go_ret
    exact ⟨rfl, Done.trans0 HFW.out (HDB.out.up (by omega))⟩
end Go.Proofs.YtkinhilkmjfjhaaGreat
