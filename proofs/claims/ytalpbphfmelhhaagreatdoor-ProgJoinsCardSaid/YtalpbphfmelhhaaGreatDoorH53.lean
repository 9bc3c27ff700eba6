/-
  The walk of ProgJoins. Written by a program (lw9.py).
-/
import Derived.Test.YtalpbphfmelhhaaGreatDoorH51
namespace Go.Proofs.YtalpbphfmelhhaaGreatDoor
open Go.RowKit Go.Maps Go.Sort
set_option maxRecDepth 100000
attribute [local go_sem] bs_size bs_get bs_toList frombits tobits run_store_float
theorem opCells_one9 (o : OpP) : ∀ u ∈ opCells o, u.oneCell' = true := by simp [opCells, Value.oneCell']
def SawB (sn : List SnP) (y : List UInt8) : Prop := (sn.find? (fun s => s.key == y)).isNone = false ∧ (seenV sn y).may = true
theorem find_is {sn : List SnP} {y : List UInt8} {j : Nat} {s : SnP} (h0 : (sn.take j).find? (fun s => s.key == y) = none) (h : sn[j]? = some s) (he : (s.key == y) = true) : sn.find? (fun s => s.key == y) = some s := by
  obtain ⟨hl, hg⟩ := List.getElem?_eq_some_iff.1 h
  have hd : sn = sn.take j ++ (s :: sn.drop (j + 1)) := by
    rw [← hg, ← List.drop_eq_getElem_cons hl, List.take_append_drop]
  rw [hd, List.find?_append, h0, Option.none_or, List.find?_cons, he]
theorem saw_at {sn : List SnP} {y : List UInt8} {j : Nat} {s : SnP} (h0 : (sn.take j).find? (fun s => s.key == y) = none) (h : sn[j]? = some s) (he : (s.key == y) = true) : (sn.find? (fun s => s.key == y)).isNone = false ∧ seenV sn y = s.v := by
  have e := find_is h0 h he
  unfold seenV
  rw [e]
  exact ⟨rfl, rfl⟩
theorem starts_saw {p : List OpP} {sn : List SnP} (hc : checkP p = 0) (h : ∀ x ∈ readsP p, SawB sn x) : Starts p sn := by
  refine ⟨hc, ?_, ?_⟩
  · unfold missB
    rw [List.any_eq_false]
    intro k hk
    rw [(h k hk).1]; simp
  · unfold badB
    rw [List.any_eq_false]
    intro k hk
    rw [(h k hk).2]; simp
theorem writes_ok (p : List OpP) (sn : List SnP) : ∀ q ∈ runW p sn, SnOk ⟨q.1, q.2, 0, 0, 0⟩ := fun q hq => by
  obtain ⟨h1, h2⟩ := (run_gen p sn).1 q hq
  obtain ⟨o, _, _, hk, he⟩ := named_mem.1 h1
  refine ⟨?_, ?_⟩
  · show q.1.length ≤ _
    unfold keyB at hk
    have := of_decide_eq_true hk
    rw [← he]; omega
  · show q.2.s.length ≤ _
    have hm : mayB q.2.k q.2.x q.2.s = true := h2
    rcases may_kinds hm with e | e | e
    · rw [e] at hm; rw [(may0 hm).2]; simp
    · rw [e] at hm; rw [(may_one hm).1]; simp
    · rw [e] at hm; have := (may_two hm).2; omega
theorem mg_left {ws xs : List (List UInt8 × Vl)} {x y : Nat} {q : List UInt8 × Vl} (hq : ws[x]? = some q) (h : y = xs.length ∨ ∃ p, xs[y]? = some p ∧ bB q.1 p.1 = true) : mergeW (ws.drop x) (xs.drop y) = q :: mergeW (ws.drop (x + 1)) (xs.drop y) := by
  obtain ⟨hl, hg⟩ := List.getElem?_eq_some_iff.1 hq
  rw [List.drop_eq_getElem_cons hl, hg]
  rcases h with rfl | ⟨p, hp, hb⟩
  · rw [List.drop_length, mg_nil2, mg_nil2]
  · obtain ⟨hl2, hg2⟩ := List.getElem?_eq_some_iff.1 hp
    rw [List.drop_eq_getElem_cons hl2, hg2, mg_cons, if_pos hb]
theorem mg_right {ws xs : List (List UInt8 × Vl)} {x y : Nat} {p : List UInt8 × Vl} (hp : xs[y]? = some p) (h : x = ws.length ∨ ∃ q, ws[x]? = some q ∧ bB q.1 p.1 = false ∧ bB p.1 q.1 = true) : mergeW (ws.drop x) (xs.drop y) = p :: mergeW (ws.drop x) (xs.drop (y + 1)) := by
  obtain ⟨hl, hg⟩ := List.getElem?_eq_some_iff.1 hp
  rw [List.drop_eq_getElem_cons hl, hg]
  rcases h with rfl | ⟨q, hq, h1, h2⟩
  · rw [List.drop_length, mg_nil, mg_nil]
  · obtain ⟨hl2, hg2⟩ := List.getElem?_eq_some_iff.1 hq
    rw [List.drop_eq_getElem_cons hl2, hg2, mg_cons, if_neg (by simp [h1]), if_pos h2]
theorem mg_both {ws xs : List (List UInt8 × Vl)} {x y : Nat} {q p : List UInt8 × Vl} (hq : ws[x]? = some q) (hp : xs[y]? = some p) (h1 : bB q.1 p.1 = false) (h2 : bB p.1 q.1 = false) : mergeW (ws.drop x) (xs.drop y) = p :: mergeW (ws.drop (x + 1)) (xs.drop (y + 1)) := by
  obtain ⟨hl, hg⟩ := List.getElem?_eq_some_iff.1 hp
  obtain ⟨hl2, hg2⟩ := List.getElem?_eq_some_iff.1 hq
  rw [List.drop_eq_getElem_cons hl, hg, List.drop_eq_getElem_cons hl2, hg2, mg_cons, if_neg (by simp [h1]), if_neg (by simp [h2])]
set_option maxHeartbeats 32000000 in
theorem progJoins_walk (a : Option Addr) (n cap : Nat) (l : List OpP) (a2 : Option Addr) (n2 cap2 : Nat) (l2 : List OpP) (b : Option Addr) (m capb : Nat) (sn : List SnP) (w : World) (h : RdOr w a n cap l) (h2 : RdOr w a2 n2 cap2 l2) (h1 : RdS w b m capb sn) (hT : Laid w) : Calls Tryz.prog 8 #[.slice a n cap, .slice a2 n2 cap2, .slice b m capb] w fun e w' => e = .returned (.bool true) ∧ Below w.heap.size w w' := by
  have HK := Lib.hid (Kp.start hT)
  clear hT
  obtain rfl : n = l.length := h.rd.1
  obtain rfl : n2 = l2.length := h2.rd.1
  obtain rfl : m = sn.length := h1.rd.1
  have HR := Lib.hid h
  have HR2 := Lib.hid h2
  have HS := Lib.hid h1
  clear h h1 h2
  go_enter Tryz.func8, Tryz.ntmps8
  go_wp2_with fail
  go_at_call 11
  refine (first9_any _ HK.out.laid).mono ?_
  rintro e W1 ⟨rfl, hb⟩
  replace HK := Lib.hid (HK.out.next hb)
  replace HR := Lib.hid (HR.out.below hb)
  replace HR2 := Lib.hid (HR2.out.below hb)
  replace HS := Lib.hid (HS.out.below hb)
  clear hb
  go_wp2_with fail
  go_at_call 12
  refine (fewO_any a l.length cap l _ HR.out).mono ?_
  rintro e W2 ⟨b, rfl, hfew, hb⟩
  replace HK := Lib.hid (HK.out.next hb)
  replace HR := Lib.hid (HR.out.below hb)
  replace HR2 := Lib.hid (HR2.out.below hb)
  replace HS := Lib.hid (HS.out.below hb)
  clear hb
  cases b with
  | false =>
    clear hfew
    go_wp2_with fail
    go_at_call 11
    refine (first9_any _ HK.out.laid).mono ?_
    rintro e W3 ⟨rfl, hb⟩
    replace HK := Lib.hid (HK.out.next hb)
    replace HR := Lib.hid (HR.out.below hb)
    replace HR2 := Lib.hid (HR2.out.below hb)
    replace HS := Lib.hid (HS.out.below hb)
    clear hb
    go_wp2_with fail
    go_ret
    exact ⟨rfl, HK.out.below⟩
  | true =>
    have HF := Lib.hid (hfew rfl)
    have HP := Lib.hid (HR.out.few HF.out)
    have hn : l.length ≤ 1000 := Nat.le_trans HF.out.1 (by decide)
    clear hfew
    go_wp2_with fail
    go_at_call 12
    refine (fewO_any a2 l2.length cap2 l2 _ HR2.out).mono ?_
    rintro e W4 ⟨b, rfl, hfew, hb⟩
    replace HK := Lib.hid (HK.out.next hb)
    replace HR := Lib.hid (HR.out.below hb)
    replace HR2 := Lib.hid (HR2.out.below hb)
    replace HS := Lib.hid (HS.out.below hb)
    replace HP := Lib.hid (HP.out.below hb)
    clear hb
    cases b with
    | false =>
      clear hfew
      go_wp2_with fail
      go_at_call 11
      refine (first9_any _ HK.out.laid).mono ?_
      rintro e W5 ⟨rfl, hb⟩
      replace HK := Lib.hid (HK.out.next hb)
      replace HR := Lib.hid (HR.out.below hb)
      replace HR2 := Lib.hid (HR2.out.below hb)
      replace HS := Lib.hid (HS.out.below hb)
      replace HP := Lib.hid (HP.out.below hb)
      clear hb
      go_wp2_with fail
      go_ret
      exact ⟨rfl, HK.out.below⟩
    | true =>
      have HF2 := Lib.hid (hfew rfl)
      have HP2 := Lib.hid (HR2.out.few HF2.out)
      have hn : l2.length ≤ 1000 := Nat.le_trans HF2.out.1 (by decide)
      clear hfew
      go_wp2_with fail
      go_at_call 22
      refine (fewSeen_any b sn.length capb sn _ HS.out).mono ?_
      rintro e W6 ⟨b, rfl, hfs, hb⟩
      replace HK := Lib.hid (HK.out.next hb)
      replace HR := Lib.hid (HR.out.below hb)
      replace HR2 := Lib.hid (HR2.out.below hb)
      replace HS := Lib.hid (HS.out.below hb)
      replace HP := Lib.hid (HP.out.below hb)
      replace HP2 := Lib.hid (HP2.out.below hb)
      clear hb
      cases b with
      | false =>
        clear hfs
        go_wp2_with fail
        go_at_call 11
        refine (first9_any _ HK.out.laid).mono ?_
        rintro e W7 ⟨rfl, hb⟩
        replace HK := Lib.hid (HK.out.next hb)
        replace HR := Lib.hid (HR.out.below hb)
        replace HR2 := Lib.hid (HR2.out.below hb)
        replace HS := Lib.hid (HS.out.below hb)
        replace HP := Lib.hid (HP.out.below hb)
        replace HP2 := Lib.hid (HP2.out.below hb)
        clear hb
        go_wp2_with fail
        go_ret
        exact ⟨rfl, HK.out.below⟩
      | true =>
        have hsn : sn.length ≤ 1000 := Nat.le_trans (hfs rfl) (by decide)
        clear hfs
        by_cases h20 : 20 < l.length
        · have d1 : decide ((20 : Int) < (l.length : Int)) = true := decide_eq_true (by omega)
          go_wp2_with fail
          go_at_call 11
          refine (first9_any _ HK.out.laid).mono ?_
          rintro e W8 ⟨rfl, hb⟩
          replace HK := Lib.hid (HK.out.next hb)
          replace HR := Lib.hid (HR.out.below hb)
          replace HR2 := Lib.hid (HR2.out.below hb)
          replace HS := Lib.hid (HS.out.below hb)
          replace HP := Lib.hid (HP.out.below hb)
          replace HP2 := Lib.hid (HP2.out.below hb)
          clear hb
          go_wp2_with fail
          go_ret
          exact ⟨rfl, HK.out.below⟩
        · have dp : decide ((20 : Int) < (l.length : Int)) = false := decide_eq_false (by omega)
          have h20p : l.length ≤ 20 := by omega
          clear h20
          by_cases h20 : 20 < l2.length
          · have d1 : decide ((20 : Int) < (l2.length : Int)) = true := decide_eq_true (by omega)
            go_wp2_with fail
            go_at_call 11
            refine (first9_any _ HK.out.laid).mono ?_
            rintro e W9 ⟨rfl, hb⟩
            replace HK := Lib.hid (HK.out.next hb)
            replace HR := Lib.hid (HR.out.below hb)
            replace HR2 := Lib.hid (HR2.out.below hb)
            replace HS := Lib.hid (HS.out.below hb)
            replace HP := Lib.hid (HP.out.below hb)
            replace HP2 := Lib.hid (HP2.out.below hb)
            clear hb
            go_wp2_with fail
            go_ret
            exact ⟨rfl, HK.out.below⟩
          · have dq : decide ((20 : Int) < (l2.length : Int)) = false := decide_eq_false (by omega)
            have h20q : l2.length ≤ 20 := by omega
            clear h20
            go_wp2_with fail
            go_at_call 13
            refine (copyOps_any a l.length cap l _ HP.out (by omega)).mono ?_
            rintro e W10 ⟨v, rfl, ho, hb⟩
            obtain ⟨ai, ci, hv, _⟩ := OwnO5.rd ho
            subst hv
            have HOA := Lib.hid ho
            have HBA := Lib.hid hb
            have HP2B := Lib.hid (HP2.out.below hb)
            clear ho hb
            go_wp2_with (at_builtin; refine wpList_app SOp rfl (.tmp 50) (.tmp 51) rfl W6.heap.size rfl HOA.out rfl HP2B.out.rd.2 (flat_one opCells_one9 l2) (by omega) (by unfold maxLen; omega) HBA.out.size ?_)
            intro v6 Wq hown6 hb6 _
            have hb := HBA.out.trans hb6
            obtain ⟨both, hbt⟩ : ∃ both, l ++ l2 = both := ⟨_, rfl⟩
            have hbl : both.length = l.length + l2.length := by rw [← hbt, List.length_append]
            have ho6 : OwnO5 Wq W6.heap.size v6 both := by
              show World.ownsRow _ _ _ _ _ _ _
              rw [← hbt, List.length_append, flatE_append]
              exact hown6
            obtain ⟨a6, c6, rfl, hri⟩ := OwnO5.rd ho6
            have HBO : Hid (RdO Wq a6 both.length c6 both) := ⟨hri, fun o ho => by
              rw [← hbt] at ho
              rcases List.mem_append.1 ho with ho | ho
              · exact HP.out.ok o ho
              · exact HP2.out.ok o ho⟩
            have HBT := Lib.hid hbt
            have hbk : both.length ≤ 1000 := by omega
            clear HBA HOA HP2B hown6 hb6 ho6 hri hbt hbl
            replace HK := Lib.hid (HK.out.next hb)
            replace HR := Lib.hid (HR.out.below hb)
            replace HR2 := Lib.hid (HR2.out.below hb)
            replace HS := Lib.hid (HS.out.below hb)
            replace HP := Lib.hid (HP.out.below hb)
            replace HP2 := Lib.hid (HP2.out.below hb)
            clear hb
            obtain ⟨ck, hck⟩ : ∃ ck, checkP l = ck := ⟨_, rfl⟩
            have HC := Lib.hid (check_all a l.length cap l)
            rw [hck] at HC
            have HC1 := Lib.hid hck
            clear hck
            go_wp2_with fail
            go_at_call 16
            refine (HC.out _ HP.out).mono ?_
            rintro e W11 ⟨rfl, hb⟩
            replace HK := Lib.hid (HK.out.next hb)
            replace HR := Lib.hid (HR.out.below hb)
            replace HR2 := Lib.hid (HR2.out.below hb)
            replace HS := Lib.hid (HS.out.below hb)
            replace HP := Lib.hid (HP.out.below hb)
            replace HP2 := Lib.hid (HP2.out.below hb)
            replace HBO := Lib.hid (HBO.out.below hb)
            clear hb
            clear HC
            by_cases hc0 : ck = 0
            case neg =>
              have hc0b : (ck != 0) = true := by simp [hc0]
              clear hc0
              go_wp2_with fail
              go_at_call 11
              refine (first9_any _ HK.out.laid).mono ?_
              rintro e W12 ⟨rfl, hb⟩
              replace HK := Lib.hid (HK.out.next hb)
              replace HR := Lib.hid (HR.out.below hb)
              replace HR2 := Lib.hid (HR2.out.below hb)
              replace HS := Lib.hid (HS.out.below hb)
              replace HP := Lib.hid (HP.out.below hb)
              replace HP2 := Lib.hid (HP2.out.below hb)
              replace HBO := Lib.hid (HBO.out.below hb)
              clear hb
              go_wp2_with fail
              go_ret
              exact ⟨rfl, HK.out.below⟩
            case pos =>
              subst hc0
              obtain ⟨ck, hck⟩ : ∃ ck, checkP l2 = ck := ⟨_, rfl⟩
              have HC := Lib.hid (check_all a2 l2.length cap2 l2)
              rw [hck] at HC
              have HC2 := Lib.hid hck
              clear hck
              go_wp2_with fail
              go_at_call 16
              refine (HC.out _ HP2.out).mono ?_
              rintro e W13 ⟨rfl, hb⟩
              replace HK := Lib.hid (HK.out.next hb)
              replace HR := Lib.hid (HR.out.below hb)
              replace HR2 := Lib.hid (HR2.out.below hb)
              replace HS := Lib.hid (HS.out.below hb)
              replace HP := Lib.hid (HP.out.below hb)
              replace HP2 := Lib.hid (HP2.out.below hb)
              replace HBO := Lib.hid (HBO.out.below hb)
              clear hb
              clear HC
              by_cases hc0 : ck = 0
              case neg =>
                have hc0b : (ck != 0) = true := by simp [hc0]
                clear hc0
                go_wp2_with fail
                go_at_call 11
                refine (first9_any _ HK.out.laid).mono ?_
                rintro e W14 ⟨rfl, hb⟩
                replace HK := Lib.hid (HK.out.next hb)
                replace HR := Lib.hid (HR.out.below hb)
                replace HR2 := Lib.hid (HR2.out.below hb)
                replace HS := Lib.hid (HS.out.below hb)
                replace HP := Lib.hid (HP.out.below hb)
                replace HP2 := Lib.hid (HP2.out.below hb)
                replace HBO := Lib.hid (HBO.out.below hb)
                clear hb
                go_wp2_with fail
                go_ret
                exact ⟨rfl, HK.out.below⟩
              case pos =>
                subst hc0
                obtain ⟨ck, hck⟩ : ∃ ck, checkP both = ck := ⟨_, rfl⟩
                have HC := Lib.hid (check_all a6 both.length c6 both)
                rw [hck] at HC
                have HC3 := Lib.hid hck
                clear hck
                go_wp2_with fail
                go_at_call 16
                refine (HC.out _ HBO.out).mono ?_
                rintro e W15 ⟨rfl, hb⟩
                replace HK := Lib.hid (HK.out.next hb)
                replace HR := Lib.hid (HR.out.below hb)
                replace HR2 := Lib.hid (HR2.out.below hb)
                replace HS := Lib.hid (HS.out.below hb)
                replace HP := Lib.hid (HP.out.below hb)
                replace HP2 := Lib.hid (HP2.out.below hb)
                replace HBO := Lib.hid (HBO.out.below hb)
                clear hb
                clear HC
                by_cases hc0 : ck = 0
                case neg =>
                  have hc0b : (ck != 0) = true := by simp [hc0]
                  clear hc0
                  go_wp2_with fail
                  go_at_call 11
                  refine (first9_any _ HK.out.laid).mono ?_
                  rintro e W16 ⟨rfl, hb⟩
                  replace HK := Lib.hid (HK.out.next hb)
                  replace HR := Lib.hid (HR.out.below hb)
                  replace HR2 := Lib.hid (HR2.out.below hb)
                  replace HS := Lib.hid (HS.out.below hb)
                  replace HP := Lib.hid (HP.out.below hb)
                  replace HP2 := Lib.hid (HP2.out.below hb)
                  replace HBO := Lib.hid (HBO.out.below hb)
                  clear hb
                  go_wp2_with fail
                  go_ret
                  exact ⟨rfl, HK.out.below⟩
                case pos =>
                  subst hc0
                  go_wp2_with fail
                  go_at_call 14
                  refine (reads_any a6 both.length c6 both _ HBO.out (by omega)).mono ?_
                  rintro e W17 ⟨v, rfl, ho, hb⟩
                  obtain ⟨ak, ck, rfl, hrk⟩ := OwnK.rd ho
                  have HKA := Lib.hid hrk
                  clear ho hrk
                  replace HK := Lib.hid (HK.out.next hb)
                  replace HR := Lib.hid (HR.out.below hb)
                  replace HR2 := Lib.hid (HR2.out.below hb)
                  replace HS := Lib.hid (HS.out.below hb)
                  replace HP := Lib.hid (HP.out.below hb)
                  replace HP2 := Lib.hid (HP2.out.below hb)
                  replace HBO := Lib.hid (HBO.out.below hb)
                  clear hb
                  have hrl : (readsP both).length ≤ 1000 := Nat.le_trans (namedP_length 1 1 both) (by omega)
                  obtain ⟨ks, hks⟩ : ∃ ks, readsP both = ks := ⟨_, rfl⟩
                  rw [hks] at HKA hrl ⊢
                  have HKS := Lib.hid hks
                  clear hks
                  go_wp2_with fail
                  go_loopw [9, 10, 11] (fun i _ _ WZ => ∃ j : Nat, j ≤ ks.length ∧ i = .int .i64 (j : Nat) ∧ Hid (∀ x ∈ ks.take j, SawB sn x) ∧ Hid (BlG W17 WZ)) (fun i _ _ _ => ks.length - (intOf i).toNat)
                  case atStart => exact ⟨0, Nat.zero_le _, rfl, (fun x hx => by cases hx), Below.refl _ _⟩
                  case round =>
                    obtain ⟨i, hi, rfl, HSB, HBV⟩ := hrel
                    by_cases hlt : i < ks.length
                    · obtain ⟨y, hy⟩ : ∃ y, ks[i]? = some y := ⟨_, List.getElem?_eq_getElem hlt⟩
                      have HYI := Lib.hid hy
                      have HSX : Hid (SawB sn y → ∀ x ∈ ks.take (i + 1), SawB sn x) := by
                        intro h x hx
                        rw [take_snoc HYI.out] at hx
                        rcases List.mem_append.1 hx with hx | hx
                        · exact HSB.out x hx
                        · simp only [List.mem_cons, List.not_mem_nil, or_false] at hx
                          rw [hx]; exact h
                      clear hy
                      go_wp2_with fail
                      go_loopw [10, 11] (fun o kk WZ => ∃ (j : Nat) (ob : Bool), j ≤ sn.length ∧ kk = .int .i64 (j : Nat) ∧ o = .bool ob ∧ Hid (if ob then SawB sn y else (sn.take j).find? (fun s => s.key == y) = none) ∧ Hid (BlG W17 WZ)) (fun _ kk _ => sn.length - (intOf kk).toNat)
                      case atStart => exact ⟨0, false, Nat.zero_le _, rfl, rfl, rfl, HBV.out⟩
                      case round =>
                        obtain ⟨j, ob, hj, rfl, rfl, HNF, HBY⟩ := hrel
                        cases ob with
                        | true =>
                          have HSG := Lib.hid (HSX.out HNF.out)
                          by_cases hlt2 : j < sn.length
                          · have d2 : decide ((j : Int) < (sn.length : Int)) = true := decide_eq_true (by omega)
                            go_wp2_with fail
                            go_roundw
                            case rel => exact ⟨i + 1, by omega, by go_num, HSG.out, HBY.out⟩
                            case measure => simp [intOf]; omega
                          · have d2 : decide ((j : Int) < (sn.length : Int)) = false := decide_eq_false (by omega)
                            go_wp2_with fail
                            go_roundw
                            case rel => exact ⟨i + 1, by omega, by go_num, HSG.out, HBY.out⟩
                            case measure => simp [intOf]; omega
                        | false =>
                          have hnf : (sn.take j).find? (fun s => s.key == y) = none := HNF.out
                          have HN1 := Lib.hid hnf
                          clear hnf HNF
                          by_cases hlt2 : j < sn.length
                          · obtain ⟨s, hs⟩ : ∃ s, sn[j]? = some s := ⟨_, List.getElem?_eq_getElem hlt2⟩
                            obtain ⟨b3, off3, rfl, c0, c1, c2, c3, _, _, _⟩ := (HS.out.below HBY.out).rd.at7 hs
                            obtain ⟨bk, offk, rfl, k0⟩ := (HKA.out.below HBY.out).at HYI.out
                            have HSJ := Lib.hid hs
                            clear hs
                            cases he : (s.key == y) with
                            | false =>
                              have HNF2 := Lib.hid (find_next HN1.out HSJ.out he)
                              go_wp2_with fail
                              go_quiet (fail)
                              go_wp2_with fail
                              go_roundw
                              case rel => exact ⟨j + 1, false, by omega, by go_num, rfl, HNF2.out, below_drewN HBY.out _⟩
                              case measure => simp [intOf]; omega
                            | true =>
                              have HSE := Lib.hid (saw_at HN1.out HSJ.out he)
                              go_wp2_with fail
                              go_quiet (fail)
                              go_wp2_with fail
                              go_at_call 33
                              refine (refMay_any s.v.k s.v.x s.v.s _).mono ?_
                              rintro e W9 ⟨rfl, hb⟩
                              have HB9 : Hid (BlG W17 W9) := BlG.below (below_drewN HBY.out _) hb
                              clear hb
                              cases hm : mayB s.v.k s.v.x s.v.s with
                              | true =>
                                have HSY : Hid (SawB sn y) := ⟨HSE.out.1, by rw [HSE.out.2]; exact hm⟩
                                go_wp2_with fail
                                go_roundw
                                case rel => exact ⟨j + 1, true, by omega, by go_num, rfl, HSY.out, HB9.out⟩
                                case measure => simp [intOf]; omega
                              | false =>
                                have hb := HB9.out
                                have HK := Lib.hid (HK.out.next hb)
                                clear hb
                                go_wp2_with fail
                                go_at_call 11
                                refine (first9_any _ HK.out.laid).mono ?_
                                rintro e W11 ⟨rfl, hb⟩
                                replace HK := Lib.hid (HK.out.next hb)
                                clear hb
                                go_wp2_with fail
                                go_ret
                                exact ⟨rfl, HK.out.below⟩
                          · have d2 : decide ((j : Int) < (sn.length : Int)) = false := decide_eq_false (by omega)
                            have HK := Lib.hid (HK.out.next HBY.out)
                            go_wp2_with fail
                            go_at_call 11
                            refine (first9_any _ HK.out.laid).mono ?_
                            rintro e W11 ⟨rfl, hb⟩
                            replace HK := Lib.hid (HK.out.next hb)
                            clear hb
                            go_wp2_with fail
                            go_ret
                            exact ⟨rfl, HK.out.below⟩
                    · obtain rfl : ks.length = i := by omega
                      clear hlt hi
                      have HST : Hid (Starts both sn) := starts_saw HC3.out (by have h := HSB.out; rw [List.take_length] at h; rw [HKS.out]; exact h)
                      have hb : Below W17.heap.size W17 _ := HBV.out
                      rename World => Wy
                      replace HK := Lib.hid (HK.out.next hb)
                      replace HR := Lib.hid (HR.out.below hb)
                      replace HR2 := Lib.hid (HR2.out.below hb)
                      replace HS := Lib.hid (HS.out.below hb)
                      replace HP := Lib.hid (HP.out.below hb)
                      replace HP2 := Lib.hid (HP2.out.below hb)
                      replace HBO := Lib.hid (HBO.out.below hb)
                      replace HKA := Lib.hid (HKA.out.below hb)
                      clear hb
                      clear HBV HSB
                      go_wp2_with fail
                      go_at_call 24
                      refine (run_any a l.length cap l b sn.length capb sn _ HP.out HS.out (by omega)).mono ?_
                      rintro e W18 ⟨v, rfl, ho, hb⟩
                      obtain ⟨aw, cw, rfl, hrw⟩ := Rd.of_own ho
                      have hwl : (runW l sn).length ≤ 1000 := runW_len l sn
                      have HWO := Lib.hid (writes_ok l sn)
                      have HJ1 := Lib.hid (fun he => joins_err (p := l) (q := l2) (sn := sn) (by rw [HBT.out]; exact HST.out) he)
                      have HJ2 := Lib.hid (fun he => joins_run (p := l) (q := l2) (sn := sn) (by rw [HBT.out]; exact HST.out) HC2.out he)
                      rw [HBT.out] at HJ1 HJ2
                      obtain ⟨ws, hws⟩ : ∃ ws, runW l sn = ws := ⟨_, rfl⟩
                      obtain ⟨er, her⟩ : ∃ er, runE l sn = er := ⟨_, rfl⟩
                      have HW1 : Hid (RdE wrCells 4 W18 aw (runW l sn).length cw (runW l sn)) := ⟨rfl, hrw⟩
                      rw [hws] at HW1 hwl HJ2 HWO ⊢
                      rw [her] at HJ1 HJ2 ⊢
                      clear ho hrw hws her
                      replace HK := Lib.hid (HK.out.next hb)
                      replace HR := Lib.hid (HR.out.below hb)
                      replace HR2 := Lib.hid (HR2.out.below hb)
                      replace HS := Lib.hid (HS.out.below hb)
                      replace HP := Lib.hid (HP.out.below hb)
                      replace HP2 := Lib.hid (HP2.out.below hb)
                      replace HBO := Lib.hid (HBO.out.below hb)
                      replace HKA := Lib.hid (HKA.out.below hb)
                      clear hb
                      go_wp2_with fail
                      go_at_call 24
                      refine (run_any a6 both.length c6 both b sn.length capb sn _ HBO.out HS.out (by omega)).mono ?_
                      rintro e W19 ⟨v, rfl, ho, hb⟩
                      obtain ⟨aw2, cw2, rfl, hrw⟩ := Rd.of_own ho
                      have hbw : (runW both sn).length ≤ 1000 := runW_len both sn
                      have HBE : Hid (runE both sn ≠ 0 → runW both sn = []) := fun h => runW_err h
                      have HW2 : Hid (RdE wrCells 4 W19 aw2 (runW both sn).length cw2 (runW both sn)) := ⟨rfl, hrw⟩
                      obtain ⟨wb, hwb⟩ : ∃ wb, runW both sn = wb := ⟨_, rfl⟩
                      obtain ⟨eb, heb⟩ : ∃ eb, runE both sn = eb := ⟨_, rfl⟩
                      rw [hwb] at HW2 hbw HJ1 HJ2 HBE ⊢
                      rw [heb] at HJ1 HJ2 HBE ⊢
                      clear ho hrw hwb heb
                      replace HK := Lib.hid (HK.out.next hb)
                      replace HR := Lib.hid (HR.out.below hb)
                      replace HR2 := Lib.hid (HR2.out.below hb)
                      replace HS := Lib.hid (HS.out.below hb)
                      replace HP := Lib.hid (HP.out.below hb)
                      replace HP2 := Lib.hid (HP2.out.below hb)
                      replace HBO := Lib.hid (HBO.out.below hb)
                      replace HKA := Lib.hid (HKA.out.below hb)
                      replace HW1 := Lib.hid (HW1.out.below hb)
                      clear hb
                      by_cases he : er = 0
                      case neg =>
                        have heb : (er != 0) = true := by simp [he]
                        obtain ⟨rfl, rfl⟩ := HJ1.out he
                        clear he
                        go_wp2_with fail
                        go_at_call 11
                        refine (first9_any _ HK.out.laid).mono ?_
                        rintro e W20 ⟨rfl, hb⟩
                        replace HK := Lib.hid (HK.out.next hb)
                        replace HR := Lib.hid (HR.out.below hb)
                        replace HR2 := Lib.hid (HR2.out.below hb)
                        replace HS := Lib.hid (HS.out.below hb)
                        replace HP := Lib.hid (HP.out.below hb)
                        replace HP2 := Lib.hid (HP2.out.below hb)
                        replace HBO := Lib.hid (HBO.out.below hb)
                        replace HKA := Lib.hid (HKA.out.below hb)
                        replace HW1 := Lib.hid (HW1.out.below hb)
                        replace HW2 := Lib.hid (HW2.out.below hb)
                        clear hb
                        go_wp2_with fail
                        go_ret
                        exact ⟨rfl, HK.out.below⟩
                      case pos =>
                        subst he
                        clear HJ1
                        have HJ := Lib.hid (HJ2.out rfl)
                        clear HJ2
                        have HK9 := HK
                        have HS9 := HS
                        have HP29 := HP2
                        have HW19 := HW1
                        have HW29 := HW2
                        go_wp2_with fail
                        go_loopw [16, 17] (fun v i WZ => ∃ j : Nat, j ≤ ws.length ∧ i = .int .i64 (j : Nat) ∧ Hid (OwnS WZ W19.heap.size v (sawOf (ws.take j))) ∧ Hid (BlG W19 WZ)) (fun _ i _ => ws.length - (intOf i).toNat)
                        case atStart => exact ⟨0, Nat.zero_le _, rfl, OwnS.nil _ _, Below.refl _ _⟩
                        case round =>
                          obtain ⟨i, hi, rfl, HO, HBX⟩ := hrel
                          obtain ⟨ad, cd, rfl, _⟩ := OwnS.rd HO.out
                          have hsl : (sawOf (ws.take i)).length = i := by unfold sawOf; rw [List.length_map, List.length_take]; omega
                          rw [hsl] at HO ⊢
                          by_cases hlt : i < ws.length
                          · obtain ⟨q, hq⟩ : ∃ q, ws[i]? = some q := ⟨_, List.getElem?_eq_getElem hlt⟩
                            obtain ⟨bw, offw, rfl, c0, c1, c2, c3⟩ := (HW1.out.below HBX.out).at4 hq
                            have HSS : Hid (sawOf (ws.take (i + 1)) = sawOf (ws.take i) ++ [⟨q.1, q.2, 0, 0, 0⟩]) := by show _ = _; unfold sawOf; rw [take_snoc hq, List.map_append]; rfl
                            obtain ⟨out, hout⟩ : ∃ out, sawOf (ws.take i) = out := ⟨_, rfl⟩
                            rw [hout] at HO HSS hsl
                            obtain ⟨Wd, hWd⟩ : ∃ Wd, wr.drew = Wd := ⟨_, rfl⟩
                            have HBD : Hid (BlG W19 Wd) := by rw [← hWd]; exact (show Below _ _ _ from HBX.out).drew
                            have HSA : Hid (OwnS (wr.drew.alloc (.cells #[.string (bs q.1), .int .i64 q.2.k, .float .f64 (fb q.2.x), .string (bs q.2.s), .int .i64 0, .int .i64 0, .int .i64 0] 52)) W19.heap.size (.slice ad i cd) out) := OwnS.below HO.out ((Below.refl _ _).drew.alloc (Nat.le_refl _) _)
                            have HLN : Hid (Rd (wr.drew.alloc (.cells #[.string (bs q.1), .int .i64 q.2.k, .float .f64 (fb q.2.x), .string (bs q.2.s), .int .i64 0, .int .i64 0, .int .i64 0] 52)) (some ⟨wr.heap.size, 0, none⟩) 1 1 7 (snCells ⟨q.1, q.2, 0, 0, 0⟩)) := Rd.lone wr.drew #[.string (bs q.1), .int .i64 q.2.k, .float .f64 (fb q.2.x), .string (bs q.2.s), .int .i64 0, .int .i64 0, .int .i64 0] 7 rfl 52
                            have HBA : Hid (BlG W19 (wr.drew.alloc (.cells #[.string (bs q.1), .int .i64 q.2.k, .float .f64 (fb q.2.x), .string (bs q.2.s), .int .i64 0, .int .i64 0, .int .i64 0] 52))) := (show Below W19.heap.size W19 wr from HBX.out).drew.alloc (show W19.heap.size ≤ wr.heap.size from Below.size HBX.out) _
                            have k0 := cell_alloc_keep (o := .cells #[.string (bs q.1), .int .i64 q.2.k, .float .f64 (fb q.2.x), .string (bs q.2.s), .int .i64 0, .int .i64 0, .int .i64 0] 52) (show wr.drew.cell? _ = _ from c0)
                            have k1 := cell_alloc_keep (o := .cells #[.string (bs q.1), .int .i64 q.2.k, .float .f64 (fb q.2.x), .string (bs q.2.s), .int .i64 0, .int .i64 0, .int .i64 0] 52) (show wr.drew.cell? _ = _ from c1)
                            have k2 := cell_alloc_keep (o := .cells #[.string (bs q.1), .int .i64 q.2.k, .float .f64 (fb q.2.x), .string (bs q.2.s), .int .i64 0, .int .i64 0, .int .i64 0] 52) (show wr.drew.cell? _ = _ from c2)
                            have k3 := cell_alloc_keep (o := .cells #[.string (bs q.1), .int .i64 q.2.k, .float .f64 (fb q.2.x), .string (bs q.2.s), .int .i64 0, .int .i64 0, .int .i64 0] 52) (show wr.drew.cell? _ = _ from c3)
                            clear hq hout hWd HBD
                            go_wp2_with fail
                            refine wp_region_ht 13 (fun W => W.cell? ⟨bw, offw + i * 4, none⟩ = some (.string (bs q.1)) ∧ W.cell? ⟨bw, offw + i * 4 + 1, none⟩ = some (.int .i64 q.2.k) ∧ W.cell? ⟨bw, offw + i * 4 + 2, none⟩ = some (.float .f64 (fb q.2.x)) ∧ W.cell? ⟨bw, offw + i * 4 + 3, none⟩ = some (.string (bs q.2.s))) (by kernel_rfl) (by kernel_rfl) ?_ (fun hHeld => ?_)
                            · exact ⟨c0, c1, c2, c3⟩
                            try simp only [Act.put, List.setIfInBounds_toArray, List.set_cons_zero, List.set_cons_succ]
                            refine wpHT_takeD (i := 0) (d := 137) (v := ?_) (by kernel_rfl) rfl rfl (by decide) (by kernel_rfl) (by kernel_rfl) (fun _ _ _ h => h) (Or.inl ⟨by kernel_rfl, ?_⟩) (by assumption) ?_
                            rotate_left
                            · intro w hSw; (try dsimp only at hSw); go_simp; (try with_reducible rfl)
                            try simp only [Act.put, List.setIfInBounds_toArray, List.set_cons_zero, List.set_cons_succ]
                            refine wpHT_takeD (i := 1) (d := 138) (v := ?_) (by kernel_rfl) rfl rfl (by decide) (by kernel_rfl) (by kernel_rfl) (fun _ _ _ h => h) (Or.inl ⟨by kernel_rfl, ?_⟩) (by assumption) ?_
                            rotate_left
                            · intro w hSw; (try dsimp only at hSw); go_simp; (try with_reducible rfl)
                            try simp only [Act.put, List.setIfInBounds_toArray, List.set_cons_zero, List.set_cons_succ]
                            refine wpHT_takeD (i := 2) (d := 139) (v := ?_) (by kernel_rfl) rfl rfl (by decide) (by kernel_rfl) (by kernel_rfl) (fun _ _ _ h => h) (Or.inl ⟨by kernel_rfl, ?_⟩) (by assumption) ?_
                            rotate_left
                            · intro w hSw; (try dsimp only at hSw); go_simp; (try with_reducible rfl)
                            try simp only [Act.put, List.setIfInBounds_toArray, List.set_cons_zero, List.set_cons_succ]
                            refine wpHT_takeD (i := 3) (d := 140) (v := ?_) (by kernel_rfl) rfl rfl (by decide) (by kernel_rfl) (by kernel_rfl) (fun _ _ _ h => h) (Or.inl ⟨by kernel_rfl, ?_⟩) (by assumption) ?_
                            rotate_left
                            · intro w hSw; (try dsimp only at hSw); go_simp; (try with_reducible rfl)
                            try simp only [Act.put, List.setIfInBounds_toArray, List.set_cons_zero, List.set_cons_succ]
                            refine wpHT_takeD (i := 4) (d := 141) (v := ?_) (by kernel_rfl) rfl rfl (by decide) (by kernel_rfl) (by kernel_rfl) (fun _ _ _ h => h) (Or.inl ⟨by kernel_rfl, ?_⟩) (by assumption) ?_
                            rotate_left
                            · intro w hSw; (try dsimp only at hSw); go_simp; (try with_reducible rfl)
                            try simp only [Act.put, List.setIfInBounds_toArray, List.set_cons_zero, List.set_cons_succ]
                            refine wpHT_takeD (i := 5) (d := 142) (v := ?_) (by kernel_rfl) rfl rfl (by decide) (by kernel_rfl) (by kernel_rfl) (fun _ _ _ h => h) (Or.inl ⟨by kernel_rfl, ?_⟩) (by assumption) ?_
                            rotate_left
                            · intro w hSw; (try dsimp only at hSw); go_simp; (try with_reducible rfl)
                            try simp only [Act.put, List.setIfInBounds_toArray, List.set_cons_zero, List.set_cons_succ]
                            refine wpHT_takeD (i := 6) (d := 143) (v := ?_) (by kernel_rfl) rfl rfl (by decide) (by kernel_rfl) (by kernel_rfl) (fun _ _ _ h => h) (Or.inl ⟨by kernel_rfl, ?_⟩) (by assumption) ?_
                            rotate_left
                            · intro w hSw; (try dsimp only at hSw); go_simp; (try with_reducible rfl)
                            try simp only [Act.put, List.setIfInBounds_toArray, List.set_cons_zero, List.set_cons_succ]
                            refine wpHT_takeD (i := 7) (d := 144) (v := ?_) (by kernel_rfl) rfl rfl (by decide) (by kernel_rfl) (by kernel_rfl) (fun _ _ _ h => h) (Or.inl ⟨by kernel_rfl, ?_⟩) (by assumption) ?_
                            rotate_left
                            · intro w hSw; (try dsimp only at hSw); go_simp; (try with_reducible rfl)
                            try simp only [Act.put, List.setIfInBounds_toArray, List.set_cons_zero, List.set_cons_succ]
                            refine wpHT_takeD (i := 8) (d := 145) (v := ?_) (by kernel_rfl) rfl rfl (by decide) (by kernel_rfl) (by kernel_rfl) (fun _ _ _ h => h) (Or.inl ⟨by kernel_rfl, ?_⟩) (by assumption) ?_
                            rotate_left
                            · intro w hSw; (try dsimp only at hSw); go_simp; (try with_reducible rfl)
                            try simp only [Act.put, List.setIfInBounds_toArray, List.set_cons_zero, List.set_cons_succ]
                            refine wpHT_takeD (i := 9) (d := 146) (v := ?_) (by kernel_rfl) rfl rfl (by decide) (by kernel_rfl) (by kernel_rfl) (fun _ _ _ h => h) (Or.inl ⟨by kernel_rfl, ?_⟩) (by assumption) ?_
                            rotate_left
                            · intro w hSw; (try dsimp only at hSw); go_simp; (try with_reducible rfl)
                            try simp only [Act.put, List.setIfInBounds_toArray, List.set_cons_zero, List.set_cons_succ]
                            refine wpHT_takeD (i := 10) (d := 147) (v := ?_) (by kernel_rfl) rfl rfl (by decide) (by kernel_rfl) (by kernel_rfl) (fun _ _ _ h => h) (Or.inl ⟨by kernel_rfl, ?_⟩) (by assumption) ?_
                            rotate_left
                            · intro w hSw; (try dsimp only at hSw); go_simp; (try with_reducible rfl)
                            try simp only [Act.put, List.setIfInBounds_toArray, List.set_cons_zero, List.set_cons_succ]
                            refine wpHT_takeD (i := 11) (d := 148) (v := ?_) (by kernel_rfl) rfl rfl (by decide) (by kernel_rfl) (by kernel_rfl) (fun _ _ _ h => h) (Or.inl ⟨by kernel_rfl, ?_⟩) (by assumption) ?_
                            rotate_left
                            · intro w hSw; (try dsimp only at hSw); go_simp; (try with_reducible rfl)
                            try simp only [Act.put, List.setIfInBounds_toArray, List.set_cons_zero, List.set_cons_succ]
                            refine wpHT_one (i := 12) (by kernel_rfl) rfl (by decide) (fun K hK => ?_)
                            go_simp
                            refine hK.out _ _ ?_ (fun hHeld => ?_)
                            · exact ⟨k0, k1, k2, k3⟩
                            clear hK K
                            try simp only [Act.put, List.setIfInBounds_toArray, List.set_cons_zero, List.set_cons_succ]
                            refine wpHT_done (by kernel_rfl) ?_
                            simp only [List.drop_succ_cons, List.drop_zero]
                            clear hHeld c0 c1 c2 c3 k0 k1 k2 k3
                            go_wp2_with (at_builtin; refine wpList_app SSn rfl (.tmp 137) (.tmp 149) rfl W19.heap.size rfl HSA.out rfl HLN.out (snCells_one _) (by omega) (by unfold maxLen; omega) (Below.size HBA.out) ?_)
                            intro v5 w5 hown5 hb5 _
                            have HO5 : Hid (OwnS w5 W19.heap.size v5 (sawOf (ws.take (i + 1)))) := by show OwnS _ _ _ _; rw [HSS.out]; exact own_snocS _ hsl.symm hown5
                            have HB5 : Hid (BlG W19 w5) := Below.trans HBA.out hb5
                            clear hown5 hb5
                            go_wp2_with fail
                            go_roundw
                            case rel => exact ⟨i + 1, by omega, by go_num, HO5.out, HB5.out⟩
                            case measure => simp [intOf]; omega
                          · obtain rfl : ws.length = i := by omega
                            clear hlt hi
                            rw [List.take_length] at HO hsl
                            have hb : Below W19.heap.size W19 _ := HBX.out
                            rename World => Wx
                            replace HK := Lib.hid (HK.out.next hb)
                            replace HR := Lib.hid (HR.out.below hb)
                            replace HR2 := Lib.hid (HR2.out.below hb)
                            replace HS := Lib.hid (HS.out.below hb)
                            replace HP := Lib.hid (HP.out.below hb)
                            replace HP2 := Lib.hid (HP2.out.below hb)
                            replace HBO := Lib.hid (HBO.out.below hb)
                            replace HKA := Lib.hid (HKA.out.below hb)
                            replace HW1 := Lib.hid (HW1.out.below hb)
                            replace HW2 := Lib.hid (HW2.out.below hb)
                            clear hb
                            obtain ⟨saw, hsw⟩ : ∃ saw, sawOf ws = saw := ⟨_, rfl⟩
                            rw [hsw] at HO hsl HJ
                            have HSW := Lib.hid hsw
                            clear hsw
                            go_wp2_with (at_builtin; refine wpList_app SSn rfl (.tmp 153) (.tmp 154) rfl W19.heap.size rfl HO.out rfl HS.out.rd.2 (flat_one snCells_one sn) (by omega) (by unfold maxLen; omega) (Below.size HBX.out) ?_)
                            intro v6 W8 hown6 hb6 _
                            have hb96 : Below W19.heap.size W19 W8 := Below.trans HBX.out hb6
                            have ho6 : OwnS W8 W19.heap.size v6 (saw ++ sn) := by
                              show World.ownsRow _ _ _ _ _ _ _
                              rw [List.length_append, flatE_append, hsl]
                              exact hown6
                            have HOK : Hid (∀ s ∈ saw ++ sn, SnOk s) := by
                              intro s h
                              rcases List.mem_append.1 h with h | h
                              · rw [← HSW.out] at h
                                unfold sawOf at h
                                obtain ⟨q, hq, rfl⟩ := List.mem_map.1 h
                                exact HWO.out q hq
                              · exact HS.out.ok s h
                            have hxl : (saw ++ sn).length ≤ 2000 := by rw [List.length_append]; omega
                            obtain ⟨sx, hsx⟩ : ∃ sx, saw ++ sn = sx := ⟨_, rfl⟩
                            rw [hsx] at ho6 HOK HJ hxl
                            clear hsx hown6
                            obtain ⟨a8, c8, rfl, h8⟩ := OwnS.rd ho6
                            have HX8 := Lib.hid (RdS.mk h8 HOK.out)
                            clear ho6 h8 hb6 HBX HO
                            clear HK HR HR2 HS HP HP2 HBO HKA HW1 HW2
                            have HK := Lib.hid (HK9.out.next hb96)
                            have HS := Lib.hid (HS9.out.below hb96)
                            have HP2 := Lib.hid (HP29.out.below hb96)
                            have HW1 := Lib.hid (HW19.out.below hb96)
                            have HW2 := Lib.hid (HW29.out.below hb96)
                            clear hb96 HK9 HS9 HP29 HW19 HW29
                            go_wp2_with fail
                            go_at_call 24
                            refine (run_any a2 l2.length cap2 l2 a8 sx.length c8 sx _ HP2.out HX8.out (by omega)).mono ?_
                            rintro e W21 ⟨v, rfl, ho, hb⟩
                            obtain ⟨aw3, cw3, rfl, hrw⟩ := Rd.of_own ho
                            have hxw : (runW l2 sx).length ≤ 1000 := runW_len l2 sx
                            have HW3 : Hid (RdE wrCells 4 W21 aw3 (runW l2 sx).length cw3 (runW l2 sx)) := ⟨rfl, hrw⟩
                            obtain ⟨xs, hxs⟩ : ∃ xs, runW l2 sx = xs := ⟨_, rfl⟩
                            have hex := HJ.out.1
                            rw [← hex] at HJ ⊢
                            rw [hxs] at HW3 hxw HJ ⊢
                            clear ho hrw hxs hex
                            replace HK := Lib.hid (HK.out.next hb)
                            replace HS := Lib.hid (HS.out.below hb)
                            replace HP2 := Lib.hid (HP2.out.below hb)
                            replace HW1 := Lib.hid (HW1.out.below hb)
                            replace HW2 := Lib.hid (HW2.out.below hb)
                            replace HX8 := Lib.hid (HX8.out.below hb)
                            clear hb
                            by_cases he : eb = 0
                            case neg =>
                              have heb : (eb != 0) = true := by simp [he]
                              obtain rfl : wb = [] := HBE.out he
                              clear he
                              go_wp2_with fail
                              go_at_call 11
                              refine (first9_any _ HK.out.laid).mono ?_
                              rintro e W22 ⟨rfl, hb⟩
                              replace HK := Lib.hid (HK.out.next hb)
                              replace HS := Lib.hid (HS.out.below hb)
                              replace HP2 := Lib.hid (HP2.out.below hb)
                              replace HW1 := Lib.hid (HW1.out.below hb)
                              replace HW2 := Lib.hid (HW2.out.below hb)
                              replace HX8 := Lib.hid (HX8.out.below hb)
                              replace HW3 := Lib.hid (HW3.out.below hb)
                              clear hb
                              go_wp2_with fail
                              go_ret
                              exact ⟨rfl, HK.out.below⟩
                            case pos =>
                              subst he
                              obtain rfl : wb = mergeW ws xs := HJ.out.2 rfl
                              clear HJ HBE
                              go_wp2_with fail
                              go_loopw [20, 21, 22] (fun v i j WZ => ∃ (x y : Nat) (out : List (List UInt8 × Vl)), x ≤ ws.length ∧ y ≤ xs.length ∧ i = .int .i64 (x : Nat) ∧ j = .int .i64 (y : Nat) ∧ Hid (OwnW WZ W21.heap.size v out) ∧ out.length ≤ x + y ∧ Hid (out ++ mergeW (ws.drop x) (xs.drop y) = mergeW ws xs) ∧ Hid (BlG W21 WZ)) (fun _ i j _ => ws.length - (intOf i).toNat + (xs.length - (intOf j).toNat))
                              case atStart => exact ⟨0, 0, [], Nat.zero_le _, Nat.zero_le _, rfl, rfl, OwnW.nil _ _, Nat.zero_le _, rfl, Below.refl _ _⟩
                              case round =>
                                obtain ⟨x, y, out, hx, hy, rfl, rfl, HO, hol, HME, HBX⟩ := hrel
                                obtain ⟨ad, cd, rfl, _⟩ := Rd.of_own HO.out
                                by_cases hxl : x < ws.length
                                case pos =>
                                  obtain ⟨q, hq⟩ : ∃ q, ws[x]? = some q := ⟨_, List.getElem?_eq_getElem hxl⟩
                                  obtain ⟨b1, o1, rfl, c0, c1, c2, c3⟩ := (HW1.out.below HBX.out).at4 hq
                                  have dx : decide ((x : Int) < (ws.length : Int)) = true := decide_eq_true (by omega)
                                  have dxe : ((x : Int) == (ws.length : Int)) = false := beq_eq_false_iff_ne.2 (by omega)
                                  by_cases hyl : y < xs.length
                                  case pos =>
                                    obtain ⟨p, hp⟩ : ∃ p, xs[y]? = some p := ⟨_, List.getElem?_eq_getElem hyl⟩
                                    obtain ⟨b2, o2, rfl, e0, e1, e2, e3⟩ := (HW3.out.below HBX.out).at4 hp
                                    have dye : ((y : Int) == (xs.length : Int)) = false := beq_eq_false_iff_ne.2 (by omega)
                                    cases hqp : bB q.1 p.1 with
                                    | true =>
                                      have hbl : Op.bytesLess q.1 p.1 = true := bl_gt.trans hqp
                                      have HM2 : Hid (out ++ [q] ++ mergeW (ws.drop (x + 1)) (xs.drop y) = mergeW ws xs) := by show _ = _; rw [← HME.out, mg_left hq (.inr ⟨p, hp, hqp⟩), List.append_assoc]; rfl
                                      go_wp2_with fail
                                      go_quiet (fail)
                                      obtain ⟨Wd, hWd⟩ : ∃ Wd, wr.drewN nq = Wd := ⟨_, rfl⟩
                                      have hE : Wd.heap = wr.heap := by rw [← hWd]; rfl
                                      have HBWd : Hid (BlG W21 Wd) := by rw [← hWd]; exact below_drewN HBX.out _
                                      have HOWd : Hid (OwnW Wd W21.heap.size (.slice ad out.length cd) out) := ownsRow_keep HO.out fun k _ => by rw [hE]
                                      rw [hWd]
                                      clear hWd hE
                                      clear c0 c1 c2 c3
                                      obtain ⟨_, _, hz, c0, c1, c2, c3⟩ := (HW1.out.below HBWd.out).at4 hq
                                      cases hz
                                      clear e0 e1 e2 e3
                                      obtain ⟨_, _, hz, e0, e1, e2, e3⟩ := (HW3.out.below HBWd.out).at4 hp
                                      cases hz
                                      have HO1 : Hid (World.ownsRow (Wd.alloc (.cells #[.string (bs q.1), .int .i64 q.2.k, .float .f64 (fb q.2.x), .string (bs q.2.s)] 54)) W21.heap.size 54 4 (.slice ad out.length cd) out.length (flatE wrCells out)) := World.ownsRow.alloc HOWd.out _
                                      have HL1 : Hid (Rd (Wd.alloc (.cells #[.string (bs q.1), .int .i64 q.2.k, .float .f64 (fb q.2.x), .string (bs q.2.s)] 54)) (some ⟨Wd.heap.size, 0, none⟩) 1 1 4 (wrCells q)) := Rd.lone Wd #[.string (bs q.1), .int .i64 q.2.k, .float .f64 (fb q.2.x), .string (bs q.2.s)] 4 rfl 54
                                      have hsz : W21.heap.size ≤ Wd.heap.size := Below.size HBWd.out
                                      go_wp2_with (at_builtin; refine wpList_app SWr rfl (.tmp 217) (.tmp 222) rfl W21.heap.size rfl HO1.out rfl HL1.out (by simp [wrCells, Value.oneCell']) (by omega) (by unfold maxLen; omega) (by simp; omega) ?_)
                                      intro v5 w5 hown5 hb5 _
                                      have HO5 : Hid (OwnW w5 W21.heap.size v5 (out ++ [q])) := by
                                        show World.ownsRow _ _ _ _ _ _ _
                                        rw [List.length_append, flatE_snoc]
                                        exact hown5
                                      have HB5 : Hid (BlG W21 w5) := Below.trans ((show Below W21.heap.size W21 Wd from HBWd.out).alloc hsz _) hb5
                                      clear hown5 hb5 HO1 HL1
                                      go_wp2_with fail
                                      go_roundw
                                      case rel => exact ⟨(x + 1), y, out ++ [q], by omega, by omega, by go_num, by go_num, HO5.out, by rw [List.length_append]; simp; omega, HM2.out, HB5.out⟩
                                      case measure => simp [intOf]; omega
                                    | false =>
                                      have hbl : Op.bytesLess q.1 p.1 = false := bl_gt.trans hqp
                                      cases hpq : bB p.1 q.1 with
                                      | true =>
                                        have hbl2 : Op.bytesLess p.1 q.1 = true := bl_gt.trans hpq
                                        have HM2 : Hid (out ++ [p] ++ mergeW (ws.drop x) (xs.drop (y + 1)) = mergeW ws xs) := by show _ = _; rw [← HME.out, mg_right hp (.inr ⟨q, hq, hqp, hpq⟩), List.append_assoc]; rfl
                                        go_wp2_with fail
                                        go_quiet (fail)
                                        obtain ⟨Wd, hWd⟩ : ∃ Wd, wr.drewN nq = Wd := ⟨_, rfl⟩
                                        have hE : Wd.heap = wr.heap := by rw [← hWd]; rfl
                                        have HBWd : Hid (BlG W21 Wd) := by rw [← hWd]; exact below_drewN HBX.out _
                                        have HOWd : Hid (OwnW Wd W21.heap.size (.slice ad out.length cd) out) := ownsRow_keep HO.out fun k _ => by rw [hE]
                                        rw [hWd]
                                        clear hWd hE
                                        clear c0 c1 c2 c3
                                        obtain ⟨_, _, hz, c0, c1, c2, c3⟩ := (HW1.out.below HBWd.out).at4 hq
                                        cases hz
                                        clear e0 e1 e2 e3
                                        obtain ⟨_, _, hz, e0, e1, e2, e3⟩ := (HW3.out.below HBWd.out).at4 hp
                                        cases hz
                                        go_wp2_with fail
                                        go_quiet (fail)
                                        obtain ⟨We, hWd⟩ : ∃ We, Wd.drewN nq = We := ⟨_, rfl⟩
                                        have hE : We.heap = Wd.heap := by rw [← hWd]; rfl
                                        have HBWe : Hid (BlG W21 We) := by rw [← hWd]; exact below_drewN HBWd.out _
                                        have HOWe : Hid (OwnW We W21.heap.size (.slice ad out.length cd) out) := ownsRow_keep HOWd.out fun k _ => by rw [hE]
                                        rw [hWd]
                                        clear hWd hE
                                        clear c0 c1 c2 c3
                                        obtain ⟨_, _, hz, c0, c1, c2, c3⟩ := (HW1.out.below HBWe.out).at4 hq
                                        cases hz
                                        clear e0 e1 e2 e3
                                        obtain ⟨_, _, hz, e0, e1, e2, e3⟩ := (HW3.out.below HBWe.out).at4 hp
                                        cases hz
                                        have HO1 : Hid (World.ownsRow (We.alloc (.cells #[.string (bs p.1), .int .i64 p.2.k, .float .f64 (fb p.2.x), .string (bs p.2.s)] 54)) W21.heap.size 54 4 (.slice ad out.length cd) out.length (flatE wrCells out)) := World.ownsRow.alloc HOWe.out _
                                        have HL1 : Hid (Rd (We.alloc (.cells #[.string (bs p.1), .int .i64 p.2.k, .float .f64 (fb p.2.x), .string (bs p.2.s)] 54)) (some ⟨We.heap.size, 0, none⟩) 1 1 4 (wrCells p)) := Rd.lone We #[.string (bs p.1), .int .i64 p.2.k, .float .f64 (fb p.2.x), .string (bs p.2.s)] 4 rfl 54
                                        have hsz : W21.heap.size ≤ We.heap.size := Below.size HBWe.out
                                        go_wp2_with (at_builtin; refine wpList_app SWr rfl (.tmp 244) (.tmp 249) rfl W21.heap.size rfl HO1.out rfl HL1.out (by simp [wrCells, Value.oneCell']) (by omega) (by unfold maxLen; omega) (by simp; omega) ?_)
                                        intro v5 w5 hown5 hb5 _
                                        have HO5 : Hid (OwnW w5 W21.heap.size v5 (out ++ [p])) := by
                                          show World.ownsRow _ _ _ _ _ _ _
                                          rw [List.length_append, flatE_snoc]
                                          exact hown5
                                        have HB5 : Hid (BlG W21 w5) := Below.trans ((show Below W21.heap.size W21 We from HBWe.out).alloc hsz _) hb5
                                        clear hown5 hb5 HO1 HL1
                                        go_wp2_with fail
                                        go_roundw
                                        case rel => exact ⟨x, (y + 1), out ++ [p], by omega, by omega, by go_num, by go_num, HO5.out, by rw [List.length_append]; simp; omega, HM2.out, HB5.out⟩
                                        case measure => simp [intOf]; omega
                                      | false =>
                                        have hbl2 : Op.bytesLess p.1 q.1 = false := bl_gt.trans hpq
                                        have HM2 : Hid (out ++ [p] ++ mergeW (ws.drop (x + 1)) (xs.drop (y + 1)) = mergeW ws xs) := by show _ = _; rw [← HME.out, mg_both hq hp hqp hpq, List.append_assoc]; rfl
                                        go_wp2_with fail
                                        go_quiet (fail)
                                        obtain ⟨Wd, hWd⟩ : ∃ Wd, wr.drewN nq = Wd := ⟨_, rfl⟩
                                        have hE : Wd.heap = wr.heap := by rw [← hWd]; rfl
                                        have HBWd : Hid (BlG W21 Wd) := by rw [← hWd]; exact below_drewN HBX.out _
                                        have HOWd : Hid (OwnW Wd W21.heap.size (.slice ad out.length cd) out) := ownsRow_keep HO.out fun k _ => by rw [hE]
                                        rw [hWd]
                                        clear hWd hE
                                        clear c0 c1 c2 c3
                                        obtain ⟨_, _, hz, c0, c1, c2, c3⟩ := (HW1.out.below HBWd.out).at4 hq
                                        cases hz
                                        clear e0 e1 e2 e3
                                        obtain ⟨_, _, hz, e0, e1, e2, e3⟩ := (HW3.out.below HBWd.out).at4 hp
                                        cases hz
                                        go_wp2_with fail
                                        go_quiet (fail)
                                        obtain ⟨We, hWd⟩ : ∃ We, Wd.drewN nq = We := ⟨_, rfl⟩
                                        have hE : We.heap = Wd.heap := by rw [← hWd]; rfl
                                        have HBWe : Hid (BlG W21 We) := by rw [← hWd]; exact below_drewN HBWd.out _
                                        have HOWe : Hid (OwnW We W21.heap.size (.slice ad out.length cd) out) := ownsRow_keep HOWd.out fun k _ => by rw [hE]
                                        rw [hWd]
                                        clear hWd hE
                                        clear c0 c1 c2 c3
                                        obtain ⟨_, _, hz, c0, c1, c2, c3⟩ := (HW1.out.below HBWe.out).at4 hq
                                        cases hz
                                        clear e0 e1 e2 e3
                                        obtain ⟨_, _, hz, e0, e1, e2, e3⟩ := (HW3.out.below HBWe.out).at4 hp
                                        cases hz
                                        have HO1 : Hid (World.ownsRow (We.alloc (.cells #[.string (bs p.1), .int .i64 p.2.k, .float .f64 (fb p.2.x), .string (bs p.2.s)] 54)) W21.heap.size 54 4 (.slice ad out.length cd) out.length (flatE wrCells out)) := World.ownsRow.alloc HOWe.out _
                                        have HL1 : Hid (Rd (We.alloc (.cells #[.string (bs p.1), .int .i64 p.2.k, .float .f64 (fb p.2.x), .string (bs p.2.s)] 54)) (some ⟨We.heap.size, 0, none⟩) 1 1 4 (wrCells p)) := Rd.lone We #[.string (bs p.1), .int .i64 p.2.k, .float .f64 (fb p.2.x), .string (bs p.2.s)] 4 rfl 54
                                        have hsz : W21.heap.size ≤ We.heap.size := Below.size HBWe.out
                                        go_wp2_with (at_builtin; refine wpList_app SWr rfl (.tmp 182) (.tmp 187) rfl W21.heap.size rfl HO1.out rfl HL1.out (by simp [wrCells, Value.oneCell']) (by omega) (by unfold maxLen; omega) (by simp; omega) ?_)
                                        intro v5 w5 hown5 hb5 _
                                        have HO5 : Hid (OwnW w5 W21.heap.size v5 (out ++ [p])) := by
                                          show World.ownsRow _ _ _ _ _ _ _
                                          rw [List.length_append, flatE_snoc]
                                          exact hown5
                                        have HB5 : Hid (BlG W21 w5) := Below.trans ((show Below W21.heap.size W21 We from HBWe.out).alloc hsz _) hb5
                                        clear hown5 hb5 HO1 HL1
                                        go_wp2_with fail
                                        go_roundw
                                        case rel => exact ⟨(x + 1), (y + 1), out ++ [p], by omega, by omega, by go_num, by go_num, HO5.out, by rw [List.length_append]; simp; omega, HM2.out, HB5.out⟩
                                        case measure => simp [intOf]; omega
                                  case neg =>
                                    obtain rfl : y = xs.length := by omega
                                    have HM2 : Hid (out ++ [q] ++ mergeW (ws.drop (x + 1)) (xs.drop xs.length) = mergeW ws xs) := by show _ = _; rw [← HME.out, mg_left hq (.inl rfl), List.append_assoc]; rfl
                                    go_wp2_with fail
                                    go_quiet (fail)
                                    obtain ⟨Wd, hWd⟩ : ∃ Wd, wr.drewN nq = Wd := ⟨_, rfl⟩
                                    have hE : Wd.heap = wr.heap := by rw [← hWd]; rfl
                                    have HBWd : Hid (BlG W21 Wd) := by rw [← hWd]; exact below_drewN HBX.out _
                                    have HOWd : Hid (OwnW Wd W21.heap.size (.slice ad out.length cd) out) := ownsRow_keep HO.out fun k _ => by rw [hE]
                                    rw [hWd]
                                    clear hWd hE
                                    clear c0 c1 c2 c3
                                    obtain ⟨_, _, hz, c0, c1, c2, c3⟩ := (HW1.out.below HBWd.out).at4 hq
                                    cases hz
                                    have HO1 : Hid (World.ownsRow (Wd.alloc (.cells #[.string (bs q.1), .int .i64 q.2.k, .float .f64 (fb q.2.x), .string (bs q.2.s)] 54)) W21.heap.size 54 4 (.slice ad out.length cd) out.length (flatE wrCells out)) := World.ownsRow.alloc HOWd.out _
                                    have HL1 : Hid (Rd (Wd.alloc (.cells #[.string (bs q.1), .int .i64 q.2.k, .float .f64 (fb q.2.x), .string (bs q.2.s)] 54)) (some ⟨Wd.heap.size, 0, none⟩) 1 1 4 (wrCells q)) := Rd.lone Wd #[.string (bs q.1), .int .i64 q.2.k, .float .f64 (fb q.2.x), .string (bs q.2.s)] 4 rfl 54
                                    have hsz : W21.heap.size ≤ Wd.heap.size := Below.size HBWd.out
                                    go_wp2_with (at_builtin; refine wpList_app SWr rfl (.tmp 217) (.tmp 222) rfl W21.heap.size rfl HO1.out rfl HL1.out (by simp [wrCells, Value.oneCell']) (by omega) (by unfold maxLen; omega) (by simp; omega) ?_)
                                    intro v5 w5 hown5 hb5 _
                                    have HO5 : Hid (OwnW w5 W21.heap.size v5 (out ++ [q])) := by
                                      show World.ownsRow _ _ _ _ _ _ _
                                      rw [List.length_append, flatE_snoc]
                                      exact hown5
                                    have HB5 : Hid (BlG W21 w5) := Below.trans ((show Below W21.heap.size W21 Wd from HBWd.out).alloc hsz _) hb5
                                    clear hown5 hb5 HO1 HL1
                                    go_wp2_with fail
                                    go_roundw
                                    case rel => exact ⟨(x + 1), xs.length, out ++ [q], by omega, by omega, by go_num, by go_num, HO5.out, by rw [List.length_append]; simp; omega, HM2.out, HB5.out⟩
                                    case measure => simp [intOf]; omega
                                case neg =>
                                  obtain rfl : x = ws.length := by omega
                                  have dx : decide ((ws.length : Int) < (ws.length : Int)) = false := decide_eq_false (by omega)
                                  by_cases hyl : y < xs.length
                                  case pos =>
                                    obtain ⟨p, hp⟩ : ∃ p, xs[y]? = some p := ⟨_, List.getElem?_eq_getElem hyl⟩
                                    obtain ⟨b2, o2, rfl, e0, e1, e2, e3⟩ := (HW3.out.below HBX.out).at4 hp
                                    have dye : ((y : Int) == (xs.length : Int)) = false := beq_eq_false_iff_ne.2 (by omega)
                                    have dy : decide ((y : Int) < (xs.length : Int)) = true := decide_eq_true (by omega)
                                    have HM2 : Hid (out ++ [p] ++ mergeW (ws.drop ws.length) (xs.drop (y + 1)) = mergeW ws xs) := by show _ = _; rw [← HME.out, mg_right hp (.inl rfl), List.append_assoc]; rfl
                                    go_wp2_with fail
                                    go_quiet (fail)
                                    obtain ⟨Wd, hWd⟩ : ∃ Wd, wr.drewN nq = Wd := ⟨_, rfl⟩
                                    have hE : Wd.heap = wr.heap := by rw [← hWd]; rfl
                                    have HBWd : Hid (BlG W21 Wd) := by rw [← hWd]; exact below_drewN HBX.out _
                                    have HOWd : Hid (OwnW Wd W21.heap.size (.slice ad out.length cd) out) := ownsRow_keep HO.out fun k _ => by rw [hE]
                                    rw [hWd]
                                    clear hWd hE
                                    clear e0 e1 e2 e3
                                    obtain ⟨_, _, hz, e0, e1, e2, e3⟩ := (HW3.out.below HBWd.out).at4 hp
                                    cases hz
                                    go_wp2_with fail
                                    go_quiet (fail)
                                    obtain ⟨We, hWd⟩ : ∃ We, Wd.drewN nq = We := ⟨_, rfl⟩
                                    have hE : We.heap = Wd.heap := by rw [← hWd]; rfl
                                    have HBWe : Hid (BlG W21 We) := by rw [← hWd]; exact below_drewN HBWd.out _
                                    have HOWe : Hid (OwnW We W21.heap.size (.slice ad out.length cd) out) := ownsRow_keep HOWd.out fun k _ => by rw [hE]
                                    rw [hWd]
                                    clear hWd hE
                                    clear e0 e1 e2 e3
                                    obtain ⟨_, _, hz, e0, e1, e2, e3⟩ := (HW3.out.below HBWe.out).at4 hp
                                    cases hz
                                    have HO1 : Hid (World.ownsRow (We.alloc (.cells #[.string (bs p.1), .int .i64 p.2.k, .float .f64 (fb p.2.x), .string (bs p.2.s)] 54)) W21.heap.size 54 4 (.slice ad out.length cd) out.length (flatE wrCells out)) := World.ownsRow.alloc HOWe.out _
                                    have HL1 : Hid (Rd (We.alloc (.cells #[.string (bs p.1), .int .i64 p.2.k, .float .f64 (fb p.2.x), .string (bs p.2.s)] 54)) (some ⟨We.heap.size, 0, none⟩) 1 1 4 (wrCells p)) := Rd.lone We #[.string (bs p.1), .int .i64 p.2.k, .float .f64 (fb p.2.x), .string (bs p.2.s)] 4 rfl 54
                                    have hsz : W21.heap.size ≤ We.heap.size := Below.size HBWe.out
                                    go_wp2_with (at_builtin; refine wpList_app SWr rfl (.tmp 244) (.tmp 249) rfl W21.heap.size rfl HO1.out rfl HL1.out (by simp [wrCells, Value.oneCell']) (by omega) (by unfold maxLen; omega) (by simp; omega) ?_)
                                    intro v5 w5 hown5 hb5 _
                                    have HO5 : Hid (OwnW w5 W21.heap.size v5 (out ++ [p])) := by
                                      show World.ownsRow _ _ _ _ _ _ _
                                      rw [List.length_append, flatE_snoc]
                                      exact hown5
                                    have HB5 : Hid (BlG W21 w5) := Below.trans ((show Below W21.heap.size W21 We from HBWe.out).alloc hsz _) hb5
                                    clear hown5 hb5 HO1 HL1
                                    go_wp2_with fail
                                    go_roundw
                                    case rel => exact ⟨ws.length, (y + 1), out ++ [p], by omega, by omega, by go_num, by go_num, HO5.out, by rw [List.length_append]; simp; omega, HM2.out, HB5.out⟩
                                    case measure => simp [intOf]; omega
                                  case neg =>
                                    obtain rfl : y = xs.length := by omega
                                    obtain rfl : out = mergeW ws xs := by
                                      have h := HME.out
                                      rw [List.drop_length, List.drop_length, mg_nil, List.append_nil] at h
                                      exact h
                                    obtain ⟨_, _, hv, hrw⟩ := Rd.of_own HO.out
                                    cases hv
                                    have HWT : Hid (RdE wrCells 4 wr ad (mergeW ws xs).length cd (mergeW ws xs)) := ⟨rfl, hrw⟩
                                    clear hrw HO HME
                                    have hb : Below W21.heap.size W21 _ := HBX.out
                                    replace HK := Lib.hid (HK.out.next hb)
                                    replace HW2 := Lib.hid (HW2.out.below hb)
                                    clear hb
                                    clear HBX
                                    go_wp2_with fail
                                    go_at_call 11
                                    refine (first9_any _ HK.out.laid).mono ?_
                                    rintro e W23 ⟨rfl, hb⟩
                                    replace HK := Lib.hid (HK.out.next hb)
                                    replace HW2 := Lib.hid (HW2.out.below hb)
                                    replace HWT := Lib.hid (HWT.out.below hb)
                                    clear hb
                                    go_wp2_with fail
                                    go_at_call 26
                                    refine (writes_same _ _ _ _ _ _ _ HW2.out HWT.out (by first | exact hbw | exact runW_len _ _)).mono ?_
                                    rintro e W24 ⟨rfl, hb⟩
                                    replace HK := Lib.hid (HK.out.next hb)
                                    replace HW2 := Lib.hid (HW2.out.below hb)
                                    replace HWT := Lib.hid (HWT.out.below hb)
                                    clear hb
                                    go_wp2_with fail
                                    go_ret
                                    exact ⟨rfl, HK.out.below⟩
end Go.Proofs.YtalpbphfmelhhaaGreatDoor
