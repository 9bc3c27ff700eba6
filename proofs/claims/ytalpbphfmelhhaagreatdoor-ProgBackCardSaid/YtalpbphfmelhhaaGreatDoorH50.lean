/-
  The walk of ProgBack. Written by a program (lw9.py).
-/
import Derived.Test.YtalpbphfmelhhaaGreatDoorH46
namespace Go.Proofs.YtalpbphfmelhhaaGreatDoor
open Go.RowKit Go.Maps Go.Sort
set_option maxRecDepth 100000
attribute [local go_sem] bs_size bs_get bs_toList frombits tobits run_store_float
theorem ops_ok {p : List OpP} (h : checkP p = 0) : ∀ o ∈ p, OpOk o := fun o ho => by
  obtain ⟨h1, h2⟩ := chk_all (chk_of h).2 o ho
  obtain ⟨c1, c2⟩ := codeOk_iff h1
  obtain ⟨f1, f2, f3, f4⟩ := form_names h2
  refine ⟨by omega, by omega, ?_, ?_⟩
  · by_cases hn : namesC o.c = 1
    · exact keyB_len (f1 hn)
    · rw [f2 hn]; simp
  · by_cases hn : namesC o.c = 2
    · have hm : mayB o.v.k o.v.x o.v.s = true := f3 hn
      rcases may_kinds hm with e | e | e
      · rw [e] at hm; rw [(may0 hm).2]; simp
      · rw [e] at hm; rw [(may_one hm).1]; simp
      · rw [e] at hm; have := (may_two hm).2; omega
    · rw [f4 hn]; simp [Vl.nil]
theorem txtO_few {o : OpP} (hf : formO o = true) : (txtO o).length ≤ 300 := by
  obtain ⟨f1, f2, f3, f4⟩ := form_names hf
  unfold txtO
  have h1 : (wordX o.c).length ≤ 4 := by unfold wordX; split; exact wordC_len _; simp
  have h2 := quote_bd9 o.key
  have h3 := text_len9 o.v.k o.v.x o.v.s
  rw [List.length_append]
  split
  · rename_i hn
    have hk := f1 hn
    unfold keyB at hk
    have := of_decide_eq_true hk
    rw [List.length_cons]; omega
  · split
    · rw [List.length_cons]; omega
    · simp; omega
theorem printP_few' : ∀ {l : List OpP} (k : Nat), (∀ o ∈ l, formO o = true) → k ≤ l.length → (printP (l.take k)).length ≤ k * 301
  | l, 0, _, _ => by rw [List.take_zero, printP_nil]; simp
  | l, k + 1, h, hk => by
    obtain ⟨o, ho⟩ : ∃ o, l[k]? = some o := ⟨_, List.getElem?_eq_getElem (by omega)⟩
    have ih := printP_few' (l := l) k h (by omega)
    have ht := txtO_few (h o (List.mem_of_getElem? ho))
    rw [take_snoc ho]
    by_cases h0 : k = 0
    · subst h0
      rw [List.take_zero, List.nil_append, printP_one]; omega
    · rw [printP_snoc (by intro e; have := congrArg List.length e; rw [List.length_take, List.length_nil] at this; omega), List.length_append, List.length_append]
      simp; omega
theorem printP_few {p : List OpP} (h : checkP p = 0) : (printP p).length ≤ 20000 := by
  have h1 := (chk_of h).1
  have h2 := printP_few' p.length (fun o ho => (chk_all (chk_of h).2 o ho).2) (Nat.le_refl _)
  rw [List.take_length] at h2
  omega
set_option maxHeartbeats 16000000 in
theorem progBack_walk (a : Option Addr) (n cap : Nat) (l : List OpP) (s : List UInt8) (w : World) (h : RdOr w a n cap l) (hT : Laid w) : Calls Tryz.prog 6 #[.slice a n cap, .string (bs s)] w fun e w' => e = .returned (.bool true) ∧ Below w.heap.size w w' := by
  have HK := Lib.hid (Kp.start hT)
  clear hT
  obtain rfl : n = l.length := h.rd.1
  have HR := Lib.hid h
  clear h
  have hsz : (bs s).size = s.length := bs_size s
  go_enter Tryz.func6, Tryz.ntmps6
  go_wp2_with fail
  go_at_call 11
  refine (first9_any _ HK.out.laid).mono ?_
  rintro e W1 ⟨rfl, hb⟩
  replace HK := Lib.hid (HK.out.next hb)
  replace HR := Lib.hid (HR.out.below hb)
  clear hb
  go_wp2_with fail
  go_at_call 12
  refine (fewO_any a l.length cap l _ HR.out).mono ?_
  rintro e W2 ⟨b, rfl, hfew, hb⟩
  replace HK := Lib.hid (HK.out.next hb)
  replace HR := Lib.hid (HR.out.below hb)
  clear hb
  cases b with
  | false =>
    clear hfew
    go_wp2_with fail
    go_at_call 11
    refine (first9_any _ HK.out.laid).mono ?_
    rintro e W3 ⟨rfl, hb⟩
    replace HK := Lib.hid (HK.out.next hb)
    replace HR := Lib.hid (HR.out.below hb)
    clear hb
    go_wp2_with fail
    go_ret
    exact ⟨rfl, HK.out.below⟩
  | true =>
    have HF := Lib.hid (hfew rfl)
    have HP := Lib.hid (HR.out.few HF.out)
    have hn : l.length ≤ 1000 := Nat.le_trans HF.out.1 (by decide)
    clear hfew
    by_cases hs : 20000 < s.length
    · have d1 : decide ((20000 : Int) < (s.length : Int)) = true := decide_eq_true (by omega)
      go_wp2_with fail
      go_at_call 11
      refine (first9_any _ HK.out.laid).mono ?_
      rintro e W4 ⟨rfl, hb⟩
      replace HK := Lib.hid (HK.out.next hb)
      replace HR := Lib.hid (HR.out.below hb)
      replace HP := Lib.hid (HP.out.below hb)
      clear hb
      go_wp2_with fail
      go_ret
      exact ⟨rfl, HK.out.below⟩
    · have d1 : decide ((20000 : Int) < (s.length : Int)) = false := decide_eq_false (by omega)
      go_wp2_with fail
      go_at_call 28
      refine (prgParse_any s (by omega) _).mono ?_
      rintro e W5 ⟨v, rfl, ho, hb⟩
      obtain ⟨aq, cq, rfl, hri⟩ := OwnO5.rd ho
      have HQ1 := Lib.hid hri
      clear ho hri
      replace HK := Lib.hid (HK.out.next hb)
      replace HR := Lib.hid (HR.out.below hb)
      replace HP := Lib.hid (HP.out.below hb)
      clear hb
      obtain ⟨ck, hck⟩ : ∃ ck, checkP l = ck := ⟨_, rfl⟩
      have HC := Lib.hid (check_all a l.length cap l)
      rw [hck] at HC
      have HCK := Lib.hid hck
      clear hck
      have hql := parseP_len s
      obtain ⟨er, her⟩ : ∃ er, (parseP s).1 = er := ⟨_, rfl⟩
      obtain ⟨q, hq⟩ : ∃ q, (parseP s).2 = q := ⟨_, rfl⟩
      rw [hq] at HQ1 hql
      rw [her, hq]
      have HER := Lib.hid her
      have HQE := Lib.hid hq
      clear her hq
      by_cases he0 : er = 0
      case neg =>
        have he0b : (er == 0) = false := by simp [he0]
        go_wp2_with fail
        go_at_call 16
        refine (HC.out _ HP.out).mono ?_
        rintro e W6 ⟨rfl, hb⟩
        replace HK := Lib.hid (HK.out.next hb)
        replace HR := Lib.hid (HR.out.below hb)
        replace HP := Lib.hid (HP.out.below hb)
        replace HQ1 := Lib.hid (HQ1.out.below hb)
        clear hb
        by_cases hc0 : ck = 0
        case neg =>
          have hc0b : (ck != 0) = true := by simp [hc0]
          clear hc0
          have hq0 : q = [] := by rw [← HQE.out]; exact parseP_err (by rw [HER.out]; exact he0)
          subst hq0
          go_wp2_with fail
          go_at_call 11
          refine (first9_any _ HK.out.laid).mono ?_
          rintro e W7 ⟨rfl, hb⟩
          replace HK := Lib.hid (HK.out.next hb)
          replace HR := Lib.hid (HR.out.below hb)
          replace HP := Lib.hid (HP.out.below hb)
          replace HQ1 := Lib.hid (HQ1.out.below hb)
          clear hb
          go_wp2_with fail
          go_ret
          exact ⟨rfl, HK.out.below⟩
        case pos =>
          subst hc0
          have HPL := Lib.hid (printP_few HCK.out)
          have HPB := Lib.hid (parse_printP HCK.out)
          go_wp2_with fail
          go_at_call 30
          refine (prgPrint_any a l.length cap l _ HP.out (by omega) HK.out.laid).mono ?_
          rintro e W8 ⟨rfl, hb⟩
          replace HK := Lib.hid (HK.out.next hb)
          replace HR := Lib.hid (HR.out.below hb)
          replace HP := Lib.hid (HP.out.below hb)
          replace HQ1 := Lib.hid (HQ1.out.below hb)
          clear hb
          have hpl := HPL.out
          go_wp2_with fail
          go_at_call 28
          refine (prgParse_any (printP l) (by omega) _).mono ?_
          rintro e W9 ⟨v, rfl, ho, hb⟩
          rw [HPB.out] at ho ⊢
          obtain ⟨ay, cy, rfl, hri⟩ := OwnO5.rd ho
          have HY := Lib.hid hri
          clear ho hri
          replace HK := Lib.hid (HK.out.next hb)
          replace HR := Lib.hid (HR.out.below hb)
          replace HP := Lib.hid (HP.out.below hb)
          replace HQ1 := Lib.hid (HQ1.out.below hb)
          clear hb
          go_wp2_with fail
          go_at_call 11
          refine (first9_any _ HK.out.laid).mono ?_
          rintro e W10 ⟨rfl, hb⟩
          replace HK := Lib.hid (HK.out.next hb)
          replace HR := Lib.hid (HR.out.below hb)
          replace HP := Lib.hid (HP.out.below hb)
          replace HQ1 := Lib.hid (HQ1.out.below hb)
          replace HY := Lib.hid (HY.out.below hb)
          clear hb
          go_wp2_with fail
          go_at_call 21
          refine (ops_same _ _ _ _ _ _ _ HY.out HP.out.rd (by omega)).mono ?_
          rintro e W11 ⟨rfl, hb⟩
          replace HK := Lib.hid (HK.out.next hb)
          replace HR := Lib.hid (HR.out.below hb)
          replace HP := Lib.hid (HP.out.below hb)
          replace HQ1 := Lib.hid (HQ1.out.below hb)
          replace HY := Lib.hid (HY.out.below hb)
          clear hb
          go_wp2_with fail
          go_ret
          exact ⟨rfl, HK.out.below⟩
      case pos =>
        subst he0
        have hcq : checkP q = 0 := by rw [← HQE.out]; exact parseP_ok HER.out
        have HCQ := Lib.hid hcq
        have HQO := Lib.hid (RdO.mk HQ1.out (ops_ok hcq))
        have hpq := printP_few hcq
        have e1 := cat_run9 [32, 32] (printP q) (by simp; omega)
        have e2 := cat_run9 (32 :: 32 :: printP q) [32] (by simp; omega)
        rw [show bs [32, 32] = ⟨#[32, 32]⟩ from rfl, show [32, 32] ++ printP q = 32 :: 32 :: printP q from rfl] at e1
        rw [show bs [32] = ⟨#[32]⟩ from rfl, show (32 :: 32 :: printP q) ++ [32] = 32 :: 32 :: (printP q ++ [32]) from rfl] at e2
        have HBL := Lib.hid (parse_blanks hcq)
        have HCC := Lib.hid (check_all aq q.length cq q)
        rw [hcq] at HCC
        clear hcq
        go_wp2_with fail
        go_at_call 30
        refine (prgPrint_any aq q.length cq q _ HQO.out (by omega) HK.out.laid).mono ?_
        rintro e W12 ⟨rfl, hb⟩
        replace HK := Lib.hid (HK.out.next hb)
        replace HR := Lib.hid (HR.out.below hb)
        replace HP := Lib.hid (HP.out.below hb)
        replace HQ1 := Lib.hid (HQ1.out.below hb)
        replace HQO := Lib.hid (HQO.out.below hb)
        clear hb
        go_wp2_with fail
        go_at_call 28
        refine (prgParse_any (32 :: 32 :: (printP q ++ [32])) (by simp; omega) _).mono ?_
        rintro e W13 ⟨v, rfl, ho, hb⟩
        rw [HBL.out] at ho ⊢
        clear e1 e2
        obtain ⟨at1, ct1, rfl, hri⟩ := OwnO5.rd ho
        have HT1 := Lib.hid hri
        clear ho hri
        replace HK := Lib.hid (HK.out.next hb)
        replace HR := Lib.hid (HR.out.below hb)
        replace HP := Lib.hid (HP.out.below hb)
        replace HQ1 := Lib.hid (HQ1.out.below hb)
        replace HQO := Lib.hid (HQO.out.below hb)
        clear hb
        go_wp2_with fail
        go_at_call 21
        refine (ops_same _ _ _ _ _ _ _ HQ1.out HT1.out hql).mono ?_
        rintro e W14 ⟨rfl, hb⟩
        replace HK := Lib.hid (HK.out.next hb)
        replace HR := Lib.hid (HR.out.below hb)
        replace HP := Lib.hid (HP.out.below hb)
        replace HQ1 := Lib.hid (HQ1.out.below hb)
        replace HQO := Lib.hid (HQO.out.below hb)
        replace HT1 := Lib.hid (HT1.out.below hb)
        clear hb
        go_wp2_with fail
        go_at_call 16
        refine (HCC.out _ HQO.out).mono ?_
        rintro e W15 ⟨rfl, hb⟩
        replace HK := Lib.hid (HK.out.next hb)
        replace HR := Lib.hid (HR.out.below hb)
        replace HP := Lib.hid (HP.out.below hb)
        replace HQ1 := Lib.hid (HQ1.out.below hb)
        replace HQO := Lib.hid (HQO.out.below hb)
        replace HT1 := Lib.hid (HT1.out.below hb)
        clear hb
        go_wp2_with fail
        go_at_call 16
        refine (HC.out _ HP.out).mono ?_
        rintro e W16 ⟨rfl, hb⟩
        replace HK := Lib.hid (HK.out.next hb)
        replace HR := Lib.hid (HR.out.below hb)
        replace HP := Lib.hid (HP.out.below hb)
        replace HQ1 := Lib.hid (HQ1.out.below hb)
        replace HQO := Lib.hid (HQO.out.below hb)
        replace HT1 := Lib.hid (HT1.out.below hb)
        clear hb
        by_cases hc0 : ck = 0
        case neg =>
          have hc0b : (ck != 0) = true := by simp [hc0]
          clear hc0
          go_wp2_with fail
          go_at_call 11
          refine (first9_any _ HK.out.laid).mono ?_
          rintro e W17 ⟨rfl, hb⟩
          replace HK := Lib.hid (HK.out.next hb)
          replace HR := Lib.hid (HR.out.below hb)
          replace HP := Lib.hid (HP.out.below hb)
          replace HQ1 := Lib.hid (HQ1.out.below hb)
          replace HQO := Lib.hid (HQO.out.below hb)
          replace HT1 := Lib.hid (HT1.out.below hb)
          clear hb
          go_wp2_with fail
          go_ret
          exact ⟨rfl, HK.out.below⟩
        case pos =>
          subst hc0
          have HPL := Lib.hid (printP_few HCK.out)
          have HPB := Lib.hid (parse_printP HCK.out)
          go_wp2_with fail
          go_at_call 30
          refine (prgPrint_any a l.length cap l _ HP.out (by omega) HK.out.laid).mono ?_
          rintro e W18 ⟨rfl, hb⟩
          replace HK := Lib.hid (HK.out.next hb)
          replace HR := Lib.hid (HR.out.below hb)
          replace HP := Lib.hid (HP.out.below hb)
          replace HQ1 := Lib.hid (HQ1.out.below hb)
          replace HQO := Lib.hid (HQO.out.below hb)
          replace HT1 := Lib.hid (HT1.out.below hb)
          clear hb
          have hpl := HPL.out
          go_wp2_with fail
          go_at_call 28
          refine (prgParse_any (printP l) (by omega) _).mono ?_
          rintro e W19 ⟨v, rfl, ho, hb⟩
          rw [HPB.out] at ho ⊢
          obtain ⟨ay, cy, rfl, hri⟩ := OwnO5.rd ho
          have HY := Lib.hid hri
          clear ho hri
          replace HK := Lib.hid (HK.out.next hb)
          replace HR := Lib.hid (HR.out.below hb)
          replace HP := Lib.hid (HP.out.below hb)
          replace HQ1 := Lib.hid (HQ1.out.below hb)
          replace HQO := Lib.hid (HQO.out.below hb)
          replace HT1 := Lib.hid (HT1.out.below hb)
          clear hb
          go_wp2_with fail
          go_at_call 11
          refine (first9_any _ HK.out.laid).mono ?_
          rintro e W20 ⟨rfl, hb⟩
          replace HK := Lib.hid (HK.out.next hb)
          replace HR := Lib.hid (HR.out.below hb)
          replace HP := Lib.hid (HP.out.below hb)
          replace HQ1 := Lib.hid (HQ1.out.below hb)
          replace HQO := Lib.hid (HQO.out.below hb)
          replace HT1 := Lib.hid (HT1.out.below hb)
          replace HY := Lib.hid (HY.out.below hb)
          clear hb
          go_wp2_with fail
          go_at_call 21
          refine (ops_same _ _ _ _ _ _ _ HY.out HP.out.rd (by omega)).mono ?_
          rintro e W21 ⟨rfl, hb⟩
          replace HK := Lib.hid (HK.out.next hb)
          replace HR := Lib.hid (HR.out.below hb)
          replace HP := Lib.hid (HP.out.below hb)
          replace HQ1 := Lib.hid (HQ1.out.below hb)
          replace HQO := Lib.hid (HQO.out.below hb)
          replace HT1 := Lib.hid (HT1.out.below hb)
          replace HY := Lib.hid (HY.out.below hb)
          clear hb
          go_wp2_with fail
          go_ret
          exact ⟨rfl, HK.out.below⟩
end Go.Proofs.YtalpbphfmelhhaaGreatDoor
