/-
  The walk of WalFiles.
-/
import Derived.Test.YtjjcilinghgphaaV25
namespace Go.Proofs.Ytjjcilinghgphaa
open Go.RowKit Go.Maps Go.Sort
set_option maxRecDepth 100000
attribute [local go_sem] bs_size bs_toList

theorem allR_cons' (x : Sg) (l : List Sg) : allR (x :: l) = x.rs ++ allR l := by simp [allR]
theorem allR_app (l m : List Sg) : allR (l ++ m) = allR l ++ allR m := by simp [allR]
theorem chain_num : ∀ {l : List Sg} {k : Nat} {x y : Sg}, ChainS (x :: l) → (x :: l)[k]? = some y → y.f = x.f + (allR ((x :: l).take k)).length
  | l, 0, x, y, _, h => by simp at h; subst h; simp [allR]
  | [], k + 1, x, y, _, h => by simp at h
  | z :: l, k + 1, x, y, hc, h => by
    have := chain_num (l := l) (k := k) (x := z) (y := y) hc.2 (by simpa using h)
    rw [this, hc.1, List.take_succ_cons, allR_cons', List.length_append]; omega
theorem allR_at {l : List Sg} {k : Nat} {y : Sg} (h : l[k]? = some y) : allR (l.take (k + 1)) = allR (l.take k) ++ y.rs ∧ ∃ m, allR l = allR (l.take k) ++ (y.rs ++ m) := by
  have e : l.take (k + 1) = l.take k ++ [y] := by rw [List.take_add_one, h]; rfl
  have e1 : allR (l.take (k + 1)) = allR (l.take k) ++ y.rs := by rw [e, allR_app]; simp [allR]
  refine ⟨e1, allR (l.drop (k + 1)), ?_⟩
  rw [← List.append_assoc, ← e1, ← allR_app, List.take_append_drop]
/-- What is known of a log's segment. -/
structure SgAt (g : LG) (k : Nat) (x : Sg) (c : Nat) : Prop where
  num : x.f = c + 1
  f2 : x.f ≤ 99999999
  sz : (joinF x.rs).length ≤ 4194304
  recs : ∀ (j : Nat) (r : List UInt8), x.rs[j]? = some r → g.all[c + j]? = some r
  le : c + x.rs.length ≤ g.all.length
  room : ∀ j, j < x.rs.length → ((joinF (x.rs.take j)).length : Int) < g.room
  last : k + 1 < g.segs.length → g.room ≤ ((joinF x.rs).length : Int)
theorem sgAt {s : DS} {g : LG} (hk : LOk s g) (h1 : g.first = 1) (hs : SzI g) {k : Nat} {x : Sg} (hx : g.segs[k]? = some x) : SgAt g k x (allR (g.segs.take k)).length := by
  have hm : x ∈ g.segs := List.mem_of_getElem? hx
  obtain ⟨_, m, hm2⟩ := allR_at hx
  have hfst := g.first_eq
  rw [h1] at hfst
  refine ⟨?_, (hk.num x hm).f2, (hk.num x hm).sz, fun j r hr => ?_, ?_, hs.each x hm, fun hl => ?_⟩
  · cases hsg : g.segs with
    | nil => rw [hsg] at hx; simp at hx
    | cons y l =>
      have hc := hk.chain
      rw [hsg] at hc hx hfst
      rw [chain_num hc hx, show y.f = 1 from hfst]; omega
  · show (allR g.segs)[_]? = _
    rw [hm2, List.getElem?_append_right (by omega), show (allR (g.segs.take k)).length + j - (allR (g.segs.take k)).length = j by omega, List.getElem?_append_left (List.getElem?_eq_some_iff.1 hr).1]
    exact hr
  · show _ ≤ (allR g.segs).length
    rw [hm2, List.length_append, List.length_append]; omega
  · refine hs.pre x ?_
    unfold LG.segs at hx hl
    rw [List.length_append, List.length_singleton] at hl
    rw [List.getElem?_append_left (by omega)] at hx
    exact List.mem_of_getElem? hx
theorem join_lt {rs : List (List UInt8)} {j : Nat} {r : List UInt8} (h : rs[j]? = some r) : (joinF (rs.take (j + 1))).length = (joinF (rs.take j)).length + r.length + 12 ∧ (joinF (rs.take (j + 1))).length ≤ (joinF rs).length := by
  have e : rs.take (j + 1) = rs.take j ++ [r] := by rw [List.take_add_one, h]; rfl
  refine ⟨by rw [e, joinF_snoc, List.length_append, frameOf_length]; omega, ?_⟩
  have : joinF rs = joinF (rs.take (j + 1)) ++ joinF (rs.drop (j + 1)) := by rw [← joinF_append, List.take_append_drop]
  rw [this, List.length_append]; omega
/-- The world of the law's loops. -/
structure FW (W0 : World) (g : LG) (fs : List Fl) (av : Option Addr) (cv : Nat) (af : Option Addr) (cf gl nf : Nat) (w : World) : Prop where
  bl : Below W0.heap.size W0 w
  rd : Rd88 w av gl cv g.all
  rf : RdFs w (fun b => W0.heap.size ≤ b) af nf cf fs
theorem FW.new {W0 w w' : World} {g : LG} {fs : List Fl} {av : Option Addr} {cv : Nat} {af : Option Addr} {cf gl nf : Nat} (h : FW W0 g fs av cv af cf gl nf w) (hb : Below w.heap.size w w') : FW W0 g fs av cv af cf gl nf w' :=
  ⟨next_below h.bl hb, h.rd.below hb, h.rf.below hb⟩
set_option maxHeartbeats 8000000 in
theorem files_walk (seg : Int) (a : Option Addr) (len cap : Nat) (os : List OpW) (w : World) (h : RdOw w (fun b => b < w.heap.size) a len cap os) :
    Calls Try.prog 5 #[.int .i64 seg, .slice a len cap] w (TEnd w) := by
  have H0 := Lib.hid h
  clear h
  go_enter Try.func5, Try.ntmps5
  go_wp2_with fail
  go_at_call 9
  refine (wfirst_any w).mono ?_
  rintro e wa ⟨rfl, hb⟩
  have HBA := Lib.hid hb
  clear hb
  go_wp2_with fail
  go_at_call 12
  have hrl : RdOw wa (fun b => b < wa.heap.size) a len cap os := (H0.out.below HBA.out).mono fun b hb => Nat.lt_of_lt_of_le hb HBA.out.size
  refine (fewW_any a len cap os _ wa hrl).mono ?_
  rintro e wb ⟨b, rfl, hfew, hb⟩
  have HBB := Lib.hid (next_below HBA.out hb)
  have HFEW := Lib.hid hfew
  have HRD := Lib.hid ((hrl.below hb).mono (T' := fun b => b < wb.heap.size) fun b hb' => Nat.lt_of_lt_of_le hb' hb.size)
  clear hb hfew hrl HBA
  by_cases hbad : b = false ∨ seg < 64 ∨ 262144 < seg
  · clear HFEW HRD
    have hcs : b = false ∨ (b = true ∧ seg < 64) ∨ (b = true ∧ ¬ seg < 64 ∧ 262144 < seg) := by
      cases b with
      | false => exact .inl rfl
      | true =>
        by_cases h : seg < 64
        · exact .inr (.inl ⟨rfl, h⟩)
        · exact .inr (.inr ⟨rfl, h, by rcases hbad with h' | h' | h'; cases h'; omega; exact h'⟩)
    clear hbad
    rcases hcs with rfl | ⟨rfl, h1⟩ | ⟨rfl, h1, h2⟩
    all_goals
      go_wp2_with fail
      go_at_call 9
      refine (wfirst_any wb).mono ?_
      rintro e wc ⟨rfl, hb⟩
      have HBC := Lib.hid (next_below HBB.out hb)
      clear hb
      go_wp2_with fail
      go_ret
      exact TEnd.mk HBC.out
  obtain ⟨rfl, hs1, hs2⟩ : b = true ∧ ¬ seg < 64 ∧ ¬ 262144 < seg := by
    cases b with
    | false => exact absurd (.inl rfl) hbad
    | true => exact ⟨rfl, fun h => hbad (.inr (.inl h)), fun h => hbad (.inr (.inr h))⟩
  have HF := Lib.hid (HFEW.out rfl)
  have e1 : decide (seg < 64) = false := by simpa using hs1
  have e2 : decide (262144 < seg) = false := by simpa using hs2
  clear hbad HFEW
  go_wp2_with fail
  go_at_call 13
  refine (opened_any seg (by omega) (by omega) a len cap os HF.out.1 wb HRD.out).mono ?_
  rintro e w1 ⟨d, l, T, s, g, v, vs, rfl, hl, hf, ha⟩
  obtain ⟨av, cv, rfl, hr88⟩ := ha.rd
  have hal := hl.ok.all_len
  have hnl := hl.ok.next_le
  rw [hf.one] at hal
  have hsg : ∀ (k : Nat) (x : Sg), g.segs[k]? = some x → SgAt g k x (allR (g.segs.take k)).length := fun k x hx => sgAt hl.ok hf.one hf.sz hx
  have hroom := hf.rm
  have hfl := hf.fre.len
  have hvw := hf.fre.vw
  rw [hf.dir] at hvw
  have hln : 1 ≤ g.segs.length := by unfold LG.segs; simp
  have hl64 := hl.lw.ok.len
  have HALL := Lib.hid (show allR g.segs = g.all from rfl)
  obtain ⟨gl, hgl⟩ : ∃ gl, g.all.length = gl := ⟨_, rfl⟩
  rw [hgl] at hal hr88 ⊢
  have hgb : gl ≤ 100349524 := by omega
  have HL := Lib.hid hl
  have HR := Lib.hid hr88
  have HGL := Lib.hid hgl
  have HSG := Lib.hid hsg
  have HROOM := Lib.hid hroom
  have HVW := Lib.hid hvw
  clear hl hf ha hr88 hal hnl hgl hsg hroom hvw HF HRD e1 e2
  go_wp2_with fail
  go_at_call 21
  obtain ⟨Sd, hdk⟩ := HL.out.dk
  refine (files_any d Sd _ _ w1 hdk).mono ?_
  rintro e w2 ⟨v2, vs2, rfl, hown, hb⟩
  obtain ⟨af, cf, rfl, hrf⟩ := hown.rd
  obtain ⟨nf, hnf⟩ : ∃ nf, s.fs.length = nf := ⟨_, rfl⟩
  rw [hnf] at hrf hfl hl64 ⊢
  have HW : Hid (FW wb g s.fs av cv af cf gl nf w2) := ⟨next_below HL.out.bl hb, HR.out.below hb, hrf.mono fun b hb' => Nat.le_trans HL.out.bl.size hb'.1⟩
  have HNF := Lib.hid hnf
  have HFL := Lib.hid hfl
  have h1nf : 1 ≤ nf := by omega
  clear hdk hown hrf hb hnf hfl hln HL HR
  go_wp2_with fail
  go_loopw [9, 10, 11, 12, 13] (fun at_ i _ _ _ wr => ∃ (k c : Nat), k ≤ nf ∧ c ≤ gl ∧ i = .int .i64 (k : Nat) ∧ at_ = .int .i64 (c : Nat) ∧ Hid (c = (allR (g.segs.take k)).length) ∧ Hid (FW wb g s.fs av cv af cf gl nf wr)) (fun _ i _ _ _ _ => nf - (intOf i).toNat)
  case atStart => exact ⟨0, 0, Nat.zero_le _, Nat.zero_le _, rfl, rfl, rfl, HW.out⟩
  case round =>
    clear HW
    obtain ⟨k, c, hk, hc, rfl, rfl, HC, HW⟩ := hrel
    by_cases hlt : k < nf
    · obtain ⟨x, hx⟩ : ∃ x, g.segs[k]? = some x := ⟨_, List.getElem?_eq_getElem (by rw [← HFL.out]; exact hlt)⟩
      obtain ⟨f, hf⟩ : ∃ f, s.fs[k]? = some f := ⟨_, List.getElem?_eq_getElem (by rw [HNF.out]; exact hlt)⟩
      have hX := HSG.out k x hx
      rw [← HC.out] at hX
      have hvf : vwF f = vwS dL x := by
        have h1 := congrArg (fun l => l[k]?) HVW.out
        simp only [List.getElem?_map, hx, hf, Option.map_some, Option.some.injEq] at h1
        exact h1
      obtain ⟨b, off, ai, ci, rfl, c0, c1, _, hr8, _⟩ := HW.out.rf.at hf
      have hnm : f.nm = segN dL (c + 1) := by rw [← hX.num]; exact (Prod.mk.inj hvf).1
      have hdt : f.dt.length = (joinF x.rs).length := congrArg List.length (Prod.mk.inj hvf).2
      rw [hnm] at c0
      rw [hdt] at c1
      have hc8 := hX.f2
      rw [hX.num] at hc8
      obtain ⟨D, hD⟩ : ∃ D, (joinF x.rs).length = D := ⟨_, rfl⟩
      rw [hD] at c1
      have hDl : D ≤ 4194304 := by rw [← hD]; exact hX.sz
      have hcl : c + x.rs.length ≤ gl := by rw [← HGL.out]; exact hX.le
      have HX := Lib.hid hX
      have HDD := Lib.hid hD
      have HC' : Hid ((c + x.rs.length : Nat) = (allR (g.segs.take (k + 1))).length) := by rw [Hid, (allR_at hx).1, List.length_append, ← HC.out]
      have HC0 := Lib.hid c0
      have HC1 := Lib.hid c1
      clear hx hf hX hvf hr8 hnm hdt hD c0 c1
      go_wp2_with fail
      go_at_call 10
      refine (walName_ok dL (c + 1) (by decide) (by decide) (by omega) hc8 wr).mono ?_
      rintro e w3 ⟨rfl, hb⟩
      have c0 := cell_below HC0.out hb
      have c1 := cell_below HC1.out hb
      have HW3 := Lib.hid (HW.out.new hb)
      obtain ⟨nm, hnm⟩ : ∃ nm, segN dL (c + 1) = nm := ⟨_, rfl⟩
      rw [hnm] at c0 ⊢
      obtain ⟨m, hm⟩ : ∃ m, x.rs.length = m := ⟨_, rfl⟩
      rw [hm] at hcl HC'
      have HM := Lib.hid hm
      clear hb hnm hm
      go_wp2_with fail
      go_loop [9, 13] (fun at_ n => ∃ (j nj : Nat), j ≤ m ∧ nj ≤ D ∧ at_ = .int .i64 ((c : Int) + (j : Int)) ∧ n = .int .i64 (nj : Nat) ∧ Hid (nj = (joinF (x.rs.take j)).length)) (fun at_ _ => gl - (intOf at_).toNat)
      case atStart => exact ⟨0, 0, Nat.zero_le _, Nat.zero_le _, by simp, rfl, rfl⟩
      case round =>
        obtain ⟨j, nj, hj, hnj, rfl, rfl, HJ⟩ := hrel
        by_cases hjm : j < m
        · obtain ⟨r, hr⟩ : ∃ r, x.rs[j]? = some r := ⟨_, List.getElem?_eq_getElem (by rw [HM.out]; exact hjm)⟩
          obtain ⟨j1, j2⟩ := join_lt hr
          rw [HDD.out] at j2
          rw [← HJ.out] at j1
          have hrm := HX.out.room j (by rw [HM.out]; exact hjm)
          rw [← HJ.out, HROOM.out] at hrm
          have hall := HX.out.recs j r hr
          obtain ⟨_, vs3, hrv, hel⟩ := HW3.out.rd
          obtain ⟨a3, c3, hv1, hv2⟩ := hel (c + j) r hall
          obtain ⟨b3, o3, rfl, _, hc3⟩ := hrv.at (by omega)
          have hck := hc3 (c + j) _ hv1
          have HJ' : Hid ((nj + 12 + r.length : Nat) = (joinF (x.rs.take (j + 1))).length) := by rw [Hid, j1]; omega
          have q1 : nj < D := by omega
          have q2 : (c : Int) + (j : Int) < (gl : Int) := by omega
          have q3 : nj + r.length + 12 ≤ D := by omega
          have q4 : decide (seg ≤ (nj : Int)) = false := by simp; omega
          clear hr j1 j2 hall hrv hel hv1 hv2 hc3
          go_wp2_with fail
          go_round
          case rel => exact ⟨j + 1, nj + 12 + r.length, by omega, by omega, by go_num, by go_num, HJ'.out⟩
          case measure => simp [intOf]; omega
        · obtain rfl : j = m := by omega
          have hnD : nj = D := by rw [HJ.out, List.take_of_length_le (by rw [HM.out]; exact Nat.le_refl _)]; exact HDD.out
          subst hnD
          have hlast : Hid ((k : Int) < (nf : Int) - 1 → decide ((nj : Int) < seg) = false) := fun h => by
            have h1 := HX.out.last (by rw [← HFL.out]; omega)
            rw [HDD.out, HROOM.out] at h1
            exact decide_eq_false (by omega)
          have q1 : decide (nj < nj) = false := by simp
          by_cases hkl : (k : Int) < (nf : Int) - 1
          · have q2 := hlast.out hkl
            go_wp2_with fail
            go_roundw
            case rel => exact ⟨k + 1, c + j, by omega, hcl, by go_num, by go_num, HC'.out, HW3.out⟩
            case measure => simp [intOf]; omega
          · have q2 : decide ((k : Int) < (nf : Int) - 1) = false := by simpa using hkl
            go_wp2_with fail
            go_roundw
            case rel => exact ⟨k + 1, c + j, by omega, hcl, by go_num, by go_num, HC'.out, HW3.out⟩
            case measure => simp [intOf]; omega
    · obtain rfl : k = nf := by omega
      have hce : c = gl := by rw [HC.out, List.take_of_length_le (by rw [← HFL.out]; exact Nat.le_refl _), HALL.out]; exact HGL.out
      subst hce
      have h1d : decide (1 ≤ (k : Int)) = true := by simp; omega
      go_wp2_with fail
      go_at_call 9
      refine (wfirst_any wr).mono ?_
      rintro e w3 ⟨rfl, hb⟩
      have HBC := Lib.hid (next_below HBB.out (next_below HW.out.bl hb))
      clear hb
      go_wp2_with fail
      go_ret
      exact TEnd.mk HBC.out
end Go.Proofs.Ytjjcilinghgphaa
