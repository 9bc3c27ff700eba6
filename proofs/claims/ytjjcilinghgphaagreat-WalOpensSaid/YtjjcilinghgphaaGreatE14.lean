/-
 The laws' helpers: copies of bytes, bytes compared, lists of files compared.
-/
import Derived.Test.YtjjcilinghgphaaGreatE13
namespace Go.Proofs.YtjjcilinghgphaaGreat
open Go.RowKit Go.Maps Go.Sort
set_option maxRecDepth 100000
attribute [local go_sem] bs_size bs_toList

/-- A slice of bytes that the call made. -/
def Made8 (w : World) (l : List UInt8) (e : Ending) (w' : World) : Prop := ∃ v, e = .returned v ∧ Own8 w' w.heap.size 5 v l ∧ Below w.heap.size w w'
set_option maxHeartbeats 400000 in
theorem copyBytes_any (a : Option Addr) (n cap : Nat) (l : List UInt8) (w : World) (h : Rd8 w a n cap l) (hn : n ≤ 140737488355328) :
 Calls Tryz.prog 26 #[.slice a n cap] w (Made8 w l) := by
 obtain ⟨rfl, hr⟩ := h
 go_enter Tryz.func26, Tryz.ntmps26
 go_wp2
 have hm : l.length ≤ 9223372036854775807 := by omega
 go_loopw [3, 4] (fun v i wr => ∃ k : Nat, k ≤ l.length ∧ i = .int .i64 k ∧ Own8 wr w.heap.size 5 v (l.take k) ∧ Below w.heap.size w wr) (fun _ i _ => l.length - (intOf i).toNat)
 case atStart => exact ⟨0, Nat.zero_le _, rfl, Own8.nil _ _ _, Below.refl _ _⟩
 case round =>
  obtain ⟨k, hk, rfl, hown, hbel⟩ := hrel
  by_cases hlt : k < l.length
  · obtain ⟨b, off, rfl, hb, hc⟩ := Rd8.at ⟨rfl, hr⟩ (by omega)
    have hcell : wr.cell? ⟨b, off + k, none⟩ = some (.int .u8 (n8 (l.getD k 0))) := by rw [hbel.cell (p := ⟨b, off + k, none⟩) hb]; exact hc k hlt
    clear hc
    have hbl := hbel.size
    go_wp2_with (at_builtin; refine wpList_app S5 rfl _ _ rfl w.heap.size rfl (hown.alloc _) rfl (Rd.one _ _ _) ?c1 ?c2 ?c3 ?c4 ?_)
    case c1 => simp [Value.oneCell']
    case c2 => simp; omega
    case c3 => simp [maxLen]; omega
    case c4 => simp; omega
    intro v' w1 hown' hb1 _
    clear hown
    go_wp2
    go_roundw
    case rel => exact ⟨k + 1, by omega, by go_num, Own8.mk hown' (by simp; omega) (by rw [B8_take_succ _ _ hlt, B8_append]; simp [B8, List.getD, hlt]), (hbel.alloc hbl _).trans hb1⟩
    case measure => simp [intOf]; omega
  · go_wp2
    go_ret
    exact ⟨_, rfl, by rw [List.take_of_length_le (by omega)] at hown; exact hown, hbel⟩
set_option maxHeartbeats 400000 in
theorem bytes_any (a a' : Option Addr) (n n' cap cap' : Nat) (l l' : List UInt8) (w : World) (h : Rd8 w a n cap l) (h' : Rd8 w a' n' cap' l') :
 Calls Tryz.prog 36 #[.slice a n cap, .slice a' n' cap'] w fun e w' => e = .returned (.bool (l == l')) ∧ w = w' := by
 have k1 := run_toStr (P := Tryz.prog) h 24 5 9 Tryz.underlying24 Tryz.underlying5 Tryz.underlying9
 have k2 := run_toStr (P := Tryz.prog) h' 24 5 9 Tryz.underlying24 Tryz.underlying5 Tryz.underlying9
 go_enter Tryz.func36, Tryz.ntmps36
 go_wp2
 go_ret
 exact ⟨rfl, rfl⟩

/-! ### lists of files that read -/
def RdFs (w : World) (T : Nat → Prop) (a : Option Addr) (n cap : Nat) (l : List Fl) : Prop :=
 n = l.length ∧ BlkIn a n T ∧ ∃ vs, vs.length = l.length ∧ Rd w a n cap 3 (flatF l vs) ∧ ∀ (i : Nat) (f : Fl) (u : Value), l[i]? = some f → vs[i]? = some u → ∃ ai ci, u = .slice ai f.dt.length ci ∧ Rd8 w ai f.dt.length ci f.dt ∧ BlkIn ai f.dt.length T
theorem RdFs.mono {w : World} {T T' : Nat → Prop} {a : Option Addr} {n cap : Nat} {l : List Fl} (h : RdFs w T a n cap l) (ht : ∀ b, T b → T' b) : RdFs w T' a n cap l := by
 obtain ⟨h1, h2, vs, h3, h4, h5⟩ := h
 refine ⟨h1, fun h0 b hb => ht _ (h2 h0 b hb), vs, h3, h4, fun i f u hf hu => ?_⟩
 obtain ⟨ai, ci, e, hr, hb⟩ := h5 i f u hf hu
 exact ⟨ai, ci, e, hr, fun h0 b h => ht _ (hb h0 b h)⟩
theorem RdFs.keep {S T : Nat → Prop} {w w' : World} {a : Option Addr} {n cap : Nat} {l : List Fl} (h : RdFs w T a n cap l) (hf : Fr S w w') (hn : ∀ b, T b → ¬ S b) : RdFs w' T a n cap l := by
 obtain ⟨h1, h2, vs, h3, h4, h5⟩ := h
 refine ⟨h1, h2, vs, h3, h4.keep0 hf (fun h0 b hb => hn b (h2 h0 b hb)), fun i f u hf' hu => ?_⟩
 obtain ⟨ai, ci, e, hr, hb⟩ := h5 i f u hf' hu
 exact ⟨ai, ci, e, hr.keep0 hf fun h0 b h => hn b (hb h0 b h), hb⟩
theorem RdFs.below {T : Nat → Prop} {w w' : World} {a : Option Addr} {n cap : Nat} {l : List Fl} (h : RdFs w T a n cap l) (hb : Below w.heap.size w w') : RdFs w' T a n cap l := by
 obtain ⟨h1, h2, vs, h3, h4, h5⟩ := h
 refine ⟨h1, h2, vs, h3, h4.below hb, fun i f u hf' hu => ?_⟩
 obtain ⟨ai, ci, e, hr, hb'⟩ := h5 i f u hf' hu
 exact ⟨ai, ci, e, hr.below hb, hb'⟩
/-- What Files made reads. -/
theorem OwnFs.rd {w : World} {base : Nat} {v : Value} {vs : List Value} {l : List Fl} (h : OwnFs w base v vs l) : ∃ a cap, v = .slice a l.length cap ∧ RdFs w (fun b => base ≤ b ∧ b < w.heap.size) a l.length cap l := by
 obtain ⟨h1, h2, h3⟩ := h
 obtain ⟨a, cap, rfl, hr⟩ := Rd.of_own h2
 refine ⟨a, cap, rfl, rfl, fun _ b hb => World.ownsRow.lt h2 b (by rw [ownBlock_sl]; exact hb), vs, h1, hr, fun i f u hf hu => ?_⟩
 have ho := h3 i f u hf hu
 obtain ⟨ai, ci, rfl, hr8⟩ := ho.rd
 exact ⟨ai, ci, rfl, hr8, fun _ b hb => World.ownsRow.lt ho b (by rw [ownBlock_sl]; exact hb)⟩
theorem RdFs.at {w : World} {T : Nat → Prop} {a : Option Addr} {n cap : Nat} {l : List Fl} (h : RdFs w T a n cap l) {k : Nat} {f : Fl} (hf : l[k]? = some f) :
 ∃ b off ai ci, a = some ⟨b, off, none⟩ ∧ w.cell? ⟨b, off + k * 3, none⟩ = some (.string (bs f.nm)) ∧ w.cell? ⟨b, off + k * 3 + 1, none⟩ = some (.slice ai f.dt.length ci) ∧ w.cell? ⟨b, off + k * 3 + 2, none⟩ = some (.int .i64 (f.sf : Nat)) ∧ Rd8 w ai f.dt.length ci f.dt ∧ BlkIn ai f.dt.length T := by
 obtain ⟨rfl, h2, vs, h3, h4, h5⟩ := h
 have hk : k < l.length := (List.getElem?_eq_some_iff.1 hf).1
 obtain ⟨u, hu⟩ : ∃ u, vs[k]? = some u := ⟨_, List.getElem?_eq_getElem (by omega)⟩
 obtain ⟨ai, ci, rfl, hr, hb⟩ := h5 k f u hf hu
 obtain ⟨g1, g2, g3⟩ := flatF_get l vs k f _ hf hu
 obtain ⟨b, off, ha, _, hc⟩ := h4.at (by omega)
 refine ⟨b, off, ai, ci, ha, ?_, ?_, ?_, hr, hb⟩
 · rw [Nat.mul_comm k 3]; exact hc _ _ g1
 · rw [Nat.mul_comm k 3, Nat.add_assoc]; exact hc _ _ g2
 · rw [Nat.mul_comm k 3, Nat.add_assoc]; exact hc _ _ g3
def filesB : List Fl → List Fl → Bool
 | [], [] => true
 | f :: r, g :: s => f.nm == g.nm && (f.sf == g.sf && (f.dt == g.dt && filesB r s))
 | _, _ => false
theorem Fl.ext' {f g : Fl} (h1 : f.nm = g.nm) (h2 : f.dt = g.dt) (h3 : f.sf = g.sf) : f = g := by cases f; cases g; simp_all
theorem filesB_iff : ∀ l l' : List Fl, filesB l l' = true ↔ l = l'
 | [], [] => by simp [filesB]
 | f :: r, g :: s => by
  have ih := filesB_iff r s
  simp only [filesB, Bool.and_eq_true, beq_iff_eq, ih, List.cons.injEq]
  constructor
  · rintro ⟨h1, h2, h3, h4⟩; exact ⟨Fl.ext' h1 h3 h2, h4⟩
  · rintro ⟨rfl, rfl⟩; exact ⟨rfl, rfl, rfl, rfl⟩
 | [], _ :: _ => by simp [filesB]
 | _ :: _, [] => by simp [filesB]
theorem filesB_self (l : List Fl) : filesB l l = true := (filesB_iff l l).2 rfl
theorem filesB_no {l l' : List Fl} (h : l ≠ l') : filesB l l' = false := by
 cases hb : filesB l l' with
 | false => rfl
 | true => exact absurd ((filesB_iff l l').1 hb) h
theorem take_next {l l' : List Fl} {k : Nat} {f : Fl} (h : l.take k = l'.take k) (h1 : l[k]? = some f) (h2 : l'[k]? = some f) : l.take (k + 1) = l'.take (k + 1) := by
 rw [List.take_add_one, List.take_add_one, h, h1, h2]
set_option maxHeartbeats 1000000 in
theorem filesEq_any (a a' : Option Addr) (n n' cap cap' : Nat) (l l' : List Fl) (T T' : Nat → Prop) (w : World) (h : RdFs w T a n cap l) (h' : RdFs w T' a' n' cap' l') :
 Calls Tryz.prog 69 #[.slice a n cap, .slice a' n' cap'] w fun e w' => e = .returned (.bool (filesB l l')) ∧ Below w.heap.size w w' := by
 have H1 := Lib.hid h
 have H2 := Lib.hid h'
 have e1 := h.1
 have e2 := h'.1
 have hm1 : n ≤ 9223372036854775807 := by obtain ⟨_, _, vs, _, hr, _⟩ := h; exact Nat.le_trans hr.1 hr.2.1
 have hm2 : n' ≤ 9223372036854775807 := by obtain ⟨_, _, vs, _, hr, _⟩ := h'; exact Nat.le_trans hr.1 hr.2.1
 clear h h'
 by_cases hn : n = n'
 · subst hn
   have E1 := Lib.hid e1
   have E2 := Lib.hid e2
   clear e1 e2
   go_enter Tryz.func69, Tryz.ntmps69
   go_wp2_with fail
   go_loopw [5] (fun i wr => ∃ k : Nat, k ≤ n ∧ i = .int .i64 k ∧ Hid (l.take k = l'.take k) ∧ Hid (Fr (fun _ => False) w wr)) (fun i _ => n - (intOf i).toNat)
   case atStart => exact ⟨0, Nat.zero_le _, rfl, rfl, Fr.refl _ _⟩
   case round =>
    obtain ⟨k, hk, rfl, HT, HB⟩ := hrel
    by_cases hlt : k < n
    · obtain ⟨f, hf⟩ : ∃ f, l[k]? = some f := ⟨_, List.getElem?_eq_getElem (by have := E1.out; omega)⟩
      obtain ⟨g, hg⟩ : ∃ g, l'[k]? = some g := ⟨_, List.getElem?_eq_getElem (by have := E2.out; omega)⟩
      obtain ⟨b, off, ai, ci, rfl, c1, c2, c3, hr, _⟩ := (H1.out.keep HB.out (fun _ _ h => h)).at hf
      obtain ⟨b', off', ai', ci', rfl, c1', c2', c3', hr', _⟩ := (H2.out.keep HB.out (fun _ _ h => h)).at hg
      have k1 : ∀ i, (convert 24 9 (.slice ai f.dt.length ci)).run Tryz.prog (wr.drewN i) = .ok (.string (bs f.dt)) (wr.drewN i) := fun i => run_toStr (P := Tryz.prog) (hr.keep ((Fr.refl (fun _ => False) wr).drewN i) (fun _ _ h => h)) 24 5 9 Tryz.underlying24 Tryz.underlying5 Tryz.underlying9
      have k2 : ∀ i, (convert 24 9 (.slice ai' g.dt.length ci')).run Tryz.prog (wr.drewN i) = .ok (.string (bs g.dt)) (wr.drewN i) := fun i => run_toStr (P := Tryz.prog) (hr'.keep ((Fr.refl (fun _ => False) wr).drewN i) (fun _ _ h => h)) 24 5 9 Tryz.underlying24 Tryz.underlying5 Tryz.underlying9
      have HF := Lib.hid hf
      have HG := Lib.hid hg
      have bad : Hid (f ≠ g → filesB l l' = false) := fun hne => filesB_no fun e => hne (by rw [e, hg] at hf; exact (Option.some.inj hf).symm)
      clear hf hg hr hr'
      go_wp2_with fail
      by_cases q1 : f.nm = g.nm
      · have d1 : (f.nm == g.nm) = true := by simpa using q1
        by_cases q2 : f.sf = g.sf
        · have d2 : ((f.sf : Int) != (g.sf : Int)) = false := by simp; omega
          by_cases q3 : f.dt = g.dt
          · have d3 : (f.dt == g.dt) = true := by simpa using q3
            have hfg : Hid (f = g) := Fl.ext' q1 q3 q2
            clear q1 q2 q3 bad
            go_quiet (fail)
            go_wp2_with fail
            go_roundw
            case rel => exact ⟨k + 1, by omega, by go_num, take_next HT.out HF.out (by rw [hfg.out]; exact HG.out), HB.out.drewN _⟩
            case measure => simp [intOf]; omega
          · have d3 : (f.dt == g.dt) = false := by simpa using q3
            have hb := Lib.hid (bad.out fun e => q3 (by rw [e]))
            clear q1 q2 q3 bad
            go_quiet (fail)
            go_wp2_with fail
            go_ret
            exact ⟨by rw [hb.out]; rfl, (HB.out.drewN _).below (Nat.le_refl _) (fun _ _ h => h)⟩
        · have d2 : ((f.sf : Int) != (g.sf : Int)) = true := by simp; omega
          have hb := Lib.hid (bad.out fun e => q2 (by rw [e]))
          clear q1 q2 bad
          go_quiet (fail)
          go_wp2_with fail
          go_ret
          exact ⟨by rw [hb.out]; rfl, (HB.out.drewN _).below (Nat.le_refl _) (fun _ _ h => h)⟩
      · have d1 : (f.nm == g.nm) = false := by simpa using q1
        have hb := Lib.hid (bad.out fun e => q1 (by rw [e]))
        clear q1 bad
        go_quiet (fail)
        go_wp2_with fail
        go_ret
        exact ⟨by rw [hb.out]; rfl, (HB.out.drewN _).below (Nat.le_refl _) (fun _ _ h => h)⟩
    · obtain rfl : k = n := by omega
      have hr : Hid (filesB l l' = true) := by
       have := HT.out
       rw [List.take_of_length_le (by rw [← E1.out]; omega), List.take_of_length_le (by rw [← E2.out]; omega)] at this
       rw [this]; exact filesB_self _
      go_wp2_with fail
      go_ret
      exact ⟨by rw [hr.out]; rfl, HB.out.below (Nat.le_refl _) (fun _ _ h => h)⟩
 · have hne : (((n : Int) != n') = true) := by simp; omega
   have hr : Hid (filesB l l' = false) := filesB_no fun e => hn (by rw [e1, e2, e])
   clear e1 e2
   go_enter Tryz.func69, Tryz.ntmps69
   go_wp2_with fail
   go_ret
   exact ⟨by rw [hr.out]; rfl, Below.refl _ _⟩
end Go.Proofs.YtjjcilinghgphaaGreat
