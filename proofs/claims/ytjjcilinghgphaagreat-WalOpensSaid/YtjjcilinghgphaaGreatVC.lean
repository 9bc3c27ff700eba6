/-
 Plain laws of Open: segments that are joined, the last one mended.
 A segment joined behind the others (join).
 The last segment mended (mend).
 A log opened (Open).
-/
import Derived.Test.YtjjcilinghgphaaGreatVG
/-! ### Plain laws of Open: segments that are joined, the last one mended. -/
namespace Go.Proofs.YtjjcilinghgphaaGreat
open Go.RowKit Go.Maps
set_option maxRecDepth 100000

theorem szS_sgOf (dir : List UInt8) (f : Fl) : szS (sgOf dir f) = (scan f.dt).2 := by
 obtain ⟨h1, h2, _, _⟩ := scan_join f.dt.length f.dt (Nat.le_refl _)
 show (joinF (scan f.dt).1).length = _
 rw [h1, List.length_take]
 omega
theorem joinF_scan (l : List UInt8) : joinF (scan l).1 = l.take (scan l).2 := (scan_join l.length l (Nat.le_refl _)).1
theorem scan_le (l : List UInt8) : (scan l).2 ≤ l.length := (scan_join l.length l (Nat.le_refl _)).2.1
theorem links_snoc (dir : List UInt8) : ∀ (P : List Fl) (a f : Fl), linksB dir (P ++ [a, f]) = (linksB dir (P ++ [a]) && linkB dir a f)
 | [], a, f => by simp [linksB]
 | [x], a, f => by simp [linksB]
 | x :: y :: r, a, f => by
  have ih := links_snoc dir (y :: r) a f
  show (linkB dir x y && linksB dir ((y :: r) ++ [a, f])) = ((linkB dir x y && linksB dir ((y :: r) ++ [a])) && linkB dir a f)
  rw [ih, Bool.and_assoc]
theorem links_pre (dir : List UInt8) : ∀ (l m : List Fl), linksB dir (l ++ m) = true → linksB dir l = true
 | [], _, _ => rfl
 | [_], _, _ => rfl
 | x :: y :: r, m, h => by
  have h' : (linkB dir x y && linksB dir ((y :: r) ++ m)) = true := h
  rw [Bool.and_eq_true] at h'
  show (linkB dir x y && linksB dir (y :: r)) = true
  rw [h'.1, links_pre dir (y :: r) m h'.2]; rfl
theorem segF_append (dir : List UInt8) (l m : List Fl) : segF dir (l ++ m) = segF dir l ++ segF dir m := by unfold segF; rw [List.filter_append]
theorem segF_mem {dir : List UInt8} {l : List Fl} {f : Fl} : f ∈ segF dir l ↔ f ∈ l ∧ 0 < numS dir f.nm := by unfold segF; rw [List.mem_filter]; simp
theorem segF_next {dir : List UInt8} {l : List Fl} {k : Nat} {f : Fl} (h : l[k]? = some f) : segF dir (l.take (k + 1)) = if 0 < numS dir f.nm then segF dir (l.take k) ++ [f] else segF dir (l.take k) := by
 rw [take_snocV h, segF_append]
 unfold segF
 by_cases h0 : 0 < numS dir f.nm
 · rw [if_pos h0]; simp [h0]
 · rw [if_neg h0]; simp [h0]
theorem srt_get {l : List Fl} (h : Srt l) {f : Fl} (hf : f ∈ l) : getF f.nm l = some f := by
 cases hg : getF f.nm l with
 | none => exact absurd rfl (getF_none hg f hf)
 | some g =>
  obtain ⟨h1, h2⟩ := getF_some hg
  rw [srt_one h h1 hf h2]
theorem num_lt {dir : List UInt8} {a b : Fl} (ha : 0 < numS dir a.nm) (hb : 0 < numS dir b.nm) (h : bB a.nm b.nm = true) : numS dir a.nm < numS dir b.nm := by
 rcases Nat.lt_trichotomy (numS dir a.nm) (numS dir b.nm) with h1 | h1 | h1
 · exact h1
 · exfalso
   have e : a.nm = b.nm := by rw [(numS_pos ha).1, (numS_pos hb).1, h1]
   exact bB_ne h e
 · exfalso
   have e : bB b.nm a.nm = true := by
    have := segN_lt (dir := dir) h1 (numS_le _ _)
    rwa [← (numS_pos ha).1, ← (numS_pos hb).1] at this
   rw [bB_asymm h] at e; cases e
theorem segF_rise {dir : List UInt8} {l : List Fl} (h : Srt l) : (segF dir l).Pairwise fun a b => numS dir a.nm < numS dir b.nm := by
 have h1 : (segF dir l).Pairwise fun a b => bB a.nm b.nm = true := h.filter _
 refine List.Pairwise.imp_of_mem (fun {a b} ha hb hab => ?_) h1
 exact num_lt (segF_mem.1 ha).2 (segF_mem.1 hb).2 hab
theorem links_chain {dir : List UInt8} : ∀ {l : List Fl}, linksB dir l = true → ChainS (l.map (sgOf dir))
 | [], _ => trivial
 | [_], _ => trivial
 | a :: b :: r, h => by
  have h' : (linkB dir a b && linksB dir (b :: r)) = true := h
  rw [Bool.and_eq_true] at h'
  obtain ⟨h1, h2⟩ := h'
  unfold linkB at h1
  rw [Bool.and_eq_true] at h1
  exact ⟨by simpa [sgOf] using h1.2, links_chain h2⟩
/-- The last segment mended: its file's bytes are its records. -/
theorem mend_cases {B : Int} {s : DS} (hd : DOk B s) {f : Fl} (hf : getF f.nm s.fs = some f) : ((mendS s f).2 ≠ 0 → DOk (B + 1) (mendS s f).1) ∧
 ((mendS s f).2 = 0 → (getF f.nm (mendS s f).1.fs).map Fl.dt = some (joinF (scan f.dt).1) ∧ ∀ n, n ≠ f.nm → getF n (mendS s f).1.fs = getF n s.fs) := by
 have hcut : DOk (B + 1) (cutS s f.nm ((scan f.dt).2 : Nat)).1 := by
  refine hd.errW _ _ fun _ he => ?_
  refine hd.fall.upd (f := f) (by rw [fallS_fs]; exact hf) _ (fun _ => rfl) ?_ ?_
  · show min f.sf _ ≤ (f.dt.take _).length
    have := (hd.each f (getF_some hf).1).2.2
    rw [List.length_take]; omega
  · show (f.dt.take _).length + _ ≤ _
    rw [fallS_fs, List.length_take]
    have := hd.tot
    omega
 unfold mendS
 by_cases h : (scan f.dt).2 < f.dt.length
 · rw [if_pos h]
   refine ⟨fun _ => hcut, fun h0 => ?_⟩
   obtain ⟨k1, k2, k3, k4⟩ := errW_did h0
   have e : (cutS s f.nm ((scan f.dt).2 : Nat)).1.fs = updF f.nm (fun g => ⟨g.nm, g.dt.take (scan f.dt).2, min g.sf (scan f.dt).2⟩) s.fs := by
    show (errW s _ _).1.fs = _
    rw [k3]
    show updF f.nm _ (fallS s).1.fs = _
    rw [k4]
    rfl
   rw [e]
   refine ⟨?_, fun n hn => get_upd_other (fun g => ⟨g.nm, g.dt.take (scan f.dt).2, min g.sf (scan f.dt).2⟩) (fun _ => rfl) hn⟩
   rw [get_upd (fun g => ⟨g.nm, g.dt.take (scan f.dt).2, min g.sf (scan f.dt).2⟩) (fun _ => rfl) hf, joinF_scan]
   rfl
 · rw [if_neg h]
   refine ⟨fun h0 => absurd rfl h0, fun _ => ⟨?_, fun _ _ => rfl⟩⟩
   show (getF f.nm s.fs).map Fl.dt = _
   rw [hf, joinF_scan, List.take_of_length_le (by omega)]
   rfl
theorem mend_ok {B : Int} {s : DS} (hd : DOk B s) {f : Fl} (hf : getF f.nm s.fs = some f) : DOk (B + 1) (mendS s f).1 := by
 by_cases h : (scan f.dt).2 < f.dt.length
 · unfold mendS
   rw [if_pos h]
   refine hd.errW _ _ fun _ he => ?_
   refine hd.fall.upd (f := f) (by rw [fallS_fs]; exact hf) _ (fun _ => rfl) ?_ ?_
   · show min f.sf _ ≤ (f.dt.take _).length
     have := (hd.each f (getF_some hf).1).2.2
     rw [List.length_take]; omega
   · show (f.dt.take _).length + _ ≤ _
     rw [fallS_fs, List.length_take]
     have := hd.tot
     omega
 · unfold mendS
   rw [if_neg h]
   exact hd.mono (by omega)
theorem joined_ok {B : Int} {s : DS} (hd : DOk B s) {dir : List UInt8} {room : Int} (h1 : 1 ≤ dir.length) (h2 : dir.length ≤ 11) (h3 : 64 ≤ room) (h4 : room ≤ 262144) {pre : List Fl} {f : Fl} (hs : segF dir s.fs = pre ++ [f]) (hl : linksB dir (pre ++ [f]) = true) (hm : (mendS s f).2 = 0) :
 LOk (mendS s f).1 (joinedG dir room pre f) := by
 have hfm : f ∈ segF dir s.fs := by rw [hs]; simp
 have hf := srt_get hd.srt (segF_mem.1 hfm).1
 have hsegs : (joinedG dir room pre f).segs = (pre ++ [f]).map (sgOf dir) := by rw [List.map_append]; rfl
 have hlnm : (joinedG dir room pre f).lnm = f.nm := (numS_pos (segF_mem.1 hfm).2).1.symm
 refine ⟨h1, h2, h3, h4, fun x hx => ?_, by rw [hsegs]; exact links_chain hl, ?_, fun _ => ?_, ?_⟩
 · rw [hsegs] at hx
   obtain ⟨y, hy, rfl⟩ := List.mem_map.1 hx
   rw [← hs] at hy
   obtain ⟨y1, y2⟩ := segF_mem.1 hy
   refine ⟨y2, numS_le _ _, ?_⟩
   rw [szS_sgOf]
   have e1 := scan_le y.dt
   have e2 := dt_le_tot y1
   have e3 := hd.tot
   omega
 · rw [hsegs, List.pairwise_map, ← hs]
   exact segF_rise hd.srt
 · rw [hlnm]
   exact ((mend_cases hd hf).2 hm).1
 · have := (segF_mem.1 hfm).2
   show 0 < numS dir f.nm + _
   omega
theorem openN_ok {s : DS} {dir : List UInt8} {room : Int} (h1 : 1 ≤ dir.length) (h2 : dir.length ≤ 11) (h3 : 64 ≤ room) (h4 : room ≤ 262144) (hc : (createS s (segN dir 1)).2 = 0) : LOk (createS s (segN dir 1)).1 ⟨dir, room, [], ⟨1, []⟩, 0⟩ := by
 obtain ⟨k1, k2, k3, k4⟩ := errW_did hc
 refine ⟨h1, h2, h3, h4, fun x hx => ?_, trivial, by simp [LG.segs], fun _ => ?_, Nat.one_pos⟩
 · have hx' : x ∈ [(⟨1, []⟩ : Sg)] := hx
   rw [List.mem_singleton] at hx'
   subst hx'
   exact ⟨Nat.le_refl _, by decide, by decide⟩
 · show (getF (segN dir 1) (errW s (creE s (segN dir 1)) _).1.fs).map Fl.dt = _
   rw [k3]
   show (getF (segN dir 1) (insF ⟨segN dir 1, [], 0⟩ (fallS s).1.fs)).map Fl.dt = _
   rw [k4]
   have hg : getF (segN dir 1) s.fs = none := by
    unfold creE at k2
    split at k2
    · cases k2
    · split at k2
      · cases k2
      · exact getF_isSome_false (by assumption)
   rw [get_ins_same (f := ⟨segN dir 1, [], 0⟩) (fun f hf => getF_none hg f hf)]
   rfl
end Go.Proofs.YtjjcilinghgphaaGreat

/-! ### A segment joined behind the others (join). -/
namespace Go.Proofs.YtjjcilinghgphaaGreat
open Go.RowKit Go.Maps
set_option maxRecDepth 100000
attribute [local go_sem] bs_size bs_toList
def JoinB (dir : List UInt8) (fl : List Fl) (f : Fl) : Bool := match fl.getLast? with | none => true | some a => linkB dir a f
def JoinPost (w0 : World) (T : Nat → Prop) (d l : Nat) (B : Int) (Sd Sl : Nat → Prop) (s : DS) (dir : List UInt8) (room : Int) (fl : List Fl) (f : Fl) (w : World) (e : Ending) (w' : World) : Prop :=
 ∃ Sl', e = .returned (.int .i64 (if JoinB dir fl f then 0 else 13)) ∧ LAt w0 T d l B Sd Sl' s dir room 0 ((if JoinB dir fl f then fl ++ [f] else fl).map (sgOf dir)) w' ∧ Fr Sl w w' ∧ ∀ k, Sl' k → Sx Sl w w' k
theorem own8_r {W : World} {b : Nat} {v : Value} {l : List UInt8} (h : Own8 W b 5 v l) : Own8 W b 5 v l := h
/-- What Scan leaves, as records. -/
theorem Own88.recs {w Y W : World} {base : Nat} {v : Value} {vs : List Value} {ls : List (List UInt8)} (h : Own88 Y base v vs ls) (hb : w.heap.size ≤ base) (hf : Fr (fun k => k < w.heap.size ∨ Y.heap.size ≤ k) Y W) : OwnO W 24 v ls.length vs ∧ RecsAt W vs ls := by
 obtain ⟨h1, h2, _⟩ := h
 have hk : ∀ k, base ≤ k ∧ k < Y.heap.size → W.heap[k]? = Y.heap[k]? := fun k hk => hf.block k hk.2 (by rintro (e | e) <;> omega)
 have hl : vs.length = ls.length := by have := h1.1; omega
 exact ⟨OwnO.of_own (ownsRow_keep h1 fun k hq => hk k (World.ownsRow.lt h1 k hq)), hl, fun i u r hu hr => ownsRow_keep (ownsRow_mono (h2 i u r hu hr) (Nat.zero_le _)) fun k hq => hk k (World.ownsRow.lt (h2 i u r hu hr) k hq)⟩
theorem Own88.at_base {w : World} {base : Nat} {v : Value} {vs : List Value} {ls : List (List UInt8)} (h : Own88 w base v vs ls) : (∀ k, v.ownBlock = some k → base ≤ k ∧ k < w.heap.size) ∧ ∀ u ∈ vs, ∀ k, u.ownBlock = some k → base ≤ k ∧ k < w.heap.size := by
 obtain ⟨h1, h2, _⟩ := h
 have hl : vs.length = ls.length := by have := h1.1; omega
 refine ⟨fun k hk => World.ownsRow.lt h1 k hk, fun u hu k hk => ?_⟩
 obtain ⟨i, hi⟩ := List.getElem?_of_mem hu
 have hlt := (List.getElem?_eq_some_iff.1 hi).1
 exact World.ownsRow.lt (h2 i u _ hi (List.getElem?_eq_getElem (by omega))) k hk
set_option maxHeartbeats 4000000 in
theorem join_any {w0 w : World} {d l : Nat} {T Sd Sl : Nat → Prop} {B : Int} {s : DS} {dir : List UInt8} {room : Int} {fl : List Fl} (hA : LAt w0 T d l B Sd Sl s dir room 0 (fl.map (sgOf dir)) w) (hdl : dir.length ≤ 11) (hfl : fl.length ≤ 64)
 (hfs : ∀ a, fl.getLast? = some a → getF a.nm s.fs = some a ∧ 0 < numS dir a.nm) {f : Fl} (hf : getF f.nm s.fs = some f) (hfn : f.nm.length ≤ 20) :
 Calls Tryz.prog 50 #[.pointer (some ⟨l, 0, none⟩), .int .i64 (numS dir f.nm : Nat), .string (bs f.nm)] w (JoinPost w0 T d l B Sd Sl s dir room fl f w) := by
 obtain ⟨sv, L, hM, hL, hC, hlt⟩ := hA.lg
 have hdt : f.dt.length ≤ 4194304 := Nat.le_trans (dt_le_tot (getF_some hf).1) hA.dk.ok.tot
 have hLl : L.length = fl.length := by rw [← List.length_map (f := Sv.sg), hL, List.length_map]
 have HFin : Hid (∀ (b : Bool) w3 Sl', JoinB dir fl f = b → LAt w0 T d l B Sd Sl' s dir room 0 ((if b then fl ++ [f] else fl).map (sgOf dir)) w3 → Fr Sl w w3 → (∀ k, Sl' k → Sx Sl w w3 k) → JoinPost w0 T d l B Sd Sl s dir room fl f w (.returned (.int .i64 (if b then 0 else 13))) w3) := by
  intro b w3 Sl' h1 h2 h3 h4
  subst h1
  exact ⟨Sl', rfl, h2, h3, h4⟩
 have HDT := Lib.hid hdt
 have HNM : Hid (f.nm.length ≤ 9223372036854775807) := by show _ ≤ _; omega
 have HGET : Hid (((getF f.nm s.fs).map Fl.dt).getD [] = f.dt) := by show _ = _; rw [hf]; rfl
 have hno := numS_le dir f.nm
 obtain ⟨a, cap, rfl, _⟩ := hM.hs.rd
 obtain ⟨m, hm⟩ : ∃ m, L.length = m := ⟨_, rfl⟩
 have hm64 : m ≤ 64 := by rw [← hm, hLl]; exact hfl
 obtain ⟨c0, c1, _, c3, _, _, _⟩ := hM.cells
 rw [hm] at c3
 have hM' := hM
 have hC' := hC
 rw [hm] at hM' hC'
 have HML := Lib.hid hm
 have HLM := Lib.hid hL
 cases hlast : fl.getLast? with
 | none =>
  have hfl0 : fl = [] := List.getLast?_eq_none_iff.1 hlast
  have HJB : Hid (JoinB dir fl f = true) := by show _ = _; unfold JoinB; rw [hlast]
  have hm0 : m = 0 := by rw [← hm, hLl, hfl0]; rfl
  have d0 : decide (0 < m) = false := by simp; omega
  have HMX := Lib.hid hM'
  have HCX := Lib.hid hC'
  have HAX := Lib.hid hA
  have HFRX : Hid (Fr Sl w w) := Fr.refl _ _
  clear hM hM' hC hC' hA hL hlt hlast hfl0 hf hfs hm hLl hm0
  go_enter Tryz.func50, Tryz.ntmps50
  clear c1
  go_wp2_with fail
  go_at_call 81
  refine (read_any d Sd B s f.nm HNM.out w HAX.out.dk).mono ?_
  rintro e X1 ⟨vb, rfl, hvb, hbb⟩
  rw [HGET.out] at hvb
  obtain ⟨ab, cb, rfl, hrb⟩ := hvb.rd
  have HRB := Lib.hid hrb
  have HB1 := Lib.hid hbb
  clear hvb hbb hrb
  go_wp2_with fail
  go_at_call 82
  refine (scan_any ab f.dt.length cb f.dt X1 HRB.out (by have := HDT.out; omega)).mono ?_
  rintro e X2 ⟨vr, vs, rfl, hown, hb2⟩
  obtain ⟨ar, cr, hvr, _⟩ := (show OwnO _ _ _ _ _ from OwnO.of_own hown.1).rd
  subst hvr
  have hb02 := next_below HB1.out hb2
  have HOWN := Lib.hid hown
  have HB2 := Lib.hid hb02
  have hs12 := HB1.out.size
  have HBS : Hid (w.heap.size ≤ X1.heap.size ∧ X1.heap.size ≤ X2.heap.size) := ⟨hs12, hb2.size⟩
  have c3 : X2.cell? ⟨l, 3, none⟩ = some (.slice a m cap) := (HMX.out.new hb02).cells.2.2.2.1
  clear hown hb2 hb02 hs12
  obtain ⟨rl, hrl⟩ : ∃ rl, (scan f.dt).1.length = rl := ⟨_, rfl⟩
  obtain ⟨en, hen⟩ : ∃ en, (scan f.dt).2 = en := ⟨_, rfl⟩
  obtain ⟨no, hno⟩ : ∃ no, numS dir f.nm = no := ⟨_, rfl⟩
  have HRL := Lib.hid hrl
  have HEN := Lib.hid hen
  have HNO := Lib.hid hno
  rw [hrl, hen, hno]
  obtain ⟨X, hX⟩ : ∃ X, X2.alloc (.cells #[.int .i64 (no : Nat), .slice ar rl cr, .int .i64 (en : Nat)] 90) = X := ⟨_, rfl⟩
  have hbX : Below X2.heap.size X2 X := by rw [← hX]; exact (Below.refl _ _).alloc (Nat.le_refl _) _
  have hrowX : X.heap[X2.heap.size]? = some (.cells #[.int .i64 (no : Nat), .slice ar rl cr, .int .i64 (en : Nat)] 90 (0, 0)) := by rw [← hX]; exact heap_alloc_new X2 _
  have HBX := Lib.hid hbX
  have HRX := Lib.hid hrowX
  have HBXX := Lib.hid (next_below HB2.out hbX)
  clear hbX hrowX hrl hen hno
  have HSX : Hid (OwnO (X.alloc (.cells #[.pointer (some ⟨X2.heap.size, 0, none⟩)] 91)) 91 (.slice a m cap) m (L.map Sv.ptr)) := by
   have hh := (HMX.out.hs.new HBXX.out).new ((Below.refl X.heap.size X).alloc (Nat.le_refl _) (.cells #[.pointer (some ⟨X2.heap.size, 0, none⟩)] 91))
   rw [HML.out] at hh
   exact hh
  go_wp2_with (at_builtin; refine wpList_appO Sseg rfl (.tmp 86) (.tmp 92) rfl rfl HSX.out rfl (Rd.one _ _ _) ?c1 ?c2 ?c3 ?_)
  case c1 => simp [Value.oneCell']
  case c2 => omega
  case c3 => unfold maxLen; omega
  intro v5 w5 hown hgr hbk
  obtain ⟨a', cap', rfl, _⟩ := hown.rd
  have hYb : Below w.heap.size w (X.alloc (.cells #[.pointer (some ⟨X2.heap.size, 0, none⟩)] 91)) := HBXX.out.alloc HBXX.out.size _
  have hXl := (Array.getElem?_eq_some_iff.1 HRX.out).1
  have hXs : (X.alloc (.cells #[.pointer (some ⟨X2.heap.size, 0, none⟩)] 91)).heap.size = X.heap.size + 1 := by simp
  have hob := HOWN.out.at_base
  have hX2s := HBX.out.size
  have hownY : Own88 (X.alloc (.cells #[.pointer (some ⟨X2.heap.size, 0, none⟩)] 91)) X1.heap.size (.slice ar (scan f.dt).1.length cr) vs (scan f.dt).1 := (HOWN.out.below (Nat.le_refl _) HBX.out).below (Nat.le_refl _) ((Below.refl _ X).alloc (Nat.le_refl _) _)
  have hsz : szS (sgOf dir f) = en := by rw [szS_sgOf, HEN.out]
  have hp := HMX.out.pushed HCX.out (fun k hk => HAX.out.lt.2 k hk) (Y := X.alloc (.cells #[.pointer (some ⟨X2.heap.size, 0, none⟩)] 91)) (w5 := w5) (y := ⟨sgOf dir f, X2.heap.size, .slice ar (scan f.dt).1.length cr, vs⟩) (a' := a') (n' := m + 1) (cap' := cap')
   hYb (by show w.heap.size ≤ X2.heap.size; have := HBS.out; omega) (by show X2.heap.size < _; rw [hXs]; omega) (by rw [hsz]; show _ = some (Obj.cells #[.int .i64 (numS dir f.nm : Nat), .slice ar (scan f.dt).1.length cr, .int .i64 (en : Nat)] 90 (0, 0)); rw [HNO.out, HRL.out]; exact (heap_alloc_old X _ hXl).trans HRX.out)
   (fun W hW => hownY.recs HBS.out.1 hW) (fun k hk => by have h1 := hob.1 k hk; have h2 := HBS.out; rw [hXs]; omega) (fun u hu k hk => by have h1 := hob.2 u hu k hk; have h2 := HBS.out; rw [hXs]; omega) (by rw [HML.out]; exact hown) hgr (hbk.imp id fun e => e.trans (by simp))
  obtain ⟨p1, p2, p3, p4, p5⟩ := hp
  have P3 := Lib.hid p3
  have P4 := Lib.hid p4
  have P5 := Lib.hid p5
  clear p3 p4 p5 hown hgr hbk hX hYb hXl hXs hob hX2s hownY hsz c3
  go_wp2_with fail
  go_ret
  refine HFin.out true _ (Sx Sl w (w5.setCell ⟨l, 3, none⟩ (.slice a' (m + 1) cap'))) HJB.out (HAX.out.log (Sl' := Sx Sl w (w5.setCell ⟨l, 3, none⟩ (.slice a' (m + 1) cap'))) ⟨_, _, P3.out, by rw [List.map_append, HLM.out]; show _ = (fl ++ [f]).map (sgOf dir); rw [List.map_append]; rfl, P5.out, fun k hk => ?_⟩ P4.out (fun k hk => hk)) (HFRX.out.trans P4.out) (fun k hk => hk.imp id fun e => ⟨by have := HFRX.out.size; omega, e.2⟩)
  rcases hk with hk | hk
  · exact Nat.lt_of_lt_of_le (HAX.out.lt.2 k hk) P4.out.size
  · exact hk.2
 | some q =>
  obtain ⟨hq1, hq2⟩ := hfs q hlast
  have hqdt : q.dt.length ≤ 4194304 := Nat.le_trans (dt_le_tot (getF_some hq1).1) hA.dk.ok.tot
  have hqno := numS_le dir q.nm
  have hqnm := (numS_pos hq2).1
  have hqsc : (scan q.dt).1.length ≤ 349525 := by
   have h1 := joinF_ge (scan q.dt).1
   rw [joinF_scan, List.length_take] at h1
   omega
  have HQG : Hid (((getF q.nm s.fs).map Fl.dt).getD [] = q.dt) := by show _ = _; rw [hq1]; rfl
  have hJB : JoinB dir fl f = linkB dir q f := by unfold JoinB; rw [hlast]
  have HJL := Lib.hid hJB
  have hne : fl ≠ [] := by rintro rfl; cases hlast
  have hmpos : 0 < m := by rw [← hm, hLl]; exact List.length_pos_iff.2 hne
  obtain ⟨x, hx, hxs⟩ : ∃ x, L[L.length - 1]? = some x ∧ x.sg = sgOf dir q := by
   have h1 : (L.map Sv.sg)[L.length - 1]? = some (sgOf dir q) := by
    rw [hL, List.getElem?_map, hLl, ← List.getLast?_eq_getElem?, hlast]; rfl
   rw [List.getElem?_map] at h1
   obtain ⟨x, h2, h3⟩ := Option.map_eq_some_iff.1 h1
   exact ⟨x, h2, h3⟩
  obtain ⟨rr, off, cap', e1, hp, hs⟩ := hM.at hx
  simp only [Value.slice.injEq] at e1
  obtain ⟨rfl, _, rfl⟩ := e1
  obtain ⟨s0, s1, s2, _, _⟩ := hs.cells
  obtain ⟨ar, cr, hxv, _⟩ := hs.recs.rd
  rw [hxs] at s0 s2
  rw [hxv, hxs] at s1
  rw [szS_sgOf] at s2
  obtain ⟨xb, hxb⟩ : ∃ xb, x.b = xb := ⟨_, rfl⟩
  rw [hxb] at hp s0 s1 s2
  rw [hm] at hp
  have hsle := scan_le q.dt
  have t0 : w.cell? ⟨xb, 0, none⟩ = some (.int .i64 (numS dir q.nm : Nat)) := s0
  have t1 : w.cell? ⟨xb, 1, none⟩ = some (.slice ar (scan q.dt).1.length cr) := s1
  have t2 : w.cell? ⟨xb, 2, none⟩ = some (.int .i64 ((scan q.dt).2 : Nat)) := s2
  clear s0 s1 s2
  obtain ⟨qf, hqf⟩ : ∃ qf, numS dir q.nm = qf := ⟨_, rfl⟩
  obtain ⟨qr, hqr⟩ : ∃ qr, (scan q.dt).1.length = qr := ⟨_, rfl⟩
  obtain ⟨qs, hqs⟩ : ∃ qs, (scan q.dt).2 = qs := ⟨_, rfl⟩
  obtain ⟨ql, hql⟩ : ∃ ql, q.dt.length = ql := ⟨_, rfl⟩
  have hlink : linkB dir q f = ((ql == qs) && (numS dir f.nm == qf + qr)) := by unfold linkB; rw [hqf, hqr, hqs, hql]
  rw [hqf] at t0 hqno hqnm
  rw [hqr] at t1 hqsc
  rw [hqs] at t2 hsle
  rw [hql] at hqdt hsle
  obtain ⟨no, hnoo⟩ : ∃ no, numS dir f.nm = no := ⟨_, rfl⟩
  rw [hnoo] at hlink hno
  have HLINK := Lib.hid hlink
  have HNOO := Lib.hid hnoo
  have HQL := Lib.hid hql
  have HQNM := Lib.hid hqnm
  have HQNO := Lib.hid hqno
  have HDL := Lib.hid hdl
  have HMP := Lib.hid hM'
  have HCP := Lib.hid hC'
  have HAP := Lib.hid hA
  have HLT := Lib.hid hlt
  have w1 : IntKind.i64.wrap ((m : Int) - 1) = (m : Int) - 1 := IntWalk.i64_in _ (by omega)
  have w2 : 0 ≤ (m : Int) - 1 := by omega
  have w2' : (1 : Int) ≤ m := by omega
  have w3 : (m : Int) - 1 < m := by omega
  have w4 : ((m : Int) - 1).toNat = m - 1 := by omega
  have HPW : Hid (IntKind.i64.wrap ((qf : Int) + (qr : Int)) = (qf : Int) + (qr : Int)) := IntWalk.i64_in _ (by omega)
  clear hM hM' hC hC' hA hL hlt hlast hf hfs hm hLl hq1 hq2 hJB hne hx hxs hs hxv hxb hqf hqr hqs hql hlink hnoo hqnm hqno hdl
  go_enter Tryz.func50, Tryz.ntmps50
  rw [HNOO.out]
  go_wp2_with fail
  clear w1 w2 w2' w3 w4
  refine wp_region_ht 18 (fun W => W.cell? ⟨l, 0, none⟩ = some (.pointer (some ⟨d, 0, none⟩)) ∧ W.cell? ⟨l, 1, none⟩ = some (.string (bs dir)) ∧ W.cell? ⟨xb, 0, none⟩ = some (.int .i64 (qf : Nat))) (by kernel_rfl) (by kernel_rfl) ?_ (fun hHeld => ?_)
  · exact ⟨c0, c1, t0⟩
  try simp only [Act.put, List.setIfInBounds_toArray, List.set_cons_zero, List.set_cons_succ]
  refine wpHT_takeD (i := 0) (d := 31) (v := ?_) (by kernel_rfl) rfl rfl (by decide) (by kernel_rfl) (by kernel_rfl) (fun _ _ _ h => h) (Or.inl ⟨by kernel_rfl, ?_⟩) (by assumption) ?_
  rotate_left
  · intro w hSw; (try dsimp only at hSw); go_simp; (try with_reducible rfl)
  try simp only [Act.put, List.setIfInBounds_toArray, List.set_cons_zero, List.set_cons_succ]
  refine wpHT_takeD (i := 1) (d := 32) (v := ?_) (by kernel_rfl) rfl rfl (by decide) (by kernel_rfl) (by kernel_rfl) (fun _ _ _ h => h) (Or.inl ⟨by kernel_rfl, ?_⟩) (by assumption) ?_
  rotate_left
  · intro w hSw; (try dsimp only at hSw); go_simp; (try with_reducible rfl)
  try simp only [Act.put, List.setIfInBounds_toArray, List.set_cons_zero, List.set_cons_succ]
  refine wpHT_takeD (i := 2) (d := 33) (v := ?_) (by kernel_rfl) rfl rfl (by decide) (by kernel_rfl) (by kernel_rfl) (fun _ _ _ h => h) (Or.inl ⟨by kernel_rfl, ?_⟩) (by assumption) ?_
  rotate_left
  · intro w hSw; (try dsimp only at hSw); go_simp; (try with_reducible rfl)
  try simp only [Act.put, List.setIfInBounds_toArray, List.set_cons_zero, List.set_cons_succ]
  refine wpHT_takeD (i := 3) (d := 34) (v := ?_) (by kernel_rfl) rfl rfl (by decide) (by kernel_rfl) (by kernel_rfl) (fun _ _ _ h => h) (Or.inl ⟨by kernel_rfl, ?_⟩) (by assumption) ?_
  rotate_left
  · intro w hSw; (try dsimp only at hSw); go_simp; (try with_reducible rfl)
  try simp only [Act.put, List.setIfInBounds_toArray, List.set_cons_zero, List.set_cons_succ]
  refine wpHT_takeD (i := 4) (d := 35) (v := ?_) (by kernel_rfl) rfl rfl (by decide) (by kernel_rfl) (by kernel_rfl) (fun _ _ _ h => h) (Or.inl ⟨by kernel_rfl, ?_⟩) (by assumption) ?_
  rotate_left
  · intro w hSw; (try dsimp only at hSw); go_simp; (try with_reducible rfl)
  try simp only [Act.put, List.setIfInBounds_toArray, List.set_cons_zero, List.set_cons_succ]
  refine wpHT_takeD (i := 5) (d := 36) (v := ?_) (by kernel_rfl) rfl rfl (by decide) (by kernel_rfl) (by kernel_rfl) (fun _ _ _ h => h) (Or.inl ⟨by kernel_rfl, ?_⟩) (by assumption) ?_
  rotate_left
  · intro w hSw; (try dsimp only at hSw); go_simp; (try with_reducible rfl)
  try simp only [Act.put, List.setIfInBounds_toArray, List.set_cons_zero, List.set_cons_succ]
  refine wpHT_takeD (i := 6) (d := 37) (v := ?_) (by kernel_rfl) rfl rfl (by decide) (by kernel_rfl) (by kernel_rfl) (fun _ _ _ h => h) (Or.inl ⟨by kernel_rfl, ?_⟩) (by assumption) ?_
  rotate_left
  · intro w hSw; (try dsimp only at hSw); go_simp; (try with_reducible rfl)
  try simp only [Act.put, List.setIfInBounds_toArray, List.set_cons_zero, List.set_cons_succ]
  refine wpHT_takeD (i := 7) (d := 38) (v := ?_) (by kernel_rfl) rfl rfl (by decide) (by kernel_rfl) (by kernel_rfl) (fun _ _ _ h => h) (Or.inl ⟨by kernel_rfl, ?_⟩) (by assumption) ?_
  rotate_left
  · intro w hSw; (try dsimp only at hSw); go_simp; (try with_reducible rfl)
  try simp only [Act.put, List.setIfInBounds_toArray, List.set_cons_zero, List.set_cons_succ]
  refine wpHT_takeD (i := 8) (d := 39) (v := ?_) (by kernel_rfl) rfl rfl (by decide) (by kernel_rfl) (by kernel_rfl) (fun _ _ _ h => h) (Or.inl ⟨by kernel_rfl, ?_⟩) (by assumption) ?_
  rotate_left
  · intro w hSw; (try dsimp only at hSw); go_simp; (try with_reducible rfl)
  try simp only [Act.put, List.setIfInBounds_toArray, List.set_cons_zero, List.set_cons_succ]
  refine wpHT_takeD (i := 9) (d := 40) (v := ?_) (by kernel_rfl) rfl rfl (by decide) (by kernel_rfl) (by kernel_rfl) (fun _ _ _ h => h) (Or.inl ⟨by kernel_rfl, ?_⟩) (by assumption) ?_
  rotate_left
  · intro w hSw; (try dsimp only at hSw); go_simp; (try with_reducible rfl)
  try simp only [Act.put, List.setIfInBounds_toArray, List.set_cons_zero, List.set_cons_succ]
  refine wpHT_takeD (i := 10) (d := 41) (v := ?_) (by kernel_rfl) rfl rfl (by decide) (by kernel_rfl) (by kernel_rfl) (fun _ _ _ h => h) (Or.inl ⟨by kernel_rfl, ?_⟩) (by assumption) ?_
  rotate_left
  · intro w hSw; (try dsimp only at hSw); go_simp; (try with_reducible rfl)
  try simp only [Act.put, List.setIfInBounds_toArray, List.set_cons_zero, List.set_cons_succ]
  refine wpHT_takeD (i := 11) (d := 42) (v := ?_) (by kernel_rfl) rfl rfl (by decide) (by kernel_rfl) (by kernel_rfl) (fun _ _ _ h => h) (Or.inl ⟨by kernel_rfl, ?_⟩) (by assumption) ?_
  rotate_left
  · intro w hSw; (try dsimp only at hSw); go_simp; (try with_reducible rfl)
  try simp only [Act.put, List.setIfInBounds_toArray, List.set_cons_zero, List.set_cons_succ]
  refine wpHT_one (i := 12) (by kernel_rfl) rfl (by decide) (fun K hK => ?_)
  go_simp
  go_at_call 56
  refine (file_any dir qf HQNO.out (by have := HDL.out; omega) _).mono ?_
  rintro e Y1 ⟨rfl, hb⟩
  have hb' : Below w.heap.size w Y1 := (Below.refl _ w).drew.trans hb
  have HBY := Lib.hid hb'
  have c0 := cell_below c0 hb'
  have c1 := cell_below c1 hb'
  have t0 := cell_below t0 hb'
  have t1 := cell_below t1 hb'
  have t2 := cell_below t2 hb'
  clear hb hb'
  refine hK.out _ _ ?_ (fun hHeld => ?_)
  · exact ⟨c0, c1, t0⟩
  clear hK K
  try simp only [Act.put, List.setIfInBounds_toArray, List.set_cons_zero, List.set_cons_succ]
  refine wpHT_one (i := 13) (by kernel_rfl) rfl (by decide) (fun K hK => ?_)
  go_simp
  go_at_call 81
  rw [← HQNM.out]
  refine (read_any d Sd B s q.nm (by rw [HQNM.out, segN_length]; have := HDL.out; omega) Y1 (HAP.out.new HBY.out).dk).mono ?_
  rintro e X0 ⟨vq, rfl, hvq, hbq⟩
  rw [HQG.out] at hvq
  obtain ⟨aq, cq, rfl, _⟩ := hvq.rd
  rw [HQL.out]
  have HBX0 := Lib.hid (next_below HBY.out hbq)
  have c0 := cell_below c0 hbq
  have c1 := cell_below c1 hbq
  have t0 := cell_below t0 hbq
  have t1 := cell_below t1 hbq
  have t2 := cell_below t2 hbq
  clear hvq hbq
  refine hK.out _ _ ?_ (fun hHeld => ?_)
  · exact ⟨c0, c1, t0⟩
  clear hK K
  try simp only [Act.put, List.setIfInBounds_toArray, List.set_cons_zero, List.set_cons_succ]
  refine wpHT_takeD (i := 14) (d := 30) (v := ?_) (by kernel_rfl) rfl rfl (by decide) (by kernel_rfl) (by kernel_rfl) (fun _ _ _ h => h) (Or.inl ⟨by kernel_rfl, ?_⟩) (by assumption) ?_
  rotate_left
  · intro w hSw; (try dsimp only at hSw); go_simp; (try with_reducible rfl)
  try simp only [Act.put, List.setIfInBounds_toArray, List.set_cons_zero, List.set_cons_succ]
  refine wpHT_takeD (i := 15) (d := 45) (v := ?_) (by kernel_rfl) rfl rfl (by decide) (by kernel_rfl) (by kernel_rfl) (fun _ _ _ h => h) (Or.inl ⟨by kernel_rfl, ?_⟩) (by assumption) ?_
  rotate_left
  · intro w hSw; (try dsimp only at hSw); go_simp; (try with_reducible rfl)
  try simp only [Act.put, List.setIfInBounds_toArray, List.set_cons_zero, List.set_cons_succ]
  refine wpHT_takeD (i := 16) (d := 46) (v := ?_) (by kernel_rfl) rfl rfl (by decide) (by kernel_rfl) (by kernel_rfl) (fun _ _ _ h => h) (Or.inl ⟨by kernel_rfl, ?_⟩) (by assumption) ?_
  rotate_left
  · intro w hSw; (try dsimp only at hSw); go_simp; (try with_reducible rfl)
  try simp only [Act.put, List.setIfInBounds_toArray, List.set_cons_zero, List.set_cons_succ]
  refine wpHT_takeD (i := 17) (d := 9) (v := ?_) (by kernel_rfl) rfl rfl (by decide) (by kernel_rfl) (by kernel_rfl) (fun _ _ _ h => h) (Or.inl ⟨by kernel_rfl, ?_⟩) (by assumption) ?_
  rotate_left
  · intro w hSw; (try dsimp only at hSw); go_simp; (try with_reducible rfl)
  try simp only [Act.put, List.setIfInBounds_toArray, List.set_cons_zero, List.set_cons_succ]
  refine wpHT_done (by kernel_rfl) ?_
  simp only [List.drop_succ_cons, List.drop_zero]
  clear hHeld c1
  have HMX := Lib.hid (HMP.out.new HBX0.out)
  have HCX := HCP
  have HAX := Lib.hid (HAP.out.new HBX0.out)
  have HFRX : Hid (Fr Sl w X0) := Fr.of_new HBX0.out
  go_wp2_with fail
  by_cases hsz : ql = qs
  · have b1 : ((ql : Int) != (qs : Int)) = false := by simp; omega
    by_cases hnx : no = qf + qr
    · have b2 : ((no : Int) != (qf : Int) + (qr : Int)) = false := by simp; omega
      have hpw := HPW.out
      have HJB : Hid (JoinB dir fl f = true) := by show _ = _; rw [HJL.out, HLINK.out]; simp [hsz, hnx]
      clear hsz hnx
      go_quiet (fail)
      clear b1 b2 hpw
      have hbq := below_dn (Below.refl X0.heap.size X0) nq
      have HMX := Lib.hid (HMX.out.new hbq)
      have HAX := Lib.hid (HAX.out.new hbq)
      have HFRX : Hid (Fr Sl w (X0.drewN nq)) := HFRX.out.trans (Fr.of_new hbq)
      have c0 := cell_below c0 hbq
      obtain ⟨Z0, hZ0⟩ : ∃ Z0, X0.drewN nq = Z0 := ⟨_, rfl⟩
      rw [hZ0] at HMX HAX HFRX c0 ⊢
      have HCX := HCX
      clear hZ0 hbq c3 t0 t1 t2 hp
      go_wp2_with fail
      go_at_call 81
      refine (read_any d Sd B s f.nm HNM.out Z0 HAX.out.dk).mono ?_
      rintro e X1 ⟨vb, rfl, hvb, hbb⟩
      rw [HGET.out] at hvb
      obtain ⟨ab, cb, rfl, hrb⟩ := hvb.rd
      have HRB := Lib.hid hrb
      have HB1 := Lib.hid hbb
      clear hvb hbb hrb
      go_wp2_with fail
      go_at_call 82
      refine (scan_any ab f.dt.length cb f.dt X1 HRB.out (by have := HDT.out; omega)).mono ?_
      rintro e X2 ⟨vr, vs, rfl, hown, hb2⟩
      obtain ⟨ar, cr, hvr, _⟩ := (show OwnO _ _ _ _ _ from OwnO.of_own hown.1).rd
      subst hvr
      have hb02 := next_below HB1.out hb2
      have HOWN := Lib.hid hown
      have HB2 := Lib.hid hb02
      have hs12 := HB1.out.size
      have HBS : Hid (Z0.heap.size ≤ X1.heap.size ∧ X1.heap.size ≤ X2.heap.size) := ⟨hs12, hb2.size⟩
      have c3 : X2.cell? ⟨l, 3, none⟩ = some (.slice (some ⟨rr, off, none⟩) m cap) := (HMX.out.new hb02).cells.2.2.2.1
      clear hown hb2 hb02 hs12
      obtain ⟨rl, hrl⟩ : ∃ rl, (scan f.dt).1.length = rl := ⟨_, rfl⟩
      obtain ⟨en, hen⟩ : ∃ en, (scan f.dt).2 = en := ⟨_, rfl⟩
      have HRL := Lib.hid hrl
      have HEN := Lib.hid hen
      have HNO := HNOO
      rw [hrl, hen]
      obtain ⟨X, hX⟩ : ∃ X, X2.alloc (.cells #[.int .i64 (no : Nat), .slice ar rl cr, .int .i64 (en : Nat)] 90) = X := ⟨_, rfl⟩
      have hbX : Below X2.heap.size X2 X := by rw [← hX]; exact (Below.refl _ _).alloc (Nat.le_refl _) _
      have hrowX : X.heap[X2.heap.size]? = some (.cells #[.int .i64 (no : Nat), .slice ar rl cr, .int .i64 (en : Nat)] 90 (0, 0)) := by rw [← hX]; exact heap_alloc_new X2 _
      have HBX := Lib.hid hbX
      have HRX := Lib.hid hrowX
      have HBXX := Lib.hid (next_below HB2.out hbX)
      clear hbX hrowX hrl hen
      have HSX : Hid (OwnO (X.alloc (.cells #[.pointer (some ⟨X2.heap.size, 0, none⟩)] 91)) 91 (.slice (some ⟨rr, off, none⟩) m cap) m (L.map Sv.ptr)) := by
       have hh := (HMX.out.hs.new HBXX.out).new ((Below.refl X.heap.size X).alloc (Nat.le_refl _) (.cells #[.pointer (some ⟨X2.heap.size, 0, none⟩)] 91))
       rw [HML.out] at hh
       exact hh
      go_wp2_with (at_builtin; refine wpList_appO Sseg rfl (.tmp 86) (.tmp 92) rfl rfl HSX.out rfl (Rd.one _ _ _) ?c1 ?c2 ?c3 ?_)
      case c1 => simp [Value.oneCell']
      case c2 => omega
      case c3 => unfold maxLen; omega
      intro v5 w5 hown hgr hbk
      obtain ⟨a', cap', rfl, _⟩ := hown.rd
      have hYb : Below Z0.heap.size Z0 (X.alloc (.cells #[.pointer (some ⟨X2.heap.size, 0, none⟩)] 91)) := HBXX.out.alloc HBXX.out.size _
      have hXl := (Array.getElem?_eq_some_iff.1 HRX.out).1
      have hXs : (X.alloc (.cells #[.pointer (some ⟨X2.heap.size, 0, none⟩)] 91)).heap.size = X.heap.size + 1 := by simp
      have hob := HOWN.out.at_base
      have hX2s := HBX.out.size
      have hownY : Own88 (X.alloc (.cells #[.pointer (some ⟨X2.heap.size, 0, none⟩)] 91)) X1.heap.size (.slice ar (scan f.dt).1.length cr) vs (scan f.dt).1 := (HOWN.out.below (Nat.le_refl _) HBX.out).below (Nat.le_refl _) ((Below.refl _ X).alloc (Nat.le_refl _) _)
      have hsz : szS (sgOf dir f) = en := by rw [szS_sgOf, HEN.out]
      have hp := HMX.out.pushed HCX.out (fun k hk => HAX.out.lt.2 k hk) (Y := X.alloc (.cells #[.pointer (some ⟨X2.heap.size, 0, none⟩)] 91)) (w5 := w5) (y := ⟨sgOf dir f, X2.heap.size, .slice ar (scan f.dt).1.length cr, vs⟩) (a' := a') (n' := m + 1) (cap' := cap')
       hYb (by show Z0.heap.size ≤ X2.heap.size; have := HBS.out; omega) (by show X2.heap.size < _; rw [hXs]; omega) (by rw [hsz]; show _ = some (Obj.cells #[.int .i64 (numS dir f.nm : Nat), .slice ar (scan f.dt).1.length cr, .int .i64 (en : Nat)] 90 (0, 0)); rw [HNO.out, HRL.out]; exact (heap_alloc_old X _ hXl).trans HRX.out)
       (fun W hW => hownY.recs HBS.out.1 hW) (fun k hk => by have h1 := hob.1 k hk; have h2 := HBS.out; rw [hXs]; omega) (fun u hu k hk => by have h1 := hob.2 u hu k hk; have h2 := HBS.out; rw [hXs]; omega) (by rw [HML.out]; exact hown) hgr (hbk.imp id fun e => e.trans (by simp))
      obtain ⟨p1, p2, p3, p4, p5⟩ := hp
      have P3 := Lib.hid p3
      have P4 := Lib.hid p4
      have P5 := Lib.hid p5
      clear p3 p4 p5 hown hgr hbk hX hYb hXl hXs hob hX2s hownY hsz c3
      go_wp2_with fail
      go_ret
      refine HFin.out true _ (Sx Sl Z0 (w5.setCell ⟨l, 3, none⟩ (.slice a' (m + 1) cap'))) HJB.out (HAX.out.log (Sl' := Sx Sl Z0 (w5.setCell ⟨l, 3, none⟩ (.slice a' (m + 1) cap'))) ⟨_, _, P3.out, by rw [List.map_append, HLM.out]; show _ = (fl ++ [f]).map (sgOf dir); rw [List.map_append]; rfl, P5.out, fun k hk => ?_⟩ P4.out (fun k hk => hk)) (HFRX.out.trans P4.out) (fun k hk => hk.imp id fun e => ⟨by have := HFRX.out.size; omega, e.2⟩)
      rcases hk with hk | hk
      · exact Nat.lt_of_lt_of_le (HAX.out.lt.2 k hk) P4.out.size
      · exact hk.2
    · have b2 : ((no : Int) != (qf : Int) + (qr : Int)) = true := by simp; omega
      have hpw := HPW.out
      have HJB : Hid (JoinB dir fl f = false) := by show _ = _; rw [HJL.out, HLINK.out]; simp [hnx]
      clear hsz hnx
      go_quiet (fail)
      clear b1 b2 hpw
      have hbq := below_dn (Below.refl X0.heap.size X0) nq
      have HG := Lib.hid (HFin.out false _ Sl HJB.out (HAX.out.new hbq) (HFRX.out.trans (Fr.of_new hbq)) (fun k hk => .inl hk))
      clear hbq
      go_wp2_with fail
      go_ret
      exact HG.out
  · have b1 : ((ql : Int) != (qs : Int)) = true := by simp; omega
    have HJB : Hid (JoinB dir fl f = false) := by show _ = _; rw [HJL.out, HLINK.out]; simp [hsz]
    clear hsz
    go_quiet (fail)
    clear b1
    have hbq := below_dn (Below.refl X0.heap.size X0) nq
    have HG := Lib.hid (HFin.out false _ Sl HJB.out (HAX.out.new hbq) (HFRX.out.trans (Fr.of_new hbq)) (fun k hk => .inl hk))
    clear hbq
    go_wp2_with fail
    go_ret
    exact HG.out
end Go.Proofs.YtjjcilinghgphaaGreat

/-! ### The last segment mended (mend). -/
namespace Go.Proofs.YtjjcilinghgphaaGreat
open Go.RowKit Go.Maps
set_option maxRecDepth 100000
attribute [local go_sem] bs_size bs_toList
def mendL (s : DS) (dir : List UInt8) (room : Int) (pre : List Fl) (f : Fl) : LR := if (mendS s f).2 ≠ 0 then ⟨(mendS s f).1, joinedG dir room pre f, (mendS s f).2⟩ else syncL (mendS s f).1 (joinedG dir room pre f)
theorem LTold.trans {B B' : Int} {w wx w' : World} {d l : Nat} {T : Nat → Prop} {r : LR} {e : Ending} (h1 : Fr T w wx) (h2 : LTold B wx d l (Sx T w wx) r e w') (ht : ∀ k, T k → k < w.heap.size) (hB : B ≤ B') : LTold B' w d l T r e w' := by
 obtain ⟨q1, q2, q3⟩ := h2
 obtain ⟨r1, r2⟩ := LWS.trans h1 q2 q3 ht
 exact ⟨q1, r1.mono hB (fun _ hk => hk) r1.lt, r2⟩
set_option maxHeartbeats 4000000 in
theorem mend_any {w0 w : World} {d l : Nat} {T Sd Sl : Nat → Prop} {B : Int} {s : DS} {dir : List UInt8} {room : Int} {pre : List Fl} {f : Fl} (hB : B < 999999999990) (hA : LAt w0 T d l B Sd Sl s dir room 0 (joinedG dir room pre f).segs w) (hdl : dir.length ≤ 11)
 (hf : getF f.nm s.fs = some f) (hn : 0 < numS dir f.nm) (hok : (mendS s f).2 = 0 → LOk (mendS s f).1 (joinedG dir room pre f)) :
 Calls Tryz.prog 52 #[.pointer (some ⟨l, 0, none⟩)] w (LTold (B + 2) w0 d l T (mendL s dir room pre f)) := by
 obtain ⟨sv, L, hM, hL, hC, hlt⟩ := hA.lg
 obtain ⟨P, x, hLx, hP, hx, hi⟩ := last_view hL
 have hx' : x.sg = sgOf dir f := hx
 obtain ⟨c0, c1, _, _, _, _, _⟩ := hM.cells
 obtain ⟨s0, _, s2, _, _⟩ := (hM.hc x (List.mem_of_getElem? hi)).cells
 rw [hx'] at s0 s2
 rw [szS_sgOf] at s2
 have t0 : w.cell? ⟨x.b, 0, none⟩ = some (.int .i64 (numS dir f.nm : Nat)) := s0
 have hla := fun W (hW : ∃ k, W = w.drewN k) => last_seg (hM.draws hW) hi
 obtain ⟨xb, hxb⟩ : ∃ xb, x.b = xb := ⟨_, rfl⟩
 rw [hxb] at t0 s2
 have HLA : Hid (∀ W, (∃ k, W = w.drewN k) → Calls Tryz.prog 53 #[.pointer (some ⟨l, 0, none⟩)] W fun e w' => e = .returned (.pointer (some ⟨xb, 0, none⟩)) ∧ ∃ n, w' = W.drewN n) := fun W hW => by rw [← hxb]; exact hla W hW
 have hdt : f.dt.length ≤ 4194304 := Nat.le_trans (dt_le_tot (getF_some hf).1) hA.dk.ok.tot
 have hsl := scan_le f.dt
 have hno := numS_le dir f.nm
 have hnm := (numS_pos hn).1
 have hnl : f.nm.length = dir.length + 9 := by
  have h1 := segN_length dir (numS dir f.nm)
  rw [← hnm] at h1
  exact h1
 have HGET : Hid (((getF f.nm s.fs).map Fl.dt).getD [] = f.dt) := by show _ = _; rw [hf]; rfl
 have HNM : Hid (f.nm.length ≤ 9223372036854775807) := by show _ ≤ _; omega
 have HCUT : Hid (mendS s f = if (scan f.dt).2 < f.dt.length then cutS s f.nm ((scan f.dt).2 : Nat) else (s, 0)) := rfl
 obtain ⟨no, hnoo⟩ : ∃ no, numS dir f.nm = no := ⟨_, rfl⟩
 obtain ⟨en, hen⟩ : ∃ en, (scan f.dt).2 = en := ⟨_, rfl⟩
 obtain ⟨dl, hdtl⟩ : ∃ dl, f.dt.length = dl := ⟨_, rfl⟩
 rw [hnoo] at t0 hno hnm
 rw [hen] at s2 hsl
 rw [hen, hdtl] at HCUT
 rw [hdtl] at hdt hsl
 have HA := Lib.hid hA
 have HM := Lib.hid hM
 have HC := Lib.hid hC
 have HOK := Lib.hid hok
 have HNO := Lib.hid hno
 have HNMS := Lib.hid hnm
 have HDTL := Lib.hid hdtl
 have HDL := Lib.hid hdl
 clear hA hM hL hC hlt hLx hP hx hi hx' s0 hla hxb hf hok hnoo hen hdtl hn hno hnm hnl hdl
 go_enter Tryz.func52, Tryz.ntmps52
 go_wp2_with fail
 go_at_call 53
 refine (HLA.out w ⟨0, rfl⟩).mono ?_
 rintro e w1 ⟨rfl, i, rfl⟩
 have hb1 := below_dn (Below.refl w.heap.size w) i
 have c0 := cell_below c0 hb1
 have c1 := cell_below c1 hb1
 have t0 := cell_below t0 hb1
 have s2 := cell_below s2 hb1
 obtain ⟨w1, hw1⟩ : ∃ w1, w.drewN i = w1 := ⟨_, rfl⟩
 rw [hw1] at hb1 c0 c1 t0 s2 ⊢
 have HB1 := Lib.hid hb1
 clear hw1 hb1
 go_wp2_with fail
 refine wp_region_ht 8 (fun W => W.cell? ⟨l, 1, none⟩ = some (.string (bs dir)) ∧ W.cell? ⟨xb, 0, none⟩ = some (.int .i64 (no : Nat))) (by kernel_rfl) (by kernel_rfl) ?_ (fun hHeld => ?_)
 · exact ⟨c1, t0⟩
 try simp only [Act.put, List.setIfInBounds_toArray, List.set_cons_zero, List.set_cons_succ]
 refine wpHT_takeD (i := 0) (d := 10) (v := ?_) (by kernel_rfl) rfl rfl (by decide) (by kernel_rfl) (by kernel_rfl) (fun _ _ _ h => h) (Or.inl ⟨by kernel_rfl, ?_⟩) (by assumption) ?_
 rotate_left
 · intro w hSw; (try dsimp only at hSw); go_simp; (try with_reducible rfl)
 try simp only [Act.put, List.setIfInBounds_toArray, List.set_cons_zero, List.set_cons_succ]
 refine wpHT_takeD (i := 1) (d := 11) (v := ?_) (by kernel_rfl) rfl rfl (by decide) (by kernel_rfl) (by kernel_rfl) (fun _ _ _ h => h) (Or.inl ⟨by kernel_rfl, ?_⟩) (by assumption) ?_
 rotate_left
 · intro w hSw; (try dsimp only at hSw); go_simp; (try with_reducible rfl)
 try simp only [Act.put, List.setIfInBounds_toArray, List.set_cons_zero, List.set_cons_succ]
 refine wpHT_takeD (i := 2) (d := 12) (v := ?_) (by kernel_rfl) rfl rfl (by decide) (by kernel_rfl) (by kernel_rfl) (fun _ _ _ h => h) (Or.inl ⟨by kernel_rfl, ?_⟩) (by assumption) ?_
 rotate_left
 · intro w hSw; (try dsimp only at hSw); go_simp; (try with_reducible rfl)
 try simp only [Act.put, List.setIfInBounds_toArray, List.set_cons_zero, List.set_cons_succ]
 refine wpHT_takeD (i := 3) (d := 13) (v := ?_) (by kernel_rfl) rfl rfl (by decide) (by kernel_rfl) (by kernel_rfl) (fun _ _ _ h => h) (Or.inl ⟨by kernel_rfl, ?_⟩) (by assumption) ?_
 rotate_left
 · intro w hSw; (try dsimp only at hSw); go_simp; (try with_reducible rfl)
 try simp only [Act.put, List.setIfInBounds_toArray, List.set_cons_zero, List.set_cons_succ]
 refine wpHT_takeD (i := 4) (d := 14) (v := ?_) (by kernel_rfl) rfl rfl (by decide) (by kernel_rfl) (by kernel_rfl) (fun _ _ _ h => h) (Or.inl ⟨by kernel_rfl, ?_⟩) (by assumption) ?_
 rotate_left
 · intro w hSw; (try dsimp only at hSw); go_simp; (try with_reducible rfl)
 try simp only [Act.put, List.setIfInBounds_toArray, List.set_cons_zero, List.set_cons_succ]
 refine wpHT_takeD (i := 5) (d := 15) (v := ?_) (by kernel_rfl) rfl rfl (by decide) (by kernel_rfl) (by kernel_rfl) (fun _ _ _ h => h) (Or.inl ⟨by kernel_rfl, ?_⟩) (by assumption) ?_
 rotate_left
 · intro w hSw; (try dsimp only at hSw); go_simp; (try with_reducible rfl)
 try simp only [Act.put, List.setIfInBounds_toArray, List.set_cons_zero, List.set_cons_succ]
 refine wpHT_takeD (i := 6) (d := 16) (v := ?_) (by kernel_rfl) rfl rfl (by decide) (by kernel_rfl) (by kernel_rfl) (fun _ _ _ h => h) (Or.inl ⟨by kernel_rfl, ?_⟩) (by assumption) ?_
 rotate_left
 · intro w hSw; (try dsimp only at hSw); go_simp; (try with_reducible rfl)
 try simp only [Act.put, List.setIfInBounds_toArray, List.set_cons_zero, List.set_cons_succ]
 refine wpHT_takeD (i := 7) (d := 17) (v := ?_) (by kernel_rfl) rfl rfl (by decide) (by kernel_rfl) (by kernel_rfl) (fun _ _ _ h => h) (Or.inl ⟨by kernel_rfl, ?_⟩) (by assumption) ?_
 rotate_left
 · intro w hSw; (try dsimp only at hSw); go_simp; (try with_reducible rfl)
 try simp only [Act.put, List.setIfInBounds_toArray, List.set_cons_zero, List.set_cons_succ]
 refine wpHT_done (by kernel_rfl) ?_
 simp only [List.drop_succ_cons, List.drop_zero]
 clear hHeld
 go_wp2_with fail
 go_at_call 56
 refine (file_any dir no HNO.out (by have := HDL.out; omega) _).mono ?_
 rintro e w2 ⟨rfl, hb⟩
 have hb' : Below w1.heap.size w1 w2 := (Below.refl _ w1).drew.trans hb
 have HB2 := Lib.hid (next_below HB1.out hb')
 have c0 := cell_below c0 hb'
 have s2 := cell_below s2 hb'
 clear hb hb' c1 t0
 rw [← HNMS.out]
 go_wp2_with fail
 go_at_call 81
 refine (read_any d Sd B s f.nm HNM.out w2 (HA.out.new HB2.out).dk).mono ?_
 rintro e w3 ⟨vb, rfl, hvb, hbb⟩
 rw [HGET.out] at hvb
 obtain ⟨ab, cb, rfl, _⟩ := hvb.rd
 rw [HDTL.out]
 have HB3 := Lib.hid (next_below HB2.out hbb)
 have c0 := cell_below c0 hbb
 have s2 := cell_below s2 hbb
 have HA3 := Lib.hid (HA.out.new HB3.out)
 clear hvb hbb
 by_cases hcut : en < dl
 · have HCUT : Hid (mendS s f = cutS s f.nm (en : Nat)) := by show _ = _; rw [HCUT.out, if_pos hcut]
   have hcut' : (en : Int) < (dl : Int) := by omega
   go_wp2_with fail
   refine wp_region_ht 9 (fun W => W.cell? ⟨l, 0, none⟩ = some (.pointer (some ⟨d, 0, none⟩)) ∧ W.cell? ⟨xb, 2, none⟩ = some (.int .i64 (en : Nat))) (by kernel_rfl) (by kernel_rfl) ?_ (fun hHeld => ?_)
   · exact ⟨c0, s2⟩
   try simp only [Act.put, List.setIfInBounds_toArray, List.set_cons_zero, List.set_cons_succ]
   refine wpHT_takeD (i := 0) (d := 35) (v := ?_) (by kernel_rfl) rfl rfl (by decide) (by kernel_rfl) (by kernel_rfl) (fun _ _ _ h => h) (Or.inl ⟨by kernel_rfl, ?_⟩) (by assumption) ?_
   rotate_left
   · intro w hSw; (try dsimp only at hSw); go_simp; (try with_reducible rfl)
   try simp only [Act.put, List.setIfInBounds_toArray, List.set_cons_zero, List.set_cons_succ]
   refine wpHT_takeD (i := 1) (d := 36) (v := ?_) (by kernel_rfl) rfl rfl (by decide) (by kernel_rfl) (by kernel_rfl) (fun _ _ _ h => h) (Or.inl ⟨by kernel_rfl, ?_⟩) (by assumption) ?_
   rotate_left
   · intro w hSw; (try dsimp only at hSw); go_simp; (try with_reducible rfl)
   try simp only [Act.put, List.setIfInBounds_toArray, List.set_cons_zero, List.set_cons_succ]
   refine wpHT_takeD (i := 2) (d := 37) (v := ?_) (by kernel_rfl) rfl rfl (by decide) (by kernel_rfl) (by kernel_rfl) (fun _ _ _ h => h) (Or.inl ⟨by kernel_rfl, ?_⟩) (by assumption) ?_
   rotate_left
   · intro w hSw; (try dsimp only at hSw); go_simp; (try with_reducible rfl)
   try simp only [Act.put, List.setIfInBounds_toArray, List.set_cons_zero, List.set_cons_succ]
   refine wpHT_takeD (i := 3) (d := 38) (v := ?_) (by kernel_rfl) rfl rfl (by decide) (by kernel_rfl) (by kernel_rfl) (fun _ _ _ h => h) (Or.inl ⟨by kernel_rfl, ?_⟩) (by assumption) ?_
   rotate_left
   · intro w hSw; (try dsimp only at hSw); go_simp; (try with_reducible rfl)
   try simp only [Act.put, List.setIfInBounds_toArray, List.set_cons_zero, List.set_cons_succ]
   refine wpHT_takeD (i := 4) (d := 39) (v := ?_) (by kernel_rfl) rfl rfl (by decide) (by kernel_rfl) (by kernel_rfl) (fun _ _ _ h => h) (Or.inl ⟨by kernel_rfl, ?_⟩) (by assumption) ?_
   rotate_left
   · intro w hSw; (try dsimp only at hSw); go_simp; (try with_reducible rfl)
   try simp only [Act.put, List.setIfInBounds_toArray, List.set_cons_zero, List.set_cons_succ]
   refine wpHT_takeD (i := 5) (d := 40) (v := ?_) (by kernel_rfl) rfl rfl (by decide) (by kernel_rfl) (by kernel_rfl) (fun _ _ _ h => h) (Or.inl ⟨by kernel_rfl, ?_⟩) (by assumption) ?_
   rotate_left
   · intro w hSw; (try dsimp only at hSw); go_simp; (try with_reducible rfl)
   try simp only [Act.put, List.setIfInBounds_toArray, List.set_cons_zero, List.set_cons_succ]
   refine wpHT_takeD (i := 6) (d := 41) (v := ?_) (by kernel_rfl) rfl rfl (by decide) (by kernel_rfl) (by kernel_rfl) (fun _ _ _ h => h) (Or.inl ⟨by kernel_rfl, ?_⟩) (by assumption) ?_
   rotate_left
   · intro w hSw; (try dsimp only at hSw); go_simp; (try with_reducible rfl)
   try simp only [Act.put, List.setIfInBounds_toArray, List.set_cons_zero, List.set_cons_succ]
   refine wpHT_takeD (i := 7) (d := 42) (v := ?_) (by kernel_rfl) rfl rfl (by decide) (by kernel_rfl) (by kernel_rfl) (fun _ _ _ h => h) (Or.inl ⟨by kernel_rfl, ?_⟩) (by assumption) ?_
   rotate_left
   · intro w hSw; (try dsimp only at hSw); go_simp; (try with_reducible rfl)
   try simp only [Act.put, List.setIfInBounds_toArray, List.set_cons_zero, List.set_cons_succ]
   refine wpHT_takeD (i := 8) (d := 43) (v := ?_) (by kernel_rfl) rfl rfl (by decide) (by kernel_rfl) (by kernel_rfl) (fun _ _ _ h => h) (Or.inl ⟨by kernel_rfl, ?_⟩) (by assumption) ?_
   rotate_left
   · intro w hSw; (try dsimp only at hSw); go_simp; (try with_reducible rfl)
   try simp only [Act.put, List.setIfInBounds_toArray, List.set_cons_zero, List.set_cons_succ]
   refine wpHT_done (by kernel_rfl) ?_
   simp only [List.drop_succ_cons, List.drop_zero]
   clear hHeld
   have HA4 := Lib.hid (HA3.out.new (Below.refl w3.heap.size w3).drew)
   go_wp2_with fail
   go_at_call 83
   refine (cut_any d Sd B (by omega) s f.nm HNM.out (en : Nat) _ HA4.out.dk).mono ?_
   rintro e w5 ⟨rfl, hd⟩
   rw [← HCUT.out]
   rw [← HCUT.out] at hd
   have HA5 := Lib.hid (HA4.out.disk hd)
   clear hd c0 s2 hcut hcut'
   by_cases h0 : (mendS s f).2 = 0
   · rw [h0]
     have hml : mendL s dir room pre f = syncL (mendS s f).1 (joinedG dir room pre f) := by unfold mendL; rw [if_neg (fun h => h h0)]
     have HML := Lib.hid hml
     have HOK0 := Lib.hid (HOK.out h0)
     clear hml h0
     go_wp2_with fail
     go_at_call 18
     obtain ⟨q1, q2⟩ := LAt.fin (g := joinedG dir room pre f) HA5.out
     refine (wsync_any (by omega) q1 HOK0.out).mono ?_
     rintro e w6 hr
     have hr2 := LTold.trans (B' := B + 2) q2 hr HA.out.t0 (by omega)
     rw [← HML.out] at hr2
     obtain ⟨rfl, hr3⟩ := id hr2
     have HR := Lib.hid hr2
     clear q1 q2 hr hr2 hr3
     go_wp2_with fail
     go_ret
     exact HR.out
   · have hml : mendL s dir room pre f = ⟨(mendS s f).1, joinedG dir room pre f, (mendS s f).2⟩ := by unfold mendL; rw [if_pos h0]
     have hbE : ((mendS s f).2 != 0) = true := by simpa using h0
     have HG : Hid (LTold (B + 2) w0 d l T (mendL s dir room pre f) (.returned (.int .i64 (mendS s f).2)) w5) := by
      rw [hml]
      exact LAt.told (g := joinedG dir room pre f) (HA5.out.mono (by omega))
     clear hml h0
     obtain ⟨e, he⟩ : ∃ e, (mendS s f).2 = e := ⟨_, rfl⟩
     rw [he] at HG hbE ⊢
     clear he
     go_wp2_with fail
     go_ret
     exact HG.out
 · have hms : mendS s f = (s, 0) := by rw [HCUT.out, if_neg hcut]
   have hcut' : ¬ (en : Int) < (dl : Int) := by omega
   have hml : mendL s dir room pre f = syncL s (joinedG dir room pre f) := by unfold mendL; rw [hms, if_neg (fun h => h rfl)]
   have hok0 := HOK.out (by rw [hms])
   rw [hms] at hok0
   have HML := Lib.hid hml
   have HOK0 := Lib.hid hok0
   clear hml hms hok0
   go_wp2_with fail
   go_at_call 18
   obtain ⟨q1, q2⟩ := LAt.fin (g := joinedG dir room pre f) HA3.out
   refine (wsync_any (by omega) q1 HOK0.out).mono ?_
   rintro e w6 hr
   have hr2 := LTold.trans (B' := B + 2) q2 hr HA.out.t0 (by omega)
   rw [← HML.out] at hr2
   obtain ⟨rfl, hr3⟩ := id hr2
   have HR := Lib.hid hr2
   clear q1 q2 hr hr2 hr3
   go_wp2_with fail
   go_ret
   exact HR.out
end Go.Proofs.YtjjcilinghgphaaGreat

/-! ### A log opened (Open). -/
namespace Go.Proofs.YtjjcilinghgphaaGreat
open Go.RowKit Go.Maps Go.Sort
set_option maxRecDepth 100000
attribute [local go_sem] bs_size bs_toList
section
variable {s : DS} {dir : List UInt8} {room : Int}
theorem openL_bad (h : openA dir room s ≠ 0) : openL s dir room = ⟨s, none, openA dir room s⟩ := by unfold openL; rw [if_pos h]
theorem openL_new (h : openA dir room s = 0) (h2 : segF dir s.fs = []) : openL s dir room = openN s dir room := by unfold openL; rw [if_neg (fun e => e h), h2]; rfl
theorem openL_corrupt (h : openA dir room s = 0) (h2 : segF dir s.fs ≠ []) (h3 : linksB dir (segF dir s.fs) = false) : openL s dir room = ⟨s, none, 13⟩ := by
 unfold openL
 rw [if_neg (fun e => e h)]
 cases hl : (segF dir s.fs).getLast? with
 | none => exact absurd (List.getLast?_eq_none_iff.1 hl) h2
 | some f => simp only [if_pos h3]
theorem openL_mend (h : openA dir room s = 0) {pre : List Fl} {f : Fl} (h2 : segF dir s.fs = pre ++ [f]) (h3 : linksB dir (pre ++ [f]) = true) : openL s dir room = openM s dir room pre f := by
 unfold openL
 rw [if_neg (fun e => e h), h2]
 simp [h3]
theorem openM_eq (pre : List Fl) (f : Fl) : openM s dir room pre f = ⟨(mendL s dir room pre f).s, if (mendL s dir room pre f).e = 0 then some (mendL s dir room pre f).g else none, (mendL s dir room pre f).e⟩ := by
 unfold openM mendL
 by_cases h1 : (mendS s f).2 ≠ 0
 · rw [if_pos h1, if_pos h1, if_neg h1]
 · rw [if_neg h1, if_neg h1]
   by_cases h2 : (syncL (mendS s f).1 (joinedG dir room pre f)).e = 0
   · rw [if_neg (fun e => e h2), if_pos h2, h2]
   · rw [if_pos h2, if_neg h2]
theorem openA_zero (h1 : 1 ≤ dir.length) (h2 : dir.length ≤ 11) (h3 : 64 ≤ room) (h4 : room ≤ 262144) (h5 : s.dn = false) : openA dir room s = 0 := by
 unfold openA
 rw [if_neg (by omega), if_neg (by omega), h5]; rfl
theorem links_last {fl : List Fl} {f : Fl} (h : linksB dir fl = true) : linksB dir (fl ++ [f]) = JoinB dir fl f := by
 unfold JoinB
 cases hl : fl.getLast? with
 | none => rw [List.getLast?_eq_none_iff.1 hl]; rfl
 | some a =>
  obtain ⟨ys, rfl⟩ := List.getLast?_eq_some_iff.1 hl
  rw [List.append_assoc]
  show linksB dir (ys ++ [a, f]) = _
  rw [links_snoc, h]
  rfl
end
def OpenPost (B : Int) (w : World) (d : Nat) (S : Nat → Prop) (r : OR) (e : Ending) (w' : World) : Prop :=
 match r.g with
 | none => e = .returned (.tuple #[.pointer none, .int .i64 r.e]) ∧ Done B w d S r.s w'
 | some g => ∃ l, e = .returned (.tuple #[.pointer (some ⟨l, 0, none⟩), .int .i64 r.e]) ∧ LWS B w' d l (Sx S w w') r.s g ∧ Fr S w w' ∧ LOk r.s g
theorem LAt.done {w w' : World} {S Sd Sl : Nat → Prop} {d l : Nat} {B : Int} {s : DS} {dir : List UInt8} {room : Int} {sf : Nat} {gs : List Sg} (h : LAt w S d l B Sd Sl s dir room sf gs w') : Done B w d S s w' :=
 ⟨h.dk.mono (Int.le_refl _) h.sd fun k hk => hk.elim (fun e => Nat.lt_of_lt_of_le (h.t0 k e) h.fr.size) (fun e => e.2), h.fr⟩
theorem LWS.done {B : Int} {w w' : World} {d l : Nat} {S : Nat → Prop} {s : DS} {g : LG} (h : LWS B w' d l (Sx S w w') s g) (hf : Fr S w w') : Done B w d S s w' := by
 obtain ⟨Sd, Sl, q1, q2, q3, q4, q5, q6⟩ := h
 exact ⟨q1.mono (Int.le_refl _) q4 q6, hf⟩
/-- How far Open is: k names looked at. -/
structure OpAt (w : World) (S : Nat → Prop) (d l : Nat) (B : Int) (s : DS) (dir : List UInt8) (room : Int) (an : Option Addr) (n cn : Nat) (k : Nat) (Sl : Nat → Prop) (fl : List Fl) (W : World) : Prop where
 la : LAt w S d l B S Sl s dir room 0 (fl.map (sgOf dir)) W
 fls : fl = segF dir (s.fs.take k)
 lk : linksB dir fl = true
 nm : Rd W an n cn 1 ((s.fs.map Fl.nm).map encStr)
 nb : BlkIn an n fun b => ¬ Sl b ∧ b < W.heap.size
theorem OpAt.new {w : World} {S : Nat → Prop} {d l : Nat} {B : Int} {s : DS} {dir : List UInt8} {room : Int} {an : Option Addr} {n cn : Nat} {k : Nat} {Sl : Nat → Prop} {fl : List Fl} {W W' : World} (h : OpAt w S d l B s dir room an n cn k Sl fl W) (hb : Below W.heap.size W W') : OpAt w S d l B s dir room an n cn k Sl fl W' :=
 ⟨h.la.new hb, h.fls, h.lk, h.nm.below hb, fun h0 b hb' => ⟨(h.nb h0 b hb').1, Nat.lt_of_lt_of_le (h.nb h0 b hb').2 hb.size⟩⟩
theorem OpAt.name {w : World} {S : Nat → Prop} {d l : Nat} {B : Int} {s : DS} {dir : List UInt8} {room : Int} {an : Option Addr} {n cn : Nat} {k : Nat} {Sl : Nat → Prop} {fl : List Fl} {W : World} (h : OpAt w S d l B s dir room an n cn k Sl fl W) {f : Fl} (hf : s.fs[k]? = some f) (hn : n = s.fs.length) :
 ∃ b off, an = some ⟨b, off, none⟩ ∧ W.cell? ⟨b, off + k, none⟩ = some (.string (bs f.nm)) := by
 have hk := (List.getElem?_eq_some_iff.1 hf).1
 obtain ⟨b, off, ha, _, hc⟩ := h.nm.at (by omega)
 refine ⟨b, off, ha, hc k _ ?_⟩
 rw [List.getElem?_map, List.getElem?_map, hf, ← encStr_bs]; rfl
theorem LgM.start (w : World) (d : Nat) (dir : List UInt8) (room : Int) : LgM (w.alloc (.cells #[.pointer (some ⟨d, 0, none⟩), .string (bs dir), .int .i64 room, .slice none 0 0, .int .i64 0] 86)) w.heap.size d dir room 0 (.slice none 0 0) [] :=
 ⟨heap_alloc_new w _, OwnO.nil _ _, fun x hx => (by cases hx), List.Pairwise.nil⟩
theorem LAt.start {w W : World} {d : Nat} {B : Int} {S : Nat → Prop} {s : DS} (h : DkS B w d S s) (hb : Below w.heap.size w W) (dir : List UInt8) (room : Int) :
 LAt w S d W.heap.size B S (fun k => k = W.heap.size) s dir room 0 [] (W.alloc (.cells #[.pointer (some ⟨d, 0, none⟩), .string (bs dir), .int .i64 room, .slice none 0 0, .int .i64 0] 86)) := by
 have hb2 := hb.alloc hb.size (.cells #[.pointer (some ⟨d, 0, none⟩), .string (bs dir), .int .i64 room, .slice none 0 0, .int .i64 0] 86)
 have hs := hb.size
 have hsz : (W.alloc (.cells #[.pointer (some ⟨d, 0, none⟩), .string (bs dir), .int .i64 room, .slice none 0 0, .int .i64 0] 86)).heap.size = W.heap.size + 1 := by simp
 refine ⟨h.below hb2, ⟨_, _, LgM.start W d dir room, rfl, ⟨rfl, fun k hk => (by simp [Value.ownBlock] at hk), fun x hx => (by cases hx)⟩, fun k hk => by rw [hsz]; omega⟩, fun k hk e => ?_, fun k hk => .inl hk, fun k hk => .inr ⟨by omega, by rw [hsz]; omega⟩, Fr.of_new hb2, h.lt⟩
 have := h.lt k hk
 omega
set_option maxHeartbeats 8000000 in
theorem open_any (d : Nat) (S : Nat → Prop) (B : Int) (hB : B < 999999999990) (s : DS) (dir : List UInt8) (hdir : dir.length ≤ 1000000) (room : Int) (w : World) (h : DkS B w d S s) :
 Calls Tryz.prog 15 #[.pointer (some ⟨d, 0, none⟩), .string (bs dir), .int .i64 room] w (OpenPost (B + 3) w d S (openL s dir room)) := by
 have HD := Lib.hid h
 have hbad : Hid (openA dir room s ≠ 0 → ∀ W, Below w.heap.size w W → OpenPost (B + 3) w d S (openL s dir room) (.returned (.tuple #[.pointer none, .int .i64 (openA dir room s)])) W) := fun hn W hW => by
  rw [openL_bad hn]
  exact ⟨rfl, (h.below hW).mono (by omega) (fun k hk => .inl hk) (Sx.lt hW.size h.lt), Fr.of_new hW⟩
 by_cases hdb : dir.length < 1 ∨ 11 < dir.length
 · have hA : openA dir room s = 10 := by unfold openA; rw [if_pos hdb]
   have HG := Lib.hid (hbad.out (by rw [hA]; decide) w (Below.refl _ _))
   rw [hA] at HG
   have HDB := Lib.hid hdb
   clear h hbad hA hdb
   go_enter Tryz.func15, Tryz.ntmps15
   go_wp2_with fail
   go_at_call 47
   refine (walName_bad dir 1 HDB.out (by omega) w).mono ?_
   rintro e w1 ⟨rfl, rfl⟩
   go_wp2_with fail
   go_ret2
   exact HG.out
 have hd1 : 1 ≤ dir.length := by omega
 have hd2 : dir.length ≤ 11 := by omega
 by_cases hrb : room < 64 ∨ 262144 < room
 · have hA : openA dir room s = 1 := by unfold openA; rw [if_neg hdb, if_pos hrb]
   have HG : Hid (∀ W, Below w.heap.size w W → OpenPost (B + 3) w d S (openL s dir room) (.returned (.tuple #[.pointer none, .int .i64 1])) W) := fun W hW => by
    have := hbad.out (by rw [hA]; decide) W hW
    rwa [hA] at this
   clear h hbad hA hdb
   rcases hrb with hrb | hrb
   · go_enter Tryz.func15, Tryz.ntmps15
     go_wp2_with fail
     go_at_call 47
     refine (walName_ok dir 1 hd1 hd2 (by decide) (by decide) w).mono ?_
     rintro e w1 ⟨rfl, hb⟩
     have HB := Lib.hid hb
     clear hb
     go_wp2_with fail
     go_ret2
     exact HG.out _ HB.out
   · have hr2 : ¬ room < 64 := by omega
     go_enter Tryz.func15, Tryz.ntmps15
     go_wp2_with fail
     go_at_call 47
     refine (walName_ok dir 1 hd1 hd2 (by decide) (by decide) w).mono ?_
     rintro e w1 ⟨rfl, hb⟩
     have HB := Lib.hid hb
     clear hb
     go_wp2_with fail
     go_ret2
     exact HG.out _ HB.out
 have hr1 : ¬ room < 64 := by omega
 have hr2 : ¬ 262144 < room := by omega
 cases hdn : s.dn with
 | true =>
  have hA : openA dir room s = 12 := by unfold openA; rw [if_neg hdb, if_neg hrb, hdn]; rfl
  have HG : Hid (∀ W, Below w.heap.size w W → OpenPost (B + 3) w d S (openL s dir room) (.returned (.tuple #[.pointer none, .int .i64 12])) W) := fun W hW => by
   have := hbad.out (by rw [hA]; decide) W hW
   rwa [hA] at this
  have HDN := Lib.hid hdn
  clear h hbad hA hdb hrb hdn
  go_enter Tryz.func15, Tryz.ntmps15
  go_wp2_with fail
  go_at_call 47
  refine (walName_ok dir 1 hd1 hd2 (by decide) (by decide) w).mono ?_
  rintro e w1 ⟨rfl, hb⟩
  have HB := Lib.hid hb
  clear hb
  go_wp2_with fail
  go_at_call 48
  refine (down_any d S B s w1 (HD.out.below HB.out)).mono ?_
  rintro e w2 ⟨rfl, rfl⟩
  rw [HDN.out]
  go_wp2_with fail
  go_ret2
  exact HG.out _ HB.out
 | false =>
  have hA0 : openA dir room s = 0 := openA_zero hd1 hd2 (by omega) (by omega) hdn
  have HA0 := Lib.hid hA0
  have HDN := Lib.hid hdn
  have HOK := Lib.hid h.ok
  have HDR : Hid (64 ≤ room ∧ room ≤ 262144) := by exact ⟨by omega, by omega⟩
  have HDL : Hid (1 ≤ dir.length ∧ dir.length ≤ 11) := by exact ⟨hd1, hd2⟩
  clear h hbad hdb hrb hdn hA0
  go_enter Tryz.func15, Tryz.ntmps15
  go_wp2_with fail
  go_at_call 47
  refine (walName_ok dir 1 hd1 hd2 (by decide) (by decide) w).mono ?_
  rintro e w1 ⟨rfl, hb⟩
  have HB := Lib.hid hb
  clear hb
  go_wp2_with fail
  go_at_call 48
  refine (down_any d S B s w1 (HD.out.below HB.out)).mono ?_
  rintro e w2 ⟨rfl, rfl⟩
  rw [HDN.out]
  have hst := LAt.start HD.out HB.out dir room
  have hcl : (w1.alloc (.cells #[.pointer (some ⟨d, 0, none⟩), .string (bs dir), .int .i64 room, .slice none 0 0, .int .i64 0] 86)).heap.size = w1.heap.size + 1 := by simp
  obtain ⟨W, hW⟩ : ∃ W, w1.alloc (.cells #[.pointer (some ⟨d, 0, none⟩), .string (bs dir), .int .i64 room, .slice none 0 0, .int .i64 0] 86) = W := ⟨_, rfl⟩
  rw [hW] at hst hcl
  obtain ⟨l, hl⟩ : ∃ l, w1.heap.size = l := ⟨_, rfl⟩
  rw [hl] at hst hcl
  have HST := Lib.hid hst
  have HCL := Lib.hid hcl
  clear hst hcl
  go_wp2_with fail
  go_at_call 20
  clear hW hl
  refine (list_any d S B s W HST.out.dk).mono ?_
  rintro e W2 ⟨vn, rfl, hown, hbl⟩
  obtain ⟨an, cn, rfl, hrn⟩ := (OwnO.of_own hown).rd
  have hblk := World.ownsRow.lt hown
  have hst2 : OpAt w S d l B s dir room an (s.fs.map Fl.nm).length cn 0 (fun k => k = l) [] W2 := by
   refine ⟨HST.out.new hbl, rfl, rfl, hrn, fun h0 b hb => ?_⟩
   have h1 := hblk b (by rw [ownBlock_sl]; exact hb)
   have h2 := HCL.out
   exact ⟨fun e => by omega, h1.2⟩
  obtain ⟨n, hn⟩ : ∃ n, (s.fs.map Fl.nm).length = n := ⟨_, rfl⟩
  rw [hn] at hst2
  have hn64 : n ≤ 64 := by rw [← hn, List.length_map]; exact HOK.out.len
  have hnl : n = s.fs.length := by rw [← hn, List.length_map]
  have HNL := Lib.hid hnl
  have HST2 := Lib.hid hst2
  rw [hn]
  clear hown hbl hrn hblk hst2 hn hnl
  go_wp2_with fail
  go_loopw [12, 13, 14, 44] (fun _ _ _ i wr => ∃ (k : Nat) (Sl : Nat → Prop) (fl : List Fl), k ≤ n ∧ i = .int .i64 (k : Nat) ∧ Hid (OpAt w S d l B s dir room an n cn k Sl fl wr)) (fun _ _ _ i _ => n - (intOf i).toNat)
  case atStart => exact ⟨0, _, [], Nat.zero_le _, rfl, HST2.out⟩
  case round =>
   clear HST2 HST HCL
   obtain ⟨k, Sl, fl, hk, rfl, HO⟩ := hrel
   have hfl64 : fl.length ≤ 64 := by
    rw [HO.out.fls]
    have h1 : (segF dir (s.fs.take k)).length ≤ (s.fs.take k).length := List.length_filter_le _ _
    have h2 : (s.fs.take k).length ≤ k := List.length_take_le _ _
    omega
   by_cases hlt : k < n
   · obtain ⟨f, hf⟩ : ∃ f, s.fs[k]? = some f := ⟨_, List.getElem?_eq_getElem (by have := HNL.out; omega)⟩
     obtain ⟨b, off, rfl, hc⟩ := HO.out.name hf HNL.out
     have hfm := List.mem_of_getElem? hf
     have hfg := srt_get HOK.out.srt hfm
     have hfl := (HOK.out.each f hfm).2.1
     have HFG := Lib.hid hfg
     have HFL := Lib.hid hfl
     have HF := Lib.hid hf
     have HFL64 := Lib.hid hfl64
     clear hfm hfg hfl hf hfl64
     go_wp2_with fail
     go_at_call 49
     refine (number_any dir f.nm (by omega) (by have := HFL.out; omega) wr).mono ?_
     rintro e w3 ⟨rfl, hb3⟩
     have HO3 := Lib.hid (HO.out.new hb3)
     clear hb3 hc
     by_cases h0 : numS dir f.nm = 0
     · rw [h0]
       have hnx : OpAt w S d l B s dir room (some ⟨b, off, none⟩) n cn (k + 1) Sl fl w3 := by
        have h := HO3.out
        exact ⟨h.la, by rw [segF_next HF.out, if_neg (by omega)]; exact h.fls, h.lk, h.nm, h.nb⟩
       have HNX := Lib.hid hnx
       clear h0 hnx
       go_wp2_with fail
       go_roundw
       case rel => exact ⟨k + 1, Sl, fl, by omega, by go_num, HNX.out⟩
       case measure => simp [intOf]; omega
     · have hb0 : ((numS dir f.nm : Int) == 0) = false := by simp; omega
       have hpos : 0 < numS dir f.nm := by omega
       have HPOS := Lib.hid hpos
       clear h0 hpos
       obtain ⟨no, hno⟩ : ∃ no, numS dir f.nm = no := ⟨_, rfl⟩
       rw [hno] at hb0 ⊢
       have HNO := Lib.hid hno
       clear hno
       go_wp2_with fail
       go_at_call 50
       rw [← HNO.out]
       refine (join_any HO3.out.la hd2 HFL64.out (fun a ha => ?_) HFG.out HFL.out).mono ?_
       · have ham := List.mem_of_getLast? ha
         rw [HO3.out.fls] at ham
         obtain ⟨a1, a2⟩ := segF_mem.1 ham
         exact ⟨srt_get HOK.out.srt (List.mem_of_mem_take a1), a2⟩
       rintro e w4 ⟨Sl', rfl, hl4, hf4, hs4⟩
       cases hjb : JoinB dir fl f with
       | true =>
        rw [hjb] at hl4
        have hnx : OpAt w S d l B s dir room (some ⟨b, off, none⟩) n cn (k + 1) Sl' (fl ++ [f]) w4 := by
         have h := HO3.out
         refine ⟨hl4, by rw [segF_next HF.out, if_pos HPOS.out, ← h.fls], by rw [links_last h.lk, hjb], h.nm.keep0 hf4 fun h0 b hb => (h.nb h0 b hb).1, fun h0 b hb => ?_⟩
         obtain ⟨n1, n2⟩ := h.nb h0 b hb
         exact ⟨fun e => (hs4 b e).elim n1 fun e => by omega, Nat.lt_of_lt_of_le n2 hf4.size⟩
        have HNX := Lib.hid hnx
        clear hl4 hf4 hs4 hjb hnx
        go_wp2_with fail
        go_roundw
        case rel => exact ⟨k + 1, Sl', fl ++ [f], by omega, by go_num, HNX.out⟩
        case measure => simp [intOf]; omega
       | false =>
        rw [hjb] at hl4
        have hbad : linksB dir (segF dir s.fs) = false := by
         cases hlk : linksB dir (segF dir s.fs) with
         | false => rfl
         | true =>
          exfalso
          have e1 : segF dir s.fs = (fl ++ [f]) ++ segF dir (s.fs.drop (k + 1)) := by
           have h := segF_next (dir := dir) HF.out
           rw [if_pos HPOS.out, ← HO3.out.fls] at h
           rw [← h, ← segF_append, List.take_append_drop]
          rw [e1] at hlk
          have h2 := links_pre dir _ _ hlk
          rw [links_last HO3.out.lk, hjb] at h2
          cases h2
        have hne : segF dir s.fs ≠ [] := fun e => by
         have hfm : f ∈ segF dir s.fs := segF_mem.2 ⟨List.mem_of_getElem? HF.out, HPOS.out⟩
         rw [e] at hfm; cases hfm
        have HG : Hid (OpenPost (B + 3) w d S (openL s dir room) (.returned (.tuple #[.pointer none, .int .i64 13])) w4) := by
         rw [openL_corrupt HA0.out hne hbad]
         exact ⟨rfl, (hl4.mono (B' := B + 3) (by omega)).done⟩
        clear hl4 hf4 hs4 hjb hbad hne
        go_wp2_with fail
        go_ret2
        exact HG.out
   · obtain rfl : k = n := by omega
     have hfs : fl = segF dir s.fs := by rw [HO.out.fls, List.take_of_length_le (by rw [HNL.out]; exact Nat.le_refl _)]
     have HLA := Lib.hid HO.out.la
     have HLK := Lib.hid HO.out.lk
     have HFS := Lib.hid hfs
     obtain ⟨sv, L, hM, hL, hC, _⟩ := HO.out.la.lg
     have hLl : L.length = fl.length := by rw [← List.length_map (f := Sv.sg), hL, List.length_map]
     obtain ⟨sa, sc, rfl, _⟩ := hM.hs.rd
     have c3 := hM.cells.2.2.2.1
     rw [hLl] at c3
     clear hM hL hC hLl hfs HO
     rcases List.eq_nil_or_concat fl with rfl | ⟨pre, f, rfl⟩
     · have c3 : wr.cell? ⟨l, 3, none⟩ = some (.slice sa 0 sc) := c3
       go_wp2_with fail
       go_at_call 51
       refine (roll_seg (by omega) HLA.out 1 (by decide) hd2 (by simp)).mono ?_
       rintro e w4 ⟨Sd4, Sl4, rfl, hA4⟩
       have hol := openL_new HA0.out HFS.out.symm
       by_cases h0 : (createS s (segN dir 1)).2 = 0
       · rw [if_pos h0] at hA4
         have HG : Hid (OpenPost (B + 3) w d S (openL s dir room) (.returned (.tuple #[.pointer (some ⟨l, 0, none⟩), .int .i64 0])) w4) := by
          rw [hol]
          unfold openN
          rw [if_pos h0]
          obtain ⟨q1, q2⟩ := LAt.fin (g := ⟨dir, room, [], ⟨1, []⟩, 0⟩) (hA4.mono (B' := B + 3) (by omega))
          exact ⟨l, rfl, q1, q2, openN_ok HDL.out.1 HDL.out.2 HDR.out.1 HDR.out.2 h0⟩
         rw [h0]
         clear hA4 hol h0
         go_wp2_with fail
         go_ret2
         exact HG.out
       · rw [if_neg h0] at hA4
         have HG : Hid (OpenPost (B + 3) w d S (openL s dir room) (.returned (.tuple #[.pointer none, .int .i64 (createS s (segN dir 1)).2])) w4) := by
          rw [hol]
          unfold openN
          rw [if_neg h0]
          exact ⟨rfl, (hA4.mono (B' := B + 3) (by omega)).done⟩
         have hbE : ((createS s (segN dir 1)).2 != 0) = true := by simpa using h0
         clear hA4 hol h0
         obtain ⟨e, he⟩ : ∃ e, (createS s (segN dir 1)).2 = e := ⟨_, rfl⟩
         rw [he] at HG hbE ⊢
         clear he
         go_wp2_with fail
         go_ret2
         exact HG.out
     · have hfm : f ∈ segF dir s.fs := by rw [← HFS.out]; simp
       obtain ⟨m1, m2⟩ := segF_mem.1 hfm
       have hfg := srt_get HOK.out.srt m1
       have hln : (pre.concat f).length = pre.length + 1 := by simp
       rw [hln] at c3
       have hcc : pre.concat f = pre ++ [f] := by simp
       have hseg : LAt w S d l B S Sl s dir room 0 (joinedG dir room pre f).segs wr := by
        have h := HLA.out
        rw [hcc, List.map_append] at h
        exact h
       have hso : segF dir s.fs = pre ++ [f] := by rw [← HFS.out, hcc]
       have hlk := HLK.out
       rw [hcc] at hlk
       have hol := openL_mend (room := room) HA0.out hso hlk
       rw [openM_eq] at hol
       have HOL := Lib.hid hol
       have HSEG := Lib.hid hseg
       have HJOK : Hid ((mendS s f).2 = 0 → LOk (mendS s f).1 (joinedG dir room pre f)) := fun h => joined_ok HOK.out HDL.out.1 HDL.out.2 HDR.out.1 HDR.out.2 hso hlk h
       have HFG := Lib.hid hfg
       have HM2 := Lib.hid m2
       have hp9 : pre.length ≤ 64 := by rw [hln] at hfl64; omega
       have hnz : (((pre.length + 1 : Nat) : Int) == 0) = false := by simp; omega
       clear hfm m1 m2 hfg hln hcc hseg hso hlk hol hfl64
       obtain ⟨pl, hpl⟩ : ∃ pl, pre.length + 1 = pl := ⟨_, rfl⟩
       rw [hpl] at c3 hnz
       have hnz' : (pl == 0) = false := by simp; omega
       clear hpl
       go_wp2_with fail
       go_at_call 52
       refine (mend_any (by omega) HSEG.out hd2 HFG.out HM2.out HJOK.out).mono ?_
       rintro e w4 ⟨rfl, q1, q2⟩
       by_cases h0 : (mendL s dir room pre f).e = 0
       · have HG : Hid (OpenPost (B + 3) w d S (openL s dir room) (.returned (.tuple #[.pointer (some ⟨l, 0, none⟩), .int .i64 0])) w4) := by
          rw [HOL.out, h0]
          refine ⟨l, rfl, q1.mono (by omega) (fun _ h => h) q1.lt, q2, ?_⟩
          unfold mendL at h0 ⊢
          by_cases hm : (mendS s f).2 = 0
          · rw [if_neg (fun h => h hm)]
            exact (HJOK.out hm).sync
          · rw [if_pos hm] at h0
            exact absurd h0 hm
         rw [h0]
         clear q1 q2 h0
         go_wp2_with fail
         go_ret2
         exact HG.out
       · have HG : Hid (OpenPost (B + 3) w d S (openL s dir room) (.returned (.tuple #[.pointer none, .int .i64 (mendL s dir room pre f).e])) w4) := by
          rw [HOL.out, if_neg h0]
          exact ⟨rfl, LWS.done (q1.mono (by omega) (fun _ h => h) q1.lt) q2⟩
         have hbE : ((mendL s dir room pre f).e != 0) = true := by simpa using h0
         clear q1 q2 h0
         obtain ⟨e, he⟩ : ∃ e, (mendL s dir room pre f).e = e := ⟨_, rfl⟩
         rw [he] at HG hbE ⊢
         clear he
         go_wp2_with fail
         go_ret2
         exact HG.out
end Go.Proofs.YtjjcilinghgphaaGreat
