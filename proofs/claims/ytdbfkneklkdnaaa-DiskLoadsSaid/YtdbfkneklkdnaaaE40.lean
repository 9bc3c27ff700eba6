/-
  The reference's disk: List; lists of texts compared; the laws' Model. Written by a program (e40gen.py).
-/
import Derived.Test.YtdbfkneklkdnaaaE39
namespace Go.Proofs.Ytdbfkneklkdnaaa
open Go.RowKit Go.Maps Go.Sort
set_option maxRecDepth 100000
attribute [local go_sem] bs_size bs_toList

theorem RTold.behind {w W w' : World} {c : Nat} {S : Nat → Prop} {r : DS × Int} {e : Ending} (hb : Below w.heap.size w W) (h : RTold W c S r e w') : RTold w c S r e w' :=
  ⟨h.1, h.2.1.next (Fr.of_new hb) h.2.2, (Fr.of_new hb).trans h.2.2⟩
set_option maxHeartbeats 1000000 in
theorem model_1 (c : Nat) (S : Nat → Prop) (B : Int) (hB : B ≤ 1000000000000) (s : DS) (o : OpV) (ab : Option Addr) (cb : Nat) (ap : Option Addr) (cp : Nat) (T : Nat → Prop) (_hT : ∀ b, T b → ¬ S b) (_hb : o.b.length ≤ 4194304) (hok : DOk B s) (w : World) (h : Rf w c S s) (ho : OpRd w T o ab cb ap cp) (hk : o.k = 1) :
    Calls Try.prog 25 #[.pointer (some ⟨c, 0, none⟩), opV o ab cb ap cp] w (RTold w c S (doesS s o)) := by
  obtain ⟨W, hW, hbw, c0, c1, c2, c3, c4, c5⟩ := opAt w o ab cb ap cp
  have HB := Lib.hid hbw
  obtain ⟨hwf, hrb, hrp, htb, htp⟩ := ho
  have hdk := h.below hbw
  have HS := Lib.hid h.lt
  have HC := Lib.hid (rcreate_any c S B hB s o.nm hwf.2.2.1 hok W hdk)
  have hd : doesS s o = createS s o.nm := by unfold doesS; simp [hk]
  rw [hd]
  rw [hk] at c0
  unfold opV
  rw [hk]
  unfold opCells at hW
  rw [hk] at hW
  have HDK := Lib.hid hdk
  subst hW
  clear hd hk hdk h hwf hrb hrp htb htp hbw hok
  go_enter Try.func25, Try.ntmps25
  go_wp2_with (go_at_call 45; ((with_reducible refine (HC.out).mono ?_); rintro e w' ⟨rfl, hr, hf⟩; have HR := Lib.hid hr; have HF := Lib.hid hf; clear hr hf))
  go_ret
  exact RTold.behind HB.out ⟨rfl, HR.out, HF.out⟩
set_option maxHeartbeats 1000000 in
theorem model_2 (c : Nat) (S : Nat → Prop) (B : Int) (hB : B ≤ 1000000000000) (s : DS) (o : OpV) (ab : Option Addr) (cb : Nat) (ap : Option Addr) (cp : Nat) (T : Nat → Prop) (_hT : ∀ b, T b → ¬ S b) (hb : o.b.length ≤ 4194304) (hok : DOk B s) (w : World) (h : Rf w c S s) (ho : OpRd w T o ab cb ap cp) (hk : o.k = 2) :
    Calls Try.prog 25 #[.pointer (some ⟨c, 0, none⟩), opV o ab cb ap cp] w (RTold w c S (doesS s o)) := by
  obtain ⟨W, hW, hbw, c0, c1, c2, c3, c4, c5⟩ := opAt w o ab cb ap cp
  have HB := Lib.hid hbw
  obtain ⟨hwf, hrb, hrp, htb, htp⟩ := ho
  have hdk := h.below hbw
  have HS := Lib.hid h.lt
  have HC := Lib.hid (rappend_any c S B hB s o.nm ab _ cb o.b hb hok W hdk (hrb.below hbw))
  have hd : doesS s o = appendS s o.nm o.b := by unfold doesS; simp [hk]
  rw [hd]
  rw [hk] at c0
  unfold opV
  rw [hk]
  unfold opCells at hW
  rw [hk] at hW
  have HDK := Lib.hid hdk
  subst hW
  clear hd hk hdk h hwf hrb hrp htb htp hbw hok
  go_enter Try.func25, Try.ntmps25
  go_wp2_with (go_at_call 46; ((with_reducible refine (HC.out).mono ?_); rintro e w' ⟨rfl, hr, hf⟩; have HR := Lib.hid hr; have HF := Lib.hid hf; clear hr hf))
  go_ret
  exact RTold.behind HB.out ⟨rfl, HR.out, HF.out⟩
set_option maxHeartbeats 1000000 in
theorem model_3 (c : Nat) (S : Nat → Prop) (B : Int) (hB : B ≤ 1000000000000) (s : DS) (o : OpV) (ab : Option Addr) (cb : Nat) (ap : Option Addr) (cp : Nat) (T : Nat → Prop) (_hT : ∀ b, T b → ¬ S b) (_hb : o.b.length ≤ 4194304) (hok : DOk B s) (w : World) (h : Rf w c S s) (ho : OpRd w T o ab cb ap cp) (hk : o.k = 3) :
    Calls Try.prog 25 #[.pointer (some ⟨c, 0, none⟩), opV o ab cb ap cp] w (RTold w c S (doesS s o)) := by
  obtain ⟨W, hW, hbw, c0, c1, c2, c3, c4, c5⟩ := opAt w o ab cb ap cp
  have HB := Lib.hid hbw
  obtain ⟨hwf, hrb, hrp, htb, htp⟩ := ho
  have hdk := h.below hbw
  have HS := Lib.hid h.lt
  have HC := Lib.hid (rsync_any c S B hB s o.nm hok W hdk)
  have hd : doesS s o = syncS s o.nm := by unfold doesS; simp [hk]
  rw [hd]
  rw [hk] at c0
  unfold opV
  rw [hk]
  unfold opCells at hW
  rw [hk] at hW
  have HDK := Lib.hid hdk
  subst hW
  clear hd hk hdk h hwf hrb hrp htb htp hbw hok
  go_enter Try.func25, Try.ntmps25
  go_wp2_with (go_at_call 47; ((with_reducible refine (HC.out).mono ?_); rintro e w' ⟨rfl, hr, hf⟩; have HR := Lib.hid hr; have HF := Lib.hid hf; clear hr hf))
  go_ret
  exact RTold.behind HB.out ⟨rfl, HR.out, HF.out⟩
set_option maxHeartbeats 1000000 in
theorem model_4 (c : Nat) (S : Nat → Prop) (B : Int) (hB : B ≤ 1000000000000) (s : DS) (o : OpV) (ab : Option Addr) (cb : Nat) (ap : Option Addr) (cp : Nat) (T : Nat → Prop) (_hT : ∀ b, T b → ¬ S b) (_hb : o.b.length ≤ 4194304) (hok : DOk B s) (w : World) (h : Rf w c S s) (ho : OpRd w T o ab cb ap cp) (hk : o.k = 4) :
    Calls Try.prog 25 #[.pointer (some ⟨c, 0, none⟩), opV o ab cb ap cp] w (RTold w c S (doesS s o)) := by
  obtain ⟨W, hW, hbw, c0, c1, c2, c3, c4, c5⟩ := opAt w o ab cb ap cp
  have HB := Lib.hid hbw
  obtain ⟨hwf, hrb, hrp, htb, htp⟩ := ho
  have hdk := h.below hbw
  have HS := Lib.hid h.lt
  have HC := Lib.hid (rcut_any c S B hB s o.nm o.n hwf.2.1.1 hwf.2.1.2 hok W hdk)
  have hd : doesS s o = cutS s o.nm o.n := by unfold doesS; simp [hk]
  rw [hd]
  rw [hk] at c0
  unfold opV
  rw [hk]
  unfold opCells at hW
  rw [hk] at hW
  have HDK := Lib.hid hdk
  subst hW
  clear hd hk hdk h hwf hrb hrp htb htp hbw hok
  go_enter Try.func25, Try.ntmps25
  go_wp2_with (go_at_call 48; ((with_reducible refine (HC.out).mono ?_); rintro e w' ⟨rfl, hr, hf⟩; have HR := Lib.hid hr; have HF := Lib.hid hf; clear hr hf))
  go_ret
  exact RTold.behind HB.out ⟨rfl, HR.out, HF.out⟩
set_option maxHeartbeats 1000000 in
theorem model_5 (c : Nat) (S : Nat → Prop) (B : Int) (hB : B ≤ 1000000000000) (s : DS) (o : OpV) (ab : Option Addr) (cb : Nat) (ap : Option Addr) (cp : Nat) (T : Nat → Prop) (_hT : ∀ b, T b → ¬ S b) (_hb : o.b.length ≤ 4194304) (hok : DOk B s) (w : World) (h : Rf w c S s) (ho : OpRd w T o ab cb ap cp) (hk : o.k = 5) :
    Calls Try.prog 25 #[.pointer (some ⟨c, 0, none⟩), opV o ab cb ap cp] w (RTold w c S (doesS s o)) := by
  obtain ⟨W, hW, hbw, c0, c1, c2, c3, c4, c5⟩ := opAt w o ab cb ap cp
  have HB := Lib.hid hbw
  obtain ⟨hwf, hrb, hrp, htb, htp⟩ := ho
  have hdk := h.below hbw
  have HS := Lib.hid h.lt
  have HC := Lib.hid (rrename_any c S B hB s o.nm o.tn hwf.2.2.2 hok W hdk)
  have hd : doesS s o = renameS s o.nm o.tn := by unfold doesS; simp [hk]
  rw [hd]
  rw [hk] at c0
  unfold opV
  rw [hk]
  unfold opCells at hW
  rw [hk] at hW
  have HDK := Lib.hid hdk
  subst hW
  clear hd hk hdk h hwf hrb hrp htb htp hbw hok
  go_enter Try.func25, Try.ntmps25
  go_wp2_with (go_at_call 49; ((with_reducible refine (HC.out).mono ?_); rintro e w' ⟨rfl, hr, hf⟩; have HR := Lib.hid hr; have HF := Lib.hid hf; clear hr hf))
  go_ret
  exact RTold.behind HB.out ⟨rfl, HR.out, HF.out⟩
set_option maxHeartbeats 1000000 in
theorem model_6 (c : Nat) (S : Nat → Prop) (B : Int) (hB : B ≤ 1000000000000) (s : DS) (o : OpV) (ab : Option Addr) (cb : Nat) (ap : Option Addr) (cp : Nat) (T : Nat → Prop) (_hT : ∀ b, T b → ¬ S b) (_hb : o.b.length ≤ 4194304) (hok : DOk B s) (w : World) (h : Rf w c S s) (ho : OpRd w T o ab cb ap cp) (hk : o.k = 6) :
    Calls Try.prog 25 #[.pointer (some ⟨c, 0, none⟩), opV o ab cb ap cp] w (RTold w c S (doesS s o)) := by
  obtain ⟨W, hW, hbw, c0, c1, c2, c3, c4, c5⟩ := opAt w o ab cb ap cp
  have HB := Lib.hid hbw
  obtain ⟨hwf, hrb, hrp, htb, htp⟩ := ho
  have hdk := h.below hbw
  have HS := Lib.hid h.lt
  have HC := Lib.hid (rremove_any c S B hB s o.nm hok W hdk)
  have hd : doesS s o = removeS s o.nm := by unfold doesS; simp [hk]
  rw [hd]
  rw [hk] at c0
  unfold opV
  rw [hk]
  unfold opCells at hW
  rw [hk] at hW
  have HDK := Lib.hid hdk
  subst hW
  clear hd hk hdk h hwf hrb hrp htb htp hbw hok
  go_enter Try.func25, Try.ntmps25
  go_wp2_with (go_at_call 50; ((with_reducible refine (HC.out).mono ?_); rintro e w' ⟨rfl, hr, hf⟩; have HR := Lib.hid hr; have HF := Lib.hid hf; clear hr hf))
  go_ret
  exact RTold.behind HB.out ⟨rfl, HR.out, HF.out⟩
set_option maxHeartbeats 1000000 in
theorem model_7 (c : Nat) (S : Nat → Prop) (B : Int) (_hB : B ≤ 1000000000000) (s : DS) (o : OpV) (ab : Option Addr) (cb : Nat) (ap : Option Addr) (cp : Nat) (T : Nat → Prop) (_hT : ∀ b, T b → ¬ S b) (_hb : o.b.length ≤ 4194304) (_hok : DOk B s) (w : World) (h : Rf w c S s) (ho : OpRd w T o ab cb ap cp) (hk : o.k = 7) :
    Calls Try.prog 25 #[.pointer (some ⟨c, 0, none⟩), opV o ab cb ap cp] w (RTold w c S (doesS s o)) := by
  obtain ⟨W, hW, hbw, c0, c1, c2, c3, c4, c5⟩ := opAt w o ab cb ap cp
  have HB := Lib.hid hbw
  obtain ⟨hwf, hrb, hrp, htb, htp⟩ := ho
  have hdk := h.below hbw
  have HS := Lib.hid h.lt
  have HC := Lib.hid (rarm_any c S s o.n hwf.2.1.1 hwf.2.1.2 W hdk)
  have hd : doesS s o = (armS s o.n, 0) := by unfold doesS; simp [hk]
  rw [hd]
  rw [hk] at c0
  unfold opV
  rw [hk]
  unfold opCells at hW
  rw [hk] at hW
  have HDK := Lib.hid hdk
  subst hW
  clear hd hk hdk h hwf hrb hrp htb htp hbw
  go_enter Try.func25, Try.ntmps25
  go_wp2_with (go_at_call 51; ((with_reducible refine (HC.out).mono ?_); rintro e w' ⟨rfl, hr, hf⟩; have HR := Lib.hid hr; have HF := Lib.hid hf; clear hr hf))
  go_ret
  exact RTold.behind HB.out ⟨rfl, HR.out.grow (fun q hq => .inl hq) (fun q hq => hq.elim (fun h => Nat.lt_of_lt_of_le (HDK.out.lt q h) HF.out.size) (fun h => h.2)), HF.out⟩
set_option maxHeartbeats 1000000 in
theorem model_8 (c : Nat) (S : Nat → Prop) (B : Int) (_hB : B ≤ 1000000000000) (s : DS) (o : OpV) (ab : Option Addr) (cb : Nat) (ap : Option Addr) (cp : Nat) (T : Nat → Prop) (hT : ∀ b, T b → ¬ S b) (_hb : o.b.length ≤ 4194304) (hok : DOk B s) (w : World) (h : Rf w c S s) (ho : OpRd w T o ab cb ap cp) (hk : o.k = 8) :
    Calls Try.prog 25 #[.pointer (some ⟨c, 0, none⟩), opV o ab cb ap cp] w (RTold w c S (doesS s o)) := by
  obtain ⟨W, hW, hbw, c0, c1, c2, c3, c4, c5⟩ := opAt w o ab cb ap cp
  have HB := Lib.hid hbw
  obtain ⟨hwf, hrb, hrp, htb, htp⟩ := ho
  have hdk := h.below hbw
  have HS := Lib.hid h.lt
  have HC := Lib.hid (rcrash_any c S B s ap _ cp o.p hok W hdk (hrp.below hbw) (fun h0 q hq => hT q (htp h0 q hq)))
  have hd : doesS s o = (crashS s o.p, 0) := by unfold doesS; simp [hk]
  rw [hd]
  rw [hk] at c0
  unfold opV
  rw [hk]
  unfold opCells at hW
  rw [hk] at hW
  have HDK := Lib.hid hdk
  subst hW
  clear hd hk hdk h hwf hrb hrp htb htp hbw hok
  go_enter Try.func25, Try.ntmps25
  go_wp2_with (go_at_call 52; ((with_reducible refine (HC.out).mono ?_); rintro e w' ⟨rfl, hr, hf⟩; have HR := Lib.hid hr; have HF := Lib.hid hf; clear hr hf))
  go_ret
  exact RTold.behind HB.out ⟨rfl, HR.out, HF.out⟩
set_option maxHeartbeats 1000000 in
theorem model_9 (c : Nat) (S : Nat → Prop) (B : Int) (_hB : B ≤ 1000000000000) (s : DS) (o : OpV) (ab : Option Addr) (cb : Nat) (ap : Option Addr) (cp : Nat) (T : Nat → Prop) (_hT : ∀ b, T b → ¬ S b) (_hb : o.b.length ≤ 4194304) (hok : DOk B s) (w : World) (h : Rf w c S s) (ho : OpRd w T o ab cb ap cp) (hk : o.k = 9) :
    Calls Try.prog 25 #[.pointer (some ⟨c, 0, none⟩), opV o ab cb ap cp] w (RTold w c S (doesS s o)) := by
  obtain ⟨W, hW, hbw, c0, c1, c2, c3, c4, c5⟩ := opAt w o ab cb ap cp
  have HB := Lib.hid hbw
  obtain ⟨hwf, hrb, hrp, htb, htp⟩ := ho
  have hdk := h.below hbw
  have HS := Lib.hid h.lt
  have HC := Lib.hid (rread_any c S s o.nm hok.len W hdk)
  have hd : doesS s o = (s, hasE s o.nm) := by unfold doesS; simp [hk]
  rw [hd]
  rw [hk] at c0
  unfold opV
  rw [hk]
  unfold opCells at hW
  rw [hk] at hW
  have HDK := Lib.hid hdk
  subst hW
  clear hd hk hdk h hwf hrb hrp htb htp hbw hok
  go_enter Try.func25, Try.ntmps25
  go_wp2_with (go_at_call 27; ((with_reducible refine (HC.out).mono ?_); rintro e w' ⟨⟨a9, c9, rfl, h9⟩, rfl⟩; clear h9))
  go_ret
  exact RTold.behind HB.out (RTold.same rfl HDK.out rfl (Fr.refl _ _) HDK.out.lt)
set_option maxHeartbeats 1000000 in
theorem model_0 (c : Nat) (S : Nat → Prop) (B : Int) (_hB : B ≤ 1000000000000) (s : DS) (o : OpV) (ab : Option Addr) (cb : Nat) (ap : Option Addr) (cp : Nat) (T : Nat → Prop) (_hT : ∀ b, T b → ¬ S b) (_hb : o.b.length ≤ 4194304) (_hok : DOk B s) (w : World) (h : Rf w c S s) (ho : OpRd w T o ab cb ap cp) (hk : o.k ≠ 1 ∧ o.k ≠ 2 ∧ o.k ≠ 3 ∧ o.k ≠ 4 ∧ o.k ≠ 5 ∧ o.k ≠ 6 ∧ o.k ≠ 7 ∧ o.k ≠ 8 ∧ o.k ≠ 9) :
    Calls Try.prog 25 #[.pointer (some ⟨c, 0, none⟩), opV o ab cb ap cp] w (RTold w c S (doesS s o)) := by
  obtain ⟨W, hW, hbw, c0, c1, c2, c3, c4, c5⟩ := opAt w o ab cb ap cp
  have HB := Lib.hid hbw
  obtain ⟨hwf, hrb, hrp, htb, htp⟩ := ho
  have hdk := h.below hbw
  have HS := Lib.hid h.lt
  have hd : doesS s o = (s, 0) := by unfold doesS; simp [hk]
  rw [hd]
  unfold opCells at hW
  have HDK := Lib.hid hdk
  subst hW
  obtain ⟨q1, q2, q3, q4, q5, q6, q7, q8, q9⟩ := hk
  have r1 : (o.k == 1) = false := by simpa using q1
  have r2 : (o.k == 2) = false := by simpa using q2
  have r3 : (o.k == 3) = false := by simpa using q3
  have r4 : (o.k == 4) = false := by simpa using q4
  have r5 : (o.k == 5) = false := by simpa using q5
  have r6 : (o.k == 6) = false := by simpa using q6
  have r7 : (o.k == 7) = false := by simpa using q7
  have r8 : (o.k == 8) = false := by simpa using q8
  have r9 : (o.k == 9) = false := by simpa using q9
  clear hd hdk h hwf hrb hrp htb htp hbw q1 q2 q3 q4 q5 q6 q7 q8 q9
  unfold opV
  go_enter Try.func25, Try.ntmps25
  go_wp2_with fail
  go_ret
  exact RTold.behind HB.out (RTold.same rfl HDK.out rfl (Fr.refl _ _) HDK.out.lt)
theorem model_any (c : Nat) (S : Nat → Prop) (B : Int) (hB : B ≤ 1000000000000) (s : DS) (o : OpV) (ab : Option Addr) (cb : Nat) (ap : Option Addr) (cp : Nat) (T : Nat → Prop) (hT : ∀ b, T b → ¬ S b) (hb : o.b.length ≤ 4194304) (hok : DOk B s) (w : World) (h : Rf w c S s) (ho : OpRd w T o ab cb ap cp) :
    Calls Try.prog 25 #[.pointer (some ⟨c, 0, none⟩), opV o ab cb ap cp] w (RTold w c S (doesS s o)) := by
  by_cases h1 : o.k = 1
  · exact model_1 c S B hB s o ab cb ap cp T hT hb hok w h ho h1
  by_cases h2 : o.k = 2
  · exact model_2 c S B hB s o ab cb ap cp T hT hb hok w h ho h2
  by_cases h3 : o.k = 3
  · exact model_3 c S B hB s o ab cb ap cp T hT hb hok w h ho h3
  by_cases h4 : o.k = 4
  · exact model_4 c S B hB s o ab cb ap cp T hT hb hok w h ho h4
  by_cases h5 : o.k = 5
  · exact model_5 c S B hB s o ab cb ap cp T hT hb hok w h ho h5
  by_cases h6 : o.k = 6
  · exact model_6 c S B hB s o ab cb ap cp T hT hb hok w h ho h6
  by_cases h7 : o.k = 7
  · exact model_7 c S B hB s o ab cb ap cp T hT hb hok w h ho h7
  by_cases h8 : o.k = 8
  · exact model_8 c S B hB s o ab cb ap cp T hT hb hok w h ho h8
  by_cases h9 : o.k = 9
  · exact model_9 c S B hB s o ab cb ap cp T hT hb hok w h ho h9
  exact model_0 c S B hB s o ab cb ap cp T hT hb hok w h ho ⟨h1, h2, h3, h4, h5, h6, h7, h8, h9⟩

/-! ### lists of names -/
/-- A list of texts that reads. -/
def RdS (w : World) (a : Option Addr) (n cap : Nat) (l : List (List UInt8)) : Prop := n = l.length ∧ Rd w a n cap 1 (l.map fun x => Value.string (bs x))
theorem RdS.at {w : World} {a : Option Addr} {n cap : Nat} {l : List (List UInt8)} (h : RdS w a n cap l) {k : Nat} {x : List UInt8} (hx : l[k]? = some x) : ∃ b off, a = some ⟨b, off, none⟩ ∧ w.cell? ⟨b, off + k, none⟩ = some (.string (bs x)) := by
  obtain ⟨rfl, hr⟩ := h
  obtain ⟨b, off, ha, _, hc⟩ := hr.at (by have := (List.getElem?_eq_some_iff.1 hx).1; omega)
  exact ⟨b, off, ha, hc k _ (by rw [List.getElem?_map, hx]; rfl)⟩
theorem RdS.keep {S : Nat → Prop} {w w' : World} {a : Option Addr} {n cap : Nat} {l : List (List UInt8)} (h : RdS w a n cap l) (hf : Fr S w w') (hn : BlkIn a n fun b => ¬ S b) : RdS w' a n cap l := ⟨h.1, h.2.keep0 hf hn⟩
theorem RdS.below {w w' : World} {a : Option Addr} {n cap : Nat} {l : List (List UInt8)} (h : RdS w a n cap l) (hb : Below w.heap.size w w') : RdS w' a n cap l := ⟨h.1, h.2.below hb⟩
theorem info47 : (Try.prog.info? 9).map (fun i => (i.zero, i.size, i.bytes)) = some (some (.string ByteArray.empty), 1, 16) := by kernel_rfl
theorem SStr : STy Try.prog 47 9 (.string ByteArray.empty) 1 16 := ⟨Try.underlying47, info_parts info47, rfl, by decide⟩
theorem nm_len {l : List Fl} {k : Nat} (h : k ≤ l.length) : ((l.take k).map Fl.nm).length = k := by simp; omega
def RLPost (w : World) (l : List Fl) (e : Ending) (w' : World) : Prop := ∃ v, e = .returned v ∧ w'.ownsRow w.heap.size 9 1 v l.length (l.map fun f => Value.string (bs f.nm)) ∧ Below w.heap.size w w'
set_option maxHeartbeats 1000000 in
theorem rlist_any (c : Nat) (S : Nat → Prop) (s : DS) (hl : s.fs.length ≤ 64) (w : World) (h : Rf w c S s) :
    Calls Try.prog 54 #[.pointer (some ⟨c, 0, none⟩)] w (RLPost w s.fs) := by
  obtain ⟨a, cap, c0, _, _, _, hr⟩ := h.row
  clear h
  obtain ⟨m, hm⟩ : ∃ m, s.fs.length = m := ⟨_, rfl⟩
  rw [hm] at c0 hr hl
  have HR := Lib.hid hr
  have HM := Lib.hid hm
  have HC := Lib.hid c0
  clear hr hm c0
  go_enter Try.func54, Try.ntmps54
  go_wp2
  go_loopw [3, 4] (fun v i wr => ∃ k : Nat, k ≤ m ∧ i = .int .i64 k ∧ Hid (wr.ownsRow w.heap.size 9 1 v k ((s.fs.take k).map fun f => Value.string (bs f.nm))) ∧ Hid (Below w.heap.size w wr)) (fun _ i _ => m - (intOf i).toNat)
  case atStart => exact ⟨0, Nat.zero_le _, rfl, World.ownsRow_nil _ _ _ _, Below.refl _ _⟩
  case round =>
    obtain ⟨k, hk, rfl, HO, HB⟩ := hrel
    have c0 := cell_below HC.out HB.out
    have hbs := HB.out.size
    by_cases hlt : k < m
    · obtain ⟨f, hf⟩ : ∃ f, s.fs[k]? = some f := ⟨_, List.getElem?_eq_getElem (by have := HM.out; omega)⟩
      obtain ⟨b, off, ai, ci, rfl, q0, q1, q2, _, _⟩ := (HR.out.below HB.out).at hf
      have HF := Lib.hid hf
      clear hf
      go_wp2_with (at_builtin; refine wpList_app2 SStr rfl _ _ rfl w.heap.size rfl (HO.out.alloc _) rfl (Rd.one _ _ _) (by simp [Value.oneCell']) (by omega) (by unfold maxLen; omega) (Nat.le_trans hbs ((Below.refl 0 wr).alloc (Nat.zero_le _) _).size) ?_)
      intro v3 w3 ho3 hg3 _
      have HO3 := Lib.hid ho3
      have HB3 := Lib.hid (below_app0 HB.out hbs HO.out hg3)
      clear ho3 hg3
      go_wp2
      go_roundw
      case rel => exact ⟨k + 1, by omega, by go_num, by have h3 := HO3.out; rw [← List.map_take] at h3; rw [take_snoc HF.out, List.map_append]; exact h3, HB3.out⟩
      case measure => simp [intOf]; omega
    · obtain rfl : k = m := by omega
      go_wp2
      go_ret
      exact ⟨_, rfl, by have := HO.out; rw [List.take_of_length_le (by rw [HM.out]; exact Nat.le_refl _)] at this; rw [HM.out]; exact this, HB.out⟩
theorem take_next' {l l' : List (List UInt8)} {k : Nat} {f : List UInt8} (h : l.take k = l'.take k) (h1 : l[k]? = some f) (h2 : l'[k]? = some f) : l.take (k + 1) = l'.take (k + 1) := by
  rw [List.take_add_one, List.take_add_one, h, h1, h2]
set_option maxHeartbeats 1000000 in
/-- Two equal lists of texts. -/
theorem texts_same (a a' : Option Addr) (n cap cap' : Nat) (l : List (List UInt8)) (w : World) (h : RdS w a n cap l) (h' : RdS w a' n cap' l) :
    Calls Try.prog 53 #[.slice a n cap, .slice a' n cap'] w fun e w' => e = .returned (.bool true) ∧ ∃ m, w' = w.drewN m := by
  have H1 := Lib.hid h
  have H2 := Lib.hid h'
  have hm1 : n ≤ 9223372036854775807 := Nat.le_trans h.2.1 h.2.2.1
  have E1 := Lib.hid h.1
  clear h h'
  go_enter Try.func53, Try.ntmps53
  go_wp2_with fail
  go_loopw [5] (fun i wr => ∃ k : Nat, k ≤ n ∧ i = .int .i64 k ∧ Hid (∃ m, wr = w.drewN m)) (fun i _ => n - (intOf i).toNat)
  case atStart => exact ⟨0, Nat.zero_le _, rfl, 0, rfl⟩
  case round =>
    obtain ⟨k, hk, rfl, HB⟩ := hrel
    by_cases hlt : k < n
    · obtain ⟨x, hx⟩ : ∃ x, l[k]? = some x := ⟨_, List.getElem?_eq_getElem (by have := E1.out; omega)⟩
      obtain ⟨b, off, rfl, c1⟩ := (H1.out.keep (draws_fr HB.out) (fun _ _ _ h => h)).at hx
      obtain ⟨b', off', rfl, c1'⟩ := (H2.out.keep (draws_fr HB.out) (fun _ _ _ h => h)).at hx
      clear hx
      go_wp2_with fail
      go_quiet (fail)
      go_wp2_with fail
      go_roundw
      case rel => exact ⟨k + 1, by omega, by go_num, draws_next HB.out _⟩
      case measure => simp [intOf]; omega
    · obtain rfl : k = n := by omega
      go_wp2_with fail
      go_ret
      exact ⟨rfl, HB.out⟩
end Go.Proofs.Ytdbfkneklkdnaaa
