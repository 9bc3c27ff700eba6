/-
 Plain laws of frames: frames one behind the other are scanned; a byte turned or cut off ends the scan. No program in sight.
-/
import Derived.Test.YtjjcilinghgphaaGreatF0
namespace Go.Proofs.YtjjcilinghgphaaGreat

/-! ### The sum of bytes of which one is turned is another one -/
theorem nat_xor_zero {a b : Nat} (h : a ^^^ b = 0) : a = b := by
 have h2 : a ^^^ b ^^^ b = 0 ^^^ b := by rw [h]
 rwa [Nat.xor_assoc, Nat.xor_self, Nat.xor_zero, Nat.zero_xor] at h2
theorem stp_zero (c : UInt32) (h : stp c = 0) : c = 0 := by
 apply UInt32.toNat_inj.1
 have hc := c.toNat_lt
 rw [stp_ite] at h
 have hn := congrArg UInt32.toNat h
 rw [UInt32.toNat_xor, UInt32.toNat_shiftRight] at hn
 simp only [show (1 : UInt32).toNat % 32 = 1 from rfl, Nat.shiftRight_eq_div_pow, show (0 : UInt32).toNat = 0 from rfl] at hn ⊢
 by_cases ho : c.toNat % 2 = 1
 · rw [if_pos ho] at hn
   have e : c.toNat / 2 ^ 1 = (0x82F63B78 : UInt32).toNat := nat_xor_zero hn
   have e2 : (0x82F63B78 : UInt32).toNat = 2197175160 := rfl
   omega
 · rw [if_neg ho] at hn
   have e : c.toNat / 2 ^ 1 = (0 : UInt32).toNat := nat_xor_zero hn
   have e2 : (0 : UInt32).toNat = 0 := rfl
   omega
theorem xor_zero_iff (a b : UInt32) : a ^^^ b = 0 ↔ a = b := UInt32.xor_eq_zero_iff
theorem stp_inj {a b : UInt32} (h : stp a = stp b) : a = b := by
 have : stp (a ^^^ b) = 0 := by rw [stp_xor, h]; exact (xor_zero_iff _ _).2 rfl
 exact (xor_zero_iff _ _).1 (stp_zero _ this)
theorem stps_inj (k : Nat) {a b : UInt32} (h : stps k a = stps k b) : a = b := by
 induction k with
 | zero => exact h
 | succ k ih => exact ih (stp_inj h)
theorem upd_inj_left {c d : UInt32} {x : UInt8} (h : upd c x = upd d x) : c = d := by
 have := stps_inj 8 h
 exact (UInt32.xor_left_inj _).1 this
theorem upd_inj_right {c : UInt32} {x y : UInt8} (h : upd c x = upd c y) : x = y := by
 have := (UInt32.xor_right_inj _).1 (stps_inj 8 h)
 apply UInt8.toNat_inj.1
 have h2 := congrArg UInt32.toNat this
 simpa using h2
theorem crcFrom_append (c : UInt32) (l m : List UInt8) : crcFrom c (l ++ m) = crcFrom (crcFrom c l) m := by simp [crcFrom]
theorem crcFrom_inj (l : List UInt8) : ∀ {c d : UInt32}, crcFrom c l = crcFrom d l → c = d := by
 induction l with
 | nil => intro c d h; exact h
 | cons x l ih => intro c d h; exact upd_inj_left (ih h)
theorem not_inj32 {a b : UInt32} (h : ~~~a = ~~~b) : a = b := by
 have := congrArg (~~~ ·) h; simpa using this
theorem crc_turn (l m : List UInt8) (x y : UInt8) (h : x ≠ y) : crc (l ++ x :: m) ≠ crc (l ++ y :: m) := by
 intro e
 have e := not_inj32 e
 rw [crcFrom_append, crcFrom_append] at e
 exact h (upd_inj_right (crcFrom_inj m (c := upd _ x) (d := upd _ y) e))
theorem split_at (l : List UInt8) (i : Nat) (h : i < l.length) (y : UInt8) : l = l.take i ++ l.getD i 0 :: l.drop (i + 1) ∧ l.set i y = l.take i ++ y :: l.drop (i + 1) := by
 refine ⟨?_, ?_⟩
 · simp [List.getD, h]
 · rw [List.set_eq_take_append_cons_drop, if_pos h]
theorem crc_set (l : List UInt8) (i : Nat) (h : i < l.length) (y : UInt8) (hy : y ≠ l.getD i 0) : crc (l.set i y) ≠ crc l := by
 obtain ⟨h1, h2⟩ := split_at l i h y
 intro e
 exact crc_turn (l.take i) (l.drop (i + 1)) y (l.getD i 0) hy (by rw [← h2, ← h1]; exact e)

/-! ### A frame is whole -/
theorem four_len32 {n : Nat} (h : n ≤ 262144) (r : List UInt8) : sizeOf4 (four (UInt32.ofNat n) ++ r) = n := by
 unfold sizeOf4; rw [get4_four, UInt32.toNat_ofNat', Nat.mod_eq_of_lt (by omega)]
theorem frame_parts (p r : List UInt8) (hp : p.length ≤ 262144) :
 sizeOf4 (frameOf p ++ r) = p.length ∧ (frameOf p ++ r).take 4 = four (UInt32.ofNat p.length) ∧ get4 ((frameOf p ++ r).drop 4) = crc (four (UInt32.ofNat p.length)) ∧ recOf (frameOf p ++ r) = p ∧ get4 ((frameOf p ++ r).drop (8 + p.length)) = crc p := by
 have e : frameOf p ++ r = four (UInt32.ofNat p.length) ++ (four (crc (four (UInt32.ofNat p.length))) ++ (p ++ (four (crc p) ++ r))) := by simp only [frameOf, List.append_assoc]
 have hs : sizeOf4 (frameOf p ++ r) = p.length := by rw [e]; exact four_len32 hp _
 refine ⟨hs, ?_, ?_, ?_, ?_⟩
 · rw [e]; exact List.take_left' (four_length _)
 · rw [e, List.drop_left' (four_length _), get4_four]
 · unfold recOf; rw [hs, e, show (8 : Nat) = 4 + 4 from rfl, ← List.drop_drop, List.drop_left' (four_length _), List.drop_left' (four_length _)]
   exact List.take_left
 · rw [e, show 8 + p.length = 4 + (4 + p.length) by omega, ← List.drop_drop, List.drop_left' (four_length _), ← List.drop_drop, List.drop_left' (four_length _), List.drop_left, get4_four]
theorem whole_frameOf (p r : List UInt8) (hp : p.length ≤ 262144) : whole (frameOf p ++ r) = true := by
 obtain ⟨h1, h2, h3, h4, h5⟩ := frame_parts p r hp
 have hl : (frameOf p ++ r).length = p.length + 12 + r.length := by rw [List.length_append, frameOf_length]
 unfold whole headOk
 rw [h1, h2, h3, h4, h5, hl]
 simp; omega

/-- Frames one behind the other. -/
def joinF : List (List UInt8) → List UInt8
 | [] => []
 | p :: l => frameOf p ++ joinF l
theorem joinF_append (l m : List (List UInt8)) : joinF (l ++ m) = joinF l ++ joinF m := by
 induction l with
 | nil => rfl
 | cons p l ih => simp only [joinF, List.cons_append, ih, List.append_assoc]
theorem joinF_length (ls : List (List UInt8)) : (joinF ls).length = (ls.map fun p => p.length + 12).sum := by
 induction ls with
 | nil => rfl
 | cons p l ih => simp only [joinF, List.length_append, frameOf_length, ih, List.map_cons, List.sum_cons]
theorem scan_joinF (ls : List (List UInt8)) (r : List UInt8) (h : ∀ p ∈ ls, p.length ≤ 262144) : scan (joinF ls ++ r) = (ls ++ (scan r).1, (joinF ls).length + (scan r).2) := by
 induction ls with
 | nil => simp [joinF]
 | cons p l ih =>
  have hp := h p (List.mem_cons_self ..)
  have ih := ih fun q hq => h q (List.mem_cons_of_mem _ hq)
  simp only [joinF, List.append_assoc]
  obtain ⟨h1, _, _, h4, _⟩ := frame_parts p (joinF l ++ r) hp
  rw [scan_some (whole_frameOf p _ hp), h1, h4]
  rw [List.drop_left' (frameOf_length p), ih]
  simp [frameOf_length]; omega
theorem scan_nil : scan [] = ([], 0) := rfl
theorem scan_joinF' (ls : List (List UInt8)) (h : ∀ p ∈ ls, p.length ≤ 262144) : scan (joinF ls) = (ls, (joinF ls).length) := by
 have := scan_joinF ls [] h
 simpa [scan_nil] using this

/-! ### What is scanned, framed again, is the beginning -/
theorem frame_of_whole {b : List UInt8} (h : whole b = true) : b.take (sizeOf4 b + 12) = frameOf (recOf b) ∧ (recOf b).length = sizeOf4 b ∧ sizeOf4 b ≤ 262144 := by
 have hl := whole_len h
 simp only [whole, headOk, Bool.and_eq_true, decide_eq_true_eq, beq_iff_eq] at h
 obtain ⟨⟨h12, ⟨hm, hs⟩, _⟩, hc⟩ := h
 have hrl : (recOf b).length = sizeOf4 b := by unfold recOf; simp; omega
 refine ⟨?_, hrl, hm⟩
 have e1 : four (UInt32.ofNat (sizeOf4 b)) = b.take 4 := by
  rw [← four_get4 b (by omega)]; congr 1
  apply UInt32.toNat_inj.1
  rw [UInt32.toNat_ofNat', Nat.mod_eq_of_lt (by omega)]; rfl
 have e2 : four (crc (b.take 4)) = (b.drop 4).take 4 := by rw [← hs]; exact four_get4 _ (by simp; omega)
 have e3 : four (crc (recOf b)) = (b.drop (8 + sizeOf4 b)).take 4 := by rw [← hc]; exact four_get4 _ (by simp; omega)
 unfold frameOf
 rw [hrl, e1, e2, e3]
 unfold recOf
 have s1 : b.take (sizeOf4 b + 12) = b.take 4 ++ ((b.drop 4).take 4 ++ ((b.drop 8).take (sizeOf4 b) ++ (b.drop (8 + sizeOf4 b)).take 4)) := by
  rw [show sizeOf4 b + 12 = 4 + (4 + (sizeOf4 b + 4)) by omega, List.take_add, List.take_add, List.take_add, List.drop_drop, List.drop_drop]
 rw [s1]; simp only [List.append_assoc]
theorem scan_join (k : Nat) : ∀ b : List UInt8, b.length ≤ k → joinF (scan b).1 = b.take (scan b).2 ∧ (scan b).2 ≤ b.length ∧ scan (b.drop (scan b).2) = ([], 0) ∧ ∀ p ∈ (scan b).1, p.length ≤ 262144 := by
 induction k with
 | zero =>
  intro b hb
  have : b = [] := List.eq_nil_of_length_eq_zero (by omega)
  subst this
  simp [scan_nil, joinF]
 | succ k ih =>
  intro b hb
  cases hw : whole b with
  | false => rw [scan_none hw]; simp [joinF, scan_none hw]
  | true =>
   have hl := whole_len hw
   obtain ⟨h1, h2, h3⟩ := frame_of_whole hw
   obtain ⟨i1, i2, i3, i4⟩ := ih (b.drop (sizeOf4 b + 12)) (by simp; omega)
   rw [scan_some hw]
   refine ⟨?_, ?_, ?_, ?_⟩
   · simp only [joinF]; rw [i1, ← h1]; exact List.take_add.symm
   · simp at i2 ⊢; omega
   · rw [← List.drop_drop]; exact i3
   · intro p hp
     rcases List.mem_cons.1 hp with rfl | hp
     · omega
     · exact i4 p hp

/-! ### Torn -/
theorem whole_cut (p : List UInt8) (hp : p.length ≤ 262144) (i : Nat) (hi : i < (frameOf p).length) : whole ((frameOf p).take i) = false := by
 cases hw : whole ((frameOf p).take i) with
 | false => rfl
 | true =>
  exfalso
  have hl := whole_len hw
  rw [frameOf_length] at hi
  have h12 : 12 ≤ i := by simp at hl; omega
  have hs : sizeOf4 ((frameOf p).take i) = p.length := by
   have e : (frameOf p).take i = four (UInt32.ofNat p.length) ++ ((four (crc (four (UInt32.ofNat p.length))) ++ (p ++ four (crc p))).take (i - 4)) := by
    have : frameOf p = four (UInt32.ofNat p.length) ++ (four (crc (four (UInt32.ofNat p.length))) ++ (p ++ four (crc p))) := by simp only [frameOf, List.append_assoc]
    rw [this, List.take_append, List.take_of_length_le (by rw [four_length]; omega), four_length]
   rw [e]; exact four_len32 hp _
  rw [hs] at hl
  simp [frameOf_length] at hl; omega
theorem get4_ne (l m : List UInt8) (hl : l.length = 4) (hm : m.length = 4) (h : l ≠ m) (r s : List UInt8) : get4 (l ++ r) ≠ get4 (m ++ s) := by
 intro e
 have h1 := four_get4 (l ++ r) (by simp; omega)
 have h2 := four_get4 (m ++ s) (by simp; omega)
 rw [e, h2, List.take_left' hl, List.take_left' hm] at h1
 exact h h1.symm
theorem set_ne (l : List UInt8) (i : Nat) (h : i < l.length) (y : UInt8) (hy : y ≠ l.getD i 0) : l.set i y ≠ l := by
 intro e
 have := congrArg (fun m => m.getD i 0) e
 simp [List.getD, h] at this
 exact hy (by simp [List.getD, h, this])
theorem whole_turned (p r : List UInt8) (hp : p.length ≤ 262144) (i : Nat) (hi : i < (frameOf p).length) (y : UInt8) (hy : y ≠ (frameOf p).getD i 0) : whole ((frameOf p).set i y ++ r) = false := by
 have e : frameOf p = four (UInt32.ofNat p.length) ++ (four (crc (four (UInt32.ofNat p.length))) ++ (p ++ four (crc p))) := by simp only [frameOf, List.append_assoc]
 rw [frameOf_length] at hi
 rw [e] at hy ⊢
 generalize hH : four (UInt32.ofNat p.length) = H at *
 have lH : H.length = 4 := by rw [← hH]; rfl
 generalize hS : four (crc H) = S at *
 have lS : S.length = 4 := by rw [← hS]; rfl
 generalize hT : four (crc p) = T at *
 have lT : T.length = 4 := by rw [← hT]; rfl
 by_cases h1 : i < 4
 · rw [List.set_append_left _ _ (by omega)]
   have hy' : y ≠ H.getD i 0 := by simpa [List.getD, List.getElem?_append_left (show i < H.length by omega)] using hy
   have hl : (H.set i y).length = 4 := by simp [lH]
   have ht : ((H.set i y ++ (S ++ (p ++ T))) ++ r).take 4 = H.set i y := by rw [List.append_assoc]; exact List.take_left' hl
   have hd : get4 (((H.set i y ++ (S ++ (p ++ T))) ++ r).drop 4) = crc H := by
    rw [List.append_assoc, List.drop_left' hl, ← hS, List.append_assoc, get4_four]
   unfold whole headOk
   rw [ht, hd]
   have := crc_set H i (by omega) y hy'
   have hb : (crc H == crc (H.set i y)) = false := by rw [beq_eq_false_iff_ne]; exact fun e => this e.symm
   rw [hb]; simp
 · rw [List.set_append_right _ _ (by omega), lH]
   have hy1 : y ≠ (S ++ (p ++ T)).getD (i - 4) 0 := by simpa [List.getD, List.getElem?_append_right (show H.length ≤ i by omega), lH] using hy
   have hsz : ∀ x, sizeOf4 (H ++ x) = p.length := by intro x; rw [← hH]; exact four_len32 hp _
   have htk : ∀ x, (H ++ x).take 4 = H := fun x => List.take_left' lH
   have hdr : ∀ x, (H ++ x).drop 4 = x := fun x => List.drop_left' lH
   by_cases h2 : i < 8
   · rw [List.set_append_left _ _ (by omega)]
     have hy' : y ≠ S.getD (i - 4) 0 := by simpa [List.getD, List.getElem?_append_left (show i - 4 < S.length by omega)] using hy1
     unfold whole headOk
     rw [List.append_assoc, htk, hdr, List.append_assoc]
     have hg : get4 (S.set (i - 4) y ++ (p ++ T ++ r)) ≠ crc H := by
      have := get4_ne (S.set (i - 4) y) S (by simp [lS]) lS (set_ne S _ (by omega) y hy') (p ++ T ++ r) []
      rw [← hS, get4_four] at this
      rw [← hS]; exact this
     have hb : (get4 (S.set (i - 4) y ++ (p ++ T ++ r)) == crc H) = false := by rw [beq_eq_false_iff_ne]; exact hg
     rw [hb]; simp
   · rw [List.set_append_right _ _ (by omega), lS]
     have hy2 : y ≠ (p ++ T).getD (i - 4 - 4) 0 := by simpa [List.getD, List.getElem?_append_right (show S.length ≤ i - 4 by omega), lS] using hy1
     have hdr8 : ∀ x, (H ++ (S ++ x)).drop 8 = x := fun x => by rw [show (8 : Nat) = 4 + 4 from rfl, ← List.drop_drop, hdr, List.drop_left' lS]
     by_cases h3 : i < 8 + p.length
     · rw [List.set_append_left _ _ (by omega)]
       have hy' : y ≠ p.getD (i - 4 - 4) 0 := by simpa [List.getD, List.getElem?_append_left (show i - 4 - 4 < p.length by omega)] using hy2
       unfold whole recOf
       simp only [List.append_assoc]
       rw [hsz, hdr8, show 8 + p.length = 8 + p.length from rfl, ← List.drop_drop, hdr8, List.take_left' (by simp), List.drop_left' (by simp), ← hT, get4_four]
       have := crc_set p (i - 4 - 4) (by omega) y hy'
       have hb : (crc p == crc (p.set (i - 4 - 4) y)) = false := by rw [beq_eq_false_iff_ne]; exact fun e => this e.symm
       rw [hb]; simp
     · rw [List.set_append_right _ _ (by omega)]
       have hy' : y ≠ T.getD (i - 4 - 4 - p.length) 0 := by simpa [List.getD, List.getElem?_append_right (show p.length ≤ i - 4 - 4 by omega)] using hy2
       unfold whole recOf
       simp only [List.append_assoc]
       rw [hsz, hdr8, ← List.drop_drop, hdr8, List.take_left, List.drop_left]
       have hg : get4 (T.set (i - 4 - 4 - p.length) y ++ r) ≠ crc p := by
        have := get4_ne (T.set (i - 4 - 4 - p.length) y) T (by simp [lT]) lT (set_ne T _ (by omega) y hy') r []
        rw [← hT, get4_four] at this
        rw [← hT]; exact this
       have hb : (get4 (T.set (i - 4 - 4 - p.length) y ++ r) == crc p) = false := by rw [beq_eq_false_iff_ne]; exact hg
       rw [hb]; simp

end Go.Proofs.YtjjcilinghgphaaGreat
