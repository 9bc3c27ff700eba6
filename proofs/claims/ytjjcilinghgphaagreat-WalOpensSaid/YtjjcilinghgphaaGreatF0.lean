/-
 Plain laws of CRC-32C and of frames: lists and numbers alone. No program in sight.
-/
import Derived.Test.YtjjcilinghgphaaGreatK1
namespace Go.Proofs.YtjjcilinghgphaaGreat

def stp (c : UInt32) : UInt32 := (c >>> 1) ^^^ (0x82F63B78 &&& (-(c &&& 1)))
def stps : Nat → UInt32 → UInt32
 | 0, c => c
 | k + 1, c => stp (stps k c)
def upd (c : UInt32) (x : UInt8) : UInt32 := stps 8 (c ^^^ x.toUInt32)
def crcFrom (c : UInt32) (l : List UInt8) : UInt32 := l.foldl upd c
def crcTo (l : List UInt8) (k : Nat) : UInt32 := crcFrom 0xFFFFFFFF (l.take k)
def crc (l : List UInt8) : UInt32 := ~~~ (crcFrom 0xFFFFFFFF l)

theorem crcTo_snoc (l : List UInt8) (k : Nat) (h : k < l.length) : crcTo l (k + 1) = upd (crcTo l k) (l.getD k 0) := by
 unfold crcTo crcFrom
 rw [B8_take_succ _ _ h, List.foldl_append]; rfl
theorem crcTo_all (l : List UInt8) (k : Nat) (h : l.length ≤ k) : crcTo l k = crcFrom 0xFFFFFFFF l := by
 unfold crcTo; rw [List.take_of_length_le h]

theorem and_one (c : UInt32) : c &&& 1 = if c.toNat % 2 = 1 then 1 else 0 := by
 apply UInt32.toNat_inj.1
 rw [UInt32.toNat_and, show (1 : UInt32).toNat = 1 from rfl, Nat.and_one_is_mod]
 split <;> rename_i h
 · rw [h]; rfl
 · rw [show c.toNat % 2 = 0 by omega]; rfl
theorem stp_ite (c : UInt32) : stp c = (c >>> 1) ^^^ (if c.toNat % 2 = 1 then 0x82F63B78 else 0) := by
 unfold stp; rw [and_one]
 split <;> rfl
theorem stp_xor (a b : UInt32) : stp (a ^^^ b) = stp a ^^^ stp b := by
 have hs : (a ^^^ b) >>> 1 = (a >>> 1) ^^^ (b >>> 1) := by
  apply UInt32.toBitVec_inj.1; simp [BitVec.ushiftRight_xor_distrib]
 have hp : (a ^^^ b).toNat % 2 = (a.toNat + b.toNat) % 2 := by
  rw [UInt32.toNat_xor]
  rcases Nat.mod_two_eq_zero_or_one a.toNat with ha | ha <;> rcases Nat.mod_two_eq_zero_or_one b.toNat with hb | hb <;>
  · have h1 : (a.toNat ^^^ b.toNat).testBit 0 = (a.toNat.testBit 0 ^^ b.toNat.testBit 0) := Nat.testBit_xor ..
    simp only [Nat.testBit_zero, ha, hb] at h1
    have h2 := Nat.mod_two_eq_zero_or_one (a.toNat ^^^ b.toNat)
    rcases h2 with h2 | h2 <;> simp [h2] at h1 <;> omega
 rw [stp_ite, stp_ite, stp_ite, hs, hp]
 have key : (if (a.toNat + b.toNat) % 2 = 1 then (0x82F63B78 : UInt32) else 0) = (if a.toNat % 2 = 1 then 0x82F63B78 else 0) ^^^ (if b.toNat % 2 = 1 then 0x82F63B78 else 0) := by
  rcases Nat.mod_two_eq_zero_or_one a.toNat with ha | ha <;> rcases Nat.mod_two_eq_zero_or_one b.toNat with hb | hb <;> simp [ha, hb, Nat.add_mod]
 rw [key]
 simp only [UInt32.xor_assoc]
 congr 1
 rw [UInt32.xor_comm (if a.toNat % 2 = 1 then (0x82F63B78 : UInt32) else 0) (_ ^^^ _), UInt32.xor_assoc, UInt32.xor_comm (if a.toNat % 2 = 1 then (0x82F63B78 : UInt32) else 0)]
theorem stps_xor (k : Nat) (a b : UInt32) : stps k (a ^^^ b) = stps k a ^^^ stps k b := by
 induction k with
 | zero => rfl
 | succ k ih => simp only [stps, ih, stp_xor]
theorem stp_even (c : UInt32) (h : c.toNat % 2 = 0) : (stp c).toNat = c.toNat / 2 := by
 rw [stp_ite, if_neg (by omega), UInt32.xor_zero, UInt32.toNat_shiftRight]
 simp [Nat.shiftRight_eq_div_pow]
theorem stps_hi (k : Nat) (hk : k ≤ 8) (c : UInt32) (q : Nat) (h : c.toNat = 256 * q) : (stps k c).toNat = 2 ^ (8 - k) * q := by
 induction k with
 | zero => simpa [stps] using h
 | succ k ih =>
  have h1 := ih (by omega)
  have e : 2 ^ (8 - k) * q = 2 * (2 ^ (8 - (k + 1)) * q) := by
   rw [show 8 - k = (8 - (k + 1)) + 1 by omega, Nat.pow_succ]; simp [Nat.mul_comm, Nat.mul_assoc, Nat.mul_left_comm]
  rw [stps, stp_even _ (by rw [h1, e]; omega), h1, e]
  omega
theorem upd_tab (c : UInt32) (x : UInt8) : upd c x = (c >>> 8) ^^^ stps 8 (UInt32.ofNat (n8 (c.toUInt8 ^^^ x)).toNat) := by
 unfold upd
 have e : c ^^^ x.toUInt32 = (c >>> 8) <<< 8 ^^^ UInt32.ofNat (n8 (c.toUInt8 ^^^ x)).toNat := by
  apply UInt32.toNat_inj.1
  have hc := c.toNat_lt
  have hx := x.toNat_lt
  have hlow : (c.toNat % 256 ^^^ x.toNat) < 256 := Nat.xor_lt_two_pow (n := 8) (by omega) hx
  rw [UInt32.toNat_xor, UInt32.toNat_xor, UInt32.toNat_shiftLeft, UInt32.toNat_shiftRight, UInt8.toNat_toUInt32, UInt32.toNat_ofNat']
  simp only [n8, UInt8.toNat_xor, UInt32.toNat_toUInt8, Int.toNat_natCast]
  rw [show (2 : Nat) ^ 8 = 256 from rfl, Nat.mod_eq_of_lt (show (c.toNat % 256 ^^^ x.toNat) < 2 ^ 32 by omega)]
  simp only [show (8 : UInt32).toNat % 32 = 8 from rfl, Nat.shiftRight_eq_div_pow, Nat.shiftLeft_eq]
  rw [Nat.mod_eq_of_lt (by omega)]
  have e2 : c.toNat = (c.toNat / 2 ^ 8) * 2 ^ 8 ^^^ c.toNat % 256 := by
   apply Nat.eq_of_testBit_eq
   intro i
   rw [Nat.testBit_xor, Nat.testBit_mul_two_pow, Nat.testBit_div_two_pow, show (256 : Nat) = 2 ^ 8 from rfl, Nat.testBit_mod_two_pow]
   by_cases hi : 8 ≤ i
   · simp [hi, show ¬ i < 8 by omega]
   · simp [hi, show i < 8 by omega]
  conv => lhs; rw [e2]
  rw [Nat.xor_assoc]
 rw [e, stps_xor]
 congr 1
 apply UInt32.toNat_inj.1
 have hc := c.toNat_lt
 rw [stps_hi 8 (Nat.le_refl _) _ (c.toNat / 256)]
 · rw [UInt32.toNat_shiftRight]; simp [Nat.shiftRight_eq_div_pow]
 · rw [UInt32.toNat_shiftLeft, UInt32.toNat_shiftRight]
   simp only [show (8 : UInt32).toNat % 32 = 8 from rfl, Nat.shiftRight_eq_div_pow, Nat.shiftLeft_eq]
   rw [Nat.mod_eq_of_lt (by omega)]; omega

/-! ### Four bytes -/
def four (n : UInt32) : List UInt8 := [n.toUInt8, (n >>> 8).toUInt8, (n >>> 16).toUInt8, (n >>> 24).toUInt8]
theorem four_length (x : UInt32) : (four x).length = 4 := rfl
def get4 (l : List UInt8) : UInt32 := (l.getD 0 0).toUInt32 ||| (l.getD 1 0).toUInt32 <<< 8 ||| (l.getD 2 0).toUInt32 <<< 16 ||| (l.getD 3 0).toUInt32 <<< 24
theorem shl_nat (x : UInt8) (k : Nat) (hk : k ≤ 24) : (x.toUInt32 <<< UInt32.ofNat k).toNat = x.toNat * 2 ^ k := by
 have hx := x.toNat_lt
 rw [UInt32.toNat_shiftLeft, UInt32.toNat_ofNat', UInt8.toNat_toUInt32, Nat.mod_eq_of_lt (show k < 2 ^ 32 by omega), Nat.mod_eq_of_lt (show k < 32 by omega), Nat.shiftLeft_eq]
 refine Nat.mod_eq_of_lt ?_
 have : (2 : Nat) ^ k ≤ 2 ^ 24 := Nat.pow_le_pow_right (by omega) hk
 calc x.toNat * 2 ^ k ≤ 255 * 2 ^ 24 := Nat.mul_le_mul (by omega) this
  _ < 2 ^ 32 := by decide
theorem join_nat (i x y : Nat) (hx : x < 2 ^ i) : x ||| y * 2 ^ i = x + y * 2 ^ i := by
 rw [Nat.or_comm, Nat.add_comm]; exact nat_join i _ _ (Nat.mul_mod_left _ _) hx
theorem get4_nat (l : List UInt8) : (get4 l).toNat = (l.getD 0 0).toNat + (l.getD 1 0).toNat * 256 + (l.getD 2 0).toNat * 65536 + (l.getD 3 0).toNat * 16777216 := by
 have h0 := (l.getD 0 0).toNat_lt
 have h1 := (l.getD 1 0).toNat_lt
 have h2 := (l.getD 2 0).toNat_lt
 have e1 := shl_nat (l.getD 1 0) 8 (by omega)
 have e2 := shl_nat (l.getD 2 0) 16 (by omega)
 have e3 := shl_nat (l.getD 3 0) 24 (by omega)
 unfold get4
 rw [UInt32.toNat_or, UInt32.toNat_or, UInt32.toNat_or, UInt8.toNat_toUInt32]
 rw [show (8 : UInt32) = UInt32.ofNat 8 from rfl, show (16 : UInt32) = UInt32.ofNat 16 from rfl, show (24 : UInt32) = UInt32.ofNat 24 from rfl, e1, e2, e3]
 rw [join_nat 8 _ _ (by omega), join_nat 16 _ _ (by omega), join_nat 24 _ _ (by omega)]
theorem shr8_nat (n : UInt32) (k : Nat) (hk : k < 32) : ((n >>> UInt32.ofNat k).toUInt8).toNat = n.toNat / 2 ^ k % 256 := by
 rw [UInt32.toNat_toUInt8, UInt32.toNat_shiftRight, UInt32.toNat_ofNat', Nat.mod_eq_of_lt (show k < 2 ^ 32 by omega), Nat.mod_eq_of_lt hk, Nat.shiftRight_eq_div_pow]
theorem get4_four (x : UInt32) (r : List UInt8) : get4 (four x ++ r) = x := by
 apply UInt32.toNat_inj.1
 rw [get4_nat]
 have e1 := shr8_nat x 8 (by omega)
 have e2 := shr8_nat x 16 (by omega)
 have e3 := shr8_nat x 24 (by omega)
 have hx := x.toNat_lt
 simp only [four, List.cons_append, List.getD_cons_zero, List.getD_cons_succ, UInt32.toNat_toUInt8] at *
 rw [show (8 : UInt32) = UInt32.ofNat 8 from rfl, show (16 : UInt32) = UInt32.ofNat 16 from rfl, show (24 : UInt32) = UInt32.ofNat 24 from rfl, e1, e2, e3]
 omega
theorem four_get4 (l : List UInt8) (h : 4 ≤ l.length) : four (get4 l) = l.take 4 := by
 match l, h with
 | a :: b :: c :: d :: r, _ =>
  have h0 := a.toNat_lt
  have h1 := b.toNat_lt
  have h2 := c.toNat_lt
  have h3 := d.toNat_lt
  have hn := get4_nat (a :: b :: c :: d :: r)
  simp only [List.getD_cons_zero, List.getD_cons_succ] at hn
  generalize get4 (a :: b :: c :: d :: r) = x at *
  have e1 := shr8_nat x 8 (by omega)
  have e2 := shr8_nat x 16 (by omega)
  have e3 := shr8_nat x 24 (by omega)
  have e0 : x.toUInt8.toNat = x.toNat % 256 := UInt32.toNat_toUInt8 x
  unfold four
  have q0 : x.toUInt8 = a := UInt8.toNat_inj.1 (by omega)
  have q1 : (x >>> 8).toUInt8 = b := UInt8.toNat_inj.1 (by rw [show (8 : UInt32) = UInt32.ofNat 8 from rfl, e1]; omega)
  have q2 : (x >>> 16).toUInt8 = c := UInt8.toNat_inj.1 (by rw [show (16 : UInt32) = UInt32.ofNat 16 from rfl, e2]; omega)
  have q3 : (x >>> 24).toUInt8 = d := UInt8.toNat_inj.1 (by rw [show (24 : UInt32) = UInt32.ofNat 24 from rfl, e3]; omega)
  rw [q0, q1, q2, q3]; rfl
/-- A frame of a record. -/
def frameOf (p : List UInt8) : List UInt8 := four (UInt32.ofNat p.length) ++ four (crc (four (UInt32.ofNat p.length))) ++ p ++ four (crc p)
theorem frameOf_length (p : List UInt8) : (frameOf p).length = p.length + 12 := by simp only [frameOf, List.length_append, four_length]; omega

/-! ### Scan: a whole frame at the beginning; all of them -/
def sizeOf4 (b : List UInt8) : Nat := (get4 b).toNat
def recOf (b : List UInt8) : List UInt8 := (b.drop 8).take (sizeOf4 b)
def headOk (b : List UInt8) : Bool := decide (sizeOf4 b ≤ 262144) && get4 (b.drop 4) == crc (b.take 4) && decide (sizeOf4 b + 12 ≤ b.length)
def whole (b : List UInt8) : Bool := decide (12 ≤ b.length) && headOk b && get4 (b.drop (8 + sizeOf4 b)) == crc (recOf b)
def scanN : Nat → List UInt8 → List (List UInt8) × Nat
 | 0, _ => ([], 0)
 | k + 1, b => if whole b then (recOf b :: (scanN k (b.drop (sizeOf4 b + 12))).1, sizeOf4 b + 12 + (scanN k (b.drop (sizeOf4 b + 12))).2) else ([], 0)
def scan (b : List UInt8) : List (List UInt8) × Nat := scanN b.length b
theorem whole_len {b : List UInt8} (h : whole b = true) : sizeOf4 b + 12 ≤ b.length := by
 simp [whole, headOk] at h; omega
theorem scanN_fuel (k : Nat) : ∀ (b : List UInt8) (j : Nat), b.length ≤ k → b.length ≤ j → scanN k b = scanN j b := by
 induction k with
 | zero =>
  intro b j hk hj
  cases j with
  | zero => rfl
  | succ j =>
   have : whole b = false := by
    cases hw : whole b with
    | false => rfl
    | true => have := whole_len hw; omega
   simp [scanN, this]
 | succ k ih =>
  intro b j hk hj
  cases j with
  | zero =>
   have : whole b = false := by
    cases hw : whole b with
    | false => rfl
    | true => have := whole_len hw; omega
   simp [scanN, this]
  | succ j =>
   simp only [scanN]
   cases hw : whole b with
   | false => simp
   | true =>
    have hl := whole_len hw
    rw [ih (b.drop (sizeOf4 b + 12)) j (by simp; omega) (by simp; omega)]
theorem scan_none {b : List UInt8} (h : whole b = false) : scan b = ([], 0) := by
 unfold scan
 cases hb : b.length with
 | zero => rfl
 | succ n => simp [scanN, h]
theorem scan_some {b : List UInt8} (h : whole b = true) : scan b = (recOf b :: (scan (b.drop (sizeOf4 b + 12))).1, sizeOf4 b + 12 + (scan (b.drop (sizeOf4 b + 12))).2) := by
 have hl := whole_len h
 unfold scan
 rw [scanN_fuel b.length b (b.length + 1) (by omega) (by omega)]
 simp only [scanN, h, if_true]
 rw [scanN_fuel b.length (b.drop (sizeOf4 b + 12)) (b.drop (sizeOf4 b + 12)).length (by simp) (Nat.le_refl _)]
/-- Where a scan stands: k bytes in, with these records told. -/
def ScanAt (b : List UInt8) (k : Nat) (out : List (List UInt8)) : Prop := k ≤ b.length ∧ out.length * 12 ≤ k ∧ scan b = (out ++ (scan (b.drop k)).1, k + (scan (b.drop k)).2)
theorem ScanAt.start (b : List UInt8) : ScanAt b 0 [] := ⟨Nat.zero_le _, by simp, by simp⟩
theorem ScanAt.next {b : List UInt8} {k : Nat} {out : List (List UInt8)} (h : ScanAt b k out) (hw : whole (b.drop k) = true) : ScanAt b (k + (sizeOf4 (b.drop k) + 12)) (out ++ [recOf (b.drop k)]) := by
 have hl := whole_len hw
 obtain ⟨h1, h0, h2⟩ := h
 simp at hl
 refine ⟨by omega, by simp; omega, ?_⟩
 rw [h2, scan_some hw, List.drop_drop]
 simp [Nat.add_assoc]
theorem ScanAt.done {b : List UInt8} {k : Nat} {out : List (List UInt8)} (h : ScanAt b k out) (hw : whole (b.drop k) = false) : scan b = (out, k) := by
 rw [h.2.2, scan_none hw]; simp

end Go.Proofs.YtjjcilinghgphaaGreat
