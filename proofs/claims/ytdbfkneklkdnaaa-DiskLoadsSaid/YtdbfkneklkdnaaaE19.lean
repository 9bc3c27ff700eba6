/-
  The walk of DiskSynced.
-/
import Derived.Test.YtdbfkneklkdnaaaE18
namespace Go.Proofs.Ytdbfkneklkdnaaa
open Go.RowKit Go.Maps Go.Sort
set_option maxRecDepth 100000
attribute [local go_sem] bs_size bs_toList

def TrueEnd (w : World) (e : Ending) (w' : World) : Prop := e = .returned (.bool true) ∧ Below w.heap.size w w'
theorem firstT (w : World) : Calls Try.prog 10 #[] w (TrueEnd w) := first_any w
theorem TrueEnd.mk {w w' : World} (h : Below w.heap.size w w') : TrueEnd w (.returned (.bool true)) w' := ⟨rfl, h⟩
theorem next_below {w w1 w2 : World} (h : Below w.heap.size w w1) (k : Below w1.heap.size w1 w2) : Below w.heap.size w w2 := h.trans (k.mono h.size)
set_option maxHeartbeats 4000000 in
theorem synced_walk (a : Option Addr) (n cap : Nat) (os : List OpV) (nm tn : List UInt8) (ap : Option Addr) (np cp : Nat) (picks : List Int) (w : World) (h : RdOps w (fun b => b < w.heap.size) a n cap os)
    (hn1 : nm.length ≤ 9223372036854775807) (hn2 : tn.length ≤ 9223372036854775807) (hp : RdI w ap np cp picks) (hpb : BlkIn ap np fun b => b < w.heap.size) :
    Calls Try.prog 3 #[.slice a n cap, .string (bs nm), .string (bs tn), .slice ap np cp] w (TrueEnd w) := by
  have H0 := Lib.hid h
  have HP := Lib.hid hp
  have HPB := Lib.hid hpb
  have HN := Lib.hid h.1
  clear h hp hpb
  go_enter Try.func3, Try.ntmps3
  go_wp2_with (go_at_call 10; ((with_reducible refine (firstT _).mono ?_); rintro e wa ⟨rfl, hb⟩; have HBA := Lib.hid hb; clear hb))
  go_at_call 11
  refine (few_any a n cap os _ _ (H0.out.below HBA.out)).mono ?_
  rintro e wb ⟨b, rfl, hfew, hb⟩
  have HBB := Lib.hid (next_below HBA.out hb)
  have HFEW := Lib.hid hfew
  clear hb hfew HBA
  cases b with
  | false =>
    clear HFEW
    go_wp2_with (go_at_call 10; ((with_reducible refine (firstT _).mono ?_); rintro e wc ⟨rfl, hb⟩; have HBC := Lib.hid hb; clear hb))
    go_ret
    exact TrueEnd.mk (next_below HBB.out HBC.out)
  | true =>
    have HF := Lib.hid (HFEW.out rfl)
    clear HFEW
    by_cases hl1 : nm.length ≤ 100
    case' neg => have d1 : decide ((100 : Int) < nm.length) = true := by simp; omega
    case' pos =>
      have d1 : decide ((100 : Int) < nm.length) = false := by simp; omega
      by_cases hl2 : tn.length ≤ 100
      case' neg => have d2 : decide ((100 : Int) < tn.length) = true := by simp; omega
      case' pos => have d2 : decide ((100 : Int) < tn.length) = false := by simp; omega
    case neg =>
      go_wp2_with (go_at_call 10; ((with_reducible refine (firstT _).mono ?_); rintro e wc ⟨rfl, hb⟩; have HBC := Lib.hid hb; clear hb))
      go_ret
      exact TrueEnd.mk (next_below HBB.out HBC.out)
    case neg =>
      go_wp2_with (go_at_call 10; ((with_reducible refine (firstT _).mono ?_); rintro e wc ⟨rfl, hb⟩; have HBC := Lib.hid hb; clear hb))
      go_ret
      exact TrueEnd.mk (next_below HBB.out HBC.out)
    go_wp2_with (go_at_call 12; ((with_reducible refine (new_any 0 (Int.le_refl _) _).mono ?_); rintro e w1 ⟨d, rfl, hb1, hd1⟩; have HL := Lib.hid (LS.start hb1 hd1); clear hb1 hd1))
    have hn3 : n ≤ 300 := by have := HF.out.1; have := HN.out; omega
    go_loopw [10] (fun i wr => ∃ (k : Nat) (S : Nat → Prop) (s : DS), k ≤ n ∧ i = .int .i64 (k : Nat) ∧ Hid (LS (k : Nat) wb wr d S s)) (fun i _ => n - (intOf i).toNat)
    case atStart => exact ⟨0, _, newS, Nat.zero_le _, rfl, HL.out⟩
    case round =>
      clear HL
      obtain ⟨k, S, s, hk, rfl, HL⟩ := hrel
      by_cases hlt : k < n
      · obtain ⟨o, ho⟩ : ∃ o, os[k]? = some o := ⟨_, List.getElem?_eq_getElem (by have := HN.out; omega)⟩
        obtain ⟨b, off, ab, cb, ap', cp', rfl, hrd, c0, c1, c2, c3, c4, c5⟩ := ((H0.out.below HBB.out).below HL.out.2.2).at ho
        have hbl := (HF.out.each (List.mem_of_getElem? ho)).2.2
        have HRD := Lib.hid hrd
        clear ho hrd
        go_wp2_with fail
        go_at_call 13
        refine (HL.out.does (by omega) (by omega) HRD.out (fun b hb => Nat.lt_of_lt_of_le hb HBB.out.size)).mono ?_
        rintro e w2 ht
        obtain ⟨rfl, hls, _⟩ := HL.out.told ht
        have HL2 := Lib.hid hls
        clear ht hls c0 c1 c2 c3 c4 c5
        go_wp2_with fail
        go_roundw
        case rel => exact ⟨k + 1, _, _, by omega, by go_num, HL2.out⟩
        case measure => simp [intOf]; omega
      · obtain rfl : k = n := by omega
        go_wp2_with fail
        go_at_call 14
        refine (sync_any d S _ (by omega) s nm hn1 wr HL.out.1).mono ?_
        rintro e w2 ht
        obtain ⟨rfl, hls, _⟩ := HL.out.told ht
        have HL2 := Lib.hid hls
        clear ht hls
        obtain ⟨e1, he1⟩ : ∃ e1, (syncS s nm).2 = e1 := ⟨_, rfl⟩
        rw [he1]
        by_cases h0 : e1 = 0
        · have hsy := synced (tn := tn) (picks := picks) (he1.trans h0)
          subst h0
          clear he1
          obtain ⟨s1, hs1⟩ : ∃ s1, (syncS s nm).1 = s1 := ⟨_, rfl⟩
          rw [hs1] at hsy HL2
          clear hs1
          obtain ⟨r2, hr2⟩ : ∃ r2, renameS s1 nm tn = r2 := ⟨_, rfl⟩
          rw [hr2] at hsy
          have HR2 := Lib.hid hr2
          clear hr2
          obtain ⟨p1, p2, p3, p4⟩ := hsy
          have P1 := Lib.hid p1
          have P2 := Lib.hid p2
          have P3 := Lib.hid p3
          have P4 := Lib.hid p4
          clear p1 p2 p3 p4
          go_wp2_with fail
          go_at_call 15
          refine (read_any d _ _ s1 nm hn1 w2 HL2.out.1).mono ?_
          rintro e w3 ⟨v, rfl, ho, hb⟩
          rw [P1.out]
          obtain ⟨D1, hD1⟩ : ∃ D1, dataS s1 nm = D1 := ⟨_, rfl⟩
          have ho : Own8 w3 w2.heap.size 5 v D1 := by rw [← hD1]; exact ho
          rw [hD1] at P3
          clear hD1
          obtain ⟨a11, cap11, rfl, hrd⟩ := ho.rd
          have hblk : ∀ q, blk a11 = some q → w2.heap.size ≤ q ∧ q < w3.heap.size := fun q hq => World.ownsRow.lt ho q (by rw [ownBlock_sl]; exact hq)
          have HL3 := Lib.hid (HL2.out.new hb)
          have HBLK : Hid (∀ q, blk a11 = some q → ¬ Sx S wr w2 q) := fun q hq e => by have h1 := (hblk q hq).1; have h2 := HL2.out.1.lt q e; omega
          have HBQ : Hid (∀ q, blk a11 = some q → q < w3.heap.size) := fun q hq => (hblk q hq).2
          have HRW := Lib.hid hrd
          clear ho hb hrd hblk
          go_wp2_with fail
          go_at_call 16
          refine (rename_any d _ _ (by omega) s1 nm tn hn1 hn2 w3 HL3.out.1).mono ?_
          rintro e w4 ht
          obtain ⟨rfl, hls, hf⟩ := HL3.out.told ht
          rw [HR2.out] at hls ⊢
          have HL4 := Lib.hid hls
          have HRW4 := Lib.hid (HRW.out.keep hf HBLK.out)
          have HBLK4 : Hid (∀ q, blk a11 = some q → ¬ Sx (Sx S wr w2) w3 w4 q) := fun q hq e => by
            rcases e with e | e
            · exact HBLK.out q hq e
            · have := HBQ.out q hq; omega
          have HBQ4 : Hid (∀ q, blk a11 = some q → q < w4.heap.size) := fun q hq => Nat.lt_of_lt_of_le (HBQ.out q hq) hf.size
          clear ht hls hf HR2 HRW HBLK HBQ HL3 HL2
          by_cases h2 : r2.2 = 0
          case' pos =>
            obtain ⟨at_, hat⟩ : ∃ at_, tn = at_ := ⟨_, rfl⟩
            have be : (r2.2 == 0) = true := by simpa using h2
          case' neg =>
            obtain ⟨at_, hat⟩ : ∃ at_, nm = at_ := ⟨_, rfl⟩
            have be : (r2.2 == 0) = false := by simpa using h2
          case' pos => rw [if_pos h2] at P2 P3
          case' neg => rw [if_neg h2] at P2 P3
          all_goals
            rw [hat] at P2 P3
            have hat1 : at_.length ≤ 9223372036854775807 := by rw [← hat]; assumption
            have HAT := Lib.hid hat
            have HH2 := Lib.hid h2
            clear hat h2
            go_wp2_with fail
            go_at_call 17
            refine (crash_any d _ _ r2.1 ap np cp picks w4 HL4.out.1 ((HP.out.below HBB.out).below HL4.out.2.2) (fun h0 q hq => HL4.out.old q (Nat.lt_of_lt_of_le (HPB.out h0 q hq) HBB.out.size))).mono ?_
            rintro e w5 ⟨rfl, hd⟩
            obtain ⟨hls, hf⟩ := HL4.out.done hd
            have HL5 := Lib.hid hls
            have HRW5 := Lib.hid (HRW4.out.keep hf HBLK4.out)
            clear hls hf hd HRW4 HBLK4 HBQ4 HL4
            obtain ⟨s3, hs3⟩ : ∃ s3, crashS r2.1 picks = s3 := ⟨_, rfl⟩
            rw [hs3] at P2 P3 P4 HL5
            clear hs3
            go_wp2_with fail
            rw [HAT.out]
            go_at_call 15
            refine (read_any d _ _ s3 at_ hat1 w5 HL5.out.1).mono ?_
            rintro e w6 ⟨v, rfl, ho, hb⟩
            rw [P2.out]
            have ho : Own8 w6 w5.heap.size 5 v D1 := by have := P3.out; unfold dataS at this; rw [this] at ho; exact ho
            obtain ⟨a15, cap15, rfl, hrd⟩ := ho.rd
            have HL6 := Lib.hid (HL5.out.new hb)
            have hby := bytes_any a15 a11 D1.length D1.length cap15 cap11 D1 D1 w6 hrd (HRW5.out.below hb)
            rw [show (D1 == D1) = true by simp] at hby
            have HBY := Lib.hid hby
            clear ho hb hrd hby HRW5 HL5
            go_wp2_with (go_at_call 18; ((with_reducible refine (HBY.out).mono ?_); rintro e w' ⟨rfl, rfl⟩))
            go_at_call 15
            refine (read_any d _ _ s3 _ (by assumption) w6 HL6.out.1).mono ?_
            rintro e w7 ⟨v, rfl, ho, hb⟩
            have HL7 := Lib.hid (HL6.out.new hb)
            clear ho hb HL6 HBY
          · go_wp2_with (go_at_call 10; ((with_reducible refine (firstT _).mono ?_); rintro e wc ⟨rfl, hb⟩; have HBC := Lib.hid hb; clear hb))
            go_ret
            exact TrueEnd.mk (next_below (next_below HBB.out HL7.out.2.2) HBC.out)
          · by_cases hne : nm = at_
            case' pos => have bn : (nm == at_) = true := by simpa using hne
            case' neg =>
              have bn : (nm == at_) = false := by simpa using hne
              rw [P4.out HH2.out (by rw [HAT.out]; exact hne)]
            all_goals
              clear hne
              go_wp2_with (go_at_call 10; ((with_reducible refine (firstT _).mono ?_); rintro e wc ⟨rfl, hb⟩; have HBC := Lib.hid hb; clear hb))
              go_ret
              exact TrueEnd.mk (next_below (next_below HBB.out HL7.out.2.2) HBC.out)
        · have he : (e1 != 0) = true := by simpa using h0
          clear he1
          go_wp2_with (go_at_call 10; ((with_reducible refine (firstT _).mono ?_); rintro e wc ⟨rfl, hb⟩; have HBC := Lib.hid hb; clear hb))
          go_ret
          exact TrueEnd.mk (next_below (next_below HBB.out HL2.out.2.2) HBC.out)
end Go.Proofs.Ytdbfkneklkdnaaa
