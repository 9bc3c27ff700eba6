/-
 The chapter's examples (first).
-/
import Derived.Test.YtjjcilinghgphaaGreatVD
import Derived.Lib.SlBytesConst
namespace Go.Proofs.YtjjcilinghgphaaGreat
open Go.RowKit Go.Maps Go.Sort
set_option maxRecDepth 100000
attribute [local go_sem] bs_size bs_toList

def dL : List UInt8 := [108, 111, 103]
def gA (room : Int) (rs : List (List UInt8)) (sf : Nat) : LG := ⟨dL, room, [], ⟨1, rs⟩, sf⟩
def sN : DS := (createS newS (segN dL 1)).1
theorem create_new : createS newS (segN dL 1) = (⟨[⟨segN dL 1, [], 0⟩], 1, 0, false⟩, 0) := by
 unfold createS
 rw [errW_free rfl rfl, if_pos (by decide)]
 rfl
theorem open_new {room : Int} (h1 : 64 ≤ room) (h2 : room ≤ 262144) : openL newS dL room = ⟨sN, some (gA room [] 0), 0⟩ := by
 rw [openL_new (openA_zero (by decide) (by decide) h1 h2 rfl) rfl]
 unfold openN sN
 rw [create_new, if_pos rfl]
 rfl
theorem fre_new (room : Int) : Fre sN (gA room [] 0) := by
 unfold sN
 rw [create_new]
 exact ⟨rfl, rfl, rfl⟩
theorem appL_g {s : DS} {g : LG} {p : List UInt8} (h1 : ¬ 262144 < p.length) (h2 : ¬ 99999999 < g.next) (h3 : (szS g.la : Int) < g.room) : appL s g p = putL s g p := by
 have h := appL_put (s := s) (g := g) h1 h2 (by rw [turnL_free h3])
 rw [turnL_free h3] at h
 exact h
theorem app_free {s : DS} {g : LG} {p : List UInt8} (hF : Fre s g) (hs : Srt s.fs) (h1 : p.length ≤ 262144) (h2 : g.next ≤ 99999999) (h3 : (szS g.la : Int) < g.room) (h4 : p.length + 12 + tot s.fs ≤ 4194304) :
 (appL s g p).e = 0 ∧ (appL s g p).g = { g with la := ⟨g.la.f, g.la.rs ++ [p]⟩ } ∧ Fre (appL s g p).s (appL s g p).g ∧ appN s g p = (g.next : Nat) := by
 have e := appL_g (s := s) (p := p) (by omega) (by omega) h3
 obtain ⟨q1, q2, q3⟩ := hF.put (p := p) hs
 rw [← e] at q1 q2 q3
 have h0 : (appL s g p).e = 0 := by
  by_cases h : (appL s g p).e = 0
  · exact h
  · have := q2 h; omega
 exact ⟨h0, q3 h0, q1, by unfold appN; rw [if_pos h0]⟩
def TEnd (w : World) (e : Ending) (w' : World) : Prop := e = .returned (.bool true) ∧ Below w.heap.size w w'
theorem TEnd.mk {w w' : World} (h : Below w.heap.size w w') : TEnd w (.returned (.bool true)) w' := ⟨rfl, h⟩
theorem bytes1 (W : World) (x : UInt8) : Rd8 (W.alloc (.cells #[.int .u8 (n8 x)] 5 (1, 2))) (some ⟨W.heap.size, 0, none⟩) 1 1 [x] := Rd8.lit W [x] 1 rfl (by decide) 5 (1, 2)
theorem LL.off {W0 W : World} {B : Int} {d l : Nat} {T : Nat → Prop} {s : DS} {g : LG} (h : LL W0 B d l T s g W) {n : Nat} : BlkIn (some ⟨W.heap.size, 0, none⟩) n fun b => ¬ T b := fun _ b hb e => by
 have h1 := h.lt b e
 cases hb
 exact Nat.lt_irrefl _ h1
set_option maxHeartbeats 4000000 in
theorem wfirst_any (w : World) : Calls Tryz.prog 5 #[] w (TEnd w) := by
 have hst : (ByteArray.mk #[98]).toList = [98] := bs_toList [98]
 have hst2 : (ByteArray.mk #[108, 111, 103, 46, 48, 48, 48, 48, 48, 48, 48, 49]).toList = [108, 111, 103, 46, 48, 48, 48, 48, 48, 48, 48, 49] := bs_toList [108, 111, 103, 46, 48, 48, 48, 48, 48, 48, 48, 49]
 have kc := fun (w : World) (C : Array Value) (n c : Nat) => Lib.run_convert_bytes_const (P := Tryz.prog) w 24 5 C n c Tryz.underlying24 Tryz.underlying5
 go_enter Tryz.func5, Tryz.ntmps5
 go_wp2_with fail
 go_at_call 13
 refine (new_any 0 (Int.le_refl _) w).mono ?_
 rintro e w1 ⟨d, rfl, hb1, hd1⟩
 have HD1 := Lib.hid (DL.start hb1 hd1)
 clear hb1 hd1
 go_wp2_with fail
 go_at_call 15
 refine (HD1.out.open (by omega) dL (by decide) 64).mono ?_
 rintro e w2 ho
 rw [open_new (by decide) (by decide)] at ho
 obtain ⟨l, T2, rfl, hl2, _⟩ := ho
 have HL2 := Lib.hid hl2
 clear hl2
 go_wp2_with fail
 have hba : Below w2.heap.size w2 (w2.alloc (.cells #[.int .u8 (n8 97)] 5 (1, 2))) := (Below.refl _ _).alloc (Nat.le_refl _) _
 have hra := bytes1 w2 97
 obtain ⟨X, hX⟩ : ∃ X, w2.alloc (.cells #[.int .u8 (n8 97)] 5 (1, 2)) = X := ⟨_, rfl⟩
 rw [hX] at hba hra
 have hX' : w2.alloc (.cells #[.int .u8 97] 5 (1, 2)) = X := hX
 rw [hX']
 go_at_call 16
 obtain ⟨a1, a2, a3, a4⟩ := app_free (p := [97]) (fre_new 64) HL2.out.lw.ok.srt (by decide) (by decide) (by decide) (by decide)
 refine ((HL2.out.new hba).append (by omega) hra HL2.out.off).mono ?_
 rintro e w3 ⟨T3, rfl, hl3, _⟩
 rw [a1, a4, show (((gA 64 [] 0).next : Nat) : Int) = 1 from rfl]
 have HL3 := Lib.hid hl3
 have HF3 := Lib.hid a3
 have HG3 : Hid ((appL sN (gA 64 [] 0) [97]).g = gA 64 [[97]] 0) := a2
 clear hl3 a1 a2 a3 a4 hX hX' hba hra
 obtain ⟨s3, hs3⟩ : ∃ s3, (appL sN (gA 64 [] 0) [97]).s = s3 := ⟨_, rfl⟩
 rw [HG3.out, hs3] at HL3 HF3
 clear hs3 HG3
 go_wp2_with fail
 have hba : Below w3.heap.size w3 (w3.alloc (.cells #[.int .u8 (n8 98)] 5 (1, 2))) := (Below.refl _ _).alloc (Nat.le_refl _) _
 have hra := bytes1 w3 98
 obtain ⟨X, hX⟩ : ∃ X, w3.alloc (.cells #[.int .u8 (n8 98)] 5 (1, 2)) = X := ⟨_, rfl⟩
 rw [hX] at hba hra
 have hX' : w3.alloc (.cells #[.int .u8 98] 5 (1, 2)) = X := hX
 rw [hX']
 go_at_call 16
 obtain ⟨a1, a2, a3, a4⟩ := app_free (p := [98]) HF3.out HL3.out.lw.ok.srt (by decide) (by decide) (by decide) (by rw [HF3.out.tot]; decide)
 refine ((HL3.out.new hba).append (by omega) hra HL3.out.off).mono ?_
 rintro e w4 ⟨T4, rfl, hl4, _⟩
 rw [a1, a4, show (((gA 64 [[97]] 0).next : Nat) : Int) = 2 from rfl]
 have HL4 := Lib.hid hl4
 have HF4 := Lib.hid a3
 have HG4 : Hid ((appL s3 (gA 64 [[97]] 0) [98]).g = gA 64 [[97], [98]] 0) := a2
 clear hl4 a1 a2 a3 a4 hX hX' hba hra
 obtain ⟨s4, hs4⟩ : ∃ s4, (appL s3 (gA 64 [[97]] 0) [98]).s = s4 := ⟨_, rfl⟩
 rw [HG4.out, hs4] at HL4 HF4
 clear hs4 HG4
 go_wp2_with fail
 go_at_call 17
 refine (HL4.out.safe).mono ?_
 rintro e w5 ⟨rfl, i, rfl⟩
 rw [show (((gA 64 [[97], [98]] 0).safe : Nat) : Int) = 0 from rfl]
 have HL5 := Lib.hid (HL4.out.drewN i)
 go_wp2_with fail
 go_at_call 18
 obtain ⟨b1, b2, b3⟩ := HF4.out.sync HL4.out.lw.ok.srt
 refine (HL5.out.sync (by omega)).mono ?_
 rintro e w6 ⟨T6, rfl, hl6, _⟩
 rw [b1]
 have HL6 := Lib.hid hl6
 have HF6 := Lib.hid b2
 have HG6 : Hid ((syncL s4 (gA 64 [[97], [98]] 0)).g = gA 64 [[97], [98]] 2) := b3
 clear hl6 b1 b2 b3
 obtain ⟨s6, hs6⟩ : ∃ s6, (syncL s4 (gA 64 [[97], [98]] 0)).s = s6 := ⟨_, rfl⟩
 rw [HG6.out, hs6] at HL6 HF6
 clear hs6 HG6
 go_wp2_with fail
 go_at_call 19
 refine (HL6.out.from 1 9 (by decide) (by decide)).mono ?_
 rintro e w7 ⟨v7, vs7, rfl, hown, hb7⟩
 have hmay : mayL (gA 64 [[97], [98]] 2) 1 = true := by decide
 rw [hmay]
 rw [hmay] at hown
 have hfr : (if true = true then fromL (gA 64 [[97], [98]] 2) 1 9 else []) = [[97], [98]] := by decide
 rw [hfr] at hown
 obtain ⟨u, hu1, hu2⟩ : ∃ u, vs7[1]? = some u ∧ Own8 w7 w6.heap.size 5 u [98] := by
  have hl : vs7.length = 2 := by have := hown.1.1; simpa using this
  exact ⟨_, List.getElem?_eq_getElem (by omega), hown.2.1 1 _ _ (List.getElem?_eq_getElem (by omega)) rfl⟩
 obtain ⟨a7, c7, rfl, hr7⟩ := (OwnO.of_own hown.1).rd
 obtain ⟨b7, o7, rfl, _, hc7⟩ := hr7.at (by decide)
 have hcu := hc7 1 u hu1
 obtain ⟨au, cu, rfl, hru⟩ := hu2.rd
 have HL7 := Lib.hid (HL6.out.new hb7)
 have HRU := Lib.hid hru
 have HCU := Lib.hid hcu
 clear hmay hown hfr hu1 hu2 hr7 hc7 hru hb7 hcu
 go_wp2_with fail
 go_at_call 20
 obtain ⟨Sd, hdk⟩ := HL7.out.dk
 refine (list_any d Sd _ s6 w7 hdk).mono ?_
 rintro e w8 ⟨v8, rfl, hown8, hb8⟩
 have hnm : s6.fs.map Fl.nm = [[108, 111, 103, 46, 48, 48, 48, 48, 48, 48, 48, 49]] := by
  rw [HF6.out.names]; decide
 rw [hnm] at hown8
 obtain ⟨a8, c8, rfl, hr8⟩ := (OwnO.of_own hown8).rd
 obtain ⟨b8, o8, rfl, _, hc8⟩ := hr8.at (by decide)
 have hc80 := hc8 0 _ rfl
 rw [encStr_bs] at hc80
 simp only [Nat.add_zero] at hc80
 have HL8 := Lib.hid (HL7.out.new hb8)
 have hcu8 := cell_below HCU.out hb8
 have hru8 := HRU.out.below hb8
 have hts : (convert 24 9 (.slice au 1 cu)).run Tryz.prog w8 = .ok (.string (bs [98])) w8 := run_toStr (P := Tryz.prog) hru8 24 5 9 Tryz.underlying24 Tryz.underlying5 Tryz.underlying9
 have HNX := Lib.hid HL8.out.next'
 have HBL := Lib.hid HL8.out.bl
 clear hdk hown8 hb8 hnm hr8 hc8 hru8
 go_wp2_with fail
 go_at_call 21
 refine (HNX.out).mono ?_
 rintro e w9 ⟨rfl, j, rfl⟩
 rw [show (((gA 64 [[97], [98]] 2).next : Nat) : Int) = 3 from rfl]
 have hc80 : (w8.drewN j).cell? ⟨b8, o8, none⟩ = some (.string (bs [108, 111, 103, 46, 48, 48, 48, 48, 48, 48, 48, 49])) := hc80
 go_wp2_with fail
 go_ret
 exact TEnd.mk (below_dn HBL.out j)
end Go.Proofs.YtjjcilinghgphaaGreat
