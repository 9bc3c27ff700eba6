/-
  slices.Sorted over maps.Keys at this program: the shelf's contracts in plain words (laid by the kit's tools).
-/
import Derived.Shelf.SlIter.Nil
import Derived.Shelf.SortM.Plain
import Derived.Shelf.SortM.SortNone
import Derived.Ground.GgzProg
import Derived.Ground.SlgmProg
import Derived.Test.YtkinhilkmjfjhaaGreatProg
namespace Go.Proofs
open Go.RowKit Go.Maps Go.Sort Go.Shelf
def Tryz.keys66_ren : Go.Shelf.Ren := ⟨fun | 7 => 66 | 10 => 99 | n => n, fun | 23 => 63 | 26 => 9 | 3 => 106 | 28 => 104 | 0 => 0 | 27 => 103 | 33 => 109 | 4 => 4 | n => n, fun | n => n⟩
theorem Tryz.keys66 : Go.Proofs.SlLaysZ.n7 Tryz.prog Tryz.keys66_ren := {
  mixed := by kernel_rfl
  f7 := ⟨Tryz.f66.name, by decide, Tryz.func66.trans (congrArg some (by kernel_rfl))⟩
  f10 := ⟨Tryz.f99.name, by decide, Tryz.func99.trans (congrArg some (by kernel_rfl))⟩
  t0 := Tryz.underlying0
  a0 := Tryz.isAgg0
  z0 := Tryz.sizeOf0
  v0 := Tryz.zeroValue0
  t4 := Tryz.underlying4
  a4 := Tryz.isAgg4
  z4 := Tryz.sizeOf4
  v4 := Tryz.zeroValue4
  t23 := Tryz.underlying63
  a23 := Tryz.isAgg63
  z23 := Tryz.sizeOf63
  v23 := Tryz.zeroValue63
  t26 := Tryz.underlying9
  a26 := Tryz.isAgg9
  z26 := Tryz.sizeOf9
  v26 := Tryz.zeroValue9
  t27 := Tryz.underlying103
  a27 := Tryz.isAgg103
  z27 := Tryz.sizeOf103
  v27 := Tryz.zeroValue103
  t28 := Tryz.underlying104
  a28 := Tryz.isAgg104
  z28 := Tryz.sizeOf104
  v28 := Tryz.zeroValue104
  t33 := Tryz.underlying109
  a33 := Tryz.isAgg109
  z33 := Tryz.sizeOf109
  v33 := Tryz.zeroValue109 }
def Tryz.sorted65_ren : Go.Shelf.Ren := ⟨fun | 6 => 65 | 8 => 97 | 9 => 98 | 11 => 102 | 13 => 104 | 12 => 103 | 23 => 114 | 24 => 115 | 14 => 105 | 15 => 106 | 16 => 107 | 17 => 108 | 18 => 109 | 19 => 110 | 20 => 111 | 21 => 112 | 22 => 113 | 25 => 116 | 26 => 117 | 27 => 118 | 28 => 119 | 29 => 120 | 30 => 121 | 31 => 122 | n => n, fun | 26 => 9 | 28 => 104 | 24 => 67 | 0 => 0 | 3 => 3 | 37 => 128 | 48 => 113 | 50 => 130 | 4 => 4 | 40 => 142 | 39 => 141 | 45 => 147 | 5 => 5 | 9 => 9 | 51 => 151 | 55 => 155 | 57 => 157 | 58 => 158 | 33 => 109 | n => n, fun | n => n⟩
theorem Tryz.sorted65 : Go.Proofs.SlLaysZ.n6 Tryz.prog Tryz.sorted65_ren := {
  mixed := by kernel_rfl
  f6 := ⟨Tryz.f65.name, by decide, Tryz.func65.trans (congrArg some (by kernel_rfl))⟩
  f8 := ⟨Tryz.f97.name, by decide, Tryz.func97.trans (congrArg some (by kernel_rfl))⟩
  f11 := ⟨Tryz.f102.name, by decide, Tryz.func102.trans (congrArg some (by kernel_rfl))⟩
  t0 := Tryz.underlying0
  a0 := Tryz.isAgg0
  z0 := Tryz.sizeOf0
  v0 := Tryz.zeroValue0
  t24 := Tryz.underlying67
  a24 := Tryz.isAgg67
  z24 := Tryz.sizeOf67
  v24 := Tryz.zeroValue67
  t26 := Tryz.underlying9
  a26 := Tryz.isAgg9
  z26 := Tryz.sizeOf9
  v26 := Tryz.zeroValue9
  t28 := Tryz.underlying104
  a28 := Tryz.isAgg104
  z28 := Tryz.sizeOf104
  v28 := Tryz.zeroValue104
  i26 := by kernel_rfl }
def Tryz.sort98_ren : Go.Shelf.Ren := ⟨fun | 6 => 98 | 8 => 104 | 9 => 103 | 19 => 114 | 20 => 115 | 21 => 105 | 22 => 106 | 23 => 107 | 24 => 108 | 25 => 109 | 26 => 110 | 27 => 111 | 28 => 112 | 29 => 113 | 36 => 116 | 31 => 117 | 32 => 118 | 37 => 119 | 38 => 120 | 39 => 121 | 41 => 122 | n => n, fun | 27 => 67 | 29 => 9 | 3 => 3 | 32 => 128 | 26 => 67 | 0 => 0 | 44 => 113 | 46 => 130 | 4 => 4 | 36 => 142 | 35 => 141 | 41 => 147 | 5 => 5 | 9 => 9 | 53 => 151 | 57 => 155 | 63 => 157 | 64 => 158 | n => n, fun | n => n⟩
theorem Tryz.sort98 : Go.Proofs.SlLaysM.n6 Tryz.prog Tryz.sort98_ren := {
  mixed := by kernel_rfl
  f6 := ⟨Tryz.f98.name, by decide, Tryz.func98.trans (congrArg some (by kernel_rfl))⟩
  f8 := Tryz.func104.trans (congrArg some (by kernel_rfl))
  f9 := ⟨Tryz.f103.name, by decide, Tryz.func103.trans (congrArg some (by kernel_rfl))⟩
  f19 := Tryz.func114.trans (congrArg some (by kernel_rfl))
  f20 := Tryz.func115.trans (congrArg some (by kernel_rfl))
  f21 := ⟨Tryz.f105.name, by decide, Tryz.func105.trans (congrArg some (by kernel_rfl))⟩
  f22 := ⟨Tryz.f106.name, by decide, Tryz.func106.trans (congrArg some (by kernel_rfl))⟩
  f23 := ⟨Tryz.f107.name, by decide, Tryz.func107.trans (congrArg some (by kernel_rfl))⟩
  f24 := ⟨Tryz.f108.name, by decide, Tryz.func108.trans (congrArg some (by kernel_rfl))⟩
  f25 := ⟨Tryz.f109.name, by decide, Tryz.func109.trans (congrArg some (by kernel_rfl))⟩
  f26 := ⟨Tryz.f110.name, by decide, Tryz.func110.trans (congrArg some (by kernel_rfl))⟩
  f27 := ⟨Tryz.f111.name, by decide, Tryz.func111.trans (congrArg some (by kernel_rfl))⟩
  f28 := ⟨Tryz.f112.name, by decide, Tryz.func112.trans (congrArg some (by kernel_rfl))⟩
  f29 := ⟨Tryz.f113.name, by decide, Tryz.func113.trans (congrArg some (by kernel_rfl))⟩
  f31 := Tryz.func117.trans (congrArg some (by kernel_rfl))
  f32 := Tryz.func118.trans (congrArg some (by kernel_rfl))
  f36 := ⟨Tryz.f116.name, by decide, Tryz.func116.trans (congrArg some (by kernel_rfl))⟩
  f37 := ⟨Tryz.f119.name, by decide, Tryz.func119.trans (congrArg some (by kernel_rfl))⟩
  f38 := ⟨Tryz.f120.name, by decide, Tryz.func120.trans (congrArg some (by kernel_rfl))⟩
  f39 := ⟨Tryz.f121.name, by decide, Tryz.func121.trans (congrArg some (by kernel_rfl))⟩
  f41 := ⟨Tryz.f122.name, by decide, Tryz.func122.trans (congrArg some (by kernel_rfl))⟩
  t0 := Tryz.underlying0
  a0 := Tryz.isAgg0
  z0 := Tryz.sizeOf0
  v0 := Tryz.zeroValue0
  t3 := Tryz.underlying3
  a3 := Tryz.isAgg3
  z3 := Tryz.sizeOf3
  v3 := Tryz.zeroValue3
  t4 := Tryz.underlying4
  a4 := Tryz.isAgg4
  z4 := Tryz.sizeOf4
  v4 := Tryz.zeroValue4
  t5 := Tryz.underlying5
  a5 := Tryz.isAgg5
  z5 := Tryz.sizeOf5
  v5 := Tryz.zeroValue5
  t9 := Tryz.underlying9
  a9 := Tryz.isAgg9
  z9 := Tryz.sizeOf9
  v9 := Tryz.zeroValue9
  t26 := Tryz.underlying67
  a26 := Tryz.isAgg67
  z26 := Tryz.sizeOf67
  v26 := Tryz.zeroValue67
  t27 := Tryz.underlying67
  a27 := Tryz.isAgg67
  z27 := Tryz.sizeOf67
  v27 := Tryz.zeroValue67
  t29 := Tryz.underlying9
  a29 := Tryz.isAgg9
  z29 := Tryz.sizeOf9
  v29 := Tryz.zeroValue9
  t32 := Tryz.underlying128
  a32 := Tryz.isAgg128
  z32 := Tryz.sizeOf128
  v32 := Tryz.zeroValue128
  t35 := Tryz.underlying141
  a35 := Tryz.isAgg141
  z35 := Tryz.sizeOf141
  v35 := Tryz.zeroValue141
  t36 := Tryz.underlying142
  a36 := Tryz.isAgg142
  z36 := Tryz.sizeOf142
  v36 := Tryz.zeroValue142
  t41 := Tryz.underlying147
  a41 := Tryz.isAgg147
  z41 := Tryz.sizeOf147
  v41 := Tryz.zeroValue147
  t44 := Tryz.underlying113
  a44 := Tryz.isAgg113
  z44 := Tryz.sizeOf113
  v44 := Tryz.zeroValue113
  t46 := Tryz.underlying130
  a46 := Tryz.isAgg130
  z46 := Tryz.sizeOf130
  v46 := Tryz.zeroValue130
  t53 := Tryz.underlying151
  a53 := Tryz.isAgg151
  z53 := Tryz.sizeOf151
  v53 := Tryz.zeroValue151
  t57 := Tryz.underlying155
  a57 := Tryz.isAgg155
  z57 := Tryz.sizeOf155
  v57 := Tryz.zeroValue155
  t63 := Tryz.underlying157
  a63 := Tryz.isAgg157
  z63 := Tryz.sizeOf157
  v63 := Tryz.zeroValue157
  t64 := Tryz.underlying158
  a64 := Tryz.isAgg158
  z64 := Tryz.sizeOf158
  v64 := Tryz.zeroValue158 }


theorem Tryz.sorts65 (m : Nat) : AnyZ.SortsIn Tryz.prog Tryz.sorted65_ren Fence.wide m :=
  ⟨fun blk off cap ss W hH hblk hsz => callsIn_wide.2 (AnyM.slices_Sort_string Tryz.sort98 blk off cap ss W hH hblk hsz),
   fun p cap W => callsIn_wide.2 (AnyM.slices_Sort_string_none Tryz.sort98 p cap W)⟩

theorem Tryz.maps_Keys_66 (mb : Option Nat) (W : World) : CallsIn Fence.wide 5 Tryz.prog 66 #[.map mb] W fun e w' => e = .returned (.func (.func 99) #[] #[.pointer (some ⟨W.heap.size, 0, none⟩)]) ∧ w' = W.alloc (.cells #[.map mb] 63) :=
  AnyZ.keys_in Tryz.keys66 Fence.wide 5 trivial rfl mb W

set_option maxHeartbeats 1000000 in
theorem Tryz.slices_Sorted_keys_65_66 {H : Type} (b nn : Nat) (D0 : DataW H) (R : Value → Option (DataW H × List MemPlace)) (w : World) (hown : w.ownsMap Tryz.prog 9 R b nn D0) (hmax : Maps.size D0 ≤ maxLen) (hbytes : Maps.size D0 * 16 ≤ 140737488355328) :
    CallsIn Fence.wide 5 Tryz.prog 65 #[.func (.func 99) #[] #[.pointer (some ⟨w.heap.size, 0, none⟩)]] (w.alloc (.cells #[.map (some b)] 63)) fun e w' => ∃ (v : Value) (ss : List (List UInt8)), e = .returned v ∧ ss.Perm (strKeys D0) ∧
      w'.ownsRow (w.alloc (.cells #[.map (some b)] 63)).heap.size 9 1 v ss.length ((ss.mergeSort (fun x y => decide (x ≤ y))).map encStr) ∧ (v = .slice none 0 0 ↔ ss = []) ∧ Below (w.alloc (.cells #[.map (some b)] 63)).heap.size (w.alloc (.cells #[.map (some b)] 63)) w' := by
  have hbl := hown.lt
  have hseq : SeqGives Fence.wide 2 Tryz.prog 99 #[.pointer (some ⟨w.heap.size, 0, none⟩)] encStr (fun ss => ss.Perm (strKeys D0)) (Maps.size D0) (w.alloc (.cells #[.map (some b)] 63)) :=
    AnyZ.keys_gives (ρ := Tryz.keys66_ren) { Tryz.keys66 with } Fence.wide _ trivial rfl (by omega) w.heap.size b nn D0 _ (by simp) (by simp) (by
      obtain ⟨es, clock, hb, Ft, hs, hD⟩ := hown
      exact ⟨es, clock, (Below.heap_alloc _ _ b hbl).trans hb, Ft, hs, hD⟩)
  exact AnyZ.sorted_in Tryz.sorted65 Fence.wide 5 trivial trivial trivial trivial rfl (by omega) (Tryz.sorts65 _) (enters_of Tryz.func98 (by kernel_rfl) rfl) 99 #[.pointer (some ⟨w.heap.size, 0, none⟩)] trivial (enters_of Tryz.func99 (by kernel_rfl) rfl) _ _ hmax hbytes _ hseq

set_option maxHeartbeats 1000000 in
theorem Tryz.slices_Sorted_keys_nil_65_66 (w : World) :
    CallsIn Fence.wide 5 Tryz.prog 65 #[.func (.func 99) #[] #[.pointer (some ⟨w.heap.size, 0, none⟩)]] (w.alloc (.cells #[.map none] 63)) fun e w' => ∃ (v : Value) (ss : List (List UInt8)), e = .returned v ∧ ss = [] ∧
      w'.ownsRow (w.alloc (.cells #[.map none] 63)).heap.size 9 1 v ss.length ((ss.mergeSort (fun x y => decide (x ≤ y))).map encStr) ∧ (v = .slice none 0 0 ↔ ss = []) ∧ Below (w.alloc (.cells #[.map none] 63)).heap.size (w.alloc (.cells #[.map none] 63)) w' := by
  have hseq : SeqGives Fence.wide 2 Tryz.prog 99 #[.pointer (some ⟨w.heap.size, 0, none⟩)] encStr (fun ss : List (List UInt8) => ss = []) 0 (w.alloc (.cells #[.map none] 63)) :=
    AnyZ.keys_gives_nil (ρ := Tryz.keys66_ren) { Tryz.keys66 with } Fence.wide _ trivial rfl w.heap.size _ (by simp) (by simp)
  exact AnyZ.sorted_in Tryz.sorted65 Fence.wide 5 trivial trivial trivial trivial rfl (by omega) (Tryz.sorts65 _) (enters_of Tryz.func98 (by kernel_rfl) rfl) 99 #[.pointer (some ⟨w.heap.size, 0, none⟩)] trivial (enters_of Tryz.func99 (by kernel_rfl) rfl) _ 0 (Nat.zero_le _) (by omega) _ hseq



end Go.Proofs
