/-
 slices.Sorted over maps.Keys at this program: the shelf's contracts in plain words (laid by the kit's tools).
-/
import Derived.Shelf.SlIter.Nil
import Derived.Shelf.SortM.Plain
import Derived.Shelf.SortM.SortNone
import Derived.Ground.GgzProg
import Derived.Ground.SlgmProg
import Derived.Test.YtjjcilinghgphaaGreatProg
namespace Go.Proofs
open Go.RowKit Go.Maps Go.Sort Go.Shelf
def Tryz.keys60_ren : Go.Shelf.Ren := ⟨fun | 7 => 60 | 10 => 91 | n => n, fun | 23 => 64 | 26 => 9 | 3 => 63 | 28 => 99 | 0 => 0 | 27 => 98 | 33 => 62 | 4 => 4 | n => n, fun | n => n⟩
theorem Tryz.keys60 : Go.Proofs.SlLaysZ.n7 Tryz.prog Tryz.keys60_ren := {
 mixed := by kernel_rfl
 f7 := ⟨Tryz.f60.name, by decide, Tryz.func60.trans (congrArg some (by kernel_rfl))⟩
 f10 := ⟨Tryz.f91.name, by decide, Tryz.func91.trans (congrArg some (by kernel_rfl))⟩
 t0 := Tryz.underlying0
 a0 := Tryz.isAgg0
 z0 := Tryz.sizeOf0
 v0 := Tryz.zeroValue0
 t4 := Tryz.underlying4
 a4 := Tryz.isAgg4
 z4 := Tryz.sizeOf4
 v4 := Tryz.zeroValue4
 t23 := Tryz.underlying64
 a23 := Tryz.isAgg64
 z23 := Tryz.sizeOf64
 v23 := Tryz.zeroValue64
 t26 := Tryz.underlying9
 a26 := Tryz.isAgg9
 z26 := Tryz.sizeOf9
 v26 := Tryz.zeroValue9
 t27 := Tryz.underlying98
 a27 := Tryz.isAgg98
 z27 := Tryz.sizeOf98
 v27 := Tryz.zeroValue98
 t28 := Tryz.underlying99
 a28 := Tryz.isAgg99
 z28 := Tryz.sizeOf99
 v28 := Tryz.zeroValue99
 t33 := Tryz.underlying62
 a33 := Tryz.isAgg62
 z33 := Tryz.sizeOf62
 v33 := Tryz.zeroValue62 }
def Tryz.sorted59_ren : Go.Shelf.Ren := ⟨fun | 6 => 59 | 8 => 89 | 9 => 90 | 11 => 101 | 13 => 103 | 12 => 102 | 23 => 113 | 24 => 114 | 14 => 104 | 15 => 105 | 16 => 106 | 17 => 107 | 18 => 108 | 19 => 109 | 20 => 110 | 21 => 111 | 22 => 112 | 25 => 115 | 26 => 116 | 27 => 117 | 28 => 118 | 29 => 119 | 30 => 120 | 31 => 121 | n => n, fun | 26 => 9 | 28 => 99 | 24 => 60 | 0 => 0 | 3 => 3 | 37 => 117 | 48 => 113 | 50 => 136 | 4 => 4 | 40 => 127 | 39 => 126 | 45 => 132 | 5 => 5 | 9 => 9 | 51 => 137 | 55 => 141 | 57 => 143 | 58 => 144 | 33 => 62 | n => n, fun | n => n⟩
theorem Tryz.sorted59 : Go.Proofs.SlLaysZ.n6 Tryz.prog Tryz.sorted59_ren := {
 mixed := by kernel_rfl
 f6 := ⟨Tryz.f59.name, by decide, Tryz.func59.trans (congrArg some (by kernel_rfl))⟩
 f8 := ⟨Tryz.f89.name, by decide, Tryz.func89.trans (congrArg some (by kernel_rfl))⟩
 f11 := ⟨Tryz.f101.name, by decide, Tryz.func101.trans (congrArg some (by kernel_rfl))⟩
 t0 := Tryz.underlying0
 a0 := Tryz.isAgg0
 z0 := Tryz.sizeOf0
 v0 := Tryz.zeroValue0
 t24 := Tryz.underlying60
 a24 := Tryz.isAgg60
 z24 := Tryz.sizeOf60
 v24 := Tryz.zeroValue60
 t26 := Tryz.underlying9
 a26 := Tryz.isAgg9
 z26 := Tryz.sizeOf9
 v26 := Tryz.zeroValue9
 t28 := Tryz.underlying99
 a28 := Tryz.isAgg99
 z28 := Tryz.sizeOf99
 v28 := Tryz.zeroValue99
 i26 := by kernel_rfl }
def Tryz.sort90_ren : Go.Shelf.Ren := ⟨fun | 6 => 90 | 8 => 103 | 9 => 102 | 19 => 113 | 20 => 114 | 21 => 104 | 22 => 105 | 23 => 106 | 24 => 107 | 25 => 108 | 26 => 109 | 27 => 110 | 28 => 111 | 29 => 112 | 36 => 115 | 31 => 116 | 32 => 117 | 37 => 118 | 38 => 119 | 39 => 120 | 41 => 121 | n => n, fun | 27 => 60 | 29 => 9 | 3 => 3 | 32 => 117 | 26 => 60 | 0 => 0 | 44 => 113 | 46 => 136 | 4 => 4 | 36 => 127 | 35 => 126 | 41 => 132 | 5 => 5 | 9 => 9 | 53 => 137 | 57 => 141 | 63 => 143 | 64 => 144 | n => n, fun | n => n⟩
theorem Tryz.sort90 : Go.Proofs.SlLaysM.n6 Tryz.prog Tryz.sort90_ren := {
 mixed := by kernel_rfl
 f6 := ⟨Tryz.f90.name, by decide, Tryz.func90.trans (congrArg some (by kernel_rfl))⟩
 f8 := Tryz.func103.trans (congrArg some (by kernel_rfl))
 f9 := ⟨Tryz.f102.name, by decide, Tryz.func102.trans (congrArg some (by kernel_rfl))⟩
 f19 := Tryz.func113.trans (congrArg some (by kernel_rfl))
 f20 := Tryz.func114.trans (congrArg some (by kernel_rfl))
 f21 := ⟨Tryz.f104.name, by decide, Tryz.func104.trans (congrArg some (by kernel_rfl))⟩
 f22 := ⟨Tryz.f105.name, by decide, Tryz.func105.trans (congrArg some (by kernel_rfl))⟩
 f23 := ⟨Tryz.f106.name, by decide, Tryz.func106.trans (congrArg some (by kernel_rfl))⟩
 f24 := ⟨Tryz.f107.name, by decide, Tryz.func107.trans (congrArg some (by kernel_rfl))⟩
 f25 := ⟨Tryz.f108.name, by decide, Tryz.func108.trans (congrArg some (by kernel_rfl))⟩
 f26 := ⟨Tryz.f109.name, by decide, Tryz.func109.trans (congrArg some (by kernel_rfl))⟩
 f27 := ⟨Tryz.f110.name, by decide, Tryz.func110.trans (congrArg some (by kernel_rfl))⟩
 f28 := ⟨Tryz.f111.name, by decide, Tryz.func111.trans (congrArg some (by kernel_rfl))⟩
 f29 := ⟨Tryz.f112.name, by decide, Tryz.func112.trans (congrArg some (by kernel_rfl))⟩
 f31 := Tryz.func116.trans (congrArg some (by kernel_rfl))
 f32 := Tryz.func117.trans (congrArg some (by kernel_rfl))
 f36 := ⟨Tryz.f115.name, by decide, Tryz.func115.trans (congrArg some (by kernel_rfl))⟩
 f37 := ⟨Tryz.f118.name, by decide, Tryz.func118.trans (congrArg some (by kernel_rfl))⟩
 f38 := ⟨Tryz.f119.name, by decide, Tryz.func119.trans (congrArg some (by kernel_rfl))⟩
 f39 := ⟨Tryz.f120.name, by decide, Tryz.func120.trans (congrArg some (by kernel_rfl))⟩
 f41 := ⟨Tryz.f121.name, by decide, Tryz.func121.trans (congrArg some (by kernel_rfl))⟩
 t0 := Tryz.underlying0
 a0 := Tryz.isAgg0
 z0 := Tryz.sizeOf0
 v0 := Tryz.zeroValue0
 t3 := Tryz.underlying3
 a3 := Tryz.isAgg3
 z3 := Tryz.sizeOf3
 v3 := Tryz.zeroValue3
 t4 := Tryz.underlying4
 a4 := Tryz.isAgg4
 z4 := Tryz.sizeOf4
 v4 := Tryz.zeroValue4
 t5 := Tryz.underlying5
 a5 := Tryz.isAgg5
 z5 := Tryz.sizeOf5
 v5 := Tryz.zeroValue5
 t9 := Tryz.underlying9
 a9 := Tryz.isAgg9
 z9 := Tryz.sizeOf9
 v9 := Tryz.zeroValue9
 t26 := Tryz.underlying60
 a26 := Tryz.isAgg60
 z26 := Tryz.sizeOf60
 v26 := Tryz.zeroValue60
 t27 := Tryz.underlying60
 a27 := Tryz.isAgg60
 z27 := Tryz.sizeOf60
 v27 := Tryz.zeroValue60
 t29 := Tryz.underlying9
 a29 := Tryz.isAgg9
 z29 := Tryz.sizeOf9
 v29 := Tryz.zeroValue9
 t32 := Tryz.underlying117
 a32 := Tryz.isAgg117
 z32 := Tryz.sizeOf117
 v32 := Tryz.zeroValue117
 t35 := Tryz.underlying126
 a35 := Tryz.isAgg126
 z35 := Tryz.sizeOf126
 v35 := Tryz.zeroValue126
 t36 := Tryz.underlying127
 a36 := Tryz.isAgg127
 z36 := Tryz.sizeOf127
 v36 := Tryz.zeroValue127
 t41 := Tryz.underlying132
 a41 := Tryz.isAgg132
 z41 := Tryz.sizeOf132
 v41 := Tryz.zeroValue132
 t44 := Tryz.underlying113
 a44 := Tryz.isAgg113
 z44 := Tryz.sizeOf113
 v44 := Tryz.zeroValue113
 t46 := Tryz.underlying136
 a46 := Tryz.isAgg136
 z46 := Tryz.sizeOf136
 v46 := Tryz.zeroValue136
 t53 := Tryz.underlying137
 a53 := Tryz.isAgg137
 z53 := Tryz.sizeOf137
 v53 := Tryz.zeroValue137
 t57 := Tryz.underlying141
 a57 := Tryz.isAgg141
 z57 := Tryz.sizeOf141
 v57 := Tryz.zeroValue141
 t63 := Tryz.underlying143
 a63 := Tryz.isAgg143
 z63 := Tryz.sizeOf143
 v63 := Tryz.zeroValue143
 t64 := Tryz.underlying144
 a64 := Tryz.isAgg144
 z64 := Tryz.sizeOf144
 v64 := Tryz.zeroValue144 }


theorem Tryz.sorts59 (m : Nat) : AnyZ.SortsIn Tryz.prog Tryz.sorted59_ren Fence.wide m :=
 ⟨fun blk off cap ss W hH hblk hsz => callsIn_wide.2 (AnyM.slices_Sort_string Tryz.sort90 blk off cap ss W hH hblk hsz),
 fun p cap W => callsIn_wide.2 (AnyM.slices_Sort_string_none Tryz.sort90 p cap W)⟩

theorem Tryz.maps_Keys_60 (mb : Option Nat) (W : World) : CallsIn Fence.wide 5 Tryz.prog 60 #[.map mb] W fun e w' => e = .returned (.func (.func 91) #[] #[.pointer (some ⟨W.heap.size, 0, none⟩)]) ∧ w' = W.alloc (.cells #[.map mb] 64) :=
 AnyZ.keys_in Tryz.keys60 Fence.wide 5 trivial rfl mb W

set_option maxHeartbeats 1000000 in
theorem Tryz.slices_Sorted_keys_59_60 {H : Type} (b nn : Nat) (D0 : DataW H) (R : Value → Option (DataW H × List MemPlace)) (w : World) (hown : w.ownsMap Tryz.prog 9 R b nn D0) (hmax : Maps.size D0 ≤ maxLen) (hbytes : Maps.size D0 * 16 ≤ 140737488355328) :
 CallsIn Fence.wide 5 Tryz.prog 59 #[.func (.func 91) #[] #[.pointer (some ⟨w.heap.size, 0, none⟩)]] (w.alloc (.cells #[.map (some b)] 64)) fun e w' => ∃ (v : Value) (ss : List (List UInt8)), e = .returned v ∧ ss.Perm (strKeys D0) ∧
  w'.ownsRow (w.alloc (.cells #[.map (some b)] 64)).heap.size 9 1 v ss.length ((ss.mergeSort (fun x y => decide (x ≤ y))).map encStr) ∧ (v = .slice none 0 0 ↔ ss = []) ∧ Below (w.alloc (.cells #[.map (some b)] 64)).heap.size (w.alloc (.cells #[.map (some b)] 64)) w' := by
 have hbl := hown.lt
 have hseq : SeqGives Fence.wide 2 Tryz.prog 91 #[.pointer (some ⟨w.heap.size, 0, none⟩)] encStr (fun ss => ss.Perm (strKeys D0)) (Maps.size D0) (w.alloc (.cells #[.map (some b)] 64)) :=
  AnyZ.keys_gives (ρ := Tryz.keys60_ren) { Tryz.keys60 with } Fence.wide _ trivial rfl (by omega) w.heap.size b nn D0 _ (by simp) (by simp) (by
   obtain ⟨es, clock, hb, Ft, hs, hD⟩ := hown
   exact ⟨es, clock, (Below.heap_alloc _ _ b hbl).trans hb, Ft, hs, hD⟩)
 exact AnyZ.sorted_in Tryz.sorted59 Fence.wide 5 trivial trivial trivial trivial rfl (by omega) (Tryz.sorts59 _) (enters_of Tryz.func90 (by kernel_rfl) rfl) 91 #[.pointer (some ⟨w.heap.size, 0, none⟩)] trivial (enters_of Tryz.func91 (by kernel_rfl) rfl) _ _ hmax hbytes _ hseq

set_option maxHeartbeats 1000000 in
theorem Tryz.slices_Sorted_keys_nil_59_60 (w : World) :
 CallsIn Fence.wide 5 Tryz.prog 59 #[.func (.func 91) #[] #[.pointer (some ⟨w.heap.size, 0, none⟩)]] (w.alloc (.cells #[.map none] 64)) fun e w' => ∃ (v : Value) (ss : List (List UInt8)), e = .returned v ∧ ss = [] ∧
  w'.ownsRow (w.alloc (.cells #[.map none] 64)).heap.size 9 1 v ss.length ((ss.mergeSort (fun x y => decide (x ≤ y))).map encStr) ∧ (v = .slice none 0 0 ↔ ss = []) ∧ Below (w.alloc (.cells #[.map none] 64)).heap.size (w.alloc (.cells #[.map none] 64)) w' := by
 have hseq : SeqGives Fence.wide 2 Tryz.prog 91 #[.pointer (some ⟨w.heap.size, 0, none⟩)] encStr (fun ss : List (List UInt8) => ss = []) 0 (w.alloc (.cells #[.map none] 64)) :=
  AnyZ.keys_gives_nil (ρ := Tryz.keys60_ren) { Tryz.keys60 with } Fence.wide _ trivial rfl w.heap.size _ (by simp) (by simp)
 exact AnyZ.sorted_in Tryz.sorted59 Fence.wide 5 trivial trivial trivial trivial rfl (by omega) (Tryz.sorts59 _) (enters_of Tryz.func90 (by kernel_rfl) rfl) 91 #[.pointer (some ⟨w.heap.size, 0, none⟩)] trivial (enters_of Tryz.func91 (by kernel_rfl) rfl) _ 0 (Nat.zero_le _) (by omega) _ hseq



end Go.Proofs
