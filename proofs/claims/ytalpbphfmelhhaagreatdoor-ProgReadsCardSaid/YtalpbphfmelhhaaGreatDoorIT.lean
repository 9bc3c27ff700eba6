/-
  slices.Sorted over maps.Keys at this program: the shelf's contracts in plain words (laid by the kit's tools).
-/
import Derived.Shelf.SlIter.Nil
import Derived.Shelf.SortM.Plain
import Derived.Shelf.SortM.SortNone
import Derived.Ground.GgzProg
import Derived.Ground.SlgmProg
import Derived.Test.YtalpbphfmelhhaaGreatDoorProg
namespace Go.Proofs
open Go.RowKit Go.Maps Go.Sort Go.Shelf
def Tryz.keys47_ren : Go.Shelf.Ren := ⟨fun | 7 => 47 | 10 => 81 | n => n, fun | 23 => 74 | 26 => 9 | 3 => 48 | 28 => 86 | 0 => 0 | 27 => 85 | 33 => 69 | 4 => 4 | n => n, fun | n => n⟩
theorem Tryz.keys47 : Go.Proofs.SlLaysZ.n7 Tryz.prog Tryz.keys47_ren := {
  mixed := by kernel_rfl
  f7 := ⟨Tryz.f47.name, by decide, Tryz.func47.trans (congrArg some (by kernel_rfl))⟩
  f10 := ⟨Tryz.f81.name, by decide, Tryz.func81.trans (congrArg some (by kernel_rfl))⟩
  t0 := Tryz.underlying0
  a0 := Tryz.isAgg0
  z0 := Tryz.sizeOf0
  v0 := Tryz.zeroValue0
  t4 := Tryz.underlying4
  a4 := Tryz.isAgg4
  z4 := Tryz.sizeOf4
  v4 := Tryz.zeroValue4
  t23 := Tryz.underlying74
  a23 := Tryz.isAgg74
  z23 := Tryz.sizeOf74
  v23 := Tryz.zeroValue74
  t26 := Tryz.underlying9
  a26 := Tryz.isAgg9
  z26 := Tryz.sizeOf9
  v26 := Tryz.zeroValue9
  t27 := Tryz.underlying85
  a27 := Tryz.isAgg85
  z27 := Tryz.sizeOf85
  v27 := Tryz.zeroValue85
  t28 := Tryz.underlying86
  a28 := Tryz.isAgg86
  z28 := Tryz.sizeOf86
  v28 := Tryz.zeroValue86
  t33 := Tryz.underlying69
  a33 := Tryz.isAgg69
  z33 := Tryz.sizeOf69
  v33 := Tryz.zeroValue69 }
def Tryz.sorted46_ren : Go.Shelf.Ren := ⟨fun | 6 => 46 | 8 => 79 | 9 => 80 | 11 => 105 | 13 => 107 | 12 => 106 | 23 => 139 | 24 => 140 | 14 => 130 | 15 => 131 | 16 => 132 | 17 => 133 | 18 => 134 | 19 => 135 | 20 => 136 | 21 => 137 | 22 => 138 | 25 => 152 | 26 => 153 | 27 => 154 | 28 => 155 | 29 => 156 | 30 => 157 | 31 => 167 | n => n, fun | 26 => 9 | 28 => 86 | 24 => 26 | 0 => 0 | 3 => 3 | 37 => 133 | 48 => 160 | 50 => 113 | 4 => 4 | 40 => 153 | 39 => 152 | 45 => 144 | 5 => 5 | 9 => 9 | 51 => 165 | 55 => 169 | 57 => 181 | 58 => 70 | 33 => 69 | n => n, fun | n => n⟩
theorem Tryz.sorted46 : Go.Proofs.SlLaysZ.n6 Tryz.prog Tryz.sorted46_ren := {
  mixed := by kernel_rfl
  f6 := ⟨Tryz.f46.name, by decide, Tryz.func46.trans (congrArg some (by kernel_rfl))⟩
  f8 := ⟨Tryz.f79.name, by decide, Tryz.func79.trans (congrArg some (by kernel_rfl))⟩
  f11 := ⟨Tryz.f105.name, by decide, Tryz.func105.trans (congrArg some (by kernel_rfl))⟩
  t0 := Tryz.underlying0
  a0 := Tryz.isAgg0
  z0 := Tryz.sizeOf0
  v0 := Tryz.zeroValue0
  t24 := Tryz.underlying26
  a24 := Tryz.isAgg26
  z24 := Tryz.sizeOf26
  v24 := Tryz.zeroValue26
  t26 := Tryz.underlying9
  a26 := Tryz.isAgg9
  z26 := Tryz.sizeOf9
  v26 := Tryz.zeroValue9
  t28 := Tryz.underlying86
  a28 := Tryz.isAgg86
  z28 := Tryz.sizeOf86
  v28 := Tryz.zeroValue86
  i26 := by kernel_rfl }
def Tryz.sort80_ren : Go.Shelf.Ren := ⟨fun | 6 => 80 | 8 => 107 | 9 => 106 | 19 => 139 | 20 => 140 | 21 => 130 | 22 => 131 | 23 => 132 | 24 => 133 | 25 => 134 | 26 => 135 | 27 => 136 | 28 => 137 | 29 => 138 | 36 => 152 | 31 => 153 | 32 => 154 | 37 => 155 | 38 => 156 | 39 => 157 | 41 => 167 | n => n, fun | 27 => 26 | 29 => 9 | 3 => 3 | 32 => 133 | 26 => 26 | 0 => 0 | 44 => 160 | 46 => 113 | 4 => 4 | 36 => 153 | 35 => 152 | 41 => 144 | 5 => 5 | 9 => 9 | 53 => 165 | 57 => 169 | 63 => 181 | 64 => 70 | n => n, fun | n => n⟩
theorem Tryz.sort80 : Go.Proofs.SlLaysM.n6 Tryz.prog Tryz.sort80_ren := {
  mixed := by kernel_rfl
  f6 := ⟨Tryz.f80.name, by decide, Tryz.func80.trans (congrArg some (by kernel_rfl))⟩
  f8 := Tryz.func107.trans (congrArg some (by kernel_rfl))
  f9 := ⟨Tryz.f106.name, by decide, Tryz.func106.trans (congrArg some (by kernel_rfl))⟩
  f19 := Tryz.func139.trans (congrArg some (by kernel_rfl))
  f20 := Tryz.func140.trans (congrArg some (by kernel_rfl))
  f21 := ⟨Tryz.f130.name, by decide, Tryz.func130.trans (congrArg some (by kernel_rfl))⟩
  f22 := ⟨Tryz.f131.name, by decide, Tryz.func131.trans (congrArg some (by kernel_rfl))⟩
  f23 := ⟨Tryz.f132.name, by decide, Tryz.func132.trans (congrArg some (by kernel_rfl))⟩
  f24 := ⟨Tryz.f133.name, by decide, Tryz.func133.trans (congrArg some (by kernel_rfl))⟩
  f25 := ⟨Tryz.f134.name, by decide, Tryz.func134.trans (congrArg some (by kernel_rfl))⟩
  f26 := ⟨Tryz.f135.name, by decide, Tryz.func135.trans (congrArg some (by kernel_rfl))⟩
  f27 := ⟨Tryz.f136.name, by decide, Tryz.func136.trans (congrArg some (by kernel_rfl))⟩
  f28 := ⟨Tryz.f137.name, by decide, Tryz.func137.trans (congrArg some (by kernel_rfl))⟩
  f29 := ⟨Tryz.f138.name, by decide, Tryz.func138.trans (congrArg some (by kernel_rfl))⟩
  f31 := Tryz.func153.trans (congrArg some (by kernel_rfl))
  f32 := Tryz.func154.trans (congrArg some (by kernel_rfl))
  f36 := ⟨Tryz.f152.name, by decide, Tryz.func152.trans (congrArg some (by kernel_rfl))⟩
  f37 := ⟨Tryz.f155.name, by decide, Tryz.func155.trans (congrArg some (by kernel_rfl))⟩
  f38 := ⟨Tryz.f156.name, by decide, Tryz.func156.trans (congrArg some (by kernel_rfl))⟩
  f39 := ⟨Tryz.f157.name, by decide, Tryz.func157.trans (congrArg some (by kernel_rfl))⟩
  f41 := ⟨Tryz.f167.name, by decide, Tryz.func167.trans (congrArg some (by kernel_rfl))⟩
  t0 := Tryz.underlying0
  a0 := Tryz.isAgg0
  z0 := Tryz.sizeOf0
  v0 := Tryz.zeroValue0
  t3 := Tryz.underlying3
  a3 := Tryz.isAgg3
  z3 := Tryz.sizeOf3
  v3 := Tryz.zeroValue3
  t4 := Tryz.underlying4
  a4 := Tryz.isAgg4
  z4 := Tryz.sizeOf4
  v4 := Tryz.zeroValue4
  t5 := Tryz.underlying5
  a5 := Tryz.isAgg5
  z5 := Tryz.sizeOf5
  v5 := Tryz.zeroValue5
  t9 := Tryz.underlying9
  a9 := Tryz.isAgg9
  z9 := Tryz.sizeOf9
  v9 := Tryz.zeroValue9
  t26 := Tryz.underlying26
  a26 := Tryz.isAgg26
  z26 := Tryz.sizeOf26
  v26 := Tryz.zeroValue26
  t27 := Tryz.underlying26
  a27 := Tryz.isAgg26
  z27 := Tryz.sizeOf26
  v27 := Tryz.zeroValue26
  t29 := Tryz.underlying9
  a29 := Tryz.isAgg9
  z29 := Tryz.sizeOf9
  v29 := Tryz.zeroValue9
  t32 := Tryz.underlying133
  a32 := Tryz.isAgg133
  z32 := Tryz.sizeOf133
  v32 := Tryz.zeroValue133
  t35 := Tryz.underlying152
  a35 := Tryz.isAgg152
  z35 := Tryz.sizeOf152
  v35 := Tryz.zeroValue152
  t36 := Tryz.underlying153
  a36 := Tryz.isAgg153
  z36 := Tryz.sizeOf153
  v36 := Tryz.zeroValue153
  t41 := Tryz.underlying144
  a41 := Tryz.isAgg144
  z41 := Tryz.sizeOf144
  v41 := Tryz.zeroValue144
  t44 := Tryz.underlying160
  a44 := Tryz.isAgg160
  z44 := Tryz.sizeOf160
  v44 := Tryz.zeroValue160
  t46 := Tryz.underlying113
  a46 := Tryz.isAgg113
  z46 := Tryz.sizeOf113
  v46 := Tryz.zeroValue113
  t53 := Tryz.underlying165
  a53 := Tryz.isAgg165
  z53 := Tryz.sizeOf165
  v53 := Tryz.zeroValue165
  t57 := Tryz.underlying169
  a57 := Tryz.isAgg169
  z57 := Tryz.sizeOf169
  v57 := Tryz.zeroValue169
  t63 := Tryz.underlying181
  a63 := Tryz.isAgg181
  z63 := Tryz.sizeOf181
  v63 := Tryz.zeroValue181
  t64 := Tryz.underlying70
  a64 := Tryz.isAgg70
  z64 := Tryz.sizeOf70
  v64 := Tryz.zeroValue70 }
def Tryz.keys68_ren : Go.Shelf.Ren := ⟨fun | 7 => 68 | 10 => 99 | n => n, fun | 23 => 111 | 26 => 9 | 3 => 3 | 28 => 86 | 0 => 0 | 27 => 85 | 33 => 69 | 4 => 4 | n => n, fun | n => n⟩
theorem Tryz.keys68 : Go.Proofs.SlLaysZ.n7 Tryz.prog Tryz.keys68_ren := {
  mixed := by kernel_rfl
  f7 := ⟨Tryz.f68.name, by decide, Tryz.func68.trans (congrArg some (by kernel_rfl))⟩
  f10 := ⟨Tryz.f99.name, by decide, Tryz.func99.trans (congrArg some (by kernel_rfl))⟩
  t0 := Tryz.underlying0
  a0 := Tryz.isAgg0
  z0 := Tryz.sizeOf0
  v0 := Tryz.zeroValue0
  t4 := Tryz.underlying4
  a4 := Tryz.isAgg4
  z4 := Tryz.sizeOf4
  v4 := Tryz.zeroValue4
  t23 := Tryz.underlying111
  a23 := Tryz.isAgg111
  z23 := Tryz.sizeOf111
  v23 := Tryz.zeroValue111
  t26 := Tryz.underlying9
  a26 := Tryz.isAgg9
  z26 := Tryz.sizeOf9
  v26 := Tryz.zeroValue9
  t27 := Tryz.underlying85
  a27 := Tryz.isAgg85
  z27 := Tryz.sizeOf85
  v27 := Tryz.zeroValue85
  t28 := Tryz.underlying86
  a28 := Tryz.isAgg86
  z28 := Tryz.sizeOf86
  v28 := Tryz.zeroValue86
  t33 := Tryz.underlying69
  a33 := Tryz.isAgg69
  z33 := Tryz.sizeOf69
  v33 := Tryz.zeroValue69 }


theorem Tryz.sorts46 (m : Nat) : AnyZ.SortsIn Tryz.prog Tryz.sorted46_ren Fence.wide m :=
  ⟨fun blk off cap ss W hH hblk hsz => callsIn_wide.2 (AnyM.slices_Sort_string Tryz.sort80 blk off cap ss W hH hblk hsz),
   fun p cap W => callsIn_wide.2 (AnyM.slices_Sort_string_none Tryz.sort80 p cap W)⟩

theorem Tryz.maps_Keys_47 (mb : Option Nat) (W : World) : CallsIn Fence.wide 5 Tryz.prog 47 #[.map mb] W fun e w' => e = .returned (.func (.func 81) #[] #[.pointer (some ⟨W.heap.size, 0, none⟩)]) ∧ w' = W.alloc (.cells #[.map mb] 74) :=
  AnyZ.keys_in Tryz.keys47 Fence.wide 5 trivial rfl mb W

set_option maxHeartbeats 1000000 in
theorem Tryz.slices_Sorted_keys_46_47 {H : Type} (b nn : Nat) (D0 : DataW H) (R : Value → Option (DataW H × List MemPlace)) (w : World) (hown : w.ownsMap Tryz.prog 9 R b nn D0) (hmax : Maps.size D0 ≤ maxLen) (hbytes : Maps.size D0 * 16 ≤ 140737488355328) :
    CallsIn Fence.wide 5 Tryz.prog 46 #[.func (.func 81) #[] #[.pointer (some ⟨w.heap.size, 0, none⟩)]] (w.alloc (.cells #[.map (some b)] 74)) fun e w' => ∃ (v : Value) (ss : List (List UInt8)), e = .returned v ∧ ss.Perm (strKeys D0) ∧
      w'.ownsRow (w.alloc (.cells #[.map (some b)] 74)).heap.size 9 1 v ss.length ((ss.mergeSort (fun x y => decide (x ≤ y))).map encStr) ∧ (v = .slice none 0 0 ↔ ss = []) ∧ Below (w.alloc (.cells #[.map (some b)] 74)).heap.size (w.alloc (.cells #[.map (some b)] 74)) w' := by
  have hbl := hown.lt
  have hseq : SeqGives Fence.wide 2 Tryz.prog 81 #[.pointer (some ⟨w.heap.size, 0, none⟩)] encStr (fun ss => ss.Perm (strKeys D0)) (Maps.size D0) (w.alloc (.cells #[.map (some b)] 74)) :=
    AnyZ.keys_gives (ρ := Tryz.keys47_ren) { Tryz.keys47 with } Fence.wide _ trivial rfl (by omega) w.heap.size b nn D0 _ (by simp) (by simp) (by
      obtain ⟨es, clock, hb, Ft, hs, hD⟩ := hown
      exact ⟨es, clock, (Below.heap_alloc _ _ b hbl).trans hb, Ft, hs, hD⟩)
  exact AnyZ.sorted_in Tryz.sorted46 Fence.wide 5 trivial trivial trivial trivial rfl (by omega) (Tryz.sorts46 _) (enters_of Tryz.func80 (by kernel_rfl) rfl) 81 #[.pointer (some ⟨w.heap.size, 0, none⟩)] trivial (enters_of Tryz.func81 (by kernel_rfl) rfl) _ _ hmax hbytes _ hseq

set_option maxHeartbeats 1000000 in
theorem Tryz.slices_Sorted_keys_nil_46_47 (w : World) :
    CallsIn Fence.wide 5 Tryz.prog 46 #[.func (.func 81) #[] #[.pointer (some ⟨w.heap.size, 0, none⟩)]] (w.alloc (.cells #[.map none] 74)) fun e w' => ∃ (v : Value) (ss : List (List UInt8)), e = .returned v ∧ ss = [] ∧
      w'.ownsRow (w.alloc (.cells #[.map none] 74)).heap.size 9 1 v ss.length ((ss.mergeSort (fun x y => decide (x ≤ y))).map encStr) ∧ (v = .slice none 0 0 ↔ ss = []) ∧ Below (w.alloc (.cells #[.map none] 74)).heap.size (w.alloc (.cells #[.map none] 74)) w' := by
  have hseq : SeqGives Fence.wide 2 Tryz.prog 81 #[.pointer (some ⟨w.heap.size, 0, none⟩)] encStr (fun ss : List (List UInt8) => ss = []) 0 (w.alloc (.cells #[.map none] 74)) :=
    AnyZ.keys_gives_nil (ρ := Tryz.keys47_ren) { Tryz.keys47 with } Fence.wide _ trivial rfl w.heap.size _ (by simp) (by simp)
  exact AnyZ.sorted_in Tryz.sorted46 Fence.wide 5 trivial trivial trivial trivial rfl (by omega) (Tryz.sorts46 _) (enters_of Tryz.func80 (by kernel_rfl) rfl) 81 #[.pointer (some ⟨w.heap.size, 0, none⟩)] trivial (enters_of Tryz.func81 (by kernel_rfl) rfl) _ 0 (Nat.zero_le _) (by omega) _ hseq



theorem Tryz.maps_Keys_68 (mb : Option Nat) (W : World) : CallsIn Fence.wide 5 Tryz.prog 68 #[.map mb] W fun e w' => e = .returned (.func (.func 99) #[] #[.pointer (some ⟨W.heap.size, 0, none⟩)]) ∧ w' = W.alloc (.cells #[.map mb] 111) :=
  AnyZ.keys_in Tryz.keys68 Fence.wide 5 trivial rfl mb W

set_option maxHeartbeats 1000000 in
theorem Tryz.slices_Sorted_keys_46_68 {H : Type} (b nn : Nat) (D0 : DataW H) (R : Value → Option (DataW H × List MemPlace)) (w : World) (hown : w.ownsMap Tryz.prog 9 R b nn D0) (hmax : Maps.size D0 ≤ maxLen) (hbytes : Maps.size D0 * 16 ≤ 140737488355328) :
    CallsIn Fence.wide 5 Tryz.prog 46 #[.func (.func 99) #[] #[.pointer (some ⟨w.heap.size, 0, none⟩)]] (w.alloc (.cells #[.map (some b)] 111)) fun e w' => ∃ (v : Value) (ss : List (List UInt8)), e = .returned v ∧ ss.Perm (strKeys D0) ∧
      w'.ownsRow (w.alloc (.cells #[.map (some b)] 111)).heap.size 9 1 v ss.length ((ss.mergeSort (fun x y => decide (x ≤ y))).map encStr) ∧ (v = .slice none 0 0 ↔ ss = []) ∧ Below (w.alloc (.cells #[.map (some b)] 111)).heap.size (w.alloc (.cells #[.map (some b)] 111)) w' := by
  have hbl := hown.lt
  have hseq : SeqGives Fence.wide 2 Tryz.prog 99 #[.pointer (some ⟨w.heap.size, 0, none⟩)] encStr (fun ss => ss.Perm (strKeys D0)) (Maps.size D0) (w.alloc (.cells #[.map (some b)] 111)) :=
    AnyZ.keys_gives (ρ := Tryz.keys68_ren) { Tryz.keys68 with } Fence.wide _ trivial rfl (by omega) w.heap.size b nn D0 _ (by simp) (by simp) (by
      obtain ⟨es, clock, hb, Ft, hs, hD⟩ := hown
      exact ⟨es, clock, (Below.heap_alloc _ _ b hbl).trans hb, Ft, hs, hD⟩)
  exact AnyZ.sorted_in Tryz.sorted46 Fence.wide 5 trivial trivial trivial trivial rfl (by omega) (Tryz.sorts46 _) (enters_of Tryz.func80 (by kernel_rfl) rfl) 99 #[.pointer (some ⟨w.heap.size, 0, none⟩)] trivial (enters_of Tryz.func99 (by kernel_rfl) rfl) _ _ hmax hbytes _ hseq

set_option maxHeartbeats 1000000 in
theorem Tryz.slices_Sorted_keys_nil_46_68 (w : World) :
    CallsIn Fence.wide 5 Tryz.prog 46 #[.func (.func 99) #[] #[.pointer (some ⟨w.heap.size, 0, none⟩)]] (w.alloc (.cells #[.map none] 111)) fun e w' => ∃ (v : Value) (ss : List (List UInt8)), e = .returned v ∧ ss = [] ∧
      w'.ownsRow (w.alloc (.cells #[.map none] 111)).heap.size 9 1 v ss.length ((ss.mergeSort (fun x y => decide (x ≤ y))).map encStr) ∧ (v = .slice none 0 0 ↔ ss = []) ∧ Below (w.alloc (.cells #[.map none] 111)).heap.size (w.alloc (.cells #[.map none] 111)) w' := by
  have hseq : SeqGives Fence.wide 2 Tryz.prog 99 #[.pointer (some ⟨w.heap.size, 0, none⟩)] encStr (fun ss : List (List UInt8) => ss = []) 0 (w.alloc (.cells #[.map none] 111)) :=
    AnyZ.keys_gives_nil (ρ := Tryz.keys68_ren) { Tryz.keys68 with } Fence.wide _ trivial rfl w.heap.size _ (by simp) (by simp)
  exact AnyZ.sorted_in Tryz.sorted46 Fence.wide 5 trivial trivial trivial trivial rfl (by omega) (Tryz.sorts46 _) (enters_of Tryz.func80 (by kernel_rfl) rfl) 99 #[.pointer (some ⟨w.heap.size, 0, none⟩)] trivial (enters_of Tryz.func99 (by kernel_rfl) rfl) _ 0 (Nat.zero_le _) (by omega) _ hseq



end Go.Proofs
