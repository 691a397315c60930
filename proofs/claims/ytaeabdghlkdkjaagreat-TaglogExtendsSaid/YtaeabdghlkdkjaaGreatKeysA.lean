/- slices.Sorted of maps.Keys: the library's contracts at this program. Printed by the kit's programs lay-iter and lay-plain. -/
import Derived.Shelf.SlIter.Nil
import Derived.Shelf.SortM.Plain
import Derived.Shelf.SortM.SortNone
import Derived.Ground.GgzProg
import Derived.Ground.SlgmProg
import Derived.Test.YtaeabdghlkdkjaaGreatProg
namespace Go.Proofs.YtaeabdghlkdkjaaGreat
open Go.RowKit Go.Maps Go.Sort Go.Shelf
def kkeys86_ren : Go.Shelf.Ren := ⟨fun | 7 => 86 | 10 => 147 | n => n, fun | 23 => 112 | 26 => 9 | 3 => 36 | 28 => 161 | 0 => 0 | 27 => 160 | 33 => 121 | 4 => 4 | n => n, fun | n => n⟩
theorem kkeys86 : Go.Proofs.SlLaysZ.n7 Tryz.prog kkeys86_ren := {
  mixed := by kernel_rfl
  f7 := ⟨Tryz.f86.name, by decide, Tryz.func86.trans (congrArg some (by kernel_rfl))⟩
  f10 := ⟨Tryz.f147.name, by decide, Tryz.func147.trans (congrArg some (by kernel_rfl))⟩
  t0 := Tryz.underlying0
  a0 := Tryz.isAgg0
  z0 := Tryz.sizeOf0
  v0 := Tryz.zeroValue0
  t4 := Tryz.underlying4
  a4 := Tryz.isAgg4
  z4 := Tryz.sizeOf4
  v4 := Tryz.zeroValue4
  t23 := Tryz.underlying112
  a23 := Tryz.isAgg112
  z23 := Tryz.sizeOf112
  v23 := Tryz.zeroValue112
  t26 := Tryz.underlying9
  a26 := Tryz.isAgg9
  z26 := Tryz.sizeOf9
  v26 := Tryz.zeroValue9
  t27 := Tryz.underlying160
  a27 := Tryz.isAgg160
  z27 := Tryz.sizeOf160
  v27 := Tryz.zeroValue160
  t28 := Tryz.underlying161
  a28 := Tryz.isAgg161
  z28 := Tryz.sizeOf161
  v28 := Tryz.zeroValue161
  t33 := Tryz.underlying121
  a33 := Tryz.isAgg121
  z33 := Tryz.sizeOf121
  v33 := Tryz.zeroValue121 }
def ksorted85_ren : Go.Shelf.Ren := ⟨fun | 6 => 85 | 8 => 145 | 9 => 146 | 11 => 166 | 13 => 168 | 12 => 167 | 23 => 185 | 24 => 186 | 14 => 176 | 15 => 177 | 16 => 178 | 17 => 179 | 18 => 180 | 19 => 181 | 20 => 182 | 21 => 183 | 22 => 184 | 25 => 190 | 26 => 191 | 27 => 192 | 28 => 193 | 29 => 194 | 30 => 195 | 31 => 199 | n => n, fun | 26 => 9 | 28 => 161 | 24 => 142 | 0 => 0 | 3 => 3 | 37 => 51 | 48 => 197 | 50 => 185 | 4 => 4 | 40 => 249 | 39 => 248 | 45 => 253 | 5 => 5 | 9 => 9 | 51 => 261 | 55 => 265 | 57 => 268 | 58 => 269 | 33 => 121 | n => n, fun | n => n⟩
theorem ksorted85 : Go.Proofs.SlLaysZ.n6 Tryz.prog ksorted85_ren := {
  mixed := by kernel_rfl
  f6 := ⟨Tryz.f85.name, by decide, Tryz.func85.trans (congrArg some (by kernel_rfl))⟩
  f8 := ⟨Tryz.f145.name, by decide, Tryz.func145.trans (congrArg some (by kernel_rfl))⟩
  f11 := ⟨Tryz.f166.name, by decide, Tryz.func166.trans (congrArg some (by kernel_rfl))⟩
  t0 := Tryz.underlying0
  a0 := Tryz.isAgg0
  z0 := Tryz.sizeOf0
  v0 := Tryz.zeroValue0
  t24 := Tryz.underlying142
  a24 := Tryz.isAgg142
  z24 := Tryz.sizeOf142
  v24 := Tryz.zeroValue142
  t26 := Tryz.underlying9
  a26 := Tryz.isAgg9
  z26 := Tryz.sizeOf9
  v26 := Tryz.zeroValue9
  t28 := Tryz.underlying161
  a28 := Tryz.isAgg161
  z28 := Tryz.sizeOf161
  v28 := Tryz.zeroValue161
  i26 := by kernel_rfl }
def ksort146_ren : Go.Shelf.Ren := ⟨fun | 6 => 146 | 8 => 168 | 9 => 167 | 19 => 185 | 20 => 186 | 21 => 176 | 22 => 177 | 23 => 178 | 24 => 179 | 25 => 180 | 26 => 181 | 27 => 182 | 28 => 183 | 29 => 184 | 36 => 190 | 31 => 191 | 32 => 192 | 37 => 193 | 38 => 194 | 39 => 195 | 41 => 199 | n => n, fun | 27 => 142 | 29 => 9 | 3 => 3 | 32 => 51 | 26 => 142 | 0 => 0 | 44 => 197 | 46 => 185 | 4 => 4 | 36 => 249 | 35 => 248 | 41 => 253 | 5 => 5 | 9 => 9 | 53 => 261 | 57 => 265 | 63 => 268 | 64 => 269 | n => n, fun | n => n⟩
theorem ksort146 : Go.Proofs.SlLaysM.n6 Tryz.prog ksort146_ren := {
  mixed := by kernel_rfl
  f6 := ⟨Tryz.f146.name, by decide, Tryz.func146.trans (congrArg some (by kernel_rfl))⟩
  f8 := Tryz.func168.trans (congrArg some (by kernel_rfl))
  f9 := ⟨Tryz.f167.name, by decide, Tryz.func167.trans (congrArg some (by kernel_rfl))⟩
  f19 := Tryz.func185.trans (congrArg some (by kernel_rfl))
  f20 := Tryz.func186.trans (congrArg some (by kernel_rfl))
  f21 := ⟨Tryz.f176.name, by decide, Tryz.func176.trans (congrArg some (by kernel_rfl))⟩
  f22 := ⟨Tryz.f177.name, by decide, Tryz.func177.trans (congrArg some (by kernel_rfl))⟩
  f23 := ⟨Tryz.f178.name, by decide, Tryz.func178.trans (congrArg some (by kernel_rfl))⟩
  f24 := ⟨Tryz.f179.name, by decide, Tryz.func179.trans (congrArg some (by kernel_rfl))⟩
  f25 := ⟨Tryz.f180.name, by decide, Tryz.func180.trans (congrArg some (by kernel_rfl))⟩
  f26 := ⟨Tryz.f181.name, by decide, Tryz.func181.trans (congrArg some (by kernel_rfl))⟩
  f27 := ⟨Tryz.f182.name, by decide, Tryz.func182.trans (congrArg some (by kernel_rfl))⟩
  f28 := ⟨Tryz.f183.name, by decide, Tryz.func183.trans (congrArg some (by kernel_rfl))⟩
  f29 := ⟨Tryz.f184.name, by decide, Tryz.func184.trans (congrArg some (by kernel_rfl))⟩
  f31 := Tryz.func191.trans (congrArg some (by kernel_rfl))
  f32 := Tryz.func192.trans (congrArg some (by kernel_rfl))
  f36 := ⟨Tryz.f190.name, by decide, Tryz.func190.trans (congrArg some (by kernel_rfl))⟩
  f37 := ⟨Tryz.f193.name, by decide, Tryz.func193.trans (congrArg some (by kernel_rfl))⟩
  f38 := ⟨Tryz.f194.name, by decide, Tryz.func194.trans (congrArg some (by kernel_rfl))⟩
  f39 := ⟨Tryz.f195.name, by decide, Tryz.func195.trans (congrArg some (by kernel_rfl))⟩
  f41 := ⟨Tryz.f199.name, by decide, Tryz.func199.trans (congrArg some (by kernel_rfl))⟩
  t0 := Tryz.underlying0
  a0 := Tryz.isAgg0
  z0 := Tryz.sizeOf0
  v0 := Tryz.zeroValue0
  t3 := Tryz.underlying3
  a3 := Tryz.isAgg3
  z3 := Tryz.sizeOf3
  v3 := Tryz.zeroValue3
  t4 := Tryz.underlying4
  a4 := Tryz.isAgg4
  z4 := Tryz.sizeOf4
  v4 := Tryz.zeroValue4
  t5 := Tryz.underlying5
  a5 := Tryz.isAgg5
  z5 := Tryz.sizeOf5
  v5 := Tryz.zeroValue5
  t9 := Tryz.underlying9
  a9 := Tryz.isAgg9
  z9 := Tryz.sizeOf9
  v9 := Tryz.zeroValue9
  t26 := Tryz.underlying142
  a26 := Tryz.isAgg142
  z26 := Tryz.sizeOf142
  v26 := Tryz.zeroValue142
  t27 := Tryz.underlying142
  a27 := Tryz.isAgg142
  z27 := Tryz.sizeOf142
  v27 := Tryz.zeroValue142
  t29 := Tryz.underlying9
  a29 := Tryz.isAgg9
  z29 := Tryz.sizeOf9
  v29 := Tryz.zeroValue9
  t32 := Tryz.underlying51
  a32 := Tryz.isAgg51
  z32 := Tryz.sizeOf51
  v32 := Tryz.zeroValue51
  t35 := Tryz.underlying248
  a35 := Tryz.isAgg248
  z35 := Tryz.sizeOf248
  v35 := Tryz.zeroValue248
  t36 := Tryz.underlying249
  a36 := Tryz.isAgg249
  z36 := Tryz.sizeOf249
  v36 := Tryz.zeroValue249
  t41 := Tryz.underlying253
  a41 := Tryz.isAgg253
  z41 := Tryz.sizeOf253
  v41 := Tryz.zeroValue253
  t44 := Tryz.underlying197
  a44 := Tryz.isAgg197
  z44 := Tryz.sizeOf197
  v44 := Tryz.zeroValue197
  t46 := Tryz.underlying185
  a46 := Tryz.isAgg185
  z46 := Tryz.sizeOf185
  v46 := Tryz.zeroValue185
  t53 := Tryz.underlying261
  a53 := Tryz.isAgg261
  z53 := Tryz.sizeOf261
  v53 := Tryz.zeroValue261
  t57 := Tryz.underlying265
  a57 := Tryz.isAgg265
  z57 := Tryz.sizeOf265
  v57 := Tryz.zeroValue265
  t63 := Tryz.underlying268
  a63 := Tryz.isAgg268
  z63 := Tryz.sizeOf268
  v63 := Tryz.zeroValue268
  t64 := Tryz.underlying269
  a64 := Tryz.isAgg269
  z64 := Tryz.sizeOf269
  v64 := Tryz.zeroValue269 }
def kkeys149_ren : Go.Shelf.Ren := ⟨fun | 7 => 149 | 10 => 169 | n => n, fun | 23 => 113 | 26 => 9 | 3 => 36 | 28 => 161 | 0 => 0 | 27 => 160 | 33 => 121 | 4 => 4 | n => n, fun | n => n⟩
theorem kkeys149 : Go.Proofs.SlLaysZ.n7 Tryz.prog kkeys149_ren := {
  mixed := by kernel_rfl
  f7 := ⟨Tryz.f149.name, by decide, Tryz.func149.trans (congrArg some (by kernel_rfl))⟩
  f10 := ⟨Tryz.f169.name, by decide, Tryz.func169.trans (congrArg some (by kernel_rfl))⟩
  t0 := Tryz.underlying0
  a0 := Tryz.isAgg0
  z0 := Tryz.sizeOf0
  v0 := Tryz.zeroValue0
  t4 := Tryz.underlying4
  a4 := Tryz.isAgg4
  z4 := Tryz.sizeOf4
  v4 := Tryz.zeroValue4
  t23 := Tryz.underlying113
  a23 := Tryz.isAgg113
  z23 := Tryz.sizeOf113
  v23 := Tryz.zeroValue113
  t26 := Tryz.underlying9
  a26 := Tryz.isAgg9
  z26 := Tryz.sizeOf9
  v26 := Tryz.zeroValue9
  t27 := Tryz.underlying160
  a27 := Tryz.isAgg160
  z27 := Tryz.sizeOf160
  v27 := Tryz.zeroValue160
  t28 := Tryz.underlying161
  a28 := Tryz.isAgg161
  z28 := Tryz.sizeOf161
  v28 := Tryz.zeroValue161
  t33 := Tryz.underlying121
  a33 := Tryz.isAgg121
  z33 := Tryz.sizeOf121
  v33 := Tryz.zeroValue121 }
theorem ksorts85 (m : Nat) : AnyZ.SortsIn Tryz.prog ksorted85_ren Fence.wide m :=
  ⟨fun blk off cap ss W hH hblk hsz => callsIn_wide.2 (AnyM.slices_Sort_string ksort146 blk off cap ss W hH hblk hsz),
   fun p cap W => callsIn_wide.2 (AnyM.slices_Sort_string_none ksort146 p cap W)⟩

theorem kmaps_Keys_M (mb : Option Nat) (W : World) : CallsIn Fence.wide 5 Tryz.prog 86 #[.map mb] W fun e w' => e = .returned (.func (.func 147) #[] #[.pointer (some ⟨W.heap.size, 0, none⟩)]) ∧ w' = W.alloc (.cells #[.map mb] 112) :=
  AnyZ.keys_in kkeys86 Fence.wide 5 trivial rfl mb W

set_option maxHeartbeats 1000000 in
theorem kslices_Sorted_keys_M {H : Type} (b nn : Nat) (D0 : DataW H) (R : Value → Option (DataW H × List MemPlace)) (w : World) (hown : w.ownsMap Tryz.prog 9 R b nn D0) (hmax : Maps.size D0 ≤ maxLen) (hbytes : Maps.size D0 * 16 ≤ 140737488355328) :
    CallsIn Fence.wide 5 Tryz.prog 85 #[.func (.func 147) #[] #[.pointer (some ⟨w.heap.size, 0, none⟩)]] (w.alloc (.cells #[.map (some b)] 112)) fun e w' => ∃ (v : Value) (ss : List (List UInt8)), e = .returned v ∧ ss.Perm (strKeys D0) ∧
      w'.ownsRow (w.alloc (.cells #[.map (some b)] 112)).heap.size 9 1 v ss.length ((ss.mergeSort (fun x y => decide (x ≤ y))).map encStr) ∧ (v = .slice none 0 0 ↔ ss = []) ∧ Below (w.alloc (.cells #[.map (some b)] 112)).heap.size (w.alloc (.cells #[.map (some b)] 112)) w' := by
  have hbl := hown.lt
  have hseq : SeqGives Fence.wide 2 Tryz.prog 147 #[.pointer (some ⟨w.heap.size, 0, none⟩)] encStr (fun ss => ss.Perm (strKeys D0)) (Maps.size D0) (w.alloc (.cells #[.map (some b)] 112)) :=
    AnyZ.keys_gives (ρ := kkeys86_ren) { kkeys86 with } Fence.wide _ trivial rfl (by omega) w.heap.size b nn D0 _ (by simp) (by simp) (by
      obtain ⟨es, clock, hb, Ft, hs, hD⟩ := hown
      exact ⟨es, clock, (Below.heap_alloc _ _ b hbl).trans hb, Ft, hs, hD⟩)
  exact AnyZ.sorted_in ksorted85 Fence.wide 5 trivial trivial trivial trivial rfl (by omega) (ksorts85 _) (enters_of Tryz.func146 (by kernel_rfl) rfl) 147 #[.pointer (some ⟨w.heap.size, 0, none⟩)] trivial (enters_of Tryz.func147 (by kernel_rfl) rfl) _ _ hmax hbytes _ hseq

theorem kmaps_Keys_F (mb : Option Nat) (W : World) : CallsIn Fence.wide 5 Tryz.prog 149 #[.map mb] W fun e w' => e = .returned (.func (.func 169) #[] #[.pointer (some ⟨W.heap.size, 0, none⟩)]) ∧ w' = W.alloc (.cells #[.map mb] 113) :=
  AnyZ.keys_in kkeys149 Fence.wide 5 trivial rfl mb W

set_option maxHeartbeats 1000000 in
theorem kslices_Sorted_keys_F {H : Type} (b nn : Nat) (D0 : DataW H) (R : Value → Option (DataW H × List MemPlace)) (w : World) (hown : w.ownsMap Tryz.prog 9 R b nn D0) (hmax : Maps.size D0 ≤ maxLen) (hbytes : Maps.size D0 * 16 ≤ 140737488355328) :
    CallsIn Fence.wide 5 Tryz.prog 85 #[.func (.func 169) #[] #[.pointer (some ⟨w.heap.size, 0, none⟩)]] (w.alloc (.cells #[.map (some b)] 113)) fun e w' => ∃ (v : Value) (ss : List (List UInt8)), e = .returned v ∧ ss.Perm (strKeys D0) ∧
      w'.ownsRow (w.alloc (.cells #[.map (some b)] 113)).heap.size 9 1 v ss.length ((ss.mergeSort (fun x y => decide (x ≤ y))).map encStr) ∧ (v = .slice none 0 0 ↔ ss = []) ∧ Below (w.alloc (.cells #[.map (some b)] 113)).heap.size (w.alloc (.cells #[.map (some b)] 113)) w' := by
  have hbl := hown.lt
  have hseq : SeqGives Fence.wide 2 Tryz.prog 169 #[.pointer (some ⟨w.heap.size, 0, none⟩)] encStr (fun ss => ss.Perm (strKeys D0)) (Maps.size D0) (w.alloc (.cells #[.map (some b)] 113)) :=
    AnyZ.keys_gives (ρ := kkeys149_ren) { kkeys149 with } Fence.wide _ trivial rfl (by omega) w.heap.size b nn D0 _ (by simp) (by simp) (by
      obtain ⟨es, clock, hb, Ft, hs, hD⟩ := hown
      exact ⟨es, clock, (Below.heap_alloc _ _ b hbl).trans hb, Ft, hs, hD⟩)
  exact AnyZ.sorted_in ksorted85 Fence.wide 5 trivial trivial trivial trivial rfl (by omega) (ksorts85 _) (enters_of Tryz.func146 (by kernel_rfl) rfl) 169 #[.pointer (some ⟨w.heap.size, 0, none⟩)] trivial (enters_of Tryz.func169 (by kernel_rfl) rfl) _ _ hmax hbytes _ hseq

end Go.Proofs.YtaeabdghlkdkjaaGreat
