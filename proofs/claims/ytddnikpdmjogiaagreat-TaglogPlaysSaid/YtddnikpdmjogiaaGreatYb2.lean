/- A part of the proof. -/
import Derived.Test.YtddnikpdmjogiaaGreatProg
import Derived.Shelf.SlIter.Nil
import Derived.Shelf.SortM.Plain
import Derived.Shelf.SortM.SortNone
import Derived.Ground.GgzProg
import Derived.Ground.SlgmProg
namespace Go.Proofs.YtddnikpdmjogiaaGreat
open Go.RowKit Go.Maps Go.Sort Go.Shelf
def kkeys104_ren : Go.Shelf.Ren := ⟨fun | 7 => 104 | 10 => 141 | n => n, fun | 23 => 76 | 26 => 9 | 3 => 36 | 28 => 181 | 0 => 0 | 27 => 180 | 33 => 157 | 4 => 4 | n => n, fun | n => n⟩
theorem kkeys104 : Go.Proofs.SlLaysZ.n7 Tryz.prog kkeys104_ren := {
 mixed := by kernel_rfl
 f7 := ⟨Tryz.f104.name, by decide, Tryz.func104.trans (congrArg some (by kernel_rfl))⟩
 f10 := ⟨Tryz.f141.name, by decide, Tryz.func141.trans (congrArg some (by kernel_rfl))⟩
 t0 := Tryz.underlying0
 a0 := Tryz.isAgg0
 z0 := Tryz.sizeOf0
 v0 := Tryz.zeroValue0
 t4 := Tryz.underlying4
 a4 := Tryz.isAgg4
 z4 := Tryz.sizeOf4
 v4 := Tryz.zeroValue4
 t23 := Tryz.underlying76
 a23 := Tryz.isAgg76
 z23 := Tryz.sizeOf76
 v23 := Tryz.zeroValue76
 t26 := Tryz.underlying9
 a26 := Tryz.isAgg9
 z26 := Tryz.sizeOf9
 v26 := Tryz.zeroValue9
 t27 := Tryz.underlying180
 a27 := Tryz.isAgg180
 z27 := Tryz.sizeOf180
 v27 := Tryz.zeroValue180
 t28 := Tryz.underlying181
 a28 := Tryz.isAgg181
 z28 := Tryz.sizeOf181
 v28 := Tryz.zeroValue181
 t33 := Tryz.underlying157
 a33 := Tryz.isAgg157
 z33 := Tryz.sizeOf157
 v33 := Tryz.zeroValue157 }
def ksorted103_ren : Go.Shelf.Ren := ⟨fun | 6 => 103 | 8 => 139 | 9 => 140 | 11 => 155 | 13 => 152 | 12 => 156 | 23 => 159 | 24 => 160 | 14 => 162 | 15 => 163 | 16 => 164 | 17 => 165 | 18 => 166 | 19 => 167 | 20 => 168 | 21 => 169 | 22 => 170 | 25 => 174 | 26 => 175 | 27 => 176 | 28 => 177 | 29 => 178 | 30 => 179 | 31 => 180 | n => n, fun | 26 => 9 | 28 => 181 | 24 => 118 | 0 => 0 | 3 => 3 | 37 => 57 | 48 => 198 | 50 => 165 | 4 => 4 | 40 => 239 | 39 => 238 | 45 => 243 | 5 => 5 | 9 => 9 | 51 => 246 | 55 => 250 | 57 => 252 | 58 => 253 | 33 => 157 | n => n, fun | n => n⟩
theorem ksorted103 : Go.Proofs.SlLaysZ.n6 Tryz.prog ksorted103_ren := {
 mixed := by kernel_rfl
 f6 := ⟨Tryz.f103.name, by decide, Tryz.func103.trans (congrArg some (by kernel_rfl))⟩
 f8 := ⟨Tryz.f139.name, by decide, Tryz.func139.trans (congrArg some (by kernel_rfl))⟩
 f11 := ⟨Tryz.f155.name, by decide, Tryz.func155.trans (congrArg some (by kernel_rfl))⟩
 t0 := Tryz.underlying0
 a0 := Tryz.isAgg0
 z0 := Tryz.sizeOf0
 v0 := Tryz.zeroValue0
 t24 := Tryz.underlying118
 a24 := Tryz.isAgg118
 z24 := Tryz.sizeOf118
 v24 := Tryz.zeroValue118
 t26 := Tryz.underlying9
 a26 := Tryz.isAgg9
 z26 := Tryz.sizeOf9
 v26 := Tryz.zeroValue9
 t28 := Tryz.underlying181
 a28 := Tryz.isAgg181
 z28 := Tryz.sizeOf181
 v28 := Tryz.zeroValue181
 i26 := by kernel_rfl }
def ksort140_ren : Go.Shelf.Ren := ⟨fun | 6 => 140 | 8 => 152 | 9 => 156 | 19 => 159 | 20 => 160 | 21 => 162 | 22 => 163 | 23 => 164 | 24 => 165 | 25 => 166 | 26 => 167 | 27 => 168 | 28 => 169 | 29 => 170 | 36 => 174 | 31 => 175 | 32 => 176 | 37 => 177 | 38 => 178 | 39 => 179 | 41 => 180 | n => n, fun | 27 => 118 | 29 => 9 | 3 => 3 | 32 => 57 | 26 => 118 | 0 => 0 | 44 => 198 | 46 => 165 | 4 => 4 | 36 => 239 | 35 => 238 | 41 => 243 | 5 => 5 | 9 => 9 | 53 => 246 | 57 => 250 | 63 => 252 | 64 => 253 | n => n, fun | n => n⟩
theorem ksort140 : Go.Proofs.SlLaysM.n6 Tryz.prog ksort140_ren := {
 mixed := by kernel_rfl
 f6 := ⟨Tryz.f140.name, by decide, Tryz.func140.trans (congrArg some (by kernel_rfl))⟩
 f8 := Tryz.func152.trans (congrArg some (by kernel_rfl))
 f9 := ⟨Tryz.f156.name, by decide, Tryz.func156.trans (congrArg some (by kernel_rfl))⟩
 f19 := Tryz.func159.trans (congrArg some (by kernel_rfl))
 f20 := Tryz.func160.trans (congrArg some (by kernel_rfl))
 f21 := ⟨Tryz.f162.name, by decide, Tryz.func162.trans (congrArg some (by kernel_rfl))⟩
 f22 := ⟨Tryz.f163.name, by decide, Tryz.func163.trans (congrArg some (by kernel_rfl))⟩
 f23 := ⟨Tryz.f164.name, by decide, Tryz.func164.trans (congrArg some (by kernel_rfl))⟩
 f24 := ⟨Tryz.f165.name, by decide, Tryz.func165.trans (congrArg some (by kernel_rfl))⟩
 f25 := ⟨Tryz.f166.name, by decide, Tryz.func166.trans (congrArg some (by kernel_rfl))⟩
 f26 := ⟨Tryz.f167.name, by decide, Tryz.func167.trans (congrArg some (by kernel_rfl))⟩
 f27 := ⟨Tryz.f168.name, by decide, Tryz.func168.trans (congrArg some (by kernel_rfl))⟩
 f28 := ⟨Tryz.f169.name, by decide, Tryz.func169.trans (congrArg some (by kernel_rfl))⟩
 f29 := ⟨Tryz.f170.name, by decide, Tryz.func170.trans (congrArg some (by kernel_rfl))⟩
 f31 := Tryz.func175.trans (congrArg some (by kernel_rfl))
 f32 := Tryz.func176.trans (congrArg some (by kernel_rfl))
 f36 := ⟨Tryz.f174.name, by decide, Tryz.func174.trans (congrArg some (by kernel_rfl))⟩
 f37 := ⟨Tryz.f177.name, by decide, Tryz.func177.trans (congrArg some (by kernel_rfl))⟩
 f38 := ⟨Tryz.f178.name, by decide, Tryz.func178.trans (congrArg some (by kernel_rfl))⟩
 f39 := ⟨Tryz.f179.name, by decide, Tryz.func179.trans (congrArg some (by kernel_rfl))⟩
 f41 := ⟨Tryz.f180.name, by decide, Tryz.func180.trans (congrArg some (by kernel_rfl))⟩
 t0 := Tryz.underlying0
 a0 := Tryz.isAgg0
 z0 := Tryz.sizeOf0
 v0 := Tryz.zeroValue0
 t3 := Tryz.underlying3
 a3 := Tryz.isAgg3
 z3 := Tryz.sizeOf3
 v3 := Tryz.zeroValue3
 t4 := Tryz.underlying4
 a4 := Tryz.isAgg4
 z4 := Tryz.sizeOf4
 v4 := Tryz.zeroValue4
 t5 := Tryz.underlying5
 a5 := Tryz.isAgg5
 z5 := Tryz.sizeOf5
 v5 := Tryz.zeroValue5
 t9 := Tryz.underlying9
 a9 := Tryz.isAgg9
 z9 := Tryz.sizeOf9
 v9 := Tryz.zeroValue9
 t26 := Tryz.underlying118
 a26 := Tryz.isAgg118
 z26 := Tryz.sizeOf118
 v26 := Tryz.zeroValue118
 t27 := Tryz.underlying118
 a27 := Tryz.isAgg118
 z27 := Tryz.sizeOf118
 v27 := Tryz.zeroValue118
 t29 := Tryz.underlying9
 a29 := Tryz.isAgg9
 z29 := Tryz.sizeOf9
 v29 := Tryz.zeroValue9
 t32 := Tryz.underlying57
 a32 := Tryz.isAgg57
 z32 := Tryz.sizeOf57
 v32 := Tryz.zeroValue57
 t35 := Tryz.underlying238
 a35 := Tryz.isAgg238
 z35 := Tryz.sizeOf238
 v35 := Tryz.zeroValue238
 t36 := Tryz.underlying239
 a36 := Tryz.isAgg239
 z36 := Tryz.sizeOf239
 v36 := Tryz.zeroValue239
 t41 := Tryz.underlying243
 a41 := Tryz.isAgg243
 z41 := Tryz.sizeOf243
 v41 := Tryz.zeroValue243
 t44 := Tryz.underlying198
 a44 := Tryz.isAgg198
 z44 := Tryz.sizeOf198
 v44 := Tryz.zeroValue198
 t46 := Tryz.underlying165
 a46 := Tryz.isAgg165
 z46 := Tryz.sizeOf165
 v46 := Tryz.zeroValue165
 t53 := Tryz.underlying246
 a53 := Tryz.isAgg246
 z53 := Tryz.sizeOf246
 v53 := Tryz.zeroValue246
 t57 := Tryz.underlying250
 a57 := Tryz.isAgg250
 z57 := Tryz.sizeOf250
 v57 := Tryz.zeroValue250
 t63 := Tryz.underlying252
 a63 := Tryz.isAgg252
 z63 := Tryz.sizeOf252
 v63 := Tryz.zeroValue252
 t64 := Tryz.underlying253
 a64 := Tryz.isAgg253
 z64 := Tryz.sizeOf253
 v64 := Tryz.zeroValue253 }
def kkeys124_ren : Go.Shelf.Ren := ⟨fun | 7 => 124 | 10 => 150 | n => n, fun | 23 => 77 | 26 => 9 | 3 => 36 | 28 => 181 | 0 => 0 | 27 => 180 | 33 => 157 | 4 => 4 | n => n, fun | n => n⟩
theorem kkeys124 : Go.Proofs.SlLaysZ.n7 Tryz.prog kkeys124_ren := {
 mixed := by kernel_rfl
 f7 := ⟨Tryz.f124.name, by decide, Tryz.func124.trans (congrArg some (by kernel_rfl))⟩
 f10 := ⟨Tryz.f150.name, by decide, Tryz.func150.trans (congrArg some (by kernel_rfl))⟩
 t0 := Tryz.underlying0
 a0 := Tryz.isAgg0
 z0 := Tryz.sizeOf0
 v0 := Tryz.zeroValue0
 t4 := Tryz.underlying4
 a4 := Tryz.isAgg4
 z4 := Tryz.sizeOf4
 v4 := Tryz.zeroValue4
 t23 := Tryz.underlying77
 a23 := Tryz.isAgg77
 z23 := Tryz.sizeOf77
 v23 := Tryz.zeroValue77
 t26 := Tryz.underlying9
 a26 := Tryz.isAgg9
 z26 := Tryz.sizeOf9
 v26 := Tryz.zeroValue9
 t27 := Tryz.underlying180
 a27 := Tryz.isAgg180
 z27 := Tryz.sizeOf180
 v27 := Tryz.zeroValue180
 t28 := Tryz.underlying181
 a28 := Tryz.isAgg181
 z28 := Tryz.sizeOf181
 v28 := Tryz.zeroValue181
 t33 := Tryz.underlying157
 a33 := Tryz.isAgg157
 z33 := Tryz.sizeOf157
 v33 := Tryz.zeroValue157 }
theorem ksorts103 (m : Nat) : AnyZ.SortsIn Tryz.prog ksorted103_ren Fence.wide m :=
 ⟨fun blk off cap ss W hH hblk hsz => callsIn_wide.2 (AnyM.slices_Sort_string ksort140 blk off cap ss W hH hblk hsz),
  fun p cap W => callsIn_wide.2 (AnyM.slices_Sort_string_none ksort140 p cap W)⟩
theorem kmaps_Keys_M (mb : Option Nat) (W : World) : CallsIn Fence.wide 5 Tryz.prog 104 #[.map mb] W fun e w' => e = .returned (.func (.func 141) #[] #[.pointer (some ⟨W.heap.size, 0, none⟩)]) ∧ w' = W.alloc (.cells #[.map mb] 76) :=
 AnyZ.keys_in kkeys104 Fence.wide 5 trivial rfl mb W
set_option maxHeartbeats 1000000 in
theorem kslices_Sorted_keys_M {H : Type} (b nn : Nat) (D0 : DataW H) (R : Value → Option (DataW H × List MemPlace)) (w : World) (hown : w.ownsMap Tryz.prog 9 R b nn D0) (hmax : Maps.size D0 ≤ maxLen) (hbytes : Maps.size D0 * 16 ≤ 140737488355328) :
  CallsIn Fence.wide 5 Tryz.prog 103 #[.func (.func 141) #[] #[.pointer (some ⟨w.heap.size, 0, none⟩)]] (w.alloc (.cells #[.map (some b)] 76)) fun e w' => ∃ (v : Value) (ss : List (List UInt8)), e = .returned v ∧ ss.Perm (strKeys D0) ∧
   w'.ownsRow (w.alloc (.cells #[.map (some b)] 76)).heap.size 9 1 v ss.length ((ss.mergeSort (fun x y => decide (x ≤ y))).map encStr) ∧ (v = .slice none 0 0 ↔ ss = []) ∧ Below (w.alloc (.cells #[.map (some b)] 76)).heap.size (w.alloc (.cells #[.map (some b)] 76)) w' := by
 have hbl := hown.lt
 have hseq : SeqGives Fence.wide 2 Tryz.prog 141 #[.pointer (some ⟨w.heap.size, 0, none⟩)] encStr (fun ss => ss.Perm (strKeys D0)) (Maps.size D0) (w.alloc (.cells #[.map (some b)] 76)) :=
  AnyZ.keys_gives (ρ := kkeys104_ren) { kkeys104 with } Fence.wide _ trivial rfl (by omega) w.heap.size b nn D0 _ (by simp) (by simp) (by
   obtain ⟨es, clock, hb, Ft, hs, hD⟩ := hown
   exact ⟨es, clock, (Below.heap_alloc _ _ b hbl).trans hb, Ft, hs, hD⟩)
 exact AnyZ.sorted_in ksorted103 Fence.wide 5 trivial trivial trivial trivial rfl (by omega) (ksorts103 _) (enters_of Tryz.func140 (by kernel_rfl) rfl) 141 #[.pointer (some ⟨w.heap.size, 0, none⟩)] trivial (enters_of Tryz.func141 (by kernel_rfl) rfl) _ _ hmax hbytes _ hseq
theorem kmaps_Keys_F (mb : Option Nat) (W : World) : CallsIn Fence.wide 5 Tryz.prog 124 #[.map mb] W fun e w' => e = .returned (.func (.func 150) #[] #[.pointer (some ⟨W.heap.size, 0, none⟩)]) ∧ w' = W.alloc (.cells #[.map mb] 77) :=
 AnyZ.keys_in kkeys124 Fence.wide 5 trivial rfl mb W
set_option maxHeartbeats 1000000 in
theorem kslices_Sorted_keys_F {H : Type} (b nn : Nat) (D0 : DataW H) (R : Value → Option (DataW H × List MemPlace)) (w : World) (hown : w.ownsMap Tryz.prog 9 R b nn D0) (hmax : Maps.size D0 ≤ maxLen) (hbytes : Maps.size D0 * 16 ≤ 140737488355328) :
  CallsIn Fence.wide 5 Tryz.prog 103 #[.func (.func 150) #[] #[.pointer (some ⟨w.heap.size, 0, none⟩)]] (w.alloc (.cells #[.map (some b)] 77)) fun e w' => ∃ (v : Value) (ss : List (List UInt8)), e = .returned v ∧ ss.Perm (strKeys D0) ∧
   w'.ownsRow (w.alloc (.cells #[.map (some b)] 77)).heap.size 9 1 v ss.length ((ss.mergeSort (fun x y => decide (x ≤ y))).map encStr) ∧ (v = .slice none 0 0 ↔ ss = []) ∧ Below (w.alloc (.cells #[.map (some b)] 77)).heap.size (w.alloc (.cells #[.map (some b)] 77)) w' := by
 have hbl := hown.lt
 have hseq : SeqGives Fence.wide 2 Tryz.prog 150 #[.pointer (some ⟨w.heap.size, 0, none⟩)] encStr (fun ss => ss.Perm (strKeys D0)) (Maps.size D0) (w.alloc (.cells #[.map (some b)] 77)) :=
  AnyZ.keys_gives (ρ := kkeys124_ren) { kkeys124 with } Fence.wide _ trivial rfl (by omega) w.heap.size b nn D0 _ (by simp) (by simp) (by
   obtain ⟨es, clock, hb, Ft, hs, hD⟩ := hown
   exact ⟨es, clock, (Below.heap_alloc _ _ b hbl).trans hb, Ft, hs, hD⟩)
 exact AnyZ.sorted_in ksorted103 Fence.wide 5 trivial trivial trivial trivial rfl (by omega) (ksorts103 _) (enters_of Tryz.func140 (by kernel_rfl) rfl) 150 #[.pointer (some ⟨w.heap.size, 0, none⟩)] trivial (enters_of Tryz.func150 (by kernel_rfl) rfl) _ _ hmax hbytes _ hseq
end Go.Proofs.YtddnikpdmjogiaaGreat
