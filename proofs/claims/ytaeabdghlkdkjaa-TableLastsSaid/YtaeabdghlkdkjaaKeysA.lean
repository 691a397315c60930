/- slices.Sorted of maps.Keys: the library's contracts at this program. Printed by the kit's programs lay-iter and lay-plain. -/
import Derived.Shelf.SlIter.Nil
import Derived.Shelf.SortM.Plain
import Derived.Shelf.SortM.SortNone
import Derived.Ground.GgzProg
import Derived.Ground.SlgmProg
import Derived.Test.YtaeabdghlkdkjaaProg
namespace Go.Proofs.Ytaeabdghlkdkjaa
open Go.RowKit Go.Maps Go.Sort Go.Shelf
def kkeys51_ren : Go.Shelf.Ren := ⟨fun | 7 => 51 | 10 => 94 | n => n, fun | 23 => 95 | 26 => 9 | 3 => 41 | 28 => 109 | 0 => 0 | 27 => 108 | 33 => 56 | 4 => 4 | n => n, fun | n => n⟩
theorem kkeys51 : Go.Proofs.SlLaysZ.n7 Try.prog kkeys51_ren := {
  mixed := by kernel_rfl
  f7 := ⟨Try.f51.name, by decide, Try.func51.trans (congrArg some (by kernel_rfl))⟩
  f10 := ⟨Try.f94.name, by decide, Try.func94.trans (congrArg some (by kernel_rfl))⟩
  t0 := Try.underlying0
  a0 := Try.isAgg0
  z0 := Try.sizeOf0
  v0 := Try.zeroValue0
  t4 := Try.underlying4
  a4 := Try.isAgg4
  z4 := Try.sizeOf4
  v4 := Try.zeroValue4
  t23 := Try.underlying95
  a23 := Try.isAgg95
  z23 := Try.sizeOf95
  v23 := Try.zeroValue95
  t26 := Try.underlying9
  a26 := Try.isAgg9
  z26 := Try.sizeOf9
  v26 := Try.zeroValue9
  t27 := Try.underlying108
  a27 := Try.isAgg108
  z27 := Try.sizeOf108
  v27 := Try.zeroValue108
  t28 := Try.underlying109
  a28 := Try.isAgg109
  z28 := Try.sizeOf109
  v28 := Try.zeroValue109
  t33 := Try.underlying56
  a33 := Try.isAgg56
  z33 := Try.sizeOf56
  v33 := Try.zeroValue56 }
def ksorted50_ren : Go.Shelf.Ren := ⟨fun | 6 => 50 | 8 => 92 | 9 => 93 | 11 => 113 | 13 => 115 | 12 => 114 | 23 => 129 | 24 => 130 | 14 => 120 | 15 => 121 | 16 => 122 | 17 => 123 | 18 => 124 | 19 => 125 | 20 => 126 | 21 => 127 | 22 => 128 | 25 => 131 | 26 => 132 | 27 => 133 | 28 => 134 | 29 => 135 | 30 => 136 | 31 => 137 | n => n, fun | 26 => 9 | 28 => 109 | 24 => 38 | 0 => 0 | 3 => 3 | 37 => 64 | 48 => 159 | 50 => 114 | 4 => 4 | 40 => 173 | 39 => 172 | 45 => 177 | 5 => 5 | 9 => 9 | 51 => 181 | 55 => 185 | 57 => 187 | 58 => 188 | 33 => 56 | n => n, fun | n => n⟩
theorem ksorted50 : Go.Proofs.SlLaysZ.n6 Try.prog ksorted50_ren := {
  mixed := by kernel_rfl
  f6 := ⟨Try.f50.name, by decide, Try.func50.trans (congrArg some (by kernel_rfl))⟩
  f8 := ⟨Try.f92.name, by decide, Try.func92.trans (congrArg some (by kernel_rfl))⟩
  f11 := ⟨Try.f113.name, by decide, Try.func113.trans (congrArg some (by kernel_rfl))⟩
  t0 := Try.underlying0
  a0 := Try.isAgg0
  z0 := Try.sizeOf0
  v0 := Try.zeroValue0
  t24 := Try.underlying38
  a24 := Try.isAgg38
  z24 := Try.sizeOf38
  v24 := Try.zeroValue38
  t26 := Try.underlying9
  a26 := Try.isAgg9
  z26 := Try.sizeOf9
  v26 := Try.zeroValue9
  t28 := Try.underlying109
  a28 := Try.isAgg109
  z28 := Try.sizeOf109
  v28 := Try.zeroValue109
  i26 := by kernel_rfl }
def ksort93_ren : Go.Shelf.Ren := ⟨fun | 6 => 93 | 8 => 115 | 9 => 114 | 19 => 129 | 20 => 130 | 21 => 120 | 22 => 121 | 23 => 122 | 24 => 123 | 25 => 124 | 26 => 125 | 27 => 126 | 28 => 127 | 29 => 128 | 36 => 131 | 31 => 132 | 32 => 133 | 37 => 134 | 38 => 135 | 39 => 136 | 41 => 137 | n => n, fun | 27 => 38 | 29 => 9 | 3 => 3 | 32 => 64 | 26 => 38 | 0 => 0 | 44 => 159 | 46 => 114 | 4 => 4 | 36 => 173 | 35 => 172 | 41 => 177 | 5 => 5 | 9 => 9 | 53 => 181 | 57 => 185 | 63 => 187 | 64 => 188 | n => n, fun | n => n⟩
theorem ksort93 : Go.Proofs.SlLaysM.n6 Try.prog ksort93_ren := {
  mixed := by kernel_rfl
  f6 := ⟨Try.f93.name, by decide, Try.func93.trans (congrArg some (by kernel_rfl))⟩
  f8 := Try.func115.trans (congrArg some (by kernel_rfl))
  f9 := ⟨Try.f114.name, by decide, Try.func114.trans (congrArg some (by kernel_rfl))⟩
  f19 := Try.func129.trans (congrArg some (by kernel_rfl))
  f20 := Try.func130.trans (congrArg some (by kernel_rfl))
  f21 := ⟨Try.f120.name, by decide, Try.func120.trans (congrArg some (by kernel_rfl))⟩
  f22 := ⟨Try.f121.name, by decide, Try.func121.trans (congrArg some (by kernel_rfl))⟩
  f23 := ⟨Try.f122.name, by decide, Try.func122.trans (congrArg some (by kernel_rfl))⟩
  f24 := ⟨Try.f123.name, by decide, Try.func123.trans (congrArg some (by kernel_rfl))⟩
  f25 := ⟨Try.f124.name, by decide, Try.func124.trans (congrArg some (by kernel_rfl))⟩
  f26 := ⟨Try.f125.name, by decide, Try.func125.trans (congrArg some (by kernel_rfl))⟩
  f27 := ⟨Try.f126.name, by decide, Try.func126.trans (congrArg some (by kernel_rfl))⟩
  f28 := ⟨Try.f127.name, by decide, Try.func127.trans (congrArg some (by kernel_rfl))⟩
  f29 := ⟨Try.f128.name, by decide, Try.func128.trans (congrArg some (by kernel_rfl))⟩
  f31 := Try.func132.trans (congrArg some (by kernel_rfl))
  f32 := Try.func133.trans (congrArg some (by kernel_rfl))
  f36 := ⟨Try.f131.name, by decide, Try.func131.trans (congrArg some (by kernel_rfl))⟩
  f37 := ⟨Try.f134.name, by decide, Try.func134.trans (congrArg some (by kernel_rfl))⟩
  f38 := ⟨Try.f135.name, by decide, Try.func135.trans (congrArg some (by kernel_rfl))⟩
  f39 := ⟨Try.f136.name, by decide, Try.func136.trans (congrArg some (by kernel_rfl))⟩
  f41 := ⟨Try.f137.name, by decide, Try.func137.trans (congrArg some (by kernel_rfl))⟩
  t0 := Try.underlying0
  a0 := Try.isAgg0
  z0 := Try.sizeOf0
  v0 := Try.zeroValue0
  t3 := Try.underlying3
  a3 := Try.isAgg3
  z3 := Try.sizeOf3
  v3 := Try.zeroValue3
  t4 := Try.underlying4
  a4 := Try.isAgg4
  z4 := Try.sizeOf4
  v4 := Try.zeroValue4
  t5 := Try.underlying5
  a5 := Try.isAgg5
  z5 := Try.sizeOf5
  v5 := Try.zeroValue5
  t9 := Try.underlying9
  a9 := Try.isAgg9
  z9 := Try.sizeOf9
  v9 := Try.zeroValue9
  t26 := Try.underlying38
  a26 := Try.isAgg38
  z26 := Try.sizeOf38
  v26 := Try.zeroValue38
  t27 := Try.underlying38
  a27 := Try.isAgg38
  z27 := Try.sizeOf38
  v27 := Try.zeroValue38
  t29 := Try.underlying9
  a29 := Try.isAgg9
  z29 := Try.sizeOf9
  v29 := Try.zeroValue9
  t32 := Try.underlying64
  a32 := Try.isAgg64
  z32 := Try.sizeOf64
  v32 := Try.zeroValue64
  t35 := Try.underlying172
  a35 := Try.isAgg172
  z35 := Try.sizeOf172
  v35 := Try.zeroValue172
  t36 := Try.underlying173
  a36 := Try.isAgg173
  z36 := Try.sizeOf173
  v36 := Try.zeroValue173
  t41 := Try.underlying177
  a41 := Try.isAgg177
  z41 := Try.sizeOf177
  v41 := Try.zeroValue177
  t44 := Try.underlying159
  a44 := Try.isAgg159
  z44 := Try.sizeOf159
  v44 := Try.zeroValue159
  t46 := Try.underlying114
  a46 := Try.isAgg114
  z46 := Try.sizeOf114
  v46 := Try.zeroValue114
  t53 := Try.underlying181
  a53 := Try.isAgg181
  z53 := Try.sizeOf181
  v53 := Try.zeroValue181
  t57 := Try.underlying185
  a57 := Try.isAgg185
  z57 := Try.sizeOf185
  v57 := Try.zeroValue185
  t63 := Try.underlying187
  a63 := Try.isAgg187
  z63 := Try.sizeOf187
  v63 := Try.zeroValue187
  t64 := Try.underlying188
  a64 := Try.isAgg188
  z64 := Try.sizeOf188
  v64 := Try.zeroValue188 }
def kkeys102_ren : Go.Shelf.Ren := ⟨fun | 7 => 102 | 10 => 118 | n => n, fun | 23 => 96 | 26 => 9 | 3 => 41 | 28 => 109 | 0 => 0 | 27 => 108 | 33 => 56 | 4 => 4 | n => n, fun | n => n⟩
theorem kkeys102 : Go.Proofs.SlLaysZ.n7 Try.prog kkeys102_ren := {
  mixed := by kernel_rfl
  f7 := ⟨Try.f102.name, by decide, Try.func102.trans (congrArg some (by kernel_rfl))⟩
  f10 := ⟨Try.f118.name, by decide, Try.func118.trans (congrArg some (by kernel_rfl))⟩
  t0 := Try.underlying0
  a0 := Try.isAgg0
  z0 := Try.sizeOf0
  v0 := Try.zeroValue0
  t4 := Try.underlying4
  a4 := Try.isAgg4
  z4 := Try.sizeOf4
  v4 := Try.zeroValue4
  t23 := Try.underlying96
  a23 := Try.isAgg96
  z23 := Try.sizeOf96
  v23 := Try.zeroValue96
  t26 := Try.underlying9
  a26 := Try.isAgg9
  z26 := Try.sizeOf9
  v26 := Try.zeroValue9
  t27 := Try.underlying108
  a27 := Try.isAgg108
  z27 := Try.sizeOf108
  v27 := Try.zeroValue108
  t28 := Try.underlying109
  a28 := Try.isAgg109
  z28 := Try.sizeOf109
  v28 := Try.zeroValue109
  t33 := Try.underlying56
  a33 := Try.isAgg56
  z33 := Try.sizeOf56
  v33 := Try.zeroValue56 }
theorem ksorts50 (m : Nat) : AnyZ.SortsIn Try.prog ksorted50_ren Fence.wide m :=
  ⟨fun blk off cap ss W hH hblk hsz => callsIn_wide.2 (AnyM.slices_Sort_string ksort93 blk off cap ss W hH hblk hsz),
   fun p cap W => callsIn_wide.2 (AnyM.slices_Sort_string_none ksort93 p cap W)⟩

theorem kmaps_Keys_M (mb : Option Nat) (W : World) : CallsIn Fence.wide 5 Try.prog 51 #[.map mb] W fun e w' => e = .returned (.func (.func 94) #[] #[.pointer (some ⟨W.heap.size, 0, none⟩)]) ∧ w' = W.alloc (.cells #[.map mb] 95) :=
  AnyZ.keys_in kkeys51 Fence.wide 5 trivial rfl mb W

set_option maxHeartbeats 1000000 in
theorem kslices_Sorted_keys_M {H : Type} (b nn : Nat) (D0 : DataW H) (R : Value → Option (DataW H × List MemPlace)) (w : World) (hown : w.ownsMap Try.prog 9 R b nn D0) (hmax : Maps.size D0 ≤ maxLen) (hbytes : Maps.size D0 * 16 ≤ 140737488355328) :
    CallsIn Fence.wide 5 Try.prog 50 #[.func (.func 94) #[] #[.pointer (some ⟨w.heap.size, 0, none⟩)]] (w.alloc (.cells #[.map (some b)] 95)) fun e w' => ∃ (v : Value) (ss : List (List UInt8)), e = .returned v ∧ ss.Perm (strKeys D0) ∧
      w'.ownsRow (w.alloc (.cells #[.map (some b)] 95)).heap.size 9 1 v ss.length ((ss.mergeSort (fun x y => decide (x ≤ y))).map encStr) ∧ (v = .slice none 0 0 ↔ ss = []) ∧ Below (w.alloc (.cells #[.map (some b)] 95)).heap.size (w.alloc (.cells #[.map (some b)] 95)) w' := by
  have hbl := hown.lt
  have hseq : SeqGives Fence.wide 2 Try.prog 94 #[.pointer (some ⟨w.heap.size, 0, none⟩)] encStr (fun ss => ss.Perm (strKeys D0)) (Maps.size D0) (w.alloc (.cells #[.map (some b)] 95)) :=
    AnyZ.keys_gives (ρ := kkeys51_ren) { kkeys51 with } Fence.wide _ trivial rfl (by omega) w.heap.size b nn D0 _ (by simp) (by simp) (by
      obtain ⟨es, clock, hb, Ft, hs, hD⟩ := hown
      exact ⟨es, clock, (Below.heap_alloc _ _ b hbl).trans hb, Ft, hs, hD⟩)
  exact AnyZ.sorted_in ksorted50 Fence.wide 5 trivial trivial trivial trivial rfl (by omega) (ksorts50 _) (enters_of Try.func93 (by kernel_rfl) rfl) 94 #[.pointer (some ⟨w.heap.size, 0, none⟩)] trivial (enters_of Try.func94 (by kernel_rfl) rfl) _ _ hmax hbytes _ hseq

theorem kmaps_Keys_F (mb : Option Nat) (W : World) : CallsIn Fence.wide 5 Try.prog 102 #[.map mb] W fun e w' => e = .returned (.func (.func 118) #[] #[.pointer (some ⟨W.heap.size, 0, none⟩)]) ∧ w' = W.alloc (.cells #[.map mb] 96) :=
  AnyZ.keys_in kkeys102 Fence.wide 5 trivial rfl mb W

set_option maxHeartbeats 1000000 in
theorem kslices_Sorted_keys_F {H : Type} (b nn : Nat) (D0 : DataW H) (R : Value → Option (DataW H × List MemPlace)) (w : World) (hown : w.ownsMap Try.prog 9 R b nn D0) (hmax : Maps.size D0 ≤ maxLen) (hbytes : Maps.size D0 * 16 ≤ 140737488355328) :
    CallsIn Fence.wide 5 Try.prog 50 #[.func (.func 118) #[] #[.pointer (some ⟨w.heap.size, 0, none⟩)]] (w.alloc (.cells #[.map (some b)] 96)) fun e w' => ∃ (v : Value) (ss : List (List UInt8)), e = .returned v ∧ ss.Perm (strKeys D0) ∧
      w'.ownsRow (w.alloc (.cells #[.map (some b)] 96)).heap.size 9 1 v ss.length ((ss.mergeSort (fun x y => decide (x ≤ y))).map encStr) ∧ (v = .slice none 0 0 ↔ ss = []) ∧ Below (w.alloc (.cells #[.map (some b)] 96)).heap.size (w.alloc (.cells #[.map (some b)] 96)) w' := by
  have hbl := hown.lt
  have hseq : SeqGives Fence.wide 2 Try.prog 118 #[.pointer (some ⟨w.heap.size, 0, none⟩)] encStr (fun ss => ss.Perm (strKeys D0)) (Maps.size D0) (w.alloc (.cells #[.map (some b)] 96)) :=
    AnyZ.keys_gives (ρ := kkeys102_ren) { kkeys102 with } Fence.wide _ trivial rfl (by omega) w.heap.size b nn D0 _ (by simp) (by simp) (by
      obtain ⟨es, clock, hb, Ft, hs, hD⟩ := hown
      exact ⟨es, clock, (Below.heap_alloc _ _ b hbl).trans hb, Ft, hs, hD⟩)
  exact AnyZ.sorted_in ksorted50 Fence.wide 5 trivial trivial trivial trivial rfl (by omega) (ksorts50 _) (enters_of Try.func93 (by kernel_rfl) rfl) 118 #[.pointer (some ⟨w.heap.size, 0, none⟩)] trivial (enters_of Try.func118 (by kernel_rfl) rfl) _ _ hmax hbytes _ hseq

end Go.Proofs.Ytaeabdghlkdkjaa
