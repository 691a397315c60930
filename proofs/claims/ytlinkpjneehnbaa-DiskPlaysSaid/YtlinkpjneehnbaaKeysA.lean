/- slices.Sorted of maps.Keys of the disk's files: the library's contracts at this program. Printed by the kit's programs lay-iter and lay-plain. -/
import Derived.Shelf.SlIter.Nil
import Derived.Shelf.SortM.Plain
import Derived.Shelf.SortM.SortNone
import Derived.Ground.GgzProg
import Derived.Ground.SlgmProg
import Derived.Test.YtlinkpjneehnbaaProg
namespace Go.Proofs.Ytlinkpjneehnbaa
open Go.RowKit Go.Maps Go.Sort Go.Shelf
def kkeys97_ren : Go.Shelf.Ren := ⟨fun | 7 => 97 | 10 => 126 | n => n, fun | 23 => 122 | 26 => 9 | 3 => 31 | 28 => 155 | 0 => 0 | 27 => 154 | 33 => 75 | 4 => 4 | n => n, fun | n => n⟩
theorem kkeys97 : Go.Proofs.SlLaysZ.n7 Try.prog kkeys97_ren := {
  mixed := by kernel_rfl
  f7 := ⟨Try.f97.name, by decide, Try.func97.trans (congrArg some (by kernel_rfl))⟩
  f10 := ⟨Try.f126.name, by decide, Try.func126.trans (congrArg some (by kernel_rfl))⟩
  t0 := Try.underlying0
  a0 := Try.isAgg0
  z0 := Try.sizeOf0
  v0 := Try.zeroValue0
  t4 := Try.underlying4
  a4 := Try.isAgg4
  z4 := Try.sizeOf4
  v4 := Try.zeroValue4
  t23 := Try.underlying122
  a23 := Try.isAgg122
  z23 := Try.sizeOf122
  v23 := Try.zeroValue122
  t26 := Try.underlying9
  a26 := Try.isAgg9
  z26 := Try.sizeOf9
  v26 := Try.zeroValue9
  t27 := Try.underlying154
  a27 := Try.isAgg154
  z27 := Try.sizeOf154
  v27 := Try.zeroValue154
  t28 := Try.underlying155
  a28 := Try.isAgg155
  z28 := Try.sizeOf155
  v28 := Try.zeroValue155
  t33 := Try.underlying75
  a33 := Try.isAgg75
  z33 := Try.sizeOf75
  v33 := Try.zeroValue75 }
def ksorted96_ren : Go.Shelf.Ren := ⟨fun | 6 => 96 | 8 => 124 | 9 => 125 | 11 => 130 | 13 => 132 | 12 => 131 | 23 => 143 | 24 => 144 | 14 => 134 | 15 => 135 | 16 => 136 | 17 => 137 | 18 => 138 | 19 => 139 | 20 => 140 | 21 => 141 | 22 => 142 | 25 => 145 | 26 => 146 | 27 => 147 | 28 => 148 | 29 => 149 | 30 => 150 | 31 => 151 | n => n, fun | 26 => 9 | 28 => 155 | 24 => 72 | 0 => 0 | 3 => 3 | 37 => 23 | 48 => 132 | 50 => 137 | 4 => 4 | 40 => 187 | 39 => 186 | 45 => 191 | 5 => 5 | 9 => 9 | 51 => 195 | 55 => 199 | 57 => 201 | 58 => 202 | 33 => 75 | n => n, fun | n => n⟩
theorem ksorted96 : Go.Proofs.SlLaysZ.n6 Try.prog ksorted96_ren := {
  mixed := by kernel_rfl
  f6 := ⟨Try.f96.name, by decide, Try.func96.trans (congrArg some (by kernel_rfl))⟩
  f8 := ⟨Try.f124.name, by decide, Try.func124.trans (congrArg some (by kernel_rfl))⟩
  f11 := ⟨Try.f130.name, by decide, Try.func130.trans (congrArg some (by kernel_rfl))⟩
  t0 := Try.underlying0
  a0 := Try.isAgg0
  z0 := Try.sizeOf0
  v0 := Try.zeroValue0
  t24 := Try.underlying72
  a24 := Try.isAgg72
  z24 := Try.sizeOf72
  v24 := Try.zeroValue72
  t26 := Try.underlying9
  a26 := Try.isAgg9
  z26 := Try.sizeOf9
  v26 := Try.zeroValue9
  t28 := Try.underlying155
  a28 := Try.isAgg155
  z28 := Try.sizeOf155
  v28 := Try.zeroValue155
  i26 := by kernel_rfl }
def ksort125_ren : Go.Shelf.Ren := ⟨fun | 6 => 125 | 8 => 132 | 9 => 131 | 19 => 143 | 20 => 144 | 21 => 134 | 22 => 135 | 23 => 136 | 24 => 137 | 25 => 138 | 26 => 139 | 27 => 140 | 28 => 141 | 29 => 142 | 36 => 145 | 31 => 146 | 32 => 147 | 37 => 148 | 38 => 149 | 39 => 150 | 41 => 151 | n => n, fun | 27 => 72 | 29 => 9 | 3 => 3 | 32 => 23 | 26 => 72 | 0 => 0 | 44 => 132 | 46 => 137 | 4 => 4 | 36 => 187 | 35 => 186 | 41 => 191 | 5 => 5 | 9 => 9 | 53 => 195 | 57 => 199 | 63 => 201 | 64 => 202 | n => n, fun | n => n⟩
theorem ksort125 : Go.Proofs.SlLaysM.n6 Try.prog ksort125_ren := {
  mixed := by kernel_rfl
  f6 := ⟨Try.f125.name, by decide, Try.func125.trans (congrArg some (by kernel_rfl))⟩
  f8 := Try.func132.trans (congrArg some (by kernel_rfl))
  f9 := ⟨Try.f131.name, by decide, Try.func131.trans (congrArg some (by kernel_rfl))⟩
  f19 := Try.func143.trans (congrArg some (by kernel_rfl))
  f20 := Try.func144.trans (congrArg some (by kernel_rfl))
  f21 := ⟨Try.f134.name, by decide, Try.func134.trans (congrArg some (by kernel_rfl))⟩
  f22 := ⟨Try.f135.name, by decide, Try.func135.trans (congrArg some (by kernel_rfl))⟩
  f23 := ⟨Try.f136.name, by decide, Try.func136.trans (congrArg some (by kernel_rfl))⟩
  f24 := ⟨Try.f137.name, by decide, Try.func137.trans (congrArg some (by kernel_rfl))⟩
  f25 := ⟨Try.f138.name, by decide, Try.func138.trans (congrArg some (by kernel_rfl))⟩
  f26 := ⟨Try.f139.name, by decide, Try.func139.trans (congrArg some (by kernel_rfl))⟩
  f27 := ⟨Try.f140.name, by decide, Try.func140.trans (congrArg some (by kernel_rfl))⟩
  f28 := ⟨Try.f141.name, by decide, Try.func141.trans (congrArg some (by kernel_rfl))⟩
  f29 := ⟨Try.f142.name, by decide, Try.func142.trans (congrArg some (by kernel_rfl))⟩
  f31 := Try.func146.trans (congrArg some (by kernel_rfl))
  f32 := Try.func147.trans (congrArg some (by kernel_rfl))
  f36 := ⟨Try.f145.name, by decide, Try.func145.trans (congrArg some (by kernel_rfl))⟩
  f37 := ⟨Try.f148.name, by decide, Try.func148.trans (congrArg some (by kernel_rfl))⟩
  f38 := ⟨Try.f149.name, by decide, Try.func149.trans (congrArg some (by kernel_rfl))⟩
  f39 := ⟨Try.f150.name, by decide, Try.func150.trans (congrArg some (by kernel_rfl))⟩
  f41 := ⟨Try.f151.name, by decide, Try.func151.trans (congrArg some (by kernel_rfl))⟩
  t0 := Try.underlying0
  a0 := Try.isAgg0
  z0 := Try.sizeOf0
  v0 := Try.zeroValue0
  t3 := Try.underlying3
  a3 := Try.isAgg3
  z3 := Try.sizeOf3
  v3 := Try.zeroValue3
  t4 := Try.underlying4
  a4 := Try.isAgg4
  z4 := Try.sizeOf4
  v4 := Try.zeroValue4
  t5 := Try.underlying5
  a5 := Try.isAgg5
  z5 := Try.sizeOf5
  v5 := Try.zeroValue5
  t9 := Try.underlying9
  a9 := Try.isAgg9
  z9 := Try.sizeOf9
  v9 := Try.zeroValue9
  t26 := Try.underlying72
  a26 := Try.isAgg72
  z26 := Try.sizeOf72
  v26 := Try.zeroValue72
  t27 := Try.underlying72
  a27 := Try.isAgg72
  z27 := Try.sizeOf72
  v27 := Try.zeroValue72
  t29 := Try.underlying9
  a29 := Try.isAgg9
  z29 := Try.sizeOf9
  v29 := Try.zeroValue9
  t32 := Try.underlying23
  a32 := Try.isAgg23
  z32 := Try.sizeOf23
  v32 := Try.zeroValue23
  t35 := Try.underlying186
  a35 := Try.isAgg186
  z35 := Try.sizeOf186
  v35 := Try.zeroValue186
  t36 := Try.underlying187
  a36 := Try.isAgg187
  z36 := Try.sizeOf187
  v36 := Try.zeroValue187
  t41 := Try.underlying191
  a41 := Try.isAgg191
  z41 := Try.sizeOf191
  v41 := Try.zeroValue191
  t44 := Try.underlying132
  a44 := Try.isAgg132
  z44 := Try.sizeOf132
  v44 := Try.zeroValue132
  t46 := Try.underlying137
  a46 := Try.isAgg137
  z46 := Try.sizeOf137
  v46 := Try.zeroValue137
  t53 := Try.underlying195
  a53 := Try.isAgg195
  z53 := Try.sizeOf195
  v53 := Try.zeroValue195
  t57 := Try.underlying199
  a57 := Try.isAgg199
  z57 := Try.sizeOf199
  v57 := Try.zeroValue199
  t63 := Try.underlying201
  a63 := Try.isAgg201
  z63 := Try.sizeOf201
  v63 := Try.zeroValue201
  t64 := Try.underlying202
  a64 := Try.isAgg202
  z64 := Try.sizeOf202
  v64 := Try.zeroValue202 }
theorem ksorts96 (m : Nat) : AnyZ.SortsIn Try.prog ksorted96_ren Fence.wide m :=
  ⟨fun blk off cap ss W hH hblk hsz => callsIn_wide.2 (AnyM.slices_Sort_string ksort125 blk off cap ss W hH hblk hsz),
   fun p cap W => callsIn_wide.2 (AnyM.slices_Sort_string_none ksort125 p cap W)⟩

theorem kmaps_Keys_97 (mb : Option Nat) (W : World) : CallsIn Fence.wide 5 Try.prog 97 #[.map mb] W fun e w' => e = .returned (.func (.func 126) #[] #[.pointer (some ⟨W.heap.size, 0, none⟩)]) ∧ w' = W.alloc (.cells #[.map mb] 122) :=
  AnyZ.keys_in kkeys97 Fence.wide 5 trivial rfl mb W

set_option maxHeartbeats 1000000 in
theorem kslices_Sorted_keys_96_97 {H : Type} (b nn : Nat) (D0 : DataW H) (R : Value → Option (DataW H × List MemPlace)) (w : World) (hown : w.ownsMap Try.prog 9 R b nn D0) (hmax : Maps.size D0 ≤ maxLen) (hbytes : Maps.size D0 * 16 ≤ 140737488355328) :
    CallsIn Fence.wide 5 Try.prog 96 #[.func (.func 126) #[] #[.pointer (some ⟨w.heap.size, 0, none⟩)]] (w.alloc (.cells #[.map (some b)] 122)) fun e w' => ∃ (v : Value) (ss : List (List UInt8)), e = .returned v ∧ ss.Perm (strKeys D0) ∧
      w'.ownsRow (w.alloc (.cells #[.map (some b)] 122)).heap.size 9 1 v ss.length ((ss.mergeSort (fun x y => decide (x ≤ y))).map encStr) ∧ (v = .slice none 0 0 ↔ ss = []) ∧ Below (w.alloc (.cells #[.map (some b)] 122)).heap.size (w.alloc (.cells #[.map (some b)] 122)) w' := by
  have hbl := hown.lt
  have hseq : SeqGives Fence.wide 2 Try.prog 126 #[.pointer (some ⟨w.heap.size, 0, none⟩)] encStr (fun ss => ss.Perm (strKeys D0)) (Maps.size D0) (w.alloc (.cells #[.map (some b)] 122)) :=
    AnyZ.keys_gives (ρ := kkeys97_ren) { kkeys97 with } Fence.wide _ trivial rfl (by omega) w.heap.size b nn D0 _ (by simp) (by simp) (by
      obtain ⟨es, clock, hb, Ft, hs, hD⟩ := hown
      exact ⟨es, clock, (Below.heap_alloc _ _ b hbl).trans hb, Ft, hs, hD⟩)
  exact AnyZ.sorted_in ksorted96 Fence.wide 5 trivial trivial trivial trivial rfl (by omega) (ksorts96 _) (enters_of Try.func125 (by kernel_rfl) rfl) 126 #[.pointer (some ⟨w.heap.size, 0, none⟩)] trivial (enters_of Try.func126 (by kernel_rfl) rfl) _ _ hmax hbytes _ hseq

end Go.Proofs.Ytlinkpjneehnbaa
