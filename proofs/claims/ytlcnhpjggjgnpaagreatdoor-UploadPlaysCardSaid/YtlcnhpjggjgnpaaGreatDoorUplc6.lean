/- A part of the proof. -/
import Derived.Test.YtlcnhpjggjgnpaaGreatDoorProg
import Derived.Shelf.SlIterI.Nil
import Derived.Shelf.SortM.Plain
import Derived.Shelf.SortM.SortNone
set_option maxHeartbeats 1000000
namespace Go.Proofs.YtlcnhpjggjgnpaaGreatDoor
open Go.RowKit Go.Maps Go.Sort Go.Shelf
def CJ:Go.Shelf.Ren:=⟨fun | 7=>70 | 10=>128 | n=>n,fun | 23=>102 | 26=>3 | 3=>112 | 28=>159 | 0=>0 | 27=>158 | 33=>232 | 4=>4 | n=>n,fun | n=>n⟩
theorem Ux:Go.Proofs.SlLaysZI.n7 Tryz.prog CJ:={
 mixed:=by kernel_rfl
 f7:=⟨Tryz.f70.name,by decide,Tryz.func70.trans (congrArg some (by kernel_rfl))⟩
 f10:=⟨Tryz.f128.name,by decide,Tryz.func128.trans (congrArg some (by kernel_rfl))⟩
 t0:=Tryz.underlying0
 a0:=Tryz.isAgg0
 z0:=Tryz.sizeOf0
 v0:=Tryz.zeroValue0
 t4:=Tryz.underlying4
 a4:=Tryz.isAgg4
 z4:=Tryz.sizeOf4
 v4:=Tryz.zeroValue4
 t23:=Tryz.underlying102
 a23:=Tryz.isAgg102
 z23:=Tryz.sizeOf102
 v23:=Tryz.zeroValue102
 t26:=Tryz.underlying3
 a26:=Tryz.isAgg3
 z26:=Tryz.sizeOf3
 v26:=Tryz.zeroValue3
 t27:=Tryz.underlying158
 a27:=Tryz.isAgg158
 z27:=Tryz.sizeOf158
 v27:=Tryz.zeroValue158
 t28:=Tryz.underlying159
 a28:=Tryz.isAgg159
 z28:=Tryz.sizeOf159
 v28:=Tryz.zeroValue159
 t33:=Tryz.underlying232
 a33:=Tryz.isAgg232
 z33:=Tryz.sizeOf232
 v33:=Tryz.zeroValue232}
def ya:Go.Shelf.Ren:=⟨fun | 6=>69 | 8=>126 | 9=>127 | 11=>166 | 13=>168 | 12=>167 | 23=>201 | 24=>202 | 14=>192 | 15=>193 | 16=>194 | 17=>195 | 18=>196 | 19=>197 | 20=>198 | 21=>199 | 22=>200 | 25=>224 | 26=>225 | 27=>226 | 28=>227 | 29=>228 | 30=>229 | 31=>240 | n=>n,fun | 26=>3 | 28=>159 | 24=>23 | 0=>0 | 3=>3 | 37=>37 | 48=>204 | 50=>111 | 4=>4 | 40=>292 | 39=>291 | 45=>297 | 5=>5 | 9=>9 | 51=>312 | 55=>316 | 57=>320 | 58=>185 | 33=>232 | n=>n,fun | n=>n⟩
theorem Uy:Go.Proofs.SlLaysZI.n6 Tryz.prog ya:={
 mixed:=by kernel_rfl
 f6:=⟨Tryz.f69.name,by decide,Tryz.func69.trans (congrArg some (by kernel_rfl))⟩
 f8:=⟨Tryz.f126.name,by decide,Tryz.func126.trans (congrArg some (by kernel_rfl))⟩
 f11:=⟨Tryz.f166.name,by decide,Tryz.func166.trans (congrArg some (by kernel_rfl))⟩
 t0:=Tryz.underlying0
 a0:=Tryz.isAgg0
 z0:=Tryz.sizeOf0
 v0:=Tryz.zeroValue0
 t24:=Tryz.underlying23
 a24:=Tryz.isAgg23
 z24:=Tryz.sizeOf23
 v24:=Tryz.zeroValue23
 t26:=Tryz.underlying3
 a26:=Tryz.isAgg3
 z26:=Tryz.sizeOf3
 v26:=Tryz.zeroValue3
 t28:=Tryz.underlying159
 a28:=Tryz.isAgg159
 z28:=Tryz.sizeOf159
 v28:=Tryz.zeroValue159
 i26:=by kernel_rfl}
def NN:Go.Shelf.Ren:=⟨fun | 5=>127 | 8=>168 | 7=>167 | 19=>201 | 20=>202 | 10=>192 | 11=>193 | 12=>194 | 13=>195 | 14=>196 | 15=>197 | 16=>198 | 17=>199 | 18=>200 | 30=>224 | 31=>225 | 32=>226 | 33=>227 | 34=>228 | 35=>229 | 40=>240 | n=>n,fun | 23=>23 | 25=>3 | 3=>3 | 32=>37 | 22=>23 | 0=>0 | 44=>204 | 46=>111 | 4=>4 | 36=>292 | 35=>291 | 41=>297 | 5=>5 | 9=>9 | 53=>312 | 57=>316 | 63=>320 | 64=>185 | n=>n,fun | n=>n⟩
theorem Uz:Go.Proofs.SlLaysM.n5 Tryz.prog NN:={
 mixed:=by kernel_rfl
 f5:=⟨Tryz.f127.name,by decide,Tryz.func127.trans (congrArg some (by kernel_rfl))⟩
 f7:=⟨Tryz.f167.name,by decide,Tryz.func167.trans (congrArg some (by kernel_rfl))⟩
 f8:=Tryz.func168.trans (congrArg some (by kernel_rfl))
 f10:=⟨Tryz.f192.name,by decide,Tryz.func192.trans (congrArg some (by kernel_rfl))⟩
 f11:=⟨Tryz.f193.name,by decide,Tryz.func193.trans (congrArg some (by kernel_rfl))⟩
 f12:=⟨Tryz.f194.name,by decide,Tryz.func194.trans (congrArg some (by kernel_rfl))⟩
 f13:=⟨Tryz.f195.name,by decide,Tryz.func195.trans (congrArg some (by kernel_rfl))⟩
 f14:=⟨Tryz.f196.name,by decide,Tryz.func196.trans (congrArg some (by kernel_rfl))⟩
 f15:=⟨Tryz.f197.name,by decide,Tryz.func197.trans (congrArg some (by kernel_rfl))⟩
 f16:=⟨Tryz.f198.name,by decide,Tryz.func198.trans (congrArg some (by kernel_rfl))⟩
 f17:=⟨Tryz.f199.name,by decide,Tryz.func199.trans (congrArg some (by kernel_rfl))⟩
 f18:=⟨Tryz.f200.name,by decide,Tryz.func200.trans (congrArg some (by kernel_rfl))⟩
 f19:=Tryz.func201.trans (congrArg some (by kernel_rfl))
 f20:=Tryz.func202.trans (congrArg some (by kernel_rfl))
 f30:=⟨Tryz.f224.name,by decide,Tryz.func224.trans (congrArg some (by kernel_rfl))⟩
 f31:=Tryz.func225.trans (congrArg some (by kernel_rfl))
 f32:=Tryz.func226.trans (congrArg some (by kernel_rfl))
 f33:=⟨Tryz.f227.name,by decide,Tryz.func227.trans (congrArg some (by kernel_rfl))⟩
 f34:=⟨Tryz.f228.name,by decide,Tryz.func228.trans (congrArg some (by kernel_rfl))⟩
 f35:=⟨Tryz.f229.name,by decide,Tryz.func229.trans (congrArg some (by kernel_rfl))⟩
 f40:=⟨Tryz.f240.name,by decide,Tryz.func240.trans (congrArg some (by kernel_rfl))⟩
 t0:=Tryz.underlying0
 a0:=Tryz.isAgg0
 z0:=Tryz.sizeOf0
 v0:=Tryz.zeroValue0
 t3:=Tryz.underlying3
 a3:=Tryz.isAgg3
 z3:=Tryz.sizeOf3
 v3:=Tryz.zeroValue3
 t4:=Tryz.underlying4
 a4:=Tryz.isAgg4
 z4:=Tryz.sizeOf4
 v4:=Tryz.zeroValue4
 t5:=Tryz.underlying5
 a5:=Tryz.isAgg5
 z5:=Tryz.sizeOf5
 v5:=Tryz.zeroValue5
 t9:=Tryz.underlying9
 a9:=Tryz.isAgg9
 z9:=Tryz.sizeOf9
 v9:=Tryz.zeroValue9
 t22:=Tryz.underlying23
 a22:=Tryz.isAgg23
 z22:=Tryz.sizeOf23
 v22:=Tryz.zeroValue23
 t23:=Tryz.underlying23
 a23:=Tryz.isAgg23
 z23:=Tryz.sizeOf23
 v23:=Tryz.zeroValue23
 t25:=Tryz.underlying3
 a25:=Tryz.isAgg3
 z25:=Tryz.sizeOf3
 v25:=Tryz.zeroValue3
 t32:=Tryz.underlying37
 a32:=Tryz.isAgg37
 z32:=Tryz.sizeOf37
 v32:=Tryz.zeroValue37
 t35:=Tryz.underlying291
 a35:=Tryz.isAgg291
 z35:=Tryz.sizeOf291
 v35:=Tryz.zeroValue291
 t36:=Tryz.underlying292
 a36:=Tryz.isAgg292
 z36:=Tryz.sizeOf292
 v36:=Tryz.zeroValue292
 t41:=Tryz.underlying297
 a41:=Tryz.isAgg297
 z41:=Tryz.sizeOf297
 v41:=Tryz.zeroValue297
 t44:=Tryz.underlying204
 a44:=Tryz.isAgg204
 z44:=Tryz.sizeOf204
 v44:=Tryz.zeroValue204
 t46:=Tryz.underlying111
 a46:=Tryz.isAgg111
 z46:=Tryz.sizeOf111
 v46:=Tryz.zeroValue111
 t53:=Tryz.underlying312
 a53:=Tryz.isAgg312
 z53:=Tryz.sizeOf312
 v53:=Tryz.zeroValue312
 t57:=Tryz.underlying316
 a57:=Tryz.isAgg316
 z57:=Tryz.sizeOf316
 v57:=Tryz.zeroValue316
 t63:=Tryz.underlying320
 a63:=Tryz.isAgg320
 z63:=Tryz.sizeOf320
 v63:=Tryz.zeroValue320
 t64:=Tryz.underlying185
 a64:=Tryz.isAgg185
 z64:=Tryz.sizeOf185
 v64:=Tryz.zeroValue185}
theorem Xx (m:Nat):AnyZI.SortsIn Tryz.prog ya Fence.wide m:=
 ⟨λmq off cap ss W hH P3 jd=>callsIn_wide.2 (AnyM.slices_Sort_int Uz mq off cap ss W hH P3 jd),
  λp cap W=>callsIn_wide.2 (AnyM.slices_Sort_int_none Uz p cap W)⟩
theorem G0 (mb:Option Nat) (W:World):CallsIn Fence.wide 5 Tryz.prog 70 #[.map mb] W λe w'=>e= .returned (.func (.func 128) #[] #[.pointer (some ⟨W.heap.size,0,none⟩)])/\w'=W.alloc (.cells #[.map mb] 102):=
 AnyZI.keys_in Ux Fence.wide 5 trivial rfl mb W
theorem sN {H:Type} (b nn:Nat) (D0:DataW H) (R:Value->Option (DataW H × List MemPlace)) (w:World) (bt:w.ownsMap Tryz.prog 3 R b nn D0) (Ti:Maps.size D0<=maxLen) (B2:Maps.size D0*8<=140737488355328): CallsIn Fence.wide 5 Tryz.prog 69 #[.func (.func 128) #[] #[.pointer (some ⟨w.heap.size,0,none⟩)]] (w.alloc (.cells #[.map (some b)] 102)) λe w'=>∃ (v:Value) (ss:List Int),e= .returned v/\ss.Perm (intKeys D0)/\ w'.ownsRow (w.alloc (.cells #[.map (some b)] 102)).heap.size 3 1 v ss.length ((ss.mergeSort (λx y=>decide (x<=y))).map encZ)/\(v= .slice none 0 0↔ss=[])/\Below (w.alloc (.cells #[.map (some b)] 102)).heap.size (w.alloc (.cells #[.map (some b)] 102)) w':=by
 have kg:=bt.lt;have Tj:SeqGives Fence.wide 2 Tryz.prog 128 #[.pointer (some ⟨w.heap.size,0,none⟩)] encZ (λss=>ss.Perm (intKeys D0)) (Maps.size D0) (w.alloc (.cells #[.map (some b)] 102)):=
  AnyZI.keys_gives (ρ:=CJ) {Ux with} Fence.wide _ trivial rfl (by omega) w.heap.size b nn D0 _ (by simp) (by simp) (by obtain ⟨es,bD,hb,Ft,hs,hD⟩:=bt;exact ⟨es,bD,(Below.heap_alloc _ _ b kg).trans hb,Ft,hs,hD⟩)
 exact AnyZI.sorted_in Uy Fence.wide 5 trivial trivial trivial trivial rfl (by omega) (Xx _) (enters_of Tryz.func127 (by kernel_rfl) rfl) 128 #[.pointer (some ⟨w.heap.size,0,none⟩)] trivial (enters_of Tryz.func128 (by kernel_rfl) rfl) _ _ Ti B2 _ Tj

end Go.Proofs.YtlcnhpjggjgnpaaGreatDoor