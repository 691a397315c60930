/- A part of the proof. -/
import Derived.Test.YtlcnhpjggjgnpaaGreatDoorProg
import Derived.Shelf.SlIter.Nil
import Derived.Shelf.SortM.Plain
import Derived.Shelf.SortM.SortNone
set_option maxHeartbeats 1000000
namespace Go.Proofs.YtlcnhpjggjgnpaaGreatDoor
open Go.RowKit Go.Maps Go.Sort Go.Shelf
def xB:Go.Shelf.Ren:=⟨fun | 7=>124 | 10=>165 | n=>n,fun | 23=>131 | 26=>9 | 3=>22 | 28=>228 | 0=>0 | 27=>227 | 33=>101 | 4=>4 | n=>n,fun | n=>n⟩
theorem JK:Go.Proofs.SlLaysZ.n7 Tryz.prog xB:={
 mixed:=by kernel_rfl
 f7:=⟨Tryz.f124.name,by decide,Tryz.func124.trans (congrArg some (by kernel_rfl))⟩
 f10:=⟨Tryz.f165.name,by decide,Tryz.func165.trans (congrArg some (by kernel_rfl))⟩
 t0:=Tryz.underlying0
 a0:=Tryz.isAgg0
 z0:=Tryz.sizeOf0
 v0:=Tryz.zeroValue0
 t4:=Tryz.underlying4
 a4:=Tryz.isAgg4
 z4:=Tryz.sizeOf4
 v4:=Tryz.zeroValue4
 t23:=Tryz.underlying131
 a23:=Tryz.isAgg131
 z23:=Tryz.sizeOf131
 v23:=Tryz.zeroValue131
 t26:=Tryz.underlying9
 a26:=Tryz.isAgg9
 z26:=Tryz.sizeOf9
 v26:=Tryz.zeroValue9
 t27:=Tryz.underlying227
 a27:=Tryz.isAgg227
 z27:=Tryz.sizeOf227
 v27:=Tryz.zeroValue227
 t28:=Tryz.underlying228
 a28:=Tryz.isAgg228
 z28:=Tryz.sizeOf228
 v28:=Tryz.zeroValue228
 t33:=Tryz.underlying101
 a33:=Tryz.isAgg101
 z33:=Tryz.sizeOf101
 v33:=Tryz.zeroValue101}
def tT:Go.Shelf.Ren:=⟨fun | 6=>123 | 8=>163 | 9=>164 | 11=>190 | 13=>168 | 12=>191 | 23=>201 | 24=>202 | 14=>215 | 15=>216 | 16=>217 | 17=>218 | 18=>219 | 19=>220 | 20=>221 | 21=>222 | 22=>223 | 25=>236 | 26=>225 | 27=>226 | 28=>237 | 29=>238 | 30=>239 | 31=>243 | n=>n,fun | 26=>9 | 28=>228 | 24=>150 | 0=>0 | 3=>3 | 37=>37 | 48=>204 | 50=>111 | 4=>4 | 40=>292 | 39=>291 | 45=>297 | 5=>5 | 9=>9 | 51=>312 | 55=>316 | 57=>320 | 58=>185 | 33=>101 | n=>n,fun | n=>n⟩
theorem B1:Go.Proofs.SlLaysZ.n6 Tryz.prog tT:={
 mixed:=by kernel_rfl
 f6:=⟨Tryz.f123.name,by decide,Tryz.func123.trans (congrArg some (by kernel_rfl))⟩
 f8:=⟨Tryz.f163.name,by decide,Tryz.func163.trans (congrArg some (by kernel_rfl))⟩
 f11:=⟨Tryz.f190.name,by decide,Tryz.func190.trans (congrArg some (by kernel_rfl))⟩
 t0:=Tryz.underlying0
 a0:=Tryz.isAgg0
 z0:=Tryz.sizeOf0
 v0:=Tryz.zeroValue0
 t24:=Tryz.underlying150
 a24:=Tryz.isAgg150
 z24:=Tryz.sizeOf150
 v24:=Tryz.zeroValue150
 t26:=Tryz.underlying9
 a26:=Tryz.isAgg9
 z26:=Tryz.sizeOf9
 v26:=Tryz.zeroValue9
 t28:=Tryz.underlying228
 a28:=Tryz.isAgg228
 z28:=Tryz.sizeOf228
 v28:=Tryz.zeroValue228
 i26:=by kernel_rfl}
def Gm:Go.Shelf.Ren:=⟨fun | 6=>164 | 8=>168 | 9=>191 | 19=>201 | 20=>202 | 21=>215 | 22=>216 | 23=>217 | 24=>218 | 25=>219 | 26=>220 | 27=>221 | 28=>222 | 29=>223 | 36=>236 | 31=>225 | 32=>226 | 37=>237 | 38=>238 | 39=>239 | 41=>243 | n=>n,fun | 27=>150 | 29=>9 | 3=>3 | 32=>37 | 26=>150 | 0=>0 | 44=>204 | 46=>111 | 4=>4 | 36=>292 | 35=>291 | 41=>297 | 5=>5 | 9=>9 | 53=>312 | 57=>316 | 63=>320 | 64=>185 | n=>n,fun | n=>n⟩
theorem JL:Go.Proofs.SlLaysM.n6 Tryz.prog Gm:={
 mixed:=by kernel_rfl
 f6:=⟨Tryz.f164.name,by decide,Tryz.func164.trans (congrArg some (by kernel_rfl))⟩
 f8:=Tryz.func168.trans (congrArg some (by kernel_rfl))
 f9:=⟨Tryz.f191.name,by decide,Tryz.func191.trans (congrArg some (by kernel_rfl))⟩
 f19:=Tryz.func201.trans (congrArg some (by kernel_rfl))
 f20:=Tryz.func202.trans (congrArg some (by kernel_rfl))
 f21:=⟨Tryz.f215.name,by decide,Tryz.func215.trans (congrArg some (by kernel_rfl))⟩
 f22:=⟨Tryz.f216.name,by decide,Tryz.func216.trans (congrArg some (by kernel_rfl))⟩
 f23:=⟨Tryz.f217.name,by decide,Tryz.func217.trans (congrArg some (by kernel_rfl))⟩
 f24:=⟨Tryz.f218.name,by decide,Tryz.func218.trans (congrArg some (by kernel_rfl))⟩
 f25:=⟨Tryz.f219.name,by decide,Tryz.func219.trans (congrArg some (by kernel_rfl))⟩
 f26:=⟨Tryz.f220.name,by decide,Tryz.func220.trans (congrArg some (by kernel_rfl))⟩
 f27:=⟨Tryz.f221.name,by decide,Tryz.func221.trans (congrArg some (by kernel_rfl))⟩
 f28:=⟨Tryz.f222.name,by decide,Tryz.func222.trans (congrArg some (by kernel_rfl))⟩
 f29:=⟨Tryz.f223.name,by decide,Tryz.func223.trans (congrArg some (by kernel_rfl))⟩
 f31:=Tryz.func225.trans (congrArg some (by kernel_rfl))
 f32:=Tryz.func226.trans (congrArg some (by kernel_rfl))
 f36:=⟨Tryz.f236.name,by decide,Tryz.func236.trans (congrArg some (by kernel_rfl))⟩
 f37:=⟨Tryz.f237.name,by decide,Tryz.func237.trans (congrArg some (by kernel_rfl))⟩
 f38:=⟨Tryz.f238.name,by decide,Tryz.func238.trans (congrArg some (by kernel_rfl))⟩
 f39:=⟨Tryz.f239.name,by decide,Tryz.func239.trans (congrArg some (by kernel_rfl))⟩
 f41:=⟨Tryz.f243.name,by decide,Tryz.func243.trans (congrArg some (by kernel_rfl))⟩
 t0:=Tryz.underlying0
 a0:=Tryz.isAgg0
 z0:=Tryz.sizeOf0
 v0:=Tryz.zeroValue0
 t3:=Tryz.underlying3
 a3:=Tryz.isAgg3
 z3:=Tryz.sizeOf3
 v3:=Tryz.zeroValue3
 t4:=Tryz.underlying4
 a4:=Tryz.isAgg4
 z4:=Tryz.sizeOf4
 v4:=Tryz.zeroValue4
 t5:=Tryz.underlying5
 a5:=Tryz.isAgg5
 z5:=Tryz.sizeOf5
 v5:=Tryz.zeroValue5
 t9:=Tryz.underlying9
 a9:=Tryz.isAgg9
 z9:=Tryz.sizeOf9
 v9:=Tryz.zeroValue9
 t26:=Tryz.underlying150
 a26:=Tryz.isAgg150
 z26:=Tryz.sizeOf150
 v26:=Tryz.zeroValue150
 t27:=Tryz.underlying150
 a27:=Tryz.isAgg150
 z27:=Tryz.sizeOf150
 v27:=Tryz.zeroValue150
 t29:=Tryz.underlying9
 a29:=Tryz.isAgg9
 z29:=Tryz.sizeOf9
 v29:=Tryz.zeroValue9
 t32:=Tryz.underlying37
 a32:=Tryz.isAgg37
 z32:=Tryz.sizeOf37
 v32:=Tryz.zeroValue37
 t35:=Tryz.underlying291
 a35:=Tryz.isAgg291
 z35:=Tryz.sizeOf291
 v35:=Tryz.zeroValue291
 t36:=Tryz.underlying292
 a36:=Tryz.isAgg292
 z36:=Tryz.sizeOf292
 v36:=Tryz.zeroValue292
 t41:=Tryz.underlying297
 a41:=Tryz.isAgg297
 z41:=Tryz.sizeOf297
 v41:=Tryz.zeroValue297
 t44:=Tryz.underlying204
 a44:=Tryz.isAgg204
 z44:=Tryz.sizeOf204
 v44:=Tryz.zeroValue204
 t46:=Tryz.underlying111
 a46:=Tryz.isAgg111
 z46:=Tryz.sizeOf111
 v46:=Tryz.zeroValue111
 t53:=Tryz.underlying312
 a53:=Tryz.isAgg312
 z53:=Tryz.sizeOf312
 v53:=Tryz.zeroValue312
 t57:=Tryz.underlying316
 a57:=Tryz.isAgg316
 z57:=Tryz.sizeOf316
 v57:=Tryz.zeroValue316
 t63:=Tryz.underlying320
 a63:=Tryz.isAgg320
 z63:=Tryz.sizeOf320
 v63:=Tryz.zeroValue320
 t64:=Tryz.underlying185
 a64:=Tryz.isAgg185
 z64:=Tryz.sizeOf185
 v64:=Tryz.zeroValue185}
def xC:Go.Shelf.Ren:=⟨fun | 7=>149 | 10=>184 | n=>n,fun | 23=>132 | 26=>9 | 3=>22 | 28=>228 | 0=>0 | 27=>227 | 33=>101 | 4=>4 | n=>n,fun | n=>n⟩
theorem JM:Go.Proofs.SlLaysZ.n7 Tryz.prog xC:={
 mixed:=by kernel_rfl
 f7:=⟨Tryz.f149.name,by decide,Tryz.func149.trans (congrArg some (by kernel_rfl))⟩
 f10:=⟨Tryz.f184.name,by decide,Tryz.func184.trans (congrArg some (by kernel_rfl))⟩
 t0:=Tryz.underlying0
 a0:=Tryz.isAgg0
 z0:=Tryz.sizeOf0
 v0:=Tryz.zeroValue0
 t4:=Tryz.underlying4
 a4:=Tryz.isAgg4
 z4:=Tryz.sizeOf4
 v4:=Tryz.zeroValue4
 t23:=Tryz.underlying132
 a23:=Tryz.isAgg132
 z23:=Tryz.sizeOf132
 v23:=Tryz.zeroValue132
 t26:=Tryz.underlying9
 a26:=Tryz.isAgg9
 z26:=Tryz.sizeOf9
 v26:=Tryz.zeroValue9
 t27:=Tryz.underlying227
 a27:=Tryz.isAgg227
 z27:=Tryz.sizeOf227
 v27:=Tryz.zeroValue227
 t28:=Tryz.underlying228
 a28:=Tryz.isAgg228
 z28:=Tryz.sizeOf228
 v28:=Tryz.zeroValue228
 t33:=Tryz.underlying101
 a33:=Tryz.isAgg101
 z33:=Tryz.sizeOf101
 v33:=Tryz.zeroValue101}
theorem EV (m:Nat):AnyZ.SortsIn Tryz.prog tT Fence.wide m:=
 ⟨λmq off cap ss W hH P3 jd=>callsIn_wide.2 (AnyM.slices_Sort_string JL mq off cap ss W hH P3 jd),
  λp cap W=>callsIn_wide.2 (AnyM.slices_Sort_string_none JL p cap W)⟩
theorem Gn (mb:Option Nat) (W:World):CallsIn Fence.wide 5 Tryz.prog 124 #[.map mb] W λe w'=>e= .returned (.func (.func 165) #[] #[.pointer (some ⟨W.heap.size,0,none⟩)])/\w'=W.alloc (.cells #[.map mb] 131):=
 AnyZ.keys_in JK Fence.wide 5 trivial rfl mb W
theorem sI {H:Type} (b nn:Nat) (D0:DataW H) (R:Value->Option (DataW H × List MemPlace)) (w:World) (bt:w.ownsMap Tryz.prog 9 R b nn D0) (Ti:Maps.size D0<=maxLen) (B2:Maps.size D0*16<=140737488355328): CallsIn Fence.wide 5 Tryz.prog 123 #[.func (.func 165) #[] #[.pointer (some ⟨w.heap.size,0,none⟩)]] (w.alloc (.cells #[.map (some b)] 131)) λe w'=>∃ (v:Value) (ss:List (List UInt8)),e= .returned v/\ss.Perm (strKeys D0)/\ w'.ownsRow (w.alloc (.cells #[.map (some b)] 131)).heap.size 9 1 v ss.length ((ss.mergeSort (λx y=>decide (x<=y))).map encStr)/\(v= .slice none 0 0↔ss=[])/\Below (w.alloc (.cells #[.map (some b)] 131)).heap.size (w.alloc (.cells #[.map (some b)] 131)) w':=by
 have kg:=bt.lt;have Tj:SeqGives Fence.wide 2 Tryz.prog 165 #[.pointer (some ⟨w.heap.size,0,none⟩)] encStr (λss=>ss.Perm (strKeys D0)) (Maps.size D0) (w.alloc (.cells #[.map (some b)] 131)):=
  AnyZ.keys_gives (ρ:=xB) {JK with} Fence.wide _ trivial rfl (by omega) w.heap.size b nn D0 _ (by simp) (by simp) (by obtain ⟨es,bD,hb,Ft,hs,hD⟩:=bt;exact ⟨es,bD,(Below.heap_alloc _ _ b kg).trans hb,Ft,hs,hD⟩)
 exact AnyZ.sorted_in B1 Fence.wide 5 trivial trivial trivial trivial rfl (by omega) (EV _) (enters_of Tryz.func164 (by kernel_rfl) rfl) 165 #[.pointer (some ⟨w.heap.size,0,none⟩)] trivial (enters_of Tryz.func165 (by kernel_rfl) rfl) _ _ Ti B2 _ Tj
theorem Gp (mb:Option Nat) (W:World):CallsIn Fence.wide 5 Tryz.prog 149 #[.map mb] W λe w'=>e= .returned (.func (.func 184) #[] #[.pointer (some ⟨W.heap.size,0,none⟩)])/\w'=W.alloc (.cells #[.map mb] 132):=
 AnyZ.keys_in JM Fence.wide 5 trivial rfl mb W
theorem sJ {H:Type} (b nn:Nat) (D0:DataW H) (R:Value->Option (DataW H × List MemPlace)) (w:World) (bt:w.ownsMap Tryz.prog 9 R b nn D0) (Ti:Maps.size D0<=maxLen) (B2:Maps.size D0*16<=140737488355328): CallsIn Fence.wide 5 Tryz.prog 123 #[.func (.func 184) #[] #[.pointer (some ⟨w.heap.size,0,none⟩)]] (w.alloc (.cells #[.map (some b)] 132)) λe w'=>∃ (v:Value) (ss:List (List UInt8)),e= .returned v/\ss.Perm (strKeys D0)/\ w'.ownsRow (w.alloc (.cells #[.map (some b)] 132)).heap.size 9 1 v ss.length ((ss.mergeSort (λx y=>decide (x<=y))).map encStr)/\(v= .slice none 0 0↔ss=[])/\Below (w.alloc (.cells #[.map (some b)] 132)).heap.size (w.alloc (.cells #[.map (some b)] 132)) w':=by
 have kg:=bt.lt;have Tj:SeqGives Fence.wide 2 Tryz.prog 184 #[.pointer (some ⟨w.heap.size,0,none⟩)] encStr (λss=>ss.Perm (strKeys D0)) (Maps.size D0) (w.alloc (.cells #[.map (some b)] 132)):=
  AnyZ.keys_gives (ρ:=xC) {JM with} Fence.wide _ trivial rfl (by omega) w.heap.size b nn D0 _ (by simp) (by simp) (by obtain ⟨es,bD,hb,Ft,hs,hD⟩:=bt;exact ⟨es,bD,(Below.heap_alloc _ _ b kg).trans hb,Ft,hs,hD⟩)
 exact AnyZ.sorted_in B1 Fence.wide 5 trivial trivial trivial trivial rfl (by omega) (EV _) (enters_of Tryz.func164 (by kernel_rfl) rfl) 184 #[.pointer (some ⟨w.heap.size,0,none⟩)] trivial (enters_of Tryz.func184 (by kernel_rfl) rfl) _ _ Ti B2 _ Tj

end Go.Proofs.YtlcnhpjggjgnpaaGreatDoor