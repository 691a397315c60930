/- A part of the proof. -/
import Derived.Test.YtlcnhpjggjgnpaaGreatDoorProg
import Derived.Shelf.Strings.Split
namespace Go.Proofs.YtlcnhpjggjgnpaaGreatDoor
open Go.RowKit Go.Shelf
def kY:Go.Shelf.Ren:=⟨fun | 146=>102 | 221=>150 | 268=>185 | 138=>186 | 143=>187 | 195=>210 | 197=>211 | 218=>212 | 219=>213 | 260=>231 | 217=>232 | 225=>233 | 224=>234 | 267=>235 | 266=>241 | 314=>242 | n=>n,fun | 9=>9 | 31=>150 | 3=>3 | 4=>4 | 0=>0 | 105=>304 | 21=>21 | 5=>5 | 46=>37 | 119=>322 | 139=>325 | 138=>324 | 146=>326 | 51=>204 | n=>n,fun | 1=>0 | 3=>1 | 4=>2 | n=>n⟩
theorem Qv:Go.Proofs.Lays.n146 Tryz.prog kY:={
 mixed:=by kernel_rfl
 f138:=Tryz.func186.trans (congrArg some (by kernel_rfl))
 f143:=Tryz.func187.trans (congrArg some (by kernel_rfl))
 f146:=Tryz.func102.trans (congrArg some (by kernel_rfl))
 f195:=Tryz.func210.trans (congrArg some (by kernel_rfl))
 f197:=Tryz.func211.trans (congrArg some (by kernel_rfl))
 f217:=Tryz.func232.trans (congrArg some (by kernel_rfl))
 f218:=Tryz.func212.trans (congrArg some (by kernel_rfl))
 f219:=Tryz.func213.trans (congrArg some (by kernel_rfl))
 f221:=Tryz.func150.trans (congrArg some (by kernel_rfl))
 f224:=Tryz.func234.trans (congrArg some (by kernel_rfl))
 f225:=Tryz.func233.trans (congrArg some (by kernel_rfl))
 f260:=Tryz.func231.trans (congrArg some (by kernel_rfl))
 f266:=Tryz.func241.trans (congrArg some (by kernel_rfl))
 f267:=Tryz.func235.trans (congrArg some (by kernel_rfl))
 f268:=Tryz.func185.trans (congrArg some (by kernel_rfl))
 f314:=Tryz.func242.trans (congrArg some (by kernel_rfl))
 t0:=Tryz.underlying0
 a0:=Tryz.isAgg0
 z0:=Tryz.sizeOf0
 v0:=Tryz.zeroValue0
 t3:=Tryz.underlying3
 a3:=Tryz.isAgg3
 z3:=Tryz.sizeOf3
 v3:=Tryz.zeroValue3
 t4:=Tryz.underlying4
 a4:=Tryz.isAgg4
 z4:=Tryz.sizeOf4
 v4:=Tryz.zeroValue4
 t5:=Tryz.underlying5
 a5:=Tryz.isAgg5
 z5:=Tryz.sizeOf5
 v5:=Tryz.zeroValue5
 t9:=Tryz.underlying9
 a9:=Tryz.isAgg9
 z9:=Tryz.sizeOf9
 v9:=Tryz.zeroValue9
 t21:=Tryz.underlying21
 a21:=Tryz.isAgg21
 z21:=Tryz.sizeOf21
 v21:=Tryz.zeroValue21
 t31:=Tryz.underlying150
 a31:=Tryz.isAgg150
 z31:=Tryz.sizeOf150
 v31:=Tryz.zeroValue150
 t46:=Tryz.underlying37
 a46:=Tryz.isAgg37
 z46:=Tryz.sizeOf37
 v46:=Tryz.zeroValue37
 t51:=Tryz.underlying204
 a51:=Tryz.isAgg204
 z51:=Tryz.sizeOf204
 v51:=Tryz.zeroValue204
 t105:=Tryz.underlying304
 a105:=Tryz.isAgg304
 z105:=Tryz.sizeOf304
 v105:=Tryz.zeroValue304
 t119:=Tryz.underlying322
 a119:=Tryz.isAgg322
 z119:=Tryz.sizeOf322
 t138:=Tryz.underlying324
 a138:=Tryz.isAgg324
 z138:=Tryz.sizeOf324
 v138:=Tryz.zeroValue324
 t139:=Tryz.underlying325
 a139:=Tryz.isAgg325
 z139:=Tryz.sizeOf325
 v139:=Tryz.zeroValue325
 t146:=Tryz.underlying326
 a146:=Tryz.isAgg326
 z146:=Tryz.sizeOf326
 v146:=Tryz.zeroValue326
 g1:=by kernel_rfl
 g3:=by kernel_rfl
 g4:=by kernel_rfl}
theorem JE:(Tryz.prog.info? (kY.t 9)).map (λi=>(i.zero,i.size,i.bytes))=some (some (.string ByteArray.empty),1,16):=by kernel_rfl
theorem ZU (s Vl:ByteArray) (m:Int) (w:World) (hs:s.size <4294967281) (hm:w.cell? ⟨(kY.g 1),0,none⟩=some (.int .i64 m)) (h1:1<=Vl.size): Calls Tryz.prog 102 #[.string s,.string Vl] w λe w'=>
   e= .returned (.slice (some ⟨w.heap.size,0,none⟩) (Lib.countB s Vl+1) (Lib.countB s Vl+1))/\w'=w.alloc (.cells ((Lib.splitB Vl 0 (Lib.countB s Vl) s).map Value.string).toArray 9):=
 Any.strings_Split Qv JE s Vl m w hs hm h1

end Go.Proofs.YtlcnhpjggjgnpaaGreatDoor