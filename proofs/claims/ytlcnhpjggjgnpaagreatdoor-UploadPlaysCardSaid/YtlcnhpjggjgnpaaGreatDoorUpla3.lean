/- A part of the proof. -/
import Derived.Test.YtlcnhpjggjgnpaaGreatDoorUpla2
set_option linter.unusedSimpArgs false
set_option linter.unusedVariables false
set_option maxRecDepth 100000
set_option maxHeartbeats 2000000
namespace Go.Proofs.YtlcnhpjggjgnpaaGreatDoor
open Go.RowKit Go.MapKept
def pH (m:DM) (c:Ch):Int:=
 if c.kind=0 then (if bU c.a then (if dr m.aN c.a <0 then (if (4096:Int)<=(m.aN.length:Int) then 4 else 0) else 7) else 1)
 else if dr m.aN c.a <0 then 6
 else if c.kind=1 then (if (1048576:Int) <(c.p.length:Int) then 8 else if m.aR - (used m.aN:Int) <(c.p.length:Int) then 4 else 0)
 else if c.kind=3 then (if bU c.b then 0 else 1) else 0
theorem I4 {F:Nat->Prop} {w:World} {r:Nat} {vn vs vl:Value} {m:DM} (h:eP F w r vn vs vl m) (x y:aD) (pv:Value) (hl:m.aN.length <549755813888): bF 130 #[.pointer (some ⟨r,0,none⟩),.agg #[.int .i64 0,.string x,.string y,pv]] w (bH w (.int .i64 (if bU x then (if dr m.aN x <0 then (if (4096:Int)<=(m.aN.length:Int) then 4 else 0) else 7) else 1))):=by
 obtain ⟨w1,fh⟩:=cE (w.alloc (.cells #[.int .i64 0,.string x,.string y,pv] 176));have bN:ak w w1:=by rw [fh];exact (ah.refl _ w).alloc _
 have kB:w1.heap[w.heap.size]?=some (.cells #[.int .i64 0,.string x,.string y,pv] 176 (0,0)):=by rw [fh];exact heap_alloc_new _ _
 have h1:=(h.quiet bN (G:=F) (λ_ h _=>h) (λb hb=>by have:=h.lt b hb;have:=bN.size;omega)).keep (w':=w1.drew) (λ_ _=>rfl);obtain ⟨na,nc,rfl,sy,qf⟩:=h1.aN.aG;have c1:w1.cell? ⟨r,1,none⟩=some (.slice na m.aN.length nc):=h1.cells.c1;have c0:w1.cell? ⟨r,0,none⟩=some (.int .i64 m.aR):=h1.cells.c0;have b0:w1.cell? ⟨w.heap.size,0,none⟩=some (.int .i64 0):=ag kB rfl;have b1:w1.cell? ⟨w.heap.size,1,none⟩=some (.string x):=ag kB rfl;have b2:w1.cell? ⟨w.heap.size,2,none⟩=some (.string y):=ag kB rfl;have b3:w1.cell? ⟨w.heap.size,3,none⟩=some (pv):=ag kB rfl;have d0:w1.drew.cell? ⟨w.heap.size,0,none⟩=some (.int .i64 0):=b0;have d1:w1.drew.cell? ⟨w.heap.size,1,none⟩=some (.string x):=b1;have dc1:w1.drew.cell? ⟨r,1,none⟩=some (.slice na m.aN.length nc):=c1;have zH:=jk h1.aN x (by omega);have VX:=lZ x w1.drew;generalize m.aN.length=len at*;have po:=Sw m.aN x;generalize dr m.aN x=fi at*;have HK:=ae bN;generalize bU x=nx at*;generalize bU y=ny at*;clear h bN kB h1;cases nx
 ·simp only [nP,if_false];go_enter Tryz.func130,Tryz.ntmps130;go_wp2_with fail;rw [<-fh];clear fh;go_region_held3 (λw'=>w'.cell? ⟨w.heap.size,1,none⟩=some (.string x)/\w'.cell? ⟨r,1,none⟩=some (.slice na len nc)) (first | exact ⟨b1,c1⟩ | go_keep) (first | (go_at_call 79;refine zH.Z.mono ?_;rintro e w' ⟨rfl,rfl⟩));go_wp2_with (go_at_call 169;refine VX.Z.mono ?_;rintro e w' ⟨rfl,rfl⟩);go_ret;exact ⟨rfl,HK.Z.drew⟩
 ·simp only [if_true];by_cases fb:fi <0
  ·rw [if_pos fb];by_cases h4:(4096:Int)<=(len:Int)
   ·rw [if_pos h4];go_enter Tryz.func130,Tryz.ntmps130;go_wp2_with fail;rw [<-fh];clear fh;go_region_held3 (λw'=>w'.cell? ⟨w.heap.size,1,none⟩=some (.string x)/\w'.cell? ⟨r,1,none⟩=some (.slice na len nc)) (first | exact ⟨b1,c1⟩ | go_keep) (first | (go_at_call 79;refine zH.Z.mono ?_;rintro e w' ⟨rfl,rfl⟩));go_wp2_with (go_at_call 169;refine VX.Z.mono ?_;rintro e w' ⟨rfl,rfl⟩);go_ret;exact ⟨rfl,HK.Z.drew⟩
   ·rw [if_neg h4];go_enter Tryz.func130,Tryz.ntmps130;go_wp2_with fail;rw [<-fh];clear fh;go_region_held3 (λw'=>w'.cell? ⟨w.heap.size,1,none⟩=some (.string x)/\w'.cell? ⟨r,1,none⟩=some (.slice na len nc)) (first | exact ⟨b1,c1⟩ | go_keep) (first | (go_at_call 79;refine zH.Z.mono ?_;rintro e w' ⟨rfl,rfl⟩));go_wp2_with (go_at_call 169;refine VX.Z.mono ?_;rintro e w' ⟨rfl,rfl⟩);go_ret;exact ⟨rfl,HK.Z.drew⟩
  ·rw [if_neg fb];go_enter Tryz.func130,Tryz.ntmps130;go_wp2_with fail;rw [<-fh];clear fh;go_region_held3 (λw'=>w'.cell? ⟨w.heap.size,1,none⟩=some (.string x)/\w'.cell? ⟨r,1,none⟩=some (.slice na len nc)) (first | exact ⟨b1,c1⟩ | go_keep) (first | (go_at_call 79;refine zH.Z.mono ?_;rintro e w' ⟨rfl,rfl⟩));go_wp2_with (go_at_call 169;refine VX.Z.mono ?_;rintro e w' ⟨rfl,rfl⟩);go_ret;exact ⟨rfl,HK.Z.drew⟩
theorem I5 {F:Nat->Prop} {w:World} {r:Nat} {vn vs vl:Value} {m:DM} (h:eP F w r vn vs vl m) (x y:aD) (pv:Value) (hl:m.aN.length <549755813888): bF 130 #[.pointer (some ⟨r,0,none⟩),.agg #[.int .i64 2,.string x,.string y,pv]] w (bH w (.int .i64 (if dr m.aN x <0 then 6 else 0))):=by
 obtain ⟨w1,fh⟩:=cE (w.alloc (.cells #[.int .i64 2,.string x,.string y,pv] 176));have bN:ak w w1:=by rw [fh];exact (ah.refl _ w).alloc _
 have kB:w1.heap[w.heap.size]?=some (.cells #[.int .i64 2,.string x,.string y,pv] 176 (0,0)):=by rw [fh];exact heap_alloc_new _ _
 have h1:=(h.quiet bN (G:=F) (λ_ h _=>h) (λb hb=>by have:=h.lt b hb;have:=bN.size;omega)).keep (w':=w1.drew) (λ_ _=>rfl);obtain ⟨na,nc,rfl,sy,qf⟩:=h1.aN.aG;have c1:w1.cell? ⟨r,1,none⟩=some (.slice na m.aN.length nc):=h1.cells.c1;have c0:w1.cell? ⟨r,0,none⟩=some (.int .i64 m.aR):=h1.cells.c0;have b0:w1.cell? ⟨w.heap.size,0,none⟩=some (.int .i64 2):=ag kB rfl;have b1:w1.cell? ⟨w.heap.size,1,none⟩=some (.string x):=ag kB rfl;have b2:w1.cell? ⟨w.heap.size,2,none⟩=some (.string y):=ag kB rfl;have b3:w1.cell? ⟨w.heap.size,3,none⟩=some (pv):=ag kB rfl;have d0:w1.drew.cell? ⟨w.heap.size,0,none⟩=some (.int .i64 2):=b0;have zH:=jk h1.aN x (by omega);generalize m.aN.length=len at*;generalize dr m.aN x=fi at*;have HK:=ae bN;generalize bU x=nx at*;generalize bU y=ny at*;clear h bN kB h1;by_cases fb:fi <0
 ·rw [if_pos fb];go_enter Tryz.func130,Tryz.ntmps130;go_wp2_with fail;rw [<-fh];clear fh;go_region_held3 (λw'=>w'.cell? ⟨w.heap.size,1,none⟩=some (.string x)/\w'.cell? ⟨r,1,none⟩=some (.slice na len nc)) (first | exact ⟨b1,c1⟩ | go_keep) (first | (go_at_call 79;refine zH.Z.mono ?_;rintro e w' ⟨rfl,rfl⟩));go_wp2;go_ret;exact ⟨rfl,HK.Z.drew⟩
 ·rw [if_neg fb];go_enter Tryz.func130,Tryz.ntmps130;go_wp2_with fail;rw [<-fh];clear fh;go_region_held3 (λw'=>w'.cell? ⟨w.heap.size,1,none⟩=some (.string x)/\w'.cell? ⟨r,1,none⟩=some (.slice na len nc)) (first | exact ⟨b1,c1⟩ | go_keep) (first | (go_at_call 79;refine zH.Z.mono ?_;rintro e w' ⟨rfl,rfl⟩));go_wp2;go_ret;exact ⟨rfl,HK.Z.drew⟩
theorem I6 {F:Nat->Prop} {w:World} {r:Nat} {vn vs vl:Value} {m:DM} (h:eP F w r vn vs vl m) (x y:aD) (pv:Value) (hl:m.aN.length <549755813888): bF 130 #[.pointer (some ⟨r,0,none⟩),.agg #[.int .i64 3,.string x,.string y,pv]] w (bH w (.int .i64 (if dr m.aN x <0 then 6 else if bU y then 0 else 1))):=by
 obtain ⟨w1,fh⟩:=cE (w.alloc (.cells #[.int .i64 3,.string x,.string y,pv] 176));have bN:ak w w1:=by rw [fh];exact (ah.refl _ w).alloc _
 have kB:w1.heap[w.heap.size]?=some (.cells #[.int .i64 3,.string x,.string y,pv] 176 (0,0)):=by rw [fh];exact heap_alloc_new _ _
 have h1:=(h.quiet bN (G:=F) (λ_ h _=>h) (λb hb=>by have:=h.lt b hb;have:=bN.size;omega)).keep (w':=w1.drew) (λ_ _=>rfl);obtain ⟨na,nc,rfl,sy,qf⟩:=h1.aN.aG;have c1:w1.cell? ⟨r,1,none⟩=some (.slice na m.aN.length nc):=h1.cells.c1;have c0:w1.cell? ⟨r,0,none⟩=some (.int .i64 m.aR):=h1.cells.c0;have b0:w1.cell? ⟨w.heap.size,0,none⟩=some (.int .i64 3):=ag kB rfl;have b1:w1.cell? ⟨w.heap.size,1,none⟩=some (.string x):=ag kB rfl;have b2:w1.cell? ⟨w.heap.size,2,none⟩=some (.string y):=ag kB rfl;have b3:w1.cell? ⟨w.heap.size,3,none⟩=some (pv):=ag kB rfl;have d0:w1.drew.cell? ⟨w.heap.size,0,none⟩=some (.int .i64 3):=b0;have d2:w1.drew.cell? ⟨w.heap.size,2,none⟩=some (.string y):=b2;have zH:=jk h1.aN x (by omega);have aa7:=lZ y w1.drew;generalize m.aN.length=len at*;generalize dr m.aN x=fi at*;have HK:=ae bN;generalize bU x=nx at*;generalize bU y=ny at*;clear h bN kB h1;by_cases fb:fi <0
 ·rw [if_pos fb];go_enter Tryz.func130,Tryz.ntmps130;go_wp2_with fail;rw [<-fh];clear fh;go_region_held3 (λw'=>w'.cell? ⟨w.heap.size,1,none⟩=some (.string x)/\w'.cell? ⟨r,1,none⟩=some (.slice na len nc)) (first | exact ⟨b1,c1⟩ | go_keep) (first | (go_at_call 79;refine zH.Z.mono ?_;rintro e w' ⟨rfl,rfl⟩));go_wp2;go_ret;exact ⟨rfl,HK.Z.drew⟩
 ·rw [if_neg fb];cases ny
  ·simp only [nP,if_false];go_enter Tryz.func130,Tryz.ntmps130;go_wp2_with fail;rw [<-fh];clear fh;go_region_held3 (λw'=>w'.cell? ⟨w.heap.size,1,none⟩=some (.string x)/\w'.cell? ⟨r,1,none⟩=some (.slice na len nc)) (first | exact ⟨b1,c1⟩ | go_keep) (first | (go_at_call 79;refine zH.Z.mono ?_;rintro e w' ⟨rfl,rfl⟩));go_wp2_with (go_at_call 169;refine aa7.Z.mono ?_;rintro e w' ⟨rfl,rfl⟩);go_ret;exact ⟨rfl,HK.Z.drew⟩
  ·simp only [if_true];go_enter Tryz.func130,Tryz.ntmps130;go_wp2_with fail;rw [<-fh];clear fh;go_region_held3 (λw'=>w'.cell? ⟨w.heap.size,1,none⟩=some (.string x)/\w'.cell? ⟨r,1,none⟩=some (.slice na len nc)) (first | exact ⟨b1,c1⟩ | go_keep) (first | (go_at_call 79;refine zH.Z.mono ?_;rintro e w' ⟨rfl,rfl⟩));go_wp2_with (go_at_call 169;refine aa7.Z.mono ?_;rintro e w' ⟨rfl,rfl⟩);go_ret;exact ⟨rfl,HK.Z.drew⟩
theorem I7 {F:Nat->Prop} {w:World} {r:Nat} {vn vs vl:Value} {m:DM} (h:eP F w r vn vs vl m) (x y:aD) (pa:Option Addr) (p:aH) (pc:Nat) (hl:m.aN.length <549755813888) (hu:used m.aN<=4611686018427387904) (AX:0<=m.aR) (bM:m.aR<=67108864): bF 130 #[.pointer (some ⟨r,0,none⟩),.agg #[.int .i64 1,.string x,.string y,.slice pa p.length pc]] w (bH w (.int .i64 (if dr m.aN x <0 then 6 else if (1048576:Int) <(p.length:Int) then 8 else if m.aR - (used m.aN:Int) <(p.length:Int) then 4 else 0))):=by
 obtain ⟨w1,fh⟩:=cE (w.alloc (.cells #[.int .i64 1,.string x,.string y,.slice pa p.length pc] 176));have bN:ak w w1:=by rw [fh];exact (ah.refl _ w).alloc _
 have kB:w1.heap[w.heap.size]?=some (.cells #[.int .i64 1,.string x,.string y,.slice pa p.length pc] 176 (0,0)):=by rw [fh];exact heap_alloc_new _ _
 have h1:=(h.quiet bN (G:=F) (λ_ h _=>h) (λb hb=>by have:=h.lt b hb;have:=bN.size;omega)).keep (w':=w1.drew) (λ_ _=>rfl);obtain ⟨na,nc,rfl,sy,qf⟩:=h1.aN.aG;have c1:w1.cell? ⟨r,1,none⟩=some (.slice na m.aN.length nc):=h1.cells.c1;have c0:w1.cell? ⟨r,0,none⟩=some (.int .i64 m.aR):=h1.cells.c0;have b0:w1.cell? ⟨w.heap.size,0,none⟩=some (.int .i64 1):=ag kB rfl;have b1:w1.cell? ⟨w.heap.size,1,none⟩=some (.string x):=ag kB rfl;have b2:w1.cell? ⟨w.heap.size,2,none⟩=some (.string y):=ag kB rfl;have b3:w1.cell? ⟨w.heap.size,3,none⟩=some (.slice pa p.length pc):=ag kB rfl;have d0:w1.drew.cell? ⟨w.heap.size,0,none⟩=some (.int .i64 1):=b0;have d3:w1.drew.cell? ⟨w.heap.size,3,none⟩=some (.slice pa p.length pc):=b3;have zH:=jk h1.aN x (by omega);have hus:=BF (h1.aN.same (w':=w1.drew.drew) (λ_ _=>rfl)) (by omega) hu;have e0:w1.drew.drew.cell? ⟨r,0,none⟩=some (.int .i64 m.aR):=c0;have e1:w1.drew.drew.cell? ⟨r,1,none⟩=some (.slice na m.aN.length nc):=c1;have e3:w1.drew.drew.cell? ⟨w.heap.size,3,none⟩=some (.slice pa p.length pc):=b3;have u1:(used m.aN:Int)<=4611686018427387904:=by omega
 generalize used m.aN=us at*;generalize m.aR=rm at*;generalize m.aN.length=len at*;generalize dr m.aN x=fi at*;have HK:=ae bN;generalize bU x=nx at*;generalize bU y=ny at*;clear h bN kB h1 hu;by_cases fb:fi <0
 ·rw [if_pos fb];go_enter Tryz.func130,Tryz.ntmps130;go_wp2_with fail;rw [<-fh];clear fh;go_region_held3 (λw'=>w'.cell? ⟨w.heap.size,1,none⟩=some (.string x)/\w'.cell? ⟨r,1,none⟩=some (.slice na len nc)) (first | exact ⟨b1,c1⟩ | go_keep) (first | (go_at_call 79;refine zH.Z.mono ?_;rintro e w' ⟨rfl,rfl⟩));go_wp2;go_ret;exact ⟨rfl,HK.Z.drew⟩
 ·rw [if_neg fb];by_cases Ef:(1048576:Int) <(p.length:Int)
  ·rw [if_pos Ef];go_enter Tryz.func130,Tryz.ntmps130;go_wp2_with fail;rw [<-fh];clear fh;go_region_held3 (λw'=>w'.cell? ⟨w.heap.size,1,none⟩=some (.string x)/\w'.cell? ⟨r,1,none⟩=some (.slice na len nc)) (first | exact ⟨b1,c1⟩ | go_keep) (first | (go_at_call 79;refine zH.Z.mono ?_;rintro e w' ⟨rfl,rfl⟩));go_wp2;go_ret;exact ⟨rfl,HK.Z.drew⟩
  ·rw [if_neg Ef];have aaT:IntKind.i64.wrap (rm - (us:Int))=rm - (us:Int):=qi _ (by omega);by_cases Ij:rm - (us:Int) <(p.length:Int)
   ·rw [if_pos Ij];go_enter Tryz.func130,Tryz.ntmps130;go_wp2_with fail;rw [<-fh];clear fh;go_region_held3 (λw'=>w'.cell? ⟨w.heap.size,1,none⟩=some (.string x)/\w'.cell? ⟨r,1,none⟩=some (.slice na len nc)) (first | exact ⟨b1,c1⟩ | go_keep) (first | (go_at_call 79;refine zH.Z.mono ?_;rintro e w' ⟨rfl,rfl⟩));go_wp2_with fail;go_region_held3 (λw'=>w'.cell? ⟨w.heap.size,3,none⟩=some (.slice pa p.length pc)/\w'.cell? ⟨r,0,none⟩=some (.int .i64 rm)/\w'.cell? ⟨r,1,none⟩=some (.slice na len nc)) (first | exact ⟨e3,e0,e1⟩ | go_keep) (first | (go_at_call 97;refine hus.Z.mono ?_;rintro e w' ⟨rfl,rfl⟩));go_wp2;go_ret;exact ⟨rfl,HK.Z.drew.drew⟩
   ·rw [if_neg Ij];go_enter Tryz.func130,Tryz.ntmps130;go_wp2_with fail;rw [<-fh];clear fh;go_region_held3 (λw'=>w'.cell? ⟨w.heap.size,1,none⟩=some (.string x)/\w'.cell? ⟨r,1,none⟩=some (.slice na len nc)) (first | exact ⟨b1,c1⟩ | go_keep) (first | (go_at_call 79;refine zH.Z.mono ?_;rintro e w' ⟨rfl,rfl⟩));go_wp2_with fail;go_region_held3 (λw'=>w'.cell? ⟨w.heap.size,3,none⟩=some (.slice pa p.length pc)/\w'.cell? ⟨r,0,none⟩=some (.int .i64 rm)/\w'.cell? ⟨r,1,none⟩=some (.slice na len nc)) (first | exact ⟨e3,e0,e1⟩ | go_keep) (first | (go_at_call 97;refine hus.Z.mono ?_;rintro e w' ⟨rfl,rfl⟩));go_wp2;go_ret;exact ⟨rfl,HK.Z.drew.drew⟩
theorem Mb {F:Nat->Prop} {w:World} {r:Nat} {vn vs vl:Value} {m:DM} (h:eP F w r vn vs vl m) (c:Ch) (hk:0<=c.kind/\c.kind<=3) {pv:Value} (hp:∃ a k,pv= .slice a c.p.length k) (hl:m.aN.length <549755813888) (hu:used m.aN<=4611686018427387904) (AX:0<=m.aR) (bM:m.aR<=67108864): bF 130 #[.pointer (some ⟨r,0,none⟩),.agg #[.int .i64 c.kind,.string c.a,.string c.b,pv]] w (bH w (.int .i64 (pH m c))):=by
 obtain ⟨pa,pc,rfl⟩:=hp;obtain ⟨k,x,y,p⟩:=c;simp only at*;have:k=0\/k=1\/k=2\/k=3:=by omega
 unfold pH;rcases this with rfl | rfl | rfl | rfl
 ·exact I4 h x y _ hl
 ·exact I7 h x y pa p pc hl hu AX bM
 ·exact I5 h x y _ hl
 ·exact I6 h x y _ hl
theorem Ez {m:DM} {c:Ch} (hk:0<=c.kind/\c.kind<=3) (h:pH m c=0):Zk m.aN c:=by
 have hn:=Ew m.aN c.a;unfold pH at h;refine ⟨hk,λh0=> ?_,λh0=> ?_⟩
 ·rw [if_pos h0] at h;split at h
  ·split at h
   ·rename_i h2;exact hn ▸ h2
   ·cases h
  ·cases h
 ·rw [if_neg h0] at h;split at h
  ·cases h
  ·rename_i h2;rw [hn] at h2;cases hg:aZ m.aN c.a with
   | none=>exact absurd hg h2
   | some _=>rfl
def iz (m:DM) (c:Ch):Int × DM:=if m.bh then (5,m) else if pH m c=0 then dB m c else (pH m c,m)
theorem eN (fs:FS) (n:aD):(aZ fs n).isSome=!decide (dr fs n <0):=by
 have:=Ew fs n;cases hg:aZ fs n with
 | none=>rw [hg] at this;simp [this]
 | some x=>rw [hg] at this;simp [this]
theorem ki (m:DM) (n:aD):iz m ⟨0,n,⟨#[]⟩,[]⟩=aO m n:=by
 unfold iz aO pH;rw [eN];cases m.bh with
 | true=>rfl
 | false=>
  cases bU n with
  | false=>rfl
  | true=>
   by_cases h1:dr m.aN n <0
   ·by_cases h2:(4096:Int)<=(m.aN.length:Int)
    ·simp [h1,h2]
    ·simp [h1,h2]
   ·simp [h1]
theorem kj (m:DM) (n:aD) (p:aH):iz m ⟨1,n,⟨#[]⟩,p⟩=aM m n p:=by
 unfold iz aM pH aF;rw [eN];cases m.bh with
 | true=>simp
 | false=>
  by_cases h1:dr m.aN n <0
  ·simp [h1]
  ·by_cases h2:(1048576:Int) <(p.length:Int)
   ·simp [h1,h2]
   ·by_cases h3:m.aR - (used m.aN:Int) <(p.length:Int)
    ·simp [h1,h2,h3]
    ·simp [h1,h2,h3]
theorem gb (m:DM) (n:aD):iz m ⟨2,n,⟨#[]⟩,[]⟩=aE m n:=by
 unfold iz aE pH aF;rw [eN];cases m.bh with
 | true=>simp
 | false=>
  by_cases h1:dr m.aN n <0
  ·simp [h1]
  ·simp [h1]
theorem lD (m:DM) (n k:aD):iz m ⟨3,n,k,[]⟩=bw m n k:=by
 unfold iz bw pH aF;rw [eN];cases m.bh with
 | true=>simp
 | false=>
  by_cases h1:dr m.aN n <0
  ·simp [h1]
  ·cases bU k <;>simp [h1]
theorem FX:(Tryz.prog.info? 176).map (λi=>(i.zero,i.size,i.bytes))=some (some (.agg #[.int .i64 0,.string ⟨#[]⟩,.string ⟨#[]⟩,.slice none 0 0]),4,64):=by kernel_rfl
theorem fZ.push {F:Nat->Prop} {w:World} {v p:Value} {cs:List Ch} {c:Ch} (h:fZ F w v cs) (hF:∀ b,F b->b <w.heap.size) (hp:bQ F w p c.p) (hb:cs.length <1099511627776): ∃ a k w',(Builtin.append_ #[170,170] 170 #[v,.slice (some ⟨w.heap.size,0,none⟩) 1 1]).run Tryz.prog (w.alloc (.cells #[.int .i64 c.kind,.string c.a,.string c.b,p] 176))= .ok (.slice a (cs.length+1) k) w'/\fZ (fX F w w') w' (.slice a (cs.length+1) k) (cs++[c])/\ ah (λb=>v.ownBlock=some b) w w'/\∀ b,v.ownBlock=some b->F b/\∃ gp,w.heap[b]?=some (.cells gp 176 (0,0)):=by
 obtain ⟨ps,h1,h2,h3⟩:=h;obtain ⟨i0,hi,rS,iH,jO⟩:=info_parts FX;have qT:p.oneCell'=true:=by obtain ⟨a,c,rfl,_⟩:=hp.aG;rfl
 obtain ⟨v',w',aT,dy,hg,_,jP⟩:=run_append_own_at (P:=Tryz.prog) (w.alloc (.cells #[.int .i64 c.kind,.string c.a,.string c.b,p] 176)) 0 170 170 176 i0 _ 4 64 Tryz.underlying170 hi rS iH jO rfl (by omega) v cs.length (fF ps cs) (h2.alloc _) ⟨w.heap.size,0,none⟩ 1 1 [.int .i64 c.kind,.string c.a,.string c.b,p] rfl
  (λj u hu=>by rw [iV,fw];exact ag (heap_alloc_new w _) (by simpa using hu))
  (by intro u hu;simp at hu;rcases hu with rfl | rfl | rfl | rfl;rfl;rfl;rfl;exact qT) (by unfold maxLen;omega) (by omega) (fC _)
 obtain ⟨a,k,rfl⟩:=bA dy;have hk:ah (λb=>v.ownBlock=some b) w w':=((ah.refl _ w).alloc _).trans (ah.fH hg) (λ_ _ h=>h);have X0:∀ b,v.ownBlock=some b->∃ gp,w.heap[b]?=some (.cells gp 176 (0,0)):=λb hb=>dp h2 hb;have AV:aP F w w':=aP.jY hk (λg cs fz hg he hb=>by obtain ⟨gp,hc⟩:=X0 g he;rw [hc] at hb;simp at hb);refine ⟨a,k,w',aT,⟨ps++[p], ?_, ?_,λb hb=> ?_⟩,hk,λb hb=>⟨h3 b hb,X0 b hb⟩⟩
 ·exact (h1.mono (λq f hq=>hq.keep AV (λ_ h _=> .inl h))).append ⟨hp.keep AV (λ_ h _=> .inl h),trivial⟩
 ·rw [qY _ _ _ _ h1.length,fS];exact dy
 ·have pn:=dy.lt b hb;rcases jP with jP | jP
  ·rw [jP] at hb;exact .inl (h3 b hb)
  ·rw [jP] at hb;simp at hb;subst hb;exact .inr ⟨by omega,pn.2⟩
theorem jn {ops:Array Oper} {o:Oper} {a:Act} {X E:Prop} (hg:o.guard=none) (h:X):if Region.wanted o (yielded ops a.tmps)=true then X else E:=by rw [if_pos (by simp [Region.wanted,hg])];exact h
def jo (w w':World):Prop:=∀ (b:Nat) (gp:Array Value),w.heap[b]?=some (.cells gp 184 (0,0))->w'.heap[b]?=w.heap[b]?
theorem ah.files {w w':World} (h:ak w w'):jo w w':=λb gp hb=>h.block b (bm hb) (λe=>e)
def yJ (F:Nat->Prop) (w:World) (r:Nat) (res:Int × DM) (e:Ending) (w':World):Prop:=e= .returned (.int .i64 res.1)/\kI (fX F w w') w' r res.2/\ah F w w'/\jo w w'
theorem Mc {w:World} {r:Nat} (k:Int) (x y:aD) (pv:Value) (c5:(w.alloc (.cells #[.int .i64 k,.string x,.string y,pv] 176)).cell? ⟨r,5,none⟩=some (.bool true)): aW 80 #[.pointer (some ⟨r,0,none⟩),.agg #[.int .i64 k,.string x,.string y,pv]] w (.int .i64 5) (w.alloc (.cells #[.int .i64 k,.string x,.string y,pv] 176)):=by unfold aW;go_enter Tryz.func80,Tryz.ntmps80;go_wp2;go_ret;exact ⟨rfl,rfl⟩
theorem Da {w:World} {r:Nat} (k:Int) (x y:aD) (pv:Value) (e0:Int) (he:(e0==0)=false) (Q:World->Prop) (c5:(w.alloc (.cells #[.int .i64 k,.string x,.string y,pv] 176)).cell? ⟨r,5,none⟩=some (.bool false)) (hm:bF 130 #[.pointer (some ⟨r,0,none⟩),.agg #[.int .i64 k,.string x,.string y,pv]] (w.alloc (.cells #[.int .i64 k,.string x,.string y,pv] 176)) (λe w'=>e= .returned (.int .i64 e0)/\Q w')): bF 80 #[.pointer (some ⟨r,0,none⟩),.agg #[.int .i64 k,.string x,.string y,pv]] w (λe w'=>e= .returned (.int .i64 e0)/\Q w'):=by go_enter Tryz.func80,Tryz.ntmps80;go_wp2_with fail;refine hm.mono ?_;rintro e w2 ⟨rfl,hq⟩;go_wp2;go_ret;exact ⟨rfl,hq⟩
theorem Md {w:World} {r:Nat} (k:Int) (x y:aD) (pv:Value) (Q Q2:World->Prop) (c5:(w.alloc (.cells #[.int .i64 k,.string x,.string y,pv] 176)).cell? ⟨r,5,none⟩=some (.bool false)) (hm:bF 130 #[.pointer (some ⟨r,0,none⟩),.agg #[.int .i64 k,.string x,.string y,pv]] (w.alloc (.cells #[.int .i64 k,.string x,.string y,pv] 176)) (λe w'=>e= .returned (.int .i64 0)/\Q w')) (hpw:∀ w2,Q w2->bF 131 #[.pointer (some ⟨r,0,none⟩)] w2 (λe w'=>e= .returned (.bool false)/\Q2 w')): bF 80 #[.pointer (some ⟨r,0,none⟩),.agg #[.int .i64 k,.string x,.string y,pv]] w (λe w'=>e= .returned (.int .i64 5)/\Q2 w'):=by have HP:=ae hpw;go_enter Tryz.func80,Tryz.ntmps80;go_wp2_with fail;refine hm.mono ?_;rintro e w2 ⟨rfl,hq⟩;go_wp2_with fail;refine (HP.Z w2 hq).mono ?_;rintro e w3 ⟨rfl,yw⟩;go_wp2;go_ret;exact ⟨rfl,yw⟩
theorem P6 {F:Nat->Prop} {w w5 w6:World} {r bx:Nat} {vn vs vl v6 p4:Value} {m:DM} {c:Ch} (h5:eP F w5 r vn vs vl (aS m).2) (aX:∀ b,F b->b <w.heap.size) (hz5:w.heap.size<=w5.heap.size) (fB:ah F w w5) (uF:jo w w5) (Et:bx≠r) (FY:w5.heap[bx]?=some (.cells #[.int .i64 c.kind,.string c.a,.string c.b,p4] 176 (0,0))) (ju:bQ (λb=>w.heap.size<=b) w5 p4 c.p) (KU:m.cC≠0) (AE:m.aw.length <1099511627776) (h6:cI (fX (fX F w w5) w5 w6) w6 v6 (bW m.aN c)) (k6:ak w5 w6): ∃ a8 c8 w8,(Builtin.append_ #[170,170] 170 #[vl,.slice (some ⟨w6.heap.size,0,none⟩) 1 1]).run Tryz.prog ((w6.setCell ⟨r,1,none⟩ v6).drew.alloc (.cells #[.int .i64 c.kind,.string c.a,.string c.b,p4] 176))= .ok (.slice a8 (m.aw.length+1) c8) w8/\ (w6.setCell ⟨r,1,none⟩ v6).heap[r]?=some (.cells #[.int .i64 (aS m).2.aR,v6,vs,vl,.int .i64 (aS m).2.cC,.bool (aS m).2.bh] 172 (0,0))/\ (w6.setCell ⟨r,1,none⟩ v6).heap[bx]?=some (.cells #[.int .i64 c.kind,.string c.a,.string c.b,p4] 176 (0,0))/\ w8.heap[r]?=some (.cells #[.int .i64 (aS m).2.aR,v6,vs,vl,.int .i64 (aS m).2.cC,.bool (aS m).2.bh] 172 (0,0))/\ yJ F w r (dB m c) (.returned (.int .i64 0)) (w8.setCell ⟨r,3,none⟩ (.slice a8 (m.aw.length+1) c8)):=by
 have e3:(aS m).2.aw=m.aw:=by unfold aS;split;rfl;split <;>rfl
 have z6:=k6.size;have hG:∀ b,fX F w w6 b->b <w6.heap.size:=λb hb=>by
  rcases hb with hb | hb
  ·have:=aX b hb;omega
  ·exact hb.2
 have Hf:=k6.at h5.mq (λe=>e);have acP:=k6.at FY (λe=>e);have Hg:(w6.setCell ⟨r,1,none⟩ v6).heap[r]?=some (.cells #[.int .i64 (aS m).2.aR,v6,vs,vl,.int .i64 (aS m).2.cC,.bool (aS m).2.bh] 172 (0,0)):=by rw [bf Hf];rfl
 have I8:(w6.setCell ⟨r,1,none⟩ v6).heap[bx]?=some (.cells #[.int .i64 c.kind,.string c.a,.string c.b,p4] 176 (0,0)):=by rw [kS _ _ _ _ Et];exact acP
 have h7:eP (fX F w w6) (w6.setCell ⟨r,1,none⟩ v6) r v6 vs vl {(aS m).2 with aN:=bW m.aN c}:=eP.store Hf Hg (λb hb=>kS _ _ _ _ hb) (.inl h5.fr)
  (h6.keep (aP.refl _ _) (λ_ _=>rfl) (λb hb _=>Ex hz5 z6 b hb)) (h5.sure.quiet k6 (λb hb _=> .inl hb)) (h5.aw.quiet k6 (λb hb _=> .inl hb)) hG
 have acQ:aP (λb=>w.heap.size<=b) w6 (w6.setCell ⟨r,1,none⟩ v6):=(aP.refl _ w6).setCell (λcs fz e=>by simp only at e;rw [Hf] at e;simp at e) _;have z7:(w6.setCell ⟨r,1,none⟩ v6).heap.size=w6.heap.size:=by simp
 have oz:bQ (fX F w w6) (w6.setCell ⟨r,1,none⟩ v6).drew p4 c.p:=(ju.keep ((aP.iq k6).trans acQ) (λb hb ox=>(.inr ⟨hb,by omega⟩:fX F w w6 b))).keep (aP.refl _ _).drew (λ_ h _=>h);have hl7:fZ (fX F w w6) (w6.setCell ⟨r,1,none⟩ v6).drew vl m.aw:=by have:=h7.aw;rw [e3] at this;exact this.same (λ_ _=>rfl)
 obtain ⟨a8,c8,w8,aT,Om,k8,t8⟩:=hl7.push (c:=c) (λb hb=>by have:=hG b hb;simp;omega) oz AE;have k8:=k8.eD;have z8:w6.heap.size<=w8.heap.size:=by have:=k8.size;omega
 have Vb:=k8.at Hg (λe=>by obtain ⟨_,gp,hc⟩:=t8 _ e;have hc:(w6.setCell ⟨r,1,none⟩ v6).heap[r]?=_:=hc;rw [Hg] at hc;simp at hc);have hH:∀ b,fX F w w8 b->b <w8.heap.size:=λb hb=>by
  rcases hb with hb | hb
  ·have:=aX b hb;omega
  ·exact hb.2
 have mj:∀ b,fX F w w6 b->fX F w w8 b:=Ol (by omega) z8;have acR:∀ G,aP G (w6.setCell ⟨r,1,none⟩ v6) w8:=λG=>aP.jY k8 (λg cs fz _ e hg=>by obtain ⟨_,gp,hc⟩:=t8 _ e;have hc:(w6.setCell ⟨r,1,none⟩ v6).heap[g]?=_:=hc;rw [hg] at hc;simp at hc);have Sy:∀ v fs,cI (fX F w w6) (w6.setCell ⟨r,1,none⟩ v6) v fs->cI (fX F w w8) w8 v fs:=λv fs h=>by refine h.keep (acR _) ?_ (λb hb _=>mj b hb);obtain ⟨ps,_,ho,_⟩:=h;intro b hb;obtain ⟨gp,hc⟩:=dp ho hb;exact k8.block b (bm hc) (λe=>by obtain ⟨_,aa8,sw⟩:=t8 _ e;have sw:(w6.setCell ⟨r,1,none⟩ v6).heap[b]?=_:=sw;rw [hc] at sw;simp at sw)
 rw [show w6.heap.size=(w6.setCell ⟨r,1,none⟩ v6).drew.heap.size by simp];refine ⟨a8,c8,w8,aT,Hg,I8,Vb, ?_⟩;have e1:dB m c=(0,{(aS m).2 with aN:=bW m.aN c,aw:=m.aw++[c]}):=by unfold dB;rw [if_neg KU]
 rw [e1];have z9:(w8.setCell ⟨r,3,none⟩ (.slice a8 (m.aw.length+1) c8)).heap.size=w8.heap.size:=by simp
 refine ⟨rfl,⟨v6,vs,.slice a8 (m.aw.length+1) c8, ?_⟩, ?_,λb gp hb=> ?_⟩
 ·have h9:eP (fX F w w8) (w8.setCell ⟨r,3,none⟩ (.slice a8 (m.aw.length+1) c8)) r v6 vs (.slice a8 (m.aw.length+1) c8) {(aS m).2 with aN:=bW m.aN c,aw:=m.aw++[c]}:=
   eP.store Vb (by rw [bf Vb];rfl) (λb hb=>kS _ _ _ _ hb) (.inl h5.fr) (Sy _ _ h7.aN) (Sy _ _ h7.sure)
    (Om.keep (aP.refl _ _) (λ_ _=>rfl) (λb hb _=>by
     rcases hb with hb | hb
     ·exact mj b hb
     ·exact .inr ⟨by have:=hb.1;simp at this;omega,hb.2⟩)) hH
  unfold fX at h9 ⊢;rw [z9];exact h9
 ·have k06:ah F w w6:=fB.trans k6 (λ_ _ e=>e.elim);have k07:ah F w (w6.setCell ⟨r,1,none⟩ v6):=k06.setCell (p:=⟨r,1,none⟩) (λ_=>h5.fr) _;have k08:ah F w w8:=k07.trans k8 (λb hb e=>by
   have:=(t8 b e).1;rcases this with h | h
   ·exact h
   ·omega)
  exact k08.setCell (p:=⟨r,3,none⟩) (λ_=>h5.fr) _
 ·have e5:=uF b gp hb;have Ve:=e5.trans hb;have dO:b≠r:=λe=>by subst e;rw [h5.mq] at Ve;simp at Ve
  have e6:=k6.block b (bm Ve) (λe=>e);have e7:(w6.setCell ⟨r,1,none⟩ v6).heap[b]?=w6.heap[b]?:=kS _ _ _ _ dO;have aa9:(w6.setCell ⟨r,1,none⟩ v6).heap[b]?=some (.cells gp 184 (0,0)):=e7.trans (e6.trans Ve);have e8:=k8.block b (bm aa9) (λe=>by obtain ⟨_,aa8,sw⟩:=t8 _ e;have sw:(w6.setCell ⟨r,1,none⟩ v6).heap[b]?=_:=sw;rw [aa9] at sw;simp at sw)
  have e9:(w8.setCell ⟨r,3,none⟩ (.slice a8 (m.aw.length+1) c8)).heap[b]?=w8.heap[b]?:=kS _ _ _ _ dO;exact e9.trans (e8.trans (e7.trans (e6.trans e5)))
theorem Me {F:Nat->Prop} {w:World} {r:Nat} {vn vs vl:Value} {m:DM} (h:eP F w r vn vs vl m) (c:Ch) {pv:Value} (hp:∀ w',ah F w w'->aC w' pv c.p) (hs:bp m.aN) (Db:Zk m.aN c) (pB:m.bh=false) (KU:m.cC≠0) (hf:m.cC<=9223372036854775807) (hl:m.aN.length <549755813888) (AE:m.aw.length <1099511627776) (jd:c.kind=1->((aZ m.aN c.a).getD []).length+c.p.length<=140737488355328) (kL:c.p.length<=140737488355328) (hm:bF 130 #[.pointer (some ⟨r,0,none⟩),.agg #[.int .i64 c.kind,.string c.a,.string c.b,pv]] (w.alloc (.cells #[.int .i64 c.kind,.string c.a,.string c.b,pv] 176)) (bH (w.alloc (.cells #[.int .i64 c.kind,.string c.a,.string c.b,pv] 176)) (.int .i64 0))): bF 80 #[.pointer (some ⟨r,0,none⟩),.agg #[.int .i64 c.kind,.string c.a,.string c.b,pv]] w (yJ F w r (dB m c)):=by
 obtain ⟨pa,pc,rfl,_,_⟩:=(hp w (ah.refl _ _)).aG;obtain ⟨na,nc,rfl,_,_⟩:=h.aN.aG;obtain ⟨la,lc,rfl⟩:=h.aw.aG;obtain ⟨w1,fh⟩:=cE (w.alloc (.cells #[.int .i64 c.kind,.string c.a,.string c.b,.slice pa c.p.length pc] 176));rw [<-fh] at hm;have bN:ak w w1:=by rw [fh];exact (ah.refl _ w).alloc _
 have iH:w1.heap.size=w.heap.size+1:=by rw [fh];simp
 have Mf:w1.heap[w.heap.size]?=some (.cells #[.int .i64 c.kind,.string c.a,.string c.b,.slice pa c.p.length pc] 176 (0,0)):=by rw [fh];exact heap_alloc_new _ _
 have aX:=h.lt;have Et:r≠w.heap.size:=by have:=aX r h.fr;omega
 have h1:=h.quiet bN (G:=F) (λ_ h _=>h) (λb hb=>by have:=aX b hb;omega);have c5:(w.alloc (.cells #[.int .i64 c.kind,.string c.a,.string c.b,.slice pa c.p.length pc] 176)).cell? ⟨r,5,none⟩=some (.bool false):=by rw [<-fh,<-pB];exact h1.cells.c5
 obtain ⟨k,x,y,p⟩:=c;simp only at*;go_enter Tryz.func80,Tryz.ntmps80;go_wp2_with fail;rw [<-fh];clear fh c5;refine hm.mono ?_;rintro e w2 ⟨rfl,cg⟩;clear hm;have h2:=h1.quiet cg (G:=F) (λ_ h _=>h) (λb hb=>by have:=aX b hb;have:=cg.size;omega);obtain ⟨w3,BG,h3,dN,hz3⟩:=tF h2 hf;rw [show (!decide (m.cC=0))=true by simp [KU]] at BG;clear h1 h2;go_wp2_with fail;refine BG.Z.mono ?_;rintro e w' ⟨rfl,rfl⟩;have I2:=dN.at (cg.at Mf (λe=>e)) (λe=>Et e.symm);have b33:w3.cell? ⟨w.heap.size,3,none⟩=some (.slice pa p.length pc):=ag I2 rfl;have sC:ah F w w3:=((bN.trans cg (λ_ _ e=>e)).any (F:=F)).trans dN (λb _ e=>by rw [e];exact h.fr);have AZ:=fO (hp w3 sC) kL;clear BG;go_wp2_with fail;refine AZ.mono ?_;rintro e w4 ⟨v4,rfl,lz,eA⟩;obtain ⟨a4,c4,rfl,_,_⟩:=lz.bytes.aG;have Sz:=eA.at I2 (λe=>e);have b43:w4.cell? ⟨w.heap.size,3,none⟩=some (.slice pa p.length pc):=ag Sz rfl;have f43:w4.frozen? ⟨w.heap.size,3,none⟩=false:=cL Sz 3;have FY:(w4.setCell ⟨w.heap.size,3,none⟩ (.slice a4 p.length c4)).heap[w.heap.size]?=some (.cells #[.int .i64 k,.string x,.string y,.slice a4 p.length c4] 176 (0,0)):=by rw [bf Sz];rfl
 have fB:ah (λb=>b=w.heap.size) w4 (w4.setCell ⟨w.heap.size,3,none⟩ (.slice a4 p.length c4)):=(ah.refl (λb=>b=w.heap.size) w4).setCell (p:=⟨w.heap.size,3,none⟩) (λ_=>rfl) _;have h5:eP F (w4.setCell ⟨w.heap.size,3,none⟩ (.slice a4 p.length c4)) r (.slice na m.aN.length nc) vs (.slice la m.aw.length lc) (aS m).2:=h3.keep (λb hb=>(kS _ _ _ _ (by have:=aX b hb;simp only;omega)).trans (eA.block b (h3.lt b hb) (λe=>e)));have ju:bQ (λb=>w3.heap.size<=b) (w4.setCell ⟨w.heap.size,3,none⟩ (.slice a4 p.length c4)) (.slice a4 p.length c4) p:=lz.bytes.keep ((aP.refl _ w4).setCell (λcs fz e=>by rw [Sz] at e;simp at e) _) (λ_ h _=>h);obtain ⟨w5,Rv⟩:=cE (w4.setCell ⟨w.heap.size,3,none⟩ (.slice a4 p.length c4));rw [<-Rv] at FY fB h5 ju;clear AZ lz;go_wp2_with fail;rw [<-Rv];clear Rv;have acS:∀ b,fX F w w5 b->b <w5.heap.size:=λb hb=>by
  rcases hb with hb | hb
  ·exact h5.lt b hb
  ·exact hb.2
 have Mg:ah (λb=>b=w.heap.size) w3 w5:=(eA.mono (λ_ _ e=>e.elim)).trans fB (λ_ _ e=>e);have hz5:=Mg.size;have adR:=sC.size;have e2:(aS m).2.aN=m.aN:=by unfold aS;split;rfl;split <;>rfl
 have Zp:cI (fX F w w5) w5.drew (.slice na m.aN.length nc) m.aN:=by have hh:=h5.aN.keep (w':=w5.drew) (G:=fX F w w5) (aP.refl _ w5).drew (λ_ _=>rfl) (λb hb _=> .inl hb);rw [e2] at hh;exact hh
 have abb:bQ (fX F w w5) w5.drew (.slice a4 p.length c4) p:=ju.keep (aP.refl _ w5).drew (λb hb ox=> .inr ⟨by omega,ox⟩);have vB:=Ey (w:=w5.drew) Zp acS hs ⟨k,x,y,p⟩ Db abb.reads hl jd;simp only at vB;have abd:=vB.mono (R':=λe w6=>∃ a6 c6,e= .returned (.slice a6 (bW m.aN ⟨k,x,y,p⟩).length c6)/\cI (fX (fX F w w5) w5 w6) w6 (.slice a6 (bW m.aN ⟨k,x,y,p⟩).length c6) (bW m.aN ⟨k,x,y,p⟩)/\ak w5 w6/\w6.cell? ⟨r,1,none⟩=some (.slice na m.aN.length nc)/\w6.frozen? ⟨r,1,none⟩=false) (by rintro e w6 ⟨v6,rfl,h6,k6⟩;obtain ⟨a6,c6,rfl,_,_⟩:=h6.aG;have k6:=k6.eD;have Hf:=k6.at h5.mq (λe=>e);exact ⟨a6,c6,rfl,h6,k6,ag Hf rfl,cL Hf 1⟩)
 have r51:w5.cell? ⟨r,1,none⟩=some (.slice na m.aN.length nc):=h5.cells.c1;have b50:w5.cell? ⟨w.heap.size,0,none⟩=some (.int .i64 k):=ag FY rfl;have b51:w5.cell? ⟨w.heap.size,1,none⟩=some (.string x):=ag FY rfl;have b52:w5.cell? ⟨w.heap.size,2,none⟩=some (.string y):=ag FY rfl;have b53:w5.cell? ⟨w.heap.size,3,none⟩=some (.slice a4 p.length c4):=ag FY rfl;have uG:=ae abd;have Py:ah F w w5:=sC.trans Mg (λb hb e=>by omega);have uF:jo w w5:=λb gp hb=>by
  have hlb:=bm hb;have dO:b≠r:=λe=>by subst e;rw [h.mq] at hb;simp at hb
  have adS:=cg.size;have e1:=bN.block b hlb (λe=>e);have e2':=cg.block b (by omega) (λe=>e);have e3':=dN.block b (by omega) (λe=>dO e);have e4':=Mg.block b (by have:=dN.size;omega) (λe=>by omega);exact e4'.trans (e3'.trans (e2'.trans e1))
 have HKF:=ae uF;have H5:=ae h5;have kC:=ae aX;have abe:=ae Py;have abf:=ae FY;have yh:=ae (ju.keep (aP.refl _ _) (λb hb _=>(by omega:w.heap.size<=b)):bQ (λb=>w.heap.size<=b) w5 (.slice a4 p.length c4) p);clear uF vB abb Zp abd h5 h3 h Mf I2 Sz FY ju hp aX fB Mg sC eA dN cg bN hs jd Db;go_region_law (first | (refine jn rfl ?_;go_simp;go_at_call 132;refine uG.Z.mono ?_;rintro e w6 ⟨a6,c6,rfl,h6,k6,q1,q2⟩) | fail);all_goals
  obtain ⟨a8,c8,w8,aT,Hg,I8,Vb,eJ⟩:=P6 (c:=⟨k,x,y,p⟩) H5.Z kC.Z (by omega) abe.Z HKF.Z (Ne.symm Et) abf.Z yh.Z KU AE h6 k6;obtain ⟨w7,hw7⟩:=cE (w6.setCell ⟨r,1,none⟩ (.slice a6 (bW m.aN ⟨k,x,y,p⟩).length c6));have z7:w6.heap.size=w7.heap.size:=by rw [hw7];simp
  rw [<-hw7] at aT Hg I8 ⊢;rw [z7] at aT;have r7:w7.cell? ⟨r,3,none⟩=some (.slice la m.aw.length lc):=ag Hg rfl;have r7d:w7.drew.cell? ⟨r,3,none⟩=some (.slice la m.aw.length lc):=r7;have g0:w7.cell? ⟨w.heap.size,0,none⟩=some (.int .i64 k):=ag I8 rfl;have g1:w7.cell? ⟨w.heap.size,1,none⟩=some (.string x):=ag I8 rfl;have g2:w7.cell? ⟨w.heap.size,2,none⟩=some (.string y):=ag I8 rfl;have g3:w7.cell? ⟨w.heap.size,3,none⟩=some (.slice a4 p.length c4):=ag I8 rfl;have r8:w8.cell? ⟨r,3,none⟩=some (.slice la m.aw.length lc):=ag Vb rfl;have f8:w8.frozen? ⟨r,3,none⟩=false:=cL Vb 3;have On:=bm Hg;have cV:=ae aT;have P7:=ae eJ;clear aT eJ Hg I8 Vb hw7 H5 kC abe abf yh uG h6 k6 q1 q2 hf hl AE kL;go_wp2_with fail;go_region_law (refine cP rfl _ _ _ _ rfl rfl rfl cV.Z ?_);all_goals
   go_wp2;go_ret;exact P7.Z
theorem kI.quiet {F:Nat->Prop} {w w1:World} {r:Nat} {m:DM} (h:kI F w r m) (hk:ak w w1):kI (fX F w w1) w1 r m:=by obtain ⟨vn,vs,vl,h⟩:=h;exact ⟨vn,vs,vl,h.quiet hk (λb hb _=> .inl hb) (oJ h.lt hk.size)⟩
theorem tG {F:Nat->Prop} {w:World} {r:Nat} {m:DM} (h:kI F w r m) (c:Ch) {pv:Value} (hp:∀ w',ah F w w'->aC w' pv c.p) (hk:0<=c.kind/\c.kind<=3) (wZ:c.kind≠1->c.p=[]) (hs:bp m.aN) (hf:m.cC<=9223372036854775807) (hl:m.aN.length <549755813888) (AE:m.aw.length <1099511627776) (hu:(used m.aN:Int)<=m.aR) (AX:0<=m.aR) (bM:m.aR<=67108864): bF 80 #[.pointer (some ⟨r,0,none⟩),.agg #[.int .i64 c.kind,.string c.a,.string c.b,pv]] w (yJ F w r (iz m c)):=by
 have hi:=h;obtain ⟨vn,vs,vl,h⟩:=h;have abg:=(hp w (ah.refl _ _)).aG;have bN:ak w (w.alloc (.cells #[.int .i64 c.kind,.string c.a,.string c.b,pv] 176)):=(ah.refl _ w).alloc _;have h1:=h.quiet bN (G:=F) (λ_ h _=>h) (λb hb=>by have:=h.lt b hb;have:=bN.size;omega);have c5:=h1.cells.c5;unfold iz;cases hd:m.bh with
 | true=>
  rw [hd] at c5;refine gU (Mc c.kind c.a c.b pv c5).Z ?_;exact ⟨rfl,hi.quiet bN,bN.any,bN.files⟩
 | false=>
  rw [hd] at c5;rw [if_neg (by simp)];have Db:=Mb h1 c hk (pv:=pv) (by obtain ⟨a,k,e,_⟩:=abg;exact ⟨a,k,e⟩) hl (by omega) AX bM;by_cases h0:pH m c=0
  ·rw [if_pos h0];rw [h0] at Db;have hm:=Ez hk h0;by_cases KU:m.cC=0
   ·refine (Md c.kind c.a c.b pv (λw2=>ak (w.alloc (.cells #[.int .i64 c.kind,.string c.a,.string c.b,pv] 176)) w2) (λw3=>kI (fX F w w3) w3 r (aS m).2/\ah F w w3/\jo w w3) c5 Db (λw2 cg=> ?_)).mono ?_
    ·have h2:=h1.quiet cg (G:=F) (λ_ h _=>h) (λb hb=>by have:=h.lt b hb;have:=bN.size;have:=cg.size;omega);obtain ⟨w3,BG,h3,k3,z3⟩:=tF h2 hf;rw [show (!decide (m.cC=0))=false by simp [KU]] at BG;refine gU BG.Z ?_;have iH:=bN.size;have jO:=cg.size;exact ⟨rfl,⟨vn,vs,vl,h3.quiet (ah.refl _ w3) (λb hb _=> .inl hb) (oJ h.lt (by omega))⟩,((bN.trans cg (λ_ _ e=>e)).any (F:=F)).trans k3 (λb _ e=>by rw [e];exact h.fr),λb gp hb=>by
      have hlb:=bm hb;have dO:b≠r:=λe=>by subst e;rw [h.mq] at hb;simp at hb
      exact (k3.block b (by omega) (λe=>dO e)).trans ((bN.trans cg (λ_ _ e=>e)).block b hlb (λe=>e))⟩
    ·rintro e w3 ⟨rfl,h3,k3⟩;have e1:dB m c=(5,(aS m).2):=by unfold dB aS;rw [if_pos KU,if_pos KU]
     rw [e1];exact ⟨rfl,h3,k3⟩
   ·have kL:c.p.length<=1048576:=by
     by_cases uX:c.kind=1
     ·unfold pH at h0;rw [if_neg (by omega)] at h0;split at h0
      ·cases h0
      ·by_cases hb:(1048576:Int) <(c.p.length:Int)
       ·simp [hb] at h0
       ·omega
     ·rw [wZ uX];simp
    have hg:=s6 hs.nodup c.a;exact Me h c hp hs hm hd KU hf hl AE (λ_=>by omega) (by omega) Db
  ·rw [if_neg h0];refine (Da c.kind c.a c.b pv (pH m c) (by simpa using h0) (λw2=>ak (w.alloc (.cells #[.int .i64 c.kind,.string c.a,.string c.b,pv] 176)) w2) c5 Db).mono ?_;rintro e w2 ⟨rfl,cg⟩;have C1:=bN.trans cg (λ_ _ e=>e);exact ⟨rfl,hi.quiet C1,C1.any,C1.files⟩
theorem zI (fs:FS) (f:aD × aH):(gY fs f).length=fs.length+1:=by rw [(gJ f fs).length_eq];rfl
theorem zJ (fs:FS) (c:Ch):(bW fs c).length<=fs.length+1:=by
 have h1:∀ n b,(dY fs n b).length<=fs.length+1:=λn b=>by unfold dY;rw [zI];have:(bV fs n).length<=fs.length:=Fu _ _;omega
 have h2:∀ l n,(bV l n).length<=l.length:=λl n=>Fu _ _;unfold bW;split
 ·exact h1 _ _
 ·split
  ·exact h1 _ _
  ·split
   ·exact kT (h2 _ _) (eM _)
   ·split
    ·split
     ·exact h1 _ _
     ·exact kT (h2 _ _) (h1 _ _)
    ·exact eM _
theorem lF:∀ (l:List Ch) (fs:FS),(l.foldl bW fs).length<=fs.length+l.length
 | [],fs=>eQ _
 | c::l,fs=>by have h1:=lF l (bW fs c);have h2:=zJ fs c;rw [List.foldl_cons,iM];omega
def fV (fs:FS):Prop:=∀ p ∈ fs,p.1.size<=160
theorem fV.bV {fs:FS} (h:fV fs) (n:aD):fV (bV fs n):=λp hp=>h p (List.mem_filter.1 hp).1
theorem fV.dY {fs:FS} (h:fV fs) (n:aD) (b:aH) (hn:n.size<=160):fV (dY fs n b):=λp hp=>by
 rcases List.mem_cons.1 ((gJ (n,b) (Go.Proofs.YtlcnhpjggjgnpaaGreatDoor.bV fs n)).mem_iff.1 hp) with rfl | hp
 ·exact hn
 ·exact h.bV n p hp
def SA (c:Ch):Prop:=c.a.size<=160/\c.b.size<=160
theorem fV.bW {fs:FS} (h:fV fs) {c:Ch} (hc:SA c):fV (bW fs c):=by
 unfold Go.Proofs.YtlcnhpjggjgnpaaGreatDoor.bW;split
 ·exact h.dY _ _ hc.1
 ·split
  ·exact h.dY _ _ hc.1
  ·split
   ·exact h.bV _
   ·split
    ·split
     ·exact h.dY _ _ hc.2
     ·exact (h.dY _ _ hc.2).bV _
    ·exact h
theorem fV.fold:∀ (l:List Ch) {fs:FS},fV fs->(∀ c ∈ l,SA c)->fV (l.foldl Go.Proofs.YtlcnhpjggjgnpaaGreatDoor.bW fs)
 | [],_,h,_=>h
 | c::l,_,h,hl=>fV.fold l (h.bW (hl c (gw ..))) (λx hx=>hl x (nO _ hx))
structure Tidy (m:DM) (n t:Nat):Prop where
 dQ:Good m n
 rY:bp m.sure
 len:m.sure.length+m.aw.length<=t
 lV:fV m.sure
 rq:∀ c ∈ m.aw,SA c
 may:∀ k c,m.aw[k]?=some c->Zk ((m.aw.take k).foldl bW m.sure) c
theorem Tidy.SB {m:DM} {n t:Nat} (h:Tidy m n t):bp m.aN:=by rw [h.dQ.aN];exact bp.fold _ h.rY
theorem Tidy.names {m:DM} {n t:Nat} (h:Tidy m n t):fV m.aN:=by rw [h.dQ.aN];exact fV.fold _ h.lV h.rq
theorem Tidy.AH {m:DM} {n t:Nat} (h:Tidy m n t):m.aN.length<=t:=by rw [h.dQ.aN];exact kT (lF _ _) h.len
theorem Tidy.new {aR:Int} (h0:0<=aR) (h1:aR<=67108864):Tidy (eS aR) 0 0:=
 ⟨Good.new h0 h1,bp.nil,by simp [eS],λp hp=>by simp [eS] at hp,λc hc=>by simp [eS] at hc,λk c hc=>by simp [eS] at hc⟩
theorem Tidy.mono {m:DM} {n t n' t':Nat} (h:Tidy m n t) (hn:n<=n') (ht:t<=t'):Tidy m n' t':=⟨h.dQ.mono hn,h.rY,kT h.len ht,h.lV,h.rq,h.may⟩
theorem BH {m:DM}:(aS m).2.aR=m.aR:=by unfold aS;split;rfl;split <;>rfl
theorem Tidy.does {m:DM} {n t:Nat} (h:Tidy m n t) (c:Ch) (hm:Zk m.aN c) (hc:SA c) (hp:c.p.length<=1048576) (hu:c.kind=1->(used m.aN:Int)+(c.p.length:Int)<=m.aR):Tidy (dB m c).2 (n+1) (t+1):=by
 have hg:=h.dQ.does c hm.1 hp hu;have e3:(aS m).2.sure=m.sure:=by unfold aS;split;rfl;split <;>rfl
 unfold dB at hg ⊢;split at hg
 ·rename_i hf;rw [if_pos hf];exact ⟨hg,h.rY,by have:=h.len;simp only;omega,h.lV,h.rq,h.may⟩
 ·rename_i hf;rw [if_neg hf];refine ⟨hg, ?_, ?_, ?_, ?_, ?_⟩ <;>simp only [e3]
  ·exact h.rY
  ·have:=h.len;simp;omega
  ·exact h.lV
  ·intro x hx;rcases List.mem_append.1 hx with hx | hx
   ·exact h.rq x hx
   ·simp at hx;subst hx;exact hc
  ·intro k x hx;by_cases hk:k <m.aw.length
   ·rw [K0 hk] at hx;rw [CW (by omega)];exact h.may k x hx
   ·have cg:k=m.aw.length:=by have:=(List.getElem?_eq_some_iff.1 hx).1;simp at this;omega
    subst cg;simp at hx;subst hx;rw [List.take_left,<-h.dQ.aN];exact hm
theorem zK {s:aD} (h:bU s=true):s.size<=160:=by unfold bU at h;have:=(Bool.and_eq_true_iff.1 h).2;have:=of_decide_eq_true this;omega
theorem Tidy.step {m:DM} {n t:Nat} (h:Tidy m n t) (c:Ch) (hk:0<=c.kind/\c.kind<=3) (hp:c.kind≠1->c.p=[]) (hb:c.kind≠3->c.b.size<=160):Tidy (iz m c).2 (n+1) (t+1):=by
 unfold iz;split
 ·exact h.mono (eM _) (eM _)
 ·split
  ·rename_i h0;have hm:=Ez hk h0;have rU:c.kind≠0->c.a.size<=160:=λsB=>by obtain ⟨i,_,hi⟩:=mM (hm.2.2 sB);exact h.names _ (kx hi)
   unfold pH at h0;refine h.does c hm ⟨?_, ?_⟩ ?_ ?_
   ·by_cases sB:c.kind=0
    ·rw [if_pos sB] at h0;split at h0
     ·rename_i h2;exact zK h2
     ·cases h0
    ·exact rU sB
   ·by_cases dN:c.kind=3
    ·cases hn:bU c.b with
     | true=>exact zK hn
     | false=>
      exfalso;by_cases hf:dr m.aN c.a <0
      ·simp [dN,hf] at h0
      ·simp [dN,hf,hn] at h0
    ·exact hb dN
   ·by_cases bN:c.kind=1
    ·rw [if_neg (by omega)] at h0;split at h0
     ·cases h0
     ·split at h0
      ·cases h0
      ·omega
    ·rw [hp bN];simp
   ·intro bN;rw [if_neg (by omega)] at h0;split at h0
    ·cases h0
    ·split at h0
     ·cases h0
     ·split at h0
      ·cases h0
      ·omega
  ·exact h.mono (eM _) (eM _)
theorem Tidy.A0 {m:DM} {n t:Nat} (h:Tidy m n t) (k:Int) (hk:k<=9223372036854775807):Tidy (gF m k).2 n t:=by
 have hg:=h.dQ.A0 k hk;unfold gF at hg ⊢;split
 ·exact h
 ·rename_i hd;rw [if_neg hd] at hg;exact ⟨hg,h.rY,h.len,h.lV,h.rq,h.may⟩
theorem Tidy.sync {m:DM} {n t:Nat} (h:Tidy m n t):Tidy (aV m).2 n t:=by
 have hg:=h.dQ.sync;unfold aV at hg ⊢;split
 ·exact h
 ·rename_i hd;rw [if_neg hd] at hg;split
  ·rename_i hf;rw [if_pos hf] at hg;exact ⟨hg,h.rY,h.len,h.lV,h.rq,h.may⟩
  ·rename_i hf;rw [if_neg hf] at hg;refine ⟨hg,bp.fold _ h.rY, ?_,fV.fold _ h.lV h.rq,λc hc=>by simp [lU] at hc,λk c hc=>by simp [lU] at hc⟩;have h1:=lF m.aw m.sure;have:=h.len;simp only [lU,gN];omega
theorem Tidy.xi {m:DM} {n t:Nat} (h:Tidy m n t) (keep part:Int):Tidy (cX m keep part) 0 t:=by
 have hg:=h.dQ.xi keep part;have lf:=mD keep m.aw.length;have AI:∀ c ∈ m.aw.take (fx keep m.aw.length),SA c:=λc hc=>h.rq c (List.mem_of_mem_take hc);have h1:bp (ft m keep part)/\fV (ft m keep part)/\(ft m keep part).length<=t:=by
  have hl:=lF (m.aw.take (fx keep m.aw.length)) m.sure;have cU:=h.len;rw [nM] at hl;unfold ft;simp only;split
  ·rename_i c hc;have aX:=(List.getElem?_eq_some_iff.1 hc).1;split
   ·refine ⟨(bp.fold _ h.rY).bW _,(fV.fold _ h.lV AI).bW (h.rq c (kx hc)), ?_⟩;have:=zJ ((m.aw.take (fx keep m.aw.length)).foldl bW m.sure) {c with p:=c.p.take (fx part c.p.length)};omega
   ·exact ⟨bp.fold _ h.rY,fV.fold _ h.lV AI,by omega⟩
  ·exact ⟨bp.fold _ h.rY,fV.fold _ h.lV AI,by omega⟩
 exact ⟨hg,h1.1,by simpa [cX,gD] using h1.2.2,h1.2.1,λc hc=>by simp [cX,gD] at hc,λk c hc=>by simp [cX,gD] at hc⟩
open Go.RowKit Go.MapKept Go.Deep
def dw {B:Nat} (r:Nat) (m:DM):bB B:=⟨λF w=>kI F w r m,λ_ _ _ h hk=>h.keep (λb hb=>hk b (.inl hb))⟩
def tH (w:World) (r:Nat) (rs:List (bB w.heap.size)) (res:Int × DM) (e:Ending) (w':World):Prop:=e= .returned (.int .i64 res.1)/\Own w w' (dw r res.2::rs)
theorem Own.acT {w wr:World} {rs:List (bB w.heap.size)} (h:Own w wr rs) (aR:Int): ∃ r w',aW 33 #[.int .i64 aR] wr (.pointer (some ⟨r,0,none⟩)) w'/\Own w w' (dw r (eS aR)::rs):=by obtain ⟨r,w',hr,hd,k⟩:=P4 wr aR;exact ⟨r,w',hr,h.add k (r:=dw r (eS aR)) hd (λb hb=>by rcases hb with hb | hb;exact hb.elim;exact hb)⟩
theorem Own.nZ {w wr:World} {r:Nat} {m:DM} {rs:List (bB w.heap.size)} (h:Own w wr (dw r m::rs)) {n t:Nat} (ht:Tidy m n t) (hn:n <1099511627776) (mN:t <549755813888) (c:Ch) (hk:0<=c.kind/\c.kind<=3) (wZ:c.kind≠1->c.p=[]) {pv:Value} (hp:∀ (F:Nat->Prop) (w':World),(∀ b,F b->w.heap.size<=b/\b <wr.heap.size)->ah F wr w'->aC w' pv c.p): bF 80 #[.pointer (some ⟨r,0,none⟩),.agg #[.int .i64 c.kind,.string c.a,.string c.b,pv]] wr (tH w r rs (iz m c)):=by obtain ⟨F,h1,h2,back⟩:=h.jT;refine (tG (h1:kI F wr r m) c (λw' uX=>hp F w' h2 uX) hk wZ ht.SB ht.dQ.cC (Nat.lt_of_le_of_lt ht.AH mN) (ht.dQ.aw hn) ht.dQ.AA ht.dQ.qz ht.dQ.nY).mono ?_;rintro e w' ⟨he,h3,h4,-⟩;exact ⟨he,back w' (dw r (iz m c).2) h4 h3⟩
theorem Own.Zq {w wr:World} {r:Nat} {m:DM} {rs:List (bB w.heap.size)} (h:Own w wr (dw r m::rs)) {n t:Nat} (ht:Tidy m n t) (hn:n <1099511627776) (mN:t <549755813888) (c:Ch) (hk:0<=c.kind/\c.kind<=3) (wZ:c.kind≠1->c.p=[]) {pv:Value} (hp:∀ (F:Nat->Prop) (w':World),(∀ b,F b->w.heap.size<=b/\b <wr.heap.size)->ah F wr w'->aC w' pv c.p): bF 80 #[.pointer (some ⟨r,0,none⟩),.agg #[.int .i64 c.kind,.string c.a,.string c.b,pv]] wr (λe w'=>tH w r rs (iz m c) e w'/\jo wr w'):=by obtain ⟨F,h1,h2,back⟩:=h.jT;refine (tG (h1:kI F wr r m) c (λw' uX=>hp F w' h2 uX) hk wZ ht.SB ht.dQ.cC (Nat.lt_of_le_of_lt ht.AH mN) (ht.dQ.aw hn) ht.dQ.AA ht.dQ.qz ht.dQ.nY).mono ?_;rintro e w' ⟨he,h3,h4,h5⟩;exact ⟨⟨he,back w' (dw r (iz m c).2) h4 h3⟩,h5⟩
theorem Own.ref {w wr:World} {r:Nat} {m:DM} {rs:List (bB w.heap.size)} (h:Own w wr rs) (hm:dw r m ∈ rs):∃ F:Nat->Prop,kI F wr r m:=by obtain ⟨F,h1,_⟩:=h.mem hm;exact ⟨F,h1⟩
theorem dH (w:World):aC w (.slice none 0 0) []:= .inl ⟨rfl,rfl⟩
variable {H:Type} {enc:TypeId × Value->H}
theorem Mh {W:World} {n:Nat} {v:Value} {y:DataW H × List MemPlace} (h:DataW.trod enc Tryz.prog W 0 (λ_=>true) true n 9 [v]=some y):∃ s:aD,v= .string s/\s.size<=maxLen:=by obtain ⟨s,hs,_,hz⟩:=DataW.trod_string Tryz.underlying9 h;simp at hs;exact ⟨s,hs,hz⟩
structure Op9 where
 kind:Int
 a:aD
 b:aD
 p:aH
 n:Int
 m:Int
end Go.Proofs.YtlcnhpjggjgnpaaGreatDoor
namespace Go.Proofs.YtlcnhpjggjgnpaaGreatDoor
open Go.RowKit Go.MapKept
theorem Mi {F:Nat->Prop} {w:World} {r:Nat} {m:DM} (h:kI F w r m) (hn:m.aN=m.aw.foldl bW m.sure) (hf:m.cC<=9223372036854775807): ∃ w',aW 81 #[.pointer (some ⟨r,0,none⟩)] w (.int .i64 (aV m).1) w'/\kI F w' r (aV m).2/\ah F w w':=by
 have hi:=h;obtain ⟨vn,vs,vl,h⟩:=h;have c5:=h.cells.c5;unfold aV;cases hd:m.bh with
 | true=>
  rw [hd] at c5;refine ⟨w, ?_,hi,ah.refl _ _⟩;unfold aW;go_enter Tryz.func81,Tryz.ntmps81;go_wp2;go_ret;exact ⟨rfl,rfl⟩
 | false=>
  rw [hd] at c5;rw [if_neg (by simp)];obtain ⟨w1,BG,h1,k1,z1⟩:=tF h hf;have k1':ah F w w1:=k1.mono (λb _ e=>by rw [e];exact h.fr);by_cases KU:m.cC=0
  ·rw [if_pos KU];rw [show (!decide (m.cC=0))=false by simp [KU]] at BG;have e1:(aS m).2={m with bh:=true}:=by unfold aS;rw [if_pos KU]
   rw [e1] at h1;refine ⟨w1, ?_,⟨vn,vs,vl,h1⟩,k1'⟩;clear h h1 k1 k1' hi hn e1;unfold aW;go_enter Tryz.func81,Tryz.ntmps81;go_wp2_with (go_at_call 131;refine BG.Z.mono ?_;rintro e w' ⟨rfl,rfl⟩);go_ret;exact ⟨rfl,rfl⟩
  ·rw [if_neg KU];rw [show (!decide (m.cC=0))=true by simp [KU]] at BG;obtain ⟨na,nc,rfl,_,_⟩:=h1.aN.aG;obtain ⟨sa,sc,rfl,_,_⟩:=h1.sure.aG;obtain ⟨la,lc,rfl⟩:=h1.aw.aG;have b1:=h1.mq;obtain ⟨w2,zu⟩:=cE (w1.setCell ⟨r,2,none⟩ (.slice na (aS m).2.aN.length nc));have b2:w2.heap[r]?=some (.cells #[.int .i64 (aS m).2.aR,.slice na (aS m).2.aN.length nc,.slice na (aS m).2.aN.length nc,.slice la (aS m).2.aw.length lc,.int .i64 (aS m).2.cC,.bool (aS m).2.bh] 172 (0,0)):=by rw [zu,bf b1];rfl
   have b3:(w2.setCell ⟨r,3,none⟩ (.slice none 0 0)).heap[r]?=some (.cells #[.int .i64 (aS m).2.aR,.slice na (aS m).2.aN.length nc,.slice na (aS m).2.aN.length nc,.slice none 0 0,.int .i64 (aS m).2.cC,.bool (aS m).2.bh] 172 (0,0)):=by rw [bf b2];rfl
   have EA:=mH (m:=m);refine ⟨w2.setCell ⟨r,3,none⟩ (.slice none 0 0), ?_,⟨.slice na (aS m).2.aN.length nc,.slice na (aS m).2.aN.length nc,.slice none 0 0, ?_⟩, ?_⟩
   rotate_left
   ·refine eP.store (m:=lU m) (cs:=_) b1 b3 (λb hb=> ?_) h.fr h1.aN ?_ (fZ.nil _ _) h1.lt
    ·rw [kS _ _ _ _ hb,zu,kS _ _ _ _ hb]
    ·have:=h1.aN;rw [EA.1] at this ⊢;have e:(lU m).sure=m.aN:=by rw [hn];rfl
     rw [e];exact this
   ·refine ah.setCell (p:=⟨r,3,none⟩) ?_ (λ_=>h.fr) _;rw [zu];exact k1'.setCell (p:=⟨r,2,none⟩) (λ_=>h.fr) _
   ·have r1:w1.cell? ⟨r,1,none⟩=some (.slice na (aS m).2.aN.length nc):=ag b1 rfl;have r2:w1.cell? ⟨r,2,none⟩=some (.slice sa (aS m).2.sure.length sc):=ag b1 rfl;have f2:w1.frozen? ⟨r,2,none⟩=false:=cL b1 2;have r3:w1.cell? ⟨r,3,none⟩=some (.slice la (aS m).2.aw.length lc):=ag b1 rfl;have f3:w1.frozen? ⟨r,3,none⟩=false:=cL b1 3;subst zu;generalize (aS m).2=m1 at*;clear h h1 k1 k1' hi hn b1 b2 b3 EA;unfold aW;go_enter Tryz.func81,Tryz.ntmps81;go_wp2_with (go_at_call 131;refine BG.Z.mono ?_;rintro e w' ⟨rfl,rfl⟩);go_ret;exact ⟨rfl,rfl⟩
theorem BI (w:World) (a:Option Addr) (n c i j:Nat) (h1:i+j<=c): (Instr.sliceAt 22 (.slice a n c) (some (.int .i64 (i:Int))) (some (.int .i64 ((i:Int)+(j:Int)))) none).run Tryz.prog w= .ok (.slice (if c=i then a else Option.map (λx=>x.add i) a) j (c - i)) w:=by
 rw [run_sliceAt_slice _ _ _ _ _ _ dG,run_slice_lh w 22 a n c dG .i64 .i64 (i:Int) ((i:Int)+j) (by omega) (by omega) (by omega),lT];have e3:((i:Int)+j).toNat=i+j:=by omega
 simp only [Result.andThen,sliced,e3,yn,yp,RO]
theorem aC.SC {w:World} {a:Option Addr} {n c:Nat} {l:aH} (h:aC w (.slice a n c) l) (i j:Nat) (R7:i+j<=l.length):aC w (.slice (if c=i then a else Option.map (λx=>x.add i) a) j (c - i)) ((l.drop i).take j):=by
 cases a with
 | none=>
  rcases h with ⟨e,rfl⟩ | ⟨x,c',e,_⟩
  ·cases e;simp at R7;obtain ⟨rfl,rfl⟩:=R7;exact .inl ⟨rfl,rfl⟩
  ·cases e
 | some x=>
  have h2:=h.cut i j R7;by_cases hc:c=i
  ·rw [if_pos hc] at h2 ⊢;exact h2
  ·rw [if_neg hc] at h2 ⊢;exact h2
def nS (n:Int) (most:Nat):Nat:=if n <0 then 0 else if (most:Int) <n then most else n.toNat
theorem ru (n:Int) (most:Nat):(if n <0 then (0:Int) else if (most:Int) <n then (most:Int) else n)=(nS n most:Int):=by
 unfold nS;split
 ·rfl
 ·split
  ·rfl
  ·omega
theorem EB (n:Int) (most:Nat):nS n most<=most:=by
 unfold nS;split
 ·omega
 ·split <;>omega
theorem BJ {n:Int} (h:0<=n) (most:Nat):nS n most=if (most:Int) <n then most else n.toNat:=by unfold nS;rw [if_neg (by omega)]
theorem I9 (l:aH) (at_ n:Int) (h0:0<=at_) (h1:0<=n):gV l at_ n=(l.drop (nS at_ l.length)).take (nS n (l.length - nS at_ l.length)):=by
 unfold gV;rw [BJ h1,BJ h0];by_cases ha:(l.length:Int) <at_
 ·rw [if_pos ha,CX (by omega:l.length<=at_.toNat),CX (eQ _)];simp
 ·rw [if_neg ha];by_cases hn:((l.length - at_.toNat:Nat):Int) <n
  ·rw [if_pos hn,sU (by simp;omega),sU (by simp)]
  ·rw [if_neg hn]
theorem Ja {w:World} {v:Value} {l:aH} (h:aC w v l) (at_ n:Int) (h0:0<=at_) (h1:0<=n) (hb:l.length<=140737488355328):bF 86 #[v,.int .i64 at_,.int .i64 n] w (nW w (gV l at_ n)):=by
 rw [I9 l at_ n h0 h1];obtain ⟨a,c,rfl,wY,pA⟩:=h.aG;unfold maxLen at pA;have dI:=pG w at_ (l.length:Int);rw [ru] at dI;have lf:=EB at_ l.length;generalize nS at_ l.length=i at*;have Dc:=λw=>pG w n ((l.length - i:Nat):Int);simp only [ru] at Dc;have VC:=EB n (l.length - i);generalize nS n (l.length - i)=j at*;have qy:=λw=>BI w a l.length c i j (by omega);have hcut:=h.SC i j (by omega);have cU:((l.drop i).take j).length=j:=by simp;omega
 generalize (if c=i then a else Option.map (λx=>x.add i) a)=y at*;have AI:((l.length - i:Nat):Int)=(l.length:Int) - (i:Int):=by omega
 rw [AI] at Dc;have i0:=np i;have i1:(i:Int)<=l.length:=by omega
 have i2:(j:Int)<=(l.length:Int) - i:=by omega
 have i4:(l.length:Int)<=140737488355328:=by omega
 have AZ:=fO hcut (by rw [cU];omega);have yH:=ae AZ;have HSL:=ae qy;have VY:=ae Dc;go_enter Tryz.func86,Tryz.ntmps86;go_wp2_with fail;refine gU dI.Z ?_;have qy:=HSL.Z;go_wp2_with fail;refine gU (VY.Z _).Z ?_;go_wp2_with fail;refine yH.Z.mono ?_;rintro e w2 ⟨v2,rfl,dy,cg⟩;obtain ⟨a2,c2,rfl,_,_⟩:=dy.bytes.aG;simp only [cU] at dy ⊢;have HO:=ae dy;have HK:=ae cg;go_wp2;go_ret;exact ⟨_,rfl,HO.Z,HK.Z⟩
theorem Jb (n:Int) (most:Nat):nS n most=fx n most:=rfl
theorem xl:∀ {ps:List Value} {cs:List Ch} (i:Nat) {p:Value} {c:Ch},ps[i]?=some p->cs[i]?=some c->(fF ps cs)[i*4]?=some (.int .i64 c.kind)/\(fF ps cs)[i*4+1]?=some (.string c.a)/\(fF ps cs)[i*4+2]?=some (.string c.b)/\(fF ps cs)[i*4+3]?=some p
 | q::ps,g::cs,0,p,c,hp,hc=>by
  simp at hp hc;subst hp;subst hc;exact ⟨rfl,rfl,rfl,rfl⟩
 | q::ps,g::cs,i+1,p,c,hp,hc=>by
  have:=xl (ps:=ps) (cs:=cs) i (by simpa using hp) (by simpa using hc);rw [show (i+1)*4=i*4+1+1+1+1 by omega];simpa [fF] using this
 | [],_,i,_,_,hp,_=>by simp at hp
 | _::_,[],i,_,_,_,hc=>by simp at hc
theorem fZ.cell {F:Nat->Prop} {w:World} {v:Value} {cs:List Ch} (h:fZ F w v cs) {i:Nat} {c:Ch} (hc:cs[i]?=some c): ∃ g cap p,v= .slice (some ⟨g,0,none⟩) cs.length cap/\cs.length<=cap/\w.cell? ⟨g,i*4,none⟩=some (.int .i64 c.kind)/\w.cell? ⟨g,i*4+1,none⟩=some (.string c.a)/\w.cell? ⟨g,i*4+2,none⟩=some (.string c.b)/\w.cell? ⟨g,i*4+3,none⟩=some p/\bQ F w p c.p/\F g:=by
 obtain ⟨ps,h1,h2,h3⟩:=h;obtain ⟨p,hp,hB⟩:=h1.wV hc;have qg:=xl i hp hc;rcases h2.2 with ⟨rfl,e⟩ | ⟨g,cap,gp,rfl,_,hb,h4,_⟩
 ·have:=(List.getElem?_eq_some_iff.1 hc).1;omega
 ·have jP:∀ j u,(fF ps cs)[j]?=some u->w.cell? ⟨g,j,none⟩=some u:=λj u hu=>by have:=h2.cells (g:=g) rfl j u hu;simpa [iV] using this
  exact ⟨g,cap,p,rfl,h4,jP _ _ qg.1,jP _ _ qg.2.1,jP _ _ qg.2.2.1,jP _ _ qg.2.2.2,hB,h3 g rfl⟩
theorem Mj {F:Nat->Prop} {w w6:World} {r:Nat} {vn vs vl v6:Value} {m:DM} {fs:FS} (h:eP F w r vn vs vl m) (h6:cI (fX F w w6) w6 v6 fs) (k6:ak w w6): eP (fX F w w6) (w6.setCell ⟨r,2,none⟩ v6) r vn v6 vl {m with sure:=fs}/\ah F w (w6.setCell ⟨r,2,none⟩ v6)/\w6.cell? ⟨r,2,none⟩=some vs/\w6.frozen? ⟨r,2,none⟩=false:=by have Hf:=k6.at h.mq (λe=>e);have hG:∀ b,fX F w w6 b->b <w6.heap.size:=oJ h.lt k6.size;refine ⟨eP.store Hf (by rw [bf Hf];rfl) (λb hb=>kS _ _ _ _ hb) (.inl h.fr) (h.aN.quiet k6 (λb hb _=> .inl hb)) h6 (h.aw.quiet k6 (λb hb _=> .inl hb)) hG,(k6.any (F:=F)).setCell (p:=⟨r,2,none⟩) (λ_=>h.fr) _,ag Hf rfl,cL Hf 2⟩
theorem Jc {F:Nat->Prop} {w:World} {r:Nat} {vn vs vl:Value} {m:DM} (h:eP F w r vn vs vl m) (c:Ch) (hs:bp m.sure) (hm:Zk m.sure c) {pv:Value} (hp:aC w pv c.p) (hl:m.sure.length <549755813888) (jd:c.kind=1->((aZ m.sure c.a).getD []).length+c.p.length<=140737488355328): bF 132 #[vs,.agg #[.int .i64 c.kind,.string c.a,.string c.b,pv]] w (λe w6=>∃ a6 c6,e= .returned (.slice a6 (bW m.sure c).length c6)/\w6.cell? ⟨r,2,none⟩=some vs/\w6.frozen? ⟨r,2,none⟩=false/\ eP (fX F w w6) (w6.setCell ⟨r,2,none⟩ (.slice a6 (bW m.sure c).length c6)) r vn (.slice a6 (bW m.sure c).length c6) vl {m with sure:=bW m.sure c}/\ah F w (w6.setCell ⟨r,2,none⟩ (.slice a6 (bW m.sure c).length c6))):=by refine (Ey h.sure h.lt hs c hm hp hl jd).mono ?_;rintro e w6 ⟨v6,rfl,h6,k6⟩;obtain ⟨a6,c6,rfl,_,_⟩:=h6.aG;obtain ⟨q1,q2,q3,q4⟩:=Mj h h6 k6;exact ⟨a6,c6,rfl,q3,q4,q1,q2⟩
theorem lG (w:World):w.drew.heap.size=w.heap.size:=rfl
theorem aC.abh {w:World} {a:Option Addr} {n c:Nat} {l:aH} (h:aC w (.slice a n c) l) (j:Nat) (hj:j<=l.length):aC w (.slice a j c) (l.take j):=by
 have hl:(l.take j).length=j:=by rw [nM];omega
 rcases h with ⟨e,rfl⟩ | ⟨x,c',e,h1,h2,h3⟩
 ·cases e;have:j=0:=by simpa using hj
  subst this;exact .inl ⟨rfl,rfl⟩
 ·cases e;refine .inr ⟨x,c,by rw [hl],by omega,h2,λi u hu=>h3 i u ?_⟩;rw [jc,Bc] at hu;split at hu
  ·rw [jc];exact hu
  ·cases hu
theorem Jd (w:World) (a:Option Addr) (n c j:Nat) (h1:j<=c):(Instr.sliceAt 22 (.slice a n c) none (some (.int .i64 (j:Int))) none).run Tryz.prog w= .ok (.slice a j c) w:=by
 rw [run_sliceAt_slice _ _ _ _ _ _ dG,run_slice_h w 22 a n c dG .i64 (j:Int) (by omega) (by omega),lT];simp only [Result.andThen,sliced,yn,Nat.zero_mul,Nat.sub_zero];have:(a.map λx=>x.add 0)=a:=by cases a with
  | none=>rfl
  | some x=>simp [Addr.add_zero']
 rw [this];simp
def BK (F:Nat->Prop) (w:World) (r:Nat) (m:DM) (e:Ending) (w':World):Prop:=e= .returned (.tuple #[])/\kI (fX F w w') w' r m/\ah F w w'
theorem P8 {l:List Ch} {k:Nat} {c:Ch} (h:l[k]?=some c) (fs:FS):(l.take (k+1)).foldl bW fs=bW ((l.take k).foldl bW fs) c:=by rw [ym,h];simp
theorem wg {F:Nat->Prop} {w wz:World} {r:Nat} {vn vs vl:Value} {m:DM} {fs:FS} (h:eP (fX F w wz) wz r vn vs vl {m with sure:=fs}) (hq:ah F w wz) (aX:∀ b,F b->b <w.heap.size) (hr:F r):
  BK F w r (gD m fs) (.returned (.tuple #[])) ((((wz.setCell ⟨r,1,none⟩ vs).setCell ⟨r,3,none⟩ (.slice none 0 0)).setCell ⟨r,4,none⟩ (.int .i64 (-1))).setCell ⟨r,5,none⟩ (.bool false)):=by
 have hb:=h.mq;have h1:(wz.setCell ⟨r,1,none⟩ vs).heap[r]?=_:=bf hb 1 vs;have h3:((wz.setCell ⟨r,1,none⟩ vs).setCell ⟨r,3,none⟩ (.slice none 0 0)).heap[r]?=_:=bf h1 3 _;have h4:(((wz.setCell ⟨r,1,none⟩ vs).setCell ⟨r,3,none⟩ (.slice none 0 0)).setCell ⟨r,4,none⟩ (.int .i64 (-1))).heap[r]?=_:=bf h3 4 _;have h5:((((wz.setCell ⟨r,1,none⟩ vs).setCell ⟨r,3,none⟩ (.slice none 0 0)).setCell ⟨r,4,none⟩ (.int .i64 (-1))).setCell ⟨r,5,none⟩ (.bool false)).heap[r]?=_:=bf h4 5 _;have hz:((((wz.setCell ⟨r,1,none⟩ vs).setCell ⟨r,3,none⟩ (.slice none 0 0)).setCell ⟨r,4,none⟩ (.int .i64 (-1))).setCell ⟨r,5,none⟩ (.bool false)).heap.size=wz.heap.size:=by simp
 refine ⟨rfl,⟨vs,vs,.slice none 0 0, ?_⟩, ?_⟩
 ·have hh:eP (fX F w wz) ((((wz.setCell ⟨r,1,none⟩ vs).setCell ⟨r,3,none⟩ (.slice none 0 0)).setCell ⟨r,4,none⟩ (.int .i64 (-1))).setCell ⟨r,5,none⟩ (.bool false)) r vs vs (.slice none 0 0) (gD m fs):=
   eP.store hb (by rw [h5];rfl) (λb pg=>by rw [kS _ _ _ _ pg,kS _ _ _ _ pg,kS _ _ _ _ pg,kS _ _ _ _ pg]) h.fr h.sure h.sure (fZ.nil _ _) h.lt
  unfold fX at hh ⊢;rw [hz];exact hh
 ·exact (((hq.setCell (p:=⟨r,1,none⟩) (λ_=>hr) _).setCell (p:=⟨r,3,none⟩) (λ_=>hr) _).setCell (p:=⟨r,4,none⟩) (λ_=>hr) _).setCell (p:=⟨r,5,none⟩) (λ_=>hr) _
theorem FZ {F:Nat->Prop} {w:World} {r:Nat} {m:DM} (h:kI F w r m) {n t:Nat} (ht:Tidy m n t) (mN:t <549755813888) (keep part:Int): bF 85 #[.pointer (some ⟨r,0,none⟩),.int .i64 keep,.int .i64 part] w (BK F w r (cX m keep part)):=by
 obtain ⟨vn,vs,vl,h⟩:=h;obtain ⟨la,lc,rfl⟩:=h.aw.aG;obtain ⟨na,nc,rfl,_,_⟩:=h.aN.aG;have aX:=h.lt;have c3:=h.cells.c3;have dI:=pG w keep (m.aw.length:Int);rw [ru,Jb] at dI;have acU:=mD keep m.aw.length;have cU:=ht.len;obtain ⟨K,hK⟩:=cE (fx keep m.aw.length);rw [<-hK] at dI acU;have Va:=ae h.fr;have H:=ae h;have HT:=ae ht;have CR:=ae hK;have i0:=np K;have i1:(K:Int)<=(m.aw.length:Int):=by omega
 have i2:(m.aw.length:Int)<=549755813888:=by omega
 clear h ht hK;go_enter Tryz.func85,Tryz.ntmps85;go_wp2_with fail;refine dI.Z.mono ?_;rintro e w' ⟨rfl,rfl⟩;clear dI;go_wp2_with fail;go_loopw [6] (λi wx=>∃ (k:Nat) (vs':Value),k<=K/\i= .int .i64 (k:Int)/\eP (fX F w wx) wx r (.slice na m.aN.length nc) vs' (.slice la m.aw.length lc) {m with sure:=(m.aw.take k).foldl bW m.sure}/\ah F w wx) (λi _=>K - (intOf i).toNat);case atStart=>exact ⟨0,vs,fC _,rfl,H.Z.quiet (ah.refl _ _) (λb hb _=> .inl hb) (λb hb=>by rcases hb with hb | hb;exact aX b hb;exact hb.2),ah.refl _ _⟩
 case round=>
  obtain ⟨k,vs',hk,rfl,hr,hq⟩:=hrel;have j0:=np k;by_cases pn:k <K
  ·have j1:(k:Int) <K:=by omega
   have j2:(k:Int) <m.aw.length:=by omega
   obtain ⟨c,hc⟩:∃ c,m.aw[k]?=some c:=⟨m.aw[k],js (by omega)⟩;obtain ⟨sa,sc,rfl,_,_⟩:=hr.sure.aG;obtain ⟨g,cap,p,e,lf,e0,e1,e2,e3,hB,_⟩:=hr.aw.cell hc;simp only [Value.slice.injEq] at e;obtain ⟨rfl,-,rfl⟩:=e;obtain ⟨pa,pc,rfl,_,_⟩:=hB.aG;have mr:=(HT.Z.dQ.fits k c hc).1;have qe:=lF (m.aw.take k) m.sure;rw [nM] at qe;have gm:eP (fX F w wr) wr.drew r (.slice na m.aN.length nc) _ (.slice (some ⟨g,0,none⟩) m.aw.length lc) {m with sure:=(m.aw.take k).foldl bW m.sure}:=hr.keep (λ_ _=>rfl);have vB:=Jc gm c (bp.fold _ HT.Z.rY) (HT.Z.may k c hc) (hB.keep (aP.refl _ wr).drew (λ_ h _=>h):bQ (fX F w wr) wr.drew _ c.p).reads (by simp only;omega) mr.2;have r2:=hr.cells.c2;have r3:=hr.cells.c3;simp only at vB r2 r3;obtain ⟨ck,cx,cy,cp⟩:=c;simp only at*;have hz:=hq.size;have fP:=ae (λw6 a6 c6=>λ(hx:eP (fX (fX F w wr) wr.drew w6) (w6.setCell ⟨r,2,none⟩ (.slice a6 (bW ((m.aw.take k).foldl bW m.sure) ⟨ck,cx,cy,cp⟩).length c6)) r (.slice na m.aN.length nc) (.slice a6 (bW ((m.aw.take k).foldl bW m.sure) ⟨ck,cx,cy,cp⟩).length c6) (.slice (some ⟨g,0,none⟩) m.aw.length lc) {m with sure:=bW ((m.aw.take k).foldl bW m.sure) ⟨ck,cx,cy,cp⟩}) (hy:ah (fX F w wr) wr.drew (w6.setCell ⟨r,2,none⟩ (.slice a6 (bW ((m.aw.take k).foldl bW m.sure) ⟨ck,cx,cy,cp⟩).length c6)))=>
    (⟨k+1,_,by omega,rfl,by
     rw [P8 hc];have jO:=hy.size;refine hx.quiet (ah.refl _ _) (λb hb _=> ?_) (λb hb=> ?_)
     ·rcases hb with (hb | hb) | hb
      ·exact .inl hb
      ·exact .inr ⟨hb.1,by have:=hb.2;simp only [lG] at jO;omega⟩
      ·exact .inr ⟨by have:=hb.1;simp only [lG] at this;omega,by simpa using hb.2⟩
     ·rcases hb with hb | hb
      ·have:=aX b hb;simp only [lG] at jO;omega
      ·exact hb.2,hq.Bk hy.eD⟩:∃ (k':Nat) (vs':Value),k'<=K/\Value.int .i64 ((k+1:Nat):Int)= .int .i64 (k':Int)/\eP (fX F w (w6.setCell ⟨r,2,none⟩ (.slice a6 (bW ((m.aw.take k).foldl bW m.sure) ⟨ck,cx,cy,cp⟩).length c6))) (w6.setCell ⟨r,2,none⟩ (.slice a6 (bW ((m.aw.take k).foldl bW m.sure) ⟨ck,cx,cy,cp⟩).length c6)) r (.slice na m.aN.length nc) vs' (.slice (some ⟨g,0,none⟩) m.aw.length lc) {m with sure:=(m.aw.take k').foldl bW m.sure}/\ah F w (w6.setCell ⟨r,2,none⟩ (.slice a6 (bW ((m.aw.take k).foldl bW m.sure) ⟨ck,cx,cy,cp⟩).length c6))))
   have uG:=ae vB;clear vB gm hr hq hB mr qe hc hz;generalize (m.aw.take k).foldl bW m.sure=fs0 at*;go_wp2_with fail;go_region_law (first | (refine jn rfl ?_;go_simp;go_at_call 132;refine uG.Z.mono ?_;rintro e w6 ⟨a6,c6,rfl,q1,q2,hx,hy⟩) | fail);all_goals
    have Je:=fP.Z w6 a6 c6 hx hy;have dE:=ae Je;clear Je hx hy fP uG q1 q2;go_wp2;go_roundw;case rel=>exact dE.Z
    case measure=>simp [intOf];omega
  ·obtain rfl:k=K:=by omega
   clear H;obtain ⟨sa,sc,rfl,_,_⟩:=hr.sure.aG;have po:F r:=Va.Z;obtain ⟨r0,r1,r2,r3,r4,r5,rf⟩:=hr.cells;have f1:=rf 1;have f3:=rf 3;have f4:=rf 4;have f5:=rf 5;clear rf;simp only at r0 r1 r2 r3 r4 r5;have hlf:=lF (m.aw.take k) m.sure;rw [nM] at hlf;by_cases IK:k <m.aw.length
   ·have j2:(k:Int) <m.aw.length:=by omega
    obtain ⟨c,hc⟩:∃ c,m.aw[k]?=some c:=⟨m.aw[k],js IK⟩;obtain ⟨g,cap,p,e,lf,e0,e1,e2,e3,hB,_⟩:=hr.aw.cell hc;simp only [Value.slice.injEq] at e;obtain ⟨rfl,-,rfl⟩:=e;obtain ⟨pa,pc,rfl,_,_⟩:=hB.aG;by_cases bN:c.kind=1
    ·obtain ⟨j,hj⟩:=cE (fx part c.p.length);have FF:=mD part c.p.length;rw [<-hj] at FF;have AD:ft m keep part=bW ((m.aw.take k).foldl bW m.sure) {c with p:=c.p.take j}:=by unfold ft;rw [<-CR.Z,hc];simp [bN,hj]
     have Dc:=λw=>pG w part (c.p.length:Int);simp only [ru,Jb,<-hj] at Dc;obtain ⟨ck,cx,cy,cp⟩:=c;simp only at*;subst bN;have acV:=hB.aG;obtain ⟨_,_,epl,adT,_⟩:=acV;simp only [Value.slice.injEq] at epl;obtain ⟨rfl,-,rfl⟩:=epl;have qy:=λw=>Jd w pa cp.length pc j (by omega);obtain ⟨w1,fh⟩:=cE (wr.alloc (.cells #[.int .i64 1,.string cx,.string cy,.slice pa cp.length pc] 176));have abi:ak wr w1:=by rw [fh];exact (ah.refl _ wr).alloc _
     have Mf:w1.heap[wr.heap.size]?=some (.cells #[.int .i64 1,.string cx,.string cy,.slice pa cp.length pc] 176 (0,0)):=by rw [fh];exact heap_alloc_new _ _
     have b13:w1.cell? ⟨wr.heap.size,3,none⟩=some (.slice pa cp.length pc):=ag Mf rfl;have f13:w1.frozen? ⟨wr.heap.size,3,none⟩=false:=cL Mf 3;obtain ⟨w2,zu⟩:=cE (w1.setCell ⟨wr.heap.size,3,none⟩ (.slice pa j pc));have I1:w2.heap[wr.heap.size]?=some (.cells #[.int .i64 1,.string cx,.string cy,.slice pa j pc] 176 (0,0)):=by rw [zu,bf Mf];rfl
     have VZ:ak wr w2:=by rw [zu];exact abi.setCell (p:=⟨wr.heap.size,3,none⟩) (λhb=>by simp only at hb;omega) _
     have CP:eP (fX F w wr) w2.drew.drew r (.slice na m.aN.length nc) (.slice sa (List.length ((m.aw.take k).foldl bW m.sure)) sc) (.slice (some ⟨g,0,none⟩) m.aw.length lc) {m with sure:=(m.aw.take k).foldl bW m.sure}:=hr.keep (λb hb=>VZ.block b (hr.lt b hb) (λe=>e));have mr:=(HT.Z.dQ.fits k _ hc).2 j;have Db:=HT.Z.may k _ hc;have vB:=Jc CP ⟨1,cx,cy,cp.take j⟩ (bp.fold _ HT.Z.rY) ⟨by simp,λe=>by simp at e,λ_=>Db.2.2 (by simp)⟩ (pv:= .slice pa j pc) ((hB.keep (aP.iq VZ) (λ_ h _=>h):bQ (fX F w wr) w2 _ cp).reads.abh j FF) (by simp only;omega) mr.2;simp only at vB;have uG:=ae vB;have q2:=CP.cells.c2;have q2':w2.cell? ⟨r,2,none⟩=some (.slice sa (List.length ((m.aw.take k).foldl bW m.sure)) sc):=q2;have g0:w2.cell? ⟨wr.heap.size,0,none⟩=some (.int .i64 1):=ag I1 rfl;have g1:w2.cell? ⟨wr.heap.size,1,none⟩=some (.string cx):=ag I1 rfl;have g2:w2.cell? ⟨wr.heap.size,2,none⟩=some (.string cy):=ag I1 rfl;have g3:w2.cell? ⟨wr.heap.size,3,none⟩=some (.slice pa j pc):=ag I1 rfl;have HQ:=ae hq;have V0:=ae VZ;have HFS:=ae AD;clear vB CP hr hq hB hc hlf lf mr Db abi VZ Mf I1 q2 AD hj;generalize (m.aw.take k).foldl bW m.sure=fs0 at*;go_wp2_with fail;rw [<-fh];clear fh;go_region_law (first | (refine jn rfl ?_;go_simp;go_at_call 140;refine (Dc _).Z.mono ?_;rintro e w' ⟨rfl,rfl⟩) | fail);all_goals
      rw [<-zu];clear zu;go_wp2_with fail;go_region_law (first | (refine jn rfl ?_;go_simp;go_at_call 132;refine uG.Z.mono ?_;rintro e w6 ⟨a6,c6,rfl,q1,q2,hx,hy⟩) | fail)
     all_goals
      obtain ⟨wz,hwz⟩:=cE (w6.setCell ⟨r,2,none⟩ (.slice a6 (bW fs0 ⟨1,cx,cy,cp.take j⟩).length c6));have acW:wz.heap.size=w6.heap.size:=by rw [hwz];simp
      rw [<-hwz] at hx hy ⊢;clear hwz q1 q2 uG r0 r1 r2 r3 r4 r5 f1 f3 f4 f5 e0 e1 e2 e3 g0 g1 g2 g3 b13 f13;have P9:=V0.Z.size;have iI:ah F w wz:=HQ.Z.Bk (V0.Z.drew.drew.any.trans hy (λ_ _ e=>e));have hyz:=hy.size;have hqz:=HQ.Z.size;simp only [lG] at hyz;have FM:eP (fX F w wz) wz r (.slice na m.aN.length nc) (.slice a6 (bW fs0 ⟨1,cx,cy,cp.take j⟩).length c6) (.slice (some ⟨g,0,none⟩) m.aw.length lc) {m with sure:=bW fs0 ⟨1,cx,cy,cp.take j⟩}:=hx.quiet (ah.refl _ wz) (λb hb _=>by
       rcases hb with (hb | hb) | hb
       ·exact .inl hb
       ·exact .inr ⟨hb.1,by omega⟩
       ·exact .inr ⟨by have:=hb.1;simp only [lG] at this;omega,by omega⟩) (λb hb=>by
       rcases hb with hb | hb
       ·have:=aX b hb;omega
       ·exact hb.2)
      have eJ:=wg FM iI aX po;rw [show gD m (bW fs0 ⟨1,cx,cy,cp.take j⟩)=cX m keep part by unfold cX;rw [HFS.Z]] at eJ;obtain ⟨r0,r1,r2,r3,r4,r5,rf⟩:=FM.cells;have f1:=rf 1;have f3:=rf 3;have f4:=rf 4;have f5:=rf 5;simp only at r0 r1 r2 r3 r4 r5;have P7:=ae eJ;clear rf eJ FM hx hy iI hyz hqz P9 acW HQ V0 HFS;go_wp2;go_end0;exact P7.Z
    ·have AD:ft m keep part=(m.aw.take k).foldl bW m.sure:=by unfold ft;rw [<-CR.Z,hc];simp [bN]
     have qB:(c.kind==1)=false:=by simpa using bN
     have eJ:=wg hr hq aX po;rw [show gD m ((m.aw.take k).foldl bW m.sure)=cX m keep part by unfold cX;rw [AD]] at eJ;have P7:=ae eJ;clear eJ AD hr hq hB hc hlf lf;go_wp2;go_end0;exact P7.Z
   ·have Oo:m.aw[k]?=none:=RP (by omega);have AD:ft m keep part=(m.aw.take k).foldl bW m.sure:=by unfold ft;rw [<-CR.Z,Oo]
    have j2:¬(k:Int) <m.aw.length:=by omega
    have eJ:=wg hr hq aX po;rw [show gD m ((m.aw.take k).foldl bW m.sure)=cX m keep part by unfold cX;rw [AD]] at eJ;have P7:=ae eJ;clear eJ AD hr hq hlf Oo;go_wp2;go_end0;exact P7.Z
def A4 (m:DM) (P:FS->Prop):Prop:=∀ keep part:Int,P (ft m keep part)
theorem A4.mono {m:DM} {P Q:FS->Prop} (h:A4 m P) (hPQ:∀ fs,P fs->Q fs):A4 m Q:=λk p=>hPQ _ (h k p)
theorem A4.same {m m':DM} {P:FS->Prop} (h:A4 m P) (h1:m'.aw=m.aw) (h2:m'.sure=m.sure):A4 m' P:=by intro k p;have:=h k p;unfold ft at this ⊢;rw [h1,h2];exact this
theorem BL (k most:Nat) (h:k<=most):fx (k:Int) most=k:=by unfold fx;rw [if_neg (by omega),if_neg (by omega)];simp
theorem A4.aN {m:DM} {n:Nat} {P:FS->Prop} (hg:Good m n) (h:A4 m P):P m.aN:=by have:=h (m.aw.length:Int) 0;unfold ft at this;rw [BL _ _ (eQ _),jX,<-hg.aN] at this;simpa using this
theorem A4.one {m:DM} {P:FS->Prop} (h1:m.aw=[]) (h:P m.sure):A4 m P:=by intro k p;unfold ft;rw [h1];simpa using h
theorem A4.Qa {m m':DM} {n:Nat} {P:FS->Prop} (hg:Good m n) (h:A4 m P) (c:Ch) (hl:m'.aw=m.aw++[c]) (hs:m'.sure=m.sure) (h0:c.kind≠1->P (bW m.aN c)) (h1:c.kind=1->∀ i,P (bW m.aN {c with p:=c.p.take i})):A4 m' P:=by
 intro k p;have SD:=h.aN hg;have lf:=mD k m'.aw.length;unfold ft;generalize hK:fx k m'.aw.length=K at lf ⊢;rw [hs];rw [hl] at lf ⊢;simp only [fS,iM,gN] at lf;rcases Nat.lt_or_ge K m.aw.length with aX | Ld
 ·have hi:=h (K:Int) p;unfold ft at hi;rw [BL K _ (by omega)] at hi;rw [CW (by omega),K0 aX];exact hi
 ·rcases Nat.lt_or_ge m.aw.length K with h2 | h2
  ·obtain rfl:K=m.aw.length+1:=by omega
   rw [sU (by simp),RP (by simp),Hr,<-hg.aN];simp only [List.foldl_cons,List.foldl_nil];by_cases hk:c.kind=1
   ·have:=h1 hk c.p.length;rw [jX] at this;exact this
   ·exact h0 hk
  ·obtain rfl:K=m.aw.length:=by omega
   rw [CW (eQ _),jX,<-hg.aN,List.getElem?_append_right (eQ _),CZ];simp only [vP];by_cases hk:c.kind=1
   ·rw [if_pos hk];exact h1 hk _
   ·rw [if_neg hk];exact SD
structure Did (m:DM) (c:Ch) (r:Int × DM):Prop where
 code:r.1=0
 bh:r.2.bh=m.bh
 aN:r.2.aN=bW m.aN c
 aw:r.2.aw=m.aw++[c]
 sure:r.2.sure=m.sure
 aR:r.2.aR=m.aR
structure V1 (m:DM) (r:Int × DM):Prop where
 code:r.1=5
 bh:r.2.bh=true
 aN:r.2.aN=m.aN
 aw:r.2.aw=m.aw
 sure:r.2.sure=m.sure
 aR:r.2.aR=m.aR
theorem BM (m:DM):(aS m).2.aR=m.aR/\(m.cC≠0->(aS m).2.bh=m.bh):=by
 unfold aS;split
 ·exact ⟨rfl,λh=>absurd ‹_› h⟩
 ·split <;>exact ⟨rfl,λ_=>rfl⟩
theorem Mk (m:DM) (c:Ch):Did m c (dB m c)\/V1 m (dB m c):=by
 unfold dB;by_cases h:m.cC=0
 ·rw [if_pos h];exact .inr ⟨rfl,rfl,rfl,rfl,rfl,rfl⟩
 ·rw [if_neg h];obtain ⟨e1,e2,e3,e4⟩:=mH (m:=m);obtain ⟨s1,s2⟩:=BM m;exact .inl ⟨rfl,s2 h,rfl,rfl,e2,s1⟩
theorem V1.Jf {m:DM} {r:Int × DM} {P:FS->Prop} (h:V1 m r) (hi:A4 m P):A4 r.2 P:=hi.same h.aw h.sure
theorem Did.Jf {m:DM} {n:Nat} {c:Ch} {r:Int × DM} {P:FS->Prop} (h:Did m c r) (hg:Good m n) (hi:A4 m P) (h0:c.kind≠1->P (bW m.aN c)) (h1:c.kind=1->∀ i,P (bW m.aN {c with p:=c.p.take i})):A4 r.2 P:=
 hi.Qa hg c h.aw h.sure h0 h1
structure Ml (m:DM) (r:Int × DM):Prop where
 code:r.1=0
 bh:r.2.bh=false
 aN:r.2.aN=m.aN
 aw:r.2.aw=[]
 sure:r.2.sure=m.aN
 aR:r.2.aR=m.aR
theorem Mm {m:DM} {n:Nat} (hg:Good m n) (hd:m.bh=false):Ml m (aV m)\/V1 m (aV m):=by
 unfold aV;rw [hd];simp only [nP,if_false];by_cases h:m.cC=0
 ·rw [if_pos h];exact .inr ⟨rfl,rfl,rfl,rfl,rfl,rfl⟩
 ·rw [if_neg h];obtain ⟨e1,e2,e3,e4⟩:=mH (m:=m);obtain ⟨s1,s2⟩:=BM m;exact .inl ⟨rfl,by rw [<-hd];exact s2 h,e1,rfl,by rw [hg.aN];rfl,s1⟩
theorem Ml.Jf {m:DM} {n:Nat} {r:Int × DM} {P:FS->Prop} (h:Ml m r) (hp:P m.aN):A4 r.2 P:=A4.one h.aw (by rw [h.sure];exact hp)
theorem Dd {fs:FS} (hn:bX fs) (h:∀ n,aZ fs n=none):fs=[]:=by
 cases fs with
 | nil=>rfl
 | cons p fs=>have:=h p.1;rw [show aZ (p::fs) p.1=some p.2 by simp [aZ]] at this;cases this
theorem Qb {rs:List aH} {t p:aH} {i:Nat} (h:∀ q ∈ rs,q.length<=1048576) (hp:p.length<=1048576) (hi:i <(bu p).length) (ht:t=(bu p).take i):dJ (aj rs++t)=(rs,(aj rs).length):=by
 have pD:=dh p;have yG:t.length=i:=by rw [ht,nM];omega
 have hsc:=tu (post:=t) h rfl;have hn:¬iw (aj rs++t) (aj rs).length:=by
  rintro ⟨h1,h2,h3,_⟩;rw [fS,yG] at h1 h3;have hw:cN (aj rs++t) (aj rs).length=p.length:=by
   have e:t=aL p.length 4++(aL (jQ (aL p.length 4++p)) 4++p).take (i - 4):=by rw [ht];unfold bu;rw [lN,List.take_append,ax,sU (by rw [ax];omega)]
   rw [yz (x:=aL p.length 4) (pre:=aj rs) (post:=(aL (jQ (aL p.length 4++p)) 4++p).take (i - 4)) (by rw [<-e]) rfl (ax _ _)];exact eO 4 _ (by omega)
  rw [hw] at h3;omega
 rw [hsc,cS,if_neg hn];simp
abbrev Fn:=aD->Option aH
def fE (g:Fn) (n:aD) (b:aH):Fn:=λx=>if x=n then some b else g x
def fo (g:Fn) (n:aD):Fn:=λx=>if x=n then none else g x
theorem iT (g:Fn) (n:aD) (b:aH):fE g n b n=some b:=by simp [fE]
theorem mO (g:Fn) {n k:aD} (b:aH) (h:k≠n):fE g n b k=g k:=by simp [fE,h]
theorem yK (g:Fn) (n:aD):fo g n n=none:=by simp [fo]
theorem km (g:Fn) {n k:aD} (h:k≠n):fo g n k=g k:=by simp [fo,h]
theorem Qc (g:Fn) (n:aD) (a b:aH):fE (fE g n a) n b=fE g n b:=by funext x;simp only [fE];split <;>rfl
theorem EC (g:Fn) (n:aD) (b:aH):fE (fo g n) n b=fE g n b:=by funext x;simp only [fE,fo];split <;>rfl
theorem Qd (g:Fn) (n:aD) (b:aH):fo (fE g n b) n=fo g n:=by funext x;simp only [fE,fo];split <;>rfl
theorem ED {g:Fn} {n:aD} (h:g n=none):fo g n=g:=by
 funext x;simp only [fo];split
 ·rename_i e;rw [e,h]
 ·rfl
theorem oO {fs:FS} (h:bX fs) (n:aD) (b:aH):aZ (dY fs n b)=fE (aZ fs) n b:=by
 funext x;by_cases e:x=n
 ·subst e;rw [gO h,iT]
 ·rw [df h _ _ _ (Ne.symm e),mO _ _ e]
theorem rv (fs:FS) (n:aD):aZ (bV fs n)=fo (aZ fs) n:=by
 funext x;by_cases e:x=n
 ·subst e;rw [s5,yK]
 ·rw [ik _ _ _ (Ne.symm e),km _ e]
def Hh (g:Fn) (c:Ch):Fn:=
 if c.kind=0 then fE g c.a []
 else if c.kind=1 then fE g c.a ((g c.a).getD []++c.p)
 else if c.kind=2 then fo g c.a
 else if c.kind=3 then (if c.a=c.b then fE g c.b ((g c.a).getD []) else fo (fE g c.b ((g c.a).getD [])) c.a)
 else g
theorem yL {fs:FS} (h:bX fs) (c:Ch):aZ (bW fs c)=Hh (aZ fs) c:=by
 unfold bW Hh;split
 ·exact oO h _ _
 ·split
  ·exact oO h _ _
  ·split
   ·exact rv _ _
   ·split
    ·split
     ·exact oO h _ _
     ·rw [rv,oO h]
    ·rfl
def Holds (g:Fn) (U K:Nat):Prop:=∀ fs,bX fs->aZ fs=g->used fs<=U/\fs.length<=K
theorem Holds.mono {g:Fn} {U K U' K':Nat} (h:Holds g U K) (hU:U<=U') (hK:K<=K'):Holds g U' K':=λfs h1 h2=>by obtain ⟨a,b⟩:=h fs h1 h2;exact ⟨by omega,by omega⟩
theorem Holds.empty:Holds (λ_=>none) 0 0:=λfs h1 h2=>by have:fs=[]:=Dd h1 (λn=>by rw [h2]);subst this;exact ⟨eQ _,eQ _⟩
theorem tI {fs:FS} (hn:bX fs) (n:aD):fs.length<=(bV fs n).length+1:=by
 induction fs with
 | nil=>simp
 | cons p fs ih=>
  by_cases e:p.1=n
  ·subst e;have h':p.1 ∉ fs.map (·.1):=(List.nodup_cons.1 hn).1;have:bV (p::fs) p.1=fs:=by
    have:bV (p::fs) p.1=bV fs p.1:=by simp [bV]
    rw [this,lu h']
   rw [this];simp
  ·have e2:bV (p::fs) n=p::bV fs n:=by simp [bV,e]
   rw [e2,iM,iM];have:=ih (List.nodup_cons.1 hn).2;omega
theorem Holds.set {g:Fn} {n:aD} {U K:Nat} (h:Holds (fo g n) U K) (b:aH):Holds (fE g n b) (U+b.length) (K+1):=λfs h1 h2=>by obtain ⟨a,c⟩:=h (bV fs n) (h1.bV n) (by rw [rv,h2,Qd]);have u:=lw h1 n;have l:=tI h1 n;rw [h2,iT] at u;simp only [Fx] at u;exact ⟨by omega,by omega⟩
theorem Holds.SE {g:Fn} {n:aD} {U K L:Nat} (h:Holds (fo g n) U K) (hL:((g n).getD []).length<=L):Holds g (U+L) (K+1):=λfs h1 h2=>by obtain ⟨a,c⟩:=h (bV fs n) (h1.bV n) (by rw [rv,h2]);have u:=lw h1 n;have l:=tI h1 n;rw [h2] at u;exact ⟨by omega,by omega⟩
theorem Holds.clr {g:Fn} {U K:Nat} (h:Holds g U K) (n:aD):Holds (fo g n) U K:=λfs h1 h2=>by
 by_cases e:∃ b,g n=some b
 ·obtain ⟨b,e⟩:=e;have h3:bX (dY fs n b):=h1.dY n b;obtain ⟨a,c⟩:=h (dY fs n b) h3 (by
   rw [oO h1,h2,EC];funext x;simp only [fE];split
   ·rename_i e2;rw [e2,e]
   ·rfl)
  have u:=iP h1 n b;have hg:aZ fs n=Option.none:=by rw [h2,yK]
  rw [hg] at u;simp only [Option.getD_none,gN] at u;have l:=Is (fs:=fs) n b;rw [lu (vA hg)] at l;exact ⟨by omega,by omega⟩
 ·have hg:g n=Option.none:=by
   cases hx:g n with
   | none=>rfl
   | some b=>exact absurd ⟨b,hx⟩ e
  rw [ED hg] at h2;exact h fs h1 h2
structure Up (aR:Int) (P:Fn->Prop) (g:Fn) (m:DM) (n:Nat):Prop where
 dQ:Good m n
 aR:m.aR=aR
 bh:m.bh=false
 Jf:A4 m (λfs=>P (aZ fs))
 aN:aZ m.aN=g
structure Dn (aR:Int) (P:Fn->Prop) (m:DM) (n:Nat):Prop where
 dQ:Good m n
 aR:m.aR=aR
 bh:m.bh=true
 Jf:A4 m (λfs=>P (aZ fs))
theorem Up.mono {aR:Int} {P Q:Fn->Prop} {g:Fn} {m:DM} {n k:Nat} (h:Up aR P g m n) (hPQ:∀ x,P x->Q x) (hk:n<=k):Up aR Q g m k:=⟨h.dQ.mono hk,h.aR,h.bh,h.Jf.mono (λ_ hf=>hPQ _ hf),h.aN⟩
theorem Dn.mono {aR:Int} {P Q:Fn->Prop} {m:DM} {n k:Nat} (h:Dn aR P m n) (hPQ:∀ x,P x->Q x) (hk:n<=k):Dn aR Q m k:=⟨h.dQ.mono hk,h.aR,h.bh,h.Jf.mono (λ_ hf=>hPQ _ hf)⟩
theorem Up.holds {aR:Int} {P:Fn->Prop} {g:Fn} {m:DM} {n:Nat} (h:Up aR P g m n):P g:=by have:=h.Jf.aN h.dQ;rw [h.aN] at this;exact this
theorem Up.there {aR:Int} {P:Fn->Prop} {g:Fn} {m:DM} {n:Nat} (h:Up aR P g m n) (f:aD):aF m f=if (g f).isSome then 0 else 6:=by unfold aF;rw [h.bh,h.aN];rfl
def F4 (g:Fn) (c:Ch) (x:Fn):Prop:=(c.kind≠1/\x=Hh g c)\/(c.kind=1/\∃ i,x=Hh g {c with p:=c.p.take i})
theorem Up.step {aR:Int} {P:Fn->Prop} {g:Fn} {m:DM} {n:Nat} (h:Up aR P g m n) (c:Ch) {r:Int × DM} (hr:r=dB m c) (Eo:Good r.2 (n+1)): (r.1=0/\Up aR (λx=>P x\/F4 g c x) (Hh g c) r.2 (n+1))\/(r.1=5/\Dn aR P r.2 (n+1)):=by
 have hn:=h.dQ.LF;rcases Mk m c with hd | hd
 ·rw [<-hr] at hd;refine .inl ⟨hd.code,⟨Eo,hd.aR.trans h.aR,hd.bh.trans h.bh, ?_,by rw [hd.aN,yL hn,h.aN]⟩⟩;refine hd.Jf h.dQ (h.Jf.mono (λ_ hf=> .inl hf)) (λe=> .inr (.inl ⟨e,by rw [yL hn,h.aN]⟩)) (λe i=> .inr (.inr ⟨e,i,by rw [yL hn,h.aN]⟩))
 ·rw [<-hr] at hd;exact .inr ⟨hd.code,Eo,hd.aR.trans h.aR,hd.bh,hd.Jf h.Jf⟩
theorem abj (g:Fn) (a:aD):Hh g ⟨0,a,⟨#[]⟩,[]⟩=fE g a []:=by simp [Hh]
theorem abk (g:Fn) (a:aD) (p:aH):Hh g ⟨1,a,⟨#[]⟩,p⟩=fE g a ((g a).getD []++p):=by simp [Hh]
theorem V2 (g:Fn) (a:aD):Hh g ⟨2,a,⟨#[]⟩,[]⟩=fo g a:=by simp [Hh]
theorem abl (g:Fn) (a b:aD) (h:a≠b):Hh g ⟨3,a,b,[]⟩=fo (fE g b ((g a).getD [])) a:=by simp [Hh,h]
theorem Up.dZ {aR:Int} {P:Fn->Prop} {g:Fn} {m:DM} {n:Nat} (h:Up aR P g m n) {f:aD} {b:aH} (hf:g f=some b): ((aE m f).1=0/\Up aR (λx=>P x\/x=fo g f) (fo g f) (aE m f).2 (n+1))\/((aE m f).1=5/\Dn aR P (aE m f).2 (n+1)):=by
 have gK:aF m f=0:=by rw [h.there,hf];rfl
 have hr:aE m f=dB m ⟨2,f,⟨#[]⟩,[]⟩:=by unfold aE;rw [gK];rfl
 rcases h.step ⟨2,f,⟨#[]⟩,[]⟩ hr (h.dQ.dZ f) with ⟨c,F5⟩ | ⟨c,hd⟩
 ·rw [V2] at F5;refine .inl ⟨c,F5.mono (λx hx=>hx.imp id (λhx=> ?_)) (eQ _)⟩;rcases hx with ⟨_,e⟩ | ⟨e,_⟩
  ·rw [e,V2]
  ·simp at e
 ·exact .inr ⟨c,hd⟩
theorem Up.rename {aR:Int} {P:Fn->Prop} {g:Fn} {m:DM} {n:Nat} (h:Up aR P g m n) {f k:aD} {b:aH} (hf:g f=some b) (hk:bU k=true) (dO:f≠k): ((bw m f k).1=0/\Up aR (λx=>P x\/x=fo (fE g k b) f) (fo (fE g k b) f) (bw m f k).2 (n+1))\/((bw m f k).1=5/\Dn aR P (bw m f k).2 (n+1)):=by
 have gK:aF m f=0:=by rw [h.there,hf];rfl
 have hr:bw m f k=dB m ⟨3,f,k,[]⟩:=by unfold bw;rw [gK,if_pos rfl,hk];rfl
 rcases h.step ⟨3,f,k,[]⟩ hr (h.dQ.rename f k) with ⟨c,F5⟩ | ⟨c,hd⟩
 ·rw [abl _ _ _ dO,hf] at F5;refine .inl ⟨c,F5.mono (λx hx=>hx.imp id (λhx=> ?_)) (eQ _)⟩;rcases hx with ⟨_,e⟩ | ⟨e,_⟩
  ·rw [e,abl _ _ _ dO,hf];rfl
  ·simp at e
 ·exact .inr ⟨c,hd⟩
theorem Up.sync {aR:Int} {P:Fn->Prop} {g:Fn} {m:DM} {n:Nat} (h:Up aR P g m n): ((aV m).1=0/\Up aR (λx=>x=g) g (aV m).2 n)\/((aV m).1=5/\Dn aR P (aV m).2 n):=by
 rcases Mm h.dQ h.bh with hs | hs
 ·exact .inl ⟨hs.code,⟨h.dQ.sync,hs.aR.trans h.aR,hs.bh,hs.Jf (n:=n) h.aN,by rw [hs.aN];exact h.aN⟩⟩
 ·exact .inr ⟨hs.code,h.dQ.sync,hs.aR.trans h.aR,hs.bh,hs.Jf h.Jf⟩
theorem Up.cC {aR:Int} {P:Fn->Prop} {g:Fn} {m:DM} {n:Nat} (h:Up aR P g m n) (k:Int) (hk:k<=9223372036854775807):Up aR P g (gF m k).2 n:=by
 have hg:=h.dQ.A0 k hk;have e:(gF m k).2={m with cC:=if k < -1 then -1 else k}:=by unfold gF;rw [h.bh];rfl
 rw [e] at hg ⊢;exact ⟨hg,h.aR,h.bh,h.Jf.same rfl rfl,h.aN⟩
theorem Mn {m:DM} (h:m.bh=true) (k:Int):gF m k=(5,m):=by unfold gF;rw [h];rfl
theorem Dn.cC {aR:Int} {P:Fn->Prop} {m:DM} {n:Nat} (h:Dn aR P m n) (k:Int):Dn aR P (gF m k).2 n:=by rw [Mn h.bh];exact h
theorem EE {aR:Int} {P:Fn->Prop} {m:DM} {n:Nat} (hg:Good m n) (hr:m.aR=aR) (h:A4 m (λfs=>P (aZ fs))) (keep part:Int): ∃ x,P x/\Up aR (λy=>y=x) x (cX m keep part) 0/\(cX m keep part).cC=-1:=
 ⟨_,h keep part,⟨hg.xi keep part,hr,rfl,A4.one rfl rfl,rfl⟩,rfl⟩
theorem Up.clear {aR:Int} {P:Fn->Prop} {g:Fn} {m:DM} {n:Nat} (h:Up aR P g m n) (t:aD): ((dK m t).1=0/\Up aR (λx=>P x\/x=fo g t) (fo g t) (dK m t).2 (n+1))\/((dK m t).1=5/\Dn aR P (dK m t).2 (n+1)):=by
 cases hg:g t with
 | none=>
  have gK:=h.there t;rw [hg] at gK;have hr:aE m t=(6,m):=by unfold aE;rw [gK];rfl
  unfold dK;rw [hr,ED hg];exact .inl ⟨rfl,h.mono (λ_ h=> .inl h) (eM _)⟩
 | some b=>
  rcases h.dZ hg with ⟨c,hu⟩ | ⟨c,hd⟩
  ·have hc:dK m t=aE m t:=by unfold dK;rw [if_neg (by rw [c];omega)]
   rw [hc];exact .inl ⟨c,hu⟩
  ·have hc:dK m t=aE m t:=by unfold dK;rw [if_neg (by rw [c];omega)]
   rw [hc];exact .inr ⟨c,hd⟩
theorem Mo {B:aH} (i:Nat) (k:Nat):B.take i++(B.drop i).take k=B.take (i+k):=by rw [List.take_add]
theorem F6 (B:aH):B.length<=0+1048576*(B.length / 1048576+1):=by have:=Nat.div_add_mod B.length 1048576;have:=Nat.mod_lt B.length (show 0 <1048576 by decide);omega
theorem Up.Oq {aR:Int} {P:Fn->Prop} {g:Fn} {m:DM} {n:Nat} (h:Up aR P g m n) {f:aD} {b:aH} (hf:g f=some b) (p:aH): ((aM m f p).1=0/\Up aR (λx=>P x\/∃ i,x=fE g f (b++p.take i)) (fE g f (b++p)) (aM m f p).2 (n+1))\/((aM m f p).1=5/\Dn aR P (aM m f p).2 (n+1))\/ ((aM m f p).1≠0/\(aM m f p).1≠5/\(aM m f p).2=m):=by
 have gK:aF m f=0:=by rw [h.there,hf];rfl
 by_cases h1:(1048576:Int) <(p.length:Int)
 ·have hr:aM m f p=(8,m):=by unfold aM;rw [if_pos gK,if_pos h1]
  rw [hr];exact .inr (.inr ⟨by simp,by simp,rfl⟩)
 by_cases h2:m.aR - (used m.aN:Int) <(p.length:Int)
 ·have hr:aM m f p=(4,m):=by unfold aM;rw [if_pos gK,if_neg h1,if_pos h2]
  rw [hr];exact .inr (.inr ⟨by simp,by simp,rfl⟩)
 have hr:aM m f p=dB m ⟨1,f,⟨#[]⟩,p⟩:=by unfold aM;rw [if_pos gK,if_neg h1,if_neg h2]
 rcases h.step ⟨1,f,⟨#[]⟩,p⟩ hr (h.dQ.append f p) with ⟨c,F5⟩ | ⟨c,hd⟩
 ·rw [abk,hf] at F5;refine .inl ⟨c,F5.mono (λx hx=>hx.imp id (λhx=> ?_)) (eQ _)⟩;rcases hx with ⟨e,_⟩ | ⟨_,i,e⟩
  ·exact absurd rfl e
  ·refine ⟨i, ?_⟩;rw [e];show Hh g ⟨1,f,⟨#[]⟩,p.take i⟩=_;rw [abk,hf];rfl
 ·exact .inr (.inl ⟨c,hd⟩)
theorem Up.V3 {aR:Int} {P:Fn->Prop} {g:Fn} {m:DM} {n:Nat} (h:Up aR P g m n) {f:aD} (hn:bU f=true) (hf:g f=none) (hc:(aO m f).1=0): Up aR (λx=>P x\/x=fE g f []) (fE g f []) (aO m f).2 (n+1):=by
 by_cases hl:(4096:Int)<=(m.aN.length:Int)
 ·have hr:aO m f=(4,m):=by unfold aO;rw [h.bh,hn,h.aN,hf];simp only [nP,if_false,Bool.not_true,O7];rw [if_pos (by simpa using hl)]
  rw [hr] at hc;cases hc
 have hr:aO m f=dB m ⟨0,f,⟨#[]⟩,[]⟩:=by unfold aO;rw [h.bh,hn,h.aN,hf];simp only [nP,if_false,Bool.not_true,O7];rw [if_neg (by simpa using hl)]
 rcases h.step ⟨0,f,⟨#[]⟩,[]⟩ hr (h.dQ.fY f) with ⟨c,F5⟩ | ⟨c,hd⟩
 ·rw [abj] at F5;refine F5.mono (λx hx=>hx.imp id (λhx=> ?_)) (eQ _);rcases hx with ⟨_,e⟩ | ⟨e,_⟩
  ·rw [e,abj]
  ·simp at e
 ·rw [c] at hc;cases hc
theorem Up.SF {aR:Int} {g:Fn} {t:aD} {B:aH}: ∀ (f:Nat) {P:Fn->Prop} {m:DM} {n i:Nat},B.length<=i+1048576*f->Up aR P (fE g t (B.take i)) m n->(dT t B f m i).1=0-> ∃ Q:Fn->Prop,Up aR Q (fE g t B) (dT t B f m i).2 (n+f)
 | 0,P,m,n,i,hi,h,_=>by
  rw [sU (by omega)] at h;exact ⟨P,h⟩
 | f+1,P,m,n,i,hi,h,hc=>by
  rw [dT] at hc ⊢;by_cases aX:i <B.length
  ·rw [if_pos aX] at hc ⊢;by_cases h0:(aM m t ((B.drop i).take 1048576)).1=0
   ·rw [if_pos h0] at hc ⊢;have kt:=h.Oq (iT _ _ _) ((B.drop i).take 1048576);rw [Qc,Mo] at kt;rcases kt with ⟨c,F5⟩ | ⟨c,hd⟩ | ⟨c,_⟩
    ·obtain ⟨Q,hq⟩:=Up.SF f (by omega) F5 hc;exact ⟨Q,hq.mono (λ_ h=>h) (by omega)⟩
    ·rw [c] at h0;cases h0
    ·exact absurd h0 c
   ·rw [if_neg h0] at hc;exact absurd hc h0
  ·rw [if_neg aX];rw [sU (by omega)] at h;exact ⟨P,h.mono (λ_ h=>h) (by omega)⟩
theorem Up.acX {aR:Int} {P:Fn->Prop} {g:Fn} {m:DM} {n:Nat} (h:Up aR P g m n) {nm:aD} (qf:bU nm=true) (X3:bU (bj nm)=true) (dO:bj nm≠nm) (B:aH) (hc:(mz m nm B).1=0): Up aR (λx=>x=fo (fE g nm B) (bj nm)) (fo (fE g nm B) (bj nm)) (mz m nm B).2 (n+(B.length+4)):=by
 have yg:=F6 B;have hl:mz m nm B=cA (dS nm B) m:=by
  unfold mz tA at hc ⊢;by_cases h4:(cA (dS nm B) m).1=4
  ·rw [if_pos h4] at hc;by_cases h5:(dK (cA (dS nm B) m).2 (bj nm)).1=0
   ·rw [if_pos h5] at hc;cases hc
   ·rw [if_neg h5] at hc;exact absurd hc h5
  ·rw [if_neg h4]
 rw [hl] at hc ⊢;have gA:∀ (f:DM->Int × DM) (fs:List (DM->Int × DM)) (m:DM),(cA (f::fs) m).1=0->(f m).1=0/\cA (f::fs) m=cA fs (f m).2:=λf fs m hc=>by
  rw [cA] at hc ⊢;by_cases h0:(f m).1=0
  ·exact ⟨h0,if_pos h0⟩
  ·rw [if_neg h0] at hc;exact absurd hc h0
 rw [show dS nm B=[λm=>dK m (bj nm),λm=>aO m (bj nm),λm=>jh m (bj nm) B,aV,λm=>bw m (bj nm) nm,aV] from rfl] at hc ⊢;obtain ⟨c1,e1⟩:=gA _ _ _ hc;rw [e1] at hc ⊢;have h1:Up aR (λx=>P x\/x=fo g (bj nm)) (fo g (bj nm)) (dK m (bj nm)).2 (n+1):=by
  rcases h.clear (bj nm) with ⟨_,h1⟩ | ⟨c,_⟩
  ·exact h1
  ·rw [c] at c1;cases c1
 obtain ⟨c2,e2⟩:=gA _ _ _ hc;rw [e2] at hc ⊢;have h2:=h1.V3 X3 (yK _ _) c2;rw [EC] at h2;obtain ⟨P2,h2'⟩:∃ P2,Up aR P2 (fE g (bj nm) (B.take 0)) (aO (dK m (bj nm)).2 (bj nm)).2 (n+1+1):=⟨_,by rw [Au];exact h2⟩;obtain ⟨c3,e3⟩:=gA _ _ _ hc;rw [e3] at hc ⊢;obtain ⟨Q,h3⟩:=Up.SF (B.length / 1048576+1) yg h2' c3;obtain ⟨c4,e4⟩:=gA _ _ _ hc;rw [e4] at hc ⊢;have h4:Up aR (λx=>x=fE g (bj nm) B) (fE g (bj nm) B) (aV (jh (aO (dK m (bj nm)).2 (bj nm)).2 (bj nm) B).2).2 (n+1+1+(B.length / 1048576+1)):=by
  rcases h3.sync with ⟨_,h4⟩ | ⟨c,_⟩
  ·exact h4
  ·change (aV (jh (aO (dK m (bj nm)).2 (bj nm)).2 (bj nm) B).2).1=5 at c;rw [c] at c4;cases c4
 obtain ⟨c5,e5⟩:=gA _ _ _ hc;rw [e5] at hc ⊢;have cK:fo (fE (fE g (bj nm) B) nm B) (bj nm)=fo (fE g nm B) (bj nm):=by
  funext x;simp only [fE,fo];by_cases e1:x=bj nm
  ·simp only [e1,if_true]
  ·simp only [e1,if_false]
 rcases h4.rename (iT _ _ _) qf dO with ⟨_,h5⟩ | ⟨c,_⟩
 ·rw [cK] at h5;obtain ⟨c6,e6⟩:=gA _ _ _ hc;rw [e6];rcases h5.sync with ⟨_,h6⟩ | ⟨c,_⟩
  ·exact h6.mono (λ_ h=>h) (by omega)
  ·rw [c] at c6;cases c6
 ·rw [c] at c5;cases c5
theorem Up.abm {aR:Int} {g:Fn} {m:DM} {n:Nat} (h:Up aR (λx=>x=g) g m n) {nm:aD} (qf:bU nm=true) (X3:bU (bj nm)=true) (dO:bj nm≠nm) {b:aH} {rs:List aH} (hb:g nm=some b) (hs:dJ b=(rs,(aj rs).length)): ((ct m nm).code≠0/\(ct m nm).res=none)\/((ct m nm).code=0/\(ct m nm).res=some (rs,(aj rs).length)/\∃ g',g' nm=some (aj rs)/\(∀ y,y≠nm->y≠bj nm->g' y=g y)/\Up aR (λx=>x=g') g' (ct m nm).m (n+(b.length+4))):=by
 have gK:aF m nm=0:=by rw [h.there,hb];rfl
 have lf:=uC b;rw [hs] at lf;simp only at lf;have Zr:aj rs=b.take (aj rs).length:=by have:=(lh (l:=b) (b.length+1) 0 (fC _)).2;unfold dJ at hs;rw [hs,Pa] at this;exact this.symm
 unfold ct;rw [if_pos ⟨qf,X3⟩,if_neg (by rw [gK];omega),if_pos gK,h.aN,hb,Fx,hs];by_cases aX:(aj rs).length <b.length
 ·simp only [aX,if_true];unfold mZ;by_cases hc:(mz m nm (aj rs)).1=0
  ·rw [if_pos hc];exact .inr ⟨rfl,rfl,_,by rw [km _ (Ne.symm dO),iT],λy e1 e2=>by rw [km _ e2,mO _ _ e1],(h.acX qf X3 dO (aj rs) hc).mono (λ_ h=>h) (by omega)⟩
  ·rw [if_neg hc];exact .inl ⟨hc,rfl⟩
 ·simp only [aX,if_false];have e:b=aj rs:=by rw [Zr,sU (by omega)]
  exact .inr ⟨by simp,by simp,g,by rw [hb,e],λ_ _ _=>rfl,h.mono (λ_ h=>h) (by omega)⟩

end Go.Proofs.YtlcnhpjggjgnpaaGreatDoor