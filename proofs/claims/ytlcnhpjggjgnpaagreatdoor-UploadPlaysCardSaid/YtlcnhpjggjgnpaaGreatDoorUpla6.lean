/- A part of the proof. -/
import Derived.Test.YtlcnhpjggjgnpaaGreatDoorUpla4
import Derived.Deep.DeepCutAuto
import Derived.Deep.CutBlock
set_option linter.unusedSimpArgs false
set_option linter.unusedVariables false
set_option maxRecDepth 100000
set_option maxHeartbeats 4000000
namespace Go.Proofs.YtlcnhpjggjgnpaaGreatDoor
open Go.RowKit Go.MapKept
theorem S6 (w:World):aW 206 #[] w (.agg gG) (w.alloc (.cells gG 210)):=by unfold aW;go_enter Tryz.func206,Tryz.ntmps206;go_wp2_with (first | (refine jy rfl 210 _ rfl gG (by kernel_rfl) ?_) | (refine wpList_store_row rfl 210 (.tmp 0) (.tmp 1) rfl w.heap.size gG rfl rfl 210 _ (heap_alloc_new w _) (by kernel_rfl) (by kernel_rfl) (by kernel_rfl) ?_));rw [World.setRow_alloc_new];refine bodyPost_ret (results_cell_row Tryz.results206 _ _ w.heap.size 210 gG (0,0) _ rfl (heap_alloc_new w _) Tryz.underlying210 rfl (by kernel_rfl)) rfl ?_;exact ⟨rfl,rfl⟩
def wu:Array Value:=(l5.map ek).toArray
theorem Gi (w:World):aW 182 #[] w (.agg wu) (w.alloc (.cells wu 205)):=by unfold aW;go_enter Tryz.func182,Tryz.ntmps182;go_wp2_with (first | (refine jy rfl 205 _ rfl wu (by kernel_rfl) ?_) | (refine wpList_store_row rfl 205 (.tmp 0) (.tmp 1) rfl w.heap.size wu rfl rfl 205 _ (heap_alloc_new w _) (by kernel_rfl) (by kernel_rfl) (by kernel_rfl) ?_));rw [World.setRow_alloc_new];refine bodyPost_ret (results_cell_row Tryz.results182 _ _ w.heap.size 205 wu (0,0) _ rfl (heap_alloc_new w _) Tryz.underlying205 rfl (by kernel_rfl)) rfl ?_;exact ⟨rfl,rfl⟩
theorem Jz (w:World) (x:Addr) (p:aH) (pc:Nat) (kL:p.length=64) (hp:∀ i c,p[i]?=some c->w.cell? (x.add i)=some (dF c)) {h0 h1 h2 h3 h4 h5 h6 h7:Int} (hw:∀ y ∈ [h0,h1,h2,h3,h4,h5,h6,h7],(0:Int)<=y/\y <4294967296):bF 181 #[.agg (([h0,h1,h2,h3,h4,h5,h6,h7].map ek).toArray),.slice (some x) 64 pc] w (bH w (.agg ((ko ff [h0,h1,h2,h3,h4,h5,h6,h7] p).map ek).toArray)):=by
 have HP:=ae hp;have Vf:=ae kL;have HW:=ae hw;clear hp kL hw;obtain ⟨hc,hhc⟩:∃ hc:Array Value,hc=([h0,h1,h2,h3,h4,h5,h6,h7].map ek).toArray:=⟨_,rfl⟩;rw [<-hhc];have HHC:=ae hhc;have HK:=ae S6;have HKO:=ae (show gG.all (·.oneCell')=true by kernel_rfl);clear hhc;go_enter Tryz.func181,Tryz.ntmps181;go_wp2_with fail;have o2:=((Own.start w).alloc (.cells hc 205)).alloc (.cells #[.int .u32 0,.int .u32 0,.int .u32 0,.int .u32 0,.int .u32 0,.int .u32 0,.int .u32 0,.int .u32 0] 205);rw [World.size_alloc] at o2;have H2:=ae o2;clear o2;generalize (w.alloc (.cells hc 205)).alloc (.cells #[.int .u32 0,.int .u32 0,.int .u32 0,.int .u32 0,.int .u32 0,.int .u32 0,.int .u32 0,.int .u32 0] 205)=w2 at*;refine (HK.Z w2).Z.mono ?_;rintro e w' ⟨rfl,rfl⟩;have H3:=ae (H2.Z.quiet ((ah.refl _ w2).alloc (.cells gG 210)));clear HK H2;generalize w2.alloc (.cells gG 210)=w3 at*;go_upto_region 2 with (refine wpList_store_row rfl 210 _ _ rfl w3.heap.size gG rfl rfl 210 _ (heap_alloc_new w3 _) (by kernel_rfl) (by kernel_rfl) HKO.Z ?_;rw [World.setRow_alloc_new]);have o4:=H3.Z.alloc (.cells gG 210);have o4s:Own w (w3.alloc (.cells gG 210)) [aA w3.heap.size (cQ ff 210),aA (w.heap.size+1) (.cells #[.int .u32 0,.int .u32 0,.int .u32 0,.int .u32 0,.int .u32 0,.int .u32 0,.int .u32 0,.int .u32 0] 205),aA w.heap.size (cQ [h0,h1,h2,h3,h4,h5,h6,h7] 205)]:=by rw [HHC.Z,EG] at o4;exact o4
 have H4:=ae o4s;clear o4 o4s H3 HKO;generalize w3.alloc (.cells gG 210)=w4 at*;generalize w3.heap.size=kb at*;have o5:=H4.Z.alloc (cQ (List.replicate 64 0) 210);have H5:=ae (show Own w (w4.alloc (cQ (List.replicate 64 0) 210)) [aA w4.heap.size (cQ (jr p 0) 210),aA kb (cQ ff 210),aA (w.heap.size+1) (.cells #[.int .u32 0,.int .u32 0,.int .u32 0,.int .u32 0,.int .u32 0,.int .u32 0,.int .u32 0,.int .u32 0] 205),aA w.heap.size (cQ [h0,h1,h2,h3,h4,h5,h6,h7] 205)] from o5);clear o5 H4;go_upto_region 3 with fail;change Code.wp _ _ _ _ (w4.alloc (cQ (List.replicate 64 0) 210));generalize w4.alloc (cQ (List.replicate 64 0) 210)=w5 at*;generalize w4.heap.size=wb at*;go_wp2_with fail;go_loopw [7] (λi wx=>∃ j:Nat,i= .int .i64 (j:Int)/\j<=64/\Own w wx [aA wb (cQ (jr p j) 210),aA kb (cQ ff 210),aA (w.heap.size+1) (.cells #[.int .u32 0,.int .u32 0,.int .u32 0,.int .u32 0,.int .u32 0,.int .u32 0,.int .u32 0,.int .u32 0] 205),aA w.heap.size (cQ [h0,h1,h2,h3,h4,h5,h6,h7] 205)]) (λi _=>64 - (intOf i).toNat);case atStart=>exact ⟨0,rfl,by omega,H5.Z⟩
 case round=>
  obtain ⟨j,rfl,hj,bt⟩:=hrel;clear H5;have j0:=np j;by_cases aX:j <64
  ·have j1:(j:Int) <64:=by omega
   obtain ⟨L,EF⟩:=cE (jr p j);have hL:L.length=64:=by rw [EF];exact Dl p j
   by_cases h16:j <16
   ·have j2:(j:Int) <16:=by omega
    have kL:=Vf.Z;have iZ:jr p (j+1)=L.set j (yM p j):=by rw [EF];exact Mv h16
    rw [<-EF] at bt;obtain ⟨q,hq⟩:=cE (4*j);obtain ⟨q1,Ay⟩:=cE (q+1);obtain ⟨q2,iI⟩:=cE (q+2);obtain ⟨q3,yw⟩:=cE (q+3);have w4:IntKind.i64.wrap (4*(j:Int))=(q:Int):=by rw [IntKind.wrap_i64];omega
    have w5:IntKind.i64.wrap ((q:Int)+1)=(q1:Int):=by rw [IntKind.wrap_i64];omega
    have w6:IntKind.i64.wrap ((q:Int)+2)=(q2:Int):=by rw [IntKind.wrap_i64];omega
    have w7:IntKind.i64.wrap ((q:Int)+3)=(q3:Int):=by rw [IntKind.wrap_i64];omega
    obtain ⟨b0,AW⟩:∃ b,p[q]?=some b:=⟨_,js (by omega)⟩;obtain ⟨b1,Ro⟩:∃ b,p[q1]?=some b:=⟨_,js (by omega)⟩;obtain ⟨b2,ox⟩:∃ b,p[q2]?=some b:=⟨_,js (by omega)⟩;obtain ⟨b3,yt⟩:∃ b,p[q3]?=some b:=⟨_,js (by omega)⟩;have hk:=bt.keeps;have c0:=(hk.V4 (HP.Z _ _ AW));have c1:=(hk.V4 (HP.Z _ _ Ro));have c2:=(hk.V4 (HP.Z _ _ ox));have c3:=(hk.V4 (HP.Z _ _ yt));unfold dF at c0 c1 c2 c3;have a0:=np q;have a1:(0:Int)<=q1:=by omega
    have a2:(0:Int)<=q2:=by omega
    have a3:(0:Int)<=q3:=by omega
    have d0:(q:Int) <64:=by omega
    have d1:(q1:Int) <64:=by omega
    have d2:(q2:Int) <64:=by omega
    have d3:(q3:Int) <64:=by omega
    have ca:=(bt.at (b:=wb) (o:=cQ L 210) (by simp)).1;obtain ⟨lj,hlj⟩:∃ x,L[j]?=some x:=⟨_,js (by omega)⟩;have cj:=cq ca hlj;have fj:=qF ca j;have bG:=λx=>(bt.qG j x).drew;have hw4:=Jg hq Ay iI yw AW Ro ox yt;rw [<-Wd] at hw4;unfold ek at cj;have HW4:=ae hw4;have fP:=ae bG;have Ob:=ae aX;have sO:=ae iZ;clear bt hk AW Ro ox yt hq Ay iI yw kL aX hj hw4 bG hL ca hlj EF iZ h16;go_wp2_with fail;go_still_tail 35,(by kernel_rfl);change wpList _ _ _ _ _ (World.drew _);clear w4 w5 w6 w7 a0 a1 a2 a3 d0 d1 d2 d3 c0 c1 c2 c3;go_wp2;go_roundw;case rel=>exact ⟨j+1,rfl,Ob.Z,by rw [sO.Z,<-HW4.Z];exact fP.Z _⟩
    case measure=>have:=Ob.Z;simp [intOf];omega
   ·have j2:¬(j:Int) <16:=by omega
    have iZ:=Jo (p:=p) (j:=j) (by omega);rw [<-EF] at bt iZ;have ca:=(bt.at (b:=wb) (o:=cQ L 210) (by simp)).1;obtain ⟨q0,PI⟩:=cE (j - 16);obtain ⟨q1,Ay⟩:=cE (j - 15);obtain ⟨q2,iI⟩:=cE (j - 2);obtain ⟨q3,yw⟩:=cE (j - 7);have w5:IntKind.i64.wrap ((j:Int) - 15)=(q1:Int):=by rw [IntKind.wrap_i64];omega
    have w6:IntKind.i64.wrap ((j:Int) - 2)=(q2:Int):=by rw [IntKind.wrap_i64];omega
    have w7:IntKind.i64.wrap ((j:Int) - 7)=(q3:Int):=by rw [IntKind.wrap_i64];omega
    have w8:IntKind.i64.wrap ((j:Int) - 16)=(q0:Int):=by rw [IntKind.wrap_i64];omega
    have c0:=cq ca (ii (i:=q0) (by omega));have c1:=cq ca (ii (i:=q1) (by omega));have c2:=cq ca (ii (i:=q2) (by omega));have c3:=cq ca (ii (i:=q3) (by omega));have c4:=cq ca (ii (i:=j) (by omega));have f4:=qF ca j;unfold ek at c0 c1 c2 c3 c4;have a0:(0:Int)<=q0:=by omega
    have a1:(0:Int)<=q1:=by omega
    have a2:(0:Int)<=q2:=by omega
    have a3:(0:Int)<=q3:=by omega
    have d0:(q0:Int) <64:=by omega
    have d1:(q1:Int) <64:=by omega
    have d2:(q2:Int) <64:=by omega
    have d3:(q3:Int) <64:=by omega
    rw [<-PI,<-Ay,<-iI,<-yw] at iZ;have HX:=ae aX;have sO:=ae iZ;have HO:=ae bt;generalize lM L q0=v0 at c0 sO;generalize lM L q1=v1 at c1 sO;generalize lM L q2=v2 at c2 sO;generalize lM L q3=v3 at c3 sO;generalize lM L j=v4 at c4;clear iZ PI Ay iI yw aX hj hL EF ca bt h16;go_wp2_with fail;go_still_tail 17,(by kernel_rfl)
    still_call (iB iA.1 _)
    repeat still_step
    still_call (iB iA.2.1 _)
    repeat still_step
    refine wpStill_nil ?_;change wpList _ _ _ _ _ (World.drew _);obtain ⟨s8,hs8⟩:=cE (bits .xor .u32 (bits .xor .u32 (nC v1 7) (nC v1 18)) (v1 / 8));rw [<-hs8];have HS8:=ae hs8;have wM:=ae HO.Z.drew;change wr.drew.cell? _=_ at c0 c1 c2 c3 c4;change wr.drew.frozen? _=_ at f4;clear hs8 HO;generalize wr.drew=w3 at wM c0 c1 c2 c3 c4 f4 ⊢;go_wp2_with fail;go_still_tail 17,(by kernel_rfl)
    still_call (iB iA.2.2.1 _)
    repeat still_step
    still_call (iB iA.2.2.2.1 _)
    repeat still_step
    refine wpStill_nil ?_;change wpList _ _ _ _ _ (World.drew _);obtain ⟨s9,hs9⟩:=cE (bits .xor .u32 (bits .xor .u32 (nC v2 17) (nC v2 19)) (v2 / 1024));rw [<-hs9];have HS9:=ae hs9;have De:=ae wM.Z.drew;change w3.drew.cell? _=_ at c0 c1 c2 c3 c4;change w3.drew.frozen? _=_ at f4;clear hs9 wM;generalize w3.drew=w4 at De c0 c1 c2 c3 c4 f4 ⊢;go_wp2_with fail;go_still_tail 15,(by kernel_rfl);change wpList _ _ _ _ _ (World.drew _);clear w5 w6 w7 w8 a0 a1 a2 a3 d0 d1 d2 d3 c0 c1 c2 c3;go_wp2;go_roundw;case rel=>refine ⟨j+1,rfl,HX.Z, ?_⟩;rw [sO.Z];rw [show V5 v0 v1 v3 v2=(v0+s8+v3+s9) % 4294967296 by rw [HS8.Z,HS9.Z];rfl];exact (De.Z.qG j _).drew
    case measure=>have:=HX.Z;simp [intOf];omega
  ·obtain rfl:j=64:=by omega
   obtain ⟨W,hW⟩:=cE (kM p 48);have hWL:W.length=64:=by rw [hW];exact kX p 48
   rw [Mw,<-hW] at bt;have HWW:=ae hW;have HWL:=ae hWL;have HO:=ae bt;have hV:=(bt.at (b:=w.heap.size) (o:=cQ [h0,h1,h2,h3,h4,h5,h6,h7] 205) (by simp)).1;have c0:=cq hV (i:=0) rfl;have c1:=cq hV (i:=1) rfl;have c2:=cq hV (i:=2) rfl;have c3:=cq hV (i:=3) rfl;have c4:=cq hV (i:=4) rfl;have c5:=cq hV (i:=5) rfl;have c6:=cq hV (i:=6) rfl;have c7:=cq hV (i:=7) rfl;unfold ek at c0 c1 c2 c3 c4 c5 c6 c7;rw [show ((64:Nat):Int)=64 from rfl];clear bt hV aX hj hW hWL HP Vf;go_wp2_with fail;go_quiet (fail);have wM:=ae (HO.Z.drewN nq);change (wr.drewN nq).cell? _=_ at c0 c1 c2 c3 c4 c5 c6 c7;clear HO;generalize wr.drewN nq=w6 at wM c0 c1 c2 c3 c4 c5 c6 c7 ⊢;go_wp2_with fail;go_quiet (fail);have De:=ae (wM.Z.drewN nq);clear wM c0 c1 c2 c3 c4 c5 c6 c7;generalize w6.drewN nq=w7 at De ⊢;go_wp2_with fail;have HNW:=ae HW.Z;go_loopw [10,11,12,13,14,15,16,17,18] (λva vb vc vd ve vf vg vh i wx=>∃ (n:Nat) (a b c d e f g h:Int),va= .int .u32 a/\vb= .int .u32 b/\vc= .int .u32 c/\vd= .int .u32 d/\ve= .int .u32 e/\vf= .int .u32 f/\vg= .int .u32 g/\vh= .int .u32 h/\i= .int .i64 (n:Int)/\n<=64/\(∀ y ∈ [a,b,c,d,e,f,g,h],(0:Int)<=y/\y <4294967296)/\Mp ff W [h0,h1,h2,h3,h4,h5,h6,h7] n=[a,b,c,d,e,f,g,h]/\
    Own w wx [aA wb (cQ W 210),aA kb (cQ ff 210),aA (w.heap.size+1) (.cells #[.int .u32 0,.int .u32 0,.int .u32 0,.int .u32 0,.int .u32 0,.int .u32 0,.int .u32 0,.int .u32 0] 205),aA w.heap.size (cQ [h0,h1,h2,h3,h4,h5,h6,h7] 205)]) (λ_ _ _ _ _ _ _ _ i _=>64 - (intOf i).toNat)
   case atStart=>exact ⟨0,_,_,_,_,_,_,_,_,rfl,rfl,rfl,rfl,rfl,rfl,rfl,rfl,rfl,by omega,HNW.Z,rfl,De.Z⟩
   case round=>
    obtain ⟨n,a,b,c,d,e,f,g,h,rfl,rfl,rfl,rfl,rfl,rfl,rfl,rfl,rfl,hn,ZK,yi,bt⟩:=hrel;clear HNW;by_cases aX:n <64
    ·have hWw:=(bt.at (b:=wb) (o:=cQ W 210) (by simp)).1;have hKw:=(bt.at (b:=kb) (o:=cQ ff 210) (by simp)).1;have ck:=cq hKw (ii (i:=n) aX);have cw:=cq hWw (ii (i:=n) (by rw [HWL.Z];exact aX));unfold ek at ck cw;have iZ:Mp ff W [h0,h1,h2,h3,h4,h5,h6,h7] (n+1)=xm (lM ff n) (lM W n) [a,b,c,d,e,f,g,h]:=by rw [<-yi];rfl
     have abE:=Dk (k:=lM ff n) (w:=lM W n) ZK;have j0:=np n;have j1:(n:Int) <64:=by omega
     have ZR:=ZK e (by simp);have HAN:=ae (show bits .and .u32 (IntKind.u32.wrap (4294967295 - e)) g=bits .andNot .u32 g e by rw [IntKind.wrap_u32,Int.emod_eq_of_lt (by omega) (by omega)];exact We ZR.1 ZR.2);have sO:=ae iZ;have ZL:=ae abE;have HX:=ae aX;have HO:=ae bt;generalize lM ff n=kn at ck sO ZL;generalize lM W n=wn at cw sO ZL;clear iZ aX yi hn bt hWw hKw ZK abE ZR;go_wp2_with fail;go_still_tail 27,(by kernel_rfl)
     still_call (iB iA.2.2.2.2.1 _)
     repeat still_step
     still_call (iB iA.2.2.2.2.2.1 _)
     repeat still_step
     still_call (iB iA.2.2.2.2.2.2.1 _)
     repeat still_step
     refine wpStill_nil ?_;change wpList _ _ _ _ _ (World.drew _);have wM:=ae HO.Z.drew;clear ck cw HO;generalize wr.drew=w8 at wM ⊢;go_wp2_with fail;rw [HAN.Z,<-Jh e f g h kn wn];obtain ⟨X,hX⟩:=cE (SH e f g h kn wn);rw [<-hX];have Vg:=ae hX;clear hX HAN;refine (iB iA.2.2.2.2.2.2.2.1 _).mono ?_;rintro e1 w9 ⟨rfl,rfl⟩;go_wp2_with fail;refine (iB iA.2.2.2.2.2.2.2.2.1 _).mono ?_;rintro e1 w9 ⟨rfl,rfl⟩;go_wp2_with fail;refine (iB iA.2.2.2.2.2.2.2.2.2 _).mono ?_;rintro e1 w9 ⟨rfl,rfl⟩;go_wp2;go_roundw;case rel=>
      refine ⟨n+1,_,a,b,c,_,e,f,g,rfl,rfl,rfl,rfl,rfl,rfl,rfl,rfl,rfl,HX.Z, ?_, ?_,wM.Z⟩
      ·rw [Vg.Z];exact ZL.Z
      ·rw [Vg.Z];exact sO.Z
     case measure=>have:=HX.Z;simp [intOf];omega
    ·obtain rfl:n=64:=by omega
     rw [show ((64:Nat):Int)=64 from rfl];have hV:=(bt.at (b:=w.heap.size) (o:=cQ [h0,h1,h2,h3,h4,h5,h6,h7] 205) (by simp)).1;have hR:=(bt.at (b:=w.heap.size+1) (o:= .cells #[.int .u32 0,.int .u32 0,.int .u32 0,.int .u32 0,.int .u32 0,.int .u32 0,.int .u32 0,.int .u32 0] 205) (by simp)).1;have c0:=cq hV (i:=0) rfl;have c1:=cq hV (i:=1) rfl;have c2:=cq hV (i:=2) rfl;have c3:=cq hV (i:=3) rfl;have c4:=cq hV (i:=4) rfl;have c5:=cq hV (i:=5) rfl;have c6:=cq hV (i:=6) rfl;have c7:=cq hV (i:=7) rfl;unfold ek at c0 c1 c2 c3 c4 c5 c6 c7;have HR:=ae hR;have HO:=ae bt.keeps;have HB:=ae (show ko ff [h0,h1,h2,h3,h4,h5,h6,h7] p=[(h0+a) % 4294967296,(h1+b) % 4294967296,(h2+c) % 4294967296,(h3+d) % 4294967296,(h4+e) % 4294967296,(h5+f) % 4294967296,(h6+g) % 4294967296,(h7+h) % 4294967296] by unfold ko;rw [<-HWW.Z,yi];rfl)
     obtain ⟨rc,IY⟩:∃ rc:Array Value,rc=#[.int .u32 ((h0+a) % 4294967296),.int .u32 ((h1+b) % 4294967296),.int .u32 ((h2+c) % 4294967296),.int .u32 ((h3+d) % 4294967296),.int .u32 ((h4+e) % 4294967296),.int .u32 ((h5+f) % 4294967296),.int .u32 ((h6+g) % 4294967296),.int .u32 ((h7+h) % 4294967296)]:=⟨_,rfl⟩;have HRC:=ae IY;clear hV hR bt ZK yi aX hn IY;have ZS:=ae (show (Tryz.prog.info? 205).map (·.size)=some rc.size/\rc.size=8/\rc.all (·.oneCell')=true by rw [HRC.Z];exact ⟨by kernel_rfl,rfl,by simp [Value.oneCell']⟩);go_wp2_with (first | (refine jy rfl 205 _ rfl #[.int .u32 ((h0+a) % 4294967296),.int .u32 ((h1+b) % 4294967296),.int .u32 ((h2+c) % 4294967296),.int .u32 ((h3+d) % 4294967296),.int .u32 ((h4+e) % 4294967296),.int .u32 ((h5+f) % 4294967296),.int .u32 ((h6+g) % 4294967296),.int .u32 ((h7+h) % 4294967296)] (by kernel_rfl) ?_;rw [<-HRC.Z]) | (refine wpList_store_row rfl 205 _ _ rfl (w.heap.size+1) rc rfl rfl 205 _ HR.Z ZS.Z.1 ZS.Z.2.1.symm ZS.Z.2.2 ?_));have hh:(wr.setRow (w.heap.size+1) rc).heap[w.heap.size+1]?=some (.cells rc 205 (0,0)):=setRow_heap wr (w.heap.size+1) _ rc 205 _ HR.Z;refine bodyPost_ret (results_cell_row Tryz.results181 _ _ (w.heap.size+1) 205 rc (0,0) _ rfl hh Tryz.underlying205 rfl ZS.Z.1) rfl ?_;refine ⟨?_, ?_⟩
     ·rw [HB.Z,HRC.Z];rfl
     ·exact HO.Z.trans (jq _ _ _) (λb hb e=>by omega)
theorem Gj {w:World} {v:Value} {p:aH} {H:List Int} (hH:H.length=8) (hw:Jk H) (hr:aC w v p) (kL:p.length=64): bF 181 #[.agg ((H.map ek).toArray),v] w (bH w (.agg ((ko ff H p).map ek).toArray)):=by
 rcases hr with ⟨_,rfl⟩ | ⟨x,c,rfl,k1,k2,k3⟩
 ·simp at kL
 ·obtain ⟨h0,h1,h2,h3,h4,h5,h6,h7,rfl⟩:=nE hH;rw [kL];exact Jz w x p c kL (λi c hi=>k3 i _ (by rw [jc,hi];rfl)) hw
def iJ (H:List Int) (n:Int) (t:Value):List Value:=H.map ek++[.int .u64 n,t]
def cG (M:aH):aH:=M.drop (64*(M.length / 64))
def Yb (w:World) (v:Value) (M:aH):Prop:=∃ t,v= .agg (iJ (cR M) M.length t).toArray/\aC w t (cG M)
def Wh (w:World) (base:Nat) (v:Value) (M:aH):Prop:=∃ t,v= .agg (iJ (cR M) M.length t).toArray/\bC w base t (cG M)
theorem Wh.st {w:World} {base:Nat} {v:Value} {M:aH} (h:Wh w base v M):Yb w v M:=by obtain ⟨t,rfl,ho⟩:=h;exact ⟨t,rfl,ho.bytes.reads⟩
theorem Yb.keep {w w':World} {v:Value} {M:aH} (h:Yb w v M) (hk:ak w w'):Yb w' v M:=by obtain ⟨t,rfl,hr⟩:=h;exact ⟨t,rfl,hr.keep hk⟩
theorem JA (H:List Int) (n:Int) (a:Option Addr) (k c:Nat):∀ v ∈ iJ H n (.slice a k c),v.oneCell'=true:=by intro v hv;simp only [iJ,List.mem_append,List.mem_map,Hu,List.not_mem_nil,or_false] at hv;rcases hv with ⟨x,_,rfl⟩ | rfl | rfl <;>rfl
theorem eU (M:aH):(cR M).length=8:=cJ M _
theorem iC (M:aH):(cG M).length=M.length % 64:=by unfold cG;rw [iN];omega
theorem Qr (M:aH) (c:UInt8) (h:(cG M).length≠63):cG (M++[c])=cG M++[c]/\cR (M++[c])=cR M:=by
 rw [iC] at h;have e:(M++[c]).length / 64=M.length / 64:=by simp only [fS,iM,gN];omega
 constructor
 ·unfold cG;rw [e,O3 (by omega)]
 ·unfold cR;rw [e];exact kD M [c] _ (by omega)
theorem Qs (M:aH) (c:UInt8) (h:(cG M).length=63):cG (M++[c])=[]/\cR (M++[c])=ko ff (cR M) (cG M++[c]):=by
 rw [iC] at h;have e:(M++[c]).length / 64=M.length / 64+1:=by simp only [fS,iM,gN];omega
 have e2:(M++[c]).drop (64*(M.length / 64))=cG M++[c]:=by unfold cG;rw [O3 (by omega)]
 constructor
 ·unfold cG;rw [e];apply List.drop_eq_nil_of_le;simp only [fS,iM,gN];omega
 ·unfold cR;rw [e];have h64:64<=((M++[c]).drop (64*(M.length / 64))).length:=by rw [iN];simp only [fS,iM,gN];omega
  rw [(BP h64).1,e2,kD M [c] _ (by omega)];congr 1;apply sU;rw [fS,iC];simp;omega
def Qt:Array Value:=#[.int .u32 1779033703,.int .u32 3144134277,.int .u32 1013904242,.int .u32 2773480762,.int .u32 1359893119,.int .u32 2600822924,.int .u32 528734635,.int .u32 1541459225,.int .u64 0,.slice none 0 0]
theorem JB (w:World):bF 146 #[] w (λe w'=>ak w w'/\∃ v,e= .returned v/\Wh w' w.heap.size v []):=by go_enter Tryz.func146,Tryz.ntmps146;go_wp2_with fail;refine (Gi _).Z.mono ?_;rintro e w' ⟨rfl,rfl⟩;have o:=((Own.start w).alloc (.cells #[.int .u32 0,.int .u32 0,.int .u32 0,.int .u32 0,.int .u32 0,.int .u32 0,.int .u32 0,.int .u32 0,.int .u64 0,.slice none 0 0] 250)).alloc (.cells wu 205);have HR:=ae (o.at (b:=w.heap.size) (o:= .cells #[.int .u32 0,.int .u32 0,.int .u32 0,.int .u32 0,.int .u32 0,.int .u32 0,.int .u32 0,.int .u32 0,.int .u64 0,.slice none 0 0] 250) (by simp)).1;have HK:=ae o.keeps;generalize (w.alloc (.cells #[.int .u32 0,.int .u32 0,.int .u32 0,.int .u32 0,.int .u32 0,.int .u32 0,.int .u32 0,.int .u32 0,.int .u64 0,.slice none 0 0] 250)).alloc (.cells wu 205)=w2 at*;go_wp2_with (first | (refine jy rfl 250 _ rfl Qt (by kernel_rfl) ?_) | (refine wpList_store_row rfl 250 _ _ rfl w.heap.size Qt rfl rfl 250 _ HR.Z (by kernel_rfl) (by kernel_rfl) (by kernel_rfl) ?_));have hh:(w2.setRow w.heap.size Qt).heap[w.heap.size]?=some (.cells Qt 250 (0,0)):=setRow_heap w2 w.heap.size _ Qt 250 _ HR.Z;refine bodyPost_ret (results_cell_row Tryz.results146 _ _ w.heap.size 250 Qt (0,0) _ rfl hh Tryz.underlying250 rfl (by kernel_rfl)) rfl ?_;exact ⟨HK.Z.trans (jq _ _ _) (λb hb e=>by omega),_,rfl,.slice none 0 0,rfl,bC.nil _ _⟩
variable {w wr:World} {rs:List (bB w.heap.size)}
theorem Own.owns {v:Value} {l:aH} (h:Own w wr rs) (hm:bS v l ∈ rs):bC wr w.heap.size v l:=by
 obtain ⟨F,h1,h2⟩:=h.mem hm;obtain ⟨⟨k1,k2⟩,k3⟩:=h1;refine ⟨k1, ?_⟩;rcases k2 with k2 | ⟨g,cap,gp,rfl,hg,hb⟩
 ·exact .inl k2
 ·exact .inr ⟨g,cap,gp,rfl,(h2 g (k3 g rfl)).1,hb⟩
theorem Qu (h0 h1 h2 h3 h4 h5 h6 h7 g0 g1 g2 g3 g4 g5 g6 g7 n:Int) (tv:Value): ((((((((iJ [h0,h1,h2,h3,h4,h5,h6,h7] n tv).toArray.setIfInBounds 0 (ek g0)).setIfInBounds 1 (ek g1)).setIfInBounds 2 (ek g2)).setIfInBounds 3 (ek g3)).setIfInBounds 4 (ek g4)).setIfInBounds 5 (ek g5)).setIfInBounds 6 (ek g6)).setIfInBounds 7 (ek g7)=(iJ [g0,g1,g2,g3,g4,g5,g6,g7] n tv).toArray:=by kernel_rfl
theorem MB (h0 h1 h2 h3 h4 h5 h6 h7 n m:Int) (tv sv:Value): ((iJ [h0,h1,h2,h3,h4,h5,h6,h7] n tv).toArray.setIfInBounds 8 (.int .u64 m)).setIfInBounds 9 sv=(iJ [h0,h1,h2,h3,h4,h5,h6,h7] m sv).toArray:=by kernel_rfl
theorem Own.ZT {b:Nat} {n:Int} {tv:Value} {H H':List Int} (h:Own w wr (aA b (.cells (iJ H n tv).toArray 250 (0,0))::rs)) (hH:H.length=8) (hH':H'.length=8): Own w (wr.setCells b 0 (H'.map ek)) (aA b (.cells (iJ H' n tv).toArray 250 (0,0))::rs):=by obtain ⟨h0,h1,h2,h3,h4,h5,h6,h7,rfl⟩:=nE hH;obtain ⟨g0,g1,g2,g3,g4,g5,g6,g7,rfl⟩:=nE hH';have hs:=(((((((h.store 0 (ek g0)).store 1 (ek g1)).store 2 (ek g2)).store 3 (ek g3)).store 4 (ek g4)).store 5 (ek g5)).store 6 (ek g6)).store 7 (ek g7);rw [Qu] at hs;exact hs
theorem Own.S7 {b:Nat} {n:Int} {tv:Value} {H:List Int} (h:Own w wr (aA b (.cells (iJ H n tv).toArray 250 (0,0))::rs)) (hH:H.length=8): wr.rangeAt b 0 (H.map ek)/\wr.there b 0 8:=by
 have hb:=(h.at (b:=b) (o:= .cells (iJ H n tv).toArray 250 (0,0)) (by simp)).1;have h1:wr.rangeAt b 0 (H.map ek):=by intro j v hv;have hj:j <(H.map ek).length:=(List.getElem?_eq_some_iff.1 hv).1;rw [fw];refine ag hb ?_;simp only [iJ,oB];rw [K0 hj];exact hv
 refine ⟨h1,λj hj=> ?_⟩;rw [fw];refine ⟨?_,cL hb j⟩;have Zc:j <(H.map ek).length:=by rw [io,hH];exact hj
 have:=h1 j _ (js Zc);rw [fw] at this;rw [this];rfl
theorem l8 {v:Value} {M:aH} {pv:Value} {l:aH} (hs:Yb w v M) (hr:aC w pv l) (hb:M.length+l.length <140737488355328): bF 145 #[v,pv] w (λe w'=>ak w w'/\∃ v',e= .returned v'/\Wh w' w.heap.size v' (M++l)):=by
 obtain ⟨t0,rfl,ht⟩:=hs;obtain ⟨ta,tc,rfl,_,_⟩:=ht.aG;have HR:=ae hr;obtain ⟨pa,pc,rfl,yg,Pp⟩:=hr.aG;have eh:=λk (hk:k <l.length)=>hr.cell rfl hk;obtain ⟨tl,yG⟩:=cE ((cG M).length);have Yc:tl <64:=by rw [yG,iC];omega
 rw [<-yG];obtain ⟨sc,hsc⟩:∃ sc:Array Value,sc=(iJ (cR M) M.length (.slice ta tl tc)).toArray:=⟨_,rfl⟩;rw [<-hsc];rw [<-yG] at ht;have HT:=ae ht;have HTL:=ae Yc;have Oj:=ae hsc;have HB:=ae hb;clear ht yG hsc hr hb Yc;go_enter Tryz.func145,Tryz.ntmps145;go_upto_region 1 with fail;have o:=((Own.start w).alloc (.cells sc 250)).alloc (.cells #[.int .u32 0,.int .u32 0,.int .u32 0,.int .u32 0,.int .u32 0,.int .u32 0,.int .u32 0,.int .u32 0,.int .u64 0,.slice none 0 0] 250);have o2:=o.swap;rw [World.size_alloc,Oj.Z] at o2;rw [Oj.Z];have HO:=ae o2;have c9:=ag (i:=9) (v:= .slice ta tl tc) (o2.at (b:=w.heap.size) (o:= .cells (iJ (cR M) M.length (.slice ta tl tc)).toArray 250) (by simp)).1 (by obtain ⟨h0,h1,h2,h3,h4,h5,h6,h7,e⟩:=nE (eU M);rw [e];rfl)
 clear o o2;have uW:=ae (HO.Z.keeps);clear Oj;generalize (w.alloc (.cells (iJ (cR M) M.length (.slice ta tl tc)).toArray 250)).alloc (.cells #[.int .u32 0,.int .u32 0,.int .u32 0,.int .u32 0,.int .u32 0,.int .u32 0,.int .u32 0,.int .u32 0,.int .u64 0,.slice none 0 0] 250)=w2 at*;go_wp2_with fail;refine (fO (HT.Z.keep uW.Z) (by have:=HTL.Z;rw [iC];omega)).mono ?_;rintro e w3 ⟨tv,rfl,ho,hk⟩;have H3:=ae (HO.Z.ix ho hk);clear ho hk HO c9 uW;go_wp2_with fail;go_loopw [5,6] (λtv i wx=>∃ k:Nat,i= .int .i64 (k:Int)/\k<=l.length/\Own w wx [bS tv (cG (M++l.take k)),aA w.heap.size (.cells (iJ (cR (M++l.take k)) M.length (.slice ta tl tc)).toArray 250 (0,0)),aA (w.heap.size+1) (.cells #[.int .u32 0,.int .u32 0,.int .u32 0,.int .u32 0,.int .u32 0,.int .u32 0,.int .u32 0,.int .u32 0,.int .u64 0,.slice none 0 0] 250)]) (λ_ i _=>l.length - (intOf i).toNat);case atStart=>exact ⟨0,rfl,by omega,by rw [Au,qh];exact H3.Z⟩
 case round=>
  obtain ⟨k,rfl,hk,bt⟩:=hrel;clear H3;have j0:=np k;have j2:(k:Int) <140737488355328:=by have:=HB.Z;omega
  by_cases aX:k <l.length
  ·have j1:(k:Int) <l.length:=by omega
   obtain ⟨c,hc⟩:=cE (l[k]);have ht:l.take (k+1)=l.take k++[c]:=by rw [hc,List.take_append_getElem aX]
   obtain ⟨x,rfl,hx⟩:=eh k aX;rw [<-hc] at hx;have hx:=bt.keeps.V4 hx;obtain ⟨M',hM'⟩:=cE (M++l.take k);rw [<-hM'] at bt;have gQ:M++l.take (k+1)=M'++[c]:=by rw [ht,hM',lN]
   have iI:ak wr (wr.alloc (.cells #[.int .u8 (c.toNat:Int)] 5)):=(ah.refl _ _).alloc _;have Yd:=iC M';obtain ⟨v',w4,aT,lz⟩:=(bt.quiet iI).grow (gP wr c) (by simp only [iM,gN];omega);obtain ⟨_,aa,ac,rfl,q1,q2⟩:=bt.bytes (v:=u5) (l:=cG M') (by simp);obtain ⟨_,VI,VJ,rfl,q3,q4⟩:=lz.bytes (v:=v') (l:=cG M'++[c]) (by simp);have my:(cG M'++[c]).length=(cG M').length+1:=by simp
   by_cases JC:(cG M').length=63
   ·have h64:(cG M'++[c]).length=64:=by omega
    have gm:=(lz.bytes (v:= .slice VI (cG M'++[c]).length VJ) (l:=cG M'++[c]) (by simp)).1;obtain ⟨hT,hH⟩:=Qs M' c JC;obtain ⟨Om,hw8⟩:(cR M').length=8/\Jk (cR M'):=⟨eU M',tK _ _⟩;have hd:=lz.drop;have gK:=hd.S7 Om;have JD:=ae (Gj Om hw8 gm h64);have HN:=ae (show ∀ w5,ak w4 w5->Own w (w5.setCells w.heap.size 0 ((ko ff (cR M') (cG M'++[c])).map ek)) [bS (.slice none 0 0) (cG (M++l.take (k+1))),aA w.heap.size (.cells (iJ (cR (M++l.take (k+1))) M.length (.slice ta tl tc)).toArray 250 (0,0)),aA (w.heap.size+1) (.cells #[.int .u32 0,.int .u32 0,.int .u32 0,.int .u32 0,.int .u32 0,.int .u32 0,.int .u32 0,.int .u32 0,.int .u64 0,.slice none 0 0] 250)] from λw5 fB=>by rw [gQ,hT,hH];exact ((hd.quiet fB).ZT Om (by rw [pY];exact Om)).IL)
    have Ry:=ae (show ∀ w5,ak w4 w5->w5.there w.heap.size 0 8 from λw5 fB=>((hd.quiet fB).S7 Om).2);have HRG:=ae gK.1;have ZS:=ae (show (Tryz.prog.info? 205).map (·.size)=some ((cR M').map ek).length by rw [io,Om];kernel_rfl);have Zf:=ae (show (Tryz.prog.info? 205).map (·.size)=some (((ko ff (cR M') (cG M'++[c])).map ek).toArray).size/\((((ko ff (cR M') (cG M'++[c])).map ek).toArray).size=8)/\(((ko ff (cR M') (cG M'++[c])).map ek).toArray).all (·.oneCell')=true by
     have hz:(((ko ff (cR M') (cG M'++[c])).map ek).toArray).size=8:=by rw [Bd,io,pY,Om]
     exact ⟨by rw [hz];kernel_rfl,hz,all_oneCell_toArray (Ji _)⟩)
    rw [h64] at JD aT;have kA:=ae aT;have HX:=ae aX;obtain ⟨nv,hnv⟩:=cE ((ko ff (cR M') (cG M'++[c])).map ek);rw [<-hnv] at HN Zf JD;obtain ⟨hv,Vh⟩:=cE ((cR M').map ek);rw [<-Vh] at HRG ZS JD;rw [JC] at kA ⊢;generalize c.toNat=cc at*;clear Om hw8 hd gK gm hT hH JC h64 my q1 q2 q3 q4 lz aT Yd iI gQ hM' bt ht hc aX hk eh hnv Vh;go_wp2_with (first | (at_builtin;refine ao rfl _ _ _ _ rfl rfl rfl kA.Z ?_) | (refine wpList_load_mid rfl 205 _ rfl w.heap.size 0 rfl hv _ HRG.Z Tryz.underlying205 rfl ZS.Z ?_));refine JD.Z.mono ?_;rintro e w5 ⟨rfl,fB⟩;have HN5:=ae (HN.Z w5 fB);have S8:=ae (Ry.Z w5 fB);clear HN Ry fB JD;go_wp2_with (refine wpList_store_mid rfl 205 _ _ rfl w.heap.size 0 nv.toArray rfl rfl (by rw [Zf.Z.2.1];exact S8.Z) Zf.Z.1 Zf.Z.2.2 ?_);go_roundw;case rel=>exact ⟨k+1,rfl,HX.Z,HN5.Z⟩
    case measure=>have:=HX.Z;simp only [intOf];omega
   ·obtain ⟨hT,hH⟩:=Qr M' c JC;have hN:Own w w4 [bS (.slice VI (cG M'++[c]).length VJ) (cG (M++l.take (k+1))),aA w.heap.size (.cells (iJ (cR (M++l.take (k+1))) M.length (.slice ta tl tc)).toArray 250 (0,0)),aA (w.heap.size+1) (.cells #[.int .u32 0,.int .u32 0,.int .u32 0,.int .u32 0,.int .u32 0,.int .u32 0,.int .u32 0,.int .u32 0,.int .u64 0,.slice none 0 0] 250)]:=by rw [gQ,hT,hH];exact lz
    have dO:(((cG M'++[c]).length:Int)==64)=false:=by simp only [beq_eq_false_iff_ne];omega
    have HN:=ae hN;have kA:=ae aT;have HX:=ae aX;generalize (cG M'++[c]).length=n4 at*;generalize (cG M').length=n3 at*;generalize c.toNat=cc at*;clear hT hH JC my q1 q2 q3 q4 lz aT Yd iI gQ hM' bt ht hc aX hk eh hN;go_wp2_with (at_builtin;refine ao rfl _ _ _ _ rfl rfl rfl kA.Z ?_);go_roundw;case rel=>exact ⟨k+1,rfl,HX.Z,HN.Z⟩
    case measure=>have:=HX.Z;simp only [intOf];omega
  ·obtain rfl:k=l.length:=by omega
   rw [jX] at bt;obtain ⟨_,aa,ac,rfl,q1,q2⟩:=bt.bytes (v:=u5) (l:=cG (M++l)) (by simp);have KX:=(bt.at (b:=w.heap.size) (o:= .cells (iJ (cR (M++l)) M.length (.slice ta tl tc)).toArray 250 (0,0)) (by simp)).1;have Om:=eU (M++l);obtain ⟨g0,g1,g2,g3,g4,g5,g6,g7,hg⟩:=nE Om;have c8:wr.cell? ⟨w.heap.size,8,none⟩=some (.int .u64 (M.length:Int)):=ag KX (by rw [hg];rfl);have c9:wr.cell? ⟨w.heap.size,9,none⟩=some (.slice ta tl tc):=ag KX (by rw [hg];rfl);have f8:=cL KX 8;have f9:=cL KX 9;have hb:=HB.Z;have e1:IntKind.u64.wrap (l.length:Int)=(l.length:Int):=IntWalk.u64_in _ (by omega);have e2:IntKind.u64.wrap ((M.length:Int)+(l.length:Int))=((M++l).length:Int):=by rw [IntWalk.u64_in _ (by omega),fS];omega
   have hS:=(bt.swap.store 8 (.int .u64 ((M++l).length:Int))).store 9 (.slice aa (cG (M++l)).length ac);rw [hg,MB,<-hg] at hS;have HS:=ae hS;obtain ⟨n5,Zp⟩:=cE ((cG (M++l)).length);obtain ⟨n6,N6⟩:=cE ((M++l).length);rw [<-Zp,<-N6] at HS;rw [<-N6] at e2;rw [<-Zp];have HN:=ae (And.intro Zp N6);have HL8:=ae Om;clear hS hg KX Om bt q1 q2 Zp N6 aX hk hb j2 eh g0 g1 g2 g3 g4 g5 g6 g7;go_upto_region 11 with fail;have Hk:=ae (HS.Z.at (b:=w.heap.size) (o:= .cells (iJ (cR (M++l)) n6 (.slice aa n5 ac)).toArray 250 (0,0)) (by simp)).1;have Vk:=ae (HS.Z.at (b:=w.heap.size+1) (o:= .cells #[.int .u32 0,.int .u32 0,.int .u32 0,.int .u32 0,.int .u32 0,.int .u32 0,.int .u32 0,.int .u32 0,.int .u64 0,.slice none 0 0] 250) (by simp)).1;have HK:=ae HS.Z.keeps;obtain ⟨H,hH⟩:=cE (cR (M++l));rw [<-hH] at Hk HL8;have HH:=ae hH;clear hH;generalize (wr.setCell ⟨w.heap.size,8,none⟩ (.int .u64 (n6:Int))).setCell ⟨w.heap.size,9,none⟩ (.slice aa n5 ac)=w7 at*;obtain ⟨nc,sy⟩:=cE ((iJ H n6 (.slice aa n5 ac)).toArray);rw [<-sy] at Hk;have HI:=ae (show (Tryz.prog.info? 250).map (·.size)=some nc.size/\nc.size=10/\nc.all (·.oneCell')=true by
    have hz:nc.size=10:=by rw [sy,Bd];unfold iJ;rw [fS,io,HL8.Z];rfl
    refine ⟨by rw [hz];kernel_rfl,hz, ?_⟩;rw [sy];exact all_oneCell_toArray (JA _ _ _ _ _))
   have HNC:=ae sy;clear sy;go_wp2_with (first | (refine wpList_load_row rfl 250 _ rfl w.heap.size rfl 250 nc (0,0) _ Hk.Z Tryz.underlying250 rfl HI.Z.1 ?_) | (refine wpList_store_row rfl 250 _ _ rfl (w.heap.size+1) nc rfl rfl 250 _ Vk.Z HI.Z.1 HI.Z.2.1.symm HI.Z.2.2 ?_));have hh:(w7.setRow (w.heap.size+1) nc).heap[w.heap.size+1]?=some (.cells nc 250 (0,0)):=setRow_heap w7 _ _ nc 250 _ Vk.Z;refine bodyPost_ret (results_cell_row Tryz.results145 _ _ (w.heap.size+1) 250 nc (0,0) _ rfl hh Tryz.underlying250 rfl HI.Z.1) rfl ?_;have hk:=jq w7 (w.heap.size+1) nc;refine ⟨HK.Z.trans hk (λb hb e=>by omega),_,rfl,.slice aa n5 ac, ?_, ?_⟩
   ·rw [HNC.Z,HH.Z,HN.Z.2]
   ·exact (HS.Z.third.setRow nc).owns (by simp)

end Go.Proofs.YtlcnhpjggjgnpaaGreatDoor