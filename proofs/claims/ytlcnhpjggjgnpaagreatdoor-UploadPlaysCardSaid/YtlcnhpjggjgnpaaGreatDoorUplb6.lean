/- A part of the proof. -/
import Derived.Test.YtlcnhpjggjgnpaaGreatDoorUplb2
import Derived.Deep.DeepCutAuto
import Derived.Deep.CutBlock
set_option linter.unusedSimpArgs false
set_option linter.unusedVariables false
set_option maxRecDepth 100000
set_option maxHeartbeats 2000000
namespace Go.Proofs.YtlcnhpjggjgnpaaGreatDoor
open Go.RowKit Go.MapKept
variable {f:DM->Int × DM} {j n r t:Nat} {m:DM} {nm:aD} {aQ:List aH} {v:Value} {w w' w0 wr:World} {rs:List (bB w.heap.size)}
theorem Tidy.fY (h:Tidy m n t) (f:aD):Tidy (aO m f).2 (n+1) (t+1):=by rw [<-ki];exact h.step _ ⟨by simp,by simp⟩ (λ_=>rfl) (λ_=>fC _)
theorem Tidy.append (h:Tidy m n t) (f:aD) (p:aH):Tidy (aM m f p).2 (n+1) (t+1):=by rw [<-kj];exact h.step _ ⟨by simp,by simp⟩ (λe=>absurd rfl e) (λ_=>fC _)
theorem Tidy.dZ (h:Tidy m n t) (f:aD):Tidy (aE m f).2 (n+1) (t+1):=by rw [<-gb];exact h.step _ ⟨by simp,by simp⟩ (λ_=>rfl) (λ_=>fC _)
theorem Tidy.rename (h:Tidy m n t) (f g:aD):Tidy (bw m f g).2 (n+1) (t+1):=by rw [<-lD];exact h.step _ ⟨by simp,by simp⟩ (λ_=>rfl) (λe=>absurd rfl e)
theorem Tidy.first (h:Tidy m n t) (f:aD):Tidy (jK m f).2 (n+1) (t+1):=by
 unfold jK;split
 ·exact h.dZ f
 ·exact h.mono (eM _) (eM _)
theorem Tidy.then {r:Int × DM} {a:Nat} (h:Tidy r.2 n t) (hf:Tidy (f r.2).2 (n+a) (t+a)):Tidy (dW r f).2 (n+a) (t+a):=by
 unfold dW;split
 ·exact hf
 ·exact h.mono (by omega) (by omega)
theorem Tidy.write {t':aD} {b:aH}:∀ (f:Nat) {m:DM} {n t i:Nat},Tidy m n t->Tidy (dT t' b f m i).2 (n+f) (t+f)
 | 0,m,n,t,i,h=>h
 | f+1,m,n,t,i,h=>by
  rw [dT];split
  ·split
   ·have:=Tidy.write (t':=t') (b:=b) f (i:=i+1048576) (h.append t' ((b.drop i).take 1048576));rw [show n+(f+1)=n+1+f by omega,show t+(f+1)=t+1+f by omega];exact this
   ·exact (h.append t' _).mono (by omega) (by omega)
  ·exact h.mono (by omega) (by omega)
theorem Tidy.full {r:Int × DM} (h:Tidy r.2 n t) (f:aD):Tidy (vG f r).2 (n+1) (t+1):=by
 unfold vG;split
 ·split
  ·exact h.dZ f
  ·exact h.dZ f
 ·exact h.mono (eM _) (eM _)
theorem Tidy.adi (h:Tidy m n t) (nm:aD) (b:aH):Tidy (il m nm b).2 (n+(b.length+6)) (t+(b.length+6)):=by have h1:=Tidy.then (a:=1) (f:=λm=>aO m (bj nm)) (h.first (bj nm)) ((h.first _).fY _);have h2:=Tidy.then (a:=b.length / 1048576+1) (f:=λm=>jh m (bj nm) b) h1 (Tidy.write _ h1);have h3:=Tidy.then (a:=0) (f:=aV) h2 h2.sync;have h4:=Tidy.then (a:=1) (f:=λm=>bw m (bj nm) nm) h3 (h3.rename _ _);have h5:=Tidy.then (a:=0) (f:=aV) h4 h4.sync;exact h5.mono (by omega) (by omega)
theorem Tidy.lay (h:Tidy m n t) (nm:aD) (b:aH):Tidy (mz m nm b).2 (n+(b.length+7)) (t+(b.length+7)):=by rw [<-OD];exact (h.adi nm b).full _
theorem Own.aN {w wr:World} {r:Nat} {m:DM} {rs:List (bB w.heap.size)} (h:Own w wr (dw r m::rs)) {n t:Nat} (ht:Tidy m n t) (mN:t <549755813888) (s:aD): ∃ na nc,wr.cell? ⟨r,1,none⟩=some (.slice na m.aN.length nc)/\wr.cell? ⟨r,5,none⟩=some (.bool m.bh)/\aW 79 #[.slice na m.aN.length nc,.string s] wr (.int .i64 (dr m.aN s)) wr:=by obtain ⟨F,QO,hFb⟩:=h.head;obtain ⟨vn,vs,vl,Cf⟩:=QO;have hl:=ht.AH;have fb:=jk Cf.aN s (by omega);have c1:=Cf.cells.c1;have c5:=Cf.cells.c5;obtain ⟨na,nc,rfl,_,_⟩:=Cf.aN.aG;exact ⟨na,nc,c1,c5,fb⟩
theorem tH.of2 {x:bB w.heap.size} {res abR:Int × DM} {e:Ending} (h:tH w r (x::rs) res e w') (py:res=abR):tH w r rs abR e w':=by subst py;exact ⟨h.1,h.2.swap.drop⟩
def sM (w:World) (r:Nat) (rs:List (bB w.heap.size)) (n t:Nat) (P:Int × DM) (ev:Value) (wx:World):Prop:=
 ∃ (e:Int) (m:DM),P=(e,m)/\ev= .int .i64 e/\Own w wx (dw r m::rs)/\Tidy m n t
theorem E8 (a k:Nat) (s:Int) (hs:0 <s) (h:k <a):a - ((k:Int)+s).toNat <a - (k:Int).toNat:=by omega
theorem qN {r:Int × DM} (h:¬r.1=0):dW r f=r:=if_neg h
theorem oA:dW (0,m) f=f m:=if_pos rfl
theorem Nb (h:Own w w0 (dw r m::rs)) (ht:Tidy m n t) (nm:aD) (qf:nm.size<=65536) {ll:List aH} (hr:RowsIn w0 v ll) (hn:n+(aj ll).length+8 <549755813888) (mN:t+(aj ll).length+8 <549755813888) (AE:ll.length<=1099511627776): bF 173 #[.pointer (some ⟨r,0,none⟩),.string nm,v] w0 (tH w r rs (mz m nm (aj ll))):=by
 rw [<-OD];obtain ⟨a,c,rfl,eh⟩:=hr;have PJ:∀ w,(Op.stringOp .add nm ⟨#[43]⟩).run Tryz.prog w= .ok (.string (bj nm)) w:=λw=>run_string_add_sum w nm ⟨#[43]⟩ (by change nm.size+1<=_;omega);have HC:=ae eh;have HO:=ae h;have HT:=ae ht;have pD:=mK ll;have i1:(ll.length:Int)<=1099511627776:=by omega
 clear h ht eh;go_enter Tryz.func173,Tryz.ntmps173;go_wp2_with fail;clear PJ;go_loopw [8,9] (λbv iv wx=>∃ (k:Nat),k<=ll.length/\iv= .int .i64 (k:Int)/\bC wx w0.heap.size bv (aj (ll.take k))/\ak w0 wx) (λ_ iv _=>ll.length - (intOf iv).toNat);case atStart=>exact ⟨0,fC _,rfl,bC.nil _ _,ah.refl _ _⟩
 case round=>
  obtain ⟨k,hk,rfl,hb,hq⟩:=hrel;have j0:=np k;obtain ⟨ba,bc,rfl,kg,hbm⟩:=hb.bytes.aG;by_cases aX:k <ll.length
  ·obtain ⟨l,hl⟩:∃ l,ll[k]?=some l:=⟨ll[k],js aX⟩;obtain ⟨x,p,rfl,Ze,gm⟩:=HC.Z k l hl;have ZJ:wr.cell? (x.add k)=some p:=(kK (hq.block _ (wT w0 _ Ze) (λe=>e))).trans Ze;obtain ⟨pa,pc,rfl,_,_⟩:=gm.aG;have j1:(k:Int) <ll.length:=by omega
   have lf:=Ep hl;have po:=(rj (gm.keep hq) (by omega)).mono (λe w1 h=>h);have Va:=ae po;have HBO:=ae hb;have HQ:=ae hq;have hs:=ji hl;have qy:=pD (k+1);rw [hs,fS] at qy;have HS:=ae hs;clear po Ze gm hb hq hs;go_wp2_with fail;refine Va.Z.mono ?_;rintro e w1 ⟨pv,rfl,fT,bN⟩;obtain ⟨v',w',aT,qJ,qB⟩:=bC.grow (kT HQ.Z.size bN.size) (HBO.Z.keep bN) fT.bytes.reads (by omega);rw [<-HS.Z] at qJ;obtain ⟨va,vc,rfl,_,_⟩:=qJ.bytes.aG;have cV:=ae aT;have dE:=ae (⟨k+1,by omega,rfl,qJ,(HQ.Z.trans bN (λ_ _ e=>e)).trans qB (λb hb e=>by have:=du HBO.Z b e;omega)⟩:∃ (k':Nat),k'<=ll.length/\Value.int .i64 ((k+1:Nat):Int)= .int .i64 (k':Int)/\bC w' w0.heap.size (.slice va (aj (ll.take (k+1))).length vc) (aj (ll.take k'))/\ak w0 w');clear aT qJ qB fT bN HBO Va;go_wp2_with (at_builtin;(first | (refine ao rfl _ _ _ _ rfl rfl rfl cV.Z ?_)));go_roundw;case rel=>exact dE.Z
   case measure=>simp [intOf];omega
  ·have qU:k=ll.length:=by omega
   subst qU;rw [jX] at hb;have bt:=(HO.Z.ix hb hq).swap;clear hb hq;rw [jX] at kg;obtain ⟨na,nc,c1,c5,fb⟩:=bt.aN HT.Z (by omega) (bj nm);have HF:=ae fb;have HW:=ae bt;clear fb bt;rw [jX];go_upto_region 8 with fail;go_cut [42] from 16 to 112 (λc wx=>∃ bb:Bool,c= .bool bb/\(bb=true↔(m.bh=false/\0<=dr m.aN (bj nm)))/\Own w wx (dw r m::(bS (.slice ba (aj ll).length bc) (aj ll)::rs)))
   case first=>
    cases hd:m.bh with
    | true=>
     rw [hd] at c5;have HD:=ae hd;clear hd;go_wp2;go_meet;exact ⟨false,rfl,by rw [HD.Z];simp,HW.Z⟩
    | false=>
     rw [hd] at c5;obtain ⟨fi,fb⟩:=cE (dr m.aN (bj nm));have HG:=ae (show 0<=fi↔(m.bh=false/\0<=dr m.aN (bj nm)) from by rw [fb,hd];simp);have hF:=HF.Z;rw [<-fb] at hF;have rp:=ae hF;clear hd hF HF fb;by_cases Yv:0<=fi
     ·go_wp2_with fail;refine gU rp.Z ?_;go_wp2;go_meet;exact ⟨true,rfl,⟨λ_=>HG.Z.1 Yv,λ_=>rfl⟩,HW.Z⟩
     ·go_wp2_with fail;refine gU rp.Z ?_;go_wp2;go_meet;exact ⟨false,congrArg Value.bool (decide_eq_false (by omega)),⟨(λh=>by cases h),λh=>absurd (HG.Z.2 h) (by omega)⟩,HW.Z⟩
   case rest=>
    obtain ⟨bb,rfl,xL,bt⟩:=hcut;have rM:il m nm (aj ll)=il m nm (aj ll):=rfl;conv at rM=>rhs;unfold il
    have rM:=ae rM;have QP:=ae bt;have hrf:jK m (bj nm)=if bb=true then aE m (bj nm) else (0,m):=by
     unfold jK;by_cases hb:bb=true
     ·rw [if_pos hb,if_pos (xL.1 hb)]
     ·rw [if_neg hb,if_neg (λh=>hb (xL.2 h))]
    have HRF:=ae hrf;clear hrf xL bt HF c1 c5 HW;go_upto_if 42 with fail;go_cut [10] from 16 to 112 (λev wx=>sM w r (bS (.slice ba (aj ll).length bc) (aj ll)::rs) (n+1) (t+1) (jK m (bj nm)) ev wx)
    case first=>
     cases bb with
     | true=>
      have bG:=QP.Z.nZ HT.Z (by omega) (by omega) ⟨2,bj nm,⟨#[]⟩,[]⟩ ⟨by simp,by simp⟩ (λ_=>rfl) (λF' w' _ _=>dH w');rw [gb] at bG;have fP:=ae bG;have hr:jK m (bj nm)=aE m (bj nm):=by simpa using HRF.Z
      have HR:=ae hr;have WS:=ae (HT.Z.dZ (bj nm));clear bG hr;go_wp2_with fail;refine fP.Z.mono ?_;rintro e w4 ⟨rfl,lz⟩;have HG:=ae (⟨_,_,HR.Z,rfl,lz,WS.Z⟩:sM w r (bS (.slice ba (aj ll).length bc) (aj ll)::rs) (n+1) (t+1) (jK m (bj nm)) _ w4);clear lz;go_wp2;go_meet;exact HG.Z
     | false=>have HG:=ae (⟨_,_,(by simpa using HRF.Z),rfl,QP.Z,HT.Z.mono (by omega) (by omega)⟩:sM w r (bS (.slice ba (aj ll).length bc) (aj ll)::rs) (n+1) (t+1) (jK m (bj nm)) (.int .i64 0) wc);go_wp2;go_meet;exact HG.Z
    case rest=>
     obtain ⟨e1,m1,hP,rfl,ho,DA⟩:=hcut;have rM:=rM.Z;rw [hP] at rM;have rM:=ae rM;have HO:=ae ho;have HT1:=ae DA;clear hP ho DA;go_upto_if 48 with fail;go_cut [10] from 16 to 112 (λev wx=>sM w r (bS (.slice ba (aj ll).length bc) (aj ll)::rs) (n+2) (t+2) (dW (e1,m1) (λm=>aO m (bj nm))) ev wx)
     case first=>
      by_cases he:e1=0
      ·subst he;have bG:=HO.Z.nZ HT1.Z (by omega) (by omega) ⟨0,bj nm,⟨#[]⟩,[]⟩ ⟨by simp,by simp⟩ (λ_=>rfl) (λF' w' _ _=>dH w');rw [ki] at bG;have fP:=ae bG;have WS:=ae (HT1.Z.fY (bj nm));clear bG;go_wp2_with fail;refine fP.Z.mono ?_;rintro e w4 ⟨rfl,lz⟩;have HG:=ae (⟨_,_,oA,rfl,lz,WS.Z⟩:sM w r (bS (.slice ba (aj ll).length bc) (aj ll)::rs) (n+2) (t+2) (dW (0,m1) (λm=>aO m (bj nm))) _ _);clear lz;go_wp2;go_meet;exact HG.Z
      ·have dO:(e1==0)=false:=by simpa using he
       have HG:=ae (⟨_,_,qN (r:=(e1,m1)) he,rfl,HO.Z,HT1.Z.mono (by omega) (by omega)⟩:sM w r (bS (.slice ba (aj ll).length bc) (aj ll)::rs) (n+2) (t+2) (dW (e1,m1) (λm=>aO m (bj nm))) (.int .i64 e1) _);clear he;go_wp2;go_meet;exact HG.Z
     case rest=>
      obtain ⟨e2,m2,hP,rfl,ho,ht2⟩:=hcut;have rM:=rM.Z;rw [hP] at rM;have rM:=ae rM;have HO:=ae ho;have Dv:=ae ht2;clear hP ho ht2;go_upto_block 2 with fail;go_cut [10,11,12] from 16 to 112 (λev _ _ wx=>sM w r (bS (.slice ba (aj ll).length bc) (aj ll)::rs) (n+((aj ll).length+2)) (t+((aj ll).length+2)) (dW (e2,m2) (λm=>jh m (bj nm) (aj ll))) ev wx)
      case first=>
       go_wp2_with fail;go_loopw [10,11] (λev iv wx=>∃ (k f:Nat) (e':Int) (m':DM) (n' t':Nat),ev= .int .i64 e'/\iv= .int .i64 (k:Int)/\Own w wx (dw r m'::(bS (.slice ba (aj ll).length bc) (aj ll)::rs))/\Tidy m' n' t'/\(n'<=n+2+k/\n'<=n+2+(aj ll).length/\t'<=t+2+k/\t'<=t+2+(aj ll).length)/\dW (e',m') (λm=>dT (bj nm) (aj ll) f m k)=dW (e2,m2) (λm=>jh m (bj nm) (aj ll))/\(aj ll).length <k+f*1048576/\k<=(aj ll).length+1048576) (λ_ iv _=>(aj ll).length - (intOf iv).toNat);case atStart=>exact ⟨0,(aj ll).length / 1048576+1,e2,m2,n+2,t+2,rfl,rfl,HO.Z,Dv.Z,by omega,rfl,by omega,by omega⟩
       case round=>
        obtain ⟨k,f,e',m',n',t',rfl,rfl,ho,C3,hbd,C6,hf,qB⟩:=hrel;have j0:=np k;by_cases he:e'=0
        ·subst he;by_cases aX:k <(aj ll).length
         ·obtain ⟨f,rfl⟩:∃ f',f=f'+1:=⟨f - 1,by omega⟩;have WT:=C6;rw [dW,if_pos rfl,dT,if_pos aX] at WT;clear C6;obtain ⟨j,hj⟩:=cE ((((aj ll).drop k).take 1048576).length);have FF:j=if (aj ll).length <k+1048576 then (aj ll).length - k else 1048576:=by rw [hj,nM,iN];split <;>omega
          have Y9:k+j<=(aj ll).length:=by rw [FF];split <;>omega
          have hjt:((aj ll).drop k).take j=((aj ll).drop k).take 1048576:=by have:=jX (l:=((aj ll).drop k).take 1048576);rw [<-hj,List.take_take] at this;rw [O9 (by rw [hj,nM];omega)] at this;exact this
          have bG:=ho.Tp C3 (by omega) (by omega) ⟨1,bj nm,⟨#[]⟩,((aj ll).drop k).take 1048576⟩ ⟨by simp,by simp⟩ (λh=>absurd rfl h) (pv:= .slice (Option.map (λx=>x.add k) ba) j (bc - k)) (λw' hw'=>by have:=aC.SC hw' k j Y9;rw [hjt,if_neg (by omega:¬bc=k)] at this;exact this)
          rw [kj] at bG;have kt:=C3.append (bj nm) (((aj ll).drop k).take 1048576);generalize ((aj ll).drop k).take 1048576=p at bG WT kt;have fP:=ae bG;have QQ:=ae WT;have AF:=ae kt;have i1:(k:Int) <(aj ll).length:=by omega
          have HX:=ae (show (n'<=n+2+k/\n'<=n+2+(aj ll).length/\t'<=t+2+k/\t'<=t+2+(aj ll).length)/\k<=(aj ll).length+1048576/\(aj ll).length <k+(f+1)*1048576/\k <(aj ll).length from ⟨hbd,qB,hf,aX⟩);clear bG WT kt ho C3 hjt hj hbd hf qB aX;by_cases IK:(aj ll).length <k+1048576
          ·rw [if_pos IK] at FF;subst FF;have ZR:decide (((aj ll).length:Int) <(k:Int)+1048576)=true:=decide_eq_true (by omega);clear IK Y9;go_wp2_with fail;refine fP.Z.mono ?_;rintro e w5 ⟨rfl,ju⟩;have yh:=ae ju;clear ju fP;generalize aM m' (bj nm) p=q at yh QQ AF ⊢;obtain ⟨qc,qm⟩:=q;have hrel:=(⟨k+1048576,f,qc,qm,n'+1,t'+1,rfl,congrArg (Value.int .i64) (by omega),yh.Z,AF.Z,by have:=HX.Z;omega,QQ.Z,by have:=HX.Z;omega,by have:=HX.Z;omega⟩:∃ (k' f':Nat) (e':Int) (m':DM) (n' t':Nat),Value.int .i64 qc= .int .i64 e'/\Value.int .i64 ((k:Int)+1048576)= .int .i64 (k':Int)/\Own w w5 (dw r m'::bS (.slice ba (aj ll).length bc) (aj ll)::rs)/\Tidy m' n' t'/\(n'<=n+2+k'/\n'<=n+2+(aj ll).length/\t'<=t+2+k'/\t'<=t+2+(aj ll).length)/\dW (e',m') (λm=>dT (bj nm) (aj ll) f' m k')=dW (e2,m2) (λm=>jh m (bj nm) (aj ll))/\(aj ll).length <k'+f'*1048576/\k'<=(aj ll).length+1048576);have dE:=ae hrel;have VV:IntKind.i64.wrap ((k:Int)+1048576)=(k:Int)+1048576:=qi _ (by omega);have IQ:=ae (E8 (aj ll).length k 1048576 (by decide) HX.Z.2.2.2);clear hrel HX AF QQ yh ZR i1;go_wp2;go_roundw;case rel=>exact dE.Z
           case measure=>exact IQ.Z
          ·rw [if_neg IK] at FF;subst FF;have ZR:decide (((aj ll).length:Int) <(k:Int)+1048576)=false:=decide_eq_false (by omega);clear IK;go_wp2_with fail;refine fP.Z.mono ?_;rintro e w5 ⟨rfl,ju⟩;have yh:=ae ju;clear ju fP;generalize aM m' (bj nm) p=q at yh QQ AF ⊢;obtain ⟨qc,qm⟩:=q;have hrel:=(⟨k+1048576,f,qc,qm,n'+1,t'+1,rfl,congrArg (Value.int .i64) (by omega),yh.Z,AF.Z,by have:=HX.Z;omega,QQ.Z,by have:=HX.Z;omega,by have:=HX.Z;omega⟩:∃ (k' f':Nat) (e':Int) (m':DM) (n' t':Nat),Value.int .i64 qc= .int .i64 e'/\Value.int .i64 ((k:Int)+1048576)= .int .i64 (k':Int)/\Own w w5 (dw r m'::bS (.slice ba (aj ll).length bc) (aj ll)::rs)/\Tidy m' n' t'/\(n'<=n+2+k'/\n'<=n+2+(aj ll).length/\t'<=t+2+k'/\t'<=t+2+(aj ll).length)/\dW (e',m') (λm=>dT (bj nm) (aj ll) f' m k')=dW (e2,m2) (λm=>jh m (bj nm) (aj ll))/\(aj ll).length <k'+f'*1048576/\k'<=(aj ll).length+1048576);have dE:=ae hrel;have VV:IntKind.i64.wrap ((k:Int)+1048576)=(k:Int)+1048576:=qi _ (by omega);have IQ:=ae (E8 (aj ll).length k 1048576 (by decide) HX.Z.2.2.2);clear hrel HX AF QQ yh ZR i1;go_wp2;go_roundw;case rel=>exact dE.Z
           case measure=>exact IQ.Z
         ·have hR:(0,m')=dW (e2,m2) (λm=>jh m (bj nm) (aj ll)):=by
           rw [<-C6,oA];cases f with
           | zero=>rfl
           | succ f=>rw [dT,if_neg aX]
          have HG:=ae (⟨0,m',hR.symm,rfl,ho,C3.mono (by omega) (by omega)⟩:sM w r (bS (.slice ba (aj ll).length bc) (aj ll)::rs) (n+((aj ll).length+2)) (t+((aj ll).length+2)) (dW (e2,m2) (λm=>jh m (bj nm) (aj ll))) (.int .i64 0) _);have i1:¬(k:Int) <(aj ll).length:=by omega
          clear C6 hR hf qB hbd aX ho C3;go_wp2;go_meet;exact HG.Z
        ·have hR:=C6;rw [qN (r:=(e',m')) he] at hR;have HG:=ae (⟨e',m',hR.symm,rfl,ho,C3.mono (by omega) (by omega)⟩:sM w r (bS (.slice ba (aj ll).length bc) (aj ll)::rs) (n+((aj ll).length+2)) (t+((aj ll).length+2)) (dW (e2,m2) (λm=>jh m (bj nm) (aj ll))) (.int .i64 e') _);have dO:(e'==0)=false:=by simpa using he
         clear C6 hR hf qB hbd he ho C3;go_wp2_with fail;all_goals (go_meet;exact HG.Z)
      case rest=>
       obtain ⟨e3,m3,hP,rfl,ho,Z5⟩:=hcut;have rM:=rM.Z;rw [hP] at rM;have rM:=ae rM;have HO:=ae ho;have Yt:=ae Z5;clear hP ho Z5;go_upto_if 80 with fail;go_cut [10] from 16 to 112 (λev wx=>sM w r (bS (.slice ba (aj ll).length bc) (aj ll)::rs) (n+((aj ll).length+2)) (t+((aj ll).length+2)) (dW (e3,m3) aV) ev wx)
       case first=>
        by_cases he:e3=0
        ·subst he;obtain ⟨w5,pJ,ju⟩:=HO.Z.vE Yt.Z;have fP:=ae pJ;have HON:=ae ju;have WS:=ae Yt.Z.sync;clear pJ ju;go_wp2_with fail;refine fP.Z.mono ?_;rintro e w4 ⟨rfl,rfl⟩;have HG:=ae (⟨_,_,oA,rfl,HON.Z,WS.Z⟩:sM w r (bS (.slice ba (aj ll).length bc) (aj ll)::rs) (n+((aj ll).length+2)) (t+((aj ll).length+2)) (dW (0,m3) aV) _ _);go_wp2;go_meet;exact HG.Z
        ·have dO:(e3==0)=false:=by simpa using he
         have HG:=ae (⟨_,_,qN (r:=(e3,m3)) he,rfl,HO.Z,Yt.Z.mono (by omega) (by omega)⟩:sM w r (bS (.slice ba (aj ll).length bc) (aj ll)::rs) (n+((aj ll).length+2)) (t+((aj ll).length+2)) (dW (e3,m3) aV) (.int .i64 e3) _);clear he;go_wp2;go_meet;exact HG.Z
       case rest=>
        obtain ⟨e4,m4,hP,rfl,ho,ht4⟩:=hcut;have rM:=rM.Z;rw [hP] at rM;have rM:=ae rM;have HO:=ae ho;have HT4:=ae ht4;clear hP ho ht4;go_upto_if 84 with fail;go_cut [10] from 16 to 112 (λev wx=>sM w r (bS (.slice ba (aj ll).length bc) (aj ll)::rs) (n+((aj ll).length+3)) (t+((aj ll).length+3)) (dW (e4,m4) (λm=>bw m (bj nm) nm)) ev wx)
        case first=>
         by_cases he:e4=0
         ·subst he;have bG:=HO.Z.nZ HT4.Z (by omega) (by omega) ⟨3,bj nm,nm,[]⟩ ⟨by simp,by simp⟩ (λ_=>rfl) (λF' w' _ _=>dH w');rw [lD] at bG;have fP:=ae bG;have WS:=ae (HT4.Z.rename (bj nm) nm);clear bG;go_wp2_with fail;refine fP.Z.mono ?_;rintro e w4 ⟨rfl,lz⟩;have HG:=ae (⟨_,_,oA,rfl,lz,WS.Z⟩:sM w r (bS (.slice ba (aj ll).length bc) (aj ll)::rs) (n+((aj ll).length+3)) (t+((aj ll).length+3)) (dW (0,m4) (λm=>bw m (bj nm) nm)) _ _);clear lz;go_wp2;go_meet;exact HG.Z
         ·have dO:(e4==0)=false:=by simpa using he
          have HG:=ae (⟨_,_,qN (r:=(e4,m4)) he,rfl,HO.Z,HT4.Z.mono (by omega) (by omega)⟩:sM w r (bS (.slice ba (aj ll).length bc) (aj ll)::rs) (n+((aj ll).length+3)) (t+((aj ll).length+3)) (dW (e4,m4) (λm=>bw m (bj nm) nm)) (.int .i64 e4) _);clear he;go_wp2;go_meet;exact HG.Z
        case rest=>
         obtain ⟨e5,m5,hP,rfl,ho,ht5⟩:=hcut;have rM:=rM.Z;rw [hP] at rM;have rM:=ae rM;have HO:=ae ho;have S8:=ae ht5;clear hP ho ht5;go_upto_if 91 with fail;go_cut [10] from 16 to 112 (λev wx=>sM w r (bS (.slice ba (aj ll).length bc) (aj ll)::rs) (n+((aj ll).length+3)) (t+((aj ll).length+3)) (dW (e5,m5) aV) ev wx)
         case first=>
          by_cases he:e5=0
          ·subst he;obtain ⟨w5,pJ,ju⟩:=HO.Z.vE S8.Z;have fP:=ae pJ;have HON:=ae ju;have WS:=ae S8.Z.sync;clear pJ ju;go_wp2_with fail;refine fP.Z.mono ?_;rintro e w4 ⟨rfl,rfl⟩;have HG:=ae (⟨_,_,oA,rfl,HON.Z,WS.Z⟩:sM w r (bS (.slice ba (aj ll).length bc) (aj ll)::rs) (n+((aj ll).length+3)) (t+((aj ll).length+3)) (dW (0,m5) aV) _ _);go_wp2;go_meet;exact HG.Z
          ·have dO:(e5==0)=false:=by simpa using he
           have HG:=ae (⟨_,_,qN (r:=(e5,m5)) he,rfl,HO.Z,S8.Z.mono (by omega) (by omega)⟩:sM w r (bS (.slice ba (aj ll).length bc) (aj ll)::rs) (n+((aj ll).length+3)) (t+((aj ll).length+3)) (dW (e5,m5) aV) (.int .i64 e5) _);clear he;go_wp2;go_meet;exact HG.Z
         case rest=>
          obtain ⟨e6,m6,hP,rfl,ho,ht6⟩:=hcut;have rM:=rM.Z;rw [hP] at rM;have rM:=ae rM;have yh:=ae ho;have S8:=ae ht6;clear hP ho ht6;by_cases h4:e6=4
          ·subst h4;obtain ⟨na5,nc5,c1,c5,hf5⟩:=yh.Z.aN S8.Z (by omega) (bj nm);by_cases Yv:0<=dr m6.aN (bj nm)
           ·have bG:=yh.Z.nZ S8.Z (by omega) (by omega) ⟨2,bj nm,⟨#[]⟩,[]⟩ ⟨by simp,by simp⟩ (λ_=>rfl) (λF' w' _ _=>dH w');rw [gb] at bG;have HF5:=ae hf5;have fP:=ae bG;have py:vG (bj nm) (il m nm (aj ll))=(if (aE m6 (bj nm)).1=0 then (4,(aE m6 (bj nm)).2) else aE m6 (bj nm)):=by rw [rM.Z,vG,if_pos ⟨rfl,Yv⟩]
            generalize aE m6 (bj nm)=q at fP py;obtain ⟨qc,qm⟩:=q;have xM:=ae py;have Ld:decide ((0:Int)<=dr m6.aN (bj nm))=true:=decide_eq_true Yv;generalize dr m6.aN (bj nm)=fi at HF5 Ld;clear Yv py hf5 bG rM;by_cases hqc:qc=0
            ·subst hqc;go_wp2_with (first | (go_at_call 79;refine HF5.Z.mono ?_;rintro e w' ⟨rfl,rfl⟩) | (go_at_call 80;refine fP.Z.mono ?_;rintro e w6 ⟨rfl,oy⟩;have Rz:=ae oy;clear oy));all_goals (go_ret;exact tH.of2 (res:=(4,qm)) ⟨rfl,Rz.Z⟩ (xM.Z.trans (by simp)).symm)
            ·have hqb:(qc==0)=false:=by simpa using hqc
             go_wp2_with (first | (go_at_call 79;refine HF5.Z.mono ?_;rintro e w' ⟨rfl,rfl⟩) | (go_at_call 80;refine fP.Z.mono ?_;rintro e w6 ⟨rfl,oy⟩;have Rz:=ae oy;clear oy));all_goals (go_ret;exact tH.of2 (res:=(qc,qm)) ⟨rfl,Rz.Z⟩ (xM.Z.trans (by simp [hqc])).symm)
           ·have py:vG (bj nm) (il m nm (aj ll))=(4,m6):=by rw [rM.Z,vG,if_neg (λh=>Yv h.2)]
            have xM:=ae py;have HF5:=ae hf5;have Ld:decide ((0:Int)<=dr m6.aN (bj nm))=false:=decide_eq_false Yv;generalize dr m6.aN (bj nm)=fi at HF5 Ld;clear Yv py hf5 rM;go_wp2_with (first | (go_at_call 79;refine HF5.Z.mono ?_;rintro e w' ⟨rfl,rfl⟩));all_goals (go_ret;exact tH.of2 (res:=(4,m6)) ⟨rfl,yh.Z⟩ xM.Z.symm)
          ·have h4':(e6==4)=false:=by simpa using h4
           have py:vG (bj nm) (il m nm (aj ll))=(e6,m6):=by rw [rM.Z,vG,if_neg (λh=>h4 h.1)]
           have xM:=ae py;clear py rM;go_wp2_with fail;all_goals (go_ret;exact tH.of2 (res:=(e6,m6)) ⟨rfl,yh.Z⟩ xM.Z.symm)
def fL (r:Nat) (nm:aD) (v:Value):Obj:= .cells #[.pointer (some ⟨r,0,none⟩),.string nm,v] 238 (0,0)
def fp (w:World) (r:Nat) (nm:aD) (rs:List (bB w.heap.size)) (R:tB) (e:Ending) (w':World):Prop:=
 (R.res=none/\e= .returned (.tuple #[.pointer none,.int .i64 R.code])/\Own w w' (dw r R.m::rs))\/
 ∃ (aQ:List aH) (used j:Nat) (v:Value),R.res=some (aQ,used)/\e= .returned (.tuple #[.pointer (some ⟨j,0,none⟩),.int .i64 R.code])/\Own w w' (dw r R.m::aA j (fL r nm v)::gq v aQ::rs)
theorem fp.bad {R:tB} {c:Int} (hr:R=⟨c,m,none⟩) (h:Own w w' (dw r m::rs)):fp w r nm rs R (.returned (.tuple #[.pointer none,.int .i64 c])) w':=by subst hr;exact .inl ⟨rfl,rfl,h⟩
theorem fp.ok {R:tB} {used:Nat} (hr:R=⟨0,m,some (aQ,used)⟩) (h:Own w w' (dw r m::aA j (fL r nm v)::gq v aQ::rs)): fp w r nm rs R (.returned (.tuple #[.pointer (some ⟨j,0,none⟩),.int .i64 0])) w':=by subst hr;exact .inr ⟨aQ,used,j,v,rfl,rfl,h⟩
theorem Own.abS {x a b:bB w.heap.size} (h:Own w wr (x::a::b::rs)):Own w wr (a::b::x::rs):=Own.third (Own.third h)
theorem J6 (nm:aD):(bj nm).size=nm.size+1:=by unfold bj;rw [ByteArray.size_append];rfl
theorem E9 (s:aD):bU s=(decide ((1:Int)<=(s.size:Int)) && decide ((s.size:Int)<=160)):=by
 unfold bU;congr 1;rw [Fz];have:s.toList.length=s.size:=by rw [ByteArray.toList_eq,Array.length_toList];rfl
 cases hl:s.toList with
 | nil=>rw [hl] at this;simp at this ⊢;omega
 | cons x l=>rw [hl] at this;simp at this ⊢;omega
theorem Cg (h:bU nm=true) (h2:¬nm.size=160):bU (bj nm)=true:=by rw [E9] at h ⊢;rw [J6];simp at h ⊢;omega
theorem QR (h2:nm.size=160):bU (bj nm)=false:=by rw [E9,J6,h2];rfl
theorem Fa (h:bU nm=false\/nm.size=160):ct m nm=⟨1,m,none⟩:=by
 unfold ct;rw [if_neg];rintro ⟨h1,h2⟩;rcases h with h | h
 ·rw [h] at h1;cases h1
 ·rw [QR h] at h2;cases h2
theorem QS (h:Own w w0 (dw r m::rs)) (ht:Tidy m n t) (mN:t <549755813888) (nm:aD) (hb:bU nm=false\/nm.size=160\/m.bh=true): bF 133 #[.pointer (some ⟨r,0,none⟩),.string nm] w0 (fp w r nm rs (ct m nm)):=by
 have hi:=lZ nm w0;obtain ⟨na,nc,c1,c5,hf⟩:=h.aN ht mN nm;have H:=ae h;have HI:=ae hi;cases hn:bU nm with
 | false=>
  have HE:=ae (Fa (m:=m) (.inl hn));rw [hn] at HI;go_enter Tryz.func133,Tryz.ntmps133;go_wp2_with fail;refine gU HI.Z ?_;go_wp2;go_ret2;exact fp.bad HE.Z H.Z
 | true=>
  rw [hn] at HI;by_cases hz:nm.size=160
  ·have HE:=ae (Fa (m:=m) (.inr hz));have hz':(nm.size:Int)=160:=by omega
   go_enter Tryz.func133,Tryz.ntmps133;go_wp2_with fail;refine gU HI.Z ?_;go_wp2;go_ret2;exact fp.bad HE.Z H.Z
  ·have hd:m.bh=true:=by
    rcases hb with hb | hb | hb
    ·rw [hn] at hb;cases hb
    ·exact absurd hb hz
    ·exact hb
   have hE:ct m nm=⟨5,m,none⟩:=by
    unfold ct;rw [if_pos ⟨hn,Cg hn hz⟩];have:aF m nm=5:=by simp [aF,hd]
    rw [this];rfl
   have HE:=ae hE;have hz':((nm.size:Int)==160)=false:=by simp;omega
   rw [hd] at c5;go_enter Tryz.func133,Tryz.ntmps133;go_wp2_with fail;refine gU HI.Z ?_;go_wp2;go_ret2;exact fp.bad HE.Z H.Z
theorem QT (h1:bU nm=true) (h2:¬nm.size=160) (hd:m.bh=false) (hf:dr m.aN nm <0): ct m nm=if (dW (aO m nm) aV).1=0 then ⟨0,(dW (aO m nm) aV).2,some ([],0)⟩ else ⟨(dW (aO m nm) aV).1,(dW (aO m nm) aV).2,none⟩:=by
 have hg:(aZ m.aN nm).isSome=false:=by rw [eN,decide_eq_true hf];rfl
 have ht:aF m nm=6:=by simp [aF,hd,hg]
 have hs:cA (cB nm) m=dW (aO m nm) aV:=by unfold cB;simp only [rI,wF]
 unfold ct;rw [if_pos ⟨h1,Cg h1 h2⟩,if_pos ht,hs]
theorem GK (h:Own w w0 (dw r m::rs)) (ht:Tidy m n t) (hn:n+8 <549755813888) (mN:t+8 <549755813888) (nm:aD) (h1:bU nm=true) (h2:¬nm.size=160) (hd:m.bh=false) (fb:dr m.aN nm <0): bF 133 #[.pointer (some ⟨r,0,none⟩),.string nm] w0 (fp w r nm rs (ct m nm)):=by
 have hi:=lZ nm w0;have hE:=QT h1 h2 hd fb;obtain ⟨W,hW⟩:=cE (w0.alloc (fL r nm (.slice none 0 0)));have F8:=(h.mJ (fL r nm (.slice none 0 0)));rw [<-hW] at F8;obtain ⟨na,nc,c1,c5,hf⟩:=F8.aN ht (by omega) nm;obtain ⟨na',nc',Vr,c5',hf'⟩:=h.aN ht (by omega) nm;have bG:=F8.nZ ht (by omega) (by omega) ⟨0,nm,⟨#[]⟩,[]⟩ ⟨by simp,by simp⟩ (λ_=>rfl) (λF' w' _ _=>dH w');rw [ki] at bG;have htc:=ht.fY nm;rw [hd] at c5 c5';rw [h1] at hi;have hz':((nm.size:Int)==160)=false:=by simp;omega
 have Ld:decide (dr m.aN nm <0)=true:=decide_eq_true fb;generalize dr m.aN nm=fi at hf Ld;generalize aO m nm=q at bG hE htc;have HI:=ae hi;have HF:=ae hf;have fP:=ae bG;have Nc:=ae htc;have HE:=ae hE;subst hW;unfold fL at c1 HF fP;clear h ht F8 hi hf bG htc hE hd fb h1 h2 Vr c5 hf';go_enter Tryz.func133,Tryz.ntmps133;go_wp2_with fail;refine gU HI.Z ?_;clear HI;go_wp2_with fail;refine gU HF.Z ?_;clear HF c1 c5';by_cases hq:q.1=0
 ·obtain ⟨e1,m1⟩:=q;have he1:e1=0:=hq;subst he1;go_wp2_with fail;refine fP.Z.mono ?_;rintro e w4 ⟨rfl,lz⟩;obtain ⟨w5,pJ,ju⟩:=lz.vE Nc.Z;have hE:=HE.Z;rw [oA] at hE;simp only at pJ ju;generalize aV m1=q at pJ ju hE;obtain ⟨e2,m2⟩:=q;have om:=ae pJ;have yh:=ae ju;clear fP lz pJ ju HE Nc;by_cases EU:e2=0
  ·subst EU;rw [if_pos rfl] at hE;have HE:=ae hE;clear hE hq;go_wp2_with fail;refine gU om.Z ?_;go_wp2;go_ret2;exact fp.ok HE.Z (Own.abS (yh.Z.Og))
  ·rw [if_neg EU] at hE;have HE:=ae hE;have dO:(e2 !=0)=true:=by simpa using EU
   clear hE hq EU;go_wp2_with fail;refine gU om.Z ?_;go_wp2;go_ret2;exact fp.bad HE.Z yh.Z.oG
 ·obtain ⟨e1,m1⟩:=q;have he1:¬e1=0:=hq;have hE:=HE.Z;rw [qN (r:=(e1,m1)) hq,if_neg hq] at hE;have HE:=ae hE;have dO:(e1 !=0)=true:=by simpa using he1
  have adj:(e1==0)=false:=by simpa using he1
  clear hE hq he1;go_wp2_with fail;refine fP.Z.mono ?_;rintro e w4 ⟨rfl,lz⟩;have V6:=ae lz;clear fP lz Nc;go_wp2;go_ret2;exact fp.bad HE.Z V6.Z.oG
theorem ue (ll:List aH):ll.length<=(aj ll).length:=by
 have:∀ k,k<=ll.length->k<=(aj (ll.take k)).length:=by
  intro k;induction k with
  | zero=>intro _;exact fC _
  | succ k ih=>intro hk;obtain ⟨l,hl⟩:∃ l,ll[k]?=some l:=⟨ll[k],js hk⟩;rw [ji hl,fS,dh];have:=ih (by omega);omega
 have h:=this ll.length (eQ _)
 rwa [jX] at h
theorem J7 {w2:World} {v0:Value} (h:Own w wr (dw r m::aA j (fL r nm v0)::rs)) (hr:et w2 wr.heap.size v aQ) (hk:ak wr w2): ((∃ u,w2.cell? ⟨j,2,none⟩=some u)/\w2.frozen? ⟨j,2,none⟩=false)/\Own w (w2.setCell ⟨j,2,none⟩ v) (dw r m::aA j (fL r nm v)::gq v aQ::rs):=by have h1:=h.Oe hr hk;have hj:=(h1.at (b:=j) (o:=fL r nm v0) (by simp)).1;have h2:=(h1.third.store 2 v);refine ⟨⟨⟨_,ag hj rfl⟩,cL hj 2⟩, ?_⟩;have e:(#[Value.pointer (some ⟨r,0,none⟩),Value.string nm,v0]:Array Value).setIfInBounds 2 v=#[Value.pointer (some ⟨r,0,none⟩),Value.string nm,v]:=rfl;rw [e] at h2;exact h2.third
theorem GL (h1:bU nm=true) (h2:¬nm.size=160) (hd:m.bh=false) (hf:¬dr m.aN nm <0): ct m nm=(if (dJ ((aZ m.aN nm).getD [])).2 <((aZ m.aN nm).getD []).length then mZ m nm (dJ ((aZ m.aN nm).getD [])) else ⟨0,m,some (dJ ((aZ m.aN nm).getD []))⟩):=by
 have hg:(aZ m.aN nm).isSome=true:=by rw [eN,decide_eq_false hf];rfl
 have ht:aF m nm=0:=by simp [aF,hd,hg]
 unfold ct;rw [if_pos ⟨h1,Cg h1 h2⟩,ht,if_neg (by decide),if_pos rfl]
theorem J8 (h:Own w w0 (dw r m::rs)) (ht:Tidy m n t) (hn:n+67108880 <549755813888) (mN:t+67108880 <549755813888) (nm:aD) (qf:nm.size<=65536) (h1:bU nm=true) (h2:¬nm.size=160) (hd:m.bh=false) (fb:¬dr m.aN nm <0): bF 133 #[.pointer (some ⟨r,0,none⟩),.string nm] w0 (fp w r nm rs (ct m nm)):=by
 have hi:=lZ nm w0;have hE:=GL h1 h2 hd fb;have hg:(aZ m.aN nm).isSome=true:=by rw [eN,decide_eq_false fb];rfl
 obtain ⟨k,hk,uF⟩:=mM hg;have kg:((aZ m.aN nm).getD []).length<=67108864:=ht.dQ.get nm;generalize (aZ m.aN nm).getD []=b at hE uF kg;have cU:=ht.AH;have qU:=(List.getElem?_eq_some_iff.1 uF).1;obtain ⟨W,hW⟩:=cE (w0.alloc (fL r nm (.slice none 0 0)));have F8:=(h.mJ (fL r nm (.slice none 0 0)));rw [<-hW] at F8;obtain ⟨F,QO,hFb⟩:=F8.head;obtain ⟨vn,vs,vl,Cf⟩:=QO;have hf:=jk Cf.aN nm (by omega);have c1:=Cf.cells.c1;obtain ⟨g,cap,p,rfl,_,cp,hB⟩:=Cf.aN.cell uF;have hB:aC W p b:=hB.reads;obtain ⟨pa,pc,rfl,_,_⟩:=hB.aG;have hsc:=IC hB (by omega);obtain ⟨na',nc',Vr,c5',hf'⟩:=h.aN ht (by omega) nm;rw [hd] at c5';rw [h1] at hi;rw [hk] at hf;have lf:=uC b;have pD:=kf b;have hz':((nm.size:Int)==160)=false:=by simp;omega
 have Ld:decide ((k:Int) <0)=false:=decide_eq_false (by omega);have j0:(k:Int) <m.aN.length:=by omega
 have j1:=np k;have TN:=ae (λ(w3:World) (v:Value) (ho:et w3 W.heap.size v (dJ b).1) (hk:ak W w3)=>J7 F8 ho hk);generalize dJ b=s at hsc hE lf pD TN;obtain ⟨aQ,used⟩:=s;simp only at hsc lf pD TN;have HI:=ae hi;have HF:=ae hf;have Oj:=ae hsc;have HT:=ae ht;subst hW;unfold fL at c1 cp HF Oj TN;have HE:=ae hE;clear h ht F8 hi hf hsc hd fb h1 h2 Vr hf' Cf hg uF hB hFb hk hE;go_enter Tryz.func133,Tryz.ntmps133;go_wp2_with fail;refine gU HI.Z ?_;clear HI;go_wp2_with fail;refine gU HF.Z ?_;clear HF;go_wp2_with fail;refine Oj.Z.mono ?_;rintro e w3 ⟨v,rfl,fy,dN⟩;obtain ⟨⟨⟨u,hu⟩,hf⟩,h4⟩:=TN.Z w3 v fy dN;obtain ⟨va,vc,rfl⟩:=fy.aG;have H4:=ae h4;clear h4 fy dN TN Oj;by_cases aX:used <b.length
 ·have b1:decide (used <b.length)=true:=decide_eq_true aX;have hE:=HE.Z;rw [if_pos aX] at hE;unfold mZ at hE;have pw:=Nb H4.Z HT.Z nm qf (H4.Z.rows (v:= .slice va aQ.length vc) (ll:=aQ) (by simp)).1 (by omega) (by omega) (kT (ue aQ) (by omega));have HL:=ae pw;simp only at hE;have HE:=ae hE;clear hE pw H4 aX;go_wp2_with fail;refine HL.Z.mono ?_;rintro e w5 ⟨rfl,h5⟩;have hE:=HE.Z;generalize mz m nm (aj aQ)=q at h5 hE ⊢;obtain ⟨qc,qm⟩:=q;have H5:=ae h5;clear h5 HL HE;by_cases hq:qc=0
  ·subst hq;rw [if_pos rfl] at hE;have HE:=ae hE;clear hE;go_wp2;go_ret2;exact fp.ok HE.Z H5.Z
  ·rw [if_neg hq] at hE;have HE:=ae hE;have b0:(qc !=0)=true:=by simpa using hq
   clear hE hq;go_wp2;go_ret2;exact fp.bad HE.Z H5.Z.qA
 ·have b1:decide (used <b.length)=false:=decide_eq_false aX;have hE:=HE.Z;rw [if_neg aX] at hE;have HE:=ae hE;clear hE aX;go_wp2;go_ret2;exact fp.ok HE.Z H4.Z
theorem J9 (h:Own w w0 (dw r m::rs)) (ht:Tidy m n t) (hn:n+67108880 <549755813888) (mN:t+67108880 <549755813888) (nm:aD) (qf:nm.size<=65536): bF 133 #[.pointer (some ⟨r,0,none⟩),.string nm] w0 (fp w r nm rs (ct m nm)):=by
 by_cases hb:bU nm=false\/nm.size=160\/m.bh=true
 ·exact QS h ht (by omega) nm hb
 ·have h1:bU nm=true:=by
   cases hx:bU nm with
   | true=>rfl
   | false=>exact absurd (.inl hx) hb
  have h2:¬nm.size=160:=λhx=>hb (.inr (.inl hx));have hd:m.bh=false:=by
   cases hx:m.bh with
   | false=>rfl
   | true=>exact absurd (.inr (.inr hx)) hb
  by_cases hf:dr m.aN nm <0
  ·exact GK h ht (by omega) (by omega) nm h1 h2 hd hf
  ·exact J8 h ht hn mN nm qf h1 h2 hd hf
theorem Own.abT {w1:World} {p:Value} {ll:List aH} {l:aH} (h:Own w wr (gq v ll::rs)) (hp:bC w1 wr.heap.size p l) (hk:ak wr w1) (hb:ll.length <1099511627776): ∃ a c w',(Builtin.append_ #[138,138] 138 #[v,.slice (some ⟨w1.heap.size,0,none⟩) 1 1]).run Tryz.prog (w1.alloc (.cells #[p] 22))= .ok (.slice a (ll.length+1) c) w'/\Own w w' (gq (.slice a (ll.length+1) c) (ll++[l])::rs):=by
 have hz:=h.keeps.size;obtain ⟨F,⟨ps,G,h1,h2,h3,h4⟩,hF,back⟩:=h.jT;have qT:p.oneCell'=true:=by obtain ⟨a,c,rfl,_⟩:=hp.bytes.aG;rfl
 have Pw:=Br h1 hk (λ_ _ e=>e);obtain ⟨v',w',hr,ho,cg,jP⟩:=Ix Pw (fC _) qT hb;obtain ⟨a,c,e⟩:=bA ho;subst e;have hkF:ah F wr w':=(hk.mono (λ_ _ e=>e.elim)).trans cg (λb _ e=>(h4 b e).1);have jd:=hk.size;have Nd:=cg.size;have yf:bC w' wr.heap.size p l:=lx hp cg (λb hb e=>Bs Pw hp e hb);refine ⟨a,c,w',hr,back w' (gq (.slice a (ll.length+1) c) (ll++[l])) hkF ⟨ps++[p],λb=>G b\/p.ownBlock=some b,by rw [fS];exact ho,dX.append ?_ ⟨?_,trivial⟩,λb hb=> ?_,λb hb=> ?_⟩⟩
 ·refine h2.mono (λq m hq=>(hq.keep (λb hb=> ?_)).wider (λb hb=> .inl hb));have aX:b <wr.heap.size:=by
   rcases hb with hb | hb
   ·exact (hF b (h3 b hb)).2
   ·omega
  refine (cg.block b (by omega) (λe=> ?_)).trans (hk.block b aX (λe=>e));obtain ⟨_,e2,e3⟩:=h4 b e;rcases hb with hb | hb
  ·exact e3 hb
  ·omega
 ·exact (lm.FQ yf).wider (λb hb=> .inr hb)
 ·rcases hb with hb | hb
  ·exact .inl (h3 b hb)
  ·have:=du hp b hb;exact .inr ⟨by omega,by omega⟩
 ·have aX:=yA ho b hb;rcases jP with jP | jP
  ·rw [jP] at hb;obtain ⟨e1,e2,e3⟩:=h4 b hb;exact ⟨.inl e1,e2,λe=>by rcases e with e | e;exact e3 e;exact Bs Pw hp hb e⟩
  ·rw [jP] at hb;cases hb;refine ⟨.inr ⟨by omega,aX.1⟩,by omega,λe=> ?_⟩;rcases e with e | e
   ·have:=hF _ (h3 _ e);omega
   ·have:=du hp _ e;omega
def eI (m:DM) (nm:aD) (aQ:List aH) (p:aH):Int × DM × List aH:=
 if 1048568 <p.length then (8,m,aQ) else if (aM m nm (bu p)).1=0 then (0,(aM m nm (bu p)).2,aQ++[p]) else ((aM m nm (bu p)).1,(aM m nm (bu p)).2,aQ)
def aaj (w:World) (r j:Nat) (nm:aD) (rs:List (bB w.heap.size)) (res:Int × DM × List aH) (e:Ending) (w':World):Prop:=
 e= .returned (.int .i64 res.1)/\∃ v,Own w w' (dw r res.2.1::aA j (fL r nm v)::gq v res.2.2::rs)
theorem jC (h:w.heap[j]?=some (fL r nm v)):w.cell? ⟨j,0,none⟩=some (.pointer (some ⟨r,0,none⟩))/\w.cell? ⟨j,1,none⟩=some (.string nm)/\w.cell? ⟨j,2,none⟩=some v/\w.frozen? ⟨j,2,none⟩=false:=
 ⟨ag h rfl,ag h rfl,ag h rfl,cL h 2⟩
theorem WU {w2:World} {vr:Value} (h:Own w w2 (dw r m::aA j (fL r nm vr)::gq vr aQ::rs)) (Az:aQ.length <1099511627776) {p:aH}: ∀ (w3:World) (tv:Value),bC w3 w2.heap.size tv p->ak w2.drew w3->∃ a c w4,(Builtin.append_ #[138,138] 138 #[vr,.slice (some ⟨w3.heap.size,0,none⟩) 1 1]).run Tryz.prog (w3.alloc (.cells #[tv] 22))= .ok (.slice a (aQ.length+1) c) w4/\w3.cell? ⟨j,2,none⟩=some vr/\w4.cell? ⟨j,2,none⟩=some vr/\w4.frozen? ⟨j,2,none⟩=false/\ Own w (w4.setCell ⟨j,2,none⟩ (.slice a (aQ.length+1) c)) (dw r m::aA j (fL r nm (.slice a (aQ.length+1) c))::gq (.slice a (aQ.length+1) c) (aQ++[p])::rs):=λw3 tv ho hk=>by have h1:=h.third;have hj:=(h.at (b:=j) (o:=fL r nm vr) (by simp)).1;have hj3:=hk.eD.at hj (λe=>e);obtain ⟨a,c,w4,aT,h4⟩:=h1.abT ho hk.eD Az;have h5:=h4.third;have hj4:=(h5.at (b:=j) (o:=fL r nm vr) (by simp)).1;exact ⟨a,c,w4,aT,(jC hj3).2.2.1,(jC hj4).2.2.1,(jC hj4).2.2.2,(h5.store 2 (.slice a (aQ.length+1) c)).third⟩
theorem Ci {vr:Value} (h:Own w w0 (dw r m::aA j (fL r nm vr)::gq vr aQ::rs)) (ht:Tidy m n t) (hn:n+8 <549755813888) (mN:t+8 <549755813888) (Az:aQ.length <1099511627776) {p:aH} (hp:∀ (wr:World) (l:List (bB w.heap.size)),Own w wr (l++rs)->aC wr v p): bF 180 #[.pointer (some ⟨j,0,none⟩),v] w0 (aaj w r j nm rs (eI m nm aQ p)):=by
 obtain ⟨ra,rc,rfl⟩:=(h.rows (v:=vr) (ll:=aQ) (by simp)).2;have wZ:=hp w0 [_,_,_] h;obtain ⟨pa,pc,rfl,_,_⟩:=wZ.aG;obtain ⟨c0,c1,c2,_⟩:=jC (h.at (b:=j) (o:=fL r nm (.slice ra aQ.length rc)) (by simp)).1;unfold eI;by_cases mo:1048568 <p.length
 ·rw [if_pos mo];have HO:=ae h;have b0:decide ((1048568:Int) <(p.length:Int))=true:=decide_eq_true (by omega);go_enter Tryz.func180,Tryz.ntmps180;go_wp2;go_ret;exact ⟨rfl,.slice ra aQ.length rc,HO.Z⟩
 ·rw [if_neg mo];have b0:decide ((1048568:Int) <(p.length:Int))=false:=decide_eq_false (by omega);generalize hR:(if (aM m nm (bu p)).1=0 then (0,(aM m nm (bu p)).2,aQ++[p]) else ((aM m nm (bu p)).1,(aM m nm (bu p)).2,aQ):Int × DM × List aH)=R;have HR:=ae hR;have Zd:=hR;have po:=rj (wZ.keep (ah.refl _ w0).drew) (by omega);have d0:w0.drew.cell? ⟨j,0,none⟩=some (.pointer (some ⟨r,0,none⟩)):=c0;have d1:w0.drew.cell? ⟨j,1,none⟩=some (.string nm):=c1;have Va:=ae po;have HO:=ae h;have HP:=ae hp;have kL:p.length<=1048568:=by omega
  have hj:=(h.at (b:=j) (o:=fL r nm (.slice ra aQ.length rc)) (by simp)).1;have ck:∀ w1:World,ak w0.drew w1->w1.cell? ⟨j,0,none⟩=some (.pointer (some ⟨r,0,none⟩))/\w1.cell? ⟨j,1,none⟩=some (.string nm):=λw1 hk=>by have hb:=hk.eD.at hj (λe=>e);exact ⟨(jC hb).1,(jC hb).2.1⟩
  have aak:∀ (w1:World) (fv:Value),bC w1 w0.heap.size fv (bu p)->ak w0.drew w1->bF 80 #[.pointer (some ⟨r,0,none⟩),.agg #[.int .i64 1,.string nm,.string ⟨#[]⟩,fv]] w1 (λe w2=>e= .returned (.int .i64 (aM m nm (bu p)).1)/\Own w w2 (dw r (aM m nm (bu p)).2::aA j (fL r nm (.slice ra aQ.length rc))::gq (.slice ra aQ.length rc) aQ::rs)/\w2.cell? ⟨j,0,none⟩=some (.pointer (some ⟨r,0,none⟩))/\w2.cell? ⟨j,1,none⟩=some (.string nm)):=λw1 fv fT bN=>by have bG:=(h.ix fT bN.eD).swap.Tp ht (by omega) (by omega) ⟨1,nm,⟨#[]⟩,bu p⟩ ⟨by simp,by simp⟩ (λh=>absurd rfl h) (λw' hw'=>hw');rw [kj] at bG;refine bG.mono ?_;rintro e w2 ⟨he,ho⟩;have hb:=(ho.at (b:=j) (o:=fL r nm (.slice ra aQ.length rc)) (by simp)).1;exact ⟨he,ho.oG,(jC hb).1,(jC hb).2.1⟩
  generalize aM m nm (bu p)=q at aak Zd;obtain ⟨qc,qm⟩:=q;simp only at aak Zd;have HR:=ae Zd;have CK:=ae ck;have adk:=ae aak;go_enter Tryz.func180,Tryz.ntmps180;go_wp2_with fail;go_region_law (first | (refine jn rfl ?_;go_simp;go_at_call 203;refine Va.Z.mono ?_;rintro e w1 ⟨fv,rfl,fT,bN⟩;obtain ⟨q1,q2⟩:=CK.Z _ bN;obtain ⟨fa,fc,rfl,_,_⟩:=fT.bytes.aG) | (refine jn rfl ?_;go_simp;go_at_call 80;refine (adk.Z _ _ fT bN).mono ?_;rintro e w2 ⟨rfl,dy,s1,s2⟩) | fail);all_goals
   by_cases hq:qc=0
   ·subst hq;have hR:=HR.Z;rw [if_pos rfl] at hR;have HR:=ae hR;have AZ:=fO (w:=w2.drew) ((HP.Z w2 [_,_,_] dy).keep (ah.refl _ w2).drew) (by omega);have yH:=ae AZ;have MO:=ae (WU dy Az (p:=p));have e2:=(jC (dy.at (b:=j) (o:=fL r nm (.slice ra aQ.length rc)) (by simp)).1).2.2.1;have e2d:w2.drew.cell? ⟨j,2,none⟩=some (.slice ra aQ.length rc):=e2;go_wp2_with fail;go_region_law (first | (refine jn rfl ?_;go_simp;go_at_call 27;refine yH.Z.mono ?_;rintro e w3 ⟨tv,rfl,fy,dN⟩;obtain ⟨a4,c4,w4,aT,g0,g1,g2,cK⟩:=MO.Z _ _ fy dN;obtain ⟨ta,tc,rfl,_,_⟩:=fy.bytes.aG;have fk:=ae cK;have cV:=ae aT;have g3:=(World.cell?_alloc_lt w3 (.cells #[.slice ta p.length tc] 22) ⟨j,2,none⟩ (wT w3 _ g0)).trans g0;clear cK aT) | (refine cP rfl _ _ _ _ rfl rfl rfl cV.Z ?_) | fail);all_goals
     go_wp2;go_ret;rw [<-HR.Z];exact ⟨rfl,_,fk.Z⟩
   ·have hR:=HR.Z;rw [if_neg hq] at hR;have HR:=ae hR;have dO:(qc==0)=false:=by simpa using hq
    have wM:=ae dy;go_wp2;go_ret;rw [<-HR.Z];exact ⟨rfl,.slice ra aQ.length rc,wM.Z⟩
theorem QU (b:aH):(dJ b).2=(aj (dJ b).1).length:=by have h:=(lh (l:=b) (b.length+1) 0 (fC _)).1;unfold dJ;omega
theorem Fb (h:Good m n) (nm:aD) {l:List aH} {u:Nat} (hr:(ct m nm).res=some (l,u)):(ct m nm).code=0/\u=(aj l).length/\u<=67108864:=by
 have hb:=h.get nm;have hs:=kf ((aZ m.aN nm).getD []);have hu:=QU ((aZ m.aN nm).getD []);have key:∀ s:List aH × Nat,s=dJ ((aZ m.aN nm).getD [])->s=(l,u)->u=(aj l).length/\u<=67108864:=λs h1 h2=>by subst h2;rw [<-h1] at hs hu;simp only at hs hu;omega
 unfold ct at hr ⊢;split at hr
 ·rename_i h1;rw [if_pos h1];split at hr
  ·rename_i h2;rw [if_pos h2];split at hr
   ·rename_i h3;rw [if_pos h3];simp only [im,Prod.mk.injEq] at hr;obtain ⟨rfl,rfl⟩:=hr;exact ⟨rfl,rfl,fC _⟩
   ·cases hr
  ·rename_i h2;rw [if_neg h2];split at hr
   ·rename_i h3;rw [if_pos h3];split at hr
    ·rename_i h4;rw [if_pos h4];unfold mZ at hr ⊢;split at hr
     ·rename_i h5;rw [if_pos h5];simp only [im] at hr;exact ⟨rfl,key _ rfl hr⟩
     ·cases hr
    ·rename_i h4;rw [if_neg h4];simp only [im] at hr;exact ⟨rfl,key _ rfl hr⟩
   ·cases hr
 ·cases hr

end Go.Proofs.YtlcnhpjggjgnpaaGreatDoor