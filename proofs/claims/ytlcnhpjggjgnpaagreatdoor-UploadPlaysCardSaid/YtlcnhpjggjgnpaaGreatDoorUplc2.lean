/- A part of the proof. -/
import Derived.Test.YtlcnhpjggjgnpaaGreatDoorUpla5
import Derived.Test.YtlcnhpjggjgnpaaGreatDoorUpla6
set_option linter.unusedSimpArgs false
set_option linter.unusedVariables false
set_option maxRecDepth 100000
set_option maxHeartbeats 4000000
namespace Go.Proofs.YtlcnhpjggjgnpaaGreatDoor
open Go.RowKit Go.MapKept
theorem Ua {n k:Nat} (h:k<=m8 n):(n+(k+1)) % 64=56↔k=m8 n:=by unfold m8 at*;omega
theorem Ub (M:aH) (k:Nat):(cG (M++fI k)).length=(M.length+(k+1)) % 64:=by rw [iC,fS,pI]
def kF (S:aH) (q:Nat):aH:=S.take q++List.replicate (32 - q) 0
theorem DQ (S:aH) (hS:S.length=32) {q:Nat} (hq:q<=32):(kF S q).length=32:=by unfold kF;rw [fS,nM,O4];omega
theorem Kr (S:aH) (hS:S.length=32) {q:Nat} (hq:q <32) {c:UInt8} (hc:S[q]?=some c):kF S (q+1)=(kF S q).set q c:=by
 have ht:S.take (q+1)=S.take q++[c]:=by rw [ym,hc];rfl
 have hl:(S.take q).length=q:=by rw [nM];omega
 unfold kF;rw [ht,show 32 - q=(32 - (q+1))+1 by omega,List.replicate_succ,List.set_append_right _ _ (by omega),hl,CZ,List.set_cons_zero,lN];rfl
theorem Nx (S:aH) (hS:S.length=32):kF S 32=S:=by unfold kF;rw [sU (by omega)];simp
theorem Fj:∀ (Y:List Int) (i j:Nat),i <Y.length->j <4->(Y.flatMap (λx=>aL x.toNat 4))[4*i+j]?=(aL (lM Y i).toNat 4)[j]?
 | [],i,j,h,_=>by simp at h
 | y::Y,0,j,_,hj=>by
  rw [List.flatMap_cons,K0 (by rw [ax];omega),Nat.mul_zero,fw];rfl
 | y::Y,i+1,j,h,hj=>by rw [List.flatMap_cons,List.getElem?_append_right (by rw [ax];omega),ax,show 4*(i+1)+j - 4=4*i+j by omega,Fj Y i j (by simpa using h) hj];rfl
theorem aca (L:aH) (q:Nat) (c:UInt8):((L.map dF).toArray).setIfInBounds q (.int .u8 (c.toNat:Int))=((L.set q c).map dF).toArray:=by simp [K9,dF]
variable {w wr:World} {rs:List (bB w.heap.size)}
theorem Own.aaw {b q:Nat} {c:UInt8} {L:aH} (h:Own w wr (aA b (.cells (L.map dF).toArray 24 (0,0))::rs)): Own w (wr.setCell ⟨b,q,none⟩ (.int .u8 (c.toNat:Int))) (aA b (.cells ((L.set q c).map dF).toArray 24 (0,0))::rs):=by
 have:=h.store q (.int .u8 (c.toNat:Int))
 rwa [aca] at this
theorem uQ (H:List Int) (n:Int) (a:Option Addr) (k c:Nat) (hH:H.length=8):(Tryz.prog.info? 250).map (·.size)=some (iJ H n (.slice a k c)).toArray.size/\(iJ H n (.slice a k c)).toArray.size=10/\(iJ H n (.slice a k c)).toArray.all (·.oneCell')=true:=by
 have hz:(iJ H n (.slice a k c)).toArray.size=10:=by rw [Bd];unfold iJ;rw [fS,io,hH];rfl
 exact ⟨by rw [hz];kernel_rfl,hz,all_oneCell_toArray (JA _ _ _ _ _)⟩
def Ai (w wx:World) (M:aH):Prop:=∃ tv,Own w wx [bS tv (cG M),aA w.heap.size (.cells (iJ (cR M) M.length tv).toArray 250 (0,0)),aA (w.heap.size+1) (.cells (Array.replicate 32 (.int .u8 0)) 24)]
theorem Ai.put {M:aH} {w4 wx:World} {tv:Value} {cs:Array Value} (hx:Own w wx [aA w.heap.size (.cells cs 250 (0,0)),aA (w.heap.size+1) (.cells (Array.replicate 32 (.int .u8 0)) 24)]) (hk:ak wx w4) (ho:bC w4 wx.heap.size tv (cG M)): Ai w (w4.setRow w.heap.size (iJ (cR M) M.length tv).toArray) M:=
 ⟨tv,((hx.ix ho hk).swap.setRow _).swap⟩
theorem GY {v:Value} {M:aH} (hs:Yb w v M) (hb:M.length <70368744177664):bF 144 #[v] w (bH w (.agg ((ei M).map dF).toArray)):=by
 obtain ⟨t0,rfl,ht⟩:=hs;obtain ⟨ta,tc,rfl,_,_⟩:=ht.aG;obtain ⟨sc,hsc⟩:∃ sc:Array Value,sc=(iJ (cR M) M.length (.slice ta (cG M).length tc)).toArray:=⟨_,rfl⟩;have hi:=uQ (cR M) M.length ta (cG M).length tc (eU M);have h8:sc[8]?=some (.int .u64 (M.length:Int)):=by obtain ⟨g0,g1,g2,g3,g4,g5,g6,g7,hg⟩:=nE (eU M);rw [hsc,hg];rfl
 have bG:Yb w (.agg sc) M:=⟨_,by rw [hsc],ht⟩;rw [<-hsc] at hi ⊢;have fP:=ae bG;have HI:=ae hi;have HB:=ae hb;clear ht hsc bG hi;obtain ⟨n8,Ql⟩:=cE (8*M.length);have acb:n8 <18446744073709551616:=by omega
 have Vi:=ae (And.intro Ql acb);have e1:IntKind.u64.wrap ((M.length:Int)*8)=(n8:Int):=by rw [IntWalk.u64_in _ (by omega)];omega
 clear hb Ql acb;go_enter Tryz.func144,Tryz.ntmps144;go_upto_region 1 with fail;have o:=((Own.start w).alloc (.cells sc 250)).alloc (.cells (Array.replicate 32 (.int .u8 0)) 24);have o2:=o.swap;rw [World.size_alloc] at o2;have KX:=(o2.at (b:=w.heap.size) (o:= .cells sc 250) (by simp)).1;have c8:=ag (i:=8) (v:= .int .u64 (M.length:Int)) KX (by simpa using h8);have Hk:=ae KX;have HO:=ae o2;clear o o2 KX h8;change Code.wp _ _ _ _ ((w.alloc (.cells sc 250)).alloc (.cells (Array.replicate 32 (.int .u8 0)) 24));generalize (w.alloc (.cells sc 250)).alloc (.cells (Array.replicate 32 (.int .u8 0)) 24)=w2 at*;go_upto_region 2 with fail;have V0:=ae (l8 (pv:= .slice (some ⟨w2.heap.size,0,none⟩) 1 1) (l:=[128]) (fP.Z.keep (HO.Z.keeps.trans ((ah.refl _ w2).alloc (.cells #[.int .u8 128] 5)) (λ_ _ e=>e))) (gP w2 128) (by have:=HB.Z;simp only [iM,gN];omega));go_wp2_with (first | (refine wpList_load_row rfl 250 _ rfl w.heap.size rfl 250 sc (0,0) _ Hk.Z Tryz.underlying250 rfl HI.Z.1 ?_));refine V0.Z.mono ?_;rintro e w3 ⟨dN,v3,rfl,t3,rfl,fy⟩;obtain ⟨ta3,tc3,rfl,_,_⟩:=fy.bytes.reads.aG;have B4:ak w2 w3:=((ah.refl _ w2).alloc _).trans dN (λ_ _ e=>e);have fy:=fy.base (base':=w2.heap.size) (by rw [World.size_alloc];omega);have yj:=uQ (cR (M++[128])) (M++[128]).length ta3 (cG (M++[128])).length tc3 (eU _);have HC:=ae (Ai.put (M:=M++[128]) HO.Z B4 fy);have Uc:=B4.at Hk.Z (λe=>e);have Xg:=ae Uc;have AN:=ae yj;clear V0 dN B4 fy yj Uc Hk c8 HO;generalize (iJ (cR (M++[128])) (M++[128]).length (.slice ta3 (cG (M++[128])).length tc3)).toArray=s3 at*;go_wp2_with (refine wpList_store_row rfl 250 _ _ rfl w.heap.size s3 rfl rfl 250 _ Xg.Z AN.Z.1 (by rw [HI.Z.2.1,AN.Z.2.1]) AN.Z.2.2 ?_);clear Xg AN;generalize w3.setRow w.heap.size s3=w4 at*;have hzo:m8 M.length <64:=by unfold m8;omega
 have HZO:=ae hzo;clear hzo;simp only [Act.put]
 go_loopg [] 100 (λgk wx=>∃ k:Nat,gk+k=100/\k<=m8 M.length/\Ai w wx (M++fI k))
 case atStart=>exact ⟨0,by omega,by omega,HC.Z⟩
 case round=>
  obtain ⟨k,hgk,hk,tv,bt⟩:=hrel;clear HC;have cU:(M++fI k).length<=M.length+65:=by rw [fS,pI];have:=HZO.Z;omega
  obtain ⟨gm,ta4,tc4,rfl,_,_⟩:=bt.bytes (v:=tv) (l:=cG (M++fI k)) (by simp);have hr4:=uQ (cR (M++fI k)) (M++fI k).length ta4 (cG (M++fI k)).length tc4 (eU _);have KX:=(bt.at (b:=w.heap.size) (o:= .cells (iJ (cR (M++fI k)) (M++fI k).length (.slice ta4 (cG (M++fI k)).length tc4)).toArray 250 (0,0)) (by simp)).1;have c9:=ag (i:=9) (v:= .slice ta4 (cG (M++fI k)).length tc4) KX (by obtain ⟨g0,g1,g2,g3,g4,g5,g6,g7,hg⟩:=nE (eU (M++fI k));rw [hg];rfl)
  have bG:Yb wr (.agg (iJ (cR (M++fI k)) (M++fI k).length (.slice ta4 (cG (M++fI k)).length tc4)).toArray) (M++fI k):=⟨_,rfl,gm⟩;have vt:=Ub M k;have XO:=Ua hk;have HO:=ae bt;have Hk:=ae KX;have Xh:=ae hr4;have Ny:=ae bG;have yZ:=ae cU;have HK:=ae (And.intro hgk hk);clear bt KX hr4 bG gm cU hgk hk;obtain ⟨tn,X3⟩:=cE ((cG (M++fI k)).length);rw [<-X3] at c9 HO Hk Xh Ny vt;rw [<-vt] at XO;by_cases aX:k=m8 M.length
  ·have dO:((tn:Int) !=56)=false:=by have:tn=56:=XO.2 aX;rw [this];rfl
   have HX:=ae aX;obtain ⟨s4,QH⟩:=cE ((iJ (cR (M++fI k)) (M++fI k).length (.slice ta4 tn tc4)).toArray);rw [<-QH] at Hk Xh Ny HO;clear aX XO vt QH X3;go_upto_region 5 with fail;go_cut [] from 21 to 24 (λwx=>Ai w wx (M++tM M.length))
   case first=>
    have yh:=ae HO.Z.drew;have Xi:=ae ((yh.Z.at (b:=w.heap.size) (o:= .cells s4 250 (0,0)) (by simp)).1);have acd:=ae (Ny.Z.keep (ah.refl _ wr).drew);have fk:=ae (show ∀ (w6 w7:World) (t7:Value),ak wr.drew w6->ak w6 w7->bC w7 w6.heap.size t7 (cG (M++fI k++aL n8 8))->Ai w (w7.setRow w.heap.size (iJ (cR (M++fI k++aL n8 8)) (M++fI k++aL n8 8).length t7).toArray) (M++tM M.length) from λw6 w7 t7 gZ jf oz=>by have:=Ai.put (M:=M++fI k++aL n8 8) (yh.Z.quiet gZ).drop jf oz;rw [show M++tM M.length=M++fI k++aL n8 8 by rw [HX.Z,Vi.Z.1,lN];rfl];exact this)
    clear HO Hk Ny yh c9;refine wp_region_held_drew (S:=λ_=>True) (by kernel_rfl) trivial (λai=> ?_);generalize wr.drew=w5 at*;refine tk 1 22 (.int .u64 (n8:Int)) trivial ?_ (hy:=Or.inl ⟨by rfl,by intro w bK;go_simp⟩);try go_frame
    refine eR [0,2] ?_;refine rcx 21 (λK hK=> ?_) (rcx 23 (λK hK=> ?_) AllReadyH.nil)
    ·refine vC rfl 250 _ rfl w.heap.size rfl 250 s4 (0,0) _ Xi.Z Tryz.underlying250 rfl Xh.Z.1 ?_;refine hK.Z _ _ trivial (λ_=> ?_);clear hK K;try go_frame
     refine eR [2] ?_;refine gH 23 λK hK=> ?_;go_simp;go_at_call 73;refine (ke w5 n8 8 Vi.Z.2 (by omega) (by omega)).mono ?_;rintro e w6 ⟨v6,rfl,oy,gZ⟩;have Qm:=oy.bytes.reads;refine hK.Z _ _ trivial (λ_=> ?_);clear hK K;try go_frame
     refine eR [3] ?_;refine gH 24 λK hK=> ?_;go_simp;go_at_call 145;refine (l8 (acd.Z.keep gZ) Qm (by have:=HB.Z;have:=yZ.Z;rw [ax];omega)).mono ?_;rintro e w7 ⟨jf,v7,rfl,t7,rfl,oz⟩;obtain ⟨ta7,tc7,rfl,_,_⟩:=oz.bytes.reads.aG;have hF:=fk.Z w6 w7 _ gZ jf oz;have On:=uQ (cR (M++fI k++aL n8 8)) (M++fI k++aL n8 8).length ta7 (cG (M++fI k++aL n8 8)).length tc7 (eU _);generalize (iJ (cR (M++fI k++aL n8 8)) (M++fI k++aL n8 8).length (.slice ta7 (cG (M++fI k++aL n8 8)).length tc7)).toArray=s7 at hF On ⊢;have aax:=jf.at (gZ.at Xi.Z (λe=>e)) (λe=>e);refine hK.Z _ _ trivial (λ_=> ?_);clear hK K;try go_frame
     refine eR [4] ?_;refine rcg (o:={dst:=none,op:=_,type:=_,pos:=_,after:=_,guard:=_}) rfl (λK hK=> ?_) AllReadyH.nil;refine oS rfl 250 _ _ rfl w.heap.size _ rfl rfl 250 _ aax On.1 (by rw [Xh.Z.2.1,On.2.1]) On.2.2 ?_;refine hK.Z _ _ trivial (λ_=> ?_);clear hK K;refine wpAnyH_done (by kernel_rfl) ?_ _;go_wp2;go_meet;exact hF
    ·refine eE rfl ?_;go_simp;go_at_call 73;refine (ke w5 n8 8 Vi.Z.2 (by omega) (by omega)).mono ?_;rintro e w6 ⟨v6,rfl,oy,gZ⟩;have Qm:=oy.bytes.reads;refine hK.Z _ _ trivial (λ_=> ?_);clear hK K;try go_frame
     refine eR [0] ?_;refine D7 21 λK hK=> ?_;refine vC rfl 250 _ rfl w.heap.size rfl 250 s4 (0,0) _ (gZ.at Xi.Z (λe=>e)) Tryz.underlying250 rfl Xh.Z.1 ?_;refine hK.Z _ _ trivial (λ_=> ?_);clear hK K;try go_frame
     refine eR [3] ?_;refine gH 24 λK hK=> ?_;go_simp;go_at_call 145;refine (l8 (acd.Z.keep gZ) Qm (by have:=HB.Z;have:=yZ.Z;rw [ax];omega)).mono ?_;rintro e w7 ⟨jf,v7,rfl,t7,rfl,oz⟩;obtain ⟨ta7,tc7,rfl,_,_⟩:=oz.bytes.reads.aG;have hF:=fk.Z w6 w7 _ gZ jf oz;have On:=uQ (cR (M++fI k++aL n8 8)) (M++fI k++aL n8 8).length ta7 (cG (M++fI k++aL n8 8)).length tc7 (eU _);generalize (iJ (cR (M++fI k++aL n8 8)) (M++fI k++aL n8 8).length (.slice ta7 (cG (M++fI k++aL n8 8)).length tc7)).toArray=s7 at hF On ⊢;have aax:=jf.at (gZ.at Xi.Z (λe=>e)) (λe=>e);refine hK.Z _ _ trivial (λ_=> ?_);clear hK K;try go_frame
     refine eR [4] ?_;refine rcg (o:={dst:=none,op:=_,type:=_,pos:=_,after:=_,guard:=_}) rfl (λK hK=> ?_) AllReadyH.nil;refine oS rfl 250 _ _ rfl w.heap.size _ rfl rfl 250 _ aax On.1 (by rw [Xh.Z.2.1,On.2.1]) On.2.2 ?_;refine hK.Z _ _ trivial (λ_=> ?_);clear hK K;refine wpAnyH_done (by kernel_rfl) ?_ _;go_wp2;go_meet;exact hF
   case rest=>
    obtain ⟨tv,hcut⟩:=hcut;have ho:=hcut.drop;obtain ⟨Y,hY⟩:=cE (cR (M++tM M.length));have hYl:Y.length=8:=by rw [hY];exact eU _
    have hYw:Jk Y:=by rw [hY];exact tK _ _
    have hS:Y.flatMap (λx=>aL x.toNat 4)=ei M:=by rw [hY];rfl
    rw [<-hY] at ho;have Ya:(ei M).length=32:=dz M;obtain ⟨S,hSe⟩:=cE (ei M);rw [<-hSe] at hS Ya;have HSE:=ae hSe;obtain ⟨sl,qy⟩:=cE ((iJ Y (M++tM M.length).length tv).toArray);rw [<-qy] at ho;have je:∀ i,i <8->sl[i]?=some (ek (lM Y i)):=λi hi=>by rw [qy,oB,iJ,K0 (by rw [io,hYl];exact hi),jc,ii (by omega)];rfl
    have rV:=ae je;have HYW:=ae hYw;have Wc:=ae hYl;have HS:=ae hS;have H32:=ae Ya;have Rz:=ae ho;clear hcut hY hYl hYw hS Ya hSe qy je ho HO Hk Ny c9;go_upto_region 7 with fail;have H7:=ae (show Own w (wc.alloc (.cells (Array.replicate 32 (.int .u8 0)) 24)) [aA wc.heap.size (.cells ((kF S (4*0)).map dF).toArray 24 (0,0)),aA w.heap.size (.cells sl 250 (0,0)),aA (w.heap.size+1) (.cells (Array.replicate 32 (.int .u8 0)) 24)] from Rz.Z.alloc _);change Code.wp _ _ _ _ (wc.alloc (.cells (Array.replicate 32 (.int .u8 0)) 24));clear Rz;generalize wc.alloc (.cells (Array.replicate 32 (.int .u8 0)) 24)=w7 at*;generalize wc.heap.size=db at*;go_wp2_with fail;go_loopw [5] (λi wx=>∃ n:Nat,i= .int .i64 (n:Int)/\n<=8/\Own w wx [aA db (.cells ((kF S (4*n)).map dF).toArray 24 (0,0)),aA w.heap.size (.cells sl 250 (0,0)),aA (w.heap.size+1) (.cells (Array.replicate 32 (.int .u8 0)) 24)]) (λi _=>8 - (intOf i).toNat);case atStart=>exact ⟨0,rfl,by omega,H7.Z⟩
    case round=>
     obtain ⟨n,rfl,hn,bt⟩:=hrel;clear H7;have j0:=np n;by_cases Ql:n <8
     ·have j1:(n:Int) <8:=by omega
      have KX:=(bt.at (b:=w.heap.size) (o:= .cells sl 250 (0,0)) (by simp)).1;have cn:=ag KX (rV.Z n Ql);unfold ek at cn;obtain ⟨m,hm⟩:∃ m:Nat,(m:Int)=lM Y n:=⟨(lM Y n).toNat,by have:=HYW.Z (lM Y n) (kx (ii (by rw [Wc.Z];exact Ql)));omega⟩
      have ZM:m <4294967296:=by have:=HYW.Z (lM Y n) (kx (ii (by rw [Wc.Z];exact Ql)));omega
      have qL:∀ q,q <4->S[4*n+q]?=(aL m 4)[q]?:=λq hq=>by rw [<-HS.Z,Fj Y n q (by rw [Wc.Z];exact Ql) hq,<-hm];rfl
      have hcv:IntKind.u64.wrap (lM Y n)=(m:Int):=by rw [<-hm];exact IntWalk.u64_in _ (by omega)
      have HG:=ae qL;have HO7:=ae bt;have Vi:=ae Ql;have HP:=ae (ke wr m 4 (by omega) (by omega) (by omega));generalize lM Y n=hw at*;clear KX bt qL hm ZM hn Ql;go_wp2_with fail;refine HP.Z.mono ?_;rintro e w8 ⟨v8,rfl,LP,zY⟩;obtain ⟨ba,bc,rfl,_,_⟩:=LP.bytes.reads.aG;have H8:=ae (show Own w w8 [aA db (.cells ((kF S (4*n+0)).map dF).toArray 24 (0,0)),bS (.slice ba 4 bc) (aL m 4),aA w.heap.size (.cells sl 250 (0,0)),aA (w.heap.size+1) (.cells (Array.replicate 32 (.int .u8 0)) 24)] from (HO7.Z.ix LP zY).swap);rw [ax];clear LP zY HP HO7;go_wp2_with fail;go_loopw [7] (λj wx=>∃ q:Nat,j= .int .i64 (q:Int)/\q<=4/\Own w wx [aA db (.cells ((kF S (4*n+q)).map dF).toArray 24 (0,0)),bS (.slice ba 4 bc) (aL m 4),aA w.heap.size (.cells sl 250 (0,0)),aA (w.heap.size+1) (.cells (Array.replicate 32 (.int .u8 0)) 24)]) (λj _=>4 - (intOf j).toNat);case atStart=>exact ⟨0,rfl,by omega,H8.Z⟩
      case round=>
       obtain ⟨q,rfl,hq,bt⟩:=hrel;clear H8;have i0:=np q;by_cases WG:q <4
       ·have i1:(q:Int) <4:=by omega
        have gm:=(bt.bytes (v:= .slice ba 4 bc) (l:=aL m 4) (by simp)).1;obtain ⟨x,rfl,hx⟩:=gm.cell (k:=q) rfl (by rw [ax];exact WG);obtain ⟨c,hc⟩:=cE ((aL m 4)[q]'(by rw [ax];exact WG));rw [<-hc] at hx;have hSc:S[4*n+q]?=some c:=by rw [HG.Z q WG,hc];exact js _
        have Ud:4*n+q <32:=by have:=Vi.Z;omega
        have gQ:=Kr S H32.Z Ud hSc;have Wa:=(bt.at (b:=db) (o:= .cells ((kF S (4*n+q)).map dF).toArray 24 (0,0)) (by simp)).1;obtain ⟨z,hz⟩:∃ z,(kF S (4*n+q))[4*n+q]?=some z:=⟨_,js (by rw [DQ S H32.Z (by omega)];exact Ud)⟩;have cd:=ag (i:=4*n+q) (v:=dF z) Wa (by simp [hz]);have fd:=cL Wa (4*n+q);unfold dF at cd;have bG:=bt.aaw (q:=4*n+q) (c:=c);rw [<-gQ,Nat.add_assoc] at bG;have fP:=ae bG;have HQ:=ae WG;obtain ⟨p4,hp4⟩:=cE (4*n);obtain ⟨pq,R5⟩:=cE (p4+q);have w1:IntKind.i64.wrap (4*(n:Int))=(p4:Int):=by rw [IntKind.wrap_i64];omega
        have w2:IntKind.i64.wrap ((p4:Int)+(q:Int))=(pq:Int):=by rw [IntKind.wrap_i64];omega
        have k0:(0:Int)<=pq:=by omega
        have k1:(pq:Int) <32:=by omega
        rw [<-hp4,<-R5] at cd fd;rw [show 4*n+q=pq by omega] at fP;generalize c.toNat=cc at*;generalize z.toNat=zz at*;clear bG Wa hz gQ Ud hSc hc gm bt hq WG hp4 R5;go_wp2;go_roundw;case rel=>exact ⟨q+1,rfl,HQ.Z,fP.Z⟩
        case measure=>have:=HQ.Z;simp only [intOf];omega
       ·obtain rfl:q=4:=by omega
        rw [show 4*n+4=4*(n+1) by omega] at bt;have HO9:=ae bt;clear bt hq WG;rw [show ((4:Nat):Int)=4 from rfl];go_wp2;go_roundw;case rel=>exact ⟨n+1,rfl,Vi.Z,(HO9.Z).oG⟩
        case measure=>have:=Vi.Z;simp only [intOf];omega
     ·obtain rfl:n=8:=by omega
      rw [show ((8:Nat):Int)=8 from rfl];rw [show 4*8=32 from rfl,Nx S H32.Z] at bt;obtain ⟨ds,nQ⟩:∃ ds:Array Value,ds=(S.map dF).toArray:=⟨_,rfl⟩;rw [<-nQ] at bt;have Rx:=ae nQ;have BS:ds.size=32:=by rw [nQ];simp [H32.Z]
      have HI:=ae (show (Tryz.prog.info? 24).map (·.size)=some ds.size/\ds.size=32/\ds.all (·.oneCell')=true from ⟨by rw [BS];kernel_rfl,BS,by rw [nQ];exact mP _⟩);have HDB:=ae (bt.at (b:=db) (o:= .cells ds 24 (0,0)) (by simp)).1;have Vk:=ae (bt.at (b:=w.heap.size+1) (o:= .cells (Array.replicate 32 (.int .u8 0)) 24) (by simp)).1;have HK:=ae bt.keeps;clear bt nQ BS hn Ql;go_wp2_with (first | (refine wpList_load_row rfl 24 _ rfl db rfl 24 ds (0,0) _ HDB.Z Tryz.underlying24 rfl HI.Z.1 ?_) | (refine wpList_store_row rfl 24 _ _ rfl (w.heap.size+1) ds rfl rfl 24 _ Vk.Z HI.Z.1 (by rw [HI.Z.2.1];rfl) HI.Z.2.2 ?_));have hh:(wr.setRow (w.heap.size+1) ds).heap[w.heap.size+1]?=some (.cells ds 24 (0,0)):=setRow_heap wr _ _ ds 24 _ Vk.Z;refine bodyPost_ret (results_cell_row Tryz.results144 _ _ (w.heap.size+1) 24 ds (0,0) _ rfl hh Tryz.underlying24 rfl HI.Z.1) rfl ?_;exact ⟨by rw [Rx.Z,HSE.Z],HK.Z.trans (jq _ _ _) (λb hb e=>by omega)⟩
  ·have dO:((tn:Int) !=56)=true:=by have:tn≠56:=λe=>aX (XO.1 e);simp only [bne_iff_ne,ne_eq];omega
   have HX:=ae aX;obtain ⟨s4,QH⟩:=cE ((iJ (cR (M++fI k)) (M++fI k).length (.slice ta4 tn tc4)).toArray);rw [<-QH] at Hk Xh Ny HO;have V0:=ae (l8 (pv:= .slice (some ⟨wr.heap.size,0,none⟩) 1 1) (l:=[0]) (Ny.Z.keep ((ah.refl _ wr).alloc (.cells #[.int .u8 0] 5))) (gP wr 0) (by have:=HB.Z;have:=yZ.Z;simp only [iM,gN];omega));clear aX XO vt QH X3;go_wp2_with (first | (refine wpList_load_row rfl 250 _ rfl w.heap.size rfl 250 s4 (0,0) _ Hk.Z Tryz.underlying250 rfl Xh.Z.1 ?_));refine V0.Z.mono ?_;rintro e w3 ⟨dN,v3,rfl,t3,rfl,fy⟩;obtain ⟨ta3,tc3,rfl,_,_⟩:=fy.bytes.reads.aG;have B4:ak wr w3:=((ah.refl _ wr).alloc _).trans dN (λ_ _ e=>e);have fy:=fy.base (base':=wr.heap.size) (by rw [World.size_alloc];omega);have yj:=uQ (cR (M++fI k++[0])) (M++fI k++[0]).length ta3 (cG (M++fI k++[0])).length tc3 (eU _);have hC:=Ai.put (M:=M++fI k++[0]) HO.Z.drop B4 fy;rw [lN M,yR] at hC yj;have HC:=ae hC;have Uc:=B4.at Hk.Z (λe=>e);rw [lN M,yR];have Xg:=ae Uc;have AN:=ae yj;clear V0 dN B4 fy yj Uc Hk c9 HO hC;generalize (iJ (cR (M++fI (k+1))) (M++fI (k+1)).length (.slice ta3 (cG (M++fI (k+1))).length tc3)).toArray=s3 at*;go_wp2_with (refine wpList_store_row rfl 250 _ _ rfl w.heap.size s3 rfl rfl 250 _ Xg.Z AN.Z.1 (by rw [Xh.Z.2.1,AN.Z.2.1]) AN.Z.2.2 ?_)
   go_roundg (gk - 1)
   case rel=>exact ⟨k+1,by have:=HK.Z;have:=HZO.Z;have:=HX.Z;omega,by have:=HK.Z;have:=HX.Z;omega,HC.Z⟩
   case measure=>have:=HK.Z;have:=HZO.Z;omega
theorem rO {v:Value} {l:aH} (hr:aC w v l) (hb:l.length <70368744177664):bF 90 #[v] w (bH w (.agg ((ei l).map dF).toArray)):=by
 obtain ⟨a,c,rfl,iL,gy⟩:=hr.aG;obtain ⟨ds,nQ⟩:∃ ds:Array Value,ds=((ei l).map dF).toArray:=⟨_,rfl⟩;have BS:ds.size=32:=by rw [nQ];simp [dz]
 have HI:=ae (show (Tryz.prog.info? 24).map (·.size)=some ds.size/\ds.size=32/\ds.all (·.oneCell')=true from ⟨by rw [BS];kernel_rfl,BS,by rw [nQ];exact mP _⟩);have HR:=ae hr;have HB:=ae hb;have Rx:=ae nQ;rw [<-nQ];clear BS hr hb nQ;have HA:=ae ((Own.start w).alloc (.cells (Array.replicate 32 (.int .u8 0)) 24));go_enter Tryz.func90,Tryz.ntmps90;go_wp2_with fail;change Calls _ _ _ (w.alloc (.cells (Array.replicate 32 (.int .u8 0)) 24)) _;generalize w.alloc (.cells (Array.replicate 32 (.int .u8 0)) 24)=w1 at*;refine (JB w1).mono ?_;rintro e w2 ⟨cg,v2,rfl,qw⟩;have H2:=ae (HA.Z.quiet cg);have Vd:=ae qw.st;clear cg qw HA;go_wp2_with fail;refine (l8 Vd.Z (HR.Z.keep H2.Z.keeps) (by have:=HB.Z;simp only [gN];omega)).mono ?_;rintro e w3 ⟨dN,v3,rfl,XR⟩;have H3:=ae (H2.Z.quiet dN);have XR:=XR.st;rw [pj] at XR;have Tc:=ae XR;clear dN XR H2;go_wp2_with fail;refine (GY Tc.Z HB.Z).mono ?_;rintro e w4 ⟨rfl,eA⟩;rw [<-Rx.Z];have h4:=H3.Z.quiet eA;have Vk:=ae (h4.at (b:=w.heap.size) (o:= .cells (Array.replicate 32 (.int .u8 0)) 24) (by simp)).1;have HK:=ae h4.keeps;clear h4 eA H3;go_wp2_with (refine wpList_store_row rfl 24 _ _ rfl w.heap.size ds rfl rfl 24 _ Vk.Z HI.Z.1 (by rw [HI.Z.2.1];rfl) HI.Z.2.2 ?_);have hh:(w4.setRow w.heap.size ds).heap[w.heap.size]?=some (.cells ds 24 (0,0)):=setRow_heap w4 _ _ ds 24 _ Vk.Z;refine bodyPost_ret (results_cell_row Tryz.results90 _ _ w.heap.size 24 ds (0,0) _ rfl hh Tryz.underlying24 rfl HI.Z.1) rfl ?_;exact ⟨rfl,HK.Z.trans (jq _ _ _) (λb hb e=>by omega)⟩

end Go.Proofs.YtlcnhpjggjgnpaaGreatDoor