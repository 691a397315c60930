/- A part of the proof. -/
import Derived.Test.YtlcnhpjggjgnpaaGreatDoorUpla5
import Derived.Test.YtlcnhpjggjgnpaaGreatDoorUplb2
set_option linter.unusedSimpArgs false
set_option linter.unusedVariables false
set_option maxRecDepth 100000
set_option maxHeartbeats 2000000
namespace Go.Proofs.YtlcnhpjggjgnpaaGreatDoor
open Go.RowKit Go.MapKept
theorem T4:∀ g:Nat,g <10->(gB g).toNat=48+g:=by decide
theorem T5:∀ g:Nat,g <16->¬g <10->(gB g).toNat=87+g:=by decide
theorem Cq (w:World) (g:Nat) (hg:g <16):aW 125 #[.int .u8 ((gB g).toNat:Int)] w (.int .u8 (g:Int)) w:=by
 unfold aW;by_cases h:g <10
 ·rw [T4 g h];have e1:((48+g:Nat):Int)=48+(g:Int):=by omega
  rw [e1];have b1:(48:Int)<=48+(g:Int):=by omega
  have b2:48+(g:Int)<=57:=by omega
  have b3:48+(g:Int) - 48=(g:Int):=by omega
  have b4:IntKind.u8.wrap (48+(g:Int) - 48)=(g:Int):=by rw [b3];simp [IntKind.wrap,IntKind.bits,IntKind.signed];omega
  go_enter Tryz.func125,Tryz.ntmps125;go_wp2;go_ret;exact ⟨rfl,rfl⟩
 ·rw [T5 g hg h];have e1:((87+g:Nat):Int)=87+(g:Int):=by omega
  rw [e1];have b1:(48:Int)<=87+(g:Int):=by omega
  have b2:¬87+(g:Int)<=57:=by omega
  have b5:(97:Int)<=87+(g:Int):=by omega
  have b6:87+(g:Int)<=102:=by omega
  have b4:IntKind.u8.wrap (87+(g:Int) - 97)=(g:Int) - 10:=by simp [IntKind.wrap,IntKind.bits,IntKind.signed];omega
  have b7:IntKind.u8.wrap ((g:Int) - 10+10)=(g:Int):=by simp [IntKind.wrap,IntKind.bits,IntKind.signed];omega
  go_enter Tryz.func125,Tryz.ntmps125;go_wp2;go_ret;exact ⟨rfl,rfl⟩
theorem Cr:∀ {x:aH} {i:Nat} {c:UInt8},x[i]?=some c->(dA x)[2*i]?=some (gB (c.toNat / 16))/\(dA x)[2*i+1]?=some (gB (c.toNat % 16))
 | [],i,c,h=>by simp at h
 | d::x,0,c,h=>by
  simp at h;subst h;rw [rD];exact ⟨rfl,rfl⟩
 | d::x,i+1,c,h=>by have:=Cr (x:=x) (i:=i) (c:=c) (by simpa using h);rw [rD,show 2*(i+1)=2*i+1+1 by omega];simpa using this
def dx (x:aH) (k:Nat):aH:=x.take k++List.replicate (x.length - k) 0
def um (l:aH):Obj:= .cells (l.map dF).toArray 5 (0,0)
theorem vK {x:aH} {k:Nat} {c:UInt8} (h:x[k]?=some c):(dx x k).set k c=dx x (k+1):=by have hk:=(List.getElem?_eq_some_iff.1 h).1;unfold dx;rw [List.set_append_right _ _ (by rw [nM];omega),nM,O9 (by omega),CZ];obtain ⟨m,hm⟩:∃ m,x.length - k=m+1:=⟨x.length - k - 1,by omega⟩;rw [hm,List.replicate_succ,List.set_cons_zero,ym,h,show x.length - (k+1)=m by omega];simp
theorem Nu:∀ n:Nat,n <256->bits BinOp.or IntKind.u8 (((n / 16:Nat):Int)*16) ((n % 16:Nat):Int)=(n:Int):=by decide+kernel
theorem Cs {W:World} {l:aH} {i:Nat} {c:UInt8} (h:l[i]?=some c):(Instr.index 9 (.string ⟨l.toArray⟩) (.int .i64 (i:Int))).run Tryz.prog W= .ok (.int .u8 (c.toNat:Int)) W:=by
 obtain ⟨hi,hc⟩:=List.getElem?_eq_some_iff.1 h;rw [run_index_string W 9 _ _ _ Tryz.underlying9];have jd:(⟨l.toArray⟩:aD).size=l.length:=by show l.toArray.size=_;simp
 rw [dif_pos ⟨by omega,by rw [jd];omega⟩];have:(⟨l.toArray⟩:aD)[(i:Int).toNat]'(by rw [jd];omega)=c:=by rw [<-hc];show l.toArray[(i:Int).toNat]=_;simp
 rw [this]
theorem Kj (n:Nat) (hn:n <16):(n <10/\((gB n).toNat:Int)=48+n)\/(10<=n/\((gB n).toNat:Int)=87+n):=by
 unfold gB;by_cases h:n <10
 ·refine .inl ⟨h, ?_⟩;simp [h];omega
 ·refine .inr ⟨by omega, ?_⟩;simp [h];omega
theorem GU (w:World) {l:aH} (hl:l.length<=65536):bF 177 #[.string ⟨(dA l).toArray⟩] w (λe w'=>∃ v,e= .returned (.tuple #[v,.bool true])/\bC w' w.heap.size v l/\ak w w'):=by
 have SX:=λ(W:World) (i:Nat) (c:UInt8) (h:(dA l)[i]?=some c)=>Cs (W:=W) h;have cU:(((⟨(dA l).toArray⟩:aD).size:Nat):Int)=2*(l.length:Int):=by show (((dA l).toArray).size:Int)=_;rw [Bd,fU];omega
 generalize (⟨(dA l).toArray⟩:aD)=s at SX cU ⊢;have HIX:=ae SX;have j9:(l.length:Int)<=65536:=by omega
 have HL:=ae hl;clear SX hl;go_enter Tryz.func177,Tryz.ntmps177;go_wp2_with fail;go_loopw [4,5] (λov iv wx=>∃ k:Nat,iv= .int .i64 (2*(k:Int))/\k<=l.length/\bC wx w.heap.size ov (l.take k)/\ak w wx) (λ_ iv _=>2*l.length - (intOf iv).toNat);case atStart=>exact ⟨0,rfl,fC _,bC.nil _ _,ah.refl _ _⟩
 case round=>
  obtain ⟨k,rfl,hk,ho,hq⟩:=hrel;have k0:=np k;obtain ⟨oa,oc,rfl,-,-⟩:=ho.bytes.aG;have hw0:IntKind.i64.wrap (2*(k:Int)+1)=2*(k:Int)+1:=by rw [IntKind.wrap_i64];omega
  by_cases aX:k <l.length
  ·obtain ⟨c,hc⟩:∃ c,l[k]?=some c:=⟨_,js aX⟩;obtain ⟨h1,h2⟩:=Cr hc;have VE:=λW=>HIX.Z W _ _ h1;have Rp:=λW=>HIX.Z W _ _ h2;have e1:((2*k:Nat):Int)=2*(k:Int):=by omega
   have e2:((2*k+1:Nat):Int)=2*(k:Int)+1:=by omega
   rw [e1] at VE;rw [e2] at Rp;have dI:=c.toNat_lt;have Lg:=Kj (c.toNat / 16) (by omega);have Yy:=Kj (c.toNat % 16) (by omega);have qg:c.toNat=16*(c.toNat / 16)+c.toNat % 16:=by omega
   have Bu:c.toNat / 16 <16:=by omega
   have Hb:c.toNat % 16 <16:=by omega
   generalize ((gB (c.toNat / 16)).toNat:Int)=z1 at VE Lg;generalize ((gB (c.toNat % 16)).toNat:Int)=z2 at Rp Yy;generalize c.toNat / 16=g1 at Lg qg Bu;generalize c.toNat % 16=g2 at Yy qg Hb;have j1:2*(k:Int)+1 <2*(l.length:Int):=by omega
   have E0:l.take (k+1)=l.take k++[c]:=by rw [ym,hc];rfl
   have OT:(l.take k).length<=65536:=by rw [nM];have:=HL.Z;omega
   have HC:=ae qg;have HO:=ae ho;have HQ:=ae hq;have kC:=ae aX;have HTK:=ae E0;have HLK:=ae OT;have HV1:=ae Lg;have HV2:=ae Yy;have HG:=ae (And.intro Bu Hb);clear hc h1 h2 e1 e2 dI qg ho hq hk aX E0 OT Lg Yy Bu Hb;go_wp2_with fail;go_loopw [6,7] (λvv jv wx=>∃ (j:Nat) (x:Int),jv= .int .i64 (j:Int)/\vv= .int .i64 x/\((j=0/\x=0)\/(j=1/\x=(g1:Int))\/(j=2/\x=(c.toNat:Int)))/\wr=wx) (λ_ jv _=>2 - (intOf jv).toNat);case atStart=>exact ⟨0,0,rfl,rfl,.inl ⟨rfl,rfl⟩,rfl⟩
   case round=>
    obtain ⟨j,x,rfl,rfl,hjx,rfl⟩:=hrel;rcases hjx with ⟨rfl,rfl⟩ | ⟨rfl,rfl⟩ | ⟨rfl,rfl⟩
    ·have fh:IntKind.i64.wrap (2*(k:Int)+0)=2*(k:Int):=by rw [IntKind.wrap_i64];omega
     have zu:IntKind.i64.wrap (2*(k:Int))=2*(k:Int):=by rw [IntKind.wrap_i64];omega
     rcases HV1.Z with ⟨a1,a2⟩ | ⟨a1,a2⟩
     ·have b1:(48:Int)<=z1:=by omega
      have b2:z1<=57:=by omega
      have b3:IntKind.u8.wrap (z1 - 48)=(g1:Int):=by rw [a2];simp [IntKind.wrap,IntKind.bits,IntKind.signed];omega
      have b4:IntKind.i64.wrap (g1:Int)=(g1:Int):=by rw [IntKind.wrap_i64];omega
      clear a1 a2;go_wp2;go_roundw;case rel=>exact ⟨1,(g1:Int),rfl,by simp,.inr (.inl ⟨rfl,rfl⟩),by first | rfl | trivial⟩
      case measure=>simp [intOf]
     ·have b1:(48:Int)<=z1:=by omega
      have b2:¬z1<=57:=by omega
      have b5:(97:Int)<=z1:=by omega
      have b6:z1<=102:=by have:=HG.Z;omega
      have b3:IntKind.u8.wrap (z1 - 97)=(g1:Int) - 10:=by rw [a2];simp [IntKind.wrap,IntKind.bits,IntKind.signed];have:=HG.Z;omega
      have b4:IntKind.i64.wrap ((g1:Int) - 10)=(g1:Int) - 10:=by rw [IntKind.wrap_i64];omega
      clear a1 a2;go_wp2;go_roundw;case rel=>exact ⟨1,(g1:Int),rfl,by simp;first | done | (rw [IntWalk.wrap64_in _ (by have:=HG.Z;omega)]) | (rw [IntKind.wrap_i64];omega),.inr (.inl ⟨rfl,rfl⟩),by first | rfl | trivial⟩
      case measure=>simp [intOf]
    ·have fh:IntKind.i64.wrap (2*(k:Int)+1)=2*(k:Int)+1:=by rw [IntKind.wrap_i64];omega
     have hm:IntKind.i64.wrap (16*(g1:Int))=16*(g1:Int):=by rw [IntKind.wrap_i64];have:=HG.Z;omega
     rcases HV2.Z with ⟨a1,a2⟩ | ⟨a1,a2⟩
     ·have b1:(48:Int)<=z2:=by omega
      have b2:z2<=57:=by omega
      have b3:IntKind.u8.wrap (z2 - 48)=(g2:Int):=by rw [a2];simp [IntKind.wrap,IntKind.bits,IntKind.signed];omega
      have b4:IntKind.i64.wrap (g2:Int)=(g2:Int):=by rw [IntKind.wrap_i64];omega
      have b7:IntKind.i64.wrap (16*(g1:Int)+(g2:Int))=(c.toNat:Int):=by rw [IntKind.wrap_i64,HC.Z];have:=HG.Z;omega
      clear a1 a2;go_wp2;go_roundw;case rel=>exact ⟨2,(c.toNat:Int),rfl,by simp,.inr (.inr ⟨rfl,rfl⟩),by first | rfl | trivial⟩
      case measure=>simp [intOf]
     ·have b1:(48:Int)<=z2:=by omega
      have b2:¬z2<=57:=by omega
      have b5:(97:Int)<=z2:=by omega
      have b6:z2<=102:=by have:=HG.Z;omega
      have b3:IntKind.u8.wrap (z2 - 97)=(g2:Int) - 10:=by rw [a2];simp [IntKind.wrap,IntKind.bits,IntKind.signed];have:=HG.Z;omega
      have b4:IntKind.i64.wrap ((g2:Int) - 10)=(g2:Int) - 10:=by rw [IntKind.wrap_i64];omega
      have b7:IntKind.i64.wrap (16*(g1:Int)+((g2:Int) - 10))=16*(g1:Int)+((g2:Int) - 10):=by rw [IntKind.wrap_i64];have:=HG.Z;omega
      have b8:IntKind.i64.wrap (16*(g1:Int)+((g2:Int) - 10)+10)=(c.toNat:Int):=by rw [IntKind.wrap_i64,HC.Z];have:=HG.Z;omega
      clear a1 a2;go_wp2;go_roundw;case rel=>exact ⟨2,(c.toNat:Int),rfl,by simp,.inr (.inr ⟨rfl,rfl⟩),by first | rfl | trivial⟩
      case measure=>simp [intOf]
    ·have b1:IntKind.u8.wrap (c.toNat:Int)=(c.toNat:Int):=by have:=c.toNat_lt;simp [IntKind.wrap,IntKind.bits,IntKind.signed];omega
     have iI:ak wr (wr.alloc (.cells #[dF c] 5)):=(ah.refl _ wr).alloc _;obtain ⟨v2,w2,aT,dy,ab1⟩:=bC.grow (kT HQ.Z.size iI.size) (HO.Z.keep iI) (gP wr c) (by have:=HLK.Z;simp only [iM,gN];omega);have cg:ak w w2:=(HQ.Z.trans iI (λ_ _ e=>e)).trans ab1 (λb hb e=>by have:=du HO.Z b e;omega);obtain ⟨na,nc,rfl,-,-⟩:=dy.bytes.aG;have Z9:IntKind.i64.wrap (2*(k:Int)+2)=2*((k+1:Nat):Int):=by rw [IntKind.wrap_i64];have:=kC.Z;omega
     have HR:=ae aT;have wM:=ae (show bC w2 w.heap.size _ (l.take (k+1)) from by rw [HTK.Z];exact dy);have oE:=ae cg;clear aT dy cg ab1 iI VE Rp;generalize (l.take k++[c]).length=nl at HR wM;go_wp2_with (at_builtin;refine ao rfl _ _ _ _ rfl rfl rfl HR.Z ?_);go_roundw;case rel=>exact ⟨k+1,by simp;first | done | omega,kC.Z,wM.Z,oE.Z⟩
     case measure=>have:=kC.Z;simp [intOf];omega
  ·obtain rfl:k=l.length:=by omega
   rw [jX] at ho;have j1:¬2*(l.length:Int)+1 <2*(l.length:Int):=by omega
   have Y0:(2*(l.length:Int)).tmod 2=0:=by rw [Int.mul_tmod_right]
   have HO:=ae ho;have HQ:=ae hq;clear ho hq hk aX;go_wp2;go_ret2;exact ⟨_,rfl,HO.Z,HQ.Z⟩
def Nv (w:World) (x:aH) (e:Ending) (w':World):Prop:=∃ g,e= .returned (.tuple #[.slice (some ⟨g,0,none⟩) 4 4,.int .i64 0])/\w'.rangeAt g 0 (x.map dF)/\ak w w'
theorem mk4 (w:World):∃ w',(Instr.makeSlice 22 (.int .i64 4) (.int .i64 4)).run Tryz.prog w= .ok (.slice (some ⟨w.heap.size,0,none⟩) 4 4) w'/\w'.heap[w.heap.size]?=some (um (List.replicate 4 0))/\ak w w':=by
 obtain ⟨i0,hi,rS,iH,jO⟩:=info_parts jN;have hr:=run_make (P:=Tryz.prog) w 22 5 i0 _ Tryz.underlying22 hi rS .i64 .i64 4 4 (by omega) (by omega) (by rw [jO];omega) (by omega);rw [iH] at hr;have e:(Obj.cells (madeCells (Value.int .u8 0).cells (Int.toNat 4*1)) 5 (0,0))=um (List.replicate 4 0):=by unfold um;congr 1;apply Array.ext';simp [madeCells,Value.cells,dF,List.range_succ_eq_map]
 rw [e] at hr;exact ⟨_,hr,heap_alloc_new w _,(ah.refl _ w).alloc _⟩
theorem GV (w:World) {x:aH} (hx:x.length=4):bF 66 #[.string ⟨(dA x).toArray⟩] w (Nv w x):=by
 have SX:=λ(W:World) (i:Nat) (c:UInt8) (h:(dA x)[i]?=some c)=>Cs (W:=W) h;have cU:(((⟨(dA x).toArray⟩:aD).size:Nat):Int)=8:=by show (((dA x).toArray).size:Int)=8;rw [Bd,fU,hx];rfl
 generalize (⟨(dA x).toArray⟩:aD)=s at SX cU ⊢;obtain ⟨w1,hmk,hb,hk⟩:=mk4 w;have bG:Own w w1 [aA w.heap.size (um (dx x 0))]:=by
  have e:dx x 0=List.replicate 4 0:=by simp [dx,hx]
  rw [e];exact (Own.start w).add hk (r:=aA w.heap.size (um (List.replicate 4 0))) (G:=λb=>b=w.heap.size) ⟨rfl,hb⟩ (λb pg=>by subst pg;exact ⟨eQ _,bm hb⟩)
 have fP:=ae bG;have HIX:=ae SX;have HX:=ae hx;clear hb hk hx bG SX;go_enter Tryz.func66,Tryz.ntmps66;go_wp2_with fail;go_loopw [18] (λiv wx=>∃ k:Nat,iv= .int .i64 (k:Int)/\k<=4/\Own w wx [aA w.heap.size (um (dx x k))]) (λiv _=>4 - (intOf iv).toNat);case atStart=>exact ⟨0,rfl,fC _,fP.Z⟩
 case round=>
  obtain ⟨k,rfl,hk,ho⟩:=hrel;have j0:=np k;by_cases aX:k <4
  ·obtain ⟨c,hc⟩:∃ c,x[k]?=some c:=⟨x[k]'(by rw [HX.Z];omega),js _⟩;have j2:(k:Int) <4:=by omega
   obtain ⟨h1,h2⟩:=Cr hc;have VE:=λW=>HIX.Z W _ _ h1;have Rp:=λW=>HIX.Z W _ _ h2;have e1:((2*k:Nat):Int)=2*(k:Int):=by omega
   have e2:((2*k+1:Nat):Int)=2*(k:Int)+1:=by omega
   rw [e1] at VE;rw [e2] at Rp;have fh:IntKind.i64.wrap (2*(k:Int))=2*(k:Int):=by rw [IntKind.wrap_i64];omega
   have zu:IntKind.i64.wrap (2*(k:Int)+1)=2*(k:Int)+1:=by rw [IntKind.wrap_i64];omega
   have dI:=c.toNat_lt;have He:=λW=>Cq W (c.toNat / 16) (by omega);have uw:=λW=>Cq W (c.toNat % 16) (by omega);generalize ((gB (c.toNat / 16)).toNat:Int)=z1 at VE He;generalize ((gB (c.toNat % 16)).toNat:Int)=z2 at Rp uw;obtain ⟨g1,Bu⟩:∃ g:Nat,g=c.toNat / 16:=⟨_,rfl⟩;obtain ⟨g2,Hb⟩:∃ g:Nat,g=c.toNat % 16:=⟨_,rfl⟩;rw [<-Bu] at He;rw [<-Hb] at uw;have Ro:¬(15:Int) <(g1:Int):=by omega
   have ox:¬(15:Int) <(g2:Int):=by omega
   have hgg:bits BinOp.or IntKind.u8 ((g1:Int)*16) (g2:Int)=(c.toNat:Int):=by have:=Nu c.toNat dI;rw [<-Bu,<-Hb] at this;exact this
   have Pg:=(ho.at (b:=w.heap.size) (o:=um (dx x k)) (by simp)).1;have xI:(dx x k).length=4:=by unfold dx;rw [fS,nM,O4,HX.Z];omega
   have eh:wr.cell? ⟨w.heap.size,k,none⟩=some (dF ((dx x k)[k]'(by omega))):=ag Pg (by simp [xI,aX]);have ab2:=cL Pg k;have gQ:=ho.store k (dF c);have vk:(((dx x k).map dF).toArray).setIfInBounds k (dF c)=((dx x (k+1)).map dF).toArray:=by rw [<-vK hc,K9];simp
   rw [vk] at gQ;have sO:=ae (gQ.drew);have kC:=ae aX;generalize dF ((dx x k)[k]'(by omega))=old at eh;have HD1:=ae He;have KY:=ae uw;clear He uw h1 h2 e1 e2 dI Bu Hb Pg xI gQ vk ho;go_wp2_with fail;go_region_held3 (λ_=>True) (trivial) (first | (go_at_call_of 125 (Value.int .u8 z1);refine (HD1.Z _).Z.mono ?_;rintro e w' ⟨rfl,rfl⟩) | (go_at_call_of 125 (Value.int .u8 z2);refine (KY.Z _).Z.mono ?_;rintro e w' ⟨rfl,rfl⟩));all_goals
    go_wp2;go_roundw;case rel=>exact ⟨k+1,rfl,kC.Z,sO.Z⟩
    case measure=>have:=kC.Z;simp [intOf];omega
  ·obtain rfl:k=4:=by omega
   have hb:=(ho.at (b:=w.heap.size) (o:=um (dx x 4)) (by simp)).1;have e:dx x 4=x:=by unfold dx;rw [HX.Z,sU (by rw [HX.Z];omega)];simp
   rw [e] at hb;have HR:=ae (λ(j:Nat) (v:Value) (hv:(x.map dF)[j]?=some v)=>(by rw [fw];exact ag hb (by rw [oB];exact hv):wr.cell? ⟨w.heap.size,0+j,none⟩=some v));have HK:=ae ho.keeps;clear hb ho e aX hk;go_wp2;go_ret2;exact ⟨w.heap.size,rfl,HR.Z,HK.Z⟩

end Go.Proofs.YtlcnhpjggjgnpaaGreatDoor