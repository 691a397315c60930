/- A part of the proof. -/
import Derived.Test.YtlcnhpjggjgnpaaGreatDoorUplc7
set_option linter.unusedSimpArgs false
set_option linter.unusedVariables false
set_option maxRecDepth 100000
set_option maxHeartbeats 8000000
namespace Go.Proofs.YtlcnhpjggjgnpaaGreatDoor
open Go.RowKit Go.MapKept
variable {R:Int} {W w:World} {d i r u' y:Nat} {rs:List (bB w.heap.size)}
def UQ (W:World) (a:Option Addr) (len:Nat):Prop:=∀ i,i <len->∀ (x:Addr) (s:aD),a=some x->W.cell? {block:=(x.add (i*7)).block,off:=(x.add (i*7)).off+2}=some (.string s)->s.size<=9223372036854775807
theorem lr.acA {W':World} {x:bB w.heap.size} (h:lr w W R d r y u' i rs) (hx:∀ A,Own w W A->Own w W' (x::A)):lr w W' R d r y u' i (x::rs):=by obtain ⟨s,L,nx,st,t,j,b,u,mp,q,t',v,lv,vL,P,S,h⟩:=h;exact ⟨s,L,nx,st,t,j,b,u,mp,q,t',v,lv,vL,P,S,h.more hx⟩
theorem lr.G7 {W':World} (h:lr w W R d r y u' i rs) (hk:ak W W'):lr w W' R d r y u' i rs:=by obtain ⟨s,L,nx,st,t,j,b,u,mp,q,t',v,lv,vL,P,S,h⟩:=h;exact ⟨s,L,nx,st,t,j,b,u,mp,q,t',v,lv,vL,P,S,h.quiet hk⟩
theorem lr.N1 (h:lr w W R d r y u' i rs):Own w W rs:=by obtain ⟨s,L,nx,st,t,j,b,u,mp,q,t',v,lv,vL,P,S,h⟩:=h;exact (uS h.own).drop
def RB (b:Nat) (k id:Int) (au:aD) (pv:Value) (n m:Int) (lv:Value) (W:World):Prop:=
 W.cell? ⟨b,0,none⟩=some (.int .i64 k)/\W.cell? ⟨b,1,none⟩=some (.int .i64 id)/\W.cell? ⟨b,2,none⟩=some (.string au)/\W.cell? ⟨b,3,none⟩=some pv/\W.cell? ⟨b,4,none⟩=some (.int .i64 n)/\W.cell? ⟨b,5,none⟩=some (.int .i64 m)/\W.cell? ⟨b,6,none⟩=some lv
theorem RB.of {b:Nat} {k id n m:Int} {au:aD} {pv lv:Value} {ls:List (bB w.heap.size)} (h:Own w W (aA b (ub k id au pv n m lv)::ls)):RB b k id au pv n m lv W:=by have ho:=(h.at (gw ..)).1;exact ⟨ag ho rfl,ag ho rfl,ag ho rfl,ag ho rfl,ag ho rfl,ag ho rfl,ag ho rfl⟩
theorem KP (aR:Int) (w0:World) (uM:wy w0) {a:Option Addr} {len cap:Nat} (wY:len<=cap) (pA:cap<=maxLen) (XI:TE w0 a len) (ZX:UQ w0 a len): bF 6 #[.int .i64 aR,.slice a len cap] w0 (bH w0 (.bool true)):=by
 have Yz:=ae uM;have adE:=ae XI;have HRP:=ae ZX;unfold maxLen at pA;have i0:(len:Int)<=9223372036854775807:=by omega
 have i1:=np len;obtain ⟨r0,hr,AX,bM⟩:∃ r:Int,wrap64 ((IntKind.u64.wrap aR).tmod 20000)=r/\0<=r/\r <20000:=by obtain ⟨n,e,h⟩:=R3 aR 20000 (by omega) (by omega);exact ⟨n,e,by omega,by omega⟩
 have HAW:=ae (D4 w0 uM);clear uM XI wY pA ZX;go_enter Tryz.func6,Tryz.ntmps6;go_wp2_with fail;refine HAW.Z.mono ?_;rintro e w1 ⟨rfl,bN⟩;obtain ⟨d,w2,uZ,dy⟩:=((Own.start w0).quiet bN).new r0 AX (by omega);obtain ⟨r,w3,yi,fy⟩:=dy.acT r0;have fP:=ae (UP AX (by omega) fy.swap);have Zd:=ae (And.intro AX bM);clear bN dy fy HAW AX bM;go_wp2_with fail;refine uZ.Z.mono ?_;rintro e w' ⟨rfl,rfl⟩;go_wp2_with fail;refine yi.Z.mono ?_;rintro e w' ⟨rfl,rfl⟩;clear uZ yi;go_wp2_with fail;refine fP.Z.mono ?_;rintro e w4 ⟨y,rfl,vt⟩;have YP:=ae vt;clear vt fP;go_wp2_with fail;refine YP.Z.mono ?_;rintro e w5 ⟨u,rfl,ad4⟩;have HYD:=ae ad4;clear ad4 YP;go_upto_block 0 with fail;refine wp_cut (λa' w'=>∃ f:Nat->Value,(ak w0 w')/\a'=⟨(f 0::f 1::f 2::f 3::f 4::f 5::f 6::f 7::f 8::f 9::f 10::f 11::f 12::f 13::f 14::f 15::f 16::f 17::f 18::f 19::f 20::f 21::f 22::f 23::f 24::f 25::f 26::f 27::f 28::f 29::f 30::f 31::f 32::f 33::f 34::f 35::f 36::f 37::f 38::f 39::f 40::f 41::f 42::f 43::f 44::f 45::f 46::f 47::f 48::f 49::f 50::f 51::f 52::f 53::f 54::f 55::f 56::f 57::f 58::f 59::f 60::f 61::f 62::f 63::f 64::f 65::f 66::f 67::f 68::f 69::f 70::f 71::f 72::f 73::f 74::f 75::f 76::f 77::f 78::f 79::f 80::f 81::f 82::f 83::f 84::f 85::f 86::f 87::f 88::f 89::f 90::f 91::f 92::f 93::f 94::f 95::f 96::f 97::f 98::f 99::f 100::f 101::f 102::f 103::f 104::f 105::f 106::f 107::f 108::f 109::f 110::f 111::f 112::f 113::f 114::f 115::f 116::f 117::f 118::f 119::f 120::f 121::f 122::f 123::f 124::f 125::f 126::f 127::f 128::f 129::f 130::f 131::f 132::f 133::f 134::f 135::f 136::f 137::f 138::f 139::f 140::f 141::f 142::f 143::f 144::[]:List Value).toArray,[]⟩) ?CE ?wL;case wL=>
  intro _ _ _ _
  as_aux_lemma=>
   go_wp2_with fail;refine wp_loop (λa' w'=>∃ f:Nat->Value,(∃ k y u:Nat,k<=len/\k<=40/\f 50= .int .i64 (k:Int)/\f 8= .pointer (some ⟨y,0,none⟩)/\f 10= .pointer (some ⟨u,0,none⟩)/\lr w0 w' r0 d r y u (k+1) [])/\a'=⟨(f 0::f 1::f 2::f 3::f 4:: .pointer (some ⟨d,0,none⟩)::f 6:: .pointer (some ⟨r,0,none⟩)::f 8::f 9::f 10::f 11::f 12::f 13::f 14::f 15::f 16::f 17::f 18::f 19::f 20::f 21::f 22::f 23::f 24::f 25::f 26::f 27::f 28::f 29::f 30::f 31::f 32::f 33::f 34::f 35::f 36::f 37::f 38::f 39::f 40::f 41::f 42::f 43::f 44::f 45::f 46::f 47:: .slice a len cap:: .int .i64 (len:Int)::f 50::f 51::f 52::f 53::f 54::f 55::f 56::f 57::f 58::f 59::f 60::f 61::f 62::f 63::f 64::f 65::f 66::f 67::f 68::f 69::f 70::f 71::f 72::f 73::f 74::f 75::f 76::f 77::f 78::f 79::f 80::f 81::f 82::f 83::f 84::f 85::f 86::f 87::f 88::f 89::f 90::f 91::f 92::f 93::f 94::f 95::f 96::f 97::f 98::f 99::f 100::f 101::f 102::f 103::f 104::f 105::f 106::f 107::f 108::f 109::f 110::f 111::f 112::f 113::f 114::f 115::f 116::f 117::f 118::f 119::f 120::f 121::f 122::f 123::f 124::f 125::f 126::f 127::f 128::f 129::f 130::f 131::f 132::f 133::f 134::f 135::f 136::f 137::f 138::f 139::f 140::f 141::f 142::f 143::f 144::[]:List Value).toArray,[]⟩) (λa' _=>len - (intOf (a'.tmps.getD 50 undef)).toNat) ?atStart ?round;case atStart=>refine cM ?_ (by kernel_rfl);exact ⟨0,y,u,fC _,fC _,rfl,rfl,rfl,HYD.Z⟩
   case round=>
    intro _ wr aU;obtain ⟨f,hrel,ha⟩:=aU;subst ha;obtain ⟨k,y,u,hk,XJ,e50,e8,Um,ad4⟩:=hrel;rw [e50,e8,Um];clear e50 e8 Um HYD;have j0:=np k;by_cases aX:k <len
    ·have kC:=ae aX;go_upto_block 1 with fail;refine wp_cut (λa' w'=>∃ f:Nat->Value,(k <40/\∃ y u:Nat,f 8= .pointer (some ⟨y,0,none⟩)/\f 10= .pointer (some ⟨u,0,none⟩)/\lr w0 w' r0 d r y u (k+2) [])/\a'=⟨(f 0::f 1::f 2::f 3::f 4:: .pointer (some ⟨d,0,none⟩)::f 6:: .pointer (some ⟨r,0,none⟩)::f 8::f 9::f 10::f 11::f 12::f 13::f 14::f 15::f 16::f 17::f 18::f 19::f 20::f 21::f 22::f 23::f 24::f 25::f 26::f 27::f 28::f 29::f 30::f 31::f 32::f 33::f 34::f 35::f 36::f 37::f 38::f 39::f 40::f 41::f 42::f 43::f 44::f 45::f 46::f 47:: .slice a len cap:: .int .i64 (len:Int):: .int .i64 (k:Int)::f 51::f 52::f 53::f 54::f 55::f 56::f 57::f 58::f 59::f 60::f 61::f 62::f 63::f 64::f 65::f 66::f 67::f 68::f 69::f 70::f 71::f 72::f 73::f 74::f 75::f 76::f 77::f 78::f 79::f 80::f 81::f 82::f 83::f 84::f 85::f 86::f 87::f 88::f 89::f 90::f 91::f 92::f 93::f 94::f 95::f 96::f 97::f 98::f 99::f 100::f 101::f 102::f 103::f 104::f 105::f 106::f 107::f 108::f 109::f 110::f 111::f 112::f 113::f 114::f 115::f 116::f 117::f 118::f 119::f 120::f 121::f 122::f 123::f 124::f 125::f 126::f 127::f 128::f 129::f 130::f 131::f 132::f 133::f 134::f 135::f 136::f 137::f 138::f 139::f 140::f 141::f 142::f 143::f 144::[]:List Value).toArray,[]⟩) ?Ut ?NL;case Ut=>
      intro _ wc aU;obtain ⟨f2,⟨eA,y2,u2,e8,Um,acB⟩,ha⟩:=aU;subst ha;have HC:=ae (And.intro eA acB);clear eA acB ad4 hk XJ aX;rw [e8,Um];clear e8 Um;have j1:(k:Int) <40:=by have:=HC.Z.1;omega
      go_wp2_with fail;refine ⟨?_, ?measure⟩
      ·refine cM ?_ (by kernel_rfl);exact ⟨k+1,y2,u2,by have:=kC.Z;omega,by have:=HC.Z.1;omega,by simp,rfl,rfl,HC.Z.2⟩
      case measure=>have:=kC.Z;simp [intOf];omega
     case NL=>
      intro _ _ _ _
      as_aux_lemma=>
       obtain ⟨x,o,pv,la,lc,rfl,c0,c1,c2,c3,c4,c5,c6,my,qe,rU,gm,Aw,qw,UW,Y0⟩:=adE.Z k aX;have pE:=HRP.Z k aX x o.au rfl c2;have od:=ad4.N1.keeps;have c0:=aJ c0 od;have c1:=aJ c1 od;have c2:=aJ c2 od;have c3:=aJ c3 od;have c4:=aJ c4 od;have c5:=aJ c5 od;have c6:=aJ c6 od;obtain ⟨oK,oI,oR,oP,oN,oM,oL⟩:=o;simp only at c0 c1 c2 c3 c4 c5 c6 my rU gm Aw qw UW Y0 pE;obtain ⟨pa,pc,rfl,adF,vo⟩:=gm.aG;have j2:(k:Int) <len:=by omega
       have kB:=ad4.acA (W':=wr.alloc (ub oK oI oR (.slice pa oP.length pc) oN oM (.slice la oL.length lc))) (λA hA=>hA.alloc _);have hfa:=GF (k0:=oK) (d0:=oI) (r0:=oR) (n0:=oN) (m0:=oM) (c:=lc) (gm.keep kB.N1.keeps) (rU.keep kB.N1.keeps) (kT my qe);have G8:=ae kB;have HFA:=ae hfa;have xo:=ae gm;have HIN:=ae rU;have CQ:=ae pE;have HN:=ae (And.intro Aw qw);clear ad4 rU my qe gm kB hfa hk aX Aw qw UW Y0 pE od adF vo;by_cases h40:k=40
       ·have j3:(40:Int)<=k:=by omega
        have HG:=ae G8.Z.N1.keeps;clear h40 XJ;go_wp2_with fail;refine Met.intro ?_;go_step;refine cM ?_ (by kernel_rfl);exact HG.Z
       ·have j3:¬(40:Int)<=k:=by omega
        have D5:=ae (by omega:k <40);clear h40 XJ;go_wp2_with fail;refine HFA.Z.mono ?_;rintro e w5 ⟨rfl,fB⟩;have h5:=G8.Z.G7 fB;generalize Ds:wr.heap.size=wb at*;have H5:=ae h5;clear HFA G8 fB h5 Ds c0 c1 c2 c3 c4 c5 c6;cases hs:vJ oL oP with
        | false=>
         have HG:=ae H5.Z.N1.keeps;clear hs H5;go_wp2_with fail;refine Met.intro ?_;go_step;refine cM ?_ (by kernel_rfl);exact HG.Z
        | true=>
         have HFB:=ae hs;clear hs;obtain ⟨q0,q1,q2,q3,q4,q5,q6⟩:=RB.of H5.Z.N1;by_cases fB:oK <5
         ·have b5:¬(5:Int)<=oK:=by omega
          have uG:=ae (G6 (i:=k+1) H5.Z Yz.Z (by have:=D5.Z;omega) oK oI oN oM fB oR CQ.Z HN.Z xo.Z (lc:=lc) HIN.Z HFB.Z);clear H5 fB;go_wp2_with fail;refine uG.Z.mono ?_;rintro e w6 ⟨rfl,h6⟩;have H6:=ae h6;clear h6 uG q0 q1 q2 q3 q4 q5 q6;go_wp2_with fail;obtain ⟨tt,uu,t',la',ln,lc',hc,YQ,KQ,KR⟩:=N0 H6.Z (by have:=D5.Z;omega);have HC:=ae hc;have RL:=ae YQ;have KS:=ae KQ;have KT:=ae KR;clear hc YQ KQ KR;go_upto_region 24 with fail;refine wp_region_held_drew (S:=(λW'=>ak w6 W')) (by kernel_rfl) (by exact (ah.refl _ w6).drew) (λai=> ?_);refine tk 0 116 (.pointer (some ⟨d,0,none⟩)) ai ?_;try go_frame
          refine tk 1 117 (.pointer (some ⟨r,0,none⟩)) ai ?_;try go_frame
          refine eR [2] ?_;refine D7 118 λK hK=> ?_;go_simp;go_at_call 37;refine (RL.Z _ ai).mono ?_;rintro e w7 ⟨rfl,jf⟩;refine hK.Z _ _ (by exact ai.trans jf (λ_ _ e=>e)) (λaK=> ?_);clear hK K;try go_frame
          refine tk 3 119 (.bool false) aK ?_;try go_frame
          refine tk 4 120 (.bool false) aK ?_;try go_frame
          refine tk 5 121 (.pointer (some ⟨y,0,none⟩)) aK ?_;try go_frame
          refine tk 6 122 (.pointer (some ⟨y,0,none⟩)) aK ?_;try go_frame
          refine tk 7 123 (.pointer (some ⟨y,3,none⟩)) aK ?_;try go_frame
          refine tk 8 124 (.pointer (some ⟨uu,0,none⟩)) aK ?_ (hy:=Or.inl ⟨by rfl,by intro w bK;(try dsimp only at bK);(have q0:=(HC.Z _ bK).1;go_simp)⟩);try go_frame
          refine tk 9 125 (.pointer (some ⟨u,0,none⟩)) aK ?_;try go_frame
          refine eR [10] ?_;refine D7 126 λK hK=> ?_;go_simp;go_at_call 38;refine (KS.Z _ aK).mono ?_;rintro e w8 ⟨rfl,zY⟩;refine hK.Z _ _ (by exact aK.trans zY (λ_ _ e=>e)) (λaI=> ?_);clear hK K;try go_frame
          refine tk 11 127 (.bool false) aI ?_;try go_frame
          refine tk 12 128 (.bool false) aI ?_;try go_frame
          refine tk 13 129 (.bool false) aI ?_;try go_frame
          refine tk 14 130 (.pointer (some ⟨y,0,none⟩)) aI ?_;try go_frame
          refine tk 15 131 (.pointer (some ⟨y,0,none⟩)) aI ?_;try go_frame
          refine tk 16 132 (.pointer (some ⟨y,2,none⟩)) aI ?_;try go_frame
          refine tk 17 133 (.pointer (some ⟨tt,0,none⟩)) aI ?_ (hy:=Or.inl ⟨by rfl,by intro w bK;(try dsimp only at bK);(have q0:=(HC.Z _ bK).2.1;go_simp)⟩);try go_frame
          refine tk 18 134 (.pointer (some ⟨u,0,none⟩)) aI ?_;try go_frame
          refine tk 19 135 (.pointer (some ⟨u,0,none⟩)) aI ?_;try go_frame
          refine tk 20 136 (.pointer (some ⟨u,1,none⟩)) aI ?_;try go_frame
          refine tk 21 137 (.pointer (some ⟨t',0,none⟩)) aI ?_ (hy:=Or.inl ⟨by rfl,by intro w bK;(try dsimp only at bK);(have q0:=(HC.Z _ bK).2.2.1;go_simp)⟩);try go_frame
          refine tk 22 138 (.pointer (some ⟨t',0,none⟩)) aI ?_;try go_frame
          refine tk 23 139 (.pointer (some ⟨t',1,none⟩)) aI ?_;try go_frame
          refine tk 24 140 (.slice la' ln lc') aI ?_ (hy:=Or.inl ⟨by rfl,by intro w bK;(try dsimp only at bK);(have q0:=(HC.Z _ bK).2.2.2;go_simp)⟩);try go_frame
          refine eR [25] ?_;refine D7 141 λK hK=> ?_;go_simp;go_at_call 39;refine (KT.Z _ aI).mono ?_;rintro e w9 ⟨rfl,xA⟩;refine hK.Z _ _ (by exact aI.trans xA (λ_ _ e=>e)) (λbJ=> ?_);clear hK K;try go_frame
          refine tk 26 142 (.bool false) bJ ?_;try go_frame
          refine tk 27 143 (.bool false) bJ ?_;try go_frame
          refine wpAnyH_done (by kernel_rfl) ?_ _;have HG:=ae (lr.less (lr.G7 H6.Z bJ));clear ai aK aI bJ jf zY xA HC RL KS KT H6;go_wp2_with fail;refine Met.intro ?_;go_step;refine cM ?_ (by kernel_rfl);exact ⟨D5.Z,y,u,rfl,rfl,HG.Z⟩
         ·have b5:(5:Int)<=oK:=by omega
          by_cases gZ:oK=6
          ·subst gZ;have ml:=UO (i:=k+1) H5.Z (by have:=D5.Z;omega) oN oM;have UX:=ae ml;clear H5 fB ml;go_wp2_with fail;refine UX.Z.mono ?_;rintro e w6 ⟨rfl,h6⟩;have ph:=XG h6 Yz.Z (by have:=Zd.Z.2;omega) (by have:=D5.Z;omega);obtain ⟨m6,-,-,-,YR⟩:=h6;obtain ⟨q0,q1,q2,q3,q4,q5,q6⟩:=RB.of YR.drop.drop;obtain ⟨cc,ph⟩:=ph;have Gz:=ae ph;clear ph YR UX;go_wp2_with fail;refine Gz.Z.mono ?_;rintro e w7 (⟨rfl,-,vt⟩ | ⟨y2,rfl,-,vt⟩)
           ·have YP:=ae vt;clear vt Gz q0 q1 q2 q3 q4 q5 q6;go_wp2_with fail;refine YP.Z.mono ?_;rintro e w8 ⟨rfl,zY⟩;have HG:=ae zY;clear zY YP;go_wp2;go_ret;exact ⟨rfl,HG.Z⟩
           ·have YP:=ae vt;clear vt Gz q0 q1 q2 q3 q4 q5 q6;go_wp2_with fail;refine YP.Z.mono ?_;rintro e w8 ⟨u2,rfl,h8⟩;have H6:=ae h8;clear h8 YP;go_wp2_with fail;obtain ⟨tt,uu,t',la',ln,lc',hc,YQ,KQ,KR⟩:=N0 H6.Z (by have:=D5.Z;omega);have HC:=ae hc;have RL:=ae YQ;have KS:=ae KQ;have KT:=ae KR;clear hc YQ KQ KR;go_upto_region 24 with fail;refine wp_region_held_drew (S:=(λW'=>ak w8 W')) (by kernel_rfl) (by exact (ah.refl _ w8).drew) (λai=> ?_);refine tk 0 116 (.pointer (some ⟨d,0,none⟩)) ai ?_;try go_frame
            refine tk 1 117 (.pointer (some ⟨r,0,none⟩)) ai ?_;try go_frame
            refine eR [2] ?_;refine D7 118 λK hK=> ?_;go_simp;go_at_call 37;refine (RL.Z _ ai).mono ?_;rintro e w7 ⟨rfl,jf⟩;refine hK.Z _ _ (by exact ai.trans jf (λ_ _ e=>e)) (λaK=> ?_);clear hK K;try go_frame
            refine tk 3 119 (.bool false) aK ?_;try go_frame
            refine tk 4 120 (.bool false) aK ?_;try go_frame
            refine tk 5 121 (.pointer (some ⟨y2,0,none⟩)) aK ?_;try go_frame
            refine tk 6 122 (.pointer (some ⟨y2,0,none⟩)) aK ?_;try go_frame
            refine tk 7 123 (.pointer (some ⟨y2,3,none⟩)) aK ?_;try go_frame
            refine tk 8 124 (.pointer (some ⟨uu,0,none⟩)) aK ?_ (hy:=Or.inl ⟨by rfl,by intro w bK;(try dsimp only at bK);(have q0:=(HC.Z _ bK).1;go_simp)⟩);try go_frame
            refine tk 9 125 (.pointer (some ⟨u2,0,none⟩)) aK ?_;try go_frame
            refine eR [10] ?_;refine D7 126 λK hK=> ?_;go_simp;go_at_call 38;refine (KS.Z _ aK).mono ?_;rintro e w8 ⟨rfl,zY⟩;refine hK.Z _ _ (by exact aK.trans zY (λ_ _ e=>e)) (λaI=> ?_);clear hK K;try go_frame
            refine tk 11 127 (.bool false) aI ?_;try go_frame
            refine tk 12 128 (.bool false) aI ?_;try go_frame
            refine tk 13 129 (.bool false) aI ?_;try go_frame
            refine tk 14 130 (.pointer (some ⟨y2,0,none⟩)) aI ?_;try go_frame
            refine tk 15 131 (.pointer (some ⟨y2,0,none⟩)) aI ?_;try go_frame
            refine tk 16 132 (.pointer (some ⟨y2,2,none⟩)) aI ?_;try go_frame
            refine tk 17 133 (.pointer (some ⟨tt,0,none⟩)) aI ?_ (hy:=Or.inl ⟨by rfl,by intro w bK;(try dsimp only at bK);(have q0:=(HC.Z _ bK).2.1;go_simp)⟩);try go_frame
            refine tk 18 134 (.pointer (some ⟨u2,0,none⟩)) aI ?_;try go_frame
            refine tk 19 135 (.pointer (some ⟨u2,0,none⟩)) aI ?_;try go_frame
            refine tk 20 136 (.pointer (some ⟨u2,1,none⟩)) aI ?_;try go_frame
            refine tk 21 137 (.pointer (some ⟨t',0,none⟩)) aI ?_ (hy:=Or.inl ⟨by rfl,by intro w bK;(try dsimp only at bK);(have q0:=(HC.Z _ bK).2.2.1;go_simp)⟩);try go_frame
            refine tk 22 138 (.pointer (some ⟨t',0,none⟩)) aI ?_;try go_frame
            refine tk 23 139 (.pointer (some ⟨t',1,none⟩)) aI ?_;try go_frame
            refine tk 24 140 (.slice la' ln lc') aI ?_ (hy:=Or.inl ⟨by rfl,by intro w bK;(try dsimp only at bK);(have q0:=(HC.Z _ bK).2.2.2;go_simp)⟩);try go_frame
            refine eR [25] ?_;refine D7 141 λK hK=> ?_;go_simp;go_at_call 39;refine (KT.Z _ aI).mono ?_;rintro e w9 ⟨rfl,xA⟩;refine hK.Z _ _ (by exact aI.trans xA (λ_ _ e=>e)) (λbJ=> ?_);clear hK K;try go_frame
            refine tk 26 142 (.bool false) bJ ?_;try go_frame
            refine tk 27 143 (.bool false) bJ ?_;try go_frame
            refine wpAnyH_done (by kernel_rfl) ?_ _;have HG:=ae (lr.less (lr.G7 H6.Z bJ));clear ai aK aI bJ jf zY xA HC RL KS KT H6;go_wp2_with fail;refine Met.intro ?_;go_step;refine cM ?_ (by kernel_rfl);exact ⟨D5.Z,y2,u2,rfl,rfl,HG.Z⟩
          ·have b6:(oK==6)=false:=by rw [beq_eq_false_iff_ne];exact gZ
           have ml:=XF (i:=k+1) H5.Z (by have:=D5.Z;omega) oK oN oM ⟨b5,gZ⟩ HN.Z.2;have UX:=ae ml;clear H5 fB ml gZ;go_wp2_with fail;refine UX.Z.mono ?_;rintro e w6 ⟨rfl,h6⟩;obtain ⟨q0,q1,q2,q3,q4,q5,q6⟩:=RB.of h6.N1;have H6:=ae h6;clear h6 UX;go_wp2_with fail;clear q0 q1 q2 q3 q4 q5 q6;obtain ⟨tt,uu,t',la',ln,lc',hc,YQ,KQ,KR⟩:=N0 H6.Z (by have:=D5.Z;omega);have HC:=ae hc;have RL:=ae YQ;have KS:=ae KQ;have KT:=ae KR;clear hc YQ KQ KR;go_upto_region 24 with fail;refine wp_region_held_drew (S:=(λW'=>ak w6 W')) (by kernel_rfl) (by exact (ah.refl _ w6).drew) (λai=> ?_);refine tk 0 116 (.pointer (some ⟨d,0,none⟩)) ai ?_;try go_frame
           refine tk 1 117 (.pointer (some ⟨r,0,none⟩)) ai ?_;try go_frame
           refine eR [2] ?_;refine D7 118 λK hK=> ?_;go_simp;go_at_call 37;refine (RL.Z _ ai).mono ?_;rintro e w7 ⟨rfl,jf⟩;refine hK.Z _ _ (by exact ai.trans jf (λ_ _ e=>e)) (λaK=> ?_);clear hK K;try go_frame
           refine tk 3 119 (.bool false) aK ?_;try go_frame
           refine tk 4 120 (.bool false) aK ?_;try go_frame
           refine tk 5 121 (.pointer (some ⟨y,0,none⟩)) aK ?_;try go_frame
           refine tk 6 122 (.pointer (some ⟨y,0,none⟩)) aK ?_;try go_frame
           refine tk 7 123 (.pointer (some ⟨y,3,none⟩)) aK ?_;try go_frame
           refine tk 8 124 (.pointer (some ⟨uu,0,none⟩)) aK ?_ (hy:=Or.inl ⟨by rfl,by intro w bK;(try dsimp only at bK);(have q0:=(HC.Z _ bK).1;go_simp)⟩);try go_frame
           refine tk 9 125 (.pointer (some ⟨u,0,none⟩)) aK ?_;try go_frame
           refine eR [10] ?_;refine D7 126 λK hK=> ?_;go_simp;go_at_call 38;refine (KS.Z _ aK).mono ?_;rintro e w8 ⟨rfl,zY⟩;refine hK.Z _ _ (by exact aK.trans zY (λ_ _ e=>e)) (λaI=> ?_);clear hK K;try go_frame
           refine tk 11 127 (.bool false) aI ?_;try go_frame
           refine tk 12 128 (.bool false) aI ?_;try go_frame
           refine tk 13 129 (.bool false) aI ?_;try go_frame
           refine tk 14 130 (.pointer (some ⟨y,0,none⟩)) aI ?_;try go_frame
           refine tk 15 131 (.pointer (some ⟨y,0,none⟩)) aI ?_;try go_frame
           refine tk 16 132 (.pointer (some ⟨y,2,none⟩)) aI ?_;try go_frame
           refine tk 17 133 (.pointer (some ⟨tt,0,none⟩)) aI ?_ (hy:=Or.inl ⟨by rfl,by intro w bK;(try dsimp only at bK);(have q0:=(HC.Z _ bK).2.1;go_simp)⟩);try go_frame
           refine tk 18 134 (.pointer (some ⟨u,0,none⟩)) aI ?_;try go_frame
           refine tk 19 135 (.pointer (some ⟨u,0,none⟩)) aI ?_;try go_frame
           refine tk 20 136 (.pointer (some ⟨u,1,none⟩)) aI ?_;try go_frame
           refine tk 21 137 (.pointer (some ⟨t',0,none⟩)) aI ?_ (hy:=Or.inl ⟨by rfl,by intro w bK;(try dsimp only at bK);(have q0:=(HC.Z _ bK).2.2.1;go_simp)⟩);try go_frame
           refine tk 22 138 (.pointer (some ⟨t',0,none⟩)) aI ?_;try go_frame
           refine tk 23 139 (.pointer (some ⟨t',1,none⟩)) aI ?_;try go_frame
           refine tk 24 140 (.slice la' ln lc') aI ?_ (hy:=Or.inl ⟨by rfl,by intro w bK;(try dsimp only at bK);(have q0:=(HC.Z _ bK).2.2.2;go_simp)⟩);try go_frame
           refine eR [25] ?_;refine D7 141 λK hK=> ?_;go_simp;go_at_call 39;refine (KT.Z _ aI).mono ?_;rintro e w9 ⟨rfl,xA⟩;refine hK.Z _ _ (by exact aI.trans xA (λ_ _ e=>e)) (λbJ=> ?_);clear hK K;try go_frame
           refine tk 26 142 (.bool false) bJ ?_;try go_frame
           refine tk 27 143 (.bool false) bJ ?_;try go_frame
           refine wpAnyH_done (by kernel_rfl) ?_ _;have HG:=ae (lr.less (lr.G7 H6.Z bJ));clear ai aK aI bJ jf zY xA HC RL KS KT H6;go_wp2_with fail;refine Met.intro ?_;go_step;refine cM ?_ (by kernel_rfl);exact ⟨D5.Z,y,u,rfl,rfl,HG.Z⟩
    ·obtain rfl:k=len:=by omega
     have VW:=ae (show ak w0 wr from by obtain ⟨s,L,nx,st,t,j,b,u2,mp,q,t',v,lv,vL,P,S,h⟩:=ad4;exact h.own.keeps);clear ad4 aX hk XJ;go_wp2_with fail;refine Met.intro ?_;go_step;refine cM ?_ (by kernel_rfl);exact VW.Z
 case CE=>intro _ wc aU;obtain ⟨f2,hcut,ha⟩:=aU;subst ha;have HC:=ae hcut;clear hcut;go_wp2;go_ret;exact ⟨rfl,HC.Z⟩

end Go.Proofs.YtlcnhpjggjgnpaaGreatDoor