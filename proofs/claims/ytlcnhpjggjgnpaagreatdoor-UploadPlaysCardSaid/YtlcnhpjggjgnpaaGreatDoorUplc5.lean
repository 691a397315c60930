/- A part of the proof. -/
import Derived.Test.YtlcnhpjggjgnpaaGreatDoorUplc4
set_option linter.unusedSimpArgs false
set_option linter.unusedVariables false
set_option maxRecDepth 100000
set_option maxHeartbeats 2000000
namespace Go.Proofs.YtlcnhpjggjgnpaaGreatDoor
open Go.RowKit Go.MapKept
variable {W:World} {c k n nx:Nat} {fs:FS}
theorem DK.resume {s:DS} (h:DK s n c) (nm:aD) (x:UE):DK (ld s nm x).2.1 (n+2) (c+1):=by
 unfold ld;split
 ·exact h.close nm _ _
 ·split <;>exact h.mono (by omega) (by omega)
theorem CH {f:aD × aH} (hf:fs[k]?=some f) {hd:aD} (hb:cH f.1 hd=false):cY (fs.drop k) hd=cY (fs.drop (k+1)) hd:=by obtain ⟨hk,rfl⟩:=List.getElem?_eq_some_iff.1 hf;unfold cY;rw [pQ hk,K6,if_neg (by rw [hb];simp)]
theorem DV {f:aD × aH} (hf:fs[k]?=some f) {hd:aD} (hb:cH f.1 hd=true):cY (fs.drop k) hd=f.1::cY (fs.drop (k+1)) hd:=by obtain ⟨hk,rfl⟩:=List.getElem?_eq_some_iff.1 hf;unfold cY;rw [pQ hk,K6,if_pos hb,kz]
section
variable {w wr:World} {r q t u:Nat} {nm:aD} {s:DS} {v lv vL:Value} {next:Int} {P:List (eT × Value)} {S:List (Value × aH)} {rs:List (bB w.heap.size)}
def aaF (w:World) (r q t:Nat) (nm:aD) (rs:List (bB w.heap.size)) (nx:Nat) (res:Int × TM × List eT) (e:Ending) (w':World):Prop:=
 ∃ (s':DS) (v lv:Value),s'.tm=res.2.1/\
  ((¬res.1=0/\e= .returned (.tuple #[.pointer none,.int .i64 res.1])/\Own w w' (bZ r q t nm s' v lv++rs))\/
   (res.1=0/\∃ (u:Nat) (vL:Value) (P:List (eT × Value)) (S:List (Value × aH)),e= .returned (.tuple #[.pointer (some ⟨u,0,none⟩),.int .i64 0])/\P.map (·.1)=res.2.2/\mV S P/\Own w w' (bZ r q t nm s' v lv++(ay r t u (nx:Int) vL P S++rs))))
theorem Own.KA {A:List (bB w.heap.size)} (h:Own w W (bZ r q t nm s v lv++A)):(∃ F,dM F W lv s.fs)/\W.heap[t]?=some (ep q lv s.dn):=by have h0:Own w W (dw r s.m::aA q (fL r nm v)::gq v s.aQ::aA t (ep q lv s.dn)::kr lv s.fs::A):=h;exact ⟨h0.JX (v:=lv) (fs:=s.fs) (by simp),(h0.at (b:=t) (o:=ep q lv s.dn) (by simp)).1⟩
theorem NK {A:List (bB w.heap.size)} (h:Own w W (bZ r q t nm s v lv++A)) (hk:DK s n c) (hc:c<=900000) (k:aD):bF 136 #[.pointer (some ⟨t,0,none⟩),.string k] W (λe w'=>aar W s.fs k e/\w'=W):=by obtain ⟨⟨F,hp⟩,hb⟩:=h.KA;exact GR hp hb hk.ok.sorted (by have:=hk.len;omega) (λp hp=>by have:=(hk.ok.each p hp).2.1;unfold maxLen;omega) k
theorem Own.acg (h:Own w W (bZ r q t nm s v lv++rs)):Own w (W.alloc (kQ r t 1 (.slice none 0 0))) (bZ r q t nm s v lv++(ay r t W.heap.size 1 (.slice none 0 0) [] []++rs)):=by have h1:=(h.aae.Yw).alloc (kQ r t 1 (.slice none 0 0));refine h1.perm ?_;show ([aA W.heap.size (kQ r t 1 (.slice none 0 0)),Cn (.slice none 0 0) [],GD []]++(bZ r q t nm s v lv++rs)).Perm _;exact Bb _ _ _
theorem DW {w0:World} (h:Own w w0 (bZ r q t nm s v lv++rs)) (hk:DK s n c) {E:List UE} (hU:vq s.fs E nx) (hn:2*n+8*E.length+200 <549755813888) (hc:c+E.length+60<=900000): bF 83 #[.pointer (some ⟨r,0,none⟩),.pointer (some ⟨t,0,none⟩)] w0 (aaF w r q t nm rs nx (eZ s.tm nm E)):=by
 obtain ⟨R,hR⟩:=exp (eZ s.tm nm E);rw [hR];unfold eZ at hR;have h1:=h.acg;have H1:=ae h1;have HK:=ae hk;have HU:=ae hU;have HN:=ae (And.intro hn hc);have HR:=ae hR;have hg:=NK h1 hk (by omega) ⟨#[117]⟩;obtain ⟨w1,fh⟩:=cE (w0.alloc (kQ r t 1 (.slice none 0 0)));have HW:=ae fh;rw [<-fh] at H1 hg;obtain ⟨u,hu⟩:=cE (w0.heap.size);have HUU:=ae hu;rw [<-hu] at H1;have HG:=ae hg;clear h h1 hk hU hn hc hR hg fh hu;go_enter Tryz.func83,Tryz.ntmps83;go_wp2_with fail;rw [show w0.alloc (.cells #[.pointer (some ⟨r,0,none⟩),.pointer (some ⟨t,0,none⟩),.int .i64 1,.slice none 0 0] 99 (0,0))=w1 from HW.Z.symm,<-HUU.Z];refine HG.Z.mono ?_;rintro e w' ⟨⟨pv,rfl,gm⟩,rfl⟩;obtain ⟨pa,pc,rfl,-,-⟩:=gm.aG;have xo:=ae gm;clear gm HG HW HUU;obtain ⟨bb,xL⟩:=cE ((aZ s.fs ⟨#[117]⟩).isSome);rw [<-xL];have AQ:=ae xL;obtain ⟨vl,zk⟩:=cE ((aZ s.fs ⟨#[117]⟩).getD []);rw [<-zk] at xo ⊢;have Jj:=ae zk;clear xL zk;go_upto_if 32 with fail;refine wp_cut (λa' w'=>∃ f:Nat->Value,(Own w w' (bZ r q t nm s v lv++(ay r t u (nx:Int) (.slice none 0 0) [] []++rs)))/\a'=⟨(.pointer (some ⟨r,0,none⟩):: .pointer (some ⟨t,0,none⟩)::f 2::f 3::f 4::f 5:: .pointer (some ⟨u,0,none⟩)::f 7::f 8::f 9::f 10::f 11::f 12::f 13::f 14::f 15::f 16::f 17::f 18::f 19::f 20::f 21::f 22::f 23::f 24::f 25::f 26::f 27::f 28::f 29::f 30::f 31::f 32::f 33::f 34::f 35::f 36::f 37::f 38::f 39::f 40::f 41::f 42::f 43::f 44::f 45::f 46::f 47::f 48::f 49::f 50::f 51::f 52::f 53::f 54::f 55::f 56::f 57::f 58::f 59::f 60::f 61::f 62::f 63::f 64::f 65::f 66::f 67::f 68::f 69::f 70::f 71::f 72::f 73::f 74::f 75::f 76::f 77::f 78::f 79::f 80::f 81::f 82::f 83::f 84::f 85::f 86::f 87::f 88::f 89::f 90::f 91::f 92::f 93::f 94::f 95::f 96::f 97::f 98::f 99::f 100::f 101::f 102::f 103::f 104::f 105::f 106::f 107::f 108::f 109::f 110::f 111::f 112::f 113::f 114::f 115::f 116::f 117::f 118::f 119::f 120::f 121::f 122::f 123::f 124::f 125::f 126::f 127::f 128::f 129::f 130::f 131::f 132::f 133::f 134::f 135::f 136::f 137::f 138::f 139::[]:List Value).toArray,[]⟩) ?CE ?wL;case wL=>
  intro _ _ _ _
  as_aux_lemma=>
   rcases HU.Z.next with ⟨IP,gQ⟩ | ⟨IP,gQ⟩
   ·have ox:bb=false:=by rw [AQ.Z];have:aZ s.fs ⟨#[117]⟩=none:=IP;rw [this];rfl
    subst ox;subst gQ;clear IP AQ;go_wp2_with fail;refine Met.intro ?_;go_step;refine cM ?_ (by kernel_rfl);exact H1.Z
   ·have hf:aZ s.fs ⟨#[117]⟩=some (aL nx 8):=IP;have ox:bb=true:=by rw [AQ.Z,hf];rfl
    subst ox;have Yy:vl=aL nx 8:=by rw [Jj.Z,hf];rfl
    subst Yy;have MW:=re xo.Z (by rw [ax];exact eQ _);rw [eO 8 nx (by omega)] at MW;have YA:=ae MW;have g1:decide ((nx:Int) <1)=false:=decide_eq_false (by omega);have g2:decide ((4294967296:Int) <(nx:Int))=false:=decide_eq_false (by omega);have g3:IntKind.i64.wrap (nx:Int)=(nx:Int):=qi _ (by omega);clear IP AQ Jj hf MW xo gQ;go_wp2_with fail;refine YA.Z.mono ?_;rintro e w4 ⟨rfl,eA⟩;have h5:=H1.Z.quiet eA;obtain ⟨-,-,c2,-,cf⟩:=jI (h5.at (b:=u) (o:=kQ r t 1 (.slice none 0 0)) (by simp [ay])).1;have f2:=cf 2;have h6:=(Own.pull (l₁:=bZ r q t nm s v lv) h5).store 2 (.int .i64 (nx:Int));have h7:Own w (w4.setCell ⟨u,2,none⟩ (.int .i64 (nx:Int))) (bZ r q t nm s v lv++(ay r t u (nx:Int) (.slice none 0 0) [] []++rs)):=h6.perm (lO (l₁:=bZ r q t nm s v lv)).symm;have H7:=ae h7;clear h5 h6 h7 eA H1 YA cf;go_wp2_with fail;refine Met.intro ?_;go_step;refine cM ?_ (by kernel_rfl);exact H7.Z
 case CE=>
  intro _ wc aU;obtain ⟨f0,bt,ha⟩:=aU;subst ha;obtain ⟨⟨Fp,C4⟩,hbt⟩:=(Own.drew bt).KA;have c1:=(gT hbt).2.1;have kE:=DF C4 (by have:=HK.Z.len;have:=HN.Z;omega) p9 ⟨#[]⟩ (s.fs.length:Int);rw [HU.Z.ks] at kE;unfold p9 at kE;obtain ⟨la,lc,rfl,-,-⟩:=C4.aG;have TL:=ae kE;have H2:=ae (Own.drew bt);obtain ⟨ks,sL⟩:=cE (E.map (λx=>aq x.id));rw [<-sL] at TL;have qU:ks.length=E.length:=by rw [sL,io]
  have HKS:=ae sL;have Hi:=ae qU;clear bt C4 hbt kE H1 xo AQ Jj sL qU;go_upto_region 8 with fail;refine wp_region_held_drew (S:=(λW=>W.cell? ⟨t,1,none⟩=some (.slice la s.fs.length lc))) (by kernel_rfl) (by exact c1) (λai=> ?_);refine tk 0 53 (.pointer (some ⟨t,0,none⟩)) ai ?_;refine tk 1 54 (.pointer (some ⟨t,0,none⟩)) ai ?_;refine tk 2 55 (.pointer (some ⟨t,1,none⟩)) ai ?_;refine tk 3 56 (.slice la s.fs.length lc) ai ?_;refine tk 4 57 (.pointer (some ⟨t,0,none⟩)) ai ?_;refine tk 5 58 (.pointer (some ⟨t,0,none⟩)) ai ?_;refine tk 6 59 (.pointer (some ⟨t,1,none⟩)) ai ?_;refine tk 7 60 (.slice la s.fs.length lc) ai ?_;refine tk 8 61 (.int .i64 (s.fs.length:Int)) ai ?_;try go_frame
  refine eR [9] ?_;refine gH 62 λK hK=> ?_;go_simp;go_at_call 138;refine (TL.Z).mono ?_;rintro e w4 ⟨kv,rfl,bG,eA⟩;obtain ⟨ka,kc,rfl⟩:=bG.aG;have vU:=aJ ai eA;have H5:=ae ((H2.Z.GC bG eA).toEnd);clear bG eA H2 TL;rw [Hi.Z] at H5 ⊢;refine hK.Z _ _ (by exact vU) (λaK=> ?_);clear hK K;refine tk 10 11 (.slice ka E.length kc) aK ?_;try go_frame
  refine wpAnyH_done (by kernel_rfl) ?_ _;clear ai aK vU c1;go_upto_block 0 with fail;refine wp_cut (λa' w'=>∃ f:Nat->Value,(∃ (s':DS) (v lv vL:Value) (P:List (eT × Value)) (S:List (Value × aH)),dU nm E s.tm []=(0,s'.tm,P.map (·.1))/\DK s' (n+2*E.length) (c+E.length)/\mV S P/\Own w w' (bZ r q t nm s' v lv++(ay r t u (nx:Int) vL P S++(jb (.slice ka E.length kc) ks::rs))))/\a'=⟨(.pointer (some ⟨r,0,none⟩):: .pointer (some ⟨t,0,none⟩)::f 2::f 3::f 4::f 5:: .pointer (some ⟨u,0,none⟩)::f 7::f 8::f 9::f 10:: .slice ka E.length kc::f 12::f 13::f 14::f 15::f 16::f 17::f 18::f 19::f 20::f 21::f 22::f 23::f 24::f 25::f 26::f 27::f 28::f 29::f 30::f 31::f 32::f 33::f 34::f 35::f 36::f 37::f 38::f 39::f 40::f 41::f 42::f 43::f 44::f 45::f 46::f 47::f 48::f 49::f 50::f 51::f 52::f 53::f 54::f 55::f 56::f 57::f 58::f 59::f 60::f 61::f 62::f 63::f 64::f 65::f 66::f 67::f 68::f 69::f 70::f 71::f 72::f 73::f 74::f 75::f 76::f 77::f 78::f 79::f 80::f 81::f 82::f 83::f 84::f 85::f 86::f 87::f 88::f 89::f 90::f 91::f 92::f 93::f 94::f 95::f 96::f 97::f 98::f 99::f 100::f 101::f 102::f 103::f 104::f 105::f 106::f 107::f 108::f 109::f 110::f 111::f 112::f 113::f 114::f 115::f 116::f 117::f 118::f 119::f 120::f 121::f 122::f 123::f 124::f 125::f 126::f 127::f 128::f 129::f 130::f 131::f 132::f 133::f 134::f 135::f 136::f 137::f 138::f 139::[]:List Value).toArray,[]⟩) ?Ut ?NL;case NL=>
   intro _ _ _ _
   as_aux_lemma=>
    go_wp2_with fail;refine wp_loop (λa' w'=>∃ f:Nat->Value,(∃ (k:Nat) (s':DS) (v lv vL:Value) (P:List (eT × Value)) (S:List (Value × aH)),f 12= .int .i64 (k:Int)/\k<=E.length/\Vs nm E s.tm n n k s'.tm (P.map (·.1))/\DK s' (n+2*k) (c+k)/\mV S P/\P.length<=k/\Own w w' (bZ r q t nm s' v lv++(ay r t u (nx:Int) vL P S++(jb (.slice ka E.length kc) ks::rs))))/\a'=⟨(.pointer (some ⟨r,0,none⟩):: .pointer (some ⟨t,0,none⟩)::f 2::f 3::f 4::f 5:: .pointer (some ⟨u,0,none⟩)::f 7::f 8::f 9::f 10:: .slice ka E.length kc::f 12::f 13::f 14::f 15::f 16::f 17::f 18::f 19::f 20::f 21::f 22::f 23::f 24::f 25::f 26::f 27::f 28::f 29::f 30::f 31::f 32::f 33::f 34::f 35::f 36::f 37::f 38::f 39::f 40::f 41::f 42::f 43::f 44::f 45::f 46::f 47::f 48::f 49::f 50::f 51::f 52::f 53::f 54::f 55::f 56::f 57::f 58::f 59::f 60::f 61::f 62::f 63::f 64::f 65::f 66::f 67::f 68::f 69::f 70::f 71::f 72::f 73::f 74::f 75::f 76::f 77::f 78::f 79::f 80::f 81::f 82::f 83::f 84::f 85::f 86::f 87::f 88::f 89::f 90::f 91::f 92::f 93::f 94::f 95::f 96::f 97::f 98::f 99::f 100::f 101::f 102::f 103::f 104::f 105::f 106::f 107::f 108::f 109::f 110::f 111::f 112::f 113::f 114::f 115::f 116::f 117::f 118::f 119::f 120::f 121::f 122::f 123::f 124::f 125::f 126::f 127::f 128::f 129::f 130::f 131::f 132::f 133::f 134::f 135::f 136::f 137::f 138::f 139::[]:List Value).toArray,[]⟩) (λa' _=>E.length - (intOf (a'.tmps.getD 12 undef)).toNat) ?atStart ?round;case atStart=>refine cM ?_ (by kernel_rfl);exact ⟨0,s,v,_,_,[],[],rfl,fC _,Vs.start HU.Z HK.Z.tidy,HK.Z,λp hp=>by simp at hp,eQ _,H5.Z⟩
    case round=>
     intro _ wr aU;obtain ⟨f,hrel,ha⟩:=aU;subst ha;obtain ⟨k,s',v',xZ,vL,P,S,e12,hk,fK,A7,nQ,kL,bt⟩:=hrel;rw [e12];clear e12 H5;have k0:=np k;have p7:=ae fK;have Rx:=ae nQ;have Vf:=ae kL;by_cases aX:k <E.length
     ·obtain ⟨x,hx⟩:∃ x,E[k]?=some x:=⟨E[k],js aX⟩;have j2:(k:Int) <E.length:=by omega
      have i1:(E.length:Int)<=900000:=by have:=HN.Z;omega
      obtain ⟨g2,rfl,eh,-,-⟩:=(bt.strs (kv:= .slice ka E.length kc) (ks:=ks) (by simp)).cell (i:=k) (s:=aq x.id) (by rw [HKS.Z,jc,hx];rfl);have hxx:=HU.Z.each x (kx hx);have hgf:=fK.later k x (eQ _) hx;have hg:=NK bt A7 (by have:=HN.Z;omega) (aq x.id);have hgf:aZ s'.fs (aq x.id)=some (kP x):=hgf;unfold aar at hg;rw [hgf] at hg;have pE:=λ(vv:Value) (hv:aC wr vv (kP x))=>AU bt nQ (by have:=HN.Z;omega) A7 (by have:=HN.Z;omega) (by have:=HN.Z;omega) hxx hv;obtain ⟨rr,wm⟩:=cE (ld s' nm x);have NH:DK rr.2.1 (n+2*(k+1)) (c+(k+1)):=by rw [wm];exact (A7.resume nm x).mono (by omega) (by omega)
      rw [<-wm] at pE;have HG:=ae hg;have CQ:=ae pE;have EY:=ae wm;have HX:=ae hx;have kC:=ae aX;have Kw:=ae NH;obtain ⟨ky,kE⟩:=cE (aq x.id);rw [<-kE] at eh HG CQ;clear hx hgf hg pE wm aX A7 NH bt fK nQ kL hk kE hxx;go_wp2_with fail;refine HG.Z.mono ?_;rintro e w' ⟨⟨pv,rfl,gm⟩,rfl⟩;have xo:=ae (CQ.Z pv gm);obtain ⟨pa,pc,rfl,-,-⟩:=gm.aG;clear gm HG CQ;go_wp2_with fail;refine xo.Z.mono ?_;rintro e w5 ⟨rfl,v5,lv5,vL5,P5,S5,hP5,ach,h5⟩;have hdm:=Kz s' nm x;rw [<-EY.Z] at hdm;have H6:=ae h5;have HP5:=ae hP5;have ady:=ae ach;have HDM:=ae hdm;clear h5 hP5 ach hdm xo eh;obtain ⟨c1,s1,so⟩:=rr;dsimp only at HP5 H6 HDM Kw ⊢;by_cases hc:c1=0
      ·subst hc;have bG:=p7.Z.step HU.Z.each HU.Z.ids HX.Z (by rw [HDM.Z]);rw [HDM.Z] at bG;dsimp only at bG;rw [<-HP5.Z] at bG;have fP:=ae bG;have adz:=ae (show P5.length<=k+1 from by
        have h1:=congrArg List.length HP5.Z;have h2:=Vf.Z;rw [io,fS,io] at h1;cases so with
        | none=>simp at h1;omega
        | some y=>simp at h1;omega)
       clear bG p7 Vf Rx HP5 HDM EY HX;go_wp2_with fail;refine ⟨?_, ?measure⟩
       ·refine cM ?_ (by kernel_rfl);exact ⟨k+1,s1,v5,lv5,vL5,P5,S5,by simp,kC.Z,fP.Z,Kw.Z,ady.Z,adz.Z,H6.Z⟩
       case measure=>have:=kC.Z;simp [intOf];omega
      ·have sD:(c1 !=0)=true:=by simpa using hc
       have cK:aaF w r q t nm rs nx R (.returned (.tuple #[.pointer none,.int .i64 c1])) w5:=by
        have h1:=p7.Z.eq;rw [pb HX.Z,HDM.Z] at h1;dsimp only at h1;rw [if_neg hc] at h1;have h2:=HR.Z;rw [h1] at h2;dsimp only at h2;rw [if_neg hc] at h2;subst h2;refine ⟨s1,v5,lv5,rfl,.inl ⟨hc,rfl, ?_⟩⟩;have h4:Own w w5 (bZ r q t nm s1 v5 lv5++([]++((ay r t u (nx:Int) vL5 P5 S5++[jb (.slice (some ⟨g2,0,none⟩) E.length kc) ks])++rs))):=by rw [lN (ay r t u (nx:Int) vL5 P5 S5),pj];exact H6.Z
        exact Own.qR (B:=[]) h4
       have fk:=ae cK;clear cK hc p7 Vf Rx HP5 HDM EY HX HR H6;go_wp2;go_ret2;exact fk.Z
     ·obtain rfl:k=E.length:=by omega
      have h1:=fK.eq;rw [pR] at h1;have h1:dU nm E s.tm []=(0,s'.tm,P.map (·.1)):=h1;have HE1:=ae h1;have HO:=ae bt;have Kw:=ae A7;clear h1 bt A7 fK nQ kL hk aX;go_wp2_with fail;refine Met.intro ?_;go_step;refine cM ?_ (by kernel_rfl);exact ⟨s',v',xZ,vL,P,S,HE1.Z,Kw.Z,Rx.Z,HO.Z⟩
  case Ut=>
   intro _ wd aU;obtain ⟨f1,⟨s',v',xZ,vL,P,S,rC,A7,nQ,bt⟩,ha⟩:=aU;subst ha;clear H5;have bM:=HR.Z;rw [rC] at bM;dsimp only at bM;rw [if_pos rfl] at bM;unfold nh at bM;have wR:s'.tm.m=s'.m:=rfl;have AD:s'.tm.fs=s'.fs:=rfl;rw [wR,AD] at bM;have IP:=HN.Z;obtain ⟨na,nc,c1,c5,-⟩:=Own.aN (rs:=[_,_,_,_]++(ay r t u (nx:Int) vL P S++(jb (.slice ka E.length kc) ks::rs))) bt A7.tidy (by omega) ⟨#[]⟩;have HFC:=ae (show ∀ (k:Nat) (f:aD × aH),s'.m.aN[k]?=some f->∃ ng,na=some ⟨ng,0,none⟩/\∀ W,jo wd W->W.cell? ⟨ng,k*2,none⟩=some (.string f.1) from λk f hf=>by obtain ⟨F,⟨vn,vs,vl,Cf⟩,hFb⟩:=Own.head (rs:=[_,_,_,_]++(ay r t u (nx:Int) vL P S++(jb (.slice ka E.length kc) ks::rs))) bt;obtain ⟨ng,cap,p,Xj,hn0,-,-⟩:=Cf.aN.cell hf;have wj:=Cf.cells.c1;rw [Xj,c1] at wj;simp only [im,Value.slice.injEq,true_and] at wj;obtain ⟨rfl,rfl⟩:=wj;refine ⟨ng,rfl,λW hW=> ?_⟩;obtain ⟨ps,-,ho,-⟩:=Cf.aN;obtain ⟨cs,pS⟩:=dp ho (b:=ng) (by rw [Xj];rfl);exact (kK (hW ng cs pS)).trans hn0)
   have HO:=ae bt;have Kw:=ae A7;have Rx:=ae nQ;have uW:=ae bM;have Uu:=ae (show ∀ (W:World) (s1:DS) (v lv vL:Value) (P:List (eT × Value)) (S:List (Value × aH)),Own w W (bZ r q t nm s1 v lv++(ay r t u (nx:Int) vL P S++(jb (.slice ka E.length kc) ks::rs)))->Own w W (bZ r q t nm s1 v lv++rs) from λW s1 v lv vL P S hW=>by
    have h4:Own w W (bZ r q t nm s1 v lv++([]++((ay r t u (nx:Int) vL P S++[jb (.slice ka E.length kc) ks])++rs))):=by rw [lN (ay r t u (nx:Int) vL P S),pj];exact hW
    exact Own.qR (B:=[]) h4)
   clear bt A7 nQ bM rC HR wR AD IP;cases hd:s'.m.bh with
   | true=>
    rw [hd] at c5;have bM:=uW.Z;rw [hd,if_pos rfl] at bM;subst bM;clear uW c1 hd;go_wp2;go_ret2;exact ⟨s',v',xZ,rfl,.inl ⟨by simp,rfl,Uu.Z _ _ _ _ _ _ _ HO.Z⟩⟩
   | false=>
    rw [hd] at c5;have bM:=uW.Z;rw [hd,if_neg (by simp)] at bM;have HR:=ae bM;clear uW hd bM;obtain ⟨aN,SD⟩:=cE (s'.m.aN);rw [<-SD] at c1 HR HFC;have Vn:=ae (show aN.length<=n+2*E.length from by rw [SD];exact Kw.Z.tidy.AH);clear SD;go_upto_block 2 with fail;refine wp_cut (λa' w'=>∃ f:Nat->Value,(∃ (g:Nat) (m:DM),f 16= .bool (decide (0 <g))/\dt s'.fs (cY aN p9) s'.m 0=dt s'.fs [] m g/\Tidy m (n+2*E.length+aN.length) (n+2*E.length+aN.length)/\Own w w' (bZ r q t nm {s' with m:=m} v' xZ++(ay r t u (nx:Int) vL P S++(jb (.slice ka E.length kc) ks::rs))))/\a'=⟨(.pointer (some ⟨r,0,none⟩):: .pointer (some ⟨t,0,none⟩)::f 2::f 3::f 4::f 5:: .pointer (some ⟨u,0,none⟩)::f 7::f 8::f 9::f 10::f 11::f 12::f 13::f 14::f 15::f 16:: .slice na aN.length nc::f 18::f 19::f 20::f 21::f 22::f 23::f 24::f 25::f 26::f 27::f 28::f 29::f 30::f 31::f 32::f 33::f 34::f 35::f 36::f 37::f 38::f 39::f 40::f 41::f 42::f 43::f 44::f 45::f 46::f 47::f 48::f 49::f 50::f 51::f 52::f 53::f 54::f 55::f 56::f 57::f 58::f 59::f 60::f 61::f 62::f 63::f 64::f 65::f 66::f 67::f 68::f 69::f 70::f 71::f 72::f 73::f 74::f 75::f 76::f 77::f 78::f 79::f 80::f 81::f 82::f 83::f 84::f 85::f 86::f 87::f 88::f 89::f 90::f 91::f 92::f 93::f 94::f 95::f 96::f 97::f 98::f 99::f 100::f 101::f 102::f 103::f 104::f 105::f 106::f 107::f 108::f 109::f 110::f 111::f 112::f 113::f 114::f 115::f 116::f 117::f 118::f 119::f 120::f 121::f 122::f 123::f 124::f 125::f 126::f 127::f 128::f 129::f 130::f 131::f 132::f 133::f 134::f 135::f 136::f 137::f 138::f 139::[]:List Value).toArray,[]⟩) ?aci ?aaG;case aaG=>
     intro _ _ _ _
     as_aux_lemma=>
      go_wp2_with fail;refine wp_loop (λa' w'=>∃ f:Nat->Value,(∃ (k g:Nat) (m:DM),f 18= .int .i64 (k:Int)/\f 16= .bool (decide (0 <g))/\k<=aN.length/\dt s'.fs (cY aN p9) s'.m 0=dt s'.fs (cY (aN.drop k) p9) m g/\Tidy m (n+2*E.length+k) (n+2*E.length+k)/\jo wd w'/\Own w w' (bZ r q t nm {s' with m:=m} v' xZ++(ay r t u (nx:Int) vL P S++(jb (.slice ka E.length kc) ks::rs))))/\a'=⟨(.pointer (some ⟨r,0,none⟩):: .pointer (some ⟨t,0,none⟩)::f 2::f 3::f 4::f 5:: .pointer (some ⟨u,0,none⟩)::f 7::f 8::f 9::f 10::f 11::f 12::f 13::f 14::f 15::f 16:: .slice na aN.length nc::f 18::f 19::f 20::f 21::f 22::f 23::f 24::f 25::f 26::f 27::f 28::f 29::f 30::f 31::f 32::f 33::f 34::f 35::f 36::f 37::f 38::f 39::f 40::f 41::f 42::f 43::f 44::f 45::f 46::f 47::f 48::f 49::f 50::f 51::f 52::f 53::f 54::f 55::f 56::f 57::f 58::f 59::f 60::f 61::f 62::f 63::f 64::f 65::f 66::f 67::f 68::f 69::f 70::f 71::f 72::f 73::f 74::f 75::f 76::f 77::f 78::f 79::f 80::f 81::f 82::f 83::f 84::f 85::f 86::f 87::f 88::f 89::f 90::f 91::f 92::f 93::f 94::f 95::f 96::f 97::f 98::f 99::f 100::f 101::f 102::f 103::f 104::f 105::f 106::f 107::f 108::f 109::f 110::f 111::f 112::f 113::f 114::f 115::f 116::f 117::f 118::f 119::f 120::f 121::f 122::f 123::f 124::f 125::f 126::f 127::f 128::f 129::f 130::f 131::f 132::f 133::f 134::f 135::f 136::f 137::f 138::f 139::[]:List Value).toArray,[]⟩) (λa' _=>aN.length - (intOf (a'.tmps.getD 18 undef)).toNat) ?Uv ?aaH;case Uv=>refine cM ?_ (by kernel_rfl);exact ⟨0,0,s'.m,rfl,rfl,fC _,rfl,Kw.Z.tidy,λb gp hb=>rfl,HO.Z⟩
      case aaH=>
       intro _ wr aU;obtain ⟨f,hrel,ha⟩:=aU;subst ha;obtain ⟨k,g,m,e18,Xr,hk,Q1,Ba,uF,bt⟩:=hrel;rw [e18,Xr];clear e18 Xr;have k0:=np k;by_cases aX:k <aN.length
       ·obtain ⟨x,hx⟩:∃ x,aN[k]?=some x:=⟨aN[k],js aX⟩;have j2:(k:Int) <aN.length:=by omega
        have i1:(aN.length:Int)<=549755813888:=by have:=HN.Z;have:=Vn.Z;omega
        obtain ⟨ng,rfl,hfc⟩:=HFC.Z k x hx;have eh:=hfc wr uF;have hg:=NK bt (Kw.Z.lW Ba) (by have:=HN.Z;omega) x.1;have wP:=rG x.1 p9;unfold p9 at wP;have HG:=ae hg;have WR:=ae Q1;have HTD:=ae Ba;have kC:=ae aX;have iW:=ae (show k+1<=aN.length from aX);have HKF:=ae uF;have QP:=ae bt;have HX:=ae hx;clear hx hg Q1 Ba aX hk bt uF hfc;cases hb:cH x.1 p9 with
        | false=>
         have pg:cH x.1 ⟨#[117,47]⟩=false:=hb;have Vd:=ae (CH HX.Z hb);rw [pg] at wP;have HBG:=ae wP;clear wP hb pg HX;go_wp2_with fail;refine HG.Z.mono ?_;rintro e w' ⟨⟨pv,rfl,-⟩,rfl⟩;generalize (aZ {s' with m:=m}.fs x.1).isSome=ib;clear HG;go_wp2_with fail;refine gU (HBG.Z _).Z ?_;clear HBG;go_wp2_with fail;refine ⟨?_, ?measure⟩
         ·refine cM ?_ (by kernel_rfl);exact ⟨k+1,g,m,by simp,rfl,iW.Z,by rw [<-Vd.Z];exact WR.Z,HTD.Z.mono (by omega) (by omega),HKF.Z,QP.Z⟩
         case measure=>have:=kC.Z;simp [intOf];omega
        | true=>
         have pg:cH x.1 ⟨#[117,47]⟩=true:=hb;have Xs:=WR.Z;rw [DV HX.Z hb,dt] at Xs;rw [pg] at wP;have HBG:=ae wP;obtain ⟨ib,hib⟩:=cE ((aZ s'.fs x.1).isSome);rw [<-hib] at Xs;have Xt:=ae Xs;have GZ:=Own.Zq (rs:=[_,_,_,_]++(ay r t u (nx:Int) vL P S++(jb (.slice ka E.length kc) ks::rs))) QP.Z HTD.Z (by have:=HN.Z;have:=Vn.Z;have:=kC.Z;omega) (by have:=HN.Z;have:=Vn.Z;have:=kC.Z;omega) ⟨2,x.1,⟨#[]⟩,[]⟩ (by simp) (by simp) (pv:= .slice none 0 0) (λ_ w' _ _=>dH w');rw [gb] at GZ;obtain ⟨rm,sT⟩:=cE (aE m x.1);have HTR:=ae (show Tidy rm.2 (n+2*E.length+(k+1)) (n+2*E.length+(k+1)) from by rw [sT];exact HTD.Z.dZ x.1);rw [<-sT] at GZ;have aaI:=ae GZ;have HRM:=ae sT;have HIB:=ae (show (aZ {s' with m:=m}.fs x.1).isSome=ib from hib.symm);clear wP hb pg HX Xs hib GZ sT;go_wp2_with fail;refine HG.Z.mono ?_;rintro e w' ⟨⟨pv,rfl,-⟩,rfl⟩;rw [HIB.Z];clear HG HIB;cases ib with
         | true=>
          have h1:=Xt.Z;rw [if_pos rfl] at h1;have NM:=ae h1;clear h1 Xt aaI HRM HTR;go_wp2_with fail;refine gU (HBG.Z _).Z ?_;clear HBG;go_wp2_with fail;refine ⟨?_, ?measure⟩
          ·refine cM ?_ (by kernel_rfl);exact ⟨k+1,g,m,by simp,rfl,iW.Z,NM.Z,HTD.Z.mono (by omega) (by omega),HKF.Z,QP.Z⟩
          case measure=>have:=kC.Z;simp [intOf];omega
         | false=>
          have h1:=Xt.Z;rw [if_neg (by simp),<-HRM.Z] at h1;have NM:=ae h1;clear h1 Xt;go_wp2_with fail;refine gU (HBG.Z _).Z ?_;clear HBG;go_wp2_with fail;refine aaI.Z.mono ?_;rintro e w6 ⟨⟨rfl,h6⟩,acj⟩;have H6:=ae (show Own w w6 (bZ r q t nm {s' with m:=rm.2} v' xZ++(ay r t u (nx:Int) vL P S++(jb (.slice ka E.length kc) ks::rs))) from h6);have adA:=ae (show jo wd w6 from λb gp Pg=>(acj b gp ((HKF.Z b gp Pg).trans Pg)).trans (HKF.Z b gp Pg));clear h6 acj aaI QP eh HRM;obtain ⟨c1,m1⟩:=rm;dsimp only at H6 NM HTR ⊢;by_cases hc:c1=0
          ·subst hc;have h1:=NM.Z;rw [if_pos rfl] at h1;have adB:=ae h1;clear h1 NM;go_wp2_with fail;refine ⟨?_, ?measure⟩
           ·refine cM ?_ (by kernel_rfl);exact ⟨k+1,g+1,m1,by simp,by simp,iW.Z,adB.Z,HTR.Z,adA.Z,H6.Z⟩
           case measure=>have:=kC.Z;simp [intOf];omega
          ·have sD:(c1 !=0)=true:=by simpa using hc
           have cK:aaF w r q t nm rs nx R (.returned (.tuple #[.pointer none,.int .i64 c1])) w6:=by have h1:=NM.Z;rw [if_neg hc] at h1;have h2:=HR.Z;rw [h1] at h2;subst h2;exact ⟨{s' with m:=m1},v',xZ,rfl,.inl ⟨hc,rfl,Uu.Z _ _ _ _ _ _ _ H6.Z⟩⟩
           have fk:=ae cK;clear cK hc HR H6 NM;go_wp2;go_ret2;exact fk.Z
       ·obtain rfl:k=aN.length:=by omega
        have hz:cY (aN.drop aN.length) p9=[]:=by rw [pR];rfl
        rw [hz] at Q1;have WR:=ae Q1;have HTD:=ae Ba;have QP:=ae bt;clear hz Q1 Ba bt uF hk aX;go_wp2_with fail;refine Met.intro ?_;go_step;refine cM ?_ (by kernel_rfl);exact ⟨g,m,rfl,WR.Z,HTD.Z,QP.Z⟩
    case aci=>
     intro _ we aU;obtain ⟨f2,⟨g,m,Xr,Q1,Ba,bt⟩,ha⟩:=aU;subst ha;rw [Xr];have bM:=HR.Z;rw [Q1,uf] at bM;have wM:=ae bt;by_cases hg:0 <g
     ·rw [if_pos hg] at bM;rw [decide_eq_true hg];obtain ⟨w7,aT,h7⟩:=Own.vE (rs:=[_,_,_,_]++(ay r t u (nx:Int) vL P S++(jb (.slice ka E.length kc) ks::rs))) bt Ba;obtain ⟨sr,AP⟩:=cE (aV m);rw [<-AP] at aT h7 bM;have cV:=ae aT;have H7:=ae (show Own w w7 (bZ r q t nm {s' with m:=sr.2} v' xZ++(ay r t u (nx:Int) vL P S++(jb (.slice ka E.length kc) ks::rs))) from h7);have FW:=ae bM;clear hg aT h7 AP bM bt Q1 Ba wM HO HR Xr c1 c5 HFC;go_wp2_with fail;refine gU cV.Z.Z ?_;obtain ⟨c1,m1⟩:=sr;have bM:=FW.Z;dsimp only at bM H7 ⊢;subst bM;clear cV FW;by_cases hc:c1=0
      ·subst hc;go_wp2;go_ret2;exact ⟨{s' with m:=m1},v',xZ,rfl,.inr ⟨rfl,u,vL,P,S,rfl,rfl,Rx.Z,H7.Z.bR⟩⟩
      ·have sD:(c1 !=0)=true:=by simpa using hc
       have HC:=ae hc;clear hc;go_wp2;go_ret2;exact ⟨{s' with m:=m1},v',xZ,rfl,.inl ⟨HC.Z,rfl,Uu.Z _ _ _ _ _ _ _ H7.Z⟩⟩
     ·rw [if_neg hg] at bM;rw [decide_eq_false hg];subst bM;clear hg bt Q1 Ba HO HR Xr c1 c5 HFC;go_wp2;go_ret2;exact ⟨{s' with m:=m},v',xZ,rfl,.inr ⟨rfl,u,vL,P,S,rfl,rfl,Rx.Z,wM.Z.bR⟩⟩
end
section
variable {w wr:World} {r:Nat} {m:DM} {rs:List (bB w.heap.size)}
theorem Own.aaJ {q t:Nat} {nm:aD} {s:DS} {v lv:Value} {A:List (bB w.heap.size)} (h:Own w W (bZ r q t nm s v lv++A)):Own w W (dw r s.m::A):=by have h0:Own w W (dw r s.m::aA q (fL r nm v)::gq v s.aQ::aA t (ep q lv s.dn)::kr lv s.fs::A):=h;exact h0.swap.drop.swap.drop.swap.drop.swap.drop
def Xu (w:World) (r:Nat) (rs:List (bB w.heap.size)) (nx:Nat) (res:Int × DM × Option (TM × List eT)) (e:Ending) (w':World):Prop:=
 (res.2.2=none/\e= .returned (.tuple #[.pointer none,.int .i64 res.1])/\Own w w' (dw r res.2.1::rs))\/
 ∃ (T:TM) (L:List eT) (s:DS) (u q t:Nat) (v lv vL:Value) (P:List (eT × Value)) (S:List (Value × aH)),res.2.2=some (T,L)/\e= .returned (.tuple #[.pointer (some ⟨u,0,none⟩),.int .i64 0])/\s.tm=T/\P.map (·.1)=L/\mV S P/\
  Own w w' (bZ r q t bY s v lv++(ay r t u (nx:Int) vL P S++rs))
theorem vN {w0:World} (h:Own w w0 (dw r m::rs)) {n':Nat} (ht:Tidy m n n) (hn:n+67108890 <549755813888) (hd:m.bh=false) {E:List UE} (hU:(dC m).1=0->∀ size fs aQ,(bI (dC m).2 bY).tab=some (size,fs)->(ct (dC m).2 bY).res=some (aQ,size)->vq fs E nx/\(aj aQ).length=size/\∃ k c,DK ⟨(bI (dC m).2 bY).m,aQ,fs,false⟩ k c/\2*k+8*E.length+200 <549755813888/\c+E.length+60<=900000): bF 34 #[.pointer (some ⟨r,0,none⟩)] w0 (Xu w r rs nx (sj m E)):=by
 obtain ⟨R,hR⟩:=exp (sj m E);rw [hR];unfold sj at hR;obtain ⟨na,nc,c1,c5,fb⟩:=h.aN ht (by omega) l7;have GZ:=Own.nZ h ht (by omega) (by omega) ⟨2,l7,⟨#[]⟩,[]⟩ (by simp) (by simp) (pv:= .slice none 0 0) (λ_ w' _ _=>dH w');rw [gb] at GZ;have hbt:=ht.aav;obtain ⟨br,L5⟩:=cE (dC m);have Xv:=L5;unfold dC at Xv;rw [<-L5] at hR hU hbt;obtain ⟨rm,sT⟩:=cE (aE m l7);rw [<-sT] at GZ Xv;have T9:Tidy rm.2 (n+1) (n+1):=by rw [sT];exact ht.dZ l7
 have om:=ae (λ(W:World) (hW:Own w W (dw r rm.2::rs))=>Own.vE hW T9);have JY:=ae Xv;have HS:=ae GZ;have nN:=ae fb;have HR:=ae hR;have HU:=ae hU;have HT:=ae (And.intro hbt hn);have H0:=ae h;have gK:=nj m l7;rw [hd] at gK;have Ry:=ae gK;have AD:=eN m.aN l7;have HFS:=ae AD;clear fb GZ hR hU ht hn h L5 Xv sT T9 hbt gK AD c5;unfold l7 at nN HS;go_enter Tryz.func34,Tryz.ntmps34;go_wp2_with fail;refine gU nN.Z.Z ?_;go_upto_if 14 with fail;go_cut [5] from 14 to 24 (λ_ wx=>br.1=0/\Own w wx (dw r br.2::rs))
 case first=>
  rcases Ry.Z with ⟨e,-⟩ | ⟨-,e,e6⟩ | ⟨-,e,e0⟩
  ·cases e
  ·have hb:=JY.Z;rw [e6,if_pos rfl] at hb;have qk:dr m.aN l7 <0:=by have:=HFS.Z;rw [e] at this;simpa using this.symm
   have j1:¬(0:Int)<=dr m.aN ⟨#[98,43]⟩:=by have:dr m.aN ⟨#[98,43]⟩ <0:=qk;omega
   have HB:=ae hb;clear hb qk e e6 HS om;go_wp2;go_meet;exact ⟨by rw [HB.Z],by rw [HB.Z];exact H0.Z⟩
  ·have hb:=JY.Z;rw [e0,if_neg (by omega),if_pos rfl] at hb;have Bg:0<=dr m.aN l7:=by have:=HFS.Z;rw [e] at this;simp at this;exact this
   have j1:(0:Int)<=dr m.aN ⟨#[98,43]⟩:=Bg;have HB:=ae hb;clear hb Bg e e0 H0;go_wp2_with fail;refine HS.Z.mono ?_;rintro e w2 ⟨rfl,h2⟩;have H2:=ae h2;clear h2 HS c1;obtain ⟨ce,mm⟩:=rm;dsimp only at H2 HB om ⊢;by_cases hc:ce=0
   ·subst hc;have hb:=HB.Z;rw [if_pos rfl] at hb;obtain ⟨w3,aT,h3⟩:=om.Z _ H2.Z;rw [<-hb] at aT h3;have cV:=ae aT;have H3:=ae h3;clear hb aT h3 om H2 HB;go_wp2_with fail;refine gU cV.Z.Z ?_;obtain ⟨cb,mb⟩:=br;dsimp only at H3 HR ⊢;by_cases hc:cb=0
    ·subst hc;clear cV;go_wp2;go_meet;exact ⟨trivial,H3.Z⟩
    ·have sD:(cb !=0)=true:=by simpa using hc
     have hr:=HR.Z;rw [if_neg hc] at hr;subst hr;clear cV hc;go_wp2;go_ret2;exact .inl ⟨rfl,rfl,H3.Z⟩
   ·have hb:=HB.Z;rw [if_neg hc] at hb;have sD:(ce !=0)=true:=by simpa using hc
    have ad1:(ce==0)=false:=by simpa using hc
    subst hb;have hr:=HR.Z;dsimp only at hr;rw [if_neg hc] at hr;subst hr;clear hc om HB;go_wp2;go_ret2;exact .inl ⟨rfl,rfl,H2.Z⟩
 case rest=>
  obtain ⟨AW,bt⟩:=hcut;have hr:=HR.Z;rw [if_pos AW] at hr;have ph:=DJ bt HT.Z.1 (by have:=HT.Z.2;omega) (by have:=HT.Z.2;omega) bY (by decide);have hU:=HU.Z AW;have Nc:=ae (Ct (m:=br.2) (nm:=bY));obtain ⟨tr,T9⟩:=cE (bI br.2 bY);unfold rN at ph;rw [<-T9] at ph hr hU Nc;unfold bY at ph;have Gz:=ae ph;have uW:=ae hr;have YB:=ae hU;clear ph hr hU AW bt T9 H0 HS om JY HU HR nN Ry HFS HT;go_wp2_with fail;refine Gz.Z.mono ?_;rintro e w2 (⟨hs,rfl,h2⟩ | ⟨size,fs,aQ,q,t,v,lv,hs,py,rfl,h2⟩)
  ·have hr:=uW.Z;rw [hs] at hr;dsimp only at hr;subst hr;have sy:=Nc.Z.1 hs;have hnb:(tr.code !=0)=true:=by simpa using sy
   have H2:=ae h2;clear hs h2 sy Gz uW Nc YB;go_wp2;go_ret2;exact .inl ⟨rfl,rfl,H2.Z⟩
  ·have hr:=uW.Z;rw [hs] at hr;dsimp only at hr;have hc:=Nc.Z.2 _ hs;rw [hc];obtain ⟨q1,q2,k,c,q3,q4,q5⟩:=YB.Z size fs aQ hs py;subst q2;have ph:=DW (s:=⟨tr.m,aQ,fs,false⟩) (nm:=bY) h2 q3 q1 q4 q5;have wR:DS.tm ⟨tr.m,aQ,fs,false⟩=⟨tr.m,(aj aQ).length,fs,false⟩:=rfl;rw [wR] at ph;obtain ⟨ur,hur⟩:=cE (eZ ⟨tr.m,(aj aQ).length,fs,false⟩ bY E);rw [<-hur] at ph hr;have RJ:=ae ph;have FW:=ae hr;clear hs h2 hc py ph hr q1 q3 q4 q5 wR hur Nc Gz YB uW;go_wp2_with fail;refine RJ.Z.mono ?_;rintro e w3 ⟨s',v',xZ,wR,hh⟩;have hr:=FW.Z;rcases hh with ⟨hc,rfl,h3⟩ | ⟨hc,u,vL,P,S,rfl,hP,fK,h3⟩
   ·rw [if_neg hc] at hr;subst hr;have h4:=h3.aaJ;have hm:s'.m=ur.2.1.m:=congrArg TM.m wR;rw [hm] at h4;have H3:=ae h4;clear hc h3 h4 hm wR RJ FW;go_wp2;go_ret2;exact .inl ⟨rfl,rfl,H3.Z⟩
   ·rw [if_pos hc] at hr;subst hr;have HF:=ae (And.intro wR (And.intro hP (And.intro fK h3)));clear hc h3 wR hP fK RJ FW;go_wp2;go_ret2;exact .inr ⟨_,_,s',u,q,t,v',xZ,vL,P,S,rfl,rfl,HF.Z.1,HF.Z.2.1,HF.Z.2.2.1,HF.Z.2.2.2⟩
end
theorem Am (i:Nat):(aq i).toList=[117,47]++dA (aL i 4):=by unfold aq;simp [ByteArray.toList_eq]
theorem Rb {i j:Nat} (h:i <j) (hj:j <4294967296):pm (aq i) (aq j)=true:=by unfold pm;rw [Am,Am];exact Fk _ (Ak 4 i j h (by simpa using hj))
theorem UK.pos (h:UK fs n nx):1<=nx/\nx<=4294967296:=by
 rcases h.next with ⟨_,e⟩ | ⟨_,h1,h2⟩
 ·omega
 ·exact ⟨h1,h2⟩
theorem UK.mono {n':Nat} (h:UK fs n nx) (hn:n<=n'):UK fs n' nx:=
 ⟨λp hp hb=>by obtain ⟨x,h1,h2,h3⟩:=h.keys p hp hb;exact ⟨x,h1,h2,by omega⟩,h.next⟩
theorem OY {α β:Type} (f:α->β) (Q:α->Prop):∀ (l:List β),(∀ p ∈ l,∃ x,Q x/\p=f x)->∃ E:List α,l=E.map f/\∀ x ∈ E,Q x
 | [],_=>⟨[],rfl,by simp⟩
 | p::l,h=>by
  obtain ⟨x,hx,e⟩:=h p (gw ..);obtain ⟨E,e2,hE⟩:=OY f Q l (λq hq=>h q (nO _ hq));exact ⟨x::E,by rw [kz,<-e,<-e2],λy hy=>by
   rcases List.mem_cons.1 hy with rfl | hy
   ·exact hx
   ·exact hE y hy⟩
theorem UK.tab (h:UK fs n nx) (fK:ig fs):∃ E,vq fs E nx/\(∀ x ∈ E,x.id <n)/\(E.map (·.id)).Pairwise (· <·):=by
 obtain ⟨E,hE,hQ⟩:=OY (λx:UE=>(aq x.id,kP x)) (λx=>wI x/\x.id <n) (fs.filter (λp=>cH p.1 p9)) (λp hp=>by obtain ⟨h1,h2⟩:=List.mem_filter.1 hp;obtain ⟨x,q1,q2,q3⟩:=h.keys p h1 h2;exact ⟨x,⟨q1,q3⟩,q2⟩)
 refine ⟨E,⟨fK,hE,λx hx=>(hQ x hx).1,h.next⟩,λx hx=>(hQ x hx).2, ?_⟩;have hs:bp (E.map (λx:UE=>(aq x.id,kP x))):=by rw [<-hE];exact fK.sorted.filter _
 have og:=List.pairwise_map.1 hs;refine List.pairwise_map.2 (og.imp_of_mem (fun {a b} ha hb PE=> ?_));have ha2:=(hQ a ha).1.id1;rcases Nat.lt_trichotomy a.id b.id with aX | heq | QG
 ·exact aX
 ·exfalso;dsimp only at PE;rw [heq] at PE;exact absurd PE (by rw [lq];simp)
 ·exfalso;have h2:=Rb QG (by omega);have h3:=qE PE h2;dsimp only at h3;rw [lq] at h3;cases h3
theorem OZ {c:eX} {p:aD × aH} (h:p ∈ tdo fs c):p ∈ fs\/(c.gone=false/\p=(c.key,c.val)):=by
 unfold tdo at h;split at h
 ·exact .inl (List.mem_filter.1 h).1
 ·rename_i hg;have h2:=(gJ _ _).mem_iff.1 h;rcases List.mem_cons.1 h2 with e | h2
  ·exact .inr ⟨by simpa using hg,e⟩
  ·exact .inl (List.mem_filter.1 h2).1
theorem CI (hn:bX fs) {c:eX} {k:aD} (h:c.key≠k):aZ (tdo fs c) k=aZ fs k:=by
 unfold tdo;split
 ·exact ik _ _ _ h
 ·exact df hn _ _ _ h
def Xw (n:Nat) (c:eX):Prop:=c.key≠uB/\(cH c.key p9=true->c.gone=false->∃ x,wI x/\c.key=aq x.id/\c.val=kP x/\x.id <n)
theorem UK.one (h:UK fs n nx) (hn:bX fs) {c:eX} (hc:Xw n c):UK (tdo fs c) n nx:=by
 refine ⟨λp hp hb=> ?_, ?_⟩
 ·rcases OZ hp with hp | ⟨hg,e⟩
  ·exact h.keys p hp hb
  ·subst e;obtain ⟨x,h1,h2,h3,h4⟩:=hc.2 hb hg;exact ⟨x,h1,by rw [h2,h3],h4⟩
 ·rw [CI hn hc.1];exact h.next
theorem UK.all:∀ (l:List eX) {fs:FS} {n nx:Nat},UK fs n nx->bp fs->(∀ c ∈ l,Xw n c)->UK (en fs l) n nx
 | [],fs,n,nx,h,_,_=>h
 | c::l,fs,n,nx,h,hs,hc=>UK.all l (h.one hs.nodup (hc c (gw ..))) (hs.tdo c) (λx hx=>hc x (nO _ hx))
theorem UK.bump (h:UK fs n nx) (hn:bX fs) (hx:nx <4294967296):UK (tdo fs ⟨uB,false,aL (nx+1) 8⟩) n (nx+1):=by
 refine ⟨λp hp hb=> ?_,.inr ⟨?_,by omega,by omega⟩⟩
 ·rcases OZ hp with hp | ⟨_,e⟩
  ·exact h.keys p hp hb
  ·subst e;dsimp only at hb;rw [QY] at hb;cases hb
 ·unfold tdo;rw [if_neg (by simp)];exact gO hn _ _
theorem UK.start (h:UK fs nx nx) (hs:bp fs) (hx:nx <4294967296) {au:aD} {bo:Int} (hr:gf au=true) (ht:0<=bo/\bo<=1099511627776): UK (en fs [⟨aq nx,false,cD au bo.toNat []⟩,⟨uB,false,aL (nx+1) 8⟩]) (nx+1) (nx+1):=by have hp:=h.pos;have h1:UK (tdo fs ⟨aq nx,false,cD au bo.toNat []⟩) (nx+1) nx:=(h.mono (eM _)).one hs.nodup ⟨TU nx,λ_ _=>⟨⟨nx,au,bo,[]⟩,⟨hp.1,by show nx<=_;omega,hr,ht,.inl rfl⟩,rfl,rfl,Nat.lt_succ_self _⟩⟩;exact h1.bump (hs.tdo _).nodup hx
theorem UT.of (h1:ig fs) (h2:UK fs nx nx) (hl:fs.length<=8*k) (hk:200*nx<=k+100):UT fs k:=by exact ⟨h1,hl,nx,h2,hk⟩
theorem Uw (T:TM) (nm:aD) (l:List eX):((bL T nm l).1=0->(bL T nm l).2.fs=en T.fs l/\∀ c ∈ l,iF c=false)/\((bL T nm l).1≠0->(bL T nm l).2.fs=T.fs):=by
 unfold bL;by_cases hd:T.bh=true
 ·rw [if_pos hd];exact ⟨λe=>absurd (show (5:Int)=0 from e) (by omega),λ_=>rfl⟩
 rw [if_neg hd];by_cases he:(bP l).1=0
 ·rw [if_pos he];by_cases hj:(ci T.m nm T.size (bP l).2).1=0
  ·rw [if_pos hj];by_cases hs:(aV (ci T.m nm T.size (bP l).2).2.1).1=0
   ·rw [if_pos hs];exact ⟨λ_=>⟨rfl,(p6 he).2.2.1⟩,λe=>absurd rfl e⟩
   ·rw [if_neg hs];exact ⟨λe=>absurd e hs,λ_=>rfl⟩
  ·rw [if_neg hj];exact ⟨λe=>absurd e hj,λ_=>rfl⟩
 ·rw [if_neg he];exact ⟨λe=>absurd e he,λ_=>rfl⟩

end Go.Proofs.YtlcnhpjggjgnpaaGreatDoor