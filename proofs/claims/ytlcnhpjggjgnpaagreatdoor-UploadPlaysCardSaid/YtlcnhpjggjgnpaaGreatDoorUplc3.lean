/- A part of the proof. -/
import Derived.Test.YtlcnhpjggjgnpaaGreatDoorUplb4
import Derived.Test.YtlcnhpjggjgnpaaGreatDoorUplb8
import Derived.Test.YtlcnhpjggjgnpaaGreatDoorUplc2
set_option linter.unusedSimpArgs false
set_option linter.unusedVariables false
set_option maxRecDepth 100000
set_option maxHeartbeats 1000000
namespace Go.Proofs.YtlcnhpjggjgnpaaGreatDoor
open Go.RowKit Go.MapKept
theorem OX (A B:aH) (hA:A.length=32) (hB:B.length=32) (W:World):(Op.equalIn 10000 24 (.agg (A.map dF).toArray) (.agg (B.map dF).toArray)).run Tryz.prog W= .ok (decide (A=B)) W:=by
 obtain ⟨i0,hi,rS,iH,jO⟩:=info_parts jN;have h:=run_equalIn_array (P:=Tryz.prog) W 9999 (t:=24) (e:=5) (n:=32) (i:=i0) (A.map dF).toArray (B.map dF).toArray (by kernel_rfl) hi;rw [Jr] at h;obtain ⟨r,hr,S3⟩:=BT A B W (List.range 32) (λi hm=>by rw [List.mem_range] at hm;omega);have gm:r=decide (A=B):=by rw [Fz,S3,decide_eq_true_iff];exact ⟨λrC=>Ow hA hB rC,λe i _=>by rw [e]⟩
 rw [gm] at hr;exact h.trans hr
section
variable {w wr:World} {r:Nat} {m:DM} {rs:List (bB w.heap.size)}
theorem Ks (h:Own w wr (dw r m::rs)) {n t:Nat} (ht:Tidy m n t) (mN:t <549755813888) (s:aD):aW 208 #[.pointer (some ⟨r,0,none⟩),.string s] wr (.bool (aZ m.aN s).isSome) wr:=by
 obtain ⟨na,nc,c1,-,hf⟩:=h.aN ht mN s;rw [eN];unfold aW;have HF:=ae hf;obtain ⟨b,hb⟩:=cE (decide (dr m.aN s <0));rw [<-hb];generalize dr m.aN s=z at HF hb;clear h ht mN hf;have hh:decide ((0:Int)<=z)=!b:=by
  rw [hb];by_cases h0:z <0
  ·rw [decide_eq_true h0,decide_eq_false (by omega)];rfl
  ·rw [decide_eq_false h0,decide_eq_true (by omega)];rfl
 have HH:=ae hh;clear hb hh;go_enter Tryz.func208,Tryz.ntmps208;go_wp2_with fail;refine gU HF.Z.Z ?_;go_wp2;go_ret;exact ⟨congrArg (λx=>Ending.returned (Value.bool x)) HH.Z,rfl⟩
theorem nj (m:DM) (f:aD):(m.bh=true/\aF m f=5)\/(m.bh=false/\(aZ m.aN f).isSome=false/\aF m f=6)\/(m.bh=false/\(aZ m.aN f).isSome=true/\aF m f=0):=by
 unfold aF;cases m.bh with
 | true=>exact .inl ⟨rfl,rfl⟩
 | false=>
  cases (aZ m.aN f).isSome with
  | false=>exact .inr (.inl ⟨rfl,rfl,rfl⟩)
  | true=>exact .inr (.inr ⟨rfl,rfl,rfl⟩)
def aay (r bd ng k:Nat) (nl nc:Nat) (cl:List Value) (pv:Value) (W:World):Prop:=
 (W.cell? ⟨r,1,none⟩=some (.slice (some ⟨ng,0,none⟩) nl nc)/\W.cell? ⟨ng,k*2+1,none⟩=some pv)/\W.rangeAt bd 0 cl
theorem Cv {w0:World} (h:Own w w0 (dw r m::rs)) {n t:Nat} (ht:Tidy m n t) (hn:n+10 <549755813888) (mN:t+10 <549755813888) (nm:aD) {dg:aH} (hl:dg.length=32): bF 183 #[.pointer (some ⟨r,0,none⟩),.string nm,.agg (dg.map dF).toArray] w0 (tH w r rs (cT m nm dg)):=by
 obtain ⟨cl,dI⟩:∃ cl:List Value,cl=dg.map dF:=⟨_,rfl⟩;have HI:=ae (show (Tryz.prog.info? 24).map (·.size)=some cl.length by rw [dI,io,hl];kernel_rfl);obtain ⟨R,hR⟩:=exp (cT m nm dg);rw [hR];unfold cT at hR;have h1:=(h.mJ (.cells cl.toArray 24));obtain ⟨na,nc,c1,c5,fb⟩:=h1.aN ht (by omega) nm;have Cw:=ae (show ∀ W,bF 209 #[.agg cl.toArray] W (bH W (.string (aY dg))) from λW=>by rw [dI];exact Jy W dg hl);have Ue:=ae (show ∀ W (M:List (bB w.heap.size)) (s:aD),Own w W (dw r m::M)->aW 208 #[.pointer (some ⟨r,0,none⟩),.string s] W (.bool (aZ m.aN s).isSome) W from λW M s hW=>Ks hW ht (by omega) s);have ot:=ae (show ∀ W (M:List (bB w.heap.size)),Own w W (dw r m::M)->bF 80 #[.pointer (some ⟨r,0,none⟩),.agg #[.int .i64 2,.string nm,.string ⟨#[]⟩,.slice none 0 0]] W (tH w r M (aE m nm)) from λW M hW=>by have:=hW.nZ ht (by omega) (by omega) ⟨2,nm,⟨#[]⟩,[]⟩ (by simp) (by simp) (pv:= .slice none 0 0) (λ_ w' _ _=>dH w');rw [gb] at this;exact this)
 have Kt:=ae (show ∀ W (M:List (bB w.heap.size)),Own w W (dw r m::M)->bF 80 #[.pointer (some ⟨r,0,none⟩),.agg #[.int .i64 3,.string nm,.string (aY dg),.slice none 0 0]] W (tH w r M (bw m nm (aY dg))) from λW M hW=>by have:=hW.nZ ht (by omega) (by omega) ⟨3,nm,aY dg,[]⟩ (by simp) (by simp) (pv:= .slice none 0 0) (λ_ w' _ _=>dH w');rw [lD] at this;exact this)
 have om:=ae (show ∀ W (M:List (bB w.heap.size)) (m2:DM) (k:Nat),Tidy m2 (n+k) (t+k)->Own w W (dw r m2::M)->∃ w',aW 81 #[.pointer (some ⟨r,0,none⟩)] W (.int .i64 (aV m2).1) w'/\Own w w' (dw r (aV m2).2::M) from λW M m2 k h2 hW=>hW.vE h2);have HT:=ae ht;rcases nj m nm with ⟨hd,he⟩ | ⟨hd,hg,he⟩ | ⟨hd,hg,he⟩
 ·rw [he,if_neg (by decide)] at hR;rw [hd] at c5;subst hR;have H1:=ae h1;clear h h1 ht hn mN hl fb c1 hd he Ue ot Kt om Cw HI;rw [<-dI];clear dI;go_enter Tryz.func183,Tryz.ntmps183;go_wp2;go_ret;exact ⟨rfl,H1.Z.swap.drop⟩
 ·rw [he,if_neg (by decide)] at hR;rw [hd] at c5;subst hR;have qk:dr m.aN nm <0:=by rw [eN] at hg;simpa using hg
  have H1:=ae h1;have nN:=ae fb;generalize dr m.aN nm=z at nN qk;rw [<-dI];clear h h1 ht hn mN hl fb hg hd he Ue ot Kt om Cw HI dI;go_enter Tryz.func183,Tryz.ntmps183;go_wp2_with fail;refine gU nN.Z.Z ?_;go_wp2;go_ret;exact ⟨rfl,H1.Z.swap.drop⟩
 ·rw [he,if_pos rfl] at hR;rw [hd] at c5;obtain ⟨k,hk,uF⟩:=mM hg;obtain ⟨F,QO,hFb⟩:=h1.head;obtain ⟨vn,vs,vl,Cf⟩:=QO;obtain ⟨ng,cap,p,Xj,-,cp,hB⟩:=Cf.aN.cell uF;have wj:=Cf.cells.c1;rw [Xj,c1] at wj;simp only [im,Value.slice.injEq,true_and] at wj;obtain ⟨rfl,rfl⟩:=wj;have hBr:aC (w0.alloc (.cells cl.toArray 24)) p (cW m nm):=hB.reads;obtain ⟨pa,pc,rfl,-,-⟩:=hBr.aG;have kg:(cW m nm).length<=67108864:=ht.dQ.get nm;have sG:=ae (show ∀ W,ak (w0.alloc (.cells cl.toArray 24)) W->bF 90 #[.slice pa (cW m nm).length pc] W (bH W (.agg ((ei (cW m nm)).map dF).toArray)) from λW hW=>rO (hBr.keep hW) (by omega));have qU:=(List.getElem?_eq_some_iff.1 uF).1;have heq:=λW=>OX (ei (cW m nm)) dg (dz _) hl W;obtain ⟨sm,kW⟩:∃ sm:List Value,sm=(ei (cW m nm)).map dF:=⟨_,rfl⟩;rw [<-kW,<-dI] at heq;rw [<-kW] at sG;obtain ⟨bb,xL⟩:=cE (decide (ei (cW m nm)=dg));rw [<-xL] at heq;have AQ:=ae xL;have hS:aay r w0.heap.size ng k m.aN.length nc cl (.slice pa (cW m nm).length pc) (w0.alloc (.cells cl.toArray 24)):=⟨⟨c1,cp⟩,(h1.drop.range (b:=w0.heap.size) (cl:=cl) (t:=24) (by simp))⟩;have HS:=ae hS;rw [hk] at fb;have j0:=np k;have j2:(k:Int) <m.aN.length:=by omega
  have H1:=ae h1;have nN:=ae fb;have HR:=ae hR;generalize (cW m nm).length=pl at sG HS cp;have XW:=ae (λ(k:Nat)=>nj m (aY dg));generalize pD:aY dg=fl at HR XW Cw Kt;rw [<-dI];clear h h1 ht hn mN fb hg he Cf Xj hB hBr uF hk qU kW xL hS hR hl dI hFb kg pD;go_enter Tryz.func183,Tryz.ntmps183;go_wp2_with fail;generalize w0.alloc (.cells cl.toArray 24)=w1 at H1 HS nN sG c1 c5 cp ⊢;generalize w0.heap.size=bd at H1 HS ⊢;refine nN.Z.Z.mono ?_;rintro e w' ⟨rfl,rfl⟩;go_upto_region 6 with fail;refine wp_region_held_drew (S:=aay r bd ng k m.aN.length nc cl (.slice pa pl pc)) (by kernel_rfl) (by exact ⟨⟨by have:=HS.Z.1.1;exact this,by have:=HS.Z.1.2;exact this⟩,by have:=HS.Z.2;exact this⟩) (λai=> ?_);have H2:=ae H1.Z.drew;have Eu:=ae ai;clear H1 HS nN;refine tk 0 21 (.pointer (some ⟨r,0,none⟩)) ai ?_;refine tk 1 22 (.pointer (some ⟨r,0,none⟩)) ai ?_;refine tk 2 23 (.pointer (some ⟨r,1,none⟩)) ai ?_;refine tk 3 24 (.slice (some ⟨ng,0,none⟩) m.aN.length nc) ai ?_ (hy:=Or.inl ⟨by rfl,by intro w bK;(try dsimp only at bK);(have q0:=bK.1.1;go_simp)⟩);refine tk 4 25 (.int .i64 (k:Int)) ai ?_;refine tk 5 26 (.pointer (some ⟨ng,k*2,none⟩)) ai ?_;refine tk 6 27 (.pointer (some ⟨ng,k*2+1,none⟩)) ai ?_;refine tk 7 28 (.slice pa pl pc) ai ?_ (hy:=Or.inl ⟨by rfl,by intro w bK;(try dsimp only at bK);(have q0:=bK.1.2;go_simp)⟩);try go_frame
  refine D8 9 30 (.agg (cl).toArray) rfl (by kernel_rfl) (by kernel_rfl) (by kernel_rfl) (λ_ _ _ h=>h) (yieldsIf_load_mid (by rfl) _ _ rfl (bd) (0) rfl (cl) _ (λw' hk=>hk.2) Tryz.underlying24 rfl HI.Z) ai ?_;try go_frame
  refine eR [8] ?_;refine gH 29 λK hK=> ?_;go_simp;go_at_call 90;refine (sG.Z _ (ah.refl _ _).drew).mono ?_;rintro e w3 ⟨rfl,dN⟩;have H3:=ae (H2.Z.quiet dN);have HS3:=ae (show aay r bd ng k m.aN.length nc cl (.slice pa pl pc) w3 from ⟨⟨aJ Eu.Z.1.1 dN,aJ Eu.Z.1.2 dN⟩,H3.Z.drop.range (b:=bd) (cl:=cl) (t:=24) (by simp)⟩);clear dN;refine hK.Z _ _ (by exact HS3.Z) (λaK=> ?_);clear hK K;refine tk 10 31 (.bool (!bb)) aK ?_;try go_frame
  refine wpAnyH_done (by kernel_rfl) ?_ _;clear sG H2 Eu ai aK c1 c5 cp;cases bb with
  | false=>
   have bM:=HR.Z;rw [if_neg (of_decide_eq_false AQ.Z.symm)] at bM;subst bM;clear HR heq;go_wp2;go_ret;exact ⟨rfl,H3.Z.swap.drop⟩
  | true=>
   have bM:=HR.Z;rw [if_pos (of_decide_eq_true AQ.Z.symm)] at bM;have HR:=ae bM;have HB:=ae (H3.Z.at (b:=bd) (o:= .cells cl.toArray 24) (by simp)).1;clear bM heq AQ;go_wp2_with (first | (refine wpList_load_row rfl 24 _ rfl bd rfl 24 cl.toArray (0,0) _ HB.Z Tryz.underlying24 rfl HI.Z ?_));refine (Cw.Z _).mono ?_;rintro e w4 ⟨rfl,eA⟩;have H4:=ae (H3.Z.quiet eA);have HHS:=ae (Ue.Z _ _ fl H4.Z);clear eA H3 HB HS3;rcases XW.Z 0 with ⟨q,-⟩ | ⟨-,q,gK⟩ | ⟨-,q,gK⟩
   ·rw [hd] at q;cases q
   ·rw [q] at HHS;have bM:=HR.Z;rw [gK,if_neg (by decide)] at bM;have HB:=ae (H4.Z.at (b:=bd) (o:= .cells cl.toArray 24) (by simp)).1;have Dv:=ae (show Tidy (bw m nm fl).2 (n+1) (t+1) from HT.Z.rename nm fl);generalize yi:bw m nm fl=rn at bM Kt Dv;have HR:=ae bM;obtain ⟨c2,m2⟩:=rn;dsimp only at Dv Kt;clear bM gK q yi ot Ue hd;go_wp2_with fail;refine gU HHS.Z.Z ?_;go_wp2_with (first | (refine wpList_load_row rfl 24 _ rfl bd rfl 24 cl.toArray (0,0) _ HB.Z Tryz.underlying24 rfl HI.Z ?_));refine (Cw.Z _).mono ?_;rintro e w5 ⟨rfl,fB⟩;have Uf:=ae (Kt.Z _ _ (H4.Z.quiet fB));clear fB H4 Kt Cw HB HHS;go_wp2_with fail;refine Uf.Z.mono ?_;rintro e w6 ⟨rfl,h6⟩;dsimp only at h6 ⊢;by_cases hc:c2=0
    ·subst hc;have bM:=HR.Z;rw [if_pos rfl] at bM;subst bM;obtain ⟨w7,pJ,h7⟩:=om.Z _ _ m2 1 Dv.Z h6;have Nz:=ae pJ;have H7:=ae h7;clear h6 pJ h7 HR om Uf;go_wp2_with fail;refine gU Nz.Z.Z ?_;go_wp2;go_ret;exact ⟨rfl,H7.Z.swap.drop⟩
    ·have bM:=HR.Z;rw [if_neg hc] at bM;subst bM;have b1:(c2==0)=false:=by simpa using hc
     have H6:=ae h6;clear h6 HR om Uf hc;go_wp2;go_ret;exact ⟨rfl,H6.Z.swap.drop⟩
   ·rw [q] at HHS;have bM:=HR.Z;rw [gK,if_pos rfl] at bM;have Dv:=ae (show Tidy (aE m nm).2 (n+1) (t+1) from HT.Z.dZ nm);have Ku:=ae (ot.Z _ _ H4.Z);generalize yi:aE m nm=rn at bM Ku Dv;have HR:=ae bM;obtain ⟨c2,m2⟩:=rn;dsimp only at Dv Ku;clear bM gK q yi Kt ot Ue hd Cw H4;go_wp2_with fail;refine gU HHS.Z.Z ?_;go_wp2_with fail;refine Ku.Z.mono ?_;rintro e w6 ⟨rfl,h6⟩;dsimp only at h6 ⊢;by_cases hc:c2=0
    ·subst hc;have bM:=HR.Z;rw [if_pos rfl] at bM;subst bM;obtain ⟨w7,pJ,h7⟩:=om.Z _ _ m2 1 Dv.Z h6;have Nz:=ae pJ;have H7:=ae h7;clear h6 pJ h7 HR om Ku;go_wp2_with fail;refine gU Nz.Z.Z ?_;go_wp2;go_ret;exact ⟨rfl,H7.Z.swap.drop⟩
    ·have bM:=HR.Z;rw [if_neg hc] at bM;subst bM;have b1:(c2==0)=false:=by simpa using hc
     have H6:=ae h6;clear h6 HR om Ku hc;go_wp2;go_ret;exact ⟨rfl,H6.Z.swap.drop⟩
end
theorem Aj:∀ {a b:aH} (x y:aH),a.length=b.length->Op.bytesLess a b=true->Op.bytesLess (a++x) (b++y)=true
 | [],[],x,y,_,h=>by simp [Op.bytesLess] at h
 | [],_::_,x,y,h,_=>by simp at h
 | _::_,[],x,y,h,_=>by simp at h
 | c::a,d::b,x,y,hl,h=>by
  simp only [Op.bytesLess,FA,Be,qV] at h ⊢;rcases h with h | ⟨h1,h2⟩
  ·exact .inl h
  ·exact .inr ⟨h1,Aj x y (by simpa using hl) h2⟩
theorem Fk (a:aH) {x y:aH} (h:Op.bytesLess x y=true):Op.bytesLess (a++x) (a++y)=true:=by
 induction a with
 | nil=>exact h
 | cons c a ih=>simp only [Op.bytesLess,FA,Be,qV];exact .inr ⟨by simp,ih⟩
theorem Fl:∀ a:Nat,a <16->∀ b:Nat,b <16->a <b->gB a <gB b:=by decide+kernel
theorem Q3 {x y:Nat} (h:x <y) (hy:y <256):Op.bytesLess [gB (x / 16),gB (x % 16)] [gB (y / 16),gB (y % 16)]=true:=by
 simp only [Op.bytesLess,FA,Be,decide_eq_true_eq,beq_iff_eq];by_cases h1:x / 16 <y / 16
 ·exact .inl (Fl _ (by omega) _ (by omega) h1)
 ·exact .inr ⟨by rw [show x / 16=y / 16 by omega],.inl (Fl _ (by omega) _ (by omega) (by omega))⟩
theorem Ak:∀ (s i j:Nat),i <j->j <256 ^ s->Op.bytesLess (dA (aL i s)) (dA (aL j s))=true
 | 0,i,j,h,hj=>by simp at hj;omega
 | s+1,i,j,h,hj=>by
  have hx:∀ n:Nat,dA (aL n (s+1))=dA (aL (n / 256) s)++[gB (n % 256 / 16),gB (n % 256 % 16)]:=λn=>by rw [aL,oh];congr 1;simp [dA]
  rw [hx,hx];by_cases hd:i / 256 <j / 256
  ·exact Aj _ _ (by simp [fU,ax]) (Ak s _ _ hd (by rw [Nat.pow_succ] at hj;omega))
  ·rw [show i / 256=j / 256 by omega];exact Fk _ (Q3 (by omega) (by omega))

end Go.Proofs.YtlcnhpjggjgnpaaGreatDoor