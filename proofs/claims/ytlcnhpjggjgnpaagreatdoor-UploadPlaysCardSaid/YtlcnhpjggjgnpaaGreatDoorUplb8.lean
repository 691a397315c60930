/- A part of the proof. -/
import Derived.Test.YtlcnhpjggjgnpaaGreatDoorUplb3
import Derived.Test.YtlcnhpjggjgnpaaGreatDoorUplb6
set_option linter.unusedSimpArgs false
set_option linter.unusedVariables false
set_option maxRecDepth 100000
set_option maxHeartbeats 1000000
namespace Go.Proofs.YtlcnhpjggjgnpaaGreatDoor
open Go.RowKit Go.MapKept
variable {dn:Bool} {lv:Value} {m:DM} {n q t:Nat} {w:World} {rs:List (bB w.heap.size)}
def ep (q:Nat) (lv:Value) (dn:Bool):Obj:= .cells #[.pointer (some ⟨q,0,none⟩),lv,.bool dn] 95 (0,0)
def OQ {B:Nat} (r q t:Nat) (nm:aD) (m:DM) (aQ:List aH) (v lv:Value) (fs:FS) (dn:Bool):List (bB B):=
 [dw r m,aA q (fL r nm v),gq v aQ,aA t (ep q lv dn),kr lv fs]
def rN (w:World) (r:Nat) (nm:aD) (rs:List (bB w.heap.size)) (m:DM) (e:Ending) (w':World):Prop:=
 ((bI m nm).tab=none/\e= .returned (.tuple #[.pointer none,.int .i64 (bI m nm).code])/\Own w w' (dw r (bI m nm).m::rs))\/
 ∃ (size:Nat) (fs:FS) (aQ:List aH) (q t:Nat) (v lv:Value),(bI m nm).tab=some (size,fs)/\(ct m nm).res=some (aQ,size)/\e= .returned (.tuple #[.pointer (some ⟨t,0,none⟩),.int .i64 (bI m nm).code])/\
  Own w w' (OQ r q t nm (bI m nm).m aQ v lv fs false++rs)
theorem gT {wr:World} (h:wr.heap[t]?=some (ep q lv dn)):wr.cell? ⟨t,0,none⟩=some (.pointer (some ⟨q,0,none⟩))/\wr.cell? ⟨t,1,none⟩=some lv/\wr.cell? ⟨t,2,none⟩=some (.bool dn)/\∀ i,wr.frozen? ⟨t,i,none⟩=false:=
 ⟨ag (i:=0) h rfl,ag (i:=1) h rfl,ag (i:=2) h rfl,λi=>cL h i⟩
theorem DJ {w0:World} {r:Nat} (h:Own w w0 (dw r m::rs)) (ht:Tidy m n t) (hn:n+67108880 <549755813888) (mN:t+67108880 <549755813888) (nm:aD) (qf:nm.size<=65536): bF 82 #[.pointer (some ⟨r,0,none⟩),.string nm] w0 (rN w r nm rs m):=by
 have ph:=J9 h ht hn mN nm qf;have py:=B7 m nm;have Dw:=λl u=>Fb (l:=l) (u:=u) ht.dQ nm;have Gz:=ae ph;have xM:=ae py;have adn:=ae Dw;obtain ⟨T,hT⟩:=exp (bI m nm);have HT:=ae hT;obtain ⟨P,hP⟩:=exp (rN w r nm rs m);have HP:=ae hP;unfold rN at HP;rw [hT] at HP;rw [hP];go_enter Tryz.func82,Tryz.ntmps82;go_wp2_with fail;refine Gz.Z.mono ?_;rintro e w1 (⟨hr,rfl,h1⟩ | ⟨aQ,used,q,v,hr,rfl,h1⟩)
 ·have hc:((ct m nm).code !=0)=true:=by simpa using xM.Z.1 hr
  have HF:=ae (show P (.returned (.tuple #[.pointer none,.int .i64 (ct m nm).code])) w1 by have ht:=HT.Z;unfold bI at ht;rw [hr] at ht;simp only at ht;rw [<-HP.Z,<-ht];exact .inl ⟨rfl,rfl,h1⟩)
  generalize (ct m nm).code=rc at hc HF ⊢;go_wp2_with fail;exact HF.Z
 ·obtain ⟨hc,Az⟩:=xM.Z.2 aQ used hr;obtain ⟨-,hu,xI⟩:=adn.Z aQ used hr;have abZ:=ue aQ;have Ly:=ae Az;have HNR:=ae (show aQ.length<=67108864 by omega);have Dv:=ae (show T=match iG aQ [] with | none=>⟨200,(ct m nm).m,none⟩ | some fs=>⟨0,(ct m nm).m,some (used,fs)⟩ by rw [<-HT.Z];unfold bI;rw [hr];rfl);rw [hc];obtain ⟨-,va,vc,rfl⟩:=h1.rows (v:=v) (ll:=aQ) (by simp);have hh:=((h1.alloc (ep q (.slice none 0 0) false)).Tz);rw [hr] at HP;generalize (ct m nm).m=m1 at hh Dv;have HH:=ae hh;have i0:=np aQ.length;have i1:(aQ.length:Int)<=67108864:=by omega
  have hqc:=h1.at (b:=q) (o:=fL r nm (.slice va aQ.length vc)) (by simp);obtain ⟨-,-,qc,-⟩:=jC hqc.1;have qc2:(w1.alloc (ep q (.slice none 0 0) false)).cell? ⟨q,2,none⟩=some (.slice va aQ.length vc):=aJ qc ((ah.refl _ w1).alloc _);unfold ep at qc2;go_wp2_with fail;go_loopw [9] (λiv wx=>∃ (k:Nat) (fs:FS) (lv:Value),k<=aQ.length/\iv= .int .i64 (k:Int)/\iG aQ []=iG (aQ.drop k) fs/\bp fs/\fs.length<=256*k/\Own w wx (kr lv fs::aA w1.heap.size (ep q lv false)::dw r m1::aA q (fL r nm (.slice va aQ.length vc))::gq (.slice va aQ.length vc) aQ::rs)) (λiv _=>aQ.length - (intOf iv).toNat);case atStart=>exact ⟨0,[],_,fC _,rfl,rfl,bp.nil,fC _,HH.Z⟩
  case round=>
   obtain ⟨k,fs,lv,hk,rfl,aU,OR,pD,ho⟩:=hrel;have k0:=np k;obtain ⟨-,-,qc,-⟩:=jC (ho.at (b:=q) (o:=fL r nm (.slice va aQ.length vc)) (by simp)).1;by_cases aX:k <aQ.length
   ·obtain ⟨rec,Dw⟩:∃ rec,aQ[k]?=some rec:=⟨aQ[k],js aX⟩;obtain ⟨⟨_,_,e,zA⟩,_⟩:=ho.rows (v:= .slice va aQ.length vc) (ll:=aQ) (by simp);cases e;obtain ⟨x,p,rfl,hx,hp⟩:=zA k rec Dw;have kL:=Ly.Z rec (kx Dw);rw [B6 Dw] at aU;have HDC:=ae (DD hp (by omega));obtain ⟨pa,pc,rfl,-,-⟩:=hp.aG;have k1:(k:Int) <aQ.length:=by omega
    have bN:k+1<=aQ.length:=by omega
    have iK:=ae aU;have HO:=ae ho;have HSO:=ae OR;have TT:=ae pD;go_wp2_with fail;refine HDC.Z.mono ?_;rintro e w2 ⟨cv,rfl,cg,qe⟩;cases hd:ja rec with
    | none=>
     have aU:=iK.Z;rw [hd] at aU;have HF:=ae (show P (.returned (.tuple #[.pointer none,.int .i64 200])) w2 by rw [<-HP.Z,Dv.Z,aU];exact .inl ⟨rfl,rfl,((HO.Z.quiet cg).drop.drop.oG.oG)⟩)
     simp only [O7];go_wp2_with fail;exact HF.Z
    | some l=>
     have aU:=iK.Z;rw [hd] at aU;have jP:=qe l hd;obtain ⟨la,lc,rfl⟩:=jP.aG;obtain ⟨zp,og⟩:=zW hd;have dy:=HO.Z.quiet cg;obtain ⟨-,tc,-,tf⟩:=gT (dy.at (b:=w1.heap.size) (o:=ep q lv false) (by simp)).1;have pD:=TT.Z;have vB:=dy.rdo (c:=lc) HSO.Z jP.ins (by omega) (λx hx=>by have:=(zp x hx).1;omega);have uG:=ae vB;have sg:=ae aU;have Eu:=ae (bp.en l HSO.Z);have HL2:=ae (show (en fs l).length<=256*(k+1) by have:=nI l fs;omega);obtain ⟨F,OI⟩:=dy.JX (v:=lv) (fs:=fs) (by simp);obtain ⟨lva,lvc,rfl,-,-⟩:=OI.aG;simp only [RT];go_wp2_with fail;refine uG.Z.mono ?_;rintro e w3 ⟨v3,rfl,h3⟩;obtain ⟨-,tc3,-,tf3⟩:=gT (h3.at (b:=w1.heap.size) (o:=ep q (.slice lva fs.length lvc) false) (by simp)).1;have tf1:=tf3 1;obtain ⟨F,OI⟩:=h3.JX (v:=v3) (fs:=en fs l) (by simp);obtain ⟨l3a,l3c,rfl,-,-⟩:=OI.aG;have h4:=(h3.swap.store 1 (.slice l3a (en fs l).length l3c)).swap;have dE:=ae (⟨k+1,en fs l,_,bN,rfl,sg.Z,Eu.Z,HL2.Z,h4⟩:∃ (k':Nat) (WD:FS) (xZ:Value),k'<=aQ.length/\Value.int .i64 ((k+1:Nat):Int)= .int .i64 (k':Int)/\iG aQ []=iG (aQ.drop k') WD/\bp WD/\WD.length<=256*k'/\Own w (w3.setCell ⟨w1.heap.size,1,none⟩ (.slice l3a (en fs l).length l3c)) (kr xZ WD::aA w1.heap.size (ep q xZ false)::dw r m1::aA q (fL r nm (.slice (some x) aQ.length vc))::gq (.slice (some x) aQ.length vc) aQ::rs));go_wp2;go_roundw;case rel=>exact dE.Z
     case measure=>simp [intOf];omega
   ·obtain rfl:k=aQ.length:=by omega
    rw [pR,iG] at aU;have HF:=ae (show P (.returned (.tuple #[.pointer (some ⟨w1.heap.size,0,none⟩),.int .i64 0])) wr by rw [<-HP.Z,Dv.Z,aU];exact .inr ⟨used,fs,aQ,q,_,_,lv,rfl,rfl,rfl,ho.perm (RQ (l₁:=[_,_]) (l₂:=[_,_,_]) |>.append_right rs |>.trans (((oe ..).append_left [_,_,_])))⟩)
    go_wp2_with fail;exact HF.Z
def ni (m:DM) (nm:aD) (aQ:List aH) (fs:FS) (dn:Bool) (l:List eX):Int × DM × List aH × FS × Bool:=
 if dn=true then (5,m,aQ,fs,dn)
 else if (bP l).1=0 then
  (if (eI m nm aQ (bP l).2).1=0 then
   (if (aV (eI m nm aQ (bP l).2).2.1).1=0 then (0,(aV (eI m nm aQ (bP l).2).2.1).2,(eI m nm aQ (bP l).2).2.2,en fs l,false)
    else ((aV (eI m nm aQ (bP l).2).2.1).1,(aV (eI m nm aQ (bP l).2).2.1).2,(eI m nm aQ (bP l).2).2.2,fs,(aV (eI m nm aQ (bP l).2).2.1).1==5))
   else ((eI m nm aQ (bP l).2).1,(eI m nm aQ (bP l).2).2.1,(eI m nm aQ (bP l).2).2.2,fs,(eI m nm aQ (bP l).2).1==5))
 else ((bP l).1,m,aQ,fs,(bP l).1==5)
def qO (w:World) (r q u:Nat) (nm:aD) (rs:List (bB w.heap.size)) (R:Int × DM × List aH × FS × Bool) (e:Ending) (w':World):Prop:=
 e= .returned (.int .i64 R.1)/\∃ v lv,Own w w' (OQ r q u nm R.2.1 R.2.2.1 v lv R.2.2.2.1 R.2.2.2.2++rs)
theorem GQ (h:Tidy m n t) (nm:aD) (aQ:List aH) (p:aH):Tidy (eI m nm aQ p).2.1 (n+1) (t+1):=by
 unfold eI;split
 ·exact h.mono (by omega) (by omega)
 ·split <;>exact (h.append nm (bu p)).mono (by omega) (by omega)
theorem Own.OS {wr:World} {x y z p:bB w.heap.size} {u:Nat} (h:Own w wr (x::y::z::aA u (ep q lv dn)::p::rs)) (dn':Bool): Own w (wr.setCell ⟨u,2,none⟩ (.bool dn')) (x::y::z::aA u (ep q lv dn')::p::rs):=
 ((Own.pull (l₁:=[x,y,z]) h).store 2 (.bool dn')).perm (lO (l₁:=[x,y,z])).symm
theorem Cm {w0:World} {r u:Nat} {nm:aD} {aQ:List aH} {v:Value} {fs:FS} (h:Own w w0 (OQ r q u nm m aQ v lv fs dn++rs)) (ht:Tidy m n t) (hn:n+8 <549755813888) (mN:t+8 <549755813888) (Az:aQ.length <1099511627776) (OR:bp fs) {a:Option Addr} {c:Nat} {l:List eX} (hm:∀ (wr:World) (ls:List (bB w.heap.size)),Own w wr (ls++rs)->fu wr a l) (wY:l.length<=c) (hc:c<=maxLen) (pD:fs.length+256 <1099511627775): bF 142 #[.pointer (some ⟨u,0,none⟩),.slice a l.length c] w0 (qO w r q u nm rs (ni m nm aQ fs dn l)):=by
 have h0:Own w w0 (dw r m::aA q (fL r nm v)::gq v aQ::aA u (ep q lv dn)::kr lv fs::rs):=h;obtain ⟨F,OI⟩:=h0.JX (v:=lv) (fs:=fs) (by simp);obtain ⟨la,lc,rfl,-,-⟩:=OI.aG;obtain ⟨R,hR⟩:=exp (ni m nm aQ fs dn l);have HR:=ae hR;rw [hR];unfold ni at HR;obtain ⟨c0,-,c2,cf⟩:=gT (h0.at (b:=u) (o:=ep q (.slice la fs.length lc) dn) (by simp)).1;have H0:=ae h0;have HT:=ae ht;have HEN:=ae (DE (hm w0 [_,_,_,_,_] h0) wY hc);have HM:=ae hm;have HN:=ae (show n+9<=549755813888/\t+9<=549755813888 by omega);have Ly:=ae (show aQ.length<=1099511627775 by omega);have HSO:=ae OR;have TT:=ae (show fs.length+257<=1099511627775 by omega);cases dn with
 | true=>
  rw [if_pos rfl] at HR;have HF:=ae (show qO w r q u nm rs R (.returned (.int .i64 5)) w0 by rw [<-HR.Z];exact ⟨rfl,_,_,H0.Z⟩);go_enter Tryz.func142,Tryz.ntmps142;go_wp2;go_ret;exact HF.Z
 | false=>
  rw [if_neg (by simp)] at HR;go_enter Tryz.func142,Tryz.ntmps142;go_wp2_with fail;refine HEN.Z.mono ?_;rintro e w1 ⟨ev,rfl,hv,hk⟩;obtain ⟨ea,ec,rfl,-,-⟩:=hv.bytes.aG;have h1:Own w w1 (dw r m::aA q (fL r nm v)::gq v aQ::aA u (ep q (.slice la fs.length lc) false)::kr (.slice la fs.length lc) fs::bS (.slice ea (bP l).2.length ec) (bP l).2::rs):=
   (H0.Z.ix hv hk).perm (lO (l₁:=[_,_,_,_,_])).symm
  obtain ⟨t10,-,t12,tf⟩:=gT (h1.at (b:=u) (o:=ep q (.slice la fs.length lc) false) (by simp)).1;have t1f:=tf 2;have H1:=ae h1;by_cases he:(bP l).1=0
  ·rw [if_pos he] at HR;have AF:=ae (Ci (p:=(bP l).2) H1.Z HT.Z (by have:=HN.Z;omega) (by have:=HN.Z;omega) (by have:=Ly.Z;omega) (λwr ls h=>(h.bytes (v:= .slice ea (bP l).2.length ec) (l:=(bP l).2) (by simp)).1));have Dv:=ae (GQ HT.Z nm aQ (bP l).2);have HE:=ae (p6 he);generalize eI m nm aQ (bP l).2=A at HR AF Dv;rw [he];generalize (bP l).2=rec at AF ⊢;obtain ⟨ac,am,ar⟩:=A;dsimp only at HR Dv;go_wp2_with fail;refine AF.Z.mono ?_;rintro e w2 ⟨rfl,v2,h2⟩;dsimp only at h2;obtain ⟨t20,-,t22,tf⟩:=gT (h2.at (b:=u) (o:=ep q (.slice la fs.length lc) false) (by simp)).1;have t2f:=tf 2;obtain ⟨r20,-,-,-⟩:=jC (h2.at (b:=q) (o:=fL r nm v2) (by simp)).1;have H2:=ae h2;dsimp only;by_cases hac:ac=0
   ·subst hac;rw [if_pos rfl] at HR;obtain ⟨w3,pJ,h3⟩:=H2.Z.vE Dv.Z;have om:=ae pJ;generalize aV am=S at HR om h3;obtain ⟨sc,sm⟩:=S;dsimp only at HR h3;obtain ⟨t30,t31,t32,tf⟩:=gT (h3.at (b:=u) (o:=ep q (.slice la fs.length lc) false) (by simp)).1;have t3f:=tf 2;have H3:=ae h3;go_wp2_with fail;refine om.Z.Z.mono ?_;rintro e w' ⟨rfl,rfl⟩;dsimp only;by_cases hsc:sc=0
    ·subst hsc;rw [if_pos rfl] at HR;have h3p:Own w w3 (kr (.slice la fs.length lc) fs::aA u (ep q (.slice la fs.length lc) false)::dw r sm::aA q (fL r nm v2)::gq v2 ar::rs):=
      ((Own.pull (l₁:=[_,_,_,_,_]) H3.Z).drop.perm ((RQ (l₁:=[_,_,_]) (l₂:=[_,_])).append_right rs)).swap
     have vB:=h3p.rdo (c:=c) HSO.Z (HM.Z w3 [_,_,_,_,_] h3p) (by have:=TT.Z;have:=HE.Z.1;omega) (λx hx=>by have:=(lI (HE.Z.2.2.1 x hx)).2.2;omega);have uG:=ae vB;go_wp2_with fail;refine uG.Z.mono ?_;rintro e w4 ⟨v4,rfl,h4⟩;obtain ⟨F,OI⟩:=h4.JX (v:=v4) (fs:=en fs l) (by simp);obtain ⟨l4a,l4c,rfl,-,-⟩:=OI.aG;obtain ⟨t40,t41,t42,tf⟩:=gT (h4.at (b:=u) (o:=ep q (.slice la fs.length lc) false) (by simp)).1;have t4f:=tf 1;have h5:Own w (w4.setCell ⟨u,1,none⟩ (.slice l4a (en fs l).length l4c)) (dw r sm::aA q (fL r nm v2)::gq v2 ar::aA u (ep q (.slice l4a (en fs l).length l4c) false)::kr (.slice l4a (en fs l).length l4c) (en fs l)::rs):=
      (h4.swap.store 1 (.slice l4a (en fs l).length l4c)).perm ((RQ (l₁:=[_,_]) (l₂:=[_,_,_])).append_right rs)
     have HF:=ae (show qO w r q u nm rs R (.returned (.int .i64 0)) ((w4.setCell ⟨u,1,none⟩ (.slice l4a (en fs l).length l4c)).setCell ⟨u,2,none⟩ (.bool false)) by rw [<-HR.Z];exact ⟨rfl,_,_,h5.OS _⟩);obtain ⟨t50,t51,t52,tf5⟩:=gT (h5.at (b:=u) (o:=ep q (.slice l4a (en fs l).length l4c) false) (by simp)).1;have t5f:=tf5 2;go_wp2;go_ret;exact HF.Z
    ·rw [if_neg hsc] at HR;have EU:(sc==0)=false:=by simpa using hsc
     have HF:=ae (show qO w r q u nm rs R (.returned (.int .i64 sc)) (w3.setCell ⟨u,2,none⟩ (.bool (sc==5))) by rw [<-HR.Z];exact ⟨rfl,_,_,(Own.pull (l₁:=[_,_,_,_,_]) H3.Z).drop.OS _⟩);go_wp2;go_ret;exact HF.Z
   ·rw [if_neg hac] at HR;have EU:(ac==0)=false:=by simpa using hac
    have HF:=ae (show qO w r q u nm rs R (.returned (.int .i64 ac)) (w2.setCell ⟨u,2,none⟩ (.bool (ac==5))) by rw [<-HR.Z];exact ⟨rfl,_,_,(Own.pull (l₁:=[_,_,_,_,_]) H2.Z).drop.OS _⟩);go_wp2;go_ret;exact HF.Z
  ·rw [if_neg he] at HR;have EU:((bP l).1==0)=false:=by simpa using he
   have HF:=ae (show qO w r q u nm rs R (.returned (.int .i64 (bP l).1)) (w1.setCell ⟨u,2,none⟩ (.bool ((bP l).1==5))) by rw [<-HR.Z];exact ⟨rfl,_,_,(Own.pull (l₁:=[_,_,_,_,_]) H1.Z).drop.OS _⟩);generalize (bP l).1=ec1 at EU HF ⊢;go_wp2;go_ret;exact HF.Z
theorem x8:∀ (a b:List aH) (fs:FS),iG (a++b) fs=match iG a fs with | none=>none | some WD=>iG b WD
 | [],b,fs=>rfl
 | r::a,b,fs=>by
  simp only [qV,iG];cases ja r with
  | none=>rfl
  | some l=>exact x8 a b _
theorem Kh (rs:List aH) (p:aH):aj (rs++[p])=aj rs++bu p:=by rw [lg];simp [aj]
theorem WY:bj bY≠bY:=by
 intro h;have h1:(bj bY).size=2:=by decide+kernel
 have h2:bY.size=1:=by decide+kernel
 rw [h,h2] at h1;cases h1
theorem Nk (l:List eX):(bP l).1≠5:=by
 have:∀ (l:List eX) (o:aH),(dR l o).1≠5:=by
  intro l;induction l with
  | nil=>intro o;simp [dR]
  | cons c l ih=>
   intro o;rw [dR];split
   ·simp
   ·split
    ·simp
    ·exact ih _
 unfold bP;split
 ·simp
 ·exact this l _
theorem Nl {a:Option Addr} {c:Nat} {l:List eX} (h:fu w a l) (hl:l.length<=1099511627775) (hv:∀ x ∈ l,x.val.length<=140737488355328):bF 91 #[.slice a l.length c] w (MM w l):=by
 have H:=ae h;have HV:=ae hv;have i0:(l.length:Int)<=1099511627775:=by omega
 have HL:=ae hl;go_enter Tryz.func91,Tryz.ntmps91;go_wp2_with fail;go_loopw [3,8] (λov iv wx=>∃ k:Nat,k<=l.length/\iv= .int .i64 (k:Int)/\eG 109 w.heap.size wx ov (l.take k)/\ak w wx) (λ_ iv _=>l.length - (intOf iv).toNat);case atStart=>exact ⟨0,fC _,rfl,by rw [Au];exact eG.nil _ _ _,ah.refl _ _⟩
 case round=>
  obtain ⟨k,hk,rfl,ho,hq⟩:=hrel;have k0:=np k;obtain ⟨oa,on,oc,rfl⟩:=ho.JT;by_cases aX:k <l.length
  ·obtain ⟨ch,sQ⟩:∃ ch,l[k]?=some ch:=⟨l[k],js aX⟩;have E0:l.take (k+1)=l.take k++[ch]:=by obtain ⟨_,he⟩:=List.getElem?_eq_some_iff.1 sQ;rw [wS aX,he]
   obtain ⟨x,p,rfl,c0,c1,c2,hp⟩:=(H.Z.keep hq).cells sQ;have zk:=HV.Z ch (kx sQ);obtain ⟨key,gone,val⟩:=ch;dsimp only at c0 c1 c2 hp zk;obtain ⟨pa,pc,rfl,_,_⟩:=hp.aG;have j2:(k:Int) <l.length:=by omega
   have bN:k+1<=l.length:=by omega
   have hB:=heap_alloc_new wr (.cells #[.string key,.bool gone,.slice pa val.length pc] 162);have Wm:ak wr (wr.alloc (.cells #[.string key,.bool gone,.slice pa val.length pc] 162)).drew:=((ah.refl _ wr).alloc _).drew;have yH:=ae (fO (hp.keep Wm) zk);have OT:(l.take k).length=k:=by rw [nM];omega
   have vy:=λ(w1:World) (tv:Value) (yX:ak (wr.alloc (.cells #[.string key,.bool gone,.slice pa val.length pc] 162)).drew w1) (ht:bC w1 wr.heap.size tv val)=>eG.push (T:=109) (Ts:=124) mh Tryz.underlying124 (by decide) (c:=⟨key,gone,val⟩) ho hq.size (Wm.trans yX (λ_ _ e=>e)) ht (by have:=HL.Z;omega);rw [<-E0] at vy;have bt:∀ b,(Value.slice oa on oc).ownBlock=some b->b <wr.heap.size:=λb hb=>by obtain ⟨ps,g1,g2,g3⟩:=ho;exact (g2.lt b hb).2
   have aap:∀ (w1:World) (tv:Value),ak (wr.alloc (.cells #[.string key,.bool gone,.slice pa val.length pc] 162)).drew w1->bC w1 (wr.alloc (.cells #[.string key,.bool gone,.slice pa val.length pc] 162)).drew.heap.size tv val->
     ∃ a' n' k' w',(Builtin.append_ #[124,124] 124 #[.slice oa on oc,.slice (some ⟨w1.heap.size,0,none⟩) 1 1]).run Tryz.prog (w1.alloc (.cells #[.string key,.bool gone,tv] 109))= .ok (.slice a' n' k') w'/\eG 109 w.heap.size w' (.slice a' n' k') (l.take (k+1))/\ak w w'/\(w1.cell? ⟨wr.heap.size,0,none⟩=some (.string key)/\w1.cell? ⟨wr.heap.size,1,none⟩=some (.bool gone)/\w1.cell? ⟨wr.heap.size,2,none⟩=some (.slice pa val.length pc))/\
     ((w1.alloc (.cells #[.string key,.bool gone,tv] 109)).cell? ⟨wr.heap.size,0,none⟩=some (.string key)/\(w1.alloc (.cells #[.string key,.bool gone,tv] 109)).cell? ⟨wr.heap.size,1,none⟩=some (.bool gone)/\(w1.alloc (.cells #[.string key,.bool gone,tv] 109)).cell? ⟨wr.heap.size,2,none⟩=some (.slice pa val.length pc))/\
     (w'.cell? ⟨wr.heap.size,0,none⟩=some (.string key)/\w'.cell? ⟨wr.heap.size,1,none⟩=some (.bool gone)/\w'.cell? ⟨wr.heap.size,2,none⟩=some (.slice pa val.length pc)):=λw1 tv sR ht=>by
    obtain ⟨a',k',w',aT,jP,uX,pg⟩:=vy w1 tv sR (ht.base (by show wr.heap.size<=(wr.alloc _).heap.size;rw [World.size_alloc];omega));have XQ:w1.heap[wr.heap.size]?=some (.cells #[.string key,.bool gone,.slice pa val.length pc] 162 (0,0)):=sR.at (w:=(wr.alloc _).drew) hB (λe=>e);have uV:(w1.alloc (.cells #[.string key,.bool gone,tv] 109)).heap[wr.heap.size]?=some (.cells #[.string key,.bool gone,.slice pa val.length pc] 162 (0,0)):=((ah.refl (λ_=>False) w1).alloc _).at XQ (λe=>e);have Yl:=uX.at XQ (λe=>by have:=bt _ e;omega);exact ⟨a',_,k',w',aT,jP,((hq.trans Wm (λ_ _ e=>e)).trans sR (λ_ _ e=>e)).trans uX (λb hb e=>by have:=pg b e;omega),⟨ag XQ rfl,ag XQ rfl,ag XQ rfl⟩,⟨ag uV rfl,ag uV rfl,ag uV rfl⟩,⟨ag Yl rfl,ag Yl rfl,ag Yl rfl⟩⟩
   have MO:=ae aap;have HS:=ae (show (wr.alloc (.cells #[.string key,.bool gone,.slice pa val.length pc] 162)).drew.cell? ⟨wr.heap.size,0,none⟩=some (.string key)/\(wr.alloc (.cells #[.string key,.bool gone,.slice pa val.length pc] 162)).drew.cell? ⟨wr.heap.size,1,none⟩=some (.bool gone)/\(wr.alloc (.cells #[.string key,.bool gone,.slice pa val.length pc] 162)).drew.cell? ⟨wr.heap.size,2,none⟩=some (.slice pa val.length pc) from ⟨ag (i:=0) hB rfl,ag (i:=1) hB rfl,ag (i:=2) hB rfl⟩);go_wp2_with fail;generalize wr.alloc (.cells #[.string key,.bool gone,.slice pa val.length pc] 162)=W at yH MO HS ⊢;go_region_held3 (λw'=>w'.cell? ⟨wr.heap.size,0,none⟩=some (.string key)/\w'.cell? ⟨wr.heap.size,1,none⟩=some (.bool gone)/\w'.cell? ⟨wr.heap.size,2,none⟩=some (.slice pa val.length pc)) (first | exact HS.Z | exact s1 | exact s2 | exact s3 | go_keep) (first | (go_at_call 27;refine yH.Z.mono ?_;rintro e w1 ⟨tv,rfl,Lg,yX⟩;obtain ⟨ta,tn,tc,rfl⟩:=tX Lg;obtain ⟨a2,n2,c2,w2,iY,ado,adp,s1,s2,s3⟩:=MO.Z w1 (.slice ta tn tc) yX Lg) | (refine cP rfl _ _ _ _ rfl rfl rfl iY ?_));all_goals
    have dE:=ae (⟨k+1,bN,rfl,ado,adp⟩:∃ k':Nat,k'<=l.length/\Value.int .i64 ((k+1:Nat):Int)= .int .i64 (k':Int)/\eG 109 w.heap.size w2 (.slice a2 n2 c2) (l.take k')/\ak w w2);go_wp2;go_roundw;case rel=>exact dE.Z
    case measure=>simp [intOf];omega
  ·obtain rfl:k=l.length:=by omega
   rw [jX] at ho;have HF:=ae (⟨_,rfl,ho,hq⟩:MM w l (.returned (.slice oa on oc)) wr);go_wp2;go_ret;exact HF.Z

end Go.Proofs.YtlcnhpjggjgnpaaGreatDoor