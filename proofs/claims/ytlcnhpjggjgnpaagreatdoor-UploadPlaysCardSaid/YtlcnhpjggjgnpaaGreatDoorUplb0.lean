/- A part of the proof. -/
import Derived.Test.YtlcnhpjggjgnpaaGreatDoorUpla3
import Derived.Deep.DeepCutAuto
import Derived.Deep.CutBlock
set_option linter.unusedSimpArgs false
set_option linter.unusedVariables false
set_option maxRecDepth 100000
set_option maxHeartbeats 1000000
namespace Go.Proofs.YtlcnhpjggjgnpaaGreatDoor
open Go.RowKit Go.MapKept
variable {b p:aH} {k n:Nat} {v:Value} {w:World}
def cz (n:Nat):aH:=if n <128 then [UInt8.ofNat n] else UInt8.ofNat (n % 128+128)::cz (n / 128)
decreasing_by omega
theorem kZ (h:n <128):cz n=[UInt8.ofNat n]:=by rw [cz,if_pos h]
theorem pM (h:¬n <128):cz n=UInt8.ofNat (n % 128+128)::cz (n / 128):=by rw [cz,if_neg h]
theorem zO:∀ (k n:Nat),n <128 ^ (k+1)->(cz n).length<=k+1
 | 0,n,h=>by rw [kZ (by simpa using h)];simp
 | k+1,n,h=>by
  by_cases hn:n <128
  ·rw [kZ hn];simp
  ·rw [pM hn,iM];have:=zO k (n / 128) (by rw [Nat.div_lt_iff_lt_mul (by omega)];rw [Nat.pow_succ] at h;exact h);omega
theorem dD (h:n <18446744073709551616):(cz n).length<=10:=zO 9 n (Fv h (by decide))
def dP (p:aH):aH:=cz p.length++p
def jJ:aH->Nat->Nat->Nat × Nat × Int
 | [],_,_=>(0,0,9)
 | c::b,i,n=>if (i=9/\1 <c.toNat)\/(0 <i/\c.toNat=0) then (0,0,10) else if c.toNat <128 then (n+c.toNat*2 ^ (7*i),i+1,0) else jJ b (i+1) (n+(c.toNat % 128)*2 ^ (7*i))
def bT (b:aH):Nat × Nat × Int:=jJ b 0 0
structure eX where
 key:aD
 gone:Bool
 val:aH
def tdo (fs:FS) (c:eX):FS:=if c.gone=true then bV fs c.key else dY fs c.key c.val
def en (fs:FS) (l:List eX):FS:=l.foldl tdo fs
theorem bp.tdo {fs:FS} (h:bp fs) (c:eX):bp (tdo fs c):=by
 unfold Go.Proofs.YtlcnhpjggjgnpaaGreatDoor.tdo;split
 ·exact h.bV _
 ·exact h.dY _ _
theorem bp.en:∀ (l:List eX) {fs:FS},bp fs->bp (en fs l)
 | [],_,h=>h
 | c::l,_,h=>bp.en l (h.tdo c)
def iF (c:eX):Bool:=decide (c.key.size=0) || decide (320 <c.key.size) || decide (262144 <c.val.length)
def gR (c:eX):aH:=if c.gone=true then 0::dP c.key.toList else (1::dP c.key.toList)++dP c.val
def dR:List eX->aH->Int × aH
 | [],out=>(0,out)
 | c::l,out=>if iF c=true then (1,[]) else if 1048568 <(out++gR c).length then (8,[]) else dR l (out++gR c)
def bP (l:List eX):Int × aH:=if 256 <l.length then (8,[]) else dR l (cz l.length)
def bg (b:aH) (most:Nat):aH × Nat × Int:=
 if (bT b).2.2=0 then
  (if most <(bT b).1 then ([],0,8) else if b.length - (bT b).2.1 <(bT b).1 then ([],0,9) else ((b.drop (bT b).2.1).take (bT b).1,(bT b).2.1+(bT b).1,0))
 else ([],0,(bT b).2.2)
def tR (b:aH):Option (eX × aH):=
 match b with
 | []=>none
 | k::b1=>
  if 1 <k.toNat then none
  else if (bg b1 320).2.2=0/\(bg b1 320).1≠ [] then
   (if k.toNat=0 then some (⟨⟨(bg b1 320).1.toArray⟩,true,[]⟩,b1.drop (bg b1 320).2.1)
    else if (bg (b1.drop (bg b1 320).2.1) 262144).2.2=0 then some (⟨⟨(bg b1 320).1.toArray⟩,false,(bg (b1.drop (bg b1 320).2.1) 262144).1⟩,(b1.drop (bg b1 320).2.1).drop (bg (b1.drop (bg b1 320).2.1) 262144).2.1)
    else none)
  else none
def eY:Nat->aH->List eX->Option (List eX)
 | 0,b,out=>if b=[] then some out else none
 | n+1,b,out=>match tR b with | none=>none | some (c,b')=>eY n b' (out++[c])
def ja (b:aH):Option (List eX):=
 if (bT b).2.2=0/\(bT b).1<=256 then eY (bT b).1 (b.drop (bT b).2.1) [] else none
def ie:FS->aD->Nat
 | [],_=>0
 | x::l,k=>if pm x.1 k=true then ie l k+1 else 0
theorem BZ:∀ (fs:FS) (k:aD),ie fs k<=fs.length
 | [],_=>eQ _
 | x::l,k=>by
  rw [ie];split
  ·have:=BZ l k;rw [iM];omega
  ·exact fC _
theorem Qw {x:aD × aH} {l:FS} {f:aD × aH} (h:pm f.1 x.1=false):gY (x::l) f=x::gY l f:=by rw [mL,h];rfl
theorem JG {a b:aD} (h:pm a b=true):pm b a=false:=by
 cases h2:pm b a with
 | false=>rfl
 | true=>have:=qE h h2;rw [lq] at this;cases this
theorem EP:∀ {fs:FS},bp fs->∀ (c:eX),tdo fs c=fs.take (ie fs c.key)++(if c.gone=true then [] else [(c.key,c.val)])++bV (fs.drop (ie fs c.key)) c.key
 | [],_,c=>by
  unfold tdo;split
  ·rfl
  ·rfl
 | x::l,h,c=>by
  have hx:=List.pairwise_cons.1 h;by_cases hb:pm x.1 c.key=true
  ·have dO:¬x.1=c.key:=λe=>by rw [e,lq] at hb;cases hb
   have hk:ie (x::l) c.key=ie l c.key+1:=by rw [ie,if_pos hb]
   rw [hk,List.take_succ_cons,Hp,qV,qV,<-EP hx.2 c];unfold tdo;split
   ·rw [lC,if_neg dO]
   ·unfold dY;rw [lC,if_neg dO];exact Qw (JG hb)
  ·have hk:ie (x::l) c.key=0:=by rw [ie,if_neg hb]
   rw [hk,Au,Pa,pj];have pg:pm x.1 c.key=false:=by simpa using hb
   have rC:∀ y ∈ bV (x::l) c.key,pm c.key y.1=true:=λy hy=>by
    have hy2:=List.mem_filter.1 hy;have dO:¬y.1=c.key:=by simpa using hy2.2
    rcases List.mem_cons.1 hy2.1 with rfl | hy3
    ·exact uE pg dO
    ·by_cases e:x.1=c.key
     ·rw [<-e];exact hx.1 y hy3
     ·exact qE (uE pg e) (hx.1 y hy3)
   unfold tdo;split
   ·rw [pj]
   ·unfold dY;rw [BE rC];rfl
def uK (w:World) (l:aH) (e:Ending) (w':World):Prop:=∃ v,e= .returned v/\bC w' w.heap.size v l/\ak w w'
theorem ZZ:∀ k:Nat,k <256->bits BinOp.or IntKind.u8 (k:Int) 128=((k % 128+128:Nat):Int):=by decide+kernel
theorem zP (w:World) (n:Nat) (hn:n <18446744073709551616):bF 153 #[.int .u64 (n:Int)] w (uK w (cz n)):=by
 have cU:=dD hn;have HL:=ae cU;clear cU hn;go_enter Tryz.func153,Tryz.ntmps153;go_wp2_with fail;go_loopw [0,3] (λnv ov wx=>∃ (m:Nat) (out:aH),nv= .int .u64 (m:Int)/\m<=n/\cz n=out++cz m/\bC wx w.heap.size ov out/\ak w wx) (λnv _ _=>(intOf nv).toNat);case atStart=>exact ⟨n,[],rfl,eQ _,rfl,⟨rfl,.inl ⟨rfl,rfl⟩⟩,ah.refl _ _⟩
 case round=>
  obtain ⟨m,out,rfl,hm,hc,ho,hk⟩:=hrel;have AK:out.length<=10:=by have:=HL.Z;rw [hc,fS] at this;omega
  obtain ⟨oa,oc,rfl,_,_⟩:=ho.bytes.aG;have hz:=hk.size;by_cases Gk:m <128
  ·have b0:¬(128:Int)<=(m:Int):=by omega
   have ez:(((UInt8.ofNat m).toNat:Nat):Int)=(m:Int):=by simp;omega
   obtain ⟨v',w3,aT,fy,dN⟩:=bC.grow (wr:=wr.alloc (.cells #[.int .u8 ((UInt8.ofNat m).toNat:Int)] 5)) (by rw [World.size_alloc];omega) (ho.keep ((ah.refl (λ_=>False) wr).alloc _)) (gP wr (UInt8.ofNat m)) (by simp;omega);rw [kZ Gk] at hc;rw [<-hc] at fy;obtain ⟨va,vc,rfl,_,_⟩:=fy.bytes.aG;have eA:ak w w3:=(hk.trans ((ah.refl (λ_=>False) wr).alloc _) (λ_ _ e=>e)).trans dN (λb hb e=>by have:=du ho b e;omega);rw [ez] at aT;have cV:=ae aT;clear aT;have HO:=ae fy;have HK:=ae eA;clear fy dN eA ho hk hc Gk hz ez;go_wp2_with (first | (at_builtin;refine ao rfl _ _ _ _ rfl rfl rfl cV.Z ?_));go_ret;exact ⟨_,rfl,HO.Z,HK.Z⟩
  ·have b0:(128:Int)<=(m:Int):=by omega
   have hw:bits BinOp.or IntKind.u8 ((m:Int) % 256) 128=(((UInt8.ofNat (m % 128+128)).toNat:Nat):Int):=by
    have h1:=ZZ (m % 256) (by omega);have e1:((m % 256:Nat):Int)=(m:Int) % 256:=by omega
    rw [e1] at h1;rw [h1];simp;omega
   have RZ:(m:Int).fdiv (2 ^ min (Int.toNat 7) IntKind.u64.bits)=((m / 128:Nat):Int):=by
    have:(2:Int) ^ min (Int.toNat 7) IntKind.u64.bits=128:=by decide
    rw [this,Int.fdiv_eq_ediv_of_nonneg _ (by omega)];omega
   obtain ⟨v',w3,aT,fy,dN⟩:=bC.grow (wr:=wr.alloc (.cells #[.int .u8 ((UInt8.ofNat (m % 128+128)).toNat:Int)] 5)) (by rw [World.size_alloc];omega) (ho.keep ((ah.refl (λ_=>False) wr).alloc _)) (gP wr (UInt8.ofNat (m % 128+128))) (by simp;omega);obtain ⟨va,vc,rfl,_,_⟩:=fy.bytes.aG;have gy:cz n=(out++[UInt8.ofNat (m % 128+128)])++cz (m / 128):=by rw [hc,pM Gk];simp
   have eA:ak w w3:=(hk.trans ((ah.refl (λ_=>False) wr).alloc _) (λ_ _ e=>e)).trans dN (λb hb e=>by have:=du ho b e;omega);have cV:=ae aT;have dE:=ae (⟨m / 128,_,rfl,by omega,gy,fy,eA⟩:∃ (m':Nat) (out':aH),Value.int .u64 ((m / 128:Nat):Int)= .int .u64 (m':Int)/\m'<=n/\cz n=out'++cz m'/\bC w3 w.heap.size _ out'/\ak w w3);have HM:=ae (by omega:m / 128 <m);generalize ((UInt8.ofNat (m % 128+128)).toNat:Int)=z at hw cV;clear aT fy dN eA ho hk hc gy Gk hz;go_wp2_with (first | (at_builtin;refine ao rfl _ _ _ _ rfl rfl rfl cV.Z ?_));go_roundw;case rel=>obtain ⟨m',out',e1,h1,h2,h3,h4⟩:=dE.Z;rw [fS] at h3;exact ⟨m',out',by rw [<-e1];rfl,h1,h2,h3,h4⟩
   case measure=>have:=HM.Z;simp [intOf];omega
theorem wC (hp:aC w v p) (hl:p.length<=1099511627776):bF 154 #[v] w (uK w (dP p)):=by
 obtain ⟨pa,pc,rfl,_,_⟩:=hp.aG;have hc:=λW=>zP W p.length (by omega);have FP:∀ (W W1:World) (cv:Value),ak w W->W.heap.size=w.heap.size->bC W1 W.heap.size cv (cz p.length)->ak W W1->∃ a c w3,(Builtin.append_ #[22,22] 22 #[cv,.slice pa p.length pc]).run Tryz.prog W1= .ok (.slice a (dP p).length c) w3/\bC w3 w.heap.size (.slice a (dP p).length c) (dP p)/\ak w w3:=λW W1 cv hk hz ho bN=>by have cU:=dD (n:=p.length) (by omega);obtain ⟨v',w3,aT,fy,dN⟩:=bC.grow (by have:=bN.size;omega) ho (hp.keep (hk.trans bN (λ_ _ e=>e))) (by omega);obtain ⟨a,c,rfl,_,_⟩:=fy.bytes.aG;rw [hz] at fy ho;exact ⟨a,c,w3,aT,fy,(hk.trans bN (λ_ _ e=>e)).trans dN (λb hb e=>by have:=du ho b e;omega)⟩
 have HC:=ae hc;have HG:=ae FP;have i1:(p.length:Int)<=1099511627776:=by omega
 go_enter Tryz.func154,Tryz.ntmps154;go_wp2_with fail;refine (HC.Z w).mono ?_;rintro e w1 ⟨cv,rfl,fT,bN⟩;obtain ⟨a3,c3,w3,aT,fy,dN⟩:=HG.Z w w1 cv (ah.refl _ w) rfl fT bN;obtain ⟨ca,cc,rfl,_,_⟩:=fT.bytes.aG;have cV:=ae aT;have HO:=ae fy;have HK:=ae dN;go_wp2_with (first | (at_builtin;refine ao rfl _ _ _ _ rfl rfl rfl cV.Z ?_));go_ret;exact ⟨_,rfl,HO.Z,HK.Z⟩
theorem zQ (i:Nat):2 ^ (7*(i+1))=2 ^ (7*i)*128:=by rw [show 7*(i+1)=7*i+7 by omega,Nat.pow_add]
theorem EQ:∀ (b:aH) (i n:Nat),(jJ b i n).2.1<=i+b.length
 | [],i,n=>by simp [jJ]
 | c::b,i,n=>by
  rw [jJ];split
  ·simp
  ·split
   ·simp
   ·have:=EQ b (i+1) (n+(c.toNat % 128)*2 ^ (7*i));rw [iM];omega
theorem ER:∀ (b:aH) (i n:Nat),i<=9->n <2 ^ (7*i)->(jJ b i n).1 <18446744073709551616
 | [],i,n,_,_=>by simp [jJ]
 | c::b,i,n,hi,hn=>by
  rw [jJ];split
  ·simp
  ·rename_i sP;split
   ·rename_i hc;show n+c.toNat*2 ^ (7*i) <_;by_cases h9:i=9
    ·subst h9;have JC:(2:Nat) ^ (7*9)=9223372036854775808:=by decide
     rw [JC] at hn ⊢;omega
    ·have h1:2 ^ (7*(i+1))<=2 ^ (7*9):=K5 (by omega) (by omega);have JC:(2:Nat) ^ (7*9)=9223372036854775808:=by decide
     rw [JC,zQ] at h1;have h2:c.toNat*2 ^ (7*i)<=127*2 ^ (7*i):=Ho _ (by omega);omega
   ·rename_i hc;by_cases h9:i=9
    ·exact absurd (.inl ⟨h9,by omega⟩) sP
    ·refine ER b (i+1) _ (by omega) ?_;rw [zQ];have h2:(c.toNat % 128)*2 ^ (7*i)<=127*2 ^ (7*i):=Ho _ (by omega);omega
theorem mf (b:aH):(bT b).2.1<=b.length:=by have:=EQ b 0 0;unfold bT;omega
theorem oo (b:aH):(bT b).1 <18446744073709551616:=ER b 0 0 (by omega) (by simp)
theorem lH (b:aH) (most:Nat):(bg b most).2.1<=b.length/\(bg b most).1.length<=b.length/\(bg b most).1.length<=most:=by
 have h:=mf b;unfold bg;split
 ·split
  ·simp
  ·split
   ·simp
   ·simp only [nM,iN];omega
 ·simp
theorem xw:∀ (k m i n:Nat) (rest:aH),m <128 ^ (k+1)->i<=9->m*2 ^ (7*i) <18446744073709551616->(0 <i->0 <m)->jJ (cz m++rest) i n=(n+m*2 ^ (7*i),i+(cz m).length,0)
 | k,m,i,n,rest,hk,hi,hm,hp=>by
  by_cases h:m <128
  ·have e:(UInt8.ofNat m).toNat=m:=by simp;omega
   rw [kZ h,List.singleton_append,jJ,e,if_neg,if_pos h]
   ·rfl
   ·rintro (⟨rfl,h1⟩ | ⟨h1,h2⟩)
    ·have JC:(2:Nat) ^ (7*9)=9223372036854775808:=by decide
     rw [JC] at hm;omega
    ·have:=hp h1;omega
  ·have e:(UInt8.ofNat (m % 128+128)).toNat=m % 128+128:=by simp;omega
   have h9:i≠9:=by
    rintro rfl;have JC:(2:Nat) ^ (7*9)=9223372036854775808:=by decide
    rw [JC] at hm;omega
   have hd:m=128*(m / 128)+m % 128:=by omega
   have hq:(m / 128)*(2 ^ (7*i)*128)=128*(m / 128)*2 ^ (7*i):=by rw [Nat.mul_comm (2 ^ (7*i)),<-Nat.mul_assoc,Nat.mul_comm (m / 128)]
   have hs:m*2 ^ (7*i)=128*(m / 128)*2 ^ (7*i)+(m % 128)*2 ^ (7*i):=by rw [<-Nat.add_mul,<-hd]
   rw [pM h,qV,jJ,e,if_neg (by rintro (⟨h1,_⟩ | ⟨_,h2⟩);exact h9 h1;omega),if_neg (by omega)];match k,hk with
   | 0,hk=>exact absurd hk (by simp;omega)
   | k+1,hk=>
    rw [xw k (m / 128) (i+1) _ rest (by rw [Nat.div_lt_iff_lt_mul (by omega)];rw [Nat.pow_succ] at hk;exact hk) (by omega) (by rw [zQ,hq];omega) (λ_=>by omega),zQ,hq,hs,iM];rw [show (m % 128+128) % 128=m % 128 by omega];congr 1
    ·omega
    ·congr 1;omega
theorem r9 (h:n <18446744073709551616) (rest:aH):bT (cz n++rest)=(n,(cz n).length,0):=by have:=xw 9 n 0 0 rest (Fv h (by decide)) (by omega) (by simpa using h) (λh=>absurd h (by omega));unfold bT;rw [this];simp
theorem p5 {most:Nat} (h:p.length<=most) (h2:most <18446744073709551616) (rest:aH):bg (dP p++rest) most=(p,(dP p).length,0):=by
 have e:bT (dP p++rest)=(p.length,(cz p.length).length,0):=by unfold dP;rw [lN];exact r9 (by omega) _
 unfold bg;rw [e,if_pos rfl,if_neg (by omega),if_neg (by unfold dP;simp only [fS];omega)];unfold dP;rw [lN,Ht,List.take_left,fS]
def oV (c:eX):eX:=if c.gone=true then {c with val:=[]} else c
theorem Td (fs:FS) (c:eX):tdo fs (oV c)=tdo fs c:=by
 unfold oV tdo;by_cases h:c.gone=true
 ·rw [if_pos h,if_pos h];simp [h]
 ·rw [if_neg h]
theorem ES:∀ (l:List eX) (fs:FS),en fs (l.map oV)=en fs l
 | [],fs=>rfl
 | c::l,fs=>by show en (tdo fs (oV c)) (l.map oV)=en (tdo fs c) l;rw [Td,ES]
theorem xx (s:aD):(⟨s.toList.toArray⟩:aD)=s:=by rw [ByteArray.toList_eq]
theorem gX (s:aD):s.toList.length=s.size:=by rw [ByteArray.toList_eq,Array.length_toList];rfl
theorem lI {c:eX} (h:iF c=false):0 <c.key.size/\c.key.size<=320/\c.val.length<=262144:=by unfold iF at h;simp only [Bool.or_eq_false_iff,decide_eq_false_iff_not] at h;omega
theorem Qx {c:eX} (h:iF c=false) (rest:aH):tR (gR c++rest)=some (oV c,rest):=by
 obtain ⟨h0,h1,h2⟩:=lI h;have hk:c.key.toList.length<=320:=by rw [gX];exact h1
 have dO:c.key.toList≠ []:=λe=>by have:=gX c.key;rw [e] at this;simp at this;omega
 cases c with
 | mk key gone val=>
 cases gone with
 | true=>
  have e:=p5 (most:=320) hk (by omega) rest;show tR (0::(dP key.toList++rest))=_;unfold tR;simp only [e,Ht];simp only [xx,oV];simp [dO]
 | false=>have e:=p5 (most:=320) hk (by omega) (dP val++rest);have e2:=p5 (most:=262144) h2 (by omega) rest;show tR (1::(dP key.toList++dP val++rest))=_;rw [lN];unfold tR;simp only [e,Ht,e2];simp only [xx,oV];simp [dO]
theorem zR:∀ (l:List eX) (out:List eX),(∀ c ∈ l,iF c=false)->eY l.length (l.map gR).flatten out=some (out++l.map oV)
 | [],out,_=>by simp [eY]
 | c::l,out,h=>by rw [iM,eY,kz,List.flatten_cons,Qx (h c (gw ..))];show eY l.length (l.map gR).flatten (out++[oV c])=_;rw [zR l _ (λx hx=>h x (nO _ hx))];simp
theorem B0:∀ (l:List eX) (out:aH),(dR l out).1=0->(dR l out).2=out++(l.map gR).flatten/\(∀ c ∈ l,iF c=false)/\(out.length<=1048568->(dR l out).2.length<=1048568)
 | [],out,_=>⟨by simp [dR],by simp,λh=>h⟩
 | c::l,out,h=>by
  rw [dR] at h ⊢;cases hb:iF c with
  | true=>rw [hb,if_pos rfl] at h;cases h
  | false=>
   rw [hb,if_neg (by simp)] at h;rw [if_neg (by simp)];by_cases hl:1048568 <(out++gR c).length
   ·rw [if_pos hl] at h;cases h
   ·rw [if_neg hl] at h;rw [if_neg hl];obtain ⟨h1,h2,h3⟩:=B0 l _ h;refine ⟨by rw [h1];simp,λx hx=> ?_,λ_=>h3 (by omega)⟩;rcases List.mem_cons.1 hx with rfl | hx
    ·exact hb
    ·exact h2 x hx
theorem p6 {l:List eX} (h:(bP l).1=0):l.length<=256/\(bP l).2=cz l.length++(l.map gR).flatten/\(∀ c ∈ l,iF c=false)/\(bP l).2.length<=1048568:=by
 unfold bP at h ⊢;by_cases hl:256 <l.length
 ·rw [if_pos hl] at h;cases h
 ·rw [if_neg hl] at h;rw [if_neg hl];obtain ⟨h1,h2,h3⟩:=B0 l _ h;exact ⟨by omega,h1,h2,h3 (by have:=dD (n:=l.length) (by omega);omega)⟩
theorem Wn {l:List eX} (h:(bP l).1=0):ja (bP l).2=some (l.map oV):=by obtain ⟨h1,h2,h3,h4⟩:=p6 h;rw [h2];unfold ja;rw [r9 (by omega),if_pos ⟨rfl,h1⟩];show eY l.length ((cz l.length++(l.map gR).flatten).drop (cz l.length).length) []=_;rw [Ht,zR l [] h3];rfl
theorem xy (w:World) (n:Nat) (hn:n <18446744073709551616):bF 204 #[.int .u64 (n:Int)] w (uK w (cz n)):=by
 have cU:=dD hn;have HL:=ae cU;have HN:=ae hn;clear cU hn;go_enter Tryz.func204,Tryz.ntmps204;go_wp2_with fail;go_loopw [0,3] (λnv ov wx=>∃ (m:Nat) (out:aH),nv= .int .u64 (m:Int)/\m<=n/\cz n=out++cz m/\bC wx w.heap.size ov out/\ak w wx) (λnv _ _=>(intOf nv).toNat);case atStart=>exact ⟨n,[],rfl,eQ _,rfl,⟨rfl,.inl ⟨rfl,rfl⟩⟩,ah.refl _ _⟩
 case round=>
  obtain ⟨m,out,rfl,hm,hc,ho,hk⟩:=hrel;have AK:out.length<=10:=by have:=HL.Z;rw [hc,fS] at this;omega
  obtain ⟨oa,oc,rfl,_,_⟩:=ho.bytes.aG;have hz:=hk.size;by_cases Gk:m <128
  ·have b0:¬(127:Int) <(m:Int):=by omega
   have ez:(((UInt8.ofNat m).toNat:Nat):Int)=(m:Int):=by simp;omega
   obtain ⟨v',w3,aT,fy,dN⟩:=bC.grow (wr:=wr.alloc (.cells #[.int .u8 ((UInt8.ofNat m).toNat:Int)] 5)) (by rw [World.size_alloc];omega) (ho.keep ((ah.refl (λ_=>False) wr).alloc _)) (gP wr (UInt8.ofNat m)) (by simp;omega);rw [kZ Gk] at hc;rw [<-hc] at fy;obtain ⟨va,vc,rfl,_,_⟩:=fy.bytes.aG;have eA:ak w w3:=(hk.trans ((ah.refl (λ_=>False) wr).alloc _) (λ_ _ e=>e)).trans dN (λb hb e=>by have:=du ho b e;omega);rw [ez] at aT;have cV:=ae aT;clear aT;have HO:=ae fy;have HK:=ae eA;clear fy dN eA ho hk hc Gk hz ez;go_wp2_with (first | (at_builtin;refine ao rfl _ _ _ _ rfl rfl rfl cV.Z ?_));go_ret;exact ⟨_,rfl,HO.Z,HK.Z⟩
  ·have b0:(127:Int) <(m:Int):=by omega
   have RZ:IntKind.u64.wrap ((m:Int) / 128)=((m / 128:Nat):Int):=by
    have:=HN.Z;have e:(m:Int) / 128=((m / 128:Nat):Int):=by omega
    rw [e];simp only [IntKind.wrap,IntKind.bits,IntKind.signed];simp;omega
   have hw:128+(m:Int) % 128=(((UInt8.ofNat (m % 128+128)).toNat:Nat):Int):=by simp;omega
   obtain ⟨v',w3,aT,fy,dN⟩:=bC.grow (wr:=wr.alloc (.cells #[.int .u8 ((UInt8.ofNat (m % 128+128)).toNat:Int)] 5)) (by rw [World.size_alloc];omega) (ho.keep ((ah.refl (λ_=>False) wr).alloc _)) (gP wr (UInt8.ofNat (m % 128+128))) (by simp;omega);obtain ⟨va,vc,rfl,_,_⟩:=fy.bytes.aG;have gy:cz n=(out++[UInt8.ofNat (m % 128+128)])++cz (m / 128):=by rw [hc,pM Gk];simp
   have eA:ak w w3:=(hk.trans ((ah.refl (λ_=>False) wr).alloc _) (λ_ _ e=>e)).trans dN (λb hb e=>by have:=du ho b e;omega);have cV:=ae aT;have dE:=ae (⟨m / 128,_,rfl,by omega,gy,fy,eA⟩:∃ (m':Nat) (out':aH),Value.int .u64 ((m / 128:Nat):Int)= .int .u64 (m':Int)/\m'<=n/\cz n=out'++cz m'/\bC w3 w.heap.size _ out'/\ak w w3);have HM:=ae (by omega:m / 128 <m);generalize ((UInt8.ofNat (m % 128+128)).toNat:Int)=z at hw cV;clear aT fy dN eA ho hk hc gy Gk hz;go_wp2_with (first | (at_builtin;refine ao rfl _ _ _ _ rfl rfl rfl cV.Z ?_));go_roundw;case rel=>obtain ⟨m',out',e1,h1,h2,h3,h4⟩:=dE.Z;rw [fS] at h3;exact ⟨m',out',by rw [<-e1];rfl,h1,h2,h3,h4⟩
   case measure=>have:=HM.Z;simp [intOf];omega
theorem zS (hp:aC w v p) (hl:p.length<=1099511627776):bF 205 #[v] w (uK w (dP p)):=by
 obtain ⟨pa,pc,rfl,_,_⟩:=hp.aG;have hc:=xy w p.length (by omega);have cU:=dD (n:=p.length) (by omega);have H:=ae hp;have HLN:=ae cU;have Vf:=ae hl;have i1:(p.length:Int)<=1099511627776:=by omega
 go_enter Tryz.func205,Tryz.ntmps205;go_wp2_with fail;refine hc.mono ?_;rintro e w1 ⟨cv,rfl,fT,bN⟩;have FL:=ae fT;have iW:=ae bN;go_wp2_with fail;go_loopw [3,4] (λov iv wx=>∃ k:Nat,k<=p.length/\iv= .int .i64 (k:Int)/\bC wx w.heap.size ov (cz p.length++p.take k)/\ak w wx) (λ_ iv _=>p.length - (intOf iv).toNat);case atStart=>exact ⟨0,fC _,rfl,by rw [Au,qh];exact FL.Z,iW.Z⟩
 case round=>
  obtain ⟨k,hk,rfl,ho,hq⟩:=hrel;obtain ⟨aa,ac,rfl,_,_⟩:=ho.bytes.aG;have j0:=np k;by_cases aX:k <p.length
  ·obtain ⟨x,rfl,hx⟩:=(H.Z.keep hq).cell rfl aX;have j1:(k:Int) <p.length:=by omega
   have gQ:cz p.length++p.take (k+1)=(cz p.length++p.take k)++[p[k]]:=by rw [wS aX,lN]
   have AK:(cz p.length++p.take k).length<=10+1099511627776:=by have:=HLN.Z;have:=Vf.Z;rw [fS,nM];omega
   have hqz:=hq.size;have iI:ak wr (wr.alloc (.cells #[.int .u8 (p[k].toNat:Int)] 5)):=(ah.refl _ wr).alloc _;obtain ⟨v',w3,aT,fy,dN⟩:=bC.grow (by rw [World.size_alloc];omega) (ho.keep iI) (gP wr p[k]) (by rw [iM,gN];omega);rw [<-gQ] at fy;have yw:ak w w3:=(hq.trans iI (λ_ _ e=>e)).trans dN (λb hb e=>by have:=du ho b e;omega);obtain ⟨VI,VJ,rfl,_,_⟩:=fy.bytes.aG;have HR:=ae (⟨k+1,by omega,rfl,fy,yw⟩:∃ k':Nat,k'<=p.length/\Value.int .i64 ((k+1:Nat):Int)= .int .i64 (k':Int)/\bC w3 w.heap.size _ (cz p.length++p.take k')/\ak w w3);have cV:=ae aT;have kC:=ae aX;generalize (p[k].toNat:Int)=z at hx cV;generalize (cz p.length++p.take (k+1)).length=n1 at HR cV;generalize (cz p.length++p.take k).length=n0 at cV ⊢;go_wp2_with (first | (at_builtin;refine ao rfl _ _ _ _ rfl rfl rfl cV.Z ?_));go_roundw;case rel=>exact HR.Z
   case measure=>have:=kC.Z;simp [intOf];omega
  ·obtain rfl:k=p.length:=by omega
   rw [jX] at ho;have e:p.take p.length=p:=jX;rw [e] at*;rw [fS] at ho;have HO:=ae ho;have HK:=ae hq;go_wp2;go_ret;exact ⟨_,rfl,HO.Z,HK.Z⟩
theorem Wo:∀ k:Nat,k <256->bits BinOp.and IntKind.u8 (k:Int) 127=((k % 128:Nat):Int):=by decide+kernel
theorem Te (h:k<=9):(2:Nat) ^ (7*k)<=9223372036854775808:=by have:=K5 (n:=2) (by omega) (show 7*k<=63 by omega);exact this
def ET (r:Nat × Nat × Int):Value:= .tuple #[.int .u64 (r.1:Int),.int .i64 (r.2.1:Int),.int .i64 r.2.2]
theorem OA (aX:k <b.length) (h:bT b=jJ (b.drop k) k n):bT b=if (k=9/\1 <b[k].toNat)\/(0 <k/\b[k].toNat=0) then (0,0,10) else if b[k].toNat <128 then (n+(b[k].toNat % 128)*2 ^ (7*k),k+1,0) else jJ (b.drop (k+1)) (k+1) (n+(b[k].toNat % 128)*2 ^ (7*k)):=by
 rw [h,pQ aX,jJ];by_cases h1:b[k].toNat <128
 ·rw [if_pos h1,if_pos h1,Nat.mod_eq_of_lt h1]
 ·rw [if_neg h1,if_neg h1]
theorem JH {m:Nat} (hn:n <2 ^ (7*k)) (hb:n+m*2 ^ (7*k) <18446744073709551616):bits BinOp.or IntKind.u64 (n:Int) (IntKind.u64.wrap ((m:Int)*2 ^ (7*k)))=((n+m*2 ^ (7*k):Nat):Int):=by
 have e:(m:Int)*2 ^ (7*k)=((m*2 ^ (7*k):Nat):Int):=by simp
 have hw:IntKind.u64.wrap ((m*2 ^ (7*k):Nat):Int)=((m*2 ^ (7*k):Nat):Int):=by rw [IntKind.wrap_u64];omega
 rw [e,hw,u64_or_nat _ _ (by omega) (by omega)];congr 1;rw [Nat.or_comm,nat_join (7*k) _ _ (Nat.mul_mod_left _ _) hn];omega
theorem se (h:aC w v b):bF 121 #[v] w (bH w (ET (bT b))):=by
 obtain ⟨a,c,rfl,iL,gy⟩:=h.aG;have H:=ae h;unfold maxLen at gy;clear h;go_enter Tryz.func121,Tryz.ntmps121;go_wp2_with fail;go_loopw [5,10] (λnv iv wr=>∃ k n:Nat,k<=b.length/\k<=9/\n <2 ^ (7*k)/\iv= .int .i64 (k:Int)/\nv= .int .u64 (n:Int)/\bT b=jJ (b.drop k) k n/\ak w wr) (λ_ i _=>b.length - (intOf i).toNat);case atStart=>exact ⟨0,0,fC _,by omega,by simp,rfl,rfl,rfl,ah.refl _ _⟩
 case round=>
  obtain ⟨k,n,hk,xA,hn,rfl,rfl,hr,hq⟩:=hrel;have j0:=np k;have HQ:=ae hq;by_cases aX:k <b.length
  ·obtain ⟨x,rfl,hx⟩:=(H.Z.keep hq).cell rfl aX;have bG:=OA aX hr;have sD:=b[k].toNat_lt;have hp:=Te xA;generalize b[k].toNat=z at hx bG sD;have j1:(k:Int) <b.length:=by omega
   have z0:=np z;have z1:(z:Int) <256:=by omega
   clear hr hq;by_cases hA:k=9/\1 <z
   ·rw [if_pos (.inl hA)] at bG;obtain ⟨rfl,h1⟩:=hA;have ez:(1:Int) <z:=by omega
    have Z0:(9:Int) <b.length:=by omega
    simp only [Addr.add_succ'] at hx;clear hn hp sD j0 j1 hk xA h1;go_wp2;go_ret3;exact ⟨by rw [bG];rfl,HQ.Z⟩
   by_cases h0:0 <k/\z=0
   ·rw [if_pos (.inr h0)] at bG;obtain ⟨h01,rfl⟩:=h0;have k1:(0:Int) <k:=by omega
    clear hn hp sD hA z0 z1;by_cases e9:k=9
    ·subst e9;have Z0:(9:Int) <b.length:=by omega
     simp only [Addr.add_succ'] at hx;clear j0 j1 hk xA k1;go_wp2;go_ret3;exact ⟨by rw [bG];rfl,HQ.Z⟩
    ·have e9':¬(k:Int)=9:=by omega
     clear e9;go_wp2;go_ret3;exact ⟨by rw [bG];rfl,HQ.Z⟩
   rw [if_neg (by rintro (h | h);exact hA h;exact h0 h)] at bG;by_cases e9:k=9
   ·subst e9;obtain rfl:z=1:=by omega
    have Z0:(9:Int) <b.length:=by omega
    have hand:bits BinOp.and IntKind.u8 1 127=1:=by decide
    have JI:=JH (n:=n) (m:=1) (k:=9) hn (by omega);have Wp:(2:Nat) ^ (7*9)=9223372036854775808:=by decide
    have Tf:bits BinOp.or IntKind.u64 (n:Int) (IntKind.u64.wrap 9223372036854775808)=((n+9223372036854775808:Nat):Int):=by rw [Wp] at JI;simpa using JI
    have hw:IntKind.u64.wrap 9223372036854775808=9223372036854775808:=by decide
    have Tg:=Tf;rw [hw] at Tg;rw [if_pos (by omega),Wp,Nat.one_mul] at bG;simp only [Addr.add_succ'] at hx;clear hn hp sD j0 j1 hk xA hA h0 JI Wp z0 z1;generalize n+9223372036854775808=n2 at Tf Tg bG;go_wp2;go_ret3;exact ⟨by rw [bG];rfl,HQ.Z⟩
   have hand:=Wo z sD;have e9':¬(k:Int)=9:=by omega
   have JI:=JH (n:=n) (m:=z % 128) (k:=k) hn (by
    have:=Ho (2 ^ (7*k)) (show z % 128<=127 by omega);have h2:2 ^ (7*(k+1))<=2 ^ (7*9):=K5 (by omega) (by omega);have JC:(2:Nat) ^ (7*9)=9223372036854775808:=by decide
    rw [JC,zQ] at h2;omega)
   have qw:n+(z % 128)*2 ^ (7*k) <2 ^ (7*(k+1)):=by have:=Ho (2 ^ (7*k)) (show z % 128<=127 by omega);rw [zQ];omega
   have k9:k+1<=9:=by omega
   have kl:k+1<=b.length:=by omega
   generalize n+(z % 128)*2 ^ (7*k)=n2 at JI bG qw;have k8:(k:Int)<=8:=by omega
   generalize hm:z % 128=m at hand JI;have m0:=np m;have m1:(m:Int) <128:=by omega
   by_cases hz:z <128
   ·obtain rfl:z=m:=by omega
    have z2:(z:Int) <128:=by omega
    rw [if_pos hz] at bG;by_cases P9:z=0
    ·obtain rfl:k=0:=by omega
     subst P9;have Th:bits BinOp.or IntKind.u64 (n:Int) (IntKind.u64.wrap 0)=(n2:Int):=by simpa using JI
     have ac6:bits BinOp.or IntKind.u64 (n:Int) 0=(n2:Int):=by
      have:IntKind.u64.wrap 0=0:=by decide
      rw [this] at Th;exact Th
     have adH:bits BinOp.and IntKind.u8 0 127=0:=by decide
     simp only [Addr.add_zero'] at hx;have Z0:(0:Int) <b.length:=by omega
     clear hn hp sD hm hz hA h0 e9 z0 z1 z2 qw JI hand k9 kl hk xA j0 j1 k8 m0 m1;go_wp2;go_ret3;exact ⟨by rw [bG];rfl,HQ.Z⟩
    ·have ac7:¬(z:Int)=0:=by omega
     clear hn hp sD hm hz hA h0 e9 qw hk xA P9 k9 kl;go_wp2;go_ret3;exact ⟨by rw [bG];rfl,HQ.Z⟩
   ·have z2:¬(z:Int) <128:=by omega
    rw [if_neg hz] at bG;have dE:=ae (⟨k+1,n2,kl,k9,qw,rfl,rfl,bG,HQ.Z⟩:∃ k' n':Nat,k'<=b.length/\k'<=9/\n' <2 ^ (7*k')/\Value.int .i64 ((k+1:Nat):Int)= .int .i64 (k':Int)/\Value.int .u64 (n2:Int)= .int .u64 (n':Int)/\bT b=jJ (b.drop k') k' n'/\ak w wr);clear hn hp sD hm hz hA h0 e9 qw hk xA k9 kl bG HQ;go_wp2;go_roundw;case rel=>exact dE.Z
    case measure=>simp [intOf];omega
  ·obtain rfl:k=b.length:=by omega
   rw [pR] at hr;clear hk hn xA hq;go_wp2;go_ret3;exact ⟨by rw [hr];rfl,HQ.Z⟩
theorem JJ (w:World) (a:Option Addr) (n c i j:Nat) (h1:i+j<=c): (Instr.sliceAt 22 (.slice a n c) (some (.int .i64 (i:Int))) (some (.int .i64 ((i:Int)+(j:Int)))) (some (.int .i64 ((i:Int)+(j:Int))))).run Tryz.prog w= .ok (.slice (if j=0 then a else Option.map (λx=>x.add i) a) j j) w:=by
 rw [run_sliceAt_slice _ _ _ _ _ _ dG,run_slice_lhm w 22 a n c dG .i64 .i64 .i64 (i:Int) ((i:Int)+j) ((i:Int)+j) (by omega) (by omega) (by omega) (by omega),lT];have e3:((i:Int)+j).toNat=i+j:=by omega
 simp only [Result.andThen,sliced,e3,yn,yp,RO];by_cases h:j=0
 ·subst h;simp
 ·rw [if_neg h,if_neg (by omega)]
theorem aC.Gl {a:Option Addr} {c:Nat} {l:aH} (h:aC w (.slice a n c) l) (i j:Nat) (R7:i+j<=l.length):aC w (.slice (if j=0 then a else Option.map (λx=>x.add i) a) j j) ((l.drop i).take j):=by
 have hl:(l.drop i).take j=((l.drop i).take j):=rfl;have cU:((l.drop i).take j).length=j:=by rw [nM,iN];omega
 have h2:=h.SC i j R7;by_cases hj:j=0
 ·subst hj;rw [if_pos rfl,Au];rcases h with ⟨e,rfl⟩ | ⟨x,c',e,h1,h3,h4⟩
  ·cases e;exact .inl ⟨rfl,rfl⟩
  ·cases e;exact .inr ⟨x,0,rfl,eQ _,fC _,λj u hu=>by simp at hu⟩
 ·rw [if_neg hj];rcases h with ⟨e,rfl⟩ | ⟨x,c',e,h1,h3,h4⟩
  ·simp at R7;omega
  ·cases e;rw [if_neg (by omega)] at h2;rcases h2 with ⟨e,e2⟩ | ⟨y,c2,e,g1,g3,g4⟩
   ·rw [e2] at cU;simp at cU;omega
   ·rw [cU] at e g1;cases e;refine .inr ⟨_,j,by rw [cU];rfl,by omega,by omega,g4⟩
def wD (w:World) (r:aH × Nat × Int) (e:Ending) (w':World):Prop:=∃ v,e= .returned (.tuple #[v,.int .i64 (r.2.1:Int),.int .i64 r.2.2])/\bC w' w.heap.size v r.1/\ak w w'
theorem tS (h:aC w v b) (hb:b.length<=1099511627776) (most:Nat) (hm:most<=1048576):bF 122 #[v,.int .i64 (most:Int)] w (wD w (bg b most)):=by
 have HC:=ae (se h);have lf:=mf b;have aX:=oo b;obtain ⟨n,u,e,hr⟩:∃ n u e,bT b=(n,u,e):=⟨_,_,_,rfl⟩;have MD:bg b most=if e=0 then (if most <n then ([],0,8) else if b.length - u <n then ([],0,9) else ((b.drop u).take n,u+n,0)) else ([],0,e):=by unfold bg;rw [hr]
 rw [hr] at HC lf aX;simp only at lf aX;obtain ⟨a,c,rfl,iL,gy⟩:=h.aG;have H:=ae h;unfold maxLen at gy;have i1:(b.length:Int)<=1099511627776:=by omega
 have i2:(u:Int)<=b.length:=by omega
 have i3:(n:Int) <18446744073709551616:=by omega
 have i4:=np n;have m0:(0:Int)<=most:=by omega
 have m1:(most:Int)<=1048576:=by omega
 have hwm:IntKind.u64.wrap (most:Int)=most:=by rw [IntKind.wrap_u64];omega
 obtain ⟨d,hd⟩:∃ d:Nat,(b.length:Int) - (u:Int)=(d:Int):=⟨b.length - u,by omega⟩;have hdd:b.length - u=d:=by omega
 have d1:(d:Int)<=1099511627776:=by omega
 rw [hdd] at MD;have sH:=ae MD;have HDD:=ae hdd;clear hdd;clear h MD aX;go_enter Tryz.func122,Tryz.ntmps122;go_wp2_with fail;refine HC.Z.mono ?_;rintro e1 w1 ⟨rfl,bN⟩;have iW:=ae bN;have H1:=ae (H.Z.keep bN);clear bN HC;unfold ET;clear hr lf hb hm;by_cases he:e=0
 ·subst he;rw [if_pos rfl] at sH;by_cases h8:most <n
  ·rw [if_pos h8] at sH;have j8:(most:Int) <n:=by omega
   clear h8 iL gy;go_wp2;go_ret3;exact ⟨_,by rw [sH.Z];rfl,by rw [sH.Z];exact bC.nil _ _,iW.Z⟩
  rw [if_neg h8] at sH;have j8:decide (most <n)=false:=by simpa using h8
  have j8':(n:Int)<=most:=by omega
  have HJ8:=ae j8';clear j8';by_cases h9:d <n
  ·rw [if_pos h9] at sH;have j9:(d:Int) <n:=by omega
   clear h8 h9 iL gy i3;go_wp2;go_ret3;exact ⟨_,by rw [sH.Z];rfl,by rw [sH.Z];exact bC.nil _ _,iW.Z⟩
  rw [if_neg h9] at sH;have j9:decide (d <n)=false:=by simpa using h9
  have hdd:=HDD.Z;have qy:=λW=>JJ W a b.length c u n (by omega);have cU:((b.drop u).take n).length=n:=by rw [nM,iN];omega
  have hx:=H1.Z.Gl u n (by omega);generalize (if n=0 then a else Option.map (λx=>x.add u) a)=aa at hx qy;obtain ⟨v',w',aT,ho,hk⟩:=Iz hx (by omega);clear hx;obtain ⟨va,vc,rfl,_,_⟩:=ho.bytes.aG;have cV:=ae aT;have HO:=ae (ho.base iW.Z.size);have HK:=ae (iW.Z.trans hk (λ_ _ e=>e));have qw:(n:Int)<=1048576:=by have:=HJ8.Z;omega
  rw [cU] at cV HO;clear aT ho hk h8 h9 iW H1 H cU hdd i3;go_wp2_with (first | (at_builtin;refine ao rfl _ _ _ _ rfl rfl rfl cV.Z ?_));go_ret3;exact ⟨_,by rw [sH.Z];rfl,by rw [sH.Z];exact HO.Z,HK.Z⟩
 ·rw [if_neg he] at sH;have EU:(e !=0)=true:=by simpa using he
  clear he iL gy;go_wp2;go_ret3;exact ⟨_,by rw [sH.Z];rfl,by rw [sH.Z];exact bC.nil _ _,iW.Z⟩

end Go.Proofs.YtlcnhpjggjgnpaaGreatDoor