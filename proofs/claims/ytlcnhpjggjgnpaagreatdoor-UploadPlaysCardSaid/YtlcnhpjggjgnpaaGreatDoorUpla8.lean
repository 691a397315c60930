/- A part of the proof. -/
import Derived.Test.YtlcnhpjggjgnpaaGreatDoorUpla2
import Derived.Test.YtlcnhpjggjgnpaaGreatDoorUpla7
set_option linter.unusedSimpArgs false
set_option linter.unusedVariables false
set_option maxRecDepth 100000
set_option maxHeartbeats 1000000
namespace Go.Proofs.YtlcnhpjggjgnpaaGreatDoor
open Go.RowKit Go.MapKept
variable {c:UInt8}
def ww:aD:=⟨#[47]⟩
def iU (s:aD):List aD:=Lib.splitB ww 0 (Lib.countB s ww) s
def gf (s:aD):Bool:=decide (s.size<=128) && (iU s).all (λp=>lY p.toList)
def wy (w:World):Prop:=∃ m:Int,w.cell? ⟨kY.g 1,0,none⟩=some (.int .i64 m)
theorem wy.keep {w w':World} (h:wy w) (hk:ak w w'):wy w':=by obtain ⟨m,hm⟩:=h;exact ⟨m,(kK (hk.block _ (wT w _ hm) (λe=>e))).trans hm⟩
theorem zN (Vl:aD) (sv:Nat):∀ (k:Nat) (s:aD),∀ p ∈ Lib.splitB Vl sv k s,p.size<=s.size
 | 0,s,p,h=>by
  simp only [Lib.splitB,Fw] at h;rw [h];exact eQ _
 | k+1,s,p,h=>by
  rw [Lib.splitB] at h;split at h
  ·simp only [Fw] at h;rw [h];exact eQ _
  ·rcases List.mem_cons.1 h with h | h
   ·rw [h,ByteArray.size_extract];omega
   ·have:=zN Vl sv k _ p h;rw [ByteArray.size_extract] at this;omega
theorem xp (w:World) (hg:wy w) (s:aD):bF 40 #[.string s] w (bH w (.bool (gf s))):=by
 obtain ⟨m,hm⟩:=hg;by_cases hs:s.size<=128
 ·have EA:=ZU s ww m w (by omega) hm (by decide);have AJ:Lib.countB s ww+1=(iU s).length:=by unfold iU;rw [Lib.splitB_all ww (by decide) 0 _ s rfl]
  have jd:∀ p ∈ iU s,p.size<=128:=λp hp=>kT (zN _ _ _ _ p hp) hs;have hR:gf s=(iU s).all (λp=>lY p.toList):=by unfold gf;rw [decide_eq_true hs,Bool.true_and]
  rw [hR];have cU:(iU s).length<=129:=by have:=Lib.countB_le ww (by decide) s.size s (eQ _);omega
  rw [AJ] at EA;change Calls _ _ _ _ (λe w'=>_/\w'=w.alloc (.cells ((iU s).map Value.string).toArray 9)) at EA;generalize iU s=ps at EA jd cU ⊢;have eh:∀ k p,ps[k]?=some p->(w.alloc (.cells (ps.map Value.string).toArray 9)).cell? ⟨w.heap.size,k,none⟩=some (.string p):=λk p h=>ag (heap_alloc_new w _) (by simp [h]);have hk:=(ah.refl (λ_=>False) w).alloc (.cells (ps.map Value.string).toArray 9);have hpt:∀ k p,ps[k]?=some p->∀ W,aW 103 #[.string p] W (.bool (lY p.toList)) W:=λk p h W=>by
   have:=PT W p.toList (by have:=jd p (kx h);rw [ByteArray.toList_eq,Array.length_toList];exact kT this (by decide));have e:txt p.toList=p:=by unfold txt;rw [ByteArray.toList_eq]
   rw [e] at this;exact this
  have j0:(s.size:Int)<=128:=by omega
  have Wi:=ae EA;have HC:=ae eh;have HPT:=ae hpt;have HK:=ae hk;have j1:(ps.length:Int)<=129:=by omega
  generalize w.alloc (.cells (ps.map Value.string).toArray 9)=w1 at Wi HC HK;generalize w.heap.size=b0 at Wi HC;go_enter Tryz.func40,Tryz.ntmps40;go_wp2_with fail;refine Wi.Z.mono ?_;rintro e w' ⟨rfl,rfl⟩;go_wp2_with fail;go_loopw [4,11] (λ_ iv wx=>∃ k:Nat,iv= .int .i64 (k:Int)/\k<=ps.length/\(ps.take k).all (λp=>lY p.toList)=true/\w'=wx) (λ_ iv _=>ps.length - (intOf iv).toNat);case atStart=>exact ⟨0,rfl,fC _,rfl,rfl⟩
  case round=>
   obtain ⟨k,rfl,hk,rC,rfl⟩:=hrel;have k0:=np k;by_cases aX:k <ps.length
   ·obtain ⟨p,hp⟩:∃ p,ps[k]?=some p:=⟨_,js aX⟩;have dI:=HC.Z k p hp;have Wj:=HPT.Z k p hp;have j2:(k:Int) <ps.length:=by omega
    have VV:IntKind.i64.wrap ((k:Int)+1)=((k+1:Nat):Int):=by rw [qi _ (by omega)];omega
    cases hb:lY p.toList with
    | false=>
     rw [hb] at Wj;have HF:=ae (show ps.all (λp=>lY p.toList)=false from by rw [List.all_eq_false];exact ⟨p,kx hp,by rw [hb];decide⟩)
     go_wp2_with (go_at_call 103;refine (Wj _).Z.mono ?_;rintro e w' ⟨rfl,rfl⟩);go_ret;exact ⟨congrArg (λb=>Ending.returned (Value.bool b)) HF.Z.symm,HK.Z⟩
    | true=>
     rw [hb] at Wj;have HA:=ae (show (ps.take (k+1)).all (λp=>lY p.toList)=true from by rw [ym,hp,List.all_append,rC];simp [hb])
     have kC:=ae aX;go_wp2_with (go_at_call 103;refine (Wj _).Z.mono ?_;rintro e w' ⟨rfl,rfl⟩);go_roundw;case rel=>exact ⟨k+1,rfl,kC.Z,HA.Z,by first | rfl | trivial⟩
     case measure=>have:=kC.Z;simp [intOf];omega
   ·obtain rfl:k=ps.length:=by omega
    rw [jX] at rC;have HF:=ae rC;go_wp2;go_ret;exact ⟨congrArg (λb=>Ending.returned (Value.bool b)) HF.Z.symm,HK.Z⟩
 ·have hR:gf s=false:=by unfold gf;rw [decide_eq_false hs,Bool.false_and]
  rw [hR];have j0:¬(s.size:Int)<=128:=by omega
  have j1:(128:Int) <s.size:=by omega
  go_enter Tryz.func40,Tryz.ntmps40;go_wp2;go_ret;exact ⟨rfl,ah.refl _ _⟩
def fA (st:Nat) (c:UInt8):Option Nat:=
 if lL c=true then some 1
 else if c=47/\st=1 then some 0
 else if c=46/\st=1 then some 2
 else if c=95/\st=1 then some 3
 else if c=95/\st=3 then some 2
 else if c=45/\(st=1\/st=4) then some 4
 else none
def fe:Nat->aH->Option Nat
 | st,[]=>some st
 | st,c::l=>(fA st c).bind (λs=>fe s l)
def ZV (s:aD):Bool:=decide (fe 0 s.toList=some 1) && decide (s.size<=128)
theorem xq:∀ (a b:aH) (st:Nat),fe st (a++b)=(fe st a).bind (λs=>fe s b)
 | [],b,st=>rfl
 | c::a,b,st=>by
  show (fA st c).bind _=Option.bind ((fA st c).bind _) _;cases h:fA st c with
  | none=>rfl
  | some s=>exact xq a b s
theorem pK (h:lL c=true) (st:Nat) (l:aH):fe st (c::l)=fe 1 l:=by show (fA st c).bind _=_;unfold fA;rw [if_pos h];rfl
theorem xr:∀ (a b:aH),(∀ c ∈ a,lL c=true)->fe 1 (a++b)=fe 1 b
 | [],b,_=>rfl
 | c::a,b,h=>by rw [qV,pK (h c (gw ..))];exact xr a b (λx hx=>h x (nO _ hx))
theorem xt (h:lL c=false):fA 0 c=none:=by unfold fA;simp [h]
theorem rE {st:Nat} {l:aH} (h:st≠1) (h3:st=3->l.head?≠some 95) (h4:st=4->l.head?≠some 45):fe st l=some 1↔fe 0 l=some 1:=by
 cases l with
 | nil=>simp [fe,h]
 | cons c l=>
  cases hc:lL c with
  | true=>rw [pK hc,pK hc]
  | false=>
   have h1:fA st c=none:=by unfold fA;simp only [List.head?_cons,ne_eq,im] at h3 h4;rw [if_neg (by rw [hc];simp),if_neg (λe=>h e.2),if_neg (λe=>h e.2),if_neg (λe=>h e.2),if_neg (λe=>h3 e.2 e.1),if_neg (λe=>e.2.elim h (λe2=>h4 e2 e.1))]
   show (fA st c).bind _=_↔(fA 0 c).bind _=_;rw [h1,xt hc]
theorem xu:∀ l:aH,fe 4 l=fe 4 (l.drop (l.takeWhile (· ==45)).length)
 | []=>rfl
 | c::l=>by
  by_cases hc:c=45
  ·subst hc;have:fe 4 ((45:UInt8)::l)=fe 4 l:=by show (fA 4 45).bind _=_;rw [show fA 4 45=some 4 from by decide];rfl
   rw [this,xu l];simp
  ·simp [hc]
theorem yV (p:UInt8->Bool):∀ (l:aH) {c:UInt8},(l.drop (l.takeWhile p).length).head?=some c->p c=false
 | [],c,h=>by simp at h
 | x::l,c,h=>by
  cases hx:p x with
  | true=>
   rw [List.takeWhile_cons,hx,if_pos rfl,iM,Hp] at h;exact yV p l h
  | false=>rw [List.takeWhile_cons,hx] at h;simp only [nP,if_false,gN,Pa,List.head?_cons,im] at h;rw [<-h];exact hx
theorem ZW (p:UInt8->Bool) (l:aH):∀ c ∈ l.takeWhile p,p c=true:=λc hc=>by have:=List.all_takeWhile (p:=p) (l:=l);exact List.all_eq_true.1 this c hc
theorem MC {x:UInt8} (hx:lL x=false) (h:x≠47):fA 1 x=if x=46 then some 2 else if x=95 then some 3 else if x=45 then some 4 else none:=by unfold fA;simp [hx,h]
theorem tP:∀ (f:Nat) (l:aH),l.length <f->(47:UInt8) ∉ l->(pF f l=true↔fe 0 l=some 1)
 | 0,l,h,_=>absurd h (Nat.not_lt_zero _)
 | f+1,l,h,hs=>by
  have EA:l=l.takeWhile lL++l.drop (l.takeWhile lL).length:=by
   have h1:=List.takeWhile_append_dropWhile (p:=lL) (l:=l);have key:∀ (a b l:aH),l=a++b->l.drop a.length=b:=by rintro a b l rfl;exact Ht
   rw [key _ _ _ h1.symm];exact h1.symm
  have F8:=ZW lL l;have hhd:=λc=>yV lL l (c:=c);have cU:=congrArg List.length EA;rw [fS] at cU;rw [pF];generalize l.takeWhile lL=a at EA F8 cU hhd ⊢;generalize l.drop a.length=r at EA cU hhd ⊢;subst EA;cases a with
  | nil=>
   rw [if_pos (.inl rfl)];cases r with
   | nil=>simp [fe]
   | cons x r=>
    have hx:=hhd x rfl;have:fe 0 ([]++x::r)=none:=by show (fA 0 x).bind _=_;rw [xt hx];rfl
    rw [this];simp
  | cons y a=>
   have aT:fe 0 (y::a++r)=fe 1 r:=by rw [qV,pK (F8 y (gw ..))];exact xr a r (λc hc=>F8 c (nO _ hc))
   rw [aT];cases r with
   | nil=>
    rw [if_pos (.inr (by simp))];simp [fe]
   | cons x r=>
    have hx:=hhd x rfl;have ac5:x≠47:=λe=>hs (by rw [e];simp);have Wk:(47:UInt8) ∉ r:=λe=>hs (by simp [e]);have hlr:r.length <f:=by simp at h;omega
    rw [if_neg (by simp)];have bG:fe 1 (x::r)=(fA 1 x).bind (λs=>fe s r):=rfl;rw [bG,MC hx ac5];by_cases h46:x=46
    ·subst h46;have hm:fD ((46:UInt8)::r)=1:=by unfold fD;rw [if_neg (by cases r <;>simp),if_pos (.inl rfl)]
     rw [hm,if_neg (by omega),if_pos rfl];show pF f r=true↔fe 2 r=some 1;rw [rE (by omega) (by omega) (by omega)];exact tP f r hlr Wk
    rw [if_neg h46];by_cases h95:x=95
    ·subst h95;rw [if_pos (rfl:(95:UInt8)=95)];cases r with
     | nil=>
      have wZ:pF f []=false:=by
       cases f with
       | zero=>rfl
       | succ f=>rw [pF,if_pos (.inl (by simp))];simp
      show (if fD [95]=0 then false else pF f (([95]:aH).drop (fD [95])))=true↔fe 3 []=some 1;rw [show fD [95]=1 from by decide,if_neg (by omega)];show pF f []=true↔some 3=some 1;rw [wZ];simp
     | cons z r=>
      by_cases hz:z=95
      ·subst hz;have hm:fD ((95:UInt8)::95::r)=2:=by unfold fD;rw [if_pos (by simp)]
       rw [hm,if_neg (by omega)];have h3:fe 3 ((95:UInt8)::r)=fe 2 r:=by show (fA 3 95).bind _=_;rw [show fA 3 95=some 2 from by decide];rfl
       show pF f r=true↔fe 3 ((95:UInt8)::r)=some 1;rw [h3];rw [rE (by omega) (by omega) (by omega)];exact tP f r (by simp at hlr;omega) (λe=>Wk (by simp [e]))
      ·have hm:fD ((95:UInt8)::z::r)=1:=by unfold fD;rw [if_neg (by simp [hz]),if_pos (.inr rfl)]
       rw [hm,if_neg (by omega)];show pF f (z::r)=true↔fe 3 (z::r)=some 1;rw [rE (by omega) (λ_=>by simp [hz]) (by omega)];exact tP f (z::r) hlr Wk
    rw [if_neg h95];have hmk:fD (x::r)=((x::r).takeWhile (· ==45)).length:=by unfold fD;rw [if_neg (by cases r <;>simp [h95]),if_neg (by simp [h46,h95])]
    rw [hmk];by_cases h45:x=45
    ·subst h45;rw [if_pos (rfl:(45:UInt8)=45)];have ht:((45:UInt8)::r).takeWhile (· ==45)=45::r.takeWhile (· ==45):=by simp
     rw [ht,iM,if_neg (by omega),Hp];show _↔fe 4 r=some 1;have hh:=λc=>yV (· ==45) r (c:=c);rw [xu r,rE (by omega) (by omega) (λ_ e=>by have:=hh 45 e;simp at this)];refine tP f _ (by rw [iN];omega) (λe=>Wk (List.mem_of_mem_drop e))
    ·have ht:(x::r).takeWhile (· ==45)=[]:=by simp [h45]
     rw [ht,if_pos (show ([]:aH).length=0 from rfl),if_neg h45];simp
theorem BW {l:aH} (h:(47:UInt8) ∉ l):lY l=true↔fe 0 l=some 1:=tP _ l (Nat.lt_succ_self _) h
theorem S9 (a b:aH):fe 0 (a++47::b)=some 1↔fe 0 a=some 1/\fe 0 b=some 1:=by
 rw [xq];cases h:fe 0 a with
 | none=>simp
 | some s=>
  show (fA s 47).bind _=_↔_;by_cases e:s=1
  ·subst e;rw [show fA 1 47=some 0 from by decide];simp
  ·have:fA s 47=none:=by unfold fA;rw [if_neg (by decide),if_neg (λx=>e x.2),if_neg (by simp),if_neg (by simp),if_neg (by simp),if_neg (by simp)]
   rw [this];simp [e]
theorem Ox:∀ l:aH,(Lib.index l [47]=-1/\(47:UInt8) ∉ l)\/∃ i:Nat,Lib.index l [47]=(i:Int)/\l=l.take i++47::l.drop (i+1)/\(47:UInt8) ∉ l.take i
 | []=> .inl ⟨by decide,by simp⟩
 | c::l=>by
  rw [Lib.index_one];by_cases hc:c=47
  ·subst hc;exact .inr ⟨0,by simp [Lib.indexByte],by simp,by simp⟩
  ·rcases Ox l with ⟨h1,h2⟩ | ⟨i,h1,h2,h3⟩
   ·rw [Lib.index_one] at h1;refine .inl ⟨?_,by simp [h2,Ne.symm hc]⟩;simp [Lib.indexByte,hc,h1]
   ·rw [Lib.index_one] at h1;refine .inr ⟨i+1, ?_, ?_, ?_⟩
    ·simp only [Lib.indexByte];simp [hc,h1]
    ·conv=>lhs;rw [h2]
     simp
    ·simp [h3,Ne.symm hc]
theorem EO:∀ (n:Nat) (l:aH),l.length<=n->((Lib.splitK [47] 0 (Lib.count l [47]) l).all lY=true↔fe 0 l=some 1)
 | n,l,hn=>by
  rcases Ox l with ⟨h1,h2⟩ | ⟨i,h1,h2,h3⟩
  ·rw [Lib.count_miss h1];simp only [Lib.splitK,List.all_cons,List.all_nil,Bool.and_true];exact BW h2
  ·have hl:=congrArg List.length h2;rw [fS,iM] at hl;match n,hn with
   | 0,hn=>omega
   | n+1,hn=>
    have hd:(l.drop (i+1)).length<=n:=by rw [iN];omega
    rw [Lib.count_hit (by simp) h1,Nat.add_comm 1,Lib.splitK,if_neg (by rw [h1];simp),h1,yn,Nat.add_zero];show (l.take i::Lib.splitK [47] 0 (Lib.count (l.drop (i+1)) [47]) (l.drop (i+1))).all lY=true↔_;rw [List.all_cons,Be,BW h3,EO n _ hd];conv=>rhs;rw [h2]
    exact (S9 _ _).symm
theorem Wl (s:aD):ZV s=gf s:=by
 have h1:(iU s).all (λp=>lY p.toList)=((iU s).map (·.data.toList)).all lY:=by rw [List.all_map];congr 1;funext p;simp [ByteArray.toList_eq]
 have h2:(iU s).map (·.data.toList)=Lib.splitK [47] 0 (Lib.count s.data.toList [47]) s.data.toList:=Lib.splitB_data ww 0 _ s;unfold ZV gf;rw [h1,h2,Bool.and_comm];congr 1;rw [Fz,EO _ _ (eQ _),decide_eq_true_eq,ByteArray.toList_eq]
theorem Dp (w:World) (c:UInt8):aW 178 #[.int .u8 (c.toNat:Int)] w (.bool (lL c)) w:=by
 unfold aW lL;generalize c.toNat=n;by_cases h1:97<=n
 ·have i1:(97:Int)<=n:=by omega
  have i3:(48:Int)<=n:=by omega
  have i4:¬(n:Int)<=57:=by omega
  by_cases h2:n<=122
  ·have i2:(n:Int)<=122:=by omega
   go_enter Tryz.func178,Tryz.ntmps178;go_wp2;go_ret;exact ⟨by simp [h1,h2],rfl⟩
  ·have i2:¬(n:Int)<=122:=by omega
   go_enter Tryz.func178,Tryz.ntmps178;go_wp2;go_ret;exact ⟨by simp [h2];omega,rfl⟩
 ·have i1:¬(97:Int)<=n:=by omega
  by_cases h3:48<=n
  ·have i3:(48:Int)<=n:=by omega
   by_cases h4:n<=57
   ·have i4:(n:Int)<=57:=by omega
    go_enter Tryz.func178,Tryz.ntmps178;go_wp2;go_ret;exact ⟨by simp [h1,h3,h4],rfl⟩
   ·have i4:¬(n:Int)<=57:=by omega
    go_enter Tryz.func178,Tryz.ntmps178;go_wp2;go_ret;exact ⟨by simp [h1,h4],rfl⟩
  ·have i3:¬(48:Int)<=n:=by omega
   go_enter Tryz.func178,Tryz.ntmps178;go_wp2;go_ret;exact ⟨by simp [h1,h3],rfl⟩
theorem Oy {n:Nat} (hn:n <256):((c.toNat:Int)==(n:Int))=decide (c=UInt8.ofNat n):=by
 have h:(UInt8.ofNat n).toNat=n:=by simp;omega
 by_cases e:c=UInt8.ofNat n
 ·rw [decide_eq_true e,e,h];simp
 ·rw [decide_eq_false e,beq_eq_false_iff_ne];intro h2;exact e (UInt8.toNat_inj.1 (by rw [h];omega))
theorem Ta (c:UInt8) (s:Nat) (n t:Int) (hn:n=(c.toNat:Int)) (ht:t=(s:Int)): (lL c=true/\fA s c=some 1)\/(lL c=false/\ ((∃ s':Nat,s'<=4/\fA s c=some s'/\ (((n==47)=true/\(t==1)=true/\s'=0)\/ ((n==47)=false/\(n==46)=true/\(t==1)=true/\s'=2)\/ ((n==47)=false/\(n==46)=false/\(n==95)=true/\(t==1)=true/\s'=3)\/ ((n==47)=false/\(n==46)=false/\(n==95)=true/\(t==1)=false/\(t==3)=true/\s'=2)\/ ((n==47)=false/\(n==46)=false/\(n==95)=false/\(n==45)=true/\(t==1)=true/\s'=4)\/ ((n==47)=false/\(n==46)=false/\(n==95)=false/\(n==45)=true/\(t==1)=false/\(t==4)=true/\s'=4)))\/ (fA s c=none/\ (((n==47)=true/\(n==46)=false/\(n==95)=false/\(n==45)=false/\(t==1)=false)\/ ((n==47)=false/\(n==46)=true/\(n==95)=false/\(n==45)=false/\(t==1)=false)\/ ((n==47)=false/\(n==46)=false/\(n==95)=true/\(n==45)=false/\(t==1)=false/\(t==3)=false)\/ ((n==47)=false/\(n==46)=false/\(n==95)=false/\(n==45)=true/\(t==1)=false/\(t==4)=false)\/ ((n==47)=false/\(n==46)=false/\(n==95)=false/\(n==45)=false))))):=by
 have q47:(n==47)=decide (c=47):=by rw [hn];exact Oy (n:=47) (by omega)
 have q46:(n==46)=decide (c=46):=by rw [hn];exact Oy (n:=46) (by omega)
 have q95:(n==95)=decide (c=95):=by rw [hn];exact Oy (n:=95) (by omega)
 have q45:(n==45)=decide (c=45):=by rw [hn];exact Oy (n:=45) (by omega)
 have t1:(t==1)=decide (s=1):=by rw [Fz,beq_iff_eq,decide_eq_true_eq];omega
 have t3:(t==3)=decide (s=3):=by rw [Fz,beq_iff_eq,decide_eq_true_eq];omega
 have t4:(t==4)=decide (s=4):=by rw [Fz,beq_iff_eq,decide_eq_true_eq];omega
 rw [q47,q46,q95,q45,t1,t3,t4];unfold fA;cases hs:lL c with
 | true=>exact .inl ⟨rfl,by simp⟩
 | false=>
  refine .inr ⟨rfl, ?_⟩;by_cases e1:c=47
  ·subst e1;by_cases h1:s=1
   ·exact .inl ⟨0,by omega,by simp [h1],.inl ⟨rfl,by simp [h1],rfl⟩⟩
   ·exact .inr ⟨by simp [h1],.inl ⟨rfl,rfl,rfl,rfl,by simp [h1]⟩⟩
  by_cases e2:c=46
  ·subst e2;by_cases h1:s=1
   ·exact .inl ⟨2,by omega,by simp [h1],.inr (.inl ⟨rfl,rfl,by simp [h1],rfl⟩)⟩
   ·exact .inr ⟨by simp [h1],.inr (.inl ⟨rfl,rfl,rfl,rfl,by simp [h1]⟩)⟩
  by_cases e3:c=95
  ·subst e3;by_cases h1:s=1
   ·exact .inl ⟨3,by omega,by simp [h1],.inr (.inr (.inl ⟨rfl,rfl,rfl,by simp [h1],rfl⟩))⟩
   ·by_cases h3:s=3
    ·exact .inl ⟨2,by omega,by simp [h3],.inr (.inr (.inr (.inl ⟨rfl,rfl,rfl,by simp [h3],by simp [h3],rfl⟩)))⟩
    ·exact .inr ⟨by simp [h1,h3],.inr (.inr (.inl ⟨rfl,rfl,rfl,rfl,by simp [h1],by simp [h3]⟩))⟩
  by_cases e4:c=45
  ·subst e4;by_cases h1:s=1
   ·exact .inl ⟨4,by omega,by simp [h1],.inr (.inr (.inr (.inr (.inl ⟨rfl,rfl,rfl,rfl,by simp [h1],rfl⟩))))⟩
   ·by_cases h3:s=4
    ·exact .inl ⟨4,by omega,by simp [h3],.inr (.inr (.inr (.inr (.inr ⟨rfl,rfl,rfl,rfl,by simp [h3],by simp [h3],rfl⟩))))⟩
    ·exact .inr ⟨by simp [h1,h3],.inr (.inr (.inr (.inl ⟨rfl,rfl,rfl,rfl,by simp [h1],by simp [h3]⟩)))⟩
  exact .inr ⟨by simp [e1,e2,e3,e4],.inr (.inr (.inr (.inr ⟨by simp [e1],by simp [e2],by simp [e3],by simp [e4]⟩)))⟩
theorem tQ (w:World) (s0:aD) (hs:s0.size<=9223372036854775807):aW 141 #[.string s0] w (.bool (gf s0)) w:=by
 obtain ⟨l,hl⟩:=cE (s0.toList);have e:s0=txt l:=by rw [hl];unfold txt;rw [ByteArray.toList_eq]
 obtain ⟨R,hR⟩:=exp (fe 0 l);have ZX:gf s0=(decide (R=some 1) && decide (s0.size<=128)):=by rw [<-Wl];unfold ZV;rw [<-hl,hR]
 rw [ZX,e];rw [e] at hs;have hz:((txt l).size:Int)=(l.length:Int):=by rw [iQ]
 have jO:(txt l).size=l.length:=iQ l;have HX:=ae (λ(k:Nat) (d:UInt8) (h:l[k]?=some d) W=>yF (W:=W) h);have HR:=ae hR;have j0:(l.length:Int)<=9223372036854775807:=by rw [jO] at hs;omega
 have HS:=ae jO;clear hl e ZX hR hs jO;unfold aW;generalize txt l=s at HX hz HS ⊢;go_enter Tryz.func141,Tryz.ntmps141;go_wp2_with fail;go_loopw [3,4] (λsv iv wx=>∃ k st:Nat,iv= .int .i64 (k:Int)/\sv= .int .i64 (st:Int)/\k<=l.length/\fe st (l.drop k)=R/\w=wx) (λ_ iv _=>l.length - (intOf iv).toNat);case atStart=>exact ⟨0,0,rfl,rfl,fC _,HR.Z,rfl⟩
 case round=>
  obtain ⟨k,st,rfl,rfl,hk,aT,rfl⟩:=hrel;clear HR;have k0:=np k;by_cases aX:k <l.length
  ·obtain ⟨c,hc⟩:∃ c,l[k]?=some c:=⟨_,js aX⟩;have hdr:l.drop k=c::l.drop (k+1):=by rw [pQ aX];rw [js aX] at hc;cases hc;rfl
   rw [hdr] at aT;have hx:=HX.Z k c hc;have wN:=ae (λW=>Dp W c);have j1:(k:Int) <l.length:=by omega
   have kC:=ae aX;obtain ⟨n,hn⟩:∃ n:Int,n=(c.toNat:Int):=⟨_,rfl⟩;obtain ⟨t,ht⟩:∃ t:Int,t=(st:Int):=⟨_,rfl⟩;have pS:=Ta c st n t hn ht;have iY:(fA st c).bind (λs=>fe s (l.drop (k+1)))=R:=aT;rw [<-hn] at hx wN;rw [<-ht];clear hc hdr aT aX hk hn ht;rcases pS with ⟨kW,bG⟩ | ⟨kW,⟨s',hs',bG,pS⟩ | ⟨bG,pS⟩⟩
   ·rw [bG] at iY;rw [kW] at wN;have cV:=ae (show fe 1 (l.drop (k+1))=R from iY);clear bG iY kW;go_wp2_with (go_at_call 178;refine (wN.Z _).Z.mono ?_;rintro e w' ⟨rfl,rfl⟩);go_roundw;case rel=>exact ⟨k+1,1,by simp,rfl,kC.Z,cV.Z,by first | rfl | trivial⟩
    case measure=>have:=kC.Z;simp [intOf];omega
   ·rw [bG] at iY;rw [kW] at wN;have cV:=ae (show fe s' (l.drop (k+1))=R from iY);clear bG iY kW hs';rcases pS with ⟨b1,b2,e⟩ | ⟨b1,b2,b3,e⟩ | ⟨b1,b2,b3,b4,e⟩ | ⟨b1,b2,b3,b4,b5,e⟩ | ⟨b1,b2,b3,b4,b5,e⟩ | ⟨b1,b2,b3,b4,b5,b6,e⟩;all_goals
     have HE:=ae e;clear e;go_wp2_with (go_at_call 178;refine (wN.Z _).Z.mono ?_;rintro e w' ⟨rfl,rfl⟩);go_roundw;case rel=>exact ⟨k+1,s',by simp,by rw [HE.Z];rfl,kC.Z,cV.Z,by first | rfl | trivial⟩
     case measure=>have:=kC.Z;simp [intOf];omega
   ·rw [bG] at iY;rw [kW] at wN;have cV:=ae (show R=none from iY.symm);clear bG iY kW;rcases pS with ⟨b1,b2,b3,b4,b5⟩ | ⟨b1,b2,b3,b4,b5⟩ | ⟨b1,b2,b3,b4,b5,b6⟩ | ⟨b1,b2,b3,b4,b5,b6⟩ | ⟨b1,b2,b3,b4⟩;all_goals
     go_wp2_with (go_at_call 178;refine (wN.Z _).Z.mono ?_;rintro e w' ⟨rfl,rfl⟩);go_ret;exact ⟨by rw [cV.Z];rfl,rfl⟩
  ·obtain rfl:k=l.length:=by omega
   rw [pR] at aT;have iY:some st=R:=aT;have j2:¬(l.length:Int) <l.length:=by omega
   clear aT aX hk HX;by_cases h1:st=1
   ·have t1:((st:Int)==1)=true:=by rw [h1];rfl
    have cV:=ae (show R=some 1 from by rw [<-iY,h1]);clear h1 iY;by_cases h2:l.length<=128
    ·have j3:(l.length:Int)<=128:=by omega
     have H2:=ae h2;clear h2;go_wp2;go_ret;exact ⟨by rw [cV.Z,HS.Z,decide_eq_true H2.Z];rfl,rfl⟩
    ·have j3:¬(l.length:Int)<=128:=by omega
     have H2:=ae h2;clear h2;go_wp2;go_ret;exact ⟨by rw [cV.Z,HS.Z,decide_eq_false H2.Z];rfl,rfl⟩
   ·have t1:((st:Int)==1)=false:=by rw [beq_eq_false_iff_ne];omega
    have cV:=ae (show decide (R=some 1)=false from by rw [<-iY];simp [h1]);clear h1 iY;go_wp2;go_ret;exact ⟨by rw [cV.Z];rfl,rfl⟩

end Go.Proofs.YtlcnhpjggjgnpaaGreatDoor