/- A part of the proof. -/
import Derived.Test.YtlcnhpjggjgnpaaGreatDoorUplb7
import Derived.Test.YtlcnhpjggjgnpaaGreatDoorUplb8
set_option linter.unusedSimpArgs false
set_option linter.unusedVariables false
set_option maxRecDepth 100000
set_option maxHeartbeats 1000000
namespace Go.Proofs.YtlcnhpjggjgnpaaGreatDoor
open Go.RowKit Go.MapKept
variable {N k:Nat} {R:Int} {T:TM} {c:Ch} {f:aD} {fs:FS} {m:DM} {x y:Fn}
structure DS where
 m:DM
 aQ:List aH
 fs:FS
 dn:Bool
def DS.tm (s:DS):TM:=⟨s.m,(aj s.aQ).length,s.fs,s.dn⟩
def fG:List (eT × Value)->List Value
 | []=>[]
 | p::P=> .int .i64 p.1.id:: .int .i64 p.1.bo:: .string p.1.au::p.2::fG P
theorem ug:∀ P:List (eT × Value),(fG P).length=P.length*4
 | []=>rfl
 | p::P=>by simp [fG,ug P];omega
theorem uh:∀ P Q:List (eT × Value),fG (P++Q)=fG P++fG Q
 | [],Q=>rfl
 | p::P,Q=>by simp [fG,uh P Q]
theorem Ag:∀ {P:List (eT × Value)} {i:Nat} {x:eT} {v:Value},P[i]?=some (x,v)-> (fG P)[i*4]?=some (.int .i64 x.id)/\(fG P)[i*4+1]?=some (.int .i64 x.bo)/\(fG P)[i*4+2]?=some (.string x.au)/\(fG P)[i*4+3]?=some v
 | [],i,x,v,h=>by simp at h
 | p::P,0,x,v,h=>by
  simp only [vP,im] at h;subst h;exact ⟨rfl,rfl,rfl,rfl⟩
 | p::P,i+1,x,v,h=>by have:=Ag (P:=P) (i:=i) (by simpa using h);rw [show (i+1)*4=i*4+1+1+1+1 by omega,show i*4+1+1+1+1+1=i*4+1+1+1+1+1 from rfl];simpa [fG] using this
theorem Ah:∀ {P:List (eT × Value)} {i:Nat} {x:eT} {v v':Value} {b:aH},P[i]?=some (x,v)->(fG P).set (i*4+3) v'=fG (P.set i (⟨x.id,x.au,x.bo,b⟩,v'))
 | [],i,x,v,v',b,h=>by simp at h
 | p::P,0,x,v,v',b,h=>by
  simp only [vP,im] at h;subst h;rfl
 | p::P,i+1,x,v,v',b,h=>by have:=Ah (P:=P) (i:=i) (v':=v') (b:=b) (by simpa using h);rw [show (i+1)*4+3=i*4+3+1+1+1+1 by omega];simp only [fG,List.set_cons_succ,this]
def mV (S:List (Value × aH)) (P:List (eT × Value)):Prop:=∀ p ∈ P,(p.2,p.1.b) ∈ S
def kQ (r t:Nat) (next:Int) (v:Value):Obj:= .cells #[.pointer (some ⟨r,0,none⟩),.pointer (some ⟨t,0,none⟩),.int .i64 next,v] 99
theorem jI {w:World} {u r t:Nat} {next:Int} {v:Value} (h:w.heap[u]?=some (kQ r t next v)): w.cell? ⟨u,0,none⟩=some (.pointer (some ⟨r,0,none⟩))/\w.cell? ⟨u,1,none⟩=some (.pointer (some ⟨t,0,none⟩))/\w.cell? ⟨u,2,none⟩=some (.int .i64 next)/\w.cell? ⟨u,3,none⟩=some v/\∀ i,w.frozen? ⟨u,i,none⟩=false:=
 ⟨ag h rfl,ag h rfl,ag h rfl,ag h rfl,λi=>cL h i⟩
abbrev Cn {B:Nat} (v:Value) (P:List (eT × Value)):bB B:=p8 v 189 4 P.length (fG P)
def ay {B:Nat} (r t u:Nat) (next:Int) (v:Value) (P:List (eT × Value)) (S:List (Value × aH)):List (bB B):=[aA u (kQ r t next v),Cn v P,GD S]
abbrev bZ {B:Nat} (r q t:Nat) (nm:aD) (s:DS) (v lv:Value):List (bB B):=OQ r q t nm s.m s.aQ v lv s.fs s.dn
def ui (L:List eT) (id:Int):Int:=match L.findIdx? (λx=>decide (x.id=id)) with | some i=>(i:Int) | none=>-1
theorem Ff {L:List eT} {id:Int} {i:Nat} {x:eT} (hx:L[i]?=some x) (he:x.id=id) (hn:∀ (j:Nat) y,j <i->L[j]?=some y->y.id≠id):ui L id=(i:Int):=by
 have:L.findIdx? (λx=>decide (x.id=id))=some i:=by rw [List.findIdx?_eq_some_iff_getElem];obtain ⟨hi,e⟩:=List.getElem?_eq_some_iff.1 hx;refine ⟨hi,by rw [e,decide_eq_true_eq];exact he,λj hj=> ?_⟩;have:=hn j L[j] hj (js _);simpa using this
 unfold ui;rw [this]
theorem Fg {L:List eT} {id:Int} (hn:∀ y ∈ L,y.id≠id):ui L id=-1:=by
 have:L.findIdx? (λx=>decide (x.id=id))=none:=by rw [Vw];intro y hy;simpa using hn y hy
 unfold ui;rw [this]
section
variable {w wr:World} {u r t:Nat} {next:Int} {v:Value} {P:List (eT × Value)} {rs:List (bB w.heap.size)}
theorem Own.qP (h:Own w wr rs) (hm:Cn v P ∈ rs):(∃ a c,v= .slice a P.length c/\P.length<=c/\c<=maxLen)/\∀ i x bv,P[i]?=some (x,bv)->∃ g c,v= .slice (some ⟨g,0,none⟩) P.length c/\ wr.cell? ⟨g,i*4,none⟩=some (.int .i64 x.id)/\wr.cell? ⟨g,i*4+1,none⟩=some (.int .i64 x.bo)/\wr.cell? ⟨g,i*4+2,none⟩=some (.string x.au)/\wr.cell? ⟨g,i*4+3,none⟩=some bv:=by
 have ho:=h.raw hm;refine ⟨?_,λi x bv hi=> ?_⟩
 ·rcases ho.2 with ⟨e,e2⟩ | ⟨g,cap,gp,e,_,_,k1,k2,_⟩
  ·exact ⟨none,0,by rw [e,e2],by omega,by simp [maxLen]⟩
  ·exact ⟨_,cap,e,k1,k2⟩
 ·obtain ⟨c0,c1,c2,c3⟩:=Ag hi;rcases ho.2 with ⟨e,e2⟩ | ⟨g,cap,gp,e,_⟩
  ·have:=(List.getElem?_eq_some_iff.1 hi).1;omega
  ·subst e;have y9:∀ i u,(fG P)[i]?=some u->wr.cell? ⟨g,i,none⟩=some u:=λi u hu=>by have:=ho.cells (g:=g) rfl i u hu;simpa [iV] using this
   exact ⟨g,cap,rfl,y9 _ _ c0,y9 _ _ c1,y9 _ _ c2,y9 _ _ c3⟩
theorem iE (h:Own w wr rs) (hu:aA u (kQ r t next v) ∈ rs) (hm:Cn v P ∈ rs) (hl:P.length <1099511627776) (id:Int): aW 88 #[.pointer (some ⟨u,0,none⟩),.int .i64 id] wr (.int .i64 (ui (P.map (·.1)) id)) wr:=by
 unfold aW;obtain ⟨⟨va,vc,rfl,-,-⟩,hc⟩:=h.qP hm;obtain ⟨-,-,-,c3,-⟩:=jI (h.at hu).1;obtain ⟨R,hR⟩:=exp (ui (P.map (·.1)) id);rw [hR];have HR:=ae hR;have HC:=ae hc;have j9:(P.length:Int) <1099511627776:=by omega
 go_enter Tryz.func88,Tryz.ntmps88;go_wp2_with fail;go_loopw [5] (λiv wx=>∃ k:Nat,iv= .int .i64 (k:Int)/\k<=P.length/\(∀ (j:Nat) y,j <k->(P.map (·.1))[j]?=some y->y.id≠id)/\wr=wx) (λiv _=>P.length - (intOf iv).toNat);case atStart=>exact ⟨0,rfl,fC _,λj y hj=>absurd hj (Nat.not_lt_zero _),rfl⟩
 case round=>
  obtain ⟨k,rfl,hk,sP,rfl⟩:=hrel;have k0:=np k;by_cases aX:k <P.length
  ·obtain ⟨⟨x,bv⟩,hx⟩:∃ p,P[k]?=some p:=⟨_,js aX⟩;obtain ⟨g,c,e,q0,-,-,-⟩:=HC.Z k x bv hx;cases e;have wa:(P.map (·.1))[k]?=some x:=by simp [hx]
   have j1:(k:Int) <P.length:=by omega
   by_cases he:x.id=id
   ·have HF:=ae (Ff wa he sP);have b1:(x.id==id)=true:=by simpa using he
    go_wp2;go_ret;exact ⟨by rw [<-HR.Z,HF.Z];rfl,rfl⟩
   ·have HN:=ae (show ∀ (j:Nat) y,j <k+1->(P.map (·.1))[j]?=some y->y.id≠id from λj y hj hy=>by
     by_cases e:j=k
     ·rw [e,wa] at hy;cases hy;exact he
     ·exact sP j y (by omega) hy)
    have b1:(x.id==id)=false:=by simpa using he
    have kC:=ae aX;go_wp2;go_roundw;case rel=>exact ⟨k+1,by simp,kC.Z,HN.Z,by first | rfl | trivial⟩
    case measure=>have:=kC.Z;simp [intOf];omega
  ·obtain rfl:k=P.length:=by omega
   have HF:=ae (Fg (L:=P.map (·.1)) (id:=id) (λy hy=>by obtain ⟨j,hj,e⟩:=List.getElem_of_mem hy;exact sP j y (by simpa using hj) (by rw [js hj,e])))
   have j2:¬(P.length:Int) <P.length:=by omega
   go_wp2;go_ret;exact ⟨by rw [<-HR.Z,HF.Z];rfl,rfl⟩
theorem Fh:(Tryz.prog.info? 189).map (λi=>(i.zero,i.size,i.bytes))=some (some (.agg #[.int .i64 0,.int .i64 0,.string ⟨#[]⟩,.slice none 0 0]),4,56):=by kernel_rfl
theorem Own.Nn (h:Own w wr (Cn v P::rs)) (x:eT) {bv:Value} (JW:bv.oneCell'=true) (hn:P.length <1099511627776): ∃ a c w',(Builtin.append_ #[97,97] 97 #[v,.slice (some ⟨wr.heap.size,0,none⟩) 1 1]).run Tryz.prog (wr.alloc (.cells #[.int .i64 x.id,.int .i64 x.bo,.string x.au,bv] 189))= .ok (.slice a (P.length+1) c) w'/\ Own w w' (Cn (.slice a (P.length+1) c) (P++[(x,bv)])::rs):=by
 have h1:=h.quiet ((ah.refl _ wr).alloc (.cells #[.int .i64 x.id,.int .i64 x.bo,.string x.au,bv] 189));obtain ⟨F,⟨h2,h3⟩,hF,back⟩:=h1.jT;obtain ⟨i0,hi,yW,iH,jO⟩:=info_parts Fh;obtain ⟨v',w',aT,dy,hg,_,jP⟩:=run_append_own_at (P:=Tryz.prog) (wr.alloc (.cells #[.int .i64 x.id,.int .i64 x.bo,.string x.au,bv] 189)) 0 97 97 189 i0 _ 4 56 Tryz.underlying97 hi yW iH jO rfl (by omega) v P.length (fG P) h2 ⟨wr.heap.size,0,none⟩ 1 1 [.int .i64 x.id,.int .i64 x.bo,.string x.au,bv] rfl
  (λj u hu=>by rw [iV,fw];exact ag (heap_alloc_new wr _) (by simpa using hu))
  (by intro u hu;simp at hu;rcases hu with rfl | rfl | rfl | rfl;rfl;rfl;rfl;exact JW) (by unfold maxLen;omega) (by omega) (fC _)
 obtain ⟨a,c,rfl⟩:=bA dy;have aX:=dy.lt;have e1:fG P++[.int .i64 x.id,.int .i64 x.bo,.string x.au,bv]=fG (P++[(x,bv)]):=by rw [uh];rfl
 have e2:(P++[(x,bv)]).length=P.length+1:=by simp
 rw [e1] at dy;refine ⟨a,c,w',aT,back w' (Cn (.slice a (P.length+1) c) (P++[(x,bv)])) ((ah.fH hg).mono (λb _ e=>h3 b e)) ⟨by rw [e2];exact dy,λb hb=> ?_⟩⟩;rcases jP with jP | jP
 ·rw [jP] at hb;exact .inl (h3 b hb)
 ·have hl:=aX b hb;rw [jP] at hb;cases hb;exact .inr ⟨eQ _,hl.2⟩
theorem Own.ab0 {g c i:Nat} {x:eT} {bv bv':Value} {b':aH} (h:Own w wr (Cn (.slice (some ⟨g,0,none⟩) P.length c) P::rs)) (hx:P[i]?=some (x,bv)): Own w (wr.setCell ⟨g,i*4+3,none⟩ bv') (Cn (.slice (some ⟨g,0,none⟩) P.length c) (P.set i (⟨x.id,x.au,x.bo,b'⟩,bv'))::rs):=by
 obtain ⟨F,⟨h1,h1b⟩,h2,back⟩:=h.jT;obtain ⟨q1,q2⟩:=h1;rcases q2 with ⟨e,_⟩ | ⟨g',cap,gp,e,hF,hb,r1,r2,r3,r4⟩
 ·cases e
 ·cases e;have hi:=(List.getElem?_eq_some_iff.1 hx).1;have hgF:F g:=h1b g rfl;refine back _ (Cn (.slice (some ⟨g,0,none⟩) P.length c) (P.set i (⟨x.id,x.au,x.bo,b'⟩,bv'))) ((ah.refl F wr).setCell (λ_=>hgF) bv') ⟨⟨?_,.inr ⟨g,c,_, ?_,hF,bf hb (i*4+3) bv', ?_,r2,by simpa using r3, ?_⟩⟩,λb hb=> .inl (h1b b hb)⟩
  ·rw [yo,ug,yo]
  ·rw [yo]
  ·rw [yo];exact r1
  ·rw [<-Ah (v':=bv') (b:=b') hx,<-r4,Array.toList_setIfInBounds,yo,List.take_set]
theorem Own.Yw (h:Own w wr rs):Own w wr (Cn (.slice none 0 0) []::rs):=
 h.add (ah.refl _ _) (r:=Cn (.slice none 0 0) []) (G:=λ_=>False) ⟨⟨rfl,.inl ⟨rfl,rfl⟩⟩,λb hb=>by cases hb⟩ (λb hb=>hb.elim)
end
theorem uj {w:World} (au:aD) (bo:Int) (x:Nat) (hx:IntKind.u64.wrap bo=(x:Int)) (wa:x <18446744073709551616) {ev:Value} {e:aH} (he:aC w ev e) (hel:e.length<=32) (hr:au.size<=1048576): bF 143 #[.int .i64 bo,.string au,ev] w (nW w (cD au x e)):=by
 have Vm:bC (w.alloc (.cells #[dF (UInt8.ofNat e.length)] 5)) w.heap.size (.slice (some ⟨w.heap.size,0,none⟩) 1 1) [UInt8.ofNat e.length]:=EL w (UInt8.ofNat e.length);have Wm:ak w (w.alloc (.cells #[dF (UInt8.ofNat e.length)] 5)):=(ah.refl _ _).alloc _;have hc8:IntKind.u8.wrap (e.length:Int)=((UInt8.ofNat e.length).toNat:Int):=by
  have h:(UInt8.ofNat e.length).toNat=e.length:=by simp;omega
  rw [h];simp [IntKind.wrap,IntKind.bits,IntKind.signed];omega
 obtain ⟨v3,w3,jw,fy,dN⟩:=bC.grow (by simp only [World.size_alloc];omega) Vm (he.keep Wm) (by simp only [iM,gN];omega);have sC:ak w w3:=Wm.trans dN (λb hb e=>by have:=du Vm b e;omega);have hp:=ke w3 x 8 wa (by omega) (by omega);obtain ⟨a,c,rfl,-,-⟩:=he.aG;obtain ⟨a3,c3,rfl,-,-⟩:=fy.bytes.aG;have pU:=ae sC;have De:=ae fy;have HZ3:=ae sC.size;have HP:=ae hp;have zF:=ae jw;have HEL:=ae hel;have ZN:=ae hr;have HCV:=ae (λW=>oZ au (by omega) W);have HL:=ae (show cD au x e=[UInt8.ofNat e.length]++e++aL x 8++au.toList from rfl);have Tc:=ae (show ∀ c:UInt8,([c]++e).length<=33 from λc=>by simp only [fS,iM,gN];omega);generalize ([UInt8.ofNat e.length]++e).length=n3 at zF De;generalize UInt8.ofNat e.length=c0 at*;generalize e.length=el at*;go_enter Tryz.func143,Tryz.ntmps143;go_wp2_with (at_builtin;refine ao rfl _ _ _ _ rfl rfl rfl zF.Z ?_);refine HP.Z.mono ?_;rintro e' w4 ⟨v4,rfl,lz,eA⟩;obtain ⟨v5,w5,tj,ju,fB⟩:=bC.grow (kT HZ3.Z eA.size) (De.Z.keep eA) lz.bytes.reads (by have:=Tc.Z c0;have:=HEL.Z;rw [ax];omega);have qB:∀ b,b <w.heap.size->(Value.slice a3 n3 c3).ownBlock=some b->False:=λb hb e=>by have:=du De.Z b e;omega
 have Mg:ak w w5:=(pU.Z.trans eA (λ_ _ e=>e)).trans fB (λb hb e=>qB b hb e);obtain ⟨cc,w55,hcv,gm,aaq⟩:=HCV.Z w5;have hz5:w.heap.size<=w55.heap.size:=kT Mg.size aaq.size;obtain ⟨a4,c4,rfl,-,-⟩:=lz.bytes.aG;obtain ⟨v6,w6,nX,oy,gZ⟩:=bC.grow hz5 (ju.keep aaq) gm (by have:=Tc.Z c0;have:=HEL.Z;have:=ZN.Z;have:au.toList.length=au.size:=(by rw [ByteArray.toList_eq,Array.length_toList];rfl);rw [fS,ax];omega);have ZY:ak w w6:=(Mg.trans aaq (λ_ _ e=>e)).trans gZ (λb hb e=>by have:=du ju b e;omega);obtain ⟨a5,c5,rfl,-,-⟩:=ju.bytes.aG;have BX:=ae tj;have adq:=ae hcv;have JF:=ae nX;have Rz:=ae oy;have RA:=ae ZY;rw [<-HL.Z] at Rz;generalize (aL x 8).length=n8 at BX ⊢;generalize ([c0]++e++aL x 8).length=n9 at BX JF;have adZ:=adq.Z;go_wp2_with (at_builtin;first | (refine ao rfl _ _ _ _ rfl rfl rfl BX.Z ?_) | (refine ao rfl _ _ _ _ rfl rfl rfl JF.Z ?_));go_ret;exact ⟨v6,rfl,Rz.Z,RA.Z⟩
theorem Co:∀ (fs:FS) (k:aD),bp fs->(∃ b,fs[ie fs k]?=some (k,b)/\aZ fs k=some b)\/(aZ fs k=none/\∀ f,fs[ie fs k]?=some f->f.1≠k)
 | [],k,_=> .inr ⟨rfl,λf hf=>by simp at hf⟩
 | x::l,k,hs=>by
  have og:=List.pairwise_cons.1 hs;rw [ie];by_cases hb:pm x.1 k=true
  ·rw [if_pos hb];have dO:x.1≠k:=λe=>by rw [e,lq] at hb;cases hb
   have hg:aZ (x::l) k=aZ l k:=by rw [show x=(x.1,x.2) from rfl,ij _ _ _ _ dO]
   rw [hg,Hn];exact Co l k og.2
  ·rw [if_neg hb,vP];by_cases e:x.1=k
   ·refine .inl ⟨x.2,by rw [<-e], ?_⟩;rw [show x=(x.1,x.2) from rfl,e,jZ]
   ·refine .inr ⟨?_,λf hf=>by cases hf;exact e⟩;apply yr;intro hm;rcases List.mem_cons.1 hm with h | h
    ·exact e h.symm
    ·obtain ⟨y,hy,e2⟩:=List.mem_map.1 h;have h3:=og.1 y hy;rw [e2] at h3;exact hb h3
def aar (W:World) (fs:FS) (k:aD) (e:Ending):Prop:=∃ pv,e= .returned (.tuple #[pv,.bool (aZ fs k).isSome])/\aC W pv ((aZ fs k).getD [])
theorem GR {F:Nat->Prop} {W:World} {t q:Nat} {lv:Value} {dn:Bool} (hp:dM F W lv fs) (hb:W.heap[t]?=some (ep q lv dn)) (hs:bp fs) (hl:fs.length <1099511627776) (hz:∀ p ∈ fs,p.1.size<=maxLen) (k:aD): bF 136 #[.pointer (some ⟨t,0,none⟩),.string k] W (λe w'=>aar W fs k e/\w'=W):=by
 have hf:=xG hp k hl;obtain ⟨-,c1,-,-⟩:=gT hb;have lf:=BZ fs k;obtain ⟨la,lc,rfl,-,-⟩:=hp.aG;rcases Co fs k hs with ⟨b,h1,h2⟩ | ⟨h2,h1⟩
 ·obtain ⟨g,cap,p,e,q0,q1,hB⟩:=hp.cell h1;cases e;have aX:=(List.getElem?_eq_some_iff.1 h1).1;generalize ie fs k=n at hf h1 aX q0 q1;have j0:(n:Int) <fs.length:=by omega
  have j1:=np n;obtain ⟨pa,pc,rfl,-,-⟩:=hB.reads.aG;have HB:=ae hB.reads;have HF:=ae hf;have H2:=ae h2;have b1:(k.toList==k.toList)=true:=beq_self_eq_true _;go_enter Tryz.func136,Tryz.ntmps136;go_wp2_with fail;refine gU HF.Z.Z ?_;go_wp2;go_ret2;exact ⟨⟨_,by rw [H2.Z];rfl,by rw [H2.Z];exact HB.Z⟩,rfl⟩
 ·by_cases aX:ie fs k <fs.length
  ·obtain ⟨f,hfk⟩:∃ f,fs[ie fs k]?=some f:=⟨_,js aX⟩;obtain ⟨g,cap,p,e,q0,q1,hB⟩:=hp.cell hfk;cases e;have dO:=h1 f hfk;generalize ie fs k=n at hf aX q0 q1;have j0:(n:Int) <fs.length:=by omega
   have j1:=np n;have HF:=ae hf;have H2:=ae h2;obtain ⟨f1,f2⟩:=f;dsimp only at dO q0;have b1:(f1.toList==k.toList)=false:=by rw [beq_eq_false_iff_ne];intro e;exact dO (by rw [ByteArray.toList_eq,ByteArray.toList_eq] at e;exact ByteArray.ext (Array.toList_inj.1 e))
   go_enter Tryz.func136,Tryz.ntmps136;go_wp2_with fail;refine gU HF.Z.Z ?_;go_wp2;go_ret2;exact ⟨⟨_,by rw [H2.Z];rfl,by rw [H2.Z];exact dH _⟩,rfl⟩
  ·have hn:ie fs k=fs.length:=by omega
   rw [hn] at hf;have j0:¬(fs.length:Int) <fs.length:=by omega
   have HF:=ae hf;have H2:=ae h2;go_enter Tryz.func136,Tryz.ntmps136;go_wp2_with fail;refine gU HF.Z.Z ?_;go_wp2;go_ret2;exact ⟨⟨_,by rw [H2.Z];rfl,by rw [H2.Z];exact dH _⟩,rfl⟩
abbrev nV:aD:=bj bY
structure Kp where
 id:Nat
 sure:aH
 may:aH
 ends:Bool
theorem ze (id:Nat):aq id≠bY:=fR (by rw [gj];decide)
theorem uP (id:Nat):aq id≠nV:=fR (by rw [gj];decide+kernel)
theorem TU (id:Nat):aq id≠uB:=fR (by rw [gj];decide)
theorem TV {d:aH} (hd:d.length=32):aY d≠bY:=fR (by rw [nG d hd];decide)
theorem QX {d:aH} (hd:d.length=32):aY d≠nV:=fR (by rw [nG d hd];decide+kernel)
theorem TW:l7≠bY:=by decide+kernel
theorem QY:cH uB p9=false:=by decide+kernel
theorem TX {g:Fn} {k:aD} {b:aH} (h1:k≠bY) (h2:k≠nV):fo (fo (fE g k b) nV) bY=fE (fo (fo g nV) bY) k b:=by
 funext x;simp only [fo,fE];by_cases e:x=k
 ·subst e;simp [h1,h2]
 ·simp only [e,if_false]
theorem TY (g:Fn) (k:aD):fo (fo (fo g k) nV) bY=fo (fo (fo g nV) bY) k:=by
 funext x;simp only [fo];repeat' split
 all_goals rfl
def A8 (x:Fn) (N:Nat):Prop:=∃ U,Holds (fo (fo x nV) bY) U N
theorem A8.mono {x:Fn} {N N':Nat} (h:A8 x N) (hN:N<=N'):A8 x N':=by obtain ⟨U,h⟩:=h;exact ⟨U,h.mono (eQ _) hN⟩
theorem A8.put (h:A8 x N) (h1:f≠bY) (h2:f≠nV) (b:aH):A8 (fE x f b) (N+1):=by obtain ⟨U,h⟩:=h;refine ⟨U+b.length, ?_⟩;rw [TX h1 h2];exact (h.clr f).set b
theorem A8.del (h:A8 x N) (f:aD):A8 (fo x f) N:=by obtain ⟨U,h⟩:=h;refine ⟨U, ?_⟩;rw [TY];exact h.clr f
theorem A8.jrn (h:A8 x N) (b:aH):A8 (fE x bY b) N:=by
 obtain ⟨U,h⟩:=h;refine ⟨U, ?_⟩;have:fo (fo (fE x bY b) nV) bY=fo (fo x nV) bY:=by
  funext n;simp only [fo,fE];split
  ·rfl
  ·split <;>rfl
 rw [this];exact h
theorem A8.same (h:A8 x N) (hy:∀ n,n≠bY->n≠nV->y n=x n):A8 y N:=by
 obtain ⟨U,h⟩:=h;refine ⟨U, ?_⟩;have:fo (fo y nV) bY=fo (fo x nV) bY:=by
  funext n;simp only [fo];split
  ·rfl
  ·split
   ·rfl
   ·rename_i e1 e2;exact hy n e1 e2
 rw [this];exact h
theorem A8.all (h:A8 x N) (h1:bX fs) (h2:aZ fs=x):fs.length<=N+2:=by obtain ⟨U,h⟩:=h;exact ((Holds.SE (Holds.SE h (eQ _)) (eQ _)) fs h1 h2).2
structure UK (fs:FS) (n nx:Nat):Prop where
 keys:∀ p ∈ fs,cH p.1 p9=true->∃ x,wI x/\p=(aq x.id,kP x)/\x.id <n
 next:(aZ fs uB=none/\nx=1)\/(aZ fs uB=some (aL nx 8)/\1<=nx/\nx<=4294967296)
structure UT (fs:FS) (k:Nat):Prop where
 ok:ig fs
 len:fs.length<=8*k
 up:∃ nx,UK fs nx nx/\200*nx<=k+100
theorem UT.mono {k':Nat} (h:UT fs k) (hk:k<=k'):UT fs k':=by obtain ⟨h1,h2,nx,h3,h4⟩:=h;exact ⟨h1,by omega,nx,h3,by omega⟩
def JU (k:Nat) (x:Fn):Prop:=A8 x k/\∃ b rs fs,x bY=some b/\dJ b=(rs,(aj rs).length)/\(∀ p ∈ rs,p.length<=1048568)/\iG rs []=some fs/\UT fs k
theorem JU.mono {k k':Nat} {x:Fn} (h:JU k x) (hk:k<=k'):JU k' x:=by obtain ⟨h0,b,rs,fs,h1,h2,h3,h4,h5⟩:=h;exact ⟨h0.mono hk,b,rs,fs,h1,h2,h3,h4,h5.mono hk⟩
theorem JU.of {aQ:List aH} {g:Fn} (h1:∀ p ∈ aQ,p.length<=1048568) (h2:iG aQ []=some fs) (h3:UT fs k) (hg:g bY=some (aj aQ)) (hf:A8 g k):JU k g:=
 ⟨hf,_,aQ,fs,hg,Lu (λp hp=>by have:=h1 p hp;omega),h1,h2,h3⟩
theorem JU.same (h:JU k x) (hy:y bY=x bY) (hf:A8 y k):JU k y:=by obtain ⟨h0,b,rs,fs,h1,h2⟩:=h;exact ⟨hf,b,rs,fs,hy.trans h1,h2⟩
def WZ (c:Ch):Prop:=(c.a≠bY/\c.a≠nV)/\(c.kind=3->c.b≠bY/\c.b≠nV)
theorem OU (h:A8 x N) (ho:WZ c):A8 (Hh x c) (N+1)/\Hh x c bY=x bY:=by
 obtain ⟨⟨a1,a2⟩,hb⟩:=ho;unfold Hh;split
 ·exact ⟨h.put a1 a2 _,mO _ _ (Ne.symm a1)⟩
 ·split
  ·exact ⟨h.put a1 a2 _,mO _ _ (Ne.symm a1)⟩
  ·split
   ·exact ⟨(h.del _).mono (eM _),km _ (Ne.symm a1)⟩
   ·split
    ·rename_i h3;obtain ⟨b1,b2⟩:=hb h3;split
     ·exact ⟨h.put b1 b2 _,mO _ _ (Ne.symm b1)⟩
     ·exact ⟨(h.put b1 b2 _).del _,by rw [km _ (Ne.symm a1),mO _ _ (Ne.symm b1)]⟩
    ·exact ⟨h.mono (eM _),rfl⟩
theorem F4.IA (hs:F4 x c y) (h:JU k x) (ho:WZ c):JU (k+1) y:=by
 have key:∀ c,WZ c->JU (k+1) (Hh x c):=λc ho=>by obtain ⟨h1,h2⟩:=OU h.1 ho;exact (h.mono (eM _)).same h2 h1
 rcases hs with ⟨_,e⟩ | ⟨_,i,e⟩
 ·rw [e];exact key c ho
 ·rw [e];exact key _ ho
def PU (R:Int) (T:TM) (k:Nat):Prop:=
 UT T.fs k/\((T.bh=false/\∃ aQ g P n,(∀ p ∈ aQ,p.length<=1048568)/\iG aQ []=some T.fs/\g bY=some (aj aQ)/\(∀ x,P x->JU k x)/\Up R P g T.m n)\/∃ n,Dn R (JU k) T.m n)
theorem PU.mono {R:Int} {T:TM} {k k':Nat} (h:PU R T k) (hk:k<=k'):PU R T k':=
 ⟨h.1.mono hk,h.2.imp (λ⟨a,aQ,g,P,n,h1,h2,h3,h4,h5⟩=>⟨a,aQ,g,P,n,h1,h2,h3,λx hx=>(h4 x hx).mono hk,h5⟩) (λ⟨n,h1⟩=>⟨n,h1.mono (λ_ h=>h.mono hk) (eQ _)⟩)⟩
def Ki (m:DM) (r:Int × DM) (c:Ch):Prop:=r.2=m\/(m.bh=false/\r.2=(dB m c).2/\∀ n,Good m n->Good r.2 (n+1))
theorem PU.one (h:PU R T k) {r:Int × DM} (ho:WZ c) (hr:Ki T.m r c):PU R {T with m:=r.2} (k+1):=by
 rcases hr with e | ⟨e0,e,hg⟩
 ·have:({T with m:=r.2}:TM)=T:=by rw [e]
  rw [this];exact h.mono (eM _)
 obtain ⟨Np,bG⟩:=h;refine ⟨Np.mono (eM _), ?_⟩;rcases bG with ⟨a,aQ,g,P,n,h1,h2,h3,h4,h5⟩ | ⟨n,hd⟩
 ·have Ha:Good (dB T.m c).2 (n+1):=by rw [<-e];exact hg n h5.dQ
  have hjg:=h4 g h5.holds;obtain ⟨hf,hn⟩:=OU hjg.1 ho;rcases h5.step c (r:=dB T.m c) rfl Ha with ⟨_,hu⟩ | ⟨_,hd⟩
  ·rw [<-e] at hu;refine .inl ⟨a,aQ,_,_,_,h1,h2,hn.trans h3,λx hx=> ?_,hu⟩;rcases hx with hx | hx
   ·exact (h4 x hx).mono (eM _)
   ·exact F4.IA hx hjg ho
  ·rw [<-e] at hd;exact .inr ⟨_,hd.mono (λx hx=>(h4 x hx).mono (eM _)) (eQ _)⟩
 ·have:=hd.bh;change T.m.bh=true at this;rw [this] at e0;cases e0
theorem Nq (m:DM) (f:aD):Ki m (aO m f) ⟨0,f,⟨#[]⟩,[]⟩:=by
 have hg:=λn (h:Good m n)=>h.fY f;unfold aO at*;by_cases hd:m.bh=true
 ·exact .inl (by rw [if_pos hd])
 rw [if_neg hd] at*;by_cases h1:(!bU f)=true
 ·exact .inl (by rw [if_pos h1])
 rw [if_neg h1] at*;by_cases h2:(aZ m.aN f).isSome=true
 ·exact .inl (by rw [if_pos h2])
 rw [if_neg h2] at*;by_cases h3:decide ((4096:Int)<=(m.aN.length:Int))=true
 ·exact .inl (by rw [if_pos h3])
 rw [if_neg h3] at*;exact .inr ⟨by simpa using hd,rfl,hg⟩
theorem Cp (h:aF m f=0):m.bh=false:=by
 unfold aF at h;cases hd:m.bh with
 | false=>rfl
 | true=>rw [hd] at h;simp at h
theorem Nr (m:DM) (f:aD) (p:aH):Ki m (aM m f p) ⟨1,f,⟨#[]⟩,p⟩:=by
 have hg:=λn (h:Good m n)=>h.append f p;unfold aM at*;by_cases h0:aF m f=0
 ·rw [if_pos h0] at*;by_cases h1:(1048576:Int) <(p.length:Int)
  ·exact .inl (by rw [if_pos h1])
  rw [if_neg h1] at*;by_cases h2:m.aR - (used m.aN:Int) <(p.length:Int)
  ·exact .inl (by rw [if_pos h2])
  rw [if_neg h2] at*;exact .inr ⟨Cp h0,rfl,hg⟩
 ·exact .inl (by rw [if_neg h0])
theorem Ns (m:DM) (f:aD):Ki m (aE m f) ⟨2,f,⟨#[]⟩,[]⟩:=by
 have hg:=λn (h:Good m n)=>h.dZ f;unfold aE at*;by_cases h0:aF m f=0
 ·rw [if_pos h0] at*;exact .inr ⟨Cp h0,rfl,hg⟩
 ·exact .inl (by rw [if_neg h0])
theorem Nt (m:DM) (f k:aD):Ki m (bw m f k) ⟨3,f,k,[]⟩:=by
 have hg:=λn (h:Good m n)=>h.rename f k;unfold bw at*;by_cases h0:aF m f=0
 ·rw [if_pos h0] at*;by_cases h1:(!bU k)=true
  ·exact .inl (by rw [if_pos h1])
  rw [if_neg h1] at*;exact .inr ⟨Cp h0,rfl,hg⟩
 ·exact .inl (by rw [if_neg h0])
theorem PU.fY (h:PU R T k) (h1:f≠bY) (h2:f≠nV):PU R {T with m:=(aO T.m f).2} (k+1):=h.one ⟨⟨h1,h2⟩,λe=>by cases e⟩ (Nq _ _)
theorem PU.append (h:PU R T k) (h1:f≠bY) (h2:f≠nV) (p:aH):PU R {T with m:=(aM T.m f p).2} (k+1):=h.one ⟨⟨h1,h2⟩,λe=>by cases e⟩ (Nr _ _ _)
theorem PU.rename (h:PU R T k) {g:aD} (h1:f≠bY) (h2:f≠nV) (h3:g≠bY) (h4:g≠nV):PU R {T with m:=(bw T.m f g).2} (k+1):=h.one ⟨⟨h1,h2⟩,λ_=>⟨h3,h4⟩⟩ (Nt _ _ _)
theorem Xa (h:m.bh=true):aV m=(5,m):=by unfold aV;rw [h];rfl
theorem PU.del {R:Int} {T:TM} {k:Nat} (h:PU R T k) {f:aD} (h1:f≠bY) (h2:f≠nV):PU R {T with m:=(aE T.m f).2} k:=by
 rcases Ns T.m f with e | ⟨e0,e,hg⟩
 ·have:({T with m:=(aE T.m f).2}:TM)=T:=by rw [e]
  rw [this];exact h
 have hJ:∀ {x:Fn},JU k x->JU k (fo x f):=fun {x} hx=>hx.same (km _ (Ne.symm h1)) (hx.1.del f);obtain ⟨Np,bG⟩:=h;refine ⟨Np, ?_⟩;rcases bG with ⟨a,aQ,g,P,n,q1,q2,q3,q4,q5⟩ | ⟨n,hd⟩
 ·have Ha:Good (dB T.m ⟨2,f,⟨#[]⟩,[]⟩).2 (n+1):=by rw [<-e];exact hg n q5.dQ
  have hjg:=q4 g q5.holds;rcases q5.step ⟨2,f,⟨#[]⟩,[]⟩ (r:=dB T.m ⟨2,f,⟨#[]⟩,[]⟩) rfl Ha with ⟨_,hu⟩ | ⟨_,hd⟩
  ·rw [<-e,V2] at hu;refine .inl ⟨a,aQ,_,_,_,q1,q2,(km _ (Ne.symm h1)).trans q3,λx hx=> ?_,hu⟩;rcases hx with hx | hx
   ·exact q4 x hx
   ·rcases hx with ⟨_,e⟩ | ⟨h3,_⟩
    ·rw [e,V2];exact hJ hjg
    ·cases h3
  ·rw [<-e] at hd;exact .inr ⟨_,hd.mono (λx hx=>q4 x hx) (eQ _)⟩
 ·have:=hd.bh;change T.m.bh=true at this;rw [this] at e0;cases e0
theorem PU.sync {R:Int} {T:TM} {k:Nat} (h:PU R T k):PU R {T with m:=(aV T.m).2} k:=by
 obtain ⟨Np,bG⟩:=h;refine ⟨Np, ?_⟩;rcases bG with ⟨a,aQ,g,P,n,h1,h2,h3,h4,h5⟩ | ⟨n,hd⟩
 ·rcases h5.sync with ⟨_,hu⟩ | ⟨_,hd⟩
  ·exact .inl ⟨a,aQ,g,_,_,h1,h2,h3,λx hx=>by subst hx;exact h4 _ h5.holds,hu⟩
  ·exact .inr ⟨_,hd.mono (λx hx=>h4 x hx) (eQ _)⟩
 ·refine .inr ⟨n, ?_⟩;show Dn R (JU k) (aV T.m).2 n;rw [Xa hd.bh];exact hd
theorem PU.cC {R:Int} {T:TM} {k:Nat} (h:PU R T k) (j:Int) (hj:j<=9223372036854775807):PU R {T with m:=(gF T.m j).2} k:=
 ⟨h.1,h.2.imp (λ⟨a,aQ,g,P,n,h1,h2,h3,h4,h5⟩=>⟨a,aQ,g,P,n,h1,h2,h3,h4,h5.cC j hj⟩) (λ⟨n,h1⟩=>⟨n,h1.cC j⟩)⟩
theorem PU.app (h:PU R T k) {L:List eX} (hL:(∀ c ∈ L,iF c=false)->UT (en T.fs L) (k+1)):PU R (bL T bY L).2 (k+1):=by
 obtain ⟨Np,bG⟩:=h;have my:=Np.mono (eM k);have pB:∀ n,Dn R (JU k) T.m n->PU R (bL T bY L).2 (k+1):=λn hd=>by
  have gK:aF T.m bY=5:=by unfold aF;rw [hd.bh];rfl
  have kt:∀ p,aM T.m bY p=(5,T.m):=λp=>by unfold aM;rw [gK];rfl
  have uw:∀ s fs dn,UT fs (k+1)->PU R ⟨T.m,s,fs,dn⟩ (k+1):=λs fs dn hf=>⟨hf,.inr ⟨n,hd.mono (λ_ h=>h.mono (eM _)) (eQ _)⟩⟩;unfold bL;split
  ·exact uw _ _ _ my
  ·split
   ·rename_i Yx;have cU:=(p6 Yx).2.2.2;have hj:ci T.m bY T.size (bP L).2=(5,T.m,T.size):=by unfold ci;rw [if_neg (by omega),kt,if_neg (show ¬(5:Int)=0 by omega)]
    rw [hj,if_neg (show ¬(5:Int)=0 by omega)];exact uw _ _ _ my
   ·exact uw _ _ _ my
 rcases bG.symm with ⟨n,hd⟩ | ⟨OB,aQ,g,P,n,kW,wK,hg,hP,hu⟩
 ·exact pB n hd
 have hjg:=hP g hu.holds;unfold bL;rw [OB,if_neg (by simp)];by_cases Yx:¬(bP L).1=0
 ·rw [if_neg Yx];refine ⟨my, ?_⟩;have h5:((bP L).1==5)=false:=by rw [beq_eq_false_iff_ne];exact Nk _
  first
   | exact .inl ⟨h5,aQ,g,P,n,kW,wK,hg,λx hx=>(hP x hx).mono (eM _),hu⟩
   | exact .inl ⟨rfl,aQ,g,P,n,kW,wK,hg,λx hx=>(hP x hx).mono (eM _),hu⟩
 replace Yx:=Decidable.not_not.1 Yx;rw [if_pos Yx];obtain ⟨-,-,Eo,cU⟩:=p6 Yx;have hla:=hL Eo;obtain ⟨E,hE⟩:=cE ((bP L).2);rw [<-hE] at cU ⊢;have aas:∀ q ∈ aQ++[E],q.length<=1048568:=λq hq=>by
  rcases List.mem_append.1 hq with hq | hq
  ·exact kW q hq
  ·rw [Fw] at hq;rw [hq];exact cU
 have TZ:iG (aQ++[E]) []=some (en T.fs L):=by rw [x8,wK];show iG [E] T.fs=_;simp only [iG,hE,Wn Yx,ES]
 have po:aj (aQ++[E])=aj aQ++bu E:=Kh aQ E;have pD:=dh E;have DL:∀ b,A8 (fE g bY b) (k+1):=λb=>(hjg.1.jrn b).mono (eM _);have hcut:∀ x:Fn,(P x\/∃ i,x=fE g bY (aj aQ++(bu E).take i))->JU (k+1) x:=λx hx=>by
  rcases hx with hx | ⟨i,rfl⟩
  ·exact (hP x hx).mono (eM _)
  ·by_cases hi:i <(bu E).length
   ·exact ⟨DL _,_,aQ,T.fs,iT _ _ _,Qb (λq hq=>by have:=kW q hq;omega) (by omega) hi rfl,kW,wK,my⟩
   ·rw [sU (by omega),<-po];exact JU.of aas TZ hla (iT _ _ _) (DL _)
 have hj:∀ s,ci T.m bY s E=if (aM T.m bY (bu E)).1=0 then (0,(aM T.m bY (bu E)).2,s+(8+E.length)) else ((aM T.m bY (bu E)).1,(aM T.m bY (bu E)).2,s):=λs=>by unfold ci;rw [if_neg (by omega)]
 rw [hj];rcases hu.Oq hg (bu E) with ⟨c0,F5⟩ | ⟨c0,uw⟩ | ⟨c0,c5,hm⟩
 ·rw [if_pos c0];dsimp only;rw [if_pos rfl,<-po] at*;rcases F5.sync with ⟨c3,hu3⟩ | ⟨c3,FE⟩
  ·rw [if_pos c3];exact ⟨hla,.inl ⟨rfl,_,_,_,_,aas,TZ,iT _ _ _,λx hx=>by subst hx;exact JU.of aas TZ hla (iT _ _ _) (DL _),hu3⟩⟩
  ·rw [if_neg (by rw [c3];omega)];exact ⟨my,.inr ⟨_,FE.mono hcut (eQ _)⟩⟩
 ·have c0':¬(aM T.m bY (bu E)).1=0:=by rw [c0];omega
  rw [if_neg c0'];dsimp only;rw [if_neg c0'];exact ⟨my,.inr ⟨_,uw.mono (λx hx=>hcut x (.inl hx)) (eQ _)⟩⟩
 ·rw [if_neg c0];dsimp only;rw [if_neg c0];have h5:((aM T.m bY (bu E)).1==5)=false:=by rw [beq_eq_false_iff_ne];exact c5
  rw [h5,hm];exact ⟨my,.inl ⟨rfl,aQ,g,P,n,kW,wK,hg,λx hx=>(hP x hx).mono (eM _),hu⟩⟩
def DN (R:Int) (m:DM) (k:Nat):Prop:=∃ x n,JU k x/\Up R (λy=>y=x) x m n
theorem PU.xi (h:PU R T k) (keep part:Int):DN R (cX T.m keep part) k:=by
 obtain ⟨Np,bG⟩:=h;rcases bG with ⟨_,aQ,g,P,n,kW,wK,hg,hP,hu⟩ | ⟨n,hd⟩
 ·obtain ⟨x,h1,h2,-⟩:=EE (P:=P) hu.dQ hu.aR hu.Jf keep part;exact ⟨x,0,hP x h1,h2⟩
 ·obtain ⟨x,h1,h2,-⟩:=EE (P:=JU k) hd.dQ hd.aR hd.Jf keep part;exact ⟨x,0,h1,h2⟩
theorem DN.store (h:DN R m k) (hc:(dC m).1=0):DN R (dC m).2 (k+1):=by
 obtain ⟨x,n,h1,hu⟩:=h;have key:∀ g,JU (k+1) g->∀ m n,Up R (λy=>y=g) g m n->DN R m (k+1):=λg hj m n hu=>⟨g,n,hj,hu⟩;unfold dC at hc ⊢;by_cases h6:aF m l7=6
 ·rw [if_pos h6];exact key x (h1.mono (eM _)) _ _ hu
 rw [if_neg h6] at hc ⊢;by_cases h0:¬aF m l7=0
 ·rw [if_neg h0] at hc;exact absurd hc h0
 replace h0:=Decidable.not_not.1 h0;rw [if_pos h0] at hc ⊢;have hs:∃ b,x l7=some b:=by
  rw [hu.there] at h0;cases hx:x l7 with
  | none=>rw [hx] at h0;simp at h0
  | some b=>exact ⟨b,rfl⟩
 obtain ⟨b,hb⟩:=hs;have hj:JU (k+1) (fo x l7):=(h1.mono (eM _)).same (km _ (Ne.symm TW)) ((h1.1.del _).mono (eM _));rcases hu.dZ hb with ⟨c,F5⟩ | ⟨c,hd⟩
 ·rw [if_pos c] at hc ⊢;rcases F5.sync with ⟨c3,hu3⟩ | ⟨c3,FE⟩
  ·exact key _ hj _ _ hu3
  ·rw [c3] at hc;cases hc
 ·rw [if_neg (by rw [c];omega)] at hc;rw [c] at hc;cases hc
theorem DN.open (h:DN R m k):((bI m bY).tab=none/\(bI m bY).code≠0)\/ ∃ rs fs,(ct m bY).res=some (rs,(aj rs).length)/\(bI m bY).tab=some ((aj rs).length,fs)/\(bI m bY).code=0/\PU R ⟨(bI m bY).m,(aj rs).length,fs,false⟩ k:=by
 obtain ⟨x,n,⟨hf,b,rs,fs,hb,hs,kW,wK,hlo⟩,hu⟩:=h;have hm:(bI m bY).m=(ct m bY).m:=by
  unfold bI;split
  ·rfl
  ·split <;>rfl
 rcases hu.abm xQ.1 xQ.2 WY hb hs with ⟨c,r⟩ | ⟨c,r,g,hg,ho,F5⟩
 ·refine .inl ?_;unfold bI;rw [r];exact ⟨rfl,c⟩
 ·refine .inr ⟨rs,fs,r, ?_⟩;rw [hm];unfold bI;rw [r];simp only [wK];exact ⟨trivial,trivial,hlo,.inl ⟨rfl,rs,g,_,_,kW,wK,hg,λy hy=>by subst hy;exact JU.of kW wK hlo hg (hf.same ho),F5⟩⟩
theorem PU.names (h:PU R T k):T.m.bh=true\/T.m.aN.length<=k+2:=by
 obtain ⟨Np,bG⟩:=h;rcases bG with ⟨_,aQ,g,P,n,kW,wK,hg,hP,hu⟩ | ⟨n,hd⟩
 ·exact .inr ((hP g hu.holds).1.all hu.dQ.LF hu.aN)
 ·exact .inl hd.bh

end Go.Proofs.YtlcnhpjggjgnpaaGreatDoor