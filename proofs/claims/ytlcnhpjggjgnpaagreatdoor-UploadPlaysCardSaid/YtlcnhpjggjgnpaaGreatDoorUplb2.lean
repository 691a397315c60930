/- A part of the proof. -/
import Derived.Test.YtlcnhpjggjgnpaaGreatDoorUpla3
import Derived.Test.YtlcnhpjggjgnpaaGreatDoorUplb1
set_option linter.unusedSimpArgs false
set_option linter.unusedVariables false
set_option maxRecDepth 100000
set_option maxHeartbeats 2000000
namespace Go.Proofs.YtlcnhpjggjgnpaaGreatDoor
open Go.RowKit Go.MapKept Go.Maps
variable {F:Nat->Prop} {b base d n r t:Nat} {fs:FS} {l:List aD} {m:DM} {pv v:Value} {w w0 wr:World} {rs:List (bB w.heap.size)}
def wE:Value->Option (DataW Unit × List MemPlace):=λ_=>some (.nil,[])
theorem insert_perm (x:Lit × DataW Unit):∀ l:List (Lit × DataW Unit),(DataW.insert x l).Perm (x::l)
 | []=>FB _
 | y::r=>by
  unfold DataW.insert;split
  ·exact FB _
  ·exact (sV y (insert_perm x r)).trans (oe x y r)
theorem rF (l:List (Lit × DataW Unit)):(l.foldr DataW.insert []).Perm l:=by
 induction l with
 | nil=>exact FB _
 | cons x l ih=>exact (insert_perm x _).trans (ih.cons x)
theorem Qy {s:aD} (hs:s.size<=maxLen):Go.keyOf Tryz.prog 9 (.string s)=some (.string s.data.toList):=by simp [Go.keyOf,mapKey,Tryz.underlying9,hs]
theorem EW {F:Nat->Prop} {w:World}:∀ {es:List MapEntry} {l:FS},dX (wW F w) es l->(∀ p ∈ l,p.1.size<=maxLen)->es.map (WideElems.rg Tryz.prog 9 wE)=l.map (λp=>(Lit.string p.1.data.toList,DataW.nil))/\∀ x ∈ es,∃ y,WideElems.rd Tryz.prog 9 wE x=some y
 | [],[],_,_=>⟨rfl,λx hx=>by simp at hx⟩
 | e::es,p::l,h,hs=>by
  obtain ⟨h1,h2⟩:=EW h.2 (λq hq=>hs q (nO _ hq));have hk:=Qy (hs p (gw ..));have hr:WideElems.rd Tryz.prog 9 wE e=some (Lit.string p.1.data.toList,DataW.nil):=by unfold WideElems.rd;rw [h.1.1,hk];rfl
  refine ⟨?_,λx hx=> ?_⟩
  ·rw [kz,kz,h1];unfold WideElems.rg;rw [hr];rfl
  ·rcases List.mem_cons.1 hx with rfl | hx
   ·exact ⟨_,hr⟩
   ·exact h2 x hx
 | [],_::_,h,_=>h.elim
 | _::_,[],h,_=>h.elim
theorem dm.owns (h:dm F w b fs) (hs:∀ p ∈ fs,p.1.size<=maxLen) (hl:fs.length<=maxLen): ∃ D0:DataW Unit,w.ownsMap Tryz.prog 9 wE b fs.length D0/\Maps.size D0=fs.length/\(strKeys D0).Perm (fs.map (λp=>p.1.data.toList)):=by
 obtain ⟨es,bD,l,hb,bG,hr,hp⟩:=h;have hz:es.size=fs.length:=by rw [<-hp.length_eq,<-hr.length,Array.length_toList]
 obtain ⟨h1,h2⟩:=EW hr (λp VH=>hs p (hp.mem_iff.1 VH));refine ⟨_,⟨es,bD,hb,⟨by omega,bG,h2⟩,by omega,rfl⟩, ?_, ?_⟩
 ·have:=(rF (es.toList.map (WideElems.rg Tryz.prog 9 wE))).length_eq;rw [Maps.size_eq,this,io,Array.length_toList,hz]
 ·have hq:=(rF (es.toList.map (WideElems.rg Tryz.prog 9 wE))).map (λp=>strOf p.1);refine Fy hq ?_;rw [h1,wU];exact hp.map _
theorem xD (hs:bp fs) {ss:List aH} (hp:ss.Perm (fs.map (λp=>p.1.data.toList))):(ss.mergeSort leB).map encStr=fs.map (λp=>Value.string p.1):=by
 have tr:∀ a b c:aH,leB a b=true->leB b c=true->leB a c=true:=λa b c h1 h2=>by simp only [leB,decide_eq_true_eq] at*;exact List.le_trans h1 h2
 have to:∀ a b:aH,(leB a b || leB b a)=true:=λa b=>by simp only [leB,FA,decide_eq_true_eq];exact List.le_total a b
 have hpw:(fs.map (λp=>p.1.data.toList)).Pairwise (λa b=>leB a b=true):=by rw [List.pairwise_map];refine List.Pairwise.imp (fun {x y} XN=> ?_) hs;unfold pm at XN;rw [bytesLess_eq,decide_eq_true_eq,ByteArray.toList_eq,ByteArray.toList_eq] at XN;simp only [leB,decide_eq_true_eq];exact List.le_of_lt XN
 have he:ss.mergeSort leB=fs.map (λp=>p.1.data.toList):=by refine List.Perm.eq_of_pairwise (le:=λa b=>leB a b=true) (λa b _ _ h1 h2=> ?_) (List.pairwise_mergeSort tr to ss) hpw ((List.mergeSort_perm ss leB).trans hp);simp only [leB,decide_eq_true_eq] at h1 h2;exact List.le_antisymm h1 h2
 rw [he,wU];rfl
theorem uL {base' e:Nat} {xs:List Value} (h:w.ownsRow base e 1 v n xs) (hb:base'<=base):w.ownsRow base' e 1 v n xs:=by obtain ⟨h1,h2⟩:=h;refine ⟨h1,h2.imp id ?_⟩;rintro ⟨g,cap,gp,rfl,hg,h3⟩;exact ⟨g,cap,gp,rfl,by omega,h3⟩
theorem Qz (mb:Option Nat) (W:World):aW 149 #[.map mb] W (.func (.func 184) #[] #[.pointer (some ⟨W.heap.size,0,none⟩)]) (W.alloc (.cells #[.map mb] 132)):=by refine (callsIn_wide.1 (Gp mb W)).mono ?_;rintro e w' ⟨rfl,rfl⟩;exact ⟨rfl,rfl⟩
def EX (w:World) (fs:FS) (e:Ending) (w':World):Prop:=∃ v,e= .returned v/\w'.ownsRow w.heap.size 9 1 v fs.length (fs.map (λp=>Value.string p.1))/\ak w w'
theorem Gq (h:dm F w b fs) (hs:bp fs) (hn:∀ p ∈ fs,p.1.size<=maxLen) (hl:fs.length<=1099511627776): bF 123 #[.func (.func 184) #[] #[.pointer (some ⟨w.heap.size,0,none⟩)]] (w.alloc (.cells #[.map (some b)] 132)) (EX w fs):=by
 obtain ⟨D0,h1,h2,h3⟩:=h.owns hn (by unfold maxLen;omega);refine (callsIn_wide.1 (sJ b fs.length D0 wE w h1 (by rw [h2];unfold maxLen;omega) (by rw [h2];omega))).mono ?_;rintro e w' ⟨v,ss,rfl,hS,fN,_,kg⟩;have cU:ss.length=fs.length:=by have:=(hS.trans h3).length_eq;simpa using this
 rw [xD hs (hS.trans h3),cU] at fN;have ox:ak (w.alloc (.cells #[.map (some b)] 132)) w':=⟨kg.os,kg.tape,kg.output,kg.size,λk hk _=>kg.block k hk⟩;exact ⟨v,rfl,uL fN (by simp),((ah.refl _ w).alloc _).trans ox (λ_ _ e=>e)⟩
open Go.RowKit Go.MapKept
def cH (s hd:aD):Bool:=decide ((hd.size:Int)<=(s.size:Int)) && ((s.extract 0 hd.size).toList==hd.toList)
theorem rG (s hd:aD) (w:World):aW 74 #[.string s,.string hd] w (.bool (cH s hd)) w:=by
 unfold aW cH;have h0:=np hd.size;by_cases hh:(hd.size:Int)<=(s.size:Int)
 ·rw [decide_eq_true hh,Bool.true_and];go_enter Tryz.func74,Tryz.ntmps74;go_wp2;go_ret;exact ⟨rfl,rfl⟩
 ·rw [decide_eq_false hh,Bool.false_and];go_enter Tryz.func74,Tryz.ntmps74;go_wp2;go_ret;exact ⟨rfl,rfl⟩
def cY (fs:FS) (hd:aD):List aD:=(fs.filter (λp=>cH p.1 hd)).map (·.1)
theorem Gr {l:FS} {hd:aD} {k:Nat} {p:aD × aH} (hp:l[k]?=some p) {out:List aD} (h:cY l hd=out++cY (l.drop k) hd): cY l hd=(if cH p.1 hd then out++[p.1] else out)++cY (l.drop (k+1)) hd:=by obtain ⟨hk,rfl⟩:=List.getElem?_eq_some_iff.1 hp;rw [h,pQ hk];unfold cY;rw [K6];split <;>simp
theorem JN:(Tryz.prog.info? 9).map (λi=>(i.zero,i.size,i.bytes))=some (some (.string ⟨#[]⟩),1,16):=by kernel_rfl
def ed (base:Nat) (w:World) (v:Value) (l:List aD):Prop:=w.ownsRow base 9 1 v l.length (l.map Value.string)
theorem ed.nil (base:Nat) (w:World):ed base w (.slice none 0 0) []:=⟨rfl,.inl ⟨rfl,rfl⟩⟩
theorem ed.keep {w':World} (h:ed base w v l) (hk:ak w w'):ed base w' v l:=jD h (λb hb=>hk.block b (h.lt b hb).2 (λe=>e))
theorem ed.aG (h:ed base w v l):∃ a c,v= .slice a l.length c:=bA h
theorem ed.cell {base:Nat} {w:World} {a:Option Addr} {n c:Nat} {l:List aD} (h:ed base w (.slice a n c) l) {i:Nat} {s:aD} (hs:l[i]?=some s):∃ g,a=some ⟨g,0,none⟩/\w.cell? ⟨g,i,none⟩=some (.string s)/\n<=c/\base<=g:=by
 have hl:=(List.getElem?_eq_some_iff.1 hs).1;rcases h.2 with ⟨e,e2⟩ | ⟨g,cap,gp,e,hg,hb,h3,_⟩
 ·omega
 ·simp only [Value.slice.injEq] at e;obtain ⟨rfl,rfl,rfl⟩:=e;refine ⟨g,rfl, ?_,h3,hg⟩;have:=World.ownsRow.cells h (g:=g) rfl i (.string s) (by rw [jc,hs];rfl);simpa [iV] using this
theorem ed.push (h:ed base w v l) (hz:base<=w.heap.size) (s:aD) (hb:l.length <1099511627776): ∃ a c w',(Builtin.append_ #[150,150] 150 #[v,.slice (some ⟨w.heap.size,0,none⟩) 1 1]).run Tryz.prog (w.alloc (.cells #[.string s] 9))= .ok (.slice a (l.length+1) c) w'/\ed base w' (.slice a (l.length+1) c) (l++[s])/\ ah (λb=>v.ownBlock=some b) w w'/\∀ b,v.ownBlock=some b->base<=b:=by
 have aX:=World.ownsRow.lt h;obtain ⟨i0,hi,rS,iH,jO⟩:=info_parts JN;obtain ⟨v',w',aT,dy,hg,_,jP⟩:=run_append_own_at (P:=Tryz.prog) (w.alloc (.cells #[.string s] 9)) base 150 150 9 i0 _ 1 16 Tryz.underlying150 hi rS iH jO rfl (by omega) v l.length (l.map Value.string) (World.ownsRow.alloc h _) ⟨w.heap.size,0,none⟩ 1 1 [.string s] rfl
  (λj u hu=>by rw [iV,fw];exact ag (heap_alloc_new w _) (by simpa using hu))
  (by intro u hu;simp at hu;subst hu;rfl) (by unfold maxLen;omega) (by omega) (by simp only [World.size_alloc];omega)
 obtain ⟨a,c,rfl⟩:=bA dy;refine ⟨a,c,w',aT, ?_,((ah.refl _ w).alloc _).trans (ah.fH hg) (λ_ _ h=>h),λb hb=>(aX b hb).1⟩;unfold ed;rw [fS,mB];exact dy
theorem B3 (hd:aD) (mj:aW 76 #[.pointer (some ⟨d,0,none⟩)] w (.int .i64 5) w):aW 99 #[.pointer (some ⟨d,0,none⟩),.string hd] w (.tuple #[.slice none 0 0,.int .i64 5]) w:=by unfold aW;go_enter Tryz.func99,Tryz.ntmps99;go_wp2_with (first | (go_at_call 76;refine mj.Z.mono ?_;rintro e w' ⟨rfl,rfl⟩));go_ret2;exact ⟨rfl,rfl⟩
def JO (w:World) (l:List aD) (k:Int) (e:Ending) (w':World):Prop:=∃ v,e= .returned (.tuple #[v,.int .i64 k])/\ed w.heap.size w' v l/\ak w w'
theorem tU (h:cZ F w d m) (hd:aD) (pB:m.bh=false) (hs:bp m.aN) (hn:∀ p ∈ m.aN,p.1.size<=maxLen) (hl:m.aN.length<=1099511627775): bF 99 #[.pointer (some ⟨d,0,none⟩),.string hd] w (JO w (cY m.aN hd) 0):=by
 have mj:=ux h;rw [show FC m=0 by unfold FC;rw [pB];rfl] at mj;obtain ⟨bn,bs,vl,h⟩:=h;have c1:=h.cells.c1;have hsc:=Gq h.aN hs hn (by omega);have Oj:=ae hsc;go_enter Tryz.func99,Tryz.ntmps99;go_wp2_with (first | (go_at_call 76;refine mj.Z.mono ?_;rintro e w' ⟨rfl,rfl⟩));refine gU (Qz (some bn) w).Z ?_;go_wp2_with fail;refine Oj.Z.mono ?_;rintro e w1 ⟨v1,rfl,fT,bN⟩;obtain ⟨a1,k1,rfl⟩:=bA fT;go_wp2_with fail;have i2:=np hd.size;have FL:=ae fT;have iW:=ae bN;go_loopw [7,22] (λov i wx=>∃ (k:Nat) (out:List aD),k<=m.aN.length/\i= .int .i64 (k:Int)/\out.length<=k/\cY m.aN hd=out++cY (m.aN.drop k) hd/\ed w1.heap.size wx ov out/\ak w1 wx) (λ_ i _=>m.aN.length - (intOf i).toNat);case atStart=>exact ⟨0,[],fC _,rfl,eQ _,by simp,ed.nil _ _,ah.refl _ _⟩
 case round=>
  obtain ⟨k,out,hk,rfl,cU,aU,ho,hq⟩:=hrel;have j0:=np k;obtain ⟨oa,oc,rfl⟩:=ho.aG;by_cases aX:k <m.aN.length
  ·obtain ⟨f,hf⟩:∃ f,m.aN[k]?=some f:=⟨m.aN[k],js aX⟩;have bG:ed w.heap.size w1 (.slice a1 m.aN.length k1) (m.aN.map (·.1)):=by have:=FL.Z;unfold ed;rw [wU,io];exact this
   obtain ⟨g,rfl,hc,lf,_⟩:=(bG.keep hq).cell (i:=k) (s:=f.1) (by rw [jc,hf];rfl);have gA:=Gr hf aU;have j1:(k:Int) <m.aN.length:=by omega
   by_cases wP:cH f.1 hd=true
   ·rw [if_pos wP] at gA;obtain ⟨b1,b2⟩:decide ((hd.size:Int)<=(f.1.size:Int))=true/\((f.1.extract 0 hd.size).toList==hd.toList)=true:=by unfold cH at wP;exact Bool.and_eq_true_iff.1 wP
    have b1':(hd.size:Int)<=(f.1.size:Int):=of_decide_eq_true b1;obtain ⟨a2,c2,w2,aT,dy,cg,kh⟩:=ho.push hq.size f.1 (by omega);have iI:=hq.trans cg (λb hb e=>by have:=kh b e;omega);have cV:=ae aT;have dE:=ae (⟨k+1,out++[f.1],by omega,rfl,by simp;omega,gA,by rw [show (out++[f.1]).length=out.length+1 by simp];exact dy,iI⟩:∃ (k':Nat) (out':List aD),k'<=m.aN.length/\Value.int .i64 ((k+1:Nat):Int)= .int .i64 (k':Int)/\out'.length<=k'/\cY m.aN hd=out'++cY (m.aN.drop k') hd/\ed w1.heap.size w2 (.slice a2 ((out++[f.1]).length) c2) out'/\ak w1 w2);go_wp2_with (at_builtin;(first | (refine ao (w:=wr.alloc (.cells #[.string f.1] 9)) rfl _ _ _ _ rfl rfl rfl cV.Z ?_)));go_roundw;case rel=>have h:=dE.Z;simp only [fS,iM,gN,fw] at h;exact h
    case measure=>simp [intOf];omega
   ·rw [if_neg wP] at gA;have dE:=ae (⟨k+1,out,by omega,rfl,by omega,gA,ho,hq⟩:∃ (k':Nat) (out':List aD),k'<=m.aN.length/\Value.int .i64 ((k+1:Nat):Int)= .int .i64 (k':Int)/\out'.length<=k'/\cY m.aN hd=out'++cY (m.aN.drop k') hd/\ed w1.heap.size wr (.slice oa out.length oc) out'/\ak w1 wr);by_cases b1:(hd.size:Int)<=(f.1.size:Int)
    ·have b2:((f.1.extract 0 hd.size).toList==hd.toList)=false:=by unfold cH at wP;rw [decide_eq_true b1,Bool.true_and] at wP;exact Bool.eq_false_iff.2 wP
     go_wp2;go_roundw;case rel=>exact dE.Z
     case measure=>simp [intOf];omega
    ·have b1':decide ((hd.size:Int)<=(f.1.size:Int))=false:=decide_eq_false b1;go_wp2;go_roundw;case rel=>exact dE.Z
     case measure=>simp [intOf];omega
  ·obtain rfl:k=m.aN.length:=by omega
   rw [pR] at aU;have aU:cY m.aN hd=out:=by simpa [cY] using aU
   have cK:JO w (cY m.aN hd) 0 (.returned (.tuple #[.slice oa out.length oc,.int .i64 0])) wr:=by rw [aU];have hz:=iW.Z.size;exact ⟨_,rfl,jE ho (by omega),iW.Z.trans hq (λ_ _ e=>e)⟩
   have fk:=ae cK;go_wp2;go_ret2;exact fk.Z
theorem Own.vE (h:Own w wr (dw r m::rs)) (ht:Tidy m n t): ∃ w',aW 81 #[.pointer (some ⟨r,0,none⟩)] wr (.int .i64 (aV m).1) w'/\Own w w' (dw r (aV m).2::rs):=by obtain ⟨F,h1,h2,back⟩:=h.jT;obtain ⟨w',hr,h3,h4⟩:=Mi (h1:kI F wr r m) ht.dQ.aN ht.dQ.cC;obtain ⟨vn,vs,vl,h3⟩:=h3;exact ⟨w',hr,back w' (dw r (aV m).2) h4 ⟨vn,vs,vl,h3.quiet (ah.refl _ _) (λb hb _=> .inl hb) (λb hb=>by rcases hb with hb | hb;exact h3.lt b hb;exact hb.2)⟩⟩
theorem Own.Z1 (h:Own w wr (dw r m::rs)) (ht:Tidy m n t) (mN:t <549755813888) (keep part:Int): bF 85 #[.pointer (some ⟨r,0,none⟩),.int .i64 keep,.int .i64 part] wr (λe w'=>e= .returned (.tuple #[])/\Own w w' (dw r (cX m keep part)::rs)):=by obtain ⟨F,h1,h2,back⟩:=h.jT;refine (FZ (h1:kI F wr r m) ht mN keep part).mono ?_;rintro e w' ⟨he,h3,h4⟩;exact ⟨he,back w' (dw r (cX m keep part)) h4 h3⟩
theorem xE (s:aD):cH s ⟨#[]⟩=true:=by
 unfold cH;have:(⟨#[]⟩:aD).size=0:=rfl;rw [this];have e:s.extract 0 0=⟨#[]⟩:=by simp;rfl
 rw [e];simp
theorem Dr (fs:FS):cY fs ⟨#[]⟩=fs.map (·.1):=by unfold cY;rw [List.filter_eq_self.2 (λp _=>xE p.1)]
theorem Tk {rs:List (bB w0.heap.size)} (ho:Own w0 w (bk d m::dw r m::rs)) (ht:Tidy m n t) (mN:t <549755813888): bF 37 #[.pointer (some ⟨d,0,none⟩),.pointer (some ⟨r,0,none⟩)] w (bH w (.bool true)):=by
 obtain ⟨Fd,hdi,_⟩:=ho.lW;obtain ⟨F,vn,vs,vl,tV⟩:=ho.ref (r:=r) (m:=m) (by simp);obtain ⟨na,nc,rfl,sy,_⟩:=tV.aN.aG;obtain ⟨la,lc,rfl⟩:=tV.aw.aG;have r1:=tV.cells.c1;have r3:=tV.cells.c3;have r5:=tV.cells.c5;have OB:=Pz (hdi.keep (w':=w.drew) (λ_ _=>rfl));have Z2:ak w w.drew:=(ah.refl _ w).drew;have Tl:=λw1 (hk:ak w.drew w1)=>LA (hdi.keeps (Z2.trans hk (λ_ _ e=>e)) (λ_ _ e=>e));have hun:=ht.dQ.AA;have bM:=ht.dQ.nY;have Yf:=Bl (hdi.keep (w':=w.drew) (λ_ _=>rfl)) (by omega);have Tm:=λw1 (hk:ak w.drew w1)=>BF (tV.aN.quiet (Z2.trans hk (λ_ _ e=>e)) (G:=F) (λ_ h _=>h)) (by have:=ht.AH;omega) (by omega);have ZO:=λw1 (hk:ak w.drew w1)=>(tV.quiet (Z2.trans hk (λ_ _ e=>e)) (G:=F) (λ_ h _=>h) (λb hb=>by have:=tV.lt b hb;have:=hk.size;simp only [lG] at this;omega)).cells;have abF:=λw1 (hk:ak w.drew w1)=>(⟨(ZO w1 hk).c1,(ZO w1 hk).c3,(ZO w1 hk).c5⟩:w1.cell? ⟨r,1,none⟩=some (.slice na m.aN.length nc)/\w1.cell? ⟨r,3,none⟩=some (.slice la m.aw.length lc)/\w1.cell? ⟨r,5,none⟩=some (.bool m.bh));have HCK:=ae abF;clear ZO abF;have HL:=ae Tl;have HU:=ae Yf;have HRU:=ae Tm;have HDI:=ae hdi;have Gt:=ae tV;have HT:=ae ht;clear Tl Yf Tm hdi tV ho ht;go_enter Tryz.func37,Tryz.ntmps37;go_wp2_with fail;go_region_held3 (λw'=>w'.cell? ⟨r,1,none⟩=some (.slice na m.aN.length nc)/\w'.cell? ⟨r,3,none⟩=some (.slice la m.aw.length lc)/\w'.cell? ⟨r,5,none⟩=some (.bool m.bh)) (first | exact ⟨r1,r3,r5⟩ | exact HCK.Z _ bN | go_keep) (first | (go_at_call 95;refine OB.Z.mono ?_;rintro e w' ⟨rfl,rfl⟩) | (go_at_call 96;refine HU.Z.mono ?_;rintro e w1 ⟨rfl,bN⟩) | (go_at_call 97;refine (HRU.Z _ bN).Z.mono ?_;rintro e w' ⟨rfl,rfl⟩) | (go_at_call 98;refine (HL.Z _ bN).Z.mono ?_;rintro e w' ⟨rfl,rfl⟩));go_wp2_with fail;have yB:ak w w1:=Z2.trans bN (λ_ _ e=>e);have He:=HDI.Z.keeps yB (λ_ _ e=>e);have uY:∀ b,F b->b <w1.heap.size:=λb hb=>by have:=Gt.Z.lt b hb;have:=yB.size;omega
 have h1:=Gt.Z.quiet yB (G:=F) (λ_ h _=>h) uY;obtain ⟨q1,q3,q5⟩:=HCK.Z _ bN;clear r1 r3 r5 HCK HL HU HRU bN Z2 OB HDI Gt;cases pB:m.bh with
 | true=>
  have mj:=ux He;rw [show FC m=5 by unfold FC;rw [pB];rfl] at mj;have qf:=B3 ⟨#[]⟩ mj;rw [pB] at q5;have HK:=ae yB;clear He h1 mj yB;refine gU qf.Z ?_;go_wp2;go_ret;exact ⟨rfl,HK.Z⟩
 | false=>
  rw [pB] at q5;have qf:=tU He ⟨#[]⟩ pB HT.Z.SB (λp hp=>by have:=HT.Z.names p hp;unfold maxLen;omega) (by have:=HT.Z.AH;omega);rw [Dr] at qf;refine qf.mono ?_;rintro e w2 ⟨v2,rfl,og,k2⟩;obtain ⟨a2,c2,rfl⟩:=og.aG;rw [io];have Sh:ak w w2:=yB.trans k2 (λ_ _ e=>e);have uw:=He.keeps k2 (λ_ _ e=>e);have pn:∀ b,F b->b <w2.heap.size:=λb hb=>by have:=uY b hb;have:=k2.size;omega
  have h2:=h1.quiet k2 (G:=F) (λ_ h _=>h) pn;have q1:=h2.cells.c1;have q5:=h2.cells.c5;rw [pB] at q5;have i1:(m.aN.length:Int)<=549755813888:=by have:=HT.Z.AH;omega
  have H2:=ae h2;have KY:=ae uw;have Eu:=ae og;have VO:=ae Sh;clear He h1 qf yB Sh uw h2 og k2;go_wp2_with fail;clear q1 q5;go_loopw [73] (λi wx=>∃ (k:Nat),k<=m.aN.length/\i= .int .i64 (k:Int)/\ak w2 wx) (λi _=>m.aN.length - (intOf i).toNat);case atStart=>exact ⟨0,fC _,rfl,ah.refl _ _⟩
  case round=>
   obtain ⟨k,hk,rfl,hq⟩:=hrel;have j0:=np k;by_cases aX:k <m.aN.length
   ·obtain ⟨f,hf⟩:∃ f,m.aN[k]?=some f:=⟨m.aN[k],js aX⟩;have j1:(k:Int) <m.aN.length:=by omega
    obtain ⟨g,aa6,p,e,iL,gy,hB⟩:=(H2.Z.aN.quiet hq (G:=F) (λ_ h _=>h)).cell hf;simp only [Value.slice.injEq] at e;obtain ⟨rfl,-,rfl⟩:=e;obtain ⟨pa,pc,rfl,_,_⟩:=hB.aG;obtain ⟨g2,rfl,my,qe,_⟩:=(Eu.Z.keep hq).cell (i:=k) (s:=f.1) (by rw [jc,hf];rfl);obtain ⟨w5,Rv⟩:=cE (wr.alloc (.cells #[.string f.1,.slice pa f.2.length pc] 184));have fB:ak wr w5:=by rw [Rv];exact (ah.refl _ wr).alloc _
    have Ve:w5.heap[wr.heap.size]?=some (.cells #[.string f.1,.slice pa f.2.length pc] 184 (0,0)):=by rw [Rv];exact heap_alloc_new _ _
    have g5:w5.cell? ⟨wr.heap.size,0,none⟩=some (.string f.1):=ag Ve rfl;have hq5:=hq.trans fB (λ_ _ e=>e);have hd5:=KY.Z.keeps hq5 (λ_ _ e=>e);have hg:aZ m.aN f.1=some f.2:=nt HT.Z.dQ.LF (kx hf);have gK:aF m f.1=0:=by simp [aF,pB,hg]
    have jd:=El hd5 f.1;rw [show cF m f.1=(f.2.length:Int) by simp [cF,gK,hg],gK] at jd;have uM:=HT.Z.dQ.get f.1;obtain ⟨v6,w6,gm,Yg,gZ⟩:=Ed hd5 f.1 0 (f.2.length:Int) (by omega);rw [show er m f.1 0 (f.2.length:Int)=0 by unfold er;rw [if_pos gK,if_neg (by omega)]] at gm;rw [show di m f.1 0 (f.2.length:Int)=f.2 by unfold di;rw [if_pos gK,if_neg (by omega),hg];simp [gV]] at Yg;obtain ⟨a6,c6,rfl,_,_⟩:=Yg.aG;have Hf:=gZ.at Ve (λe=>e);have g60:w6.cell? ⟨wr.heap.size,0,none⟩=some (.string f.1):=ag Hf rfl;have g61:w6.cell? ⟨wr.heap.size,1,none⟩=some (.slice pa f.2.length pc):=ag Hf rfl;have Wq:=fB.trans gZ (λ_ _ e=>e);have hl6:w6.cell? ⟨g2,k,none⟩=some (.string f.1):=(kK (Wq.block _ (wT wr _ my) (λe=>e))).trans my;have kW:=q8 (w:=w6.drew) (Yg.reads.keep (ah.refl _ w6).drew) ((hB.reads.keep Wq).keep (ah.refl _ w6).drew);rw [decide_eq_true rfl] at kW;have wN:=ae kW;have HQ6:=ae (hq.trans Wq (λ_ _ e=>e));have qg:∀ w7,ak w6.drew w7->w7.cell? ⟨g2,k,none⟩=some (.string f.1)/\w7.cell? ⟨wr.heap.size,0,none⟩=some (.string f.1)/\w7.cell? ⟨wr.heap.size,1,none⟩=some (.slice pa f.2.length pc):=λw7 jf=>⟨(kK (jf.eD.block _ (wT w6 _ hl6) (λe=>e))).trans hl6,ag (jf.eD.at Hf (λe=>e)) rfl,ag (jf.eD.at Hf (λe=>e)) rfl⟩
    have HCC:=ae qg;clear hq hB fB Ve hq5 hd5 hg gK uM Yg gZ Hf Wq kW qg hf H2 KY Eu;go_wp2_with fail;rw [<-Rv];clear Rv;refine jd.Z.mono ?_;rintro e w' ⟨rfl,rfl⟩;go_wp2_with fail;refine gm.Z.mono ?_;rintro e w' ⟨rfl,rfl⟩;go_wp2_with fail;go_region_held3 (λw'=>w'.cell? ⟨g2,k,none⟩=some (.string f.1)/\w'.cell? ⟨wr.heap.size,0,none⟩=some (.string f.1)/\w'.cell? ⟨wr.heap.size,1,none⟩=some (.slice pa f.2.length pc)) (first | exact ⟨hl6,g60,g61⟩ | exact HCC.Z _ jf | go_keep) (first | (go_at_call 15;refine wN.Z.mono ?_;rintro e w7 ⟨rfl,jf⟩));have HQ7:=ae (HQ6.Z.trans jf.eD (λ_ _ e=>e));clear jf;go_wp2;go_roundw;case rel=>exact ⟨k+1,by omega,rfl,HQ7.Z⟩
    case measure=>simp [intOf];omega
   ·obtain rfl:k=m.aN.length:=by omega
    have HQ:=ae (VO.Z.trans hq (λ_ _ e=>e));clear hq H2 KY Eu;go_wp2;go_ret;exact ⟨rfl,HQ.Z⟩
def xF (m:DM) (o:Op9):DM:=
 if o.kind=0 then (aO m o.a).2 else if o.kind=1 then (aM m o.a o.p).2 else if o.kind=2 then (aE m o.a).2 else if o.kind=3 then (bw m o.a o.b).2
 else if o.kind=4 then (aV m).2 else if o.kind=5 then (gF m o.n).2 else if o.kind=6 then cX m o.n o.m else m
def mg (w0:World) (d r:Nat) (rs:List (bB w0.heap.size)) (m:DM) (e:Ending) (w':World):Prop:=e= .returned (.bool true)/\Own w0 w' (bk d m::dw r m::rs)
theorem Own.boxed {x y:bB w0.heap.size} {rs:List (bB w0.heap.size)} (h:Own w0 w (x::y::rs)) (o:Obj):Own w0 (w.alloc o) (x::y::aA w.heap.size o::rs):=
 (h.alloc o).perm ((oe ..).trans (sV x (oe ..)))
theorem Own.vF {x y z:bB w0.heap.size} {rs:List (bB w0.heap.size)} (h:Own w0 w (x::y::z::rs)):Own w0 w (x::y::rs):=
 (h.perm ((sV x (oe ..)).trans (oe ..))).drop
theorem sK {α:Type} {x y z:α} {l:List α}:z ∈ x::y::z::l:=nO _ (nO _ (gw ..))
theorem fJ {k:Int} {x y:aD} {n m:Int} (h:w.heap[b]?=some (.cells #[.int .i64 k,.string x,.string y,pv,.int .i64 n,.int .i64 m] 87 (0,0))): w.cell? ⟨b,0,none⟩=some (.int .i64 k)/\w.cell? ⟨b,1,none⟩=some (.string x)/\w.cell? ⟨b,2,none⟩=some (.string y)/\w.cell? ⟨b,3,none⟩=some pv/\w.cell? ⟨b,4,none⟩=some (.int .i64 n)/\w.cell? ⟨b,5,none⟩=some (.int .i64 m):=
 ⟨ag h rfl,ag h rfl,ag h rfl,ag h rfl,ag h rfl,ag h rfl⟩
theorem Own.Wr (h:Own w wr (bk d m::rs)) (n k:aD) (hf:m.cC<=9223372036854775807) (hl:m.aw.length <1099511627776): ∃ w',aW 84 #[.pointer (some ⟨d,0,none⟩),.string n,.string k] wr (.int .i64 (bw m n k).1) w'/\Own w w' (bk d (bw m n k).2::rs):=by obtain ⟨F,h1,back⟩:=h.lW;obtain ⟨w',hr,h2,kk⟩:=zy h1 n k hf hl;exact ⟨w',hr,(back _ (.returned (.int .i64 (bw m n k).1)) w' ⟨rfl,h2,kk⟩).2⟩
theorem Own.Yh (h:Own w wr (bk d m::rs)) (n:Int): ∃ w',aW 29 #[.pointer (some ⟨d,0,none⟩),.int .i64 n] wr (.int .i64 (gF m n).1) w'/\Own w w' (bk d (gF m n).2::rs):=by obtain ⟨F,h1,back⟩:=h.lW;obtain ⟨w',hr,h2,k⟩:=PA h1 n;exact ⟨w',hr,(back _ (.returned (.int .i64 (gF m n).1)) w' ⟨rfl,h2,k⟩).2⟩
section
variable {w0 w:World} {d r:Nat} {m:DM} {rs:List (bB w0.heap.size)}
theorem Ws (h:Own w0 w (bk d m::dw r m::rs)) (ht:Tidy m n t) (hn:n <1099511627776) (mN:t <549755813888) (x y:aD) (pv:Value) (i j:Int): bF 35 #[.pointer (some ⟨d,0,none⟩),.pointer (some ⟨r,0,none⟩),.agg #[.int .i64 0,.string x,.string y,pv,.int .i64 i,.int .i64 j]] w (mg w0 d r rs (aO m x).2):=by have ho:=h.boxed (.cells #[.int .i64 0,.string x,.string y,pv,.int .i64 i,.int .i64 j] 87);obtain ⟨wb,Ds⟩:=cE (w.alloc (.cells #[.int .i64 0,.string x,.string y,pv,.int .i64 i,.int .i64 j] 87));rw [<-Ds] at ho;obtain ⟨b0,b1,b2,b3,b4,b5⟩:=fJ (ho.at (b:=w.heap.size) sK).1;obtain ⟨w1,ml,fT⟩:=ho.drew.fY x ht.dQ.cC (ht.dQ.aw hn);obtain ⟨-,c1,c2,-,-,-⟩:=fJ (fT.at (b:=w.heap.size) sK).1;have bG:=(fT.swap).nZ ht hn mN ⟨0,x,⟨#[]⟩,[]⟩ ⟨by simp,by simp⟩ (λ_=>rfl) (pv:= .slice none 0 0) (λ_ w' _ _=>dH w');rw [ki] at bG;simp only at bG;generalize aO m x=res at*;obtain ⟨z,m2⟩:=res;simp only at*;have fP:=ae (bG.mono (λe w2 (hp:tH w0 r _ (z,m2) e w2)=>(⟨hp.1,hp.2.swap,(fJ (hp.2.swap.at (b:=w.heap.size) sK).1).2.1,(fJ (hp.2.swap.at (b:=w.heap.size) sK).1).2.2.1⟩:e= .returned (.int .i64 z)/\Own w0 w2 (bk d m2::dw r m2::aA w.heap.size (.cells #[.int .i64 0,.string x,.string y,pv,.int .i64 i,.int .i64 j] 87)::rs)/\w2.cell? ⟨w.heap.size,1,none⟩=some (.string x)/\w2.cell? ⟨w.heap.size,2,none⟩=some (.string y))));clear h ht hn mN bG b3 b4 b5;go_enter Tryz.func35,Tryz.ntmps35;go_wp2_with fail;rw [<-Ds];clear Ds;go_region_held3 (λw'=>w'.cell? ⟨w.heap.size,1,none⟩=some (.string x)/\w'.cell? ⟨w.heap.size,2,none⟩=some (.string y)) (first | exact ⟨b1,b2⟩ | exact ⟨q1,q2⟩ | exact ⟨c1,c2⟩ | go_keep) (first | (go_at_call 41;refine ml.Z.mono ?_;rintro e w' ⟨rfl,rfl⟩) | (go_at_call 80;refine fP.Z.mono ?_;rintro e w2 ⟨rfl,dy,q1,q2⟩));have HO:=ae dy.vF;clear dy q1 q2 ho fT ml fP;go_wp2;go_ret;exact ⟨rfl,HO.Z⟩
theorem Wt (h:Own w0 w (bk d m::dw r m::rs)) (ht:Tidy m n t) (hn:n <1099511627776) (mN:t <549755813888) (x y:aD) (pv:Value) (i j:Int): bF 35 #[.pointer (some ⟨d,0,none⟩),.pointer (some ⟨r,0,none⟩),.agg #[.int .i64 2,.string x,.string y,pv,.int .i64 i,.int .i64 j]] w (mg w0 d r rs (aE m x).2):=by have ho:=h.boxed (.cells #[.int .i64 2,.string x,.string y,pv,.int .i64 i,.int .i64 j] 87);obtain ⟨wb,Ds⟩:=cE (w.alloc (.cells #[.int .i64 2,.string x,.string y,pv,.int .i64 i,.int .i64 j] 87));rw [<-Ds] at ho;obtain ⟨b0,b1,b2,b3,b4,b5⟩:=fJ (ho.at (b:=w.heap.size) sK).1;obtain ⟨w1,ml,fT⟩:=ho.drew.dZ x ht.dQ.cC (ht.dQ.aw hn);obtain ⟨-,c1,c2,-,-,-⟩:=fJ (fT.at (b:=w.heap.size) sK).1;have bG:=(fT.swap).nZ ht hn mN ⟨2,x,⟨#[]⟩,[]⟩ ⟨by simp,by simp⟩ (λ_=>rfl) (pv:= .slice none 0 0) (λ_ w' _ _=>dH w');rw [gb] at bG;simp only at bG;generalize aE m x=res at*;obtain ⟨z,m2⟩:=res;simp only at*;have fP:=ae (bG.mono (λe w2 (hp:tH w0 r _ (z,m2) e w2)=>(⟨hp.1,hp.2.swap,(fJ (hp.2.swap.at (b:=w.heap.size) sK).1).2.1,(fJ (hp.2.swap.at (b:=w.heap.size) sK).1).2.2.1⟩:e= .returned (.int .i64 z)/\Own w0 w2 (bk d m2::dw r m2::aA w.heap.size (.cells #[.int .i64 2,.string x,.string y,pv,.int .i64 i,.int .i64 j] 87)::rs)/\w2.cell? ⟨w.heap.size,1,none⟩=some (.string x)/\w2.cell? ⟨w.heap.size,2,none⟩=some (.string y))));clear h ht hn mN bG b3 b4 b5;go_enter Tryz.func35,Tryz.ntmps35;go_wp2_with fail;rw [<-Ds];clear Ds;go_region_held3 (λw'=>w'.cell? ⟨w.heap.size,1,none⟩=some (.string x)/\w'.cell? ⟨w.heap.size,2,none⟩=some (.string y)) (first | exact ⟨b1,b2⟩ | exact ⟨q1,q2⟩ | exact ⟨c1,c2⟩ | go_keep) (first | (go_at_call 45;refine ml.Z.mono ?_;rintro e w' ⟨rfl,rfl⟩) | (go_at_call 80;refine fP.Z.mono ?_;rintro e w2 ⟨rfl,dy,q1,q2⟩));have HO:=ae dy.vF;clear dy q1 q2 ho fT ml fP;go_wp2;go_ret;exact ⟨rfl,HO.Z⟩
theorem Wu (h:Own w0 w (bk d m::dw r m::rs)) (ht:Tidy m n t) (hn:n <1099511627776) (mN:t <549755813888) (x y:aD) (pv:Value) (i j:Int): bF 35 #[.pointer (some ⟨d,0,none⟩),.pointer (some ⟨r,0,none⟩),.agg #[.int .i64 3,.string x,.string y,pv,.int .i64 i,.int .i64 j]] w (mg w0 d r rs (bw m x y).2):=by have ho:=h.boxed (.cells #[.int .i64 3,.string x,.string y,pv,.int .i64 i,.int .i64 j] 87);obtain ⟨wb,Ds⟩:=cE (w.alloc (.cells #[.int .i64 3,.string x,.string y,pv,.int .i64 i,.int .i64 j] 87));rw [<-Ds] at ho;obtain ⟨b0,b1,b2,b3,b4,b5⟩:=fJ (ho.at (b:=w.heap.size) sK).1;obtain ⟨w1,ml,fT⟩:=ho.drew.Wr x y ht.dQ.cC (ht.dQ.aw hn);obtain ⟨-,c1,c2,-,-,-⟩:=fJ (fT.at (b:=w.heap.size) sK).1;have bG:=(fT.swap).nZ ht hn mN ⟨3,x,y,[]⟩ ⟨by simp,by simp⟩ (λ_=>rfl) (pv:= .slice none 0 0) (λ_ w' _ _=>dH w');rw [lD] at bG;simp only at bG;generalize bw m x y=res at*;obtain ⟨z,m2⟩:=res;simp only at*;have fP:=ae (bG.mono (λe w2 (hp:tH w0 r _ (z,m2) e w2)=>(⟨hp.1,hp.2.swap,(fJ (hp.2.swap.at (b:=w.heap.size) sK).1).2.1,(fJ (hp.2.swap.at (b:=w.heap.size) sK).1).2.2.1⟩:e= .returned (.int .i64 z)/\Own w0 w2 (bk d m2::dw r m2::aA w.heap.size (.cells #[.int .i64 3,.string x,.string y,pv,.int .i64 i,.int .i64 j] 87)::rs)/\w2.cell? ⟨w.heap.size,1,none⟩=some (.string x)/\w2.cell? ⟨w.heap.size,2,none⟩=some (.string y))));clear h ht hn mN bG b3 b4 b5;go_enter Tryz.func35,Tryz.ntmps35;go_wp2_with fail;rw [<-Ds];clear Ds;go_region_held3 (λw'=>w'.cell? ⟨w.heap.size,1,none⟩=some (.string x)/\w'.cell? ⟨w.heap.size,2,none⟩=some (.string y)) (first | exact ⟨b1,b2⟩ | exact ⟨q1,q2⟩ | exact ⟨c1,c2⟩ | go_keep) (first | (go_at_call 84;refine ml.Z.mono ?_;rintro e w' ⟨rfl,rfl⟩) | (go_at_call 80;refine fP.Z.mono ?_;rintro e w2 ⟨rfl,dy,q1,q2⟩));have HO:=ae dy.vF;clear dy q1 q2 ho fT ml fP;go_wp2;go_ret;exact ⟨rfl,HO.Z⟩
end
theorem Own.abG (h:Own w wr (dw r m::rs)) (k:Int): wr.cell? ⟨r,4,none⟩=some (.int .i64 m.cC)/\wr.cell? ⟨r,5,none⟩=some (.bool m.bh)/\wr.frozen? ⟨r,4,none⟩=false/\Own w (wr.setCell ⟨r,4,none⟩ (.int .i64 k)) (dw r {m with cC:=k}::rs):=by
 obtain ⟨F,h1,h2,back⟩:=h.jT;obtain ⟨vn,vs,vl,h1⟩:kI F wr r m:=h1;refine ⟨h1.cells.c4,h1.cells.c5,h1.cells.f0 4,back _ (dw r {m with cC:=k}) ((ah.refl F wr).setCell (p:=⟨r,4,none⟩) (λ_=>h1.fr) _) ⟨vn,vs,vl, ?_⟩⟩;have hh:eP F (wr.setCell ⟨r,4,none⟩ (.int .i64 k)) r vn vs vl {m with cC:=k}:=eP.store h1.mq (by rw [bf h1.mq];rfl) (λb hb=>kS _ _ _ _ hb) h1.fr h1.aN h1.sure h1.aw h1.lt;exact hh.quiet (ah.refl _ _) (λb hb _=> .inl hb) (λb hb=>by
  rcases hb with hb | hb
  ·exact hh.lt b hb
  ·exact hb.2)
section
variable {w0 w:World} {d r:Nat} {m:DM} {rs:List (bB w0.heap.size)}
theorem Wv (h:Own w0 w (bk d m::dw r m::rs)) (ht:Tidy m n t) (x y:aD) (pv:Value) (i j:Int): bF 35 #[.pointer (some ⟨d,0,none⟩),.pointer (some ⟨r,0,none⟩),.agg #[.int .i64 4,.string x,.string y,pv,.int .i64 i,.int .i64 j]] w (mg w0 d r rs (aV m).2):=by have ho:=h.boxed (.cells #[.int .i64 4,.string x,.string y,pv,.int .i64 i,.int .i64 j] 87);have pJ:=ho.sync ht.dQ.cC ht.dQ.fits1;have HT:=ae ht;have om:=ae pJ;go_enter Tryz.func35,Tryz.ntmps35;go_wp2_with fail;refine om.Z.mono ?_;rintro e w1 ⟨rfl,fT⟩;obtain ⟨w2,CP,dy⟩:=fT.swap.vE HT.Z;have HO:=ae dy.swap.vF;generalize (aV m).1=z at*;go_wp2_with fail;refine gU CP.Z ?_;go_wp2;go_ret;exact ⟨rfl,HO.Z⟩
theorem Ww (h:Own w0 w (bk d m::dw r m::rs)) (ht:Tidy m n t) (mN:t <549755813888) (x y:aD) (pv:Value) (i j:Int): bF 35 #[.pointer (some ⟨d,0,none⟩),.pointer (some ⟨r,0,none⟩),.agg #[.int .i64 6,.string x,.string y,pv,.int .i64 i,.int .i64 j]] w (mg w0 d r rs (cX m i j)):=by have ho:=h.boxed (.cells #[.int .i64 6,.string x,.string y,pv,.int .i64 i,.int .i64 j] 87);have IY:=ho.swap.Z1 ht mN i j;have HT:=ae ht;have HRC:=ae IY;go_enter Tryz.func35,Tryz.ntmps35;go_wp2_with fail;refine HRC.Z.mono ?_;rintro e w1 ⟨rfl,fT⟩;obtain ⟨-,-,-,-,c4,c5⟩:=fJ (fT.at (b:=w.heap.size) sK).1;have ml:=fT.swap.xi i j HT.Z.dQ.fits;have UX:=ae ml;go_wp2_with fail;refine UX.Z.mono ?_;rintro e w2 ⟨rfl,dy⟩;have HO:=ae dy.vF;go_wp2;go_ret;exact ⟨rfl,HO.Z⟩
theorem Wx (h:Own w0 w (bk d m::dw r m::rs)) (x y:aD) (pv:Value) (i j:Int): bF 35 #[.pointer (some ⟨d,0,none⟩),.pointer (some ⟨r,0,none⟩),.agg #[.int .i64 5,.string x,.string y,pv,.int .i64 i,.int .i64 j]] w (mg w0 d r rs (gF m i).2):=by
 have ho:=h.boxed (.cells #[.int .i64 5,.string x,.string y,pv,.int .i64 i,.int .i64 j] 87);obtain ⟨wb,Ds⟩:=cE (w.alloc (.cells #[.int .i64 5,.string x,.string y,pv,.int .i64 i,.int .i64 j] 87));rw [<-Ds] at ho;obtain ⟨b0,b1,b2,b3,b4,b5⟩:=fJ (ho.at (b:=w.heap.size) sK).1;obtain ⟨r4,r5,f4,dy⟩:=ho.swap.abG (max i (-1));cases pB:m.bh with
 | true=>
  rw [pB] at r5;obtain ⟨w1,hf,fT⟩:=ho.Yh i;rw [show gF m i=(5,m) by unfold gF;rw [pB];rfl] at hf fT ⊢;have HO:=ae fT.vF;subst Ds;go_enter Tryz.func35,Tryz.ntmps35;go_wp2_with fail;refine gU hf.Z ?_;go_wp2;go_ret;exact ⟨rfl,HO.Z⟩
 | false=>rw [pB] at r5;obtain ⟨w1,hf,fT⟩:=dy.swap.Yh i;rw [show gF m i=(0,{m with cC:=max i (-1)}) by unfold gF;rw [pB,if_neg (by simp)];congr 2;split <;>omega] at hf fT ⊢;obtain ⟨-,-,-,-,c4,-⟩:=fJ (dy.swap.at (b:=w.heap.size) sK).1;have HO:=ae fT.vF;subst Ds;go_enter Tryz.func35,Tryz.ntmps35;go_wp2_with fail;refine gU hf.Z ?_;go_wp2;go_ret;exact ⟨rfl,HO.Z⟩
end
theorem Own.OC {a:Option Addr} {c:Nat} {l:aH} (h:Own w wr (bS (.slice a n c) l::rs)) {i:Nat} (hi:i <l.length) (b:UInt8): ∃ g,a=some ⟨g,0,none⟩/\n=l.length/\n<=c/\wr.cell? ⟨g,i,none⟩=some (.int .u8 (l[i].toNat:Int))/\wr.frozen? ⟨g,i,none⟩=false/\∀ m:Nat,Own w ({wr with drawn:=m}.setCell ⟨g,i,none⟩ (.int .u8 (b.toNat:Int))) (bS (.slice a n c) (l.set i b)::rs):=by
 obtain ⟨F,h1,h2,back⟩:=h.jT;have Pw:wr.ownsRow 0 5 1 (.slice a n c) l.length (l.map dF):=h1.1;rcases Pw.2 with ⟨_,e⟩ | ⟨g,cap,gp,e,_,hb,h3,_⟩
 ·omega
 ·simp only [Value.slice.injEq] at e;obtain ⟨rfl,rfl,rfl⟩:=e;have hc:=Pw.cells (g:=g) rfl i (dF l[i]) (by rw [jc,js hi];rfl);refine ⟨g,rfl,rfl,h3,by simpa [iV,dF] using hc,cL hb i,λm=> ?_⟩;have hm:bC {wr with drawn:=m} 0 (.slice (some ⟨g,0,none⟩) l.length c) l:=Pw;obtain ⟨q1,_,_,q4⟩:=hm.set hi b;refine back _ (bS (.slice (some ⟨g,0,none⟩) l.length c) (l.set i b)) ?_ ⟨q1,λx hx=> ?_⟩
  ·exact ((ah.refl (λx=>x=g) wr).drewN m).trans q4 (λ_ _ e=>e) |>.mono (λx _ e=>by subst e;exact h1.2 x rfl)
  ·exact .inl (h1.2 x hx)
theorem abH {α:Type} {x y z u:α} {l:List α}:u ∈ x::y::z::u::l:=nO _ sK
theorem QA {p:aH} (hp:aC w0 pv p) (hk:ak w0 wr) (F:Nat->Prop) (w':World) (hF:∀ b,F b->w0.heap.size<=b/\b <wr.heap.size) (cg:ah F wr w'):aC w' pv p:=
 hp.same (λb hb=>(cg.block b (Fv hb hk.size) (λe=>by have:=(hF b e).1;omega)).trans (hk.block b hb (λe=>e)))
section
variable {w0 w:World} {d r:Nat} {m:DM} {rs:List (bB w0.heap.size)}
theorem Wy (h:Own w0 w (bk d m::dw r m::rs)) (ht:Tidy m n t) (hn:n <1099511627776) (mN:t <549755813888) (x y:aD) {p:aH} (hp:aC w0 pv p) (kL:p.length<=140737488355328) (i j:Int): bF 35 #[.pointer (some ⟨d,0,none⟩),.pointer (some ⟨r,0,none⟩),.agg #[.int .i64 1,.string x,.string y,pv,.int .i64 i,.int .i64 j]] w (mg w0 d r rs (aM m x p).2):=by
 obtain ⟨pa,pc,rfl,_,_⟩:=hp.aG;have ho:=h.boxed (.cells #[.int .i64 1,.string x,.string y,.slice pa p.length pc,.int .i64 i,.int .i64 j] 87);have AZ:=fO (hp.keep ho.keeps) kL;have HT:=ae ht;have HP:=ae hp;have HO:=ae ho;clear h ht hp ho;go_enter Tryz.func35,Tryz.ntmps35;go_wp2_with fail;refine AZ.mono ?_;rintro e w1 ⟨v1,rfl,fh,bN⟩;obtain ⟨a1,c1,rfl,R2,adW⟩:=fh.bytes.aG;have qJ:=(HO.Z.ix fh bN).swap;obtain ⟨-,b1,-,b3,-,-⟩:=fJ (qJ.at (b:=w.heap.size) abH).1;have kt:=qJ.append x fh.bytes.reads HT.Z.dQ.qz HT.Z.dQ.nY HT.Z.dQ.AA HT.Z.dQ.cC (HT.Z.dQ.aw hn);have AF:=ae kt;clear qJ kt fh bN HO AZ;have Yi:=kj m x p;generalize aM m x p=res at*;obtain ⟨z,m2⟩:=res;have HSA:=ae Yi;clear Yi;go_wp2_with fail;refine AF.Z.mono ?_;rintro e w2 ⟨rfl,dy⟩;have wM:=ae dy;clear dy AF;simp only;go_wp2_with fail;clear b1 b3;go_loopw [41] (λiv wx=>∃ (k:Nat) (l':aH),k<=p.length/\iv= .int .i64 (k:Int)/\l'.length=p.length/\Own w0 wx (bS (.slice a1 p.length c1) l'::bk d m2::dw r m::aA w.heap.size (.cells #[.int .i64 1,.string x,.string y,.slice pa p.length pc,.int .i64 i,.int .i64 j] 87)::rs)) (λiv _=>p.length - (intOf iv).toNat);case atStart=>exact ⟨0,p,fC _,rfl,rfl,wM.Z.swap⟩
 case round=>
  obtain ⟨k,l',hk,rfl,N2,ho⟩:=hrel;have j0:=np k;by_cases qU:k <p.length
  ·have j1:(k:Int) <p.length:=by omega
   have Tn:k <l'.length:=by omega
   obtain ⟨g,e,_,sy,hcq,hfq,bG⟩:=ho.OC Tn (l'[k] ^^^ 255);subst e;replace bG:=bG wr.drawn;have zE:(l'.set k (l'[k] ^^^ 255)).length=p.length:=by rw [yo];exact N2
   have e1:bits .xor .u8 (l'[k].toNat:Int) 255=((l'[k] ^^^ 255).toNat:Int):=by rw [UInt8.toNat_xor];exact u8_xor_nat _ 255 (UInt8.toNat_lt _) (by omega)
   have Vy:=l'[k].toNat_lt;have fP:=ae (⟨k+1,_,by omega,rfl,zE,bG⟩:∃ (k2:Nat) (l2:aH),k2<=p.length/\Value.int .i64 ((k+1:Nat):Int)= .int .i64 (k2:Int)/\l2.length=p.length/\Own w0 (World.setCell wr ⟨g,k,none⟩ (.int .u8 ((l'[k] ^^^ 255).toNat:Int))) (bS (.slice (some ⟨g,0,none⟩) p.length c1) l2::bk d m2::dw r m::aA w.heap.size (.cells #[.int .i64 1,.string x,.string y,.slice pa p.length pc,.int .i64 i,.int .i64 j] 87)::rs));generalize l'[k] ^^^ 255=yb at e1 fP;generalize l'[k].toNat=xb at hcq e1 Vy
   have Hi:=ae qU;clear ho bG Vy qU hk N2 zE Tn wM HP HT HSA;go_wp2;go_roundw;case rel=>exact fP.Z
   case measure=>have:=Hi.Z;simp [intOf];omega
  ·obtain rfl:k=p.length:=by omega
   have dy:=ho.drop;obtain ⟨-,b1,-,b3,-,-⟩:=fJ (dy.at (b:=w.heap.size) sK).1;have bG:=dy.swap.nZ HT.Z hn mN ⟨1,x,⟨#[]⟩,p⟩ ⟨by simp,by simp⟩ (λe=>absurd rfl e) (pv:= .slice pa p.length pc) (λF w' h1 h2=>QA HP.Z dy.keeps F w' h1 h2);rw [HSA.Z] at bG;have fP:=ae bG;clear ho dy bG wM HP HT HSA;go_wp2_with fail;refine fP.Z.mono ?_;rintro e w3 ⟨rfl,fy⟩;have HO:=ae fy.swap.vF;clear fy fP;simp only at HO ⊢;go_wp2;go_ret;exact ⟨rfl,HO.Z⟩
end
theorem rH {l:aH} (h:aC w v l) (hl:l.length<=140737488355328): ∃ v' w',aW 111 #[v] w v' w'/\bC w' w.heap.size v' l/\ak w w':=by
 obtain ⟨a,c,rfl,h1,h2⟩:=h.aG;cases a with
 | none=>
  rcases h with ⟨e,rfl⟩ | ⟨x,c',e,_⟩
  ·simp only [Value.slice.injEq] at e;obtain ⟨_,_,rfl⟩:=e;exact ⟨_,_,Ea w,bC.nil _ _,ah.refl _ _⟩
  ·cases e
 | some a=>
  have Vm:bC (w.alloc (.cells #[] 5)) w.heap.size (.slice (some ⟨w.heap.size,0,none⟩) 0 0) []:=
   ⟨rfl,.inr ⟨w.heap.size,0,#[],rfl,eQ _,heap_alloc_new w _,eQ _,fC _,rfl,rfl⟩⟩
  have hk:aC (w.alloc (.cells #[] 5)) (.slice (some a) l.length c) l:=h.keep ((ah.refl _ w).alloc _);obtain ⟨v',w1,aT,hB,bN⟩:=Vm.grow (by simp) hk (by simpa using hl);refine ⟨v',w1,Eb w w1 a _ c v' aT,by simpa using hB,((ah.refl _ w).alloc _).trans bN (λb hb e=> ?_)⟩;simp only [Value.ownBlock,im] at e;omega
theorem QB (h:cZ F w d m) (n:aD) (at_ k:Int) (cU:((aZ m.aN n).getD []).length<=140737488355328): ∃ v w',aW 55 #[.pointer (some ⟨d,0,none⟩),.string n,.int .i64 at_,.int .i64 k] w (.tuple #[v,.int .i64 (er m n at_ k)]) w'/\bC w' w.heap.size v (di m n at_ k)/\ak w w':=by
 have gK:=mC h n;unfold er di;by_cases ht:aF m n=0
 ·simp only [ht,if_true];rw [ht] at gK;by_cases qk:at_ <0\/k <0
  ·simp only [qk,if_true];exact ⟨_,_,Ie w d n at_ k gK qk,bC.nil _ _,ah.refl _ _⟩
  ·simp only [qk,if_false];obtain ⟨bn,bs,vl,h⟩:=h;obtain ⟨v,hB,_,nw⟩:=nu h.aN n;have hl:=nw false;simp only [nP,if_false] at hl;generalize (aZ m.aN n).getD []=l at*;obtain ⟨va,vc,rfl,h1,h2⟩:=hB.aG;unfold maxLen at h2;by_cases hc:vc=(if (l.length:Int) <at_ then (l.length:Int) else at_).toNat
   ·have zk:vc=l.length:=by split at hc <;>omega
    subst zk;obtain ⟨v2,w2,hr,uV,cg⟩:=rH hB.N3.reads (by simp);refine ⟨v2,w2,Ec w w2 d bn n at_ k va l.length v2 gK h.cells.c1 hl (by omega) (by omega) (by split <;>omega) (by split <;>omega) (by omega) hr, ?_,cg⟩;have:gV l at_ k=[]:=by unfold gV;rw [CX (by split at hc <;>omega)];simp
    rw [this];exact uV
   ·have dI:∀ i:Nat,i=(if (l.length:Int) <at_ then (l.length:Int) else at_).toNat->i<=l.length:=by intro i hi;split at hi <;>omega
    obtain ⟨i,hi⟩:∃ i:Nat,i=(if (l.length:Int) <at_ then (l.length:Int) else at_).toNat:=⟨_,rfl⟩;have Y1:=dI i hi;rw [<-hi] at hc;obtain ⟨j,hj⟩:∃ j:Nat,j=(if ((l.length - i:Nat):Int) <k then ((l.length - i:Nat):Int) else k).toNat:=⟨_,rfl⟩;have FF:i+j<=l.length:=by split at hj <;>omega
    obtain ⟨v2,w2,hr,uV,cg⟩:=rH (hB.from i j FF hc).reads (by simp;omega);refine ⟨v2,w2,Ib w w2 d bn n at_ k i j va l.length vc v2 gK h.cells.c1 hl (by omega) (by omega) (by split at hi <;>(split <;>omega)) (by split at hj <;>(split <;>omega)) (by omega) (by omega) (by omega) (by omega) (by omega) hc hr, ?_,cg⟩;have:gV l at_ k=(l.drop i).take j:=by
     unfold gV;by_cases h3:(l.length:Int) <at_
     ·rw [if_pos h3] at hi;rw [CX (by omega:l.length<=at_.toNat),CX (by omega:l.length<=i)];simp
     ·rw [if_neg h3] at hi;rw [<-hi];by_cases h4:((l.length - i:Nat):Int) <k
      ·rw [if_pos h4] at hj;rw [sU (by simp;omega),sU (by simp;omega)]
      ·rw [if_neg h4] at hj;rw [<-hj]
    rw [this];exact uV
 ·simp only [ht,if_false];exact ⟨_,_,Ic w d n at_ k _ gK (by simpa using ht),bC.nil _ _,ah.refl _ _⟩
theorem Own.Wz (h:Own w wr (bk d m::rs)) (n:aD) (at_ k:Int) (cU:((aZ m.aN n).getD []).length<=140737488355328): ∃ a c w',aW 55 #[.pointer (some ⟨d,0,none⟩),.string n,.int .i64 at_,.int .i64 k] wr (.tuple #[.slice a (di m n at_ k).length c,.int .i64 (er m n at_ k)]) w'/\Own w w' (bS (.slice a (di m n at_ k).length c) (di m n at_ k)::bk d m::rs)/\ak wr w':=by obtain ⟨F,h1,_⟩:=h.lW;obtain ⟨v,w',hr,ho,hk⟩:=QB h1 n at_ k cU;obtain ⟨a,c,rfl,_,_⟩:=ho.bytes.aG;exact ⟨a,c,w',hr,h.ix ho hk,hk⟩
section
variable {w0 w:World} {d r:Nat} {m:DM} {rs:List (bB w0.heap.size)}
theorem WA (h:Own w0 w (bk d m::dw r m::rs)) (ht:Tidy m n t) (mN:t <549755813888) (kd:Int) (Z2:¬(0<=kd/\kd<=6)) (x y:aD) (pv:Value) (i j:Int): bF 35 #[.pointer (some ⟨d,0,none⟩),.pointer (some ⟨r,0,none⟩),.agg #[.int .i64 kd,.string x,.string y,pv,.int .i64 i,.int .i64 j]] w (mg w0 d r rs m):=by
 have ho:=h.boxed (.cells #[.int .i64 kd,.string x,.string y,pv,.int .i64 i,.int .i64 j] 87);obtain ⟨wb,Ds⟩:=cE (w.alloc (.cells #[.int .i64 kd,.string x,.string y,pv,.int .i64 i,.int .i64 j] 87));rw [<-Ds] at ho;have sB:(kd==0)=false:=by simp;omega
 have bN:(kd==1)=false:=by simp;omega
 have cg:(kd==2)=false:=by simp;omega
 have dN:(kd==3)=false:=by simp;omega
 have eA:(kd==4)=false:=by simp;omega
 have fB:(kd==5)=false:=by simp;omega
 have gZ:(kd==6)=false:=by simp;omega
 have uM:=ht.dQ.get x;have HO:=ae ho;have HT:=ae ht;subst Ds;clear h ht ho Z2;go_enter Tryz.func35,Tryz.ntmps35;go_wp2_with fail;obtain ⟨a1,c1,w1,gm,qJ,yB⟩:=HO.Z.Wz x i j (by omega);refine gm.Z.mono ?_;rintro e w' ⟨rfl,rfl⟩;obtain ⟨F,vn,vs,vl,tV⟩:=qJ.ref (r:=r) (m:=m) sK;obtain ⟨na,nc,rfl,sy,_⟩:=tV.aN.aG;have r1:=tV.cells.c1;have r5:=tV.cells.c5;obtain ⟨-,b1,-,-,b4,b5⟩:=fJ (qJ.at (b:=w.heap.size) abH).1;have zH:=jk (tV.aN.same (w':=w1.drew) (λ_ _=>rfl)) x (by have:=HT.Z.AH;omega);have AL:=ae qJ;have Gt:=ae tV;clear gm qJ tV HO yB;generalize hz:er m x i j=z at*;generalize hL:di m x i j=L at*;have HZ:=ae hz;have HL:=ae hL;clear hz hL;go_wp2_with fail;go_region_held3 (λw'=>w'.cell? ⟨r,1,none⟩=some (.slice na m.aN.length nc)/\w'.cell? ⟨w.heap.size,1,none⟩=some (.string x)) (first | exact ⟨r1,b1⟩ | go_keep) (first | (go_at_call 79;refine zH.Z.mono ?_;rintro e w' ⟨rfl,rfl⟩));have r5':w1.drew.cell? ⟨r,5,none⟩=some (.bool m.bh):=r5;have r1':w1.drew.cell? ⟨r,1,none⟩=some (.slice na m.aN.length nc):=r1;have b4':w1.drew.cell? ⟨w.heap.size,4,none⟩=some (.int .i64 i):=b4;have b5':w1.drew.cell? ⟨w.heap.size,5,none⟩=some (.int .i64 j):=b5;have To:=ae (AL.Z.drop.drew.vF);cases pB:m.bh with
 | true=>
  have e1:z=5/\L=[]:=by have h1:=HZ.Z;have h2:=HL.Z;simp only [er,di,aF,pB,if_true] at h1 h2;exact ⟨h1.symm,h2.symm⟩
  obtain ⟨rfl,rfl⟩:=e1;rw [pB] at r5';clear r5 zH r1 b1 HZ HL AL Gt;go_wp2;go_ret;exact ⟨rfl,To.Z⟩
 | false=>
  rw [pB] at r5';clear r5 zH;by_cases fb:dr m.aN x <0
  ·have e1:z=6/\L=[]:=by
    have h1:=HZ.Z;have h2:=HL.Z;have hg:(aZ m.aN x).isSome=false:=by rw [eN,decide_eq_true fb];rfl
    simp only [er,di,aF,pB,hg,nP,if_false] at h1 h2;exact ⟨h1.symm,h2.symm⟩
   obtain ⟨rfl,rfl⟩:=e1;generalize dr m.aN x=fi at*;clear r1 b1 HZ HL AL Gt;go_wp2;go_ret;exact ⟨rfl,To.Z⟩
  ·have hg:(aZ m.aN x).isSome=true:=by rw [eN,decide_eq_false fb];rfl
   have gK:aF m x=0:=by simp only [aF,pB,hg,nP,if_false,if_true]
   by_cases qk:i <0\/j <0
   ·have e1:z=1/\L=[]:=by have h1:=HZ.Z;have h2:=HL.Z;simp only [er,di,gK,qk,if_true] at h1 h2;exact ⟨h1.symm,h2.symm⟩
    obtain ⟨rfl,rfl⟩:=e1;generalize dr m.aN x=fi at*;clear r1 b1 HZ HL AL Gt hg gK;by_cases hi:i <0
    ·clear qk;go_wp2;go_ret;exact ⟨rfl,To.Z⟩
    ·have hj:j <0:=by omega
     clear qk;go_wp2;go_ret;exact ⟨rfl,To.Z⟩
   ·have e1:z=0/\L=gV ((aZ m.aN x).getD []) i j:=by have h1:=HZ.Z;have h2:=HL.Z;simp only [er,di,gK,qk,if_true,if_false] at h1 h2;exact ⟨h1.symm,h2.symm⟩
    obtain ⟨rfl,EF⟩:=e1;have hi:¬i <0:=by omega
    have hj:¬j <0:=by omega
    obtain ⟨k,XZ,uF⟩:=mM hg;rw [XZ] at*;have qU:=(List.getElem?_eq_some_iff.1 uF).1;have k0:=np k;have k1:(k:Int) <m.aN.length:=by omega
    obtain ⟨g,cap,q,e,iL,gy,hB⟩:=Gt.Z.aN.cell uF;simp only [Value.slice.injEq] at e;obtain ⟨rfl,-,rfl⟩:=e;obtain ⟨qa,qc,rfl,_,_⟩:=hB.aG;simp only at gy hB;have Jm:w1.drew.cell? ⟨g,k*2+1,none⟩=some (.slice qa ((aZ m.aN x).getD []).length qc):=gy;generalize (aZ m.aN x).getD []=bb at*;have wm:=Ja (w:=w1.drew.drew) ((hB.reads.keep (ah.refl _ w1).drew).keep (ah.refl _ w1.drew).drew) i j (by omega) (by omega) (by omega);rw [<-EF] at wm;have hLb:(L.length:Int)<=67108864:=by
     have:L.length<=bb.length:=by rw [EF];unfold gV;simp;omega
     omega
    have dI:∀ (p:Addr) (v:Value),w1.cell? p=some v->∀ w2,ak w1.drew.drew w2->w2.cell? p=some v:=λp v hp w2 cg=>(kK (cg.eD.eD.block _ (wT w1 _ hp) (λe=>e))).trans hp;have qg:∀ w2,ak w1.drew.drew w2->w2.cell? ⟨r,1,none⟩=some (.slice (some ⟨g,0,none⟩) m.aN.length nc)/\w2.cell? ⟨g,k*2+1,none⟩=some (.slice qa bb.length qc)/\w2.cell? ⟨w.heap.size,4,none⟩=some (.int .i64 i)/\w2.cell? ⟨w.heap.size,5,none⟩=some (.int .i64 j):=λw2 cg=>⟨dI _ _ r1 w2 cg,dI _ _ gy w2 cg,dI _ _ b4 w2 cg,dI _ _ b5 w2 cg⟩;have hLr:=(AL.Z.bytes (gw ..)).1;have tz:∀ w2 v3,ak w1.drew.drew w2->bC w2 w1.drew.drew.heap.size v3 L->bF 15 #[.slice a1 L.length c1,v3] w2 (bH w2 (.bool true)):=λw2 v3 cg fy=>by have:=q8 (hLr.keep cg.eD.eD) fy.bytes.reads;rw [decide_eq_true rfl] at this;exact this
    have HCC:=ae qg;have wN:=ae tz;have EY:=ae wm;clear qk hg gK fb XZ uF qU hB EF HZ HL Gt To dI qg hLr tz wm;go_wp2_with fail;go_region_held3 (λw'=>w'.cell? ⟨r,1,none⟩=some (.slice (some ⟨g,0,none⟩) m.aN.length nc)/\w'.cell? ⟨g,k*2+1,none⟩=some (.slice qa bb.length qc)/\w'.cell? ⟨w.heap.size,4,none⟩=some (.int .i64 i)/\w'.cell? ⟨w.heap.size,5,none⟩=some (.int .i64 j)) (first | exact ⟨r1',Jm,b4',b5'⟩ | exact HCC.Z _ B4 | exact HCC.Z _ cg | go_keep) (first | (go_at_call 86;refine EY.Z.mono ?_;rintro e w2 ⟨v3,rfl,fy,cg⟩) | (go_at_call 15;refine (wN.Z _ _ cg fy).mono ?_;rintro e w3 ⟨rfl,dN⟩;have B4:=cg.trans dN (λ_ _ e=>e)));have De:=ae (AL.Z.quiet B4.eD.eD);clear B4 dN fy cg HCC wN EY AL r1 r1' r5' b1 b4 b5 b4' b5' iL gy Jm;go_wp2_with fail;clear k0 k1;go_loopw [209] (λiv wx=>∃ (k2:Nat) (l':aH),k2<=L.length/\iv= .int .i64 (k2:Int)/\l'.length=L.length/\Own w0 wx (bS (.slice a1 L.length c1) l'::bk d m::dw r m::aA w.heap.size (.cells #[.int .i64 kd,.string x,.string y,pv,.int .i64 i,.int .i64 j] 87)::rs)) (λiv _=>L.length - (intOf iv).toNat);case atStart=>exact ⟨0,L,fC _,rfl,rfl,De.Z⟩
    case round=>
     obtain ⟨k2,l',hk,rfl,N2,ho⟩:=hrel;have j0:(0:Int)<=k2:=by omega
     by_cases qU:k2 <L.length
     ·have j1:(k2:Int) <L.length:=by omega
      have Tn:k2 <l'.length:=by omega
      obtain ⟨g2,e,_,adX,hcq,hfq,bG⟩:=ho.OC Tn (l'[k2] ^^^ 255);subst e;replace bG:=bG wr.drawn;have zE:(l'.set k2 (l'[k2] ^^^ 255)).length=L.length:=by rw [yo];exact N2
      have e1:bits .xor .u8 (l'[k2].toNat:Int) 255=((l'[k2] ^^^ 255).toNat:Int):=by rw [UInt8.toNat_xor];exact u8_xor_nat _ 255 (UInt8.toNat_lt _) (by omega)
      have Vy:=l'[k2].toNat_lt;have fP:=ae (⟨k2+1,_,by omega,rfl,zE,bG⟩:∃ (k3:Nat) (l2:aH),k3<=L.length/\Value.int .i64 ((k2+1:Nat):Int)= .int .i64 (k3:Int)/\l2.length=L.length/\Own w0 (World.setCell wr ⟨g2,k2,none⟩ (.int .u8 ((l'[k2] ^^^ 255).toNat:Int))) (bS (.slice (some ⟨g2,0,none⟩) L.length c1) l2::bk d m::dw r m::aA w.heap.size (.cells #[.int .i64 kd,.string x,.string y,pv,.int .i64 i,.int .i64 j] 87)::rs));generalize l'[k2] ^^^ 255=yb at e1 fP;generalize l'[k2].toNat=xb at hcq e1 Vy
      have Hi:=ae qU;clear ho bG Vy qU hk N2 zE Tn De HT;go_wp2;go_roundw;case rel=>exact fP.Z
      case measure=>have:=Hi.Z;simp [intOf];omega
     ·obtain rfl:k2=L.length:=by omega
      have HO:=ae ho.drop.vF;clear ho De HT;go_wp2;go_ret;exact ⟨rfl,HO.Z⟩
end
theorem Tidy.xF {m:DM} {n t:Nat} (h:Tidy m n t) (o:Op9) (hn:o.n<=9223372036854775807):Tidy (xF m o) (n+1) (t+1):=by
 unfold Go.Proofs.YtlcnhpjggjgnpaaGreatDoor.xF;split
 ·rw [<-ki];exact h.step _ ⟨by simp,by simp⟩ (λ_=>rfl) (λ_=>fC _)
 ·split
  ·rw [<-kj];exact h.step _ ⟨by simp,by simp⟩ (λe=>absurd rfl e) (λ_=>fC _)
  ·split
   ·rw [<-gb];exact h.step _ ⟨by simp,by simp⟩ (λ_=>rfl) (λ_=>fC _)
   ·split
    ·rw [<-lD];exact h.step _ ⟨by simp,by simp⟩ (λ_=>rfl) (λe=>absurd rfl e)
    ·split
     ·exact h.sync.mono (eM _) (eM _)
     ·split
      ·exact (h.A0 _ hn).mono (eM _) (eM _)
      ·split
       ·exact (h.xi _ _).mono (fC _) (eM _)
       ·exact h.mono (eM _) (eM _)
theorem zT {rs:List (bB w0.heap.size)} (h:Own w0 w (bk d m::dw r m::rs)) (ht:Tidy m n t) (hn:n <1099511627776) (mN:t <549755813888) (o:Op9) (hp:aC w0 pv o.p) (kL:o.p.length<=140737488355328): bF 35 #[.pointer (some ⟨d,0,none⟩),.pointer (some ⟨r,0,none⟩),.agg #[.int .i64 o.kind,.string o.a,.string o.b,pv,.int .i64 o.n,.int .i64 o.m]] w (mg w0 d r rs (xF m o)):=by
 obtain ⟨k,a,b,p,i,j⟩:=o;simp only at*;unfold xF;by_cases h0:k=0
 ·subst h0;exact Ws h ht hn mN a b pv i j
 by_cases h1:k=1
 ·subst h1;exact Wy h ht hn mN a b hp kL i j
 by_cases h2:k=2
 ·subst h2;exact Wt h ht hn mN a b pv i j
 by_cases h3:k=3
 ·subst h3;exact Wu h ht hn mN a b pv i j
 by_cases h4:k=4
 ·subst h4;exact Wv h ht a b pv i j
 by_cases h5:k=5
 ·subst h5;exact Wx h a b pv i j
 by_cases h6:k=6
 ·subst h6;exact Ww h ht mN a b pv i j
 simp only [h0,h1,h2,h3,h4,h5,h6,if_false];exact WA h ht mN k (by omega) a b pv i j
theorem Own.Tp {l:aH} (h:Own w wr (dw r m::bS v l::rs)) (ht:Tidy m n t) (hn:n <1099511627776) (mN:t <549755813888) (c:Ch) (hk:0<=c.kind/\c.kind<=3) (wZ:c.kind≠1->c.p=[]) (hcut:∀ w',aC w' v l->aC w' pv c.p): bF 80 #[.pointer (some ⟨r,0,none⟩),.agg #[.int .i64 c.kind,.string c.a,.string c.b,pv]] wr (tH w r (bS v l::rs) (iz m c)):=by
 obtain ⟨k,Fs,hr,hp⟩:=h;match Fs,hr,hp with
 | F::G::Gs,hr,hp=>
  have qT:=List.pairwise_cons.1 hp;have pz:=qT.1 G (gw ..);have BU:∀ w',ah F wr w'->aC w' pv c.p:=λw' uX=>by
   refine hcut w' ?_;have hB:=(bS v l).keep G wr w' hr.2.1.1 (λb hb=>by
    rcases hb with hb | hb
    ·exact uX.block b (hr.2.1.2 b hb).2 (λe=>pz b e hb)
    ·exact uX.block b (by have:=k.size;omega) (λe=>by have:=(hr.1.2 b e).1;omega))
   exact (kU (base:=0) hB.1).reads
  refine (tG (hr.1.1:kI F wr r m) c BU hk wZ ht.SB ht.dQ.cC (Nat.lt_of_le_of_lt ht.AH mN) (ht.dQ.aw hn) ht.dQ.AA ht.dQ.qz ht.dQ.nY).mono ?_;rintro e w' ⟨he,h3,h4,-⟩;refine ⟨he,k.trans h4 (λb hb e=>by have:=(hr.1.2 b e).1;omega),fX F wr w'::G::Gs,⟨⟨h3,λb hb=> ?_⟩,mI k.size h4 (λb e=>(hr.1.2 b e).1) hr.2 (λH hH b hb e=>qT.1 H hH b e hb)⟩,List.pairwise_cons.2 ⟨λH hH b hb e=> ?_,qT.2⟩⟩
  ·have:=k.size;have:=h4.size;rcases hb with hb | hb
   ·have:=hr.1.2 b hb;omega
   ·omega
  ·rcases hb with hb | hb
   ·exact qT.1 H hH b hb e
   ·have:=lA hr.2 H hH b e;omega
theorem ME {c:Ch} (h:(iz m c).1=4):(iz m c).2.bh=false:=by
 unfold iz at h ⊢;cases hd:m.bh with
 | true=>rw [hd] at h;simp at h
 | false=>
  rw [hd] at h;simp only [nP,if_false] at h ⊢;split
  ·rename_i h0;rw [if_pos h0] at h;unfold dB at h ⊢;split at h
   ·simp at h
   ·simp at h
  ·exact hd
def dW (r:Int × DM) (f:DM->Int × DM):Int × DM:=if r.1=0 then f r.2 else r
theorem JP (r:Int × DM) (f g:DM->Int × DM):dW (dW r f) g=dW r (λm=>dW (f m) g):=by
 unfold dW;by_cases h:r.1=0
 ·rw [if_pos h,if_pos h]
 ·rw [if_neg h,if_neg h,if_neg h]
theorem rI (f:DM->Int × DM) (fs:List (DM->Int × DM)):cA (f::fs)=λm=>dW (f m) (cA fs):=rfl
theorem wF (r:Int × DM):dW r (cA [])=r:=by
 unfold dW;split
 ·rename_i h;rw [cA,<-h]
 ·rfl
def jK (m:DM) (t:aD):Int × DM:=if m.bh=false/\0<=dr m.aN t then aE m t else (0,m)
def vG (t:aD) (r:Int × DM):Int × DM:=if r.1=4/\0<=dr r.2.aN t then (if (aE r.2 t).1=0 then (4,(aE r.2 t).2) else aE r.2 t) else r
def il (m:DM) (nm:aD) (b:aH):Int × DM:=
 dW (dW (dW (dW (dW (jK m (bj nm)) (λm=>aO m (bj nm))) (λm=>jh m (bj nm) b)) aV) (λm=>bw m (bj nm) nm)) aV
theorem zU {t:aD} (hd:m.bh=false) (hf:0<=dr m.aN t):¬(aE m t).1=6:=by
 have hg:(aZ m.aN t).isSome=true:=by rw [eN,decide_eq_false (by omega)];rfl
 have ht:aF m t=0:=by simp [aF,hd,hg]
 unfold aE;rw [if_pos ht];unfold dB;split <;>simp
theorem Gu (m:DM) (t:aD):dW (jK m t) (λm=>aO m t)=dW (dK m t) (λm=>aO m t):=by
 cases hd:m.bh with
 | true=>
  have h1:jK m t=(0,m):=by unfold jK;rw [hd];simp
  have h2:dK m t=(5,m):=by simp [dK,aE,aF,hd]
  have h3:aO m t=(5,m):=by unfold aO;rw [hd];rfl
  rw [h1,h2];simp [dW,h3]
 | false=>
  by_cases hf:0<=dr m.aN t
  ·have h1:jK m t=aE m t:=by unfold jK;rw [if_pos ⟨hd,hf⟩]
   have h2:dK m t=aE m t:=by unfold dK;rw [if_neg (zU hd hf)]
   rw [h1,h2]
  ·have h1:jK m t=(0,m):=by unfold jK;rw [if_neg (λh=>hf h.2)]
   have hg:(aZ m.aN t).isSome=false:=by rw [eN,decide_eq_true (by omega)];rfl
   have gK:aF m t=6:=by simp [aF,hd,hg]
   have h2:dK m t=(0,m):=by unfold dK aE;rw [gK];simp
   rw [h1,h2]
theorem MF (m:DM) (nm:aD) (b:aH):il m nm b=cA (dS nm b) m:=by unfold il dS;rw [Gu];simp only [rI,JP,wF]
def jU (r:Int × DM):Prop:=r.1=4->r.2.bh=false
theorem jU.step (m:DM) (c:Ch):jU (iz m c):=ME
theorem jU.sync (m:DM):jU (aV m):=by
 intro h;unfold aV at h;split at h
 ·simp at h
 ·split at h <;>simp at h
theorem jU.then {r:Int × DM} {f:DM->Int × DM} (h:jU r) (hf:∀ m,jU (f m)):jU (dW r f):=by
 unfold dW;split
 ·exact hf _
 ·exact h
theorem jU.write (t:aD) (b:aH):∀ (f:Nat) (m:DM) (i:Nat),jU (dT t b f m i)
 | 0,m,i=>λh=>by simp [dT] at h
 | f+1,m,i=>by
  rw [dT];split
  ·split
   ·exact jU.write t b f _ _
   ·rw [<-kj];exact jU.step _ _
  ·intro h;simp at h
theorem jU.first (m:DM) (t:aD):jU (jK m t):=by
 unfold jK;split
 ·rw [<-gb];exact jU.step _ _
 ·intro h;simp at h
theorem jU.lay (m:DM) (nm:aD) (b:aH):jU (il m nm b):=
 (((((jU.first m _).then (λm=>by rw [<-ki];exact jU.step _ _)).then (λm=>jU.write _ _ _ _ _)).then jU.sync).then (λm=>by rw [<-lD];exact jU.step _ _)).then jU.sync
theorem OD (m:DM) (nm:aD) (b:aH):vG (bj nm) (il m nm b)=mz m nm b:=by
 have h4:=jU.lay m nm b;unfold mz;rw [<-MF];generalize il m nm b=r at h4;unfold vG tA;by_cases h:r.1=4
 ·have hd:=h4 h;rw [if_pos h];by_cases hf:0<=dr r.2.aN (bj nm)
  ·rw [if_pos ⟨h,hf⟩];have h2:dK r.2 (bj nm)=aE r.2 (bj nm):=by unfold dK;rw [if_neg (zU hd hf)]
   rw [h2]
  ·rw [if_neg (λh=>hf h.2)];have hg:(aZ r.2.aN (bj nm)).isSome=false:=by rw [eN,decide_eq_true (by omega)];rfl
   have gK:aF r.2 (bj nm)=6:=by simp [aF,hd,hg]
   have h2:dK r.2 (bj nm)=(0,r.2):=by unfold dK aE;rw [gK];simp
   rw [h2];simp only [if_true];rw [<-h]
 ·rw [if_neg h,if_neg (λh'=>h h'.1)]

end Go.Proofs.YtlcnhpjggjgnpaaGreatDoor