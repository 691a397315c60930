/- A part of the proof. -/
import Derived.Test.YtlcnhpjggjgnpaaGreatDoorUplb0
import Derived.Test.YtlcnhpjggjgnpaaGreatDoorUplb2
import Derived.Laws.Cover1
set_option linter.unusedSimpArgs false
set_option linter.unusedVariables false
set_option maxRecDepth 100000
set_option maxHeartbeats 1000000
namespace Go.Proofs.YtlcnhpjggjgnpaaGreatDoor
open Go.RowKit Go.MapKept
open Go.ChangeMaps (setBlock)
variable {B b c j k n t:Nat} {F G:Nat->Prop} {T:TypeId} {W w w' w0 wr:World} {a:Option Addr} {cs l:List eX} {bh:Bool} {f:aD × aH} {fs ku wQ:FS} {v:Value} {d m:bB w.heap.size} {rs:List (bB w.heap.size)}
def dL:List Value->List eX->List Value
 | p::ps,c::cs=> .string c.key:: .bool c.gone::p::dL ps cs
 | _,_=>[]
theorem lb:∀ (ps:List Value) (cs:List eX) (p:Value) (c:eX),ps.length=cs.length->dL (ps++[p]) (cs++[c])=dL ps cs++[.string c.key,.bool c.gone,p]
 | [],[],_,_,_=>rfl
 | q::ps,g::cs,p,c,h=>by simp [dL,lb ps cs p c (by simpa using h)]
 | [],_::_,_,_,h=>by simp at h
 | _::_,[],_,_,h=>by simp at h
theorem oq:∀ {ps:List Value} {cs:List eX} (i:Nat) {p:Value} {c:eX},ps[i]?=some p->cs[i]?=some c->(dL ps cs)[i*3]?=some (.string c.key)/\(dL ps cs)[i*3+1]?=some (.bool c.gone)/\(dL ps cs)[i*3+2]?=some p
 | q::ps,g::cs,0,p,c,hp,hc=>by
  simp at hp hc;subst hp;subst hc;exact ⟨rfl,rfl,rfl⟩
 | q::ps,g::cs,i+1,p,c,hp,hc=>by
  have:=oq (ps:=ps) (cs:=cs) i (by simpa using hp) (by simpa using hc);rw [show (i+1)*3=i*3+1+1+1 by omega];simpa [dL] using this
 | [],_,i,_,_,hp,_=>by simp at hp
 | _::_,[],i,_,_,_,hc=>by simp at hc
def fu (w:World) (a:Option Addr) (cs:List eX):Prop:=
 ∀ (i:Nat) (c:eX),cs[i]?=some c->∃ x p,a=some x/\w.cell? (x.add (i*3))=some (.string c.key)/\w.cell? (x.add (i*3+1))=some (.bool c.gone)/\w.cell? (x.add (i*3+2))=some p/\aC w p c.val
theorem aJ {x:Addr} (h:w.cell? x=some v) (hk:ak w w'):w'.cell? x=some v:=by have:=hk.block _ (wT w _ h) (λe=>e);rw [kK this];exact h
theorem fu.keep {w w':World} {a:Option Addr} {cs:List eX} (h:fu w a cs) (hk:ak w w'):fu w' a cs:=λi c hc=>by obtain ⟨x,p,e,c0,c1,c2,hp⟩:=h i c hc;exact ⟨x,p,e,aJ c0 hk,aJ c1 hk,aJ c2 hk,hp.keep hk⟩
theorem fu.cells (h:fu w a cs) {i:Nat} {c:eX} (hc:cs[i]?=some c):∃ x p,a=some x/\w.cell? (x.add (i*3))=some (.string c.key)/\w.cell? {block:=(x.add (i*3)).block,off:=(x.add (i*3)).off+1}=some (.bool c.gone)/\w.cell? {block:=(x.add (i*3)).block,off:=(x.add (i*3)).off+2}=some p/\aC w p c.val:=by obtain ⟨x,p,e,c0,c1,c2,hp⟩:=h i c hc;rw [<-Addr.add_add,Addr.add_succ'] at c1 c2;exact ⟨x,p,e,c0,c1,c2,hp⟩
def zV (B:Nat) (F:Nat->Prop) (w:World) (a:Option Addr) (cs:List eX):Prop:=
 ∀ (i:Nat) (c:eX),cs[i]?=some c->∃ x p,a=some x/\(F x.block\/x.block <B)/\w.cell? (x.add (i*3))=some (.string c.key)/\w.cell? (x.add (i*3+1))=some (.bool c.gone)/\w.cell? (x.add (i*3+2))=some p/\lm B F w p c.val
theorem zV.keep {B:Nat} {F:Nat->Prop} {w w':World} {a:Option Addr} {cs:List eX} (h:zV B F w a cs) (hk:∀ b,F b\/b <B->w'.heap[b]?=w.heap[b]?):zV B F w' a cs:=λi c hc=>by obtain ⟨x,p,e,hb,c0,c1,c2,hp⟩:=h i c hc;have hh:∀ j,w'.cell? (x.add j)=w.cell? (x.add j):=λj=>kK (by rw [add_block];exact hk _ hb);exact ⟨x,p,e,hb,(hh _).trans c0,(hh _).trans c1,(hh _).trans c2,hp.keep hk⟩
theorem zV.ins (h:zV B F w a cs):fu w a cs:=λi c hc=>by obtain ⟨x,p,e,_,c0,c1,c2,hp⟩:=h i c hc;exact ⟨x,p,e,c0,c1,c2,hp.reads⟩
def OE {B:Nat} (a:Option Addr) (cs:List eX):bB B:=⟨λF w=>zV B F w a cs,λ_ _ _ h hk=>h.keep hk⟩
theorem Own.ac8 (h:Own w wr rs) (hm:OE a cs ∈ rs):fu wr a cs:=by obtain ⟨F,hF,_⟩:=h.mem hm;exact zV.ins hF
def eG (T:TypeId) (base:Nat) (w:World) (v:Value) (cs:List eX):Prop:=
 ∃ ps:List Value,dX (λp (c:eX)=>bC w base p c.val) ps cs/\w.ownsRow base T 3 v cs.length (dL ps cs)/\ps.Pairwise (λp q=>∀ b,p.ownBlock=some b->q.ownBlock≠some b)
theorem eG.nil (T:TypeId) (base:Nat) (w:World):eG T base w (.slice none 0 0) []:=⟨[],trivial,⟨rfl,.inl ⟨rfl,rfl⟩⟩,List.Pairwise.nil⟩
theorem eG.aG {base:Nat} (h:eG T base w v cs):∃ a c,v= .slice a cs.length c:=by obtain ⟨ps,h1,h2,h3⟩:=h;exact bA h2
theorem eG.res {base:Nat} (h:eG T base w (.slice a n c) cs):zV B (λb=>base<=b/\b <w.heap.size) w a cs:=λi ch hc=>by
 obtain ⟨ps,h1,h2,h3⟩:=h;obtain ⟨p,hp,ho⟩:=h1.wV hc;have dI:=oq i hp hc;have aX:=h2.lt;rcases h2.2 with ⟨e,e2⟩ | ⟨g,cap,gp,e,_⟩
 ·have:=(List.getElem?_eq_some_iff.1 hc).1;omega
 ·cases e;refine ⟨_,p,rfl,.inl ⟨(aX g rfl).1,(aX g rfl).2⟩,h2.cells (g:=g) rfl _ _ dI.1,h2.cells (g:=g) rfl _ _ dI.2.1,h2.cells (g:=g) rfl _ _ dI.2.2, ?_⟩;exact (lm.FQ (B:=B) ho).wider (λb hb=>⟨(du ho b hb).2,(du ho b hb).1⟩)
theorem eG.ins {T:TypeId} {base:Nat} {w:World} {a:Option Addr} {n c:Nat} {cs:List eX} (h:eG T base w (.slice a n c) cs):fu w a cs:=(h.res (B:=0)).ins
theorem Own.WB (h:Own w wr rs) (ho:eG T wr.heap.size w' (.slice a n c) cs) (hk:ak wr w'):Own w w' (OE a cs::rs):=
 h.add hk (r:=OE a cs) (G:=λb=>wr.heap.size<=b/\b <w'.heap.size) ho.res (λb hb=>hb)
theorem eG.push {Ts:TypeId} (nF:(Tryz.prog.info? T).map (λi=>(i.zero,i.size,i.bytes))=some (some (.agg #[.string ⟨#[]⟩,.bool false,.slice none 0 0]),3,48)) (hu:Tryz.prog.underlying Ts=some (.slice T)) (dO:T≠5) {base:Nat} {p:Value} {c:eX} (h:eG T base w0 v cs) (hz:base<=w0.heap.size) (sB:ak w0 w) (hp:bC w w0.heap.size p c.val) (hb:cs.length <1099511627776): ∃ a k w',(Builtin.append_ #[Ts,Ts] Ts #[v,.slice (some ⟨w.heap.size,0,none⟩) 1 1]).run Tryz.prog (w.alloc (.cells #[.string c.key,.bool c.gone,p] T))= .ok (.slice a (cs.length+1) k) w'/\eG T base w' (.slice a (cs.length+1) k) (cs++[c])/\ ah (λb=>v.ownBlock=some b) w w'/\∀ b,v.ownBlock=some b->base<=b:=by
 obtain ⟨ps,g1,g2,h3⟩:=h;have h1:dX (λp (c:eX)=>bC w base p c.val) ps cs:=g1.mono (λp c yg=>yg.keep sB);have h2:w.ownsRow base T 3 v cs.length (dL ps cs):=jD g2 (λb hb=>sB.block b (g2.lt b hb).2 (λe=>e));have rS:=sB.size;have aX:=h2.lt;obtain ⟨i0,hi,yW,iH,jO⟩:=info_parts nF;have qT:p.oneCell'=true:=by obtain ⟨a,c,rfl,_⟩:=hp.bytes.aG;rfl
 obtain ⟨v',w',aT,dy,hg,_,jP⟩:=run_append_own_at (P:=Tryz.prog) (w.alloc (.cells #[.string c.key,.bool c.gone,p] T)) base Ts Ts T i0 _ 3 48 hu hi yW iH jO rfl (by omega) v cs.length (dL ps cs) (h2.alloc _) ⟨w.heap.size,0,none⟩ 1 1 [.string c.key,.bool c.gone,p] rfl
  (λj u hu=>by rw [iV,fw];exact ag (heap_alloc_new w _) (by simpa using hu))
  (by intro u hu;simp at hu;rcases hu with rfl | rfl | rfl;rfl;rfl;exact qT) (by unfold maxLen;omega) (by omega) (by simp only [World.size_alloc];omega)
 obtain ⟨a,k,rfl⟩:=bA dy;have hk:ah (λb=>v.ownBlock=some b) w w':=((ah.refl _ w).alloc _).trans (ah.fH hg) (λ_ _ h=>h);have abI:∀ {q:Value} {m:aH} {base':Nat},bC w base' q m->∀ b,q.ownBlock=some b->¬v.ownBlock=some b:=fun {q m base'} hq b e1 e2=>by obtain ⟨c1,k1⟩:=dp hq e1;obtain ⟨c2,k2⟩:=dp h2 e2;have:=k1.symm.trans k2;simp only [im,Obj.cells.injEq] at this;exact dO this.2.1.symm
 refine ⟨a,k,w',aT,⟨ps++[p], ?_, ?_, ?_⟩,hk,λb hb=>(aX b hb).1⟩
 ·exact (h1.mono (λq f hq=>lx hq hk (abI hq))).append ⟨bC.base (lx hp hk (abI hp)) hz,trivial⟩
 ·rw [lb _ _ _ _ h1.length,fS];exact dy
 ·rw [List.pairwise_append];refine ⟨h3,List.pairwise_singleton ..,λq hq r hr b hb e=> ?_⟩;simp at hr;subst hr;obtain ⟨m,hm⟩:=g1.mem q hq;have e1:=du hm b hb;have e2:=du hp b e;omega
def nU {B:Nat} (b:Nat) (fs:FS):bB B:=⟨λF w=>F b/\dm F w b fs,λF w w' h hk=>⟨h.1,h.2.keep (hk b (.inl h.1)) (λg cs fz hF hb=>(hk g (.inl hF)).trans hb) (λ_ h _=>h)⟩⟩
def ef (j b:Nat) (bh:Bool):Obj:= .cells #[.pointer (some ⟨j,0,none⟩),.map (some b),.bool bh] 142 (0,0)
theorem jH (h:w.heap[t]?=some (ef j b bh)):w.cell? ⟨t,0,none⟩=some (.pointer (some ⟨j,0,none⟩))/\w.cell? ⟨t,1,none⟩=some (.map (some b))/\w.cell? ⟨t,2,none⟩=some (.bool bh)/\∀ i,w.frozen? ⟨t,i,none⟩=false:=
 ⟨ag h rfl,ag h rfl,ag h rfl,λi=>cL h i⟩
theorem Own.Z3 {w1:World} (h:Own w wr (nU b fs::rs)) (k:aD) {l:aH} (hv:bC w1 wr.heap.size v l) (hk:ak wr w1): ∃ es bD,(Instr.mapUpdate 131 (.map (some b)) (.string k) v).run Tryz.prog w1= .ok () (setBlock w1 b (.map es bD))/\Own w (setBlock w1 b (.map es bD)) (nU b (dY fs k l)::rs):=by
 obtain ⟨F,⟨hb,hm⟩,hF,cK⟩:=h.jT;have h1:dm (fX F wr w1) w1 b fs:=hm.keep (hk.block b hm.lt (λe=>e)) (aP.iq hk) (λg hg _=> .inl hg);have h2:bQ (fX F wr w1) w1 v l:=hv.bytes.keep (aP.refl _ _) (λg hg hl=> .inr ⟨hg,hl⟩);obtain ⟨es,bD,hr,h3⟩:=h1.update (P:=Tryz.prog) Tryz.underlying131 Tryz.underlying9 k h2;refine ⟨es,bD,hr,cK _ _ ((hk.mono (λ_ _ e=>e.elim)).setBlock (λ_=>hb) _) ⟨.inl hb,h3.keep rfl (aP.refl _ _) (λg hg hl=> ?_)⟩⟩;rcases hg with hg | ⟨h4,h5⟩
 ·exact .inl hg
 ·exact .inr ⟨h4,by simpa [setBlock] using h5⟩
theorem Own.Z4 {w1:World} (h:Own w wr (nU b fs::rs)) (k:aD) (hk:ak wr w1): ∃ es bD,(Builtin.delete_ #[131,9] 0 #[.map (some b),.string k]).run Tryz.prog w1= .ok (.tuple #[]) (setBlock w1 b (.map es bD))/\Own w (setBlock w1 b (.map es bD)) (nU b (bV fs k)::rs):=by
 obtain ⟨F,⟨hb,hm⟩,hF,cK⟩:=h.jT;have h1:dm (fX F wr w1) w1 b fs:=hm.keep (hk.block b hm.lt (λe=>e)) (aP.iq hk) (λg hg _=> .inl hg);obtain ⟨es,bD,hr,h3⟩:=h1.delete (P:=Tryz.prog) Tryz.underlying131 Tryz.underlying9 k 9 0;refine ⟨es,bD,hr,cK _ _ ((hk.mono (λ_ _ e=>e.elim)).setBlock (λ_=>hb) _) ⟨.inl hb,h3.keep rfl (aP.refl _ _) (λg hg hl=> ?_)⟩⟩;rcases hg with hg | ⟨h4,h5⟩
 ·exact .inl hg
 ·exact .inr ⟨h4,by simpa [setBlock] using h5⟩
theorem EZ {c:eX} (h:l[k]?=some c) (fs:FS):en fs (l.take (k+1))=tdo (en fs (l.take k)) c:=by obtain ⟨hk,rfl⟩:=List.getElem?_eq_some_iff.1 h;unfold en;rw [wS hk,Hr];rfl
theorem B5 (h:Own w w0 (nU b fs::aA t (ef j b bh)::rs)) (hm:∀ (wr:World) (ls:List (bB w.heap.size)),Own w wr (ls++rs)->fu wr a l) (hc:l.length<=1099511627776) (hv:∀ x ∈ l,x.val.length<=140737488355328): bF 60 #[.pointer (some ⟨t,0,none⟩),.slice a l.length c] w0 (λe w'=>e= .returned (.tuple #[])/\Own w w' (nU b (en fs l)::aA t (ef j b bh)::rs)):=by
 have H:=ae h;have i0:(l.length:Int)<=1099511627776:=by omega
 have HV:=ae hv;go_enter Tryz.func60,Tryz.ntmps60;go_wp2_with fail;go_loopw [8] (λiv wx=>∃ k:Nat,k<=l.length/\iv= .int .i64 (k:Int)/\Own w wx (nU b (en fs (l.take k))::aA t (ef j b bh)::rs)) (λiv _=>l.length - (intOf iv).toNat);case atStart=>exact ⟨0,fC _,rfl,H.Z⟩
 case round=>
  obtain ⟨k,hk,rfl,ho⟩:=hrel;have j0:=np k;by_cases aX:k <l.length
  ·obtain ⟨ch,sQ⟩:∃ ch,l[k]?=some ch:=⟨l[k],js aX⟩;obtain ⟨x,p,rfl,c0,c1,c2,hp⟩:=(hm _ [_,_] ho).cells sQ;have zk:=HV.Z ch (kx sQ);have E0:=EZ sQ fs;obtain ⟨key,gone,val⟩:=ch;dsimp only at c0 c1 c2 hp zk;obtain ⟨pa,pc,rfl,_,_⟩:=hp.aG;have j2:(k:Int) <l.length:=by omega
   have bN:k+1<=l.length:=by omega
   have hq:ak wr (wr.alloc (.cells #[.string key,.bool gone,.slice pa val.length pc] 109)):=(ah.refl _ wr).alloc _;have dy:=ho.quiet hq;have yf:=hp.keep hq;have hB:=heap_alloc_new wr (.cells #[.string key,.bool gone,.slice pa val.length pc] 109);have ht:=jH (dy.at (b:=t) (o:=ef j b bh) (by simp)).1;cases gone with
   | true=>
    obtain ⟨es,bD,aT,cK⟩:=dy.Z4 key ((ah.refl _ _).drew);rw [show bV (en fs (l.take k)) key=en fs (l.take (k+1)) by rw [E0];unfold tdo;rw [if_pos rfl]] at cK;have HR:=ae (⟨k+1,bN,rfl,cK⟩:∃ k':Nat,k'<=l.length/\Value.int .i64 ((k+1:Nat):Int)= .int .i64 (k':Int)/\Own w _ (nU b (en fs (l.take k'))::aA t (ef j b bh)::rs));have cV:=ae aT;have q0:=ag (i:=0) hB rfl;have q1:=ag (i:=1) hB rfl;obtain ⟨t0,t1,t2,t3⟩:=ht;go_wp2_with fail;generalize wr.alloc (.cells #[.string key,.bool true,.slice pa val.length pc] 109)=W at q0 q1 t1 cV HR ⊢;go_still_tail 6,(by kernel_rfl);change wpList _ _ _ _ _ (World.drew _);go_wp2_with (at_delete;refine iu rfl _ _ _ _ rfl rfl rfl cV.Z ?_);go_roundw;case rel=>exact HR.Z
    case measure=>simp [intOf];omega
   | false=>
    obtain ⟨v1,w1,dI,Lg,yX⟩:=rH (w:=(wr.alloc (.cells #[.string key,.bool false,.slice pa val.length pc] 109)).drew) (yf.keep ((ah.refl _ _).drew)) zk;obtain ⟨es,bD,aT,cK⟩:=dy.Z3 key Lg (((ah.refl _ _).drew).trans yX (λ_ _ e=>e));rw [show dY (en fs (l.take k)) key val=en fs (l.take (k+1)) by rw [E0];unfold tdo;rw [if_neg (by simp)]] at cK;have HR:=ae (⟨k+1,bN,rfl,cK⟩:∃ k':Nat,k'<=l.length/\Value.int .i64 ((k+1:Nat):Int)= .int .i64 (k':Int)/\Own w _ (nU b (en fs (l.take k'))::aA t (ef j b bh)::rs));have rV:=ae dI;have ac9:wr.heap.size≠b:=λe=>by obtain ⟨F,⟨hb,_⟩,hF⟩:=ho.head;have:=(hF b hb).2;omega
    have h2s:∀ i v,w1.cell? ⟨wr.heap.size,i,none⟩=some v->(setBlock w1 b (.map es bD)).cell? ⟨wr.heap.size,i,none⟩=some v:=λi v hv=>(kK (eg w1 b _ ac9)).trans hv;have Z5:=jH (cK.at (b:=t) (o:=ef j b bh) (by simp)).1;have q1:=ag (i:=1) hB rfl;have hS:∀ w2,ak (wr.alloc (.cells #[.string key,.bool false,.slice pa val.length pc] 109)).drew w2->w2.cell? ⟨t,1,none⟩=some (.map (some b))/\w2.cell? ⟨wr.heap.size,0,none⟩=some (.string key)/\w2.cell? ⟨wr.heap.size,2,none⟩=some (.slice pa val.length pc):=λw2 cg=>⟨aJ ht.2.1 (((ah.refl _ _).drew).trans cg (λ_ _ e=>e)),aJ (ag (i:=0) hB rfl) (((ah.refl _ _).drew).trans cg (λ_ _ e=>e)),aJ (ag (i:=2) hB rfl) (((ah.refl _ _).drew).trans cg (λ_ _ e=>e))⟩
    have Qh:=ae (hS _ (ah.refl _ _));have HS1:=ae (hS _ yX);have Eu:=ae (⟨Z5.2.1,h2s _ _ (hS _ yX).2.1,h2s _ _ (hS _ yX).2.2⟩:(setBlock w1 b (.map es bD)).cell? ⟨t,1,none⟩=some (.map (some b))/\(setBlock w1 b (.map es bD)).cell? ⟨wr.heap.size,0,none⟩=some (.string key)/\(setBlock w1 b (.map es bD)).cell? ⟨wr.heap.size,2,none⟩=some (.slice pa val.length pc));go_wp2_with fail;generalize wr.alloc (.cells #[.string key,.bool false,.slice pa val.length pc] 109)=W at q1 rV Qh HS1 Eu aT HR ⊢;go_region_held3 (λw'=>w'.cell? ⟨t,1,none⟩=some (.map (some b))/\w'.cell? ⟨wr.heap.size,0,none⟩=some (.string key)/\w'.cell? ⟨wr.heap.size,2,none⟩=some (.slice pa val.length pc)) (first | exact Qh.Z | exact HS1.Z | exact Eu.Z | go_keep) (first | (go_at_call 111;refine rV.Z.Z.mono ?_;rintro e w' ⟨rfl,rfl⟩));all_goals
     go_wp2;go_roundw;case rel=>exact HR.Z
     case measure=>simp [intOf];omega
  ·obtain rfl:k=l.length:=by omega
   rw [jX] at ho;have HO:=ae ho;go_wp2;go_end0;exact ⟨rfl,HO.Z⟩
theorem QC (h:Own w w0 (nU b fs::aA t (ef j b bh)::rs)) (hm:OE a l ∈ rs) (hc:l.length<=1099511627776) (hv:∀ x ∈ l,x.val.length<=140737488355328): bF 60 #[.pointer (some ⟨t,0,none⟩),.slice a l.length c] w0 (λe w'=>e= .returned (.tuple #[])/\Own w w' (nU b (en fs l)::aA t (ef j b bh)::rs)):=
 B5 h (λwr ls h=>h.ac8 (by simp [hm])) hc hv
theorem Tq (h:w.heap[t]?=some (ef j b bh)):aW 106 #[.pointer (some ⟨t,0,none⟩)] w (.int .i64 (if bh then 5 else 0)) w:=by
 unfold aW;have c2:=(jH h).2.2.1;go_enter Tryz.func106,Tryz.ntmps106;cases bh;all_goals go_wp2
 all_goals go_ret
 all_goals exact ⟨rfl,rfl⟩
theorem JQ (w:World):(zeroValue 22).run Tryz.prog w= .ok (.slice none 0 0) w:=by kernel_rfl
def Gv (w:World) (fs:FS) (k:aD) (e:Ending) (w':World):Prop:=∃ v,e= .returned (.tuple #[v,.bool (aZ fs k).isSome])/\bC w' w.heap.size v ((aZ fs k).getD [])/\ak w w'
theorem oW (h:w.heap[t]?=some (ef j b bh)) (hm:dm F w b fs) (k:aD) (hl:((aZ fs k).getD []).length<=140737488355328): bF 61 #[.pointer (some ⟨t,0,none⟩),.string k] w (Gv w fs k):=by have c1:=(jH h).2.1;obtain ⟨v,hv,_,nw⟩:=hm.look (P:=Tryz.prog) (T:=131) Tryz.underlying131 Tryz.underlying9 (JQ w) k;obtain ⟨v',w',dI,hv',uX⟩:=rH (hv.reads) hl;have qe:=nw true;have rV:=ae dI;have HV:=ae hv';have HK:=ae uX;go_enter Tryz.func61,Tryz.ntmps61;go_wp2_with (first | (go_at_call 111;refine rV.Z.Z.mono ?_;rintro e w' ⟨rfl,rfl⟩));go_ret2;exact ⟨_,rfl,HV.Z,HK.Z⟩
theorem yY (h:w.heap[t]?=some (ef j b bh)) (hm:dm F w b fs):aW 64 #[.pointer (some ⟨t,0,none⟩)] w (.int .i64 (fs.length:Int)) w:=by unfold aW;have c1:=(jH h).2.1;have Gw:=hm.len (P:=Tryz.prog) (T:=131) Tryz.underlying131 3;go_enter Tryz.func64,Tryz.ntmps64;go_wp2;go_ret;exact ⟨rfl,rfl⟩
theorem JR {a b:aD} (h:pm b a=true):Op.bytesLess a.toList b.toList=false/\(a.toList==b.toList)=false:=by
 refine ⟨?_, ?_⟩
 ·exact JG h
 ·cases h2:(a.toList==b.toList) with
  | false=>rfl
  | true=>have:a=b:=toList_inj (by simpa using h2);rw [this,lq] at h;cases h
theorem E1 {a b:aD} (h:pm b a=false) (h2:Op.bytesLess a.toList b.toList=false):(a.toList==b.toList)=true:=by
 by_cases e:b=a
 ·rw [e];simp
 ·have h3:pm a b=true:=uE h e;unfold pm at h3;rw [h2] at h3;cases h3
theorem ed.base {base base':Nat} {l:List aD} (h:ed base w v l) (hb:base'<=base):ed base' w v l:=uL h hb
theorem MG (mb:Option Nat) (W:World):aW 124 #[.map mb] W (.func (.func 165) #[] #[.pointer (some ⟨W.heap.size,0,none⟩)]) (W.alloc (.cells #[.map mb] 131)):=by refine (callsIn_wide.1 (Gn mb W)).mono ?_;rintro e w' ⟨rfl,rfl⟩;exact ⟨rfl,rfl⟩
theorem Dt (h:dm F w b fs) (hs:bp fs) (hn:∀ p ∈ fs,p.1.size<=maxLen) (hl:fs.length<=1099511627776): bF 123 #[.func (.func 165) #[] #[.pointer (some ⟨w.heap.size,0,none⟩)]] (w.alloc (.cells #[.map (some b)] 131)) (EX w fs):=by
 obtain ⟨D0,h1,h2,h3⟩:=h.owns hn (by unfold maxLen;omega);refine (callsIn_wide.1 (sI b fs.length D0 wE w h1 (by rw [h2];unfold maxLen;omega) (by rw [h2];omega))).mono ?_;rintro e w' ⟨v,ss,rfl,hS,fN,_,kg⟩;have cU:ss.length=fs.length:=by have:=(hS.trans h3).length_eq;simpa using this
 rw [xD hs (hS.trans h3),cU] at fN;have ox:ak (w.alloc (.cells #[.map (some b)] 131)) w':=⟨kg.os,kg.tape,kg.output,kg.size,λk hk _=>kg.block k hk⟩;exact ⟨v,rfl,uL fN (by simp),((ah.refl _ w).alloc _).trans ox (λ_ _ e=>e)⟩
def gg (hd af:aD) (n:Int):FS->List aD->List aD
 | [],out=>out
 | p::fs,out=>if n<=(out.length:Int) then out else gg hd af n fs (if cH p.1 hd=true/\pm af p.1=true then out++[p.1] else out)
def kO (fs:FS) (hd af:aD) (n:Int):List aD:=gg hd af n fs []
theorem vH {hd af:aD} {n:Int} {p:aD × aH} (hp:fs[k]?=some p) (out:List aD):gg hd af n (fs.drop k) out=if n<=(out.length:Int) then out else gg hd af n (fs.drop (k+1)) (if cH p.1 hd=true/\pm af p.1=true then out++[p.1] else out):=by obtain ⟨hk,rfl⟩:=List.getElem?_eq_some_iff.1 hp;rw [pQ hk,gg]
def qK (w:World) (l:List aD) (e:Ending) (w':World):Prop:=∃ v,e= .returned v/\ed w.heap.size w' v l/\ak w w'
theorem tW (h:w.heap[t]?=some (ef j b bh)) (hm:dm F w b fs) (hs:bp fs) (hn:∀ p ∈ fs,p.1.size<=maxLen) (hl:fs.length<=1099511627775) (hd af:aD) (n:Int): bF 63 #[.pointer (some ⟨t,0,none⟩),.string hd,.string af,.int .i64 n] w (qK w (kO fs hd af n)):=by
 have c1:=(jH h).2.1;have hsc:=Dt hm hs hn (by omega);have Oj:=ae hsc;go_enter Tryz.func63,Tryz.ntmps63;go_wp2_with fail;refine gU (MG (some b) w).Z ?_;go_wp2_with fail;refine Oj.Z.mono ?_;rintro e w1 ⟨v1,rfl,fT,bN⟩;obtain ⟨a1,k1,rfl⟩:=bA fT;have i1:(fs.length:Int)<=1099511627775:=by omega
 have i2:=np hd.size;have FL:=ae fT;have iW:=ae bN;go_wp2_with fail;go_loopw [9,21] (λov i wx=>∃ (k:Nat) (out:List aD),k<=fs.length/\i= .int .i64 (k:Int)/\out.length<=k/\kO fs hd af n=gg hd af n (fs.drop k) out/\ed w1.heap.size wx ov out/\ak w1 wx) (λ_ i _=>fs.length - (intOf i).toNat);case atStart=>exact ⟨0,[],fC _,rfl,eQ _,rfl,ed.nil _ _,ah.refl _ _⟩
 case round=>
  obtain ⟨k,out,hk,rfl,cU,aU,ho,hq⟩:=hrel;have j0:=np k;have RE:ak w wr:=iW.Z.trans hq (λ_ _ e=>e);obtain ⟨oa,oc,rfl⟩:=ho.aG;by_cases aX:k <fs.length
  ·obtain ⟨f,hf⟩:∃ f,fs[k]?=some f:=⟨fs[k],js aX⟩;have bG:ed w.heap.size w1 (.slice a1 fs.length k1) (fs.map (·.1)):=by have:=FL.Z;unfold ed;rw [wU,io];exact this
   obtain ⟨g,rfl,hc,lf,_⟩:=(bG.keep hq).cell (i:=k) (s:=f.1) (by rw [jc,hf];rfl);rw [vH hf out] at aU;have j1:(k:Int) <fs.length:=by omega
   have bN:k+1<=fs.length:=by omega
   by_cases hN:n<=(out.length:Int)
   ·rw [if_pos hN] at aU;have cK:qK w (kO fs hd af n) (.returned (.slice oa out.length oc)) wr:=⟨_,rfl,by rw [aU];exact ho.base iW.Z.size,RE⟩;have fk:=ae cK;go_wp2;go_ret;exact fk.Z
   rw [if_neg hN] at aU;have hN2:(out.length:Int) <n:=by omega
   by_cases wP:cH f.1 hd=true/\pm af f.1=true
   ·rw [if_pos wP] at aU;obtain ⟨wP,b3⟩:=wP;obtain ⟨b3,b4⟩:=JR b3;obtain ⟨b1,b2⟩:decide ((hd.size:Int)<=(f.1.size:Int))=true/\((f.1.extract 0 hd.size).toList==hd.toList)=true:=by unfold cH at wP;exact Bool.and_eq_true_iff.1 wP
    have b1':(hd.size:Int)<=(f.1.size:Int):=of_decide_eq_true b1;obtain ⟨a2,c2,w2,aT,dy,cg,kh⟩:=ho.push hq.size f.1 (by omega);have iI:=hq.trans cg (λb hb e=>by have:=kh b e;omega);have cV:=ae aT;have dE:=ae (⟨k+1,out++[f.1],bN,rfl,by simp;omega,aU,by rw [show (out++[f.1]).length=out.length+1 by simp];exact dy,iI⟩:∃ (k':Nat) (out':List aD),k'<=fs.length/\Value.int .i64 ((k+1:Nat):Int)= .int .i64 (k':Int)/\out'.length<=k'/\kO fs hd af n=gg hd af n (fs.drop k') out'/\ed w1.heap.size w2 (.slice a2 ((out++[f.1]).length) c2) out'/\ak w1 w2);go_wp2_with (at_builtin;(first | (refine ao (w:=wr.alloc (.cells #[.string f.1] 9)) rfl _ _ _ _ rfl rfl rfl cV.Z ?_)));go_roundw;case rel=>have h:=dE.Z;simp only [fS,iM,gN,fw] at h;exact h
    case measure=>simp [intOf];omega
   ·rw [if_neg wP] at aU;have dE:=ae (⟨k+1,out,bN,rfl,by omega,aU,ho,hq⟩:∃ (k':Nat) (out':List aD),k'<=fs.length/\Value.int .i64 ((k+1:Nat):Int)= .int .i64 (k':Int)/\out'.length<=k'/\kO fs hd af n=gg hd af n (fs.drop k') out'/\ed w1.heap.size wr (.slice oa out.length oc) out'/\ak w1 wr);by_cases b1:(hd.size:Int)<=(f.1.size:Int)
    ·cases b2:((f.1.extract 0 hd.size).toList==hd.toList) with
     | false=>
      go_wp2;go_roundw;case rel=>exact dE.Z
      case measure=>simp [intOf];omega
     | true=>
      have b3:pm af f.1=false:=by
       cases yt:pm af f.1 with
       | false=>rfl
       | true=>exact absurd ⟨by unfold cH;rw [decide_eq_true b1,b2];rfl,yt⟩ wP
      cases b4:Op.bytesLess f.1.toList af.toList with
      | true=>
       go_wp2;go_roundw;case rel=>exact dE.Z
       case measure=>simp [intOf];omega
      | false=>
       have b5:=E1 b3 b4;go_wp2;go_roundw;case rel=>exact dE.Z
       case measure=>simp [intOf];omega
    ·have b1':decide ((hd.size:Int)<=(f.1.size:Int))=false:=decide_eq_false b1;go_wp2;go_roundw;case rel=>exact dE.Z
     case measure=>simp [intOf];omega
  ·obtain rfl:k=fs.length:=by omega
   rw [pR] at aU;have cK:qK w (kO fs hd af n) (.returned (.slice oa out.length oc)) wr:=⟨_,rfl,by rw [aU];exact ho.base iW.Z.size,RE⟩;have fk:=ae cK;go_wp2;go_ret;exact fk.Z
def dM (F:Nat->Prop) (w:World) (v:Value) (fs:FS):Prop:=
 ∃ ps:List Value,dX (λp f=>bQ F w p f.2) ps fs/\w.ownsRow 0 257 2 v fs.length (gM ps fs)/\∀ b,v.ownBlock=some b->F b
theorem dM.nil (F:Nat->Prop) (w:World):dM F w (.slice none 0 0) []:=⟨[],trivial,⟨rfl,.inl ⟨rfl,rfl⟩⟩,λb hb=>by cases hb⟩
theorem dM.keep {F G:Nat->Prop} {w w':World} {v:Value} {fs:FS} (h:dM F w v fs) (hk:aP F w w') (hr:∀ b,v.ownBlock=some b->w'.heap[b]?=w.heap[b]?) (pz:∀ b,F b->b <w.heap.size->G b):dM G w' v fs:=by obtain ⟨ps,h1,h2,h3⟩:=h;exact ⟨ps,h1.mono (λp c yg=>yg.keep hk pz),jD h2 hr,λb hb=>pz b (h3 b hb) (h2.lt b hb).2⟩
theorem dM.same (h:dM F w v fs) (hk:∀ b,F b->w'.heap[b]?=w.heap[b]?):dM F w' v fs:=by obtain ⟨ps,h1,h2,h3⟩:=h;exact dM.keep ⟨ps,h1,h2,h3⟩ (λg cs fz hF hb=>(hk g hF).trans hb) (λb hb=>hk b (h3 b hb)) (λ_ h _=>h)
theorem dM.quiet (h:dM F w v fs) (hk:ak w w') (pz:∀ b,F b->b <w.heap.size->G b):dM G w' v fs:=by obtain ⟨ps,h1,h2,h3⟩:=h;exact dM.keep ⟨ps,h1,h2,h3⟩ (aP.iq hk) (λb hb=>hk.block b (h2.lt b hb).2 (λe=>e)) pz
theorem dM.aG (h:dM F w v fs):∃ a c,v= .slice a fs.length c/\fs.length<=c/\c<=maxLen:=by
 obtain ⟨ps,h1,h2,h3⟩:=h;rcases h2.2 with ⟨rfl,e⟩ | ⟨g,cap,gp,rfl,_,_,h4,h5,_⟩
 ·rw [e];exact ⟨none,0,rfl,eQ _,fC _⟩
 ·exact ⟨_,cap,rfl,h4,h5⟩
theorem dM.cell {F:Nat->Prop} {w:World} {v:Value} {fs:FS} (h:dM F w v fs) {i:Nat} {f:aD × aH} (hf:fs[i]?=some f): ∃ g cap p,v= .slice (some ⟨g,0,none⟩) fs.length cap/\w.cell? ⟨g,i*2,none⟩=some (.string f.1)/\w.cell? ⟨g,i*2+1,none⟩=some p/\bQ F w p f.2:=by
 obtain ⟨ps,h1,h2,h3⟩:=h;obtain ⟨p,hp,hB⟩:=h1.wV hf;have hc:=pX i hp hf;rcases h2.2 with ⟨rfl,e⟩ | ⟨g,cap,gp,rfl,_,hb,_⟩
 ·have:=(List.getElem?_eq_some_iff.1 hf).1;omega
 ·refine ⟨g,cap,p,rfl, ?_, ?_,hB⟩
  ·have:=h2.cells (g:=g) rfl (i*2) _ hc.1;simpa [iV] using this
  ·have:=h2.cells (g:=g) rfl (i*2+1) _ hc.2;simpa [iV] using this
def gh (base:Nat) (F:Nat->Prop) (w:World) (v:Value) (fs:FS):Prop:=
 ∃ ps:List Value,dX (λp f=>bQ F w p f.2) ps fs/\w.ownsRow base 257 2 v fs.length (gM ps fs)
theorem gh.nil (base:Nat) (F:Nat->Prop) (w:World):gh base F w (.slice none 0 0) []:=⟨[],trivial,⟨rfl,.inl ⟨rfl,rfl⟩⟩⟩
theorem gh.keep {base:Nat} {F:Nat->Prop} {w w':World} {v:Value} {fs:FS} (h:gh base F w v fs) (hk:ak w w'):gh base F w' v fs:=by obtain ⟨ps,h1,h2⟩:=h;exact ⟨ps,h1.mono (λp c yg=>yg.keep (aP.iq hk) (λ_ h _=>h)),jD h2 (λb hb=>hk.block b (h2.lt b hb).2 (λe=>e))⟩
theorem gh.aG {base:Nat} (h:gh base F w v fs):∃ a c,v= .slice a fs.length c:=by obtain ⟨ps,h1,h2⟩:=h;exact bA h2
theorem gh.files {base:Nat} (h:gh base F w v fs) (hF:∀ b,F b->b <w.heap.size->G b) (hb:∀ b,base<=b->b <w.heap.size->G b):dM G w v fs:=by obtain ⟨ps,h1,h2⟩:=h;exact ⟨ps,h1.mono (λp c yg=>yg.keep (aP.refl _ _) hF),jE h2 (fC _),λb pg=>hb b (h2.lt b pg).1 (h2.lt b pg).2⟩
theorem QD:(Tryz.prog.info? 257).map (λi=>(i.zero,i.size,i.bytes))=some (some (.agg #[.string ⟨#[]⟩,.slice none 0 0]),2,40):=by kernel_rfl
def Yj (F:Nat->Prop) (w:World) (fs:FS) (e:Ending) (w':World):Prop:=∃ v,e= .returned v/\dM (fX F w w') w' v fs/\ak w w'
theorem MH (hf:fs[k]?=some f) (n:aD):ie (fs.drop k) n=if pm f.1 n=true then ie (fs.drop (k+1)) n+1 else 0:=by obtain ⟨hk,rfl⟩:=List.getElem?_eq_some_iff.1 hf;rw [pQ hk,ie]
theorem xG (h:dM F w v fs) (n:aD) (hb:fs.length <1099511627776):aW 176 #[v,.string n] w (.int .i64 (ie fs n:Int)) w:=by
 unfold aW;obtain ⟨a,c,rfl,wY,pA⟩:=h.aG;have H:=ae h;go_enter Tryz.func176,Tryz.ntmps176;go_wp2_with fail;go_loopw [5] (λi wx=>∃ k:Nat,k<=fs.length/\i= .int .i64 (k:Int)/\wx=w/\ie fs n=k+ie (fs.drop k) n) (λi _=>fs.length - (intOf i).toNat);case atStart=>exact ⟨0,fC _,rfl,rfl,by simp⟩
 case round=>
  obtain ⟨k,hk,rfl,rfl,sP⟩:=hrel;have j0:=np k;by_cases aX:k <fs.length
  ·obtain ⟨f,hf⟩:∃ f,fs[k]?=some f:=⟨fs[k],js aX⟩;obtain ⟨g,cap,p,e,iL,gy,_⟩:=H.Z.cell hf;simp only [Value.slice.injEq] at e;obtain ⟨rfl,-,rfl⟩:=e;have j1:(k:Int) <fs.length:=by omega
   rw [MH hf] at sP;cases kg:pm f.1 n with
   | true=>
    rw [kg,if_pos rfl] at sP;unfold pm at kg;have HN:=ae (show ie fs n=(k+1)+ie (fs.drop (k+1)) n by omega);go_wp2;go_roundw;case rel=>exact ⟨k+1,by omega,rfl,by first | rfl | trivial,HN.Z⟩
    case measure=>simp [intOf];omega
   | false=>rw [kg,if_neg (by simp)] at sP;unfold pm at kg;have HN:=ae (show (ie fs n:Int)=k by omega);go_wp2;go_ret;exact ⟨by rw [HN.Z];rfl,rfl⟩
  ·obtain rfl:k=fs.length:=by omega
   have HN:=ae (show (ie fs n:Int)=fs.length by rw [pR] at sP;rw [sP];simp [ie]);go_wp2;go_ret;exact ⟨by rw [HN.Z];rfl,rfl⟩
theorem mh:(Tryz.prog.info? 109).map (λi=>(i.zero,i.size,i.bytes))=some (some (.agg #[.string ⟨#[]⟩,.bool false,.slice none 0 0]),3,48):=by kernel_rfl
theorem oX {l:aH} (h:aC w (.slice a n c) l) (i:Nat) (hi:i<=l.length): ∃ a' c',(∀ W,(Instr.sliceAt 22 (.slice a n c) (some (.int .i64 (i:Int))) none none).run Tryz.prog W= .ok (.slice a' (l.length - i) c') W)/\aC w (.slice a' (l.length - i) c') (l.drop i):=by obtain ⟨b,d,e,h1,h2⟩:=h.aG;cases e;have h3:=h.SC i (l.length - i) (by omega);have ht:(l.drop i).take (l.length - i)=l.drop i:=sU (by rw [iN];omega);rw [ht] at h3;refine ⟨_,_,λW=> ?_,h3⟩;rw [run_sliceAt_slice _ _ _ _ _ _ dG,run_slice_l W 22 a l.length c dG .i64 (i:Int) (by omega) (by omega),lT];simp only [Result.andThen,sliced,yn,yp]
theorem Gx {b:aH} (h:aC w v b) (hb:b.length<=1099511627776):bF 122 #[v,.int .i64 320] w (wD w (bg b 320)):=tS h hb 320 (by omega)
theorem Gy {b:aH} (h:aC w v b) (hb:b.length<=1099511627776):bF 122 #[v,.int .i64 262144] w (wD w (bg b 262144)):=tS h hb 262144 (by omega)
def m9 (w:World) (r:Option (List eX)) (e:Ending) (w':World):Prop:=∃ v,e= .returned (.tuple #[v,.bool r.isSome])/\ak w w'/\∀ l,r=some l->eG 109 w.heap.size w' v l
theorem m9.no {wx:World} {r:Option (List eX)} (hr:r=none) (hk:ak w wx):m9 w r (.returned (.tuple #[.slice none 0 0,.bool false])) wx:=by subst hr;exact ⟨_,rfl,hk,λl hl=>by cases hl⟩
theorem xH (h:k <n) (b:aH) (out:List eX):eY (n - k) b out=match tR b with | none=>none | some (c,b')=>eY (n - (k+1)) b' (out++[c]):=by rw [show n - k=(n - (k+1))+1 by omega,eY];cases tR b <;>rfl
theorem oY (z:UInt8) (b1:aH):tR (z::b1)=if 1 <z.toNat then none else if (bg b1 320).2.2=0/\(bg b1 320).1≠ [] then (if z.toNat=0 then some (⟨⟨(bg b1 320).1.toArray⟩,true,[]⟩,b1.drop (bg b1 320).2.1) else if (bg (b1.drop (bg b1 320).2.1) 262144).2.2=0 then some (⟨⟨(bg b1 320).1.toArray⟩,false,(bg (b1.drop (bg b1 320).2.1) 262144).1⟩,(b1.drop (bg b1 320).2.1).drop (bg (b1.drop (bg b1 320).2.1) 262144).2.1) else none) else none:=rfl
theorem Du {b:aH} (h:aC w v b) (hb:b.length<=1099511627776):bF 59 #[v] w (m9 w (ja b)):=by
 have HC:=ae (se h);have lf:=mf b;have aX:=oo b;obtain ⟨n,u,e,hr⟩:∃ n u e,bT b=(n,u,e):=⟨_,_,_,rfl⟩;have hd:ja b=if e=0/\n<=256 then eY n (b.drop u) [] else none:=by unfold ja;rw [hr]
 rw [hr] at HC lf aX;simp only at lf aX;obtain ⟨a,c,rfl,iL,gy⟩:=h.aG;have H:=ae h;have HD:=ae hd;have oi:=ae hb;unfold maxLen at gy;have i2:(u:Int)<=b.length:=by omega
 have i4:=np n;have Yk:=ae lf;clear h hd aX hb iL gy lf hr;go_enter Tryz.func59,Tryz.ntmps59;go_wp2_with fail;refine HC.Z.mono ?_;rintro e1 w1 ⟨rfl,bN⟩;have iW:=ae bN;have H1:=ae H.Z;clear bN HC;unfold ET;by_cases he:e=0
 ·subst he;by_cases hn:256 <n
  ·have hd:=HD.Z;rw [if_neg (by omega)] at hd;have j1:(256:Int) <n:=by omega
   have HF:=ae (m9.no hd iW.Z);clear hd hn;go_wp2;go_ret2;exact HF.Z
  have hd:=HD.Z;rw [if_pos ⟨rfl,by omega⟩] at hd;obtain ⟨ta,tc,qy,gm⟩:=oX H1.Z u Yk.Z;have cU:b.length - u=(b.drop u).length:=by rw [iN]
  rw [cU] at qy gm;have KY:=ae hd;have xo:=ae gm;have j1:¬(256:Int) <n:=by omega
  have Tr:=ae (show (b.drop u).length<=1099511627776 by rw [iN];have:=oi.Z;omega);generalize b.drop u=b0 at qy KY xo Tr;clear hd gm cU hn Yk;go_wp2_with fail;go_loopw [0,7,28] (λbv ov iv wx=>∃ (k:Nat) (rest:aH) (out:List eX),k<=n/\iv= .int .u64 (k:Int)/\out.length=k/\rest.length<=b0.length/\aC w bv rest/\ja b=eY (n - k) rest out/\eG 109 w.heap.size wx ov out/\ak w wx) (λ_ _ iv _=>n - (intOf iv).toNat);case atStart=>exact ⟨0,b0,[],fC _,rfl,rfl,eQ _,xo.Z,KY.Z,eG.nil _ _ _,iW.Z⟩
  case round=>
   obtain ⟨k,rest,out,hk,rfl,AK,Az,gm,aU,ho,hq⟩:=hrel;clear HD KY xo iW H1 H qy i2;have n1:(n:Int)<=256:=by omega
   have MI:rest.length<=1099511627776:=by have:=Tr.Z;omega
   obtain ⟨ra,rc,rfl,_,IY⟩:=gm.aG;obtain ⟨oa,oc,rfl⟩:=ho.aG;by_cases aX:k <n
   ·have j2:(k:Int) <n:=by omega
    rw [xH aX] at aU;have bN:k+1<=n:=by omega
    cases rest with
    | nil=>
     have HF:=ae (m9.no aU hq);clear aU ho hq gm aX hk AK Az MI IY oi Tr;go_wp2;go_ret2;exact HF.Z
    | cons z b1=>
     obtain ⟨x,rfl,hx⟩:=(gm.keep hq).cell (k:=0) rfl (by simp);rw [Addr.add_zero'] at hx;simp only [yl] at hx;have hzl:=z.toNat_lt;have hzn:(z::b1).length=b1.length+1:=rfl;by_cases iH:1 <z.toNat
     ·rw [oY,if_pos iH] at aU;have HF:=ae (m9.no aU hq);have j3:(1:Int) <z.toNat:=by omega
      clear aU ho hq gm aX hk AK Az MI IY iH hzl oi Tr;go_wp2;go_ret2;exact HF.Z
     ·obtain ⟨gone,hgo⟩:∃ gone:Bool,((z.toNat:Int)==0)=gone:=⟨_,rfl⟩;have hgn:(z.toNat=0)↔gone=true:=by rw [<-hgo];simp
      have j3:¬(1:Int) <z.toNat:=by omega
      rw [oY,if_neg iH] at aU;obtain ⟨kb,u1,ec,MD⟩:∃ kb u1 ec,bg b1 320=(kb,u1,ec):=⟨_,_,_,rfl⟩;have xI:=lH b1 320;rw [MD] at aU xI;simp only at aU xI;have hB:=heap_alloc_new wr (.cells #[.string ⟨#[]⟩,.bool gone,.slice none 0 0] 109);obtain ⟨a1,d1,zp,bM⟩:=oX gm 1 (by simp);rw [Hp,Pa,show (z::b1).length - 1=b1.length from rfl] at bM;have abJ:∀ W,(Instr.sliceAt 22 (.slice (some x) (b1.length+1) rc) (some (.int .i64 1)) none none).run Tryz.prog W= .ok (.slice a1 b1.length d1) W:=zp;have sH:=ae (Gx (w:=wr.alloc (.cells #[.string ⟨#[]⟩,.bool gone,.slice none 0 0] 109)) (bM.keep (hq.trans ((ah.refl _ wr).alloc _) (λ_ _ e=>e))) (by simp at MI;omega));rw [MD] at sH;obtain ⟨a2,d2,og,CP⟩:=oX gm (1+u1) (by rw [iM];omega);have e2:((1+u1:Nat):Int)=1+(u1:Int):=by omega
      rw [show (z::b1).drop (1+u1)=b1.drop u1 by rw [Nat.add_comm,Hp],show (z::b1).length - (1+u1)=(b1.drop u1).length by rw [iM,iN];omega] at CP;rw [e2,show (z::b1).length - (1+u1)=(b1.drop u1).length by rw [iM,iN];omega] at og;rw [iM] at og;have uu0:(0:Int)<=u1:=by omega
      have uu2:(u1:Int)<=b1.length:=by omega
      have uu3:(u1:Int)<=1099511627776:=by simp at MI;omega
      have hww:IntKind.i64.wrap (1+(u1:Int))=1+(u1:Int):=by simp [IntKind.wrap,IntKind.bits,IntKind.signed];omega
      have HUL:=ae xI;have iK:=ae aU;have HO:=ae ho;have HQ:=ae hq;have uW:=ae CP;have HB:=ae hB;have Ly:=ae MI;have OG:=ae AK;have Z6:=ae hgn;have abK:=ae Az;clear MD xI aU ho hq gm hB MI IY iH hzl AK hgn oi CP e2 Az zp bM;generalize (z.toNat:Int)=zi at hx hgo j3;go_wp2_with fail;refine sH.Z.mono ?_;rintro e w2 ⟨kv,rfl,fK,C1⟩;obtain ⟨ka,kc,rfl,_,_⟩:=fK.bytes.aG;have p7:=ae fK;have CR:=ae C1;have RE:=ae ((HQ.Z.alloc _).trans C1 (λ_ _ e=>e));clear fK C1 sH;by_cases fK:ec=0/\kb≠ []
      ·obtain ⟨rfl,qB⟩:=fK;have aU:=iK.Z;rw [if_pos ⟨rfl,qB⟩] at aU;have qU:((kb.length:Int)==0)=false:=by have:=List.length_pos_iff.2 qB;simp;intro e;rw [e] at this;simp at this
       have hcv:=aC.str (w:=w2.drew) (p7.Z.bytes.reads.keep ((ah.refl _ w2).drew));have uV:=CR.Z.at HB.Z (λe=>e);have cg:ak wr w2.drew:=(((ah.refl _ wr).alloc _).trans CR.Z (λ_ _ e=>e)).drew;have q0:w2.drew.cell? ⟨wr.heap.size,0,none⟩=some (.string ⟨#[]⟩):=ag (i:=0) uV rfl;have f0:w2.drew.frozen? ⟨wr.heap.size,0,none⟩=false:=cL uV 0;have cK:∀ wx,wx=w2.drew.setCell ⟨wr.heap.size,0,none⟩ (.string ⟨kb.toArray⟩)->aC w (.slice a2 (b1.length - u1) d2) (b1.drop u1)/\ak wr wx/\wx.heap[wr.heap.size]?=some (.cells #[.string ⟨kb.toArray⟩,.bool gone,.slice none 0 0] 109 (0,0)):=λwx e=>by subst e;have hkx:ak wr (w2.drew.setCell ⟨wr.heap.size,0,none⟩ (.string ⟨kb.toArray⟩)):=cg.setCell (λh=>absurd h (Nat.lt_irrefl _)) _;exact ⟨by have:=uW.Z;rw [iN] at this;exact this,hkx,bf (w:=w2.drew) uV 0 _⟩
       have fk:=ae cK;have sg:=ae aU;clear aU qB uV cg cK iK p7 CR HB;go_upto_region 14 with fail;go_cut [0] from 58 to 64 (λbv wx=>aC w bv (b1.drop u1)/\ak wr wx/\wx.heap[wr.heap.size]?=some (.cells #[.string ⟨kb.toArray⟩,.bool gone,.slice none 0 0] 109 (0,0)))
       case first=>
        go_region_law (fail);all_goals
         go_wp2;go_meet;exact fk.Z _ rfl
       case rest=>
        obtain ⟨yj,dN,A5⟩:=hcut;have q1:=ag (i:=1) A5 rfl;have Rr:(b1.drop u1).length<=b0.length/\(b1.drop u1).length<=1099511627776:=by have h1:=abK.Z;have h2:=Ly.Z;rw [iM] at h1 h2;rw [iN];omega
        have xJ:=sg.Z;clear sg Ly abK uW HUL uu0 uu2 uu3;generalize b1.drop u1=r3 at yj Rr xJ;obtain ⟨ra3,rc3,rfl,_,_⟩:=yj.aG;have HL3:=ae Rr;have sg:=ae xJ;clear Rr xJ;have FW:=ae yj;have pU:=ae dN;have Ye:=ae A5;clear yj dN A5 fk hcv q0 f0 hww og abJ hx;go_upto_if 67 with fail;go_cut [0] from 69 to 79 (λbv wx=>∃ (p:Value) (pN val:aH),ja b=eY (n - (k+1)) pN (out++[⟨⟨kb.toArray⟩,gone,val⟩])/\pN.length<=b0.length/\aC w bv pN/\ak wr wx/\wx.heap[wr.heap.size]?=some (.cells #[.string ⟨kb.toArray⟩,.bool gone,p] 109 (0,0))/\bC wx wr.heap.size p val)
        case first=>
         cases gone with
         | true=>
          have cK:∃ (p:Value) (pN val:aH),ja b=eY (n - (k+1)) pN (out++[⟨⟨kb.toArray⟩,true,val⟩])/\pN.length<=b0.length/\aC w (.slice ra3 r3.length rc3) pN/\ak wr wc/\wc.heap[wr.heap.size]?=some (.cells #[.string ⟨kb.toArray⟩,.bool true,p] 109 (0,0))/\bC wc wr.heap.size p val:=by have aU:=sg.Z;rw [if_pos (Z6.Z.2 rfl)] at aU;exact ⟨_,r3,[],aU,HL3.Z.1,FW.Z,pU.Z,Ye.Z,bC.nil _ _⟩
          have HF:=ae cK;clear cK;go_wp2;go_meet;exact HF.Z
         | false=>
          have hz:¬z.toNat=0:=λh=>absurd (Z6.Z.1 h) (by simp);have aU:=sg.Z;rw [if_neg hz] at aU;have WC:=ae (Gy (FW.Z.keep (HQ.Z.trans pU.Z (λ_ _ e=>e))) HL3.Z.2);have xI:=lH r3 262144;obtain ⟨vb,u5,ev,hrv⟩:∃ vb u5 ev,bg r3 262144=(vb,u5,ev):=⟨_,_,_,rfl⟩;rw [hrv] at WC aU xI;simp only at aU xI;obtain ⟨a5,d5,hs5,QE⟩:=oX FW.Z u5 xI.1;have Sb:(r3.drop u5).length<=b0.length:=by have:=HL3.Z.1;rw [iN];omega
          have Gw:r3.length - u5=(r3.drop u5).length:=by rw [iN]
          rw [Gw] at hs5 QE;generalize r3.drop u5=r5 at hs5 QE Sb aU;have xK:=ae aU;have HR5:=ae QE;have HL5:=ae Sb;clear hrv aU xI QE Sb Gw hz sg;go_wp2_with fail;refine WC.Z.mono ?_;rintro e w4 ⟨vv,rfl,Tt,RF⟩;obtain ⟨va,vc,rfl,_,_⟩:=Tt.bytes.aG;have QF:=RF.at Ye.Z (λe=>e);have eA:ak wr w4:=pU.Z.trans RF (λ_ _ e=>e);have q2:w4.cell? ⟨wr.heap.size,2,none⟩=some (.slice none 0 0):=ag (i:=2) QF rfl;have f2:w4.frozen? ⟨wr.heap.size,2,none⟩=false:=cL QF 2;have fB:ak wr (w4.setCell ⟨wr.heap.size,2,none⟩ (.slice va vb.length vc)):=eA.setCell (λh=>absurd h (Nat.lt_irrefl _)) _;have MJ:ah (λb=>b=wr.heap.size) w4 (w4.setCell ⟨wr.heap.size,2,none⟩ (.slice va vb.length vc)):=ah.setCell (p:=⟨wr.heap.size,2,none⟩) (ah.refl (λb=>b=wr.heap.size) w4) (λ_=>rfl) _;have sR:ak w (w4.setCell ⟨wr.heap.size,2,none⟩ (.slice va vb.length vc)):=HQ.Z.trans fB (λ_ _ e=>e);have RG:=bf QF 2 (.slice va vb.length vc);have ju:bC (w4.setCell ⟨wr.heap.size,2,none⟩ (.slice va vb.length vc)) wr.heap.size (.slice va vb.length vc) vb:=by refine bC.base (lx Tt MJ (λb hb e=> ?_)) pU.Z.size;subst e;obtain ⟨gp,e2⟩:=dp Tt hb;rw [QF] at e2;simp only [im,Obj.cells.injEq] at e2;exact absurd e2.2.1 (by decide)
          by_cases RH:ev=0
          ·subst RH;have aU:=xK.Z;rw [if_pos rfl] at aU;have HF:=ae (⟨_,r5,vb,aU,HL5.Z,HR5.Z,fB,RG,ju⟩:∃ (p:Value) (pN val:aH),ja b=eY (n - (k+1)) pN (out++[⟨⟨kb.toArray⟩,false,val⟩])/\pN.length<=b0.length/\aC w (.slice a5 r5.length d5) pN/\ak wr (w4.setCell ⟨wr.heap.size,2,none⟩ (.slice va vb.length vc))/\(w4.setCell ⟨wr.heap.size,2,none⟩ (.slice va vb.length vc)).heap[wr.heap.size]?=some (.cells #[.string ⟨kb.toArray⟩,.bool false,p] 109 (0,0))/\bC (w4.setCell ⟨wr.heap.size,2,none⟩ (.slice va vb.length vc)) wr.heap.size p val);clear aU fB RG ju sR MJ eA QF Tt RF WC HR5 xK;go_wp2;go_meet;exact HF.Z
          ·have aU:=xK.Z;rw [if_neg RH] at aU;have HF:=ae (m9.no aU sR);have EU:(ev !=0)=true:=by simpa using RH
           clear aU RH fB RG ju sR MJ eA QF Tt RF WC HR5 xK;go_wp2;go_ret2;exact HF.Z
        case rest=>
         obtain ⟨p,pN,val,aU,N2,FM,uX,Yl,Gf⟩:=hcut;have q0:=ag (i:=0) Yl rfl;have q2:=ag (i:=1) Yl rfl;have q3:=ag (i:=2) Yl rfl;obtain ⟨a7,k7,w7,jS,oz,jf,Hg⟩:=eG.push (T:=109) (Ts:=124) mh Tryz.underlying124 (by decide) (c:=⟨⟨kb.toArray⟩,gone,val⟩) HO.Z HQ.Z.size uX Gf (by have:=OG.Z;omega);have sR:ak w w7:=(HQ.Z.trans uX (λ_ _ e=>e)).trans jf (λb hb e=>by have:=Hg b e;omega);obtain ⟨ua,uc,rfl,_,_⟩:=FM.aG;have dE:=ae (⟨k+1,pN,out++[⟨⟨kb.toArray⟩,gone,val⟩],bN,rfl,by simp;exact OG.Z,N2,FM,aU,oz,sR⟩:∃ (k':Nat) (MK:aH) (out':List eX),k'<=n/\Value.int .u64 ((k+1:Nat):Int)= .int .u64 (k':Int)/\out'.length=k'/\MK.length<=b0.length/\aC w (.slice ua pN.length uc) MK/\ja b=eY (n - k') MK out'/\eG 109 w.heap.size w7 (.slice a7 (out.length+1) k7) out'/\ak w w7);have cV:=ae jS;obtain ⟨pa,pc,rfl,_,_⟩:=Gf.bytes.aG;clear aU N2 FM uX Yl Gf jS oz jf Hg sR sg FW pU Ye HL3;go_wp2_with (first | (at_builtin;refine ao (w:=wc.alloc (.cells #[.string ⟨kb.toArray⟩,.bool gone,.slice pa val.length pc] 109)) rfl _ _ _ _ rfl rfl rfl cV.Z ?_));go_roundw;case rel=>exact dE.Z
         case measure=>simp [intOf];omega
      ·have aU:=iK.Z;rw [if_neg fK] at aU;have HF:=ae (m9.no aU RE.Z);clear aU;by_cases h0:ec=0
       ·subst h0;have qB:kb=[]:=by
         cases kb with
         | nil=>rfl
         | cons y ys=>exact absurd ⟨rfl,by simp⟩ fK
        subst qB;clear fK;go_wp2;go_ret2;exact HF.Z
       ·have EU:(ec !=0)=true:=by simpa using h0
        clear fK h0;go_wp2;go_ret2;exact HF.Z
   ·obtain rfl:k=n:=by omega
    rw [CZ,eY] at aU;obtain ⟨bb,xL⟩:∃ bb:Bool,((rest.length:Int)==0)=bb:=⟨_,rfl⟩;have L5:rest=[]↔bb=true:=by rw [<-xL];simp
    have cK:m9 w (ja b) (.returned (.tuple #[.slice oa out.length oc,.bool bb])) wr:=by
     by_cases AX:rest=[]
     ·rw [if_pos AX] at aU;rw [aU,L5.1 AX];exact ⟨_,rfl,hq,λl hl=>by cases hl;exact ho⟩
     ·rw [if_neg AX] at aU;rw [aU];have:bb=false:=by cases bb with | false=>rfl | true=>exact absurd (L5.2 rfl) AX
      rw [this];exact ⟨_,rfl,hq,λl hl=>by cases hl⟩
    have HF:=ae cK;clear cK aU ho hq gm aX hk AK Az MI IY oi Tr L5;go_wp2;go_ret2;exact HF.Z
 ·have hd:=HD.Z;rw [if_neg (λh=>he h.1)] at hd;have EU:(e !=0)=true:=by simpa using he
  have HF:=ae (m9.no hd iW.Z);clear he hd;go_wp2;go_ret2;exact HF.Z
def iG:List aH->FS->Option FS
 | [],fs=>some fs
 | r::rs,fs=>match ja r with | none=>none | some l=>iG rs (en fs l)
theorem B6 {aQ:List aH} {r:aH} (h:aQ[k]?=some r) (fs:FS):iG (aQ.drop k) fs=match ja r with | none=>none | some l=>iG (aQ.drop (k+1)) (en fs l):=by obtain ⟨hk,rfl⟩:=List.getElem?_eq_some_iff.1 h;rw [pQ hk,iG]
theorem JS {b b':aH} {c:eX} (h:tR b=some (c,b')):c.val.length<=262144/\0 <c.key.size/\c.key.size<=320:=by
 cases b with
 | nil=>cases h
 | cons z b1=>
  rw [oY] at h;split at h
  ·cases h
  ·split at h
   ·rename_i wG;have jd:(⟨(bg b1 320).1.toArray⟩:aD).size=(bg b1 320).1.length:=by show (bg b1 320).1.toArray.size=_;simp
    have h1:=lH b1 320;have h2:=List.length_pos_iff.2 wG.2;split at h
    ·cases h;exact ⟨by simp,by rw [jd];omega,by rw [jd];omega⟩
    ·split at h
     ·cases h;have h3:=lH (b1.drop (bg b1 320).2.1) 262144;exact ⟨h3.2.2,by rw [jd];omega,by rw [jd];omega⟩
     ·cases h
   ·cases h
theorem vI:∀ (n:Nat) (b:aH) (out l:List eX),eY n b out=some l->(∀ x ∈ out,x.val.length<=262144/\0 <x.key.size/\x.key.size<=320)->(∀ x ∈ l,x.val.length<=262144/\0 <x.key.size/\x.key.size<=320)/\l.length=out.length+n
 | 0,b,out,l,h,ho=>by
  rw [eY] at h;split at h
  ·cases h;exact ⟨ho,rfl⟩
  ·cases h
 | n+1,b,out,l,h,ho=>by
  rw [eY] at h;cases hd:tR b with
  | none=>rw [hd] at h;cases h
  | some p=>
   obtain ⟨c,b'⟩:=p;rw [hd] at h;obtain ⟨h1,h2⟩:=vI n b' (out++[c]) l h (λx hx=>by
    rcases List.mem_append.1 hx with hx | hx
    ·exact ho x hx
    ·rw [Fw] at hx;subst hx;exact JS hd)
   exact ⟨h1,by rw [h2];simp;omega⟩
theorem zW {b:aH} (h:ja b=some l):(∀ x ∈ l,x.val.length<=262144/\0 <x.key.size/\x.key.size<=320)/\l.length<=256:=by
 unfold ja at h;split at h
 ·rename_i hn;obtain ⟨h1,h2⟩:=vI _ _ _ _ h (λx hx=>by simp at hx);exact ⟨h1,by rw [h2];simp;exact hn.2⟩
 ·cases h
theorem B7 (m:DM) (nm:aD):((ct m nm).res=none->(ct m nm).code≠0)/\∀ aQ used,(ct m nm).res=some (aQ,used)->(ct m nm).code=0/\∀ p ∈ aQ,p.length<=1048576:=by
 unfold ct;split
 ·split
  ·split
   ·rename_i h0;exact ⟨(λe=>by cases e),λaQ used e=>by cases e;exact ⟨rfl,λp hp=>by simp at hp⟩⟩
   ·rename_i h0;exact ⟨λ_=>h0,λaQ used e=>by cases e⟩
  ·split
   ·split
    ·unfold mZ;split
     ·exact ⟨(λe=>by cases e),λaQ used e=>⟨rfl,λp hp=>by
       have e':dJ ((aZ m.aN nm).getD [])=(aQ,used):=K7 e;have:aQ=(dJ ((aZ m.aN nm).getD [])).1:=by rw [e']
       rw [this] at hp;exact oF _ _ p hp⟩⟩
     ·rename_i h0;exact ⟨λ_=>h0,λaQ used e=>by cases e⟩
    ·exact ⟨(λe=>by cases e),λaQ used e=>⟨rfl,λp hp=>by
      have e':dJ ((aZ m.aN nm).getD [])=(aQ,used):=K7 e;have:aQ=(dJ ((aZ m.aN nm).getD [])).1:=by rw [e']
      rw [this] at hp;exact oF _ _ p hp⟩⟩
   ·rename_i h0;exact ⟨λ_=>h0,λaQ used e=>by cases e⟩
 ·exact ⟨λ_=>by simp,λaQ used e=>by cases e⟩
structure abL where
 code:Int
 m:DM
 tab:Option (Nat × FS)
def bI (m:DM) (nm:aD):abL:=
 match (ct m nm).res with
 | none=>⟨(ct m nm).code,(ct m nm).m,none⟩
 | some s=>match iG s.1 [] with | none=>⟨200,(ct m nm).m,none⟩ | some fs=>⟨0,(ct m nm).m,some (s.2,fs)⟩
def uN (w:World) (d:Nat) (nm:aD) (rs:List (bB w.heap.size)) (r:abL) (e:Ending) (w':World):Prop:=
 (r.tab=none/\e= .returned (.tuple #[.pointer none,.int .i64 r.code])/\Own w w' (bk d r.m::rs))\/
 ∃ (size:Nat) (fs:FS) (j t b:Nat),r.tab=some (size,fs)/\e= .returned (.tuple #[.pointer (some ⟨t,0,none⟩),.int .i64 r.code])/\Own w w' (bk d r.m::aA j (ej d nm size)::aA t (ef j b false)::nU b fs::rs)
theorem Own.pull {r:bB w.heap.size} {l₁ l₂:List (bB w.heap.size)} (h:Own w wr (l₁++r::l₂)):Own w wr (r::(l₁++l₂)):=h.perm lO
theorem Own.Tu {t j r:bB w.heap.size} (h:Own w wr (m::t::d::j::r::rs)):Own w wr (d::j::t::m::rs):=by have h1:=(Own.pull (l₁:=[m,t,d,j]) h).drop;have h2:=Own.pull (l₁:=[m]) h1;have h3:=Own.pull (l₁:=[t,m,d]) h2;exact Own.pull (l₁:=[j,t,m]) h3
theorem Own.Z7 (h:Own w wr rs):Own w (wr.alloc (.map #[] 0)) (nU wr.heap.size []::rs):=
 h.add ((ah.refl _ wr).alloc _) (r:=nU wr.heap.size []) (G:=λb=>b=wr.heap.size) ⟨rfl,#[],0,[],heap_alloc_new wr _,stamped_empty 0,trivial,FB _⟩ (λb hb=>by rw [World.size_alloc];omega)
theorem zX {d:Nat} {m:DM} (h:Own w w0 (bk d m::rs)) (hg:Good m n) (hn:n <549755813888) (nm:aD): bF 19 #[.pointer (some ⟨d,0,none⟩),.string nm] w0 (uN w d nm rs (bI m nm)):=by
 have ph:=LV h hg hn nm;have py:=B7 m nm;have Gz:=ae ph;have xM:=ae py;have C0:=@run_makeMap Tryz.prog;clear h hg hn ph py;obtain ⟨T,hT⟩:=exp (bI m nm);have HT:=ae hT;rw [hT];clear hT;go_enter Tryz.func19,Tryz.ntmps19;go_wp2_with fail;refine Gz.Z.mono ?_;rintro e w1 (⟨hr,rfl,h1⟩ | ⟨aQ,used,j,v,hr,rfl,h1⟩)
 ·have hc:((ct m nm).code !=0)=true:=by simpa using xM.Z.1 hr
  have HF:=ae (show uN w d nm rs T (.returned (.tuple #[.pointer none,.int .i64 (ct m nm).code])) w1 by rw [<-HT.Z];unfold bI;rw [hr];exact .inl ⟨rfl,rfl,h1⟩)
  generalize (ct m nm).code=rc at hc HF ⊢;clear Gz xM hr h1 C0 HT;go_wp2;go_ret2;exact HF.Z
 ·obtain ⟨hc,Az⟩:=xM.Z.2 aQ used hr;have Dv:=ae (show T=match iG aQ [] with | none=>⟨200,(ct m nm).m,none⟩ | some fs=>⟨0,(ct m nm).m,some (used,fs)⟩ by rw [<-HT.Z];unfold bI;rw [hr]);rw [hc];have hh:=((h1.Z7).alloc (ef j w1.heap.size false)).swap;rw [World.size_alloc] at hh;obtain ⟨-,va,vc,rfl⟩:=h1.rows (v:=v) (ll:=aQ) (by simp);have yi:(aQ.length:Int)<=9223372036854775807:=by
   obtain ⟨F,⟨ps,G,fN,_⟩,_⟩:=h1.mem (r:=gq (.slice va aQ.length vc) aQ) (by simp);rcases fN.2 with ⟨e1,e2⟩ | ⟨g,cap,gp,_,_,_,h3,h4,_⟩
   ·rw [e2];simp
   ·unfold maxLen at h4;omega
  have HL:=ae Az;have HH:=ae hh;generalize (ct m nm).m=m1 at HH Dv;clear Gz xM hr h1 hc Az hh HT;go_wp2_with fail;go_loopw [30] (λiv wx=>∃ (k:Nat) (fs:FS),k<=aQ.length/\iv= .int .i64 (k:Int)/\iG aQ []=iG (aQ.drop k) fs/\Own w wx (nU w1.heap.size fs::aA (w1.heap.size+1) (ef j w1.heap.size false)::bk d m1::aA j (ej d nm used)::gq (.slice va aQ.length vc) aQ::rs)) (λiv _=>aQ.length - (intOf iv).toNat);case atStart=>exact ⟨0,[],fC _,rfl,rfl,HH.Z⟩
  case round=>
   obtain ⟨k,fs,hk,rfl,aU,ho⟩:=hrel;clear HH;have k0:=np k;by_cases aX:k <aQ.length
   ·obtain ⟨rec,Dw⟩:∃ rec,aQ[k]?=some rec:=⟨aQ[k],js aX⟩;obtain ⟨⟨_,_,e,zA⟩,_⟩:=ho.rows (v:= .slice va aQ.length vc) (ll:=aQ) (by simp);cases e;obtain ⟨x,p,rfl,hx,hp⟩:=zA k rec Dw;have kL:=HL.Z rec (kx Dw);rw [B6 Dw] at aU;have HDC:=ae (Du hp (by omega));obtain ⟨pa,pc,rfl,_,_⟩:=hp.aG;have k1:(k:Int) <aQ.length:=by omega
    have bN:k+1<=aQ.length:=by omega
    have iK:=ae aU;have HO:=ae ho;clear zA hp kL aU ho Dw aX hk HL;go_wp2_with fail;refine HDC.Z.mono ?_;rintro e w2 ⟨lv,rfl,cg,qe⟩;cases hd:ja rec with
    | none=>
     have aU:=iK.Z;rw [hd] at aU;have cK:uN w d nm rs T (.returned (.tuple #[.pointer none,.int .i64 200])) w2:=by rw [Dv.Z,aU];exact .inl ⟨rfl,rfl,((HO.Z.quiet cg).drop.drop.Es.swap.drop)⟩
     have HF:=ae cK;clear cK aU hd cg qe iK HO HDC;simp only [O7];go_wp2;go_ret2;exact HF.Z
    | some l=>
     have aU:=iK.Z;rw [hd] at aU;have jP:=qe l hd;obtain ⟨la,lc,rfl⟩:=jP.aG;obtain ⟨zp,og⟩:=zW hd;have dy:=(HO.Z.WB jP cg).Sr;have vB:=QC dy (a:=la) (c:=lc) (l:=l) (by simp) (by omega) (λx hx=>by have:=(zp x hx).1;omega);have uG:=ae vB;have sg:=ae aU;clear aU hd jP cg qe iK HO HDC zp og dy vB;simp only [RT];go_wp2_with fail;refine uG.Z.mono ?_;rintro e w3 ⟨rfl,h3⟩;have dE:=ae (⟨k+1,en fs l,bN,rfl,sg.Z,h3.Es⟩:∃ (k':Nat) (WD:FS),k'<=aQ.length/\Value.int .i64 ((k+1:Nat):Int)= .int .i64 (k':Int)/\iG aQ []=iG (aQ.drop k') WD/\Own w w3 (nU w1.heap.size WD::aA (w1.heap.size+1) (ef j w1.heap.size false)::bk d m1::aA j (ej d nm used)::gq (.slice (some x) aQ.length vc) aQ::rs));clear h3 uG sg;go_wp2;go_roundw;case rel=>exact dE.Z
     case measure=>simp [intOf];omega
   ·obtain rfl:k=aQ.length:=by omega
    rw [pR,iG] at aU;have cK:uN w d nm rs T (.returned (.tuple #[.pointer (some ⟨w1.heap.size+1,0,none⟩),.int .i64 0])) wr:=by rw [Dv.Z,aU];exact .inr ⟨used,fs,j,_,_,rfl,rfl,ho.Tu⟩
    have HF:=ae cK;clear cK aU ho aX hk HL;go_wp2;go_ret2;exact HF.Z
theorem eG.JT {base:Nat} (h:eG T base w v cs):∃ a n c,v= .slice a n c:=by obtain ⟨a,c,e⟩:=h.aG;exact ⟨a,_,c,e⟩
theorem tX {base:Nat} {l:aH} (h:bC w base v l):∃ a n c,v= .slice a n c:=by obtain ⟨a,c,rfl,_⟩:=h.bytes.aG;exact ⟨a,_,c,rfl⟩
def MM (w:World) (l:List eX) (e:Ending) (w':World):Prop:=∃ v,e= .returned v/\eG 109 w.heap.size w' v l/\ak w w'
theorem gh.OH {base:Nat} {p:Value} {n:aD} {l:aH} (h:gh base F w v fs) (hz:base<=w.heap.size) (hp:bQ F w p l) (hb:fs.length <1099511627776): ∃ a n' c w',(Builtin.append_ #[93,93] 93 #[v,.slice (some ⟨w.heap.size,0,none⟩) 1 1]).run Tryz.prog (w.alloc (.cells #[.string n,p] 257))= .ok (.slice a n' c) w'/\gh base F w' (.slice a n' c) (fs++[(n,l)])/\ ah (λb=>v.ownBlock=some b) w w'/\∀ b,v.ownBlock=some b->base<=b:=by
 obtain ⟨ps,h1,h2⟩:=h;have aX:=h2.lt;obtain ⟨i0,hi,rS,iH,jO⟩:=info_parts QD;have qT:p.oneCell'=true:=by obtain ⟨a,c,rfl,_⟩:=hp.aG;rfl
 obtain ⟨v',w',aT,dy,hg,_,jP⟩:=run_append_own_at (P:=Tryz.prog) (w.alloc (.cells #[.string n,p] 257)) base 93 93 257 i0 _ 2 40 Tryz.underlying93 hi rS iH jO rfl (by omega) v fs.length (gM ps fs) (h2.alloc _) ⟨w.heap.size,0,none⟩ 1 1 [.string n,p] rfl
  (λj u hu=>by rw [iV,fw];exact ag (heap_alloc_new w _) (by simpa using hu))
  (by intro u hu;simp at hu;rcases hu with rfl | rfl;rfl;exact qT) (by unfold maxLen;omega) (by omega) (by simp only [World.size_alloc];omega)
 obtain ⟨a,c,rfl⟩:=bA dy;have hk:ah (λb=>v.ownBlock=some b) w w':=((ah.refl _ w).alloc _).trans (ah.fH hg) (λ_ _ h=>h);have AV:aP F w w':=aP.jY hk (λg cs fz hg he hc=>by obtain ⟨gp,e2⟩:=dp h2 he;rw [hc] at e2;simp only [im,Obj.cells.injEq] at e2;exact absurd e2.2.1 (by decide))
 refine ⟨a,_,c,w',aT,⟨ps++[p], ?_, ?_⟩,hk,λb hb=>(aX b hb).1⟩
 ·exact (h1.mono (λq f hq=>hq.keep AV (λ_ h _=>h))).append ⟨hp.keep AV (λ_ h _=>h),trivial⟩
 ·rw [oH _ _ _ _ h1.length,fS];exact dy
theorem gh.JT {base:Nat} (h:gh base F w v fs):∃ a n c,v= .slice a n c:=by obtain ⟨a,c,e⟩:=h.aG;exact ⟨a,_,c,e⟩
theorem MN (fs:FS) (c:eX):(tdo fs c).length<=fs.length+1:=by
 unfold tdo;have h1:(bV fs c.key).length<=fs.length:=Fu _ _;split
 ·omega
 ·unfold dY;rw [zI];omega
theorem nI:∀ (l:List eX) (fs:FS),(en fs l).length<=fs.length+l.length
 | [],fs=>eQ _
 | c::l,fs=>by have h1:=nI l (tdo fs c);have h2:=MN fs c;show (en (tdo fs c) l).length<=_;rw [iM];omega
theorem E2 {i:Nat} (hf:fs[i]?=some f):fs.take (i+1)=fs.take i++[f]:=by obtain ⟨hi,he⟩:=List.getElem?_eq_some_iff.1 hf;rw [wS hi,he]
theorem JV (h:dM F w v fs) (hs:bp fs) (hc:fu w a l) (hl:fs.length+l.length <1099511627775) (hv:∀ x ∈ l,x.val.length<=140737488355328): bF 135 #[v,.slice a l.length c] w (Yj F w (en fs l)):=by
 obtain ⟨va,vc,rfl,-,-⟩:=h.aG;have H:=ae h;have HC:=ae hc;have HV:=ae hv;have HS:=ae hs;have HL:=ae hl;have i0:(l.length:Int)<=1099511627775:=by omega
 clear h hc hv hs hl;go_enter Tryz.func135,Tryz.ntmps135;go_wp2_with fail;go_loopw [0,5] (λlv iv wx=>∃ k:Nat,k<=l.length/\iv= .int .i64 (k:Int)/\dM (fX F w wx) wx lv (en fs (l.take k))/\ak w wx) (λ_ iv _=>l.length - (intOf iv).toNat);case atStart=>exact ⟨0,fC _,rfl,H.Z.keep (aP.refl _ _) (λ_ _=>rfl) (λb hb _=> .inl hb),ah.refl _ _⟩
 case round=>
  obtain ⟨k,hk,rfl,hp,hq⟩:=hrel;have k0:=np k;obtain ⟨wo,Zn⟩:=cE (wr);subst Zn;by_cases aX:k <l.length
  ·obtain ⟨ch,sQ⟩:∃ ch,l[k]?=some ch:=⟨l[k],js aX⟩;have gA:=EZ sQ fs;have Tv:=bp.en (l.take k) HS.Z;have Tw:=nI (l.take k) fs;rw [nM] at Tw;generalize en fs (l.take k)=ku at hp gA Tv Tw;have my:ku.length <1099511627775:=by have:=HL.Z;omega
   obtain ⟨pa,pc,rfl,-,-⟩:=hp.aG;obtain ⟨x,p,rfl,c0,c1,c2,Wj⟩:=(HC.Z.keep hq).cells sQ;have zk:=HV.Z ch (kx sQ);obtain ⟨key,gone,val⟩:=ch;dsimp only at c0 c1 c2 Wj zk;obtain ⟨ba,bc,rfl,-,-⟩:=Wj.aG;have j2:(k:Int) <l.length:=by omega
   have bN:k+1<=l.length:=by omega
   have zG:=xG hp key (by omega);have lf:=BZ ku key;have GA:=EP Tv ⟨key,gone,val⟩;dsimp only at GA;have nN:=ae zG;obtain ⟨at_,jP⟩:=cE (ie ku key);rw [<-jP] at nN lf GA;have Wi:=ae GA;have fP:=ae gA;have HP:=ae hp;have HQ:=ae hq;have HPR:=ae Wj;have Z8:=ae my;have Jj:=ae zk;have j3:(at_:Int)<=ku.length:=by omega
   have j4:(0:Int)<=at_:=by omega
   have j5:(ku.length:Int)<=1099511627774:=by omega
   have Yk:=ae lf;clear zG GA gA hp hq Wj Tv Tw my zk sQ aX hk jP H lf;go_wp2_with fail;refine nN.Z.Z.mono ?_;rintro e w' ⟨rfl,rfl⟩;go_wp2_with fail;go_loopw [7,8] (λov iv wx=>∃ (i:Nat),i<=at_/\iv= .int .i64 (i:Int)/\gh wo.heap.size (λb=>fX F w wo b\/wo.heap.size<=b) wx ov (ku.take i)/\ak wo wx) (λ_ iv _=>at_ - (intOf iv).toNat);case atStart=>exact ⟨0,fC _,rfl,by rw [Au];exact gh.nil _ _ _,ah.refl _ _⟩
   case round=>
    obtain ⟨w1,fh⟩:=cE (wr);subst fh;obtain ⟨i,hi,rfl,ho,Ay⟩:=hrel;obtain ⟨oa,on,oc,rfl⟩:=ho.JT;have n0:=np i;by_cases aX:i <at_
    ·obtain ⟨f,hf⟩:∃ f,ku[i]?=some f:=⟨ku[i]'(by have:=Yk.Z;omega),js _⟩;obtain ⟨g,cap,q,e,iL,gy,hB⟩:=(HP.Z.quiet Ay (λb hb _=>hb)).cell hf;simp only [Value.slice.injEq] at e;obtain ⟨rfl,-,rfl⟩:=e;obtain ⟨qa,qc,rfl,-,-⟩:=hB.aG;have n1:(i:Int) <at_:=by omega
     have n2:(i:Int) <ku.length:=by omega
     have VE:i+1<=at_:=by omega
     obtain ⟨a2,m2,c2,w2,aT,dy,cg,kh⟩:=ho.OH Ay.size (hB.keep (aP.refl _ _) (λb hb _=> .inl hb)) (n:=f.1) (by rw [nM];have:=Z8.Z;omega);rw [show (f.1,f.2)=f from rfl,<-E2 hf] at dy;have iI:=Ay.trans cg (λb hb e=>by have:=kh b e;omega);have dE:=ae (⟨i+1,VE,rfl,dy,iI⟩:∃ (i':Nat),i'<=at_/\Value.int .i64 ((i+1:Nat):Int)= .int .i64 (i':Int)/\gh wo.heap.size (λb=>fX F w wo b\/wo.heap.size<=b) w2 (.slice a2 m2 c2) (ku.take i')/\ak wo w2);have cV:=ae aT;clear ho Ay hf hB aT dy cg kh iI hi aX;go_wp2_with (at_builtin;(first | (refine ao (w:=w1.alloc (.cells #[.string f.1,.slice qa f.2.length qc] 257)) rfl _ _ _ _ rfl rfl rfl cV.Z ?_)));go_roundw;case rel=>exact dE.Z
     case measure=>simp [intOf];omega
    ·obtain rfl:i=at_:=by omega
     have CC:=ae (λ(wx:World) (hk:ak wo wx)=>(⟨aJ c0 hk,aJ c2 hk⟩:wx.cell? (x.add (k*3))=some (.string key)/\wx.cell? {block:=(x.add (k*3)).block,off:=(x.add (k*3)).off+2}=some (.slice ba val.length bc)));have d1:=aJ c1 Ay;have FL:=ae ho;have UY:=ae Ay;clear ho Ay c0 c1 c2 hi aX;go_upto_if 40 with fail;go_cut [7] from 41 to 55 (λov wx=>∃ out:FS,tdo ku ⟨key,gone,val⟩=out++bV (ku.drop i) key/\out.length<=i+1/\gh wo.heap.size (λb=>fX F w wo b\/wo.heap.size<=b) wx ov out/\ak wo wx)
     case first=>
      cases gone with
      | true=>
       have EA:=Wi.Z;rw [if_pos rfl,qh] at EA;have HF:=ae (⟨_,EA,by rw [nM];omega,FL.Z,UY.Z⟩:∃ out:FS,tdo ku ⟨key,true,val⟩=out++bV (ku.drop i) key/\out.length<=i+1/\gh wo.heap.size (λb=>fX F w wo b\/wo.heap.size<=b) w1 (.slice oa on oc) out/\ak wo w1);clear EA Wi FL UY;go_wp2;go_meet;exact HF.Z
      | false=>
       have EA:=Wi.Z;rw [if_neg (by simp)] at EA;have yH:=ae (fO (w:=w1.drew) (HPR.Z.keep UY.Z.drew) Jj.Z);have vy:∀ (w2:World) (ta:Option Addr) (tn tc:Nat),ak w1.drew w2->bC w2 w1.drew.heap.size (.slice ta tn tc) val->
         ∃ a' n' c' w',(Builtin.append_ #[93,93] 93 #[.slice oa on oc,.slice (some ⟨w2.heap.size,0,none⟩) 1 1]).run Tryz.prog (w2.alloc (.cells #[.string key,.slice ta tn tc] 257))= .ok (.slice a' n' c') w'/\(∃ out:FS,tdo ku ⟨key,false,val⟩=out++bV (ku.drop i) key/\out.length<=i+1/\gh wo.heap.size (λb=>fX F w wo b\/wo.heap.size<=b) w' (.slice a' n' c') out/\ak wo w')/\(w2.cell? (x.add (k*3))=some (.string key)/\w2.cell? {block:=(x.add (k*3)).block,off:=(x.add (k*3)).off+2}=some (.slice ba val.length bc))/\((w2.alloc (.cells #[.string key,.slice ta tn tc] 257)).cell? (x.add (k*3))=some (.string key)/\(w2.alloc (.cells #[.string key,.slice ta tn tc] 257)).cell? {block:=(x.add (k*3)).block,off:=(x.add (k*3)).off+2}=some (.slice ba val.length bc))/\(w'.cell? (x.add (k*3))=some (.string key)/\w'.cell? {block:=(x.add (k*3)).block,off:=(x.add (k*3)).off+2}=some (.slice ba val.length bc)):=λw2 ta tn tc cg ht=>by
        have abM:ak w1 w2:=((ah.refl _ w1).drew).trans cg (λ_ _ e=>e);have WE:ak wo w2:=UY.Z.trans abM (λ_ _ e=>e);obtain ⟨a',n',c',w',aT,Gf,uX,pg⟩:=(FL.Z.keep abM).OH (n:=key) (l:=val) WE.size (ht.bytes.keep (aP.refl _ _) (λb hb _=> .inr (by have h1:w1.drew.heap.size=w1.heap.size:=rfl;have:=UY.Z.size;omega))) (by rw [nM];have:=Z8.Z;omega);have abN:ak wo w':=WE.trans uX (λb hb e=>by have:=pg b e;omega);refine ⟨a',n',c',w',aT,⟨ku.take i++[(key,val)],EA, ?_,Gf,abN⟩,CC.Z _ WE,CC.Z _ (WE.alloc _),CC.Z _ abN⟩;rw [fS,nM,List.length_singleton];omega
       have MO:=ae vy;have Qh:=ae (CC.Z _ UY.Z.drew);clear vy EA Wi FL UY HPR Jj;go_wp2_with fail;go_region_held3 (λw'=>w'.cell? (x.add (k*3))=some (.string key)/\w'.cell? {block:=(x.add (k*3)).block,off:=(x.add (k*3)).off+2}=some (.slice ba val.length bc)) (first | exact Qh.Z | exact s1 | exact s2 | exact s3 | go_keep) (first | (go_at_call 27;refine yH.Z.mono ?_;rintro e w3 ⟨tv,rfl,Lg,yX⟩;obtain ⟨ta,tn,tc,rfl⟩:=tX Lg;obtain ⟨a2,m2,e2,w4,iY,Ym,s1,s2,s3⟩:=MO.Z w3 ta tn tc yX Lg) | (refine cP rfl _ _ _ _ rfl rfl rfl iY ?_));all_goals
        have HF:=ae Ym;clear Ym iY s1 s2 s3 Lg yX;go_wp2;go_meet;exact HF.Z
     case rest=>
      obtain ⟨ada,Yn,Yo,Vm,PI⟩:=hcut;have HI0:=ae Yn;have HO0:=ae Vm;have HQ0:=ae PI;clear Yn Vm PI FL UY Wi HPR Jj d1;go_wp2_with fail;go_loopw [7,9] (λov iv wx=>∃ (m:Nat) (out:FS),i<=m/\m<=ku.length/\iv= .int .i64 (m:Int)/\tdo ku ⟨key,gone,val⟩=out++bV (ku.drop m) key/\out.length<=m+1/\gh wo.heap.size (λb=>fX F w wo b\/wo.heap.size<=b) wx ov out/\ak wo wx) (λ_ iv _=>ku.length - (intOf iv).toNat);case atStart=>exact ⟨i,ada,eQ _,Yk.Z,rfl,HI0.Z,Yo,HO0.Z,HQ0.Z⟩
      case round=>
       obtain ⟨m,out,him,hm,rfl,aU,cU,dy,iI⟩:=hrel;obtain ⟨w3,Z9⟩:=cE (wr);subst Z9;obtain ⟨za,zn,zc,rfl⟩:=dy.JT;have n3:=np m;obtain ⟨e0,e2⟩:=CC.Z _ iI;clear HI0 HO0 HQ0 Yo;by_cases aX:m <ku.length
       ·obtain ⟨f,hf⟩:∃ f,ku[m]?=some f:=⟨ku[m],js aX⟩;obtain ⟨g,cap,q,e,iL,gy,hB⟩:=(HP.Z.quiet iI (λb hb _=>hb)).cell hf;simp only [Value.slice.injEq] at e;obtain ⟨rfl,-,rfl⟩:=e;obtain ⟨qa,qc,rfl,-,-⟩:=hB.aG;have n4:(m:Int) <ku.length:=by omega
        have UW:m+1<=ku.length:=by omega
        have Tx:ku.drop m=f::ku.drop (m+1):=by obtain ⟨hm',he⟩:=List.getElem?_eq_some_iff.1 hf;rw [pQ hm',he]
        rw [Tx,lC] at aU;by_cases wG:f.1=key
        ·rw [if_pos wG] at aU;have hbe:(f.1.toList==key.toList)=true:=by rw [wG];simp
         have dE:=ae (⟨m+1,out,by omega,UW,rfl,aU,by omega,dy.keep ((ah.refl _ w3).drew),iI.drew⟩:∃ (m':Nat) (out':FS),i<=m'/\m'<=ku.length/\Value.int .i64 ((m+1:Nat):Int)= .int .i64 (m':Int)/\tdo ku ⟨key,gone,val⟩=out'++bV (ku.drop m') key/\out'.length<=m'+1/\gh wo.heap.size (λb=>fX F w wo b\/wo.heap.size<=b) w3.drew (.slice za zn zc) out'/\ak wo w3.drew);clear aU dy iI hf hB Tx wG aX hm;go_wp2_with fail;go_still_tail 10,(by kernel_rfl);change wpList _ _ _ _ _ (World.drew _);go_wp2;go_roundw;case rel=>exact dE.Z
         case measure=>simp [intOf];omega
        ·rw [if_neg wG] at aU;have hbe:(f.1.toList==key.toList)=false:=by
          cases hb:(f.1.toList==key.toList) with
          | false=>rfl
          | true=>exact absurd (toList_inj (by simpa using hb)) wG
         obtain ⟨a2,m2,e3,w4,aT,lz,eA,kh⟩:=(dy.keep ((ah.refl _ w3).drew)).OH (w:=w3.drew) iI.size ((hB.keep (aP.refl _ _) (λb hb _=> .inl hb)).keep (aP.refl _ _) (λ_ h _=>h)) (n:=f.1) (by have:=Z8.Z;omega);have WG:ak wo w4:=iI.drew.trans eA (λb hb e=>by have:=kh b e;omega);have Yp:tdo ku ⟨key,gone,val⟩=(out++[f])++bV (ku.drop (m+1)) key:=by rw [aU];simp
         have dE:=ae (⟨m+1,out++[f],by omega,UW,rfl,Yp,by simp;omega,lz,WG⟩:∃ (m':Nat) (out':FS),i<=m'/\m'<=ku.length/\Value.int .i64 ((m+1:Nat):Int)= .int .i64 (m':Int)/\tdo ku ⟨key,gone,val⟩=out'++bV (ku.drop m') key/\out'.length<=m'+1/\gh wo.heap.size (λb=>fX F w wo b\/wo.heap.size<=b) w4 (.slice a2 m2 e3) out'/\ak wo w4);have cV:=ae aT;have He:w3.drew.cell? ⟨g,m*2,none⟩=some (.string f.1):=iL;have uw:w3.drew.cell? ⟨g,m*2+1,none⟩=some (.slice qa f.2.length qc):=gy;clear aU Yp dy iI hf hB Tx wG aX hm aT lz eA kh WG;go_wp2_with fail;go_still_tail 10,(by kernel_rfl);change wpList _ _ _ _ _ (World.drew _);go_wp2_with (at_builtin;(first | (refine ao (w:=w3.drew.alloc (.cells #[.string f.1,.slice qa f.2.length qc] 257)) rfl _ _ _ _ rfl rfl rfl cV.Z ?_)));go_roundw;case rel=>exact dE.Z
         case measure=>simp [intOf];omega
       ·obtain rfl:m=ku.length:=by omega
        have abO:en fs (l.take (k+1))=out:=by rw [fP.Z,aU,pR];show out++[]=out;exact qh _
        have OI:dM (fX F w w3) w3 (.slice za zn zc) (en fs (l.take (k+1))):=by
         rw [abO];have iH:=HQ.Z.size;refine dy.files (λb hb aX=> ?_) (λb h1 h2=> .inr ⟨by omega,h2⟩);rcases hb with (hb | hb) | hb
         ·exact .inl hb
         ·exact .inr ⟨hb.1,aX⟩
         ·exact .inr ⟨by omega,aX⟩
        have dE:=ae (⟨k+1,bN,rfl,OI,HQ.Z.trans iI (λ_ _ e=>e)⟩:∃ k':Nat,k'<=l.length/\Value.int .i64 ((k+1:Nat):Int)= .int .i64 (k':Int)/\dM (fX F w w3) w3 (.slice za zn zc) (en fs (l.take k'))/\ak w w3);clear OI abO aU dy iI aX hm;go_wp2;go_roundw;case rel=>exact dE.Z
        case measure=>simp [intOf];omega
  ·obtain rfl:k=l.length:=by omega
   rw [jX] at hp;obtain ⟨pa,pc,rfl,-,-⟩:=hp.aG;have HF:=ae (⟨_,rfl,hp,hq⟩:Yj F w (en fs l) (.returned (.slice pa (en fs l).length pc)) wo);generalize (en fs l).length=n0 at HF ⊢;clear hp hq aX hk;go_wp2;go_ret;exact HF.Z
theorem GB {f2:aD × aH} (h1:ku[k]?=some f) (h2:wQ[k]?=some f2) (ht:ku.take k=wQ.take k) (he:f=f2):ku.take (k+1)=wQ.take (k+1):=by obtain ⟨bN,e1⟩:=List.getElem?_eq_some_iff.1 h1;obtain ⟨cg,e2⟩:=List.getElem?_eq_some_iff.1 h2;rw [wS bN,wS cg,ht,e1,e2,he]
theorem OJ {f2:aD × aH} (h1:ku[k]?=some f) (h2:wQ[k]?=some f2) (he:f≠f2):decide (ku=wQ)=false:=by refine decide_eq_false (λe=>he ?_);rw [e,h2] at h1;cases h1;rfl
theorem Dx {v2:Value} (h:dM F w v ku) (h2:dM G w v2 wQ) (hb:ku.length<=1099511627775):bF 101 #[v,v2] w (bH w (.bool (decide (ku=wQ)))):=by
 obtain ⟨pa,pc,rfl,-,XO⟩:=h.aG;obtain ⟨qa,qc,rfl,-,hqm⟩:=h2.aG;have H:=ae h;have H2:=ae h2;have i1:(ku.length:Int)<=1099511627775:=by omega
 obtain ⟨qe,iI⟩:wQ.length<=qc/\qc<=maxLen:=by obtain ⟨a,c,e,g1,g2⟩:=h2.aG;cases e;exact ⟨g1,g2⟩
 unfold maxLen at iI;clear h h2 hb XO hqm;by_cases hn:ku.length=wQ.length
 ·have i2:(wQ.length:Int)<=1099511627775:=by omega
  have e0:((ku.length:Int) !=(wQ.length:Int))=false:=by rw [hn];simp
  have Vn:=ae hn;clear qe iI hn;go_enter Tryz.func101,Tryz.ntmps101;go_wp2_with fail;go_loopw [5] (λiv wx=>∃ k:Nat,k<=ku.length/\iv= .int .i64 (k:Int)/\ku.take k=wQ.take k/\ak w wx) (λiv _=>ku.length - (intOf iv).toNat);case atStart=>exact ⟨0,fC _,rfl,rfl,ah.refl _ _⟩
  case round=>
   obtain ⟨k,hk,rfl,ht,hq⟩:=hrel;have k0:=np k;by_cases aX:k <ku.length
   ·obtain ⟨f,hf⟩:∃ f,ku[k]?=some f:=⟨ku[k],js aX⟩;obtain ⟨f2,Yq⟩:∃ f2,wQ[k]?=some f2:=⟨wQ[k]'(by have:=Vn.Z;omega),js _⟩;obtain ⟨g,cap,p,e,iL,gy,hB⟩:=(H.Z.quiet hq (λb hb _=>hb)).cell hf;simp only [Value.slice.injEq] at e;obtain ⟨rfl,-,rfl⟩:=e;obtain ⟨g2,adY,p2,e,He,uw,hD⟩:=(H2.Z.quiet hq (λb hb _=>hb)).cell Yq;simp only [Value.slice.injEq] at e;obtain ⟨rfl,-,rfl⟩:=e;obtain ⟨ba,bc,rfl,-,-⟩:=hB.aG;obtain ⟨da,dc,rfl,-,-⟩:=hD.aG;have k1:(k:Int) <ku.length:=by omega
    have k2:(k:Int) <wQ.length:=by have:=Vn.Z;omega
    have bN:k+1<=ku.length:=by omega
    by_cases wG:f.1=f2.1
    ·have hbe:(f.1.toList==f2.1.toList)=true:=by rw [wG];simp
     have kW:=λW (hW:ak wr W)=>q8 (hB.reads.keep hW) (hD.reads.keep hW);have wN:=ae kW;have HQ:=ae hq;have hS:∀ W,ak wr W->W.cell? ⟨g,k*2,none⟩=some (.string f.1)/\W.cell? ⟨g,k*2+1,none⟩=some (.slice ba f.2.length bc)/\W.cell? ⟨g2,k*2,none⟩=some (.string f2.1)/\W.cell? ⟨g2,k*2+1,none⟩=some (.slice da f2.2.length dc):=λW hW=>⟨aJ iL hW,aJ gy hW,aJ He hW,aJ uw hW⟩;have HS:=ae hS;obtain ⟨bv,JW⟩:∃ bv,decide (f.2=f2.2)=bv:=⟨_,rfl⟩;rw [JW] at wN;have HE:=ae (show bv=true->∃ k':Nat,k'<=ku.length/\Value.int .i64 ((k+1:Nat):Int)= .int .i64 (k':Int)/\ku.take k'=wQ.take k' from λe=>⟨k+1,bN,rfl,GB hf Yq ht (Prod.ext wG (of_decide_eq_true (JW.trans e)))⟩);have HN:=ae (show bv=false->decide (ku=wQ)=false from λe=>OJ hf Yq (λe2=>by rw [e2,e] at JW;simp at JW));clear kW hS hB hD hq ht hf Yq wG aX hk JW;cases bv with
     | true=>
      have HEE:=ae (HE.Z rfl);clear HE HN;go_wp2_with fail;go_region_held3 (λw'=>w'.cell? ⟨g,k*2,none⟩=some (.string f.1)/\w'.cell? ⟨g,k*2+1,none⟩=some (.slice ba f.2.length bc)/\w'.cell? ⟨g2,k*2,none⟩=some (.string f2.1)/\w'.cell? ⟨g2,k*2+1,none⟩=some (.slice da f2.2.length dc)) (first | exact HS.Z _ ((ah.refl _ _).drew) | exact HS.Z _ (((ah.refl _ _).drew).trans cg (λ_ _ e=>e)) | go_keep) (first | (go_at_call 15;refine (wN.Z _ ((ah.refl _ _).drew)).mono ?_;rintro e w2 ⟨rfl,cg⟩));all_goals
       obtain ⟨k',g1,g2',g3⟩:=HEE.Z;have dE:=ae (⟨k',g1,g2',g3,(HQ.Z.drew).trans cg (λ_ _ e=>e)⟩:∃ k':Nat,k'<=ku.length/\Value.int .i64 ((k+1:Nat):Int)= .int .i64 (k':Int)/\ku.take k'=wQ.take k'/\ak w w2);clear cg g1 g2' g3;go_wp2;go_roundw;case rel=>exact dE.Z
       case measure=>simp [intOf];omega
     | false=>
      have HNN:=ae (HN.Z rfl);clear HE HN;go_wp2_with fail;go_region_held3 (λw'=>w'.cell? ⟨g,k*2,none⟩=some (.string f.1)/\w'.cell? ⟨g,k*2+1,none⟩=some (.slice ba f.2.length bc)/\w'.cell? ⟨g2,k*2,none⟩=some (.string f2.1)/\w'.cell? ⟨g2,k*2+1,none⟩=some (.slice da f2.2.length dc)) (first | exact HS.Z _ ((ah.refl _ _).drew) | exact HS.Z _ (((ah.refl _ _).drew).trans cg (λ_ _ e=>e)) | go_keep) (first | (go_at_call 15;refine (wN.Z _ ((ah.refl _ _).drew)).mono ?_;rintro e w2 ⟨rfl,cg⟩));all_goals
       have HF:=ae (show bH w (.bool (decide (ku=wQ))) (.returned (.bool false)) w2 by rw [HNN.Z];exact ⟨rfl,(HQ.Z.drew).trans cg (λ_ _ e=>e)⟩);clear cg;go_wp2;go_ret;exact HF.Z
    ·have hbe:(f.1.toList==f2.1.toList)=false:=by
      cases hb:(f.1.toList==f2.1.toList) with
      | false=>rfl
      | true=>exact absurd (toList_inj (by simpa using hb)) wG
     have dO:=OJ hf Yq (λe=>wG (by rw [e]));have HF:=ae (show bH w (.bool (decide (ku=wQ))) (.returned (.bool false)) wr.drew by rw [dO];exact ⟨rfl,hq.drew⟩);clear dO hB hD hq ht hf Yq wG aX hk gy uw;go_wp2_with fail;refine wp_region_held_drew (S:=λw'=>w'.cell? ⟨g,k*2,none⟩=some (.string f.1)/\w'.cell? ⟨g2,k*2,none⟩=some (.string f2.1)) (by kernel_rfl) ⟨iL,He⟩ (λai=> ?_);refine tk 0 17 (.slice (some ⟨g,0,none⟩) ku.length pc) ai ?_ (hy:=Or.inl ⟨by rfl,by intro w bK;obtain ⟨s1,s2⟩:=bK;go_simp⟩);refine tk 1 18 (.int .i64 (k:Int)) ai ?_ (hy:=Or.inl ⟨by rfl,by intro w bK;obtain ⟨s1,s2⟩:=bK;go_simp⟩);refine tk 2 19 (.pointer (some ⟨g,k*2,none⟩)) ai ?_ (hy:=Or.inl ⟨by rfl,by intro w bK;obtain ⟨s1,s2⟩:=bK;go_simp⟩);refine tk 3 20 (.pointer (some ⟨g,k*2,none⟩)) ai ?_ (hy:=Or.inl ⟨by rfl,by intro w bK;obtain ⟨s1,s2⟩:=bK;go_simp⟩);refine tk 4 21 (.string f.1) ai ?_ (hy:=Or.inl ⟨by rfl,by intro w bK;obtain ⟨s1,s2⟩:=bK;go_simp⟩);refine tk 5 22 (.slice (some ⟨g2,0,none⟩) wQ.length qc) ai ?_ (hy:=Or.inl ⟨by rfl,by intro w bK;obtain ⟨s1,s2⟩:=bK;go_simp⟩);refine tk 6 23 (.int .i64 (k:Int)) ai ?_ (hy:=Or.inl ⟨by rfl,by intro w bK;obtain ⟨s1,s2⟩:=bK;go_simp⟩);refine tk 7 24 (.pointer (some ⟨g2,k*2,none⟩)) ai ?_ (hy:=Or.inl ⟨by rfl,by intro w bK;obtain ⟨s1,s2⟩:=bK;go_simp⟩);refine tk 8 25 (.pointer (some ⟨g2,k*2,none⟩)) ai ?_ (hy:=Or.inl ⟨by rfl,by intro w bK;obtain ⟨s1,s2⟩:=bK;go_simp⟩);refine tk 9 26 (.string f2.1) ai ?_ (hy:=Or.inl ⟨by rfl,by intro w bK;obtain ⟨s1,s2⟩:=bK;go_simp⟩);refine tk 10 27 (.bool true) ai ?_ (hy:=Or.inl ⟨by rfl,by intro w bK;obtain ⟨s1,s2⟩:=bK;go_simp⟩);refine tk 11 28 (.bool true) ai ?_ (hy:=Or.inl ⟨by rfl,by intro w bK;obtain ⟨s1,s2⟩:=bK;go_simp⟩);refine tk 12 29 (undef) ai ?_ (hy:=Or.inr ⟨by kernel_rfl,rfl⟩);refine tk 13 30 (undef) ai ?_ (hy:=Or.inr ⟨by kernel_rfl,rfl⟩);refine tk 14 31 (undef) ai ?_ (hy:=Or.inr ⟨by kernel_rfl,rfl⟩);refine tk 15 32 (undef) ai ?_ (hy:=Or.inr ⟨by kernel_rfl,rfl⟩);refine tk 16 33 (undef) ai ?_ (hy:=Or.inr ⟨by kernel_rfl,rfl⟩);refine tk 17 34 (undef) ai ?_ (hy:=Or.inr ⟨by kernel_rfl,rfl⟩);refine tk 18 35 (undef) ai ?_ (hy:=Or.inr ⟨by kernel_rfl,rfl⟩);refine tk 19 36 (undef) ai ?_ (hy:=Or.inr ⟨by kernel_rfl,rfl⟩);refine tk 20 37 (undef) ai ?_ (hy:=Or.inr ⟨by kernel_rfl,rfl⟩);refine tk 21 38 (undef) ai ?_ (hy:=Or.inr ⟨by kernel_rfl,rfl⟩);refine tk 22 39 (undef) ai ?_ (hy:=Or.inr ⟨by kernel_rfl,rfl⟩);refine tk 23 40 (undef) ai ?_ (hy:=Or.inr ⟨by kernel_rfl,rfl⟩);refine tk 24 41 (.bool true) ai ?_ (hy:=Or.inl ⟨by rfl,by intro w bK;obtain ⟨s1,s2⟩:=bK;go_simp⟩);try go_frame
     refine wpAnyH_done (by kernel_rfl) ?_ _;go_wp2;go_ret;exact HF.Z
   ·obtain rfl:k=ku.length:=by omega
    have he:ku=wQ:=by rw [jX,Vn.Z,jX] at ht;exact ht
    have HF:=ae (show bH w (.bool (decide (ku=wQ))) (.returned (.bool true)) wr by rw [decide_eq_true he];exact ⟨rfl,hq⟩);clear he ht hq aX hk;go_wp2;go_ret;exact HF.Z
 ·have e0:((ku.length:Int) !=(wQ.length:Int))=true:=by simp;omega
  have dO:decide (ku=wQ)=false:=decide_eq_false (λe=>hn (by rw [e]));rw [dO];clear hn qe iI dO;go_enter Tryz.func101,Tryz.ntmps101;go_wp2;go_ret;exact ⟨rfl,ah.refl _ _⟩
structure ig (fs:FS):Prop where
 sorted:bp fs
 each:∀ p ∈ fs,0 <p.1.size/\p.1.size<=320/\p.2.length<=262144
theorem ig.nil:ig []:=⟨bp.nil,λp hp=>by simp at hp⟩
theorem ig.tdo {fs:FS} (h:ig fs) {c:eX} (hc:iF c=false):ig (tdo fs c):=by
 refine ⟨bp.tdo h.sorted c,λp hp=> ?_⟩;obtain ⟨g0,g1,g2⟩:=lI hc;unfold Go.Proofs.YtlcnhpjggjgnpaaGreatDoor.tdo at hp;split at hp
 ·exact h.each p (List.mem_filter.1 hp).1
 ·unfold dY at hp;rcases List.mem_cons.1 ((gJ _ _).mem_iff.1 hp) with rfl | hp
  ·exact ⟨g0,g1,g2⟩
  ·exact h.each p (List.mem_filter.1 hp).1
theorem ig.en:∀ (l:List eX) {fs:FS},ig fs->(∀ c ∈ l,iF c=false)->ig (en fs l)
 | [],fs,h,_=>h
 | c::l,fs,h,hc=>ig.en l (h.tdo (hc c (gw ..))) (λx hx=>hc x (nO _ hx))
theorem ig.names (h:ig fs):∀ p ∈ fs,p.1.size<=maxLen:=λp hp=>by have:=(h.each p hp).2.1;unfold maxLen;omega
theorem E3 {s:aD} (h:0 <s.size):pm ⟨#[]⟩ s=true:=by
 unfold pm;have hl:=gX s;have he:(⟨#[]⟩:aD).toList=[]:=by decide+kernel
 rw [he];cases hs:s.toList with
 | nil=>rw [hs] at hl;simp at hl;omega
 | cons x l=>rfl
theorem xN:∀ (fs:FS) (n:Int) (out:List aD),(∀ p ∈ fs,0 <p.1.size)->(out.length:Int)+fs.length<=n->gg ⟨#[]⟩ ⟨#[]⟩ n fs out=out++fs.map (·.1)
 | [],n,out,_,_=>by rw [gg];simp
 | p::fs,n,out,h,hn=>by rw [iM] at hn;rw [gg,if_neg (by omega),if_pos ⟨xE _,E3 (h p (gw ..))⟩,xN fs n _ (λx hx=>h x (nO _ hx)) (by rw [fS,List.length_singleton];omega)];simp
theorem Ty (h:ig fs):kO fs ⟨#[]⟩ ⟨#[]⟩ (fs.length:Int)=fs.map (·.1):=by unfold kO;rw [xN fs _ [] (λp hp=>(h.each p hp).1) (by simp)];rfl
def E4 (w:World) (fs:FS) (e:Ending) (w':World):Prop:=∃ v,e= .returned (.tuple #[v,.bool true])/\dM (λb=>w.heap.size<=b) w' v fs/\ak w w'
theorem dm.later (h:dm F w b fs) (hk:ak w w'):dm F w' b fs:=h.keep (hk.block b h.lt (λe=>e)) (aP.iq hk) (λ_ h _=>h)
theorem Dy (h:w.heap[t]?=some (ef j b bh)) (hm:dm F w b fs) (fK:ig fs) (hl:fs.length<=1099511627774): bF 100 #[.pointer (some ⟨t,0,none⟩)] w (E4 w fs):=by
 have cU:=λW (hk:ak w W)=>yY (hk.at h (λe=>e)) (hm.later hk);have OK:=tW h hm fK.sorted fK.names (by omega) ⟨#[]⟩ ⟨#[]⟩ (fs.length:Int);rw [Ty fK] at OK;have oC:=fK.sorted.nodup;have qL:=λW (hk:ak w W) (p:aD × aH) (hp:p ∈ fs)=>oW (hk.at h (λe=>e)) (hm.later hk) p.1 (by rw [nt oC (show (p.1,p.2) ∈ fs from hp)];have:=(fK.each p hp).2.2;simp only [Fx];omega);have yZ:=ae cU;have HK:=ae OK;have HG:=ae qL;have Yr:=ae oC;have Ob:=ae hl;have i1:(fs.length:Int)<=1099511627774:=by omega
 go_enter Tryz.func100,Tryz.ntmps100;go_wp2_with fail;refine (yZ.Z w (ah.refl _ _)).Z.mono ?_;rintro e w' ⟨rfl,rfl⟩;go_wp2_with fail;refine HK.Z.mono ?_;rintro e w1 ⟨kv,rfl,RF,bN⟩;obtain ⟨ka,kc,e⟩:=RF.aG;rw [io] at e;subst e;have HKV:=ae RF;have iW:=ae bN;go_wp2_with fail;go_loopw [4,16] (λov iv wx=>∃ k:Nat,k<=fs.length/\iv= .int .i64 (k:Int)/\gh w1.heap.size (λb=>w.heap.size<=b) wx ov (fs.take k)/\ak w1 wx) (λ_ iv _=>fs.length - (intOf iv).toNat);case atStart=>exact ⟨0,fC _,rfl,by rw [Au];exact gh.nil _ _ _,ah.refl _ _⟩
 case round=>
  obtain ⟨k,hk,rfl,ho,hq⟩:=hrel;have k0:=np k;obtain ⟨w2,zu⟩:=cE (wr);subst zu;by_cases aX:k <fs.length
  ·obtain ⟨oa,on,oc,rfl⟩:=ho.JT;obtain ⟨f,hf⟩:∃ f,fs[k]?=some f:=⟨fs[k],js aX⟩;obtain ⟨g,rfl,hc,lf,_⟩:=(HKV.Z.keep hq).cell (i:=k) (s:=f.1) (by rw [jc,hf];rfl);have k1:(k:Int) <fs.length:=by omega
   have yX:k+1<=fs.length:=by omega
   have pT:=kx hf;have hfg:=nt Yr.Z (show (f.1,f.2) ∈ fs from pT);have QG:=HG.Z w2 (iW.Z.trans hq (λ_ _ e=>e)) f pT;unfold Gv at QG;rw [hfg] at QG;have HGT:=ae QG;have HO:=ae ho;have HQ:=ae hq;have HF:=ae hf;go_wp2_with fail;refine HGT.Z.mono ?_;rintro e w3 ⟨v,rfl,hv,dN⟩;simp only [Fx,RT] at hv ⊢;obtain ⟨va,vn,vc,rfl⟩:=tX hv;have hz:=iW.Z.size;have jO:=HQ.Z.size;obtain ⟨a4,n4,c4,w4,aT,lz,eA,kh⟩:=(HO.Z.keep dN).OH (n:=f.1) (l:=f.2) (by have:=dN.size;omega) (hv.bytes.keep (aP.refl _ _) (λb hb _=>by omega)) (by rw [nM];have:=Ob.Z;omega);rw [show (f.1,f.2)=f from rfl,<-E2 HF.Z] at lz;have dE:=ae (⟨k+1,yX,rfl,lz,(HQ.Z.trans dN (λ_ _ e=>e)).trans eA (λb hb e=>by have:=kh b e;omega)⟩:∃ k':Nat,k'<=fs.length/\Value.int .i64 ((k+1:Nat):Int)= .int .i64 (k':Int)/\gh w1.heap.size (λb=>w.heap.size<=b) w4 (.slice a4 n4 c4) (fs.take k')/\ak w1 w4);have cV:=ae aT;go_wp2_with (at_builtin;(first | (refine ao (w:=w3.alloc (.cells #[.string f.1,.slice va vn vc] 257)) rfl _ _ _ _ rfl rfl rfl cV.Z ?_)));go_roundw;case rel=>exact dE.Z
   case measure=>simp [intOf];omega
  ·obtain rfl:k=fs.length:=by omega
   rw [jX] at ho;have pD:dM (λb=>w.heap.size<=b) w2 u4 fs:=ho.files (λb hb _=>hb) (λb h1 _=>by have:=iW.Z.size;omega);obtain ⟨pa,pc,rfl,-,-⟩:=pD.aG;have Gw:=yZ.Z w2 (iW.Z.trans hq (λ_ _ e=>e));have HLN:=ae Gw;have HF:=ae (⟨_,rfl,pD,iW.Z.trans hq (λ_ _ e=>e)⟩:E4 w fs (.returned (.tuple #[.slice pa fs.length pc,.bool true])) w2);go_wp2_with fail;refine HLN.Z.Z.mono ?_;rintro e w' ⟨rfl,rfl⟩;go_wp2;go_ret2;exact HF.Z
theorem MP (h:w.heap[t]?=some (ef j b bh)) (hm:dm F w b fs) (fK:ig fs) (hl:fs.length<=1099511627774) (h2:dM G w v wQ): bF 39 #[.pointer (some ⟨t,0,none⟩),v] w (bH w (.bool (decide (fs=wQ)))):=by
 have hp:=Dy h hm fK hl;obtain ⟨va,vc,rfl,-,-⟩:=h2.aG;have HP:=ae hp;have H2:=ae h2;have HL:=ae hl;obtain ⟨bv,JW⟩:∃ bv,decide (fs=wQ)=bv:=⟨_,rfl⟩;rw [JW];have HBV:=ae JW;go_enter Tryz.func39,Tryz.ntmps39;go_wp2_with fail;refine HP.Z.mono ?_;rintro e w1 ⟨pv,rfl,UU,bN⟩;have hs:=Dx UU (H2.Z.quiet (G:=G) bN (λb hb _=>hb)) (by have:=HL.Z;omega);obtain ⟨pa,pc,rfl,-,-⟩:=UU.aG;have HS:=ae hs;have HK:=ae bN;rw [HBV.Z] at HS;go_wp2_with fail;refine HS.Z.mono ?_;rintro e w2 ⟨rfl,cg⟩;have HF:=ae (HK.Z.trans cg (λ_ _ e=>e));cases bv;all_goals go_wp2_with fail
 all_goals go_ret
 all_goals exact ⟨rfl,HF.Z⟩
def kr {B:Nat} (v:Value) (fs:FS):bB B:=⟨λF w=>dM F w v fs,λ_ _ _ h hk=>h.same (λb hb=>hk b (.inl hb))⟩
theorem Own.Tz (h:Own w wr rs):Own w wr (kr (.slice none 0 0) []::rs):=
 h.add (ah.refl _ _) (r:=kr (.slice none 0 0) []) (G:=λ_=>False) (dM.nil _ _) (λb hb=>hb.elim)
theorem Own.JX (h:Own w wr rs) (hm:kr v fs ∈ rs):∃ F:Nat->Prop,dM F wr v fs:=by obtain ⟨F,hF,_⟩:=h.mem hm;exact ⟨F,hF⟩
theorem Own.rdo {lv:Value} (h:Own w wr (kr lv fs::rs)) (hs:bp fs) (hc:fu wr a l) (hl:fs.length+l.length <1099511627775) (hv:∀ x ∈ l,x.val.length<=140737488355328): bF 135 #[lv,.slice a l.length c] wr (λe w'=>∃ v',e= .returned v'/\Own w w' (kr v' (en fs l)::rs)):=by obtain ⟨F,hF,hb,Od⟩:=h.jT;refine (JV hF hs hc hl hv).mono ?_;rintro e w' ⟨v',rfl,hp,hk⟩;exact ⟨v',rfl,Od w' (kr v' (en fs l)) hk.any hp⟩
def pO (w:World) (r:Int × aH) (e:Ending) (w':World):Prop:=∃ v,e= .returned (.tuple #[v,.int .i64 r.1])/\bC w' w.heap.size v r.2/\ak w w'
theorem oZ (s:aD) (hs:s.size<=140737488355328) (W:World):∃ c w',(convert 9 22 (.string s)).run Tryz.prog W= .ok (.slice (some ⟨W.heap.size,0,none⟩) s.size c) w'/\aC w' (.slice (some ⟨W.heap.size,0,none⟩) s.size c) s.toList/\ak W w':=by refine ⟨_,_,run_bytes_of_string W 9 22 5 s Tryz.underlying9 Tryz.underlying22 Tryz.underlying5, ?_,(((ah.refl _ W).drew).alloc _)⟩;have jd:s.toList.length=s.size:=gX s;refine .inr ⟨⟨W.heap.size,0,none⟩,_,by rw [jd],by rw [jd];exact grownCap_ge _ _ _ _,grownCap_le_maxLen _ _ _ _ (by unfold maxLen;omega),λj u hu=> ?_⟩;rw [iV,fw];refine ag (heap_alloc_new W.drew _) ?_;rw [jc] at hu;obtain ⟨c,hc,rfl⟩:=Option.map_eq_some_iff.1 hu;rw [ByteArray.toList_eq] at hc;obtain ⟨hj,rfl⟩:=List.getElem?_eq_some_iff.1 hc;rw [bytesRow_at s _ j (by simpa using hj)];simp [dF]
theorem aC.aac {x:Addr} {l:aH} (h:aC w (.slice (some x) n c) l) (hk:ah F w w') (hF:¬F x.block):aC w' (.slice (some x) n c) l:=by
 rcases h with ⟨e,_⟩ | ⟨y,c',e,h1,h2,h3⟩
 ·cases e
 ·cases e;refine .inr ⟨_,_,rfl,h1,h2,λj u hu=> ?_⟩;have hc:=h3 j u hu;have hb:=wT w _ hc;have:=hk.block _ hb (by rw [add_block];exact hF);rw [kK this];exact hc
theorem gx {base:Nat} {l:aH} (h:bC w base v l):∃ a n c,v= .slice a n c:=by obtain ⟨a,c,rfl,_⟩:=h.bytes.aG;exact ⟨a,_,c,rfl⟩
theorem gi {P:Program} (W:World) {ops:Array Oper} {o:Oper} {a:Act} {K:Act->World->Prop} {Q:Exit->Act->World->Prop} {E:Prop} (hw:w=W) (hg:o.guard=none) (s x:Operand) (t tx:TypeId) (ph:o.op=Op.call {callee:=Callee.builtin Builtin.append,args:=#[s,x],argTypes:=#[t,tx]}) (sv xv:Value) {v':Value} (hs:a.eval s=sv) (hx:a.eval x=xv) (aT:(Builtin.append_ #[t,tx] o.type #[sv,xv]).run P W= .ok v' w') (hK:K (a.put o.dst v') w'):if Region.wanted o (yielded ops a.tmps)=true then Oper.wp P o a w K Q else E:=by subst hw;exact cP hg s x t tx ph hs hx aT hK
theorem xO {base:Nat} {pv:Value} {l p:aH} (hz:base<=W.heap.size) (ho:bC W base v l) (hp:aC W pv p) (hb:l.length+p.length<=140737488355328) (hw:ak w W) (Ds:w.heap.size<=base) {arr:Array Value} (hB:W.heap[B]?=some (.cells arr T (0,0))) (hT:T≠5): ∃ a n c w',(Builtin.append_ #[22,22] 22 #[v,pv]).run Tryz.prog W= .ok (.slice a n c) w'/\bC w' base (.slice a n c) (l++p)/\ak w w'/\w'.heap[B]?=some (.cells arr T (0,0))/\ ∀ (g n c:Nat) (m:aH),aC W (.slice (some ⟨g,0,none⟩) n c) m->v.ownBlock≠some g->aC w' (.slice (some ⟨g,0,none⟩) n c) m:=by obtain ⟨v',w',aT,dy,hk⟩:=ho.grow hz hp hb;obtain ⟨a,c,rfl,_,_⟩:=dy.bytes.aG;refine ⟨a,_,c,w',aT,dy,hw.trans hk (λb hb e=>by have:=du ho b e;omega),hk.at hB (λe=> ?_),λg n c m hr dO=>hr.aac hk dO⟩;obtain ⟨gp,e2⟩:=dp ho e;rw [hB] at e2;simp only [im,Obj.cells.injEq] at e2;exact hT e2.2.1
theorem Dz (h:fu w a l) (wY:l.length<=c) (hc:c<=maxLen):bF 107 #[.slice a l.length c] w (pO w (bP l)):=by
 have H:=ae h;unfold maxLen at hc;have i0:(l.length:Int)<=9223372036854775807:=by omega
 clear h wY hc;by_cases mo:256 <l.length
 ·have he:bP l=(8,[]):=by unfold bP;rw [if_pos mo]
  have j1:(256:Int) <l.length:=by omega
  rw [he];clear mo he;go_enter Tryz.func107,Tryz.ntmps107;go_wp2;go_ret2;exact ⟨_,rfl,bC.nil _ _,ah.refl _ _⟩
 have he:bP l=dR l (cz l.length):=by unfold bP;rw [if_neg mo]
 have j1:¬(256:Int) <l.length:=by omega
 have RI:=ae (λW=>zP W l.length (by omega));have dI:=dD (n:=l.length) (by omega);rw [he];have rV:=ae dI;clear he dI;go_enter Tryz.func107,Tryz.ntmps107;go_wp2_with fail;refine (RI.Z w).mono ?_;rintro e w1 ⟨cv,rfl,fT,bN⟩;have FL:=ae fT;have iW:=ae bN;clear fT bN RI;go_wp2_with fail;go_loopw [4,16] (λov iv wx=>∃ (k:Nat) (out:aH),k<=l.length/\iv= .int .i64 (k:Int)/\bC wx w.heap.size ov out/\dR l (cz l.length)=dR (l.drop k) out/\out.length<=1048568/\ak w wx) (λ_ iv _=>l.length - (intOf iv).toNat);case atStart=>exact ⟨0,_,fC _,rfl,FL.Z,rfl,by have:=rV.Z;omega,iW.Z⟩
 case round=>
  obtain ⟨k,out,hk,rfl,ho,aU,AK,hq⟩:=hrel;clear FL iW rV;have j0:=np k;obtain ⟨oa,oc,rfl,_,_⟩:=ho.bytes.aG;by_cases aX:k <l.length
  ·obtain ⟨ch,sQ⟩:∃ ch,l[k]?=some ch:=⟨l[k],js aX⟩;obtain ⟨x,p,rfl,c0,c1,c2,hp⟩:=H.Z.cells sQ;have c0:=aJ c0 hq;have c1:=aJ c1 hq;have c2:=aJ c2 hq;obtain ⟨key,gone,val⟩:=ch;dsimp only at c0 c1 c2 hp;obtain ⟨pa,pc,rfl,_,_⟩:=hp.aG;have j2:(k:Int) <l.length:=by omega
   have xJ:dR (l.drop k) out=if iF ⟨key,gone,val⟩=true then (1,[]) else if 1048568 <(out++gR ⟨key,gone,val⟩).length then (8,[]) else dR (l.drop (k+1)) (out++gR ⟨key,gone,val⟩):=by obtain ⟨uX,he⟩:=List.getElem?_eq_some_iff.1 sQ;rw [pQ uX,dR,he]
   rw [xJ] at aU;clear xJ;have o0:=np key.size;have iK:=ae aU;have HO:=ae ho;have HQ:=ae hq;have HP:=ae hp;clear aU ho hq hp hk aX sQ;go_upto_region 7 with fail;by_cases hb:iF ⟨key,gone,val⟩=true
   ·rw [if_pos hb] at iK;have cK:∀ wx,ak w wx->pO w (dR l (cz l.length)) (.returned (.tuple #[.slice none 0 0,.int .i64 1])) wx:=λwx hkx=>⟨_,by rw [iK.Z],by rw [iK.Z];exact bC.nil _ _,hkx⟩;have fk:=ae (cK _ (HQ.Z.alloc (.cells #[.string key,.bool gone,.slice pa val.length pc] 109)));unfold iF at hb;simp only [FA,decide_eq_true_eq] at hb;clear cK iK HP HO HQ AK;by_cases e0:key.size=0
    ·have b1:key.toList.isEmpty=true:=by rw [O8];exact Hm (by rw [gX];exact e0)
     clear hb e0;go_wp2;go_ret2;exact fk.Z
    ·have b1:key.toList.isEmpty=false:=by rw [<-Bool.not_eq_true,O8];exact λe=>e0 (by rw [<-gX,e];rfl)
     by_cases e1:320 <key.size
     ·have b2:decide ((320:Int) <(key.size:Int))=true:=decide_eq_true (by omega);clear hb e0 e1;go_wp2;go_ret2;exact fk.Z
     ·have b2:decide ((320:Int) <(key.size:Int))=false:=decide_eq_false (by omega);have b3:decide ((262144:Int) <(val.length:Int))=true:=decide_eq_true (by omega);clear hb e0 e1;go_wp2;go_ret2;exact fk.Z
   ·obtain ⟨b1,b2,b3⟩:key.toList.isEmpty=false/\decide ((320:Int) <(key.size:Int))=false/\decide ((262144:Int) <(val.length:Int))=false:=by obtain ⟨g0,g1,g2⟩:=lI (by simpa using hb:iF ⟨key,gone,val⟩=false);dsimp only at g0 g1 g2;exact ⟨by rw [<-Bool.not_eq_true,O8];exact λe=>by rw [<-gX,e] at g0;simp at g0,decide_eq_false (by omega),decide_eq_false (by omega)⟩
    go_upto_if 36 with fail;have hB:=heap_alloc_new wr (.cells #[.string key,.bool gone,.slice pa val.length pc] 109);have cg:ak w (wr.alloc (.cells #[.string key,.bool gone,.slice pa val.length pc] 109)):=HQ.Z.alloc _;have dy:bC (wr.alloc (.cells #[.string key,.bool gone,.slice pa val.length pc] 109)) w.heap.size (.slice oa out.length oc) out:=HO.Z.keep ((ah.refl _ wr).alloc _);have jO:(wr.alloc (.cells #[.string key,.bool gone,.slice pa val.length pc] 109)).heap.size=wr.heap.size+1:=World.size_alloc _ _;have pn:∀ b,(Value.slice oa out.length oc).ownBlock=some b->b <wr.heap.size:=λb hb=>(du HO.Z b hb).1;have q0:=ag (i:=0) hB rfl;generalize wr.alloc (.cells #[.string key,.bool gone,.slice pa val.length pc] 109)=w2 at*;generalize wr.heap.size=B at*;go_cut [4] from 37 to 57 (λv wx=>bC wx w.heap.size v (out++gR ⟨key,gone,val⟩)/\ak w wx)
    case first=>
     obtain ⟨cvC,CV,hcv⟩:∃ (cvC:World->Nat) (CV:World->World),∀ W,(convert 9 22 (.string key)).run Tryz.prog W= .ok (.slice (some ⟨W.heap.size,0,none⟩) key.size (cvC W)) (CV W)/\aC (CV W) (.slice (some ⟨W.heap.size,0,none⟩) key.size (cvC W)) key.toList/\ak W (CV W):=
      ⟨λW=>(oZ key (by have:=b2;simp at this;omega) W).choose,λW=>(oZ key (by have:=b2;simp at this;omega) W).choose_spec.choose,λW=>(oZ key (by have:=b2;simp at this;omega) W).choose_spec.choose_spec⟩
     have ml:=λW=>(hcv W).1;have Hi:=ae (show 2000000+(dP key.toList).length<=140737488355328 by have uX:=gX key;have h1:=dD (n:=key.toList.length) (by have:=of_decide_eq_false b2;omega);have:=of_decide_eq_false b2;unfold dP;rw [fS];omega);cases gone with
     | true=>
      have WH:=λ(W:World) (g:Nat) (hk:ak w2 W) (hc:W.cell? ⟨g,0,none⟩=some (.int .u8 0))=>xO (w:=w) (W:=W) (base:=w.heap.size) (v:= .slice oa out.length oc) (pv:= .slice (some ⟨g,0,none⟩) 1 1) (l:=out) (p:=[0]) (by have:=(cg.trans hk (λ_ _ e=>e)).size;omega) (dy.keep hk) (.inr ⟨_,1,rfl,eQ _,by unfold maxLen;omega,λj u hu=>by
       match j,hu with
       | 0,hu=>simp at hu;subst hu;rw [Addr.add_zero'];exact hc⟩) (by simp;omega) (cg.trans hk (λ_ _ e=>e)) (eQ _) (hk.at hB (λe=>e)) (by decide)
      have eh:∀ W:World,(W.alloc (Obj.cells #[.int .u8 0] 5)).cell? ⟨W.heap.size,0,none⟩=some (.int .u8 0):=λW=>ag (heap_alloc_new W (Obj.cells #[.int .u8 0] 5)) rfl;have q0a:(w2.alloc (Obj.cells #[.int .u8 0] 5)).drew.cell? ⟨B,0,none⟩=some (.string key):=aJ (w:=w2) q0 (((ah.refl _ w2).alloc _).drew);have A1:=ae (WH (w2.alloc (Obj.cells #[.int .u8 0] 5)).drew w2.heap.size (((ah.refl _ w2).alloc _).drew) (eh w2));have A2:=ae (WH ((CV w2.drew).alloc (Obj.cells #[.int .u8 0] 5)) (CV w2.drew).heap.size (((ah.refl _ w2).drew.trans (hcv w2.drew).2.2 (λ_ _ e=>e)).alloc _) (eh (CV w2.drew)));have A3:=ae (WH (CV (w2.alloc (Obj.cells #[.int .u8 0] 5)).drew) w2.heap.size ((((ah.refl _ w2).alloc _).drew).trans (hcv _).2.2 (λ_ _ e=>e)) (aJ (w:=(w2.alloc (Obj.cells #[.int .u8 0] 5)).drew) (eh w2) (hcv _).2.2));have HT:=ae (λ(W:World) (sv:Value) (h:aC W sv key.toList)=>wC h (by rw [gX];have:=of_decide_eq_false b2;omega));have HB:=ae (λ(W W2:World) (v1 tv:Value) (l1:aH) (h1:bC W w.heap.size v1 l1) (hl:l1.length<=2000000) (hw:ak w W) (hW:W.heap[B]?=some (.cells #[.string key,.bool true,.slice pa val.length pc] 109 (0,0))) (hk:ak W W2) (ht:aC W2 tv (dP key.toList))=>xO (w:=w) (W:=W2) (base:=w.heap.size) (v:=v1) (pv:=tv) (l:=l1) (p:=dP key.toList) (hw.trans hk (λ_ _ e=>e)).size (h1.keep hk) ht (by have:=Hi.Z;omega) (hw.trans hk (λ_ _ e=>e)) (eQ _) (hk.at hW (λe=>e)) (by decide));have HCV:=ae hcv;have Z8:=ae (show (out++[0]).length<=2000000 by simp;omega);have Vd:=ae (show (Value.slice oa out.length oc).ownBlock≠some w2.heap.size from λe=>by have:=pn _ e;omega);have Tc:=ae (show (Value.slice oa out.length oc).ownBlock≠some (w2.heap.size+1) from λe=>by have:=pn _ e;omega);have uW:=ae (show aC ((CV w2.drew).alloc (Obj.cells #[.int .u8 0] 5)) (.slice (some ⟨w2.heap.size,0,none⟩) key.size (cvC w2.drew)) key.toList from (hcv w2.drew).2.1.keep ((ah.refl _ _).alloc _));have FW:=ae (show aC (CV (w2.alloc (Obj.cells #[.int .u8 0] 5)).drew) (.slice (some ⟨w2.heap.size+1,0,none⟩) key.size (cvC (w2.alloc (Obj.cells #[.int .u8 0] 5)).drew)) key.toList by have:=(hcv (w2.alloc (Obj.cells #[.int .u8 0] 5)).drew).2.1;rw [lG,World.size_alloc] at this;exact this);clear WH hcv hb dy cg pn jO AK hB eh HP iK;go_wp2_with fail;go_region_law (first | (refine nB rfl ?_;go_simp;go_at_call 154;refine (HT.Z _ _ ?hr).mono ?_;(case hr=>first | exact (HCV.Z w3).2.1 | exact yj _ _ _ _ uW.Z Vd.Z | exact yj _ _ _ _ FW.Z Tc.Z);rintro e w4 ⟨tv,rfl,lz,eA⟩;obtain ⟨ta,tn,tc,rfl⟩:=gx lz) | (obtain ⟨a3,n3,c3,w3,jw,fy,dN,A5,yj⟩:=A1.Z;have q3:=ag (i:=0) A5 rfl;refine gi ((w2.alloc (Obj.cells #[.int .u8 0] 5)).drew) rfl rfl (.tmp 37) (.tmp 38) 22 22 rfl (.slice oa out.length oc) (.slice (some ⟨w2.heap.size,0,none⟩) 1 1) rfl rfl jw ?_) | (obtain ⟨a3,n3,c3,w3,jw,fy,dN,A5,yj⟩:=A2.Z;have q3:=ag (i:=0) A5 rfl;refine gi ((CV w2.drew).alloc (Obj.cells #[.int .u8 0] 5)) rfl rfl (.tmp 37) (.tmp 38) 22 22 rfl (.slice oa out.length oc) (.slice (some ⟨(CV w2.drew).heap.size,0,none⟩) 1 1) rfl rfl jw ?_) | (obtain ⟨a3,n3,c3,w3,jw,fy,dN,A5,yj⟩:=A3.Z;have q3:=ag (i:=0) A5 rfl;refine gi (CV (w2.alloc (Obj.cells #[.int .u8 0] 5)).drew) rfl rfl (.tmp 37) (.tmp 38) 22 22 rfl (.slice oa out.length oc) (.slice (some ⟨w2.heap.size,0,none⟩) 1 1) rfl rfl jw ?_) | (have Px:ak w3 w4:=(by first | exact eA | exact (HCV.Z w3).2.2.trans eA (λ_ _ e=>e));obtain ⟨a5,n5,c5,w5,tj,ju,fB,RG,QE⟩:=HB.Z _ _ _ _ _ fy Z8.Z dN A5 Px lz.bytes.reads;refine gi w4 rfl rfl (.tmp 39) (.tmp 43) 22 22 rfl (.slice a3 n3 c3) (.slice ta tn tc) rfl rfl tj ?_) | fail);all_goals
       go_wp2;go_meet;refine ⟨?_,fB⟩;rw [lN] at ju;exact ju
     | false=>
      go_upto_region 11 with fail;go_cut [4] from 45 to 52 (λv wx=>bC wx w.heap.size v (out++[1]++dP key.toList)/\ak w wx/\wx.heap[B]?=some (.cells #[.string key,.bool false,.slice pa val.length pc] 109 (0,0)))
      case first=>
       have WH:=λ(W:World) (g:Nat) (hk:ak w2 W) (hc:W.cell? ⟨g,0,none⟩=some (.int .u8 1))=>xO (w:=w) (W:=W) (base:=w.heap.size) (v:= .slice oa out.length oc) (pv:= .slice (some ⟨g,0,none⟩) 1 1) (l:=out) (p:=[1]) (by have:=(cg.trans hk (λ_ _ e=>e)).size;omega) (dy.keep hk) (.inr ⟨_,1,rfl,eQ _,by unfold maxLen;omega,λj u hu=>by
        match j,hu with
        | 0,hu=>simp at hu;subst hu;rw [Addr.add_zero'];exact hc⟩) (by simp;omega) (cg.trans hk (λ_ _ e=>e)) (eQ _) (hk.at hB (λe=>e)) (by decide)
       have eh:∀ W:World,(W.alloc (Obj.cells #[.int .u8 1] 5)).cell? ⟨W.heap.size,0,none⟩=some (.int .u8 1):=λW=>ag (heap_alloc_new W (Obj.cells #[.int .u8 1] 5)) rfl;have q0a:(w2.alloc (Obj.cells #[.int .u8 1] 5)).drew.cell? ⟨B,0,none⟩=some (.string key):=aJ (w:=w2) q0 (((ah.refl _ w2).alloc _).drew);have A1:=ae (WH (w2.alloc (Obj.cells #[.int .u8 1] 5)).drew w2.heap.size (((ah.refl _ w2).alloc _).drew) (eh w2));have A2:=ae (WH ((CV w2.drew).alloc (Obj.cells #[.int .u8 1] 5)) (CV w2.drew).heap.size (((ah.refl _ w2).drew.trans (hcv w2.drew).2.2 (λ_ _ e=>e)).alloc _) (eh (CV w2.drew)));have A3:=ae (WH (CV (w2.alloc (Obj.cells #[.int .u8 1] 5)).drew) w2.heap.size ((((ah.refl _ w2).alloc _).drew).trans (hcv _).2.2 (λ_ _ e=>e)) (aJ (w:=(w2.alloc (Obj.cells #[.int .u8 1] 5)).drew) (eh w2) (hcv _).2.2));have HT:=ae (λ(W:World) (sv:Value) (h:aC W sv key.toList)=>wC h (by rw [gX];have:=of_decide_eq_false b2;omega));have HB:=ae (λ(W W2:World) (v1 tv:Value) (l1:aH) (h1:bC W w.heap.size v1 l1) (hl:l1.length<=2000000) (hw:ak w W) (hW:W.heap[B]?=some (.cells #[.string key,.bool false,.slice pa val.length pc] 109 (0,0))) (hk:ak W W2) (ht:aC W2 tv (dP key.toList))=>xO (w:=w) (W:=W2) (base:=w.heap.size) (v:=v1) (pv:=tv) (l:=l1) (p:=dP key.toList) (hw.trans hk (λ_ _ e=>e)).size (h1.keep hk) ht (by have:=Hi.Z;omega) (hw.trans hk (λ_ _ e=>e)) (eQ _) (hk.at hW (λe=>e)) (by decide));have HCV:=ae hcv;have Z8:=ae (show (out++[1]).length<=2000000 by simp;omega);have Vd:=ae (show (Value.slice oa out.length oc).ownBlock≠some w2.heap.size from λe=>by have:=pn _ e;omega);have Tc:=ae (show (Value.slice oa out.length oc).ownBlock≠some (w2.heap.size+1) from λe=>by have:=pn _ e;omega);have uW:=ae (show aC ((CV w2.drew).alloc (Obj.cells #[.int .u8 1] 5)) (.slice (some ⟨w2.heap.size,0,none⟩) key.size (cvC w2.drew)) key.toList from (hcv w2.drew).2.1.keep ((ah.refl _ _).alloc _));have FW:=ae (show aC (CV (w2.alloc (Obj.cells #[.int .u8 1] 5)).drew) (.slice (some ⟨w2.heap.size+1,0,none⟩) key.size (cvC (w2.alloc (Obj.cells #[.int .u8 1] 5)).drew)) key.toList by have:=(hcv (w2.alloc (Obj.cells #[.int .u8 1] 5)).drew).2.1;rw [lG,World.size_alloc] at this;exact this);clear WH hcv hb dy cg pn jO AK hB eh iK;go_wp2_with fail;go_region_law (first | (refine nB rfl ?_;go_simp;go_at_call 154;refine (HT.Z _ _ ?hr).mono ?_;(case hr=>first | exact (HCV.Z w3).2.1 | exact yj _ _ _ _ uW.Z Vd.Z | exact yj _ _ _ _ FW.Z Tc.Z);rintro e w4 ⟨tv,rfl,lz,eA⟩;obtain ⟨ta,tn,tc,rfl⟩:=gx lz) | (obtain ⟨a3,n3,c3,w3,jw,fy,dN,A5,yj⟩:=A1.Z;have q3:=ag (i:=0) A5 rfl;refine gi ((w2.alloc (Obj.cells #[.int .u8 1] 5)).drew) rfl rfl (.tmp 45) (.tmp 46) 22 22 rfl (.slice oa out.length oc) (.slice (some ⟨w2.heap.size,0,none⟩) 1 1) rfl rfl jw ?_) | (obtain ⟨a3,n3,c3,w3,jw,fy,dN,A5,yj⟩:=A2.Z;have q3:=ag (i:=0) A5 rfl;refine gi ((CV w2.drew).alloc (Obj.cells #[.int .u8 1] 5)) rfl rfl (.tmp 45) (.tmp 46) 22 22 rfl (.slice oa out.length oc) (.slice (some ⟨(CV w2.drew).heap.size,0,none⟩) 1 1) rfl rfl jw ?_) | (obtain ⟨a3,n3,c3,w3,jw,fy,dN,A5,yj⟩:=A3.Z;have q3:=ag (i:=0) A5 rfl;refine gi (CV (w2.alloc (Obj.cells #[.int .u8 1] 5)).drew) rfl rfl (.tmp 45) (.tmp 46) 22 22 rfl (.slice oa out.length oc) (.slice (some ⟨w2.heap.size,0,none⟩) 1 1) rfl rfl jw ?_) | (have Px:ak w3 w4:=(by first | exact eA | exact (HCV.Z w3).2.2.trans eA (λ_ _ e=>e));obtain ⟨a5,n5,c5,w5,tj,ju,fB,RG,QE⟩:=HB.Z _ _ _ _ _ fy Z8.Z dN A5 Px lz.bytes.reads;refine gi w4 rfl rfl (.tmp 47) (.tmp 51) 22 22 rfl (.slice a3 n3 c3) (.slice ta tn tc) rfl rfl tj ?_) | fail);all_goals
        go_wp2;go_meet;exact ⟨ju,fB,RG⟩
      case rest=>
       obtain ⟨oy,gZ,Yg⟩:=hcut;have q6:=ag (i:=2) Yg rfl;have hp6:=HP.Z.keep gZ;have zk:val.length<=262144:=by have:=of_decide_eq_false b3;omega
       have HT:=ae (wC hp6 (by omega));have yG:(dP val).length<=300000:=by have h1:=dD (n:=val.length) (by omega);unfold dP;rw [fS];omega
       have hl6:(out++[1]++dP key.toList).length<=2100000:=by have uX:=gX key;have h1:=dD (n:=key.toList.length) (by have:=of_decide_eq_false b2;omega);have:=of_decide_eq_false b2;unfold dP;simp only [fS,iM,gN];omega
       obtain ⟨a6,n6,c6,rfl⟩:=gx oy;have HG:=ae (λ(W2:World) (tv:Value) (hk:ak wc W2) (ht:aC W2 tv (dP val))=>xO (w:=w) (W:=W2) (base:=w.heap.size) (v:= .slice a6 n6 c6) (pv:=tv) (l:=out++[1]++dP key.toList) (p:=dP val) (gZ.trans hk (λ_ _ e=>e)).size (oy.keep hk) ht (by omega) (gZ.trans hk (λ_ _ e=>e)) (eQ _) (hk.at Yg (λe=>e)) (by decide));clear oy gZ Yg hp6 yG hl6 zk hb HP iK dy cg pn jO AK hB;go_wp2_with fail;refine HT.Z.mono ?_;rintro e w7 ⟨tv,rfl,oz,jf⟩;obtain ⟨a8,n8,c8,w8,Ys,LP,zY,_,_⟩:=HG.Z w7 tv jf oz.bytes.reads;obtain ⟨ta,tn,tc,rfl⟩:=gx oz;have cV:=ae Ys;have HO8:=ae LP;have HK8:=ae zY;clear Ys LP zY oz jf HG HT;go_wp2_with (first | (at_builtin;refine ao rfl _ _ _ _ rfl rfl rfl cV.Z ?_));go_meet;refine ⟨?_,HK8.Z⟩;have:=HO8.Z;simp only [lN] at this;exact this
    case rest=>
     obtain ⟨oy,gZ⟩:=hcut;obtain ⟨n6,N6⟩:=cE ((out++gR ⟨key,gone,val⟩).length);obtain ⟨a6,c6,rfl,_,_⟩:=oy.bytes.aG;have aU:=iK.Z;rw [if_neg hb] at aU;rw [<-N6] at aU oy ⊢;clear iK HP HO HQ dy cg pn jO AK hb b1 b2 b3 q0 hB;by_cases hl:1048568 <n6
     ·rw [if_pos hl] at aU;have bl:decide ((1048568:Int) <(n6:Int))=true:=decide_eq_true (by omega);clear hl N6;go_wp2;go_ret2;exact ⟨_,rfl,bC.nil _ _,gZ⟩
     ·rw [if_neg hl] at aU;have bl:decide ((1048568:Int) <(n6:Int))=false:=decide_eq_false (by omega);have dE:=ae (⟨k+1,out++gR ⟨key,gone,val⟩,by omega,rfl,oy,aU,by omega,gZ⟩:∃ (k':Nat) (out':aH),k'<=l.length/\Value.int .i64 ((k+1:Nat):Int)= .int .i64 (k':Int)/\bC wc w.heap.size (.slice a6 n6 c6) out'/\dR l (cz l.length)=dR (l.drop k') out'/\out'.length<=1048568/\ak w wc);clear oy aU gZ N6 hl;go_wp2;go_roundw;case rel=>exact dE.Z
      case measure=>simp [intOf];omega
  ·obtain rfl:k=l.length:=by omega
   rw [pR] at aU;have cK:pO w (dR l (cz l.length)) (.returned (.tuple #[.slice oa out.length oc,.int .i64 0])) wr:=⟨_,by rw [aU];rfl,by rw [aU];exact ho,hq⟩;have fk:=ae cK;clear cK aU ho hq AK aX hk;go_wp2;go_ret2;exact fk.Z
structure TM where
 m:DM
 size:Nat
 fs:FS
 bh:Bool
def bL (t:TM) (nm:aD) (l:List eX):Int × TM:=
 if t.bh=true then (5,t)
 else if (bP l).1=0 then
  (if (ci t.m nm t.size (bP l).2).1=0 then
   (if (aV (ci t.m nm t.size (bP l).2).2.1).1=0 then (0,⟨(aV (ci t.m nm t.size (bP l).2).2.1).2,(ci t.m nm t.size (bP l).2).2.2,en t.fs l,false⟩)
    else ((aV (ci t.m nm t.size (bP l).2).2.1).1,⟨(aV (ci t.m nm t.size (bP l).2).2.1).2,(ci t.m nm t.size (bP l).2).2.2,t.fs,(aV (ci t.m nm t.size (bP l).2).2.1).1==5⟩))
   else ((ci t.m nm t.size (bP l).2).1,⟨(ci t.m nm t.size (bP l).2).2.1,(ci t.m nm t.size (bP l).2).2.2,t.fs,(ci t.m nm t.size (bP l).2).1==5⟩))
 else ((bP l).1,⟨t.m,t.size,t.fs,(bP l).1==5⟩)
def bO {B:Nat} (d j t b:Nat) (nm:aD) (T:TM):List (bB B):=[bk d T.m,aA j (ej d nm T.size),aA t (ef j b T.bh),nU b T.fs]
def E5 (w:World) (d j t b:Nat) (nm:aD) (rs:List (bB w.heap.size)) (r:Int × TM) (e:Ending) (w':World):Prop:=e= .returned (.int .i64 r.1)/\Own w w' (bO d j t b nm r.2++rs)
theorem Own.A6 {x y:bB w.heap.size} {dn:Bool} (h:Own w wr (x::y::aA t (ef j b dn)::rs)) (dn':Bool):Own w (wr.setCell ⟨t,2,none⟩ (.bool dn')) (x::y::aA t (ef j b dn')::rs):=
 (h.third.store 2 (.bool dn')).Sr
theorem Own.adb {j t:bB w.heap.size} (h:Own w wr (d::j::t::m::rs)):Own w wr (m::t::d::j::rs):=by have h1:=Own.pull (l₁:=[d,j,t]) h;exact (Own.pull (l₁:=[m,d,j]) h1).swap
theorem Own.ade {j t:bB w.heap.size} (h:Own w wr (m::t::d::j::rs)):Own w wr (d::j::t::m::rs):=by have h1:=Own.pull (l₁:=[m]) h;have h2:=Own.pull (l₁:=[t,m,d]) h1;exact Own.pull (l₁:=[j,t,m]) h2
theorem xP {m:DM} (h:Good m n) (nm:aD) (size:Nat) (p:aH):Good (ci m nm size p).2.1 (n+1):=by
 unfold ci;split
 ·exact h.mono (by omega)
 ·split <;>exact h.append nm (bu p)
theorem nb {d:Nat} {nm:aD} {T:TM} (h:Own w w0 (bO d j t b nm T++rs)) (hg:Good T.m n) (hn:n <549755813888) (hs:T.size<=1099511627776) (hm:∀ (wr:World) (ls:List (bB w.heap.size)),Own w wr (ls++rs)->fu wr a l) (wY:l.length<=c) (hc:c<=maxLen): bF 42 #[.pointer (some ⟨t,0,none⟩),.slice a l.length c] w0 (E5 w d j t b nm rs (bL T nm l)):=by
 obtain ⟨m,size,fs,bh⟩:=T;dsimp only at hg hs;have h0:Own w w0 (bk d m::aA j (ej d nm size)::aA t (ef j b bh)::nU b fs::rs):=h;have mj:=Tq (h0.at (b:=t) (o:=ef j b bh) (by simp)).1;obtain ⟨R,hR⟩:=exp (bL ⟨m,size,fs,bh⟩ nm l);have HR:=ae hR;rw [hR];unfold bL at HR;dsimp only at HR;have H0:=ae h0;have RJ:=ae mj;have HG:=ae hg;have HEN:=ae (Dz (hm w0 [_,_,_,_] h0) wY hc);have HM:=ae hm;have HLC:=ae wY;have HN:=ae hn;have HS:=ae hs;cases bh with
 | true=>
  rw [if_pos rfl] at HR;have HF:=ae (show E5 w d j t b nm rs R (.returned (.int .i64 5)) w0 by rw [<-HR.Z];exact ⟨rfl,H0.Z⟩);go_enter Tryz.func42,Tryz.ntmps42;go_wp2_with (first | (go_at_call 106;refine RJ.Z.Z.mono ?_;rintro e w' ⟨rfl,rfl⟩));go_ret;exact HF.Z
 | false=>
  rw [if_neg (by simp)] at HR;go_enter Tryz.func42,Tryz.ntmps42;go_wp2_with (first | (go_at_call 106;refine RJ.Z.Z.mono ?_;rintro e w' ⟨rfl,rfl⟩));refine HEN.Z.mono ?_;rintro e w1 ⟨v,rfl,hv,hk⟩;obtain ⟨va,vc,rfl,_,_⟩:=hv.bytes.aG;have h1:=H0.Z.quiet hk;have DA:=jH (h1.at (b:=t) (o:=ef j b false) (by simp)).1;have H1:=ae h1;have HV:=ae hv;obtain ⟨t10,_,t12,t13⟩:=DA;have t1f:=t13 2;by_cases he:(bP l).1=0
  ·rw [if_pos he] at HR;have AF:=ae (C9 H1.Z HG.Z HN.Z HS.Z HV.Z.bytes.reads);have Rt:=ae (xP HG.Z nm size (bP l).2);have HE:=ae (p6 he);generalize ci m nm size (bP l).2=A at HR AF Rt;rw [he];generalize (bP l).2=rec at AF HV ⊢;obtain ⟨ac,am,az⟩:=A;dsimp only at HR Rt;go_wp2_with fail;refine AF.Z.mono ?_;rintro e w2 ⟨rfl,h2⟩;dsimp only at h2;obtain ⟨t20,_,t22,t23⟩:=jH (h2.at (b:=t) (o:=ef j b false) (by simp)).1;have t2f:=t23 2;have H2:=ae h2;dsimp only;by_cases hac:ac=0
   ·subst hac;rw [if_pos rfl] at HR;have om:=ae (IZ H2.Z Rt.Z);generalize aV am=S at HR om;obtain ⟨sc,sm⟩:=S;dsimp only at HR;go_wp2_with fail;refine om.Z.mono ?_;rintro e w3 ⟨rfl,h3⟩;dsimp only at h3;obtain ⟨t30,_,t32,t33⟩:=jH (h3.at (b:=t) (o:=ef j b false) (by simp)).1;have t3f:=t33 2;have H3:=ae h3;dsimp only;by_cases hsc:sc=0
    ·subst hsc;rw [if_pos rfl] at HR;have vB:=B5 (Own.adb H3.Z) (a:=a) (c:=c) (l:=l) (λwr ls h=>HM.Z wr (ls++[_,_]) (by rw [lN];exact h)) (by have:=HE.Z.1;omega) (λx hx=>by have:=(lI (HE.Z.2.2.1 x hx)).2.2;omega);have uG:=ae vB;go_wp2_with fail;refine uG.Z.mono ?_;rintro e w4 ⟨rfl,h4⟩;have h5:=Own.ade h4;obtain ⟨t40,_,t42,t43⟩:=jH (h5.at (b:=t) (o:=ef j b false) (by simp)).1;have t4f:=t43 2;have HF:=ae (show E5 w d j t b nm rs R (.returned (.int .i64 0)) (w4.setCell ⟨t,2,none⟩ (.bool false)) by rw [<-HR.Z];exact ⟨rfl,h5.A6 _⟩);go_wp2;go_ret;exact HF.Z
    ·rw [if_neg hsc] at HR;have EU:(sc==0)=false:=by simpa using hsc
     have HF:=ae (show E5 w d j t b nm rs R (.returned (.int .i64 sc)) (w3.setCell ⟨t,2,none⟩ (.bool (sc==5))) by rw [<-HR.Z];exact ⟨rfl,H3.Z.A6 _⟩);go_wp2;go_ret;exact HF.Z
   ·rw [if_neg hac] at HR;have EU:(ac==0)=false:=by simpa using hac
    have HF:=ae (show E5 w d j t b nm rs R (.returned (.int .i64 ac)) (w2.setCell ⟨t,2,none⟩ (.bool (ac==5))) by rw [<-HR.Z];exact ⟨rfl,H2.Z.A6 _⟩);go_wp2;go_ret;exact HF.Z
  ·rw [if_neg he] at HR;have EU:((bP l).1==0)=false:=by simpa using he
   have HF:=ae (show E5 w d j t b nm rs R (.returned (.int .i64 (bP l).1)) (w1.setCell ⟨t,2,none⟩ (.bool ((bP l).1==5))) by rw [<-HR.Z];exact ⟨rfl,H1.Z.A6 _⟩);generalize (bP l).1=ec at EU HF ⊢;generalize (bP l).2=rec at HV ⊢;go_wp2;go_ret;exact HF.Z
def bY:aD:=⟨#[116]⟩
theorem xQ:bU bY=true/\bU (bj bY)=true:=by
 constructor
 ·simp [bU,bY];rfl
 ·have h1:(bj bY).toList=[116,43]:=by decide+kernel
  have h2:(bj bY).size=2:=by decide+kernel
  simp [bU,h1,h2]
def jL (aR:Int) (b:aH):DM:={eS aR with aN:=[(bY,b)],sure:=[(bY,b)],aw:=[]}
theorem tY (aR:Int):ct (eS aR) bY=⟨0,jL aR [],some ([],0)⟩:=by
 have h1:aO (eS aR) bY=(0,{eS aR with aN:=[(bY,[])],aw:=[⟨0,bY,⟨#[]⟩,[]⟩]}):=by rw [Calm.fY ⟨rfl,rfl⟩ xQ.1 rfl (by simp [eS])];rfl
 have h2:cA (cB bY) (eS aR)=(0,jL aR []):=by
  unfold cB cA;simp only [h1,if_true];unfold cA;have h3:aV {eS aR with aN:=[(bY,[])],aw:=[⟨0,bY,⟨#[]⟩,[]⟩]}=(0,jL aR []):=by simp [aV,eS,lU,aS,jL,bW,dY,bV,gY]
  simp only [h3,if_true];rfl
 unfold ct;rw [if_pos xQ,if_pos (by simp [aF,eS,aZ]),h2];rfl
theorem tZ (aR:Int):bI (eS aR) bY=⟨0,jL aR [],some (0,[])⟩:=by unfold bI;rw [tY];rfl
theorem xR:∀ (l:List eX) (out:aH),(∀ c ∈ l,iF c=false)->out.length+(l.map gR).flatten.length<=1048568->(dR l out).1=0
 | [],out,_,_=>rfl
 | c::l,out,h,hl=>by rw [kz,List.flatten_cons,fS] at hl;rw [dR,if_neg (by rw [h c (gw ..)];simp),if_neg (by rw [fS];omega)];exact xR l _ (λx hx=>h x (nO _ hx)) (by rw [fS];omega)
theorem TA (hl:l.length<=256) (h:∀ c ∈ l,iF c=false) (hs:10+(l.map gR).flatten.length<=1048568):(bP l).1=0:=by unfold bP;rw [if_neg (by omega)];exact xR l _ h (by have:=dD (n:=l.length) (by omega);omega)
theorem xS {base e size:Nat} {xs:List Value} (h:w.ownsRow base e size v n xs):w.ownsRow 0 e size v n xs:=by obtain ⟨h1,h2⟩:=h;refine ⟨h1,h2.imp id ?_⟩;rintro ⟨g,cap,gp,rfl,hg,rest⟩;exact ⟨g,cap,gp,rfl,fC _,rest⟩
open Go.RowKit Go.MapKept Go.Deep
theorem E6 {α:Type} {P:Nat->α->Prop}:∀ (n:Nat),(∀ i,i <n->∃ c,P i c)->∃ l:List α,l.length=n/\∀ i c,l[i]?=some c->P i c
 | 0,_=>⟨[],rfl,λi c h=>by simp at h⟩
 | n+1,h=>by
  obtain ⟨l,h1,h2⟩:=E6 n (λi hi=>h i (by omega));obtain ⟨c,hc⟩:=h n (by omega);refine ⟨l++[c],by rw [fS,List.length_singleton,h1],λi x hx=> ?_⟩;rw [List.getElem?_append] at hx;split at hx
  ·exact h2 i x hx
  ·rename_i hi;have:i - l.length=0:=by
    cases hk:i - l.length with
    | zero=>rfl
    | succ k=>rw [hk] at hx;simp at hx
   rw [this] at hx;simp at hx;subst hx;have:i=n:=by omega
   rw [this];exact hc
section
variable {H:Type} {enc:TypeId × Value->H}
theorem TB {y:DataW H × List MemPlace} (h:DataW.trod enc Tryz.prog W 0 (λ_=>true) true n 4 [v]=some y):∃ b:Bool,v= .bool b:=by obtain ⟨b,hb,_⟩:=DataW.trod_bool Tryz.underlying4 h;simp at hb;exact ⟨b,hb⟩
theorem WI {len cap:Nat} {d:DataW H} {p:List MemPlace} (h:DataW.Trod enc Tryz.prog W 0 (λ_=>true) true 65 (.slice a len cap) d p):len<=cap/\cap<=maxLen/\∃ l:List eX,l.length=len/\fu W a l:=by obtain ⟨h1,h2,h3⟩:=vY Tryz.underlying65 Tryz.underlying162 (by kernel_rfl) (by kernel_rfl) h;refine ⟨h1,h2,E6 (P:=λi (c:eX)=>∃ x p,a=some x/\W.cell? (x.add (i*3))=some (.string c.key)/\W.cell? (x.add (i*3+1))=some (.bool c.gone)/\W.cell? (x.add (i*3+2))=some p/\aC W p c.val) len (λi hi=> ?_)⟩;obtain ⟨x,rfl,hf⟩:=h3 i hi;obtain ⟨v0,_,_,k0,n0,t0⟩:=hf 0 _ rfl;obtain ⟨v1,_,_,k1,n1,t1⟩:=hf 1 _ rfl;obtain ⟨v2,_,_,k2,n2,t2⟩:=hf 2 _ rfl;obtain ⟨s0,rfl,_⟩:=Mh t0;obtain ⟨b1,rfl⟩:=TB t1;obtain ⟨l2,r2⟩:=Em t2;exact ⟨⟨s0,b1,l2⟩,x,v2,rfl,k0,k1,k2,r2⟩
end
theorem E7 {m:Nat} (hb:n+m*2 ^ (7*k) <18446744073709551616):IntKind.u64.wrap ((n:Int)+IntKind.u64.wrap ((m:Int)*2 ^ (7*k)))=((n+m*2 ^ (7*k):Nat):Int):=by
 have e:(m:Int)*2 ^ (7*k)=((m*2 ^ (7*k):Nat):Int):=by simp
 have hw:IntKind.u64.wrap ((m*2 ^ (7*k):Nat):Int)=((m*2 ^ (7*k):Nat):Int):=by rw [IntKind.wrap_u64];omega
 rw [e,hw,IntKind.wrap_u64];omega
theorem qM {b:aH} (h:aC w v b):bF 174 #[v] w (bH w (ET (bT b))):=by
 obtain ⟨a,c,rfl,iL,gy⟩:=h.aG;have H:=ae h;unfold maxLen at gy;have jl:(b.length:Int)<=9223372036854775807:=by omega
 clear h iL gy;go_enter Tryz.func174,Tryz.ntmps174;go_wp2_with fail;go_loopw [5,6] (λnv iv wr=>∃ k n:Nat,k<=b.length/\k<=9/\n <2 ^ (7*k)/\iv= .int .i64 (k:Int)/\nv= .int .u64 (n:Int)/\bT b=jJ (b.drop k) k n/\ak w wr) (λ_ i _=>b.length - (intOf i).toNat);case atStart=>exact ⟨0,0,fC _,by omega,by simp,rfl,rfl,rfl,ah.refl _ _⟩
 case round=>
  obtain ⟨k,n,hk,xA,hn,rfl,rfl,hr,hq⟩:=hrel;have j0:=np k;have HQ:=ae hq;by_cases aX:k <b.length
  ·obtain ⟨x,rfl,hx⟩:=(H.Z.keep hq).cell rfl aX;have bG:=OA aX hr;have sD:=b[k].toNat_lt;have hp:=Te xA;generalize b[k].toNat=z at hx bG sD;have j1:(k:Int) <b.length:=by omega
   have z0:=np z;have z1:(z:Int) <256:=by omega
   clear hr hq;by_cases hA:k=9/\1 <z
   ·rw [if_pos (.inl hA)] at bG;obtain ⟨rfl,h1⟩:=hA;have ez:(1:Int) <z:=by omega
    have Z0:(9:Int) <b.length:=by omega
    simp only [Addr.add_succ'] at hx;clear hn hp sD j0 j1 hk xA h1;go_wp2;go_ret3;exact ⟨by rw [bG];rfl,HQ.Z⟩
   by_cases h0:0 <k/\z=0
   ·rw [if_pos (.inr h0)] at bG;obtain ⟨h01,rfl⟩:=h0;have k1:(0:Int) <k:=by omega
    clear hn hp sD hA z0 z1;by_cases e9:k=9
    ·subst e9;have Z0:(9:Int) <b.length:=by omega
     simp only [Addr.add_succ'] at hx;clear j0 j1 hk xA k1;go_wp2;go_ret3;exact ⟨by rw [bG];rfl,HQ.Z⟩
    ·have e9':¬(k:Int)=9:=by omega
     clear e9;go_wp2;go_ret3;exact ⟨by rw [bG];rfl,HQ.Z⟩
   rw [if_neg (by rintro (h | h);exact hA h;exact h0 h)] at bG;by_cases e9:k=9
   ·subst e9;obtain rfl:z=1:=by omega
    have Z0:(9:Int) <b.length:=by omega
    have Wp:(2:Nat) ^ (7*9)=9223372036854775808:=by decide
    have JI:=E7 (n:=n) (m:=1) (k:=9) (by rw [Wp];rw [Wp] at hn;omega);have Tf:IntKind.u64.wrap ((n:Int)+IntKind.u64.wrap 9223372036854775808)=((n+9223372036854775808:Nat):Int):=by rw [Wp] at JI;simpa using JI
    have hw:IntKind.u64.wrap 9223372036854775808=9223372036854775808:=by decide
    have Tg:=Tf;rw [hw] at Tg;rw [if_pos (by omega),Wp,Nat.one_mul] at bG;simp only [Addr.add_succ'] at hx;clear hn hp sD j0 j1 hk xA hA h0 JI Wp z0 z1;generalize n+9223372036854775808=n2 at Tf Tg bG;go_wp2;go_ret3;exact ⟨by rw [bG];rfl,HQ.Z⟩
   have hand:(z:Int) % 128=((z % 128:Nat):Int):=by omega
   have e9':¬(k:Int)=9:=by omega
   have JI:=E7 (n:=n) (m:=z % 128) (k:=k) (by
    have:=Ho (2 ^ (7*k)) (show z % 128<=127 by omega);have h2:2 ^ (7*(k+1))<=2 ^ (7*9):=K5 (by omega) (by omega);have JC:(2:Nat) ^ (7*9)=9223372036854775808:=by decide
    rw [JC,zQ] at h2;omega)
   have qw:n+(z % 128)*2 ^ (7*k) <2 ^ (7*(k+1)):=by have:=Ho (2 ^ (7*k)) (show z % 128<=127 by omega);rw [zQ];omega
   have k9:k+1<=9:=by omega
   have kl:k+1<=b.length:=by omega
   generalize n+(z % 128)*2 ^ (7*k)=n2 at JI bG qw;have k8:(k:Int)<=8:=by omega
   generalize hm:z % 128=m at hand JI;have m0:=np m;have m1:(m:Int) <128:=by omega
   by_cases hz:z <128
   ·obtain rfl:z=m:=by omega
    have z2:(z:Int) <128:=by omega
    rw [if_pos hz] at bG;by_cases P9:z=0
    ·obtain rfl:k=0:=by omega
     subst P9;have Th:IntKind.u64.wrap ((n:Int)+IntKind.u64.wrap 0)=(n2:Int):=by simpa using JI
     have ac6:IntKind.u64.wrap (n:Int)=(n2:Int):=by
      have:IntKind.u64.wrap 0=0:=by decide
      rw [this] at Th;simpa using Th
     simp only [Addr.add_zero'] at hx;have Z0:(0:Int) <b.length:=by omega
     clear hn hp sD hm hz hA h0 e9 z0 z1 z2 qw JI hand k9 kl hk xA j0 j1 k8 m0 m1;go_wp2;go_ret3;exact ⟨by rw [bG];rfl,HQ.Z⟩
    ·have ac7:¬(z:Int)=0:=by omega
     clear hn hp sD hm hz hA h0 e9 qw hk xA P9 k9 kl;go_wp2_with fail;all_goals go_ret3
     all_goals exact ⟨by rw [bG];rfl,HQ.Z⟩
   ·have z2:¬(z:Int) <128:=by omega
    rw [if_neg hz] at bG;have dE:=ae (⟨k+1,n2,kl,k9,qw,rfl,rfl,bG,HQ.Z⟩:∃ k' n':Nat,k'<=b.length/\k'<=9/\n' <2 ^ (7*k')/\Value.int .i64 ((k+1:Nat):Int)= .int .i64 (k':Int)/\Value.int .u64 (n2:Int)= .int .u64 (n':Int)/\bT b=jJ (b.drop k') k' n'/\ak w wr);clear hn hp sD hm hz hA h0 e9 qw hk xA k9 kl bG HQ;go_wp2_with fail;all_goals
     go_roundw;case rel=>exact dE.Z
     case measure=>simp [intOf];omega
  ·obtain rfl:k=b.length:=by omega
   rw [pR] at hr;clear hk hn xA hq;go_wp2;go_ret3;exact ⟨by rw [hr];rfl,HQ.Z⟩
theorem si {b:aH} (h:aC w v b) (hb:b.length<=1099511627776) (most:Nat) (hm:most<=1048576):bF 175 #[v,.int .i64 (most:Int)] w (wD w (bg b most)):=by
 have HC:=ae (qM h);have lf:=mf b;have aX:=oo b;obtain ⟨n,u,e,hr⟩:∃ n u e,bT b=(n,u,e):=⟨_,_,_,rfl⟩;have MD:bg b most=if e=0 then (if most <n then ([],0,8) else if b.length - u <n then ([],0,9) else ((b.drop u).take n,u+n,0)) else ([],0,e):=by unfold bg;rw [hr]
 rw [hr] at HC lf aX;simp only at lf aX;obtain ⟨a,c,rfl,iL,gy⟩:=h.aG;have H:=ae h;unfold maxLen at gy;have i1:(b.length:Int)<=1099511627776:=by omega
 have i2:(u:Int)<=b.length:=by omega
 have i3:(n:Int) <18446744073709551616:=by omega
 have i4:=np n;have m0:(0:Int)<=most:=by omega
 have m1:(most:Int)<=1048576:=by omega
 have hwm:IntKind.u64.wrap (most:Int)=most:=by rw [IntKind.wrap_u64];omega
 obtain ⟨d,hd⟩:∃ d:Nat,(b.length:Int) - (u:Int)=(d:Int):=⟨b.length - u,by omega⟩;have hdd:b.length - u=d:=by omega
 have d1:(d:Int)<=1099511627776:=by omega
 rw [hdd] at MD;have sH:=ae MD;have HDD:=ae hdd;clear hdd;clear h MD aX;go_enter Tryz.func175,Tryz.ntmps175;go_wp2_with fail;refine HC.Z.mono ?_;rintro e1 w1 ⟨rfl,bN⟩;have iW:=ae bN;clear bN HC;unfold ET;clear hr lf hb hm;by_cases he:e=0
 ·subst he;rw [if_pos rfl] at sH;by_cases h8:most <n
  ·rw [if_pos h8] at sH;have j8:(most:Int) <n:=by omega
   clear h8 iL gy;go_wp2;go_ret3;exact ⟨_,by rw [sH.Z];rfl,by rw [sH.Z];exact bC.nil _ _,iW.Z⟩
  rw [if_neg h8] at sH;have j8:decide (most <n)=false:=by simpa using h8
  have j8':(n:Int)<=most:=by omega
  have HJ8:=ae j8';clear j8';by_cases h9:d <n
  ·rw [if_pos h9] at sH;have j9:(d:Int) <n:=by omega
   clear h8 h9 iL gy i3;go_wp2;go_ret3;exact ⟨_,by rw [sH.Z];rfl,by rw [sH.Z];exact bC.nil _ _,iW.Z⟩
  rw [if_neg h9] at sH;have j9:decide (d <n)=false:=by simpa using h9
  have hdd:=HDD.Z;have i6:(u:Int)+n<=b.length:=by omega
  have n1:(n:Int)<=1048576:=by have:=HJ8.Z;omega
  have hwn:IntKind.i64.wrap (n:Int)=n:=by simp [IntKind.wrap,IntKind.bits,IntKind.signed];omega
  have HN:=ae (show u+n<=b.length by omega);have Vd:=ae (show n<=1048576 by omega);clear h8 h9 hdd iL gy i3;go_wp2_with fail;go_loopw [10,11] (λov iv wx=>∃ k:Nat,k<=n/\iv= .int .i64 (k:Int)/\bC wx w.heap.size ov ((b.drop u).take k)/\ak w wx) (λ_ iv _=>n - (intOf iv).toNat);case atStart=>exact ⟨0,fC _,rfl,by rw [Au];exact bC.nil _ _,iW.Z⟩
  case round=>
   obtain ⟨k,hk,rfl,ho,hq⟩:=hrel;obtain ⟨oa,on,oc,rfl⟩:=gx ho;have k0:=np k;by_cases aX:k <n
   ·have hub:=HN.Z;obtain ⟨x,rfl,hx⟩:=(H.Z.keep hq).cell rfl (show u+k <b.length by omega);have k1:(k:Int) <n:=by omega
    have k2:(u:Int)+k <b.length:=by omega
    have hsn:(b.drop u).take (k+1)=(b.drop u).take k++[b[u+k]]:=by rw [ym,O6,js (by omega)];rfl
    have cU:((b.drop u).take k).length=k:=by rw [nM,iN];omega
    generalize b[u+k]=z at hx hsn;obtain ⟨v',w3,aT,fy,dN⟩:=bC.grow (wr:=wr.alloc (.cells #[.int .u8 (z.toNat:Int)] 5)) (by rw [World.size_alloc];have:=hq.size;omega) (ho.keep ((ah.refl (λ_=>False) wr).alloc _)) (gP wr z) (by simp;omega);obtain ⟨va,vn,vc,rfl⟩:=gx fy;have eA:ak w w3:=(hq.trans ((ah.refl (λ_=>False) wr).alloc _) (λ_ _ e=>e)).trans dN (λb hb e=>by have:=du ho b e;omega);rw [<-hsn] at fy;have cV:=ae aT;have dE:=ae (⟨k+1,by omega,rfl,fy,eA⟩:∃ k':Nat,k'<=n/\Value.int .i64 ((k+1:Nat):Int)= .int .i64 (k':Int)/\bC w3 w.heap.size (.slice va vn vc) ((b.drop u).take k')/\ak w w3);clear aT fy dN eA hsn cU ho hq hk aX hub;go_wp2_with (first | (at_builtin;refine ao rfl _ _ _ _ rfl rfl rfl cV.Z ?_));go_roundw;case rel=>exact dE.Z
    case measure=>simp [intOf];omega
   ·obtain rfl:k=n:=by omega
    have hx9:IntKind.i64.wrap ((u:Int)+k)=((u+k:Nat):Int):=by simp [IntKind.wrap,IntKind.bits,IntKind.signed];omega
    have HF:=ae (⟨_,by rw [sH.Z],by rw [sH.Z];exact ho,hq⟩:wD w (bg b most) (.returned (.tuple #[.slice oa on oc,.int .i64 ((u+k:Nat):Int),.int .i64 0])) wr);clear ho hq hk aX;go_wp2;go_ret3;exact HF.Z
 ·rw [if_neg he] at sH;have EU:(e !=0)=true:=by simpa using he
  clear he iL gy;go_wp2;go_ret3;exact ⟨_,by rw [sH.Z];rfl,by rw [sH.Z];exact bC.nil _ _,iW.Z⟩
theorem o6:(Tryz.prog.info? 162).map (λi=>(i.zero,i.size,i.bytes))=some (some (.agg #[.string ⟨#[]⟩,.bool false,.slice none 0 0]),3,48):=by kernel_rfl
theorem DB {b:aH} (h:aC w v b) (hb:b.length<=1099511627776):bF 175 #[v,.int .i64 320] w (wD w (bg b 320)):=si h hb 320 (by omega)
theorem DC {b:aH} (h:aC w v b) (hb:b.length<=1099511627776):bF 175 #[v,.int .i64 262144] w (wD w (bg b 262144)):=si h hb 262144 (by omega)
def jz (w:World) (r:Option (List eX)) (e:Ending) (w':World):Prop:=∃ v,e= .returned (.tuple #[v,.int .i64 (if r.isSome=true then 0 else 10)])/\ak w w'/\∀ l,r=some l->eG 162 w.heap.size w' v l
theorem jz.no {wx:World} {r:Option (List eX)} (hr:r=none) (hk:ak w wx):jz w r (.returned (.tuple #[.slice none 0 0,.int .i64 10])) wx:=by subst hr;exact ⟨_,rfl,hk,λl hl=>by cases hl⟩
theorem DD {b:aH} (h:aC w v b) (hb:b.length<=1099511627776):bF 134 #[v] w (jz w (ja b)):=by
 have HC:=ae (qM h);have lf:=mf b;have aX:=oo b;obtain ⟨n,u,e,hr⟩:∃ n u e,bT b=(n,u,e):=⟨_,_,_,rfl⟩;have hd:ja b=if e=0/\n<=256 then eY n (b.drop u) [] else none:=by unfold ja;rw [hr]
 rw [hr] at HC lf aX;simp only at lf aX;obtain ⟨a,c,rfl,iL,gy⟩:=h.aG;have H:=ae h;have HD:=ae hd;have oi:=ae hb;unfold maxLen at gy;have i1:(b.length:Int)<=1099511627776:=by omega
 have i4:=np n;have Yk:=ae lf;clear h hd aX hb iL gy lf hr;go_enter Tryz.func134,Tryz.ntmps134;go_wp2_with fail;refine HC.Z.mono ?_;rintro e1 w1 ⟨rfl,bN⟩;have iW:=ae bN;clear bN HC;unfold ET;by_cases he:e=0
 ·subst he;by_cases hn:256 <n
  ·have hd:=HD.Z;rw [if_neg (by omega)] at hd;have j1:(256:Int) <n:=by omega
   have HF:=ae (jz.no hd iW.Z);clear hd hn;go_wp2;go_ret2;exact HF.Z
  have hd:=HD.Z;rw [if_pos ⟨rfl,by omega⟩] at hd;have KY:=ae hd;have j1:¬(256:Int) <n:=by omega
  have n1:(n:Int)<=256:=by omega
  clear hd hn;go_wp2_with fail;go_loopw [7,8,9] (λav ov iv wx=>∃ (k p:Nat) (out:List eX),k<=n/\iv= .int .i64 (k:Int)/\av= .int .i64 (p:Int)/\p<=b.length/\out.length=k/\ja b=eY (n - k) (b.drop p) out/\eG 162 w.heap.size wx ov out/\ak w wx) (λ_ _ iv _=>n - (intOf iv).toNat);case atStart=>exact ⟨0,u,[],fC _,rfl,rfl,Yk.Z,rfl,KY.Z,eG.nil _ _ _,iW.Z⟩
  case round=>
   obtain ⟨k,p,out,hk,rfl,rfl,hp,AK,aU,ho,hq⟩:=hrel;clear HD KY iW Yk;have k0:=np k;have p0:(0:Int)<=p:=by omega
   obtain ⟨oa,oc,rfl⟩:=ho.aG;by_cases aX:k <n
   ·have j2:(k:Int) <n:=by omega
    rw [xH aX] at aU;have bN:k+1<=n:=by omega
    by_cases kL:p=b.length
    ·subst kL;rw [pR] at aU;have HF:=ae (jz.no aU hq);clear aU ho hq aX hk AK hp oi;go_wp2;go_ret2;exact HF.Z
    ·have p1:(p:Int) <b.length:=by omega
     have p2:¬(b.length:Int)<=p:=by omega
     obtain ⟨x,rfl,hx⟩:=(H.Z.keep hq).cell rfl (show p <b.length by omega);rw [pQ (show p <b.length by omega)] at aU;have hzl:=b[p].toNat_lt;generalize b[p]=z at hx hzl aU;by_cases iH:1 <z.toNat
     ·rw [oY,if_pos iH] at aU;have HF:=ae (jz.no aU hq);have j3:(1:Int) <z.toNat:=by omega
      clear aU ho hq aX hk AK iH hzl hp kL oi;go_wp2;go_ret2;exact HF.Z
     ·obtain ⟨gone,hgo⟩:∃ gone:Bool,((z.toNat:Int)==0)=gone:=⟨_,rfl⟩;have hgn:(z.toNat=0)↔gone=true:=by rw [<-hgo];simp
      have j3:¬(1:Int) <z.toNat:=by omega
      rw [oY,if_neg iH] at aU;obtain ⟨a1,d1,zp,bM⟩:=oX H.Z (p+1) (by omega);obtain ⟨n9,Vo⟩:=exp (b.length - (p+1));rw [Vo] at zp bM;have abJ:∀ W,(Instr.sliceAt 22 (.slice (some x) b.length c) (some (.int .i64 ((p:Int)+1))) none none).run Tryz.prog W= .ok (.slice a1 n9 d1) W:=by
       have e1:((p+1:Nat):Int)=(p:Int)+1:=by omega
       rw [<-e1];exact zp
      obtain ⟨kb,u1,ec,MD⟩:∃ kb u1 ec,bg (b.drop (p+1)) 320=(kb,u1,ec):=⟨_,_,_,rfl⟩;have xI:=lH (b.drop (p+1)) 320;rw [MD] at aU xI;simp only at aU xI;have hB:=heap_alloc_new wr (.cells #[.string ⟨#[]⟩,.bool gone,.slice none 0 0] 162);have MQ:ak w (wr.alloc (.cells #[.string ⟨#[]⟩,.bool gone,.slice none 0 0] 162)):=hq.trans ((ah.refl _ wr).alloc _) (λ_ _ e=>e);have sH:=ae (DB (w:=wr.alloc (.cells #[.string ⟨#[]⟩,.bool gone,.slice none 0 0] 162)) (bM.keep MQ) (by rw [iN];have:=oi.Z;omega));rw [MD] at sH;have lQ:(b.drop (p+1)).length=b.length - (p+1):=iN;have uu0:(0:Int)<=u1:=by omega
      have uu2:(p:Int)+1+u1<=b.length:=by omega
      have HP3:=ae (show p+1+u1<=b.length by omega);have iK:=ae aU;have HO:=ae ho;have HQ:=ae hq;have HB:=ae hB;have OG:=ae AK;have Z6:=ae hgn;clear MD xI aU ho hq hB iH hzl AK hgn zp bM MQ Vo lQ hp kL hk aX;generalize (z.toNat:Int)=zi at hx hgo j3;go_wp2_with fail;refine sH.Z.mono ?_;rintro e w2 ⟨kv,rfl,fK,C1⟩;obtain ⟨ka,kc,rfl,-,-⟩:=fK.bytes.aG;have p7:=ae fK;have CR:=ae C1;have RE:=ae ((HQ.Z.alloc _).trans C1 (λ_ _ e=>e));clear fK C1 sH;by_cases fK:ec=0/\kb≠ []
      ·obtain ⟨rfl,qB⟩:=fK;have aU:=iK.Z;rw [if_pos ⟨rfl,qB⟩] at aU;have qU:((kb.length:Int)==0)=false:=by have:=List.length_pos_iff.2 qB;simp;intro e;rw [e] at this;simp at this
       have hcv:=aC.str (w:=w2) p7.Z.bytes.reads;have uV:=CR.Z.at HB.Z (λe=>e);have cg:ak wr w2:=((ah.refl _ wr).alloc _).trans CR.Z (λ_ _ e=>e);have q0:w2.cell? ⟨wr.heap.size,0,none⟩=some (.string ⟨#[]⟩):=ag (i:=0) uV rfl;have f0:w2.frozen? ⟨wr.heap.size,0,none⟩=false:=cL uV 0;have A5:=bf (w:=w2) uV 0 (.string ⟨kb.toArray⟩);have dN:ak wr (w2.setCell ⟨wr.heap.size,0,none⟩ (.string ⟨kb.toArray⟩)):=cg.setCell (λh=>absurd h (Nat.lt_irrefl _)) _;have q1:=ag (i:=0) A5 rfl;have q2:=ag (i:=1) A5 rfl;have q3:=ag (i:=2) A5 rfl;rw [K8] at aU;cases gone with
       | true=>
        rw [if_pos (Z6.Z.2 rfl)] at aU;have jP:=HP3.Z;obtain ⟨a7,k7,w7,jS,oz,jf,Hg⟩:=eG.push (T:=162) (Ts:=65) o6 Tryz.underlying65 (by decide) (c:=⟨⟨kb.toArray⟩,true,[]⟩) HO.Z HQ.Z.size dN (bC.nil _ _) (by have:=OG.Z;omega);have sR:ak w w7:=(HQ.Z.trans dN (λ_ _ e=>e)).trans jf (λb hb e=>by have:=Hg b e;omega);have dE:=ae (⟨k+1,p+1+u1,out++[⟨⟨kb.toArray⟩,true,[]⟩],bN,rfl,rfl,jP,by simp;exact OG.Z,aU,oz,sR⟩:∃ (k' p':Nat) (out':List eX),k'<=n/\Value.int .i64 ((k+1:Nat):Int)= .int .i64 (k':Int)/\Value.int .i64 ((p+1+u1:Nat):Int)= .int .i64 (p':Int)/\p'<=b.length/\out'.length=k'/\ja b=eY (n - k') (b.drop p') out'/\eG 162 w.heap.size w7 (.slice a7 (out.length+1) k7) out'/\ak w w7);dsimp only at jS;rw [World.size_setCell] at jS;have cV:=ae jS;clear aU qB uV cg A5 dN iK p7 CR HB jS oz jf Hg sR HP3 jP Z6 HO HQ oi;go_wp2_with (first | (at_builtin;refine ao (w:=(w2.setCell ⟨wr.heap.size,0,none⟩ (.string ⟨kb.toArray⟩)).alloc (.cells #[.string ⟨kb.toArray⟩,.bool true,.slice none 0 0] 162)) rfl _ _ _ _ rfl rfl rfl cV.Z ?_));go_roundw;case rel=>exact dE.Z
        case measure=>simp [intOf];omega
       | false=>
        have hz:¬z.toNat=0:=λh=>absurd (Z6.Z.1 h) (by simp);rw [if_neg hz] at aU;have abP:ak w (w2.setCell ⟨wr.heap.size,0,none⟩ (.string ⟨kb.toArray⟩)):=HQ.Z.trans dN (λ_ _ e=>e);obtain ⟨a4,d4,QH,hr4⟩:=oX H.Z (p+1+u1) HP3.Z;have Gw:b.length - (p+1+u1)=(b.drop (p+1+u1)).length:=by rw [iN]
        rw [Gw] at QH hr4;have adf:∀ W,(Instr.sliceAt 22 (.slice (some x) b.length c) (some (.int .i64 ((p:Int)+1+(u1:Int)))) none none).run Tryz.prog W= .ok (.slice a4 (b.drop (p+1+u1)).length d4) W:=by
         have e1:((p+1+u1:Nat):Int)=(p:Int)+1+(u1:Int):=by omega
         rw [<-e1];exact QH
        obtain ⟨n4,hn4⟩:=exp ((b.drop (p+1+u1)).length);rw [hn4] at adf hr4;have WC:=ae (DC (hr4.keep abP) (by rw [iN];have:=oi.Z;omega));have xI:=lH (b.drop (p+1+u1)) 262144;obtain ⟨vb,u5,ev,hrv⟩:∃ vb u5 ev,bg (b.drop (p+1+u1)) 262144=(vb,u5,ev):=⟨_,_,_,rfl⟩;rw [hrv] at WC aU xI;simp only at aU xI;have lQ:(b.drop (p+1+u1)).length=b.length - (p+1+u1):=iN;have jP:p+1+u1+u5<=b.length:=by have:=HP3.Z;omega
        have v0:(0:Int)<=u5:=by omega
        have v1:(p:Int)+1+u1+u5<=b.length:=by omega
        rw [K8] at aU;have xK:=ae aU;have HAT:=ae jP;have Ye:=ae A5;have pU:=ae dN;clear hrv aU xI hr4 QH Gw hn4 lQ jP hz qB uV cg A5 dN iK p7 CR HB abP HP3;go_wp2_with fail;refine WC.Z.mono ?_;rintro e w4 ⟨vv,rfl,Tt,RF⟩;obtain ⟨va,vc,rfl,-,-⟩:=Tt.bytes.aG;have QF:=RF.at Ye.Z (λe=>e);have eA:ak wr w4:=pU.Z.trans RF (λ_ _ e=>e);have r2:w4.cell? ⟨wr.heap.size,2,none⟩=some (.slice none 0 0):=ag (i:=2) QF rfl;have f2:w4.frozen? ⟨wr.heap.size,2,none⟩=false:=cL QF 2;have fB:ak wr (w4.setCell ⟨wr.heap.size,2,none⟩ (.slice va vb.length vc)):=eA.setCell (λh=>absurd h (Nat.lt_irrefl _)) _;have MJ:ah (λb=>b=wr.heap.size) w4 (w4.setCell ⟨wr.heap.size,2,none⟩ (.slice va vb.length vc)):=ah.setCell (p:=⟨wr.heap.size,2,none⟩) (ah.refl (λb=>b=wr.heap.size) w4) (λ_=>rfl) _;have sR:ak w (w4.setCell ⟨wr.heap.size,2,none⟩ (.slice va vb.length vc)):=HQ.Z.trans fB (λ_ _ e=>e);have RG:=bf QF 2 (.slice va vb.length vc);have ju:bC (w4.setCell ⟨wr.heap.size,2,none⟩ (.slice va vb.length vc)) wr.heap.size (.slice va vb.length vc) vb:=by refine bC.base (lx Tt MJ (λb hb e=> ?_)) pU.Z.size;subst e;obtain ⟨gp,e2⟩:=dp Tt hb;rw [QF] at e2;simp only [im,Obj.cells.injEq] at e2;exact absurd e2.2.1 (by decide)
        by_cases RH:ev=0
        ·subst RH;have aU:=xK.Z;rw [if_pos rfl] at aU;have jP:=HAT.Z;have s1:=ag (i:=0) RG rfl;have s2:=ag (i:=1) RG rfl;have s3:=ag (i:=2) RG rfl;obtain ⟨a7,k7,w7,jS,oz,jf,Hg⟩:=eG.push (T:=162) (Ts:=65) o6 Tryz.underlying65 (by decide) (c:=⟨⟨kb.toArray⟩,false,vb⟩) HO.Z HQ.Z.size fB ju (by have:=OG.Z;omega);have sR:ak w w7:=sR.trans jf (λb hb e=>by have:=Hg b e;omega);have dE:=ae (⟨k+1,p+1+u1+u5,out++[⟨⟨kb.toArray⟩,false,vb⟩],bN,rfl,rfl,jP,by simp;exact OG.Z,aU,oz,sR⟩:∃ (k' p':Nat) (out':List eX),k'<=n/\Value.int .i64 ((k+1:Nat):Int)= .int .i64 (k':Int)/\Value.int .i64 ((p+1+u1+u5:Nat):Int)= .int .i64 (p':Int)/\p'<=b.length/\out'.length=k'/\ja b=eY (n - k') (b.drop p') out'/\eG 162 w.heap.size w7 (.slice a7 (out.length+1) k7) out'/\ak w w7);dsimp only at jS;rw [World.size_setCell] at jS;have cV:=ae jS;clear aU jS oz jf Hg sR jP Z6 HO HQ oi fB RG ju MJ eA QF Tt RF WC xK HAT pU Ye RE;go_wp2_with (first | (at_builtin;refine ao (w:=(w4.setCell ⟨wr.heap.size,2,none⟩ (.slice va vb.length vc)).alloc (.cells #[.string ⟨kb.toArray⟩,.bool false,.slice va vb.length vc] 162)) rfl _ _ _ _ rfl rfl rfl cV.Z ?_));go_roundw;case rel=>exact dE.Z
         case measure=>simp [intOf];omega
        ·have aU:=xK.Z;rw [if_neg RH] at aU;have HF:=ae (jz.no aU (HQ.Z.trans eA (λ_ _ e=>e)));have EU:(ev !=0)=true:=by simpa using RH
         clear aU RH fB RG ju sR MJ eA QF Tt RF WC xK;go_wp2;go_ret2;exact HF.Z
      ·have aU:=iK.Z;rw [if_neg fK] at aU;have HF:=ae (jz.no aU RE.Z);clear aU;by_cases h0:ec=0
       ·subst h0;have qB:kb=[]:=by
         cases kb with
         | nil=>rfl
         | cons y ys=>exact absurd ⟨rfl,by simp⟩ fK
        subst qB;clear fK;go_wp2;go_ret2;exact HF.Z
       ·have EU:(ec !=0)=true:=by simpa using h0
        clear fK h0;go_wp2;go_ret2;exact HF.Z
   ·obtain rfl:k=n:=by omega
    rw [CZ,eY] at aU;have HF:=ae (show jz w (ja b) (.returned (.tuple #[.slice oa out.length oc,.int .i64 0])) wr\/p≠b.length from by
     by_cases kL:p=b.length
     ·rw [kL,pR,if_pos rfl] at aU;refine .inl ?_;rw [aU];exact ⟨_,rfl,hq,λl hl=>by cases hl;exact ho⟩
     ·exact .inr kL)
    have rp:=ae (show p≠b.length->jz w (ja b) (.returned (.tuple #[.slice none 0 0,.int .i64 10])) wr from λkL=>by rw [if_neg (λe=>kL (by have:=List.drop_eq_nil_iff.1 e;omega))] at aU;exact jz.no aU hq)
    clear aU ho hq aX hk AK oi;by_cases kL:p=b.length
    ·have Vp:=ae (HF.Z.resolve_right (λh=>h kL));subst kL;clear HF rp hp;go_wp2;go_ret2;exact Vp.Z
    ·have Vp:=ae (rp.Z kL);have ox:((p:Int) !=(b.length:Int))=true:=by simp;omega
     clear HF rp hp kL;go_wp2;go_ret2;exact Vp.Z
 ·have hd:=HD.Z;rw [if_neg (λh=>he h.1)] at hd;have EU:(e !=0)=true:=by simpa using he
  have HF:=ae (jz.no hd iW.Z);clear he hd;go_wp2;go_ret2;exact HF.Z
theorem DE (h:fu w a l) (wY:l.length<=c) (hc:c<=maxLen):bF 179 #[.slice a l.length c] w (pO w (bP l)):=by
 have H:=ae h;unfold maxLen at hc;have i0:(l.length:Int)<=9223372036854775807:=by omega
 clear h wY hc;by_cases mo:256 <l.length
 ·have he:bP l=(8,[]):=by unfold bP;rw [if_pos mo]
  have j1:(256:Int) <l.length:=by omega
  rw [he];clear mo he;go_enter Tryz.func179,Tryz.ntmps179;go_wp2;go_ret2;exact ⟨_,rfl,bC.nil _ _,ah.refl _ _⟩
 have he:bP l=dR l (cz l.length):=by unfold bP;rw [if_neg mo]
 have j1:(l.length:Int)<=256:=by omega
 have RI:=ae (λW=>xy W l.length (by omega));have dI:=dD (n:=l.length) (by omega);rw [he];have rV:=ae dI;clear he dI mo;go_enter Tryz.func179,Tryz.ntmps179;go_wp2_with fail;refine (RI.Z w).mono ?_;rintro e w1 ⟨cv,rfl,fT,bN⟩;have FL:=ae fT;have iW:=ae bN;clear fT bN RI;go_wp2_with fail;go_loopw [4,5] (λov iv wx=>∃ (k:Nat) (out:aH),k<=l.length/\iv= .int .i64 (k:Int)/\bC wx w.heap.size ov out/\dR l (cz l.length)=dR (l.drop k) out/\out.length<=1048568/\ak w wx) (λ_ iv _=>l.length - (intOf iv).toNat);case atStart=>exact ⟨0,_,fC _,rfl,FL.Z,rfl,by have:=rV.Z;omega,iW.Z⟩
 case round=>
  obtain ⟨k,out,hk,rfl,ho,aU,AK,hq⟩:=hrel;clear FL iW rV;have j0:=np k;obtain ⟨oa,on,oc,rfl⟩:=gx ho;by_cases aX:k <l.length
  ·obtain ⟨ch,sQ⟩:∃ ch,l[k]?=some ch:=⟨l[k],js aX⟩;obtain ⟨x,p,rfl,c0,c1,c2,hp⟩:=H.Z.cells sQ;have xJ:dR (l.drop k) out=if iF ch=true then (1,[]) else if 1048568 <(out++gR ch).length then (8,[]) else dR (l.drop (k+1)) (out++gR ch):=by obtain ⟨uX,he⟩:=List.getElem?_eq_some_iff.1 sQ;rw [pQ uX,dR,he]
   rw [xJ] at aU;clear xJ;obtain ⟨key,gone,val⟩:=ch;dsimp only at c0 c1 c2 hp;obtain ⟨pa,pc,rfl,-,-⟩:=hp.aG;have CC:=ae (λ(W:World) (hk:ak w W)=>(⟨aJ c0 hk,aJ c1 hk,aJ c2 hk⟩:W.cell? (x.add (k*3))=some (.string key)/\W.cell? {block:=(x.add (k*3)).block,off:=(x.add (k*3)).off+1}=some (.bool gone)/\W.cell? {block:=(x.add (k*3)).block,off:=(x.add (k*3)).off+2}=some (.slice pa val.length pc)));obtain ⟨q0,q1,q2⟩:=CC.Z wr hq;have j2:(k:Int) <l.length:=by omega
   have bN:k+1<=l.length:=by omega
   have o0:=np key.size;have o1:=np val.length;have iK:=ae aU;have HO:=ae ho;have HQ:=ae hq;have HP:=ae hp;have OG:=ae AK;clear aU ho hq hp hk aX sQ AK c0 c1 c2;by_cases hb:iF ⟨key,gone,val⟩=true
   ·rw [if_pos hb] at iK;have fk:=ae (⟨_,by rw [iK.Z],by rw [iK.Z];exact bC.nil _ _,HQ.Z⟩:pO w (dR l (cz l.length)) (.returned (.tuple #[.slice none 0 0,.int .i64 1])) wr);unfold iF at hb;simp only [FA,decide_eq_true_eq] at hb;clear iK HP HO HQ OG;by_cases e0:key.size=0
    ·have b1:key.toList.isEmpty=true:=by rw [O8];exact Hm (by rw [gX];exact e0)
     clear hb e0;go_wp2;go_ret2;exact fk.Z
    ·have b1:key.toList.isEmpty=false:=by rw [<-Bool.not_eq_true,O8];exact λe=>e0 (by rw [<-gX,e];rfl)
     by_cases e1:320 <key.size
     ·have b2:decide ((320:Int) <(key.size:Int))=true:=decide_eq_true (by omega);clear hb e0 e1;go_wp2;go_ret2;exact fk.Z
     ·have b2:decide ((320:Int) <(key.size:Int))=false:=decide_eq_false (by omega);have b3:decide ((262144:Int) <(val.length:Int))=true:=decide_eq_true (by omega);clear hb e0 e1;go_wp2;go_ret2;exact fk.Z
   ·rw [if_neg hb] at iK;obtain ⟨g0,g1,g2⟩:=lI (by simpa using hb:iF ⟨key,gone,val⟩=false);dsimp only at g0 g1 g2;have b1:key.toList.isEmpty=false:=by rw [<-Bool.not_eq_true,O8];exact λe=>by rw [<-gX,e] at g0;simp at g0
    have b2:decide ((320:Int) <(key.size:Int))=false:=decide_eq_false (by omega);have b3:decide ((262144:Int) <(val.length:Int))=false:=decide_eq_false (by omega);have qU:(dP key.toList).length<=400:=by have uX:=gX key;have h1:=dD (n:=key.toList.length) (by omega);unfold dP;rw [fS];omega
    have zk:(dP val).length<=300000:=by have h1:=dD (n:=val.length) (by omega);unfold dP;rw [fS];omega
    -- the kind
    obtain ⟨kb,qB⟩:∃ kb:UInt8,(if gone=true then (0:UInt8) else 1)=kb:=⟨_,rfl⟩;have FP:∃ v' w',(Builtin.append_ #[22,22] 22 #[.slice oa on oc,.slice (some ⟨wr.heap.size,0,none⟩) 1 1]).run Tryz.prog (wr.alloc (.cells #[.int .u8 (kb.toNat:Int)] 5))= .ok v' w'/\bC w' w.heap.size v' (out++[kb])/\ak w w':=by obtain ⟨v',w',h1,h2,h3⟩:=bC.grow (wr:=wr.alloc (.cells #[.int .u8 (kb.toNat:Int)] 5)) (by rw [World.size_alloc];have:=HQ.Z.size;omega) (HO.Z.keep ((ah.refl (λ_=>False) wr).alloc _)) (gP wr kb) (by have:=OG.Z;simp;omega);exact ⟨v',w',h1,h2,(HQ.Z.trans ((ah.refl (λ_=>False) wr).alloc _) (λ_ _ e=>e)).trans h3 (λb hb e=>by have:=du HO.Z b e;omega)⟩
    obtain ⟨v2,w2,CP,dy,cg⟩:=FP;obtain ⟨a2,n2,R1,rfl⟩:=gx dy;obtain ⟨cc,w3,hcv,WJ,dN⟩:=oZ key (by omega) w2;have Z5:=zS WJ (by rw [gX];omega);obtain ⟨r0,r1,r2⟩:=CC.Z w2 cg;have uW:=ae CP;have Yt:=ae Z5;have HG3:=ae (λ(W:World) (tv:Value) (hk:ak w3 W) (ht:aC W tv (dP key.toList))=>(dy.keep (dN.trans hk (λ_ _ e=>e))).more (w:=w) ((cg.trans (dN.trans hk (λ_ _ e=>e)) (λ_ _ e=>e)).size) ht (by have:=OG.Z;simp;omega) (cg.trans (dN.trans hk (λ_ _ e=>e)) (λ_ _ e=>e)) (eQ _));have Jj:=ae zk;have Hi:=ae qU;have Rt:=ae g2;clear CP dy cg WJ dN Z5 hb g0 g1 g2 qU zk HO HQ;cases gone with
    | true=>
     obtain rfl:(0:UInt8)=kb:=qB;go_wp2_with (first | (at_builtin;refine ao rfl _ _ _ _ rfl rfl rfl uW.Z ?_) | fail);refine Yt.Z.mono ?_;rintro e w4 ⟨tv,rfl,lz,eA⟩;obtain ⟨v5,w5,QE,ju,fB⟩:=HG3.Z w4 tv eA lz.bytes.reads;obtain ⟨ta,tn,tc,rfl⟩:=gx lz;obtain ⟨s0,s1,s2⟩:=CC.Z w5 fB;clear uW Yt HG3 hcv r0 r1 r2 q0 q1 q2 lz eA;have aU:=iK.Z;have he:out++[0]++dP key.toList=out++gR ⟨key,true,val⟩:=by simp [gR]
     rw [he] at ju;obtain ⟨n9,Vo⟩:=cE ((out++gR ⟨key,true,val⟩).length);obtain ⟨a9,c9,rfl,-,-⟩:=ju.bytes.aG;rw [<-Vo] at aU ju QE;have EY:=ae QE;clear iK HP OG CC Hi Jj Rt he QE;by_cases hl:1048568 <n9
     ·rw [if_pos hl] at aU;have bl:decide ((1048568:Int) <(n9:Int))=true:=decide_eq_true (by omega);have fk:=ae (⟨_,by rw [aU],by rw [aU];exact bC.nil _ _,fB⟩:pO w (dR l (cz l.length)) (.returned (.tuple #[.slice none 0 0,.int .i64 8])) _);clear hl Vo ju fB aU;go_wp2_with (first | (at_builtin;refine ao rfl _ _ _ _ rfl rfl rfl EY.Z ?_) | fail);go_ret2;exact fk.Z
     ·rw [if_neg hl] at aU;have bl:decide ((1048568:Int) <(n9:Int))=false:=decide_eq_false (by omega);have HO9:=ae ju;have HK9:=ae fB;have RL:=ae aU;have HN9:=ae (show (out++gR ⟨key,true,val⟩).length<=1048568 by omega);clear hl Vo ju fB aU;go_wp2_with (first | (at_builtin;refine ao rfl _ _ _ _ rfl rfl rfl EY.Z ?_) | fail);go_roundw;case rel=>exact ⟨k+1,out++gR ⟨key,true,val⟩,bN,rfl,HO9.Z,RL.Z,HN9.Z,HK9.Z⟩
      case measure=>simp [intOf];omega
    | false=>
     obtain rfl:(1:UInt8)=kb:=qB;go_wp2_with (first | (at_builtin;refine ao rfl _ _ _ _ rfl rfl rfl uW.Z ?_) | fail);refine Yt.Z.mono ?_;rintro e w4 ⟨tv,rfl,lz,eA⟩;obtain ⟨v5,w5,QE,ju,fB⟩:=HG3.Z w4 tv eA lz.bytes.reads;obtain ⟨ta,tn,tc,rfl⟩:=gx lz;obtain ⟨a5,n5,c5,rfl⟩:=gx ju;obtain ⟨s0,s1,s2⟩:=CC.Z w5 fB;have S8:=ae (zS (HP.Z.keep fB) (by have:=Rt.Z;omega));have HG5:=ae (λ(W:World) (tv:Value) (hk:ak w5 W) (ht:aC W tv (dP val))=>(ju.keep hk).more (w:=w) ((fB.trans hk (λ_ _ e=>e)).size) ht (by have:=OG.Z;have:=Hi.Z;have:=Jj.Z;simp only [fS,iM,gN];omega) (fB.trans hk (λ_ _ e=>e)) (eQ _));have HR5:=ae QE;clear uW Yt HG3 hcv r0 r1 r2 q0 q1 q2 lz eA QE ju fB;go_wp2_with (first | (at_builtin;refine ao rfl _ _ _ _ rfl rfl rfl HR5.Z ?_) | fail);refine S8.Z.mono ?_;rintro e w6 ⟨tv,rfl,oy,gZ⟩;obtain ⟨v7,w7,On,oz,jf⟩:=HG5.Z w6 tv gZ oy.bytes.reads;obtain ⟨ta,tn,tc,rfl⟩:=gx oy;obtain ⟨t0,t1,t2⟩:=CC.Z w7 jf;clear HR5 S8 HG5 s0 s1 s2 oy gZ;have aU:=iK.Z;have he:out++[1]++dP key.toList++dP val=out++gR ⟨key,false,val⟩:=by simp [gR]
     rw [he] at oz;obtain ⟨n9,Vo⟩:=cE ((out++gR ⟨key,false,val⟩).length);obtain ⟨a9,c9,rfl,-,-⟩:=oz.bytes.aG;rw [<-Vo] at aU oz On;have EY:=ae On;clear iK HP OG CC Hi Jj Rt he On;by_cases hl:1048568 <n9
     ·rw [if_pos hl] at aU;have bl:decide ((1048568:Int) <(n9:Int))=true:=decide_eq_true (by omega);have fk:=ae (⟨_,by rw [aU],by rw [aU];exact bC.nil _ _,jf⟩:pO w (dR l (cz l.length)) (.returned (.tuple #[.slice none 0 0,.int .i64 8])) _);clear hl Vo oz jf aU;go_wp2_with (first | (at_builtin;refine ao rfl _ _ _ _ rfl rfl rfl EY.Z ?_) | fail);go_ret2;exact fk.Z
     ·rw [if_neg hl] at aU;have bl:decide ((1048568:Int) <(n9:Int))=false:=decide_eq_false (by omega);have HO9:=ae oz;have HK9:=ae jf;have RL:=ae aU;have HN9:=ae (show (out++gR ⟨key,false,val⟩).length<=1048568 by omega);clear hl Vo oz jf aU;go_wp2_with (first | (at_builtin;refine ao rfl _ _ _ _ rfl rfl rfl EY.Z ?_) | fail);go_roundw;case rel=>exact ⟨k+1,out++gR ⟨key,false,val⟩,bN,rfl,HO9.Z,RL.Z,HN9.Z,HK9.Z⟩
      case measure=>simp [intOf];omega
  ·obtain rfl:k=l.length:=by omega
   rw [pR] at aU;have fk:=ae (⟨_,by rw [aU];rfl,by rw [aU];exact ho,hq⟩:pO w (dR l (cz l.length)) (.returned (.tuple #[.slice oa on oc,.int .i64 0])) wr);clear aU ho hq AK aX hk;go_wp2;go_ret2;exact fk.Z
theorem DF (h:dM F w v fs) (hl:fs.length<=1099511627775) (hd af:aD) (n:Int):bF 138 #[v,.string hd,.string af,.int .i64 n] w (qK w (kO fs hd af n)):=by
 obtain ⟨pa,pc,rfl,-,-⟩:=h.aG;have H:=ae h;have i1:(fs.length:Int)<=1099511627775:=by omega
 go_enter Tryz.func138,Tryz.ntmps138;go_wp2_with fail;go_loopw [9,10] (λov iv wx=>∃ (k:Nat) (out:List aD),k<=fs.length/\iv= .int .i64 (k:Int)/\out.length<=k/\kO fs hd af n=gg hd af n (fs.drop k) out/\ed w.heap.size wx ov out/\ak w wx) (λ_ iv _=>fs.length - (intOf iv).toNat);case atStart=>exact ⟨0,[],fC _,rfl,eQ _,rfl,ed.nil _ _,ah.refl _ _⟩
 case round=>
  obtain ⟨k,out,hk,rfl,cU,aU,ho,hq⟩:=hrel;have k0:=np k;obtain ⟨oa,oc,rfl⟩:=ho.aG;by_cases aX:k <fs.length
  ·obtain ⟨f,hf⟩:∃ f,fs[k]?=some f:=⟨fs[k],js aX⟩;obtain ⟨g,cap,p,e,iL,gy,hB⟩:=(H.Z.quiet hq (λb hb _=>hb)).cell hf;simp only [Value.slice.injEq] at e;obtain ⟨rfl,-,rfl⟩:=e;rw [vH hf out] at aU;have k1:(k:Int) <fs.length:=by omega
   have bN:k+1<=fs.length:=by omega
   by_cases hN:n<=(out.length:Int)
   ·rw [if_pos hN] at aU;have fk:=ae (⟨_,rfl,by rw [aU];exact ho,hq⟩:qK w (kO fs hd af n) (.returned (.slice oa out.length oc)) wr);go_wp2;go_ret;exact fk.Z
   rw [if_neg hN] at aU;have hN2:(out.length:Int) <n:=by omega
   have L5:=λW=>rG f.1 hd W;have JY:=ae L5;by_cases wP:cH f.1 hd=true/\pm af f.1=true
   ·rw [if_pos wP] at aU;obtain ⟨wP,b3⟩:=wP;obtain ⟨b3,b4⟩:=JR b3;rw [wP] at JY;obtain ⟨a2,c2,w2,aT,dy,cg,kh⟩:=ho.push hq.size f.1 (by omega);have iI:=hq.trans cg (λb hb e=>by have:=kh b e;omega);have cV:=ae aT;have dE:=ae (⟨k+1,out++[f.1],bN,rfl,by simp;omega,aU,by rw [show (out++[f.1]).length=out.length+1 by simp];exact dy,iI⟩:∃ (k':Nat) (out':List aD),k'<=fs.length/\Value.int .i64 ((k+1:Nat):Int)= .int .i64 (k':Int)/\out'.length<=k'/\kO fs hd af n=gg hd af n (fs.drop k') out'/\ed w.heap.size w2 (.slice a2 ((out++[f.1]).length) c2) out'/\ak w w2);go_wp2_with fail;refine (JY.Z _).Z.mono ?_;rintro e w' ⟨rfl,rfl⟩;go_wp2_with (at_builtin;(first | (refine ao (w:=wr.alloc (.cells #[.string f.1] 9)) rfl _ _ _ _ rfl rfl rfl cV.Z ?_)));go_roundw;case rel=>have h:=dE.Z;simp only [fS,iM,gN,fw] at h;exact h
    case measure=>simp [intOf];omega
   ·rw [if_neg wP] at aU;have dE:=ae (⟨k+1,out,bN,rfl,by omega,aU,ho,hq⟩:∃ (k':Nat) (out':List aD),k'<=fs.length/\Value.int .i64 ((k+1:Nat):Int)= .int .i64 (k':Int)/\out'.length<=k'/\kO fs hd af n=gg hd af n (fs.drop k') out'/\ed w.heap.size wr (.slice oa out.length oc) out'/\ak w wr);cases hb:cH f.1 hd with
    | false=>
     rw [hb] at JY;go_wp2_with fail;refine (JY.Z _).Z.mono ?_;rintro e w' ⟨rfl,rfl⟩;go_wp2;go_roundw;case rel=>exact dE.Z
     case measure=>simp [intOf];omega
    | true=>
     rw [hb] at JY;have b3:pm af f.1=false:=by
      cases yt:pm af f.1 with
      | false=>rfl
      | true=>exact absurd ⟨hb,yt⟩ wP
     go_wp2_with fail;refine (JY.Z _).Z.mono ?_;rintro e w' ⟨rfl,rfl⟩;cases b4:Op.bytesLess f.1.toList af.toList with
     | true=>
      go_wp2;go_roundw;case rel=>exact dE.Z
      case measure=>simp [intOf];omega
     | false=>
      have b5:=E1 b3 b4;go_wp2;go_roundw;case rel=>exact dE.Z
      case measure=>simp [intOf];omega
  ·obtain rfl:k=fs.length:=by omega
   rw [pR] at aU;have fk:=ae (⟨_,rfl,by rw [aU];exact ho,hq⟩:qK w (kO fs hd af n) (.returned (.slice oa out.length oc)) wr);go_wp2;go_ret;exact fk.Z

end Go.Proofs.YtlcnhpjggjgnpaaGreatDoor