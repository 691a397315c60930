/- A part of the proof. -/
import Derived.Test.YtlcnhpjggjgnpaaGreatDoorUpla0
import Derived.Shelf.SlMaps.Clone
import Derived.Lib.SlBytesConst
import Derived.Lib.BufferRead
set_option linter.unusedSimpArgs false
set_option linter.unusedVariables false
set_option maxRecDepth 100000
set_option maxHeartbeats 1000000
namespace Go.Proofs.YtlcnhpjggjgnpaaGreatDoor
open Go.RowKit Go.MapKept
open Go.ChangeMaps (setBlock)
variable {F:Nat->Prop} {a b base' bn bs c cap d e g k n t:Nat} {done:List aH} {fs:FS} {l l' p post pre:aH} {m:DM} {pv v v' vl:Value} {w w' wr:World} {xs:List Value}
theorem Io (w:World) (b:Nat) (es:Array MapEntry) (bD:Nat) (hb:w.heap[b]?=some (.map es bD)): aW 78 #[.map (some b)] w (.map (some w.heap.size)) (w.alloc (.map es bD)):=by have hq:=λw=>run_eql_map_nil_sl (P:=Tryz.prog) w 132 _ _ (some b) Tryz.underlying132;unfold aW;go_enter Tryz.func78,Tryz.ntmps78;go_wp2;rw [run_callFunc_extern Tryz.func129 (by kernel_rfl) (by kernel_rfl) (by kernel_rfl) (e:=Extern.MapsClone.clone) (by kernel_rfl),run_maps_clone_sl w 132 hb];simp only [Result.andThen];rw [Oper.upon_value];go_wp2;rw [run_typeAssert_map_sl _ 132 20 _ _ _ Tryz.underlying132];simp only [Result.andThen];rw [Oper.upon_value];go_wp2;go_ret;exact ⟨rfl,rfl⟩
theorem dm.copy (h:dm F w b fs): ∃ w',aW 78 #[.map (some b)] w (.map (some w.heap.size)) w'/\dm F w' w.heap.size fs/\ak w w'/\w'.heap.size=w.heap.size+1:=by obtain ⟨es,bD,l,hb,hs,hr,hp⟩:=h;refine ⟨_,Io w b es bD hb,⟨es,bD,l,heap_alloc_new w _,hs, ?_,hp⟩,(ah.refl _ w).alloc _,by simp⟩;exact hr.mono (λe p yq=>⟨yq.1,yq.2.keep ((aP.refl F w).alloc _) (λ_ h _=>h)⟩)
def eS (aR:Int):DM:={aR:=aR,aN:=[],sure:=[],aw:=[],cC:=-1,bh:=false}
theorem VD (w:World) (aR:Int) (h0:0<=aR) (h1:aR<=67108864): aW 17 #[.int .i64 aR] w (.tuple #[.pointer (some ⟨w.heap.size+2,0,none⟩),.int .i64 0]) (((w.alloc (.map #[] 0)).alloc (.map #[] 0)).alloc (.cells #[.int .i64 aR,.map (some w.heap.size),.map (some (w.heap.size+1)),.slice none 0 0,.int .i64 (-1),.bool false] 135)):=by have C0:=@run_makeMap Tryz.prog;unfold aW;go_enter Tryz.func17,Tryz.ntmps17;go_wp2;go_ret2;exact ⟨rfl,rfl⟩
theorem R0 (w:World) (aR:Int) (h0:0<=aR) (h1:aR<=67108864): ∃ d w',aW 17 #[.int .i64 aR] w (.tuple #[.pointer (some ⟨d,0,none⟩),.int .i64 0]) w'/\cZ (fX (λ_=>False) w w') w' d (eS aR)/\ak w w':=by
 have RV:∀ (F:Nat->Prop) (w:World) (b:Nat),w.heap[b]?=some (.map #[] 0)->dm F w b []:=λF w b hb=>⟨#[],0,[],hb,stamped_empty 0,trivial,FB _⟩;refine ⟨_,_,VD w aR h0 h1,⟨w.heap.size,w.heap.size+1,.slice none 0 0, ?_,.inr ⟨by omega,by simp⟩,.inr ⟨by omega,by simp <;>omega⟩,.inr ⟨by omega,by simp <;>omega⟩,by omega,RV _ _ _ ?_,RV _ _ _ ?_,⟨[],trivial,World.ownsRow_nil _ _ _ _,λb hb=>by cases hb⟩, ?_⟩,(((ah.refl _ w).alloc _).alloc _).alloc _⟩
 ·have e2:w.heap.size+2=((w.alloc (.map #[] 0)).alloc (.map #[] 0)).heap.size:=by simp
  rw [e2];exact heap_alloc_new ((w.alloc _).alloc _) _
 ·rw [Ao _ _ _ (by simp;omega),Ao _ _ _ (by simp)];exact heap_alloc_new w _
 ·have e2:w.heap.size+1=(w.alloc (.map #[] 0)).heap.size:=by simp
  rw [Ao _ _ _ (by simp),e2];exact heap_alloc_new (w.alloc _) _
 ·intro b hb;rcases hb with hb | hb
  ·exact hb.elim
  ·exact hb.2
def yu (F:Nat->Prop) (w wr:World) (bs:Nat) (fs:FS):Prop:=ah (λb=>b=bs) w wr/\dm (λi=>F i\/w.heap.size<=i) wr bs fs
theorem vS (hA:fW F w d bn bs vl m) (hI:yu F w wr bs fs) (c:Ch) (hp:bQ F w pv c.p) (Lh:uU fs c): ∃ w2,aW 77 #[.map (some bs),.agg #[.int .i64 c.kind,.string c.a,.string c.b,pv]] (wr.alloc (.cells #[.int .i64 c.kind,.string c.a,.string c.b,pv] 166)).drew (.tuple #[]) w2/\yu F w w2 bs (bW fs c):=by obtain ⟨hk,hm⟩:=hI;have hz:=hk.size;have h1:dm (λi=>F i\/w.heap.size<=i) (wr.alloc (.cells #[.int .i64 c.kind,.string c.a,.string c.b,pv] 166)).drew bs fs:=hm.keep (Ao _ _ _ hm.lt) ((aP.refl _ _).alloc _).drew (λ_ h _=>h);have AV:aP F w wr:=aP.jY hk (λg cs fz _ e hg=>by subst e;exact hA.sure.nr _ _ _ hg);have qT:bQ (λi=>F i\/w.heap.size<=i) (wr.alloc (.cells #[.int .i64 c.kind,.string c.a,.string c.b,pv] 166)).drew pv c.p:=hp.keep (AV.alloc _).drew (λ_ h _=> .inl h);obtain ⟨w2,hr,h2,k2⟩:=Hy h1 c qT Lh;refine ⟨w2,hr, ?_,h2.keep rfl (aP.refl _ _) (λb hb _=>by rcases hb with hb | hb;exact hb;exact .inr (by simp at hb;omega))⟩;exact ((hk.alloc _).drew).trans k2 (λ_ _ e=>e)
theorem zl:∀ {ps:List Value} {cs:List Ch} {k:Nat} {p:Value} {c:Ch},ps.length=cs.length->ps[k]?=some p->cs[k]?=some c-> (fF ps cs)[k*4]?=some (.int .i64 c.kind)/\(fF ps cs)[k*4+1]?=some (.string c.a)/\(fF ps cs)[k*4+2]?=some (.string c.b)/\(fF ps cs)[k*4+3]?=some p
 | q::ps,d::cs,0,p,c,_,hp,hc=>by simp at hp hc;subst hp;subst hc;simp [fF]
 | q::ps,d::cs,k+1,p,c,hl,hp,hc=>by
  have:=zl (ps:=ps) (cs:=cs) (k:=k) (by simpa using hl) (by simpa using hp) (by simpa using hc);rw [show (k+1)*4=k*4+4 by omega];simpa [fF] using this
 | [],_,_,_,_,_,hp,_=>by simp at hp
 | _::_,[],_,_,_,hl,_,_=>by simp at hl
theorem yv {cs:List Ch} (h:D9 F w (.slice (some ⟨g,0,none⟩) n cap) cs) {c:Ch} (hc:cs[k]?=some c): ∃ pa pc,bQ F w (.slice pa c.p.length pc) c.p/\∀ w':World,w'.heap[g]?=w.heap[g]?-> w'.cell? ⟨g,k*4,none⟩=some (.int .i64 c.kind)/\w'.cell? ⟨g,k*4+1,none⟩=some (.string c.a)/\w'.cell? ⟨g,k*4+2,none⟩=some (.string c.b)/\w'.cell? ⟨g,k*4+3,none⟩=some (.slice pa c.p.length pc):=by
 obtain ⟨ps,h1,h2,h3⟩:=h;obtain ⟨p,hp,hb⟩:=h1.wV hc;obtain ⟨pa,pc,rfl,_,_⟩:=hb.aG;refine ⟨pa,pc,hb,λw' hw=> ?_⟩;obtain ⟨e0,e1,e2,e3⟩:=zl h1.length hp hc;have eh:=h2.cells (g:=g) rfl;have conv:∀ j u,(fF ps cs)[j]?=some u->w'.cell? ⟨g,j,none⟩=some u:=λj u hj=>by have:=eh j u hj;rw [iV,fw] at this;rw [kK (w:=w) (a:=⟨g,j,none⟩) hw];exact this
 exact ⟨conv _ _ e0,conv _ _ e1,conv _ _ e2,conv _ _ e3⟩
def gD (m:DM) (fs:FS):DM:={aR:=m.aR,aN:=fs,sure:=fs,aw:=[],cC:=-1,bh:=false}
theorem qo {w3:World} (hA:fW F w d bn bs vl m) (hI:yu F w w3 bs fs): ∃ w4,aW 78 #[.map (some bs)] w3 (.map (some w3.heap.size)) w4/\((∀ i,i <6->∃ v,w4.cell? ⟨d,i,none⟩=some v)/\∀ i,w4.frozen? ⟨d,i,none⟩=false)/\ rT F w d (0,gD m fs) (.returned (.int .i64 0)) ((((w4.setCell ⟨d,1,none⟩ (.map (some w3.heap.size))).setCell ⟨d,3,none⟩ (.slice none 0 0)).setCell ⟨d,4,none⟩ (.int .i64 (-1))).setCell ⟨d,5,none⟩ (.bool false)):=by
 obtain ⟨hk,hm⟩:=hI;obtain ⟨w4,hr,h4,k4,z4⟩:=hm.copy;have hz:=hk.size;have nQ:d≠bs:=λe=>by subst e;exact hA.sure.nr _ _ _ hA.mq
 have FE:w3.heap[d]?=_:=hk.at hA.mq nQ;have AY:w4.heap[d]?=_:=k4.at FE (λe=>e);refine ⟨w4,hr,⟨λi hi=>⟨_,ag AY (Array.getElem?_eq_getElem (by simpa using hi))⟩,λi=>cL AY i⟩,rfl, ?_, ?_⟩
 ·have dO:∀ b,b≠d->((((w4.setCell ⟨d,1,none⟩ (.map (some w3.heap.size))).setCell ⟨d,3,none⟩ (.slice none 0 0)).setCell ⟨d,4,none⟩ (.int .i64 (-1))).setCell ⟨d,5,none⟩ (.bool false)).heap[b]?=w4.heap[b]?:=λb hb=>by rw [kS _ _ _ _ hb,kS _ _ _ _ hb,kS _ _ _ _ hb,kS _ _ _ _ hb]
  have hd5:=bf (bf (bf (bf AY 1 (.map (some w3.heap.size))) 3 (.slice none 0 0)) 4 (.int .i64 (-1))) 5 (.bool false);have AV:∀ G,aP G w4 ((((w4.setCell ⟨d,1,none⟩ (.map (some w3.heap.size))).setCell ⟨d,3,none⟩ (.slice none 0 0)).setCell ⟨d,4,none⟩ (.int .i64 (-1))).setCell ⟨d,5,none⟩ (.bool false)):=λG g cs fz _ hg=>by rw [dO g (λe=>by subst e;rw [AY] at hg;simp at hg)];exact hg
  have aX:=hA.lt d hA.fd;have pn:=hA.lt bs hA.US;have FK:∀ b,(F b\/w.heap.size<=b)->b <w4.heap.size->fX F w ((((w4.setCell ⟨d,1,none⟩ (.map (some w3.heap.size))).setCell ⟨d,3,none⟩ (.slice none 0 0)).setCell ⟨d,4,none⟩ (.int .i64 (-1))).setCell ⟨d,5,none⟩ (.bool false)) b:=λb hb ox=>by
   rcases hb with hb | hb
   ·exact .inl hb
   ·exact .inr ⟨hb,by simpa using ox⟩
  refine ⟨w3.heap.size,bs,.slice none 0 0, ?_,.inl hA.fd,FK _ (.inr (by omega)) (by omega),.inl hA.US,by omega, ?_, ?_,⟨[],trivial,World.ownsRow_nil _ _ _ _,λb hb=>by cases hb⟩, ?_⟩
  ·rw [hd5];simp [gD]
  ·exact h4.keep (dO _ (by omega)) (AV _) FK
  ·exact (hm.keep (k4.block bs hm.lt (λe=>e)) (aP.iq k4) (λ_ h _=>h)).keep (dO _ (Ne.symm nQ)) (AV _) FK
  ·intro b hb;rcases hb with hb | hb
   ·have:=hA.lt b hb;simp;omega
   ·exact hb.2
 ·have a1:ah F w w3:=hk.mono (λb _ e=>by subst e;exact hA.US);have a2:ah F w w4:=a1.trans k4 (λ_ _ e=>e.elim);exact (((a2.setCell (λ_=>hA.fd) _).setCell (λ_=>hA.fd) _).setCell (λ_=>hA.fd) _).setCell (λ_=>hA.fd) _
theorem bQ.take {F:Nat->Prop} {w:World} {a:Option Addr} {c n:Nat} {l:aH} (h:bQ F w (.slice a n c) l) (j:Nat) (hj:j<=l.length):bQ F w (.slice a j c) (l.take j):=by
 have hl:(l.take j).length=j:=by simp;omega
 rcases h with ⟨e,rfl⟩ | ⟨g,off,cap,cs,fz,e,hF,hb,h1,h2,h3,h4⟩
 ·simp only [Value.slice.injEq] at e;obtain ⟨rfl,rfl,rfl⟩:=e;simp at hj;subst hj;exact bQ.nil _ _
 ·simp only [Value.slice.injEq] at e;obtain ⟨rfl,rfl,rfl⟩:=e;refine .inr ⟨g,off,c,cs,fz,by rw [hl],hF,hb,by omega,h2,h3,λi x hx=> ?_⟩;rw [Bc] at hx;split at hx
  ·exact h4 _ _ hx
  ·cases hx
def fx (n:Int) (most:Nat):Nat:=if n <0 then 0 else if (most:Int) <n then most else n.toNat
def ft (m:DM) (keep part:Int):FS:=
 let fs:=(m.aw.take (fx keep m.aw.length)).foldl bW m.sure
 match m.aw[fx keep m.aw.length]? with
 | some c=>if c.kind=1 then bW fs {c with p:=c.p.take (fx part c.p.length)} else fs
 | none=>fs
def cX (m:DM) (keep part:Int):DM:=gD m (ft m keep part)
theorem mD (n:Int) (most:Nat):fx n most<=most:=by
 unfold fx;split
 ·omega
 ·split <;>omega
theorem vT (n:Int) (most:Nat):(if 0 <(if (most:Int) <n then (most:Int) else n) then (if (most:Int) <n then (most:Int) else n) else 0)=((fx n most:Nat):Int):=by
 unfold fx;by_cases h1:n <0
 ·have h2:¬(most:Int) <n:=by omega
  have h3:¬0 <n:=by omega
  simp [h1,h2,h3]
 ·by_cases h2:(most:Int) <n
  ·simp only [h1,h2,if_true,if_false];split <;>omega
  ·simp only [h1,h2,if_false];split <;>omega
def Ip (F:Nat->Prop) (w:World) (bs:Nat) (m:DM) (K:Nat) (i:Value) (wr:World):Prop:=
 ∃ k:Nat,k<=K/\i= .int .i64 (k:Int)/\yu F w wr bs ((m.aw.take k).foldl bW m.sure)
theorem gI (hA:fW F w d bn bs vl m) (hI:yu F w wr bs fs): wr.cell? ⟨d,2,none⟩=some (.map (some bs))/\wr.cell? ⟨d,3,none⟩=some vl/\d <wr.heap.size:=by
 have nQ:d≠bs:=λe=>by subst e;exact hA.sure.nr _ _ _ hA.mq
 have FE:wr.heap[d]?=_:=hI.1.at hA.mq nQ;exact ⟨ag FE rfl,ag FE rfl,bm FE⟩
theorem zm (hA:fW F w d bn bs (.slice (some ⟨g,0,none⟩) n cap) m) (hI:yu F w wr bs fs):wr.heap[g]?=w.heap[g]?:=by obtain ⟨_,_,h2,_⟩:=hA.aw;obtain ⟨gp,hg⟩:=dp h2 (b:=g) rfl;exact hI.1.block g (bm hg) (λe=>by subst e;exact hA.sure.nr _ _ _ hg)
theorem Lm (hA:fW F w d bn bs (.slice (some ⟨g,0,none⟩) n cap) m) (hn:n=m.aw.length) (sy:n<=cap) (Vz:0 <cap) (pA:(cap:Int)<=9223372036854775807) (keep part:Int) (K:Nat) (hK:K=fx keep n) (mr:∀ k c,m.aw[k]?=some c->uU ((m.aw.take k).foldl bW m.sure) c/\∀ j,uU ((m.aw.take k).foldl bW m.sure) {c with p:=c.p.take j}):
  bF 30 #[.pointer (some ⟨d,0,none⟩),.int .i64 keep,.int .i64 part] w (rT F w d (0,cX m keep part)):=by
 have hKn:K<=n:=by rw [hK];exact mD _ _
 have C0:=vT keep n;rw [<-hK] at C0;obtain ⟨kk,C1⟩:=exp ((if (n:Int) <keep then (n:Int) else keep));rw [C1] at C0;have hK':K=fx keep m.aw.length:=by rw [hK,hn]
 obtain ⟨_,c3,_⟩:=gI hA ⟨ah.refl _ w,hA.sure.keep rfl (aP.refl _ _) (λ_ h _=> .inl h)⟩;have hI0:yu F w w bs m.sure:=⟨ah.refl _ w,hA.sure.keep rfl (aP.refl _ _) (λ_ h _=> .inl h)⟩;have adG:¬cap=0:=by omega
 have hi0:(0:Int)<=K:=by omega
 have VE:(K:Int)<=cap:=by omega
 have Rp:(K:Int)<=n:=by omega
 have HA:=ae hA;have HN:=ae hn;have HK:=ae hK';have HF:=ae mr;clear hA hn hK hK' mr hKn sy Vz;go_enter Tryz.func30,Tryz.ntmps30;go_wp2;go_loopw [27] (λi wr=>Ip F w bs m K i wr) (λi _=>K - (intOf i).toNat);case atStart=>exact ⟨0,fC _,rfl,hI0⟩
 case round=>
  obtain ⟨k,hk,rfl,hI⟩:=hrel;obtain ⟨R1,c3',lQ⟩:=gI HA.Z hI;have fN:=zm HA.Z hI;clear hI0 c3 C0;by_cases aX:k <K
  ·obtain ⟨c,hc⟩:∃ c,m.aw[k]?=some c:=⟨m.aw[k]'(by have:=HN.Z;omega),js _⟩;obtain ⟨pa,pc,hp,je⟩:=yv HA.Z.aw hc;obtain ⟨e0,e1,e2,e3⟩:=je wr fN;obtain ⟨w2,hd,XP⟩:=vS HA.Z hI c hp (HF.Z k c hc).1;have VF:yu F w w2 bs ((m.aw.take (k+1)).foldl bW m.sure):=by rw [ym,hc];simpa using XP
   have Rq:=ae VF;have j0:=np k;have j1:(k:Int) <K:=by omega
   have a2:(wr.alloc (.cells #[.int .i64 c.kind,.string c.a,.string c.b,.slice pa c.p.length pc] 166)).cell? ⟨d,2,none⟩=some (.map (some bs)):=(World.cell?_alloc_lt wr _ ⟨d,2,none⟩ lQ).trans R1;have kB:=nz (wr.alloc (.cells #[.int .i64 c.kind,.string c.a,.string c.b,.slice pa c.p.length pc] 166)) wr.heap.size _ _ _ _ (heap_alloc_new _ _);have G8:=ae kB;have VG:=ae a2;clear hI XP VF je fN hp c3' kB a2;go_wp2;have kB:=G8.Z;have a2:=VG.Z;generalize wr.alloc (.cells #[.int .i64 c.kind,.string c.a,.string c.b,.slice pa c.p.length pc] 166)=W at kB a2 hd ⊢;obtain ⟨b0,b1,b2,b3⟩:=kB;clear G8 VG;go_still_tail 5,(by kernel_rfl);change wpList _ _ _ _ _ W.drew;go_wp2_with (go_at_call 77;refine hd.Z.mono ?_;rintro e w' ⟨rfl,rfl⟩);go_roundw;case rel=>exact ⟨k+1,by omega,by go_num,Rq.Z⟩
   case measure=>simp [intOf];omega
  ·obtain rfl:k=K:=by omega
   clear aX;by_cases hKn:k <n
   ·obtain ⟨c,hc⟩:∃ c,m.aw[k]?=some c:=⟨m.aw[k]'(by have:=HN.Z;omega),js _⟩;obtain ⟨pa,pc,hp,je⟩:=yv HA.Z.aw hc;obtain ⟨e0,e1,e2,e3⟩:=je wr fN;have j0:=np k;have j1:(k:Int) <n:=by omega
    by_cases bN:c.kind=1
    ·have Lh:=(HF.Z k c hc).2 (fx part c.p.length);have ml:cX m keep part=gD m (bW ((m.aw.take k).foldl bW m.sure) {c with p:=c.p.take (fx part c.p.length)}):=by unfold cX ft;rw [<-HK.Z,hc];simp [bN]
     obtain ⟨ck,ca,cb,cp⟩:=c;simp only at*;subst bN;have hj:=mD part cp.length;have hjm:=vT part cp.length;generalize fx part cp.length=j at*;obtain ⟨pk,hpk⟩:=exp ((if (cp.length:Int) <part then (cp.length:Int) else part));rw [hpk] at hjm;have aaU:=hp.aG;obtain ⟨pa',pc',epa,R2,Pp⟩:=aaU;simp only [Value.slice.injEq,true_and] at epa;obtain ⟨rfl,rfl⟩:=epa;obtain ⟨w2,hd,XP⟩:=vS HA.Z hI ⟨1,ca,cb,cp.take j⟩ (hp.take j hj) Lh;have kB:=nz (wr.alloc (.cells #[.int .i64 1,.string ca,.string cb,.slice pa j pc] 166)) wr.heap.size _ _ _ _ (heap_alloc_new _ _);have a2:(wr.alloc (.cells #[.int .i64 1,.string ca,.string cb,.slice pa j pc] 166)).cell? ⟨d,2,none⟩=some (.map (some bs)):=(World.cell?_alloc_lt wr _ ⟨d,2,none⟩ lQ).trans R1;have G8:=ae kB;have VG:=ae a2;have Rq:=ae XP;have UX:=ae ml;have q0:=np j;have q1:(j:Int)<=pc:=by omega
     by_cases acG:pc=0
     ·subst acG;obtain rfl:j=0:=by omega
      replace hjm:(if 0 <pk then pk else 0)=(0:Int):=hjm;clear hI XP je fN hp kB a2 ml hc Lh R2 Pp q0 q1;go_wp2;have kB:=G8.Z;have a2:=VG.Z;generalize wr.alloc (.cells #[.int .i64 1,.string ca,.string cb,.slice pa 0 0] 166)=W at kB a2 hd ⊢;obtain ⟨b0,b1,b2,b3⟩:=kB;clear G8 VG;go_still_tail 5,(by kernel_rfl);change wpList _ _ _ _ _ W.drew;obtain ⟨w4,dI,⟨vU,hf4⟩,eJ⟩:=qo HA.Z Rq.Z;rw [<-UX.Z] at eJ;obtain ⟨v1,g1⟩:=vU 1 (by omega);obtain ⟨v3,g3⟩:=vU 3 (by omega);obtain ⟨v4,g4⟩:=vU 4 (by omega);obtain ⟨v5,g5⟩:=vU 5 (by omega);obtain ⟨c2w,_,_⟩:=gI HA.Z Rq.Z;have HP:=ae eJ;clear vU eJ;go_wp2_with (first | (go_at_call 77;refine hd.Z.mono ?_;rintro e w' ⟨rfl,rfl⟩) | (go_at_call 78;refine dI.Z.mono ?_;rintro e w' ⟨rfl,rfl⟩));go_ret;exact HP.Z
     ·clear hI XP je fN hp kB a2 ml hc Lh R2 Pp;go_wp2;have kB:=G8.Z;have a2:=VG.Z;generalize wr.alloc (.cells #[.int .i64 1,.string ca,.string cb,.slice pa j pc] 166)=W at kB a2 hd ⊢;obtain ⟨b0,b1,b2,b3⟩:=kB;clear G8 VG;go_still_tail 5,(by kernel_rfl);change wpList _ _ _ _ _ W.drew;obtain ⟨w4,dI,⟨vU,hf4⟩,eJ⟩:=qo HA.Z Rq.Z;rw [<-UX.Z] at eJ;obtain ⟨v1,g1⟩:=vU 1 (by omega);obtain ⟨v3,g3⟩:=vU 3 (by omega);obtain ⟨v4,g4⟩:=vU 4 (by omega);obtain ⟨v5,g5⟩:=vU 5 (by omega);obtain ⟨c2w,_,_⟩:=gI HA.Z Rq.Z;have HP:=ae eJ;clear vU eJ;go_wp2_with (first | (go_at_call 77;refine hd.Z.mono ?_;rintro e w' ⟨rfl,rfl⟩) | (go_at_call 78;refine dI.Z.mono ?_;rintro e w' ⟨rfl,rfl⟩));go_ret;exact HP.Z
    ·have ml:cX m keep part=gD m ((m.aw.take k).foldl bW m.sure):=by unfold cX ft;rw [<-HK.Z,hc];simp [bN]
     obtain ⟨w4,dI,⟨vU,hf4⟩,eJ⟩:=qo HA.Z hI;rw [<-ml] at eJ;obtain ⟨v1,g1⟩:=vU 1 (by omega);obtain ⟨v3,g3⟩:=vU 3 (by omega);obtain ⟨v4,g4⟩:=vU 4 (by omega);obtain ⟨v5,g5⟩:=vU 5 (by omega);have HP:=ae eJ;have hb:(c.kind==1)=false:=by simpa using bN
     clear hI je fN hp vU eJ ml bN hc;go_wp2_with (go_at_call 78;refine dI.Z.mono ?_;rintro e w' ⟨rfl,rfl⟩);go_ret;exact HP.Z
   ·have ml:cX m keep part=gD m ((m.aw.take k).foldl bW m.sure):=by unfold cX ft;rw [<-HK.Z,RP (by have:=HN.Z;omega)]
    obtain ⟨w4,dI,⟨vU,hf4⟩,eJ⟩:=qo HA.Z hI;rw [<-ml] at eJ;obtain ⟨v1,g1⟩:=vU 1 (by omega);obtain ⟨v3,g3⟩:=vU 3 (by omega);obtain ⟨v4,g4⟩:=vU 4 (by omega);obtain ⟨v5,g5⟩:=vU 5 (by omega);have HP:=ae eJ;have hb:¬(k:Int) <n:=by omega
    clear hI fN vU eJ ml hKn;go_wp2_with (go_at_call 78;refine dI.Z.mono ?_;rintro e w' ⟨rfl,rfl⟩);go_ret;exact HP.Z
theorem Iq {a:Option Addr} (hA:fW F w d bn bs (.slice a 0 cap) m) (hn:m.aw=[]) (keep part:Int): bF 30 #[.pointer (some ⟨d,0,none⟩),.int .i64 keep,.int .i64 part] w (rT F w d (0,cX m keep part)):=by
 have C0:=vT keep 0;rw [show fx keep 0=0 by have:=mD keep 0;omega] at C0;obtain ⟨kk,C1⟩:=exp ((if (0:Int) <keep then (0:Int) else keep));replace C0:(if 0 <(if (0:Int) <keep then (0:Int) else keep) then (if (0:Int) <keep then (0:Int) else keep) else 0)=(0:Int):=C0;rw [C1] at C0;have hI:yu F w w bs m.sure:=⟨ah.refl _ w,hA.sure.keep rfl (aP.refl _ _) (λ_ h _=> .inl h)⟩;obtain ⟨c2,c3,_⟩:=gI hA hI;have ml:cX m keep part=gD m m.sure:=by unfold cX ft;simp [hn]
 obtain ⟨w4,dI,⟨vU,hf4⟩,eJ⟩:=qo hA hI;rw [<-ml] at eJ;obtain ⟨v1,g1⟩:=vU 1 (by omega);obtain ⟨v3,g3⟩:=vU 3 (by omega);obtain ⟨v4,g4⟩:=vU 4 (by omega);obtain ⟨v5,g5⟩:=vU 5 (by omega);have HP:=ae eJ;by_cases xg:cap=0;all_goals
  go_enter Tryz.func30,Tryz.ntmps30;go_wp2;refine wp_loop_rounds 1 ?_;rw [rounds_succ];go_wp2_with (first | (go_at_call 78;refine dI.Z.mono ?_;rintro e w' ⟨rfl,rfl⟩));go_ret;exact HP.Z
theorem Ir (h:cZ F w d m) (keep part:Int) (mr:∀ k c,m.aw[k]?=some c->uU ((m.aw.take k).foldl bW m.sure) c/\∀ j,uU ((m.aw.take k).foldl bW m.sure) {c with p:=c.p.take j}):
  bF 30 #[.pointer (some ⟨d,0,none⟩),.int .i64 keep,.int .i64 part] w (rT F w d (0,cX m keep part)):=by
 obtain ⟨bn,bs,vl,h⟩:=h;obtain ⟨ps,h1,h2,h3⟩:=h.aw;by_cases hn:m.aw=[]
 ·obtain ⟨a,c,rfl⟩:=bA h2;rw [hn] at h;exact Iq (by simpa using h) hn keep part
 ·have Bg:0 <m.aw.length:=List.length_pos_iff.2 hn;rcases h2.2 with ⟨_,e⟩ | ⟨g,cap,gp,rfl,hg,hb,sy,pA,pS,ht⟩
  ·omega
  ·unfold maxLen at pA;exact Lm h rfl sy (by omega) (by omega) keep part _ rfl mr
theorem Ei {l:FS} (hp:l.Perm fs) (hn:bX fs) (n:aD):aZ l n=aZ fs n:=by
 have Vx:bX l:=(hp.map (λq:aD × aH=>q.1)).nodup_iff.2 hn;cases h:aZ fs n with
 | some x=>exact nt Vx (hp.mem_iff.2 (sW h))
 | none=>
  cases h':aZ l n with
  | none=>rfl
  | some x=>rw [nt hn (hp.mem_iff.1 (sW h'))] at h;cases h
theorem jZ (fs:FS) (n:aD) (x:aH):aZ ((n,x)::fs) n=some x:=by simp [aZ]
theorem ij (fs:FS) (n k:aD) (x:aH) (h:n≠k):aZ ((n,x)::fs) k=aZ fs k:=by
 unfold aZ;rw [List.find?_cons];have:decide (n=k)=false:=by simpa using h
 simp [this]
theorem s5 (fs:FS) (n:aD):aZ (bV fs n) n=none:=yr (qW fs n)
theorem ik (fs:FS) (n k:aD) (h:n≠k):aZ (bV fs n) k=aZ fs k:=by
 induction fs with
 | nil=>rfl
 | cons p fs ih=>
  obtain ⟨a,x⟩:=p;by_cases ha:a=n
  ·subst ha;rw [ij _ _ _ _ h];simpa [bV] using ih
  ·have e:bV ((a,x)::fs) n=(a,x)::bV fs n:=by simp [bV,ha]
   rw [e];by_cases hk:a=k
   ·subst hk;rw [jZ,jZ]
   ·rw [ij _ _ _ _ hk,ij _ _ _ _ hk,ih]
theorem gO (hn:bX fs) (n:aD) (x:aH):aZ (dY fs n x) n=some x:=by exact (Ei (gJ (n,x) (bV fs n)).symm (hn.dY n x) n).symm.trans (jZ _ _ _)
theorem df (hn:bX fs) (n k:aD) (x:aH) (h:n≠k):aZ (dY fs n x) k=aZ fs k:=by exact (Ei (gJ (n,x) (bV fs n)).symm (hn.dY n x) k).symm.trans ((ij _ _ _ _ h).trans (ik _ _ _ h))
theorem lw:∀ {fs:FS} (_:bX fs) (n:aD),used (bV fs n)+((aZ fs n).getD []).length=used fs
 | [],_,_=>rfl
 | (a,x)::fs,h,n=>by
  have h':a ∉ fs.map (·.1)/\(fs.map (·.1)).Nodup:=List.nodup_cons.1 h;by_cases ha:a=n
  ·subst ha;have e:bV ((a,x)::fs) a=fs:=by
    have:bV ((a,x)::fs) a=bV fs a:=by simp [bV]
    rw [this,lu h'.1]
   rw [e,jZ];simp [used];omega
  ·have e:bV ((a,x)::fs) n=(a,x)::bV fs n:=by simp [bV,ha]
   have ih:=lw (fs:=fs) h'.2 n;rw [e,ij _ _ _ _ ha];simp only [used];omega
theorem iP (hn:bX fs) (n:aD) (x:aH):used (dY fs n x)+((aZ fs n).getD []).length=used fs+x.length:=by have h1:=Ee (gJ (n,x) (bV fs n));have h2:=lw hn n;unfold dY;rw [h1];simp only [used];omega
theorem s6 (hn:bX fs) (n:aD):((aZ fs n).getD []).length<=used fs:=by have:=lw hn n;omega
theorem Is (n:aD) (x:aH):(dY fs n x).length=(bV fs n).length+1:=by unfold dY;rw [(gJ (n,x) (bV fs n)).length_eq];rfl
theorem cZ.nodup {F:Nat->Prop} {w:World} {d:Nat} {m:DM} (h:cZ F w d m):bX m.aN:=by obtain ⟨bn,bs,vl,h⟩:=h;exact h.aN.nodup
structure Calm (m:DM):Prop where
 bh:m.bh=false
 cC:m.cC=-1
theorem Calm.does (h:Calm m) (c:Ch):dB m c=(0,{m with aN:=bW m.aN c,aw:=m.aw++[c]}):=by have hf:=h.cC;simp [dB,aS,hf]
theorem Calm.there (h:Calm m) {n:aD} (hg:(aZ m.aN n).isSome=true):aF m n=0:=by simp [aF,h.bh,hg]
theorem Calm.fY (h:Calm m) {n:aD} (hn:bU n=true) (hg:aZ m.aN n=none) (hl:(m.aN.length:Int) <4096): aO m n=(0,{m with aN:=dY m.aN n [],aw:=m.aw++[⟨0,n,⟨#[]⟩,[]⟩]}):=by
 have N2:¬((4096:Int)<=(m.aN.length:Int)):=by omega
 unfold aO;rw [h.does];simp only [h.bh,hn,hg,N2,nP,if_false,Bool.not_true,O7,decide_false];simp [bW]
theorem Calm.append (h:Calm m) {n:aD} (hg:(aZ m.aN n).isSome=true) (p:aH) (hp:(p.length:Int)<=1048576): aM m n p=if m.aR - (used m.aN:Int) <(p.length:Int) then (4,m) else (0,{m with aN:=dY m.aN n ((aZ m.aN n).getD []++p),aw:=m.aw++[⟨1,n,⟨#[]⟩,p⟩]}):=by
 have VH:¬((1048576:Int) <(p.length:Int)):=by omega
 unfold aM;rw [h.there hg,h.does];simp only [if_true,VH,if_false];simp [bW]
theorem R3 (a:Int) (k:Nat) (hk:0 <k) (cg:(k:Int)<=9223372036854775807):∃ n:Nat,wrap64 ((IntKind.u64.wrap a).tmod (k:Int))=(n:Int)/\n <k:=by
 have h0:0<=IntKind.u64.wrap a:=by simp only [IntKind.wrap,IntKind.signed,IntKind.bits];simp;exact Int.emod_nonneg _ (by decide)
 generalize IntKind.u64.wrap a=x at h0;rw [Vv h0];have h1:=Int.emod_nonneg x (b:=(k:Int)) (by omega);have h2:=Int.emod_lt_of_pos x (b:=(k:Int)) (by omega);refine ⟨(x % (k:Int)).toNat, ?_,by omega⟩;rw [IntWalk.wrap64_in _ (by omega)];omega
theorem Ax {P:Program} {ops:Array Oper} {o:Oper} {rest:List Oper} {a:Act} {Q:Exit->Act->World->Prop} (hg:o.guard=none) (l c:Operand) (t:TypeId) (ph:o.op=Op.makeSlice t l c) {lv cv:Value} (hl:a.eval l=lv) (hc:a.eval c=cv) (aT:(Instr.makeSlice t lv cv).run P w= .ok v' w') (hK:wpList P ops Q rest (a.put o.dst v') w'):wpList P ops Q (o::rest) a w:=by refine wpList_plain hg λK hK'=> ?_;unfold Oper.wp;simp [execOp,ph,hl,hc,aT,Result.andThen];exact hK' _ _ hK
theorem aC.cell {w:World} {v:Value} {l:aH} (h:aC w v l) {a:Option Addr} {n c k:Nat} (hv:v= .slice a n c) (hk:k <l.length):∃ x,a=some x/\w.cell? (x.add k)=some (.int .u8 (l[k].toNat:Int)):=by
 rcases h with ⟨_,rfl⟩ | ⟨x,c',e,_,_,h3⟩
 ·simp at hk
 ·rw [hv] at e;cases e;exact ⟨x,rfl,h3 k _ (by rw [jc,js hk];rfl)⟩
theorem Pq (hk:k <l.length) (uX:k <l'.length) (h:l.take k=l'.take k):(l[k].toNat=l'[k].toNat)↔l.take (k+1)=l'.take (k+1):=by
 constructor
 ·intro e;rw [wS hk,wS uX,h,UInt8.toNat_inj.1 e]
 ·intro e;have:=congrArg (λt:aH=>t[k]?) e;simp [hk,uX] at this;rw [this]
theorem R4 (w:World) (hb:n<=maxLen) (hn:l.length=n) (hn':l'.length=n) {a a':Option Addr} {c':Nat} (h:aC w (.slice a n c) l) (h':aC w (.slice a' n c') l'): bF 15 #[.slice a n c,.slice a' n c'] w (bH w (.bool (decide (l=l')))):=by
 unfold maxLen at hb;have H:=ae h;have H':=ae h';have HN:=ae hn;have HN':=ae hn';clear h h' hn hn';go_enter Tryz.func15,Tryz.ntmps15;go_wp2_with fail;go_loopw [5] (λi wr=>∃ k:Nat,k<=n/\i= .int .i64 (k:Int)/\ak w wr/\l.take k=l'.take k) (λi _=>n - (intOf i).toNat);case atStart=>exact ⟨0,fC _,rfl,ah.refl _ _,rfl⟩
 case round=>
  obtain ⟨k,hk,rfl,hq,heq⟩:=hrel;by_cases aX:k <n
  ·obtain ⟨x,rfl,hx⟩:=(H.Z.keep hq).cell rfl (k:=k) (by have:=HN.Z;omega);obtain ⟨y,rfl,hy⟩:=(H'.Z.keep hq).cell rfl (k:=k) (by have:=HN'.Z;omega);have R5:=Pq (k:=k) (by have:=HN.Z;omega) (by have:=HN'.Z;omega) heq;generalize ((l[k]'(by have:=HN.Z;omega)).toNat)=p at hx R5;generalize ((l'[k]'(by have:=HN'.Z;omega)).toNat)=q at hy R5;have HP:=ae R5;have j0:=np k;have j1:(k:Int) <n:=by omega
   clear heq R5;by_cases R5:p=q
   ·have aaV:=HP.Z.1 R5;have HE:=ae aaV;clear aaV HP;subst R5;go_wp2_with fail;go_quiet (fail);go_wp2;go_roundw;case rel=>exact ⟨k+1,by omega,rfl,hq.drewN _,HE.Z⟩
    case measure=>simp [intOf];omega
   ·have adL:¬(p:Int)=(q:Int):=by omega
    go_wp2_with fail;go_quiet (fail);go_wp2;go_ret;refine ⟨?_,hq.drewN _⟩;have:¬l=l':=λe=>R5 (HP.Z.2 (by rw [e]));simp [this]
  ·obtain rfl:k=n:=by omega
   clear aX hk;have he:l=l':=by rw [sU (by have:=HN.Z;omega),sU (by have:=HN'.Z;omega)] at heq;exact heq
   have HE:=ae he;clear he heq;go_wp2;go_ret;exact ⟨by simp [HE.Z],hq⟩
theorem q8 (h:aC w v l) (h':aC w v' l'):bF 15 #[v,v'] w (bH w (.bool (decide (l=l')))):=by
 obtain ⟨a,c,rfl,h1,h2⟩:=h.aG;obtain ⟨a',c',rfl,_,_⟩:=h'.aG;by_cases hl:l.length=l'.length
 ·rw [<-hl] at h' ⊢;exact R4 w (by omega) rfl hl.symm h h'
 ·have qe:¬(l.length:Int)=(l'.length:Int):=by omega
  have dO:¬l=l':=λe=>hl (by rw [e]);have HE:=ae dO;go_enter Tryz.func15,Tryz.ntmps15;go_wp2;go_ret;exact ⟨by simp [HE.Z],ah.refl _ _⟩
theorem lx {base:Nat} (h:w.ownsRow base 5 1 v n xs) (hk:ah F w w') (hF:∀ b,v.ownBlock=some b->¬F b):w'.ownsRow base 5 1 v n xs:=by
 obtain ⟨h1,h2⟩:=h;refine ⟨h1, ?_⟩;rcases h2 with h2 | ⟨g,cap,gp,rfl,hg,hb,h3,h4,h5,h6⟩
 ·exact .inl h2
 ·exact .inr ⟨g,cap,gp,rfl,hg,hk.at hb (hF g rfl),h3,h4,h5,h6⟩
theorem du {base:Nat} (h:w.ownsRow base 5 1 v n xs):∀ b,v.ownBlock=some b->b <w.heap.size/\base<=b:=by
 rcases h.2 with ⟨rfl,_⟩ | ⟨g,cap,gp,rfl,hg,hb,_⟩
 ·intro b hb;cases hb
 ·intro b pg;cases pg;exact ⟨bm hb,hg⟩
def bC (w:World) (base:Nat) (v:Value) (l:aH):Prop:=w.ownsRow base 5 1 v l.length (l.map dF)
theorem bC.nil (w:World) (base:Nat):bC w base (.slice none 0 0) []:=⟨rfl,.inl ⟨rfl,rfl⟩⟩
theorem bC.bytes {base:Nat} (h:bC w base v l):bQ (λb=>base<=b) w v l:=kU h
theorem bC.keep {base:Nat} (h:bC w base v l) (hk:ak w w'):bC w' base v l:=lx h hk (λ_ _ e=>e)
theorem bC.base {base:Nat} (h:bC w base v l) (hb:base'<=base):bC w base' v l:=by
 obtain ⟨h1,h2⟩:=h;refine ⟨h1, ?_⟩;rcases h2 with h2 | ⟨g,cap,gp,rfl,hg,h3⟩
 ·exact .inl h2
 ·exact .inr ⟨g,cap,gp,rfl,by omega,h3⟩
theorem bC.grow {base:Nat} (hz:base<=wr.heap.size) (ho:bC wr base v l) (hp:aC wr pv p) (hb:l.length+p.length<=140737488355328): ∃ v' w',(Builtin.append_ #[22,22] 22 #[v,pv]).run Tryz.prog wr= .ok v' w'/\bC w' base v' (l++p)/\ah (λb=>v.ownBlock=some b) wr w':=by
 obtain ⟨i0,hi,rS,iH,jO⟩:=info_parts jN;rcases hp with ⟨rfl,rfl⟩ | ⟨x,c,rfl,h1,h2,h3⟩
 ·refine ⟨v,wr,sX 22 22 22 5 i0 Tryz.underlying22 Tryz.underlying22 hi (by rw [iH]) (kU ho) (.inl ⟨rfl,rfl⟩), ?_,ah.refl _ _⟩;rw [qh];exact ho
 ·obtain ⟨v',w',aT,dy,hg,_,jP⟩:=run_append_own_at (P:=Tryz.prog) wr base 22 22 5 i0 _ 1 1 Tryz.underlying22 hi rS iH jO (by rfl) (by omega) v l.length (l.map dF) ho x p.length c (p.map dF) (by simp) h3 (wX _) (by unfold maxLen;omega) (by omega) hz;refine ⟨v',w',aT, ?_,ah.fH hg⟩;rw [<-mB,<-fS] at dy;exact dy
theorem gP (w:World) (c:UInt8):aC (w.alloc (.cells #[.int .u8 (c.toNat:Int)] 5)) (.slice (some ⟨w.heap.size,0,none⟩) 1 1) [c]:=by
 refine .inr ⟨_,1,rfl,eQ _,by simp [maxLen],λj u hu=> ?_⟩;match j,hu with
 | 0,hu=>
  simp only [kz,Av,vP,im] at hu;rw [<-hu,iV];exact ag (heap_alloc_new w _) rfl
 | j+1,hu=>simp at hu
def nW (w:World) (l:aH) (e:Ending) (w':World):Prop:=∃ v,e= .returned v/\bC w' w.heap.size v l/\ak w w'
theorem fO (h:aC w v l) (hb:l.length<=140737488355328):bF 27 #[v] w (nW w l):=by
 obtain ⟨a,c,rfl,iL,gy⟩:=h.aG;have H:=ae h;unfold maxLen at gy;go_enter Tryz.func27,Tryz.ntmps27;go_wp2_with fail;go_loopw [3,4] (λav i wr=>∃ k:Nat,k<=l.length/\i= .int .i64 (k:Int)/\bC wr w.heap.size av (l.take k)/\ak w wr) (λ_ i _=>l.length - (intOf i).toNat);case atStart=>exact ⟨0,fC _,rfl,bC.nil _ _,ah.refl _ _⟩
 case round=>
  obtain ⟨k,hk,rfl,ho,hq⟩:=hrel;obtain ⟨aa,ac,rfl,q1,q2⟩:=ho.bytes.aG;by_cases aX:k <l.length
  ·obtain ⟨x,rfl,hx⟩:=(H.Z.keep hq).cell rfl aX;have iI:ak wr (wr.alloc (.cells #[.int .u8 (l[k].toNat:Int)] 5)):=(ah.refl _ _).alloc _;have adM:=hq.size;obtain ⟨v',w3,aT,fy,dN⟩:=bC.grow (by simp only [World.size_alloc];omega) (ho.keep iI) (gP wr l[k]) (by simp only [nM,iM,gN];omega);rw [<-wS aX] at fy;have yw:ak w w3:=(hq.trans iI (λ_ _ e=>e)).trans dN (λb hb e=>by have:=du ho b e;omega);obtain ⟨VI,VJ,rfl,_,_⟩:=fy.bytes.aG;have HR:=ae (⟨k+1,by omega,rfl,fy,yw⟩:∃ k':Nat,k'<=l.length/\Value.int .i64 ((k+1:Nat):Int)= .int .i64 (k':Int)/\bC w3 w.heap.size _ (l.take k')/\ak w w3);have kA:=ae aT;have j0:=np k;have j1:(k:Int) <l.length:=by omega
   generalize l[k].toNat=b at hx kA;go_wp2_with (at_builtin;refine ao rfl _ _ _ _ rfl rfl rfl kA.Z ?_);go_roundw;case rel=>have h:=HR.Z;simp only [nM] at h;exact h
   case measure=>simp [intOf];omega
  ·obtain rfl:k=l.length:=by omega
   have HO:=ae ho;have HQ:=ae hq;go_wp2;go_ret;refine ⟨.slice aa (l.take l.length).length ac,rfl, ?_,HQ.Z⟩;have h:=HO.Z;generalize Value.slice aa (l.take l.length).length ac=v at h ⊢;rw [jX] at h;exact h
def oD (c:Nat):Nat:=if c % 2=1 then (c / 2) ^^^ 3988292384 else c / 2
def lR:Nat->Nat->Nat
 | 0,c=>c
 | j+1,c=>oD (lR j c)
def uy (c:Nat) (b:UInt8):Nat:=lR 8 (c ^^^ b.toNat)
def mE (l:aH):Nat:=l.foldl uy 4294967295
def jQ (l:aH):Nat:=4294967295 - mE l
theorem Pr (h:c <4294967296):oD c <4294967296:=by
 unfold oD;split
 ·exact Nat.xor_lt_two_pow (n:=32) (by omega) (by omega)
 ·omega
theorem q9:∀ (j:Nat) {c:Nat},c <4294967296->lR j c <4294967296
 | 0,_,h=>h
 | j+1,_,h=>Pr (q9 j h)
theorem Bn (h:c <4294967296) (b:UInt8):c ^^^ b.toNat <4294967296:=Nat.xor_lt_two_pow (n:=32) (by omega) (by have:=b.toNat_lt;omega)
theorem Ln (h:c <4294967296) (b:UInt8):uy c b <4294967296:=q9 8 (Bn h b)
theorem Bo:∀ (l:aH) {c:Nat},c <4294967296->l.foldl uy c <4294967296
 | [],_,h=>h
 | b::l,_,h=>Bo l (Ln h b)
theorem uz (l:aH):mE l <4294967296:=Bo l (by omega)
theorem zo (h:k <l.length):mE (l.take (k+1))=uy (mE (l.take k)) l[k]:=by unfold mE;rw [wS h,Hr];rfl
theorem Ps (h:t <4294967296):4294967295 ^^^ t=4294967295 - t:=by
 have e:4294967295 - t=2 ^ 32 - (t+1):=by omega
 rw [e];apply Nat.eq_of_testBit_eq;intro i;rw [Nat.testBit_two_pow_sub_succ (by omega),Nat.testBit_xor,show (4294967295:Nat)=2 ^ 32 - 1 by rfl,Nat.testBit_two_pow_sub_one];by_cases hi:i <32
 ·simp [hi]
 ·have:t.testBit i=false:=Nat.testBit_lt_two_pow (Fv (show t <2 ^ 32 by omega) (K5 (by omega) (by omega)));simp [hi,this]
theorem VK (h:t <4294967296):bits .xor .u32 IntKind.u32.max (t:Int)=4294967295 - (t:Int):=by
 have:=u32_xor_nat 4294967295 t (by omega) h;rw [Ps h] at this;have e:IntKind.u32.max=((4294967295:Nat):Int):=by decide
 rw [e,this];omega
theorem Y2:bits .and .u32 3988292384 4294967295=3988292384:=by decide+kernel
theorem Y3:bits .and .u32 3988292384 0=0:=by decide+kernel
theorem N5 (ht:t <4294967296) (hp:t % 2=1):bits .and .u32 (t:Int) 1=1/\bits .xor .u32 ((t:Int) / 2) 3988292384=((oD t:Nat):Int):=by
 constructor
 ·have:=u32_and_nat t 1 ht (by omega);rw [nat_mask1,hp] at this;exact this
 ·have:=u32_xor_nat (t / 2) 3988292384 (by omega) (by omega);unfold oD;rw [if_pos hp];exact this
theorem R6 (ht:t <4294967296) (hp:¬t % 2=1):bits .and .u32 (t:Int) 1=0/\bits .xor .u32 ((t:Int) / 2) 0=((oD t:Nat):Int):=by
 constructor
 ·have:=u32_and_nat t 1 ht (by omega);rw [nat_mask1,show t % 2=0 by omega] at this;exact this
 ·have:=u32_xor_nat (t / 2) 0 (by omega) (by omega);unfold oD;rw [if_neg hp];rw [show t / 2 ^^^ 0=t / 2 from Nat.xor_zero _] at this;exact this
theorem Ej (h:aC w v l):bF 158 #[v] w (bH w (.int .u32 (jQ l:Int))):=by
 obtain ⟨a,c,rfl,iL,gy⟩:=h.aG;have H:=ae h;unfold maxLen at gy;clear h;go_enter Tryz.func158,Tryz.ntmps158;go_wp2_with fail;go_loopw [3,8] (λs i wr=>∃ k:Nat,k<=l.length/\i= .int .i64 (k:Int)/\s= .int .u32 (mE (l.take k):Int)/\ak w wr) (λ_ i _=>l.length - (intOf i).toNat);case atStart=>exact ⟨0,fC _,rfl,rfl,ah.refl _ _⟩
 case round=>
  obtain ⟨k,hk,rfl,rfl,hq⟩:=hrel;by_cases aX:k <l.length
  ·obtain ⟨x,rfl,hx⟩:=(H.Z.keep hq).cell rfl aX;have hs:=zo aX;have xg:=uz (l.take k);have hb:=l[k].toNat_lt;unfold uy at hs;have rU:=Bn xg l[k];generalize l[k].toNat=b at hx hs hb rU;generalize mE (l.take k)=s0 at hs xg rU ⊢;have e1:bits .xor .u32 (s0:Int) (b:Int)=((s0 ^^^ b:Nat):Int):=u32_xor_nat _ _ xg (by omega);have HS:=ae hs;have j0:=np k;have j1:(k:Int) <l.length:=by omega
   generalize s0 ^^^ b=s1 at e1 HS rU;have j2:(b:Int) <256:=by omega
   clear hs hb xg;have HQ:=ae hq;clear hq;go_wp2_with fail;go_loopw [3,16] (λs i wr'=>∃ j:Nat,j<=8/\i= .int .i64 (j:Int)/\s= .int .u32 (lR j s1:Int)/\wr'=wr) (λ_ i _=>8 - (intOf i).toNat);case atStart=>exact ⟨0,fC _,rfl,rfl,rfl⟩
   case round=>
    obtain ⟨j,hj,rfl,rfl,rfl⟩:=hrel;by_cases hj8:j <8
    ·have ht:=q9 j rU;have bG:lR (j+1) s1=oD (lR j s1):=rfl;generalize lR j s1=t at bG ht ⊢;have j4:(j:Int) <8:=by omega
     by_cases hp:t % 2=1
     ·obtain ⟨e2,e3⟩:=N5 ht hp;rw [<-bG] at e3;clear bG hp;go_wp2;go_roundw;case rel=>exact ⟨j+1,by omega,rfl,by rw [Y2,e3],trivial⟩
      case measure=>simp [intOf];omega
     ·obtain ⟨e2,e3⟩:=R6 ht hp;rw [<-bG] at e3;clear bG hp;go_wp2;go_roundw;case rel=>exact ⟨j+1,by omega,rfl,by rw [Y3,e3],trivial⟩
      case measure=>simp [intOf];omega
    ·obtain rfl:j=8:=by omega
     rw [<-HS.Z];clear hj hj8;go_wp2;go_roundw;case rel=>exact ⟨k+1,by omega,rfl,rfl,HQ.Z⟩
     case measure=>simp [intOf];omega
  ·obtain rfl:k=l.length:=by omega
   rw [jX];have aX:=uz l;have HQ:=ae hq;have e:((jQ l:Nat):Int)=4294967295 - (mE l:Int):=by unfold jQ;omega
   rw [<-VK aX] at e;have E:=ae e;clear e;generalize mE l=s0 at aX E ⊢;clear hk hq;go_wp2;go_ret;exact ⟨by rw [E.Z];rfl,HQ.Z⟩
theorem Lo (h:aC w v l):bF 230 #[v] w (bH w (.int .u32 (jQ l:Int))):=by
 obtain ⟨a,c,rfl,iL,gy⟩:=h.aG;have H:=ae h;unfold maxLen at gy;clear h;go_enter Tryz.func230,Tryz.ntmps230;go_wp2_with fail;go_loopw [3,4] (λs i wr=>∃ k:Nat,k<=l.length/\i= .int .i64 (k:Int)/\s= .int .u32 (mE (l.take k):Int)/\ak w wr) (λ_ i _=>l.length - (intOf i).toNat);case atStart=>exact ⟨0,fC _,rfl,rfl,ah.refl _ _⟩
 case round=>
  obtain ⟨k,hk,rfl,rfl,hq⟩:=hrel;by_cases aX:k <l.length
  ·obtain ⟨x,rfl,hx⟩:=(H.Z.keep hq).cell rfl aX;have hs:=zo aX;have xg:=uz (l.take k);have hb:=l[k].toNat_lt;unfold uy at hs;have rU:=Bn xg l[k];generalize l[k].toNat=b at hx hs hb rU;generalize mE (l.take k)=s0 at hs xg rU ⊢;have e1:bits .xor .u32 (s0:Int) (b:Int)=((s0 ^^^ b:Nat):Int):=u32_xor_nat _ _ xg (by omega);have HS:=ae hs;have j0:=np k;have j1:(k:Int) <l.length:=by omega
   generalize s0 ^^^ b=s1 at e1 HS rU;have j2:(b:Int) <256:=by omega
   clear hs hb xg;have HQ:=ae hq;clear hq;go_wp2_with fail;go_loopw [3,5] (λs i wr'=>∃ j:Nat,j<=8/\i= .int .i64 (j:Int)/\s= .int .u32 (lR j s1:Int)/\wr'=wr) (λ_ i _=>8 - (intOf i).toNat);case atStart=>exact ⟨0,fC _,rfl,rfl,rfl⟩
   case round=>
    obtain ⟨j,hj,rfl,rfl,rfl⟩:=hrel;by_cases hj8:j <8
    ·have ht:=q9 j rU;have bG:lR (j+1) s1=oD (lR j s1):=rfl;generalize lR j s1=t at bG ht ⊢;have j4:(j:Int) <8:=by omega
     by_cases hp:t % 2=1
     ·obtain ⟨e2,e3⟩:=N5 ht hp;have yf:(t:Int) % 2=1:=by omega
      have hp3:(t:Int).tmod 2=1:=by rw [Vv (by omega)];omega
      rw [<-bG] at e3;clear bG hp e2;go_wp2;go_roundw;case rel=>exact ⟨j+1,by omega,rfl,rfl,trivial⟩
      case measure=>simp [intOf];omega
     ·have e3:oD t=t / 2:=by unfold oD;rw [if_neg hp]
      have yf:(t:Int) % 2=0:=by omega
      have hp3:(t:Int).tmod 2=0:=by rw [Vv (by omega)];omega
      rw [<-bG] at e3;clear bG hp;go_wp2;go_roundw;case rel=>exact ⟨j+1,by omega,rfl,by rw [e3];rfl,trivial⟩
      case measure=>simp [intOf];omega
    ·obtain rfl:j=8:=by omega
     rw [<-HS.Z];clear hj hj8;go_wp2;go_roundw;case rel=>exact ⟨k+1,by omega,rfl,rfl,HQ.Z⟩
     case measure=>simp [intOf];omega
  ·obtain rfl:k=l.length:=by omega
   rw [jX];have aX:=uz l;have HQ:=ae hq;have e:((jQ l:Nat):Int)=4294967295 - (mE l:Int):=by unfold jQ;omega
   have E:=ae e;clear e;generalize mE l=s0 at aX E ⊢;clear hk hq;go_wp2;go_ret;exact ⟨by rw [E.Z];rfl,HQ.Z⟩
def jR (l:aH):Nat:=l.foldl (λn b=>n*256+b.toNat) 0
theorem vV (h:k <l.length):jR (l.take (k+1))=jR (l.take k)*256+l[k].toNat:=by unfold jR;rw [wS h,Hr];rfl
theorem Bp (l:aH) (b:UInt8):jR (l++[b])=jR l*256+b.toNat:=by unfold jR;rw [Hr];rfl
theorem xh:∀ (k:Nat) (l:aH),l.length=k->jR l <256 ^ k
 | 0,l,h=>by rw [Hm h];simp [jR]
 | k+1,l,h=>by
  have hk:k <l.length:=by omega
  have e:=vV hk;rw [sU (by omega)] at e;have:=xh k (l.take k) (by simp;omega);have hb:=l[k].toNat_lt;rw [e,Nat.pow_succ];omega
theorem uA (h:aC w v l) (h8:l.length<=8):bF 62 #[v] w (bH w (.tuple #[.int .u64 (jR l:Int),.bool true])):=by
 obtain ⟨a,c,rfl,iL,gy⟩:=h.aG;have H:=ae h;unfold maxLen at gy;clear h;go_enter Tryz.func62,Tryz.ntmps62;go_wp2_with fail;go_loopw [4,12] (λs i wr=>∃ k:Nat,k<=l.length/\i= .int .i64 (k:Int)/\s= .int .u64 (jR (l.take k):Int)/\ak w wr) (λ_ i _=>l.length - (intOf i).toNat);case atStart=>exact ⟨0,fC _,rfl,rfl,ah.refl _ _⟩
 case round=>
  obtain ⟨k,hk,rfl,rfl,hq⟩:=hrel;by_cases aX:k <l.length
  ·obtain ⟨x,rfl,hx⟩:=(H.Z.keep hq).cell rfl aX;have hs:=vV aX;have xg:=xh k (l.take k) (by simp;omega);have iL:jR (l.take k) <72057594037927936:=Fv xg (by have:=K5 (n:=256) (by omega) (show k<=7 by omega);simpa using this);have hb:=l[k].toNat_lt;generalize l[k].toNat=b at hx hs hb;generalize jR (l.take k)=s0 at hs xg iL ⊢;have e1:bits .or .u64 ((s0:Int)*256) (b:Int)=((s0*256+b:Nat):Int):=by have:=u64_or_nat (s0*256) b (by omega) (by omega);rw [nat_join 8 _ _ (by omega) (by omega)] at this;exact this
   rw [<-hs] at e1;have j0:=np k;have j1:(k:Int) <l.length:=by omega
   have j2:(b:Int) <256:=by omega
   have HQ:=ae hq;clear hq xg hs hb;go_wp2;go_roundw;case rel=>exact ⟨k+1,by omega,rfl,rfl,HQ.Z⟩
   case measure=>simp [intOf];omega
  ·obtain rfl:k=l.length:=by omega
   rw [jX];have HQ:=ae hq;clear hk hq;go_wp2;go_ret2;exact ⟨rfl,HQ.Z⟩
theorem re (h:aC w v l) (h8:l.length<=8):bF 137 #[v] w (bH w (.tuple #[.int .u64 (jR l:Int),.bool true])):=by
 obtain ⟨a,c,rfl,iL,gy⟩:=h.aG;have H:=ae h;unfold maxLen at gy;go_enter Tryz.func137,Tryz.ntmps137;go_wp2_with fail;go_loopw [4,5] (λs i wr=>∃ k:Nat,k<=l.length/\i= .int .i64 (k:Int)/\s= .int .u64 (jR (l.take k):Int)/\ak w wr) (λ_ i _=>l.length - (intOf i).toNat);case atStart=>exact ⟨0,fC _,rfl,rfl,ah.refl _ _⟩
 case round=>
  obtain ⟨k,hk,rfl,rfl,hq⟩:=hrel;by_cases aX:k <l.length
  ·obtain ⟨x,rfl,hx⟩:=(H.Z.keep hq).cell rfl aX;have hs:=vV aX;have xg:=xh k (l.take k) (by simp;omega);have iL:jR (l.take k) <72057594037927936:=Fv xg (by have:=K5 (n:=256) (by omega) (show k<=7 by omega);simpa using this);have hb:=l[k].toNat_lt;generalize l[k].toNat=b at hx hs hb;generalize jR (l.take k)=s0 at hs xg iL ⊢;have j0:=np k;have j1:(k:Int) <l.length:=by omega
   have j2:(b:Int) <256:=by omega
   have HQ:=ae hq;have HS:=ae hs;go_wp2;go_roundw;case rel=>exact ⟨k+1,by omega,rfl,by rw [HS.Z];rfl,HQ.Z⟩
   case measure=>simp [intOf];omega
  ·obtain rfl:k=l.length:=by omega
   rw [jX];have HQ:=ae hq;go_wp2;go_ret2;exact ⟨rfl,HQ.Z⟩
def cN (l:aH) (at_:Nat):Nat:=jR ((l.drop at_).take 4)
theorem mF (l:aH) (at_:Nat) (h:at_+4<=l.length):cN l at_ <4294967296:=by have:=xh 4 ((l.drop at_).take 4) (by simp;omega);simpa [cN] using this
theorem aC.piece {a:Option Addr} (h:aC w (.slice a n c) l) (i j:Nat) (R7:i+j<=l.length) (Bg:0 <j):∃ x,a=some x/\aC w (.slice (some (x.add i)) j (c - i)) ((l.drop i).take j):=by
 have hl:((l.drop i).take j).length=j:=by simp;omega
 rcases h with ⟨e,rfl⟩ | ⟨x,c',e,h1,h2,h3⟩
 ·simp at R7;omega
 ·cases e;refine ⟨x,rfl,.inr ⟨_,_,by rw [hl],by omega,by omega,λk u hu=> ?_⟩⟩;rw [jc,Bc] at hu;split at hu
  ·rw [O6] at hu;rw [Addr.add_add];exact h3 _ _ (by rw [jc];exact hu)
  ·cases hu
theorem R8 {x:Addr} {len at_ z:Nat} (gy:c<=9223372036854775807) (j1:(at_:Int)+4<=(len:Int)) (j2:(len:Int)<=(c:Int)) (hz:z <4294967296) (hg:bF 62 #[.slice (some (x.add at_)) 4 (c - at_)] w (bH w (.tuple #[.int .u64 (z:Int),.bool true]))): bF 157 #[.slice (some x) len c,.int .i64 (at_:Int)] w (bH w (.tuple #[.int .u32 (z:Int),.bool true])):=by
 have j4:¬((len:Int) - 4 <(at_:Int)):=by omega
 have j5:(at_:Int)+4<=(c:Int):=by omega
 have j6:(0:Int)<=at_:=by omega
 have HG:=ae hg;go_enter Tryz.func157,Tryz.ntmps157;go_wp2_with fail;refine HG.Z.mono ?_;rintro e w' ⟨rfl,hk⟩;go_wp2;go_ret2;exact ⟨rfl,hk⟩
theorem R9 {a:Option Addr} {len:Nat} {at_:Int} (gy:c<=9223372036854775807) (j2:(len:Int)<=(c:Int)) (j0:0<=at_) (j1:(len:Int) <at_+4): bF 157 #[.slice a len c,.int .i64 at_] w (bH w (.tuple #[.int .u32 0,.bool false])):=by
 have j4:(len:Int) - 4 <at_:=by omega
 go_enter Tryz.func157,Tryz.ntmps157;go_wp2;go_ret2;exact ⟨rfl,ah.refl _ _⟩
theorem rh (h:aC w v l) (at_:Nat) (h4:at_+4<=l.length):bF 157 #[v,.int .i64 (at_:Int)] w (bH w (.tuple #[.int .u32 (cN l at_:Int),.bool true])):=by obtain ⟨a,c,rfl,iL,gy⟩:=h.aG;unfold maxLen at gy;obtain ⟨x,rfl,hp⟩:=h.piece at_ 4 h4 (by omega);exact R8 (by omega) (by omega) (by omega) (mF l at_ h4) (uA hp (by simp;omega))
theorem yx (h:aC w v l) (at_:Int) (h0:0<=at_) (h4:(l.length:Int) <at_+4):bF 157 #[v,.int .i64 at_] w (bH w (.tuple #[.int .u32 0,.bool false])):=by obtain ⟨a,c,rfl,iL,gy⟩:=h.aG;unfold maxLen at gy;exact R9 (by omega) (by omega) h0 h4
def aL (n:Nat):Nat->aH
 | 0=>[]
 | s+1=>aL (n / 256) s++[UInt8.ofNat (n % 256)]
theorem ax:∀ (s n:Nat),(aL n s).length=s
 | 0,_=>rfl
 | s+1,n=>by simp [aL,ax s]
theorem ri:∀ (s n:Nat),aL n (s+1)=UInt8.ofNat (n / 256 ^ s % 256)::aL n s
 | 0,n=>by simp [aL]
 | s+1,n=>by rw [aL,ri s,qV];congr 2;rw [Nat.div_div_eq_div_mul,Nat.pow_succ,Nat.mul_comm 256]
theorem byte_at (n k:Nat):(UInt8.ofNat (n / 256 ^ k % 256)).toNat=n / 256 ^ k % 256:=by rw [UInt8.toNat_ofNat'];omega
theorem Bq (n k:Nat):∀ (s:Nat),k+1<=s->(aL n s).drop (s - (k+1))=aL n (k+1)
 | 0,h=>by omega
 | s+1,h=>by
  by_cases e:s=k
  ·subst e;rw [CZ];rfl
  ·rw [ri s,show s+1 - (k+1)=(s - (k+1))+1 by omega,Hp];exact Bq n k s (by omega)
theorem Pt (n s k:Nat) (h:k+1<=s):(aL n s)[s - (k+1)]?=some (UInt8.ofNat (n / 256 ^ k % 256)):=by have:=congrArg (λl:aH=>l[0]?) (Bq n k s h);simp only [O6,Nat.add_zero] at this;rw [this,ri];rfl
theorem Lp (n s k:Nat) (h:k+1<=s):(aL n s).take (s - k)=(aL n s).take (s - (k+1))++[UInt8.ofNat (n / 256 ^ k % 256)]:=by rw [show s - k=(s - (k+1))+1 by omega,ym,Pt n s k h];rfl
theorem It (n k:Nat):(n:Int) / 2 ^ (8*k) % 256=((UInt8.ofNat (n / 256 ^ k % 256)).toNat:Int):=by rw [byte_at,show (256:Nat) ^ k=2 ^ (8*k) by rw [Nat.pow_mul]];simp only [Int.natCast_emod,Int.natCast_ediv,Int.natCast_pow];rfl
theorem ke (w:World) (n s:Nat) (_hn:n <18446744073709551616) (hs:s<=8) (zp:1<=s):bF 73 #[.int .u64 (n:Int),.int .i64 (s:Int)] w (nW w (aL n s)):=by
 have j0:(1:Int)<=s:=by omega
 go_enter Tryz.func73,Tryz.ntmps73;go_wp2_with fail;go_loopw [5,6] (λav i wr=>∃ k:Nat,k<=s/\i= .int .i64 ((k:Int) - 1)/\bC wr w.heap.size av ((aL n s).take (s - k))/\ak w wr) (λ_ i _=>(intOf i+1).toNat);case atStart=>exact ⟨s,eQ _,rfl,by rw [CZ];exact bC.nil _ _,ah.refl _ _⟩
 case round=>
  obtain ⟨k,hk,rfl,ho,hq⟩:=hrel;have jd:=hq.size;by_cases sB:k=0
  ·subst sB;rw [Nat.sub_zero,sU (by rw [ax];omega)] at ho;obtain ⟨aa,ac,rfl,q1,q2⟩:=ho.bytes.aG;have HO:=ae ho;have HQ:=ae hq;go_wp2;go_ret;exact ⟨_,rfl,HO.Z,HQ.Z⟩
  ·obtain ⟨k',rfl⟩:∃ k',k=k'+1:=⟨k - 1,by omega⟩;have i0:((k'+1:Nat):Int) - 1=(k':Int):=by omega
   rw [i0];have i1:(0:Int)<=k':=by omega
   have i2:(k':Int) <8:=by omega
   have e1:=It n k';have e2:=Lp n s k' hk;have e3:((aL n s).take (s - (k'+1))).length<=8:=by rw [nM,ax];omega
   generalize (aL n s).take (s - (k'+1))=L at ho e2 e3;generalize UInt8.ofNat (n / 256 ^ k' % 256)=b at e1 e2;have iI:ak wr (wr.alloc (.cells #[.int .u8 (b.toNat:Int)] 5)):=(ah.refl _ _).alloc _;obtain ⟨v',w3,aT,fy,dN⟩:=bC.grow (by simp only [World.size_alloc];omega) (ho.keep iI) (gP wr b) (by simp only [iM,gN];omega);have yw:ak w w3:=(hq.trans iI (λ_ _ e=>e)).trans dN (λb hb e=>by have:=du ho b e;omega);obtain ⟨aa,ac,rfl,q1,q2⟩:=ho.bytes.aG;obtain ⟨VI,VJ,rfl,_,_⟩:=fy.bytes.aG;have HR:=ae (⟨k',by omega,rfl,by rw [e2];exact fy,yw⟩:∃ k:Nat,k<=s/\Value.int .i64 ((k':Int) - 1)= .int .i64 ((k:Int) - 1)/\bC w3 w.heap.size (.slice VI (L++[b]).length VJ) ((aL n s).take (s - k))/\ak w w3);have kA:=ae aT;generalize b.toNat=bb at e1 kA;go_wp2_with (at_builtin;refine ao rfl _ _ _ _ rfl rfl rfl kA.Z ?_);go_roundw;case rel=>have h:=HR.Z;simp only [fS,iM,gN] at h;exact h
   case measure=>simp only [intOf];omega
theorem Pu (w:World) (n:Nat) (hn:n<=140737488355328):∃ w',(Instr.makeSlice 22 (.int .i64 (n:Int)) (.int .i64 (n:Int))).run Tryz.prog w= .ok (.slice (some ⟨w.heap.size,0,none⟩) n n) w'/\ bC w' w.heap.size (.slice (some ⟨w.heap.size,0,none⟩) n n) (List.replicate n 0)/\ak w w':=by
 obtain ⟨i0,hi,rS,iH,jO⟩:=info_parts jN;obtain ⟨w',hr,ho,hg⟩:=run_make_full (P:=Tryz.prog) w w.heap.size 22 5 i0 _ 1 Tryz.underlying22 hi rS iH .i64 .i64 n (by rw [jO];omega) (by unfold maxLen;omega) (eQ _);have e:(madeCells (Value.int .u8 0).cells (n*1)).toList=(List.replicate n (0:UInt8)).map dF:=by
  apply List.ext_getElem?;intro i;simp only [madeCells,Array.toList_map,jc,Array.toList_range,yp,List.getElem?_replicate];by_cases h:i <n
  ·simp [h,Value.cells,dF];rw [Nat.mod_one];rfl
  ·simp [h]
 rw [e] at ho;refine ⟨w',hr, ?_,(ah.fH hg).mono (λ_ _ e=>by cases e)⟩;unfold bC;rw [O4];exact ho
theorem bC.set {w:World} {base g n c:Nat} {l:aH} (h:bC w base (.slice (some ⟨g,0,none⟩) n c) l) {i:Nat} (hi:i <l.length) (b:UInt8): bC (w.setCell ⟨g,i,none⟩ (.int .u8 (b.toNat:Int))) base (.slice (some ⟨g,0,none⟩) n c) (l.set i b)/\(∃ u,w.cell? ⟨g,i,none⟩=some u)/\w.frozen? ⟨g,i,none⟩=false/\ah (λx=>x=g) w (w.setCell ⟨g,i,none⟩ (.int .u8 (b.toNat:Int))):=by
 obtain ⟨h1,h2⟩:=h;rcases h2 with ⟨e,_⟩ | ⟨g',cap,gp,e,hg,hb,h3,h4,h5,h6⟩
 ·cases e
 ·cases e;have Rp:i <gp.size:=by omega
  refine ⟨⟨by simp,.inr ⟨g,c,_,by rw [yo],hg,bf hb i _,by rw [yo];exact h3,h4,by simp;omega, ?_⟩⟩,⟨gp[i],ag hb (by simp [Rp])⟩,cL hb i,ah.setCell (F:=λx=>x=g) (p:=⟨g,i,none⟩) (ah.refl _ w) (λ_=>rfl) _⟩;rw [yo];simp only [yp] at h6 ⊢;rw [K9,<-h6];simp [List.take_set,dF]
theorem Sa (n k j:Nat):(List.replicate (j+1) (0:UInt8)++aL n k).set j (UInt8.ofNat (n / 256 ^ k % 256))=List.replicate j 0++aL n (k+1):=by rw [ri,List.replicate_succ',lN,List.set_append_right _ _ (by simp)];simp
theorem ly (w:World) (n s:Nat) (_hn:n <18446744073709551616) (hs:s<=8):bF 44 #[.int .u64 (n:Int),.int .i64 (s:Int)] w (nW w (aL n s)):=by
 have j0:(0:Int)<=s:=by omega
 have j1:(s:Int)<=8:=by omega
 obtain ⟨w1,hmk,fT,Ay⟩:=Pu w s (by omega);have FL:=ae fT;have UY:=ae Ay;go_enter Tryz.func44,Tryz.ntmps44;go_wp2_with fail;go_loopw [16] (λi wr=>∃ k:Nat,k<=s/\i= .int .i64 (k:Int)/\bC wr w.heap.size (.slice (some ⟨w.heap.size,0,none⟩) s s) (List.replicate (s - k) 0++aL n k)/\ak w wr) (λi _=>(s:Nat) - (intOf i).toNat);case atStart=>exact ⟨0,fC _,rfl,by simpa [aL] using FL.Z,UY.Z⟩
 case round=>
  obtain ⟨k,hk,rfl,ho,hq⟩:=hrel;by_cases aX:k <s
  ·obtain ⟨j,hj⟩:∃ j,s=k+(j+1):=⟨s - (k+1),by omega⟩;have e0:(s:Int) - 1 - (k:Int)=(j:Int):=by omega
   rw [show s - k=j+1 by omega] at ho;have e1:=It n k;have e2:=Sa n k j;generalize UInt8.ofNat (n / 256 ^ k % 256)=b at e1 e2;obtain ⟨dy,⟨u,hu⟩,hf,cg⟩:=ho.set (i:=j) (by simp;omega) b;rw [e2] at dy;have iI:ak w (wr.setCell ⟨w.heap.size,j,none⟩ (.int .u8 (b.toNat:Int))):=hq.trans cg (λx hx e=>by omega);have HR:=ae (⟨k+1,by omega,rfl,by rw [show s - (k+1)=j by omega];exact dy,iI⟩:∃ k':Nat,k'<=s/\Value.int .i64 ((k+1:Nat):Int)= .int .i64 (k':Int)/\bC (wr.setCell ⟨w.heap.size,j,none⟩ (.int .u8 (b.toNat:Int))) w.heap.size (.slice (some ⟨w.heap.size,0,none⟩) s s) (List.replicate (s - k') 0++aL n k')/\ak w (wr.setCell ⟨w.heap.size,j,none⟩ (.int .u8 (b.toNat:Int))));have i1:(k:Int) <s:=by omega
   have i2:(j:Int) <s:=by omega
   have i3:=np j;generalize b.toNat=bb at e1 HR;go_wp2;go_roundw;case rel=>exact HR.Z
   case measure=>simp [intOf];omega
  ·obtain rfl:k=s:=by omega
   rw [CZ] at ho;have HO:=ae ho;have HQ:=ae hq;go_wp2;go_ret;exact ⟨_,rfl,HO.Z,HQ.Z⟩
def bu (p:aH):aH:=aL p.length 4++aL (jQ (aL p.length 4++p)) 4++p
theorem dh (p:aH):(bu p).length=8+p.length:=by simp [bu,ax];omega
theorem td (l:aH):jQ l <4294967296:=by unfold jQ;omega
theorem bC.more {base:Nat} (hz:base<=wr.heap.size) (ho:bC wr base v l) (hp:aC wr pv p) (hb:l.length+p.length<=140737488355328) (hk:ak w wr) (hw:w.heap.size<=base): ∃ v' w',(Builtin.append_ #[22,22] 22 #[v,pv]).run Tryz.prog wr= .ok v' w'/\bC w' base v' (l++p)/\ak w w':=by obtain ⟨v',w',hr,h2,cg⟩:=ho.grow hz hp hb;exact ⟨v',w',hr,h2,hk.trans cg (λb hb e=>by have:=(du ho b e).2;omega)⟩
theorem bC.aG {base:Nat} (h:bC w base v l) (dO:l≠ []):∃ g c,v= .slice (some ⟨g,0,none⟩) l.length c/\l.length<=c/\c<=maxLen/\bQ (λb=>base<=b) w (.slice (some ⟨g,0,none⟩) l.length l.length) l:=by
 obtain ⟨h1,h2⟩:=h;rcases h2 with ⟨rfl,e⟩ | ⟨g,cap,gp,rfl,hg,hb,h3,h4,h5,h6⟩
 ·exact absurd (Hm e) dO
 ·refine ⟨g,cap,rfl,h3,h4,.inr ⟨g,0,l.length,gp,_,rfl,hg,hb,eQ _,by omega,by omega,λi x hx=> ?_⟩⟩;have e:=congrArg (λt:List Value=>t[i]?) h6;have hi:i <l.length:=(List.getElem?_eq_some_iff.1 hx).1;simp only [yp,Bc,hi,if_true,jc,hx,Ar] at e;rw [fw];simpa [dF] using e
theorem zq (h:aC w v p) (hp:p.length<=1099511627776):bF 155 #[v] w (nW w (bu p)):=by
 obtain ⟨a,c,rfl,iL,gy⟩:=h.aG;have H:=ae h;clear h;have qp:=ly w p.length 4 (by omega) (by omega);go_enter Tryz.func155,Tryz.ntmps155;go_wp2_with fail;refine qp.mono ?_;rintro e w1 ⟨v1,rfl,fT,bN⟩;have my:(aL p.length 4).length=4:=ax _ _;obtain ⟨g,c1,rfl,q1,q2,XQ⟩:=fT.aG (by intro e;rw [e] at my;simp at my);obtain ⟨i0,hi,rS,iH,jO⟩:=info_parts jN;obtain ⟨v2,w2,iY,uV,cg,_⟩:=sY (P:=Tryz.prog) 22 22 22 5 i0 _ Tryz.underlying22 Tryz.underlying22 hi rS iH jO rfl XQ (H.Z.keep bN) rfl (by omega);obtain ⟨a2,c2,rfl,_,_⟩:=uV.aG;have yy:=Ej uV.reads;rw [fS,my] at yy iY;rw [my] at q1;unfold maxLen at q2;have j2:(4:Int)<=c1:=by omega
 have HO:=ae fT;have HK:=ae (bN.trans cg (λ_ _ e=>e));have oE:=ae cg;have kA:=ae iY;have Hc:=ae yy;rw [my];clear qp fT bN cg XQ uV iY yy;go_wp2_with (at_builtin;refine ao (w:=w1) rfl _ _ _ _ rfl rfl rfl kA.Z ?_);refine Hc.Z.mono ?_;rintro e w3 ⟨rfl,dN⟩;obtain ⟨cc,qg⟩:=cE (jQ (aL p.length 4++p));have aX:=td (aL p.length 4++p);have po:bu p=aL p.length 4++aL cc 4++p:=by rw [qg];rfl
 rw [<-qg] at aX ⊢;have Iu:=ly w3 cc 4 (by omega) (by omega);have HF:=ae po;have pU:=ae dN;clear dN po qg;go_wp2_with fail;refine Iu.mono ?_;rintro e w4 ⟨v4,rfl,lz,eA⟩;have aaW:ak w1 w4:=(oE.Z.trans pU.Z (λ_ _ e=>e)).trans eA (λ_ _ e=>e);have kk4:ak w w4:=(HK.Z.trans pU.Z (λ_ _ e=>e)).trans eA (λ_ _ e=>e);obtain ⟨v5,w5,tj,ju,fB⟩:=(HO.Z.keep aaW).more kk4.size lz.bytes.reads (by rw [ax,ax];omega) kk4 (eQ _);obtain ⟨v6,w6,nX,oy,gZ⟩:=ju.more fB.size (H.Z.keep fB) (by rw [fS,ax,ax];omega) fB (eQ _);obtain ⟨a4,c4,rfl,_,_⟩:=lz.bytes.aG;obtain ⟨a5,c5,rfl,_,_⟩:=ju.bytes.aG;obtain ⟨a6,c6,rfl,_,_⟩:=oy.bytes.aG;have Lq:(aL cc 4).length=4:=ax _ _;have Sb:(aL p.length 4++aL cc 4).length=8:=by rw [fS,ax,ax]
 rw [my,Lq,Sb] at tj;rw [Sb] at nX;rw [Lq];obtain ⟨n6,N6⟩:=cE ((aL p.length 4++aL cc 4++p).length);rw [<-N6] at nX oy;rw [<-HF.Z] at oy;have aaX:=ae tj;have Sc:=ae nX;have HP:=ae oy;have HPK:=ae gZ;clear tj nX lz ju oy eA fB gZ aaW kk4 Iu j2 aX my Lq Sb N6;go_wp2_with (at_builtin;(first | (refine ao (w:=w4) rfl _ _ _ _ rfl rfl rfl aaX.Z ?_) | (refine ao (w:=w5) rfl _ _ _ _ rfl rfl rfl Sc.Z ?_)));go_ret;exact ⟨_,rfl,HP.Z,HPK.Z⟩
theorem rj (h:aC w v p) (hp:p.length<=1099511627776):bF 203 #[v] w (nW w (bu p)):=by
 obtain ⟨a,c,rfl,iL,gy⟩:=h.aG;have H:=ae h;clear h;have qp:=ke w p.length 4 (by omega) (by omega) (by omega);go_enter Tryz.func203,Tryz.ntmps203;go_wp2_with fail;refine qp.mono ?_;rintro e w1 ⟨v1,rfl,fT,bN⟩;have my:(aL p.length 4).length=4:=ax _ _;have AZ:=fO fT.bytes.reads (by omega);obtain ⟨a1,c1,rfl,_,_⟩:=fT.bytes.aG;rw [my] at AZ ⊢;have HO:=ae fT;have HK:=ae bN;clear fT bN qp;go_wp2_with fail;refine AZ.mono ?_;rintro e w2 ⟨v2,rfl,dy,cg⟩;have kk2:ak w w2:=HK.Z.trans cg (λ_ _ e=>e);obtain ⟨v3,w3,jw,fy,dN⟩:=dy.more (w:=w1) cg.size (H.Z.keep kk2) (by omega) cg (eQ _);have yy:=Lo fy.bytes.reads;obtain ⟨a2,c2,rfl,_,_⟩:=dy.bytes.aG;obtain ⟨a3,c3,rfl,_,_⟩:=fy.bytes.aG;rw [my] at jw ⊢;obtain ⟨n3,XR⟩:=cE ((aL p.length 4++p).length);rw [<-XR] at jw yy;have aaY:=ae jw;have Hc:=ae yy;have pU:=ae dN;clear jw yy dN dy fy cg kk2 AZ my XR;go_wp2_with (at_builtin;(first | (refine ao (w:=w2) rfl _ _ _ _ rfl rfl rfl aaY.Z ?_)));refine Hc.Z.mono ?_;rintro e w4 ⟨rfl,eA⟩;obtain ⟨cc,qg⟩:=cE (jQ (aL p.length 4++p));have aX:=td (aL p.length 4++p);have po:bu p=aL p.length 4++aL cc 4++p:=by rw [qg];rfl
 rw [<-qg] at aX ⊢;have Iu:=ke w4 cc 4 (by omega) (by omega) (by omega);have HF:=ae po;have C2:=ae eA;clear eA po qg;go_wp2_with fail;refine Iu.mono ?_;rintro e w5 ⟨v5,rfl,ju,fB⟩;have Y4:ak w1 w5:=(pU.Z.trans C2.Z (λ_ _ e=>e)).trans fB (λ_ _ e=>e);have kk5:ak w w5:=HK.Z.trans Y4 (λ_ _ e=>e);obtain ⟨v6,w6,nX,oy,gZ⟩:=(HO.Z.keep Y4).more kk5.size ju.bytes.reads (by rw [ax,ax];omega) kk5 (eQ _);obtain ⟨v7,w7,jS,oz,jf⟩:=oy.more gZ.size (H.Z.keep gZ) (by rw [fS,ax,ax];omega) gZ (eQ _);obtain ⟨a5,c5,rfl,_,_⟩:=ju.bytes.aG;obtain ⟨a6,c6,rfl,_,_⟩:=oy.bytes.aG;obtain ⟨a7,c7,rfl,_,_⟩:=oz.bytes.aG;have my:(aL p.length 4).length=4:=ax _ _;have Lq:(aL cc 4).length=4:=ax _ _;have Sb:(aL p.length 4++aL cc 4).length=8:=by rw [fS,ax,ax]
 rw [my,Lq,Sb] at nX;rw [Sb] at jS;rw [Lq];obtain ⟨n6,N6⟩:=cE ((aL p.length 4++aL cc 4++p).length);rw [<-N6] at jS oz;rw [<-HF.Z] at oz;have Sc:=ae nX;have aaZ:=ae jS;have HP:=ae oz;have HPK:=ae jf;clear nX jS ju oy oz fB gZ jf Y4 kk5 Iu aX my Lq Sb N6;go_wp2_with (at_builtin;(first | (refine ao (w:=w5) rfl _ _ _ _ rfl rfl rfl Sc.Z ?_) | (refine ao (w:=w6) rfl _ _ _ _ rfl rfl rfl aaZ.Z ?_)));go_ret;exact ⟨_,rfl,HP.Z,HPK.Z⟩
theorem Lr {α:Type} (l:List α) (h:l.length=k+1):∃ m c,l=m++[c]/\m.length=k:=by refine ⟨l.dropLast,l.getLast (by intro e;rw [e] at h;simp at h),(List.dropLast_concat_getLast _).symm,by simp [h]⟩
theorem tq:∀ (k:Nat) (l:aH),l.length=k->aL (jR l) k=l
 | 0,l,h=>by rw [Hm h];rfl
 | k+1,l,h=>by obtain ⟨m,c,rfl,hm⟩:=Lr l h;have hc:=c.toNat_lt;rw [Bp,aL,show (jR m*256+c.toNat) / 256=jR m by omega,show (jR m*256+c.toNat) % 256=c.toNat by omega,tq k m hm];simp
theorem eO:∀ (k n:Nat),n <256 ^ k->jR (aL n k)=n
 | 0,n,h=>by simp at h;subst h;rfl
 | k+1,n,h=>by rw [Nat.pow_succ] at h;rw [aL,Bp,eO k (n / 256) (by omega),UInt8.toNat_ofNat'];omega
theorem Pv (ha:a <256 ^ k) (hb:b <256 ^ k) (h:aL a k=aL b k):a=b:=by rw [<-eO k a ha,h,eO k b hb]
def nA (l:aH) (a:Nat):aH:=(l.drop (a+8)).take (cN l a)
def iw (l:aH) (a:Nat):Prop:=
 a+8<=l.length/\cN l a<=1048576/\a+8+cN l a<=l.length/\jQ (aL (cN l a) 4++nA l a)=cN l (a+4)
instance (l:aH) (a:Nat):Decidable (iw l a):=by unfold iw;infer_instance
def cS (l:aH):Nat->Nat->List aH × Nat
 | 0,a=>([],a)
 | f+1,a=>if iw l a then (nA l a::(cS l f (a+8+cN l a)).1,(cS l f (a+8+cN l a)).2) else ([],a)
def dJ (l:aH):List aH × Nat:=cS l (l.length+1) 0
theorem lS (h:a+8+cN l a<=l.length):(nA l a).length=cN l a:=by unfold nA;rw [nM,iN];omega
theorem vW {α:Type} (l:List α) (a i j:Nat):(l.drop a).take (i+j)=(l.drop a).take i++(l.drop (a+i)).take j:=by rw [List.take_add,K8]
theorem Iv (h8:a+8<=l.length) (h:a+8+cN l a<=l.length): bu (nA l a)=(l.drop a).take (8+cN l a)↔jQ (aL (cN l a) 4++nA l a)=cN l (a+4):=by
 have hl:=lS h;have e:(l.drop a).take (8+cN l a)=(l.drop a).take 4++(l.drop (a+4)).take 4++nA l a:=by rw [show (8:Nat)=4+4 by rfl,vW,vW];rfl
 have e1:aL (cN l a) 4=(l.drop a).take 4:=tq 4 _ (by rw [nM,iN];omega);have e2:aL (cN l (a+4)) 4=(l.drop (a+4)).take 4:=tq 4 _ (by rw [nM,iN];omega);unfold bu;rw [hl,e,e1];constructor
 ·intro h2;have h3:=List.append_cancel_right h2;have h4:=List.append_cancel_left h3;rw [<-e2] at h4;exact Pv (td _) (mF l (a+4) (by omega)) h4
 ·intro h2;rw [h2,e2]
theorem Lt {x:aH} (hx:x.length=4):cN (pre++(x++post)) pre.length=jR x:=by unfold cN;rw [Ht,CW (by omega),sU (by omega)]
theorem yz {x:aH} (e:l=pre++(x++post)) (ha:a=pre.length) (hx:x.length=4):cN l a=jR x:=by subst e;subst ha;exact Lt hx
theorem Iw (e:l=pre++(bu p++post)) (hp:p.length<=1048576):cN l pre.length=p.length/\nA l pre.length=p/\iw l pre.length:=by
 have hf:bu p=aL p.length 4++aL (jQ (aL p.length 4++p)) 4++p:=rfl;have w1:cN l pre.length=p.length:=by rw [yz (x:=aL p.length 4) (pre:=pre) (post:=aL (jQ (aL p.length 4++p)) 4++(p++post)) (by rw [e,hf];simp only [lN]) rfl (ax _ _)];exact eO 4 _ (by omega)
 have w2:cN l (pre.length+4)=jQ (aL p.length 4++p):=by rw [yz (x:=aL (jQ (aL p.length 4++p)) 4) (pre:=pre++aL p.length 4) (post:=p++post) (by rw [e,hf];simp only [lN]) (by rw [fS,ax]) (ax _ _)];exact eO 4 _ (td _)
 have hr:nA l pre.length=p:=by
  unfold nA;rw [w1];have:l=(pre++aL p.length 4++aL (jQ (aL p.length 4++p)) 4)++(p++post):=by rw [e,hf];simp only [lN]
  rw [this,show pre.length+8=(pre++aL p.length 4++aL (jQ (aL p.length 4++p)) 4).length by simp only [fS,ax],Ht,CW (eQ _),jX]
 have cU:l.length=pre.length+8+p.length+post.length:=by rw [e,fS,fS,dh];omega
 refine ⟨w1,hr, ?_, ?_, ?_, ?_⟩
 ·omega
 ·omega
 ·omega
 ·rw [hr,w1,w2]
def aj (rs:List aH):aH:=(rs.map bu).flatten
theorem jg:aj []=[]:=rfl
theorem kV (p:aH) (rs:List aH):aj (p::rs)=bu p++aj rs:=rfl
theorem lg (a b:List aH):aj (a++b)=aj a++aj b:=by simp [aj]
theorem zr:∀ (rs:List aH) (l pre post:aH) (f:Nat),(∀ p ∈ rs,p.length<=1048576)->l=pre++(aj rs++post)-> cS l (rs.length+f) pre.length=(rs++(cS l f (pre++aj rs).length).1,(cS l f (pre++aj rs).length).2)
 | [],l,pre,post,f,_,_=>by simp [jg]
 | p::rs,l,pre,post,f,h,e=>by
  have e1:l=pre++(bu p++(aj rs++post)):=by rw [e,kV];simp only [lN]
  obtain ⟨w1,r1,f1⟩:=Iw e1 (h p (gw ..));have e2:l=(pre++bu p)++(aj rs++post):=by rw [e1];simp only [lN]
  have ih:=zr rs l (pre++bu p) post f (λq hq=>h q (nO _ hq)) e2;have ea:pre.length+8+p.length=(pre++bu p).length:=by rw [fS,dh];omega
  rw [show (p::rs).length+f=(rs.length+f)+1 by simp;omega,cS,if_pos f1,w1,r1,ea,ih,kV];simp only [lN,qV]
theorem Ek {l:aH}:∀ (f g a:Nat),l.length <a+f->l.length <a+g->cS l f a=cS l g a
 | 0,0,_,_,_=>rfl
 | 0,g+1,a,h,_=>by
  rw [cS,cS,if_neg (by unfold iw;omega)]
 | f+1,0,a,_,h=>by
  rw [cS,cS,if_neg (by unfold iw;omega)]
 | f+1,g+1,a,h1,h2=>by
  rw [cS,cS];by_cases hf:iw l a
  ·rw [if_pos hf,if_pos hf];have e:=Ek (l:=l) f g (a+8+cN l a) (by omega) (by omega);rw [e]
  ·rw [if_neg hf,if_neg hf]
theorem tu {rs:List aH} (h:∀ p ∈ rs,p.length<=1048576) (e:l=aj rs++post): dJ l=(rs++(cS l (l.length+1) (aj rs).length).1,(cS l (l.length+1) (aj rs).length).2):=by have:=zr rs l [] post (l.length+1) h (by rw [e];rfl);unfold dJ;rw [Ek (l.length+1) (rs.length+(l.length+1)) 0 (by omega) (by omega)];simpa using this
theorem Lu {rs:List aH} (h:∀ p ∈ rs,p.length<=1048576):dJ (aj rs)=(rs,(aj rs).length):=by rw [tu (post:=[]) h (by simp)];rw [show cS (aj rs) ((aj rs).length+1) (aj rs).length=([],(aj rs).length) by rw [cS,if_neg (by unfold iw;omega)]];simp
theorem zt {l:aH}:∀ (f a:Nat),a<=l.length->(cS l f a).2<=l.length
 | 0,a,h=>h
 | f+1,a,h=>by
  rw [cS];split
  ·rename_i hf;exact zt f _ hf.2.2.1
  ·exact h
theorem uC (l:aH):(dJ l).2<=l.length:=zt _ _ (fC _)
theorem oF {l:aH}:∀ (f a:Nat),∀ p ∈ (cS l f a).1,p.length<=1048576
 | 0,a,p,hp=>by simp [cS] at hp
 | f+1,a,p,hp=>by
  rw [cS] at hp;split at hp
  ·rename_i hf;rcases List.mem_cons.1 hp with rfl | hp
   ·rw [lS hf.2.2.1];exact hf.2.1
   ·exact oF f _ p hp
  ·simp at hp
theorem lh {l:aH}:∀ (f a:Nat),a<=l.length->(cS l f a).2=a+(aj (cS l f a).1).length/\(l.drop a).take (aj (cS l f a).1).length=aj (cS l f a).1
 | 0,a,h=>by simp [cS,jg]
 | f+1,a,h=>by
  rw [cS];by_cases hf:iw l a
  ·rw [if_pos hf];obtain ⟨h1,h2,h3,h4⟩:=hf;obtain ⟨i1,i2⟩:=lh f (a+8+cN l a) h3;have po:=(Iv h1 h3).2 h4;have hl:=lS h3;simp only [kV];constructor
   ·rw [i1,fS,dh,hl];omega
   ·rw [fS,vW,dh,hl,<-po];congr 1;rw [show a+(8+cN l a)=a+8+cN l a by omega];exact i2
  ·rw [if_neg hf];simp [jg]
theorem Lv:(Tryz.prog.info? 22).map (λi=>(i.zero,i.size,i.bytes))=some (some (.slice none 0 0),1,24):=by kernel_rfl
theorem Ix {base:Nat} {p:Value} {ps:List Value} (h:w.ownsRow base 22 1 v n ps) (hz:base<=w.heap.size) (hp:p.oneCell'=true) (hb:n <1099511627776): ∃ v' w',(Builtin.append_ #[138,138] 138 #[v,.slice (some ⟨w.heap.size,0,none⟩) 1 1]).run Tryz.prog (w.alloc (.cells #[p] 22))= .ok v' w'/\w'.ownsRow base 22 1 v' (n+1) (ps++[p])/\ ah (λb=>v.ownBlock=some b) w w'/\(v'.ownBlock=v.ownBlock\/v'.ownBlock=some (w.heap.size+1)):=by
 obtain ⟨i0,hi,rS,iH,jO⟩:=info_parts Lv;obtain ⟨v',w',aT,dy,hg,_,jP⟩:=run_append_own_at (P:=Tryz.prog) (w.alloc (.cells #[p] 22)) base 138 138 22 i0 _ 1 24 Tryz.underlying138 hi rS iH jO rfl (by omega) v n ps (h.alloc _) ⟨w.heap.size,0,none⟩ 1 1 [p] rfl
  (λj u hu=>by rw [iV,fw];exact ag (heap_alloc_new w _) (by simpa using hu))
  (by intro u hu;simp at hu;subst hu;exact hp) (by unfold maxLen;omega) (by omega) (by simp only [World.size_alloc];omega)
 refine ⟨v',w',aT,dy,((ah.refl _ w).alloc _).trans (ah.fH hg) (λ_ _ h=>h), ?_⟩;simpa using jP
theorem Br {base:Nat} (h:w.ownsRow base e 1 v n xs) (hk:ah F w w') (hF:∀ b,v.ownBlock=some b->¬F b):w'.ownsRow base e 1 v n xs:=by
 obtain ⟨h1,h2⟩:=h;refine ⟨h1, ?_⟩;rcases h2 with h2 | ⟨g,cap,gp,rfl,hg,hb,h3,h4,h5,h6⟩
 ·exact .inl h2
 ·exact .inr ⟨g,cap,gp,rfl,hg,hk.at hb (hF g rfl),h3,h4,h5,h6⟩
theorem yA {base:Nat} (h:w.ownsRow base e 1 v n xs):∀ b,v.ownBlock=some b->b <w.heap.size/\base<=b:=by
 rcases h.2 with ⟨rfl,_⟩ | ⟨g,cap,gp,rfl,hg,hb,_⟩
 ·intro b hb;cases hb
 ·intro b pg;cases pg;exact ⟨bm hb,hg⟩
theorem Iy {base:Nat} (h:w.ownsRow base e 1 v n xs) (hb:base'<=base):w.ownsRow base' e 1 v n xs:=by
 obtain ⟨h1,h2⟩:=h;refine ⟨h1, ?_⟩;rcases h2 with h2 | ⟨g,cap,gp,rfl,hg,h3⟩
 ·exact .inl h2
 ·exact .inr ⟨g,cap,gp,rfl,by omega,h3⟩
theorem Bs {base n':Nat} {p:Value} {ys:List Value} (h:w.ownsRow base 22 1 v n xs) (k:w.ownsRow base' 5 1 p n' ys) (hb:v.ownBlock=some b) (pg:p.ownBlock=some b):False:=by obtain ⟨c1,e1⟩:=dp h hb;obtain ⟨c2,e2⟩:=dp k pg;have:=e1.symm.trans e2;simp at this
def et (w:World) (base:Nat) (v:Value) (ll:List aH):Prop:=
 ∃ ps:List Value,w.ownsRow base 22 1 v ll.length ps/\dX (λp l=>bC w base p l) ps ll/\ps.Pairwise (λp q=>∀ b,p.ownBlock=some b->q.ownBlock≠some b)
theorem et.nil (w:World) (base:Nat):et w base (.slice none 0 0) []:=⟨[],⟨rfl,.inl ⟨rfl,rfl⟩⟩,trivial,List.Pairwise.nil⟩
theorem dX.mem {α β:Type} {R:α->β->Prop}:∀ {l:List α} {m:List β},dX R l m->∀ a ∈ l,∃ b,R a b
 | a::xs,b::bs,h,x,hx=>by
  rcases List.mem_cons.1 hx with rfl | hx
  ·exact ⟨b,h.1⟩
  ·exact dX.mem h.2 x hx
 | [],_,_,x,hx=>by simp at hx
 | _::_,[],h,_,_=>h.elim
theorem et.aG {base:Nat} {ll:List aH} (h:et w base v ll):∃ a c,v= .slice a ll.length c:=by obtain ⟨ps,h1,_⟩:=h;exact bA h1
theorem et.keep {w w':World} {base:Nat} {v:Value} {ll:List aH} (h:et w base v ll) (hk:ak w w'):et w' base v ll:=by obtain ⟨ps,h1,h2,h3⟩:=h;exact ⟨ps,Br h1 hk (λ_ _ e=>e),h2.mono (λp l hp=>hp.keep hk),h3⟩
theorem et.push {w0:World} {base:Nat} {p:Value} {ll:List aH} (h:et w0 base v ll) (hz:base<=w0.heap.size) (sB:ak w0 w) (hp:bC w w0.heap.size p l) (hb:ll.length <1099511627776): ∃ v' w',(Builtin.append_ #[138,138] 138 #[v,.slice (some ⟨w.heap.size,0,none⟩) 1 1]).run Tryz.prog (w.alloc (.cells #[p] 22))= .ok v' w'/\et w' base v' (ll++[l])/\ah (λb=>v.ownBlock=some b) w w':=by
 obtain ⟨ps,h1,h2,h3⟩:=h;have qT:p.oneCell'=true:=by obtain ⟨a,c,rfl,_⟩:=hp.bytes.aG;rfl
 have Pw:=Br h1 sB (λ_ _ e=>e);obtain ⟨v',w',hr,ho,hk,_⟩:=Ix Pw (kT hz sB.size) qT hb;refine ⟨v',w',hr,⟨ps++[p],by rw [fS];exact ho, ?_, ?_⟩,hk⟩
 ·have yf:bC w' w0.heap.size p l:=lx hp hk (λb hb e=>Bs Pw hp e hb);refine dX.append (h2.mono (λq m hq=> ?_)) ⟨yf.base hz,trivial⟩;have hq':=hq.keep sB;exact lx hq' hk (λb hb e=>Bs Pw hq' e hb)
 ·rw [List.pairwise_append];refine ⟨h3,List.pairwise_singleton ..,λq hq r hr b hb e=> ?_⟩;simp at hr;subst hr;obtain ⟨m,hm⟩:=h2.mem q hq;have e1:=du hm b hb;have e2:=du hp b e;omega
theorem Iz (hp:aC w pv p) (hb:p.length<=140737488355328): ∃ v' w',(Builtin.append_ #[22,22] 22 #[.slice (some ⟨w.heap.size,0,none⟩) 0 0,pv]).run Tryz.prog (w.alloc (.cells #[] 5))= .ok v' w'/\bC w' w.heap.size v' p/\ak w w':=by
 have hk:ak w (w.alloc (.cells #[] 5)):=(ah.refl _ w).alloc _;have ho:bC (w.alloc (.cells #[] 5)) w.heap.size (.slice (some ⟨w.heap.size,0,none⟩) 0 0) []:=
  ⟨rfl,.inr ⟨w.heap.size,0,#[],rfl,eQ _,heap_alloc_new w _,eQ _,fC _,by simp,by simp⟩⟩
 obtain ⟨v',w',hr,h2,cg⟩:=ho.grow (by simp) (hp.keep hk) (by simpa using hb);refine ⟨v',w',hr,by simpa using h2,hk.trans cg (λb hb e=> ?_)⟩;have:w.heap.size=b:=by simpa [Value.ownBlock] using e
 omega
def qt (w:World) (ll:List aH) (n:Int) (e:Ending) (w':World):Prop:=∃ v,e= .returned (.tuple #[v,.int .i64 n])/\et w' w.heap.size v ll/\ak w w'
structure mG (l:aH) (f a:Nat) (done:List aH):Prop where
 su:l.length <a+f
 le:a<=l.length
 IA:8*done.length<=a
 aQ:done++(cS l f a).1=(dJ l).1
 used:(cS l f a).2=(dJ l).2
theorem mG.start (l:aH):mG l (l.length+1) 0 []:=⟨by omega,fC _,eQ _,rfl,rfl⟩
theorem mG.stop {f:Nat} (h:mG l f a done) (hn:¬iw l a):done=(dJ l).1/\a=(dJ l).2:=by
 obtain ⟨h1,h2,h3,h4,h5⟩:=h;match f,h1,h4,h5 with
 | f+1,_,h4,h5=>
  rw [cS,if_neg hn] at h4 h5;exact ⟨by simpa using h4,h5⟩
 | 0,h1,_,_=>omega
theorem mG.step {f:Nat} (h:mG l f a done) (hy:iw l a):mG l (f - 1) (a+8+cN l a) (done++[nA l a]):=by
 obtain ⟨h1,h2,h3,h4,h5⟩:=h;match f,h1,h4,h5 with
 | f+1,h1,h4,h5=>
  rw [cS,if_pos hy] at h4 h5;have:=hy.2.2.1;refine ⟨by simp only [Nat.add_sub_cancel];omega,this,by simp;omega, ?_,h5⟩;rw [lN];exact h4
 | 0,h1,_,_=>omega
theorem aC.cut {x:Addr} (h:aC w (.slice (some x) n c) l) (i j:Nat) (R7:i+j<=l.length):aC w (.slice (some (if c=i then x else x.add i)) j (c - i)) ((l.drop i).take j):=by
 have hl:((l.drop i).take j).length=j:=by simp;omega
 rcases h with ⟨e,_⟩ | ⟨x',c',e,h1,h2,h3⟩
 ·cases e
 ·cases e;refine .inr ⟨_,_,by rw [hl],by omega,by omega,λk u hu=> ?_⟩;rw [jc,Bc] at hu;split at hu
  ·rename_i hk;have dO:¬c=i:=by omega
   rw [if_neg dO];rw [O6] at hu;rw [Addr.add_add];exact h3 _ _ (by rw [jc];exact hu)
  ·cases hu
theorem gL {P:Program} {ops:Array Oper} {o:Oper} {rest:List Oper} {a:Act} {Q:Exit->Act->World->Prop} (hg:o.guard=none) (x lo hi:Operand) (t:TypeId) (ph:o.op=Op.slice t x (some lo) (some hi) none) {xv lv hv:Value} (hx:a.eval x=xv) (hl:a.eval lo=lv) (hh:a.eval hi=hv) (aT:(Instr.sliceAt t xv (some lv) (some hv) none).run P w= .ok v' w) (hK:wpList P ops Q rest (a.put o.dst v') w):wpList P ops Q (o::rest) a w:=by refine wpList_plain hg λK hK'=> ?_;unfold Oper.wp;simp [execOp,ph,hx,hl,hh,aT,Result.andThen];exact hK' _ _ hK
theorem dG:Tryz.prog.underlying 22=some (.slice (Tryz.prog.elem 22)):=by kernel_rfl
theorem lT (w:World):(sizeOf (Tryz.prog.elem 22)).run Tryz.prog w= .ok 1 w:=by kernel_rfl
theorem qu (w:World) (x:Addr) (n c i j:Nat) (h1:i+j<=c): (Instr.sliceAt 22 (.slice (some x) n c) (some (.int .i64 (i:Int))) (some (.int .i64 ((i:Int)+(j:Int)))) none).run Tryz.prog w= .ok (.slice (some (if c=i then x else x.add i)) j (c - i)) w:=by
 rw [run_sliceAt_slice _ _ _ _ _ _ dG,run_slice_lh w 22 (some x) n c dG .i64 .i64 (i:Int) ((i:Int)+j) (by omega) (by omega) (by omega),lT];have e3:((i:Int)+j).toNat=i+j:=by omega
 simp only [Result.andThen,sliced,e3,yn,yp,Ar,RO];split <;>rfl
theorem qt.mk {w2:World} {T:List aH × Nat} (h:done=T.1/\k=T.2) (ho:et w2 w.heap.size v done) (hk:ak w w2):qt w T.1 (T.2:Int) (.returned (.tuple #[v,.int .i64 (k:Int)])) w2:=by obtain ⟨rfl,rfl⟩:=h;exact ⟨v,rfl,ho,hk⟩
theorem Lx (h:aC w v l) (hb:l.length<=1099511627776):bF 119 #[v] w (qt w (dJ l).1 ((dJ l).2:Int)):=by
 obtain ⟨a,c,rfl,iL,gy⟩:=h.aG;have H:=ae h;unfold maxLen at gy;clear h;go_enter Tryz.func119,Tryz.ntmps119;go_wp2_with fail;go_loopw [4,5] (λov i wr=>∃ (f k:Nat) (done:List aH),i= .int .i64 (k:Int)/\mG l f k done/\et wr w.heap.size ov done/\ak w wr) (λ_ i _=>l.length - (intOf i).toNat);case atStart=>exact ⟨_,0,[],rfl,mG.start l,et.nil _ _,ah.refl _ _⟩
 case round=>
  obtain ⟨f,k,done,rfl,bG,pE,hq⟩:=hrel;obtain ⟨oa,oc,rfl⟩:=pE.aG;have fP:=ae bG;have CQ:=ae pE;have HQ:=ae hq;have lf:=bG.le;clear bG pE hq;by_cases h4:k+4<=l.length
  ·by_cases h8:k+8<=l.length
   ·have fh:=rh (H.Z.keep HQ.Z) k h4;have uY:=mF l k h4;obtain ⟨x,rfl⟩:∃ x,a=some x:=by
     rcases H.Z with ⟨e,e2⟩ | ⟨x,c',e,_⟩
     ·subst e2;simp at h8
     ·cases e;exact ⟨x,rfl⟩
    by_cases mo:cN l k<=1048576/\k+8+cN l k<=l.length
    ·obtain ⟨Aw,qw⟩:=mo;have hcut:=H.Z.cut (k+8) (cN l k) qw;have qx:=fP.Z.stop;have gA:=fP.Z.step;have po:iw l k↔jQ (aL (cN l k) 4++nA l k)=cN l (k+4):=⟨λh=>h.2.2.2,λh=>⟨h8,Aw,qw,h⟩⟩;rw [po] at qx gA;have Az:=lS qw;have zu:∀ w1:World,ak wr w1->bF 157 #[.slice (some x) l.length c,.int .i64 ((k:Int)+4)] w1 (bH w1 (.tuple #[.int .u32 (cN l (k+4):Int),.bool true])):=λw1 bN=>by have:=rh (H.Z.keep (HQ.Z.trans bN (λ_ _ e=>e))) (k+4) (by omega);push_cast at this;exact this
     have pn:=mF l (k+4) (by omega);change aC w _ (nA l k) at hcut;generalize cN l (k+4)=z2 at zu pn qx gA po;generalize nA l k=r at hcut qx gA po Az;generalize cN l k=z at fh uY hcut qx gA po Az Aw qw;have zv:=ae qx;have zw:=ae gA;have HW:=ae zu;have Sd:=ae hcut;have Ly:=ae Az;have i0:=np z;have b1:decide ((1048576:Int) <(z:Int))=false:=decide_eq_false (by omega);have i2:=np k;have i3:(k:Int)+8+z<=l.length:=by omega
     have i4:(l.length:Int)<=1099511627776:=by omega
     have b2:decide ((l.length:Int) - k - 8 <z)=false:=decide_eq_false (by omega);have i6:(l.length:Int)<=c:=by omega
     have i7:(z:Int) <4294967296:=by omega
     have i8:(z2:Int) <4294967296:=by omega
     have i9:(0:Int)<=z2:=by omega
     have qp:=λw2=>ly w2 z 4 (by omega) (by omega);clear qx gA zu hcut Az po lf hb h4 h8 Aw qw pn iL gy;go_wp2_with fail;refine fh.mono ?_;rintro e w1 ⟨rfl,bN⟩;have VL:=HW.Z w1 bN;have HK:=ae bN;clear bN;go_wp2_with fail;refine VL.mono ?_;rintro e w2 ⟨rfl,cg⟩;have C1:ak wr w2:=HK.Z.trans cg (λ_ _ e=>e);have oE:=ae C1;have HP:=ae (qp w2);have qy:=qu w2 x l.length c (k+8) z (by omega);push_cast at qy;generalize (if c=k+8 then x else x.add (k+8))=y at qy Sd;have HSL:=ae qy;clear cg C1 fh VL uY HW qp qy;go_wp2_with (refine gL rfl _ _ _ _ rfl rfl rfl rfl HSL.Z ?_);refine HP.Z.mono ?_;rintro e w3 ⟨v3,rfl,fy,dN⟩;have Rr:(aL z 4).length=4:=ax _ _;have sC:ak w w3:=(HQ.Z.trans oE.Z (λ_ _ e=>e)).trans dN (λ_ _ e=>e);have aa0:=dN.size;obtain ⟨v4,w4,N7,lz,eA⟩:=fy.grow aa0 (Sd.Z.keep sC) (by rw [Rr,Ly.Z];omega);have Px:ak w2 w4:=dN.trans eA (λb hb e=>by have:=du fy b e;omega);have yy:=Ej lz.bytes.reads;obtain ⟨a3,c3,rfl,_,_⟩:=fy.bytes.aG;obtain ⟨a4,c4,rfl,_,_⟩:=lz.bytes.aG;have aa1:=td (aL z 4++r);rw [fS,Rr] at N7 yy;rw [Rr];rw [Ly.Z] at N7 yy;generalize jQ (aL z 4++r)=cc at yy aa1 zv zw;have HR4:=ae N7;have HC:=ae yy;have C2:=ae (oE.Z.trans Px (λ_ _ e=>e));clear N7 fy lz dN eA Px yy aa1 Rr sC aa0;go_wp2_with (at_builtin;refine ao (w:=w3) rfl _ _ _ _ rfl rfl rfl HR4.Z ?_);refine HC.Z.mono ?_;rintro e w5 ⟨rfl,fB⟩;have XS:=ae (C2.Z.trans fB (λ_ _ e=>e));clear fB HC HR4 C2;by_cases qg:cc=z2
     ·have og:=zw.Z qg;have Py:ak w w5:=HQ.Z.trans XS.Z (λ_ _ e=>e);obtain ⟨v6,w6,nX,oy,gZ⟩:=Iz (Sd.Z.keep Py) (by rw [Ly.Z];omega);obtain ⟨v7,w7,jS,oz,jf⟩:=(CQ.Z.keep XS.Z).push Py.size gZ oy (by have:=fP.Z.IA;have:=fP.Z.le;omega);have Sf:ak w w7:=(Py.trans gZ (λ_ _ e=>e)).trans jf (λb hb e=>by obtain ⟨ps,h1,_⟩:=CQ.Z;have:=yA h1 b e;omega)
      obtain ⟨a6,c6,rfl,_,_⟩:=oy.bytes.aG;obtain ⟨a7,c7,rfl⟩:=oz.aG;rw [Ly.Z] at nX jS;have HR6:=ae nX;have Rs:=ae jS;have dE:=ae (⟨f - 1,k+8+z,done++[r],congrArg (Value.int .i64) (by omega),og,oz,Sf⟩:∃ (f' k':Nat) (IB:List aH),Value.int .i64 ((k:Int)+(8+(z:Int)))= .int .i64 (k':Int)/\mG l f' k' IB/\et w7 w.heap.size (.slice a7 (done++[r]).length c7) IB/\ak w w7);subst qg;clear nX jS oy oz gZ jf Sf Py og zv zw;go_wp2_with (at_builtin;(first | (refine ao (w:=w5.alloc (.cells #[] 5)) rfl _ _ _ _ rfl rfl rfl HR6.Z ?_) | (refine ao (w:=w6.alloc (.cells #[.slice a6 z c6] 22)) rfl _ _ _ _ rfl rfl rfl Rs.Z ?_)));go_roundw;case rel=>have h:=dE.Z;simp only [fS,iM,gN,fw] at h;exact h
      case measure=>simp [intOf];omega
     ·have cK:=zv.Z qg;have HF:=ae cK;have b3:¬(cc:Int)=(z2:Int):=by omega
      clear cK qg zv zw i7 i8 i9;go_wp2;go_ret2;exact qt.mk (v:= .slice oa done.length oc) HF.Z (CQ.Z.keep XS.Z) (HQ.Z.trans XS.Z (λ_ _ e=>e))
    ·have cK:=fP.Z.stop (λhf=>mo ⟨hf.2.1,hf.2.2.1⟩);have HF:=ae cK;have zu:∀ w1:World,ak wr w1->bF 157 #[.slice (some x) l.length c,.int .i64 ((k:Int)+4)] w1 (bH w1 (.tuple #[.int .u32 (cN l (k+4):Int),.bool true])):=λw1 bN=>by have:=rh (H.Z.keep (HQ.Z.trans bN (λ_ _ e=>e))) (k+4) (by omega);push_cast at this;exact this
     have HW:=ae zu;have pn:=mF l (k+4) (by omega);generalize cN l (k+4)=z2 at HW pn;generalize cN l k=z at fh uY mo;clear cK zu;go_wp2_with fail;refine fh.mono ?_;rintro e w1 ⟨rfl,bN⟩;have VL:=HW.Z w1 bN;have HK:=ae bN;clear bN;go_wp2_with fail;refine VL.mono ?_;rintro e w2 ⟨rfl,cg⟩;have oE:=ae cg;clear cg;have i0:=np z;have i1:(z:Int) <4294967296:=by omega
     have i2:=np k;have i3:(k:Int)+8<=l.length:=by omega
     have i4:(l.length:Int)<=1099511627776:=by omega
     by_cases hz:z<=1048576
     ·have jO:(l.length:Int) - k - 8 <z:=by omega
      have iH:¬(1048576:Int) <z:=by omega
      clear h4 h8 mo uY pn hz lf hb iL gy;go_wp2;go_ret2;exact qt.mk (v:= .slice oa done.length oc) HF.Z ((CQ.Z.keep HK.Z).keep oE.Z) ((HQ.Z.trans HK.Z (λ_ _ e=>e)).trans oE.Z (λ_ _ e=>e))
     ·have iH:(1048576:Int) <z:=by omega
      clear h4 h8 mo uY pn hz lf hb iL gy;go_wp2;go_ret2;exact qt.mk (v:= .slice oa done.length oc) HF.Z ((CQ.Z.keep HK.Z).keep oE.Z) ((HQ.Z.trans HK.Z (λ_ _ e=>e)).trans oE.Z (λ_ _ e=>e))
   ·have cK:=fP.Z.stop (by unfold iw;omega);have HF:=ae cK;have fh:=rh (H.Z.keep HQ.Z) k h4;have uY:=mF l k h4;generalize cN l k=z at fh uY;clear cK;go_wp2_with fail;refine fh.mono ?_;rintro e w1 ⟨rfl,bN⟩;have zu:=yx (H.Z.keep (HQ.Z.trans bN (λ_ _ e=>e))) ((k:Int)+4) (by omega) (by omega);have HK:=ae bN;clear bN;go_wp2_with fail;refine zu.mono ?_;rintro e w2 ⟨rfl,cg⟩;have oE:=ae cg;clear cg h4 h8;go_wp2;go_ret2;exact qt.mk (v:= .slice oa done.length oc) HF.Z ((CQ.Z.keep HK.Z).keep oE.Z) ((HQ.Z.trans HK.Z (λ_ _ e=>e)).trans oE.Z (λ_ _ e=>e))
  ·have cK:=fP.Z.stop (by unfold iw;omega);have HF:=ae cK;have fh:=yx (H.Z.keep HQ.Z) (k:Int) (by omega) (by omega);clear cK;go_wp2_with fail;refine fh.mono ?_;rintro e w1 ⟨rfl,bN⟩;have zu:=yx (H.Z.keep (HQ.Z.trans bN (λ_ _ e=>e))) ((k:Int)+4) (by omega) (by omega);have HK:=ae bN;clear bN;go_wp2_with fail;refine zu.mono ?_;rintro e w2 ⟨rfl,cg⟩;have oE:=ae cg;clear cg;go_wp2;go_ret2;exact qt.mk (v:= .slice oa done.length oc) HF.Z ((CQ.Z.keep HK.Z).keep oE.Z) ((HQ.Z.trans HK.Z (λ_ _ e=>e)).trans oE.Z (λ_ _ e=>e))
theorem IC (h:aC w v l) (hb:l.length<=1099511627776):bF 172 #[v] w (qt w (dJ l).1 ((dJ l).2:Int)):=by
 obtain ⟨a,c,rfl,iL,gy⟩:=h.aG;have H:=ae h;unfold maxLen at gy;clear h;go_enter Tryz.func172,Tryz.ntmps172;go_wp2_with fail;go_loopw [4,5] (λov i wr=>∃ (f k:Nat) (done:List aH),i= .int .i64 (k:Int)/\mG l f k done/\et wr w.heap.size ov done/\ak w wr) (λ_ i _=>l.length - (intOf i).toNat);case atStart=>exact ⟨_,0,[],rfl,mG.start l,et.nil _ _,ah.refl _ _⟩
 case round=>
  obtain ⟨f,k,done,rfl,bG,pE,hq⟩:=hrel;obtain ⟨oa,oc,rfl⟩:=pE.aG;have fP:=ae bG;have CQ:=ae pE;have HQ:=ae hq;have lf:=bG.le;clear bG pE hq;have i2:=np k;have i2a:(k:Int)<=l.length:=by omega
  have i4:(l.length:Int)<=1099511627776:=by omega
  by_cases h8:k+8<=l.length
  ·have h4:k+4<=l.length:=by omega
   obtain ⟨x,rfl⟩:∃ x,a=some x:=by
    rcases H.Z with ⟨e,e2⟩ | ⟨x,c',e,_⟩
    ·subst e2;simp at h8
    ·cases e;exact ⟨x,rfl⟩
   have b0:decide ((8:Int)<=(l.length:Int) - k)=true:=decide_eq_true (by omega);have hp4:aC wr _ _:=(H.Z.keep HQ.Z).cut k 4 h4;have hg:=re hp4 (by simp;omega);have VM:=qu wr x l.length c k 4 (by omega);have uY:=mF l k h4;change Calls _ _ _ _ (bH wr (.tuple #[.int .u64 (cN l k:Int),.bool true])) at hg;push_cast at VM;generalize (if c=k then x else x.add k)=y0 at VM hg;have HG:=ae hg;have VN:=ae VM;clear hp4 hg VM;by_cases mo:cN l k<=1048576/\k+8+cN l k<=l.length
   ·obtain ⟨Aw,qw⟩:=mo;have hcut:=H.Z.cut (k+8) (cN l k) qw;have zx:=H.Z.cut k (8+cN l k) (by omega);have qx:=fP.Z.stop;have gA:=fP.Z.step;have po:iw l k↔jQ (aL (cN l k) 4++nA l k)=cN l (k+4):=⟨λh=>h.2.2.2,λh=>⟨h8,Aw,qw,h⟩⟩;rw [<-Iv h8 qw] at po;rw [po] at qx gA;have Az:=lS qw;have N8:((l.drop k).take (8+cN l k)).length=8+cN l k:=by simp;omega
    change aC w _ (nA l k) at hcut;generalize (l.drop k).take (8+cN l k)=m at zx qx gA po N8;generalize nA l k=r at hcut qx gA po Az;generalize cN l k=z at HG uY hcut zx qx gA po Az Aw qw N8;have zv:=ae qx;have zw:=ae gA;have Ly:=ae Az;have qy:=λw2=>qu w2 x l.length c (k+8) z (by omega);have Sg:=λw2=>qu w2 x l.length c k (8+z) (by omega);push_cast at qy Sg;rw [<-Int.add_assoc] at Sg;generalize (if c=k+8 then x else x.add (k+8))=y at qy hcut;generalize (if c=k then x else x.add k)=y2 at Sg zx;have Sd:=ae hcut;have XT:=ae zx;have HSL:=ae qy;have aa2:=ae Sg;have i0:=np z;have b1:decide ((1048576:Int) <(z:Int))=false:=decide_eq_false (by omega);have i3:(k:Int)+8+z<=l.length:=by omega
    have b2:decide ((l.length:Int) - k - 8 <z)=false:=decide_eq_false (by omega);have i7:(z:Int) <4294967296:=by omega
    clear qx gA hcut zx Az po lf hb h4 h8 Aw qw iL gy uY qy Sg N8;go_wp2_with (refine gL rfl _ _ _ _ rfl rfl rfl rfl VN.Z ?_);refine HG.Z.mono ?_;rintro e w1 ⟨rfl,bN⟩;have HK:=ae bN;have acH:=ae (HSL.Z w1);clear bN HSL HG VN;go_wp2_with (refine gL rfl _ _ _ _ rfl rfl rfl rfl acH.Z ?_);have yB:ak w w1:=HQ.Z.trans HK.Z (λ_ _ e=>e);have AZ:=fO (Sd.Z.keep yB) (by rw [Ly.Z];omega);refine AZ.mono ?_;rintro e w2 ⟨v2,rfl,dy,cg⟩;have Sh:ak w w2:=yB.trans cg (λ_ _ e=>e);have UZ:=rj dy.bytes.reads (by rw [Ly.Z];omega);obtain ⟨a2,c2,rfl,_,_⟩:=dy.bytes.aG;rw [Ly.Z] at UZ dy ⊢;have wM:=ae dy;have oE:=ae cg;have VO:=ae Sh;clear yB AZ dy cg Sh;go_wp2_with fail;refine UZ.mono ?_;rintro e w3 ⟨v3,rfl,fy,dN⟩;have sC:ak w w3:=VO.Z.trans dN (λ_ _ e=>e);have zx:=XT.Z.keep sC;have tz:=q8 fy.bytes.reads zx;obtain ⟨a3,c3,rfl,_,_⟩:=fy.bytes.aG;generalize pD:(bu r).length=fl at tz;have acI:=ae (aa2.Z w3);have wN:=ae tz;have pU:=ae dN;have acJ:=ae sC;clear UZ fy dN sC zx tz pD aa2 XT;go_wp2_with (refine gL rfl _ _ _ _ rfl rfl rfl rfl acI.Z ?_);refine wN.Z.mono ?_;rintro e w4 ⟨rfl,eA⟩;have C2:=ae (pU.Z.trans eA (λ_ _ e=>e));have Y5:ak w w4:=acJ.Z.trans eA (λ_ _ e=>e);clear eA wN pU;by_cases UZ:bu r=m
    ·have og:=zw.Z UZ;have e1:decide (bu r=m)=true:=decide_eq_true UZ;have aa3:ak wr w4:=(HK.Z.trans oE.Z (λ_ _ e=>e)).trans C2.Z (λ_ _ e=>e);have dy:bC w4 wr.heap.size (.slice a2 z c2) r:=bC.keep (v:= .slice a2 z c2) (wM.Z.base HK.Z.size) C2.Z;obtain ⟨v7,w7,jS,oz,jf⟩:=CQ.Z.push HQ.Z.size aa3 dy (by have:=fP.Z.IA;have:=fP.Z.le;omega);have Sf:ak w w7:=Y5.trans jf (λb hb e=>by obtain ⟨ps,h1,_⟩:=CQ.Z;have:=yA h1 b e;omega)
     obtain ⟨a7,c7,rfl⟩:=oz.aG;have Rs:=ae jS;have dE:=ae (⟨f - 1,k+8+z,done++[r],rfl,og,oz,Sf⟩:∃ (f' k':Nat) (IB:List aH),Value.int .i64 ((k+8+z:Nat):Int)= .int .i64 (k':Int)/\mG l f' k' IB/\et w7 w.heap.size (.slice a7 (done++[r]).length c7) IB/\ak w w7);rw [e1];clear jS oz dy jf Sf Y5 og zv zw UZ e1 aa3;go_wp2_with (at_builtin;(first | (refine ao (w:=w4.alloc (.cells #[.slice a2 z c2] 22)) rfl _ _ _ _ rfl rfl rfl Rs.Z ?_)));go_roundw;case rel=>have h:=dE.Z;simp only [fS,iM,gN,fw] at h;exact h
     case measure=>simp [intOf];omega
    ·have cK:=zv.Z UZ;have HF:=ae cK;have e1:decide (bu r=m)=false:=decide_eq_false UZ;rw [e1];clear cK UZ zv zw i7 e1 Y5;go_wp2;go_ret2;exact qt.mk (v:= .slice oa done.length oc) HF.Z (CQ.Z.keep ((HK.Z.trans oE.Z (λ_ _ e=>e)).trans C2.Z (λ_ _ e=>e))) (VO.Z.trans C2.Z (λ_ _ e=>e))
   ·have cK:=fP.Z.stop (λhf=>mo ⟨hf.2.1,hf.2.2.1⟩);have HF:=ae cK;generalize cN l k=z at HG uY mo;have i7:(z:Int) <4294967296:=by omega
    have i0:=np z;have i3:(k:Int)+8<=l.length:=by omega
    have fin:∀ w1:World,ak wr w1->qt w (dJ l).1 ((dJ l).2:Int) (.returned (.tuple #[.slice oa done.length oc,.int .i64 (k:Int)])) w1:=λw1 bN=>qt.mk HF.Z (CQ.Z.keep bN) (HQ.Z.trans bN (λ_ _ e=>e));have FIN:=ae fin;clear fin cK;by_cases hz:z<=1048576
    ·have b1:decide ((1048576:Int) <(z:Int))=false:=decide_eq_false (by omega);have b2:decide ((l.length:Int) - k - 8 <z)=true:=decide_eq_true (by omega);clear h4 h8 mo uY hz lf hb iL gy;go_wp2_with (refine gL rfl _ _ _ _ rfl rfl rfl rfl VN.Z ?_);refine HG.Z.mono ?_;rintro e w1 ⟨rfl,bN⟩;have HK:=ae bN;clear bN;go_wp2;go_ret2;exact FIN.Z _ HK.Z
    ·have b1:decide ((1048576:Int) <(z:Int))=true:=decide_eq_true (by omega);clear h4 h8 mo uY hz lf hb iL gy;go_wp2_with (refine gL rfl _ _ _ _ rfl rfl rfl rfl VN.Z ?_);refine HG.Z.mono ?_;rintro e w1 ⟨rfl,bN⟩;have HK:=ae bN;clear bN;go_wp2;go_ret2;exact FIN.Z _ HK.Z
  ·have cK:=fP.Z.stop (by unfold iw;omega);have HF:=ae cK;have b0:decide ((8:Int)<=(l.length:Int) - k)=false:=decide_eq_false (by omega);clear cK h8;go_wp2;go_ret2;exact qt.mk (v:= .slice oa done.length oc) HF.Z CQ.Z HQ.Z

end Go.Proofs.YtlcnhpjggjgnpaaGreatDoor