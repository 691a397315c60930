/- A part of the proof. -/
import Derived.Test.YtlcnhpjggjgnpaaGreatDoorUpla5
import Derived.Test.YtlcnhpjggjgnpaaGreatDoorUplb3
set_option linter.unusedSimpArgs false
set_option linter.unusedVariables false
set_option maxRecDepth 100000
set_option maxHeartbeats 2000000
namespace Go.Proofs.YtlcnhpjggjgnpaaGreatDoor
open Go.RowKit Go.MapKept
variable {F:FS} {R:Int} {S:List (Value × aH)} {a:Option Addr} {c n:Nat} {l:List eX} {m:DM} {p:aH} {pv v:Value} {w:World} {xs:List Value}
theorem zZ (w:World):bF 53 #[.slice none 0 0] w λe w'=>e= .returned (.slice none 0 0)/\w=w':=by have hq:=Lib.run_eql_slice_nil (P:=Tryz.prog) w 124 109 none 0 0 0 0 Tryz.underlying124;go_enter Tryz.func53,Tryz.ntmps53;go_wp2;go_ret;exact ⟨rfl,rfl⟩
def p8 {B:Nat} (v:Value) (T size n:Nat) (xs:List Value):bB B:=⟨λF w=>w.ownsRow 0 T size v n xs/\∀ b,v.ownBlock=some b->F b,λ_ _ _ h hk=>⟨jD h.1 (λb hb=>hk b (.inl (h.2 b hb))),h.2⟩⟩
theorem MR (w:World) (k:aD) (UU:pv.oneCell'=true):∃ a c w',(Builtin.append_ #[124,124] 124 #[.slice none 0 0,.slice (some ⟨w.heap.size,0,none⟩) 1 1]).run Tryz.prog (w.alloc (.cells #[.string k,.bool false,pv] 109))= .ok (.slice a 1 c) w'/\ w'.ownsRow w.heap.size 109 3 (.slice a 1 c) 1 [.string k,.bool false,pv]/\ak w w':=by
 obtain ⟨i0,hi,yW,iH,jO⟩:=info_parts mh;obtain ⟨v',w',aT,dy,hg,_,jP⟩:=run_append_own_at (P:=Tryz.prog) (w.alloc (.cells #[.string k,.bool false,pv] 109)) w.heap.size 124 124 109 i0 _ 3 48 Tryz.underlying124 hi yW iH jO rfl (by omega) (.slice none 0 0) 0 [] ⟨rfl,.inl ⟨rfl,rfl⟩⟩ ⟨w.heap.size,0,none⟩ 1 1 [.string k,.bool false,pv] rfl
  (λj u hu=>by rw [iV,fw];exact ag (heap_alloc_new w _) (by simpa using hu))
  (by intro u hu;simp at hu;rcases hu with rfl | rfl | rfl;rfl;rfl;exact UU) (by unfold maxLen;omega) (by omega) (by simp only [World.size_alloc];omega)
 obtain ⟨a,c,rfl⟩:=bA dy;exact ⟨a,c,w',aT,dy,((ah.refl _ w).alloc _).trans ((ah.fH hg).mono (λb _ e=>by cases e)) (λ_ _ e=>e)⟩
theorem aad {wr:World} {rs:List (bB w.heap.size)} {k:aD} (h:Own w wr rs) (hm:p8 (.slice a n c) 109 3 1 [.string k,.bool false,pv] ∈ rs) (hp:aC wr pv p):fu wr a [⟨k,false,p⟩]:=by
 obtain ⟨F,⟨ho,_⟩,_⟩:=h.mem hm;rcases ho.2 with ⟨-,e⟩ | ⟨g,cap,gp,e,_,hb,_⟩
 ·omega
 ·simp only [Value.slice.injEq] at e;obtain ⟨rfl,-,-⟩:=e;intro i ch hc;match i,hc with
  | 0,hc=>
   cases hc;have h0:=ho.cells (g:=g) rfl 0 _ rfl;have h1:=ho.cells (g:=g) rfl 1 _ rfl;have h2:=ho.cells (g:=g) rfl 2 _ rfl;exact ⟨_,_,rfl,h0,h1,h2,hp⟩
  | i+1,hc=>simp at hc
def jb {B:Nat} (v:Value) (l:List aD):bB B:=p8 v 9 1 l.length (l.map Value.string)
section
variable {w wr:World} {g t d j b:Nat} {ve vl kv:Value} {es:List aH} {ks:List aD} {nm:aD} {T:TM} {rs:List (bB w.heap.size)}
theorem Own.GC {w1:World} (h:Own w wr rs) (hd:ed wr.heap.size w1 kv ks) (hk:ak wr w1):Own w w1 (jb kv ks::rs):=
 h.add hk (r:=jb kv ks) (G:=λb=>kv.ownBlock=some b) ⟨hd.base (fC _),λ_ hb=>hb⟩ (λb hb=>hd.lt b hb)
theorem Own.strs (h:Own w wr rs) (hm:jb kv ks ∈ rs):ed 0 wr kv ks:=by obtain ⟨F,⟨ho,_⟩,_⟩:=h.mem hm;exact ho
end
theorem QI {aR:Int} {b:aH} (h0:(b.length:Int)<=aR) (h1:aR<=67108864):Good (jL aR b) 0:=by
 refine ⟨?_,h1, ?_, ?_,eQ _, ?_,rfl, ?_, ?_⟩
 ·have:(0:Int)<=aR:=by omega
  exact this
 ·exact (show (-1:Int)<=-1 by decide)
 ·exact (show (-1:Int)<=9223372036854775807 by decide)
 ·simp [bX,jL]
 ·intro k;simp [jL,used];exact h0
 ·intro c hc;simp [jL] at hc
structure CM (m:DM) (R:Int) (F:FS):Prop where
 calm:Calm m
 aR:m.aR=R
 aN:m.aN=F
 fold:m.aN=m.aw.foldl bW m.sure
 nd:bX F
theorem CM.does (h:CM m R F) (c:Ch):CM {m with aN:=bW m.aN c,aw:=m.aw++[c]} R (bW F c):=
 ⟨⟨h.calm.bh,h.calm.cC⟩,h.aR,by rw [<-h.aN],by show bW m.aN c=(m.aw++[c]).foldl bW m.sure;rw [Hr,<-h.fold];rfl,h.nd.bW c⟩
theorem CM.jL (R:Int):CM (jL R []) R [(bY,[])]:=⟨⟨rfl,rfl⟩,rfl,rfl,rfl,by simp [bX]⟩
theorem CM.fY {m:DM} {R:Int} {F:FS} (h:CM m R F) {k:aD} (hn:bU k=true) (hg:aZ F k=none) (hl:F.length <4096):(aO m k).1=0/\CM (aO m k).2 R (dY F k []):=by rw [h.calm.fY hn (by rw [h.aN];exact hg) (by rw [h.aN];omega)];exact ⟨rfl,by simpa [bW] using h.does ⟨0,k,⟨#[]⟩,[]⟩⟩
theorem CM.append {m:DM} {R:Int} {F:FS} (h:CM m R F) {k:aD} {v:aH} (hg:aZ F k=some v) {p:aH} (hp:p.length<=1048576) (hr:(used F:Int)+p.length<=R):(aM m k p).1=0/\CM (aM m k p).2 R (dY F k (v++p)):=by rw [h.calm.append (by rw [h.aN,hg];rfl) p (by omega),if_neg (by rw [h.aR,h.aN];omega)];exact ⟨rfl,by simpa [bW,h.aN,hg] using h.does ⟨1,k,⟨#[]⟩,p⟩⟩
theorem CM.rename (h:CM m R F) {k g:aD} {v:aH} (hg:aZ F k=some v) (hn:bU g=true) (dO:k≠g):(bw m k g).1=0/\CM (bw m k g).2 R (bV (dY F g v) k):=by unfold bw;rw [h.calm.there (by rw [h.aN,hg];rfl),h.calm.does,hn];exact ⟨rfl,by simpa [bW,h.aN,hg,dO] using h.does ⟨3,k,g,[]⟩⟩
theorem CM.sync (h:CM m R F):(aV m).1=0/\CM (aV m).2 R F:=by have hf:=h.calm.cC;unfold aV;rw [h.calm.bh,if_neg (by simp),if_neg (by rw [hf];decide)];refine ⟨rfl,⟨by simp [lU,aS,hf,h.calm.bh],by simp [lU,aS,hf]⟩,by simp [lU,aS,hf,h.aR],by simp [lU,aS,hf,h.aN], ?_,h.nd⟩;simp only [lU,List.foldl_nil];rw [<-h.fold];simp [aS,hf]
theorem CM.there (h:CM m R F) (k:aD):aF m k=if (aZ F k).isSome then 0 else 6:=by unfold aF;rw [h.calm.bh,h.aN];rfl
theorem CM.cont (h:CM m R F) (k:aD):cW m k=(aZ F k).getD []:=by unfold cW;rw [h.aN]
structure CT (T:TM) (R:Int) (F:FS) (b:aH):Prop where
 cm:CM T.m R F
 file:aZ F bY=some b
 up:T.bh=false
theorem CT.app {T:TM} {b:aH} (h:CT T R F b) (he:(bP l).1=0) (hr:(used F:Int)+(8+(bP l).2.length)<=R): (bL T bY l).1=0/\CT (bL T bY l).2 R (dY F bY (b++bu (bP l).2)) (b++bu (bP l).2)/\(bL T bY l).2.fs=en T.fs l:=by
 have cU:=(p6 he).2.2.2;have ha:=h.cm.append (k:=bY) h.file (p:=bu (bP l).2) (by rw [dh];omega) (by rw [dh];omega);have hj:ci T.m bY T.size (bP l).2=(0,(aM T.m bY (bu (bP l).2)).2,T.size+(8+(bP l).2.length)):=by unfold ci;rw [if_neg (by omega),if_pos ha.1]
 have hs:=ha.2.sync;unfold bL;rw [h.up,if_neg (by simp),if_pos he,hj,if_pos rfl,if_pos hs.1];exact ⟨rfl,⟨hs.2,gO h.cm.nd _ _,rfl⟩,rfl⟩
def o7 {B:Nat} (v:Value) (ps:List Value) (cs:List eX):bB B:=
 ⟨λF w=>dX (λp (c:eX)=>bC w 0 p c.val/\∀ b,p.ownBlock=some b->F b) ps cs/\w.ownsRow 0 109 3 v cs.length (dL ps cs)/\∀ b,v.ownBlock=some b->F b,
  λ_ _ _ h hk=>⟨h.1.mono (λp c hp=>⟨jD hp.1 (λb hb=>hk b (.inl (hp.2 b hb))),hp.2⟩),jD h.2.1 (λb hb=>hk b (.inl (h.2.2 b hb))),h.2.2⟩⟩
theorem uO {α β:Type} {R:α->β->Prop}:∀ {ps:List α} {cs:List β} {p:α} {c:β},dX R ps cs->R p c->dX R (ps++[p]) (cs++[c])
 | [],[],_,_,_,h=>⟨h,trivial⟩
 | x::ps,y::cs,_,_,h,hp=>⟨h.1,uO h.2 hp⟩
 | [],_::_,_,_,h,_=>h.elim
 | _::_,[],_,_,h,_=>h.elim
section
variable {w wr:World} {rs:List (bB w.heap.size)} {v:Value} {ps:List Value} {cs:List eX}
theorem Own.abQ (h:Own w wr rs) (hm:o7 v ps cs ∈ rs):dX (λp (c:eX)=>aC wr p c.val) ps cs/\wr.ownsRow 0 109 3 v cs.length (dL ps cs):=by obtain ⟨F,⟨h1,h2,h3⟩,_⟩:=h.mem hm;exact ⟨h1.mono (λp c hp=>hp.1.bytes.reads),h2⟩
theorem WK (h2:wr.ownsRow 0 109 3 (.slice a n c) cs.length (dL ps cs)) (h1:dX (λp (c:eX)=>aC wr p c.val) ps cs):fu wr a cs:=λi ch hc=>by
 obtain ⟨p,hp,ho⟩:=h1.wV hc;have dI:=oq i hp hc;rcases h2.2 with ⟨e,e2⟩ | ⟨g,cap,gp,e,_⟩
 ·have:=(List.getElem?_eq_some_iff.1 hc).1;omega
 ·cases e;exact ⟨_,p,rfl,h2.cells (g:=g) rfl _ _ dI.1,h2.cells (g:=g) rfl _ _ dI.2.1,h2.cells (g:=g) rfl _ _ dI.2.2,ho⟩
theorem Own.raw {T size:Nat} (h:Own w wr rs) (hm:p8 v T size n xs ∈ rs):wr.ownsRow 0 T size v n xs:=by obtain ⟨F,⟨ho,_⟩,_⟩:=h.mem hm;exact ho
theorem Own.MS {w':World} {T size:Nat} (h:Own w wr rs) (ho:w'.ownsRow wr.heap.size T size v n xs) (hk:ak wr w'):Own w w' (p8 v T size n xs::rs):=
 h.add hk (r:=p8 v T size n xs) (G:=λb=>v.ownBlock=some b) ⟨jE ho (fC _),λ_ hb=>hb⟩ (λb hb=>by have:=ho.lt b hb;omega)
theorem Own.WL (h:Own w wr (p8 v 109 3 n xs::rs)) (k:aD) (g:Bool) (UU:pv.oneCell'=true) (hn:n <1099511627776): ∃ a c w',(Builtin.append_ #[124,124] 124 #[v,.slice (some ⟨wr.heap.size,0,none⟩) 1 1]).run Tryz.prog (wr.alloc (.cells #[.string k,.bool g,pv] 109))= .ok (.slice a (n+1) c) w'/\ Own w w' (p8 (.slice a (n+1) c) 109 3 (n+1) (xs++[.string k,.bool g,pv])::rs):=by
 have h1:=h.quiet ((ah.refl _ wr).alloc (.cells #[.string k,.bool g,pv] 109));obtain ⟨F,⟨h2,h3⟩,hF,back⟩:=h1.jT;obtain ⟨i0,hi,yW,iH,jO⟩:=info_parts mh;obtain ⟨v',w',aT,dy,hg,_,jP⟩:=run_append_own_at (P:=Tryz.prog) (wr.alloc (.cells #[.string k,.bool g,pv] 109)) 0 124 124 109 i0 _ 3 48 Tryz.underlying124 hi yW iH jO rfl (by omega) v n xs h2 ⟨wr.heap.size,0,none⟩ 1 1 [.string k,.bool g,pv] rfl
  (λj u hu=>by rw [iV,fw];exact ag (heap_alloc_new wr _) (by simpa using hu))
  (by intro u hu;simp at hu;rcases hu with rfl | rfl | rfl;rfl;rfl;exact UU) (by unfold maxLen;omega) (by omega) (fC _)
 obtain ⟨a,c,rfl⟩:=bA dy;have aX:=dy.lt;refine ⟨a,c,w',aT,back w' (p8 (.slice a (n+1) c) 109 3 (n+1) (xs++[.string k,.bool g,pv])) ((ah.fH hg).mono (λb _ e=>h3 b e)) ⟨dy,λb hb=> ?_⟩⟩;rcases jP with jP | jP
 ·rw [jP] at hb;exact .inl (h3 b hb)
 ·have hl:=aX b hb;rw [jP] at hb;cases hb;exact .inr ⟨eQ _,hl.2⟩
end
theorem OL:∀ {ps:List Value} {cs:List eX},(∀ p ∈ ps,p.oneCell'=true)->∀ u ∈ dL ps cs,u.oneCell'=true
 | [],_,_,u,hu=>by simp [dL] at hu
 | _::_,[],_,u,hu=>by simp [dL] at hu
 | p::ps,c::cs,h,u,hu=>by
  simp only [dL,Hu] at hu;rcases hu with rfl | rfl | rfl | hu
  ·rfl
  ·rfl
  ·exact h _ (gw ..)
  ·exact OL (λq hq=>h q (nO _ hq)) u hu
theorem JZ (w w1:World) (a:Addr) (n c:Nat) (v':Value) (aT:(Builtin.append_ #[124,124] 124 #[.slice (some ⟨w.heap.size,0,none⟩) 0 0,.slice (some a) n c]).run Tryz.prog (w.alloc (.cells #[] 109))= .ok v' w1): bF 53 #[.slice (some a) n c] w λe w'=>e= .returned v'/\w1=w':=by have hq:=Lib.run_eql_slice_nil (P:=Tryz.prog) w 124 109 (some a) n c 0 0 Tryz.underlying124;have kA:=ae aT;go_enter Tryz.func53,Tryz.ntmps53;go_wp2_with (at_builtin;refine ao rfl _ _ _ _ rfl rfl rfl kA.Z ?_);go_ret;exact ⟨rfl,rfl⟩
theorem DG (h:w.ownsRow 0 109 3 v n xs) (h1:∀ u ∈ xs,u.oneCell'=true) (hn:n <1099511627776): bF 53 #[v] w λe w'=>∃ a c,e= .returned (.slice a n c)/\w'.ownsRow w.heap.size 109 3 (.slice a n c) n xs/\ak w w':=by
 rcases h.2 with ⟨rfl,rfl⟩ | ⟨g,cap,gp,rfl,hg,hb,iL,gy,hz,ht⟩
 ·refine gU (zZ w) ?_;have hx:xs=[]:=Hm (by have:=h.1;omega);exact ⟨none,0,rfl,⟨by rw [hx];rfl,.inl ⟨rfl,rfl⟩⟩,ah.refl _ _⟩
 ·obtain ⟨i0,hi,yW,iH,jO⟩:=info_parts mh;have hk:ak w (w.alloc (.cells #[] 109)):=(ah.refl _ w).alloc _;obtain ⟨v',w',aT,dy,FP,_,jP⟩:=run_append_own_at (P:=Tryz.prog) (w.alloc (.cells #[] 109)) w.heap.size 124 124 109 i0 _ 3 48 Tryz.underlying124 hi yW iH jO rfl (by omega) (.slice (some ⟨w.heap.size,0,none⟩) 0 0) 0 [] ⟨rfl,.inr ⟨w.heap.size,0,#[],rfl,eQ _,heap_alloc_new w _,eQ _,fC _,rfl,rfl⟩⟩ ⟨g,0,none⟩ n cap xs h.1
   (λj u hu=>by exact aJ (h.cells (g:=g) rfl j u hu) hk)
   h1 (by unfold maxLen;omega) (by omega) (by simp only [World.size_alloc];omega)
  refine (JZ w w' _ n cap v' aT).mono ?_;rintro e w2 ⟨rfl,rfl⟩;rw [fw,pj] at dy;obtain ⟨a,c,rfl⟩:=bA dy;refine ⟨a,c,rfl,dy,hk.trans (ah.fH FP) (λb hb e=> ?_)⟩;simp only [Value.ownBlock,im] at e;omega
theorem TC {B:Nat} {p:Value} {l:aH} (h:bC w B p l):p.oneCell'=true:=by obtain ⟨a,c,rfl,-,-⟩:=h.bytes.reads.aG;rfl
open Go.RowKit Go.MapKept Go.Deep
section
variable {H:Type} {enc:TypeId × Value->H}
theorem TD {W:World} {y:DataW H × List MemPlace} (h:DataW.trod enc Tryz.prog W 0 (λ_=>true) true n 65 [v]=some y):∃ (l:List eX) (a:Option Addr) (c:Nat),v= .slice a l.length c/\l.length<=c/\c<=maxLen/\fu W a l:=by
 have hv:∃ a len cap,v= .slice a len cap:=by
  rcases Go.Deep.open_slice Tryz.underlying65 h with ⟨pS,_⟩ | ⟨x,l,c,m,n,D,Pl,pS,_⟩
  ·simp at pS;exact ⟨_,_,_,pS⟩
  ·simp at pS;exact ⟨_,_,_,pS⟩
 obtain ⟨a,len,cap,rfl⟩:=hv;obtain ⟨h1,h2,l,rfl,h3⟩:=WI (enc:=enc) (W:=W) (a:=a) (len:=len) (cap:=cap) (d:=y.1) (p:=y.2) ⟨n,h⟩;exact ⟨l,a,cap,rfl,h1,h2,h3⟩
end
theorem aC.QJ {w':World} {l:aH} (h:aC w v l) (hb:∀ x n c,v= .slice (some x) n c->l≠ []->w'.heap[x.block]?=w.heap[x.block]?):aC w' v l:=by
 rcases h with ⟨e,rfl⟩ | ⟨x,c,e,h1,h2,h3⟩
 ·exact .inl ⟨e,rfl⟩
 ·refine .inr ⟨x,c,e,h1,h2,λj u hu=> ?_⟩;have dO:l≠ []:=λe2=>by rw [e2] at hu;simp at hu
  have hc:=h3 j u hu;have kg:(x.add j).block=x.block:=by simp only [Addr.add];split <;>rfl
  exact (kK (by rw [kg];exact hb x _ _ e dO)).trans hc
def GD {B:Nat} (S:List (Value × aH)):bB B:=
 ⟨λF w=>∀ p ∈ S,aC w p.1 p.2/\∀ x n c,p.1= .slice (some x) n c->p.2≠ []->F x.block\/x.block <B,
  λF w w' h hk p hp=>⟨(h p hp).1.QJ (λx n c e dO=>hk _ ((h p hp).2 x n c e dO)),(h p hp).2⟩⟩
section
variable {w wr:World} {rs:List (bB w.heap.size)}
theorem Own.aae (h:Own w wr rs):Own w wr (GD []::rs):=
 h.add (ah.refl _ _) (r:=GD []) (G:=λ_=>False) (λp hp=>by simp at hp) (λb hb=>hb.elim)
theorem Own.rds (h:Own w wr rs) (hm:GD S ∈ rs) {l:aH} (hp:(v,l) ∈ S):aC wr v l:=by obtain ⟨F,hr,-⟩:=h.mem hm;exact ((show ∀ p ∈ S,_ from hr) _ hp).1
theorem Own.aaf (h:Own w wr (GD S::rs)) {l:aH} (hv:aC w v l):Own w wr (GD ((v,l)::S)::rs):=by
 have hk:=h.keeps;refine h.view (λF hF hr p hp=> ?_);rcases List.mem_cons.1 hp with rfl | hp
 ·refine ⟨hv.keep hk,λx n c e dO=> .inr ?_⟩;dsimp only at e dO;subst e;have Bg:0 <l.length:=List.length_pos_iff.2 dO;obtain ⟨y,e',hc⟩:=hv.cell (k:=0) rfl Bg;cases e';have:=wT w _ hc;have h5:(x.add 0).block=x.block:=by simp [Addr.add]
  omega
 ·exact (show ∀ p ∈ S,_ from hr) p hp
theorem Own.merge {a b r:bB w.heap.size} (h:Own w wr (a::b::rs)) (hr:∀ F G:Nat->Prop,a.is F wr->b.is G wr->r.is (λx=>F x\/G x) wr):Own w wr (r::rs):=by
 obtain ⟨k,Fs,h1,h2⟩:=h;match Fs,h1,h2 with
 | F::G::Gs,h1,h2=>
  obtain ⟨p1,p2⟩:=List.pairwise_cons.1 h2;obtain ⟨p3,p4⟩:=List.pairwise_cons.1 p2;refine ⟨k,(λx=>F x\/G x)::Gs,⟨⟨hr F G h1.1.1 h1.2.1.1,λb hb=> ?_⟩,h1.2.2⟩,List.pairwise_cons.2 ⟨λH hH b hb e=> ?_,p4⟩⟩
  ·rcases hb with hb | hb
   ·exact h1.1.2 b hb
   ·exact h1.2.1.2 b hb
  ·rcases hb with hb | hb
   ·exact p1 H (nO _ hH) b hb e
   ·exact p3 H hH b hb e
theorem Own.aag {w1:World} (h:Own w wr (GD S::rs)) {l:aH} (ho:bC w1 wr.heap.size v l) (hk:ak wr w1):Own w w1 (GD ((v,l)::S)::rs):=by
 have h1:=h.ix ho hk;refine h1.merge (λF G hF hG p hp=> ?_);rcases List.mem_cons.1 hp with rfl | hp
 ·refine ⟨bC.bytes (show bC w1 0 v l from hF.1) |>.reads,λx n c e dO=> .inl (.inl (hF.2 _ (by dsimp only at e;rw [e];rfl)))⟩
 ·obtain ⟨q1,q2⟩:=(show ∀ p ∈ S,_ from hG) p hp;exact ⟨q1,λx n c e dO=>(q2 x n c e dO).imp .inr id⟩
end
structure OpU where
 kind:Int
 id:Int
 au:aD
 p:aH
 n:Int
 m:Int
 l:List eX
section
variable {H:Type} {enc:TypeId × Value->H}
def TE (W:World) (a:Option Addr) (len:Nat):Prop:=∀ i,i <len->∃ (x:Addr) (o:OpU) (pv:Value) (la:Option Addr) (lc:Nat),a=some x/\W.cell? (x.add (i*7))=some (.int .i64 o.kind)/\W.cell? {block:=(x.add (i*7)).block,off:=(x.add (i*7)).off+1}=some (.int .i64 o.id)/\
 W.cell? {block:=(x.add (i*7)).block,off:=(x.add (i*7)).off+2}=some (.string o.au)/\W.cell? {block:=(x.add (i*7)).block,off:=(x.add (i*7)).off+3}=some pv/\W.cell? {block:=(x.add (i*7)).block,off:=(x.add (i*7)).off+4}=some (.int .i64 o.n)/\W.cell? {block:=(x.add (i*7)).block,off:=(x.add (i*7)).off+5}=some (.int .i64 o.m)/\
 W.cell? {block:=(x.add (i*7)).block,off:=(x.add (i*7)).off+6}=some (.slice la o.l.length lc)/\
 o.l.length<=lc/\lc<=maxLen/\fu W la o.l/\aC W pv o.p/\-9223372036854775808<=o.n/\o.n<=9223372036854775807/\-9223372036854775808<=o.m/\o.m<=9223372036854775807
theorem WM {W:World} {len cap:Nat} {d:DataW H} {p:List MemPlace} (h:DataW.Trod enc Tryz.prog W 0 (λ_=>true) true 63 (.slice a len cap) d p):len<=cap/\cap<=maxLen/\TE W a len:=by obtain ⟨h1,h2,h3⟩:=vY Tryz.underlying63 Tryz.underlying67 (by kernel_rfl) (by kernel_rfl) h;refine ⟨h1,h2,λi hi=> ?_⟩;obtain ⟨x,rfl,hf⟩:=h3 i hi;obtain ⟨v0,_,_,k0,n0,t0⟩:=hf 0 _ rfl;obtain ⟨v1,_,_,k1,n1,t1⟩:=hf 1 _ rfl;obtain ⟨v2,_,_,k2,n2,t2⟩:=hf 2 _ rfl;obtain ⟨v3,_,_,k3,n3,t3⟩:=hf 3 _ rfl;obtain ⟨v4,_,_,k4,n4,t4⟩:=hf 4 _ rfl;obtain ⟨v5,_,_,k5,n5,t5⟩:=hf 5 _ rfl;obtain ⟨v6,_,_,k6,n6,t6⟩:=hf 6 _ rfl;obtain ⟨a0,rfl,_⟩:=FN t0;obtain ⟨a1,rfl,_⟩:=FN t1;obtain ⟨s2,rfl,_⟩:=Mh t2;obtain ⟨l3,r3⟩:=Em t3;obtain ⟨a4,rfl,w4⟩:=FN t4;obtain ⟨a5,rfl,w5⟩:=FN t5;obtain ⟨l6,la,lc,rfl,b1,b2,r6⟩:=TD t6;have e1:(W.cell? (x.add (i*7+1)))=some (.int .i64 a1):=k1;have e2:(W.cell? (x.add (i*7+2)))=some (.string s2):=k2;have e3:(W.cell? (x.add (i*7+3)))=some v3:=k3;have e4:(W.cell? (x.add (i*7+4)))=some (.int .i64 a4):=k4;have e5:(W.cell? (x.add (i*7+5)))=some (.int .i64 a5):=k5;have e6:(W.cell? (x.add (i*7+6)))=some (.slice la l6.length lc):=k6;rw [<-Addr.add_add,Addr.add_succ'] at e1 e2 e3 e4 e5 e6;exact ⟨x,⟨a0,a1,s2,l3,a4,a5,l6⟩,v3,la,lc,rfl,k0,e1,e2,e3,e4,e5,e6,b1,b2,r6,r3,w4.2,w4.1,w5.2,w5.1⟩
end
def ub (k i:Int) (r:aD) (pv:Value) (n m:Int) (lv:Value):Obj:= .cells #[.int .i64 k,.int .i64 i,.string r,pv,.int .i64 n,.int .i64 m,lv] 67 (0,0)
theorem TF {t:Nat} {k i n m:Int} {r:aD} {lv:Value} (hb:w.heap[t]?=some (ub k i r pv n m lv)): w.cell? ⟨t,0,none⟩=some (.int .i64 k)/\w.cell? ⟨t,1,none⟩=some (.int .i64 i)/\w.cell? ⟨t,2,none⟩=some (.string r)/\w.cell? ⟨t,3,none⟩=some pv/\w.cell? ⟨t,4,none⟩=some (.int .i64 n)/\w.cell? ⟨t,5,none⟩=some (.int .i64 m)/\w.cell? ⟨t,6,none⟩=some lv:=
 ⟨ag hb rfl,ag hb rfl,ag hb rfl,ag hb rfl,ag hb rfl,ag hb rfl,ag hb rfl⟩
def hdV:aD:=⟨#[117]⟩
def OM (c:eX):Bool:=decide (c.key.size<=400) && decide (c.val.length<=300) && !(cH c.key hdV)
def vJ (l:List eX) (p:aH):Bool:=l.all OM && decide (p.length<=2000) && decide (l.length<=5)
theorem MT (h:vJ l p=true):(∀ c ∈ l,c.key.size<=400/\c.val.length<=300/\cH c.key hdV=false)/\p.length<=2000/\l.length<=5:=by unfold vJ OM at h;simp only [Be,decide_eq_true_eq,List.all_eq_true,Bool.not_eq_true'] at h;exact ⟨λc hc=>⟨(h.1.1 c hc).1.1,(h.1.1 c hc).1.2,(h.1.1 c hc).2⟩,h.1.2,h.2⟩
theorem QK {k:Nat} {c:eX} (hc:l[k]?=some c) (h:OM c=false):vJ l p=false:=by have:l.all OM=false:=List.all_eq_false.2 ⟨c,kx hc,by simp [h]⟩;unfold vJ;rw [this];rfl
theorem QL (h:∀ k c,k <l.length->l[k]?=some c->OM c=true):vJ l p=(decide (p.length<=2000) && decide (l.length<=5)):=by
 have:l.all OM=true:=List.all_eq_true.2 (λc hc=>by obtain ⟨k,hk⟩:=List.mem_iff_getElem?.1 hc;exact h k c (List.getElem?_eq_some_iff.1 hk).1 hk)
 unfold vJ;rw [this,Bool.true_and]
theorem GF {k0 d0 n0 m0:Int} {r0:aD} (hp:aC w pv p) (h:fu w a l) (hl:l.length<=maxLen): bF 25 #[.agg #[.int .i64 k0,.int .i64 d0,.string r0,pv,.int .i64 n0,.int .i64 m0,.slice a l.length c]] w (bH w (.bool (vJ l p))):=by
 obtain ⟨pa,pc,rfl,R2,Pp⟩:=hp.aG;have H:=ae h;unfold maxLen at hl Pp;have i0:(l.length:Int)<=9223372036854775807:=by omega
 have i2:(p.length:Int)<=9223372036854775807:=by omega
 have kB:=heap_alloc_new w (ub k0 d0 r0 (.slice pa p.length pc) n0 m0 (.slice a l.length c));have bN:ak w (w.alloc (ub k0 d0 r0 (.slice pa p.length pc) n0 m0 (.slice a l.length c))):=(ah.refl _ w).alloc _;obtain ⟨w1,fh⟩:=cE (w.alloc (ub k0 d0 r0 (.slice pa p.length pc) n0 m0 (.slice a l.length c)));rw [<-fh] at kB bN;have G8:=ae kB;have iW:=ae bN;obtain ⟨-,-,-,-,-,-,b2⟩:=TF kB;have HW:=ae fh;rw [fh] at b2;clear h hp hl R2 Pp kB bN fh;unfold ub at b2;go_enter Tryz.func25,Tryz.ntmps25;go_wp2_with fail;change Code.wp _ _ _ _ (w.alloc (ub k0 d0 r0 (.slice pa p.length pc) n0 m0 (.slice a l.length c)));rw [<-HW.Z];clear b2 HW;go_loopw [8] (λiv wx=>∃ k:Nat,k<=l.length/\iv= .int .i64 (k:Int)/\(∀ i c,i <k->l[i]?=some c->OM c=true)/\ak w1 wx) (λiv _=>l.length - (intOf iv).toNat);case atStart=>exact ⟨0,fC _,rfl,λi c hi=>by omega,ah.refl _ _⟩
 case round=>
  obtain ⟨k,hk,rfl,rC,hq⟩:=hrel;have kk:=np k;by_cases aX:k <l.length
  ·obtain ⟨ch,sQ⟩:∃ ch,l[k]?=some ch:=⟨l[k],js aX⟩;obtain ⟨x,q,rfl,c0,c1,c2,iI⟩:=(H.Z.keep (iW.Z.trans hq (λ_ _ e=>e))).cells sQ;obtain ⟨qa,qc,rfl,_,_⟩:=iI.aG;have j2:(k:Int) <l.length:=by omega
   have bN:k+1<=l.length:=by omega
   have o0:=np ch.key.size;have HQ:=ae (hq.alloc (.cells #[.string ch.key,.bool ch.gone,.slice qa ch.val.length qc] 162));have TG:=ae (λ(e:OM ch=false)=>QK (p:=p) sQ e);have HGO:=ae (λ(e:OM ch=true)=>(⟨k+1,bN,rfl,λi c hi hc=>by
     by_cases e2:i=k
     ·subst e2;rw [sQ] at hc;cases hc;exact e
     ·exact rC i c (by omega) hc,HQ.Z⟩:∃ k':Nat,k'<=l.length/\Value.int .i64 ((k+1:Nat):Int)= .int .i64 (k':Int)/\(∀ i c,i <k'->l[i]?=some c->OM c=true)/\ak w1 (wr.alloc (.cells #[.string ch.key,.bool ch.gone,.slice qa ch.val.length qc] 162))))
   have JY:=ae (λW=>rG ch.key hdV W);unfold hdV at JY;clear rC hq iI aX hk;by_cases b1:400 <ch.key.size
   ·have b1':(400:Int) <ch.key.size:=by omega
    rw [TG.Z (by unfold OM;rw [decide_eq_false (by omega)];rfl)];clear sQ b1;go_wp2;go_ret;exact ⟨rfl,iW.Z.trans HQ.Z (λ_ _ e=>e)⟩
   ·have b1':¬(400:Int) <ch.key.size:=by omega
    by_cases b2:300 <ch.val.length
    ·have b2':(300:Int) <ch.val.length:=by omega
     rw [TG.Z (by unfold OM;rw [decide_eq_false (p:=ch.val.length<=300) (by omega)];simp)];clear sQ b1 b2;go_wp2;go_ret;exact ⟨rfl,iW.Z.trans HQ.Z (λ_ _ e=>e)⟩
    ·have b2':¬(300:Int) <ch.val.length:=by omega
     have e1:OM ch=!(cH ch.key hdV):=by unfold OM;rw [decide_eq_true (p:=ch.key.size<=400) (by omega),decide_eq_true (p:=ch.val.length<=300) (by omega)];simp
     have e2:cH ch.key ⟨#[117]⟩=cH ch.key hdV:=rfl;rw [e2] at JY;clear sQ b1 b2 e2;cases hb:cH ch.key hdV with
     | true=>
      rw [hb] at JY e1;rw [TG.Z e1];clear hb e1 HGO TG;go_wp2_with fail;refine (JY.Z _).Z.mono ?_;rintro e w' ⟨rfl,rfl⟩;go_wp2;go_ret;exact ⟨rfl,iW.Z.trans HQ.Z (λ_ _ e=>e)⟩
     | false=>
      rw [hb] at JY e1;have dE:=ae (HGO.Z e1);clear hb e1 HGO TG;go_wp2_with fail;refine (JY.Z _).Z.mono ?_;rintro e w' ⟨rfl,rfl⟩;go_wp2;go_roundw;case rel=>exact dE.Z
      case measure=>simp [intOf];omega
  ·obtain rfl:k=l.length:=by omega
   have hb:=QL (p:=p) rC;obtain ⟨-,-,-,b1,-,-,b2⟩:=TF (hq.at G8.Z (λe=>e));have HF:=ae (λ(v:Bool) (e:(decide (p.length<=2000) && decide (l.length<=5))=v)=>show bH w (.bool (vJ l p)) (.returned (.bool v)) wr from ⟨by rw [hb,e],iW.Z.trans hq (λ_ _ e=>e)⟩);clear rC hb hq aX hk;by_cases z1:p.length<=2000
   ·have z1':(p.length:Int)<=2000:=by omega
    by_cases z2:l.length<=5
    ·have z2':decide ((l.length:Int)<=5)=true:=decide_eq_true (by omega);have rp:=ae (HF.Z true (by rw [decide_eq_true z1,decide_eq_true z2];rfl));rw [<-z2'] at rp;clear z1 z2 HF;go_wp2;go_ret;first | exact rp.Z | (rw [z2'] at rp;exact rp.Z)
    ·have z2':decide ((l.length:Int)<=5)=false:=decide_eq_false (by omega);have rp:=ae (HF.Z false (by rw [decide_eq_true z1,decide_eq_false z2];rfl));rw [<-z2'] at rp;clear z1 z2 HF;go_wp2;go_ret;first | exact rp.Z | (rw [z2'] at rp;exact rp.Z)
   ·have rp:=ae (HF.Z false (by rw [decide_eq_false z1];rfl));have z1':(2000:Int) <p.length:=by omega
    clear z1 HF;go_wp2;go_ret;exact rp.Z
structure KV where
 id:Int
 s:Value
 m:Value
 e:Bool

end Go.Proofs.YtlcnhpjggjgnpaaGreatDoor