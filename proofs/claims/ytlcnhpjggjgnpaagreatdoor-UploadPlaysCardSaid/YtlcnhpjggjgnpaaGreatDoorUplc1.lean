/- A part of the proof. -/
import Derived.Test.YtlcnhpjggjgnpaaGreatDoorUplb9
import Derived.Test.YtlcnhpjggjgnpaaGreatDoorUplc0
set_option linter.unusedSimpArgs false
set_option linter.unusedVariables false
set_option maxRecDepth 100000
set_option maxHeartbeats 2000000
namespace Go.Proofs.YtlcnhpjggjgnpaaGreatDoor
open Go.RowKit Go.MapKept
open Go.ChangeMaps (setBlock)
variable {E:List UE} {W w0:World} {l:aH} {n nx t:Nat} {nm:aD} {v:Value} {x:UE}
theorem Nw {ops:Array Oper} {rest:List Oper} {o:Oper} {a:Act} {w:World} {Q:Exit->Act->World->Prop} (hg:o.guard=none) (x:Operand) (ho:o.op= .sliceToArrayPointer 39 x) (g k c:Nat) (hx:a.eval x= .slice (some ⟨g,k,none⟩) 32 c) (h:wpList Tryz.prog ops Q rest (a.put o.dst (.pointer (some ⟨g,k,none⟩))) w):wpList Tryz.prog ops Q (o::rest) a w:=by
 refine wpList_plain hg λK hK=> ?_;have hu:=Tryz.underlying39;unfold Oper.wp;have aT:(Instr.arrayAt 39 (.slice (some ⟨g,k,none⟩) 32 c)).run Tryz.prog w= .ok (.pointer (some ⟨g,k,none⟩)) w:=by simp only [Instr.arrayAt,Sem.run_bind,run_underlying hu,Result.andThen_ok];rw [if_neg (by decide)];exact Sem.run_pure ..
 simp only [execOp,ho,hx,Sem.run_bind,aT,Result.andThen_ok,Sem.run_pure];exact hK _ _ h
def rRd {B:Nat} (v:Value) (l:aH):bB B:=⟨λF w=>bQ F w v l,λF w w' h hk=>by
 rcases h with h | ⟨g,off,cap,cs,fz,rfl,hF,hb,r⟩
 ·exact .inl h
 ·exact .inr ⟨g,off,cap,cs,fz,rfl,hF,(hk g (.inl hF)).trans hb,r⟩⟩
section
variable {w wr:World} {d u st t mp j b:Nat} {nm:aD} {T:TM} {next:Int} {L L1 L2:UL} {rs:List (bB w.heap.size)}
theorem Own.ab3 {w':World} (h:Own w wr rs) (hB:bQ (λb=>wr.heap.size<=b) w' v l) (hk:ak wr w'):Own w w' (rRd v l::rs):=by
 refine h.add hk (r:=rRd v l) (G:=λb=>wr.heap.size<=b/\b <w'.heap.size) ?_ (λb hb=>hb);rcases hB with h | ⟨g,off,cap,cs,fz,rfl,hF,hb,r⟩
 ·exact .inl h
 ·exact .inr ⟨g,off,cap,cs,fz,rfl,⟨hF,bm hb⟩,hb,r⟩
theorem Own.rd (h:Own w wr rs) (hm:rRd v l ∈ rs):aC wr v l/\∀ x n c,v= .slice (some x) n c->l≠ []->x.block <wr.heap.size:=by
 obtain ⟨F,hr,hb⟩:=h.mem hm;refine ⟨bQ.reads (show bQ F wr v l from hr),λx n c e dO=> ?_⟩;rcases (show bQ F wr v l from hr) with ⟨h1,h2⟩ | ⟨g,off,cap,cs,fz,e2,hF,ox,r⟩
 ·exact absurd h2 dO
 ·rw [e2] at e;cases e;exact bm ox
theorem Own.OV {x:bB w.heap.size} {A B M:List (bB w.heap.size)} (h:Own w wr (A++(B++(x::M)))):Own w wr (x::(A++(B++M))):=h.perm (by have h1:(x::(A++(B++M))).Perm (A++(x::(B++M))):=(lO (l₁:=A)).symm;exact (h1.trans (uT A (lO (l₁:=B)).symm)).symm)
theorem Own.Kk {x y:bB w.heap.size} {A B M:List (bB w.heap.size)} (h:Own w wr (A++(B++(x::y::M)))):Own w wr (y::(A++(B++(x::M)))):=
 (h.perm (uT A (uT B (oe y x M)))).OV
def Kl (u d st t:Nat) (next:Int) (mp bq:Nat) (au:aD) (bo sz:Int) (W:World):Prop:=
 (W.cell? ⟨u,0,none⟩=some (.pointer (some ⟨d,0,none⟩))/\W.cell? ⟨u,1,none⟩=some (.pointer (some ⟨st,0,none⟩))/\W.cell? ⟨u,2,none⟩=some (.pointer (some ⟨t,0,none⟩))/\W.cell? ⟨u,3,none⟩=some (.int .i64 next)/\W.cell? ⟨u,4,none⟩=some (.map (some mp)))/\
  W.rangeAt bq 0 [.string au,.int .i64 bo,.int .i64 sz]
def bxO (au:aD) (bo sz:Int):Obj:= .cells #[.string au,.int .i64 bo,.int .i64 sz] 43
theorem Kl.of {bq:Nat} {au:aD} {bo sz:Int} {A M:List (bB w.heap.size)} (h:Own w W (A++(bE d u st t mp next L++M))) (hm:aA bq (bxO au bo sz) ∈ M):Kl u d st t next mp bq au bo sz W:=by refine ⟨eW (h.at (b:=u) (o:=iX d st t next mp) (by simp [bE])).1,λk v hv=> ?_⟩;rw [fw];exact ag (h.at (b:=bq) (o:=bxO au bo sz) (by simp [hm])).1 (by rw [oB];exact hv)
theorem Kl.keep {bq:Nat} {au:aD} {bo sz:Int} {W':World} (h:Kl u d st t next mp bq au bo sz W) (hk:ak W W'):Kl u d st t next mp bq au bo sz W':=
 ⟨⟨aJ h.1.1 hk,aJ h.1.2.1 hk,aJ h.1.2.2.1 hk,aJ h.1.2.2.2.1 hk,aJ h.1.2.2.2.2 hk⟩,λk v hv=>aJ (h.2 k v hv) hk⟩
theorem QZ {α:Type} (T Ls R:List α) (a s p x y:α):(p::x::y::(T++(a::s::(Ls++R)))).Perm (x::y::(T++((a::s::p::(Ls++[]))++R))):=by have h1:([p]++([x,y]++(T++(a::s::(Ls++R))))).Perm ([x,y]++([p]++(T++(a::s::(Ls++R))))):=Bb _ _ _;refine h1.trans (uT _ ?_);have h2:([p]++(T++(a::s::(Ls++R)))).Perm (T++([p]++(a::s::(Ls++R)))):=Bb _ _ _;refine h2.trans (uT T ?_);rw [qh];have h3:([p]++([a,s]++(Ls++R))).Perm ([a,s]++([p]++(Ls++R))):=Bb _ _ _;exact h3
theorem Own.aat {s:eT} {T':TM} {xT:Int} {M:List (bB w.heap.size)} (h:Own w W (bO d j t b nm T'++(bE d u st t mp xT L++M))) (hid:ql (iy L) s.id=none): ∃ w3,(Instr.mapUpdate 102 (.map (some mp)) (.int .i64 s.id) (.pointer (some ⟨W.heap.size+1,0,none⟩))).run Tryz.prog ((W.alloc (gu l5 (eu 0 (List.replicate 64 0)))).alloc (.cells #[.string s.au,.int .i64 s.bo,.int .i64 (s.b.length:Int),.pointer (some ⟨W.heap.size,0,none⟩)] 116))= .ok () w3/\ Own w w3 (aA (W.heap.size+1) (fQ s W.heap.size)::Dq W.heap.size []::(bO d j t b nm T'++(Ab d u st t mp xT (iy (L++[(s,W.heap.size+1,W.heap.size)])) L []++M))):=by
 obtain ⟨o1,fT⟩:=cE (gu l5 (eu 0 (List.replicate 64 0)));rw [<-fT];have h1:Own w (W.alloc o1) (Dq W.heap.size []::(bO d j t b nm T'++(bE d u st t mp xT L++M))):=
  h.add ((ah.refl (λ_=>False) W).alloc o1) (r:=Dq W.heap.size []) (G:=λb=>b=W.heap.size) ⟨rfl,List.replicate 64 0,by rw [fT];exact heap_alloc_new W _,by simp,by simp⟩ (λb hb=>by subst hb;simp)
 have h2:=h1.alloc (fQ s W.heap.size);rw [World.size_alloc] at h2;obtain ⟨W2,hW2⟩:=cE ((W.alloc o1).alloc (fQ s W.heap.size));rw [<-hW2] at h2;change ∃ w3,(Instr.mapUpdate _ _ _ _).run _ ((W.alloc o1).alloc (fQ s W.heap.size))=_/\_;rw [<-hW2];generalize W.heap.size+1=sp at h2 ⊢;generalize W.heap.size=q at h2 ⊢;have h3:Own w W2 (kJ mp (iy L)::aA sp (fQ s q)::Dq q []::(bO d j t b nm T'++(aA u (iX d st t xT mp)::aA st (kN d)::(eV L++M)))):=by
  have:=Own.pull (l₁:=aA sp (fQ s q)::Dq q []::(bO d j t b nm T'++[aA u (iX d st t xT mp),aA st (kN d)])) (r:=kJ mp (iy L)) (l₂:=eV L++M) (by simpa [bE,lN] using h2)
  simpa [lN] using this
 obtain ⟨w3,hr,h4⟩:=h3.ON s.id hid sp (ah.refl _ _);refine ⟨w3,hr, ?_⟩;have h5:Own w w3 (kJ mp (iy (L++[(s,sp,q)]))::aA sp (fQ s q)::Dq q []::(bO d j t b nm T'++(aA u (iX d st t xT mp)::aA st (kN d)::(eV L++M)))):=
  h4.view (λF _ hF=>⟨hF.1,hF.2.perm (by unfold iy;rw [mB];exact (RQ (l₁:=[(s.id,sp)])))⟩)
 exact h5.perm (QZ (bO d j t b nm T') (eV L) M _ _ _ _ _)
theorem Own.summed {s:eT} {sp q:Nat} {T':TM} {xT:Int} {M:List (bB w.heap.size)} {pv:Value} (h:Own w W (aA sp (fQ s q)::Dq q []::(bO d j t b nm T'++(Ab d u st t mp xT (iy (L++[(s,sp,q)])) L []++M)))) (hr:aC W pv s.b) (dO:∀ x n c,pv= .slice (some x) n c->s.b≠ []->x.block≠q) (hb:s.b.length<=4194304): bF 50 #[.pointer (some ⟨q,0,none⟩),pv] W λe w'=>e= .returned (.int .i64 0)/\Own w w' (bO d j t b nm T'++(bE d u st t mp xT (L++[(s,sp,q)])++M)):=by refine (h.swap.write hr dO (by simpa using hb)).mono ?_;rintro e w' ⟨rfl,h2⟩;rw [pj] at h2;exact ⟨rfl,h2.swap.OO (L1:=L) (L2:=[]) rfl⟩
def T6 (w:World) (d j t b u st mp:Nat) (nm:aD) (next:Int) (L:UL) (rs:List (bB w.heap.size)) (r:Int × TM × Option eT) (e:Ending) (w':World):Prop:=
 e= .returned (.int .i64 r.1)/\((r.2.2=none/\Own w w' (bO d j t b nm r.2.1++(bE d u st t mp next L++rs)))\/
  ∃ s sp q,r.2.2=some s/\Own w w' (bO d j t b nm r.2.1++(bE d u st t mp next (L++[(s,sp,q)])++rs)))
theorem DO (h:Own w w0 (bO d j t b nm T++(bE d u st t mp next L++rs))) (hg:Good T.m n) (hn:n+20 <549755813888) (hs:T.size<=1099511627776) (hx:wI x) (hid:l9 L (x.id:Int)=none) (hb:(cW T.m (aq x.id)).length<=1048576) {g c:Nat} (RH:∀ (W:World) (M:List (bB w.heap.size)),Own w W (M++rs)->aC W (.slice (some ⟨g,1,none⟩) x.e.length c) x.e): bF 67 #[.pointer (some ⟨u,0,none⟩),.int .i64 (x.id:Int),.agg #[.string x.au,.int .i64 x.bo,.int .i64 0],.slice (some ⟨g,1,none⟩) x.e.length c] w0 (T6 w d j t b u st mp nm next L rs (cO T nm x)):=by
 obtain ⟨ky,kE⟩:=cE (aq x.id);have aau:=hx.id0;have Xb:=hx.id1;have jA:=ae (show ∀ W,bF 23 #[.int .i64 (x.id:Int)] W (bH W (.string ky)) from λW=>by rw [kE];exact lp W x.id x.id (IntWalk.u64_in _ (by omega)) (by omega));have xk:=ae (show ∀ W (M:List (bB w.heap.size)),Own w W (bO d j t b nm T++(bE d u st t mp next L++M))->aW 57 #[.pointer (some ⟨d,0,none⟩),.string ky] W (.tuple #[.int .i64 (cF T.m ky),.int .i64 (aF T.m ky)]) W from λW M hW=>Own.size hW ky);have hH0:=h.gS (bxO x.au x.bo 0);change Own w (w0.alloc (.cells #[.string x.au,.int .i64 x.bo,.int .i64 0] 43)) _ at hH0;have H0:=ae hH0;obtain ⟨R,hR⟩:=exp (cO T nm x);rw [hR];unfold cO at hR;rw [<-kE] at hR hb;have HR:=ae hR;have HEV:=ae RH;have HG:=ae (And.intro hg (And.intro hn hs));have HX:=ae hx;have HB:=ae hb;have HPG:=ae (show ql (iy L) (x.id:Int)=none by rw [uJ,hid];rfl);have AN:=ae (show (Tryz.prog.info? 43).map (·.size)=some ([.string x.au,.int .i64 x.bo,.int .i64 0]:List Value).length by kernel_rfl);obtain ⟨sz,jd⟩:=cE (cF T.m ky);obtain ⟨th,gK⟩:=cE (aF T.m ky);rw [<-jd,<-gK] at xk;have Xc:=ae jd;have Ry:=ae gK;have TL:=ae kE;clear h hg hn hs hx hid hb RH kE aau Xb hH0 hR jd gK;go_enter Tryz.func67,Tryz.ntmps67;go_upto_region 1 with fail;generalize w0.alloc (.cells #[.string x.au,.int .i64 x.bo,.int .i64 0] 43)=w1 at H0 ⊢;generalize w0.heap.size=bq at H0 ⊢;refine wp_region_held_drew (S:=Kl u d st t next mp bq x.au x.bo 0) (by kernel_rfl) (by exact Kl.of H0.Z.drew (gw ..)) (λai=> ?_);have H1:=ae H0.Z.drew;clear H0;refine tk 0 14 (.pointer (some ⟨u,0,none⟩)) ai ?_;refine tk 1 15 (.pointer (some ⟨u,0,none⟩)) ai ?_;refine tk 2 16 (.pointer (some ⟨u,0,none⟩)) ai ?_;refine tk 3 17 (.pointer (some ⟨d,0,none⟩)) ai ?_ (hy:=Or.inl ⟨by rfl,by intro w bK;(try dsimp only at bK);(obtain ⟨⟨q0,q1,q2,q3,q4⟩,-⟩:=bK;go_simp)⟩);refine tk 4 18 (.int .i64 (x.id:Int)) ai ?_;try go_frame
 refine eR [5] ?_;refine gH 19 λK hK=> ?_;go_simp;go_at_call 23;refine (jA.Z _).mono ?_;rintro e w2 ⟨rfl,cg⟩;have H2:=ae (H1.Z.quiet cg);clear cg;refine hK.Z _ _ (by exact Kl.of H2.Z (gw ..)) (λaK=> ?_);clear hK K;try go_frame
 refine eR [6] ?_;refine gH 20 λK hK=> ?_;go_simp;go_at_call 57;refine (xk.Z _ _ H2.Z).Z.mono ?_;rintro e w' ⟨rfl,rfl⟩;refine hK.Z _ _ (by exact Kl.of H2.Z (gw ..)) (λaI=> ?_);clear hK K;refine tk 7 13 (.tuple #[.int .i64 sz,.int .i64 th]) aI ?_;refine tk 8 21 (.int .i64 sz) aI ?_;refine tk 9 22 (.int .i64 th) aI ?_;refine tk 10 9 (.int .i64 sz) aI ?_;refine tk 11 10 (.int .i64 th) aI ?_;try go_frame
 refine wpAnyH_done (by kernel_rfl) ?_ _;clear H1 xk;by_cases he:x.e.length=32
 ·have bM:=HR.Z;rw [if_pos he] at bM;subst bM;have HXI:=ae (show (Tryz.prog.info? 39).map (·.size)=some (x.e.map dF).length by rw [io,he];kernel_rfl);have hrg:w2.rangeAt g 1 (x.e.map dF):=λk v hv=>by
   have gm:=HEV.Z w2 ((bO d j t b nm T++bE d u st t mp next L)++[aA bq (bxO x.au x.bo 0)]) (by simpa [lN] using H2.Z);rcases gm with ⟨e,_⟩ | ⟨a,c',e,_,_,h3⟩
   ·cases e
   ·cases e;have:=h3 k v hv;rw [iV] at this;exact this
  have HRG:=ae hrg;have rV:=ae (rL H2.Z HG.Z.1 (by have:=HG.Z.2.1;omega) HG.Z.2.2 (id:=(x.id:Int)) (nx:=x.id) rfl HX.Z.id1 he);rw [he];obtain ⟨cl,dI⟩:∃ cl:List Value,cl=x.e.map dF:=⟨_,rfl⟩;rw [<-dI] at HXI HRG rV;have ab4:=TL.Z;rw [<-ab4] at rV;clear hrg dI he HR HEV HX HB Ry Xc H2 TL ab4;go_wp2_with (first | (refine Nw rfl _ rfl g 1 c rfl ?_) | (refine wpList_load_mid rfl 39 _ rfl g 1 rfl cl _ HRG.Z Tryz.underlying39 rfl HXI.Z ?_));refine rV.Z.mono ?_;rintro e w3 ⟨rfl,h3⟩;have H3:=ae h3.bR;clear h3 rV;go_wp2;go_ret;exact ⟨rfl,.inl ⟨rfl,H3.Z⟩⟩
 ·have bM:=HR.Z;rw [if_neg he] at bM;have hel:((x.e.length:Int)==32)=false:=by rw [beq_eq_false_iff_ne];omega
  by_cases ht:th=0
  ·subst ht;rw [if_pos Ry.Z.symm] at bM;obtain ⟨cb,sD⟩:=cE (cW T.m ky);rw [<-sD] at bM;subst bM;clear HR;have Xd:aF T.m ky=0:=Ry.Z.symm;have adr:sz=(cb.length:Int):=by rw [Xc.Z,sD];unfold cF cW;rw [if_pos Xd]
   subst adr;have dI:cb.length<=1048576:=by rw [sD];exact HB.Z
   have Et:di T.m ky 0 (cb.length:Int)=cb/\er T.m ky 0 (cb.length:Int)=0:=by unfold di er;rw [if_pos Xd,if_pos Xd,if_neg (by omega),if_neg (by omega)];refine ⟨?_,rfl⟩;show gV (cW T.m ky) 0 _=cb;rw [<-sD];exact rk cb
   have xo:=ae (show ∀ W (M:List (bB w.heap.size)),Own w W (bO d j t b nm T++(bE d u st t mp next L++M))->∃ ra rc w',aW 55 #[.pointer (some ⟨d,0,none⟩),.string ky,.int .i64 0,.int .i64 (cb.length:Int)] W (.tuple #[.slice ra cb.length rc,.int .i64 0]) w'/\Own w w' (bO d j t b nm T++(bE d u st t mp next L++(rRd (.slice ra cb.length rc) cb::M))) from λW M hW=>by
    obtain ⟨v,w',hr,hB,hk,-⟩:=Own.read hW ky 0 (cb.length:Int) (by
     have:((aZ T.m.aN ky).getD []).length=cb.length:=by rw [sD];rfl
     omega)
    rw [Et.1] at hB;rw [Et.2] at hr;obtain ⟨ra,rc,rfl,-,-⟩:=hB.aG;exact ⟨ra,rc,w',hr,(hW.ab3 hB hk).toEnd⟩)
   have rV:=ae dI;clear dI Et sD Xd HB Ry Xc HEV he;go_upto_region 6 with fail;refine wp_region_held_drew (S:=Kl u d st t next mp bq x.au x.bo 0) (by kernel_rfl) (by exact Kl.of H2.Z.drew (gw ..)) (λai=> ?_);have H3:=ae H2.Z.drew;clear H2;refine tk 0 35 (.pointer (some ⟨u,0,none⟩)) ai ?_;refine tk 1 36 (.pointer (some ⟨u,0,none⟩)) ai ?_;refine tk 2 37 (.pointer (some ⟨u,0,none⟩)) ai ?_;refine tk 3 38 (.pointer (some ⟨d,0,none⟩)) ai ?_ (hy:=Or.inl ⟨by rfl,by intro w bK;(try dsimp only at bK);(obtain ⟨⟨q0,q1,q2,q3,q4⟩,-⟩:=bK;go_simp)⟩);refine tk 4 39 (.int .i64 (x.id:Int)) ai ?_;refine tk 6 41 (.int .i64 (cb.length:Int)) ai ?_;try go_frame
   refine eR [5] ?_;refine gH 40 λK hK=> ?_;go_simp;go_at_call 23;refine (jA.Z _).mono ?_;rintro e w3 ⟨rfl,dN⟩;have H4:=ae (H3.Z.quiet dN);clear dN;refine hK.Z _ _ (by exact Kl.of H4.Z (gw ..)) (λaK=> ?_);clear hK K;try go_frame
   refine eR [7] ?_;refine gH 42 λK hK=> ?_;go_simp;go_at_call 55;obtain ⟨ra,rc,w4,yi,h5⟩:=xo.Z _ _ H4.Z;refine yi.Z.mono ?_;rintro e w' ⟨rfl,rfl⟩;have H5:=ae h5;clear h5;refine hK.Z _ _ (by exact Kl.of H5.Z (by simp)) (λaI=> ?_);clear hK K;refine tk 8 34 (.tuple #[.slice ra cb.length rc,.int .i64 0]) aI ?_;refine tk 9 43 (.slice ra cb.length rc) aI ?_;refine tk 10 44 (.int .i64 0) aI ?_;refine tk 11 11 (.slice ra cb.length rc) aI ?_;refine tk 12 10 (.int .i64 0) aI ?_;try go_frame
   refine wpAnyH_done (by kernel_rfl) ?_ _;clear H3 H4 xo yi;have h6:=H5.Z.Kk;have c2:=ag (i:=2) (h6.at (gw ..)).1 rfl;have f2:=cL (h6.at (gw ..)).1 2;simp only [Ap,An,yl] at c2;have h7:Own w (w4.setCell ⟨bq,2,none⟩ (.int .i64 (cb.length:Int))) (aA bq (bxO x.au x.bo (cb.length:Int))::_):=h6.store 2 (.int .i64 (cb.length:Int));have H7:=ae h7.toEnd;clear h6 h7 H5;go_upto_region 10 with fail;clear c2 f2;generalize w4.setCell ⟨bq,2,none⟩ (.int .i64 (cb.length:Int))=w5 at*;obtain ⟨w9,aT,h9⟩:=H7.Z.drew.aat (s:=⟨(x.id:Int),x.au,x.bo,cb⟩) HPG.Z;obtain ⟨-,ab5⟩:=H7.Z.drew.rd (v:= .slice ra cb.length rc) (l:=cb) (by simp);obtain ⟨o1,fT⟩:=cE (gu l5 (eu 0 (List.replicate 64 0)));rw [<-fT] at aT;have HDN:=ae (show ∀ W,aW 46 #[] W (.pointer (some ⟨W.heap.size,0,none⟩)) (W.alloc o1) from λW=>by rw [fT];exact yN W);have ab6:=ae ab5;have H9:=ae h9;dsimp only at aT;have cV:=ae aT;clear fT ab5 h9 aT;refine wp_region_held_drew (S:=Kl u d st t next mp bq x.au x.bo (cb.length:Int)) (by kernel_rfl) (by exact Kl.of (H7.Z.drew) (gw ..)) (λai=> ?_);clear H7;generalize w5.drew=w5d at*;refine D8 0 50 (.agg ([.string x.au,.int .i64 x.bo,.int .i64 (cb.length:Int)]).toArray) rfl (by kernel_rfl) (by kernel_rfl) (by kernel_rfl) (λ_ _ _ h=>h) (yieldsIf_load_mid (by rfl) _ _ rfl (bq) (0) rfl ([.string x.au,.int .i64 x.bo,.int .i64 (cb.length:Int)]) _ (λw' hk=>hk.2) Tryz.underlying43 rfl AN.Z) ai ?_;try go_frame
   refine eR [1] ?_;refine gH 51 λK hK=> ?_;go_simp;go_at_call 46;refine gU (HDN.Z _).Z ?_;refine hK.Z _ _ (by exact Kl.keep ai ((ah.refl _ _).alloc _)) (λaK=> ?_);clear hK K;refine tk 2 52 (.agg #[.string x.au,.int .i64 x.bo,.int .i64 (cb.length:Int),.pointer (some ⟨w5d.heap.size,0,none⟩)]) aK ?_;try go_frame
   refine eR [3] ?_;refine gH 53 λK hK=> ?_;go_simp;refine hK.Z _ _ (by exact Kl.keep aK ((ah.refl _ _).alloc _)) (λaI=> ?_);clear hK K;refine tk 4 12 (.pointer (some ⟨w5d.heap.size+1,0,none⟩)) aI ?_;try go_frame
   refine wpAnyH_done (by kernel_rfl) ?_ _;have aT:=cV.Z;obtain ⟨⟨-,-,-,-,c4⟩,-⟩:=aI;clear ai aK cV HDN;go_upto_region 12 with fail;clear aT c4;obtain ⟨-,-,-,c3⟩:=mR (H9.Z.at (gw ..)).1;have HSU:=ae (H9.Z.summed ((H9.Z.rd (v:= .slice ra cb.length rc) (l:=cb) (by simp)).1) (λy n c e dO=>by have:=ab6.Z y n c e dO;omega) (by dsimp only;have:=rV.Z;omega));clear ab6 H9;go_wp2_with fail;refine HSU.Z.mono ?_;rintro e w10 ⟨rfl,WO⟩;have GG:=ae WO.bR.bR;clear WO HSU c3;go_wp2;go_ret;exact ⟨rfl,.inr ⟨_,_,_,rfl,GG.Z⟩⟩
  ·rw [if_neg (by rw [<-Ry.Z];exact ht)] at bM;subst bM;have htb:(th !=0)=true:=by simpa using ht
   clear HR HEV HX HB Ry Xc ht he;go_wp2;go_ret;exact ⟨rfl,.inl ⟨rfl,H2.Z.bR⟩⟩
end
theorem Km (x:Nat):(aq x).extract 2 (aq x).size=⟨(dA (aL x 4)).toArray⟩:=by
 have h2:(⟨(dA (aL x 4)).toArray⟩:aD).size=8:=by show ((dA (aL x 4)).toArray).size=8;rw [Bd,fU,ax]
 rw [gj];unfold aq;have h3:(⟨#[117,47]⟩:aD).size=2:=rfl;exact ByteArray.extract_append_eq_right h3.symm (by rw [h3,h2])
theorem Q0 {base:Nat} (h:bC W base v l) (dO:l≠ []):∃ g c,v= .slice (some ⟨g,0,none⟩) l.length c:=by
 rcases h.2 with ⟨h1,_⟩ | ⟨g',cap,gp,e,_⟩
 ·have:l.length=0:=by omega
  exact absurd (List.length_eq_zero_iff.1 this) dO
 ·exact ⟨g',cap,e⟩
theorem pb {k:Nat} (hx:E[k]?=some x) (T:TM) (S:List eT): dU nm (E.drop k) T S=if (cO T nm x).1=0 then dU nm (E.drop (k+1)) (cO T nm x).2.1 (S++(cO T nm x).2.2.toList) else ((cO T nm x).1,(cO T nm x).2.1,S):=by obtain ⟨hk,rfl⟩:=List.getElem?_eq_some_iff.1 hx;rw [pQ hk,dU]
structure Vs (nm:aD) (E:List UE) (T0:TM) (n t k:Nat) (T:TM) (S:List eT):Prop where
 eq:dU nm E T0 []=dU nm (E.drop k) T S
 tidy:Tidy T.m (n+2*k) (t+2*k)
 aR:T.m.aR=T0.m.aR
 ok:ig T.fs
 later:∀ i x,k<=i->E[i]?=some x->aZ T.fs (aq x.id)=some (kP x)
 size:T.size<=T0.size+k*1048576
 ids:∀ s ∈ S,∃ i x,i <k/\E[i]?=some x/\s.id=(x.id:Int)
theorem Vs.start {T:TM} (hU:vq T.fs E nx) (ht:Tidy T.m n t):Vs nm E T n t 0 T []:=
 ⟨rfl,ht,rfl,hU.ok,λi x _ hx=>hU.get (kx hx),by omega,λs hs=>by simp at hs⟩
theorem T7 (h:(E.map (·.id)).Nodup) {i j:Nat} {y:UE} (hi:E[i]?=some x) (hj:E[j]?=some y) (dO:i≠j):x.id≠y.id:=by
 intro e;have h1:(E.map (·.id))[i]?=some x.id:=by rw [jc,hi];rfl
 have h2:(E.map (·.id))[j]?=some y.id:=by rw [jc,hj];rfl
 rw [e] at h1;exact dO ((List.getElem?_inj (by have:=(List.getElem?_eq_some_iff.1 h1).1;exact this) h).1 (h1.trans h2.symm))
theorem Vs.step {T0 T:TM} {k:Nat} {S:List eT} (h:Vs nm E T0 n t k T S) (hE:∀ x ∈ E,wI x) (oC:(E.map (·.id)).Nodup) (hx:E[k]?=some x) (hc:(cO T nm x).1=0): Vs nm E T0 n t (k+1) (cO T nm x).2.1 (S++(cO T nm x).2.2.toList):=by
 have hxk:=hE x (kx hx);refine ⟨?_,(h.tidy.resume nm x).mono (by omega) (by omega),(Kf T nm x).trans h.aR, ?_,λi y hi hy=> ?_, ?_,λs hs=> ?_⟩
 ·rw [h.eq,pb hx,if_pos hc]
 ·rcases Fe T nm x with e | e
  ·rw [e];exact h.ok
  ·rw [e];exact h.ok.bV _
 ·have h1:=h.later i y (by omega) hy;rcases Fe T nm x with e | e
  ·rw [e];exact h1
  ·rw [e,ik]
   ·exact h1
   ·intro e2;have hyk:=hE y (kx hy);exact T7 oC hx hy (by omega) (TR (by have:=hxk.id1;omega) (by have:=hyk.id1;omega) e2)
 ·have h1:=Kg T nm x;have h2:=h.size;rw [Nat.succ_mul];refine kT h1 ?_;rw [<-Nat.add_assoc];exact Nat.add_le_add_right h2 _
 ·rcases List.mem_append.1 hs with hs | hs
  ·obtain ⟨i,y,h1,h2,h3⟩:=h.ids s hs;exact ⟨i,y,by omega,h2,h3⟩
  ·refine ⟨k,x,by omega,hx, ?_⟩;unfold cO at hs;split at hs
   ·simp at hs
   ·split at hs
    ·simp at hs;rw [hs]
    ·simp at hs
section
variable {w wr:World} {d u st t mp j b:Nat} {nm:aD} {T:TM} {next:Int} {L L1 L2:UL} {rs:List (bB w.heap.size)}
theorem Fi {L:UL} {id:Int} (h:∀ y ∈ L,y.1.id≠id):l9 L id=none:=by unfold l9;rw [List.find?_eq_none];intro y hy;simpa using h y hy
theorem Own.T8 {A:List (bB w.heap.size)} (h:Own w W (bO d j t b nm T++A)):Own w W (bk d T.m::A):=
 (h.perm (rs':=aA j (ej d nm T.size)::aA t (ef j b T.bh)::nU b T.fs::bk d T.m::A) (by show ([bk d T.m]++([aA j (ej d nm T.size),aA t (ef j b T.bh),nU b T.fs]++A)).Perm ([aA j (ej d nm T.size),aA t (ef j b T.bh),nU b T.fs]++([bk d T.m]++A));exact Bb _ _ _)).drop.drop.drop
theorem Own.GX {W:World} {x:bB w.heap.size}:∀ {A M:List (bB w.heap.size)},Own w W (x::(A++M))->Own w W (x::M)
 | [],M,h=>h
 | y::A,M,h=>Own.GX (A:=A) (M:=M) (h.swap.drop)
theorem Kn {g:Nat} (h:W.rangeAt g 0 (l.map dF)) (hl:l.length=n) (hn:n<=maxLen):aC W (.slice (some ⟨g,0,none⟩) n n) l:=by subst hl;refine .inr ⟨⟨g,0,none⟩,l.length,rfl,eQ _,hn,λk v hv=> ?_⟩;rw [iV];exact h k v hv
def OW (w:World) (d j t b st:Nat) (nm:aD) (rs:List (bB w.heap.size)) (nx:Nat) (r:Int × TM × List eT) (e:Ending) (w':World):Prop:=
 (¬r.1=0/\(∃ v:Option Addr,e= .returned (.tuple #[.pointer v,.int .i64 r.1]))/\Own w w' (bk d r.2.1.m::rs))\/
 (r.1=0/\∃ (u mp:Nat) (L:UL),e= .returned (.tuple #[.pointer (some ⟨u,0,none⟩),.int .i64 0])/\L.map (·.1)=r.2.2/\Own w w' (bO d j t b nm r.2.1++(bE d u st t mp (nx:Int) L++rs)))
theorem Ko (h:Own w w0 (bO d j t b nm T++(aA st (kN d)::rs))) (uM:wy w) (hU:vq T.fs E nx) {n':Nat} (ht:Tidy T.m n n') (hn:2*n+2*n'+8*E.length+200 <549755813888) (hs:T.size+E.length*1048576<=1099511627776) (Kq:T.m.aR<=1048576) (pD:T.fs.length<=1000000): bF 20 #[.pointer (some ⟨d,0,none⟩),.pointer (some ⟨st,0,none⟩),.pointer (some ⟨t,0,none⟩)] w0 (OW w d j t b st nm rs nx (eZ T nm E)):=by
 have C0:=@run_makeMap Tryz.prog;have h1:=h.Oz;have h2:=h1.alloc (iX d st t 1 w0.heap.size);change Own w ((w0.alloc (.map #[] 0)).alloc (.cells #[.pointer (some ⟨d,0,none⟩),.pointer (some ⟨st,0,none⟩),.pointer (some ⟨t,0,none⟩),.int .i64 1,.map (some w0.heap.size)] 104)) _ at h2;rw [World.size_alloc] at h2;have h3:Own w _ (bO d j t b nm T++(bE d (w0.heap.size+1) st t w0.heap.size 1 []++rs)):=h2.perm (Cc ..);obtain ⟨R,hR⟩:=exp (eZ T nm E);rw [hR];unfold eZ at hR;have H3:=ae h3;have HU:=ae hU;have HT:=ae ht;have HN:=ae (And.intro hn (And.intro hs (And.intro Kq pD)));have Yz:=ae uM;have HR:=ae hR;have HE:=ae (show E.length<=1000000 from kT hU.len pD);clear h h1 h2 h3 hU ht hn hs Kq pD uM hR;go_enter Tryz.func20,Tryz.ntmps20;go_wp2_with fail;generalize (w0.alloc (.map #[] 0)).alloc (.cells #[.pointer (some ⟨d,0,none⟩),.pointer (some ⟨st,0,none⟩),.pointer (some ⟨t,0,none⟩),.int .i64 1,.map (some w0.heap.size)] 104)=w2 at H3 ⊢;generalize w0.heap.size+1=u at*;generalize w0.heap.size=mp at*;obtain ⟨F,hb,hm⟩:=H3.Z.tab;have wH:=ae (oW hb hm ⟨#[117]⟩ (by have:=HU.Z.ok.val ⟨#[117]⟩;omega));clear hb hm C0;refine wH.Z.mono ?_;rintro e w3 ⟨v,rfl,ho,dN⟩;have H4:=ae ((H3.Z.ix ho dN).toEnd);obtain ⟨va,vc,rfl,-,-⟩:=ho.bytes.aG;have xo:=ae ho.bytes.reads;clear ho dN H3 wH;obtain ⟨bb,xL⟩:=cE ((aZ T.fs ⟨#[117]⟩).isSome);rw [<-xL];have AQ:=ae xL;obtain ⟨vl,zk⟩:=cE ((aZ T.fs ⟨#[117]⟩).getD []);rw [<-zk] at H4 xo ⊢;have Jj:=ae zk;clear xL zk;go_upto_if 46 with fail;go_cut [11,12] from 47 to 67 (λ_ _ wx=>Own w wx (bO d j t b nm T++(bE d u st t mp (nx:Int) []++rs)))
 case first=>
  rcases HU.Z.next with ⟨IP,gQ⟩ | ⟨IP,gQ⟩
  ·have ox:bb=false:=by rw [AQ.Z];have:aZ T.fs ⟨#[117]⟩=none:=IP;rw [this];rfl
   subst ox;subst gQ;clear IP AQ;go_wp2;go_meet;exact H4.Z.bR
  ·have hf:aZ T.fs ⟨#[117]⟩=some (aL nx 8):=IP;have ox:bb=true:=by rw [AQ.Z,hf];rfl
   subst ox;have Yy:vl=aL nx 8:=by rw [Jj.Z,hf];rfl
   subst Yy;have MW:=uA xo.Z (by rw [ax];exact eQ _);rw [eO 8 nx (by omega)] at MW;have YA:=ae MW;have g1:decide ((nx:Int) <1)=false:=decide_eq_false (by omega);have g2:decide ((4294967296:Int) <(nx:Int))=false:=decide_eq_false (by omega);have g3:IntKind.i64.wrap (nx:Int)=(nx:Int):=qi _ (by omega);clear IP AQ Jj hf MW xo gQ;go_wp2_with fail;refine YA.Z.mono ?_;rintro e w4 ⟨rfl,eA⟩;have h5:=H4.Z.bR.quiet eA;have c3:=(eW (h5.at (b:=u) (o:=iX d st t 1 mp) (by simp [bE])).1).2.2.2.1;have f3:=cL (h5.at (b:=u) (o:=iX d st t 1 mp) (by simp [bE])).1 3;have h6:=(Own.pull (l₁:=bO d j t b nm T) h5).store 3 (.int .i64 (nx:Int));have h7:Own w (w4.setCell ⟨u,3,none⟩ (.int .i64 (nx:Int))) (bO d j t b nm T++(bE d u st t mp (nx:Int) []++rs)):=h6.perm (lO (l₁:=bO d j t b nm T)).symm;have H7:=ae h7;clear h5 h6 h7 eA H4 YA;go_wp2;go_meet;exact H7.Z
 case rest=>
  have ho:=hcut;have HO:=ae ho;obtain ⟨F,hb,hm⟩:=ho.tab;have yZ:=ae (yY hb hm);have kE:=tW hb hm HU.Z.ok.sorted HU.Z.ok.names (by have:=HN.Z.2.2.2;omega) p9 ⟨#[]⟩ (T.fs.length:Int);rw [HU.Z.ks] at kE;unfold p9 at kE;have TL:=ae kE;clear hcut ho hb hm kE H4 xo AQ Jj;go_wp2_with fail;refine gU yZ.Z.Z ?_;go_wp2_with fail;refine TL.Z.mono ?_;rintro e w4 ⟨v,rfl,bG,eA⟩;obtain ⟨ka,kc,rfl⟩:=bG.aG;have H5:=ae ((HO.Z.GC bG eA).toEnd);clear bG eA HO yZ TL;obtain ⟨ks,sL⟩:=cE (E.map (λx=>aq x.id));rw [<-sL] at H5 ⊢;have qU:ks.length=E.length:=by rw [sL,io]
  have HKS:=ae sL;clear sL;rw [qU] at H5 ⊢;clear qU;go_wp2_with fail;go_loopw [14,15,16,17,18,19,20,21,22,23,24,72] (λ_ _ _ _ _ _ _ _ _ _ _ iv wx=>∃ (k:Nat) (T':TM) (Lk:UL),iv= .int .i64 (k:Int)/\k<=E.length/\Vs nm E T n n' k T' (Lk.map (·.1))/\Own w wx (bO d j t b nm T'++(bE d u st t mp (nx:Int) Lk++(jb (.slice ka E.length kc) ks::rs)))) (λ_ _ _ _ _ _ _ _ _ _ _ iv _=>E.length - (intOf iv).toNat);case atStart=>exact ⟨0,T,[],rfl,fC _,Vs.start HU.Z HT.Z,H5.Z⟩
  case round=>
   obtain ⟨k,T',Lk,rfl,hk,fK,ho⟩:=hrel;have j0:=np k;have i1:(E.length:Int)<=1000000:=by have:=HE.Z;omega
   have p7:=ae fK;by_cases aX:k <E.length
   ·obtain ⟨x,hx⟩:∃ x,E[k]?=some x:=⟨E[k],js aX⟩;have j2:(k:Int) <E.length:=by omega
    have hxm:=kx hx;have HX:=ae (HU.Z.each x hxm);have HXK:=ae hx;obtain ⟨g2,rfl,hc,-,-⟩:=(ho.strs (kv:= .slice ka E.length kc) (ks:=ks) (by simp)).cell (i:=k) (s:=aq x.id) (by rw [HKS.Z,jc,hx];rfl);obtain ⟨F,hb,hm⟩:=ho.tab;have hgf:=fK.later k x (eQ _) hx;have qL:=oW hb hm (aq x.id) (by have:=fK.ok.val (aq x.id);omega);unfold Gv at qL;rw [hgf] at qL;simp only [RT,Fx] at qL;have wH:=ae qL;have HO:=ae ho;have jd:((aq x.id).size:Int)=10:=by rw [gj];rfl
    have FK:=Km x.id;have Xe:=ae (λW=>GV W (x:=aL x.id 4) (ax _ _));obtain ⟨ky,kE⟩:=cE (aq x.id);rw [<-kE] at hc wH jd FK;obtain ⟨hx4,ab7⟩:=cE ((⟨(dA (aL x.id 4)).toArray⟩:aD));rw [<-ab7] at FK Xe;have kC:=ae aX;clear fK ho hk aX hx hxm hb hm hgf qL kE ab7 H5;go_wp2_with fail;refine wH.Z.mono ?_;rintro e w5 ⟨v2,rfl,ju,fB⟩;obtain ⟨g5,c5,rfl⟩:=Q0 ju (by intro e;have:=congrArg List.length e;rw [pP] at this;simp at this);have h6:=(HO.Z.ix ju fB).toEnd;have E0:=Ka (Yz.Z.keep h6.keeps) HX.Z ju.bytes.reads;have H6:=ae h6;obtain ⟨ul,xI⟩:=cE ((kP x).length);rw [<-xI] at E0 H6 ⊢;have HTK:=ae E0;have HUL:=ae xI;clear ju fB h6 E0 xI HO wH hc;go_wp2_with fail;refine HTK.Z.mono ?_;rintro e w6 ⟨rfl,gZ⟩;have h7:=(H6.Z.quiet gZ).gS (bxO x.au x.bo 0);have H7:=ae (show Own w (w6.alloc (.cells #[.string x.au,.int .i64 x.bo,.int .i64 0] 43)) _ from h7);clear gZ h7 H6 HTK;go_wp2_with fail;refine (Xe.Z _).mono ?_;rintro e w7 ⟨g7,rfl,hrg,jf⟩;have H8:=ae (H7.Z.quiet jf);have MW:=uA (Kn hrg (ax _ _) (by unfold maxLen;omega)) (by rw [ax];omega);have ads:=HX.Z.id1;rw [eO 4 x.id (by omega)] at MW;have YA:=ae MW;have hw:=qi (x.id:Int) (by omega);clear hrg jf MW ads H7 Xe jd FK;go_wp2_with fail;refine YA.Z.mono ?_;rintro e w8 ⟨rfl,zY⟩;have h9:=H8.Z.quiet zY;have G8:=ae (h9.at (b:=w6.heap.size) (o:=bxO x.au x.bo 0) (by simp)).1;have H9:=ae h9;generalize w6.heap.size=bx at*;clear zY h9 H8 YA;have pE:=DO H9.Z p7.Z.tidy.dQ (by have:=HN.Z.1;have:=kC.Z;omega) (by
     have h1:=p7.Z.size;have h2:=HN.Z.2.1;have h3:k*1048576<=E.length*1048576:=Ho _ (Nat.le_of_lt kC.Z);omega) HX.Z (Fi (λy hy e=>by
      obtain ⟨i,z,h1,h2,h3⟩:=p7.Z.ids y.1 (List.mem_map.2 ⟨y,hy,rfl⟩);exact T7 HU.Z.ids h2 HXK.Z (by omega) (by omega))) (by
      have h1:=Fc p7.Z.tidy.dQ (aq x.id);rw [p7.Z.aR] at h1;have:=HN.Z.2.2.1;omega) (g:=g5) (c:=c5 - 1) (λW M hW=>by
      have hb:=(hW.bytes (v:= .slice (some ⟨g5,0,none⟩) ul c5) (l:=kP x) (by simp)).1;rw [HUL.Z] at hb;have h1:=hb.aG;obtain ⟨a',c',e',q1,-⟩:=h1;cases e';have xI:=pP x;have:=hb.off 1 x.e.length (by omega) (by omega);rw [fw,(Cj x).2.1] at this;exact this)
    obtain ⟨rr,wm⟩:=cE (cO T' nm x);rw [<-wm] at pE;have CQ:=ae pE;have EY:=ae wm;clear pE wm H9;go_wp2_with (refine wpList_load_row rfl 43 _ rfl bx rfl 43 #[.string x.au,.int .i64 x.bo,.int .i64 0] (0,0) _ G8.Z Tryz.underlying43 rfl (by kernel_rfl) ?_);refine CQ.Z.mono ?_;rintro e w9 ⟨rfl,pS⟩;obtain ⟨Lk',hL,Gf⟩:∃ Lk':UL,Lk'.map (·.1)=Lk.map (·.1)++rr.2.2.toList/\Own w w9 (bO d j t b nm rr.2.1++(bE d u st t mp (nx:Int) Lk'++(jb (.slice (some ⟨g2,0,none⟩) E.length kc) ks::rs))):=by
     rcases pS with ⟨e,h1⟩ | ⟨s,sp,q,e,h1⟩
     ·exact ⟨Lk,by rw [e];simp,h1.bR.bR⟩
     ·exact ⟨Lk++[(s,sp,q)],by rw [e];simp,h1.bR.bR⟩
    have HL:=ae hL;have HO':=ae Gf;clear pS hL Gf CQ G8 hw;obtain ⟨c1,T2,so⟩:=rr;dsimp only at HL HO' ⊢;by_cases hc:c1=0
    ·subst hc;have bG:=p7.Z.step HU.Z.each HU.Z.ids HXK.Z (by rw [<-EY.Z]);rw [<-EY.Z] at bG;have hrel:∃ (k':Nat) (T'':TM) (ab8:UL),Value.int .i64 ((k:Int)+1)= .int .i64 (k':Int)/\k'<=E.length/\Vs nm E T n n' k' T'' (ab8.map (·.1))/\Own w w9 (bO d j t b nm T''++(bE d u st t mp (nx:Int) ab8++(jb (.slice (some ⟨g2,0,none⟩) E.length kc) ks::rs))):=
      ⟨k+1,T2,Lk',rfl,kC.Z,by rw [HL.Z];exact bG,HO'.Z⟩
     have dE:=ae hrel;clear bG hrel HO' HL EY p7;go_wp2;go_roundw;case rel=>exact dE.Z
     case measure=>have:=kC.Z;simp [intOf];omega
    ·have sD:(c1 !=0)=true:=by simpa using hc
     have cK:OW w d j t b st nm rs nx R (.returned (.tuple #[.pointer none,.int .i64 c1])) w9:=by
      have h1:=p7.Z.eq;rw [pb HXK.Z,<-EY.Z] at h1;dsimp only at h1;rw [if_neg hc] at h1;have h2:=HR.Z;rw [h1] at h2;dsimp only at h2;rw [if_neg hc] at h2;subst h2;refine .inl ⟨hc,⟨none,rfl⟩, ?_⟩;have h3:=HO'.Z.T8;have h4:Own w w9 (bk d T2.m::((bE d u st t mp (nx:Int) Lk'++[jb (.slice (some ⟨g2,0,none⟩) E.length kc) ks])++rs)):=by simpa [lN] using h3
      exact h4.GX
     have fk:=ae cK;clear cK hc HO' HL EY p7 HR;go_wp2;go_ret2;exact fk.Z
   ·obtain rfl:k=E.length:=by omega
    have Q1:=GO ho fK.tidy (by have:=HN.Z.1;omega) (λf=>by have:=fK.ok.val f;omega);obtain ⟨sr,AP⟩:=cE (nh T');rw [<-AP] at Q1;have h1:=fK.eq;rw [pR] at h1;have h1:dU nm E T []=(0,T',Lk.map (·.1)):=h1;have h2:=HR.Z;rw [h1] at h2;dsimp only at h2;rw [if_pos rfl,<-AP] at h2;subst h2;have WR:=ae Q1;clear fK ho hk aX Q1 AP h1 p7 HR H5;go_wp2_with fail;refine WR.Z.mono ?_;rintro e w9 ⟨rfl,h9⟩;have H9:=ae h9;clear h9 WR;go_wp2;go_ret2;obtain ⟨c1,T2⟩:=sr;by_cases hc:c1=0
    ·subst hc;exact .inr ⟨rfl,u,mp,Lk,rfl,rfl,H9.Z.bR⟩
    ·refine .inl ⟨hc,⟨some ⟨u,0,none⟩,rfl⟩, ?_⟩;have h3:=H9.Z.T8;have h4:Own w w9 (bk d T2.m::((bE d u st t mp (nx:Int) Lk++[jb (.slice ka E.length kc) ks])++rs)):=by simpa [lN] using h3
     exact h4.GX
end
def sj (m:DM) (E:List UE):Int × DM × Option (TM × List eT):=
 if (dC m).1=0 then
  (match (bI (dC m).2 bY).tab with
   | none=>((bI (dC m).2 bY).code,(bI (dC m).2 bY).m,none)
   | some sf=>
    if (eZ ⟨(bI (dC m).2 bY).m,sf.1,sf.2,false⟩ bY E).1=0 then (0,(eZ ⟨(bI (dC m).2 bY).m,sf.1,sf.2,false⟩ bY E).2.1.m,some (eZ ⟨(bI (dC m).2 bY).m,sf.1,sf.2,false⟩ bY E).2)
    else ((eZ ⟨(bI (dC m).2 bY).m,sf.1,sf.2,false⟩ bY E).1,(eZ ⟨(bI (dC m).2 bY).m,sf.1,sf.2,false⟩ bY E).2.1.m,none))
 else ((dC m).1,(dC m).2,none)
section
variable {w wr:World} {d:Nat} {m:DM} {rs:List (bB w.heap.size)}
def Xf (w:World) (d:Nat) (rs:List (bB w.heap.size)) (nx:Nat) (r:Int × DM × Option (TM × List eT)) (e:Ending) (w':World):Prop:=
 (r.2.2=none/\¬r.1=0/\e= .returned (.tuple #[.pointer none,.int .i64 r.1])/\Own w w' (bk d r.2.1::rs))\/
 ∃ (T:TM) (S:List eT) (y st j t b u mp:Nat) (L:UL),r.2.2=some (T,S)/\r.1=0/\e= .returned (.tuple #[.pointer (some ⟨y,0,none⟩),.int .i64 0])/\L.map (·.1)=S/\
  Own w w' (bO d j t b bY T++(bE d u st t mp (nx:Int) L++(aA y (jB d st t u)::rs)))
theorem Ct {m:DM}:((bI m nm).tab=none->¬(bI m nm).code=0)/\∀ sf,(bI m nm).tab=some sf->(bI m nm).code=0:=by
 have h:=B7 m nm;unfold bI;cases hr:(ct m nm).res with
 | none=>exact ⟨λ_=>h.1 hr,λsf e=>by cases e⟩
 | some s=>
  cases ht:iG s.1 [] with
  | none=>simp [ht]
  | some fs=>simp [ht]
theorem Tidy.aav {m:DM} (h:Tidy m n t):Tidy (dC m).2 (n+1) (t+1):=by
 have h1:=h.dZ l7;unfold dC;repeat' split
 all_goals first | exact h.mono (eM _) (eM _) | exact h1.sync | exact h1
theorem Cu (h:Own w w0 (bk d m::rs)) (uM:wy w) {n':Nat} (ht:Tidy m n n') (hn:n+1 <549755813888) (hU:(dC m).1=0->∀ size fs,(bI (dC m).2 bY).tab=some (size,fs)->vq fs E nx/\size+E.length*1048576<=1099511627776/\fs.length<=1000000/\(bI (dC m).2 bY).m.aR<=1048576/\∃ k k',Tidy (bI (dC m).2 bY).m k k'/\2*k+2*k'+8*E.length+200 <549755813888): bF 31 #[.pointer (some ⟨d,0,none⟩)] w0 (Xf w d rs nx (sj m E)):=by
 have HB:=ae (BV h ht.dQ (by omega));have Bu:=ht.aav.dQ;obtain ⟨R,hR⟩:=exp (sj m E);rw [hR];unfold sj at hR;obtain ⟨br,L5⟩:=cE (dC m);rw [<-L5] at hR HB Bu hU;have HR:=ae hR;have HU:=ae hU;have HG:=ae (And.intro Bu hn);have Yz:=ae uM;clear h ht hn hU uM hR L5 Bu;obtain ⟨c0,m1⟩:=br;dsimp only at HR HU HG;go_enter Tryz.func31,Tryz.ntmps31;go_wp2_with fail;refine HB.Z.mono ?_;rintro e w1 (⟨hn,rfl,h1⟩ | ⟨hn,st,rfl,h1⟩)
 ·have hnb:(c0 !=0)=true:=by simpa using hn
  have hr:=HR.Z;rw [if_neg hn] at hr;subst hr;have H1:=ae h1;have HN:=ae hn;clear HB HR HU hn h1;go_wp2;go_ret2;exact .inl ⟨rfl,HN.Z,rfl,H1.Z⟩
 dsimp only at hn;subst hn;have hr:=HR.Z;clear HR;rw [if_pos rfl] at hr;have ph:=zX h1 HG.Z.1 (by have:=HG.Z.2;omega) bY;have Nc:=ae (Ct (m:=m1) (nm:=bY));have YB:=ae (HU.Z rfl);obtain ⟨tr,T9⟩:=cE (bI m1 bY);rw [<-T9] at hr ph Nc YB;unfold bY at ph;have Gz:=ae ph;have HR:=ae hr;clear ph h1 HB hr HG T9 HU;go_wp2_with fail;refine Gz.Z.mono ?_;rintro e w2 (⟨hs,rfl,h2⟩ | ⟨size,fs,j,t,b,hs,rfl,h2⟩)
 ·have hr:=HR.Z;rw [hs] at hr;dsimp only at hr;subst hr;have sy:=Nc.Z.1 hs;have hnb:(tr.code !=0)=true:=by simpa using sy
  have H2:=ae (Own.drop (h2.swap));have HN:=ae sy;clear hs h2 sy Gz HR Nc YB;go_wp2;go_ret2;exact .inl ⟨rfl,HN.Z,rfl,H2.Z⟩
 ·have hr:=HR.Z;clear HR;rw [hs] at hr;dsimp only at hr;have hc:=Nc.Z.2 _ hs;rw [hc];obtain ⟨q1,q2,q3,q4,k,k',q5,q6⟩:=YB.Z size fs hs;obtain ⟨tm,wR⟩:=cE (tr.m);rw [<-wR] at hr h2 q4 q5;have mj:=Ko (T:=⟨tm,size,fs,false⟩) (nm:=bY) (j:=j) (t:=t) (b:=b) (st:=st) (rs:=rs) (d:=d) h2 Yz.Z q1 q5 q6 q2 q4 q3;obtain ⟨ur,hur⟩:=cE (eZ ⟨tm,size,fs,false⟩ bY E);rw [<-hur] at mj hr;have RJ:=ae mj;have HR:=ae hr;clear hs h2 hc q1 q2 q3 q4 q5 q6 mj hr hur wR Nc Gz YB;go_wp2_with fail;refine RJ.Z.mono ?_;rintro e w3 (⟨hn,⟨v,rfl⟩,h3⟩ | ⟨hn,u,mp,L,rfl,hL,h3⟩)
  ·have hr:=HR.Z;rw [if_neg hn] at hr;subst hr;have hnb:(ur.1 !=0)=true:=by simpa using hn
   have H3:=ae h3;have HN:=ae hn;clear hn h3 RJ HR;go_wp2;go_ret2;exact .inl ⟨rfl,HN.Z,rfl,H3.Z⟩
  ·have hr:=HR.Z;rw [if_pos hn] at hr;subst hr;have H3:=ae (h3.gS (jB d st t u));have HL:=ae hL;clear h3 hL hn RJ HR;go_wp2;go_ret2;exact .inr ⟨_,_,_,st,j,t,b,u,mp,L,rfl,rfl,rfl,HL.Z,H3.Z⟩
end
theorem Tidy.ab9 {m:DM} (h:Tidy m n t) (nm:aD):Tidy (ct m nm).m (n+67108880) (t+67108880):=by
 have hb:=h.dQ.get nm;have hs:=kf ((aZ m.aN nm).getD []);unfold ct;split
 ·split
  ·have hr:cA (cB nm) m=dW (aO m nm) aV:=by unfold cB;simp only [rI,wF]
   have h2:Tidy (dW (aO m nm) aV).2 (n+1+0) (t+1+0):=(h.fY nm).then (h.fY nm).sync;rw [hr];split <;>exact h2.mono (by omega) (by omega)
  ·split
   ·split
    ·unfold mZ;have:=h.lay nm (aj (dJ ((aZ m.aN nm).getD [])).1);split <;>exact this.mono (by omega) (by omega)
    ·exact h.mono (by omega) (by omega)
   ·exact h.mono (by omega) (by omega)
 ·exact h.mono (by omega) (by omega)

end Go.Proofs.YtlcnhpjggjgnpaaGreatDoor