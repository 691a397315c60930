/- A part of the proof. -/
import Derived.Test.YtlcnhpjggjgnpaaGreatDoorUpla9
import Derived.Test.YtlcnhpjggjgnpaaGreatDoorUplb4
set_option linter.unusedSimpArgs false
set_option linter.unusedVariables false
set_option maxRecDepth 100000
set_option maxHeartbeats 1000000
namespace Go.Proofs.YtlcnhpjggjgnpaaGreatDoor
open Go.RowKit Go.MapKept
open Go.ChangeMaps (setBlock)
variable {F:FS} {R bo:Int} {T T':TM} {W w0 w1:World} {b dg l p:aH} {n nx q sp:Nat} {ps:PS} {pv:Value} {au:aD} {x:eT} {α:Type}
theorem jt.perm {w:World} {b:Nat} {qs:PS} (h:jt w b ps) (hp:ps.Perm qs):jt w b qs:=by obtain ⟨es,bD,l,h1,h2,h3,h4⟩:=h;exact ⟨es,bD,l,h1,h2,h3,h4.trans hp⟩
theorem mT (h:Good T.m n) (nm:aD) (l:List eX):Good (bL T nm l).2.m (n+1):=by
 have h1:=xP h nm T.size (bP l).2;unfold bL;split
 ·exact h.mono (eM _)
 ·split
  ·split
   ·split
    ·exact h1.sync
    ·exact h1.sync
   ·exact h1
  ·exact h.mono (eM _)
theorem lJ {s:aD} (h:gf s=true):s.size<=128:=by unfold gf at h;rw [Be,decide_eq_true_eq] at h;exact h.1
theorem TH {wr:World} {b:Nat} {k1 k2:aD} {g1 g2:Bool} {v1 v2:Value} {l1 l2:aH} {t:TypeId} (hb:wr.heap[b]?=some (.cells #[.string k1,.bool g1,v1,.string k2,.bool g2,v2] t)) (h1:aC wr v1 l1) (h2:aC wr v2 l2):fu wr (some ⟨b,0,none⟩) [⟨k1,g1,l1⟩,⟨k2,g2,l2⟩]:=by
 intro i ch hc;match i,hc with
 | 0,hc=>
  cases hc;exact ⟨_,_,rfl,ag hb rfl,ag hb rfl,ag hb rfl,h1⟩
 | 1,hc=>
  cases hc;exact ⟨_,_,rfl,ag hb rfl,ag hb rfl,ag hb rfl,h2⟩
 | i+2,hc=>simp at hc
def uB:aD:=⟨#[117]⟩
def dV (T:TM) (nm:aD) (nx:Nat) (au:aD) (bo:Int):Int × Int × TM:=
 if gf au=true then
  (if bo <0\/1099511627776 <bo then (0,1,T)
   else if 4294967295 <nx then (0,8,T)
   else if (aO T.m (aq nx)).1=0 then
   (if (bL ⟨(aO T.m (aq nx)).2,T.size,T.fs,T.bh⟩ nm [⟨aq nx,false,cD au bo.toNat []⟩,⟨uB,false,aL (nx+1) 8⟩]).1=0 then
    ((nx:Int),0,(bL ⟨(aO T.m (aq nx)).2,T.size,T.fs,T.bh⟩ nm [⟨aq nx,false,cD au bo.toNat []⟩,⟨uB,false,aL (nx+1) 8⟩]).2)
    else (0,if (aE (bL ⟨(aO T.m (aq nx)).2,T.size,T.fs,T.bh⟩ nm [⟨aq nx,false,cD au bo.toNat []⟩,⟨uB,false,aL (nx+1) 8⟩]).2.m (aq nx)).1=0
     then (bL ⟨(aO T.m (aq nx)).2,T.size,T.fs,T.bh⟩ nm [⟨aq nx,false,cD au bo.toNat []⟩,⟨uB,false,aL (nx+1) 8⟩]).1
     else (aE (bL ⟨(aO T.m (aq nx)).2,T.size,T.fs,T.bh⟩ nm [⟨aq nx,false,cD au bo.toNat []⟩,⟨uB,false,aL (nx+1) 8⟩]).2.m (aq nx)).1,
     {(bL ⟨(aO T.m (aq nx)).2,T.size,T.fs,T.bh⟩ nm [⟨aq nx,false,cD au bo.toNat []⟩,⟨uB,false,aL (nx+1) 8⟩]).2 with
      m:=(aE (bL ⟨(aO T.m (aq nx)).2,T.size,T.fs,T.bh⟩ nm [⟨aq nx,false,cD au bo.toNat []⟩,⟨uB,false,aL (nx+1) 8⟩]).2.m (aq nx)).2}))
   else (0,(aO T.m (aq nx)).1,⟨(aO T.m (aq nx)).2,T.size,T.fs,T.bh⟩))
 else (0,70,T)
section
variable {w wr:World} {d u st t mp j b:Nat} {nm:aD} {T:TM} {nx:Nat} {L:UL} {rs:List (bB w.heap.size)}
def MU (w:World) (d j t b u st mp:Nat) (nm:aD) (nx:Nat) (L:UL) (au:aD) (bo:Int) (rs:List (bB w.heap.size)) (r:Int × Int × TM) (e:Ending) (w':World):Prop:=
 e= .returned (.tuple #[.int .i64 r.1,.int .i64 r.2.1])/\
  ((r.2.1=0/\∃ sp q,Own w w' (bO d j t b nm r.2.2++(bE d u st t mp ((nx+1:Nat):Int) (L++[(⟨(nx:Int),au,bo,[]⟩,sp,q)])++rs)))\/
   (¬r.2.1=0/\Own w w' (bO d j t b nm r.2.2++(bE d u st t mp (nx:Int) L++rs))))
theorem Own.ON (h:Own w wr (kJ mp ps::rs)) (k:Int) (hk:ql ps k=none) (q:Nat) (hq:ak wr w1): ∃ w2,(Instr.mapUpdate 102 (.map (some mp)) (.int .i64 k) (.pointer (some ⟨q,0,none⟩))).run Tryz.prog w1= .ok () w2/\Own w w2 (kJ mp ((k,q)::ps)::rs):=by obtain ⟨F,⟨hb,hm⟩,hF,cK⟩:=h.jT;have h1:jt w1 mp ps:=hm.keep (hq.block mp hm.lt (λe=>e));obtain ⟨es,bD,hr,h3⟩:=h1.insert (P:=Tryz.prog) Tryz.underlying102 Tryz.underlying3 hk q;exact ⟨_,hr,cK _ (kJ mp ((k,q)::ps)) ((hq.mono (λ_ _ e=>e.elim)).setBlock (λ_=>hb) _) ⟨.inl hb,h3⟩⟩
theorem Own.toEnd {x:bB w.heap.size} {A B M:List (bB w.heap.size)} (h:Own w wr (x::(A++(B++M)))):Own w wr (A++(B++(x::M))):=h.perm (by have h1:(x::(A++(B++M))).Perm (A++(x::(B++M))):=(lO (l₁:=A)).symm;exact h1.trans (uT A (lO (l₁:=B)).symm))
theorem Own.bR {x:bB w.heap.size} {A B M:List (bB w.heap.size)} (h:Own w wr (A++(B++(x::M)))):Own w wr (A++(B++M)):=by
 have h1:Own w wr (x::(A++(B++M))):=h.perm (by have h1:(x::(A++(B++M))).Perm (A++(x::(B++M))):=(lO (l₁:=A)).symm;exact (h1.trans (uT A (lO (l₁:=B)).symm)).symm)
 exact h1.drop
theorem Own.o8 {v:Value} {A B M:List (bB w.heap.size)} (h:Own w wr (A++(B++M))) (ho:bC w1 wr.heap.size v l) (hk:ak wr w1):Own w w1 (A++(B++(bS v l::M))):=(h.ix ho hk).toEnd
theorem Own.gS {A B M:List (bB w.heap.size)} (h:Own w wr (A++(B++M))) (o:Obj):Own w (wr.alloc o) (A++(B++(aA wr.heap.size o::M))):=(h.alloc o).toEnd
def AM (u d st t nx mp bq:Nat) (au:aD) (bo:Int) (W:World):Prop:=
 (W.cell? ⟨u,0,none⟩=some (.pointer (some ⟨d,0,none⟩))/\W.cell? ⟨u,1,none⟩=some (.pointer (some ⟨st,0,none⟩))/\W.cell? ⟨u,2,none⟩=some (.pointer (some ⟨t,0,none⟩))/\W.cell? ⟨u,3,none⟩=some (.int .i64 (nx:Int))/\W.cell? ⟨u,4,none⟩=some (.map (some mp)))/\
  W.rangeAt bq 0 [.string au,.int .i64 bo,.int .i64 0]
def TI (au:aD) (bo:Int):Obj:= .cells #[.string au,.int .i64 bo,.int .i64 0] 43
theorem AM.of {bq:Nat} {A M:List (bB w.heap.size)} (h:Own w W (A++(bE d u st t mp (nx:Int) L++M))) (hm:aA bq (TI au bo) ∈ M):AM u d st t nx mp bq au bo W:=by refine ⟨eW (h.at (b:=u) (o:=iX d st t nx mp) (by simp [bE])).1,λk v hv=> ?_⟩;rw [fw];exact ag (h.at (b:=bq) (o:=TI au bo) (by simp [hm])).1 (by rw [oB];exact hv)
theorem AM.keep {bq:Nat} {W':World} (h:AM u d st t nx mp bq au bo W) (hk:ak W W'):AM u d st t nx mp bq au bo W':=
 ⟨⟨aJ h.1.1 hk,aJ h.1.2.1 hk,aJ h.1.2.2.1 hk,aJ h.1.2.2.2.1 hk,aJ h.1.2.2.2.2 hk⟩,λk v hv=>aJ (h.2 k v hv) hk⟩
theorem TJ (T Ls R:List α) (a s p x y:α):(p::x::y::(T++(a::s::(Ls++R)))).Perm (T++((a::s::p::(Ls++[x,y]))++R)):=by
 have h1:([p,x,y]++(T++(a::s::(Ls++R)))).Perm (T++([p,x,y]++(a::s::(Ls++R)))):=by rw [<-lN,<-lN];exact List.perm_append_comm.append_right _
 refine h1.trans (uT T ?_);have h2:([p,x,y]++([a,s]++(Ls++R))).Perm ([a,s]++([p,x,y]++(Ls++R))):=Bb _ _ _;refine h2.trans ?_;have h3:([x,y]++(Ls++R)).Perm ((Ls++[x,y])++R):=by rw [<-lN];exact List.perm_append_comm.append_right _
 exact ((h3.cons p).cons s).cons a
theorem Own.enter {au:aD} {bo:Int} {W:World} {T':TM} {M:List (bB w.heap.size)} (h:Own w W (bO d j t b nm T'++(bE d u st t mp (nx:Int) L++M))) (hid:ql (iy L) (nx:Int)=none): Own w (W.setCell ⟨u,3,none⟩ (.int .i64 ((nx+1:Nat):Int))) (bO d j t b nm T'++(bE d u st t mp ((nx+1:Nat):Int) L++M)):=by have h1:=(Own.pull (l₁:=bO d j t b nm T') h).store 3 (.int .i64 ((nx+1:Nat):Int));exact h1.perm (lO (l₁:=bO d j t b nm T')).symm
theorem Own.aah {xT:Int} {M:List (bB w.heap.size)} (h:Own w W (bO d j t b nm T'++(bE d u st t mp xT L++M))) (hid:ql (iy L) (nx:Int)=none): ∃ w3,(Instr.mapUpdate 102 (.map (some mp)) (.int .i64 (nx:Int)) (.pointer (some ⟨(W.alloc (gu l5 (eu 0 (List.replicate 64 0)))).heap.size,0,none⟩))).run Tryz.prog ((W.alloc (gu l5 (eu 0 (List.replicate 64 0)))).alloc (.cells #[.string au,.int .i64 bo,.int .i64 0,.pointer (some ⟨W.heap.size,0,none⟩)] 116))= .ok () w3/\ Own w w3 (bO d j t b nm T'++(bE d u st t mp xT (L++[(⟨(nx:Int),au,bo,[]⟩,(W.alloc (gu l5 (eu 0 (List.replicate 64 0)))).heap.size,W.heap.size)])++M)):=by
 obtain ⟨o1,fT⟩:=cE (gu l5 (eu 0 (List.replicate 64 0)));rw [<-fT];have h1:Own w (W.alloc o1) (Dq W.heap.size []::(bO d j t b nm T'++(bE d u st t mp xT L++M))):=
  h.add ((ah.refl (λ_=>False) W).alloc o1) (r:=Dq W.heap.size []) (G:=λb=>b=W.heap.size) ⟨rfl,List.replicate 64 0,by rw [fT];exact heap_alloc_new W _,by simp,by simp⟩ (λb hb=>by subst hb;simp)
 have h2:=h1.alloc (fQ ⟨(nx:Int),au,bo,[]⟩ W.heap.size);obtain ⟨W2,hW2⟩:=cE ((W.alloc o1).alloc (fQ ⟨(nx:Int),au,bo,[]⟩ W.heap.size));rw [<-hW2] at h2;change ∃ w3,(Instr.mapUpdate _ _ _ _).run _ ((W.alloc o1).alloc (fQ ⟨(nx:Int),au,bo,[]⟩ W.heap.size))=_/\_;rw [<-hW2];generalize (W.alloc o1).heap.size=sp at h2 ⊢;generalize W.heap.size=q at h2 ⊢;have h3:Own w W2 (kJ mp (iy L)::aA sp (fQ ⟨(nx:Int),au,bo,[]⟩ q)::Dq q []::(bO d j t b nm T'++(aA u (iX d st t xT mp)::aA st (kN d)::(eV L++M)))):=by
  have:=Own.pull (l₁:=aA sp (fQ ⟨(nx:Int),au,bo,[]⟩ q)::Dq q []::(bO d j t b nm T'++[aA u (iX d st t xT mp),aA st (kN d)])) (r:=kJ mp (iy L)) (l₂:=eV L++M) (by simpa [bE,lN] using h2)
  simpa [lN] using this
 obtain ⟨w3,hr,h4⟩:=h3.ON (nx:Int) hid sp (ah.refl _ _);refine ⟨w3,hr, ?_⟩;have h5:Own w w3 (kJ mp (iy (L++[(⟨(nx:Int),au,bo,[]⟩,sp,q)]))::aA sp (fQ ⟨(nx:Int),au,bo,[]⟩ q)::Dq q []::(bO d j t b nm T'++(aA u (iX d st t xT mp)::aA st (kN d)::(eV L++M)))):=
  h4.view (λF _ hF=>⟨hF.1,hF.2.perm (by unfold iy;rw [mB];exact (RQ (l₁:=[((nx:Int),sp)])))⟩)
 have h6:=h5.perm (TJ (bO d j t b nm T') (eV L) M _ _ _ _ _);unfold bE;rw [kq];exact h6
theorem xU (h:Own w w0 (bO d j t b nm T++(bE d u st t mp (nx:Int) L++rs))) (uM:wy w0) (hg:Good T.m n) (hn:n+3 <549755813888) (hs:T.size<=1099511627776) (gQ:1<=nx/\nx<=4294967296) (hid:∀ x ∈ L,x.1.id <(nx:Int)) (au:aD) (bo:Int) (DA:-9223372036854775808<=bo/\bo<=9223372036854775807): bF 9 #[.pointer (some ⟨u,0,none⟩),.string au,.int .i64 bo] w0 (MU w d j t b u st mp nm nx L au bo rs (dV T nm nx au bo)):=by
 have Yu:=xp w0 uM au;have Aa:=ae Yu;have H0:=ae h;clear Yu h;cases hr:gf au with
 | false=>
  have hS:dV T nm nx au bo=(0,70,T):=by unfold dV;rw [hr];rfl
  rw [hS];rw [hr] at Aa;clear hS hr uM hg hn hs gQ hid DA;go_enter Tryz.func9,Tryz.ntmps9;go_wp2_with fail;refine Aa.Z.mono ?_;rintro e w1 ⟨rfl,bN⟩;have H1:=ae (H0.Z.quiet bN);clear bN Aa H0;go_wp2;go_ret2;exact ⟨rfl,.inr ⟨by simp,H1.Z⟩⟩
 | true=>
  rw [hr] at Aa;by_cases ht:bo <0\/1099511627776 <bo
  ·have hS:dV T nm nx au bo=(0,1,T):=by unfold dV;rw [hr,if_pos rfl,if_pos ht]
   rw [hS];have HT:=ae ht;clear hS hr uM hg hn hs gQ hid DA ht;by_cases h1:bo <0
   ·have b1:decide (bo <(0:Int))=true:=decide_eq_true h1;clear h1 HT;go_enter Tryz.func9,Tryz.ntmps9;go_wp2_with fail;refine Aa.Z.mono ?_;rintro e w1 ⟨rfl,bN⟩;have H1:=ae (H0.Z.quiet bN);clear bN Aa H0;go_wp2;go_ret2;exact ⟨rfl,.inr ⟨by simp,H1.Z⟩⟩
   ·have b1:decide (bo <(0:Int))=false:=decide_eq_false h1;have b2:decide ((1099511627776:Int) <bo)=true:=decide_eq_true (by rcases HT.Z with h | h;exact absurd h h1;exact h);clear h1 HT;go_enter Tryz.func9,Tryz.ntmps9;go_wp2_with fail;refine Aa.Z.mono ?_;rintro e w1 ⟨rfl,bN⟩;have H1:=ae (H0.Z.quiet bN);clear bN Aa H0;go_wp2;go_ret2;exact ⟨rfl,.inr ⟨by simp,H1.Z⟩⟩
  ·have b1:decide (bo <(0:Int))=false:=decide_eq_false (by omega);have b2:decide ((1099511627776:Int) <bo)=false:=decide_eq_false (by omega);have MV:=ae (show 0<=bo/\bo<=1099511627776 by omega);by_cases hl:4294967295 <nx
   ·have hS:dV T nm nx au bo=(0,8,T):=by unfold dV;rw [hr,if_pos rfl,if_neg ht,if_pos hl]
    rw [hS];have b3:decide ((4294967295:Int) <(nx:Int))=true:=decide_eq_true (by omega);clear hS hr uM hg hn hs gQ hid DA ht hl;go_enter Tryz.func9,Tryz.ntmps9;go_wp2_with fail;refine Aa.Z.mono ?_;rintro e w1 ⟨rfl,bN⟩;have H1:=ae (H0.Z.quiet bN);obtain ⟨-,-,-,c3,-⟩:=eW (H1.Z.at (b:=u) (o:=iX d st t nx mp) (by simp [bE])).1;clear bN Aa H0;go_wp2;go_ret2;exact ⟨rfl,.inr ⟨by simp,H1.Z⟩⟩
   ·have b3:decide ((4294967295:Int) <(nx:Int))=false:=decide_eq_false (by omega);obtain ⟨R,hR⟩:=exp (dV T nm nx au bo);have HR:=ae hR;rw [hR];unfold dV at HR;rw [if_pos hr,if_neg ht,if_neg hl] at HR;have y8:=ae hr;have HID:=ae hid;have HG:=ae hg;have sO:=ae (And.intro gQ hl);have HN:=ae (And.intro hn hs);clear hR hr ht hl hid hg gQ hn hs DA uM;go_enter Tryz.func9,Tryz.ntmps9;go_wp2_with fail;refine Aa.Z.mono ?_;rintro e w1 ⟨rfl,bN⟩;have H1:=ae (H0.Z.quiet bN);obtain ⟨-,-,-,c3,-⟩:=eW (H1.Z.at (b:=u) (o:=iX d st t nx mp) (by simp [bE])).1;clear bN Aa H0;go_upto_region 11 with fail;have h2:=H1.Z.gS (A:=bO d j t b nm T) (B:=bE d u st t mp (nx:Int) L) (TI au bo);change Own w (w1.alloc (.cells #[.string au,.int .i64 bo,.int .i64 0] 43)) _ at h2;clear c3;generalize w1.alloc (.cells #[.string au,.int .i64 bo,.int .i64 0] 43)=w2 at h2 ⊢;generalize w1.heap.size=bq at h2 ⊢
    -- the aaQ
    obtain ⟨ky,kE⟩:=cE (aq nx);obtain ⟨cr,ml⟩:=cE (aO T.m ky);obtain ⟨l1,my⟩:=cE (cD au bo.toNat []);obtain ⟨l2,qe⟩:=cE (aL (nx+1) 8);obtain ⟨ap,kt⟩:=cE (bL ⟨cr.2,T.size,T.fs,T.bh⟩ nm [⟨ky,false,l1⟩,⟨uB,false,l2⟩]);obtain ⟨rm,sT⟩:=cE (aE ap.2.m ky);have AX:=HR.Z;rw [<-kE,<-ml,<-my,<-qe,<-kt,<-sT] at AX;have MW:Good cr.2 (n+1):=by rw [ml];exact HG.Z.fY ky
    have DH:Good ap.2.m (n+2):=by rw [kt];exact mT (T:=⟨cr.2,T.size,T.fs,T.bh⟩) MW nm _
    have jA:=ae (show ∀ W,bF 23 #[.int .i64 (nx:Int)] W (bH W (.string ky)) from λW=>by rw [kE];exact lp W nx nx (IntWalk.u64_in _ (by have:=sO.Z;omega)) (by have:=sO.Z;omega));have WN:=ae (show ∀ W (M:List (bB w.heap.size)),Own w W (bO d j t b nm T++(bE d u st t mp (nx:Int) L++M))->∃ w',aW 41 #[.pointer (some ⟨d,0,none⟩),.string ky] W (.int .i64 cr.1) w'/\Own w w' (bO d j t b nm ⟨cr.2,T.size,T.fs,T.bh⟩++(bE d u st t mp (nx:Int) L++M)) from λW M hW=>by rw [ml];exact Own.fY hW ky HG.Z.cC (HG.Z.aw (by have:=HN.Z;omega)))
    have J0:=ae (show ∀ W,bF 43 #[.agg #[.string au,.int .i64 bo,.int .i64 0],.slice none 0 0] W (nW W l1) from λW=>by rw [my];exact wB au bo 0 bo.toNat (by rw [IntWalk.u64_in _ (by have:=MV.Z;omega)];have:=MV.Z;omega) (by have:=MV.Z;omega) (dH W) (by simp) (by have:=lJ y8.Z;omega))
    obtain ⟨n1,Aw⟩:=cE (nx+1);have Qn:=ae (show ∀ W,bF 44 #[.int .u64 (n1:Int),.int .i64 8] W (nW W l2) from λW=>by rw [qe,Aw];exact ly W (nx+1) 8 (by have:=sO.Z;omega) (by omega));have jM:=ae (show ∀ W (M:List (bB w.heap.size)) (bb:Nat) (v1 v2:Value),Own w W (bO d j t b nm ⟨cr.2,T.size,T.fs,T.bh⟩++(bE d u st t mp (nx:Int) L++(aA bb (.cells #[.string ky,.bool false,v1,.string uB,.bool false,v2] 109)::bS v2 l2::bS v1 l1::M)))->
      bF 42 #[.pointer (some ⟨t,0,none⟩),.slice (some ⟨bb,0,none⟩) 2 2] W (λe w'=>e= .returned (.int .i64 ap.1)/\Own w w' (bO d j t b nm ap.2++(bE d u st t mp (nx:Int) L++M))) from λW M bb v1 v2 hW=>by
     have:=nb hW MW (by have:=HN.Z;omega) HN.Z.2 (a:=some ⟨bb,0,none⟩) (c:=2) (l:=[⟨ky,false,l1⟩,⟨uB,false,l2⟩]) (λwr ls ho=>TH (t:=109) (ho.at (b:=bb) (o:= .cells #[.string ky,.bool false,v1,.string uB,.bool false,v2] 109) (by simp)).1 (ho.bytes (v:=v1) (l:=l1) (by simp)).1 (ho.bytes (v:=v2) (l:=l2) (by simp)).1) (by simp) (by decide);rw [<-kt] at this;refine this.mono ?_;rintro e w' ⟨he,h⟩;exact ⟨he,h.bR.bR.bR⟩)
    have ot:=ae (show ∀ W (M:List (bB w.heap.size)),Own w W (bO d j t b nm ap.2++(bE d u st t mp (nx:Int) L++M))->∃ w',aW 45 #[.pointer (some ⟨d,0,none⟩),.string ky] W (.int .i64 rm.1) w'/\Own w w' (bO d j t b nm {ap.2 with m:=rm.2}++(bE d u st t mp (nx:Int) L++M)) from λW M hW=>by rw [sT];exact Own.dZ hW ky DH.cC (DH.aw (by have:=HN.Z;omega)))
    have HR:=ae AX;have MX:=ae (show IntKind.i64.wrap ((nx:Int)+1)=(n1:Int)/\IntKind.u64.wrap (n1:Int)=(n1:Int) from ⟨by rw [qi _ (by have:=sO.Z;omega)];omega,IntWalk.u64_in _ (by have:=sO.Z;omega)⟩);have HN1:=ae (show n1=nx+1 from Aw);have AN:=ae (show (Tryz.prog.info? 43).map (·.size)=some ([.string au,.int .i64 bo,.int .i64 0]:List Value).length by kernel_rfl);have H2:=ae h2;have HPG:=ae (show ql (iy L) (nx:Int)=none from Eg (λhm=>by unfold iy at hm;rw [wU] at hm;obtain ⟨x,hx,e⟩:=List.mem_map.1 hm;have:=HID.Z x hx;simp only [Function.comp_apply] at e;omega))
    clear AX h2 kE ml my qe kt sT MW DH HID HG Aw;obtain ⟨c1,m1⟩:=cr;obtain ⟨ca,T2⟩:=ap;dsimp only at*;refine wp_region_held_drew (S:=AM u d st t nx mp bq au bo) (by kernel_rfl) (by exact AM.of (H2.Z.drew) (gw ..)) (λai=> ?_);have H2d:=ae H2.Z.drew;clear H2;generalize w2.drew=w2d at*;refine tk 0 40 (.pointer (some ⟨u,0,none⟩)) ai ?_;refine tk 1 41 (.pointer (some ⟨u,0,none⟩)) ai ?_;refine tk 2 42 (.pointer (some ⟨u,0,none⟩)) ai ?_;refine tk 3 43 (.pointer (some ⟨d,0,none⟩)) ai ?_ (hy:=Or.inl ⟨by rfl,by intro w bK;(try dsimp only at bK);(obtain ⟨⟨q0,q1,q2,q3,q4⟩,-⟩:=bK;go_simp)⟩);refine tk 4 44 (.int .i64 (nx:Int)) ai ?_;try go_frame
    refine eR [5] ?_;refine gH 45 λK hK=> ?_;go_simp;go_at_call 23;refine (jA.Z _).mono ?_;rintro e w3 ⟨rfl,dN⟩;have H3:=ae (H2d.Z.quiet dN);refine hK.Z _ _ (by exact AM.of H3.Z (gw ..)) (λaK=> ?_);clear hK K;try go_frame
    refine eR [6] ?_;refine gH 46 λK hK=> ?_;go_simp;go_at_call 41;obtain ⟨w4,yi,h4⟩:=WN.Z _ _ H3.Z;refine yi.Z.mono ?_;rintro e w' ⟨rfl,rfl⟩;have H4:=ae h4;clear h4;refine hK.Z _ _ (by exact AM.of H4.Z (gw ..)) (λaI=> ?_);clear hK K;refine tk 7 10 (.int .i64 c1) aI ?_;try go_frame
    refine wpAnyH_done (by kernel_rfl) ?_ _;by_cases hc:c1=0
    ·subst hc;have bM:=HR.Z;rw [if_pos rfl] at bM;have HR:=ae bM;clear bM;go_upto_region 14 with fail;refine wp_region_held_drew (S:=AM u d st t nx mp bq au bo) (by kernel_rfl) (by exact AM.of (H4.Z.drew) (gw ..)) (λai=> ?_);have H4d:=ae H4.Z.drew;clear H4;generalize w4.drew=w4d at*;refine tk 0 50 (.pointer (some ⟨u,0,none⟩)) ai ?_;refine tk 1 51 (.pointer (some ⟨u,0,none⟩)) ai ?_;refine tk 2 52 (.pointer (some ⟨u,2,none⟩)) ai ?_;refine tk 3 53 (.pointer (some ⟨t,0,none⟩)) ai ?_ (hy:=Or.inl ⟨by rfl,by intro w bK;(try dsimp only at bK);(obtain ⟨⟨q0,q1,q2,q3,q4⟩,-⟩:=bK;go_simp)⟩);refine tk 4 54 (.int .i64 (nx:Int)) ai ?_;try go_frame
     refine D8 6 56 (.agg ([.string au,.int .i64 bo,.int .i64 0]).toArray) rfl (by kernel_rfl) (by kernel_rfl) (by kernel_rfl) (λ_ _ _ h=>h) (yieldsIf_load_mid (by rfl) _ _ rfl (bq) (0) rfl ([.string au,.int .i64 bo,.int .i64 0]) _ (λw' hk=>hk.2) Tryz.underlying43 rfl AN.Z) ai ?_;refine tk 9 59 (.int .i64 (nx:Int)) ai ?_;refine tk 10 60 (.int .i64 (n1:Int)) ai ?_ (hy:=Or.inl ⟨by rfl,by intro w bK;(try dsimp only at bK);(go_simp;exact MX.Z.1)⟩);refine tk 11 61 (.int .u64 (n1:Int)) ai ?_ (hy:=Or.inl ⟨by rfl,by intro w bK;(try dsimp only at bK);(go_simp;exact MX.Z.2)⟩);try go_frame
     refine eR [5] ?_;refine gH 55 λK hK=> ?_;go_simp;go_at_call 23;refine (jA.Z _).mono ?_;rintro e w5 ⟨rfl,fB⟩;have H5:=ae (H4d.Z.quiet fB);refine hK.Z _ _ (by exact AM.of H5.Z (gw ..)) (λaK=> ?_);clear hK K;try go_frame
     refine eR [7] ?_;refine gH 57 λK hK=> ?_;go_simp;go_at_call 43;refine (J0.Z _).mono ?_;rintro e w6 ⟨v1,rfl,fT,gZ⟩;obtain ⟨a1,q1,rfl,-,-⟩:=fT.bytes.aG;have H6:=ae (H5.Z.o8 fT gZ);clear fT;refine hK.Z _ _ (by exact AM.of H6.Z (by simp)) (λaI=> ?_);clear hK K;refine tk 8 58 (.agg #[.string ky,.bool false,.slice a1 l1.length q1]) aI ?_;try go_frame
     refine eR [12] ?_;refine gH 62 λK hK=> ?_;go_simp;go_at_call 44;refine (Qn.Z _).mono ?_;rintro e w7 ⟨v2,rfl,dy,jf⟩;obtain ⟨a2,q2,rfl,-,-⟩:=dy.bytes.aG;have H7:=ae (H6.Z.o8 dy jf);clear dy;refine hK.Z _ _ (by exact AM.of H7.Z (by simp)) (λbJ=> ?_);clear hK K;refine tk 13 63 (.agg #[.string uB,.bool false,.slice a2 l2.length q2]) bJ ?_ (hy:=Or.inl ⟨by rfl,by intro w bK;(try dsimp only at bK);(unfold uB;go_simp)⟩);try go_frame
     refine eR [14] ?_;refine gH 64 λK hK=> ?_;go_simp;have H8:=ae (H7.Z.gS (.cells #[.string ky,.bool false,.slice a1 l1.length q1,.string uB,.bool false,.slice a2 l2.length q2] 109));refine hK.Z _ _ (by exact AM.of H8.Z (by simp)) (λiD=> ?_);clear hK K;try go_frame
     refine eR [15] ?_;refine gH 65 λK hK=> ?_;go_simp;go_at_call 42;refine (jM.Z _ _ _ _ _ H8.Z).mono ?_;rintro e w9 ⟨rfl,h9⟩;have H9:=ae h9;clear h9;refine hK.Z _ _ (by exact AM.of H9.Z (gw ..)) (λmi=> ?_);clear hK K;refine tk 16 11 (.int .i64 ca) mi ?_;try go_frame
     refine wpAnyH_done (by kernel_rfl) ?_ _;by_cases y9:ca=0
     ·subst y9;have bM:=HR.Z;rw [if_pos rfl] at bM;subst bM;have h9:=H9.Z;obtain ⟨-,-,-,c3,-⟩:=eW (h9.at (b:=u) (o:=iX d st t nx mp) (by simp [bE])).1;have f3:=cL (h9.at (b:=u) (o:=iX d st t nx mp) (by simp [bE])).1 3;have hw:=MX.Z.1;have WO:=h9.enter (au:=au) (bo:=bo) HPG.Z;rw [<-HN1.Z] at WO;have GG:=ae WO;clear h9 WO;go_upto_region 21 with fail;clear c3 f3 hw;generalize w9.setCell ⟨u,3,none⟩ (.int .i64 (n1:Int))=w10 at*;obtain ⟨w13,aT,h13⟩:=GG.Z.drew.aah (nx:=nx) (au:=au) (bo:=bo) HPG.Z;obtain ⟨o1,fT⟩:=cE (gu l5 (eu 0 (List.replicate 64 0)));rw [<-fT] at aT h13;have HDN:=ae (show ∀ W,aW 46 #[] W (.pointer (some ⟨W.heap.size,0,none⟩)) (W.alloc o1) from λW=>by rw [fT];exact yN W);have H13:=ae h13;clear fT;refine wp_region_held_drew (S:=AM u d st t n1 mp bq au bo) (by kernel_rfl) (by exact AM.of (GG.Z.drew) (gw ..)) (λai=> ?_);clear GG h13;generalize w10.drew=adg at*;refine tk 0 86 (.pointer (some ⟨u,0,none⟩)) ai ?_;refine tk 1 87 (.pointer (some ⟨u,0,none⟩)) ai ?_;refine tk 2 88 (.pointer (some ⟨u,4,none⟩)) ai ?_;refine tk 3 89 (.map (some mp)) ai ?_ (hy:=Or.inl ⟨by rfl,by intro w bK;(try dsimp only at bK);(obtain ⟨⟨q0,q1,q2,q3,q4⟩,-⟩:=bK;go_simp)⟩);refine tk 4 90 (.int .i64 (nx:Int)) ai ?_;try go_frame
      refine D8 5 91 (.agg ([.string au,.int .i64 bo,.int .i64 0]).toArray) rfl (by kernel_rfl) (by kernel_rfl) (by kernel_rfl) (λ_ _ _ h=>h) (yieldsIf_load_mid (by rfl) _ _ rfl (bq) (0) rfl ([.string au,.int .i64 bo,.int .i64 0]) _ (λw' hk=>hk.2) Tryz.underlying43 rfl AN.Z) ai ?_;try go_frame
      refine eR [6] ?_;refine gH 92 λK hK=> ?_;go_simp;go_at_call 46;refine gU (HDN.Z _).Z ?_;refine hK.Z _ _ (by exact AM.keep ai ((ah.refl _ _).alloc _)) (λaK=> ?_);clear hK K;refine tk 7 93 (.agg #[.string au,.int .i64 bo,.int .i64 0,.pointer (some ⟨adg.heap.size,0,none⟩)]) aK ?_;try go_frame
      refine eR [8] ?_;refine gH 94 λK hK=> ?_;go_simp;refine hK.Z _ _ (by exact AM.keep aK ((ah.refl _ _).alloc _)) (λaI=> ?_);clear hK K;try go_frame
      simp only [World.size_alloc] at aT;refine eR [9] ?_;refine rcg (o:={dst:=none,op:=_,type:=_,pos:=_,after:=_,guard:=_}) rfl (λK hK=> ?_) AllReadyH.nil;refine eE rfl ?_;go_simp;refine hK.Z _ _ (by exact AM.of H13.Z (gw ..)) (λbJ=> ?_);clear hK K;try go_frame
      refine wpAnyH_done (by kernel_rfl) ?_ _;clear aT;go_wp2;go_ret2;exact ⟨rfl,.inl ⟨rfl,_,_,by rw [<-HN1.Z];exact H13.Z.bR⟩⟩
     ·have bM:=HR.Z;rw [if_neg y9] at bM;have HR:=ae bM;have HCA:=ae y9;have hb:(ca !=0)=true:=by simpa using y9
      clear y9 bM;go_upto_region 16 with fail;refine wp_region_held_drew (S:=AM u d st t nx mp bq au bo) (by kernel_rfl) (by exact AM.of (H9.Z.drew) (gw ..)) (λai=> ?_);have H9d:=ae H9.Z.drew;clear H9;generalize w9.drew=w9d at*;refine tk 0 68 (.pointer (some ⟨u,0,none⟩)) ai ?_;refine tk 1 69 (.pointer (some ⟨u,0,none⟩)) ai ?_;refine tk 2 70 (.pointer (some ⟨u,0,none⟩)) ai ?_;refine tk 3 71 (.pointer (some ⟨d,0,none⟩)) ai ?_ (hy:=Or.inl ⟨by rfl,by intro w bK;(try dsimp only at bK);(obtain ⟨⟨q0,q1,q2,q3,q4⟩,-⟩:=bK;go_simp)⟩);refine tk 4 72 (.int .i64 (nx:Int)) ai ?_;try go_frame
      refine eR [5] ?_;refine gH 73 λK hK=> ?_;go_simp;go_at_call 23;refine (jA.Z _).mono ?_;rintro e w10 ⟨rfl,adh⟩;have GG:=ae (H9d.Z.quiet adh);refine hK.Z _ _ (by exact AM.of GG.Z (gw ..)) (λaK=> ?_);clear hK K;try go_frame
      refine eR [6] ?_;refine gH 74 λK hK=> ?_;go_simp;go_at_call 45;obtain ⟨w11,yi,C5⟩:=ot.Z _ _ GG.Z;refine gU yi.Z ?_;have H11:=ae C5;clear C5;refine hK.Z _ _ (by exact AM.of H11.Z (gw ..)) (λaI=> ?_);clear hK K;refine tk 7 12 (.int .i64 rm.1) aI ?_;try go_frame
      refine wpAnyH_done (by kernel_rfl) ?_ _;obtain ⟨r1,r2⟩:=rm;dsimp only at*;by_cases sT:r1=0
      ·subst sT;have bM:=HR.Z;rw [if_pos rfl] at bM;subst bM;clear HR;go_wp2;go_ret2;exact ⟨rfl,.inr ⟨HCA.Z,H11.Z.bR⟩⟩
      ·have bM:=HR.Z;rw [if_neg sT] at bM;subst bM;have ox:(r1 !=0)=true:=by simpa using sT
       have HRM:=ae sT;clear HR sT;go_wp2;go_ret2;exact ⟨rfl,.inr ⟨HRM.Z,H11.Z.bR⟩⟩
    ·have bM:=HR.Z;rw [if_neg hc] at bM;subst bM;have hb:(c1 !=0)=true:=by simpa using hc
     have HC:=ae hc;clear HR hc;go_wp2;go_ret2;exact ⟨rfl,.inr ⟨HC.Z,H4.Z.bR⟩⟩
end
theorem GH {w:World} {s:Nat} {L:aH} (hs:px w s L) (hr:aC w pv l) (dO:∀ x n c,pv= .slice (some x) n c->l≠ []->x.block≠s) (hb:L.length+l.length<=4194304): bF 50 #[.pointer (some ⟨s,0,none⟩),pv] w λe w'=>e= .returned (.int .i64 0)/\ah (λb=>b=s) w w'/\px w' s (L++l):=by
 have qp:=wk hs hr dO (by omega);obtain ⟨a,c,rfl,-,-⟩:=hr.aG;obtain ⟨tail,hh,ht,hp⟩:=hs;obtain ⟨x0,x1,x2,x3,x4,x5,x6,x7,hx⟩:=nE (cJ L (L.length / 64));have CS:=hh;unfold gu cR eu at CS;rw [hx] at CS;have c8:=ag (i:=8) CS rfl;simp only [kz,Av,qV,pj,Ap,An,yl] at c8;have HP:=ae qp;obtain ⟨n,hn⟩:=cE (L.length);obtain ⟨k,hk⟩:=cE (l.length);rw [<-hn] at c8 hb;rw [<-hk] at HP hb ⊢;obtain ⟨z,hz⟩:∃ z:Int,z=2305843009213693951 - (n:Int):=⟨_,rfl⟩;have hw:IntKind.u64.wrap (2305843009213693951 - (n:Int))=z:=by rw [IntWalk.u64_in _ (by omega)];exact hz.symm
 have zu:IntKind.u64.wrap (k:Int)=(k:Int):=IntWalk.u64_in _ (by omega);have ox:decide (z <(k:Int))=false:=decide_eq_false (by omega);clear qp hr dO hh CS hx hp ht hn hk hz hb;go_enter Tryz.func50,Tryz.ntmps50;go_wp2_with fail;refine HP.Z.mono ?_;rintro e w1 ⟨rfl,bN,zp⟩;have H1:=ae (And.intro bN zp);clear bN zp HP;go_wp2;go_ret;exact ⟨rfl,H1.Z⟩
def eH (T:TM) (ky:aD) (x:eT) (at_:Int) (p:aH):Int × TM × eT:=
 if at_=(x.b.length:Int) then
  (if (1048576:Int) - (x.b.length:Int) <(p.length:Int) then (8,T,x)
   else if (aM T.m ky p).1=0 then
   (if (aV (aM T.m ky p).2).1=0 then (0,{T with m:=(aV (aM T.m ky p).2).2},{x with b:=x.b++p})
    else ((aV (aM T.m ky p).2).1,{T with m:=(aV (aM T.m ky p).2).2},x))
   else ((aM T.m ky p).1,{T with m:=(aM T.m ky p).2},x))
 else (130,T,x)
section
variable {w wr:World} {d u st t mp j b:Nat} {nm:aD} {T:TM} {next:Int} {L L1 L2:UL} {rs:List (bB w.heap.size)}
def Ab {B:Nat} (d u st t mp:Nat) (next:Int) (ps:PS) (L1 L2:UL):List (bB B):=aA u (iX d st t next mp)::aA st (kN d)::kJ mp ps::(eV L1++eV L2)
theorem B8 (T L1 L2 R:List α) (a s p x y:α):(T++((a::s::p::(L1++(x::y::L2)))++R)).Perm (x::y::(T++((a::s::p::(L1++L2))++R))):=by
 have h1:(T++([x,y]++((a::s::p::(L1++L2))++R))).Perm ([x,y]++(T++((a::s::p::(L1++L2))++R))):=Bb _ _ _;refine Fy (uT T ?_) h1;have h2:([a,s,p]++([x,y]++((L1++L2)++R))).Perm ([x,y]++([a,s,p]++((L1++L2)++R))):=Bb _ _ _;refine Fy ?_ h2;have h3:(L1++([x,y]++(L2++R))).Perm ([x,y]++(L1++(L2++R))):=Bb _ _ _;have h4:((L1++(x::y::L2))++R).Perm ([x,y]++((L1++L2)++R)):=by rw [lN,lN];exact h3
 exact ((h4.cons p).cons s).cons a
theorem Own.focus {M:List (bB w.heap.size)} (h:Own w W (bO d j t b nm T++(bE d u st t mp next (L1++(x,sp,q)::L2)++M))): Own w W (aA sp (fQ x q)::Dq q x.b::(bO d j t b nm T++(Ab d u st t mp next (iy (L1++(x,sp,q)::L2)) L1 L2++M))):=by unfold bE at h;rw [kq] at h;exact h.perm (B8 ..)
theorem Own.OO {M:List (bB w.heap.size)} (h:Own w W (aA sp (fQ x q)::Dq q x.b::(bO d j t b nm T++(Ab d u st t mp next ps L1 L2++M)))) (hp:ps=iy (L1++(x,sp,q)::L2)): Own w W (bO d j t b nm T++(bE d u st t mp next (L1++(x,sp,q)::L2)++M)):=by subst hp;unfold bE;rw [kq];exact h.perm (B8 ..).symm
theorem Own.write (h:Own w W (Dq q l::rs)) (hr:aC W pv p) (dO:∀ x n c,pv= .slice (some x) n c->p≠ []->x.block≠q) (hb:l.length+p.length<=4194304): bF 50 #[.pointer (some ⟨q,0,none⟩),pv] W λe w'=>e= .returned (.int .i64 0)/\Own w w' (Dq q (l++p)::rs):=by obtain ⟨F,hi,hF,cK⟩:=h.jT;refine (GH hi.2 hr dO hb).mono ?_;rintro e w' ⟨rfl,hk,hs⟩;exact ⟨rfl,cK w' (Dq q (l++p)) (hk.mono (λ_ _ e=>by rw [e];exact hi.1)) ⟨.inl hi.1,hs⟩⟩
def MY (w:World) (d j t b u st mp:Nat) (nm:aD) (next:Int) (L1 L2:UL) (sp q:Nat) (rs:List (bB w.heap.size)) (r:Int × TM × eT) (e:Ending) (w':World):Prop:=
 e= .returned (.int .i64 r.1)/\Own w w' (bO d j t b nm r.2.1++(bE d u st t mp next (L1++(r.2.2,sp,q)::L2)++rs))
theorem rJ (h:Own w w0 (bO d j t b nm T++(bE d u st t mp next (L1++(x,sp,q)::L2)++rs))) (hf:l9 (L1++(x,sp,q)::L2) x.id=some (x,sp,q)) (hg:Good T.m n) (hn:n+3 <549755813888) (hid:x.id=(nx:Int)) (gQ:nx<=4294967295) (AO:x.b.length<=1048576) (at_:Int) (kL:p.length<=140737488355328) (hp:∀ (W:World) (M:List (bB w.heap.size)),Own w W (M++rs)->aC W pv p) (dO:∀ x n c,pv= .slice (some x) n c->p≠ []->x.block≠q): bF 10 #[.pointer (some ⟨u,0,none⟩),.int .i64 x.id,.int .i64 at_,pv] w0 (MY w d j t b u st mp nm next L1 L2 sp q rs (eH T (aq nx) x at_ p)):=by
 have fb:=mS (L:=L1++(x,sp,q)::L2) h (u:=u) (d:=d) (st:=st) (t:=t) (mp:=mp) (next:=next) (by simp [bE]) (by simp [bE]) x.id;unfold pL at fb;rw [hf] at fb;dsimp only at fb;have nN:=ae fb;have H0:=ae h;have gm:=hp w0 (bO d j t b nm T++bE d u st t mp next (L1++(x,sp,q)::L2)) (by rw [lN];exact h);obtain ⟨pa,pc,rfl,-,-⟩:=gm.aG;have aai:∀ {W:World} {T':TM},Own w W (bO d j t b nm T'++(bE d u st t mp next (L1++(x,sp,q)::L2)++rs))->W.heap[sp]?=some (fQ x q)/\W.heap[u]?=some (iX d st t next mp):=fun {W T'} h=>⟨(h.focus.at (b:=sp) (o:=fQ x q) (by simp)).1,(h.at (b:=u) (o:=iX d st t next mp) (by simp [bE])).1⟩
 have AL:=ae (λW T' h=>aai (W:=W) (T':=T') h);obtain ⟨-,-,s2,-⟩:=mR (aai h).1;obtain ⟨bl,kg⟩:=cE (x.b.length);obtain ⟨pl,vo⟩:=cE (p.length);have oi:=ae (And.intro kg vo);rw [<-kg] at s2 AO;rw [<-vo] at kL ⊢;simp only [<-vo] at hp dO;have HP:=ae hp;have Zt:=ae dO;have HG:=ae hg;have HN:=ae hn;clear h fb hf gm hg hn hp dO aai;by_cases ha:at_=(bl:Int)
 ·have b1:(at_ !=(bl:Int))=false:=by simp [ha]
  have hw:IntKind.i64.wrap (1048576 - (bl:Int))=1048576 - (bl:Int):=qi _ (by omega);by_cases hl:(1048576:Int) - (bl:Int) <(pl:Int)
  ·have hS:eH T (aq nx) x at_ p=(8,T,x):=by unfold eH;rw [<-oi.Z.1,<-oi.Z.2,if_pos ha,if_pos hl]
   rw [hS];have b2:decide ((1048576:Int) - (bl:Int) <(pl:Int))=true:=decide_eq_true hl;clear hS ha hl kg vo AO kL hid gQ;go_enter Tryz.func10,Tryz.ntmps10;go_wp2_with fail;refine gU nN.Z.Z ?_;go_wp2;go_ret;exact ⟨rfl,H0.Z⟩
  ·have b2:decide ((1048576:Int) - (bl:Int) <(pl:Int))=false:=decide_eq_false hl;obtain ⟨R,hR⟩:=exp (eH T (aq nx) x at_ p);rw [hR];unfold eH at hR;rw [<-oi.Z.1,<-oi.Z.2,if_pos ha,if_neg hl] at hR;obtain ⟨ky,kE⟩:=cE (aq nx);rw [<-kE] at hR;have jA:=ae (show ∀ W,bF 23 #[.int .i64 x.id] W (bH W (.string ky)) from λW=>by rw [kE,hid];exact lp W nx nx (IntWalk.u64_in _ (by omega)) (by omega));obtain ⟨ar,GI⟩:=cE (aM T.m ky p);obtain ⟨sr,AP⟩:=cE (aV ar.2);rw [<-GI,<-AP] at hR;have DH:Good ar.2 (n+1):=by rw [GI];exact HG.Z.append ky p
   have jM:=ae (show ∀ W,Own w W (bO d j t b nm T++(bE d u st t mp next (L1++(x,sp,q)::L2)++rs))->bF 48 #[.pointer (some ⟨d,0,none⟩),.string ky,.slice pa pl pc] W (λe w'=>e= .returned (.int .i64 ar.1)/\Own w w' (bO d j t b nm {T with m:=ar.2}++(bE d u st t mp next (L1++(x,sp,q)::L2)++rs))) from λW hW=>by rw [GI];exact Own.append hW ky (HP.Z W (bO d j t b nm T++bE d u st t mp next (L1++(x,sp,q)::L2)) (by rw [lN];exact hW)) HG.Z.qz HG.Z.nY HG.Z.AA HG.Z.cC (HG.Z.aw (by have:=HN.Z;omega)))
   have om:=ae (show ∀ W,Own w W (bO d j t b nm {T with m:=ar.2}++(bE d u st t mp next (L1++(x,sp,q)::L2)++rs))->bF 49 #[.pointer (some ⟨d,0,none⟩)] W (λe w'=>e= .returned (.int .i64 sr.1)/\Own w w' (bO d j t b nm {T with m:=sr.2}++(bE d u st t mp next (L1++(x,sp,q)::L2)++rs))) from λW hW=>by rw [AP];exact Own.sync hW DH.cC DH.fits1)
   obtain ⟨c1,m1⟩:=ar;obtain ⟨c2,m2⟩:=sr;dsimp only at hR jM om;have HR:=ae hR;have Z9:IntKind.i64.wrap ((bl:Int)+(pl:Int))=((bl:Int)+(pl:Int)):=qi _ (by omega);have HW3:=ae Z9;have wN:=ae (show bl+pl<=1048576 by omega);clear hR kE GI AP DH ha hl kg vo AO kL hid gQ Z9 HG HN;go_enter Tryz.func10,Tryz.ntmps10;go_wp2_with fail;refine gU nN.Z.Z ?_;go_upto_region 8 with fail;clear s2 hw b1 b2 nN;refine wp_region_held_drew (S:=λW=>W.cell? ⟨u,0,none⟩=some (.pointer (some ⟨d,0,none⟩))) (by kernel_rfl) (by exact (eW (AL.Z _ _ H0.Z.drew).2).1) (λai=> ?_);have H0d:=ae H0.Z.drew;clear H0;refine tk 0 41 (.pointer (some ⟨u,0,none⟩)) ai ?_;refine tk 1 42 (.pointer (some ⟨u,0,none⟩)) ai ?_;refine tk 2 43 (.pointer (some ⟨u,0,none⟩)) ai ?_;refine tk 3 44 (.pointer (some ⟨d,0,none⟩)) ai ?_ (hy:=Or.inl ⟨by rfl,by intro w bK;(try dsimp only at bK);(have q0:=bK;go_simp)⟩);refine tk 4 45 (.int .i64 x.id) ai ?_;refine tk 6 47 (.slice pa pl pc) ai ?_;try go_frame
   refine eR [5] ?_;refine gH 46 λK hK=> ?_;go_simp;go_at_call 23;refine (jA.Z _).mono ?_;rintro e w3 ⟨rfl,dN⟩;have H3:=ae (H0d.Z.quiet dN);refine hK.Z _ _ (by exact (eW (AL.Z _ _ H3.Z).2).1) (λaK=> ?_);clear hK K;try go_frame
   refine eR [7] ?_;refine gH 48 λK hK=> ?_;go_simp;go_at_call 48;refine (jM.Z _ H3.Z).mono ?_;rintro e w4 ⟨rfl,h4⟩;have H4:=ae h4;clear h4;refine hK.Z _ _ (by exact (eW (AL.Z _ _ H4.Z).2).1) (λaI=> ?_);clear hK K;refine tk 8 11 (.int .i64 c1) aI ?_;try go_frame
   refine wpAnyH_done (by kernel_rfl) ?_ _;by_cases hc:c1=0
   ·subst hc;have bM:=HR.Z;rw [if_pos rfl] at bM;have HR:=ae bM;clear bM;obtain ⟨k0,-,-,-,-⟩:=eW (AL.Z _ _ H4.Z).2;go_wp2_with fail;refine (om.Z _ H4.Z).mono ?_;rintro e w5 ⟨rfl,h5⟩;clear k0 H4;by_cases gy:c2=0
    ·subst gy;have bM:=HR.Z;rw [if_pos rfl] at bM;subst bM;have hs5:=(AL.Z _ _ h5).1;obtain ⟨-,-,s2,s3⟩:=mR hs5;rw [<-oi.Z.1] at s2;have f2:=cL hs5 2;have h6:=h5.focus.store 2 (.int .i64 ((bl:Int)+(pl:Int)))
     have s3':(w5.setCell ⟨sp,2,none⟩ (.int .i64 ((bl:Int)+(pl:Int)))).cell? ⟨sp,3,none⟩=some (.pointer (some ⟨q,0,none⟩)):=ag (h6.at (gw ..)).1 rfl;have h7:Own w (w5.setCell ⟨sp,2,none⟩ (.int .i64 ((bl:Int)+(pl:Int)))) (Dq q x.b::aA sp (fQ {x with b:=x.b++p} q)::(bO d j t b nm {T with m:=m2}++(Ab d u st t mp next (iy (L1++(x,sp,q)::L2)) L1 L2++rs))):=by
      have e:(fQ {x with b:=x.b++p} q)=Obj.cells (#[.string x.au,.int .i64 x.bo,.int .i64 (x.b.length:Int),.pointer (some ⟨q,0,none⟩)].setIfInBounds 2 (.int .i64 ((bl:Int)+(pl:Int)))) 116 (0,0):=by unfold fQ;rw [oi.Z.1,oi.Z.2];simp
      rw [e];exact h6.swap
     have VV:=h7.write (pv:= .slice pa pl pc) (p:=p) (HP.Z _ (Dq q x.b::aA sp (fQ {x with b:=x.b++p} q)::(bO d j t b nm {T with m:=m2}++Ab d u st t mp next (iy (L1++(x,sp,q)::L2)) L1 L2)) (by show Own _ _ (_::_::((_++_)++rs));rw [lN];exact h7)) Zt.Z (by have:=wN.Z;have:=oi.Z;omega);have HWR:=ae VV;have Z9:=HW3.Z;clear h5 h6 h7 VV hs5 HR;go_wp2_with fail;refine HWR.Z.mono ?_;rintro e w6 ⟨rfl,h8⟩;have H8:=ae (Own.OO (x:={x with b:=x.b++p}) h8.swap (by simp [iy]));clear h8 HWR s2 s3 s3' f2 Z9;go_wp2;go_ret;exact ⟨rfl,H8.Z⟩
    ·have bM:=HR.Z;rw [if_neg gy] at bM;subst bM;have ox:(c2 !=0)=true:=by simpa using gy
     have H5:=ae h5;clear HR gy h5;go_wp2;go_ret;exact ⟨rfl,H5.Z⟩
   ·have bM:=HR.Z;rw [if_neg hc] at bM;subst bM;have ox:(c1 !=0)=true:=by simpa using hc
    clear HR hc;go_wp2;go_ret;exact ⟨rfl,H4.Z⟩
 ·have hS:eH T (aq nx) x at_ p=(130,T,x):=by unfold eH;rw [<-oi.Z.1,if_neg ha]
  rw [hS];have b1:(at_ !=(bl:Int))=true:=by simpa using ha
  clear hS ha kg vo AO kL hid gQ;go_enter Tryz.func10,Tryz.ntmps10;go_wp2_with fail;refine gU nN.Z.Z ?_;go_wp2;go_ret;exact ⟨rfl,H0.Z⟩
end
theorem B9 {m:DM} (h:Good m n) (nm:aD) (dg:aH):Good (cT m nm dg).2 (n+1):=by
 unfold cT;split
 ·split
  ·split
   ·split
    ·exact (h.dZ nm).sync
    ·exact h.dZ nm
   ·split
    ·exact (h.rename nm (aY dg)).sync
    ·exact h.rename nm (aY dg)
  ·exact h.mono (eM _)
 ·exact h.mono (eM _)
def eo (T:TM) (nm ky:aD) (dg:aH):Int × TM:=
 if ¬(cT T.m ky dg).1=0/\¬(cT T.m ky dg).1=6 then ((cT T.m ky dg).1,{T with m:=(cT T.m ky dg).2})
 else if (bL {T with m:=(cT T.m ky dg).2} nm [⟨ky,true,[]⟩]).1=4 then (0,(bL {T with m:=(cT T.m ky dg).2} nm [⟨ky,true,[]⟩]).2)
 else ((bL {T with m:=(cT T.m ky dg).2} nm [⟨ky,true,[]⟩]).1,(bL {T with m:=(cT T.m ky dg).2} nm [⟨ky,true,[]⟩]).2)
section
variable {w wr:World} {d u st t mp j b:Nat} {nm:aD} {T:TM} {next:Int} {L L1 L2:UL} {rs:List (bB w.heap.size)}
def QM (u d st t:Nat) (next:Int) (mp bd:Nat) (cl:List Value) (W:World):Prop:=
 (W.cell? ⟨u,0,none⟩=some (.pointer (some ⟨d,0,none⟩))/\W.cell? ⟨u,1,none⟩=some (.pointer (some ⟨st,0,none⟩))/\W.cell? ⟨u,2,none⟩=some (.pointer (some ⟨t,0,none⟩))/\W.cell? ⟨u,3,none⟩=some (.int .i64 next)/\W.cell? ⟨u,4,none⟩=some (.map (some mp)))/\W.rangeAt bd 0 cl
theorem QM.of {bd:Nat} {cl:List Value} {A M:List (bB w.heap.size)} (h:Own w W (A++(bE d u st t mp next L++M))) (hm:aA bd (.cells cl.toArray 39) ∈ M):QM u d st t next mp bd cl W:=by refine ⟨eW (h.at (b:=u) (o:=iX d st t next mp) (by simp [bE])).1,λk v hv=> ?_⟩;rw [fw];exact ag (h.at (b:=bd) (o:= .cells cl.toArray 39) (by simp [hm])).1 (by rw [oB];exact hv)
theorem J1 {wr:World} {b:Nat} {key:aD} {gone:Bool} {val:aH} {t:TypeId} (hb:wr.heap[b]?=some (.cells #[.string key,.bool gone,pv] t)) (hp:aC wr pv val):fu wr (some ⟨b,0,none⟩) [⟨key,gone,val⟩]:=by
 intro i ch hc;match i,hc with
 | 0,hc=>
  cases hc;exact ⟨_,_,rfl,ag hb rfl,ag hb rfl,ag hb rfl,hp⟩
 | i+1,hc=>simp at hc
def rK (w:World) (d j t b u st mp:Nat) (nm:aD) (next:Int) (L:UL) (rs:List (bB w.heap.size)) (r:Int × TM) (e:Ending) (w':World):Prop:=
 e= .returned (.int .i64 r.1)/\Own w w' (bO d j t b nm r.2++(bE d u st t mp next L++rs))
theorem Ca {bb:Nat} {ky:aD} {M:List (bB w.heap.size)} (hW:Own w W (bO d j t b nm T'++(bE d u st t mp next L++(aA bb (.cells #[.string ky,.bool true,.slice none 0 0] 109)::M)))) (hg:Good T'.m n) (hn:n <549755813888) (hs:T'.size<=1099511627776): bF 42 #[.pointer (some ⟨t,0,none⟩),.slice (some ⟨bb,0,none⟩) 1 1] W (rK w d j t b u st mp nm next L M (bL T' nm [⟨ky,true,[]⟩])):=by refine (nb hW hg hn hs (a:=some ⟨bb,0,none⟩) (c:=1) (l:=[⟨ky,true,[]⟩]) (λwr ls ho=>J1 (t:=109) (ho.at (b:=bb) (o:= .cells #[.string ky,.bool true,.slice none 0 0] 109) (by simp)).1 (dH _)) (by simp) (by decide)).mono ?_;rintro e w' ⟨he,h⟩;exact ⟨he,h.bR⟩
theorem rL (h:Own w w0 (bO d j t b nm T++(bE d u st t mp next L++rs))) (hg:Good T.m n) (hn:n+20 <549755813888) (hs:T.size<=1099511627776) {id:Int} (hid:id=(nx:Int)) (gQ:nx<=4294967295) (lQ:dg.length=32): bF 54 #[.pointer (some ⟨u,0,none⟩),.int .i64 id,.agg (dg.map dF).toArray] w0 (rK w d j t b u st mp nm next L rs (eo T nm (aq nx) dg)):=by
 obtain ⟨ky,kE⟩:=cE (aq nx);have jA:=ae (show ∀ W,bF 23 #[.int .i64 id] W (bH W (.string ky)) from λW=>by rw [kE,hid];exact lp W nx nx (IntWalk.u64_in _ (by omega)) (by omega));obtain ⟨cl,dI⟩:∃ cl:List Value,cl=dg.map dF:=⟨_,rfl⟩;have HI:=ae (show (Tryz.prog.info? 39).map (·.size)=some cl.length by rw [dI,io,lQ];kernel_rfl);obtain ⟨R,hR⟩:=exp (eo T nm (aq nx) dg);rw [hR,<-dI];unfold eo at hR;rw [<-kE] at hR;obtain ⟨ar,GI⟩:=cE (cT T.m ky dg);have DH:Good ar.2 (n+1):=by rw [GI];exact B9 hg ky dg
 have QN:=ae (show ∀ W (M:List (bB w.heap.size)),Own w W (bO d j t b nm T++(bE d u st t mp next L++M))->bF 115 #[.pointer (some ⟨st,0,none⟩),.string ky,.agg cl.toArray] W (λe w'=>e= .returned (.int .i64 ar.1)/\Own w w' (bO d j t b nm {T with m:=ar.2}++(bE d u st t mp next L++M))) from λW M hW=>by rw [GI,dI];exact Gh hW (by simp [bE,kN]) hg (by omega) ky dg lQ)
 rw [<-GI] at hR;obtain ⟨ap,kt⟩:∃ r,r=bL {T with m:=ar.2} nm [⟨ky,true,[]⟩]:=⟨_,rfl⟩;have jM:=ae (show ∀ W (M:List (bB w.heap.size)) (bb:Nat),Own w W (bO d j t b nm {T with m:=ar.2}++(bE d u st t mp next L++(aA bb (.cells #[.string ky,.bool true,.slice none 0 0] 109)::M)))->bF 42 #[.pointer (some ⟨t,0,none⟩),.slice (some ⟨bb,0,none⟩) 1 1] W (rK w d j t b u st mp nm next L M ap) from λW M bb hW=>by rw [kt];exact Ca hW DH (by omega) hs)
 rw [<-kt] at hR;obtain ⟨c1,m1⟩:=ar;obtain ⟨c2,T2⟩:=ap;dsimp only at hR QN jM;have HR:=ae hR;have H0:=ae (h.gS (.cells cl.toArray 39));clear hR kE dI GI DH kt h hg hn hs hid gQ lQ;go_enter Tryz.func54,Tryz.ntmps54;go_upto_region 1 with fail;generalize w0.alloc (.cells cl.toArray 39)=w1 at H0 ⊢;generalize w0.heap.size=bd at H0 ⊢;refine wp_region_held_drew (S:=QM u d st t next mp bd cl) (by kernel_rfl) (by exact QM.of H0.Z.drew (gw ..)) (λai=> ?_);have H1:=ae H0.Z.drew;clear H0;generalize w1.drew=w1d at*;refine tk 0 9 (.pointer (some ⟨u,0,none⟩)) ai ?_;refine tk 1 10 (.pointer (some ⟨u,0,none⟩)) ai ?_;refine tk 2 11 (.pointer (some ⟨u,1,none⟩)) ai ?_;refine tk 3 12 (.pointer (some ⟨st,0,none⟩)) ai ?_ (hy:=Or.inl ⟨by rfl,by intro w bK;(try dsimp only at bK);(obtain ⟨⟨q0,q1,q2,q3,q4⟩,-⟩:=bK;go_simp)⟩);refine tk 4 13 (.int .i64 id) ai ?_;try go_frame
 refine D8 6 15 (.agg (cl).toArray) rfl (by kernel_rfl) (by kernel_rfl) (by kernel_rfl) (λ_ _ _ h=>h) (yieldsIf_load_mid (by rfl) _ _ rfl (bd) (0) rfl (cl) _ (λw' hk=>hk.2) Tryz.underlying39 rfl HI.Z) ai ?_;try go_frame
 refine eR [5] ?_;refine gH 14 λK hK=> ?_;go_simp;go_at_call 23;refine (jA.Z _).mono ?_;rintro e w2 ⟨rfl,cg⟩;have H2:=ae (H1.Z.quiet cg);refine hK.Z _ _ (by exact QM.of H2.Z (gw ..)) (λaK=> ?_);clear hK K;try go_frame
 refine eR [7] ?_;refine gH 16 λK hK=> ?_;go_simp;go_at_call 115;refine (QN.Z _ _ H2.Z).mono ?_;rintro e w3 ⟨rfl,h3⟩;have H3:=ae h3;clear h3;refine hK.Z _ _ (by exact QM.of H3.Z (gw ..)) (λaI=> ?_);clear hK K;refine tk 8 7 (.int .i64 c1) aI ?_;try go_frame
 refine wpAnyH_done (by kernel_rfl) ?_ _;by_cases hc:¬c1=0/\¬c1=6
 ·have bM:=HR.Z;rw [if_pos hc] at bM;subst bM;have b1:(c1 !=0)=true:=by simpa using hc.1
  have b2:(c1 !=6)=true:=by simpa using hc.2
  clear HR hc;go_wp2;go_ret;exact ⟨rfl,H3.Z.bR⟩
 ·have bM:=HR.Z;rw [if_neg hc] at bM;have HR:=ae bM;clear bM;have OP:(c1=0)\/(c1=6):=by
   by_cases h0:c1=0
   ·exact .inl h0
   ·by_cases h6:c1=6
    ·exact .inr h6
    ·exact absurd ⟨h0,h6⟩ hc
  clear hc;go_upto_region 2 with fail;go_cut [22] from 9 to 35 (λv wx=>v= .bool false/\w3=wx)
  case first=>
   rcases OP with rfl | rfl
   ·go_wp2;go_meet;exact ⟨rfl,rfl⟩
   ·go_wp2;go_meet;exact ⟨rfl,rfl⟩
  case rest=>
   obtain ⟨rfl,rfl⟩:=hcut;clear OP;go_upto_region 4 with fail;refine wp_region_held_drew (S:=QM u d st t next mp bd cl) (by kernel_rfl) (by exact QM.of H3.Z.drew (gw ..)) (λai=> ?_);have H4:=ae H3.Z.drew;clear H3;generalize w3.drew=w3d at*;refine tk 0 24 (.pointer (some ⟨u,0,none⟩)) ai ?_;refine tk 1 25 (.pointer (some ⟨u,0,none⟩)) ai ?_;refine tk 2 26 (.pointer (some ⟨u,2,none⟩)) ai ?_;refine tk 3 27 (.pointer (some ⟨t,0,none⟩)) ai ?_ (hy:=Or.inl ⟨by rfl,by intro w bK;(try dsimp only at bK);(obtain ⟨⟨q0,q1,q2,q3,q4⟩,-⟩:=bK;go_simp)⟩);refine tk 4 28 (.int .i64 id) ai ?_;try go_frame
   refine eR [5] ?_;refine gH 29 λK hK=> ?_;go_simp;go_at_call 23;refine (jA.Z _).mono ?_;rintro e w5 ⟨rfl,fB⟩;have H5:=ae (H4.Z.quiet fB);refine hK.Z _ _ (by exact QM.of H5.Z (gw ..)) (λaK=> ?_);clear hK K;refine tk 6 30 (.agg #[.string ky,.bool true,.slice none 0 0]) aK ?_;try go_frame
   refine eR [7] ?_;refine gH 31 λK hK=> ?_;go_simp;have H6:=ae (H5.Z.gS (.cells #[.string ky,.bool true,.slice none 0 0] 109));refine hK.Z _ _ (by exact QM.of H6.Z (by simp)) (λaI=> ?_);clear hK K;try go_frame
   refine eR [8] ?_;refine gH 32 λK hK=> ?_;go_simp;go_at_call 42;refine (jM.Z _ _ _ H6.Z).mono ?_;rintro e w7 ⟨rfl,h7⟩;have H7:=ae h7;clear h7;refine hK.Z _ _ (by exact QM.of H7.Z (gw ..)) (λbJ=> ?_);clear hK K;refine tk 9 8 (.int .i64 c2) bJ ?_;try go_frame
   refine wpAnyH_done (by kernel_rfl) ?_ _;by_cases hc:c2=4
   ·subst hc;have bM:=HR.Z;rw [if_pos rfl] at bM;subst bM;clear HR;go_wp2;go_ret;exact ⟨rfl,H7.Z.bR⟩
   ·have bM:=HR.Z;rw [if_neg hc] at bM;subst bM;have b1:(c2 !=4)=true:=by simpa using hc
    clear HR hc;go_wp2;go_ret;exact ⟨rfl,H7.Z.bR⟩
end
def o9 (T:TM) (nm ky:aD) (x:eT) (dg:aH):Int × TM × Bool:=
 if ei x.b=dg then
  (if (bL T nm [⟨ky,false,cD x.au x.bo.toNat dg⟩]).1=0 then
   ((eo (bL T nm [⟨ky,false,cD x.au x.bo.toNat dg⟩]).2 nm ky dg).1,(eo (bL T nm [⟨ky,false,cD x.au x.bo.toNat dg⟩]).2 nm ky dg).2,true)
   else ((bL T nm [⟨ky,false,cD x.au x.bo.toNat dg⟩]).1,(bL T nm [⟨ky,false,cD x.au x.bo.toNat dg⟩]).2,false))
 else (20,T,false)
theorem mU (T:TM) (nm:aD) (l:List eX):(bL T nm l).2.size<=T.size+1048576:=by
 have h:∀ p,(ci T.m nm T.size p).2.2<=T.size+1048576:=λp=>by
  unfold ci;split
  ·exact Aq _ _
  ·split
   ·show T.size+(8+p.length)<=_;omega
   ·exact Aq _ _
 unfold bL;split
 ·exact Aq _ _
 ·split
  ·split
   ·split
    ·exact h _
    ·exact h _
   ·exact h _
  ·exact Aq _ _
section
variable {w wr:World} {d u st t mp j b:Nat} {nm:aD} {T:TM} {next:Int} {L L1 L2:UL} {rs:List (bB w.heap.size)}
theorem Own.WQ (h:Own w wr (kJ mp ps::rs)) (k:Int) (hq:ak wr w1): ∃ w2,(Builtin.delete_ #[102,3] 0 #[.map (some mp),.int .i64 k]).run Tryz.prog w1= .ok (.tuple #[]) w2/\Own w w2 (kJ mp (Ik ps k)::rs):=by obtain ⟨F,⟨hb,hm⟩,hF,cK⟩:=h.jT;have h1:jt w1 mp ps:=hm.keep (hq.block mp hm.lt (λe=>e));obtain ⟨es,bD,hr,h3⟩:=h1.delete (P:=Tryz.prog) Tryz.underlying102 Tryz.underlying3 k 3 0;exact ⟨_,hr,cK _ (kJ mp (Ik ps k)) ((hq.mono (λ_ _ e=>e.elim)).setBlock (λ_=>hb) _) ⟨.inl hb,h3⟩⟩
theorem MZ (oC:∀ y ∈ L1++L2,y.1.id≠x.id):Ik (iy (L1++(x,sp,q)::L2)) x.id=iy (L1++L2):=by
 have e:iy (L1++(x,sp,q)::L2)=iy L1++((x.id,sp)::iy L2):=by simp [iy]
 have k1:∀ M:UL,(∀ y ∈ M,y.1.id≠x.id)->(iy M).filter (λp=>p.1≠x.id)=iy M:=λM hM=>by rw [RR];intro p hp;obtain ⟨y,hy,rfl⟩:=List.mem_map.1 hp;simpa using hM y hy
 rw [e];unfold Ik;rw [List.filter_append,K6];simp only [ne_eq,not_true_eq_false,decide_false,nP,if_false];rw [k1 L1 (λy hy=>oC y (by simp [hy])),k1 L2 (λy hy=>oC y (by simp [hy]))];simp [iy]
theorem Own.leave {M:List (bB w.heap.size)} (h:Own w W (bO d j t b nm T++(bE d u st t mp next (L1++(x,sp,q)::L2)++M))) (oC:∀ y ∈ L1++L2,y.1.id≠x.id): ∃ w2,(Builtin.delete_ #[102,3] 0 #[.map (some mp),.int .i64 x.id]).run Tryz.prog W= .ok (.tuple #[]) w2/\Own w w2 (bO d j t b nm T++(bE d u st t mp next (L1++L2)++M)):=by
 have h1:=h.focus.drop.drop
 have h2:Own w W (kJ mp (iy (L1++(x,sp,q)::L2))::((bO d j t b nm T++[aA u (iX d st t next mp),aA st (kN d)])++((eV L1++eV L2)++M))):=by
  refine Own.pull (l₁:=bO d j t b nm T++[aA u (iX d st t next mp),aA st (kN d)]) (r:=kJ mp (iy (L1++(x,sp,q)::L2))) (l₂:=(eV L1++eV L2)++M) ?_;have e:bO d j t b nm T++(Ab d u st t mp next (iy (L1++(x,sp,q)::L2)) L1 L2++M)=(bO d j t b nm T++[aA u (iX d st t next mp),aA st (kN d)])++kJ mp (iy (L1++(x,sp,q)::L2))::((eV L1++eV L2)++M):=by simp [Ab,lN]
  rw [<-e];exact h1
 obtain ⟨w2,hr,h3⟩:=h2.WQ x.id (ah.refl _ _);rw [MZ oC] at h3;refine ⟨w2,hr, ?_⟩;have e:bO d j t b nm T++(bE d u st t mp next (L1++L2)++M)=(bO d j t b nm T++[aA u (iX d st t next mp),aA st (kN d)])++kJ mp (iy (L1++L2))::((eV L1++eV L2)++M):=by simp [bE,kq,lN]
 rw [e];exact h3.perm (lO).symm
def ou (u d st t:Nat) (next:Int) (mp bd sp q:Nat) (cl:List Value) (x:eT) (W:World):Prop:=
 QM u d st t next mp bd cl W/\W.cell? ⟨sp,3,none⟩=some (.pointer (some ⟨q,0,none⟩))/\W.rangeAt sp 0 [.string x.au,.int .i64 x.bo,.int .i64 (x.b.length:Int)]
theorem ou.of {bd sp q:Nat} {cl:List Value} {x:eT} {W:World} {M:List (bB w.heap.size)} (h:Own w W (bO d j t b nm T++(bE d u st t mp next (L1++(x,sp,q)::L2)++M))) (hm:aA bd (.cells cl.toArray 39) ∈ M):ou u d st t next mp bd sp q cl x W:=by
 have hs:=(h.focus.at (b:=sp) (o:=fQ x q) (by simp)).1;refine ⟨QM.of h hm,(mR hs).2.2.2,λk v hv=> ?_⟩;rw [fw];obtain ⟨c0,c1,c2,-⟩:=mR hs;match k,hv with
 | 0,hv=>simp at hv;rw [<-hv];exact c0
 | 1,hv=>simp at hv;rw [<-hv];exact c1
 | 2,hv=>simp at hv;rw [<-hv];exact c2
 | k+3,hv=>simp at hv
theorem ou.keep {bd:Nat} {cl:List Value} {W':World} (h:ou u d st t next mp bd sp q cl x W) (hk:ak W W'):ou u d st t next mp bd sp q cl x W':=
 ⟨⟨⟨aJ h.1.1.1 hk,aJ h.1.1.2.1 hk,aJ h.1.1.2.2.1 hk,aJ h.1.1.2.2.2.1 hk,aJ h.1.1.2.2.2.2 hk⟩,λk v hv=>aJ (h.1.2 k v hv) hk⟩,aJ h.2.1 hk,λk v hv=>aJ (h.2.2 k v hv) hk⟩
def Cb (w:World) (d j t b u st mp:Nat) (nm:aD) (next:Int) (L1 L2:UL) (x:eT) (sp q:Nat) (rs:List (bB w.heap.size)) (r:Int × TM × Bool) (e:Ending) (w':World):Prop:=
 e= .returned (.int .i64 r.1)/\Own w w' (bO d j t b nm r.2.1++(bE d u st t mp next (if r.2.2=true then L1++L2 else L1++(x,sp,q)::L2)++rs))
theorem DI (h:Own w w0 (bO d j t b nm T++(bE d u st t mp next (L1++(x,sp,q)::L2)++rs))) (hf:l9 (L1++(x,sp,q)::L2) x.id=some (x,sp,q)) (oC:∀ y ∈ L1++L2,y.1.id≠x.id) (hg:Good T.m n) (hn:n+50 <549755813888) (hs:T.size+1048576<=1099511627776) (hid:x.id=(nx:Int)) (gQ:nx<=4294967295) (AO:x.b.length<=1048576) (J2:0<=x.bo/\x.bo<=1099511627776) (y8:x.au.size<=128) (lQ:dg.length=32): bF 12 #[.pointer (some ⟨u,0,none⟩),.int .i64 x.id,.agg (dg.map dF).toArray,.slice none 0 0] w0 (Cb w d j t b u st mp nm next L1 L2 x sp q rs (o9 T nm (aq nx) x dg)):=by
 obtain ⟨ky,kE⟩:=cE (aq nx);have jA:=ae (show ∀ W,bF 23 #[.int .i64 x.id] W (bH W (.string ky)) from λW=>by rw [kE,hid];exact lp W nx nx (IntWalk.u64_in _ (by omega)) (by omega));obtain ⟨cl,dI⟩:∃ cl:List Value,cl=dg.map dF:=⟨_,rfl⟩;have HI:=ae (show (Tryz.prog.info? 39).map (·.size)=some cl.length by rw [dI,io,lQ];kernel_rfl);have AN:=ae (show (Tryz.prog.info? 43).map (·.size)=some ([.string x.au,.int .i64 x.bo,.int .i64 (x.b.length:Int)]:List Value).length by kernel_rfl);obtain ⟨R,hR⟩:=exp (o9 T nm (aq nx) x dg);rw [hR,<-dI];unfold o9 at hR;rw [<-kE] at hR;obtain ⟨l1,my⟩:=cE (cD x.au x.bo.toNat dg);rw [<-my] at hR;obtain ⟨ap,kt⟩:=cE (bL T nm [⟨ky,false,l1⟩]);rw [<-kt] at hR;have DH:Good ap.2.m (n+1):=by rw [kt];exact mT hg nm _
 have Yi:ap.2.size<=1099511627776:=by rw [kt];exact kT (mU T nm _) hs
 obtain ⟨cr,ml⟩:=cE (eo ap.2 nm ky dg);rw [<-ml] at hR;have vp:=ae (show ∀ W (M:List (bB w.heap.size)),Own w W (bO d j t b nm ap.2++(bE d u st t mp next (L1++L2)++M))->bF 54 #[.pointer (some ⟨u,0,none⟩),.int .i64 x.id,.agg cl.toArray] W (rK w d j t b u st mp nm next (L1++L2) M cr) from λW M hW=>by rw [ml,dI,kE];exact rL hW DH (by omega) Yi hid gQ lQ)
 have J0:=ae (show ∀ W (M:List (bB w.heap.size)) (bd:Nat),Own w W M->aA bd (.cells cl.toArray 39) ∈ M->bF 43 #[.agg #[.string x.au,.int .i64 x.bo,.int .i64 (x.b.length:Int)],.slice (some ⟨bd,0,none⟩) 32 32] W (nW W l1) from λW M bd hW hm=>by rw [my];exact wB x.au x.bo _ x.bo.toNat (by rw [IntWalk.u64_in _ (by omega)];omega) (by omega) (yU (by rw [<-dI];exact (hW.at hm).1) lQ) (by omega) (by omega))
 have jM:=ae (show ∀ W (M:List (bB w.heap.size)) (a:Option Addr) (c:Nat) (v1:Value),1<=c/\c<=maxLen->Own w W (bO d j t b nm T++(bE d u st t mp next (L1++(x,sp,q)::L2)++(p8 (.slice a 1 c) 109 3 1 [.string ky,.bool false,v1]::bS v1 l1::M)))->
   bF 42 #[.pointer (some ⟨t,0,none⟩),.slice a 1 c] W (rK w d j t b u st mp nm next (L1++(x,sp,q)::L2) M ap) from λW M a c v1 hc hW=>by
  have:=nb hW hg (by omega) (by omega) (a:=a) (c:=c) (l:=[⟨ky,false,l1⟩]) (λwr ls ho=>aad (n:=1) (c:=c) ho (by simp) (ho.bytes (v:=v1) (l:=l1) (by simp)).1) hc.1 hc.2;rw [<-kt] at this;refine this.mono ?_;rintro e w' ⟨he,h⟩;exact ⟨he,h.bR.bR⟩)
 have fb:=λ(W:World) (M:List (bB w.heap.size)) (hW:Own w W (bO d j t b nm T++(bE d u st t mp next (L1++(x,sp,q)::L2)++M)))=>mS (L:=L1++(x,sp,q)::L2) hW (u:=u) (d:=d) (st:=st) (t:=t) (mp:=mp) (next:=next) (by simp [bE]) (by simp [bE]) x.id;unfold pL at fb;rw [hf] at fb;dsimp only at fb;have nN:=ae fb;have heq:=λW=>tN (ei x.b) dg (dz _) lQ W;obtain ⟨sm,kW⟩:∃ sm:List Value,sm=(ei x.b).map dF:=⟨_,rfl⟩;rw [<-kW,<-dI] at heq;have sG:=ae (show ∀ W (M:List (bB w.heap.size)),Own w W (bO d j t b nm T++(bE d u st t mp next (L1++(x,sp,q)::L2)++M))->bF 52 #[.pointer (some ⟨q,0,none⟩)] W (λe w'=>e= .returned (.agg sm.toArray)/\ak W w') from λW M hW=>by rw [kW];exact wl (hW.focus.stat (q:=q) (l:=x.b) (by simp)).1 (by omega))
 have HLV:=ae (λ(W:World) (T':TM) (M:List (bB w.heap.size)) (hW:Own w W (bO d j t b nm T'++(bE d u st t mp next (L1++(x,sp,q)::L2)++M)))=>Own.leave hW oC);have H0:=ae (h.gS (.cells cl.toArray 39));obtain ⟨bb,xL⟩:=cE (decide (ei x.b=dg));rw [<-xL] at heq;have AQ:=ae xL;obtain ⟨c1,T1⟩:=ap;obtain ⟨c2,T2⟩:=cr;dsimp only at hR vp jM;have HR:=ae hR;clear fb hf oC hg hn hs hid gQ AO J2 y8 lQ kE dI my kt DH Yi ml kW xL hR h;go_enter Tryz.func12,Tryz.ntmps12;go_wp2_with fail;generalize w0.alloc (.cells cl.toArray 39)=w1 at H0 ⊢;generalize w0.heap.size=bd at H0 ⊢;refine (nN.Z _ _ H0.Z).Z.mono ?_;rintro e w' ⟨rfl,rfl⟩;go_upto_region 4 with fail;refine wp_region_held_drew (S:=ou u d st t next mp bd sp q cl x) (by kernel_rfl) (by exact ou.of H0.Z.drew (gw ..)) (λai=> ?_);have H1:=ae H0.Z.drew;clear H0 nN;refine tk 0 24 (.pointer (some ⟨sp,0,none⟩)) ai ?_;refine tk 1 25 (.pointer (some ⟨sp,0,none⟩)) ai ?_;refine tk 2 26 (.pointer (some ⟨sp,3,none⟩)) ai ?_;refine tk 3 27 (.pointer (some ⟨q,0,none⟩)) ai ?_ (hy:=Or.inl ⟨by rfl,by intro w bK;(try dsimp only at bK);(have q0:=bK.2.1;go_simp)⟩);try go_frame
 refine D8 5 29 (.agg (cl).toArray) rfl (by kernel_rfl) (by kernel_rfl) (by kernel_rfl) (λ_ _ _ h=>h) (yieldsIf_load_mid (by rfl) _ _ rfl (bd) (0) rfl (cl) _ (λw' hk=>hk.1.2) Tryz.underlying39 rfl HI.Z) ai ?_;try go_frame
 refine eR [4] ?_;refine gH 28 λK hK=> ?_;go_simp;go_at_call 52;refine (sG.Z _ _ H1.Z).mono ?_;rintro e w2 ⟨rfl,cg⟩;have H2:=ae (H1.Z.quiet cg);refine hK.Z _ _ (by exact ou.of H2.Z (gw ..)) (λaK=> ?_);clear hK K;refine tk 6 30 (.bool (!bb)) aK ?_;refine tk 7 23 (.bool (!bb)) aK ?_;try go_frame
 refine wpAnyH_done (by kernel_rfl) ?_ _;cases bb with
 | false=>
  have bM:=HR.Z;rw [if_neg (of_decide_eq_false AQ.Z.symm)] at bM;subst bM;clear HR heq;go_wp2;go_ret;exact ⟨rfl,H2.Z.bR⟩
 | true=>
  have bM:=HR.Z;rw [if_pos (of_decide_eq_true AQ.Z.symm)] at bM;have HR:=ae bM;clear bM heq;have qy:∀ W,(Instr.sliceAt 39 (.pointer (some ⟨bd,0,none⟩)) none none none).run Tryz.prog W= .ok (.slice (some ⟨bd,0,none⟩) 32 32) W:=λW=>by go_simp
  go_upto_region 6 with fail;refine wp_region_held_drew (S:=ou u d st t next mp bd sp q cl x) (by kernel_rfl) (by exact ou.of H2.Z.drew (gw ..)) (λai=> ?_);have H3:=ae H2.Z.drew;clear H2;refine tk 0 31 (.slice none 0 0) ai ?_;refine tk 2 33 (.int .i64 x.id) ai ?_;refine tk 4 35 (.pointer (some ⟨sp,0,none⟩)) ai ?_;refine tk 5 36 (.pointer (some ⟨sp,0,none⟩)) ai ?_;refine tk 6 37 (.pointer (some ⟨sp,0,none⟩)) ai ?_;try go_frame
  refine D8 7 38 (.agg ([.string x.au,.int .i64 x.bo,.int .i64 (x.b.length:Int)]).toArray) rfl (by kernel_rfl) (by kernel_rfl) (by kernel_rfl) (λ_ _ _ h=>h) (yieldsIf_load_mid (by rfl) _ _ rfl (sp) (0) rfl ([.string x.au,.int .i64 x.bo,.int .i64 (x.b.length:Int)]) _ (λw' hk=>hk.2.2) Tryz.underlying43 rfl AN.Z) ai ?_;refine tk 8 39 (.slice (some ⟨bd,0,none⟩) 32 32) ai ?_;try go_frame
  refine eR [1] ?_;refine gH 32 λK hK=> ?_;go_simp;go_at_call 53;refine gU (zZ _) ?_;refine hK.Z _ _ (by exact ai) (λaK=> ?_);clear hK K;try go_frame
  refine eR [3] ?_;refine gH 34 λK hK=> ?_;go_simp;go_at_call 23;refine (jA.Z _).mono ?_;rintro e w4 ⟨rfl,eA⟩;have H4:=ae (H3.Z.quiet eA);refine hK.Z _ _ (by exact ou.of H4.Z (gw ..)) (λaI=> ?_);clear hK K;try go_frame
  refine eR [9] ?_;refine gH 40 λK hK=> ?_;go_simp;go_at_call 43;refine (J0.Z _ _ bd H4.Z (by simp)).mono ?_;rintro e w5 ⟨v1,rfl,fT,fB⟩;obtain ⟨a1,q1,rfl,-,-⟩:=fT.bytes.aG;have H5:=ae (H4.Z.o8 fT fB);clear fT;refine hK.Z _ _ (by exact ou.of H5.Z (by simp)) (λbJ=> ?_);clear hK K;refine tk 10 41 (.agg #[.string ky,.bool false,.slice a1 l1.length q1]) bJ ?_;try go_frame
  refine eR [11] ?_;refine gH 42 λK hK=> ?_;go_simp;obtain ⟨xa,xc,w6,aT,fN,gZ⟩:=MR w5 ky (pv:= .slice a1 l1.length q1) rfl;refine hK.Z _ _ (by exact ou.keep bJ ((ah.refl _ _).alloc _)) (λiD=> ?_);clear hK K;try go_frame
  refine eR [12] ?_;refine D7 43 λK hK=> ?_;refine cP rfl _ _ _ _ rfl rfl rfl aT ?_;have H6:=ae (Own.toEnd (H5.Z.add gZ (r:=p8 (.slice xa 1 xc) 109 3 1 [.string ky,.bool false,.slice a1 l1.length q1]) (G:=λb=>(Value.slice xa 1 xc).ownBlock=some b) ⟨jE fN (fC _),λ_ hb=>hb⟩ (λb hb=>by have:=fN.lt b hb;omega)));refine hK.Z _ _ (by exact ou.of H6.Z (by simp)) (λmi=> ?_);clear hK K;refine tk 13 11 (.slice xa 1 xc) mi ?_;try go_frame
  refine wpAnyH_done (by kernel_rfl) ?_ _;have pA:1<=xc/\xc<=maxLen:=by
   rcases fN.2 with ⟨-,e⟩ | ⟨g',cap,gp,e,_,_,k1,k2,_⟩
   ·omega
   ·cases e;exact ⟨k1,k2⟩
  have HCM:=ae pA;clear aT fN pA qy;obtain ⟨-,-,k2,-,-⟩:=eW (H6.Z.at (b:=u) (o:=iX d st t next mp) (by simp [bE])).1;go_wp2_with fail;refine (jM.Z _ _ _ _ _ HCM.Z H6.Z).mono ?_;rintro e w7 ⟨rfl,h7⟩;have H7:=ae h7;clear h7 k2 H6;by_cases hc:c1=0
  ·subst hc;have bM:=HR.Z;rw [if_pos rfl] at bM;subst bM;obtain ⟨-,-,-,-,k4⟩:=eW (H7.Z.at (b:=u) (o:=iX d st t next mp) (by simp [bE])).1;obtain ⟨w8,Bi,h8⟩:=HLV.Z _ _ _ H7.Z;have HD:=ae Bi;have H8:=ae h8;have HB:=ae (h8.at (b:=bd) (o:= .cells cl.toArray 39) (by simp)).1;have HIA:=ae (show (Tryz.prog.info? 39).map (·.size)=some cl.toArray.size by rw [HI.Z];simp);clear Bi h8 HR;go_wp2_with (first | (at_delete;refine iu rfl _ _ _ _ rfl rfl rfl HD.Z ?_) | (refine wpList_load_row rfl 39 _ rfl bd rfl 39 cl.toArray (0,0) _ HB.Z Tryz.underlying39 rfl HIA.Z ?_));refine (vp.Z _ _ H8.Z).mono ?_;rintro e w9 ⟨rfl,h9⟩;have H9:=ae h9.bR;clear h9 H8 HD HB k4;go_wp2;go_ret;exact ⟨rfl,H9.Z⟩
  ·have bM:=HR.Z;rw [if_neg hc] at bM;subst bM;have b1:(c1 !=0)=true:=by simpa using hc
   clear HR hc;go_wp2;go_ret;exact ⟨rfl,H7.Z.bR⟩
end
theorem gj (x:Nat):(aq x).size=10:=by unfold aq;rw [ByteArray.size_append];show 2+(dA (aL x 4)).toArray.size=10;rw [Bd,fU,ax]
theorem xV {s:aD} (h0:0 <s.size) (h1:s.size<=160):bU s=true:=by
 have:s.toList≠ []:=by intro e;have h2:=congrArg List.length e;rw [ByteArray.toList_eq,Array.length_toList] at h2;exact absurd h2 (Nat.ne_of_gt h0)
 unfold bU;rw [decide_eq_true (show ((s.size:Int))<=160 by omega)];cases hl:s.toList with
 | nil=>exact absurd hl this
 | cons a l=>rfl
theorem fR {a b:aD} (h:a.size≠b.size):a≠b:=λe=>h (by rw [e])
def TK (l:List eX):Nat:=(l.map (λc=>21+c.key.size+c.val.length)).sum
theorem M0 {l:List eX} (hl:l.length<=256) (h:∀ c ∈ l,iF c=false) (hw:TK l<=1048000):(bP l).1=0/\(bP l).2.length<=10+TK l:=by
 have hs:∀ l:List eX,(∀ c ∈ l,iF c=false)->((l.map gR).flatten).length<=TK l:=λl=>by
  induction l with
  | nil=>intro _;simp [TK]
  | cons c l ih=>
   intro h;have h1:=ih (λx hx=>h x (nO _ hx));have h2:(gR c).length<=21+c.key.size+c.val.length:=by
    have hb:=h c (gw ..);unfold iF at hb;simp only [Bool.or_eq_false_iff,decide_eq_false_iff_not] at hb;have hk:=gX c.key;have e1:=dD (n:=c.key.toList.length) (by omega);have e2:=dD (n:=c.val.length) (by omega);unfold gR dP;split
    ·rw [iM,fS];omega
    ·rw [fS,iM,fS,fS];omega
   simp only [TK,kz,List.flatten_cons,fS,List.sum_cons] at h1 ⊢;omega
 have h0:=TA hl h (by have:=hs l h;omega);refine ⟨h0, ?_⟩;rw [(p6 h0).2.1,fS];have:=hs l h;have:=dD (n:=l.length) (by omega);omega
theorem xW {k:aD} {g:Bool} {v:aH} (h0:0 <k.size) (h1:k.size<=320) (h2:v.length<=262144):iF ⟨k,g,v⟩=false:=by unfold iF;simp only [Bool.or_eq_false_iff,decide_eq_false_iff_not];omega
theorem M3 (h:CT T R F b) (gQ:1<=nx/\nx<=4294967295) (y8:gf au=true) (J2:0<=bo/\bo<=1099511627776) (sP:aZ F (aq nx)=none) (hl:F.length <4096) (hr:(used F:Int)+400<=R): ∃ T' b',dV T bY nx au bo=((nx:Int),0,T')/\CT T' R (dY (dY F (aq nx) []) bY b') b'/\b'.length<=b.length+250/\T'.fs=en T.fs [⟨aq nx,false,cD au bo.toNat []⟩,⟨uB,false,aL (nx+1) 8⟩]:=by
 have sL:=gj nx;have pE:=lJ y8;have dO:aq nx≠bY:=fR (by rw [sL];decide);have hc:=h.cm.fY (k:=aq nx) (xV (by omega) (by omega)) sP hl;have hu0:=iP h.cm.nd (aq nx) [];rw [sP] at hu0;simp only [Option.getD_none,gN,Nat.add_zero] at hu0;have hct:CT ⟨(aO T.m (aq nx)).2,T.size,T.fs,T.bh⟩ R (dY F (aq nx) []) b:=⟨hc.2,by rw [df h.cm.nd _ _ _ dO];exact h.file,h.up⟩;have huB:uB.size=1:=rfl;have AE:=pZ au bo.toNat [];have hlp:=ax 8 (nx+1);rw [gN] at AE;have hw:TK [⟨aq nx,false,cD au bo.toNat []⟩,⟨uB,false,aL (nx+1) 8⟩]=21+10+(9+0+au.size)+(21+1+8):=by simp [TK,sL,huB,AE,hlp]
 have he:=M0 (l:=[⟨aq nx,false,cD au bo.toNat []⟩,⟨uB,false,aL (nx+1) 8⟩]) (by simp) (by
  intro c pA;rcases List.mem_cons.1 pA with rfl | pA
  ·exact xW (by omega) (by omega) (by omega)
  ·rw [List.mem_singleton.1 pA];exact xW (by omega) (by omega) (by omega)) (by rw [hw];omega)
 rw [hw] at he;obtain ⟨a0,a1,a2⟩:=hct.app he.1 (by rw [hu0];omega);refine ⟨_,_, ?_,a1,by rw [fS,dh];omega,a2⟩;unfold dV;rw [if_pos y8,if_neg (by omega),if_neg (by omega),if_pos hc.1,if_pos a0]
theorem M4 {v:aH} (h:CT T R F b) (hv:aZ F (aq nx)=some v) (hp:x.b.length+p.length<=1048576) (hr:(used F:Int)+p.length<=R): ∃ T',eH T (aq nx) x (x.b.length:Int) p=(0,T',{x with b:=x.b++p})/\CT T' R (dY F (aq nx) (v++p)) b/\T'.fs=T.fs:=by have dO:aq nx≠bY:=fR (by rw [gj];decide);have ha:=h.cm.append (k:=aq nx) hv (p:=p) (by omega) hr;have hs:=ha.2.sync;refine ⟨{T with m:=(aV (aM T.m (aq nx) p).2).2}, ?_,⟨hs.2,by rw [df h.cm.nd _ _ _ dO];exact h.file,h.up⟩,rfl⟩;unfold eH;rw [if_pos rfl,if_neg (by omega),if_pos ha.1,if_pos hs.1]
theorem J3 (h:CT T R F b) (hv:aZ F (aq nx)=some x.b) (pE:x.au.size<=128) (hd:ei x.b=dg) (sP:aZ F (aY dg)=none) (hr:(used F:Int)+600<=R): ∃ T' F' b',o9 T bY (aq nx) x dg=(0,T',true)/\CT T' R F' b'/\aZ F' (aY dg)=some x.b/\aZ F' (aq nx)=none/\ T'.fs=en (en T.fs [⟨aq nx,false,cD x.au x.bo.toNat dg⟩]) [⟨aq nx,true,[]⟩]:=by
 have lQ:dg.length=32:=by rw [<-hd];exact dz _
 have sL:=gj nx;have AD:=nG dg lQ;have n1:aq nx≠bY:=fR (by rw [sL];decide);have n2:aY dg≠bY:=fR (by rw [AD];decide);have n3:aq nx≠aY dg:=fR (by rw [AD,sL];decide);have AE:=pZ x.au x.bo.toNat dg
 -- the end is written
 have w1:TK [⟨aq nx,false,cD x.au x.bo.toNat dg⟩]=21+10+(9+32+x.au.size):=by simp [TK,sL,AE,lQ]
 have e1:=M0 (l:=[⟨aq nx,false,cD x.au x.bo.toNat dg⟩]) (by simp) (by intro c hc;rw [List.mem_singleton.1 hc];exact xW (by omega) (by omega) (by omega)) (by rw [w1];omega);rw [w1] at e1;obtain ⟨a0,a1,a2⟩:=h.app e1.1 (by omega);have u1:=iP h.cm.nd bY (b++bu (bP [⟨aq nx,false,cD x.au x.bo.toNat dg⟩]).2);rw [h.file,Fx,fS,dh] at u1;generalize b++bu (bP [⟨aq nx,false,cD x.au x.bo.toNat dg⟩]).2=b1 at a1 u1;generalize hT1:bL T bY [⟨aq nx,false,cD x.au x.bo.toNat dg⟩]=r1 at a0 a1 a2;obtain ⟨c1,T1⟩:=r1;dsimp only at a0 a1 a2;subst a0;have v1:aZ (dY F bY b1) (aq nx)=some x.b:=by rw [df h.cm.nd _ _ _ (Ne.symm n1)];exact hv
 have g1:aZ (dY F bY b1) (aY dg)=none:=by rw [df h.cm.nd _ _ _ (Ne.symm n2)];exact sP
 have Vq:=a1.cm.nd
 -- the file is acC
 have r0:=a1.cm.rename (k:=aq nx) (g:=aY dg) v1 (xV (by omega) (by omega)) n3;have s0:=r0.2.sync;have had:cT T1.m (aq nx) dg=aV (bw T1.m (aq nx) (aY dg)).2:=by unfold cT;rw [a1.cm.there,v1,a1.cm.cont,v1,a1.cm.there,g1];simp [hd,r0.1]
 have nd2:bX (dY (dY F bY b1) (aY dg) x.b):=Vq.dY _ _;have ct2:CT {T1 with m:=(cT T1.m (aq nx) dg).2} R (bV (dY (dY F bY b1) (aY dg) x.b) (aq nx)) b1:=by rw [had];refine ⟨s0.2, ?_,a1.up⟩;rw [ik _ _ _ n1,df Vq _ _ _ n2];exact gO h.cm.nd _ _
 have u2:=iP Vq (aY dg) x.b;rw [g1] at u2;simp only [Option.getD_none,gN,Nat.add_zero] at u2;have u3:=lw nd2 (aq nx);rw [df Vq _ _ _ (Ne.symm n3),v1,Fx] at u3
 -- the key goes
 have w2:TK [⟨aq nx,true,[]⟩]=21+10:=by simp [TK,sL]
 have e2:=M0 (l:=[⟨aq nx,true,[]⟩]) (by simp) (by intro c hc;rw [List.mem_singleton.1 hc];exact xW (by omega) (by omega) (by simp)) (by rw [w2];omega);rw [w2] at e2;obtain ⟨p0,p1,p2⟩:=ct2.app e2.1 (by omega);refine ⟨_,_,_, ?_,p1, ?_, ?_, ?_⟩
 ·unfold o9;rw [if_pos hd,hT1,if_pos rfl];have dI:eo T1 bY (aq nx) dg=(0,(bL {T1 with m:=(cT T1.m (aq nx) dg).2} bY [⟨aq nx,true,[]⟩]).2):=by unfold eo;rw [if_neg (by rw [had];exact λhh=>hh.1 s0.1),if_neg (by rw [p0];decide),p0]
  rw [dI]
 ·rw [df ct2.cm.nd _ _ _ (Ne.symm n2),ik _ _ _ n3];exact gO Vq _ _
 ·rw [df ct2.cm.nd _ _ _ (Ne.symm n1)];exact s5 _ _
 ·rw [p2,a2]
theorem M5 (h:Good T.m n) (nm:aD) (nx:Nat) (au:aD) (bo:Int):Good (dV T nm nx au bo).2.2.m (n+3):=by
 have h1:=h.fY (aq nx);have h2:=mT (T:=⟨(aO T.m (aq nx)).2,T.size,T.fs,T.bh⟩) h1 nm [⟨aq nx,false,cD au bo.toNat []⟩,⟨uB,false,aL (nx+1) 8⟩];have h3:=h2.dZ (aq nx);unfold dV;split
 ·split
  ·exact h.mono (by omega)
  ·split
   ·exact h.mono (by omega)
   ·split
    ·split
     ·exact h2.mono (by omega)
     ·exact h3
    ·exact h1.mono (by omega)
 ·exact h.mono (by omega)
theorem M6 (T:TM) (nm:aD) (nx:Nat) (au:aD) (bo:Int):(dV T nm nx au bo).2.2.size<=T.size+1048576:=by
 have h2:=mU ⟨(aO T.m (aq nx)).2,T.size,T.fs,T.bh⟩ nm [⟨aq nx,false,cD au bo.toNat []⟩,⟨uB,false,aL (nx+1) 8⟩];unfold dV;split
 ·split
  ·exact Aq _ _
  ·split
   ·exact Aq _ _
   ·split
    ·split
     ·exact h2
     ·exact h2
    ·exact Aq _ _
 ·exact Aq _ _
theorem M7 (h:Good T.m n) (ky:aD) (x:eT) (at_:Int) (p:aH):Good (eH T ky x at_ p).2.1.m (n+1):=by
 have h1:=h.append ky p;unfold eH;split
 ·split
  ·exact h.mono (by omega)
  ·split
   ·split
    ·exact h1.sync
    ·exact h1.sync
   ·exact h1
 ·exact h.mono (by omega)
theorem M8 (T:TM) (ky:aD) (x:eT) (at_:Int) (p:aH):(eH T ky x at_ p).2.1.size=T.size:=by
 unfold eH;split
 ·split
  ·rfl
  ·split
   ·split
    ·rfl
    ·rfl
   ·rfl
 ·rfl
theorem M9 (h:Good T.m n) (nm ky:aD) (dg:aH):Good (eo T nm ky dg).2.m (n+2):=by
 have h1:=B9 h ky dg;have h2:=mT (T:={T with m:=(cT T.m ky dg).2}) h1 nm [⟨ky,true,[]⟩];unfold eo;split
 ·exact h1.mono (by omega)
 ·split
  ·exact h2
  ·exact h2
theorem J4 (h:Good T.m n) (nm ky:aD) (x:eT) (dg:aH):Good (o9 T nm ky x dg).2.1.m (n+3):=by
 have h1:=mT h nm [⟨ky,false,cD x.au x.bo.toNat dg⟩];have h2:=M9 (T:=(bL T nm [⟨ky,false,cD x.au x.bo.toNat dg⟩]).2) h1 nm ky dg;unfold o9;split
 ·split
  ·exact h2
  ·exact h1.mono (by omega)
 ·exact h.mono (by omega)
def p9:aD:=⟨#[117,47]⟩
section
variable {w wr:World} {d u st t mp j b:Nat} {nm:aD} {T:TM} {next:Int} {L:UL} {rs:List (bB w.heap.size)}
theorem Cc (T R:List α) (a p s:α):(a::p::(T++(s::R))).Perm (T++((a::s::p::[])++R)):=by have h1:([a,p]++(T++(s::R))).Perm (T++([a,p]++(s::R))):=Bb _ _ _;exact h1.trans (uT T ((oe s p R).cons a))
theorem Cd {base:Nat} {v:Value} (h:ed base W v []):∃ a c,v= .slice a 0 c:=by obtain ⟨a,c,e⟩:=bA h;exact ⟨a,c,e⟩
theorem J5 (h:Own w w0 (bO d j t b nm T++(bE d u st t mp next L++rs))) (pB:T.m.bh=false) (hs:bp T.m.aN) (hn:∀ p ∈ T.m.aN,p.1.size<=maxLen) (hl:T.m.aN.length<=1099511627775) (sP:cY T.m.aN p9=[]): bF 68 #[.pointer (some ⟨u,0,none⟩)] w0 (bH w0 (.int .i64 0)):=by
 obtain ⟨F,A7,-⟩:=Own.lW (h:Own w w0 (bk d T.m::_));have sy:=tU A7 p9 pB hs hn hl;rw [sP] at sy;unfold p9 at sy;obtain ⟨c0,-,-,-,-⟩:=eW (h.at (b:=u) (o:=iX d st t next mp) (by simp [bE])).1;have HNC:=ae sy;go_enter Tryz.func68,Tryz.ntmps68;go_wp2_with fail;refine HNC.Z.mono ?_;rintro e w1 ⟨v,rfl,bG,bN⟩;obtain ⟨a,c,rfl⟩:=Cd bG;have HK:=ae bN;go_wp2_with fail;go_loopw [5,7,8,9,10,24] (λgv _ _ _ _ iv wx=>gv= .int .i64 0/\iv= .int .i64 0/\w1=wx) (λ_ _ _ _ _ _ _=>0);case atStart=>exact ⟨rfl,rfl,rfl⟩
 case round=>obtain ⟨rfl,rfl,rfl⟩:=hrel;go_wp2;go_ret;exact ⟨rfl,HK.Z⟩
theorem Na {m:DM} {size:Nat} {dn:Bool} (h:Own w w0 (bO d j t b nm ⟨m,size,[],dn⟩++(aA st (kN d)::rs))) (pB:m.bh=false) (hs:bp m.aN) (hn:∀ p ∈ m.aN,p.1.size<=maxLen) (hl:m.aN.length<=1099511627775) (sP:cY m.aN p9=[]): bF 20 #[.pointer (some ⟨d,0,none⟩),.pointer (some ⟨st,0,none⟩),.pointer (some ⟨t,0,none⟩)] w0 (λe w'=>∃ u mp,e= .returned (.tuple #[.pointer (some ⟨u,0,none⟩),.int .i64 0])/\Own w w' (bO d j t b nm ⟨m,size,[],dn⟩++(bE d u st t mp 1 []++rs))):=by
 have C0:=@run_makeMap Tryz.prog;have h1:=h.Oz;have h2:=h1.alloc (iX d st t 1 w0.heap.size);change Own w ((w0.alloc (.map #[] 0)).alloc (.cells #[.pointer (some ⟨d,0,none⟩),.pointer (some ⟨st,0,none⟩),.pointer (some ⟨t,0,none⟩),.int .i64 1,.map (some w0.heap.size)] 104)) _ at h2;rw [World.size_alloc] at h2;have h3:Own w _ (bO d j t b nm ⟨m,size,[],dn⟩++(bE d (w0.heap.size+1) st t w0.heap.size 1 []++rs)):=h2.perm (Cc ..);have hw:=λ(W:World) (hW:Own w W (bO d j t b nm ⟨m,size,[],dn⟩++(bE d (w0.heap.size+1) st t w0.heap.size 1 []++rs)))=>J5 hW pB hs hn hl sP;have htb:=λ(W:World) (hW:Own w W (bO d j t b nm ⟨m,size,[],dn⟩++(bE d (w0.heap.size+1) st t w0.heap.size 1 []++rs)))=>(show ∃ F,W.heap[t]?=some (ef j b dn)/\dm F W b [] from by obtain ⟨F,hF,-⟩:=hW.mem (r:=nU b []) (by simp [bO]);exact ⟨F,(hW.at (b:=t) (o:=ef j b dn) (by simp [bO])).1,hF.2⟩)
 have WR:=ae hw;have HTB:=ae htb;have H3:=ae h3;go_enter Tryz.func20,Tryz.ntmps20;go_wp2_with fail;generalize (w0.alloc (.map #[] 0)).alloc (.cells #[.pointer (some ⟨d,0,none⟩),.pointer (some ⟨st,0,none⟩),.pointer (some ⟨t,0,none⟩),.int .i64 1,.map (some w0.heap.size)] 104)=w2 at H3 ⊢;generalize w0.heap.size+1=u at*;generalize w0.heap.size=mp at*;obtain ⟨F,hb,hm⟩:=HTB.Z w2 H3.Z;have qL:=oW hb hm ⟨#[117]⟩ (by simp [aZ]);have wH:=ae qL;refine wH.Z.mono ?_;rintro e w3 ⟨v,rfl,ho,dN⟩;have Oo:(aZ ([]:FS) ⟨#[117]⟩).isSome=false:=rfl;obtain ⟨va,vc,rfl,-,-⟩:=ho.bytes.aG;rw [Oo];have H4:=ae (H3.Z.quiet dN);obtain ⟨F2,hb,hm⟩:=HTB.Z w3 H4.Z;have cU:=yY hb hm;have OK:=λn=>tW hb hm bp.nil (by simp) (by simp) ⟨#[117,47]⟩ ⟨#[]⟩ n;have HL:=ae cU;have TL:=ae OK;go_wp2_with fail;refine gU HL.Z.Z ?_;go_wp2_with fail;refine (TL.Z _).mono ?_;rintro e w4 ⟨v,rfl,bG,eA⟩;obtain ⟨a,c,rfl⟩:=Cd (show ed _ _ v [] from bG);have H5:=ae (H4.Z.quiet eA);go_wp2_with fail;go_loopw [14,15,16,17,18,19,20,21,22,23,24,72] (λ_ _ _ _ _ _ _ _ _ _ _ iv wx=>iv= .int .i64 0/\w4=wx) (λ_ _ _ _ _ _ _ _ _ _ _ _ _=>0);case atStart=>exact ⟨rfl,rfl⟩
 case round=>obtain ⟨rfl,rfl⟩:=hrel;go_wp2_with fail;refine (WR.Z _ H5.Z).mono ?_;rintro e w5 ⟨rfl,fB⟩;have H6:=ae (H5.Z.quiet fB);go_wp2;go_ret2;exact ⟨u,mp,rfl,H6.Z⟩
end
def jB (d st t u:Nat):Obj:= .cells #[.pointer (some ⟨d,0,none⟩),.pointer (some ⟨st,0,none⟩),.pointer (some ⟨t,0,none⟩),.pointer (some ⟨u,0,none⟩)] 35
section
variable {w wr:World} {rs:List (bB w.heap.size)}
theorem Ce (R:Int):cY (jL R []).aN p9=[]:=by show cY [(bY,[])] p9=[];decide+kernel
theorem Ac (R:Int):bp (jL R []).aN:=by show bp [(bY,[])];simp [bp]
theorem ud {d:Nat} (hR0:0<=R) (hR1:R<=67108864) (h:Own w w0 (bk d (eS R)::rs)): bF 31 #[.pointer (some ⟨d,0,none⟩)] w0 (λe w'=>∃ y st j t b u mp,e= .returned (.tuple #[.pointer (some ⟨y,0,none⟩),.int .i64 0])/\Own w w' (bO d j t b bY ⟨jL R [],0,[],false⟩++(bE d u st t mp 1 []++(aA y (jB d st t u)::rs)))):=by
 have hg:Good (eS R) 0:=Good.new hR0 hR1;have hb:=BV h hg (by omega);rw [show dC (eS R)=(0,eS R) by simp [dC,aF,eS,aZ]] at hb;have HB:=ae hb;have HG:=ae hg;go_enter Tryz.func31,Tryz.ntmps31;go_wp2_with fail;refine HB.Z.mono ?_;rintro e w1 (⟨hn,-,-⟩ | ⟨-,st,rfl,h1⟩)
 ·exact absurd rfl hn
 have ph:=zX h1 HG.Z (by omega) bY;rw [tZ] at ph;unfold bY at ph;have Gz:=ae ph;go_wp2_with fail;refine Gz.Z.mono ?_;rintro e w2 (⟨hn,-,-⟩ | ⟨size,fs,j,t,b,hs,rfl,h2⟩)
 ·cases hn
 simp only [im,Prod.mk.injEq] at hs;obtain ⟨rfl,rfl⟩:=hs;have mj:=Na (d:=d) (j:=j) (t:=t) (b:=b) (nm:=bY) (m:=jL R []) (size:=0) (dn:=false) (st:=st) (rs:=rs) (w0:=w2) h2 rfl (Ac R) (λp hp=>by have hp:p ∈ [(bY,([]:aH))]:=hp;rw [Fw] at hp;rw [hp];decide) (show [(bY,([]:aH))].length<=1099511627775 by decide) (Ce R)
 have RJ:=ae mj;go_wp2_with fail;refine RJ.Z.mono ?_;rintro e w3 ⟨u,mp,rfl,h3⟩;have H3:=ae (h3.gS (jB d st t u));go_wp2;go_ret2;exact ⟨_,st,j,t,b,u,mp,rfl,H3.Z⟩
theorem xX {w:World} {y d st t u:Nat} (h:w.heap[y]?=some (jB d st t u)):w.cell? ⟨y,0,none⟩=some (.pointer (some ⟨d,0,none⟩))/\w.cell? ⟨y,1,none⟩=some (.pointer (some ⟨st,0,none⟩))/\w.cell? ⟨y,2,none⟩=some (.pointer (some ⟨t,0,none⟩))/\w.cell? ⟨y,3,none⟩=some (.pointer (some ⟨u,0,none⟩)):=
 ⟨ag h rfl,ag h rfl,ag h rfl,ag h rfl⟩
theorem GJ (hR0:0<=R) (hR1:R<=67108864) (h:Own w w0 rs): bF 7 #[.int .i64 R] w0 (λe w'=>∃ y d st j t b u mp,e= .returned (.pointer (some ⟨y,0,none⟩))/\Own w w' (bO d j t b bY ⟨jL R [],0,[],false⟩++(bE d u st t mp 1 []++(aA y (jB d st t u)::rs)))):=by obtain ⟨d,w1,uZ,h1⟩:=h.new R hR0 hR1;have HO:=ae (ud hR0 hR1 h1);go_enter Tryz.func7,Tryz.ntmps7;go_wp2_with fail;refine gU uZ.Z ?_;go_wp2_with fail;refine HO.Z.mono ?_;rintro e w2 ⟨y,st,j,t,b,u,mp,rfl,h2⟩;obtain ⟨-,-,-,k3⟩:=xX (h2.at (b:=y) (o:=jB d st t u) (by simp)).1;have H2:=ae h2;go_wp2;go_ret;exact ⟨y,d,st,j,t,b,u,mp,rfl,H2.Z⟩
end

end Go.Proofs.YtlcnhpjggjgnpaaGreatDoor