/- A part of the proof. -/
import Derived.Test.YtlcnhpjggjgnpaaGreatDoorUpla1
import Derived.Deep.Matrix
import Derived.Deep.Fields
set_option linter.unusedSimpArgs false
set_option linter.unusedVariables false
set_option maxRecDepth 100000
set_option maxHeartbeats 1000000
namespace Go.Proofs.YtlcnhpjggjgnpaaGreatDoor
open Go.RowKit Go.MapKept
open Go.ChangeMaps (setBlock)
theorem Lz (n:aD) (w:World):aW 110 #[.pointer none,.string n] w (.int .i64 2) w:=Pe n w
theorem append_nil (n:aD) (pv:Value) (w:World):aW 48 #[.pointer none,.string n,pv] w (.int .i64 2) w:=by unfold aW;go_enter Tryz.func48,Tryz.ntmps48;go_wp2_with (go_at_call 110;refine (Lz _ _).Z.mono ?_;rintro e w' ⟨rfl,rfl⟩);go_ret;exact ⟨rfl,rfl⟩
theorem LA {F:Nat->Prop} {w:World} {d:Nat} {m:DM} (h:cZ F w d m):aW 98 #[.pointer (some ⟨d,0,none⟩)] w (.int .i64 (m.aw.length:Int)) w:=by obtain ⟨bn,bs,vl,h⟩:=h;have c3:=h.cells.c3;obtain ⟨_,_,h2,_⟩:=h.aw;obtain ⟨a,c,rfl⟩:=bA h2;unfold aW;go_enter Tryz.func98,Tryz.ntmps98;go_wp2;go_ret;exact ⟨rfl,rfl⟩
theorem Pz {F:Nat->Prop} {w:World} {d:Nat} {m:DM} (h:cZ F w d m):aW 95 #[.pointer (some ⟨d,0,none⟩)] w (.bool m.bh) w:=by obtain ⟨bn,bs,vl,h⟩:=h;have c5:=h.cells.c5;unfold aW;go_enter Tryz.func95,Tryz.ntmps95;go_wp2;go_ret;exact ⟨rfl,rfl⟩
def cF (m:DM) (n:aD):Int:=if aF m n=0 then (((aZ m.aN n).getD []).length:Int) else 0
theorem El {F:Nat->Prop} {w:World} {d:Nat} {m:DM} (h:cZ F w d m) (n:aD):aW 57 #[.pointer (some ⟨d,0,none⟩),.string n] w (.tuple #[.int .i64 (cF m n),.int .i64 (aF m n)]) w:=by
 have gK:=mC h n;obtain ⟨bn,bs,vl,h⟩:=h;have c1:=h.cells.c1;obtain ⟨v,hB,_,nw⟩:=nu h.aN n;have hl:=nw false;simp only [nP,if_false] at hl;unfold cF;generalize (aZ m.aN n).getD []=l at*;obtain ⟨va,vc,rfl,_,_⟩:=hB.aG;unfold aW;by_cases ht:aF m n=0
 ·rw [ht] at gK ⊢;simp only [if_true];go_enter Tryz.func57,Tryz.ntmps57;go_wp2_with (go_at_call 110;refine gK.Z.mono ?_;rintro e w' ⟨rfl,rfl⟩);go_ret2;exact ⟨rfl,rfl⟩
 ·simp only [ht,if_false];have hb:(aF m n==0)=false:=by simpa using ht
  generalize aF m n=t at*;go_enter Tryz.func57,Tryz.ntmps57;go_wp2_with (go_at_call 110;refine gK.Z.mono ?_;rintro e w' ⟨rfl,rfl⟩);go_ret2;exact ⟨rfl,rfl⟩
def bw (m:DM) (n k:aD):Int × DM:=if aF m n=0 then (if !bU k then (1,m) else dB m ⟨3,n,k,[]⟩) else (aF m n,m)
theorem LB (w w2:World) (d:Nat) (n k:aD) (t r:Int) (nm:Bool) (gK:aW 110 #[.pointer (some ⟨d,0,none⟩),.string n] w (.int .i64 t) w) (qf:aW 104 #[.string k] w (.bool nm) w) (hd:aW 105 #[.pointer (some ⟨d,0,none⟩),.agg #[.int .i64 3,.string n,.string k,.slice none 0 0]] w (.int .i64 r) w2): aW 84 #[.pointer (some ⟨d,0,none⟩),.string n,.string k] w (.int .i64 (if t=0 then (if !nm then 1 else r) else t)) (if t=0 then (if !nm then w else w2) else w):=by
 unfold aW;by_cases ht:t=0
 ·subst ht;simp only [if_true];cases nm;all_goals
   go_enter Tryz.func84,Tryz.ntmps84;go_wp2_with (first | (go_at_call 110;refine gK.Z.mono ?_;rintro e w' ⟨rfl,rfl⟩) | (go_at_call 104;refine qf.Z.mono ?_;rintro e w' ⟨rfl,rfl⟩) | (go_at_call 105;refine hd.Z.mono ?_;rintro e w' ⟨rfl,rfl⟩));go_ret;exact ⟨rfl,rfl⟩
 ·rw [if_neg ht,if_neg ht];have hb:(t==0)=false:=by simpa using ht
  go_enter Tryz.func84,Tryz.ntmps84;go_wp2_with (first | (go_at_call 110;refine gK.Z.mono ?_;rintro e w' ⟨rfl,rfl⟩));go_ret;exact ⟨rfl,rfl⟩
theorem zy {F:Nat->Prop} {w:World} {d:Nat} {m:DM} (h:cZ F w d m) (n k:aD) (hf:m.cC<=9223372036854775807) (hl:m.aw.length <1099511627776): ∃ w',aW 84 #[.pointer (some ⟨d,0,none⟩),.string n,.string k] w (.int .i64 (bw m n k).1) w'/\cZ (fX F w w') w' d (bw m n k).2/\ah F w w':=by
 obtain ⟨w2,hd,h2,k2⟩:=qZ h ⟨3,n,k,[]⟩ (bQ.nil F w) ⟨by simp,by simp⟩ hf hl;have key:=LB w w2 d n k (aF m n) _ (bU k) (mC h n) (pC k w) hd;unfold bw;by_cases ht:aF m n=0
 ·simp only [ht,if_true] at key ⊢;cases hn:bU k
  ·rw [hn] at key;simp only [Bool.not_false,if_true] at key ⊢;exact ⟨w,key,h.ext,ah.refl _ _⟩
  ·rw [hn] at key;simp only [Bool.not_true,nP,if_false] at key ⊢;exact ⟨w2,key,h2,k2⟩
 ·simp only [ht,if_false] at key ⊢;exact ⟨w,key,h.ext,ah.refl _ _⟩
def gF (m:DM) (n:Int):Int × DM:=if m.bh then (5,m) else (0,{m with cC:=if n < -1 then -1 else n})
theorem Si (w:World) (d:Nat) (n:Int) (dn:Bool) (v4:Value) (mj:aW 76 #[.pointer (some ⟨d,0,none⟩)] w (.int .i64 (if dn then 5 else 0)) w) (c4:w.cell? ⟨d,4,none⟩=some v4) (f4:w.frozen? ⟨d,4,none⟩=false): aW 29 #[.pointer (some ⟨d,0,none⟩),.int .i64 n] w (.int .i64 (if dn then 5 else 0)) (if dn then w else w.setCell ⟨d,4,none⟩ (.int .i64 (if n < -1 then -1 else n))):=by
 unfold aW;cases dn
 ·simp only [nP,if_false] at mj ⊢;obtain ⟨q,hq⟩:=exp ((if -1>n then (-1:Int) else n));have iI:(if n < -1 then (-1:Int) else n)=q:=hq;rw [iI];go_enter Tryz.func29,Tryz.ntmps29;go_wp2_with (first | (go_at_call 76;refine mj.Z.mono ?_;rintro e w' ⟨rfl,rfl⟩));go_ret;exact ⟨rfl,rfl⟩
 ·simp only [if_true] at mj ⊢;go_enter Tryz.func29,Tryz.ntmps29;go_wp2_with (first | (go_at_call 76;refine mj.Z.mono ?_;rintro e w' ⟨rfl,rfl⟩));go_ret;exact ⟨rfl,rfl⟩
theorem PA {F:Nat->Prop} {w:World} {d:Nat} {m:DM} (h:cZ F w d m) (n:Int): ∃ w',aW 29 #[.pointer (some ⟨d,0,none⟩),.int .i64 n] w (.int .i64 (gF m n).1) w'/\cZ (fX F w w') w' d (gF m n).2/\ah F w w':=by
 have mj:=ux h;have hx:=h.ext;obtain ⟨bn,bs,vl,h⟩:=h;have key:=Si w d n m.bh _ mj h.cells.c4 (h.cells.f0 4);unfold gF;cases hd:m.bh
 ·rw [hd] at key;simp only [nP,if_false] at key ⊢;refine ⟨_,key,⟨bn,bs,vl, ?_⟩,(ah.refl F w).setCell (λ_=>h.fd) _⟩;have h2:fW F (w.setCell ⟨d,4,none⟩ (.int .i64 (if n < -1 then -1 else n))) d bn bs vl {m with cC:=if n < -1 then -1 else n,bh:=false}:=by refine h.reset ?_ (λb hb=>kS _ _ _ _ hb) rfl rfl rfl;rw [bf h.mq];simp [hd]
  exact h2.wider (G:=fX F w (w.setCell ⟨d,4,none⟩ (.int .i64 (if n < -1 then -1 else n)))) (λb hb=>Or.inl hb) (λb hb=>by rcases hb with hb | hb;exact h2.lt b hb;exact hb.2)
 ·rw [hd] at key;simp only [if_true] at key ⊢;exact ⟨w,key,hx,ah.refl _ _⟩
def lU (m:DM):DM:={(aS m).2 with sure:=m.aw.foldl bW m.sure,aw:=[]}
def aV (m:DM):Int × DM:=if m.bh then (5,m) else if m.cC=0 then (5,{m with bh:=true}) else (0,lU m)
theorem PB (w:World) (d:Nat) (mj:aW 76 #[.pointer (some ⟨d,0,none⟩)] w (.int .i64 5) w):aW 49 #[.pointer (some ⟨d,0,none⟩)] w (.int .i64 5) w:=by unfold aW;go_enter Tryz.func49,Tryz.ntmps49;go_wp2_with (first | (go_at_call 76;refine mj.Z.mono ?_;rintro e w' ⟨rfl,rfl⟩));go_ret;exact ⟨rfl,rfl⟩
theorem PC (w w1:World) (d:Nat) (mj:aW 76 #[.pointer (some ⟨d,0,none⟩)] w (.int .i64 0) w) (hs:aW 112 #[.pointer (some ⟨d,0,none⟩)] w (.int .i64 5) w1):aW 49 #[.pointer (some ⟨d,0,none⟩)] w (.int .i64 5) w1:=by unfold aW;go_enter Tryz.func49,Tryz.ntmps49;go_wp2_with (first | (go_at_call 76;refine mj.Z.mono ?_;rintro e w' ⟨rfl,rfl⟩) | (go_at_call 112;refine hs.Z.mono ?_;rintro e w' ⟨rfl,rfl⟩));go_ret;exact ⟨rfl,rfl⟩
theorem ID {F:Nat->Prop} {w w3:World} {d bn bs:Nat} {vl:Value} {m:DM} {fs:FS} (hA:fW F w d bn bs vl m) (hI:yu F w w3 bs fs): (∃ v,w3.cell? ⟨d,3,none⟩=some v)/\w3.frozen? ⟨d,3,none⟩=false/\ rT F w d (0,{m with sure:=fs,aw:=[]}) (.returned (.int .i64 0)) (w3.setCell ⟨d,3,none⟩ (.slice none 0 0)):=by
 obtain ⟨hk,hm⟩:=hI;have nQ:d≠bs:=λe=>by subst e;exact hA.sure.nr _ _ _ hA.mq
 have pB:d≠bn:=λe=>by subst e;exact hA.aN.nr _ _ _ hA.mq
 have FE:w3.heap[d]?=_:=hk.at hA.mq nQ;have dO:∀ b,b≠d->(w3.setCell ⟨d,3,none⟩ (.slice none 0 0)).heap[b]?=w3.heap[b]?:=λb hb=>kS _ _ _ _ hb;have AV:∀ G,aP G w3 (w3.setCell ⟨d,3,none⟩ (.slice none 0 0)):=λG=>(aP.refl G w3).setCell (λcs fz e=>by rw [FE] at e;simp at e) _;have acK:∀ G,aP G w w3:=λG=>aP.jY hk (λg cs fz _ e hg=>by subst e;exact hA.sure.nr _ _ _ hg);have FK:∀ b,(F b\/w.heap.size<=b)->b <w3.heap.size->fX F w (w3.setCell ⟨d,3,none⟩ (.slice none 0 0)) b:=λb hb ox=>by
  rcases hb with hb | hb
  ·exact .inl hb
  ·exact .inr ⟨hb,by simpa using ox⟩
 refine ⟨⟨_,ag FE rfl⟩,cL FE 3,rfl,⟨bn,bs,.slice none 0 0, ?_,.inl hA.fd,.inl hA.XM,.inl hA.US,hA.ne, ?_, ?_,⟨[],trivial,World.ownsRow_nil _ _ _ _,λb hb=>by cases hb⟩, ?_⟩, ?_⟩
 ·rw [bf FE];simp
 ·exact hA.aN.keep ((dO bn (Ne.symm pB)).trans (hk.block bn hA.aN.lt hA.ne)) ((acK F).trans (AV F)) (λb hb _=> .inl hb)
 ·exact hm.keep (dO bs (Ne.symm nQ)) (AV _) FK
 ·intro b hb;rcases hb with hb | hb
  ·have:=hA.lt b hb;have:=hk.size;simp;omega
  ·exact hb.2
 ·exact (hk.mono (λb _ e=>by subst e;exact hA.US)).setCell (λ_=>hA.fd) _
theorem PD {F:Nat->Prop} {w w1:World} {d bn bs g n cap:Nat} {m:DM} (mj:aW 76 #[.pointer (some ⟨d,0,none⟩)] w (.int .i64 0) w) (hs:aW 112 #[.pointer (some ⟨d,0,none⟩)] w (.int .i64 0) w1) (hA:fW F w1 d bn bs (.slice (some ⟨g,0,none⟩) n cap) m) (hn:n=m.aw.length) (sy:n<=cap) (pA:(cap:Int)<=9223372036854775807) (mr:∀ k c,m.aw[k]?=some c->uU ((m.aw.take k).foldl bW m.sure) c): bF 49 #[.pointer (some ⟨d,0,none⟩)] w (rT F w1 d (0,{m with sure:=m.aw.foldl bW m.sure,aw:=[]})):=by
 have hI0:yu F w1 w1 bs m.sure:=⟨ah.refl _ w1,hA.sure.keep rfl (aP.refl _ _) (λ_ h _=> .inl h)⟩;obtain ⟨_,c3,_⟩:=gI hA hI0;have HA:=ae hA;have HN:=ae hn;have HF:=ae mr;go_enter Tryz.func49,Tryz.ntmps49;go_wp2_with (first | (go_at_call 76;refine mj.Z.mono ?_;rintro e w' ⟨rfl,rfl⟩) | (go_at_call 112;refine hs.Z.mono ?_;rintro e w' ⟨rfl,rfl⟩));go_loopw [20] (λi wr=>Ip F w1 bs m n i wr) (λi _=>n - (intOf i).toNat);case atStart=>exact ⟨0,fC _,rfl,hI0⟩
 case round=>
  obtain ⟨k,hk,rfl,hI⟩:=hrel;obtain ⟨R1,c3',lQ⟩:=gI HA.Z hI;have fN:=zm HA.Z hI;by_cases aX:k <n
  ·obtain ⟨c,hc⟩:∃ c,m.aw[k]?=some c:=⟨m.aw[k]'(by have:=HN.Z;omega),js _⟩;obtain ⟨pa,pc,hp,je⟩:=yv HA.Z.aw hc;obtain ⟨e0,e1,e2,e3⟩:=je wr fN;obtain ⟨w2,hd,XP⟩:=vS HA.Z hI c hp (HF.Z k c hc);have VF:yu F w1 w2 bs ((m.aw.take (k+1)).foldl bW m.sure):=by rw [ym,hc];simpa using XP
   have Rq:=ae VF;have j0:=np k;have j1:(k:Int) <n:=by omega
   have a2:(wr.alloc (.cells #[.int .i64 c.kind,.string c.a,.string c.b,.slice pa c.p.length pc] 166)).cell? ⟨d,2,none⟩=some (.map (some bs)):=(World.cell?_alloc_lt wr _ ⟨d,2,none⟩ lQ).trans R1;have kB:=nz (wr.alloc (.cells #[.int .i64 c.kind,.string c.a,.string c.b,.slice pa c.p.length pc] 166)) wr.heap.size _ _ _ _ (heap_alloc_new _ _);have G8:=ae kB;have VG:=ae a2;go_wp2;have kB:=G8.Z;have a2:=VG.Z;generalize wr.alloc (.cells #[.int .i64 c.kind,.string c.a,.string c.b,.slice pa c.p.length pc] 166)=W at kB a2 hd ⊢;obtain ⟨b0,b1,b2,b3⟩:=kB;go_still_tail 5,(by kernel_rfl);change wpList _ _ _ _ _ W.drew;go_wp2_with (go_at_call 77;refine hd.Z.mono ?_;rintro e w' ⟨rfl,rfl⟩);go_roundw;case rel=>exact ⟨k+1,by omega,by go_num,Rq.Z⟩
   case measure=>simp [intOf];omega
  ·obtain rfl:k=n:=by omega
   obtain ⟨⟨v3,g3⟩,f3,eJ⟩:=ID HA.Z hI;have hta:m.aw.take k=m.aw:=sU (by have:=HN.Z;omega);rw [hta] at eJ;have HP:=ae eJ;go_wp2;go_ret;exact HP.Z
theorem LC {F:Nat->Prop} {w w1:World} {d bn bs cap:Nat} {a:Option Addr} {m:DM} (mj:aW 76 #[.pointer (some ⟨d,0,none⟩)] w (.int .i64 0) w) (hs:aW 112 #[.pointer (some ⟨d,0,none⟩)] w (.int .i64 0) w1) (hA:fW F w1 d bn bs (.slice a 0 cap) m): bF 49 #[.pointer (some ⟨d,0,none⟩)] w (rT F w1 d (0,{m with sure:=m.sure,aw:=[]})):=by have hI:yu F w1 w1 bs m.sure:=⟨ah.refl _ w1,hA.sure.keep rfl (aP.refl _ _) (λ_ h _=> .inl h)⟩;obtain ⟨c2,c3,_⟩:=gI hA hI;obtain ⟨⟨v3,g3⟩,f3,eJ⟩:=ID hA hI;have HP:=ae eJ;go_enter Tryz.func49,Tryz.ntmps49;go_wp2_with (first | (go_at_call 76;refine mj.Z.mono ?_;rintro e w' ⟨rfl,rfl⟩) | (go_at_call 112;refine hs.Z.mono ?_;rintro e w' ⟨rfl,rfl⟩));refine wp_loop_rounds 1 ?_;rw [rounds_succ];go_wp2;go_ret;exact HP.Z
theorem mH {m:DM}:(aS m).2.aN=m.aN/\(aS m).2.sure=m.sure/\(aS m).2.aw=m.aw/\(aS m).2.aR=m.aR:=by
 unfold aS;split
 ·exact ⟨rfl,rfl,rfl,rfl⟩
 ·split <;>exact ⟨rfl,rfl,rfl,rfl⟩
theorem LD {F:Nat->Prop} {w:World} {d:Nat} {m:DM} (h:cZ F w d m) (hf:m.cC<=9223372036854775807) (mr:∀ k c,m.aw[k]?=some c->uU ((m.aw.take k).foldl bW m.sure) c): bF 49 #[.pointer (some ⟨d,0,none⟩)] w (rT F w d (aV m)):=by
 have mj:=ux h;have hx:=h.ext;unfold FC at mj;unfold aV;cases pB:m.bh
 ·rw [pB] at mj;simp only [nP,if_false] at mj ⊢;obtain ⟨bn,bs,vl,h⟩:=h;obtain ⟨w1,hs,h1,k1,z1⟩:=Bj h hf;obtain ⟨e1,e2,e3,e4⟩:=mH (m:=m);by_cases h0:m.cC=0
  ·simp only [h0,if_true];rw [show (aS m).1=5 by simp [aS,h0]] at hs;rw [show (aS m).2={m with bh:=true} by simp [aS,h0]] at h1;refine gU (PC w w1 d mj hs).Z ?_;exact ⟨rfl,⟨bn,bs,vl,by simpa [h0] using h1.wider (G:=fX F w w1) (λb hb=>Or.inl hb) (λb hb=>by rcases hb with hb | hb;exact h1.lt b hb;exact hb.2)⟩,k1.mono (λb _ e=>by subst e;exact h.fd)⟩
  ·simp only [h0,if_false];rw [show (aS m).1=0 by simp only [aS,h0,if_false];split <;>rfl] at hs;have fin:∀ e w',rT F w1 d (0,{(aS m).2 with sure:=m.aw.foldl bW m.sure,aw:=[]}) e w'->rT F w d (0,lU m) e w':=by
    rintro e w' ⟨he,hd,hk⟩;refine ⟨he,hd.wider (λb hb=>by rcases hb with hb | hb;exact Or.inl hb;exact Or.inr ⟨by omega,hb.2⟩) (λb hb=> ?_),(k1.mono (λb _ e=>by subst e;exact h.fd)).trans hk (λ_ _ e=>e)⟩;rcases hb with hb | hb
    ·exact hd.lt b (Or.inl hb)
    ·exact hb.2
   obtain ⟨ps,r1,r2,r3⟩:=h1.aw;have Y6:∀ k c,(aS m).2.aw[k]?=some c->uU (((aS m).2.aw.take k).foldl bW (aS m).2.sure) c:=by rw [e2,e3];exact mr
   by_cases hn:m.aw=[]
   ·obtain ⟨a,c,rfl⟩:=bA r2;have Pw:fW F w1 d bn bs (.slice a 0 c) (aS m).2:=by rw [e3,hn] at h1;exact h1
    refine (LC mj hs Pw).mono λe w' hp=>fin e w' ?_;rw [hn];rw [e2] at hp;exact hp
   ·have Bg:0 <m.aw.length:=List.length_pos_iff.2 hn;rcases r2.2 with ⟨_,e⟩ | ⟨g,cap,gp,rfl,hg,hb,sy,pA,pS,ht⟩
    ·rw [e3] at e;omega
    ·unfold maxLen at pA;refine (PD mj hs h1 rfl sy (by omega) Y6).mono λe w' hp=>fin e w' ?_;rw [e2,e3] at hp;exact hp
 ·rw [pB] at mj;simp only [if_true] at mj ⊢;refine gU (PB w d mj).Z ?_;exact ⟨rfl,hx,ah.refl _ _⟩
theorem bX.nil:bX []:=by simp [bX]
theorem bX.bW {fs:FS} (h:bX fs) (c:Ch):bX (bW fs c):=by
 unfold Go.Proofs.YtlcnhpjggjgnpaaGreatDoor.bW;split
 ·exact h.dY _ _
 ·split
  ·exact h.dY _ _
  ·split
   ·exact h.bV _
   ·split
    ·split
     ·exact h.dY _ _
     ·exact (h.dY _ _).bV _
    ·exact h
theorem bX.fold:∀ (l:List Ch) {fs:FS},bX fs->bX (l.foldl Go.Proofs.YtlcnhpjggjgnpaaGreatDoor.bW fs)
 | [],_,h=>h
 | c::l,_,h=>bX.fold l (h.bW c)
theorem IE {fs:FS} (h:bX fs) (n:aD):used (dY fs n [])<=used fs:=by have:=iP h n [];simp only [gN] at this;omega
theorem IF {fs:FS} (h:bX fs) (n:aD):used (bV fs n)<=used fs:=by have:=lw h n;omega
theorem IG {fs:FS} (h:bX fs) (a b:aD) (PE:a≠b):used (bV (dY fs b ((aZ fs a).getD [])) a)<=used fs:=by have h1:=iP h b ((aZ fs a).getD []);have h2:=lw (h.dY b ((aZ fs a).getD [])) a;rw [df h _ _ _ (Ne.symm PE)] at h2;omega
theorem PF {fs:FS} (h:bX fs) (b:aD):used (dY fs b ((aZ fs b).getD []))<=used fs:=by have h1:=iP h b ((aZ fs b).getD []);omega
theorem IH {fs:FS} (h:bX fs) (n:aD) (p:aH):used (dY fs n ((aZ fs n).getD []++p))=used fs+p.length:=by have h1:=iP h n ((aZ fs n).getD []++p);rw [fS] at h1;omega
theorem PG {fs:FS} (h:bX fs) (c:Ch) (hk:c.kind≠1):used (bW fs c)<=used fs:=by
 unfold bW;rw [if_neg hk];split
 ·exact IE h _
 ·split
  ·exact IF h _
  ·split
   ·split
    ·rename_i e;rw [e];exact PF h _
    ·rename_i e;exact IG h _ _ e
   ·exact eQ _
theorem vX {fs:FS} (h:bX fs) (c:Ch) (hk:c.kind=1):used (bW fs c)=used fs+c.p.length:=by unfold bW;rw [if_neg (by omega),if_pos hk];exact IH h _ _
structure Good (m:DM) (n:Nat):Prop where
 qz:0<=m.aR
 nY:m.aR<=67108864
 II:-1<=m.cC
 cC:m.cC<=9223372036854775807
 len:m.aw.length<=n
 lV:bX m.sure
 aN:m.aN=m.aw.foldl bW m.sure
 used:∀ k,(used ((m.aw.take k).foldl bW m.sure):Int)<=m.aR
 kinds:∀ c ∈ m.aw,(0<=c.kind/\c.kind<=3)/\c.p.length<=1048576
theorem Good.LF {m:DM} {n:Nat} (h:Good m n):bX m.aN:=by rw [h.aN];exact bX.fold _ h.lV
theorem Good.AA {m:DM} {n:Nat} (h:Good m n):(Go.Proofs.YtlcnhpjggjgnpaaGreatDoor.used m.aN:Int)<=m.aR:=by have:=h.used m.aw.length;rw [jX,<-h.aN] at this;exact this
theorem Good.get {m:DM} {n:Nat} (h:Good m n) (f:aD):((aZ m.aN f).getD []).length<=67108864:=by have h1:=s6 h.LF f;have h2:=h.AA;have h3:=h.nY;omega
theorem Good.mono {m:DM} {n k:Nat} (h:Good m n) (hk:n<=k):Good m k:=⟨h.qz,h.nY,h.II,h.cC,kT h.len hk,h.lV,h.aN,h.used,h.kinds⟩
theorem Good.fits {m:DM} {n:Nat} (h:Good m n):∀ k c,m.aw[k]?=some c->uU ((m.aw.take k).foldl bW m.sure) c/\∀ j,uU ((m.aw.take k).foldl bW m.sure) {c with p:=c.p.take j}:=by intro k c hc;obtain ⟨h1,h2⟩:=h.kinds c (kx hc);have h3:=h.used k;have h4:=s6 (bX.fold (m.aw.take k) h.lV) c.a;have h5:=h.nY;refine ⟨⟨h1,λ_=>by omega⟩,λj=>⟨h1,λ_=> ?_⟩⟩;have:(c.p.take j).length<=c.p.length:=List.length_take_le' _ _;simp only;omega
theorem Good.fits1 {m:DM} {n:Nat} (h:Good m n):∀ k c,m.aw[k]?=some c->uU ((m.aw.take k).foldl bW m.sure) c:=λk c hc=>(h.fits k c hc).1
theorem Good.new {aR:Int} (h0:0<=aR) (h1:aR<=67108864):Good (eS aR) 0:=
 ⟨h0,h1,by simp [eS],by simp [eS],eQ _,bX.nil,rfl,λk=>by simp [eS,Go.Proofs.YtlcnhpjggjgnpaaGreatDoor.used];exact h0,λc hc=>by simp [eS] at hc⟩
theorem Good.VP {m:DM} {n:Nat} (h:Good m n) {f:Int} (hf0:-1<=f) (hf:f<=9223372036854775807) (b:Bool):Good {m with cC:=f,bh:=b} n:=⟨h.qz,h.nY,hf0,hf,h.len,h.lV,h.aN,h.used,h.kinds⟩
theorem Bt {m:DM} {n:Nat} (h:Good m n):-1<=(aS m).2.cC/\(aS m).2.cC<=9223372036854775807:=by
 have h1:=h.cC;have h2:=h.II;unfold aS;split
 ·exact ⟨h2,h1⟩
 ·split
  ·simp only;omega
  ·exact ⟨h2,h1⟩
theorem Good.does {m:DM} {n:Nat} (h:Good m n) (c:Ch) (hk:0<=c.kind/\c.kind<=3) (hp:c.p.length<=1048576) (hu:c.kind=1->(Go.Proofs.YtlcnhpjggjgnpaaGreatDoor.used m.aN:Int)+(c.p.length:Int)<=m.aR):Good (dB m c).2 (n+1):=by
 unfold dB;split
 ·exact (h.VP h.II h.cC true).mono (eM _)
 ·obtain ⟨e1,e2,e3,e4⟩:=mH (m:=m);obtain ⟨f1,f2⟩:=Bt h;have hn:bW m.aN c=(m.aw++[c]).foldl bW m.sure:=by rw [Hr,<-h.aN];rfl
  have hun:(Go.Proofs.YtlcnhpjggjgnpaaGreatDoor.used (bW m.aN c):Int)<=m.aR:=by
   by_cases h1:c.kind=1
   ·rw [vX h.LF c h1];have:=hu h1;omega
   ·have:=PG h.LF c h1;have:=h.AA;omega
  refine ⟨by rw [e4];exact h.qz,by rw [e4];exact h.nY,f1,f2,by simp;exact h.len,by rw [e2];exact h.lV,by rw [e2];exact hn,λk=> ?_,λc' sw=> ?_⟩
  ·rw [e2,e4];simp only;by_cases qU:k<=m.aw.length
   ·rw [CW qU];exact h.used k
   ·rw [sU (by simp;omega),<-hn];exact hun
  ·simp only [List.mem_append,Fw] at sw;rcases sw with sw | rfl
   ·exact h.kinds c' sw
   ·exact ⟨hk,hp⟩
theorem Good.fY {m:DM} {n:Nat} (h:Good m n) (f:aD):Good (aO m f).2 (n+1):=by
 have h':=h.mono (eM n);unfold aO;split
 ·exact h'
 ·split
  ·exact h'
  ·split
   ·exact h'
   ·split
    ·exact h'
    ·exact h.does _ ⟨by simp,by simp⟩ (by simp) (by simp)
theorem Good.dZ {m:DM} {n:Nat} (h:Good m n) (f:aD):Good (aE m f).2 (n+1):=by
 have h':=h.mono (eM n);unfold aE;split
 ·exact h.does _ ⟨by simp,by simp⟩ (by simp) (by simp)
 ·exact h'
theorem Good.append {m:DM} {n:Nat} (h:Good m n) (f:aD) (p:aH):Good (aM m f p).2 (n+1):=by
 have h':=h.mono (eM n);unfold aM;split
 ·split
  ·exact h'
  ·split
   ·exact h'
   ·exact h.does _ ⟨by simp,by simp⟩ (by simp only;omega) (by simp only;omega)
 ·exact h'
theorem Good.rename {m:DM} {n:Nat} (h:Good m n) (f g:aD):Good (bw m f g).2 (n+1):=by
 have h':=h.mono (eM n);unfold bw;split
 ·split
  ·exact h'
  ·exact h.does _ ⟨by simp,by simp⟩ (by simp) (by simp)
 ·exact h'
theorem Good.sync {m:DM} {n:Nat} (h:Good m n):Good (aV m).2 n:=by
 unfold aV;split
 ·exact h
 ·split
  ·exact h.VP h.II h.cC true
  ·obtain ⟨e1,e2,e3,e4⟩:=mH (m:=m);obtain ⟨f1,f2⟩:=Bt h;unfold lU;refine ⟨by rw [e4];exact h.qz,by rw [e4];exact h.nY,f1,f2,fC _,bX.fold _ h.lV,by rw [e1];exact h.aN,λk=> ?_,λc hc=>by simp at hc⟩;simp only [List.take_nil,List.foldl_nil];rw [<-h.aN,e4];exact h.AA
theorem Good.A0 {m:DM} {n:Nat} (h:Good m n) (k:Int) (hk:k<=9223372036854775807):Good (gF m k).2 n:=by
 unfold gF;split
 ·exact h
 ·simp only;split
  ·exact h.VP (b:=m.bh) (by omega) (by omega)
  ·exact h.VP (b:=m.bh) (by omega) hk
theorem LG {m:DM} {n:Nat} (h:Good m n) (keep part:Int):bX (ft m keep part)/\(Go.Proofs.YtlcnhpjggjgnpaaGreatDoor.used (ft m keep part):Int)<=m.aR:=by
 unfold ft;have h1:=bX.fold (m.aw.take (fx keep m.aw.length)) h.lV;have h2:=h.used (fx keep m.aw.length);simp only;cases hc:m.aw[fx keep m.aw.length]? with
 | none=>exact ⟨h1,h2⟩
 | some c=>
  simp only;split
  ·rename_i hk;refine ⟨h1.bW _, ?_⟩;have h3:=h.used (fx keep m.aw.length+1);rw [ym,hc,Hr] at h3;simp only [Option.toList_some,List.foldl_cons,List.foldl_nil] at h3;rw [vX h1 c hk] at h3;have h5:=vX h1 ({c with p:=c.p.take (fx part c.p.length)}:Ch) hk;have h6:(c.p.take (fx part c.p.length)).length<=c.p.length:=List.length_take_le' _ _;simp only at h5;rw [h5];omega
  ·exact ⟨h1,h2⟩
theorem Good.xi {m:DM} {n:Nat} (h:Good m n) (keep part:Int):Good (cX m keep part) 0:=by obtain ⟨h1,h2⟩:=LG h keep part;exact ⟨h.qz,h.nY,by simp [cX,gD],by simp [cX,gD],eQ _,h1,rfl,λk=>by simpa [cX,gD] using h2,λc hc=>by simp [cX,gD] at hc⟩
theorem Good.aw {m:DM} {n:Nat} (h:Good m n) (hn:n <1099511627776):m.aw.length <1099511627776:=Nat.lt_of_le_of_lt h.len hn
structure bB (B:Nat) where
 is:(Nat->Prop)->World->Prop
 keep:∀ (F:Nat->Prop) (w w':World),is F w->(∀ b,F b\/b <B->w'.heap[b]?=w.heap[b]?)->is F w'
def xj (B:Nat) (w:World) (F:Nat->Prop) (r:bB B):Prop:=r.is F w/\∀ b,F b->B<=b/\b <w.heap.size
def N9 (F G:Nat->Prop):Prop:=∀ b,F b->¬G b
def Own (w wr:World) (rs:List (bB w.heap.size)):Prop:=
 ak w wr/\∃ Fs:List (Nat->Prop),dX (xj w.heap.size wr) Fs rs/\Fs.Pairwise N9
theorem xj.keeps {B:Nat} {w w':World} {F G:Nat->Prop} {r:bB B} (h:xj B w G r) (hB:B<=w.heap.size) (hk:ah F w w') (hF:∀ b,F b->B<=b) (hd:∀ b,G b->¬F b):xj B w' G r:=
 ⟨r.keep G w w' h.1 (λb hb=>hk.block b (by rcases hb with hb | hb;exact (h.2 b hb).2;omega) (λe=>by rcases hb with hb | hb;exact hd b hb e;have:=hF b e;omega)),λb hb=>⟨(h.2 b hb).1,Fv (h.2 b hb).2 hk.size⟩⟩
theorem mI {B:Nat} {w w':World} {F:Nat->Prop} (hB:B<=w.heap.size) (hk:ah F w w') (hF:∀ b,F b->B<=b):∀ {Gs:List (Nat->Prop)} {rs:List (bB B)},dX (xj B w) Gs rs->(∀ G ∈ Gs,∀ b,G b->¬F b)->dX (xj B w') Gs rs
 | [],[],_,_=>trivial
 | _::_,_::_,h,hd=>⟨h.1.keeps hB hk hF (hd _ (gw ..)),mI hB hk hF h.2 (λG hG=>hd G (nO _ hG))⟩
 | [],_::_,h,_=>h.elim
 | _::_,[],h,_=>h.elim
theorem lA {B:Nat} {w:World}:∀ {Gs:List (Nat->Prop)} {rs:List (bB B)},dX (xj B w) Gs rs->∀ G ∈ Gs,∀ b,G b->B<=b/\b <w.heap.size
 | [],[],_,G,hG,_,_=>by simp at hG
 | F::Gs,r::rs,h,G,hG,b,hb=>by
  rcases List.mem_cons.1 hG with rfl | hG
  ·exact h.1.2 b hb
  ·exact lA h.2 G hG b hb
 | [],_::_,h,_,_,_,_=>h.elim
 | _::_,[],h,_,_,_,_=>h.elim
theorem Own.start (w:World):Own w w []:=⟨ah.refl _ _,[],trivial,List.Pairwise.nil⟩
theorem Own.keeps {w wr:World} {rs:List (bB w.heap.size)} (h:Own w wr rs):ak w wr:=h.1
theorem Own.quiet {w wr w':World} {rs:List (bB w.heap.size)} (h:Own w wr rs) (hk:ak wr w'):Own w w' rs:=by obtain ⟨k,Fs,hr,hp⟩:=h;exact ⟨k.trans hk (λ_ _ e=>e),Fs,mI k.size hk (λ_ e=>e.elim) hr (λ_ _ _ _ e=>e),hp⟩
theorem Own.jT {w wr:World} {r:bB w.heap.size} {rs:List (bB w.heap.size)} (h:Own w wr (r::rs)): ∃ F:Nat->Prop,r.is F wr/\(∀ b,F b->w.heap.size<=b/\b <wr.heap.size)/\∀ (w':World) (r':bB w.heap.size),ah F wr w'->r'.is (fX F wr w') w'->Own w w' (r'::rs):=by
 obtain ⟨k,Fs,hr,hp⟩:=h;match Fs,hr,hp with
 | F::Gs,hr,hp=>
  have VH:=List.pairwise_cons.1 hp;refine ⟨F,hr.1.1,hr.1.2,λw' r' hk h'=>⟨k.trans hk (λb hb e=>by have:=(hr.1.2 b e).1;omega),fX F wr w'::Gs,⟨⟨h',λb hb=> ?_⟩,mI k.size hk (λb e=>(hr.1.2 b e).1) hr.2 (λG hG b hb e=>VH.1 G hG b e hb)⟩,List.pairwise_cons.2 ⟨λG hG b hb e=> ?_,VH.2⟩⟩⟩
  ·have:=k.size;have:=hk.size;rcases hb with hb | hb
   ·have:=hr.1.2 b hb;omega
   ·omega
  ·rcases hb with hb | hb
   ·exact VH.1 G hG b hb e
   ·have:=lA hr.2 G hG b e;omega
theorem Own.XU {w wr:World} {r s:bB w.heap.size} {rs:List (bB w.heap.size)} (h:Own w wr (r::s::rs)): ∃ F G:Nat->Prop,r.is F wr/\s.is G wr/\N9 F G/\(∀ b,F b->w.heap.size<=b/\b <wr.heap.size)/\(∀ b,G b->w.heap.size<=b/\b <wr.heap.size)/\ ∀ (w':World) (r' s':bB w.heap.size) (F' G':Nat->Prop),ah (λb=>F b\/G b) wr w'->r'.is F' w'->s'.is G' w'->(∀ b,F' b->fX (λb=>F b\/G b) wr w' b)->(∀ b,G' b->fX (λb=>F b\/G b) wr w' b)->N9 F' G'->Own w w' (r'::s'::rs):=by
 obtain ⟨k,Fs,hr,hp⟩:=h;match Fs,hr,hp with
 | F::G::Gs,hr,hp=>
  have qT:=List.pairwise_cons.1 hp;have yf:=List.pairwise_cons.1 qT.2;have pz:∀ b,(F b\/G b)->w.heap.size<=b/\b <wr.heap.size:=λb hb=>by rcases hb with hb | hb;exact hr.1.2 b hb;exact hr.2.1.2 b hb
  have LH:∀ H ∈ Gs,∀ b,(F b\/G b)->¬H b:=λH hH b hb=>by rcases hb with hb | hb;exact qT.1 H (nO _ hH) b hb;exact yf.1 H hH b hb
  refine ⟨F,G,hr.1.1,hr.2.1.1,qT.1 G (gw ..),hr.1.2,hr.2.1.2,λw' r' s' F' G' hk h1 h2 e1 e2 ha=>⟨k.trans hk (λb hb e=>by have:=(pz b e).1;omega),F'::G'::Gs,⟨⟨h1, ?_⟩,⟨h2, ?_⟩,mI k.size hk (λb e=>(pz b e).1) hr.2.2 (λH hH b hb e=>LH H hH b e hb)⟩,List.pairwise_cons.2 ⟨λH hH=> ?_,List.pairwise_cons.2 ⟨λH hH=> ?_,yf.2⟩⟩⟩⟩
  ·intro b hb;have:=k.size;have:=hk.size;rcases e1 b hb with hb | hb
   ·have:=pz b hb;omega
   ·omega
  ·intro b hb;have:=k.size;have:=hk.size;rcases e2 b hb with hb | hb
   ·have:=pz b hb;omega
   ·omega
  ·rcases List.mem_cons.1 hH with rfl | hH
   ·exact ha
   ·intro b hb e;rcases e1 b hb with hb | hb
    ·exact LH H hH b hb e
    ·have:=lA hr.2.2 H hH b e;omega
  ·intro b hb e;rcases e2 b hb with hb | hb
   ·exact LH H hH b hb e
   ·have:=lA hr.2.2 H hH b e;omega
theorem Own.add {w wr w':World} {rs:List (bB w.heap.size)} (h:Own w wr rs) (hk:ak wr w') {r:bB w.heap.size} {G:Nat->Prop} (hr:r.is G w') (hG:∀ b,G b->wr.heap.size<=b/\b <w'.heap.size):Own w w' (r::rs):=by obtain ⟨k,Fs,pE,hp⟩:=h;have hz:=k.size;exact ⟨k.trans hk (λ_ _ e=>e),G::Fs,⟨⟨hr,λb hb=>by have:=hG b hb;omega⟩,mI hz hk (λ_ e=>e.elim) pE (λ_ _ _ _ e=>e)⟩,List.pairwise_cons.2 ⟨λH hH b hb e=>by have:=lA pE H hH b e;have:=hG b hb;omega,hp⟩⟩
theorem Own.drop {w wr:World} {r:bB w.heap.size} {rs:List (bB w.heap.size)} (h:Own w wr (r::rs)):Own w wr rs:=by
 obtain ⟨k,Fs,hr,hp⟩:=h;match Fs,hr,hp with
 | F::Gs,hr,hp=>exact ⟨k,Gs,hr.2,(List.pairwise_cons.1 hp).2⟩
theorem Sj {α β:Type} {R:α->β->Prop} {rs rs':List β} (h:rs.Perm rs'):∀ {Fs:List α},dX R Fs rs->∃ Fs':List α,Fs.Perm Fs'/\dX R Fs' rs':=by
 induction h with
 | nil=>intro Fs hr;exact ⟨Fs,FB _,hr⟩
 | cons x _ ih=>
  intro Fs hr;match Fs,hr with
  | F::Gs,hr=>
   obtain ⟨Gs',hp,FM⟩:=ih hr.2;exact ⟨F::Gs',hp.cons F,hr.1,FM⟩
 | swap x y l=>
  intro Fs hr;match Fs,hr with
  | F::G::Gs,hr=>exact ⟨G::F::Gs,oe ..,hr.2.1,hr.1,hr.2.2⟩
 | trans _ _ h1 h2=>intro Fs hr;obtain ⟨F1,p1,r1⟩:=h1 hr;obtain ⟨F2,p2,r2⟩:=h2 r1;exact ⟨F2,p1.trans p2,r2⟩
theorem Own.perm {w wr:World} {rs rs':List (bB w.heap.size)} (h:Own w wr rs) (hp:rs.Perm rs'):Own w wr rs':=by obtain ⟨k,Fs,hr,ha⟩:=h;obtain ⟨Fs',p,FM⟩:=Sj hp hr;exact ⟨k,Fs',FM,(p.pairwise_iff (λh b hb e=>h b e hb)).1 ha⟩
theorem Own.swap {w wr:World} {r s:bB w.heap.size} {rs:List (bB w.heap.size)} (h:Own w wr (r::s::rs)):Own w wr (s::r::rs):=h.perm (oe ..)
theorem Own.third {w wr:World} {r s t:bB w.heap.size} {rs:List (bB w.heap.size)} (h:Own w wr (r::s::t::rs)):Own w wr (t::r::s::rs):=
 h.perm ((sV r (oe ..)).trans (oe ..))
theorem Own.head {w wr:World} {r:bB w.heap.size} {rs:List (bB w.heap.size)} (h:Own w wr (r::rs)):∃ F:Nat->Prop,r.is F wr/\∀ b,F b->w.heap.size<=b/\b <wr.heap.size:=by obtain ⟨F,h1,h2,_⟩:=h.jT;exact ⟨F,h1,h2⟩
theorem Own.view {w wr:World} {r r':bB w.heap.size} {rs:List (bB w.heap.size)} (h:Own w wr (r::rs)) (hv:∀ F:Nat->Prop,(∀ b,F b->w.heap.size<=b/\b <wr.heap.size)->r.is F wr->r'.is F wr):Own w wr (r'::rs):=by
 obtain ⟨k,Fs,hr,hp⟩:=h;match Fs,hr,hp with
 | F::Gs,hr,hp=>exact ⟨k,F::Gs,⟨⟨hv F hr.1.2 hr.1.1,hr.1.2⟩,hr.2⟩,hp⟩
def bk {B:Nat} (d:Nat) (m:DM):bB B:=⟨λF w=>cZ F w d m,λ_ _ _ h hk=>h.keep (λb hb=>hk b (.inl hb))⟩
def pV (w:World) (d:Nat) (rs:List (bB w.heap.size)) (r:Int × DM) (e:Ending) (w':World):Prop:=e= .returned (.int .i64 r.1)/\Own w w' (bk d r.2::rs)
theorem Own.lW {w wr:World} {d:Nat} {m:DM} {rs:List (bB w.heap.size)} (h:Own w wr (bk d m::rs)):∃ F:Nat->Prop,cZ F wr d m/\∀ (r:Int × DM) (e:Ending) (w':World),rT F wr d r e w'->pV w d rs r e w':=by obtain ⟨F,h1,h2,back⟩:=h.jT;exact ⟨F,h1,λr e w' hp=>⟨hp.1,back w' (bk d r.2) hp.2.2 hp.2.1⟩⟩
theorem Own.nodup {w wr:World} {d:Nat} {m:DM} {rs:List (bB w.heap.size)} (h:Own w wr (bk d m::rs)):bX m.aN:=by obtain ⟨F,h1,_⟩:=h.lW;exact h1.nodup
theorem Own.new {w wr:World} {rs:List (bB w.heap.size)} (h:Own w wr rs) (aR:Int) (h0:0<=aR) (h1:aR<=67108864): ∃ d w',aW 17 #[.int .i64 aR] wr (.tuple #[.pointer (some ⟨d,0,none⟩),.int .i64 0]) w'/\Own w w' (bk d (eS aR)::rs):=by obtain ⟨d,w',hr,hd,k⟩:=R0 wr aR h0 h1;exact ⟨d,w',hr,h.add k (r:=bk d (eS aR)) hd (λb hb=>by rcases hb with hb | hb;exact hb.elim;exact hb)⟩
section
variable {w wr:World} {d:Nat} {m:DM} {rs:List (bB w.heap.size)}
theorem Own.fY (h:Own w wr (bk d m::rs)) (n:aD) (hf:m.cC<=9223372036854775807) (hl:m.aw.length <1099511627776): ∃ w',aW 41 #[.pointer (some ⟨d,0,none⟩),.string n] wr (.int .i64 (aO m n).1) w'/\Own w w' (bk d (aO m n).2::rs):=by obtain ⟨F,h1,back⟩:=h.lW;obtain ⟨w',hr,h2,k⟩:=HJ h1 n hf hl;exact ⟨w',hr,(back _ (.returned (.int .i64 (aO m n).1)) w' ⟨rfl,h2,k⟩).2⟩
theorem Own.dZ (h:Own w wr (bk d m::rs)) (n:aD) (hf:m.cC<=9223372036854775807) (hl:m.aw.length <1099511627776): ∃ w',aW 45 #[.pointer (some ⟨d,0,none⟩),.string n] wr (.int .i64 (aE m n).1) w'/\Own w w' (bk d (aE m n).2::rs):=by obtain ⟨F,h1,back⟩:=h.lW;obtain ⟨w',hr,h2,k⟩:=Ia h1 n hf hl;exact ⟨w',hr,(back _ (.returned (.int .i64 (aE m n).1)) w' ⟨rfl,h2,k⟩).2⟩
theorem Own.append (h:Own w wr (bk d m::rs)) (n:aD) {pv:Value} {p:aH} (hp:aC wr pv p) (AX:0<=m.aR) (bM:m.aR<=67108864) (hu:(used m.aN:Int)<=m.aR) (hf:m.cC<=9223372036854775807) (hl:m.aw.length <1099511627776): bF 48 #[.pointer (some ⟨d,0,none⟩),.string n,pv] wr (pV w d rs (aM m n p)):=by have oC:=h.nodup;obtain ⟨F,h1,back⟩:=h.lW;exact (FG h1 n hp AX bM hu (s6 oC n) hf hl).mono λ_ _ hp=>back _ _ _ hp
theorem Own.sync (h:Own w wr (bk d m::rs)) (hf:m.cC<=9223372036854775807) (mr:∀ k c,m.aw[k]?=some c->uU ((m.aw.take k).foldl bW m.sure) c): bF 49 #[.pointer (some ⟨d,0,none⟩)] wr (pV w d rs (aV m)):=by obtain ⟨F,h1,back⟩:=h.lW;exact (LD h1 hf mr).mono λ_ _ hp=>back _ _ _ hp
theorem Own.xi (h:Own w wr (bk d m::rs)) (keep part:Int) (mr:∀ k c,m.aw[k]?=some c->uU ((m.aw.take k).foldl bW m.sure) c/\∀ j,uU ((m.aw.take k).foldl bW m.sure) {c with p:=c.p.take j}):
  bF 30 #[.pointer (some ⟨d,0,none⟩),.int .i64 keep,.int .i64 part] wr (pV w d rs (0,cX m keep part)):=by
 obtain ⟨F,h1,back⟩:=h.lW;exact (Ir h1 keep part mr).mono λ_ _ hp=>back _ _ _ hp
theorem Own.read (h:Own w wr (bk d m::rs)) (n:aD) (at_ k:Int) (cU:((aZ m.aN n).getD []).length<=140737488355328): ∃ v w',aW 55 #[.pointer (some ⟨d,0,none⟩),.string n,.int .i64 at_,.int .i64 k] wr (.tuple #[v,.int .i64 (er m n at_ k)]) w'/\bQ (λb=>wr.heap.size<=b) w' v (di m n at_ k)/\ak wr w'/\Own w w' (bk d m::rs):=by obtain ⟨F,h1,_⟩:=h.lW;obtain ⟨v,w',hr,hB,kk⟩:=Ed h1 n at_ k cU;exact ⟨v,w',hr,hB,kk,h.quiet kk⟩
end
def XV (R:Int->World->Prop) (e:Ending) (w':World):Prop:=∃ r:Int,e= .returned (.int .i64 r)/\R r w'
def Y7 (N R:Prop) (n:Int):Prop:=(n=0->N)/\(¬n=0->R)
theorem IJ {w:World} (g n c:Nat) (Sk:Nat->FuncId) (fst cap:Nat->Array Value) (I:Nat->World->Prop) (R:Int->World->Prop) (hn:n<=1000) (h0:I 0 w) (RY:∀ k args w',(callFunc (Sk k) args).run Tryz.prog w'= .ok (.enter (Sk k) args) w') (eh:∀ k w',k <n->I k w'->w'.cell? ⟨g,k,none⟩=some (.func (.func (Sk k)) (fst k) (cap k))) (gA:∀ k w',k <n->I k w'->bF (Sk k) (fst k++cap k) w' (XV (λr w''=>Y7 (I (k+1) w'') (R r w'') r))) (IK:∀ w',I n w'->R 0 w'):bF 117 #[.slice (some ⟨g,0,none⟩) n c] w (XV R):=by
 have HC:=ae eh;have HS:=ae gA;have HE:=ae IK;have HN:=ae RY;go_enter Tryz.func117,Tryz.ntmps117;go_wp2_with fail;go_loopw [8] (λi wr=>∃ k:Nat,k<=n/\i= .int .i64 (k:Int)/\I k wr) (λi _=>n - (intOf i).toNat);case atStart=>exact ⟨0,fC _,rfl,h0⟩
 case round=>
  obtain ⟨k,hk,rfl,hI⟩:=hrel;by_cases aX:k <n
  ·have hc:=HC.Z k wr aX hI;have hs:=ae (HS.Z k wr aX hI);have j0:=np k;have j1:(k:Int) <n:=by omega
   have he:=HN.Z k (fst k++cap k) wr;generalize Sk k=fi at hc hs he;generalize fst k=fs at hc hs he;generalize cap k=ca at hc hs he;go_wp2_with fail;refine hs.Z.mono ?_;rintro e w1 ⟨r,rfl,h1,h2⟩;by_cases hr:r=0
   ·have H1:=ae (h1 hr);subst hr;go_wp2;go_roundw;case rel=>exact ⟨k+1,by omega,rfl,H1.Z⟩
    case measure=>simp [intOf];omega
   ·have H2:=ae (h2 hr);go_wp2;go_ret;exact ⟨_,rfl,H2.Z⟩
  ·obtain rfl:k=n:=by omega
   have hE:=ae (HE.Z wr hI);go_wp2;go_ret;exact ⟨_,rfl,hE.Z⟩
theorem Oa {α β:Type} {R:α->β->Prop}:∀ {Fs:List α} {rs:List β},dX R Fs rs->∀ r ∈ rs,∃ F ∈ Fs,R F r
 | F::Fs,s::rs,h,r,hr=>by
  rcases List.mem_cons.1 hr with rfl | hr
  ·exact ⟨F,gw ..,h.1⟩
  ·obtain ⟨G,hG,h2⟩:=Oa h.2 r hr;exact ⟨G,nO _ hG,h2⟩
 | _,[],_,r,hr=>by simp at hr
 | [],_::_,h,_,_=>h.elim
theorem Own.mem {w wr:World} {rs:List (bB w.heap.size)} (h:Own w wr rs) {r:bB w.heap.size} (hr:r ∈ rs):∃ F:Nat->Prop,r.is F wr/\∀ b,F b->w.heap.size<=b/\b <wr.heap.size:=by obtain ⟨k,Fs,h1,h2⟩:=h;obtain ⟨F,hF,h3,h4⟩:=Oa h1 r hr;exact ⟨F,h3,h4⟩
def aA {B:Nat} (b:Nat) (o:Obj):bB B:=⟨λF w=>F b/\w.heap[b]?=some o,λ_ _ _ h hk=>⟨h.1,(hk _ (.inl h.1)).trans h.2⟩⟩
theorem Own.at {w wr:World} {rs:List (bB w.heap.size)} (h:Own w wr rs) {b:Nat} {o:Obj} (hr:aA b o ∈ rs):wr.heap[b]?=some o/\w.heap.size<=b/\b <wr.heap.size:=by obtain ⟨F,h1,h2⟩:=h.mem hr;exact ⟨h1.2,h2 b h1.1⟩
theorem Own.alloc {w wr:World} {rs:List (bB w.heap.size)} (h:Own w wr rs) (o:Obj):Own w (wr.alloc o) (aA wr.heap.size o::rs):=
 h.add ((ah.refl _ wr).alloc o) (r:=aA wr.heap.size o) (G:=λb=>b=wr.heap.size) ⟨rfl,heap_alloc_new wr o⟩ (λb hb=>by simp;omega)
theorem Own.mJ {w wr:World} {r:bB w.heap.size} {rs:List (bB w.heap.size)} (h:Own w wr (r::rs)) (o:Obj):Own w (wr.alloc o) (r::aA wr.heap.size o::rs):=(h.alloc o).swap
theorem Own.drew {w wr:World} {rs:List (bB w.heap.size)} (h:Own w wr rs):Own w wr.drew rs:=h.quiet (ah.refl _ wr).drew
theorem Own.store {w wr:World} {rs:List (bB w.heap.size)} {b:Nat} {cs:Array Value} {t:TypeId} (h:Own w wr (aA b (.cells cs t (0,0))::rs)) (i:Nat) (u:Value): Own w (wr.setCell ⟨b,i,none⟩ u) (aA b (.cells (cs.setIfInBounds i u) t (0,0))::rs):=by obtain ⟨F,h1,h2,back⟩:=h.jT;exact back _ (aA b (.cells (cs.setIfInBounds i u) t (0,0))) ((ah.refl F wr).setCell (λ_=>h1.1) u) ⟨.inl h1.1,bf h1.2 i u⟩
theorem Own.oG {w wr:World} {r s:bB w.heap.size} {rs:List (bB w.heap.size)} (h:Own w wr (r::s::rs)):Own w wr (r::rs):=h.swap.drop
theorem Own.qA {w wr:World} {r s t:bB w.heap.size} {rs:List (bB w.heap.size)} (h:Own w wr (r::s::t::rs)):Own w wr (r::rs):=h.oG.oG
def bS {B:Nat} (v:Value) (l:aH):bB B:=
 ⟨λF w=>w.ownsRow 0 5 1 v l.length (l.map dF)/\∀ b,v.ownBlock=some b->F b,λ_ _ _ h hk=>⟨by
  obtain ⟨⟨h1,h2⟩,h3⟩:=h;refine ⟨h1, ?_⟩;rcases h2 with h2 | ⟨g,cap,gp,rfl,hg,hb,h4,h5,h6,h7⟩
  ·exact .inl h2
  ·exact .inr ⟨g,cap,gp,rfl,hg,(hk g (.inl (h3 g rfl))).trans hb,h4,h5,h6,h7⟩,h.2⟩⟩
theorem Own.IL {w wr:World} {rs:List (bB w.heap.size)} (h:Own w wr rs):Own w wr (bS (.slice none 0 0) []::rs):=
 h.add (ah.refl _ wr) (r:=bS (.slice none 0 0) []) (G:=λ_=>False) ⟨⟨rfl,.inl ⟨rfl,rfl⟩⟩,λb hb=>by cases hb⟩ (λ_ hb=>hb.elim)
theorem Own.bytes {w wr:World} {rs:List (bB w.heap.size)} {v:Value} {l:aH} (h:Own w wr rs) (hm:bS v l ∈ rs):aC wr v l/\∃ a c,v= .slice a l.length c/\l.length<=c/\c<=maxLen:=by obtain ⟨F,h1,h2⟩:=h.mem hm;have hB:bQ (λb=>0<=b) wr v l:=kU h1.1;exact ⟨hB.reads,hB.aG⟩
theorem Own.grow {w wr:World} {rs:List (bB w.heap.size)} {v:Value} {l:aH} (h:Own w wr (bS v l::rs)) {pv:Value} {p:aH} (hp:aC wr pv p) (hb:l.length+p.length<=140737488355328): ∃ v' w',(Builtin.append_ #[22,22] 22 #[v,pv]).run Tryz.prog wr= .ok v' w'/\Own w w' (bS v' (l++p)::rs):=by
 obtain ⟨F,h1,h2,back⟩:=h.jT;obtain ⟨i0,hi,rS,iH,jO⟩:=info_parts jN;rcases hp with ⟨rfl,rfl⟩ | ⟨x,c,rfl,k1,k2,k3⟩
 ·refine ⟨v,wr,sX 22 22 22 5 i0 Tryz.underlying22 Tryz.underlying22 hi (by rw [iH]) (kU h1.1) (.inl ⟨rfl,rfl⟩), ?_⟩;rw [qh];exact h
 ·obtain ⟨v',w',aT,dy,hg,_,jP⟩:=run_append_own_at (P:=Tryz.prog) wr 0 22 22 5 i0 _ 1 1 Tryz.underlying22 hi rS iH jO (by rfl) (by omega) v l.length (l.map dF) h1.1 x p.length c (p.map dF) (by simp) k3 (wX _) (by unfold maxLen;omega) (by omega) (fC _);rw [<-mB,<-fS] at dy;refine ⟨v',w',aT,back w' (bS v' (l++p)) ((ah.fH hg).mono (λb hb e=>h1.2 b e)) ⟨dy,λb hb=> ?_⟩⟩;have aX:=(yA dy b hb).1;rcases jP with jP | jP
  ·rw [jP] at hb;exact .inl (h1.2 b hb)
  ·rw [jP] at hb;cases hb;exact .inr ⟨eQ _,aX⟩
theorem Own.ix {w wr w':World} {rs:List (bB w.heap.size)} (h:Own w wr rs) {v:Value} {l:aH} (ho:bC w' wr.heap.size v l) (hk:ak wr w'):Own w w' (bS v l::rs):=
 h.add hk (r:=bS v l) (G:=λb=>v.ownBlock=some b) ⟨Iy ho (fC _),λb hb=>hb⟩ (λb hb=>by have:=du ho b hb;omega)
def RowsIn (w:World) (v:Value) (ll:List aH):Prop:=
 ∃ a c,v= .slice a ll.length c/\∀ (i:Nat) (l:aH),ll[i]?=some l->∃ x p,a=some x/\w.cell? (x.add i)=some p/\aC w p l
theorem lB {f : FuncId} {fn : Func} {c : Code} (hf : Tryz.prog.funcs[f]? = some fn) (aa4 : (fn.name == "runtime.NumGoroutine") = false) (hb : fn.body = some c) (args : Array Value) (w : World) : (callFunc f args).run Tryz.prog w = .ok (.enter f args) w := by
 have h1 : fn.name ≠ "runtime.NumGoroutine" := by simpa using aa4
 simp [callFunc,hf,h1,hb,mark]
theorem aa5 {n:Int} (h:(Lit.int .u8 n).wf=true):dF (UInt8.ofNat n.toNat)= .int .u8 n/\0<=n/\n<=255:=by
 have h2:0<=n/\n<=255:=by simpa [Lit.wf,IntKind.min,IntKind.max,IntKind.signed,IntKind.bits] using h
 refine ⟨?_,h2⟩;unfold dF;rw [UInt8.toNat_ofNat'];congr 1;omega
theorem VQ {w:World} {A:Option Addr} {L C:Nat} {zs:List Int} (h1:L<=C) (h2:C<=maxLen) (h3:L<=zs.length) (h4:∀ n ∈ zs,(Lit.int .u8 n).wf=true) (h5:A=none->C=0) (h6:∀ a',A=some a'->∀ c,c <L->w.cell? (a'.add c)=some (.int .u8 (zs.getD c 0))):∃ p:aH,p.length=L/\aC w (.slice A L C) p:=by
 refine ⟨(zs.take L).map (λn=>UInt8.ofNat n.toNat),by simp;omega, ?_⟩;cases A with
 | none=>
  have:=h5 rfl;obtain rfl:C=0:=this;obtain rfl:L=0:=by omega
  exact .inl ⟨rfl,by simp⟩
 | some a=>
  have cU:((zs.take L).map (λn=>UInt8.ofNat n.toNat)).length=L:=by simp;omega
  refine .inr ⟨a,C,by rw [cU],by omega,h2,λj u hu=> ?_⟩;have hj:j <L:=by have:=(List.getElem?_eq_some_iff.1 hu).1;simp at this;omega
  have hz:zs[j]?=some (zs.getD j 0):=by rw [List.getD_eq_getElem?_getD,js (by omega)];rfl
  rw [jc,jc,Bc,if_pos hj,hz] at hu;simp only [Ar,im] at hu;rw [<-hu,(aa5 (h4 _ (kx hz))).1];exact h6 a rfl j hj
variable {H:Type} {enc:TypeId × Value->H}
theorem Sl {W:World} {a:Option Addr} {len cap:Nat} {d:DataW H} {p:List MemPlace} (h:DataW.Trod enc Tryz.prog W 0 (λ_=>true) true 22 (.slice a len cap) d p): ∃ l:aH,l.length=len/\aC W (.slice a len cap) l:=by
 obtain ⟨su,hf⟩:=h;rcases Go.ChangeShapes.open_ints Tryz.underlying22 Tryz.underlying5 (by kernel_rfl) hf with ⟨pS,_⟩ | ⟨x,l,c,zs,pS,_,hl,hm,hz,_,eh,hwz⟩
 ·simp [Value.cells] at pS;obtain ⟨rfl,rfl,rfl⟩:=pS;exact ⟨[],rfl,.inl ⟨rfl,rfl⟩⟩
 ·simp [Value.cells] at pS;obtain ⟨rfl,rfl,rfl⟩:=pS;simp only [if_true] at hz;exact VQ hl hm (by omega) hwz (λe=>by cases e) (λa' e c hc=>by cases e;exact eh c (by omega))
end Go.Proofs.YtlcnhpjggjgnpaaGreatDoor
namespace Go.Proofs.YtlcnhpjggjgnpaaGreatDoor
open Go.RowKit Go.MapKept Go.Deep
variable {H:Type} {enc:TypeId × Value->H}
theorem vY {t e:TypeId} {fs:Array Field} (ht:Tryz.prog.underlying t=some (.slice e)) (he:Tryz.prog.underlying e=some (.struct fs)) (AB:oneCellFields Tryz.prog fs=true) (hC:Tryz.prog.cellsOf e=fs.size) {W:World} {a:Option Addr} {len cap:Nat} {d:DataW H} {p:List MemPlace} (h:DataW.Trod enc Tryz.prog W 0 (λ_=>true) true t (.slice a len cap) d p): len<=cap/\cap<=maxLen/\∀ i,i <len->∃ x,a=some x/\∀ (j:Nat) (f:Field),fs[j]?=some f->∃ (v:Value) (d':DataW H) (p':List MemPlace),W.cell? (x.add (i*fs.size+j))=some v/\∃ n,DataW.trod enc Tryz.prog W 0 (λ_=>true) true n f.type [v]=some (d',p'):=by
 obtain ⟨su,hf⟩:=h;rcases Go.Deep.open_slice ht hf with ⟨pS,_⟩ | ⟨x,l,c,m,n,D,Pl,pS,_,hl,hm,C0,_,hi⟩
 ·simp [Value.cells] at pS;obtain ⟨rfl,rfl,rfl⟩:=pS;exact ⟨eQ _,fC _,λi h=>by omega⟩
 ·simp [Value.cells] at pS;obtain ⟨rfl,rfl,rfl⟩:=pS;simp only [if_true] at C0;refine ⟨hl,hm,λi aX=>⟨x,rfl,λj f hj=> ?_⟩⟩;obtain ⟨G9,hc,C3⟩:=hi i (by omega);rw [hC] at hc;obtain ⟨ys,n',_,_,_,hyl,AD⟩:=DataW.trod_struct he C3;obtain ⟨_,dI,jP⟩:=World.cells?_some hc;obtain ⟨ho,hk⟩:=Go.Deep.hone_of AB j f hj;have FF:j <fs.size:=(Array.getElem?_eq_some_iff.1 hj).1;have h1:=AD j f hj;rw [ho,hk] at h1;have e1:(G9.drop j).take 1=[G9[j]'(by omega)]:=by rw [pQ (by omega)];rfl
  rw [e1,js (by omega)] at h1;refine ⟨G9[j]'(by omega),(ys[j]'(by omega)).1,(ys[j]'(by omega)).2, ?_,n',h1⟩;rw [<-Go.Deep.add_add,jP j FF,js (by omega)]
theorem FN {W:World} {n:Nat} {v:Value} {y:DataW H × List MemPlace} (h:DataW.trod enc Tryz.prog W 0 (λ_=>true) true n 3 [v]=some y):∃ k:Int,v= .int .i64 k/\k<=9223372036854775807/\-9223372036854775808<=k:=by
 obtain ⟨k,hk,_,hw⟩:=DataW.trod_int Tryz.underlying3 h;simp at hk;have h2:-9223372036854775808<=k/\k<=9223372036854775807:=by simpa [Lit.wf,IntKind.min,IntKind.max,IntKind.signed,IntKind.bits] using hw
 exact ⟨k,hk,h2.2,h2.1⟩
theorem Em {W:World} {n:Nat} {v:Value} {y:DataW H × List MemPlace} (h:DataW.trod enc Tryz.prog W 0 (λ_=>true) true n 22 [v]=some y):∃ l:aH,aC W v l:=by
 have hv:∃ a len cap,v= .slice a len cap:=by
  rcases Go.ChangeShapes.open_ints Tryz.underlying22 Tryz.underlying5 (by kernel_rfl) h with ⟨pS,_⟩ | ⟨x,l,c,zs,pS,_⟩
  ·simp at pS;exact ⟨_,_,_,pS⟩
  ·simp at pS;exact ⟨_,_,_,pS⟩
 obtain ⟨a,len,cap,rfl⟩:=hv;obtain ⟨l,_,hr⟩:=Sl (enc:=enc) (W:=W) (a:=a) (len:=len) (cap:=cap) (d:=y.1) (p:=y.2) ⟨n,h⟩;exact ⟨l,hr⟩
end Go.Proofs.YtlcnhpjggjgnpaaGreatDoor
namespace Go.Proofs.YtlcnhpjggjgnpaaGreatDoor
open Go.RowKit Go.MapKept
def gB (n:Nat):UInt8:=if n <10 then UInt8.ofNat (48+n) else UInt8.ofNat (87+n)
def dA (l:aH):aH:=l.flatMap (λc=>[gB (c.toNat / 16),gB (c.toNat % 16)])
theorem oh (l m:aH):dA (l++m)=dA l++dA m:=by simp [dA]
theorem fU (l:aH):(dA l).length=2*l.length:=by
 induction l with
 | nil=>rfl
 | cons c l ih=>rw [show c::l=[c]++l from rfl,oh,fS,ih];simp [dA];omega
theorem nat_mask4 (n:Nat):n &&& 15=n % 16:=Nat.and_two_pow_sub_one_eq_mod n 4
theorem IM (n:Nat) (hn:n <16) (W:World):(Instr.index 9 (.string ⟨#[48,49,50,51,52,53,54,55,56,57,97,98,99,100,101,102]⟩) (.int .u8 (n:Int))).run Tryz.prog W= .ok (.int .u8 ((gB n).toNat:Int)) W:=by
 rw [run_index_string W 9 _ _ _ Tryz.underlying9];match n,hn with
 | 0,_=>rfl
 | 1,_=>rfl
 | 2,_=>rfl
 | 3,_=>rfl
 | 4,_=>rfl
 | 5,_=>rfl
 | 6,_=>rfl
 | 7,_=>rfl
 | 8,_=>rfl
 | 9,_=>rfl
 | 10,_=>rfl
 | 11,_=>rfl
 | 12,_=>rfl
 | 13,_=>rfl
 | 14,_=>rfl
 | 15,_=>rfl
 | n+16,hn=>omega
theorem aC.text {w:World} {v:Value} {l:aH} (h:aC w v l):(convert 22 9 v).run Tryz.prog w= .ok (.string ⟨l.toArray⟩) w:=by
 rcases h with ⟨rfl,rfl⟩ | ⟨x,c,rfl,h1,h2,h3⟩
 ·exact Lib.run_convert_nil_bytes w 22 9 5 0 Tryz.underlying22 Tryz.underlying5 Tryz.underlying9
 ·refine run_convert_bytes_back w 22 9 5 x c l Tryz.underlying22 Tryz.underlying5 Tryz.underlying9 (λj hj=> ?_);exact h3 j (dF l[j]) (by simp [hj])
theorem PH (w:World) (c d:UInt8):aC (w.alloc (.cells #[.int .u8 (c.toNat:Int),.int .u8 (d.toNat:Int)] 5)) (.slice (some ⟨w.heap.size,0,none⟩) 2 2) [c,d]:=by
 refine .inr ⟨_,2,rfl,eQ _,by simp [maxLen],λj u hu=> ?_⟩;rw [iV];match j,hu with
 | 0,hu=>
  simp only [kz,Av,vP,im] at hu;rw [<-hu];exact ag (heap_alloc_new w _) rfl
 | 1,hu=>
  simp only [kz,Av,Hn,vP,im] at hu;rw [<-hu];exact ag (heap_alloc_new w _) rfl
 | j+2,hu=>simp at hu
theorem En {w:World} {v:Value} {l:aH} (h:aC w v l) (hb:l.length<=65536):bF 71 #[v] w (bH w (.string ⟨(dA l).toArray⟩)):=by
 obtain ⟨a,c,rfl,iL,gy⟩:=h.aG;have H:=ae h;have j9:(l.length:Int)<=65536:=by omega
 clear h;obtain ⟨i0,hi,rS,iH,jO⟩:=info_parts jN;obtain ⟨w1,hmk,fT,Bu⟩:=run_make_own (P:=Tryz.prog) w w.heap.size 22 5 i0 _ 1 Tryz.underlying22 hi rS iH .i64 .i64 (2*l.length) (by rw [jO];omega) (by unfold maxLen;omega) (eQ _);have acL:(Instr.makeSlice 22 (.int .i64 0) (.int .i64 (2*(l.length:Int)))).run Tryz.prog w= .ok (.slice (some ⟨w.heap.size,0,none⟩) 0 (2*l.length)) w1:=by
  have:((2*l.length:Nat):Int)=2*(l.length:Int):=by omega
  rw [<-this];exact hmk
 have hO:bC w1 w.heap.size (.slice (some ⟨w.heap.size,0,none⟩) 0 (2*l.length)) []:=fT;have Ay:ak w w1:=(ah.fH Bu).mono (λb _ e=>by cases e);have HO:=ae hO;have HQ:=ae Ay;have HB:=ae hb;clear hmk hO Ay fT Bu hi rS iH jO hb;go_enter Tryz.func71,Tryz.ntmps71;go_wp2_with fail;go_loopw [3,12] (λav i wr=>∃ k:Nat,k<=l.length/\i= .int .i64 (k:Int)/\bC wr w.heap.size av (dA (l.take k))/\ak w wr) (λ_ i _=>l.length - (intOf i).toNat);case atStart=>exact ⟨0,fC _,rfl,HO.Z,HQ.Z⟩
 case round=>
  obtain ⟨k,hk,rfl,ho,hq⟩:=hrel;clear acL;obtain ⟨aa,ac,rfl,q1,q2⟩:=ho.bytes.aG;by_cases aX:k <l.length
  ·obtain ⟨x,rfl,hx⟩:=(H.Z.keep hq).cell rfl aX;have j0:=np k;have j1:(k:Int) <l.length:=by omega
   have dI:=l[k].toNat_lt;have gQ:dA (l.take (k+1))=dA (l.take k)++[gB (l[k].toNat / 16),gB (l[k].toNat % 16)]:=by rw [wS aX,oh];rfl
   have iI:ak wr (wr.drew.alloc (.cells #[.int .u8 ((gB (l[k].toNat / 16)).toNat:Int),.int .u8 ((gB (l[k].toNat % 16)).toNat:Int)] 5)):=((ah.refl _ wr).drew).alloc _;have hqz:=hq.size;obtain ⟨v',w3,aT,fy,dN⟩:=bC.grow (by simp only [World.size_alloc,World.drew];omega) (ho.keep iI) (PH wr.drew (gB (l[k].toNat / 16)) (gB (l[k].toNat % 16))) (by rw [fU,nM];simp only [iM,gN];omega);rw [<-gQ] at fy;have yw:ak w w3:=(hq.trans iI (λ_ _ e=>e)).trans dN (λb hb e=>by have:=du ho b e;omega);obtain ⟨VI,VJ,rfl,_,_⟩:=fy.bytes.aG;have HR:=ae (⟨k+1,by omega,rfl,fy,yw⟩:∃ k':Nat,k'<=l.length/\Value.int .i64 ((k+1:Nat):Int)= .int .i64 (k':Int)/\bC w3 w.heap.size _ (dA (l.take k'))/\ak w w3);have kA:=ae aT;have e1:(l[k].toNat:Int) / 16=((l[k].toNat / 16:Nat):Int):=by omega
   have e2:bits .and .u8 (l[k].toNat:Int) 15=((l[k].toNat % 16:Nat):Int):=by have:=u8_and_nat l[k].toNat 15 dI (by omega);rw [nat_mask4] at this;exact this
   have d1:=λW=>IM (l[k].toNat / 16) (by omega) W;have d2:=λW=>IM (l[k].toNat % 16) (by omega) W;generalize l[k].toNat / 16=n1 at e1 d1 kA;generalize l[k].toNat % 16=n2 at e2 d2 kA;generalize (gB n1).toNat=m1 at d1 kA;generalize (gB n2).toNat=m2 at d2 kA;generalize l[k].toNat=ck at hx dI e1 e2;clear ho hq iI fy dN yw aT gQ;go_wp2_with fail;go_region_law (first | (refine cP rfl _ _ _ _ rfl rfl rfl kA.Z ?_) | fail);all_goals
    clear d1 d2 e1 e2 hx;go_wp2;go_roundw;case rel=>exact HR.Z
    case measure=>simp [intOf];omega
  ·obtain rfl:k=l.length:=by omega
   rw [jX] at ho;have bG:=ho.bytes.reads.text;have e:(l.take l.length)=l:=jX;rw [e] at*;have HK:=ae hq;clear aX hk hq ho;go_wp2;go_ret;exact ⟨rfl,HK.Z⟩
theorem VR (g:Nat) (h:g <10):(gB g).toNat=48+g:=by unfold gB;rw [if_pos h];simp;omega
theorem VS (g:Nat) (h:¬g <10) (h2:g <16):(gB g).toNat=87+g:=by unfold gB;rw [if_neg h];simp;omega
theorem Bv {w:World} {v:Value} {l:aH} (h:aC w v l) (hb:l.length<=65536):bF 72 #[v] w (bH w (.string ⟨(dA l).toArray⟩)):=by
 obtain ⟨a,c,rfl,iL,gy⟩:=h.aG;have H:=ae h;have j9:(l.length:Int)<=65536:=by omega
 have HB:=ae hb;clear h hb;go_enter Tryz.func72,Tryz.ntmps72;go_wp2_with fail;go_loopw [3,4] (λav i wr=>∃ k:Nat,k<=l.length/\i= .int .i64 (k:Int)/\bC wr w.heap.size av (dA (l.take k))/\ak w wr) (λ_ i _=>l.length - (intOf i).toNat);case atStart=>exact ⟨0,fC _,rfl,bC.nil _ _,ah.refl _ _⟩
 case round=>
  obtain ⟨k,hk,rfl,ho,hq⟩:=hrel;obtain ⟨aa,ac,rfl,q1,q2⟩:=ho.bytes.aG;by_cases aX:k <l.length
  ·have j0:=np k;have j1:(k:Int) <l.length:=by omega
   have dI:=l[k].toNat_lt;have gQ:dA (l.take (k+1))=dA (l.take k)++[gB (l[k].toNat / 16),gB (l[k].toNat % 16)]:=by rw [wS aX,oh];rfl
   obtain ⟨dg,VT⟩:∃ dg:aH,dg=[gB (l[k].toNat / 16),gB (l[k].toNat % 16)]:=⟨_,rfl⟩;rw [<-VT] at gQ;have sO:=ae gQ;have HDG:=ae VT;have AE:(dA (l.take k)).length<=140000:=by have:=HB.Z;rw [fU,nM];omega
   have Ob:=ae AE;generalize dA (l.take k)=pre at ho sO Ob;have HO:=ae ho;have HQ:=ae hq;clear ho hq gQ VT AE;go_wp2_with fail;go_loopw [3,5] (λav j wx=>∃ i:Nat,i<=2/\j= .int .i64 (i:Int)/\bC wx w.heap.size av (pre++dg.take i)/\ak w wx) (λ_ j _=>2 - (intOf j).toNat);case atStart=>exact ⟨0,by omega,rfl,by rw [Au,qh];exact HO.Z,HQ.Z⟩
   case round=>
    obtain ⟨i,hi,rfl,ho,hq⟩:=hrel;obtain ⟨ab,ad,rfl,q3,q4⟩:=ho.bytes.aG;by_cases Rp:i <2
    ·obtain ⟨x,rfl,hx⟩:=(H.Z.keep hq).cell rfl aX;obtain ⟨g,hg,Y8,Ha⟩:∃ g,(i=0/\g=l[k].toNat / 16\/i=1/\g=l[k].toNat % 16)/\g <16/\dg.take (i+1)=dg.take i++[gB g]:=by
      have hd:=HDG.Z;match i,Rp with
      | 0,_=>exact ⟨_,.inl ⟨rfl,rfl⟩,by omega,by rw [hd];rfl⟩
      | 1,_=>exact ⟨_,.inr ⟨rfl,rfl⟩,by omega,by rw [hd];rfl⟩
     have iI:ak wr (wr.alloc (.cells #[.int .u8 ((gB g).toNat:Int)] 5)):=(ah.refl _ _).alloc _;have hqz:=hq.size;obtain ⟨v',w3,aT,fy,dN⟩:=bC.grow (by simp only [World.size_alloc];omega) (ho.keep iI) (gP wr (gB g)) (by have:=Ob.Z;have hd:=congrArg List.length HDG.Z;rw [fS,nM];simp only [iM,gN] at hd ⊢;omega);rw [lN,<-Ha] at fy;have yw:ak w w3:=(hq.trans iI (λ_ _ e=>e)).trans dN (λb hb e=>by have:=du ho b e;omega);obtain ⟨VI,VJ,rfl,-,-⟩:=fy.bytes.aG;have HR:=ae (⟨i+1,by omega,rfl,fy,yw⟩:∃ i':Nat,i'<=2/\Value.int .i64 ((i+1:Nat):Int)= .int .i64 (i':Int)/\bC w3 w.heap.size _ (pre++dg.take i')/\ak w w3);have kA:=ae aT;have m1:g <10->((gB g).toNat:Int)=48+g:=λh=>by rw [VR g h];omega
     have m2:¬g <10->((gB g).toNat:Int)=87+g:=λh=>by rw [VS g h Y8];omega
     generalize (gB g).toNat=mm at m1 m2 kA;generalize l[k].toNat=ck at hx dI hg;have M1:=ae m1;have M2:=ae m2;have IN:=ae Y8;clear ho hq iI fy dN yw aT Ha m1 m2 hqz q3 q4;obtain ⟨n1,Aw⟩:=cE (ck / 16);obtain ⟨n2,qw⟩:=cE (ck % 16);rw [<-Aw,<-qw] at hg;have e1:(ck:Int) / 16=(n1:Int):=by omega
     have e2:(ck:Int).tdiv 16=(n1:Int):=by rw [Int.tdiv_eq_ediv_of_nonneg (by omega)];omega
     have e3:(ck:Int) % 16=(n2:Int):=by omega
     have e4:(ck:Int).tmod 16=(n2:Int):=by rw [Vv (by omega)];omega
     have e5:IntKind.u8.wrap (n1:Int)=(n1:Int):=by rw [IntKind.wrap_u8];omega
     have e6:IntKind.u8.wrap (n2:Int)=(n2:Int):=by rw [IntKind.wrap_u8];omega
     clear Aw qw Y8 dI;generalize (pre++dg.take i).length=L1 at kA ⊢;generalize (pre++dg.take (i+1)).length=L2 at kA HR;rcases hg with ⟨rfl,rfl⟩ | ⟨rfl,rfl⟩
     ·rw [show ((0:Nat):Int)=0 from rfl];by_cases FO:g <10
      ·have d1:IntKind.u8.wrap (48+(g:Int))=(mm:Int):=by have:=M1.Z FO;rw [IntKind.wrap_u8];omega
       have d0:(g:Int) <10:=by omega
       clear M1 M2 FO IN;go_wp2_with (at_builtin;refine ao rfl _ _ _ _ rfl rfl rfl kA.Z ?_);go_roundw;case rel=>exact HR.Z
       case measure=>simp [intOf]
      ·obtain ⟨pp,C4⟩:=cE (97+g);have d1:IntKind.u8.wrap (97+(g:Int))=(pp:Int):=by have:=IN.Z;rw [IntKind.wrap_u8];omega
       have d2:IntKind.u8.wrap ((pp:Int) - 10)=(mm:Int):=by have:=IN.Z;have:=M2.Z FO;rw [IntKind.wrap_u8];omega
       have d0:¬(g:Int) <10:=by omega
       clear M1 M2 FO IN C4;go_wp2_with (at_builtin;refine ao rfl _ _ _ _ rfl rfl rfl kA.Z ?_);go_roundw;case rel=>exact HR.Z
       case measure=>simp [intOf]
     ·rw [show ((1:Nat):Int)=1 from rfl];by_cases FO:g <10
      ·have d1:IntKind.u8.wrap (48+(g:Int))=(mm:Int):=by have:=M1.Z FO;rw [IntKind.wrap_u8];omega
       have d0:(g:Int) <10:=by omega
       clear M1 M2 FO IN;go_wp2_with (at_builtin;refine ao rfl _ _ _ _ rfl rfl rfl kA.Z ?_);go_roundw;case rel=>exact HR.Z
       case measure=>simp [intOf]
      ·obtain ⟨pp,C4⟩:=cE (97+g);have d1:IntKind.u8.wrap (97+(g:Int))=(pp:Int):=by have:=IN.Z;rw [IntKind.wrap_u8];omega
       have d2:IntKind.u8.wrap ((pp:Int) - 10)=(mm:Int):=by have:=IN.Z;have:=M2.Z FO;rw [IntKind.wrap_u8];omega
       have d0:¬(g:Int) <10:=by omega
       clear M1 M2 FO IN C4;go_wp2_with (at_builtin;refine ao rfl _ _ _ _ rfl rfl rfl kA.Z ?_);go_roundw;case rel=>exact HR.Z
       case measure=>simp [intOf]
    ·obtain rfl:i=2:=by omega
     have cK:pre++dg.take 2=dA (l.take (k+1)):=by rw [sO.Z,sU (by have hd:=congrArg List.length HDG.Z;simp at hd;omega)]
     rw [cK] at ho;have qy:(pre++dg.take 2).length=(dA (l.take (k+1))).length:=by rw [cK]
     rw [qy];have HR:=ae (⟨k+1,by omega,rfl,ho,hq⟩:∃ k':Nat,k'<=l.length/\Value.int .i64 ((k+1:Nat):Int)= .int .i64 (k':Int)/\bC wr w.heap.size _ (dA (l.take k'))/\ak w wr);generalize (dA (l.take (k+1))).length=L1 at HR ⊢;rw [show ((2:Nat):Int)=2 from rfl];clear ho hq cK qy hi Rp q3 q4;go_wp2;go_roundw;case rel=>exact HR.Z
     case measure=>simp [intOf];omega
  ·obtain rfl:k=l.length:=by omega
   simp only [jX] at ho q1 ⊢;have bG:=ho.bytes.reads.text;have HK:=ae hq;clear aX hk hq ho;go_wp2;go_ret;exact ⟨rfl,HK.Z⟩
def keyOf (x:Nat):aD:=(⟨#[103,47]⟩:aD)++(⟨(dA (aL x 4)).toArray⟩:aD)
def dK (m:DM) (t:aD):Int × DM:=if (aE m t).1=6 then (0,(aE m t).2) else aE m t
def dT (t:aD) (b:aH):Nat->DM->Nat->Int × DM
 | 0,m,_=>(0,m)
 | f+1,m,i=>if i <b.length then (if (aM m t ((b.drop i).take 1048576)).1=0 then dT t b f (aM m t ((b.drop i).take 1048576)).2 (i+1048576) else aM m t ((b.drop i).take 1048576)) else (0,m)
def jh (m:DM) (t:aD) (b:aH):Int × DM:=dT t b (b.length / 1048576+1) m 0
theorem vZ {m:DM} {n:Nat} (h:Good m n) (t:aD):Good (dK m t).2 (n+1):=by unfold dK;split <;>exact h.dZ t
theorem Bw {t:aD} {b:aH}:∀ (f:Nat) {m:DM} {n i:Nat},Good m n->Good (dT t b f m i).2 (n+f)
 | 0,m,n,i,h=>h
 | f+1,m,n,i,h=>by
  rw [dT];split
  ·split
   ·have:=Bw (t:=t) (b:=b) f (i:=i+1048576) (h.append t ((b.drop i).take 1048576));rw [show n+(f+1)=n+1+f by omega];exact this
   ·exact (h.append t _).mono (by omega)
  ·exact h.mono (by omega)
section
variable {w wr:World} {d:Nat} {m:DM} {rs:List (bB w.heap.size)}
theorem Bx (h:Own w wr (bk d m::rs)) {n b3 wO:Nat} {t:aD} (hg:Good m n) (hn:n <1099511627776) (h3:aA b3 (.cells #[.pointer (some ⟨d,0,none⟩)] 30) ∈ rs) (C5:aA wO (.cells #[.string t] 9) ∈ rs): bF 160 #[.pointer (some ⟨b3,0,none⟩),.pointer (some ⟨wO,0,none⟩)] wr (pV w d rs (dK m t)):=by
 have c3:=ag (i:=0) (h.at (nO _ h3)).1 rfl;have c11:=ag (i:=0) (h.at (nO _ C5)).1 rfl;obtain ⟨w1,hr,h1⟩:=h.dZ t hg.cC (hg.aw hn);unfold dK;have H1:=ae h1;generalize (aE m t)=r at hr H1;obtain ⟨c,m'⟩:=r;by_cases hc:c=6
 ·subst hc;simp only [if_true];go_enter Tryz.func160,Tryz.ntmps160;go_wp2_with fail;refine hr.Z.mono ?_;rintro e w' ⟨rfl,rfl⟩;go_wp2;go_ret;exact ⟨rfl,H1.Z⟩
 ·simp only [hc,if_false];have hb:(c==6)=false:=by simpa using hc
  go_enter Tryz.func160,Tryz.ntmps160;go_wp2_with fail;refine hr.Z.mono ?_;rintro e w' ⟨rfl,rfl⟩;go_wp2;go_ret;exact ⟨rfl,H1.Z⟩
theorem LI (h:Own w wr (bk d m::rs)) {n b3 wO:Nat} {t:aD} (hg:Good m n) (hn:n <1099511627776) (h3:aA b3 (.cells #[.pointer (some ⟨d,0,none⟩)] 30) ∈ rs) (C5:aA wO (.cells #[.string t] 9) ∈ rs): bF 161 #[.pointer (some ⟨b3,0,none⟩),.pointer (some ⟨wO,0,none⟩)] wr (pV w d rs (aO m t)):=by have c3:=ag (i:=0) (h.at (nO _ h3)).1 rfl;have c11:=ag (i:=0) (h.at (nO _ C5)).1 rfl;obtain ⟨w1,hr,h1⟩:=h.fY t hg.cC (hg.aw hn);have H1:=ae h1;go_enter Tryz.func161,Tryz.ntmps161;go_wp2_with fail;refine hr.Z.mono ?_;rintro e w' ⟨rfl,rfl⟩;go_wp2;go_ret;exact ⟨rfl,H1.Z⟩
theorem Own.rename (h:Own w wr (bk d m::rs)) (n k:aD) (hf:m.cC<=9223372036854775807) (hl:m.aw.length <1099511627776): ∃ w',aW 84 #[.pointer (some ⟨d,0,none⟩),.string n,.string k] wr (.int .i64 (bw m n k).1) w'/\Own w w' (bk d (bw m n k).2::rs):=by obtain ⟨F,h1,back⟩:=h.lW;obtain ⟨w',hr,h2,k⟩:=zy h1 n k hf hl;exact ⟨w',hr,(back _ (.returned (.int .i64 (bw m n _).1)) w' ⟨rfl,h2,k⟩).2⟩
theorem LJ (h:Own w wr (bk d m::rs)) {n b3 wO b4:Nat} {t nm:aD} (hg:Good m n) (hn:n <1099511627776) (h3:aA b3 (.cells #[.pointer (some ⟨d,0,none⟩)] 30) ∈ rs) (C5:aA wO (.cells #[.string t] 9) ∈ rs) (h4:aA b4 (.cells #[.string nm] 9) ∈ rs): bF 162 #[.pointer (some ⟨b3,0,none⟩),.pointer (some ⟨wO,0,none⟩),.pointer (some ⟨b4,0,none⟩)] wr (pV w d rs (bw m t nm)):=by have c3:=ag (i:=0) (h.at (nO _ h3)).1 rfl;have c11:=ag (i:=0) (h.at (nO _ C5)).1 rfl;have c4:=ag (i:=0) (h.at (nO _ h4)).1 rfl;obtain ⟨w1,hr,h1⟩:=h.rename t nm hg.cC (hg.aw hn);have H1:=ae h1;go_enter Tryz.func162,Tryz.ntmps162;go_wp2_with fail;refine hr.Z.mono ?_;rintro e w' ⟨rfl,rfl⟩;go_wp2;go_ret;exact ⟨rfl,H1.Z⟩
theorem LK (h:Own w wr (bk d m::rs)) {n b3 wO b8:Nat} {t:aD} {bv:Value} {b:aH} (hg:Good m n) (hn:n+b.length <1099511627776) (h3:aA b3 (.cells #[.pointer (some ⟨d,0,none⟩)] 30) ∈ rs) (C5:aA wO (.cells #[.string t] 9) ∈ rs) (h8:aA b8 (.cells #[bv] 22) ∈ rs) (hb:bS bv b ∈ rs): bF 159 #[.pointer (some ⟨b8,0,none⟩),.pointer (some ⟨b3,0,none⟩),.pointer (some ⟨wO,0,none⟩)] wr (pV w d rs (jh m t b)):=by
 obtain ⟨ba,bc,rfl,hbc,hbm⟩:=(h.bytes (nO _ hb)).2;have hw0:∃ r,dT t b (b.length / 1048576+1) m 0=r:=⟨_,rfl⟩;obtain ⟨r,hr⟩:=hw0;unfold jh;rw [hr];have HR:=ae hr;have HO:=ae h;have HG:=ae hg;unfold maxLen at hbm;have i6:(b.length:Int)<=bc:=by omega
 clear h hg hr hbm hbc;go_enter Tryz.func159,Tryz.ntmps159;go_wp2_with fail;go_loopw [4] (λi wx=>∃ (k f:Nat) (m':DM) (n':Nat),i= .int .i64 (k:Int)/\Own w wx (bk d m'::rs)/\Good m' n'/\n'<=n+k/\dT t b f m' k=r/\b.length <k+f*1048576/\k<=b.length+1048576) (λi _=>b.length - (intOf i).toNat);case atStart=>exact ⟨0,b.length / 1048576+1,m,n,rfl,HO.Z,HG.Z,eQ _,HR.Z,by omega,by omega⟩
 case round=>
  obtain ⟨k,f,m',n',rfl,ho,hg,IP,C6,hf,qB⟩:=hrel;have c3:=ag (i:=0) (ho.at (nO _ h3)).1 rfl;have c11:=ag (i:=0) (ho.at (nO _ C5)).1 rfl;have c8:=ag (i:=0) (ho.at (nO _ h8)).1 rfl;have gm:=(ho.bytes (nO _ hb)).1;have j0:=np k;by_cases aX:k <b.length
  ·obtain ⟨f,rfl⟩:∃ f',f=f'+1:=⟨f - 1,by omega⟩;rw [dT,if_pos aX] at C6;obtain ⟨x,rfl⟩:∃ x,ba=some x:=by
    rcases gm with ⟨e,e2⟩ | ⟨x,c',e,_⟩
    ·subst e2;simp at aX
    ·cases e;exact ⟨x,rfl⟩
   obtain ⟨j,hj⟩:=cE (((b.drop k).take 1048576).length);have FF:j=if b.length <k+1048576 then b.length - k else 1048576:=by rw [hj,nM,iN];split <;>omega
   have VU:(if (b.length:Int) <(k:Int)+1048576 then (b.length:Int) else (k:Int)+1048576)=(k:Int)+(j:Int):=by rw [FF];split <;>split <;>omega
   have Y9:k+j<=b.length:=by rw [FF];split <;>omega
   have hj0:0 <j:=by rw [FF];split <;>omega
   have hcut:=gm.cut k j Y9;have sD:¬bc=k:=by omega
   rw [if_neg sD] at hcut;have hjt:(b.drop k).take j=(b.drop k).take 1048576:=by have:=jX (l:=(b.drop k).take 1048576);rw [<-hj,List.take_take] at this;rw [O9 (by rw [hj,nM];omega)] at this;exact this
   rw [hjt] at hcut;have kt:=(ho.drew).append t hcut hg.qz hg.nY hg.AA hg.cC (hg.aw (by omega));have Hb:=hg.append t ((b.drop k).take 1048576);generalize (b.drop k).take 1048576=p at kt Hb C6;have AF:=ae kt;have Rt:=ae Hb;have HWF:=ae C6;have i7:(k:Int)+j<=b.length:=by omega
   have i9:(b.length:Int)<=1099511627776:=by omega
   have i10:(k:Int) <b.length:=by omega
   have HX:=ae (⟨hn,qB,hf,IP,aX,Y9,kT Y9 (by omega)⟩:n+b.length <1099511627776/\k<=b.length+1048576/\b.length <k+(f+1)*1048576/\n'<=n+k/\k <b.length/\k+j<=b.length/\k+j<=bc);clear hn qB hf IP aX Y9;have acM:=ae VU;clear ho hg hcut kt Hb C6 hjt FF hj gm HR HO HG hj0 VU;go_wp2_with fail;have VU:=acM.Z;have VV:IntKind.i64.wrap ((k:Int)+1048576)=(k:Int)+1048576:=qi _ (by omega);have qy:=λw2=>qu w2 x b.length bc k j HX.Z.2.2.2.2.2.2;rw [if_neg sD] at qy;go_still_tail 10,(by kernel_rfl);change wpList _ _ _ _ _ (World.drew _);clear VU VV qy;go_wp2_with fail;refine AF.Z.mono ?_;rintro e w1 ⟨rfl,h1⟩;have H1:=ae h1;clear h1 AF;generalize hq:aM m' t p=q at H1 Rt HWF ⊢;obtain ⟨qc,qm⟩:=q;clear hq;by_cases PI:qc=0
   ·subst PI;have C6:=HWF.Z;simp only [if_true] at C6;have dE:=ae (⟨k+1048576,f,qm,n'+1,rfl,H1.Z,Rt.Z,by have:=HX.Z;omega,C6,by have:=HX.Z;omega,by have:=HX.Z;omega⟩:∃ (k' f':Nat) (m':DM) (n':Nat),Value.int .i64 ((k+1048576:Nat):Int)= .int .i64 (k':Int)/\Own w w1 (bk d m'::rs)/\Good m' n'/\n'<=n+k'/\dT t b f' m' k'=r/\b.length <k'+f'*1048576/\k'<=b.length+1048576);have VV:IntKind.i64.wrap ((k:Int)+1048576)=(k:Int)+1048576:=qi _ (by omega);have IQ:=ae (show b.length - ((k:Int)+1048576).toNat <b.length - (k:Int).toNat by have:=HX.Z;omega);clear C6 H1 Rt HWF i6 i7 i9 i10;go_wp2;go_roundw;case rel=>exact dE.Z
    case measure=>exact IQ.Z
   ·have C6:=HWF.Z;simp only [PI,if_false] at C6;have HE:=ae C6;have AW:(qc !=0)=true:=by simpa using PI
    clear Rt HWF i6 i7 i9 i10 C6 PI sD c3 c8 c11 j0;go_wp2;go_ret;rw [<-HE.Z];exact ⟨rfl,H1.Z⟩
  ·have wM:=ae ho;have e:(0,m')=r:=by
    rw [<-C6];cases f with
    | zero=>rfl
    | succ f=>rw [dT,if_neg aX]
   have HE:=ae e;clear ho C6 hg IP hf e HR HO HG;go_wp2;go_ret;rw [<-HE.Z];exact ⟨rfl,wM.Z⟩
end
def cA:List (DM->Int × DM)->DM->Int × DM
 | [],m=>(0,m)
 | f::fs,m=>if (f m).1=0 then cA fs (f m).2 else f m
theorem mY {K:Nat}:∀ (fs:List (DM->Int × DM)) {m:DM} {n:Nat},(∀ f ∈ fs,∀ m j,Good m j->Good (f m).2 (j+K))->Good m n->Good (cA fs m).2 (n+fs.length*K)
 | [],m,n,_,h=>by simpa [cA] using h
 | f::fs,m,n,hf,h=>by
  have h1:=hf f (gw ..) m n h;rw [cA,iM];split
  ·have:=mY fs (λg hg=>hf g (nO _ hg)) h1;rw [show n+(fs.length+1)*K=n+K+fs.length*K by rw [Nat.add_mul];omega];exact this
  ·exact h1.mono (by rw [Nat.add_mul];omega)
theorem C7 {fs:List (DM->Int × DM)} {k:Nat} {f:DM->Int × DM} (h:fs[k]?=some f) (m:DM):cA (fs.drop k) m=if (f m).1=0 then cA (fs.drop (k+1)) (f m).2 else f m:=by obtain ⟨hk,rfl⟩:=List.getElem?_eq_some_iff.1 h;rw [pQ hk];rfl
section
variable {w wr:World} {d:Nat} {m:DM} {rs:List (bB w.heap.size)}
theorem By (h:Own w wr (bk d m::rs)) {n:Nat} (hg:Good m n) (fs:List (DM->Int × DM)) (AD:fs.length<=1000) (Sk:Nat->FuncId) (fst cap:Nat->Array Value) (g c:Nat) (K:Nat) {row:Array Value} {T:TypeId} (fN:aA g (.cells row T) ∈ rs) (je:∀ k,k <fs.length->row[k]?=some (.func (.func (Sk k)) (fst k) (cap k))) (RY:∀ k args w',(callFunc (Sk k) args).run Tryz.prog w'= .ok (.enter (Sk k) args) w') (Eo:∀ f ∈ fs,∀ m j,Good m j->Good (f m).2 (j+K)) (gA:∀ k f w' m' j,fs[k]?=some f->Own w w' (bk d m'::rs)->Good m' j->j<=n+fs.length*K->bF (Sk k) (fst k++cap k) w' (pV w d rs (f m'))): bF 117 #[.slice (some ⟨g,0,none⟩) fs.length c] wr (pV w d rs (cA fs m)):=by
 refine (IJ g fs.length c Sk fst cap (λk w'=>∃ m' j,Own w w' (bk d m'::rs)/\Good m' j/\j<=n+k*K/\cA (fs.drop k) m'=cA fs m)
  (λr w'=>r=(cA fs m).1/\Own w w' (bk d (cA fs m).2::rs)) AD ⟨m,n,h,hg,by omega,by simp⟩ RY ?_ ?_ ?_).mono ?_
 ·rintro k w' hk ⟨m',j,ho,_⟩;exact ag (ho.at (nO _ fN)).1 (je k hk)
 ·rintro k w' hk ⟨m',j,ho,LL,hj,hr⟩;obtain ⟨f,hf⟩:∃ f,fs[k]?=some f:=⟨fs[k],js hk⟩;have hkK:k*K<=fs.length*K:=Ho K (by omega);have hd:=C7 hf m';rw [hr] at hd;refine (gA k f w' m' j hf ho LL (by omega)).mono ?_;rintro e w'' ⟨rfl,dy⟩;refine ⟨_,rfl,λh0=>⟨_,j+K,dy,Eo f (kx hf) m' j LL,by rw [Nat.add_mul];omega, ?_⟩,λh0=> ?_⟩
  ·rw [if_pos h0] at hd;exact hd.symm
  ·rw [if_neg h0] at hd;rw [hd];exact ⟨rfl,dy⟩
 ·rintro w' ⟨m',j,ho,_,_,hr⟩;rw [pR] at hr;rw [<-hr];exact ⟨rfl,ho⟩
 ·rintro e w' ⟨r,rfl,rfl,ho⟩;exact ⟨rfl,ho⟩
end
theorem IU {B B':Nat} {w:World} (hB:B'<=B):∀ {Fs:List (Nat->Prop)} {rs:List (bB B)} {rs':List (bB B')},dX (xj B w) Fs rs->dX (λ(r:bB B) (r':bB B')=>∀ F,r.is F w->r'.is F w) rs rs'->dX (xj B' w) Fs rs'
 | [],[],[],_,_=>trivial
 | F::Fs,r::rs,r'::rs',h,k=>⟨⟨k.1 F h.1.1,λb hb=>⟨kT hB (h.1.2 b hb).1,(h.1.2 b hb).2⟩⟩,IU hB h.2 k.2⟩
 | [],_::_,_,h,_=>h.elim
 | _::_,[],_,h,_=>h.elim
 | [],[],_::_,_,k=>k.elim
 | _::_,_::_,[],_,k=>k.elim
theorem Own.join {w wr wx:World} {rs:List (bB w.heap.size)} (h:Own w wr rs) {ns:List (bB wr.heap.size)} (k:Own wr wx ns) (ns':List (bB w.heap.size)) (hc:dX (λ(r:bB wr.heap.size) (r':bB w.heap.size)=>∀ F,r.is F wx->r'.is F wx) ns ns'):Own w wx (ns'++rs):=by obtain ⟨k1,Gs,g1,g2⟩:=k;obtain ⟨h1,Fs,f1,f2⟩:=h.quiet k1;obtain ⟨k0,Fs0,e1,e2⟩:=h;refine ⟨h1,Gs++Fs0,dX.append (IU k0.size g1 hc) (mI k0.size k1 (λ_ e=>e.elim) e1 (λ_ _ _ _ e=>e)), ?_⟩;rw [List.pairwise_append];refine ⟨g2,e2,λF hF G hG b hb pg=> ?_⟩;have a1:=lA g1 F hF b hb;have a2:=lA e1 G hG b pg;omega
def bj (nm:aD):aD:=nm++⟨#[43]⟩
def dS (nm:aD) (b:aH):List (DM->Int × DM):=
 [λm=>dK m (bj nm),λm=>aO m (bj nm),λm=>jh m (bj nm) b,aV,λm=>bw m (bj nm) nm,aV]
def tA (t:aD) (r:Int × DM):Int × DM:=if r.1=4 then (if (dK r.2 t).1=0 then (4,(dK r.2 t).2) else dK r.2 t) else r
def mz (m:DM) (nm:aD) (b:aH):Int × DM:=tA (bj nm) (cA (dS nm b) m)
theorem pW (nm:aD) (b:aH):∀ f ∈ dS nm b,∀ m j,Good m j->Good (f m).2 (j+(b.length+1)):=by
 intro f hf m j h;simp only [dS,Hu,List.not_mem_nil,or_false] at hf;rcases hf with rfl | rfl | rfl | rfl | rfl | rfl
 ·exact (vZ h _).mono (by omega)
 ·exact (h.fY _).mono (by omega)
 ·exact (Bw _ h).mono (by omega)
 ·exact h.sync.mono (by omega)
 ·exact (h.rename _ _).mono (by omega)
 ·exact h.sync.mono (by omega)
theorem IV {r:Int × DM} {n:Nat} (h:Good r.2 n) (t:aD):Good (tA t r).2 (n+1):=by
 unfold tA;split
 ·split
  ·exact vZ h t
  ·exact vZ h t
 ·exact h.mono (by omega)
theorem Sm {m:DM} {n:Nat} (h:Good m n) (nm:aD) (b:aH):Good (mz m nm b).2 (n+6*(b.length+1)+1):=IV (mY _ (pW nm b) h) _
theorem Bz (nm:aD) (w:World) (hn:nm.size<=65536):aW 116 #[.string nm] w (.string (bj nm)) w:=by have PJ:(Op.stringOp .add nm ⟨#[43]⟩).run Tryz.prog w= .ok (.string (nm++⟨#[43]⟩)) w:=run_string_add_sum w nm ⟨#[43]⟩ (by change nm.size+1<=_;omega);unfold aW;go_enter Tryz.func116,Tryz.ntmps116;go_wp2;go_ret;exact ⟨rfl,rfl⟩
def Oc (w:World) (d:Nat) (rs:List (bB w.heap.size)) (n:Int) (r:Int × DM) (e:Ending) (w':World):Prop:=e= .returned (.tuple #[.int .i64 n,.int .i64 r.1])/\Own w w' (bk d r.2::rs)
theorem ji {ll:List aH} {k:Nat} {l:aH} (h:ll[k]?=some l):aj (ll.take (k+1))=aj (ll.take k)++bu l:=by rw [ym,h,lg];simp [aj]
theorem mK (ll:List aH) (k:Nat):(aj (ll.take k)).length<=(aj ll).length:=by
 have:aj ll=aj (ll.take k)++aj (ll.drop k):=by rw [<-lg,List.take_append_drop]
 rw [this,fS];omega
theorem Ep {ll:List aH} {k:Nat} {l:aH} (h:ll[k]?=some l):l.length<=(aj ll).length:=by have:=mK ll (k+1);rw [ji h,fS,dh] at this;omega
def LM (wr wx:World) (b8 b4 b3:Nat) (nm:aD) (d:Nat) (l:aH):Prop:=
 ∃ bv,Own wr wx [aA b8 (.cells #[bv] 22),bS bv l,aA b4 (.cells #[.string nm] 9),aA b3 (.cells #[.pointer (some ⟨d,0,none⟩)] 30)]
theorem Sn {w0 wr:World} {b8 b4 b3 d:Nat} {nm:aD} {bv:Value} {l fr:aH} (ho:Own w0 wr [aA b8 (.cells #[bv] 22),bS bv l,aA b4 (.cells #[.string nm] 9),aA b3 (.cells #[.pointer (some ⟨d,0,none⟩)] 30)]) (hb:l.length+fr.length<=140737488355328):∀ v1 w1,bC w1 wr.heap.size v1 fr->ak wr.drew w1-> ∃ a2 c2 w2,(Builtin.append_ #[22,22] 22 #[bv,v1]).run Tryz.prog w1= .ok (.slice a2 (l++fr).length c2) w2/\(w2.cell? ⟨b8,0,none⟩=some bv/\w2.frozen? ⟨b8,0,none⟩=false)/\ LM w0 (w2.setCell ⟨b8,0,none⟩ (.slice a2 (l++fr).length c2)) b8 b4 b3 nm d (l++fr):=by intro v1 w1 fT bN;have h1:=ho.drew.quiet bN;obtain ⟨v',w2,aT,h2⟩:=h1.swap.grow fT.bytes.reads hb;have h3:=h2.swap;obtain ⟨a2,c2,rfl,_,_⟩:=(h2.bytes (gw ..)).2;have hc:=(h3.at (gw ..)).1;have h4:=h3.store 0 (.slice a2 (l++fr).length c2);exact ⟨a2,c2,w2,aT,⟨ag hc rfl,cL hc 0⟩,_,h4⟩
def LN:Nat->FuncId
 | 0=>160
 | 1=>161
 | 2=>159
 | 4=>162
 | _=>49
def Za (d:Nat):Nat->Array Value
 | 0=>#[]
 | 1=>#[]
 | 2=>#[]
 | 4=>#[]
 | _=>#[.pointer (some ⟨d,0,none⟩)]
def Zb (b3 wO b8 b4:Nat):Nat->Array Value
 | 0=>#[.pointer (some ⟨b3,0,none⟩),.pointer (some ⟨wO,0,none⟩)]
 | 1=>#[.pointer (some ⟨b3,0,none⟩),.pointer (some ⟨wO,0,none⟩)]
 | 2=>#[.pointer (some ⟨b8,0,none⟩),.pointer (some ⟨b3,0,none⟩),.pointer (some ⟨wO,0,none⟩)]
 | 4=>#[.pointer (some ⟨b3,0,none⟩),.pointer (some ⟨wO,0,none⟩),.pointer (some ⟨b4,0,none⟩)]
 | _=>#[]
def yC (d b3 wO b8 b4:Nat):Array Value:=
 #[.func (.func 160) #[] #[.pointer (some ⟨b3, 0, none⟩), .pointer (some ⟨wO, 0, none⟩)], .func (.func 161) #[] #[.pointer (some ⟨b3, 0, none⟩), .pointer (some ⟨wO, 0, none⟩)],
  .func (.func 159) #[] #[.pointer (some ⟨b8,0,none⟩),.pointer (some ⟨b3,0,none⟩),.pointer (some ⟨wO,0,none⟩)],.func (.func 49) #[.pointer (some ⟨d,0,none⟩)] #[],
  .func (.func 162) #[] #[.pointer (some ⟨b3,0,none⟩),.pointer (some ⟨wO,0,none⟩),.pointer (some ⟨b4,0,none⟩)],.func (.func 49) #[.pointer (some ⟨d,0,none⟩)] #[]]
theorem LO (k:Nat) (args:Array Value) (w:World):(callFunc (LN k) args).run Tryz.prog w= .ok (.enter (LN k) args) w:=by
 match k with
 | 0=>exact lB Tryz.func160 (by kernel_rfl) rfl args w
 | 1=>exact lB Tryz.func161 (by kernel_rfl) rfl args w
 | 2=>exact lB Tryz.func159 (by kernel_rfl) rfl args w
 | 3=>exact lB Tryz.func49 (by kernel_rfl) rfl args w
 | 4=>exact lB Tryz.func162 (by kernel_rfl) rfl args w
 | k+5=>exact lB Tryz.func49 (by kernel_rfl) rfl args w
theorem PK {w w2:World} {d:Nat} {m:DM} {RS:List (bB w.heap.size)} (h:Own w w2 (bk d m::RS)) {n:Nat} (hg:Good m n) {nm:aD} {B:aH} (hn:n+7*(B.length+1)+1 <1099511627776) {g b3 wO b8 b4:Nat} {bv:Value} {T:TypeId} (fN:aA g (.cells (yC d b3 wO b8 b4) T) ∈ RS) (h3:aA b3 (.cells #[.pointer (some ⟨d,0,none⟩)] 30) ∈ RS) (C5:aA wO (.cells #[.string (bj nm)] 9) ∈ RS) (h8:aA b8 (.cells #[bv] 22) ∈ RS) (hb:bS bv B ∈ RS) (h4:aA b4 (.cells #[.string nm] 9) ∈ RS): bF 117 #[.slice (some ⟨g,0,none⟩) 6 6] w2 (pV w d RS (cA (dS nm B) m)):=by
 refine By h hg (dS nm B) (by simp [dS]) LN (Za d) (Zb b3 wO b8 b4) g 6 (B.length+1) fN ?_ LO (pW nm B) ?_
 ·intro k hk;match k,hk with
  | 0,_=>rfl
  | 1,_=>rfl
  | 2,_=>rfl
  | 3,_=>rfl
  | 4,_=>rfl
  | 5,_=>rfl
  | k+6,hk=>simp only [dS,iM,gN] at hk;omega
 ·intro k f w' m' j hf ho LL hj;have Zc:j <1099511627776:=by simp only [dS,iM,gN] at hj;omega
  have hj3:j+B.length <1099511627776:=by simp only [dS,iM,gN] at hj;omega
  match k,hf with
  | 0,hf=>simp only [dS,vP,im] at hf;subst hf;exact Bx ho LL Zc h3 C5
  | 1,hf=>simp only [dS,Hn,vP,im] at hf;subst hf;exact LI ho LL Zc h3 C5
  | 2,hf=>simp only [dS,Hn,vP,im] at hf;subst hf;exact LK ho LL hj3 h3 C5 h8 hb
  | 3,hf=>simp only [dS,Hn,vP,im] at hf;subst hf;exact ho.sync LL.cC LL.fits1
  | 4,hf=>simp only [dS,Hn,vP,im] at hf;subst hf;exact LJ ho LL Zc h3 C5 h4
  | 5,hf=>simp only [dS,Hn,vP,im] at hf;subst hf;exact ho.sync LL.cC LL.fits1
  | k+6,hf=>simp [dS] at hf
theorem nB {ops:Array Oper} {o:Oper} {a:Act} {X E:Prop} (hg:o.guard=none) (h:X):if Region.wanted o (yielded ops a.tmps)=true then X else E:=by rw [if_pos (by simp [Region.wanted,hg])];exact h
theorem PL {w w0:World} {d:Nat} {m:DM} {rs:List (bB w.heap.size)} (h:Own w w0 (bk d m::rs)) {n:Nat} (hg:Good m n) (nm:aD) (qf:nm.size<=65536) {v:Value} {ll:List aH} (hr:RowsIn w0 v ll) (hn:n+7*((aj ll).length+1)+1 <1099511627776): bF 120 #[.pointer (some ⟨d,0,none⟩),.string nm,v] w0 (Oc w d rs ((aj ll).length:Int) (mz m nm (aj ll))):=by
 obtain ⟨a,c,rfl,zA⟩:=hr;have Er:LM w0 (((w0.alloc (.cells #[.pointer (some ⟨d,0,none⟩)] 30)).alloc (.cells #[.string nm] 9)).alloc (.cells #[.slice none 0 0] 22)) (w0.heap.size+2) (w0.heap.size+1) w0.heap.size nm d []:=by have h1:=(((Own.start w0).alloc (.cells #[.pointer (some ⟨d,0,none⟩)] 30)).alloc (.cells #[.string nm] 9)).IL.alloc (.cells #[.slice none 0 0] 22);simp only [World.size_alloc] at h1;exact ⟨_,h1⟩
 have cU:ll.length<=(aj ll).length:=by
  clear zA hn Er;induction ll with
  | nil=>exact fC _
  | cons p ll ih=>rw [kV,fS,dh,iM];omega
 have j9:(ll.length:Int)<=1099511627776:=by omega
 have HN:=ae hn;have HO:=ae h;have HG:=ae hg;have HR:=ae zA;have Zd:=ae Er;clear h hg zA Er hn cU;go_enter Tryz.func120,Tryz.ntmps120;go_wp2_with fail;go_loopw [18] (λi wx=>∃ k:Nat,k<=ll.length/\i= .int .i64 (k:Int)/\LM w0 wx (w0.heap.size+2) (w0.heap.size+1) w0.heap.size nm d (aj (ll.take k))) (λi _=>ll.length - (intOf i).toNat);case atStart=>exact ⟨0,fC _,rfl,Zd.Z⟩
 case round=>
  obtain ⟨k,hk,rfl,bv,ho⟩:=hrel;have LP:=ho.at (gw ..);have c8:=ag (i:=0) LP.1 rfl;have sB:=ho.keeps;by_cases aX:k <ll.length
  ·obtain ⟨l,hl⟩:∃ l,ll[k]?=some l:=⟨ll[k],js aX⟩;obtain ⟨x,p,rfl,Ze,gm⟩:=HR.Z k l hl;have adN:wr.cell? (x.add k)=some p:=by rw [kK (sB.block _ (wT w0 _ Ze) (λe=>e))];exact Ze
   have AD:=ji hl;have AE:=Ep hl;have lf:=mK ll (k+1);have hN:=HN.Z;rw [AD,fS,dh] at lf;have po:=zq ((gm.keep sB).keep (ah.refl _ wr).drew) (by omega);have FP:=Sn ho (fr:=bu l) (by rw [dh];omega);obtain ⟨pa,pc,rfl,_,_⟩:=gm.aG;have c8d:wr.drew.cell? ⟨w0.heap.size+2,0,none⟩=some bv:=c8;rw [<-AD] at FP;generalize bu l=fr at po FP;have Va:=ae po;have HGR:=ae FP;have j0:=np k;have j1:(k:Int) <ll.length:=by omega
   have ck:∀ w1:World,ak wr.drew w1->w1.cell? ⟨w0.heap.size+2,0,none⟩=some bv:=λw1 hk=>(kK (w:=wr.drew) (hk.block _ LP.2.2 (λe=>e))).trans c8;have CK:=ae ck;clear ho po FP sB lf AE AD hN gm Ze ck LP hk aX;go_wp2_with fail;go_region_law (first | (refine nB rfl ?_;go_simp;go_at_call 155;refine Va.Z.mono ?_;rintro e w1 ⟨v1,rfl,fT,bN⟩;have c8w:=CK.Z _ bN) | (obtain ⟨a2,c2,w2,aT,eh,hrel⟩:=HGR.Z _ _ fT bN;refine cP rfl _ _ _ _ rfl rfl rfl aT ?_) | fail);all_goals
    have dE:=ae hrel;clear hrel aT eh fT bN;go_wp2;go_roundw;case rel=>exact ⟨k+1,by omega,rfl,dE.Z⟩
    case measure=>simp [intOf];omega
  ·obtain rfl:k=ll.length:=by omega
   rw [jX] at ho;have c4:=ag (i:=0) (ho.at (b:=w0.heap.size+1) (o:= .cells #[.string nm] 9) (by simp)).1 rfl;have c3:=ag (i:=0) (ho.at (b:=w0.heap.size) (o:= .cells #[.pointer (some ⟨d,0,none⟩)] 30) (by simp)).1 rfl;obtain ⟨ba,bc,rfl,_,_⟩:=(ho.bytes (v:=bv) (l:=aj ll) (by simp)).2;have Sp:=Bz nm wr qf;generalize hB:aj ll=B at*;have HOO:=ae ho;have rS:w0.heap.size <wr.heap.size:=by omega
   clear aX hk ho sB hB qf LP;go_wp2_with fail;refine Sp.Z.mono ?_;rintro e w' ⟨rfl,rfl⟩;go_wp2_with fail;obtain ⟨RS,Ru⟩:∃ RS:List (bB w.heap.size),RS=[aA (wr.heap.size+1) (.cells (yC d w0.heap.size wr.heap.size (w0.heap.size+1+1) (w0.heap.size+1)) 120),aA wr.heap.size (.cells #[.string (bj nm)] 9),aA (w0.heap.size+1+1) (.cells #[.slice ba B.length bc] 22),bS (.slice ba B.length bc) B,aA (w0.heap.size+1) (.cells #[.string nm] 9),aA w0.heap.size (.cells #[.pointer (some ⟨d,0,none⟩)] 30)]++rs:=⟨_,rfl⟩;have hJ:Own w ((wr.alloc (.cells #[.string (bj nm)] 9)).alloc (.cells (yC d w0.heap.size wr.heap.size (w0.heap.size+1+1) (w0.heap.size+1)) 120)) (bk d m::RS):=by
    have h1:=(HOO.Z.alloc (.cells #[.string (bj nm)] 9)).alloc (.cells (yC d w0.heap.size wr.heap.size (w0.heap.size+1+1) (w0.heap.size+1)) 120);simp only [World.size_alloc] at h1;have h2:=HO.Z.join h1 [aA (wr.heap.size+1) (.cells (yC d w0.heap.size wr.heap.size (w0.heap.size+1+1) (w0.heap.size+1)) 120),aA wr.heap.size (.cells #[.string (bj nm)] 9),aA (w0.heap.size+1+1) (.cells #[.slice ba B.length bc] 22),bS (.slice ba B.length bc) B,aA (w0.heap.size+1) (.cells #[.string nm] 9),aA w0.heap.size (.cells #[.pointer (some ⟨d,0,none⟩)] 30)]
     ⟨λ_ h=>h,λ_ h=>h,λ_ h=>h,λ_ h=>h,λ_ h=>h,λ_ h=>h,trivial⟩
    rw [Ru];exact h2.perm lO
   have bG:=PK (nm:=nm) (B:=B) (g:=wr.heap.size+1) (b3:=w0.heap.size) (wO:=wr.heap.size) (b8:=w0.heap.size+1+1) (b4:=w0.heap.size+1) (bv:= .slice ba B.length bc) (T:=120) hJ HG.Z HN.Z (by rw [Ru];simp) (by rw [Ru];simp) (by rw [Ru];simp) (by rw [Ru];simp) (by rw [Ru];simp) (by rw [Ru];simp);have Ha:=mY (dS nm B) (pW nm B) HG.Z;have dI:=λ(w3:World) (m3:DM) (j:Nat) (h:Own w w3 (bk d m3::RS)) (hg3:Good m3 j) (hj:j <1099511627776)=>Bx (t:=bj nm) (b3:=w0.heap.size) (wO:=wr.heap.size) h hg3 hj (by rw [Ru];simp) (by rw [Ru];simp);have Vb:∀ (w3:World) (m3:DM),Own w w3 (bk d m3::RS)->w3.cell? ⟨w0.heap.size+1+1,0,none⟩=some (.slice ba B.length bc):=λw3 m3 h=>ag (i:=0) (h.at (b:=w0.heap.size+1+1) (o:= .cells #[.slice ba B.length bc] 22) (by rw [Ru];simp)).1 rfl;have Od:∀ (w3:World) (m3:DM),Own w w3 (bk d m3::RS)->Own w w3 (bk d m3::rs):=λw3 m3 h=>by rw [Ru] at h;exact (h.perm (List.perm_middle.symm)).drop.drop.drop.drop.drop.drop
   have rV:=ae dI;have Zf:=ae Vb;have HBK:=ae Od;have Vc:=ae Ha;unfold yC at bG;have pw:mz m nm B=tA (bj nm) (cA (dS nm B) m):=rfl;generalize cA (dS nm B) m=r at bG Vc pw;have fP:=ae bG;have Sq:=ae pw;clear pw dI Vb Od Ha bG hJ Ru c4 c3 c8 Sp;refine fP.Z.mono ?_;rintro e w3 ⟨rfl,h3⟩;have c8:=Zf.Z w3 _ h3;have H3:=ae h3;clear h3 fP;obtain ⟨rc,rm⟩:=r;by_cases h4:rc=4
   ·subst h4;have hc:=rV.Z w3 rm _ H3.Z Vc.Z (by have:=HN.Z;simp only [dS,iM,gN];omega);have HC:=ae hc;clear hc;go_wp2_with fail;refine HC.Z.mono ?_;rintro e w4 ⟨rfl,h5⟩;have c8':=Zf.Z w4 _ h5;have H5:=ae (HBK.Z _ _ h5);clear h5 HC c8;have pw:=Sq.Z;simp only [tA,if_true] at pw;generalize dK rm (bj nm)=q at H5 pw ⊢;obtain ⟨qc,qm⟩:=q;by_cases hq:qc=0
    ·subst hq;simp only [if_true] at pw;have HE:=ae pw;clear pw Sq;go_wp2;go_ret2;unfold Oc;rw [HE.Z];exact ⟨rfl,H5.Z⟩
    ·simp only [hq,if_false] at pw;have HE:=ae pw;have AW:(qc !=0)=true:=by simpa using hq
     clear hq pw Sq;go_wp2;go_ret2;unfold Oc;rw [HE.Z];exact ⟨rfl,H5.Z⟩
   ·have pw:=Sq.Z;simp only [tA,h4,if_false] at pw;have HE:=ae pw;have AW:(rc==4)=false:=by simpa using h4
    have H5:=ae (HBK.Z _ _ H3.Z);clear h4 pw Sq;go_wp2;go_ret2;unfold Oc;rw [HE.Z];exact ⟨rfl,H5.Z⟩
def lm (B:Nat) (F:Nat->Prop) (w:World) (p:Value) (l:aH):Prop:=
 ∃ (a:Option Addr) (c:Nat),p= .slice a l.length c/\l.length<=c/\c<=maxLen/\(a=none->c=0)/\∀ x,a=some x->(l≠ []->F x.block\/x.block <B)/\∀ j u,(l.map dF)[j]?=some u->w.cell? (x.add j)=some u
theorem add_block (x:Addr) (j:Nat):(x.add j).block=x.block:=by unfold Addr.add;split <;>rfl
theorem lm.keep {B:Nat} {F:Nat->Prop} {w w':World} {p:Value} {l:aH} (h:lm B F w p l) (hk:∀ b,F b\/b <B->w'.heap[b]?=w.heap[b]?):lm B F w' p l:=by
 obtain ⟨a,c,h1,h2,h3,h4,h5⟩:=h;refine ⟨a,c,h1,h2,h3,h4,λx hx=>⟨(h5 x hx).1,λj u hu=> ?_⟩⟩;have dO:l≠ []:=by rintro rfl;simp at hu
 have:=hk _ ((h5 x hx).1 dO);rw [<-add_block x j] at this;rw [kK this];exact (h5 x hx).2 j u hu
theorem lm.wider {B:Nat} {F G:Nat->Prop} {w:World} {p:Value} {l:aH} (h:lm B F w p l) (pz:∀ b,F b->G b):lm B G w p l:=by obtain ⟨a,c,h1,h2,h3,h4,h5⟩:=h;exact ⟨a,c,h1,h2,h3,h4,λx hx=>⟨λdO=>((h5 x hx).1 dO).imp (pz _) id,(h5 x hx).2⟩⟩
theorem lm.reads {B:Nat} {F:Nat->Prop} {w:World} {p:Value} {l:aH} (h:lm B F w p l):aC w p l:=by
 obtain ⟨a,c,rfl,h2,h3,h4,h5⟩:=h;cases a with
 | none=>
  have:=h4 rfl;subst this;have:l=[]:=Hm (by omega);subst this;exact .inl ⟨rfl,rfl⟩
 | some x=>exact .inr ⟨x,c,rfl,h2,h3,(h5 x rfl).2⟩
theorem lm.FQ {B base:Nat} {w:World} {p:Value} {l:aH} (h:bC w base p l):lm B (λb=>p.ownBlock=some b) w p l:=by
 rcases h.bytes.reads with ⟨rfl,rfl⟩ | ⟨x,c,rfl,h1,h2,h3⟩
 ·exact ⟨none,0,rfl,eQ _,fC _,λ_=>rfl,λx hx=>by cases hx⟩
 ·refine ⟨some x,c,rfl,h1,h2,(λe=>by cases e),λy hy=> ?_⟩;cases hy;refine ⟨λdO=> .inl ?_,h3⟩;obtain ⟨g,c',e,_⟩:=h.aG dO;cases e;rfl
def gq {B:Nat} (v:Value) (ll:List aH):bB B:=
 ⟨λF w=>∃ (ps:List Value) (G:Nat->Prop),w.ownsRow 0 22 1 v ll.length ps/\dX (λp l=>lm B G w p l) ps ll/\(∀ b,G b->F b)/\∀ b,v.ownBlock=some b->F b/\B<=b/\¬G b,λF w w' h hk=>by
  obtain ⟨ps,G,⟨h1,h2⟩,h3,h4,h5⟩:=h;refine ⟨ps,G,⟨h1, ?_⟩,h3.mono (λp l hp=>hp.keep (λb hb=>hk b (hb.imp (h4 b) id))),h4,h5⟩;rcases h2 with h2 | ⟨g,cap,gp,rfl,hg,hb,k4,k5,k6,k7⟩
  ·exact .inl h2
  ·exact .inr ⟨g,cap,gp,rfl,hg,(hk g (.inl (h5 g rfl).1)).trans hb,k4,k5,k6,k7⟩⟩
theorem Own.rows {w wr:World} {rs:List (bB w.heap.size)} {v:Value} {ll:List aH} (h:Own w wr rs) (hm:gq v ll ∈ rs):RowsIn wr v ll/\∃ a c,v= .slice a ll.length c:=by
 obtain ⟨F,⟨ps,G,h1,h2,h3,_⟩,_⟩:=h.mem hm;obtain ⟨a,c,rfl⟩:=bA h1;refine ⟨⟨a,c,rfl,λi l hl=> ?_⟩,a,c,rfl⟩;obtain ⟨p,hp,ho⟩:=h2.wV hl;rcases h1.2 with ⟨e,e2⟩ | ⟨g,cap,gp,e,_⟩
 ·have:=(List.getElem?_eq_some_iff.1 hl).1;omega
 ·cases e;exact ⟨_,p,rfl,h1.cells (g:=g) rfl i p hp,ho.reads⟩
theorem vz {α β:Type} {R:α->β->Prop} {S:α->β->Prop}:∀ {l:List α} {m:List β},dX R l m->(∀ a ∈ l,∀ b,R a b->S a b)->dX S l m
 | [],[],_,_=>trivial
 | a::l,b::m,h,k=>⟨k a (gw ..) b h.1,vz h.2 (λx hx=>k x (nO _ hx))⟩
 | [],_::_,h,_=>h.elim
 | _::_,[],h,_=>h.elim
theorem Own.Oe {w wr w':World} {rs:List (bB w.heap.size)} (h:Own w wr rs) {v:Value} {ll:List aH} (ho:et w' wr.heap.size v ll) (hk:ak wr w'):Own w w' (gq v ll::rs):=by
 obtain ⟨ps,h1,h2,_⟩:=ho;have hz:=h.keeps.size;refine h.add hk (r:=gq v ll) (G:=λb=>v.ownBlock=some b\/∃ p ∈ ps,p.ownBlock=some b) ⟨ps,λb=>∃ p ∈ ps,p.ownBlock=some b,Iy h1 (fC _),vz h2 (λp hp l hl=>(lm.FQ hl).wider (λb hb=>⟨p,hp,hb⟩)),λb hb=> .inr hb,λb hb=>⟨.inl hb,by have:=yA h1 b hb;omega,λ⟨p,hp,pg⟩=> ?_⟩⟩ (λb hb=> ?_)
 ·obtain ⟨l,hl⟩:=h2.mem p hp;exact Bs h1 hl hb pg
 rcases hb with hb | ⟨p,hp,hb⟩
 ·have:=yA h1 b hb;omega
 ·obtain ⟨l,hl⟩:=h2.mem p hp;have:=du hl b hb;omega
theorem Own.Og {w wr:World} {rs:List (bB w.heap.size)} (h:Own w wr rs):Own w wr (gq (.slice none 0 0) []::rs):=
 h.add (ah.refl _ wr) (r:=gq (.slice none 0 0) []) (G:=λ_=>False) ⟨[],λ_=>False,⟨rfl,.inl ⟨rfl,rfl⟩⟩,trivial,λ_ h=>h,λb hb=>by cases hb⟩ (λ_ hb=>hb.elim)
structure tB where
 code:Int
 m:DM
 res:Option (List aH × Nat)
def cB (nm:aD):List (DM->Int × DM):=[λm=>aO m nm,aV]
def mZ (m:DM) (nm:aD) (s:List aH × Nat):tB:=if (mz m nm (aj s.1)).1=0 then ⟨0,(mz m nm (aj s.1)).2,some s⟩ else ⟨(mz m nm (aj s.1)).1,(mz m nm (aj s.1)).2,none⟩
def ct (m:DM) (nm:aD):tB:=
 if bU nm=true/\bU (bj nm)=true then
  if aF m nm=6 then (if (cA (cB nm) m).1=0 then ⟨0,(cA (cB nm) m).2,some ([],0)⟩ else ⟨(cA (cB nm) m).1,(cA (cB nm) m).2,none⟩)
  else if aF m nm=0 then
   (if (dJ ((aZ m.aN nm).getD [])).2 <((aZ m.aN nm).getD []).length then mZ m nm (dJ ((aZ m.aN nm).getD [])) else ⟨0,m,some (dJ ((aZ m.aN nm).getD []))⟩)
  else ⟨aF m nm,m,none⟩
 else ⟨1,m,none⟩
theorem kf (b:aH):(aj (dJ b).1).length<=b.length:=by have h:=(lh (l:=b) (b.length+1) 0 (fC _)).1;have h2:=uC b;unfold dJ at*;omega
theorem qC (nm:aD):∀ f ∈ cB nm,∀ m j,Good m j->Good (f m).2 (j+1):=by
 intro f hf m j h;simp only [cB,Hu,List.not_mem_nil,or_false] at hf;rcases hf with rfl | rfl
 ·exact h.fY _
 ·exact h.sync.mono (by omega)
theorem PM {m:DM} {n:Nat} (h:Good m n) (nm:aD):Good (ct m nm).m (n+6*(67108864+1)+1):=by
 have hb:=h.get nm;have hs:=kf ((aZ m.aN nm).getD []);unfold ct;split
 ·split
  ·have:=mY (cB nm) (qC nm) h;split <;>exact this.mono (by simp [cB])
  ·split
   ·split
    ·unfold mZ;have:=Sm h nm (aj (dJ ((aZ m.aN nm).getD [])).1);split <;>exact this.mono (by omega)
    ·exact h.mono (by omega)
   ·exact h.mono (by omega)
 ·exact h.mono (by omega)
def ej (d:Nat) (nm:aD) (size:Nat):Obj:= .cells #[.pointer (some ⟨d,0,none⟩),.string nm,.int .i64 (size:Int)] 217 (0,0)
def gC (w:World) (d:Nat) (nm:aD) (rs:List (bB w.heap.size)) (r:tB) (e:Ending) (w':World):Prop:=
 (r.res=none/\e= .returned (.tuple #[.pointer none,.slice none 0 0,.int .i64 r.code])/\Own w w' (bk d r.m::rs))\/
 ∃ (aQ:List aH) (used j:Nat) (v:Value),r.res=some (aQ,used)/\e= .returned (.tuple #[.pointer (some ⟨j,0,none⟩),v,.int .i64 r.code])/\Own w w' (bk d r.m::aA j (ej d nm used)::gq v aQ::rs)
theorem gC.bad {w:World} {d:Nat} {nm:aD} {rs:List (bB w.heap.size)} {r:tB} {c:Int} {m:DM} {w':World} (hr:r=⟨c,m,none⟩) (h:Own w w' (bk d m::rs)):gC w d nm rs r (.returned (.tuple #[.pointer none,.slice none 0 0,.int .i64 c])) w':=by subst hr;exact .inl ⟨rfl,rfl,h⟩
theorem gC.ok {w:World} {d:Nat} {nm:aD} {rs:List (bB w.heap.size)} {r:tB} {m:DM} {aQ:List aH} {used j:Nat} {v:Value} {w':World} (hr:r=⟨0,m,some (aQ,used)⟩) (h:Own w w' (bk d m::aA j (ej d nm used)::gq v aQ::rs)): gC w d nm rs r (.returned (.tuple #[.pointer (some ⟨j,0,none⟩),v,.int .i64 0])) w':=by subst hr;exact .inr ⟨aQ,used,j,v,rfl,rfl,h⟩
def yD:Nat->FuncId
 | 0=>118
 | _=>49
def PN (d:Nat):Nat->Array Value
 | 0=>#[]
 | _=>#[.pointer (some ⟨d,0,none⟩)]
def PO (b2 b3:Nat):Nat->Array Value
 | 0=>#[.pointer (some ⟨b2,0,none⟩),.pointer (some ⟨b3,0,none⟩)]
 | _=>#[]
theorem C8 (k:Nat) (args:Array Value) (w:World):(callFunc (yD k) args).run Tryz.prog w= .ok (.enter (yD k) args) w:=by
 match k with
 | 0=>exact lB Tryz.func118 (by kernel_rfl) rfl args w
 | k+1=>exact lB Tryz.func49 (by kernel_rfl) rfl args w
section
variable {w wr:World} {d:Nat} {m:DM} {rs:List (bB w.heap.size)}
theorem IW (h:Own w wr (bk d m::rs)) {n b3 wO:Nat} {t:aD} (hg:Good m n) (hn:n <1099511627776) (h3:aA b3 (.cells #[.pointer (some ⟨d,0,none⟩)] 30) ∈ rs) (C5:aA wO (.cells #[.string t] 9) ∈ rs): bF 118 #[.pointer (some ⟨b3,0,none⟩),.pointer (some ⟨wO,0,none⟩)] wr (pV w d rs (aO m t)):=by have c3:=ag (i:=0) (h.at (nO _ h3)).1 rfl;have c11:=ag (i:=0) (h.at (nO _ C5)).1 rfl;obtain ⟨w1,hr,h1⟩:=h.fY t hg.cC (hg.aw hn);have H1:=ae h1;go_enter Tryz.func118,Tryz.ntmps118;go_wp2_with fail;refine hr.Z.mono ?_;rintro e w' ⟨rfl,rfl⟩;go_wp2;go_ret;exact ⟨rfl,H1.Z⟩
theorem FR (h:Own w wr (bk d m::rs)) {n:Nat} (hg:Good m n) (hn:n+10 <1099511627776) {nm:aD} {g b2 b3:Nat} {T:TypeId} (fN:aA g (.cells #[.func (.func 118) #[] #[.pointer (some ⟨b2,0,none⟩),.pointer (some ⟨b3,0,none⟩)],.func (.func 49) #[.pointer (some ⟨d,0,none⟩)] #[]] T) ∈ rs) (h2:aA b2 (.cells #[.pointer (some ⟨d,0,none⟩)] 30) ∈ rs) (h3:aA b3 (.cells #[.string nm] 9) ∈ rs): bF 117 #[.slice (some ⟨g,0,none⟩) 2 2] wr (pV w d rs (cA (cB nm) m)):=by
 refine By h hg (cB nm) (by simp [cB]) yD (PN d) (PO b2 b3) g 2 1 fN ?_ C8 (qC nm) ?_
 ·intro k hk;match k,hk with
  | 0,_=>rfl
  | 1,_=>rfl
  | k+2,hk=>simp only [cB,iM,gN] at hk;omega
 ·intro k f w' m' j hf ho LL hj;have Zc:j <1099511627776:=by simp only [cB,iM,gN] at hj;omega
  match k,hf with
  | 0,hf=>simp only [cB,vP,im] at hf;subst hf;exact IW ho LL Zc h2 h3
  | 1,hf=>simp only [cB,Hn,vP,im] at hf;subst hf;exact ho.sync LL.cC LL.fits1
  | k+2,hf=>simp [cB] at hf
theorem Own.size (h:Own w wr (bk d m::rs)) (n:aD):aW 57 #[.pointer (some ⟨d,0,none⟩),.string n] wr (.tuple #[.int .i64 (cF m n),.int .i64 (aF m n)]) wr:=by obtain ⟨F,h1,_⟩:=h.lW;exact El h1 n
end
theorem Own.Sr {w wr:World} {r s t:bB w.heap.size} {rs:List (bB w.heap.size)} (h:Own w wr (r::s::t::rs)):Own w wr (s::t::r::rs):=
 h.perm ((oe ..).trans (sV _ (oe ..)))
theorem Own.Es {w wr:World} {r s t:bB w.heap.size} {rs:List (bB w.heap.size)} (h:Own w wr (r::s::t::rs)):Own w wr (r::s::rs):=h.third.drop
structure uD (w w0:World) (d:Nat) (m:DM) (nm:aD) (rs:List (bB w.heap.size)):Prop where
 i1:∀ W,aW 104 #[.string nm] W (.bool true) W
 i2:∀ W,aW 104 #[.string (bj nm)] W (.bool true) W
 fr:∀ W,aW 116 #[.string nm] W (.string (bj nm)) W
 own:Own w (((w0.alloc (.cells #[.pointer (some ⟨d,0,none⟩)] 30)).alloc (.cells #[.string nm] 9)).alloc (ej d nm 0)) (bk d m::aA (w0.heap.size+1+1) (ej d nm 0)::aA (w0.heap.size+1) (.cells #[.string nm] 9)::aA w0.heap.size (.cells #[.pointer (some ⟨d,0,none⟩)] 30)::rs)
 size:aW 57 #[.pointer (some ⟨d,0,none⟩),.string nm] (((w0.alloc (.cells #[.pointer (some ⟨d,0,none⟩)] 30)).alloc (.cells #[.string nm] 9)).alloc (ej d nm 0)) (.tuple #[.int .i64 (cF m nm),.int .i64 (aF m nm)]) (((w0.alloc (.cells #[.pointer (some ⟨d,0,none⟩)] 30)).alloc (.cells #[.string nm] 9)).alloc (ej d nm 0))
theorem LQ {w w0:World} {d:Nat} {m:DM} {rs:List (bB w.heap.size)} {nm:aD} (H:uD w w0 d m nm rs) {r:tB} (hr:r=⟨aF m nm,m,none⟩) (h6:¬aF m nm=6) (h0:¬aF m nm=0): bF 58 #[.pointer (some ⟨d,0,none⟩),.string nm] w0 (gC w d nm rs r):=by
 have HE:=ae hr;have hs:=H.size;unfold ej at hs;generalize aF m nm=e at hs HE h6 h0;generalize cF m nm=sc at hs;have HS:=ae hs;have b6:(e==6)=false:=by simpa using h6
 have b0:(e !=0)=true:=by simpa using h0
 go_enter Tryz.func58,Tryz.ntmps58;go_wp2_with fail;refine (H.i1 _).Z.mono ?_;rintro e w' ⟨rfl,rfl⟩;go_wp2_with fail;refine (H.fr _).Z.mono ?_;rintro e w' ⟨rfl,rfl⟩;go_wp2_with fail;refine (H.i2 _).Z.mono ?_;rintro e w' ⟨rfl,rfl⟩;go_wp2_with fail;refine HS.Z.Z.mono ?_;rintro e w' ⟨rfl,rfl⟩;go_wp2;go_ret3;exact gC.bad HE.Z H.own.oG.qA
theorem IX {w w0:World} {d:Nat} {m:DM} {rs:List (bB w.heap.size)} {nm:aD} (H:uD w w0 d m nm rs) {n:Nat} (hg:Good m n) (hn:n <549755813888) {r:tB} (hr:r=if (cA (cB nm) m).1=0 then ⟨0,(cA (cB nm) m).2,some ([],0)⟩ else ⟨(cA (cB nm) m).1,(cA (cB nm) m).2,none⟩) (h6:aF m nm=6): bF 58 #[.pointer (some ⟨d,0,none⟩),.string nm] w0 (gC w d nm rs r):=by
 have hs:=H.size;rw [h6] at hs;unfold ej at hs;generalize cF m nm=sc at hs;have h4:=H.own.mJ (.cells #[.func (.func 118) #[] #[.pointer (some ⟨w0.heap.size,0,none⟩),.pointer (some ⟨w0.heap.size+1,0,none⟩)],.func (.func 49) #[.pointer (some ⟨d,0,none⟩)] #[]] 120);simp only [World.size_alloc] at h4;have bG:=FR (nm:=nm) (b2:=w0.heap.size) (b3:=w0.heap.size+1) (T:=120) h4 hg (by omega) (gw ..) (by simp) (by simp);unfold ej at bG;have HE:=ae hr;have HS:=ae hs;have fP:=ae bG;clear hr hs h6 bG h4 hg hn;go_enter Tryz.func58,Tryz.ntmps58;go_wp2_with fail;refine (H.i1 _).Z.mono ?_;rintro e w' ⟨rfl,rfl⟩;go_wp2_with fail;refine (H.fr _).Z.mono ?_;rintro e w' ⟨rfl,rfl⟩;go_wp2_with fail;refine (H.i2 _).Z.mono ?_;rintro e w' ⟨rfl,rfl⟩;go_wp2_with fail;refine HS.Z.Z.mono ?_;rintro e w' ⟨rfl,rfl⟩;go_wp2_with fail;refine fP.Z.mono ?_;rintro e w2 ⟨rfl,h5⟩;have H5:=ae h5.oG;have he:=HE.Z;generalize cA (cB nm) m=q at H5 he ⊢;obtain ⟨qc,qm⟩:=q;clear h5 fP HE HS;by_cases hq:qc=0
 ·subst hq;simp only [if_true] at he;have HE:=ae he;clear he;go_wp2;go_ret3;exact gC.ok HE.Z ((H5.Z.Es.Es).Og.Sr)
 ·simp only [hq,if_false] at he;have HE:=ae he;have b0:(qc !=0)=true:=by simpa using hq
  clear he hq;go_wp2;go_ret3;exact gC.bad HE.Z (H5.Z.oG.qA)
theorem rk (b:aH):gV b 0 (b.length:Int)=b:=by simp [gV]
theorem LR {w wr w1 w2:World} {d j x:Nat} {m:DM} {nm:aD} {rs:List (bB w.heap.size)} {o1 o2:bB w.heap.size} {aQ:List aH} {used:Nat} {v:Value} (h:Own w w1 (bk d m::aA j (ej d nm x)::o1::o2::rs)) (hr:et w2 w1.heap.size v aQ) (hk:ak w1 w2): ((∃ u,w2.cell? ⟨j,2,none⟩=some u)/\w2.frozen? ⟨j,2,none⟩=false)/\Own w (w2.setCell ⟨j,2,none⟩ (.int .i64 (used:Int))) (bk d m::aA j (ej d nm used)::o1::o2::gq v aQ::rs):=by have h1:=h.Oe hr hk;have hj:=(h1.at (b:=j) (o:=ej d nm x) (by simp)).1;have h2:=(h1.third.store 2 (.int .i64 (used:Int)));refine ⟨⟨⟨_,ag hj rfl⟩,cL hj 2⟩, ?_⟩;have e:(#[Value.pointer (some ⟨d,0,none⟩),Value.string nm,Value.int .i64 (x:Int)]:Array Value).setIfInBounds 2 (.int .i64 (used:Int))=#[Value.pointer (some ⟨d,0,none⟩),Value.string nm,Value.int .i64 (used:Int)]:=rfl;rw [e] at h2;refine h2.perm ?_;refine (Fy (sV _ (oe ..)) (oe ..)).trans ?_;refine sV _ (sV _ ?_);exact (oe ..).trans (sV _ (oe ..))
theorem Own.LS {w wr:World} {r s t a b:bB w.heap.size} {rs:List (bB w.heap.size)} (h:Own w wr (r::s::a::b::t::rs)):Own w wr (r::s::t::rs):=h.Es.Es
theorem LU {w w0:World} {d:Nat} {m:DM} {rs:List (bB w.heap.size)} {nm:aD} (H:uD w w0 d m nm rs) (qf:nm.size<=65536) {n:Nat} (hg:Good m n) (hn:n <549755813888) {r:tB} {b:aH} (hb:b=(aZ m.aN nm).getD []) (hr:r=if (dJ b).2 <b.length then mZ m nm (dJ b) else ⟨0,m,some (dJ b)⟩) (h0:aF m nm=0): bF 58 #[.pointer (some ⟨d,0,none⟩),.string nm] w0 (gC w d nm rs r):=by
 have hs:=H.size;have kg:b.length<=67108864:=by rw [hb];exact hg.get nm
 have hsc:cF m nm=(b.length:Int):=by unfold cF;rw [if_pos h0,hb]
 rw [h0,hsc] at hs;unfold ej at hs;obtain ⟨v2,w2,Oh,hB,cg,h2⟩:=H.own.read nm 0 (b.length:Int) (by rw [<-hb];omega);have IY:er m nm 0 (b.length:Int)=0:=by unfold er;rw [if_pos h0,if_neg (by omega)]
 have Et:di m nm 0 (b.length:Int)=b:=by unfold di;rw [if_pos h0,if_neg (by omega),<-hb,rk]
 rw [IY] at Oh;rw [Et] at hB;unfold ej at Oh;have Oi:=Lx hB.reads (by omega);obtain ⟨a2,c2,rfl,_,_⟩:=hB.aG;have lf:=uC b;have pD:=kf b;have FT:=λ(w3:World) (v:Value) (ho:et w3 w2.heap.size v (dJ b).1) (hk:ak w2 w3)=>LR (wr:=w2) (used:=(dJ b).2) h2 ho hk;have HE:=ae hr;generalize dJ b=s at Oi HE lf pD FT;obtain ⟨aQ,used⟩:=s;simp only at Oi lf pD FT;have HS:=ae hs;have HR:=ae Oh;have Oj:=ae Oi;have fP:=ae FT;have HG:=ae hg;have HX:=ae (⟨hn,kg,lf,pD,qf⟩:n <549755813888/\b.length<=67108864/\used<=b.length/\(aj aQ).length<=b.length/\nm.size<=65536);clear hr hs h0 Oh Oi FT hsc IY Et hB cg h2 hg hn kg lf pD qf hb;go_enter Tryz.func58,Tryz.ntmps58;go_wp2_with fail;refine (H.i1 _).Z.mono ?_;rintro e w' ⟨rfl,rfl⟩;go_wp2_with fail;refine (H.fr _).Z.mono ?_;rintro e w' ⟨rfl,rfl⟩;go_wp2_with fail;refine (H.i2 _).Z.mono ?_;rintro e w' ⟨rfl,rfl⟩;go_wp2_with fail;refine HS.Z.Z.mono ?_;rintro e w' ⟨rfl,rfl⟩;go_wp2_with fail;refine HR.Z.Z.mono ?_;rintro e w' ⟨rfl,rfl⟩;go_wp2_with fail;refine Oj.Z.mono ?_;rintro e w3 ⟨v,rfl,fy,dN⟩;obtain ⟨⟨⟨u,hu⟩,hf⟩,h4⟩:=fP.Z w3 v fy dN;obtain ⟨va,vc,rfl⟩:=fy.aG;have H4:=ae h4;clear h4 fy dN fP Oj HR HS;by_cases aX:used <b.length
 ·have he:=HE.Z;simp only [aX,if_true] at he;have pw:=λ(W:World) (h:Own w W (bk d m::aA (w0.heap.size+1+1) (ej d nm used)::aA (w0.heap.size+1) (.cells #[.string nm] 9)::aA w0.heap.size (.cells #[.pointer (some ⟨d,0,none⟩)] 30)::gq (.slice va aQ.length vc) aQ::rs))=>PL h HG.Z nm HX.Z.2.2.2.2 (h.rows (v:= .slice va aQ.length vc) (ll:=aQ) (by simp)).1 (by have:=HX.Z;omega)
  have Lq:=pw _ H4.Z;have c3:=(H4.Z.at (b:=w0.heap.size+1) (o:= .cells #[.string nm] 9) (by simp)).1;have R1:=(H4.Z.at (b:=w0.heap.size) (o:= .cells #[.pointer (some ⟨d,0,none⟩)] 30) (by simp)).1;have c3':=ag (i:=0) c3 rfl;have adO:=ag (i:=0) R1 rfl;have HL4:=ae Lq;have HE2:=ae he;have b1:decide (used <b.length)=true:=decide_eq_true aX;clear pw Lq he HE aX c3 R1 H4;go_wp2_with fail;refine HL4.Z.mono ?_;rintro e w5 ⟨rfl,h5⟩;have he:=HE2.Z;unfold mZ at he;have H5:=ae h5;generalize mz m nm (aj aQ)=q at H5 he ⊢;obtain ⟨qc,qm⟩:=q;clear h5 HL4 HE2;by_cases hq:qc=0
  ·subst hq;simp only [if_true] at he;have HE:=ae he;clear he;go_wp2;go_ret3;exact gC.ok HE.Z H5.Z.LS
  ·simp only [hq,if_false] at he;have HE:=ae he;have b0:(qc !=0)=true:=by simpa using hq
   clear he hq;go_wp2;go_ret3;exact gC.bad HE.Z H5.Z.LS.qA
 ·have he:=HE.Z;simp only [aX,if_false] at he;have HE2:=ae he;have b1:decide (used <b.length)=false:=decide_eq_false aX;clear he HE aX;go_wp2;go_ret3;exact gC.ok HE2.Z H4.Z.LS
theorem FU {s:aD} (h:bU s=true):s.size<=160:=by unfold bU at h;simp only [Be,decide_eq_true_eq] at h;omega
theorem LV {w w0:World} {d:Nat} {m:DM} {rs:List (bB w.heap.size)} (h:Own w w0 (bk d m::rs)) {n:Nat} (hg:Good m n) (hn:n <549755813888) (nm:aD): bF 58 #[.pointer (some ⟨d,0,none⟩),.string nm] w0 (gC w d nm rs (ct m nm)):=by
 have h1:=(h.mJ (.cells #[.pointer (some ⟨d,0,none⟩)] 30)).mJ (.cells #[.string nm] 9);simp only [World.size_alloc] at h1;have LW:∀ W,aW 104 #[.string nm] W (.bool (bU nm)) W:=λW=>pC nm W;have BA:∀ W,aW 104 #[.string (bj nm)] W (.bool (bU (bj nm))) W:=λW=>pC _ W;by_cases qf:bU nm=true
 ·have kW:=FU qf;have po:∀ W,aW 116 #[.string nm] W (.string (bj nm)) W:=λW=>Bz nm W (by omega);by_cases LX:bU (bj nm)=true
  ·have hx:uD w w0 d m nm rs:=by have h2:=h1.mJ (ej d nm 0);simp only [World.size_alloc] at h2;exact ⟨λW=>by have:=LW W;rwa [qf] at this,λW=>by have:=BA W;rwa [LX] at this,po,h2,h2.size nm⟩
   by_cases h6:aF m nm=6
   ·exact IX hx hg hn (by unfold ct;rw [if_pos ⟨qf,LX⟩,if_pos h6]) h6
   ·by_cases h0:aF m nm=0
    ·exact LU hx (by omega) hg hn rfl (by unfold ct;rw [if_pos ⟨qf,LX⟩,if_neg h6,if_pos h0]) h0
    ·exact LQ hx (by unfold ct;rw [if_pos ⟨qf,LX⟩,if_neg h6,if_neg h0]) h6 h0
  ·have he:ct m nm=⟨1,m,none⟩:=by unfold ct;rw [if_neg (λh=>LX h.2)]
   have HE:=ae he;have H1:=ae h1.qA;rw [qf] at LW;rw [Bool.eq_false_iff.2 LX] at BA;have HI1:=ae LW;have Rq:=ae BA;have HF:=ae po;clear he h1 h hg LW BA po qf LX kW hn;go_enter Tryz.func58,Tryz.ntmps58;go_wp2_with fail;refine (HI1.Z _).Z.mono ?_;rintro e w' ⟨rfl,rfl⟩;go_wp2_with fail;refine (HF.Z _).Z.mono ?_;rintro e w' ⟨rfl,rfl⟩;go_wp2_with fail;refine (Rq.Z _).Z.mono ?_;rintro e w' ⟨rfl,rfl⟩;go_wp2;go_ret3;exact gC.bad HE.Z H1.Z
 ·have he:ct m nm=⟨1,m,none⟩:=by unfold ct;rw [if_neg (λh=>qf h.1)]
  have HE:=ae he;have H1:=ae h1.qA;rw [Bool.eq_false_iff.2 qf] at LW;have HI1:=ae LW;clear he h1 h hg LW BA qf hn;go_enter Tryz.func58,Tryz.ntmps58;go_wp2_with fail;refine (HI1.Z _).Z.mono ?_;rintro e w' ⟨rfl,rfl⟩;go_wp2;go_ret3;exact gC.bad HE.Z H1.Z
def ci (m:DM) (nm:aD) (size:Nat) (p:aH):Int × DM × Nat:=
 if 1048568 <p.length then (8,m,size) else if (aM m nm (bu p)).1=0 then (0,(aM m nm (bu p)).2,size+(8+p.length)) else ((aM m nm (bu p)).1,(aM m nm (bu p)).2,size)
def BB (w:World) (d j:Nat) (nm:aD) (rs:List (bB w.heap.size)) (r:Int × DM × Nat) (e:Ending) (w':World):Prop:=
 e= .returned (.int .i64 r.1)/\Own w w' (bk d r.2.1::aA j (ej d nm r.2.2)::rs)
theorem BB.mk {w:World} {d j:Nat} {nm:aD} {rs:List (bB w.heap.size)} {r:Int × DM × Nat} {c:Int} {m:DM} {s:Nat} {w':World} (hr:r=(c,m,s)) (h:Own w w' (bk d m::aA j (ej d nm s)::rs)):BB w d j nm rs r (.returned (.int .i64 c)) w':=by subst hr;exact ⟨rfl,h⟩
theorem yE {w:World} {j d:Nat} {nm:aD} {s:Nat} (h:w.heap[j]?=some (ej d nm s)):w.cell? ⟨j,0,none⟩=some (.pointer (some ⟨d,0,none⟩))/\w.cell? ⟨j,1,none⟩=some (.string nm)/\w.cell? ⟨j,2,none⟩=some (.int .i64 (s:Int))/\∀ i,w.frozen? ⟨j,i,none⟩=false:=
 ⟨ag h rfl,ag h rfl,ag h rfl,λi=>cL h i⟩
theorem PQ {w wr:World} {d j s x:Nat} {m:DM} {nm:aD} {rs:List (bB w.heap.size)} (h:Own w wr (bk d m::aA j (ej d nm s)::rs)): Own w (wr.setCell ⟨j,2,none⟩ (.int .i64 (x:Int))) (bk d m::aA j (ej d nm x)::rs):=(h.swap.store 2 (.int .i64 (x:Int))).swap
theorem C9 {w w0:World} {d j:Nat} {m:DM} {nm:aD} {size:Nat} {rs:List (bB w.heap.size)} (h:Own w w0 (bk d m::aA j (ej d nm size)::rs)) {n:Nat} (hg:Good m n) (hn:n <549755813888) (hs:size<=1099511627776) {v:Value} {p:aH} (hp:aC w0 v p): bF 108 #[.pointer (some ⟨j,0,none⟩),v] w0 (BB w d j nm rs (ci m nm size p)):=by
 obtain ⟨pa,pc,rfl,_,_⟩:=hp.aG;by_cases mo:1048568 <p.length
 ·have he:ci m nm size p=(8,m,size):=by unfold ci;rw [if_pos mo]
  have HE:=ae he;have HO:=ae h;have b0:decide ((1048568:Int) <(p.length:Int))=true:=decide_eq_true (by omega);clear he h mo hp hs hn hg;go_enter Tryz.func108,Tryz.ntmps108;go_wp2;go_ret;exact BB.mk HE.Z HO.Z
 ·have he:ci m nm size p=if (aM m nm (bu p)).1=0 then (0,(aM m nm (bu p)).2,size+(8+p.length)) else ((aM m nm (bu p)).1,(aM m nm (bu p)).2,size):=by unfold ci;rw [if_neg mo]
  have b0:decide ((1048568:Int) <(p.length:Int))=false:=decide_eq_false (by omega);have hj:=(h.at (b:=j) (o:=ej d nm size) (by simp));obtain ⟨c0,c1,_,_⟩:=yE hj.1;have po:=zq (hp.keep (ah.refl _ w0).drew) (by omega);have kt:=λ(v1:Value) (w1:World) (ho:bC w1 w0.heap.size v1 (bu p)) (hk:ak w0.drew w1)=>(h.drew.quiet hk).append nm ho.bytes.reads hg.qz hg.nY hg.AA hg.cC (hg.aw (by omega))
  have ck:∀ w1:World,ak w0.drew w1->w1.cell? ⟨j,0,none⟩=some (.pointer (some ⟨d,0,none⟩))/\w1.cell? ⟨j,1,none⟩=some (.string nm):=λw1 hk=>by have e:=(kK (w:=w0.drew) (a:=⟨j,0,none⟩) (hk.block j hj.2.2 (λe=>e))).trans c0;have e2:=(kK (w:=w0.drew) (a:=⟨j,1,none⟩) (hk.block j hj.2.2 (λe=>e))).trans c1;exact ⟨e,e2⟩
  have HE:=ae he;generalize bu p=fr at po kt HE;generalize aM m nm fr=q at kt HE;obtain ⟨qc,qm⟩:=q;have Va:=ae po;have AF:=ae kt;have CK:=ae ck;have i1:(p.length:Int)<=1048568:=by omega
  have i2:(size:Int)<=1099511627776:=by omega
  clear he h mo hp hs hn hg hj ck po kt;have c0d:w0.drew.cell? ⟨j,0,none⟩=some (.pointer (some ⟨d,0,none⟩)):=c0;have c1d:w0.drew.cell? ⟨j,1,none⟩=some (.string nm):=c1;go_enter Tryz.func108,Tryz.ntmps108;go_wp2_with fail;go_region_law (first | (refine nB rfl ?_;go_simp;go_at_call 155;refine Va.Z.mono ?_;rintro e w1 ⟨v1,rfl,fT,bN⟩;obtain ⟨c0w,c1w⟩:=CK.Z _ bN) | (refine nB rfl ?_;go_simp;go_at_call 48;refine (AF.Z _ _ fT bN).mono ?_;rintro e w2 ⟨rfl,h2⟩) | fail);all_goals
   have hcj:=yE (h2.at (b:=j) (o:=ej d nm size) (by simp)).1;have bG:=PQ (x:=size+(8+p.length)) h2;have fP:=ae bG;have H2:=ae h2;have he:=HE.Z;obtain ⟨_,_,k2,k3⟩:=hcj;have k3':=k3 2;clear bG h2 c0w c1w c0 c1 c0d c1d fT bN HE k3;by_cases hq:qc=0
   ·subst hq;simp only [if_true] at he;have HE:=ae he;clear he;go_wp2;go_ret;refine BB.mk HE.Z ?_;have h:=fP.Z;push_cast at h;exact h
   ·simp only [hq,if_false] at he;have HE:=ae he;have b1:(qc !=0)=true:=by simpa using hq
    clear he hq;go_wp2;go_ret;exact BB.mk HE.Z H2.Z
theorem IZ {w w0:World} {d j:Nat} {m:DM} {nm:aD} {size:Nat} {rs:List (bB w.heap.size)} (h:Own w w0 (bk d m::aA j (ej d nm size)::rs)) {n:Nat} (hg:Good m n): bF 109 #[.pointer (some ⟨j,0,none⟩)] w0 (BB w d j nm rs ((aV m).1,(aV m).2,size)):=by obtain ⟨c0,_,_,_⟩:=yE (h.at (b:=j) (o:=ej d nm size) (by simp)).1;have hs:=h.sync hg.cC hg.fits1;have HS:=ae hs;go_enter Tryz.func109,Tryz.ntmps109;go_wp2_with fail;refine HS.Z.mono ?_;rintro e w1 ⟨rfl,h1⟩;have H1:=ae h1;go_wp2;go_ret;exact ⟨rfl,H1.Z⟩
theorem aC.str {w:World} {v:Value} {l:aH} (h:aC w v l):(convert 22 9 v).run Tryz.prog w= .ok (.string ⟨l.toArray⟩) w:=by
 rcases h with ⟨rfl,rfl⟩ | ⟨x,c,rfl,h1,h2,h3⟩
 ·exact Lib.run_convert_nil_bytes w 22 9 5 0 Tryz.underlying22 Tryz.underlying5 Tryz.underlying9
 ·refine run_convert_bytes_back w 22 9 5 x c l Tryz.underlying22 Tryz.underlying5 Tryz.underlying9 (λj hj=> ?_);exact h3 j (dF l[j]) (by simp [hj])
def aq (x:Nat):aD:=(⟨#[117,47]⟩:aD)++(⟨(dA (aL x 4)).toArray⟩:aD)
theorem lp (w:World) (i:Int) (x:Nat) (hx:IntKind.u64.wrap i=(x:Int)) (wa:x <18446744073709551616):bF 23 #[.int .i64 i] w (bH w (.string (aq x))):=by have hp:=ly w x 4 wa (by omega);have HP:=ae hp;unfold aq;go_enter Tryz.func23,Tryz.ntmps23;go_wp2_with fail;refine HP.Z.mono ?_;rintro e w1 ⟨v1,rfl,ho,hk⟩;have hh:=En ho.bytes.reads (by rw [ax];omega);obtain ⟨a,c,rfl,-,-⟩:=ho.bytes.aG;have HH:=ae hh;have HK:=ae hk;generalize (aL x 4).length=n4 at HH ⊢;go_wp2_with fail;refine HH.Z.mono ?_;rintro e w2 ⟨rfl,cg⟩;have HF:=ae (HK.Z.trans cg (λ_ _ e=>e));go_wp2;go_ret;exact ⟨rfl,HF.Z⟩
theorem lX (w:World) (i:Int) (x:Nat) (hx:IntKind.u64.wrap i=(x:Int)) (wa:x <18446744073709551616):bF 24 #[.int .i64 i] w (bH w (.string (aq x))):=by have hp:=ke w x 4 wa (by omega) (by omega);have HP:=ae hp;unfold aq;go_enter Tryz.func24,Tryz.ntmps24;go_wp2_with fail;refine HP.Z.mono ?_;rintro e w1 ⟨v1,rfl,ho,hk⟩;have hh:=Bv ho.bytes.reads (by rw [ax];omega);obtain ⟨a,c,rfl,-,-⟩:=ho.bytes.aG;have HH:=ae hh;have HK:=ae hk;generalize (aL x 4).length=n4 at HH ⊢;go_wp2_with fail;refine HH.Z.mono ?_;rintro e w2 ⟨rfl,cg⟩;have HF:=ae (HK.Z.trans cg (λ_ _ e=>e));go_wp2;go_ret;exact ⟨rfl,HF.Z⟩
def lL (c:UInt8):Bool:=(decide (97<=c.toNat) && decide (c.toNat<=122)) || (decide (48<=c.toNat) && decide (c.toNat<=57))
def fD (l:aH):Nat:=if l.take 2=[95,95] then 2 else if l.head?=some 46\/l.head?=some 95 then 1 else (l.takeWhile (· ==45)).length
def pF:Nat->aH->Bool
 | 0,_=>false
 | f+1,l=>
  if (l.takeWhile lL).length=0\/(l.takeWhile lL).length=l.length then decide (0 <(l.takeWhile lL).length)
  else if fD (l.drop (l.takeWhile lL).length)=0 then false
  else pF f ((l.drop (l.takeWhile lL).length).drop (fD (l.drop (l.takeWhile lL).length)))
def lY (l:aH):Bool:=pF (l.length+1) l
abbrev txt (l:aH):aD:=⟨l.toArray⟩
theorem iQ (l:aH):(txt l).size=l.length:=by show l.toArray.size=_;simp
theorem yF {W:World} {l:aH} {i:Nat} {c:UInt8} (h:l[i]?=some c):(Instr.index 9 (.string (txt l)) (.int .i64 (i:Int))).run Tryz.prog W= .ok (.int .u8 (c.toNat:Int)) W:=by
 obtain ⟨hi,hc⟩:=List.getElem?_eq_some_iff.1 h;rw [run_index_string W 9 _ _ _ Tryz.underlying9];rw [dif_pos ⟨by omega,by rw [iQ];omega⟩];have:(txt l)[(i:Int).toNat]'(by rw [iQ];omega)=c:=by rw [<-hc];show l.toArray[(i:Int).toNat]=_;simp
 rw [this]
theorem zB (l:aH) (i j:Nat):(txt l).extract i j=txt ((l.drop i).take (j - i)):=by apply ByteArray.ext;rw [ByteArray.data_extract];show l.toArray.extract i j=_;simp [List.extract_eq_take_drop]
theorem I0 {W:World} {l:aH} (i:Nat) (h:i<=l.length):(Instr.sliceAt 9 (.string (txt l)) (some (.int .i64 (i:Int))) none none).run Tryz.prog W= .ok (.string (txt (l.drop i))) W:=by rw [run_sliceAt_string _ _ _ _ _ _ Tryz.underlying9,run_slice_string_l W 9 (txt l) Tryz.underlying9 .i64 (i:Int) (by omega) (by rw [iQ];omega)];rw [yn,zB,iQ,sU (by simp)]
theorem tC (w:World) (c:UInt8):aW 151 #[.int .u8 (c.toNat:Int)] w (.bool (lL c)) w:=by
 unfold aW lL;generalize c.toNat=n;by_cases h1:97<=n
 ·have i1:(97:Int)<=n:=by omega
  have i3:(48:Int)<=n:=by omega
  have i4:¬(n:Int)<=57:=by omega
  by_cases h2:n<=122
  ·have i2:(n:Int)<=122:=by omega
   go_enter Tryz.func151,Tryz.ntmps151;go_wp2;go_ret;exact ⟨by simp [h1,h2],rfl⟩
  ·have i2:¬(n:Int)<=122:=by omega
   go_enter Tryz.func151,Tryz.ntmps151;go_wp2;go_ret;exact ⟨by simp [h2];omega,rfl⟩
 ·have i1:¬(97:Int)<=n:=by omega
  by_cases h3:48<=n
  ·have i3:(48:Int)<=n:=by omega
   by_cases h4:n<=57
   ·have i4:(n:Int)<=57:=by omega
    go_enter Tryz.func151,Tryz.ntmps151;go_wp2;go_ret;exact ⟨by simp [h1,h3,h4],rfl⟩
   ·have i4:¬(n:Int)<=57:=by omega
    go_enter Tryz.func151,Tryz.ntmps151;go_wp2;go_ret;exact ⟨by simp [h1,h4],rfl⟩
  ·have i3:¬(48:Int)<=n:=by omega
   go_enter Tryz.func151,Tryz.ntmps151;go_wp2;go_ret;exact ⟨by simp [h1,h3],rfl⟩
theorem Ss {W:World} {l:aH} (j:Nat) (h:j<=l.length):(Instr.sliceAt 9 (.string (txt l)) none (some (.int .i64 (j:Int))) none).run Tryz.prog W= .ok (.string (txt (l.take j))) W:=by rw [run_sliceAt_string _ _ _ _ _ _ Tryz.underlying9,run_slice_string_h W 9 (txt l) Tryz.underlying9 .i64 (j:Int) (by omega) (by rw [iQ];omega)];rw [yn,zB,Pa,Nat.sub_zero]
theorem BC (l:aH):(txt l).toList=l:=by rw [ByteArray.toList_eq]
theorem St {p:UInt8->Bool}:∀ {l:aH} {k:Nat},k <(l.takeWhile p).length->∃ c,l[k]?=some c/\p c=true
 | [],k,h=>by simp at h
 | a::l,k,h=>by
  rw [List.takeWhile_cons] at h;split at h
  ·rename_i ha;cases k with
   | zero=>exact ⟨a,rfl,ha⟩
   | succ k=>exact St (l:=l) (k:=k) (by simpa using h)
  ·simp at h
theorem LY {p:UInt8->Bool}:∀ (l:aH),(l.takeWhile p).length=l.length\/∃ c,l[(l.takeWhile p).length]?=some c/\p c=false
 | []=> .inl rfl
 | a::l=>by
  rw [List.takeWhile_cons];split
  ·rename_i ha;rcases LY (p:=p) l with h | ⟨c,h1,h2⟩
   ·exact .inl (by simp [h])
   ·exact .inr ⟨c,by simpa using h1,h2⟩
  ·rename_i ha;exact .inr ⟨a,rfl,by simpa using ha⟩
theorem Su {p:UInt8->Bool} (l:aH):(l.takeWhile p).length<=l.length:=(List.takeWhile_sublist p).length_le
theorem AG (w:World) (l p:aH) (hp:p.length<=1048576):aW 214 #[.string (txt l),.string (txt p)] w (.bool (decide (p.length<=l.length) && (l.take p.length==p))) w:=by
 unfold aW;have iH:=iQ l;have jO:=iQ p;by_cases h:p.length<=l.length
 ·obtain ⟨x,hx⟩:=cE (txt (l.take p.length));have hs:∀ W,(Instr.sliceAt 9 (.string (txt l)) none (some (.int .i64 ((txt p).size:Int))) none).run Tryz.prog W= .ok (.string x) W:=λW=>by rw [hx,jO];exact Ss p.length h
  have Ld:(txt p).size<=(txt l).size:=by omega
  have hb:(x.toList==(txt p).toList)=(l.take p.length==p):=by rw [hx,BC,BC]
  have hd:decide (p.length<=l.length)=true:=decide_eq_true h;rw [hd,<-hb];generalize txt l=s at hs Ld ⊢;generalize txt p=t at hs Ld ⊢;clear iH jO hb h hd hx hp;go_enter Tryz.func214,Tryz.ntmps214;go_wp2;go_ret;exact ⟨by simp,rfl⟩
 ·have Ld:¬(txt p).size<=(txt l).size:=by omega
  have hd:decide (p.length<=l.length)=false:=decide_eq_false h;rw [hd,Bool.false_and];generalize txt l=s at Ld ⊢;generalize txt p=t at Ld ⊢;clear iH jO h hd hp;go_enter Tryz.func214,Tryz.ntmps214;go_wp2;go_ret;exact ⟨rfl,rfl⟩
theorem BD (w:World) (l p:aH) (hp:p.length<=1048576):aW 188 #[.string (txt l),.string (txt p)] w (.bool (decide (p.length<=l.length) && (l.take p.length==p))) w:=by have h:=AG w l p hp;unfold aW;generalize (decide (p.length<=l.length) && (l.take p.length==p))=b at h ⊢;have H:=ae h;generalize txt l=s at H ⊢;generalize txt p=t at H ⊢;go_enter Tryz.func188,Tryz.ntmps188;go_wp2_with fail;refine gU H.Z.Z ?_;go_wp2;go_ret;exact ⟨rfl,rfl⟩
def uu:aH:=[95,95]
theorem PR (w:World) (c:UInt8) (l:aH) (hl:l.length<=1048576):aW 152 #[.string (txt (c::l))] w (.int .i64 (fD (c::l):Int)) w:=by
 unfold aW;have hp:=BD w (c::l) uu (by decide);have hx:∀ (k:Nat) (d:UInt8),(c::l)[k]?=some d->∀ W,(Instr.index 9 (.string (txt (c::l))) (.int .i64 (k:Int))).run Tryz.prog W= .ok (.int .u8 (d.toNat:Int)) W:=λk d h W=>yF h;have hx0:=hx 0 c rfl;have hz:((txt (c::l)).size:Int)=((c::l).length:Int):=by rw [iQ]
 have hm:(decide (uu.length<=(c::l).length) && ((c::l).take uu.length==uu))=decide ((c::l).take 2=[95,95]):=by
  by_cases h:(c::l).take 2=[95,95]
  ·have:=congrArg List.length h;rw [nM] at this;have h2:uu.length<=(c::l).length:=by show 2<=_;simp at this ⊢;omega
   have h3:((c::l).take uu.length==uu)=true:=by rw [beq_iff_eq];exact h
   rw [decide_eq_true h,decide_eq_true h2,h3];rfl
  ·have hb:((c::l).take uu.length==uu)=false:=by rw [beq_eq_false_iff_ne];exact h
   rw [decide_eq_false h,hb,Bool.and_false]
 rw [hm] at hp;have e2:txt uu=(⟨#[95,95]⟩:aD):=rfl;rw [e2] at hp;have AZ:=LY (p:=(· ==45)) (c::l);have hti:=λk=>St (p:=(· ==45)) (l:=c::l) (k:=k);have yG:=Su (p:=(· ==45)) (c::l);have hM:fD (c::l)=if (c::l).take 2=[95,95] then 2 else if c=46\/c=95 then 1 else ((c::l).takeWhile (· ==45)).length:=by unfold fD;simp
 rw [hM];have cU:(c::l).length<=1048577:=by rw [iM];omega
 generalize ((c::l).takeWhile (· ==45)).length=n at AZ hti yG ⊢;generalize hL:c::l=L at hp hx hx0 hz AZ hti yG cU ⊢;have HP:=ae hp;have HX:=ae hx;have yH:=ae AZ;have XW:=ae hti;have Zg:∀ W,(Instr.index 9 (.string (txt L)) (.int .i64 0)).run Tryz.prog W= .ok (.int .u8 (c.toNat:Int)) W:=hx0;generalize txt L=s at HP HX Zg hz ⊢;by_cases h1:L.take 2=[95,95]
 ·have Zh:=HP.Z;rw [decide_eq_true h1] at Zh;rw [if_pos h1];have HP:=ae Zh;go_enter Tryz.func152,Tryz.ntmps152;go_wp2_with fail;refine gU HP.Z.Z ?_;go_wp2;go_ret;exact ⟨rfl,rfl⟩
 ·have Zh:=HP.Z;rw [decide_eq_false h1] at Zh;rw [if_neg h1];have HP:=ae Zh;by_cases h2:c=46
  ·have j0:(c.toNat:Int)=46:=by rw [h2];rfl
   rw [if_pos (.inl h2)];rw [j0] at Zg;go_enter Tryz.func152,Tryz.ntmps152;go_wp2_with fail;refine gU HP.Z.Z ?_;go_wp2;go_ret;exact ⟨rfl,rfl⟩
  ·by_cases h3:c=95
   ·have j0:(c.toNat:Int)=95:=by rw [h3];rfl
    rw [if_pos (.inr h3)];rw [j0] at Zg;go_enter Tryz.func152,Tryz.ntmps152;go_wp2_with fail;refine gU HP.Z.Z ?_;go_wp2;go_ret;exact ⟨rfl,rfl⟩
   ·rw [if_neg (by rintro (h | h);exact h2 h;exact h3 h)];have j2:((c.toNat:Int)==46)=false:=by rw [beq_eq_false_iff_ne];intro h;exact h2 (UInt8.toNat_inj.1 (by rw [show (46:UInt8).toNat=46 from rfl];omega))
    have j3:((c.toNat:Int)==95)=false:=by rw [beq_eq_false_iff_ne];intro h;exact h3 (UInt8.toNat_inj.1 (by rw [show (95:UInt8).toNat=95 from rfl];omega))
    go_enter Tryz.func152,Tryz.ntmps152;go_wp2_with fail;refine gU HP.Z.Z ?_;go_wp2_with fail;go_loopw [3] (λnv wx=>∃ k:Nat,nv= .int .i64 (k:Int)/\k<=n/\w=wx) (λnv _=>n - (intOf nv).toNat);case atStart=>exact ⟨0,rfl,fC _,rfl⟩
    case round=>
     obtain ⟨k,rfl,hk,rfl⟩:=hrel;have k0:=np k;by_cases aX:k <n
     ·obtain ⟨d,hd,he⟩:=XW.Z k aX;have hxk:=HX.Z k d hd;have uw:d=45:=by simpa using he
      subst uw;have j4:(k:Int) <L.length:=by omega
      have kC:=ae aX;go_wp2;go_roundw;case rel=>exact ⟨k+1,by simp,by have:=kC.Z;omega,by first | rfl | trivial⟩
      case measure=>have:=kC.Z;simp [intOf];omega
     ·obtain rfl:k=n:=by omega
      rcases yH.Z with h | ⟨d,hd,he⟩
      ·have j4:¬(k:Int) <L.length:=by omega
       go_wp2;go_ret;exact ⟨rfl,rfl⟩
      ·have hxk:=HX.Z k d hd;have qU:=(List.getElem?_eq_some_iff.1 hd).1;have j4:(k:Int) <L.length:=by omega
       have j5:((d.toNat:Int)==45)=false:=by rw [beq_eq_false_iff_ne];intro h;have:d=45:=UInt8.toNat_inj.1 (by rw [show (45:UInt8).toNat=45 from rfl];omega);rw [this] at he;simp at he
       go_wp2;go_ret;exact ⟨rfl,rfl⟩
def Sv:Value->Nat
 | .string s=>s.size
 | _=>0
theorem PT (w:World) (l0:aH) (YY:l0.length<=1048576):aW 103 #[.string (txt l0)] w (.bool (lY l0)) w:=by
 unfold aW;obtain ⟨R,hR⟩:=exp (lY l0);have HR:=ae hR;have HL:=ae YY;rw [hR];clear hR YY;go_enter Tryz.func103,Tryz.ntmps103;go_wp2_with fail;go_loopw [0,3,4] (λsv _ _ wx=>∃ (l:aH) (f:Nat),sv= .string (txt l)/\pF f l=R/\l.length <f/\l.length<=1048576/\w=wx) (λsv _ _ _=>Sv sv);case atStart=>exact ⟨l0,l0.length+1,rfl,HR.Z,Nat.lt_succ_self _,HL.Z,rfl⟩
 case round=>
  obtain ⟨l,f,rfl,hp,hf,hl,rfl⟩:=hrel;obtain ⟨f,rfl⟩:∃ g,f=g+1:=⟨f - 1,by omega⟩;rw [pF] at hp;have hz:((txt l).size:Int)=(l.length:Int):=by rw [iQ]
  have HX:=ae (λ(k:Nat) (d:UInt8) (h:l[k]?=some d) W=>yF (W:=W) h);have yH:=ae (LY (p:=lL) l);have XW:=ae (λk=>St (p:=lL) (l:=l) (k:=k));have HTL:=ae (Su (p:=lL) l);have HS:=ae (λ(W:World) (i:Nat) (h:i<=l.length)=>I0 (W:=W) (l:=l) i h);obtain ⟨n,hn⟩:=cE ((l.takeWhile lL).length);rw [<-hn] at hp;have Zi:=yH.Z;have Zj:=XW.Z;have PV:=HTL.Z;rw [<-hn] at Zi PV;simp only [<-hn] at Zj;have yH:=ae Zi;have XW:=ae Zj;have HP:=ae hp;have HF:=ae (And.intro hf hl);clear Zi Zj hn hp hf hl HR HL;obtain ⟨s,hs⟩:=cE (txt l);have HSS:=ae hs;rw [<-hs] at hz ⊢;have HX2:=HX.Z;have Eu:=HS.Z;rw [<-hs] at HX2 Eu;have HX:=ae HX2;have HS:=ae Eu;clear HX2 Eu hs;go_wp2_with fail;go_loopw [3] (λnv wx=>∃ k:Nat,nv= .int .i64 (k:Int)/\k<=n/\w=wx) (λnv _=>n - (intOf nv).toNat);case atStart=>exact ⟨0,rfl,fC _,rfl⟩
  case round=>
   obtain ⟨k,rfl,hk,rfl⟩:=hrel;have k0:=np k;by_cases aX:k <n
   ·obtain ⟨d,hd,he⟩:=XW.Z k aX;have hxk:=HX.Z k d hd;have kW:=λW=>tC W d;rw [he] at kW;have j4:(k:Int) <l.length:=by omega
    have VV:IntKind.i64.wrap ((k:Int)+1)=((k+1:Nat):Int):=by have:=HF.Z;rw [qi _ (by omega)];omega
    have kC:=ae aX;clear hd he aX hk PV;go_wp2_with (go_at_call 151;refine (kW _).Z.mono ?_;rintro e w' ⟨rfl,rfl⟩);go_roundw;case rel=>exact ⟨k+1,rfl,by have:=kC.Z;omega,by first | rfl | trivial⟩
    case measure=>have:=kC.Z;simp [intOf];omega
   ·obtain rfl:k=n:=by omega
    clear aX hk;have Ev:∀ b:Bool,b=decide (k=l.length)->((k:Int)==(l.length:Int))=b:=λb hb=>by rw [hb,Fz];simp;omega
    by_cases h0:k=0
    ·have hP:false=R:=by have:=HP.Z;rw [if_pos (.inl h0),decide_eq_false (by omega)] at this;exact this
     subst hP;have j5:((k:Int)==0)=true:=by simp [h0]
     have XX:=ae (decide_eq_false (show ¬0 <k by omega));rcases yH.Z with h | ⟨d,hd,he⟩
     ·have j4:¬(k:Int) <l.length:=by omega
      clear h h0 Ev PV;go_wp2;go_ret;exact ⟨congrArg (λb=>Ending.returned (Value.bool b)) XX.Z,rfl⟩
     ·have hxk:=HX.Z k d hd;have kW:=λW=>tC W d;rw [he] at kW;have j4:(k:Int) <l.length:=by have:=(List.getElem?_eq_some_iff.1 hd).1;omega
      clear hd he h0 Ev PV;go_wp2_with (go_at_call 151;refine (kW _).Z.mono ?_;rintro e w' ⟨rfl,rfl⟩);go_ret;exact ⟨congrArg (λb=>Ending.returned (Value.bool b)) XX.Z,rfl⟩
    ·by_cases h1:k=l.length
     ·have hP:true=R:=by have:=HP.Z;rw [if_pos (.inr h1),decide_eq_true (by omega)] at this;exact this
      subst hP;have j4:¬(k:Int) <l.length:=by omega
      have j5:((k:Int)==0)=false:=by simpa using h0
      have j6:((k:Int)==(l.length:Int))=true:=Ev _ (decide_eq_true h1).symm;have XX:=ae (decide_eq_true (show 0 <k by omega));clear h0 h1 Ev PV;go_wp2;go_ret;exact ⟨congrArg (λb=>Ending.returned (Value.bool b)) XX.Z,rfl⟩
     ·obtain ⟨d,hd,he⟩:∃ c,l[k]?=some c/\lL c=false:=by
       rcases yH.Z with h | h
       ·exact absurd h h1
       ·exact h
      have hP:=HP.Z;rw [if_neg (by rintro (h | h);exact h0 h;exact h1 h)] at hP;have hxk:=HX.Z k d hd;have kW:=λW=>tC W d;rw [he] at kW;have qU:=(List.getElem?_eq_some_iff.1 hd).1;have j4:(k:Int) <l.length:=by omega
      have j5:((k:Int)==0)=false:=by simpa using h0
      have j6:((k:Int)==(l.length:Int))=false:=Ev _ (decide_eq_false h1).symm;have zp:=λW=>HS.Z W k (by omega);obtain ⟨x,hx⟩:=cE (l.drop k);rw [<-hx] at hP zp;obtain ⟨c,y,rfl⟩:∃ c y,x=c::y:=by
       cases x with
       | nil=>have:=congrArg List.length hx;rw [iN] at this;simp at this;omega
       | cons c y=>exact ⟨c,y,rfl⟩
      have hyl:(c::y).length<=1048576:=by rw [hx,iN];have:=HF.Z;omega
      have hyk:(c::y).length=l.length - k:=by rw [hx,iN]
      have hmr:=λW=>PR W c y (by rw [iM] at hyl;omega);have N8:fD (c::y)<=(c::y).length:=by
       unfold fD;split
       ·rename_i h;have:=congrArg List.length h;rw [nM] at this;simp at this ⊢;omega
       ·split
        ·simp
        ·exact Su _
      have og:=λW=>I0 (W:=W) (l:=c::y) (fD (c::y)) N8;have rp:=ae (show (¬fD (c::y)=0->pF f ((c::y).drop (fD (c::y)))=R)/\(fD (c::y)=0->R=false) from by
       by_cases h:fD (c::y)=0
       ·rw [if_pos h] at hP;exact ⟨λh2=>absurd h h2,λ_=>hP.symm⟩
       ·rw [if_neg h] at hP;exact ⟨λ_=>hP,λh2=>absurd h2 h⟩)
      have lQ:((c::y).drop (fD (c::y))).length=l.length - k - fD (c::y):=by rw [iN,hyk]
      have HDL:=ae lQ;have xk:=ae (iQ ((c::y).drop (fD (c::y))));have HK:=ae (show 0 <k/\k <l.length by omega);generalize (c::y).drop (fD (c::y))=z at og rp HDL xk;generalize fD (c::y)=q at og rp HDL hmr;generalize txt (c::y)=sx at zp og hmr;clear hx hyl hyk N8 lQ hd he h0 h1 Ev PV hP qU;by_cases hq:q=0
      ·subst hq;have hR:=rp.Z.2 rfl;subst hR;go_wp2_with (first | (go_at_call 151;refine (kW _).Z.mono ?_;rintro e w' ⟨rfl,rfl⟩) | (go_at_call 152;refine (hmr _).Z.mono ?_;rintro e w' ⟨rfl,rfl⟩));go_ret;exact ⟨rfl,rfl⟩
      ·have j8:((q:Int)==0)=false:=by simpa using hq
       have hR:=rp.Z.1 hq;have HR:=ae hR;clear hq hR;go_wp2_with (first | (go_at_call 151;refine (kW _).Z.mono ?_;rintro e w' ⟨rfl,rfl⟩) | (go_at_call 152;refine (hmr _).Z.mono ?_;rintro e w' ⟨rfl,rfl⟩));go_roundw;case rel=>exact ⟨z,f,rfl,HR.Z,by have:=HDL.Z;have:=HF.Z;have:=HK.Z;omega,by have:=HDL.Z;have:=HF.Z;omega,by first | rfl | trivial⟩
       case measure=>have h1:=xk.Z;have h2:=HDL.Z;have h3:=HK.Z;have h4:(txt l).size=l.length:=iQ l;have h5:=HSS.Z;subst h5;simp only [Sv];omega
theorem rW:∀ {a b c:aH},Op.bytesLess a b=true->Op.bytesLess b c=true->Op.bytesLess a c=true
 | [],[],_,h,_=>by simp [Op.bytesLess] at h
 | [],_::_,[],_,h=>by simp [Op.bytesLess] at h
 | [],_::_,_::_,_,_=>rfl
 | _::_,[],_,h,_=>by simp [Op.bytesLess] at h
 | _::_,_::_,[],_,h=>by simp [Op.bytesLess] at h
 | x::a,y::b,z::c,h,k=>by
  simp only [Op.bytesLess,FA,Be,decide_eq_true_eq,beq_iff_eq] at h k ⊢;rcases h with h | ⟨rfl,h⟩
  ·rcases k with k | ⟨rfl,k⟩
   ·exact .inl (UInt8.lt_trans h k)
   ·exact .inl h
  ·rcases k with k | ⟨rfl,k⟩
   ·exact .inl k
   ·exact .inr ⟨rfl,rW h k⟩
theorem qD:∀ (a:aH),Op.bytesLess a a=false
 | []=>rfl
 | x::a=>by simp [Op.bytesLess,qD a]
theorem rX:∀ {a b:aH},Op.bytesLess a b=false->a≠b->Op.bytesLess b a=true
 | [],[],_,h=>absurd rfl h
 | [],_::_,h,_=>by simp [Op.bytesLess] at h
 | _::_,[],_,_=>rfl
 | x::a,y::b,h,k=>by
  simp only [Op.bytesLess,Bool.or_eq_false_iff,Bool.and_eq_false_iff,decide_eq_false_iff_not,beq_eq_false_iff_ne,FA,Be,decide_eq_true_eq,beq_iff_eq] at h ⊢;by_cases e:x=y
  ·subst e;refine .inr ⟨rfl,rX ?_ (λe=>k (by rw [e]))⟩;rcases h.2 with h | h
   ·exact absurd rfl h
   ·exact h
  ·rcases UInt8.lt_or_lt_of_ne e with h2 | h2
   ·exact absurd h2 h.1
   ·exact .inl h2
theorem toList_inj {a b:aD} (h:a.toList=b.toList):a=b:=by have:=(bytes_beq a b).1 (by rw [beq_toListBytes,h];simp);exact this
theorem qE {a b c:aD} (h:pm a b=true) (k:pm b c=true):pm a c=true:=rW h k
theorem lq (a:aD):pm a a=false:=qD _
theorem uE {a b:aD} (h:pm a b=false) (k:a≠b):pm b a=true:=rX h (λe=>k (toList_inj e))
def bp (fs:FS):Prop:=fs.Pairwise (λx y=>pm x.1 y.1=true)
theorem bp.nil:bp []:=List.Pairwise.nil
theorem bp.bV {fs:FS} (h:bp fs) (n:aD):bp (bV fs n):=h.sublist O5
theorem bp.nodup {fs:FS} (h:bp fs):bX fs:=by unfold bX;rw [List.Nodup,List.pairwise_map];exact List.Pairwise.imp (fun {x y} XN e=>by rw [e,lq] at XN;cases XN) h
theorem mL (x:aD × aH) (l:FS) (f:aD × aH):gY (x::l) f=if pm f.1 x.1 then f::x::l else x::gY l f:=rfl
theorem bp.gY:∀ {fs:FS},bp fs->∀ {f:aD × aH},f.1 ∉ fs.map (·.1)->bp (gY fs f)
 | [],_,f,_=>List.pairwise_singleton _ _
 | x::l,h,f,hn=>by
  have h':=List.pairwise_cons.1 h;rw [mL];have qw:f.1≠x.1/\f.1 ∉ l.map (·.1):=by rw [kz,Hu] at hn;exact ⟨λe=>hn (.inl e),λe=>hn (.inr e)⟩
  cases hb:pm f.1 x.1 with
  | true=>
   rw [if_pos rfl];exact List.pairwise_cons.2 ⟨λy hy=>by
    rcases List.mem_cons.1 hy with rfl | hy
    ·exact hb
    ·exact qE hb (h'.1 y hy),h⟩
  | false=>
   rw [if_neg (by simp)];refine List.pairwise_cons.2 ⟨λy hy=> ?_,bp.gY h'.2 qw.2⟩;rcases List.mem_cons.1 ((gJ f l).mem_iff.1 hy) with rfl | hy
   ·exact uE hb qw.1
   ·exact h'.1 y hy
theorem bp.dY {fs:FS} (h:bp fs) (n:aD) (b:aH):bp (dY fs n b):=(h.bV n).gY (qW fs n)
theorem lC (x:aD × aH) (l:FS) (n:aD):bV (x::l) n=if x.1=n then bV l n else x::bV l n:=by unfold bV;rw [K6];by_cases h:x.1=n <;>simp [h]
theorem BE {l:FS} {f:aD × aH} (h:∀ y ∈ l,pm f.1 y.1=true):gY l f=f::l:=by
 cases l with
 | nil=>rfl
 | cons y l=>rw [mL,if_pos (h y (gw ..))]
theorem yI {f:aD × aH} {n:aD} (dO:f.1≠n):∀ {l:FS},bp l->bV (gY l f) n=gY (bV l n) f
 | [],_=>by simp [gY,bV,dO]
 | x::l,h=>by
  have h':=List.pairwise_cons.1 h;rw [lC,mL];cases hb:pm f.1 x.1 with
  | true=>
   rw [if_pos rfl];rw [lC,if_neg dO,lC];split
   ·exact (BE (λy hy=>qE hb (h'.1 y (List.mem_filter.1 hy).1))).symm
   ·rw [mL,hb,if_pos rfl]
  | false=>
   rw [if_neg (by simp)];rw [lC];split
   ·exact yI dO h'.2
   ·rw [mL,hb,if_neg (by simp),yI dO h'.2]
theorem PW (l:FS) (a b:aD):bV (bV l a) b=bV (bV l b) a:=by unfold bV;rw [List.filter_filter,List.filter_filter];congr 1;funext p;exact Bool.and_comm _ _
theorem LZ (l:FS) (a:aD):bV (bV l a) a=bV l a:=by unfold bV;rw [List.filter_filter];congr 1;funext p;simp
def XY (fs:FS) (c:Ch):FS:=
 if c.kind=0 then gY fs (c.a,[])
 else if c.kind=1 then gY (bV fs c.a) (c.a,(aZ fs c.a).getD []++c.p)
 else if c.kind=2 then bV fs c.a
 else gY (bV (bV fs c.a) c.b) (c.b,(aZ fs c.a).getD [])
def Zk (fs:FS) (c:Ch):Prop:=(0<=c.kind/\c.kind<=3)/\(c.kind=0->aZ fs c.a=none)/\(c.kind≠0->(aZ fs c.a).isSome=true)
theorem vA {fs:FS} {n:aD} (h:aZ fs n=none):n ∉ fs.map (·.1):=by intro hm;obtain ⟨p,hp,rfl⟩:=List.mem_map.1 hm;unfold aZ at h;rw [Option.map_eq_none_iff,List.find?_eq_none] at h;exact h p hp (by simp)
theorem Zl {fs:FS} (hs:bp fs) {c:Ch} (h:Zk fs c):XY fs c=bW fs c:=by
 obtain ⟨⟨h0,h3⟩,h1,h2⟩:=h;unfold XY bW;by_cases k0:c.kind=0
 ·rw [if_pos k0,if_pos k0];unfold dY;rw [lu (vA (h1 k0))]
 rw [if_neg k0,if_neg k0];by_cases k1:c.kind=1
 ·rw [if_pos k1,if_pos k1];rfl
 rw [if_neg k1,if_neg k1];by_cases k2:c.kind=2
 ·rw [if_pos k2,if_pos k2]
 rw [if_neg k2,if_neg k2,if_pos (by omega)];by_cases e:c.a=c.b
 ·rw [if_pos e,e,LZ];rfl
 ·rw [if_neg e];unfold dY;rw [yI (λe'=>e e'.symm) (hs.bV _),PW]
theorem bp.bW {fs:FS} (h:bp fs) (c:Ch):bp (bW fs c):=by
 unfold Go.Proofs.YtlcnhpjggjgnpaaGreatDoor.bW;split
 ·exact h.dY _ _
 ·split
  ·exact h.dY _ _
  ·split
   ·exact h.bV _
   ·split
    ·split
     ·exact h.dY _ _
     ·exact (h.dY _ _).bV _
    ·exact h
theorem bp.fold:∀ (l:List Ch) {fs:FS},bp fs->bp (l.foldl Go.Proofs.YtlcnhpjggjgnpaaGreatDoor.bW fs)
 | [],_,h=>h
 | c::l,_,h=>bp.fold l (h.bW c)
def nR (fs:FS) (n:aD):Option Nat:=fs.findIdx? (λp=>p.1=n)
theorem zC {fs:FS} {n:aD} {i:Nat} (h:nR fs n=some i):∃ x,fs[i]?=some (n,x)/\aZ fs n=some x:=by unfold nR at h;rw [List.findIdx?_eq_some_iff_getElem] at h;obtain ⟨hi,h1,h2⟩:=h;simp at h1;refine ⟨fs[i].2,by rw [js hi,<-h1], ?_⟩;unfold aZ;rw [List.find?_eq_some_iff_getElem.2 ⟨by simpa using h1,i,hi,rfl,λj hj=>by simpa using h2 j hj⟩];rfl
theorem zD {fs:FS} {n:aD}:nR fs n=none↔aZ fs n=none:=by unfold nR aZ;rw [Vw,Option.map_eq_none_iff,List.find?_eq_none];constructor <;>intro h x hx <;>have:=h x hx <;>simpa using this
def dr (fs:FS) (n:aD):Int:=match nR fs n with | some i=>(i:Int) | none=>-1
theorem L0 {fs:FS} {n:aD} {k:Nat} {p:aD × aH} (hp:fs[k]?=some p) (dO:∀ (j:Nat) (q:aD × aH),j <k->fs[j]?=some q->q.1≠n) (he:p.1=n):dr fs n=k:=by
 obtain ⟨hk,rfl⟩:=List.getElem?_eq_some_iff.1 hp;have:nR fs n=some k:=by unfold nR;rw [List.findIdx?_eq_some_iff_getElem];exact ⟨hk,by simpa using he,λj hj=>by have:=dO j fs[j] hj (js (by omega));simpa using this⟩
 unfold dr;rw [this]
theorem L3 {fs:FS} {n:aD} (dO:∀ (j:Nat) (q:aD × aH),fs[j]?=some q->q.1≠n):dr fs n=-1:=by
 have:nR fs n=none:=by unfold nR;rw [Vw];intro x hx;obtain ⟨j,hj⟩:=List.mem_iff_getElem?.1 hx;have:=dO j x hj;simpa using this
 unfold dr;rw [this]
theorem Ew (fs:FS) (n:aD):(dr fs n <0)=(aZ fs n=none):=by
 rw [<-zD];unfold dr;cases nR fs n with
 | none=>simp
 | some i=>simp
theorem Sw (fs:FS) (n:aD):dr fs n <(fs.length:Int)/\-1<=dr fs n:=by
 unfold dr;cases h:nR fs n with
 | none=>simp only;omega
 | some i=>obtain ⟨x,hx,_⟩:=zC h;have:=(List.getElem?_eq_some_iff.1 hx).1;simp only;omega
theorem mM {fs:FS} {n:aD} (h:(aZ fs n).isSome=true):∃ (i:Nat),dr fs n=i/\fs[i]?=some (n,(aZ fs n).getD []):=by
 cases hf:nR fs n with
 | none=>rw [zD] at hf;rw [hf] at h;cases h
 | some i=>obtain ⟨x,hx,hg⟩:=zC hf;refine ⟨i,by unfold dr;rw [hf],by rw [hg];exact hx⟩
theorem PX {l:FS} {f:aD × aH} {k:Nat} {p:aD × aH} (hp:l[k]?=some p) (out:FS) (h:gY l f=out++gY (l.drop k) f): gY l f=if pm f.1 p.1 then (out++[f]++[p])++l.drop (k+1) else (out++[p])++gY (l.drop (k+1)) f:=by obtain ⟨hk,rfl⟩:=List.getElem?_eq_some_iff.1 hp;rw [h,pQ hk,mL];split <;>simp
theorem PY {l out:FS} {k:Nat} {p:aD × aH} (hp:l[k]?=some p) {r:FS} (h:r=out++l.drop k):r=(out++[p])++l.drop (k+1):=by obtain ⟨hk,rfl⟩:=List.getElem?_eq_some_iff.1 hp;rw [h,pQ hk];simp
theorem PZ {l out:FS} {n:aD} {k:Nat} {p:aD × aH} (hp:l[k]?=some p) (h:bV l n=out++bV (l.drop k) n): bV l n=(if p.1=n then out else out++[p])++bV (l.drop (k+1)) n:=by obtain ⟨hk,rfl⟩:=List.getElem?_eq_some_iff.1 hp;rw [h,pQ hk,lC];split <;>simp
theorem P0 {l:FS} {k:Nat} {p:aD × aH} (hp:l[k]?=some p):used (l.take (k+1))=used (l.take k)+p.2.length:=by
 induction l generalizing k with
 | nil=>simp at hp
 | cons x l ih=>
  cases k with
  | zero=>simp at hp;subst hp;simp [used]
  | succ k=>have:=ih (k:=k) (by simpa using hp);simp only [List.take_succ_cons,used,this];omega
theorem FV (l:FS):∀ (k:Nat),used (l.take k)<=used l:=by
 induction l with
 | nil=>intro k;simp [used]
 | cons x l ih=>
  intro k;cases k with
  | zero=>simp [used]
  | succ k=>have:=ih k;simp only [List.take_succ_cons,used];omega
def gM:List Value->FS->List Value
 | p::ps,f::fs=> .string f.1::p::gM ps fs
 | _,_=>[]
theorem oH:∀ (ps:List Value) (fs:FS) (p:Value) (f:aD × aH),ps.length=fs.length->gM (ps++[p]) (fs++[f])=gM ps fs++[.string f.1,p]
 | [],[],_,_,_=>rfl
 | q::ps,g::fs,p,f,h=>by simp [gM,oH ps fs p f (by simpa using h)]
 | [],_::_,_,_,h=>by simp at h
 | _::_,[],_,_,h=>by simp at h
theorem pX:∀ {ps:List Value} {fs:FS} (i:Nat) {p:Value} {f:aD × aH},ps[i]?=some p->fs[i]?=some f->(gM ps fs)[i*2]?=some (.string f.1)/\(gM ps fs)[i*2+1]?=some p
 | q::ps,g::fs,0,p,f,hp,hf=>by
  simp at hp hf;subst hp;subst hf;exact ⟨rfl,rfl⟩
 | q::ps,g::fs,i+1,p,f,hp,hf=>by
  have:=pX (ps:=ps) (fs:=fs) i (by simpa using hp) (by simpa using hf);rw [show (i+1)*2=i*2+1+1 by omega];simpa [gM] using this
 | [],_,i,_,_,hp,_=>by simp at hp
 | _::_,[],i,_,_,_,hf=>by simp at hf
def cI (F:Nat->Prop) (w:World) (v:Value) (fs:FS):Prop:=
 ∃ ps:List Value,dX (λp f=>bQ F w p f.2) ps fs/\w.ownsRow 0 184 2 v fs.length (gM ps fs)/\∀ b,v.ownBlock=some b->F b
theorem jD {w w':World} {base e n size:Nat} {v:Value} {xs:List Value} (h:w.ownsRow base e size v n xs) (hr:∀ b,v.ownBlock=some b->w'.heap[b]?=w.heap[b]?):w'.ownsRow base e size v n xs:=by obtain ⟨h1,h2⟩:=h;refine ⟨h1,h2.imp id ?_⟩;rintro ⟨g,cap,gp,rfl,hg,hb,rest⟩;exact ⟨g,cap,gp,rfl,hg,(hr g rfl).trans hb,rest⟩
theorem cI.nil (F:Nat->Prop) (w:World):cI F w (.slice none 0 0) []:=⟨[],trivial,⟨rfl,.inl ⟨rfl,rfl⟩⟩,λb hb=>by cases hb⟩
theorem cI.keep {F G:Nat->Prop} {w w':World} {v:Value} {fs:FS} (h:cI F w v fs) (hk:aP F w w') (hr:∀ b,v.ownBlock=some b->w'.heap[b]?=w.heap[b]?) (pz:∀ b,F b->b <w.heap.size->G b):cI G w' v fs:=by obtain ⟨ps,h1,h2,h3⟩:=h;exact ⟨ps,h1.mono (λp c yg=>yg.keep hk pz),jD h2 hr,λb hb=>pz b (h3 b hb) (h2.lt b hb).2⟩
theorem cI.same {F:Nat->Prop} {w w':World} {v:Value} {fs:FS} (h:cI F w v fs) (hk:∀ b,F b->w'.heap[b]?=w.heap[b]?):cI F w' v fs:=by obtain ⟨ps,h1,h2,h3⟩:=h;exact cI.keep ⟨ps,h1,h2,h3⟩ (λg cs fz hF hb=>(hk g hF).trans hb) (λb hb=>hk b (h3 b hb)) (λ_ h _=>h)
theorem cI.quiet {F G:Nat->Prop} {w w':World} {v:Value} {fs:FS} (h:cI F w v fs) (hk:ak w w') (pz:∀ b,F b->b <w.heap.size->G b):cI G w' v fs:=by obtain ⟨ps,h1,h2,h3⟩:=h;exact cI.keep ⟨ps,h1,h2,h3⟩ (aP.iq hk) (λb hb=>hk.block b (h2.lt b hb).2 (λe=>e)) pz
theorem cI.aG {F:Nat->Prop} {w:World} {v:Value} {fs:FS} (h:cI F w v fs):∃ a c,v= .slice a fs.length c/\fs.length<=c/\c<=maxLen:=by
 obtain ⟨ps,h1,h2,h3⟩:=h;rcases h2.2 with ⟨rfl,e⟩ | ⟨g,cap,gp,rfl,_,_,h4,h5,_⟩
 ·rw [e];exact ⟨none,0,rfl,eQ _,fC _⟩
 ·exact ⟨_,cap,rfl,h4,h5⟩
theorem cI.cell {F:Nat->Prop} {w:World} {v:Value} {fs:FS} (h:cI F w v fs) {i:Nat} {f:aD × aH} (hf:fs[i]?=some f): ∃ g cap p,v= .slice (some ⟨g,0,none⟩) fs.length cap/\w.cell? ⟨g,i*2,none⟩=some (.string f.1)/\w.cell? ⟨g,i*2+1,none⟩=some p/\bQ F w p f.2:=by
 obtain ⟨ps,h1,h2,h3⟩:=h;obtain ⟨p,hp,hB⟩:=h1.wV hf;have hc:=pX i hp hf;rcases h2.2 with ⟨rfl,e⟩ | ⟨g,cap,gp,rfl,_,hb,_⟩
 ·have:=(List.getElem?_eq_some_iff.1 hf).1;omega
 ·refine ⟨g,cap,p,rfl, ?_, ?_,hB⟩
  ·have:=h2.cells (g:=g) rfl (i*2) _ hc.1;simpa [iV] using this
  ·have:=h2.cells (g:=g) rfl (i*2+1) _ hc.2;simpa [iV] using this
def jx (base:Nat) (F:Nat->Prop) (w:World) (v:Value) (fs:FS):Prop:=
 ∃ ps:List Value,dX (λp f=>bQ F w p f.2) ps fs/\w.ownsRow base 184 2 v fs.length (gM ps fs)
theorem jx.nil (base:Nat) (F:Nat->Prop) (w:World):jx base F w (.slice none 0 0) []:=⟨[],trivial,⟨rfl,.inl ⟨rfl,rfl⟩⟩⟩
theorem jx.keep {base:Nat} {F:Nat->Prop} {w w':World} {v:Value} {fs:FS} (h:jx base F w v fs) (hk:ak w w'):jx base F w' v fs:=by obtain ⟨ps,h1,h2⟩:=h;exact ⟨ps,h1.mono (λp c yg=>yg.keep (aP.iq hk) (λ_ h _=>h)),jD h2 (λb hb=>hk.block b (h2.lt b hb).2 (λe=>e))⟩
theorem jx.aG {base:Nat} {F:Nat->Prop} {w:World} {v:Value} {fs:FS} (h:jx base F w v fs):∃ a c,v= .slice a fs.length c:=by obtain ⟨ps,h1,h2⟩:=h;exact bA h2
theorem jE {w:World} {base e n size:Nat} {v:Value} {xs:List Value} (h:w.ownsRow base e size v n xs) {base':Nat} (hb:base'<=base):w.ownsRow base' e size v n xs:=by obtain ⟨h1,h2⟩:=h;refine ⟨h1,h2.imp id ?_⟩;rintro ⟨g,cap,gp,rfl,hg,h3⟩;exact ⟨g,cap,gp,rfl,by omega,h3⟩
theorem jx.base {base base':Nat} {F:Nat->Prop} {w:World} {v:Value} {fs:FS} (h:jx base F w v fs) (hb:base'<=base):jx base' F w v fs:=by obtain ⟨ps,h1,h2⟩:=h;exact ⟨ps,h1,jE h2 hb⟩
theorem jx.files {base:Nat} {F G:Nat->Prop} {w:World} {v:Value} {fs:FS} (h:jx base F w v fs) (hF:∀ b,F b->b <w.heap.size->G b) (hb:∀ b,base<=b->b <w.heap.size->G b):cI G w v fs:=by obtain ⟨ps,h1,h2⟩:=h;exact ⟨ps,h1.mono (λp c yg=>yg.keep (aP.refl _ _) hF),jE h2 (fC _),λb pg=>hb b (h2.lt b pg).1 (h2.lt b pg).2⟩
theorem L4:(Tryz.prog.info? 184).map (λi=>(i.zero,i.size,i.bytes))=some (some (.agg #[.string ⟨#[]⟩,.slice none 0 0]),2,40):=by kernel_rfl
theorem jx.push {base:Nat} {F:Nat->Prop} {w:World} {v p:Value} {fs:FS} {n:aD} {l:aH} (h:jx base F w v fs) (hz:base<=w.heap.size) (hp:bQ F w p l) (hF:∀ b,F b->b <base) (hb:fs.length <1099511627776): ∃ a c w',(Builtin.append_ #[169,169] 169 #[v,.slice (some ⟨w.heap.size,0,none⟩) 1 1]).run Tryz.prog (w.alloc (.cells #[.string n,p] 184))= .ok (.slice a (fs.length+1) c) w'/\jx base F w' (.slice a (fs.length+1) c) (fs++[(n,l)])/\ ah (λb=>v.ownBlock=some b) w w'/\∀ b,v.ownBlock=some b->base<=b:=by
 obtain ⟨ps,h1,h2⟩:=h;have aX:=h2.lt;obtain ⟨i0,hi,rS,iH,jO⟩:=info_parts L4;have qT:p.oneCell'=true:=by obtain ⟨a,c,rfl,_⟩:=hp.aG;rfl
 obtain ⟨v',w',aT,dy,hg,_,jP⟩:=run_append_own_at (P:=Tryz.prog) (w.alloc (.cells #[.string n,p] 184)) base 169 169 184 i0 _ 2 40 Tryz.underlying169 hi rS iH jO rfl (by omega) v fs.length (gM ps fs) (h2.alloc _) ⟨w.heap.size,0,none⟩ 1 1 [.string n,p] rfl
  (λj u hu=>by rw [iV,fw];exact ag (heap_alloc_new w _) (by simpa using hu))
  (by intro u hu;simp at hu;rcases hu with rfl | rfl;rfl;exact qT) (by unfold maxLen;omega) (by omega) (by simp only [World.size_alloc];omega)
 obtain ⟨a,c,rfl⟩:=bA dy;have hk:ah (λb=>v.ownBlock=some b) w w':=((ah.refl _ w).alloc _).trans (ah.fH hg) (λ_ _ h=>h);have AV:aP F w w':=aP.jY hk (λg cs fz hg he=>by have:=hF g hg;have:=(aX g he).1;omega);refine ⟨a,c,w',aT,⟨ps++[p], ?_, ?_⟩,hk,λb hb=>(aX b hb).1⟩
 ·exact (h1.mono (λq f hq=>hq.keep AV (λ_ h _=>h))).append ⟨hp.keep AV (λ_ h _=>h),trivial⟩
 ·rw [oH _ _ _ _ h1.length,fS];exact dy
def iR (F:Nat->Prop) (w:World) (fs:FS) (e:Ending) (w':World):Prop:=∃ v,e= .returned v/\cI (fX F w w') w' v fs/\ak w w'
theorem iR.mk {F:Nat->Prop} {w w':World} {v:Value} {fs:FS} (h:jx w.heap.size F w' v fs) (hk:ak w w'):iR F w fs (.returned v) w':=
 ⟨v,rfl,h.files (λb hb _=> .inl hb) (λb h1 h2=> .inr ⟨h1,h2⟩),hk⟩
theorem jk {F:Nat->Prop} {w:World} {v:Value} {fs:FS} (h:cI F w v fs) (n:aD) (hb:fs.length <1099511627776):aW 79 #[v,.string n] w (.int .i64 (dr fs n)) w:=by
 unfold aW;obtain ⟨a,c,rfl,wY,pA⟩:=h.aG;have H:=ae h;go_enter Tryz.func79,Tryz.ntmps79;go_wp2_with fail;go_loopw [5] (λi wx=>∃ k:Nat,k<=fs.length/\i= .int .i64 (k:Int)/\wx=w/\∀ j q,j <k->fs[j]?=some q->q.1≠n) (λi _=>fs.length - (intOf i).toNat);case atStart=>exact ⟨0,fC _,rfl,rfl,λj q hj=>by omega⟩
 case round=>
  obtain ⟨k,hk,rfl,rfl,sP⟩:=hrel;have j0:=np k;by_cases aX:k <fs.length
  ·obtain ⟨f,hf⟩:∃ f,fs[k]?=some f:=⟨fs[k],js aX⟩;obtain ⟨g,cap,p,e,iL,gy,_⟩:=H.Z.cell hf;simp only [Value.slice.injEq] at e;obtain ⟨rfl,-,rfl⟩:=e;have j1:(k:Int) <fs.length:=by omega
   by_cases he:f.1=n
   ·have cK:=L0 hf sP he;have HF:=ae cK;have hq:(f.1.toList==n.toList)=true:=by rw [he];simp
    go_wp2;go_ret;exact ⟨by rw [HF.Z];rfl,rfl⟩
   ·have acN:∀ j q,j <k+1->fs[j]?=some q->q.1≠n:=λj q hj hq=>by
     by_cases e:j=k
     ·subst e;rw [hf] at hq;cases hq;exact he
     ·exact sP j q (by omega) hq
    have HN:=ae acN;have hq:(f.1.toList==n.toList)=false:=by rw [Bool.eq_false_iff];intro hc;exact he (toList_inj (by simpa using hc))
    go_wp2;go_roundw;case rel=>exact ⟨k+1,by omega,rfl,trivial,HN.Z⟩
    case measure=>simp [intOf];omega
  ·obtain rfl:k=fs.length:=by omega
   have cK:dr fs n=-1:=L3 (λj q hq=>sP j q (List.getElem?_eq_some_iff.1 hq).1 hq);have HF:=ae cK;go_wp2;go_ret;exact ⟨by rw [HF.Z];rfl,rfl⟩
theorem BF {F:Nat->Prop} {w:World} {v:Value} {fs:FS} (h:cI F w v fs) (hb:fs.length <1099511627776) (hu:used fs<=4611686018427387904):aW 97 #[v] w (.int .i64 (used fs:Int)) w:=by
 unfold aW;obtain ⟨a,c,rfl,wY,pA⟩:=h.aG;have H:=ae h;have i2:(used fs:Int)<=4611686018427387904:=by omega
 go_enter Tryz.func97,Tryz.ntmps97;go_wp2_with fail;go_loopw [3,4] (λn i wx=>∃ k:Nat,k<=fs.length/\i= .int .i64 (k:Int)/\n= .int .i64 (used (fs.take k):Int)/\wx=w) (λ_ i _=>fs.length - (intOf i).toNat);case atStart=>exact ⟨0,fC _,rfl,rfl,rfl⟩
 case round=>
  obtain ⟨k,hk,rfl,rfl,rfl⟩:=hrel;have j0:=np k;by_cases aX:k <fs.length
  ·obtain ⟨f,hf⟩:∃ f,fs[k]?=some f:=⟨fs[k],js aX⟩;obtain ⟨g,cap,p,e,iL,gy,hB⟩:=H.Z.cell hf;simp only [Value.slice.injEq] at e;obtain ⟨rfl,-,rfl⟩:=e;obtain ⟨pa,pc,rfl,_,_⟩:=hB.aG;have bG:=P0 hf;have lf:=FV fs (k+1);have j1:(k:Int) <fs.length:=by omega
   have j2:(used (fs.take k):Int)+(f.2.length:Int)<=4611686018427387904:=by omega
   have j3:(0:Int)<=(used (fs.take k):Int):=by omega
   have HS:=ae bG;generalize used (fs.take k)=t at j2 j3 HS;go_wp2;go_roundw;case rel=>exact ⟨k+1,by omega,rfl,by rw [HS.Z];rfl,trivial⟩
   case measure=>simp [intOf];omega
  ·obtain rfl:k=fs.length:=by omega
   rw [jX];go_wp2;go_ret;exact ⟨rfl,rfl⟩
theorem lZ (s:aD) (w:World):aW 169 #[.string s] w (.bool (bU s)) w:=by
 have e:bU s=(decide ((1:Int)<=(s.size:Int)) && decide ((s.size:Int)<=160)):=by
  unfold bU;congr 1;rw [Fz];have:s.toList.length=s.size:=by rw [ByteArray.toList_eq,Array.length_toList];rfl
  cases hl:s.toList with
  | nil=>rw [hl] at this;simp at this ⊢;omega
  | cons x l=>rw [hl] at this;simp at this ⊢;omega
 rw [e];unfold aW;generalize hx:decide ((1:Int)<=(s.size:Int))=x;generalize hy:decide ((s.size:Int)<=160)=y;go_enter Tryz.func169,Tryz.ntmps169;cases x <;>cases y;all_goals go_wp2
 all_goals go_ret
 all_goals exact ⟨by simp,rfl⟩
theorem l4 {F:Nat->Prop} {w:World} {v:Value} {fs:FS} (h:cI F w v fs) (hF:∀ b,F b->b <w.heap.size) (n:aD) (hb:fs.length <1099511627776):bF 171 #[v,.string n] w (iR F w (bV fs n)):=by
 obtain ⟨a,c,rfl,wY,pA⟩:=h.aG;have H:=ae h;have HF:=ae hF;go_enter Tryz.func171,Tryz.ntmps171;go_wp2_with fail;go_loopw [5,6] (λov i wx=>∃ (k:Nat) (out:FS),k<=fs.length/\i= .int .i64 (k:Int)/\out.length<=k/\bV fs n=out++bV (fs.drop k) n/\jx w.heap.size F wx ov out/\ak w wx) (λ_ i _=>fs.length - (intOf i).toNat);case atStart=>exact ⟨0,[],fC _,rfl,eQ _,by simp,jx.nil _ _ _,ah.refl _ _⟩
 case round=>
  obtain ⟨k,out,hk,rfl,cU,aU,ho,hq⟩:=hrel;have j0:=np k;obtain ⟨oa,oc,rfl⟩:=ho.aG;by_cases aX:k <fs.length
  ·obtain ⟨f,hf⟩:∃ f,fs[k]?=some f:=⟨fs[k],js aX⟩;obtain ⟨g,cap,p,e,iL,gy,hB⟩:=(H.Z.quiet hq (G:=F) (λ_ h _=>h)).cell hf;simp only [Value.slice.injEq] at e;obtain ⟨rfl,-,rfl⟩:=e;have bG:=PZ hf aU;have j1:(k:Int) <fs.length:=by omega
   by_cases he:f.1=n
   ·rw [if_pos he] at bG;have HS:=ae bG;have HO:=ae ho;have HQ:=ae hq;have hqn:(f.1.toList==n.toList)=true:=by rw [he];simp
    go_wp2;go_roundw;case rel=>exact ⟨k+1,out,by omega,rfl,by omega,HS.Z,HO.Z,HQ.Z⟩
    case measure=>simp [intOf];omega
   ·rw [if_neg he] at bG;have hqn:(f.1.toList==n.toList)=false:=by rw [Bool.eq_false_iff];intro hc;exact he (toList_inj (by simpa using hc))
    obtain ⟨a2,c2,w2,aT,dy,cg,kh⟩:=ho.push (n:=f.1) hq.size hB HF.Z (by omega);have iI:=hq.trans cg (λb hb e=>by have:=kh b e;omega);have cV:=ae aT;have dE:=ae (⟨k+1,out++[f],by omega,rfl,by simp;omega,bG,by rw [show (out++[f]).length=out.length+1 by simp];exact dy,iI⟩:∃ (k':Nat) (out':FS),k'<=fs.length/\Value.int .i64 ((k+1:Nat):Int)= .int .i64 (k':Int)/\out'.length<=k'/\bV fs n=out'++bV (fs.drop k') n/\jx w.heap.size F w2 (.slice a2 ((out++[f]).length) c2) out'/\ak w w2);obtain ⟨pa,pc,rfl,_,_⟩:=hB.aG;go_wp2_with (at_builtin;(first | (refine ao (w:=wr.alloc (.cells #[.string f.1,.slice pa f.2.length pc] 184)) rfl _ _ _ _ rfl rfl rfl cV.Z ?_)));go_roundw;case rel=>have h:=dE.Z;simp only [fS,iM,gN,fw] at h;exact h
    case measure=>simp [intOf];omega
  ·obtain rfl:k=fs.length:=by omega
   rw [pR] at aU;have cK:iR F w (bV fs n) (.returned (.slice oa out.length oc)) wr:=by rw [aU];simpa [bV] using iR.mk ho hq
   have fk:=ae cK;go_wp2;go_ret;exact fk.Z
theorem tD {F:Nat->Prop} {w:World} {v:Value} {fs:FS} (h:cI F w v fs) (hF:∀ b,F b->b <w.heap.size) (n:aD) {qv:Value} {l:aH} (PI:bQ F w qv l) (hb:fs.length <549755813888):bF 170 #[v,.agg #[.string n,qv]] w (iR F w (gY fs (n,l))):=by
 obtain ⟨a,c,rfl,wY,pA⟩:=h.aG;obtain ⟨qa,qc,rfl,_,_⟩:=PI.aG;obtain ⟨w1,fh⟩:=cE (w.alloc (.cells #[.string n,.slice qa l.length qc] 184));have bN:ak w w1:=by rw [fh];exact (ah.refl _ w).alloc _
 have iH:w1.heap.size=w.heap.size+1:=by rw [fh];simp
 have kB:w1.heap[w.heap.size]?=some (.cells #[.string n,.slice qa l.length qc] 184 (0,0)):=by rw [fh];exact heap_alloc_new _ _
 have H:=ae (h.quiet bN (G:=F) (λ_ h _=>h));have HQ0:=ae (PI.keep (aP.iq bN) (G:=F) (λ_ h _=>h));have HF:=ae (λb hb=>by have:=hF b hb;omega:∀ b,F b->b <w.heap.size+1);have iW:=ae bN;go_enter Tryz.func170,Tryz.ntmps170;go_wp2_with fail;rw [<-fh];go_loopw [5,6,7] (λov dv i wx=>∃ (k:Nat) (out:FS) (dn:Bool),k<=fs.length/\i= .int .i64 (k:Int)/\dv= .bool dn/\out.length<=2*k/\gY fs (n,l)=out++(if dn then fs.drop k else gY (fs.drop k) (n,l))/\jx (w.heap.size+1) F wx ov out/\ak w1 wx) (λ_ _ i _=>fs.length - (intOf i).toNat);case atStart=>exact ⟨0,[],false,fC _,rfl,rfl,fC _,by simp,jx.nil _ _ _,ah.refl _ _⟩
 case round=>
  obtain ⟨k,out,dn,hk,rfl,rfl,cU,aU,ho,hq⟩:=hrel;have j0:=np k;obtain ⟨oa,oc,rfl⟩:=ho.aG;have L5:=hq.at kB (λe=>e);have b0:wr.cell? ⟨w.heap.size,0,none⟩=some (.string n):=ag L5 rfl;have b1:wr.cell? ⟨w.heap.size,1,none⟩=some (.slice qa l.length qc):=ag L5 rfl;by_cases aX:k <fs.length
  ·obtain ⟨f,hf⟩:∃ f,fs[k]?=some f:=⟨fs[k],js aX⟩;obtain ⟨g,cap,p,e,iL,gy,hB⟩:=(H.Z.quiet hq (G:=F) (λ_ h _=>h)).cell hf;simp only [Value.slice.injEq] at e;obtain ⟨rfl,-,rfl⟩:=e;have j1:(k:Int) <fs.length:=by omega
   obtain ⟨pa,pc,rfl,_,_⟩:=hB.aG;have hqd:ak w1 wr.drew:=hq.drew;have hod:jx (w.heap.size+1) F wr.drew (.slice oa out.length oc) out:=ho.keep (ah.refl _ wr).drew;have hBd:bQ F wr.drew (.slice pa f.2.length pc) f.2:=hB.keep (aP.refl F wr).drew (λ_ h _=>h);have adP:wr.drew.cell? ⟨g,k*2,none⟩=some (.string f.1):=iL;have adQ:wr.drew.cell? ⟨g,k*2+1,none⟩=some (.slice pa f.2.length pc):=gy;have b0d:wr.drew.cell? ⟨w.heap.size,0,none⟩=some (.string n):=b0;have b1d:wr.drew.cell? ⟨w.heap.size,1,none⟩=some (.slice qa l.length qc):=b1;have hsd:=hqd.size;cases dn
   ·rw [if_neg (by simp)] at aU;have bG:=PX hf out aU;cases kg:Op.bytesLess n.toList f.1.toList
    ·rw [show pm (n,l).1 f.1=false from kg,if_neg (by simp)] at bG;obtain ⟨a2,c2,w2,aT,dy,cg,kh⟩:=hod.push (n:=f.1) (by omega) hBd HF.Z (by omega);have iI:=hqd.trans cg (λb hb e=>by have:=kh b e;omega);have cV:=ae aT;have dE:=ae (⟨k+1,out++[f],false,by omega,rfl,rfl,by simp;omega,by rw [if_neg (by simp)];exact bG,by rw [show (out++[f]).length=out.length+1 by simp];exact dy,iI⟩:∃ (k':Nat) (out':FS) (dn:Bool),k'<=fs.length/\Value.int .i64 ((k+1:Nat):Int)= .int .i64 (k':Int)/\Value.bool false= .bool dn/\out'.length<=2*k'/\gY fs (n,l)=out'++(if dn then fs.drop k' else gY (fs.drop k') (n,l))/\jx (w.heap.size+1) F w2 (.slice a2 ((out++[f]).length) c2) out'/\ak w1 w2);go_wp2_with fail;go_region_held3 (λw'=>w'.cell? ⟨w.heap.size,0,none⟩=some (.string n)/\w'.cell? ⟨g,k*2,none⟩=some (.string f.1)) (first | exact ⟨b0,iL⟩ | go_keep) (fail);go_wp2_with (at_builtin;(first | (refine ao (w:=wr.drew.alloc (.cells #[.string f.1,.slice pa f.2.length pc] 184)) rfl _ _ _ _ rfl rfl rfl cV.Z ?_)));go_roundw;case rel=>have h:=dE.Z;simp only [fS,iM,gN,fw] at h;exact h
     case measure=>simp [intOf];omega
    ·rw [show pm (n,l).1 f.1=true from kg,if_pos rfl] at bG;obtain ⟨a2,c2,w2,aT,dy,cg,kh⟩:=hod.push (n:=n) (by omega) ((HQ0.Z.keep (aP.iq hqd) (G:=F) (λ_ h _=>h))) HF.Z (by omega);have iI:=hqd.trans cg (λb hb e=>by have:=kh b e;omega);obtain ⟨g',aa6,p',e',He,uw,uV⟩:=(H.Z.quiet iI (G:=F) (λ_ h _=>h)).cell hf;simp only [Value.slice.injEq,im,Addr.mk.injEq,and_true,true_and] at e';obtain ⟨rfl,rfl⟩:=e';obtain ⟨pa2,pc2,rfl,_,_⟩:=uV.aG;have og:=iI.size;have zE:(out++[(n,l)]).length=out.length+1:=by simp
     rw [<-zE] at aT dy;obtain ⟨a3,c3,w3,jw,fy,dN,Zm⟩:=dy.push (n:=f.1) (by omega) uV HF.Z (by rw [zE];omega);have yw:=iI.trans dN (λb hb e=>by have:=Zm b e;omega);have cV:=ae aT;have zF:=ae jw;have dE:=ae (⟨k+1,out++[(n,l)]++[f],true,by omega,rfl,rfl,by simp;omega,by rw [if_pos rfl];exact bG,fy,yw⟩:∃ (k':Nat) (out':FS) (dn:Bool),k'<=fs.length/\Value.int .i64 ((k+1:Nat):Int)= .int .i64 (k':Int)/\Value.bool true= .bool dn/\out'.length<=2*k'/\gY fs (n,l)=out'++(if dn then fs.drop k' else gY (fs.drop k') (n,l))/\jx (w.heap.size+1) F w3 (.slice a3 ((out++[(n,l)]).length+1) c3) out'/\ak w1 w3);generalize (out++[(n,l)]).length=ln2 at cV zF dE;go_wp2_with fail;go_region_held3 (λw'=>w'.cell? ⟨w.heap.size,0,none⟩=some (.string n)/\w'.cell? ⟨g,k*2,none⟩=some (.string f.1)) (first | exact ⟨b0,iL⟩ | go_keep) (fail);go_wp2_with (at_builtin;(first | (refine ao (w:=wr.drew.alloc (.cells #[.string n,.slice qa l.length qc] 184)) rfl _ _ _ _ rfl rfl rfl cV.Z ?_) | (refine ao (w:=w2.alloc (.cells #[.string f.1,.slice pa2 f.2.length pc2] 184)) rfl _ _ _ _ rfl rfl rfl zF.Z ?_)));go_roundw;case rel=>exact dE.Z
     case measure=>simp [intOf];omega
   ·rw [if_pos rfl] at aU;have bG:=PY hf aU;obtain ⟨a2,c2,w2,aT,dy,cg,kh⟩:=hod.push (n:=f.1) (by omega) hBd HF.Z (by omega);have iI:=hqd.trans cg (λb hb e=>by have:=kh b e;omega);have cV:=ae aT;have dE:=ae (⟨k+1,out++[f],true,by omega,rfl,rfl,by simp;omega,by rw [if_pos rfl];exact bG,by rw [show (out++[f]).length=out.length+1 by simp];exact dy,iI⟩:∃ (k':Nat) (out':FS) (dn:Bool),k'<=fs.length/\Value.int .i64 ((k+1:Nat):Int)= .int .i64 (k':Int)/\Value.bool true= .bool dn/\out'.length<=2*k'/\gY fs (n,l)=out'++(if dn then fs.drop k' else gY (fs.drop k') (n,l))/\jx (w.heap.size+1) F w2 (.slice a2 ((out++[f]).length) c2) out'/\ak w1 w2);go_wp2_with fail;go_region;go_wp2_with (at_builtin;(first | (refine ao (w:=wr.drew.alloc (.cells #[.string f.1,.slice pa f.2.length pc] 184)) rfl _ _ _ _ rfl rfl rfl cV.Z ?_)));go_roundw;case rel=>have h:=dE.Z;simp only [fS,iM,gN,fw] at h;exact h
    case measure=>simp [intOf];omega
  ·obtain rfl:k=fs.length:=by omega
   rw [pR] at aU;have hsd:=hq.size;cases dn
   ·rw [if_neg (by simp)] at aU;obtain ⟨a2,c2,w2,aT,dy,cg,kh⟩:=ho.push (n:=n) (by omega) ((HQ0.Z.keep (aP.iq hq) (G:=F) (λ_ h _=>h))) HF.Z (by omega);have iI:=hq.trans cg (λb hb e=>by have:=kh b e;omega);have cK:iR F w (gY fs (n,l)) (.returned (.slice a2 (out.length+1) c2)) w2:=by rw [aU];exact iR.mk (dy.base (by omega)) (iW.Z.trans iI (λ_ _ e=>e))
    have fk:=ae cK;have cV:=ae aT;go_wp2_with (at_builtin;(refine ao (w:=wr.alloc (.cells #[.string n,.slice qa l.length qc] 184)) rfl _ _ _ _ rfl rfl rfl cV.Z ?_));go_ret;exact fk.Z
   ·rw [if_pos rfl,qh] at aU;have cK:iR F w (gY fs (n,l)) (.returned (.slice oa out.length oc)) wr:=by rw [aU];exact iR.mk (ho.base (by omega)) (iW.Z.trans hq (λ_ _ e=>e))
    have fk:=ae cK;go_wp2;go_ret;exact fk.Z
theorem Ex {F:Nat->Prop} {w w1 w2:World} (h1:w.heap.size<=w1.heap.size) (h2:w1.heap.size<=w2.heap.size):∀ b,fX (fX F w w1) w1 w2 b->fX F w w2 b:=λb hb=>by
 rcases hb with (hb | hb) | hb
 ·exact .inl hb
 ·exact .inr ⟨hb.1,by omega⟩
 ·exact .inr ⟨by omega,hb.2⟩
theorem iR.after {F:Nat->Prop} {w w1 w2:World} {fs:FS} {e:Ending} (hk:ak w w1) (h:iR (fX F w w1) w1 fs e w2):iR F w fs e w2:=by obtain ⟨v,rfl,h1,h2⟩:=h;exact ⟨v,rfl,h1.keep (aP.refl _ _) (λ_ _=>rfl) (λb hb _=>Ex hk.size h2.size b hb),hk.trans h2 (λ_ _ e=>e)⟩
theorem oJ {F:Nat->Prop} {w w1:World} (hF:∀ b,F b->b <w.heap.size) (hk:w.heap.size<=w1.heap.size):∀ b,fX F w w1 b->b <w1.heap.size:=λb hb=>by
 rcases hb with hb | hb
 ·have:=hF b hb;omega
 ·exact hb.2
theorem Ol {F:Nat->Prop} {w w1 w2:World} (h1:w.heap.size<=w1.heap.size) (h2:w1.heap.size<=w2.heap.size):∀ b,fX F w w1 b->fX F w w2 b:=λb hb=>hb.imp id (λhb=>⟨hb.1,by omega⟩)
theorem tE (fs:FS) (x:aD):(bV fs x).length<=fs.length:=Fu _ _
theorem L6 {F:Nat->Prop} {w:World} {v:Value} {fs:FS} (h:cI F w v fs) (hF:∀ b,F b->b <w.heap.size) (x y:aD) (pv:Value) (hb:fs.length <549755813888): bF 132 #[v,.agg #[.int .i64 0,.string x,.string y,pv]] w (iR F w (gY fs (x,[]))):=by obtain ⟨a,c,rfl,wY,pA⟩:=h.aG;have bN:ak w (w.alloc (.cells #[.int .i64 0,.string x,.string y,pv] 176)):=(ah.refl _ w).alloc _;have hw:=tD (h.quiet bN (G:=fX F w (w.alloc (.cells #[.int .i64 0,.string x,.string y,pv] 176))) (λ_ h _=> .inl h)) (oJ hF bN.size) x (bQ.nil _ _) hb;have HW:=ae hw;have HK:=ae bN;go_enter Tryz.func132,Tryz.ntmps132;go_wp2_with fail;refine HW.Z.mono ?_;intro e w2 hp;have HP:=ae (hp.after HK.Z);obtain ⟨v2,rfl,h2,k2⟩:=hp;obtain ⟨a2,c2,rfl,_,_⟩:=h2.aG;go_wp2;go_ret;exact HP.Z
theorem L7 {F:Nat->Prop} {w:World} {v:Value} {fs:FS} (h:cI F w v fs) (hF:∀ b,F b->b <w.heap.size) (x y:aD) (pv:Value) (hb:fs.length <549755813888): bF 132 #[v,.agg #[.int .i64 2,.string x,.string y,pv]] w (iR F w (bV fs x)):=by obtain ⟨a,c,rfl,wY,pA⟩:=h.aG;have bN:ak w (w.alloc (.cells #[.int .i64 2,.string x,.string y,pv] 176)):=(ah.refl _ w).alloc _;have hw:=l4 (h.quiet bN (G:=fX F w (w.alloc (.cells #[.int .i64 2,.string x,.string y,pv] 176))) (λ_ h _=> .inl h)) (oJ hF bN.size) x (by omega);have HW:=ae hw;have HK:=ae bN;go_enter Tryz.func132,Tryz.ntmps132;go_wp2_with fail;refine HW.Z.mono ?_;intro e w2 hp;have HP:=ae (hp.after HK.Z);obtain ⟨v2,rfl,h2,k2⟩:=hp;obtain ⟨a2,c2,rfl,_,_⟩:=h2.aG;go_wp2;go_ret;exact HP.Z
theorem L8 {F:Nat->Prop} {w:World} {v:Value} {fs:FS} (h:cI F w v fs) (hF:∀ b,F b->b <w.heap.size) (x y:aD) {pv:Value} {p:aH} (hp:aC w pv p) (hb:fs.length <549755813888) (hs:(aZ fs x).isSome=true) (jd:((aZ fs x).getD []).length+p.length<=140737488355328): bF 132 #[v,.agg #[.int .i64 1,.string x,.string y,pv]] w (iR F w (gY (bV fs x) (x,(aZ fs x).getD []++p))):=by
 obtain ⟨a,c,rfl,wY,pA⟩:=h.aG;obtain ⟨pa,pc,rfl,_,_⟩:=hp.aG;obtain ⟨w1,fh⟩:=cE (w.alloc (.cells #[.int .i64 1,.string x,.string y,.slice pa p.length pc] 176));have bN:ak w w1:=by rw [fh];exact (ah.refl _ w).alloc _
 have kB:w1.heap[w.heap.size]?=some (.cells #[.int .i64 1,.string x,.string y,.slice pa p.length pc] 176 (0,0)):=by rw [fh];exact heap_alloc_new _ _
 have h1:=h.quiet bN (G:=fX F w w1) (λ_ h _=> .inl h);have hF1:=oJ hF bN.size;have zG:=jk h1 x (by omega);obtain ⟨k,XZ,uF⟩:=mM hs;rw [XZ] at zG;obtain ⟨g,cap,qv,e,iL,gy,hB⟩:=h1.cell uF;simp only [Value.slice.injEq] at e;obtain ⟨rfl,-,rfl⟩:=e;have qU:=(List.getElem?_eq_some_iff.1 uF).1;have j0:=np k;have j1:(k:Int) <fs.length:=by omega
 have AZ:=fO hB.reads (by simp only;omega);simp only at AZ;obtain ⟨qa,qc,rfl,_,_⟩:=hB.aG;generalize (aZ fs x).getD []=l at*;have qT:=hp.keep bN;have H1:=ae h1;have iW:=ae bN;have HP1:=ae qT;have hFw:=ae hF;clear h hF XZ uF qU hB h1 hF1 bN qT hp hs;go_enter Tryz.func132,Tryz.ntmps132;go_wp2_with fail;rw [<-fh];clear fh;refine zG.Z.mono ?_;rintro e w' ⟨rfl,rfl⟩;go_wp2_with fail;refine AZ.mono ?_;rintro e w2 ⟨v2,rfl,dy,cg⟩;obtain ⟨v3,w3,jw,fy,dN⟩:=dy.grow cg.size (HP1.Z.keep cg) jd;have P1:ak w1 w3:=cg.trans dN (λb hb e=>by have:=(du dy b e).2;omega);have I1:=cg.at kB (λe=>e);have I2:=P1.at kB (λe=>e);have c21:w2.cell? ⟨w.heap.size,3,none⟩=some (.slice pa p.length pc):=ag I1 rfl;have c31:w3.cell? ⟨w.heap.size,1,none⟩=some (.string x):=ag I2 rfl;obtain ⟨a2,c2,rfl,_,_⟩:=dy.bytes.aG;obtain ⟨a3,c3,rfl,_,_⟩:=fy.bytes.aG;have FW:=ae jw;have hF3:=oJ hFw.Z (show w.heap.size<=w3.heap.size by have:=iW.Z.size;have:=P1.size;omega);have h3:cI (fX F w w3) w3.drew (.slice (some ⟨g,0,none⟩) fs.length c) fs:=H1.Z.quiet P1.drew (λb hb _=>Ol iW.Z.size P1.size b hb);have Zn:=l4 h3 hF3 x (by omega);have lQ:=tE fs x;have iZ:∀ v4 w4,cI (fX (fX F w w3) w3.drew w4) w4 v4 (bV fs x)->ak w3.drew w4->bF 170 #[v4,.agg #[.string x,.slice a3 (l.length+p.length) c3]] w4 (λe w5=>iR F w (gY (bV fs x) (x,l++p)) e w5/\w5.cell? ⟨w.heap.size,1,none⟩=some (.string x)):=λv4 w4 h4 k4=>by
  refine (tD (l:=l++p) h4 (oJ hF3 k4.size) x ?_ (by omega)).mono (λe w5 h5=> ?_)
  ·have:=fy.bytes.keep (aP.iq k4.eD) (G:=fX (fX F w w3) w3.drew w4) (λb hb ox=> .inl (.inr ⟨by have:=iW.Z.size;omega,ox⟩));rw [fS] at this;exact this
  ·refine ⟨iR.after (iW.Z.trans P1 (λ_ _ e=>e)) (iR.after (F:=fX F w w3) k4.eD h5), ?_⟩;obtain ⟨v5,_,_,k5⟩:=h5;exact ag ((k4.eD.trans k5 (λ_ _ e=>e)).at I2 (λe=>e)) rfl
 have I3:∀ w4,ak w3.drew w4->w4.cell? ⟨w.heap.size,1,none⟩=some (.string x):=λw4 k4=>ag (k4.eD.at I2 (λe=>e)) rfl;have HWO:=ae Zn;have HN:=ae iZ;have VW:=ae I3;clear jw P1 fy dy cg dN I1 I2 AZ Zn iZ hF3 h3 I3 lQ;go_wp2_with (at_builtin;(refine ao (w:=w2) rfl _ _ _ _ rfl rfl rfl FW.Z ?_));go_region_held3 (λw'=>w'.cell? ⟨w.heap.size,1,none⟩=some (.string x)) (first | exact c31 | exact VW.Z _ k4 | exact q5 | go_keep) (first | (go_at_call 171;refine HWO.Z.mono ?_;rintro e w4 ⟨v4,rfl,h4,k4⟩) | (go_at_call 170;refine (HN.Z _ _ h4 k4).mono ?_;rintro e w5 ⟨⟨v5,rfl,h5,k5⟩,q5⟩));obtain ⟨a5,c5,rfl,_,_⟩:=h5.aG;have HP:=ae (⟨_,rfl,h5,k5⟩:iR F w (gY (bV fs x) (x,l++p)) (.returned (.slice a5 _ c5)) w5);clear h5 k5 h4 k4;go_wp2;go_ret;exact HP.Z
theorem L9 {F:Nat->Prop} {w:World} {v:Value} {fs:FS} (h:cI F w v fs) (hF:∀ b,F b->b <w.heap.size) (x y:aD) {pv:Value} (hb:fs.length <549755813888) (hs:(aZ fs x).isSome=true): bF 132 #[v,.agg #[.int .i64 3,.string x,.string y,pv]] w (iR F w (gY (bV (bV fs x) y) (y,(aZ fs x).getD []))):=by
 obtain ⟨a,c,rfl,wY,pA⟩:=h.aG;obtain ⟨w1,fh⟩:=cE (w.alloc (.cells #[.int .i64 3,.string x,.string y,pv] 176));have bN:ak w w1:=by rw [fh];exact (ah.refl _ w).alloc _
 have kB:w1.heap[w.heap.size]?=some (.cells #[.int .i64 3,.string x,.string y,pv] 176 (0,0)):=by rw [fh];exact heap_alloc_new _ _
 have h1:=h.quiet bN (G:=fX F w w1) (λ_ h _=> .inl h);have hF1:=oJ hF bN.size;have zG:=jk h1 x (by omega);obtain ⟨k,XZ,uF⟩:=mM hs;rw [XZ] at zG;obtain ⟨g,cap,qv,e,iL,gy,hB⟩:=h1.cell uF;simp only [Value.slice.injEq] at e;obtain ⟨rfl,-,rfl⟩:=e;have qU:=(List.getElem?_eq_some_iff.1 uF).1;have j0:=np k;have j1:(k:Int) <fs.length:=by omega
 obtain ⟨qa,qc,rfl,_,_⟩:=hB.aG;simp only at hB gy;generalize (aZ fs x).getD []=l at*;have b1:w1.cell? ⟨w.heap.size,1,none⟩=some (.string x):=ag kB rfl;have b2:w1.cell? ⟨w.heap.size,2,none⟩=some (.string y):=ag kB rfl;have Zn:=l4 (w:=w1.drew) (h1.same (λ_ _=>rfl)) hF1 x (by omega);have lQ:=tE fs x;have acO:=tE (bV fs x) y;have I3:∀ w4,ak w1.drew w4->w4.cell? ⟨w.heap.size,1,none⟩=some (.string x)/\w4.cell? ⟨w.heap.size,2,none⟩=some (.string y):=λw4 k4=>⟨ag (k4.eD.at kB (λe=>e)) rfl,ag (k4.eD.at kB (λe=>e)) rfl⟩;have Sx:∀ v4 w4,cI (fX (fX F w w1) w1.drew w4) w4 v4 (bV fs x)->ak w1.drew w4->bF 171 #[v4,.string y] w4 (λe w5=>∃ v5,e= .returned v5/\cI (fX (fX F w w1) w1.drew w5) w5 v5 (bV (bV fs x) y)/\ak w1.drew w5):=λv4 w4 h4 k4=>by refine (l4 h4 (oJ hF1 k4.size) y (by omega)).mono (λe w5 h5=> ?_);obtain ⟨v5,rfl,h5,k5⟩:=iR.after k4 h5;exact ⟨v5,rfl,h5,k5⟩
 have iZ:∀ v4 w4,cI (fX (fX F w w1) w1.drew w4) w4 v4 (bV (bV fs x) y)->ak w1.drew w4->bF 170 #[v4,.agg #[.string y,.slice qa l.length qc]] w4 (λe w5=>iR F w (gY (bV (bV fs x) y) (y,l)) e w5/\ak w1.drew w5):=λv4 w4 h4 k4=>by refine (tD (l:=l) h4 (oJ hF1 k4.size) y (hB.keep (aP.iq k4.eD) (λb hb _=> .inl hb)) (by omega)).mono (λe w5 h5=> ?_);refine ⟨iR.after bN (iR.after (F:=fX F w w1) k4.eD h5), ?_⟩;obtain ⟨v5,_,_,k5⟩:=h5;exact k4.trans k5 (λ_ _ e=>e)
 have HWO:=ae Zn;have HN:=ae iZ;have Vd:=ae Sx;have VW:=ae I3;clear h hF XZ uF qU hB h1 hF1 bN hs Zn iZ Sx I3 lQ acO kB;go_enter Tryz.func132,Tryz.ntmps132;go_wp2_with fail;rw [<-fh];clear fh;refine zG.Z.mono ?_;rintro e w' ⟨rfl,rfl⟩;go_wp2_with fail;go_region_held3 (λw'=>w'.cell? ⟨w.heap.size,1,none⟩=some (.string x)/\w'.cell? ⟨w.heap.size,2,none⟩=some (.string y)) (first | exact ⟨b1,b2⟩ | exact VW.Z _ k6 | exact VW.Z _ k5 | exact VW.Z _ k4 | go_keep) (first | (go_at_call 171;refine (Vd.Z _ _ h4 k4).mono ?_;rintro e w5 ⟨v5,rfl,h5,k5⟩) | (go_at_call 171;refine HWO.Z.mono ?_;rintro e w4 ⟨v4,rfl,h4,k4⟩) | (go_at_call 170;refine (HN.Z _ _ h5 k5).mono ?_;rintro e w6 ⟨⟨v6,rfl,h6,q6⟩,k6⟩));obtain ⟨a6,c6,rfl,_,_⟩:=h6.aG;have HP:=ae (⟨_,rfl,h6,q6⟩:iR F w (gY (bV (bV fs x) y) (y,l)) (.returned (.slice a6 _ c6)) w6);clear h6 q6 h5 k5 h4 k4 k6;go_wp2;go_ret;exact HP.Z
theorem Ey {F:Nat->Prop} {w:World} {v:Value} {fs:FS} (h:cI F w v fs) (hF:∀ b,F b->b <w.heap.size) (hs:bp fs) (c:Ch) (hm:Zk fs c) {pv:Value} (hp:aC w pv c.p) (hb:fs.length <549755813888) (jd:c.kind=1->((aZ fs c.a).getD []).length+c.p.length<=140737488355328): bF 132 #[v,.agg #[.int .i64 c.kind,.string c.a,.string c.b,pv]] w (iR F w (bW fs c)):=by
 rw [<-Zl hs hm];obtain ⟨⟨k0,k3⟩,m1,m2⟩:=hm;obtain ⟨k,x,y,p⟩:=c;simp only at*;have:k=0\/k=1\/k=2\/k=3:=by omega
 rcases this with rfl | rfl | rfl | rfl
 ·exact L6 h hF x y pv hb
 ·exact L8 h hF x y hp hb (m2 (by decide)) (jd rfl)
 ·exact L7 h hF x y pv hb
 ·exact L9 h hF x y hb (m2 (by decide))
def fZ (F:Nat->Prop) (w:World) (v:Value) (cs:List Ch):Prop:=
 ∃ ps:List Value,dX (λp c=>bQ F w p c.p) ps cs/\w.ownsRow 0 176 4 v cs.length (fF ps cs)/\∀ b,v.ownBlock=some b->F b
theorem fZ.nil (F:Nat->Prop) (w:World):fZ F w (.slice none 0 0) []:=⟨[],trivial,⟨rfl,.inl ⟨rfl,rfl⟩⟩,λb hb=>by cases hb⟩
theorem fZ.keep {F G:Nat->Prop} {w w':World} {v:Value} {cs:List Ch} (h:fZ F w v cs) (hk:aP F w w') (hr:∀ b,v.ownBlock=some b->w'.heap[b]?=w.heap[b]?) (pz:∀ b,F b->b <w.heap.size->G b):fZ G w' v cs:=by obtain ⟨ps,h1,h2,h3⟩:=h;exact ⟨ps,h1.mono (λp c yg=>yg.keep hk pz),jD h2 hr,λb hb=>pz b (h3 b hb) (h2.lt b hb).2⟩
theorem fZ.same {F:Nat->Prop} {w w':World} {v:Value} {cs:List Ch} (h:fZ F w v cs) (hk:∀ b,F b->w'.heap[b]?=w.heap[b]?):fZ F w' v cs:=by obtain ⟨ps,h1,h2,h3⟩:=h;exact fZ.keep ⟨ps,h1,h2,h3⟩ (λg cs fz hF hb=>(hk g hF).trans hb) (λb hb=>hk b (h3 b hb)) (λ_ h _=>h)
theorem fZ.quiet {F G:Nat->Prop} {w w':World} {v:Value} {cs:List Ch} (h:fZ F w v cs) (hk:ak w w') (pz:∀ b,F b->b <w.heap.size->G b):fZ G w' v cs:=by obtain ⟨ps,h1,h2,h3⟩:=h;exact fZ.keep ⟨ps,h1,h2,h3⟩ (aP.iq hk) (λb hb=>hk.block b (h2.lt b hb).2 (λe=>e)) pz
theorem fZ.aG {F:Nat->Prop} {w:World} {v:Value} {cs:List Ch} (h:fZ F w v cs):∃ a c,v= .slice a cs.length c:=by obtain ⟨ps,h1,h2,h3⟩:=h;exact bA h2
structure eP (F:Nat->Prop) (w:World) (r:Nat) (vn vs vl:Value) (m:DM):Prop where
 mq:w.heap[r]?=some (.cells #[.int .i64 m.aR,vn,vs,vl,.int .i64 m.cC,.bool m.bh] 172 (0,0))
 fr:F r
 aN:cI F w vn m.aN
 sure:cI F w vs m.sure
 aw:fZ F w vl m.aw
 lt:∀ b,F b->b <w.heap.size
def kI (F:Nat->Prop) (w:World) (r:Nat) (m:DM):Prop:=∃ vn vs vl,eP F w r vn vs vl m
theorem eP.keep {F:Nat->Prop} {w w':World} {r:Nat} {vn vs vl:Value} {m:DM} (h:eP F w r vn vs vl m) (hk:∀ b,F b->w'.heap[b]?=w.heap[b]?):eP F w' r vn vs vl m:=
 ⟨(hk r h.fr).trans h.mq,h.fr,h.aN.same hk,h.sure.same hk,h.aw.same hk,λb hb=>by have:=h.lt b hb;have e:=hk b hb;rw [Array.getElem?_eq_getElem this] at e;exact (Array.getElem?_eq_some_iff.1 e).1⟩
theorem kI.keep {F:Nat->Prop} {w w':World} {r:Nat} {m:DM} (h:kI F w r m) (hk:∀ b,F b->w'.heap[b]?=w.heap[b]?):kI F w' r m:=by obtain ⟨vn,vs,vl,h⟩:=h;exact ⟨vn,vs,vl,h.keep hk⟩
theorem eP.quiet {F G:Nat->Prop} {w w':World} {r:Nat} {vn vs vl:Value} {m:DM} (h:eP F w r vn vs vl m) (hk:ak w w') (pz:∀ b,F b->b <w.heap.size->G b) (hG:∀ b,G b->b <w'.heap.size):eP G w' r vn vs vl m:=
 ⟨hk.at h.mq (λe=>e),pz r h.fr (h.lt r h.fr),h.aN.quiet hk pz,h.sure.quiet hk pz,h.aw.quiet hk pz,hG⟩
structure Zo (w:World) (d:Nat) (vn vs vl:Value) (m:DM):Prop where
 c0:w.cell? ⟨d,0,none⟩=some (.int .i64 m.aR)
 c1:w.cell? ⟨d,1,none⟩=some vn
 c2:w.cell? ⟨d,2,none⟩=some vs
 c3:w.cell? ⟨d,3,none⟩=some vl
 c4:w.cell? ⟨d,4,none⟩=some (.int .i64 m.cC)
 c5:w.cell? ⟨d,5,none⟩=some (.bool m.bh)
 f0:∀ i,w.frozen? ⟨d,i,none⟩=false
theorem eP.cells {F:Nat->Prop} {w:World} {r:Nat} {vn vs vl:Value} {m:DM} (h:eP F w r vn vs vl m):Zo w r vn vs vl m:=
 ⟨ag h.mq rfl,ag h.mq rfl,ag h.mq rfl,ag h.mq rfl,ag h.mq rfl,ag h.mq rfl,λi=>cL h.mq i⟩
theorem eP.store {F:Nat->Prop} {w w':World} {r:Nat} {vn vs vl:Value} {m:DM} {cs:Array Value} (P3:w.heap[r]?=some (.cells cs 172 (0,0))) (hd:w'.heap[r]?=some (.cells #[.int .i64 m.aR,vn,vs,vl,.int .i64 m.cC,.bool m.bh] 172 (0,0))) (dO:∀ b,b≠r->w'.heap[b]?=w.heap[b]?) (fr:F r) (h1:cI F w vn m.aN) (h2:cI F w vs m.sure) (h3:fZ F w vl m.aw) (aX:∀ b,F b->b <w.heap.size):eP F w' r vn vs vl m:=by
 have hu:aP F w w':=λg cs fz hF hb=>by rw [dO g (λe=>by subst e;rw [P3] at hb;simp at hb)];exact hb
 have fN:∀ {e n size:Nat} {v:Value} {xs:List Value},w.ownsRow 0 e size v n xs->e≠172->∀ b,v.ownBlock=some b->w'.heap[b]?=w.heap[b]?:=λho he b hb=>dO b (λe'=>by subst e';obtain ⟨gp,hc⟩:=dp ho hb;rw [P3] at hc;simp at hc;exact he hc.2.symm)
 refine ⟨hd,fr, ?_, ?_, ?_,λb hb=> ?_⟩
 ·exact h1.keep hu (by obtain ⟨ps,_,ho,_⟩:=h1;exact fN ho (by decide)) (λ_ h _=>h)
 ·exact h2.keep hu (by obtain ⟨ps,_,ho,_⟩:=h2;exact fN ho (by decide)) (λ_ h _=>h)
 ·exact h3.keep hu (by obtain ⟨ps,_,ho,_⟩:=h3;exact fN ho (by decide)) (λ_ h _=>h)
 ·by_cases e:b=r
  ·subst e;exact bm hd
  ·have:=aX b hb;have e':=dO b e;rw [Array.getElem?_eq_getElem this] at e';exact (Array.getElem?_eq_some_iff.1 e').1
theorem P4 (w:World) (aR:Int):∃ r w',aW 33 #[.int .i64 aR] w (.pointer (some ⟨r,0,none⟩)) w'/\kI (fX (λ_=>False) w w') w' r (eS aR)/\ak w w':=by refine ⟨w.heap.size,w.alloc (.cells #[.int .i64 aR,.slice none 0 0,.slice none 0 0,.slice none 0 0,.int .i64 (-1),.bool false] 172), ?_,⟨_,_,_,heap_alloc_new _ _,.inr ⟨eQ _,by simp⟩,cI.nil _ _,cI.nil _ _,fZ.nil _ _,λb hb=>hb.elim (λe=>e.elim) (λe=>e.2)⟩,(ah.refl _ w).alloc _⟩;unfold aW;go_enter Tryz.func33,Tryz.ntmps33;go_wp2;go_ret;exact ⟨rfl,rfl⟩
theorem Ma (w:World) (d:Nat) (f:Int) (v5:Value) (c4:w.cell? ⟨d,4,none⟩=some (.int .i64 f)) (c5:w.cell? ⟨d,5,none⟩=some v5) (f4:w.frozen? ⟨d,4,none⟩=false) (f5:w.frozen? ⟨d,5,none⟩=false) (hf:f<=9223372036854775807): aW 131 #[.pointer (some ⟨d,0,none⟩)] w (.bool (!decide (f=0))) (if f=0 then w.setCell ⟨d,5,none⟩ (.bool true) else if 0 <f then w.setCell ⟨d,4,none⟩ (.int .i64 (f - 1)) else w):=by
 unfold aW;by_cases h0:f=0
 ·subst h0;simp only [if_true];go_enter Tryz.func131,Tryz.ntmps131;go_wp2;go_ret;exact ⟨rfl,rfl⟩
 ·have pg:(decide (f=0))=false:=by simpa using h0
  rw [pg,if_neg h0];by_cases h1:0 <f
  ·rw [if_pos h1];go_enter Tryz.func131,Tryz.ntmps131;go_wp2;go_ret;exact ⟨rfl,rfl⟩
  ·rw [if_neg h1];go_enter Tryz.func131,Tryz.ntmps131;go_wp2;go_ret;exact ⟨rfl,rfl⟩
theorem tF {F:Nat->Prop} {w:World} {r:Nat} {vn vs vl:Value} {m:DM} (h:eP F w r vn vs vl m) (hf:m.cC<=9223372036854775807): ∃ w',aW 131 #[.pointer (some ⟨r,0,none⟩)] w (.bool (!decide (m.cC=0))) w'/\eP F w' r vn vs vl (aS m).2/\ah (λb=>b=r) w w'/\w'.heap.size=w.heap.size:=by
 have hr:=Ma w r m.cC _ h.cells.c4 h.cells.c5 (h.cells.f0 4) (h.cells.f0 5) hf;unfold aS;by_cases h0:m.cC=0
 ·simp only [h0,if_true] at hr ⊢;refine ⟨w.setCell ⟨r,5,none⟩ (.bool true),hr,eP.store h.mq ?_ (λb hb=>kS _ _ _ _ hb) h.fr h.aN h.sure h.aw h.lt,(ah.refl (λb=>b=r) w).setCell (p:=⟨r,5,none⟩) (λ_=>rfl) _,by simp⟩;rw [bf h.mq];simp [h0]
 ·by_cases h1:0 <m.cC
  ·simp only [h0,h1,if_true,if_false] at hr ⊢;refine ⟨w.setCell ⟨r,4,none⟩ (.int .i64 (m.cC - 1)),hr,eP.store h.mq ?_ (λb hb=>kS _ _ _ _ hb) h.fr h.aN h.sure h.aw h.lt,(ah.refl (λb=>b=r) w).setCell (p:=⟨r,4,none⟩) (λ_=>rfl) _,by simp⟩;rw [bf h.mq];simp
  ·simp only [h0,h1,if_false] at hr ⊢;exact ⟨w,hr,h,ah.refl _ _,rfl⟩
theorem pG (w:World) (n most:Int):aW 140 #[.int .i64 n,.int .i64 most] w (.int .i64 (if n <0 then 0 else if most <n then most else n)) w:=by
 unfold aW;by_cases h0:n <0
 ·rw [if_pos h0];go_enter Tryz.func140,Tryz.ntmps140;go_wp2;go_ret;exact ⟨rfl,rfl⟩
 ·rw [if_neg h0];by_cases h1:most <n
  ·rw [if_pos h1];go_enter Tryz.func140,Tryz.ntmps140;go_wp2;go_ret;exact ⟨rfl,rfl⟩
  ·rw [if_neg h1];go_enter Tryz.func140,Tryz.ntmps140;go_wp2;go_ret;exact ⟨rfl,rfl⟩

end Go.Proofs.YtlcnhpjggjgnpaaGreatDoor