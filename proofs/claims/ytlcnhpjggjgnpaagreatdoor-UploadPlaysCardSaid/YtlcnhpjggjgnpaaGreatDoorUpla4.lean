/- A part of the proof. -/
import Derived.Test.YtlcnhpjggjgnpaaGreatDoorUpla2
import Derived.Laws.CopyOwn
import Derived.Deep.WholeRow
set_option linter.unusedSimpArgs false
set_option linter.unusedVariables false
set_option maxRecDepth 100000
set_option maxHeartbeats 4000000
namespace Go.Proofs.YtlcnhpjggjgnpaaGreatDoor
open Go.RowKit Go.MapKept
variable {H:List Int} {L l p tail:aH} {a:Act} {b c j s vb:Nat} {e g n:Int} {o:Oper} {ops:Array Oper} {pv v:Value} {rest:List Value} {t:TypeId} {w w' wr:World} {x:Addr} {rs:List (bB w.heap.size)}
def F7 (k:Int):Int:=bits .and .u64 (IntKind.u64.wrap k) 31
def Ot (x k:Int):Int:=bits .or .u32 (IntKind.u32.wrap (x*2 ^ min (F7 k).toNat 32)) (x / 2 ^ min (IntKind.u64.wrap (32 - F7 k)).toNat 32)
theorem Qe (x k:Int) (w:World) (h1:0<=F7 k) (h2:0<=IntKind.u64.wrap (32 - F7 k)):aW 189 #[.int .u32 x,.int .i64 k] w (.int .u32 (Ot x k)) w:=by unfold aW Ot;unfold F7 at*;go_enter Tryz.func189,Tryz.ntmps189;go_wp2;go_ret;exact ⟨rfl,rfl⟩
def nC (x n:Int):Int:=Ot x (wrap64 (-bits .and .i64 n 31))
def rZ (n:Int):Prop:=0<=F7 (wrap64 (-bits .and .i64 n 31))/\0<=IntKind.u64.wrap (32 - F7 (wrap64 (-bits .and .i64 n 31)))
theorem SG (x n:Int) (w:World) (h:rZ n):aW 156 #[.int .u32 x,.int .i64 n] w (.int .u32 (nC x n)) w:=by have hr:=Qe x (wrap64 (-bits .and .i64 n 31)) w h.1 h.2;have HR:=ae hr;unfold aW nC;go_enter Tryz.func156,Tryz.ntmps156;go_wp2_with fail;refine HR.Z.Z.mono ?_;rintro e w' ⟨rfl,rfl⟩;go_wp2;go_ret;exact ⟨rfl,rfl⟩
theorem jF:rZ 7/\rZ 18/\rZ 17/\rZ 19/\rZ 6/\rZ 11/\rZ 25/\rZ 2/\rZ 13/\rZ 22:=by refine ⟨?_, ?_, ?_, ?_, ?_, ?_, ?_, ?_, ?_, ?_⟩ <;>exact ⟨by decide+kernel,by decide+kernel⟩
def ek (x:Int):Value:= .int .u32 x
def cQ (L:List Int) (t:TypeId):Obj:= .cells (L.map ek).toArray t (0,0)
theorem cq {i:Nat} {L:List Int} {x:Int} (h:w.heap[b]?=some (cQ L t)) (hi:L[i]?=some x):w.cell? ⟨b,i,none⟩=some (ek x):=ag h (by simp [hi])
theorem qF {L:List Int} (h:w.heap[b]?=some (cQ L t)) (i:Nat):w.frozen? ⟨b,i,none⟩=false:=cL h i
theorem ah.V4 (hk:ak w w') (h:w.cell? x=some v):w'.cell? x=some v:=by rw [kK (hk.block _ (wT w _ h) (λe=>e))];exact h
def Ou (a b c d:UInt8):Int:=
 bits .or .u32 (bits .or .u32 (bits .or .u32 ((a.toNat:Int) % 4294967296*16777216 % 4294967296) ((b.toNat:Int) % 4294967296*65536 % 4294967296)) ((c.toNat:Int) % 4294967296*256 % 4294967296)) ((d.toNat:Int) % 4294967296)
def BN (p:aH) (i:Nat):UInt8:=(p[i]?).getD 0
def yM (p:aH) (j:Nat):Int:=Ou (BN p (4*j)) (BN p (4*j+1)) (BN p (4*j+2)) (BN p (4*j+3))
theorem Jg {q q1 q2 q3:Nat} {b0 b1 b2 b3:UInt8} (hq:q=4*j) (h1:q1=q+1) (h2:q2=q+2) (h3:q3=q+3) (e0:p[q]?=some b0) (e1:p[q1]?=some b1) (e2:p[q2]?=some b2) (e3:p[q3]?=some b3): Ou b0 b1 b2 b3=yM p j:=by subst h1;subst h2;subst h3;subst hq;simp [yM,BN,e0,e1,e2,e3]
theorem Own.qG {L:List Int} (h:Own w wr (aA b (cQ L t)::rs)) (i:Nat) (x:Int): Own w (wr.setCell ⟨b,i,none⟩ (.int .u32 x)) (aA b (cQ (L.set i x) t)::rs):=by have:=h.store i (.int .u32 x);unfold cQ;rw [show ((L.set i x).map ek).toArray=(L.map ek).toArray.setIfInBounds i (.int .u32 x) by simp [K9,ek]];exact this
theorem Own.drewN {w wr:World} {rs:List (bB w.heap.size)} (h:Own w wr rs) (n:Nat):Own w (wr.drewN n) rs:=h.quiet ⟨rfl,rfl,rfl,eQ _,λ_ _ _=>rfl⟩
def ry (p:aH):Nat->List Int
 | 0=>List.replicate 64 0
 | j+1=>(ry p j).set j (yM p j)
theorem m7 (p:aH):∀ j,(ry p j).length=64
 | 0=>by simp [ry]
 | j+1=>by rw [ry,yo];exact m7 p j
def lM (L:List Int) (i:Nat):Int:=(L[i]?).getD 0
theorem ii {L:List Int} {i:Nat} (h:i <L.length):L[i]?=some (lM L i):=by simp [lM,h]
def V5 (x a y b:Int):Int:=(x+bits .xor .u32 (bits .xor .u32 (nC a 7) (nC a 18)) (a / 8)+y+bits .xor .u32 (bits .xor .u32 (nC b 17) (nC b 19)) (b / 1024)) % 4294967296
def kM (p:aH):Nat->List Int
 | 0=>ry p 16
 | j+1=>(kM p j).set (16+j) (V5 (lM (kM p j) j) (lM (kM p j) (j+1)) (lM (kM p j) (j+9)) (lM (kM p j) (j+14)))
theorem kX (p:aH):∀ j,(kM p j).length=64
 | 0=>m7 p 16
 | j+1=>by rw [kM,yo];exact kX p j
theorem jG {x:Int} (h:rZ n) (w:World):bF 156 #[.int .u32 x,.int .i64 n] w λe w'=>e= .returned (.int .u32 (nC x n))/\w'=w:=(SG x n w h).mono (by rintro e w' ⟨rfl,rfl⟩;exact ⟨rfl,rfl⟩)
def gu (h:List Int) (rest:List Value):Obj:= .cells (h.map ek++rest).toArray 208 (0,0)
def SH (e f g h k w:Int):Int:=IntKind.u32.wrap (IntKind.u32.wrap (IntKind.u32.wrap (IntKind.u32.wrap (h+bits .xor .u32 (bits .xor .u32 (nC e 6) (nC e 11)) (nC e 25))+bits .xor .u32 (bits .and .u32 e f) (bits .andNot .u32 g e))+k)+w)
def Zs (a b c:Int):Int:=IntKind.u32.wrap (bits .xor .u32 (bits .xor .u32 (nC a 2) (nC a 13)) (nC a 22)+bits .xor .u32 (bits .xor .u32 (bits .and .u32 a b) (bits .and .u32 a c)) (bits .and .u32 b c))
def xm (k w:Int):List Int->List Int
 | [a,b,c,d,e,f,g,h]=>[(SH e f g h k w+Zs a b c) % 4294967296,a,b,c,(d+SH e f g h k w) % 4294967296,e,f,g]
 | l=>l
def Mp (K W:List Int) (V:List Int):Nat->List Int
 | 0=>V
 | i+1=>xm (lM K i) (lM W i) (Mp K W V i)
def wh (H V:List Int):Nat->List Int
 | 0=>H
 | n+1=>(wh H V n).set n ((lM (wh H V n) n+lM V n) % 4294967296)
theorem nD (H V:List Int):∀ n,(wh H V n).length=H.length
 | 0=>rfl
 | n+1=>by rw [wh,yo];exact nD H V n
def ko (K H:List Int) (p:aH):List Int:=wh H (Mp K (kM p 48) H 64) 8
theorem Jh (e f g h k w:Int):SH e f g h k w=IntKind.u32.wrap (IntKind.u32.wrap (IntKind.u32.wrap (IntKind.u32.wrap (h+bits .xor .u32 (bits .xor .u32 (nC e 6) (nC e 11)) (nC e 25))+bits .xor .u32 (bits .and .u32 e f) (bits .andNot .u32 g e))+k)+w):=rfl
theorem SI (a b c:Int):Zs a b c=IntKind.u32.wrap (bits .xor .u32 (bits .xor .u32 (nC a 2) (nC a 13)) (nC a 22)+bits .xor .u32 (bits .xor .u32 (bits .and .u32 a b) (bits .and .u32 a c)) (bits .and .u32 b c)):=rfl
theorem Own.setRow {w wr:World} {b:Nat} {cs:Array Value} {t:TypeId} {rs:List (bB w.heap.size)} (h:Own w wr (aA b (.cells cs t (0,0))::rs)) (G9:Array Value):Own w (wr.setRow b G9) (aA b (.cells G9 t (0,0))::rs):=by obtain ⟨F,h1,h2,back⟩:=h.jT;refine back _ (aA b (.cells G9 t (0,0))) ⟨rfl,rfl,rfl,by simp [World.setRow],λk hk hF=>setRow_other wr b k G9 (λe=>hF (by rw [e];exact h1.1))⟩ ⟨.inl h1.1,setRow_heap wr b cs G9 t _ h1.2⟩
structure rz (w wx:World) (s vb:Nat) (H V:List Int) (rest:List Value) (n:Nat):Prop where
 keep:ah (λb=>b=s) w wx
 st:wx.heap[s]?=some (gu (wh H V n) rest)
 v:wx.heap[vb]?=some (cQ V 205)
theorem rz.cell {w wx:World} {s vb n:Nat} {H V:List Int} {rest:List Value} (h:rz w wx s vb H V rest n) (hn:n <8) (hH:H.length=8):wx.cell? ⟨s,n,none⟩=some (ek (lM (wh H V n) n)):=by
 refine ag h.st ?_;have hl:n <(wh H V n).length:=by rw [nD,hH];exact hn
 rw [oB,K0 (by rw [io];exact hl),jc,ii hl];rfl
theorem rz.free {wx:World} {n:Nat} {V:List Int} (h:rz w wx s vb H V rest n) (i:Nat):wx.frozen? ⟨s,i,none⟩=false:=cL h.st i
theorem rz.step {wx:World} {n:Nat} {V:List Int} (h:rz w wx s vb H V rest n) (hn:n <8) (hH:H.length=8) (dO:s≠vb): rz w (wx.setCell ⟨s,n,none⟩ (.int .u32 ((lM (wh H V n) n+lM V n) % 4294967296))).drew s vb H V rest (n+1):=by
 have hl:n <(wh H V n).length:=by rw [nD,hH];exact hn
 refine ⟨(h.keep.setCell (λ_=>rfl) _).drew, ?_, ?_⟩
 ·have e:=bf (t:=208) h.st n (.int .u32 ((lM (wh H V n) n+lM V n) % 4294967296));refine e.trans ?_;unfold gu;rw [wh,K9];rw [List.setIfInBounds_toArray,List.set_append_left _ _ (by rw [io];exact hl)];rfl
 ·exact (kS wx ⟨s,n,none⟩ _ vb (λe=>dO e.symm)).trans h.v
theorem SJ {a b c d f h:Int} (hV:w.heap[vb]?=some (cQ [a,b,c,d,e,f,g,h] t)):∀ (j:Nat) (v:Value),(([a,b,c,d,e,f,g]:List Int).map ek)[j]?=some v->w.cell? ((⟨vb,0,none⟩:Addr).add j)=some v:=by
 intro j v hv;rw [iV,fw];refine ag hV ?_;match j,hv with
 | 0,hv=>exact hv
 | 1,hv=>exact hv
 | 2,hv=>exact hv
 | 3,hv=>exact hv
 | 4,hv=>exact hv
 | 5,hv=>exact hv
 | 6,hv=>exact hv
 | j+7,hv=>simp at hv
theorem Ji (l:List Int):∀ v ∈ l.map ek,v.oneCell'=true:=by intro v hv;simp only [List.mem_map] at hv;obtain ⟨x,_,rfl⟩:=hv;rfl
theorem Mq (w:World) (s k:Nat) (x:Addr) (p:aH) (pc:Nat) (kL:p.length=64) (hp:∀ i c,p[i]?=some c->w.cell? (x.add i)=some (dF c)) {h0 h1 h2 h3 h4 h5 h6 h7:Int} (hs:w.heap[s]?=some (gu [h0,h1,h2,h3,h4,h5,h6,h7] rest)) {K:List Int} (hK:K.length=64) (hk:w.heap[k]?=some (cQ K 210)):bF 114 #[.pointer (some ⟨s,0,none⟩),.slice (some x) 64 pc,.pointer (some ⟨k,0,none⟩)] w λe w'=>e= .returned (.tuple #[])/\ah (λb=>b=s) w w'/\w'.heap[s]?=some (gu (ko K [h0,h1,h2,h3,h4,h5,h6,h7] p) rest):=by
 have HP:=ae hp;have Vf:=ae kL;have HS:=ae hs;have CR:=ae hk;have Hi:=ae hK;have h1:Own w (w.alloc (cQ (List.replicate 64 0) 210)) [aA w.heap.size (cQ (List.replicate 64 0) 210)]:=(Own.start w).alloc _;have H1:=ae h1;clear hp kL h1 hs hk hK;go_enter Tryz.func114,Tryz.ntmps114;go_wp2_with fail;go_loopw [16] (λi wx=>∃ j:Nat,i= .int .i64 (j:Int)/\j<=16/\Own w wx [aA w.heap.size (cQ (ry p j) 210)]) (λi _=>16 - (intOf i).toNat);case atStart=>exact ⟨0,rfl,by omega,H1.Z⟩
 case round=>
  obtain ⟨j,rfl,hj,bt⟩:=hrel;by_cases aX:j <16
  ·
   have j0:=np j;have j1:(j:Int) <16:=by omega
   have kL:=Vf.Z;obtain ⟨L,EF⟩:=cE (ry p j);have hL:L.length=64:=by rw [EF];exact m7 p j
   rw [<-EF] at bt;have iZ:ry p (j+1)=L.set j (yM p j):=by rw [EF];rfl
   obtain ⟨q,hq⟩:=cE (4*j);obtain ⟨q1,Ay⟩:=cE (q+1);obtain ⟨q2,iI⟩:=cE (q+2);obtain ⟨q3,yw⟩:=cE (q+3);have w4:IntKind.i64.wrap (4*(j:Int))=(q:Int):=by rw [IntKind.wrap_i64];omega
   have w5:IntKind.i64.wrap ((q:Int)+1)=(q1:Int):=by rw [IntKind.wrap_i64];omega
   have w6:IntKind.i64.wrap ((q:Int)+2)=(q2:Int):=by rw [IntKind.wrap_i64];omega
   have w7:IntKind.i64.wrap ((q:Int)+3)=(q3:Int):=by rw [IntKind.wrap_i64];omega
   obtain ⟨b0,AW⟩:∃ b,p[q]?=some b:=⟨_,js (by omega)⟩;obtain ⟨b1,Ro⟩:∃ b,p[q1]?=some b:=⟨_,js (by omega)⟩;obtain ⟨b2,ox⟩:∃ b,p[q2]?=some b:=⟨_,js (by omega)⟩;obtain ⟨b3,yt⟩:∃ b,p[q3]?=some b:=⟨_,js (by omega)⟩;have hk:=bt.keeps;have c0:=(hk.V4 (HP.Z _ _ AW));have c1:=(hk.V4 (HP.Z _ _ Ro));have c2:=(hk.V4 (HP.Z _ _ ox));have c3:=(hk.V4 (HP.Z _ _ yt));unfold dF at c0 c1 c2 c3;have a0:=np q;have a1:(0:Int)<=q1:=by omega
   have a2:(0:Int)<=q2:=by omega
   have a3:(0:Int)<=q3:=by omega
   have d0:(q:Int) <64:=by omega
   have d1:(q1:Int) <64:=by omega
   have d2:(q2:Int) <64:=by omega
   have d3:(q3:Int) <64:=by omega
   have j2:(j:Int) <64:=by omega
   have ca:=(bt.at (b:=w.heap.size) (o:=cQ L 210) (by simp)).1;obtain ⟨lj,hlj⟩:∃ x,L[j]?=some x:=⟨_,js (by omega)⟩;have cj:=cq ca hlj;have fj:=qF ca j;have bG:=λx=>(bt.qG j x).drew;have hw4:=Jg hq Ay iI yw AW Ro ox yt;unfold ek at cj;have HW4:=ae hw4;have fP:=ae bG;have Ob:=ae aX;have sO:=ae iZ;clear bt hk AW Ro ox yt hq Ay iI yw kL aX hj hw4 bG hL ca hlj EF iZ;go_wp2_with fail;go_still_tail 35,(by kernel_rfl);change wpList _ _ _ _ _ (World.drew _);clear w4 w5 w6 w7 a0 a1 a2 a3 d0 d1 d2 d3 c0 c1 c2 c3;go_wp2;go_roundw;case rel=>exact ⟨j+1,rfl,Ob.Z,by rw [sO.Z,<-HW4.Z];exact fP.Z _⟩
   case measure=>have:=Ob.Z;simp [intOf];omega
   --DEV>
  ·obtain rfl:j=16:=by omega
   rw [show ((16:Nat):Int)=16 from rfl];have SK:=ae bt;clear bt aX hj H1 HP;go_wp2_with fail;go_loopw [8] (λi wx=>∃ j:Nat,i= .int .i64 ((16+j:Nat):Int)/\j<=48/\Own w wx [aA w.heap.size (cQ (kM p j) 210)]) (λi _=>64 - (intOf i).toNat);case atStart=>exact ⟨0,rfl,by omega,SK.Z⟩
   case round=>
    obtain ⟨j,rfl,hj,bt⟩:=hrel;clear SK;by_cases aX:j <48
    ·
     obtain ⟨L,EF⟩:=cE (kM p j);have hL:L.length=64:=by rw [EF];exact kX p j
     rw [<-EF] at bt;have iZ:kM p (j+1)=L.set (16+j) (V5 (lM L j) (lM L (j+1)) (lM L (j+9)) (lM L (j+14))):=by rw [EF];rfl
     have ca:=(bt.at (b:=w.heap.size) (o:=cQ L 210) (by simp)).1;obtain ⟨q,hq⟩:=cE (16+j);obtain ⟨q1,Ay⟩:=cE (j+1);obtain ⟨q2,iI⟩:=cE (j+14);obtain ⟨q3,yw⟩:=cE (j+9);have w5:IntKind.i64.wrap ((q:Int) - 15)=(q1:Int):=by rw [IntKind.wrap_i64];omega
     have w6:IntKind.i64.wrap ((q:Int) - 2)=(q2:Int):=by rw [IntKind.wrap_i64];omega
     have w7:IntKind.i64.wrap ((q:Int) - 7)=(q3:Int):=by rw [IntKind.wrap_i64];omega
     have w8:IntKind.i64.wrap ((q:Int) - 16)=(j:Int):=by rw [IntKind.wrap_i64];omega
     have c0:=cq ca (ii (i:=j) (by omega));have c1:=cq ca (ii (i:=q1) (by omega));have c2:=cq ca (ii (i:=q2) (by omega));have c3:=cq ca (ii (i:=q3) (by omega));have c4:=cq ca (ii (i:=q) (by omega));have f4:=qF ca q;unfold ek at c0 c1 c2 c3 c4;have a0:=np j;have a1:(0:Int)<=q1:=by omega
     have a2:(0:Int)<=q2:=by omega
     have a3:(0:Int)<=q3:=by omega
     have a4:=np q;have d0:(j:Int) <64:=by omega
     have d1:(q1:Int) <64:=by omega
     have d2:(q2:Int) <64:=by omega
     have d3:(q3:Int) <64:=by omega
     have d4:(q:Int) <64:=by omega
     rw [<-Ay,<-iI,<-yw,<-hq] at iZ;have bG:=λ(n:Nat) x=>((bt.drewN n).qG q x).drew;rw [<-hq];have HX:=ae (⟨aX,hq,Ay⟩:j <48/\q=16+j/\q1=j+1);have sO:=ae iZ;have fP:=ae bG;generalize lM L j=v0 at c0 sO;generalize lM L q1=v1 at c1 sO;generalize lM L q2=v2 at c2 sO;generalize lM L q3=v3 at c3 sO;generalize lM L q=v4 at c4;clear iZ bG hq Ay iI yw aX hj hL EF ca bt;go_wp2_with fail;go_quiet (fail);go_wp2_with fail;have bG:=fP.Z nq;change (wr.drewN nq).cell? _=_ at c0 c1 c2 c3 c4;change (wr.drewN nq).frozen? _=_ at f4;have abn:=ae bG;clear fP bG;generalize wr.drewN nq=wq at c0 c1 c2 c3 c4 f4 abn ⊢;go_still_tail 29,(by kernel_rfl)
     still_call (jG jF.1 _)
     repeat still_step
     still_call (jG jF.2.1 _)
     repeat still_step
     still_call (jG jF.2.2.1 _)
     repeat still_step
     still_call (jG jF.2.2.2.1 _)
     repeat still_step
     refine wpStill_nil ?_;change wpList _ _ _ _ _ (World.drew _);clear w5 w6 w7 w8 a0 a1 a2 a3 d0 d1 d2 d3 c0 c1 c2 c3;go_wp2;go_roundw;case rel=>have hx:=HX.Z;refine ⟨q1,by rw [show 16+q1=q+1 by omega];rfl,by omega, ?_⟩;rw [sO.Z];exact abn.Z _
     case measure=>have:=HX.Z;simp [intOf];omega
     --DEV>
    ·obtain rfl:j=48:=by omega
     have hz:=bt.keeps.at HS.Z (λe=>e);unfold gu at hz;have c0:=ag (i:=0) hz rfl;have c1:=ag (i:=1) hz rfl;have c2:=ag (i:=2) hz rfl;have c3:=ag (i:=3) hz rfl;have c4:=ag (i:=4) hz rfl;have c5:=ag (i:=5) hz rfl;have c6:=ag (i:=6) hz rfl;have c7:=ag (i:=7) hz rfl;simp only [kz,Av,qV,pj,ek,Ap,An,yl] at c0 c1 c2 c3 c4 c5 c6 c7;rw [show ((16+48:Nat):Int)=64 from rfl];have SK:=ae bt;clear bt aX hj hz;go_wp2_with fail;have hA:=SK.Z.alloc (cQ [h0,h1,h2,h3,h4,h5,h6,h7] 205);change Code.wp _ _ _ _ (wr.alloc (cQ [h0,h1,h2,h3,h4,h5,h6,h7] 205));clear SK c0 c1 c2 c3 c4 c5 c6 c7;obtain ⟨W,hW⟩:=cE (kM p 48);have hWL:W.length=64:=by rw [hW];exact kX p 48
     rw [<-hW] at hA;have HW:=ae hW;have HWL:=ae hWL;have H2:=ae hA;clear hW hWL hA;generalize wr.alloc (cQ [h0,h1,h2,h3,h4,h5,h6,h7] 205)=w2 at H2 ⊢;generalize wr.heap.size=vb at H2 ⊢;go_loopw [100] (λi wx=>∃ (n:Nat) (a b c d e f g h:Int),i= .int .i64 (n:Int)/\n<=64/\Mp K W [h0,h1,h2,h3,h4,h5,h6,h7] n=[a,b,c,d,e,f,g,h]/\Own w wx [aA vb (cQ [a,b,c,d,e,f,g,h] 205),aA w.heap.size (cQ W 210)]) (λi _=>64 - (intOf i).toNat);case atStart=>exact ⟨0,_,_,_,_,_,_,_,_,rfl,by omega,rfl,H2.Z⟩
     case round=>
      obtain ⟨n,a,b,c,d,e,f,g,h,rfl,hn,yi,bt⟩:=hrel;have hV:=(bt.at (b:=vb) (o:=cQ [a,b,c,d,e,f,g,h] 205) (by simp)).1;by_cases aX:n <64
      ·
       have hWw:=(bt.at (b:=w.heap.size) (o:=cQ W 210) (by simp)).1;have hKw:=bt.keeps.at CR.Z (λe=>e);have ck:=cq hKw (ii (i:=n) (by rw [Hi.Z];exact aX));have cw:=cq hWw (ii (i:=n) (by rw [HWL.Z];exact aX));have c0:=cq hV (i:=0) rfl;have c1:=cq hV (i:=1) rfl;have c2:=cq hV (i:=2) rfl;have c3:=cq hV (i:=3) rfl;have c4:=cq hV (i:=4) rfl;have c5:=cq hV (i:=5) rfl;have c6:=cq hV (i:=6) rfl;have c7:=cq hV (i:=7) rfl;unfold ek at ck cw c0 c1 c2 c3 c4 c5 c6 c7;have iZ:Mp K W [h0,h1,h2,h3,h4,h5,h6,h7] (n+1)=xm (lM K n) (lM W n) [a,b,c,d,e,f,g,h]:=by rw [<-yi];rfl
       have j0:=np n;have j1:(n:Int) <64:=by omega
       have sO:=ae iZ;have HX:=ae aX;have HO:=ae bt;generalize lM K n=kn at ck sO;generalize lM W n=wn at cw sO;clear iZ aX yi hn bt hV hWw hKw H2;go_wp2_with fail;go_still_tail 36,(by kernel_rfl)
       still_call (jG jF.2.2.2.2.1 _)
       repeat still_step
       still_call (jG jF.2.2.2.2.2.1 _)
       repeat still_step
       still_call (jG jF.2.2.2.2.2.2.1 _)
       repeat still_step
       refine wpStill_nil ?_;change wpList _ _ _ _ _ (World.drew _);have wM:=ae HO.Z.drew;change wr.drew.cell? _=_ at c0 c1 c2 c3 c4 c5 c6 c7;clear ck cw HO;generalize wr.drew=w3 at wM c0 c1 c2 c3 c4 c5 c6 c7 ⊢;go_wp2_with fail;rw [<-Jh e f g h kn wn];obtain ⟨X,hX⟩:=cE (SH e f g h kn wn);rw [<-hX];have Vg:=ae hX;clear hX;go_still_tail 29,(by kernel_rfl)
       still_call (jG jF.2.2.2.2.2.2.2.1 _)
       repeat still_step
       still_call (jG jF.2.2.2.2.2.2.2.2.1 _)
       repeat still_step
       still_call (jG jF.2.2.2.2.2.2.2.2.2 _)
       repeat still_step
       refine wpStill_nil ?_;change wpList _ _ _ _ _ (World.drew _);rw [<-SI a b c];obtain ⟨Y,hY⟩:=cE (Zs a b c);rw [<-hY];have HYY:=ae hY;have De:=ae wM.Z.drew;change w3.drew.cell? _=_ at c0 c1 c2 c3 c4 c5 c6 c7;clear wM hY;generalize w3.drew=w4 at De c0 c1 c2 c3 c4 c5 c6 c7 ⊢;clear c0 c1 c2 c3 c4 c5 c6 c7;go_wp2_with fail;go_still_tail 2,(by kernel_rfl);change wpList _ _ _ _ _ (World.drew _);have V6:=ae De.Z.drew;clear De;generalize w4.drew=w5 at V6 ⊢;have hV:=(V6.Z.at (b:=vb) (o:=cQ [a,b,c,d,e,f,g,h] 205) (by simp)).1;refine wpList_copy_own rfl (.tmp 168) (.tmp 169) 263 263 rfl 204 (by kernel_rfl) (by kernel_rfl) vb 1 7 7 ⟨vb,0,none⟩ 7 8 rfl rfl _ _ hV ([a,b,c,d,e,f,g].map ek) rfl (SJ hV) (eQ _) (Ji _) ?_;have yh:=ae (V6.Z.setRow (([a,a,b,c,d,e,f,g]:List Int).map ek).toArray);change wpList _ _ _ _ _ (w5.setRow vb (([a,a,b,c,d,e,f,g]:List Int).map ek).toArray);clear V6 hV;generalize w5.setRow vb (([a,a,b,c,d,e,f,g]:List Int).map ek).toArray=w6 at yh ⊢;have hV:w6.heap[vb]?=some (cQ [a,a,b,c,d,e,f,g] 205):=(yh.Z.at (b:=vb) (o:=cQ [a,a,b,c,d,e,f,g] 205) (by simp [cQ])).1;have c0:=cq hV (i:=0) rfl;have c4:=cq hV (i:=4) rfl;have f0:=qF hV 0;have f4:=qF hV 4;unfold ek at c0 c4;clear hV;go_wp2;go_roundw;case rel=>have hO6:=(Own.qG (L:=[a,a,b,c,d,e,f,g]) yh.Z 4 ((d+X) % 4294967296)).qG 0 ((X+Y) % 4294967296);refine ⟨n+1,_,_,_,_,_,_,_,_,rfl,HX.Z,sO.Z, ?_⟩;rw [<-Vg.Z,<-HYY.Z];exact hO6
       case measure=>have:=HX.Z;simp [intOf];omega
       --DEV>
      ·obtain rfl:n=64:=by omega
       rw [show ((64:Nat):Int)=64 from rfl];have hs:=bt.keeps.at HS.Z (λe=>e);have qy:=bm HS.Z;have hvb:=(bt.at (b:=vb) (o:=cQ [a,b,c,d,e,f,g,h] 205) (by simp)).2.1;have od:=bt.keeps;obtain ⟨V,hVe⟩:=cE (Mp K W [h0,h1,h2,h3,h4,h5,h6,h7] 64);rw [<-yi,<-hVe] at hV;have hVL:V.length=8:=by rw [hVe,yi];rfl
       have hR:rz w wr s vb [h0,h1,h2,h3,h4,h5,h6,h7] V rest 0:=⟨od.mono (λ_ _ e=>e.elim),hs,hV⟩;have HR:=ae hR;have Jj:=ae hVL;have HVE:=ae hVe;have Zt:=ae (show s≠vb by omega);clear hR hVL hVe hs qy hvb od hV yi hn aX bt H2;go_wp2_with fail;go_loopw [181] (λi wx=>∃ n:Nat,i= .int .i64 (n:Int)/\n<=8/\rz w wx s vb [h0,h1,h2,h3,h4,h5,h6,h7] V rest n) (λi _=>8 - (intOf i).toNat);case atStart=>exact ⟨0,rfl,by omega,HR.Z⟩
       case round=>
        obtain ⟨n,rfl,hn,hrel⟩:=hrel;clear HR;by_cases aX:n <8
        ·have c0:=hrel.cell aX rfl;have f0:=hrel.free n;have c1:=cq hrel.v (ii (i:=n) (by rw [Jj.Z];exact aX));unfold ek at c0 c1;have bG:=hrel.step aX rfl Zt.Z;have fP:=ae bG;generalize lM (wh [h0,h1,h2,h3,h4,h5,h6,h7] V n) n=x0 at c0 fP;generalize lM V n=x1 at c1 fP;have j0:=np n;have j1:(n:Int) <8:=by omega
         have HX:=ae aX;clear bG hrel hn aX;go_wp2_with fail;go_still_tail 13,(by kernel_rfl);change wpList _ _ _ _ _ (World.drew _);go_wp2;go_roundw;case rel=>exact ⟨n+1,rfl,HX.Z,fP.Z⟩
         case measure=>have:=HX.Z;simp [intOf];omega
        ·obtain rfl:n=8:=by omega
         have HF:=ae hrel;clear hrel aX hn;go_wp2;go_end0;refine ⟨rfl,HF.Z.keep, ?_⟩;have:=HF.Z.st;rw [HVE.Z,HW.Z] at this;exact this
def ff:List Int:=[
 0x428a2f98,0x71374491,0xb5c0fbcf,0xe9b5dba5,0x3956c25b,0x59f111f1,0x923f82a4,0xab1c5ed5,
 0xd807aa98,0x12835b01,0x243185be,0x550c7dc3,0x72be5d74,0x80deb1fe,0x9bdc06a7,0xc19bf174,
 0xe49b69c1,0xefbe4786,0x0fc19dc6,0x240ca1cc,0x2de92c6f,0x4a7484aa,0x5cb0a9dc,0x76f988da,
 0x983e5152,0xa831c66d,0xb00327c8,0xbf597fc7,0xc6e00bf3,0xd5a79147,0x06ca6351,0x14292967,
 0x27b70a85,0x2e1b2138,0x4d2c6dfc,0x53380d13,0x650a7354,0x766a0abb,0x81c2c92e,0x92722c85,
 0xa2bfe8a1,0xa81a664b,0xc24b8b70,0xc76c51a3,0xd192e819,0xd6990624,0xf40e3585,0x106aa070,
 0x19a4c116,0x1e376c08,0x2748774c,0x34b0bcb5,0x391c0cb3,0x4ed8aa4a,0x5b9cca4f,0x682e6ff3,
 0x748f82ee,0x78a5636f,0x84c87814,0x8cc70208,0x90befffa,0xa4506ceb,0xbef9a3f7,0xc67178f2]
def gG:Array Value:=#[.int .u32 1116352408,.int .u32 1899447441,.int .u32 3049323471,.int .u32 3921009573,.int .u32 961987163,.int .u32 1508970993,.int .u32 2453635748,.int .u32 2870763221,.int .u32 3624381080,.int .u32 310598401,.int .u32 607225278,.int .u32 1426881987,.int .u32 1925078388,.int .u32 2162078206,.int .u32 2614888103,.int .u32 3248222580,.int .u32 3835390401,.int .u32 4022224774,.int .u32 264347078,.int .u32 604807628,.int .u32 770255983,.int .u32 1249150122,.int .u32 1555081692,.int .u32 1996064986,.int .u32 2554220882,.int .u32 2821834349,.int .u32 2952996808,.int .u32 3210313671,.int .u32 3336571891,.int .u32 3584528711,.int .u32 113926993,.int .u32 338241895,.int .u32 666307205,.int .u32 773529912,.int .u32 1294757372,.int .u32 1396182291,.int .u32 1695183700,.int .u32 1986661051,.int .u32 2177026350,.int .u32 2456956037,.int .u32 2730485921,.int .u32 2820302411,.int .u32 3259730800,.int .u32 3345764771,.int .u32 3516065817,.int .u32 3600352804,.int .u32 4094571909,.int .u32 275423344,.int .u32 430227734,.int .u32 506948616,.int .u32 659060556,.int .u32 883997877,.int .u32 958139571,.int .u32 1322822218,.int .u32 1537002063,.int .u32 1747873779,.int .u32 1955562222,.int .u32 2024104815,.int .u32 2227730452,.int .u32 2361852424,.int .u32 2428436474,.int .u32 2756734187,.int .u32 3204031479,.int .u32 3329325298]
theorem EG:gG=(ff.map ek).toArray:=by kernel_rfl
theorem jy {P:Program} {rest:List Oper} {Q:Exit->Act->World->Prop} (hg:o.guard=none) (t:TypeId) (parts:Array (Nat × Operand)) (ho:o.op= .build t parts) (cells:Array Value) (hf:P.built t (parts.map λ(i,x)=>(i,a.eval x)).toList=some cells) (h:wpList P ops Q rest (a.put o.dst (.agg cells)) w):wpList P ops Q (o::rest) a w:=
 wpList_build hg t parts ho (by rw [hf];rfl) (by rw [hf];exact h)
theorem tJ (w:World):aW 113 #[] w (.agg gG) (w.alloc (.cells gG 210)):=by unfold aW;go_enter Tryz.func113,Tryz.ntmps113;go_wp2_with (first | (refine jy rfl 210 _ rfl gG (by kernel_rfl) ?_) | (refine wpList_store_row rfl 210 (.tmp 0) (.tmp 1) rfl w.heap.size gG rfl rfl 210 _ (heap_alloc_new w _) (by kernel_rfl) (by kernel_rfl) (by kernel_rfl) ?_));rw [World.setRow_alloc_new];refine bodyPost_ret (results_cell_row Tryz.results113 _ _ w.heap.size 210 gG (0,0) _ rfl (heap_alloc_new w _) Tryz.underlying210 rfl (by kernel_rfl)) rfl ?_;exact ⟨rfl,rfl⟩
theorem Zu (w:World):∃ w1,(∀ Z:Array Value,Z.size=64->(storeCells ⟨w.heap.size+1,0,none⟩ gG.toList 0).run Tryz.prog ((w.alloc (.cells gG 210)).alloc (.cells Z 210))= .ok () w1)/\ak w w1/\w1.heap.size=w.heap.size+2/\w1.heap[w.heap.size+1]?=some (cQ ff 210):=by
 refine ⟨(w.alloc (.cells gG 210)).alloc (.cells gG 210),λZ hZ=> ?_,((ah.refl _ w).alloc _).alloc _,by simp, ?_⟩
 ·have h:=run_storeCells_new (P:=Tryz.prog) (w.alloc (.cells gG 210)) 210 Z gG (by kernel_rfl) (hZ.trans (by kernel_rfl)) (by kernel_rfl);rw [World.size_alloc] at h;exact h
 ·rw [cQ,<-EG];exact heap_alloc2_new w _ _
def l5:List Int:=[0x6a09e667,0xbb67ae85,0x3c6ef372,0xa54ff53a,0x510e527f,0x9b05688c,0x1f83d9ab,0x5be0cd19]
def eu (n:Int) (tail:aH):List Value:= .int .u64 n::tail.map dF
theorem yN (w:World):aW 46 #[] w (.pointer (some ⟨w.heap.size,0,none⟩)) (w.alloc (gu l5 (eu 0 (List.replicate 64 0)))):=by unfold aW;go_enter Tryz.func46,Tryz.ntmps46;go_wp2;go_ret;exact ⟨rfl,congrArg w.alloc (by kernel_rfl)⟩
theorem pY (K H:List Int) (p:aH):(ko K H p).length=H.length:=nD _ _ _
theorem nE (h:H.length=8):∃ h0 h1 h2 h3 h4 h5 h6 h7,H=[h0,h1,h2,h3,h4,h5,h6,h7]:=by
 match H,h with
 | [a,b,c,d,e,f,g,i],_=>exact ⟨a,b,c,d,e,f,g,i,rfl⟩
def mA (M:aH):Nat->List Int
 | 0=>l5
 | j+1=>ko ff (mA M j) ((M.drop (64*j)).take 64)
theorem cJ (M:aH):∀ j,(mA M j).length=8
 | 0=>rfl
 | j+1=>by rw [mA,pY];exact cJ M j
theorem kD (M p:aH):∀ j,64*j<=M.length->mA (M++p) j=mA M j
 | 0,_=>rfl
 | j+1,h=>by rw [mA,mA,kD M p j (by omega),O3 (by omega),CW (by rw [iN];omega)]
def Jk (H:List Int):Prop:=∀ x ∈ H,0<=x/\x <4294967296
theorem BO (H V:List Int) (hH:H.length=8):∀ n,n<=8->∀ i x,i <n->(wh H V n)[i]?=some x->0<=x/\x <4294967296
 | 0,_,i,x,hi,_=>by omega
 | n+1,hn,i,x,hi,hx=>by
  rw [wh] at hx;by_cases he:n=i
  ·subst he;rw [List.getElem?_set_self (by rw [nD,hH];omega)] at hx;simp only [im] at hx;rw [<-hx];omega
  ·rw [List.getElem?_set_ne he] at hx;exact BO H V hH n (by omega) i x (by omega) hx
theorem tK (M:aH):∀ j,Jk (mA M j)
 | 0=>by
  intro x hx;simp only [mA,l5,Hu,List.not_mem_nil,or_false] at hx;omega
 | j+1=>by intro x hx;obtain ⟨i,hi⟩:=List.mem_iff_getElem?.1 hx;have hl:=(List.getElem?_eq_some_iff.1 hi).1;rw [cJ] at hl;exact BO _ _ (cJ M j) 8 (by omega) i x hl hi
def cR (M:aH):List Int:=mA M (M.length / 64)
def px (w:World) (s:Nat) (M:aH):Prop:=
 ∃ tail:aH,w.heap[s]?=some (gu (cR M) (eu (M.length:Int) tail))/\tail.length=64/\tail.take (M.length % 64)=M.drop (64*(M.length / 64))
def abo (w:World) (s:Nat) (M:aH) (j:Nat):Prop:=
 ∃ tail:aH,w.heap[s]?=some (gu (mA M j) (eu (M.length:Int) tail))/\tail.length=64/\64*j<=M.length
theorem px.abp {M:aH} (hh:w.heap[s]?=some (gu (mA M j) (eu (M.length:Int) ((M.drop (64*j))++tail.drop (M.drop (64*j)).length)))) (hl:tail.length=64) (h1:64*j<=M.length) (h2:(M.drop (64*j)).length <64):px w s M:=by
 rw [iN] at h2;have hj:M.length / 64=j:=by omega
 have hm:M.length % 64=M.length - 64*j:=by omega
 refine ⟨_,by unfold cR;rw [hj];exact hh, ?_, ?_⟩
 ·rw [fS,iN,iN,hl];omega
 ·rw [hj,hm,CW (by rw [iN];omega),sU (by rw [iN];omega)]
theorem BP {M:aH} (h:64<=(M.drop (64*j)).length):mA M (j+1)=ko ff (mA M j) ((M.drop (64*j)).take 64)/\(M.drop (64*j)).drop 64=M.drop (64*(j+1))/\64*(j+1)<=M.length:=by rw [iN] at h;exact ⟨rfl,by rw [K8,show 64*j+64=64*(j+1) by omega],by omega⟩
theorem Qf (ht:tail.length=64) (h:tail.take (L.length % 64)=L.drop (64*(L.length / 64))) (hs:L.length % 64+l.length <64): cR (L++l)=cR L/\(tail.take (L.length % 64)++l++tail.drop (L.length % 64+l.length)).take ((L++l).length % 64)=(L++l).drop (64*((L++l).length / 64)):=by
 have e1:(L++l).length / 64=L.length / 64:=by rw [fS];omega
 have e2:(L++l).length % 64=L.length % 64+l.length:=by rw [fS];omega
 refine ⟨?_, ?_⟩
 ·unfold cR;rw [e1,kD _ _ _ (by omega)]
 ·rw [e1,e2,O3 (by omega),<-h,CW (by rw [fS,nM];omega),sU (by rw [fS,nM];omega)]
theorem Qg (ht:tail.length=64) (h:tail.take (L.length % 64)=L.drop (64*(L.length / 64))) (hs:64<=L.length % 64+l.length): mA (L++l) (L.length / 64)=cR L/\tail.take (L.length % 64)++l.take (64 - L.length % 64)=((L++l).drop (64*(L.length / 64))).take 64/\l.drop (64 - L.length % 64)=(L++l).drop (64*(L.length / 64+1)):=by
 refine ⟨kD _ _ _ (by omega), ?_, ?_⟩
 ·rw [O3 (by omega),<-h,List.take_append,nM,ht,O9 (by omega),List.take_take,Nat.min_eq_right (by omega)]
 ·have e:64*(L.length / 64+1)=L.length+(64 - L.length % 64):=by omega
  rw [e,List.drop_append];simp
theorem yO (w:World) (a:Option Addr) (n c j:Nat) (h1:j<=c):(Instr.sliceAt 22 (.slice a n c) none (some (.int .i64 (j:Int))) none).run Tryz.prog w= .ok (.slice a j c) w:=by
 rw [run_sliceAt_slice _ _ _ _ _ _ dG,run_slice_h w 22 a n c dG .i64 (j:Int) (by omega) (by omega),lT];simp only [Result.andThen,sliced,yn,Nat.zero_mul,Nat.sub_zero];have:(a.map λx=>x.add 0)=a:=by cases a with
  | none=>rfl
  | some x=>simp [Addr.add_zero']
 rw [this];simp
theorem yP (w:World) (x:Addr) (n c i:Nat) (h1:i<=n):(Instr.sliceAt 22 (.slice (some x) n c) (some (.int .i64 (i:Int))) none none).run Tryz.prog w= .ok (.slice (some (if c=i then x else x.add i)) (n - i) (c - i)) w:=by rw [run_sliceAt_slice _ _ _ _ _ _ dG,run_slice_l w 22 (some x) n c dG .i64 (i:Int) (by omega) (by omega),lT];simp only [Result.andThen,sliced,yn,yp,Ar];split <;>rfl
theorem aC.EH {n:Nat} (h:aC w (.slice (some x) n c) l) (j:Nat) (hj:j<=l.length):aC w (.slice (some x) j c) (l.take j):=by
 rcases h with ⟨e,_⟩ | ⟨x',c',e,h1,h2,h3⟩
 ·cases e
 ·cases e;refine .inr ⟨_,_,by rw [nM,O9 hj],by rw [nM];omega,h2,λk u hu=> ?_⟩;rw [jc,Bc] at hu;split at hu
  ·exact h3 _ _ (by rw [jc];exact hu)
  ·cases hu
theorem aC.EI {n:Nat} (h:aC w (.slice (some x) n c) l) (i:Nat) (hi:i<=l.length):aC w (.slice (some (if c=i then x else x.add i)) (n - i) (c - i)) (l.drop i):=by
 have hn:n=l.length:=by
  rcases h with ⟨e,_⟩ | ⟨x',c',e,_⟩
  ·cases e
  ·cases e;rfl
 have:=h.cut i (l.length - i) (by omega);rw [sU (by rw [iN];omega)] at this;rw [hn];exact this
theorem rA (x:Addr) (i:Nat):(x.add i).block=x.block:=by unfold Addr.add;split <;>rfl
theorem aC.apart (h:aC w v l) (hk:ah (λb=>b=s) w w') (dO:∀ x n c,v= .slice (some x) n c->l≠ []->x.block≠s):aC w' v l:=by
 rcases h with h | ⟨x,c,rfl,h1,h2,h3⟩
 ·exact .inl h
 ·refine .inr ⟨x,c,rfl,h1,h2,λj u hu=> ?_⟩;have hc:=h3 j u hu;rw [kK (hk.block _ (wT w _ hc) (λe=>dO x _ _ rfl (λe2=>by rw [e2] at hu;simp at hu) (by rw [rA] at e;exact e)))];exact hc
def qH:Value->Nat
 | .slice _ n _=>n
 | _=>0
theorem SL {m:Int} (hh:w.heap[s]?=some (gu H (eu m tail))) (hH:H.length=8):(w.setCell ⟨s,8,none⟩ (.int .u64 n)).heap[s]?=some (gu H (eu n tail)):=by refine (bf (t:=208) hh 8 _).trans ?_;obtain ⟨x0,x1,x2,x3,x4,x5,x6,x7,rfl⟩:=nE hH;rfl
structure xn (w:World) (pv:Value) (s:Nat) (D:aH):Prop where
 reads:aC w pv D
 apart:∀ x n c,pv= .slice (some x) n c->D≠ []->x.block≠s
theorem xn.next {n:Nat} {D:aH} (h:xn w (.slice (some x) n c) s D) (hd:64<=D.length):xn w (.slice (some (if c=64 then x else x.add 64)) (n - 64) (c - 64)) s (D.drop 64):=by
 have hD:D≠ []:=λe=>by rw [e] at hd;simp at hd
 refine ⟨h.reads.EI 64 hd,λy m d e _=> ?_⟩;simp only [Value.slice.injEq,im] at e;rw [<-e.1];split
 ·exact h.apart x n c rfl hD
 ·rw [rA];exact h.apart x n c rfl hD
structure yQ (w wx:World) (s kb:Nat) (M:aH) (j:Nat):Prop where
 mid:abo wx s M j
 keep:ah (λb=>b=s) w wx
 k:wx.heap[kb]?=some (cQ ff 210)
theorem BQ (W:World) (s hv:Nat) (h:hv <64):(Instr.sliceAt 206 (.pointer (some ⟨s,9,none⟩)) (some (.int .i64 (hv:Int))) none none).run Tryz.prog W= .ok (.slice (some ⟨s,9+hv,none⟩) (64 - hv) (64 - hv)) W:=by
 have F8:Tryz.prog.arrayLen 206=64:=by kernel_rfl
 have jd:(sizeOf (Tryz.prog.elem 206)).run Tryz.prog W= .ok 1 W:=by kernel_rfl
 rw [run_sliceAt_array_l W 206 ⟨s,9,none⟩ (by kernel_rfl) .i64 (hv:Int) (by omega) (by rw [F8];omega),jd,F8];simp only [Result.andThen,slicedAt,yn,yp,iV];rw [if_neg (by omega)]
theorem Mr (hh:w.heap[s]?=some (gu H (eu n tail))) (hH:H.length=8) (ht:tail.length=64):aC w (.slice (some ⟨s,9,none⟩) 64 64) tail:=by refine .inr ⟨⟨s,9,none⟩,64,by rw [ht],by omega,by simp [maxLen],λj u hu=> ?_⟩;rw [iV];refine ag hh ?_;obtain ⟨x0,x1,x2,x3,x4,x5,x6,x7,rfl⟩:=nE hH;rw [oB,show 9+j=j+1+1+1+1+1+1+1+1+1 by omega];exact hu
theorem tL {k:Nat} {pc:Nat} (hH:H.length=8) (kL:p.length=64) (hp:aC w (.slice (some x) 64 pc) p) (hs:w.heap[s]?=some (gu H rest)) (hk:w.heap[k]?=some (cQ ff 210)): bF 114 #[.pointer (some ⟨s,0,none⟩),.slice (some x) 64 pc,.pointer (some ⟨k,0,none⟩)] w λe w'=>e= .returned (.tuple #[])/\ah (λb=>b=s) w w'/\w'.heap[s]?=some (gu (ko ff H p) rest):=by
 obtain ⟨h0,h1,h2,h3,h4,h5,h6,h7,rfl⟩:=nE hH;refine Mq w s k x p pc kL (λi c hc=> ?_) hs (by rfl) hk;rcases hp with ⟨e,_⟩ | ⟨x',c',e,g1,g2,g3⟩
 ·cases e
 ·simp only [Value.slice.injEq,im] at e;rw [e.1];exact g3 i (dF c) (by simp [hc])
theorem uH (hh:w.heap[s]?=some (gu H (eu n tail))) (hH:H.length=8) (ht:tail.length=64) (hr:aC w pv l) (i m:Nat) (hi:i <64) (C0:m=min l.length (64 - i)): ∃ w',(Builtin.copy_ #[22,22] 3 #[.slice (some ⟨s,9+i,none⟩) (64 - i) (64 - i),pv]).run Tryz.prog w= .ok (goInt (m:Int)) w'/\ah (λb=>b=s) w w'/\ w'.heap[s]?=some (gu H (eu n (tail.take i++l.take (64 - i)++tail.drop (i+m)))):=by
 obtain ⟨i0,hi0,rS,iH,jO⟩:=info_parts jN;have jd:(Tryz.prog.info? 5).map (·.size)=some 1:=by rw [hi0];simp [iH]
 rcases hr with ⟨rfl,rfl⟩ | ⟨x,c,rfl,h1,h2,h3⟩
 ·simp only [gN,Nat.zero_min] at C0;subst C0;refine ⟨w, ?_,ah.refl _ _, ?_⟩
  ·exact run_copy_nil (P:=Tryz.prog) w 22 22 3 5 ⟨s,9+i,none⟩ (64 - i) (64 - i) Tryz.underlying22 (by rw [jd];rfl)
  ·simpa using hh
 ·have hm:((l.take (64 - i)).map dF).length=m:=by rw [io,nM,C0,Nat.min_comm]
  have Y0:((l.take (64 - i)).map dF).length=Nat.min l.length (64 - i):=by rw [hm,C0]
  have abq:(List.map ek H++eu n tail).toArray.size=73:=by simp [hH,ht,eu]
  have eh:=run_copy_row (P:=Tryz.prog) w 22 22 3 5 s (9+i) (64 - i) (64 - i) x l.length c _ 208 ((l.take (64 - i)).map dF) Tryz.underlying22 jd hh Y0
   (λj v hv=>h3 j v (by rw [jc] at hv ⊢;rw [Bc] at hv;split at hv;exact hv;cases hv))
   (by rw [hm,abq];omega) (wX _)
  rw [hm] at eh;have uZ:(List.take (9+i) (List.map ek H++eu n tail).toArray.toList++List.map dF (List.take (64 - i) l)++List.drop (9+i+m) (List.map ek H++eu n tail).toArray.toList).toArray=(List.map ek H++eu n (tail.take i++l.take (64 - i)++tail.drop (i+m))).toArray:=by obtain ⟨x0,x1,x2,x3,x4,x5,x6,x7,rfl⟩:=nE hH;unfold eu;simp only [kz,Av,qV,pj,mB,List.map_take,List.map_drop];rw [show 9+i+m=(i+m)+1+1+1+1+1+1+1+1+1 by omega,show 9+i=i+1+1+1+1+1+1+1+1+1 by omega];simp only [List.take_succ_cons,qV,Hp,lN]
  rw [uZ] at eh;exact ⟨_,eh,⟨rfl,rfl,rfl,by simp [World.setRow],λk hk hF=>setRow_other w s k _ (λe=>hF e)⟩,setRow_heap w s _ _ 208 _ hh⟩
theorem abr (hs:px w s L) (hr:aC w pv l) (dO:∀ x n c,pv= .slice (some x) n c->l≠ []->x.block≠s) (hb:L.length+l.length <140737488355328) (h0:L.length % 64=0): bF 51 #[.pointer (some ⟨s,0,none⟩),pv] w λe w'=>e= .returned (.tuple #[])/\ah (λb=>b=s) w w'/\px w' s (L++l):=by
 obtain ⟨a,c,rfl,iL,gy⟩:=hr.aG;obtain ⟨tail,hh,ht,hp⟩:=hs;obtain ⟨n,hn⟩:∃ n:Nat,n=L.length:=⟨_,rfl⟩;obtain ⟨M,Hj⟩:=cE (L++l);rw [<-Hj];rw [<-hn] at hh;have bM:=tJ w;obtain ⟨w1,bG,bN,iH,qB⟩:=Zu w;have aX:=bm hh;have Qh:=ae hh;have KW:=bN.at hh (λe=>e);obtain ⟨x0,x1,x2,x3,x4,x5,x6,x7,hx⟩:=nE (cJ L (L.length / 64));have CS:=KW;unfold gu cR eu at CS;rw [hx] at CS;have c8:=ag (i:=8) CS rfl;have f8:=cL CS 8;simp only [kz,Av,qV,pj,Ap,An,yl] at c8;have Zv:=ae bM;have Zw:=ae qB;have V7:=ae KW;have HR:=ae hr;have e0:(n:Int) % 64=0:=by omega
 clear bM hh CS KW qB hr;go_enter Tryz.func51,Tryz.ntmps51;go_wp2_with fail;refine Zv.Z.Z.mono ?_;rintro e w' ⟨rfl,rfl⟩;go_wp2_with fail;have vk:=SL V7.Z (n:=(M.length:Int)) (by unfold cR;exact cJ _ _);have hM:mA M (L.length / 64)=cR L:=by rw [Hj];exact kD _ _ _ (by omega)
 have hD:M.drop (64*(L.length / 64))=l:=by rw [Hj,show 64*(L.length / 64)=L.length by omega,Ht]
 have cU:(M.length:Int)=(L.length:Int)+(l.length:Int):=by rw [Hj,fS];omega
 rw [<-hM,cU] at vk;have od:ah (λb=>b=s) w (w1.setCell ⟨s,8,none⟩ (.int .u64 ((L.length:Int)+(l.length:Int)))):=ah.setCell (F:=λb=>b=s) (p:=⟨s,8,none⟩) (bN.mono (λ_ _ e=>e.elim)) (λ_=>rfl) _;have F9:(w1.setCell ⟨s,8,none⟩ (.int .u64 ((L.length:Int)+(l.length:Int)))).heap[w.heap.size+1]?=some (cQ ff 210):=(kS w1 ⟨s,8,none⟩ _ _ (λe=>by simp only at e;omega)).trans Zw.Z;rw [<-cU] at vk od F9 ⊢;have Er:yQ w (w1.setCell ⟨s,8,none⟩ (.int .u64 (M.length:Int))) s (w.heap.size+1) M (L.length / 64):=⟨⟨tail,vk,ht,by omega⟩,od,F9⟩;have SM:xn w (.slice a l.length c) s (M.drop (64*(L.length / 64))):=by rw [hD];exact ⟨HR.Z,dO⟩
 have BR:=ae Er;have Jl:=ae SM;clear Er SM vk hM hD cU od F9 bG bN iH hx c8 f8 Zv Zw V7 HR e0 Hj;generalize L.length / 64=j0 at BR Jl;generalize w1.setCell ⟨s,8,none⟩ (.int .u64 (M.length:Int))=w2 at BR ⊢;go_loopw [1] (λpv wx=>∃ j:Nat,xn w pv s (M.drop (64*j))/\yQ w wx s (w.heap.size+1) M j) (λpv _=>qH pv);case atStart=>exact ⟨j0,Jl.Z,BR.Z⟩
 case round=>
  obtain ⟨j,rU,hrel⟩:=hrel;clear BR Jl;obtain ⟨D,hD⟩:=cE (M.drop (64*j));rw [<-hD] at rU;obtain ⟨a',c',rfl,wj,Jm⟩:=rU.reads.aG;unfold maxLen at Jm;have od:=hrel.keep;obtain ⟨qI,V8,C3,Pc⟩:=hrel.mid;have EJ:=(rU.reads.apart od rU.apart);by_cases aX:64<=D.length
  ·obtain ⟨n1,n2,n3⟩:=BP (M:=M) (j:=j) (by rw [<-hD];exact aX);rw [<-hD] at n1 n2;obtain ⟨x,rfl⟩:∃ x,a'=some x:=by
    rcases rU.reads with ⟨e,e2⟩ | ⟨x,c'',e,_⟩
    ·subst e2;simp at aX
    ·cases e;exact ⟨x,rfl⟩
   have kg:=tL (w:=wr) (s:=s) (k:=w.heap.size+1) (cJ M j) (by rw [nM];omega) (EJ.EH 64 aX) V8 hrel.k;rw [<-n1] at kg;have BA:xn w (.slice (some (if c'=64 then x else x.add 64)) (D.length - 64) (c' - 64)) s (M.drop (64*(j+1))):=by rw [<-n2];exact rU.next aX
   have RZ:∀ W,(Instr.sliceAt 22 (.slice (some x) D.length c') none (some (.int .i64 64)) none).run Tryz.prog W= .ok (.slice (some x) 64 c') W:=λW=>yO W (some x) D.length c' 64 (by omega);have bG:∀ W,(Instr.sliceAt 22 (.slice (some x) D.length c') (some (.int .i64 64)) none none).run Tryz.prog W= .ok (.slice (some (if c'=64 then x else x.add 64)) (D.length - 64) (c' - 64)) W:=λW=>yP W x D.length c' 64 aX;have oi:=ae kg;have SN:=ae BA;have dE:=ae hrel;have HX:=ae (⟨n3,C3,aX⟩:64*(j+1)<=M.length/\qI.length=64/\64<=D.length);generalize (if c'=64 then x else x.add 64)=y at bG SN;have j1:(64:Int)<=D.length:=by omega
   have j2:((D.length:Nat):Int)<=9223372036854775807:=by omega
   clear kg BA hrel rU EJ od V8 n1 n2 n3 hD aX C3 Pc wj Jm;go_wp2_with fail;refine oi.Z.mono ?_;rintro e w3 ⟨rfl,dN,CU⟩;have uZ:yQ w w3 s (w.heap.size+1) M (j+1):=⟨⟨qI,CU,HX.Z.2.1,HX.Z.1⟩,dE.Z.keep.trans dN (λ_ _ e=>e),dN.at dE.Z.k (λe=>by have:=bm Qh.Z;omega)⟩;have Zx:=ae uZ;clear uZ dN CU oi;go_wp2;go_roundw;case rel=>exact ⟨j+1,SN.Z,Zx.Z⟩
   case measure=>have:=HX.Z;simp only [qH];omega
  ·have hcp:=uH V8 (cJ M j) C3 EJ 0 D.length (by omega) (by omega);obtain ⟨w3,ml,dN,CU⟩:=hcp;have SP:px w3 s M:=by
    have Rr:(M.drop (64*j)).length <64:=by rw [<-hD];omega
    refine px.abp (tail:=qI) (j:=j) ?_ C3 Pc Rr;rw [<-hD];rw [Au,pj,fw,sU (by omega)] at CU;exact CU
   have fP:=ae SP;have pU:=ae (od.trans dN (λ_ _ e=>e));have j1:(D.length:Int) <64:=by omega
   clear SP dN CU hrel rU EJ od V8 C3 Pc aX hD;go_wp2;go_end0;exact ⟨rfl,pU.Z,fP.Z⟩
theorem Zy (hs:px w s L) (hr:aC w pv l) (dO:∀ x n c,pv= .slice (some x) n c->l≠ []->x.block≠s) (hb:L.length+l.length <140737488355328) (h0:0 <L.length % 64) (Ms:64<=L.length % 64+l.length): bF 51 #[.pointer (some ⟨s,0,none⟩),pv] w λe w'=>e= .returned (.tuple #[])/\ah (λb=>b=s) w w'/\px w' s (L++l):=by
 obtain ⟨a,c,rfl,iL,gy⟩:=hr.aG;obtain ⟨tail,hh,ht,hp⟩:=hs;obtain ⟨n,hn⟩:∃ n:Nat,n=L.length:=⟨_,rfl⟩;obtain ⟨M,Hj⟩:=cE (L++l);rw [<-Hj];rw [<-hn] at hh;have bM:=tJ w;obtain ⟨w1,bG,bN,iH,qB⟩:=Zu w;have aX:=bm hh;have Qh:=ae hh;have KW:=bN.at hh (λe=>e);obtain ⟨x0,x1,x2,x3,x4,x5,x6,x7,hx⟩:=nE (cJ L (L.length / 64));have CS:=KW;unfold gu cR eu at CS;rw [hx] at CS;have c8:=ag (i:=8) CS rfl;have f8:=cL CS 8;simp only [kz,Av,qV,pj,Ap,An,yl] at c8;have Zv:=ae bM;have Zw:=ae qB;have V7:=ae KW;have HR:=ae hr;clear bM hh CS KW qB hr;obtain ⟨hv,Vh⟩:=cE (L.length % 64);obtain ⟨m,hm⟩:=cE (min l.length (64 - hv));have vk:=SL V7.Z (n:=(M.length:Int)) (by unfold cR;exact cJ _ _);have cU:(M.length:Int)=(n:Int)+(l.length:Int):=by rw [Hj,fS];omega
 have od:ah (λb=>b=s) w (w1.setCell ⟨s,8,none⟩ (.int .u64 (M.length:Int))):=ah.setCell (F:=λb=>b=s) (p:=⟨s,8,none⟩) (bN.mono (λ_ _ e=>e.elim)) (λ_=>rfl) _;have F9:(w1.setCell ⟨s,8,none⟩ (.int .u64 (M.length:Int))).heap[w.heap.size+1]?=some (cQ ff 210):=(kS w1 ⟨s,8,none⟩ _ _ (λe=>by simp only at e;omega)).trans Zw.Z;obtain ⟨w3,ml,dN,CU⟩:=uH vk (by unfold cR;exact cJ _ _) ht (HR.Z.apart od dO) hv m (by omega) hm;rw [cU,hn] at ml;have e0:(L.length:Int) % 64=(hv:Int):=by omega
 have j0:(0:Int) <hv:=by omega
 have j1:(hv:Int) <64:=by omega
 have j2:=np m;have hts:∀ W,(Instr.sliceAt 206 (.pointer (some ⟨s,9,none⟩)) (some (.int .i64 (hv:Int))) none none).run Tryz.prog W= .ok (.slice (some ⟨s,9+hv,none⟩) (64 - hv) (64 - hv)) W:=λW=>BQ W s hv (by omega);obtain ⟨x,rfl⟩:∃ x,a=some x:=by
  rcases HR.Z with ⟨e,e2⟩ | ⟨x,c'',e,_⟩
  ·subst e2;simp at Ms;omega
  ·cases e;exact ⟨x,rfl⟩
 have Df:∀ W,(Instr.sliceAt 22 (.slice (some x) l.length c) (some (.int .i64 (m:Int))) none none).run Tryz.prog W= .ok (.slice (some (if c=m then x else x.add m)) (l.length - m) (c - m)) W:=λW=>yP W x l.length c m (by omega);have jm:(hv:Int)+m=64:=by omega
 obtain ⟨qI,yG⟩:=cE (tail.take hv++l.take (64 - hv)++tail.drop (hv+m));rw [<-yG] at CU;obtain ⟨p1,p2,p3⟩:=Qg (l:=l) ht hp (by omega);rw [<-Vh,<-Hj] at p2;rw [<-Vh,<-Hj] at p3;rw [<-Hj] at p1;have Zz:qI=(M.drop (64*(L.length / 64))).take 64:=by have acY:tail.drop (hv+m)=[]:=CX (by omega);rw [yG,p2,acY,qh]
 have N8:64*(L.length / 64+1)<=M.length:=by omega
 have V9:qI.length=64:=by rw [Zz,nM,iN];omega
 have kg:=tL (w:=w3) (s:=s) (k:=w.heap.size+1) (x:=⟨s,9,none⟩) (pc:=64) (by unfold cR;exact cJ _ _) V9 (Mr CU (by unfold cR;exact cJ _ _) V9) CU (dN.at F9 (λe=>by have:=bm Qh.Z;omega));have gQ:ko ff (cR L) qI=mA M (L.length / 64+1):=by rw [Zz,<-p1];rfl
 rw [gQ] at kg;have SM:xn w (.slice (some (if c=m then x else x.add m)) (l.length - m) (c - m)) s (M.drop (64*(L.length / 64+1))):=by
  rw [<-p3,show 64 - hv=m by omega];have YY:l≠ []:=λe=>by rw [e] at Ms;simp at Ms;omega
  refine ⟨HR.Z.EI m (by omega),λy u d e _=> ?_⟩;simp only [Value.slice.injEq,im] at e;rw [<-e.1];split
  ·exact dO x l.length c rfl YY
  ·rw [rA];exact dO x l.length c rfl YY
 have SQ:ah (λb=>b=s) w w3:=od.trans dN (λ_ _ e=>e);have abt:=dN.at F9 (λe=>by have:=bm Qh.Z;omega);have cK:∀ w4,ah (λb=>b=s) w3 w4->w4.heap[s]?=some (gu (mA M (L.length / 64+1)) (eu (M.length:Int) qI))->yQ w w4 s (w.heap.size+1) M (L.length / 64+1):=λw4 h1 h2=>⟨⟨qI,h2,V9,N8⟩,SQ.trans h1 (λ_ _ e=>e),h1.at abt (λe=>by have:=bm Qh.Z;omega)⟩
 have oi:=ae kg;have Jl:=ae SM;have fk:=ae cK;generalize (if c=m then x else x.add m)=y at Df Jl;generalize L.length / 64+1=jj at Jl fk oi;clear p1 p2 p3 yG Zz V9 N8 kg gQ SM cK SQ abt;have HX:=ae (⟨hn,Vh,hm,cU⟩:n=L.length/\hv=L.length % 64/\m=min l.length (64 - hv)/\(M.length:Int)=(n:Int)+(l.length:Int));have pU:=ae dN;clear vk cU od F9 dN CU hp Hj Ms h0 Vh hm hx bN iH aX;go_enter Tryz.func51,Tryz.ntmps51;go_wp2_with fail;refine Zv.Z.Z.mono ?_;rintro e w' ⟨rfl,rfl⟩;go_wp2_with fail;refine oi.Z.mono ?_;rintro e w4 ⟨rfl,eA,hh4⟩;have BR:=ae (fk.Z w4 eA hh4);clear fk oi eA hh4 hts Df ml jm e0 j0 j1 j2 c8 f8 pU HR Zv Zw V7 bG;go_wp2_with fail;go_loopw [1] (λpv wx=>∃ j:Nat,xn w pv s (M.drop (64*j))/\yQ w wx s (w.heap.size+1) M j) (λpv _=>qH pv);case atStart=>exact ⟨jj,Jl.Z,BR.Z⟩
 case round=>
  obtain ⟨j,rU,hrel⟩:=hrel;clear BR Jl;obtain ⟨D,hD⟩:=cE (M.drop (64*j));rw [<-hD] at rU;obtain ⟨a',c',rfl,wj,Jm⟩:=rU.reads.aG;unfold maxLen at Jm;have od:=hrel.keep;obtain ⟨qI,V8,C3,Pc⟩:=hrel.mid;have EJ:=(rU.reads.apart od rU.apart);by_cases aX:64<=D.length
  ·obtain ⟨n1,n2,n3⟩:=BP (M:=M) (j:=j) (by rw [<-hD];exact aX);rw [<-hD] at n1 n2;obtain ⟨x,rfl⟩:∃ x,a'=some x:=by
    rcases rU.reads with ⟨e,e2⟩ | ⟨x,c'',e,_⟩
    ·subst e2;simp at aX
    ·cases e;exact ⟨x,rfl⟩
   have kg:=tL (w:=wr) (s:=s) (k:=w.heap.size+1) (cJ M j) (by rw [nM];omega) (EJ.EH 64 aX) V8 hrel.k;rw [<-n1] at kg;have BA:xn w (.slice (some (if c'=64 then x else x.add 64)) (D.length - 64) (c' - 64)) s (M.drop (64*(j+1))):=by rw [<-n2];exact rU.next aX
   have RZ:∀ W,(Instr.sliceAt 22 (.slice (some x) D.length c') none (some (.int .i64 64)) none).run Tryz.prog W= .ok (.slice (some x) 64 c') W:=λW=>yO W (some x) D.length c' 64 (by omega);have bG:∀ W,(Instr.sliceAt 22 (.slice (some x) D.length c') (some (.int .i64 64)) none none).run Tryz.prog W= .ok (.slice (some (if c'=64 then x else x.add 64)) (D.length - 64) (c' - 64)) W:=λW=>yP W x D.length c' 64 aX;have oi:=ae kg;have SN:=ae BA;have dE:=ae hrel;have HX:=ae (⟨n3,C3,aX⟩:64*(j+1)<=M.length/\qI.length=64/\64<=D.length);generalize (if c'=64 then x else x.add 64)=y at bG SN;have j1:(64:Int)<=D.length:=by omega
   have j2:((D.length:Nat):Int)<=9223372036854775807:=by omega
   clear kg BA hrel rU EJ od V8 n1 n2 n3 hD aX C3 Pc wj Jm;go_wp2_with fail;refine oi.Z.mono ?_;rintro e w3 ⟨rfl,dN,CU⟩;have uZ:yQ w w3 s (w.heap.size+1) M (j+1):=⟨⟨qI,CU,HX.Z.2.1,HX.Z.1⟩,dE.Z.keep.trans dN (λ_ _ e=>e),dN.at dE.Z.k (λe=>by have:=bm Qh.Z;omega)⟩;have Zx:=ae uZ;clear uZ dN CU oi;go_wp2;go_roundw;case rel=>exact ⟨j+1,SN.Z,Zx.Z⟩
   case measure=>have:=HX.Z;simp only [qH];omega
  ·have hcp:=uH V8 (cJ M j) C3 EJ 0 D.length (by omega) (by omega);obtain ⟨w3,ml,dN,CU⟩:=hcp;have SP:px w3 s M:=by
    have Rr:(M.drop (64*j)).length <64:=by rw [<-hD];omega
    refine px.abp (tail:=qI) (j:=j) ?_ C3 Pc Rr;rw [<-hD];rw [Au,pj,fw,sU (by omega)] at CU;exact CU
   have fP:=ae SP;have pU:=ae (od.trans dN (λ_ _ e=>e));have j1:(D.length:Int) <64:=by omega
   clear SP dN CU hrel rU EJ od V8 C3 Pc aX hD;go_wp2;go_end0;exact ⟨rfl,pU.Z,fP.Z⟩
theorem ZA (hs:px w s L) (hr:aC w pv l) (dO:∀ x n c,pv= .slice (some x) n c->l≠ []->x.block≠s) (hb:L.length+l.length <140737488355328) (h0:0 <L.length % 64) (Ms:L.length % 64+l.length <64): bF 51 #[.pointer (some ⟨s,0,none⟩),pv] w λe w'=>e= .returned (.tuple #[])/\ah (λb=>b=s) w w'/\px w' s (L++l):=by
 obtain ⟨a,c,rfl,iL,gy⟩:=hr.aG;obtain ⟨tail,hh,ht,hp⟩:=hs;obtain ⟨n,hn⟩:∃ n:Nat,n=L.length:=⟨_,rfl⟩;obtain ⟨M,Hj⟩:=cE (L++l);rw [<-Hj];rw [<-hn] at hh;have bM:=tJ w;obtain ⟨w1,bG,bN,iH,qB⟩:=Zu w;have aX:=bm hh;have KW:=bN.at hh (λe=>e);obtain ⟨x0,x1,x2,x3,x4,x5,x6,x7,hx⟩:=nE (cJ L (L.length / 64));have CS:=KW;unfold gu cR eu at CS;rw [hx] at CS;have c8:=ag (i:=8) CS rfl;have f8:=cL CS 8;simp only [kz,Av,qV,pj,Ap,An,yl] at c8;have Zv:=ae bM;have Zw:=ae qB;have V7:=ae KW;have HR:=ae hr;clear bM hh CS KW qB hr;obtain ⟨hv,Vh⟩:=cE (L.length % 64);obtain ⟨m,hm⟩:=cE (min l.length (64 - hv));have vk:=SL V7.Z (n:=(M.length:Int)) (by unfold cR;exact cJ _ _);have cU:(M.length:Int)=(n:Int)+(l.length:Int):=by rw [Hj,fS];omega
 have od:ah (λb=>b=s) w (w1.setCell ⟨s,8,none⟩ (.int .u64 (M.length:Int))):=ah.setCell (F:=λb=>b=s) (p:=⟨s,8,none⟩) (bN.mono (λ_ _ e=>e.elim)) (λ_=>rfl) _;have F9:(w1.setCell ⟨s,8,none⟩ (.int .u64 (M.length:Int))).heap[w.heap.size+1]?=some (cQ ff 210):=(kS w1 ⟨s,8,none⟩ _ _ (λe=>by simp only at e;omega)).trans Zw.Z;obtain ⟨w3,ml,dN,CU⟩:=uH vk (by unfold cR;exact cJ _ _) ht (HR.Z.apart od dO) hv m (by omega) hm;rw [cU,hn] at ml;have e0:(L.length:Int) % 64=(hv:Int):=by omega
 have j0:(0:Int) <hv:=by omega
 have j2:=np m;have hts:∀ W,(Instr.sliceAt 206 (.pointer (some ⟨s,9,none⟩)) (some (.int .i64 (hv:Int))) none none).run Tryz.prog W= .ok (.slice (some ⟨s,9+hv,none⟩) (64 - hv) (64 - hv)) W:=λW=>BQ W s hv (by omega);obtain ⟨pv',Df⟩:∃ pv',∀ W,(Instr.sliceAt 22 (.slice a l.length c) (some (.int .i64 (m:Int))) none none).run Tryz.prog W= .ok pv' W:=⟨_,λW=>by rw [run_sliceAt_slice _ _ _ _ _ _ dG,run_slice_l W 22 a l.length c dG .i64 (m:Int) (by omega) (by omega),lT];rfl⟩
 have jm:(hv:Int)+m <64:=by omega
 have N8:m=l.length:=by omega
 have cK:px w3 s M:=by obtain ⟨p1,p2⟩:=Qf (l:=l) ht hp Ms;rw [<-Hj,<-Vh] at p2;rw [<-Hj] at p1;rw [<-p1,N8,sU (l:=l) (by omega)] at CU;refine ⟨_,CU, ?_,p2⟩;rw [fS,fS,nM,iN,ht];omega
 have SQ:ah (λb=>b=s) w w3:=od.trans dN (λ_ _ e=>e);have fk:=ae cK;have acZ:=ae SQ;clear cK SQ N8;clear vk cU od F9 dN CU hp Hj Ms h0 Vh hm hx bN iH aX;go_enter Tryz.func51,Tryz.ntmps51;go_wp2_with fail;refine Zv.Z.Z.mono ?_;rintro e w' ⟨rfl,rfl⟩;go_wp2_with fail;(try simp only [Exit.inBlock,Exit.then])
 refine bodyPost_ret (results_none rfl _ _ _) rfl ?_;exact ⟨rfl,acZ.Z,fk.Z⟩
theorem wk (hs:px w s L) (hr:aC w pv l) (dO:∀ x n c,pv= .slice (some x) n c->l≠ []->x.block≠s) (hb:L.length+l.length <140737488355328): bF 51 #[.pointer (some ⟨s,0,none⟩),pv] w λe w'=>e= .returned (.tuple #[])/\ah (λb=>b=s) w w'/\px w' s (L++l):=by
 by_cases h0:L.length % 64=0
 ·exact abr hs hr dO hb h0
 ·by_cases h1:64<=L.length % 64+l.length
  ·exact Zy hs hr dO hb (by omega) h1
  ·exact ZA hs hr dO hb (by omega) (by omega)
def m8 (n:Nat):Nat:=(119 - n % 64) % 64
def tM (n:Nat):aH:=(128::List.replicate (m8 n) 0)++aL (8*n) 8
def ei (L:aH):aH:=(cR (L++tM L.length)).flatMap (λx=>aL x.toNat 4)
theorem Qi (H:List Int) (n:Int) (tail:aH):(H.map ek++eu n tail).toArray.all (·.oneCell')=true:=by rw [Array.all_eq_true_iff_forall_mem];intro v hv;simp only [List.mem_toArray,List.mem_append,eu,Hu,List.mem_map] at hv;rcases hv with ⟨x,_,rfl⟩ | rfl | ⟨x,_,rfl⟩ <;>rfl
theorem Dg (w:World) (A:Obj) (c c':Array Value) (t:TypeId):((w.alloc A).alloc (.cells c t)).setRow (w.heap.size+1) c'=(w.alloc A).alloc (.cells c' t):=by have:=World.setRow_alloc_new (w.alloc A) c c' t;rw [World.size_alloc] at this;exact this
theorem Ga (n:Nat):(tM n).length<=80:=by have:m8 n <64:=Nat.mod_lt _ (by omega);rw [tM,fS,iM,O4,ax];omega
theorem Qj {P:aH} {tb:Nat} {o:Obj} (h:Own w wr (bS pv P::aA tb o::rs)):∀ x n c,pv= .slice (some x) n c->x.block≠tb:=by obtain ⟨F,G,h1,h2,ha,_⟩:=h.XU;intro x n c e hx;refine ha x.block (h1.2 _ (by rw [e];rfl)) ?_;rw [hx];exact h2.1
theorem SR {P:aH} {tb:Nat} {o:Obj} (h:Own w wr (bS pv P::aA tb o::rs)) (w':World) (o':Obj) (hk:ah (λb=>b=tb) wr w') (ho:w'.heap[tb]?=some o'):Own w w' (aA tb o'::rs):=by obtain ⟨F,h1,h2,back⟩:=h.drop.jT;exact back w' (aA tb o') (hk.mono (λb _ e=>by rw [e];exact h1.1)) ⟨.inl h1.1,ho⟩
def SS (w wx:World) (cs:Array Value) (pv:Value) (P:aH):Prop:=
 Own w wx [bS pv P,aA (w.heap.size+1) (.cells cs 208),aA w.heap.size (.cells (Array.replicate 32 (.int .u8 0)) 39)]
def fI (k:Nat):aH:=128::List.replicate k 0
theorem pI (k:Nat):(fI k).length=k+1:=by simp [fI]
theorem yR (k:Nat):fI k++[0]=fI (k+1):=by rw [fI,fI,List.replicate_succ',qV]
theorem jq (w:World) (b:Nat) (cs:Array Value):ah (λi=>i=b) w (w.setRow b cs):=⟨rfl,rfl,rfl,by simp [World.setRow],λk hk hF=>setRow_other w b k cs (λe=>hF e)⟩
theorem mP (l:aH):(l.map dF).toArray.all (·.oneCell')=true:=by rw [Array.all_eq_true_iff_forall_mem];intro v hv;simp only [List.mem_toArray,List.mem_map] at hv;obtain ⟨x,_,rfl⟩:=hv;rfl
def sF (Y:List Int) (j:Nat):aH:=(Y.take j).flatMap (λx=>aL x.toNat 4)++List.replicate (32 - 4*j) 0
theorem rB (Y:List Int):(Y.flatMap (λx=>aL x.toNat 4)).length=4*Y.length:=by
 induction Y with
 | nil=>rfl
 | cons y Y ih=>rw [List.flatMap_cons,fS,ih,ax,iM];omega
theorem zL (Y:List Int) (hY:Y.length=8) (j:Nat) (hj:j<=8):(sF Y j).length=32:=by rw [sF,fS,rB,nM,O4];omega
theorem SU (Y:List Int) (hY:Y.length=8):sF Y 8=Y.flatMap (λx=>aL x.toNat 4):=by rw [sF,sU (by omega)];simp
theorem EK (Y:List Int) (hY:Y.length=8) {m:Nat} (hj:j <8) (hm:(m:Int)=lM Y j):(sF Y j).take (4*j)++aL m 4++(sF Y j).drop (4*j+4)=sF Y (j+1):=by
 have hl:((Y.take j).flatMap (λx=>aL x.toNat 4)).length=4*j:=by rw [rB,nM];omega
 have e1:(sF Y j).take (4*j)=(Y.take j).flatMap (λx=>aL x.toNat 4):=by rw [sF,CW (by omega),sU (by omega)]
 have e2:(sF Y j).drop (4*j+4)=List.replicate (32 - 4*(j+1)) 0:=by have e0:((Y.take j).flatMap (λx=>aL x.toNat 4)).drop (4*j)=[]:=CX (by omega);rw [sF,<-K8,O3 (by omega),e0,pj,List.drop_replicate];congr 1
 have e3:Y.take (j+1)=Y.take j++[lM Y j]:=by rw [ym,ii (by omega)];rfl
 rw [e1,e2,sF,e3,List.flatMap_append,List.flatMap_cons,List.flatMap_nil,qh,<-hm,yn]
theorem Qk (Y:List Int):((sF Y 0).map dF).toArray=Array.replicate 32 (.int .u8 0):=by simp [sF,dF];rfl
def yS (w wx:World) (db:Nat) (Y:List Int) (rest:List Value) (j:Nat):Prop:=
 Own w wx [aA db (.cells (((sF Y j).map dF).toArray) 39),aA (w.heap.size+1) (gu Y rest),aA w.heap.size (.cells (Array.replicate 32 (.int .u8 0)) 39)]
theorem ZB (y0 y1 y2 y3 y4 y5 y6 y7:Int) (W:World):(Instr.index 205 (.agg #[.int .u32 y0,.int .u32 y1,.int .u32 y2,.int .u32 y3,.int .u32 y4,.int .u32 y5,.int .u32 y6,.int .u32 y7]) (.int .i64 0)).run Tryz.prog W= .ok (.int .u32 y0) W:=by kernel_rfl
theorem ZC (y0 y1 y2 y3 y4 y5 y6 y7:Int) (W:World):(Instr.index 205 (.agg #[.int .u32 y0,.int .u32 y1,.int .u32 y2,.int .u32 y3,.int .u32 y4,.int .u32 y5,.int .u32 y6,.int .u32 y7]) (.int .i64 1)).run Tryz.prog W= .ok (.int .u32 y1) W:=by kernel_rfl
theorem ZD (y0 y1 y2 y3 y4 y5 y6 y7:Int) (W:World):(Instr.index 205 (.agg #[.int .u32 y0,.int .u32 y1,.int .u32 y2,.int .u32 y3,.int .u32 y4,.int .u32 y5,.int .u32 y6,.int .u32 y7]) (.int .i64 2)).run Tryz.prog W= .ok (.int .u32 y2) W:=by kernel_rfl
theorem ZE (y0 y1 y2 y3 y4 y5 y6 y7:Int) (W:World):(Instr.index 205 (.agg #[.int .u32 y0,.int .u32 y1,.int .u32 y2,.int .u32 y3,.int .u32 y4,.int .u32 y5,.int .u32 y6,.int .u32 y7]) (.int .i64 3)).run Tryz.prog W= .ok (.int .u32 y3) W:=by kernel_rfl
theorem ZF (y0 y1 y2 y3 y4 y5 y6 y7:Int) (W:World):(Instr.index 205 (.agg #[.int .u32 y0,.int .u32 y1,.int .u32 y2,.int .u32 y3,.int .u32 y4,.int .u32 y5,.int .u32 y6,.int .u32 y7]) (.int .i64 4)).run Tryz.prog W= .ok (.int .u32 y4) W:=by kernel_rfl
theorem ZG (y0 y1 y2 y3 y4 y5 y6 y7:Int) (W:World):(Instr.index 205 (.agg #[.int .u32 y0,.int .u32 y1,.int .u32 y2,.int .u32 y3,.int .u32 y4,.int .u32 y5,.int .u32 y6,.int .u32 y7]) (.int .i64 5)).run Tryz.prog W= .ok (.int .u32 y5) W:=by kernel_rfl
theorem ZH (y0 y1 y2 y3 y4 y5 y6 y7:Int) (W:World):(Instr.index 205 (.agg #[.int .u32 y0,.int .u32 y1,.int .u32 y2,.int .u32 y3,.int .u32 y4,.int .u32 y5,.int .u32 y6,.int .u32 y7]) (.int .i64 6)).run Tryz.prog W= .ok (.int .u32 y6) W:=by kernel_rfl
theorem ZI (y0 y1 y2 y3 y4 y5 y6 y7:Int) (W:World):(Instr.index 205 (.agg #[.int .u32 y0,.int .u32 y1,.int .u32 y2,.int .u32 y3,.int .u32 y4,.int .u32 y5,.int .u32 y6,.int .u32 y7]) (.int .i64 7)).run Tryz.prog W= .ok (.int .u32 y7) W:=by kernel_rfl
theorem SV (y0 y1 y2 y3 y4 y5 y6 y7:Int) (j:Nat) (hj:j <8) (W:World):(Instr.index 205 (.agg #[.int .u32 y0,.int .u32 y1,.int .u32 y2,.int .u32 y3,.int .u32 y4,.int .u32 y5,.int .u32 y6,.int .u32 y7]) (.int .i64 (j:Int))).run Tryz.prog W= .ok (ek (lM [y0,y1,y2,y3,y4,y5,y6,y7] j)) W:=by
 match j,hj with
 | 0,_=>exact ZB y0 y1 y2 y3 y4 y5 y6 y7 W
 | 1,_=>exact ZC y0 y1 y2 y3 y4 y5 y6 y7 W
 | 2,_=>exact ZD y0 y1 y2 y3 y4 y5 y6 y7 W
 | 3,_=>exact ZE y0 y1 y2 y3 y4 y5 y6 y7 W
 | 4,_=>exact ZF y0 y1 y2 y3 y4 y5 y6 y7 W
 | 5,_=>exact ZG y0 y1 y2 y3 y4 y5 y6 y7 W
 | 6,_=>exact ZH y0 y1 y2 y3 y4 y5 y6 y7 W
 | 7,_=>exact ZI y0 y1 y2 y3 y4 y5 y6 y7 W
 | j+8,hj=>omega
theorem Mt (W:World) (db q:Nat) (h:q <32):(Instr.sliceAt 39 (.pointer (some ⟨db,0,none⟩)) (some (.int .i64 (q:Int))) none none).run Tryz.prog W= .ok (.slice (some ⟨db,q,none⟩) (32 - q) (32 - q)) W:=by
 have F8:Tryz.prog.arrayLen 39=32:=by kernel_rfl
 have jd:(sizeOf (Tryz.prog.elem 39)).run Tryz.prog W= .ok 1 W:=by kernel_rfl
 rw [run_sliceAt_array_l W 39 ⟨db,0,none⟩ (by kernel_rfl) .i64 (q:Int) (by omega) (by rw [F8];omega),jd,F8];simp only [Result.andThen,slicedAt,yn,yp,iV,fw];rw [if_neg (by omega)]
theorem SW {W:World} {db q m:Nat} {Y:List Int} (h:yS w wr db Y rest j) (hj:j <8) (hq:q=4*j) (hm:(m:Int)=lM Y j) (hY:Y.length=8) (ho:bC W wr.heap.size v (aL m 4)) (hk:ak wr.drew W): ∃ w2,(Builtin.copy_ #[22,22] 3 #[.slice (some ⟨db,q,none⟩) (32 - q) (32 - q),v]).run Tryz.prog W= .ok (goInt 4) w2/\yS w w2 db Y rest (j+1):=by
 obtain ⟨i0,hi0,rS,iH,jO⟩:=info_parts jN;have jd:(Tryz.prog.info? 5).map (·.size)=some 1:=by rw [hi0];simp [iH]
 have h1:Own w W _:=(Own.drew h).quiet hk;have Wa:=(h1.at (gw ..)).1;rcases ho.bytes.reads with ⟨_,e⟩ | ⟨x,c,rfl,g1,g2,g3⟩
 ·have:=congrArg List.length e;rw [ax] at this;simp at this
 ·have hl:((aL m 4).map dF).length=4:=by rw [io,ax]
  rw [ax] at g1 ⊢;have eh:=run_copy_row (P:=Tryz.prog) W 22 22 3 5 db q (32 - q) (32 - q) x 4 c _ 39 ((aL m 4).map dF) Tryz.underlying22 jd Wa (by rw [hl];exact (O9 (by omega)).symm) g3 (by rw [hl];simp [zL Y hY j (by omega)];omega) (wX _);rw [hl] at eh;refine ⟨_,eh, ?_⟩;have h2:=h1.setRow (((sF Y (j+1)).map dF).toArray);rw [<-EK Y hY hj hm,mB,mB,List.map_take,List.map_drop,<-hq] at h2;unfold yS;rw [<-EK Y hY hj hm,mB,mB,List.map_take,List.map_drop,<-hq];exact h2
theorem Dh {P:Program} {K:Act->World->Prop} {Q:Exit->Act->World->Prop} {E:Prop} (hg:o.guard=none) (s x:Operand) (t tx:TypeId) (ph:o.op=Op.call {callee:=Callee.builtin Builtin.copy,args:=#[s,x],argTypes:=#[t,tx]}) {sv xv v':Value} (hs:a.eval s=sv) (hx:a.eval x=xv) (aT:(Builtin.copy_ #[t,tx] o.type #[sv,xv]).run P w= .ok v' w') (hK:K (a.put o.dst v') w'):if Region.wanted o (yielded ops a.tmps)=true then Oper.wp P o a w K Q else E:=by
 have hw:Region.wanted o (yielded ops a.tmps)=true:=by simp [Region.wanted,hg]
 rw [if_pos hw];unfold Oper.wp;simp [execOp,ph,resolve,invoke,builtin,hs,hx,aT,Result.andThen];exact hK
theorem eE {X E:Prop} (hg:o.guard=none) (h:X):if Region.wanted o (yielded ops a.tmps)=true then X else E:=by rw [if_pos (by simp [Region.wanted,hg])];exact h
theorem ac0 (w:World):∃ w',(Instr.makeSlice 22 (.int .i64 1) (.int .i64 72)).run Tryz.prog w= .ok (.slice (some ⟨w.heap.size,0,none⟩) 1 72) w'/\bC w' w.heap.size (.slice (some ⟨w.heap.size,0,none⟩) 1 72) [0]/\ak w w':=by obtain ⟨i0,hi,rS,iH,jO⟩:=info_parts jN;have hr:=run_make (P:=Tryz.prog) w 22 5 i0 _ Tryz.underlying22 hi rS .i64 .i64 1 72 (by omega) (by omega) (by rw [jO];omega) (by omega);rw [iH] at hr;refine ⟨_,hr,⟨rfl,.inr ⟨w.heap.size,72,_,rfl,eQ _,heap_alloc_new w _,by simp,by simp [maxLen],by rw [size_madeCells];rfl,by simp [madeCells,Value.cells,dF,List.range_succ_eq_map]⟩⟩,(ah.refl _ w).alloc _⟩
theorem wl (hs:px w s L) (hb:L.length <70368744177664): bF 52 #[.pointer (some ⟨s,0,none⟩)] w λe w'=>e= .returned (.agg ((ei L).map dF).toArray)/\ak w w':=by
 obtain ⟨tail,hh,ht,hp⟩:=hs;obtain ⟨n,hn⟩:∃ n:Nat,n=L.length:=⟨_,rfl⟩;rw [<-hn] at hh;obtain ⟨cs,pS⟩:∃ cs:Array Value,cs=((cR L).map ek++eu (n:Int) tail).toArray:=⟨_,rfl⟩;have hH:(cR L).length=8:=cJ _ _;have ZJ:cs.size=73:=by rw [pS];simp [hH,ht,eu]
 have nF:(Tryz.prog.info? 208).map (·.size)=some cs.size:=by rw [ZJ];kernel_rfl
 have AB:cs.all (·.oneCell')=true:=by rw [pS];exact Qi _ _ _
 have KW:=(((ah.refl (λ_=>False) w).alloc (.cells (Array.replicate 32 (.int .u8 0)) 39)).at hh (λe=>e));unfold gu at hh KW;rw [<-pS] at hh KW;have HH:=ae hh;have V7:=ae KW;have X4:=ae nF;have Mu:=ae AB;have HCZ:=ae ZJ;have HCS:=ae pS;clear hh KW nF AB ZJ pS;go_enter Tryz.func52,Tryz.ntmps52;go_wp2_with (first | (refine wpList_load_row rfl 208 _ rfl s rfl 208 cs (0,0) _ V7.Z Tryz.underlying208 rfl X4.Z ?_) | (refine wpList_store_row rfl 208 _ _ rfl _ cs rfl rfl 208 _ (heap_alloc2_new w _ _) X4.Z (by rw [HCZ.Z];kernel_rfl) Mu.Z ?_;rw [Dg];generalize hW:World.alloc _ _=w2;have HW:=ae hW;clear hW) | (at_make;obtain ⟨w3,yj,fy,dN⟩:=ac0 w2;refine Ax rfl _ _ _ rfl rfl rfl yj ?_;obtain ⟨lz,⟨u3,hu3⟩,hf3,eA⟩:=fy.set (i:=0) (by simp) 128;have V6:=ae lz;have pU:=ae dN;clear fy lz dN eA yj));have bt:Own w w2 [aA (w.heap.size+1) (.cells cs 208),aA w.heap.size (.cells (Array.replicate 32 (.int .u8 0)) 39)]:=by rw [<-HW.Z];have h:=((Own.start w).alloc (.cells (Array.replicate 32 (.int .u8 0)) 39)).alloc (.cells cs 208);simp only [World.size_alloc] at h;exact h
 have C1:ak w2 (w3.setCell ⟨w2.heap.size,0,none⟩ (.int .u8 128)):=pU.Z.setCell (λh=>by simp at h) _;have h5:Own w (w3.setCell ⟨w2.heap.size,0,none⟩ (.int .u8 128)) [bS (.slice (some ⟨w2.heap.size,0,none⟩) 1 72) (128::List.replicate 0 0),aA (w.heap.size+1) (.cells cs 208),aA w.heap.size (.cells (Array.replicate 32 (.int .u8 0)) 39)]:=bt.ix V6.Z C1;have H5:=ae h5;have hc8:cs[8]?=some (.int .u64 (n:Int)):=by rw [HCS.Z];obtain ⟨x0,x1,x2,x3,x4,x5,x6,x7,hx⟩:=nE hH;rw [hx];rfl
 have HC8:=ae hc8;obtain ⟨z,hz⟩:=cE (m8 n);have P9:z=(119 - n % 64) % 64:=hz;have HZ:=ae hz;have HZZ:=ae P9;have abu:(n:Int) <70368744177664:=by omega
 have Wb:=ae abu;have HN:=ae hn;have HT:=ae (⟨ht,hp⟩:tail.length=64/\tail.take (L.length % 64)=L.drop (64*(L.length / 64)));clear C1 h5 bt hu3 hf3 V6 pU HW hc8 hz P9 abu hb hn ht hp hH;generalize w3.setCell ⟨w2.heap.size,0,none⟩ (.int .u8 128)=w4 at H5 ⊢;generalize Value.slice (some ⟨w2.heap.size,0,none⟩) 1 72=pv0 at H5 ⊢;go_loopw [4] (λpv wx=>∃ k,k<=z/\SS w wx cs pv (fI k)) (λpv _=>z+1 - qH pv);case atStart=>exact ⟨0,fC _,H5.Z⟩
 case round=>
  obtain ⟨k,hk,ho⟩:=hrel;clear H5;unfold SS at ho;obtain ⟨P,hP⟩:∃ P:aH,P=fI k:=⟨_,rfl⟩;obtain ⟨q,hq⟩:=cE (k+1);have hPl:P.length=q:=by rw [hP,hq,pI]
  rw [<-hP] at ho;obtain ⟨gm,aa,ac,rfl,_,_⟩:=ho.bytes (gw ..);rw [hPl] at gm ⊢;have ht8:=ag (i:=8) (ho.at (b:=w.heap.size+1) (o:= .cells cs 208) (by simp)).1 HC8.Z;have hs8:=ag (i:=8) (ho.keeps.at HH.Z (λe=>e)) HC8.Z;have P9:=HZZ.Z;obtain ⟨tt,mN⟩:=cE (n+q);have ac1:q<=65:=by omega
  have ewq:IntKind.u64.wrap (q:Int)=(q:Int):=by rw [IntKind.wrap_u64];omega
  have ew:IntKind.u64.wrap ((n:Int)+(q:Int))=(tt:Int):=by have:=Wb.Z;rw [IntKind.wrap_u64];omega
  have j1:(q:Int)<=65:=by omega
  have j3:=np n;clear ac1;by_cases aX:k <z
  ·obtain ⟨r2,CP⟩:∃ r2:Nat,r2=(n+q) % 64:=⟨_,rfl⟩;have eb:((tt:Int) % 64 !=56)=true:=by rw [bne_iff_ne];omega
   have cg:ak wr (wr.alloc (.cells #[.int .u8 0] 5)):=(ah.refl _ wr).alloc _;have AX:aC (wr.alloc (.cells #[.int .u8 0] 5)) (.slice (some ⟨wr.heap.size,0,none⟩) 1 1) [0]:=gP wr 0;obtain ⟨v',w5,aT,ju⟩:=(ho.quiet cg).grow AX (by rw [hPl];simp;omega);have Rw:P++[0]=fI (k+1):=by rw [hP,yR]
   rw [Rw] at ju;rw [hPl] at aT;obtain ⟨VI,VJ,rfl,_,_⟩:=(ju.bytes (v:=v') (l:=fI (k+1)) (gw ..)).2;have cV:=ae aT;have yh:=ae ju;have HX:=ae (⟨aX,hq⟩:k <z/\q=k+1);clear mN;clear aT ju ho gm CP P9 aX hk hq hPl hP Rw cg AX;go_wp2_with (at_builtin;refine ao rfl _ _ _ _ rfl rfl rfl cV.Z ?_);go_roundw;case rel=>exact ⟨k+1,HX.Z.1,yh.Z⟩
   case measure=>have:=HX.Z;simp only [qH,pI];omega
  ·obtain rfl:k=z:=by omega
   obtain ⟨n8,Ql⟩:=cE (8*n);have e8:IntKind.u64.wrap ((n:Int)*8)=(n8:Int):=by have:=Wb.Z;rw [IntKind.wrap_u64];omega
   have Vi:=ae Ql;clear Ql
   have eb : ((tt : Int) % 64 != 56) = false := by have : (tt : Int) % 64 = 56 := by omega
                                                   rw [this];rfl
   clear mN;clear aX hk P9;have HO:=ae ho;have HQ:=ae (⟨hq,hPl,hP⟩:q=k+1/\P.length=q/\P=fI k);clear ho gm hq hPl hP;go_wp2_with fail;have qp:=ly wr n8 8 (by have:=Vi.Z;have:=Wb.Z;omega) (by omega);refine qp.mono ?_;rintro e w5 ⟨v5,rfl,ju,fB⟩;obtain ⟨v6,w6,aT,h6⟩:=(HO.Z.quiet fB).grow ju.bytes.reads (by rw [HQ.Z.2.1,ax];omega);have abv:P++aL n8 8=tM n:=by rw [HQ.Z.2.2,HZ.Z,Vi.Z];rfl
   rw [abv] at h6;rw [HQ.Z.2.1] at aT;obtain ⟨a5,c5,rfl,_,_⟩:=ju.bytes.aG;obtain ⟨Qm,a6,c6,rfl,_,_⟩:=h6.bytes (gw ..);have abw:px w6 (w.heap.size+1) L:=by have:=(h6.at (b:=w.heap.size+1) (o:= .cells cs 208) (by simp)).1;rw [HCS.Z,HN.Z] at this;exact ⟨tail,this,HT.Z.1,HT.Z.2⟩
   have yg:=wk abw Qm (λx n c e _=>Qj h6 x n c e) (by have:=Wb.Z;have:=HN.Z;have:=Ga n;omega);have X5:=SR h6;have HPC:=ae yg;have X6:=ae X5;have cV:=ae aT;clear qp ju fB aT h6 abv Qm abw yg X5 ht8 hs8 ewq ew j1 j3 e8 eb HO;go_wp2_with (at_builtin;refine ao rfl _ _ _ _ rfl rfl rfl cV.Z ?_);refine HPC.Z.mono ?_;rintro e w7 ⟨rfl,jf,abx,hh7,ht7,hp7⟩;have h7:=X6.Z w7 _ jf hh7;obtain ⟨M,hM⟩:=cE (L++tM n);have Di:ei L=(cR M).flatMap (λx=>aL x.toNat 4):=by rw [hM,HN.Z];rfl
   rw [<-hM] at h7;obtain ⟨y0,y1,y2,y3,y4,y5,y6,y7,hy⟩:=nE (cJ M (M.length / 64));have hy':cR M=[y0,y1,y2,y3,y4,y5,y6,y7]:=hy;have ZK:Jk [y0,y1,y2,y3,y4,y5,y6,y7]:=by rw [<-hy];exact tK _ _
   rw [hy'] at h7 Di;obtain ⟨rest,X7⟩:=cE (eu (M.length:Int) abx);rw [<-X7] at h7;have Vj:=(h7.at (b:=w.heap.size+1) (o:=gu [y0,y1,y2,y3,y4,y5,y6,y7] rest) (by simp)).1;have adU:=bm Vj;have c0:=ag (i:=0) Vj rfl;have c1:=ag (i:=1) Vj rfl;have c2:=ag (i:=2) Vj rfl;have c3:=ag (i:=3) Vj rfl;have c4:=ag (i:=4) Vj rfl;have c5:=ag (i:=5) Vj rfl;have c6:=ag (i:=6) Vj rfl;have c7:=ag (i:=7) Vj rfl;simp only [kz,Av,qV,pj,ek,Ap,An,yl] at c0 c1 c2 c3 c4 c5 c6 c7;have h8:=h7.alloc (.cells (Array.replicate 32 (.int .u8 0)) 39);have H8:=ae h8;have sG:=ae Di;have ZL:=ae ZK;clear HPC X6 cV jf hh7 ht7 hp7 hM Di hy hy' ZK h7 Vj h8 X7;go_wp2_with fail;change Code.wp _ _ _ _ (w7.alloc (.cells (Array.replicate 32 (.int .u8 0)) 39));clear c0 c1 c2 c3 c4 c5 c6 c7;generalize w7.alloc (.cells (Array.replicate 32 (.int .u8 0)) 39)=w8 at H8 ⊢;generalize w7.heap.size=db at H8 ⊢;have Dj:=λ(j:Nat) (h:j <8) W=>SV y0 y1 y2 y3 y4 y5 y6 y7 j h W;have aby:=ae Dj;clear Dj;obtain ⟨Y,hY⟩:∃ Y:List Int,Y=[y0,y1,y2,y3,y4,y5,y6,y7]:=⟨_,rfl⟩;rw [<-hY] at H8 ZL sG aby;have hYl:Y.length=8:=by rw [hY];rfl
   have Wc:=ae hYl;clear hYl hY;go_loopw [39] (λi wx=>∃ j:Nat,i= .int .i64 (j:Int)/\j<=8/\yS w wx db Y rest j) (λi _=>8 - (intOf i).toNat);case atStart=>exact ⟨0,rfl,by omega,by unfold yS;rw [Qk];exact H8.Z⟩
   case round=>
    obtain ⟨j,rfl,hj,hrel⟩:=hrel;clear H8;by_cases aX:j <8
    ·obtain ⟨m,hm⟩:∃ m:Nat,(m:Int)=lM Y j:=⟨(lM Y j).toNat,by have:=(ZL.Z (lM Y j) (kx (ii (by rw [Wc.Z];exact aX)))).1;omega⟩;have ZM:m <4294967296:=by have:=(ZL.Z (lM Y j) (kx (ii (by rw [Wc.Z];exact aX)))).2;omega
     have SX:=aby.Z j aX;rw [<-hm] at SX;unfold ek at SX;obtain ⟨q,hq⟩:=cE (4*j);have w4:IntKind.i64.wrap (4*(j:Int))=(q:Int):=by rw [IntKind.wrap_i64];omega
     have ewm:IntKind.u64.wrap (m:Int)=(m:Int):=by rw [IntKind.wrap_u64];omega
     have qy:∀ W,(Instr.sliceAt 39 (.pointer (some ⟨db,0,none⟩)) (some (.int .i64 (q:Int))) none none).run Tryz.prog W= .ok (.slice (some ⟨db,q,none⟩) (32 - q) (32 - q)) W:=λW=>Mt W db q (by omega);have qp:=λW=>ly W m 4 (by omega) (by omega);have hcp:=λW v h1 h2=>SW (W:=W) (v:=v) hrel aX hq hm Wc.Z h1 h2;have j0:=np j;have j1:(j:Int) <8:=by omega
     have Qn:=ae qp;have X8:=ae hcp;have HX:=ae aX;clear qp hcp hrel aX hj hm ZM hq;go_wp2_with fail;go_region_law (first | (refine eE rfl ?_;go_simp;go_at_call 44;refine (Qn.Z _).mono ?_;rintro e w1 ⟨v1,rfl,fT,bN⟩) | (obtain ⟨w2,aT,Je⟩:=X8.Z _ _ fT bN;refine Dh rfl _ _ _ _ rfl rfl rfl aT ?_) | fail);all_goals
      have abz:=ae Je;clear Je aT fT bN w4 ewm qy SX;go_wp2;go_roundw;case rel=>exact ⟨j+1,rfl,HX.Z,abz.Z⟩
      case measure=>have:=HX.Z;simp [intOf];omega
    ·obtain rfl:j=8:=by omega
     rw [show ((8:Nat):Int)=8 from rfl];have Jn:=hrel;unfold yS at Jn;obtain ⟨ds,nQ⟩:∃ ds:Array Value,ds=((sF Y 8).map dF).toArray:=⟨_,rfl⟩;have BS:ds.size=32:=by rw [nQ];simp [zL Y Wc.Z 8 (by omega)]
     have nF:(Tryz.prog.info? 39).map (·.size)=some ds.size:=by rw [BS];kernel_rfl
     have AB:ds.all (·.oneCell')=true:=by rw [nQ];exact mP _
     have Wa:=(Jn.at (b:=db) (o:= .cells (((sF Y 8).map dF).toArray) 39) (gw ..)).1;rw [<-nQ] at Wa;have Et:=(Jn.at (b:=w.heap.size) (o:= .cells (Array.replicate 32 (.int .u8 0)) 39) (by simp)).1;have cK:ds=((ei L).map dF).toArray:=by rw [nQ,sG.Z,SU Y Wc.Z]
     have od:ak w (wr.setRow w.heap.size ds):=Jn.keeps.trans (jq wr w.heap.size ds) (λb hb e=>by omega);have abA:=setRow_heap wr w.heap.size _ ds 39 _ Et;have HDB:=ae Wa;have Vk:=ae Et;have ac2:=ae abA;have Qo:=ae nF;have abB:=ae AB;have HDZ:=ae BS;have VW:=ae od;have fk:=ae cK;clear hrel Jn hj aX nQ BS nF AB Wa Et abA cK od;go_wp2_with (first | (refine wpList_load_row rfl 39 _ rfl db rfl 39 ds (0,0) _ HDB.Z Tryz.underlying39 rfl Qo.Z ?_) | (refine wpList_store_row rfl 39 _ _ rfl w.heap.size ds rfl rfl 39 _ Vk.Z Qo.Z (by rw [HDZ.Z];rfl) abB.Z ?_));refine bodyPost_ret (results_cell_row Tryz.results52 _ _ w.heap.size 39 ds (0,0) _ rfl ac2.Z Tryz.underlying39 rfl Qo.Z) rfl ?_;exact ⟨by rw [fk.Z],VW.Z⟩
theorem dz (L:aH):(ei L).length=32:=by have h:(cR (L++tM L.length)).length=8:=cJ _ _;rw [ei,rB,h]
theorem yT (hr:aC w v l) (hb:l.length <70368744177664):bF 11 #[v] w (bH w (.agg ((ei l).map dF).toArray)):=by
 obtain ⟨wA,hwA⟩:∃ wA:World,wA=w.alloc (.cells (Array.replicate 32 (.int .u8 0)) 39):=⟨_,rfl⟩;have SY:ak w wA:=by rw [hwA];exact (ah.refl _ w).alloc _
 have hzA:wA.heap.size=w.heap.size+1:=by rw [hwA,World.size_alloc]
 have hrA:wA.heap[w.heap.size]?=some (.cells (Array.replicate 32 (.int .u8 0)) 39):=by rw [hwA];exact heap_alloc_new w _
 have uZ:=yN wA;have bN:ak wA (wA.alloc (gu l5 (eu 0 (List.replicate 64 0)))):=(ah.refl _ wA).alloc _;have bG:px (wA.alloc (gu l5 (eu 0 (List.replicate 64 0)))) (w.heap.size+1) []:=by rw [<-hzA];exact ⟨List.replicate 64 0,heap_alloc_new wA _,by simp,by simp⟩
 have dO:∀ x n c,v= .slice (some x) n c->l≠ []->x.block≠w.heap.size+1:=by
  intro x n c e hl hx;subst e;rcases hr with ⟨e,_⟩ | ⟨x',c',e,g1,g2,g3⟩
  ·cases e
  ·cases e;obtain ⟨b,l',rfl⟩:=List.exists_cons_of_ne_nil hl;have:=wT w _ (g3 0 (dF b) rfl);rw [rA] at this;omega
 have qp:=wk bG ((hr.keep SY).keep bN) dO (by simp;omega);rw [hzA] at uZ;obtain ⟨a,c,rfl,iL,gy⟩:=hr.aG;obtain ⟨ds,nQ⟩:∃ ds:Array Value,ds=((ei l).map dF).toArray:=⟨_,rfl⟩;have BS:ds.size=32:=by rw [nQ];simp [dz]
 have nF:(Tryz.prog.info? 39).map (·.size)=some ds.size:=by rw [BS];kernel_rfl
 have AB:ds.all (·.oneCell')=true:=by rw [nQ];exact mP _
 have HP:=ae qp;have HN:=ae uZ;have X9:=ae SY;have HK:=ae bN;have HRA:=ae hrA;have HWA:=ae hwA;have Qo:=ae nF;have Mu:=ae AB;have HDZ:=ae BS;rw [<-nQ];have Rx:=ae nQ;clear qp uZ bN bG dO hr SY hzA hrA hwA nF AB BS nQ iL gy;go_enter Tryz.func11,Tryz.ntmps11;go_wp2_with fail;change Calls _ _ _ (w.alloc (.cells (Array.replicate 32 (.int .u8 0)) 39)) _;rw [<-HWA.Z];refine HN.Z.Z.mono ?_;rintro e w' ⟨rfl,rfl⟩;go_wp2_with fail;refine HP.Z.mono ?_;rintro e w2 ⟨rfl,cg,Df⟩;rw [pj] at Df;have uw:=wl Df hb;rw [<-Rx.Z] at uw;have dN:ak w w2:=(X9.Z.trans HK.Z (λ_ _ e=>e)).trans cg (λb hb e=>by omega);have CP:w2.heap[w.heap.size]?=some (.cells (Array.replicate 32 (.int .u8 0)) 39):=cg.at (HK.Z.at HRA.Z (λe=>e)) (λe=>by omega);have HD:=ae uw;have pU:=ae dN;have uW:=ae CP;clear cg Df uw dN HP HN HK X9 HRA CP hb;go_wp2_with fail;refine HD.Z.mono ?_;rintro e w3 ⟨rfl,eA⟩;have yj:=eA.at uW.Z (λe=>e);have C2:=ae ((pU.Z.trans eA (λ_ _ e=>e)).trans (jq w3 w.heap.size ds) (λb hb e=>by omega));have HR4:=ae (setRow_heap w3 w.heap.size _ ds 39 _ yj);have FW:=ae yj;clear eA pU HD yj uW;go_wp2_with (refine wpList_store_row rfl 39 _ _ rfl w.heap.size ds rfl rfl 39 _ FW.Z Qo.Z (by rw [HDZ.Z];rfl) Mu.Z ?_);refine bodyPost_ret (results_cell_row Tryz.results11 _ _ w.heap.size 39 ds (0,0) _ rfl HR4.Z Tryz.underlying39 rfl Qo.Z) rfl ?_;exact ⟨rfl,C2.Z⟩
theorem Gb (k:IntKind) (x y:Int):bits .or k x y=bits .or k y x:=by unfold bits;simp only [BitVec.or_comm]
def Ov (x n:Int):Int:=bits .or .u32 (x / 2 ^ min n.toNat 32) (IntKind.u32.wrap (x*2 ^ min (IntKind.u64.wrap (32 - n)).toNat 32))
theorem Qp (x n:Int) (w:World) (h1:0<=n) (h2:0<=IntKind.u64.wrap (32 - n)):aW 207 #[.int .u32 x,.int .u64 n] w (.int .u32 (Ov x n)) w:=by unfold aW Ov;go_enter Tryz.func207,Tryz.ntmps207;go_wp2;go_ret;exact ⟨rfl,rfl⟩
theorem SZ (x:Int) (h:F7 (wrap64 (-bits .and .i64 n 31))=32 - n) (h0:0<=n) (Ya:n<=32):Ov x n=nC x n:=by
 unfold Ov nC Ot;have e1:IntKind.u64.wrap (32 - n)=32 - n:=IntWalk.u64_in _ (by omega);have e2:IntKind.u64.wrap n=n:=IntWalk.u64_in _ (by omega);have e3:(32:Int) - (32 - n)=n:=by omega
 rw [h,e1,e3,e2];exact Gb _ _ _
def oQ (n:Int):Prop:=F7 (wrap64 (-bits .and .i64 n 31))=32 - n/\0<=n/\n<=32
theorem iA:oQ 7/\oQ 18/\oQ 17/\oQ 19/\oQ 6/\oQ 11/\oQ 25/\oQ 2/\oQ 13/\oQ 22:=by refine ⟨?_, ?_, ?_, ?_, ?_, ?_, ?_, ?_, ?_, ?_⟩ <;>exact ⟨by decide+kernel,by decide,by decide⟩
theorem iB {x:Int} (h:oQ n) (w:World):bF 207 #[.int .u32 x,.int .u64 n] w λe w'=>e= .returned (.int .u32 (nC x n))/\w'=w:=by obtain ⟨h0,h1,h2⟩:=h;have e1:IntKind.u64.wrap (32 - n)=32 - n:=IntWalk.u64_in _ (by omega);refine gU (Qp x n w h1 (by omega)) ?_;exact ⟨by rw [SZ x h0 h1 h2],rfl⟩
def abC (a b c d:UInt8):Int:=((a.toNat:Int) % 4294967296*16777216+(b.toNat:Int) % 4294967296*65536+(c.toNat:Int) % 4294967296*256+(d.toNat:Int)) % 4294967296
theorem nT (a b:Nat) (ha:a <4294967296) (hb:b <4294967296):bits .or .u32 (a:Int) (b:Int)=((a ||| b:Nat):Int):=by
 have hx:a ||| b <2 ^ 32:=Nat.or_lt_two_pow (by omega) (by omega);have h1:(BitVec.ofInt 32 (a:Int)).toNat=a:=by rw [BitVec.ofInt_natCast,BitVec.toNat_ofNat];exact Nat.mod_eq_of_lt (by omega)
 have h2:(BitVec.ofInt 32 (b:Int)).toNat=b:=by rw [BitVec.ofInt_natCast,BitVec.toNat_ofNat];exact Nat.mod_eq_of_lt (by omega)
 show IntKind.u32.wrap ((BitVec.ofInt 32 (a:Int) ||| BitVec.ofInt 32 (b:Int)).toNat:Int)=_;rw [BitVec.toNat_or,h1,h2,IntKind.wrap_u32];omega
theorem Wd (a b c d:UInt8):abC a b c d=Ou a b c d:=by
 have ha:=a.toNat_lt;have hb:=b.toNat_lt;have hc:=c.toNat_lt;have hd:=d.toNat_lt;unfold abC Ou;generalize a.toNat=a at*;generalize b.toNat=b at*;generalize c.toNat=c at*;generalize d.toNat=d at*;have e1:(a:Int) % 4294967296*16777216 % 4294967296=((a*16777216:Nat):Int):=by omega
 have e2:(b:Int) % 4294967296*65536 % 4294967296=((b*65536:Nat):Int):=by omega
 have e3:(c:Int) % 4294967296*256 % 4294967296=((c*256:Nat):Int):=by omega
 have e4:(d:Int) % 4294967296=(d:Int):=by omega
 rw [e1,e2,e3,e4];have o1:a*16777216 ||| b*65536=a*16777216+b*65536:=by have:=Nat.two_pow_add_eq_or_of_lt (i:=24) (b:=b*65536) (by omega) a;rw [Nat.mul_comm];exact this.symm
 have o2:(a*16777216+b*65536) ||| c*256=a*16777216+b*65536+c*256:=by have:=Nat.two_pow_add_eq_or_of_lt (i:=16) (b:=c*256) (by omega) (a*256+b);rw [show a*16777216+b*65536=2 ^ 16*(a*256+b) by omega];exact this.symm
 have o3:(a*16777216+b*65536+c*256) ||| d=a*16777216+b*65536+c*256+d:=by have:=Nat.two_pow_add_eq_or_of_lt (i:=8) (b:=d) (by omega) (a*65536+b*256+c);rw [show a*16777216+b*65536+c*256=2 ^ 8*(a*65536+b*256+c) by omega];exact this.symm
 rw [nT _ _ (by omega) (by omega),o1,nT _ _ (by omega) (by omega),o2,nT _ _ (by omega) (by omega),o3];omega
theorem We (h0:0<=e) (h1:e <4294967296):bits .and .u32 (4294967295 - e) g=bits .andNot .u32 g e:=by
 obtain ⟨n,rfl⟩:∃ n:Nat,e=n:=⟨e.toNat,by omega⟩;unfold bits;have hx:BitVec.ofInt IntKind.u32.bits (4294967295 - (n:Int))= ~~~ (BitVec.ofInt IntKind.u32.bits (n:Int)):=by change BitVec.ofInt 32 (4294967295 - (n:Int))= ~~~ (BitVec.ofInt 32 (n:Int));refine BitVec.eq_of_toNat_eq ?_;rw [BitVec.toNat_not,BitVec.ofInt_natCast,BitVec.toNat_ofNat,show (4294967295:Int) - (n:Int)=((4294967295 - n:Nat):Int) by omega,BitVec.ofInt_natCast,BitVec.toNat_ofNat];omega
 dsimp only;rw [hx,BitVec.and_comm]
theorem Dk {k w:Int} {a b c d f h:Int} (hV:∀ x ∈ [a,b,c,d,e,f,g,h],(0:Int)<=x/\x <4294967296):∀ x ∈ xm k w [a,b,c,d,e,f,g,h],(0:Int)<=x/\x <4294967296:=by
 intro x hx;simp only [xm,Hu,List.not_mem_nil,or_false] at hx;rcases hx with rfl | rfl | rfl | rfl | rfl | rfl | rfl | rfl
 ·omega
 ·exact hV _ (by simp)
 ·exact hV _ (by simp)
 ·exact hV _ (by simp)
 ·omega
 ·exact hV _ (by simp)
 ·exact hV _ (by simp)
 ·exact hV _ (by simp)
def jr (p:aH) (j:Nat):List Int:=if j<=16 then ry p j else kM p (j - 16)
theorem Dl (p:aH) (j:Nat):(jr p j).length=64:=by
 unfold jr;by_cases h:j<=16
 ·rw [if_pos h];exact m7 p j
 ·rw [if_neg h];exact kX p _
theorem Mv (h:j <16):jr p (j+1)=(jr p j).set j (yM p j):=by unfold jr;rw [if_pos (by omega),if_pos (by omega)];rfl
theorem Jo (h:16<=j):jr p (j+1)=(jr p j).set j (V5 (lM (jr p j) (j - 16)) (lM (jr p j) (j - 15)) (lM (jr p j) (j - 7)) (lM (jr p j) (j - 2))):=by
 obtain ⟨i,rfl⟩:∃ i,j=16+i:=⟨j - 16,by omega⟩;have e:jr p (16+i)=kM p i:=by
  unfold jr;by_cases h0:i=0
  ·subst h0;rfl
  ·rw [if_neg (by omega),RO]
 rw [e];unfold jr;rw [if_neg (by omega),show 16+i+1 - 16=i+1 by omega,show 16+i - 16=i by omega,show 16+i - 15=i+1 by omega,show 16+i - 7=i+9 by omega,show 16+i - 2=i+14 by omega];rfl
theorem Mw (p:aH):jr p 64=kM p 48:=rfl

end Go.Proofs.YtlcnhpjggjgnpaaGreatDoor