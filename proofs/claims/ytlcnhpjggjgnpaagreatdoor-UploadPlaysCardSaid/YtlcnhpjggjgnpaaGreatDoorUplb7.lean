/- A part of the proof. -/
import Derived.Test.YtlcnhpjggjgnpaaGreatDoorUplb5
import Derived.Test.YtlcnhpjggjgnpaaGreatDoorUplb6
set_option linter.unusedSimpArgs false
set_option linter.unusedVariables false
set_option maxRecDepth 100000
set_option maxHeartbeats 1000000
namespace Go.Proofs.YtlcnhpjggjgnpaaGreatDoor
open Go.RowKit Go.MapKept
variable {T:TM} {b n nx t:Nat} {fs:FS} {m:DM} {w:World}
structure UE where
 id:Nat
 au:aD
 bo:Int
 e:aH
variable {E:List UE} {x:UE}
structure wI (x:UE):Prop where
 id0:1<=x.id
 id1:x.id<=4294967295
 au:gf x.au=true
 bo:0<=x.bo/\x.bo<=1099511627776
 e:x.e=[]\/x.e.length=32
def kP (x:UE):aH:=cD x.au x.bo.toNat x.e
def eK (T:TM) (nm ky:aD):Int × TM × Bool:=
 if (bL T nm [⟨ky,true,[]⟩]).1=0 then
  (if (aE (bL T nm [⟨ky,true,[]⟩]).2.m ky).1=0 then
   ((aV (aE (bL T nm [⟨ky,true,[]⟩]).2.m ky).2).1,{(bL T nm [⟨ky,true,[]⟩]).2 with m:=(aV (aE (bL T nm [⟨ky,true,[]⟩]).2.m ky).2).2},true)
   else ((aE (bL T nm [⟨ky,true,[]⟩]).2.m ky).1,{(bL T nm [⟨ky,true,[]⟩]).2 with m:=(aE (bL T nm [⟨ky,true,[]⟩]).2.m ky).2},true))
 else ((bL T nm [⟨ky,true,[]⟩]).1,(bL T nm [⟨ky,true,[]⟩]).2,false)
def cO (T:TM) (nm:aD) (x:UE):Int × TM × Option eT:=
 if x.e.length=32 then ((eo T nm (aq x.id) x.e).1,(eo T nm (aq x.id) x.e).2,none)
 else if aF T.m (aq x.id)=0 then (0,T,some ⟨(x.id:Int),x.au,x.bo,cW T.m (aq x.id)⟩)
 else (200,T,none)
def dU (nm:aD):List UE->TM->List eT->Int × TM × List eT
 | [],T,L=>(0,T,L)
 | x::E,T,L=>if (cO T nm x).1=0 then dU nm E (cO T nm x).2.1 (L++(cO T nm x).2.2.toList) else ((cO T nm x).1,(cO T nm x).2.1,L)
def dt (fs:FS):List aD->DM->Nat->Int × DM
 | [],m,g=>if 0 <g then aV m else (0,m)
 | f::l,m,g=>if (aZ fs f).isSome then dt fs l m g else if (aE m f).1=0 then dt fs l (aE m f).2 (g+1) else aE m f
def nh (T:TM):Int × TM:=
 if T.m.bh then (5,T) else ((dt T.fs (cY T.m.aN p9) T.m 0).1,{T with m:=(dt T.fs (cY T.m.aN p9) T.m 0).2})
def eZ (T:TM) (nm:aD) (E:List UE):Int × TM × List eT:=
 if (dU nm E T []).1=0 then ((nh (dU nm E T []).2.1).1,(nh (dU nm E T []).2.1).2,(dU nm E T []).2.2)
 else (dU nm E T [])
structure vq (fs:FS) (E:List UE) (nx:Nat):Prop where
 ok:ig fs
 keys:fs.filter (λp=>cH p.1 p9)=E.map (λx=>(aq x.id,kP x))
 each:∀ x ∈ E,wI x
 next:(aZ fs uB=none/\nx=1)\/(aZ fs uB=some (aL nx 8)/\1<=nx/\nx<=4294967296)
theorem xY {fn:Func} {p u v:Tmp} {ty:TypeId} (h:fn.results=#[.cell p ty,.tmp u,.tmp v]) (tmps:Array Value) (P:Program) (w:World): (results fn tmps).run P w= ((asAddr (tmps.getD p undef)).run P w).andThen λa w₁=>((loadVar ty a).run P w₁).andThen λr adl=> .ok (.tuple #[r,tmps.getD u undef,tmps.getD v undef]) adl:=by simp only [results,h];simp [Sem.run_bind,Result.andThen]
theorem QV {fn:Func} {p u v:Tmp} (h:fn.results=#[.cell p 43,.tmp u,.tmp v]) (tmps:Array Value) (w:World) (g:Nat) (ds:Array Value) (BS:ds.size=3) (hp:tmps.getD p undef= .pointer (some ⟨g,0,none⟩)) (hc:w.heap[g]?=some (.cells ds 43 (0,0))): (results fn tmps).run Tryz.prog w= .ok (.tuple #[.agg ds,tmps.getD u undef,tmps.getD v undef]) w:=by rw [xY h,hp];simp only [asAddr,Sem.run_pure,Result.andThen_ok,run_loadVar_row w g 43 43 ds (0,0) _ hc Tryz.underlying43 rfl (by rw [BS];kernel_rfl)]
theorem Nf (g n c k:Nat) (hk:k<=32) (h1:1+k<=n) (h2:n <c\/1+k <n) (h3:n<=c): (∀ W,(Instr.sliceAt 22 (.slice (some ⟨g,0,none⟩) n c) (some (.int .i64 1)) (some (.int .u8 (1+(k:Int)))) none).run Tryz.prog W= .ok (.slice (some ⟨g,1,none⟩) k (c - 1)) W)/\ (∀ W,(Instr.sliceAt 22 (.slice (some ⟨g,0,none⟩) n c) (some (.int .u8 (1+(k:Int)))) none none).run Tryz.prog W= .ok (.slice (some ⟨g,1+k,none⟩) (n - (1+k)) (c - (1+k))) W):=by
 refine ⟨λW=> ?_,λW=> ?_⟩
 ·rw [run_sliceAt_slice _ _ _ _ _ _ dG,run_slice_lh W 22 _ n c dG .i64 .u8 (1:Int) (1+(k:Int)) (by omega) (by omega) (by omega),lT];have e1:(1+(k:Int)).toNat=1+k:=by omega
  have e2:((1:Int)).toNat=1:=rfl;simp only [Result.andThen,sliced,e1,e2,yp,RO];rw [if_neg (by omega)];rfl
 ·rw [run_sliceAt_slice _ _ _ _ _ _ dG,run_slice_l W 22 _ n c dG .u8 (1+(k:Int)) (by omega) (by omega),lT];have e1:(1+(k:Int)).toNat=1+k:=by omega
  simp only [Result.andThen,sliced,e1,yp];rw [if_neg (by omega)];simp [iV]
theorem pP (x:UE):(kP x).length=9+x.e.length+x.au.size:=pZ _ _ _
theorem wI.aal (h:wI x):x.e.length=0\/x.e.length=32:=by
 rcases h.e with h | h
 ·left;rw [h];rfl
 ·exact .inr h
theorem wJ {s:aD} (h:gf s=true):0 <s.size:=by
 rcases Nat.eq_zero_or_pos s.size with h0 | h0
 ·obtain ⟨a⟩:=s;have:a=#[]:=Array.eq_empty_of_size_eq_zero h0;subst this;have hn:gf ⟨#[]⟩=false:=by decide+kernel
  rw [hn] at h;cases h
 ·exact h0
theorem Cj (x:UE):(kP x).drop (1+x.e.length)=aL x.bo.toNat 8++x.au.toList/\((kP x).drop 1).take x.e.length=x.e/\(kP x)[0]?=some (UInt8.ofNat x.e.length):=by
 refine ⟨?_, ?_, ?_⟩
 ·show ([UInt8.ofNat x.e.length]++x.e++aL x.bo.toNat 8++x.au.toList).drop (1+x.e.length)=_;rw [lN,List.drop_left' (by simp;omega)]
 ·show (([UInt8.ofNat x.e.length]++x.e++aL x.bo.toNat 8++x.au.toList).drop 1).take x.e.length=_;simp only [lN,List.singleton_append,Hp,Pa];exact List.take_left' rfl
 ·rfl
theorem aC.off {g o c:Nat} {l:aH} (h:aC w (.slice (some ⟨g,o,none⟩) n c) l) (i j:Nat) (R7:i+j<=l.length) (dO:i <c):aC w (.slice (some ⟨g,o+i,none⟩) j (c - i)) ((l.drop i).take j):=by have:=h.cut i j R7;rw [if_neg (by omega),iV] at this;exact this
theorem Ck {W:World} {cl:List Value} {ty:TypeId} {M:List (bB w.heap.size)} (h:Own w W M) (hm:aA b (.cells cl.toArray ty) ∈ M):W.rangeAt b 0 cl:=λk v hv=>by rw [fw];exact ag (h.at (b:=b) (o:= .cells cl.toArray ty) hm).1 (by rw [oB];exact hv)
def aam:Obj:= .cells #[.string ⟨#[]⟩,.int .i64 0,.int .i64 0] 43
theorem Ka (uM:wy w) (hx:wI x) {g c:Nat} (h:aC w (.slice (some ⟨g,0,none⟩) n c) (kP x)): bF 65 #[.slice (some ⟨g,0,none⟩) n c] w (bH w (.tuple #[.agg #[.string x.au,.int .i64 x.bo,.int .i64 0],.slice (some ⟨g,1,none⟩) x.e.length (c - 1),.bool true])):=by
 obtain ⟨k,hk⟩:=cE (x.e.length);have cg:k=0\/k=32:=by rw [hk];exact hx.aal
 have cU:=pP x;have pE:=lJ hx.au;obtain ⟨Kb,TO,Gl⟩:=Cj x;obtain ⟨a',c',e0,wY,pA⟩:=h.aG;cases e0;rw [<-hk] at cU Kb TO Gl;unfold maxLen at pA;obtain ⟨y,ey,xg⟩:=h.cell (k:=0) rfl (by omega);cases ey;have aan:w.cell? ⟨g,0,none⟩=some (.int .u8 (k:Int)):=by
  have e1:(kP x)[0]'(by omega)=UInt8.ofNat k:=by have:=Gl;rw [js (by omega)] at this;exact K7 this
  rw [e1,Addr.add_zero'] at xg;rw [xg];have:(UInt8.ofNat k).toNat=k:=by simp;omega
  rw [this]
 obtain ⟨zp,og⟩:=Nf g (kP x).length c k (by omega) (by omega) (by omega) wY;have hr8:aC w (.slice (some ⟨g,1+k,none⟩) 8 (c - (1+k))) (aL x.bo.toNat 8):=by have:=h.off (1+k) 8 (by omega) (by omega);rw [Kb,List.take_left' (ax _ _),fw] at this;exact this
 have wm:aC w (.slice (some ⟨g,9+k,none⟩) x.au.size (c - (9+k))) x.au.toList:=by
  have:=h.off (9+k) x.au.size (by omega) (by have:0 <x.au.size:=wJ hx.au;omega)
  rw [show 9+k=1+k+8 by omega,<-K8,Kb,List.drop_left' (ax _ _),sU (by rw [gX];exact eQ _),fw] at this;rw [show 9+k=1+k+8 by omega];exact this
 have Bg:0 <x.au.size:=wJ hx.au;have hs3:∀ W,(Instr.sliceAt 22 (.slice (some ⟨g,1+k,none⟩) ((kP x).length - (1+k)) (c - (1+k))) none (some (.int .i64 8)) none).run Tryz.prog W= .ok (.slice (some ⟨g,1+k,none⟩) 8 (c - (1+k))) W:=λW=>by exact yO W (some ⟨g,1+k,none⟩) _ _ 8 (by omega)
 have QH:∀ W,(Instr.sliceAt 22 (.slice (some ⟨g,1+k,none⟩) ((kP x).length - (1+k)) (c - (1+k))) (some (.int .i64 8)) none none).run Tryz.prog W= .ok (.slice (some ⟨g,9+k,none⟩) x.au.size (c - (9+k))) W:=λW=>by rw [run_sliceAt_slice _ _ _ _ _ _ dG,run_slice_l W 22 _ _ _ dG .i64 (8:Int) (by omega) (by omega),lT];have e2:((8:Int)).toNat=8:=rfl;simp only [Result.andThen,sliced,e2,yp];rw [if_neg (by omega)];simp only [Ar,iV];rw [show 1+k+8=9+k by omega,show (kP x).length - (1+k) - 8=x.au.size by omega,show c - (1+k) - 8=c - (9+k) by omega]
 have qL:=λ(W:World) (hW:ak w W)=>uA (hr8.keep hW) (by rw [ax];exact eQ _);rw [eO 8 x.bo.toNat (by have:=hx.bo;omega)] at qL;have yG:((x.bo.toNat:Nat):Int)=x.bo:=by have:=hx.bo;omega
 rw [yG] at qL;have wH:=ae qL;have Kc:=ae (λ(W:World) (hW:ak w W)=>(by have:=(wm.keep hW).text;rw [xx] at this;exact this:(convert 22 9 (.slice (some ⟨g,9+k,none⟩) x.au.size (c - (9+k)))).run Tryz.prog W= .ok (.string x.au) W))
 have abU:=ae (λ(W:World) (hW:ak w W)=>(by have:=xp W (uM.keep hW) x.au;rw [hx.au] at this;exact this:bF 40 #[.string x.au] W (bH W (.bool true))))
 have HC0:=ae (λ(W:World) (hW:ak w W)=>aJ aan hW);have H1:=ae ((Own.start w).alloc aam);have iL:=aJ aan ((ah.refl (λ_=>False) w).alloc aam);obtain ⟨len,Gw⟩:=cE ((kP x).length);obtain ⟨l2,qe⟩:=cE (len - (1+k));obtain ⟨c2,WV⟩:=cE (c - (1+k));obtain ⟨c9,abV⟩:=cE (c - (9+k));obtain ⟨c1,aao⟩:=cE (c - 1);rw [<-Gw,<-qe,<-WV] at hs3 QH;rw [<-abV] at QH Kc;rw [<-Gw] at zp og;rw [<-aao] at zp;rw [<-qe,<-WV] at og;rw [<-WV] at wH;rw [<-hk,<-aao,<-Gw];have j1:decide ((len:Int) <1)=false:=decide_eq_false (by omega);have j2:(((k:Int) !=0) && ((k:Int) !=32))=false:=by rcases cg with e | e <;>rw [e] <;>decide
 have j3:IntKind.i64.wrap (k:Int)=(k:Int):=qi _ (by omega);have j4:IntKind.i64.wrap (9+(k:Int))=9+(k:Int):=qi _ (by omega);have j9:(0:Int) <(len:Int):=by omega
 have j10:¬len=0:=by omega
 have j5:decide ((len:Int) <9+(k:Int))=false:=decide_eq_false (by omega);have j6:IntKind.u8.wrap (1+(k:Int))=1+(k:Int):=by simp [IntKind.wrap,IntKind.bits,IntKind.signed];omega
 have j7:IntKind.i64.wrap x.bo=x.bo:=qi _ (by have:=hx.bo;omega);have j8:decide (x.bo<=1099511627776)=true:=decide_eq_true hx.bo.2;have AN:=ae (show (Tryz.prog.info? 43).map (·.size)=some ([.string x.au,.int .i64 x.bo,.int .i64 0]:List Value).length by kernel_rfl);clear uM hx h hk cU pE Kb TO Gl pA wY xg aan hr8 wm qL yG Gw qe WV abV aao Bg;generalize x.au.size=rsz at*;generalize x.au=au at*;generalize x.bo=bo at*;unfold aam at H1 iL;clear j2;have k32:(k:Int)<=32:=by omega
 have k0:=np k;have abW:(((k:Int)==0)=true/\((k:Int) !=0)=false)\/(((k:Int) !=0)=true/\((k:Int) !=32)=false):=by
  rcases cg with e | e
  ·left;subst e;decide
  ·right;subst e;decide
 clear cg;rcases abW with ⟨-,j2⟩ | ⟨j2,j2b⟩;all_goals
  go_enter Tryz.func65,Tryz.ntmps65;go_upto_region 3 with fail;clear iL j1 j3 j4 j5 j2;refine wp_region_held_drew (S:=(λW=>W.cell? ⟨g,0,none⟩=some (.int .u8 (k:Int)))) (by kernel_rfl) (by exact HC0.Z _ ((ah.refl (λ_=>False) w).alloc _).drew) (λai=> ?_);refine tk 0 33 (.slice (some ⟨g,0,none⟩) len c) ai ?_;try go_frame
  refine tk 1 34 (.slice (some ⟨g,0,none⟩) len c) ai ?_;try go_frame
  refine tk 2 35 (.pointer (some ⟨g,0,none⟩)) ai ?_;try go_frame
  refine tk 3 36 (.int .u8 (k:Int)) ai ?_;try go_frame
  refine tk 4 37 (.int .u8 (1+(k:Int))) ai ?_;try go_frame
  refine tk 5 38 (.slice (some ⟨g,1,none⟩) k c1) ai ?_;try go_frame
  refine tk 6 39 (.slice (some ⟨g,0,none⟩) len c) ai ?_;try go_frame
  refine tk 7 40 (.slice (some ⟨g,0,none⟩) len c) ai ?_;try go_frame
  refine tk 8 41 (.pointer (some ⟨g,0,none⟩)) ai ?_;try go_frame
  refine tk 9 42 (.int .u8 (k:Int)) ai ?_;try go_frame
  refine tk 10 43 (.int .u8 (1+(k:Int))) ai ?_;try go_frame
  refine tk 11 44 (.slice (some ⟨g,1+k,none⟩) l2 c2) ai ?_;try go_frame
  refine tk 12 3 (.slice (some ⟨g,1,none⟩) k c1) ai ?_;try go_frame
  refine tk 13 0 (.slice (some ⟨g,1+k,none⟩) l2 c2) ai ?_;try go_frame
  refine wpAnyH_done (by kernel_rfl) ?_ _;clear ai zp og j6 j9;go_wp2_with fail;refine (wH.Z _ ((ah.refl (λ_=>False) w).alloc _).drew).mono ?_;rintro e w2 ⟨rfl,cg⟩;have h2:=(H1.Z.drew.quiet cg).drew;have H2:=ae h2;go_upto_region 5 with fail;clear hs3 wH cg;have e1:=ag (i:=1) (h2.at (gw ..)).1 rfl;have f1:=cL (h2.at (gw ..)).1 1;simp only [Ap,An,yl] at e1;have h3:Own w (w2.drew.setCell ⟨w.heap.size,1,none⟩ (.int .i64 bo)) [aA w.heap.size (.cells #[.string ⟨#[]⟩,.int .i64 bo,.int .i64 0] 43)]:=h2.store 1 (.int .i64 bo);have e0:=ag (i:=0) (h3.at (gw ..)).1 rfl;have f0:=cL (h3.at (gw ..)).1 0;simp only [Ap,An,yl] at e0;have h4:Own w ((w2.drew.setCell ⟨w.heap.size,1,none⟩ (.int .i64 bo)).setCell ⟨w.heap.size,0,none⟩ (.string au)) [aA w.heap.size (.cells #[.string au,.int .i64 bo,.int .i64 0] 43)]:=h3.store 0 (.string au);have H3:=ae h3;have H4:=ae h4;clear h2 h3 h4;refine wp_region_held_drew (S:=(λW=>ak w W)) (by kernel_rfl) (by exact H2.Z.keeps) (λai=> ?_);generalize w2.drew=w2d at*;refine tk 0 51 (.int .u64 bo) ai ?_;try go_frame
  refine tk 1 52 (.int .i64 bo) ai ?_;try go_frame
  refine tk 2 53 (.slice (some ⟨g,1+k,none⟩) l2 c2) ai ?_;try go_frame
  refine tk 3 54 (.slice (some ⟨g,9+k,none⟩) rsz c9) ai ?_;try go_frame
  refine tk 4 55 (.string au) ai ?_ (hy:=Or.inl ⟨by rfl,by intro w bK;(try dsimp only at bK);(have q:=Kc.Z _ bK;go_simp)⟩);try go_frame
  refine tk 5 56 (.pointer (some ⟨w.heap.size,1,none⟩)) ai ?_;try go_frame
  refine eR [6] ?_;refine rcg (o:={dst:=none,op:=_,type:=_,pos:=_,after:=_,guard:=_}) rfl (λK hK=> ?_) AllReadyH.nil;refine eE rfl ?_;go_simp;refine hK.Z _ _ (by exact H3.Z.keeps) (λaK=> ?_);clear hK K;try go_frame
  refine tk 7 57 (.pointer (some ⟨w.heap.size,0,none⟩)) aK ?_;try go_frame
  refine eR [8] ?_;refine rcg (o:={dst:=none,op:=_,type:=_,pos:=_,after:=_,guard:=_}) rfl (λK hK=> ?_) AllReadyH.nil;refine eE rfl ?_;go_simp;refine hK.Z _ _ (by exact H4.Z.keeps) (λaI=> ?_);clear hK K;try go_frame
  refine wpAnyH_done (by kernel_rfl) ?_ _;generalize (w2d.setCell ⟨w.heap.size,1,none⟩ (.int .i64 bo)).setCell ⟨w.heap.size,0,none⟩ (.string au)=w4 at*;clear e1 f1 e0 f0 H2 H3 QH Kc j7;go_upto_region 6 with fail;refine wp_region_held_drew (S:=(λW=>ak w W/\W.rangeAt w.heap.size 0 [.string au,.int .i64 bo,.int .i64 0])) (by kernel_rfl) (by exact ⟨H4.Z.drew.keeps,Ck H4.Z.drew (gw ..)⟩) (λai=> ?_);have H5:=ae H4.Z.drew;clear H4;generalize w4.drew=w4d at*;refine D8 0 58 (.agg ([.string au,.int .i64 bo,.int .i64 0]).toArray) rfl (by kernel_rfl) (by kernel_rfl) (by kernel_rfl) (λ_ _ _ h=>h) (yieldsIf_load_mid (by rfl) _ _ rfl (w.heap.size) (0) rfl ([.string au,.int .i64 bo,.int .i64 0]) _ (λw' hk=>hk.2) Tryz.underlying43 rfl AN.Z) ai ?_;try go_frame
  refine tk 1 59 (.slice (some ⟨g,1,none⟩) k c1) ai ?_;try go_frame
  refine tk 2 60 (.int .u64 bo) ai ?_;try go_frame
  refine tk 3 61 (.bool true) ai ?_;try go_frame
  refine tk 4 62 (.bool true) ai ?_;try go_frame
  refine tk 5 63 (.pointer (some ⟨w.heap.size,0,none⟩)) ai ?_;try go_frame
  refine tk 6 64 (.string au) ai ?_ (hy:=Or.inl ⟨by rfl,by intro w bK;(try dsimp only at bK);(have q:=bK.2 0 _ rfl;simp only [fw] at q;go_simp)⟩);try go_frame
  refine eR [7] ?_;refine D7 65 λK hK=> ?_;go_simp;go_at_call 40;refine (abU.Z _ ai.1).mono ?_;rintro e w7 ⟨rfl,jf⟩;have H7:=ae (H5.Z.quiet jf);clear jf H5;refine hK.Z _ _ (by exact ⟨H7.Z.keeps,Ck H7.Z (gw ..)⟩) (λaK=> ?_);clear hK K;try go_frame
  refine tk 8 66 (.bool true) aK ?_;try go_frame
  refine eR [9] ?_;refine rcg (o:={dst:=none,op:=_,type:=_,pos:=_,after:=_,guard:=_}) rfl (λK hK=> ?_) AllReadyH.nil;refine oS rfl 43 _ _ rfl w.heap.size #[.string au,.int .i64 bo,.int .i64 0] rfl rfl 43 _ (H7.Z.at (gw ..)).1 (by kernel_rfl) rfl (by kernel_rfl) ?_;have H8:=ae (H7.Z.setRow #[.string au,.int .i64 bo,.int .i64 0]);refine hK.Z _ _ (by exact ⟨H8.Z.keeps,Ck (cl:=[.string au,.int .i64 bo,.int .i64 0]) H8.Z (gw ..)⟩) (λaI=> ?_);clear hK K;try go_frame
  refine tk 10 3 (.slice (some ⟨g,1,none⟩) k c1) aI ?_;try go_frame
  refine tk 11 4 (.bool true) aI ?_;try go_frame
  refine wpAnyH_done (by kernel_rfl) ?_ _;generalize w7.setRow w.heap.size #[.string au,.int .i64 bo,.int .i64 0]=w8 at*;clear ai aK aI H7 abU AN j8;go_wp2_with fail;refine bodyPost_ret (QV Tryz.results65 _ _ w.heap.size _ rfl rfl (H8.Z.at (gw ..)).1) rfl ?_;exact ⟨rfl,H8.Z.keeps⟩
theorem Tidy.WW (h:Tidy m n t) (nm:aD) (size:Nat) (p:aH):Tidy (ci m nm size p).2.1 (n+1) (t+1):=by
 have h1:=h.append nm (bu p);unfold ci;split
 ·exact h.mono (eM _) (eM _)
 ·split
  ·exact h1
  ·exact h1
theorem Tidy.WX (h:Tidy T.m n t) (nm:aD) (l:List eX):Tidy (bL T nm l).2.m (n+1) (t+1):=by
 have h1:=h.WW nm T.size (bP l).2;unfold bL;split
 ·exact h.mono (eM _) (eM _)
 ·split
  ·split
   ·split
    ·exact h1.sync
    ·exact h1.sync
   ·exact h1
  ·exact h.mono (eM _) (eM _)
theorem Tidy.Kd (h:Tidy m n t) (nm:aD) (dg:aH):Tidy (cT m nm dg).2 (n+1) (t+1):=by
 unfold cT;split
 ·split
  ·split
   ·split
    ·exact (h.dZ nm).sync
    ·exact h.dZ nm
   ·split
    ·exact (h.rename nm (aY dg)).sync
    ·exact h.rename nm (aY dg)
  ·exact h.mono (eM _) (eM _)
 ·exact h.mono (eM _) (eM _)
theorem Tidy.close (h:Tidy T.m n t) (nm ky:aD) (dg:aH):Tidy (eo T nm ky dg).2.m (n+2) (t+2):=by
 have h1:=h.Kd ky dg;have h2:=Tidy.WX (T:={T with m:=(cT T.m ky dg).2}) h1 nm [⟨ky,true,[]⟩];unfold eo;split
 ·exact h1.mono (by omega) (by omega)
 ·split
  ·exact h2
  ·exact h2
theorem Tidy.resume (h:Tidy T.m n t) (nm:aD) (x:UE):Tidy (cO T nm x).2.1.m (n+2) (t+2):=by
 unfold cO;split
 ·exact h.close nm _ _
 ·split
  ·exact h.mono (by omega) (by omega)
  ·exact h.mono (by omega) (by omega)
theorem Tidy.cancel (h:Tidy T.m n t) (nm ky:aD):Tidy (eK T nm ky).2.1.m (n+2) (t+2):=by
 have h1:=h.WX nm [⟨ky,true,[]⟩];have h2:=h1.dZ ky;unfold eK;split
 ·split
  ·exact h2.sync
  ·exact h2
 ·exact h1.mono (by omega) (by omega)
theorem TP (fs:FS) (hd:aD):(cY fs hd).length<=fs.length:=by unfold cY;rw [io];exact Fu _ _
theorem zb (m:DM) (c:Ch):(dB m c).2.aR=m.aR:=by
 unfold dB;split
 ·rfl
 ·exact BH
theorem Ke (m:DM) (f:aD) (p:aH):(aM m f p).2.aR=m.aR:=by
 unfold aM;repeat' split
 all_goals first | rfl | exact zb _ _
theorem Ad (m:DM) (f:aD):(aE m f).2.aR=m.aR:=by
 unfold aE;repeat' split
 all_goals first | rfl | exact zb _ _
theorem Ae (m:DM) (f g:aD):(bw m f g).2.aR=m.aR:=by
 unfold bw;repeat' split
 all_goals first | rfl | exact zb _ _
theorem zd (m:DM):(aV m).2.aR=m.aR:=by
 unfold aV;repeat' split
 all_goals first | rfl | exact BH
theorem GM (m:DM) (nm:aD) (size:Nat) (p:aH):(ci m nm size p).2.1.aR=m.aR:=by
 unfold ci;repeat' split
 all_goals first | rfl | exact Ke _ _ _
theorem QW (T:TM) (nm:aD) (l:List eX):(bL T nm l).2.m.aR=T.m.aR:=by
 have h1:=GM T.m nm T.size (bP l).2;have h2:=zd (ci T.m nm T.size (bP l).2).2.1;unfold bL;repeat' split
 all_goals first | rfl | exact h2.trans h1 | exact h1
theorem Ng (m:DM) (nm:aD) (dg:aH):(cT m nm dg).2.aR=m.aR:=by
 unfold cT;repeat' split
 all_goals first | rfl | exact (zd _).trans (Ad _ _) | exact (zd _).trans (Ae _ _ _) | exact Ad _ _ | exact Ae _ _ _
theorem Nh (T:TM) (nm ky:aD) (dg:aH):(eo T nm ky dg).2.m.aR=T.m.aR:=by
 have h1:=Ng T.m ky dg;have h2:=QW {T with m:=(cT T.m ky dg).2} nm [⟨ky,true,[]⟩];unfold eo;repeat' split
 all_goals first | exact h1 | exact h2.trans h1
theorem Kf (T:TM) (nm:aD) (x:UE):(cO T nm x).2.1.m.aR=T.m.aR:=by
 unfold cO;repeat' split
 all_goals first | rfl | exact Nh _ _ _ _
theorem Fc (h:Good m n) (f:aD):((cW m f).length:Int)<=m.aR:=by have h1:=h.AA;have h2:(cW m f).length<=used m.aN:=s6 h.LF f;omega
theorem GN (T:TM) (nm:aD) (l:List eX):(bL T nm l).2.fs=T.fs\/((∀ c ∈ l,iF c=false)/\(bL T nm l).2.fs=en T.fs l):=by
 unfold bL;split
 ·exact .inl rfl
 ·split
  ·rename_i he;split
   ·split
    ·exact .inr ⟨(p6 he).2.2.1,rfl⟩
    ·exact .inl rfl
   ·exact .inl rfl
  ·exact .inl rfl
theorem TQ (T:TM) (nm ky:aD) (dg:aH):(eo T nm ky dg).2.fs=T.fs\/(eo T nm ky dg).2.fs=bV T.fs ky:=by
 have h2:=GN {T with m:=(cT T.m ky dg).2} nm [⟨ky,true,[]⟩];have h3:en T.fs [⟨ky,true,[]⟩]=bV T.fs ky:=by simp [en,tdo]
 unfold eo;split
 ·exact .inl rfl
 ·split
  ·exact h2.imp id (λh=>h.2.trans h3)
  ·exact h2.imp id (λh=>h.2.trans h3)
theorem Fe (T:TM) (nm:aD) (x:UE):(cO T nm x).2.1.fs=T.fs\/(cO T nm x).2.1.fs=bV T.fs (aq x.id):=by
 unfold cO;split
 ·exact TQ _ _ _ _
 ·split
  ·exact .inl rfl
  ·exact .inl rfl
theorem Ni (T:TM) (nm ky:aD) (dg:aH):(eo T nm ky dg).2.size<=T.size+1048576:=by
 have h:=mU {T with m:=(cT T.m ky dg).2} nm [⟨ky,true,[]⟩];unfold eo;split
 ·exact Aq _ _
 ·split
  ·exact h
  ·exact h
theorem Kg (T:TM) (nm:aD) (x:UE):(cO T nm x).2.1.size<=T.size+1048576:=by
 unfold cO;split
 ·exact Ni _ _ _ _
 ·split
  ·exact Aq _ _
  ·exact Aq _ _
theorem ig.bV {fs:FS} (h:ig fs) (k:aD):ig (bV fs k):=
 ⟨h.sorted.filter _,λp hp=>h.each p (List.mem_filter.1 hp).1⟩
theorem ig.val (h:ig fs) (k:aD):((aZ fs k).getD []).length<=262144:=by
 cases hg:aZ fs k with
 | none=>simp
 | some v=>exact (h.each _ (sW hg)).2.2
theorem Af (hd:aD):∀ (fs:FS) (n:Int) (out:List aD),(∀ p ∈ fs,0 <p.1.size)->(out.length:Int)+fs.length<=n->gg hd ⟨#[]⟩ n fs out=out++(fs.filter (λp=>cH p.1 hd)).map (·.1)
 | [],n,out,_,_=>by rw [gg];simp
 | p::fs,n,out,h,hn=>by
  rw [iM] at hn;have hb:=E3 (h p (gw ..));rw [gg,if_neg (by omega),Af hd fs n _ (λx hx=>h x (nO _ hx)) (by split <;>(try rw [fS,List.length_singleton]) <;>omega),K6];by_cases hc:cH p.1 hd=true
  ·rw [if_pos ⟨hc,hb⟩,if_pos hc];simp
  ·rw [if_neg (λh=>hc h.1),if_neg hc]
theorem vq.ks (h:vq fs E nx):kO fs p9 ⟨#[]⟩ (fs.length:Int)=E.map (λx=>aq x.id):=by unfold kO;rw [Af p9 fs _ [] (λp hp=>(h.ok.each p hp).1) (by simp),h.keys];simp [wU,Function.comp_def]
theorem vq.get (h:vq fs E nx) (hx:x ∈ E):aZ fs (aq x.id)=some (kP x):=by
 have h1:(aq x.id,kP x) ∈ fs.filter (λp=>cH p.1 p9):=by rw [h.keys];exact List.mem_map.2 ⟨x,hx,rfl⟩
 exact nt h.ok.sorted.nodup (List.mem_filter.1 h1).1
theorem vq.len (h:vq fs E nx):E.length<=fs.length:=by have h1:=congrArg List.length h.keys;rw [io] at h1;have h2:=Fu (λp=>cH p.1 p9) fs;omega
theorem Nj {a:Nat} (ha:a <4294967296) (hb:b <4294967296) (h:aL a 4=aL b 4):a=b:=by have h1:=eO 4 a (by omega);have h2:=eO 4 b (by omega);rw [h] at h1;omega
theorem TR {a:Nat} (ha:a <4294967296) (hb:b <4294967296) (h:aq a=aq b):a=b:=by have h1:=congrArg (λs:aD=>s.data.toList) h;unfold aq at h1;simp only [ByteArray.data_append,Array.toList_append,List.append_cancel_left_eq] at h1;exact Nj ha hb (EN (by rw [ax,ax]) h1)
theorem vq.ids (h:vq fs E nx):(E.map (·.id)).Nodup:=by
 have h1:((fs.filter (λp=>cH p.1 p9)).map (·.1)).Nodup:=(List.filter_sublist.map _).nodup h.ok.sorted.nodup;rw [h.keys,wU] at h1;have h2:E.map ((λp:aD × aH=>p.1) ∘ λx=>(aq x.id,kP x))=(E.map (·.id)).map aq:=by rw [wU];rfl
 rw [h2] at h1;exact List.Pairwise.of_map aq (λa b h e=>h (by rw [e])) h1
section
variable {w wr:World} {d u st t mp j b:Nat} {nm:aD} {T:TM} {next:Int} {L L1 L2:UL} {rs:List (bB w.heap.size)}
theorem Own.tab {W:World} {A:List (bB w.heap.size)} (h:Own w W (bO d j t b nm T++A)):∃ F,W.heap[t]?=some (ef j b T.bh)/\dm F W b T.fs:=by obtain ⟨F,hF,-⟩:=h.mem (r:=nU b T.fs) (by simp [bO]);exact ⟨F,(h.at (b:=t) (o:=ef j b T.bh) (by simp [bO])).1,hF.2⟩
theorem uf (fs:FS) (m:DM) (g:Nat):dt fs [] m g=if 0 <g then aV m else (0,m):=rfl
theorem Cl {l:List aD} {k:Nat} {f:aD} (hf:l[k]?=some f) (m:DM) (g:Nat): dt fs (l.drop k) m g=if (aZ fs f).isSome then dt fs (l.drop (k+1)) m g else if (aE m f).1=0 then dt fs (l.drop (k+1)) (aE m f).2 (g+1) else aE m f:=by obtain ⟨hk,rfl⟩:=List.getElem?_eq_some_iff.1 hf;rw [pQ hk,dt]
theorem GO {w0:World} (h:Own w w0 (bO d j t b nm T++(bE d u st t mp next L++rs))) {n':Nat} (ht:Tidy T.m n n') (hn:n+n'+20 <549755813888) (hv:∀ k,((aZ T.fs k).getD []).length<=140737488355328): bF 68 #[.pointer (some ⟨u,0,none⟩)] w0 (rK w d j t b u st mp nm next L rs (nh T)):=by
 obtain ⟨R,hR⟩:=exp (nh T);rw [hR];unfold nh at hR;obtain ⟨F,A7,-⟩:=Own.lW (h:Own w w0 (bk d T.m::_));obtain ⟨c0,-,-,-,-⟩:=eW (h.at (b:=u) (o:=iX d st t next mp) (by simp [bE])).1;have HR:=ae hR;have H0:=ae h;have HV:=ae hv;have HT:=ae (And.intro ht hn);by_cases pB:T.m.bh=true
 ·have bM:=HR.Z;rw [if_pos pB] at bM;subst bM;have mj:=ux A7;rw [show FC T.m=5 by unfold FC;rw [pB];rfl] at mj;have HN:=ae (B3 ⟨#[117,47]⟩ mj);clear h A7 ht hn hv hR HR HT HV pB mj;go_enter Tryz.func68,Tryz.ntmps68;go_wp2_with fail;refine gU HN.Z.Z ?_;go_wp2;go_ret;exact ⟨rfl,H0.Z⟩
 have bM:=HR.Z;rw [if_neg pB] at bM;have abX:T.m.bh=false:=by simpa using pB
 have sy:=tU A7 p9 abX ht.SB (λp hp=>by have:=ht.names p hp;unfold maxLen;omega) (by have:=ht.AH;omega);have Vx:(cY T.m.aN p9).length<=n':=by unfold cY;rw [io];exact kT (Fu _ _) ht.AH
 obtain ⟨ks,sL⟩:=cE (cY T.m.aN p9);rw [<-sL] at sy bM Vx;unfold p9 at sy;have HNC:=ae sy;have HR:=ae bM;have Vn:=ae Vx;clear h A7 ht hn hv hR bM sy sL pB abX Vx;go_enter Tryz.func68,Tryz.ntmps68;go_wp2_with fail;refine HNC.Z.mono ?_;rintro e w1 ⟨v,rfl,bG,bN⟩;have h1:=H0.Z.GC bG bN;obtain ⟨ka,kc,rfl⟩:=bG.aG;have H1:=ae (Own.toEnd h1);clear bG bN h1 H0 HNC c0;go_wp2_with fail;go_loopw [5,7,8,9,10,24] (λgv _ _ _ _ iv wx=>∃ (k g:Nat) (m:DM),k<=ks.length/\g<=k/\gv= .int .i64 (g:Int)/\iv= .int .i64 (k:Int)/\dt T.fs ks T.m 0=dt T.fs (ks.drop k) m g/\Good m (n+k)/\Own w wx (bO d j t b nm {T with m:=m}++(bE d u st t mp next L++(jb (.slice ka ks.length kc) ks::rs)))) (λ_ _ _ _ _ iv _=>ks.length - (intOf iv).toNat);case atStart=>exact ⟨0,0,T.m,fC _,eQ _,rfl,rfl,rfl,HT.Z.1.dQ,H1.Z⟩
 case round=>
  obtain ⟨k,g,m,hk,hgk,rfl,rfl,aU,Ha,ho⟩:=hrel;have j0:=np k;have HO:=ae ho;have iK:=ae aU;have Vc:=ae Ha;have HGK:=ae hgk;have i1:(ks.length:Int)<=549755813888:=by have:=Vn.Z;have:=HT.Z.2;omega
  obtain ⟨q0,-,q2,-,-⟩:=eW (ho.at (b:=u) (o:=iX d st t next mp) (by simp [bE])).1;by_cases aX:k <ks.length
  ·have j2:(k:Int) <ks.length:=by omega
   obtain ⟨f,hf⟩:∃ f,ks[k]?=some f:=⟨ks[k],js aX⟩;obtain ⟨g2,rfl,hc,-,-⟩:=(ho.strs (kv:= .slice ka ks.length kc) (ks:=ks) (by simp)).cell hf;have bG:=iK.Z;rw [Cl hf] at bG;obtain ⟨F,hb,hm⟩:=ho.tab;have qL:=oW hb hm f (HV.Z f);have wH:=ae qL;have fP:=ae bG;have iW:=ae (show k+1<=ks.length from aX);have abY:=ae (show ks.length<=n' from Vn.Z);clear ho aU Ha hgk hk aX bG hb hm qL H1;go_wp2_with fail;refine wH.Z.mono ?_;rintro e w2 ⟨v2,rfl,dy,cg⟩;obtain ⟨va,vc,rfl,-,-⟩:=dy.bytes.aG;have H2:=ae (HO.Z.quiet cg);obtain ⟨q0',-,q2',-,-⟩:=eW (H2.Z.at (b:=u) (o:=iX d st t next mp) (by simp [bE])).1;clear dy cg wH HO hc hf q0 q2;have bG:=fP.Z;cases hi:(aZ T.fs f).isSome with
   | true=>
    rw [hi,if_pos rfl] at bG;have hrel:∃ (k' g':Nat) (m':DM),k'<=ks.length/\g'<=k'/\Value.int .i64 (g:Int)= .int .i64 (g':Int)/\Value.int .i64 ((k+1:Nat):Int)= .int .i64 (k':Int)/\dt T.fs ks T.m 0=dt T.fs (ks.drop k') m' g'/\Good m' (n+k')/\Own w w2 (bO d j t b nm {T with m:=m'}++(bE d u st t mp next L++(jb (.slice (some ⟨g2,0,none⟩) ks.length kc) ks::rs))):=
     ⟨k+1,g,m,iW.Z,by have:=HGK.Z;omega,rfl,rfl,bG,Vc.Z.mono (by omega),H2.Z⟩
    have dE:=ae hrel;clear bG hi fP hrel H2;go_wp2;go_roundw;case rel=>exact dE.Z
    case measure=>have:=iW.Z;simp [intOf];omega
   | false=>
    rw [hi,if_neg (by simp)] at bG;obtain ⟨w3,TS,h3⟩:=Own.dZ H2.Z f Vc.Z.cC (Vc.Z.aw (by have:=HT.Z.2;have:=iW.Z;have:=abY.Z;omega));obtain ⟨rm,sT⟩:=cE (aE m f);have FP:Good rm.2 (n+(k+1)):=by rw [sT];exact Vc.Z.dZ f
    change aW 45 #[.pointer (some ⟨d,0,none⟩),.string f] w2 (.int .i64 (aE m f).1) w3 at TS;change Own w w3 (bk d (aE m f).2::_) at h3;rw [<-sT] at bG TS h3;obtain ⟨rc,rm2⟩:=rm;dsimp only at bG TS h3 FP;have H3:=ae (show Own w w3 (bO d j t b nm {T with m:=rm2}++(bE d u st t mp next L++(jb (.slice (some ⟨g2,0,none⟩) ks.length kc) ks::rs))) from h3);have ot:=ae TS;have fP:=ae bG;clear bG hi sT TS h3 H2 Vc;go_wp2_with fail;refine gU ot.Z.Z ?_;clear ot;by_cases hc:rc=0
    ·subst hc;have bG:=fP.Z;rw [if_pos rfl] at bG;have hw:IntKind.i64.wrap ((g:Int)+1)=((g+1:Nat):Int):=by rw [qi _ (by have:=HGK.Z;have:=iW.Z;have:=abY.Z;have:=HT.Z.2;omega)];omega
     have hrel:∃ (k' g':Nat) (m':DM),k'<=ks.length/\g'<=k'/\Value.int .i64 ((g+1:Nat):Int)= .int .i64 (g':Int)/\Value.int .i64 ((k+1:Nat):Int)= .int .i64 (k':Int)/\dt T.fs ks T.m 0=dt T.fs (ks.drop k') m' g'/\Good m' (n+k')/\Own w w3 (bO d j t b nm {T with m:=m'}++(bE d u st t mp next L++(jb (.slice (some ⟨g2,0,none⟩) ks.length kc) ks::rs))):=
      ⟨k+1,g+1,rm2,iW.Z,by have:=HGK.Z;omega,rfl,rfl,bG,FP,H3.Z⟩
     have dE:=ae hrel;clear bG fP hrel H3 FP q0' q2';go_wp2;go_roundw;case rel=>exact dE.Z
     case measure=>have:=iW.Z;simp [intOf];omega
    ·have bG:=fP.Z;rw [if_neg hc] at bG;have sD:(rc !=0)=true:=by simpa using hc
     have bM:=HR.Z;rw [bG] at bM;subst bM;clear bG fP hc FP q0' q2' HR iK;go_wp2;go_ret;exact ⟨rfl,H3.Z.bR⟩
  ·obtain rfl:k=ks.length:=by omega
   have bG:=iK.Z;rw [pR,uf] at bG;by_cases hg0:0 <g
   ·rw [if_pos hg0] at bG;have j3:decide ((0:Int) <(g:Int))=true:=decide_eq_true (by omega);have pJ:=Own.sync HO.Z Vc.Z.cC (λk c hc=>(Vc.Z.fits k c hc).1);obtain ⟨sr,AP⟩:=cE (aV m);change Calls _ _ _ _ (pV w d _ (aV m)) at pJ;rw [<-AP] at bG pJ;have bM:=HR.Z;rw [bG] at bM;subst bM;have om:=ae pJ;clear ho aU Ha hgk hk bG pJ AP HR iK H1 HO j3;go_wp2_with fail;refine om.Z.mono ?_;rintro e w3 ⟨rfl,h3⟩;have H3:=ae (show Own w w3 (bO d j t b nm {T with m:=sr.2}++(bE d u st t mp next L++(jb (.slice ka ks.length kc) ks::rs))) from h3);clear h3 om;go_wp2;go_ret;exact ⟨rfl,H3.Z.bR⟩
   ·rw [if_neg hg0] at bG;have j3:decide ((0:Int) <(g:Int))=false:=decide_eq_false (by omega);have bM:=HR.Z;rw [bG] at bM;subst bM;obtain rfl:g=0:=by omega
    clear ho aU Ha hgk hk bG HR iK hg0 H1 q0 q2 j3;go_wp2;go_ret;exact ⟨rfl,HO.Z.bR⟩
end

end Go.Proofs.YtlcnhpjggjgnpaaGreatDoor