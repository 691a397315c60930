/- A part of the proof. -/
import Derived.Test.YtlcnhpjggjgnpaaGreatDoorUplc1
import Derived.Test.YtlcnhpjggjgnpaaGreatDoorUplc3
set_option linter.unusedSimpArgs false
set_option linter.unusedVariables false
set_option maxRecDepth 100000
set_option maxHeartbeats 2000000
namespace Go.Proofs.YtlcnhpjggjgnpaaGreatDoor
open Go.RowKit Go.MapKept
variable {W w0:World} {bv:Value} {c i n nx:Nat} {dg:aH} {id next:Int} {ps:List Value} {s:DS} {x:eT} {α:Type}
theorem Q4 (m:DM) (nm:aD) (aQ:List aH) (p:aH): ∃ c m' YC,eI m nm aQ p=(c,m',YC)/\ci m nm (aj aQ).length p=(c,m',(aj YC).length):=by
 unfold eI ci;split
 ·exact ⟨_,_,_,rfl,rfl⟩
 ·by_cases hc:(aM m nm (bu p)).1=0
  ·rw [if_pos hc,if_pos hc];have cU:(aj (aQ++[p])).length=(aj aQ).length+(8+p.length):=by rw [lg,fS,kV,jg,qh,dh]
   exact ⟨_,_,_,rfl,by rw [cU]⟩
  ·rw [if_neg hc,if_neg hc];exact ⟨_,_,_,rfl,rfl⟩
def eC (s:DS) (nm:aD) (l:List eX):Int × DS:=((ni s.m nm s.aQ s.fs s.dn l).1,⟨(ni s.m nm s.aQ s.fs s.dn l).2.1,(ni s.m nm s.aQ s.fs s.dn l).2.2.1,(ni s.m nm s.aQ s.fs s.dn l).2.2.2.1,(ni s.m nm s.aQ s.fs s.dn l).2.2.2.2⟩)
theorem qQ (s:DS) (nm:aD) (l:List eX):bL s.tm nm l=((eC s nm l).1,(eC s nm l).2.tm):=by
 unfold eC ni bL DS.tm;dsimp only;by_cases hd:s.dn=true
 ·rw [if_pos hd,if_pos hd]
 rw [if_neg hd,if_neg hd];by_cases he:(bP l).1=0
 ·rw [if_pos he,if_pos he];obtain ⟨c,m1,adI,e1,e2⟩:=Q4 s.m nm s.aQ (bP l).2;rw [e1,e2];dsimp only;by_cases hc:c=0
  ·rw [if_pos hc,if_pos hc];by_cases pJ:(aV m1).1=0
   ·rw [if_pos pJ,if_pos pJ]
   ·rw [if_neg pJ,if_neg pJ]
  ·rw [if_neg hc,if_neg hc]
 ·rw [if_neg he,if_neg he]
theorem NA (s:DS) (nm:aD) (l:List eX):(eC s nm l).2.fs.length<=s.fs.length+256:=by
 have h3:=GN s.tm nm l;rw [qQ] at h3;by_cases he:(bP l).1=0
 ·have ad0:=(p6 he).1;rcases h3 with e | ⟨_,e⟩
  ·have e:(eC s nm l).2.fs=s.fs:=e;rw [e];omega
  ·have e:(eC s nm l).2.fs=en s.fs l:=e;rw [e];have:=nI l s.fs;omega
 ·have:(eC s nm l).2.fs=s.fs:=by
   unfold eC ni;rw [if_neg he];dsimp only;split
   ·rfl
   ·rfl
  rw [this];omega
structure DK (s:DS) (n c:Nat):Prop where
 tidy:Tidy s.m n n
 aQ:(aj s.aQ).length<=1100000*c+70000000
 ok:ig s.fs
 len:s.fs.length<=300*c+70000000
theorem DK.mono {s:DS} {n c n' c':Nat} (h:DK s n c) (hn:n<=n') (hc:c<=c'):DK s n' c':=⟨h.tidy.mono hn hn,by have:=h.aQ;omega,h.ok,by have:=h.len;omega⟩
theorem DK.lW {n':Nat} (h:DK s n c) {m:DM} (hm:Tidy m n' n'):DK {s with m:=m} n' c:=⟨hm,h.aQ,h.ok,h.len⟩
theorem DK.app (h:DK s n c) (nm:aD) (l:List eX):DK (eC s nm l).2 (n+1) (c+1):=by
 have wR:=qQ s nm l;have h1:=Tidy.WX (T:=s.tm) h.tidy nm l;have h2:=mU s.tm nm l;have h3:=GN s.tm nm l;rw [wR] at h1 h2 h3;refine ⟨h1, ?_, ?_, ?_⟩
 ·have h2:(aj (eC s nm l).2.aQ).length<=(aj s.aQ).length+1048576:=h2;have h5:=h.aQ;generalize (aj (eC s nm l).2.aQ).length=x at h2 ⊢;generalize (aj s.aQ).length=y at h2 h5;omega
 ·rcases h3 with e | ⟨g,e⟩
  ·have e:(eC s nm l).2.fs=s.fs:=e;rw [e];exact h.ok
  ·have e:(eC s nm l).2.fs=en s.fs l:=e;rw [e];exact ig.en l h.ok g
 ·have hl:=NA s nm l;have h5:=h.len;generalize (eC s nm l).2.fs.length=x at hl ⊢;omega
def jV (s:DS) (nm ky:aD) (dg:aH):Int × DS:=
 if ¬(cT s.m ky dg).1=0/\¬(cT s.m ky dg).1=6 then ((cT s.m ky dg).1,{s with m:=(cT s.m ky dg).2})
 else if (eC {s with m:=(cT s.m ky dg).2} nm [⟨ky,true,[]⟩]).1=4 then (0,(eC {s with m:=(cT s.m ky dg).2} nm [⟨ky,true,[]⟩]).2)
 else eC {s with m:=(cT s.m ky dg).2} nm [⟨ky,true,[]⟩]
theorem Cx (s:DS) (nm ky:aD) (dg:aH):eo s.tm nm ky dg=((jV s nm ky dg).1,(jV s nm ky dg).2.tm):=by
 unfold jV eo;have h:=qQ {s with m:=(cT s.m ky dg).2} nm [⟨ky,true,[]⟩];have e1:s.tm.m=s.m:=rfl;have e2:({s.tm with m:=(cT s.m ky dg).2}:TM)=({s with m:=(cT s.m ky dg).2}:DS).tm:=rfl;rw [e1,e2,h];dsimp only;split
 ·rfl
 ·split
  ·rfl
  ·rfl
theorem DK.close (h:DK s n c) (nm ky:aD) (dg:aH):DK (jV s nm ky dg).2 (n+2) (c+1):=by
 have h1:=h.lW (h.tidy.Kd ky dg);have h2:=h1.app nm [⟨ky,true,[]⟩];unfold jV;split
 ·exact h1.mono (by omega) (by omega)
 ·split
  ·exact h2
  ·exact h2
section
variable {w wr:World} {r q t u:Nat} {nm:aD} {s:DS} {v lv vL:Value} {next:Int} {P:List (eT × Value)} {S:List (Value × aH)} {rs:List (bB w.heap.size)}
def kR (u r t:Nat) (next:Int) (vL:Value) (W:World):Prop:=
 W.cell? ⟨u,0,none⟩=some (.pointer (some ⟨r,0,none⟩))/\W.cell? ⟨u,1,none⟩=some (.pointer (some ⟨t,0,none⟩))/\W.cell? ⟨u,2,none⟩=some (.int .i64 next)/\W.cell? ⟨u,3,none⟩=some vL
theorem kR.of {A M:List (bB w.heap.size)} (h:Own w W (A++(ay r t u next vL P S++M))):kR u r t next vL W:=by obtain ⟨c0,c1,c2,c3,-⟩:=jI (h.at (b:=u) (o:=kQ r t next vL) (by simp [ay])).1;exact ⟨c0,c1,c2,c3⟩
def un (w:World) (r q t u:Nat) (nm:aD) (next:Int) (vL:Value) (P:List (eT × Value)) (S:List (Value × aH)) (rs:List (bB w.heap.size)) (res:Int × DS) (e:Ending) (w':World):Prop:=
 e= .returned (.int .i64 res.1)/\∃ v lv,Own w w' (bZ r q t nm res.2 v lv++(ay r t u next vL P S++rs))
theorem qb {B:List (bB w.heap.size)} (h:Own w w0 (bZ r q t nm s v lv++B)) (hk:DK s n c) (hn:n+8 <549755813888) (hc:c+8<=900000) {a:Option Addr} {cap:Nat} {l:List eX} (hm:∀ (wr:World) (ls:List (bB w.heap.size)),Own w wr (ls++B)->fu wr a l) (wY:l.length<=cap) (pA:cap<=maxLen): bF 142 #[.pointer (some ⟨t,0,none⟩),.slice a l.length cap] w0 (λe w'=>e= .returned (.int .i64 (eC s nm l).1)/\∃ v lv,Own w w' (bZ r q t nm (eC s nm l).2 v lv++B)):=by have abZ:=ue s.aQ;have h1:=hk.aQ;have h2:=hk.len;exact Cm h hk.tidy hn hn (by omega) hk.ok.sorted hm wY pA (by omega)
theorem x9 {bb:Nat} {ky:aD} {M:List (bB w.heap.size)} (hW:Own w W (bZ r q t nm s v lv++(ay r t u next vL P S++(aA bb (.cells #[.string ky,.bool true,.slice none 0 0] 162)::M)))) (hk:DK s n c) (hn:n+8 <549755813888) (hc:c+8<=900000): bF 142 #[.pointer (some ⟨t,0,none⟩),.slice (some ⟨bb,0,none⟩) 1 1] W (un w r q t u nm next vL P S M (eC s nm [⟨ky,true,[]⟩])):=by refine (qb hW hk hn hc (a:=some ⟨bb,0,none⟩) (cap:=1) (l:=[⟨ky,true,[]⟩]) (λwr ls ho=>J1 (t:=162) (ho.at (b:=bb) (o:= .cells #[.string ky,.bool true,.slice none 0 0] 162) (by simp)).1 (dH _)) (by simp) (by decide)).mono ?_;rintro e w' ⟨he,v',xZ,h⟩;exact ⟨he,v',xZ,h.bR⟩
def Q5 (u r t:Nat) (next:Int) (vL:Value) (bd:Nat) (cl:List Value) (W:World):Prop:=kR u r t next vL W/\W.rangeAt bd 0 cl
theorem Q5.of {bd:Nat} {cl:List Value} {W:World} {A M:List (bB w.heap.size)} (h:Own w W (A++(ay r t u next vL P S++M))) (hm:aA bd (.cells cl.toArray 24) ∈ M):Q5 u r t next vL bd cl W:=
 ⟨kR.of h,h.range (b:=bd) (cl:=cl) (t:=24) (by simp [hm])⟩
theorem uq (h:Own w w0 (bZ r q t nm s v lv++(ay r t u next vL P S++rs))) (hk:DK s n c) (hn:n+20 <549755813888) (hc:c+20<=900000) (hid:id=(nx:Int)) (gQ:nx<=4294967295) (lQ:dg.length=32): bF 148 #[.pointer (some ⟨u,0,none⟩),.int .i64 id,.agg (dg.map dF).toArray] w0 (un w r q t u nm next vL P S rs (jV s nm (aq nx) dg)):=by
 obtain ⟨ky,kE⟩:=cE (aq nx);have jA:=ae (show ∀ W,bF 24 #[.int .i64 id] W (bH W (.string ky)) from λW=>by rw [kE,hid];exact lX W nx nx (IntWalk.u64_in _ (by omega)) (by omega));obtain ⟨cl,dI⟩:∃ cl:List Value,cl=dg.map dF:=⟨_,rfl⟩;have HI:=ae (show (Tryz.prog.info? 24).map (·.size)=some cl.length by rw [dI,io,lQ];kernel_rfl);obtain ⟨R,hR⟩:=exp (jV s nm (aq nx) dg);rw [hR,<-dI];unfold jV at hR;rw [<-kE] at hR;obtain ⟨ar,GI⟩:=cE (cT s.m ky dg);have MQ:DK {s with m:=ar.2} (n+1) c:=by rw [GI];exact hk.lW (hk.tidy.Kd ky dg)
 have QN:=ae (show ∀ W (M:List (bB w.heap.size)),Own w W (bZ r q t nm s v lv++(ay r t u next vL P S++M))->bF 183 #[.pointer (some ⟨r,0,none⟩),.string ky,.agg cl.toArray] W (λe w'=>e= .returned (.int .i64 ar.1)/\Own w w' (bZ r q t nm {s with m:=ar.2} v lv++(ay r t u next vL P S++M))) from λW M hW=>by rw [GI,dI];exact Cv hW hk.tidy (by omega) (by omega) ky lQ)
 rw [<-GI] at hR;obtain ⟨ap,kt⟩:∃ r,r=eC {s with m:=ar.2} nm [⟨ky,true,[]⟩]:=⟨_,rfl⟩;have jM:=ae (show ∀ W (M:List (bB w.heap.size)) (bb:Nat),Own w W (bZ r q t nm {s with m:=ar.2} v lv++(ay r t u next vL P S++(aA bb (.cells #[.string ky,.bool true,.slice none 0 0] 162)::M)))->bF 142 #[.pointer (some ⟨t,0,none⟩),.slice (some ⟨bb,0,none⟩) 1 1] W (un w r q t u nm next vL P S M ap) from λW M bb hW=>by rw [kt];exact x9 hW MQ (by omega) (by omega))
 rw [<-kt] at hR;obtain ⟨c1,m1⟩:=ar;obtain ⟨c2,s2⟩:=ap;dsimp only at hR QN jM;have HR:=ae hR;have H0:=ae (h.gS (.cells cl.toArray 24));clear hR kE dI GI MQ kt h hk hn hc hid gQ lQ;go_enter Tryz.func148,Tryz.ntmps148;go_upto_region 1 with fail;generalize w0.alloc (.cells cl.toArray 24)=w1 at H0 ⊢;generalize w0.heap.size=bd at H0 ⊢;refine wp_region_held_drew (S:=Q5 u r t next vL bd cl) (by kernel_rfl) (by exact Q5.of H0.Z.drew (gw ..)) (λai=> ?_);have H1:=ae H0.Z.drew;clear H0;generalize w1.drew=w1d at*;refine tk 0 8 (.pointer (some ⟨u,0,none⟩)) ai ?_;refine tk 1 9 (.pointer (some ⟨u,0,none⟩)) ai ?_;refine tk 2 10 (.pointer (some ⟨u,0,none⟩)) ai ?_;refine tk 3 11 (.pointer (some ⟨r,0,none⟩)) ai ?_ (hy:=Or.inl ⟨by rfl,by intro w bK;(try dsimp only at bK);(obtain ⟨⟨q0,q1,q2,q3⟩,-⟩:=bK;go_simp)⟩);refine tk 4 12 (.int .i64 id) ai ?_;try go_frame
 refine D8 6 14 (.agg (cl).toArray) rfl (by kernel_rfl) (by kernel_rfl) (by kernel_rfl) (λ_ _ _ h=>h) (yieldsIf_load_mid (by rfl) _ _ rfl (bd) (0) rfl (cl) _ (λw' hk=>hk.2) Tryz.underlying24 rfl HI.Z) ai ?_;try go_frame
 refine eR [5] ?_;refine gH 13 λK hK=> ?_;go_simp;go_at_call 24;refine (jA.Z _).mono ?_;rintro e w2 ⟨rfl,cg⟩;have H2:=ae (H1.Z.quiet cg);refine hK.Z _ _ (by exact Q5.of H2.Z (gw ..)) (λaK=> ?_);clear hK K;try go_frame
 refine eR [7] ?_;refine gH 15 λK hK=> ?_;go_simp;go_at_call 183;refine (QN.Z _ _ H2.Z).mono ?_;rintro e w3 ⟨rfl,h3⟩;have H3:=ae h3;clear h3;refine hK.Z _ _ (by exact Q5.of H3.Z (gw ..)) (λaI=> ?_);clear hK K;refine tk 8 7 (.int .i64 c1) aI ?_;try go_frame
 refine wpAnyH_done (by kernel_rfl) ?_ _;by_cases hc:¬c1=0/\¬c1=6
 ·have bM:=HR.Z;rw [if_pos hc] at bM;subst bM;have b1:(c1 !=0)=true:=by simpa using hc.1
  have b2:(c1 !=6)=true:=by simpa using hc.2
  clear HR hc;go_wp2;go_ret;exact ⟨rfl,v,lv,H3.Z.bR⟩
 ·have bM:=HR.Z;rw [if_neg hc] at bM;have HR:=ae bM;clear bM;have OP:(c1=0)\/(c1=6):=by
   by_cases h0:c1=0
   ·exact .inl h0
   ·by_cases h6:c1=6
    ·exact .inr h6
    ·exact absurd ⟨h0,h6⟩ hc
  clear hc ai aK aI H1 H2 QN cg;rcases OP with rfl | rfl;all_goals
   go_upto_region 4 with fail;refine wp_region_held_drew (S:=kR u r t next vL) (by kernel_rfl) (by exact kR.of H3.Z.drew) (λai=> ?_);have H4:=ae H3.Z.drew;clear H3;refine tk 0 23 (.pointer (some ⟨u,0,none⟩)) ai ?_;refine tk 1 24 (.pointer (some ⟨u,0,none⟩)) ai ?_;refine tk 2 25 (.pointer (some ⟨u,1,none⟩)) ai ?_;refine tk 3 26 (.pointer (some ⟨t,0,none⟩)) ai ?_ (hy:=Or.inl ⟨by rfl,by intro w bK;(try dsimp only at bK);(obtain ⟨q0,q1,q2,q3⟩:=bK;go_simp)⟩);refine tk 4 27 (.int .i64 id) ai ?_;try go_frame
   refine eR [5] ?_;refine gH 28 λK hK=> ?_;go_simp;go_at_call 24;refine (jA.Z _).mono ?_;rintro e w5 ⟨rfl,fB⟩;have H5:=ae (H4.Z.quiet fB);clear fB;refine hK.Z _ _ (by exact kR.of H5.Z) (λaK=> ?_);clear hK K;refine tk 6 29 (.agg #[.string ky,.bool true,.slice none 0 0]) aK ?_;try go_frame
   refine eR [7] ?_;refine gH 30 λK hK=> ?_;go_simp;have H6:=ae (H5.Z.gS (.cells #[.string ky,.bool true,.slice none 0 0] 162));refine hK.Z _ _ (by exact kR.of H6.Z) (λaI=> ?_);clear hK K;try go_frame
   refine eR [8] ?_;refine gH 31 λK hK=> ?_;go_simp;go_at_call 142;refine (jM.Z _ _ _ H6.Z).mono ?_;rintro e w7 ⟨rfl,v7,lv7,h7⟩;have H7:=ae h7;clear h7;refine hK.Z _ _ (by exact kR.of H7.Z) (λbJ=> ?_);clear hK K;refine tk 9 7 (.int .i64 c2) bJ ?_;try go_frame
   refine wpAnyH_done (by kernel_rfl) ?_ _;clear H4 H5 H6 jM ai aK aI bJ jA;by_cases h4:c2=4
   ·subst h4;have bM:=HR.Z;rw [if_pos rfl] at bM;subst bM;clear HR;go_wp2;go_ret;exact ⟨rfl,v7,lv7,H7.Z.bR⟩
   ·have bM:=HR.Z;rw [if_neg h4] at bM;subst bM;have b1:(c2==4)=false:=by simpa using h4
    clear HR h4;go_wp2;go_ret;exact ⟨rfl,v7,lv7,H7.Z.bR⟩
end
theorem Q6 (A M:List α) (a b c d:α):(d::(A++([a,b,c]++M))).Perm (a::(A++([d,c]++(b::M)))):=by have h1:(d::(A++([a,b,c]++M))).Perm (A++(d::a::b::c::M)):=(lO (l₁:=A)).symm;have h2:(a::(A++([d,c]++(b::M)))).Perm (A++(a::d::c::b::M)):=(lO (l₁:=A)).symm;refine h1.trans ((uT A ?_).trans h2.symm);exact (oe a d _).trans ((sV a (sV d (oe c b M))))
theorem Q7 (A M:List α) (a d c:α):(a::(A++([d,c]++M))).Perm (A++([a,d,c]++M)):=(lO (l₁:=A)).symm
abbrev others (P:List (eT × Value)) (id:Int):List (eT × Value):=P.filter (λp=>decide (p.1.id≠id))
section
variable {w wr:World} {r q t u:Nat} {nm:aD} {s:DS} {v lv vL:Value} {next:Int} {P:List (eT × Value)} {S:List (Value × aH)} {rs:List (bB w.heap.size)}
theorem mV.one (h:mV S P) (hx:P[i]?=some (x,bv)):(bv,x.b) ∈ S:=h _ (kx hx)
theorem vM {A M:List (bB w.heap.size)} (h:Own w w0 (A++(ay r t u next vL P S++M))) (fK:mV S P) (hl:P.length <1000000) (id:Int): bF 147 #[.pointer (some ⟨u,0,none⟩),.int .i64 id] w0 (λe w'=>e= .returned (.tuple #[])/\∃ Hl,Own w w' (A++(ay r t u next Hl (others P id) S++(Cn vL P::M)))):=by
 have h0:=h.Yw;obtain ⟨⟨va,vc,rfl,-,-⟩,-⟩:=h.qP (v:=vL) (P:=P) (by simp [ay]);have p7:=ae fK;have H0:=ae h0;have j9:(P.length:Int) <1000000:=by omega
 have je:∀ (W:World) (ov:Value) (Q:List (eT × Value)),Own w W (Cn ov Q::(A++(ay r t u next (.slice va P.length vc) P S++M)))->W.cell? ⟨u,3,none⟩=some (.slice va P.length vc)/\W.frozen? ⟨u,3,none⟩=false:=λW ov Q hW=>by obtain ⟨-,-,-,c3,cf⟩:=jI (hW.at (b:=u) (o:=kQ r t next (.slice va P.length vc)) (by simp [ay])).1;exact ⟨c3,cf 3⟩
 have HC:=ae je;obtain ⟨c3,-⟩:=je _ _ _ h0;go_enter Tryz.func147,Tryz.ntmps147;go_wp2_with fail;go_loopw [4,5] (λov iv wx=>∃ (k:Nat),iv= .int .i64 (k:Int)/\k<=P.length/\Own w wx (Cn ov (others (P.take k) id)::(A++(ay r t u next (.slice va P.length vc) P S++M)))) (λ_ iv _=>P.length - (intOf iv).toNat);case atStart=>exact ⟨0,rfl,fC _,H0.Z⟩
 case round=>
  obtain ⟨k,rfl,hk,bt⟩:=hrel;obtain ⟨⟨oa,oc,rfl,-,-⟩,-⟩:=bt.qP (gw ..);obtain ⟨c3',f3⟩:=HC.Z _ _ _ bt;have k0:=np k;by_cases aX:k <P.length
  ·obtain ⟨⟨x,bv⟩,hx⟩:∃ p,P[k]?=some p:=⟨_,js aX⟩;obtain ⟨g,c,e,q0,q1,q2,q3⟩:=(bt.qP (v:= .slice va P.length vc) (P:=P) (by simp [ay])).2 k x bv hx;cases e;have gm:=bt.rds (S:=S) (by simp [ay]) (p7.Z.one hx);obtain ⟨ba,bc,rfl,-,-⟩:=gm.aG;have hlq:(others (P.take k) id).length<=P.length:=kT (Fu _ _) (by rw [nM];omega);have E0:others (P.take (k+1)) id=others (P.take k) id++(if x.id≠id then [(x,.slice ba x.b.length bc)] else []):=by unfold others;rw [ym,hx,List.filter_append];by_cases he:x.id=id <;>simp [he]
   have j1:(k:Int) <P.length:=by omega
   have kC:=ae aX;by_cases he:x.id=id
   ·rw [if_neg (by simpa using he),qh] at E0;have HO:=ae bt;have HTK:=ae E0;have b1:(x.id !=id)=false:=by simpa using he
    go_wp2;go_roundw;case rel=>exact ⟨k+1,by simp,kC.Z,by rw [HTK.Z];exact HO.Z⟩
    case measure=>have:=kC.Z;simp [intOf];omega
   ·rw [if_pos he] at E0;obtain ⟨na,nc,w2,aT,h2⟩:=bt.Nn x (bv:= .slice ba x.b.length bc) rfl (by omega);rw [<-E0] at h2;have HR:=ae aT;have H2:=ae h2;have b1:(x.id !=id)=true:=by simpa using he
    go_wp2_with (at_builtin;refine ao rfl _ _ _ _ rfl rfl rfl HR.Z ?_);go_roundw;case rel=>exact ⟨k+1,by simp,kC.Z,H2.Z⟩
    case measure=>have:=kC.Z;simp [intOf];omega
  ·obtain rfl:k=P.length:=by omega
   rw [jX] at bt;have j2:¬(P.length:Int) <P.length:=by omega
   have h2:=bt.perm (Q6 A M _ _ _ _);have h3:=(h2.store 3 (.slice oa (others (P.take P.length) id).length oc)).perm (Q7 A _ _ _ _);rw [jX] at h3 ⊢;have H3:=ae h3;go_wp2;go_end0;exact ⟨rfl,_,H3.Z⟩
def fM (s:DS) (nm ky:aD):Int × DS × Bool:=
 if (eC s nm [⟨ky,true,[]⟩]).1=0 then
  (if (aE (eC s nm [⟨ky,true,[]⟩]).2.m ky).1=0 then
   ((aV (aE (eC s nm [⟨ky,true,[]⟩]).2.m ky).2).1,{(eC s nm [⟨ky,true,[]⟩]).2 with m:=(aV (aE (eC s nm [⟨ky,true,[]⟩]).2.m ky).2).2},true)
   else ((aE (eC s nm [⟨ky,true,[]⟩]).2.m ky).1,{(eC s nm [⟨ky,true,[]⟩]).2 with m:=(aE (eC s nm [⟨ky,true,[]⟩]).2.m ky).2},true))
 else ((eC s nm [⟨ky,true,[]⟩]).1,(eC s nm [⟨ky,true,[]⟩]).2,false)
theorem Al (s:DS) (nm ky:aD):eK s.tm nm ky=((fM s nm ky).1,(fM s nm ky).2.1.tm,(fM s nm ky).2.2):=by
 unfold fM eK;rw [qQ s nm];dsimp only;have e:∀ z:DS,z.tm.m=z.m:=λ_=>rfl;rw [e];split
 ·split
  ·rfl
  ·rfl
 ·rfl
def aaz (w:World) (r q t u:Nat) (nm:aD) (next:Int) (vL:Value) (P:List (eT × Value)) (S:List (Value × aH)) (rs:List (bB w.heap.size)) (id:Int) (res:Int × DS × Bool) (e:Ending) (w':World):Prop:=
 e= .returned (.int .i64 res.1)/\∃ v lv,(res.2.2=false/\Own w w' (bZ r q t nm res.2.1 v lv++(ay r t u next vL P S++rs)))\/
  (res.2.2=true/\∃ Hl,Own w w' (bZ r q t nm res.2.1 v lv++(ay r t u next Hl (others P id) S++(Cn vL P::rs))))
theorem Cy (h:Own w w0 (bZ r q t nm s v lv++(ay r t u next vL P S++rs))) (hl:P.length <1000000) (hf:ui (P.map (·.1)) id=-1): aW 93 #[.pointer (some ⟨u,0,none⟩),.int .i64 id] w0 (.int .i64 6) w0:=by have fb:=iE h (u:=u) (r:=r) (t:=t) (next:=next) (v:=vL) (P:=P) (by simp [ay]) (by simp [ay]) (by omega) id;rw [hf] at fb;have HF:=ae fb;unfold aW;go_enter Tryz.func93,Tryz.ntmps93;go_wp2_with fail;refine gU HF.Z.Z ?_;go_wp2;go_ret;exact ⟨rfl,rfl⟩
theorem sk (h:Own w w0 (bZ r q t nm s v lv++(ay r t u next vL P S++rs))) (fK:mV S P) (hl:P.length <1000000) (hk:DK s n c) (hn:n+50 <549755813888) (hc:c+20<=900000) (hid:id=(nx:Int)) (gQ:nx<=4294967295) (hf:ui (P.map (·.1)) id=(i:Int)): bF 93 #[.pointer (some ⟨u,0,none⟩),.int .i64 id] w0 (aaz w r q t u nm next vL P S rs id (fM s nm (aq nx))):=by
 obtain ⟨ky,kE⟩:=cE (aq nx);have jA:=ae (show ∀ W,bF 24 #[.int .i64 id] W (bH W (.string ky)) from λW=>by rw [kE,hid];exact lX W nx nx (IntWalk.u64_in _ (by omega)) (by omega));obtain ⟨R,hR⟩:=exp (fM s nm (aq nx));rw [hR];unfold fM at hR;rw [<-kE] at hR;obtain ⟨ap,kt⟩:=cE (eC s nm [⟨ky,true,[]⟩]);have MQ:DK ap.2 (n+1) (c+1):=by rw [kt];exact hk.app nm _
 have jM:=ae (show ∀ W (M:List (bB w.heap.size)) (bb:Nat),Own w W (bZ r q t nm s v lv++(ay r t u next vL P S++(aA bb (.cells #[.string ky,.bool true,.slice none 0 0] 162)::M)))->bF 142 #[.pointer (some ⟨t,0,none⟩),.slice (some ⟨bb,0,none⟩) 1 1] W (un w r q t u nm next vL P S M ap) from λW M bb hW=>by rw [kt];exact x9 hW hk (by omega) (by omega))
 rw [<-kt] at hR;obtain ⟨rm,sT⟩:=cE (aE ap.2.m ky);have T9:Tidy rm.2 (n+2) (n+2):=by rw [sT];exact MQ.tidy.dZ ky
 have ot:=ae (show ∀ W v lv (M:List (bB w.heap.size)),Own w W (bZ r q t nm ap.2 v lv++M)->bF 80 #[.pointer (some ⟨r,0,none⟩),.agg #[.int .i64 2,.string ky,.string ⟨#[]⟩,.slice none 0 0]] W (λe w'=>e= .returned (.int .i64 rm.1)/\Own w w' (bZ r q t nm {ap.2 with m:=rm.2} v lv++M)) from λW v lv M hW=>by have:=Own.nZ (rs:=[_,_,_,_]++M) hW MQ.tidy (by omega) (by omega) ⟨2,ky,⟨#[]⟩,[]⟩ (by simp) (by simp) (pv:= .slice none 0 0) (λ_ w' _ _=>dH w');rw [gb,<-sT] at this;exact this)
 rw [<-sT] at hR;obtain ⟨sr,AP⟩:=cE (aV rm.2);have Cz:=ae (show ∀ W v lv (M:List (bB w.heap.size)),Own w W (bZ r q t nm {ap.2 with m:=rm.2} v lv++M)->∃ w',aW 81 #[.pointer (some ⟨r,0,none⟩)] W (.int .i64 sr.1) w'/\Own w w' (bZ r q t nm {ap.2 with m:=sr.2} v lv++M) from λW v lv M hW=>by rw [AP];exact Own.vE (rs:=[_,_,_,_]++M) hW T9)
 rw [<-AP] at hR;have fb:=iE h (u:=u) (r:=r) (t:=t) (next:=next) (v:=vL) (P:=P) (by simp [ay]) (by simp [ay]) (by omega) id;rw [hf] at fb;have nN:=ae fb;have Vt:=ae (show ∀ W v lv (M:List (bB w.heap.size)),Own w W (bZ r q t nm ap.2 v lv++(ay r t u next vL P S++M))->bF 147 #[.pointer (some ⟨u,0,none⟩),.int .i64 id] W (λe w'=>e= .returned (.tuple #[])/\∃ Hl,Own w w' (bZ r q t nm ap.2 v lv++(ay r t u next Hl (others P id) S++(Cn vL P::M)))) from λW v lv M hW=>vM hW fK hl id);obtain ⟨c1,s1⟩:=ap;obtain ⟨c2,m2⟩:=rm;obtain ⟨c3,m3⟩:=sr;dsimp only at hR jM ot Cz Vt;have HR:=ae hR;have H0:=ae h;clear hR kE kt MQ sT T9 AP fb h hf fK hl hk hn hc hid gQ;go_enter Tryz.func93,Tryz.ntmps93;go_wp2_with fail;refine gU nN.Z.Z ?_;go_upto_region 3 with fail;refine wp_region_held_drew (S:=kR u r t next vL) (by kernel_rfl) (by exact kR.of H0.Z.drew) (λai=> ?_);have H1:=ae H0.Z.drew;clear H0 nN;refine tk 0 10 (.pointer (some ⟨u,0,none⟩)) ai ?_;refine tk 1 11 (.pointer (some ⟨u,0,none⟩)) ai ?_;refine tk 2 12 (.pointer (some ⟨u,1,none⟩)) ai ?_;refine tk 3 13 (.pointer (some ⟨t,0,none⟩)) ai ?_ (hy:=Or.inl ⟨by rfl,by intro w bK;(try dsimp only at bK);(obtain ⟨q0,q1,q2,q3⟩:=bK;go_simp)⟩);refine tk 4 14 (.int .i64 id) ai ?_;try go_frame
 refine eR [5] ?_;refine gH 15 λK hK=> ?_;go_simp;go_at_call 24;refine (jA.Z _).mono ?_;rintro e w2 ⟨rfl,cg⟩;have H2:=ae (H1.Z.quiet cg);clear cg;refine hK.Z _ _ (by exact kR.of H2.Z) (λaK=> ?_);clear hK K;refine tk 6 16 (.agg #[.string ky,.bool true,.slice none 0 0]) aK ?_;try go_frame
 refine eR [7] ?_;refine gH 17 λK hK=> ?_;go_simp;have H3:=ae (H2.Z.gS (.cells #[.string ky,.bool true,.slice none 0 0] 162));refine hK.Z _ _ (by exact kR.of H3.Z) (λaI=> ?_);clear hK K;try go_frame
 refine eR [8] ?_;refine gH 18 λK hK=> ?_;go_simp;go_at_call 142;refine (jM.Z _ _ _ H3.Z).mono ?_;rintro e w4 ⟨rfl,v4,lv4,h4⟩;have H4:=ae h4;clear h4;refine hK.Z _ _ (by exact kR.of H4.Z) (λbJ=> ?_);clear hK K;refine tk 9 5 (.int .i64 c1) bJ ?_;try go_frame
 refine wpAnyH_done (by kernel_rfl) ?_ _;clear H1 H2 H3 jM ai aK aI bJ;by_cases hc:c1=0
 ·subst hc;have bM:=HR.Z;rw [if_pos rfl] at bM;have HR:=ae bM;have HD:=ae (Vt.Z _ _ _ _ H4.Z);clear bM H4 Vt;go_wp2_with fail;refine HD.Z.mono ?_;rintro e w5 ⟨rfl,Hl,h5⟩;have H5:=ae h5;clear h5 HD;go_upto_region 7 with fail;refine wp_region_held_drew (S:=kR u r t next Hl) (by kernel_rfl) (by exact kR.of H5.Z.drew) (λai=> ?_);have H6:=ae H5.Z.drew;clear H5;refine tk 0 25 (.pointer (some ⟨u,0,none⟩)) ai ?_;refine tk 1 26 (.pointer (some ⟨u,0,none⟩)) ai ?_;refine tk 2 27 (.pointer (some ⟨u,0,none⟩)) ai ?_;refine tk 3 28 (.pointer (some ⟨r,0,none⟩)) ai ?_ (hy:=Or.inl ⟨by rfl,by intro w bK;(try dsimp only at bK);(obtain ⟨q0,q1,q2,q3⟩:=bK;go_simp)⟩);refine tk 4 29 (.int .i64 id) ai ?_;try go_frame
  refine eR [5] ?_;refine gH 30 λK hK=> ?_;go_simp;go_at_call 24;refine (jA.Z _).mono ?_;rintro e w7 ⟨rfl,jf⟩;have H7:=ae (H6.Z.quiet jf);clear jf;refine hK.Z _ _ (by exact kR.of H7.Z) (λaK=> ?_);clear hK K;refine tk 6 31 (.agg #[.int .i64 2,.string ky,.string ⟨#[]⟩,.slice none 0 0]) aK ?_;try go_frame
  refine eR [7] ?_;refine gH 32 λK hK=> ?_;go_simp;go_at_call 80;refine (ot.Z _ _ _ _ H7.Z).mono ?_;rintro e w8 ⟨rfl,h8⟩;have H8:=ae h8;clear h8;refine hK.Z _ _ (by exact kR.of H8.Z) (λaI=> ?_);clear hK K;refine tk 8 5 (.int .i64 c2) aI ?_;try go_frame
  refine wpAnyH_done (by kernel_rfl) ?_ _;clear H6 H7 ot ai aK aI;by_cases hc:c2=0
  ·subst hc;have bM:=HR.Z;rw [if_pos rfl] at bM;subst bM;obtain ⟨k0,-,-,-⟩:=kR.of H8.Z;obtain ⟨w9,pJ,h9⟩:=Cz.Z _ _ _ _ H8.Z;have om:=ae pJ;have H9:=ae h9;clear HR Cz H8 pJ h9;go_wp2_with fail;refine gU om.Z.Z ?_;go_wp2;go_ret;exact ⟨rfl,v4,lv4,.inr ⟨rfl,_,H9.Z⟩⟩
  ·have bM:=HR.Z;rw [if_neg hc] at bM;subst bM;have b1:(c2==0)=false:=by simpa using hc
   clear HR hc Cz;go_wp2;go_ret;exact ⟨rfl,v4,lv4,.inr ⟨rfl,_,H8.Z⟩⟩
 ·have bM:=HR.Z;rw [if_neg hc] at bM;subst bM;have b1:(c1 !=0)=true:=by simpa using hc
  clear HR hc Cz ot Vt;go_wp2;go_ret;exact ⟨rfl,v4,lv4,.inl ⟨rfl,H4.Z⟩⟩
end
def kG (s:DS) (ky:aD) (x:eT) (at_:Int) (p:aH):Int × DS × eT:=
 if at_=(x.b.length:Int) then
  (if (1048576:Int) - (x.b.length:Int) <(p.length:Int) then (8,s,x)
   else if (aM s.m ky p).1=0 then
   (if (aV (aM s.m ky p).2).1=0 then (0,{s with m:=(aV (aM s.m ky p).2).2},{x with b:=x.b++p})
    else ((aV (aM s.m ky p).2).1,{s with m:=(aV (aM s.m ky p).2).2},x))
   else ((aM s.m ky p).1,{s with m:=(aM s.m ky p).2},x))
 else (130,s,x)
theorem NB (s:DS) (ky:aD) (x:eT) (at_:Int) (p:aH):eH s.tm ky x at_ p=((kG s ky x at_ p).1,(kG s ky x at_ p).2.1.tm,(kG s ky x at_ p).2.2):=by
 unfold kG eH;have e:s.tm.m=s.m:=rfl;rw [e];repeat' split
 all_goals rfl
section
variable {w wr:World} {r q t u:Nat} {nm:aD} {s:DS} {v lv vL:Value} {next:Int} {P:List (eT × Value)} {S:List (Value × aH)} {rs:List (bB w.heap.size)}
def Ug (w:World) (r q t u:Nat) (nm:aD) (next:Int) (L:List eT) (rs:List (bB w.heap.size)) (res:Int × DS) (e:Ending) (w':World):Prop:=
 e= .returned (.int .i64 res.1)/\∃ v lv vL P S,P.map (·.1)=L/\mV S P/\Own w w' (bZ r q t nm res.2 v lv++(ay r t u next vL P S++rs))
theorem Uh {L:List eT} (h:L[i]?=some x):L.set i x=L:=by
 apply List.ext_getElem?;intro j;rw [List.getElem?_set];by_cases e:i=j
 ·subst e;have:=(List.getElem?_eq_some_iff.1 h).1;rw [if_pos rfl,if_pos this,h]
 ·rw [if_neg e]
theorem mV.setAt (h:mV S P):mV ((bv,x.b)::S) (P.set i (x,bv)):=λp hp=>by
 rcases List.mem_or_eq_of_mem_set hp with hp | e
 ·exact nO _ (h p hp)
 ·rw [e];exact gw ..
theorem A9 (A M:List α) (a b c:α):(A++([a,b,c]++M)).Perm (c::(A++([a,b]++M))):=by have h1:(c::(A++([a,b]++M))).Perm (A++(c::a::b::M)):=(lO (l₁:=A)).symm;refine Fy (uT A ?_) h1.symm;exact (lO (l₁:=[a,b]) (l₂:=M) (a:=c))
theorem uR (A M:List α) (a b c:α):(A++([a,b,c]++M)).Perm (b::(A++([a,c]++M))):=by have h1:(b::(A++([a,c]++M))).Perm (A++(b::a::c::M)):=(lO (l₁:=A)).symm;exact Fy (uT A (oe b a _)) h1.symm
theorem Own.NC {W:World} {A M:List (bB w.heap.size)} {w1:World} (h:Own w wr (A++(ay r t u next vL P S++M))) {bv:Value} {l:aH} (ho:bC w1 wr.heap.size bv l) (hk:ak wr w1):Own w w1 (A++(ay r t u next vL P ((bv,l)::S)++M)):=
 ((h.perm (A9 A M _ _ _)).aag ho hk).perm (A9 A M _ _ _).symm
theorem Own.Xk {A M:List (bB w.heap.size)} {g:Nat} {bv':Value} {b':aH} (h:Own w wr (A++(ay r t u next (.slice (some ⟨g,0,none⟩) P.length c) P S++M))) (hx:P[i]?=some (x,bv)): Own w (wr.setCell ⟨g,i*4+3,none⟩ bv') (A++(ay r t u next (.slice (some ⟨g,0,none⟩) P.length c) (P.set i (⟨x.id,x.au,x.bo,b'⟩,bv')) S++M)):=
 ((h.perm (uR A M _ _ _)).ab0 hx).perm (uR A M _ _ _).symm
def RUx (u r t:Nat) (next:Int) (g i n c:Nat) (bv:Value) (W:World):Prop:=kR u r t next (.slice (some ⟨g,0,none⟩) n c) W/\W.cell? ⟨g,i*4+3,none⟩=some bv/\W.frozen? ⟨g,i*4+3,none⟩=false
theorem RUx.of {g c i:Nat} {x:eT} {bv:Value} {W:World} {A M:List (bB w.heap.size)} (h:Own w W (A++(ay r t u next (.slice (some ⟨g,0,none⟩) P.length c) P S++M))) (hx:P[i]?=some (x,bv)):RUx u r t next g i P.length c bv W:=by
 refine ⟨kR.of h, ?_, ?_⟩
 ·obtain ⟨g',c',e,-,-,-,q3⟩:=(h.qP (v:= .slice (some ⟨g,0,none⟩) P.length c) (P:=P) (by simp [ay])).2 i x bv hx;cases e;exact q3
 ·have ho:=h.raw (v:= .slice (some ⟨g,0,none⟩) P.length c) (T:=189) (size:=4) (n:=P.length) (xs:=fG P) (by simp [ay]);rcases ho.2 with ⟨e,-⟩ | ⟨g',cap,gp,e,_,hb,_⟩
  ·cases e
  ·cases e;exact cL hb _
theorem DR (h:Own w w0 (bZ r q t nm s v lv++(ay r t u next vL P S++rs))) (hl:P.length <1000000) (hf:ui (P.map (·.1)) id=-1) (at_:Int) (pv:Value): aW 89 #[.pointer (some ⟨u,0,none⟩),.int .i64 id,.int .i64 at_,pv] w0 (.int .i64 6) w0:=by have fb:=iE h (u:=u) (r:=r) (t:=t) (next:=next) (v:=vL) (P:=P) (by simp [ay]) (by simp [ay]) (by omega) id;rw [hf] at fb;have HF:=ae fb;unfold aW;go_enter Tryz.func89,Tryz.ntmps89;go_wp2_with fail;refine gU HF.Z.Z ?_;go_wp2;go_ret;exact ⟨rfl,rfl⟩
theorem CA (h:Own w w0 (bZ r q t nm s v lv++(ay r t u next vL P S++rs))) (fK:mV S P) (hl:P.length <1000000) (hk:DK s n c) (hn:n+50 <549755813888) (hid:id=(nx:Int)) (gQ:nx<=4294967295) (hf:ui (P.map (·.1)) id=(i:Int)) (hx:P[i]?=some (x,bv)) (AO:x.b.length<=1048576) (at_:Int) {pv:Value} {p:aH} (kL:p.length<=140737488355328) (hp:aC w pv p): bF 89 #[.pointer (some ⟨u,0,none⟩),.int .i64 id,.int .i64 at_,pv] w0 (Ug w r q t u nm next ((P.map (·.1)).set i (kG s (aq nx) x at_ p).2.2) rs ((kG s (aq nx) x at_ p).1,(kG s (aq nx) x at_ p).2.1)):=by
 obtain ⟨pa,pc,rfl,-,-⟩:=hp.aG;obtain ⟨g,cap,rfl,-,-,-,-⟩:=(h.qP (v:=vL) (P:=P) (by simp [ay])).2 i x bv hx;have fb:=iE h (u:=u) (r:=r) (t:=t) (next:=next) (v:= .slice (some ⟨g,0,none⟩) P.length cap) (P:=P) (by simp [ay]) (by simp [ay]) (by omega) id;rw [hf] at fb;have nN:=ae fb;have gm:=h.rds (S:=S) (by simp [ay]) (fK.one hx);obtain ⟨ba,bc,rfl,-,-⟩:=gm.aG;have hux:=RUx.of h hx;obtain ⟨⟨k0,k1,k2,k3⟩,k4,-⟩:=hux;have tz:(P.map (·.1)).set i x=P.map (·.1):=Uh (by simp [hx]);have eJ:∀ (co:Int) (s2:DS) (w':World),Own w w' (bZ r q t nm s2 v lv++(ay r t u next (.slice (some ⟨g,0,none⟩) P.length cap) P S++rs))->Ug w r q t u nm next ((P.map (·.1)).set i x) rs (co,s2) (.returned (.int .i64 co)) w':=λco s2 w' h'=>⟨rfl,v,lv,_,P,S,by rw [tz],fK,h'⟩
 have P7:=ae eJ;have Y1:=(List.getElem?_eq_some_iff.1 hx).1;have j0:=np i;have j1:(i:Int) <P.length:=by omega
 obtain ⟨bl,kg⟩:=cE (x.b.length);obtain ⟨pl,vo⟩:=cE (p.length);have oi:=ae (And.intro kg vo);have H0:=ae h;have Vg:=ae hx;have p7:=ae fK;rw [<-kg] at k4 AO;rw [<-vo] at kL ⊢;by_cases ha:at_=(bl:Int)
 ·have b1:(at_ !=(bl:Int))=false:=by simp [ha]
  have hw:IntKind.i64.wrap (1048576 - (bl:Int))=1048576 - (bl:Int):=qi _ (by omega);by_cases qe:(1048576:Int) - (bl:Int) <(pl:Int)
  ·have hS:kG s (aq nx) x at_ p=(8,s,x):=by unfold kG;rw [<-oi.Z.1,<-oi.Z.2,if_pos ha,if_pos qe]
   rw [hS];have b2:decide ((1048576:Int) - (bl:Int) <(pl:Int))=true:=decide_eq_true qe;have HF:=ae (eJ 8 s w0 h);clear hS ha qe kg vo AO kL hid gQ h fK hl hk hn hf hx hp fb gm tz eJ Y1;go_enter Tryz.func89,Tryz.ntmps89;go_wp2_with fail;refine gU nN.Z.Z ?_;go_wp2;go_ret;exact HF.Z
  ·have b2:decide ((1048576:Int) - (bl:Int) <(pl:Int))=false:=decide_eq_false qe;obtain ⟨R,hR⟩:=exp (kG s (aq nx) x at_ p);rw [hR];unfold kG at hR;rw [<-oi.Z.1,<-oi.Z.2,if_pos ha,if_neg qe] at hR;obtain ⟨ky,kE⟩:=cE (aq nx);rw [<-kE] at hR;have jA:=ae (show ∀ W,bF 24 #[.int .i64 id] W (bH W (.string ky)) from λW=>by rw [kE,hid];exact lX W nx nx (IntWalk.u64_in _ (by omega)) (by omega));obtain ⟨ar,GI⟩:=cE (aM s.m ky p);obtain ⟨sr,AP⟩:=cE (aV ar.2);rw [<-GI,<-AP] at hR;have hta:Tidy ar.2 (n+1) (n+1):=by rw [GI];exact hk.tidy.append ky p
   have jM:=ae (show ∀ W,Own w W (bZ r q t nm s v lv++(ay r t u next (.slice (some ⟨g,0,none⟩) P.length cap) P S++rs))->bF 80 #[.pointer (some ⟨r,0,none⟩),.agg #[.int .i64 1,.string ky,.string ⟨#[]⟩,.slice pa pl pc]] W (λe w'=>e= .returned (.int .i64 ar.1)/\Own w w' (bZ r q t nm {s with m:=ar.2} v lv++(ay r t u next (.slice (some ⟨g,0,none⟩) P.length cap) P S++rs))) from λW hW=>by
    have:=Own.nZ (rs:=[_,_,_,_]++(ay r t u next (.slice (some ⟨g,0,none⟩) P.length cap) P S++rs)) hW hk.tidy (by omega) (by omega) ⟨1,ky,⟨#[]⟩,p⟩ (by simp) (by simp) (pv:= .slice pa pl pc) (λF w' hF uX=>by rw [vo];exact hp.keep (hW.keeps.trans uX (λb hb e=>by have:=(hF b e).1;omega)))
    rw [kj,<-GI] at this;exact this)
   have om:=ae (show ∀ W,Own w W (bZ r q t nm {s with m:=ar.2} v lv++(ay r t u next (.slice (some ⟨g,0,none⟩) P.length cap) P S++rs))->∃ w',aW 81 #[.pointer (some ⟨r,0,none⟩)] W (.int .i64 sr.1) w'/\Own w w' (bZ r q t nm {s with m:=sr.2} v lv++(ay r t u next (.slice (some ⟨g,0,none⟩) P.length cap) P S++rs)) from λW hW=>by rw [AP];exact Own.vE (rs:=[_,_,_,_]++(ay r t u next (.slice (some ⟨g,0,none⟩) P.length cap) P S++rs)) hW hta)
   have hpw:∀ W,ak w W->aC W (.slice pa pl pc) p:=λW hW=>by rw [vo];exact hp.keep hW
   have HPW:=ae hpw;obtain ⟨c1,m1⟩:=ar;obtain ⟨c2,m2⟩:=sr;dsimp only at hR jM om;have HR:=ae hR;have wN:=ae (show bl<=1048576/\pl<=1048576 by omega);clear hR kE GI AP hta ha qe kg vo AO kL hid gQ h fK hl hk hn hf hx hp fb gm tz eJ Y1 hpw;go_enter Tryz.func89,Tryz.ntmps89;go_wp2_with fail;refine nN.Z.Z.mono ?_;rintro e w' ⟨rfl,rfl⟩;go_upto_region 8 with fail;clear hw b1 b2 nN k0 k1 k2 k3 k4;refine wp_region_held_drew (S:=kR u r t next (.slice (some ⟨g,0,none⟩) P.length cap)) (by kernel_rfl) (by exact kR.of H0.Z.drew) (λai=> ?_);have H0d:=ae H0.Z.drew;clear H0;refine tk 0 40 (.pointer (some ⟨u,0,none⟩)) ai ?_;refine tk 1 41 (.pointer (some ⟨u,0,none⟩)) ai ?_;refine tk 2 42 (.pointer (some ⟨u,0,none⟩)) ai ?_;refine tk 3 43 (.pointer (some ⟨r,0,none⟩)) ai ?_ (hy:=Or.inl ⟨by rfl,by intro w bK;(try dsimp only at bK);(obtain ⟨q0,q1,q2,q3⟩:=bK;go_simp)⟩);refine tk 4 44 (.int .i64 id) ai ?_;refine tk 6 46 (.slice pa pl pc) ai ?_;try go_frame
   refine eR [5] ?_;refine gH 45 λK hK=> ?_;go_simp;go_at_call 24;refine (jA.Z _).mono ?_;rintro e w3 ⟨rfl,dN⟩;have H3:=ae (H0d.Z.quiet dN);clear dN;refine hK.Z _ _ (by exact kR.of H3.Z) (λaK=> ?_);clear hK K;refine tk 7 47 (.agg #[.int .i64 1,.string ky,.string ⟨#[]⟩,.slice pa pl pc]) aK ?_;try go_frame
   refine eR [8] ?_;refine gH 48 λK hK=> ?_;go_simp;go_at_call 80;refine (jM.Z _ H3.Z).mono ?_;rintro e w4 ⟨rfl,h4⟩;have H4:=ae h4;clear h4;refine hK.Z _ _ (by exact kR.of H4.Z) (λaI=> ?_);clear hK K;refine tk 9 10 (.int .i64 c1) aI ?_;try go_frame
   refine wpAnyH_done (by kernel_rfl) ?_ _;clear H0d H3 ai aK aI jM jA;by_cases hc:c1=0
   ·subst hc;have bM:=HR.Z;rw [if_pos rfl] at bM;have HR:=ae bM;obtain ⟨w5,pJ,h5⟩:=om.Z _ H4.Z;have Nz:=ae pJ;have H5:=ae h5;obtain ⟨k0,-,-,-⟩:=kR.of H4.Z;clear bM om H4 pJ h5;by_cases hc:c2=0
    ·subst hc;have bM:=HR.Z;rw [if_pos rfl] at bM;subst bM;clear HR P7;go_upto_region 12 with (go_at_call 81;refine Nz.Z.Z.mono ?_;rintro e w' ⟨rfl,rfl⟩);clear k0 Nz;refine wp_region_held_drew (S:=kR u r t next (.slice (some ⟨g,0,none⟩) P.length cap)) (by kernel_rfl) (by exact kR.of H5.Z.drew) (λai=> ?_);have H6:=ae H5.Z.drew;clear H5;generalize w5.drew=w6 at*;obtain ⟨-,e1,-⟩:=RUx.of H6.Z Vg.Z;rw [<-oi.Z.1] at e1;refine tk 0 58 (.pointer (some ⟨u,0,none⟩)) ai ?_;refine tk 1 59 (.pointer (some ⟨u,0,none⟩)) ai ?_;refine tk 2 60 (.pointer (some ⟨u,3,none⟩)) ai ?_;refine tk 3 61 (.slice (some ⟨g,0,none⟩) P.length cap) ai ?_ (hy:=Or.inl ⟨by rfl,by intro w bK;(try dsimp only at bK);(obtain ⟨q0,q1,q2,q3⟩:=bK;go_simp)⟩);refine tk 4 62 (.int .i64 (i:Int)) ai ?_;refine tk 5 63 (.pointer (some ⟨u,0,none⟩)) ai ?_;refine tk 6 64 (.pointer (some ⟨u,0,none⟩)) ai ?_;refine tk 7 65 (.pointer (some ⟨u,3,none⟩)) ai ?_;refine tk 8 66 (.slice (some ⟨g,0,none⟩) P.length cap) ai ?_ (hy:=Or.inl ⟨by rfl,by intro w bK;(try dsimp only at bK);(obtain ⟨q0,q1,q2,q3⟩:=bK;go_simp)⟩);refine tk 9 67 (.int .i64 (i:Int)) ai ?_;refine tk 10 68 (.pointer (some ⟨g,i*4,none⟩)) ai ?_;refine tk 11 69 (.pointer (some ⟨g,i*4+3,none⟩)) ai ?_;refine tk 14 72 (.slice pa pl pc) ai ?_;try go_frame
     refine eR [12] ?_;refine gH 70 λK hK=> ?_;go_simp;refine hK.Z _ _ (by exact ai) (λaK=> ?_);clear hK K;try go_frame
     refine eR [13] ?_;refine gH 71 λK hK=> ?_;go_simp;go_at_call 27;have gm:=H6.Z.rds (S:=S) (by simp [ay]) (p7.Z.one Vg.Z);rw [<-oi.Z.1] at gm;refine (fO gm (by have:=wN.Z;have:=oi.Z.1;omega)).mono ?_;rintro e w7 ⟨tv,rfl,oz,jf⟩;have H7:=ae (H6.Z.quiet jf);clear gm;obtain ⟨nv,w8,aT,LP,zY⟩:=bC.grow jf.size oz (HPW.Z _ H7.Z.keeps) (by have:=wN.Z;have:=oi.Z.1;have:=oi.Z.2;omega);obtain ⟨ta,tc,rfl,-,-⟩:=oz.bytes.reads.aG;obtain ⟨na,nc,rfl,-,-⟩:=LP.bytes.reads.aG;rw [<-oi.Z.1] at aT;have cV:=ae aT;have ace:ak w6 w8:=jf.trans zY (λb hb e=>by have:=du oz b e;omega);have H8:=ae (H6.Z.NC (W:=w6) LP ace);have H9:=ae (H8.Z.Xk (bv':= .slice na (x.b++p).length nc) (b':=x.b++p) Vg.Z);have hu8:=RUx.of H8.Z Vg.Z;have Ui:=RUx.of H7.Z Vg.Z;rw [<-oi.Z.1] at hu8 Ui;have HL9:=ae (show (x.b++p).length=(x.b++p).length from rfl);have HU8:=ae hu8;generalize uM:(x.b++p).length=gl at cV H9 H8 HL9;rw [<-oi.Z.1];clear aT oz LP jf zY ace hu8 Ui;refine hK.Z _ _ (by exact kR.of H7.Z) (λaI=> ?_);clear hK K;try go_frame
     refine eR [15] ?_;refine D7 73 λK hK=> ?_;refine cP rfl _ _ _ _ rfl rfl rfl cV.Z ?_;refine hK.Z _ _ (by exact kR.of H8.Z) (λbJ=> ?_);clear hK K;refine tk 16 74 (.pointer (some ⟨g,i*4,none⟩)) bJ ?_;refine tk 17 75 (.pointer (some ⟨g,i*4+3,none⟩)) bJ ?_;try go_frame
     clear e1;obtain ⟨-,e1,f1⟩:=HU8.Z;refine eR [18] ?_;refine rcg (o:={dst:=none,op:=_,type:=_,pos:=_,after:=_,guard:=_}) rfl (λK hK=> ?_) AllReadyH.nil;refine eE rfl ?_;go_simp;refine hK.Z _ _ (by exact kR.of H9.Z) (λiD=> ?_);clear hK K;try go_frame
     refine wpAnyH_done (by kernel_rfl) ?_ _;have HF:=ae H9.Z;clear ai aK aI bJ iD H6 H7 H8 H9 HU8 e1 f1 cV;go_wp2;go_ret;exact ⟨rfl,v,lv,.slice (some ⟨g,0,none⟩) P.length cap,P.set i (⟨x.id,x.au,x.bo,x.b++p⟩,.slice na gl nc),(.slice na gl nc,x.b++p)::S,by rw [K9],p7.Z.setAt (x:=⟨x.id,x.au,x.bo,x.b++p⟩),HF.Z⟩
    ·have bM:=HR.Z;rw [if_neg hc] at bM;subst bM;have b1:(c2==0)=false:=by simpa using hc
     have HF:=ae (P7.Z c2 {s with m:=m2} _ H5.Z);clear HR hc P7 H5;go_wp2_with fail;refine gU Nz.Z.Z ?_;go_wp2;go_ret;exact HF.Z
   ·have bM:=HR.Z;rw [if_neg hc] at bM;subst bM;have b1:(c1==0)=false:=by simpa using hc
    have HF:=ae (P7.Z c1 {s with m:=m1} _ H4.Z);clear HR hc P7 H4 om;go_wp2;go_ret;exact HF.Z
 ·have b1:(at_ !=(bl:Int))=true:=by simpa using ha
  have hS:kG s (aq nx) x at_ p=(130,s,x):=by unfold kG;rw [<-oi.Z.1,if_neg ha]
  rw [hS];have HF:=ae (eJ 130 s w0 h);clear hS ha kg vo AO kL hid gQ h fK hl hk hn hf hx hp fb gm tz eJ Y1;go_enter Tryz.func89,Tryz.ntmps89;go_wp2_with fail;refine gU nN.Z.Z ?_;go_wp2;go_ret;exact HF.Z
end
def jW (s:DS) (nm:aD) (nx:Nat) (au:aD) (bo:Int):Int × Int × DS:=
 if gf au=true then
  (if bo <0\/1099511627776 <bo then (0,1,s)
   else if 4294967295 <nx then (0,8,s)
   else if (aO s.m (aq nx)).1=0 then
   (if (eC {s with m:=(aO s.m (aq nx)).2} nm [⟨aq nx,false,cD au bo.toNat []⟩,⟨uB,false,aL (nx+1) 8⟩]).1=0 then
    ((nx:Int),0,(eC {s with m:=(aO s.m (aq nx)).2} nm [⟨aq nx,false,cD au bo.toNat []⟩,⟨uB,false,aL (nx+1) 8⟩]).2)
    else (0,if (aE (eC {s with m:=(aO s.m (aq nx)).2} nm [⟨aq nx,false,cD au bo.toNat []⟩,⟨uB,false,aL (nx+1) 8⟩]).2.m (aq nx)).1=0
     then (eC {s with m:=(aO s.m (aq nx)).2} nm [⟨aq nx,false,cD au bo.toNat []⟩,⟨uB,false,aL (nx+1) 8⟩]).1
     else (aE (eC {s with m:=(aO s.m (aq nx)).2} nm [⟨aq nx,false,cD au bo.toNat []⟩,⟨uB,false,aL (nx+1) 8⟩]).2.m (aq nx)).1,
     {(eC {s with m:=(aO s.m (aq nx)).2} nm [⟨aq nx,false,cD au bo.toNat []⟩,⟨uB,false,aL (nx+1) 8⟩]).2 with
      m:=(aE (eC {s with m:=(aO s.m (aq nx)).2} nm [⟨aq nx,false,cD au bo.toNat []⟩,⟨uB,false,aL (nx+1) 8⟩]).2.m (aq nx)).2}))
   else (0,(aO s.m (aq nx)).1,{s with m:=(aO s.m (aq nx)).2}))
 else (0,70,s)
theorem ND (s:DS) (nm:aD) (nx:Nat) (au:aD) (bo:Int):dV s.tm nm nx au bo=((jW s nm nx au bo).1,(jW s nm nx au bo).2.1,(jW s nm nx au bo).2.2.tm):=by
 unfold jW dV;have e1:∀ z:DS,z.tm.m=z.m:=λ_=>rfl;have e2:∀ m:DM,(⟨m,s.tm.size,s.tm.fs,s.tm.bh⟩:TM)=({s with m:=m}:DS).tm:=λ_=>rfl;rw [e1,e2,qQ];dsimp only;rw [e1];repeat' split
 all_goals rfl
section
variable {w wr:World} {r q t u:Nat} {nm:aD} {s:DS} {v lv vL:Value} {P:List (eT × Value)} {S:List (Value × aH)} {rs:List (bB w.heap.size)}
def NE (w:World) (r q t u:Nat) (nm:aD) (nx:Nat) (L:List eT) (au:aD) (bo:Int) (rs:List (bB w.heap.size)) (res:Int × Int × DS) (e:Ending) (w':World):Prop:=
 e= .returned (.tuple #[.int .i64 res.1,.int .i64 res.2.1])/\∃ v lv vL P S,mV S P/\
  ((res.2.1=0/\P.map (·.1)=L++[⟨(nx:Int),au,bo,[]⟩]/\Own w w' (bZ r q t nm res.2.2 v lv++(ay r t u ((nx+1:Nat):Int) vL P S++rs)))\/
   (¬res.2.1=0/\P.map (·.1)=L/\Own w w' (bZ r q t nm res.2.2 v lv++(ay r t u (nx:Int) vL P S++rs))))
theorem zf (A M:List α) (a b c:α):(A++([a,b,c]++M)).Perm (a::(A++([b,c]++M))):=lO (l₁:=A)
theorem Own.Uj {A M:List (bB w.heap.size)} (h:Own w wr (A++(ay r t u next vL P S++M))) (n':Int):Own w (wr.setCell ⟨u,2,none⟩ (.int .i64 n')) (A++(ay r t u n' vL P S++M)):=
 ((h.perm (zf A M _ _ _)).store 2 (.int .i64 n')).perm (zf A M _ _ _).symm
theorem Own.Uk {A M:List (bB w.heap.size)} (h:Own w wr (A++(ay r t u next vL P S++M))) (x:eT) (JW:bv.oneCell'=true) (hn:P.length <1099511627776): ∃ a c w',(Builtin.append_ #[97,97] 97 #[vL,.slice (some ⟨wr.heap.size,0,none⟩) 1 1]).run Tryz.prog (wr.alloc (.cells #[.int .i64 x.id,.int .i64 x.bo,.string x.au,bv] 189))= .ok (.slice a (P.length+1) c) w'/\ w'.cell? ⟨u,3,none⟩=some vL/\w'.frozen? ⟨u,3,none⟩=false/\Own w (w'.setCell ⟨u,3,none⟩ (.slice a (P.length+1) c)) (A++(ay r t u next (.slice a (P.length+1) c) (P++[(x,bv)]) S++M)):=by have h1:=h.perm (uR A M _ _ _);obtain ⟨a,c,w',aT,h2⟩:=h1.Nn x JW hn;have hu:=h2.at (b:=u) (o:=kQ r t next vL) (by simp);obtain ⟨-,-,-,c3,cf⟩:=jI hu.1;have h3:=h2.perm (Fy (uR A M _ _ _).symm (zf A M _ _ _));exact ⟨a,c,w',aT,c3,cf 3,(h3.store 3 (.slice a (P.length+1) c)).perm (zf A M _ _ _).symm⟩
theorem Own.Xl {A M:List (bB w.heap.size)} (h:Own w wr (A++(ay r t u next vL P S++M))) {l:aH} (hv:aC w bv l):Own w wr (A++(ay r t u next vL P ((bv,l)::S)++M)):=
 ((h.perm (A9 A M _ _ _)).aaf hv).perm (A9 A M _ _ _).symm
theorem CB (h:Own w w0 (bZ r q t nm s v lv++(ay r t u (nx:Int) vL P S++rs))) (fK:mV S P) (hl:P.length <1000000) (hk:DK s n c) (hn:n+50 <549755813888) (hc:c+20<=900000) (gQ:1<=nx/\nx<=4294967296) (au:aD) (pE:au.size<=9223372036854775807) (bo:Int) (DA:-9223372036854775808<=bo/\bo<=9223372036854775807): bF 87 #[.pointer (some ⟨u,0,none⟩),.string au,.int .i64 bo] w0 (NE w r q t u nm nx (P.map (·.1)) au bo rs (jW s nm nx au bo)):=by
 have Yu:=tQ w0 au pE;have Aa:=ae Yu;have H0:=ae h;have sP:∀ (a co:Int) (s2:DS) v lv (w':World),¬co=0->Own w w' (bZ r q t nm s2 v lv++(ay r t u (nx:Int) vL P S++rs))->NE w r q t u nm nx (P.map (·.1)) au bo rs (a,co,s2) (.returned (.tuple #[.int .i64 a,.int .i64 co])) w':=λa co s2 v lv w' h1 h2=>⟨rfl,v,lv,vL,P,S,fK,.inr ⟨h1,rfl,h2⟩⟩;have HNO:=ae sP;obtain ⟨-,-,k2,-⟩:=kR.of h;cases hr:gf au with
 | false=>
  have hS:jW s nm nx au bo=(0,70,s):=by unfold jW;rw [hr];rfl
  rw [hS];rw [hr] at Aa;have HF:=ae (sP 0 70 s v lv w0 (by omega) h);clear h fK hl hk hn hc gQ pE DA Yu sP hr hS k2;go_enter Tryz.func87,Tryz.ntmps87;go_wp2_with fail;refine gU Aa.Z.Z ?_;go_wp2;go_ret2;exact HF.Z
 | true=>
  rw [hr] at Aa;replace pE:au.size<=1048576:=kT (lJ hr) (by decide);by_cases ht:bo <0\/1099511627776 <bo
  ·have hS:jW s nm nx au bo=(0,1,s):=by unfold jW;rw [hr,if_pos rfl,if_pos ht]
   rw [hS];have HF:=ae (sP 0 1 s v lv w0 (by omega) h);have HT:=ae ht;clear h fK hl hk hn hc gQ pE DA Yu sP hr hS k2 ht;by_cases h1:bo <0
   ·have b1:decide (bo <(0:Int))=true:=decide_eq_true h1;clear h1 HT;go_enter Tryz.func87,Tryz.ntmps87;go_wp2_with fail;refine gU Aa.Z.Z ?_;go_wp2;go_ret2;exact HF.Z
   ·have b1:decide (bo <(0:Int))=false:=decide_eq_false h1;have b2:decide ((1099511627776:Int) <bo)=true:=decide_eq_true (by rcases HT.Z with h | h;exact absurd h h1;exact h);clear h1 HT;go_enter Tryz.func87,Tryz.ntmps87;go_wp2_with fail;refine gU Aa.Z.Z ?_;go_wp2;go_ret2;exact HF.Z
  ·have b1:decide (bo <(0:Int))=false:=decide_eq_false (by omega);have b2:decide ((1099511627776:Int) <bo)=false:=decide_eq_false (by omega);have MV:=ae (show 0<=bo/\bo<=1099511627776 by omega);by_cases Lq:4294967295 <nx
   ·have hS:jW s nm nx au bo=(0,8,s):=by unfold jW;rw [hr,if_pos rfl,if_neg ht,if_pos Lq]
    rw [hS];have b3:decide ((4294967295:Int) <(nx:Int))=true:=decide_eq_true (by omega);have HF:=ae (sP 0 8 s v lv w0 (by omega) h);clear h fK hl hk hn hc gQ pE DA Yu sP hr hS ht Lq;go_enter Tryz.func87,Tryz.ntmps87;go_wp2_with fail;refine gU Aa.Z.Z ?_;go_wp2;go_ret2;exact HF.Z
   ·have b3:decide ((4294967295:Int) <(nx:Int))=false:=decide_eq_false (by omega);obtain ⟨R,hR⟩:=exp (jW s nm nx au bo);rw [hR];unfold jW at hR;rw [if_pos hr,if_neg ht,if_neg Lq] at hR;obtain ⟨ky,kE⟩:=cE (aq nx);obtain ⟨cr,ml⟩:=cE (aO s.m ky);obtain ⟨l1,my⟩:=cE (cD au bo.toNat []);obtain ⟨l2,qe⟩:=cE (aL (nx+1) 8);obtain ⟨ap,kt⟩:∃ x,x=eC {s with m:=cr.2} nm [⟨ky,false,l1⟩,⟨uB,false,l2⟩]:=⟨_,rfl⟩;obtain ⟨rm,sT⟩:=cE (aE ap.2.m ky);rw [<-kE,<-ml,<-my,<-qe,<-kt,<-sT] at hR;have hkc:DK {s with m:=cr.2} (n+1) c:=by rw [ml];exact hk.lW (hk.tidy.fY ky)
    have MQ:DK ap.2 (n+2) (c+1):=by rw [kt];exact hkc.app nm _
    have jA:=ae (show ∀ W,bF 24 #[.int .i64 (nx:Int)] W (bH W (.string ky)) from λW=>by rw [kE];exact lX W nx nx (IntWalk.u64_in _ (by omega)) (by omega));have WN:=ae (show ∀ W (M:List (bB w.heap.size)),Own w W (bZ r q t nm s v lv++M)->bF 80 #[.pointer (some ⟨r,0,none⟩),.agg #[.int .i64 0,.string ky,.string ⟨#[]⟩,.slice none 0 0]] W (λe w'=>e= .returned (.int .i64 cr.1)/\Own w w' (bZ r q t nm {s with m:=cr.2} v lv++M)) from λW M hW=>by have:=Own.nZ (rs:=[_,_,_,_]++M) hW hk.tidy (by omega) (by omega) ⟨0,ky,⟨#[]⟩,[]⟩ (by simp) (by simp) (pv:= .slice none 0 0) (λ_ w' _ _=>dH w');rw [ki,<-ml] at this;exact this)
    have Q8:=ae (show ∀ W,bF 143 #[.int .i64 bo,.string au,.slice none 0 0] W (nW W l1) from λW=>by rw [my];exact uj au bo bo.toNat (by rw [IntWalk.u64_in _ (by have:=MV.Z;omega)];have:=MV.Z;omega) (by have:=MV.Z;omega) (dH W) (by simp) pE)
    obtain ⟨n1,Aw⟩:=cE (nx+1);have Qn:=ae (show ∀ W,bF 73 #[.int .u64 (n1:Int),.int .i64 8] W (nW W l2) from λW=>by rw [qe,Aw];exact ke W (nx+1) 8 (by omega) (by omega) (by omega));have jM:=ae (show ∀ W (M:List (bB w.heap.size)) (bb:Nat) (v1 v2:Value),Own w W (bZ r q t nm {s with m:=cr.2} v lv++(ay r t u (nx:Int) vL P S++(aA bb (.cells #[.string ky,.bool false,v1,.string uB,.bool false,v2] 162)::bS v2 l2::bS v1 l1::M)))->
      bF 142 #[.pointer (some ⟨t,0,none⟩),.slice (some ⟨bb,0,none⟩) 2 2] W (un w r q t u nm (nx:Int) vL P S M ap) from λW M bb v1 v2 hW=>by
     have:=qb hW hkc (by omega) (by omega) (a:=some ⟨bb,0,none⟩) (cap:=2) (l:=[⟨ky,false,l1⟩,⟨uB,false,l2⟩]) (λwr ls ho=>TH (t:=162) (ho.at (b:=bb) (o:= .cells #[.string ky,.bool false,v1,.string uB,.bool false,v2] 162) (by simp)).1 (ho.bytes (v:=v1) (l:=l1) (by simp)).1 (ho.bytes (v:=v2) (l:=l2) (by simp)).1) (by simp) (by decide);rw [<-kt] at this;refine this.mono ?_;rintro e w' ⟨he,v',xZ,h⟩;exact ⟨he,v',xZ,h.bR.bR.bR⟩)
    have ot:=ae (show ∀ W v lv (M:List (bB w.heap.size)),Own w W (bZ r q t nm ap.2 v lv++M)->bF 80 #[.pointer (some ⟨r,0,none⟩),.agg #[.int .i64 2,.string ky,.string ⟨#[]⟩,.slice none 0 0]] W (λe w'=>e= .returned (.int .i64 rm.1)/\Own w w' (bZ r q t nm {ap.2 with m:=rm.2} v lv++M)) from λW v lv M hW=>by have:=Own.nZ (rs:=[_,_,_,_]++M) hW MQ.tidy (by omega) (by omega) ⟨2,ky,⟨#[]⟩,[]⟩ (by simp) (by simp) (pv:= .slice none 0 0) (λ_ w' _ _=>dH w');rw [gb,<-sT] at this;exact this)
    have HR:=ae hR;have MX:=ae (show IntKind.i64.wrap ((nx:Int)+1)=(n1:Int)/\IntKind.u64.wrap (n1:Int)=(n1:Int) from ⟨by rw [qi _ (by omega)];omega,IntWalk.u64_in _ (by omega)⟩);have HN1:=ae (show n1=nx+1 from Aw);have p7:=ae fK;have HL:=ae hl;clear hR hr ht Lq kE ml my qe kt sT hkc MQ h fK hl hk hn hc gQ pE DA Yu sP Aw;obtain ⟨c1,m1⟩:=cr;obtain ⟨ca,s2⟩:=ap;obtain ⟨c3,m3⟩:=rm;dsimp only at*;go_enter Tryz.func87,Tryz.ntmps87;go_wp2_with fail;refine gU Aa.Z.Z ?_;go_upto_region 8 with fail;clear k2 b1 b2 b3 Aa;refine wp_region_held_drew (S:=kR u r t (nx:Int) vL) (by kernel_rfl) (by exact kR.of H0.Z.drew) (λai=> ?_);have H1:=ae H0.Z.drew;clear H0;refine tk 0 29 (.pointer (some ⟨u,0,none⟩)) ai ?_;refine tk 1 30 (.pointer (some ⟨u,0,none⟩)) ai ?_;refine tk 2 31 (.pointer (some ⟨u,0,none⟩)) ai ?_;refine tk 3 32 (.pointer (some ⟨r,0,none⟩)) ai ?_ (hy:=Or.inl ⟨by rfl,by intro w bK;(try dsimp only at bK);(obtain ⟨q0,q1,q2,q3⟩:=bK;go_simp)⟩);refine tk 4 33 (.int .i64 (nx:Int)) ai ?_;try go_frame
    refine eR [5] ?_;refine gH 34 λK hK=> ?_;go_simp;go_at_call 24;refine (jA.Z _).mono ?_;rintro e w2 ⟨rfl,cg⟩;have H2:=ae (H1.Z.quiet cg);clear cg;refine hK.Z _ _ (by exact kR.of H2.Z) (λaK=> ?_);clear hK K;refine tk 6 35 (.agg #[.int .i64 0,.string ky,.string ⟨#[]⟩,.slice none 0 0]) aK ?_;try go_frame
    refine eR [7] ?_;refine gH 36 λK hK=> ?_;go_simp;go_at_call 80;refine (WN.Z _ _ H2.Z).mono ?_;rintro e w3 ⟨rfl,h3⟩;have H3:=ae h3;clear h3;refine hK.Z _ _ (by exact kR.of H3.Z) (λaI=> ?_);clear hK K;refine tk 8 9 (.int .i64 c1) aI ?_;try go_frame
    refine wpAnyH_done (by kernel_rfl) ?_ _;clear H1 H2 ai aK aI WN;by_cases hc:c1=0
    ·subst hc;have bM:=HR.Z;rw [if_pos rfl] at bM;have HR:=ae bM;clear bM;go_upto_region 11 with fail;refine wp_region_held_drew (S:=kR u r t (nx:Int) vL) (by kernel_rfl) (by exact kR.of H3.Z.drew) (λai=> ?_);have H4:=ae H3.Z.drew;clear H3;refine tk 0 40 (.pointer (some ⟨u,0,none⟩)) ai ?_;refine tk 1 41 (.pointer (some ⟨u,0,none⟩)) ai ?_;refine tk 2 42 (.pointer (some ⟨u,1,none⟩)) ai ?_;refine tk 3 43 (.pointer (some ⟨t,0,none⟩)) ai ?_ (hy:=Or.inl ⟨by rfl,by intro w bK;(try dsimp only at bK);(obtain ⟨q0,q1,q2,q3⟩:=bK;go_simp)⟩);refine tk 4 44 (.int .i64 (nx:Int)) ai ?_;refine tk 6 46 (.int .i64 bo) ai ?_;refine tk 7 47 (.string au) ai ?_;refine tk 10 50 (.int .i64 (nx:Int)) ai ?_;refine tk 11 51 (.int .i64 (n1:Int)) ai ?_ (hy:=Or.inl ⟨by rfl,by intro w bK;(try dsimp only at bK);(go_simp;exact MX.Z.1)⟩);refine tk 12 52 (.int .u64 (n1:Int)) ai ?_ (hy:=Or.inl ⟨by rfl,by intro w bK;(try dsimp only at bK);(go_simp;exact MX.Z.2)⟩);try go_frame
     refine eR [5] ?_;refine gH 45 λK hK=> ?_;go_simp;go_at_call 24;refine (jA.Z _).mono ?_;rintro e w5 ⟨rfl,fB⟩;have H5:=ae (H4.Z.quiet fB);clear fB;refine hK.Z _ _ (by exact kR.of H5.Z) (λaK=> ?_);clear hK K;try go_frame
     refine eR [8] ?_;refine gH 48 λK hK=> ?_;go_simp;go_at_call 143;refine (Q8.Z _).mono ?_;rintro e w6 ⟨v1,rfl,fT,gZ⟩;obtain ⟨a1,q1,rfl,-,-⟩:=fT.bytes.aG;have H6:=ae (H5.Z.o8 fT gZ);clear fT gZ;refine hK.Z _ _ (by exact kR.of H6.Z) (λaI=> ?_);clear hK K;refine tk 9 49 (.agg #[.string ky,.bool false,.slice a1 l1.length q1]) aI ?_;try go_frame
     refine eR [13] ?_;refine gH 53 λK hK=> ?_;go_simp;go_at_call 73;refine (Qn.Z _).mono ?_;rintro e w7 ⟨v2,rfl,dy,jf⟩;obtain ⟨a2,q2,rfl,-,-⟩:=dy.bytes.aG;have H7:=ae (H6.Z.o8 dy jf);clear dy jf;refine hK.Z _ _ (by exact kR.of H7.Z) (λbJ=> ?_);clear hK K;refine tk 14 54 (.agg #[.string uB,.bool false,.slice a2 l2.length q2]) bJ ?_ (hy:=Or.inl ⟨by rfl,by intro w bK;(try dsimp only at bK);(unfold uB;go_simp)⟩);try go_frame
     refine eR [15] ?_;refine gH 55 λK hK=> ?_;go_simp;have H8:=ae (H7.Z.gS (.cells #[.string ky,.bool false,.slice a1 l1.length q1,.string uB,.bool false,.slice a2 l2.length q2] 162));refine hK.Z _ _ (by exact kR.of H8.Z) (λiD=> ?_);clear hK K;try go_frame
     refine eR [16] ?_;refine gH 56 λK hK=> ?_;go_simp;go_at_call 142;refine (jM.Z _ _ _ _ _ H8.Z).mono ?_;rintro e w9 ⟨rfl,v9,lv9,h9⟩;have H9:=ae h9;clear h9;refine hK.Z _ _ (by exact kR.of H9.Z) (λmi=> ?_);clear hK K;refine tk 17 9 (.int .i64 ca) mi ?_;try go_frame
     refine wpAnyH_done (by kernel_rfl) ?_ _;clear H4 H5 H6 H7 H8 ai aK aI bJ iD mi jM Q8 Qn;by_cases y9:ca=0
     ·subst y9;have bM:=HR.Z;rw [if_pos rfl] at bM;subst bM;have h9:=H9.Z;obtain ⟨-,-,c2,-,cf⟩:=jI (h9.at (b:=u) (o:=kQ r t (nx:Int) vL) (by simp [ay])).1;have f2:=cf 2;have hw:=MX.Z.1;have GG:=ae (h9.Uj (n1:Int));clear h9 cf H9 HR HNO jA ot;go_upto_region 18 with fail;clear c2 f2 hw;generalize w9.setCell ⟨u,2,none⟩ (.int .i64 (n1:Int))=w10 at*;obtain ⟨-,-,-,d3⟩:=kR.of GG.Z;obtain ⟨na,nc,w12,aT,e3,f3,YD⟩:=GG.Z.Uk ⟨(nx:Int),au,bo,[]⟩ (bv:= .slice none 0 0) rfl (by have:=HL.Z;omega);have cV:=ae aT;have Xm:=ae YD;clear aT YD HL GG;go_wp2_with (at_builtin;refine ao rfl _ _ _ _ rfl rfl rfl cV.Z ?_);go_ret2;have h13:=Xm.Z.Xl (dH w);rw [HN1.Z] at h13;refine ⟨rfl,v9,lv9,_,_,_,λp hp=> ?_,.inl ⟨rfl, ?_,h13⟩⟩
      ·rcases List.mem_append.1 hp with hp | hp
       ·exact nO _ (p7.Z p hp)
       ·rw [List.mem_singleton.1 hp];exact gw ..
      ·rw [mB];rfl
     ·have bM:=HR.Z;rw [if_neg y9] at bM;have HR:=ae bM;have b4:(ca !=0)=true:=by simpa using y9
      clear bM;go_upto_region 13 with fail;refine wp_region_held_drew (S:=kR u r t (nx:Int) vL) (by kernel_rfl) (by exact kR.of H9.Z.drew) (λai=> ?_);have GG:=ae H9.Z.drew;clear H9;refine tk 0 59 (.pointer (some ⟨u,0,none⟩)) ai ?_;refine tk 1 60 (.pointer (some ⟨u,0,none⟩)) ai ?_;refine tk 2 61 (.pointer (some ⟨u,0,none⟩)) ai ?_;refine tk 3 62 (.pointer (some ⟨r,0,none⟩)) ai ?_ (hy:=Or.inl ⟨by rfl,by intro w bK;(try dsimp only at bK);(obtain ⟨q0,q1,q2,q3⟩:=bK;go_simp)⟩);refine tk 4 63 (.int .i64 (nx:Int)) ai ?_;try go_frame
      refine eR [5] ?_;refine gH 64 λK hK=> ?_;go_simp;go_at_call 24;refine (jA.Z _).mono ?_;rintro e w11 ⟨rfl,acf⟩;have H11:=ae (GG.Z.quiet acf);clear acf;refine hK.Z _ _ (by exact kR.of H11.Z) (λaK=> ?_);clear hK K;refine tk 6 65 (.agg #[.int .i64 2,.string ky,.string ⟨#[]⟩,.slice none 0 0]) aK ?_;try go_frame
      refine eR [7] ?_;refine gH 66 λK hK=> ?_;go_simp;go_at_call 80;refine (ot.Z _ _ _ _ H11.Z).mono ?_;rintro e w12 ⟨rfl,YD⟩;have Xm:=ae YD;clear YD;refine hK.Z _ _ (by exact kR.of Xm.Z) (λaI=> ?_);clear hK K;refine tk 8 10 (.int .i64 c3) aI ?_;try go_frame
      refine wpAnyH_done (by kernel_rfl) ?_ _;clear GG H11 ai aK aI ot jA;by_cases hc3:c3=0
      ·subst hc3;have bM:=HR.Z;rw [if_pos rfl] at bM;subst bM;have HF:=ae (HNO.Z 0 ca _ _ _ _ y9 Xm.Z);clear HR Xm HNO y9;go_wp2;go_ret2;exact HF.Z
      ·have bM:=HR.Z;rw [if_neg hc3] at bM;subst bM;have b5:(c3 !=0)=true:=by simpa using hc3
       have HF:=ae (HNO.Z 0 c3 _ _ _ _ hc3 Xm.Z);clear HR Xm HNO y9 hc3;go_wp2;go_ret2;exact HF.Z
    ·have bM:=HR.Z;rw [if_neg hc] at bM;subst bM;have b4:(c1 !=0)=true:=by simpa using hc
     have HF:=ae (HNO.Z 0 c1 _ _ _ _ hc H3.Z);clear HR H3 HNO hc;go_wp2;go_ret2;exact HF.Z
end
def ow (T:TM) (nm ky:aD) (x:eT) (dg:aH) (more:List eX):Int × TM × Bool:=
 if ei x.b=dg then
  (if (bL T nm (more++[⟨ky,false,cD x.au x.bo.toNat dg⟩])).1=0 then
   ((eo (bL T nm (more++[⟨ky,false,cD x.au x.bo.toNat dg⟩])).2 nm ky dg).1,(eo (bL T nm (more++[⟨ky,false,cD x.au x.bo.toNat dg⟩])).2 nm ky dg).2,true)
   else ((bL T nm (more++[⟨ky,false,cD x.au x.bo.toNat dg⟩])).1,(bL T nm (more++[⟨ky,false,cD x.au x.bo.toNat dg⟩])).2,false))
 else (20,T,false)
def nJ (s:DS) (nm ky:aD) (x:eT) (dg:aH) (more:List eX):Int × DS × Bool:=
 if ei x.b=dg then
  (if (eC s nm (more++[⟨ky,false,cD x.au x.bo.toNat dg⟩])).1=0 then
   ((jV (eC s nm (more++[⟨ky,false,cD x.au x.bo.toNat dg⟩])).2 nm ky dg).1,(jV (eC s nm (more++[⟨ky,false,cD x.au x.bo.toNat dg⟩])).2 nm ky dg).2,true)
   else ((eC s nm (more++[⟨ky,false,cD x.au x.bo.toNat dg⟩])).1,(eC s nm (more++[⟨ky,false,cD x.au x.bo.toNat dg⟩])).2,false))
 else (20,s,false)
theorem Kv (s:DS) (nm ky:aD) (x:eT) (dg:aH) (more:List eX):ow s.tm nm ky x dg more=((nJ s nm ky x dg more).1,(nJ s nm ky x dg more).2.1.tm,(nJ s nm ky x dg more).2.2):=by
 unfold nJ ow;rw [qQ];dsimp only;rw [Cx];repeat' split
 all_goals rfl
section
variable {w wr:World} {rs:List (bB w.heap.size)} {v:Value} {ps:List Value} {cs:List eX}
theorem Ul {T:TypeId} {a:Option Addr} (h2:wr.ownsRow 0 T 3 (.slice a n c) cs.length (dL ps cs)) (h1:dX (λp (c:eX)=>aC wr p c.val) ps cs):fu wr a cs:=λi ch hc=>by
 obtain ⟨p,hp,ho⟩:=h1.wV hc;have dI:=oq i hp hc;rcases h2.2 with ⟨e,e2⟩ | ⟨g,cap,gp,e,_⟩
 ·have:=(List.getElem?_eq_some_iff.1 hc).1;omega
 ·cases e;exact ⟨_,p,rfl,h2.cells (g:=g) rfl _ _ dI.1,h2.cells (g:=g) rfl _ _ dI.2.1,h2.cells (g:=g) rfl _ _ dI.2.2,ho⟩
theorem Own.YE {xs:List Value} (h:Own w wr (p8 v 162 3 n xs::rs)) (k:aD) (g:Bool) {pv:Value} (UU:pv.oneCell'=true) (hn:n <1099511627776): ∃ a c w',(Builtin.append_ #[65,65] 65 #[v,.slice (some ⟨wr.heap.size,0,none⟩) 1 1]).run Tryz.prog (wr.alloc (.cells #[.string k,.bool g,pv] 162))= .ok (.slice a (n+1) c) w'/\ Own w w' (p8 (.slice a (n+1) c) 162 3 (n+1) (xs++[.string k,.bool g,pv])::rs):=by
 have h1:=h.quiet ((ah.refl _ wr).alloc (.cells #[.string k,.bool g,pv] 162));obtain ⟨F,⟨h2,h3⟩,hF,back⟩:=h1.jT;obtain ⟨i0,hi,yW,iH,jO⟩:=info_parts o6;obtain ⟨v',w',aT,dy,hg,_,jP⟩:=run_append_own_at (P:=Tryz.prog) (wr.alloc (.cells #[.string k,.bool g,pv] 162)) 0 65 65 162 i0 _ 3 48 Tryz.underlying65 hi yW iH jO rfl (by omega) v n xs h2 ⟨wr.heap.size,0,none⟩ 1 1 [.string k,.bool g,pv] rfl
  (λj u hu=>by rw [iV,fw];exact ag (heap_alloc_new wr _) (by simpa using hu))
  (by intro u hu;simp at hu;rcases hu with rfl | rfl | rfl;rfl;rfl;exact UU) (by unfold maxLen;omega) (by omega) (fC _)
 obtain ⟨a,c,rfl⟩:=bA dy;have aX:=dy.lt;refine ⟨a,c,w',aT,back w' (p8 (.slice a (n+1) c) 162 3 (n+1) (xs++[.string k,.bool g,pv])) ((ah.fH hg).mono (λb _ e=>h3 b e)) ⟨dy,λb hb=> ?_⟩⟩;rcases jP with jP | jP
 ·rw [jP] at hb;exact .inl (h3 b hb)
 ·have hl:=aX b hb;rw [jP] at hb;cases hb;exact .inr ⟨eQ _,hl.2⟩
end
section
variable {w wr:World} {r q t u:Nat} {nm:aD} {s:DS} {v lv vL:Value} {next:Int} {P:List (eT × Value)} {S:List (Value × aH)} {rs:List (bB w.heap.size)}
def aaA (w:World) (r q t u:Nat) (nm:aD) (next:Int) (P:List (eT × Value)) (rs:List (bB w.heap.size)) (id:Int) (res:Int × DS × Bool) (e:Ending) (w':World):Prop:=
 e= .returned (.int .i64 res.1)/\∃ v lv vL S,mV S P/\Own w w' (bZ r q t nm res.2.1 v lv++(ay r t u next vL (if res.2.2=true then others P id else P) S++rs))
theorem CD (h:Own w w0 (bZ r q t nm s v lv++(ay r t u next vL P S++rs))) (hl:P.length <1000000) (hf:ui (P.map (·.1)) id=-1) (cl:List Value) (mv:Value): ∃ w',aW 92 #[.pointer (some ⟨u,0,none⟩),.int .i64 id,.agg cl.toArray,mv] w0 (.int .i64 6) w'/\Own w w' (bZ r q t nm s v lv++(ay r t u next vL P S++rs)):=by have h1:=h.gS (.cells cl.toArray 24);have fb:=iE h1 (u:=u) (r:=r) (t:=t) (next:=next) (v:=vL) (P:=P) (by simp [ay]) (by simp [ay]) (by omega) id;rw [hf] at fb;refine ⟨_, ?_,h1.bR⟩;have HF:=ae fb;unfold aW;go_enter Tryz.func92,Tryz.ntmps92;go_wp2_with fail;refine gU HF.Z.Z ?_;go_wp2;go_ret;exact ⟨rfl,rfl⟩
def AR (u r t:Nat) (next:Int) (g n c i bd:Nat) (x:eT) (bv:Value) (cl:List Value) (W:World):Prop:=
 (kR u r t next (.slice (some ⟨g,0,none⟩) n c) W/\W.cell? ⟨g,i*4+1,none⟩=some (.int .i64 x.bo)/\W.cell? ⟨g,i*4+2,none⟩=some (.string x.au)/\W.cell? ⟨g,i*4+3,none⟩=some bv)/\W.rangeAt bd 0 cl
theorem AR.of {g c i bd:Nat} {x:eT} {bv:Value} {cl:List Value} {W:World} {A M:List (bB w.heap.size)} (h:Own w W (A++(ay r t u next (.slice (some ⟨g,0,none⟩) P.length c) P S++M))) (hx:P[i]?=some (x,bv)) (hm:aA bd (.cells cl.toArray 24) ∈ M):AR u r t next g P.length c i bd x bv cl W:=by obtain ⟨g',c',e,-,q1,q2,q3⟩:=(h.qP (v:= .slice (some ⟨g,0,none⟩) P.length c) (P:=P) (by simp [ay])).2 i x bv hx;cases e;exact ⟨⟨kR.of h,q1,q2,q3⟩,h.range (b:=bd) (cl:=cl) (t:=24) (by simp [hm])⟩
theorem Own.aaB {x y:bB w.heap.size} {A B M:List (bB w.heap.size)} (h:Own w W (A++(B++(x::y::M)))):Own w W (y::(A++(B++(x::M)))):=h.perm (by have h1:(A++(B++(x::y::M))).Perm (A++(B++(y::x::M))):=uT A (uT B (oe y x M));have h2:(y::(A++(B++(x::M)))).Perm (A++(y::(B++(x::M)))):=(lO (l₁:=A)).symm;exact h1.trans ((uT A (lO (l₁:=B))).trans h2.symm))
theorem cM {ts:List Value} {ds:List Deferred} {R:(Nat->Value)->Prop} {build:(Nat->Value)->List Value} (h:R (λn=>ts.getD n undef)) (e:build (λn=>ts.getD n undef)=ts):∃ f:Nat->Value,R f/\(⟨ts.toArray,ds⟩:Act)=⟨(build f).toArray,ds⟩:=⟨_,h,by rw [e]⟩
theorem Xn (W:World) (b:Nat):(Instr.sliceAt 24 (.pointer (some ⟨b,0,none⟩)) none none none).run Tryz.prog W= .ok (.slice (some ⟨b,0,none⟩) 32 32) W:=by kernel_rfl
theorem AS (h:Own w w0 (bZ r q t nm s v lv++(ay r t u next vL P S++rs))) (fK:mV S P) (hl:P.length <1000000) (hk:DK s n c) (hn:n+50 <549755813888) (hc:c+50<=900000) (hid:id=(nx:Int)) (gQ:nx<=4294967295) (hf:ui (P.map (·.1)) id=(i:Int)) (hx:P[i]?=some (x,bv)) (AO:x.b.length<=1048576) (J2:0<=x.bo/\x.bo<=1099511627776) (y8:x.au.size<=1048576) (lQ:dg.length=32) {la:Option Addr} {lc:Nat} {L:List eX} (hL:fu w la L) (hlL:L.length <1000000): bF 92 #[.pointer (some ⟨u,0,none⟩),.int .i64 id,.agg (dg.map dF).toArray,.slice la L.length lc] w0 (aaA w r q t u nm next P rs id (nJ s nm (aq nx) x dg L)):=by
 obtain ⟨g,cap,rfl,-,-,-,-⟩:=(h.qP (v:=vL) (P:=P) (by simp [ay])).2 i x bv hx;have gm:=h.rds (S:=S) (by simp [ay]) (fK.one hx);obtain ⟨ba,bc,rfl,-,-⟩:=gm.aG;obtain ⟨ky,kE⟩:=cE (aq nx);have jA:=ae (show ∀ W,bF 24 #[.int .i64 id] W (bH W (.string ky)) from λW=>by rw [kE,hid];exact lX W nx nx (IntWalk.u64_in _ (by omega)) (by omega));obtain ⟨cl,dI⟩:∃ cl:List Value,cl=dg.map dF:=⟨_,rfl⟩;have HI:=ae (show (Tryz.prog.info? 24).map (·.size)=some cl.length by rw [dI,io,lQ];kernel_rfl);obtain ⟨R,hR⟩:=exp (nJ s nm (aq nx) x dg L);rw [hR,<-dI];unfold nJ at hR;rw [<-kE] at hR;obtain ⟨l1,my⟩:=cE (cD x.au x.bo.toNat dg);rw [<-my] at hR;obtain ⟨ap,kt⟩:=cE (eC s nm (L++[⟨ky,false,l1⟩]));rw [<-kt] at hR;have MQ:DK ap.2 (n+1) (c+1):=by rw [kt];exact hk.app nm _
 obtain ⟨cr,ml⟩:=cE (jV ap.2 nm ky dg);rw [<-ml] at hR;have vp:=ae (show ∀ W v lv vL P S (M:List (bB w.heap.size)),Own w W (bZ r q t nm ap.2 v lv++(ay r t u next vL P S++M))->bF 148 #[.pointer (some ⟨u,0,none⟩),.int .i64 id,.agg cl.toArray] W (un w r q t u nm next vL P S M cr) from λW v lv vL P S M hW=>by rw [ml,dI,kE];exact uq hW MQ (by omega) (by omega) hid gQ lQ)
 have Q8:=ae (show ∀ W (M:List (bB w.heap.size)) (bd:Nat),Own w W M->aA bd (.cells cl.toArray 24) ∈ M->bF 143 #[.int .i64 x.bo,.string x.au,.slice (some ⟨bd,0,none⟩) 32 32] W (nW W l1) from λW M bd hW hm=>by rw [my];exact uj x.au x.bo x.bo.toNat (by rw [IntWalk.u64_in _ (by omega)];omega) (by omega) (zM (by rw [<-dI];exact (hW.at hm).1) lQ) (by omega) y8)
 have jM:=ae (show ∀ W (M:List (bB w.heap.size)) (ps:List Value) (a:Option Addr) (cc:Nat) (v1:Value),dX (λp (c:eX)=>aC w p c.val) ps L->L.length+1<=cc/\cc<=maxLen->
   Own w W (bZ r q t nm s v lv++(ay r t u next (.slice (some ⟨g,0,none⟩) P.length cap) P S++(p8 (.slice a (L.length+1) cc) 162 3 (L.length+1) (dL ps L++[.string ky,.bool false,v1])::bS v1 l1::M)))->
   bF 142 #[.pointer (some ⟨t,0,none⟩),.slice a (L.length+1) cc] W (un w r q t u nm next (.slice (some ⟨g,0,none⟩) P.length cap) P S M ap) from λW M ps a cc v1 zj qg hW=>by
  have cU:ps.length=L.length:=zj.length;have je:dL ps L++[.string ky,.bool false,v1]=dL (ps++[v1]) (L++[⟨ky,false,l1⟩]):=(lb ps L v1 ⟨ky,false,l1⟩ cU).symm;have AE:L.length+1=(L++[(⟨ky,false,l1⟩:eX)]).length:=by simp
  rw [je,AE] at hW;rw [AE] at qg ⊢;have:=qb hW hk (by omega) (by omega) (a:=a) (cap:=cc) (l:=L++[⟨ky,false,l1⟩]) (λwr ls ho=>by have EJ:=ho.raw (v:= .slice a (L++[(⟨ky,false,l1⟩:eX)]).length cc) (T:=162) (size:=3) (n:=(L++[(⟨ky,false,l1⟩:eX)]).length) (xs:=dL (ps++[v1]) (L++[⟨ky,false,l1⟩])) (by simp);have hb:=(ho.bytes (v:=v1) (l:=l1) (by simp)).1;exact Ul EJ (uO (zj.mono (λ_ _ hq=>hq.keep ho.keeps)) hb)) qg.1 qg.2
  rw [<-kt] at this;refine this.mono ?_;rintro e w' ⟨he,v',xZ,h⟩;exact ⟨he,v',xZ,h.bR.bR⟩)
 have Vt:=ae (show ∀ W v lv (M:List (bB w.heap.size)),Own w W (bZ r q t nm ap.2 v lv++(ay r t u next (.slice (some ⟨g,0,none⟩) P.length cap) P S++M))->bF 147 #[.pointer (some ⟨u,0,none⟩),.int .i64 id] W (λe w'=>e= .returned (.tuple #[])/\∃ Hl,Own w w' (bZ r q t nm ap.2 v lv++(ay r t u next Hl (others P id) S++(Cn (.slice (some ⟨g,0,none⟩) P.length cap) P::M)))) from λW v lv M hW=>vM hW fK hl id);have h1:=h.gS (.cells cl.toArray 24);have fb:=iE h1 (u:=u) (r:=r) (t:=t) (next:=next) (v:= .slice (some ⟨g,0,none⟩) P.length cap) (P:=P) (by simp [ay]) (by simp [ay]) (by omega) id;rw [hf] at fb;have nN:=ae fb;have heq:=λW=>OX (ei x.b) dg (dz _) lQ W;obtain ⟨sm,kW⟩:∃ sm:List Value,sm=(ei x.b).map dF:=⟨_,rfl⟩;rw [<-kW,<-dI] at heq;have sG:=ae (show ∀ W,ak w0 W->bF 90 #[.slice ba x.b.length bc] W (bH W (.agg sm.toArray)) from λW hW=>by rw [kW];exact rO (gm.keep hW) (by omega));have aaC:=ae (show ak w0 (w0.alloc (.cells cl.toArray 24)) from (ah.refl _ _).alloc _);have H0:=ae h1;obtain ⟨bb,xL⟩:=cE (decide (ei x.b=dg));rw [<-xL] at heq;have AQ:=ae xL;have Y1:=(List.getElem?_eq_some_iff.1 hx).1;have j0:=np i;have j1:(i:Int) <P.length:=by omega
 have HX:=ae hx;have p7:=ae fK;have HLC:=ae hL;have Ob:=ae hlL;obtain ⟨c1,s1⟩:=ap;obtain ⟨c2,s2⟩:=cr;dsimp only at hR vp jM Vt;have HR:=ae hR;clear h h1 gm fb hf fK hl hk hn hc hid gQ hx AO J2 y8 lQ hL hlL kE dI my kt MQ ml kW xL hR Y1;go_enter Tryz.func92,Tryz.ntmps92;go_wp2_with fail;generalize w0.alloc (.cells cl.toArray 24)=w1 at H0 nN aaC ⊢;generalize w0.heap.size=bd at H0 ⊢;refine nN.Z.Z.mono ?_;rintro e w' ⟨rfl,rfl⟩;go_upto_region 4 with fail;refine wp_region_held_drew (S:=AR u r t next g P.length cap i bd x (.slice ba x.b.length bc) cl) (by kernel_rfl) (by exact AR.of H0.Z.drew HX.Z (gw ..)) (λai=> ?_);have H1:=ae H0.Z.drew;clear H0 nN;refine tk 0 18 (.pointer (some ⟨u,0,none⟩)) ai ?_;refine tk 1 19 (.pointer (some ⟨u,0,none⟩)) ai ?_;refine tk 2 20 (.pointer (some ⟨u,3,none⟩)) ai ?_;refine tk 3 21 (.slice (some ⟨g,0,none⟩) P.length cap) ai ?_ (hy:=Or.inl ⟨by rfl,by intro w bK;(try dsimp only at bK);(obtain ⟨⟨⟨q0,q1,q2,q3⟩,q4,q5,q6⟩,-⟩:=bK;go_simp)⟩);refine tk 4 22 (.int .i64 (i:Int)) ai ?_;refine tk 5 23 (.pointer (some ⟨g,i*4,none⟩)) ai ?_;refine tk 6 24 (.pointer (some ⟨g,i*4+3,none⟩)) ai ?_;refine tk 7 25 (.slice ba x.b.length bc) ai ?_ (hy:=Or.inl ⟨by rfl,by intro w bK;(try dsimp only at bK);(obtain ⟨⟨⟨q0,q1,q2,q3⟩,q4,q5,q6⟩,-⟩:=bK;go_simp)⟩);try go_frame
 refine D8 9 27 (.agg (cl).toArray) rfl (by kernel_rfl) (by kernel_rfl) (by kernel_rfl) (λ_ _ _ h=>h) (yieldsIf_load_mid (by rfl) _ _ rfl (bd) (0) rfl (cl) _ (λw' hk=>hk.2) Tryz.underlying24 rfl HI.Z) ai ?_;try go_frame
 refine eR [8] ?_;refine gH 26 λK hK=> ?_;go_simp;go_at_call 90;refine (sG.Z _ (aaC.Z.trans (ah.refl _ _).drew (λ_ _ e=>e))).mono ?_;rintro e w3 ⟨rfl,dN⟩;have H3:=ae (H1.Z.quiet dN);clear dN;refine hK.Z _ _ (by exact AR.of H3.Z HX.Z (gw ..)) (λaK=> ?_);clear hK K;refine tk 10 28 (.bool (!bb)) aK ?_;try go_frame
 refine wpAnyH_done (by kernel_rfl) ?_ _;clear H1 sG ai aK aaC;cases bb with
 | false=>
  have bM:=HR.Z;rw [if_neg (of_decide_eq_false AQ.Z.symm)] at bM;subst bM;clear HR heq;go_wp2;go_ret;exact ⟨rfl,v,lv,_,S,p7.Z,H3.Z.bR⟩
 | true=>
  have bM:=HR.Z;rw [if_pos (of_decide_eq_true AQ.Z.symm)] at bM;have HR:=ae bM;clear bM heq AQ;have h4:=H3.Z.MS (v:= .slice none 0 0) (T:=162) (size:=3) (n:=0) (xs:=[]) ⟨rfl,.inl ⟨rfl,rfl⟩⟩ (ah.refl _ _);have H4:=ae h4;clear h4 H3;go_upto_block 0 with fail;refine wp_cut (λa' w'=>∃ f:Nat->Value,(∃ (ps:List Value) (a:Option Addr) (cc:Nat),f 10= .slice a L.length cc/\dX (λp (c:eX)=>aC w p c.val) ps L/\Own w w' (p8 (.slice a L.length cc) 162 3 L.length (dL ps L)::(bZ r q t nm s v lv++(ay r t u next (.slice (some ⟨g,0,none⟩) P.length cap) P S++(aA bd (.cells cl.toArray 24)::rs)))))/\a'=⟨(.pointer (some ⟨u,0,none⟩):: .int .i64 id:: .agg cl.toArray:: .slice la L.length lc::f 4::f 5:: .pointer (some ⟨bd,0,none⟩)::f 7:: .int .i64 0:: .int .i64 (i:Int)::f 10::f 11::f 12::f 13::f 14::f 15::f 16::f 17::f 18::f 19::f 20::f 21::f 22::f 23::f 24::f 25::f 26::f 27::f 28::f 29::f 30::f 31::f 32::f 33::f 34::f 35::f 36::f 37::f 38::f 39::f 40::f 41::f 42::f 43::f 44::f 45::f 46::f 47::f 48::f 49::f 50::f 51::f 52::f 53::f 54::f 55::f 56::f 57::f 58::f 59::f 60::f 61::f 62::f 63::f 64::f 65::f 66::f 67::f 68::f 69::f 70::f 71::f 72::f 73::f 74::f 75::f 76::f 77::f 78::f 79::f 80::f 81::[]:List Value).toArray,[]⟩) ?CE ?wL;case wL=>
   intro _ _ _ _
   as_aux_lemma=>
    clear HR vp jM Vt Q8 jA;go_wp2_with fail;refine wp_loop (λa' w'=>∃ f:Nat->Value,(∃ (k:Nat) (ps:List Value) (a:Option Addr) (cc:Nat),f 11= .int .i64 (k:Int)/\f 10= .slice a k cc/\k<=L.length/\dX (λp (c:eX)=>aC w p c.val) ps (L.take k)/\Own w w' (p8 (.slice a k cc) 162 3 k (dL ps (L.take k))::(bZ r q t nm s v lv++(ay r t u next (.slice (some ⟨g,0,none⟩) P.length cap) P S++(aA bd (.cells cl.toArray 24)::rs)))))/\a'=⟨(.pointer (some ⟨u,0,none⟩):: .int .i64 id:: .agg cl.toArray:: .slice la L.length lc::f 4::f 5:: .pointer (some ⟨bd,0,none⟩)::f 7:: .int .i64 0:: .int .i64 (i:Int)::f 10::f 11::f 12::f 13::f 14::f 15::f 16::f 17::f 18::f 19::f 20::f 21::f 22::f 23::f 24::f 25::f 26::f 27::f 28::f 29::f 30::f 31::f 32::f 33::f 34::f 35::f 36::f 37::f 38::f 39::f 40::f 41::f 42::f 43::f 44::f 45::f 46::f 47::f 48::f 49::f 50::f 51::f 52::f 53::f 54::f 55::f 56::f 57::f 58::f 59::f 60::f 61::f 62::f 63::f 64::f 65::f 66::f 67::f 68::f 69::f 70::f 71::f 72::f 73::f 74::f 75::f 76::f 77::f 78::f 79::f 80::f 81::[]:List Value).toArray,[]⟩) (λa' _=>L.length - (intOf (a'.tmps.getD 11 undef)).toNat) ?atStart ?round;case atStart=>refine cM ?_ (by kernel_rfl);exact ⟨0,[],none,0,rfl,rfl,fC _,trivial,H4.Z⟩
    case round=>
     intro _ wr aU;obtain ⟨f,hrel,ha⟩:=aU;subst ha;obtain ⟨k,ps,oa,oc,e11,Um,hk,zj,bt⟩:=hrel;rw [e11,Um];clear H4 e11 Um;have k0:=np k;by_cases aX:k <L.length
     ·obtain ⟨ch,sQ⟩:∃ ch,L[k]?=some ch:=⟨L[k],js aX⟩;have E0:L.take (k+1)=L.take k++[ch]:=by obtain ⟨_,he⟩:=List.getElem?_eq_some_iff.1 sQ;rw [wS aX,he]
      obtain ⟨x',pp,rfl,c0,Vr,R1,C4⟩:=HLC.Z.cells sQ;have sR:=bt.keeps;have q0:=aJ c0 sR;have q1:=aJ Vr sR;have q2:=aJ R1 sR;have Xo:=uO (R:=λp (c:eX)=>aC w p c.val) zj (p:=pp) (c:=ch) C4;obtain ⟨pa',pc',rfl,-,-⟩:=C4.aG;have AE:ps.length=(L.take k).length:=zj.length;obtain ⟨a2,k2,w2,aT,h2⟩:=bt.YE ch.key ch.gone (pv:= .slice pa' ch.val.length pc') rfl (by have:=Ob.Z;omega);rw [<-lb ps (L.take k) _ ch AE,<-E0] at h2;rw [<-E0] at Xo;obtain ⟨key,gone,val⟩:=ch;dsimp only at q0 q1 q2 aT h2 Xo C4;have HRN:=ae aT;have HO:=ae h2;have HS:=ae Xo;have kC:=ae aX;have j3:(k:Int) <L.length:=by omega
      have j4:(k:Int) <1000000:=by have:=Ob.Z;omega
      clear aT h2 Xo C4 zj bt AE sR c0 Vr R1 E0 sQ aX hk;go_wp2_with (at_builtin;refine ao rfl _ _ _ _ rfl rfl rfl HRN.Z ?_);refine ⟨?_, ?measure⟩
      ·refine cM ?_ (by kernel_rfl);exact ⟨k+1,_,a2,k2,by simp,rfl,kC.Z,HS.Z,HO.Z⟩
      case measure=>have:=kC.Z;simp [intOf];omega
     ·obtain rfl:k=L.length:=by omega
      rw [jX] at zj bt;have HO:=ae bt;have HS:=ae zj;have j3:¬(L.length:Int) <L.length:=by omega
      clear bt zj aX hk HLC;go_wp2_with fail;refine Met.intro ?_;go_step;refine cM ?_ (by kernel_rfl);exact ⟨ps,oa,oc,rfl,HS.Z,HO.Z⟩
  case CE=>
    intro _ wc aU;obtain ⟨f,hcut,ha⟩:=aU;subst ha;obtain ⟨ps,oa,oc,Um,zj,bt⟩:=hcut;rw [Um];clear Um H4 HLC;have HO:=ae (bt.toEnd);have HS:=ae zj;clear bt zj;go_upto_region 11 with fail;refine wp_region_held_drew (S:=AR u r t next g P.length cap i bd x (.slice ba x.b.length bc) cl) (by kernel_rfl) (by exact AR.of HO.Z.drew HX.Z (by simp)) (λai=> ?_);have H5:=ae HO.Z.drew;clear HO;refine tk 0 42 (.slice oa L.length oc) ai ?_;refine tk 1 43 (.int .i64 id) ai ?_;refine tk 3 45 (.pointer (some ⟨u,0,none⟩)) ai ?_;refine tk 4 46 (.pointer (some ⟨u,0,none⟩)) ai ?_;refine tk 5 47 (.pointer (some ⟨u,3,none⟩)) ai ?_;refine tk 6 48 (.slice (some ⟨g,0,none⟩) P.length cap) ai ?_ (hy:=Or.inl ⟨by rfl,by intro w bK;(try dsimp only at bK);(obtain ⟨⟨⟨q0,q1,q2,q3⟩,q4,q5,q6⟩,-⟩:=bK;go_simp)⟩);refine tk 7 49 (.int .i64 (i:Int)) ai ?_;refine tk 8 50 (.pointer (some ⟨g,i*4,none⟩)) ai ?_;refine tk 9 51 (.pointer (some ⟨g,i*4+1,none⟩)) ai ?_;refine tk 10 52 (.int .i64 x.bo) ai ?_ (hy:=Or.inl ⟨by rfl,by intro w bK;(try dsimp only at bK);(obtain ⟨⟨⟨q0,q1,q2,q3⟩,q4,q5,q6⟩,-⟩:=bK;go_simp)⟩);refine tk 11 53 (.pointer (some ⟨u,0,none⟩)) ai ?_;refine tk 12 54 (.pointer (some ⟨u,0,none⟩)) ai ?_;refine tk 13 55 (.pointer (some ⟨u,3,none⟩)) ai ?_;refine tk 14 56 (.slice (some ⟨g,0,none⟩) P.length cap) ai ?_ (hy:=Or.inl ⟨by rfl,by intro w bK;(try dsimp only at bK);(obtain ⟨⟨⟨q0,q1,q2,q3⟩,q4,q5,q6⟩,-⟩:=bK;go_simp)⟩);refine tk 15 57 (.int .i64 (i:Int)) ai ?_;refine tk 16 58 (.pointer (some ⟨g,i*4,none⟩)) ai ?_;refine tk 17 59 (.pointer (some ⟨g,i*4+2,none⟩)) ai ?_;refine tk 18 60 (.string x.au) ai ?_ (hy:=Or.inl ⟨by rfl,by intro w bK;(try dsimp only at bK);(obtain ⟨⟨⟨q0,q1,q2,q3⟩,q4,q5,q6⟩,-⟩:=bK;go_simp)⟩);refine tk 19 61 (.slice (some ⟨bd,0,none⟩) 32 32) ai ?_ (hy:=Or.inl ⟨by rfl,by intro w bK;(try dsimp only at bK);(have q:=Xn w bd;go_simp)⟩);try go_frame
    refine eR [2] ?_;refine gH 44 λK hK=> ?_;go_simp;go_at_call 24;refine (jA.Z _).mono ?_;rintro e w6 ⟨rfl,gZ⟩;have H6:=ae (H5.Z.quiet gZ);clear gZ;refine hK.Z _ _ (by exact AR.of H6.Z HX.Z (by simp)) (λaK=> ?_);clear hK K;try go_frame
    refine eR [20] ?_;refine gH 62 λK hK=> ?_;go_simp;go_at_call 143;refine (Q8.Z _ _ bd H6.Z (by simp)).mono ?_;rintro e w7 ⟨v1,rfl,fT,jf⟩;obtain ⟨a1,q1,rfl,-,-⟩:=fT.bytes.aG;have H7:=ae (H6.Z.o8 fT jf);clear fT jf;refine hK.Z _ _ (by exact AR.of H7.Z HX.Z (by simp)) (λaI=> ?_);clear hK K;refine tk 21 63 (.agg #[.string ky,.bool false,.slice a1 l1.length q1]) aI ?_;try go_frame
    refine eR [22] ?_;refine gH 64 λK hK=> ?_;go_simp;have h8a:=H7.Z.aaB;obtain ⟨na,nc,w9,aT,h9⟩:=h8a.YE ky false (pv:= .slice a1 l1.length q1) rfl (by have:=Ob.Z;omega);have cV:=ae aT;have H9:=ae h9;have H8:=ae (h8a.quiet ((ah.refl _ w7).alloc (.cells #[.string ky,.bool false,.slice a1 l1.length q1] 162)));clear aT h9 h8a;refine hK.Z _ _ (by exact AR.of (A:=_::bZ r q t nm s v lv) H8.Z HX.Z (by simp)) (λbJ=> ?_);clear hK K;try go_frame
    refine eR [23] ?_;refine D7 65 λK hK=> ?_;refine cP rfl _ _ _ _ rfl rfl rfl cV.Z ?_;refine hK.Z _ _ (by exact AR.of (A:=_::bZ r q t nm s v lv) H9.Z HX.Z (by simp)) (λiD=> ?_);clear hK K;refine tk 24 10 (.slice na (L.length+1) nc) iD ?_;try go_frame
    refine wpAnyH_done (by kernel_rfl) ?_ _;clear H5 H6 H7 H8 ai aK aI bJ iD jA Q8;have pA:L.length+1<=nc/\nc<=maxLen:=by
     rcases (H9.Z.raw gw).2 with ⟨e,e2⟩ | ⟨g',aa6,gp,e,_,_,k1,k2,_⟩
     ·omega
     ·cases e;exact ⟨k1,k2⟩
    have kt:=jM.Z _ _ ps na nc _ HS.Z pA H9.Z.toEnd;have AF:=ae kt;obtain ⟨-,u1,-,-⟩:=(AR.of (A:=_::bZ r q t nm s v lv) H9.Z HX.Z (bd:=bd) (cl:=cl) (by simp)).1.1;clear kt pA H9 jM cV;go_wp2_with fail;refine AF.Z.mono ?_;rintro e w10 ⟨rfl,v10,adt,WO⟩;have GG:=ae WO;clear WO AF u1;by_cases iL:c1=0
    ·subst iL;have bM:=HR.Z;rw [if_pos rfl] at bM;subst bM;have HD:=ae (Vt.Z _ _ _ _ GG.Z);clear GG Vt HR;go_wp2_with fail;refine HD.Z.mono ?_;rintro e w11 ⟨rfl,Hl,C5⟩;have HB:=ae (C5.at (b:=bd) (o:= .cells cl.toArray 24) (by simp)).1;have rV:=ae (vp.Z _ _ _ _ _ _ _ C5);clear C5 HD vp;go_wp2_with (first | (refine wpList_load_row rfl 24 _ rfl bd rfl 24 cl.toArray (0,0) _ HB.Z Tryz.underlying24 rfl HI.Z ?_));refine rV.Z.mono ?_;rintro e w12 ⟨rfl,v12,adu,YD⟩;have Xm:=ae YD;clear YD rV HB;go_wp2;go_ret;exact ⟨rfl,v12,adu,_,S,p7.Z,by rw [if_pos rfl];exact Xm.Z.bR.bR⟩
    ·have bM:=HR.Z;rw [if_neg iL] at bM;subst bM;have b1:(c1 !=0)=true:=by simpa using iL
     clear HR iL Vt vp;go_wp2;go_ret;exact ⟨rfl,v10,adt,_,S,p7.Z,by rw [if_neg (by simp)];exact GG.Z.bR⟩
end
open Go.ChangeMaps (setBlock)
section
variable {w wr:World} {d u st t mp j b:Nat} {nm:aD} {T:TM} {next:Int} {L L1 L2:UL} {rs:List (bB w.heap.size)}
theorem Own.Xp {mv:Value} {cs:List eX} (h:Own w wr rs) (hm:o7 mv ps cs ∈ rs):ps.length=cs.length:=by obtain ⟨F,⟨hx1,-,-⟩,-⟩:=h.mem hm;exact hx1.length
theorem Own.Q9 {mv:Value} {cs:List eX} (h:Own w wr rs) (hm:o7 mv ps cs ∈ rs) (hl:cs.length <1099511627776): bF 53 #[mv] wr (λe w'=>∃ a c,e= .returned (.slice a cs.length c)/\Own w w' (p8 (.slice a cs.length c) 109 3 cs.length (dL ps cs)::rs)):=by
 obtain ⟨F,⟨hx1,wa,hx3⟩,-⟩:=h.mem hm;have AB:∀ q ∈ ps,q.oneCell'=true:=λq hq=>by obtain ⟨i,hi,hq⟩:=List.getElem_of_mem hq;obtain ⟨c,hc,ho,-⟩:=hx1.get (i:=i) (by rw [js hi,hq]);exact TC ho
 refine (DG wa (OL AB) hl).mono ?_;rintro e w' ⟨a,c,rfl,h1,h2⟩;exact ⟨a,c,rfl,h.MS h1 h2⟩
theorem CF {sp q:Nat} (h:Own w w0 (bO d j t b nm T++(bE d u st t mp next (L1++(x,sp,q)::L2)++rs))) (hf:l9 (L1++(x,sp,q)::L2) x.id=some (x,sp,q)) (oC:∀ y ∈ L1++L2,y.1.id≠x.id) (hg:Good T.m n) (hn:n+50 <549755813888) (hs:T.size+1048576<=1099511627776) (hid:x.id=(nx:Int)) (gQ:nx<=4294967295) (AO:x.b.length<=1048576) (J2:0<=x.bo/\x.bo<=1099511627776) (y8:x.au.size<=128) (lQ:dg.length=32) {ma:Option Addr} {mc:Nat} {ML:List eX} (hm:o7 (.slice ma ML.length mc) ps ML ∈ rs) (hML:ML.length <1048576): bF 12 #[.pointer (some ⟨u,0,none⟩),.int .i64 x.id,.agg (dg.map dF).toArray,.slice ma ML.length mc] w0 (Cb w d j t b u st mp nm next L1 L2 x sp q rs (ow T nm (aq nx) x dg ML)):=by
 obtain ⟨ky,kE⟩:=cE (aq nx);have jA:=ae (show ∀ W,bF 23 #[.int .i64 x.id] W (bH W (.string ky)) from λW=>by rw [kE,hid];exact lp W nx nx (IntWalk.u64_in _ (by omega)) (by omega));obtain ⟨cl,dI⟩:∃ cl:List Value,cl=dg.map dF:=⟨_,rfl⟩;have HI:=ae (show (Tryz.prog.info? 39).map (·.size)=some cl.length by rw [dI,io,lQ];kernel_rfl);have AN:=ae (show (Tryz.prog.info? 43).map (·.size)=some ([.string x.au,.int .i64 x.bo,.int .i64 (x.b.length:Int)]:List Value).length by kernel_rfl);obtain ⟨R,hR⟩:=exp (ow T nm (aq nx) x dg ML);rw [hR,<-dI];unfold ow at hR;rw [<-kE] at hR;obtain ⟨l1,my⟩:=cE (cD x.au x.bo.toNat dg);rw [<-my] at hR;obtain ⟨ap,kt⟩:=cE (bL T nm (ML++[⟨ky,false,l1⟩]));rw [<-kt] at hR;have DH:Good ap.2.m (n+1):=by rw [kt];exact mT hg nm _
 have Yi:ap.2.size<=1099511627776:=by rw [kt];exact kT (mU T nm _) hs
 obtain ⟨cr,ml⟩:=cE (eo ap.2 nm ky dg);rw [<-ml] at hR;have vp:=ae (show ∀ W (M:List (bB w.heap.size)),Own w W (bO d j t b nm ap.2++(bE d u st t mp next (L1++L2)++M))->bF 54 #[.pointer (some ⟨u,0,none⟩),.int .i64 x.id,.agg cl.toArray] W (rK w d j t b u st mp nm next (L1++L2) M cr) from λW M hW=>by rw [ml,dI,kE];exact rL hW DH (by omega) Yi hid gQ lQ)
 have J0:=ae (show ∀ W (M:List (bB w.heap.size)) (bd:Nat),Own w W M->aA bd (.cells cl.toArray 39) ∈ M->bF 43 #[.agg #[.string x.au,.int .i64 x.bo,.int .i64 (x.b.length:Int)],.slice (some ⟨bd,0,none⟩) 32 32] W (nW W l1) from λW M bd hW hm=>by rw [my];exact wB x.au x.bo _ x.bo.toNat (by rw [IntWalk.u64_in _ (by omega)];omega) (by omega) (yU (by rw [<-dI];exact (hW.at hm).1) lQ) (by omega) (by omega))
 have cU:ps.length=ML.length:=h.Xp (K3 _ (K3 _ hm));have jM:=ae (show ∀ W (M:List (bB w.heap.size)) (a:Option Addr) (c:Nat) (v1:Value),ML.length+1<=c/\c<=maxLen->o7 (.slice ma ML.length mc) ps ML ∈ M->Own w W (bO d j t b nm T++(bE d u st t mp next (L1++(x,sp,q)::L2)++(p8 (.slice a (ML.length+1) c) 109 3 (ML.length+1) (dL ps ML++[.string ky,.bool false,v1])::bS v1 l1::M)))->
   bF 42 #[.pointer (some ⟨t,0,none⟩),.slice a (ML.length+1) c] W (rK w d j t b u st mp nm next (L1++(x,sp,q)::L2) M ap) from λW M a c v1 hc hmM hW=>by
  rw [<-lb ps ML v1 ⟨ky,false,l1⟩ cU] at hW;have AE:ML.length+1=(ML++[(⟨ky,false,l1⟩:eX)]).length:=by simp
  rw [AE] at hW hc ⊢;have:=nb hW hg (by omega) (by omega) (a:=a) (c:=c) (l:=ML++[⟨ky,false,l1⟩]) (λwr ls ho=>WK (ho.raw (v:= .slice a (ML++[(⟨ky,false,l1⟩:eX)]).length c) (T:=109) (size:=3) (n:=(ML++[(⟨ky,false,l1⟩:eX)]).length) (xs:=dL (ps++[v1]) (ML++[⟨ky,false,l1⟩])) (by simp)) (uO (ho.abQ (v:= .slice ma ML.length mc) (ps:=ps) (cs:=ML) (by simp [hmM])).1 (ho.bytes (v:=v1) (l:=l1) (by simp)).1)) hc.1 hc.2;rw [<-kt] at this;refine this.mono ?_;rintro e w' ⟨he,h⟩;exact ⟨he,h.bR.bR⟩)
 have rV:=ae (show ∀ W (M:List (bB w.heap.size)),o7 (.slice ma ML.length mc) ps ML ∈ M->Own w W (bO d j t b nm T++(bE d u st t mp next (L1++(x,sp,q)::L2)++M))->bF 53 #[.slice ma ML.length mc] W (λe w'=>∃ a c,e= .returned (.slice a ML.length c)/\Own w w' (bO d j t b nm T++(bE d u st t mp next (L1++(x,sp,q)::L2)++(p8 (.slice a ML.length c) 109 3 ML.length (dL ps ML)::M)))) from λW M hmM hW=>by refine (hW.Q9 (K3 _ (K3 _ hmM)) (by omega)).mono ?_;rintro e w' ⟨a,c,rfl,h⟩;exact ⟨a,c,rfl,h.toEnd⟩)
 have HMM:=ae hm;have HML:=ae hML;have fb:=λ(W:World) (M:List (bB w.heap.size)) (hW:Own w W (bO d j t b nm T++(bE d u st t mp next (L1++(x,sp,q)::L2)++M)))=>mS (L:=L1++(x,sp,q)::L2) hW (u:=u) (d:=d) (st:=st) (t:=t) (mp:=mp) (next:=next) (by simp [bE]) (by simp [bE]) x.id;unfold pL at fb;rw [hf] at fb;dsimp only at fb;have nN:=ae fb;have heq:=λW=>tN (ei x.b) dg (dz _) lQ W;obtain ⟨sm,kW⟩:∃ sm:List Value,sm=(ei x.b).map dF:=⟨_,rfl⟩;rw [<-kW,<-dI] at heq;have sG:=ae (show ∀ W (M:List (bB w.heap.size)),Own w W (bO d j t b nm T++(bE d u st t mp next (L1++(x,sp,q)::L2)++M))->bF 52 #[.pointer (some ⟨q,0,none⟩)] W (λe w'=>e= .returned (.agg sm.toArray)/\ak W w') from λW M hW=>by rw [kW];exact wl (hW.focus.stat (q:=q) (l:=x.b) (by simp)).1 (by omega))
 have HLV:=ae (λ(W:World) (T':TM) (M:List (bB w.heap.size)) (hW:Own w W (bO d j t b nm T'++(bE d u st t mp next (L1++(x,sp,q)::L2)++M)))=>Own.leave hW oC);have H0:=ae (h.gS (.cells cl.toArray 39));obtain ⟨bb,xL⟩:=cE (decide (ei x.b=dg));rw [<-xL] at heq;have AQ:=ae xL;obtain ⟨c1,T1⟩:=ap;obtain ⟨c2,T2⟩:=cr;dsimp only at hR vp jM;have HR:=ae hR;clear cU hm hML fb hf oC hg hn hs hid gQ AO J2 y8 lQ kE dI my kt DH Yi ml kW xL hR h;go_enter Tryz.func12,Tryz.ntmps12;go_wp2_with fail;generalize w0.alloc (.cells cl.toArray 39)=w1 at H0 ⊢;generalize w0.heap.size=bd at H0 ⊢;refine (nN.Z _ _ H0.Z).Z.mono ?_;rintro e w' ⟨rfl,rfl⟩;go_upto_region 4 with fail;refine wp_region_held_drew (S:=ou u d st t next mp bd sp q cl x) (by kernel_rfl) (by exact ou.of H0.Z.drew (gw ..)) (λai=> ?_);have H1:=ae H0.Z.drew;clear H0 nN;refine tk 0 24 (.pointer (some ⟨sp,0,none⟩)) ai ?_;refine tk 1 25 (.pointer (some ⟨sp,0,none⟩)) ai ?_;refine tk 2 26 (.pointer (some ⟨sp,3,none⟩)) ai ?_;refine tk 3 27 (.pointer (some ⟨q,0,none⟩)) ai ?_ (hy:=Or.inl ⟨by rfl,by intro w bK;(try dsimp only at bK);(have q0:=bK.2.1;go_simp)⟩);try go_frame
 refine D8 5 29 (.agg (cl).toArray) rfl (by kernel_rfl) (by kernel_rfl) (by kernel_rfl) (λ_ _ _ h=>h) (yieldsIf_load_mid (by rfl) _ _ rfl (bd) (0) rfl (cl) _ (λw' hk=>hk.1.2) Tryz.underlying39 rfl HI.Z) ai ?_;try go_frame
 refine eR [4] ?_;refine gH 28 λK hK=> ?_;go_simp;go_at_call 52;refine (sG.Z _ _ H1.Z).mono ?_;rintro e w2 ⟨rfl,cg⟩;have H2:=ae (H1.Z.quiet cg);refine hK.Z _ _ (by exact ou.of H2.Z (gw ..)) (λaK=> ?_);clear hK K;refine tk 6 30 (.bool (!bb)) aK ?_;refine tk 7 23 (.bool (!bb)) aK ?_;try go_frame
 refine wpAnyH_done (by kernel_rfl) ?_ _;cases bb with
 | false=>
  have bM:=HR.Z;rw [if_neg (of_decide_eq_false AQ.Z.symm)] at bM;subst bM;clear HR heq;go_wp2;go_ret;exact ⟨rfl,H2.Z.bR⟩
 | true=>
  have bM:=HR.Z;rw [if_pos (of_decide_eq_true AQ.Z.symm)] at bM;have HR:=ae bM;clear bM heq;have qy:∀ W,(Instr.sliceAt 39 (.pointer (some ⟨bd,0,none⟩)) none none none).run Tryz.prog W= .ok (.slice (some ⟨bd,0,none⟩) 32 32) W:=λW=>by go_simp
  go_upto_region 6 with fail;refine wp_region_held_drew (S:=ou u d st t next mp bd sp q cl x) (by kernel_rfl) (by exact ou.of H2.Z.drew (gw ..)) (λai=> ?_);have H3:=ae H2.Z.drew;clear H2;refine tk 0 31 (.slice ma ML.length mc) ai ?_;refine tk 2 33 (.int .i64 x.id) ai ?_;refine tk 4 35 (.pointer (some ⟨sp,0,none⟩)) ai ?_;refine tk 5 36 (.pointer (some ⟨sp,0,none⟩)) ai ?_;refine tk 6 37 (.pointer (some ⟨sp,0,none⟩)) ai ?_;try go_frame
  refine D8 7 38 (.agg ([.string x.au,.int .i64 x.bo,.int .i64 (x.b.length:Int)]).toArray) rfl (by kernel_rfl) (by kernel_rfl) (by kernel_rfl) (λ_ _ _ h=>h) (yieldsIf_load_mid (by rfl) _ _ rfl (sp) (0) rfl ([.string x.au,.int .i64 x.bo,.int .i64 (x.b.length:Int)]) _ (λw' hk=>hk.2.2) Tryz.underlying43 rfl AN.Z) ai ?_;refine tk 8 39 (.slice (some ⟨bd,0,none⟩) 32 32) ai ?_;try go_frame
  refine eR [1] ?_;refine gH 32 λK hK=> ?_;go_simp;go_at_call 53;refine (rV.Z _ _ (by simp [HMM.Z]) H3.Z).mono ?_;rintro e w3 ⟨ca,cc,rfl,h3⟩;have H33:=ae h3;clear h3 H3;refine hK.Z _ _ (by exact ou.of H33.Z (by simp)) (λaK=> ?_);clear hK K;try go_frame
  refine eR [3] ?_;refine gH 34 λK hK=> ?_;go_simp;go_at_call 23;refine (jA.Z _).mono ?_;rintro e w4 ⟨rfl,eA⟩;have H4:=ae (H33.Z.quiet eA);refine hK.Z _ _ (by exact ou.of H4.Z (by simp)) (λaI=> ?_);clear hK K;try go_frame
  refine eR [9] ?_;refine gH 40 λK hK=> ?_;go_simp;go_at_call 43;refine (J0.Z _ _ bd H4.Z (by simp)).mono ?_;rintro e w5 ⟨v1,rfl,fT,fB⟩;obtain ⟨a1,q1,rfl,-,-⟩:=fT.bytes.aG;have H5:=ae (H4.Z.o8 fT fB);clear fT;refine hK.Z _ _ (by exact ou.of H5.Z (by simp)) (λbJ=> ?_);clear hK K;refine tk 10 41 (.agg #[.string ky,.bool false,.slice a1 l1.length q1]) bJ ?_;try go_frame
  refine eR [11] ?_;refine gH 42 λK hK=> ?_;go_simp;obtain ⟨xa,xc,w6,aT,h6⟩:=(H5.Z.Kk).WL ky false (pv:= .slice a1 l1.length q1) rfl (by have:=HML.Z;omega);have pA:ML.length+1<=xc/\xc<=maxLen:=by
   rcases (h6.raw gw).2 with ⟨e,e2⟩ | ⟨g',cap,gp,e,_,_,k1,k2,_⟩
   ·omega
   ·cases e;exact ⟨k1,k2⟩
  have HCM:=ae pA;have H6:=ae h6.toEnd;clear h6 pA;refine hK.Z _ _ (by exact ou.keep bJ ((ah.refl _ _).alloc _)) (λiD=> ?_);clear hK K;try go_frame
  refine eR [12] ?_;refine D7 43 λK hK=> ?_;refine cP rfl _ _ _ _ rfl rfl rfl aT ?_;refine hK.Z _ _ (by exact ou.of H6.Z (by simp)) (λmi=> ?_);clear hK K;refine tk 13 11 (.slice xa (ML.length+1) xc) mi ?_;try go_frame
  refine wpAnyH_done (by kernel_rfl) ?_ _;clear aT qy;obtain ⟨-,-,k2,-,-⟩:=eW (H6.Z.at (b:=u) (o:=iX d st t next mp) (by simp [bE])).1;go_wp2_with fail;refine (jM.Z _ _ _ _ _ HCM.Z (by simp [HMM.Z]) H6.Z).mono ?_;rintro e w7 ⟨rfl,h7⟩;have H7:=ae h7;clear h7 k2 H6;by_cases hc:c1=0
  ·subst hc;have bM:=HR.Z;rw [if_pos rfl] at bM;subst bM;obtain ⟨-,-,-,-,k4⟩:=eW (H7.Z.at (b:=u) (o:=iX d st t next mp) (by simp [bE])).1;obtain ⟨w8,Bi,h8⟩:=HLV.Z _ _ _ H7.Z;have HD:=ae Bi;have H8:=ae h8;have HB:=ae (h8.at (b:=bd) (o:= .cells cl.toArray 39) (by simp)).1;have HIA:=ae (show (Tryz.prog.info? 39).map (·.size)=some cl.toArray.size by rw [HI.Z];simp);clear Bi h8 HR;go_wp2_with (first | (at_delete;refine iu rfl _ _ _ _ rfl rfl rfl HD.Z ?_) | (refine wpList_load_row rfl 39 _ rfl bd rfl 39 cl.toArray (0,0) _ HB.Z Tryz.underlying39 rfl HIA.Z ?_));refine (vp.Z _ _ H8.Z).mono ?_;rintro e w9 ⟨rfl,h9⟩;have H9:=ae h9.bR;clear h9 H8 HD HB k4;go_wp2;go_ret;exact ⟨rfl,H9.Z⟩
  ·have bM:=HR.Z;rw [if_neg hc] at bM;subst bM;have b1:(c1 !=0)=true:=by simpa using hc
   clear HR hc;go_wp2;go_ret;exact ⟨rfl,H7.Z.bR⟩
end
def ut (nm:aD) (aN:Int):List eT->TM->List eT->Nat->Int × Int × TM × List eT
 | [],T,L,n=>((n:Int),0,T,L)
 | x::l,T,L,n=>
  if x.bo<=aN then
   (if (eK T nm (aq x.id.toNat)).1=0 then ut nm aN l (eK T nm (aq x.id.toNat)).2.1 (L.filter (λy=>decide (y.id≠x.id))) (n+1)
    else (0,(eK T nm (aq x.id.toNat)).1,(eK T nm (aq x.id.toNat)).2.1,if (eK T nm (aq x.id.toNat)).2.2=true then L.filter (λy=>decide (y.id≠x.id)) else L))
  else ut nm aN l T L n
def sq (nm:aD) (aN:Int):List eT->DS->List eT->Nat->Int × Int × DS × List eT
 | [],s,L,n=>((n:Int),0,s,L)
 | x::l,s,L,n=>
  if x.bo<=aN then
   (if (fM s nm (aq x.id.toNat)).1=0 then sq nm aN l (fM s nm (aq x.id.toNat)).2.1 (L.filter (λy=>decide (y.id≠x.id))) (n+1)
    else (0,(fM s nm (aq x.id.toNat)).1,(fM s nm (aq x.id.toNat)).2.1,if (fM s nm (aq x.id.toNat)).2.2=true then L.filter (λy=>decide (y.id≠x.id)) else L))
  else sq nm aN l s L n
theorem CG (nm:aD) (aN:Int):∀ (l:List eT) (s:DS) (L:List eT) (n:Nat),ut nm aN l s.tm L n=((sq nm aN l s L n).1,(sq nm aN l s L n).2.1,(sq nm aN l s L n).2.2.1.tm,(sq nm aN l s L n).2.2.2)
 | [],s,L,n=>rfl
 | x::l,s,L,n=>by
  rw [ut,sq,Al];dsimp only;split
  ·split
   ·exact CG nm aN l _ _ _
   ·rfl
  ·exact CG nm aN l _ _ _
theorem DT {nm ky:aD} (h:(fM s nm ky).1=0):(fM s nm ky).2.2=true:=by
 unfold fM at h ⊢;split
 ·split
  ·rfl
  ·rfl
 ·rename_i h1;rw [if_neg h1] at h;exact absurd h h1
theorem DK.cancel (h:DK s n c) (nm ky:aD):DK (fM s nm ky).2.1 (n+2) (c+1):=by
 have h1:=h.app nm [⟨ky,true,[]⟩];have h2:=h1.tidy.dZ ky;unfold fM;split
 ·split
  ·exact h1.lW h2.sync
  ·exact h1.lW h2
 ·exact h1.mono (by omega) (by omega)
theorem Un {L:List eT} {y:eT} (h:y ∈ L):∃ i:Nat,ui L y.id=(i:Int):=by
 cases hf:L.findIdx? (λx=>decide (x.id=y.id)) with
 | none=>
  rw [Vw] at hf;have:=hf y h;simp at this
 | some i=>exact ⟨i,by unfold ui;rw [hf]⟩
theorem pd (P:List (eT × Value)) (id:Int):(others P id).map (·.1)=(P.map (·.1)).filter (λy=>decide (y.id≠id)):=by unfold others;rw [List.filter_map];rfl
section
variable {w wr:World} {r q t u:Nat} {nm:aD} {s:DS} {v lv vL:Value} {next:Int} {P:List (eT × Value)} {S:List (Value × aH)} {rs:List (bB w.heap.size)}
theorem Own.qR {W:World} {A B M:List (bB w.heap.size)}:∀ {G:List (bB w.heap.size)},Own w W (A++(B++(G++M)))->Own w W (A++(B++M))
 | [],h=>h
 | x::G,h=>Own.qR (G:=G) (Own.bR (x:=x) h)
theorem mV.others (h:mV S P) (id:Int):mV S (others P id):=λp hp=>h p (List.mem_filter.1 hp).1
def NF (w:World) (r q t u:Nat) (nm:aD) (next:Int) (rs:List (bB w.heap.size)) (res:Int × Int × DS × List eT) (e:Ending) (w':World):Prop:=
 e= .returned (.tuple #[.int .i64 res.1,.int .i64 res.2.1])/\∃ v lv vL P S,P.map (·.1)=res.2.2.2/\mV S P/\Own w w' (bZ r q t nm res.2.2.1 v lv++(ay r t u next vL P S++rs))
theorem AT (h:Own w w0 (bZ r q t nm s v lv++(ay r t u next vL P S++rs))) (fK:mV S P) (hl:P.length <100000) (hk:DK s n c) (hn:n+2*P.length+60 <549755813888) (hc:c+P.length+30<=900000) (oC:((P.map (·.1)).map (·.id)).Nodup) (hid:∀ y ∈ P.map (·.1),∃ nx:Nat,y.id=(nx:Int)/\nx<=4294967295) (aN:Int): bF 94 #[.pointer (some ⟨u,0,none⟩),.int .i64 aN] w0 (NF w r q t u nm next rs (sq nm aN (P.map (·.1)) s (P.map (·.1)) 0)):=by
 obtain ⟨⟨va,vc,rfl,-,-⟩,-⟩:=h.qP (v:=vL) (P:=P) (by simp [ay]);obtain ⟨R,hR⟩:=exp (sq nm aN (P.map (·.1)) s (P.map (·.1)) 0);rw [hR];have HR:=ae hR;have H0:=ae h;have p7:=ae fK;have Kw:=ae hk;have HN:=ae (And.intro hn hc);have HL:=ae hl;have Yr:=ae oC;have HID:=ae hid;obtain ⟨-,-,-,k3⟩:=kR.of h;have j9:(P.length:Int) <100000:=by omega
 clear hR h fK hl hk hn hc oC hid;go_enter Tryz.func94,Tryz.ntmps94;go_wp2_with fail;go_loopw [7,8] (λnv iv wx=>∃ (k cnt:Nat) (s':DS) (v' xZ Hl:Value) (P':List (eT × Value)) (G:List (bB w.heap.size)),nv= .int .i64 (cnt:Int)/\iv= .int .i64 (k:Int)/\k<=P.length/\cnt<=k/\sq nm aN ((P.map (·.1)).drop k) s' (P'.map (·.1)) cnt=R/\DK s' (n+2*k) (c+k)/\mV S P'/\P'.length<=P.length/\(∀ y ∈ (P.map (·.1)).drop k,y ∈ P'.map (·.1))/\
  ((Hl= .slice va P.length vc/\P'=P)\/Cn (.slice va P.length vc) P ∈ G)/\Own w wx (bZ r q t nm s' v' xZ++(ay r t u next Hl P' S++(G++rs)))) (λ_ iv _=>P.length - (intOf iv).toNat)
 case atStart=>exact ⟨0,0,s,v,lv,_,P,[],rfl,rfl,fC _,fC _,HR.Z,Kw.Z,p7.Z,eQ _,λy hy=>hy,.inl ⟨rfl,rfl⟩,H0.Z⟩
 case round=>
  obtain ⟨k,cnt,s',v',xZ,Hl,P',G,rfl,rfl,hk,AJ,mW,A7,NG,hlp,pT,fN,bt⟩:=hrel;clear k3 H0 p7 Kw;have k0:=np k;by_cases aX:k <P.length
  ·obtain ⟨⟨x,bv⟩,hx⟩:∃ p,P[k]?=some p:=⟨_,js aX⟩;have wa:(P.map (·.1))[k]?=some x:=by simp [hx]
   have Uo:Cn (.slice va P.length vc) P ∈ bZ r q t nm s' v' xZ++(ay r t u next Hl P' S++(G++rs)):=by
    rcases fN with ⟨e1,e2⟩ | h
    ·rw [e1,e2];simp [ay]
    ·exact K3 _ (K3 _ (List.mem_append_left _ h))
   obtain ⟨g,c',e,q0,q1,-,-⟩:=(bt.qP Uo).2 k x bv hx;cases e;have hdr:(P.map (·.1)).drop k=x::(P.map (·.1)).drop (k+1):=by obtain ⟨hi,e⟩:=List.getElem?_eq_some_iff.1 wa;rw [pQ hi,e]
   rw [hdr] at mW pT;rw [sq] at mW;have j1:(k:Int) <P.length:=by omega
   have kC:=ae aX;by_cases ht:x.bo<=aN
   ·rw [if_pos ht] at mW;obtain ⟨i,fb⟩:=Un (pT x (gw ..));obtain ⟨nx,Dj,gQ⟩:=HID.Z x (kx wa);have y9:=sk bt NG (by have:=HL.Z;omega) A7 (by have:=HN.Z;omega) (by have:=HN.Z;omega) Dj gQ fb;have e2:x.id.toNat=nx:=by omega
    rw [e2] at mW;have pD:=DT (s:=s') (nm:=nm) (ky:=aq nx);have NH:=A7.cancel nm (aq nx);have Zt:=ae (show ∀ y ∈ (P.map (·.1)).drop (k+1),y.id≠x.id from λy hy e=>by have h1:=Yr.Z;have h2:(((P.map (·.1)).drop k).map (·.id)).Nodup:=((List.drop_sublist k _).map _).nodup h1;rw [hdr,kz] at h2;exact (List.nodup_cons.1 h2).1 (List.mem_map.2 ⟨y,hy,e⟩))
    generalize fM s' nm (aq nx)=ca at mW y9 pD NH;obtain ⟨cc,sc,fl⟩:=ca;dsimp only at mW y9 pD NH;have HC:=ae y9;have NI:=ae mW;have TT:=ae pD;have KY:=ae NH;have HM:=ae pT;have HO:=ae NG;have HLP:=ae hlp;have HRW:=ae fN;have RI:=ae AJ;have j5:(cnt:Int)<=100000:=by have:=HL.Z;omega
    clear hx wa hdr mW pT bt NG A7 fN Uo aX hk fb y9 pD NH hlp gQ Dj e2 AJ;go_wp2_with fail;refine HC.Z.mono ?_;rintro e w2 ⟨rfl,v2,Ky,h2⟩;dsimp only at h2 ⊢;by_cases qg:cc=0
    ·subst qg;have bM:=NI.Z;rw [if_pos rfl] at bM;have hft:fl=true:=TT.Z rfl;subst hft;rcases h2 with ⟨e,-⟩ | ⟨-,vn,h2⟩
     ·cases e
     have NI:=ae bM;have H2:=ae h2;clear bM h2 HC TT;go_wp2;go_roundw;case rel=>
      refine ⟨k+1,cnt+1,sc,v2,Ky,vn,others P' x.id,Cn Hl P'::G,by simp,by simp,kC.Z,by have:=RI.Z;omega, ?_,KY.Z.mono (by omega) (by omega),HO.Z.others _,kT (Fu _ _) HLP.Z,λy hy=> ?_, ?_,H2.Z⟩
      ·rw [pd];exact NI.Z
      ·rw [pd];exact List.mem_filter.2 ⟨HM.Z y (nO _ hy),by simpa using Zt.Z y hy⟩
      ·rcases HRW.Z with ⟨e1,e2⟩ | h
       ·rw [e1,e2];exact .inr (gw ..)
       ·exact .inr (nO _ h)
     case measure=>have:=kC.Z;simp [intOf];omega
    ·have bM:=NI.Z;rw [if_neg qg] at bM;have b1:(cc !=0)=true:=by simpa using qg
     have HF:=ae (show NF w r q t u nm next rs R (.returned (.tuple #[.int .i64 0,.int .i64 cc])) w2 from by
      rw [<-bM];rcases h2 with ⟨e,h2⟩ | ⟨e,vn,h2⟩
      ·exact ⟨rfl,v2,Ky,_,P',S,by rw [e];rfl,HO.Z,h2.qR⟩
      ·exact ⟨rfl,v2,Ky,vn,_,S,by rw [e,pd];rfl,HO.Z.others x.id,Own.qR (G:=_::G) h2⟩)
     clear NI qg h2 HC TT bM;go_wp2;go_ret2;exact HF.Z
   ·rw [if_neg ht] at mW;have NI:=ae mW;have HM:=ae pT;have HO:=ae NG;have HLP:=ae hlp;have HRW:=ae fN;have QP:=ae bt;have HD:=ae A7;have RI:=ae AJ;clear hx wa hdr mW pT bt NG A7 fN Uo aX hk hlp AJ;go_wp2;go_roundw;case rel=>exact ⟨k+1,cnt,s',v',xZ,Hl,P',G,rfl,by simp,kC.Z,by have:=RI.Z;omega,NI.Z,HD.Z.mono (by omega) (by omega),HO.Z,HLP.Z,λy hy=>HM.Z y (nO _ hy),HRW.Z,QP.Z⟩
    case measure=>have:=kC.Z;simp [intOf];omega
  ·obtain rfl:k=P.length:=by omega
   have hdr:(P.map (·.1)).drop P.length=[]:=List.drop_eq_nil_of_le (by simp);rw [hdr,sq] at mW;subst mW;have j2:¬(P.length:Int) <P.length:=by omega
   have HF:=ae (show NF w r q t u nm next rs (((cnt:Int),0,s',P'.map (·.1)):Int × Int × DS × List eT) (.returned (.tuple #[.int .i64 (cnt:Int),.int .i64 0])) _ from ⟨rfl,v',xZ,Hl,P',S,rfl,NG,bt.qR⟩);clear hdr pT bt NG A7 fN aX hk hlp AJ;go_wp2;go_ret2;exact HF.Z
end
def ld (s:DS) (nm:aD) (x:UE):Int × DS × Option eT:=
 if x.e.length=32 then ((jV s nm (aq x.id) x.e).1,(jV s nm (aq x.id) x.e).2,none)
 else if aF s.m (aq x.id)=0 then (0,s,some ⟨(x.id:Int),x.au,x.bo,cW s.m (aq x.id)⟩)
 else (200,s,none)
theorem Kz (s:DS) (nm:aD) (x:UE):cO s.tm nm x=((ld s nm x).1,(ld s nm x).2.1.tm,(ld s nm x).2.2):=by
 unfold ld cO;rw [Cx];have e:s.tm.m=s.m:=rfl;rw [e];repeat' split
 all_goals rfl
section
variable {w wr:World} {r q t u:Nat} {nm:aD} {s:DS} {v lv vL:Value} {next:Int} {P:List (eT × Value)} {S:List (Value × aH)} {rs:List (bB w.heap.size)}
def NJ (w:World) (r q t u:Nat) (nm:aD) (next:Int) (L:List eT) (rs:List (bB w.heap.size)) (res:Int × DS × Option eT) (e:Ending) (w':World):Prop:=
 e= .returned (.int .i64 res.1)/\∃ v lv vL P S,P.map (·.1)=L++res.2.2.toList/\mV S P/\Own w w' (bZ r q t nm res.2.1 v lv++(ay r t u next vL P S++rs))
theorem Ra {s:aD} {h:aD} (h2:2<=s.size) (e:s.extract 2 s.size=h):(Instr.sliceAt 9 (.string s) (some (.int .i64 2)) none none).run Tryz.prog W= .ok (.string h) W:=by rw [run_sliceAt_string _ _ _ _ _ _ Tryz.underlying9,run_slice_string_l W 9 s Tryz.underlying9 .i64 (2:Int) (by omega) (by omega)];have e1:((2:Int)).toNat=2:=rfl;rw [e1,e]
structure aaD (W:World) (vv:Value) (x:UE) (K:Nat):Prop where
 aG:∃ vx vc,vv= .slice (some vx) (9+K+x.au.size) vc/\9+K+x.au.size<=vc/\vc<=maxLen/\W.cell? vx=some (.int .u8 (K:Int))/\
  (∀ i (d:UInt8),x.e[i]?=some d->W.cell? (vx.add (1+i))=some (.int .u8 (d.toNat:Int)))/\
  (∃ a1 c1,(∀ W,(Instr.sliceAt 22 vv (some (.int .i64 ((1+K:Nat):Int))) (some (.int .i64 ((9+K:Nat):Int))) none).run Tryz.prog W= .ok (.slice a1 8 c1) W)/\aC W (.slice a1 8 c1) (aL x.bo.toNat 8))/\
  (∃ a2 c2,(∀ W,(Instr.sliceAt 22 vv (some (.int .i64 ((9+K:Nat):Int))) none none).run Tryz.prog W= .ok (.slice a2 x.au.size c2) W)/\aC W (.slice a2 x.au.size c2) x.au.toList)
theorem aaD.of {vv:Value} {x:UE} {K:Nat} (hx:wI x) (hK:K=x.e.length) (h:aC W vv (kP x)):aaD W vv x K:=by
 have cU:=pP x;have cg:=hx.aal;obtain ⟨Kb,TO,Gl⟩:=Cj x;have Bg:0 <x.au.size:=wJ hx.au;obtain ⟨a,vc,rfl,wY,pA⟩:=h.aG;obtain ⟨vx,rfl,xg⟩:=h.cell (k:=0) rfl (by omega);rw [<-hK] at cU Kb TO Gl;have hl:(kP x).length=9+K+x.au.size:=cU;have h0:(kP x)[0]'(by omega)=UInt8.ofNat K:=by rw [js (by omega)] at Gl;exact K7 Gl
 have YF:=h.SC (1+K) 8 (by omega);rw [Kb,List.take_left' (ax _ _)] at YF;have hsA:=λW=>BI W (some vx) (kP x).length vc (1+K) 8 (by omega);obtain ⟨a2,c2,hsB,hcB⟩:=oX h (9+K) (by omega);have eB:(kP x).drop (9+K)=x.au.toList:=by rw [show 9+K=1+K+8 by omega,<-K8,Kb,List.drop_left' (ax _ _)]
 rw [eB] at hcB;have eL:(kP x).length - (9+K)=x.au.size:=by omega
 rw [eL] at hsB hcB;refine ⟨vx,vc,by rw [hl],by omega,pA, ?_,λi d hd=> ?_,⟨_,_,λW=> ?_,YF⟩,⟨a2,c2,hsB,hcB⟩⟩
 ·rw [h0,Addr.add_zero'] at xg;rw [xg];have:(UInt8.ofNat K).toNat=K:=by simp;omega
  rw [this]
 ·have hi:=(List.getElem?_eq_some_iff.1 hd).1;have uw:(kP x)[1+i]?=some d:=by
   have h3:(((kP x).drop 1).take K)[i]?=some d:=by rw [TO];exact hd
   rw [Bc,if_pos (by omega),O6] at h3;exact h3
  obtain ⟨y,ey,hcy⟩:=h.cell (k:=1+i) rfl (List.getElem?_eq_some_iff.1 uw).1;cases ey;rw [hcy];have:=(List.getElem?_eq_some_iff.1 uw).2;rw [this]
 ·have:=hsA W;rw [show (((1+K:Nat):Int)+((8:Nat):Int))=((9+K:Nat):Int) by omega] at this;exact this
theorem Own.Xq (h:Own w wr (Cn v P::rs)) (x:eT) (JW:bv.oneCell'=true) (hn:P.length <1099511627776): ∃ a c w',(Builtin.append_ #[97,97] 97 #[v,.slice (some ⟨wr.heap.size,0,none⟩) 1 1]).run Tryz.prog (wr.alloc (.cells #[.int .i64 x.id,.int .i64 x.bo,.string x.au,bv] 189))= .ok (.slice a (P.length+1) c) w'/\ Own w w' (Cn (.slice a (P.length+1) c) (P++[(x,bv)])::rs)/\∀ (b:Nat) (gp:Array Value) (T:TypeId),wr.heap[b]?=some (.cells gp T (0,0))->T≠189->w'.heap[b]?=wr.heap[b]?:=by
 obtain ⟨a,c,w',aT,h2⟩:=h.Nn x JW hn;refine ⟨a,c,w',aT,h2,λb gp T hb hT=> ?_⟩;have h1:=h.quiet ((ah.refl _ wr).alloc (.cells #[.int .i64 x.id,.int .i64 x.bo,.string x.au,bv] 189));obtain ⟨F,⟨h3,h4⟩,-,-⟩:=h1.jT;obtain ⟨i0,hi,yW,iH,jO⟩:=info_parts Fh;obtain ⟨v'',w'',iY,-,hg,-,-⟩:=run_append_own_at (P:=Tryz.prog) (wr.alloc (.cells #[.int .i64 x.id,.int .i64 x.bo,.string x.au,bv] 189)) 0 97 97 189 i0 _ 4 56 Tryz.underlying97 hi yW iH jO rfl (by omega) v P.length (fG P) h3 ⟨wr.heap.size,0,none⟩ 1 1 [.int .i64 x.id,.int .i64 x.bo,.string x.au,bv] rfl
  (λj u hu=>by rw [iV,fw];exact ag (heap_alloc_new wr _) (by simpa using hu))
  (by intro u hu;simp at hu;rcases hu with rfl | rfl | rfl | rfl;rfl;rfl;rfl;exact JW) (by unfold maxLen;omega) (by omega) (fC _)
 rw [aT] at iY;cases iY;have aX:=bm hb;have dO:¬v.ownBlock=some b:=λe=>by obtain ⟨aa8,sw⟩:=dp h3 e;have h5:(wr.alloc (.cells #[.int .i64 x.id,.int .i64 x.bo,.string x.au,bv] 189)).heap[b]?=wr.heap[b]?:=((ah.refl (λ_=>False) wr).alloc _).block b aX (λe=>e);rw [h5,hb] at sw;cases sw;exact hT rfl
 exact (((ah.refl (λ_=>False) wr).alloc _).mono (λ_ _ e=>e.elim) |>.trans (ah.fH hg) (λb _ e=>e)).block b aX dO
theorem Own.zg {A M:List (bB w.heap.size)} (h:Own w wr (A++(ay r t u next vL P S++M))) (x:eT) (JW:bv.oneCell'=true) (hn:P.length <1099511627776): ∃ a c w',(Builtin.append_ #[97,97] 97 #[vL,.slice (some ⟨wr.heap.size,0,none⟩) 1 1]).run Tryz.prog (wr.alloc (.cells #[.int .i64 x.id,.int .i64 x.bo,.string x.au,bv] 189))= .ok (.slice a (P.length+1) c) w'/\ w'.cell? ⟨u,3,none⟩=some vL/\w'.frozen? ⟨u,3,none⟩=false/\kR u r t next vL w'/\(∀ (b:Nat) (gp:Array Value) (T:TypeId),wr.heap[b]?=some (.cells gp T (0,0))->T≠189->w'.heap[b]?=wr.heap[b]?)/\(∃ cs,w'.heap[u]?=some (.cells cs 99 (0,0)))/\Own w (w'.setCell ⟨u,3,none⟩ (.slice a (P.length+1) c)) (A++(ay r t u next (.slice a (P.length+1) c) (P++[(x,bv)]) S++M)):=by have h1:=h.perm (uR A M _ _ _);obtain ⟨a,c,w',aT,h2,od⟩:=h1.Xq x JW hn;have hu:=h2.at (b:=u) (o:=kQ r t next vL) (by simp);obtain ⟨c0,c1,c2,c3,cf⟩:=jI hu.1;have h3:=h2.perm (Fy (uR A M _ _ _).symm (zf A M _ _ _));exact ⟨a,c,w',aT,c3,cf 3,⟨c0,c1,c2,c3⟩,od,⟨_,hu.1⟩,(h3.store 3 (.slice a (P.length+1) c)).perm (zf A M _ _ _).symm⟩
theorem lK {u b:Nat} {v':Value} {cs cu:Array Value} {T:TypeId} (hu:W.heap[u]?=some (.cells cu 99 (0,0))) (hb:W.heap[b]?=some (.cells cs T (0,0))) (hT:T≠99):(W.setCell ⟨u,3,none⟩ v').heap[b]?=W.heap[b]?:=
 kS _ _ _ _ (λe=>by rw [show u=b from e.symm] at hu;rw [hb] at hu;cases hu;exact hT rfl)
theorem AU {x:UE} (h:Own w w0 (bZ r q t nm s v lv++(ay r t u next vL P S++rs))) (fK:mV S P) (hl:P.length <1000000) (hk:DK s n c) (hn:n+50 <549755813888) (hc:c+50<=900000) (hx:wI x) {vv:Value} (hv:aC w0 vv (kP x)): bF 139 #[.pointer (some ⟨u,0,none⟩),.string (aq x.id),vv] w0 (NJ w r q t u nm next (P.map (·.1)) rs (ld s nm x)):=by
 obtain ⟨K,hK⟩:=cE (x.e.length);have hK2:K=0\/K=32:=by rw [hK];exact hx.aal
 obtain ⟨⟨vx,vc,rfl,adv,adw,xg,hce,⟨a1,c1,hsA,YF⟩,⟨a2,c2,hsB,hcB⟩⟩⟩:=aaD.of hx hK hv;have pE:=lJ hx.au;have aau:=hx.id0;have Xb:=hx.id1;obtain ⟨R,hR⟩:=exp (ld s nm x);rw [hR];unfold ld at hR;rw [<-hK] at hR;have sL:2<=(aq x.id).size:=by rw [gj];omega
 have bG:=λW=>Ra (W:=W) sL (Km x.id);have Xe:=ae (show ∀ W,bF 177 #[.string ⟨(dA (aL x.id 4)).toArray⟩] W (λe w'=>∃ ia ic,e= .returned (.tuple #[.slice ia 4 ic,.bool true])/\aC w' (.slice ia 4 ic) (aL x.id 4)/\ak W w') from λW=>by refine (GU W (l:=aL x.id 4) (by rw [ax];omega)).mono ?_;rintro e w' ⟨v',rfl,ho,uX⟩;obtain ⟨ia,ic,rfl,-,-⟩:=ho.bytes.aG;rw [ax];exact ⟨ia,ic,rfl,by have:=ho.bytes.reads;rw [ax] at this;exact this,uX⟩)
 generalize (⟨(dA (aL x.id 4)).toArray⟩:aD)=hx4 at bG Xe;have QG:=λ(W:World) (hW:ak w0 W)=>re (YF.keep hW) (by rw [ax];exact eQ _);rw [eO 8 x.bo.toNat (by have:=hx.bo;omega)] at QG;have yG:((x.bo.toNat:Nat):Int)=x.bo:=by have:=hx.bo;omega
 rw [yG] at QG;have HGT:=ae QG;have Kc:=ae (λ(W:World) (hW:ak w0 W)=>(by have:=(hcB.keep hW).text;rw [xx] at this;exact this:(convert 22 9 (.slice a2 x.au.size c2)).run Tryz.prog W= .ok (.string x.au) W))
 have Aa:=ae (λ(W:World)=>(by have:=tQ W x.au (by omega);rw [hx.au] at this;exact this:aW 141 #[.string x.au] W (.bool true) W))
 have HGI:=ae (show ∀ W ia ic,aC W (.slice ia 4 ic) (aL x.id 4)->bF 137 #[.slice ia 4 ic] W (bH W (.tuple #[.int .u64 (x.id:Int),.bool true])) from λW ia ic hW=>by have:=re hW (by rw [ax];omega);rw [eO 4 x.id (by omega)] at this;exact this)
 have vp:=ae (show ∀ W (M:List (bB w.heap.size)),x.e.length=32->Own w W (bZ r q t nm s v lv++(ay r t u next vL P S++M))->bF 148 #[.pointer (some ⟨u,0,none⟩),.int .i64 (x.id:Int),.agg (x.e.map dF).toArray] W (un w r q t u nm next vL P S M (jV s nm (aq x.id) x.e)) from λW M he hW=>uq hW hk (by omega) (by omega) rfl Xb he);have ht2:¬(1099511627776:Int) <x.bo:=by have:=hx.bo;omega
 have b9:decide ((1099511627776:Int) <x.bo)=false:=decide_eq_false ht2;have hwi:IntKind.i64.wrap (x.id:Int)=(x.id:Int):=by rw [IntKind.wrap_i64];omega
 have hwt:IntKind.i64.wrap x.bo=x.bo:=by rw [IntKind.wrap_i64];have:=hx.bo;omega
 have H0:=ae h;have HX:=ae hx;have p7:=ae fK;have HL:=ae hl;have Kw:=ae hk;have HN:=ae (And.intro hn hc);have HR:=ae hR;have HCE:=ae hce;have CR:=ae hK;have HC0:=ae xg;have hz:(x.au.size:Int)<=128:=by omega
 clear h fK hl hk hn hc hx hv hR adv adw YF hcB QG pE sL yG aau Xb hce ht2 hK xg;generalize kE:aq x.id=ky at bG HR vp ⊢;clear kE;have HWI:=ae (And.intro hwi hwt);rcases hK2 with rfl | rfl
 ·have Uq:∀ W,(Instr.sliceAt 22 (.slice (some vx) (9+0+x.au.size) vc) (some (.int .i64 1)) (some (.int .i64 9)) none).run Tryz.prog W= .ok (.slice a1 8 c1) W:=hsA;have Ur:∀ W,(Instr.sliceAt 22 (.slice (some vx) (9+0+x.au.size) vc) (some (.int .i64 9)) none none).run Tryz.prog W= .ok (.slice a2 x.au.size c2) W:=hsB;obtain ⟨ln,Gw⟩:∃ ln:Nat,ln=9+0+x.au.size:=⟨_,rfl⟩;rw [<-Gw] at Uq Ur ⊢;have l1:¬(ln:Int) <1:=by omega
  have l2:¬(ln:Int) <9:=by omega
  have HLN:=ae (show 9<=ln from by omega);clear hsA hsB Gw;go_enter Tryz.func139,Tryz.ntmps139;go_wp2_with fail;refine (Xe.Z _).mono ?_;rintro e w2 ⟨ia,ic,rfl,QO,cg⟩;have d0:=aJ HC0.Z cg;have d0':w2.cell? vx=some (.int .u8 0):=d0;have HRI:=ae QO;have H2:=ae (H0.Z.quiet cg);have oE:=ae cg;clear QO cg Xe H0 d0;go_wp2_with fail;refine (HGT.Z _ oE.Z).mono ?_;rintro e w3 ⟨rfl,dN⟩;have pU:=ae (oE.Z.trans dN (λ_ _ e=>e));have H3:=ae (H2.Z.quiet dN);have Us:=ae (HRI.Z.keep dN);have hcv:=Kc.Z _ pU.Z;clear dN H2 HRI oE HGT Kc d0';go_wp2_with fail;refine gU (Aa.Z _).Z ?_;clear hcv Aa;go_wp2_with fail;refine (HGI.Z _ _ _ Us.Z).mono ?_;rintro e w4 ⟨rfl,eA⟩;have C2:=ae (pU.Z.trans eA (λ_ _ e=>e));have H4:=ae (H3.Z.quiet eA);clear eA H3 Us pU HGI b9 hwt Uq Ur l1 l2;have bM:=HR.Z;rw [if_neg (show ¬(0:Nat)=32 by omega)] at bM;have hK0:=kR.of H4.Z;obtain ⟨k0,-,-,k3⟩:=hK0;obtain ⟨na,nc,Vr,c5,hf⟩:=Own.aN (rs:=[_,_,_,_]++(ay r t u next vL P S++rs)) H4.Z Kw.Z.tidy (by have:=HN.Z;omega) ky;have HF:=ae hf;clear hf vp hwi HR HCE;rcases nj s.m ky with ⟨hd,gK⟩ | ⟨hd,hg,gK⟩ | ⟨hd,hg,gK⟩
  ·rw [gK,if_neg (show ¬(5:Int)=0 by omega)] at bM;rw [hd] at c5;subst bM;generalize dr s.m.aN ky=z at HF;have HE:=ae (show NJ w r q t u nm next (P.map (·.1)) rs ((200,s,none):Int × DS × Option eT) (.returned (.int .i64 200)) w4 from ⟨rfl,v,lv,vL,P,S,(qh _).symm,p7.Z,H4.Z⟩);clear gK hd H4 k3 C2 CR HX HL Kw HN;by_cases iH:z <0
   ·go_wp2_with fail;refine gU HF.Z.Z ?_;go_wp2;go_ret;exact HE.Z
   ·go_wp2_with fail;refine gU HF.Z.Z ?_;go_wp2;go_ret;exact HE.Z
  ·rw [gK,if_neg (show ¬(6:Int)=0 by omega)] at bM;have qk:dr s.m.aN ky <0:=by rw [eN] at hg;simpa using hg
   subst bM;generalize dr s.m.aN ky=z at HF qk;have HE:=ae (show NJ w r q t u nm next (P.map (·.1)) rs ((200,s,none):Int × DS × Option eT) (.returned (.int .i64 200)) w4 from ⟨rfl,v,lv,vL,P,S,(qh _).symm,p7.Z,H4.Z⟩);clear gK hd hg H4 k3 c5 C2 CR HX HL Kw HN;go_wp2_with fail;refine gU HF.Z.Z ?_;go_wp2;go_ret;exact HE.Z
  ·rw [gK,if_pos rfl] at bM;rw [hd] at c5;obtain ⟨k,hk,uF⟩:=mM hg;obtain ⟨F,QO,hFb⟩:=Own.head (rs:=[_,_,_,_]++(ay r t u next vL P S++rs)) H4.Z;obtain ⟨vn,vs,vl,Cf⟩:=QO;obtain ⟨ng,cap,p,Xj,-,cp,hB⟩:=Cf.aN.cell uF;have wj:=Cf.cells.c1;rw [Xj,Vr] at wj;simp only [im,Value.slice.injEq,true_and] at wj;obtain ⟨rfl,rfl⟩:=wj;have hBr:aC w4 p (cW s.m ky):=hB.reads;obtain ⟨pa,pc,rfl,-,-⟩:=hBr.aG;have kg:(cW s.m ky).length<=67108864:=Kw.Z.tidy.dQ.get ky;have qU:=(List.getElem?_eq_some_iff.1 uF).1;have yH:=ae (show ∀ W,ak w4 W->bF 27 #[.slice pa (cW s.m ky).length pc] W (nW W (cW s.m ky)) from λW hW=>fO (hBr.keep hW) (by omega));obtain ⟨cb,sD⟩:=cE (cW s.m ky);rw [<-sD] at yH bM cp;rw [hk] at HF;have m0:=np k;have m2:(k:Int) <s.m.aN.length:=by omega
   subst bM;generalize dI:cb.length=cl at yH cp;have X8:=ae (And.intro Vr cp);have KZ:=ae (show (∃ cs,w4.heap[r]?=some (.cells cs 172 (0,0)))/\∃ cs,w4.heap[ng]?=some (.cells cs 184 (0,0)) from ⟨⟨_,Cf.mq⟩,by obtain ⟨ps,-,ho,-⟩:=Cf.aN;exact dp ho (by rw [Xj];rfl)⟩);clear gK hg hk uF Cf hFb Xj hB hBr kg qU sD CR HX hd;go_wp2_with fail;refine gU HF.Z.Z ?_;go_upto_region 22 with fail;clear c5 HF k0 k3 Vr cp;refine wp_region_held_drew (S:=(λW=>(∃ v',kR u r t next v' W)/\W.heap[r]?=w4.heap[r]?/\W.heap[ng]?=w4.heap[ng]?)) (by kernel_rfl) (by exact ⟨⟨_,kR.of H4.Z.drew⟩,rfl,rfl⟩) (λai=> ?_);have H5:=ae H4.Z.drew;obtain ⟨-,-,-,k3⟩:=kR.of H5.Z;clear H4;refine tk 0 122 (.pointer (some ⟨u,0,none⟩)) ai ?_;refine tk 1 123 (.pointer (some ⟨u,0,none⟩)) ai ?_;refine tk 2 124 (.pointer (some ⟨u,0,none⟩)) ai ?_;refine tk 3 125 (.pointer (some ⟨u,3,none⟩)) ai ?_;refine tk 5 127 (.int .u64 (x.id:Int)) ai ?_;refine tk 6 128 (.int .i64 (x.id:Int)) ai ?_ (hy:=Or.inl ⟨by rfl,by intro w bK;(try dsimp only at bK);(go_simp;exact HWI.Z.1)⟩);refine tk 7 129 (.int .u64 x.bo) ai ?_;refine tk 8 130 (.int .i64 x.bo) ai ?_ (hy:=Or.inl ⟨by rfl,by intro w bK;(try dsimp only at bK);(go_simp;exact HWI.Z.2)⟩);refine tk 9 131 (.string x.au) ai ?_;refine tk 10 132 (.pointer (some ⟨u,0,none⟩)) ai ?_;refine tk 11 133 (.pointer (some ⟨u,0,none⟩)) ai ?_;refine tk 12 134 (.pointer (some ⟨u,0,none⟩)) ai ?_;refine tk 13 135 (.pointer (some ⟨r,0,none⟩)) ai ?_ (hy:=Or.inl ⟨by rfl,by intro w bK;(try dsimp only at bK);(obtain ⟨⟨v',q0,-,-,-⟩,q4,q5⟩:=bK;have q6:=(kK q4).trans X8.Z.1;have q7:=(kK q5).trans X8.Z.2;go_simp)⟩);refine tk 14 136 (.pointer (some ⟨r,0,none⟩)) ai ?_;refine tk 15 137 (.pointer (some ⟨r,1,none⟩)) ai ?_;refine tk 16 138 (.slice (some ⟨ng,0,none⟩) s.m.aN.length nc) ai ?_ (hy:=Or.inl ⟨by rfl,by intro w bK;(try dsimp only at bK);(obtain ⟨⟨v',q0,-,-,-⟩,q4,q5⟩:=bK;have q6:=(kK q4).trans X8.Z.1;have q7:=(kK q5).trans X8.Z.2;go_simp)⟩);refine tk 17 139 (.int .i64 (k:Int)) ai ?_;refine tk 18 140 (.pointer (some ⟨ng,k*2,none⟩)) ai ?_;refine tk 19 141 (.pointer (some ⟨ng,k*2+1,none⟩)) ai ?_;refine tk 20 142 (.slice pa cl pc) ai ?_ (hy:=Or.inl ⟨by rfl,by intro w bK;(try dsimp only at bK);(obtain ⟨⟨v',q0,-,-,-⟩,q4,q5⟩:=bK;have q6:=(kK q4).trans X8.Z.1;have q7:=(kK q5).trans X8.Z.2;go_simp)⟩);try go_frame
   refine eR [4,21] ?_;refine rcx 126 (λK hK=> ?_) (rcx 143 (λK hK=> ?_) AllReadyH.nil)
   ·refine eE rfl ?_;go_simp;refine hK.Z _ _ (by exact ai) (λaK=> ?_);clear hK K;try go_frame
    refine eR [21] ?_;refine gH 143 λK hK=> ?_;go_simp;go_at_call 27;refine (yH.Z _ (ah.refl _ _).drew).mono ?_;rintro e w6 ⟨tv,rfl,oy,gZ⟩;have k36:=aJ k3 gZ;have H6:=ae (H5.Z.NC (W:=w6) oy gZ);obtain ⟨ta,tc,rfl,-,-⟩:=oy.bytes.reads.aG;rw [dI] at H6 ⊢;have DU:=ae (show (∃ v',kR u r t next v' w6)/\w6.heap[r]?=w4.heap[r]?/\w6.heap[ng]?=w4.heap[ng]? from ⟨⟨_,kR.of H6.Z⟩,gZ.block r (by obtain ⟨⟨cs,hc⟩,-⟩:=KZ.Z;exact bm hc) (λe=>e),gZ.block ng (by obtain ⟨-,⟨cs,hc⟩⟩:=KZ.Z;exact bm hc) (λe=>e)⟩);clear oy gZ;refine hK.Z _ _ (by exact DU.Z) (λaI=> ?_);clear hK K;refine tk 22 144 (.agg #[.int .i64 (x.id:Int),.int .i64 x.bo,.string x.au,.slice ta cl tc]) aI ?_;try go_frame
    refine eR [23] ?_;refine gH 145 λK hK=> ?_;go_simp;obtain ⟨na,nc',w7,aT,e3,f3,Ui,od,YG,h8⟩:=H6.Z.zg ⟨(x.id:Int),x.au,x.bo,cb⟩ (bv:= .slice ta cl tc) rfl (by have:=HL.Z;omega);have cV:=ae aT;have H8:=ae h8;have YI:=ae (show (∃ v',kR u r t next v' w7)/\w7.heap[r]?=w4.heap[r]?/\w7.heap[ng]?=w4.heap[ng]? from by obtain ⟨-,e1,e2⟩:=DU.Z;obtain ⟨⟨cs,hc⟩,⟨G9,sw⟩⟩:=KZ.Z;exact ⟨⟨_,Ui⟩,(od r cs _ (e1.trans hc) (by decide)).trans e1,(od ng G9 _ (e2.trans sw) (by decide)).trans e2⟩)
    have X6:=ae YG;have k37:=aJ k36 ((ah.refl (λ_=>False) w6).alloc (.cells #[.int .i64 (x.id:Int),.int .i64 x.bo,.string x.au,.slice ta cl tc] 189));clear aT h8 Ui od YG;refine hK.Z _ _ (by exact ⟨(by obtain ⟨⟨v',a0,a1,a2,a3⟩,-,-⟩:=DU.Z;exact ⟨v',aJ a0 ((ah.refl _ _).alloc _),aJ a1 ((ah.refl _ _).alloc _),aJ a2 ((ah.refl _ _).alloc _),aJ a3 ((ah.refl _ _).alloc _)⟩),(((ah.refl (λ_=>False) w6).alloc _).block r (by obtain ⟨⟨cs,hc⟩,-⟩:=KZ.Z;exact bm (DU.Z.2.1.trans hc)) (λe=>e)).trans DU.Z.2.1,(((ah.refl (λ_=>False) w6).alloc _).block ng (by obtain ⟨-,⟨cs,hc⟩⟩:=KZ.Z;exact bm (DU.Z.2.2.trans hc)) (λe=>e)).trans DU.Z.2.2⟩) (λbJ=> ?_);clear hK K;try go_frame
    refine eR [24] ?_;refine D7 146 λK hK=> ?_;refine cP rfl _ _ _ _ rfl rfl rfl cV.Z ?_;refine hK.Z _ _ (by exact YI.Z) (λiD=> ?_);clear hK K;refine tk 25 147 (.pointer (some ⟨u,0,none⟩)) iD ?_;refine tk 26 148 (.pointer (some ⟨u,3,none⟩)) iD ?_;try go_frame
    refine eR [27] ?_;refine rcg (o:={dst:=none,op:=_,type:=_,pos:=_,after:=_,guard:=_}) rfl (λK hK=> ?_) AllReadyH.nil;refine eE rfl ?_;go_simp;refine hK.Z _ _ (by (obtain ⟨⟨cs,hc⟩,⟨G9,sw⟩⟩:=KZ.Z;obtain ⟨cu,YJ⟩:=X6.Z;obtain ⟨-,e1,e2⟩:=YI.Z;exact ⟨⟨_,kR.of H8.Z⟩,(lK YJ (e1.trans hc) (by decide)).trans e1,(lK YJ (e2.trans sw) (by decide)).trans e2⟩)) (λmi=> ?_);clear hK K;try go_frame
    refine wpAnyH_done (by kernel_rfl) ?_ _;have HE:=ae H8.Z;clear aK aI bJ iD mi ai H5 H6 H8 cV e3 f3 k3 k36 k37;go_wp2;go_ret;refine ⟨rfl,v,lv,_,_,_, ?_,λp hp=> ?_,HE.Z⟩
    ·rw [mB];rfl
    ·rcases List.mem_append.1 hp with hp | hp
     ·exact nO _ (p7.Z p hp)
     ·rw [List.mem_singleton.1 hp];exact gw ..
   ·refine eE rfl ?_;go_simp;go_at_call 27;refine (yH.Z _ (ah.refl _ _).drew).mono ?_;rintro e w6 ⟨tv,rfl,oy,gZ⟩;have k36:=aJ k3 gZ;have H6:=ae (H5.Z.NC (W:=w6) oy gZ);obtain ⟨ta,tc,rfl,-,-⟩:=oy.bytes.reads.aG;rw [dI] at H6 ⊢;have DU:=ae (show (∃ v',kR u r t next v' w6)/\w6.heap[r]?=w4.heap[r]?/\w6.heap[ng]?=w4.heap[ng]? from ⟨⟨_,kR.of H6.Z⟩,gZ.block r (by obtain ⟨⟨cs,hc⟩,-⟩:=KZ.Z;exact bm hc) (λe=>e),gZ.block ng (by obtain ⟨-,⟨cs,hc⟩⟩:=KZ.Z;exact bm hc) (λe=>e)⟩);clear oy gZ;refine hK.Z _ _ (by exact DU.Z) (λaK=> ?_);clear hK K;refine tk 22 144 (.agg #[.int .i64 (x.id:Int),.int .i64 x.bo,.string x.au,.slice ta cl tc]) aK ?_;try go_frame
    refine eR [4,23] ?_;refine rcx 126 (λK hK=> ?_) (rcx 145 (λK hK=> ?_) AllReadyH.nil)
    ·refine eE rfl ?_;go_simp;refine hK.Z _ _ (by exact aK) (λaI=> ?_);clear hK K;try go_frame
     refine eR [23] ?_;refine gH 145 λK hK=> ?_;go_simp;obtain ⟨na,nc',w7,aT,e3,f3,Ui,od,YG,h8⟩:=H6.Z.zg ⟨(x.id:Int),x.au,x.bo,cb⟩ (bv:= .slice ta cl tc) rfl (by have:=HL.Z;omega);have cV:=ae aT;have H8:=ae h8;have YI:=ae (show (∃ v',kR u r t next v' w7)/\w7.heap[r]?=w4.heap[r]?/\w7.heap[ng]?=w4.heap[ng]? from by obtain ⟨-,e1,e2⟩:=DU.Z;obtain ⟨⟨cs,hc⟩,⟨G9,sw⟩⟩:=KZ.Z;exact ⟨⟨_,Ui⟩,(od r cs _ (e1.trans hc) (by decide)).trans e1,(od ng G9 _ (e2.trans sw) (by decide)).trans e2⟩)
     have X6:=ae YG;have k37:=aJ k36 ((ah.refl (λ_=>False) w6).alloc (.cells #[.int .i64 (x.id:Int),.int .i64 x.bo,.string x.au,.slice ta cl tc] 189));clear aT h8 Ui od YG;refine hK.Z _ _ (by exact ⟨(by obtain ⟨⟨v',a0,a1,a2,a3⟩,-,-⟩:=DU.Z;exact ⟨v',aJ a0 ((ah.refl _ _).alloc _),aJ a1 ((ah.refl _ _).alloc _),aJ a2 ((ah.refl _ _).alloc _),aJ a3 ((ah.refl _ _).alloc _)⟩),(((ah.refl (λ_=>False) w6).alloc _).block r (by obtain ⟨⟨cs,hc⟩,-⟩:=KZ.Z;exact bm (DU.Z.2.1.trans hc)) (λe=>e)).trans DU.Z.2.1,(((ah.refl (λ_=>False) w6).alloc _).block ng (by obtain ⟨-,⟨cs,hc⟩⟩:=KZ.Z;exact bm (DU.Z.2.2.trans hc)) (λe=>e)).trans DU.Z.2.2⟩) (λbJ=> ?_);clear hK K;try go_frame
     refine eR [24] ?_;refine D7 146 λK hK=> ?_;refine cP rfl _ _ _ _ rfl rfl rfl cV.Z ?_;refine hK.Z _ _ (by exact YI.Z) (λiD=> ?_);clear hK K;refine tk 25 147 (.pointer (some ⟨u,0,none⟩)) iD ?_;refine tk 26 148 (.pointer (some ⟨u,3,none⟩)) iD ?_;try go_frame
     refine eR [27] ?_;refine rcg (o:={dst:=none,op:=_,type:=_,pos:=_,after:=_,guard:=_}) rfl (λK hK=> ?_) AllReadyH.nil;refine eE rfl ?_;go_simp;refine hK.Z _ _ (by (obtain ⟨⟨cs,hc⟩,⟨G9,sw⟩⟩:=KZ.Z;obtain ⟨cu,YJ⟩:=X6.Z;obtain ⟨-,e1,e2⟩:=YI.Z;exact ⟨⟨_,kR.of H8.Z⟩,(lK YJ (e1.trans hc) (by decide)).trans e1,(lK YJ (e2.trans sw) (by decide)).trans e2⟩)) (λmi=> ?_);clear hK K;try go_frame
     refine wpAnyH_done (by kernel_rfl) ?_ _;have HE:=ae H8.Z;clear aK aI bJ iD mi ai H5 H6 H8 cV e3 f3 k3 k36 k37;go_wp2;go_ret;refine ⟨rfl,v,lv,_,_,_, ?_,λp hp=> ?_,HE.Z⟩
     ·rw [mB];rfl
     ·rcases List.mem_append.1 hp with hp | hp
      ·exact nO _ (p7.Z p hp)
      ·rw [List.mem_singleton.1 hp];exact gw ..
    ·refine eE rfl ?_;go_simp;obtain ⟨na,nc',w7,aT,e3,f3,Ui,od,YG,h8⟩:=H6.Z.zg ⟨(x.id:Int),x.au,x.bo,cb⟩ (bv:= .slice ta cl tc) rfl (by have:=HL.Z;omega);have cV:=ae aT;have H8:=ae h8;have YI:=ae (show (∃ v',kR u r t next v' w7)/\w7.heap[r]?=w4.heap[r]?/\w7.heap[ng]?=w4.heap[ng]? from by obtain ⟨-,e1,e2⟩:=DU.Z;obtain ⟨⟨cs,hc⟩,⟨G9,sw⟩⟩:=KZ.Z;exact ⟨⟨_,Ui⟩,(od r cs _ (e1.trans hc) (by decide)).trans e1,(od ng G9 _ (e2.trans sw) (by decide)).trans e2⟩)
     have X6:=ae YG;have k37:=aJ k36 ((ah.refl (λ_=>False) w6).alloc (.cells #[.int .i64 (x.id:Int),.int .i64 x.bo,.string x.au,.slice ta cl tc] 189));clear aT h8 Ui od YG;refine hK.Z _ _ (by exact ⟨(by obtain ⟨⟨v',a0,a1,a2,a3⟩,-,-⟩:=DU.Z;exact ⟨v',aJ a0 ((ah.refl _ _).alloc _),aJ a1 ((ah.refl _ _).alloc _),aJ a2 ((ah.refl _ _).alloc _),aJ a3 ((ah.refl _ _).alloc _)⟩),(((ah.refl (λ_=>False) w6).alloc _).block r (by obtain ⟨⟨cs,hc⟩,-⟩:=KZ.Z;exact bm (DU.Z.2.1.trans hc)) (λe=>e)).trans DU.Z.2.1,(((ah.refl (λ_=>False) w6).alloc _).block ng (by obtain ⟨-,⟨cs,hc⟩⟩:=KZ.Z;exact bm (DU.Z.2.2.trans hc)) (λe=>e)).trans DU.Z.2.2⟩) (λaI=> ?_);clear hK K;try go_frame
     refine eR [4] ?_;refine gH 126 λK hK=> ?_;go_simp;refine hK.Z _ _ (by exact aI) (λbJ=> ?_);clear hK K;try go_frame
     refine eR [24] ?_;refine D7 146 λK hK=> ?_;refine cP rfl _ _ _ _ rfl rfl rfl cV.Z ?_;refine hK.Z _ _ (by exact YI.Z) (λiD=> ?_);clear hK K;refine tk 25 147 (.pointer (some ⟨u,0,none⟩)) iD ?_;refine tk 26 148 (.pointer (some ⟨u,3,none⟩)) iD ?_;try go_frame
     refine eR [27] ?_;refine rcg (o:={dst:=none,op:=_,type:=_,pos:=_,after:=_,guard:=_}) rfl (λK hK=> ?_) AllReadyH.nil;refine eE rfl ?_;go_simp;refine hK.Z _ _ (by (obtain ⟨⟨cs,hc⟩,⟨G9,sw⟩⟩:=KZ.Z;obtain ⟨cu,YJ⟩:=X6.Z;obtain ⟨-,e1,e2⟩:=YI.Z;exact ⟨⟨_,kR.of H8.Z⟩,(lK YJ (e1.trans hc) (by decide)).trans e1,(lK YJ (e2.trans sw) (by decide)).trans e2⟩)) (λmi=> ?_);clear hK K;try go_frame
     refine wpAnyH_done (by kernel_rfl) ?_ _;have HE:=ae H8.Z;clear aK aI bJ iD mi ai H5 H6 H8 cV e3 f3 k3 k36 k37;go_wp2;go_ret;refine ⟨rfl,v,lv,_,_,_, ?_,λp hp=> ?_,HE.Z⟩
     ·rw [mB];rfl
     ·rcases List.mem_append.1 hp with hp | hp
      ·exact nO _ (p7.Z p hp)
      ·rw [List.mem_singleton.1 hp];exact gw ..
 ·have Uq:∀ W,(Instr.sliceAt 22 (.slice (some vx) (9+32+x.au.size) vc) (some (.int .i64 33)) (some (.int .i64 41)) none).run Tryz.prog W= .ok (.slice a1 8 c1) W:=hsA;have Ur:∀ W,(Instr.sliceAt 22 (.slice (some vx) (9+32+x.au.size) vc) (some (.int .i64 41)) none none).run Tryz.prog W= .ok (.slice a2 x.au.size c2) W:=hsB;obtain ⟨ln,Gw⟩:∃ ln:Nat,ln=9+32+x.au.size:=⟨_,rfl⟩;rw [<-Gw] at Uq Ur ⊢;have l1:¬(ln:Int) <1:=by omega
  have l2:¬(ln:Int) <41:=by omega
  have HLN:=ae (show 41<=ln from by omega);clear hsA hsB Gw;go_enter Tryz.func139,Tryz.ntmps139;go_wp2_with fail;refine (Xe.Z _).mono ?_;rintro e w2 ⟨ia,ic,rfl,QO,cg⟩;have d0:=aJ HC0.Z cg;have d0':w2.cell? vx=some (.int .u8 32):=d0;have HRI:=ae QO;have H2:=ae (H0.Z.quiet cg);have oE:=ae cg;clear QO cg Xe H0 d0;go_wp2_with fail;refine (HGT.Z _ oE.Z).mono ?_;rintro e w3 ⟨rfl,dN⟩;have pU:=ae (oE.Z.trans dN (λ_ _ e=>e));have H3:=ae (H2.Z.quiet dN);have Us:=ae (HRI.Z.keep dN);have hcv:=Kc.Z _ pU.Z;clear dN H2 HRI oE HGT Kc d0';go_wp2_with fail;refine (Aa.Z _).Z.mono ?_;rintro e w' ⟨rfl,rfl⟩;clear hcv Aa;go_wp2_with fail;refine (HGI.Z _ _ _ Us.Z).mono ?_;rintro e w4 ⟨rfl,eA⟩;have C2:=ae (pU.Z.trans eA (λ_ _ e=>e));have H4:=ae (H3.Z.quiet eA);clear eA H3 Us pU HGI b9 hwt Uq Ur l1 l2;have bM:=HR.Z;rw [if_pos trivial] at bM;have he:x.e.length=32:=CR.Z.symm;have HC:=ae (λW M=>vp.Z W M he);have HE:=ae he;have aaE:((dx x.e 0).map dF).toArray=(List.replicate 32 (Value.int .u8 0)).toArray:=by
   have:dx x.e 0=List.replicate 32 0:=by simp [dx,he]
   rw [this];simp [dF]
  have h5:=H4.Z.gS (.cells ((dx x.e 0).map dF).toArray 24);rw [aaE] at h5;obtain ⟨el,hel⟩:=cE (x.e);have H5:=ae h5;obtain ⟨w5,Rv⟩:=cE (w4.alloc (.cells (List.replicate 32 (Value.int .u8 0)).toArray 24));have HW5:=ae Rv;have XS:=ae (show ak w0 w5 from by rw [Rv];exact C2.Z.trans ((ah.refl _ w4).alloc _) (λ_ _ e=>e));have adx:=ae aaE;clear HR vp he aaE h5 hel Rv Kw HN HL;go_upto_block 0 with fail;refine wp_cut (λa' w'=>∃ f:Nat->Value,(Own w w' (bZ r q t nm s v lv++(ay r t u next vL P S++(aA w4.heap.size (.cells ((dx x.e 32).map dF).toArray 24)::rs))))/\a'=⟨(.pointer (some ⟨u,0,none⟩)::f 1:: .slice (some vx) ln vc::f 3::f 4::f 5::f 6::f 7::f 8::f 9::f 10::f 11::f 12:: .int .u64 (x.id:Int)::f 14:: .pointer (some ⟨w4.heap.size,0,none⟩)::f 16::f 17::f 18::f 19::f 20::f 21::f 22::f 23::f 24::f 25::f 26::f 27::f 28::f 29::f 30::f 31::f 32::f 33::f 34::f 35::f 36::f 37::f 38::f 39::f 40::f 41::f 42::f 43::f 44::f 45::f 46::f 47::f 48::f 49::f 50::f 51::f 52::f 53::f 54::f 55::f 56::f 57::f 58::f 59::f 60::f 61::f 62::f 63::f 64::f 65::f 66::f 67::f 68::f 69::f 70::f 71::f 72::f 73::f 74::f 75::f 76::f 77::f 78::f 79::f 80::f 81::f 82::f 83::f 84::f 85::f 86::f 87::f 88::f 89::f 90::f 91::f 92::f 93::f 94::f 95::f 96::f 97::f 98::f 99::f 100::f 101::f 102::f 103::f 104::f 105::f 106::f 107::f 108::f 109::f 110::f 111::f 112::f 113::f 114::f 115::f 116::f 117::f 118::f 119::f 120::f 121::f 122::f 123::f 124::f 125::f 126::f 127::f 128::f 129::f 130::f 131::f 132::f 133::f 134::f 135::f 136::f 137::f 138::f 139::f 140::f 141::f 142::f 143::f 144::f 145::f 146::f 147::f 148::[]:List Value).toArray,[]⟩) ?CE ?wL;case wL=>
   intro _ _ _ _
   as_aux_lemma=>
    go_wp2_with fail;refine wp_loop (λa' w'=>∃ f:Nat->Value,(∃ k:Nat,f 16= .int .i64 (k:Int)/\k<=32/\ak w0 w'/\Own w w' (bZ r q t nm s v lv++(ay r t u next vL P S++(aA w4.heap.size (.cells ((dx x.e k).map dF).toArray 24)::rs))))/\a'=⟨(.pointer (some ⟨u,0,none⟩)::f 1:: .slice (some vx) ln vc::f 3::f 4::f 5::f 6::f 7::f 8::f 9::f 10::f 11::f 12:: .int .u64 (x.id:Int)::f 14:: .pointer (some ⟨w4.heap.size,0,none⟩)::f 16::f 17::f 18::f 19::f 20::f 21::f 22::f 23::f 24::f 25::f 26::f 27::f 28::f 29::f 30::f 31::f 32::f 33::f 34::f 35::f 36::f 37::f 38::f 39::f 40::f 41::f 42::f 43::f 44::f 45::f 46::f 47::f 48::f 49::f 50::f 51::f 52::f 53::f 54::f 55::f 56::f 57::f 58::f 59::f 60::f 61::f 62::f 63::f 64::f 65::f 66::f 67::f 68::f 69::f 70::f 71::f 72::f 73::f 74::f 75::f 76::f 77::f 78::f 79::f 80::f 81::f 82::f 83::f 84::f 85::f 86::f 87::f 88::f 89::f 90::f 91::f 92::f 93::f 94::f 95::f 96::f 97::f 98::f 99::f 100::f 101::f 102::f 103::f 104::f 105::f 106::f 107::f 108::f 109::f 110::f 111::f 112::f 113::f 114::f 115::f 116::f 117::f 118::f 119::f 120::f 121::f 122::f 123::f 124::f 125::f 126::f 127::f 128::f 129::f 130::f 131::f 132::f 133::f 134::f 135::f 136::f 137::f 138::f 139::f 140::f 141::f 142::f 143::f 144::f 145::f 146::f 147::f 148::[]:List Value).toArray,[]⟩) (λa' _=>32 - (intOf (a'.tmps.getD 16 undef)).toNat) ?atStart ?round;case atStart=>
     refine cM ?_ (by kernel_rfl);refine ⟨0,rfl,fC _, ?_, ?_⟩
     ·have:=XS.Z;rw [HW5.Z] at this;exact this
     ·rw [adx.Z];exact H5.Z
    case round=>
     intro _ wr aU;obtain ⟨f,hrel,ha⟩:=aU;subst ha;obtain ⟨k,Xr,hk,sR,bt⟩:=hrel;rw [Xr];clear Xr H5 XS;have k0:=np k;by_cases aX:k <32
     ·obtain ⟨d,hd⟩:∃ d,x.e[k]?=some d:=⟨x.e[k]'(by rw [HE.Z];exact aX),js _⟩;have hcd:=aJ (HCE.Z k d hd) sR;have qJ:=Own.OV bt;have Pg:=(qJ.at (gw ..)).1;have xI:(dx x.e k).length=32:=by unfold dx;rw [fS,nM,O4,HE.Z];omega
      have eh:wr.cell? ⟨w4.heap.size,k,none⟩=some (dF ((dx x.e k)[k]'(by omega))):=ag Pg (by simp [xI,aX]);have ab2:=cL Pg k;have gQ:=qJ.store k (dF d);have vk:(((dx x.e k).map dF).toArray).setIfInBounds k (dF d)=((dx x.e (k+1)).map dF).toArray:=by rw [<-vK hd,K9];simp
      rw [vk] at gQ;have sO:=ae (Own.toEnd gQ);have kC:=ae aX;have fh:IntKind.i64.wrap (1+(k:Int))=((1+k:Nat):Int):=by rw [IntKind.wrap_i64];omega
      have zu:IntKind.i64.wrap ((k:Int)+1)=((k+1:Nat):Int):=by rw [IntKind.wrap_i64];omega
      have j1:(k:Int) <32:=by omega
      have j2:((1+k:Nat):Int) <(ln:Int):=by have:=HLN.Z;omega
      have RE:=ae (show ak w0 (wr.setCell ⟨w4.heap.size,k,none⟩ (dF d)) from sR.setCell (p:=⟨w4.heap.size,k,none⟩) (λhb=>by have:=C2.Z.size;simp only at hb;omega) _);generalize dF ((dx x.e k)[k]'(by omega))=old at eh;clear hd qJ Pg xI gQ vk bt sR hk aX;go_wp2_with fail;refine ⟨?_, ?measure⟩
      ·refine cM ?_ (by kernel_rfl);exact ⟨k+1,by simp,kC.Z,RE.Z,sO.Z⟩
      case measure=>have:=kC.Z;simp [intOf];omega
     ·obtain rfl:k=32:=by omega
      have HO:=ae bt;clear bt hk aX sR;go_wp2_with fail;refine Met.intro ?_;go_step;refine cM ?_ (by kernel_rfl);exact HO.Z
  case CE=>
   intro _ wc aU;obtain ⟨f,bt,ha⟩:=aU;subst ha;have e32:dx x.e 32=x.e:=by unfold dx;rw [HE.Z,CZ,List.replicate_zero,qh,sU (by rw [HE.Z];omega)]
   rw [e32] at bt;have HB:=ae (bt.at (b:=w4.heap.size) (o:= .cells (x.e.map dF).toArray 24) (by simp)).1;have HI:=ae (show (Tryz.prog.info? 24).map (·.size)=some (x.e.map dF).length by rw [io,HE.Z];kernel_rfl);have rV:=ae (HC.Z _ _ bt);have hwi:=HWI.Z.1;clear bt e32 H5 XS HC HCE H4;generalize x.e.map dF=cl at HB HI rV;go_wp2_with (first | (refine wpList_load_row rfl 24 _ rfl w4.heap.size rfl 24 cl.toArray (0,0) _ HB.Z Tryz.underlying24 rfl HI.Z ?_));refine rV.Z.mono ?_;rintro e w6 ⟨rfl,v6,lv6,h6⟩;have H6:=ae h6;have EY:=ae bM;clear h6 rV HB bM;go_wp2;go_ret;rw [<-EY.Z];exact ⟨rfl,v6,lv6,vL,P,S,(qh _).symm,p7.Z,H6.Z.bR⟩
end

end Go.Proofs.YtlcnhpjggjgnpaaGreatDoor