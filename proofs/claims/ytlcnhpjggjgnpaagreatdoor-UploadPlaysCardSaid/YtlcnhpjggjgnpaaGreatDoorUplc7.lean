/- A part of the proof. -/
import Derived.Test.YtlcnhpjggjgnpaaGreatDoorUplc5
import Derived.Test.YtlcnhpjggjgnpaaGreatDoorUplc6
set_option linter.unusedSimpArgs false
set_option linter.unusedVariables false
set_option maxRecDepth 100000
set_option maxHeartbeats 4000000
namespace Go.Proofs.YtlcnhpjggjgnpaaGreatDoor
open Go.RowKit Go.MapKept Go.Maps
variable {ML:List eX} {R id:Int} {S S':List eT} {T:TM} {W w w0:World} {dg p:aH} {i k lc n nx z:Nat} {la:Option Addr} {pv:Value} {x:eT} {M:List (bB w.heap.size)}
theorem NO {a:Int} (h:-9223372036854775808<=a/\a<=9223372036854775807):Go.keyOf Tryz.prog 3 (Value.int .i64 a)=some (Lit.int .i64 a):=by
 have hw:(Lit.int .i64 a).wf=true:=by unfold Lit.wf;simp only [IntKind.min,IntKind.max,IntKind.signed,IntKind.bits,Be,decide_eq_true_eq];constructor <;>simp <;>omega
 exact keyOf_int_mk Tryz.underlying3 hw
theorem NP {es:List MapEntry} {l:PS} (h:dX FI es l) (hs:∀ p ∈ l,-9223372036854775808<=p.1/\p.1<=9223372036854775807):es.map (WideElems.rg Tryz.prog 3 wE)=l.map (λp=>(Lit.int .i64 p.1,DataW.nil))/\∀ x ∈ es,∃ y,WideElems.rd Tryz.prog 3 wE x=some y:=by
 induction es generalizing l with
 | nil=>
  cases l with
  | nil=>exact ⟨rfl,λx hx=>by simp at hx⟩
  | cons _ _=>exact h.elim
 | cons e es ih=>
  cases l with
  | nil=>exact h.elim
  | cons p l=>
   obtain ⟨h1,h2⟩:=ih h.2 (λq hq=>hs q (nO _ hq));have hk:=NO (hs p (gw ..));have hr:WideElems.rd Tryz.prog 3 wE e=some (Lit.int .i64 p.1,DataW.nil):=by unfold WideElems.rd;rw [h.1.1,hk];rfl
   refine ⟨?_,λx hx=> ?_⟩
   ·rw [kz,kz,h1];unfold WideElems.rg;rw [hr];rfl
   ·rcases List.mem_cons.1 hx with rfl | hx
    ·exact ⟨_,hr⟩
    ·exact h2 x hx
theorem jt.owns {b:Nat} {ps:PS} (h:jt w b ps) (hs:∀ p ∈ ps,-9223372036854775808<=p.1/\p.1<=9223372036854775807) (hl:ps.length<=maxLen): ∃ D0:DataW Unit,w.ownsMap Tryz.prog 3 wE b ps.length D0/\Maps.size D0=ps.length/\(intKeys D0).Perm (ps.map (·.1)):=by
 obtain ⟨es,bD,l,hb,bG,hr,hp⟩:=h;have hz:es.size=ps.length:=by rw [<-hp.length_eq,<-hr.length,Array.length_toList]
 obtain ⟨h1,h2⟩:=NP hr (λp VH=>hs p (hp.mem_iff.1 VH));refine ⟨_,⟨es,bD,hb,⟨by omega,bG,h2⟩,by omega,rfl⟩, ?_, ?_⟩
 ·have:=(rF (es.toList.map (WideElems.rg Tryz.prog 3 wE))).length_eq;rw [Maps.size_eq,this,io,Array.length_toList,hz]
 ·have hq:=(rF (es.toList.map (WideElems.rg Tryz.prog 3 wE))).map (λp=>Go.intOf p.1);refine Fy hq ?_;rw [h1,wU];exact hp.map _
theorem KB {l ss:List Int} (hs:l.Pairwise (· <·)) (hp:ss.Perm l):ss.mergeSort (λx y=>decide (x<=y))=l:=by
 have tr:∀ a b c:Int,decide (a<=b)=true->decide (b<=c)=true->decide (a<=c)=true:=λa b c h1 h2=>by simp only [decide_eq_true_eq] at*;exact Int.le_trans h1 h2
 have tt:∀ a b:Int,(decide (a<=b) || decide (b<=a))=true:=λa b=>by simp only [FA,decide_eq_true_eq];exact Int.le_total a b
 refine List.Perm.eq_of_pairwise (le:=λa b=>decide (a<=b)=true) (λa b _ _ h1 h2=> ?_) (List.pairwise_mergeSort tr tt ss) (hs.imp (λh=>decide_eq_true (Int.le_of_lt h))) ((List.mergeSort_perm ss _).trans hp);simp only [decide_eq_true_eq] at h1 h2;exact Int.le_antisymm h1 h2
section
variable {w wr:World} {d u st t mp j b:Nat} {nm:aD} {T:TM} {next:Int} {L:UL} {rs:List (bB w.heap.size)}
def zh (w:World) (l:List Int) (e:Ending) (w':World):Prop:=∃ v,e= .returned v/\w'.ownsRow w.heap.size 3 1 v l.length (l.map (Value.int .i64))/\ak w w'
theorem NQ (mb:Option Nat) (W:World):aW 70 #[.map mb] W (.func (.func 128) #[] #[.pointer (some ⟨W.heap.size,0,none⟩)]) (W.alloc (.cells #[.map mb] 102)):=by refine (callsIn_wide.1 (G0 mb W)).mono ?_;rintro e w' ⟨rfl,rfl⟩;exact ⟨rfl,rfl⟩
theorem DX {w:World} {b:Nat} {ps:PS} (h:jt w b ps) {l:List Int} (hl:l.Pairwise (· <·)) (hp:(ps.map (·.1)).Perm l) (hb:∀ p ∈ ps,-9223372036854775808<=p.1/\p.1<=9223372036854775807) (hn:ps.length<=1099511627776): bF 69 #[.func (.func 128) #[] #[.pointer (some ⟨w.heap.size,0,none⟩)]] (w.alloc (.cells #[.map (some b)] 102)) (zh w l):=by obtain ⟨D0,h1,h2,h3⟩:=h.owns hb (by unfold maxLen;omega);refine (callsIn_wide.1 (sN b ps.length D0 wE w h1 (by rw [h2];unfold maxLen;omega) (by rw [h2];omega))).mono ?_;rintro e w' ⟨v,ss,rfl,hS,fN,_,kg⟩;have hq:ss.Perm l:=(hS.trans h3).trans hp;have cU:ss.length=l.length:=hq.length_eq;rw [KB hl hq,cU] at fN;have ox:ak (w.alloc (.cells #[.map (some b)] 102)) w':=⟨kg.os,kg.tape,kg.output,kg.size,λk hk _=>kg.block k hk⟩;exact ⟨v,rfl,uL fN (by simp),((ah.refl _ w).alloc _).trans ox (λ_ _ e=>e)⟩
theorem uv (h:Own w w0 (bO d j t b nm T++(bE d u st t mp next L++rs))) (hs:(L.map (λx=>x.1.id)).Pairwise (· <·)) (hb:∀ x ∈ L,0<=x.1.id/\x.1.id<=4294967296) (hn:L.length<=1099511627776): bF 22 #[.pointer (some ⟨u,0,none⟩)] w0 (zh w0 (L.map (λx=>x.1.id))):=by
 have hm:=h.pmap (mp:=mp) (ps:=iy L) (by simp [bE]);obtain ⟨-,-,-,-,c4⟩:=eW (h.at (b:=u) (o:=iX d st t next mp) (by simp [bE])).1;have hk:=NQ (some mp) w0;have OR:=DX hm hs (by simp [iy,Function.comp_def]) (λp hp=>by obtain ⟨x,hx,rfl⟩:=List.mem_map.1 hp;have:=hb x hx;dsimp only;omega) (by simp [iy];omega)
 generalize L.map (λx=>x.1.id)=l at OR ⊢;have HK:=ae hk;have HSO:=ae OR;go_enter Tryz.func22,Tryz.ntmps22;go_wp2_with fail;refine gU HK.Z.Z ?_;go_wp2_with fail;refine HSO.Z.mono ?_;rintro e w2 ⟨v,rfl,hr,cg⟩;have HR:=ae (And.intro hr cg);obtain ⟨a,c,rfl⟩:=bA hr;go_wp2;go_ret;exact ⟨_,rfl,HR.Z.1,HR.Z.2⟩
end
open Go.RowKit Go.MapKept
section
variable {w wr:World} {d u st t mp j b:Nat} {nm:aD} {T:TM} {next:Int} {L:UL} {rs:List (bB w.heap.size)}
theorem rP (h:Own w w0 (bO d j t b nm T++(bE d u st t mp next L++rs))) (hf:l9 L id=none): aW 47 #[.pointer (some ⟨u,0,none⟩),.int .i64 id] w0 (.tuple #[.pointer none,.int .i64 6]) w0:=by have fb:=mS (L:=L) h (u:=u) (d:=d) (st:=st) (t:=t) (mp:=mp) (next:=next) (by simp [bE]) (by simp [bE]) id;unfold pL at fb;rw [hf] at fb;exact fb
theorem KC (h:Own w w0 (bO d j t b nm T++(bE d u st t mp next L++rs))) (hf:l9 L id=none) (at_:Int) (pv:Value): aW 10 #[.pointer (some ⟨u,0,none⟩),.int .i64 id,.int .i64 at_,pv] w0 (.int .i64 6) w0:=by have fb:=rP h hf;unfold aW;go_enter Tryz.func10,Tryz.ntmps10;go_wp2_with fail;refine gU fb.Z ?_;go_wp2;go_ret;exact ⟨rfl,rfl⟩
theorem G1 (h:Own w w0 (bO d j t b nm T++(bE d u st t mp next L++rs))) (hf:l9 L id=none) (cl:List Value) (more:Value): bF 12 #[.pointer (some ⟨u,0,none⟩),.int .i64 id,.agg cl.toArray,more] w0 (bH w0 (.int .i64 6)):=by have fb:=rP (h.gS (.cells cl.toArray 39)) hf;have HK:=ae ((ah.refl (λ_=>False) w0).alloc (.cells cl.toArray 39));go_enter Tryz.func12,Tryz.ntmps12;go_wp2_with fail;refine gU fb.Z ?_;go_wp2;go_ret;exact ⟨rfl,HK.Z⟩
end
open Go.ChangeMaps (setBlock)
section
variable {w wr:World} {d u st t mp j b:Nat} {nm:aD} {T:TM} {next:Int} {L L1 L2:UL} {rs:List (bB w.heap.size)}
def UA (u d st t:Nat) (next:Int) (mp:Nat) (W:World):Prop:=
 W.cell? ⟨u,0,none⟩=some (.pointer (some ⟨d,0,none⟩))/\W.cell? ⟨u,1,none⟩=some (.pointer (some ⟨st,0,none⟩))/\W.cell? ⟨u,2,none⟩=some (.pointer (some ⟨t,0,none⟩))/\W.cell? ⟨u,3,none⟩=some (.int .i64 next)/\W.cell? ⟨u,4,none⟩=some (.map (some mp))
theorem UA.of {A M:List (bB w.heap.size)} (h:Own w W (A++(bE d u st t mp next L++M))):UA u d st t next mp W:=
 eW (h.at (b:=u) (o:=iX d st t next mp) (by simp [bE])).1
theorem G2 (h:Own w w0 (bO d j t b nm T++(bE d u st t mp next L++rs))) (hf:l9 L id=none): aW 21 #[.pointer (some ⟨u,0,none⟩),.int .i64 id] w0 (.int .i64 6) w0:=by have fb:=rP h hf;unfold aW;go_enter Tryz.func21,Tryz.ntmps21;go_wp2_with fail;refine gU fb.Z ?_;go_wp2;go_ret;exact ⟨rfl,rfl⟩
theorem vO {sp q:Nat} (h:Own w w0 (bO d j t b nm T++(bE d u st t mp next (L1++(x,sp,q)::L2)++rs))) (hf:l9 (L1++(x,sp,q)::L2) x.id=some (x,sp,q)) (oC:∀ y ∈ L1++L2,y.1.id≠x.id) (hg:Good T.m n) (hn:n+50 <549755813888) (hs:T.size<=1099511627776) (hid:x.id=(nx:Int)) (gQ:nx<=4294967295): bF 21 #[.pointer (some ⟨u,0,none⟩),.int .i64 x.id] w0 (Cb w d j t b u st mp nm next L1 L2 x sp q rs (eK T nm (aq nx))):=by
 obtain ⟨ky,kE⟩:=cE (aq nx);have jA:=ae (show ∀ W,bF 23 #[.int .i64 x.id] W (bH W (.string ky)) from λW=>by rw [kE,hid];exact lp W nx nx (IntWalk.u64_in _ (by omega)) (by omega));obtain ⟨R,hR⟩:=exp (eK T nm (aq nx));rw [hR];unfold eK at hR;rw [<-kE] at hR;obtain ⟨ap,kt⟩:=cE (bL T nm [⟨ky,true,[]⟩]);have DH:Good ap.2.m (n+1):=by rw [kt];exact mT hg nm _
 have jM:=ae (show ∀ W (M:List (bB w.heap.size)) (bb:Nat),Own w W (bO d j t b nm T++(bE d u st t mp next (L1++(x,sp,q)::L2)++(aA bb (.cells #[.string ky,.bool true,.slice none 0 0] 109)::M)))->bF 42 #[.pointer (some ⟨t,0,none⟩),.slice (some ⟨bb,0,none⟩) 1 1] W (rK w d j t b u st mp nm next (L1++(x,sp,q)::L2) M ap) from λW M bb hW=>by rw [kt];exact Ca hW hg (by omega) hs)
 rw [<-kt] at hR;obtain ⟨rm,sT⟩:=cE (aE ap.2.m ky);have FP:Good rm.2 (n+2):=by rw [sT];exact DH.dZ ky
 have ot:=ae (show ∀ W (M:List (bB w.heap.size)),Own w W (bO d j t b nm ap.2++M)->∃ w',aW 45 #[.pointer (some ⟨d,0,none⟩),.string ky] W (.int .i64 rm.1) w'/\Own w w' (bO d j t b nm {ap.2 with m:=rm.2}++M) from λW M hW=>by rw [sT];exact Own.dZ hW ky DH.cC (DH.aw (by omega)))
 rw [<-sT] at hR;obtain ⟨sr,AP⟩:=cE (aV rm.2);have Cz:=ae (show ∀ W (M:List (bB w.heap.size)),Own w W (bO d j t b nm {ap.2 with m:=rm.2}++M)->bF 49 #[.pointer (some ⟨d,0,none⟩)] W (λe w'=>e= .returned (.int .i64 sr.1)/\Own w w' (bO d j t b nm {ap.2 with m:=sr.2}++M)) from λW M hW=>by rw [AP];exact Own.sync hW FP.cC (λk c hc=>(FP.fits k c hc).1))
 rw [<-AP] at hR;have fb:=mS (L:=L1++(x,sp,q)::L2) h (u:=u) (d:=d) (st:=st) (t:=t) (mp:=mp) (next:=next) (by simp [bE]) (by simp [bE]) x.id;unfold pL at fb;rw [hf] at fb;dsimp only at fb;have nN:=ae fb;have HLV:=ae (λ(W:World) (T':TM) (M:List (bB w.heap.size)) (hW:Own w W (bO d j t b nm T'++(bE d u st t mp next (L1++(x,sp,q)::L2)++M)))=>Own.leave hW oC);obtain ⟨c1,T1⟩:=ap;obtain ⟨c2,m2⟩:=rm;obtain ⟨c3,m3⟩:=sr;dsimp only at hR jM ot Cz;have HR:=ae hR;have H0:=ae h;clear hR kE kt DH sT FP AP fb h hf oC hg hn hs hid gQ;go_enter Tryz.func21,Tryz.ntmps21;go_wp2_with fail;refine gU nN.Z.Z ?_;go_upto_region 4 with fail;refine wp_region_held_drew (S:=UA u d st t next mp) (by kernel_rfl) (by exact UA.of H0.Z.drew) (λai=> ?_);have H1:=ae H0.Z.drew;clear H0 nN;refine tk 0 18 (.pointer (some ⟨u,0,none⟩)) ai ?_;refine tk 1 19 (.pointer (some ⟨u,0,none⟩)) ai ?_;refine tk 2 20 (.pointer (some ⟨u,2,none⟩)) ai ?_;refine tk 3 21 (.pointer (some ⟨t,0,none⟩)) ai ?_ (hy:=Or.inl ⟨by rfl,by intro w bK;(try dsimp only at bK);(obtain ⟨q0,q1,q2,q3,q4⟩:=bK;go_simp)⟩);refine tk 4 22 (.int .i64 x.id) ai ?_;try go_frame
 refine eR [5] ?_;refine gH 23 λK hK=> ?_;go_simp;go_at_call 23;refine (jA.Z _).mono ?_;rintro e w2 ⟨rfl,cg⟩;have H2:=ae (H1.Z.quiet cg);clear cg;refine hK.Z _ _ (by exact UA.of H2.Z) (λaK=> ?_);clear hK K;refine tk 6 24 (.agg #[.string ky,.bool true,.slice none 0 0]) aK ?_;try go_frame
 refine eR [7] ?_;refine gH 25 λK hK=> ?_;go_simp;have H3:=ae (H2.Z.gS (.cells #[.string ky,.bool true,.slice none 0 0] 109));refine hK.Z _ _ (by exact UA.of H3.Z) (λaI=> ?_);clear hK K;try go_frame
 refine eR [8] ?_;refine gH 26 λK hK=> ?_;go_simp;go_at_call 42;refine (jM.Z _ _ _ H3.Z).mono ?_;rintro e w4 ⟨rfl,h4⟩;have H4:=ae h4;clear h4;refine hK.Z _ _ (by exact UA.of H4.Z) (λbJ=> ?_);clear hK K;refine tk 9 7 (.int .i64 c1) bJ ?_;try go_frame
 refine wpAnyH_done (by kernel_rfl) ?_ _;clear H1 H2 H3 jM ai aK aI bJ;by_cases hc:c1=0
 ·subst hc;have bM:=HR.Z;rw [if_pos rfl] at bM;have HR:=ae bM;clear bM;obtain ⟨-,-,-,-,k4⟩:=eW (H4.Z.at (b:=u) (o:=iX d st t next mp) (by simp [bE])).1;obtain ⟨w5,Bi,h5⟩:=HLV.Z _ _ _ H4.Z;have HD:=ae Bi;have H5:=ae h5;clear Bi h5 H4 HLV;go_upto_region 8 with (at_delete;refine iu rfl _ _ _ _ rfl rfl rfl HD.Z ?_);clear HD k4;refine wp_region_held_drew (S:=UA u d st t next mp) (by kernel_rfl) (by exact UA.of H5.Z.drew) (λai=> ?_);have H6:=ae H5.Z.drew;clear H5;refine tk 0 35 (.pointer (some ⟨u,0,none⟩)) ai ?_;refine tk 1 36 (.pointer (some ⟨u,0,none⟩)) ai ?_;refine tk 2 37 (.pointer (some ⟨u,0,none⟩)) ai ?_;refine tk 3 38 (.pointer (some ⟨d,0,none⟩)) ai ?_ (hy:=Or.inl ⟨by rfl,by intro w bK;(try dsimp only at bK);(obtain ⟨q0,q1,q2,q3,q4⟩:=bK;go_simp)⟩);refine tk 4 39 (.int .i64 x.id) ai ?_;try go_frame
  refine eR [5] ?_;refine gH 40 λK hK=> ?_;go_simp;go_at_call 23;refine (jA.Z _).mono ?_;rintro e w7 ⟨rfl,jf⟩;have H7:=ae (H6.Z.quiet jf);clear jf;refine hK.Z _ _ (by exact UA.of H7.Z) (λaK=> ?_);clear hK K;try go_frame
  refine eR [6] ?_;refine gH 41 λK hK=> ?_;go_simp;go_at_call 45;obtain ⟨w8,yi,h8⟩:=ot.Z _ _ H7.Z;refine gU yi.Z ?_;have H8:=ae h8;clear h8 yi;refine hK.Z _ _ (by exact UA.of H8.Z) (λaI=> ?_);clear hK K;refine tk 7 8 (.int .i64 c2) aI ?_;try go_frame
  refine wpAnyH_done (by kernel_rfl) ?_ _;clear H6 H7 ot ai aK aI;by_cases hc:c2=0
  ·subst hc;have bM:=HR.Z;rw [if_pos rfl] at bM;subst bM;obtain ⟨k0,-,-,-,-⟩:=eW (H8.Z.at (b:=u) (o:=iX d st t next mp) (by simp [bE])).1;have om:=ae (Cz.Z _ _ H8.Z);clear HR Cz H8;go_wp2_with fail;refine om.Z.mono ?_;rintro e w9 ⟨rfl,h9⟩;have H9:=ae h9;clear h9 om k0;go_wp2;go_ret;exact ⟨rfl,by simpa using H9.Z⟩
  ·have bM:=HR.Z;rw [if_neg hc] at bM;subst bM;have b1:(c2 !=0)=true:=by simpa using hc
   clear HR hc Cz;go_wp2;go_ret;exact ⟨rfl,by simpa using H8.Z⟩
 ·have bM:=HR.Z;rw [if_neg hc] at bM;subst bM;have b1:(c1 !=0)=true:=by simpa using hc
  clear HR hc Cz ot HLV;go_wp2;go_ret;exact ⟨rfl,by simpa using H4.Z⟩
end
theorem KD (T:TM) (nm ky:aD):(eK T nm ky).2.1.size<=T.size+1048576:=by
 have h:=mU T nm [⟨ky,true,[]⟩];unfold eK;split
 ·split <;>exact h
 ·exact h
theorem KE {nm ky:aD} (h:(eK T nm ky).1=0):(eK T nm ky).2.2=true:=by
 unfold eK at h ⊢;split
 ·split <;>rfl
 ·rename_i h1;rw [if_neg h1] at h;exact absurd h h1
theorem NR {L:UL} (oC:(L.map (λx=>x.1.id)).Nodup) {y:eT × Nat × Nat} (hy:y ∈ L): ∃ L1 L2,L=L1++y::L2/\l9 (L1++y::L2) y.1.id=some y/\(∀ z ∈ L1++L2,z.1.id≠y.1.id)/\(L1++L2).map (·.1)=(L.map (·.1)).filter (λz=>decide (z.id≠y.1.id))/\(L1++L2).Sublist L/\∀ z ∈ L,z.1.id≠y.1.id->z ∈ L1++L2:=by
 obtain ⟨L1,L2,rfl⟩:=List.append_of_mem hy;rw [mB,kz,List.nodup_append] at oC;obtain ⟨h1,h2,h3⟩:=oC;have h2:=List.nodup_cons.1 h2;have n1:∀ z ∈ L1,z.1.id≠y.1.id:=λz hz=>h3 _ (List.mem_map.2 ⟨z,hz,rfl⟩) _ (gw ..);have n2:∀ z ∈ L2,z.1.id≠y.1.id:=λz hz e=>h2.1 (List.mem_map.2 ⟨z,hz,e⟩);refine ⟨L1,L2,rfl, ?_,λz hz=> ?_, ?_, ?_,λz hz dO=> ?_⟩
 ·unfold l9;rw [List.find?_append,List.find?_eq_none.2 (λz hz=>by simpa using n1 z hz),List.find?_cons_of_pos (by simp)];rfl
 ·rcases List.mem_append.1 hz with hz | hz
  ·exact n1 z hz
  ·exact n2 z hz
 ·have f1:(L1.map (·.1)).filter (λz=>decide (z.id≠y.1.id))=L1.map (·.1):=List.filter_eq_self.2 (λz hz=>by obtain ⟨a,ha,rfl⟩:=List.mem_map.1 hz;simpa using n1 a ha)
  have f2:(L2.map (·.1)).filter (λz=>decide (z.id≠y.1.id))=L2.map (·.1):=List.filter_eq_self.2 (λz hz=>by obtain ⟨a,ha,rfl⟩:=List.mem_map.1 hz;simpa using n2 a ha)
  rw [mB,mB,List.filter_append,kz,K6,if_neg (by simp),f1,f2]
 ·exact List.Sublist.append (CY _) (List.sublist_cons_self _ _)
 ·rcases List.mem_append.1 hz with hz | hz
  ·exact List.mem_append_left _ hz
  ·rcases List.mem_cons.1 hz with rfl | hz
   ·exact absurd rfl dO
   ·exact K3 _ hz
section
variable {w wr:World} {d u st t mp j b:Nat} {nm:aD} {T:TM} {next:Int} {L L1 L2:UL} {rs:List (bB w.heap.size)}
def G3 (w:World) (d j t b u st mp:Nat) (nm:aD) (next:Int) (rs:List (bB w.heap.size)) (res:Int × Int × TM × List eT) (e:Ending) (w':World):Prop:=
 e= .returned (.tuple #[.int .i64 res.1,.int .i64 res.2.1])/\∃ L':UL,L'.map (·.1)=res.2.2.2/\Own w w' (bO d j t b nm res.2.2.1++(bE d u st t mp next L'++rs))
theorem DY (h:Own w w0 (bO d j t b nm T++(bE d u st t mp next L++rs))) (OR:(L.map (λx=>x.1.id)).Pairwise (· <·)) (hid:∀ y ∈ L,∃ nx:Nat,y.1.id=(nx:Int)/\nx<=4294967295) {m:Nat} (ht:Tidy T.m n m) (hn:n+2*L.length+100 <549755813888) (hs:T.size+L.length*1048576+1048576<=1099511627776) (hl:L.length<=100000) (aN:Int): bF 16 #[.pointer (some ⟨u,0,none⟩),.int .i64 aN] w0 (G3 w d j t b u st mp nm next rs (ut nm aN (L.map (·.1)) T (L.map (·.1)) 0)):=by
 obtain ⟨R,hR⟩:=exp (ut nm aN (L.map (·.1)) T (L.map (·.1)) 0);rw [hR];have oC:(L.map (λx=>x.1.id)).Nodup:=OR.imp (λaX=>by omega);have HLI:=ae (uv h OR (λx hx=>by obtain ⟨nx,e,h2⟩:=hid x hx;omega) (by omega));have HR:=ae hR;have H0:=ae h;have HN:=ae (And.intro hn (And.intro hs hl));have HT:=ae ht;have Yr:=ae oC;have HID:=ae hid;obtain ⟨ks,sL⟩:=cE (L.map (λx=>x.1.id));rw [<-sL] at HLI;have qU:ks.length=L.length:=by rw [sL,io]
 have HKS:=ae sL;have Hi:=ae qU;have j9:(L.length:Int)<=100000:=by omega
 clear hR h OR hid ht hn hs hl oC sL qU;go_enter Tryz.func16,Tryz.ntmps16;go_wp2_with fail;refine HLI.Z.mono ?_;rintro e w1 ⟨v,rfl,fN,bN⟩;obtain ⟨ka,kc,rfl⟩:=bA fN;have H1:=ae ((H0.Z.MS fN bN).toEnd);clear fN bN H0 HLI;rw [Hi.Z] at H1 ⊢;go_wp2_with fail;go_loopw [6,15] (λnv iv wx=>∃ (k cnt:Nat) (T':TM) (Lk:UL),nv= .int .i64 (cnt:Int)/\iv= .int .i64 (k:Int)/\k<=L.length/\cnt<=k/\ut nm aN ((L.map (·.1)).drop k) T' (Lk.map (·.1)) cnt=R/\Tidy T'.m (n+2*k) (m+2*k)/\T'.size<=T.size+k*1048576/\Lk.Sublist L/\(∀ (i:Nat) y,k<=i->L[i]?=some y->y ∈ Lk)/\
  Own w wx (bO d j t b nm T'++(bE d u st t mp next Lk++(p8 (.slice ka L.length kc) 3 1 L.length (ks.map (Value.int .i64))::rs)))) (λ_ iv _=>L.length - (intOf iv).toNat)
 case atStart=>exact ⟨0,0,T,L,rfl,rfl,fC _,fC _,HR.Z,HT.Z,by omega,CY _,λi y _ hy=>kx hy,H1.Z⟩
 case round=>
  obtain ⟨k,cnt,T',Lk,rfl,rfl,hk,AJ,mW,Ba,jd,AI,pT,bt⟩:=hrel;clear H1;have k0:=np k;by_cases aX:k <L.length
  ·obtain ⟨x,hx⟩:∃ p,L[k]?=some p:=⟨_,js aX⟩;have wa:(L.map (·.1))[k]?=some x.1:=by simp [hx]
   have EJ:=bt.raw (v:= .slice ka L.length kc) (T:=3) (size:=1) (n:=L.length) (xs:=ks.map (Value.int .i64)) (by simp);obtain ⟨g,e,eh⟩:∃ g,ka=some ⟨g,0,none⟩/\wr.cell? ⟨g,k,none⟩=some (.int .i64 x.1.id):=by
    have sL:(ks.map (Value.int .i64))[k]?=some (.int .i64 x.1.id):=by rw [HKS.Z,jc,jc,hx];rfl
    rcases EJ.2 with ⟨e,e2⟩ | ⟨g,cap,gp,e,_⟩
    ·omega
    ·cases e;refine ⟨g,rfl, ?_⟩;have:=EJ.cells (g:=g) rfl k _ sL;simpa [iV] using this
   subst e;have aaK:(Lk.map (λx=>x.1.id)).Nodup:=(AI.map _).nodup Yr.Z;obtain ⟨L1,L2,rfl,hug,dO,DZ,UB,rU⟩:=NR aaK (pT k x (eQ _) hx);obtain ⟨nx,Dj,gQ⟩:=HID.Z x (kx hx);obtain ⟨y,sp,q⟩:=x;dsimp only at Dj eh wa;obtain ⟨-,-,-,-,c4⟩:=eW (bt.at (b:=u) (o:=iX d st t next mp) (by simp [bE])).1;have OT:=(bt.pmap (mp:=mp) (ps:=iy (L1++(y,sp,q)::L2)) (by simp [bE])).look (P:=Tryz.prog) (T:=102) Tryz.underlying102 Tryz.underlying3 (vD wr) y.id false;rw [uJ,hug] at OT;simp only [Ar] at OT;rw [if_neg (by simp)] at OT;have c5:=(mR (bt.focus.at (b:=sp) (o:=fQ y q) (by simp)).1).2.1;have hdr:(L.map (·.1)).drop k=y::(L.map (·.1)).drop (k+1):=by obtain ⟨hi,e⟩:=List.getElem?_eq_some_iff.1 wa;rw [pQ hi,e]
   rw [hdr] at mW;rw [ut] at mW;have j1:(k:Int) <L.length:=by omega
   have kC:=ae aX;have Hk:=ae AI;have RI:=ae AJ;have j5:(cnt:Int)<=100000:=by omega
   by_cases yG:y.bo<=aN
   ·rw [if_pos yG] at mW;have y9:=vO bt hug dO Ba.dQ (by have:=HN.Z.1;omega) (by have h2:=HN.Z.2.1;omega) Dj gQ
    have e2:y.id.toNat=nx:=by omega
    rw [e2] at mW;have pD:=KE (T:=T') (nm:=nm) (ky:=aq nx);have Xy:=Ba.cancel nm (aq nx);have Nd:=KD T' nm (aq nx);have Zt:=ae (show ∀ (i:Nat) z,k+1<=i->L[i]?=some z->z.1.id≠y.id from λi z hi hz e=>by
     have h1:=Yr.Z;have e1:(L.map (λx=>x.1.id))[i]?=some z.1.id:=by rw [jc,hz];rfl
     have e3:(L.map (λx=>x.1.id))[k]?=some y.id:=by rw [jc,hx];rfl
     rw [e] at e1;have:=(List.getElem?_inj (by have:=(List.getElem?_eq_some_iff.1 e1).1;exact this) h1).1 (e1.trans e3.symm);omega)
    generalize eK T' nm (aq nx)=ca at mW y9 pD Xy Nd;obtain ⟨cc,sc,fl⟩:=ca;dsimp only at mW y9 pD Xy Nd;have HC:=ae y9;have NI:=ae mW;have TT:=ae pD;have KY:=ae Xy;have Eu:=ae (show sc.size<=T.size+(k+1)*1048576 from by rw [Nat.succ_mul,<-Nat.add_assoc];exact kT Nd (Nat.add_le_add_right jd _));have HM:=ae pT;have HSU:=ae (UB.trans AI);have HIN:=ae rU;have nN:=ae DZ;clear hx wa hdr mW pT bt Ba jd AI AJ EJ aaK hug dO DZ UB rU Dj gQ aX hk y9 pD Xy Nd e2;go_wp2_with fail;refine HC.Z.mono ?_;rintro e w2 ⟨rfl,h2⟩;dsimp only at h2 ⊢;by_cases qg:cc=0
    ·subst qg;have bM:=NI.Z;rw [if_pos rfl] at bM;have hft:fl=true:=TT.Z rfl;subst hft;rw [if_pos rfl] at h2;have NI:=ae bM;have H2:=ae h2;clear bM h2 HC TT OT c4 c5 eh;go_wp2;go_roundw;case rel=>refine ⟨k+1,cnt+1,sc,L1++L2,by simp,by simp,kC.Z,by have:=RI.Z;omega, ?_,KY.Z.mono (by omega) (by omega),Eu.Z,HSU.Z,λi z hi hz=>HIN.Z z (HM.Z i z (by omega) hz) (Zt.Z i z hi hz),H2.Z⟩;rw [nN.Z];exact NI.Z
     case measure=>have:=kC.Z;simp [intOf];omega
    ·have bM:=NI.Z;rw [if_neg qg] at bM;have b1:(cc !=0)=true:=by simpa using qg
     have HF:=ae (show G3 w d j t b u st mp nm next rs R (.returned (.tuple #[.int .i64 0,.int .i64 cc])) w2 from by
      rw [<-bM];refine ⟨rfl,_, ?_,h2.bR⟩;dsimp only;split
      ·exact nN.Z
      ·rfl)
     clear NI qg h2 HC TT bM OT c4 c5 eh;go_wp2;go_ret2;exact HF.Z
   ·rw [if_neg yG] at mW;have NI:=ae mW;have HM:=ae pT;have QP:=ae bt;have HD:=ae Ba;have Eu:=ae (show T'.size<=T.size+(k+1)*1048576 from by rw [Nat.succ_mul,<-Nat.add_assoc];exact kT jd (Aq _ _));clear hx wa hdr mW pT bt Ba jd AI AJ EJ aaK hug dO DZ UB rU Dj gQ aX hk;go_wp2;go_roundw;case rel=>exact ⟨k+1,cnt,T',_,rfl,by simp,kC.Z,by have:=RI.Z;omega,NI.Z,HD.Z.mono (by omega) (by omega),Eu.Z,Hk.Z,λi z hi hz=>HM.Z i z (by omega) hz,QP.Z⟩
    case measure=>have:=kC.Z;simp [intOf];omega
  ·obtain rfl:k=L.length:=by omega
   have hdr:(L.map (·.1)).drop L.length=[]:=List.drop_eq_nil_of_le (by simp);rw [hdr,ut] at mW;subst mW;have j2:¬(L.length:Int) <L.length:=by omega
   have HF:=ae (show G3 w d j t b u st mp nm next rs (((cnt:Int),0,T',Lk.map (·.1)):Int × Int × TM × List eT) (.returned (.tuple #[.int .i64 (cnt:Int),.int .i64 0])) _ from ⟨rfl,Lk,rfl,bt.bR⟩);clear hdr pT bt Ba jd AI aX hk AJ;go_wp2;go_ret2;exact HF.Z
end
theorem O0 {fn:Func} {p u:Tmp} (h:fn.results=#[.cell p 43,.tmp u]) (tmps:Array Value) (w:World) (g:Nat) (ds:Array Value) (BS:ds.size=3) (hp:tmps.getD p undef= .pointer (some ⟨g,0,none⟩)) (hc:w.heap[g]?=some (.cells ds 43 (0,0))): (results fn tmps).run Tryz.prog w= .ok (.tuple #[.agg ds,tmps.getD u undef]) w:=by rw [results_cell_tmp h,hp];simp only [asAddr,Sem.run_pure,Result.andThen_ok,run_loadVar_row w g 43 43 ds (0,0) _ hc Tryz.underlying43 rfl (by rw [BS];kernel_rfl)]
def UC (x:eT):Value:= .agg #[.string x.au,.int .i64 x.bo,.int .i64 (x.b.length:Int)]
section
variable {w wr:World} {d u st t mp j b:Nat} {nm:aD} {T:TM} {next:Int} {L L1 L2:UL} {rs:List (bB w.heap.size)}
theorem KF {sp q:Nat} (h:Own w w0 (bO d j t b nm T++(bE d u st t mp next (L1++(x,sp,q)::L2)++rs))) (hf:l9 (L1++(x,sp,q)::L2) x.id=some (x,sp,q)): bF 13 #[.pointer (some ⟨u,0,none⟩),.int .i64 x.id] w0 (bH w0 (.tuple #[UC x,.int .i64 0])):=by have h1:=h.gS (.cells #[.string ⟨#[]⟩,.int .i64 0,.int .i64 0] 43);have fb:=mS (L:=L1++(x,sp,q)::L2) h1 (u:=u) (d:=d) (st:=st) (t:=t) (mp:=mp) (next:=next) (by simp [bE]) (by simp [bE]) x.id;unfold pL at fb;rw [hf] at fb;dsimp only at fb;obtain ⟨s0,s1,s2,-⟩:=mR (h1.focus.at (b:=sp) (o:=fQ x q) (by simp)).1;have HF:=ae fb;have HN:=ae (heap_alloc_new w0 (.cells #[.string x.au,.int .i64 x.bo,.int .i64 (x.b.length:Int)] 43));have HK:=ae ((ah.refl (λ_=>False) w0).alloc (.cells #[.string x.au,.int .i64 x.bo,.int .i64 (x.b.length:Int)] 43));unfold UC;generalize x.b.length=bl at*;go_enter Tryz.func13,Tryz.ntmps13;go_wp2_with fail;refine gU HF.Z.Z ?_;go_wp2_with fail;refine bodyPost_ret (O0 Tryz.results13 _ _ w0.heap.size _ rfl rfl HN.Z) rfl ?_;exact ⟨rfl,HK.Z⟩
end
section
variable {w wr:World} {d u st t mp j b:Nat} {nm:aD} {T:TM} {next:Int} {L:UL} {rs:List (bB w.heap.size)}
theorem NS (h:Own w w0 (bO d j t b nm T++(bE d u st t mp next L++rs))) (hf:l9 L id=none):bF 13 #[.pointer (some ⟨u,0,none⟩),.int .i64 id] w0 (bH w0 (.tuple #[.agg #[.string ⟨#[]⟩,.int .i64 0,.int .i64 0],.int .i64 6])):=by have HF:=ae (rP (h.gS (.cells #[.string ⟨#[]⟩,.int .i64 0,.int .i64 0] 43)) hf);have HR:=ae (heap_alloc_new w0 (.cells #[.string ⟨#[]⟩,.int .i64 0,.int .i64 0] 43));have HK:=ae ((ah.refl (λ_=>False) w0).alloc (.cells #[.string ⟨#[]⟩,.int .i64 0,.int .i64 0] 43));go_enter Tryz.func13,Tryz.ntmps13;go_wp2_with fail;refine gU HF.Z.Z ?_;go_wp2_with fail;refine bodyPost_ret (O0 Tryz.results13 _ _ w0.heap.size _ rfl rfl HR.Z) rfl ?_;exact ⟨rfl,HK.Z⟩
def CL (L:UL) (id:Int):Value × Int:=match l9 L id with
 | some x=>(UC x.1,0)
 | none=>(.agg #[.string ⟨#[]⟩,.int .i64 0,.int .i64 0],6)
theorem NT {L:UL} {x:eT × Nat × Nat} (h:l9 L id=some x):x.1.id=id/\∃ L1 L2,L=L1++x::L2:=by unfold l9 at h;exact ⟨by simpa using List.find?_some h,List.append_of_mem (List.mem_of_find?_eq_some h)⟩
theorem Rc (h:Own w w0 (bO d j t b nm T++(bE d u st t mp next L++rs))) (id:Int):bF 13 #[.pointer (some ⟨u,0,none⟩),.int .i64 id] w0 (bH w0 (.tuple #[(CL L id).1,.int .i64 (CL L id).2])):=by
 unfold CL;cases hf:l9 L id with
 | none=>exact NS h hf
 | some x=>obtain ⟨e,L1,L2,rfl⟩:=NT hf;subst e;obtain ⟨x,sp,q⟩:=x;exact KF h hf
end
section
variable {w wr:World} {d u st t mp j b:Nat} {nm:aD} {T:TM} {next:Int} {L:UL} {r q t' u':Nat} {s:DS} {v lv vL:Value} {YK:Int} {P:List (eT × Value)} {S:List (Value × aH)} {rs:List (bB w.heap.size)}
theorem Re {L:UL} (oC:(L.map (λx=>x.1.id)).Nodup) (hx:x ∈ L.map (·.1)):CL L x.id=(UC x,0):=by obtain ⟨y,hy,rfl⟩:=List.mem_map.1 hx;obtain ⟨L1,L2,e,hu,-⟩:=NR oC hy;rw [<-e] at hu;unfold CL;rw [hu]
theorem NU (h:Own w w0 (bO d j t b nm T++(bE d u st t mp next L++(bZ r q t' nm s v lv++(ay r t' u' YK vL P S++rs))))) (fK:mV S P) (hLP:L.map (·.1)=P.map (·.1)) (OR:(L.map (λx=>x.1.id)).Pairwise (· <·)) (hid:∀ y ∈ L,∃ nx:Nat,y.1.id=(nx:Int)/\nx<=4294967295) (kg:∀ y ∈ L,y.1.b.length<=1048576) (hl:L.length<=100000): bF 38 #[.pointer (some ⟨u,0,none⟩),.pointer (some ⟨u',0,none⟩)] w0 (bH w0 (.bool true)):=by
 have oC:(L.map (λx=>x.1.id)).Nodup:=OR.imp (λaX=>by omega);have HLI:=ae (uv h OR (λx hx=>by obtain ⟨nx,e,h2⟩:=hid x hx;omega) (by omega));have cU:P.length=L.length:=by have:=congrArg List.length hLP;simpa using this.symm
 have HLK:=ae (λ(W:World) (hW:ak w0 W) (id:Int)=>Rc (h.quiet hW) id);have adC:=ae (λ(W:World) (hW:ak w0 W)=>(h.quiet hW).qP (v:=vL) (P:=P) (by simp [ay]));have xo:=ae (λ(W:World) (hW:ak w0 W) (i:Nat) (x:eT) (bv:Value) (hx:P[i]?=some (x,bv))=>(h.quiet hW).rds (S:=S) (by simp [ay]) (fK _ (kx hx)));have HU:=ae (λ(W:World) (hW:ak w0 W)=>(jI ((h.quiet hW).at (b:=u') (o:=kQ r t' YK vL) (by simp [ay])).1).2.2.2.1);have Yr:=ae oC;have HLP:=ae hLP;have oi:=ae kg;have yZ:=ae cU;obtain ⟨⟨va,vc,rfl,-,-⟩,-⟩:=h.qP (v:=vL) (P:=P) (by simp [ay]);obtain ⟨ks,sL⟩:=cE (L.map (λx=>x.1.id));rw [<-sL] at HLI;have qU:ks.length=L.length:=by rw [sL,io]
 have HKS:=ae sL;have Hi:=ae qU;have j9:(L.length:Int)<=100000:=by omega
 clear h fK hLP OR hid kg hl oC cU sL qU;go_enter Tryz.func38,Tryz.ntmps38;go_wp2_with fail;refine HLI.Z.mono ?_;rintro e w1 ⟨xZ,rfl,fN,bN⟩;obtain ⟨ka,kc,rfl⟩:=bA fN;have c3:=HU.Z w1 bN;rw [Hi.Z] at fN ⊢;rw [yZ.Z] at c3;have HR:=ae fN;have iW:=ae bN;clear fN bN HLI;go_wp2_with fail;go_loopw [25] (λiv wx=>∃ k:Nat,iv= .int .i64 (k:Int)/\k<=L.length/\ak w1 wx) (λiv _=>L.length - (intOf iv).toNat);case atStart=>exact ⟨0,rfl,fC _,ah.refl _ _⟩
 case round=>
  obtain ⟨k,rfl,hk,sR⟩:=hrel;have k0:=np k;by_cases aX:k <L.length
  ·have sB:=iW.Z.trans sR (λ_ _ e=>e);obtain ⟨⟨x,bv⟩,hx⟩:∃ p,P[k]?=some p:=⟨_,js (by rw [yZ.Z];exact aX)⟩;have wa:(L.map (·.1))[k]?=some x:=by rw [HLP.Z];simp [hx]
   obtain ⟨g,c',e,q0,q1,q2,q3⟩:=(adC.Z wr sB).2 k x bv hx;have hbd:=xo.Z wr sB k x bv hx;obtain ⟨ba,bc,rfl,-,-⟩:=hbd.aG;rw [yZ.Z] at e;cases e;have AO:x.b.length<=1048576:=by obtain ⟨y,hy,e⟩:=List.mem_map.1 (kx wa);rw [<-e];exact oi.Z y hy
   obtain ⟨W1,hW1⟩:=cE (wr.alloc (.cells #[.int .i64 x.id,.int .i64 x.bo,.string x.au,.slice ba x.b.length bc] 189));have mn:ak wr W1:=by rw [hW1];exact (ah.refl _ wr).alloc _
   have hbW:W1.heap[wr.heap.size]?=some (.cells #[.int .i64 x.id,.int .i64 x.bo,.string x.au,.slice ba x.b.length bc] 189 (0,0)):=by rw [hW1];exact heap_alloc_new wr _
   have OT:=HLK.Z W1 (sB.trans mn (λ_ _ e=>e)) x.id;rw [Re Yr.Z (kx wa)] at OT;unfold UC at OT;have EJ:=HR.Z;obtain ⟨g2,e,eh⟩:∃ g,ka=some ⟨g,0,none⟩/\w1.cell? ⟨g,k,none⟩=some (.int .i64 x.id):=by
    have sL:(ks.map (Value.int .i64))[k]?=some (.int .i64 x.id):=by
     rw [HKS.Z,jc,jc];rw [jc] at wa;cases hy:L[k]? with
     | none=>rw [hy] at wa;cases wa
     | some y=>rw [hy] at wa;cases wa;rfl
    rcases EJ.2 with ⟨e,e2⟩ | ⟨g,cap,gp,e,_⟩
    ·omega
    ·cases e;refine ⟨g,rfl, ?_⟩;have:=EJ.cells (g:=g) rfl k _ sL;simpa [iV] using this
   subst e;have iL:=aJ eh sR;have HC1:=ae (aJ iL mn);have ack:=ae OT;have RE:=ae (sR.trans mn (λ_ _ e=>e));have HBW:=ae hbW;have HWW:=ae hW1;have kC:=ae aX;have j1:(k:Int) <L.length:=by omega
   generalize hbz:wr.heap.size=bz at HBW;have HBZ:=ae hbz;clear hx wa hbd AO sB OT EJ eh iL hW1 mn hbW sR hk aX hbz;go_wp2_with fail;rw [HBZ.Z,<-HWW.Z];refine ack.Z.mono ?_;rintro e w2 ⟨rfl,cg⟩;have HB2:=cg.at HBW.Z (λe=>e);have VY:=aJ HC1.Z cg;have CR:=ae (RE.Z.trans cg (λ_ _ e=>e));clear cg ack HC1 HBW HWW RE HBZ q0 q1 q2 q3;go_upto_region 8 with fail;have SY:ak w2 (w2.alloc (.cells #[.string x.au,.int .i64 x.bo,.int .i64 (x.b.length:Int)] 43)):=(ah.refl _ w2).alloc _;have hbA:=heap_alloc_new w2 (.cells #[.string x.au,.int .i64 x.bo,.int .i64 (x.b.length:Int)] 43);have YF:=aJ VY SY;have yt:=SY.at HB2 (λe=>e);have X9:=ae (CR.Z.trans SY (λ_ _ e=>e));generalize w2.alloc (.cells #[.string x.au,.int .i64 x.bo,.int .i64 (x.b.length:Int)] 43)=W3 at hbA YF yt X9 ⊢;generalize w2.heap.size=sz at hbA ⊢;have e0:W3.cell? ⟨bz,0,none⟩=some (.int .i64 x.id):=ag yt rfl;have e1:W3.cell? ⟨bz,1,none⟩=some (.int .i64 x.bo):=ag yt rfl;have e2:W3.cell? ⟨bz,2,none⟩=some (.string x.au):=ag yt rfl;have e3:W3.cell? ⟨bz,3,none⟩=some (.slice ba x.b.length bc):=ag yt rfl;have s0:W3.cell? ⟨sz,0,none⟩=some (.string x.au):=ag hbA rfl;have s1:W3.cell? ⟨sz,1,none⟩=some (.int .i64 x.bo):=ag hbA rfl;have s2:W3.cell? ⟨sz,2,none⟩=some (.int .i64 (x.b.length:Int)):=ag hbA rfl;clear HB2 VY SY hbA yt CR;go_quiet (fail);clear e0 e1 e2 e3 s0 s1 s2 YF;go_wp2;go_roundw;case rel=>exact ⟨k+1,by simp,kC.Z,X9.Z.drewN _⟩
   case measure=>have:=kC.Z;simp [intOf];omega
  ·obtain rfl:k=L.length:=by omega
   have j2:¬(L.length:Int) <L.length:=by omega
   have HK:=ae (iW.Z.trans sR (λ_ _ e=>e));clear aX hk sR;go_wp2;go_ret;exact ⟨rfl,HK.Z⟩
end
structure kH (R:Int) (T:TM) (nx k n z:Nat):Prop where
 pu:PU R T k
 uk:UK T.fs nx nx
 gQ:200*nx<=k+100
 tidy:Tidy T.m n n
 size:T.size<=z
theorem kH.mono {R:Int} {T:TM} {nx k n z k' n' z':Nat} (h:kH R T nx k n z) (hk:k<=k') (hn:n<=n') (hz:z<=z'):kH R T nx k' n' z':=
 ⟨h.pu.mono hk,h.uk,by have:=h.gQ;omega,h.tidy.mono hn hn,kT h.size hz⟩
theorem kH.lW {k' n':Nat} (h:kH R T nx k n z) {m:DM} (hp:PU R {T with m:=m} k') (hk:k<=k') (ht:Tidy m n' n'):kH R {T with m:=m} nx k' n' z:=
 ⟨hp,h.uk,by have:=h.gQ;omega,ht,h.size⟩
theorem kH.app {R:Int} {T:TM} {nx k n z:Nat} (h:kH R T nx k n z) {L:List eX} {xT:Nat} (hl:L.length<=8) (gQ:200*xT<=k+101) (hu:UK (en T.fs L) xT xT): kH R (bL T bY L).2 (if (bL T bY L).1=0 then xT else nx) (k+1) (n+1) (z+1048576):=by
 have Np:=h.pu.1;have h1:PU R (bL T bY L).2 (k+1):=h.pu.app (λhb=>UT.of (ig.en L Np.ok hb) (hu.mono (eQ _)) (by have:=nI L T.fs;have:=Np.len;omega) gQ);have h2:=Uw T bY L;refine ⟨h1, ?_, ?_,(h.tidy.WX bY L),kT (mU T bY L) (Nat.add_le_add_right h.size _)⟩
 ·by_cases hc:(bL T bY L).1=0
  ·rw [if_pos hc,(h2.1 hc).1];exact hu
  ·rw [if_neg hc,h2.2 hc];exact h.uk
 ·have:=h.gQ;split <;>omega
theorem kH.aaL (h:kH R T nx k n z) {L:List eX} (hl:L.length<=8) (hc:∀ c ∈ L,Xw nx c):kH R (bL T bY L).2 nx (k+1) (n+1) (z+1048576):=by have h1:=h.app hl (by have:=h.gQ;omega) (UK.all L h.uk h.pu.1.ok.sorted hc);split at h1 <;>exact h1
theorem KG (nx id:Nat):∀ c ∈ [(⟨aq id,true,[]⟩:eX)],Xw nx c:=λc hc=>by rw [Fw] at hc;subst hc;exact ⟨TU id,λ_ e=>by cases e⟩
theorem kH.del {R:Int} {T:TM} {nx k n z:Nat} (h:kH R T nx k n z) {f:aD} (h1:f≠bY) (h2:f≠nV):kH R {T with m:=(aE T.m f).2} nx k (n+1) z:=
 h.lW (h.pu.del h1 h2) (eQ _) (h.tidy.dZ f)
theorem kH.sync {R:Int} {T:TM} {nx k n z:Nat} (h:kH R T nx k n z):kH R {T with m:=(aV T.m).2} nx k n z:=
 h.lW h.pu.sync (eQ _) h.tidy.sync
theorem kH.Kd (h:kH R T nx k n z) (id:Nat) (hd:dg.length=32):kH R {T with m:=(cT T.m (aq id) dg).2} nx (k+1) (n+1) z:=by
 have He:=(h.del (ze id) (uP id)).mono (eM k) (eQ _) (eQ _);have uw:=He.sync;have bM:kH R {T with m:=(bw T.m (aq id) (aY dg)).2} nx (k+1) (n+1) z:=h.lW (h.pu.rename (ze id) (uP id) (TV hd) (QX hd)) (eM _) (h.tidy.rename _ _);have CP:=bM.sync;have h0:=h.mono (eM k) (eM n) (eQ z);unfold cT;repeat' split
 all_goals first | exact uw | exact He | exact CP | exact bM | exact h0
theorem kH.close (h:kH R T nx k n z) (id:Nat) (hd:dg.length=32):kH R (eo T bY (aq id) dg).2 nx (k+2) (n+2) (z+1048576):=by
 have h1:=h.Kd id hd;have h2:=h1.aaL (by simp) (KG nx id);unfold eo;split
 ·exact h1.mono (by omega) (by omega) (by omega)
 ·split <;>exact h2
theorem kH.cancel (h:kH R T nx k n z) (id:Nat):kH R (eK T bY (aq id)).2.1 nx (k+1) (n+2) (z+1048576):=by
 have h1:=h.aaL (L:=[⟨aq id,true,[]⟩]) (by simp) (KG nx id);have h2:=h1.del (ze id) (uP id);have h3:=h2.sync;unfold eK;split
 ·split
  ·exact h3
  ·exact h2
 ·exact h1.mono (by omega) (by omega) (by omega)
theorem kH.finish (h:kH R T nx k n z) {id:Nat} (hid:1<=id/\id <nx) (hr:gf x.au=true) (ht:0<=x.bo/\x.bo<=1099511627776) (hd:dg.length=32) {more:List eX} (hm:∀ c ∈ more,Xw nx c) (hl:more.length<=5): kH R (ow T bY (aq id) x dg more).2.1 nx (k+3) (n+3) (z+2097152):=by
 have hp:=h.uk.pos;have h1:=h.aaL (L:=more++[⟨aq id,false,cD x.au x.bo.toNat dg⟩]) (by simp;omega) (λc hc=>by
  rcases List.mem_append.1 hc with hc | hc
  ·exact hm c hc
  ·rw [Fw] at hc;subst hc;exact ⟨TU id,λ_ _=>⟨⟨id,x.au,x.bo,dg⟩,⟨hid.1,by show id<=_;omega,hr,ht,.inr hd⟩,rfl,rfl,hid.2⟩⟩)
 have h2:=h1.close id hd;unfold ow;split
 ·split
  ·exact h2.mono (by omega) (by omega) (by omega)
  ·exact h1.mono (by omega) (by omega) (by omega)
 ·exact h.mono (by omega) (by omega) (by omega)
theorem kH.acl (h:kH R T nx k n z) (id:Nat) (x:eT) (at_:Int) (p:aH):kH R (eH T (aq id) x at_ p).2.1 nx (k+1) (n+1) z:=by
 have h1:kH R {T with m:=(aM T.m (aq id) p).2} nx (k+1) (n+1) z:=h.lW (h.pu.append (ze id) (uP id) p) (eM _) (h.tidy.append _ _);have h2:=h1.sync;have h0:=h.mono (eM k) (eM n) (eQ z);unfold eH;repeat' split
 all_goals first | exact h2 | exact h1 | exact h0
theorem Rf (T:TM) (ky:aD) (x:eT) (at_:Int) (p:aH):(eH T ky x at_ p).2.2=x\/((eH T ky x at_ p).2.2={x with b:=x.b++p}/\x.b.length+p.length<=1048576):=by
 unfold eH;split
 ·split
  ·exact .inl rfl
  ·split
   ·split
    ·exact .inr ⟨rfl,by omega⟩
    ·exact .inl rfl
   ·exact .inl rfl
 ·exact .inl rfl
theorem kH.start {R:Int} {T:TM} {nx k n z:Nat} (h:kH R T nx k n z) (hx:nx <4294967296) (au:aD) (bo:Int): ((dV T bY nx au bo).2.1=0->kH R (dV T bY nx au bo).2.2 (nx+1) (k+200) (n+3) (z+1048576)/\gf au=true/\(0<=bo/\bo<=1099511627776))/\ (¬(dV T bY nx au bo).2.1=0->kH R (dV T bY nx au bo).2.2 nx (k+200) (n+3) (z+1048576)):=by
 have hh:=h.mono (show k<=k+198 by omega) (eQ _) (eQ _);have h0:=h.mono (show k<=k+200 by omega) (show n<=n+3 by omega) (show z<=z+1048576 by omega);unfold dV;by_cases hr:gf au=true
 ·rw [if_pos hr];by_cases ht:bo <0\/1099511627776 <bo
  ·rw [if_pos ht];exact ⟨λe=>absurd (show (1:Int)=0 from e) (by omega),λ_=>h0⟩
  rw [if_neg ht,if_neg (show ¬4294967295 <nx by omega)];have h1:kH R {T with m:=(aO T.m (aq nx)).2} nx (k+198+1) (n+1) z:=hh.lW (hh.pu.fY (ze nx) (uP nx)) (eM _) (h.tidy.fY _);by_cases hc:(aO T.m (aq nx)).1=0
  ·rw [if_pos hc];have h2:=h1.app (L:=[⟨aq nx,false,cD au bo.toNat []⟩,⟨uB,false,aL (nx+1) 8⟩]) (xT:=nx+1) (by simp) (by have:=h.gQ;omega) (h.uk.start h.pu.1.ok.sorted hx hr (by omega));change kH R (bL ⟨(aO T.m (aq nx)).2,T.size,T.fs,T.bh⟩ bY [⟨aq nx,false,cD au bo.toNat []⟩,⟨uB,false,aL (nx+1) 8⟩]).2 (if (bL ⟨(aO T.m (aq nx)).2,T.size,T.fs,T.bh⟩ bY [⟨aq nx,false,cD au bo.toNat []⟩,⟨uB,false,aL (nx+1) 8⟩]).1=0 then nx+1 else nx) _ _ _ at h2;generalize bL ⟨(aO T.m (aq nx)).2,T.size,T.fs,T.bh⟩ bY [⟨aq nx,false,cD au bo.toNat []⟩,⟨uB,false,aL (nx+1) 8⟩]=ap at h2 ⊢;by_cases ha:ap.1=0
   ·rw [if_pos ha] at h2 ⊢;exact ⟨λ_=>⟨h2.mono (by omega) (by omega) (eQ _),hr,by omega⟩,λe=>absurd rfl e⟩
   ·rw [if_neg ha] at h2 ⊢;have h3:=(h2.del (ze nx) (uP nx)).mono (show k+198+1+1<=k+200 by omega) (show n+1+1+1<=n+3 by omega) (eQ _);refine ⟨λe=> ?_,λ_=>h3⟩;exfalso;dsimp only at e;split at e
    ·exact ha e
    ·rename_i h5;exact h5 e
  ·rw [if_neg hc];exact ⟨λe=>absurd e hc,λ_=>h1.mono (by omega) (by omega) (by omega)⟩
 ·rw [if_neg hr];exact ⟨λe=>absurd (show (70:Int)=0 from e) (by omega),λ_=>h0⟩
theorem kH.expire {R:Int} {nx:Nat} (aN:Int):∀ (l:List eT) {T:TM} {S:List eT} {c k n z:Nat},kH R T nx k n z->kH R (ut bY aN l T S c).2.2.1 nx (k+l.length) (n+2*l.length) (z+1048576*l.length)
 | [],T,S,c,k,n,z,h=>h
 | x::l,T,S,c,k,n,z,h=>by
  have h1:=h.cancel x.id.toNat;rw [ut];split
  ·split
   ·have h2:=kH.expire aN l (S:=S.filter (λy=>decide (y.id≠x.id))) (c:=c+1) h1;exact h2.mono (by rw [iM];omega) (by rw [iM];omega) (by rw [iM];omega)
   ·exact h1.mono (by rw [iM];omega) (by rw [iM];omega) (by rw [iM];omega)
  ·have h2:=kH.expire aN l (S:=S) (c:=c) h;exact h2.mono (by rw [iM];omega) (by rw [iM];omega) (by rw [iM];omega)
theorem G4 (nm:aD) (aN:Int):∀ (l:List eT) (T:TM) (S:List eT) (c:Nat),(ut nm aN l T S c).2.2.2.Sublist S
 | [],T,S,c=>CY _
 | x::l,T,S,c=>by
  rw [ut];split
  ·split
   ·exact (G4 nm aN l _ _ _).trans O5
   ·dsimp only;split
    ·exact O5
    ·exact CY _
  ·exact G4 nm aN l _ _ _
theorem PU.aR {R:Int} {T:TM} {k:Nat} (h:PU R T k):T.m.aR=R:=by
 obtain ⟨-,⟨_,aQ,g,P,n,-,-,-,-,hu⟩ | ⟨n,hd⟩⟩:=h
 ·exact hu.aR
 ·exact hd.aR
def SOk (nx:Nat) (x:eT):Prop:=∃ j:Nat,x.id=(j:Int)/\1<=j/\j <nx/\gf x.au=true/\(0<=x.bo/\x.bo<=1099511627776)/\x.b.length<=1048576
theorem SOk.mono {xT:Nat} (h:SOk nx x) (hn:nx<=xT):SOk xT x:=by obtain ⟨j,h1,h2,h3,h4⟩:=h;exact ⟨j,h1,h2,by omega,h4⟩
structure vu (R:Int) (T:TM) (S:List eT) (nx i:Nat):Prop where
 q:kH R T nx (200*i+100) (100000000*(i+1)) (110000000*i+70000000)
 ids:(S.map (·.id)).Pairwise (· <·)
 each:∀ x ∈ S,SOk nx x
theorem G5:∀ (l:List Int) (a:Int),l.Pairwise (· <·)->(∀ x ∈ l,a<=x)->∀ b:Int,(∀ x ∈ l,x <b)->a<=b->(l.length:Int)<=b - a
 | [],a,_,_,b,_,PE=>by simp;omega
 | x::l,a,hp,ha,b,hb,PE=>by have yf:=List.pairwise_cons.1 hp;have h1:=ha x (gw ..);have h2:=hb x (gw ..);have:=G5 l (x+1) yf.2 (λy hy=>by have:=yf.1 y hy;omega) b (λy hy=>hb y (nO _ hy)) (by omega);rw [iM];omega
theorem vu.nxi (h:vu R T S nx i):nx<=i+1:=by have:=h.q.gQ;omega
theorem vu.IA (h:vu R T S nx i):S.length<=i:=by
 have h1:=G5 (S.map (·.id)) 1 h.ids (λx hx=>by
  obtain ⟨y,hy,rfl⟩:=List.mem_map.1 hx;obtain ⟨j,e,h1,h2,-⟩:=h.each y hy;omega) (nx:Int) (λx hx=>by
  obtain ⟨y,hy,rfl⟩:=List.mem_map.1 hx;obtain ⟨j,e,h1,h2,-⟩:=h.each y hy;omega) (by have:=h.q.uk.pos;omega)
 rw [io] at h1;have:=h.nxi;omega
theorem vu.sub {T':TM} (h:vu R T S nx i) (hq:kH R T' nx (200*i+100+k) (100000000*(i+1)+n) (110000000*i+70000000+z)) (hk:k<=200) (hn:n<=1000000) (hz:z<=100000000) (hs:S'.Sublist S):vu R T' S' nx (i+1):=
 ⟨hq.mono (by omega) (by omega) (by omega),List.Pairwise.sublist (hs.map _) h.ids,λx hx=>h.each x (hs.subset hx)⟩
theorem vu.same (h:vu R T S nx i):vu R T S nx (i+1):=
 h.sub (k:=0) (n:=0) (z:=0) h.q (by omega) (by omega) (by omega) (CY _)
theorem vu.Xz (h:vu R T S nx i) (hi:i<=1000) (au:aD) (bo:Int): ((dV T bY nx au bo).2.1=0->vu R (dV T bY nx au bo).2.2 (S++[⟨(nx:Int),au,bo,[]⟩]) (nx+1) (i+1))/\ (¬(dV T bY nx au bo).2.1=0->vu R (dV T bY nx au bo).2.2 S nx (i+1)):=by
 have hx:=h.nxi;have hp:=h.q.uk.pos;have h1:=h.q.start (by omega) au bo;refine ⟨λe=> ?_,λe=> ?_⟩
 ·obtain ⟨q,hr,ht⟩:=h1.1 e;refine ⟨q.mono (by omega) (by omega) (by omega), ?_,λx hx=> ?_⟩
  ·rw [mB,List.pairwise_append];refine ⟨h.ids,by simp,λa ha b hb=> ?_⟩;obtain ⟨y,hy,rfl⟩:=List.mem_map.1 ha;obtain ⟨j,e,h1,h2,-⟩:=h.each y hy;simp at hb;omega
  ·rcases List.mem_append.1 hx with hx | hx
   ·exact (h.each x hx).mono (eM _)
   ·rw [Fw] at hx;subst hx;exact ⟨nx,rfl,hp.1,Nat.lt_succ_self _,hr,ht,by simp⟩
 ·exact h.sub (k:=200) (n:=3) (z:=1048576) (h1.2 e) (by omega) (by omega) (by omega) (CY _)
theorem vu.XA {S1 S2:List eT} {id:Nat} (h:vu R T (S1++x::S2) nx i) (at_:Int) (p:aH):vu R (eH T (aq id) x at_ p).2.1 (S1++(eH T (aq id) x at_ p).2.2::S2) nx (i+1):=by
 have q:=h.q.acl id x at_ p;have hs:=Rf T (aq id) x at_ p;have hid:(eH T (aq id) x at_ p).2.2.id=x.id:=by rcases hs with e | ⟨e,-⟩ <;>rw [e]
 refine ⟨q.mono (by omega) (by omega) (by omega), ?_,λy hy=> ?_⟩
 ·have:=h.ids;rw [mB,kz] at this ⊢;rw [hid];exact this
 ·rcases List.mem_append.1 hy with hy | hy
  ·exact h.each y (List.mem_append_left _ hy)
  ·rcases List.mem_cons.1 hy with rfl | hy
   ·have hx:=h.each x (by simp);rcases hs with e | ⟨e,hl⟩
    ·rw [e];exact hx
    ·rw [e];obtain ⟨j,h1,h2,h3,h4,h5,h6⟩:=hx;exact ⟨j,h1,h2,h3,h4,h5,by show (x.b++p).length<=_;rw [fS];exact hl⟩
   ·exact h.each y (by simp [hy])
theorem vu.UD {id:Nat} (h:vu R T S nx i) (hx:x ∈ S) (hid:x.id=(id:Int)) (hd:dg.length=32) {more:List eX} (hm:∀ c ∈ more,Xw nx c) (hl:more.length<=5) (hs:S'.Sublist S): vu R (ow T bY (aq id) x dg more).2.1 S' nx (i+1):=by obtain ⟨j,h1,h2,h3,h4,h5,h6⟩:=h.each x hx;exact h.sub (k:=3) (n:=3) (z:=2097152) (h.q.finish ⟨by omega,by omega⟩ h4 h5 hd hm hl) (by omega) (by omega) (by omega) hs
theorem vu.UF (h:vu R T S nx i) (id:Nat) (hs:S'.Sublist S):vu R (eK T bY (aq id)).2.1 S' nx (i+1):=
 h.sub (k:=1) (n:=2) (z:=1048576) (h.q.cancel id) (by omega) (by omega) (by omega) hs
theorem vu.UG (h:vu R T S nx i) (hi:i<=50) (aN:Int):vu R (ut bY aN S T S 0).2.2.1 (ut bY aN S T S 0).2.2.2 nx (i+1):=by have hf:=h.IA;exact h.sub (k:=S.length) (n:=2*S.length) (z:=1048576*S.length) (h.q.expire aN S) (by omega) (by omega) (by omega) (G4 bY aN S T S 0)
theorem kH.resume (h:kH R T nx k n z) {x:UE} (hx:wI x):kH R (cO T bY x).2.1 nx (k+2) (n+2) (z+1048576):=by
 unfold cO;by_cases Ya:x.e.length=32
 ·rw [if_pos Ya];exact h.close x.id Ya
 ·rw [if_neg Ya];split <;>exact h.mono (by omega) (by omega) (by omega)
theorem CN (T:TM) (nm:aD) (x:UE):(cO T nm x).2.2=none\/((cO T nm x).2.2=some ⟨(x.id:Int),x.au,x.bo,cW T.m (aq x.id)⟩):=by
 unfold cO;repeat' split
 all_goals first | exact .inl rfl | exact .inr rfl
theorem kH.dU {R:Int} {nx:Nat} (hR:R<=1048576):∀ (E:List UE) {T:TM} {S:List eT} {k n z:Nat},kH R T nx k n z->(∀ x ∈ E,wI x/\x.id <nx)->(S.map (·.id)++E.map (λx=>(x.id:Int))).Pairwise (· <·)->(∀ s ∈ S,SOk nx s)-> kH R (dU bY E T S).2.1 nx (k+2*E.length) (n+2*E.length) (z+1048576*E.length)/\((dU bY E T S).2.2.map (·.id)).Pairwise (· <·)/\(∀ s ∈ (dU bY E T S).2.2,SOk nx s)
 | [],T,S,k,n,z,h,hE,hp,hS=>⟨h,by rw [Av,qh] at hp;exact hp,hS⟩
 | x::E,T,S,k,n,z,h,hE,hp,hS=>by
  obtain ⟨hx,hxn⟩:=hE x (gw ..);have h1:=h.resume hx;have hE2:∀ y ∈ E,wI y/\y.id <nx:=λy hy=>hE y (nO _ hy);rw [Go.Proofs.YtlcnhpjggjgnpaaGreatDoor.dU];by_cases hc:(cO T bY x).1=0
  ·rw [if_pos hc];have hb:(cW T.m (aq x.id)).length<=1048576:=by have h2:=Fc h.tidy.dQ (aq x.id);rw [h.pu.aR] at h2;omega
   have h3:=kH.dU hR E (S:=S++(cO T bY x).2.2.toList) h1 hE2 (by
    rcases CN T bY x with e | e
    ·rw [e];simp only [Option.toList_none,qh];exact hp.sublist (List.Sublist.append (CY _) (by rw [kz];exact List.sublist_cons_self _ _))
    ·rw [e];simpa [lN] using hp) (λs hs=>by
    rcases List.mem_append.1 hs with hs | hs
    ·exact hS s hs
    ·rcases CN T bY x with e | e
     ·rw [e] at hs;simp at hs
     ·rw [e] at hs;simp at hs;subst hs;exact ⟨x.id,rfl,hx.id0,hxn,hx.au,hx.bo,hb⟩)
   exact ⟨h3.1.mono (by rw [iM];omega) (by rw [iM];omega) (by rw [iM];omega),h3.2⟩
  ·rw [if_neg hc];exact ⟨h1.mono (by rw [iM];omega) (by rw [iM];omega) (by rw [iM];omega),(List.pairwise_append.1 hp).1,hS⟩
theorem XB:cH bY p9=false:=by decide+kernel
theorem UH:cH nV p9=false:=by decide+kernel
theorem Rg {f:aD} (h:cH f p9=true):f≠bY/\f≠nV:=by
 refine ⟨λe=> ?_,λe=> ?_⟩
 ·rw [e,XB] at h;cases h
 ·rw [e,UH] at h;cases h
theorem kH.dt {R:Int} {nx:Nat} (fs:FS):∀ (l:List aD) {T:TM} {g k n z:Nat},kH R T nx k n z->(∀ f ∈ l,cH f p9=true)->kH R {T with m:=(dt fs l T.m g).2} nx k (n+l.length) z
 | [],T,g,k,n,z,h,_=>by
  unfold Go.Proofs.YtlcnhpjggjgnpaaGreatDoor.dt;split
  ·exact h.sync
  ·exact h
 | f::l,T,g,k,n,z,h,hl=>by
  have qe:∀ y ∈ l,cH y p9=true:=λy hy=>hl y (nO _ hy);obtain ⟨f1,f2⟩:=Rg (hl f (gw ..));have h1:=h.del f1 f2;unfold Go.Proofs.YtlcnhpjggjgnpaaGreatDoor.dt;split
  ·exact (kH.dt fs l h qe).mono (eQ _) (by rw [iM];omega) (eQ _)
  ·split
   ·exact (kH.dt fs l (g:=g+1) h1 qe).mono (eQ _) (by rw [iM];omega) (eQ _)
   ·exact h1.mono (eQ _) (by rw [iM];omega) (eQ _)
theorem kH.acm (h:kH R T nx k n z):kH R (nh T).2 nx k (n+k+2) z:=by
 have hn:=h.pu.names;unfold nh;by_cases hd:T.m.bh=true
 ·rw [if_pos hd];exact h.mono (eQ _) (by omega) (eQ _)
 ·rw [if_neg hd];rcases hn with e | hn
  ·exact absurd e hd
  have h1:=kH.dt T.fs (cY T.m.aN p9) (g:=0) h (λf hf=>by unfold cY at hf;obtain ⟨p,hp,rfl⟩:=List.mem_map.1 hf;exact (List.mem_filter.1 hp).2)
  have h2:=TP T.m.aN p9;exact h1.mono (eQ _) (by omega) (eQ _)
theorem kH.acn (h:kH R T nx k n z) (hR:R<=1048576) {E:List UE} (hE:∀ x ∈ E,wI x/\x.id <nx) (hp:(E.map (·.id)).Pairwise (· <·)): kH R (eZ T bY E).2.1 nx (k+2*E.length) (n+2*E.length+(k+2*E.length)+2) (z+1048576*E.length)/\((eZ T bY E).2.2.map (·.id)).Pairwise (· <·)/\(∀ s ∈ (eZ T bY E).2.2,SOk nx s):=by
 obtain ⟨h1,h2,h3⟩:=kH.dU hR E (S:=[]) h hE (by rw [Av,pj,List.pairwise_map];exact (List.pairwise_map.1 hp).imp (λh=>by omega)) (λs hs=>by simp at hs)
 have h4:=h1.acm;unfold eZ;split
 ·exact ⟨h4,h2,h3⟩
 ·exact ⟨h1.mono (eQ _) (by omega) (eQ _),h2,h3⟩
def OpC (m:DM) (E:List UE) (nx:Nat):Prop:=
 ((dC m).1=0->∀ size fs,(bI (dC m).2 bY).tab=some (size,fs)->vq fs E nx/\size+E.length*1048576<=1099511627776/\fs.length<=1000000/\(bI (dC m).2 bY).m.aR<=1048576/\∃ k k',Tidy (bI (dC m).2 bY).m k k'/\2*k+2*k'+8*E.length+200 <549755813888)/\
 ((dC m).1=0->∀ size fs aQ,(bI (dC m).2 bY).tab=some (size,fs)->(ct (dC m).2 bY).res=some (aQ,size)->vq fs E nx/\(aj aQ).length=size/\∃ k c,DK ⟨(bI (dC m).2 bY).m,aQ,fs,false⟩ k c/\2*k+8*E.length+200 <549755813888/\c+E.length+60<=900000)
theorem UI {m:DM} (h:DN R m (200*i+100)) (ht:Tidy m (100000000*(i+1)) (100000000*(i+1))) (hR:R<=1048576) (hi:i<=50): ∃ E nx,OpC m E nx/\∀ T S,(sj m E).2.2=some (T,S)->vu R T S nx (i+1):=by
 by_cases hb:(dC m).1=0
 ·have h1:=h.store hb;have DA:=ht.aav;obtain ⟨m1,UW⟩:=cE ((dC m).2);unfold OpC;have ho:∀ E,sj m E=match (bI m1 bY).tab with
    | none=>((bI m1 bY).code,(bI m1 bY).m,none)
    | some sf=>
     if (eZ ⟨(bI m1 bY).m,sf.1,sf.2,false⟩ bY E).1=0 then (0,(eZ ⟨(bI m1 bY).m,sf.1,sf.2,false⟩ bY E).2.1.m,some (eZ ⟨(bI m1 bY).m,sf.1,sf.2,false⟩ bY E).2)
     else ((eZ ⟨(bI m1 bY).m,sf.1,sf.2,false⟩ bY E).1,(eZ ⟨(bI m1 bY).m,sf.1,sf.2,false⟩ bY E).2.1.m,none):=λE=>by
   rw [UW];exact if_pos hb
  rw [<-UW] at h1 DA ⊢;rcases h1.open with ⟨e,dO⟩ | ⟨rs,fs,py,wK,adJ,hpu⟩
  ·refine ⟨[],1,⟨λ_ size fs e2=> ?_,λ_ size fs aQ e2=> ?_⟩,λT S e2=> ?_⟩
   ·rw [e] at e2;cases e2
   ·rw [e] at e2;cases e2
   ·rw [ho,e] at e2;cases e2
  ·obtain ⟨nx,huk,gQ⟩:=hpu.1.up;have fK:=hpu.1.ok;have cU:fs.length<=8*(200*i+100+1):=hpu.1.len;obtain ⟨E,hE,hE2,hE3⟩:=UK.tab huk fK;have hm:(bI m1 bY).m=(ct m1 bY).m:=by
    unfold bI;split
    ·rfl
    ·split <;>rfl
   have Ba:Tidy (bI m1 bY).m (100000000*(i+1)+1+67108880) (100000000*(i+1)+1+67108880):=by rw [hm];exact DA.ab9 bY
   have jd:=(Fb DA.dQ bY py).2.2;have hEl:(E.length:Int)<=(nx:Int) - 1:=by
    have:=G5 (E.map (λx:UE=>(x.id:Int))) 1 (by rw [List.pairwise_map];exact (List.pairwise_map.1 hE3).imp (λh=>by omega)) (λx hx=>by
     obtain ⟨y,hy,rfl⟩:=List.mem_map.1 hx;have:=(hE.each y hy).id0;omega) (nx:Int) (λx hx=>by
     obtain ⟨y,hy,rfl⟩:=List.mem_map.1 hx;have:=hE2 y hy;omega) (by have:=huk.pos;omega)
    rw [io] at this;exact this
   have Kq:=hpu.aR;have Kq:(bI m1 bY).m.aR=R:=Kq;refine ⟨E,nx,⟨λ_ size wQ e2=> ?_,λ_ size wQ aQ e2 e3=> ?_⟩,λT S e2=> ?_⟩
   ·rw [wK] at e2;simp only [im,Prod.mk.injEq] at e2;obtain ⟨rfl,rfl⟩:=e2;exact ⟨hE,by omega,by omega,by omega,_,_,Ba,by omega⟩
   ·rw [wK] at e2;simp only [im,Prod.mk.injEq] at e2;obtain ⟨rfl,rfl⟩:=e2;rw [py] at e3;simp only [im,Prod.mk.injEq] at e3;obtain ⟨rfl,-⟩:=e3;exact ⟨hE,rfl,_,0,⟨Ba,by show (aj rs).length<=_;omega,fK,by show fs.length<=_;omega⟩,by omega,by omega⟩
   ·rw [ho,wK] at e2;dsimp only at e2;have hq:kH R ⟨(bI m1 bY).m,(aj rs).length,fs,false⟩ nx (200*i+100+1) (100000000*(i+1)+1+67108880) 67108864:=⟨hpu,huk,gQ,Ba,jd⟩;obtain ⟨q1,q2,q3⟩:=hq.acn hR (λx hx=>⟨hE.each x hx,hE2 x hx⟩) hE3;generalize eZ ⟨(bI m1 bY).m,(aj rs).length,fs,false⟩ bY E=uo at e2 q1 q2 q3;split at e2
    ·simp only [im] at e2;obtain ⟨c,T',S'⟩:=uo;cases e2;exact ⟨q1.mono (by omega) (by omega) (by omega),q2,q3⟩
    ·cases e2
 ·refine ⟨[],1,⟨λe=>absurd e hb,λe=>absurd e hb⟩,λT S e2=> ?_⟩;unfold sj at e2;rw [if_neg hb] at e2;cases e2
theorem vu.XC (h:vu R T S nx i) (keep part:Int):DN R (cX T.m keep part) (200*i+100)/\Tidy (cX T.m keep part) (100000000*(i+1)) (100000000*(i+1))/\(cX T.m keep part).bh=false:=by have h1:=h.q.pu.xi keep part;refine ⟨h1,(h.q.tidy.xi keep part).mono (fC _) (eQ _), ?_⟩;obtain ⟨x,n,-,hu⟩:=h1;exact hu.bh
structure YH (w W:World) (R:Int) (d r y u' i:Nat) (rs:List (bB w.heap.size)) (s:DS) (L:UL) (nx st t j b u mp q t':Nat) (v lv vL:Value) (P:List (eT × Value)) (S:List (Value × aH)):Prop where
 mX:vu R s.tm (L.map (·.1)) nx i
 pl:P.map (·.1)=L.map (·.1)
 ok:mV S P
 own:Own w W (bO d j t b bY s.tm++(bE d u st t mp (nx:Int) L++(bZ r q t' bY s v lv++(ay r t' u' (nx:Int) vL P S++(aA y (jB d st t u)::rs)))))
def lr (w W:World) (R:Int) (d r y u' i:Nat) (rs:List (bB w.heap.size)):Prop:=
 ∃ (s:DS) (L:UL) (nx st t j b u mp q t':Nat) (v lv vL:Value) (P:List (eT × Value)) (S:List (Value × aH)),YH w W R d r y u' i rs s L nx st t j b u mp q t' v lv vL P S
def YdU (w W:World) (R:Int) (d r y st t u u' i:Nat) (rs:List (bB w.heap.size)):Prop:=
 ∃ (s:DS) (L:UL) (nx j b mp q t':Nat) (v lv vL:Value) (P:List (eT × Value)) (S:List (Value × aH)),YH w W R d r y u' i rs s L nx st t j b u mp q t' v lv vL P S
theorem YdU.any {d r y st t u u':Nat} {rs:List (bB w.heap.size)} (h:YdU w W R d r y st t u u' i rs):lr w W R d r y u' i rs:=by obtain ⟨s,L,nx,j,b,mp,q,t',v,lv,vL,P,S,h⟩:=h;exact ⟨s,L,nx,st,t,j,b,u,mp,q,t',v,lv,vL,P,S,h⟩
def rQ (w:World) (R:Int) (d r y st t u u' i:Nat) (rs:List (bB w.heap.size)) (v:Value) (f:FuncId) (args:Array Value) (e:Ending) (w':World):Prop:=
 e= .returned v/\Own w w' (aA y (jB d st t u)::rs)/\∀ W',ak w' W'->bF f args W' (λe2 w2=>e2= .returned v/\YdU w w2 R d r y st t u u' (i+1) rs)
section
variable {w W:World} {R:Int} {d r y u' i:Nat} {rs:List (bB w.heap.size)} {s:DS} {L:UL} {nx st t j b u mp q t':Nat} {v lv vL:Value} {P:List (eT × Value)} {S:List (Value × aH)}
theorem fq {A U D V M:List (bB w.heap.size)} (h:Own w W (A++(U++(D++(V++M))))):Own w W (D++(V++(A++(U++M)))):=h.perm (by rw [<-lN A U,<-lN D V M,<-lN D V (A++(U++M)),<-lN A U M];exact Bb _ _ _)
theorem uS {A U D V M:List (bB w.heap.size)} (h:Own w W (A++(U++(D++(V++M))))):Own w W M:=by
 have key:∀ (X:List (bB w.heap.size)),Own w W (X++M)->Own w W M:=λX=>by
  induction X with
  | nil=>exact λh=>h
  | cons x X ih=>exact λh=>ih h.drop
 refine key (A++(U++(D++V))) ?_;simpa [lN] using h
theorem YdU.NV {st t u:Nat} (h:YdU w W R d r y st t u u' i rs):Own w W (aA y (jB d st t u)::rs):=by obtain ⟨s,L,nx,j,b,mp,q,t',v,lv,vL,P,S,h⟩:=h;exact uS h.own
theorem YH.dk (h:YH w W R d r y u' i rs s L nx st t j b u mp q t' v lv vL P S):DK s (100000000*(i+1)) (100*i):=by
 have h1:=h.mX.q.size;have h2:=h.mX.q.pu.1.len;refine ⟨h.mX.q.tidy, ?_,h.mX.q.pu.1.ok, ?_⟩
 ·have h1:(aj s.aQ).length<=110000000*i+70000000:=h1;omega
 ·have h2:s.fs.length<=8*(200*i+100):=h2;omega
theorem YH.IA (h:YH w W R d r y u' i rs s L nx st t j b u mp q t' v lv vL P S):L.length<=i/\P.length=L.length:=by have h1:=h.mX.IA;have h2:=congrArg List.length h.pl;simp at h1 h2;exact ⟨h1,h2⟩
theorem YH.quiet {W':World} (h:YH w W R d r y u' i rs s L nx st t j b u mp q t' v lv vL P S) (hk:ak W W'):YH w W' R d r y u' i rs s L nx st t j b u mp q t' v lv vL P S:=⟨h.mX,h.pl,h.ok,h.own.quiet hk⟩
theorem YH.nodup (h:YH w W R d r y u' i rs s L nx st t j b u mp q t' v lv vL P S):(L.map (λx=>x.1.id)).Nodup:=by have h1:=h.mX.ids;rw [wU] at h1;exact h1.imp (λaX=>by omega)
theorem YH.find (h:YH w W R d r y u' i rs s L nx st t j b u mp q t' v lv vL P S) (id:Int): (l9 L id=none/\ui (P.map (·.1)) id=-1)\/ ∃ (x:eT) (sp qq:Nat) (L1 L2:UL) (bv:Value),L=L1++(x,sp,qq)::L2/\x.id=id/\l9 (L1++(x,sp,qq)::L2) x.id=some (x,sp,qq)/\(∀ z ∈ L1++L2,z.1.id≠x.id)/\(L1++L2).map (·.1)=(L.map (·.1)).filter (λz=>decide (z.id≠x.id))/\ ui (P.map (·.1)) id=(L1.length:Int)/\P[L1.length]?=some (x,bv):=by
 by_cases hm:∃ z ∈ L,z.1.id=id
 ·obtain ⟨⟨x,sp,qq⟩,hx,e⟩:=hm;obtain ⟨L1,L2,e1,e2,e3,e4,-,-⟩:=NR h.nodup hx;dsimp only at e e2 e3 e4;have hP:(P.map (·.1))[L1.length]?=some x:=by rw [h.pl,e1];simp
  rw [jc] at hP;cases hp:P[L1.length]? with
  | none=>rw [hp] at hP;cases hP
  | some p=>rw [hp] at hP;simp only [Ar,im] at hP;obtain ⟨x',bv⟩:=p;dsimp only at hP;subst hP;refine .inr ⟨x',sp,qq,L1,L2,bv,e1,e,e2,e3,e4, ?_,hp⟩;refine Ff (x:=x') (by rw [h.pl,e1];simp) e (λk z hk hz=> ?_);rw [h.pl,e1,mB,K0 (by simpa using hk)] at hz;obtain ⟨a,ha,rfl⟩:=List.mem_map.1 (kx hz);rw [<-e];exact e3 a (List.mem_append_left _ ha)
 ·refine .inl ⟨Fi (λz hz e=>hm ⟨z,hz,e⟩),Fg (λz hz e=> ?_)⟩;rw [h.pl] at hz;obtain ⟨a,ha,rfl⟩:=List.mem_map.1 hz;exact hm ⟨a,ha,e⟩
theorem NW (h:YH w W R d r y u' i rs s L nx st t j b u mp q t' v lv vL P S) (uM:wy w) (hi:i<=50) (au:aD) (pE:au.size<=9223372036854775807) (bo:Int) (DA:-9223372036854775808<=bo/\bo<=9223372036854775807): bF 9 #[.pointer (some ⟨u,0,none⟩),.string au,.int .i64 bo] W (rQ w R d r y st t u u' i rs (.tuple #[.int .i64 (dV s.tm bY nx au bo).1,.int .i64 (dV s.tm bY nx au bo).2.1]) 87 #[.pointer (some ⟨u',0,none⟩),.string au,.int .i64 bo]):=by
 have hp:=h.mX.q.uk.pos;have kL:=h.IA;have fK:=h.mX.Xz (by omega) au bo;have jd:=h.mX.q.size;have wR:=ND s bY nx au bo;refine (xU h.own (uM.keep h.own.keeps) h.mX.q.tidy.dQ (by omega) (by omega) hp (λx hx=>by obtain ⟨k,e,-,h2,-⟩:=h.mX.each x.1 (List.mem_map.2 ⟨x,hx,rfl⟩);omega) au bo DA).mono ?_
 rintro e w' ⟨rfl,hh⟩;have key:∀ (T':TM) (xT:Nat) (L':UL),Own w w' (bO d j t b bY T'++(bE d u st t mp (xT:Int) L'++(bZ r q t' bY s v lv++(ay r t' u' (nx:Int) vL P S++(aA y (jB d st t u)::rs)))))->Own w w' (aA y (jB d st t u)::rs)/\∀ W',ak w' W'->bF 87 #[.pointer (some ⟨u',0,none⟩),.string au,.int .i64 bo] W' (NE w r q t' u' bY nx (P.map (·.1)) au bo (bO d j t b bY T'++(bE d u st t mp (xT:Int) L'++(aA y (jB d st t u)::rs))) (jW s bY nx au bo)):=λT' xT L' hW=>⟨uS hW,λW' hk=>CB (fq (hW.quiet hk)) h.ok (by omega) h.dk (by omega) (by omega) hp au pE bo DA⟩
 rw [wR] at fK hh ⊢;dsimp only at fK hh ⊢;rcases hh with ⟨hc,sp,qq,hW⟩ | ⟨hc,hW⟩
 ·obtain ⟨k1,k2⟩:=key _ _ _ hW;refine ⟨rfl,k1,λW' hk=>(k2 W' hk).mono ?_⟩;rintro e2 w2 ⟨rfl,v2,Ky,RM,P2,S2,D1,⟨-,Rw,h2⟩ | ⟨gy,-⟩⟩
  ·refine ⟨rfl,_,_,nx+1,j,b,mp,q,t',v2,Ky,RM,P2,S2,⟨?_, ?_,D1,fq h2⟩⟩
   ·have:=fK.1 hc;rw [mB];exact this
   ·rw [Rw,h.pl,mB];rfl
  ·exact absurd hc gy
 ·obtain ⟨k1,k2⟩:=key _ _ _ hW;refine ⟨rfl,k1,λW' hk=>(k2 W' hk).mono ?_⟩;rintro e2 w2 ⟨rfl,v2,Ky,RM,P2,S2,D1,⟨gy,-⟩ | ⟨-,Rw,h2⟩⟩
  ·exact absurd gy hc
  ·exact ⟨rfl,_,_,nx,j,b,mp,q,t',v2,Ky,RM,P2,S2,⟨fK.2 hc,by rw [Rw,h.pl],D1,fq h2⟩⟩
theorem YH.doc {T':TM} {L':UL} (hW:Own w W (bO d j t b bY T'++(bE d u st t mp (nx:Int) L'++(bZ r q t' bY s v lv++(ay r t' u' (nx:Int) vL P S++(aA y (jB d st t u)::rs)))))) {V:Value} {f:FuncId} {args:Array Value} (hd:∀ W',Own w W' (bZ r q t' bY s v lv++(ay r t' u' (nx:Int) vL P S++(bO d j t b bY T'++(bE d u st t mp (nx:Int) L'++(aA y (jB d st t u)::rs)))))->bF f args W' (λe2 w2=>e2= .returned V/\YdU w w2 R d r y st t u u' (i+1) rs)): rQ w R d r y st t u u' i rs V f args (.returned V) W:=
 ⟨rfl,uS hW,λW' hk=>hd W' (fq (hW.quiet hk))⟩
theorem YH.UJ (h:YH w W R d r y u' i rs s L nx st t j b u mp q t' v lv vL P S) {W':World} (hk:ak W W') {f:FuncId} {args:Array Value} (hf:∀ W',Own w W' (bZ r q t' bY s v lv++(ay r t' u' (nx:Int) vL P S++(bO d j t b bY s.tm++(bE d u st t mp (nx:Int) L++(aA y (jB d st t u)::rs)))))->∃ w2,aW f args W' (.int .i64 6) w2/\Own w w2 (bZ r q t' bY s v lv++(ay r t' u' (nx:Int) vL P S++(bO d j t b bY s.tm++(bE d u st t mp (nx:Int) L++(aA y (jB d st t u)::rs)))))): rQ w R d r y st t u u' i rs (.int .i64 6) f args (.returned (.int .i64 6)) W':=
 YH.doc (h.own.quiet hk) (λW2 hW=>by obtain ⟨w2,hr,h2⟩:=hf W2 hW;refine hr.Z.mono ?_;rintro e w3 ⟨rfl,rfl⟩;exact ⟨rfl,s,L,nx,j,b,mp,q,t',v,lv,vL,P,S,h.mX.same,h.pl,h.ok,fq h2⟩)
theorem KH (h:YH w W R d r y u' i rs s L nx st t j b u mp q t' v lv vL P S) (hi:i<=50) (id:Int): ∃ c:Int,bF 21 #[.pointer (some ⟨u,0,none⟩),.int .i64 id] W (rQ w R d r y st t u u' i rs (.int .i64 c) 93 #[.pointer (some ⟨u',0,none⟩),.int .i64 id]):=by
 have kL:=h.IA;have jd:=h.mX.q.size;rcases h.find id with ⟨hu,hf⟩ | ⟨x,sp,qq,L1,L2,bv,rfl,rfl,hu,dO,DZ,hf,hx⟩
 ·refine ⟨6,(G2 h.own hu).Z.mono ?_⟩;rintro e w' ⟨rfl,rfl⟩;exact h.UJ (ah.refl _ _) (λW' hW=>⟨W',Cy hW (by omega) hf,hW⟩)
 ·obtain ⟨k,hk,bN,cg,-⟩:=h.mX.each x (by simp);have gQ:=h.mX.nxi;have wR:=Al s bY (aq k);have fK:=λS' hs=>h.mX.UF (S':=S') k hs;refine ⟨(eK s.tm bY (aq k)).1,(vO h.own hu dO h.mX.q.tidy.dQ (by omega) (by omega) hk (by omega)).mono ?_⟩;rintro e w' ⟨rfl,hW⟩;rw [wR] at fK hW ⊢;dsimp only at fK hW ⊢;refine YH.doc hW (λW' XD=>(sk XD h.ok (by omega) h.dk (by omega) (by omega) hk (by omega) hf).mono ?_);rintro e2 w2 ⟨rfl,v2,Ky,⟨pD,h2⟩ | ⟨pD,RM,h2⟩⟩
  ·rw [pD,if_neg (by simp)] at h2;exact ⟨rfl,_,_,nx,j,b,mp,q,t',v2,Ky,vL,P,S,fK _ (CY _),h.pl,h.ok,fq h2⟩
  ·rw [pD,if_pos rfl] at h2;refine ⟨rfl,_,_,nx,j,b,mp,q,t',v2,Ky,RM,others P x.id,S,fK _ ?_, ?_,h.ok.others _,fq h2.bR⟩
   ·rw [DZ];exact O5
   ·rw [pd,h.pl,DZ]
theorem KI (h:YH w W R d r y u' i rs s L nx st t j b u mp q t' v lv vL P S) (hi:i<=50) (aN:Int): ∃ c1 c2:Int,bF 16 #[.pointer (some ⟨u,0,none⟩),.int .i64 aN] W (rQ w R d r y st t u u' i rs (.tuple #[.int .i64 c1,.int .i64 c2]) 94 #[.pointer (some ⟨u',0,none⟩),.int .i64 aN]):=by
 have kL:=h.IA;have jd:=h.mX.q.size;have gQ:=h.mX.nxi;have hlm:L.length*1048576<=52428800:=by omega
 have UM:=h.mX.ids;rw [wU] at UM;have fK:=h.mX.UG hi aN;have wR:=CG bY aN (L.map (·.1)) s (L.map (·.1)) 0;have Nd:s.tm.size+L.length*1048576+1048576<=1099511627776:=by omega
 refine ⟨(ut bY aN (L.map (·.1)) s.tm (L.map (·.1)) 0).1,(ut bY aN (L.map (·.1)) s.tm (L.map (·.1)) 0).2.1,(DY h.own UM (λz hz=>by obtain ⟨k,e,-,h2,-⟩:=h.mX.each z.1 (List.mem_map.2 ⟨z,hz,rfl⟩);exact ⟨k,e,by omega⟩) h.mX.q.tidy (by omega) Nd (by omega) aN).mono ?_⟩
 rintro e w' ⟨rfl,L',hL',hW⟩;rw [wR] at fK hL' hW ⊢;dsimp only at fK hL' hW ⊢;refine YH.doc hW (λW' XD=> ?_);have hP:=AT XD h.ok (by omega) h.dk (by omega) (by omega) (by rw [h.pl];exact h.mX.ids.imp (λaX=>by omega)) (λz hz=>by rw [h.pl] at hz;obtain ⟨k,e,-,h2,-⟩:=h.mX.each z hz;exact ⟨k,e,by omega⟩) aN
 rw [h.pl] at hP;refine hP.mono ?_;rintro e2 w2 ⟨rfl,v2,Ky,RM,P2,S2,Rw,D1,h2⟩;exact ⟨rfl,_,L',nx,j,b,mp,q,t',v2,Ky,RM,P2,S2,by rw [hL'];exact fK,by rw [Rw,hL'],D1,fq h2⟩
theorem Own.aaM {x z:bB w.heap.size} {X:List (bB w.heap.size)} (h:Own w W (x::X)) (hm:z ∈ X):∃ F G,x.is F W/\z.is G W/\N9 F G:=by obtain ⟨X1,X2,rfl⟩:=List.append_of_mem hm;have h2:=h.perm (sV _ lO);obtain ⟨F,G,a,b,c,-⟩:=h2.XU;exact ⟨F,G,a,b,c⟩
theorem NY (h:YH w W R d r y u' i rs s L nx st t j b u mp q t' v lv vL P S) (hi:i<=50) (id at_:Int) {pv0:Value} (aco:p.length<=140737488355328) (wZ:aC w pv0 p) (hm:bS pv p ∈ rs): ∃ c:Int,bF 10 #[.pointer (some ⟨u,0,none⟩),.int .i64 id,.int .i64 at_,pv] W (rQ w R d r y st t u u' i rs (.int .i64 c) 89 #[.pointer (some ⟨u',0,none⟩),.int .i64 id,.int .i64 at_,pv0]):=by
 have kL:=h.IA;rcases h.find id with ⟨hu,hf⟩ | ⟨x,sp,qq,L1,L2,bv,rfl,rfl,hu,dO,DZ,hf,hx⟩
 ·refine ⟨6,(KC h.own hu at_ pv).Z.mono ?_⟩;rintro e w' ⟨rfl,rfl⟩;exact h.UJ (ah.refl _ _) (λW' hW=>⟨W',DR hW (by omega) hf at_ pv0,hW⟩)
 ·obtain ⟨k,hk,bN,cg,-,-,AO⟩:=h.mX.each x (by simp);have gQ:=h.mX.nxi;have wR:=NB s (aq k) x at_ p;have acp:=h.mX;rw [mB,kz] at acp;have fK:=acp.XA (id:=k) at_ p;have hP:P.map (·.1)=L1.map (·.1)++x::L2.map (·.1):=by rw [h.pl,mB,kz]
  refine ⟨(eH s.tm (aq k) x at_ p).1,(rJ h.own hu h.mX.q.tidy.dQ (by omega) hk (by omega) AO at_ aco (λW M hW=> ?_) (λz n c e adj hb=> ?_)).mono ?_⟩
  ·exact (hW.bytes (v:=pv) (l:=p) (by simp [hm])).1
  ·obtain ⟨F,G,hF,hG,kt⟩:=(h.own.focus.drop).aaM (z:=bS pv p) (by simp [hm]);exact kt qq hF.1 (hG.2 qq (by rw [e,<-hb];rfl))
  ·rintro e w' ⟨rfl,hW⟩;rw [wR] at fK hW ⊢;dsimp only at fK hW ⊢;refine YH.doc hW (λW' XD=>(CA XD h.ok (by omega) h.dk (by omega) hk (by omega) hf hx AO at_ aco wZ).mono ?_);rintro e2 w2 ⟨rfl,v2,Ky,RM,P2,S2,Rw,D1,h2⟩;refine ⟨rfl,_,_,nx,j,b,mp,q,t',v2,Ky,RM,P2,S2, ?_, ?_,D1,fq h2⟩
   ·rw [mB,kz];exact fK
   ·rw [Rw,hP,mB,kz];have:L1.length=(L1.map (·.1)).length:=by simp
    rw [this,List.set_append_right _ _ (eQ _),CZ,List.set_cons_zero]
theorem KJ (h:YH w W R d r y u' i rs s L nx st t j b u mp q t' v lv vL P S) (hi:i<=50) (id:Int) (lQ:dg.length=32) {ma:Option Addr} {mc:Nat} {ps:List Value} (hm:o7 (.slice ma ML.length mc) ps ML ∈ rs) (hML:ML.length<=5) (sQ:∀ c ∈ ML,Xw nx c) (hL:fu w la ML): ∃ c:Int,bF 12 #[.pointer (some ⟨u,0,none⟩),.int .i64 id,.agg (dg.map dF).toArray,.slice ma ML.length mc] W (rQ w R d r y st t u u' i rs (.int .i64 c) 92 #[.pointer (some ⟨u',0,none⟩),.int .i64 id,.agg (dg.map dF).toArray,.slice la ML.length lc]):=by
 have kL:=h.IA;have jd:=h.mX.q.size;rcases h.find id with ⟨hu,hf⟩ | ⟨x,sp,qq,L1,L2,bv,rfl,rfl,hu,dO,DZ,hf,hx⟩
 ·refine ⟨6,(G1 h.own hu _ _).mono ?_⟩;rintro e w' ⟨rfl,hk⟩;exact h.UJ hk (λW' hW=>CD hW (by omega) hf _ _)
 ·obtain ⟨k,hk,bN,cg,ZX,yG,AO⟩:=h.mX.each x (by simp);have gQ:=h.mX.nxi;have pE:=lJ ZX;have wR:=Kv s bY (aq k) x dg ML;have fK:=λS' hs=>h.mX.UD (S':=S') (x:=x) (by simp) hk lQ sQ hML hs;refine ⟨(ow s.tm bY (aq k) x dg ML).1,(CF h.own hu dO h.mX.q.tidy.dQ (by omega) (by omega) hk (by omega) AO yG (by omega) lQ (ps:=ps) (by simp [hm]) (by omega)).mono ?_⟩;rintro e w' ⟨rfl,hW⟩;rw [wR] at fK hW ⊢;dsimp only at fK hW ⊢;refine YH.doc hW (λW' XD=>(AS XD h.ok (by omega) h.dk (by omega) (by omega) hk (by omega) hf hx AO yG (by omega) lQ hL (by omega)).mono ?_);rintro e2 w2 ⟨rfl,v2,Ky,RM,S2,D1,h2⟩;cases pD:(nJ s bY (aq k) x dg ML).2.2 with
  | false=>
   rw [pD,if_neg (by simp),if_neg (by simp)] at h2;exact ⟨rfl,_,_,nx,j,b,mp,q,t',v2,Ky,RM,P,S2,fK _ (CY _),h.pl,D1,fq h2⟩
  | true=>
   rw [pD,if_pos rfl,if_pos rfl] at h2;refine ⟨rfl,_,_,nx,j,b,mp,q,t',v2,Ky,RM,others P x.id,S2,fK _ ?_, ?_,D1.others _,fq h2⟩
   ·rw [DZ];exact O5
   ·rw [pd,h.pl,DZ]
end
section
variable {w W:World} {R:Int} {d r y u' i:Nat} {rs:List (bB w.heap.size)} {s:DS} {L:UL} {nx st t j b u mp q t':Nat} {v lv vL:Value} {P:List (eT × Value)} {S:List (Value × aH)}
theorem O1 {α:Type} (A U D V M:List α) (y x:α):(x::(A++(U++(D++(V++(y::M)))))).Perm (A++(U++(D++(V++(y::x::M))))):=by
 have e1:A++(U++(D++(V++(y::M))))=(A++(U++(D++(V++[y]))))++M:=by simp [lN]
 have e2:A++(U++(D++(V++(y::x::M))))=(A++(U++(D++(V++[y]))))++(x::M):=by simp [lN]
 rw [e1,e2];exact (lO (l₁:=A++(U++(D++(V++[y]))))).symm
theorem YH.more (h:YH w W R d r y u' i rs s L nx st t j b u mp q t' v lv vL P S) {W':World} {x:bB w.heap.size} (hx:∀ A,Own w W A->Own w W' (x::A)):YH w W' R d r y u' i (x::rs) s L nx st t j b u mp q t' v lv vL P S:=
 ⟨h.mX,h.pl,h.ok,(hx _ h.own).perm (O1 _ _ _ _ _ _ _)⟩
theorem lr.less {x:bB w.heap.size} (h:lr w W R d r y u' i (x::rs)):lr w W R d r y u' i rs:=by obtain ⟨s,L,nx,st,t,j,b,u,mp,q,t',v,lv,vL,P,S,h1,h2,h3,h4⟩:=h;exact ⟨s,L,nx,st,t,j,b,u,mp,q,t',v,lv,vL,P,S,h1,h2,h3,(h4.perm (O1 _ _ _ _ _ _ _).symm).drop⟩
theorem lr.same (h:YH w W R d r y u' i rs s L nx st t j b u mp q t' v lv vL P S):lr w W R d r y u' (i+1) rs:=
 ⟨s,L,nx,st,t,j,b,u,mp,q,t',v,lv,vL,P,S,h.mX.same,h.pl,h.ok,h.own⟩
def yc (k id:Int) (au:aD) (pv:Value) (n m:Int) (lv:Value):Obj:= .cells #[.int .i64 k,.int .i64 id,.string au,pv,.int .i64 n,.int .i64 m,lv] 67
def RD (y u ob:Nat) (k id:Int) (au:aD) (pv:Value) (n m:Int) (lv:Value) (W:World):Prop:=
 W.cell? ⟨y,3,none⟩=some (.pointer (some ⟨u,0,none⟩))/\W.cell? ⟨ob,0,none⟩=some (.int .i64 k)/\W.cell? ⟨ob,1,none⟩=some (.int .i64 id)/\W.cell? ⟨ob,2,none⟩=some (.string au)/\W.cell? ⟨ob,3,none⟩=some pv/\W.cell? ⟨ob,4,none⟩=some (.int .i64 n)/\W.cell? ⟨ob,6,none⟩=some lv
theorem RD.of {ob:Nat} {k n m:Int} {au:aD} {lv:Value} {ls:List (bB w.heap.size)} (h:Own w W ls) (h1:aA y (jB d st t u) ∈ ls) (h2:aA ob (yc k id au pv n m lv) ∈ ls):RD y u ob k id au pv n m lv W:=by have hy:=(h.at h1).1;have ho:=(h.at h2).1;exact ⟨ag hy rfl,ag ho rfl,ag ho rfl,ag ho rfl,ag ho rfl,ag ho rfl,ag ho rfl⟩
def KK (w:World) (R:Int) (d r y u' i:Nat) (rs:List (bB w.heap.size)) (e:Ending) (w':World):Prop:=e= .returned (.bool true)/\lr w w' R d r y u' (i+1) rs
theorem Rh (h:YH w W R d r y u' i rs s L nx st t j b u mp q t' v lv vL P S) (uM:wy w) (hi:i<=50) (id n m:Int) (au:aD) (pE:au.size<=9223372036854775807) (hn:-9223372036854775808<=n/\n<=9223372036854775807) (pv mv:Value): bF 36 #[.pointer (some ⟨y,0,none⟩),.pointer (some ⟨u',0,none⟩),.agg #[.int .i64 0,.int .i64 id,.string au,pv,.int .i64 n,.int .i64 m,mv]] W (KK w R d r y u' i rs):=by
 have h1:YH w (W.alloc (yc 0 id au pv n m mv)) R d r y u' i (aA W.heap.size (yc 0 id au pv n m mv)::rs) s L nx st t j b u mp q t' v lv vL P S:=h.more (λA hA=>hA.alloc _);obtain ⟨w1,fh⟩:=cE (W.alloc (yc 0 id au pv n m mv));rw [<-fh] at h1;obtain ⟨ob,qJ⟩:=cE (W.heap.size);rw [<-qJ] at h1;have gm:=RD.of (k:=0) (id:=id) (au:=au) (pv:=pv) (n:=n) (m:=m) (lv:=mv) (ob:=ob) (y:=y) (d:=d) (st:=st) (t:=t) (u:=u) h1.own (by simp) (by simp);have H1:=ae (h1.quiet (ah.refl _ w1).drew);have HP:=ae (NW (h1.quiet (ah.refl _ w1).drew) uM hi au pE n hn);have HW:=ae fh;have AL:=ae qJ;obtain ⟨q3,q0,q1,q2,q4,q5,q6⟩:=gm;generalize (dV s.tm bY nx au n).1=c1 at HP;generalize (dV s.tm bY nx au n).2.1=c2 at HP;clear h h1 fh qJ pE hn hi uM;go_enter Tryz.func36,Tryz.ntmps36;go_upto_region 1 with fail;rw [show W.alloc (.cells #[.int .i64 0,.int .i64 id,.string au,pv,.int .i64 n,.int .i64 m,mv] 67 (0,0))=w1 from HW.Z.symm,<-AL.Z];go_upto_region 3 with fail;refine wp_region_held_drew (S:=RD y u ob 0 id au pv n m mv) (by kernel_rfl) (by exact RD.of (k:=0) (id:=id) (au:=au) (pv:=pv) (n:=n) (m:=m) (lv:=mv) (ob:=ob) (y:=y) (d:=d) (st:=st) (t:=t) (u:=u) H1.Z.own (by simp) (by simp)) (λai=> ?_);refine tk 0 24 (.pointer (some ⟨y,0,none⟩)) ai ?_;refine tk 1 25 (.pointer (some ⟨y,0,none⟩)) ai ?_;refine tk 2 26 (.pointer (some ⟨y,3,none⟩)) ai ?_;refine tk 3 27 (.pointer (some ⟨u,0,none⟩)) ai ?_ (hy:=Or.inl ⟨by rfl,by intro w bK;(try dsimp only at bK);(obtain ⟨q3,q0,q1,q2,q4,q5,q6⟩:=bK;go_simp)⟩);refine tk 4 28 (.pointer (some ⟨ob,2,none⟩)) ai ?_;refine tk 5 29 (.string au) ai ?_ (hy:=Or.inl ⟨by rfl,by intro w bK;(try dsimp only at bK);(obtain ⟨q3,q0,q1,q2,q4,q5,q6⟩:=bK;go_simp)⟩);refine tk 6 30 (.pointer (some ⟨ob,4,none⟩)) ai ?_;refine tk 7 31 (.int .i64 n) ai ?_ (hy:=Or.inl ⟨by rfl,by intro w bK;(try dsimp only at bK);(obtain ⟨q3,q0,q1,q2,q4,q5,q6⟩:=bK;go_simp)⟩);try go_frame
 refine eR [8] ?_;refine gH 32 λK hK=> ?_;go_simp;go_at_call 9;refine HP.Z.mono ?_;rintro e w2 ⟨rfl,h2,nK⟩;have KL:=ae (RD.of (k:=0) (id:=id) (au:=au) (pv:=pv) (n:=n) (m:=m) (lv:=mv) (ob:=ob) (y:=y) (d:=d) (st:=st) (t:=t) (u:=u) h2 (by simp) (by simp));have nL:=ae nK;clear h2 nK;refine hK.Z _ _ (by exact KL.Z) (λaK=> ?_);clear hK K;refine tk 9 23 (.tuple #[.int .i64 c1,.int .i64 c2]) aK ?_;refine tk 10 33 (.int .i64 c1) aK ?_;refine tk 11 34 (.int .i64 c2) aK ?_;refine tk 12 7 (.int .i64 c1) aK ?_;refine tk 13 8 (.int .i64 c2) aK ?_;try go_frame
 refine wpAnyH_done (by kernel_rfl) ?_ _;obtain ⟨q3,q0,q1,q2,q4,q5,q6⟩:=KL.Z;clear ai aK HP H1;go_wp2_with fail;refine (nL.Z _ (ah.refl _ _)).mono ?_;rintro e w3 ⟨rfl,h3⟩;have H3:=ae h3.any.less;clear h3 nL q3 q0 q1 q2 q4 q5 q6;go_wp2;go_ret;exact ⟨rfl,H3.Z⟩
theorem Ri (h:YH w W R d r y u' i rs s L nx st t j b u mp q t' v lv vL P S) (hi:i<=50) (id n m:Int) (au:aD) (pv mv:Value): bF 36 #[.pointer (some ⟨y,0,none⟩),.pointer (some ⟨u',0,none⟩),.agg #[.int .i64 3,.int .i64 id,.string au,pv,.int .i64 n,.int .i64 m,mv]] W (KK w R d r y u' i rs):=by
 have h1:YH w (W.alloc (yc 3 id au pv n m mv)) R d r y u' i (aA W.heap.size (yc 3 id au pv n m mv)::rs) s L nx st t j b u mp q t' v lv vL P S:=h.more (λA hA=>hA.alloc _);obtain ⟨w1,fh⟩:=cE (W.alloc (yc 3 id au pv n m mv));rw [<-fh] at h1;obtain ⟨ob,qJ⟩:=cE (W.heap.size);rw [<-qJ] at h1;have gm:=RD.of (k:=3) (id:=id) (au:=au) (pv:=pv) (n:=n) (m:=m) (lv:=mv) (ob:=ob) (y:=y) (d:=d) (st:=st) (t:=t) (u:=u) h1.own (by simp) (by simp);have H1:=ae (h1.quiet (ah.refl _ w1).drew);obtain ⟨c1,hp⟩:=KH (h1.quiet (ah.refl _ w1).drew) hi id;have HP:=ae hp;have HW:=ae fh;have AL:=ae qJ;obtain ⟨q3,q0,q1,q2,q4,q5,q6⟩:=gm;clear h h1 fh qJ hp hi;go_enter Tryz.func36,Tryz.ntmps36;go_upto_region 1 with fail;rw [show W.alloc (.cells #[.int .i64 3,.int .i64 id,.string au,pv,.int .i64 n,.int .i64 m,mv] 67 (0,0))=w1 from HW.Z.symm,<-AL.Z];go_upto_region 19 with fail;refine wp_region_held_drew (S:=RD y u ob 3 id au pv n m mv) (by kernel_rfl) (by exact RD.of (k:=3) (id:=id) (au:=au) (pv:=pv) (n:=n) (m:=m) (lv:=mv) (ob:=ob) (y:=y) (d:=d) (st:=st) (t:=t) (u:=u) H1.Z.own (by simp) (by simp)) (λai=> ?_);refine tk 0 141 (.pointer (some ⟨y,0,none⟩)) ai ?_;refine tk 1 142 (.pointer (some ⟨y,0,none⟩)) ai ?_;refine tk 2 143 (.pointer (some ⟨y,3,none⟩)) ai ?_;refine tk 3 144 (.pointer (some ⟨u,0,none⟩)) ai ?_ (hy:=Or.inl ⟨by rfl,by intro w bK;(try dsimp only at bK);(obtain ⟨q3,q0,q1,q2,q4,q5,q6⟩:=bK;go_simp)⟩);refine tk 4 145 (.pointer (some ⟨ob,1,none⟩)) ai ?_;refine tk 5 146 (.int .i64 id) ai ?_ (hy:=Or.inl ⟨by rfl,by intro w bK;(try dsimp only at bK);(obtain ⟨q3,q0,q1,q2,q4,q5,q6⟩:=bK;go_simp)⟩);refine tk 7 148 (.pointer (some ⟨u',0,none⟩)) ai ?_;refine tk 8 149 (.pointer (some ⟨ob,1,none⟩)) ai ?_;refine tk 9 150 (.int .i64 id) ai ?_ (hy:=Or.inl ⟨by rfl,by intro w bK;(try dsimp only at bK);(obtain ⟨q3,q0,q1,q2,q4,q5,q6⟩:=bK;go_simp)⟩);try go_frame
 refine eR [6] ?_;refine gH 147 λK hK=> ?_;go_simp;go_at_call 21;refine HP.Z.mono ?_;rintro e w2 ⟨rfl,h2,nK⟩;have KL:=ae (RD.of (k:=3) (id:=id) (au:=au) (pv:=pv) (n:=n) (m:=m) (lv:=mv) (ob:=ob) (y:=y) (d:=d) (st:=st) (t:=t) (u:=u) h2 (by simp) (by simp));have nL:=ae nK;clear h2 nK;refine hK.Z _ _ (by exact KL.Z) (λaK=> ?_);clear hK K;try go_frame
 refine eR [10] ?_;refine gH 151 λK hK=> ?_;go_simp;go_at_call 93;refine (nL.Z _ (ah.refl _ _)).mono ?_;rintro e w3 ⟨rfl,h3⟩;have H3:=ae h3.any.less;have D2:=ae (RD.of (k:=3) (id:=id) (au:=au) (pv:=pv) (n:=n) (m:=m) (lv:=mv) (ob:=ob) (y:=y) (d:=d) (st:=st) (t:=t) (u:=u) h3.NV (by simp) (by simp));clear h3 nL;refine hK.Z _ _ (by exact D2.Z) (λaI=> ?_);clear hK K;refine tk 11 152 (.bool true) aI ?_;refine tk 12 6 (.bool true) aI ?_;try go_frame
 refine wpAnyH_done (by kernel_rfl) ?_ _;clear ai aK aI HP H1 KL q3 q0 q1 q2 q4 q5 q6;go_wp2;go_ret;exact ⟨rfl,H3.Z⟩
theorem Rj (h:YH w W R d r y u' i rs s L nx st t j b u mp q t' v lv vL P S) (hi:i<=50) (id n m:Int) (au:aD) (pv mv:Value): bF 36 #[.pointer (some ⟨y,0,none⟩),.pointer (some ⟨u',0,none⟩),.agg #[.int .i64 4,.int .i64 id,.string au,pv,.int .i64 n,.int .i64 m,mv]] W (KK w R d r y u' i rs):=by
 have h1:YH w (W.alloc (yc 4 id au pv n m mv)) R d r y u' i (aA W.heap.size (yc 4 id au pv n m mv)::rs) s L nx st t j b u mp q t' v lv vL P S:=h.more (λA hA=>hA.alloc _);obtain ⟨w1,fh⟩:=cE (W.alloc (yc 4 id au pv n m mv));rw [<-fh] at h1;obtain ⟨ob,qJ⟩:=cE (W.heap.size);rw [<-qJ] at h1;have gm:=RD.of (k:=4) (id:=id) (au:=au) (pv:=pv) (n:=n) (m:=m) (lv:=mv) (ob:=ob) (y:=y) (d:=d) (st:=st) (t:=t) (u:=u) h1.own (by simp) (by simp);have H1:=ae (h1.quiet (ah.refl _ w1).drew);obtain ⟨c1,c2,hp⟩:=KI (h1.quiet (ah.refl _ w1).drew) hi n;have HP:=ae hp;have HW:=ae fh;have AL:=ae qJ;obtain ⟨q3,q0,q1,q2,q4,q5,q6⟩:=gm;clear h h1 fh qJ hp hi;go_enter Tryz.func36,Tryz.ntmps36;go_upto_region 1 with fail;rw [show W.alloc (.cells #[.int .i64 4,.int .i64 id,.string au,pv,.int .i64 n,.int .i64 m,mv] 67 (0,0))=w1 from HW.Z.symm,<-AL.Z];go_upto_region 21 with fail;refine wp_region_held_drew (S:=RD y u ob 4 id au pv n m mv) (by kernel_rfl) (by exact RD.of (k:=4) (id:=id) (au:=au) (pv:=pv) (n:=n) (m:=m) (lv:=mv) (ob:=ob) (y:=y) (d:=d) (st:=st) (t:=t) (u:=u) H1.Z.own (by simp) (by simp)) (λai=> ?_);refine tk 0 156 (.pointer (some ⟨y,0,none⟩)) ai ?_;refine tk 1 157 (.pointer (some ⟨y,0,none⟩)) ai ?_;refine tk 2 158 (.pointer (some ⟨y,3,none⟩)) ai ?_;refine tk 3 159 (.pointer (some ⟨u,0,none⟩)) ai ?_ (hy:=Or.inl ⟨by rfl,by intro w bK;(try dsimp only at bK);(obtain ⟨q3,q0,q1,q2,q4,q5,q6⟩:=bK;go_simp)⟩);refine tk 4 160 (.pointer (some ⟨ob,4,none⟩)) ai ?_;refine tk 5 161 (.int .i64 n) ai ?_ (hy:=Or.inl ⟨by rfl,by intro w bK;(try dsimp only at bK);(obtain ⟨q3,q0,q1,q2,q4,q5,q6⟩:=bK;go_simp)⟩);try go_frame
 refine eR [6] ?_;refine gH 162 λK hK=> ?_;go_simp;go_at_call 16;refine HP.Z.mono ?_;rintro e w2 ⟨rfl,h2,nK⟩;have KL:=ae (RD.of (k:=4) (id:=id) (au:=au) (pv:=pv) (n:=n) (m:=m) (lv:=mv) (ob:=ob) (y:=y) (d:=d) (st:=st) (t:=t) (u:=u) h2 (by simp) (by simp));have nL:=ae nK;clear h2 nK;refine hK.Z _ _ (by exact KL.Z) (λaK=> ?_);clear hK K;refine tk 7 155 (.tuple #[.int .i64 c1,.int .i64 c2]) aK ?_;refine tk 8 163 (.int .i64 c1) aK ?_;refine tk 9 164 (.int .i64 c2) aK ?_;refine tk 10 15 (.int .i64 c1) aK ?_;refine tk 11 16 (.int .i64 c2) aK ?_;try go_frame
 refine wpAnyH_done (by kernel_rfl) ?_ _;obtain ⟨q3,q0,q1,q2,q4,q5,q6⟩:=KL.Z;clear ai aK HP H1;go_wp2_with fail;refine (nL.Z _ (ah.refl _ _)).mono ?_;rintro e w3 ⟨rfl,h3⟩;have H3:=ae h3.any.less;clear h3 nL q3 q0 q1 q2 q4 q5 q6;go_wp2;go_ret;exact ⟨rfl,H3.Z⟩
theorem Rk (h:YH w W R d r y u' i rs s L nx st t j b u mp q t' v lv vL P S) (k id n m:Int) (hk:k <0\/4 <k) (au:aD) (pv mv:Value): bF 36 #[.pointer (some ⟨y,0,none⟩),.pointer (some ⟨u',0,none⟩),.agg #[.int .i64 k,.int .i64 id,.string au,pv,.int .i64 n,.int .i64 m,mv]] W (KK w R d r y u' i rs):=by
 have h1:YH w (W.alloc (yc k id au pv n m mv)) R d r y u' i (aA W.heap.size (yc k id au pv n m mv)::rs) s L nx st t j b u mp q t' v lv vL P S:=h.more (λA hA=>hA.alloc _);obtain ⟨w1,fh⟩:=cE (W.alloc (yc k id au pv n m mv));rw [<-fh] at h1;obtain ⟨ob,qJ⟩:=cE (W.heap.size);rw [<-qJ] at h1;have gm:=RD.of (k:=k) (id:=id) (au:=au) (pv:=pv) (n:=n) (m:=m) (lv:=mv) (ob:=ob) (y:=y) (d:=d) (st:=st) (t:=t) (u:=u) h1.own (by simp) (by simp);have H1:=ae h1;have b0:(k==0)=false:=by rw [beq_eq_false_iff_ne];omega
 have b1:(k==1)=false:=by rw [beq_eq_false_iff_ne];omega
 have b2:(k==2)=false:=by rw [beq_eq_false_iff_ne];omega
 have b3:(k==3)=false:=by rw [beq_eq_false_iff_ne];omega
 have b4:(k==4)=false:=by rw [beq_eq_false_iff_ne];omega
 have HW:=ae fh;have AL:=ae qJ;obtain ⟨q3,q0,q1,q2,q4,q5,q6⟩:=gm;clear h h1 fh qJ hk;go_enter Tryz.func36,Tryz.ntmps36;go_upto_region 1 with fail;rw [show W.alloc (.cells #[.int .i64 k,.int .i64 id,.string au,pv,.int .i64 n,.int .i64 m,mv] 67 (0,0))=w1 from HW.Z.symm,<-AL.Z];go_wp2;go_ret;exact ⟨rfl,lr.less (lr.same (H1.Z))⟩
end
section
variable {w W:World} {R:Int} {d r y u' i:Nat} {rs:List (bB w.heap.size)} {s:DS} {L:UL} {nx st t j b u mp q t':Nat} {v lv vL:Value} {P:List (eT × Value)} {S:List (Value × aH)}
theorem YH.YL (h:YH w W R d r y u' i rs s L nx st t j b u mp q t' v lv vL P S) (hi:i<=50) (id:Int):aW 88 #[.pointer (some ⟨u',0,none⟩),.int .i64 id] W (.int .i64 (ui (P.map (·.1)) id)) W:=by have hf:=h.IA;exact iE (fq h.own) (u:=u') (r:=r) (t:=t') (next:=(nx:Int)) (v:=vL) (P:=P) (by simp [ay]) (by simp [ay]) (by omega) id
theorem YH.cells (h:YH w W R d r y u' i rs s L nx st t j b u mp q t' v lv vL P S) {bv:Value} (hx:P[k]?=some (x,bv)): ∃ g c a cc,W.cell? ⟨u',3,none⟩=some (.slice (some ⟨g,0,none⟩) P.length c)/\bv= .slice a x.b.length cc/\W.cell? ⟨g,k*4+3,none⟩=some (.slice a x.b.length cc)/\aC W bv x.b:=by have hr:=h.own.rds (S:=S) (by simp [ay]) (h.ok _ (kx hx));obtain ⟨g,c,e,-,-,-,q3⟩:=(h.own.qP (v:=vL) (P:=P) (by simp [ay])).2 k x bv hx;obtain ⟨-,-,-,c3,-⟩:=jI (h.own.at (b:=u') (o:=kQ r t' (nx:Int) vL) (by simp [ay])).1;obtain ⟨a,cc,e2,-,-⟩:=hr.aG;dsimp only at e2;rw [e] at c3;refine ⟨g,c,a,cc,c3,e2, ?_,hr⟩;rw [<-e2];exact q3
theorem Rl (h:YH w W R d r y u' i rs s L nx st t j b u mp q t' v lv vL P S) (hi:i<=50) (id n m:Int) (au:aD) (wZ:aC w pv p) (kL:p.length<=140737488355328) (mv:Value): bF 36 #[.pointer (some ⟨y,0,none⟩),.pointer (some ⟨u',0,none⟩),.agg #[.int .i64 1,.int .i64 id,.string au,pv,.int .i64 n,.int .i64 m,mv]] W (KK w R d r y u' i rs):=by
 have h1:YH w (W.alloc (yc 1 id au pv n m mv)) R d r y u' i (aA W.heap.size (yc 1 id au pv n m mv)::rs) s L nx st t j b u mp q t' v lv vL P S:=h.more (λA hA=>hA.alloc _);obtain ⟨w1,fh⟩:=cE (W.alloc (yc 1 id au pv n m mv));rw [<-fh] at h1;obtain ⟨ob,qJ⟩:=cE (W.heap.size);rw [<-qJ] at h1;obtain ⟨pa,pc,rfl,-,-⟩:=wZ.aG;have gm:=RD.of (k:=1) (id:=id) (au:=au) (pv:= .slice pa p.length pc) (n:=n) (m:=m) (lv:=mv) (ob:=ob) (y:=y) (d:=d) (st:=st) (t:=t) (u:=u) h1.own (by simp) (by simp);have fb:=h1.YL hi id;have zH:=h1.find id;have DL:=h1.IA;have H1:=ae h1;have HI:=ae hi;have nN:=ae fb;have XE:=ae zH;have HP0:=ae (And.intro wZ kL);have HW:=ae fh;have AL:=ae qJ;have xo:=ae gm;obtain ⟨q3,q0,q1,q2,q4,q5,q6⟩:=gm;clear h h1 fh qJ hi wZ kL fb zH DL;go_enter Tryz.func36,Tryz.ntmps36;go_upto_region 1 with fail;rw [show W.alloc (.cells #[.int .i64 1,.int .i64 id,.string au,.slice pa p.length pc,.int .i64 n,.int .i64 m,mv] 67 (0,0))=w1 from HW.Z.symm,<-AL.Z];have yH:=ae (fO (HP0.Z.1.keep ((H1.Z.quiet (ah.refl _ _).drew).own.keeps)) HP0.Z.2);have HPP:=ae (show ∀ (at_:Int) (W2:World) (v2:Value),bC W2 w1.drew.heap.size v2 p->ak w1.drew W2->∃ c,bF 10 #[.pointer (some ⟨u,0,none⟩),.int .i64 id,.int .i64 at_,v2] W2 (rQ w R d r y st t u u' i (bS v2 p::aA ob (yc 1 id au (.slice pa p.length pc) n m mv)::rs) (.int .i64 c) 89 #[.pointer (some ⟨u',0,none⟩),.int .i64 id,.int .i64 at_,.slice pa p.length pc]) from λat_ W2 v2 ho hk=>by have h2:=(H1.Z.quiet (ah.refl _ _).drew).more (W':=W2) (x:=bS v2 p) (λA hA=>hA.ix ho hk);exact NY h2 HI.Z id at_ HP0.Z.2 HP0.Z.1 (gw ..))
 have Vu:=ae (show ∀ (W2:World) (ls:List (bB w.heap.size)),Own w W2 ls->aA y (jB d st t u) ∈ ls->aA ob (yc 1 id au (.slice pa p.length pc) n m mv) ∈ ls->RD y u ob 1 id au (.slice pa p.length pc) n m mv W2 from λW2 ls ho h1 h2=>RD.of ho h1 h2);have HK:=ae (show ∀ W2,ak w1.drew W2->RD y u ob 1 id au (.slice pa p.length pc) n m mv W2 from λW2 hk=>Vu.Z W2 _ (((H1.Z.quiet (ah.refl _ _).drew).quiet hk).own) (by simp) (by simp));clear HP0;by_cases hn:n=-1
 ·subst hn;rcases XE.Z with ⟨-,hf⟩ | ⟨x,sp,qq,L1,L2,bv,-,-,-,-,-,hf,hx⟩
  ·have fb:=nN.Z;rw [hf] at fb;have rp:=ae fb;clear hf fb nN XE;go_upto_region 8 with fail;go_wp2_with fail;refine gU rp.Z.Z ?_;go_upto_region 11 with fail;clear rp q0 q1 q2 q3 q4 q5 q6 ;refine wp_region_held_drew (S:=RD y u ob 1 id au (.slice pa p.length pc) (-1) m mv) (by kernel_rfl) (by exact HK.Z _ (ah.refl _ _)) (λai=> ?_);refine tk 0 75 (.pointer (some ⟨y,0,none⟩)) ai ?_;refine tk 1 76 (.pointer (some ⟨y,0,none⟩)) ai ?_;refine tk 2 77 (.pointer (some ⟨y,3,none⟩)) ai ?_;refine tk 3 78 (.pointer (some ⟨u,0,none⟩)) ai ?_ (hy:=Or.inl ⟨by rfl,by intro w bK;(try dsimp only at bK);(obtain ⟨q3,q0,q1,q2,q4,q5,q6⟩:=bK;go_simp)⟩);refine tk 4 79 (.pointer (some ⟨ob,1,none⟩)) ai ?_;refine tk 5 80 (.int .i64 id) ai ?_ (hy:=Or.inl ⟨by rfl,by intro w bK;(try dsimp only at bK);(obtain ⟨q3,q0,q1,q2,q4,q5,q6⟩:=bK;go_simp)⟩);refine tk 6 81 (.int .i64 (-1)) ai ?_;refine tk 7 82 (.pointer (some ⟨ob,3,none⟩)) ai ?_;refine tk 8 83 (.slice pa p.length pc) ai ?_ (hy:=Or.inl ⟨by rfl,by intro w bK;(try dsimp only at bK);(obtain ⟨q3,q0,q1,q2,q4,q5,q6⟩:=bK;go_simp)⟩);refine tk 11 86 (.pointer (some ⟨u',0,none⟩)) ai ?_;refine tk 12 87 (.pointer (some ⟨ob,1,none⟩)) ai ?_;refine tk 13 88 (.int .i64 id) ai ?_ (hy:=Or.inl ⟨by rfl,by intro w bK;(try dsimp only at bK);(obtain ⟨q3,q0,q1,q2,q4,q5,q6⟩:=bK;go_simp)⟩);refine tk 14 89 (.int .i64 (-1)) ai ?_;refine tk 15 90 (.pointer (some ⟨ob,3,none⟩)) ai ?_;refine tk 16 91 (.slice pa p.length pc) ai ?_ (hy:=Or.inl ⟨by rfl,by intro w bK;(try dsimp only at bK);(obtain ⟨q3,q0,q1,q2,q4,q5,q6⟩:=bK;go_simp)⟩);try go_frame
   refine eR [9] ?_;refine gH 84 λK hK=> ?_;go_simp;go_at_call 27;refine yH.Z.mono ?_;rintro e w2 ⟨v2,rfl,dy,cg⟩;obtain ⟨c1,C4⟩:=HPP.Z (-1) w2 v2 dy cg;have MO:=ae C4;obtain ⟨ta,tc,rfl,-,-⟩:=dy.bytes.aG;have oE:=ae (HK.Z w2 cg);clear dy cg C4;refine hK.Z _ _ (by exact oE.Z) (λaK=> ?_);clear hK K;try go_frame
   refine eR [10] ?_;refine gH 85 λK hK=> ?_;go_simp;go_at_call 10;refine MO.Z.mono ?_;rintro e w3 ⟨rfl,h3,nK⟩;have D2:=ae (Vu.Z w3 _ h3 (by simp) (by simp));have nL:=ae nK;clear h3 nK;refine hK.Z _ _ (by exact D2.Z) (λaI=> ?_);clear hK K;try go_frame
   refine eR [17] ?_;refine gH 92 λK hK=> ?_;go_simp;go_at_call 89;refine (nL.Z _ (ah.refl _ _)).mono ?_;rintro e w4 ⟨rfl,h4⟩;have H4:=ae h4.any.less.less;have KM:=ae (Vu.Z w4 _ h4.NV (by simp) (by simp));clear h4 nL;refine hK.Z _ _ (by exact KM.Z) (λbJ=> ?_);clear hK K;refine tk 18 93 (.bool true) bJ ?_;refine tk 19 6 (.bool true) bJ ?_;try go_frame
   refine wpAnyH_done (by kernel_rfl) ?_ _;clear ai aK aI bJ HPP MO yH H1 D2 KM HK oE Vu;go_wp2;go_ret;exact ⟨rfl,H4.Z⟩
  ·have fb:=nN.Z;rw [hf] at fb;obtain ⟨g,gc,ba,bc,z3,rfl,z4,-⟩:=H1.Z.cells hx;have aX:=(List.getElem?_eq_some_iff.1 hx).1;obtain ⟨k,hk⟩:=cE (L1.length);rw [<-hk] at fb z4 aX;have j1:(k:Int) <P.length:=by omega
   have j2:=np k;have rp:=ae fb;clear hf fb nN XE hx aX hk;go_upto_region 8 with fail;go_wp2_with fail;refine gU rp.Z.Z ?_;go_upto_region 11 with fail;clear rp q0 q1 q2 q3 q4 q5 q6 z3 z4 j1 j2;refine wp_region_held_drew (S:=RD y u ob 1 id au (.slice pa p.length pc) (-1) m mv) (by kernel_rfl) (by exact HK.Z _ (ah.refl _ _)) (λai=> ?_);refine tk 0 75 (.pointer (some ⟨y,0,none⟩)) ai ?_;refine tk 1 76 (.pointer (some ⟨y,0,none⟩)) ai ?_;refine tk 2 77 (.pointer (some ⟨y,3,none⟩)) ai ?_;refine tk 3 78 (.pointer (some ⟨u,0,none⟩)) ai ?_ (hy:=Or.inl ⟨by rfl,by intro w bK;(try dsimp only at bK);(obtain ⟨q3,q0,q1,q2,q4,q5,q6⟩:=bK;go_simp)⟩);refine tk 4 79 (.pointer (some ⟨ob,1,none⟩)) ai ?_;refine tk 5 80 (.int .i64 id) ai ?_ (hy:=Or.inl ⟨by rfl,by intro w bK;(try dsimp only at bK);(obtain ⟨q3,q0,q1,q2,q4,q5,q6⟩:=bK;go_simp)⟩);refine tk 6 81 (.int .i64 ((x.b.length:Int))) ai ?_;refine tk 7 82 (.pointer (some ⟨ob,3,none⟩)) ai ?_;refine tk 8 83 (.slice pa p.length pc) ai ?_ (hy:=Or.inl ⟨by rfl,by intro w bK;(try dsimp only at bK);(obtain ⟨q3,q0,q1,q2,q4,q5,q6⟩:=bK;go_simp)⟩);refine tk 11 86 (.pointer (some ⟨u',0,none⟩)) ai ?_;refine tk 12 87 (.pointer (some ⟨ob,1,none⟩)) ai ?_;refine tk 13 88 (.int .i64 id) ai ?_ (hy:=Or.inl ⟨by rfl,by intro w bK;(try dsimp only at bK);(obtain ⟨q3,q0,q1,q2,q4,q5,q6⟩:=bK;go_simp)⟩);refine tk 14 89 (.int .i64 ((x.b.length:Int))) ai ?_;refine tk 15 90 (.pointer (some ⟨ob,3,none⟩)) ai ?_;refine tk 16 91 (.slice pa p.length pc) ai ?_ (hy:=Or.inl ⟨by rfl,by intro w bK;(try dsimp only at bK);(obtain ⟨q3,q0,q1,q2,q4,q5,q6⟩:=bK;go_simp)⟩);try go_frame
   refine eR [9] ?_;refine gH 84 λK hK=> ?_;go_simp;go_at_call 27;refine yH.Z.mono ?_;rintro e w2 ⟨v2,rfl,dy,cg⟩;obtain ⟨c1,C4⟩:=HPP.Z ((x.b.length:Int)) w2 v2 dy cg;have MO:=ae C4;obtain ⟨ta,tc,rfl,-,-⟩:=dy.bytes.aG;have oE:=ae (HK.Z w2 cg);clear dy cg C4;refine hK.Z _ _ (by exact oE.Z) (λaK=> ?_);clear hK K;try go_frame
   refine eR [10] ?_;refine gH 85 λK hK=> ?_;go_simp;go_at_call 10;refine MO.Z.mono ?_;rintro e w3 ⟨rfl,h3,nK⟩;have D2:=ae (Vu.Z w3 _ h3 (by simp) (by simp));have nL:=ae nK;clear h3 nK;refine hK.Z _ _ (by exact D2.Z) (λaI=> ?_);clear hK K;try go_frame
   refine eR [17] ?_;refine gH 92 λK hK=> ?_;go_simp;go_at_call 89;refine (nL.Z _ (ah.refl _ _)).mono ?_;rintro e w4 ⟨rfl,h4⟩;have H4:=ae h4.any.less.less;have KM:=ae (Vu.Z w4 _ h4.NV (by simp) (by simp));clear h4 nL;refine hK.Z _ _ (by exact KM.Z) (λbJ=> ?_);clear hK K;refine tk 18 93 (.bool true) bJ ?_;refine tk 19 6 (.bool true) bJ ?_;try go_frame
   refine wpAnyH_done (by kernel_rfl) ?_ _;clear ai aK aI bJ HPP MO yH H1 D2 KM HK oE Vu;go_wp2;go_ret;exact ⟨rfl,H4.Z⟩
 ·have b1:(n==-1)=false:=by rw [beq_eq_false_iff_ne];exact hn
  have rp:=nN;clear hn nN XE;go_upto_region 8 with fail;go_wp2_with fail;refine gU rp.Z.Z ?_;go_upto_region 11 with fail;clear rp q0 q1 q2 q3 q4 q5 q6 b1;refine wp_region_held_drew (S:=RD y u ob 1 id au (.slice pa p.length pc) (n) m mv) (by kernel_rfl) (by exact HK.Z _ (ah.refl _ _)) (λai=> ?_);refine tk 0 75 (.pointer (some ⟨y,0,none⟩)) ai ?_;refine tk 1 76 (.pointer (some ⟨y,0,none⟩)) ai ?_;refine tk 2 77 (.pointer (some ⟨y,3,none⟩)) ai ?_;refine tk 3 78 (.pointer (some ⟨u,0,none⟩)) ai ?_ (hy:=Or.inl ⟨by rfl,by intro w bK;(try dsimp only at bK);(obtain ⟨q3,q0,q1,q2,q4,q5,q6⟩:=bK;go_simp)⟩);refine tk 4 79 (.pointer (some ⟨ob,1,none⟩)) ai ?_;refine tk 5 80 (.int .i64 id) ai ?_ (hy:=Or.inl ⟨by rfl,by intro w bK;(try dsimp only at bK);(obtain ⟨q3,q0,q1,q2,q4,q5,q6⟩:=bK;go_simp)⟩);refine tk 6 81 (.int .i64 (n)) ai ?_;refine tk 7 82 (.pointer (some ⟨ob,3,none⟩)) ai ?_;refine tk 8 83 (.slice pa p.length pc) ai ?_ (hy:=Or.inl ⟨by rfl,by intro w bK;(try dsimp only at bK);(obtain ⟨q3,q0,q1,q2,q4,q5,q6⟩:=bK;go_simp)⟩);refine tk 11 86 (.pointer (some ⟨u',0,none⟩)) ai ?_;refine tk 12 87 (.pointer (some ⟨ob,1,none⟩)) ai ?_;refine tk 13 88 (.int .i64 id) ai ?_ (hy:=Or.inl ⟨by rfl,by intro w bK;(try dsimp only at bK);(obtain ⟨q3,q0,q1,q2,q4,q5,q6⟩:=bK;go_simp)⟩);refine tk 14 89 (.int .i64 (n)) ai ?_;refine tk 15 90 (.pointer (some ⟨ob,3,none⟩)) ai ?_;refine tk 16 91 (.slice pa p.length pc) ai ?_ (hy:=Or.inl ⟨by rfl,by intro w bK;(try dsimp only at bK);(obtain ⟨q3,q0,q1,q2,q4,q5,q6⟩:=bK;go_simp)⟩);try go_frame
  refine eR [9] ?_;refine gH 84 λK hK=> ?_;go_simp;go_at_call 27;refine yH.Z.mono ?_;rintro e w2 ⟨v2,rfl,dy,cg⟩;obtain ⟨c1,C4⟩:=HPP.Z (n) w2 v2 dy cg;have MO:=ae C4;obtain ⟨ta,tc,rfl,-,-⟩:=dy.bytes.aG;have oE:=ae (HK.Z w2 cg);clear dy cg C4;refine hK.Z _ _ (by exact oE.Z) (λaK=> ?_);clear hK K;try go_frame
  refine eR [10] ?_;refine gH 85 λK hK=> ?_;go_simp;go_at_call 10;refine MO.Z.mono ?_;rintro e w3 ⟨rfl,h3,nK⟩;have D2:=ae (Vu.Z w3 _ h3 (by simp) (by simp));have nL:=ae nK;clear h3 nK;refine hK.Z _ _ (by exact D2.Z) (λaI=> ?_);clear hK K;try go_frame
  refine eR [17] ?_;refine gH 92 λK hK=> ?_;go_simp;go_at_call 89;refine (nL.Z _ (ah.refl _ _)).mono ?_;rintro e w4 ⟨rfl,h4⟩;have H4:=ae h4.any.less.less;have KM:=ae (Vu.Z w4 _ h4.NV (by simp) (by simp));clear h4 nL;refine hK.Z _ _ (by exact KM.Z) (λbJ=> ?_);clear hK K;refine tk 18 93 (.bool true) bJ ?_;refine tk 19 6 (.bool true) bJ ?_;try go_frame
  refine wpAnyH_done (by kernel_rfl) ?_ _;clear ai aK aI bJ HPP MO yH H1 D2 KM HK oE Vu;go_wp2;go_ret;exact ⟨rfl,H4.Z⟩
end
section
variable {w W:World} {R:Int} {d r y u' i:Nat} {rs:List (bB w.heap.size)} {s:DS} {L:UL} {nx st t j b u mp q t':Nat} {v lv vL:Value} {P:List (eT × Value)} {S:List (Value × aH)}
theorem UN {wr w':World} {v:Value} {cs:List eX} (ho:eG 109 wr.heap.size w' v cs) (hk:ak wr w'):∃ ps,∀ (rs:List (bB w.heap.size)),Own w wr rs->Own w w' (o7 v ps cs::rs):=by obtain ⟨ps,h1,h2,h3⟩:=ho;exact ⟨ps,λrs h=>h.add hk (r:=o7 v ps cs) (G:=λb=>wr.heap.size<=b/\b <w'.heap.size) ⟨h1.mono (λp c hp=>⟨xS hp,λb hb=>⟨(du hp b hb).2,(du hp b hb).1⟩⟩),xS h2,λb hb=>⟨(h2.lt b hb).1,(h2.lt b hb).2⟩⟩ (λb hb=>hb)⟩
def RN (y u ob:Nat) (k id:Int) (au:aD) (pv:Value) (n m:Int) (lv:Value) (sb:Nat) (cl:List Value) (W:World):Prop:=RD y u ob k id au pv n m lv W/\W.rangeAt sb 0 cl
theorem RN.of {ob sb:Nat} {k id n m:Int} {au:aD} {pv lv:Value} {cl:List Value} {ls:List (bB w.heap.size)} (h:Own w W ls) (h1:aA y (jB d st t u) ∈ ls) (h2:aA ob (yc k id au pv n m lv) ∈ ls) (h3:aA sb (.cells cl.toArray 24) ∈ ls):RN y u ob k id au pv n m lv sb cl W:=
 ⟨RD.of h h1 h2,h.range (b:=sb) (cl:=cl) (t:=24) h3⟩
theorem YH.setRow {sb:Nat} {c0 c1:Array Value} (h:YH w W R d r y u' i (aA sb (.cells c0 24 (0,0))::rs) s L nx st t j b u mp q t' v lv vL P S):YH w (W.setRow sb c1) R d r y u' i (aA sb (.cells c1 24 (0,0))::rs) s L nx st t j b u mp q t' v lv vL P S:=
 ⟨h.mX,h.pl,h.ok,((h.own.perm (O1 _ _ _ _ _ _ _).symm).setRow c1).perm (O1 _ _ _ _ _ _ _)⟩
theorem Rm (h:YH w W R d r y u' i rs s L nx st t j b u mp q t' v lv vL P S) (hi:i<=50) (id n m:Int) (au:aD) (wZ:aC w pv p) (kL:p.length<=2000) (hL:fu w la ML) (hML:ML.length<=5) (hval:∀ c ∈ ML,c.val.length<=140737488355328) (sQ:∀ c ∈ ML,Xw nx c): bF 36 #[.pointer (some ⟨y,0,none⟩),.pointer (some ⟨u',0,none⟩),.agg #[.int .i64 2,.int .i64 id,.string au,pv,.int .i64 n,.int .i64 m,.slice la ML.length lc]] W (KK w R d r y u' i rs):=by
 obtain ⟨mv,hmv⟩:=cE (Value.slice la ML.length lc);have h1:YH w (W.alloc (yc 2 id au pv n m mv)) R d r y u' i (aA W.heap.size (yc 2 id au pv n m mv)::rs) s L nx st t j b u mp q t' v lv vL P S:=h.more (λA hA=>hA.alloc _);obtain ⟨w1,fh⟩:=cE (W.alloc (yc 2 id au pv n m mv));rw [<-fh] at h1;obtain ⟨ob,qJ⟩:=cE (W.heap.size);rw [<-qJ] at h1;obtain ⟨pa,pc,rfl,-,-⟩:=wZ.aG;have fk:=ae (show ∀ (sb:Nat) (dg:aH) (W0:World),dg.length=32->YH w W0 R d r y u' i (aA sb (.cells (dg.map dF).toArray 24)::aA ob (yc 2 id au (.slice pa p.length pc) n m mv)::rs) s L nx st t j b u mp q t' v lv vL P S->∀ (W2:World) (tv:Value),eG 109 W0.heap.size W2 tv ML->ak W0 W2->
   ∃ (c:Int) (ps:List Value) (ma:Option Addr) (mc:Nat),tv= .slice ma ML.length mc/\bF 12 #[.pointer (some ⟨u,0,none⟩),.int .i64 id,.agg (dg.map dF).toArray,.slice ma ML.length mc] W2 (rQ w R d r y st t u u' i (o7 (.slice ma ML.length mc) ps ML::aA sb (.cells (dg.map dF).toArray 24)::aA ob (yc 2 id au (.slice pa p.length pc) n m mv)::rs) (.int .i64 c) 92 #[.pointer (some ⟨u',0,none⟩),.int .i64 id,.agg (dg.map dF).toArray,mv]) from λsb dg W0 lQ hy W2 tv ho hk=>by
  obtain ⟨ma,mc,e⟩:∃ ma mc,tv= .slice ma ML.length mc:=by obtain ⟨ps,-,h2,-⟩:=ho;exact bA h2
  subst e;obtain ⟨ps,zj⟩:=UN (w:=w) ho hk;have h2:=hy.more (W':=W2) (x:=o7 (.slice ma ML.length mc) ps ML) (λA hA=>zj A hA);obtain ⟨c,hc⟩:=KJ h2 hi id lQ (ma:=ma) (mc:=mc) (ps:=ps) (lc:=lc) (gw ..) hML sQ hL;rw [hmv];exact ⟨c,ps,ma,mc,rfl,by rw [hmv] at hc;exact hc⟩)
 have HTO:=ae (show ∀ (W0:World),ak w W0->bF 91 #[mv] W0 (MM W0 ML) from λW0 hk=>by rw [hmv];exact Nl (hL.keep hk) (by omega) hval)
 have gm:=RD.of (k:=2) (id:=id) (au:=au) (pv:= .slice pa p.length pc) (n:=n) (m:=m) (lv:=mv) (ob:=ob) (y:=y) (d:=d) (st:=st) (t:=t) (u:=u) h1.own (by simp) (by simp);have nN:=ae (λ(sb:Nat) (o:Obj) (W0:World) (hy:YH w W0 R d r y u' i (aA sb o::aA ob (yc 2 id au (.slice pa p.length pc) n m mv)::rs) s L nx st t j b u mp q t' v lv vL P S)=>hy.YL hi id);have XE:=ae (h1.find id);have DL:=h1.IA;have H1:=ae h1;obtain ⟨cl,dI⟩:∃ cl:List Value,cl=(ei p).map dF:=⟨_,rfl⟩;have kW:=rO (wZ.keep h1.own.keeps) (by omega);rw [<-dI] at kW;have wN:=ae kW;have ZJ:∀ l:aH,((ei l).map dF).toArray.size=32:=λl=>by simp [dz]
 have rV:=ae dI;have xk:=ae (show cl.toArray.size=32 by rw [dI];exact ZJ p);have HI:=ae (show (Tryz.prog.info? 24).map (·.size)=some cl.toArray.size by rw [xk.Z];kernel_rfl);have Mu:=ae (show cl.toArray.all (·.oneCell')=true by rw [dI];exact mP _);have HW:=ae fh;have AL:=ae qJ;obtain ⟨q3,q0,q1,q2,q4,q5,q6⟩:=gm;clear h h1 fh qJ hi wZ kL DL hL hML hval sQ kW dI ZJ;go_enter Tryz.func36,Tryz.ntmps36;go_upto_region 1 with fail;rw [<-hmv,show W.alloc (.cells #[.int .i64 2,.int .i64 id,.string au,.slice pa p.length pc,.int .i64 n,.int .i64 m,mv] 67 (0,0))=w1 from HW.Z.symm,<-AL.Z];clear hmv;go_upto_region 13 with fail;go_wp2_with fail;refine wN.Z.mono ?_;rintro e w2 ⟨rfl,cg⟩;have h2:YH w (w2.alloc (.cells cl.toArray 24)) R d r y u' i (aA w2.heap.size (.cells cl.toArray 24)::aA ob (yc 2 id au (.slice pa p.length pc) n m mv)::rs) s L nx st t j b u mp q t' v lv vL P S:=(H1.Z.quiet cg).more (λA hA=>hA.alloc _);have H2:=ae h2;clear cg h2 wN q0 q1 q2 q3 q4 q5 q6;go_upto_region 14 with (first | (refine wpList_store_row rfl 24 _ _ rfl w2.heap.size cl.toArray rfl rfl 24 _ (heap_alloc_new w2 _) HI.Z (by rw [xk.Z];kernel_rfl) Mu.Z ?_;rw [World.setRow_alloc_new]));generalize w2.alloc (.cells cl.toArray 24)=w3 at H2 ⊢;generalize w2.heap.size=sb at H2 ⊢;have WJ:=RN.of (k:=2) (id:=id) (au:=au) (pv:= .slice pa p.length pc) (n:=n) (m:=m) (lv:=mv) (ob:=ob) (y:=y) (d:=d) (st:=st) (t:=t) (u:=u) (sb:=sb) (cl:=cl) H2.Z.own (by simp) (by simp) (by simp);obtain ⟨⟨q3,q0,q1,q2,q4,q5,q6⟩,-⟩:=WJ;have Vp:=ae (nN.Z sb _ w3 H2.Z);have AN:=ae (show (Tryz.prog.info? 24).map (·.size)=some cl.length by rw [show cl.length=32 by rw [rV.Z];simp [dz]];kernel_rfl);clear nN H1;by_cases hp:p.length=0
 ·have b1:((p.length:Int)==0)=true:=by simp [hp]
  rcases XE.Z with ⟨-,hf⟩ | ⟨x,sp,qq,L1,L2,bv,-,-,-,-,-,hf,hx⟩
  ·have fb:=Vp.Z;rw [hf] at fb;have rp:=ae fb;clear hf fb Vp XE hp;have NZ:=fk.Z sb (ei p) w3.drew (dz _) (by rw [<-rV.Z];exact H2.Z.quiet (ah.refl _ w3).drew);rw [<-rV.Z] at NZ;have YM:=ae NZ;clear NZ fk;go_wp2_with fail;refine rp.Z.Z.mono ?_;rintro e w' ⟨rfl,rfl⟩;have HL:=ae (H2.Z.quiet (ah.refl _ w3).drew);have HT:=ae (HTO.Z _ HL.Z.own.keeps);have KN:=ae (show ∀ (W2:World) (ls:List (bB w.heap.size)),Own w W2 ls->aA y (jB d st t u) ∈ ls->aA ob (yc 2 id au (.slice pa p.length pc) n m mv) ∈ ls->aA sb (.cells cl.toArray 24) ∈ ls->RN y u ob 2 id au (.slice pa p.length pc) n m mv sb cl W2 from λW2 ls ho h1 h2 h3=>RN.of ho h1 h2 h3);go_upto_region 17 with fail;refine wp_region_held_drew (S:=RN y u ob 2 id au (.slice pa p.length pc) n m mv sb cl) (by kernel_rfl) (by exact KN.Z _ _ HL.Z.own (by simp) (by simp) (by simp)) (λai=> ?_);refine tk 0 120 (.pointer (some ⟨y,0,none⟩)) ai ?_;refine tk 1 121 (.pointer (some ⟨y,0,none⟩)) ai ?_;refine tk 2 122 (.pointer (some ⟨y,3,none⟩)) ai ?_;refine tk 3 123 (.pointer (some ⟨u,0,none⟩)) ai ?_ (hy:=Or.inl ⟨by rfl,by intro w bK;(try dsimp only at bK);(obtain ⟨⟨q3,q0,q1,q2,q4,q5,q6⟩,-⟩:=bK;go_simp)⟩);refine tk 4 124 (.pointer (some ⟨ob,1,none⟩)) ai ?_;refine tk 5 125 (.int .i64 id) ai ?_ (hy:=Or.inl ⟨by rfl,by intro w bK;(try dsimp only at bK);(obtain ⟨⟨q3,q0,q1,q2,q4,q5,q6⟩,-⟩:=bK;go_simp)⟩);try go_frame
   refine D8 6 126 (.agg (cl).toArray) rfl (by kernel_rfl) (by kernel_rfl) (by kernel_rfl) (λ_ _ _ h=>h) (yieldsIf_load_mid (by rfl) _ _ rfl (sb) (0) rfl (cl) _ ((λw' hk=>hk.2)) Tryz.underlying24 rfl AN.Z) ai ?_;refine tk 7 127 (.pointer (some ⟨ob,6,none⟩)) ai ?_;refine tk 8 128 (mv) ai ?_ (hy:=Or.inl ⟨by rfl,by intro w bK;(try dsimp only at bK);(obtain ⟨⟨q3,q0,q1,q2,q4,q5,q6⟩,-⟩:=bK;go_simp)⟩);refine tk 11 131 (.pointer (some ⟨u',0,none⟩)) ai ?_;refine tk 12 132 (.pointer (some ⟨ob,1,none⟩)) ai ?_;refine tk 13 133 (.int .i64 id) ai ?_ (hy:=Or.inl ⟨by rfl,by intro w bK;(try dsimp only at bK);(obtain ⟨⟨q3,q0,q1,q2,q4,q5,q6⟩,-⟩:=bK;go_simp)⟩);try go_frame
   refine D8 14 134 (.agg (cl).toArray) rfl (by kernel_rfl) (by kernel_rfl) (by kernel_rfl) (λ_ _ _ h=>h) (yieldsIf_load_mid (by rfl) _ _ rfl (sb) (0) rfl (cl) _ ((λw' hk=>hk.2)) Tryz.underlying24 rfl AN.Z) ai ?_;refine tk 15 135 (.pointer (some ⟨ob,6,none⟩)) ai ?_;refine tk 16 136 (mv) ai ?_ (hy:=Or.inl ⟨by rfl,by intro w bK;(try dsimp only at bK);(obtain ⟨⟨q3,q0,q1,q2,q4,q5,q6⟩,-⟩:=bK;go_simp)⟩);try go_frame
   refine eR [9] ?_;refine gH 129 λK hK=> ?_;go_simp;go_at_call 91;refine HT.Z.mono ?_;rintro e w6 ⟨tv,rfl,ht,gZ⟩;obtain ⟨c1,ps,ma,mc,e,cK⟩:=YM.Z w6 tv ht gZ;subst e;have YN:=ae cK;have RA:=ae (KN.Z _ _ (HL.Z.quiet gZ).own (by simp) (by simp) (by simp));clear ht gZ cK;refine hK.Z _ _ (by exact RA.Z) (λaK=> ?_);clear hK K;try go_frame
   refine eR [10] ?_;refine gH 130 λK hK=> ?_;go_simp;go_at_call 12;refine YN.Z.mono ?_;rintro e w7 ⟨rfl,h7,nK⟩;have Rs:=ae (KN.Z w7 _ h7 (by simp) (by simp) (by simp));have nL:=ae nK;clear h7 nK;refine hK.Z _ _ (by exact Rs.Z) (λaI=> ?_);clear hK K;try go_frame
   refine eR [17] ?_;refine gH 137 λK hK=> ?_;go_simp;go_at_call 92;refine (nL.Z _ (ah.refl _ _)).mono ?_;rintro e w8 ⟨rfl,h8⟩;have H8:=ae h8.any.less.less.less;have YO:=ae (KN.Z w8 _ h8.NV (by simp) (by simp) (by simp));clear h8 nL;refine hK.Z _ _ (by exact YO.Z) (λbJ=> ?_);clear hK K;refine tk 18 138 (.bool true) bJ ?_;refine tk 19 6 (.bool true) bJ ?_;try go_frame
   refine wpAnyH_done (by kernel_rfl) ?_ _;clear ai aK aI bJ YM YN HT HL Rs YO RA KN;go_wp2;go_ret;exact ⟨rfl,H8.Z⟩
  ·have fb:=Vp.Z;rw [hf] at fb;obtain ⟨g,gc,ba,bc,z3,rfl,z4,acq⟩:=H2.Z.cells hx;have aX:=(List.getElem?_eq_some_iff.1 hx).1;obtain ⟨k,hk⟩:=cE (L1.length);rw [<-hk] at fb z4 aX;have j1:(k:Int) <P.length:=by omega
   have j2:=np k;have rp:=ae fb;have AO:x.b.length<=1048576:=by obtain ⟨_,-,-,-,-,-,hb⟩:=H2.Z.mX.each x (by rw [<-H2.Z.pl];exact List.mem_map.2 ⟨_,kx hx,rfl⟩);exact hb
   have kW:=rO acq (by omega);obtain ⟨c2,gy⟩:∃ c2:List Value,c2=(ei x.b).map dF:=⟨_,rfl⟩;rw [<-gy] at kW;have wN:=ae kW;have VY:=ae gy;have acr:=ae (show c2.toArray.size=32 by rw [gy];simp [dz]);have Rq:=ae (show (Tryz.prog.info? 24).map (·.size)=some c2.toArray.size by rw [acr.Z];kernel_rfl);have acs:=ae (show (Tryz.prog.info? 24).map (·.size)=some c2.length by rw [show c2.length=32 by rw [gy];simp [dz]];kernel_rfl);have acu:=ae (show c2.toArray.all (·.oneCell')=true by rw [gy];exact mP _);clear hf fb Vp XE hp hx aX hk acq AO kW gy;go_wp2_with fail;refine rp.Z.Z.mono ?_;rintro e w' ⟨rfl,rfl⟩;go_wp2_with fail;refine wN.Z.mono ?_;rintro e w4 ⟨rfl,eA⟩;have h4:=H2.Z.quiet eA;have HB4:=ae (h4.own.at (b:=sb) (o:= .cells cl.toArray 24) (by simp)).1;have H5:=ae (h4.setRow (c1:=c2.toArray));clear eA h4 wN rp q0 q1 q2 q3 q4 q5 q6 z3 z4;go_upto_region 17 with (first | (refine wpList_store_row rfl 24 _ _ rfl sb c2.toArray rfl rfl 24 _ HB4.Z Rq.Z (by rw [xk.Z,acr.Z]) acu.Z ?_));generalize w4.setRow sb c2.toArray=w5 at H5 ⊢;have NZ:=fk.Z sb (ei x.b) w5.drew (dz _) (by rw [<-VY.Z];exact H5.Z.quiet (ah.refl _ w5).drew);rw [<-VY.Z] at NZ;have YM:=ae NZ;clear NZ fk;have HL:=ae (H5.Z.quiet (ah.refl _ w5).drew);have HT:=ae (HTO.Z _ HL.Z.own.keeps);have KN:=ae (show ∀ (W2:World) (ls:List (bB w.heap.size)),Own w W2 ls->aA y (jB d st t u) ∈ ls->aA ob (yc 2 id au (.slice pa p.length pc) n m mv) ∈ ls->aA sb (.cells c2.toArray 24) ∈ ls->RN y u ob 2 id au (.slice pa p.length pc) n m mv sb c2 W2 from λW2 ls ho h1 h2 h3=>RN.of ho h1 h2 h3);refine wp_region_held_drew (S:=RN y u ob 2 id au (.slice pa p.length pc) n m mv sb c2) (by kernel_rfl) (by exact KN.Z _ _ HL.Z.own (by simp) (by simp) (by simp)) (λai=> ?_);refine tk 0 120 (.pointer (some ⟨y,0,none⟩)) ai ?_;refine tk 1 121 (.pointer (some ⟨y,0,none⟩)) ai ?_;refine tk 2 122 (.pointer (some ⟨y,3,none⟩)) ai ?_;refine tk 3 123 (.pointer (some ⟨u,0,none⟩)) ai ?_ (hy:=Or.inl ⟨by rfl,by intro w bK;(try dsimp only at bK);(obtain ⟨⟨q3,q0,q1,q2,q4,q5,q6⟩,-⟩:=bK;go_simp)⟩);refine tk 4 124 (.pointer (some ⟨ob,1,none⟩)) ai ?_;refine tk 5 125 (.int .i64 id) ai ?_ (hy:=Or.inl ⟨by rfl,by intro w bK;(try dsimp only at bK);(obtain ⟨⟨q3,q0,q1,q2,q4,q5,q6⟩,-⟩:=bK;go_simp)⟩);try go_frame
   refine D8 6 126 (.agg (c2).toArray) rfl (by kernel_rfl) (by kernel_rfl) (by kernel_rfl) (λ_ _ _ h=>h) (yieldsIf_load_mid (by rfl) _ _ rfl (sb) (0) rfl (c2) _ ((λw' hk=>hk.2)) Tryz.underlying24 rfl acs.Z) ai ?_;refine tk 7 127 (.pointer (some ⟨ob,6,none⟩)) ai ?_;refine tk 8 128 (mv) ai ?_ (hy:=Or.inl ⟨by rfl,by intro w bK;(try dsimp only at bK);(obtain ⟨⟨q3,q0,q1,q2,q4,q5,q6⟩,-⟩:=bK;go_simp)⟩);refine tk 11 131 (.pointer (some ⟨u',0,none⟩)) ai ?_;refine tk 12 132 (.pointer (some ⟨ob,1,none⟩)) ai ?_;refine tk 13 133 (.int .i64 id) ai ?_ (hy:=Or.inl ⟨by rfl,by intro w bK;(try dsimp only at bK);(obtain ⟨⟨q3,q0,q1,q2,q4,q5,q6⟩,-⟩:=bK;go_simp)⟩);try go_frame
   refine D8 14 134 (.agg (c2).toArray) rfl (by kernel_rfl) (by kernel_rfl) (by kernel_rfl) (λ_ _ _ h=>h) (yieldsIf_load_mid (by rfl) _ _ rfl (sb) (0) rfl (c2) _ ((λw' hk=>hk.2)) Tryz.underlying24 rfl acs.Z) ai ?_;refine tk 15 135 (.pointer (some ⟨ob,6,none⟩)) ai ?_;refine tk 16 136 (mv) ai ?_ (hy:=Or.inl ⟨by rfl,by intro w bK;(try dsimp only at bK);(obtain ⟨⟨q3,q0,q1,q2,q4,q5,q6⟩,-⟩:=bK;go_simp)⟩);try go_frame
   refine eR [9] ?_;refine gH 129 λK hK=> ?_;go_simp;go_at_call 91;refine HT.Z.mono ?_;rintro e w6 ⟨tv,rfl,ht,gZ⟩;obtain ⟨c1,ps,ma,mc,e,cK⟩:=YM.Z w6 tv ht gZ;subst e;have YN:=ae cK;have RA:=ae (KN.Z _ _ (HL.Z.quiet gZ).own (by simp) (by simp) (by simp));clear ht gZ cK;refine hK.Z _ _ (by exact RA.Z) (λaK=> ?_);clear hK K;try go_frame
   refine eR [10] ?_;refine gH 130 λK hK=> ?_;go_simp;go_at_call 12;refine YN.Z.mono ?_;rintro e w7 ⟨rfl,h7,nK⟩;have Rs:=ae (KN.Z w7 _ h7 (by simp) (by simp) (by simp));have nL:=ae nK;clear h7 nK;refine hK.Z _ _ (by exact Rs.Z) (λaI=> ?_);clear hK K;try go_frame
   refine eR [17] ?_;refine gH 137 λK hK=> ?_;go_simp;go_at_call 92;refine (nL.Z _ (ah.refl _ _)).mono ?_;rintro e w8 ⟨rfl,h8⟩;have H8:=ae h8.any.less.less.less;have YO:=ae (KN.Z w8 _ h8.NV (by simp) (by simp) (by simp));clear h8 nL;refine hK.Z _ _ (by exact YO.Z) (λbJ=> ?_);clear hK K;refine tk 18 138 (.bool true) bJ ?_;refine tk 19 6 (.bool true) bJ ?_;try go_frame
   refine wpAnyH_done (by kernel_rfl) ?_ _;clear ai aK aI bJ YM YN HT HL Rs YO RA KN;go_wp2;go_ret;exact ⟨rfl,H8.Z⟩
 ·have b1:((p.length:Int)==0)=false:=by rw [beq_eq_false_iff_ne];omega
  have rp:=Vp;clear hp Vp XE;have NZ:=fk.Z sb (ei p) w3.drew (dz _) (by rw [<-rV.Z];exact H2.Z.quiet (ah.refl _ w3).drew);rw [<-rV.Z] at NZ;have YM:=ae NZ;clear NZ fk;go_wp2_with fail;refine rp.Z.Z.mono ?_;rintro e w' ⟨rfl,rfl⟩;have HL:=ae (H2.Z.quiet (ah.refl _ w3).drew);have HT:=ae (HTO.Z _ HL.Z.own.keeps);have KN:=ae (show ∀ (W2:World) (ls:List (bB w.heap.size)),Own w W2 ls->aA y (jB d st t u) ∈ ls->aA ob (yc 2 id au (.slice pa p.length pc) n m mv) ∈ ls->aA sb (.cells cl.toArray 24) ∈ ls->RN y u ob 2 id au (.slice pa p.length pc) n m mv sb cl W2 from λW2 ls ho h1 h2 h3=>RN.of ho h1 h2 h3);go_upto_region 17 with fail;refine wp_region_held_drew (S:=RN y u ob 2 id au (.slice pa p.length pc) n m mv sb cl) (by kernel_rfl) (by exact KN.Z _ _ HL.Z.own (by simp) (by simp) (by simp)) (λai=> ?_);refine tk 0 120 (.pointer (some ⟨y,0,none⟩)) ai ?_;refine tk 1 121 (.pointer (some ⟨y,0,none⟩)) ai ?_;refine tk 2 122 (.pointer (some ⟨y,3,none⟩)) ai ?_;refine tk 3 123 (.pointer (some ⟨u,0,none⟩)) ai ?_ (hy:=Or.inl ⟨by rfl,by intro w bK;(try dsimp only at bK);(obtain ⟨⟨q3,q0,q1,q2,q4,q5,q6⟩,-⟩:=bK;go_simp)⟩);refine tk 4 124 (.pointer (some ⟨ob,1,none⟩)) ai ?_;refine tk 5 125 (.int .i64 id) ai ?_ (hy:=Or.inl ⟨by rfl,by intro w bK;(try dsimp only at bK);(obtain ⟨⟨q3,q0,q1,q2,q4,q5,q6⟩,-⟩:=bK;go_simp)⟩);try go_frame
  refine D8 6 126 (.agg (cl).toArray) rfl (by kernel_rfl) (by kernel_rfl) (by kernel_rfl) (λ_ _ _ h=>h) (yieldsIf_load_mid (by rfl) _ _ rfl (sb) (0) rfl (cl) _ ((λw' hk=>hk.2)) Tryz.underlying24 rfl AN.Z) ai ?_;refine tk 7 127 (.pointer (some ⟨ob,6,none⟩)) ai ?_;refine tk 8 128 (mv) ai ?_ (hy:=Or.inl ⟨by rfl,by intro w bK;(try dsimp only at bK);(obtain ⟨⟨q3,q0,q1,q2,q4,q5,q6⟩,-⟩:=bK;go_simp)⟩);refine tk 11 131 (.pointer (some ⟨u',0,none⟩)) ai ?_;refine tk 12 132 (.pointer (some ⟨ob,1,none⟩)) ai ?_;refine tk 13 133 (.int .i64 id) ai ?_ (hy:=Or.inl ⟨by rfl,by intro w bK;(try dsimp only at bK);(obtain ⟨⟨q3,q0,q1,q2,q4,q5,q6⟩,-⟩:=bK;go_simp)⟩);try go_frame
  refine D8 14 134 (.agg (cl).toArray) rfl (by kernel_rfl) (by kernel_rfl) (by kernel_rfl) (λ_ _ _ h=>h) (yieldsIf_load_mid (by rfl) _ _ rfl (sb) (0) rfl (cl) _ ((λw' hk=>hk.2)) Tryz.underlying24 rfl AN.Z) ai ?_;refine tk 15 135 (.pointer (some ⟨ob,6,none⟩)) ai ?_;refine tk 16 136 (mv) ai ?_ (hy:=Or.inl ⟨by rfl,by intro w bK;(try dsimp only at bK);(obtain ⟨⟨q3,q0,q1,q2,q4,q5,q6⟩,-⟩:=bK;go_simp)⟩);try go_frame
  refine eR [9] ?_;refine gH 129 λK hK=> ?_;go_simp;go_at_call 91;refine HT.Z.mono ?_;rintro e w6 ⟨tv,rfl,ht,gZ⟩;obtain ⟨c1,ps,ma,mc,e,cK⟩:=YM.Z w6 tv ht gZ;subst e;have YN:=ae cK;have RA:=ae (KN.Z _ _ (HL.Z.quiet gZ).own (by simp) (by simp) (by simp));clear ht gZ cK;refine hK.Z _ _ (by exact RA.Z) (λaK=> ?_);clear hK K;try go_frame
  refine eR [10] ?_;refine gH 130 λK hK=> ?_;go_simp;go_at_call 12;refine YN.Z.mono ?_;rintro e w7 ⟨rfl,h7,nK⟩;have Rs:=ae (KN.Z w7 _ h7 (by simp) (by simp) (by simp));have nL:=ae nK;clear h7 nK;refine hK.Z _ _ (by exact Rs.Z) (λaI=> ?_);clear hK K;try go_frame
  refine eR [17] ?_;refine gH 137 λK hK=> ?_;go_simp;go_at_call 92;refine (nL.Z _ (ah.refl _ _)).mono ?_;rintro e w8 ⟨rfl,h8⟩;have H8:=ae h8.any.less.less.less;have YO:=ae (KN.Z w8 _ h8.NV (by simp) (by simp) (by simp));clear h8 nL;refine hK.Z _ _ (by exact YO.Z) (λbJ=> ?_);clear hK K;refine tk 18 138 (.bool true) bJ ?_;refine tk 19 6 (.bool true) bJ ?_;try go_frame
  refine wpAnyH_done (by kernel_rfl) ?_ _;clear ai aK aI bJ YM YN HT HL Rs YO RA KN;go_wp2;go_ret;exact ⟨rfl,H8.Z⟩
end
theorem rR {α:Type} (a b:α) (A U D X:List α):((a::A)++(U++((b::D)++X))).Perm (a::b::(A++(U++(D++X)))):=by refine sV a ?_;show (A++(U++(b::(D++X)))).Perm (b::(A++(U++(D++X))));rw [<-lN,<-lN];exact lO
theorem acv {k:aD} (h:cH k p9=true):cH k uB=true:=by
 unfold cH at h ⊢;simp only [Be,decide_eq_true_eq,beq_iff_eq] at h ⊢;obtain ⟨h1,h2⟩:=h;have e1:p9.size=2:=rfl;have e2:uB.size=1:=rfl;rw [e1] at h1 h2;rw [e2];refine ⟨by omega, ?_⟩;have h3:(k.extract 0 1).toList=((k.extract 0 2).toList).take 1:=by rw [ByteArray.toList_eq,ByteArray.toList_eq,ByteArray.data_extract,ByteArray.data_extract];simp [Array.toList_extract,List.take_take]
 rw [h3,h2,ByteArray.toList_eq,ByteArray.toList_eq];rfl
section
variable {w W:World} {R:Int} {d r y u' i:Nat} {rs:List (bB w.heap.size)}
theorem aaN {c:eX} (h:cH c.key uB=false):Xw nx c:=by
 refine ⟨λe=> ?_,λhb _=> ?_⟩
 ·rw [e,show cH uB uB=true by decide+kernel] at h;cases h
 ·rw [acv hb] at h;cases h
theorem G6 (h:lr w W R d r y u' i rs) (uM:wy w) (hi:i<=50) (k id n m:Int) (hk:k <5) (au:aD) (pE:au.size<=9223372036854775807) (hn:-9223372036854775808<=n/\n<=9223372036854775807) (wZ:aC w pv p) (hL:fu w la ML) (hf:vJ ML p=true): bF 36 #[.pointer (some ⟨y,0,none⟩),.pointer (some ⟨u',0,none⟩),.agg #[.int .i64 k,.int .i64 id,.string au,pv,.int .i64 n,.int .i64 m,.slice la ML.length lc]] W (KK w R d r y u' i rs):=by
 obtain ⟨s,L,nx,st,t,j,b,u,mp,q,t',v,lv,vL,P,S,h⟩:=h;obtain ⟨hc,kL,N8⟩:=MT hf;by_cases h0:k=0
 ·subst h0;exact Rh h uM hi id n m au pE hn pv _
 by_cases h1:k=1
 ·subst h1;exact Rl h hi id n m au wZ (by omega) _
 by_cases h2:k=2
 ·subst h2;exact Rm h hi id n m au wZ kL hL N8 (λc sw=>by have:=(hc c sw).2.1;omega) (λc sw=>aaN (hc c sw).2.2)
 by_cases h3:k=3
 ·subst h3;exact Ri h hi id n m au pv _
 by_cases h4:k=4
 ·subst h4;exact Rj h hi id n m au pv _
 exact Rk h k id n m (by omega) au pv _
theorem XF (h:lr w W R d r y u' i rs) (hi:i<=50) (k n m:Int) (hk:5<=k/\¬k=6) (hn:n<=9223372036854775807): bF 35 #[.pointer (some ⟨d,0,none⟩),.pointer (some ⟨r,0,none⟩),.agg #[.int .i64 k,.string ⟨#[]⟩,.string ⟨#[]⟩,.slice none 0 0,.int .i64 n,.int .i64 m]] W (KK w R d r y u' i rs):=by
 obtain ⟨s,L,nx,st,t,j,b,u,mp,q,t',v,lv,vL,P,S,h⟩:=h;have h1:=h.own.perm (rR _ _ [_,_,_] (bE d u st t mp (nx:Int) L) [_,_,_,_] (ay r t' u' (nx:Int) vL P S++(aA y (jB d st t u)::rs)));have ht:=h.mX.q.tidy;refine (zT h1 ht (by omega) (by omega) ⟨k,⟨#[]⟩,⟨#[]⟩,[],n,m⟩ (dH w) (by simp)).mono ?_;rintro e w' ⟨rfl,ho⟩;have h2:=ho.perm (rR _ _ [_,_,_] (bE d u st t mp (nx:Int) L) [_,_,_,_] (ay r t' u' (nx:Int) vL P S++(aA y (jB d st t u)::rs))).symm;have Ba:=ht.xF ⟨k,⟨#[]⟩,⟨#[]⟩,[],n,m⟩ hn;refine ⟨rfl,{s with m:=xF s.tm.m ⟨k,⟨#[]⟩,⟨#[]⟩,[],n,m⟩},L,nx,st,t,j,b,u,mp,q,t',v,lv,vL,P,S, ?_,h.pl,h.ok,h2⟩;have hd:xF s.tm.m ⟨k,⟨#[]⟩,⟨#[]⟩,[],n,m⟩=if k=5 then (gF s.tm.m n).2 else s.tm.m:=by unfold xF;dsimp only;rw [if_neg (by omega),if_neg (by omega),if_neg (by omega),if_neg (by omega),if_neg (by omega),if_neg hk.2]
 rw [hd] at Ba ⊢;by_cases h5:k=5
 ·rw [if_pos h5] at Ba ⊢;exact h.mX.sub (k:=0) (n:=1) (z:=0) (h.mX.q.lW (h.mX.q.pu.cC n hn) (eQ _) Ba) (by omega) (by omega) (by omega) (CY _)
 ·rw [if_neg h5];exact h.mX.same
def acw (w W:World) (R:Int) (d r i:Nat) (rs:List (bB w.heap.size)):Prop:=
 ∃ m,DN R m (200*i+100)/\Tidy m (100000000*(i+1)) (100000000*(i+1))/\m.bh=false/\Own w W (bk d m::dw r m::rs)
theorem UO (h:lr w W R d r y u' i rs) (hi:i<=50) (n m:Int): bF 35 #[.pointer (some ⟨d,0,none⟩),.pointer (some ⟨r,0,none⟩),.agg #[.int .i64 6,.string ⟨#[]⟩,.string ⟨#[]⟩,.slice none 0 0,.int .i64 n,.int .i64 m]] W (λe w'=>e= .returned (.bool true)/\acw w w' R d r i rs):=by
 obtain ⟨s,L,nx,st,t,j,b,u,mp,q,t',v,lv,vL,P,S,h⟩:=h;have h1:=h.own.perm (rR _ _ [_,_,_] (bE d u st t mp (nx:Int) L) [_,_,_,_] (ay r t' u' (nx:Int) vL P S++(aA y (jB d st t u)::rs)));have ht:=h.mX.q.tidy;refine (zT h1 ht (by omega) (by omega) ⟨6,⟨#[]⟩,⟨#[]⟩,[],n,m⟩ (dH w) (by simp)).mono ?_;rintro e w' ⟨rfl,ho⟩;obtain ⟨c1,c2,c3⟩:=h.mX.XC n m;refine ⟨rfl,cX s.tm.m n m,c1,c2,c3, ?_⟩;have key:∀ (X:List (bB w.heap.size)) {x z:bB w.heap.size},Own w w' (x::z::(X++rs))->Own w w' (x::z::rs):=λX=>by
  induction X with
  | nil=>exact λh=>h
  | cons a X ih=>exact fun {x z} h=>ih (Own.drop (h.perm (lO (l₁:=[x,z]))))
 refine key ([aA j (ej d bY s.tm.size),aA t (ef j b s.tm.bh),nU b s.tm.fs]++(bE d u st t mp (nx:Int) L++([aA q (fL r bY v),gq v s.aQ,aA t' (ep q lv s.dn),kr lv s.fs]++(ay r t' u' (nx:Int) vL P S++[aA y (jB d st t u)])))) ?_;have dy:Own w w' (bk d (cX s.tm.m n m)::dw r (cX s.tm.m n m)::([aA j (ej d bY s.tm.size),aA t (ef j b s.tm.bh),nU b s.tm.fs]++(bE d u st t mp (nx:Int) L++([aA q (fL r bY v),gq v s.aQ,aA t' (ep q lv s.dn),kr lv s.fs]++(ay r t' u' (nx:Int) vL P S++(aA y (jB d st t u)::rs)))))):=ho;have e:∀ (A U D V:List (bB w.heap.size)) (z:bB w.heap.size),(A++(U++(D++(V++[z]))))++rs=A++(U++(D++(V++(z::rs)))):=λA U D V z=>by simp [lN]
 rw [e];exact dy
theorem XG (h:acw w W R d r i rs) (uM:wy w) (hR:R<=1048576) (hi:i<=50): ∃ c:Int,bF 31 #[.pointer (some ⟨d,0,none⟩)] W (λe w1=>
   (e= .returned (.tuple #[.pointer none,.int .i64 c])/\Own w w1 rs/\bF 34 #[.pointer (some ⟨r,0,none⟩)] w1 (λe2 w2=>e2= .returned (.tuple #[.pointer none,.int .i64 c])/\ak w w2))\/
   (∃ y:Nat,e= .returned (.tuple #[.pointer (some ⟨y,0,none⟩),.int .i64 0])/\Own w w1 rs/\bF 34 #[.pointer (some ⟨r,0,none⟩)] w1 (λe2 w2=>∃ u':Nat,e2= .returned (.tuple #[.pointer (some ⟨u',0,none⟩),.int .i64 0])/\lr w w2 R d r y u' (i+1) rs))):=by
 obtain ⟨m,yg,ht,hd,ho⟩:=h;obtain ⟨E,nx,ph,hP⟩:=UI yg ht hR hi;have vt:=λ(w1:World) (rs1:List (bB w.heap.size)) (h1:Own w w1 (dw r m::rs1))=>vN h1 (n':=0) ht (by omega) hd ph.2;refine ⟨(sj m E).1,(Cu ho uM ht (by omega) ph.1).mono ?_⟩;rintro e w1 (⟨hn,hc,rfl,h1⟩ | ⟨T,Se,y,st,j,t,b,u,mp,L,hs,hc,rfl,hL,h1⟩)
 ·refine .inl ⟨rfl,h1.drop.drop,(vt w1 _ h1.swap).mono ?_⟩;rintro e2 w2 (⟨-,rfl,h2⟩ | ⟨T,L,s,u,q,t,v,lv,vL,P,S,hs,-⟩)
  ·exact ⟨rfl,h2.keeps⟩
  ·rw [hn] at hs;cases hs
 ·refine .inr ⟨y,rfl, ?_, ?_⟩
  ·have key:∀ (X:List (bB w.heap.size)),Own w w1 (X++(dw r m::rs))->Own w w1 rs:=λX=>by
    induction X with
    | nil=>exact λh=>h.drop
    | cons x X ih=>exact λh=>ih h.drop
   have e:∀ (A U:List (bB w.heap.size)) (z:bB w.heap.size),A++(U++(z::(dw r m::rs)))=(A++(U++[z]))++(dw r m::rs):=λA U z=>by simp [lN]
   rw [e] at h1;exact key _ h1
  ·have e:∀ (A U:List (bB w.heap.size)) (z:bB w.heap.size),(A++(U++(z::(dw r m::rs)))).Perm (dw r m::(A++(U++(z::rs)))):=λA U z=>by
    have e1:A++(U++(z::(dw r m::rs)))=(A++(U++[z]))++(dw r m::rs):=by simp [lN]
    have e2:A++(U++(z::rs))=(A++(U++[z]))++rs:=by simp [lN]
    rw [e1,e2];exact lO
   refine (vt w1 _ (h1.perm (e _ _ _))).mono ?_;rintro e2 w2 (⟨qw,-⟩ | ⟨T2,L2,s,u2,q,t2,v,lv,vL,P,S,og,rfl,wR,Rw,fK,h2⟩)
   ·rw [hs] at qw;cases qw
   ·rw [hs] at og;simp only [im,Prod.mk.injEq] at og;obtain ⟨rfl,rfl⟩:=og;subst wR;exact ⟨u2,rfl,s,L,nx,st,t,j,b,u,mp,q,t2,v,lv,vL,P,S,by rw [hL];exact hP _ _ hs,by rw [Rw,hL],fK,fq h2⟩
end
theorem CO (h0:0<=R) (h1:R<=67108864):Good (jL R []) 4:=by have h:=PM (Good.new (aR:=R) h0 h1) bY;rw [tY] at h;exact ⟨h.qz,h.nY,h.II,h.cC,by simp [jL],h.lV,h.aN,h.used,h.kinds⟩
theorem Fm (h0:0<=R) (h1:R<=67108864):Tidy (jL R []) 4 4:=by
 have hg:=CO h0 h1;refine ⟨hg,Ac R,by simp [jL], ?_,λc hc=>by simp [jL] at hc,λk c hc=>by simp [jL] at hc⟩;intro p hp;have:p=(bY,[]):=by simpa [jL] using hp
 subst this;decide
def qd:aH:=[97,98,99]
def D3:Obj:= .cells #[.int .u8 97,.int .u8 98,.int .u8 99] 5 (3,4)
theorem Fo {g:Nat} (h:W.heap[g]?=some D3):aC W (.slice (some ⟨g,0,none⟩) 3 3) qd:=by
 refine .inr ⟨⟨g,0,none⟩,3,rfl,eQ _,by simp [maxLen],λk v hv=> ?_⟩;rw [iV,fw];match k,hv with
 | 0,hv=>cases hv;exact ag h rfl
 | 1,hv=>cases hv;exact ag h rfl
 | 2,hv=>cases hv;exact ag h rfl
 | k+3,hv=>simp [qd] at hv
def aB:aD:=⟨#[97]⟩
theorem XH:gf aB=true:=by decide+kernel
theorem KO (hR:400<=R) {au:aD} (y8:gf au=true) {bo:Int} (J2:0<=bo/\bo<=1099511627776): ∃ T1 F1 b1,dV ⟨jL R [],0,[],false⟩ bY 1 au bo=(((1:Nat):Int),0,T1)/\CT T1 R F1 b1/\aZ F1 (aq 1)=some []/\used F1<=250/\(∀ k,k≠bY->k≠aq 1->aZ F1 k=none)/\T1.size<=1048576:=by
 have ct0:CT ⟨jL R [],0,[],false⟩ R [(bY,[])] []:=⟨CM.jL R,by simp [aZ],rfl⟩;have n1:aq 1≠bY:=fR (by rw [gj];decide);have nd0:bX [(bY,([]:aH))]:=by simp [bX]
 have sP:aZ [(bY,([]:aH))] (aq 1)=none:=by simp [aZ,Ne.symm n1]
 obtain ⟨T1,b1,hs,hct,hb,-⟩:=M3 ct0 (nx:=1) ⟨by omega,by omega⟩ y8 J2 sP (by decide) (by simp [used];omega);have jd:=M6 ⟨jL R [],0,[],false⟩ bY 1 au bo;rw [hs] at jd;have u0:=iP nd0 (aq 1) [];have u1:=iP (nd0.dY (aq 1) []) bY b1;rw [sP] at u0;refine ⟨T1,_,b1,hs,hct, ?_, ?_,λk h1 h2=> ?_,by simpa using jd⟩
 ·rw [df (nd0.dY _ _) _ _ _ (Ne.symm n1)];exact gO nd0 _ _
 ·simp [used] at u0 hb;omega
 ·rw [df (nd0.dY _ _) _ _ _ (Ne.symm h1),df nd0 _ _ _ (Ne.symm h2)];simp [aZ,Ne.symm h1]
def UAw (y st u bd:Nat) (cl:List Value) (W:World):Prop:=
 (W.cell? ⟨y,1,none⟩=some (.pointer (some ⟨st,0,none⟩))/\W.cell? ⟨y,3,none⟩=some (.pointer (some ⟨u,0,none⟩)))/\W.rangeAt bd 0 cl
theorem UAw.of {y d st t u bd:Nat} {cl:List Value} (h:Own w W M) (hy:aA y (jB d st t u) ∈ M) (hm:aA bd (.cells cl.toArray 39) ∈ M):UAw y st u bd cl W:=by obtain ⟨-,k1,-,k3⟩:=xX (h.at (b:=y) (o:=jB d st t u) hy).1;refine ⟨⟨k1,k3⟩,λk v hv=> ?_⟩;rw [fw];exact ag (h.at (b:=bd) (o:= .cells cl.toArray 39) hm).1 (by rw [oB];exact hv)
theorem D4 (w0:World) (uM:wy w0):bF 8 #[] w0 (bH w0 (.bool true)):=by
 have HY:=ae (GJ (R:=1000) (by omega) (by omega) (Own.start w0));obtain ⟨T1,F1,b1,zp,ct1,bN,hu1,fT,iH⟩:=KO (R:=1000) (by omega) XH (bo:=9) ⟨by omega,by omega⟩;have hg0:Good (jL 1000 []) 0:=QI (by simp) (by omega);have Bu:Good T1.m 3:=by have:=M5 (T:=⟨jL 1000 [],0,[],false⟩) hg0 bY 1 aB 9;rw [zp] at this;exact this
 obtain ⟨T2,yf,ct2,-⟩:=M4 ct1 (nx:=1) (x:=⟨1,aB,9,[]⟩) bN (p:=qd) (by decide) (by have:qd.length=3:=rfl;omega);have Hb:Good T2.m 4:=by have:=M7 (T:=T1) Bu (aq 1) ⟨1,aB,9,[]⟩ 0 qd;rw [show ((0:Int))=(([]:aH).length:Int) from rfl,yf] at this;exact this
 have jO:T2.size<=1048576:=by have:=M8 T1 (aq 1) ⟨1,aB,9,[]⟩ 0 qd;rw [show ((0:Int))=(([]:aH).length:Int) from rfl,yf] at this;dsimp only at this;omega
 have Yz:=ae uM;have HS1:=ae zp;have Zh:=ae yf;have HG:=ae (And.intro hg0 (And.intro Bu Hb));have HZ:=ae (And.intro iH jO);have HC:=ae (And.intro ct1 ct2);have HF:=ae (And.intro bN (And.intro hu1 fT));clear uM zp ct1 bN hu1 fT iH hg0 Bu yf ct2 Hb jO;go_enter Tryz.func8,Tryz.ntmps8;go_wp2_with fail;refine HY.Z.mono ?_;rintro e w1 ⟨y,d,st,j,t,b,u,mp,rfl,h1⟩;obtain ⟨-,-,-,k3⟩:=xX (h1.at (b:=y) (o:=jB d st t u) (by simp)).1;have bG:=xU (nx:=1) (L:=[]) h1 (Yz.Z.keep h1.keeps) HG.Z.1 (by omega) (by decide) ⟨by omega,by omega⟩ (by simp) aB 9 ⟨by omega,by omega⟩;rw [HS1.Z] at bG;have Df:bF 9 #[.pointer (some ⟨u,0,none⟩),.string ⟨#[97]⟩,.int .i64 9] w1 (λe w'=>e= .returned (.tuple #[.int .i64 1,.int .i64 0])/\∃ sp q,Own w0 w' (bO d j t b bY T1++(bE d u st t mp ((1+1:Nat):Int) ([]++[(⟨((1:Nat):Int),aB,9,[]⟩,sp,q)])++[aA y (jB d st t u)]))):=bG.mono (by
  rintro e w' ⟨he,hh⟩;refine ⟨by simpa using he, ?_⟩;rcases hh with ⟨-,sp,q,hh⟩ | ⟨hn,-⟩
  ·exact ⟨sp,q,hh⟩
  ·exact absurd rfl hn)
 have fP:=ae Df;clear bG Df h1 HY;go_wp2_with fail;refine fP.Z.mono ?_;rintro e w2 ⟨rfl,sp,q,h2⟩;clear k3;obtain ⟨-,-,-,k3⟩:=xX (h2.at (b:=y) (o:=jB d st t u) (by simp)).1;have hcv:(convert 22 22 (.slice (some ⟨w2.heap.size,0,none⟩) 3 3)).run Tryz.prog (w2.alloc (.cells #[.int .u8 97,.int .u8 98,.int .u8 99] 5))= .ok (.slice (some ⟨w2.heap.size,0,none⟩) 3 3) (w2.alloc D3):=Lib.run_convert_bytes_const (P:=Tryz.prog) w2 22 5 #[.int .u8 97,.int .u8 98,.int .u8 99] 3 3 Tryz.underlying22 Tryz.underlying5;have h3:=h2.gS D3;obtain ⟨tl,iI,-,-⟩:=(h2.stat (q:=q) (l:=[]) (by simp [bE,eV])).1;have aX:=bm iI;have OI:=rJ (L1:=[]) (L2:=[]) (next:=((1+1:Nat):Int)) (x:=⟨((1:Nat):Int),aB,9,[]⟩) (sp:=sp) (q:=q) h3 (by simp [l9]) HG.Z.2.1 (by omega) (nx:=1) rfl (by omega) (by simp) 0 (pv:= .slice (some ⟨w2.heap.size,0,none⟩) 3 3) (p:=qd) (by decide)
  (λW M hW=>Fo (hW.at (b:=w2.heap.size) (o:=D3) (by simp)).1) (λa n c e _ hh=>by cases e;dsimp only at hh;omega)
 have acx:eH T1 (aq 1) ⟨((1:Nat):Int),aB,9,[]⟩ 0 qd=(0,T2,⟨((1:Nat):Int),aB,9,qd⟩):=Zh.Z;rw [acx] at OI;have acy:bF 10 #[.pointer (some ⟨u,0,none⟩),.int .i64 1,.int .i64 0,.slice (some ⟨w2.heap.size,0,none⟩) 3 3] (w2.alloc D3) (λe w'=>e= .returned (.int .i64 0)/\Own w0 w' (bO d j t b bY T2++(bE d u st t mp ((1+1:Nat):Int) ([]++(⟨((1:Nat):Int),aB,9,qd⟩,sp,q)::[])++(aA w2.heap.size D3::[aA y (jB d st t u)])))):=OI.mono (λe w' hh=>hh);have HPA:=ae acy;clear h2 h3 fP iI OI acy aX acx;go_wp2_with fail;refine HPA.Z.mono ?_;rintro e w3 ⟨rfl,h3⟩;clear hcv k3;obtain ⟨-,-,-,k3⟩:=xX (h3.at (b:=y) (o:=jB d st t u) (by simp)).1;have hpb:=rJ (L1:=[]) (L2:=[]) (next:=((1+1:Nat):Int)) (x:=⟨((1:Nat):Int),aB,9,qd⟩) (sp:=sp) (q:=q) h3 (by simp [l9]) HG.Z.2.2 (by omega) (nx:=1) rfl (by omega) (by decide) 0 (pv:= .slice none 0 0) (p:=[]) (by decide) (λW M hW=>dH W) (λa n c e _ hh=>by cases e);have hp3:eH T2 (aq 1) ⟨((1:Nat):Int),aB,9,qd⟩ 0 []=(130,T2,⟨((1:Nat):Int),aB,9,qd⟩):=by unfold eH;rw [if_neg (by show ¬(0:Int)=((qd.length:Nat):Int);decide)]
 rw [hp3] at hpb;have acz:bF 10 #[.pointer (some ⟨u,0,none⟩),.int .i64 1,.int .i64 0,.slice none 0 0] w3 (λe w'=>e= .returned (.int .i64 130)/\Own w0 w' (bO d j t b bY T2++(bE d u st t mp ((1+1:Nat):Int) ([]++(⟨((1:Nat):Int),aB,9,qd⟩,sp,q)::[])++(aA w2.heap.size D3::[aA y (jB d st t u)])))):=hpb.mono (λe w' hh=>hh);have HPB:=ae acz;clear h3 hpb acz hp3 HPA;go_wp2_with fail;refine HPB.Z.mono ?_;rintro e w4 ⟨rfl,h4⟩;have h4:=h4.bR
 -- what is to come
 obtain ⟨dg,VT⟩:=cE (ei qd);have lQ:dg.length=32:=by rw [VT];exact dz _
 obtain ⟨cl,dI⟩:∃ cl:List Value,cl=dg.map dF:=⟨_,rfl⟩;have nf:aY dg≠bY:=fR (by rw [nG dg lQ];decide);have nk:aY dg≠aq 1:=fR (by rw [nG dg lQ,gj];decide);have Vq:=HC.Z.1.cm.nd;have u2:=iP Vq (aq 1) ([]++qd);rw [HF.Z.1] at u2;obtain ⟨T3,F3,b3,hf3,ct3,zH,-,-⟩:=J3 HC.Z.2 (nx:=1) (x:=⟨((1:Nat):Int),aB,9,qd⟩) (by rw [gO Vq];rfl) (by decide) (dg:=dg) VT.symm (by rw [df Vq _ _ _ (Ne.symm nk)];exact HF.Z.2.2 _ nf nk) (by have h1:qd.length=3:=rfl;have h2:=HF.Z.2.1;simp only [Fx,gN,pj,h1,Nat.add_zero] at u2;rw [pj];omega)
 have hg3:Good T3.m 7:=by have:=J4 (T:=T2) HG.Z.2.2 bY (aq 1) ⟨((1:Nat):Int),aB,9,qd⟩ dg;rw [hf3] at this;exact this
 have hwh:uI T3.m dg=true:=by unfold uI;rw [ct3.cm.there,ct3.cm.cont,zH];simp [VT]
 have fk:=ae (show ∀ W (M:List (bB w0.heap.size)),Own w0 W (bO d j t b bY T2++(bE d u st t mp ((1+1:Nat):Int) ([]++(⟨((1:Nat):Int),aB,9,qd⟩,sp,q)::[])++M))->bF 12 #[.pointer (some ⟨u,0,none⟩),.int .i64 1,.agg cl.toArray,.slice none 0 0] W (λe w'=>e= .returned (.int .i64 0)/\Own w0 w' (bO d j t b bY T3++(bE d u st t mp ((1+1:Nat):Int) []++M))) from λW M hW=>by rw [dI];have:=DI (L1:=[]) (L2:=[]) hW (by simp [l9]) (by simp) HG.Z.2.2 (by omega) (by have:=HZ.Z.2;omega) (nx:=1) rfl (by omega) (by decide) ⟨by decide,by decide⟩ (by decide) lQ;rw [hf3] at this;exact this.mono (λe w' hh=>hh))
 have HWH:=ae (show ∀ W (M:List (bB w0.heap.size)),Own w0 W (bO d j t b bY T3++(bE d u st t mp ((1+1:Nat):Int) []++M))->bF 28 #[.pointer (some ⟨st,0,none⟩),.agg cl.toArray] W (bH W (.bool true)) from λW M hW=>by rw [dI,<-hwh];exact Gc hW (by simp [bE,kN]) hg3 lQ)
 have HLS:=ae (show ∀ W (M:List (bB w0.heap.size)),Own w0 W (bO d j t b bY T3++(bE d u st t mp ((1+1:Nat):Int) []++M))->bF 22 #[.pointer (some ⟨u,0,none⟩)] W (zh W []) from λW M hW=>uv hW (by simp) (by simp) (by simp));have Di:=yT (Fo (heap_alloc_new w4 D3)) (by decide);rw [<-VT,<-dI] at Di;have sG:=ae Di;have HI:=ae (Jp (ds:=cl.toArray) (by rw [dI];simp [lQ]));have HIL:=ae (show (Tryz.prog.info? 39).map (·.size)=some cl.length by rw [dI,io,lQ];kernel_rfl);have Mu:=ae (show cl.toArray.all (·.oneCell')=true by rw [dI];exact mP _);have xk:=ae (show cl.toArray.size=32 by rw [dI];simp [lQ]);have hcv:(convert 22 22 (.slice (some ⟨w4.heap.size,0,none⟩) 3 3)).run Tryz.prog (w4.alloc (.cells #[.int .u8 97,.int .u8 98,.int .u8 99] 5))= .ok (.slice (some ⟨w4.heap.size,0,none⟩) 3 3) (w4.alloc D3):=Lib.run_convert_bytes_const (P:=Tryz.prog) w4 22 5 #[.int .u8 97,.int .u8 98,.int .u8 99] 3 3 Tryz.underlying22 Tryz.underlying5;have H4:=ae h4;have X9:=ae ((ah.refl (λ_=>False) w4).alloc D3);clear h4 HPB k3 VT lQ dI nf nk Vq u2 hf3 ct3 zH hg3 hwh Di HC HF HG HZ;go_wp2_with fail;refine sG.Z.mono ?_;rintro e w5 ⟨rfl,fB⟩;have H5:=ae ((H4.Z.quiet (X9.Z.trans fB (λ_ _ e=>e))).gS (.cells cl.toArray 39));clear fB H4 X9 sG hcv;go_upto_region 8 with (refine wpList_store_row rfl 39 _ _ rfl w5.heap.size cl.toArray rfl rfl 39 _ (heap_alloc_new w5 _) HI.Z (by rw [xk.Z];kernel_rfl) Mu.Z ?_;rw [World.setRow_alloc_new]);generalize w5.alloc (.cells cl.toArray 39)=w6 at H5 ⊢;generalize w5.heap.size=bd at H5 ⊢;refine wp_region_held_drew (S:=UAw y st u bd cl) (by kernel_rfl) (by exact UAw.of (d:=d) (t:=t) H5.Z.drew (by simp) (by simp)) (λai=> ?_);have H6:=ae H5.Z.drew;clear H5;refine tk 0 43 (.pointer (some ⟨y,0,none⟩)) ai ?_;refine tk 1 44 (.pointer (some ⟨y,0,none⟩)) ai ?_;refine tk 2 45 (.pointer (some ⟨y,3,none⟩)) ai ?_;refine tk 3 46 (.pointer (some ⟨u,0,none⟩)) ai ?_ (hy:=Or.inl ⟨by rfl,by intro w bK;(try dsimp only at bK);(have q0:=bK.1.2;go_simp)⟩);try go_frame
 refine D8 4 47 (.agg (cl).toArray) rfl (by kernel_rfl) (by kernel_rfl) (by kernel_rfl) (λ_ _ _ h=>h) (yieldsIf_load_mid (by rfl) _ _ rfl (bd) (0) rfl (cl) _ (λw' hk=>hk.2) Tryz.underlying39 rfl HIL.Z) ai ?_;try go_frame
 refine eR [5] ?_;refine gH 48 λK hK=> ?_;go_simp;go_at_call 12;refine (fk.Z _ _ H6.Z).mono ?_;rintro e w7 ⟨rfl,h7⟩;have H7:=ae h7;clear h7;refine hK.Z _ _ (by exact UAw.of (d:=d) (t:=t) H7.Z (by simp) (by simp)) (λaK=> ?_);clear hK K;refine tk 6 49 (.bool true) aK ?_;refine tk 7 50 (.bool true) aK ?_;refine tk 8 51 (.pointer (some ⟨y,0,none⟩)) aK ?_;refine tk 9 52 (.pointer (some ⟨y,0,none⟩)) aK ?_;refine tk 10 53 (.pointer (some ⟨y,1,none⟩)) aK ?_;refine tk 11 54 (.pointer (some ⟨st,0,none⟩)) aK ?_ (hy:=Or.inl ⟨by rfl,by intro w bK;(try dsimp only at bK);(have q0:=bK.1.1;go_simp)⟩);try go_frame
 refine D8 12 55 (.agg (cl).toArray) rfl (by kernel_rfl) (by kernel_rfl) (by kernel_rfl) (λ_ _ _ h=>h) (yieldsIf_load_mid (by rfl) _ _ rfl (bd) (0) rfl (cl) _ (λw' hk=>hk.2) Tryz.underlying39 rfl HIL.Z) aK ?_;try go_frame
 refine eR [13] ?_;refine D7 56 λK hK=> ?_;go_simp;go_at_call 28;refine (HWH.Z _ _ H7.Z).mono ?_;rintro e w8 ⟨rfl,zY⟩;have H8:=ae (H7.Z.quiet zY);clear zY;refine hK.Z _ _ (by exact UAw.of (d:=d) (t:=t) H8.Z (by simp) (by simp)) (λaI=> ?_);clear hK K;refine tk 14 57 (.bool true) aI ?_;refine tk 15 58 (.bool true) aI ?_;refine tk 16 59 (.pointer (some ⟨y,0,none⟩)) aI ?_;refine tk 17 60 (.pointer (some ⟨y,0,none⟩)) aI ?_;refine tk 18 61 (.pointer (some ⟨y,3,none⟩)) aI ?_;refine tk 19 62 (.pointer (some ⟨u,0,none⟩)) aI ?_ (hy:=Or.inl ⟨by rfl,by intro w bK;(try dsimp only at bK);(have q0:=bK.1.2;go_simp)⟩);try go_frame
 refine eR [20] ?_;refine D7 63 λK hK=> ?_;go_simp;go_at_call 22;refine (HLS.Z _ _ H8.Z).mono ?_;rintro e w9 ⟨v9,rfl,ho9,xA⟩;obtain ⟨a9,c9,rfl⟩:=bA ho9;have H9:=ae (H8.Z.quiet xA);clear xA ho9;refine hK.Z _ _ (by exact UAw.of (d:=d) (t:=t) H9.Z (by simp) (by simp)) (λbJ=> ?_);clear hK K;refine tk 21 64 (.int .i64 0) bJ ?_;refine tk 22 65 (.bool true) bJ ?_;refine tk 23 66 (.bool true) bJ ?_;refine tk 24 0 (.bool true) bJ ?_;try go_frame
 refine wpAnyH_done (by kernel_rfl) ?_ _;go_wp2;go_ret;exact ⟨rfl,H9.Z.keeps⟩
theorem vu.first (h0:0<=R) (h1:R<=67108864):vu R ⟨jL R [],0,[],false⟩ [] 1 1:=by
 have QG:aZ [(bY,([]:aH))]=fE (λ_=>none) bY []:=by
  funext x;simp only [fE];split
  ·rename_i e;subst e;simp [aZ]
  ·rename_i e;simp [aZ,Ne.symm e]
 have adD:fo (fo (fE (λ_=>none) bY []) nV) bY=λ_=>none:=by
  funext x;simp only [fo,fE];split
  ·rfl
  ·split
   ·rfl
   ·rfl
 have huk:UK [] 1 1:=⟨λp hp=>by simp at hp,.inl ⟨rfl,rfl⟩⟩;have Np:UT [] 300:=⟨ig.nil,by simp,1,huk,by omega⟩;have DL:A8 (fE (λ_=>none) bY []) 300:=⟨0,by rw [adD];exact Holds.empty.mono (eQ _) (by omega)⟩;have hj:JU 300 (fE (λ_=>none) bY []):=JU.of (aQ:=[]) (λp hp=>by simp at hp) rfl Np (by rw [iT,jg]) DL;refine ⟨⟨⟨Np,.inl ⟨rfl,[],fE (λ_=>none) bY [],(λx=>x=fE (λ_=>none) bY []),4,(λp hp=>by simp at hp),rfl,by rw [iT,jg],λx hx=>by rw [hx];exact hj,⟨CO h0 h1,rfl,rfl,A4.one rfl QG,QG⟩⟩⟩,huk,by omega,(Fm h0 h1).mono (by omega) (by omega),fC _⟩,by simp,λx hx=>by simp at hx⟩
theorem Fq (R:Int):sj (eS R) []=(0,jL R [],some (⟨jL R [],0,[],false⟩,[])):=by
 have hb:dC (eS R)=(0,eS R):=by unfold dC;rw [if_pos (by unfold aF;rfl)]
 have hu:eZ ⟨jL R [],0,[],false⟩ bY []=(0,⟨jL R [],0,[],false⟩,[]):=by unfold eZ dU;rw [if_pos rfl];unfold nh;rw [if_neg (show ¬(jL R []).bh=true by simp [jL,eS])];rw [show cY (jL R []).aN p9=[] from Ce R];rfl
 unfold sj;rw [hb,if_pos rfl,tZ];dsimp only;rw [hu,if_pos rfl]
section
variable {w W:World} {R:Int} {d r y u' i:Nat} {rs:List (bB w.heap.size)}
theorem UP {w1:World} (h0:0<=R) (h1:R<=1048576) (h:Own w w1 (bk d (eS R)::dw r (eS R)::rs)): bF 31 #[.pointer (some ⟨d,0,none⟩)] w1 (λe w2=>∃ y:Nat,e= .returned (.tuple #[.pointer (some ⟨y,0,none⟩),.int .i64 0])/\bF 34 #[.pointer (some ⟨r,0,none⟩)] w2 (λe2 w3=>∃ u':Nat,e2= .returned (.tuple #[.pointer (some ⟨u',0,none⟩),.int .i64 0])/\lr w w3 R d r y u' 1 rs)):=by
 refine (ud h0 (by omega) h).mono ?_;rintro e w2 ⟨y,st,j,t,b,u,mp,rfl,h2⟩;refine ⟨y,rfl, ?_⟩;have e:∀ (A U:List (bB w.heap.size)) (z:bB w.heap.size),(A++(U++(z::(dw r (eS R)::rs)))).Perm (dw r (eS R)::(A++(U++(z::rs)))):=λA U z=>by
  have e1:A++(U++(z::(dw r (eS R)::rs)))=(A++(U++[z]))++(dw r (eS R)::rs):=by simp [lN]
  have e2:A++(U++(z::rs))=(A++(U++[z]))++rs:=by simp [lN]
  rw [e1,e2];exact lO
 have hb:dC (eS R)=(0,eS R):=by unfold dC;rw [if_pos (by unfold aF;rfl)]
 refine (vN (h2.perm (e _ _ _)) (n:=0) (n':=0) (E:=[]) (nx:=1) (Tidy.new h0 (by omega)) (by omega) rfl (λ_ size fs aQ e1 e2=> ?_)).mono ?_
 ·rw [hb] at e1 e2 ⊢;dsimp only at e1 e2 ⊢;rw [tZ] at e1 ⊢;rw [tY] at e2;simp only [im,Prod.mk.injEq] at e1 e2;obtain ⟨rfl,rfl⟩:=e1;obtain ⟨rfl,-⟩:=e2;refine ⟨⟨ig.nil,rfl,λx hx=>by simp at hx,.inl ⟨rfl,rfl⟩⟩,rfl,4,0,⟨Fm h0 (by omega),by simp [jg],ig.nil,by simp⟩,by simp,by simp⟩
 ·rintro e2 w3 (⟨hn,-⟩ | ⟨T,L,s,u',q,t',v,lv,vL,P,S,hs,rfl,wR,hP,fK,h3⟩)
  ·rw [Fq] at hn;cases hn
  ·rw [Fq] at hs;simp only [im,Prod.mk.injEq] at hs;obtain ⟨rfl,rfl⟩:=hs;refine ⟨u',rfl,s,[],1,st,t,j,b,u,mp,q,t',v,lv,vL,P,S,by rw [wR];exact vu.first h0 (by omega),by rw [hP];rfl,fK, ?_⟩;rw [wR];exact fq h3
theorem N0 (h:lr w W R d r y u' i rs) (hi:i<=50):∃ (t u t':Nat) (la:Option Addr) (ln lc:Nat), (∀ W',ak W W'->W'.cell? ⟨y,3,none⟩=some (.pointer (some ⟨u,0,none⟩))/\W'.cell? ⟨y,2,none⟩=some (.pointer (some ⟨t,0,none⟩))/\W'.cell? ⟨u',1,none⟩=some (.pointer (some ⟨t',0,none⟩))/\W'.cell? ⟨t',1,none⟩=some (.slice la ln lc))/\ (∀ W',ak W W'->bF 37 #[.pointer (some ⟨d,0,none⟩),.pointer (some ⟨r,0,none⟩)] W' (bH W' (.bool true)))/\ (∀ W',ak W W'->bF 38 #[.pointer (some ⟨u,0,none⟩),.pointer (some ⟨u',0,none⟩)] W' (bH W' (.bool true)))/\ (∀ W',ak W W'->bF 39 #[.pointer (some ⟨t,0,none⟩),.slice la ln lc] W' (bH W' (.bool true))):=by
 obtain ⟨s,L,nx,st,t,j,b,u,mp,q,t',v,lv,vL,P,S,h⟩:=h;obtain ⟨⟨F0,wZ⟩,-⟩:=(fq h.own).KA;obtain ⟨la,lc,rfl,-,-⟩:=wZ.aG;have DL:=h.IA;have ht:=h.mX.q.tidy;refine ⟨t,u,t',la,s.fs.length,lc,λW' hk=> ?_,λW' hk=> ?_,λW' hk=> ?_,λW' hk=> ?_⟩
 ·have hq:=h.quiet hk;have hy:=(hq.own.at (b:=y) (o:=jB d st t u) (by simp)).1;obtain ⟨-,c1,-,-,-⟩:=jI (hq.own.at (b:=u') (o:=kQ r t' (nx:Int) vL) (by simp [ay])).1;obtain ⟨-,hb⟩:=(fq hq.own).KA;exact ⟨ag hy rfl,ag hy rfl,c1,(gT hb).2.1⟩
 ·exact Tk ((h.quiet hk).own.perm (rR _ _ [_,_,_] (bE d u st t mp (nx:Int) L) [_,_,_,_] (ay r t' u' (nx:Int) vL P S++(aA y (jB d st t u)::rs)))) ht (by omega)
 ·have UM:=h.mX.ids;rw [wU] at UM;have gQ:=h.mX.nxi;exact NU (h.quiet hk).own h.ok h.pl.symm UM (λz hz=>by
   obtain ⟨k,e,-,h2,-⟩:=h.mX.each z.1 (List.mem_map.2 ⟨z,hz,rfl⟩);exact ⟨k,e,by omega⟩) (λz hz=>by
   obtain ⟨k,-,-,-,-,-,hb⟩:=h.mX.each z.1 (List.mem_map.2 ⟨z,hz,rfl⟩);exact hb) (by omega)
 ·obtain ⟨F,hb,hm⟩:=(h.quiet hk).own.tab;obtain ⟨⟨G,hp⟩,-⟩:=(fq (h.quiet hk).own).KA;have cU:s.fs.length<=8*(200*i+100):=h.mX.q.pu.1.len;have:=MP hb hm h.mX.q.pu.1.ok (by show s.fs.length<=_;omega) hp;rw [show decide (s.tm.fs=s.fs)=true from decide_eq_true rfl] at this;exact this
end

end Go.Proofs.YtlcnhpjggjgnpaaGreatDoor