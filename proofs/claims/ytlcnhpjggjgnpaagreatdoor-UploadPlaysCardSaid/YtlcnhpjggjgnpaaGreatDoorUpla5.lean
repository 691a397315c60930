/- A part of the proof. -/
import Derived.Test.YtlcnhpjggjgnpaaGreatDoorUpla3
import Derived.Test.YtlcnhpjggjgnpaaGreatDoorUpla4
import Derived.Great.BuildSlice
set_option linter.unusedSimpArgs false
set_option linter.unusedVariables false
set_option maxRecDepth 100000
set_option maxHeartbeats 1000000
namespace Go.Proofs.YtlcnhpjggjgnpaaGreatDoor
open Go.RowKit Go.MapKept
variable {b n:Nat} {dg:aH}
theorem S0 (W:World) (b:Nat):(Instr.sliceAt 39 (.pointer (some ⟨b,0,none⟩)) none none none).run Tryz.prog W= .ok (.slice (some ⟨b,0,none⟩) 32 32) W:=by kernel_rfl
theorem Jp {ds:Array Value} (h:ds.size=32):(Tryz.prog.info? 39).map (·.size)=some ds.size:=by rw [h];kernel_rfl
theorem Jq:Tryz.prog.plainKey 5=true:=by kernel_rfl
theorem Jr:Tryz.prog.cellsOf 5=1:=by kernel_rfl
theorem BT (A B:aH) (W:World):∀ is:List Nat,(∀ i ∈ is,i <A.length/\i <B.length)-> ∃ r:Bool,(Op.eqItems 9999 5 1 (A.map dF).toArray (B.map dF).toArray is).run Tryz.prog W= .ok r W/\(r=true↔∀ i ∈ is,A[i]?=B[i]?)
 | [],_=>⟨true,by simp [Op.eqItems],by simp⟩
 | i::is,h=>by
  obtain ⟨r,hr,S3⟩:=BT A B W is (λj hj=>h j (nO _ hj));have hi:=h i (gw ..);have ha:(part 5 (A.map dF).toArray (i*1)).run Tryz.prog W= .ok (dF A[i]) W:=run_part_plain W Jq (by simp [hi.1]);have hb:(part 5 (B.map dF).toArray (i*1)).run Tryz.prog W= .ok (dF B[i]) W:=run_part_plain W Jq (by simp [hi.2]);have he:(Op.equalIn 9999 5 (dF A[i]) (dF B[i])).run Tryz.prog W= .ok ((A[i].toNat:Int)==(B[i].toNat:Int)) W:=run_equalIn_int W 9998 5 .u8 .u8 _ _ Tryz.underlying5;simp only [Op.eqItems,Sem.run_bind,ha,hb,he,Result.andThen_ok];by_cases PE:A[i]=B[i]
  ·have e1:((A[i].toNat:Int)==(B[i].toNat:Int))=true:=by rw [PE];simp
   refine ⟨r,by rw [e1];simpa using hr, ?_⟩;rw [S3];simp [js hi.1,js hi.2,PE]
  ·have e1:((A[i].toNat:Int)==(B[i].toNat:Int))=false:=by rw [beq_eq_false_iff_ne];intro e;exact PE (UInt8.toNat_inj.1 (by omega))
   refine ⟨false,by rw [e1];simp, ?_⟩;simp [js hi.1,js hi.2,PE]
theorem Ow {A B:aH} (hA:A.length=32) (hB:B.length=32) (rC:∀ i ∈ List.range 32,A[i]?=B[i]?):A=B:=by
 apply List.ext_getElem?;intro i;by_cases hi:i <32
 ·exact rC i (by rw [List.mem_range];exact hi)
 ·rw [RP (by omega),RP (by omega)]
theorem tN (A B:aH) (hA:A.length=32) (hB:B.length=32) (W:World):(Op.equalIn 10000 39 (.agg (A.map dF).toArray) (.agg (B.map dF).toArray)).run Tryz.prog W= .ok (decide (A=B)) W:=by
 obtain ⟨i0,hi,rS,iH,jO⟩:=info_parts jN;have h:=run_equalIn_array (P:=Tryz.prog) W 9999 (t:=39) (e:=5) (n:=32) (i:=i0) (A.map dF).toArray (B.map dF).toArray (by kernel_rfl) hi;rw [Jr] at h;obtain ⟨r,hr,S3⟩:=BT A B W (List.range 32) (λi hm=>by rw [List.mem_range] at hm;omega);have gm:r=decide (A=B):=by rw [Fz,S3,decide_eq_true_iff];exact ⟨λrC=>Ow hA hB rC,λe i _=>by rw [e]⟩
 rw [gm] at hr;exact h.trans hr
section
variable {w wr:World} {rs:List (bB w.heap.size)} {v:Value} {L:List aH}
theorem Own.range {cl:List Value} {t:TypeId} (h:Own w wr rs) (hm:aA b (.cells cl.toArray t) ∈ rs):wr.rangeAt b 0 cl:=λk u hu=>by rw [fw];exact ag (h.at hm).1 (by rw [oB];exact hu)
end
section
variable {P:Program} {ops:Array Oper} {o:Oper} {a:Act} {w:World} {K:Act->World->Prop} {Q:Exit->Act->World->Prop} {E:Prop}
theorem vC (Ha:o.guard=none) (ty:TypeId) (x:Operand) (ho:o.op= .load ty x) (g:Nat) (hx:a.eval x= .pointer (some ⟨g,0,none⟩)) (t:TypeId) (cs:Array Value) (fr:Nat × Nat) (d:TypeDesc) (hg:w.heap[g]?=some (.cells cs t fr)) (hu:P.underlying ty=some d) (hd:(match d with | .struct _ | .array _ _=>true | _=>false)=true) (hi:(P.info? ty).map (·.size)=some cs.size) (h:K (a.put o.dst (.agg cs)) w):if Region.wanted o (yielded ops a.tmps)=true then Oper.wp P o a w K Q else E:=by rw [if_pos (by simp [Region.wanted,Ha])];exact wp_load_row ty x ho g hx t cs fr d hg hu hd hi h
theorem oS (Ha:o.guard=none) (ty:TypeId) (x y:Operand) (ho:o.op= .store ty x y) (g:Nat) (cells:Array Value) (hx:a.eval x= .pointer (some ⟨g,0,none⟩)) (hy:a.eval y= .agg cells) (t:TypeId) (old:Array Value) (hg:w.heap[g]?=some (.cells old t)) (hi:(P.info? ty).map (·.size)=some cells.size) (hold:old.size=cells.size) (h1:cells.all (·.oneCell')=true) (h:K (a.put o.dst undef) (w.setRow g cells)):if Region.wanted o (yielded ops a.tmps)=true then Oper.wp P o a w K Q else E:=by rw [if_pos (by simp [Region.wanted,Ha])];exact wp_store_row ty x y ho g cells hx hy t old hg hi hold h1 h
end
theorem EL (w:World) (c:UInt8):bC (w.alloc (.cells #[dF c] 5)) w.heap.size (.slice (some ⟨w.heap.size,0,none⟩) 1 1) [c]:=
 ⟨rfl,.inr ⟨w.heap.size,1,_,rfl,eQ _,heap_alloc_new w _,by simp,by simp [maxLen],by simp,by simp⟩⟩
def l7:aD:=⟨#[98,43]⟩
def aY (dg:aH):aD:=⟨#[98,47]⟩++⟨(dA dg).toArray⟩
theorem nG (dg:aH) (h:dg.length=32):(aY dg).size=66:=by rw [aY,ByteArray.size_append];show 2+(dA dg).toArray.size=66;rw [Bd,fU,h]
theorem yU {w:World} (h:w.heap[b]?=some (.cells (dg.map dF).toArray 39)) (hl:dg.length=32):aC w (.slice (some ⟨b,0,none⟩) 32 32) dg:=by refine .inr ⟨⟨b,0,none⟩,32,by rw [hl],by omega,by simp [maxLen],λj u hu=> ?_⟩;rw [iV,fw];exact ag h (by rw [oB];exact hu)
theorem mQ (w:World) (dg:aH) (hl:dg.length=32):bF 56 #[.agg (dg.map dF).toArray] w (bH w (.string (aY dg))):=by obtain ⟨ds,nQ⟩:∃ ds:Array Value,ds=(dg.map dF).toArray:=⟨_,rfl⟩;have hx:=En (w:=w.alloc (.cells ds 39)) (v:= .slice (some ⟨w.heap.size,0,none⟩) 32 32) (l:=dg) (yU (by rw [nQ];exact heap_alloc_new w _) hl) (by omega);have qy:=λW=>S0 W w.heap.size;have PJ:=λW=>run_string_add_sum (P:=Tryz.prog) W ⟨#[98,47]⟩ ⟨(dA dg).toArray⟩ (by show 2+(dA dg).toArray.size<=_;rw [Bd,fU];omega);rw [<-nQ];have HX:=ae hx;have bN:ak w (w.alloc (.cells ds 39)):=(ah.refl _ w).alloc _;have iW:=ae bN;have hfe:aY dg=⟨#[98,47]⟩++⟨(dA dg).toArray⟩:=rfl;rw [hfe];generalize (⟨(dA dg).toArray⟩:aD)=hs at HX PJ ⊢;clear hx bN nQ hl hfe;go_enter Tryz.func56,Tryz.ntmps56;go_wp2_with fail;refine HX.Z.mono ?_;rintro e w2 ⟨rfl,cg⟩;have oE:=ae (iW.Z.trans cg (λ_ _ e=>e));clear cg iW HX;go_wp2;go_ret;exact ⟨rfl,oE.Z⟩
section
variable {w wr:World} {d st:Nat} {m:DM} {rs:List (bB w.heap.size)}
def kN (d:Nat):Obj:= .cells #[.pointer (some ⟨d,0,none⟩)] 128
def Js (st d b:Nat) (cl:List Value) (w':World):Prop:=w'.cell? ⟨st,0,none⟩=some (.pointer (some ⟨d,0,none⟩))/\w'.rangeAt b 0 cl
theorem abD (h:Own w wr (bk d m::rs)) (bG:aA st (.cells #[.pointer (some ⟨d,0,none⟩)] 128) ∈ rs) (cl:List Value): ∀ w1,ak (wr.alloc (.cells cl.toArray 39)).drew w1->Js st d wr.heap.size cl w1/\Own w w1 (bk d m::rs):=λw1 hk=>by have h1:Own w w1 (aA wr.heap.size (.cells cl.toArray 39)::bk d m::rs):=(h.alloc (.cells cl.toArray 39)).drew.quiet hk;refine ⟨⟨ag (i:=0) (h1.at (b:=st) (o:= .cells #[.pointer (some ⟨d,0,none⟩)] 128) (by simp [bG])).1 rfl,λk v hv=> ?_⟩,h1.drop⟩;rw [fw];exact ag (h1.at (gw ..)).1 (by rw [oB];exact hv)
theorem Jt (h:Own w wr (bk d m::rs)) (bG:aA st (.cells #[.pointer (some ⟨d,0,none⟩)] 128) ∈ rs) (hl:dg.length=32): bF 75 #[.pointer (some ⟨st,0,none⟩),.agg (dg.map dF).toArray] wr λe w'=>e= .returned (.tuple #[.int .i64 (cF m (aY dg)),.int .i64 (aF m (aY dg))])/\ak wr w':=by
 have kp:=λW=>mQ W dg hl;obtain ⟨cl,dI⟩:∃ cl:List Value,cl=dg.map dF:=⟨_,rfl⟩;have nF:(Tryz.prog.info? 39).map (·.size)=some cl.length:=by rw [dI,io,hl];kernel_rfl
 have Mx:=Tryz.underlying39;rw [<-dI] at kp ⊢;have nH:=abD h bG cl;have jd:∀ w1,ak (wr.alloc (.cells cl.toArray 39)).drew w1->aW 57 #[.pointer (some ⟨d,0,none⟩),.string (aY dg)] w1 (.tuple #[.int .i64 (cF m (aY dg)),.int .i64 (aF m (aY dg))]) w1:=λw1 hk=>(nH w1 hk).2.size _;have sB:ak wr (wr.alloc (.cells cl.toArray 39)).drew:=((ah.refl _ wr).alloc _).drew;have HC:=ae (λw1 hk=>(nH w1 hk).1);have HF:=ae kp;have HZ:=ae jd;have XX:=ae sB;generalize aY dg=nm at HF HZ ⊢;clear h bG kp nH jd dI hl sB;go_enter Tryz.func75,Tryz.ntmps75;go_wp2_with fail;go_region_held3 (λw'=>w'.cell? ⟨st,0,none⟩=some (.pointer (some ⟨d,0,none⟩))/\w'.rangeAt wr.heap.size 0 cl) (first | exact HC.Z _ (ah.refl _ _) | exact HC.Z _ bN | go_keep) (first | (go_at_call 56;refine (HF.Z _).mono ?_;rintro e w1 ⟨rfl,bN⟩) | (go_at_call 57;refine (HZ.Z _ bN).Z.mono ?_;rintro e w' ⟨rfl,rfl⟩));all_goals
  have iW:=ae (XX.Z.trans bN (λ_ _ e=>e));clear bN;go_wp2;go_ret2;exact ⟨rfl,iW.Z⟩
theorem Ju (h:Own w wr (bk d m::rs)) (bG:aA st (.cells #[.pointer (some ⟨d,0,none⟩)] 128) ∈ rs) (hl:dg.length=32) (at_ k:Int) (hg:Good m n): bF 14 #[.pointer (some ⟨st,0,none⟩),.agg (dg.map dF).toArray,.int .i64 at_,.int .i64 k] wr λe w'=>∃ v,e= .returned (.tuple #[v,.int .i64 (er m (aY dg) at_ k)])/\aC w' v (di m (aY dg) at_ k)/\ak wr w':=by
 have kp:=λW=>mQ W dg hl;obtain ⟨cl,dI⟩:∃ cl:List Value,cl=dg.map dF:=⟨_,rfl⟩;have nF:(Tryz.prog.info? 39).map (·.size)=some cl.length:=by rw [dI,io,hl];kernel_rfl
 have Mx:=Tryz.underlying39;rw [<-dI] at kp ⊢;have nH:=abD h bG cl;have gm:∀ w1,ak (wr.alloc (.cells cl.toArray 39)).drew w1->∃ a c w2,aW 55 #[.pointer (some ⟨d,0,none⟩),.string (aY dg),.int .i64 at_,.int .i64 k] w1 (.tuple #[.slice a (di m (aY dg) at_ k).length c,.int .i64 (er m (aY dg) at_ k)]) w2/\aC w2 (.slice a (di m (aY dg) at_ k).length c) (di m (aY dg) at_ k)/\ak (wr.alloc (.cells cl.toArray 39)).drew w2:=λw1 hk=>by obtain ⟨v2,w2,hr,hB,cg,h2⟩:=(nH w1 hk).2.read (aY dg) at_ k (by have:=hg.get (aY dg);omega);obtain ⟨a,c,rfl,_,_⟩:=hB.aG;exact ⟨a,c,w2,hr,hB.reads,hk.trans cg (λ_ _ e=>e)⟩
 have sB:ak wr (wr.alloc (.cells cl.toArray 39)).drew:=((ah.refl _ wr).alloc _).drew;have HC:=ae (λw1 hk=>(nH w1 hk).1);have HF:=ae kp;have HZ:=ae gm;have XX:=ae sB;generalize aY dg=nm at HF HZ ⊢;generalize di m nm at_ k=rb at HZ ⊢;clear h bG kp nH gm dI hl sB hg;go_enter Tryz.func14,Tryz.ntmps14;go_wp2_with fail;go_region_held3 (λw'=>w'.cell? ⟨st,0,none⟩=some (.pointer (some ⟨d,0,none⟩))/\w'.rangeAt wr.heap.size 0 cl) (first | exact HC.Z _ (ah.refl _ _) | exact HC.Z _ cg | exact HC.Z _ bN | go_keep) (first | (go_at_call 56;refine (HF.Z _).mono ?_;rintro e w1 ⟨rfl,bN⟩) | (go_at_call 55;obtain ⟨ra,rc,w2,aT,BU,cg⟩:=HZ.Z _ bN;refine aT.Z.mono ?_;rintro e w' ⟨rfl,rfl⟩));all_goals
  have oE:=ae (XX.Z.trans cg (λ_ _ e=>e));have xo:=ae BU;clear bN cg BU aT;go_wp2;go_ret2;exact ⟨_,rfl,xo.Z,oE.Z⟩
end
def dC (m:DM):Int × DM:=
 if aF m l7=6 then (0,m)
 else if aF m l7=0 then (if (aE m l7).1=0 then aV (aE m l7).2 else aE m l7) else (aF m l7,m)
section
variable {w wr:World} {d st:Nat} {m:DM} {rs:List (bB w.heap.size)}
def tO (w:World) (d:Nat) (rs:List (bB w.heap.size)) (r:Int × DM) (e:Ending) (w':World):Prop:=
 (¬r.1=0/\e= .returned (.tuple #[.pointer none,.int .i64 r.1])/\Own w w' (bk d r.2::rs))\/
 (r.1=0/\∃ st,e= .returned (.tuple #[.pointer (some ⟨st,0,none⟩),.int .i64 0])/\Own w w' (bk d r.2::aA st (.cells #[.pointer (some ⟨d,0,none⟩)] 128)::rs))
theorem tO.ok {r:Int × DM} (hr:r.1=0) (h:Own w wr (bk d r.2::rs)):tO w d rs r (.returned (.tuple #[.pointer (some ⟨wr.heap.size,0,none⟩),.int .i64 0])) (wr.alloc (.cells #[.pointer (some ⟨d,0,none⟩)] 128)):=
 .inr ⟨hr,_,rfl,h.mJ _⟩
theorem BV (h:Own w wr (bk d m::rs)) (hg:Good m n) (hn:n <1099511627776): bF 18 #[.pointer (some ⟨d,0,none⟩)] wr (tO w d rs (dC m)):=by
 have hs:=h.size l7;obtain ⟨w1,hr,h1⟩:=h.dZ l7 hg.cC (hg.aw hn);have Bu:=hg.dZ l7;have hbn:∃ r,r=dC m:=⟨_,rfl⟩;obtain ⟨r,wm⟩:=hbn;rw [<-wm];unfold dC at wm;generalize cF m l7=sc at hs;generalize aE m l7=q at hr h1 Bu wm;obtain ⟨qc,qm⟩:=q;simp only at hr h1 Bu wm;have pJ:=h1.sync Bu.cC Bu.fits1;generalize aF m l7=t at hs wm;unfold l7 at hs hr;have H:=ae h;have H1:=ae h1;have om:=ae pJ;by_cases h6:t=6
 ·subst h6;simp only [if_true] at wm;have HE:=ae wm;go_enter Tryz.func18,Tryz.ntmps18;go_wp2_with fail;refine hs.Z.mono ?_;rintro e w' ⟨rfl,rfl⟩;go_wp2;go_ret2;rw [HE.Z];exact tO.ok rfl H.Z
 ·simp only [h6,if_false] at wm;have Hf:(t !=6)=true:=by simpa using h6
  by_cases h0:t=0
  ·subst h0;simp only [if_true] at wm;by_cases hq:qc=0
   ·subst hq;simp only [if_true] at wm;have HE:=ae wm;generalize aV qm=s at om HE;obtain ⟨sc',sm⟩:=s;go_enter Tryz.func18,Tryz.ntmps18;go_wp2_with fail;refine hs.Z.mono ?_;rintro e w' ⟨rfl,rfl⟩;go_wp2_with fail;refine hr.Z.mono ?_;rintro e w' ⟨rfl,rfl⟩;go_wp2_with fail;refine om.Z.mono ?_;rintro e w' ⟨rfl,h2⟩;have H2:=ae h2;by_cases hs0:sc'=0
    ·subst hs0;go_wp2;go_ret2;rw [HE.Z];exact tO.ok rfl H2.Z
    ·have AW:(sc' !=0)=true:=by simpa using hs0
     have Qh:=ae hs0;go_wp2;go_ret2;rw [HE.Z];exact .inl ⟨Qh.Z,rfl,H2.Z⟩
   ·simp only [hq,if_false] at wm;have HE:=ae wm;have hbq:(qc !=0)=true:=by simpa using hq
    have ac3:(qc==0)=false:=by simpa using hq
    have HQ:=ae hq;go_enter Tryz.func18,Tryz.ntmps18;go_wp2_with fail;refine hs.Z.mono ?_;rintro e w' ⟨rfl,rfl⟩;go_wp2_with fail;refine hr.Z.mono ?_;rintro e w' ⟨rfl,rfl⟩;go_wp2;go_ret2;rw [HE.Z];exact .inl ⟨HQ.Z,rfl,H1.Z⟩
  ·simp only [h0,if_false] at wm;have HE:=ae wm;have hbq:(t !=0)=true:=by simpa using h0
   have ac3:(t==0)=false:=by simpa using h0
   have HQ:=ae h0;go_enter Tryz.func18,Tryz.ntmps18;go_wp2_with fail;refine hs.Z.mono ?_;rintro e w' ⟨rfl,rfl⟩;go_wp2;go_ret2;rw [HE.Z];exact .inl ⟨HQ.Z,rfl,H.Z⟩
end
def cW (m:DM) (n:aD):aH:=(aZ m.aN n).getD []
def uI (m:DM) (dg:aH):Bool:=decide (aF m (aY dg)=0) && decide (ei (cW m (aY dg))=dg)
section
variable {w wr:World} {d st:Nat} {m:DM} {rs:List (bB w.heap.size)}
theorem Gc (h:Own w wr (bk d m::rs)) (bG:aA st (.cells #[.pointer (some ⟨d,0,none⟩)] 128) ∈ rs) (hg:Good m n) (hl:dg.length=32): bF 28 #[.pointer (some ⟨st,0,none⟩),.agg (dg.map dF).toArray] wr (bH wr (.bool (uI m dg))):=by
 obtain ⟨cl,dI⟩:∃ cl:List Value,cl=dg.map dF:=⟨_,rfl⟩;have BS:cl.toArray.size=32:=by rw [dI];simp [hl]
 have Mx:=Tryz.underlying39;have h1:=h.mJ (.cells cl.toArray 39);have jd:=Jt h1 (st:=st) (by simp [bG]) hl;rw [<-dI] at jd ⊢;obtain ⟨R,hR⟩:=cE (uI m dg);rw [<-hR];have bN:ak wr (wr.alloc (.cells cl.toArray 39)):=(ah.refl _ wr).alloc _;have hb:=heap_alloc_new wr (.cells cl.toArray 39);have iW:=ae bN;have HB:=ae hb;have xk:=ae jd;have HI:=ae (Jp BS);have Hb:=hg.get (aY dg);obtain ⟨tt,mN⟩:=cE (aF m (aY dg));have BU:=λ(W:World) (hk:ak (wr.alloc (.cells cl.toArray 39)) W)=>Ju (h1.quiet hk) (st:=st) (by simp [bG]) hl 0 (cF m (aY dg)) hg;by_cases h0:aF m (aY dg)=0
 ·have hsc:cF m (aY dg)=((cW m (aY dg)).length:Int):=by unfold cF;rw [if_pos h0];rfl
  have IY:er m (aY dg) 0 (cF m (aY dg))=0:=by unfold er;rw [if_pos h0,if_neg (by rw [hsc];omega)]
  have Et:di m (aY dg) 0 (cF m (aY dg))=cW m (aY dg):=by unfold di;rw [if_pos h0,if_neg (by rw [hsc];omega),hsc];exact rk _
  have hRe:R=decide (ei (cW m (aY dg))=dg):=by rw [hR,uI,h0];simp
  rw [h0] at xk;rw [IY,Et,<-dI] at BU;have Dc:(cW m (aY dg)).length<=67108864:=Hb;generalize cF m (aY dg)=sc at xk BU;generalize cW m (aY dg)=C at BU hRe Dc;have xo:=ae BU;have ZN:=ae hRe;have rV:=ae dI;have VY:=ae Dc;have HL:=ae hl;clear h h1 bG hg jd bN hb BU hRe dI hR mN h0 hsc IY Et Hb BS Dc hl;go_enter Tryz.func28,Tryz.ntmps28;go_wp2_with (first | (refine wpList_load_row rfl 39 _ rfl wr.heap.size rfl 39 cl.toArray (0,0) _ HB.Z Tryz.underlying39 rfl HI.Z ?_));refine xk.Z.mono ?_;rintro e w2 ⟨rfl,cg⟩;have ox:=cg.at HB.Z (λe=>e);have HB2:=ae ox;have uW:=ae (xo.Z w2 cg);have oE:=ae (iW.Z.trans cg (λ_ _ e=>e));clear ox cg xk xo;go_wp2_with (first | (refine wpList_load_row rfl 39 _ rfl wr.heap.size rfl 39 cl.toArray (0,0) _ HB2.Z Tryz.underlying39 rfl HI.Z ?_));refine uW.Z.mono ?_;rintro e w3 ⟨v,rfl,gm,dN⟩;have yt:=dN.at HB2.Z (λe=>e);obtain ⟨ra,rc,rfl,_,_⟩:=gm.aG;have Di:=λ(W:World) (hk:ak w3 W)=>yT (gm.keep hk) (by have:=VY.Z;omega);have ZO:∀ W,ak w3.drew W->W.rangeAt wr.heap.size 0 cl:=λW hk k v hv=>by rw [fw];exact ag (hk.at (w:=w3.drew) yt (λe=>e)) (by rw [oB];exact hv)
  have HS:=ae (Di w3.drew ((ah.refl _ w3).drew));have HCK:=ae ZO;have pU:=ae (oE.Z.trans dN (λ_ _ e=>e));clear yt dN gm Di ZO uW HB2 HB;have heq:=λW=>tN (ei C) dg (dz C) HL.Z W;rw [<-rV.Z] at heq;generalize C.length=adV at HS ⊢;go_wp2_with fail;go_region_held3 (λw'=>w'.rangeAt wr.heap.size 0 cl) (first | exact HCK.Z _ (ah.refl _ _) | exact HCK.Z _ eA | go_keep) (first | (go_at_call 11;refine HS.Z.mono ?_;rintro e w4 ⟨rfl,eA⟩));all_goals
   have C2:=ae (pU.Z.trans eA.eD (λ_ _ e=>e));clear eA;go_wp2;go_ret;exact ⟨by rw [ZN.Z];rfl,C2.Z⟩
 ·have hRe:R=false:=by rw [hR,uI,decide_eq_false h0];rfl
  have AW:(aF m (aY dg) !=0)=true:=by simpa using h0
  generalize cF m (aY dg)=sc at xk;generalize aF m (aY dg)=t at xk AW;have ZN:=ae hRe;clear h h1 bG hg jd bN hb BU hRe dI hR mN h0 Hb BS hl;go_enter Tryz.func28,Tryz.ntmps28;go_wp2_with (first | (refine wpList_load_row rfl 39 _ rfl wr.heap.size rfl 39 cl.toArray (0,0) _ HB.Z Tryz.underlying39 rfl HI.Z ?_));refine xk.Z.mono ?_;rintro e w2 ⟨rfl,cg⟩;have oE:=ae (iW.Z.trans cg (λ_ _ e=>e));clear cg xk;go_wp2;go_ret;exact ⟨by rw [ZN.Z];rfl,oE.Z⟩
end
section
variable {w wr:World} {d st:Nat} {m:DM} {rs:List (bB w.heap.size)}
theorem Wf (h:Own w wr (bk d m::rs)) (bG:aA st (.cells #[.pointer (some ⟨d,0,none⟩)] 128) ∈ rs) (cl:List Value): ∀ w1,ak (wr.alloc (.cells cl.toArray 39)) w1->Js st d wr.heap.size cl w1/\Own w w1 (bk d m::rs):=λw1 hk=>by have h1:Own w w1 (aA wr.heap.size (.cells cl.toArray 39)::bk d m::rs):=(h.alloc (.cells cl.toArray 39)).quiet hk;refine ⟨⟨ag (i:=0) (h1.at (b:=st) (o:= .cells #[.pointer (some ⟨d,0,none⟩)] 128) (by simp [bG])).1 rfl,λk v hv=> ?_⟩,h1.drop⟩;rw [fw];exact ag (h1.at (gw ..)).1 (by rw [oB];exact hv)
theorem Jv (h:Own w wr (bk d m::rs)) (bG:aA st (.cells #[.pointer (some ⟨d,0,none⟩)] 128) ∈ rs) (nm:aD) (dg:aH) (h0:¬aF m nm=0): bF 115 #[.pointer (some ⟨st,0,none⟩),.string nm,.agg (dg.map dF).toArray] wr (bH wr (.int .i64 (aF m nm))):=by
 obtain ⟨cl,dI⟩:∃ cl:List Value,cl=dg.map dF:=⟨_,rfl⟩;rw [<-dI];obtain ⟨⟨hc,_⟩,ho⟩:=Wf h bG cl _ (ah.refl _ _);have HZ:=ae (ho.size nm);have HK:=ae ((ah.refl (λ_=>False) wr).alloc (.cells cl.toArray 39));have AW:(aF m nm !=0)=true:=by simpa using h0
 generalize cF m nm=sc at HZ;generalize aF m nm=t at HZ AW ⊢;clear h bG ho h0 dI;go_enter Tryz.func115,Tryz.ntmps115;go_wp2_with fail;refine gU HZ.Z.Z ?_;go_wp2;go_ret;exact ⟨rfl,HK.Z⟩
theorem oT (h:Own w wr (bk d m::rs)) (bG:aA st (.cells #[.pointer (some ⟨d,0,none⟩)] 128) ∈ rs) (hg:Good m n) (nm:aD) (cl:List Value) (h0:aF m nm=0): ∃ a c w2,aW 55 #[.pointer (some ⟨d,0,none⟩),.string nm,.int .i64 0,.int .i64 (cF m nm)] (wr.alloc (.cells cl.toArray 39)) (.tuple #[.slice a (cW m nm).length c,.int .i64 0]) w2/\ak (wr.alloc (.cells cl.toArray 39)) w2/\ ∀ W,ak w2 W->bF 11 #[.slice a (cW m nm).length c] W (bH W (.agg ((ei (cW m nm)).map dF).toArray)):=by
 have hsc:cF m nm=((cW m nm).length:Int):=by unfold cF;rw [if_pos h0];rfl
 have IY:er m nm 0 (cF m nm)=0:=by unfold er;rw [if_pos h0,if_neg (by rw [hsc];omega)]
 have Et:di m nm 0 (cF m nm)=cW m nm:=by unfold di;rw [if_pos h0,if_neg (by rw [hsc];omega),hsc];exact rk _
 have qe:(cW m nm).length<=67108864:=hg.get nm;obtain ⟨_,ho⟩:=Wf h bG cl _ (ah.refl _ _);obtain ⟨v,w2,hr,hB,hk,_⟩:=ho.read nm 0 (cF m nm) (by have:=hg.get nm;omega);rw [IY] at hr;rw [Et] at hB;obtain ⟨a,c,rfl,_,_⟩:=hB.aG;exact ⟨a,c,w2,hr,hk,λW mn=>yT (hB.reads.keep mn) (by omega)⟩
theorem Gd (h:Own w wr (bk d m::rs)) (bG:aA st (.cells #[.pointer (some ⟨d,0,none⟩)] 128) ∈ rs) (hg:Good m n) (nm:aD) (dg:aH) (hl:dg.length=32) (h0:aF m nm=0) (dO:¬ei (cW m nm)=dg): bF 115 #[.pointer (some ⟨st,0,none⟩),.string nm,.agg (dg.map dF).toArray] wr (bH wr (.int .i64 20)):=by
 obtain ⟨cl,dI⟩:∃ cl:List Value,cl=dg.map dF:=⟨_,rfl⟩;have Mx:=Tryz.underlying39;have nF:(Tryz.prog.info? 39).map (·.size)=some cl.length:=by rw [dI,io,hl];kernel_rfl
 have heq:=λW=>tN (ei (cW m nm)) dg (dz _) hl W;rw [decide_eq_false dO,<-dI] at heq;rw [<-dI];obtain ⟨⟨hc,_⟩,ho⟩:=Wf h bG cl _ (ah.refl _ _);have hz:=ho.size nm;rw [h0] at hz;obtain ⟨a,c,w2,hr,hk,hs⟩:=oT h bG hg nm cl h0;have nH:=λW mn=>(Wf h bG cl W mn).1;obtain ⟨sm,kW⟩:∃ sm:List Value,sm=(ei (cW m nm)).map dF:=⟨_,rfl⟩;rw [<-kW] at hs heq;have HZ:=ae hz;have HR:=ae hr;have HS:=ae (hs w2.drew ((ah.refl _ w2).drew));have HC:=ae (λ(W:World) (mn:ak w2.drew W)=>(nH W (hk.trans (((ah.refl _ w2).drew).trans mn (λ_ _ e=>e)) (λ_ _ e=>e))).2);have HK:=ae ((((ah.refl (λ_=>False) wr).alloc (.cells cl.toArray 39)).trans hk (λ_ _ e=>e)).drew);generalize (cW m nm).length=n2 at HR HS;generalize cF m nm=sc at HZ HR;clear h bG ho h0 dI hg dO hz hr hk hs nH kW hl;go_enter Tryz.func115,Tryz.ntmps115;go_wp2_with fail;refine HZ.Z.Z.mono ?_;rintro e w' ⟨rfl,rfl⟩;go_wp2_with fail;refine HR.Z.Z.mono ?_;rintro e w' ⟨rfl,rfl⟩;go_wp2_with fail;go_region_held3 (λw'=>w'.rangeAt wr.heap.size 0 cl) (first | exact HC.Z _ (ah.refl _ _) | exact HC.Z _ eA | go_keep) (first | (go_at_call 11;refine HS.Z.mono ?_;rintro e w4 ⟨rfl,eA⟩));all_goals
  have C2:=ae (HK.Z.trans eA (λ_ _ e=>e));clear eA;go_wp2;go_ret;exact ⟨rfl,C2.Z⟩
end
section
variable {w wr:World} {d st:Nat} {m:DM} {rs:List (bB w.heap.size)}
theorem Ge (h:Own w wr (bk d m::rs)) (bG:aA st (.cells #[.pointer (some ⟨d,0,none⟩)] 128) ∈ rs) (hg:Good m n) (hn:n+10 <1099511627776) (nm:aD) (dg:aH) (hl:dg.length=32) (h0:aF m nm=0) (he:ei (cW m nm)=dg) (ht:aF m (aY dg)=0) (hx:(aE m nm).1=0): bF 115 #[.pointer (some ⟨st,0,none⟩),.string nm,.agg (dg.map dF).toArray] wr (pV w d rs (aV (aE m nm).2)):=by
 obtain ⟨cl,dI⟩:∃ cl:List Value,cl=dg.map dF:=⟨_,rfl⟩;have Mx:=Tryz.underlying39;have nF:(Tryz.prog.info? 39).map (·.size)=some cl.length:=by rw [dI,io,hl];kernel_rfl
 have heq:=λW=>tN dg dg hl hl W;rw [decide_eq_true rfl,<-dI] at heq;have kp:=λW=>mQ W dg hl;rw [<-dI] at kp ⊢;have hA:=h.mJ (.cells cl.toArray 39);have nH:∀ W,Own w W (bk d m::aA wr.heap.size (.cells cl.toArray 39)::rs)->Js st d wr.heap.size cl W:=λW ho=>by refine ⟨ag (i:=0) (ho.at (b:=st) (o:= .cells #[.pointer (some ⟨d,0,none⟩)] 128) (by simp [bG])).1 rfl,λk v hv=> ?_⟩;rw [fw];exact ag (ho.at (b:=wr.heap.size) (o:= .cells cl.toArray 39) (by simp)).1 (by rw [oB];exact hv)
 have hz:=hA.size nm;rw [h0] at hz;obtain ⟨a,c,w2,hr,hk,hs⟩:=oT h bG hg nm cl h0;rw [he,<-dI] at hs;have h2:=hA.quiet hk;have iL:=(nH _ hA).1;have og:=hs w2.drew ((ah.refl _ w2).drew);have HZ:=ae hz;have HR:=ae hr;have HS:=ae og;have HF:=ae kp;have HC:=ae (λ(W:World) (mn:ak w2.drew W)=>(nH W (h2.drew.quiet mn)));have xk:=ae (λ(W:World) (mn:ak w2.drew W)=>(h2.drew.quiet mn).size (aY dg));have HT:=ae ht;have vB:∀ W,ak w2.drew W->∃ w',aW 45 #[.pointer (some ⟨d,0,none⟩),.string nm] W (.int .i64 0) w'/\w'.cell? ⟨st,0,none⟩=some (.pointer (some ⟨d,0,none⟩))/\bF 49 #[.pointer (some ⟨d,0,none⟩)] w' (pV w d (aA wr.heap.size (.cells cl.toArray 39)::rs) (aV (aE m nm).2)):=λW mn=>by obtain ⟨w',FM,Gf⟩:=(h2.drew.quiet mn).dZ nm hg.cC (by have:=hg.len;omega);rw [hx] at FM;exact ⟨w',FM,ag (i:=0) (Gf.at (b:=st) (o:= .cells #[.pointer (some ⟨d,0,none⟩)] 128) (by simp [bG])).1 rfl,Gf.sync (hg.dZ nm).cC (hg.dZ nm).fits1⟩
 have uG:=ae vB;generalize aV (aE m nm).2=q at uG ⊢;clear vB;generalize (cW m nm).length=n2 at HR HS;generalize cF m nm=sc at HZ HR;clear h bG h0 hg hn hz hr hk hs hl he hA h2 og nH kp dI ht hx;go_enter Tryz.func115,Tryz.ntmps115;go_wp2_with fail;refine HZ.Z.Z.mono ?_;rintro e w' ⟨rfl,rfl⟩;go_wp2_with fail;refine HR.Z.Z.mono ?_;rintro e w' ⟨rfl,rfl⟩;clear iL HZ HR;go_wp2_with fail;go_region_held3 (λw'=>w'.rangeAt wr.heap.size 0 cl) (first | exact (HC.Z _ (ah.refl _ _)).2 | exact (HC.Z _ eA).2 | go_keep) (first | (go_at_call 11;refine HS.Z.mono ?_;rintro e w4 ⟨rfl,eA⟩));all_goals
  have AY:ak w2.drew w4.drew:=eA.drew;have Qq:=ae (λ(W:World) (mn:ak w4.drew W)=>HC.Z W (AY.trans mn (λ_ _ e=>e)));have oU:=λ(W:World) (mn:ak w4.drew W)=>xk.Z W (AY.trans mn (λ_ _ e=>e));rw [HT.Z] at oU;generalize cF m (aY dg)=sc2 at oU;generalize aY dg=fl at oU HF;have Gg:=ae oU;have ZP:=ae AY;clear eA AY oU HS;go_wp2_with fail;go_region_held3 (λw'=>w'.cell? ⟨st,0,none⟩=some (.pointer (some ⟨d,0,none⟩))/\w'.rangeAt wr.heap.size 0 cl) (first | exact Qq.Z _ (ah.refl _ _) | exact Qq.Z _ fB | go_keep) (first | (go_at_call 56;refine (HF.Z _).mono ?_;rintro e w5 ⟨rfl,fB⟩) | (go_at_call 57;refine (Gg.Z _ fB).Z.mono ?_;rintro e w' ⟨rfl,rfl⟩))
 all_goals
  obtain ⟨w6,S4,hc6,pJ⟩:=uG.Z w5 (ZP.Z.trans fB (λ_ _ e=>e));have HR6:=ae S4;have om:=ae pJ;clear fB S4 pJ;go_wp2_with fail;refine gU HR6.Z.Z ?_;go_wp2_with fail;refine om.Z.mono ?_;rintro e w7 ⟨rfl,h7⟩;have H7:=ae h7.oG;clear h7;go_wp2;go_ret;exact ⟨rfl,H7.Z⟩
theorem My (h:Own w wr (bk d m::rs)) (bG:aA st (.cells #[.pointer (some ⟨d,0,none⟩)] 128) ∈ rs) (hg:Good m n) (hn:n+10 <1099511627776) (nm:aD) (dg:aH) (hl:dg.length=32) (h0:aF m nm=0) (he:ei (cW m nm)=dg) (ht:¬aF m (aY dg)=0) (hx:(bw m nm (aY dg)).1=0): bF 115 #[.pointer (some ⟨st,0,none⟩),.string nm,.agg (dg.map dF).toArray] wr (pV w d rs (aV (bw m nm (aY dg)).2)):=by
 obtain ⟨cl,dI⟩:∃ cl:List Value,cl=dg.map dF:=⟨_,rfl⟩;have Mx:=Tryz.underlying39;have nF:(Tryz.prog.info? 39).map (·.size)=some cl.length:=by rw [dI,io,hl];kernel_rfl
 have heq:=λW=>tN dg dg hl hl W;rw [decide_eq_true rfl,<-dI] at heq;have kp:=λW=>mQ W dg hl;rw [<-dI] at kp ⊢;have hA:=h.mJ (.cells cl.toArray 39);have nH:∀ W,Own w W (bk d m::aA wr.heap.size (.cells cl.toArray 39)::rs)->Js st d wr.heap.size cl W:=λW ho=>by refine ⟨ag (i:=0) (ho.at (b:=st) (o:= .cells #[.pointer (some ⟨d,0,none⟩)] 128) (by simp [bG])).1 rfl,λk v hv=> ?_⟩;rw [fw];exact ag (ho.at (b:=wr.heap.size) (o:= .cells cl.toArray 39) (by simp)).1 (by rw [oB];exact hv)
 have hz:=hA.size nm;rw [h0] at hz;obtain ⟨a,c,w2,hr,hk,hs⟩:=oT h bG hg nm cl h0;rw [he,<-dI] at hs;have h2:=hA.quiet hk;have iL:=(nH _ hA).1;have og:=hs w2.drew ((ah.refl _ w2).drew);have HZ:=ae hz;have HR:=ae hr;have HS:=ae og;have HF:=ae kp;have HC:=ae (λ(W:World) (mn:ak w2.drew W)=>(nH W (h2.drew.quiet mn)));have xk:=ae (λ(W:World) (mn:ak w2.drew W)=>(h2.drew.quiet mn).size (aY dg));have vB:∀ W,ak w2.drew W->∃ w',aW 84 #[.pointer (some ⟨d,0,none⟩),.string nm,.string (aY dg)] W (.int .i64 0) w'/\Js st d wr.heap.size cl w'/\bF 49 #[.pointer (some ⟨d,0,none⟩)] w' (pV w d (aA wr.heap.size (.cells cl.toArray 39)::rs) (aV (bw m nm (aY dg)).2)):=λW mn=>by obtain ⟨w',FM,Gf⟩:=(h2.drew.quiet mn).rename nm (aY dg) hg.cC (by have:=hg.len;omega);rw [hx] at FM;refine ⟨w',FM,⟨ag (i:=0) (Gf.at (b:=st) (o:= .cells #[.pointer (some ⟨d,0,none⟩)] 128) (by simp [bG])).1 rfl,λk v hv=> ?_⟩,Gf.sync (hg.rename nm (aY dg)).cC (hg.rename nm (aY dg)).fits1⟩;rw [fw];exact ag (Gf.at (b:=wr.heap.size) (o:= .cells cl.toArray 39) (by simp)).1 (by rw [oB];exact hv)
 have uG:=ae vB;generalize aV (bw m nm (aY dg)).2=q at uG ⊢;have AW:(aF m (aY dg)==0)=false:=by simpa using ht
 clear vB;generalize (cW m nm).length=n2 at HR HS;generalize cF m nm=sc at HZ HR;clear h bG h0 hg hn hz hr hk hs hl he hA h2 og nH kp dI ht hx;go_enter Tryz.func115,Tryz.ntmps115;go_wp2_with fail;refine HZ.Z.Z.mono ?_;rintro e w' ⟨rfl,rfl⟩;go_wp2_with fail;refine HR.Z.Z.mono ?_;rintro e w' ⟨rfl,rfl⟩;clear iL HZ HR;go_wp2_with fail;go_region_held3 (λw'=>w'.rangeAt wr.heap.size 0 cl) (first | exact (HC.Z _ (ah.refl _ _)).2 | exact (HC.Z _ eA).2 | go_keep) (first | (go_at_call 11;refine HS.Z.mono ?_;rintro e w4 ⟨rfl,eA⟩));all_goals
  have AY:ak w2.drew w4.drew:=eA.drew;have Qq:=ae (λ(W:World) (mn:ak w4.drew W)=>HC.Z W (AY.trans mn (λ_ _ e=>e)));have oU:=λ(W:World) (mn:ak w4.drew W)=>xk.Z W (AY.trans mn (λ_ _ e=>e));generalize aF m (aY dg)=t at oU AW;generalize cF m (aY dg)=sc2 at oU;generalize aY dg=fl at oU HF uG;have Gg:=ae oU;have ZP:=ae AY;clear eA AY oU HS;go_wp2_with fail;go_region_held3 (λw'=>w'.cell? ⟨st,0,none⟩=some (.pointer (some ⟨d,0,none⟩))/\w'.rangeAt wr.heap.size 0 cl) (first | exact Qq.Z _ (ah.refl _ _) | exact Qq.Z _ fB | go_keep) (first | (go_at_call 56;refine (HF.Z _).mono ?_;rintro e w5 ⟨rfl,fB⟩) | (go_at_call 57;refine (Gg.Z _ fB).Z.mono ?_;rintro e w' ⟨rfl,rfl⟩))
 all_goals
  have Mz:ak w4.drew w5.drew:=fB.drew;have HC5:=ae (λ(W:World) (mn:ak w5.drew W)=>Qq.Z W (Mz.trans mn (λ_ _ e=>e)));have ZQ:=ae (λ(W:World) (mn:ak w5.drew W)=>uG.Z W (ZP.Z.trans (Mz.trans mn (λ_ _ e=>e)) (λ_ _ e=>e)));clear fB Mz Gg;go_wp2_with fail;go_region_held3 (λw'=>w'.cell? ⟨st,0,none⟩=some (.pointer (some ⟨d,0,none⟩))/\w'.rangeAt wr.heap.size 0 cl) (first | exact HC5.Z _ (ah.refl _ _) | exact hc6 | exact HC5.Z _ gZ | go_keep) (first | (go_at_call 56;refine (HF.Z _).mono ?_;rintro e w6 ⟨rfl,gZ⟩) | (go_at_call 84;obtain ⟨w7,S4,hc6,pJ⟩:=ZQ.Z _ gZ;refine S4.Z.mono ?_;rintro e w' ⟨rfl,rfl⟩))
 all_goals
  have om:=ae pJ;clear gZ S4 pJ hc6;go_wp2_with fail;refine om.Z.mono ?_;rintro e w8 ⟨rfl,h7⟩;have H7:=ae h7.oG;clear h7;go_wp2;go_ret;exact ⟨rfl,H7.Z⟩
end
section
variable {w wr:World} {d st:Nat} {m:DM} {rs:List (bB w.heap.size)}
theorem Dm (h:Own w wr (bk d m::rs)) (bG:aA st (.cells #[.pointer (some ⟨d,0,none⟩)] 128) ∈ rs) (hg:Good m n) (hn:n+10 <1099511627776) (nm:aD) (dg:aH) (hl:dg.length=32) (h0:aF m nm=0) (he:ei (cW m nm)=dg) (ht:aF m (aY dg)=0) (hx:¬(aE m nm).1=0): bF 115 #[.pointer (some ⟨st,0,none⟩),.string nm,.agg (dg.map dF).toArray] wr (pV w d rs (aE m nm)):=by
 obtain ⟨cl,dI⟩:∃ cl:List Value,cl=dg.map dF:=⟨_,rfl⟩;have Mx:=Tryz.underlying39;have nF:(Tryz.prog.info? 39).map (·.size)=some cl.length:=by rw [dI,io,hl];kernel_rfl
 have heq:=λW=>tN dg dg hl hl W;rw [decide_eq_true rfl,<-dI] at heq;have kp:=λW=>mQ W dg hl;rw [<-dI] at kp ⊢;have hA:=h.mJ (.cells cl.toArray 39);have nH:∀ W,Own w W (bk d m::aA wr.heap.size (.cells cl.toArray 39)::rs)->Js st d wr.heap.size cl W:=λW ho=>by refine ⟨ag (i:=0) (ho.at (b:=st) (o:= .cells #[.pointer (some ⟨d,0,none⟩)] 128) (by simp [bG])).1 rfl,λk v hv=> ?_⟩;rw [fw];exact ag (ho.at (b:=wr.heap.size) (o:= .cells cl.toArray 39) (by simp)).1 (by rw [oB];exact hv)
 have hz:=hA.size nm;rw [h0] at hz;obtain ⟨a,c,w2,hr,hk,hs⟩:=oT h bG hg nm cl h0;rw [he,<-dI] at hs;have h2:=hA.quiet hk;have iL:=(nH _ hA).1;have og:=hs w2.drew ((ah.refl _ w2).drew);have HZ:=ae hz;have HR:=ae hr;have HS:=ae og;have HF:=ae kp;have HC:=ae (λ(W:World) (mn:ak w2.drew W)=>(nH W (h2.drew.quiet mn)));have xk:=ae (λ(W:World) (mn:ak w2.drew W)=>(h2.drew.quiet mn).size (aY dg));have HT:=ae ht;have vB:∀ W,ak w2.drew W->∃ w',aW 45 #[.pointer (some ⟨d,0,none⟩),.string nm] W (.int .i64 (aE m nm).1) w'/\Own w w' (bk d (aE m nm).2::aA wr.heap.size (.cells cl.toArray 39)::rs):=λW mn=>(h2.drew.quiet mn).dZ nm hg.cC (by have:=hg.len;omega)
 have uG:=ae vB;have hq:((aE m nm).1 !=0)=true:=by simpa using hx
 generalize aE m nm=q at uG hq ⊢;obtain ⟨q1,q2⟩:=q;dsimp only at hq;clear vB;generalize (cW m nm).length=n2 at HR HS;generalize cF m nm=sc at HZ HR;clear h bG h0 hg hn hz hr hk hs hl he hA h2 og nH kp dI ht hx;go_enter Tryz.func115,Tryz.ntmps115;go_wp2_with fail;refine HZ.Z.Z.mono ?_;rintro e w' ⟨rfl,rfl⟩;go_wp2_with fail;refine HR.Z.Z.mono ?_;rintro e w' ⟨rfl,rfl⟩;clear iL HZ HR;go_wp2_with fail;go_region_held3 (λw'=>w'.rangeAt wr.heap.size 0 cl) (first | exact (HC.Z _ (ah.refl _ _)).2 | exact (HC.Z _ eA).2 | go_keep) (first | (go_at_call 11;refine HS.Z.mono ?_;rintro e w4 ⟨rfl,eA⟩));all_goals
  have AY:ak w2.drew w4.drew:=eA.drew;have Qq:=ae (λ(W:World) (mn:ak w4.drew W)=>HC.Z W (AY.trans mn (λ_ _ e=>e)));have oU:=λ(W:World) (mn:ak w4.drew W)=>xk.Z W (AY.trans mn (λ_ _ e=>e));rw [HT.Z] at oU;generalize cF m (aY dg)=sc2 at oU;generalize aY dg=fl at oU HF;have Gg:=ae oU;have ZP:=ae AY;clear eA AY oU HS;go_wp2_with fail;go_region_held3 (λw'=>w'.cell? ⟨st,0,none⟩=some (.pointer (some ⟨d,0,none⟩))/\w'.rangeAt wr.heap.size 0 cl) (first | exact Qq.Z _ (ah.refl _ _) | exact Qq.Z _ fB | go_keep) (first | (go_at_call 56;refine (HF.Z _).mono ?_;rintro e w5 ⟨rfl,fB⟩) | (go_at_call 57;refine (Gg.Z _ fB).Z.mono ?_;rintro e w' ⟨rfl,rfl⟩))
 all_goals
  obtain ⟨w6,S4,h6⟩:=uG.Z w5 (ZP.Z.trans fB (λ_ _ e=>e));have HR6:=ae S4;have H6:=ae h6;clear fB S4 h6;go_wp2_with fail;refine gU HR6.Z.Z ?_;have H7:=ae H6.Z.oG;clear H6;go_wp2;go_ret;exact ⟨rfl,H7.Z⟩
theorem Jw (h:Own w wr (bk d m::rs)) (bG:aA st (.cells #[.pointer (some ⟨d,0,none⟩)] 128) ∈ rs) (hg:Good m n) (hn:n+10 <1099511627776) (nm:aD) (dg:aH) (hl:dg.length=32) (h0:aF m nm=0) (he:ei (cW m nm)=dg) (ht:¬aF m (aY dg)=0) (hx:¬(bw m nm (aY dg)).1=0): bF 115 #[.pointer (some ⟨st,0,none⟩),.string nm,.agg (dg.map dF).toArray] wr (pV w d rs (bw m nm (aY dg))):=by
 obtain ⟨cl,dI⟩:∃ cl:List Value,cl=dg.map dF:=⟨_,rfl⟩;have Mx:=Tryz.underlying39;have nF:(Tryz.prog.info? 39).map (·.size)=some cl.length:=by rw [dI,io,hl];kernel_rfl
 have heq:=λW=>tN dg dg hl hl W;rw [decide_eq_true rfl,<-dI] at heq;have kp:=λW=>mQ W dg hl;rw [<-dI] at kp ⊢;have hA:=h.mJ (.cells cl.toArray 39);have nH:∀ W,Own w W (bk d m::aA wr.heap.size (.cells cl.toArray 39)::rs)->Js st d wr.heap.size cl W:=λW ho=>by refine ⟨ag (i:=0) (ho.at (b:=st) (o:= .cells #[.pointer (some ⟨d,0,none⟩)] 128) (by simp [bG])).1 rfl,λk v hv=> ?_⟩;rw [fw];exact ag (ho.at (b:=wr.heap.size) (o:= .cells cl.toArray 39) (by simp)).1 (by rw [oB];exact hv)
 have hz:=hA.size nm;rw [h0] at hz;obtain ⟨a,c,w2,hr,hk,hs⟩:=oT h bG hg nm cl h0;rw [he,<-dI] at hs;have h2:=hA.quiet hk;have iL:=(nH _ hA).1;have og:=hs w2.drew ((ah.refl _ w2).drew);have HZ:=ae hz;have HR:=ae hr;have HS:=ae og;have HF:=ae kp;have HC:=ae (λ(W:World) (mn:ak w2.drew W)=>(nH W (h2.drew.quiet mn)));have xk:=ae (λ(W:World) (mn:ak w2.drew W)=>(h2.drew.quiet mn).size (aY dg));have vB:∀ W,ak w2.drew W->∃ w',aW 84 #[.pointer (some ⟨d,0,none⟩),.string nm,.string (aY dg)] W (.int .i64 (bw m nm (aY dg)).1) w'/\Js st d wr.heap.size cl w'/\Own w w' (bk d (bw m nm (aY dg)).2::aA wr.heap.size (.cells cl.toArray 39)::rs):=λW mn=>by obtain ⟨w',FM,Gf⟩:=(h2.drew.quiet mn).rename nm (aY dg) hg.cC (by have:=hg.len;omega);refine ⟨w',FM,⟨ag (i:=0) (Gf.at (b:=st) (o:= .cells #[.pointer (some ⟨d,0,none⟩)] 128) (by simp [bG])).1 rfl,λk v hv=> ?_⟩,Gf⟩;rw [fw];exact ag (Gf.at (b:=wr.heap.size) (o:= .cells cl.toArray 39) (by simp)).1 (by rw [oB];exact hv)
 have uG:=ae vB;have hq:((bw m nm (aY dg)).1 !=0)=true:=by simpa using hx
 generalize bw m nm (aY dg)=q at uG hq ⊢;obtain ⟨q1,q2⟩:=q;dsimp only at hq;have AW:(aF m (aY dg)==0)=false:=by simpa using ht
 clear vB;generalize (cW m nm).length=n2 at HR HS;generalize cF m nm=sc at HZ HR;clear h bG h0 hg hn hz hr hk hs hl he hA h2 og nH kp dI ht hx;go_enter Tryz.func115,Tryz.ntmps115;go_wp2_with fail;refine HZ.Z.Z.mono ?_;rintro e w' ⟨rfl,rfl⟩;go_wp2_with fail;refine HR.Z.Z.mono ?_;rintro e w' ⟨rfl,rfl⟩;clear iL HZ HR;go_wp2_with fail;go_region_held3 (λw'=>w'.rangeAt wr.heap.size 0 cl) (first | exact (HC.Z _ (ah.refl _ _)).2 | exact (HC.Z _ eA).2 | go_keep) (first | (go_at_call 11;refine HS.Z.mono ?_;rintro e w4 ⟨rfl,eA⟩));all_goals
  have AY:ak w2.drew w4.drew:=eA.drew;have Qq:=ae (λ(W:World) (mn:ak w4.drew W)=>HC.Z W (AY.trans mn (λ_ _ e=>e)));have oU:=λ(W:World) (mn:ak w4.drew W)=>xk.Z W (AY.trans mn (λ_ _ e=>e));generalize aF m (aY dg)=t at oU AW;generalize cF m (aY dg)=sc2 at oU;generalize aY dg=fl at oU HF uG;have Gg:=ae oU;have ZP:=ae AY;clear eA AY oU HS;go_wp2_with fail;go_region_held3 (λw'=>w'.cell? ⟨st,0,none⟩=some (.pointer (some ⟨d,0,none⟩))/\w'.rangeAt wr.heap.size 0 cl) (first | exact Qq.Z _ (ah.refl _ _) | exact Qq.Z _ fB | go_keep) (first | (go_at_call 56;refine (HF.Z _).mono ?_;rintro e w5 ⟨rfl,fB⟩) | (go_at_call 57;refine (Gg.Z _ fB).Z.mono ?_;rintro e w' ⟨rfl,rfl⟩))
 all_goals
  have Mz:ak w4.drew w5.drew:=fB.drew;have HC5:=ae (λ(W:World) (mn:ak w5.drew W)=>Qq.Z W (Mz.trans mn (λ_ _ e=>e)));have ZQ:=ae (λ(W:World) (mn:ak w5.drew W)=>uG.Z W (ZP.Z.trans (Mz.trans mn (λ_ _ e=>e)) (λ_ _ e=>e)));clear fB Mz Gg;go_wp2_with fail;go_region_held3 (λw'=>w'.cell? ⟨st,0,none⟩=some (.pointer (some ⟨d,0,none⟩))/\w'.rangeAt wr.heap.size 0 cl) (first | exact HC5.Z _ (ah.refl _ _) | exact hc6 | exact HC5.Z _ gZ | go_keep) (first | (go_at_call 56;refine (HF.Z _).mono ?_;rintro e w6 ⟨rfl,gZ⟩) | (go_at_call 84;obtain ⟨w7,S4,hc6,h7⟩:=ZQ.Z _ gZ;refine S4.Z.mono ?_;rintro e w' ⟨rfl,rfl⟩))
 all_goals
  have H7:=ae h7.oG;clear gZ S4 hc6 h7;go_wp2;go_ret;exact ⟨rfl,H7.Z⟩
def cT (m:DM) (nm:aD) (dg:aH):Int × DM:=
 if aF m nm=0 then
  (if ei (cW m nm)=dg then
   (if aF m (aY dg)=0 then (if (aE m nm).1=0 then aV (aE m nm).2 else aE m nm)
    else (if (bw m nm (aY dg)).1=0 then aV (bw m nm (aY dg)).2 else bw m nm (aY dg)))
   else (20,m))
 else (aF m nm,m)
theorem Gh (h:Own w wr (bk d m::rs)) (bG:aA st (.cells #[.pointer (some ⟨d,0,none⟩)] 128) ∈ rs) (hg:Good m n) (hn:n+10 <1099511627776) (nm:aD) (dg:aH) (hl:dg.length=32): bF 115 #[.pointer (some ⟨st,0,none⟩),.string nm,.agg (dg.map dF).toArray] wr (pV w d rs (cT m nm dg)):=by
 unfold cT;by_cases h0:aF m nm=0
 ·rw [if_pos h0];by_cases he:ei (cW m nm)=dg
  ·rw [if_pos he];by_cases ht:aF m (aY dg)=0
   ·rw [if_pos ht];by_cases hx:(aE m nm).1=0
    ·rw [if_pos hx];exact Ge h bG hg hn nm dg hl h0 he ht hx
    ·rw [if_neg hx];exact Dm h bG hg hn nm dg hl h0 he ht hx
   ·rw [if_neg ht];by_cases hx:(bw m nm (aY dg)).1=0
    ·rw [if_pos hx];exact My h bG hg hn nm dg hl h0 he ht hx
    ·rw [if_neg hx];exact Jw h bG hg hn nm dg hl h0 he ht hx
  ·rw [if_neg he];refine (Gd h bG hg nm dg hl h0 he).mono ?_;rintro e w' ⟨rfl,hk⟩;exact ⟨rfl,h.quiet hk⟩
 ·rw [if_neg h0];refine (Jv h bG nm dg h0).mono ?_;rintro e w' ⟨rfl,hk⟩;exact ⟨rfl,h.quiet hk⟩
end
def ac4 (c:UInt8):Nat:=if c.toNat <58 then c.toNat - 48 else c.toNat - 87
theorem EM:∀ n:Nat,n <16->ac4 (gB n)=n:=by decide
theorem rD (c:UInt8) (l:aH):dA (c::l)=gB (c.toNat / 16)::gB (c.toNat % 16)::dA l:=rfl
theorem Jx {a:Nat} (ha:a <16) (hb:b <16) (h:gB a=gB b):a=b:=by rw [<-EM a ha,h,EM b hb]
theorem EN:∀ {l m:aH},l.length=m.length->dA l=dA m->l=m
 | [],[],_,_=>rfl
 | [],_::_,h,_=>by simp at h
 | _::_,[],h,_=>by simp at h
 | c::l,d::m,hl,h=>by rw [rD,rD] at h;simp only [List.cons.injEq] at h;have hc:=c.toNat_lt;have hd:=d.toNat_lt;have e1:=Jx (by omega) (by omega) h.1;have e2:=Jx (by omega) (by omega) h.2.1;have e:c=d:=UInt8.toNat_inj.1 (by omega);rw [e,EN (by simpa using hl) h.2.2]
theorem zM {w:World} (h:w.heap[b]?=some (.cells (dg.map dF).toArray 24)) (hl:dg.length=32):aC w (.slice (some ⟨b,0,none⟩) 32 32) dg:=by refine .inr ⟨⟨b,0,none⟩,32,by rw [hl],by omega,by simp [maxLen],λj u hu=> ?_⟩;rw [iV,fw];exact ag h (by rw [oB];exact hu)
theorem MA (W:World) (b:Nat):(Instr.sliceAt 24 (.pointer (some ⟨b,0,none⟩)) none none none).run Tryz.prog W= .ok (.slice (some ⟨b,0,none⟩) 32 32) W:=by kernel_rfl
theorem Jy (w:World) (dg:aH) (hl:dg.length=32):bF 209 #[.agg (dg.map dF).toArray] w (bH w (.string (aY dg))):=by obtain ⟨ds,nQ⟩:∃ ds:Array Value,ds=(dg.map dF).toArray:=⟨_,rfl⟩;have hx:=Bv (w:=w.alloc (.cells ds 24)) (v:= .slice (some ⟨w.heap.size,0,none⟩) 32 32) (l:=dg) (zM (by rw [nQ];exact heap_alloc_new w _) hl) (by omega);have qy:=λW=>MA W w.heap.size;have PJ:=λW=>run_string_add_sum (P:=Tryz.prog) W ⟨#[98,47]⟩ ⟨(dA dg).toArray⟩ (by show 2+(dA dg).toArray.size<=_;rw [Bd,fU];omega);rw [<-nQ];have HX:=ae hx;have bN:ak w (w.alloc (.cells ds 24)):=(ah.refl _ w).alloc _;have iW:=ae bN;have hfe:aY dg=⟨#[98,47]⟩++⟨(dA dg).toArray⟩:=rfl;rw [hfe];generalize (⟨(dA dg).toArray⟩:aD)=hs at HX PJ ⊢;clear hx bN nQ hl hfe;go_enter Tryz.func209,Tryz.ntmps209;go_wp2_with fail;refine HX.Z.mono ?_;rintro e w2 ⟨rfl,cg⟩;have oE:=ae (iW.Z.trans cg (λ_ _ e=>e));clear cg iW HX;go_wp2;go_ret;exact ⟨rfl,oE.Z⟩

end Go.Proofs.YtlcnhpjggjgnpaaGreatDoor