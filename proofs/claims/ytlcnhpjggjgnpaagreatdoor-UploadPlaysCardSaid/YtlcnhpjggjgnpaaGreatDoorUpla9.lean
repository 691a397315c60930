/- A part of the proof. -/
import Derived.Test.YtlcnhpjggjgnpaaGreatDoorUpla5
import Derived.Test.YtlcnhpjggjgnpaaGreatDoorUpla8
set_option linter.unusedSimpArgs false
set_option linter.unusedVariables false
set_option maxRecDepth 100000
set_option maxHeartbeats 1000000
namespace Go.Proofs.YtlcnhpjggjgnpaaGreatDoor
open Go.RowKit Go.MapKept
open Go.ChangeMaps (setBlock)
structure eT where
 id:Int
 au:aD
 bo:Int
 b:aH
def fQ (x:eT) (q:Nat):Obj:= .cells #[.string x.au,.int .i64 x.bo,.int .i64 (x.b.length:Int),.pointer (some ⟨q,0,none⟩)] 116
def iX (d st t:Nat) (next:Int) (mp:Nat):Obj:= .cells #[.pointer (some ⟨d,0,none⟩),.pointer (some ⟨st,0,none⟩),.pointer (some ⟨t,0,none⟩),.int .i64 next,.map (some mp)] 104
def Dq {B:Nat} (q:Nat) (L:aH):bB B:=⟨λF w=>F q/\px w q L,λF w w' h hk=>⟨h.1,by obtain ⟨tail,hh,ht,hp⟩:=h.2;exact ⟨tail,(hk q (.inl h.1)).trans hh,ht,hp⟩⟩⟩
def kJ {B:Nat} (b:Nat) (ps:PS):bB B:=⟨λF w=>F b/\jt w b ps,λF w w' h hk=>⟨h.1,h.2.keep (hk b (.inl h.1))⟩⟩
abbrev UL:=List (eT × Nat × Nat)
def eV {B:Nat}:UL->List (bB B)
 | []=>[]
 | x::L=>aA x.2.1 (fQ x.1 x.2.2)::Dq x.2.2 x.1.b::eV L
def iy (L:UL):PS:=L.map (λx=>(x.1.id,x.2.1))
def bE {B:Nat} (d u st t mp:Nat) (next:Int) (L:UL):List (bB B):=aA u (iX d st t next mp)::aA st (kN d)::kJ mp (iy L)::eV L
theorem kq (B:Nat):∀ (L M:UL),eV (B:=B) (L++M)=eV (B:=B) L++eV (B:=B) M
 | [],M=>rfl
 | x::L,M=>by simp [eV,kq B L M]
def l9 (L:UL) (id:Int):Option (eT × Nat × Nat):=L.find? (λx=>x.1.id=id)
theorem uJ (id:Int):∀ L:UL,ql (iy L) id=(l9 L id).map (λx=>x.2.1)
 | []=>rfl
 | x::L=>by
  by_cases h:x.1.id=id
  ·simp [iy,ql,l9,h]
  ·have:=uJ id L;simp only [iy,ql,l9,kz,List.find?_cons,h,decide_false] at this ⊢;exact this
section
variable {w wr:World} {d u st t mp:Nat} {next:Int} {L:UL} {rs:List (bB w.heap.size)}
theorem Own.pmap {ps:PS} (h:Own w wr rs) (hm:kJ mp ps ∈ rs):jt wr mp ps:=by obtain ⟨F,hr,-⟩:=h.mem hm;exact hr.2
theorem Own.stat {q:Nat} {l:aH} (h:Own w wr rs) (hm:Dq q l ∈ rs):px wr q l/\w.heap.size<=q:=by obtain ⟨F,hr,hb⟩:=h.mem hm;exact ⟨hr.2,(hb q hr.1).1⟩
theorem Own.Oz (h:Own w wr rs):Own w (wr.alloc (.map #[] 0)) (kJ wr.heap.size []::rs):=
 h.add ((ah.refl (λ_=>False) wr).alloc _) (r:=kJ wr.heap.size []) (G:=λb=>b=wr.heap.size) ⟨rfl,#[],0,[],heap_alloc_new wr _,stamped_empty 0,trivial,FB _⟩ (λb hb=>by subst hb;simp)
theorem eW {w:World} {u d st t:Nat} {next:Int} {mp:Nat} (h:w.heap[u]?=some (iX d st t next mp)): w.cell? ⟨u,0,none⟩=some (.pointer (some ⟨d,0,none⟩))/\w.cell? ⟨u,1,none⟩=some (.pointer (some ⟨st,0,none⟩))/\w.cell? ⟨u,2,none⟩=some (.pointer (some ⟨t,0,none⟩))/\w.cell? ⟨u,3,none⟩=some (.int .i64 next)/\w.cell? ⟨u,4,none⟩=some (.map (some mp)):=
 ⟨ag h rfl,ag h rfl,ag h rfl,ag h rfl,ag h rfl⟩
theorem mR {w:World} {q s:Nat} {x:eT} (h:w.heap[s]?=some (fQ x q)): w.cell? ⟨s,0,none⟩=some (.string x.au)/\w.cell? ⟨s,1,none⟩=some (.int .i64 x.bo)/\w.cell? ⟨s,2,none⟩=some (.int .i64 (x.b.length:Int))/\w.cell? ⟨s,3,none⟩=some (.pointer (some ⟨q,0,none⟩)):=
 ⟨ag h rfl,ag h rfl,ag h rfl,ag h rfl⟩
theorem vD (w:World):(zeroValue 112).run Tryz.prog w= .ok (.pointer none) w:=by kernel_rfl
def pL (L:UL) (id:Int):Value:=match l9 L id with
 | some x=> .tuple #[.pointer (some ⟨x.2.1,0,none⟩),.int .i64 0]
 | none=> .tuple #[.pointer none,.int .i64 6]
theorem mS (h:Own w wr rs) (hu:aA u (iX d st t next mp) ∈ rs) (hm:kJ mp (iy L) ∈ rs) (id:Int): aW 47 #[.pointer (some ⟨u,0,none⟩),.int .i64 id] wr (pL L id) wr:=by
 unfold aW pL;obtain ⟨-,-,-,-,c4⟩:=eW (h.at hu).1;have hl:=(h.pmap hm).look (P:=Tryz.prog) (T:=102) Tryz.underlying102 Tryz.underlying3 (vD wr) id true;rw [uJ] at hl;cases hg:l9 L id with
 | none=>
  rw [hg] at hl;simp only [Option.map_none,O7,if_true] at hl;go_enter Tryz.func47,Tryz.ntmps47;go_wp2;go_ret2;exact ⟨rfl,rfl⟩
 | some x=>rw [hg] at hl;simp only [Ar,RT,if_true] at hl;go_enter Tryz.func47,Tryz.ntmps47;go_wp2;go_ret2;exact ⟨rfl,rfl⟩
end
theorem bC.Tb {wr:World} {base:Nat} {v:Value} {l:aH} (hz:base<=wr.heap.size) (ho:bC wr base v l) (s:aD) (hb:l.length+s.size<=140737488355328): ∃ v' w',(Builtin.append_ #[22,9] 22 #[v,.string s]).run Tryz.prog wr= .ok v' w'/\bC w' base v' (l++s.toList)/\ah (λb=>v.ownBlock=some b) wr w':=by
 obtain ⟨i0,hi,rS,iH,jO⟩:=info_parts jN;obtain ⟨v',w',aT,dy,hg,_⟩:=Lib.run_append_own_string (P:=Tryz.prog) wr base 22 9 22 5 i0 Tryz.underlying22 Tryz.underlying9 hi rS iH jO v l.length (l.map dF) ho s (by unfold maxLen;omega) (by omega) hz;refine ⟨v',w',aT, ?_,ah.fH hg⟩;have e1:Lib.strCells s=s.toList.map dF:=by unfold Lib.strCells;rw [ByteArray.toList_eq];rfl
 have e2:l.length+s.size=(l++s.toList).length:=by rw [fS,ByteArray.toList_eq,Array.length_toList];rfl
 rw [e1,<-mB,e2] at dy;exact dy
def cD (au:aD) (x:Nat) (e:aH):aH:=[UInt8.ofNat e.length]++e++aL x 8++au.toList
theorem pZ (au:aD) (x:Nat) (e:aH):(cD au x e).length=9+e.length+au.size:=by
 have:au.toList.length=au.size:=by rw [ByteArray.toList_eq,Array.length_toList];rfl
 unfold cD;simp only [fS,iM,gN,ax,this];omega
theorem wB {w:World} (au:aD) (bo sz:Int) (x:Nat) (hx:IntKind.u64.wrap bo=(x:Int)) (wa:x <18446744073709551616) {ev:Value} {e:aH} (he:aC w ev e) (hel:e.length<=32) (hr:au.size<=1048576): bF 43 #[.agg #[.string au,.int .i64 bo,.int .i64 sz],ev] w (nW w (cD au x e)):=by
 obtain ⟨bx,kB⟩:=cE (Obj.cells #[.string au,.int .i64 bo,.int .i64 sz] 43);have SY:ak w (w.alloc bx):=(ah.refl _ w).alloc _;have hrA:=heap_alloc_new w bx;have Vm:bC ((w.alloc bx).alloc (.cells #[dF (UInt8.ofNat e.length)] 5)) (w.heap.size+1) (.slice (some ⟨w.heap.size+1,0,none⟩) 1 1) [UInt8.ofNat e.length]:=by have:=EL (w.alloc bx) (UInt8.ofNat e.length);rw [World.size_alloc] at this;exact this
 have Wm:ak (w.alloc bx) ((w.alloc bx).alloc (.cells #[dF (UInt8.ofNat e.length)] 5)):=(ah.refl _ _).alloc _;have hc8:IntKind.u8.wrap (e.length:Int)=((UInt8.ofNat e.length).toNat:Int):=by
  have h:(UInt8.ofNat e.length).toNat=e.length:=by simp;omega
  rw [h];simp [IntKind.wrap,IntKind.bits,IntKind.signed];omega
 obtain ⟨v3,w3,jw,fy,dN⟩:=bC.grow (by simp only [World.size_alloc];omega) Vm ((he.keep SY).keep Wm) (by simp only [iM,gN];omega);have sC:ak (w.alloc bx) w3:=Wm.trans dN (λb hb e=>by have:=du Vm b e;rw [World.size_alloc] at hb;omega);have yt:=sC.at hrA (λe=>e);have hz3:w.heap.size+1<=w3.heap.size:=by have:=sC.size;rw [World.size_alloc] at this;exact this
 have hp:=ly w3 x 8 wa (by omega);obtain ⟨a,c,rfl,-,-⟩:=he.aG;obtain ⟨a3,c3,rfl,-,-⟩:=fy.bytes.aG;have Ye:=ae yt;have pU:=ae (SY.trans sC (λ_ _ e=>e));have De:=ae fy;have HZ3:=ae hz3;have HP:=ae hp;have zF:=ae jw;have HEL:=ae hel;have ZN:=ae hr;have cb1:=ag (i:=1) (kB ▸ yt) rfl;simp only [Ap,An,yl] at cb1;have HL:=ae (show cD au x e=[UInt8.ofNat e.length]++e++aL x 8++au.toList from rfl);have cb0:=ag (i:=0) (kB ▸ yt) rfl;simp only [Ap,An,yl] at cb0;have Tc:=ae (show ∀ c:UInt8,([c]++e).length<=33 from λc=>by simp only [fS,iM,gN];omega);generalize ([UInt8.ofNat e.length]++e).length=n3 at zF De;generalize UInt8.ofNat e.length=c0 at*;generalize e.length=el at*;subst kB;go_enter Tryz.func43,Tryz.ntmps43;go_wp2_with (at_builtin;refine ao rfl _ _ _ _ rfl rfl rfl zF.Z ?_);refine HP.Z.mono ?_;rintro e' w4 ⟨v4,rfl,lz,eA⟩;have hb4:=eA.at Ye.Z (λe=>e);obtain ⟨v5,w5,tj,ju,fB⟩:=bC.grow (kT HZ3.Z eA.size) (De.Z.keep eA) lz.bytes.reads (by have:=Tc.Z c0;have:=HEL.Z;rw [ax];omega);have qB:∀ b,b <w.heap.size+1->(Value.slice a3 n3 c3).ownBlock=some b->False:=λb hb e=>by have:=du De.Z b e;omega
 have Ve:w5.heap[w.heap.size]?=_:=fB.at hb4 (λe=>qB _ (Nat.lt_succ_self _) e);have hz5:w.heap.size+1<=w5.heap.size:=kT (kT HZ3.Z eA.size) fB.size;obtain ⟨a4,c4,rfl,-,-⟩:=lz.bytes.aG;obtain ⟨v6,w6,nX,oy,gZ⟩:=bC.Tb hz5 ju au (by have:=Tc.Z c0;have:=HEL.Z;have:=ZN.Z;rw [fS,ax];omega);have ZY:ak w w6:=((pU.Z.trans eA (λ_ _ e=>e)).trans fB (λb hb e=>qB b (Nat.lt_succ_of_lt hb) e)).trans gZ (λb hb e=>by have:=du ju b e;omega);obtain ⟨a5,c5,rfl,-,-⟩:=ju.bytes.aG;have cc0:=ag (i:=0) Ve rfl;simp only [Ap,An,yl] at cc0;have BX:=ae tj;have JF:=ae nX;have Rz:=ae (oy.base (eM _));have RA:=ae ZY;rw [<-HL.Z] at Rz;generalize (aL x 8).length=n8 at BX ⊢;generalize ([c0]++e++aL x 8).length=n9 at BX JF;go_wp2_with (at_builtin;first | (refine ao rfl _ _ _ _ rfl rfl rfl BX.Z ?_) | (refine ao rfl _ _ _ _ rfl rfl rfl JF.Z ?_));go_ret;exact ⟨v6,rfl,Rz.Z,RA.Z⟩

end Go.Proofs.YtlcnhpjggjgnpaaGreatDoor