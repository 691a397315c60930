/- A part of the proof. -/
import Derived.Test.YtlcnhpjggjgnpaaGreatDoorProg
import Derived.WalkSpells
import Derived.Lib.Hide
import Derived.Deep.AppendSrc
import Derived.StillTailTactics
import Derived.BigQuiet
import Derived.Deep.RegionHeld3
import Derived.Deep.RegionLaw
set_option linter.unusedVariables false
set_option maxRecDepth 100000
set_option maxHeartbeats 400000
namespace Go.Proofs.YtlcnhpjggjgnpaaGreatDoor
open Go.RowKit Go.MapKept
open Go.ChangeMaps (setBlock)
theorem fS:type_of% @List.length_append:= @List.length_append
theorem js:type_of% @List.getElem?_eq_getElem:= @List.getElem?_eq_getElem
theorem gw:type_of% @List.mem_cons_self:= @List.mem_cons_self
theorem eQ:type_of% @Nat.le_refl:= @Nat.le_refl
theorem iM:type_of% @List.length_cons:= @List.length_cons
theorem fC:type_of% @Nat.zero_le:= @Nat.zero_le
theorem lN:type_of% @List.append_assoc:= @List.append_assoc
theorem nO:type_of% @List.mem_cons_of_mem:= @List.mem_cons_of_mem
theorem nM:type_of% @List.length_take:= @List.length_take
theorem sU:type_of% @List.take_of_length_le:= @List.take_of_length_le
theorem im:type_of% @Option.some.injEq:= @Option.some.injEq
theorem eM:type_of% @Nat.le_succ:= @Nat.le_succ
theorem fw:type_of% @Nat.zero_add:= @Nat.zero_add
theorem gN:type_of% @List.length_nil:= @List.length_nil
theorem kx:type_of% @List.mem_of_getElem?:= @List.mem_of_getElem?
theorem jc:type_of% @List.getElem?_map:= @List.getElem?_map
theorem kK:type_of% @World.cell?_of_block:= @World.cell?_of_block
theorem io:type_of% @List.length_map:= @List.length_map
theorem iN:type_of% @List.length_drop:= @List.length_drop
theorem kS:type_of% @Below.heap_setCell:= @Below.heap_setCell
theorem jX:type_of% @List.take_length:= @List.take_length
theorem pQ:type_of% @List.drop_eq_getElem_cons:= @List.drop_eq_getElem_cons
theorem oB:type_of% @List.getElem?_toArray:= @List.getElem?_toArray
theorem iV:type_of% @Addr.add_lit:= @Addr.add_lit
theorem lO:type_of% @List.perm_middle:= @List.perm_middle
theorem nP:type_of% @Bool.false_eq_true:= @Bool.false_eq_true
theorem wS:type_of% @List.take_succ_eq_append_getElem:= @List.take_succ_eq_append_getElem
theorem kz:type_of% @List.map_cons:= @List.map_cons
theorem mB:type_of% @List.map_append:= @List.map_append
theorem kT:type_of% @Nat.le_trans:= @Nat.le_trans
theorem vP:type_of% @List.getElem?_cons_zero:= @List.getElem?_cons_zero
theorem oe:type_of% @List.Perm.swap:= @List.Perm.swap
theorem pR:type_of% @List.drop_length:= @List.drop_length
theorem uT:type_of% @List.Perm.append_left:= @List.Perm.append_left
theorem pj:type_of% @List.nil_append:= @List.nil_append
theorem wT:type_of% @World.block_lt_of_cell?:= @World.block_lt_of_cell?
theorem qV:type_of% @List.cons_append:= @List.cons_append
theorem qh:type_of% @List.append_nil:= @List.append_nil
theorem Bb:type_of% @List.perm_append_comm_assoc:= @List.perm_append_comm_assoc
theorem CW:type_of% @List.take_append_of_le_length:= @List.take_append_of_le_length
theorem yl:type_of% @List.getElem_cons_zero:= @List.getElem_cons_zero
theorem qi:type_of% @IntWalk.i64_in:= @IntWalk.i64_in
theorem An:type_of% @List.getElem_cons_succ:= @List.getElem_cons_succ
theorem Ao:type_of% @Below.heap_alloc:= @Below.heap_alloc
theorem Ap:type_of% @List.getElem_toArray:= @List.getElem_toArray
theorem sV:type_of% @List.Perm.cons:= @List.Perm.cons
theorem Hm:type_of% @List.eq_nil_of_length_eq_zero:= @List.eq_nil_of_length_eq_zero
theorem ym:type_of% @List.take_add_one:= @List.take_add_one
theorem yn:type_of% @Int.toNat_natCast:= @Int.toNat_natCast
theorem CX:type_of% @List.drop_of_length_le:= @List.drop_of_length_le
theorem Bc:type_of% @List.getElem?_take:= @List.getElem?_take
theorem yo:type_of% @List.length_set:= @List.length_set
theorem Aq:type_of% @Nat.le_add_right:= @Nat.le_add_right
theorem Fu:type_of% @List.length_filter_le:= @List.length_filter_le
theorem Bd:type_of% @List.size_toArray:= @List.size_toArray
theorem Hn:type_of% @List.getElem?_cons_succ:= @List.getElem?_cons_succ
theorem Ar:type_of% @Option.map_some:= @Option.map_some
theorem Be:type_of% @Bool.and_eq_true:= @Bool.and_eq_true
theorem K0:type_of% @List.getElem?_append_left:= @List.getElem?_append_left
theorem O3:type_of% @List.drop_append_of_le_length:= @List.drop_append_of_le_length
theorem CY:type_of% @List.Sublist.refl:= @List.Sublist.refl
theorem wU:type_of% @List.map_map:= @List.map_map
theorem Au:type_of% @List.take_zero:= @List.take_zero
theorem Fv:type_of% @Nat.lt_of_lt_of_le:= @Nat.lt_of_lt_of_le
theorem Fw:type_of% @List.mem_singleton:= @List.mem_singleton
theorem Ho:type_of% @Nat.mul_le_mul_right:= @Nat.mul_le_mul_right
theorem Hp:type_of% @List.drop_succ_cons:= @List.drop_succ_cons
theorem K3:type_of% @List.mem_append_right:= @List.mem_append_right
theorem Fx:type_of% @Option.getD_some:= @Option.getD_some
theorem Av:type_of% @List.map_nil:= @List.map_nil
theorem yp:type_of% @Nat.mul_one:= @Nat.mul_one
theorem K5:type_of% @Nat.pow_le_pow_right:= @Nat.pow_le_pow_right
theorem Hr:type_of% @List.foldl_append:= @List.foldl_append
theorem Fy:type_of% @List.Perm.trans:= @List.Perm.trans
theorem Fz:type_of% @Bool.eq_iff_iff:= @Bool.eq_iff_iff
theorem FA:type_of% @Bool.or_eq_true:= @Bool.or_eq_true
theorem FB:type_of% @List.Perm.refl:= @List.Perm.refl
theorem O4:type_of% @List.length_replicate:= @List.length_replicate
theorem CZ:type_of% @Nat.sub_self:= @Nat.sub_self
theorem RO:type_of% @Nat.add_sub_cancel_left:= @Nat.add_sub_cancel_left
theorem O5:type_of% @List.filter_sublist:= @List.filter_sublist
theorem Ht:type_of% @List.drop_left:= @List.drop_left
theorem K6:type_of% @List.filter_cons:= @List.filter_cons
theorem O6:type_of% @List.getElem?_drop:= @List.getElem?_drop
theorem O7:type_of% @Option.isSome_none:= @Option.isSome_none
theorem RP:type_of% @List.getElem?_eq_none:= @List.getElem?_eq_none
theorem K7:type_of% @Option.some.inj:= @Option.some.inj
theorem RQ:type_of% @List.perm_append_comm:= @List.perm_append_comm
theorem Vv:type_of% @Int.tmod_eq_emod_of_nonneg:= @Int.tmod_eq_emod_of_nonneg
theorem Hu:type_of% @List.mem_cons:= @List.mem_cons
theorem Vw:type_of% @List.findIdx?_eq_none_iff:= @List.findIdx?_eq_none_iff
theorem K8:type_of% @List.drop_drop:= @List.drop_drop
theorem O8:type_of% @List.isEmpty_iff:= @List.isEmpty_iff
theorem RR:type_of% @List.filter_eq_self:= @List.filter_eq_self
theorem O9:type_of% @Nat.min_eq_left:= @Nat.min_eq_left
theorem RT:type_of% @Option.isSome_some:= @Option.isSome_some
theorem K9:type_of% @List.map_set:= @List.map_set
theorem Pa:type_of% @List.drop_zero:= @List.drop_zero
variable {F G:Nat->Prop} {Q:Exit->Act->World->Prop} {a:Act} {b base bn bs c d i n:Nat} {cs:Array Value} {o:Oper} {ops:Array Oper} {pv s sv v v' vl x xv:Value} {t:TypeId} {w w' w1 w2:World} {α:Type} {xs:List α}
universe u
abbrev aH:=List UInt8
variable {l:aH}
abbrev aD:=ByteArray
def Hq (p:Prop):Prop:=p
theorem Hq.Z {p:Prop} (h:Hq p):p:=h
theorem np (k:Nat):(0:Int)<=k:=by omega
theorem cE {α:Sort u} (x:α):∃ y,y=x:=⟨_,rfl⟩
theorem exp {α:Sort u} (x:α):∃ y,x=y:=⟨_,rfl⟩
section
variable {P:Program} {md:Region.Mode} {ops:Array Oper} {Q:Exit->Act->World->Prop} {S:World->Prop} {op:Op} {type:TypeId} {pos:String} {after:Array Edge} {guard:Option (Nat × Bool)} {su:Nat} {iO:Array Bool} {a:Act} {w:World}
theorem eR (rs:List Nat) (h:AllReadyH P md ops Q S su iO a w rs) (hr:Region.ready md ops iO=rs:=by kernel_rfl) (dO:rs≠[]:=by simp):wpAnyH P md ops Q S (su+1) iO a w:=wpAnyH_ready hr dO h
theorem rcx (n:Nat) {l:List Nat} (h:∀ K':Act->World->Prop,Hq (∀ a w,S w->(S w->wpAnyH P md ops Q S su (iO.setIfInBounds i true) a w)->K' a w)->if Region.wanted {dst:=some n,op:=op,type:=type,pos:=pos,after:=after,guard:=guard} (yielded ops a.tmps)=true then Oper.wp P {dst:=some n,op:=op,type:=type,pos:=pos,after:=after,guard:=guard} a w K' Q else K' (a.put (some n) undef) w)
 (hs:AllReadyH P md ops Q S su iO a w l) (ho:ops[i]? =some {dst:=some n,op:=op,type:=type,pos:=pos,after:=after,guard:=guard}:=by rfl):AllReadyH P md ops Q S su iO a w (i::l):=AllReadyH.cons ho h hs
theorem rcg {l:List Nat} (ho:ops[i]? =some o) (h:∀ K':Act->World->Prop,Hq (∀ a w,S w->(S w->wpAnyH P md ops Q S su (iO.setIfInBounds i true) a w)->K' a w)->if Region.wanted o (yielded ops a.tmps)=true then Oper.wp P o a w K' Q else K' (a.put o.dst undef) w) (hs:AllReadyH P md ops Q S su iO a w l):AllReadyH P md ops Q S su iO a w (i::l):=AllReadyH.cons ho h hs
theorem D7 (n:Nat) (h:∀ K':Act->World->Prop,Hq (∀ a w,S w->(S w->wpAnyH P md ops Q S su (iO.setIfInBounds i true) a w)->K' a w)->if Region.wanted {dst:=some n,op:=op,type:=type,pos:=pos,after:=after,guard:=guard} (yielded ops a.tmps)=true then Oper.wp P {dst:=some n,op:=op,type:=type,pos:=pos,after:=after,guard:=guard} a w K' Q else K' (a.put (some n) undef) w)
 (ho:ops[i]? =some {dst:=some n,op:=op,type:=type,pos:=pos,after:=after,guard:=guard}:=by rfl):AllReadyH P md ops Q S su iO a w [i]:=AllReadyH.cons ho h AllReadyH.nil
theorem gH (n:Nat) (h:∀ K':Act->World->Prop,Hq (∀ a w,S w->(S w->wpAnyH P md ops Q S su (iO.setIfInBounds i true) a w)->K' a w)->Oper.wp P {dst:=some n,op:=op,type:=type,pos:=pos,after:=after,guard:=none} a w K' Q)
 (ho:ops[i]? =some {dst:=some n,op:=op,type:=type,pos:=pos,after:=after,guard:=none}:=by rfl):AllReadyH P md ops Q S su iO a w [i]:=AllReadyH.cons ho (λK hK=>by rw [if_pos (by simp [Region.wanted])];exact h K hK) AllReadyH.nil
end
abbrev bF:=Calls Tryz.prog
theorem ae {p:Prop} (h:p):Hq p:=h
theorem sA {a:α}:xs.toArray.setIfInBounds i a=(xs.set i a).toArray:=List.setIfInBounds_toArray ..
theorem sZ {x a:α}:(x::xs).set 0 a=a::xs:=rfl
theorem sS {x a:α}:(x::xs).set (i+1) a=x::xs.set i a:=rfl
theorem D8 {P:Program} {md:Region.Mode} {S:World->Prop} {op:Op} {type:TypeId} {pos:String} {after:Array Edge} {guard:Option (Nat × Bool)} {su:Nat} {iO:Array Bool} (i n:Nat) (v:Value) (hi:ops[i]?=some {dst:=some n,op:=op,type:=type,pos:=pos,after:=after,guard:=guard}) (hs:Region.noSelect ops=true) (hf:Region.free md ops iO i=true) (hr:(Region.ready md ops iO).contains i=true) (hQ:∀ c a w,Q (.panic c) (a.put (some n) v) w->Q (.panic c) a w) (hy:YieldsIf P ops S {dst:=some n,op:=op,type:=type,pos:=pos,after:=after,guard:=guard} v a) (hS:S w) (h:wpAnyH P md ops Q S su (iO.setIfInBounds i true) (a.put (some n) v) w):wpAnyH P md ops Q S (su+1) iO a w:=wpAnyH_take hi hs hf hr hQ hy hS h
theorem tk {P:Program} {md:Region.Mode} {S:World->Prop} {op:Op} {type:TypeId} {pos:String} {after:Array Edge} {guard:Option (Nat × Bool)} {su:Nat} {iO:Array Bool} (i n:Nat) (v:Value) (hS:S w) (h:wpAnyH P md ops Q S su (iO.setIfInBounds i true) (a.put (some n) v) w) (hi:ops[i]?=some {dst:=some n,op:=op,type:=type,pos:=pos,after:=after,guard:=guard}:=by rfl) (hs:Region.noSelect ops=true:=by kernel_rfl) (hf:Region.free md ops iO i=true:=by kernel_rfl) (hr:(Region.ready md ops iO).contains i=true:=by kernel_rfl)
 (hQ:∀ c a w,Q (.panic c) (a.put (some n) v) w->Q (.panic c) a w:=by exact λ_ _ _ h=>h) (hy:YieldsIf P ops S {dst:=some n,op:=op,type:=type,pos:=pos,after:=after,guard:=guard} v a:=by exact Or.inl ⟨by rfl,by intro w bK;(try dsimp only at bK);go_simp⟩):wpAnyH P md ops Q S (su+1) iO a w:=wpAnyH_take hi hs hf hr hQ hy hS h
structure ah (F:Nat->Prop) (w w':World):Prop where
 os:w'.os=w.os
 tape:w'.tape=w.tape
 output:w'.output=w.output
 size:w.heap.size<=w'.heap.size
 block:∀ k,k <w.heap.size->¬F k->w'.heap[k]?=w.heap[k]?
abbrev ak:=ah (λ_=>False)
theorem ah.refl (F:Nat->Prop) (w:World):ah F w w:=⟨rfl,rfl,rfl,eQ _,λ_ _ _=>rfl⟩
theorem ah.trans {F G:Nat->Prop} {w w1 w2:World} (h:ah F w w1) (k:ah G w1 w2) (hs:∀ b,b <w.heap.size->G b->F b):ah F w w2:=
 ⟨k.os.trans h.os,k.tape.trans h.tape,k.output.trans h.output,kT h.size k.size,λb hb hF=>(k.block b (Fv hb h.size) (λhG=>hF (hs b hb hG))).trans (h.block b hb hF)⟩
theorem ah.mono (h:ah F w w') (hs:∀ b,b <w.heap.size->F b->G b):ah G w w':=
 ⟨h.os,h.tape,h.output,h.size,λb hb hG=>h.block b hb (λhF=>hG (hs b hb hF))⟩
theorem ah.fH {row:Option Nat} (h:w.grownBy w' row):ah (λb=>row=some b) w w':=
 ⟨h.os,h.tape,h.output,h.size,λb hb hF=>h.block b hb (λe=>hF e.symm)⟩
theorem ah.alloc {F:Nat->Prop} {w w':World} (h:ah F w w') (o:Obj):ah F w (w'.alloc o):=
 ⟨h.os,h.tape,h.output,by have:=h.size;simp;omega,λb hb hF=>(Ao w' o b (Fv hb h.size)).trans (h.block b hb hF)⟩
theorem ah.drew {F:Nat->Prop} {w w':World} (h:ah F w w'):ah F w w'.drew:=⟨h.os,h.tape,h.output,h.size,h.block⟩
theorem ah.eD (h:ah F w.drew w'):ah F w w':=⟨h.os,h.tape,h.output,h.size,h.block⟩
theorem ah.drewN (h:ah F w w') (n:Nat):ah F w {w' with drawn:=n}:=⟨h.os,h.tape,h.output,h.size,h.block⟩
theorem ah.setCell {F:Nat->Prop} {w w':World} (h:ah F w w') {p:Addr} (hp:p.block <w.heap.size->F p.block) (u:Value):ah F w (w'.setCell p u):=
 ⟨h.os,h.tape,h.output,by have:=h.size;simp;omega,λb hb hF=>(kS w' p u b (λe=>by subst e;exact hF (hp hb))).trans (h.block b hb hF)⟩
theorem eg (w:World) (b:Nat) (o:Obj) (h:i≠b):(setBlock w b o).heap[i]?=w.heap[i]?:=by simp [setBlock,Ne.symm h]
theorem fg {o:Obj} (h:w.heap[b]?=some o) (o':Obj):(setBlock w b o').heap[b]?=some o':=(heap_set h).1
theorem ah.setBlock {F:Nat->Prop} {w w':World} (h:ah F w w') {b:Nat} (hp:b <w.heap.size->F b) (o:Obj):ah F w (setBlock w' b o):=
 ⟨h.os,h.tape,h.output,by have:=h.size;simp [ChangeMaps.setBlock];omega,λi hi hF=>(eg w' b o (λe=>by subst e;exact hF (hp hi))).trans (h.block i hi hF)⟩
theorem bm {o:Obj} (h:w.heap[b]?=some o):b <w.heap.size:=(Array.getElem?_eq_some_iff.1 h).1
theorem ah.at (h:ah F w w') {o:Obj} (hb:w.heap[b]?=some o) (hF:¬F b):w'.heap[b]?=some o:=
 (h.block b (bm hb) hF).trans hb
theorem ah.below (h:ak w w'):Below w.heap.size w w':=⟨h.os,h.tape,h.output,h.size,λk hk=>h.block k hk (λe=>e)⟩
theorem ag {fz:Nat × Nat} (h:w.heap[b]?=some (.cells cs t fz)) (hi:cs[i]?=some v):w.cell? ⟨b,i,none⟩=some v:=by simp [World.cell?,h,hi]
theorem cL (h:w.heap[b]?=some (.cells cs t (0,0))) (i:Nat):w.frozen? ⟨b,i,none⟩=false:=by simp [World.frozen?,h]
theorem bf {fz:Nat × Nat} (h:w.heap[b]?=some (.cells cs t fz)) (i:Nat) (u:Value): (w.setCell ⟨b,i,none⟩ u).heap[b]?=some (.cells (cs.setIfInBounds i u) t fz):=by simp only [World.setCell,Array.getElem?_modify,if_true,h,Ar];rfl
def dX {α β:Type} (R:α->β->Prop):List α->List β->Prop
 | [],[]=>True
 | a::xs,b::bs=>R a b/\dX R xs bs
 | _,_=>False
theorem dX.length {α β:Type} {R:α->β->Prop}:∀ {l:List α} {m:List β},dX R l m->l.length=m.length
 | [],[],_=>rfl
 | _::_,_::_,h=>by simp [dX.length h.2]
 | [],_::_,h=>h.elim
 | _::_,[],h=>h.elim
theorem dX.mono {α β:Type} {R S:α->β->Prop}:∀ {l:List α} {m:List β},dX R l m->(∀ a b,R a b->S a b)->dX S l m
 | [],[],_,_=>trivial
 | _::_,_::_,h,k=>⟨k _ _ h.1,dX.mono h.2 k⟩
 | [],_::_,h,_=>h.elim
 | _::_,[],h,_=>h.elim
theorem dX.append {α β:Type} {R:α->β->Prop}:∀ {l:List α} {m:List β} {l':List α} {m':List β},dX R l m->dX R l' m'->dX R (l++l') (m++m')
 | [],[],_,_,_,k=>k
 | _::_,_::_,_,_,h,k=>⟨h.1,dX.append h.2 k⟩
 | [],_::_,_,_,h,_=>h.elim
 | _::_,[],_,_,h,_=>h.elim
theorem dX.get {α β:Type} {R:α->β->Prop}:∀ {l:List α} {m:List β} (_:dX R l m) {i:Nat} {a:α} (_:l[i]?=some a),∃ b,m[i]?=some b/\R a b
 | a::xs,b::bs,h,0,x,hx=>by simp at hx;subst hx;exact ⟨b,rfl,h.1⟩
 | a::xs,b::bs,h,i+1,x,hx=>by simpa using dX.get h.2 (by simpa using hx)
 | [],_,_,i,x,hx=>by simp at hx
 | _::_,[],h,_,_,_=>h.elim
theorem dX.wV {α β:Type} {R:α->β->Prop}:∀ {l:List α} {m:List β} (_:dX R l m) {i:Nat} {b:β} (_:m[i]?=some b),∃ a,l[i]?=some a/\R a b
 | a::xs,b::bs,h,0,x,hx=>by simp at hx;subst hx;exact ⟨a,rfl,h.1⟩
 | a::xs,b::bs,h,i+1,x,hx=>by simpa using dX.wV h.2 (by simpa using hx)
 | _,[],_,i,x,hx=>by simp at hx
 | [],_::_,h,_,_,_=>h.elim
theorem dX.eraseIdx {α β:Type} {R:α->β->Prop}:∀ {l:List α} {m:List β} (_:dX R l m) (i:Nat),dX R (l.eraseIdx i) (m.eraseIdx i)
 | _::_,_::_,h,0=>h.2
 | _::_,_::_,h,i+1=>⟨h.1,dX.eraseIdx h.2 i⟩
 | [],[],_,_=>trivial
 | [],_::_,h,_=>h.elim
 | _::_,[],h,_=>h.elim
theorem dX.modify {α β:Type} {R:α->β->Prop} {f:α->α} {g:β->β}:∀ {l:List α} {m:List β} (_:dX R l m) (i:Nat) (_:∀ a b,l[i]?=some a->m[i]?=some b->R a b->R (f a) (g b)),dX R (l.modify i f) (m.modify i g)
 | a::xs,b::bs,h,0,k=>by simpa [dX] using ⟨k a b rfl rfl h.1,h.2⟩
 | a::xs,b::bs,h,i+1,k=>by simpa [dX] using ⟨h.1,dX.modify h.2 i (λx y hx hy=>k x y (by simpa using hx) (by simpa using hy))⟩
 | [],[],_,_,_=>by simp [dX]
 | [],_::_,h,_,_=>h.elim
 | _::_,[],h,_,_=>h.elim
def bQ (F:Nat->Prop) (w:World) (v:Value) (l:aH):Prop:=
 (v= .slice none 0 0/\l=[])\/
 ∃ (g off cap:Nat) (cs:Array Value) (fz:Nat × Nat),v= .slice (some ⟨g,off,none⟩) l.length cap/\F g/\w.heap[g]?=some (.cells cs 5 fz)/\l.length<=cap/\cap<=maxLen/\off+cap<=cs.size/\
  ∀ i c,l[i]?=some c->cs[off+i]?=some (.int .u8 (c.toNat:Int))
def aP (F:Nat->Prop) (w w':World):Prop:=∀ g cs fz,F g->w.heap[g]?=some (.cells cs 5 fz)->w'.heap[g]?=some (.cells cs 5 fz)
theorem aP.jY (h:ah G w w') (hG:∀ g cs fz,F g->G g->w.heap[g]?≠some (.cells cs 5 fz)):aP F w w':=
 λg cs fz hF hb=>h.at hb (λhg=>hG g cs fz hF hg hb)
theorem aP.iq (h:ak w w'):aP F w w':=aP.jY h (λ_ _ _ _ e=>False.elim e)
theorem aP.refl (F:Nat->Prop) (w:World):aP F w w:=λ_ _ _ _ h=>h
theorem aP.trans (h:aP F w w1) (k:aP F w1 w2):aP F w w2:=λg cs fz hF hb=>k g cs fz hF (h g cs fz hF hb)
theorem aP.alloc {F:Nat->Prop} {w w':World} (h:aP F w w') (o:Obj):aP F w (w'.alloc o):=
 λg cs fz hF hb=>by have:=h g cs fz hF hb;rw [Ao w' o g (bm this)];exact this
theorem aP.drew {F:Nat->Prop} {w w':World} (h:aP F w w'):aP F w w'.drew:=h
theorem aP.setBlock {F:Nat->Prop} {w w':World} (h:aP F w w') {b:Nat} (hb:∀ cs fz,w'.heap[b]?≠some (.cells cs 5 fz)) (o:Obj):aP F w (setBlock w' b o):=
 λg cs fz hF hg=>by have:=h g cs fz hF hg;rw [eg w' b o (λe=>by subst e;exact hb _ _ this)];exact this
theorem aP.setCell {F:Nat->Prop} {w w':World} (h:aP F w w') {p:Addr} (hb:∀ cs fz,w'.heap[p.block]?≠some (.cells cs 5 fz)) (u:Value):aP F w (w'.setCell p u):=
 λg cs fz hF hg=>by have:=h g cs fz hF hg;rw [kS w' p u g (λe=>by subst e;exact hb _ _ this)];exact this
theorem bQ.nil (F:Nat->Prop) (w:World):bQ F w (.slice none 0 0) []:= .inl ⟨rfl,rfl⟩
theorem bQ.keep (h:bQ F w v l) (hk:aP F w w') (pz:∀ b,F b->b <w.heap.size->G b):bQ G w' v l:=by
 rcases h with h | ⟨g,off,cap,cs,fz,rfl,hF,hb,h1,h2,h3,h4⟩
 ·exact .inl h
 ·exact .inr ⟨g,off,cap,cs,fz,rfl,pz g hF (bm hb),hk g cs fz hF hb,h1,h2,h3,h4⟩
theorem bQ.aG (h:bQ F w v l):∃ a cap,v= .slice a l.length cap/\l.length<=cap/\cap<=maxLen:=by
 rcases h with ⟨rfl,rfl⟩ | ⟨g,off,cap,cs,fz,rfl,hF,hb,h1,h2,h3,h4⟩
 ·exact ⟨none,0,rfl,eQ _,fC _⟩
 ·exact ⟨_,cap,rfl,h1,h2⟩
abbrev FS:=List (aD × aH)
variable {fs:FS}
def aZ (fs:FS) (n:aD):Option aH:=(fs.find? (λp=>p.1=n)).map (·.2)
def bV (fs:FS) (n:aD):FS:=fs.filter (λp=>p.1≠n)
def pm (a b:aD):Bool:=Op.bytesLess a.toList b.toList
def gY:FS->aD × aH->FS
 | [],f=>[f]
 | x::l,f=>if pm f.1 x.1 then f::x::l else x::gY l f
def dY (fs:FS) (n:aD) (b:aH):FS:=gY (bV fs n) (n,b)
def bX (fs:FS):Prop:=(fs.map (·.1)).Nodup
theorem gJ (f:aD × aH):∀ fs:FS,(gY fs f).Perm (f::fs)
 | []=>FB _
 | x::l=>by
  unfold gY;split
  ·exact FB _
  ·exact (sV x (gJ f l)).trans (oe f x l)
theorem qW (fs:FS) (n:aD):n ∉ (bV fs n).map (·.1):=by simp [bV]
theorem bX.bV {fs:FS} (h:bX fs) (n:aD):bX (bV fs n):=by unfold bX at*;exact h.sublist (List.Sublist.map _ O5)
theorem bX.gY {fs:FS} (h:bX fs) {f:aD × aH} (hn:f.1 ∉ fs.map (·.1)):bX (gY fs f):=by unfold bX at*;exact ((gJ f fs).map (·.1)).nodup_iff.2 (List.nodup_cons.2 ⟨hn,h⟩)
theorem bX.dY {fs:FS} (h:bX fs) (n:aD) (b:aH):bX (dY fs n b):=
 (h.bV n).gY (qW fs n)
def wW (F:Nat->Prop) (w:World) (e:MapEntry) (p:aD × aH):Prop:=e.key= .string p.1/\bQ F w e.val p.2
def dm (F:Nat->Prop) (w:World) (b:Nat) (fs:FS):Prop:=
 ∃ (es:Array MapEntry) (bD:Nat) (l:FS),w.heap[b]?=some (.map es bD)/\Stamped es bD/\dX (wW F w) es.toList l/\l.Perm fs
theorem dm.lt (h:dm F w b fs):b <w.heap.size:=by obtain ⟨es,bD,l,hb,_⟩:=h;exact bm hb
theorem dm.nr (h:dm F w b fs) (cs:Array Value) (t:TypeId) (fz:Nat × Nat):w.heap[b]?≠some (.cells cs t fz):=by obtain ⟨es,bD,l,hb,_⟩:=h;rw [hb];simp
theorem dm.keep {F G:Nat->Prop} {w w':World} {b:Nat} {fs:FS} (h:dm F w b fs) (pg:w'.heap[b]?=w.heap[b]?) (hk:aP F w w') (pz:∀ b,F b->b <w.heap.size->G b):dm G w' b fs:=by obtain ⟨es,bD,l,hb,hs,hr,hp⟩:=h;exact ⟨es,bD,l,pg.trans hb,hs,hr.mono (λe p yq=>⟨yq.1,yq.2.keep hk pz⟩),hp⟩
theorem Hv {F:Nat->Prop} {w:World}:∀ {es:List MapEntry} {l:FS},dX (wW F w) es l->es.map (·.key)=l.map (λp=>Value.string p.1)
 | [],[],_=>rfl
 | e::es,p::l,h=>by simp [h.1.1,Hv h.2]
 | [],_::_,h=>h.elim
 | _::_,[],h=>h.elim
theorem qX {α β:Type} (f:α->β):∀ {l:List α},(l.map f).Nodup->l.Nodup
 | [],_=>List.nodup_nil
 | a::l,h=>by rw [kz,List.nodup_cons] at h;exact List.nodup_cons.2 ⟨λhm=>h.1 (List.mem_map_of_mem hm),qX f h.2⟩
theorem dm.nodup (h:dm F w b fs):bX fs:=by
 obtain ⟨es,bD,l,hb,hs,hr,hp⟩:=h;have h1:(l.map (λp=>Value.string p.1)).Nodup:=by rw [<-Hv hr];exact hs.2.2
 have h2:(l.map (·.1)).Nodup:=qX Value.string (by rw [wU];exact h1);exact (hp.map (·.1)).nodup_iff.1 h2
theorem nt:∀ {fs:FS} (_:bX fs) {n:aD} {x:aH} (_:(n,x) ∈ fs),aZ fs n=some x
 | p::fs,h,n,x,hm=>by
  have h':p.1 ∉ fs.map (·.1)/\(fs.map (·.1)).Nodup:=List.nodup_cons.1 h;rcases List.mem_cons.1 hm with e | hm
  ·subst e;simp [aZ]
  ·have dO:p.1≠n:=λe=>h'.1 (List.mem_map.2 ⟨(n,x),hm,e.symm⟩);have:=nt (fs:=fs) h'.2 hm;simpa [aZ,List.find?_cons,dO] using this
theorem yr {n:aD} (h:n ∉ fs.map (·.1)):aZ fs n=none:=by
 unfold aZ;rw [List.find?_eq_none.2]
 ·rfl
 ·intro p hp;simp;exact λe=>h (List.mem_map.2 ⟨p,hp,e⟩)
theorem sW {n:aD} {x:aH} (h:aZ fs n=some x):(n,x) ∈ fs:=by unfold aZ at h;obtain ⟨p,hp,rfl⟩:=Option.map_eq_some_iff.1 h;have h1:=List.find?_some hp;have h2:=List.mem_of_find?_eq_some hp;simp at h1;subst h1;exact h2
theorem La {es:List MapEntry} {l:FS} (hr:dX (wW F w) es l):∀ x ∈ es,IsKey .string x.key:=by intro x hx;obtain ⟨i,hi⟩:=List.mem_iff_getElem?.1 hx;obtain ⟨p,_,hp⟩:=hr.get hi;rw [hp.1];trivial
section
variable {P:Program} {T K E:TypeId} {F:Nat->Prop} {w:World} {b:Nat} {fs:FS}
theorem dm.look (h:dm F w b fs) (hT:P.underlying T=some (.map K E)) (hK:P.underlying K=some .string) (hz:(zeroValue E).run P w= .ok (.slice none 0 0) w) (s:aD): ∃ v,bQ F w v ((aZ fs s).getD [])/\(aZ fs s=none->v= .slice none 0 0)/\ ∀ c,(Instr.lookup T (.map (some b)) (.string s) c).run P w= .ok (if c then .tuple #[v,.bool (aZ fs s).isSome] else v) w:=by
 have oC:=h.nodup;obtain ⟨es,bD,l,hb,hs,hr,hp⟩:=h;rcases findNow_spec (d:= .string) (k:= .string s) trivial es.toList 0 (La hr) with ⟨h1,h2⟩ | ⟨j,e,h1,h2,h3⟩
 ·have hn:aZ fs s=none:=by apply yr;intro hm;obtain ⟨p,qT,yf⟩:=List.mem_map.1 hm;obtain ⟨i,hi⟩:=List.mem_iff_getElem?.1 (hp.mem_iff.2 qT);obtain ⟨e,he,yq⟩:=hr.wV hi;exact h2 e (List.mem_iff_getElem?.2 ⟨i,he⟩) (by rw [yq.1,yf])
  refine ⟨.slice none 0 0,by rw [hn];exact bQ.nil _ _,λ_=>rfl,λc=> ?_⟩;simp only [Instr.lookup,Sem.run_bind,run_underlying hT,Result.andThen,MapKept.run_getObj_map hb];simp only [Sem.run_pure,run_checkKey hK (k:= .string s) trivial,run_findKey hK h1,Sem.run_bind,hz,Result.andThen,hn];cases c <;>simp
 ·obtain ⟨p,Rn,Pb⟩:=hr.get h2;have zj:p.1=s:=by have:=Pb.1.symm.trans h3;simpa using this
  have hg:aZ fs s=some p.2:=nt oC (by rw [<-zj];exact hp.mem_iff.1 (List.mem_iff_getElem?.2 ⟨j,Rn⟩));refine ⟨e.val,by rw [hg];exact Pb.2,(λhe=>by rw [hg] at he;cases he),λc=> ?_⟩;simp only [Instr.lookup,Sem.run_bind,run_underlying hT,Result.andThen,MapKept.run_getObj_map hb];simp only [Sem.run_pure,run_checkKey hK (k:= .string s) trivial,run_findKey hK h1,Sem.run_bind,Result.andThen,hg];cases c <;>simp
theorem Bf {l fs:FS} (hp:l.Perm fs) (hn:bX fs) {j:Nat} {p:aD × aH} (hj:l[j]?=some p):(l.eraseIdx j).Perm (bV fs p.1):=by
 have Vx:bX l:=(hp.map (λq:aD × aH=>q.1)).nodup_iff.2 hn;have e:l.eraseIdx j=l.filter (λq=>q.1≠p.1):=by
  clear hp hn;induction l generalizing j with
  | nil=>simp at hj
  | cons a l ih=>
   have h':a.1 ∉ l.map (·.1)/\(l.map (·.1)).Nodup:=List.nodup_cons.1 Vx;cases j with
   | zero=>
    simp at hj;subst hj;simp;symm;rw [RR];intro q hq;simp;exact λe=>h'.1 (List.mem_map.2 ⟨q,hq,e⟩)
   | succ j=>
    have Pc:l[j]?=some p:=by simpa using hj
    have dO:a.1≠p.1:=λe=>h'.1 (List.mem_map.2 ⟨p,List.mem_iff_getElem?.2 ⟨j,Pc⟩,e.symm⟩);simp [dO,ih Pc h'.2]
 rw [e];exact hp.filter _
theorem lu {fs:FS} {n:aD} (h:n ∉ fs.map (·.1)):bV fs n=fs:=by unfold bV;rw [RR];intro q hq;simp;exact λe=>h (List.mem_map.2 ⟨q,hq,e⟩)
theorem qj {α:Type} (f:α->α):∀ {l:List α} {j:Nat} {p:α},l[j]?=some p->(l.modify j f).Perm (f p::l.eraseIdx j)
 | a::l,0,p,h=>by simp at h;subst h;simp
 | a::l,j+1,p,h=>by have:=qj f (l:=l) (j:=j) (p:=p) (by simpa using h);simp only [List.modify_succ_cons,List.eraseIdx_cons_succ];exact (this.cons a).trans (oe _ _ _)
theorem dm.update (h:dm F w b fs) (hT:P.underlying T=some (.map K E)) (hK:P.underlying K=some .string) (s:aD) {x:aH} (hv:bQ F w v x): ∃ es bD,(Instr.mapUpdate T (.map (some b)) (.string s) v).run P w= .ok () (setBlock w b (.map es bD))/\dm F (setBlock w b (.map es bD)) b (dY fs s x):=by
 have oC:=h.nodup;have hnu:=h.nr;obtain ⟨es,bD,l,hb,hs,hr,hp⟩:=h;have AV:∀ o,aP F w (setBlock w b o):=λo=>(aP.refl F w).setBlock (λcs fz=>hnu cs 5 fz) o;rcases findNow_spec (d:= .string) (k:= .string s) trivial es.toList 0 (La hr) with ⟨h1,h2⟩ | ⟨j,e,h1,h2,h3⟩
 ·have hn:s ∉ fs.map (·.1):=by intro hm;obtain ⟨p,qT,yf⟩:=List.mem_map.1 hm;obtain ⟨i,hi⟩:=List.mem_iff_getElem?.1 (hp.mem_iff.2 qT);obtain ⟨e,he,yq⟩:=hr.wV hi;exact h2 e (List.mem_iff_getElem?.2 ⟨i,he⟩) (by rw [yq.1,yf])
  refine ⟨es.push {key:= .string s,val:=v,born:=bD},bD+1, ?_,_,_,l++[(s,x)],fg hb _,stamped_push hs h2, ?_, ?_⟩
  ·simp only [Instr.mapUpdate,Sem.run_bind,run_underlying hT,Result.andThen,MapKept.run_getObj_map hb,run_checkKey hK (k:= .string s) trivial,run_findKey hK h1,run_setObj_map _ hb];rfl
  ·rw [Array.toList_push];exact (hr.mono (λe p yq=>⟨yq.1,yq.2.keep (AV _) (λ_ h _=>h)⟩)).append ⟨⟨rfl,hv.keep (AV _) (λ_ h _=>h)⟩,trivial⟩
  ·unfold dY;rw [lu hn];exact (List.perm_append_comm.trans (sV _ hp)).trans (gJ _ _).symm
 ·obtain ⟨p,Rn,Pb⟩:=hr.get h2;have zj:p.1=s:=by have:=Pb.1.symm.trans h3;simpa using this
  have he:es[j]?=some e:=by simpa using h2
  refine ⟨es.modify j (λe=>{e with key:= .string s,val:=v}),bD, ?_,_,_,l.modify j (λ_=>(s,x)),fg hb _,stamped_modify hs j _ (λ_ _=>rfl) (λe' _ he'=> ?_), ?_, ?_⟩
  ·simp only [Instr.mapUpdate,Sem.run_bind,run_underlying hT,Result.andThen,MapKept.run_getObj_map hb,run_checkKey hK (k:= .string s) trivial,run_findKey hK h1,fw,he,Ar,Fx,h3,
    run_keyThatStays (d:= .string) (k:= .string s) trivial,run_setObj_map _ hb]
   rfl
  ·rw [he] at he';cases he';exact h3.symm
  ·rw [Array.toList_modify];exact (hr.mono (λe p yq=>⟨yq.1,yq.2.keep (AV _) (λ_ h _=>h)⟩)).modify j (λa b' _ _ _=>⟨rfl,hv.keep (AV _) (λ_ h _=>h)⟩)
  ·refine (qj _ Rn).trans ?_;refine (sV _ (Bf hp oC Rn)).trans ?_;rw [zj];exact (gJ _ _).symm
theorem dm.delete (h:dm F w b fs) (hT:P.underlying T=some (.map K E)) (hK:P.underlying K=some .string) (s:aD) (K':TypeId) (ty:TypeId): ∃ es bD,(Builtin.delete_ #[T,K'] ty #[.map (some b),.string s]).run P w= .ok (.tuple #[]) (setBlock w b (.map es bD))/\dm F (setBlock w b (.map es bD)) b (bV fs s):=by
 have oC:=h.nodup;have hnu:=h.nr;obtain ⟨es,bD,l,hb,hs,hr,hp⟩:=h;have AV:∀ o,aP F w (setBlock w b o):=λo=>(aP.refl F w).setBlock (λcs fz=>hnu cs 5 fz) o;rcases findNow_spec (d:= .string) (k:= .string s) trivial es.toList 0 (La hr) with ⟨h1,h2⟩ | ⟨j,e,h1,h2,h3⟩
 ·have hn:s ∉ fs.map (·.1):=by intro hm;obtain ⟨p,qT,yf⟩:=List.mem_map.1 hm;obtain ⟨i,hi⟩:=List.mem_iff_getElem?.1 (hp.mem_iff.2 qT);obtain ⟨e,he,yq⟩:=hr.wV hi;exact h2 e (List.mem_iff_getElem?.2 ⟨i,he⟩) (by rw [yq.1,yf])
  refine ⟨es,bD, ?_,_,_,l,fg hb _,hs,hr.mono (λe p yq=>⟨yq.1,yq.2.keep (AV _) (λ_ h _=>h)⟩),by rw [lu hn];exact hp⟩;simp [Builtin.delete_,Sem.run_bind,run_underlying hT,Result.andThen,MapKept.run_getObj_map hb,run_checkKey hK (k:= .string s) trivial,run_findKey hK h1,run_setObj_map _ hb,ChangeMaps.setBlock]
 ·obtain ⟨p,Rn,Pb⟩:=hr.get h2;have zj:p.1=s:=by have:=Pb.1.symm.trans h3;simpa using this
  refine ⟨es.eraseIdxIfInBounds j,bD, ?_,_,_,l.eraseIdx j,fg hb _,stamped_erase hs j, ?_, ?_⟩
  ·simp [Builtin.delete_,Sem.run_bind,run_underlying hT,Result.andThen,MapKept.run_getObj_map hb,run_checkKey hK (k:= .string s) trivial,run_findKey hK h1,run_setObj_map _ hb,ChangeMaps.setBlock]
  ·rw [show (es.eraseIdxIfInBounds j).toList=es.toList.eraseIdx j by simp];exact (hr.mono (λe p yq=>⟨yq.1,yq.2.keep (AV _) (λ_ h _=>h)⟩)).eraseIdx j
  ·rw [<-zj];exact Bf hp oC Rn
theorem dm.len (h:dm F w b fs) (hT:P.underlying T=some (.map K E)) (ty:TypeId):(Builtin.len_ #[T] ty #[.map (some b)]).run P w= .ok (.int .i64 (fs.length:Int)) w:=by
 obtain ⟨es,bD,l,hb,hs,hr,hp⟩:=h;have e:es.size=fs.length:=by rw [<-hp.length_eq,<-hr.length,Array.length_toList]
 simp [Builtin.len_,Sem.run_bind,run_underlying hT,Result.andThen,MapKept.run_getObj_map hb,e,goInt]
end
def dF (c:UInt8):Value:= .int .u8 (c.toNat:Int)
theorem wX (l:aH):∀ u ∈ l.map dF,u.oneCell'=true:=by intro u hu;obtain ⟨_,_,rfl⟩:=List.mem_map.1 hu;rfl
section
variable {P:Program} {F:Nat->Prop} {w:World}
theorem bQ.cells (h:bQ F w s l) {a:Addr} (hs:s= .slice (some a) n c):n=l.length/\∀ j u,(l.map dF)[j]?=some u->w.cell? (a.add j)=some u:=by
 rcases h with ⟨e,_⟩ | ⟨g,off,cap,cs,fz,e,hF,hb,h1,h2,h3,h4⟩
 ·rw [hs] at e;cases e
 ·rw [hs] at e;simp only [Value.slice.injEq,im] at e;obtain ⟨rfl,rfl,rfl⟩:=e;refine ⟨rfl,λj u hu=> ?_⟩;rw [jc] at hu;obtain ⟨x,hx,rfl⟩:=Option.map_eq_some_iff.1 hu;rw [iV];exact ag hb (h4 j x hx)
def aC (w:World) (v:Value) (l:aH):Prop:=
 (v= .slice none 0 0/\l=[])\/∃ (x:Addr) (c:Nat),v= .slice (some x) l.length c/\l.length<=c/\c<=maxLen/\∀ j u,(l.map dF)[j]?=some u->w.cell? (x.add j)=some u
theorem bQ.reads (h:bQ F w s l):aC w s l:=by
 obtain ⟨a,c,rfl,h1,h2⟩:=h.aG;cases a with
 | none=>
  rcases h with ⟨e,rfl⟩ | ⟨g,off,cap,cs,fz,e,_⟩
  ·exact .inl ⟨e,rfl⟩
  ·cases e
 | some x=>exact .inr ⟨x,c,rfl,h1,h2,(h.cells rfl).2⟩
theorem aC.aG (h:aC w v l):∃ a c,v= .slice a l.length c/\l.length<=c/\c<=maxLen:=by
 rcases h with ⟨rfl,rfl⟩ | ⟨x,c,rfl,h1,h2,_⟩
 ·exact ⟨none,0,rfl,eQ _,fC _⟩
 ·exact ⟨_,c,rfl,h1,h2⟩
theorem aC.same (h:aC w v l) (hk:∀ b,b <w.heap.size->w'.heap[b]?=w.heap[b]?):aC w' v l:=by
 rcases h with h | ⟨x,c,rfl,h1,h2,h3⟩
 ·exact .inl h
 ·exact .inr ⟨x,c,rfl,h1,h2,λj u hu=>by have:=h3 j u hu;rw [kK (hk _ (wT w _ this))];exact this⟩
theorem aC.keep (h:aC w v l) (hk:ak w w'):aC w' v l:=h.same (λb hb=>hk.block b hb (λe=>e))
theorem aC.src {tx e':TypeId} (hk:P.underlying tx=some (.slice e')) {m:aH} (h:aC w x m):Src P 1 tx x m.length (m.map dF) w:=by
 rcases h with ⟨rfl,rfl⟩ | ⟨a,c,rfl,h1,h2,h3⟩
 ·exact Src.ofNil w hk _
 ·exact Src.ofSlice w hk a _ _ _ (by simp) h3 (wX _)
theorem bQ.first {m:aH} (h:bQ F w x m):(Builtin.firstCells 1 m.length x).run P w= .ok (m.map dF).toArray w:=by
 obtain ⟨a,cap,rfl,_,_⟩:=h.aG;cases a with
 | none=>
  rcases h with ⟨e,rfl⟩ | ⟨g,off,cap,cs,fz,e,_⟩
  ·exact run_firstCells_none w 1 0 0 _
  ·cases e
 | some a=>exact run_firstCells_some w 1 _ a _ _ _ (by simp) (h.cells rfl).2
theorem bQ.made (l:aH) (rest:Array Value) (w:World) {cap:Nat} (hn:n=l.length) (hc:l.length<=cap) (hm:cap<=maxLen) (hs:cap<=l.length+rest.size) (hF:F w.heap.size): bQ F (w.alloc (.cells ((l.map dF).toArray++rest) 5)) (.slice (some ⟨w.heap.size,0,none⟩) n cap) l:=by subst hn;refine .inr ⟨_,0,cap,_,_,rfl,hF,heap_alloc_new w _,hc,hm,by simp;omega,λi c hi=> ?_⟩;have aX:i <l.length:=(List.getElem?_eq_some_iff.1 hi).1;simp only [fw,Array.getElem?_append,Bd,io,aX,if_true,oB,jc,hi,Ar];rfl
theorem Lb (t tx ty e':TypeId) (i:TypeInfo) (z:Value) (ht:P.underlying t=some (.slice 5)) (hx:P.underlying tx=some (.slice e')) (hi:P.info? 5=some i) (hz:i.zero=some z) (jd:i.size=1) (Vy:i.bytes=1) (hzc:z.cells.size=1) {m:aH} (h:bQ F w s l) (k:aC w x m) {a:Option Addr} {cap:Nat} (hs:s= .slice a n cap) (Vz:cap <l.length+m.length) (hb:l.length+m.length<=140737488355328): ∃ v' w',(Builtin.append_ #[t,tx] ty #[s,x]).run P w= .ok v' w'/\bQ (λb=>b=w.heap.size) w' v' (l++m)/\w'.heap.size=w.heap.size+1/\ak w w'/\ ∃ c cs,v'= .slice (some ⟨w.heap.size,0,none⟩) (l.length+m.length) c/\w'.heap[w.heap.size]?=some (.cells cs 5 (0,0)):=by
 have hn:n=l.length:=by obtain ⟨a',c',e,_,_⟩:=h.aG;rw [hs] at e;simp at e;exact e.2.1
 subst hn;have Lc:Src P i.size tx x m.length (m.map dF) w:=by rw [jd];exact k.src hx
 have hold:(Builtin.firstCells i.size l.length (.slice a l.length cap)).run P w.drew= .ok (l.map dF).toArray w.drew:=by rw [jd,<-hs];exact bQ.first (F:=F) (h.keep (aP.refl F w).drew (λ_ h _=>h))
 have hr:=run_append_grow_src (P:=P) w t tx ty 5 i z ht hi hz a l.length cap (l.map dF) hold x m.length (m.map dF) Lc Vz (by omega) (by rw [Vy];exact growslice_fits Vz (by omega));have Ld:=grownCap_ge w (l.length+m.length) cap 5;have lf:=grownCap_le_maxLen w (l.length+m.length) cap 5 (by unfold maxLen;omega);refine ⟨_,_,by rw [hs];exact hr, ?_,by simp,((ah.refl _ _).drew).alloc _,_,_,rfl,heap_alloc_new w.drew _⟩;rw [show l.map dF++m.map dF=(l++m).map dF by simp];exact bQ.made (F:=λb=>b=w.heap.size) (l++m) _ w.drew (by simp) (by simpa using Ld) lf (by simp [size_zeroCells,hzc];omega) rfl
theorem sX (t tx ty e':TypeId) (i:TypeInfo) (ht:P.underlying t=some (.slice 5)) (hx:P.underlying tx=some (.slice e')) (hi:P.info? 5=some i) (jd:i.size=1) (h:bQ F w s l) (k:aC w x []):(Builtin.append_ #[t,tx] ty #[s,x]).run P w= .ok s w:=by
 obtain ⟨a,cap,hs,hc,_⟩:=h.aG;subst hs;cases a with
 | none=>
  have Lc:Src P i.size tx x 0 [] w:=by rw [jd];exact k.src hx
  have sw:=Lc.cells;have N2:=Lc.len w;simp [Builtin.append_,run_underlying ht,run_underlying hx,sizeOf,typeInfo,hi,N2,hc,sw]
 | some a=>
  have Lc:Src P i.size tx x 0 [] w:=by rw [jd];exact k.src hx
  have sw:=Lc.cells;have N2:=Lc.len w;simp [Builtin.append_,run_underlying ht,run_underlying hx,sizeOf,typeInfo,hi,N2,hc,sw,storeCells]
theorem sY (t tx ty e':TypeId) (i:TypeInfo) (z:Value) (ht:P.underlying t=some (.slice 5)) (hx:P.underlying tx=some (.slice e')) (hi:P.info? 5=some i) (hz:i.zero=some z) (jd:i.size=1) (Vy:i.bytes=1) (hzc:z.cells.size=1) {m:aH} (h:bQ F w s l) (k:aC w x m) {a:Option Addr} (hs:s= .slice a n l.length) (hb:l.length+m.length<=140737488355328): ∃ v' w',(Builtin.append_ #[t,tx] ty #[s,x]).run P w= .ok v' w'/\bQ (λb=>F b\/b=w.heap.size) w' v' (l++m)/\ak w w'/\(m≠ []->bQ (λb=>b=w.heap.size) w' v' (l++m))/\(m=[]->v'=s):=by
 by_cases hm:m=[]
 ·subst hm;refine ⟨s,w,sX t tx ty e' i ht hx hi jd h k, ?_,ah.refl _ _,λh=>absurd rfl h,λ_=>rfl⟩;rw [qh];exact h.keep (aP.refl F w) (λ_ h _=> .inl h)
 ·have Bg:0 <m.length:=List.length_pos_iff.2 hm;obtain ⟨v',w',hr,hB,hz',hk,_⟩:=Lb t tx ty e' i z ht hx hi hz jd Vy hzc h k hs (by omega) hb;exact ⟨v',w',hr,hB.keep (aP.refl _ _) (λ_ h _=> .inr h),hk,λ_=>hB,λh=>absurd h hm⟩
theorem cP {K:Act->World->Prop} {E:Prop} (hg:o.guard=none) (s x:Operand) (t tx:TypeId) (ph:o.op=Op.call {callee:=Callee.builtin Builtin.append,args:=#[s,x],argTypes:=#[t,tx]}) (hs:a.eval s=sv) (hx:a.eval x=xv) (aT:(Builtin.append_ #[t,tx] o.type #[sv,xv]).run P w= .ok v' w') (hK:K (a.put o.dst v') w'):if Region.wanted o (yielded ops a.tmps)=true then Oper.wp P o a w K Q else E:=by
 have hw:Region.wanted o (yielded ops a.tmps)=true:=by simp [Region.wanted,hg]
 rw [if_pos hw];unfold Oper.wp;simp [execOp,ph,resolve,invoke,builtin,hs,hx,aT,Result.andThen];exact hK
theorem ao {rest:List Oper} (hg:o.guard=none) (s x:Operand) (t tx:TypeId) (ph:o.op=Op.call {callee:=Callee.builtin Builtin.append,args:=#[s,x],argTypes:=#[t,tx]}) (hs:a.eval s=sv) (hx:a.eval x=xv) (aT:(Builtin.append_ #[t,tx] o.type #[sv,xv]).run P w= .ok v' w') (hK:wpList P ops Q rest (a.put o.dst v') w'):wpList P ops Q (o::rest) a w:=by refine wpList_plain hg λK hK'=> ?_;unfold Oper.wp;simp [execOp,ph,resolve,invoke,builtin,hs,hx,aT,Result.andThen];exact hK' _ _ hK
theorem iu {rest:List Oper} (hg:o.guard=none) (s x:Operand) (t tx:TypeId) (ph:o.op=Op.call {callee:=Callee.builtin Builtin.delete,args:=#[s,x],argTypes:=#[t,tx]}) (hs:a.eval s=sv) (hx:a.eval x=xv) (aT:(Builtin.delete_ #[t,tx] o.type #[sv,xv]).run P w= .ok v' w') (hK:wpList P ops Q rest (a.put o.dst v') w'):wpList P ops Q (o::rest) a w:=by refine wpList_plain hg λK hK'=> ?_;unfold Oper.wp;simp [execOp,ph,resolve,invoke,builtin,hs,hx,aT,Result.andThen];exact hK' _ _ hK
theorem kU (h:w.ownsRow base 5 1 v n (l.map dF)):bQ (λb=>base<=b) w v l:=by
 obtain ⟨h1,h2⟩:=h;have hl:l.length=n:=by simpa using h1
 rcases h2 with ⟨rfl,rfl⟩ | ⟨g,cap,gp,rfl,hg,hb,sy,pA,pS,ht⟩
 ·have:l=[]:=Hm hl;subst this;exact bQ.nil _ _
 ·subst hl;refine .inr ⟨g,0,cap,gp,(0,0),rfl,hg,hb,sy,pA,by omega,λi c hi=> ?_⟩;have:(gp.toList.take (l.length*1))[i]?=some (dF c):=by rw [ht,jc,hi];rfl
  rw [Bc] at this;split at this
  ·rw [fw];simpa [dF] using this
  ·cases this
end
structure Ch where
 kind:Int
 a:aD
 b:aD
 p:aH
structure DM where
 aR:Int
 aN:FS
 sure:FS
 aw:List Ch
 cC:Int
 bh:Bool
variable {m:DM}
def bW (fs:FS) (c:Ch):FS:=
 if c.kind=0 then dY fs c.a []
 else if c.kind=1 then dY fs c.a ((aZ fs c.a).getD []++c.p)
 else if c.kind=2 then bV fs c.a
 else if c.kind=3 then (if c.a=c.b then dY fs c.b ((aZ fs c.a).getD []) else bV (dY fs c.b ((aZ fs c.a).getD [])) c.a)
 else fs
def used:FS->Nat
 | []=>0
 | p::l=>p.2.length+used l
def fF:List Value->List Ch->List Value
 | p::ps,c::cs=> .int .i64 c.kind:: .string c.a:: .string c.b::p::fF ps cs
 | _,_=>[]
def D9 (F:Nat->Prop) (w:World) (v:Value) (cs:List Ch):Prop:=
 ∃ ps:List Value,dX (λp c=>bQ F w p c.p) ps cs/\w.ownsRow 0 166 4 v cs.length (fF ps cs)/\∀ b,v.ownBlock=some b->F b
structure fW (F:Nat->Prop) (w:World) (d bn bs:Nat) (vl:Value) (m:DM):Prop where
 mq:w.heap[d]?=some (.cells #[.int .i64 m.aR,.map (some bn),.map (some bs),vl,.int .i64 m.cC,.bool m.bh] 135 (0,0))
 fd:F d
 XM:F bn
 US:F bs
 ne:bn≠bs
 aN:dm F w bn m.aN
 sure:dm F w bs m.sure
 aw:D9 F w vl m.aw
 lt:∀ b,F b->b <w.heap.size
def cZ (F:Nat->Prop) (w:World) (d:Nat) (m:DM):Prop:=∃ bn bs vl,fW F w d bn bs vl m
theorem D9.keep {F G:Nat->Prop} {w w':World} {v:Value} {cs:List Ch} (h:D9 F w v cs) (hk:aP F w w') (hr:∀ b,v.ownBlock=some b->w'.heap[b]?=w.heap[b]?) (pz:∀ b,F b->b <w.heap.size->G b):D9 G w' v cs:=by obtain ⟨ps,h1,h2,h3⟩:=h;refine ⟨ps,h1.mono (λp c yg=>yg.keep hk pz), ?_,λb hb=>pz b (h3 b hb) (h2.lt b hb).2⟩;obtain ⟨hl,hs⟩:=h2;refine ⟨hl,hs.imp id ?_⟩;rintro ⟨g,cap,gp,rfl,hg,hb,rest⟩;exact ⟨g,cap,gp,rfl,hg,(hr g rfl).trans hb,rest⟩
theorem fW.keep {F:Nat->Prop} {w w':World} {d bn bs:Nat} {vl:Value} {m:DM} (h:fW F w d bn bs vl m) (hk:∀ b,F b->w'.heap[b]?=w.heap[b]?):fW F w' d bn bs vl m:=by
 have hu:aP F w w':=λg cs fz hF hb=>(hk g hF).trans hb;refine ⟨(hk d h.fd).trans h.mq,h.fd,h.XM,h.US,h.ne,h.aN.keep (hk _ h.XM) hu (λ_ h _=>h),h.sure.keep (hk _ h.US) hu (λ_ h _=>h), ?_, ?_⟩
 ·obtain ⟨ps,h1,h2,h3⟩:=h.aw;exact h.aw.keep hu (λb hb=>hk b (h3 b hb)) (λ_ h _=>h)
 ·intro b hb;have:=h.lt b hb;have e:=hk b hb;rw [Array.getElem?_eq_getElem this] at e;exact (Array.getElem?_eq_some_iff.1 e).1
theorem cZ.keep {F:Nat->Prop} {w w':World} {d:Nat} {m:DM} (h:cZ F w d m) (hk:∀ b,F b->w'.heap[b]?=w.heap[b]?):cZ F w' d m:=by obtain ⟨bn,bs,vl,h⟩:=h;exact ⟨bn,bs,vl,h.keep hk⟩
theorem cZ.lt {F:Nat->Prop} {w:World} {d:Nat} {m:DM} (h:cZ F w d m):∀ b,F b->b <w.heap.size:=by obtain ⟨bn,bs,vl,h⟩:=h;exact h.lt
theorem cZ.keeps (h:cZ F w d m) (hk:ah G w w') (hn:∀ b,F b->¬G b):cZ F w' d m:=
 h.keep (λb hb=>hk.block b (h.lt b hb) (hn b hb))
theorem Le (w:World):(zeroValue 22).run Tryz.prog w= .ok (.slice none 0 0) w:=by kernel_rfl
structure YV (w:World) (d bn bs:Nat) (vl:Value) (m:DM):Prop where
 c0:w.cell? ⟨d,0,none⟩=some (.int .i64 m.aR)
 c1:w.cell? ⟨d,1,none⟩=some (.map (some bn))
 c2:w.cell? ⟨d,2,none⟩=some (.map (some bs))
 c3:w.cell? ⟨d,3,none⟩=some vl
 c4:w.cell? ⟨d,4,none⟩=some (.int .i64 m.cC)
 c5:w.cell? ⟨d,5,none⟩=some (.bool m.bh)
 f0:∀ i,w.frozen? ⟨d,i,none⟩=false
theorem fW.cells (h:fW F w d bn bs vl m):YV w d bn bs vl m:=
 ⟨ag h.mq rfl,ag h.mq rfl,ag h.mq rfl,ag h.mq rfl,ag h.mq rfl,ag h.mq rfl,λi=>cL h.mq i⟩
def aW (f:FuncId) (args:Array Value) (w:World) (v:Value) (w2:World):Prop:=bF f args w λe w'=>e= .returned v/\w2=w'
theorem gU {f:FuncId} {args:Array Value} {Q:Ending->World->Prop} (h:aW f args w v w2) (k:Q (.returned v) w2):bF f args w Q:=h.mono (by rintro e w' ⟨rfl,rfl⟩;exact k)
theorem aW.Z {f:FuncId} {args:Array Value} (h:aW f args w v w2):bF f args w λe w'=>e= .returned v/\w2=w':=h
def FC (m:DM):Int:=if m.bh then 5 else 0
theorem YW (w:World):bF 76 #[.pointer none] w λe w'=>e= .returned (.int .i64 2)/\w=w':=by go_enter Tryz.func76,Tryz.ntmps76;go_wp2;go_ret;exact ⟨rfl,rfl⟩
theorem YX (b:Bool) (c5:w.cell? ⟨d,5,none⟩=some (.bool b)):bF 76 #[.pointer (some ⟨d,0,none⟩)] w λe w'=>e= .returned (.int .i64 (if b then 5 else 0))/\w=w':=by
 cases b;all_goals
  go_enter Tryz.func76,Tryz.ntmps76;go_wp2;go_ret;exact ⟨rfl,rfl⟩
theorem Hw (h:cZ F w d m):bF 76 #[.pointer (some ⟨d,0,none⟩)] w λe w'=>e= .returned (.int .i64 (FC m))/\w=w':=by obtain ⟨bn,bs,vl,h⟩:=h;exact YX m.bh h.cells.c5
def bU (s:aD):Bool:=!s.toList.isEmpty && decide ((s.size:Int)<=160)
theorem Lf (s:aD) (w:World) (b c:Bool) (hb:s.toList.isEmpty=b) (hc:decide ((s.size:Int)<=160)=c):bF 104 #[.string s] w λe w'=>e= .returned (.bool (!b && c))/\w=w':=by
 go_enter Tryz.func104,Tryz.ntmps104;cases b <;>cases c;all_goals go_wp2
 all_goals go_ret
 all_goals exact ⟨by simp,rfl⟩
theorem FD (s:aD) (w:World):bF 104 #[.string s] w λe w'=>e= .returned (.bool (bU s))/\w=w':=Lf s w _ _ rfl rfl
def aF (m:DM) (n:aD):Int:=if m.bh then 5 else if (aZ m.aN n).isSome then 0 else 6
theorem Pd (w:World) (d bn:Nat) (n:aD) (v:Value) (b dn:Bool) (c1:w.cell? ⟨d,1,none⟩=some (.map (some bn))) (hl:Sem.run Tryz.prog (Instr.lookup 132 (Value.map (some bn)) (Value.string n) true) w=Result.ok (Value.tuple #[v,Value.bool b]) w) (mj:bF 76 #[.pointer (some ⟨d,0,none⟩)] w λe w'=>e= .returned (.int .i64 (if dn then 5 else 0))/\w=w'): bF 110 #[.pointer (some ⟨d,0,none⟩),.string n] w λe w'=>e= .returned (.int .i64 (if dn then 5 else if b then 0 else 6))/\w=w':=by
 cases dn <;>cases b;all_goals
  simp only [nP,if_false,if_true] at mj ⊢;have Hup:=ae mj;go_enter Tryz.func110,Tryz.ntmps110;go_wp2_with (go_at_call 76;refine Hup.Z.mono ?_;rintro e w' ⟨rfl,rfl⟩);go_ret;exact ⟨rfl,rfl⟩
theorem Pe (n:aD) (w:World):bF 110 #[.pointer none,.string n] w λe w'=>e= .returned (.int .i64 2)/\w=w':=by go_enter Tryz.func110,Tryz.ntmps110;go_wp2_with (go_at_call 76;refine (YW _).mono ?_;rintro e w' ⟨rfl,rfl⟩);go_ret;exact ⟨rfl,rfl⟩
theorem nu (h:dm F w b fs) (n:aD):∃ v,bQ F w v ((aZ fs n).getD [])/\(aZ fs n=none->v= .slice none 0 0)/\ ∀ c,(Instr.lookup 132 (.map (some b)) (.string n) c).run Tryz.prog w= .ok (if c then .tuple #[v,.bool (aZ fs n).isSome] else v) w:=
 h.look (P:=Tryz.prog) Tryz.underlying132 Tryz.underlying9 (Le w) n
theorem Hx (h:cZ F w d m) (n:aD):bF 110 #[.pointer (some ⟨d,0,none⟩),.string n] w λe w'=>e= .returned (.int .i64 (aF m n))/\w=w':=by have mj:=Hw h;obtain ⟨bn,bs,vl,h⟩:=h;obtain ⟨v,_,_,nw⟩:=nu h.aN n;exact Pd w d bn n v _ m.bh h.cells.c1 (nw true) mj
theorem fW.reset {m':DM} (h:fW F w d bn bs vl m) (hd:w'.heap[d]?=some (.cells #[.int .i64 m'.aR,.map (some bn),.map (some bs),vl,.int .i64 m'.cC,.bool m'.bh] 135 (0,0))) (dO:∀ b,b≠d->w'.heap[b]?=w.heap[b]?) (h1:m'.aN=m.aN) (h2:m'.sure=m.sure) (h3:m'.aw=m.aw):fW F w' d bn bs vl m':=by
 have hu:aP F w w':=λg cs fz hF hb=>by rw [dO g (λe=>by subst e;rw [h.mq] at hb;simp at hb)];exact hb
 have pB:bn≠d:=λe=>by subst e;exact h.aN.nr _ _ _ h.mq
 have nQ:bs≠d:=λe=>by subst e;exact h.sure.nr _ _ _ h.mq
 refine ⟨hd,h.fd,h.XM,h.US,h.ne, ?_, ?_, ?_, ?_⟩
 ·rw [h1];exact h.aN.keep (dO _ pB) hu (λ_ h _=>h)
 ·rw [h2];exact h.sure.keep (dO _ nQ) hu (λ_ h _=>h)
 ·rw [h3];obtain ⟨ps,k1,k2,k3⟩:=h.aw;refine h.aw.keep hu (λb hb=>dO b (λe=> ?_)) (λ_ h _=>h);subst e;rcases k2.2 with ⟨e,_⟩ | ⟨g,cap,gp,e,_,hg,_⟩
  ·rw [e] at hb;cases hb
  ·rw [e] at hb;cases hb;rw [h.mq] at hg;simp at hg
 ·intro b hb;by_cases e:b=d
  ·subst e;exact bm hd
  ·have:=h.lt b hb;have e':=dO b e;rw [Array.getElem?_eq_getElem this] at e';exact (Array.getElem?_eq_some_iff.1 e').1
def aS (m:DM):Int × DM:=if m.cC=0 then (5,{m with bh:=true}) else if 0 <m.cC then (0,{m with cC:=m.cC - 1}) else (0,m)
theorem Pf (w:World) (d:Nat) (f:Int) (v5:Value) (c4:w.cell? ⟨d,4,none⟩=some (.int .i64 f)) (c5:w.cell? ⟨d,5,none⟩=some v5) (f4:w.frozen? ⟨d,4,none⟩=false) (f5:w.frozen? ⟨d,5,none⟩=false) (hf:f<=9223372036854775807): bF 112 #[.pointer (some ⟨d,0,none⟩)] w λe w'=>e= .returned (.int .i64 (if f=0 then 5 else 0))/\w'=if f=0 then w.setCell ⟨d,5,none⟩ (.bool true) else if 0 <f then w.setCell ⟨d,4,none⟩ (.int .i64 (f - 1)) else w:=by
 by_cases h0:f=0
 ·subst h0;simp only [if_true];go_enter Tryz.func112,Tryz.ntmps112;go_wp2;go_ret;exact ⟨rfl,rfl⟩
 ·have hb:(f==0)=false:=by simpa using h0
  by_cases h1:0 <f
  ·have pg:(decide (f=0))=false:=by simpa using h0
   go_enter Tryz.func112,Tryz.ntmps112;go_wp2;go_ret;exact ⟨rfl,rfl⟩
  ·have pg:(decide (f=0))=false:=by simpa using h0
   go_enter Tryz.func112,Tryz.ntmps112;go_wp2;go_ret;exact ⟨rfl,rfl⟩
theorem jN:(Tryz.prog.info? 5).map (λi=>(i.zero,i.size,i.bytes))=some (some (.int .u8 0),1,1):=by kernel_rfl
theorem bQ.tight {a:Option Addr} (h:bQ F w (.slice a n c) l):bQ F w (.slice a l.length l.length) l:=by
 rcases h with ⟨e,YY⟩ | ⟨g,off,cap,cs,fz,e,hF,Pg,k1,k2,k3,k4⟩
 ·simp only [Value.slice.injEq] at e;obtain ⟨rfl,_,_⟩:=e;subst YY;exact bQ.nil _ _
 ·simp only [Value.slice.injEq] at e;obtain ⟨rfl,_,rfl⟩:=e;exact .inr ⟨g,off,l.length,cs,fz,rfl,hF,Pg,eQ _,by omega,by omega,k4⟩
theorem Ph (h:dm F w b fs) (x y:aD) {p:aH} (hp:bQ F w pv p) (hb:((aZ fs x).getD []).length+p.length<=140737488355328): ∃ w2,aW 77 #[.map (some b),.agg #[.int .i64 1,.string x,.string y,pv]] w (.tuple #[]) w2/\dm (λi=>F i\/w.heap.size<=i) w2 b (dY fs x ((aZ fs x).getD []++p))/\ah (λi=>i=b) w w2:=by
 obtain ⟨i0,hi,rS,iH,jO⟩:=info_parts jN;have Bh:=h.lt;have h1:dm F (w.alloc (.cells #[.int .i64 1,.string x,.string y,pv] 166)) b fs:=h.keep (Ao _ _ _ Bh) ((aP.refl _ _).alloc _) (λ_ h _=>h);have qT:bQ F (w.alloc (.cells #[.int .i64 1,.string x,.string y,pv] 166)).drew pv p:=hp.keep ((aP.refl F w).alloc _).drew (λ_ h _=>h);obtain ⟨v,hv,_,nw⟩:=nu h1 x;have hl:=nw false;simp only [nP,if_false] at hl;have Lg:bQ F (w.alloc (.cells #[.int .i64 1,.string x,.string y,pv] 166)).drew v ((aZ fs x).getD []):=hv.keep (aP.refl _ _).drew (λ_ h _=>h);generalize (aZ fs x).getD []=l at*;obtain ⟨va,vc,rfl,wY,pA⟩:=hv.aG;have AW:=np l.length;have Ro:(l.length:Int)<=(vc:Int):=by omega
 have fh:=Lg.tight;obtain ⟨v',w1,aT,hB,hk,_⟩:=sY (P:=Tryz.prog) 22 22 22 5 i0 _ Tryz.underlying22 Tryz.underlying22 hi rS iH jO rfl fh qT.reads rfl hb;have sB:ak w w1:=((ah.refl _ w).alloc _).trans hk.eD (λ_ _ e=>e);have h2:dm (λi=>F i\/w.heap.size<=i) w1 b fs:=h.keep (sB.block b Bh (λe=>e)) (aP.iq sB) (λ_ h _=> .inl h);obtain ⟨es,bD,YZ,h3⟩:=h2.update (P:=Tryz.prog) Tryz.underlying132 Tryz.underlying9 x (hB.keep (aP.refl _ _) (λi h _=>h.imp id (λe=>by simp at e;omega)));have ka:w1.cell? ⟨w.heap.size,1,none⟩=some (.string x)/\w1.cell? ⟨w.heap.size,3,none⟩=some pv:=by have:=hk.at (b:=w.heap.size) (o:= .cells #[.int .i64 1,.string x,.string y,pv] 166) (heap_alloc_new _ _) (λe=>e);exact ⟨ag this rfl,ag this rfl⟩
 have kb:(setBlock w1 b (.map es bD)).cell? ⟨w.heap.size,1,none⟩=some (.string x)/\(setBlock w1 b (.map es bD)).cell? ⟨w.heap.size,3,none⟩=some pv:=by
  have dO:w.heap.size≠b:=by omega
  exact ⟨(kK (w:=w1) (eg _ _ _ dO)).trans ka.1,(kK (w:=w1) (eg _ _ _ dO)).trans ka.2⟩
 have kA:=ae aT;have H3:=ae h3;refine ⟨_, ?_,H3.Z,(sB.mono (λ_ _ e=>e.elim)).setBlock (F:=λi=>i=b) (λ_=>rfl) _⟩;unfold aW;go_enter Tryz.func77,Tryz.ntmps77;go_wp2;go_region_held3 (λw'=>w'.cell? ⟨w.heap.size,1,none⟩=some (.string x)/\w'.cell? ⟨w.heap.size,3,none⟩=some pv) (first | exact ka | exact kb | go_keep) (first | (refine cP rfl _ _ _ _ rfl rfl rfl kA.Z ?_));go_wp2;go_end0;exact ⟨rfl,rfl⟩
theorem Pj (h:dm F w b fs) (x y:aD) (pv:Value): ∃ w2,aW 77 #[.map (some b),.agg #[.int .i64 0,.string x,.string y,pv]] w (.tuple #[]) w2/\dm (λi=>F i\/w.heap.size<=i) w2 b (dY fs x [])/\ah (λi=>i=b) w w2:=by have Bh:=h.lt;have h1:dm (λi=>F i\/w.heap.size<=i) (w.alloc (.cells #[.int .i64 0,.string x,.string y,pv] 166)) b fs:=h.keep (Ao _ _ _ Bh) ((aP.refl _ _).alloc _) (λ_ h _=> .inl h);obtain ⟨es,bD,YZ,h3⟩:=h1.update (P:=Tryz.prog) Tryz.underlying132 Tryz.underlying9 x (bQ.nil _ _);have H3:=ae h3;refine ⟨_, ?_,H3.Z,((ah.refl (λi=>i=b) w).alloc _).setBlock (λ_=>rfl) _⟩;unfold aW;go_enter Tryz.func77,Tryz.ntmps77;go_wp2;go_end0;exact ⟨rfl,rfl⟩
theorem Pk (h:dm F w b fs) (x y:aD) (pv:Value): ∃ w2,aW 77 #[.map (some b),.agg #[.int .i64 2,.string x,.string y,pv]] w (.tuple #[]) w2/\dm (λi=>F i\/w.heap.size<=i) w2 b (bV fs x)/\ah (λi=>i=b) w w2:=by have Bh:=h.lt;have h1:dm (λi=>F i\/w.heap.size<=i) (w.alloc (.cells #[.int .i64 2,.string x,.string y,pv] 166)) b fs:=h.keep (Ao _ _ _ Bh) ((aP.refl _ _).alloc _) (λ_ h _=> .inl h);obtain ⟨es,bD,Bi,h3⟩:=h1.delete (P:=Tryz.prog) Tryz.underlying132 Tryz.underlying9 x 9 0;have H3:=ae h3;refine ⟨_, ?_,H3.Z,((ah.refl (λi=>i=b) w).alloc _).setBlock (λ_=>rfl) _⟩;unfold aW;go_enter Tryz.func77,Tryz.ntmps77;go_wp2;go_end0;exact ⟨rfl,rfl⟩
theorem Pm (h:dm F w b fs) (x y:aD) (pv:Value) (XN:x≠y): ∃ w2,aW 77 #[.map (some b),.agg #[.int .i64 3,.string x,.string y,pv]] w (.tuple #[]) w2/\dm (λi=>F i\/w.heap.size<=i) w2 b (bV (dY fs y ((aZ fs x).getD [])) x)/\ah (λi=>i=b) w w2:=by
 have Bh:=h.lt;have h1:dm (λi=>F i\/w.heap.size<=i) (w.alloc (.cells #[.int .i64 3,.string x,.string y,pv] 166)) b fs:=h.keep (Ao _ _ _ Bh) ((aP.refl _ _).alloc _) (λ_ h _=> .inl h);obtain ⟨v,hv,_,nw⟩:=nu h1 x;have hl:=nw false;simp only [nP,if_false] at hl;obtain ⟨es,bD,YZ,h3⟩:=h1.update (P:=Tryz.prog) Tryz.underlying132 Tryz.underlying9 y hv;obtain ⟨es2,acD,Bi,h4⟩:=h3.delete (P:=Tryz.prog) Tryz.underlying132 Tryz.underlying9 x 9 0;have c1:(setBlock (w.alloc (.cells #[.int .i64 3,.string x,.string y,pv] 166)) b (.map es bD)).cell? ⟨w.heap.size,1,none⟩=some (.string x):=
  (kK (w:=w.alloc (.cells #[.int .i64 3,.string x,.string y,pv] 166)) (eg _ _ _ (by simp;omega))).trans (ag (heap_alloc_new _ _) rfl)
 have c2:(setBlock (w.alloc (.cells #[.int .i64 3,.string x,.string y,pv] 166)) b (.map es bD)).cell? ⟨w.heap.size,2,none⟩=some (.string y):=
  (kK (w:=w.alloc (.cells #[.int .i64 3,.string x,.string y,pv] 166)) (eg _ _ _ (by simp;omega))).trans (ag (heap_alloc_new _ _) rfl)
 have H4:=ae h4;have dO:(x.toList==y.toList)=false:=by rw [<-beq_toListBytes];exact Bool.eq_false_iff.2 (λe=>XN ((bytes_beq x y).1 e))
 have HD:=ae Bi;refine ⟨_, ?_,H4.Z,(((ah.refl (λi=>i=b) w).alloc _).setBlock (λ_=>rfl) _).setBlock (λ_=>rfl) _⟩;unfold aW;go_enter Tryz.func77,Tryz.ntmps77;go_wp2_with (at_delete;refine iu rfl _ _ _ _ rfl rfl rfl HD.Z ?_);go_end0;exact ⟨rfl,rfl⟩
theorem VA (h:dm F w b fs) (x:aD) (pv:Value): ∃ w2,aW 77 #[.map (some b),.agg #[.int .i64 3,.string x,.string x,pv]] w (.tuple #[]) w2/\dm (λi=>F i\/w.heap.size<=i) w2 b (dY fs x ((aZ fs x).getD []))/\ah (λi=>i=b) w w2:=by
 have Bh:=h.lt;have h1:dm (λi=>F i\/w.heap.size<=i) (w.alloc (.cells #[.int .i64 3,.string x,.string x,pv] 166)) b fs:=h.keep (Ao _ _ _ Bh) ((aP.refl _ _).alloc _) (λ_ h _=> .inl h);obtain ⟨v,hv,_,nw⟩:=nu h1 x;have hl:=nw false;simp only [nP,if_false] at hl;obtain ⟨es,bD,YZ,h3⟩:=h1.update (P:=Tryz.prog) Tryz.underlying132 Tryz.underlying9 x hv;have c1:(setBlock (w.alloc (.cells #[.int .i64 3,.string x,.string x,pv] 166)) b (.map es bD)).cell? ⟨w.heap.size,1,none⟩=some (.string x):=
  (kK (w:=w.alloc (.cells #[.int .i64 3,.string x,.string x,pv] 166)) (eg _ _ _ (by simp;omega))).trans (ag (heap_alloc_new _ _) rfl)
 have c2:(setBlock (w.alloc (.cells #[.int .i64 3,.string x,.string x,pv] 166)) b (.map es bD)).cell? ⟨w.heap.size,2,none⟩=some (.string x):=
  (kK (w:=w.alloc (.cells #[.int .i64 3,.string x,.string x,pv] 166)) (eg _ _ _ (by simp;omega))).trans (ag (heap_alloc_new _ _) rfl)
 have H3:=ae h3;refine ⟨_, ?_,H3.Z,((ah.refl (λi=>i=b) w).alloc _).setBlock (λ_=>rfl) _⟩;unfold aW;go_enter Tryz.func77,Tryz.ntmps77;go_wp2;go_end0;exact ⟨rfl,rfl⟩
def uU (fs:FS) (c:Ch):Prop:=(0<=c.kind/\c.kind<=3)/\(c.kind=1->((aZ fs c.a).getD []).length+c.p.length<=140737488355328)
theorem Hy (h:dm F w b fs) (c:Ch) (hp:bQ F w pv c.p) (hf:uU fs c): ∃ w2,aW 77 #[.map (some b),.agg #[.int .i64 c.kind,.string c.a,.string c.b,pv]] w (.tuple #[]) w2/\dm (λi=>F i\/w.heap.size<=i) w2 b (bW fs c)/\ah (λi=>i=b) w w2:=by
 obtain ⟨⟨k0,k3⟩,hs⟩:=hf;obtain ⟨k,x,y,p⟩:=c;simp only at*;have:k=0\/k=1\/k=2\/k=3:=by omega
 rcases this with rfl | rfl | rfl | rfl
 ·exact Pj h x y pv
 ·exact Ph h x y hp (hs rfl)
 ·exact Pk h x y pv
 ·by_cases e:x=y
  ·subst e;simpa [bW] using VA h x pv
  ·simpa [bW,e] using Pm h x y pv e
theorem Ea (w:World):bF 111 #[.slice none 0 0] w λe w'=>e= .returned (.slice none 0 0)/\w=w':=by have hq:=Lib.run_eql_slice_nil (P:=Tryz.prog) w 22 5 none 0 0 0 0 Tryz.underlying22;go_enter Tryz.func111,Tryz.ntmps111;go_wp2;go_ret;exact ⟨rfl,rfl⟩
theorem Eb (w w1:World) (a:Addr) (n c:Nat) (v':Value) (aT:(Builtin.append_ #[22,22] 22 #[.slice (some ⟨w.heap.size,0,none⟩) 0 0,.slice (some a) n c]).run Tryz.prog (w.alloc (.cells #[] 5))= .ok v' w1): bF 111 #[.slice (some a) n c] w λe w'=>e= .returned v'/\w1=w':=by have hq:=Lib.run_eql_slice_nil (P:=Tryz.prog) w 22 5 (some a) n c 0 0 Tryz.underlying22;have kA:=ae aT;go_enter Tryz.func111,Tryz.ntmps111;go_wp2_with (at_builtin;refine ao rfl _ _ _ _ rfl rfl rfl kA.Z ?_);go_ret;exact ⟨rfl,rfl⟩
theorem vQ (h:aC w v l) (hl:l.length<=140737488355328): ∃ v' w',aW 111 #[v] w v' w'/\bQ (λb=>w.heap.size<=b) w' v' l/\ak w w':=by
 obtain ⟨a,c,rfl,h1,h2⟩:=h.aG;cases a with
 | none=>
  rcases h with ⟨e,rfl⟩ | ⟨x,c',e,_⟩
  ·simp only [Value.slice.injEq] at e;obtain ⟨_,_,rfl⟩:=e;exact ⟨_,_,Ea w,bQ.nil _ _,ah.refl _ _⟩
  ·cases e
 | some a=>
  obtain ⟨i0,hi,rS,iH,jO⟩:=info_parts jN;have hn:bQ (λb=>b=w.heap.size) (w.alloc (.cells #[] 5)) (.slice (some ⟨w.heap.size,0,none⟩) 0 0) []:=
   .inr ⟨_,0,0,_,_,rfl,rfl,heap_alloc_new w _,eQ _,fC _,by simp,λi c hi=>by simp at hi⟩
  have hk:aC (w.alloc (.cells #[] 5)) (.slice (some a) l.length c) l:=h.keep ((ah.refl _ w).alloc _);obtain ⟨v',w1,aT,hB,bN,_⟩:=sY (P:=Tryz.prog) 22 22 22 5 i0 _ Tryz.underlying22 Tryz.underlying22 hi rS iH jO rfl hn hk rfl (by simpa using hl);refine ⟨v',w1,Eb w w1 a _ c v' aT, ?_,((ah.refl _ w).alloc _).trans bN (λ_ _ e=>e)⟩;rw [pj] at hB;exact hB.keep (aP.refl _ _) (λb hb _=>by rcases hb with hb | hb <;>(try simp at hb) <;>omega)
theorem Hz:(Tryz.prog.info? 166).map (λi=>(i.zero,i.size,i.bytes))=some (some (.agg #[.int .i64 0,.string ⟨#[]⟩,.string ⟨#[]⟩,.slice none 0 0]),4,64):=by kernel_rfl
theorem qY:∀ (ps:List Value) (cs:List Ch) (p:Value) (c:Ch),ps.length=cs.length->fF (ps++[p]) (cs++[c])=fF ps cs++[.int .i64 c.kind,.string c.a,.string c.b,p]
 | [],[],_,_,_=>rfl
 | q::ps,d::cs,p,c,h=>by simp [fF,qY ps cs p c (by simpa using h)]
 | [],_::_,_,_,h=>by simp at h
 | _::_,[],_,_,h=>by simp at h
theorem nz (w:World) (b:Nat) (c0 c1 c2 c3:Value) (h:w.heap[b]?=some (.cells #[c0,c1,c2,c3] 166 (0,0))): w.cell? ⟨b,0,none⟩=some c0/\w.cell? ⟨b,1,none⟩=some c1/\w.cell? ⟨b,2,none⟩=some c2/\w.cell? ⟨b,3,none⟩=some c3:=
 ⟨ag h rfl,ag h rfl,ag h rfl,ag h rfl⟩
theorem RU (w w1 w2 w3:World) (d bn:Nat) (k:Int) (x y:aD) (pv:Value) (la va:Option Addr) (ln lc vn vc:Nat) (Hs:aW 112 #[.pointer (some ⟨d,0,none⟩)] (w.alloc (.cells #[.int .i64 k,.string x,.string y,pv] 166)) (.int .i64 0) w1) (Hd:aW 77 #[.map (some bn),.agg #[.int .i64 k,.string x,.string y,pv]] w1.drew (.tuple #[]) w2) (a1:w1.cell? ⟨d,1,none⟩=some (.map (some bn))) (b1:w1.heap[w.heap.size]?=some (.cells #[.int .i64 k,.string x,.string y,pv] 166 (0,0))) (a2:w2.cell? ⟨d,3,none⟩=some (.slice la ln lc)) (b2:w2.heap[w.heap.size]?=some (.cells #[.int .i64 k,.string x,.string y,pv] 166 (0,0))) (VB:d <w2.heap.size) (aT:(Builtin.append_ #[133,133] 133 #[.slice la ln lc,.slice (some ⟨w2.heap.size,0,none⟩) 1 1]).run Tryz.prog (w2.alloc (.cells #[.int .i64 k,.string x,.string y,pv] 166)).drew= .ok (.slice va vn vc) w3) (a3:w3.cell? ⟨d,3,none⟩=some (.slice la ln lc)) (f3:w3.frozen? ⟨d,3,none⟩=false): aW 105 #[.pointer (some ⟨d,0,none⟩),.agg #[.int .i64 k,.string x,.string y,pv]] w (.int .i64 0) (w3.setCell ⟨d,3,none⟩ (.slice va vn vc)):=by
 unfold aW;obtain ⟨p10,p11,p12,mX⟩:=nz w1 _ _ _ _ _ b1;obtain ⟨p20,p21,p22,p23⟩:=nz w2 _ _ _ _ _ b2;have a4:(w2.alloc (.cells #[.int .i64 k,.string x,.string y,pv] 166)).cell? ⟨d,3,none⟩=some (.slice la ln lc):=(World.cell?_alloc_lt w2 _ ⟨d,3,none⟩ VB).trans a2;have kA:=ae aT;go_enter Tryz.func105,Tryz.ntmps105;go_wp2_with (go_at_call 112;refine Hs.Z.mono ?_;rintro e w' ⟨rfl,rfl⟩);go_still_tail 5,(by kernel_rfl);change wpList _ _ _ _ _ w1.drew;go_wp2_with (go_at_call 77;refine Hd.Z.mono ?_;rintro e w' ⟨rfl,rfl⟩);go_region_law (refine cP rfl _ _ _ _ rfl rfl rfl kA.Z ?_);all_goals
  go_wp2;go_ret;exact ⟨rfl,rfl⟩
theorem Pn (w w1:World) (d:Nat) (k:Int) (x y:aD) (pv:Value) (Hs:aW 112 #[.pointer (some ⟨d,0,none⟩)] (w.alloc (.cells #[.int .i64 k,.string x,.string y,pv] 166)) (.int .i64 5) w1): aW 105 #[.pointer (some ⟨d,0,none⟩),.agg #[.int .i64 k,.string x,.string y,pv]] w (.int .i64 5) w1:=by unfold aW;go_enter Tryz.func105,Tryz.ntmps105;go_wp2_with (go_at_call 112;refine Hs.Z.mono ?_;rintro e w' ⟨rfl,rfl⟩);go_ret;exact ⟨rfl,rfl⟩
def fX (F:Nat->Prop) (w w':World):Nat->Prop:=λb=>F b\/(w.heap.size<=b/\b <w'.heap.size)
theorem fW.wider (h:fW F w d bn bs vl m) (pz:∀ b,F b->G b) (aX:∀ b,G b->b <w.heap.size):fW G w d bn bs vl m:=
 ⟨h.mq,pz _ h.fd,pz _ h.XM,pz _ h.US,h.ne,h.aN.keep rfl (aP.refl _ _) (λb hb _=>pz b hb),h.sure.keep rfl (aP.refl _ _) (λb hb _=>pz b hb),h.aw.keep (aP.refl _ _) (λ_ _=>rfl) (λb hb _=>pz b hb),aX⟩
theorem Bj (h:fW F w d bn bs vl m) (hf:m.cC<=9223372036854775807): ∃ w',aW 112 #[.pointer (some ⟨d,0,none⟩)] w (.int .i64 (aS m).1) w'/\fW F w' d bn bs vl (aS m).2/\ah (λb=>b=d) w w'/\w'.heap.size=w.heap.size:=by
 have hr:=Pf w d m.cC _ h.cells.c4 h.cells.c5 (h.cells.f0 4) (h.cells.f0 5) hf;unfold aS;by_cases h0:m.cC=0
 ·simp only [h0,if_true] at hr ⊢;refine ⟨w.setCell ⟨d,5,none⟩ (.bool true),hr.mono (λe w' h=>⟨h.1,h.2.symm⟩),h.reset ?_ (λb hb=>kS _ _ _ _ hb) rfl rfl rfl,(ah.refl (λb=>b=d) w).setCell (p:=⟨d,5,none⟩) (λ_=>rfl) _,by simp⟩;rw [bf h.mq];simp [h0]
 ·by_cases h1:0 <m.cC
  ·simp only [h0,h1,if_true,if_false] at hr ⊢;refine ⟨w.setCell ⟨d,4,none⟩ (.int .i64 (m.cC - 1)),hr.mono (λe w' h=>⟨h.1,h.2.symm⟩),h.reset ?_ (λb hb=>kS _ _ _ _ hb) rfl rfl rfl,(ah.refl (λb=>b=d) w).setCell (p:=⟨d,4,none⟩) (λ_=>rfl) _,by simp⟩;rw [bf h.mq];simp
  ·simp only [h0,h1,if_false] at hr ⊢;exact ⟨w,hr.mono (λe w' h=>⟨h.1,h.2.symm⟩),h,ah.refl _ _,rfl⟩
def dB (m:DM) (c:Ch):Int × DM:=if m.cC=0 then (5,{m with bh:=true}) else (0,{(aS m).2 with aN:=bW m.aN c,aw:=m.aw++[c]})
theorem dp {e size:Nat} {xs:List Value} (h:w.ownsRow base e size v n xs) (hb:v.ownBlock=some b):∃ gp,w.heap[b]?=some (.cells gp e (0,0)):=by
 rcases h.2 with ⟨rfl,_⟩ | ⟨g,cap,gp,rfl,_,hg,_⟩
 ·cases hb
 ·cases hb;exact ⟨gp,hg⟩
theorem bA {e size:Nat} {xs:List Value} (h:w.ownsRow base e size v n xs):∃ a c,v= .slice a n c:=by
 rcases h.2 with ⟨rfl,rfl⟩ | ⟨g,cap,gp,rfl,_⟩
 ·exact ⟨_,_,rfl⟩
 ·exact ⟨_,_,rfl⟩
theorem qZ (h:cZ F w d m) (c:Ch) (hp:bQ F w pv c.p) (Lh:uU m.aN c) (hf:m.cC<=9223372036854775807) (hl:m.aw.length <1099511627776): ∃ w',aW 105 #[.pointer (some ⟨d,0,none⟩),.agg #[.int .i64 c.kind,.string c.a,.string c.b,pv]] w (.int .i64 (dB m c).1) w'/\cZ (fX F w w') w' d (dB m c).2/\ah F w w':=by
 obtain ⟨bn,bs,vl,h⟩:=h;have aX:=h.lt;have h0:fW F (w.alloc (.cells #[.int .i64 c.kind,.string c.a,.string c.b,pv] 166)) d bn bs vl m:=h.keep (λb hb=>Ao _ _ _ (aX b hb));have wZ:bQ F (w.alloc (.cells #[.int .i64 c.kind,.string c.a,.string c.b,pv] 166)) pv c.p:=hp.keep ((aP.refl F w).alloc _) (λ_ h _=>h);obtain ⟨w1,hs,h1,k1,z1⟩:=Bj h0 hf;have VB:=aX d h.fd;have z1':w1.heap.size=w.heap.size+1:=by rw [z1];simp
 by_cases hz:m.cC=0
 ·have e1:(aS m).1=5:=by simp [aS,hz]
  have e2:(aS m).2={m with bh:=true}:=by simp [aS,hz]
  rw [e1] at hs;rw [e2] at h1;refine ⟨w1, ?_, ?_, ?_⟩
  ·rw [show (dB m c).1=5 by simp [dB,hz]];exact Pn w w1 d c.kind c.a c.b pv hs
  ·rw [show (dB m c).2={m with bh:=true} by simp [dB,hz]];exact ⟨bn,bs,vl,h1.wider (λb hb=> .inl hb) (λb hb=>by rcases hb with hb | hb;exact h1.lt b hb;exact hb.2)⟩
  ·exact ((ah.refl F w).alloc _).trans k1 (λb _ e=>by subst e;exact h.fd)
 ·have e1:(aS m).1=0:=by simp only [aS,hz,if_false];split <;>rfl
  have e2:(aS m).2.aN=m.aN:=by simp only [aS,hz,if_false];split <;>rfl
  have e3:(aS m).2.aw=m.aw:=by simp only [aS,hz,if_false];split <;>rfl
  rw [e1] at hs;have Ro:w1.heap[w.heap.size]?=some (.cells #[.int .i64 c.kind,.string c.a,.string c.b,pv] 166 (0,0)):=k1.at (heap_alloc_new w _) (by omega);have qT:bQ F w1.drew pv c.p:=wZ.keep ((aP.jY k1 (λg cs fz _ e hg=>by subst e;rw [h0.mq] at hg;simp at hg)).drew) (λ_ h _=>h);have Aw:dm F w1.drew bn m.aN:=by rw [<-e2];exact h1.aN.keep rfl (aP.refl _ _).drew (λ_ h _=>h)
  obtain ⟨w2,hd,h2,k2⟩:=Hy Aw c qT Lh;have k2:=k2.eD;have z2:=k2.size;have pB:d≠bn:=λe=>by subst e;exact h.aN.nr _ _ _ h.mq
  have uw:w2.heap[d]?=_:=k2.at h1.mq pB;have ox:w2.heap[w.heap.size]?=_:=k2.at Ro (by have:=aX bn h.XM;omega);have qe:D9 F w2 vl m.aw:=by rw [<-e3];refine h1.aw.keep (aP.jY k2 (λg cs fz _ e hg=>by subst e;exact h1.aN.nr _ _ _ hg)) (λb hb=> ?_) (λ_ h _=>h);obtain ⟨_,_,hr,_⟩:=h1.aw;obtain ⟨gp,hg⟩:=dp hr hb;exact k2.block b (bm hg) (λe=>by subst e;exact h1.aN.nr _ _ _ hg)
  obtain ⟨ps,r1,r2,r3⟩:=qe;obtain ⟨i0,hi,rS,iH,jO⟩:=info_parts Hz;have r2':((w2.alloc (.cells #[.int .i64 c.kind,.string c.a,.string c.b,pv] 166)).drew).ownsRow 0 166 4 vl m.aw.length (fF ps m.aw):=(r2.alloc _).drew;have UU:pv.oneCell'=true:=by obtain ⟨a,cap,rfl,_⟩:=hp.aG;rfl
  obtain ⟨v',w3,aT,r4,hg3,_,jP⟩:=run_append_own_at (P:=Tryz.prog) ((w2.alloc (.cells #[.int .i64 c.kind,.string c.a,.string c.b,pv] 166)).drew) 0 133 133 166 i0 _ 4 64 Tryz.underlying133 hi rS iH jO rfl (by omega)
   vl m.aw.length (fF ps m.aw) r2' ⟨w2.heap.size,0,none⟩ 1 1 [.int .i64 c.kind,.string c.a,.string c.b,pv] rfl
   (λj u hu=>by rw [iV,fw];exact ag (fz:=(0,0)) (heap_alloc_new w2 (.cells #[.int .i64 c.kind,.string c.a,.string c.b,pv] 166)) (by simpa using hu))
   (by intro u hu;simp at hu;rcases hu with rfl | rfl | rfl | rfl <;>first | rfl | exact UU) (by unfold maxLen;omega) (by omega) (fC _)
  obtain ⟨va,vc,rfl⟩:=bA r4;obtain ⟨la,lc,rfl⟩:=bA r2;have fN:∀ b,(Value.slice la m.aw.length lc).ownBlock=some b->∃ gp,w2.heap[b]?=some (.cells gp 166 (0,0)):=λb hb=>dp r2 hb;have k3:ah (λb=>(Value.slice la m.aw.length lc).ownBlock=some b) w2 w3:=(((ah.refl _ w2).alloc _).drew).trans (ah.fH hg3) (λ_ _ h=>h);have FE:w3.heap[d]?=_:=k3.at uw (λe=>by obtain ⟨gp,hc⟩:=fN d e;rw [uw] at hc;simp at hc);have ku2:∀ G,aP G w2 w3:=λG=>aP.jY k3 (λg cs fz _ e hg=>by obtain ⟨gp,hc⟩:=fN g e;rw [hc] at hg;simp at hg);have aaR:=bm uw;have z3:=k3.size;have key:=RU w w1 w2 w3 d bn c.kind c.a c.b pv la va m.aw.length lc (m.aw.length+1) vc hs hd h1.cells.c1 Ro (ag uw rfl) ox aaR aT (ag FE rfl) (cL FE 3);refine ⟨w3.setCell ⟨d,3,none⟩ (.slice va (m.aw.length+1) vc), ?_, ?_, ?_⟩
  rotate_left
  ·refine ⟨bn,bs,.slice va (m.aw.length+1) vc, ?_⟩;have ku3:∀ G,aP G w3 (w3.setCell ⟨d,3,none⟩ (.slice va (m.aw.length+1) vc)):=λG=>(aP.refl G w3).setCell (λcs fz e=>by rw [FE] at e;simp at e) _;have ku1:∀ G,aP G w1 w2:=λG=>aP.jY k2 (λg cs fz _ e hg=>by subst e;exact h1.aN.nr _ _ _ hg);have dO:∀ b,b≠d->(w3.setCell ⟨d,3,none⟩ (.slice va (m.aw.length+1) vc)).heap[b]?=w3.heap[b]?:=λb hb=>kS _ _ _ _ hb;have eF:∀ b,F b->fX F w (w3.setCell ⟨d,3,none⟩ (.slice va (m.aw.length+1) vc)) b:=λb hb=> .inl hb;have nQ:bs≠d:=λe=>by subst e;exact h.sure.nr _ _ _ h.mq
   have RV:∀ b fs G,dm G w2 b fs->w3.heap[b]?=w2.heap[b]?:=λb fs G hm=>k3.block b hm.lt (λe=>by obtain ⟨gp,hc⟩:=fN b e;exact hm.nr _ _ _ hc);have og:dm F w2 bs m.sure:=by
    have e4:(aS m).2.sure=m.sure:=by simp only [aS,hz,if_false];split <;>rfl
    rw [<-e4];exact h1.sure.keep (k2.block bs h1.sure.lt (λe=>h.ne e.symm)) (ku1 F) (λ_ h _=>h)
   rw [show (dB m c).2={(aS m).2 with aN:=bW m.aN c,aw:=m.aw++[c]} by simp [dB,hz]];refine ⟨?_,eF d h.fd,eF bn h.XM,eF bs h.US,h.ne, ?_, ?_, ?_, ?_⟩
   ·rw [bf FE];simp
   ·exact h2.keep ((dO bn (Ne.symm pB)).trans (RV bn _ _ h2)) ((ku2 _).trans (ku3 _)) (λb hb ox=>by rcases hb with hb | hb;exact .inl hb;exact .inr ⟨by simp at hb;omega,by simp;omega⟩)
   ·have e4:(aS m).2.sure=m.sure:=by simp only [aS,hz,if_false];split <;>rfl
    simp only [e4];exact og.keep ((dO bs nQ).trans (RV bs _ _ og)) ((ku2 _).trans (ku3 _)) (λb hb _=>eF b hb)
   ·have cU:ps.length=m.aw.length:=r1.length;refine ⟨ps++[pv], ?_, ?_, ?_⟩
    ·refine dX.append (r1.mono (λp c' yg=>yg.keep ((ku2 _).trans (ku3 _)) (λb hb _=>eF b hb))) ⟨?_,trivial⟩;exact qT.keep (((ku1 F)).trans ((ku2 _).trans (ku3 _))) (λb hb _=>eF b hb)
    ·rw [qY _ _ _ _ cU];simp only [fS,iM,gN];refine ownsRow_setCell_other r4 (λe=> ?_) _;obtain ⟨gp,hc⟩:=dp r4 e;rw [FE] at hc;simp at hc
    ·intro b hb;have yt:=(r4.lt b hb).2;by_cases pn:b <w2.heap.size
     ·refine .inl (r3 b ?_);by_cases e:(Value.slice la m.aw.length lc).ownBlock=some b
      ·exact e
      ·obtain ⟨gp,hc⟩:=dp r4 hb;exfalso;rcases jP with h | h
       ·rw [<-h] at e;exact e hb
       ·rw [hb] at h;simp at h;omega
     ·exact .inr ⟨by omega,by simpa using yt⟩
   ·intro b hb;rcases hb with hb | hb
    ·have:=aX b hb;simp;omega
    ·exact hb.2
  ·refine ah.setCell ?_ (λ_=>h.fd) _;have a1:ah F w w1:=((ah.refl F w).alloc _).trans k1 (λb _ e=>by subst e;exact h.fd);have a2:ah F w w2:=a1.trans k2 (λb _ e=>by subst e;exact h.XM);exact a2.trans k3 (λb _ e=>r3 b e)
  ·rw [show (dB m c).1=0 by simp [dB,hz]];exact key
theorem ux (h:cZ F w d m):aW 76 #[.pointer (some ⟨d,0,none⟩)] w (.int .i64 (FC m)) w:=Hw h
theorem pC (s:aD) (w:World):aW 104 #[.string s] w (.bool (bU s)) w:=FD s w
theorem mC (h:cZ F w d m) (n:aD):aW 110 #[.pointer (some ⟨d,0,none⟩),.string n] w (.int .i64 (aF m n)) w:=Hx h n
def rT (F:Nat->Prop) (w:World) (d:Nat) (r:Int × DM) (e:Ending) (w':World):Prop:=
 e= .returned (.int .i64 r.1)/\cZ (fX F w w') w' d r.2/\ah F w w'
theorem cZ.ext (h:cZ F w d m):cZ (fX F w w) w d m:=by obtain ⟨bn,bs,vl,h⟩:=h;exact ⟨bn,bs,vl,h.wider (λb hb=> .inl hb) (λb hb=>by rcases hb with hb | hb;exact h.lt b hb;exact hb.2)⟩
theorem cZ.wider {F G:Nat->Prop} {w:World} {d:Nat} {m:DM} (h:cZ F w d m) (pz:∀ b,F b->G b) (aX:∀ b,G b->b <w.heap.size):cZ G w d m:=by obtain ⟨bn,bs,vl,h⟩:=h;exact ⟨bn,bs,vl,h.wider pz aX⟩
theorem cZ.Bk (h:cZ (fX (fX F w w1) w1 w2) w2 d m) (h1:w.heap.size<=w1.heap.size) (h2:w1.heap.size<=w2.heap.size):cZ (fX F w w2) w2 d m:=
 h.wider (λb hb=>by
  rcases hb with (hb | hb) | hb
  ·exact .inl hb
  ·exact .inr ⟨hb.1,by omega⟩
  ·exact .inr ⟨by omega,hb.2⟩) (λb hb=>by
  rcases hb with hb | hb
  ·exact h.lt b (.inl (.inl hb))
  ·exact hb.2)
theorem ah.Bk (k:ah F w w1) (h:ah (fX F w w1) w1 w2):ah F w w2:=
 k.trans h (λb hb e=>by rcases e with e | e;exact e;omega)
def aO (m:DM) (n:aD):Int × DM:=
 if m.bh then (5,m) else if !bU n then (1,m) else if (aZ m.aN n).isSome then (7,m) else if decide ((4096:Int)<=(m.aN.length:Int)) then (4,m) else dB m ⟨0,n,⟨#[]⟩,[]⟩
theorem Li (w w2:World) (d bn:Nat) (n:aD) (v:Value) (dn nm is fl:Bool) (r len:Int) (mj:aW 76 #[.pointer (some ⟨d,0,none⟩)] w (.int .i64 (if dn then 5 else 0)) w) (c1:w.cell? ⟨d,1,none⟩=some (.map (some bn))) (hl:Sem.run Tryz.prog (Instr.lookup 132 (Value.map (some bn)) (Value.string n) true) w=Result.ok (Value.tuple #[v,Value.bool is]) w) (qf:aW 104 #[.string n] w (.bool nm) w) (cU:(Builtin.len_ #[132] 3 #[.map (some bn)]).run Tryz.prog w= .ok (.int .i64 len) w) (pD:decide ((4096:Int)<=len)=fl) (hd:dn=false->nm=true->is=false->fl=false->aW 105 #[.pointer (some ⟨d,0,none⟩),.agg #[.int .i64 0,.string n,.string ⟨#[]⟩,.slice none 0 0]] w (.int .i64 r) w2): aW 41 #[.pointer (some ⟨d,0,none⟩),.string n] w (.int .i64 (if dn then 5 else if !nm then 1 else if is then 7 else if fl then 4 else r)) (if dn then w else if !nm then w else if is then w else if fl then w else w2):=by
 unfold aW;cases dn <;>cases nm <;>cases is <;>cases fl;all_goals
  simp only [nP,if_false,if_true,Bool.not_true,Bool.not_false,true_implies,reduceCtorEq,false_implies] at mj hd ⊢;have Hd:=ae hd;go_enter Tryz.func41,Tryz.ntmps41;go_wp2_with (first | (go_at_call 76;refine mj.Z.mono ?_;rintro e w' ⟨rfl,rfl⟩) | (go_at_call 104;refine qf.Z.mono ?_;rintro e w' ⟨rfl,rfl⟩) | (go_at_call 105;refine Hd.Z.Z.mono ?_;rintro e w' ⟨rfl,rfl⟩));go_ret;exact ⟨rfl,rfl⟩
theorem HJ (h:cZ F w d m) (n:aD) (hf:m.cC<=9223372036854775807) (hl:m.aw.length <1099511627776): ∃ w',aW 41 #[.pointer (some ⟨d,0,none⟩),.string n] w (.int .i64 (aO m n).1) w'/\cZ (fX F w w') w' d (aO m n).2/\ah F w w':=by
 have mj:=ux h;obtain ⟨w2,hd,h2,k2⟩:=qZ h ⟨0,n,⟨#[]⟩,[]⟩ (bQ.nil F w) ⟨by simp,by simp⟩ hf hl;have hi:=h;obtain ⟨bn,bs,vl,h⟩:=h;obtain ⟨v,_,_,nw⟩:=nu h.aN n;have key:=Li w w2 d bn n v m.bh (bU n) _ _ _ _ mj h.cells.c1 (nw true) (pC n w) (h.aN.len (P:=Tryz.prog) Tryz.underlying132 3) rfl (λ_ _ _ _=>hd);obtain ⟨w',hw'⟩:∃ w':World,w'=(if m.bh then w else if !bU n then w else if (aZ m.aN n).isSome then w else if decide ((4096:Int)<=(m.aN.length:Int)) then w else w2):=⟨_,rfl⟩;rw [<-hw'] at key;refine ⟨w', ?_, ?_, ?_⟩
 ·rw [show (aO m n).1=(if m.bh then 5 else if !bU n then 1 else if (aZ m.aN n).isSome then 7 else if decide ((4096:Int)<=(m.aN.length:Int)) then 4 else (dB m ⟨0,n,⟨#[]⟩,[]⟩).1) by unfold aO;simp only [apply_ite Prod.fst]];exact key
 ·subst hw';unfold aO;repeat' split
  all_goals first | exact hi.ext | exact h2
 ·subst hw';repeat' split
  all_goals first | exact ah.refl _ _ | exact k2
def aE (m:DM) (n:aD):Int × DM:=if aF m n=0 then dB m ⟨2,n,⟨#[]⟩,[]⟩ else (aF m n,m)
theorem Lj (w w2:World) (d:Nat) (n:aD) (t r:Int) (gK:aW 110 #[.pointer (some ⟨d,0,none⟩),.string n] w (.int .i64 t) w) (hd:t=0->aW 105 #[.pointer (some ⟨d,0,none⟩),.agg #[.int .i64 2,.string n,.string ⟨#[]⟩,.slice none 0 0]] w (.int .i64 r) w2): aW 45 #[.pointer (some ⟨d,0,none⟩),.string n] w (.int .i64 (if t=0 then r else t)) (if t=0 then w2 else w):=by
 unfold aW;by_cases ht:t=0
 ·subst ht;simp only [if_true,true_implies] at hd ⊢;have Hd:=ae hd;go_enter Tryz.func45,Tryz.ntmps45;go_wp2_with (first | (go_at_call 110;refine gK.Z.mono ?_;rintro e w' ⟨rfl,rfl⟩) | (go_at_call 105;refine Hd.Z.Z.mono ?_;rintro e w' ⟨rfl,rfl⟩));go_ret;exact ⟨rfl,rfl⟩
 ·rw [if_neg ht,if_neg ht];have hb:(t==0)=false:=by simpa using ht
  go_enter Tryz.func45,Tryz.ntmps45;go_wp2_with (first | (go_at_call 110;refine gK.Z.mono ?_;rintro e w' ⟨rfl,rfl⟩));go_ret;exact ⟨rfl,rfl⟩
theorem Ia (h:cZ F w d m) (n:aD) (hf:m.cC<=9223372036854775807) (hl:m.aw.length <1099511627776): ∃ w',aW 45 #[.pointer (some ⟨d,0,none⟩),.string n] w (.int .i64 (aE m n).1) w'/\cZ (fX F w w') w' d (aE m n).2/\ah F w w':=by
 obtain ⟨w2,hd,h2,k2⟩:=qZ h ⟨2,n,⟨#[]⟩,[]⟩ (bQ.nil F w) ⟨by simp,by simp⟩ hf hl;have key:=Lj w w2 d n (aF m n) _ (mC h n) (λ_=>hd);unfold aE;by_cases ht:aF m n=0
 ·simp only [ht,if_true] at key ⊢;exact ⟨w2,key,h2,k2⟩
 ·simp only [ht,if_false] at key ⊢;exact ⟨w,key,h.ext,ah.refl _ _⟩
def gV (l:aH) (at_ n:Int):aH:=(l.drop at_.toNat).take n.toNat
theorem bQ.from {a:Option Addr} (h:bQ F w (.slice a n c) l) (i j:Nat) (hi:i+j<=l.length) (hc:¬c=i): bQ F w (.slice (a.map (λx=>x.add i)) j (c - i)) ((l.drop i).take j):=by
 have hl:((l.drop i).take j).length=j:=by simp;omega
 rcases h with ⟨e,rfl⟩ | ⟨g,off,cap,cs,fz,e,hF,hb,h1,h2,h3,h4⟩
 ·simp only [Value.slice.injEq] at e;obtain ⟨rfl,rfl,rfl⟩:=e;simp at hi;omega
 ·simp only [Value.slice.injEq] at e;obtain ⟨rfl,rfl,rfl⟩:=e;refine .inr ⟨g,off+i,c - i,cs,fz, ?_,hF,hb,by omega,by omega,by omega,λk x hk=> ?_⟩
  ·rw [hl];simp only [Ar,iV]
  ·rw [Bc] at hk;split at hk
   ·rw [O6] at hk;rw [Nat.add_assoc];exact h4 _ _ hk
   ·cases hk
theorem bQ.N3 {a:Option Addr} (h:bQ F w (.slice a n c) l):bQ F w (.slice a 0 0) []:=by
 rcases h with ⟨e,rfl⟩ | ⟨g,off,cap,cs,fz,e,hF,hb,h1,h2,h3,h4⟩
 ·simp only [Value.slice.injEq] at e;obtain ⟨rfl,_,_⟩:=e;exact bQ.nil _ _
 ·simp only [Value.slice.injEq] at e;obtain ⟨rfl,_,_⟩:=e;exact .inr ⟨g,off,0,cs,fz,rfl,hF,hb,eQ _,fC _,by omega,λi c hi=>by simp at hi⟩
theorem Ib (w w2:World) (d bn:Nat) (n:aD) (at_ k:Int) (i j:Nat) (va:Option Addr) (vn vc:Nat) (v2:Value) (gK:aW 110 #[.pointer (some ⟨d,0,none⟩),.string n] w (.int .i64 0) w) (c1:w.cell? ⟨d,1,none⟩=some (.map (some bn))) (hl:Sem.run Tryz.prog (Instr.lookup 132 (Value.map (some bn)) (Value.string n) false) w=Result.ok (.slice va vn vc) w) (h0:0<=at_) (sB:0<=k) (UW:(if (vn:Int) <at_ then (vn:Int) else at_)=(i:Int)) (Y0:(if ((vn - i:Nat):Int) <k then ((vn - i:Nat):Int) else k)=(j:Int)) (lf:(vn:Int)<=vc) (hi:(i:Int)<=vn) (hi0:(0:Int)<=i) (hj:(j:Int)<=((vc - i:Nat):Int)) (hj0:(0:Int)<=j) (hci:¬vc=i) (hc:aW 111 #[.slice (Option.map (λx=>x.add i) va) j (vc - i)] w v2 w2): aW 55 #[.pointer (some ⟨d,0,none⟩),.string n,.int .i64 at_,.int .i64 k] w (.tuple #[v2,.int .i64 0]) w2:=by unfold aW;go_enter Tryz.func55,Tryz.ntmps55;go_wp2_with (first | (go_at_call 110;refine gK.Z.mono ?_;rintro e w' ⟨rfl,rfl⟩) | (go_at_call 111;refine hc.Z.mono ?_;rintro e w' ⟨rfl,rfl⟩));go_ret2;exact ⟨rfl,rfl⟩
theorem Ec (w w2:World) (d bn:Nat) (n:aD) (at_ k:Int) (va:Option Addr) (i:Nat) (v2:Value) (gK:aW 110 #[.pointer (some ⟨d,0,none⟩),.string n] w (.int .i64 0) w) (c1:w.cell? ⟨d,1,none⟩=some (.map (some bn))) (hl:Sem.run Tryz.prog (Instr.lookup 132 (Value.map (some bn)) (Value.string n) false) w=Result.ok (.slice va i i) w) (h0:0<=at_) (sB:0<=k) (UW:(if (i:Int) <at_ then (i:Int) else at_)=(i:Int)) (Y0:(if (0:Int) <k then (0:Int) else k)=0) (hi0:(0:Int)<=i)  (hc:aW 111 #[.slice va 0 0] w v2 w2): aW 55 #[.pointer (some ⟨d,0,none⟩),.string n,.int .i64 at_,.int .i64 k] w (.tuple #[v2,.int .i64 0]) w2:=by unfold aW;go_enter Tryz.func55,Tryz.ntmps55;go_wp2_with (first | (go_at_call 110;refine gK.Z.mono ?_;rintro e w' ⟨rfl,rfl⟩) | (go_at_call 111;refine hc.Z.mono ?_;rintro e w' ⟨rfl,rfl⟩));go_ret2;exact ⟨rfl,rfl⟩
theorem Ic (w:World) (d:Nat) (n:aD) (at_ k t:Int) (gK:aW 110 #[.pointer (some ⟨d,0,none⟩),.string n] w (.int .i64 t) w) (ht:(t==0)=false): aW 55 #[.pointer (some ⟨d,0,none⟩),.string n,.int .i64 at_,.int .i64 k] w (.tuple #[.slice none 0 0,.int .i64 t]) w:=by unfold aW;go_enter Tryz.func55,Tryz.ntmps55;go_wp2_with (first | (go_at_call 110;refine gK.Z.mono ?_;rintro e w' ⟨rfl,rfl⟩));go_ret2;exact ⟨rfl,rfl⟩
theorem Ie (w:World) (d:Nat) (n:aD) (at_ k:Int) (gK:aW 110 #[.pointer (some ⟨d,0,none⟩),.string n] w (.int .i64 0) w) (hn:at_ <0\/k <0): aW 55 #[.pointer (some ⟨d,0,none⟩),.string n,.int .i64 at_,.int .i64 k] w (.tuple #[.slice none 0 0,.int .i64 1]) w:=by
 unfold aW;by_cases ha:at_ <0
 ·clear hn;go_enter Tryz.func55,Tryz.ntmps55;go_wp2_with (first | (go_at_call 110;refine gK.Z.mono ?_;rintro e w' ⟨rfl,rfl⟩));go_ret2;exact ⟨rfl,rfl⟩
 ·have hk:k <0:=by omega
  go_enter Tryz.func55,Tryz.ntmps55;go_wp2_with (first | (go_at_call 110;refine gK.Z.mono ?_;rintro e w' ⟨rfl,rfl⟩));go_ret2;exact ⟨rfl,rfl⟩
def er (m:DM) (n:aD) (at_ k:Int):Int:=if aF m n=0 then (if at_ <0\/k <0 then 1 else 0) else aF m n
def di (m:DM) (n:aD) (at_ k:Int):aH:=if aF m n=0 then (if at_ <0\/k <0 then [] else gV ((aZ m.aN n).getD []) at_ k) else []
theorem Ed (h:cZ F w d m) (n:aD) (at_ k:Int) (cU:((aZ m.aN n).getD []).length<=140737488355328): ∃ v w',aW 55 #[.pointer (some ⟨d,0,none⟩),.string n,.int .i64 at_,.int .i64 k] w (.tuple #[v,.int .i64 (er m n at_ k)]) w'/\bQ (λb=>w.heap.size<=b) w' v (di m n at_ k)/\ak w w':=by
 have gK:=mC h n;unfold er di;by_cases ht:aF m n=0
 ·simp only [ht,if_true];rw [ht] at gK;by_cases qk:at_ <0\/k <0
  ·simp only [qk,if_true];exact ⟨_,_,Ie w d n at_ k gK qk,bQ.nil _ _,ah.refl _ _⟩
  ·simp only [qk,if_false];obtain ⟨bn,bs,vl,h⟩:=h;obtain ⟨v,hB,_,nw⟩:=nu h.aN n;have hl:=nw false;simp only [nP,if_false] at hl;generalize (aZ m.aN n).getD []=l at*;obtain ⟨va,vc,rfl,h1,h2⟩:=hB.aG;unfold maxLen at h2;by_cases hc:vc=(if (l.length:Int) <at_ then (l.length:Int) else at_).toNat
   ·have zk:vc=l.length:=by split at hc <;>omega
    subst zk;obtain ⟨v2,w2,hr,uV,cg⟩:=vQ hB.N3.reads (by simp);refine ⟨v2,w2,Ec w w2 d bn n at_ k va l.length v2 gK h.cells.c1 hl (by omega) (by omega) (by split <;>omega) (by split <;>omega) (by omega) hr, ?_,cg⟩;have:gV l at_ k=[]:=by unfold gV;rw [CX (by split at hc <;>omega)];simp
    rw [this];exact uV
   ·have dI:∀ i:Nat,i=(if (l.length:Int) <at_ then (l.length:Int) else at_).toNat->i<=l.length:=by intro i hi;split at hi <;>omega
    obtain ⟨i,hi⟩:∃ i:Nat,i=(if (l.length:Int) <at_ then (l.length:Int) else at_).toNat:=⟨_,rfl⟩;have Y1:=dI i hi;rw [<-hi] at hc;obtain ⟨j,hj⟩:∃ j:Nat,j=(if ((l.length - i:Nat):Int) <k then ((l.length - i:Nat):Int) else k).toNat:=⟨_,rfl⟩;have FF:i+j<=l.length:=by split at hj <;>omega
    obtain ⟨v2,w2,hr,uV,cg⟩:=vQ (hB.from i j FF hc).reads (by simp;omega);refine ⟨v2,w2,Ib w w2 d bn n at_ k i j va l.length vc v2 gK h.cells.c1 hl (by omega) (by omega) (by split at hi <;>(split <;>omega)) (by split at hj <;>(split <;>omega)) (by omega) (by omega) (by omega) (by omega) (by omega) hc hr, ?_,cg⟩;have:gV l at_ k=(l.drop i).take j:=by
     unfold gV;by_cases h3:(l.length:Int) <at_
     ·rw [if_pos h3] at hi;rw [CX (by omega:l.length<=at_.toNat),CX (by omega:l.length<=i)];simp
     ·rw [if_neg h3] at hi;rw [<-hi];by_cases h4:((l.length - i:Nat):Int) <k
      ·rw [if_pos h4] at hj;rw [sU (by simp;omega),sU (by simp;omega)]
      ·rw [if_neg h4] at hj;rw [<-hj]
    rw [this];exact uV
 ·simp only [ht,if_false];exact ⟨_,_,Ic w d n at_ k _ gK (by simpa using ht),bQ.nil _ _,ah.refl _ _⟩
def Ig:Value->Nat | .slice _ n _=>n | _=>0
def gW:List MapEntry->Array Nat->Nat
 | [],_=>0
 | x::l,seen=>(if seen.contains x.born then Ig x.val else 0)+gW l seen
theorem vw (seen:Array Nat) (b:Nat):∀ (es:List MapEntry),b ∉ es.map (·.born)->gW es (seen.push b)=gW es seen
 | [],_=>rfl
 | x::l,h=>by
  have hx:(x.born==b)=false:=by rw [Bool.eq_false_iff];intro hc;exact h (List.mem_cons.2 (Or.inl (beq_iff_eq.1 hc).symm))
  simp only [gW,contains_push,hx,Bool.or_false,vw seen b l (λe=>h (List.mem_cons.2 (Or.inr e)))]
theorem xd (seen:Array Nat) (e:MapEntry) (hs:seen.contains e.born=false):∀ (es:List MapEntry),(es.map (·.born)).Nodup->e ∈ es->gW es (seen.push e.born)=gW es seen+Ig e.val
 | x::l,hn,he=>by
  have hn':x.born ∉ l.map (·.born)/\(l.map (·.born)).Nodup:=List.nodup_cons.1 hn;rcases List.mem_cons.1 he with rfl | h
  ·simp only [gW,contains_push,hs,beq_self_eq_true,Bool.or_true,if_true,nP,if_false,vw seen e.born l hn'.1];omega
  ·have hx:(x.born==e.born)=false:=by rw [Bool.eq_false_iff];intro hc;exact hn'.1 (by rw [beq_iff_eq.1 hc];exact List.mem_map.2 ⟨e,h,rfl⟩)
   simp only [gW,contains_push,hx,Bool.or_false,xd seen e hs l hn'.2 h];omega
theorem vR (seen:Array Nat):∀ (es:List MapEntry),gW es seen<=(es.map λe=>Ig e.val).sum
 | []=>eQ _
 | x::l=>by have:=vR seen l;simp only [gW,kz,List.sum_cons];split <;>omega
theorem xe (seen:Array Nat):∀ (es:List MapEntry),(∀ x ∈ es,seen.contains x.born=true)->gW es seen=(es.map λe=>Ig e.val).sum
 | [],_=>rfl
 | x::l,h=>by simp only [gW,h x (List.mem_cons.2 (Or.inl rfl)),if_true,kz,List.sum_cons,xe seen l (λy hy=>h y (List.mem_cons.2 (Or.inr hy)))]
theorem xf:∀ (es:List MapEntry),gW es #[]=0
 | []=>rfl
 | x::l=>by
  have:(#[]:Array Nat).contains x.born=false:=by simp
  simp only [gW,this,nP,if_false,xf l]
theorem Po {es:Array MapEntry} {seen:Array Nat} (h:(leftOf es seen).size=0):∀ x ∈ es.toList,seen.contains x.born=true:=by
 intro x hx;have h2:leftOf es seen=#[]:=Array.eq_empty_of_size_eq_zero h;unfold leftOf at h2;rw [Array.filter_eq_empty_iff] at h2;have h3:=h2 x (Array.mem_toList_iff.1 hx);cases hc:seen.contains x.born with
 | true=>rfl
 | false=>rw [hc] at h3;simp at h3
theorem Ee {l:FS} (h:l.Perm fs):used l=used fs:=by
 induction h with
 | nil=>rfl
 | cons x _ ih=>simp [used,ih]
 | swap x y l=>simp [used];omega
 | trans _ _ h1 h2=>exact h1.trans h2
theorem Ih {F:Nat->Prop} {w:World}:∀ {es:List MapEntry} {l:FS},dX (wW F w) es l->(es.map λe=>Ig e.val).sum=used l
 | [],[],_=>rfl
 | e::es,p::l,h=>by
  obtain ⟨a,c,hv,_⟩:=h.1.2.aG;have e1:=Ih h.2;have e2:Ig e.val=p.2.length:=by rw [hv];rfl
  simp only [kz,List.sum_cons,used,e2];rw [<-e1]
 | [],_::_,h=>h.elim
 | _::_,[],h=>h.elim
def bH (w:World) (v:Value) (e:Ending) (w':World):Prop:=e= .returned v/\ak w w'
theorem RX (w:World) (d bn:Nat) (es:Array MapEntry) (bD:Nat) (N4:Nat) (c1:w.cell? ⟨d,1,none⟩=some (.map (some bn))) (hb:w.heap[bn]?=some (.map es bD)) (hs:Stamped es bD) (hv:∀ e ∈ es.toList,∃ a n c,e.val= .slice a n c) (ht:(es.toList.map λe=>Ig e.val).sum=N4) (htb:N4<=4611686018427387904): bF 96 #[.pointer (some ⟨d,0,none⟩)] w (bH w (.int .i64 (N4:Int))):=by
 have acE:=run_range_map (P:=Tryz.prog) w 132 9 22 bn es bD Tryz.underlying132 hb;have Bh:=bm hb;have HS:=ae hs;have HV:=ae hv;have HT:=ae ht;go_enter Tryz.func96,Tryz.ntmps96;go_wp2;go_loopw [3] (λn wr=>∃ seen:Array Nat,∃ c0:Nat,wr.heap[w.heap.size]?=some (.mapIter (some bn) bD seen c0)/\bD<=c0/\n= .int .i64 ((gW es.toList seen:Nat):Int)/\ak w wr) (λ_ wr=>(leftOf es (wr.iterSeen w.heap.size)).size);case atStart=>exact ⟨#[],bD,heap_alloc_new w _,eQ _,by rw [xf];rfl,(ah.refl _ w).alloc _⟩
 case round=>
  obtain ⟨seen,c0,hr,xg,rfl,hk⟩:=hrel;have pg:wr.heap[bn]?=some (.map es bD):=hk.at hb (λe=>e);have lf:=vR seen es.toList;rw [HT.Z] at lf;rcases run_next_at (P:=Tryz.prog) wr 0 w.heap.size bn bD c0 seen es bD hr pg HS.Z.1 xg with ⟨hz,aT⟩ | ⟨e,he,w1,fh,aT⟩
  ·have cK:gW es.toList seen=N4:=by rw [<-HT.Z];exact xe seen _ (Po hz)
   have acF:=ae cK;go_wp2;go_ret;refine ⟨?_,hk⟩;rw [acF.Z];rfl
  ·obtain ⟨pT,hns⟩:=mem_left he;obtain ⟨va,vn,vc,hval⟩:=HV.Z e pT;have aaS:w1.heap=wr.heap:=by rcases fh with rfl | rfl <;>rfl
   have bN:ak w w1:=by rcases fh with rfl | rfl <;>first | exact hk | exact hk.drew
   have CP:(setBlock w1 w.heap.size (.mapIter (some bn) bD (seen.push e.born) bD)).heap[w.heap.size]?=some (.mapIter (some bn) bD (seen.push e.born) bD):=fg (by rw [aaS];exact hr) _;have ox:(setBlock w1 w.heap.size (.mapIter (some bn) bD (seen.push e.born) bD)).heap[bn]?=some (.map es bD):=by rw [eg _ _ _ (by omega),aaS];exact pg
   have RY:=run_entry_at (P:=Tryz.prog) _ w.heap.size bn bD seen es bD e CP ox pT HS.Z.2.1;have vy:=xd seen e hns es.toList HS.Z.2.1 pT;have VC:=vR (seen.push e.born) es.toList;rw [HT.Z,vy] at VC;have cg:ak w (setBlock w1 w.heap.size (.mapIter (some bn) bD (seen.push e.born) bD)):=bN.setBlock (λh=>by omega) _;have RZ:=left_shrinks es seen e he;rw [hval] at aT RY vy VC;simp only [Ig] at vy VC;have HR:=ae hr;have uW:=ae CP;have HP:=ae vy;have hs0:(0:Int)<=(gW es.toList seen:Nat):=by omega
   have hn0:(0:Int)<=(vn:Nat):=by omega
   have Aw:((gW es.toList seen:Nat):Int)+(vn:Nat)<=4611686018427387904:=by omega
   go_wp2;go_roundw;case rel=>exact ⟨seen.push e.born,bD,uW.Z,eQ _,by rw [HP.Z];push_cast;rfl,cg⟩
   case measure=>simp only [World.iterSeen,HR.Z,uW.Z];exact RZ
theorem Bl (h:cZ F w d m) (hu:used m.aN<=4611686018427387904):bF 96 #[.pointer (some ⟨d,0,none⟩)] w (bH w (.int .i64 (used m.aN:Int))):=by obtain ⟨bn,bs,vl,h⟩:=h;have c1:=h.cells.c1;obtain ⟨es,bD,l,hb,hs,hr,hp⟩:=h.aN;refine RX w d bn es bD _ c1 hb hs (λe he=> ?_) ((Ih hr).trans (Ee hp)) hu;obtain ⟨i,hi⟩:=List.mem_iff_getElem?.1 he;obtain ⟨p,_,hp⟩:=hr.get hi;obtain ⟨a,c,hv,_⟩:=hp.2.aG;exact ⟨a,_,c,hv⟩
theorem cZ.quiet (h:cZ F w d m) (hk:ak w w1):cZ (fX F w w1) w1 d m:=
 (h.keeps hk (λ_ _ e=>e)).wider (λb hb=> .inl hb) (λb hb=>by
  rcases hb with hb | hb
  ·have:=h.lt b hb;have:=hk.size;omega
  ·exact hb.2)
theorem ah.any (hk:ak w w1):ah F w w1:=hk.mono (λ_ _ e=>e.elim)
def aM (m:DM) (n:aD) (p:aH):Int × DM:=
 if aF m n=0 then (if (1048576:Int) <(p.length:Int) then (8,m) else if m.aR - (used m.aN:Int) <(p.length:Int) then (4,m) else dB m ⟨1,n,⟨#[]⟩,p⟩) else (aF m n,m)
theorem Ll (w:World) (d:Nat) (n:aD) (pv:Value) (t:Int) (gK:aW 110 #[.pointer (some ⟨d,0,none⟩),.string n] w (.int .i64 t) w) (ht:(t==0)=false): aW 48 #[.pointer (some ⟨d,0,none⟩),.string n,pv] w (.int .i64 t) w:=by unfold aW;go_enter Tryz.func48,Tryz.ntmps48;go_wp2_with (first | (go_at_call 110;refine gK.Z.mono ?_;rintro e w' ⟨rfl,rfl⟩));go_ret;exact ⟨rfl,rfl⟩
theorem Ii (w:World) (d:Nat) (n:aD) (a:Option Addr) (l c:Nat) (gK:aW 110 #[.pointer (some ⟨d,0,none⟩),.string n] w (.int .i64 0) w) (hl:(1048576:Int) <(l:Int)): aW 48 #[.pointer (some ⟨d,0,none⟩),.string n,.slice a l c] w (.int .i64 8) w:=by unfold aW;go_enter Tryz.func48,Tryz.ntmps48;go_wp2_with (first | (go_at_call 110;refine gK.Z.mono ?_;rintro e w' ⟨rfl,rfl⟩));go_ret;exact ⟨rfl,rfl⟩
theorem FG (h:cZ F w d m) (n:aD) {p:aH} (hp:aC w pv p) (AX:0<=m.aR) (bM:m.aR<=67108864) (hu:(used m.aN:Int)<=m.aR) (hg:((aZ m.aN n).getD []).length<=used m.aN) (hf:m.cC<=9223372036854775807) (hl:m.aw.length <1099511627776): bF 48 #[.pointer (some ⟨d,0,none⟩),.string n,pv] w (rT F w d (aM m n p)):=by
 have gK:=mC h n;obtain ⟨pa,pc,rfl,yg,XO⟩:=hp.aG;unfold aM;by_cases ht:aF m n=0
 ·simp only [ht,if_true];rw [ht] at gK;by_cases Ef:(1048576:Int) <(p.length:Int)
  ·simp only [Ef,if_true];refine gU (Ii w d n pa p.length pc gK Ef).Z ?_;exact ⟨rfl,h.ext,ah.refl _ _⟩
  ·simp only [Ef,if_false];have hus:=Bl (h.keep (w':=w.drew) (λ_ _=>rfl)) (by omega);obtain ⟨r,hr⟩:=cE (m.aR);obtain ⟨u,hu'⟩:=cE (used m.aN);have c0:w.cell? ⟨d,0,none⟩=some (.int .i64 r):=by obtain ⟨bn,bs,vl,h⟩:=h;rw [hr];exact h.cells.c0
   have VB:d <w.heap.size:=by obtain ⟨bn,bs,vl,h⟩:=h;exact h.lt d h.fd
   rw [<-hu'] at hus hu hg;rw [<-hr,<-hu'];have aaT:IntKind.i64.wrap (r - (u:Int))=r - (u:Int):=qi _ (by omega);have H:=ae h;have HP:=ae hp;have HW:=ae hg;clear h hp ht hr hu' hg;have ck:∀ w1:World,ak w.drew w1->w1.cell? ⟨d,0,none⟩=some (.int .i64 r):=λw1 hk=>(kK (w:=w.drew) (hk.block d VB (λe=>e))).trans c0;have CK:=ae ck;clear ck;by_cases Ij:r - (u:Int) <(p.length:Int)
   ·simp only [Ij,if_true];go_enter Tryz.func48,Tryz.ntmps48;go_wp2_with (first | (go_at_call 110;refine gK.Z.mono ?_;rintro e w' ⟨rfl,rfl⟩));go_region_held3 (λw'=>w'.cell? ⟨d,0,none⟩=some (.int .i64 r)) (first | go_keep | exact CK.Z _ hk) (first | (go_at_call 96;refine hus.mono ?_;rintro e w1 ⟨rfl,hk⟩));go_wp2;go_ret;exact ⟨rfl,H.Z.quiet hk.eD,hk.eD.any⟩
   ·simp only [Ij,if_false];go_enter Tryz.func48,Tryz.ntmps48;go_wp2_with (first | (go_at_call 110;refine gK.Z.mono ?_;rintro e w' ⟨rfl,rfl⟩));go_region_held3 (λw'=>w'.cell? ⟨d,0,none⟩=some (.int .i64 r)) (first | go_keep | exact CK.Z _ hk) (first | (go_at_call 96;refine hus.mono ?_;rintro e w1 ⟨rfl,hk⟩));obtain ⟨v2,w2,hc,uV,cg⟩:=vQ (HP.Z.keep hk.eD) (by omega);obtain ⟨v2a,v2c,rfl,_,_⟩:=uV.aG;have h1:=H.Z.quiet hk.eD;have h2:=h1.quiet cg;have iH:=hk.eD.size;have jO:=cg.size;have h3:cZ (fX F w w2) w2 d m:=h2.Bk iH jO;obtain ⟨w3,hd,h4,k4⟩:=qZ h3 ⟨1,n,⟨#[]⟩,p⟩ (uV.keep (aP.refl _ _) (λb hb ox=> .inr ⟨by omega,ox⟩)) ⟨by simp,λ_=>by have:=HW.Z;simp only;omega⟩ hf hl;have hz3:=k4.size;replace hd:aW 105 #[.pointer (some ⟨d,0,none⟩),.agg #[.int .i64 1,.string n,.string ⟨#[]⟩,.slice v2a p.length v2c]] w2 (.int .i64 (dB m ⟨1,n,⟨#[]⟩,p⟩).1) w3:=hd;have H4:=ae h4;have K4:=ae k4;have K2:=ae cg;have K1:=ae hk;clear h1 h2 h3 h4 k4 uV cg hk;go_wp2_with (first | (go_at_call 111;refine hc.Z.mono ?_;rintro e w' ⟨rfl,rfl⟩) | (go_at_call 105;refine hd.Z.mono ?_;rintro e w' ⟨rfl,rfl⟩));go_ret;refine ⟨rfl,H4.Z.Bk (by omega) hz3, ?_⟩;exact ((K1.Z.eD.any (F:=F)).trans K2.Z (λ_ _ e=>e.elim)).trans K4.Z (λb hb e=>by rcases e with e | e;exact e;omega)
 ·simp only [ht,if_false];refine gU (Ll w d n _ _ gK (by simpa using ht)).Z ?_;exact ⟨rfl,h.ext,ah.refl _ _⟩
abbrev PS:=List (Int × Nat)
variable {ps:PS}
def ql (ps:PS) (k:Int):Option Nat:=(ps.find? (λp=>p.1=k)).map (·.2)
def Ik (ps:PS) (k:Int):PS:=ps.filter (λp=>p.1≠k)
def FH (ps:PS):Prop:=(ps.map (·.1)).Nodup
theorem Bm:∀ {ps:PS} (_:FH ps) {n:Int} {x:Nat} (_:(n,x) ∈ ps),ql ps n=some x
 | p::ps,h,n,x,hm=>by
  have h':p.1 ∉ ps.map (·.1)/\(ps.map (·.1)).Nodup:=List.nodup_cons.1 h;rcases List.mem_cons.1 hm with e | hm
  ·subst e;simp [ql]
  ·have dO:p.1≠n:=λe=>h'.1 (List.mem_map.2 ⟨(n,x),hm,e.symm⟩);have:=Bm (ps:=ps) h'.2 hm;simpa [ql,List.find?_cons,dO] using this
theorem Eg {n:Int} (h:n ∉ ps.map (·.1)):ql ps n=none:=by
 unfold ql;rw [List.find?_eq_none.2]
 ·rfl
 ·intro p hp;simp;exact λe=>h (List.mem_map.2 ⟨p,hp,e⟩)
theorem Il {n:Int} (h:n ∉ ps.map (·.1)):Ik ps n=ps:=by unfold Ik;rw [RR];intro q hq;simp;exact λe=>h (List.mem_map.2 ⟨q,hq,e⟩)
theorem Im {l:PS} (hp:l.Perm ps) (hn:FH ps) {j:Nat} {p:Int × Nat} (hj:l[j]?=some p):(l.eraseIdx j).Perm (Ik ps p.1):=by
 have Vx:FH l:=(hp.map (λq:Int × Nat=>q.1)).nodup_iff.2 hn;have e:l.eraseIdx j=l.filter (λq=>q.1≠p.1):=by
  clear hp hn;induction l generalizing j with
  | nil=>simp at hj
  | cons a l ih=>
   have h':a.1 ∉ l.map (·.1)/\(l.map (·.1)).Nodup:=List.nodup_cons.1 Vx;cases j with
   | zero=>
    simp at hj;subst hj;simp;symm;rw [RR];intro q hq;simp;exact λe=>h'.1 (List.mem_map.2 ⟨q,hq,e⟩)
   | succ j=>
    have Pc:l[j]?=some p:=by simpa using hj
    have dO:a.1≠p.1:=λe=>h'.1 (List.mem_map.2 ⟨p,List.mem_iff_getElem?.2 ⟨j,Pc⟩,e.symm⟩);simp [dO,ih Pc h'.2]
 rw [e];exact hp.filter _
def FI (e:MapEntry) (p:Int × Nat):Prop:=e.key= .int .i64 p.1/\e.val= .pointer (some ⟨p.2,0,none⟩)
def jt (w:World) (b:Nat) (ps:PS):Prop:=
 ∃ (es:Array MapEntry) (bD:Nat) (l:PS),w.heap[b]?=some (.map es bD)/\Stamped es bD/\dX FI es.toList l/\l.Perm ps
theorem jt.lt (h:jt w b ps):b <w.heap.size:=by obtain ⟨es,bD,l,hb,_⟩:=h;exact bm hb
theorem jt.keep (h:jt w b ps) (pg:w'.heap[b]?=w.heap[b]?):jt w' b ps:=by obtain ⟨es,bD,l,hb,hs,hr,hp⟩:=h;exact ⟨es,bD,l,pg.trans hb,hs,hr,hp⟩
theorem Eh:∀ {es:List MapEntry} {l:PS},dX FI es l->es.map (·.key)=l.map (λp=>Value.int .i64 p.1)
 | [],[],_=>rfl
 | e::es,p::l,h=>by simp [h.1.1,Eh h.2]
 | [],_::_,h=>h.elim
 | _::_,[],h=>h.elim
theorem jt.nodup (h:jt w b ps):FH ps:=by
 obtain ⟨es,bD,l,hb,hs,hr,hp⟩:=h;have h1:(l.map (λp=>Value.int .i64 p.1)).Nodup:=by rw [<-Eh hr];exact hs.2.2
 have h2:(l.map (·.1)).Nodup:=qX (Value.int .i64) (by rw [wU];exact h1);exact (hp.map (·.1)).nodup_iff.1 h2
theorem FJ {es:List MapEntry} {l:PS} (hr:dX FI es l):∀ x ∈ es,IsKey (.int .i64) x.key:=by intro x hx;obtain ⟨i,hi⟩:=List.mem_iff_getElem?.1 hx;obtain ⟨p,_,hp⟩:=hr.get hi;rw [hp.1];rfl
section
variable {P:Program} {T K E:TypeId} {w:World} {b:Nat} {ps:PS}
theorem jt.look (h:jt w b ps) (hT:P.underlying T=some (.map K E)) (hK:P.underlying K=some (.int .i64)) (hz:(zeroValue E).run P w= .ok (.pointer none) w) (k:Int) (c:Bool): (Instr.lookup T (.map (some b)) (.int .i64 k) c).run P w= .ok (if c then .tuple #[.pointer ((ql ps k).map (λq=>⟨q,0,none⟩)),.bool (ql ps k).isSome] else .pointer ((ql ps k).map (λq=>⟨q,0,none⟩))) w:=by
 have oC:=h.nodup;obtain ⟨es,bD,l,hb,hs,hr,hp⟩:=h;rcases findNow_spec (d:= .int .i64) (k:= .int .i64 k) rfl es.toList 0 (FJ hr) with ⟨h1,h2⟩ | ⟨j,e,h1,h2,h3⟩
 ·have hn:ql ps k=none:=by apply Eg;intro hm;obtain ⟨p,qT,yf⟩:=List.mem_map.1 hm;obtain ⟨i,hi⟩:=List.mem_iff_getElem?.1 (hp.mem_iff.2 qT);obtain ⟨e,he,yq⟩:=hr.wV hi;exact h2 e (List.mem_iff_getElem?.2 ⟨i,he⟩) (by rw [yq.1,yf])
  simp only [Instr.lookup,Sem.run_bind,run_underlying hT,Result.andThen,MapKept.run_getObj_map hb];simp only [Sem.run_pure,run_checkKey hK (k:= .int .i64 k) rfl,run_findKey hK h1,Sem.run_bind,hz,Result.andThen,hn];cases c <;>simp
 ·obtain ⟨p,Rn,Pb⟩:=hr.get h2;have zj:p.1=k:=by have:=Pb.1.symm.trans h3;simpa using this
  have hg:ql ps k=some p.2:=Bm oC (by rw [<-zj];exact hp.mem_iff.1 (List.mem_iff_getElem?.2 ⟨j,Rn⟩));simp only [Instr.lookup,Sem.run_bind,run_underlying hT,Result.andThen,MapKept.run_getObj_map hb];simp only [Sem.run_pure,run_checkKey hK (k:= .int .i64 k) rfl,run_findKey hK h1,Sem.run_bind,Result.andThen,hg,Pb.2];cases c <;>simp
theorem jt.insert (h:jt w b ps) (hT:P.underlying T=some (.map K E)) (hK:P.underlying K=some (.int .i64)) {k:Int} (hk:ql ps k=none) (q:Nat): ∃ es bD,(Instr.mapUpdate T (.map (some b)) (.int .i64 k) (.pointer (some ⟨q,0,none⟩))).run P w= .ok () (setBlock w b (.map es bD))/\jt (setBlock w b (.map es bD)) b ((k,q)::ps):=by
 have oC:=h.nodup;obtain ⟨es,bD,l,hb,hs,hr,hp⟩:=h;rcases findNow_spec (d:= .int .i64) (k:= .int .i64 k) rfl es.toList 0 (FJ hr) with ⟨h1,h2⟩ | ⟨j,e,h1,h2,h3⟩
 ·refine ⟨es.push {key:= .int .i64 k,val:= .pointer (some ⟨q,0,none⟩),born:=bD},bD+1, ?_,_,_,l++[(k,q)],fg hb _,stamped_push hs h2, ?_, ?_⟩
  ·simp only [Instr.mapUpdate,Sem.run_bind,run_underlying hT,Result.andThen,MapKept.run_getObj_map hb,run_checkKey hK (k:= .int .i64 k) rfl,run_findKey hK h1,run_setObj_map _ hb];rfl
  ·rw [Array.toList_push];exact hr.append ⟨⟨rfl,rfl⟩,trivial⟩
  ·exact List.perm_append_comm.trans (sV _ hp)
 ·obtain ⟨p,Rn,Pb⟩:=hr.get h2;have zj:p.1=k:=by have:=Pb.1.symm.trans h3;simpa using this
  rw [Bm oC (show (k,p.2) ∈ ps by rw [<-zj];exact hp.mem_iff.1 (List.mem_iff_getElem?.2 ⟨j,Rn⟩))] at hk;cases hk
theorem jt.delete (h:jt w b ps) (hT:P.underlying T=some (.map K E)) (hK:P.underlying K=some (.int .i64)) (k:Int) (K':TypeId) (ty:TypeId): ∃ es bD,(Builtin.delete_ #[T,K'] ty #[.map (some b),.int .i64 k]).run P w= .ok (.tuple #[]) (setBlock w b (.map es bD))/\jt (setBlock w b (.map es bD)) b (Ik ps k):=by
 have oC:=h.nodup;obtain ⟨es,bD,l,hb,hs,hr,hp⟩:=h;rcases findNow_spec (d:= .int .i64) (k:= .int .i64 k) rfl es.toList 0 (FJ hr) with ⟨h1,h2⟩ | ⟨j,e,h1,h2,h3⟩
 ·have hn:k ∉ ps.map (·.1):=by intro hm;obtain ⟨p,qT,yf⟩:=List.mem_map.1 hm;obtain ⟨i,hi⟩:=List.mem_iff_getElem?.1 (hp.mem_iff.2 qT);obtain ⟨e,he,yq⟩:=hr.wV hi;exact h2 e (List.mem_iff_getElem?.2 ⟨i,he⟩) (by rw [yq.1,yf])
  refine ⟨es,bD, ?_,_,_,l,fg hb _,hs,hr,by rw [Il hn];exact hp⟩;simp [Builtin.delete_,Sem.run_bind,run_underlying hT,Result.andThen,MapKept.run_getObj_map hb,run_checkKey hK (k:= .int .i64 k) rfl,run_findKey hK h1,run_setObj_map _ hb,ChangeMaps.setBlock]
 ·obtain ⟨p,Rn,Pb⟩:=hr.get h2;have zj:p.1=k:=by have:=Pb.1.symm.trans h3;simpa using this
  refine ⟨es.eraseIdxIfInBounds j,bD, ?_,_,_,l.eraseIdx j,fg hb _,stamped_erase hs j, ?_, ?_⟩
  ·simp [Builtin.delete_,Sem.run_bind,run_underlying hT,Result.andThen,MapKept.run_getObj_map hb,run_checkKey hK (k:= .int .i64 k) rfl,run_findKey hK h1,run_setObj_map _ hb,ChangeMaps.setBlock]
  ·rw [show (es.eraseIdxIfInBounds j).toList=es.toList.eraseIdx j by simp];exact hr.eraseIdx j
  ·rw [<-zj];exact Im hp oC Rn
end

end Go.Proofs.YtlcnhpjggjgnpaaGreatDoor