/- UploadPlays answers true of whatever room and steps, and leaves them as they are. No condition but the card's own: the two tables of unicode/utf8 that it lists stand as the library's text lays them, which the card ties. The frame of this text began as the kit's proof skeleton. -/
import Derived.Test.YtlcnhpjggjgnpaaGreatDoorCards
import Derived.Test.YtlcnhpjggjgnpaaGreatDoorTie
import Derived.Test.YtlcnhpjggjgnpaaGreatDoorUplc8
import Derived.Test.YtlcnhpjggjgnpaaGreatDoorUplc9
set_option linter.unusedSimpArgs false
set_option linter.unusedVariables false
set_option maxRecDepth 100000
namespace Go.Proofs.YtlcnhpjggjgnpaaGreatDoor.uploadPlays
open Go.ChangeShapes Go.WideShapes Go.ChangeAt Go.RowKit
open Go.ChangeMaps (open_string shut_string)
open Go.ChangeShapes (shut_int)
theorem UR {H:Type} {enc:TypeId × Value->H} {W:World} {a:Option Addr} {len cap:Nat} {d:DataW H} {p:List MemPlace} (h:DataW.Trod enc Tryz.prog W 0 (λ_=>true) true 63 (.slice a len cap) d p):UQ W a len:=by obtain ⟨h1,h2,h3⟩:=vY Tryz.underlying63 Tryz.underlying67 (by kernel_rfl) (by kernel_rfl) h;intro i hi x s e hc;obtain ⟨x',rfl,hf⟩:=h3 i hi;cases e;obtain ⟨v2,_,_,k2,n2,t2⟩:=hf 2 _ rfl;obtain ⟨s2,rfl,hz⟩:=Mh t2;have e2:(W.cell? (x.add (i*7+2)))=some (.string s2):=k2;rw [<-Addr.add_add,Addr.add_succ'] at e2;have e3:=e2.symm.trans hc;cases e3;unfold maxLen at hz;omega
theorem own:ownKnob Tryz.prog.godebug=none:=by kernel_rfl
theorem XL:laidOutB Tryz.prog=true:=by kernel_rfl
theorem aaP (os:Os) (ye:os.Started) (H:Type) (enc:TypeId × Value->H): ReturnsInHanded {} Tryz.checked os 6 .any (λw args=>(Rows.uploadPlaysSpec.pre enc Tryz.prog Tryz.f6 [] false w args/\laidMetH Tryz.prog Rows.uploadPlaysRow.laid w)/\sizedMet enc Tryz.prog Tryz.f6 (OpenSpec.ofChange Rows.uploadPlaysSpec) false w args) (Rows.uploadPlaysSpec.post enc Tryz.prog Tryz.f6 false true false false):=by
 refine yd (C:=Tryz.checked) (X:=λw _=>laidMetH Tryz.prog Rows.uploadPlaysRow.laid w) own ye (by kernel_rfl) Tryz.func6
  (ChangeSpec.witness_shaped (enc:=enc) (C:=Tryz.checked) (os:=os) (X:=λw _=>laidMetH Tryz.prog Rows.uploadPlaysRow.laid w) false (World.laidAll Tryz.prog os Rows.uploadPlaysRow.laid) #[.int .i64 0,.slice none 0 0] 8 (World.laidAll_os _ _ _)
   (World.shaped_of_ZipB (by kernel_rfl) (by kernel_rfl)) (by kernel_rfl) (by kernel_rfl) (by kernel_rfl)
   (by rw [MakeChecks.laidMetH_plain _ _ _ (by kernel_rfl)];exact laidMet_laidAll _ (by kernel_rfl) (by kernel_rfl))) ?_
 intro W base args ds gs before YU hW RZ;have hval:∀ (j:Nat) t v,Tryz.f6.params[j]?=some t->args[j]?=some v->Value.okWide Tryz.prog W .any base t v:=YU;have XD:=hW;obtain ⟨p,q,hA0,hV,rfl,KU,oC⟩:=hW;have hA:DataW.TrodAll enc Tryz.prog W 0 (λ_=>true) true Tryz.f6.params.toList args.toList ds p:=hA0;rw [Tryz.params6] at hA hval;obtain ⟨v0,vs0,d0,ds0,p0,q0,adK,rfl,rfl,h0,r0⟩:=trodAll_cons hA;obtain ⟨v2,vs2,d2,ds2,p2,q2,rfl,rfl,rfl,h2,r2⟩:=trodAll_cons r0;obtain ⟨rfl,rfl,rfl⟩:=trodAll_nil r2;obtain rfl:args=#[v0,v2]:=by cases args;simp_all
 obtain ⟨rfl,rfl⟩:=trodVars_none hV;obtain ⟨rm0,rfl,rfl,rfl,hs0⟩:=Go.ChangeShapes.open_int Tryz.underlying3 (hval 0 3 v0 rfl rfl) h0;obtain ⟨a0,ad2,ad3,rfl⟩:=okWide_slice Tryz.underlying63 (hval 1 63 v2 rfl rfl);have k0:=h2;have lt0:∀ x ∈ p2,x.block <W.heap.size:=by obtain ⟨m,hm⟩:=k0;exact DataW.trod_lt m _ _ _ hm
 obtain ⟨wY,pA,XI⟩:=WM h2;clear hA0 YU;refine (KP rm0 W (D6 RZ) wY pA XI (UR h2)).mono λe W' ⟨he,hk⟩=> ?_;have bel:=hk.below;subst he;exact ⟨_,rfl,_,_,_,[],_,[],XD,trodAll_mk1 (shut_bool Tryz.underlying4 _),(trodAll_cons_mk (shut_int Tryz.underlying3 hs0) (trodAll_cons_mk (Below.trod XL (by kernel_rfl) (of_decide_eq_true (by kernel_rfl)) k0 bel lt0) trodAll_mk0)),rfl,bel.frame _,λh=>by cases h⟩
theorem over:Rows.uploadPlaysRow.holds Tryz.pinned (OpenSpec.ofChange Rows.uploadPlaysSpec):=
 OpenClaim.holds_of_wide 6 Tryz.f6 rfl rfl rfl rfl rfl rfl rfl ⟨rfl,rfl,rfl,rfl,rfl⟩ rfl rfl rfl rfl rfl (by kernel_rfl) Tryz.func6 (by kernel_rfl)
  (of_decide_eq_true (by kernel_rfl)) (by unfold Func.isWrapper;first | (rw [if_pos (by decide+kernel)];kernel_rfl) | (rw [if_neg (by decide+kernel)];exact ⟨rfl,rfl⟩))
  (λos ye H enc _=>aaP os ye H enc)
theorem proved:Rows.UploadPlaysCardSaid:=
 Claim7.holds_tied_plain_at .later [] [.data, .pinned] true (true, "43b451f98505beea52b4cd0b5832fc4668c572727cc1550f014ae4f1ee1a1e14") true over (λ_ h => by cases h) (by kernel_rfl) (λ_ h => by cases h) uploadPlays_row_tie rfl ⟨rfl, rfl⟩ (by kernel_rfl) rfl
  (λf fn hf NZ=>by
   obtain rfl : f = 6 := K7 ((show Tryz.prog.funcNamed "hallmark/hallmarklaw13.UploadPlays" = some 6 by kernel_rfl).symm.trans hf) |>.symm;obtain rfl:fn=Tryz.f6:=(K7 (Tryz.func6.symm.trans NZ)).symm;exact ⟨by kernel_rfl,λj t ht=>by
    rw [Tryz.params6] at ht;rcases j with _ | _ | j
    ·obtain rfl:3=t:=by simpa using ht
     kernel_rfl
    ·obtain rfl:63=t:=by simpa using ht
     kernel_rfl
    ·simp at ht⟩)
  (by kernel_rfl)
#print axioms proved

end Go.Proofs.YtlcnhpjggjgnpaaGreatDoor.uploadPlays