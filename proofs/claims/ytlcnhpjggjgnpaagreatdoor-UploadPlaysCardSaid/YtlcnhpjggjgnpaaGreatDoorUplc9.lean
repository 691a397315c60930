/- A part of the proof. -/
import Derived.Test.YtlcnhpjggjgnpaaGreatDoorUpla8
import Derived.ProofKit
import Derived.OpenShut
import Derived.ShutString
import Derived.HandedShaped
import Derived.Lay
import Derived.Shelf.Vars
import Derived.MakeChecks
set_option linter.unusedSimpArgs false
set_option linter.unusedVariables false
namespace Go.Proofs.YtlcnhpjggjgnpaaGreatDoor
open Go.ChangeShapes Go.WideShapes Go.ChangeAt Go.RowKit
theorem yd {H:Type} {enc:TypeId × Value->H} {a:Assume} {C:Checked} {os:Os} {f:FuncId} {fn:Func} {s:ChangeSpec} {YS:List PathCond} {apart YT O2 again:Bool} {X:World->Array Value->Prop} (own:ownKnob C.prog.godebug=none) (ye:os.Started) (aaO:C.prog.inits.idxOf? f=none) (NZ:C.prog.funcs[f]?=some fn) (XK:∃ (w:World) (tape:Tape) (i:Input),w.os=os/\(w.forCall tape i).Shaped C.prog/\i.vars=[]/\Input.okWide C.prog (w.forCall tape i) .any w.heap.size f i/\ ((s.pre enc C.prog fn YS apart (w.forCall tape i).memory i.args/\X (w.forCall tape i).memory i.args)/\sizedMet enc C.prog fn (OpenSpec.ofChange s) apart (w.forCall tape i).memory i.args)/\a.holds C.prog (lone (Frame.enter C.prog f i.args .normal) [] (w.forCall tape i))) (contract:∀ (W:World) (base:Nat) (args:Array Value) (ds gs:List (DataW H)) (before:List MemPlace), (∀ (j:Nat) t v,fn.params[j]?=some t->args[j]?=some v->Value.okWide C.prog W .any base t v)-> DataW.Whole enc C.prog fn.params.toList s.vars apart W args.toList ds gs before-> W.ShapedOpen C.prog-> Calls C.prog f args W λe W'=>∃ v,e= .returned v/\s.post enc C.prog fn apart YT O2 again W args v W'): ReturnsInHanded a C os f .any (λw args=>(s.pre enc C.prog fn YS apart w args/\X w args)/\sizedMet enc C.prog fn (OpenSpec.ofChange s) apart w args) (s.post enc C.prog fn apart YT O2 again):=by refine returnsInHanded_of_calls own ye aaO XK ?_;intro w tape i _ RZ _ fK Zr _;obtain ⟨_,_,_,fn2,Yq,_,_,_,_,hval⟩:=fK;obtain rfl:fn2=fn:=K7 (Yq.symm.trans NZ);obtain ⟨⟨⟨ds,gs,before,hw,-⟩,-⟩,-⟩:=Zr;refine (contract (w.forCall tape i) w.heap.size i.args ds gs before hval (DataW.Whole.of_heap (w':=w.forCall tape i) (by rfl) hw) RZ).mono λe W' ⟨v,he,hp⟩=> ?_;subst he;exact ChangeSpec.post_blind hp
theorem D6 {W:World} (RZ:W.ShapedOpen Tryz.prog):wy W:=
 cell_of_shapedOpen_int (P:=Tryz.prog) (g:=kY.g 1) (t:=3) (zero:=#[.int .i64 0]) RZ (of_decide_eq_true (by kernel_rfl)) (by kernel_rfl) rfl (by kernel_rfl) (by kernel_rfl) Tryz.underlying3

end Go.Proofs.YtlcnhpjggjgnpaaGreatDoor