/- TaglogPlays answers true of whatever room, script of steps and three numbers, and leaves them as they are. No condition. The frame of this text follows the kit's proof skeleton. -/
import Derived.Test.YtddnikpdmjogiaaGreatRows
import Derived.Test.YtddnikpdmjogiaaGreatYf1
import Derived.WideKeyArr2
import Derived.WalkKit
import Derived.ProofKit
import Derived.OpenShut
import Derived.ShutString
import Derived.ChangeOld
import Derived.Below
namespace Go.Proofs.YtddnikpdmjogiaaGreat
set_option linter.unusedVariables false
set_option linter.unusedSimpArgs false
open Go.RowKit Go.MapKept Go.ChangeShapes Go.WideShapes
theorem mapM_all {α β : Type} {f : α → Option β} : ∀ (L : List α) (xs : List β), L.mapM f = some xs → ∀ i ∈ L, ∃ y, f i = some y
 | [], _, _, i, hi => by simp at hi
 | a :: L, xs, h, i, hi => by
  rw [List.mapM_cons] at h
  simp only [bind, Option.bind_eq_some_iff, pure, Option.some.injEq] at h
  obtain ⟨y, hy, ys, hys, rfl⟩ := h
  rcases List.mem_cons.1 hi with rfl | hi
  ·exact ⟨y, hy⟩
  ·exact mapM_all L ys hys i hi
set_option maxRecDepth 100000 in
theorem in_ints3 {H : Type} {enc : TypeId × Value → H} {W : World} {b0 : Nat} {v : Value} {d : DataW H} {p : List MemPlace} (hval : Value.okWide Tryz.prog W .any b0 56 v) (h : DataW.Trod enc Tryz.prog W 0 (fun _ => true) true 56 v d p) :
  ∃ x0 x1 x2 : Int, v = .agg #[.int .i64 x0, .int .i64 x1, .int .i64 x2] := by
 simp only [Value.okWide, Tryz.underlying56] at hval
 obtain ⟨xs, rfl, h2, _⟩ := hval
 have hn : xs.size = 3 := by rw [h2]; kernel_rfl
 obtain ⟨fuel, hf⟩ := h
 cases fuel with
 | zero => simp [DataW.trod] at hf
 | succ m =>
  rw [DataW.trod_step] at hf
  unfold DataW.trodStep at hf
  simp only [Tryz.underlying56, Value.cells] at hf
  have hc : Tryz.prog.cellsOf 3 = 1 := by kernel_rfl
  have hc2 : Tryz.prog.cellsOf 56 = 3 := by kernel_rfl
  simp only [hc, hc2] at hf
  rw [if_pos (by simpa using hn)] at hf
  simp only [Option.map_eq_some_iff] at hf
  obtain ⟨ys, hy, e1⟩ := hf
  have hall := mapM_all _ _ hy
  have hint : ∀ i, (hi : i < 3) → ∃ a : Int, xs.toList[i]? = some (.int .i64 a) := fun i hi => by
   obtain ⟨y, hyy⟩ := hall i (by rw [List.mem_range]; simpa using hi)
   obtain ⟨a, ea, _, _⟩ := DataW.trod_int Tryz.underlying3 hyy
   have hi' : i < xs.toList.length := by rw [Array.length_toList, hn]; exact hi
   rw [Nat.mul_one, List.drop_eq_getElem_cons hi'] at ea
   refine ⟨a, ?_⟩
   rw [List.getElem?_eq_getElem hi']
   simp at ea
   rw [← ea, Array.getElem_toList]
  obtain ⟨x0, e0⟩ := hint 0 (by omega)
  obtain ⟨x1, e1'⟩ := hint 1 (by omega)
  obtain ⟨x2, e2⟩ := hint 2 (by omega)
  refine ⟨x0, x1, x2, ?_⟩
  obtain ⟨l⟩ := xs
  match l, hn, e0, e1', e2 with
  | [a, b, c], _, e0, e1', e2 =>
   simp only [List.getElem?_cons_zero, List.getElem?_cons_succ, Option.some.injEq] at e0 e1' e2
   subst e0 e1' e2
   rfl
end Go.Proofs.YtddnikpdmjogiaaGreat
namespace Go.Proofs.YtddnikpdmjogiaaGreat.taglogPlays
open Go.ChangeShapes Go.WideShapes Go.ChangeAt Go.RowKit
open Go.ChangeMaps (open_string shut_string)
set_option linter.unusedVariables false
theorem own : ownKnob Tryz.prog.godebug = none := by kernel_rfl
theorem laidOut : laidOutB Tryz.prog = true := by kernel_rfl
theorem walk (a0 : Int) (a2 : Option Addr) (len2 cap2 : Nat) (x0 x1 x2 : Int) (w : World) (h : len2 ≤ cap2 ∧ cap2 ≤ maxLen ∧ OpsGIn w a2 len2) :
  Calls Tryz.prog 4 #[.int .i64 a0, .slice a2 len2 cap2, .agg #[.int .i64 x0, .int .i64 x1, .int .i64 x2]] w fun e w' => e = .returned (.bool true) ∧ Below w.heap.size w w' :=
 gplays_walk a0 a2 len2 cap2 x0 x1 x2 w h.1 h.2.1 h.2.2
set_option maxRecDepth 100000 in
theorem lifted (os : Os) (started : os.Started) (H : Type) (enc : TypeId × Value → H) :
  ReturnsInHanded {} Tryz.checked os 4 .any (Rows.taglogPlaysSpec.pre6 enc Tryz.prog Tryz.f4 Rows.taglogPlaysRow.domain false) (Rows.taglogPlaysSpec.post enc Tryz.prog Tryz.f4 false true false false) := by
 refine returnsInHanded_of_change (C := Tryz.checked) own started (by kernel_rfl) Tryz.func4
  (ChangeSpec.witness6 (enc := enc) (C := Tryz.checked) false ⟨#[], #[.int .i64 0, .slice none 0 0, .agg #[.int .i64 0, .int .i64 0, .int .i64 0]], []⟩ 8 (by kernel_rfl) (by kernel_rfl) (by kernel_rfl) (by kernel_rfl)) ?_
 intro W base args ds gs before hval0 hW hcnd _
 have hval : ∀ (j : Nat) t v, Tryz.f4.params[j]? = some t → args[j]? = some v → Value.okWide Tryz.prog W .any base t v := hval0
 have hW' := hW
 obtain ⟨p, q, hA0, hV, rfl, hfz, hnd⟩ := hW
 have hA : DataW.TrodAll enc Tryz.prog W 0 (fun _ => true) true Tryz.f4.params.toList args.toList ds p := hA0
 rw [Tryz.params4] at hA hval
 obtain ⟨v0, vs0, d0, ds0, p0, q0, hargs, rfl, rfl, h0, r0⟩ := trodAll_cons hA
 obtain ⟨v2, vs2, d2, ds2, p2, q2, rfl, rfl, rfl, h2, r2⟩ := trodAll_cons r0
 obtain ⟨v3, vs3, d3, ds3, p3, q3, rfl, rfl, rfl, h3, r3⟩ := trodAll_cons r2
 obtain ⟨rfl, rfl, rfl⟩ := trodAll_nil r3
 obtain rfl : args = #[v0, v2, v3] := by cases args; simp_all
 obtain ⟨rfl, rfl⟩ := trodVars_none hV
 obtain ⟨a0, rfl, rfl, rfl, hs0⟩ := Go.ChangeShapes.open_int Tryz.underlying3 (hval 0 3 v0 rfl rfl) h0
 obtain ⟨a2, len2, cap2, rfl⟩ := okWide_slice Tryz.underlying55 (hval 1 55 v2 rfl rfl)
 obtain ⟨x0, x1, x2, rfl⟩ := in_ints3 (hval 2 56 v3 rfl rfl) h3
 have lt3 : ∀ x ∈ p3, x.block < W.heap.size := by obtain ⟨m, hm⟩ := h3; exact DataW.trod_lt m _ _ _ hm
 have lt2 : ∀ x ∈ p2, x.block < W.heap.size := by obtain ⟨m, hm⟩ := h2; exact DataW.trod_lt m _ _ _ hm
 clear hA0 hval0
 refine (walk a0 a2 len2 cap2 x0 x1 x2 W (in_opsG h2)).mono fun e W' ⟨he, bel⟩ => ?_
 subst he
 exact ⟨_, rfl, _, _, _, [], _, [], hW', trodAll_mk1 (shut_bool Tryz.underlying4 _), (trodAll_cons_mk (shut_int Tryz.underlying3 hs0) (trodAll_cons_mk (Below.trod laidOut (by kernel_rfl) (of_decide_eq_true (by kernel_rfl)) h2 bel lt2) (trodAll_cons_mk (Below.trod laidOut (by kernel_rfl) (of_decide_eq_true (by kernel_rfl)) h3 bel lt3) trodAll_mk0))), rfl, bel.frame _, fun h => by cases h⟩
theorem over : Rows.taglogPlaysRow.holds Tryz.pinned (OpenSpec.ofChange Rows.taglogPlaysSpec) :=
 OpenClaim.holds_of_wide 4 Tryz.f4 rfl rfl rfl rfl rfl rfl rfl ⟨rfl, rfl, rfl, rfl, rfl⟩ rfl rfl rfl rfl rfl (by kernel_rfl) Tryz.func4 (by kernel_rfl)
  (of_decide_eq_true (by kernel_rfl)) (by unfold Func.isWrapper; first | (rw [if_pos (by decide +kernel)]; kernel_rfl) | (rw [if_neg (by decide +kernel)]; exact ⟨rfl, rfl⟩))
  (fun os started H enc _ => lifted os started H enc)
theorem proved : Rows.TaglogPlaysSaid := over
#print axioms proved
end Go.Proofs.YtddnikpdmjogiaaGreat.taglogPlays
