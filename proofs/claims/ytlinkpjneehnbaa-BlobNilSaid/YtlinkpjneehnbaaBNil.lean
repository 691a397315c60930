/- BlobNil answers true of whatever bytes. No condition. The frame of this text began as the kit's proof skeleton. -/
import Derived.Test.YtlinkpjneehnbaaRows
import Derived.Test.YtlinkpjneehnbaaBNilW
import Derived.WideKeyArr2
import Derived.WalkKit
import Derived.ProofKit
import Derived.OpenShut
import Derived.ShutString
import Derived.ChangeOld
import Derived.Below
namespace Go.Proofs.Ytlinkpjneehnbaa
set_option linter.unusedVariables false
set_option linter.unusedSimpArgs false
open Go.RowKit Go.MapKept Go.ChangeShapes Go.WideShapes
section
variable {H : Type} {enc : TypeId × Value → H}
theorem mapM_each {α β : Type} {f : α → Option β} : ∀ (L : List α) (xs : List β), L.mapM f = some xs → ∀ i ∈ L, ∃ y, f i = some y
  | [], _, _, i, hi => by simp at hi
  | a :: L, xs, h, i, hi => by
    rw [List.mapM_cons] at h
    simp only [bind, Option.bind_eq_some_iff, pure, Option.some.injEq] at h
    obtain ⟨y, hy, ys, hys, rfl⟩ := h
    rcases List.mem_cons.1 hi with rfl | hi
    · exact ⟨y, hy⟩
    · exact mapM_each L ys hys i hi
theorem bytes_back : ∀ cs : List Value, (∀ v ∈ cs, ∃ a : Int, v = .int .u8 a ∧ 0 ≤ a ∧ a < 256) → ∃ dg : List UInt8, cs = dg.map u8v
  | [], _ => ⟨[], rfl⟩
  | v :: cs, h => by
    obtain ⟨dg, hd⟩ := bytes_back cs (fun u hu => h u (List.mem_cons_of_mem _ hu))
    obtain ⟨a, rfl, h0, h1⟩ := h _ (List.mem_cons_self ..)
    refine ⟨UInt8.ofNat a.toNat :: dg, ?_⟩
    rw [List.map_cons, ← hd]
    have : (UInt8.ofNat a.toNat).toNat = a.toNat := by simp; omega
    have e : u8v (UInt8.ofNat a.toNat) = .int .u8 a := by
      show Value.int .u8 ((UInt8.ofNat a.toNat).toNat : Int) = _
      rw [this]; congr 1; omega
    rw [e]
set_option maxRecDepth 100000 in
theorem in_digest {W : World} {b0 : Nat} {v : Value} {d : DataW H} {p : List MemPlace} (hval : Value.okWide Try.prog W .any b0 57 v) (h : DataW.Trod enc Try.prog W 0 (fun _ => true) true 57 v d p) :
    ∃ dg : List UInt8, v = .agg (dg.map u8v).toArray ∧ dg.length = 32 := by
  simp only [Value.okWide, Try.underlying57] at hval
  obtain ⟨xs, rfl, h2, _⟩ := hval
  have hn : xs.size = 32 := by rw [h2]; kernel_rfl
  obtain ⟨fuel, hf⟩ := h
  cases fuel with
  | zero => simp [DataW.trod] at hf
  | succ m =>
    rw [DataW.trod_step] at hf
    unfold DataW.trodStep at hf
    simp only [Try.underlying57, Value.cells] at hf
    have hc : Try.prog.cellsOf 5 = 1 := by kernel_rfl
    have hc2 : Try.prog.cellsOf 57 = 32 := by kernel_rfl
    simp only [hc, hc2] at hf
    rw [if_pos (by simpa using hn)] at hf
    simp only [Option.map_eq_some_iff] at hf
    obtain ⟨ys, hy, e1⟩ := hf
    have hall := mapM_each _ _ hy
    obtain ⟨dg, hd⟩ := bytes_back xs.toList (fun v hv => by
      obtain ⟨i, hi, e⟩ := List.getElem_of_mem hv
      obtain ⟨y, hyy⟩ := hall i (by rw [List.mem_range]; simpa [hn] using hi)
      obtain ⟨a, ea, _, wa⟩ := DataW.trod_int Try.underlying5 hyy
      have hi' : i < xs.toList.length := hi
      rw [Nat.mul_one, List.drop_eq_getElem_cons hi', e] at ea
      simp at ea
      have h3 : 0 ≤ a ∧ a ≤ 255 := by simpa [Lit.wf, IntKind.min, IntKind.max, IntKind.signed, IntKind.bits] using wa
      exact ⟨a, ea, h3.1, by omega⟩)
    refine ⟨dg, by rw [← hd], ?_⟩
    have := congrArg List.length hd
    simpa [hn] using this.symm
end
end Go.Proofs.Ytlinkpjneehnbaa
namespace Go.Proofs.Ytlinkpjneehnbaa.blobNil
open Go.ChangeShapes Go.WideShapes Go.ChangeAt Go.RowKit
open Go.ChangeMaps (open_string shut_string)
set_option linter.unusedVariables false

theorem own : ownKnob Try.prog.godebug = none := by kernel_rfl
theorem laidOut : laidOutB Try.prog = true := by kernel_rfl

theorem walk (dg : List UInt8) (hl : dg.length = 32) (a1 : Option Addr) (len1 cap1 : Nat) (w : World) :
    Calls Try.prog 16 #[.agg (dg.map u8v).toArray, .slice a1 len1 cap1] w fun e w' => e = .returned (.bool true) ∧ Below w.heap.size w w' := bnil_walk dg hl a1 len1 cap1 w

/-! ### THE ROW's STEP: WRITTEN OUT: LEAVE IT -/
set_option maxRecDepth 100000 in
theorem lifted (os : Os) (started : os.Started) (H : Type) (enc : TypeId × Value → H) :
    ReturnsInHanded {} Try.checked os 16 .any (Rows.blobNilSpec.pre6 enc Try.prog Try.f16 Rows.blobNilRow.domain false) (Rows.blobNilSpec.post enc Try.prog Try.f16 false true false false) := by
  refine returnsInHanded_of_change (C := Try.checked) own started (by kernel_rfl) Try.func16
    (ChangeSpec.witness6 (enc := enc) (C := Try.checked) false ⟨#[], #[.agg #[.int .u8 0, .int .u8 0, .int .u8 0, .int .u8 0, .int .u8 0, .int .u8 0, .int .u8 0, .int .u8 0, .int .u8 0, .int .u8 0, .int .u8 0, .int .u8 0, .int .u8 0, .int .u8 0, .int .u8 0, .int .u8 0, .int .u8 0, .int .u8 0, .int .u8 0, .int .u8 0, .int .u8 0, .int .u8 0, .int .u8 0, .int .u8 0, .int .u8 0, .int .u8 0, .int .u8 0, .int .u8 0, .int .u8 0, .int .u8 0, .int .u8 0, .int .u8 0], .slice none 0 0], []⟩ 8 (by kernel_rfl) (by kernel_rfl) (by kernel_rfl) (by kernel_rfl)) ?_
  intro W base args ds gs before hval0 hW hcnd _
  have hval : ∀ (j : Nat) t v, Try.f16.params[j]? = some t → args[j]? = some v → Value.okWide Try.prog W .any base t v := hval0
  have hW' := hW
  obtain ⟨p, q, hA0, hV, rfl, hfz, hnd⟩ := hW
  have hA : DataW.TrodAll enc Try.prog W 0 (fun _ => true) true Try.f16.params.toList args.toList ds p := hA0
  rw [Try.params16] at hA hval
  obtain ⟨v0, vs0, d0, ds0, p0, q0, hargs, rfl, rfl, h0, r0⟩ := trodAll_cons hA
  obtain ⟨v1, vs1, d1, ds1, p1, q1, rfl, rfl, rfl, h1, r1⟩ := trodAll_cons r0
  obtain ⟨rfl, rfl, rfl⟩ := trodAll_nil r1
  obtain rfl : args = #[v0, v1] := by cases args; simp_all
  obtain ⟨rfl, rfl⟩ := trodVars_none hV
  have k0 := h0
  have lt0 : ∀ x ∈ p0, x.block < W.heap.size := by obtain ⟨m, hm⟩ := k0; exact DataW.trod_lt m _ _ _ hm
  obtain ⟨dg, rfl, hl⟩ := in_digest (hval 0 57 v0 rfl rfl) h0
  obtain ⟨a1, len1, cap1, rfl⟩ := okWide_slice Try.underlying31 (hval 1 31 v1 rfl rfl)
  have k1 := h1
  have lt1 : ∀ x ∈ p1, x.block < W.heap.size := by obtain ⟨m, hm⟩ := k1; exact DataW.trod_lt m _ _ _ hm
  clear hA0 hval0
  refine (walk dg hl a1 len1 cap1 W).mono fun e W' ⟨he, bel⟩ => ?_
  subst he
  exact ⟨_, rfl, _, _, _, [], _, [], hW', trodAll_mk1 (shut_bool Try.underlying4 _), (trodAll_cons_mk (Below.trod laidOut (by kernel_rfl) (of_decide_eq_true (by kernel_rfl)) k0 bel lt0) (trodAll_cons_mk (Below.trod laidOut (by kernel_rfl) (of_decide_eq_true (by kernel_rfl)) k1 bel lt1) trodAll_mk0)), rfl, bel.frame _, fun h => by cases h⟩

theorem over : Rows.blobNilRow.holds Try.pinned (OpenSpec.ofChange Rows.blobNilSpec) :=
  OpenClaim.holds_of_wide 16 Try.f16 rfl rfl rfl rfl rfl rfl rfl ⟨rfl, rfl, rfl, rfl, rfl⟩ rfl rfl rfl rfl rfl (by kernel_rfl) Try.func16 (by kernel_rfl)
    (of_decide_eq_true (by kernel_rfl)) (by unfold Func.isWrapper; first | (rw [if_pos (by decide +kernel)]; kernel_rfl) | (rw [if_neg (by decide +kernel)]; exact ⟨rfl, rfl⟩))
    (fun os started H enc _ => lifted os started H enc)

/-- ████ THE STATEMENT ████ -/
theorem proved : Rows.BlobNilSaid := over
#print axioms proved
end Go.Proofs.Ytlinkpjneehnbaa.blobNil
