/- A part of the proof. -/
import Derived.Test.YtlcnhpjggjgnpaaGreatDoorWa5
import Derived.WideKeyArr2
import Derived.WalkKit
import Derived.ProofKit
namespace Go.Proofs.YtlcnhpjggjgnpaaGreatDoor
set_option linter.unusedVariables false
set_option linter.unusedSimpArgs false
open Go.RowKit Go.MapKept Go.ChangeShapes Go.WideShapes
section
variable {H : Type} {enc : TypeId × Value → H}
theorem mapM_each2 {α β : Type} {f : α → Option β} : ∀ (L : List α) (xs : List β), L.mapM f = some xs → ∀ i ∈ L, ∃ y, f i = some y
  | [], _, _, i, hi => by simp at hi
  | a :: L, xs, h, i, hi => by
    rw [List.mapM_cons] at h
    simp only [bind, Option.bind_eq_some_iff, pure, Option.some.injEq] at h
    obtain ⟨y, hy, ys, hys, rfl⟩ := h
    rcases List.mem_cons.1 hi with rfl | hi
    · exact ⟨y, hy⟩
    · exact mapM_each2 L ys hys i hi
theorem bytes_back2 : ∀ cs : List Value, (∀ v ∈ cs, ∃ a : Int, v = .int .u8 a ∧ 0 ≤ a ∧ a < 256) → ∃ dg : List UInt8, cs = dg.map u8v
  | [], _ => ⟨[], rfl⟩
  | v :: cs, h => by
    obtain ⟨dg, hd⟩ := bytes_back2 cs (fun u hu => h u (List.mem_cons_of_mem _ hu))
    obtain ⟨a, rfl, h0, h1⟩ := h _ (List.mem_cons_self ..)
    refine ⟨UInt8.ofNat a.toNat :: dg, ?_⟩
    rw [List.map_cons, ← hd]
    have : (UInt8.ofNat a.toNat).toNat = a.toNat := by simp; omega
    have e : u8v (UInt8.ofNat a.toNat) = .int .u8 a := by
      show Value.int .u8 ((UInt8.ofNat a.toNat).toNat : Int) = _
      rw [this]; congr 1; omega
    rw [e]
set_option maxRecDepth 100000 in
theorem in_dig32 {W : World} {b0 : Nat} {v : Value} {d : DataW H} {p : List MemPlace} (hval : Value.okWide Tryz.prog W .any b0 24 v) (h : DataW.Trod enc Tryz.prog W 0 (fun _ => true) true 24 v d p) :
    ∃ dg : List UInt8, v = .agg (dg.map u8v).toArray ∧ dg.length = 32 := by
  simp only [Value.okWide, Tryz.underlying24] at hval
  obtain ⟨xs, rfl, h2, _⟩ := hval
  have hn : xs.size = 32 := by rw [h2]; kernel_rfl
  obtain ⟨fuel, hf⟩ := h
  cases fuel with
  | zero => simp [DataW.trod] at hf
  | succ m =>
    rw [DataW.trod_step] at hf
    unfold DataW.trodStep at hf
    simp only [Tryz.underlying24, Value.cells] at hf
    have hc : Tryz.prog.cellsOf 5 = 1 := by kernel_rfl
    have hc2 : Tryz.prog.cellsOf 24 = 32 := by kernel_rfl
    simp only [hc, hc2] at hf
    rw [if_pos (by simpa using hn)] at hf
    simp only [Option.map_eq_some_iff] at hf
    obtain ⟨ys, hy, e1⟩ := hf
    have hall := mapM_each2 _ _ hy
    obtain ⟨dg, hd⟩ := bytes_back2 xs.toList (fun v hv => by
      obtain ⟨i, hi, e⟩ := List.getElem_of_mem hv
      obtain ⟨y, hyy⟩ := hall i (by rw [List.mem_range]; simpa [hn] using hi)
      obtain ⟨a, ea, _, wa⟩ := DataW.trod_int Tryz.underlying5 hyy
      have hi' : i < xs.toList.length := hi
      rw [Nat.mul_one, List.drop_eq_getElem_cons hi', e] at ea
      simp at ea
      have h3 : 0 ≤ a ∧ a ≤ 255 := by simpa [Lit.wf, IntKind.min, IntKind.max, IntKind.signed, IntKind.bits] using wa
      exact ⟨a, ea, h3.1, by omega⟩)
    refine ⟨dg, by rw [← hd], ?_⟩
    have := congrArg List.length hd
    simpa [hn] using this.symm
theorem in_ints64 {W : World} {a : Option Addr} {len cap : Nat} {d : DataW H} {p : List MemPlace} (h : DataW.Trod enc Tryz.prog W 0 (fun _ => true) true 23 (.slice a len cap) d p) :
    (len ≤ cap ∧ cap ≤ maxLen) ∧ ∀ i, i < len → ∃ x v, a = some x ∧ W.cell? (x.add i) = some (.int .i64 v) := by
  obtain ⟨fuel, hf⟩ := h
  rcases Go.ChangeShapes.open_ints Tryz.underlying23 Tryz.underlying3 (by kernel_rfl) hf with ⟨hcs, _⟩ | ⟨x, l, c, zs, hcs, _, hl, hm, hz, _, hcell, hwz⟩
  · simp [Value.cells] at hcs
    obtain ⟨rfl, rfl, rfl⟩ := hcs
    exact ⟨⟨Nat.le_refl _, Nat.zero_le _⟩, fun i hi => by omega⟩
  · simp [Value.cells] at hcs
    obtain ⟨rfl, rfl, rfl⟩ := hcs
    exact ⟨⟨hl, hm⟩, fun i hi => ⟨x, _, rfl, hcell i (by rw [hz, if_pos rfl]; omega)⟩⟩
end
end Go.Proofs.YtlcnhpjggjgnpaaGreatDoor
