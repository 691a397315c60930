/- What came in: a slice of bytes, a slice of slices of bytes, a slice of truth values, as the walks are told of them. -/
import Derived.Test.YtlinkpjneehnbaaLastsW
import Derived.Deep.Matrix
import Derived.Deep.Grids
namespace Go.Proofs.Ytlinkpjneehnbaa
open Go.RowKit Go.MapKept

theorem u8_of_wf {n : Int} (h : (Lit.int .u8 n).wf = true) : u8v (UInt8.ofNat n.toNat) = .int .u8 n := by
  have h2 : 0 ≤ n ∧ n ≤ 255 := by simpa [Lit.wf, IntKind.min, IntKind.max, IntKind.signed, IntKind.bits] using h
  unfold u8v
  rw [UInt8.toNat_ofNat']
  congr 1
  omega
theorem reads_of_ints {w : World} {A : Option Addr} {L C : Nat} {zs : List Int} (h1 : L ≤ C) (h2 : C ≤ maxLen) (h3 : L ≤ zs.length) (h4 : ∀ n ∈ zs, (Lit.int .u8 n).wf = true) (h5 : A = none → C = 0)
    (h6 : ∀ a', A = some a' → ∀ c, c < L → w.cell? (a'.add c) = some (.int .u8 (zs.getD c 0))) : ∃ p : List UInt8, p.length = L ∧ Reads w (.slice A L C) p := by
  refine ⟨(zs.take L).map (fun n => UInt8.ofNat n.toNat), by simp; omega, ?_⟩
  cases A with
  | none =>
    have := h5 rfl
    obtain rfl : C = 0 := this
    obtain rfl : L = 0 := by omega
    exact .inl ⟨rfl, by simp⟩
  | some a =>
    have hlen : ((zs.take L).map (fun n => UInt8.ofNat n.toNat)).length = L := by simp; omega
    refine .inr ⟨a, C, by rw [hlen], by omega, h2, fun j u hu => ?_⟩
    have hj : j < L := by
      have := (List.getElem?_eq_some_iff.1 hu).1
      simp at this; omega
    have hz : zs[j]? = some (zs.getD j 0) := by
      rw [List.getD_eq_getElem?_getD, List.getElem?_eq_getElem (by omega)]; rfl
    rw [List.getElem?_map, List.getElem?_map, List.getElem?_take, if_pos hj, hz] at hu
    simp only [Option.map_some, Option.some.injEq] at hu
    rw [← hu, u8_of_wf (h4 _ (List.mem_of_getElem? hz))]
    exact h6 a rfl j hj

variable {H : Type} {enc : TypeId × Value → H}
theorem rows_in {W : World} {a : Option Addr} {len cap : Nat} {d : DataW H} {p : List MemPlace} (h : DataW.Trod enc Try.prog W 0 (fun _ => true) true 34 (.slice a len cap) d p) :
    len ≤ cap ∧ cap ≤ maxLen ∧ (a = none → cap = 0) ∧ PRows W a len := by
  obtain ⟨fuel, hf⟩ := h
  rcases Go.Deep.open_int_rows Try.underlying34 Try.underlying31 Try.underlying5 (by kernel_rfl) (by kernel_rfl) hf with ⟨hcs, _⟩ | ⟨x, l, c, A, L, C, Z, hcs, _, hl, hm, _, hrows⟩
  · simp [Value.cells] at hcs
    obtain ⟨rfl, rfl, rfl⟩ := hcs
    exact ⟨Nat.le_refl _, Nat.zero_le _, fun _ => rfl, fun i hi => by omega⟩
  · simp [Value.cells] at hcs
    obtain ⟨rfl, rfl, rfl⟩ := hcs
    refine ⟨hl, hm, (fun e => by cases e), fun i hi => ?_⟩
    obtain ⟨r1, r2, r3, r4, r5, r6, r7⟩ := hrows i (by omega)
    obtain ⟨p, _, hp⟩ := reads_of_ints r2 r3 (by omega) r5 r6 (fun a' e c hc => (r7 a' e).2 c (by omega))
    exact ⟨x, _, p, rfl, r1, hp⟩
theorem bools_in {W : World} {a : Option Addr} {len cap : Nat} {d : DataW H} {p : List MemPlace} (h : DataW.Trod enc Try.prog W 0 (fun _ => true) true 35 (.slice a len cap) d p) :
    BRow W a len := by
  obtain ⟨fuel, hf⟩ := h
  rcases Go.Deep.open_bools Try.underlying35 Try.underlying4 (by kernel_rfl) hf with ⟨hcs, _⟩ | ⟨x, l, c, B, hcs, _, hl, hm, _, hcell⟩
  · simp [Value.cells] at hcs
    obtain ⟨rfl, rfl, rfl⟩ := hcs
    exact fun i hi => by omega
  · simp [Value.cells] at hcs
    obtain ⟨rfl, rfl, rfl⟩ := hcs
    exact fun i hi => ⟨x, B i, rfl, hcell i (by omega)⟩
/-- A slice of bytes that came in. -/
theorem bytes_in {W : World} {a : Option Addr} {len cap : Nat} {d : DataW H} {p : List MemPlace} (h : DataW.Trod enc Try.prog W 0 (fun _ => true) true 31 (.slice a len cap) d p) :
    ∃ l : List UInt8, l.length = len ∧ Reads W (.slice a len cap) l := by
  obtain ⟨fuel, hf⟩ := h
  rcases Go.ChangeShapes.open_ints Try.underlying31 Try.underlying5 (by kernel_rfl) hf with ⟨hcs, _⟩ | ⟨x, l, c, zs, hcs, _, hl, hm, hz, _, hcell, hwz⟩
  · simp [Value.cells] at hcs
    obtain ⟨rfl, rfl, rfl⟩ := hcs
    exact ⟨[], rfl, .inl ⟨rfl, rfl⟩⟩
  · simp [Value.cells] at hcs
    obtain ⟨rfl, rfl, rfl⟩ := hcs
    simp only [if_true] at hz
    exact reads_of_ints hl hm (by omega) hwz (fun e => by cases e) (fun a' e c hc => by cases e; exact hcell c (by omega))
end Go.Proofs.Ytlinkpjneehnbaa
