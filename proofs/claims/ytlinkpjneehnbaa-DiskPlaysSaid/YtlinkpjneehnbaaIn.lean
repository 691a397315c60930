/- What came in: slices of bytes and slices of slices of bytes, as lists. -/
import Derived.Test.YtlinkpjneehnbaaBox
import Derived.Deep.Matrix
namespace Go.Proofs.Ytlinkpjneehnbaa
open Go.RowKit Go.MapKept

theorem in_u8 {n : Int} (h : (Lit.int .u8 n).wf = true) : u8v (UInt8.ofNat n.toNat) = .int .u8 n ∧ 0 ≤ n ∧ n ≤ 255 := by
  have h2 : 0 ≤ n ∧ n ≤ 255 := by simpa [Lit.wf, IntKind.min, IntKind.max, IntKind.signed, IntKind.bits] using h
  refine ⟨?_, h2⟩
  unfold u8v
  rw [UInt8.toNat_ofNat']
  congr 1
  omega
theorem in_ints {w : World} {A : Option Addr} {L C : Nat} {zs : List Int} (h1 : L ≤ C) (h2 : C ≤ maxLen) (h3 : L ≤ zs.length) (h4 : ∀ n ∈ zs, (Lit.int .u8 n).wf = true) (h5 : A = none → C = 0)
    (h6 : ∀ a', A = some a' → ∀ c, c < L → w.cell? (a'.add c) = some (.int .u8 (zs.getD c 0))) : ∃ p : List UInt8, p.length = L ∧ Reads w (.slice A L C) p := by
  refine ⟨(zs.take L).map (fun n => UInt8.ofNat n.toNat), by simp; omega, ?_⟩
  cases A with
  | none =>
    have := h5 rfl
    obtain rfl : C = 0 := this
    obtain rfl : L = 0 := by omega
    exact .inl ⟨rfl, by simp⟩
  | some a =>
    have hlen : ((zs.take L).map (fun n => UInt8.ofNat n.toNat)).length = L := by simp; omega
    refine .inr ⟨a, C, by rw [hlen], by omega, h2, fun j u hu => ?_⟩
    have hj : j < L := by
      have := (List.getElem?_eq_some_iff.1 hu).1
      simp at this; omega
    have hz : zs[j]? = some (zs.getD j 0) := by
      rw [List.getD_eq_getElem?_getD, List.getElem?_eq_getElem (by omega)]; rfl
    rw [List.getElem?_map, List.getElem?_map, List.getElem?_take, if_pos hj, hz] at hu
    simp only [Option.map_some, Option.some.injEq] at hu
    rw [← hu, (in_u8 (h4 _ (List.mem_of_getElem? hz))).1]
    exact h6 a rfl j hj
theorem list_of {α : Type} (n : Nat) (P : Nat → α → Prop) (h : ∀ i, i < n → ∃ x, P i x) : ∃ l : List α, l.length = n ∧ ∀ i x, l[i]? = some x → P i x := by
  induction n with
  | zero => exact ⟨[], rfl, fun i x hx => by simp at hx⟩
  | succ n ih =>
    obtain ⟨l, hl, hp⟩ := ih (fun i hi => h i (by omega))
    obtain ⟨x, hx⟩ := h n (by omega)
    refine ⟨l ++ [x], by simp [hl], fun i y hy => ?_⟩
    rcases Nat.lt_or_ge i l.length with hi | hi
    · rw [List.getElem?_append_left hi] at hy
      exact hp i y hy
    · rw [List.getElem?_append_right hi] at hy
      match hk : i - l.length, hy with
      | 0, hy =>
        simp at hy
        subst hy
        have : i = n := by omega
        subst this; exact hx
      | k + 1, hy => simp at hy

variable {H : Type} {enc : TypeId × Value → H}
/-- A slice of slices of bytes. -/
theorem in_rows {W : World} {a : Option Addr} {len cap : Nat} {d : DataW H} {p : List MemPlace} (h : DataW.Trod enc Try.prog W 0 (fun _ => true) true 34 (.slice a len cap) d p) :
    ∃ ll : List (List UInt8), ll.length = len ∧ len ≤ cap ∧ cap ≤ maxLen ∧ RowsIn W (.slice a len cap) ll := by
  obtain ⟨fuel, hf⟩ := h
  rcases Go.Deep.open_int_rows Try.underlying34 Try.underlying31 Try.underlying5 (by kernel_rfl) (by kernel_rfl) hf with ⟨hcs, _⟩ | ⟨x, l, c, A, L, C, Z, hcs, _, hl, hm, _, hrows⟩
  · simp [Value.cells] at hcs
    obtain ⟨rfl, rfl, rfl⟩ := hcs
    exact ⟨[], rfl, Nat.le_refl _, Nat.zero_le _, none, 0, rfl, fun i l hi => by simp at hi⟩
  · simp [Value.cells] at hcs
    obtain ⟨rfl, rfl, rfl⟩ := hcs
    obtain ⟨ll, hll, hp⟩ := list_of (α := List UInt8) len (fun i l => ∃ v, W.cell? (x.add i) = some v ∧ Reads W v l) (fun i hi => by
      obtain ⟨r1, r2, r3, r4, r5, r6, r7⟩ := hrows i (by omega)
      obtain ⟨p, _, hp⟩ := in_ints r2 r3 (by omega) r5 r6 (fun a' e c hc => (r7 a' e).2 c (by omega))
      exact ⟨p, _, r1, hp⟩)
    refine ⟨ll, hll, hl, hm, some x, cap, by rw [hll], fun i l hi => ?_⟩
    obtain ⟨v, hv, hr⟩ := hp i l hi
    exact ⟨x, v, rfl, hv, hr⟩
/-- A slice of bytes. -/
theorem in_bytes {W : World} {a : Option Addr} {len cap : Nat} {d : DataW H} {p : List MemPlace} (h : DataW.Trod enc Try.prog W 0 (fun _ => true) true 31 (.slice a len cap) d p) :
    ∃ l : List UInt8, l.length = len ∧ Reads W (.slice a len cap) l := by
  obtain ⟨fuel, hf⟩ := h
  rcases Go.ChangeShapes.open_ints Try.underlying31 Try.underlying5 (by kernel_rfl) hf with ⟨hcs, _⟩ | ⟨x, l, c, zs, hcs, _, hl, hm, hz, _, hcell, hwz⟩
  · simp [Value.cells] at hcs
    obtain ⟨rfl, rfl, rfl⟩ := hcs
    exact ⟨[], rfl, .inl ⟨rfl, rfl⟩⟩
  · simp [Value.cells] at hcs
    obtain ⟨rfl, rfl, rfl⟩ := hcs
    simp only [if_true] at hz
    exact in_ints hl hm (by omega) hwz (fun e => by cases e) (fun a' e c hc => by cases e; exact hcell c (by omega))
end Go.Proofs.Ytlinkpjneehnbaa
