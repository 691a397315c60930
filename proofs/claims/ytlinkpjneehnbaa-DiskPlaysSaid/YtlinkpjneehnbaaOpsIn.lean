/- What came in: slices of structs of one-cell fields; the steps of a script of layer 10. -/
import Derived.Test.YtlinkpjneehnbaaIn
import Derived.Deep.Slices
import Derived.Deep.Fields
import Derived.ChangeSame
namespace Go.Proofs.Ytlinkpjneehnbaa
open Go.RowKit Go.MapKept Go.Deep

variable {H : Type} {enc : TypeId × Value → H}
/-- Each field of each element of a slice of structs, as it was read. -/
theorem in_structs {t e : TypeId} {fs : Array Field} (ht : Try.prog.underlying t = some (.slice e)) (he : Try.prog.underlying e = some (.struct fs)) (hone : oneCellFields Try.prog fs = true) (hC : Try.prog.cellsOf e = fs.size)
    {W : World} {a : Option Addr} {len cap : Nat} {d : DataW H} {p : List MemPlace} (h : DataW.Trod enc Try.prog W 0 (fun _ => true) true t (.slice a len cap) d p) :
    len ≤ cap ∧ cap ≤ maxLen ∧ ∀ i, i < len → ∃ x, a = some x ∧ ∀ (j : Nat) (f : Field), fs[j]? = some f → ∃ (v : Value) (d' : DataW H) (p' : List MemPlace), W.cell? (x.add (i * fs.size + j)) = some v ∧ ∃ n, DataW.trod enc Try.prog W 0 (fun _ => true) true n f.type [v] = some (d', p') := by
  obtain ⟨fuel, hf⟩ := h
  rcases Go.Deep.open_slice ht hf with ⟨hcs, _⟩ | ⟨x, l, c, m, n, D, Pl, hcs, _, hl, hm, hmm, _, hi⟩
  · simp [Value.cells] at hcs
    obtain ⟨rfl, rfl, rfl⟩ := hcs
    exact ⟨Nat.le_refl _, Nat.zero_le _, fun i h => by omega⟩
  · simp [Value.cells] at hcs
    obtain ⟨rfl, rfl, rfl⟩ := hcs
    simp only [if_true] at hmm
    refine ⟨hl, hm, fun i hlt => ⟨x, rfl, fun j f hj => ?_⟩⟩
    obtain ⟨cs', hc, ht'⟩ := hi i (by omega)
    rw [hC] at hc
    obtain ⟨ys, n', _, _, _, hyl, hfs⟩ := DataW.trod_struct he ht'
    obtain ⟨_, hcl, hat⟩ := World.cells?_some hc
    obtain ⟨ho, hk⟩ := Go.Deep.hone_of hone j f hj
    have hjl : j < fs.size := (Array.getElem?_eq_some_iff.1 hj).1
    have h1 := hfs j f hj
    rw [ho, hk] at h1
    have e1 : (cs'.drop j).take 1 = [cs'[j]'(by omega)] := by
      rw [List.drop_eq_getElem_cons (by omega)]; rfl
    rw [e1, List.getElem?_eq_getElem (by omega)] at h1
    refine ⟨cs'[j]'(by omega), (ys[j]'(by omega)).1, (ys[j]'(by omega)).2, ?_, n', h1⟩
    rw [← Go.Deep.add_add, hat j hjl, List.getElem?_eq_getElem (by omega)]
theorem in_int {W : World} {n : Nat} {v : Value} {y : DataW H × List MemPlace} (h : DataW.trod enc Try.prog W 0 (fun _ => true) true n 3 [v] = some y) : ∃ k : Int, v = .int .i64 k ∧ k ≤ 9223372036854775807 ∧ -9223372036854775808 ≤ k := by
  obtain ⟨k, hk, _, hw⟩ := DataW.trod_int Try.underlying3 h
  simp at hk
  have h2 : -9223372036854775808 ≤ k ∧ k ≤ 9223372036854775807 := by simpa [Lit.wf, IntKind.min, IntKind.max, IntKind.signed, IntKind.bits] using hw
  exact ⟨k, hk, h2.2, h2.1⟩
theorem in_bytesV {W : World} {n : Nat} {v : Value} {y : DataW H × List MemPlace} (h : DataW.trod enc Try.prog W 0 (fun _ => true) true n 31 [v] = some y) : ∃ l : List UInt8, Reads W v l := by
  have hv : ∃ a len cap, v = .slice a len cap := by
    rcases Go.ChangeShapes.open_ints Try.underlying31 Try.underlying5 (by kernel_rfl) h with ⟨hcs, _⟩ | ⟨x, l, c, zs, hcs, _⟩
    · simp at hcs; exact ⟨_, _, _, hcs⟩
    · simp at hcs; exact ⟨_, _, _, hcs⟩
  obtain ⟨a, len, cap, rfl⟩ := hv
  obtain ⟨l, _, hr⟩ := in_bytes (enc := enc) (W := W) (a := a) (len := len) (cap := cap) (d := y.1) (p := y.2) ⟨n, h⟩
  exact ⟨l, hr⟩
theorem in_rowsV {W : World} {n : Nat} {v : Value} {y : DataW H × List MemPlace} (h : DataW.trod enc Try.prog W 0 (fun _ => true) true n 34 [v] = some y) : ∃ (ll : List (List UInt8)) (a : Option Addr) (cap : Nat), v = .slice a ll.length cap ∧ ll.length ≤ cap ∧ cap ≤ maxLen ∧ RowsIn W v ll := by
  have hv : ∃ a len cap, v = .slice a len cap := by
    rcases Go.Deep.open_slice Try.underlying34 h with ⟨hcs, _⟩ | ⟨x, l, c, m, n, D, Pl, hcs, _⟩
    · simp at hcs; exact ⟨_, _, _, hcs⟩
    · simp at hcs; exact ⟨_, _, _, hcs⟩
  obtain ⟨a, len, cap, rfl⟩ := hv
  obtain ⟨ll, rfl, h1, h2, h3⟩ := in_rows (enc := enc) (W := W) (a := a) (len := len) (cap := cap) (d := y.1) (p := y.2) ⟨n, h⟩
  exact ⟨ll, a, cap, rfl, h1, h2, h3⟩

/-- A step of a script of layer 10, as it came in. -/
structure OpJ where
  kind : Int
  p : List UInt8
  recs : List (List UInt8)
  n : Int
  m : Int
structure OpAt (W : World) (x : Addr) (i : Nat) (o : OpJ) (pv rv : Value) : Prop where
  c0 : W.cell? (x.add (i * 5)) = some (.int .i64 o.kind)
  c1 : W.cell? (x.add (i * 5 + 1)) = some pv
  c2 : W.cell? (x.add (i * 5 + 2)) = some rv
  c3 : W.cell? (x.add (i * 5 + 3)) = some (.int .i64 o.n)
  c4 : W.cell? (x.add (i * 5 + 4)) = some (.int .i64 o.m)
  p : Reads W pv o.p
  r : RowsIn W rv o.recs ∧ ∃ a c, rv = .slice a o.recs.length c ∧ o.recs.length ≤ c ∧ c ≤ maxLen
  n : o.n ≤ 9223372036854775807 ∧ -9223372036854775808 ≤ o.n
  m : o.m ≤ 9223372036854775807 ∧ -9223372036854775808 ≤ o.m
def OpsIn (W : World) (a : Option Addr) (len : Nat) : Prop := ∀ i, i < len → ∃ x o pv rv, a = some x ∧ OpAt W x i o pv rv
theorem in_ops {W : World} {a : Option Addr} {len cap : Nat} {d : DataW H} {p : List MemPlace} (h : DataW.Trod enc Try.prog W 0 (fun _ => true) true 65 (.slice a len cap) d p) : len ≤ cap ∧ cap ≤ maxLen ∧ OpsIn W a len := by
  obtain ⟨h1, h2, h3⟩ := in_structs Try.underlying65 Try.underlying67 (by kernel_rfl) (by kernel_rfl) h
  refine ⟨h1, h2, fun i hi => ?_⟩
  obtain ⟨x, rfl, hf⟩ := h3 i hi
  obtain ⟨v0, _, _, k0, n0, t0⟩ := hf 0 _ rfl
  obtain ⟨v1, _, _, k1, n1, t1⟩ := hf 1 _ rfl
  obtain ⟨v2, _, _, k2, n2, t2⟩ := hf 2 _ rfl
  obtain ⟨v3, _, _, k3, n3, t3⟩ := hf 3 _ rfl
  obtain ⟨v4, _, _, k4, n4, t4⟩ := hf 4 _ rfl
  obtain ⟨a0, rfl, _⟩ := in_int t0
  obtain ⟨l1, r1⟩ := in_bytesV t1
  obtain ⟨l2, a2, c2, e2, b1, b2, r2⟩ := in_rowsV t2
  obtain ⟨a3, rfl, w3⟩ := in_int t3
  obtain ⟨a4, rfl, w4⟩ := in_int t4
  exact ⟨x, ⟨a0, l1, l2, a3, a4⟩, v1, v2, rfl, k0, k1, k2, k3, k4, r1, ⟨r2, a2, c2, e2, b1, b2⟩, w3, w4⟩
end Go.Proofs.Ytlinkpjneehnbaa
