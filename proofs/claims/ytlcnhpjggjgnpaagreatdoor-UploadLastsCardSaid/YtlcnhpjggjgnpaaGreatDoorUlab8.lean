/- A part of the proof. -/
import Derived.Test.YtlcnhpjggjgnpaaGreatDoorUlaa8
import Derived.Test.YtlcnhpjggjgnpaaGreatDoorUlab4
namespace Go.Proofs.YtlcnhpjggjgnpaaGreatDoor
set_option linter.unusedVariables false
open Go.RowKit Go.MapKept Go.Deep
theorem list_of11 {α : Type} {P : Nat → α → Prop} : ∀ (n : Nat), (∀ i, i < n → ∃ c, P i c) → ∃ l : List α, l.length = n ∧ ∀ i c, l[i]? = some c → P i c
 | 0, _ => ⟨[], rfl, fun i c h => by simp at h⟩
 | n + 1, h => by
  obtain ⟨l, h1, h2⟩ := list_of11 n (fun i hi => h i (by omega))
  obtain ⟨c, hc⟩ := h n (by omega)
  refine ⟨l ++ [c], by rw [List.length_append, List.length_singleton, h1], fun i x hx => ?_⟩
  rw [List.getElem?_append] at hx
  split at hx
  ·exact h2 i x hx
  ·rename_i hi
   have : i - l.length = 0 := by
    cases hk : i - l.length with
    | zero => rfl
    | succ k => rw [hk] at hx; simp at hx
   rw [this] at hx
   simp at hx
   subst hx
   have : i = n := by omega
   rw [this]; exact hc
section
variable {H : Type} {enc : TypeId × Value → H}
theorem in_boolV {W : World} {n : Nat} {v : Value} {y : DataW H × List MemPlace} (h : DataW.trod enc Tryz.prog W 0 (fun _ => true) true n 4 [v] = some y) : ∃ b : Bool, v = .bool b := by
 obtain ⟨b, hb, _⟩ := DataW.trod_bool Tryz.underlying4 h
 simp at hb
 exact ⟨b, hb⟩
theorem in_tchs {W : World} {a : Option Addr} {len cap : Nat} {d : DataW H} {p : List MemPlace} (h : DataW.Trod enc Tryz.prog W 0 (fun _ => true) true 65 (.slice a len cap) d p) : len ≤ cap ∧ cap ≤ maxLen ∧ ∃ l : List TCh, l.length = len ∧ TChsIn W a l := by
 obtain ⟨h1, h2, h3⟩ := in_structs Tryz.underlying65 Tryz.underlying162 (by kernel_rfl) (by kernel_rfl) h
 refine ⟨h1, h2, list_of11 (P := fun i (c : TCh) => ∃ x p, a = some x ∧ W.cell? (x.add (i * 3)) = some (.string c.key) ∧ W.cell? (x.add (i * 3 + 1)) = some (.bool c.gone) ∧ W.cell? (x.add (i * 3 + 2)) = some p ∧ Reads W p c.val) len (fun i hi => ?_)⟩
 obtain ⟨x, rfl, hf⟩ := h3 i hi
 obtain ⟨v0, _, _, k0, n0, t0⟩ := hf 0 _ rfl
 obtain ⟨v1, _, _, k1, n1, t1⟩ := hf 1 _ rfl
 obtain ⟨v2, _, _, k2, n2, t2⟩ := hf 2 _ rfl
 obtain ⟨s0, rfl, _⟩ := in_str t0
 obtain ⟨b1, rfl⟩ := in_boolV t1
 obtain ⟨l2, r2⟩ := in_bytesV t2
 exact ⟨⟨s0, b1, l2⟩, x, v2, rfl, k0, k1, k2, r2⟩
end
end Go.Proofs.YtlcnhpjggjgnpaaGreatDoor
