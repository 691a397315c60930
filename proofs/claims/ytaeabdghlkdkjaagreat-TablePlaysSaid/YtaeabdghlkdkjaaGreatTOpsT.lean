/- The steps of a script of layer 11, as they came in. -/
import Derived.Test.YtaeabdghlkdkjaaGreatTIn11
namespace Go.Proofs.YtaeabdghlkdkjaaGreat
set_option linter.unusedVariables false
open Go.RowKit Go.MapKept Go.Deep

section
variable {H : Type} {enc : TypeId × Value → H}
theorem in_tchsV {W : World} {n : Nat} {v : Value} {y : DataW H × List MemPlace} (h : DataW.trod enc Tryz.prog W 0 (fun _ => true) true n 52 [v] = some y) : ∃ (l : List TCh) (a : Option Addr) (c : Nat), v = .slice a l.length c ∧ l.length ≤ c ∧ c ≤ maxLen ∧ TChsIn W a l := by
  have hv : ∃ a len cap, v = .slice a len cap := by
    rcases Go.Deep.open_slice Tryz.underlying52 h with ⟨hcs, _⟩ | ⟨x, l, c, m, n, D, Pl, hcs, _⟩
    · simp at hcs; exact ⟨_, _, _, hcs⟩
    · simp at hcs; exact ⟨_, _, _, hcs⟩
  obtain ⟨a, len, cap, rfl⟩ := hv
  obtain ⟨h1, h2, l, rfl, h3⟩ := in_tchs (enc := enc) (W := W) (a := a) (len := len) (cap := cap) (d := y.1) (p := y.2) ⟨n, h⟩
  exact ⟨l, a, cap, rfl, h1, h2, h3⟩
/-- A step of a script of layer 11, as it came in. -/
structure OpT where
  kind : Int
  l : List TCh
  n : Int
  m : Int
def OpsTIn (W : World) (a : Option Addr) (len : Nat) : Prop := ∀ i, i < len → ∃ (x : Addr) (o : OpT) (la : Option Addr) (lc : Nat), a = some x ∧ W.cell? (x.add (i * 4)) = some (.int .i64 o.kind) ∧ W.cell? { block := (x.add (i * 4)).block, off := (x.add (i * 4)).off + 1 } = some (.slice la o.l.length lc) ∧
  W.cell? { block := (x.add (i * 4)).block, off := (x.add (i * 4)).off + 2 } = some (.int .i64 o.n) ∧ W.cell? { block := (x.add (i * 4)).block, off := (x.add (i * 4)).off + 3 } = some (.int .i64 o.m) ∧ o.l.length ≤ lc ∧ lc ≤ maxLen ∧ TChsIn W la o.l ∧ o.n ≤ 9223372036854775807
theorem in_opsT {W : World} {a : Option Addr} {len cap : Nat} {d : DataW H} {p : List MemPlace} (h : DataW.Trod enc Tryz.prog W 0 (fun _ => true) true 50 (.slice a len cap) d p) : len ≤ cap ∧ cap ≤ maxLen ∧ OpsTIn W a len := by
  obtain ⟨h1, h2, h3⟩ := in_structs Tryz.underlying50 Tryz.underlying54 (by kernel_rfl) (by kernel_rfl) h
  refine ⟨h1, h2, fun i hi => ?_⟩
  obtain ⟨x, rfl, hf⟩ := h3 i hi
  obtain ⟨v0, _, _, k0, n0, t0⟩ := hf 0 _ rfl
  obtain ⟨v1, _, _, k1, n1, t1⟩ := hf 1 _ rfl
  obtain ⟨v2, _, _, k2, n2, t2⟩ := hf 2 _ rfl
  obtain ⟨v3, _, _, k3, n3, t3⟩ := hf 3 _ rfl
  obtain ⟨a0, rfl, _⟩ := in_int t0
  obtain ⟨l1, la, lc, rfl, b1, b2, r1⟩ := in_tchsV t1
  obtain ⟨a2, rfl, w2⟩ := in_int t2
  obtain ⟨a3, rfl, w3⟩ := in_int t3
  have e1 : (W.cell? (x.add (i * 4 + 1))) = some (.slice la l1.length lc) := k1
  have e2 : (W.cell? (x.add (i * 4 + 2))) = some (.int .i64 a2) := k2
  have e3 : (W.cell? (x.add (i * 4 + 3))) = some (.int .i64 a3) := k3
  rw [← Addr.add_add, Addr.add_succ'] at e1 e2 e3
  exact ⟨x, ⟨a0, l1, a2, a3⟩, la, lc, rfl, k0, e1, e2, e3, b1, b2, r1, w2.1⟩
end
/-- The block of a step, filled. -/
def opTObj (k : Int) (lv : Value) (n m : Int) : Obj := .cells #[.int .i64 k, lv, .int .i64 n, .int .i64 m] 54 (0, 0)
theorem opT_at {w : World} {t : Nat} {k n m : Int} {lv : Value} (hb : w.heap[t]? = some (opTObj k lv n m)) :
    w.cell? ⟨t, 0, none⟩ = some (.int .i64 k) ∧ w.cell? ⟨t, 1, none⟩ = some lv ∧ w.cell? ⟨t, 2, none⟩ = some (.int .i64 n) ∧ w.cell? ⟨t, 3, none⟩ = some (.int .i64 m) :=
  ⟨cell_at hb rfl, cell_at hb rfl, cell_at hb rfl, cell_at hb rfl⟩
end Go.Proofs.YtaeabdghlkdkjaaGreat
