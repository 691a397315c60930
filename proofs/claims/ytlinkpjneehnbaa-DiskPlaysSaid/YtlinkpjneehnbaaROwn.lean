/- The document's disk as a thing among others that do not touch: its New and Step; texts and scripts of layer 9 that came in. -/
import Derived.Test.YtlinkpjneehnbaaRStep
import Derived.Test.YtlinkpjneehnbaaTidy
import Derived.Test.YtlinkpjneehnbaaOpsIn
namespace Go.Proofs.Ytlinkpjneehnbaa
set_option linter.unusedVariables false
open Go.RowKit Go.MapKept Go.Deep

def rRef (B r : Nat) (m : DM) : Res B := ⟨fun F w => RefIs F w r m, fun _ _ _ h hk => h.keep (fun b hb => hk b (.inl hb))⟩
/-- What a call does to the document's disk that stands among other things. -/
def ROwn (w : World) (r : Nat) (rs : List (Res w.heap.size)) (res : Int × DM) (e : Ending) (w' : World) : Prop := e = .returned (.int .i64 res.1) ∧ Own w w' (rRef w.heap.size r res.2 :: rs)
theorem Own.rnew {w wr : World} {rs : List (Res w.heap.size)} (h : Own w wr rs) (room : Int) :
    ∃ r w', Runs 51 #[.int .i64 room] wr (.pointer (some ⟨r, 0, none⟩)) w' ∧ Own w w' (rRef w.heap.size r (newOf room) :: rs) := by
  obtain ⟨r, w', hr, hd, k⟩ := rnew_runs wr room
  exact ⟨r, w', hr, h.add k (r := rRef _ r (newOf room)) hd (fun b hb => by rcases hb with hb | hb; exact hb.elim; exact hb)⟩
theorem Own.rstep {w wr : World} {r : Nat} {m : DM} {rs : List (Res w.heap.size)} (h : Own w wr (rRef w.heap.size r m :: rs)) {n t : Nat} (ht : Tidy m n t) (hn : n < 1099511627776) (htt : t < 549755813888) (c : Ch) (hk : 0 ≤ c.kind ∧ c.kind ≤ 3) (hp0 : c.kind ≠ 1 → c.p = []) {pv : Value}
    (hp : ∀ (F : Nat → Prop) (w' : World), (∀ b, F b → w.heap.size ≤ b ∧ b < wr.heap.size) → Keeps F wr w' → Reads w' pv c.p) :
    Calls Try.prog 54 #[.pointer (some ⟨r, 0, none⟩), .agg #[.int .i64 c.kind, .string c.a, .string c.b, pv]] wr (ROwn w r rs (stepOf m c)) := by
  obtain ⟨F, h1, h2, back⟩ := h.open1
  refine (rstep_calls (h1 : RefIs F wr r m) c (fun w' hk' => hp F w' h2 hk') hk hp0 ht.snow ht.good.fuse (Nat.lt_of_le_of_lt ht.lnow htt) (ht.good.loose hn) ht.good.unow ht.good.room0 ht.good.room1).mono ?_
  rintro e w' ⟨he, h3, h4⟩
  exact ⟨he, back w' (rRef _ r (stepOf m c).2) h4 h3⟩
/-- What holds of the document's disk in memory. -/
theorem Own.ref {w wr : World} {r : Nat} {m : DM} {rs : List (Res w.heap.size)} (h : Own w wr rs) (hm : rRef w.heap.size r m ∈ rs) : ∃ F : Nat → Prop, RefIs F wr r m := by
  obtain ⟨F, h1, _⟩ := h.mem hm
  exact ⟨F, h1⟩
theorem reads_nil (w : World) : Reads w (.slice none 0 0) [] := .inl ⟨rfl, rfl⟩

/-! ### What came in -/
variable {H : Type} {enc : TypeId × Value → H}
theorem in_str {W : World} {n : Nat} {v : Value} {y : DataW H × List MemPlace} (h : DataW.trod enc Try.prog W 0 (fun _ => true) true n 9 [v] = some y) : ∃ s : ByteArray, v = .string s ∧ s.size ≤ maxLen := by
  obtain ⟨s, hs, _, hz⟩ := DataW.trod_string Try.underlying9 h
  simp at hs
  exact ⟨s, hs, hz⟩
/-- A slice of texts. -/
def StrsIn (W : World) (a : Option Addr) (len : Nat) : Prop := ∀ i, i < len → ∃ x s, a = some x ∧ W.cell? (x.add i) = some (.string s) ∧ s.size ≤ maxLen
theorem in_strs {W : World} {a : Option Addr} {len cap : Nat} {d : DataW H} {p : List MemPlace} (h : DataW.Trod enc Try.prog W 0 (fun _ => true) true 72 (.slice a len cap) d p) : len ≤ cap ∧ cap ≤ maxLen ∧ StrsIn W a len := by
  obtain ⟨fuel, hf⟩ := h
  rcases open_slice1 Try.underlying72 (by kernel_rfl) hf with ⟨hcs, _⟩ | ⟨x, l, c, m, n, V, D, Pl, hcs, _, hl, hm, hmm, _, hi⟩
  · simp [Value.cells] at hcs
    obtain ⟨rfl, rfl, rfl⟩ := hcs
    exact ⟨Nat.le_refl _, Nat.zero_le _, fun i h => by omega⟩
  · simp [Value.cells] at hcs
    obtain ⟨rfl, rfl, rfl⟩ := hcs
    simp only [if_true] at hmm
    refine ⟨hl, hm, fun i hlt => ?_⟩
    obtain ⟨hc, ht⟩ := hi i (by omega)
    obtain ⟨s, hs, hz⟩ := in_str ht
    exact ⟨x, s, rfl, by rw [hc, hs], hz⟩
/-- A step of a script of layer 9, as it came in. -/
structure Op9 where
  kind : Int
  a : ByteArray
  b : ByteArray
  p : List UInt8
  n : Int
  m : Int
structure Op9At (W : World) (x : Addr) (i : Nat) (o : Op9) (pv : Value) : Prop where
  c0 : W.cell? (x.add (i * 6)) = some (.int .i64 o.kind)
  c1 : W.cell? (x.add (i * 6 + 1)) = some (.string o.a)
  c2 : W.cell? (x.add (i * 6 + 2)) = some (.string o.b)
  c3 : W.cell? (x.add (i * 6 + 3)) = some pv
  c4 : W.cell? (x.add (i * 6 + 4)) = some (.int .i64 o.n)
  c5 : W.cell? (x.add (i * 6 + 5)) = some (.int .i64 o.m)
  p : Reads W pv o.p
  n : o.n ≤ 9223372036854775807 ∧ -9223372036854775808 ≤ o.n
  m : o.m ≤ 9223372036854775807 ∧ -9223372036854775808 ≤ o.m
def Ops9In (W : World) (a : Option Addr) (len : Nat) : Prop := ∀ i, i < len → ∃ x o pv, a = some x ∧ Op9At W x i o pv
theorem in_ops9 {W : World} {a : Option Addr} {len cap : Nat} {d : DataW H} {p : List MemPlace} (h : DataW.Trod enc Try.prog W 0 (fun _ => true) true 89 (.slice a len cap) d p) : len ≤ cap ∧ cap ≤ maxLen ∧ Ops9In W a len := by
  obtain ⟨h1, h2, h3⟩ := in_structs Try.underlying89 Try.underlying91 (by kernel_rfl) (by kernel_rfl) h
  refine ⟨h1, h2, fun i hi => ?_⟩
  obtain ⟨x, rfl, hf⟩ := h3 i hi
  obtain ⟨v0, _, _, k0, n0, t0⟩ := hf 0 _ rfl
  obtain ⟨v1, _, _, k1, n1, t1⟩ := hf 1 _ rfl
  obtain ⟨v2, _, _, k2, n2, t2⟩ := hf 2 _ rfl
  obtain ⟨v3, _, _, k3, n3, t3⟩ := hf 3 _ rfl
  obtain ⟨v4, _, _, k4, n4, t4⟩ := hf 4 _ rfl
  obtain ⟨v5, _, _, k5, n5, t5⟩ := hf 5 _ rfl
  obtain ⟨a0, rfl, _⟩ := in_int t0
  obtain ⟨s1, rfl, _⟩ := in_str t1
  obtain ⟨s2, rfl, _⟩ := in_str t2
  obtain ⟨l3, r3⟩ := in_bytesV t3
  obtain ⟨a4, rfl, w4⟩ := in_int t4
  obtain ⟨a5, rfl, w5⟩ := in_int t5
  exact ⟨x, ⟨a0, s1, s2, l3, a4, a5⟩, v3, rfl, k0, k1, k2, k3, k4, k5, r3, w4, w5⟩
end Go.Proofs.Ytlinkpjneehnbaa
