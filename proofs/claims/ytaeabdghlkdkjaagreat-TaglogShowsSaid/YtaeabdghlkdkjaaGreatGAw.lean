/- Law 15: what an Add comes to on a disk with room. -/
import Derived.Test.YtaeabdghlkdkjaaGreatGOpd
namespace Go.Proofs.YtaeabdghlkdkjaaGreat
set_option linter.unusedVariables false
open Go.RowKit Go.MapKept

theorem keyOf_size (x : Nat) : (keyOf x).size = 10 := by
  unfold keyOf
  rw [ByteArray.size_append]
  have h : (hexOf (putOf x 4)).length = 8 := by rw [hexOf_length, putOf_length]
  have : (ByteArray.mk (hexOf (putOf x 4)).toArray).size = (hexOf (putOf x 4)).length := by simp [ByteArray.size]
  rw [this, h]
  rfl
def entCh (k : Nat) (p : List UInt8) : TCh := ⟨keyOf k, false, p⟩
theorem ent_good (k : Nat) {p : List UInt8} (hp : p.length ≤ 262144) : badCh (entCh k p) = false := by
  have := keyOf_size k
  unfold badCh entCh
  dsimp only
  rw [this]
  simp
  omega
theorem textOf_le (p : List UInt8) (h : p.length < 1099511627776) : (textOf p).length ≤ p.length + 10 := by
  unfold textOf
  have := countOf_len10 (n := p.length) (by omega)
  rw [List.length_append]
  omega
theorem ent_enc (k : Nat) {p : List UInt8} (hp : p.length ≤ 500) : (encOf [entCh k p]).1 = 0 ∧ (encOf [entCh k p]).2.length ≤ p.length + 52 := by
  have hk : (keyOf k).toList.length = 10 := by rw [key_len]; exact keyOf_size k
  have e1 := textOf_le (keyOf k).toList (by omega)
  have e2 := textOf_le p (by omega)
  have hs : (([entCh k p].map encCh).flatten).length ≤ p.length + 41 := by
    simp only [List.map_cons, List.map_nil, List.flatten_cons, List.flatten_nil, encCh, entCh, List.length_append, Bool.false_eq_true, if_false, List.length_cons, List.length_nil]
    omega
  have h0 := enc_fits (l := [entCh k p]) (by simp) (by intro c hc; rw [List.mem_singleton.1 hc]; exact ent_good k (by omega)) (by omega)
  refine ⟨h0, ?_⟩
  rw [(enc_ok h0).2.1, List.length_append]
  have := countOf_len10 (n := [entCh k p].length) (by simp)
  omega
/-- An Add of an entry on a disk of its own. -/
theorem add_oneT {room : Int} {b : List UInt8} {size : Nat} {fs : FS} (k : Nat) {p : List UInt8} (hp : p.length ≤ 500) (hr : (b.length : Int) + (p.length + 60) ≤ room) : ∃ b' size', tAppOf ⟨oneT room b, size, fs, false⟩ nmT [entCh k p] = (0, ⟨oneT room b', size', tdo fs (entCh k p), false⟩) ∧ b'.length ≤ b.length + (p.length + 60) ∧ size' ≤ size + (p.length + 60) := by
  obtain ⟨h0, h1⟩ := ent_enc k hp
  rw [app_oneT h0 (by omega)]
  refine ⟨_, _, rfl, ?_, ?_⟩
  · rw [List.length_append, frameOf_length]; omega
  · omega
theorem oneT_good {room : Int} {b : List UInt8} (h0 : (b.length : Int) ≤ room) (h1 : room ≤ 67108864) : Good (oneT room b) 0 := by
  refine ⟨?_, h1, ?_, ?_, Nat.le_refl _, ?_, rfl, ?_, ?_⟩
  · have : (0 : Int) ≤ room := by omega
    exact this
  · exact (show (-1 : Int) ≤ -1 by decide)
  · exact (show (-1 : Int) ≤ 9223372036854775807 by decide)
  · simp [FNodup, oneT]
  · intro k
    simp [oneT, used]
    exact h0
  · intro c hc
    simp [oneT] at hc
/-- A literal's bytes. -/
def litObj (x : Nat) : Obj := .cells #[.int .u8 (x : Int)] 5 (1, 2)
theorem lit_reads {w wr : World} {rs : List (Res w.heap.size)} (h : Own w wr rs) {b : Nat} {u : UInt8} (hm : rObj w.heap.size b (litObj u.toNat) ∈ rs) : Reads wr (.slice (some ⟨b, 0, none⟩) 1 1) [u] := by
  refine .inr ⟨_, 1, rfl, by simp, by simp [maxLen], fun j v hv => ?_⟩
  match j, hv with
  | 0, hv =>
    simp only [List.map_cons, List.map_nil, List.getElem?_cons_zero, Option.some.injEq] at hv
    rw [← hv, Addr.add_lit]
    exact cell_at (h.at hm).1 rfl
  | j + 1, hv => simp at hv
end Go.Proofs.YtaeabdghlkdkjaaGreat
