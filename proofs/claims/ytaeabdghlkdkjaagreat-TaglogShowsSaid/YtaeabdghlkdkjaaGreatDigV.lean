/- The digest as a function of bytes. -/
import Derived.Test.YtaeabdghlkdkjaaGreatDigR
namespace Go.Proofs.YtaeabdghlkdkjaaGreat
set_option linter.unusedVariables false
open Go.RowKit Go.MapKept

theorem blockV_length (K H : List Int) (p : List UInt8) : (blockV K H p).length = H.length := addN_length _ _ _
theorem list8 {H : List Int} (h : H.length = 8) : ∃ h0 h1 h2 h3 h4 h5 h6 h7, H = [h0, h1, h2, h3, h4, h5, h6, h7] := by
  match H, h with
  | [a, b, c, d, e, f, g, i], _ => exact ⟨a, b, c, d, e, f, g, i, rfl⟩
/-- The words behind the first j blocks of bytes. -/
def hashN (M : List UInt8) : Nat → List Int
  | 0 => hWords
  | j + 1 => blockV kWords (hashN M j) ((M.drop (64 * j)).take 64)
theorem hashN_length (M : List UInt8) : ∀ j, (hashN M j).length = 8
  | 0 => rfl
  | j + 1 => by rw [hashN, blockV_length]; exact hashN_length M j
theorem hashN_append (M p : List UInt8) : ∀ j, 64 * j ≤ M.length → hashN (M ++ p) j = hashN M j
  | 0, _ => rfl
  | j + 1, h => by
    rw [hashN, hashN, hashN_append M p j (by omega), List.drop_append_of_le_length (by omega), List.take_append_of_le_length (by rw [List.length_drop]; omega)]
/-- All words are words. -/
def Words (H : List Int) : Prop := ∀ x ∈ H, 0 ≤ x ∧ x < 4294967296
theorem addN_words (H V : List Int) (hH : H.length = 8) : ∀ n, n ≤ 8 → ∀ i x, i < n → (addN H V n)[i]? = some x → 0 ≤ x ∧ x < 4294967296
  | 0, _, i, x, hi, _ => by omega
  | n + 1, hn, i, x, hi, hx => by
    rw [addN] at hx
    by_cases he : n = i
    · subst he
      rw [List.getElem?_set_self (by rw [addN_length, hH]; omega)] at hx
      simp only [Option.some.injEq] at hx
      rw [← hx]
      omega
    · rw [List.getElem?_set_ne he] at hx
      exact addN_words H V hH n (by omega) i x (by omega) hx
theorem hashN_words (M : List UInt8) : ∀ j, Words (hashN M j)
  | 0 => by
    intro x hx
    simp only [hashN, hWords, List.mem_cons, List.not_mem_nil, or_false] at hx
    omega
  | j + 1 => by
    intro x hx
    obtain ⟨i, hi⟩ := List.mem_iff_getElem?.1 hx
    have hl := (List.getElem?_eq_some_iff.1 hi).1
    rw [hashN_length] at hl
    exact addN_words _ _ (hashN_length M j) 8 (by omega) i x hl hi
def hashH (M : List UInt8) : List Int := hashN M (M.length / 64)
/-- The state at s is that of the bytes M. -/
def StAt (w : World) (s : Nat) (M : List UInt8) : Prop :=
  ∃ tail : List UInt8, w.heap[s]? = some (stObj (hashH M) (restOf (M.length : Int) tail)) ∧ tail.length = 64 ∧ tail.take (M.length % 64) = M.drop (64 * (M.length / 64))
/-- It has taken j blocks of the bytes M in. -/
def MidAt (w : World) (s : Nat) (M : List UInt8) (j : Nat) : Prop :=
  ∃ tail : List UInt8, w.heap[s]? = some (stObj (hashN M j) (restOf (M.length : Int) tail)) ∧ tail.length = 64 ∧ 64 * j ≤ M.length
theorem StAt.end_ {w : World} {s : Nat} {M tail : List UInt8} {j : Nat} (hh : w.heap[s]? = some (stObj (hashN M j) (restOf (M.length : Int) ((M.drop (64 * j)) ++ tail.drop (M.drop (64 * j)).length)))) (hl : tail.length = 64) (h1 : 64 * j ≤ M.length) (h2 : (M.drop (64 * j)).length < 64) : StAt w s M := by
  rw [List.length_drop] at h2
  have hj : M.length / 64 = j := by omega
  have hm : M.length % 64 = M.length - 64 * j := by omega
  refine ⟨_, by unfold hashH; rw [hj]; exact hh, ?_, ?_⟩
  · rw [List.length_append, List.length_drop, List.length_drop, hl]; omega
  · rw [hj, hm, List.take_append_of_le_length (by rw [List.length_drop]; omega), List.take_of_length_le (by rw [List.length_drop]; omega)]
theorem mid_next {M : List UInt8} {j : Nat} (h : 64 ≤ (M.drop (64 * j)).length) : hashN M (j + 1) = blockV kWords (hashN M j) ((M.drop (64 * j)).take 64) ∧ (M.drop (64 * j)).drop 64 = M.drop (64 * (j + 1)) ∧ 64 * (j + 1) ≤ M.length := by
  rw [List.length_drop] at h
  exact ⟨rfl, by rw [List.drop_drop, show 64 * j + 64 = 64 * (j + 1) by omega], by omega⟩
/-- A part of a block is there: the first piece of more bytes. -/
theorem part_stay {L l tail : List UInt8} (ht : tail.length = 64) (h : tail.take (L.length % 64) = L.drop (64 * (L.length / 64))) (hs : L.length % 64 + l.length < 64) :
    hashH (L ++ l) = hashH L ∧ (tail.take (L.length % 64) ++ l ++ tail.drop (L.length % 64 + l.length)).take ((L ++ l).length % 64) = (L ++ l).drop (64 * ((L ++ l).length / 64)) := by
  have e1 : (L ++ l).length / 64 = L.length / 64 := by rw [List.length_append]; omega
  have e2 : (L ++ l).length % 64 = L.length % 64 + l.length := by rw [List.length_append]; omega
  refine ⟨?_, ?_⟩
  · unfold hashH; rw [e1, hashN_append _ _ _ (by omega)]
  · rw [e1, e2, List.drop_append_of_le_length (by omega), ← h, List.take_append_of_le_length (by rw [List.length_append, List.length_take]; omega), List.take_of_length_le (by rw [List.length_append, List.length_take]; omega)]
theorem part_full {L l tail : List UInt8} (ht : tail.length = 64) (h : tail.take (L.length % 64) = L.drop (64 * (L.length / 64))) (hs : 64 ≤ L.length % 64 + l.length) :
    hashN (L ++ l) (L.length / 64) = hashH L ∧ tail.take (L.length % 64) ++ l.take (64 - L.length % 64) = ((L ++ l).drop (64 * (L.length / 64))).take 64 ∧ l.drop (64 - L.length % 64) = (L ++ l).drop (64 * (L.length / 64 + 1)) := by
  refine ⟨hashN_append _ _ _ (by omega), ?_, ?_⟩
  · rw [List.drop_append_of_le_length (by omega), ← h, List.take_append, List.length_take, ht, Nat.min_eq_left (by omega), List.take_take, Nat.min_eq_right (by omega)]
  · have e : 64 * (L.length / 64 + 1) = L.length + (64 - L.length % 64) := by omega
    rw [e, List.drop_append]
    simp
end Go.Proofs.YtaeabdghlkdkjaaGreat
