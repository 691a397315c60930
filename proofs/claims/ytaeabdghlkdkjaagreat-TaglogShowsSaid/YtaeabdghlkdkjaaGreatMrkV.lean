/- Trees of sums: roots, ways, proofs; what shows what. Plain. -/
import Derived.Test.YtaeabdghlkdkjaaGreatDgE
namespace Go.Proofs.YtaeabdghlkdkjaaGreat
set_option linter.unusedVariables false
open Go.RowKit Go.MapKept

abbrev Dg := List UInt8
def leafOf (p : List UInt8) : Dg := sumOf (0 :: p)
def nodeOf (l r : Dg) : Dg := sumOf (1 :: (l ++ r))
theorem leafOf_length (p : List UInt8) : (leafOf p).length = 32 := sumOf_length _
theorem nodeOf_length (l r : Dg) : (nodeOf l r).length = 32 := sumOf_length _
/-- The greatest power of two below n. -/
def halfOf (n : Nat) : Nat := 2 ^ Nat.log2 (n - 1)
theorem half_lt {n : Nat} (h : 2 ≤ n) : halfOf n < n := by
  have := Nat.log2_self_le (n := n - 1) (by omega)
  unfold halfOf
  omega
theorem half_pos (n : Nat) : 0 < halfOf n := Nat.two_pow_pos _
theorem half_ge {n : Nat} (h : 2 ≤ n) : n ≤ 2 * halfOf n := by
  have := Nat.lt_log2_self (n := n - 1)
  unfold halfOf
  rw [Nat.pow_succ] at this
  omega
theorem half_of_pow {n J : Nat} (h1 : 2 ^ J < n) (h2 : n ≤ 2 ^ (J + 1)) : halfOf n = 2 ^ J := by
  unfold halfOf
  congr 1
  exact (Nat.log2_eq_iff (by have := Nat.two_pow_pos J; omega)).2 ⟨by omega, by omega⟩
theorem half_eq {n m : Nat} (hn : 2 ≤ n) (h1 : halfOf n < m) (h2 : m ≤ n) : halfOf m = halfOf n := by
  have h3 := half_ge hn
  rw [half_of_pow (J := Nat.log2 (n - 1)) (by unfold halfOf at h1; exact h1) (by unfold halfOf at h3; rw [Nat.pow_succ]; omega)]
  rfl

/-! ### Roots, ways and proofs -/
def rootOf (l : List Dg) : Dg :=
  if h : 2 ≤ l.length then nodeOf (rootOf (l.take (halfOf l.length))) (rootOf (l.drop (halfOf l.length))) else (l[0]?).getD (sumOf [])
termination_by l.length
decreasing_by
  · have := half_lt h
    rw [List.length_take]; omega
  · have := half_pos l.length
    rw [List.length_drop]; omega
theorem rootOf_two {l : List Dg} (h : 2 ≤ l.length) : rootOf l = nodeOf (rootOf (l.take (halfOf l.length))) (rootOf (l.drop (halfOf l.length))) := by rw [rootOf, dif_pos h]
theorem rootOf_one (x : Dg) : rootOf [x] = x := by rw [rootOf, dif_neg (by simp)]; rfl
theorem rootOf_nil : rootOf [] = sumOf [] := by rw [rootOf, dif_neg (by simp)]; rfl
theorem rootOf_length {l : List Dg} (h : Len32 l) : (rootOf l).length = 32 := by
  by_cases h2 : 2 ≤ l.length
  · rw [rootOf_two h2]; exact nodeOf_length _ _
  · match l, h2 with
    | [], _ => rw [rootOf_nil]; exact sumOf_length _
    | [x], _ => rw [rootOf_one]; exact h x (by simp)
    | x :: y :: l, h2 => simp at h2
def pathOf (l : List Dg) (i : Nat) : List Dg :=
  if h : 2 ≤ l.length then
    (if i < halfOf l.length then pathOf (l.take (halfOf l.length)) i ++ [rootOf (l.drop (halfOf l.length))]
     else pathOf (l.drop (halfOf l.length)) (i - halfOf l.length) ++ [rootOf (l.take (halfOf l.length))])
  else []
termination_by l.length
decreasing_by
  · have := half_lt h
    rw [List.length_take]; omega
  · have := half_pos l.length
    rw [List.length_drop]; omega
def proofOf (l : List Dg) (m : Nat) (whole : Bool) : List Dg :=
  if m = l.length then (if whole = true then [] else [rootOf l])
  else if h : 2 ≤ l.length then
    (if m ≤ halfOf l.length then proofOf (l.take (halfOf l.length)) m whole ++ [rootOf (l.drop (halfOf l.length))]
     else proofOf (l.drop (halfOf l.length)) (m - halfOf l.length) false ++ [rootOf (l.take (halfOf l.length))])
  else []
termination_by l.length
decreasing_by
  · have := half_lt h
    rw [List.length_take]; omega
  · have := half_pos l.length
    rw [List.length_drop]; omega
theorem Len32.take {L : List Dg} (h : Len32 L) (k : Nat) : Len32 (L.take k) := fun x hx => h x (List.mem_of_mem_take hx)
theorem Len32.drop {L : List Dg} (h : Len32 L) (k : Nat) : Len32 (L.drop k) := fun x hx => h x (List.mem_of_mem_drop hx)

/-! ### Climbing a way -/
/-- Step t of a climb. -/
def clmStep (i last : Nat) (d : Dg) (way : List Dg) : Option (Dg × List Dg) :=
  if i % 2 = 1 ∨ i < last then (match way with | [] => none | x :: way => some (if i % 2 = 1 then nodeOf x d else nodeOf d x, way)) else some (d, way)
/-- The climb's first t steps. -/
def clm : Nat → Nat → Nat → Dg → List Dg → Option (Dg × List Dg)
  | 0, _, _, d, way => some (d, way)
  | t + 1, i, last, d, way => match clm t i last d way with | none => none | some (d', way') => clmStep (i / 2 ^ t) (last / 2 ^ t) d' way'
theorem clm_path : ∀ (J : Nat) (l : List Dg) (i H M : Nat) (x : Dg) (rest : List Dg), l[i]? = some x → l.length ≤ 2 ^ J → H * 2 ^ J + (l.length - 1) ≤ M → (M = H * 2 ^ J + (l.length - 1) ∨ l.length = 2 ^ J) →
    clm J (H * 2 ^ J + i) M x (pathOf l i ++ rest) = some (rootOf l, rest)
  | 0, l, i, H, M, x, rest, hx, hl, _, _ => by
    have hi := (List.getElem?_eq_some_iff.1 hx).1
    match l, hl with
    | [], _ => simp at hi
    | [y], _ =>
      have : i = 0 := by simp at hi; omega
      subst this
      simp at hx
      subst hx
      rw [pathOf, dif_neg (by simp), rootOf_one]
      rfl
    | y :: z :: l, hl => simp at hl
  | J + 1, l, i, H, M, x, rest, hx, hl, hM, hM2 => by
    have hi := (List.getElem?_eq_some_iff.1 hx).1
    have hp := Nat.two_pow_pos J
    have h2 : 2 ^ (J + 1) = 2 * 2 ^ J := by rw [Nat.pow_succ]; omega
    have hH : H * 2 ^ (J + 1) = 2 * H * 2 ^ J := by rw [h2, ← Nat.mul_assoc, Nat.mul_comm H 2]
    have hdiv : ∀ (A r : Nat), r < 2 ^ J → (A * 2 ^ J + r) / 2 ^ J = A := fun A r hr => by
      rw [Nat.add_comm, Nat.add_mul_div_right _ _ hp, Nat.div_eq_of_lt hr, Nat.zero_add]
    rw [clm]
    by_cases hle : l.length ≤ 2 ^ J
    · have hMe : M = H * 2 ^ (J + 1) + (l.length - 1) := by
        rcases hM2 with h | h
        · exact h
        · omega
      rw [hH] at hMe ⊢
      rw [clm_path J l i (2 * H) M x rest hx hle (by omega) (.inl hMe)]
      simp only
      rw [hdiv (2 * H) i (by omega), hMe, hdiv (2 * H) _ (by omega)]
      unfold clmStep
      rw [if_neg (by omega)]
    · have hk : halfOf l.length = 2 ^ J := half_of_pow (by omega) hl
      have hl2 : 2 ≤ l.length := by omega
      rw [pathOf, dif_pos hl2, rootOf_two hl2, hk]
      by_cases hik : i < 2 ^ J
      · rw [if_pos hik, List.append_assoc]
        have htl : (l.take (2 ^ J)).length = 2 ^ J := by rw [List.length_take]; omega
        rw [hH]
        rw [clm_path J (l.take (2 ^ J)) i (2 * H) M x _ (by rw [List.getElem?_take_of_lt hik]; exact hx) (by omega) (by rw [htl]; rw [hH] at hM; omega) (.inr htl)]
        simp only
        rw [hdiv (2 * H) i hik]
        have hlast : 2 * H + 1 ≤ M / 2 ^ J := by
          rw [Nat.le_div_iff_mul_le hp, Nat.add_mul, Nat.one_mul]
          rw [hH] at hM
          omega
        unfold clmStep
        rw [if_pos (by omega)]
        simp only [List.singleton_append]
        rw [if_neg (by omega)]
      · rw [if_neg hik, List.append_assoc]
        have htl : (l.drop (2 ^ J)).length = l.length - 2 ^ J := by rw [List.length_drop]
        have hI : H * 2 ^ (J + 1) + i = (2 * H + 1) * 2 ^ J + (i - 2 ^ J) := by rw [hH, Nat.add_mul, Nat.one_mul]; omega
        rw [hI]
        rw [clm_path J (l.drop (2 ^ J)) (i - 2 ^ J) (2 * H + 1) M x _ (by rw [List.getElem?_drop, show 2 ^ J + (i - 2 ^ J) = i by omega]; exact hx) (by omega) (by rw [htl, Nat.add_mul, Nat.one_mul]; rw [hH] at hM; omega) (by
          rw [htl, Nat.add_mul, Nat.one_mul]
          rw [hH] at hM2
          omega)]
        simp only
        rw [hdiv (2 * H + 1) (i - 2 ^ J) (by omega)]
        unfold clmStep
        rw [if_pos (by omega)]
        simp only [List.singleton_append]
        rw [if_pos (by omega)]

/-! ### A proof that a tree goes on -/
def growOf : Nat → Dg → Nat → Nat → Bool → List Dg → Option (Dg × Dg × List Dg)
  | 0, _, _, _, _, _ => none
  | f + 1, old, m, n, whole, way =>
    if m = n then (if whole = true then some (old, old, way) else match way with | [] => none | x :: way => some (x, x, way))
    else if m ≤ halfOf n then (match growOf f old m (halfOf n) whole way with
      | none => none
      | some (a, b, rest) => match rest with | [] => none | x :: rest => some (a, nodeOf b x, rest))
    else (match growOf f old (m - halfOf n) (n - halfOf n) false way with
      | none => none
      | some (a, b, rest) => match rest with | [] => none | x :: rest => some (nodeOf x a, nodeOf x b, rest))
theorem grow_proof : ∀ (f : Nat) (l : List Dg) (m : Nat) (whole : Bool) (old : Dg) (rest : List Dg), l.length ≤ f → 0 < m → m ≤ l.length → (whole = true → old = rootOf (l.take m)) →
    growOf f old m l.length whole (proofOf l m whole ++ rest) = some (rootOf (l.take m), rootOf l, rest)
  | 0, l, m, whole, old, rest, hf, h0, hm, _ => by omega
  | f + 1, l, m, whole, old, rest, hf, h0, hm, ho => by
    unfold growOf
    rw [proofOf]
    by_cases he : m = l.length
    · rw [if_pos he, if_pos he, he, List.take_length]
      cases whole with
      | true => rw [if_pos rfl, if_pos rfl, ho rfl, he, List.take_length]; rfl
      | false => rw [if_neg (by simp), if_neg (by simp)]; rfl
    · have h2 : 2 ≤ l.length := by omega
      have hlt := half_lt h2
      have hps := half_pos l.length
      rw [if_neg he, if_neg he, dif_pos h2]
      by_cases hmk : m ≤ halfOf l.length
      · rw [if_pos hmk, if_pos hmk]
        have htl : (l.take (halfOf l.length)).length = halfOf l.length := by rw [List.length_take]; omega
        have htt : (l.take (halfOf l.length)).take m = l.take m := by rw [List.take_take, Nat.min_eq_left hmk]
        have ih := grow_proof f (l.take (halfOf l.length)) m whole old ([rootOf (l.drop (halfOf l.length))] ++ rest) (by omega) h0 (by omega) (fun e => by rw [htt]; exact ho e)
        rw [htl, htt] at ih
        rw [List.append_assoc, ih]
        simp only [List.singleton_append]
        rw [rootOf_two h2]
      · rw [if_neg hmk, if_neg hmk]
        have htl : (l.drop (halfOf l.length)).length = l.length - halfOf l.length := by rw [List.length_drop]
        have ih := grow_proof f (l.drop (halfOf l.length)) (m - halfOf l.length) false old ([rootOf (l.take (halfOf l.length))] ++ rest) (by omega) (by omega) (by omega) (fun e => by cases e)
        rw [htl] at ih
        rw [List.append_assoc, ih]
        simp only [List.singleton_append]
        have hml : (l.take m).length = m := by rw [List.length_take]; omega
        have hhm : halfOf m = halfOf l.length := half_eq h2 (by omega) hm
        rw [rootOf_two h2, rootOf_two (l := l.take m) (by omega), hml, hhm, List.take_take, Nat.min_eq_left (by omega), List.drop_take]
end Go.Proofs.YtaeabdghlkdkjaaGreat
