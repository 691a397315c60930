/- Counts, texts and changes are read back off their bytes. Plain. -/
import Derived.Test.YtaeabdghlkdkjaaTabV
namespace Go.Proofs.Ytaeabdghlkdkjaa
set_option linter.unusedVariables false
open Go.RowKit Go.MapKept

theorem pow_7 (i : Nat) : 2 ^ (7 * (i + 1)) = 2 ^ (7 * i) * 128 := by rw [show 7 * (i + 1) = 7 * i + 7 by omega, Nat.pow_add]
theorem rcFrom_le : ∀ (b : List UInt8) (i n : Nat), (rcFrom b i n).2.1 ≤ i + b.length
  | [], i, n => by simp [rcFrom]
  | c :: b, i, n => by
    rw [rcFrom]
    split
    · simp
    · split
      · simp
      · have := rcFrom_le b (i + 1) (n + (c.toNat % 128) * 2 ^ (7 * i))
        rw [List.length_cons]; omega
theorem rcFrom_code : ∀ (b : List UInt8) (i n : Nat), (rcFrom b i n).2.2 = 0 ∨ (rcFrom b i n).2.2 = 9 ∨ (rcFrom b i n).2.2 = 10
  | [], i, n => .inr (.inl rfl)
  | c :: b, i, n => by
    rw [rcFrom]
    split
    · exact .inr (.inr rfl)
    · split
      · exact .inl rfl
      · exact rcFrom_code b _ _
theorem rcFrom_lt : ∀ (b : List UInt8) (i n : Nat), i ≤ 9 → n < 2 ^ (7 * i) → (rcFrom b i n).1 < 18446744073709551616
  | [], i, n, _, _ => by simp [rcFrom]
  | c :: b, i, n, hi, hn => by
    rw [rcFrom]
    split
    · simp
    · rename_i hno
      split
      · rename_i hc
        show n + c.toNat * 2 ^ (7 * i) < _
        by_cases h9 : i = 9
        · subst h9
          have h63 : (2 : Nat) ^ (7 * 9) = 9223372036854775808 := by decide
          rw [h63] at hn ⊢
          omega
        · have h1 : 2 ^ (7 * (i + 1)) ≤ 2 ^ (7 * 9) := Nat.pow_le_pow_right (by omega) (by omega)
          have h63 : (2 : Nat) ^ (7 * 9) = 9223372036854775808 := by decide
          rw [h63, pow_7] at h1
          have h2 : c.toNat * 2 ^ (7 * i) ≤ 127 * 2 ^ (7 * i) := Nat.mul_le_mul_right _ (by omega)
          omega
      · rename_i hc
        by_cases h9 : i = 9
        · exact absurd (.inl ⟨h9, by omega⟩) hno
        · refine rcFrom_lt b (i + 1) _ (by omega) ?_
          rw [pow_7]
          have h2 : (c.toNat % 128) * 2 ^ (7 * i) ≤ 127 * 2 ^ (7 * i) := Nat.mul_le_mul_right _ (by omega)
          omega
theorem readCount_le (b : List UInt8) : (readCountOf b).2.1 ≤ b.length := by have := rcFrom_le b 0 0; unfold readCountOf; omega
theorem readCount_lt (b : List UInt8) : (readCountOf b).1 < 18446744073709551616 := rcFrom_lt b 0 0 (by omega) (by simp)
theorem readCount_code (b : List UInt8) : (readCountOf b).2.2 = 0 ∨ (readCountOf b).2.2 = 9 ∨ (readCountOf b).2.2 = 10 := rcFrom_code b 0 0
theorem readText_le (b : List UInt8) (most : Nat) : (readTextOf b most).2.1 ≤ b.length ∧ (readTextOf b most).1.length ≤ b.length ∧ (readTextOf b most).1.length ≤ most := by
  have h := readCount_le b
  unfold readTextOf
  split
  · split
    · simp
    · split
      · simp
      · simp only [List.length_take, List.length_drop]; omega
  · simp
theorem readText_code (b : List UInt8) (most : Nat) : 0 ≤ (readTextOf b most).2.2 ∧ (readTextOf b most).2.2 ≤ 10 := by
  have h := readCount_code b
  unfold readTextOf
  split
  · split
    · simp
    · split <;> simp
  · show 0 ≤ (readCountOf b).2.2 ∧ (readCountOf b).2.2 ≤ 10
    omega

theorem rcFrom_count : ∀ (k m i n : Nat) (rest : List UInt8), m < 128 ^ (k + 1) → i ≤ 9 → m * 2 ^ (7 * i) < 18446744073709551616 → (0 < i → 0 < m) → rcFrom (countOf m ++ rest) i n = (n + m * 2 ^ (7 * i), i + (countOf m).length, 0)
  | k, m, i, n, rest, hk, hi, hm, hp => by
    by_cases h : m < 128
    · have e : (UInt8.ofNat m).toNat = m := by simp; omega
      rw [countOf_small h, List.singleton_append, rcFrom, e, if_neg, if_pos h]
      · rfl
      · rintro (⟨rfl, h1⟩ | ⟨h1, h2⟩)
        · have h63 : (2 : Nat) ^ (7 * 9) = 9223372036854775808 := by decide
          rw [h63] at hm; omega
        · have := hp h1; omega
    · have e : (UInt8.ofNat (m % 128 + 128)).toNat = m % 128 + 128 := by simp; omega
      have h9 : i ≠ 9 := by
        rintro rfl
        have h63 : (2 : Nat) ^ (7 * 9) = 9223372036854775808 := by decide
        rw [h63] at hm; omega
      have hd : m = 128 * (m / 128) + m % 128 := by omega
      have hq : (m / 128) * (2 ^ (7 * i) * 128) = 128 * (m / 128) * 2 ^ (7 * i) := by rw [Nat.mul_comm (2 ^ (7 * i)), ← Nat.mul_assoc, Nat.mul_comm (m / 128)]
      have hs : m * 2 ^ (7 * i) = 128 * (m / 128) * 2 ^ (7 * i) + (m % 128) * 2 ^ (7 * i) := by rw [← Nat.add_mul, ← hd]
      rw [countOf_big h, List.cons_append, rcFrom, e, if_neg (by rintro (⟨h1, _⟩ | ⟨_, h2⟩); exact h9 h1; omega), if_neg (by omega)]
      match k, hk with
      | 0, hk => exact absurd hk (by simp; omega)
      | k + 1, hk =>
        rw [rcFrom_count k (m / 128) (i + 1) _ rest (by rw [Nat.div_lt_iff_lt_mul (by omega)]; rw [Nat.pow_succ] at hk; exact hk) (by omega) (by rw [pow_7, hq]; omega) (fun _ => by omega), pow_7, hq, hs, List.length_cons]
        rw [show (m % 128 + 128) % 128 = m % 128 by omega]
        congr 1
        · omega
        · congr 1; omega
theorem readCount_count {n : Nat} (h : n < 18446744073709551616) (rest : List UInt8) : readCountOf (countOf n ++ rest) = (n, (countOf n).length, 0) := by
  have := rcFrom_count 9 n 0 0 rest (Nat.lt_of_lt_of_le h (by decide)) (by omega) (by simpa using h) (fun h => absurd h (by omega))
  unfold readCountOf
  rw [this]
  simp
theorem readText_text {p : List UInt8} {most : Nat} (h : p.length ≤ most) (h2 : most < 18446744073709551616) (rest : List UInt8) : readTextOf (textOf p ++ rest) most = (p, (textOf p).length, 0) := by
  have e : readCountOf (textOf p ++ rest) = (p.length, (countOf p.length).length, 0) := by unfold textOf; rw [List.append_assoc]; exact readCount_count (by omega) _
  unfold readTextOf
  rw [e, if_pos rfl, if_neg (by omega), if_neg (by unfold textOf; simp only [List.length_append]; omega)]
  unfold textOf
  rw [List.append_assoc, List.drop_left, List.take_left, List.length_append]

/-- A change as its record tells it. -/
def normCh (c : TCh) : TCh := if c.gone = true then { c with val := [] } else c
theorem tdo_norm (fs : FS) (c : TCh) : tdo fs (normCh c) = tdo fs c := by
  unfold normCh tdo
  by_cases h : c.gone = true
  · rw [if_pos h, if_pos h]; simp [h]
  · rw [if_neg h]
theorem tdos_norm : ∀ (l : List TCh) (fs : FS), tdos fs (l.map normCh) = tdos fs l
  | [], fs => rfl
  | c :: l, fs => by
    show tdos (tdo fs (normCh c)) (l.map normCh) = tdos (tdo fs c) l
    rw [tdo_norm, tdos_norm]
theorem key_list (s : ByteArray) : (⟨s.toList.toArray⟩ : ByteArray) = s := by rw [ByteArray.toList_eq]
theorem key_len (s : ByteArray) : s.toList.length = s.size := by rw [ByteArray.toList_eq, Array.length_toList]; rfl
theorem badCh_false {c : TCh} (h : badCh c = false) : 0 < c.key.size ∧ c.key.size ≤ 320 ∧ c.val.length ≤ 262144 := by
  unfold badCh at h
  simp only [Bool.or_eq_false_iff, decide_eq_false_iff_not] at h
  omega
theorem decCh_enc {c : TCh} (h : badCh c = false) (rest : List UInt8) : decCh (encCh c ++ rest) = some (normCh c, rest) := by
  obtain ⟨h0, h1, h2⟩ := badCh_false h
  have hk : c.key.toList.length ≤ 320 := by rw [key_len]; exact h1
  have hne : c.key.toList ≠ [] := fun e => by have := key_len c.key; rw [e] at this; simp at this; omega
  cases c with
  | mk key gone val =>
  cases gone with
  | true =>
    have e := readText_text (most := 320) hk (by omega) rest
    show decCh (0 :: (textOf key.toList ++ rest)) = _
    unfold decCh
    simp only [e, List.drop_left]
    simp only [key_list, normCh]
    simp [hne]
  | false =>
    have e := readText_text (most := 320) hk (by omega) (textOf val ++ rest)
    have e2 := readText_text (most := 262144) h2 (by omega) rest
    show decCh (1 :: (textOf key.toList ++ textOf val ++ rest)) = _
    rw [List.append_assoc]
    unfold decCh
    simp only [e, List.drop_left, e2]
    simp only [key_list, normCh]
    simp [hne]
theorem decFrom_enc : ∀ (l : List TCh) (out : List TCh), (∀ c ∈ l, badCh c = false) → decFrom l.length (l.map encCh).flatten out = some (out ++ l.map normCh)
  | [], out, _ => by simp [decFrom]
  | c :: l, out, h => by
    rw [List.length_cons, decFrom, List.map_cons, List.flatten_cons, decCh_enc (h c (List.mem_cons_self ..))]
    show decFrom l.length (l.map encCh).flatten (out ++ [normCh c]) = _
    rw [decFrom_enc l _ (fun x hx => h x (List.mem_cons_of_mem _ hx))]
    simp
theorem encFrom_ok : ∀ (l : List TCh) (out : List UInt8), (encFrom l out).1 = 0 → (encFrom l out).2 = out ++ (l.map encCh).flatten ∧ (∀ c ∈ l, badCh c = false) ∧ (out.length ≤ 1048568 → (encFrom l out).2.length ≤ 1048568)
  | [], out, _ => ⟨by simp [encFrom], by simp, fun h => h⟩
  | c :: l, out, h => by
    rw [encFrom] at h ⊢
    cases hb : badCh c with
    | true => rw [hb, if_pos rfl] at h; cases h
    | false =>
      rw [hb, if_neg (by simp)] at h
      rw [if_neg (by simp)]
      by_cases hl : 1048568 < (out ++ encCh c).length
      · rw [if_pos hl] at h; cases h
      · rw [if_neg hl] at h
        rw [if_neg hl]
        obtain ⟨h1, h2, h3⟩ := encFrom_ok l _ h
        refine ⟨by rw [h1]; simp, fun x hx => ?_, fun _ => h3 (by omega)⟩
        rcases List.mem_cons.1 hx with rfl | hx
        · exact hb
        · exact h2 x hx
theorem encFrom_bad : ∀ (l : List TCh) (out : List UInt8), (encFrom l out).1 ≠ 0 → (encFrom l out).2 = []
  | [], out, h => absurd rfl h
  | c :: l, out, h => by
    rw [encFrom] at h ⊢
    split
    · rfl
    · rename_i h1
      rw [if_neg h1] at h
      split
      · rfl
      · rename_i h2
        rw [if_neg h2] at h
        exact encFrom_bad l _ h
theorem enc_ok {l : List TCh} (h : (encOf l).1 = 0) : l.length ≤ 256 ∧ (encOf l).2 = countOf l.length ++ (l.map encCh).flatten ∧ (∀ c ∈ l, badCh c = false) ∧ (encOf l).2.length ≤ 1048568 := by
  unfold encOf at h ⊢
  by_cases hl : 256 < l.length
  · rw [if_pos hl] at h; cases h
  · rw [if_neg hl] at h
    rw [if_neg hl]
    obtain ⟨h1, h2, h3⟩ := encFrom_ok l _ h
    exact ⟨by omega, h1, h2, h3 (by have := countOf_len10 (n := l.length) (by omega); omega)⟩
theorem dec_enc {l : List TCh} (h : (encOf l).1 = 0) : decOf (encOf l).2 = some (l.map normCh) := by
  obtain ⟨h1, h2, h3, h4⟩ := enc_ok h
  rw [h2]
  unfold decOf
  rw [readCount_count (by omega), if_pos ⟨rfl, h1⟩]
  show decFrom l.length ((countOf l.length ++ (l.map encCh).flatten).drop (countOf l.length).length) [] = _
  rw [List.drop_left, decFrom_enc l [] h3]
  rfl
theorem enc_code (l : List TCh) : (encOf l).1 = 0 ∨ (encOf l).1 = 1 ∨ (encOf l).1 = 8 := by
  have : ∀ (l : List TCh) (out : List UInt8), (encFrom l out).1 = 0 ∨ (encFrom l out).1 = 1 ∨ (encFrom l out).1 = 8 := by
    intro l
    induction l with
    | nil => intro out; exact .inl rfl
    | cons c l ih =>
      intro out
      rw [encFrom]
      split
      · exact .inr (.inl rfl)
      · split
        · exact .inr (.inr rfl)
        · exact ih _
  unfold encOf
  split
  · exact .inr (.inr rfl)
  · exact this _ _
end Go.Proofs.Ytaeabdghlkdkjaa
