/- The sum of bytes: octet's and the document's are one. -/
import Derived.Test.YtlinkpjneehnbaaOctet
import Derived.Laws.BitsAllLaws
namespace Go.Proofs.Ytlinkpjneehnbaa
open Go.RowKit Go.MapKept

def crcBit (c : Nat) : Nat := if c % 2 = 1 then (c / 2) ^^^ 3988292384 else c / 2
def crcBits : Nat → Nat → Nat
  | 0, c => c
  | j + 1, c => crcBit (crcBits j c)
def crcStep (c : Nat) (b : UInt8) : Nat := crcBits 8 (c ^^^ b.toNat)
def crcAll (l : List UInt8) : Nat := l.foldl crcStep 4294967295
def crcOf (l : List UInt8) : Nat := 4294967295 - crcAll l
theorem crcBit_lt {c : Nat} (h : c < 4294967296) : crcBit c < 4294967296 := by
  unfold crcBit
  split
  · exact Nat.xor_lt_two_pow (n := 32) (by omega) (by omega)
  · omega
theorem crcBits_lt : ∀ (j : Nat) {c : Nat}, c < 4294967296 → crcBits j c < 4294967296
  | 0, _, h => h
  | j + 1, _, h => crcBit_lt (crcBits_lt j h)
theorem crcIn_lt {c : Nat} (h : c < 4294967296) (b : UInt8) : c ^^^ b.toNat < 4294967296 := Nat.xor_lt_two_pow (n := 32) (by omega) (by have := b.toNat_lt; omega)
theorem crcStep_lt {c : Nat} (h : c < 4294967296) (b : UInt8) : crcStep c b < 4294967296 := crcBits_lt 8 (crcIn_lt h b)
theorem crcFold_lt : ∀ (l : List UInt8) {c : Nat}, c < 4294967296 → l.foldl crcStep c < 4294967296
  | [], _, h => h
  | b :: l, _, h => crcFold_lt l (crcStep_lt h b)
theorem crcAll_lt (l : List UInt8) : crcAll l < 4294967296 := crcFold_lt l (by omega)
theorem crcAll_succ {l : List UInt8} {k : Nat} (h : k < l.length) : crcAll (l.take (k + 1)) = crcStep (crcAll (l.take k)) l[k] := by
  unfold crcAll
  rw [List.take_succ_eq_append_getElem h, List.foldl_append]
  rfl
theorem nat_not32 {t : Nat} (h : t < 4294967296) : 4294967295 ^^^ t = 4294967295 - t := by
  have e : 4294967295 - t = 2 ^ 32 - (t + 1) := by omega
  rw [e]
  apply Nat.eq_of_testBit_eq
  intro i
  rw [Nat.testBit_two_pow_sub_succ (by omega), Nat.testBit_xor, show (4294967295 : Nat) = 2 ^ 32 - 1 by rfl, Nat.testBit_two_pow_sub_one]
  by_cases hi : i < 32
  · simp [hi]
  · have : t.testBit i = false := Nat.testBit_lt_two_pow (Nat.lt_of_lt_of_le (show t < 2 ^ 32 by omega) (Nat.pow_le_pow_right (by omega) (by omega)))
    simp [hi, this]
theorem crc_not {t : Nat} (h : t < 4294967296) : bits .xor .u32 IntKind.u32.max (t : Int) = 4294967295 - (t : Int) := by
  have := u32_xor_nat 4294967295 t (by omega) h
  rw [nat_not32 h] at this
  have e : IntKind.u32.max = ((4294967295 : Nat) : Int) := by decide
  rw [e, this]
  omega
theorem crc_k1 : bits .and .u32 3988292384 4294967295 = 3988292384 := by decide +kernel
theorem crc_k0 : bits .and .u32 3988292384 0 = 0 := by decide +kernel
theorem crc_odd {t : Nat} (ht : t < 4294967296) (hp : t % 2 = 1) : bits .and .u32 (t : Int) 1 = 1 ∧ bits .xor .u32 ((t : Int) / 2) 3988292384 = ((crcBit t : Nat) : Int) := by
  constructor
  · have := u32_and_nat t 1 ht (by omega)
    rw [nat_mask1, hp] at this; exact this
  · have := u32_xor_nat (t / 2) 3988292384 (by omega) (by omega)
    unfold crcBit
    rw [if_pos hp]
    exact this
theorem crc_even {t : Nat} (ht : t < 4294967296) (hp : ¬ t % 2 = 1) : bits .and .u32 (t : Int) 1 = 0 ∧ bits .xor .u32 ((t : Int) / 2) 0 = ((crcBit t : Nat) : Int) := by
  constructor
  · have := u32_and_nat t 1 ht (by omega)
    rw [nat_mask1, show t % 2 = 0 by omega] at this; exact this
  · have := u32_xor_nat (t / 2) 0 (by omega) (by omega)
    unfold crcBit
    rw [if_neg hp]
    rw [show t / 2 ^^^ 0 = t / 2 from Nat.xor_zero _] at this
    exact this
set_option maxRecDepth 100000 in
theorem crc_calls {w : World} {v : Value} {l : List UInt8} (h : Reads w v l) : Calls Try.prog 81 #[v] w (QuietP w (.int .u32 (crcOf l : Int))) := by
  obtain ⟨a, c, rfl, hc1, hc2⟩ := h.form
  have H := Lib.hid h
  unfold maxLen at hc2
  clear h
  go_enter Try.func81, Try.ntmps81
  go_wp2_with fail
  go_loopw [3, 8] (fun s i wr => ∃ k : Nat, k ≤ l.length ∧ i = .int .i64 (k : Int) ∧ s = .int .u32 (crcAll (l.take k) : Int) ∧ Keeps (fun _ => False) w wr) (fun _ i _ => l.length - (intOf i).toNat)
  case atStart => exact ⟨0, Nat.zero_le _, rfl, rfl, Keeps.refl _ _⟩
  case round =>
    obtain ⟨k, hk, rfl, rfl, hq⟩ := hrel
    by_cases hlt : k < l.length
    · obtain ⟨x, rfl, hx⟩ := (H.out.keep hq).cell rfl hlt
      have hs := crcAll_succ hlt
      have hc0 := crcAll_lt (l.take k)
      have hb := l[k].toNat_lt
      unfold crcStep at hs
      have hin := crcIn_lt hc0 l[k]
      generalize l[k].toNat = b at hx hs hb hin
      generalize crcAll (l.take k) = s0 at hs hc0 hin ⊢
      have e1 : bits .xor .u32 (s0 : Int) (b : Int) = ((s0 ^^^ b : Nat) : Int) := u32_xor_nat _ _ hc0 (by omega)
      have HS := Lib.hid hs
      have j0 : (0 : Int) ≤ k := by omega
      have j1 : (k : Int) < l.length := by omega
      generalize s0 ^^^ b = s1 at e1 HS hin
      have j2 : (b : Int) < 256 := by omega
      have j3 : (0 : Int) ≤ b := by omega
      clear hs hb hc0
      have HQ := Lib.hid hq
      clear hq
      go_wp2_with fail
      go_loopw [3, 16] (fun s i wr' => ∃ j : Nat, j ≤ 8 ∧ i = .int .i64 (j : Int) ∧ s = .int .u32 (crcBits j s1 : Int) ∧ wr' = wr) (fun _ i _ => 8 - (intOf i).toNat)
      case atStart => exact ⟨0, Nat.zero_le _, rfl, rfl, rfl⟩
      case round =>
        obtain ⟨j, hj, rfl, rfl, rfl⟩ := hrel
        by_cases hj8 : j < 8
        · have ht := crcBits_lt j hin
          have hst : crcBits (j + 1) s1 = crcBit (crcBits j s1) := rfl
          generalize crcBits j s1 = t at hst ht ⊢
          have j4 : (j : Int) < 8 := by omega
          have j5 : (0 : Int) ≤ j := by omega
          by_cases hp : t % 2 = 1
          · obtain ⟨e2, e3⟩ := crc_odd ht hp
            rw [← hst] at e3
            clear hst hp
            go_wp2_with fail
            go_roundw
            case rel => exact ⟨j + 1, by omega, rfl, by rw [crc_k1, e3], trivial⟩
            case measure => simp [intOf]; omega
          · obtain ⟨e2, e3⟩ := crc_even ht hp
            rw [← hst] at e3
            clear hst hp
            go_wp2_with fail
            go_roundw
            case rel => exact ⟨j + 1, by omega, rfl, by rw [crc_k0, e3], trivial⟩
            case measure => simp [intOf]; omega
        · obtain rfl : j = 8 := by omega
          rw [← HS.out]
          clear hj hj8
          go_wp2_with fail
          go_roundw
          case rel => exact ⟨k + 1, by omega, rfl, rfl, HQ.out⟩
          case measure => simp [intOf]; omega
    · obtain rfl : k = l.length := by omega
      rw [List.take_length]
      have hlt := crcAll_lt l
      have HQ := Lib.hid hq
      have e : ((crcOf l : Nat) : Int) = 4294967295 - (crcAll l : Int) := by unfold crcOf; omega
      rw [← crc_not hlt] at e
      have E := Lib.hid e
      clear e
      generalize crcAll l = s0 at hlt E ⊢
      clear hk hq
      go_wp2_with fail
      go_ret
      exact ⟨by rw [E.out]; rfl, HQ.out⟩

/-! ### The document's -/
set_option maxRecDepth 100000 in
theorem rcrc_calls {w : World} {v : Value} {l : List UInt8} (h : Reads w v l) : Calls Try.prog 109 #[v] w (QuietP w (.int .u32 (crcOf l : Int))) := by
  obtain ⟨a, c, rfl, hc1, hc2⟩ := h.form
  have H := Lib.hid h
  unfold maxLen at hc2
  clear h
  go_enter Try.func109, Try.ntmps109
  go_wp2_with fail
  go_loopw [3, 4] (fun s i wr => ∃ k : Nat, k ≤ l.length ∧ i = .int .i64 (k : Int) ∧ s = .int .u32 (crcAll (l.take k) : Int) ∧ Keeps (fun _ => False) w wr) (fun _ i _ => l.length - (intOf i).toNat)
  case atStart => exact ⟨0, Nat.zero_le _, rfl, rfl, Keeps.refl _ _⟩
  case round =>
    obtain ⟨k, hk, rfl, rfl, hq⟩ := hrel
    by_cases hlt : k < l.length
    · obtain ⟨x, rfl, hx⟩ := (H.out.keep hq).cell rfl hlt
      have hs := crcAll_succ hlt
      have hc0 := crcAll_lt (l.take k)
      have hb := l[k].toNat_lt
      unfold crcStep at hs
      have hin := crcIn_lt hc0 l[k]
      generalize l[k].toNat = b at hx hs hb hin
      generalize crcAll (l.take k) = s0 at hs hc0 hin ⊢
      have e1 : bits .xor .u32 (s0 : Int) (b : Int) = ((s0 ^^^ b : Nat) : Int) := u32_xor_nat _ _ hc0 (by omega)
      have HS := Lib.hid hs
      have j0 : (0 : Int) ≤ k := by omega
      have j1 : (k : Int) < l.length := by omega
      generalize s0 ^^^ b = s1 at e1 HS hin
      have j2 : (b : Int) < 256 := by omega
      have j3 : (0 : Int) ≤ b := by omega
      clear hs hb hc0
      have HQ := Lib.hid hq
      clear hq
      go_wp2_with fail
      go_loopw [3, 5] (fun s i wr' => ∃ j : Nat, j ≤ 8 ∧ i = .int .i64 (j : Int) ∧ s = .int .u32 (crcBits j s1 : Int) ∧ wr' = wr) (fun _ i _ => 8 - (intOf i).toNat)
      case atStart => exact ⟨0, Nat.zero_le _, rfl, rfl, rfl⟩
      case round =>
        obtain ⟨j, hj, rfl, rfl, rfl⟩ := hrel
        by_cases hj8 : j < 8
        · have ht := crcBits_lt j hin
          have hst : crcBits (j + 1) s1 = crcBit (crcBits j s1) := rfl
          generalize crcBits j s1 = t at hst ht ⊢
          have j4 : (j : Int) < 8 := by omega
          have j5 : (0 : Int) ≤ j := by omega
          by_cases hp : t % 2 = 1
          · obtain ⟨e2, e3⟩ := crc_odd ht hp
            have hp2 : (t : Int) % 2 = 1 := by omega
            have hp3 : (t : Int).tmod 2 = 1 := by rw [Int.tmod_eq_emod_of_nonneg (by omega)]; omega
            rw [← hst] at e3
            clear hst hp e2
            go_wp2_with fail
            go_roundw
            case rel => exact ⟨j + 1, by omega, rfl, rfl, trivial⟩
            case measure => simp [intOf]; omega
          · have e3 : crcBit t = t / 2 := by unfold crcBit; rw [if_neg hp]
            have hp2 : (t : Int) % 2 = 0 := by omega
            have hp3 : (t : Int).tmod 2 = 0 := by rw [Int.tmod_eq_emod_of_nonneg (by omega)]; omega
            rw [← hst] at e3
            clear hst hp
            go_wp2_with fail
            go_roundw
            case rel => exact ⟨j + 1, by omega, rfl, by rw [e3]; rfl, trivial⟩
            case measure => simp [intOf]; omega
        · obtain rfl : j = 8 := by omega
          rw [← HS.out]
          clear hj hj8
          go_wp2_with fail
          go_roundw
          case rel => exact ⟨k + 1, by omega, rfl, rfl, HQ.out⟩
          case measure => simp [intOf]; omega
    · obtain rfl : k = l.length := by omega
      rw [List.take_length]
      have hlt := crcAll_lt l
      have HQ := Lib.hid hq
      have e : ((crcOf l : Nat) : Int) = 4294967295 - (crcAll l : Int) := by unfold crcOf; omega
      have E := Lib.hid e
      clear e
      generalize crcAll l = s0 at hlt E ⊢
      have j6 : (s0 : Int) ≤ 4294967295 := by omega
      clear hk hq
      go_wp2_with fail
      go_ret
      exact ⟨by rw [E.out]; rfl, HQ.out⟩
end Go.Proofs.Ytlinkpjneehnbaa
