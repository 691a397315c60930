/- A part of the proof. -/
import Derived.Test.YtddnikpdmjogiaaGreatYc7
namespace Go.Proofs.YtddnikpdmjogiaaGreat
set_option linter.unusedVariables false
open Go.RowKit Go.MapKept
theorem bits_or_comm (k : IntKind) (x y : Int) : bits .or k x y = bits .or k y x := by
 unfold bits
 simp only [BitVec.or_comm]
def turnV (x n : Int) : Int := bits .or .u32 (x / 2 ^ min n.toNat 32) (IntKind.u32.wrap (x * 2 ^ min (IntKind.u64.wrap (32 - n)).toNat 32))
set_option maxRecDepth 100000 in
theorem turn_runs (x n : Int) (w : World) (h1 : 0 ≤ n) (h2 : 0 ≤ IntKind.u64.wrap (32 - n)) : Runs 172 #[.int .u32 x, .int .u64 n] w (.int .u32 (turnV x n)) w := by
 unfold Runs turnV
 go_enter Tryz.func172, Tryz.ntmps172
 go_wp2_with fail
 go_ret
 exact ⟨rfl, rfl⟩
theorem turn_rot {n : Int} (x : Int) (h : rotS (wrap64 (-bits .and .i64 n 31)) = 32 - n) (h0 : 0 ≤ n) (h32 : n ≤ 32) : turnV x n = rotV x n := by
 unfold turnV rotV rotlV
 have e1 : IntKind.u64.wrap (32 - n) = 32 - n := IntWalk.u64_in _ (by omega)
 have e2 : IntKind.u64.wrap n = n := IntWalk.u64_in _ (by omega)
 have e3 : (32 : Int) - (32 - n) = n := by omega
 rw [h, e1, e3, e2]
 exact bits_or_comm _ _ _
def TurnOk (n : Int) : Prop := rotS (wrap64 (-bits .and .i64 n 31)) = 32 - n ∧ 0 ≤ n ∧ n ≤ 32
theorem turnOk_all : TurnOk 7 ∧ TurnOk 18 ∧ TurnOk 17 ∧ TurnOk 19 ∧ TurnOk 6 ∧ TurnOk 11 ∧ TurnOk 25 ∧ TurnOk 2 ∧ TurnOk 13 ∧ TurnOk 22 := by
 refine ⟨?_, ?_, ?_, ?_, ?_, ?_, ?_, ?_, ?_, ?_⟩ <;> exact ⟨by decide +kernel, by decide, by decide⟩
theorem turn_still {x n : Int} (h : TurnOk n) (w : World) : Calls Tryz.prog 172 #[.int .u32 x, .int .u64 n] w fun e w' => e = .returned (.int .u32 (rotV x n)) ∧ w' = w := by
 obtain ⟨h0, h1, h2⟩ := h
 have e1 : IntKind.u64.wrap (32 - n) = 32 - n := IntWalk.u64_in _ (by omega)
 refine (turn_runs x n w h1 (by omega)).mono ?_
 rintro e w' ⟨rfl, rfl⟩
 exact ⟨by rw [turn_rot x h0 h1 h2], rfl⟩
def sumW (a b c d : UInt8) : Int := ((a.toNat : Int) % 4294967296 * 16777216 + (b.toNat : Int) % 4294967296 * 65536 + (c.toNat : Int) % 4294967296 * 256 + (d.toNat : Int)) % 4294967296
theorem bits_or_u32_nat (a b : Nat) (ha : a < 4294967296) (hb : b < 4294967296) : bits .or .u32 (a : Int) (b : Int) = ((a ||| b : Nat) : Int) := by
 have hx : a ||| b < 2 ^ 32 := Nat.or_lt_two_pow (by omega) (by omega)
 have h1 : (BitVec.ofInt 32 (a : Int)).toNat = a := by
  rw [BitVec.ofInt_natCast, BitVec.toNat_ofNat]; exact Nat.mod_eq_of_lt (by omega)
 have h2 : (BitVec.ofInt 32 (b : Int)).toNat = b := by
  rw [BitVec.ofInt_natCast, BitVec.toNat_ofNat]; exact Nat.mod_eq_of_lt (by omega)
 show IntKind.u32.wrap ((BitVec.ofInt 32 (a : Int) ||| BitVec.ofInt 32 (b : Int)).toNat : Int) = _
 rw [BitVec.toNat_or, h1, h2, IntKind.wrap_u32]
 omega
theorem sumW_eq (a b c d : UInt8) : sumW a b c d = word4 a b c d := by
 have ha := a.toNat_lt
 have hb := b.toNat_lt
 have hc := c.toNat_lt
 have hd := d.toNat_lt
 unfold sumW word4
 generalize a.toNat = a at *
 generalize b.toNat = b at *
 generalize c.toNat = c at *
 generalize d.toNat = d at *
 have e1 : (a : Int) % 4294967296 * 16777216 % 4294967296 = ((a * 16777216 : Nat) : Int) := by omega
 have e2 : (b : Int) % 4294967296 * 65536 % 4294967296 = ((b * 65536 : Nat) : Int) := by omega
 have e3 : (c : Int) % 4294967296 * 256 % 4294967296 = ((c * 256 : Nat) : Int) := by omega
 have e4 : (d : Int) % 4294967296 = (d : Int) := by omega
 rw [e1, e2, e3, e4]
 have o1 : a * 16777216 ||| b * 65536 = a * 16777216 + b * 65536 := by
  have := Nat.two_pow_add_eq_or_of_lt (i := 24) (b := b * 65536) (by omega) a
  rw [Nat.mul_comm]; exact this.symm
 have o2 : (a * 16777216 + b * 65536) ||| c * 256 = a * 16777216 + b * 65536 + c * 256 := by
  have := Nat.two_pow_add_eq_or_of_lt (i := 16) (b := c * 256) (by omega) (a * 256 + b)
  rw [show a * 16777216 + b * 65536 = 2 ^ 16 * (a * 256 + b) by omega]; exact this.symm
 have o3 : (a * 16777216 + b * 65536 + c * 256) ||| d = a * 16777216 + b * 65536 + c * 256 + d := by
  have := Nat.two_pow_add_eq_or_of_lt (i := 8) (b := d) (by omega) (a * 65536 + b * 256 + c)
  rw [show a * 16777216 + b * 65536 + c * 256 = 2 ^ 8 * (a * 65536 + b * 256 + c) by omega]; exact this.symm
 rw [bits_or_u32_nat _ _ (by omega) (by omega), o1, bits_or_u32_nat _ _ (by omega) (by omega), o2, bits_or_u32_nat _ _ (by omega) (by omega), o3]
 omega
theorem and_not {e g : Int} (h0 : 0 ≤ e) (h1 : e < 4294967296) : bits .and .u32 (4294967295 - e) g = bits .andNot .u32 g e := by
 obtain ⟨n, rfl⟩ : ∃ n : Nat, e = n := ⟨e.toNat, by omega⟩
 unfold bits
 have hx : BitVec.ofInt IntKind.u32.bits (4294967295 - (n : Int)) = ~~~ (BitVec.ofInt IntKind.u32.bits (n : Int)) := by
  change BitVec.ofInt 32 (4294967295 - (n : Int)) = ~~~ (BitVec.ofInt 32 (n : Int))
  refine BitVec.eq_of_toNat_eq ?_
  rw [BitVec.toNat_not, BitVec.ofInt_natCast, BitVec.toNat_ofNat, show (4294967295 : Int) - (n : Int) = ((4294967295 - n : Nat) : Int) by omega, BitVec.ofInt_natCast, BitVec.toNat_ofNat]
  omega
 dsimp only
 rw [hx, BitVec.and_comm]
theorem rndStep_words {k w : Int} {a b c d e f g h : Int} (hV : ∀ x ∈ [a, b, c, d, e, f, g, h], (0 : Int) ≤ x ∧ x < 4294967296) : ∀ x ∈ rndStep k w [a, b, c, d, e, f, g, h], (0 : Int) ≤ x ∧ x < 4294967296 := by
 intro x hx
 simp only [rndStep, List.mem_cons, List.not_mem_nil, or_false] at hx
 rcases hx with rfl | rfl | rfl | rfl | rfl | rfl | rfl | rfl
 ·omega
 ·exact hV _ (by simp)
 ·exact hV _ (by simp)
 ·exact hV _ (by simp)
 ·omega
 ·exact hV _ (by simp)
 ·exact hV _ (by simp)
 ·exact hV _ (by simp)
def schedD (p : List UInt8) (j : Nat) : List Int := if j ≤ 16 then sched1 p j else sched2 p (j - 16)
theorem schedD_length (p : List UInt8) (j : Nat) : (schedD p j).length = 64 := by
 unfold schedD
 by_cases h : j ≤ 16
 ·rw [if_pos h]; exact sched1_length p j
 ·rw [if_neg h]; exact sched2_length p _
theorem schedD_low {p : List UInt8} {j : Nat} (h : j < 16) : schedD p (j + 1) = (schedD p j).set j (wordAt p j) := by
 unfold schedD
 rw [if_pos (by omega), if_pos (by omega)]
 rfl
theorem schedD_high {p : List UInt8} {j : Nat} (h : 16 ≤ j) : schedD p (j + 1) = (schedD p j).set j (mixW (wAt (schedD p j) (j - 16)) (wAt (schedD p j) (j - 15)) (wAt (schedD p j) (j - 7)) (wAt (schedD p j) (j - 2))) := by
 obtain ⟨i, rfl⟩ : ∃ i, j = 16 + i := ⟨j - 16, by omega⟩
 have e : schedD p (16 + i) = sched2 p i := by
  unfold schedD
  by_cases h0 : i = 0
  ·subst h0; rfl
  ·rw [if_neg (by omega), Nat.add_sub_cancel_left]
 rw [e]
 unfold schedD
 rw [if_neg (by omega), show 16 + i + 1 - 16 = i + 1 by omega, show 16 + i - 16 = i by omega, show 16 + i - 15 = i + 1 by omega, show 16 + i - 7 = i + 9 by omega, show 16 + i - 2 = i + 14 by omega]
 rfl
theorem schedD_end (p : List UInt8) : schedD p 64 = sched2 p 48 := rfl
end Go.Proofs.YtddnikpdmjogiaaGreat
