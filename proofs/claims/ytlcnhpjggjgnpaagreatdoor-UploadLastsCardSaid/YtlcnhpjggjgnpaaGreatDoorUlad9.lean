/- A part of the proof. -/
import Derived.Test.YtlcnhpjggjgnpaaGreatDoorUlaa7
import Derived.Test.YtlcnhpjggjgnpaaGreatDoorUlaa8
import Derived.Test.YtlcnhpjggjgnpaaGreatDoorUlab2
import Derived.Test.YtlcnhpjggjgnpaaGreatDoorUlad4
import Derived.Deep.MidRow
import Derived.Great.BuildSlice
namespace Go.Proofs.YtlcnhpjggjgnpaaGreatDoor
set_option linter.unusedVariables false
set_option linter.unusedSimpArgs false
open Go.RowKit Go.MapKept
theorem hexd_loB : ∀ g : Nat, g < 10 → (hexd g).toNat = 48 + g := by decide
theorem hexd_hiB : ∀ g : Nat, g < 16 → ¬ g < 10 → (hexd g).toNat = 87 + g := by decide
set_option maxRecDepth 100000 in
theorem digit_runs (w : World) (g : Nat) (hg : g < 16) : Runs 125 #[.int .u8 ((hexd g).toNat : Int)] w (.int .u8 (g : Int)) w := by
 unfold Runs
 by_cases h : g < 10
 ·rw [hexd_loB g h]
  have e1 : ((48 + g : Nat) : Int) = 48 + (g : Int) := by omega
  rw [e1]
  have b1 : (48 : Int) ≤ 48 + (g : Int) := by omega
  have b2 : 48 + (g : Int) ≤ 57 := by omega
  have b3 : 48 + (g : Int) - 48 = (g : Int) := by omega
  have b4 : IntKind.u8.wrap (48 + (g : Int) - 48) = (g : Int) := by rw [b3]; simp [IntKind.wrap, IntKind.bits, IntKind.signed]; omega
  go_enter Tryz.func125, Tryz.ntmps125
  go_wp2_with fail
  go_ret
  exact ⟨rfl, rfl⟩
 ·rw [hexd_hiB g hg h]
  have e1 : ((87 + g : Nat) : Int) = 87 + (g : Int) := by omega
  rw [e1]
  have b1 : (48 : Int) ≤ 87 + (g : Int) := by omega
  have b2 : ¬ 87 + (g : Int) ≤ 57 := by omega
  have b5 : (97 : Int) ≤ 87 + (g : Int) := by omega
  have b6 : 87 + (g : Int) ≤ 102 := by omega
  have b4 : IntKind.u8.wrap (87 + (g : Int) - 97) = (g : Int) - 10 := by simp [IntKind.wrap, IntKind.bits, IntKind.signed]; omega
  have b7 : IntKind.u8.wrap ((g : Int) - 10 + 10) = (g : Int) := by simp [IntKind.wrap, IntKind.bits, IntKind.signed]; omega
  go_enter Tryz.func125, Tryz.ntmps125
  go_wp2_with fail
  go_ret
  exact ⟨rfl, rfl⟩
theorem hexOf_at : ∀ {x : List UInt8} {i : Nat} {c : UInt8}, x[i]? = some c → (hexOf x)[2 * i]? = some (hexd (c.toNat / 16)) ∧ (hexOf x)[2 * i + 1]? = some (hexd (c.toNat % 16))
 | [], i, c, h => by simp at h
 | d :: x, 0, c, h => by
  simp at h
  subst h
  rw [hexOf_cons]
  exact ⟨rfl, rfl⟩
 | d :: x, i + 1, c, h => by
  have := hexOf_at (x := x) (i := i) (c := c) (by simpa using h)
  rw [hexOf_cons, show 2 * (i + 1) = 2 * i + 1 + 1 by omega]
  simpa using this
def unhexRow (x : List UInt8) (k : Nat) : List UInt8 := x.take k ++ List.replicate (x.length - k) 0
def rowObj (l : List UInt8) : Obj := .cells (l.map u8v).toArray 5 (0, 0)
theorem unhexRow_step {x : List UInt8} {k : Nat} {c : UInt8} (h : x[k]? = some c) : (unhexRow x k).set k c = unhexRow x (k + 1) := by
 have hk := (List.getElem?_eq_some_iff.1 h).1
 unfold unhexRow
 rw [List.set_append_right _ _ (by rw [List.length_take]; omega), List.length_take, Nat.min_eq_left (by omega), Nat.sub_self]
 obtain ⟨m, hm⟩ : ∃ m, x.length - k = m + 1 := ⟨x.length - k - 1, by omega⟩
 rw [hm, List.replicate_succ, List.set_cons_zero, List.take_add_one, h, show x.length - (k + 1) = m by omega]
 simp
theorem two_digits : ∀ n : Nat, n < 256 → bits BinOp.or IntKind.u8 (((n / 16 : Nat) : Int) * 16) ((n % 16 : Nat) : Int) = (n : Int) := by decide +kernel
theorem text_index {W : World} {l : List UInt8} {i : Nat} {c : UInt8} (h : l[i]? = some c) : (Instr.index 9 (.string ⟨l.toArray⟩) (.int .i64 (i : Int))).run Tryz.prog W = .ok (.int .u8 (c.toNat : Int)) W := by
 obtain ⟨hi, hc⟩ := List.getElem?_eq_some_iff.1 h
 rw [run_index_string W 9 _ _ _ Tryz.underlying9]
 have hsz : (⟨l.toArray⟩ : ByteArray).size = l.length := by show l.toArray.size = _; simp
 rw [dif_pos ⟨by omega, by rw [hsz]; omega⟩]
 have : (⟨l.toArray⟩ : ByteArray)[(i : Int).toNat]'(by rw [hsz]; omega) = c := by
  rw [← hc]
  show l.toArray[(i : Int).toNat] = _
  simp
 rw [this]
end Go.Proofs.YtlcnhpjggjgnpaaGreatDoor
