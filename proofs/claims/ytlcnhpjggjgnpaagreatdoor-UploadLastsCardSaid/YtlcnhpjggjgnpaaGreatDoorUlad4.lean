/- A part of the proof. -/
import Derived.Test.YtlcnhpjggjgnpaaGreatDoorUlaa2
import Derived.Test.YtlcnhpjggjgnpaaGreatDoorUlac0
import Derived.Test.YtlcnhpjggjgnpaaGreatDoorUlad3
namespace Go.Proofs.YtlcnhpjggjgnpaaGreatDoor
set_option linter.unusedVariables false
set_option linter.unusedSimpArgs false
open Go.RowKit Go.MapKept
def hexv (c : UInt8) : Nat := if c.toNat < 58 then c.toNat - 48 else c.toNat - 87
theorem hexv_hexd : ∀ n : Nat, n < 16 → hexv (hexd n) = n := by decide
theorem hexOf_cons (c : UInt8) (l : List UInt8) : hexOf (c :: l) = hexd (c.toNat / 16) :: hexd (c.toNat % 16) :: hexOf l := rfl
theorem hexd_inj {a b : Nat} (ha : a < 16) (hb : b < 16) (h : hexd a = hexd b) : a = b := by
 rw [← hexv_hexd a ha, h, hexv_hexd b hb]
theorem hexOf_inj : ∀ {l m : List UInt8}, l.length = m.length → hexOf l = hexOf m → l = m
 | [], [], _, _ => rfl
 | [], _ :: _, h, _ => by simp at h
 | _ :: _, [], h, _ => by simp at h
 | c :: l, d :: m, hl, h => by
  rw [hexOf_cons, hexOf_cons] at h
  simp only [List.cons.injEq] at h
  have hc := c.toNat_lt
  have hd := d.toNat_lt
  have e1 := hexd_inj (by omega) (by omega) h.1
  have e2 := hexd_inj (by omega) (by omega) h.2.1
  have e : c = d := UInt8.toNat_inj.1 (by omega)
  rw [e, hexOf_inj (by simpa using hl) h.2.2]
theorem fileOf_inj {x y : List UInt8} (hx : x.length = 32) (hy : y.length = 32) (h : fileOf x = fileOf y) : x = y := by
 have h1 := congrArg (fun s : ByteArray => s.data.toList) h
 unfold fileOf at h1
 simp only [ByteArray.data_append, Array.toList_append, List.append_cancel_left_eq] at h1
 exact hexOf_inj (by omega) h1
end Go.Proofs.YtlcnhpjggjgnpaaGreatDoor
