/- A part of the proof. -/
import Derived.Test.YtlcnhpjggjgnpaaGreatDoorUlab4
import Derived.Test.YtlcnhpjggjgnpaaGreatDoorUlab6
import Derived.Test.YtlcnhpjggjgnpaaGreatDoorUlad3
namespace Go.Proofs.YtlcnhpjggjgnpaaGreatDoor
set_option linter.unusedVariables false
open Go.RowKit Go.MapKept
theorem tabOf_append : ∀ (a b : List (List UInt8)) (fs : FS), tabOf (a ++ b) fs = match tabOf a fs with | none => none | some fs' => tabOf b fs'
 | [], b, fs => rfl
 | r :: a, b, fs => by
  simp only [List.cons_append, tabOf]
  cases decOf r with
  | none => rfl
  | some l => exact tabOf_append a b _
theorem frames_snoc (rs : List (List UInt8)) (p : List UInt8) : framesOf (rs ++ [p]) = framesOf rs ++ frameOf p := by rw [framesOf_append]; simp [framesOf]
theorem tmpT_ne : tmpOf nmT ≠ nmT := by
 intro h
 have h1 : (tmpOf nmT).size = 2 := by decide +kernel
 have h2 : nmT.size = 1 := by decide +kernel
 rw [h, h2] at h1
 cases h1
theorem down_append2 {m : DM} (h : m.down = true) (f : ByteArray) (p : List UInt8) : appendOf m f p = (5, m) := by
 unfold appendOf thereOf; rw [h]; rfl
theorem encOf_code (l : List TCh) : (encOf l).1 ≠ 5 := by
 have : ∀ (l : List TCh) (o : List UInt8), (encFrom l o).1 ≠ 5 := by
  intro l
  induction l with
  | nil => intro o; simp [encFrom]
  | cons c l ih =>
   intro o
   rw [encFrom]
   split
   ·simp
   ·split
    ·simp
    ·exact ih _
 unfold encOf
 split
 ·simp
 ·exact this l _
theorem tOpen_m (m : DM) (nm : ByteArray) : (tOpenOf m nm).m = (openOf m nm).m := by
 unfold tOpenOf
 split
 ·rfl
 ·split <;> rfl
end Go.Proofs.YtlcnhpjggjgnpaaGreatDoor
