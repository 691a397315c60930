/- A part of the proof. -/
import Derived.Test.YtlcnhpjggjgnpaaGreatDoorUlad0
import Derived.Deep.DeepCutAuto
import Derived.Deep.CutBlock
namespace Go.Proofs.YtlcnhpjggjgnpaaGreatDoor
set_option linter.unusedVariables false
open Go.RowKit Go.MapKept
theorem Tidy.create {m : DM} {n t : Nat} (h : Tidy m n t) (f : ByteArray) : Tidy (createOf m f).2 (n + 1) (t + 1) := by
 rw [← step_create]; exact h.step _ ⟨by simp, by simp⟩ (fun _ => rfl) (fun _ => Nat.zero_le _)
theorem Tidy.append {m : DM} {n t : Nat} (h : Tidy m n t) (f : ByteArray) (p : List UInt8) : Tidy (appendOf m f p).2 (n + 1) (t + 1) := by
 rw [← step_append]; exact h.step _ ⟨by simp, by simp⟩ (fun e => absurd rfl e) (fun _ => Nat.zero_le _)
theorem Tidy.remove {m : DM} {n t : Nat} (h : Tidy m n t) (f : ByteArray) : Tidy (removeOf m f).2 (n + 1) (t + 1) := by
 rw [← step_remove]; exact h.step _ ⟨by simp, by simp⟩ (fun _ => rfl) (fun _ => Nat.zero_le _)
theorem Tidy.rename {m : DM} {n t : Nat} (h : Tidy m n t) (f g : ByteArray) : Tidy (renameOf m f g).2 (n + 1) (t + 1) := by
 rw [← step_rename]; exact h.step _ ⟨by simp, by simp⟩ (fun _ => rfl) (fun e => absurd rfl e)
theorem Tidy.first {m : DM} {n t : Nat} (h : Tidy m n t) (f : ByteArray) : Tidy (rfirst m f).2 (n + 1) (t + 1) := by
 unfold rfirst
 split
 ·exact h.remove f
 ·exact h.mono (Nat.le_succ _) (Nat.le_succ _)
theorem Tidy.then {r : Int × DM} {f : DM → Int × DM} {n t a : Nat} (h : Tidy r.2 n t) (hf : Tidy (f r.2).2 (n + a) (t + a)) : Tidy (rthen r f).2 (n + a) (t + a) := by
 unfold rthen
 split
 ·exact hf
 ·exact h.mono (by omega) (by omega)
theorem Tidy.write {t' : ByteArray} {b : List UInt8} : ∀ (f : Nat) {m : DM} {n t i : Nat}, Tidy m n t → Tidy (writeFrom t' b f m i).2 (n + f) (t + f)
 | 0, m, n, t, i, h => h
 | f + 1, m, n, t, i, h => by
  rw [writeFrom]
  split
  ·split
   ·have := Tidy.write (t' := t') (b := b) f (i := i + 1048576) (h.append t' ((b.drop i).take 1048576))
    rw [show n + (f + 1) = n + 1 + f by omega, show t + (f + 1) = t + 1 + f by omega]; exact this
   ·exact (h.append t' _).mono (by omega) (by omega)
  ·exact h.mono (by omega) (by omega)
theorem Tidy.full {r : Int × DM} {n t : Nat} (h : Tidy r.2 n t) (f : ByteArray) : Tidy (rfull f r).2 (n + 1) (t + 1) := by
 unfold rfull
 split
 ·split
  ·exact h.remove f
  ·exact h.remove f
 ·exact h.mono (Nat.le_succ _) (Nat.le_succ _)
theorem Tidy.rlay {m : DM} {n t : Nat} (h : Tidy m n t) (nm : ByteArray) (b : List UInt8) : Tidy (rlaySteps m nm b).2 (n + (b.length + 6)) (t + (b.length + 6)) := by
 have h1 := Tidy.then (a := 1) (f := fun m => createOf m (tmpOf nm)) (h.first (tmpOf nm)) ((h.first _).create _)
 have h2 := Tidy.then (a := b.length / 1048576 + 1) (f := fun m => writeOf m (tmpOf nm) b) h1 (Tidy.write _ h1)
 have h3 := Tidy.then (a := 0) (f := syncOf) h2 h2.sync
 have h4 := Tidy.then (a := 1) (f := fun m => renameOf m (tmpOf nm) nm) h3 (h3.rename _ _)
 have h5 := Tidy.then (a := 0) (f := syncOf) h4 h4.sync
 exact h5.mono (by omega) (by omega)
theorem Tidy.lay {m : DM} {n t : Nat} (h : Tidy m n t) (nm : ByteArray) (b : List UInt8) : Tidy (layOf m nm b).2 (n + (b.length + 7)) (t + (b.length + 7)) := by
 rw [← rlay_eq]
 exact (h.rlay nm b).full _
end Go.Proofs.YtlcnhpjggjgnpaaGreatDoor
