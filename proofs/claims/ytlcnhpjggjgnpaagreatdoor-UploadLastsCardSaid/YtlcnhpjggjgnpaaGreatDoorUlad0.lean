/- A part of the proof. -/
import Derived.Test.YtlcnhpjggjgnpaaGreatDoorUlaa8
import Derived.Test.YtlcnhpjggjgnpaaGreatDoorUlab0
import Derived.Test.YtlcnhpjggjgnpaaGreatDoorUlab2
import Derived.Laws.BitsAllLaws
namespace Go.Proofs.YtlcnhpjggjgnpaaGreatDoor
set_option linter.unusedVariables false
open Go.RowKit Go.MapKept
theorem step_code4 {m : DM} {c : Ch} (h : (stepOf m c).1 = 4) : (stepOf m c).2.down = false := by
 unfold stepOf at h ⊢
 cases hd : m.down with
 | true => rw [hd] at h; simp at h
 | false =>
  rw [hd] at h
  simp only [Bool.false_eq_true, if_false] at h ⊢
  split
  ·rename_i h0
   rw [if_pos h0] at h
   unfold doesOf at h ⊢
   split at h
   ·simp at h
   ·simp at h
  ·exact hd
def rthen (r : Int × DM) (f : DM → Int × DM) : Int × DM := if r.1 = 0 then f r.2 else r
theorem rthen_assoc (r : Int × DM) (f g : DM → Int × DM) : rthen (rthen r f) g = rthen r (fun m => rthen (f m) g) := by
 unfold rthen
 by_cases h : r.1 = 0
 ·rw [if_pos h, if_pos h]
 ·rw [if_neg h, if_neg h, if_neg h]
theorem runSteps_fun (f : DM → Int × DM) (fs : List (DM → Int × DM)) : runSteps (f :: fs) = fun m => rthen (f m) (runSteps fs) := rfl
theorem rthen_last (r : Int × DM) : rthen r (runSteps []) = r := by
 unfold rthen
 split
 ·rename_i h
  rw [runSteps, ← h]
 ·rfl
def rfirst (m : DM) (t : ByteArray) : Int × DM := if m.down = false ∧ 0 ≤ findI m.now t then removeOf m t else (0, m)
def rfull (t : ByteArray) (r : Int × DM) : Int × DM := if r.1 = 4 ∧ 0 ≤ findI r.2.now t then (if (removeOf r.2 t).1 = 0 then (4, (removeOf r.2 t).2) else removeOf r.2 t) else r
def rlaySteps (m : DM) (nm : ByteArray) (b : List UInt8) : Int × DM :=
 rthen (rthen (rthen (rthen (rthen (rfirst m (tmpOf nm)) (fun m => createOf m (tmpOf nm))) (fun m => writeOf m (tmpOf nm) b)) syncOf) (fun m => renameOf m (tmpOf nm) nm)) syncOf
theorem remove_code {m : DM} {t : ByteArray} (hd : m.down = false) (hf : 0 ≤ findI m.now t) : ¬ (removeOf m t).1 = 6 := by
 have hg : (fget m.now t).isSome = true := by rw [findI_some, decide_eq_false (by omega)]; rfl
 have ht : thereOf m t = 0 := by simp [thereOf, hd, hg]
 unfold removeOf
 rw [if_pos ht]
 unfold doesOf
 split <;> simp
theorem first_create (m : DM) (t : ByteArray) : rthen (rfirst m t) (fun m => createOf m t) = rthen (clearOf m t) (fun m => createOf m t) := by
 cases hd : m.down with
 | true =>
  have h1 : rfirst m t = (0, m) := by unfold rfirst; rw [hd]; simp
  have h2 : clearOf m t = (5, m) := by simp [clearOf, removeOf, thereOf, hd]
  have h3 : createOf m t = (5, m) := by unfold createOf; rw [hd]; rfl
  rw [h1, h2]
  simp [rthen, h3]
 | false =>
  by_cases hf : 0 ≤ findI m.now t
  ·have h1 : rfirst m t = removeOf m t := by unfold rfirst; rw [if_pos ⟨hd, hf⟩]
   have h2 : clearOf m t = removeOf m t := by unfold clearOf; rw [if_neg (remove_code hd hf)]
   rw [h1, h2]
  ·have h1 : rfirst m t = (0, m) := by unfold rfirst; rw [if_neg (fun h => hf h.2)]
   have hg : (fget m.now t).isSome = false := by rw [findI_some, decide_eq_true (by omega)]; rfl
   have hth : thereOf m t = 6 := by simp [thereOf, hd, hg]
   have h2 : clearOf m t = (0, m) := by unfold clearOf removeOf; rw [hth]; simp
   rw [h1, h2]
theorem rlay_steps (m : DM) (nm : ByteArray) (b : List UInt8) : rlaySteps m nm b = runSteps (laySteps nm b) m := by
 unfold rlaySteps laySteps
 rw [first_create]
 simp only [runSteps_fun, rthen_assoc, rthen_last]
def Full4 (r : Int × DM) : Prop := r.1 = 4 → r.2.down = false
theorem Full4.step (m : DM) (c : Ch) : Full4 (stepOf m c) := step_code4
theorem Full4.sync (m : DM) : Full4 (syncOf m) := by
 intro h
 unfold syncOf at h
 split at h
 ·simp at h
 ·split at h <;> simp at h
theorem Full4.then {r : Int × DM} {f : DM → Int × DM} (h : Full4 r) (hf : ∀ m, Full4 (f m)) : Full4 (rthen r f) := by
 unfold rthen
 split
 ·exact hf _
 ·exact h
theorem Full4.write (t : ByteArray) (b : List UInt8) : ∀ (f : Nat) (m : DM) (i : Nat), Full4 (writeFrom t b f m i)
 | 0, m, i => fun h => by simp [writeFrom] at h
 | f + 1, m, i => by
  rw [writeFrom]
  split
  ·split
   ·exact Full4.write t b f _ _
   ·rw [← step_append]; exact Full4.step _ _
  ·intro h; simp at h
theorem Full4.first (m : DM) (t : ByteArray) : Full4 (rfirst m t) := by
 unfold rfirst
 split
 ·rw [← step_remove]; exact Full4.step _ _
 ·intro h; simp at h
theorem Full4.lay (m : DM) (nm : ByteArray) (b : List UInt8) : Full4 (rlaySteps m nm b) :=
 (((((Full4.first m _).then (fun m => by rw [← step_create]; exact Full4.step _ _)).then (fun m => Full4.write _ _ _ _ _)).then Full4.sync).then (fun m => by rw [← step_rename]; exact Full4.step _ _)).then Full4.sync
theorem rlay_eq (m : DM) (nm : ByteArray) (b : List UInt8) : rfull (tmpOf nm) (rlaySteps m nm b) = layOf m nm b := by
 have h4 := Full4.lay m nm b
 unfold layOf
 rw [← rlay_steps]
 generalize rlaySteps m nm b = r at h4
 unfold rfull unfull
 by_cases h : r.1 = 4
 ·have hd := h4 h
  rw [if_pos h]
  by_cases hf : 0 ≤ findI r.2.now (tmpOf nm)
  ·rw [if_pos ⟨h, hf⟩]
   have h2 : clearOf r.2 (tmpOf nm) = removeOf r.2 (tmpOf nm) := by unfold clearOf; rw [if_neg (remove_code hd hf)]
   rw [h2]
  ·rw [if_neg (fun h => hf h.2)]
   have hg : (fget r.2.now (tmpOf nm)).isSome = false := by rw [findI_some, decide_eq_true (by omega)]; rfl
   have hth : thereOf r.2 (tmpOf nm) = 6 := by simp [thereOf, hd, hg]
   have h2 : clearOf r.2 (tmpOf nm) = (0, r.2) := by unfold clearOf removeOf; rw [hth]; simp
   rw [h2]
   simp only [if_true]
   rw [← h]
 ·rw [if_neg h, if_neg (fun h' => h h'.1)]
end Go.Proofs.YtlcnhpjggjgnpaaGreatDoor
