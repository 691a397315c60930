/- A store with one blob. -/
import Derived.Test.YtlinkpjneehnbaaBlobF
import Derived.Test.YtlinkpjneehnbaaPkC
namespace Go.Proofs.Ytlinkpjneehnbaa
set_option linter.unusedVariables false
set_option linter.unusedSimpArgs false
open Go.RowKit Go.MapKept

theorem isName_of_size {s : ByteArray} (h0 : 0 < s.size) (h1 : s.size ≤ 160) : isName s = true := by
  have : s.toList ≠ [] := by
    intro e
    have h2 := congrArg List.length e
    rw [ByteArray.toList_eq, Array.length_toList] at h2
    have h3 : s.size = 0 := h2
    omega
  unfold isName
  simp only [Bool.and_eq_true, decide_eq_true_eq, Bool.not_eq_true']
  exact ⟨by simpa using this, by omega⟩
theorem tmp_ne (D : List UInt8) (hD : D.length = 32) : tmpB ≠ fileOf D := by
  intro e
  have h := congrArg ByteArray.size e
  rw [fileOf_size D hD] at h
  exact absurd h (by decide)
theorem tmp_name : isName tmpB = true := isName_of_size (by decide) (by decide)
theorem file_name (D : List UInt8) (hD : D.length = 32) : isName (fileOf D) = true := isName_of_size (by rw [fileOf_size D hD]; omega) (by rw [fileOf_size D hD]; omega)
def blobM (room : Int) (D p : List UInt8) : DM := { newOf room with now := [(fileOf D, p)], sure := [(fileOf D, p)] }
def bM1 (room : Int) : DM := { newOf room with now := [(tmpB, [])], loose := [⟨0, tmpB, ⟨#[]⟩, []⟩] }
def bM2 (room : Int) (p : List UInt8) : DM := { newOf room with now := [(tmpB, p)], loose := [⟨0, tmpB, ⟨#[]⟩, []⟩, ⟨1, tmpB, ⟨#[]⟩, p⟩] }
def bM3 (room : Int) (p : List UInt8) : DM := { newOf room with now := [(tmpB, p)], sure := [(tmpB, p)] }
def bM4 (room : Int) (D p : List UInt8) : DM := { newOf room with now := [(fileOf D, p)], sure := [(tmpB, p)], loose := [⟨3, tmpB, fileOf D, []⟩] }
theorem bs1 (room : Int) : clearOf (newOf room) tmpB = (0, newOf room) := by
  have : removeOf (newOf room) tmpB = (6, newOf room) := by simp [removeOf, thereOf, newOf, fget]
  simp [clearOf, this]
theorem bs2 (room : Int) : createOf (newOf room) tmpB = (0, bM1 room) := by
  rw [Calm.create ⟨rfl, rfl⟩ tmp_name rfl (by simp [newOf])]
  rfl
theorem bs3 (room : Int) (p : List UInt8) (hp : p.length ≤ 1048576) (hr : (p.length : Int) ≤ room) : appendOf (bM1 room) tmpB p = (0, bM2 room p) := by
  rw [Calm.append ⟨rfl, rfl⟩ (by simp [bM1, fget]) p (by omega)]
  rw [if_neg (by simp [bM1, newOf, used]; omega)]
  simp [bM1, bM2, newOf, fput, fdel, fins, fget]
theorem bs4 (room : Int) (p : List UInt8) : syncOf (bM2 room p) = (0, bM3 room p) := by
  simp [syncOf, bM2, newOf, synced, spendOf, bM3, doCh, fput, fdel, fins, fget]
theorem moved (D p : List UInt8) (hD : D.length = 32) : fdel (fput [(tmpB, p)] (fileOf D) ((fget [(tmpB, p)] tmpB).getD [])) tmpB = [(fileOf D, p)] := by
  have hne := tmp_ne D hD
  have hne2 : ¬ fileOf D = tmpB := fun e => hne e.symm
  have hg : (fget [(tmpB, p)] tmpB).getD [] = p := by simp [fget]
  rw [hg, fput]
  have hd : fdel [(tmpB, p)] (fileOf D) = [(tmpB, p)] := by simp [fdel, hne]
  rw [hd]
  unfold fins
  split
  · simp [fdel, hne2]
  · simp [fins, fdel, hne2]
theorem bs5 (room : Int) (D p : List UInt8) (hD : D.length = 32) : renameOf (bM3 room p) tmpB (fileOf D) = (0, bM4 room D p) := by
  have hne := tmp_ne D hD
  have hc : Calm (bM3 room p) := ⟨rfl, rfl⟩
  unfold renameOf
  rw [hc.there (by simp [bM3, fget]), if_pos rfl, file_name D hD, hc.does]
  simp only [Bool.not_true, Bool.false_eq_true, if_false]
  have : doCh (bM3 room p).now ⟨3, tmpB, fileOf D, []⟩ = [(fileOf D, p)] := by
    unfold doCh
    simp only [show ¬ ((3 : Int) = 0) by decide, show ¬ ((3 : Int) = 1) by decide, show ¬ ((3 : Int) = 2) by decide, if_false, if_true, hne]
    exact moved D p hD
  rw [this]
  rfl
theorem bs6 (room : Int) (D p : List UInt8) (hD : D.length = 32) : syncOf (bM4 room D p) = (0, blobM room D p) := by
  have hne := tmp_ne D hD
  have : doCh [(tmpB, p)] ⟨3, tmpB, fileOf D, []⟩ = [(fileOf D, p)] := by
    unfold doCh
    simp only [show ¬ ((3 : Int) = 0) by decide, show ¬ ((3 : Int) = 1) by decide, show ¬ ((3 : Int) = 2) by decide, if_false, if_true, hne]
    exact moved D p hD
  simp [syncOf, bM4, newOf, synced, spendOf, blobM, this]
theorem bput_new (room : Int) (p : List UInt8) (hp : p.length ≤ 1048576) (hr : (p.length : Int) ≤ room) : bPutOf (newOf room) p = (sumOf p, 0, blobM room (sumOf p) p) := by
  have hD := sumOf_length p
  have h1 : runSteps (bSteps (sumOf p) p) (newOf room) = (0, blobM room (sumOf p) p) := by
    unfold bSteps
    simp only [runSteps, bs1, bs2, bs3 room p hp hr, bs4, bs5 room (sumOf p) p hD, bs6 room (sumOf p) p hD, if_true]
  have h2 : thereOf (newOf room) (fileOf (sumOf p)) = 6 := by simp [thereOf, newOf, fget]
  have h3 : bLayOf (newOf room) (sumOf p) p = (0, blobM room (sumOf p) p) := by
    unfold bLayOf
    rw [h1]
    rfl
  unfold bPutOf
  rw [if_neg (by omega), h2, if_pos rfl, h3]
  rfl
theorem blob_there (room : Int) (D p : List UInt8) (f : Int) : thereOf { blobM room D p with fuse := f } (fileOf D) = 0 := by simp [thereOf, blobM, newOf, fget]
theorem blob_cont (room : Int) (D p : List UInt8) (f : Int) : contOf { blobM room D p with fuse := f } (fileOf D) = p := by simp [contOf, blobM, fget]
theorem bput_again (room : Int) (p : List UInt8) (f : Int) (hp : p.length ≤ 1048576) : bPutOf { blobM room (sumOf p) p with fuse := f } p = (sumOf p, 0, { blobM room (sumOf p) p with fuse := f }) := by
  unfold bPutOf
  rw [if_neg (by omega), blob_there, if_neg (by decide)]
  rfl
theorem bnew_new (room : Int) : bNewOf (newOf room) = (0, newOf room) := by simp [bNewOf, thereOf, newOf, fget]
theorem whole_blob (room : Int) (p : List UInt8) : wholeOf (blobM room (sumOf p) p) (sumOf p) = true := by
  have h1 := blob_there room (sumOf p) p (-1)
  have h2 := blob_cont room (sumOf p) p (-1)
  have e : { blobM room (sumOf p) p with fuse := -1 } = blobM room (sumOf p) p := rfl
  rw [e] at h1 h2
  simp [wholeOf, h1, h2]
end Go.Proofs.Ytlinkpjneehnbaa
