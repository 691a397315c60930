/- The walk of DiskFull. -/
import Derived.Test.YtlinkpjneehnbaaSince
namespace Go.Proofs.Ytlinkpjneehnbaa
open Go.RowKit Go.MapKept

def nmB : ByteArray := ⟨#[98]⟩
/-- What holds of the disk in DiskFull: its two files, and how many bytes they have. -/
structure FullInv (m : DM) (r : Int) (u k : Nat) : Prop where
  calm : Calm m
  room : m.room = r
  used : used m.now = u
  fits : (u : Int) ≤ r
  a : (fget m.now nmA).isSome = true
  b : (fget m.now nmB).isSome = true
  both : ((fget m.now nmA).getD []).length + ((fget m.now nmB).getD []).length = u
  loose : m.loose.length ≤ k

def fullM (r : Int) : DM := { newOf r with now := fput (fput [] nmA []) nmB [], loose := [⟨0, nmA, ⟨#[]⟩, []⟩, ⟨0, nmB, ⟨#[]⟩, []⟩] }
def fullM1 (r : Int) : DM := { newOf r with now := fput [] nmA [], loose := [⟨0, nmA, ⟨#[]⟩, []⟩] }
theorem full1 (r : Int) : createOf (newOf r) nmA = (0, fullM1 r) := by
  rw [Calm.create ⟨rfl, rfl⟩ (by simp [isName, nmA]; rfl) rfl (by simp [newOf])]
  rfl
theorem nmAB : nmA ≠ nmB := by
  intro h
  have : nmA.data = nmB.data := by rw [h]
  simp [nmA, nmB] at this
theorem full2 (r : Int) : createOf (fullM1 r) nmB = (0, fullM r) := by
  rw [Calm.create ⟨rfl, rfl⟩ (by simp [isName, nmB]; rfl) (by simp [fullM1, fput, fdel, fins, fget, nmAB]) (by simp [fullM1, fput, fdel, fins])]
  rfl
theorem full_start (r : Int) (h : 0 ≤ r) : FullInv (fullM r) r 0 2 := by
  have nd1 : FNodup (fput [] nmA []) := FNodup.fput (by simp [FNodup]) _ _
  have g1 : fget (fput (fput [] nmA []) nmB []) nmA = some [] := by
    rw [fget_fput_other nd1 _ _ _ (Ne.symm nmAB), fget_fput_same (by simp [FNodup])]
  have g2 : fget (fput (fput [] nmA []) nmB []) nmB = some [] := fget_fput_same nd1 _ _
  have u1 := used_fput nd1 nmB []
  have u0 := used_fput (fs := []) (by simp [FNodup]) nmA []
  refine ⟨⟨rfl, rfl⟩, rfl, ?_, h, by simp [fullM, g1], by simp [fullM, g2], by simp [fullM, g1, g2], by simp [fullM]⟩
  have e0 : used ([] : FS) = 0 := rfl
  simp only [List.length_nil] at u0 u1
  simp only [fullM]
  omega
/-- An Append of n bytes. -/
theorem full_append {m : DM} {r : Int} {u k : Nat} (h : FullInv m r u k) (hn : FNodup m.now) {n : Nat} (hn2 : (n : Int) ≤ 1048576) {nm : ByteArray} (hnm : nm = nmA ∨ nm = nmB) :
    (r - (u : Int) < n ∧ appendOf m nm (List.replicate n 0) = (4, m)) ∨
    (¬ r - (u : Int) < n ∧ ∃ m', appendOf m nm (List.replicate n 0) = (0, m') ∧ FullInv m' r (u + n) (k + 1)) := by
  have hg : (fget m.now nm).isSome = true := by rcases hnm with rfl | rfl; exact h.a; exact h.b
  have e := h.calm.append hg (List.replicate n 0) (by simpa using hn2)
  have e2 : m.room - (Go.Proofs.Ytlinkpjneehnbaa.used m.now : Int) = r - (u : Int) := by rw [h.room, h.used]
  rw [e2, List.length_replicate] at e
  by_cases hf : r - (u : Int) < n
  · rw [if_pos hf] at e
    exact .inl ⟨hf, e⟩
  · rw [if_neg hf] at e
    refine .inr ⟨hf, _, e, ⟨h.calm.down, h.calm.fuse⟩, h.room, ?_, by omega, ?_, ?_, ?_, by simpa using h.loose⟩
    · have := used_fput hn nm ((fget m.now nm).getD [] ++ List.replicate n 0)
      have hu := h.used
      simp only [List.length_append, List.length_replicate] at this
      simp only
      omega
    · rcases hnm with rfl | rfl
      · simp only [fget_fput_same hn]; rfl
      · simp only [fget_fput_other hn _ _ _ (Ne.symm nmAB)]; exact h.a
    · rcases hnm with rfl | rfl
      · simp only [fget_fput_other hn _ _ _ nmAB]; exact h.b
      · simp only [fget_fput_same hn]; rfl
    · have hb := h.both
      rcases hnm with rfl | rfl
      · simp only [fget_fput_other hn _ _ _ nmAB, fget_fput_same hn, Option.getD_some, List.length_append, List.length_replicate]
        omega
      · simp only [fget_fput_other hn _ _ _ (Ne.symm nmAB), fget_fput_same hn, Option.getD_some, List.length_append, List.length_replicate]
        omega
/-- Behind the loop: too long a piece; both files taken away. -/
theorem full_end {m : DM} {r : Int} {u k : Nat} (h : FullInv m r u k) (hn : FNodup m.now) :
    appendOf m nmA (List.replicate 1048577 0) = (8, m) ∧ ∃ m1 m2, removeOf m nmA = (0, m1) ∧ removeOf m1 nmB = (0, m2) ∧ used m2.now = 0 ∧ m1.fuse = -1 ∧ m1.loose.length = m.loose.length + 1 := by
  have e1 := h.calm.remove h.a
  have e2 := Calm.remove (m := { m with now := fdel m.now nmA, loose := m.loose ++ [⟨2, nmA, ⟨#[]⟩, []⟩] }) ⟨h.calm.down, h.calm.fuse⟩ (n := nmB) (by simp only [fget_fdel_other _ _ _ nmAB]; exact h.b)
  refine ⟨?_, _, _, e1, e2, ?_, h.calm.fuse, by simp⟩
  rotate_left
  · have u1 := used_fdel hn nmA
    have u2 := used_fdel (hn.fdel nmA) nmB
    rw [fget_fdel_other _ _ _ nmAB] at u2
    have hb := h.both
    have hu := h.used
    simp only
    omega
  · unfold appendOf
    rw [h.calm.there h.a]
    simp only [List.length_replicate, if_true]
    rw [if_pos (by omega)]

/-- The loop of DiskFull. -/
def FullRel (w : World) (d : Nat) (r : Int) (K : Nat) (us i : Value) (wr : World) : Prop :=
  ∃ (k u : Nat) (m : DM), k ≤ K ∧ i = .int .i64 (k : Int) ∧ us = .int .i64 (u : Int) ∧ Since w wr d m ∧ FullInv m r u (k + 2)

end Go.Proofs.Ytlinkpjneehnbaa
