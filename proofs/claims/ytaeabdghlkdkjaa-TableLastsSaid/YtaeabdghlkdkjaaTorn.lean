/- Frames behind which one is torn; a fuse that never burns. Plain. -/
import Derived.Test.YtaeabdghlkdkjaaPkK
namespace Go.Proofs.Ytaeabdghlkdkjaa
set_option linter.unusedVariables false
open Go.RowKit Go.MapKept

/-! ### Frames behind which one is torn -/
def Torn (all : List (List UInt8)) (k : Nat) (t : List UInt8) : Prop := t = [] ∨ ∃ p i, all[k]? = some p ∧ i < (frameOf p).length ∧ t = (frameOf p).take i
theorem torn_scan {rs : List (List UInt8)} {t p : List UInt8} {i : Nat} (h : ∀ q ∈ rs, q.length ≤ 1048576) (hp : p.length ≤ 1048576) (hi : i < (frameOf p).length) (ht : t = (frameOf p).take i) : scanOf (framesOf rs ++ t) = (rs, (framesOf rs).length) := by
  have hfl := frameOf_length p
  have htl : t.length = i := by rw [ht, List.length_take]; omega
  have hsc := scan_of_frames (post := t) h rfl
  have hn : ¬ FrameAt (framesOf rs ++ t) (framesOf rs).length := by
    rintro ⟨h1, h2, h3, _⟩
    rw [List.length_append, htl] at h1 h3
    have hw : wordOf (framesOf rs ++ t) (framesOf rs).length = p.length := by
      have e : t = putOf p.length 4 ++ (putOf (crcOf (putOf p.length 4 ++ p)) 4 ++ p).take (i - 4) := by
        rw [ht]
        unfold frameOf
        rw [List.append_assoc, List.take_append, putOf_length, List.take_of_length_le (by rw [putOf_length]; omega)]
      rw [wordOf_at (x := putOf p.length 4) (pre := framesOf rs) (post := (putOf (crcOf (putOf p.length 4 ++ p)) 4 ++ p).take (i - 4)) (by rw [← e]) rfl (putOf_length _ _)]
      exact getOf_putOf 4 _ (by omega)
    rw [hw] at h3
    omega
  rw [hsc, scanFrom, if_neg hn]
  simp
theorem scan_torn {all : List (List UInt8)} {k : Nat} {t : List UInt8} (h : ∀ q ∈ all, q.length ≤ 1048576) (ht : Torn all k t) : scanOf (framesOf (all.take k) ++ t) = (all.take k, (framesOf (all.take k)).length) := by
  have h2 : ∀ q ∈ all.take k, q.length ≤ 1048576 := fun q hq => h q (List.mem_of_mem_take hq)
  rcases ht with rfl | ⟨p, i, hp, hi, rfl⟩
  · rw [List.append_nil]; exact scan_whole h2
  · exact torn_scan h2 (h p (List.mem_of_getElem? hp)) hi rfl

/-! ### A fuse that never burns -/
theorem Calm.of {m : DM} (h1 : m.down = false) (h2 : m.fuse = -1) : Calm m := ⟨h1, h2⟩
theorem Calm.does2 {m : DM} (h : Calm m) (c : Ch) : (doesOf m c).1 = 0 ∧ Calm (doesOf m c).2 := by
  rw [h.does]; exact ⟨rfl, h.down, h.fuse⟩
theorem Calm.thereNe {m : DM} (h : Calm m) (f : ByteArray) : thereOf m f ≠ 5 := by
  unfold thereOf; rw [h.down]; simp only [Bool.false_eq_true, if_false]; split <;> omega
theorem Calm.clear2 {m : DM} (h : Calm m) (f : ByteArray) : (clearOf m f).1 ≠ 5 ∧ Calm (clearOf m f).2 := by
  have hr : (removeOf m f).1 ≠ 5 ∧ Calm (removeOf m f).2 := by
    unfold removeOf
    split
    · have := h.does2 ⟨2, f, ⟨#[]⟩, []⟩; exact ⟨by rw [this.1]; omega, this.2⟩
    · exact ⟨h.thereNe f, h⟩
  unfold clearOf
  split
  · exact ⟨by simp, hr.2⟩
  · exact hr
theorem Calm.create2 {m : DM} (h : Calm m) (f : ByteArray) : (createOf m f).1 ≠ 5 ∧ Calm (createOf m f).2 := by
  unfold createOf
  rw [h.down]
  simp only [Bool.false_eq_true, if_false]
  split
  · exact ⟨by simp, h⟩
  · split
    · exact ⟨by simp, h⟩
    · split
      · exact ⟨by simp, h⟩
      · have := h.does2 ⟨0, f, ⟨#[]⟩, []⟩; exact ⟨by rw [this.1]; omega, this.2⟩
theorem Calm.append2 {m : DM} (h : Calm m) (f : ByteArray) (p : List UInt8) : (appendOf m f p).1 ≠ 5 ∧ Calm (appendOf m f p).2 := by
  unfold appendOf
  split
  · split
    · exact ⟨by simp, h⟩
    · split
      · exact ⟨by simp, h⟩
      · have := h.does2 ⟨1, f, ⟨#[]⟩, p⟩; exact ⟨by rw [this.1]; omega, this.2⟩
  · exact ⟨h.thereNe f, h⟩
theorem Calm.rename2 {m : DM} (h : Calm m) (f g : ByteArray) : (renameOf m f g).1 ≠ 5 ∧ Calm (renameOf m f g).2 := by
  unfold renameOf
  split
  · split
    · exact ⟨by simp, h⟩
    · have := h.does2 ⟨3, f, g, []⟩; exact ⟨by rw [this.1]; omega, this.2⟩
  · exact ⟨h.thereNe f, h⟩
theorem Calm.sync2 {m : DM} (h : Calm m) : (syncOf m).1 ≠ 5 ∧ Calm (syncOf m).2 := by
  have hf := h.fuse
  unfold syncOf
  rw [h.down]
  simp only [Bool.false_eq_true, if_false]
  rw [if_neg (by omega)]
  refine ⟨by simp, ?_⟩
  unfold synced spendOf
  rw [if_neg (by omega), if_neg (by omega)]
  exact ⟨h.down, h.fuse⟩
theorem Calm.write2 {t : ByteArray} {b : List UInt8} : ∀ (f : Nat) {m : DM} {i : Nat}, Calm m → (writeFrom t b f m i).1 ≠ 5 ∧ Calm (writeFrom t b f m i).2
  | 0, m, i, h => ⟨by simp [writeFrom], h⟩
  | f + 1, m, i, h => by
    have ha := h.append2 t ((b.drop i).take 1048576)
    rw [writeFrom]
    split
    · split
      · exact Calm.write2 f ha.2
      · exact ha
    · exact ⟨by simp, h⟩
theorem Calm.run : ∀ (fs : List (DM → Int × DM)) {m : DM}, (∀ f ∈ fs, ∀ m, Calm m → (f m).1 ≠ 5 ∧ Calm (f m).2) → Calm m → (runSteps fs m).1 ≠ 5 ∧ Calm (runSteps fs m).2
  | [], m, _, h => ⟨by simp [runSteps], h⟩
  | f :: fs, m, hf, h => by
    have h1 := hf f (List.mem_cons_self ..) m h
    rw [runSteps]
    split
    · exact Calm.run fs (fun g hg => hf g (List.mem_cons_of_mem _ hg)) h1.2
    · exact h1
theorem Calm.lay2 {m : DM} (h : Calm m) (nm : ByteArray) (B : List UInt8) : (layOf m nm B).1 ≠ 5 := by
  have hr := Calm.run (laySteps nm B) (fun f hf m hm => by
    simp only [laySteps, List.mem_cons, List.not_mem_nil, or_false] at hf
    rcases hf with rfl | rfl | rfl | rfl | rfl | rfl
    · exact hm.clear2 _
    · exact hm.create2 _
    · exact Calm.write2 _ hm
    · exact hm.sync2
    · exact hm.rename2 _ _
    · exact hm.sync2) h
  unfold layOf unfull
  split
  · have := hr.2.clear2 (tmpOf nm)
    split
    · simp
    · exact this.1
  · exact hr.1
end Go.Proofs.Ytaeabdghlkdkjaa
