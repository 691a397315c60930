/- The plain law of JournalLasts. -/
import Derived.Test.YtlinkpjneehnbaaImgLay
import Derived.Test.YtlinkpjneehnbaaSmall
namespace Go.Proofs.Ytlinkpjneehnbaa
set_option linter.unusedVariables false
open Go.RowKit Go.MapKept

/-! ### Frames behind which one is torn -/
def Torn (all : List (List UInt8)) (k : Nat) (t : List UInt8) : Prop := t = [] ∨ ∃ p i, all[k]? = some p ∧ i < (frameOf p).length ∧ t = (frameOf p).take i
theorem torn_scan {rs : List (List UInt8)} {t p : List UInt8} {i : Nat} (h : ∀ q ∈ rs, q.length ≤ 1048576) (hp : p.length ≤ 1048576) (hi : i < (frameOf p).length) (ht : t = (frameOf p).take i) : scanOf (framesOf rs ++ t) = (rs, (framesOf rs).length) := by
  have hfl := frameOf_length p
  have htl : t.length = i := by rw [ht, List.length_take]; omega
  have hsc := scan_of_frames (post := t) h rfl
  have hn : ¬ FrameAt (framesOf rs ++ t) (framesOf rs).length := by
    rintro ⟨h1, h2, h3, _⟩
    rw [List.length_append, htl] at h1 h3
    have hw : wordOf (framesOf rs ++ t) (framesOf rs).length = p.length := by
      have e : t = putOf p.length 4 ++ (putOf (crcOf (putOf p.length 4 ++ p)) 4 ++ p).take (i - 4) := by
        rw [ht]
        unfold frameOf
        rw [List.append_assoc, List.take_append, putOf_length, List.take_of_length_le (by rw [putOf_length]; omega)]
      rw [wordOf_at (x := putOf p.length 4) (pre := framesOf rs) (post := (putOf (crcOf (putOf p.length 4 ++ p)) 4 ++ p).take (i - 4)) (by rw [← e]) rfl (putOf_length _ _)]
      exact getOf_putOf 4 _ (by omega)
    rw [hw] at h3
    omega
  rw [hsc, scanFrom, if_neg hn]
  simp
theorem scan_torn {all : List (List UInt8)} {k : Nat} {t : List UInt8} (h : ∀ q ∈ all, q.length ≤ 1048576) (ht : Torn all k t) : scanOf (framesOf (all.take k) ++ t) = (all.take k, (framesOf (all.take k)).length) := by
  have h2 : ∀ q ∈ all.take k, q.length ≤ 1048576 := fun q hq => h q (List.mem_of_mem_take hq)
  rcases ht with rfl | ⟨p, i, hp, hi, rfl⟩
  · rw [List.append_nil]; exact scan_whole h2
  · exact torn_scan h2 (h p (List.mem_of_getElem? hp)) hi rfl

/-! ### What may stand in the journal's file -/
def QJ (all : List (List UInt8)) (sure : Nat) (b : List UInt8) : Prop := ∃ k t, sure ≤ k ∧ k ≤ all.length ∧ Torn all k t ∧ b = framesOf (all.take k) ++ t
theorem QJ.whole (all : List (List UInt8)) {sure : Nat} (h : sure ≤ all.length) : QJ all sure (framesOf all) := ⟨all.length, [], h, Nat.le_refl _, .inl rfl, by rw [List.take_length, List.append_nil]⟩
theorem QJ.push {all : List (List UInt8)} {sure : Nat} {b : List UInt8} (h : QJ all sure b) (p : List UInt8) : QJ (all ++ [p]) sure b := by
  obtain ⟨k, t, h1, h2, h3, rfl⟩ := h
  refine ⟨k, t, h1, by simp; omega, ?_, by rw [List.take_append_of_le_length h2]⟩
  rcases h3 with h3 | ⟨q, i, hq, hi, e⟩
  · exact .inl h3
  · exact .inr ⟨q, i, by rw [List.getElem?_append_left (List.getElem?_eq_some_iff.1 hq).1]; exact hq, hi, e⟩
theorem QJ.part {all : List (List UInt8)} {sure : Nat} (h : sure ≤ all.length) (p : List UInt8) (i : Nat) : QJ (all ++ [p]) sure (framesOf all ++ (frameOf p).take i) := by
  by_cases hi : i < (frameOf p).length
  · exact ⟨all.length, _, h, by simp, .inr ⟨p, i, by simp, hi, rfl⟩, by rw [List.take_append_of_le_length (Nat.le_refl _), List.take_length]⟩
  · rw [List.take_of_length_le (by omega)]
    have : framesOf all ++ frameOf p = framesOf (all ++ [p]) := by rw [framesOf_append]; simp [framesOf]
    rw [this]
    exact QJ.whole _ (by simp; omega)

/-! ### Steps of a disk with power and without -/
theorem down_there {m : DM} (h : m.down = true) (f : ByteArray) : thereOf m f = 5 := by unfold thereOf; rw [h]; rfl
theorem down_append {m : DM} (h : m.down = true) (f : ByteArray) (p : List UInt8) : appendOf m f p = (5, m) := by
  unfold appendOf; rw [down_there h]; rfl
theorem down_remove {m : DM} (h : m.down = true) (f : ByteArray) : removeOf m f = (5, m) := by
  unfold removeOf; rw [down_there h]; rfl
theorem down_sync {m : DM} (h : m.down = true) : syncOf m = (5, m) := by unfold syncOf; rw [h]; rfl
theorem down_lay {m : DM} (h : m.down = true) (nm : ByteArray) (B : List UInt8) : layOf m nm B = (5, m) := by
  have hc : clearOf m (tmpOf nm) = (5, m) := by unfold clearOf; rw [down_remove h]; rfl
  unfold layOf laySteps
  rw [runSteps, hc]
  rfl
theorem down_fuse {m : DM} (h : m.down = true) (k : Int) : fuseOf m k = (5, m) := by unfold fuseOf; rw [h]; rfl

/-- Append to the journal's file. -/
theorem JUp.append {L : Nat} {all : List (List UInt8)} {sure : Nat} {m : DM} {n : Nat} (h : JUp L (QJ all sure) (framesOf all) m n) (hs : sure ≤ all.length) (p : List UInt8) (hp : p.length ≤ 2000) (hL : (framesOf (all ++ [p])).length ≤ L) (hL2 : L ≤ 300000) :
    ((appendOf m nmJ (frameOf p)).1 = 0 ∧ JUp L (QJ (all ++ [p]) sure) (framesOf (all ++ [p])) (appendOf m nmJ (frameOf p)).2 (n + 1)) ∨ ((appendOf m nmJ (frameOf p)).1 = 5 ∧ JDown L (QJ all sure) (appendOf m nmJ (frameOf p)).2 (n + 1)) := by
  have hfp : framesOf all ++ frameOf p = framesOf (all ++ [p]) := by rw [framesOf_append]; simp [framesOf]
  have hfl := frameOf_length p
  have hth : thereOf m nmJ = 0 := by rw [h.there, h.now]; rfl
  have hu := h.fs.small.1
  have hr : appendOf m nmJ (frameOf p) = doesOf m ⟨1, nmJ, ⟨#[]⟩, frameOf p⟩ := by
    unfold appendOf
    rw [hth, if_pos rfl, if_neg (by omega), if_neg (by rw [h.room]; omega)]
  have hg := h.good.append nmJ (frameOf p)
  have hdo : ∀ q, doCh m.now ⟨1, nmJ, ⟨#[]⟩, q⟩ = fput m.now nmJ (framesOf all ++ q) := fun q => by simp [doCh, h.now]
  rcases does_cases m ⟨1, nmJ, ⟨#[]⟩, frameOf p⟩ with hd | hd
  · rw [← hr] at hd
    refine .inl ⟨hd.code, hg, hd.room.trans h.room, hd.down.trans h.down, hd.img h.good (h.img.mono (fun _ hf => hf.mono (fun b hb => hb.push p))) (fun e => absurd rfl e) (fun _ i => ?_), ?_⟩
    · rw [hdo]
      refine h.fs.putJ _ (Nat.le_trans ?_ hL) (QJ.part hs p i)
      have ht := List.length_take_le' i (frameOf p)
      show (framesOf all ++ (frameOf p).take i).length ≤ _
      rw [← hfp, List.length_append, List.length_append]; omega
    · rw [hd.now, hdo, fget_fput_same h.fs.nodup, hfp]
  · rw [← hr] at hd
    exact .inr ⟨hd.code, hg, hd.room.trans h.room, hd.down, hd.img h.img⟩
theorem JUp.fuse {L : Nat} {Q : List UInt8 → Prop} {b : List UInt8} {m : DM} {n : Nat} (h : JUp L Q b m n) (k : Int) (hk : k ≤ 9223372036854775807) : JUp L Q b (fuseOf m k).2 n := by
  have hg := h.good.setFuse k hk
  have e : (fuseOf m k).2 = { m with fuse := if k < -1 then -1 else k } := by unfold fuseOf; rw [h.down]; rfl
  rw [e] at hg ⊢
  exact ⟨hg, h.room, h.down, h.img.same rfl rfl, h.now⟩
/-- Behind a crash. -/
theorem crash_up {L : Nat} {Q : List UInt8 → Prop} {m : DM} {n : Nat} (hg : Good m n) (hr : m.room = 1048576) (h : Img m (JFs L Q)) (keep part : Int) :
    ∃ b, Q b ∧ b.length ≤ L ∧ JUp L (fun x => x = b) b (crashOf m keep part) 0 ∧ (crashOf m keep part).fuse = -1 := by
  have hf := h keep part
  obtain ⟨b, h1, h2, h3⟩ := hf.jrn
  refine ⟨b, h3, h2, ⟨hg.crash keep part, hr, rfl, Img.one rfl ⟨hf.nodup, hf.only, hf.tmp, b, h1, h2, rfl⟩, h1⟩, rfl⟩

/-! ### A fuse that never burns -/
theorem Calm.of {m : DM} (h1 : m.down = false) (h2 : m.fuse = -1) : Calm m := ⟨h1, h2⟩
theorem Calm.does2 {m : DM} (h : Calm m) (c : Ch) : (doesOf m c).1 = 0 ∧ Calm (doesOf m c).2 := by
  rw [h.does]; exact ⟨rfl, h.down, h.fuse⟩
theorem Calm.thereNe {m : DM} (h : Calm m) (f : ByteArray) : thereOf m f ≠ 5 := by
  unfold thereOf; rw [h.down]; simp only [Bool.false_eq_true, if_false]; split <;> omega
theorem Calm.clear2 {m : DM} (h : Calm m) (f : ByteArray) : (clearOf m f).1 ≠ 5 ∧ Calm (clearOf m f).2 := by
  have hr : (removeOf m f).1 ≠ 5 ∧ Calm (removeOf m f).2 := by
    unfold removeOf
    split
    · have := h.does2 ⟨2, f, ⟨#[]⟩, []⟩; exact ⟨by rw [this.1]; omega, this.2⟩
    · exact ⟨h.thereNe f, h⟩
  unfold clearOf
  split
  · exact ⟨by simp, hr.2⟩
  · exact hr
theorem Calm.create2 {m : DM} (h : Calm m) (f : ByteArray) : (createOf m f).1 ≠ 5 ∧ Calm (createOf m f).2 := by
  unfold createOf
  rw [h.down]
  simp only [Bool.false_eq_true, if_false]
  split
  · exact ⟨by simp, h⟩
  · split
    · exact ⟨by simp, h⟩
    · split
      · exact ⟨by simp, h⟩
      · have := h.does2 ⟨0, f, ⟨#[]⟩, []⟩; exact ⟨by rw [this.1]; omega, this.2⟩
theorem Calm.append2 {m : DM} (h : Calm m) (f : ByteArray) (p : List UInt8) : (appendOf m f p).1 ≠ 5 ∧ Calm (appendOf m f p).2 := by
  unfold appendOf
  split
  · split
    · exact ⟨by simp, h⟩
    · split
      · exact ⟨by simp, h⟩
      · have := h.does2 ⟨1, f, ⟨#[]⟩, p⟩; exact ⟨by rw [this.1]; omega, this.2⟩
  · exact ⟨h.thereNe f, h⟩
theorem Calm.rename2 {m : DM} (h : Calm m) (f g : ByteArray) : (renameOf m f g).1 ≠ 5 ∧ Calm (renameOf m f g).2 := by
  unfold renameOf
  split
  · split
    · exact ⟨by simp, h⟩
    · have := h.does2 ⟨3, f, g, []⟩; exact ⟨by rw [this.1]; omega, this.2⟩
  · exact ⟨h.thereNe f, h⟩
theorem Calm.sync2 {m : DM} (h : Calm m) : (syncOf m).1 ≠ 5 ∧ Calm (syncOf m).2 := by
  have hf := h.fuse
  unfold syncOf
  rw [h.down]
  simp only [Bool.false_eq_true, if_false]
  rw [if_neg (by omega)]
  refine ⟨by simp, ?_⟩
  unfold synced spendOf
  rw [if_neg (by omega), if_neg (by omega)]
  exact ⟨h.down, h.fuse⟩
theorem Calm.write2 {t : ByteArray} {b : List UInt8} : ∀ (f : Nat) {m : DM} {i : Nat}, Calm m → (writeFrom t b f m i).1 ≠ 5 ∧ Calm (writeFrom t b f m i).2
  | 0, m, i, h => ⟨by simp [writeFrom], h⟩
  | f + 1, m, i, h => by
    have ha := h.append2 t ((b.drop i).take 1048576)
    rw [writeFrom]
    split
    · split
      · exact Calm.write2 f ha.2
      · exact ha
    · exact ⟨by simp, h⟩
theorem Calm.run : ∀ (fs : List (DM → Int × DM)) {m : DM}, (∀ f ∈ fs, ∀ m, Calm m → (f m).1 ≠ 5 ∧ Calm (f m).2) → Calm m → (runSteps fs m).1 ≠ 5 ∧ Calm (runSteps fs m).2
  | [], m, _, h => ⟨by simp [runSteps], h⟩
  | f :: fs, m, hf, h => by
    have h1 := hf f (List.mem_cons_self ..) m h
    rw [runSteps]
    split
    · exact Calm.run fs (fun g hg => hf g (List.mem_cons_of_mem _ hg)) h1.2
    · exact h1
theorem Calm.lay2 {m : DM} (h : Calm m) (nm : ByteArray) (B : List UInt8) : (layOf m nm B).1 ≠ 5 := by
  have hr := Calm.run (laySteps nm B) (fun f hf m hm => by
    simp only [laySteps, List.mem_cons, List.not_mem_nil, or_false] at hf
    rcases hf with rfl | rfl | rfl | rfl | rfl | rfl
    · exact hm.clear2 _
    · exact hm.create2 _
    · exact Calm.write2 _ hm
    · exact hm.sync2
    · exact hm.rename2 _ _
    · exact hm.sync2) h
  unfold layOf unfull
  split
  · have := hr.2.clear2 (tmpOf nm)
    split
    · simp
    · exact this.1
  · exact hr.1

/-! ### Opening -/
theorem JUp.open_ {L : Nat} {b : List UInt8} {rs : List (List UInt8)} {m : DM} {n : Nat} (h : JUp L (fun x => x = b) b m n) (hs : scanOf b = (rs, (framesOf rs).length)) (hL : L ≤ 300000) :
    ((openOf m nmJ).code = 0 ∧ (openOf m nmJ).res = some (rs, (framesOf rs).length) ∧ JUp L (fun x => x = framesOf rs) (framesOf rs) (openOf m nmJ).m (n + 4)) ∨
    ((openOf m nmJ).code = 5 ∧ (openOf m nmJ).res = none ∧ JDown L (fun x => x = b ∨ x = framesOf rs) (openOf m nmJ).m (n + 4) ∧ m.fuse ≠ -1) := by
  have hth : thereOf m nmJ = 0 := by rw [h.there, h.now]; rfl
  have hle := scanOf_le b
  have hbl := h.holds.2
  rw [hs] at hle
  simp only at hle
  have hpre : framesOf rs = b.take (framesOf rs).length := by
    have := (scanFrom_frames (l := b) (b.length + 1) 0 (Nat.zero_le _)).2
    unfold scanOf at hs
    rw [hs, List.drop_zero] at this
    exact this.symm
  unfold openOf
  rw [if_pos nmJ_name, if_neg (by rw [hth]; omega), if_pos hth, h.now, Option.getD_some, hs]
  by_cases hlt : (framesOf rs).length < b.length
  · simp only [hlt, if_true]
    unfold openLay
    rcases h.lay (framesOf rs) (by omega) hL with ⟨c, hu⟩ | ⟨c, hd⟩
    · rw [if_pos c]
      exact .inl ⟨rfl, rfl, hu⟩
    · rw [if_neg (by rw [c]; omega)]
      refine .inr ⟨c, rfl, hd, fun hf => ?_⟩
      exact (Calm.of h.down hf).lay2 nmJ (framesOf rs) c
  · simp only [hlt, if_false]
    have e : b = framesOf rs := by rw [hpre, List.take_of_length_le (by omega)]
    refine .inl ⟨by simp, by simp, ?_⟩
    rw [← e]
    exact h.mono (fun _ h => h) (by omega)
end Go.Proofs.Ytlinkpjneehnbaa
