/- What the journal's lay, Append, Open do to a disk whose power may go: plain. -/
import Derived.Test.YtlinkpjneehnbaaImg
namespace Go.Proofs.Ytlinkpjneehnbaa
set_option linter.unusedVariables false
open Go.RowKit Go.MapKept

/-- A disk with power, of two files; Q holds of whatever a crash makes of the journal's file; b is what it has now. -/
structure JUp (L : Nat) (Q : List UInt8 → Prop) (b : List UInt8) (m : DM) (n : Nat) : Prop where
  good : Good m n
  room : m.room = 1048576
  down : m.down = false
  img : Img m (JFs L Q)
  now : fget m.now nmJ = some b
/-- A disk without power. -/
structure JDown (L : Nat) (Q : List UInt8 → Prop) (m : DM) (n : Nat) : Prop where
  good : Good m n
  room : m.room = 1048576
  down : m.down = true
  img : Img m (JFs L Q)
theorem JDown.mono {L : Nat} {P Q : List UInt8 → Prop} {m : DM} {n k : Nat} (h : JDown L P m n) (hPQ : ∀ b, P b → Q b) (hk : n ≤ k) : JDown L Q m k := ⟨h.good.mono hk, h.room, h.down, h.img.mono (fun _ hf => hf.mono hPQ)⟩
theorem JUp.mono {L : Nat} {P Q : List UInt8 → Prop} {m : DM} {b : List UInt8} {n k : Nat} (h : JUp L P b m n) (hPQ : ∀ b, P b → Q b) (hk : n ≤ k) : JUp L Q b m k := ⟨h.good.mono hk, h.room, h.down, h.img.mono (fun _ hf => hf.mono hPQ), h.now⟩
theorem JUp.fs {L : Nat} {Q : List UInt8 → Prop} {b : List UInt8} {m : DM} {n : Nat} (h : JUp L Q b m n) : JFs L Q m.now := h.img.now h.good
theorem JUp.holds {L : Nat} {Q : List UInt8 → Prop} {b : List UInt8} {m : DM} {n : Nat} (h : JUp L Q b m n) : Q b ∧ b.length ≤ L := by
  obtain ⟨x, h1, h2, h3⟩ := h.fs.jrn
  rw [h.now] at h1
  cases h1
  exact ⟨h3, h2⟩
theorem tmpJ_name : isName tmpJ = true := nmJ_name.2

/-- A step on the file beside the journal's, or on both. -/
theorem JUp.step {L : Nat} {P Q : List UInt8 → Prop} {b b' : List UInt8} {m : DM} {n : Nat} (h : JUp L P b m n) (c : Ch) {r : Int × DM} (hr : r = doesOf m c) (hgood : Good r.2 (n + 1)) (hPQ : ∀ x, P x → Q x)
    (h0 : c.kind ≠ 1 → JFs L Q (doCh m.now c)) (h1 : c.kind = 1 → ∀ i, JFs L Q (doCh m.now { c with p := c.p.take i })) (hnow : fget (doCh m.now c) nmJ = some b') :
    (r.1 = 0 ∧ JUp L Q b' r.2 (n + 1) ∧ r.2.now = doCh m.now c) ∨ (r.1 = 5 ∧ JDown L Q r.2 (n + 1)) := by
  have himg : Img m (JFs L Q) := h.img.mono (fun _ hf => hf.mono hPQ)
  rcases does_cases m c with hd | hd
  · rw [← hr] at hd
    exact .inl ⟨hd.code, ⟨hgood, hd.room.trans h.room, hd.down.trans h.down, hd.img h.good himg h0 h1, by rw [hd.now]; exact hnow⟩, hd.now⟩
  · rw [← hr] at hd
    exact .inr ⟨hd.code, hgood, hd.room.trans h.room, hd.down, hd.img himg⟩
theorem JUp.there {L : Nat} {Q : List UInt8 → Prop} {b : List UInt8} {m : DM} {n : Nat} (h : JUp L Q b m n) (f : ByteArray) : thereOf m f = if (fget m.now f).isSome then 0 else 6 := by
  unfold thereOf
  rw [h.down]
  rfl
/-- clear. -/
theorem JUp.clear {L : Nat} {Q : List UInt8 → Prop} {b : List UInt8} {m : DM} {n : Nat} (h : JUp L Q b m n) :
    ((clearOf m tmpJ).1 = 0 ∧ JUp L Q b (clearOf m tmpJ).2 (n + 1) ∧ fget (clearOf m tmpJ).2.now tmpJ = none) ∨ ((clearOf m tmpJ).1 = 5 ∧ JDown L Q (clearOf m tmpJ).2 (n + 1)) := by
  have hth := h.there tmpJ
  cases hg : fget m.now tmpJ with
  | none =>
    rw [hg] at hth
    have hr : removeOf m tmpJ = (6, m) := by unfold removeOf; rw [hth]; rfl
    unfold clearOf
    rw [hr]
    exact .inl ⟨rfl, h.mono (fun _ h => h) (Nat.le_succ _), hg⟩
  | some x =>
    rw [hg] at hth
    have hr : removeOf m tmpJ = doesOf m ⟨2, tmpJ, ⟨#[]⟩, []⟩ := by unfold removeOf; rw [hth]; rfl
    have hdo : doCh m.now ⟨2, tmpJ, ⟨#[]⟩, []⟩ = fdel m.now tmpJ := by simp [doCh]
    have hs := h.step (Q := Q) (b' := b) ⟨2, tmpJ, ⟨#[]⟩, []⟩ hr (h.good.remove tmpJ) (fun _ h => h) (fun _ => by rw [hdo]; exact h.fs.delTmp) (fun e => by simp at e) (by rw [hdo, fget_fdel_other _ _ _ tmpJ_ne]; exact h.now)
    rcases hs with ⟨h1, h2, h3⟩ | ⟨h1, h2⟩
    · have hc : clearOf m tmpJ = removeOf m tmpJ := by unfold clearOf; rw [if_neg (by rw [h1]; omega)]
      rw [hc]
      exact .inl ⟨h1, h2, by rw [h3, hdo]; exact fget_fdel_same _ _⟩
    · have hc : clearOf m tmpJ = removeOf m tmpJ := by unfold clearOf; rw [if_neg (by rw [h1]; omega)]
      rw [hc]
      exact .inr ⟨h1, h2⟩
/-- Create of the file beside. -/
theorem JUp.createTmp {L : Nat} {Q : List UInt8 → Prop} {b : List UInt8} {m : DM} {n : Nat} (h : JUp L Q b m n) (ht : fget m.now tmpJ = none) :
    ((createOf m tmpJ).1 = 0 ∧ JUp L Q b (createOf m tmpJ).2 (n + 1) ∧ fget (createOf m tmpJ).2.now tmpJ = some []) ∨ ((createOf m tmpJ).1 = 5 ∧ JDown L Q (createOf m tmpJ).2 (n + 1)) := by
  have hl := h.fs.small.2
  have hr : createOf m tmpJ = doesOf m ⟨0, tmpJ, ⟨#[]⟩, []⟩ := by
    unfold createOf
    rw [h.down, tmpJ_name, ht]
    simp only [Bool.false_eq_true, if_false, Bool.not_true, Option.isSome_none]
    rw [if_neg (by simp; omega)]
  have hdo : doCh m.now ⟨0, tmpJ, ⟨#[]⟩, []⟩ = fput m.now tmpJ [] := by simp [doCh]
  rcases h.step (Q := Q) (b' := b) ⟨0, tmpJ, ⟨#[]⟩, []⟩ hr (h.good.create tmpJ) (fun _ h => h) (fun _ => by rw [hdo]; exact h.fs.putTmp [] (Nat.zero_le _)) (fun e => by simp at e) (by rw [hdo, fget_fput_other h.fs.nodup _ _ _ tmpJ_ne]; exact h.now) with ⟨h1, h2, h3⟩ | ⟨h1, h2⟩
  · exact .inl ⟨h1, h2, by rw [h3, hdo]; exact fget_fput_same h.fs.nodup _ _⟩
  · exact .inr ⟨h1, h2⟩
/-- The bytes written. -/
theorem JUp.write {L : Nat} {Q : List UInt8 → Prop} {b : List UInt8} {m : DM} {n : Nat} (h : JUp L Q b m n) (ht : fget m.now tmpJ = some []) (B : List UInt8) (hB : B.length ≤ L) (hL : L ≤ 300000) :
    ((writeOf m tmpJ B).1 = 0 ∧ JUp L Q b (writeOf m tmpJ B).2 (n + 1) ∧ fget (writeOf m tmpJ B).2.now tmpJ = some B) ∨ ((writeOf m tmpJ B).1 = 5 ∧ JDown L Q (writeOf m tmpJ B).2 (n + 1)) := by
  have hf : B.length / 1048576 = 0 := Nat.div_eq_of_lt (by omega)
  unfold writeOf
  rw [hf, Nat.zero_add, writeFrom]
  by_cases h0 : 0 < B.length
  · rw [if_pos h0, List.drop_zero, List.take_of_length_le (by omega)]
    have hth : thereOf m tmpJ = 0 := by rw [h.there, ht]; rfl
    have hu := h.fs.small.1
    have hr : appendOf m tmpJ B = doesOf m ⟨1, tmpJ, ⟨#[]⟩, B⟩ := by
      unfold appendOf
      rw [hth, if_pos rfl, if_neg (by omega), if_neg (by rw [h.room]; omega)]
    have hdo : ∀ p, doCh m.now ⟨1, tmpJ, ⟨#[]⟩, p⟩ = fput m.now tmpJ p := fun p => by simp [doCh, ht]
    rcases h.step (Q := Q) (b' := b) ⟨1, tmpJ, ⟨#[]⟩, B⟩ hr (h.good.append tmpJ B) (fun _ h => h) (fun e => absurd rfl e) (fun _ i => by
        rw [hdo]
        exact h.fs.putTmp _ (Nat.le_trans (List.length_take_le' _ _) hB)) (by rw [hdo, fget_fput_other h.fs.nodup _ _ _ tmpJ_ne]; exact h.now) with ⟨h1, h2, h3⟩ | ⟨h1, h2⟩
    · rw [if_pos h1]
      exact .inl ⟨rfl, h2, by
        simp only [writeFrom]
        rw [h3, hdo]; exact fget_fput_same h.fs.nodup _ _⟩
    · rw [if_neg (by rw [h1]; omega)]
      exact .inr ⟨h1, h2⟩
  · rw [if_neg h0]
    have : B = [] := List.eq_nil_of_length_eq_zero (by omega)
    subst this
    exact .inl ⟨rfl, h.mono (fun _ h => h) (Nat.le_succ _), ht⟩
theorem JUp.sync {L : Nat} {P Q : List UInt8 → Prop} {b : List UInt8} {m : DM} {n : Nat} (h : JUp L P b m n) (hq : Q b) :
    ((syncOf m).1 = 0 ∧ JUp L Q b (syncOf m).2 n ∧ (syncOf m).2.now = m.now) ∨ ((syncOf m).1 = 5 ∧ JDown L P (syncOf m).2 n) := by
  rcases sync_cases h.good h.down with hs | hs
  · have hfs : JFs L Q m.now := by
      have := h.fs
      exact ⟨this.nodup, this.only, this.tmp, b, h.now, h.holds.2, hq⟩
    exact .inl ⟨hs.code, ⟨h.good.sync, hs.room.trans h.room, hs.down, hs.img (n := n) hfs, by rw [hs.now]; exact h.now⟩, hs.now⟩
  · exact .inr ⟨hs.code, h.good.sync, hs.room.trans h.room, hs.down, hs.img h.img⟩
theorem JUp.renameTmp {L : Nat} {Q : List UInt8 → Prop} {b B : List UInt8} {m : DM} {n : Nat} (h : JUp L Q b m n) (ht : fget m.now tmpJ = some B) (hB : B.length ≤ L) :
    ((renameOf m tmpJ nmJ).1 = 0 ∧ JUp L (fun x => Q x ∨ x = B) B (renameOf m tmpJ nmJ).2 (n + 1)) ∨ ((renameOf m tmpJ nmJ).1 = 5 ∧ JDown L (fun x => Q x ∨ x = B) (renameOf m tmpJ nmJ).2 (n + 1)) := by
  have hth : thereOf m tmpJ = 0 := by rw [h.there, ht]; rfl
  have hr : renameOf m tmpJ nmJ = doesOf m ⟨3, tmpJ, nmJ, []⟩ := by
    unfold renameOf
    rw [hth, if_pos rfl, nmJ_name.1]
    rfl
  have hj : JFs L (fun x => Q x ∨ x = B) (doCh m.now ⟨3, tmpJ, nmJ, []⟩) := h.fs.rename B ht hB (.inr rfl)
  have hn : fget (doCh m.now ⟨3, tmpJ, nmJ, []⟩) nmJ = some B := by
    have e : doCh m.now ⟨3, tmpJ, nmJ, []⟩ = fdel (fput m.now nmJ B) tmpJ := by simp [doCh, tmpJ_ne, ht]
    rw [e, fget_fdel_other _ _ _ tmpJ_ne, fget_fput_same h.fs.nodup]
  rcases h.step (Q := fun x => Q x ∨ x = B) (b' := B) ⟨3, tmpJ, nmJ, []⟩ hr (h.good.rename tmpJ nmJ) (fun _ h => .inl h) (fun _ => hj) (fun e => by simp at e) hn with ⟨h1, h2, _⟩ | ⟨h1, h2⟩
  · exact .inl ⟨h1, h2⟩
  · exact .inr ⟨h1, h2⟩
/-- lay: all of it is there; or the power is gone, and what stands in the file is what stood there, or all of it. -/
theorem JUp.lay {L : Nat} {Q : List UInt8 → Prop} {b : List UInt8} {m : DM} {n : Nat} (h : JUp L Q b m n) (B : List UInt8) (hB : B.length ≤ L) (hL : L ≤ 300000) :
    ((layOf m nmJ B).1 = 0 ∧ JUp L (fun x => x = B) B (layOf m nmJ B).2 (n + 4)) ∨ ((layOf m nmJ B).1 = 5 ∧ JDown L (fun x => Q x ∨ x = B) (layOf m nmJ B).2 (n + 4)) := by
  have key : ((runSteps (laySteps nmJ B) m).1 = 0 ∧ JUp L (fun x => x = B) B (runSteps (laySteps nmJ B) m).2 (n + 4)) ∨ ((runSteps (laySteps nmJ B) m).1 = 5 ∧ JDown L (fun x => Q x ∨ x = B) (runSteps (laySteps nmJ B) m).2 (n + 4)) := by
    rw [show laySteps nmJ B = [fun m => clearOf m tmpJ, fun m => createOf m tmpJ, fun m => writeOf m tmpJ B, syncOf, fun m => renameOf m tmpJ nmJ, syncOf] from rfl, runSteps]
    rcases h.clear with ⟨c1, h1, t1⟩ | ⟨c1, h1⟩
    · rw [if_pos c1, runSteps]
      rcases h1.createTmp t1 with ⟨c2, h2, t2⟩ | ⟨c2, h2⟩
      · rw [if_pos c2, runSteps]
        rcases h2.write t2 B hB hL with ⟨c3, h3, t3⟩ | ⟨c3, h3⟩
        · rw [if_pos c3, runSteps]
          rcases h3.sync (Q := Q) h3.holds.1 with ⟨c4, h4, t4⟩ | ⟨c4, h4⟩
          · rw [if_pos c4, runSteps]
            rcases h4.renameTmp (by rw [t4]; exact t3) hB with ⟨c5, h5⟩ | ⟨c5, h5⟩
            · rw [if_pos c5, runSteps]
              rcases h5.sync (Q := fun x => x = B) rfl with ⟨c6, h6, _⟩ | ⟨c6, h6⟩
              · rw [if_pos c6]
                exact .inl ⟨rfl, h6.mono (fun _ h => h) (by omega)⟩
              · rw [if_neg (by rw [c6]; omega)]
                exact .inr ⟨c6, h6.mono (fun _ h => h) (by omega)⟩
            · rw [if_neg (by rw [c5]; omega)]
              exact .inr ⟨c5, h5.mono (fun _ h => h) (by omega)⟩
          · rw [if_neg (by rw [c4]; omega)]
            exact .inr ⟨c4, h4.mono (fun _ h => .inl h) (by omega)⟩
        · rw [if_neg (by rw [c3]; omega)]
          exact .inr ⟨c3, h3.mono (fun _ h => .inl h) (by omega)⟩
      · rw [if_neg (by rw [c2]; omega)]
        exact .inr ⟨c2, h2.mono (fun _ h => .inl h) (by omega)⟩
    · rw [if_neg (by rw [c1]; omega)]
      exact .inr ⟨c1, h1.mono (fun _ h => .inl h) (by omega)⟩
  have e : layOf m nmJ B = runSteps (laySteps nmJ B) m := by
    unfold layOf unfull
    rw [if_neg (by rcases key with ⟨k, _⟩ | ⟨k, _⟩ <;> rw [k] <;> omega)]
  rw [e]
  exact key
end Go.Proofs.Ytlinkpjneehnbaa
