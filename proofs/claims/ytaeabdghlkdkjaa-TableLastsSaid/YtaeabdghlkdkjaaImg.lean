/- What a crash may leave: plain. -/
import Derived.Test.YtaeabdghlkdkjaaPkK
namespace Go.Proofs.Ytaeabdghlkdkjaa
set_option linter.unusedVariables false
open Go.RowKit Go.MapKept

/-- P holds of all files that a crash may leave. -/
def Img (m : DM) (P : FS → Prop) : Prop := ∀ keep part : Int, P (crashFs m keep part)
theorem Img.mono {m : DM} {P Q : FS → Prop} (h : Img m P) (hPQ : ∀ fs, P fs → Q fs) : Img m Q := fun k p => hPQ _ (h k p)
theorem Img.same {m m' : DM} {P : FS → Prop} (h : Img m P) (h1 : m'.loose = m.loose) (h2 : m'.sure = m.sure) : Img m' P := by
  intro k p
  have := h k p
  unfold crashFs at this ⊢
  rw [h1, h2]; exact this
theorem clampI_nat (k most : Nat) (h : k ≤ most) : clampI (k : Int) most = k := by
  unfold clampI
  rw [if_neg (by omega), if_neg (by omega)]
  simp
theorem Img.now {m : DM} {n : Nat} {P : FS → Prop} (hg : Good m n) (h : Img m P) : P m.now := by
  have := h (m.loose.length : Int) 0
  unfold crashFs at this
  rw [clampI_nat _ _ (Nat.le_refl _), List.take_length, ← hg.now] at this
  simpa using this
theorem Img.one {m : DM} {P : FS → Prop} (h1 : m.loose = []) (h : P m.sure) : Img m P := by
  intro k p
  unfold crashFs
  rw [h1]
  simpa using h
theorem Img.doesLoose {m m' : DM} {n : Nat} {P : FS → Prop} (hg : Good m n) (h : Img m P) (c : Ch) (hl : m'.loose = m.loose ++ [c]) (hs : m'.sure = m.sure)
    (h0 : c.kind ≠ 1 → P (doCh m.now c)) (h1 : c.kind = 1 → ∀ i, P (doCh m.now { c with p := c.p.take i })) : Img m' P := by
  intro k p
  have hnow := h.now hg
  have hle := clampI_le k m'.loose.length
  unfold crashFs
  generalize hK : clampI k m'.loose.length = K at hle ⊢
  rw [hs]
  rw [hl] at hle ⊢
  simp only [List.length_append, List.length_cons, List.length_nil] at hle
  rcases Nat.lt_or_ge K m.loose.length with hlt | hge
  · have hi := h (K : Int) p
    unfold crashFs at hi
    rw [clampI_nat K _ (by omega)] at hi
    rw [List.take_append_of_le_length (by omega), List.getElem?_append_left hlt]
    exact hi
  · rcases Nat.lt_or_ge m.loose.length K with h2 | h2
    · obtain rfl : K = m.loose.length + 1 := by omega
      rw [List.take_of_length_le (by simp), List.getElem?_eq_none (by simp), List.foldl_append, ← hg.now]
      simp only [List.foldl_cons, List.foldl_nil]
      by_cases hk : c.kind = 1
      · have := h1 hk c.p.length
        rw [List.take_length] at this
        exact this
      · exact h0 hk
    · obtain rfl : K = m.loose.length := by omega
      rw [List.take_append_of_le_length (Nat.le_refl _), List.take_length, ← hg.now, List.getElem?_append_right (Nat.le_refl _), Nat.sub_self]
      simp only [List.getElem?_cons_zero]
      by_cases hk : c.kind = 1
      · rw [if_pos hk]; exact h1 hk _
      · rw [if_neg hk]; exact hnow
/-- A step: it is done, or the power is gone. -/
structure Did (m : DM) (c : Ch) (r : Int × DM) : Prop where
  code : r.1 = 0
  down : r.2.down = m.down
  now : r.2.now = doCh m.now c
  loose : r.2.loose = m.loose ++ [c]
  sure : r.2.sure = m.sure
  room : r.2.room = m.room
structure Died (m : DM) (r : Int × DM) : Prop where
  code : r.1 = 5
  down : r.2.down = true
  now : r.2.now = m.now
  loose : r.2.loose = m.loose
  sure : r.2.sure = m.sure
  room : r.2.room = m.room
theorem spend_down (m : DM) : (spendOf m).2.room = m.room ∧ (m.fuse ≠ 0 → (spendOf m).2.down = m.down) := by
  unfold spendOf
  split
  · exact ⟨rfl, fun h => absurd ‹_› h⟩
  · split <;> exact ⟨rfl, fun _ => rfl⟩
theorem does_cases (m : DM) (c : Ch) : Did m c (doesOf m c) ∨ Died m (doesOf m c) := by
  unfold doesOf
  by_cases h : m.fuse = 0
  · rw [if_pos h]; exact .inr ⟨rfl, rfl, rfl, rfl, rfl, rfl⟩
  · rw [if_neg h]
    obtain ⟨e1, e2, e3, e4⟩ := spend_same (m := m)
    obtain ⟨s1, s2⟩ := spend_down m
    exact .inl ⟨rfl, s2 h, rfl, rfl, e2, s1⟩
theorem Died.img {m : DM} {r : Int × DM} {P : FS → Prop} (h : Died m r) (hi : Img m P) : Img r.2 P := hi.same h.loose h.sure
theorem Did.img {m : DM} {n : Nat} {c : Ch} {r : Int × DM} {P : FS → Prop} (h : Did m c r) (hg : Good m n) (hi : Img m P) (h0 : c.kind ≠ 1 → P (doCh m.now c)) (h1 : c.kind = 1 → ∀ i, P (doCh m.now { c with p := c.p.take i })) : Img r.2 P :=
  hi.doesLoose hg c h.loose h.sure h0 h1
/-- A Sync: all lasts, or the power is gone. -/
structure Synced (m : DM) (r : Int × DM) : Prop where
  code : r.1 = 0
  down : r.2.down = false
  now : r.2.now = m.now
  loose : r.2.loose = []
  sure : r.2.sure = m.now
  room : r.2.room = m.room
theorem sync_cases {m : DM} {n : Nat} (hg : Good m n) (hd : m.down = false) : Synced m (syncOf m) ∨ Died m (syncOf m) := by
  unfold syncOf
  rw [hd]
  simp only [Bool.false_eq_true, if_false]
  by_cases h : m.fuse = 0
  · rw [if_pos h]; exact .inr ⟨rfl, rfl, rfl, rfl, rfl, rfl⟩
  · rw [if_neg h]
    obtain ⟨e1, e2, e3, e4⟩ := spend_same (m := m)
    obtain ⟨s1, s2⟩ := spend_down m
    exact .inl ⟨rfl, by rw [← hd]; exact s2 h, e1, rfl, by rw [hg.now]; rfl, s1⟩
theorem Synced.img {m : DM} {n : Nat} {r : Int × DM} {P : FS → Prop} (h : Synced m r) (hp : P m.now) : Img r.2 P := Img.one h.loose (by rw [h.sure]; exact hp)

/-! ### A disk of two files: the journal's, and the one beside it -/
def tmpJ : ByteArray := tmpOf nmJ
theorem tmpJ_ne : tmpJ ≠ nmJ := by
  intro h
  have h1 : tmpJ.size = 2 := by decide +kernel
  have h2 : nmJ.size = 1 := by decide +kernel
  rw [h, h2] at h1
  cases h1
structure JFs (L : Nat) (Q : List UInt8 → Prop) (fs : FS) : Prop where
  nodup : FNodup fs
  only : ∀ n, n ≠ nmJ → n ≠ tmpJ → fget fs n = none
  tmp : ((fget fs tmpJ).getD []).length ≤ L
  jrn : ∃ b, fget fs nmJ = some b ∧ b.length ≤ L ∧ Q b
theorem JFs.mono {L : Nat} {P Q : List UInt8 → Prop} {fs : FS} (h : JFs L P fs) (hPQ : ∀ b, P b → Q b) : JFs L Q fs := by
  obtain ⟨b, h1, h2, h3⟩ := h.jrn
  exact ⟨h.nodup, h.only, h.tmp, b, h1, h2, hPQ b h3⟩
theorem JFs.wider {L L' : Nat} {P : List UInt8 → Prop} {fs : FS} (h : JFs L P fs) (hL : L ≤ L') : JFs L' P fs := by
  obtain ⟨b, h1, h2, h3⟩ := h.jrn
  exact ⟨h.nodup, h.only, Nat.le_trans h.tmp hL, b, h1, Nat.le_trans h2 hL, h3⟩
theorem empty_of_none {fs : FS} (hn : FNodup fs) (h : ∀ n, fget fs n = none) : fs = [] := by
  cases fs with
  | nil => rfl
  | cons p fs =>
    have := h p.1
    rw [show fget (p :: fs) p.1 = some p.2 by simp [fget]] at this
    cases this
theorem JFs.small {L : Nat} {Q : List UInt8 → Prop} {fs : FS} (h : JFs L Q fs) : used fs ≤ 2 * L ∧ fs.length ≤ 2 := by
  obtain ⟨b, h1, h2, _⟩ := h.jrn
  have u1 := used_fdel h.nodup nmJ
  have u2 := used_fdel (h.nodup.fdel nmJ) tmpJ
  rw [fget_fdel_other _ _ _ (Ne.symm tmpJ_ne)] at u2
  have he : fdel (fdel fs nmJ) tmpJ = [] := by
    refine empty_of_none ((h.nodup.fdel nmJ).fdel tmpJ) (fun n => ?_)
    by_cases e1 : n = tmpJ
    · rw [e1]; exact fget_fdel_same _ _
    · rw [fget_fdel_other _ _ _ (Ne.symm e1)]
      by_cases e2 : n = nmJ
      · rw [e2]; exact fget_fdel_same _ _
      · rw [fget_fdel_other _ _ _ (Ne.symm e2)]; exact h.only n e2 e1
  have hl : ∀ (fs : FS) (n : ByteArray), FNodup fs → fs.length ≤ (fdel fs n).length + 1 := by
    intro fs n hn
    cases hg : fget fs n with
    | none => rw [fdel_absent (fun hm => by
        obtain ⟨⟨a, x⟩, hx, e⟩ := List.mem_map.1 hm
        simp only at e
        subst e
        rw [fget_mem hn hx] at hg; cases hg)]; omega
    | some x =>
      induction fs with
      | nil => simp
      | cons p fs ih =>
        by_cases e : p.1 = n
        · subst e
          have h' : p.1 ∉ fs.map (·.1) := (List.nodup_cons.1 hn).1
          have : fdel (p :: fs) p.1 = fs := by
            have : fdel (p :: fs) p.1 = fdel fs p.1 := by simp [fdel]
            rw [this, fdel_absent h']
          rw [this]; simp
        · have e2 : fdel (p :: fs) n = p :: fdel fs n := by simp [fdel, e]
          obtain ⟨a, y⟩ := p
          rw [fget_cons_other _ _ _ _ e] at hg
          rw [e2, List.length_cons, List.length_cons]
          have := ih (List.nodup_cons.1 hn).2 hg
          omega
  have l1 := hl fs nmJ h.nodup
  have l2 := hl (fdel fs nmJ) tmpJ (h.nodup.fdel nmJ)
  have ht := h.tmp
  rw [he] at u2 l2
  simp only [used, List.length_nil] at u2 l2
  rw [h1] at u1
  simp only [Option.getD_some] at u1
  constructor
  · omega
  · omega
/-- The file beside the journal's is turned. -/
theorem JFs.putTmp {L : Nat} {Q : List UInt8 → Prop} {fs : FS} (h : JFs L Q fs) (b : List UInt8) (hb : b.length ≤ L) : JFs L Q (fput fs tmpJ b) := by
  obtain ⟨x, h1, h2, h3⟩ := h.jrn
  refine ⟨h.nodup.fput _ _, fun n e1 e2 => ?_, by rw [fget_fput_same h.nodup]; exact hb, x, by rw [fget_fput_other h.nodup _ _ _ tmpJ_ne]; exact h1, h2, h3⟩
  rw [fget_fput_other h.nodup _ _ _ (Ne.symm e2)]; exact h.only n e1 e2
theorem JFs.delTmp {L : Nat} {Q : List UInt8 → Prop} {fs : FS} (h : JFs L Q fs) : JFs L Q (fdel fs tmpJ) := by
  obtain ⟨x, h1, h2, h3⟩ := h.jrn
  refine ⟨h.nodup.fdel _, fun n e1 e2 => ?_, by rw [fget_fdel_same]; simp, x, by rw [fget_fdel_other _ _ _ tmpJ_ne]; exact h1, h2, h3⟩
  rw [fget_fdel_other _ _ _ (Ne.symm e2)]; exact h.only n e1 e2
theorem JFs.putJ {L : Nat} {P Q : List UInt8 → Prop} {fs : FS} (h : JFs L P fs) (b : List UInt8) (hb : b.length ≤ L) (hq : Q b) : JFs L Q (fput fs nmJ b) := by
  refine ⟨h.nodup.fput _ _, fun n e1 e2 => ?_, by rw [fget_fput_other h.nodup _ _ _ (Ne.symm tmpJ_ne)]; exact h.tmp, b, fget_fput_same h.nodup _ _, hb, hq⟩
  rw [fget_fput_other h.nodup _ _ _ (Ne.symm e1)]; exact h.only n e1 e2
/-- The file beside it takes the journal's place. -/
theorem JFs.rename {L : Nat} {P Q : List UInt8 → Prop} {fs : FS} (h : JFs L P fs) (b : List UInt8) (ht : fget fs tmpJ = some b) (hb : b.length ≤ L) (hq : Q b) : JFs L Q (doCh fs ⟨3, tmpJ, nmJ, []⟩) := by
  have e : doCh fs ⟨3, tmpJ, nmJ, []⟩ = fdel (fput fs nmJ b) tmpJ := by
    simp [doCh, tmpJ_ne, ht]
  rw [e]
  exact (h.putJ b hb hq).delTmp
end Go.Proofs.Ytaeabdghlkdkjaa
