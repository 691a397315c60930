/- The plain law of JournalLasts: what holds from step to step. -/
import Derived.Test.YtlinkpjneehnbaaLastsJ
import Derived.Test.YtlinkpjneehnbaaPkK
namespace Go.Proofs.Ytlinkpjneehnbaa
set_option linter.unusedVariables false
open Go.RowKit Go.MapKept

/-- What a crash may leave of the journal's file, where a Rewrite may have been cut. -/
def QC (all : List (List UInt8)) (sure : Nat) (cut : Bool) (other : List (List UInt8)) (b : List UInt8) : Prop := QJ all sure b ∨ (cut = true ∧ b = framesOf other)
structure LI (all : List (List UInt8)) (sure : Nat) (cut : Bool) (other : List (List UInt8)) (m : DM) (size i : Nat) : Prop where
  small : ∀ p ∈ all, p.length ≤ 2000
  len : (framesOf all).length ≤ 2200 + 2008 * i
  le : sure ≤ all.length
  oth : cut = true → (∀ p ∈ other, p.length ≤ 2000) ∧ (framesOf other).length ≤ 2200
  size : size ≤ 200000 + 2008 * i
  st : (m.down = false ∧ cut = false ∧ JUp 130000 (QJ all sure) (framesOf all) m (100 * (i + 1))) ∨ (m.down = true ∧ JDown 130000 (QC all sure cut other) m (100 * (i + 1)))
theorem LI.good {all : List (List UInt8)} {sure : Nat} {cut : Bool} {other : List (List UInt8)} {m : DM} {size i : Nat} (h : LI all sure cut other m size i) : Good m (100 * (i + 1)) := by
  rcases h.st with ⟨_, _, h⟩ | ⟨_, h⟩
  · exact h.good
  · exact h.good
theorem LI.room {all : List (List UInt8)} {sure : Nat} {cut : Bool} {other : List (List UInt8)} {m : DM} {size i : Nat} (h : LI all sure cut other m size i) : m.room = 1048576 := by
  rcases h.st with ⟨_, _, h⟩ | ⟨_, h⟩
  · exact h.room
  · exact h.room
theorem LI.img {all : List (List UInt8)} {sure : Nat} {cut : Bool} {other : List (List UInt8)} {m : DM} {size i : Nat} (h : LI all sure cut other m size i) : Img m (JFs 130000 (QC all sure cut other)) := by
  rcases h.st with ⟨_, _, h⟩ | ⟨_, h⟩
  · exact h.img.mono (fun _ hf => hf.mono (fun _ hb => .inl hb))
  · exact h.img
/-- A step that does nothing. -/
theorem LI.next {all : List (List UInt8)} {sure : Nat} {cut : Bool} {other : List (List UInt8)} {m : DM} {size i : Nat} (h : LI all sure cut other m size i) : LI all sure cut other m size (i + 1) :=
  ⟨h.small, by have := h.len; omega, h.le, h.oth, by have := h.size; omega, h.st.imp (fun ⟨a, b, c⟩ => ⟨a, b, c.mono (fun _ h => h) (by omega)⟩) (fun ⟨a, c⟩ => ⟨a, c.mono (fun _ h => h) (by omega)⟩)⟩
theorem LI.start : LI [] 0 false [] (oneM 1048576 []) 0 0 := by
  have hfs : JFs 130000 (QJ [] 0) [(nmJ, [])] := by
    refine ⟨by simp [FNodup], fun n h1 h2 => by simp [fget, Ne.symm h1], ?_, [], by simp [fget], by simp, QJ.whole [] (Nat.le_refl _)⟩
    have : fget [(nmJ, [])] tmpJ = none := by simp [fget, Ne.symm tmpJ_ne]
    rw [this]; simp
  have hg : Good (oneM 1048576 []) 100 := by
    have h := open_good (Good.new (room := 1048576) (by omega) (by omega)) nmJ
    rw [open_empty] at h
    simp only at h
    exact ⟨h.room0, h.room1, h.fuse0, h.fuse, by simp [oneM], h.nsure, h.now, h.used, h.kinds⟩
  exact ⟨fun p hp => by simp at hp, by simp [framesOf_nil], Nat.le_refl _, (fun e => by cases e), by omega, .inl ⟨rfl, rfl, hg, rfl, rfl, Img.one rfl hfs, by simp [oneM, fget, framesOf_nil]⟩⟩
/-- Append. -/
theorem LI.append {all : List (List UInt8)} {sure : Nat} {cut : Bool} {other : List (List UInt8)} {m : DM} {size i : Nat} (h : LI all sure cut other m size i) (hi : i < 60) (p : List UInt8) (hp : p.length ≤ 2000) :
    (∃ m' s, jAppendOf m nmJ size p = (0, m', s) ∧ LI (all ++ [p]) sure cut other m' s (i + 1)) ∨ (∃ m', jAppendOf m nmJ size p = (5, m', size) ∧ LI all sure cut other m' size (i + 1)) := by
  have hs := h.size
  have hl := h.len
  have hfl : (framesOf (all ++ [p])).length = (framesOf all).length + (8 + p.length) := by rw [framesOf_append, List.length_append, framesOf_cons, framesOf_nil, List.append_nil, frameOf_length]
  have hsm : ∀ q ∈ all ++ [p], q.length ≤ 2000 := fun q hq => by
    rcases List.mem_append.1 hq with hq | hq
    · exact h.small q hq
    · simp at hq; rw [hq]; exact hp
  have hjo : jAppendOf m nmJ size p = if (appendOf m nmJ (frameOf p)).1 = 0 then (0, (appendOf m nmJ (frameOf p)).2, size + (8 + p.length)) else ((appendOf m nmJ (frameOf p)).1, (appendOf m nmJ (frameOf p)).2, size) := by unfold jAppendOf; rw [if_neg (by omega)]
  rcases h.st with ⟨hd, hc, hu⟩ | ⟨hd, hu⟩
  · rcases hu.append h.le p hp (by omega) (by omega) with ⟨c, hu2⟩ | ⟨c, hu2⟩
    · rw [if_pos c] at hjo
      exact .inl ⟨_, _, hjo, hsm, by omega, by have := h.le; simp; omega, h.oth, by omega, .inl ⟨hu2.down, hc, hu2.mono (fun _ h => h) (by omega)⟩⟩
    · rw [if_neg (by omega), c] at hjo
      exact .inr ⟨_, hjo, h.small, by omega, h.le, h.oth, by omega, .inr ⟨hu2.down, hu2.mono (fun _ h => .inl h) (by omega)⟩⟩
  · rw [down_append hd] at hjo
    simp only [show ¬ (5 : Int) = 0 by omega, if_false] at hjo
    exact .inr ⟨_, hjo, h.next⟩
/-- Sync. -/
theorem LI.sync {all : List (List UInt8)} {sure : Nat} {cut : Bool} {other : List (List UInt8)} {m : DM} {size i : Nat} (h : LI all sure cut other m size i) :
    (∃ m', syncOf m = (0, m') ∧ LI all all.length cut other m' size (i + 1)) ∨ (∃ m', syncOf m = (5, m') ∧ LI all sure cut other m' size (i + 1)) := by
  have hs := h.size
  have hl := h.len
  have he : syncOf m = ((syncOf m).1, (syncOf m).2) := rfl
  rcases h.st with ⟨hd, hc, hu⟩ | ⟨hd, hu⟩
  · rcases hu.sync (Q := QJ all all.length) (QJ.whole _ (Nat.le_refl _)) with ⟨c, hu2, _⟩ | ⟨c, hu2⟩
    · rw [c] at he
      exact .inl ⟨_, he, h.small, by omega, Nat.le_refl _, h.oth, by omega, .inl ⟨hu2.down, hc, hu2.mono (fun _ h => h) (by omega)⟩⟩
    · rw [c] at he
      exact .inr ⟨_, he, h.small, by omega, h.le, h.oth, by omega, .inr ⟨hu2.down, hu2.mono (fun _ h => .inl h) (by omega)⟩⟩
  · exact .inr ⟨_, down_sync hd, h.next⟩
theorem small_frames {recs : List (List UInt8)} (h : smallOf recs = true) : (∀ p ∈ recs, p.length ≤ 2000) ∧ (framesOf recs).length ≤ 2200 ∧ ¬ tooLong recs := by
  obtain ⟨s1, s2, s3⟩ := smallOf_true h
  refine ⟨fun p hp => by have := s3 p hp; omega, ?_, fun ⟨p, hp, hb⟩ => by have := s3 p hp; omega⟩
  have : ∀ l : List (List UInt8), (framesOf l).length = 8 * l.length + total l := by
    intro l
    induction l with
    | nil => rfl
    | cons p l ih =>
      rw [framesOf_cons, List.length_append, frameOf_length, ih, List.length_cons]
      have : total (p :: l) = p.length + total l := by simp [total]
      rw [this]; omega
  rw [this]; omega
/-- Rewrite. -/
theorem LI.rewrite {all : List (List UInt8)} {sure : Nat} {cut : Bool} {other : List (List UInt8)} {m : DM} {size i : Nat} (h : LI all sure cut other m size i) (recs : List (List UInt8)) (hr : smallOf recs = true) :
    (∃ m' s, jRewriteOf m nmJ size recs = (0, m', s) ∧ LI recs recs.length cut other m' s (i + 1)) ∨
    (m.down = false ∧ ∃ m', jRewriteOf m nmJ size recs = (5, m', size) ∧ LI all sure true recs m' size (i + 1)) ∨
    (m.down = true ∧ ∃ m', jRewriteOf m nmJ size recs = (5, m', size) ∧ LI all sure cut other m' size (i + 1)) := by
  have hs := h.size
  have hl := h.len
  have r1 := (small_frames hr).1
  have r2 := (small_frames hr).2.1
  have x1 : (framesOf recs).length ≤ 2200 + 2008 * (i + 1) := Nat.le_trans r2 (Nat.le_add_right _ _)
  have x2 : (framesOf recs).length ≤ 200000 + 2008 * (i + 1) := Nat.le_trans (Nat.le_trans r2 (by decide)) (Nat.le_add_right _ _)
  have x4 : (framesOf recs).length ≤ 130000 := Nat.le_trans r2 (by decide)
  unfold jRewriteOf
  rcases h.st with ⟨hd, hc, hu⟩ | ⟨hd, hu⟩
  · rcases hu.lay (framesOf recs) x4 (by decide) with ⟨c, hu2⟩ | ⟨c, hu2⟩
    · rw [if_pos c]
      have x3 : 100 * (i + 1) + 4 ≤ 100 * (i + 1 + 1) := by omega
      have hu3 : JUp 130000 (QJ recs recs.length) (framesOf recs) (layOf m nmJ (framesOf recs)).2 (100 * (i + 1 + 1)) := hu2.mono (fun b hb => by subst hb; exact QJ.whole _ (Nat.le_refl _)) x3
      exact .inl ⟨(layOf m nmJ (framesOf recs)).2, (framesOf recs).length, rfl, ⟨r1, x1, Nat.le_refl _, (fun e => by rw [hc] at e; cases e), x2, .inl ⟨hu2.down, hc, hu3⟩⟩⟩
    · rw [if_neg (by omega), c]
      exact .inr (.inl ⟨hd, _, rfl, h.small, by omega, h.le, fun _ => ⟨r1, r2⟩, by omega, .inr ⟨hu2.down, hu2.mono (fun b hb => hb.imp id (fun e => ⟨rfl, e⟩)) (by omega)⟩⟩)
  · rw [down_lay hd]
    simp only [show ¬ (5 : Int) = 0 by omega, if_false]
    exact .inr (.inr ⟨hd, _, rfl, h.next⟩)
/-- A fuse. -/
theorem LI.fuse {all : List (List UInt8)} {sure : Nat} {cut : Bool} {other : List (List UInt8)} {m : DM} {size i : Nat} (h : LI all sure cut other m size i) (k : Int) (hk : k ≤ 9223372036854775807) : LI all sure cut other (fuseOf m k).2 size (i + 1) := by
  have hs := h.size
  have hl := h.len
  rcases h.st with ⟨hd, hc, hu⟩ | ⟨hd, hu⟩
  · have hu2 := hu.fuse k hk
    exact ⟨h.small, by omega, h.le, h.oth, by omega, .inl ⟨hu2.down, hc, hu2.mono (fun _ h => h) (by omega)⟩⟩
  · rw [down_fuse hd]; exact h.next

/-! ### A crash, and opening -/
/-- The file's bytes b scan to rs, which are some of what was there. -/
structure Kept (all : List (List UInt8)) (sure : Nat) (cut : Bool) (other rs : List (List UInt8)) (b : List UInt8) (i : Nat) : Prop where
  scan : scanOf b = (rs, (framesOf rs).length)
  len : b.length ≤ 130000
  small : ∀ p ∈ rs, p.length ≤ 2000
  frames : (framesOf rs).length ≤ 2200 + 2008 * i
  right : (beginsOf (all.take sure) rs = true ∧ beginsOf rs all = true) ∨ (cut = true ∧ rs = other)
theorem LI.kept {all : List (List UInt8)} {sure : Nat} {cut : Bool} {other : List (List UInt8)} {m : DM} {size i : Nat} (h : LI all sure cut other m size i) {b : List UInt8} (hb : QC all sure cut other b) (hl : b.length ≤ 130000) : ∃ rs, Kept all sure cut other rs b i := by
  have hlen := h.len
  rcases hb with ⟨k, t, h1, h2, h3, rfl⟩ | ⟨hc, rfl⟩
  · refine ⟨all.take k, scan_torn (fun q hq => by have := h.small q hq; omega) h3, hl, fun p hp => h.small p (List.mem_of_mem_take hp), Nat.le_trans (framesOf_take_le all k) hlen, .inl ⟨?_, ?_⟩⟩
    · unfold beginsOf
      have e1 : (all.take sure).length = sure := by rw [List.length_take]; have := h.le; omega
      rw [e1, List.take_take, Nat.min_eq_left h1]
      simp
    · unfold beginsOf
      have e1 : (all.take k).length = k := by rw [List.length_take]; omega
      rw [e1]; simp
  · obtain ⟨o1, o2⟩ := h.oth hc
    exact ⟨other, scan_whole (fun q hq => by have := o1 q hq; omega), hl, o1, by omega, .inr ⟨hc, rfl⟩⟩
/-- What stands there scans to rs, whether it was cut or not. -/
theorem Kept.whole {all : List (List UInt8)} {sure : Nat} {cut : Bool} {other rs : List (List UInt8)} {b : List UInt8} {i : Nat} (h : Kept all sure cut other rs b i) : Kept all sure cut other rs (framesOf rs) i := by
  have hle := scanOf_le b
  rw [h.scan] at hle
  exact ⟨scan_whole (fun q hq => by have := h.small q hq; omega), Nat.le_trans hle h.len, h.small, h.frames, h.right⟩
/-- Behind a crash: a disk with power whose file scans to rs. -/
structure Woken (all : List (List UInt8)) (sure : Nat) (cut : Bool) (other rs : List (List UInt8)) (m : DM) (i : Nat) : Prop where
  ex : ∃ b, Kept all sure cut other rs b i ∧ JUp 130000 (fun x => x = b) b m 0
  fuse : m.fuse = -1
theorem LI.crash {all : List (List UInt8)} {sure : Nat} {cut : Bool} {other : List (List UInt8)} {m : DM} {size i : Nat} (h : LI all sure cut other m size i) (keep part : Int) : ∃ rs, Woken all sure cut other rs (crashOf m keep part) i := by
  obtain ⟨b, h1, h2, h3, h4⟩ := crash_up h.good h.room h.img keep part
  obtain ⟨rs, hk⟩ := h.kept h1 h2
  exact ⟨rs, ⟨b, hk, h3⟩, h4⟩
/-- It is opened under a fuse, and crashes once more. -/
theorem Woken.again {all : List (List UInt8)} {sure : Nat} {cut : Bool} {other rs : List (List UInt8)} {m : DM} {i : Nat} (h : Woken all sure cut other rs m i) (k : Int) (hk : k ≤ 9223372036854775807) (keep part : Int) :
    Good (fuseOf m k).2 0 ∧ Good (openOf (fuseOf m k).2 nmJ).m 4 ∧ Woken all sure cut other rs (crashOf (openOf (fuseOf m k).2 nmJ).m keep part) i := by
  obtain ⟨⟨b, hb, hu⟩, _⟩ := h
  have hu2 := hu.fuse k hk
  refine ⟨hu2.good, ?_⟩
  rcases hu2.open_ hb.scan (by omega) with ⟨_, _, hu3⟩ | ⟨_, _, hd3, _⟩
  · refine ⟨hu3.good, ?_⟩
    obtain ⟨b', h1, h2, h3, h4⟩ := crash_up hu3.good hu3.room hu3.img keep part
    subst h1
    exact ⟨⟨_, hb.whole, h3⟩, h4⟩
  · refine ⟨hd3.good, ?_⟩
    obtain ⟨b', h1, h2, h3, h4⟩ := crash_up hd3.good hd3.room hd3.img keep part
    rcases h1 with rfl | rfl
    · exact ⟨⟨_, hb, h3⟩, h4⟩
    · exact ⟨⟨_, hb.whole, h3⟩, h4⟩
/-- It is opened. -/
theorem Woken.opened {all : List (List UInt8)} {sure : Nat} {cut : Bool} {other rs : List (List UInt8)} {m : DM} {i : Nat} (h : Woken all sure cut other rs m i) (hi : i < 60) :
    Good m 0 ∧ ∃ m', openOf m nmJ = ⟨0, m', some (rs, (framesOf rs).length)⟩ ∧ LI rs rs.length false [] m' (framesOf rs).length (i + 1) ∧ ((beginsOf (all.take sure) rs = true ∧ beginsOf rs all = true) ∨ (cut = true ∧ rs = other)) := by
  obtain ⟨⟨b, hb, hu⟩, hf⟩ := h
  refine ⟨hu.good, ?_⟩
  rcases hu.open_ hb.scan (by omega) with ⟨c, r, hu2⟩ | ⟨_, _, _, hne⟩
  · have hfr := hb.frames
    refine ⟨(openOf m nmJ).m, ?_, ⟨hb.small, by omega, Nat.le_refl _, (fun e => by cases e), by omega, .inl ⟨hu2.down, rfl, hu2.mono (fun x hx => ?_) (by omega)⟩⟩, hb.right⟩
    · rcases hq : openOf m nmJ with ⟨c', m', r'⟩
      rw [hq] at c r
      simp only at c r
      rw [c, r]
    · subst hx; exact QJ.whole _ (Nat.le_refl _)
  · exact absurd hf hne
end Go.Proofs.Ytlinkpjneehnbaa
