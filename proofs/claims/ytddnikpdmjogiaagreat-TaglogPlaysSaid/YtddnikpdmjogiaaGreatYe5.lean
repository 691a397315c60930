/- A part of the proof. -/
import Derived.Test.YtddnikpdmjogiaaGreatYa5
import Derived.Test.YtddnikpdmjogiaaGreatYb5
namespace Go.Proofs.YtddnikpdmjogiaaGreat
set_option linter.unusedVariables false
open Go.RowKit Go.MapKept
def Img (m : DM) (P : FS → Prop) : Prop := ∀ keep part : Int, P (crashFs m keep part)
theorem Img.mono {m : DM} {P Q : FS → Prop} (h : Img m P) (hPQ : ∀ fs, P fs → Q fs) : Img m Q := fun k p => hPQ _ (h k p)
theorem Img.same {m m' : DM} {P : FS → Prop} (h : Img m P) (h1 : m'.loose = m.loose) (h2 : m'.sure = m.sure) : Img m' P := by
 intro k p
 have := h k p
 unfold crashFs at this ⊢
 rw [h1, h2]; exact this
theorem clampI_nat (k most : Nat) (h : k ≤ most) : clampI (k : Int) most = k := by
 unfold clampI
 rw [if_neg (by omega), if_neg (by omega)]
 simp
theorem Img.now {m : DM} {n : Nat} {P : FS → Prop} (hg : Good m n) (h : Img m P) : P m.now := by
 have := h (m.loose.length : Int) 0
 unfold crashFs at this
 rw [clampI_nat _ _ (Nat.le_refl _), List.take_length, ← hg.now] at this
 simpa using this
theorem Img.one {m : DM} {P : FS → Prop} (h1 : m.loose = []) (h : P m.sure) : Img m P := by
 intro k p
 unfold crashFs
 rw [h1]
 simpa using h
theorem Img.doesLoose {m m' : DM} {n : Nat} {P : FS → Prop} (hg : Good m n) (h : Img m P) (c : Ch) (hl : m'.loose = m.loose ++ [c]) (hs : m'.sure = m.sure)
  (h0 : c.kind ≠ 1 → P (doCh m.now c)) (h1 : c.kind = 1 → ∀ i, P (doCh m.now { c with p := c.p.take i })) : Img m' P := by
 intro k p
 have hnow := h.now hg
 have hle := clampI_le k m'.loose.length
 unfold crashFs
 generalize hK : clampI k m'.loose.length = K at hle ⊢
 rw [hs]
 rw [hl] at hle ⊢
 simp only [List.length_append, List.length_cons, List.length_nil] at hle
 rcases Nat.lt_or_ge K m.loose.length with hlt | hge
 ·have hi := h (K : Int) p
  unfold crashFs at hi
  rw [clampI_nat K _ (by omega)] at hi
  rw [List.take_append_of_le_length (by omega), List.getElem?_append_left hlt]
  exact hi
 ·rcases Nat.lt_or_ge m.loose.length K with h2 | h2
  ·obtain rfl : K = m.loose.length + 1 := by omega
   rw [List.take_of_length_le (by simp), List.getElem?_eq_none (by simp), List.foldl_append, ← hg.now]
   simp only [List.foldl_cons, List.foldl_nil]
   by_cases hk : c.kind = 1
   ·have := h1 hk c.p.length
    rw [List.take_length] at this
    exact this
   ·exact h0 hk
  ·obtain rfl : K = m.loose.length := by omega
   rw [List.take_append_of_le_length (Nat.le_refl _), List.take_length, ← hg.now, List.getElem?_append_right (Nat.le_refl _), Nat.sub_self]
   simp only [List.getElem?_cons_zero]
   by_cases hk : c.kind = 1
   ·rw [if_pos hk]; exact h1 hk _
   ·rw [if_neg hk]; exact hnow
structure Did (m : DM) (c : Ch) (r : Int × DM) : Prop where
 code : r.1 = 0
 down : r.2.down = m.down
 now : r.2.now = doCh m.now c
 loose : r.2.loose = m.loose ++ [c]
 sure : r.2.sure = m.sure
 room : r.2.room = m.room
structure Died (m : DM) (r : Int × DM) : Prop where
 code : r.1 = 5
 down : r.2.down = true
 now : r.2.now = m.now
 loose : r.2.loose = m.loose
 sure : r.2.sure = m.sure
 room : r.2.room = m.room
theorem spend_down (m : DM) : (spendOf m).2.room = m.room ∧ (m.fuse ≠ 0 → (spendOf m).2.down = m.down) := by
 unfold spendOf
 split
 ·exact ⟨rfl, fun h => absurd ‹_› h⟩
 ·split <;> exact ⟨rfl, fun _ => rfl⟩
theorem does_cases (m : DM) (c : Ch) : Did m c (doesOf m c) ∨ Died m (doesOf m c) := by
 unfold doesOf
 by_cases h : m.fuse = 0
 ·rw [if_pos h]; exact .inr ⟨rfl, rfl, rfl, rfl, rfl, rfl⟩
 ·rw [if_neg h]
  obtain ⟨e1, e2, e3, e4⟩ := spend_same (m := m)
  obtain ⟨s1, s2⟩ := spend_down m
  exact .inl ⟨rfl, s2 h, rfl, rfl, e2, s1⟩
theorem Died.img {m : DM} {r : Int × DM} {P : FS → Prop} (h : Died m r) (hi : Img m P) : Img r.2 P := hi.same h.loose h.sure
theorem Did.img {m : DM} {n : Nat} {c : Ch} {r : Int × DM} {P : FS → Prop} (h : Did m c r) (hg : Good m n) (hi : Img m P) (h0 : c.kind ≠ 1 → P (doCh m.now c)) (h1 : c.kind = 1 → ∀ i, P (doCh m.now { c with p := c.p.take i })) : Img r.2 P :=
 hi.doesLoose hg c h.loose h.sure h0 h1
structure Synced (m : DM) (r : Int × DM) : Prop where
 code : r.1 = 0
 down : r.2.down = false
 now : r.2.now = m.now
 loose : r.2.loose = []
 sure : r.2.sure = m.now
 room : r.2.room = m.room
theorem sync_cases {m : DM} {n : Nat} (hg : Good m n) (hd : m.down = false) : Synced m (syncOf m) ∨ Died m (syncOf m) := by
 unfold syncOf
 rw [hd]
 simp only [Bool.false_eq_true, if_false]
 by_cases h : m.fuse = 0
 ·rw [if_pos h]; exact .inr ⟨rfl, rfl, rfl, rfl, rfl, rfl⟩
 ·rw [if_neg h]
  obtain ⟨e1, e2, e3, e4⟩ := spend_same (m := m)
  obtain ⟨s1, s2⟩ := spend_down m
  exact .inl ⟨rfl, by rw [← hd]; exact s2 h, e1, rfl, by rw [hg.now]; rfl, s1⟩
theorem Synced.img {m : DM} {n : Nat} {r : Int × DM} {P : FS → Prop} (h : Synced m r) (hp : P m.now) : Img r.2 P := Img.one h.loose (by rw [h.sure]; exact hp)
theorem torn_scan {rs : List (List UInt8)} {t p : List UInt8} {i : Nat} (h : ∀ q ∈ rs, q.length ≤ 1048576) (hp : p.length ≤ 1048576) (hi : i < (frameOf p).length) (ht : t = (frameOf p).take i) : scanOf (framesOf rs ++ t) = (rs, (framesOf rs).length) := by
 have hfl := frameOf_length p
 have htl : t.length = i := by rw [ht, List.length_take]; omega
 have hsc := scan_of_frames (post := t) h rfl
 have hn : ¬ FrameAt (framesOf rs ++ t) (framesOf rs).length := by
  rintro ⟨h1, h2, h3, _⟩
  rw [List.length_append, htl] at h1 h3
  have hw : wordOf (framesOf rs ++ t) (framesOf rs).length = p.length := by
   have e : t = putOf p.length 4 ++ (putOf (crcOf (putOf p.length 4 ++ p)) 4 ++ p).take (i - 4) := by
    rw [ht]
    unfold frameOf
    rw [List.append_assoc, List.take_append, putOf_length, List.take_of_length_le (by rw [putOf_length]; omega)]
   rw [wordOf_at (x := putOf p.length 4) (pre := framesOf rs) (post := (putOf (crcOf (putOf p.length 4 ++ p)) 4 ++ p).take (i - 4)) (by rw [← e]) rfl (putOf_length _ _)]
   exact getOf_putOf 4 _ (by omega)
  rw [hw] at h3
  omega
 rw [hsc, scanFrom, if_neg hn]
 simp
abbrev Fn := ByteArray → Option (List UInt8)
def fset (g : Fn) (n : ByteArray) (b : List UInt8) : Fn := fun x => if x = n then some b else g x
def fclr (g : Fn) (n : ByteArray) : Fn := fun x => if x = n then none else g x
theorem fset_same (g : Fn) (n : ByteArray) (b : List UInt8) : fset g n b n = some b := by simp [fset]
theorem fset_other (g : Fn) {n k : ByteArray} (b : List UInt8) (h : k ≠ n) : fset g n b k = g k := by simp [fset, h]
theorem fclr_same (g : Fn) (n : ByteArray) : fclr g n n = none := by simp [fclr]
theorem fclr_other (g : Fn) {n k : ByteArray} (h : k ≠ n) : fclr g n k = g k := by simp [fclr, h]
theorem fset_fset (g : Fn) (n : ByteArray) (a b : List UInt8) : fset (fset g n a) n b = fset g n b := by
 funext x; simp only [fset]; split <;> rfl
theorem fset_fclr (g : Fn) (n : ByteArray) (b : List UInt8) : fset (fclr g n) n b = fset g n b := by
 funext x; simp only [fset, fclr]; split <;> rfl
theorem fclr_none {g : Fn} {n : ByteArray} (h : g n = none) : fclr g n = g := by
 funext x; simp only [fclr]; split
 ·rename_i e; rw [e, h]
 ·rfl
theorem fget_fputF {fs : FS} (h : FNodup fs) (n : ByteArray) (b : List UInt8) : fget (fput fs n b) = fset (fget fs) n b := by
 funext x
 by_cases e : x = n
 ·subst e; rw [fget_fput_same h, fset_same]
 ·rw [fget_fput_other h _ _ _ (Ne.symm e), fset_other _ _ e]
theorem fget_fdelF (fs : FS) (n : ByteArray) : fget (fdel fs n) = fclr (fget fs) n := by
 funext x
 by_cases e : x = n
 ·subst e; rw [fget_fdel_same, fclr_same]
 ·rw [fget_fdel_other _ _ _ (Ne.symm e), fclr_other _ e]
def doF (g : Fn) (c : Ch) : Fn :=
 if c.kind = 0 then fset g c.a []
 else if c.kind = 1 then fset g c.a ((g c.a).getD [] ++ c.p)
 else if c.kind = 2 then fclr g c.a
 else if c.kind = 3 then (if c.a = c.b then fset g c.b ((g c.a).getD []) else fclr (fset g c.b ((g c.a).getD [])) c.a)
 else g
theorem fget_doCh {fs : FS} (h : FNodup fs) (c : Ch) : fget (doCh fs c) = doF (fget fs) c := by
 unfold doCh doF
 split
 ·exact fget_fputF h _ _
 ·split
  ·exact fget_fputF h _ _
  ·split
   ·exact fget_fdelF _ _
   ·split
    ·split
     ·exact fget_fputF h _ _
     ·rw [fget_fdelF, fget_fputF h]
    ·rfl
structure Up (room : Int) (P : Fn → Prop) (g : Fn) (m : DM) (n : Nat) : Prop where
 good : Good m n
 room : m.room = room
 down : m.down = false
 img : Img m (fun fs => P (fget fs))
 now : fget m.now = g
structure Dn (room : Int) (P : Fn → Prop) (m : DM) (n : Nat) : Prop where
 good : Good m n
 room : m.room = room
 down : m.down = true
 img : Img m (fun fs => P (fget fs))
theorem Up.mono {room : Int} {P Q : Fn → Prop} {g : Fn} {m : DM} {n k : Nat} (h : Up room P g m n) (hPQ : ∀ x, P x → Q x) (hk : n ≤ k) : Up room Q g m k := ⟨h.good.mono hk, h.room, h.down, h.img.mono (fun _ hf => hPQ _ hf), h.now⟩
theorem Dn.mono {room : Int} {P Q : Fn → Prop} {m : DM} {n k : Nat} (h : Dn room P m n) (hPQ : ∀ x, P x → Q x) (hk : n ≤ k) : Dn room Q m k := ⟨h.good.mono hk, h.room, h.down, h.img.mono (fun _ hf => hPQ _ hf)⟩
theorem Up.there {room : Int} {P : Fn → Prop} {g : Fn} {m : DM} {n : Nat} (h : Up room P g m n) (f : ByteArray) : thereOf m f = if (g f).isSome then 0 else 6 := by
 unfold thereOf
 rw [h.down, h.now]
 rfl
def StepIm (g : Fn) (c : Ch) (x : Fn) : Prop := (c.kind ≠ 1 ∧ x = doF g c) ∨ (c.kind = 1 ∧ ∃ i, x = doF g { c with p := c.p.take i })
theorem Up.step {room : Int} {P : Fn → Prop} {g : Fn} {m : DM} {n : Nat} (h : Up room P g m n) (c : Ch) {r : Int × DM} (hr : r = doesOf m c) (hgood : Good r.2 (n + 1)) :
  (r.1 = 0 ∧ Up room (fun x => P x ∨ StepIm g c x) (doF g c) r.2 (n + 1)) ∨ (r.1 = 5 ∧ Dn room P r.2 (n + 1)) := by
 have hn := h.good.nnow
 rcases does_cases m c with hd | hd
 ·rw [← hr] at hd
  refine .inl ⟨hd.code, ⟨hgood, hd.room.trans h.room, hd.down.trans h.down, ?_, by rw [hd.now, fget_doCh hn, h.now]⟩⟩
  refine hd.img h.good (h.img.mono (fun _ hf => .inl hf)) (fun e => .inr (.inl ⟨e, by rw [fget_doCh hn, h.now]⟩)) (fun e i => .inr (.inr ⟨e, i, by rw [fget_doCh hn, h.now]⟩))
 ·rw [← hr] at hd
  exact .inr ⟨hd.code, hgood, hd.room.trans h.room, hd.down, hd.img h.img⟩
theorem doF0 (g : Fn) (a : ByteArray) : doF g ⟨0, a, ⟨#[]⟩, []⟩ = fset g a [] := by simp [doF]
theorem doF1 (g : Fn) (a : ByteArray) (p : List UInt8) : doF g ⟨1, a, ⟨#[]⟩, p⟩ = fset g a ((g a).getD [] ++ p) := by simp [doF]
theorem doF2 (g : Fn) (a : ByteArray) : doF g ⟨2, a, ⟨#[]⟩, []⟩ = fclr g a := by simp [doF]
theorem doF3 (g : Fn) (a b : ByteArray) (h : a ≠ b) : doF g ⟨3, a, b, []⟩ = fclr (fset g b ((g a).getD [])) a := by simp [doF, h]
theorem Up.remove {room : Int} {P : Fn → Prop} {g : Fn} {m : DM} {n : Nat} (h : Up room P g m n) {f : ByteArray} {b : List UInt8} (hf : g f = some b) :
  ((removeOf m f).1 = 0 ∧ Up room (fun x => P x ∨ x = fclr g f) (fclr g f) (removeOf m f).2 (n + 1)) ∨ ((removeOf m f).1 = 5 ∧ Dn room P (removeOf m f).2 (n + 1)) := by
 have hth : thereOf m f = 0 := by rw [h.there, hf]; rfl
 have hr : removeOf m f = doesOf m ⟨2, f, ⟨#[]⟩, []⟩ := by unfold removeOf; rw [hth]; rfl
 rcases h.step ⟨2, f, ⟨#[]⟩, []⟩ hr (h.good.remove f) with ⟨c, hu2⟩ | ⟨c, hd⟩
 ·rw [doF2] at hu2
  refine .inl ⟨c, hu2.mono (fun x hx => hx.imp id (fun hx => ?_)) (Nat.le_refl _)⟩
  rcases hx with ⟨_, e⟩ | ⟨e, _⟩
  ·rw [e, doF2]
  ·simp at e
 ·exact .inr ⟨c, hd⟩
theorem Up.rename {room : Int} {P : Fn → Prop} {g : Fn} {m : DM} {n : Nat} (h : Up room P g m n) {f k : ByteArray} {b : List UInt8} (hf : g f = some b) (hk : isName k = true) (hne : f ≠ k) :
  ((renameOf m f k).1 = 0 ∧ Up room (fun x => P x ∨ x = fclr (fset g k b) f) (fclr (fset g k b) f) (renameOf m f k).2 (n + 1)) ∨ ((renameOf m f k).1 = 5 ∧ Dn room P (renameOf m f k).2 (n + 1)) := by
 have hth : thereOf m f = 0 := by rw [h.there, hf]; rfl
 have hr : renameOf m f k = doesOf m ⟨3, f, k, []⟩ := by
  unfold renameOf
  rw [hth, if_pos rfl, hk]
  rfl
 rcases h.step ⟨3, f, k, []⟩ hr (h.good.rename f k) with ⟨c, hu2⟩ | ⟨c, hd⟩
 ·rw [doF3 _ _ _ hne, hf] at hu2
  refine .inl ⟨c, hu2.mono (fun x hx => hx.imp id (fun hx => ?_)) (Nat.le_refl _)⟩
  rcases hx with ⟨_, e⟩ | ⟨e, _⟩
  ·rw [e, doF3 _ _ _ hne, hf]; rfl
  ·simp at e
 ·exact .inr ⟨c, hd⟩
theorem Up.sync {room : Int} {P : Fn → Prop} {g : Fn} {m : DM} {n : Nat} (h : Up room P g m n) :
  ((syncOf m).1 = 0 ∧ Up room (fun x => x = g) g (syncOf m).2 n) ∨ ((syncOf m).1 = 5 ∧ Dn room P (syncOf m).2 n) := by
 rcases sync_cases h.good h.down with hs | hs
 ·exact .inl ⟨hs.code, ⟨h.good.sync, hs.room.trans h.room, hs.down, hs.img (n := n) h.now, by rw [hs.now]; exact h.now⟩⟩
 ·exact .inr ⟨hs.code, h.good.sync, hs.room.trans h.room, hs.down, hs.img h.img⟩
theorem Up.fuse {room : Int} {P : Fn → Prop} {g : Fn} {m : DM} {n : Nat} (h : Up room P g m n) (k : Int) (hk : k ≤ 9223372036854775807) : Up room P g (fuseOf m k).2 n := by
 have hg := h.good.setFuse k hk
 have e : (fuseOf m k).2 = { m with fuse := if k < -1 then -1 else k } := by unfold fuseOf; rw [h.down]; rfl
 rw [e] at hg ⊢
 exact ⟨hg, h.room, h.down, h.img.same rfl rfl, h.now⟩
theorem down_fuse2 {m : DM} (h : m.down = true) (k : Int) : fuseOf m k = (5, m) := by unfold fuseOf; rw [h]; rfl
theorem Dn.fuse {room : Int} {P : Fn → Prop} {m : DM} {n : Nat} (h : Dn room P m n) (k : Int) : Dn room P (fuseOf m k).2 n := by rw [down_fuse2 h.down]; exact h
theorem crash_upF {room : Int} {P : Fn → Prop} {m : DM} {n : Nat} (hg : Good m n) (hr : m.room = room) (h : Img m (fun fs => P (fget fs))) (keep part : Int) :
  ∃ x, P x ∧ Up room (fun y => y = x) x (crashOf m keep part) 0 ∧ (crashOf m keep part).fuse = -1 :=
 ⟨_, h keep part, ⟨hg.crash keep part, hr, rfl, Img.one rfl rfl, rfl⟩, rfl⟩
theorem Up.clear {room : Int} {P : Fn → Prop} {g : Fn} {m : DM} {n : Nat} (h : Up room P g m n) (t : ByteArray) :
  ((clearOf m t).1 = 0 ∧ Up room (fun x => P x ∨ x = fclr g t) (fclr g t) (clearOf m t).2 (n + 1)) ∨ ((clearOf m t).1 = 5 ∧ Dn room P (clearOf m t).2 (n + 1)) := by
 cases hg : g t with
 | none =>
  have hth := h.there t
  rw [hg] at hth
  have hr : removeOf m t = (6, m) := by unfold removeOf; rw [hth]; rfl
  unfold clearOf
  rw [hr, fclr_none hg]
  exact .inl ⟨rfl, h.mono (fun _ h => .inl h) (Nat.le_succ _)⟩
 | some b =>
  rcases h.remove hg with ⟨c, hu⟩ | ⟨c, hd⟩
  ·have hc : clearOf m t = removeOf m t := by unfold clearOf; rw [if_neg (by rw [c]; omega)]
   rw [hc]; exact .inl ⟨c, hu⟩
  ·have hc : clearOf m t = removeOf m t := by unfold clearOf; rw [if_neg (by rw [c]; omega)]
   rw [hc]; exact .inr ⟨c, hd⟩
theorem take_piece {B : List UInt8} (i : Nat) (k : Nat) : B.take i ++ (B.drop i).take k = B.take (i + k) := by
 rw [List.take_add]
theorem write_pieces (B : List UInt8) : B.length ≤ 0 + 1048576 * (B.length / 1048576 + 1) := by
 have := Nat.div_add_mod B.length 1048576
 have := Nat.mod_lt B.length (show 0 < 1048576 by decide)
 omega
end Go.Proofs.YtddnikpdmjogiaaGreat
