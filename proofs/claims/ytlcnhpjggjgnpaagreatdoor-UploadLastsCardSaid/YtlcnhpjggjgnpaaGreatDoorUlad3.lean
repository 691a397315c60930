/- A part of the proof. -/
import Derived.Test.YtlcnhpjggjgnpaaGreatDoorUlaa8
import Derived.Test.YtlcnhpjggjgnpaaGreatDoorUlab3
namespace Go.Proofs.YtlcnhpjggjgnpaaGreatDoor
set_option linter.unusedVariables false
open Go.RowKit Go.MapKept
def Img (m : DM) (P : FS → Prop) : Prop := ∀ keep part : Int, P (crashFs m keep part)
theorem Img.mono {m : DM} {P Q : FS → Prop} (h : Img m P) (hPQ : ∀ fs, P fs → Q fs) : Img m Q := fun k p => hPQ _ (h k p)
theorem Img.same {m m' : DM} {P : FS → Prop} (h : Img m P) (h1 : m'.loose = m.loose) (h2 : m'.sure = m.sure) : Img m' P := by
 intro k p
 have := h k p
 unfold crashFs at this ⊢
 rw [h1, h2]; exact this
theorem clampI_nat (k most : Nat) (h : k ≤ most) : clampI (k : Int) most = k := by
 unfold clampI
 rw [if_neg (by omega), if_neg (by omega)]
 simp
theorem Img.now {m : DM} {n : Nat} {P : FS → Prop} (hg : Good m n) (h : Img m P) : P m.now := by
 have := h (m.loose.length : Int) 0
 unfold crashFs at this
 rw [clampI_nat _ _ (Nat.le_refl _), List.take_length, ← hg.now] at this
 simpa using this
theorem Img.one {m : DM} {P : FS → Prop} (h1 : m.loose = []) (h : P m.sure) : Img m P := by
 intro k p
 unfold crashFs
 rw [h1]
 simpa using h
theorem Img.doesLoose {m m' : DM} {n : Nat} {P : FS → Prop} (hg : Good m n) (h : Img m P) (c : Ch) (hl : m'.loose = m.loose ++ [c]) (hs : m'.sure = m.sure)
  (h0 : c.kind ≠ 1 → P (doCh m.now c)) (h1 : c.kind = 1 → ∀ i, P (doCh m.now { c with p := c.p.take i })) : Img m' P := by
 intro k p
 have hnow := h.now hg
 have hle := clampI_le k m'.loose.length
 unfold crashFs
 generalize hK : clampI k m'.loose.length = K at hle ⊢
 rw [hs]
 rw [hl] at hle ⊢
 simp only [List.length_append, List.length_cons, List.length_nil] at hle
 rcases Nat.lt_or_ge K m.loose.length with hlt | hge
 ·have hi := h (K : Int) p
  unfold crashFs at hi
  rw [clampI_nat K _ (by omega)] at hi
  rw [List.take_append_of_le_length (by omega), List.getElem?_append_left hlt]
  exact hi
 ·rcases Nat.lt_or_ge m.loose.length K with h2 | h2
  ·obtain rfl : K = m.loose.length + 1 := by omega
   rw [List.take_of_length_le (by simp), List.getElem?_eq_none (by simp), List.foldl_append, ← hg.now]
   simp only [List.foldl_cons, List.foldl_nil]
   by_cases hk : c.kind = 1
   ·have := h1 hk c.p.length
    rw [List.take_length] at this
    exact this
   ·exact h0 hk
  ·obtain rfl : K = m.loose.length := by omega
   rw [List.take_append_of_le_length (Nat.le_refl _), List.take_length, ← hg.now, List.getElem?_append_right (Nat.le_refl _), Nat.sub_self]
   simp only [List.getElem?_cons_zero]
   by_cases hk : c.kind = 1
   ·rw [if_pos hk]; exact h1 hk _
   ·rw [if_neg hk]; exact hnow
structure Did (m : DM) (c : Ch) (r : Int × DM) : Prop where
 code : r.1 = 0
 down : r.2.down = m.down
 now : r.2.now = doCh m.now c
 loose : r.2.loose = m.loose ++ [c]
 sure : r.2.sure = m.sure
 room : r.2.room = m.room
structure Died (m : DM) (r : Int × DM) : Prop where
 code : r.1 = 5
 down : r.2.down = true
 now : r.2.now = m.now
 loose : r.2.loose = m.loose
 sure : r.2.sure = m.sure
 room : r.2.room = m.room
theorem spend_down (m : DM) : (spendOf m).2.room = m.room ∧ (m.fuse ≠ 0 → (spendOf m).2.down = m.down) := by
 unfold spendOf
 split
 ·exact ⟨rfl, fun h => absurd ‹_› h⟩
 ·split <;> exact ⟨rfl, fun _ => rfl⟩
theorem does_cases (m : DM) (c : Ch) : Did m c (doesOf m c) ∨ Died m (doesOf m c) := by
 unfold doesOf
 by_cases h : m.fuse = 0
 ·rw [if_pos h]; exact .inr ⟨rfl, rfl, rfl, rfl, rfl, rfl⟩
 ·rw [if_neg h]
  obtain ⟨e1, e2, e3, e4⟩ := spend_same (m := m)
  obtain ⟨s1, s2⟩ := spend_down m
  exact .inl ⟨rfl, s2 h, rfl, rfl, e2, s1⟩
theorem Died.img {m : DM} {r : Int × DM} {P : FS → Prop} (h : Died m r) (hi : Img m P) : Img r.2 P := hi.same h.loose h.sure
theorem Did.img {m : DM} {n : Nat} {c : Ch} {r : Int × DM} {P : FS → Prop} (h : Did m c r) (hg : Good m n) (hi : Img m P) (h0 : c.kind ≠ 1 → P (doCh m.now c)) (h1 : c.kind = 1 → ∀ i, P (doCh m.now { c with p := c.p.take i })) : Img r.2 P :=
 hi.doesLoose hg c h.loose h.sure h0 h1
structure Synced (m : DM) (r : Int × DM) : Prop where
 code : r.1 = 0
 down : r.2.down = false
 now : r.2.now = m.now
 loose : r.2.loose = []
 sure : r.2.sure = m.now
 room : r.2.room = m.room
theorem sync_cases {m : DM} {n : Nat} (hg : Good m n) (hd : m.down = false) : Synced m (syncOf m) ∨ Died m (syncOf m) := by
 unfold syncOf
 rw [hd]
 simp only [Bool.false_eq_true, if_false]
 by_cases h : m.fuse = 0
 ·rw [if_pos h]; exact .inr ⟨rfl, rfl, rfl, rfl, rfl, rfl⟩
 ·rw [if_neg h]
  obtain ⟨e1, e2, e3, e4⟩ := spend_same (m := m)
  obtain ⟨s1, s2⟩ := spend_down m
  exact .inl ⟨rfl, by rw [← hd]; exact s2 h, e1, rfl, by rw [hg.now]; rfl, s1⟩
theorem Synced.img {m : DM} {n : Nat} {r : Int × DM} {P : FS → Prop} (h : Synced m r) (hp : P m.now) : Img r.2 P := Img.one h.loose (by rw [h.sure]; exact hp)
theorem empty_of_none {fs : FS} (hn : FNodup fs) (h : ∀ n, fget fs n = none) : fs = [] := by
 cases fs with
 | nil => rfl
 | cons p fs =>
  have := h p.1
  rw [show fget (p :: fs) p.1 = some p.2 by simp [fget]] at this
  cases this
theorem torn_scan {rs : List (List UInt8)} {t p : List UInt8} {i : Nat} (h : ∀ q ∈ rs, q.length ≤ 1048576) (hp : p.length ≤ 1048576) (hi : i < (frameOf p).length) (ht : t = (frameOf p).take i) : scanOf (framesOf rs ++ t) = (rs, (framesOf rs).length) := by
 have hfl := frameOf_length p
 have htl : t.length = i := by rw [ht, List.length_take]; omega
 have hsc := scan_of_frames (post := t) h rfl
 have hn : ¬ FrameAt (framesOf rs ++ t) (framesOf rs).length := by
  rintro ⟨h1, h2, h3, _⟩
  rw [List.length_append, htl] at h1 h3
  have hw : wordOf (framesOf rs ++ t) (framesOf rs).length = p.length := by
   have e : t = putOf p.length 4 ++ (putOf (crcOf (putOf p.length 4 ++ p)) 4 ++ p).take (i - 4) := by
    rw [ht]
    unfold frameOf
    rw [List.append_assoc, List.take_append, putOf_length, List.take_of_length_le (by rw [putOf_length]; omega)]
   rw [wordOf_at (x := putOf p.length 4) (pre := framesOf rs) (post := (putOf (crcOf (putOf p.length 4 ++ p)) 4 ++ p).take (i - 4)) (by rw [← e]) rfl (putOf_length _ _)]
   exact getOf_putOf 4 _ (by omega)
  rw [hw] at h3
  omega
 rw [hsc, scanFrom, if_neg hn]
 simp
theorem Calm.of {m : DM} (h1 : m.down = false) (h2 : m.fuse = -1) : Calm m := ⟨h1, h2⟩
theorem Calm.does2 {m : DM} (h : Calm m) (c : Ch) : (doesOf m c).1 = 0 ∧ Calm (doesOf m c).2 := by
 rw [h.does]; exact ⟨rfl, h.down, h.fuse⟩
theorem Calm.thereNe {m : DM} (h : Calm m) (f : ByteArray) : thereOf m f ≠ 5 := by
 unfold thereOf; rw [h.down]; simp only [Bool.false_eq_true, if_false]; split <;> omega
theorem Calm.clear2 {m : DM} (h : Calm m) (f : ByteArray) : (clearOf m f).1 ≠ 5 ∧ Calm (clearOf m f).2 := by
 have hr : (removeOf m f).1 ≠ 5 ∧ Calm (removeOf m f).2 := by
  unfold removeOf
  split
  ·have := h.does2 ⟨2, f, ⟨#[]⟩, []⟩; exact ⟨by rw [this.1]; omega, this.2⟩
  ·exact ⟨h.thereNe f, h⟩
 unfold clearOf
 split
 ·exact ⟨by simp, hr.2⟩
 ·exact hr
theorem Calm.create2 {m : DM} (h : Calm m) (f : ByteArray) : (createOf m f).1 ≠ 5 ∧ Calm (createOf m f).2 := by
 unfold createOf
 rw [h.down]
 simp only [Bool.false_eq_true, if_false]
 split
 ·exact ⟨by simp, h⟩
 ·split
  ·exact ⟨by simp, h⟩
  ·split
   ·exact ⟨by simp, h⟩
   ·have := h.does2 ⟨0, f, ⟨#[]⟩, []⟩; exact ⟨by rw [this.1]; omega, this.2⟩
theorem Calm.append2 {m : DM} (h : Calm m) (f : ByteArray) (p : List UInt8) : (appendOf m f p).1 ≠ 5 ∧ Calm (appendOf m f p).2 := by
 unfold appendOf
 split
 ·split
  ·exact ⟨by simp, h⟩
  ·split
   ·exact ⟨by simp, h⟩
   ·have := h.does2 ⟨1, f, ⟨#[]⟩, p⟩; exact ⟨by rw [this.1]; omega, this.2⟩
 ·exact ⟨h.thereNe f, h⟩
theorem Calm.rename2 {m : DM} (h : Calm m) (f g : ByteArray) : (renameOf m f g).1 ≠ 5 ∧ Calm (renameOf m f g).2 := by
 unfold renameOf
 split
 ·split
  ·exact ⟨by simp, h⟩
  ·have := h.does2 ⟨3, f, g, []⟩; exact ⟨by rw [this.1]; omega, this.2⟩
 ·exact ⟨h.thereNe f, h⟩
theorem Calm.sync2 {m : DM} (h : Calm m) : (syncOf m).1 ≠ 5 ∧ Calm (syncOf m).2 := by
 have hf := h.fuse
 unfold syncOf
 rw [h.down]
 simp only [Bool.false_eq_true, if_false]
 rw [if_neg (by omega)]
 refine ⟨by simp, ?_⟩
 unfold synced spendOf
 rw [if_neg (by omega), if_neg (by omega)]
 exact ⟨h.down, h.fuse⟩
theorem Calm.write2 {t : ByteArray} {b : List UInt8} : ∀ (f : Nat) {m : DM} {i : Nat}, Calm m → (writeFrom t b f m i).1 ≠ 5 ∧ Calm (writeFrom t b f m i).2
 | 0, m, i, h => ⟨by simp [writeFrom], h⟩
 | f + 1, m, i, h => by
  have ha := h.append2 t ((b.drop i).take 1048576)
  rw [writeFrom]
  split
  ·split
   ·exact Calm.write2 f ha.2
   ·exact ha
  ·exact ⟨by simp, h⟩
theorem Calm.run : ∀ (fs : List (DM → Int × DM)) {m : DM}, (∀ f ∈ fs, ∀ m, Calm m → (f m).1 ≠ 5 ∧ Calm (f m).2) → Calm m → (runSteps fs m).1 ≠ 5 ∧ Calm (runSteps fs m).2
 | [], m, _, h => ⟨by simp [runSteps], h⟩
 | f :: fs, m, hf, h => by
  have h1 := hf f (List.mem_cons_self ..) m h
  rw [runSteps]
  split
  ·exact Calm.run fs (fun g hg => hf g (List.mem_cons_of_mem _ hg)) h1.2
  ·exact h1
theorem Calm.lay2 {m : DM} (h : Calm m) (nm : ByteArray) (B : List UInt8) : (layOf m nm B).1 ≠ 5 := by
 have hr := Calm.run (laySteps nm B) (fun f hf m hm => by
  simp only [laySteps, List.mem_cons, List.not_mem_nil, or_false] at hf
  rcases hf with rfl | rfl | rfl | rfl | rfl | rfl
  ·exact hm.clear2 _
  ·exact hm.create2 _
  ·exact Calm.write2 _ hm
  ·exact hm.sync2
  ·exact hm.rename2 _ _
  ·exact hm.sync2) h
 unfold layOf unfull
 split
 ·have := hr.2.clear2 (tmpOf nm)
  split
  ·simp
  ·exact this.1
 ·exact hr.1
abbrev Fn := ByteArray → Option (List UInt8)
def fset (g : Fn) (n : ByteArray) (b : List UInt8) : Fn := fun x => if x = n then some b else g x
def fclr (g : Fn) (n : ByteArray) : Fn := fun x => if x = n then none else g x
theorem fset_same (g : Fn) (n : ByteArray) (b : List UInt8) : fset g n b n = some b := by simp [fset]
theorem fset_other (g : Fn) {n k : ByteArray} (b : List UInt8) (h : k ≠ n) : fset g n b k = g k := by simp [fset, h]
theorem fclr_same (g : Fn) (n : ByteArray) : fclr g n n = none := by simp [fclr]
theorem fclr_other (g : Fn) {n k : ByteArray} (h : k ≠ n) : fclr g n k = g k := by simp [fclr, h]
theorem fset_fset (g : Fn) (n : ByteArray) (a b : List UInt8) : fset (fset g n a) n b = fset g n b := by
 funext x; simp only [fset]; split <;> rfl
theorem fset_fclr (g : Fn) (n : ByteArray) (b : List UInt8) : fset (fclr g n) n b = fset g n b := by
 funext x; simp only [fset, fclr]; split <;> rfl
theorem fclr_fset (g : Fn) (n : ByteArray) (b : List UInt8) : fclr (fset g n b) n = fclr g n := by
 funext x; simp only [fset, fclr]; split <;> rfl
theorem fclr_none {g : Fn} {n : ByteArray} (h : g n = none) : fclr g n = g := by
 funext x; simp only [fclr]; split
 ·rename_i e; rw [e, h]
 ·rfl
theorem fget_fputF {fs : FS} (h : FNodup fs) (n : ByteArray) (b : List UInt8) : fget (fput fs n b) = fset (fget fs) n b := by
 funext x
 by_cases e : x = n
 ·subst e; rw [fget_fput_same h, fset_same]
 ·rw [fget_fput_other h _ _ _ (Ne.symm e), fset_other _ _ e]
theorem fget_fdelF (fs : FS) (n : ByteArray) : fget (fdel fs n) = fclr (fget fs) n := by
 funext x
 by_cases e : x = n
 ·subst e; rw [fget_fdel_same, fclr_same]
 ·rw [fget_fdel_other _ _ _ (Ne.symm e), fclr_other _ e]
def doF (g : Fn) (c : Ch) : Fn :=
 if c.kind = 0 then fset g c.a []
 else if c.kind = 1 then fset g c.a ((g c.a).getD [] ++ c.p)
 else if c.kind = 2 then fclr g c.a
 else if c.kind = 3 then (if c.a = c.b then fset g c.b ((g c.a).getD []) else fclr (fset g c.b ((g c.a).getD [])) c.a)
 else g
theorem fget_doCh {fs : FS} (h : FNodup fs) (c : Ch) : fget (doCh fs c) = doF (fget fs) c := by
 unfold doCh doF
 split
 ·exact fget_fputF h _ _
 ·split
  ·exact fget_fputF h _ _
  ·split
   ·exact fget_fdelF _ _
   ·split
    ·split
     ·exact fget_fputF h _ _
     ·rw [fget_fdelF, fget_fputF h]
    ·rfl
def Holds (g : Fn) (U K : Nat) : Prop := ∀ fs, FNodup fs → fget fs = g → used fs ≤ U ∧ fs.length ≤ K
theorem Holds.mono {g : Fn} {U K U' K' : Nat} (h : Holds g U K) (hU : U ≤ U') (hK : K ≤ K') : Holds g U' K' := fun fs h1 h2 => by
 obtain ⟨a, b⟩ := h fs h1 h2; exact ⟨by omega, by omega⟩
theorem Holds.empty : Holds (fun _ => none) 0 0 := fun fs h1 h2 => by
 have : fs = [] := empty_of_none h1 (fun n => by rw [h2])
 subst this; exact ⟨Nat.le_refl _, Nat.le_refl _⟩
theorem length_fdel_le {fs : FS} (hn : FNodup fs) (n : ByteArray) : fs.length ≤ (fdel fs n).length + 1 := by
 induction fs with
 | nil => simp
 | cons p fs ih =>
  by_cases e : p.1 = n
  ·subst e
   have h' : p.1 ∉ fs.map (·.1) := (List.nodup_cons.1 hn).1
   have : fdel (p :: fs) p.1 = fs := by
    have : fdel (p :: fs) p.1 = fdel fs p.1 := by simp [fdel]
    rw [this, fdel_absent h']
   rw [this]; simp
  ·have e2 : fdel (p :: fs) n = p :: fdel fs n := by simp [fdel, e]
   rw [e2, List.length_cons, List.length_cons]
   have := ih (List.nodup_cons.1 hn).2
   omega
theorem Holds.set {g : Fn} {n : ByteArray} {U K : Nat} (h : Holds (fclr g n) U K) (b : List UInt8) : Holds (fset g n b) (U + b.length) (K + 1) := fun fs h1 h2 => by
 obtain ⟨a, c⟩ := h (fdel fs n) (h1.fdel n) (by rw [fget_fdelF, h2, fclr_fset])
 have u := used_fdel h1 n
 have l := length_fdel_le h1 n
 rw [h2, fset_same] at u
 simp only [Option.getD_some] at u
 exact ⟨by omega, by omega⟩
theorem Holds.of_clr {g : Fn} {n : ByteArray} {U K L : Nat} (h : Holds (fclr g n) U K) (hL : ((g n).getD []).length ≤ L) : Holds g (U + L) (K + 1) := fun fs h1 h2 => by
 obtain ⟨a, c⟩ := h (fdel fs n) (h1.fdel n) (by rw [fget_fdelF, h2])
 have u := used_fdel h1 n
 have l := length_fdel_le h1 n
 rw [h2] at u
 exact ⟨by omega, by omega⟩
theorem Holds.clr {g : Fn} {U K : Nat} (h : Holds g U K) (n : ByteArray) : Holds (fclr g n) U K := fun fs h1 h2 => by
 by_cases e : ∃ b, g n = some b
 ·obtain ⟨b, e⟩ := e
  have h3 : FNodup (fput fs n b) := h1.fput n b
  obtain ⟨a, c⟩ := h (fput fs n b) h3 (by
   rw [fget_fputF h1, h2, fset_fclr]
   funext x; simp only [fset]; split
   ·rename_i e2; rw [e2, e]
   ·rfl)
  have u := used_fput h1 n b
  have hg : fget fs n = Option.none := by rw [h2, fclr_same]
  rw [hg] at u
  simp only [Option.getD_none, List.length_nil] at u
  have l := length_fput (fs := fs) n b
  rw [fdel_absent (fget_none_mem hg)] at l
  exact ⟨by omega, by omega⟩
 ·have hg : g n = Option.none := by
   cases hx : g n with
   | none => rfl
   | some b => exact absurd ⟨b, hx⟩ e
  rw [fclr_none hg] at h2
  exact h fs h1 h2
structure Up (room : Int) (P : Fn → Prop) (g : Fn) (m : DM) (n : Nat) : Prop where
 good : Good m n
 room : m.room = room
 down : m.down = false
 img : Img m (fun fs => P (fget fs))
 now : fget m.now = g
structure Dn (room : Int) (P : Fn → Prop) (m : DM) (n : Nat) : Prop where
 good : Good m n
 room : m.room = room
 down : m.down = true
 img : Img m (fun fs => P (fget fs))
theorem Up.mono {room : Int} {P Q : Fn → Prop} {g : Fn} {m : DM} {n k : Nat} (h : Up room P g m n) (hPQ : ∀ x, P x → Q x) (hk : n ≤ k) : Up room Q g m k := ⟨h.good.mono hk, h.room, h.down, h.img.mono (fun _ hf => hPQ _ hf), h.now⟩
theorem Dn.mono {room : Int} {P Q : Fn → Prop} {m : DM} {n k : Nat} (h : Dn room P m n) (hPQ : ∀ x, P x → Q x) (hk : n ≤ k) : Dn room Q m k := ⟨h.good.mono hk, h.room, h.down, h.img.mono (fun _ hf => hPQ _ hf)⟩
theorem Up.there {room : Int} {P : Fn → Prop} {g : Fn} {m : DM} {n : Nat} (h : Up room P g m n) (f : ByteArray) : thereOf m f = if (g f).isSome then 0 else 6 := by
 unfold thereOf
 rw [h.down, h.now]
 rfl
theorem Up.fits {room : Int} {P : Fn → Prop} {g : Fn} {m : DM} {n U K : Nat} (h : Up room P g m n) (hh : Holds g U K) : used m.now ≤ U ∧ m.now.length ≤ K := hh _ h.good.nnow h.now
def StepIm (g : Fn) (c : Ch) (x : Fn) : Prop := (c.kind ≠ 1 ∧ x = doF g c) ∨ (c.kind = 1 ∧ ∃ i, x = doF g { c with p := c.p.take i })
theorem Up.step {room : Int} {P : Fn → Prop} {g : Fn} {m : DM} {n : Nat} (h : Up room P g m n) (c : Ch) {r : Int × DM} (hr : r = doesOf m c) (hgood : Good r.2 (n + 1)) :
  (r.1 = 0 ∧ Up room (fun x => P x ∨ StepIm g c x) (doF g c) r.2 (n + 1)) ∨ (r.1 = 5 ∧ Dn room P r.2 (n + 1)) := by
 have hn := h.good.nnow
 rcases does_cases m c with hd | hd
 ·rw [← hr] at hd
  refine .inl ⟨hd.code, ⟨hgood, hd.room.trans h.room, hd.down.trans h.down, ?_, by rw [hd.now, fget_doCh hn, h.now]⟩⟩
  refine hd.img h.good (h.img.mono (fun _ hf => .inl hf)) (fun e => .inr (.inl ⟨e, by rw [fget_doCh hn, h.now]⟩)) (fun e i => .inr (.inr ⟨e, i, by rw [fget_doCh hn, h.now]⟩))
 ·rw [← hr] at hd
  exact .inr ⟨hd.code, hgood, hd.room.trans h.room, hd.down, hd.img h.img⟩
theorem doF0 (g : Fn) (a : ByteArray) : doF g ⟨0, a, ⟨#[]⟩, []⟩ = fset g a [] := by simp [doF]
theorem doF1 (g : Fn) (a : ByteArray) (p : List UInt8) : doF g ⟨1, a, ⟨#[]⟩, p⟩ = fset g a ((g a).getD [] ++ p) := by simp [doF]
theorem doF2 (g : Fn) (a : ByteArray) : doF g ⟨2, a, ⟨#[]⟩, []⟩ = fclr g a := by simp [doF]
theorem doF3 (g : Fn) (a b : ByteArray) (h : a ≠ b) : doF g ⟨3, a, b, []⟩ = fclr (fset g b ((g a).getD [])) a := by simp [doF, h]
theorem Up.append {room : Int} {P : Fn → Prop} {g : Fn} {m : DM} {n U K : Nat} (h : Up room P g m n) {f : ByteArray} {b : List UInt8} (hf : g f = some b) (p : List UInt8) (hp : p.length ≤ 1048576) (hh : Holds g U K) (hu : (U : Int) + p.length ≤ room) :
  ((appendOf m f p).1 = 0 ∧ Up room (fun x => P x ∨ ∃ i, x = fset g f (b ++ p.take i)) (fset g f (b ++ p)) (appendOf m f p).2 (n + 1)) ∨ ((appendOf m f p).1 = 5 ∧ Dn room P (appendOf m f p).2 (n + 1)) := by
 have hth : thereOf m f = 0 := by rw [h.there, hf]; rfl
 have hus := (h.fits hh).1
 have hr : appendOf m f p = doesOf m ⟨1, f, ⟨#[]⟩, p⟩ := by
  unfold appendOf
  rw [hth, if_pos rfl, if_neg (by omega), if_neg (by rw [h.room]; omega)]
 rcases h.step ⟨1, f, ⟨#[]⟩, p⟩ hr (h.good.append f p) with ⟨c, hu2⟩ | ⟨c, hd⟩
 ·rw [doF1, hf] at hu2
  refine .inl ⟨c, hu2.mono (fun x hx => hx.imp id (fun hx => ?_)) (Nat.le_refl _)⟩
  rcases hx with ⟨e, _⟩ | ⟨_, i, e⟩
  ·exact absurd rfl e
  ·refine ⟨i, ?_⟩
   rw [e]
   show doF g ⟨1, f, ⟨#[]⟩, p.take i⟩ = _
   rw [doF1, hf]; rfl
 ·exact .inr ⟨c, hd⟩
theorem Up.create {room : Int} {P : Fn → Prop} {g : Fn} {m : DM} {n U K : Nat} (h : Up room P g m n) {f : ByteArray} (hn : isName f = true) (hf : g f = none) (hh : Holds g U K) (hk : K < 4096) :
  ((createOf m f).1 = 0 ∧ Up room (fun x => P x ∨ x = fset g f []) (fset g f []) (createOf m f).2 (n + 1)) ∨ ((createOf m f).1 = 5 ∧ Dn room P (createOf m f).2 (n + 1)) := by
 have hl := (h.fits hh).2
 have hr : createOf m f = doesOf m ⟨0, f, ⟨#[]⟩, []⟩ := by
  unfold createOf
  rw [h.down, hn, h.now, hf]
  simp only [Bool.false_eq_true, if_false, Bool.not_true, Option.isSome_none]
  rw [if_neg (by simp; omega)]
 rcases h.step ⟨0, f, ⟨#[]⟩, []⟩ hr (h.good.create f) with ⟨c, hu2⟩ | ⟨c, hd⟩
 ·rw [doF0] at hu2
  refine .inl ⟨c, hu2.mono (fun x hx => hx.imp id (fun hx => ?_)) (Nat.le_refl _)⟩
  rcases hx with ⟨_, e⟩ | ⟨e, _⟩
  ·rw [e, doF0]
  ·simp at e
 ·exact .inr ⟨c, hd⟩
theorem Up.remove {room : Int} {P : Fn → Prop} {g : Fn} {m : DM} {n : Nat} (h : Up room P g m n) {f : ByteArray} {b : List UInt8} (hf : g f = some b) :
  ((removeOf m f).1 = 0 ∧ Up room (fun x => P x ∨ x = fclr g f) (fclr g f) (removeOf m f).2 (n + 1)) ∨ ((removeOf m f).1 = 5 ∧ Dn room P (removeOf m f).2 (n + 1)) := by
 have hth : thereOf m f = 0 := by rw [h.there, hf]; rfl
 have hr : removeOf m f = doesOf m ⟨2, f, ⟨#[]⟩, []⟩ := by unfold removeOf; rw [hth]; rfl
 rcases h.step ⟨2, f, ⟨#[]⟩, []⟩ hr (h.good.remove f) with ⟨c, hu2⟩ | ⟨c, hd⟩
 ·rw [doF2] at hu2
  refine .inl ⟨c, hu2.mono (fun x hx => hx.imp id (fun hx => ?_)) (Nat.le_refl _)⟩
  rcases hx with ⟨_, e⟩ | ⟨e, _⟩
  ·rw [e, doF2]
  ·simp at e
 ·exact .inr ⟨c, hd⟩
theorem Up.rename {room : Int} {P : Fn → Prop} {g : Fn} {m : DM} {n : Nat} (h : Up room P g m n) {f k : ByteArray} {b : List UInt8} (hf : g f = some b) (hk : isName k = true) (hne : f ≠ k) :
  ((renameOf m f k).1 = 0 ∧ Up room (fun x => P x ∨ x = fclr (fset g k b) f) (fclr (fset g k b) f) (renameOf m f k).2 (n + 1)) ∨ ((renameOf m f k).1 = 5 ∧ Dn room P (renameOf m f k).2 (n + 1)) := by
 have hth : thereOf m f = 0 := by rw [h.there, hf]; rfl
 have hr : renameOf m f k = doesOf m ⟨3, f, k, []⟩ := by
  unfold renameOf
  rw [hth, if_pos rfl, hk]
  rfl
 rcases h.step ⟨3, f, k, []⟩ hr (h.good.rename f k) with ⟨c, hu2⟩ | ⟨c, hd⟩
 ·rw [doF3 _ _ _ hne, hf] at hu2
  refine .inl ⟨c, hu2.mono (fun x hx => hx.imp id (fun hx => ?_)) (Nat.le_refl _)⟩
  rcases hx with ⟨_, e⟩ | ⟨e, _⟩
  ·rw [e, doF3 _ _ _ hne, hf]; rfl
  ·simp at e
 ·exact .inr ⟨c, hd⟩
theorem Up.sync {room : Int} {P : Fn → Prop} {g : Fn} {m : DM} {n : Nat} (h : Up room P g m n) :
  ((syncOf m).1 = 0 ∧ Up room (fun x => x = g) g (syncOf m).2 n) ∨ ((syncOf m).1 = 5 ∧ Dn room P (syncOf m).2 n) := by
 rcases sync_cases h.good h.down with hs | hs
 ·exact .inl ⟨hs.code, ⟨h.good.sync, hs.room.trans h.room, hs.down, hs.img (n := n) h.now, by rw [hs.now]; exact h.now⟩⟩
 ·exact .inr ⟨hs.code, h.good.sync, hs.room.trans h.room, hs.down, hs.img h.img⟩
theorem Up.fuse {room : Int} {P : Fn → Prop} {g : Fn} {m : DM} {n : Nat} (h : Up room P g m n) (k : Int) (hk : k ≤ 9223372036854775807) : Up room P g (fuseOf m k).2 n := by
 have hg := h.good.setFuse k hk
 have e : (fuseOf m k).2 = { m with fuse := if k < -1 then -1 else k } := by unfold fuseOf; rw [h.down]; rfl
 rw [e] at hg ⊢
 exact ⟨hg, h.room, h.down, h.img.same rfl rfl, h.now⟩
theorem down_fuse2 {m : DM} (h : m.down = true) (k : Int) : fuseOf m k = (5, m) := by unfold fuseOf; rw [h]; rfl
theorem Dn.fuse {room : Int} {P : Fn → Prop} {m : DM} {n : Nat} (h : Dn room P m n) (k : Int) : Dn room P (fuseOf m k).2 n := by rw [down_fuse2 h.down]; exact h
theorem crash_upF {room : Int} {P : Fn → Prop} {m : DM} {n : Nat} (hg : Good m n) (hr : m.room = room) (h : Img m (fun fs => P (fget fs))) (keep part : Int) :
  ∃ x, P x ∧ Up room (fun y => y = x) x (crashOf m keep part) 0 ∧ (crashOf m keep part).fuse = -1 :=
 ⟨_, h keep part, ⟨hg.crash keep part, hr, rfl, Img.one rfl rfl, rfl⟩, rfl⟩
theorem Up.clear {room : Int} {P : Fn → Prop} {g : Fn} {m : DM} {n : Nat} (h : Up room P g m n) (t : ByteArray) :
  ((clearOf m t).1 = 0 ∧ Up room (fun x => P x ∨ x = fclr g t) (fclr g t) (clearOf m t).2 (n + 1)) ∨ ((clearOf m t).1 = 5 ∧ Dn room P (clearOf m t).2 (n + 1)) := by
 cases hg : g t with
 | none =>
  have hth := h.there t
  rw [hg] at hth
  have hr : removeOf m t = (6, m) := by unfold removeOf; rw [hth]; rfl
  unfold clearOf
  rw [hr, fclr_none hg]
  exact .inl ⟨rfl, h.mono (fun _ h => .inl h) (Nat.le_succ _)⟩
 | some b =>
  rcases h.remove hg with ⟨c, hu⟩ | ⟨c, hd⟩
  ·have hc : clearOf m t = removeOf m t := by unfold clearOf; rw [if_neg (by rw [c]; omega)]
   rw [hc]; exact .inl ⟨c, hu⟩
  ·have hc : clearOf m t = removeOf m t := by unfold clearOf; rw [if_neg (by rw [c]; omega)]
   rw [hc]; exact .inr ⟨c, hd⟩
theorem take_piece {B : List UInt8} (i : Nat) (k : Nat) : B.take i ++ (B.drop i).take k = B.take (i + k) := by
 rw [List.take_add]
theorem Up.write {room : Int} {g : Fn} {t : ByteArray} {B : List UInt8} {U K : Nat} (hh : Holds (fclr g t) U K) (hu : (U : Int) + B.length ≤ room) :
  ∀ (f : Nat) {P : Fn → Prop} {m : DM} {n i : Nat}, B.length ≤ i + 1048576 * f → Up room P (fset g t (B.take i)) m n →
  ((writeFrom t B f m i).1 = 0 ∧ Up room (fun x => P x ∨ ∃ k, x = fset g t (B.take k)) (fset g t B) (writeFrom t B f m i).2 (n + f)) ∨ ((writeFrom t B f m i).1 = 5 ∧ Dn room (fun x => P x ∨ ∃ k, x = fset g t (B.take k)) (writeFrom t B f m i).2 (n + f))
 | 0, P, m, n, i, hi, h => by
  rw [List.take_of_length_le (by omega)] at h
  exact .inl ⟨rfl, h.mono (fun _ h => .inl h) (Nat.le_refl _)⟩
 | f + 1, P, m, n, i, hi, h => by
  rw [writeFrom]
  by_cases hlt : i < B.length
  ·rw [if_pos hlt]
   have hpl : ((B.drop i).take 1048576).length ≤ 1048576 := List.length_take_le _ _
   have hpd : ((B.drop i).take 1048576).length ≤ B.length - i := by
    have := List.length_take_le' 1048576 (B.drop i)
    rw [List.length_drop] at this; exact this
   have hti : (B.take i).length = i := by rw [List.length_take]; omega
   have hap := h.append (fset_same _ _ _) ((B.drop i).take 1048576) hpl (hh.set (B.take i)) (by rw [hti]; omega)
   rw [fset_fset, take_piece] at hap
   rcases hap with ⟨c, hu2⟩ | ⟨c, hd⟩
   ·rw [if_pos c]
    have hu3 : Up room (fun x => P x ∨ ∃ k, x = fset g t (B.take k)) (fset g t (B.take (i + 1048576))) (appendOf m t ((B.drop i).take 1048576)).2 (n + 1) :=
     hu2.mono (fun x hx => hx.imp id (fun ⟨j, e⟩ => by
      rw [fset_fset, List.take_take, take_piece] at e
      exact ⟨_, e⟩)) (Nat.le_refl _)
    rcases Up.write hh hu f (by omega) hu3 with ⟨c2, hu4⟩ | ⟨c2, hd4⟩
    ·exact .inl ⟨c2, hu4.mono (fun x hx => hx.elim id .inr) (by omega)⟩
    ·exact .inr ⟨c2, hd4.mono (fun x hx => hx.elim id .inr) (by omega)⟩
   ·rw [if_neg (by rw [c]; omega)]
    exact .inr ⟨c, hd.mono (fun _ h => .inl h) (by omega)⟩
  ·rw [if_neg hlt]
   rw [List.take_of_length_le (by omega)] at h
   exact .inl ⟨rfl, h.mono (fun _ h => .inl h) (by omega)⟩
def LayIm (g : Fn) (nm : ByteArray) (B : List UInt8) (x : Fn) : Prop := x = fclr g (tmpOf nm) ∨ (∃ k, x = fset g (tmpOf nm) (B.take k)) ∨ x = fclr (fset g nm B) (tmpOf nm)
theorem write_pieces (B : List UInt8) : B.length ≤ 0 + 1048576 * (B.length / 1048576 + 1) := by
 have := Nat.div_add_mod B.length 1048576
 have := Nat.mod_lt B.length (show 0 < 1048576 by decide)
 omega
theorem Up.lay {room : Int} {P : Fn → Prop} {g : Fn} {m : DM} {n U K : Nat} (h : Up room P g m n) {nm : ByteArray} (hnm : isName nm = true) (htn : isName (tmpOf nm) = true) (hne : tmpOf nm ≠ nm) (B : List UInt8)
  (hh : Holds (fclr g (tmpOf nm)) U K) (hu : (U : Int) + B.length ≤ room) (hk : K < 4096) :
  ((layOf m nm B).1 = 0 ∧ Up room (fun x => x = fclr (fset g nm B) (tmpOf nm)) (fclr (fset g nm B) (tmpOf nm)) (layOf m nm B).2 (n + (B.length + 4))) ∨ ((layOf m nm B).1 = 5 ∧ Dn room (fun x => P x ∨ LayIm g nm B x) (layOf m nm B).2 (n + (B.length + 4))) := by
 have hpc := write_pieces B
 have hdv : B.length / 1048576 ≤ B.length := Nat.div_le_self _ _
 have key : ((runSteps (laySteps nm B) m).1 = 0 ∧ Up room (fun x => x = fclr (fset g nm B) (tmpOf nm)) (fclr (fset g nm B) (tmpOf nm)) (runSteps (laySteps nm B) m).2 (n + (B.length + 4))) ∨ ((runSteps (laySteps nm B) m).1 = 5 ∧ Dn room (fun x => P x ∨ LayIm g nm B x) (runSteps (laySteps nm B) m).2 (n + (B.length + 4))) := by
  rw [show laySteps nm B = [fun m => clearOf m (tmpOf nm), fun m => createOf m (tmpOf nm), fun m => writeOf m (tmpOf nm) B, syncOf, fun m => renameOf m (tmpOf nm) nm, syncOf] from rfl, runSteps]
  rcases h.clear (tmpOf nm) with ⟨c1, h1⟩ | ⟨c1, h1⟩
  ·rw [if_pos c1, runSteps]
   rcases h1.create htn (fclr_same _ _) hh hk with ⟨c2, h2⟩ | ⟨c2, h2⟩
   ·rw [if_pos c2, runSteps]
    rw [fset_fclr] at h2
    have h2' : Up room (fun x => P x ∨ LayIm g nm B x) (fset g (tmpOf nm) (B.take 0)) (createOf (clearOf m (tmpOf nm)).2 (tmpOf nm)).2 (n + 1 + 1) := by
     rw [List.take_zero]
     refine h2.mono (fun x hx => ?_) (Nat.le_refl _)
     rcases hx with (hx | hx) | hx
     ·exact .inl hx
     ·exact .inr (.inl hx)
     ·exact .inr (.inr (.inl ⟨0, by rw [List.take_zero]; exact hx⟩))
    have hw := Up.write hh hu (B.length / 1048576 + 1) hpc h2'
    have hcol : ∀ x, ((P x ∨ LayIm g nm B x) ∨ ∃ k, x = fset g (tmpOf nm) (B.take k)) → (P x ∨ LayIm g nm B x) := fun x hx => hx.elim id (fun hx => .inr (.inr (.inl hx)))
    rw [show writeFrom (tmpOf nm) B (B.length / 1048576 + 1) (createOf (clearOf m (tmpOf nm)).2 (tmpOf nm)).2 0 = writeOf (createOf (clearOf m (tmpOf nm)).2 (tmpOf nm)).2 (tmpOf nm) B from rfl] at hw
    rcases hw with ⟨c3, h3⟩ | ⟨c3, h3⟩
    ·rw [if_pos c3, runSteps]
     rcases h3.sync with ⟨c4, h4⟩ | ⟨c4, h4⟩
     ·rw [if_pos c4, runSteps]
      have hfin : fclr (fset (fset g (tmpOf nm) B) nm B) (tmpOf nm) = fclr (fset g nm B) (tmpOf nm) := by
       funext x; simp only [fset, fclr]
       by_cases e1 : x = tmpOf nm
       ·simp only [e1, if_true]
       ·simp only [e1, if_false]
      rcases h4.rename (fset_same _ _ _) hnm hne with ⟨c5, h5⟩ | ⟨c5, h5⟩
      ·rw [if_pos c5, runSteps]
       rw [hfin] at h5
       rcases h5.sync with ⟨c6, h6⟩ | ⟨c6, h6⟩
       ·rw [if_pos c6]
        exact .inl ⟨rfl, h6.mono (fun _ h => h) (by omega)⟩
       ·rw [if_neg (by rw [c6]; omega)]
        refine .inr ⟨c6, h6.mono (fun x hx => ?_) (by omega)⟩
        rcases hx with hx | hx
        ·exact .inr (.inr (.inl ⟨B.length, by rw [List.take_length]; exact hx⟩))
        ·exact .inr (.inr (.inr hx))
      ·rw [if_neg (by rw [c5]; omega)]
       refine .inr ⟨c5, h5.mono (fun x hx => ?_) (by omega)⟩
       exact .inr (.inr (.inl ⟨B.length, by rw [List.take_length]; exact hx⟩))
     ·rw [if_neg (by rw [c4]; omega)]
      exact .inr ⟨c4, h4.mono hcol (by omega)⟩
    ·rw [if_neg (by rw [c3]; omega)]
     exact .inr ⟨c3, h3.mono hcol (by omega)⟩
   ·rw [if_neg (by rw [c2]; omega)]
    exact .inr ⟨c2, h2.mono (fun x hx => hx.imp id .inl) (by omega)⟩
  ·rw [if_neg (by rw [c1]; omega)]
   exact .inr ⟨c1, h1.mono (fun _ h => .inl h) (by omega)⟩
 have e : layOf m nm B = runSteps (laySteps nm B) m := by
  unfold layOf unfull
  rw [if_neg (by rcases key with ⟨k, _⟩ | ⟨k, _⟩ <;> rw [k] <;> omega)]
 rw [e]
 exact key
theorem Up.openJ {room : Int} {P : Fn → Prop} {g : Fn} {m : DM} {n U K : Nat} (h : Up room P g m n) {nm : ByteArray} (hnm : isName nm = true) (htn : isName (tmpOf nm) = true) (hne : tmpOf nm ≠ nm) {b : List UInt8} {rs : List (List UInt8)}
  (hb : g nm = some b) (hs : scanOf b = (rs, (framesOf rs).length)) (hh : Holds (fclr g (tmpOf nm)) U K) (hu : (U : Int) + b.length ≤ room) (hk : K < 4096) :
  ((openOf m nm).code = 0 ∧ (openOf m nm).res = some (rs, (framesOf rs).length) ∧ ∃ g', (g' = g ∨ g' = fclr (fset g nm (framesOf rs)) (tmpOf nm)) ∧ g' nm = some (framesOf rs) ∧ Up room (fun x => (P x ∧ g' = g) ∨ x = g') g' (openOf m nm).m (n + (b.length + 4))) ∨
  ((openOf m nm).code = 5 ∧ (openOf m nm).res = none ∧ Dn room (fun x => P x ∨ LayIm g nm (framesOf rs) x) (openOf m nm).m (n + (b.length + 4)) ∧ m.fuse ≠ -1) := by
 have hth : thereOf m nm = 0 := by rw [h.there, hb]; rfl
 have hle := scanOf_le b
 rw [hs] at hle
 simp only at hle
 have hpre : framesOf rs = b.take (framesOf rs).length := by
  have := (scanFrom_frames (l := b) (b.length + 1) 0 (Nat.zero_le _)).2
  unfold scanOf at hs
  rw [hs, List.drop_zero] at this
  exact this.symm
 unfold openOf
 rw [if_pos ⟨hnm, htn⟩, if_neg (by rw [hth]; omega), if_pos hth, h.now, hb, Option.getD_some, hs]
 by_cases hlt : (framesOf rs).length < b.length
 ·simp only [hlt, if_true]
  unfold openLay
  rcases h.lay hnm htn hne (framesOf rs) hh (by omega) hk with ⟨c, hu⟩ | ⟨c, hd⟩
  ·rw [if_pos c]
   exact .inl ⟨rfl, rfl, _, .inr rfl, by rw [fclr_other _ (Ne.symm hne), fset_same], hu.mono (fun _ h => .inr h) (by omega)⟩
  ·rw [if_neg (by rw [c]; omega)]
   refine .inr ⟨c, rfl, hd.mono (fun _ h => h) (by omega), fun hf => ?_⟩
   exact (Calm.of h.down hf).lay2 nm (framesOf rs) c
 ·simp only [hlt, if_false]
  have e : b = framesOf rs := by rw [hpre, List.take_of_length_le (by omega)]
  refine .inl ⟨by simp, by simp, g, .inl rfl, by rw [hb, e], ?_⟩
  exact h.mono (fun _ h => .inl ⟨h, rfl⟩) (by omega)
end Go.Proofs.YtlcnhpjggjgnpaaGreatDoor
