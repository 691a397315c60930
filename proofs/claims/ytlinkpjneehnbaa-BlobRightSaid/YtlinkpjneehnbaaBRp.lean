/- A store of bytes whose power may go: plain. -/
import Derived.Test.YtlinkpjneehnbaaBlobP
import Derived.Test.YtlinkpjneehnbaaImg
namespace Go.Proofs.Ytlinkpjneehnbaa
set_option linter.unusedVariables false
set_option linter.unusedSimpArgs false
open Go.RowKit Go.MapKept

/-! ### Names of files -/
/-- The number that a hexadecimal digit is. -/
def hexv (c : UInt8) : Nat := if c.toNat < 58 then c.toNat - 48 else c.toNat - 87
theorem hexv_hexd : ∀ n : Nat, n < 16 → hexv (hexd n) = n := by decide
theorem hexOf_cons (c : UInt8) (l : List UInt8) : hexOf (c :: l) = hexd (c.toNat / 16) :: hexd (c.toNat % 16) :: hexOf l := rfl
theorem hexd_inj {a b : Nat} (ha : a < 16) (hb : b < 16) (h : hexd a = hexd b) : a = b := by
  rw [← hexv_hexd a ha, h, hexv_hexd b hb]
theorem hexOf_inj : ∀ {l m : List UInt8}, l.length = m.length → hexOf l = hexOf m → l = m
  | [], [], _, _ => rfl
  | [], _ :: _, h, _ => by simp at h
  | _ :: _, [], h, _ => by simp at h
  | c :: l, d :: m, hl, h => by
    rw [hexOf_cons, hexOf_cons] at h
    simp only [List.cons.injEq] at h
    have hc := c.toNat_lt
    have hd := d.toNat_lt
    have e1 := hexd_inj (by omega) (by omega) h.1
    have e2 := hexd_inj (by omega) (by omega) h.2.1
    have e : c = d := UInt8.toNat_inj.1 (by omega)
    rw [e, hexOf_inj (by simpa using hl) h.2.2]
theorem fileOf_inj {x y : List UInt8} (hx : x.length = 32) (hy : y.length = 32) (h : fileOf x = fileOf y) : x = y := by
  have h1 := congrArg (fun s : ByteArray => s.data.toList) h
  unfold fileOf at h1
  simp only [ByteArray.data_append, Array.toList_append, List.append_cancel_left_eq] at h1
  exact hexOf_inj (by omega) h1

/-! ### Steps -/
/-- A disk with power; P holds of all that a crash may leave. -/
structure BUp (P : FS → Prop) (m : DM) (n : Nat) : Prop where
  good : Good m n
  down : m.down = false
  img : Img m P
structure BDn (P : FS → Prop) (m : DM) (n : Nat) : Prop where
  good : Good m n
  down : m.down = true
  img : Img m P
theorem BUp.mono {P Q : FS → Prop} {m : DM} {n k : Nat} (h : BUp P m n) (hPQ : ∀ fs, P fs → Q fs) (hk : n ≤ k) : BUp Q m k := ⟨h.good.mono hk, h.down, h.img.mono hPQ⟩
theorem BDn.mono {P Q : FS → Prop} {m : DM} {n k : Nat} (h : BDn P m n) (hPQ : ∀ fs, P fs → Q fs) (hk : n ≤ k) : BDn Q m k := ⟨h.good.mono hk, h.down, h.img.mono hPQ⟩
theorem BUp.now {P : FS → Prop} {m : DM} {n : Nat} (h : BUp P m n) : P m.now := h.img.now h.good
theorem BUp.there {P : FS → Prop} {m : DM} {n : Nat} (h : BUp P m n) (f : ByteArray) : thereOf m f = if (fget m.now f).isSome then 0 else 6 := by
  unfold thereOf; rw [h.down]; rfl
/-- A step. -/
theorem BUp.step {P : FS → Prop} {m : DM} {n : Nat} (h : BUp P m n) (c : Ch) {r : Int × DM} (hr : r = doesOf m c) (hgood : Good r.2 (n + 1))
    (h0 : c.kind ≠ 1 → P (doCh m.now c)) (h1 : c.kind = 1 → ∀ i, P (doCh m.now { c with p := c.p.take i })) :
    (r.1 = 0 ∧ BUp P r.2 (n + 1) ∧ r.2.now = doCh m.now c ∧ r.2.room = m.room) ∨ (r.1 = 5 ∧ BDn P r.2 (n + 1) ∧ r.2.room = m.room) := by
  rcases does_cases m c with hd | hd
  · rw [← hr] at hd
    exact .inl ⟨hd.code, ⟨hgood, hd.down.trans h.down, hd.img h.good h.img h0 h1⟩, hd.now, hd.room⟩
  · rw [← hr] at hd
    exact .inr ⟨hd.code, ⟨hgood, hd.down, hd.img h.img⟩, hd.room⟩
theorem BUp.sync {P Q : FS → Prop} {m : DM} {n : Nat} (h : BUp P m n) (hq : Q m.now) :
    ((syncOf m).1 = 0 ∧ BUp Q (syncOf m).2 n ∧ (syncOf m).2.now = m.now ∧ (syncOf m).2.room = m.room) ∨ ((syncOf m).1 = 5 ∧ BDn P (syncOf m).2 n ∧ (syncOf m).2.room = m.room) := by
  rcases sync_cases h.good h.down with hs | hs
  · exact .inl ⟨hs.code, ⟨h.good.sync, hs.down, hs.img (n := n) hq⟩, hs.now, hs.room⟩
  · exact .inr ⟨hs.code, ⟨h.good.sync, hs.down, hs.img h.img⟩, hs.room⟩

/-! ### The file in the making -/
/-- Files that are N's, but for the one in the making. -/
def Tm (N : FS) (fs : FS) : Prop := FNodup fs ∧ ∀ n, n ≠ tmpB → fget fs n = fget N n
theorem Tm.put {N fs : FS} (h : Tm N fs) (b : List UInt8) : Tm N (fput fs tmpB b) := ⟨h.1.fput _ _, fun n hn => by rw [fget_fput_other h.1 _ _ _ (Ne.symm hn)]; exact h.2 n hn⟩
theorem Tm.del {N fs : FS} (h : Tm N fs) : Tm N (fdel fs tmpB) := ⟨h.1.fdel _, fun n hn => by rw [fget_fdel_other _ _ _ (Ne.symm hn)]; exact h.2 n hn⟩
theorem Tm.self {N : FS} (h : FNodup N) : Tm N N := ⟨h, fun _ _ => rfl⟩
/-- The file of D holds p; all else is N's. -/
def Nw (N : FS) (D p : List UInt8) (fs : FS) : Prop := FNodup fs ∧ (∀ n, n ≠ tmpB → n ≠ fileOf D → fget fs n = fget N n) ∧ fget fs (fileOf D) = some p
section
variable {N : FS} {m : DM} {n : Nat}
theorem BUp.clear (h : BUp (Tm N) m n) :
    ((clearOf m tmpB).1 = 0 ∧ BUp (Tm N) (clearOf m tmpB).2 (n + 1) ∧ fget (clearOf m tmpB).2.now tmpB = none ∧ (clearOf m tmpB).2.room = m.room) ∨ ((clearOf m tmpB).1 = 5 ∧ BDn (Tm N) (clearOf m tmpB).2 (n + 1) ∧ (clearOf m tmpB).2.room = m.room) := by
  have hth := h.there tmpB
  cases hg : fget m.now tmpB with
  | none =>
    rw [hg] at hth
    have hr : removeOf m tmpB = (6, m) := by unfold removeOf; rw [hth]; rfl
    unfold clearOf
    rw [hr]
    exact .inl ⟨rfl, h.mono (fun _ h => h) (Nat.le_succ _), hg, rfl⟩
  | some x =>
    rw [hg] at hth
    have hr : removeOf m tmpB = doesOf m ⟨2, tmpB, ⟨#[]⟩, []⟩ := by unfold removeOf; rw [hth]; rfl
    have hdo : doCh m.now ⟨2, tmpB, ⟨#[]⟩, []⟩ = fdel m.now tmpB := by simp [doCh]
    rcases h.step ⟨2, tmpB, ⟨#[]⟩, []⟩ hr (h.good.remove tmpB) (fun _ => by rw [hdo]; exact h.now.del) (fun e => by simp at e) with ⟨h1, h2, h3, h4⟩ | ⟨h1, h2, h4⟩
    · have hc : clearOf m tmpB = removeOf m tmpB := by unfold clearOf; rw [if_neg (by rw [h1]; omega)]
      rw [hc]
      exact .inl ⟨h1, h2, by rw [h3, hdo]; exact fget_fdel_same _ _, h4⟩
    · have hc : clearOf m tmpB = removeOf m tmpB := by unfold clearOf; rw [if_neg (by rw [h1]; omega)]
      rw [hc]
      exact .inr ⟨h1, h2, h4⟩
theorem BUp.create (h : BUp (Tm N) m n) (ht : fget m.now tmpB = none) :
    ((createOf m tmpB).1 = 0 ∧ BUp (Tm N) (createOf m tmpB).2 (n + 1) ∧ fget (createOf m tmpB).2.now tmpB = some [] ∧ (createOf m tmpB).2.room = m.room) ∨ ((createOf m tmpB).1 = 4 ∧ (createOf m tmpB).2 = m) ∨ ((createOf m tmpB).1 = 5 ∧ BDn (Tm N) (createOf m tmpB).2 (n + 1) ∧ (createOf m tmpB).2.room = m.room) := by
  by_cases hf : decide ((4096 : Int) ≤ (m.now.length : Int)) = true
  · have : createOf m tmpB = (4, m) := by
      unfold createOf
      rw [h.down, tmp_name, ht, hf]
      rfl
    rw [this]
    exact .inr (.inl ⟨rfl, rfl⟩)
  · have hr : createOf m tmpB = doesOf m ⟨0, tmpB, ⟨#[]⟩, []⟩ := by
      unfold createOf
      rw [h.down, tmp_name, ht, Bool.eq_false_iff.2 hf]
      rfl
    have hdo : doCh m.now ⟨0, tmpB, ⟨#[]⟩, []⟩ = fput m.now tmpB [] := by simp [doCh]
    rcases h.step ⟨0, tmpB, ⟨#[]⟩, []⟩ hr (h.good.create tmpB) (fun _ => by rw [hdo]; exact h.now.put []) (fun e => by simp at e) with ⟨h1, h2, h3, h4⟩ | ⟨h1, h2, h4⟩
    · exact .inl ⟨h1, h2, by rw [h3, hdo]; exact fget_fput_same h.good.nnow _ _, h4⟩
    · exact .inr (.inr ⟨h1, h2, h4⟩)
theorem BUp.append (h : BUp (Tm N) m n) (ht : fget m.now tmpB = some []) (p : List UInt8) (hp : p.length ≤ 1048576) :
    ((appendOf m tmpB p).1 = 0 ∧ BUp (Tm N) (appendOf m tmpB p).2 (n + 1) ∧ fget (appendOf m tmpB p).2.now tmpB = some p ∧ (appendOf m tmpB p).2.room = m.room) ∨ ((appendOf m tmpB p).1 = 4 ∧ (appendOf m tmpB p).2 = m) ∨ ((appendOf m tmpB p).1 = 5 ∧ BDn (Tm N) (appendOf m tmpB p).2 (n + 1) ∧ (appendOf m tmpB p).2.room = m.room) := by
  have hth : thereOf m tmpB = 0 := by rw [h.there, ht]; rfl
  by_cases hroom : m.room - (used m.now : Int) < (p.length : Int)
  · have : appendOf m tmpB p = (4, m) := by
      unfold appendOf
      rw [hth, if_pos rfl, if_neg (by omega), if_pos hroom]
    rw [this]
    exact .inr (.inl ⟨rfl, rfl⟩)
  · have hr : appendOf m tmpB p = doesOf m ⟨1, tmpB, ⟨#[]⟩, p⟩ := by
      unfold appendOf
      rw [hth, if_pos rfl, if_neg (by omega), if_neg hroom]
    have hdo : ∀ q, doCh m.now ⟨1, tmpB, ⟨#[]⟩, q⟩ = fput m.now tmpB q := fun q => by simp [doCh, ht]
    rcases h.step ⟨1, tmpB, ⟨#[]⟩, p⟩ hr (h.good.append tmpB p) (fun e => absurd rfl e) (fun _ i => by rw [hdo]; exact h.now.put _) with ⟨h1, h2, h3, h4⟩ | ⟨h1, h2, h4⟩
    · exact .inl ⟨h1, h2, by rw [h3, hdo]; exact fget_fput_same h.good.nnow _ _, h4⟩
    · exact .inr (.inr ⟨h1, h2, h4⟩)
theorem Tm.moved {N fs : FS} (h : Tm N fs) {D p : List UInt8} (hD : D.length = 32) (ht : fget fs tmpB = some p) : Nw N D p (doCh fs ⟨3, tmpB, fileOf D, []⟩) := by
  have hne := tmp_ne D hD
  have e : doCh fs ⟨3, tmpB, fileOf D, []⟩ = fdel (fput fs (fileOf D) p) tmpB := by
    simp [doCh, hne, ht]
  rw [e]
  refine ⟨(h.1.fput _ _).fdel _, fun n h1 h2 => ?_, ?_⟩
  · rw [fget_fdel_other _ _ _ (Ne.symm h1), fget_fput_other h.1 _ _ _ (Ne.symm h2)]; exact h.2 n h1
  · rw [fget_fdel_other _ _ _ hne]; exact fget_fput_same h.1 _ _
theorem BUp.rename {D p : List UInt8} (h : BUp (Tm N) m n) (hD : D.length = 32) (ht : fget m.now tmpB = some p) :
    ((renameOf m tmpB (fileOf D)).1 = 0 ∧ BUp (fun fs => Tm N fs ∨ Nw N D p fs) (renameOf m tmpB (fileOf D)).2 (n + 1) ∧ Nw N D p (renameOf m tmpB (fileOf D)).2.now ∧ (renameOf m tmpB (fileOf D)).2.room = m.room) ∨ ((renameOf m tmpB (fileOf D)).1 = 5 ∧ BDn (fun fs => Tm N fs ∨ Nw N D p fs) (renameOf m tmpB (fileOf D)).2 (n + 1) ∧ (renameOf m tmpB (fileOf D)).2.room = m.room) := by
  have hth : thereOf m tmpB = 0 := by rw [h.there, ht]; rfl
  have hr : renameOf m tmpB (fileOf D) = doesOf m ⟨3, tmpB, fileOf D, []⟩ := by
    unfold renameOf
    rw [hth, if_pos rfl, file_name D hD]
    rfl
  have hmv := h.now.moved hD ht
  rcases (h.mono (Q := fun fs => Tm N fs ∨ Nw N D p fs) (fun _ h => .inl h) (Nat.le_refl _)).step ⟨3, tmpB, fileOf D, []⟩ hr (h.good.rename tmpB (fileOf D)) (fun _ => .inr hmv) (fun e => by simp at e) with ⟨h1, h2, h3, h4⟩ | ⟨h1, h2, h4⟩
  · exact .inl ⟨h1, h2, by rw [h3]; exact hmv, h4⟩
  · exact .inr ⟨h1, h2, h4⟩
/-- What laying bytes leaves. -/
def LaidB (N : FS) (D p : List UInt8) (n : Nat) (room : Int) (r : Int × DM) : Prop :=
  r.2.room = room ∧ ((r.1 = 0 ∧ BUp (Nw N D p) r.2 (n + 7)) ∨ (r.1 = 4 ∧ BUp (Tm N) r.2 (n + 7)) ∨ (r.1 = 5 ∧ BDn (fun fs => Tm N fs ∨ Nw N D p fs) r.2 (n + 7)))
theorem laid_full {D p : List UInt8} {k : Nat} (h : BUp (Tm N) m k) (hk : k + 1 ≤ n + 7) : LaidB N D p n m.room (unfull tmpB (4, m)) := by
  unfold unfull
  rw [if_pos rfl]
  rcases h.clear with ⟨h1, h2, _, h4⟩ | ⟨h1, h2, h4⟩
  · rw [if_pos h1]
    exact ⟨h4, .inr (.inl ⟨rfl, h2.mono (fun _ h => h) hk⟩)⟩
  · rw [if_neg (by rw [h1]; omega)]
    exact ⟨h4, .inr (.inr ⟨h1, h2.mono (fun _ h => .inl h) hk⟩)⟩
theorem laid_dead {D p : List UInt8} {r : Int × DM} {k : Nat} {room : Int} (h1 : r.1 = 5) (h : BDn (fun fs => Tm N fs ∨ Nw N D p fs) r.2 k) (hk : k ≤ n + 7) (hr : r.2.room = room) : LaidB N D p n room (unfull tmpB r) := by
  have : unfull tmpB r = r := by unfold unfull; rw [if_neg (by rw [h1]; omega)]
  rw [this]
  exact ⟨hr, .inr (.inr ⟨h1, h.mono (fun _ h => h) hk⟩)⟩
theorem run_yes {f : DM → Int × DM} {fs : List (DM → Int × DM)} {m : DM} (h : (f m).1 = 0) : runSteps (f :: fs) m = runSteps fs (f m).2 := by rw [runSteps, if_pos h]
theorem run_no {f : DM → Int × DM} {fs : List (DM → Int × DM)} {m : DM} (h : ¬ (f m).1 = 0) : runSteps (f :: fs) m = f m := by rw [runSteps, if_neg h]
theorem blaid (h : BUp (Tm N) m n) {D : List UInt8} (hD : D.length = 32) {p : List UInt8} (hp : p.length ≤ 1048576) : LaidB N D p n m.room (bLayOf m D p) := by
  unfold bLayOf bSteps
  rcases h.clear with ⟨a1, a2, a3, a4⟩ | ⟨a1, a2, a4⟩
  · rw [run_yes a1]
    generalize (clearOf m tmpB).2 = m1 at a2 a3 a4 ⊢
    rw [← a4]
    rcases a2.create a3 with ⟨b1, b2, b3, b4⟩ | ⟨b1, b2⟩ | ⟨b1, b2, b4⟩
    · rw [run_yes b1]
      generalize (createOf m1 tmpB).2 = m2 at b2 b3 b4 ⊢
      rw [← b4]
      rcases b2.append b3 p hp with ⟨c1, c2, c3, c4⟩ | ⟨c1, c2⟩ | ⟨c1, c2, c4⟩
      · rw [run_yes c1]
        generalize (appendOf m2 tmpB p).2 = m3 at c2 c3 c4 ⊢
        rw [← c4]
        rcases c2.sync (Q := Tm N) c2.now with ⟨d1, d2, d3, d4⟩ | ⟨d1, d2, d4⟩
        · rw [run_yes d1]
          rw [← d3] at c3
          generalize (syncOf m3).2 = m4 at d2 d3 d4 c3 ⊢
          rw [← d4]
          rcases d2.rename hD c3 with ⟨e1, e2, e3, e4⟩ | ⟨e1, e2, e4⟩
          · rw [run_yes e1]
            generalize (renameOf m4 tmpB (fileOf D)).2 = m5 at e2 e3 e4 ⊢
            rw [← e4]
            rcases e2.sync (Q := Nw N D p) e3 with ⟨f1, f2, f3, f4⟩ | ⟨f1, f2, f4⟩
            · rw [run_yes f1]
              exact ⟨f4, .inl ⟨rfl, f2.mono (fun _ h => h) (by omega)⟩⟩
            · rw [run_no (by rw [f1]; omega)]
              exact laid_dead f1 f2 (by omega) f4
          · rw [run_no (by rw [e1]; omega)]
            exact laid_dead e1 e2 (by omega) e4
        · rw [run_no (by rw [d1]; omega)]
          exact laid_dead d1 (d2.mono (fun _ h => .inl h) (Nat.le_refl _)) (by omega) d4
      · rw [run_no (by rw [c1]; omega)]
        have : appendOf m2 tmpB p = (4, m2) := Prod.ext c1 c2
        rw [this]
        exact laid_full b2 (by omega)
      · rw [run_no (by rw [c1]; omega)]
        exact laid_dead c1 (c2.mono (fun _ h => .inl h) (Nat.le_refl _)) (by omega) c4
    · rw [run_no (by rw [b1]; omega)]
      have : createOf m1 tmpB = (4, m1) := Prod.ext b1 b2
      rw [this]
      exact laid_full a2 (by omega)
    · rw [run_no (by rw [b1]; omega)]
      exact laid_dead b1 (b2.mono (fun _ h => .inl h) (Nat.le_refl _)) (by omega) b4
  · rw [run_no (by rw [a1]; omega)]
    exact laid_dead a1 (a2.mono (fun _ h => .inl h) (Nat.le_refl _)) (by omega) a4
end
end Go.Proofs.Ytlinkpjneehnbaa
