/- BlobRight: what holds from step to step. Plain. -/
import Derived.Test.YtlinkpjneehnbaaBRp
import Derived.Test.YtlinkpjneehnbaaPkG
import Derived.Test.YtlinkpjneehnbaaPkH
namespace Go.Proofs.Ytlinkpjneehnbaa
set_option linter.unusedVariables false
set_option linter.unusedSimpArgs false
open Go.RowKit Go.MapKept

/-! ### Tidy -/
theorem TidyB.create {m : DM} {n t : Nat} (h : Tidy m n t) (f : ByteArray) : Tidy (createOf m f).2 (n + 1) (t + 1) := by
  rw [← step_create]; exact h.step _ ⟨by simp, by simp⟩ (fun _ => rfl) (fun _ => Nat.zero_le _)
theorem TidyB.append {m : DM} {n t : Nat} (h : Tidy m n t) (f : ByteArray) (p : List UInt8) : Tidy (appendOf m f p).2 (n + 1) (t + 1) := by
  rw [← step_append]; exact h.step _ ⟨by simp, by simp⟩ (fun e => absurd rfl e) (fun _ => Nat.zero_le _)
theorem TidyB.remove {m : DM} {n t : Nat} (h : Tidy m n t) (f : ByteArray) : Tidy (removeOf m f).2 (n + 1) (t + 1) := by
  rw [← step_remove]; exact h.step _ ⟨by simp, by simp⟩ (fun _ => rfl) (fun _ => Nat.zero_le _)
theorem TidyB.rename {m : DM} {n t : Nat} (h : Tidy m n t) (f g : ByteArray) : Tidy (renameOf m f g).2 (n + 1) (t + 1) := by
  rw [← step_rename]; exact h.step _ ⟨by simp, by simp⟩ (fun _ => rfl) (fun e => absurd rfl e)
theorem TidyB.sync {m : DM} {n t : Nat} (h : Tidy m n t) : Tidy (syncOf m).2 (n + 1) (t + 1) := h.sync.mono (Nat.le_succ _) (Nat.le_succ _)
theorem TidyB.clear {m : DM} {n t : Nat} (h : Tidy m n t) (f : ByteArray) : Tidy (clearOf m f).2 (n + 1) (t + 1) := by
  unfold clearOf; split <;> exact TidyB.remove h f
theorem TidyB.run : ∀ (fs : List (DM → Int × DM)) {m : DM} {n t : Nat}, (∀ f ∈ fs, ∀ m a b, Tidy m a b → Tidy (f m).2 (a + 1) (b + 1)) → Tidy m n t → Tidy (runSteps fs m).2 (n + fs.length) (t + fs.length)
  | [], m, n, t, _, h => by simpa [runSteps] using h
  | f :: fs, m, n, t, hf, h => by
    have h1 := hf f (List.mem_cons_self ..) m n t h
    rw [runSteps, List.length_cons]
    split
    · have := TidyB.run fs (fun g hg => hf g (List.mem_cons_of_mem _ hg)) h1
      exact this.mono (by omega) (by omega)
    · exact h1.mono (by omega) (by omega)
theorem TidyB.lay {m : DM} {n t : Nat} (h : Tidy m n t) (D p : List UInt8) : Tidy (bLayOf m D p).2 (n + 7) (t + 7) := by
  have h1 : Tidy (runSteps (bSteps D p) m).2 (n + 6) (t + 6) := TidyB.run (bSteps D p) (fun f hf m a b hm => by
    simp only [bSteps, List.mem_cons, List.not_mem_nil, or_false] at hf
    rcases hf with rfl | rfl | rfl | rfl | rfl | rfl
    · exact TidyB.clear hm _
    · exact TidyB.create hm _
    · exact TidyB.append hm _ _
    · exact TidyB.sync hm
    · exact TidyB.rename hm _ _
    · exact TidyB.sync hm) h
  unfold bLayOf unfull
  split
  · split <;> exact TidyB.clear h1 _
  · exact h1.mono (Nat.le_succ _) (Nat.le_succ _)

/-! ### The invariant -/
/-- Digests all. -/
def Len32 (L : List (List UInt8)) : Prop := ∀ x ∈ L, x.length = 32
/-- A list without a digest. -/
def withoutOf (L : List (List UInt8)) (D : List UInt8) : List (List UInt8) := L.filter (fun x => !decide (x = D))
theorem mem_without {L : List (List UInt8)} {D x : List UInt8} : x ∈ withoutOf L D ↔ x ∈ L ∧ ¬ x = D := by simp [withoutOf]
theorem Len32.without {L : List (List UInt8)} (h : Len32 L) (D : List UInt8) : Len32 (withoutOf L D) := fun x hx => h x (mem_without.1 hx).1
theorem Len32.snoc {L : List (List UInt8)} (h : Len32 L) {D : List UInt8} (hD : D.length = 32) : Len32 (L ++ [D]) := fun x hx => by
  rcases List.mem_append.1 hx with hx | hx
  · exact h x hx
  · simp at hx; subst hx; exact hD
/-- Files that are whole, those of H there, no others than those of H and S. -/
def Wh (H S : List (List UInt8)) (fs : FS) : Prop :=
  FNodup fs ∧ (∀ n b, fget fs n = some b → n = tmpB ∨ ∃ x, x.length = 32 ∧ n = fileOf x ∧ sumOf b = x ∧ (x ∈ H ∨ x ∈ S)) ∧ ∀ x ∈ H, (fget fs (fileOf x)).isSome = true
theorem Wh.mono {H S H' S' : List (List UInt8)} {fs : FS} (h : Wh H S fs) (h1 : ∀ x, x ∈ H ∨ x ∈ S → x ∈ H' ∨ x ∈ S') (h2 : ∀ x ∈ H', x ∈ H) : Wh H' S' fs :=
  ⟨h.1, fun n b hb => (h.2.1 n b hb).imp id (fun ⟨x, a1, a2, a3, a4⟩ => ⟨x, a1, a2, a3, h1 x a4⟩), fun x hx => h.2.2 x (h2 x hx)⟩
theorem Wh.tm {H S : List (List UInt8)} {N fs : FS} (h : Wh H S N) (h32 : Len32 H) (ht : Tm N fs) : Wh H S fs := by
  refine ⟨ht.1, fun n b hb => ?_, fun x hx => ?_⟩
  · by_cases e : n = tmpB
    · exact .inl e
    · rw [ht.2 n e] at hb
      exact h.2.1 n b hb
  · rw [ht.2 _ (fun e => tmp_ne x (h32 x hx) e.symm)]
    exact h.2.2 x hx
theorem Wh.nw {H S H' S' : List (List UInt8)} {N fs : FS} {D p : List UInt8} (h : Wh H S N) (h32 : Len32 H) (hD : D.length = 32) (hp : sumOf p = D) (ht : Nw N D p fs) (h1 : ∀ x, x ∈ H ∨ x ∈ S → x ∈ H' ∨ x ∈ S') (h2 : D ∈ H' ∨ D ∈ S') (h3 : ∀ x ∈ H', x ∈ H ∨ x = D) : Wh H' S' fs := by
  obtain ⟨t1, t2, t3⟩ := ht
  refine ⟨t1, fun n b hb => ?_, fun x hx => ?_⟩
  · by_cases e : n = tmpB
    · exact .inl e
    · by_cases e2 : n = fileOf D
      · rw [e2, t3] at hb
        cases hb
        exact .inr ⟨D, hD, e2, hp, h2⟩
      · rw [t2 n e e2] at hb
        exact (h.2.1 n b hb).imp id (fun ⟨x, a1, a2, a3, a4⟩ => ⟨x, a1, a2, a3, h1 x a4⟩)
  · by_cases e : x = D
    · rw [e, t3]; rfl
    · have hxH : x ∈ H := (h3 x hx).resolve_right e
      have hx32 := h32 x hxH
      rw [t2 _ (fun e' => tmp_ne x hx32 e'.symm) (fun e' => e (fileOf_inj hx32 hD e'))]
      exact h.2.2 x hxH
structure BI (H S : List (List UInt8)) (m : DM) (n : Nat) : Prop where
  tidy : Tidy m n n
  h32 : Len32 H
  s32 : Len32 S
  st : (m.down = false ∧ Wh H S m.now ∧ Img m (Tm m.now)) ∨ (m.down = true ∧ Img m (Wh H S))
theorem BI.img {H S : List (List UInt8)} {m : DM} {n : Nat} (h : BI H S m n) : Img m (Wh H S) := by
  rcases h.st with ⟨_, h1, h2⟩ | ⟨_, h1⟩
  · exact h2.mono (fun fs hf => h1.tm h.h32 hf)
  · exact h1
theorem BI.mono {H S : List (List UInt8)} {m : DM} {n k : Nat} (h : BI H S m n) (hk : n ≤ k) : BI H S m k := ⟨h.tidy.mono hk hk, h.h32, h.s32, h.st⟩
theorem BI.start {room : Int} (h0 : 0 ≤ room) (h1 : room ≤ 67108864) : BI [] [] (newOf room) 0 :=
  ⟨Tidy.new h0 h1, (fun x hx => by cases hx), (fun x hx => by cases hx), .inl ⟨rfl, ⟨FNodup.nil, (fun n b hb => by simp [newOf, fget] at hb), (fun x hx => by cases hx)⟩, Img.one rfl (Tm.self FNodup.nil)⟩⟩
/-- A disk with power whose files agree with N's. -/
theorem BI.ofUp {H S : List (List UInt8)} {m : DM} {n k : Nat} {N : FS} (ht : Tidy m k k) (h32 : Len32 H) (s32 : Len32 S) (hN : Wh H S N) (h : BUp (Tm N) m n) : BI H S m k := by
  refine ⟨ht, h32, s32, .inl ⟨h.down, hN.tm h32 h.now, h.img.mono (fun fs hf => ⟨hf.1, fun x hx => ?_⟩)⟩⟩
  rw [hf.2 x hx, h.now.2 x hx]
theorem BI.ofDn {H S : List (List UInt8)} {m : DM} {n k : Nat} (ht : Tidy m k k) (h32 : Len32 H) (s32 : Len32 S) (h : BDn (Wh H S) m n) : BI H S m k := ⟨ht, h32, s32, .inr ⟨h.down, h.img⟩⟩
/-- Put, told: what the lists become. -/
theorem BI.put {H S : List (List UInt8)} {m : DM} {n : Nat} (h : BI H S m n) (p : List UInt8) (hp : p.length ≤ 3000) :
    ((bPutOf m p).2.1 = 0 ∧ (bPutOf m p).1 = sumOf p ∧ BI (withoutOf H (sumOf p) ++ [sumOf p]) S (bPutOf m p).2.2 (n + 7)) ∨ ((bPutOf m p).2.1 = 5 ∧ BI H (S ++ [sumOf p]) (bPutOf m p).2.2 (n + 7)) ∨ ((bPutOf m p).2.1 = 4 ∧ BI H S (bPutOf m p).2.2 (n + 7)) := by
  have hD := sumOf_length p
  have hl := TidyB.lay h.tidy (sumOf p) p
  have hH' : Len32 (withoutOf H (sumOf p) ++ [sumOf p]) := (h.h32.without _).snoc hD
  have hS' : Len32 (S ++ [sumOf p]) := h.s32.snoc hD
  unfold bPutOf
  rw [if_neg (by omega)]
  rcases h.st with ⟨hd, hw, hi⟩ | ⟨hd, hi⟩
  · have hup : BUp (Tm m.now) m n := ⟨h.tidy.good, hd, hi⟩
    have hth0 := hup.there (fileOf (sumOf p))
    cases hg : fget m.now (fileOf (sumOf p)) with
    | none =>
      have hth : thereOf m (fileOf (sumOf p)) = 6 := by rw [hth0, hg]; rfl
      rw [hth, if_pos rfl]
      obtain ⟨_, h1⟩ := blaid hup hD (p := p) (by omega)
      generalize bLayOf m (sumOf p) p = r at hl h1
      unfold bPutRes
      rcases h1 with ⟨e, h1⟩ | ⟨e, h1⟩ | ⟨e, h1⟩
      · rw [if_pos e]
        have hwn : Wh (withoutOf H (sumOf p) ++ [sumOf p]) S r.2.now := hw.nw h.h32 hD rfl h1.now (fun x hx => by
            by_cases e : x = sumOf p
            · exact .inl (by simp [e])
            · exact hx.imp (fun hx => List.mem_append_left _ (mem_without.2 ⟨hx, e⟩)) id) (.inl (by simp)) (fun x hx => by
            rcases List.mem_append.1 hx with hx | hx
            · exact .inl (mem_without.1 hx).1
            · exact .inr (by simpa using hx))
        refine .inl ⟨rfl, rfl, hl, hH', h.s32, .inl ⟨h1.down, hwn, h1.img.mono (fun fs hf => ⟨hf.1, fun x hx => ?_⟩)⟩⟩
        by_cases e2 : x = fileOf (sumOf p)
        · rw [e2, hf.2.2, h1.now.2.2]
        · rw [hf.2.1 x hx e2, h1.now.2.1 x hx e2]
      · rw [if_neg (by rw [e]; omega)]
        exact .inr (.inr ⟨e, BI.ofUp hl h.h32 h.s32 hw h1⟩)
      · rw [if_neg (by rw [e]; omega)]
        refine .inr (.inl ⟨e, BI.ofDn hl h.h32 hS' (h1.mono (fun fs hf => ?_) (Nat.le_refl _))⟩)
        rcases hf with hf | hf
        · exact (hw.tm h.h32 hf).mono (fun x hx => hx.imp id (List.mem_append_left _)) (fun x hx => hx)
        · exact hw.nw h.h32 hD rfl hf (fun x hx => hx.imp id (List.mem_append_left _)) (.inr (by simp)) (fun x hx => .inl hx)
    | some b =>
      have hth : thereOf m (fileOf (sumOf p)) = 0 := by rw [hth0, hg]; rfl
      rw [hth, if_neg (by decide)]
      refine .inl ⟨rfl, rfl, h.tidy.mono (Nat.le_add_right _ _) (Nat.le_add_right _ _), hH', h.s32, .inl ⟨hd, ⟨hw.1, fun n b hb => ?_, fun x hx => ?_⟩, hi⟩⟩
      · refine (hw.2.1 n b hb).imp id (fun ⟨x, a1, a2, a3, a4⟩ => ⟨x, a1, a2, a3, ?_⟩)
        by_cases e : x = sumOf p
        · exact .inl (by simp [e])
        · exact a4.imp (fun hx => List.mem_append_left _ (mem_without.2 ⟨hx, e⟩)) id
      · rcases List.mem_append.1 hx with hx | hx
        · exact hw.2.2 x (mem_without.1 hx).1
        · simp at hx
          rw [hx]
          show (fget m.now (fileOf (sumOf p))).isSome = true
          rw [hg]; rfl
  · have hth : thereOf m (fileOf (sumOf p)) = 5 := by unfold thereOf; rw [hd]; rfl
    rw [hth, if_neg (by decide)]
    exact .inr (.inl ⟨rfl, h.tidy.mono (Nat.le_add_right _ _) (Nat.le_add_right _ _), h.h32, hS', .inr ⟨hd, hi.mono (fun fs hf => hf.mono (fun x hx => hx.imp id (List.mem_append_left _)) (fun x hx => hx))⟩⟩)
/-- Delete: a code, the disk. -/
def bDeleteOf (m : DM) (D : List UInt8) : Int × DM := if (removeOf m (fileOf D)).1 = 0 then syncOf (removeOf m (fileOf D)).2 else removeOf m (fileOf D)
theorem Wh.del {H S : List (List UInt8)} {N fs : FS} {D : List UInt8} (h : Wh H S N) (h32 : Len32 H) (hD : D.length = 32) (hn : FNodup fs) (hf : ∀ n, n ≠ tmpB → n ≠ fileOf D → fget fs n = fget N n) (hg : fget fs (fileOf D) = none) : Wh (withoutOf H D) (withoutOf S D) fs := by
  refine ⟨hn, fun n b hb => ?_, fun x hx => ?_⟩
  · by_cases e : n = tmpB
    · exact .inl e
    · by_cases e2 : n = fileOf D
      · rw [e2, hg] at hb; cases hb
      · rw [hf n e e2] at hb
        refine (h.2.1 n b hb).imp id (fun ⟨x, a1, a2, a3, a4⟩ => ⟨x, a1, a2, a3, ?_⟩)
        have hne : ¬ x = D := fun e => e2 (by rw [a2, e])
        exact a4.imp (fun hx => mem_without.2 ⟨hx, hne⟩) (fun hx => mem_without.2 ⟨hx, hne⟩)
  · obtain ⟨h1, h2⟩ := mem_without.1 hx
    have hx32 := h32 x h1
    rw [hf _ (fun e => tmp_ne x hx32 e.symm) (fun e => h2 (fileOf_inj hx32 hD e))]
    exact h.2.2 x h1
theorem Wh.moved {H S : List (List UInt8)} {fs : FS} {D : List UInt8} (h : Wh H S fs) : Wh (withoutOf H D) (S ++ [D]) fs :=
  h.mono (fun x hx => by
    by_cases e : x = D
    · exact .inr (by simp [e])
    · exact hx.imp (fun hx => mem_without.2 ⟨hx, e⟩) (List.mem_append_left _)) (fun x hx => (mem_without.1 hx).1)
theorem Wh.moved2 {H S : List (List UInt8)} {fs : FS} {D : List UInt8} (h : Wh (withoutOf H D) (withoutOf S D) fs) : Wh (withoutOf H D) (S ++ [D]) fs :=
  h.mono (fun x hx => hx.imp id (fun hx => List.mem_append_left _ (mem_without.1 hx).1)) (fun x hx => hx)
theorem without_none {H : List (List UInt8)} {D : List UInt8} (h : ¬ D ∈ H) : withoutOf H D = H := List.filter_eq_self.2 (fun x hx => by simp; exact fun e => h (e ▸ hx))
theorem BI.delete {H S : List (List UInt8)} {m : DM} {n : Nat} (h : BI H S m n) {D : List UInt8} (hD : D.length = 32) :
    ((bDeleteOf m D).1 = 0 ∧ BI (withoutOf H D) (withoutOf S D) (bDeleteOf m D).2 (n + 2)) ∨ ((bDeleteOf m D).1 = 5 ∧ BI (withoutOf H D) (S ++ [D]) (bDeleteOf m D).2 (n + 2) ∧ (¬ D ∈ H → BI H S (bDeleteOf m D).2 (n + 2))) ∨ ((bDeleteOf m D).1 = 6 ∧ BI H S (bDeleteOf m D).2 (n + 2)) := by
  have ht1 := TidyB.remove h.tidy (fileOf D)
  have ht2 := TidyB.sync ht1
  have hH' := h.h32.without D
  have hS' : Len32 (S ++ [D]) := h.s32.snoc hD
  unfold bDeleteOf
  rcases h.st with ⟨hd, hw, hi⟩ | ⟨hd, hi⟩
  · have hup : BUp (Tm m.now) m n := ⟨h.tidy.good, hd, hi⟩
    have hth0 := hup.there (fileOf D)
    cases hg : fget m.now (fileOf D) with
    | none =>
      have hth : thereOf m (fileOf D) = 6 := by rw [hth0, hg]; rfl
      have hr : removeOf m (fileOf D) = (6, m) := by unfold removeOf; rw [hth]; rfl
      rw [hr, if_neg (show ¬ (6 : Int) = 0 by decide)]
      exact .inr (.inr ⟨rfl, h.mono (Nat.le_add_right _ _)⟩)
    | some b =>
      have hth : thereOf m (fileOf D) = 0 := by rw [hth0, hg]; rfl
      have hr : removeOf m (fileOf D) = doesOf m ⟨2, fileOf D, ⟨#[]⟩, []⟩ := by unfold removeOf; rw [hth]; rfl
      have hdo : doCh m.now ⟨2, fileOf D, ⟨#[]⟩, []⟩ = fdel m.now (fileOf D) := by simp [doCh]
      have hdel : Wh (withoutOf H D) (withoutOf S D) (fdel m.now (fileOf D)) := hw.del h.h32 hD (hw.1.fdel _) (fun x _ h2 => fget_fdel_other _ _ _ (Ne.symm h2)) (fget_fdel_same _ _)
      have hno : ¬ D ∈ H → Wh H S (fdel m.now (fileOf D)) := fun hn => by
        have := hdel
        rw [without_none hn] at this
        exact this.mono (fun x hx => hx.imp id (fun hx => (mem_without.1 hx).1)) (fun x hx => hx)
      -- what a crash may leave behind the removal
      have hP : BUp (fun fs => Tm m.now fs ∨ fs = fdel m.now (fileOf D)) m n := hup.mono (fun _ h => .inl h) (Nat.le_refl _)
      rcases hP.step ⟨2, fileOf D, ⟨#[]⟩, []⟩ hr (h.tidy.good.remove _) (fun _ => .inr hdo) (fun e => by simp at e) with ⟨e1, e2, e3, _⟩ | ⟨e1, e2, _⟩
      · rw [if_pos e1]
        rw [hdo] at e3
        generalize (removeOf m (fileOf D)).2 = m1 at ht1 ht2 e2 e3
        rcases e2.sync (Q := fun fs => fs = fdel m.now (fileOf D)) e3 with ⟨f1, f2, f3, _⟩ | ⟨f1, f2, _⟩
        · refine .inl ⟨f1, ht2, hH', h.s32.without D, .inl ⟨f2.down, by rw [f3, e3]; exact hdel, f2.img.mono (fun fs hf => ?_)⟩⟩
          rw [hf, f3, e3]
          exact Tm.self (hw.1.fdel _)
        · refine .inr (.inl ⟨f1, ⟨ht2, hH', hS', .inr ⟨f2.down, f2.img.mono (fun fs hf => ?_)⟩⟩, fun hn => ⟨ht2, h.h32, h.s32, .inr ⟨f2.down, f2.img.mono (fun fs hf => ?_)⟩⟩⟩)
          · rcases hf with hf | rfl
            · exact (hw.tm h.h32 hf).moved
            · exact hdel.moved2
          · rcases hf with hf | rfl
            · exact hw.tm h.h32 hf
            · exact hno hn
      · rw [if_neg (by rw [e1]; omega)]
        have ht1' := ht1.mono (Nat.le_succ _) (Nat.le_succ _)
        refine .inr (.inl ⟨e1, ⟨ht1', hH', hS', .inr ⟨e2.down, e2.img.mono (fun fs hf => ?_)⟩⟩, fun hn => ⟨ht1', h.h32, h.s32, .inr ⟨e2.down, e2.img.mono (fun fs hf => ?_)⟩⟩⟩)
        · rcases hf with hf | rfl
          · exact (hw.tm h.h32 hf).moved
          · exact hdel.moved2
        · rcases hf with hf | rfl
          · exact hw.tm h.h32 hf
          · exact hno hn
  · have hth : thereOf m (fileOf D) = 5 := by unfold thereOf; rw [hd]; rfl
    have hr : removeOf m (fileOf D) = (5, m) := by unfold removeOf; rw [hth]; rfl
    rw [hr, if_neg (show ¬ (5 : Int) = 0 by decide)]
    have hk : Tidy m (n + 2) (n + 2) := h.tidy.mono (Nat.le_add_right _ _) (Nat.le_add_right _ _)
    exact .inr (.inl ⟨rfl, ⟨hk, hH', hS', .inr ⟨hd, hi.mono (fun fs hf => hf.moved)⟩⟩, fun _ => h.mono (Nat.le_add_right _ _)⟩)
theorem BI.fuse {H S : List (List UInt8)} {m : DM} {n : Nat} (h : BI H S m n) (k : Int) (hk : k ≤ 9223372036854775807) : BI H S (fuseOf m k).2 n := by
  have ht := h.tidy.setFuse k hk
  refine ⟨ht, h.h32, h.s32, ?_⟩
  unfold fuseOf
  split
  · exact h.st
  · rcases h.st with ⟨hd, hw, hi⟩ | ⟨hd, hi⟩
    · exact .inl ⟨hd, hw, hi.same rfl rfl⟩
    · exact .inr ⟨hd, hi.same rfl rfl⟩
theorem BI.crash {H S : List (List UInt8)} {m : DM} {n : Nat} (h : BI H S m n) (keep part : Int) : BI H S (crashOf m keep part) n := by
  have hw := h.img keep part
  exact ⟨(h.tidy.crash keep part).mono (Nat.zero_le _) (Nat.le_refl _), h.h32, h.s32, .inl ⟨rfl, hw, Img.one rfl (Tm.self hw.1)⟩⟩
/-- New: OK where the fuse does not burn. -/
theorem BI.new {H S : List (List UInt8)} {m : DM} {n : Nat} (h : BI H S m n) : BI H S (bNewOf m).2 (n + 2) ∧ (m.down = false → m.fuse = -1 → (bNewOf m).1 = 0 ∧ (bNewOf m).2.down = false) := by
  have ht1 := TidyB.remove h.tidy tmpB
  have ht2 := TidyB.sync ht1
  have hk := h.mono (Nat.le_add_right n 2)
  unfold bNewOf
  rcases h.st with ⟨hd, hw, hi⟩ | ⟨hd, hi⟩
  · have hup : BUp (Tm m.now) m n := ⟨h.tidy.good, hd, hi⟩
    have hth0 := hup.there tmpB
    cases hg : fget m.now tmpB with
    | none =>
      have hth : thereOf m tmpB = 6 := by rw [hth0, hg]; rfl
      rw [hth, if_pos rfl]
      exact ⟨hk, fun _ _ => ⟨rfl, hd⟩⟩
    | some b =>
      have hth : thereOf m tmpB = 0 := by rw [hth0, hg]; rfl
      have hr : removeOf m tmpB = doesOf m ⟨2, tmpB, ⟨#[]⟩, []⟩ := by unfold removeOf; rw [hth]; rfl
      have hdo : doCh m.now ⟨2, tmpB, ⟨#[]⟩, []⟩ = fdel m.now tmpB := by simp [doCh]
      have hs := hup.step ⟨2, tmpB, ⟨#[]⟩, []⟩ hr (h.tidy.good.remove tmpB) (fun _ => by rw [hdo]; exact hup.now.del) (fun e => by simp at e)
      have hcalm : m.down = false → m.fuse = -1 → (removeOf m tmpB).1 = 0 ∧ (removeOf m tmpB).2.fuse = -1 := fun _ hf => by
        rw [hr]
        unfold doesOf
        rw [if_neg (by omega)]
        refine ⟨rfl, ?_⟩
        simp only [spendOf]
        rw [if_neg (by omega), if_neg (by omega)]
        exact hf
      rw [hth, if_neg (by decide), if_pos rfl]
      rcases hs with ⟨e1, e2, e3, _⟩ | ⟨e1, e2, _⟩
      · rw [if_pos e1]
        generalize removeOf m tmpB = r at ht1 ht2 e1 e2 e3 hcalm
        refine ⟨?_, fun hd' hf => ?_⟩
        · rcases e2.sync (Q := Tm m.now) e2.now with ⟨f1, f2, f3, _⟩ | ⟨f1, f2, _⟩
          · exact BI.ofUp ht2 h.h32 h.s32 hw f2
          · exact BI.ofDn ht2 h.h32 h.s32 (f2.mono (fun fs hf => hw.tm h.h32 hf) (Nat.le_refl _))
        · have hfz := (hcalm hd' hf).2
          unfold syncOf
          rw [e2.down, if_neg (by decide), if_neg (by omega)]
          refine ⟨rfl, ?_⟩
          simp only [synced, spendOf]
          rw [if_neg (by omega), if_neg (by omega)]
          exact e2.down
      · rw [if_neg (by rw [e1]; omega)]
        refine ⟨BI.ofDn (ht1.mono (Nat.le_succ _) (Nat.le_succ _)) h.h32 h.s32 (e2.mono (fun fs hf => hw.tm h.h32 hf) (Nat.le_refl _)), fun hd' hf => ?_⟩
        have := (hcalm hd' hf).1
        omega
  · have hth : thereOf m tmpB = 5 := by unfold thereOf; rw [hd]; rfl
    rw [hth, if_neg (by decide), if_neg (by decide)]
    exact ⟨hk, fun hd' => by rw [hd] at hd'; cases hd'⟩
/-! ### What is told -/
theorem begins_file (x : List UInt8) : beginsB (fileOf x) ⟨#[98, 47]⟩ = true := by
  have h1 : (2 : Int) ≤ ((fileOf x).size : Int) := by
    unfold fileOf
    rw [ByteArray.size_append]
    have : (⟨#[98, 47]⟩ : ByteArray).size = 2 := rfl
    omega
  unfold beginsB
  rw [show ((⟨#[98, 47]⟩ : ByteArray).size : Int) = 2 from rfl, decide_eq_true h1, Bool.true_and]
  have h2 : ((fileOf x).extract 0 (⟨#[98, 47]⟩ : ByteArray).size) = ⟨#[98, 47]⟩ := by
    unfold fileOf
    exact ByteArray.extract_append_eq_left rfl
  rw [h2]
  exact beq_self_eq_true _
theorem begins_tmp : beginsB tmpB ⟨#[98, 47]⟩ = false := by decide +kernel
/-- The sums that are told, and what holds of them. -/
theorem BI.told {H S : List (List UInt8)} {m : DM} {n : Nat} (h : BI H S m n) (hd : m.down = false) :
    ∃ L : List (List UInt8), Len32 L ∧ namesOf m.now ⟨#[98, 47]⟩ = L.map fileOf ∧ (∀ x ∈ L, wholeOf m x = true ∧ (x ∈ H ∨ x ∈ S)) ∧ ∀ x ∈ H, x ∈ L := by
  have hw : Wh H S m.now := by
    rcases h.st with ⟨_, hw, _⟩ | ⟨hd', _⟩
    · exact hw
    · rw [hd] at hd'; cases hd'
  have key : ∀ l : List ByteArray, (∀ s ∈ l, ∃ x : List UInt8, x.length = 32 ∧ s = fileOf x) → ∃ L : List (List UInt8), Len32 L ∧ l = L.map fileOf := by
    intro l
    induction l with
    | nil => intro _; exact ⟨[], (fun x hx => by cases hx), rfl⟩
    | cons s l ih =>
      intro hl
      obtain ⟨x, hx, rfl⟩ := hl s (List.mem_cons_self ..)
      obtain ⟨L, hL, rfl⟩ := ih (fun s hs => hl s (List.mem_cons_of_mem _ hs))
      exact ⟨x :: L, fun y hy => by
        rcases List.mem_cons.1 hy with rfl | hy
        · exact hx
        · exact hL y hy, rfl⟩
  have hmem : ∀ s, s ∈ namesOf m.now ⟨#[98, 47]⟩ ↔ ∃ b, fget m.now s = some b ∧ beginsB s ⟨#[98, 47]⟩ = true := fun s => by
    unfold namesOf
    simp only [List.mem_map, List.mem_filter]
    constructor
    · rintro ⟨⟨a, b⟩, ⟨h1, h2⟩, rfl⟩
      exact ⟨b, fget_mem hw.1 h1, h2⟩
    · rintro ⟨b, h1, h2⟩
      exact ⟨(s, b), ⟨mem_of_fget h1, h2⟩, rfl⟩
  obtain ⟨L, hL, hE⟩ := key (namesOf m.now ⟨#[98, 47]⟩) (fun s hs => by
    obtain ⟨b, h1, h2⟩ := (hmem s).1 hs
    rcases hw.2.1 s b h1 with rfl | ⟨x, a1, a2, _⟩
    · rw [begins_tmp] at h2; cases h2
    · exact ⟨x, a1, a2⟩)
  refine ⟨L, hL, hE, fun x hx => ?_, fun x hx => ?_⟩
  · have hs : fileOf x ∈ namesOf m.now ⟨#[98, 47]⟩ := by rw [hE]; exact List.mem_map_of_mem hx
    obtain ⟨b, h1, h2⟩ := (hmem _).1 hs
    rcases hw.2.1 _ b h1 with e | ⟨y, a1, a2, a3, a4⟩
    · exact absurd e.symm (tmp_ne x (hL x hx))
    · obtain rfl := fileOf_inj (hL x hx) a1 a2
      refine ⟨?_, a4⟩
      unfold wholeOf thereOf contOf
      rw [hd, h1]
      simp [a3]
  · have h1 := hw.2.2 x hx
    obtain ⟨b, hb⟩ := Option.isSome_iff_exists.1 h1
    have hs := (hmem (fileOf x)).2 ⟨b, hb, begins_file x⟩
    rw [hE] at hs
    obtain ⟨y, hy, e⟩ := List.mem_map.1 hs
    rw [← fileOf_inj (hL y hy) (h.h32 x hx) e]
    exact hy
end Go.Proofs.Ytlinkpjneehnbaa
