/- Plain laws of files: what is got behind a put or a removal, and how many bytes there are. -/
import Derived.Test.YtlinkpjneehnbaaCrashB
namespace Go.Proofs.Ytlinkpjneehnbaa
open Go.RowKit Go.MapKept

theorem fget_perm {l fs : FS} (hp : l.Perm fs) (hn : FNodup fs) (n : ByteArray) : fget l n = fget fs n := by
  have hnl : FNodup l := (hp.map (fun q : ByteArray × List UInt8 => q.1)).nodup_iff.2 hn
  cases h : fget fs n with
  | some x => exact fget_mem hnl (hp.mem_iff.2 (mem_of_fget h))
  | none =>
    cases h' : fget l n with
    | none => rfl
    | some x => rw [fget_mem hn (hp.mem_iff.1 (mem_of_fget h'))] at h; cases h
theorem fget_cons_same (fs : FS) (n : ByteArray) (x : List UInt8) : fget ((n, x) :: fs) n = some x := by simp [fget]
theorem fget_cons_other (fs : FS) (n k : ByteArray) (x : List UInt8) (h : n ≠ k) : fget ((n, x) :: fs) k = fget fs k := by
  unfold fget
  rw [List.find?_cons]
  have : decide (n = k) = false := by simpa using h
  simp [this]
theorem fget_fdel_same (fs : FS) (n : ByteArray) : fget (fdel fs n) n = none := fget_none (fdel_not_mem fs n)
theorem fget_fdel_other (fs : FS) (n k : ByteArray) (h : n ≠ k) : fget (fdel fs n) k = fget fs k := by
  induction fs with
  | nil => rfl
  | cons p fs ih =>
    obtain ⟨a, x⟩ := p
    by_cases ha : a = n
    · subst ha
      rw [fget_cons_other _ _ _ _ h]
      simpa [fdel] using ih
    · have e : fdel ((a, x) :: fs) n = (a, x) :: fdel fs n := by simp [fdel, ha]
      rw [e]
      by_cases hk : a = k
      · subst hk; rw [fget_cons_same, fget_cons_same]
      · rw [fget_cons_other _ _ _ _ hk, fget_cons_other _ _ _ _ hk, ih]
theorem fget_fput_same {fs : FS} (hn : FNodup fs) (n : ByteArray) (x : List UInt8) : fget (fput fs n x) n = some x := by
  exact (fget_perm (fins_perm (n, x) (fdel fs n)).symm (hn.fput n x) n).symm.trans (fget_cons_same _ _ _)
theorem fget_fput_other {fs : FS} (hn : FNodup fs) (n k : ByteArray) (x : List UInt8) (h : n ≠ k) : fget (fput fs n x) k = fget fs k := by
  exact (fget_perm (fins_perm (n, x) (fdel fs n)).symm (hn.fput n x) k).symm.trans ((fget_cons_other _ _ _ _ h).trans (fget_fdel_other _ _ _ h))

theorem used_fdel : ∀ {fs : FS} (_ : FNodup fs) (n : ByteArray), used (fdel fs n) + ((fget fs n).getD []).length = used fs
  | [], _, _ => rfl
  | (a, x) :: fs, h, n => by
    have h' : a ∉ fs.map (·.1) ∧ (fs.map (·.1)).Nodup := List.nodup_cons.1 h
    by_cases ha : a = n
    · subst ha
      have e : fdel ((a, x) :: fs) a = fs := by
        have : fdel ((a, x) :: fs) a = fdel fs a := by simp [fdel]
        rw [this, fdel_absent h'.1]
      rw [e, fget_cons_same]
      simp [used]; omega
    · have e : fdel ((a, x) :: fs) n = (a, x) :: fdel fs n := by simp [fdel, ha]
      have ih := used_fdel (fs := fs) h'.2 n
      rw [e, fget_cons_other _ _ _ _ ha]
      simp only [used]
      omega
theorem used_fput {fs : FS} (hn : FNodup fs) (n : ByteArray) (x : List UInt8) : used (fput fs n x) + ((fget fs n).getD []).length = used fs + x.length := by
  have h1 := used_perm (fins_perm (n, x) (fdel fs n))
  have h2 := used_fdel hn n
  unfold fput
  rw [h1]
  simp only [used]
  omega
theorem used_get {fs : FS} (hn : FNodup fs) (n : ByteArray) : ((fget fs n).getD []).length ≤ used fs := by
  have := used_fdel hn n
  omega
theorem length_fput {fs : FS} (n : ByteArray) (x : List UInt8) : (fput fs n x).length = (fdel fs n).length + 1 := by
  unfold fput
  rw [(fins_perm (n, x) (fdel fs n)).length_eq]; rfl
theorem DiskIs.nodup {F : Nat → Prop} {w : World} {d : Nat} {m : DM} (h : DiskIs F w d m) : FNodup m.now := by
  obtain ⟨bn, bs, vl, h⟩ := h
  exact h.now.nodup

/-- A disk with power and without a fuse. -/
structure Calm (m : DM) : Prop where
  down : m.down = false
  fuse : m.fuse = -1
theorem Calm.does {m : DM} (h : Calm m) (c : Ch) : doesOf m c = (0, { m with now := doCh m.now c, loose := m.loose ++ [c] }) := by
  have hf := h.fuse
  simp [doesOf, spendOf, hf]
theorem Calm.there {m : DM} (h : Calm m) {n : ByteArray} (hg : (fget m.now n).isSome = true) : thereOf m n = 0 := by
  simp [thereOf, h.down, hg]
theorem Calm.create {m : DM} (h : Calm m) {n : ByteArray} (hn : isName n = true) (hg : fget m.now n = none) (hl : (m.now.length : Int) < 4096) :
    createOf m n = (0, { m with now := fput m.now n [], loose := m.loose ++ [⟨0, n, ⟨#[]⟩, []⟩] }) := by
  have hl' : ¬ ((4096 : Int) ≤ (m.now.length : Int)) := by omega
  unfold createOf
  rw [h.does]
  simp only [h.down, hn, hg, hl', Bool.false_eq_true, if_false, Bool.not_true, Option.isSome_none, decide_false]
  simp [doCh]
theorem Calm.append {m : DM} (h : Calm m) {n : ByteArray} (hg : (fget m.now n).isSome = true) (p : List UInt8) (hp : (p.length : Int) ≤ 1048576) :
    appendOf m n p = if m.room - (used m.now : Int) < (p.length : Int) then (4, m) else (0, { m with now := fput m.now n ((fget m.now n).getD [] ++ p), loose := m.loose ++ [⟨1, n, ⟨#[]⟩, p⟩] }) := by
  have hp' : ¬ ((1048576 : Int) < (p.length : Int)) := by omega
  unfold appendOf
  rw [h.there hg, h.does]
  simp only [if_true, hp', if_false]
  simp [doCh]
theorem Calm.remove {m : DM} (h : Calm m) {n : ByteArray} (hg : (fget m.now n).isSome = true) :
    removeOf m n = (0, { m with now := fdel m.now n, loose := m.loose ++ [⟨2, n, ⟨#[]⟩, []⟩] }) := by
  unfold removeOf
  rw [h.there hg, h.does]
  simp [doCh]
end Go.Proofs.Ytlinkpjneehnbaa
