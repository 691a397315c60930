/- What holds of every disk that the program makes: its files never take more than its room, now and at each change that does not last yet. Plain. -/
import Derived.Test.YtlinkpjneehnbaaSync
import Derived.Test.YtlinkpjneehnbaaFiles
namespace Go.Proofs.Ytlinkpjneehnbaa
open Go.RowKit Go.MapKept

theorem FNodup.nil : FNodup [] := by simp [FNodup]
theorem FNodup.doCh {fs : FS} (h : FNodup fs) (c : Ch) : FNodup (doCh fs c) := by
  unfold Go.Proofs.Ytlinkpjneehnbaa.doCh
  split
  · exact h.fput _ _
  · split
    · exact h.fput _ _
    · split
      · exact h.fdel _
      · split
        · split
          · exact h.fput _ _
          · exact (h.fput _ _).fdel _
        · exact h
theorem FNodup.fold : ∀ (l : List Ch) {fs : FS}, FNodup fs → FNodup (l.foldl Go.Proofs.Ytlinkpjneehnbaa.doCh fs)
  | [], _, h => h
  | c :: l, _, h => FNodup.fold l (h.doCh c)

theorem used_create {fs : FS} (h : FNodup fs) (n : ByteArray) : used (fput fs n []) ≤ used fs := by
  have := used_fput h n []
  simp only [List.length_nil] at this
  omega
theorem used_remove {fs : FS} (h : FNodup fs) (n : ByteArray) : used (fdel fs n) ≤ used fs := by
  have := used_fdel h n
  omega
theorem used_rename {fs : FS} (h : FNodup fs) (a b : ByteArray) (hab : a ≠ b) : used (fdel (fput fs b ((fget fs a).getD [])) a) ≤ used fs := by
  have h1 := used_fput h b ((fget fs a).getD [])
  have h2 := used_fdel (h.fput b ((fget fs a).getD [])) a
  rw [fget_fput_other h _ _ _ (Ne.symm hab)] at h2
  omega
theorem used_same {fs : FS} (h : FNodup fs) (b : ByteArray) : used (fput fs b ((fget fs b).getD [])) ≤ used fs := by
  have h1 := used_fput h b ((fget fs b).getD [])
  omega
theorem used_append {fs : FS} (h : FNodup fs) (n : ByteArray) (p : List UInt8) : used (fput fs n ((fget fs n).getD [] ++ p)) = used fs + p.length := by
  have h1 := used_fput h n ((fget fs n).getD [] ++ p)
  rw [List.length_append] at h1
  omega
/-- A change that appends nothing never makes the files longer. -/
theorem used_doCh {fs : FS} (h : FNodup fs) (c : Ch) (hk : c.kind ≠ 1) : used (doCh fs c) ≤ used fs := by
  unfold doCh
  rw [if_neg hk]
  split
  · exact used_create h _
  · split
    · exact used_remove h _
    · split
      · split
        · rename_i e; rw [e]; exact used_same h _
        · rename_i e; exact used_rename h _ _ e
      · exact Nat.le_refl _
theorem used_doCh1 {fs : FS} (h : FNodup fs) (c : Ch) (hk : c.kind = 1) : used (doCh fs c) = used fs + c.p.length := by
  unfold doCh
  rw [if_neg (by omega), if_pos hk]
  exact used_append h _ _

structure Good (m : DM) (n : Nat) : Prop where
  room0 : 0 ≤ m.room
  room1 : m.room ≤ 67108864
  fuse0 : -1 ≤ m.fuse
  fuse : m.fuse ≤ 9223372036854775807
  len : m.loose.length ≤ n
  nsure : FNodup m.sure
  now : m.now = m.loose.foldl doCh m.sure
  used : ∀ k, (used ((m.loose.take k).foldl doCh m.sure) : Int) ≤ m.room
  kinds : ∀ c ∈ m.loose, (0 ≤ c.kind ∧ c.kind ≤ 3) ∧ c.p.length ≤ 1048576

theorem Good.nnow {m : DM} {n : Nat} (h : Good m n) : FNodup m.now := by rw [h.now]; exact FNodup.fold _ h.nsure
theorem Good.unow {m : DM} {n : Nat} (h : Good m n) : (Go.Proofs.Ytlinkpjneehnbaa.used m.now : Int) ≤ m.room := by
  have := h.used m.loose.length
  rw [List.take_length, ← h.now] at this
  exact this
theorem Good.get {m : DM} {n : Nat} (h : Good m n) (f : ByteArray) : ((fget m.now f).getD []).length ≤ 67108864 := by
  have h1 := used_get h.nnow f
  have h2 := h.unow
  have h3 := h.room1
  omega
theorem Good.mono {m : DM} {n k : Nat} (h : Good m n) (hk : n ≤ k) : Good m k := ⟨h.room0, h.room1, h.fuse0, h.fuse, Nat.le_trans h.len hk, h.nsure, h.now, h.used, h.kinds⟩
theorem Good.fits {m : DM} {n : Nat} (h : Good m n) : ∀ k c, m.loose[k]? = some c → Fits ((m.loose.take k).foldl doCh m.sure) c ∧ ∀ j, Fits ((m.loose.take k).foldl doCh m.sure) { c with p := c.p.take j } := by
  intro k c hc
  obtain ⟨h1, h2⟩ := h.kinds c (List.mem_of_getElem? hc)
  have h3 := h.used k
  have h4 := used_get (FNodup.fold (m.loose.take k) h.nsure) c.a
  have h5 := h.room1
  refine ⟨⟨h1, fun _ => by omega⟩, fun j => ⟨h1, fun _ => ?_⟩⟩
  have : (c.p.take j).length ≤ c.p.length := List.length_take_le' _ _
  simp only
  omega
theorem Good.fits1 {m : DM} {n : Nat} (h : Good m n) : ∀ k c, m.loose[k]? = some c → Fits ((m.loose.take k).foldl doCh m.sure) c := fun k c hc => (h.fits k c hc).1

theorem Good.new {room : Int} (h0 : 0 ≤ room) (h1 : room ≤ 67108864) : Good (newOf room) 0 :=
  ⟨h0, h1, by simp [newOf], by simp [newOf], Nat.le_refl _, FNodup.nil, rfl, fun k => by simp [newOf, Go.Proofs.Ytlinkpjneehnbaa.used]; exact h0, fun c hc => by simp [newOf] at hc⟩
/-- Another fuse, or no power. -/
theorem Good.turn {m : DM} {n : Nat} (h : Good m n) {f : Int} (hf0 : -1 ≤ f) (hf : f ≤ 9223372036854775807) (b : Bool) : Good { m with fuse := f, down := b } n := ⟨h.room0, h.room1, hf0, hf, h.len, h.nsure, h.now, h.used, h.kinds⟩
theorem spend_fuse {m : DM} {n : Nat} (h : Good m n) : -1 ≤ (spendOf m).2.fuse ∧ (spendOf m).2.fuse ≤ 9223372036854775807 := by
  have h1 := h.fuse
  have h2 := h.fuse0
  unfold spendOf
  split
  · exact ⟨h2, h1⟩
  · split
    · simp only; omega
    · exact ⟨h2, h1⟩
theorem Good.does {m : DM} {n : Nat} (h : Good m n) (c : Ch) (hk : 0 ≤ c.kind ∧ c.kind ≤ 3) (hp : c.p.length ≤ 1048576) (hu : c.kind = 1 → (Go.Proofs.Ytlinkpjneehnbaa.used m.now : Int) + (c.p.length : Int) ≤ m.room) : Good (doesOf m c).2 (n + 1) := by
  unfold doesOf
  split
  · exact (h.turn h.fuse0 h.fuse true).mono (Nat.le_succ _)
  · obtain ⟨e1, e2, e3, e4⟩ := spend_same (m := m)
    obtain ⟨f1, f2⟩ := spend_fuse h
    have hn : doCh m.now c = (m.loose ++ [c]).foldl doCh m.sure := by rw [List.foldl_append, ← h.now]; rfl
    have hun : (Go.Proofs.Ytlinkpjneehnbaa.used (doCh m.now c) : Int) ≤ m.room := by
      by_cases h1 : c.kind = 1
      · rw [used_doCh1 h.nnow c h1]; have := hu h1; omega
      · have := used_doCh h.nnow c h1; have := h.unow; omega
    refine ⟨by rw [e4]; exact h.room0, by rw [e4]; exact h.room1, f1, f2, by simp; exact h.len, by rw [e2]; exact h.nsure, by rw [e2]; exact hn, fun k => ?_, fun c' hc' => ?_⟩
    · rw [e2, e4]
      simp only
      by_cases hkl : k ≤ m.loose.length
      · rw [List.take_append_of_le_length hkl]; exact h.used k
      · rw [List.take_of_length_le (by simp; omega), ← hn]; exact hun
    · simp only [List.mem_append, List.mem_singleton] at hc'
      rcases hc' with hc' | rfl
      · exact h.kinds c' hc'
      · exact ⟨hk, hp⟩
theorem Good.create {m : DM} {n : Nat} (h : Good m n) (f : ByteArray) : Good (createOf m f).2 (n + 1) := by
  have h' := h.mono (Nat.le_succ n)
  unfold createOf
  split
  · exact h'
  · split
    · exact h'
    · split
      · exact h'
      · split
        · exact h'
        · exact h.does _ ⟨by simp, by simp⟩ (by simp) (by simp)
theorem Good.remove {m : DM} {n : Nat} (h : Good m n) (f : ByteArray) : Good (removeOf m f).2 (n + 1) := by
  have h' := h.mono (Nat.le_succ n)
  unfold removeOf
  split
  · exact h.does _ ⟨by simp, by simp⟩ (by simp) (by simp)
  · exact h'
theorem Good.append {m : DM} {n : Nat} (h : Good m n) (f : ByteArray) (p : List UInt8) : Good (appendOf m f p).2 (n + 1) := by
  have h' := h.mono (Nat.le_succ n)
  unfold appendOf
  split
  · split
    · exact h'
    · split
      · exact h'
      · exact h.does _ ⟨by simp, by simp⟩ (by simp only; omega) (by simp only; omega)
  · exact h'
theorem Good.rename {m : DM} {n : Nat} (h : Good m n) (f g : ByteArray) : Good (renameOf m f g).2 (n + 1) := by
  have h' := h.mono (Nat.le_succ n)
  unfold renameOf
  split
  · split
    · exact h'
    · exact h.does _ ⟨by simp, by simp⟩ (by simp) (by simp)
  · exact h'
theorem Good.sync {m : DM} {n : Nat} (h : Good m n) : Good (syncOf m).2 n := by
  unfold syncOf
  split
  · exact h
  · split
    · exact h.turn h.fuse0 h.fuse true
    · obtain ⟨e1, e2, e3, e4⟩ := spend_same (m := m)
      obtain ⟨f1, f2⟩ := spend_fuse h
      unfold synced
      refine ⟨by rw [e4]; exact h.room0, by rw [e4]; exact h.room1, f1, f2, Nat.zero_le _, FNodup.fold _ h.nsure, by rw [e1]; exact h.now, fun k => ?_, fun c hc => by simp at hc⟩
      simp only [List.take_nil, List.foldl_nil]
      rw [← h.now, e4]
      exact h.unow
theorem Good.setFuse {m : DM} {n : Nat} (h : Good m n) (k : Int) (hk : k ≤ 9223372036854775807) : Good (fuseOf m k).2 n := by
  unfold fuseOf
  split
  · exact h
  · simp only
    split
    · exact h.turn (b := m.down) (by omega) (by omega)
    · exact h.turn (b := m.down) (by omega) hk
theorem crash_used {m : DM} {n : Nat} (h : Good m n) (keep part : Int) : FNodup (crashFs m keep part) ∧ (Go.Proofs.Ytlinkpjneehnbaa.used (crashFs m keep part) : Int) ≤ m.room := by
  unfold crashFs
  have h1 := FNodup.fold (m.loose.take (clampI keep m.loose.length)) h.nsure
  have h2 := h.used (clampI keep m.loose.length)
  simp only
  cases hc : m.loose[clampI keep m.loose.length]? with
  | none => exact ⟨h1, h2⟩
  | some c =>
    simp only
    split
    · rename_i hk
      refine ⟨h1.doCh _, ?_⟩
      have h3 := h.used (clampI keep m.loose.length + 1)
      rw [List.take_add_one, hc, List.foldl_append] at h3
      simp only [Option.toList_some, List.foldl_cons, List.foldl_nil] at h3
      rw [used_doCh1 h1 c hk] at h3
      have h5 := used_doCh1 h1 ({ c with p := c.p.take (clampI part c.p.length) } : Ch) hk
      have h6 : (c.p.take (clampI part c.p.length)).length ≤ c.p.length := List.length_take_le' _ _
      simp only at h5
      rw [h5]
      omega
    · exact ⟨h1, h2⟩
theorem Good.crash {m : DM} {n : Nat} (h : Good m n) (keep part : Int) : Good (crashOf m keep part) 0 := by
  obtain ⟨h1, h2⟩ := crash_used h keep part
  exact ⟨h.room0, h.room1, by simp [crashOf, crashed], by simp [crashOf, crashed], Nat.le_refl _, h1, rfl, fun k => by simpa [crashOf, crashed] using h2, fun c hc => by simp [crashOf, crashed] at hc⟩
theorem Good.loose {m : DM} {n : Nat} (h : Good m n) (hn : n < 1099511627776) : m.loose.length < 1099511627776 := Nat.lt_of_le_of_lt h.len hn
end Go.Proofs.Ytlinkpjneehnbaa
