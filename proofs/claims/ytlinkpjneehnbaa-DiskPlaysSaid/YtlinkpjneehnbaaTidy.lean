/- What holds of every disk whose steps the document's disk does too: names in order, none too long, changes that may be done. Plain. -/
import Derived.Test.YtlinkpjneehnbaaRMay
namespace Go.Proofs.Ytlinkpjneehnbaa
set_option linter.unusedVariables false
open Go.RowKit Go.MapKept

theorem length_fins (fs : FS) (f : ByteArray × List UInt8) : (fins fs f).length = fs.length + 1 := by
  rw [(fins_perm f fs).length_eq]; rfl
theorem length_doCh (fs : FS) (c : Ch) : (doCh fs c).length ≤ fs.length + 1 := by
  have h1 : ∀ n b, (fput fs n b).length ≤ fs.length + 1 := fun n b => by
    unfold fput
    rw [length_fins]
    have : (fdel fs n).length ≤ fs.length := List.length_filter_le _ _
    omega
  have h2 : ∀ l n, (fdel l n).length ≤ l.length := fun l n => List.length_filter_le _ _
  unfold doCh
  split
  · exact h1 _ _
  · split
    · exact h1 _ _
    · split
      · exact Nat.le_trans (h2 _ _) (Nat.le_succ _)
      · split
        · split
          · exact h1 _ _
          · exact Nat.le_trans (h2 _ _) (h1 _ _)
        · exact Nat.le_succ _
theorem length_fold : ∀ (l : List Ch) (fs : FS), (l.foldl doCh fs).length ≤ fs.length + l.length
  | [], fs => Nat.le_refl _
  | c :: l, fs => by
    have h1 := length_fold l (doCh fs c)
    have h2 := length_doCh fs c
    rw [List.foldl_cons, List.length_cons]
    omega
/-- No name is too long. -/
def NamesOk (fs : FS) : Prop := ∀ p ∈ fs, p.1.size ≤ 160
theorem NamesOk.fdel {fs : FS} (h : NamesOk fs) (n : ByteArray) : NamesOk (fdel fs n) := fun p hp => h p (List.mem_filter.1 hp).1
theorem NamesOk.fput {fs : FS} (h : NamesOk fs) (n : ByteArray) (b : List UInt8) (hn : n.size ≤ 160) : NamesOk (fput fs n b) := fun p hp => by
  rcases List.mem_cons.1 ((fins_perm (n, b) (Go.Proofs.Ytlinkpjneehnbaa.fdel fs n)).mem_iff.1 hp) with rfl | hp
  · exact hn
  · exact h.fdel n p hp
def ChOk (c : Ch) : Prop := c.a.size ≤ 160 ∧ c.b.size ≤ 160
theorem NamesOk.doCh {fs : FS} (h : NamesOk fs) {c : Ch} (hc : ChOk c) : NamesOk (doCh fs c) := by
  unfold Go.Proofs.Ytlinkpjneehnbaa.doCh
  split
  · exact h.fput _ _ hc.1
  · split
    · exact h.fput _ _ hc.1
    · split
      · exact h.fdel _
      · split
        · split
          · exact h.fput _ _ hc.2
          · exact (h.fput _ _ hc.2).fdel _
        · exact h
theorem NamesOk.fold : ∀ (l : List Ch) {fs : FS}, NamesOk fs → (∀ c ∈ l, ChOk c) → NamesOk (l.foldl Go.Proofs.Ytlinkpjneehnbaa.doCh fs)
  | [], _, h, _ => h
  | c :: l, _, h, hl => NamesOk.fold l (h.doCh (hl c (List.mem_cons_self ..))) (fun x hx => hl x (List.mem_cons_of_mem _ hx))

structure Tidy (m : DM) (n t : Nat) : Prop where
  good : Good m n
  ssure : FSorted m.sure
  len : m.sure.length + m.loose.length ≤ t
  nsure : NamesOk m.sure
  nloose : ∀ c ∈ m.loose, ChOk c
  may : ∀ k c, m.loose[k]? = some c → May ((m.loose.take k).foldl doCh m.sure) c
theorem Tidy.snow {m : DM} {n t : Nat} (h : Tidy m n t) : FSorted m.now := by rw [h.good.now]; exact FSorted.fold _ h.ssure
theorem Tidy.names {m : DM} {n t : Nat} (h : Tidy m n t) : NamesOk m.now := by rw [h.good.now]; exact NamesOk.fold _ h.nsure h.nloose
theorem Tidy.lnow {m : DM} {n t : Nat} (h : Tidy m n t) : m.now.length ≤ t := by
  rw [h.good.now]
  exact Nat.le_trans (length_fold _ _) h.len
theorem Tidy.new {room : Int} (h0 : 0 ≤ room) (h1 : room ≤ 67108864) : Tidy (newOf room) 0 0 :=
  ⟨Good.new h0 h1, FSorted.nil, by simp [newOf], fun p hp => by simp [newOf] at hp, fun c hc => by simp [newOf] at hc, fun k c hc => by simp [newOf] at hc⟩
theorem Tidy.mono {m : DM} {n t n' t' : Nat} (h : Tidy m n t) (hn : n ≤ n') (ht : t ≤ t') : Tidy m n' t' := ⟨h.good.mono hn, h.ssure, Nat.le_trans h.len ht, h.nsure, h.nloose, h.may⟩
theorem spend_room {m : DM} : (spendOf m).2.room = m.room := by unfold spendOf; split; rfl; split <;> rfl
theorem Tidy.does {m : DM} {n t : Nat} (h : Tidy m n t) (c : Ch) (hm : May m.now c) (hc : ChOk c) (hp : c.p.length ≤ 1048576) (hu : c.kind = 1 → (used m.now : Int) + (c.p.length : Int) ≤ m.room) : Tidy (doesOf m c).2 (n + 1) (t + 1) := by
  have hg := h.good.does c hm.1 hp hu
  have e3 : (spendOf m).2.sure = m.sure := by unfold spendOf; split; rfl; split <;> rfl
  unfold doesOf at hg ⊢
  split at hg
  · rename_i hf
    rw [if_pos hf]
    exact ⟨hg, h.ssure, by have := h.len; simp only; omega, h.nsure, h.nloose, h.may⟩
  · rename_i hf
    rw [if_neg hf]
    refine ⟨hg, ?_, ?_, ?_, ?_, ?_⟩ <;> simp only [e3]
    · exact h.ssure
    · have := h.len; simp; omega
    · exact h.nsure
    · intro x hx
      rcases List.mem_append.1 hx with hx | hx
      · exact h.nloose x hx
      · simp at hx; subst hx; exact hc
    · intro k x hx
      by_cases hk : k < m.loose.length
      · rw [List.getElem?_append_left hk] at hx
        rw [List.take_append_of_le_length (by omega)]
        exact h.may k x hx
      · have hk2 : k = m.loose.length := by
          have := (List.getElem?_eq_some_iff.1 hx).1
          simp at this; omega
        subst hk2
        simp at hx
        subst hx
        rw [List.take_left, ← h.good.now]
        exact hm
theorem isName_size {s : ByteArray} (h : isName s = true) : s.size ≤ 160 := by
  unfold isName at h
  have := (Bool.and_eq_true_iff.1 h).2
  have := of_decide_eq_true this
  omega
theorem Tidy.step {m : DM} {n t : Nat} (h : Tidy m n t) (c : Ch) (hk : 0 ≤ c.kind ∧ c.kind ≤ 3) (hp : c.kind ≠ 1 → c.p = []) (hb : c.kind ≠ 3 → c.b.size ≤ 160) : Tidy (stepOf m c).2 (n + 1) (t + 1) := by
  unfold stepOf
  split
  · exact h.mono (Nat.le_succ _) (Nat.le_succ _)
  · split
    · rename_i h0
      have hm := mayOf_may hk h0
      have hin : c.kind ≠ 0 → c.a.size ≤ 160 := fun hk0 => by
        obtain ⟨i, _, hi⟩ := findI_get (hm.2.2 hk0)
        exact h.names _ (List.mem_of_getElem? hi)
      unfold mayOf at h0
      refine h.does c hm ⟨?_, ?_⟩ ?_ ?_
      · by_cases hk0 : c.kind = 0
        · rw [if_pos hk0] at h0
          split at h0
          · rename_i h2; exact isName_size h2
          · cases h0
        · exact hin hk0
      · by_cases hk3 : c.kind = 3
        · cases hn : isName c.b with
          | true => exact isName_size hn
          | false =>
            exfalso
            by_cases hf : findI m.now c.a < 0
            · simp [hk3, hf] at h0
            · simp [hk3, hf, hn] at h0
        · exact hb hk3
      · by_cases hk1 : c.kind = 1
        · rw [if_neg (by omega)] at h0
          split at h0
          · cases h0
          · split at h0
            · cases h0
            · omega
        · rw [hp hk1]; simp
      · intro hk1
        rw [if_neg (by omega)] at h0
        split at h0
        · cases h0
        · split at h0
          · cases h0
          · split at h0
            · cases h0
            · omega
    · exact h.mono (Nat.le_succ _) (Nat.le_succ _)
theorem Tidy.setFuse {m : DM} {n t : Nat} (h : Tidy m n t) (k : Int) (hk : k ≤ 9223372036854775807) : Tidy (fuseOf m k).2 n t := by
  have hg := h.good.setFuse k hk
  unfold fuseOf at hg ⊢
  split
  · exact h
  · rename_i hd
    rw [if_neg hd] at hg
    exact ⟨hg, h.ssure, h.len, h.nsure, h.nloose, h.may⟩
theorem Tidy.sync {m : DM} {n t : Nat} (h : Tidy m n t) : Tidy (syncOf m).2 n t := by
  have hg := h.good.sync
  unfold syncOf at hg ⊢
  split
  · exact h
  · rename_i hd
    rw [if_neg hd] at hg
    split
    · rename_i hf
      rw [if_pos hf] at hg
      exact ⟨hg, h.ssure, h.len, h.nsure, h.nloose, h.may⟩
    · rename_i hf
      rw [if_neg hf] at hg
      refine ⟨hg, FSorted.fold _ h.ssure, ?_, NamesOk.fold _ h.nsure h.nloose, fun c hc => by simp [synced] at hc, fun k c hc => by simp [synced] at hc⟩
      have h1 := length_fold m.loose m.sure
      have := h.len
      simp only [synced, List.length_nil]
      omega
theorem Tidy.crash {m : DM} {n t : Nat} (h : Tidy m n t) (keep part : Int) : Tidy (crashOf m keep part) 0 t := by
  have hg := h.good.crash keep part
  have hle := clampI_le keep m.loose.length
  have hsub : ∀ c ∈ m.loose.take (clampI keep m.loose.length), ChOk c := fun c hc => h.nloose c (List.mem_of_mem_take hc)
  have h1 : FSorted (crashFs m keep part) ∧ NamesOk (crashFs m keep part) ∧ (crashFs m keep part).length ≤ t := by
    have hl := length_fold (m.loose.take (clampI keep m.loose.length)) m.sure
    have hlen := h.len
    rw [List.length_take] at hl
    unfold crashFs
    simp only
    split
    · rename_i c hc
      have hlt := (List.getElem?_eq_some_iff.1 hc).1
      split
      · refine ⟨(FSorted.fold _ h.ssure).doCh _, (NamesOk.fold _ h.nsure hsub).doCh (h.nloose c (List.mem_of_getElem? hc)), ?_⟩
        have := length_doCh ((m.loose.take (clampI keep m.loose.length)).foldl doCh m.sure) { c with p := c.p.take (clampI part c.p.length) }
        omega
      · exact ⟨FSorted.fold _ h.ssure, NamesOk.fold _ h.nsure hsub, by omega⟩
    · exact ⟨FSorted.fold _ h.ssure, NamesOk.fold _ h.nsure hsub, by omega⟩
  exact ⟨hg, h1.1, by simpa [crashOf, crashed] using h1.2.2, h1.2.1, fun c hc => by simp [crashOf, crashed] at hc, fun k c hc => by simp [crashOf, crashed] at hc⟩
end Go.Proofs.Ytlinkpjneehnbaa
