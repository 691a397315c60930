/- The closures of the journal's lay. -/
import Derived.Test.YtaeabdghlkdkjaaGreatPkE
import Derived.Test.YtaeabdghlkdkjaaGreatScan
import Derived.Outline
namespace Go.Proofs.YtaeabdghlkdkjaaGreat
open Go.RowKit Go.MapKept

/-- Takes a file away, if it is there. -/
def clearOf (m : DM) (t : ByteArray) : Int × DM := if (removeOf m t).1 = 6 then (0, (removeOf m t).2) else removeOf m t
/-- Writes what stands from i on, in pieces. -/
def writeFrom (t : ByteArray) (b : List UInt8) : Nat → DM → Nat → Int × DM
  | 0, m, _ => (0, m)
  | f + 1, m, i => if i < b.length then (if (appendOf m t ((b.drop i).take 1048576)).1 = 0 then writeFrom t b f (appendOf m t ((b.drop i).take 1048576)).2 (i + 1048576) else appendOf m t ((b.drop i).take 1048576)) else (0, m)
def writeOf (m : DM) (t : ByteArray) (b : List UInt8) : Int × DM := writeFrom t b (b.length / 1048576 + 1) m 0
theorem clear_good {m : DM} {n : Nat} (h : Good m n) (t : ByteArray) : Good (clearOf m t).2 (n + 1) := by
  unfold clearOf; split <;> exact h.remove t
theorem write_good {t : ByteArray} {b : List UInt8} : ∀ (f : Nat) {m : DM} {n i : Nat}, Good m n → Good (writeFrom t b f m i).2 (n + f)
  | 0, m, n, i, h => h
  | f + 1, m, n, i, h => by
    rw [writeFrom]
    split
    · split
      · have := write_good (t := t) (b := b) f (i := i + 1048576) (h.append t ((b.drop i).take 1048576))
        rw [show n + (f + 1) = n + 1 + f by omega]; exact this
      · exact (h.append t _).mono (by omega)
    · exact h.mono (by omega)

section
variable {w wr : World} {d : Nat} {m : DM} {rs : List (Res w.heap.size)}

set_option maxRecDepth 100000 in
theorem lay2_calls (h : Own w wr (rDisk w.heap.size d m :: rs)) {n b3 b11 : Nat} {t : ByteArray} (hg : Good m n) (hn : n < 1099511627776)
    (h3 : rObj w.heap.size b3 (.cells #[.pointer (some ⟨d, 0, none⟩)] 23) ∈ rs) (h11 : rObj w.heap.size b11 (.cells #[.string t] 9) ∈ rs) :
    Calls Tryz.prog 128 #[.pointer (some ⟨b3, 0, none⟩), .pointer (some ⟨b11, 0, none⟩)] wr (DOwn w d rs (clearOf m t)) := by
  have c3 := cell_at (i := 0) (h.at (List.mem_cons_of_mem _ h3)).1 rfl
  have c11 := cell_at (i := 0) (h.at (List.mem_cons_of_mem _ h11)).1 rfl
  obtain ⟨w1, hr, h1⟩ := h.remove t hg.fuse (hg.loose hn)
  unfold clearOf
  have H1 := Lib.hid h1
  clear h h3 h11 h1 hg
  generalize (removeOf m t) = r at hr H1
  obtain ⟨c, m'⟩ := r
  by_cases hc : c = 6
  · subst hc
    simp only [if_true]
    go_enter Tryz.func128, Tryz.ntmps128
    go_wp2_with fail
    refine hr.out.mono ?_; rintro e w' ⟨rfl, rfl⟩
    go_wp2_with fail
    go_ret
    exact ⟨rfl, H1.out⟩
  · simp only [hc, if_false]
    have hb : (c == 6) = false := by simpa using hc
    go_enter Tryz.func128, Tryz.ntmps128
    go_wp2_with fail
    refine hr.out.mono ?_; rintro e w' ⟨rfl, rfl⟩
    go_wp2_with fail
    go_ret
    exact ⟨rfl, H1.out⟩
set_option maxRecDepth 100000 in
theorem lay3_calls (h : Own w wr (rDisk w.heap.size d m :: rs)) {n b3 b11 : Nat} {t : ByteArray} (hg : Good m n) (hn : n < 1099511627776)
    (h3 : rObj w.heap.size b3 (.cells #[.pointer (some ⟨d, 0, none⟩)] 23) ∈ rs) (h11 : rObj w.heap.size b11 (.cells #[.string t] 9) ∈ rs) :
    Calls Tryz.prog 129 #[.pointer (some ⟨b3, 0, none⟩), .pointer (some ⟨b11, 0, none⟩)] wr (DOwn w d rs (createOf m t)) := by
  have c3 := cell_at (i := 0) (h.at (List.mem_cons_of_mem _ h3)).1 rfl
  have c11 := cell_at (i := 0) (h.at (List.mem_cons_of_mem _ h11)).1 rfl
  obtain ⟨w1, hr, h1⟩ := h.create t hg.fuse (hg.loose hn)
  have H1 := Lib.hid h1
  clear h h3 h11 h1 hg
  go_enter Tryz.func129, Tryz.ntmps129
  go_wp2_with fail
  refine hr.out.mono ?_; rintro e w' ⟨rfl, rfl⟩
  go_wp2_with fail
  go_ret
  exact ⟨rfl, H1.out⟩
theorem Own.rename (h : Own w wr (rDisk w.heap.size d m :: rs)) (n k : ByteArray) (hf : m.fuse ≤ 9223372036854775807) (hl : m.loose.length < 1099511627776) :
    ∃ w', Runs 90 #[.pointer (some ⟨d, 0, none⟩), .string n, .string k] wr (.int .i64 (renameOf m n k).1) w' ∧ Own w w' (rDisk w.heap.size d (renameOf m n k).2 :: rs) := by
  obtain ⟨F, h1, back⟩ := h.disk
  obtain ⟨w', hr, h2, k⟩ := rename_runs h1 n k hf hl
  exact ⟨w', hr, (back _ (.returned (.int .i64 (renameOf m n _).1)) w' ⟨rfl, h2, k⟩).2⟩
set_option maxRecDepth 100000 in
theorem lay4_calls (h : Own w wr (rDisk w.heap.size d m :: rs)) {n b3 b11 b4 : Nat} {t nm : ByteArray} (hg : Good m n) (hn : n < 1099511627776)
    (h3 : rObj w.heap.size b3 (.cells #[.pointer (some ⟨d, 0, none⟩)] 23) ∈ rs) (h11 : rObj w.heap.size b11 (.cells #[.string t] 9) ∈ rs) (h4 : rObj w.heap.size b4 (.cells #[.string nm] 9) ∈ rs) :
    Calls Tryz.prog 130 #[.pointer (some ⟨b3, 0, none⟩), .pointer (some ⟨b11, 0, none⟩), .pointer (some ⟨b4, 0, none⟩)] wr (DOwn w d rs (renameOf m t nm)) := by
  have c3 := cell_at (i := 0) (h.at (List.mem_cons_of_mem _ h3)).1 rfl
  have c11 := cell_at (i := 0) (h.at (List.mem_cons_of_mem _ h11)).1 rfl
  have c4 := cell_at (i := 0) (h.at (List.mem_cons_of_mem _ h4)).1 rfl
  obtain ⟨w1, hr, h1⟩ := h.rename t nm hg.fuse (hg.loose hn)
  have H1 := Lib.hid h1
  clear h h3 h11 h4 h1 hg
  go_enter Tryz.func130, Tryz.ntmps130
  go_wp2_with fail
  refine hr.out.mono ?_; rintro e w' ⟨rfl, rfl⟩
  go_wp2_with fail
  go_ret
  exact ⟨rfl, H1.out⟩
set_option maxRecDepth 100000 in
set_option maxHeartbeats 1000000 in
theorem lay1_calls (h : Own w wr (rDisk w.heap.size d m :: rs)) {n b3 b11 b8 : Nat} {t : ByteArray} {bv : Value} {b : List UInt8} (hg : Good m n) (hn : n + b.length < 1099511627776)
    (h3 : rObj w.heap.size b3 (.cells #[.pointer (some ⟨d, 0, none⟩)] 23) ∈ rs) (h11 : rObj w.heap.size b11 (.cells #[.string t] 9) ∈ rs) (h8 : rObj w.heap.size b8 (.cells #[bv] 36) ∈ rs) (hb : rBytes w.heap.size bv b ∈ rs) :
    Calls Tryz.prog 127 #[.pointer (some ⟨b8, 0, none⟩), .pointer (some ⟨b3, 0, none⟩), .pointer (some ⟨b11, 0, none⟩)] wr (DOwn w d rs (writeOf m t b)) := by
  obtain ⟨ba, bc, rfl, hbc, hbm⟩ := (h.bytes (List.mem_cons_of_mem _ hb)).2
  have hw0 : ∃ r, writeFrom t b (b.length / 1048576 + 1) m 0 = r := ⟨_, rfl⟩
  obtain ⟨r, hr⟩ := hw0
  unfold writeOf
  rw [hr]
  have HR := Lib.hid hr
  have HO := Lib.hid h
  have HG := Lib.hid hg
  unfold maxLen at hbm
  have i5 : (bc : Int) ≤ 9223372036854775807 := by omega
  have i6 : (b.length : Int) ≤ bc := by omega
  clear h hg hr hbm hbc
  go_enter Tryz.func127, Tryz.ntmps127
  go_wp2_with fail
  go_loopw [4] (fun i wx => ∃ (k f : Nat) (m' : DM) (n' : Nat), i = .int .i64 (k : Int) ∧ Own w wx (rDisk w.heap.size d m' :: rs) ∧ Good m' n' ∧ n' ≤ n + k ∧ writeFrom t b f m' k = r ∧ b.length < k + f * 1048576 ∧ k ≤ b.length + 1048576) (fun i _ => b.length - (intOf i).toNat)
  case atStart => exact ⟨0, b.length / 1048576 + 1, m, n, rfl, HO.out, HG.out, Nat.le_refl _, HR.out, by omega, by omega⟩
  case round =>
    obtain ⟨k, f, m', n', rfl, ho, hg, hnn, hwf, hf, hkb⟩ := hrel
    have c3 := cell_at (i := 0) (ho.at (List.mem_cons_of_mem _ h3)).1 rfl
    have c11 := cell_at (i := 0) (ho.at (List.mem_cons_of_mem _ h11)).1 rfl
    have c8 := cell_at (i := 0) (ho.at (List.mem_cons_of_mem _ h8)).1 rfl
    have hrd := (ho.bytes (List.mem_cons_of_mem _ hb)).1
    have j0 : (0 : Int) ≤ k := by omega
    by_cases hlt : k < b.length
    · obtain ⟨f, rfl⟩ : ∃ f', f = f' + 1 := ⟨f - 1, by omega⟩
      rw [writeFrom, if_pos hlt] at hwf
      obtain ⟨x, rfl⟩ : ∃ x, ba = some x := by
        rcases hrd with ⟨e, e2⟩ | ⟨x, c', e, _⟩
        · subst e2; simp at hlt
        · cases e; exact ⟨x, rfl⟩
      obtain ⟨j, hj⟩ : ∃ j, j = ((b.drop k).take 1048576).length := ⟨_, rfl⟩
      have hjl : j = if b.length < k + 1048576 then b.length - k else 1048576 := by
        rw [hj, List.length_take, List.length_drop]; split <;> omega
      have hmin : (if (b.length : Int) < (k : Int) + 1048576 then (b.length : Int) else (k : Int) + 1048576) = (k : Int) + (j : Int) := by
        rw [hjl]; split <;> split <;> omega
      have hjk : k + j ≤ b.length := by rw [hjl]; split <;> omega
      have hj0 : 0 < j := by rw [hjl]; split <;> omega
      have hcut := hrd.cut k j hjk
      have hcb : ¬ bc = k := by omega
      rw [if_neg hcb] at hcut
      have hjt : (b.drop k).take j = (b.drop k).take 1048576 := by
        have := List.take_length (l := (b.drop k).take 1048576)
        rw [← hj, List.take_take] at this
        rw [Nat.min_eq_left (by rw [hj, List.length_take]; omega)] at this
        exact this
      rw [hjt] at hcut
      have hap := (ho.drew).append t hcut hg.room0 hg.room1 hg.unow hg.fuse (hg.loose (by omega))
      have hg2 := hg.append t ((b.drop k).take 1048576)
      generalize (b.drop k).take 1048576 = p at hap hg2 hwf
      have HAP := Lib.hid hap
      have HG2 := Lib.hid hg2
      have HWF := Lib.hid hwf
      have i7 : (k : Int) + j ≤ b.length := by omega
      have i8 : (0 : Int) ≤ j := by omega
      have i9 : (b.length : Int) ≤ 1099511627776 := by omega
      have i10 : (k : Int) < b.length := by omega
      have HX := Lib.hid (⟨hn, hkb, hf, hnn, hlt, hjk, Nat.le_trans hjk (by omega)⟩ : n + b.length < 1099511627776 ∧ k ≤ b.length + 1048576 ∧ b.length < k + (f + 1) * 1048576 ∧ n' ≤ n + k ∧ k < b.length ∧ k + j ≤ b.length ∧ k + j ≤ bc)
      clear hn hkb hf hnn hlt hjk
      have HMIN := Lib.hid hmin
      clear ho hg hcut hap hg2 hwf hjt hjl hj hrd HR HO HG hj0 hmin
      go_wp2_with fail
      have hmin := HMIN.out
      have hwr : IntKind.i64.wrap ((k : Int) + 1048576) = (k : Int) + 1048576 := IntWalk.i64_in _ (by omega)
      have hsl := fun w2 => slice_run w2 x b.length bc k j HX.out.2.2.2.2.2.2
      rw [if_neg hcb] at hsl
      go_still_tail 10, (by kernel_rfl)
      change wpList _ _ _ _ _ (World.drew _)
      clear hmin hwr hsl
      go_wp2_with fail
      refine HAP.out.mono ?_
      rintro e w1 ⟨rfl, h1⟩
      have H1 := Lib.hid h1
      clear h1 HAP
      generalize hq : appendOf m' t p = q at H1 HG2 HWF ⊢
      obtain ⟨qc, qm⟩ := q
      clear hq
      by_cases hq0 : qc = 0
      · subst hq0
        have hwf := HWF.out
        simp only [if_true] at hwf
        have HREL := Lib.hid (⟨k + 1048576, f, qm, n' + 1, rfl, H1.out, HG2.out, by have := HX.out; omega, hwf, by have := HX.out; omega, by have := HX.out; omega⟩ : ∃ (k' f' : Nat) (m' : DM) (n' : Nat), Value.int .i64 ((k + 1048576 : Nat) : Int) = .int .i64 (k' : Int) ∧ Own w w1 (rDisk w.heap.size d m' :: rs) ∧ Good m' n' ∧ n' ≤ n + k' ∧ writeFrom t b f' m' k' = r ∧ b.length < k' + f' * 1048576 ∧ k' ≤ b.length + 1048576)
        have hwr : IntKind.i64.wrap ((k : Int) + 1048576) = (k : Int) + 1048576 := IntWalk.i64_in _ (by omega)
        have HMEAS := Lib.hid (show b.length - ((k : Int) + 1048576).toNat < b.length - (k : Int).toNat by have := HX.out; omega)
        clear hwf H1 HG2 HWF i5 i6 i7 i8 i9 i10
        go_wp2_with fail
        go_roundw
        case rel => exact HREL.out
        case measure => exact HMEAS.out
      · have hwf := HWF.out
        simp only [hq0, if_false] at hwf
        have HE := Lib.hid hwf
        have hb0 : (qc != 0) = true := by simpa using hq0
        clear HG2 HWF i5 i6 i7 i8 i9 i10 hwf hq0 hcb c3 c8 c11 j0
        go_wp2_with fail
        go_ret
        rw [← HE.out]
        exact ⟨rfl, H1.out⟩
    · have HO2 := Lib.hid ho
      have e : (0, m') = r := by
        rw [← hwf]
        cases f with
        | zero => rfl
        | succ f => rw [writeFrom, if_neg hlt]
      have HE := Lib.hid e
      clear ho hwf hg hnn hf e HR HO HG
      go_wp2_with fail
      go_ret
      rw [← HE.out]
      exact ⟨rfl, HO2.out⟩
end
end Go.Proofs.YtaeabdghlkdkjaaGreat
