/- A part of the proof. -/
import Derived.Test.YtlcnhpjggjgnpaaGreatDoorUlaa2
import Derived.Test.YtlcnhpjggjgnpaaGreatDoorUlaa3
import Derived.Test.YtlcnhpjggjgnpaaGreatDoorUlaa5
import Derived.Outline
namespace Go.Proofs.YtlcnhpjggjgnpaaGreatDoor
open Go.RowKit Go.MapKept
def clearOf (m : DM) (t : ByteArray) : Int × DM := if (removeOf m t).1 = 6 then (0, (removeOf m t).2) else removeOf m t
def writeFrom (t : ByteArray) (b : List UInt8) : Nat → DM → Nat → Int × DM
 | 0, m, _ => (0, m)
 | f + 1, m, i => if i < b.length then (if (appendOf m t ((b.drop i).take 1048576)).1 = 0 then writeFrom t b f (appendOf m t ((b.drop i).take 1048576)).2 (i + 1048576) else appendOf m t ((b.drop i).take 1048576)) else (0, m)
def writeOf (m : DM) (t : ByteArray) (b : List UInt8) : Int × DM := writeFrom t b (b.length / 1048576 + 1) m 0
theorem clear_good {m : DM} {n : Nat} (h : Good m n) (t : ByteArray) : Good (clearOf m t).2 (n + 1) := by
 unfold clearOf; split <;> exact h.remove t
theorem write_good {t : ByteArray} {b : List UInt8} : ∀ (f : Nat) {m : DM} {n i : Nat}, Good m n → Good (writeFrom t b f m i).2 (n + f)
 | 0, m, n, i, h => h
 | f + 1, m, n, i, h => by
  rw [writeFrom]
  split
  ·split
   ·have := write_good (t := t) (b := b) f (i := i + 1048576) (h.append t ((b.drop i).take 1048576))
    rw [show n + (f + 1) = n + 1 + f by omega]; exact this
   ·exact (h.append t _).mono (by omega)
  ·exact h.mono (by omega)
section
variable {w wr : World} {d : Nat} {m : DM} {rs : List (Res w.heap.size)}
set_option maxRecDepth 100000 in
theorem lay2_calls (h : Own w wr (rDisk w.heap.size d m :: rs)) {n b3 b11 : Nat} {t : ByteArray} (hg : Good m n) (hn : n < 1099511627776)
  (h3 : rObj w.heap.size b3 (.cells #[.pointer (some ⟨d, 0, none⟩)] 30) ∈ rs) (h11 : rObj w.heap.size b11 (.cells #[.string t] 9) ∈ rs) :
  Calls Tryz.prog 160 #[.pointer (some ⟨b3, 0, none⟩), .pointer (some ⟨b11, 0, none⟩)] wr (DOwn w d rs (clearOf m t)) := by
 have c3 := cell_at (i := 0) (h.at (List.mem_cons_of_mem _ h3)).1 rfl
 have c11 := cell_at (i := 0) (h.at (List.mem_cons_of_mem _ h11)).1 rfl
 obtain ⟨w1, hr, h1⟩ := h.remove t hg.fuse (hg.loose hn)
 unfold clearOf
 have H1 := Lib.hid h1
 clear h h3 h11 h1 hg
 generalize (removeOf m t) = r at hr H1
 obtain ⟨c, m'⟩ := r
 by_cases hc : c = 6
 ·subst hc
  simp only [if_true]
  go_enter Tryz.func160, Tryz.ntmps160
  go_wp2_with fail
  refine hr.out.mono ?_; rintro e w' ⟨rfl, rfl⟩
  go_wp2_with fail
  go_ret
  exact ⟨rfl, H1.out⟩
 ·simp only [hc, if_false]
  have hb : (c == 6) = false := by simpa using hc
  go_enter Tryz.func160, Tryz.ntmps160
  go_wp2_with fail
  refine hr.out.mono ?_; rintro e w' ⟨rfl, rfl⟩
  go_wp2_with fail
  go_ret
  exact ⟨rfl, H1.out⟩
set_option maxRecDepth 100000 in
theorem lay3_calls (h : Own w wr (rDisk w.heap.size d m :: rs)) {n b3 b11 : Nat} {t : ByteArray} (hg : Good m n) (hn : n < 1099511627776)
  (h3 : rObj w.heap.size b3 (.cells #[.pointer (some ⟨d, 0, none⟩)] 30) ∈ rs) (h11 : rObj w.heap.size b11 (.cells #[.string t] 9) ∈ rs) :
  Calls Tryz.prog 161 #[.pointer (some ⟨b3, 0, none⟩), .pointer (some ⟨b11, 0, none⟩)] wr (DOwn w d rs (createOf m t)) := by
 have c3 := cell_at (i := 0) (h.at (List.mem_cons_of_mem _ h3)).1 rfl
 have c11 := cell_at (i := 0) (h.at (List.mem_cons_of_mem _ h11)).1 rfl
 obtain ⟨w1, hr, h1⟩ := h.create t hg.fuse (hg.loose hn)
 have H1 := Lib.hid h1
 clear h h3 h11 h1 hg
 go_enter Tryz.func161, Tryz.ntmps161
 go_wp2_with fail
 refine hr.out.mono ?_; rintro e w' ⟨rfl, rfl⟩
 go_wp2_with fail
 go_ret
 exact ⟨rfl, H1.out⟩
theorem Own.rename (h : Own w wr (rDisk w.heap.size d m :: rs)) (n k : ByteArray) (hf : m.fuse ≤ 9223372036854775807) (hl : m.loose.length < 1099511627776) :
  ∃ w', Runs 84 #[.pointer (some ⟨d, 0, none⟩), .string n, .string k] wr (.int .i64 (renameOf m n k).1) w' ∧ Own w w' (rDisk w.heap.size d (renameOf m n k).2 :: rs) := by
 obtain ⟨F, h1, back⟩ := h.disk
 obtain ⟨w', hr, h2, k⟩ := rename_runs h1 n k hf hl
 exact ⟨w', hr, (back _ (.returned (.int .i64 (renameOf m n _).1)) w' ⟨rfl, h2, k⟩).2⟩
set_option maxRecDepth 100000 in
theorem lay4_calls (h : Own w wr (rDisk w.heap.size d m :: rs)) {n b3 b11 b4 : Nat} {t nm : ByteArray} (hg : Good m n) (hn : n < 1099511627776)
  (h3 : rObj w.heap.size b3 (.cells #[.pointer (some ⟨d, 0, none⟩)] 30) ∈ rs) (h11 : rObj w.heap.size b11 (.cells #[.string t] 9) ∈ rs) (h4 : rObj w.heap.size b4 (.cells #[.string nm] 9) ∈ rs) :
  Calls Tryz.prog 162 #[.pointer (some ⟨b3, 0, none⟩), .pointer (some ⟨b11, 0, none⟩), .pointer (some ⟨b4, 0, none⟩)] wr (DOwn w d rs (renameOf m t nm)) := by
 have c3 := cell_at (i := 0) (h.at (List.mem_cons_of_mem _ h3)).1 rfl
 have c11 := cell_at (i := 0) (h.at (List.mem_cons_of_mem _ h11)).1 rfl
 have c4 := cell_at (i := 0) (h.at (List.mem_cons_of_mem _ h4)).1 rfl
 obtain ⟨w1, hr, h1⟩ := h.rename t nm hg.fuse (hg.loose hn)
 have H1 := Lib.hid h1
 clear h h3 h11 h4 h1 hg
 go_enter Tryz.func162, Tryz.ntmps162
 go_wp2_with fail
 refine hr.out.mono ?_; rintro e w' ⟨rfl, rfl⟩
 go_wp2_with fail
 go_ret
 exact ⟨rfl, H1.out⟩
set_option maxRecDepth 100000 in
set_option maxHeartbeats 1000000 in
theorem lay1_calls (h : Own w wr (rDisk w.heap.size d m :: rs)) {n b3 b11 b8 : Nat} {t : ByteArray} {bv : Value} {b : List UInt8} (hg : Good m n) (hn : n + b.length < 1099511627776)
  (h3 : rObj w.heap.size b3 (.cells #[.pointer (some ⟨d, 0, none⟩)] 30) ∈ rs) (h11 : rObj w.heap.size b11 (.cells #[.string t] 9) ∈ rs) (h8 : rObj w.heap.size b8 (.cells #[bv] 22) ∈ rs) (hb : rBytes w.heap.size bv b ∈ rs) :
  Calls Tryz.prog 159 #[.pointer (some ⟨b8, 0, none⟩), .pointer (some ⟨b3, 0, none⟩), .pointer (some ⟨b11, 0, none⟩)] wr (DOwn w d rs (writeOf m t b)) := by
 obtain ⟨ba, bc, rfl, hbc, hbm⟩ := (h.bytes (List.mem_cons_of_mem _ hb)).2
 have hw0 : ∃ r, writeFrom t b (b.length / 1048576 + 1) m 0 = r := ⟨_, rfl⟩
 obtain ⟨r, hr⟩ := hw0
 unfold writeOf
 rw [hr]
 have HR := Lib.hid hr
 have HO := Lib.hid h
 have HG := Lib.hid hg
 unfold maxLen at hbm
 have i5 : (bc : Int) ≤ 9223372036854775807 := by omega
 have i6 : (b.length : Int) ≤ bc := by omega
 clear h hg hr hbm hbc
 go_enter Tryz.func159, Tryz.ntmps159
 go_wp2_with fail
 go_loopw [4] (fun i wx => ∃ (k f : Nat) (m' : DM) (n' : Nat), i = .int .i64 (k : Int) ∧ Own w wx (rDisk w.heap.size d m' :: rs) ∧ Good m' n' ∧ n' ≤ n + k ∧ writeFrom t b f m' k = r ∧ b.length < k + f * 1048576 ∧ k ≤ b.length + 1048576) (fun i _ => b.length - (intOf i).toNat)
 case atStart => exact ⟨0, b.length / 1048576 + 1, m, n, rfl, HO.out, HG.out, Nat.le_refl _, HR.out, by omega, by omega⟩
 case round =>
  obtain ⟨k, f, m', n', rfl, ho, hg, hnn, hwf, hf, hkb⟩ := hrel
  have c3 := cell_at (i := 0) (ho.at (List.mem_cons_of_mem _ h3)).1 rfl
  have c11 := cell_at (i := 0) (ho.at (List.mem_cons_of_mem _ h11)).1 rfl
  have c8 := cell_at (i := 0) (ho.at (List.mem_cons_of_mem _ h8)).1 rfl
  have hrd := (ho.bytes (List.mem_cons_of_mem _ hb)).1
  have j0 : (0 : Int) ≤ k := by omega
  by_cases hlt : k < b.length
  ·obtain ⟨f, rfl⟩ : ∃ f', f = f' + 1 := ⟨f - 1, by omega⟩
   rw [writeFrom, if_pos hlt] at hwf
   obtain ⟨x, rfl⟩ : ∃ x, ba = some x := by
    rcases hrd with ⟨e, e2⟩ | ⟨x, c', e, _⟩
    ·subst e2; simp at hlt
    ·cases e; exact ⟨x, rfl⟩
   obtain ⟨j, hj⟩ : ∃ j, j = ((b.drop k).take 1048576).length := ⟨_, rfl⟩
   have hjl : j = if b.length < k + 1048576 then b.length - k else 1048576 := by
    rw [hj, List.length_take, List.length_drop]; split <;> omega
   have hmin : (if (b.length : Int) < (k : Int) + 1048576 then (b.length : Int) else (k : Int) + 1048576) = (k : Int) + (j : Int) := by
    rw [hjl]; split <;> split <;> omega
   have hjk : k + j ≤ b.length := by rw [hjl]; split <;> omega
   have hj0 : 0 < j := by rw [hjl]; split <;> omega
   have hcut := hrd.cut k j hjk
   have hcb : ¬ bc = k := by omega
   rw [if_neg hcb] at hcut
   have hjt : (b.drop k).take j = (b.drop k).take 1048576 := by
    have := List.take_length (l := (b.drop k).take 1048576)
    rw [← hj, List.take_take] at this
    rw [Nat.min_eq_left (by rw [hj, List.length_take]; omega)] at this
    exact this
   rw [hjt] at hcut
   have hap := (ho.drew).append t hcut hg.room0 hg.room1 hg.unow hg.fuse (hg.loose (by omega))
   have hg2 := hg.append t ((b.drop k).take 1048576)
   generalize (b.drop k).take 1048576 = p at hap hg2 hwf
   have HAP := Lib.hid hap
   have HG2 := Lib.hid hg2
   have HWF := Lib.hid hwf
   have i7 : (k : Int) + j ≤ b.length := by omega
   have i8 : (0 : Int) ≤ j := by omega
   have i9 : (b.length : Int) ≤ 1099511627776 := by omega
   have i10 : (k : Int) < b.length := by omega
   have HX := Lib.hid (⟨hn, hkb, hf, hnn, hlt, hjk, Nat.le_trans hjk (by omega)⟩ : n + b.length < 1099511627776 ∧ k ≤ b.length + 1048576 ∧ b.length < k + (f + 1) * 1048576 ∧ n' ≤ n + k ∧ k < b.length ∧ k + j ≤ b.length ∧ k + j ≤ bc)
   clear hn hkb hf hnn hlt hjk
   have HMIN := Lib.hid hmin
   clear ho hg hcut hap hg2 hwf hjt hjl hj hrd HR HO HG hj0 hmin
   go_wp2_with fail
   have hmin := HMIN.out
   have hwr : IntKind.i64.wrap ((k : Int) + 1048576) = (k : Int) + 1048576 := IntWalk.i64_in _ (by omega)
   have hsl := fun w2 => slice_run w2 x b.length bc k j HX.out.2.2.2.2.2.2
   rw [if_neg hcb] at hsl
   go_still_tail 10, (by kernel_rfl)
   change wpList _ _ _ _ _ (World.drew _)
   clear hmin hwr hsl
   go_wp2_with fail
   refine HAP.out.mono ?_
   rintro e w1 ⟨rfl, h1⟩
   have H1 := Lib.hid h1
   clear h1 HAP
   generalize hq : appendOf m' t p = q at H1 HG2 HWF ⊢
   obtain ⟨qc, qm⟩ := q
   clear hq
   by_cases hq0 : qc = 0
   ·subst hq0
    have hwf := HWF.out
    simp only [if_true] at hwf
    have HREL := Lib.hid (⟨k + 1048576, f, qm, n' + 1, rfl, H1.out, HG2.out, by have := HX.out; omega, hwf, by have := HX.out; omega, by have := HX.out; omega⟩ : ∃ (k' f' : Nat) (m' : DM) (n' : Nat), Value.int .i64 ((k + 1048576 : Nat) : Int) = .int .i64 (k' : Int) ∧ Own w w1 (rDisk w.heap.size d m' :: rs) ∧ Good m' n' ∧ n' ≤ n + k' ∧ writeFrom t b f' m' k' = r ∧ b.length < k' + f' * 1048576 ∧ k' ≤ b.length + 1048576)
    have hwr : IntKind.i64.wrap ((k : Int) + 1048576) = (k : Int) + 1048576 := IntWalk.i64_in _ (by omega)
    have HMEAS := Lib.hid (show b.length - ((k : Int) + 1048576).toNat < b.length - (k : Int).toNat by have := HX.out; omega)
    clear hwf H1 HG2 HWF i5 i6 i7 i8 i9 i10
    go_wp2_with fail
    go_roundw
    case rel => exact HREL.out
    case measure => exact HMEAS.out
   ·have hwf := HWF.out
    simp only [hq0, if_false] at hwf
    have HE := Lib.hid hwf
    have hb0 : (qc != 0) = true := by simpa using hq0
    clear HG2 HWF i5 i6 i7 i8 i9 i10 hwf hq0 hcb c3 c8 c11 j0
    go_wp2_with fail
    go_ret
    rw [← HE.out]
    exact ⟨rfl, H1.out⟩
  ·have HO2 := Lib.hid ho
   have e : (0, m') = r := by
    rw [← hwf]
    cases f with
    | zero => rfl
    | succ f => rw [writeFrom, if_neg hlt]
   have HE := Lib.hid e
   clear ho hwf hg hnn hf e HR HO HG
   go_wp2_with fail
   go_ret
   rw [← HE.out]
   exact ⟨rfl, HO2.out⟩
end
set_option linter.unusedVariables false
def runSteps : List (DM → Int × DM) → DM → Int × DM
 | [], m => (0, m)
 | f :: fs, m => if (f m).1 = 0 then runSteps fs (f m).2 else f m
theorem runSteps_good {K : Nat} : ∀ (fs : List (DM → Int × DM)) {m : DM} {n : Nat}, (∀ f ∈ fs, ∀ m j, Good m j → Good (f m).2 (j + K)) → Good m n → Good (runSteps fs m).2 (n + fs.length * K)
 | [], m, n, _, h => by simpa [runSteps] using h
 | f :: fs, m, n, hf, h => by
  have h1 := hf f (List.mem_cons_self ..) m n h
  rw [runSteps, List.length_cons]
  split
  ·have := runSteps_good fs (fun g hg => hf g (List.mem_cons_of_mem _ hg)) h1
   rw [show n + (fs.length + 1) * K = n + K + fs.length * K by rw [Nat.add_mul]; omega]
   exact this
  ·exact h1.mono (by rw [Nat.add_mul]; omega)
theorem runSteps_drop {fs : List (DM → Int × DM)} {k : Nat} {f : DM → Int × DM} (h : fs[k]? = some f) (m : DM) : runSteps (fs.drop k) m = if (f m).1 = 0 then runSteps (fs.drop (k + 1)) (f m).2 else f m := by
 obtain ⟨hk, rfl⟩ := List.getElem?_eq_some_iff.1 h
 rw [List.drop_eq_getElem_cons hk]
 rfl
section
variable {w wr : World} {d : Nat} {m : DM} {rs : List (Res w.heap.size)}
theorem steps_disk (h : Own w wr (rDisk w.heap.size d m :: rs)) {n : Nat} (hg : Good m n) (fs : List (DM → Int × DM)) (hfs : fs.length ≤ 1000) (fid : Nat → FuncId) (fst cap : Nat → Array Value) (g c : Nat) (K : Nat) {row : Array Value} {T : TypeId}
  (hrow : rObj w.heap.size g (.cells row T) ∈ rs) (hcells : ∀ k, k < fs.length → row[k]? = some (.func (.func (fid k)) (fst k) (cap k)))
  (hent : ∀ k args w', (callFunc (fid k) args).run Tryz.prog w' = .ok (.enter (fid k) args) w')
  (hgood : ∀ f ∈ fs, ∀ m j, Good m j → Good (f m).2 (j + K))
  (hstep : ∀ k f w' m' j, fs[k]? = some f → Own w w' (rDisk w.heap.size d m' :: rs) → Good m' j → j ≤ n + fs.length * K → Calls Tryz.prog (fid k) (fst k ++ cap k) w' (DOwn w d rs (f m'))) :
  Calls Tryz.prog 117 #[.slice (some ⟨g, 0, none⟩) fs.length c] wr (DOwn w d rs (runSteps fs m)) := by
 refine (steps_calls g fs.length c fid fst cap (fun k w' => ∃ m' j, Own w w' (rDisk w.heap.size d m' :: rs) ∧ Good m' j ∧ j ≤ n + k * K ∧ runSteps (fs.drop k) m' = runSteps fs m)
  (fun r w' => r = (runSteps fs m).1 ∧ Own w w' (rDisk w.heap.size d (runSteps fs m).2 :: rs)) hfs ⟨m, n, h, hg, by omega, by simp⟩ hent ?_ ?_ ?_).mono ?_
 ·rintro k w' hk ⟨m', j, ho, _⟩
  exact cell_at (ho.at (List.mem_cons_of_mem _ hrow)).1 (hcells k hk)
 ·rintro k w' hk ⟨m', j, ho, hgj, hj, hr⟩
  obtain ⟨f, hf⟩ : ∃ f, fs[k]? = some f := ⟨fs[k], List.getElem?_eq_getElem hk⟩
  have hkK : k * K ≤ fs.length * K := Nat.mul_le_mul_right K (by omega)
  have hd := runSteps_drop hf m'
  rw [hr] at hd
  refine (hstep k f w' m' j hf ho hgj (by omega)).mono ?_
  rintro e w'' ⟨rfl, ho2⟩
  refine ⟨_, rfl, fun h0 => ⟨_, j + K, ho2, hgood f (List.mem_of_getElem? hf) m' j hgj, by rw [Nat.add_mul]; omega, ?_⟩, fun h0 => ?_⟩
  ·rw [if_pos h0] at hd; exact hd.symm
  ·rw [if_neg h0] at hd; rw [hd]; exact ⟨rfl, ho2⟩
 ·rintro w' ⟨m', j, ho, _, _, hr⟩
  rw [List.drop_length] at hr
  rw [← hr]
  exact ⟨rfl, ho⟩
 ·rintro e w' ⟨r, rfl, rfl, ho⟩
  exact ⟨rfl, ho⟩
end
theorem rel_conv {B B' : Nat} {w : World} (hB : B' ≤ B) : ∀ {Fs : List (Nat → Prop)} {rs : List (Res B)} {rs' : List (Res B')}, Rel2 (ResAt B w) Fs rs → Rel2 (fun (r : Res B) (r' : Res B') => ∀ F, r.is F w → r'.is F w) rs rs' → Rel2 (ResAt B' w) Fs rs'
 | [], [], [], _, _ => trivial
 | F :: Fs, r :: rs, r' :: rs', h, k => ⟨⟨k.1 F h.1.1, fun b hb => ⟨Nat.le_trans hB (h.1.2 b hb).1, (h.1.2 b hb).2⟩⟩, rel_conv hB h.2 k.2⟩
 | [], _ :: _, _, h, _ => h.elim
 | _ :: _, [], _, h, _ => h.elim
 | [], [], _ :: _, _, k => k.elim
 | _ :: _, _ :: _, [], _, k => k.elim
theorem Own.join {w wr wx : World} {rs : List (Res w.heap.size)} (h : Own w wr rs) {ns : List (Res wr.heap.size)} (k : Own wr wx ns) (ns' : List (Res w.heap.size)) (hc : Rel2 (fun (r : Res wr.heap.size) (r' : Res w.heap.size) => ∀ F, r.is F wx → r'.is F wx) ns ns') : Own w wx (ns' ++ rs) := by
 obtain ⟨k1, Gs, g1, g2⟩ := k
 obtain ⟨h1, Fs, f1, f2⟩ := h.quiet k1
 obtain ⟨k0, Fs0, e1, e2⟩ := h
 refine ⟨h1, Gs ++ Fs0, Rel2.append (rel_conv k0.size g1 hc) (rel_keeps k0.size k1 (fun _ e => e.elim) e1 (fun _ _ _ _ e => e)), ?_⟩
 rw [List.pairwise_append]
 refine ⟨g2, e2, fun F hF G hG b hb hb' => ?_⟩
 have a1 := rel_bound g1 F hF b hb
 have a2 := rel_bound e1 G hG b hb'
 omega
def tmpOf (nm : ByteArray) : ByteArray := nm ++ ⟨#[43]⟩
def laySteps (nm : ByteArray) (b : List UInt8) : List (DM → Int × DM) :=
 [fun m => clearOf m (tmpOf nm), fun m => createOf m (tmpOf nm), fun m => writeOf m (tmpOf nm) b, syncOf, fun m => renameOf m (tmpOf nm) nm, syncOf]
def unfull (t : ByteArray) (r : Int × DM) : Int × DM := if r.1 = 4 then (if (clearOf r.2 t).1 = 0 then (4, (clearOf r.2 t).2) else clearOf r.2 t) else r
def layOf (m : DM) (nm : ByteArray) (b : List UInt8) : Int × DM := unfull (tmpOf nm) (runSteps (laySteps nm b) m)
theorem laySteps_good (nm : ByteArray) (b : List UInt8) : ∀ f ∈ laySteps nm b, ∀ m j, Good m j → Good (f m).2 (j + (b.length + 1)) := by
 intro f hf m j h
 simp only [laySteps, List.mem_cons, List.not_mem_nil, or_false] at hf
 rcases hf with rfl | rfl | rfl | rfl | rfl | rfl
 ·exact (clear_good h _).mono (by omega)
 ·exact (h.create _).mono (by omega)
 ·exact (write_good _ h).mono (by omega)
 ·exact h.sync.mono (by omega)
 ·exact (h.rename _ _).mono (by omega)
 ·exact h.sync.mono (by omega)
theorem unfull_good {r : Int × DM} {n : Nat} (h : Good r.2 n) (t : ByteArray) : Good (unfull t r).2 (n + 1) := by
 unfold unfull
 split
 ·split
  ·exact clear_good h t
  ·exact clear_good h t
 ·exact h.mono (by omega)
theorem lay_good {m : DM} {n : Nat} (h : Good m n) (nm : ByteArray) (b : List UInt8) : Good (layOf m nm b).2 (n + 6 * (b.length + 1) + 1) := unfull_good (runSteps_good _ (laySteps_good nm b) h) _
theorem fresh_runs (nm : ByteArray) (w : World) (hn : nm.size ≤ 65536) : Runs 116 #[.string nm] w (.string (tmpOf nm)) w := by
 have hadd : (Op.stringOp .add nm ⟨#[43]⟩).run Tryz.prog w = .ok (.string (nm ++ ⟨#[43]⟩)) w := run_string_add_sum w nm ⟨#[43]⟩ (by change nm.size + 1 ≤ _; omega)
 clear hn
 unfold Runs
 go_enter Tryz.func116, Tryz.ntmps116
 go_wp2
 go_ret
 exact ⟨rfl, rfl⟩
def D2Own (w : World) (d : Nat) (rs : List (Res w.heap.size)) (n : Int) (r : Int × DM) (e : Ending) (w' : World) : Prop := e = .returned (.tuple #[.int .i64 n, .int .i64 r.1]) ∧ Own w w' (rDisk w.heap.size d r.2 :: rs)
theorem framesOf_take_succ {ll : List (List UInt8)} {k : Nat} {l : List UInt8} (h : ll[k]? = some l) : framesOf (ll.take (k + 1)) = framesOf (ll.take k) ++ frameOf l := by
 rw [List.take_add_one, h, framesOf_append]
 simp [framesOf]
theorem framesOf_take_le (ll : List (List UInt8)) (k : Nat) : (framesOf (ll.take k)).length ≤ (framesOf ll).length := by
 have : framesOf ll = framesOf (ll.take k) ++ framesOf (ll.drop k) := by rw [← framesOf_append, List.take_append_drop]
 rw [this, List.length_append]; omega
theorem record_le {ll : List (List UInt8)} {k : Nat} {l : List UInt8} (h : ll[k]? = some l) : l.length ≤ (framesOf ll).length := by
 have := framesOf_take_le ll (k + 1)
 rw [framesOf_take_succ h, List.length_append, frameOf_length] at this
 omega
def LayRel (wr wx : World) (b8 b4 b3 : Nat) (nm : ByteArray) (d : Nat) (l : List UInt8) : Prop :=
 ∃ bv, Own wr wx [rObj _ b8 (.cells #[bv] 22), rBytes _ bv l, rObj _ b4 (.cells #[.string nm] 9), rObj _ b3 (.cells #[.pointer (some ⟨d, 0, none⟩)] 30)]
theorem lay_grow {w0 wr : World} {b8 b4 b3 d : Nat} {nm : ByteArray} {bv : Value} {l fr : List UInt8} (ho : Own w0 wr [rObj _ b8 (.cells #[bv] 22), rBytes _ bv l, rObj _ b4 (.cells #[.string nm] 9), rObj _ b3 (.cells #[.pointer (some ⟨d, 0, none⟩)] 30)])
  (hb : l.length + fr.length ≤ 140737488355328) : ∀ v1 w1, Owns w1 wr.heap.size v1 fr → Keeps (fun _ => False) wr.drew w1 →
  ∃ a2 c2 w2, (Builtin.append_ #[22, 22] 22 #[bv, v1]).run Tryz.prog w1 = .ok (.slice a2 (l ++ fr).length c2) w2 ∧ (w2.cell? ⟨b8, 0, none⟩ = some bv ∧ w2.frozen? ⟨b8, 0, none⟩ = false) ∧
   LayRel w0 (w2.setCell ⟨b8, 0, none⟩ (.slice a2 (l ++ fr).length c2)) b8 b4 b3 nm d (l ++ fr) := by
 intro v1 w1 ho1 hk1
 have h1 := ho.drew.quiet hk1
 obtain ⟨v', w2, hrun, h2⟩ := h1.swap.grow ho1.bytes.reads hb
 have h3 := h2.swap
 obtain ⟨a2, c2, rfl, _, _⟩ := (h2.bytes (List.mem_cons_self ..)).2
 have hc := (h3.at (List.mem_cons_self ..)).1
 have h4 := h3.store 0 (.slice a2 (l ++ fr).length c2)
 exact ⟨a2, c2, w2, hrun, ⟨cell_at hc rfl, free_at hc 0⟩, _, h4⟩
def layFid : Nat → FuncId
 | 0 => 160
 | 1 => 161
 | 2 => 159
 | 4 => 162
 | _ => 49
def layFst (d : Nat) : Nat → Array Value
 | 0 => #[]
 | 1 => #[]
 | 2 => #[]
 | 4 => #[]
 | _ => #[.pointer (some ⟨d, 0, none⟩)]
def layCap (b3 b11 b8 b4 : Nat) : Nat → Array Value
 | 0 => #[.pointer (some ⟨b3, 0, none⟩), .pointer (some ⟨b11, 0, none⟩)]
 | 1 => #[.pointer (some ⟨b3, 0, none⟩), .pointer (some ⟨b11, 0, none⟩)]
 | 2 => #[.pointer (some ⟨b8, 0, none⟩), .pointer (some ⟨b3, 0, none⟩), .pointer (some ⟨b11, 0, none⟩)]
 | 4 => #[.pointer (some ⟨b3, 0, none⟩), .pointer (some ⟨b11, 0, none⟩), .pointer (some ⟨b4, 0, none⟩)]
 | _ => #[]
def layRow (d b3 b11 b8 b4 : Nat) : Array Value :=
 #[.func (.func 160) #[] #[.pointer (some ⟨b3, 0, none⟩), .pointer (some ⟨b11, 0, none⟩)], .func (.func 161) #[] #[.pointer (some ⟨b3, 0, none⟩), .pointer (some ⟨b11, 0, none⟩)],
  .func (.func 159) #[] #[.pointer (some ⟨b8, 0, none⟩), .pointer (some ⟨b3, 0, none⟩), .pointer (some ⟨b11, 0, none⟩)], .func (.func 49) #[.pointer (some ⟨d, 0, none⟩)] #[],
  .func (.func 162) #[] #[.pointer (some ⟨b3, 0, none⟩), .pointer (some ⟨b11, 0, none⟩), .pointer (some ⟨b4, 0, none⟩)], .func (.func 49) #[.pointer (some ⟨d, 0, none⟩)] #[]]
theorem lay_enters (k : Nat) (args : Array Value) (w : World) : (callFunc (layFid k) args).run Tryz.prog w = .ok (.enter (layFid k) args) w := by
 match k with
 | 0 => exact enters_at Tryz.func160 (by kernel_rfl) rfl args w
 | 1 => exact enters_at Tryz.func161 (by kernel_rfl) rfl args w
 | 2 => exact enters_at Tryz.func159 (by kernel_rfl) rfl args w
 | 3 => exact enters_at Tryz.func49 (by kernel_rfl) rfl args w
 | 4 => exact enters_at Tryz.func162 (by kernel_rfl) rfl args w
 | k + 5 => exact enters_at Tryz.func49 (by kernel_rfl) rfl args w
theorem lay_steps {w w2 : World} {d : Nat} {m : DM} {RS : List (Res w.heap.size)} (h : Own w w2 (rDisk w.heap.size d m :: RS)) {n : Nat} (hg : Good m n) {nm : ByteArray} {B : List UInt8} (hn : n + 7 * (B.length + 1) + 1 < 1099511627776) {g b3 b11 b8 b4 : Nat} {bv : Value} {T : TypeId}
  (hrow : rObj w.heap.size g (.cells (layRow d b3 b11 b8 b4) T) ∈ RS) (h3 : rObj w.heap.size b3 (.cells #[.pointer (some ⟨d, 0, none⟩)] 30) ∈ RS) (h11 : rObj w.heap.size b11 (.cells #[.string (tmpOf nm)] 9) ∈ RS)
  (h8 : rObj w.heap.size b8 (.cells #[bv] 22) ∈ RS) (hb : rBytes w.heap.size bv B ∈ RS) (h4 : rObj w.heap.size b4 (.cells #[.string nm] 9) ∈ RS) :
  Calls Tryz.prog 117 #[.slice (some ⟨g, 0, none⟩) 6 6] w2 (DOwn w d RS (runSteps (laySteps nm B) m)) := by
 refine steps_disk h hg (laySteps nm B) (by simp [laySteps]) layFid (layFst d) (layCap b3 b11 b8 b4) g 6 (B.length + 1) hrow ?_ lay_enters (laySteps_good nm B) ?_
 ·intro k hk
  match k, hk with
  | 0, _ => rfl
  | 1, _ => rfl
  | 2, _ => rfl
  | 3, _ => rfl
  | 4, _ => rfl
  | 5, _ => rfl
  | k + 6, hk => simp only [laySteps, List.length_cons, List.length_nil] at hk; omega
 ·intro k f w' m' j hf ho hgj hj
  have hj2 : j < 1099511627776 := by simp only [laySteps, List.length_cons, List.length_nil] at hj; omega
  have hj3 : j + B.length < 1099511627776 := by simp only [laySteps, List.length_cons, List.length_nil] at hj; omega
  match k, hf with
  | 0, hf => simp only [laySteps, List.getElem?_cons_zero, Option.some.injEq] at hf; subst hf; exact lay2_calls ho hgj hj2 h3 h11
  | 1, hf => simp only [laySteps, List.getElem?_cons_succ, List.getElem?_cons_zero, Option.some.injEq] at hf; subst hf; exact lay3_calls ho hgj hj2 h3 h11
  | 2, hf => simp only [laySteps, List.getElem?_cons_succ, List.getElem?_cons_zero, Option.some.injEq] at hf; subst hf; exact lay1_calls ho hgj hj3 h3 h11 h8 hb
  | 3, hf => simp only [laySteps, List.getElem?_cons_succ, List.getElem?_cons_zero, Option.some.injEq] at hf; subst hf; exact ho.sync hgj.fuse hgj.fits1
  | 4, hf => simp only [laySteps, List.getElem?_cons_succ, List.getElem?_cons_zero, Option.some.injEq] at hf; subst hf; exact lay4_calls ho hgj hj2 h3 h11 h4
  | 5, hf => simp only [laySteps, List.getElem?_cons_succ, List.getElem?_cons_zero, Option.some.injEq] at hf; subst hf; exact ho.sync hgj.fuse hgj.fits1
  | k + 6, hf => simp [laySteps] at hf
theorem step_wanted {ops : Array Oper} {o : Oper} {a : Act} {X E : Prop} (hg : o.guard = none) (h : X) : if Region.wanted o (yielded ops a.tmps) = true then X else E := by
 rw [if_pos (by simp [Region.wanted, hg])]
 exact h
set_option maxRecDepth 100000 in
set_option maxHeartbeats 1000000 in
theorem lay_calls {w w0 : World} {d : Nat} {m : DM} {rs : List (Res w.heap.size)} (h : Own w w0 (rDisk w.heap.size d m :: rs)) {n : Nat} (hg : Good m n) (nm : ByteArray) (hnm : nm.size ≤ 65536) {v : Value} {ll : List (List UInt8)} (hr : RowsIn w0 v ll)
  (hn : n + 7 * ((framesOf ll).length + 1) + 1 < 1099511627776) :
  Calls Tryz.prog 120 #[.pointer (some ⟨d, 0, none⟩), .string nm, v] w0 (D2Own w d rs ((framesOf ll).length : Int) (layOf m nm (framesOf ll))) := by
 obtain ⟨a, c, rfl, hrows⟩ := hr
 have hrel0 : LayRel w0 (((w0.alloc (.cells #[.pointer (some ⟨d, 0, none⟩)] 30)).alloc (.cells #[.string nm] 9)).alloc (.cells #[.slice none 0 0] 22)) (w0.heap.size + 2) (w0.heap.size + 1) w0.heap.size nm d [] := by
  have h1 := (((Own.start w0).alloc (.cells #[.pointer (some ⟨d, 0, none⟩)] 30)).alloc (.cells #[.string nm] 9)).nilBytes.alloc (.cells #[.slice none 0 0] 22)
  simp only [World.size_alloc] at h1
  exact ⟨_, h1⟩
 have hlen : ll.length ≤ (framesOf ll).length := by
  clear hrows hn hrel0
  induction ll with
  | nil => exact Nat.zero_le _
  | cons p ll ih => rw [framesOf_cons, List.length_append, frameOf_length, List.length_cons]; omega
 have j9 : (ll.length : Int) ≤ 1099511627776 := by omega
 have HN := Lib.hid hn
 have HO := Lib.hid h
 have HG := Lib.hid hg
 have HR := Lib.hid hrows
 have HR0 := Lib.hid hrel0
 have HL := Lib.hid hlen
 clear h hg hrows hrel0 hn hlen
 go_enter Tryz.func120, Tryz.ntmps120
 go_wp2_with fail
 go_loopw [18] (fun i wx => ∃ k : Nat, k ≤ ll.length ∧ i = .int .i64 (k : Int) ∧ LayRel w0 wx (w0.heap.size + 2) (w0.heap.size + 1) w0.heap.size nm d (framesOf (ll.take k))) (fun i _ => ll.length - (intOf i).toNat)
 case atStart => exact ⟨0, Nat.zero_le _, rfl, HR0.out⟩
 case round =>
  obtain ⟨k, hk, rfl, bv, ho⟩ := hrel
  have ho8 := ho.at (List.mem_cons_self ..)
  have c8 := cell_at (i := 0) ho8.1 rfl
  have hk0 := ho.keeps
  by_cases hlt : k < ll.length
  ·obtain ⟨l, hl⟩ : ∃ l, ll[k]? = some l := ⟨ll[k], List.getElem?_eq_getElem hlt⟩
   obtain ⟨x, p, rfl, hcx, hrd⟩ := HR.out k l hl
   have hcx' : wr.cell? (x.add k) = some p := by
    rw [World.cell?_of_block (hk0.block _ (World.block_lt_of_cell? w0 _ hcx) (fun e => e))]; exact hcx
   have hfs := framesOf_take_succ hl
   have hll := record_le hl
   have hle := framesOf_take_le ll (k + 1)
   have hN := HN.out
   rw [hfs, List.length_append, frameOf_length] at hle
   have hfr := frame_calls ((hrd.keep hk0).keep (Keeps.refl _ wr).drew) (by omega)
   have hgr := lay_grow ho (fr := frameOf l) (by rw [frameOf_length]; omega)
   obtain ⟨pa, pc, rfl, _, _⟩ := hrd.form
   have c8d : wr.drew.cell? ⟨w0.heap.size + 2, 0, none⟩ = some bv := c8
   rw [← hfs] at hgr
   generalize frameOf l = fr at hfr hgr
   have HFR := Lib.hid hfr
   have HGR := Lib.hid hgr
   have j0 : (0 : Int) ≤ k := by omega
   have j1 : (k : Int) < ll.length := by omega
   have ck : ∀ w1 : World, Keeps (fun _ => False) wr.drew w1 → w1.cell? ⟨w0.heap.size + 2, 0, none⟩ = some bv := fun w1 hk => (World.cell?_of_block (w := wr.drew) (hk.block _ ho8.2.2 (fun e => e))).trans c8
   have CK := Lib.hid ck
   have HK := Lib.hid hk
   clear ho hfr hgr hk0 hle hll hfs hN hrd hcx ck ho8 hk hlt
   go_wp2_with fail
   go_region_law (first | (refine step_wanted rfl ?_; go_simp; go_at_call 155; refine HFR.out.mono ?_; rintro e w1 ⟨v1, rfl, ho1, hk1⟩; have c8w := CK.out _ hk1) | (obtain ⟨a2, c2, w2, hrun, hcell, hrel⟩ := HGR.out _ _ ho1 hk1; refine step_append_run rfl _ _ _ _ rfl rfl rfl hrun ?_) | fail)
   all_goals
    have HREL := Lib.hid hrel
    clear hrel hrun hcell ho1 hk1
    go_wp2_with fail
    go_roundw
    case rel => exact ⟨k + 1, by omega, rfl, HREL.out⟩
    case measure => simp [intOf]; omega
  ·obtain rfl : k = ll.length := by omega
   rw [List.take_length] at ho
   have c4 := cell_at (i := 0) (ho.at (b := w0.heap.size + 1) (o := .cells #[.string nm] 9) (by simp)).1 rfl
   have c3 := cell_at (i := 0) (ho.at (b := w0.heap.size) (o := .cells #[.pointer (some ⟨d, 0, none⟩)] 30) (by simp)).1 rfl
   obtain ⟨ba, bc, rfl, _, _⟩ := (ho.bytes (v := bv) (l := framesOf ll) (by simp)).2
   have hfresh := fresh_runs nm wr hnm
   generalize hB : framesOf ll = B at *
   have HOO := Lib.hid ho
   have hz := ho8.2.2
   have hz1 : w0.heap.size + 1 < wr.heap.size := by omega
   have hz0 : w0.heap.size < wr.heap.size := by omega
   clear hlt hk ho hk0 hB hnm ho8
   go_wp2_with fail
   refine hfresh.out.mono ?_; rintro e w' ⟨rfl, rfl⟩
   go_wp2_with fail
   obtain ⟨RS, hRS⟩ : ∃ RS : List (Res w.heap.size), RS = [rObj w.heap.size (wr.heap.size + 1) (.cells (layRow d w0.heap.size wr.heap.size (w0.heap.size + 1 + 1) (w0.heap.size + 1)) 120), rObj w.heap.size wr.heap.size (.cells #[.string (tmpOf nm)] 9), rObj w.heap.size (w0.heap.size + 1 + 1) (.cells #[.slice ba B.length bc] 22), rBytes w.heap.size (.slice ba B.length bc) B, rObj w.heap.size (w0.heap.size + 1) (.cells #[.string nm] 9), rObj w.heap.size w0.heap.size (.cells #[.pointer (some ⟨d, 0, none⟩)] 30)] ++ rs := ⟨_, rfl⟩
   have hJ : Own w ((wr.alloc (.cells #[.string (tmpOf nm)] 9)).alloc (.cells (layRow d w0.heap.size wr.heap.size (w0.heap.size + 1 + 1) (w0.heap.size + 1)) 120)) (rDisk w.heap.size d m :: RS) := by
    have h1 := (HOO.out.alloc (.cells #[.string (tmpOf nm)] 9)).alloc (.cells (layRow d w0.heap.size wr.heap.size (w0.heap.size + 1 + 1) (w0.heap.size + 1)) 120)
    simp only [World.size_alloc] at h1
    have h2 := HO.out.join h1 [rObj w.heap.size (wr.heap.size + 1) (.cells (layRow d w0.heap.size wr.heap.size (w0.heap.size + 1 + 1) (w0.heap.size + 1)) 120), rObj w.heap.size wr.heap.size (.cells #[.string (tmpOf nm)] 9), rObj w.heap.size (w0.heap.size + 1 + 1) (.cells #[.slice ba B.length bc] 22), rBytes w.heap.size (.slice ba B.length bc) B, rObj w.heap.size (w0.heap.size + 1) (.cells #[.string nm] 9), rObj w.heap.size w0.heap.size (.cells #[.pointer (some ⟨d, 0, none⟩)] 30)]
     ⟨fun _ h => h, fun _ h => h, fun _ h => h, fun _ h => h, fun _ h => h, fun _ h => h, trivial⟩
    rw [hRS]
    exact h2.perm List.perm_middle
   have hst := lay_steps (nm := nm) (B := B) (g := wr.heap.size + 1) (b3 := w0.heap.size) (b11 := wr.heap.size) (b8 := w0.heap.size + 1 + 1) (b4 := w0.heap.size + 1) (bv := .slice ba B.length bc) (T := 120) hJ HG.out HN.out (by rw [hRS]; simp) (by rw [hRS]; simp) (by rw [hRS]; simp) (by rw [hRS]; simp) (by rw [hRS]; simp) (by rw [hRS]; simp)
   have hgd := runSteps_good (laySteps nm B) (laySteps_good nm B) HG.out
   have hcl := fun (w3 : World) (m3 : DM) (j : Nat) (h : Own w w3 (rDisk w.heap.size d m3 :: RS)) (hg3 : Good m3 j) (hj : j < 1099511627776) => lay2_calls (t := tmpOf nm) (b3 := w0.heap.size) (b11 := wr.heap.size) h hg3 hj (by rw [hRS]; simp) (by rw [hRS]; simp)
   have hb8 : ∀ (w3 : World) (m3 : DM), Own w w3 (rDisk w.heap.size d m3 :: RS) → w3.cell? ⟨w0.heap.size + 1 + 1, 0, none⟩ = some (.slice ba B.length bc) := fun w3 m3 h => cell_at (i := 0) (h.at (b := w0.heap.size + 1 + 1) (o := .cells #[.slice ba B.length bc] 22) (by rw [hRS]; simp)).1 rfl
   have hback : ∀ (w3 : World) (m3 : DM), Own w w3 (rDisk w.heap.size d m3 :: RS) → Own w w3 (rDisk w.heap.size d m3 :: rs) := fun w3 m3 h => by
    rw [hRS] at h
    exact (h.perm (List.perm_middle.symm)).drop.drop.drop.drop.drop.drop
   have HCL := Lib.hid hcl
   have HB8 := Lib.hid hb8
   have HBK := Lib.hid hback
   have HGD := Lib.hid hgd
   unfold layRow at hst
   have hlay : layOf m nm B = unfull (tmpOf nm) (runSteps (laySteps nm B) m) := rfl
   generalize runSteps (laySteps nm B) m = r at hst HGD hlay
   have HST := Lib.hid hst
   have HLAY := Lib.hid hlay
   clear hlay hcl hb8 hback hgd hst hJ hRS c4 c3 c8 hfresh
   refine HST.out.mono ?_
   rintro e w3 ⟨rfl, h3⟩
   have c8 := HB8.out w3 _ h3
   have H3 := Lib.hid h3
   clear h3 HST
   obtain ⟨rc, rm⟩ := r
   by_cases h4 : rc = 4
   ·subst h4
    have hc := HCL.out w3 rm _ H3.out HGD.out (by have := HN.out; simp only [laySteps, List.length_cons, List.length_nil]; omega)
    have HC := Lib.hid hc
    clear hc
    go_wp2_with fail
    refine HC.out.mono ?_
    rintro e w4 ⟨rfl, h5⟩
    have c8' := HB8.out w4 _ h5
    have H5 := Lib.hid (HBK.out _ _ h5)
    clear h5 HC c8
    have hlay := HLAY.out
    simp only [unfull, if_true] at hlay
    generalize clearOf rm (tmpOf nm) = q at H5 hlay ⊢
    obtain ⟨qc, qm⟩ := q
    by_cases hq : qc = 0
    ·subst hq
     simp only [if_true] at hlay
     have HE := Lib.hid hlay
     clear hlay HLAY
     go_wp2_with fail
     go_ret2
     unfold D2Own
     rw [HE.out]
     exact ⟨rfl, H5.out⟩
    ·simp only [hq, if_false] at hlay
     have HE := Lib.hid hlay
     have hb0 : (qc != 0) = true := by simpa using hq
     clear hq hlay HLAY
     go_wp2_with fail
     go_ret2
     unfold D2Own
     rw [HE.out]
     exact ⟨rfl, H5.out⟩
   ·have hlay := HLAY.out
    simp only [unfull, h4, if_false] at hlay
    have HE := Lib.hid hlay
    have hb0 : (rc == 4) = false := by simpa using h4
    have H5 := Lib.hid (HBK.out _ _ H3.out)
    clear h4 hlay HLAY
    go_wp2_with fail
    go_ret2
    unfold D2Own
    rw [HE.out]
    exact ⟨rfl, H5.out⟩
def ReadsF (B : Nat) (F : Nat → Prop) (w : World) (p : Value) (l : List UInt8) : Prop :=
 ∃ (a : Option Addr) (c : Nat), p = .slice a l.length c ∧ l.length ≤ c ∧ c ≤ maxLen ∧ (a = none → c = 0) ∧ ∀ x, a = some x → (l ≠ [] → F x.block ∨ x.block < B) ∧ ∀ j u, (l.map u8v)[j]? = some u → w.cell? (x.add j) = some u
theorem add_block (x : Addr) (j : Nat) : (x.add j).block = x.block := by unfold Addr.add; split <;> rfl
theorem ReadsF.keep {B : Nat} {F : Nat → Prop} {w w' : World} {p : Value} {l : List UInt8} (h : ReadsF B F w p l) (hk : ∀ b, F b ∨ b < B → w'.heap[b]? = w.heap[b]?) : ReadsF B F w' p l := by
 obtain ⟨a, c, h1, h2, h3, h4, h5⟩ := h
 refine ⟨a, c, h1, h2, h3, h4, fun x hx => ⟨(h5 x hx).1, fun j u hu => ?_⟩⟩
 have hne : l ≠ [] := by rintro rfl; simp at hu
 have := hk _ ((h5 x hx).1 hne)
 rw [← add_block x j] at this
 rw [World.cell?_of_block this]
 exact (h5 x hx).2 j u hu
theorem ReadsF.wider {B : Nat} {F G : Nat → Prop} {w : World} {p : Value} {l : List UInt8} (h : ReadsF B F w p l) (hFG : ∀ b, F b → G b) : ReadsF B G w p l := by
 obtain ⟨a, c, h1, h2, h3, h4, h5⟩ := h
 exact ⟨a, c, h1, h2, h3, h4, fun x hx => ⟨fun hne => ((h5 x hx).1 hne).imp (hFG _) id, (h5 x hx).2⟩⟩
theorem ReadsF.reads {B : Nat} {F : Nat → Prop} {w : World} {p : Value} {l : List UInt8} (h : ReadsF B F w p l) : Reads w p l := by
 obtain ⟨a, c, rfl, h2, h3, h4, h5⟩ := h
 cases a with
 | none =>
  have := h4 rfl
  subst this
  have : l = [] := List.eq_nil_of_length_eq_zero (by omega)
  subst this
  exact .inl ⟨rfl, rfl⟩
 | some x => exact .inr ⟨x, c, rfl, h2, h3, (h5 x rfl).2⟩
theorem ReadsF.of_owns {B base : Nat} {w : World} {p : Value} {l : List UInt8} (h : Owns w base p l) : ReadsF B (fun b => p.ownBlock = some b) w p l := by
 rcases h.bytes.reads with ⟨rfl, rfl⟩ | ⟨x, c, rfl, h1, h2, h3⟩
 ·exact ⟨none, 0, rfl, Nat.le_refl _, Nat.zero_le _, fun _ => rfl, fun x hx => by cases hx⟩
 ·refine ⟨some x, c, rfl, h1, h2, (fun e => by cases e), fun y hy => ?_⟩
  cases hy
  refine ⟨fun hne => .inl ?_, h3⟩
  obtain ⟨g, c', e, _⟩ := h.form hne
  cases e
  rfl
def rRows (B : Nat) (v : Value) (ll : List (List UInt8)) : Res B :=
 ⟨fun F w => ∃ (ps : List Value) (G : Nat → Prop), w.ownsRow 0 22 1 v ll.length ps ∧ Rel2 (fun p l => ReadsF B G w p l) ps ll ∧ (∀ b, G b → F b) ∧ ∀ b, v.ownBlock = some b → F b ∧ B ≤ b ∧ ¬ G b, fun F w w' h hk => by
  obtain ⟨ps, G, ⟨h1, h2⟩, h3, h4, h5⟩ := h
  refine ⟨ps, G, ⟨h1, ?_⟩, h3.mono (fun p l hp => hp.keep (fun b hb => hk b (hb.imp (h4 b) id))), h4, h5⟩
  rcases h2 with h2 | ⟨g, cap, cur, rfl, hg, hb, k4, k5, k6, k7⟩
  ·exact .inl h2
  ·exact .inr ⟨g, cap, cur, rfl, hg, (hk g (.inl (h5 g rfl).1)).trans hb, k4, k5, k6, k7⟩⟩
theorem Own.rows {w wr : World} {rs : List (Res w.heap.size)} {v : Value} {ll : List (List UInt8)} (h : Own w wr rs) (hm : rRows w.heap.size v ll ∈ rs) : RowsIn wr v ll ∧ ∃ a c, v = .slice a ll.length c := by
 obtain ⟨F, ⟨ps, G, h1, h2, h3, _⟩, _⟩ := h.mem hm
 obtain ⟨a, c, rfl⟩ := ownsRow_slice h1
 refine ⟨⟨a, c, rfl, fun i l hl => ?_⟩, a, c, rfl⟩
 obtain ⟨p, hp, ho⟩ := h2.get' hl
 rcases h1.2 with ⟨e, e2⟩ | ⟨g, cap, cur, e, _⟩
 ·have := (List.getElem?_eq_some_iff.1 hl).1; omega
 ·cases e
  exact ⟨_, p, rfl, h1.cells (g := g) rfl i p hp, ho.reads⟩
theorem rel_mem_right {α β : Type} {R : α → β → Prop} {S : α → β → Prop} : ∀ {l : List α} {m : List β}, Rel2 R l m → (∀ a ∈ l, ∀ b, R a b → S a b) → Rel2 S l m
 | [], [], _, _ => trivial
 | a :: l, b :: m, h, k => ⟨k a (List.mem_cons_self ..) b h.1, rel_mem_right h.2 (fun x hx => k x (List.mem_cons_of_mem _ hx))⟩
 | [], _ :: _, h, _ => h.elim
 | _ :: _, [], h, _ => h.elim
theorem Own.addRecs {w wr w' : World} {rs : List (Res w.heap.size)} (h : Own w wr rs) {v : Value} {ll : List (List UInt8)} (ho : OwnsRecs w' wr.heap.size v ll) (hk : Keeps (fun _ => False) wr w') : Own w w' (rRows w.heap.size v ll :: rs) := by
 obtain ⟨ps, h1, h2, _⟩ := ho
 have hz := h.keeps.size
 refine h.add hk (r := rRows _ v ll) (G := fun b => v.ownBlock = some b ∨ ∃ p ∈ ps, p.ownBlock = some b) ⟨ps, fun b => ∃ p ∈ ps, p.ownBlock = some b, row_base h1 (Nat.zero_le _), rel_mem_right h2 (fun p hp l hl => (ReadsF.of_owns hl).wider (fun b hb => ⟨p, hp, hb⟩)), fun b hb => .inr hb, fun b hb => ⟨.inl hb, by have := row_lt h1 b hb; omega, fun ⟨p, hp, hb'⟩ => ?_⟩⟩ (fun b hb => ?_)
 ·obtain ⟨l, hl⟩ := h2.mem p hp
  exact row_ne h1 hl hb hb'
 rcases hb with hb | ⟨p, hp, hb⟩
 ·have := row_lt h1 b hb; omega
 ·obtain ⟨l, hl⟩ := h2.mem p hp
  have := owns_lt hl b hb; omega
theorem Own.nilRows {w wr : World} {rs : List (Res w.heap.size)} (h : Own w wr rs) : Own w wr (rRows w.heap.size (.slice none 0 0) [] :: rs) :=
 h.add (Keeps.refl _ wr) (r := rRows _ (.slice none 0 0) []) (G := fun _ => False) ⟨[], fun _ => False, ⟨rfl, .inl ⟨rfl, rfl⟩⟩, trivial, fun _ h => h, fun b hb => by cases hb⟩ (fun _ hb => hb.elim)
structure OpenR where
 code : Int
 m : DM
 res : Option (List (List UInt8) × Nat)
def createSteps (nm : ByteArray) : List (DM → Int × DM) := [fun m => createOf m nm, syncOf]
def openLay (m : DM) (nm : ByteArray) (s : List (List UInt8) × Nat) : OpenR := if (layOf m nm (framesOf s.1)).1 = 0 then ⟨0, (layOf m nm (framesOf s.1)).2, some s⟩ else ⟨(layOf m nm (framesOf s.1)).1, (layOf m nm (framesOf s.1)).2, none⟩
def openOf (m : DM) (nm : ByteArray) : OpenR :=
 if isName nm = true ∧ isName (tmpOf nm) = true then
  if thereOf m nm = 6 then (if (runSteps (createSteps nm) m).1 = 0 then ⟨0, (runSteps (createSteps nm) m).2, some ([], 0)⟩ else ⟨(runSteps (createSteps nm) m).1, (runSteps (createSteps nm) m).2, none⟩)
  else if thereOf m nm = 0 then
   (if (scanOf ((fget m.now nm).getD [])).2 < ((fget m.now nm).getD []).length then openLay m nm (scanOf ((fget m.now nm).getD [])) else ⟨0, m, some (scanOf ((fget m.now nm).getD []))⟩)
  else ⟨thereOf m nm, m, none⟩
 else ⟨1, m, none⟩
theorem scan_frames_le (b : List UInt8) : (framesOf (scanOf b).1).length ≤ b.length := by
 have h := (scanFrom_frames (l := b) (b.length + 1) 0 (Nat.zero_le _)).1
 have h2 := scanOf_le b
 unfold scanOf at *
 omega
theorem createSteps_good (nm : ByteArray) : ∀ f ∈ createSteps nm, ∀ m j, Good m j → Good (f m).2 (j + 1) := by
 intro f hf m j h
 simp only [createSteps, List.mem_cons, List.not_mem_nil, or_false] at hf
 rcases hf with rfl | rfl
 ·exact h.create _
 ·exact h.sync.mono (by omega)
theorem open_good {m : DM} {n : Nat} (h : Good m n) (nm : ByteArray) : Good (openOf m nm).m (n + 6 * (67108864 + 1) + 1) := by
 have hb := h.get nm
 have hs := scan_frames_le ((fget m.now nm).getD [])
 unfold openOf
 split
 ·split
  ·have := runSteps_good (createSteps nm) (createSteps_good nm) h
   split <;> exact this.mono (by simp [createSteps])
  ·split
   ·split
    ·unfold openLay
     have := lay_good h nm (framesOf (scanOf ((fget m.now nm).getD [])).1)
     split <;> exact this.mono (by omega)
    ·exact h.mono (by omega)
   ·exact h.mono (by omega)
 ·exact h.mono (by omega)
end Go.Proofs.YtlcnhpjggjgnpaaGreatDoor
