/- A part of the proof. -/
import Derived.Test.YtddnikpdmjogiaaGreatYb3
namespace Go.Proofs.YtddnikpdmjogiaaGreat
set_option linter.unusedVariables false
open Go.RowKit Go.MapKept
theorem clone_owns {w : World} {v : Value} {l : List UInt8} (h : Reads w v l) (hl : l.length ≤ 140737488355328) :
  ∃ v' w', Runs 85 #[v] w v' w' ∧ Owns w' w.heap.size v' l ∧ Keeps (fun _ => False) w w' := by
 obtain ⟨a, c, rfl, h1, h2⟩ := h.form
 cases a with
 | none =>
  rcases h with ⟨e, rfl⟩ | ⟨x, c', e, _⟩
  ·simp only [Value.slice.injEq] at e
   obtain ⟨_, _, rfl⟩ := e
   exact ⟨_, _, clone_nil w, Owns.nil _ _, Keeps.refl _ _⟩
  ·cases e
 | some a =>
  have ho0 : Owns (w.alloc (.cells #[] 5)) w.heap.size (.slice (some ⟨w.heap.size, 0, none⟩) 0 0) [] :=
   ⟨rfl, .inr ⟨w.heap.size, 0, #[], rfl, Nat.le_refl _, heap_alloc_new w _, Nat.le_refl _, Nat.zero_le _, rfl, rfl⟩⟩
  have hk : Reads (w.alloc (.cells #[] 5)) (.slice (some a) l.length c) l := h.keep ((Keeps.refl _ w).alloc _)
  obtain ⟨v', w1, hrun, hB, hk1⟩ := ho0.grow (by simp) hk (by simpa using hl)
  refine ⟨v', w1, clone_raw w w1 a _ c v' hrun, by simpa using hB, ((Keeps.refl _ w).alloc _).trans hk1 (fun b hb e => ?_)⟩
  simp only [Value.ownBlock, Option.some.injEq] at e
  omega
theorem read_owns {F : Nat → Prop} {w : World} {d : Nat} {m : DM} (h : DiskIs F w d m) (n : ByteArray) (at_ k : Int) (hlen : ((fget m.now n).getD []).length ≤ 140737488355328) :
  ∃ v w', Runs 66 #[.pointer (some ⟨d, 0, none⟩), .string n, .int .i64 at_, .int .i64 k] w (.tuple #[v, .int .i64 (readCode m n at_ k)]) w' ∧ Owns w' w.heap.size v (readBytes m n at_ k) ∧ Keeps (fun _ => False) w w' := by
 have hth := there_runs h n
 unfold readCode readBytes
 by_cases ht : thereOf m n = 0
 ·simp only [ht, if_true]
  rw [ht] at hth
  by_cases hneg : at_ < 0 ∨ k < 0
  ·simp only [hneg, if_true]
   exact ⟨_, _, read_neg w d n at_ k hth hneg, Owns.nil _ _, Keeps.refl _ _⟩
  ·simp only [hneg, if_false]
   obtain ⟨bn, bs, vl, h⟩ := h
   obtain ⟨v, hB, _, hlook⟩ := look_now h.now n
   have hl := hlook false
   simp only [Bool.false_eq_true, if_false] at hl
   generalize (fget m.now n).getD [] = l at *
   obtain ⟨va, vc, rfl, h1, h2⟩ := hB.form
   unfold maxLen at h2
   by_cases hc : vc = (if (l.length : Int) < at_ then (l.length : Int) else at_).toNat
   ·have hvl : vc = l.length := by split at hc <;> omega
    subst hvl
    obtain ⟨v2, w2, hr, hB2, hk2⟩ := clone_owns hB.none_of.reads (by simp)
    refine ⟨v2, w2, read_raw0 w w2 d bn n at_ k va l.length v2 hth h.cells.c1 hl (by omega) (by omega) (by split <;> omega) (by split <;> omega) (by omega) hr, ?_, hk2⟩
    have : pieceOf l at_ k = [] := by
     unfold pieceOf
     rw [List.drop_of_length_le (by split at hc <;> omega)]; simp
    rw [this]; exact hB2
   ·have hcl : ∀ i : Nat, i = (if (l.length : Int) < at_ then (l.length : Int) else at_).toNat → i ≤ l.length := by intro i hi; split at hi <;> omega
    obtain ⟨i, hi⟩ : ∃ i : Nat, i = (if (l.length : Int) < at_ then (l.length : Int) else at_).toNat := ⟨_, rfl⟩
    have hil := hcl i hi
    rw [← hi] at hc
    obtain ⟨j, hj⟩ : ∃ j : Nat, j = (if ((l.length - i : Nat) : Int) < k then ((l.length - i : Nat) : Int) else k).toNat := ⟨_, rfl⟩
    have hjl : i + j ≤ l.length := by split at hj <;> omega
    obtain ⟨v2, w2, hr, hB2, hk2⟩ := clone_owns (hB.from i j hjl hc).reads (by simp; omega)
    refine ⟨v2, w2, read_raw w w2 d bn n at_ k i j va l.length vc v2 hth h.cells.c1 hl (by omega) (by omega) (by split at hi <;> (split <;> omega)) (by split at hj <;> (split <;> omega)) (by omega) (by omega) (by omega) (by omega) (by omega) hc hr, ?_, hk2⟩
    have : pieceOf l at_ k = (l.drop i).take j := by
     unfold pieceOf
     by_cases h3 : (l.length : Int) < at_
     ·rw [if_pos h3] at hi
      rw [List.drop_of_length_le (by omega : l.length ≤ at_.toNat), List.drop_of_length_le (by omega : l.length ≤ i)]; simp
     ·rw [if_neg h3] at hi
      rw [← hi]
      by_cases h4 : ((l.length - i : Nat) : Int) < k
      ·rw [if_pos h4] at hj
       rw [List.take_of_length_le (by simp; omega), List.take_of_length_le (by simp; omega)]
      ·rw [if_neg h4] at hj
       rw [← hj]
    rw [this]; exact hB2
 ·simp only [ht, if_false]
  exact ⟨_, _, read_bad w d n at_ k _ hth (by simpa using ht), Owns.nil _ _, Keeps.refl _ _⟩
theorem Own.readOwn {w wr : World} {d : Nat} {m : DM} {rs : List (Res w.heap.size)} (h : Own w wr (rDisk w.heap.size d m :: rs)) (n : ByteArray) (at_ k : Int) (hlen : ((fget m.now n).getD []).length ≤ 140737488355328) :
  ∃ a c w', Runs 66 #[.pointer (some ⟨d, 0, none⟩), .string n, .int .i64 at_, .int .i64 k] wr (.tuple #[.slice a (readBytes m n at_ k).length c, .int .i64 (readCode m n at_ k)]) w' ∧ Own w w' (rBytes w.heap.size (.slice a (readBytes m n at_ k).length c) (readBytes m n at_ k) :: rDisk w.heap.size d m :: rs) ∧ Keeps (fun _ => False) wr w' := by
 obtain ⟨F, h1, _⟩ := h.disk
 obtain ⟨v, w', hr, ho, hk⟩ := read_owns h1 n at_ k hlen
 obtain ⟨a, c, rfl, _, _⟩ := ho.bytes.form
 exact ⟨a, c, w', hr, h.addBytes ho hk, hk⟩
section
variable {w0 w : World} {d r : Nat} {m : DM} {rs : List (Res w0.heap.size)}
set_option maxRecDepth 100000 in
set_option maxHeartbeats 2000000 in
theorem does_k7 (h : Own w0 w (rDisk w0.heap.size d m :: rRef w0.heap.size r m :: rs)) {n t : Nat} (ht : Tidy m n t) (htt : t < 549755813888) (kd : Int) (hkd : ¬ (0 ≤ kd ∧ kd ≤ 6)) (x y : ByteArray) (pv : Value) (i j : Int) :
  Calls Tryz.prog 22 #[.pointer (some ⟨d, 0, none⟩), .pointer (some ⟨r, 0, none⟩), .agg #[.int .i64 kd, .string x, .string y, pv, .int .i64 i, .int .i64 j]] w (DoesPost w0 d r rs m) := by
 have ho := h.boxed (.cells #[.int .i64 kd, .string x, .string y, pv, .int .i64 i, .int .i64 j] 68)
 obtain ⟨wb, hwb⟩ : ∃ wb, wb = w.alloc (.cells #[.int .i64 kd, .string x, .string y, pv, .int .i64 i, .int .i64 j] 68) := ⟨_, rfl⟩
 rw [← hwb] at ho
 have hk0 : (kd == 0) = false := by simp; omega
 have hk1 : (kd == 1) = false := by simp; omega
 have hk2 : (kd == 2) = false := by simp; omega
 have hk3 : (kd == 3) = false := by simp; omega
 have hk4 : (kd == 4) = false := by simp; omega
 have hk5 : (kd == 5) = false := by simp; omega
 have hk6 : (kd == 6) = false := by simp; omega
 have hd0 : decide (kd = 0) = false := by simp; omega
 have hd1 : decide (kd = 1) = false := by simp; omega
 have hd2 : decide (kd = 2) = false := by simp; omega
 have hd3 : decide (kd = 3) = false := by simp; omega
 have hd4 : decide (kd = 4) = false := by simp; omega
 have hd5 : decide (kd = 5) = false := by simp; omega
 have hd6 : decide (kd = 6) = false := by simp; omega
 have hgl := ht.good.get x
 have HO := hyd ho
 have HT := hyd ht
 subst hwb
 clear h ht ho hkd
 go_enter Tryz.func22, Tryz.ntmps22
 go_wp2_with fail
 obtain ⟨a1, c1, w1, hrd, hob, hk01⟩ := HO.out.readOwn x i j (by omega)
 refine hrd.out.mono ?_
 rintro e w' ⟨rfl, rfl⟩
 obtain ⟨F, vn, vs, vl, href⟩ := hob.ref (r := r) (m := m) mem2
 obtain ⟨na, nc, rfl, hnc, _⟩ := href.now.form
 have r1 := href.cells.c1
 have r5 := href.cells.c5
 obtain ⟨-, b1, -, -, b4, b5⟩ := op_cells (hob.at (b := w.heap.size) mem3).1
 have hfd := rfind_runs (href.now.same (w' := w1.drew) (fun _ _ => rfl)) x (by have := HT.out.lnow; omega)
 have HOB := hyd hob
 have HREF := hyd href
 clear hrd hob href HO hk01
 generalize hz : readCode m x i j = z at *
 generalize hL : readBytes m x i j = L at *
 have HZ := hyd hz
 have HL := hyd hL
 clear hz hL
 go_wp2_with fail
 go_region_held3 (fun w' => w'.cell? ⟨r, 1, none⟩ = some (.slice na m.now.length nc) ∧ w'.cell? ⟨w.heap.size, 1, none⟩ = some (.string x)) (first | exact ⟨r1, b1⟩ | go_keep) (first | (go_at_call 67; refine hfd.out.mono ?_; rintro e w' ⟨rfl, rfl⟩))
 have r5' : w1.drew.cell? ⟨r, 5, none⟩ = some (.bool m.down) := r5
 have r1' : w1.drew.cell? ⟨r, 1, none⟩ = some (.slice na m.now.length nc) := r1
 have b4' : w1.drew.cell? ⟨w.heap.size, 4, none⟩ = some (.int .i64 i) := b4
 have b5' : w1.drew.cell? ⟨w.heap.size, 5, none⟩ = some (.int .i64 j) := b5
 have HEND := hyd (HOB.out.drop.drew.unbox)
 cases hdn : m.down with
 | true =>
  have e1 : z = 5 ∧ L = [] := by
   have h1 := HZ.out
   have h2 := HL.out
   simp only [readCode, readBytes, thereOf, hdn, if_true] at h1 h2
   exact ⟨h1.symm, h2.symm⟩
  obtain ⟨rfl, rfl⟩ := e1
  rw [hdn] at r5'
  clear r5 hfd r1 b1 HZ HL HOB HREF
  go_wp2_with fail
  go_ret
  exact ⟨rfl, HEND.out⟩
 | false =>
  rw [hdn] at r5'
  clear r5 hfd
  have hfl := findI_lt m.now x
  have i9 : (m.now.length : Int) ≤ 549755813888 := by have := HT.out.lnow; omega
  by_cases hfi : findI m.now x < 0
  ·have e1 : z = 6 ∧ L = [] := by
    have h1 := HZ.out
    have h2 := HL.out
    have hg : (fget m.now x).isSome = false := by rw [findI_some, decide_eq_true hfi]; rfl
    simp only [readCode, readBytes, thereOf, hdn, hg, Bool.false_eq_true, if_false] at h1 h2
    exact ⟨h1.symm, h2.symm⟩
   obtain ⟨rfl, rfl⟩ := e1
   generalize findI m.now x = fi at *
   clear r1 b1 HZ HL HOB HREF
   go_wp2_with fail
   go_ret
   exact ⟨rfl, HEND.out⟩
  ·have hg : (fget m.now x).isSome = true := by rw [findI_some, decide_eq_false hfi]; rfl
   have hth : thereOf m x = 0 := by simp only [thereOf, hdn, hg, Bool.false_eq_true, if_false, if_true]
   by_cases hneg : i < 0 ∨ j < 0
   ·have e1 : z = 1 ∧ L = [] := by
     have h1 := HZ.out
     have h2 := HL.out
     simp only [readCode, readBytes, hth, hneg, if_true] at h1 h2
     exact ⟨h1.symm, h2.symm⟩
    obtain ⟨rfl, rfl⟩ := e1
    generalize findI m.now x = fi at *
    clear r1 b1 HZ HL HOB HREF hg hth
    by_cases hi : i < 0
    ·clear hneg
     go_wp2_with fail
     go_ret
     exact ⟨rfl, HEND.out⟩
    ·have hj : j < 0 := by omega
     clear hneg
     go_wp2_with fail
     go_ret
     exact ⟨rfl, HEND.out⟩
   ·have e1 : z = 0 ∧ L = pieceOf ((fget m.now x).getD []) i j := by
     have h1 := HZ.out
     have h2 := HL.out
     simp only [readCode, readBytes, hth, hneg, if_true, if_false] at h1 h2
     exact ⟨h1.symm, h2.symm⟩
    obtain ⟨rfl, hLe⟩ := e1
    have hi : ¬ i < 0 := by omega
    have hj : ¬ j < 0 := by omega
    obtain ⟨k, hki, hkf⟩ := findI_get hg
    rw [hki] at *
    have hkl := (List.getElem?_eq_some_iff.1 hkf).1
    have k0 : (0 : Int) ≤ k := by omega
    have k1 : (k : Int) < m.now.length := by omega
    obtain ⟨g, cap, q, e, hc1, hc2, hB⟩ := HREF.out.now.cell hkf
    simp only [Value.slice.injEq] at e
    obtain ⟨rfl, -, rfl⟩ := e
    obtain ⟨qa, qc, rfl, _, _⟩ := hB.form
    simp only at hc2 hB
    have hc2' : w1.drew.cell? ⟨g, k * 2 + 1, none⟩ = some (.slice qa ((fget m.now x).getD []).length qc) := hc2
    generalize (fget m.now x).getD [] = bb at *
    have hrr := rread_calls (w := w1.drew.drew) ((hB.reads.keep (Keeps.refl _ w1).drew).keep (Keeps.refl _ w1.drew).drew) i j (by omega) (by omega) (by omega)
    rw [← hLe] at hrr
    have hLb : (L.length : Int) ≤ 67108864 := by
     have : L.length ≤ bb.length := by rw [hLe]; unfold pieceOf; simp; omega
     omega
    have hcl : ∀ (p : Addr) (v : Value), w1.cell? p = some v → ∀ w2, Keeps (fun _ => False) w1.drew.drew w2 → w2.cell? p = some v := fun p v hp w2 hk2 => (World.cell?_of_block (hk2.undrew.undrew.block _ (World.block_lt_of_cell? w1 _ hp) (fun e => e))).trans hp
    have hcc : ∀ w2, Keeps (fun _ => False) w1.drew.drew w2 → w2.cell? ⟨r, 1, none⟩ = some (.slice (some ⟨g, 0, none⟩) m.now.length nc) ∧ w2.cell? ⟨g, k * 2 + 1, none⟩ = some (.slice qa bb.length qc) ∧ w2.cell? ⟨w.heap.size, 4, none⟩ = some (.int .i64 i) ∧ w2.cell? ⟨w.heap.size, 5, none⟩ = some (.int .i64 j) := fun w2 hk2 => ⟨hcl _ _ r1 w2 hk2, hcl _ _ hc2 w2 hk2, hcl _ _ b4 w2 hk2, hcl _ _ b5 w2 hk2⟩
    have hLr := (HOB.out.bytes (List.mem_cons_self ..)).1
    have hsame : ∀ w2 v3, Keeps (fun _ => False) w1.drew.drew w2 → Owns w2 w1.drew.drew.heap.size v3 L → Calls Tryz.prog 49 #[.slice a1 L.length c1, v3] w2 (QuietP w2 (.bool true)) := fun w2 v3 hk2 ho3 => by
     have := same_calls (hLr.keep hk2.undrew.undrew) ho3.bytes.reads
     rw [decide_eq_true rfl] at this
     exact this
    have HCC := hyd hcc
    have HSM := hyd hsame
    have HRR := hyd hrr
    clear hneg hg hth hfi hfl hki hkf hkl hB hLe HZ HL HREF HEND hcl hcc hLr hsame hrr
    go_wp2_with fail
    go_region_held3 (fun w' => w'.cell? ⟨r, 1, none⟩ = some (.slice (some ⟨g, 0, none⟩) m.now.length nc) ∧ w'.cell? ⟨g, k * 2 + 1, none⟩ = some (.slice qa bb.length qc) ∧ w'.cell? ⟨w.heap.size, 4, none⟩ = some (.int .i64 i) ∧ w'.cell? ⟨w.heap.size, 5, none⟩ = some (.int .i64 j)) (first | exact ⟨r1', hc2', b4', b5'⟩ | exact HCC.out _ hk23 | exact HCC.out _ hk2 | go_keep) (first | (go_at_call 68; refine HRR.out.mono ?_; rintro e w2 ⟨v3, rfl, ho3, hk2⟩) | (go_at_call 49; refine (HSM.out _ _ hk2 ho3).mono ?_; rintro e w3 ⟨rfl, hk3⟩; have hk23 := hk2.trans hk3 (fun _ _ e => e)))
    have HO3 := hyd (HOB.out.quiet hk23.undrew.undrew)
    clear hk23 hk3 ho3 hk2 HCC HSM HRR HOB r1 r1' r5' b1 b4 b5 b4' b5' hc1 hc2 hc2'
    go_wp2_with fail
    clear k0 k1
    go_loopw [209] (fun iv wx => ∃ (k2 : Nat) (l' : List UInt8), k2 ≤ L.length ∧ iv = .int .i64 (k2 : Int) ∧ l'.length = L.length ∧ Own w0 wx (rBytes w0.heap.size (.slice a1 L.length c1) l' :: rDisk w0.heap.size d m :: rRef w0.heap.size r m :: rObj w0.heap.size w.heap.size (.cells #[.int .i64 kd, .string x, .string y, pv, .int .i64 i, .int .i64 j] 68) :: rs)) (fun iv _ => L.length - (intOf iv).toNat)
    case atStart => exact ⟨0, L, Nat.zero_le _, rfl, rfl, HO3.out⟩
    case round =>
     obtain ⟨k2, l', hk, rfl, hl', ho⟩ := hrel
     have j0 : (0 : Int) ≤ k2 := by omega
     by_cases hkl : k2 < L.length
     ·have j1 : (k2 : Int) < L.length := by omega
      have hkl' : k2 < l'.length := by omega
      obtain ⟨g2, e, _, hnc2, hcq, hfq, hst⟩ := ho.setByte hkl' (l'[k2] ^^^ 255)
      subst e
      replace hst := hst wr.drawn
      have hlen2 : (l'.set k2 (l'[k2] ^^^ 255)).length = L.length := by rw [List.length_set]; exact hl'
      have e1 : bits .xor .u8 (l'[k2].toNat : Int) 255 = ((l'[k2] ^^^ 255).toNat : Int) := by
       rw [UInt8.toNat_xor]; exact u8_xor_nat _ 255 (UInt8.toNat_lt _) (by omega)
      have hby := l'[k2].toNat_lt
      have HST := hyd (⟨k2 + 1, _, by omega, rfl, hlen2, hst⟩ : ∃ (k3 : Nat) (l2 : List UInt8), k3 ≤ L.length ∧ Value.int .i64 ((k2 + 1 : Nat) : Int) = .int .i64 (k3 : Int) ∧ l2.length = L.length ∧ Own w0 (World.setCell wr ⟨g2, k2, none⟩ (.int .u8 ((l'[k2] ^^^ 255).toNat : Int))) (rBytes w0.heap.size (.slice (some ⟨g2, 0, none⟩) L.length c1) l2 :: rDisk w0.heap.size d m :: rRef w0.heap.size r m :: rObj w0.heap.size w.heap.size (.cells #[.int .i64 kd, .string x, .string y, pv, .int .i64 i, .int .i64 j] 68) :: rs))
      generalize l'[k2] ^^^ 255 = yb at e1 HST
      generalize l'[k2].toNat = xb at hcq e1 hby
      have j5 : (xb : Int) < 256 := by omega
      have j6 : (0 : Int) ≤ xb := by omega
      have HKL := hyd hkl
      clear ho hst hby hkl hk hl' hlen2 hkl' HO3 HT
      go_wp2_with fail
      go_roundw
      case rel => exact HST.out
      case measure => have := HKL.out; simp [intOf]; omega
     ·obtain rfl : k2 = L.length := by omega
      have HO := hyd ho.drop.unbox
      clear ho HO3 HT
      go_wp2_with fail
      go_ret
      exact ⟨rfl, HO.out⟩
end
theorem Tidy.does9 {m : DM} {n t : Nat} (h : Tidy m n t) (o : Op9) (hn : o.n ≤ 9223372036854775807) : Tidy (does9 m o) (n + 1) (t + 1) := by
 unfold Go.Proofs.YtddnikpdmjogiaaGreat.does9
 split
 ·rw [← step_create]; exact h.step _ ⟨by simp, by simp⟩ (fun _ => rfl) (fun _ => Nat.zero_le _)
 ·split
  ·rw [← step_append]; exact h.step _ ⟨by simp, by simp⟩ (fun e => absurd rfl e) (fun _ => Nat.zero_le _)
  ·split
   ·rw [← step_remove]; exact h.step _ ⟨by simp, by simp⟩ (fun _ => rfl) (fun _ => Nat.zero_le _)
   ·split
    ·rw [← step_rename]; exact h.step _ ⟨by simp, by simp⟩ (fun _ => rfl) (fun e => absurd rfl e)
    ·split
     ·exact h.sync.mono (Nat.le_succ _) (Nat.le_succ _)
     ·split
      ·exact (h.setFuse _ hn).mono (Nat.le_succ _) (Nat.le_succ _)
      ·split
       ·exact (h.crash _ _).mono (Nat.zero_le _) (Nat.le_succ _)
       ·exact h.mono (Nat.le_succ _) (Nat.le_succ _)
theorem does9_calls {w0 w : World} {d r : Nat} {m : DM} {rs : List (Res w0.heap.size)} (h : Own w0 w (rDisk w0.heap.size d m :: rRef w0.heap.size r m :: rs)) {n t : Nat} (ht : Tidy m n t) (hn : n < 1099511627776) (htt : t < 549755813888) (o : Op9) {pv : Value} (hp : Reads w0 pv o.p) (hpl : o.p.length ≤ 140737488355328) :
  Calls Tryz.prog 22 #[.pointer (some ⟨d, 0, none⟩), .pointer (some ⟨r, 0, none⟩), .agg #[.int .i64 o.kind, .string o.a, .string o.b, pv, .int .i64 o.n, .int .i64 o.m]] w (DoesPost w0 d r rs (does9 m o)) := by
 obtain ⟨k, a, b, p, i, j⟩ := o
 simp only at *
 unfold does9
 by_cases h0 : k = 0
 ·subst h0; exact does_k0 h ht hn htt a b pv i j
 by_cases h1 : k = 1
 ·subst h1; exact does_k1 h ht hn htt a b hp hpl i j
 by_cases h2 : k = 2
 ·subst h2; exact does_k2 h ht hn htt a b pv i j
 by_cases h3 : k = 3
 ·subst h3; exact does_k3 h ht hn htt a b pv i j
 by_cases h4 : k = 4
 ·subst h4; exact does_k4 h ht a b pv i j
 by_cases h5 : k = 5
 ·subst h5; exact does_k5 h a b pv i j
 by_cases h6 : k = 6
 ·subst h6; exact does_k6 h ht htt a b pv i j
 simp only [h0, h1, h2, h3, h4, h5, h6, if_false]
 exact does_k7 h ht htt k (by omega) a b pv i j
end Go.Proofs.YtddnikpdmjogiaaGreat
