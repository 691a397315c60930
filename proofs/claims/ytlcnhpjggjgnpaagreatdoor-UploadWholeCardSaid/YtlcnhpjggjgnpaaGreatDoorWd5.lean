/- A part of the proof. -/
import Derived.Test.YtlcnhpjggjgnpaaGreatDoorWd2
import Derived.Test.YtlcnhpjggjgnpaaGreatDoorWd4
namespace Go.Proofs.YtlcnhpjggjgnpaaGreatDoor
set_option linter.unusedVariables false
open Go.RowKit Go.MapKept
theorem ukeyOf_size (x : Nat) : (ukeyOf x).size = 10 := by
  unfold ukeyOf
  rw [ByteArray.size_append]
  show 2 + (hexOf (putOf x 4)).toArray.size = 10
  rw [List.size_toArray, hexOf_length, putOf_length]
theorem name_of_size {s : ByteArray} (h0 : 0 < s.size) (h1 : s.size ≤ 160) : isName s = true := by
  have : s.toList ≠ [] := by
    intro e
    have h2 := congrArg List.length e
    rw [ByteArray.toList_eq, Array.length_toList] at h2
    exact absurd h2 (Nat.ne_of_gt h0)
  unfold isName
  rw [decide_eq_true (show ((s.size : Int)) ≤ 160 by omega)]
  cases hl : s.toList with
  | nil => exact absurd hl this
  | cons a l => rfl
theorem ne_of_size {a b : ByteArray} (h : a.size ≠ b.size) : a ≠ b := fun e => h (by rw [e])
def wtC (l : List TCh) : Nat := (l.map (fun c => 21 + c.key.size + c.val.length)).sum
theorem enc_wt {l : List TCh} (hl : l.length ≤ 256) (h : ∀ c ∈ l, badCh c = false) (hw : wtC l ≤ 1048000) : (encOf l).1 = 0 ∧ (encOf l).2.length ≤ 10 + wtC l := by
  have hs : ∀ l : List TCh, (∀ c ∈ l, badCh c = false) → ((l.map encCh).flatten).length ≤ wtC l := fun l => by
    induction l with
    | nil => intro _; simp [wtC]
    | cons c l ih =>
      intro h
      have h1 := ih (fun x hx => h x (List.mem_cons_of_mem _ hx))
      have h2 : (encCh c).length ≤ 21 + c.key.size + c.val.length := by
        have hb := h c (List.mem_cons_self ..)
        unfold badCh at hb
        simp only [Bool.or_eq_false_iff, decide_eq_false_iff_not] at hb
        have hk := key_len c.key
        have e1 := countOf_len10 (n := c.key.toList.length) (by omega)
        have e2 := countOf_len10 (n := c.val.length) (by omega)
        unfold encCh textOf
        split
        · rw [List.length_cons, List.length_append]; omega
        · rw [List.length_append, List.length_cons, List.length_append, List.length_append]; omega
      simp only [wtC, List.map_cons, List.flatten_cons, List.length_append, List.sum_cons] at h1 ⊢
      omega
  have h0 := enc_fits hl h (by have := hs l h; omega)
  refine ⟨h0, ?_⟩
  rw [(enc_ok h0).2.1, List.length_append]
  have := hs l h
  have := countOf_len10 (n := l.length) (by omega)
  omega
theorem good_key {k : ByteArray} {g : Bool} {v : List UInt8} (h0 : 0 < k.size) (h1 : k.size ≤ 320) (h2 : v.length ≤ 262144) : badCh ⟨k, g, v⟩ = false := by
  unfold badCh
  simp only [Bool.or_eq_false_iff, decide_eq_false_iff_not]
  omega
theorem start_calm {T : TM} {R : Int} {F : FS} {b : List UInt8} (h : CT T R F b) {nx : Nat} (hnx : 1 ≤ nx ∧ nx ≤ 4294967295) {repo : ByteArray} (hrep : isRepo repo = true) {til : Int} (htil : 0 ≤ til ∧ til ≤ 1099511627776) (hno : fget F (ukeyOf nx) = none) (hl : F.length < 4096) (hr : (used F : Int) + 400 ≤ R) :
    ∃ T' b', startOf T nmT nx repo til = ((nx : Int), 0, T') ∧ CT T' R (fput (fput F (ukeyOf nx) []) nmT b') b' ∧ b'.length ≤ b.length + 250 ∧ T'.fs = tdos T.fs [⟨ukeyOf nx, false, laidOf repo til.toNat []⟩, ⟨uB, false, putOf (nx + 1) 8⟩] := by
  have hks := ukeyOf_size nx
  have hrs := isRepo_size hrep
  have hne : ukeyOf nx ≠ nmT := ne_of_size (by rw [hks]; decide)
  have hc := h.cm.create (k := ukeyOf nx) (name_of_size (by omega) (by omega)) hno hl
  have hu0 := used_fput h.cm.nd (ukeyOf nx) []
  rw [hno] at hu0
  simp only [Option.getD_none, List.length_nil, Nat.add_zero] at hu0
  have hct : CT ⟨(createOf T.m (ukeyOf nx)).2, T.size, T.fs, T.down⟩ R (fput F (ukeyOf nx) []) b := ⟨hc.2, by rw [fget_fput_other h.cm.nd _ _ _ hne]; exact h.file, h.up⟩
  have huB : uB.size = 1 := rfl
  have hll := laidOf_length repo til.toNat []
  have hlp := putOf_length 8 (nx + 1)
  rw [List.length_nil] at hll
  have hw : wtC [⟨ukeyOf nx, false, laidOf repo til.toNat []⟩, ⟨uB, false, putOf (nx + 1) 8⟩] = 21 + 10 + (9 + 0 + repo.size) + (21 + 1 + 8) := by
    simp [wtC, hks, huB, hll, hlp]
  have he := enc_wt (l := [⟨ukeyOf nx, false, laidOf repo til.toNat []⟩, ⟨uB, false, putOf (nx + 1) 8⟩]) (by simp) (by
    intro c hcm
    rcases List.mem_cons.1 hcm with rfl | hcm
    · exact good_key (by omega) (by omega) (by omega)
    · rw [List.mem_singleton.1 hcm]
      exact good_key (by omega) (by omega) (by omega)) (by rw [hw]; omega)
  rw [hw] at he
  obtain ⟨a0, a1, a2⟩ := hct.app he.1 (by rw [hu0]; omega)
  refine ⟨_, _, ?_, a1, by rw [List.length_append, frameOf_length]; omega, a2⟩
  unfold startOf
  rw [if_pos hrep, if_neg (by omega), if_neg (by omega), if_pos hc.1, if_pos a0]
theorem patch_calm {T : TM} {R : Int} {F : FS} {b v : List UInt8} (h : CT T R F b) {nx : Nat} {x : Ses} (hv : fget F (ukeyOf nx) = some v) {p : List UInt8} (hp : x.b.length + p.length ≤ 1048576) (hr : (used F : Int) + p.length ≤ R) :
    ∃ T', patchOf T (ukeyOf nx) x (x.b.length : Int) p = (0, T', { x with b := x.b ++ p }) ∧ CT T' R (fput F (ukeyOf nx) (v ++ p)) b ∧ T'.fs = T.fs := by
  have hne : ukeyOf nx ≠ nmT := ne_of_size (by rw [ukeyOf_size]; decide)
  have ha := h.cm.append (k := ukeyOf nx) hv (p := p) (by omega) hr
  have hs := ha.2.sync
  refine ⟨{ T with m := (syncOf (appendOf T.m (ukeyOf nx) p).2).2 }, ?_, ⟨hs.2, by rw [fget_fput_other h.cm.nd _ _ _ hne]; exact h.file, h.up⟩, rfl⟩
  unfold patchOf
  rw [if_pos rfl, if_neg (by omega), if_pos ha.1, if_pos hs.1]
theorem finish_calm {T : TM} {R : Int} {F : FS} {b : List UInt8} (h : CT T R F b) {nx : Nat} {x : Ses} (hv : fget F (ukeyOf nx) = some x.b) (hrs : x.repo.size ≤ 128) {dg : List UInt8} (hd : sumOf x.b = dg) (hno : fget F (fileOf dg) = none) (hr : (used F : Int) + 600 ≤ R) :
    ∃ T' F' b', finishOf T nmT (ukeyOf nx) x dg = (0, T', true) ∧ CT T' R F' b' ∧ fget F' (fileOf dg) = some x.b ∧ fget F' (ukeyOf nx) = none ∧
      T'.fs = tdos (tdos T.fs [⟨ukeyOf nx, false, laidOf x.repo x.til.toNat dg⟩]) [⟨ukeyOf nx, true, []⟩] := by
  have hdl : dg.length = 32 := by rw [← hd]; exact sumOf_length _
  have hks := ukeyOf_size nx
  have hfs := fileOf_size dg hdl
  have n1 : ukeyOf nx ≠ nmT := ne_of_size (by rw [hks]; decide)
  have n2 : fileOf dg ≠ nmT := ne_of_size (by rw [hfs]; decide)
  have n3 : ukeyOf nx ≠ fileOf dg := ne_of_size (by rw [hfs, hks]; decide)
  have hll := laidOf_length x.repo x.til.toNat dg
  -- the end is written
  have w1 : wtC [⟨ukeyOf nx, false, laidOf x.repo x.til.toNat dg⟩] = 21 + 10 + (9 + 32 + x.repo.size) := by simp [wtC, hks, hll, hdl]
  have e1 := enc_wt (l := [⟨ukeyOf nx, false, laidOf x.repo x.til.toNat dg⟩]) (by simp) (by intro c hc; rw [List.mem_singleton.1 hc]; exact good_key (by omega) (by omega) (by omega)) (by rw [w1]; omega)
  rw [w1] at e1
  obtain ⟨a0, a1, a2⟩ := h.app e1.1 (by omega)
  have u1 := used_fput h.cm.nd nmT (b ++ frameOf (encOf [⟨ukeyOf nx, false, laidOf x.repo x.til.toNat dg⟩]).2)
  rw [h.file, Option.getD_some, List.length_append, frameOf_length] at u1
  generalize b ++ frameOf (encOf [⟨ukeyOf nx, false, laidOf x.repo x.til.toNat dg⟩]).2 = b1 at a1 u1
  generalize hT1 : tAppOf T nmT [⟨ukeyOf nx, false, laidOf x.repo x.til.toNat dg⟩] = r1 at a0 a1 a2
  obtain ⟨c1, T1⟩ := r1
  dsimp only at a0 a1 a2
  subst a0
  have v1 : fget (fput F nmT b1) (ukeyOf nx) = some x.b := by rw [fget_fput_other h.cm.nd _ _ _ (Ne.symm n1)]; exact hv
  have g1 : fget (fput F nmT b1) (fileOf dg) = none := by rw [fget_fput_other h.cm.nd _ _ _ (Ne.symm n2)]; exact hno
  have nd1 := a1.cm.nd
  -- the file is adopted
  have r0 := a1.cm.rename (k := ukeyOf nx) (g := fileOf dg) v1 (name_of_size (by omega) (by omega)) n3
  have s0 := r0.2.sync
  have had : adoptOf T1.m (ukeyOf nx) dg = syncOf (renameOf T1.m (ukeyOf nx) (fileOf dg)).2 := by
    unfold adoptOf
    rw [a1.cm.there, v1, a1.cm.cont, v1, a1.cm.there, g1]
    simp [hd, r0.1]
  have nd2 : FNodup (fput (fput F nmT b1) (fileOf dg) x.b) := nd1.fput _ _
  have ct2 : CT { T1 with m := (adoptOf T1.m (ukeyOf nx) dg).2 } R (fdel (fput (fput F nmT b1) (fileOf dg) x.b) (ukeyOf nx)) b1 := by
    rw [had]
    refine ⟨s0.2, ?_, a1.up⟩
    rw [fget_fdel_other _ _ _ n1, fget_fput_other nd1 _ _ _ n2]
    exact fget_fput_same h.cm.nd _ _
  have u2 := used_fput nd1 (fileOf dg) x.b
  rw [g1] at u2
  simp only [Option.getD_none, List.length_nil, Nat.add_zero] at u2
  have u3 := used_fdel nd2 (ukeyOf nx)
  rw [fget_fput_other nd1 _ _ _ (Ne.symm n3), v1, Option.getD_some] at u3
  -- the key goes
  have w2 : wtC [⟨ukeyOf nx, true, []⟩] = 21 + 10 := by simp [wtC, hks]
  have e2 := enc_wt (l := [⟨ukeyOf nx, true, []⟩]) (by simp) (by intro c hc; rw [List.mem_singleton.1 hc]; exact good_key (by omega) (by omega) (by simp)) (by rw [w2]; omega)
  rw [w2] at e2
  obtain ⟨p0, p1, p2⟩ := ct2.app e2.1 (by omega)
  refine ⟨_, _, _, ?_, p1, ?_, ?_, ?_⟩
  · unfold finishOf
    rw [if_pos hd, hT1, if_pos rfl]
    have hcl : closeOf T1 nmT (ukeyOf nx) dg = (0, (tAppOf { T1 with m := (adoptOf T1.m (ukeyOf nx) dg).2 } nmT [⟨ukeyOf nx, true, []⟩]).2) := by
      unfold closeOf
      rw [if_neg (by rw [had]; exact fun hh => hh.1 s0.1), if_neg (by rw [p0]; decide), p0]
    rw [hcl]
  · rw [fget_fput_other ct2.cm.nd _ _ _ (Ne.symm n2), fget_fdel_other _ _ _ n3]
    exact fget_fput_same nd1 _ _
  · rw [fget_fput_other ct2.cm.nd _ _ _ (Ne.symm n1)]
    exact fget_fdel_same _ _
  · rw [p2, a2]
theorem start_good {T : TM} {n : Nat} (h : Good T.m n) (nm : ByteArray) (nx : Nat) (repo : ByteArray) (til : Int) : Good (startOf T nm nx repo til).2.2.m (n + 3) := by
  have h1 := h.create (ukeyOf nx)
  have h2 := tApp_good (T := ⟨(createOf T.m (ukeyOf nx)).2, T.size, T.fs, T.down⟩) h1 nm [⟨ukeyOf nx, false, laidOf repo til.toNat []⟩, ⟨uB, false, putOf (nx + 1) 8⟩]
  have h3 := h2.remove (ukeyOf nx)
  unfold startOf
  split
  · split
    · exact h.mono (by omega)
    · split
      · exact h.mono (by omega)
      · split
        · split
          · exact h2.mono (by omega)
          · exact h3
        · exact h1.mono (by omega)
  · exact h.mono (by omega)
theorem start_size (T : TM) (nm : ByteArray) (nx : Nat) (repo : ByteArray) (til : Int) : (startOf T nm nx repo til).2.2.size ≤ T.size + 1048576 := by
  have h2 := tApp_size ⟨(createOf T.m (ukeyOf nx)).2, T.size, T.fs, T.down⟩ nm [⟨ukeyOf nx, false, laidOf repo til.toNat []⟩, ⟨uB, false, putOf (nx + 1) 8⟩]
  unfold startOf
  split
  · split
    · exact Nat.le_add_right _ _
    · split
      · exact Nat.le_add_right _ _
      · split
        · split
          · exact h2
          · exact h2
        · exact Nat.le_add_right _ _
  · exact Nat.le_add_right _ _
theorem patch_good {T : TM} {n : Nat} (h : Good T.m n) (ky : ByteArray) (x : Ses) (at_ : Int) (p : List UInt8) : Good (patchOf T ky x at_ p).2.1.m (n + 1) := by
  have h1 := h.append ky p
  unfold patchOf
  split
  · split
    · exact h.mono (by omega)
    · split
      · split
        · exact h1.sync
        · exact h1.sync
      · exact h1
  · exact h.mono (by omega)
theorem patch_size (T : TM) (ky : ByteArray) (x : Ses) (at_ : Int) (p : List UInt8) : (patchOf T ky x at_ p).2.1.size = T.size := by
  unfold patchOf
  split
  · split
    · rfl
    · split
      · split
        · rfl
        · rfl
      · rfl
  · rfl
theorem close_good {T : TM} {n : Nat} (h : Good T.m n) (nm ky : ByteArray) (dg : List UInt8) : Good (closeOf T nm ky dg).2.m (n + 2) := by
  have h1 := adopt_good h ky dg
  have h2 := tApp_good (T := { T with m := (adoptOf T.m ky dg).2 }) h1 nm [⟨ky, true, []⟩]
  unfold closeOf
  split
  · exact h1.mono (by omega)
  · split
    · exact h2
    · exact h2
theorem finish_good {T : TM} {n : Nat} (h : Good T.m n) (nm ky : ByteArray) (x : Ses) (dg : List UInt8) : Good (finishOf T nm ky x dg).2.1.m (n + 3) := by
  have h1 := tApp_good h nm [⟨ky, false, laidOf x.repo x.til.toNat dg⟩]
  have h2 := close_good (T := (tAppOf T nm [⟨ky, false, laidOf x.repo x.til.toNat dg⟩]).2) h1 nm ky dg
  unfold finishOf
  split
  · split
    · exact h2
    · exact h1.mono (by omega)
  · exact h.mono (by omega)
end Go.Proofs.YtlcnhpjggjgnpaaGreatDoor
