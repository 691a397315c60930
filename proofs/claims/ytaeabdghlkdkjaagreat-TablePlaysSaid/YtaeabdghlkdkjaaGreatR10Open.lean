/- The document's journal: Open. -/
import Derived.Test.YtaeabdghlkdkjaaGreatR10LayW
import Derived.Test.YtaeabdghlkdkjaaGreatPkJ
import Derived.Test.YtaeabdghlkdkjaaGreatRScan
namespace Go.Proofs.YtaeabdghlkdkjaaGreat
set_option linter.unusedVariables false
open Go.RowKit Go.MapKept

/-- The document's journal's block. -/
def rjObj (r : Nat) (nm : ByteArray) (v : Value) : Obj := .cells #[.pointer (some ⟨r, 0, none⟩), .string nm, v] 70 (0, 0)
/-- What the document's Open leaves. -/
def ROpenPost (w : World) (r : Nat) (nm : ByteArray) (rs : List (Res w.heap.size)) (R : OpenR) (e : Ending) (w' : World) : Prop :=
  (R.res = none ∧ e = .returned (.tuple #[.pointer none, .int .i64 R.code]) ∧ Own w w' (rRef w.heap.size r R.m :: rs)) ∨
  ∃ (recs : List (List UInt8)) (used j : Nat) (v : Value), R.res = some (recs, used) ∧ e = .returned (.tuple #[.pointer (some ⟨j, 0, none⟩), .int .i64 R.code]) ∧ Own w w' (rRef w.heap.size r R.m :: rObj w.heap.size j (rjObj r nm v) :: rRows w.heap.size v recs :: rs)
theorem ROpenPost.bad {w : World} {r : Nat} {nm : ByteArray} {rs : List (Res w.heap.size)} {R : OpenR} {c : Int} {m : DM} {w' : World} (hr : R = ⟨c, m, none⟩) (h : Own w w' (rRef w.heap.size r m :: rs)) : ROpenPost w r nm rs R (.returned (.tuple #[.pointer none, .int .i64 c])) w' := by
  subst hr; exact .inl ⟨rfl, rfl, h⟩
theorem ROpenPost.ok {w : World} {r : Nat} {nm : ByteArray} {rs : List (Res w.heap.size)} {R : OpenR} {m : DM} {recs : List (List UInt8)} {used j : Nat} {v : Value} {w' : World} (hr : R = ⟨0, m, some (recs, used)⟩) (h : Own w w' (rRef w.heap.size r m :: rObj w.heap.size j (rjObj r nm v) :: rRows w.heap.size v recs :: rs)) :
    ROpenPost w r nm rs R (.returned (.tuple #[.pointer (some ⟨j, 0, none⟩), .int .i64 0])) w' := by
  subst hr; exact .inr ⟨recs, used, j, v, rfl, rfl, h⟩

theorem Own.tuckR {w wr : World} {x a b : Res w.heap.size} {rs : List (Res w.heap.size)} (h : Own w wr (x :: a :: b :: rs)) : Own w wr (a :: b :: x :: rs) := Own.third (Own.third h)
theorem tmp_size (nm : ByteArray) : (tmpOf nm).size = nm.size + 1 := by unfold tmpOf; rw [ByteArray.size_append]; rfl
theorem isName_eq (s : ByteArray) : isName s = (decide ((1 : Int) ≤ (s.size : Int)) && decide ((s.size : Int) ≤ 160)) := by
  unfold isName
  congr 1
  rw [Bool.eq_iff_iff]
  have : s.toList.length = s.size := by rw [ByteArray.toList_eq, Array.length_toList]; rfl
  cases hl : s.toList with
  | nil => rw [hl] at this; simp at this ⊢; omega
  | cons x l => rw [hl] at this; simp at this ⊢; omega
theorem name_tmp {nm : ByteArray} (h : isName nm = true) (h2 : ¬ nm.size = 160) : isName (tmpOf nm) = true := by
  rw [isName_eq] at h ⊢
  rw [tmp_size]
  simp at h ⊢
  omega
theorem name_long {nm : ByteArray} (h2 : nm.size = 160) : isName (tmpOf nm) = false := by
  rw [isName_eq, tmp_size, h2]; rfl
theorem open_none {m : DM} {nm : ByteArray} (h : isName nm = false ∨ nm.size = 160) : openOf m nm = ⟨1, m, none⟩ := by
  unfold openOf
  rw [if_neg]
  rintro ⟨h1, h2⟩
  rcases h with h | h
  · rw [h] at h1; cases h1
  · rw [name_long h] at h2; cases h2

set_option maxRecDepth 100000 in
theorem ropen_bad {w w0 : World} {r : Nat} {m : DM} {rs : List (Res w.heap.size)} (h : Own w w0 (rRef w.heap.size r m :: rs)) {n t : Nat} (ht : Tidy m n t) (htt : t < 549755813888) (nm : ByteArray) (hb : isName nm = false ∨ nm.size = 160 ∨ m.down = true) :
    Calls Tryz.prog 13 #[.pointer (some ⟨r, 0, none⟩), .string nm] w0 (ROpenPost w r nm rs (openOf m nm)) := by
  have hi := risname_runs nm w0
  obtain ⟨na, nc, c1, c5, hf⟩ := h.now ht htt nm
  have H := Lib.hid h
  have HI := Lib.hid hi
  clear h hf hi
  cases hn : isName nm with
  | false =>
    have HE := Lib.hid (open_none (m := m) (.inl hn))
    rw [hn] at HI
    clear hb c1 c5 hn
    go_enter Tryz.func13, Tryz.ntmps13
    go_wp2_with fail
    refine HI.out.mono ?_
    rintro e w' ⟨rfl, rfl⟩
    go_wp2_with fail
    go_ret2
    exact ROpenPost.bad HE.out H.out
  | true =>
    rw [hn] at HI
    by_cases hz : nm.size = 160
    · have HE := Lib.hid (open_none (m := m) (.inr hz))
      have hz' : (nm.size : Int) = 160 := by omega
      clear hb c1 c5 hn hz
      go_enter Tryz.func13, Tryz.ntmps13
      go_wp2_with fail
      refine HI.out.mono ?_
      rintro e w' ⟨rfl, rfl⟩
      go_wp2_with fail
      go_ret2
      exact ROpenPost.bad HE.out H.out
    · have hd : m.down = true := by
        rcases hb with hb | hb | hb
        · rw [hn] at hb; cases hb
        · exact absurd hb hz
        · exact hb
      have hE : openOf m nm = ⟨5, m, none⟩ := by
        unfold openOf
        rw [if_pos ⟨hn, name_tmp hn hz⟩]
        have : thereOf m nm = 5 := by simp [thereOf, hd]
        rw [this]; rfl
      have HE := Lib.hid hE
      have hz' : ((nm.size : Int) == 160) = false := by simp; omega
      rw [hd] at c5
      clear hb c1 hn hz hd hE
      go_enter Tryz.func13, Tryz.ntmps13
      go_wp2_with fail
      refine HI.out.mono ?_
      rintro e w' ⟨rfl, rfl⟩
      go_wp2_with fail
      go_ret2
      exact ROpenPost.bad HE.out H.out
theorem ropen_new {m : DM} {nm : ByteArray} (h1 : isName nm = true) (h2 : ¬ nm.size = 160) (hd : m.down = false) (hf : findI m.now nm < 0) :
    openOf m nm = if (rthen (createOf m nm) syncOf).1 = 0 then ⟨0, (rthen (createOf m nm) syncOf).2, some ([], 0)⟩ else ⟨(rthen (createOf m nm) syncOf).1, (rthen (createOf m nm) syncOf).2, none⟩ := by
  have hg : (fget m.now nm).isSome = false := by rw [findI_some, decide_eq_true hf]; rfl
  have ht : thereOf m nm = 6 := by simp [thereOf, hd, hg]
  have hs : runSteps (createSteps nm) m = rthen (createOf m nm) syncOf := by
    unfold createSteps
    simp only [runSteps_fun, rthen_last]
  unfold openOf
  rw [if_pos ⟨h1, name_tmp h1 h2⟩, if_pos ht, hs]

set_option maxRecDepth 100000 in
theorem ropen_create {w w0 : World} {r : Nat} {m : DM} {rs : List (Res w.heap.size)} (h : Own w w0 (rRef w.heap.size r m :: rs)) {n t : Nat} (ht : Tidy m n t) (hn : n + 8 < 549755813888) (htt : t + 8 < 549755813888) (nm : ByteArray) (h1 : isName nm = true) (h2 : ¬ nm.size = 160) (hd : m.down = false) (hfi : findI m.now nm < 0) :
    Calls Tryz.prog 13 #[.pointer (some ⟨r, 0, none⟩), .string nm] w0 (ROpenPost w r nm rs (openOf m nm)) := by
  have hi := risname_runs nm w0
  have hE := ropen_new h1 h2 hd hfi
  obtain ⟨W, hW⟩ : ∃ W, W = w0.alloc (rjObj r nm (.slice none 0 0)) := ⟨_, rfl⟩
  have hal := (h.alloc2 (rjObj r nm (.slice none 0 0)))
  rw [← hW] at hal
  obtain ⟨na, nc, c1, c5, hf⟩ := hal.now ht (by omega) nm
  obtain ⟨na', nc', c1', c5', hf'⟩ := h.now ht (by omega) nm
  have hst := hal.rstep ht (by omega) (by omega) ⟨0, nm, ⟨#[]⟩, []⟩ ⟨by simp, by simp⟩ (fun _ => rfl) (fun F' w' _ _ => reads_nil w')
  rw [step_create] at hst
  have htc := ht.create nm
  rw [hd] at c5 c5'
  rw [h1] at hi
  have hz' : ((nm.size : Int) == 160) = false := by simp; omega
  have hge : decide (findI m.now nm < 0) = true := decide_eq_true hfi
  generalize findI m.now nm = fi at hf hge
  generalize createOf m nm = q at hst hE htc
  have HI := Lib.hid hi
  have HF := Lib.hid hf
  have HST := Lib.hid hst
  have HTC := Lib.hid htc
  have HE := Lib.hid hE
  subst hW
  unfold rjObj at c1 HF HST
  clear h ht hal hi hf hst htc hE hd hfi h1 h2 c1' c5 hf'
  go_enter Tryz.func13, Tryz.ntmps13
  go_wp2_with fail
  refine HI.out.mono ?_
  rintro e w' ⟨rfl, rfl⟩
  clear HI
  go_wp2_with fail
  refine HF.out.mono ?_
  rintro e w' ⟨rfl, rfl⟩
  clear HF c1 c5'
  by_cases hq : q.1 = 0
  · obtain ⟨e1, m1⟩ := q
    have he1 : e1 = 0 := hq
    subst he1
    go_wp2_with fail
    refine HST.out.mono ?_
    rintro e w4 ⟨rfl, ho4⟩
    obtain ⟨w5, hsy, ho5⟩ := ho4.rsync HTC.out
    have hE := HE.out
    rw [rthen_yes] at hE
    simp only at hsy ho5
    generalize syncOf m1 = q at hsy ho5 hE
    obtain ⟨e2, m2⟩ := q
    have HSY := Lib.hid hsy
    have HO5 := Lib.hid ho5
    clear HST ho4 hsy ho5 HE HTC
    by_cases he2 : e2 = 0
    · subst he2
      rw [if_pos rfl] at hE
      have HE := Lib.hid hE
      clear hE hq
      go_wp2_with fail
      refine HSY.out.mono ?_
      rintro e w' ⟨rfl, rfl⟩
      go_wp2_with fail
      go_ret2
      exact ROpenPost.ok HE.out (Own.tuckR (HO5.out.nilRows))
    · rw [if_neg he2] at hE
      have HE := Lib.hid hE
      have hne : (e2 != 0) = true := by simpa using he2
      clear hE hq he2
      go_wp2_with fail
      refine HSY.out.mono ?_
      rintro e w' ⟨rfl, rfl⟩
      go_wp2_with fail
      go_ret2
      exact ROpenPost.bad HE.out HO5.out.drop2
  · obtain ⟨e1, m1⟩ := q
    have he1 : ¬ e1 = 0 := hq
    have hE := HE.out
    rw [rthen_no (r := (e1, m1)) hq, if_neg hq] at hE
    have HE := Lib.hid hE
    have hne : (e1 != 0) = true := by simpa using he1
    have hne' : (e1 == 0) = false := by simpa using he1
    clear hE hq he1
    go_wp2_with fail
    refine HST.out.mono ?_
    rintro e w4 ⟨rfl, ho4⟩
    have HO4 := Lib.hid ho4
    clear HST ho4 HTC
    go_wp2_with fail
    go_ret2
    exact ROpenPost.bad HE.out HO4.out.drop2

theorem frames_many (ll : List (List UInt8)) : ll.length ≤ (framesOf ll).length := by
  have : ∀ k, k ≤ ll.length → k ≤ (framesOf (ll.take k)).length := by
    intro k
    induction k with
    | zero => intro _; exact Nat.zero_le _
    | succ k ih =>
      intro hk
      obtain ⟨l, hl⟩ : ∃ l, ll[k]? = some l := ⟨ll[k], List.getElem?_eq_getElem hk⟩
      rw [framesOf_take_succ hl, List.length_append, frameOf_length]
      have := ih (by omega)
      omega
  have h := this ll.length (Nat.le_refl _)
  rwa [List.take_length] at h
/-- Behind the scan: the journal's records are laid. -/
theorem ropen_store {w wr w2 : World} {r j : Nat} {m : DM} {nm : ByteArray} {rs : List (Res w.heap.size)} {recs : List (List UInt8)} {v v0 : Value} (h : Own w wr (rRef w.heap.size r m :: rObj w.heap.size j (rjObj r nm v0) :: rs)) (hr : OwnsRecs w2 wr.heap.size v recs) (hk : Keeps (fun _ => False) wr w2) :
    ((∃ u, w2.cell? ⟨j, 2, none⟩ = some u) ∧ w2.frozen? ⟨j, 2, none⟩ = false) ∧ Own w (w2.setCell ⟨j, 2, none⟩ v) (rRef w.heap.size r m :: rObj w.heap.size j (rjObj r nm v) :: rRows w.heap.size v recs :: rs) := by
  have h1 := h.addRecs hr hk
  have hj := (h1.at (b := j) (o := rjObj r nm v0) (by simp)).1
  have h2 := (h1.third.store 2 v)
  refine ⟨⟨⟨_, cell_at hj rfl⟩, free_at hj 2⟩, ?_⟩
  have e : (#[Value.pointer (some ⟨r, 0, none⟩), Value.string nm, v0] : Array Value).setIfInBounds 2 v = #[Value.pointer (some ⟨r, 0, none⟩), Value.string nm, v] := rfl
  rw [e] at h2
  exact h2.third
/-- What the document's Open finds. -/
theorem open_there10 {m : DM} {nm : ByteArray} (h1 : isName nm = true) (h2 : ¬ nm.size = 160) (hd : m.down = false) (hf : ¬ findI m.now nm < 0) :
    openOf m nm = (if (scanOf ((fget m.now nm).getD [])).2 < ((fget m.now nm).getD []).length then openLay m nm (scanOf ((fget m.now nm).getD [])) else ⟨0, m, some (scanOf ((fget m.now nm).getD []))⟩) := by
  have hg : (fget m.now nm).isSome = true := by rw [findI_some, decide_eq_false hf]; rfl
  have ht : thereOf m nm = 0 := by simp [thereOf, hd, hg]
  unfold openOf
  rw [if_pos ⟨h1, name_tmp h1 h2⟩, ht, if_neg (by decide), if_pos rfl]

set_option maxRecDepth 100000 in
theorem ropen_there {w w0 : World} {r : Nat} {m : DM} {rs : List (Res w.heap.size)} (h : Own w w0 (rRef w.heap.size r m :: rs)) {n t : Nat} (ht : Tidy m n t) (hn : n + 67108880 < 549755813888) (htt : t + 67108880 < 549755813888) (nm : ByteArray) (hnm : nm.size ≤ 65536) (h1 : isName nm = true) (h2 : ¬ nm.size = 160) (hd : m.down = false) (hfi : ¬ findI m.now nm < 0) :
    Calls Tryz.prog 13 #[.pointer (some ⟨r, 0, none⟩), .string nm] w0 (ROpenPost w r nm rs (openOf m nm)) := by
  have hi := risname_runs nm w0
  have hE := open_there10 h1 h2 hd hfi
  have hg : (fget m.now nm).isSome = true := by rw [findI_some, decide_eq_false hfi]; rfl
  obtain ⟨k, hk, hkf⟩ := findI_get hg
  have hbl : ((fget m.now nm).getD []).length ≤ 67108864 := ht.good.get nm
  generalize (fget m.now nm).getD [] = b at hE hkf hbl
  have hlen := ht.lnow
  have hkl := (List.getElem?_eq_some_iff.1 hkf).1
  obtain ⟨W, hW⟩ : ∃ W, W = w0.alloc (rjObj r nm (.slice none 0 0)) := ⟨_, rfl⟩
  have hal := (h.alloc2 (rjObj r nm (.slice none 0 0)))
  rw [← hW] at hal
  obtain ⟨F, hri, hFb⟩ := hal.head
  obtain ⟨vn, vs, vl, hra⟩ := hri
  have hf := rfind_runs hra.now nm (by omega)
  have c1 := hra.cells.c1
  obtain ⟨g, cap, p, rfl, _, cp, hB⟩ := hra.now.cell hkf
  have hB : Reads W p b := hB.reads
  obtain ⟨pa, pc, rfl, _, _⟩ := hB.form
  have hsc := rscan_calls hB (by omega)
  obtain ⟨na', nc', c1', c5', hf'⟩ := h.now ht (by omega) nm
  rw [hd] at c5'
  rw [h1] at hi
  rw [hk] at hf
  have hle := scanOf_le b
  have hfl := scan_frames_le b
  have hz' : ((nm.size : Int) == 160) = false := by simp; omega
  have hge : decide ((k : Int) < 0) = false := decide_eq_false (by omega)
  have j0 : (k : Int) < m.now.length := by omega
  have j1 : (0 : Int) ≤ k := by omega
  have HSTO := Lib.hid (fun (w3 : World) (v : Value) (ho : OwnsRecs w3 W.heap.size v (scanOf b).1) (hk : Keeps (fun _ => False) W w3) => ropen_store hal ho hk)
  generalize scanOf b = s at hsc hE hle hfl HSTO
  obtain ⟨recs, used⟩ := s
  simp only at hsc hle hfl HSTO
  have HI := Lib.hid hi
  have HF := Lib.hid hf
  have HSC := Lib.hid hsc
  have HT := Lib.hid ht
  subst hW
  unfold rjObj at c1 cp HF HSC HSTO
  have HE := Lib.hid hE
  clear h ht hal hi hf hsc hd hfi h1 h2 c1' hf' hra hg hkf hB hFb hk hE
  go_enter Tryz.func13, Tryz.ntmps13
  go_wp2_with fail
  refine HI.out.mono ?_
  rintro e w' ⟨rfl, rfl⟩
  clear HI
  go_wp2_with fail
  refine HF.out.mono ?_
  rintro e w' ⟨rfl, rfl⟩
  clear HF
  go_wp2_with fail
  refine HSC.out.mono ?_
  rintro e w3 ⟨v, rfl, ho3, hk3⟩
  obtain ⟨⟨⟨u, hu⟩, hf⟩, h4⟩ := HSTO.out w3 v ho3 hk3
  obtain ⟨va, vc, rfl⟩ := ho3.form
  have H4 := Lib.hid h4
  clear h4 ho3 hk3 HSTO HSC
  by_cases hlt : used < b.length
  · have b1 : decide (used < b.length) = true := decide_eq_true hlt
    have hE := HE.out
    rw [if_pos hlt] at hE
    unfold openLay at hE
    have hlay := rlay_calls H4.out HT.out nm hnm (H4.out.rows (v := .slice va recs.length vc) (ll := recs) (by simp)).1 (by omega) (by omega) (Nat.le_trans (frames_many recs) (by omega))
    have HL := Lib.hid hlay
    simp only at hE
    have HE := Lib.hid hE
    clear hE hlay H4 hlt
    go_wp2_with fail
    refine HL.out.mono ?_
    rintro e w5 ⟨rfl, h5⟩
    have hE := HE.out
    generalize layOf m nm (framesOf recs) = q at h5 hE ⊢
    obtain ⟨qc, qm⟩ := q
    have H5 := Lib.hid h5
    clear h5 HL HE
    by_cases hq : qc = 0
    · subst hq
      rw [if_pos rfl] at hE
      have HE := Lib.hid hE
      clear hE
      go_wp2_with fail
      go_ret2
      exact ROpenPost.ok HE.out H5.out
    · rw [if_neg hq] at hE
      have HE := Lib.hid hE
      have b0 : (qc != 0) = true := by simpa using hq
      clear hE hq
      go_wp2_with fail
      go_ret2
      exact ROpenPost.bad HE.out H5.out.drop_two
  · have b1 : decide (used < b.length) = false := decide_eq_false hlt
    have hE := HE.out
    rw [if_neg hlt] at hE
    have HE := Lib.hid hE
    clear hE hlt
    go_wp2_with fail
    go_ret2
    exact ROpenPost.ok HE.out H4.out
theorem ropen_calls {w w0 : World} {r : Nat} {m : DM} {rs : List (Res w.heap.size)} (h : Own w w0 (rRef w.heap.size r m :: rs)) {n t : Nat} (ht : Tidy m n t) (hn : n + 67108880 < 549755813888) (htt : t + 67108880 < 549755813888) (nm : ByteArray) (hnm : nm.size ≤ 65536) :
    Calls Tryz.prog 13 #[.pointer (some ⟨r, 0, none⟩), .string nm] w0 (ROpenPost w r nm rs (openOf m nm)) := by
  by_cases hb : isName nm = false ∨ nm.size = 160 ∨ m.down = true
  · exact ropen_bad h ht (by omega) nm hb
  · have h1 : isName nm = true := by
      cases hx : isName nm with
      | true => rfl
      | false => exact absurd (.inl hx) hb
    have h2 : ¬ nm.size = 160 := fun hx => hb (.inr (.inl hx))
    have hd : m.down = false := by
      cases hx : m.down with
      | false => rfl
      | true => exact absurd (.inr (.inr hx)) hb
    by_cases hf : findI m.now nm < 0
    · exact ropen_create h ht (by omega) (by omega) nm h1 h2 hd hf
    · exact ropen_there h ht hn htt nm hnm h1 h2 hd hf
end Go.Proofs.YtaeabdghlkdkjaaGreat
