/- A part of the proof. -/
import Derived.Test.YtddnikpdmjogiaaGreatYa3
import Derived.Test.YtddnikpdmjogiaaGreatYa4
import Derived.Test.YtddnikpdmjogiaaGreatYb1
import Derived.Test.YtddnikpdmjogiaaGreatYb4
import Derived.Test.YtddnikpdmjogiaaGreatYb5
import Derived.Test.YtddnikpdmjogiaaGreatYc2
import Derived.Test.YtddnikpdmjogiaaGreatYc3
namespace Go.Proofs.YtddnikpdmjogiaaGreat
set_option linter.unusedVariables false
open Go.RowKit Go.MapKept
def rjObj (r : Nat) (nm : ByteArray) (v : Value) : Obj := .cells #[.pointer (some ⟨r, 0, none⟩), .string nm, v] 96 (0, 0)
def ROpenPost (w : World) (r : Nat) (nm : ByteArray) (rs : List (Res w.heap.size)) (R : OpenR) (e : Ending) (w' : World) : Prop :=
 (R.res = none ∧ e = .returned (.tuple #[.pointer none, .int .i64 R.code]) ∧ Own w w' (rRef w.heap.size r R.m :: rs)) ∨
 ∃ (recs : List (List UInt8)) (used j : Nat) (v : Value), R.res = some (recs, used) ∧ e = .returned (.tuple #[.pointer (some ⟨j, 0, none⟩), .int .i64 R.code]) ∧ Own w w' (rRef w.heap.size r R.m :: rObj w.heap.size j (rjObj r nm v) :: rRows w.heap.size v recs :: rs)
theorem ROpenPost.bad {w : World} {r : Nat} {nm : ByteArray} {rs : List (Res w.heap.size)} {R : OpenR} {c : Int} {m : DM} {w' : World} (hr : R = ⟨c, m, none⟩) (h : Own w w' (rRef w.heap.size r m :: rs)) : ROpenPost w r nm rs R (.returned (.tuple #[.pointer none, .int .i64 c])) w' := by
 subst hr; exact .inl ⟨rfl, rfl, h⟩
theorem ROpenPost.ok {w : World} {r : Nat} {nm : ByteArray} {rs : List (Res w.heap.size)} {R : OpenR} {m : DM} {recs : List (List UInt8)} {used j : Nat} {v : Value} {w' : World} (hr : R = ⟨0, m, some (recs, used)⟩) (h : Own w w' (rRef w.heap.size r m :: rObj w.heap.size j (rjObj r nm v) :: rRows w.heap.size v recs :: rs)) :
  ROpenPost w r nm rs R (.returned (.tuple #[.pointer (some ⟨j, 0, none⟩), .int .i64 0])) w' := by
 subst hr; exact .inr ⟨recs, used, j, v, rfl, rfl, h⟩
theorem Own.tuckR {w wr : World} {x a b : Res w.heap.size} {rs : List (Res w.heap.size)} (h : Own w wr (x :: a :: b :: rs)) : Own w wr (a :: b :: x :: rs) := Own.third (Own.third h)
theorem tmp_size (nm : ByteArray) : (tmpOf nm).size = nm.size + 1 := by unfold tmpOf; rw [ByteArray.size_append]; rfl
theorem isName_eq (s : ByteArray) : isName s = (decide ((1 : Int) ≤ (s.size : Int)) && decide ((s.size : Int) ≤ 160)) := by
 unfold isName
 congr 1
 rw [Bool.eq_iff_iff]
 have : s.toList.length = s.size := by rw [ByteArray.toList_eq, Array.length_toList]; rfl
 cases hl : s.toList with
 | nil => rw [hl] at this; simp at this ⊢; omega
 | cons x l => rw [hl] at this; simp at this ⊢; omega
theorem name_tmp {nm : ByteArray} (h : isName nm = true) (h2 : ¬ nm.size = 160) : isName (tmpOf nm) = true := by
 rw [isName_eq] at h ⊢
 rw [tmp_size]
 simp at h ⊢
 omega
theorem name_long {nm : ByteArray} (h2 : nm.size = 160) : isName (tmpOf nm) = false := by
 rw [isName_eq, tmp_size, h2]; rfl
theorem open_none {m : DM} {nm : ByteArray} (h : isName nm = false ∨ nm.size = 160) : openOf m nm = ⟨1, m, none⟩ := by
 unfold openOf
 rw [if_neg]
 rintro ⟨h1, h2⟩
 rcases h with h | h
 ·rw [h] at h1; cases h1
 ·rw [name_long h] at h2; cases h2
set_option maxRecDepth 100000 in
theorem ropen_bad {w w0 : World} {r : Nat} {m : DM} {rs : List (Res w.heap.size)} (h : Own w w0 (rRef w.heap.size r m :: rs)) {n t : Nat} (ht : Tidy m n t) (htt : t < 549755813888) (nm : ByteArray) (hb : isName nm = false ∨ nm.size = 160 ∨ m.down = true) :
  Calls Tryz.prog 28 #[.pointer (some ⟨r, 0, none⟩), .string nm] w0 (ROpenPost w r nm rs (openOf m nm)) := by
 have hi := risname_runs nm w0
 obtain ⟨na, nc, c1, c5, hf⟩ := h.now ht htt nm
 have H := hyd h
 have HI := hyd hi
 clear h hf hi
 cases hn : isName nm with
 | false =>
  have HE := hyd (open_none (m := m) (.inl hn))
  rw [hn] at HI
  clear hb c1 c5 hn
  go_enter Tryz.func28, Tryz.ntmps28
  go_wp2_with fail
  refine HI.out.mono ?_
  rintro e w' ⟨rfl, rfl⟩
  go_wp2_with fail
  go_ret2
  exact ROpenPost.bad HE.out H.out
 | true =>
  rw [hn] at HI
  by_cases hz : nm.size = 160
  ·have HE := hyd (open_none (m := m) (.inr hz))
   have hz' : (nm.size : Int) = 160 := by omega
   clear hb c1 c5 hn hz
   go_enter Tryz.func28, Tryz.ntmps28
   go_wp2_with fail
   refine HI.out.mono ?_
   rintro e w' ⟨rfl, rfl⟩
   go_wp2_with fail
   go_ret2
   exact ROpenPost.bad HE.out H.out
  ·have hd : m.down = true := by
    rcases hb with hb | hb | hb
    ·rw [hn] at hb; cases hb
    ·exact absurd hb hz
    ·exact hb
   have hE : openOf m nm = ⟨5, m, none⟩ := by
    unfold openOf
    rw [if_pos ⟨hn, name_tmp hn hz⟩]
    have : thereOf m nm = 5 := by simp [thereOf, hd]
    rw [this]; rfl
   have HE := hyd hE
   have hz' : ((nm.size : Int) == 160) = false := by simp; omega
   rw [hd] at c5
   clear hb c1 hn hz hd hE
   go_enter Tryz.func28, Tryz.ntmps28
   go_wp2_with fail
   refine HI.out.mono ?_
   rintro e w' ⟨rfl, rfl⟩
   go_wp2_with fail
   go_ret2
   exact ROpenPost.bad HE.out H.out
theorem ropen_new {m : DM} {nm : ByteArray} (h1 : isName nm = true) (h2 : ¬ nm.size = 160) (hd : m.down = false) (hf : findI m.now nm < 0) :
  openOf m nm = if (rthen (createOf m nm) syncOf).1 = 0 then ⟨0, (rthen (createOf m nm) syncOf).2, some ([], 0)⟩ else ⟨(rthen (createOf m nm) syncOf).1, (rthen (createOf m nm) syncOf).2, none⟩ := by
 have hg : (fget m.now nm).isSome = false := by rw [findI_some, decide_eq_true hf]; rfl
 have ht : thereOf m nm = 6 := by simp [thereOf, hd, hg]
 have hs : runSteps (createSteps nm) m = rthen (createOf m nm) syncOf := by
  unfold createSteps
  simp only [runSteps_fun, rthen_last]
 unfold openOf
 rw [if_pos ⟨h1, name_tmp h1 h2⟩, if_pos ht, hs]
set_option maxRecDepth 100000 in
theorem ropen_create {w w0 : World} {r : Nat} {m : DM} {rs : List (Res w.heap.size)} (h : Own w w0 (rRef w.heap.size r m :: rs)) {n t : Nat} (ht : Tidy m n t) (hn : n + 8 < 549755813888) (htt : t + 8 < 549755813888) (nm : ByteArray) (h1 : isName nm = true) (h2 : ¬ nm.size = 160) (hd : m.down = false) (hfi : findI m.now nm < 0) :
  Calls Tryz.prog 28 #[.pointer (some ⟨r, 0, none⟩), .string nm] w0 (ROpenPost w r nm rs (openOf m nm)) := by
 have hi := risname_runs nm w0
 have hE := ropen_new h1 h2 hd hfi
 obtain ⟨W, hW⟩ : ∃ W, W = w0.alloc (rjObj r nm (.slice none 0 0)) := ⟨_, rfl⟩
 have hal := (h.alloc2 (rjObj r nm (.slice none 0 0)))
 rw [← hW] at hal
 obtain ⟨na, nc, c1, c5, hf⟩ := hal.now ht (by omega) nm
 obtain ⟨na', nc', c1', c5', hf'⟩ := h.now ht (by omega) nm
 have hst := hal.rstep ht (by omega) (by omega) ⟨0, nm, ⟨#[]⟩, []⟩ ⟨by simp, by simp⟩ (fun _ => rfl) (fun F' w' _ _ => reads_nil w')
 rw [step_create] at hst
 have htc := ht.create nm
 rw [hd] at c5 c5'
 rw [h1] at hi
 have hz' : ((nm.size : Int) == 160) = false := by simp; omega
 have hge : decide (findI m.now nm < 0) = true := decide_eq_true hfi
 generalize findI m.now nm = fi at hf hge
 generalize createOf m nm = q at hst hE htc
 have HI := hyd hi
 have HF := hyd hf
 have HST := hyd hst
 have HTC := hyd htc
 have HE := hyd hE
 subst hW
 unfold rjObj at c1 HF HST
 clear h ht hal hi hf hst htc hE hd hfi h1 h2 c1' c5 hf'
 go_enter Tryz.func28, Tryz.ntmps28
 go_wp2_with fail
 refine HI.out.mono ?_
 rintro e w' ⟨rfl, rfl⟩
 clear HI
 go_wp2_with fail
 refine HF.out.mono ?_
 rintro e w' ⟨rfl, rfl⟩
 clear HF c1 c5'
 by_cases hq : q.1 = 0
 ·obtain ⟨e1, m1⟩ := q
  have he1 : e1 = 0 := hq
  subst he1
  go_wp2_with fail
  refine HST.out.mono ?_
  rintro e w4 ⟨rfl, ho4⟩
  obtain ⟨w5, hsy, ho5⟩ := ho4.rsync HTC.out
  have hE := HE.out
  rw [rthen_yes] at hE
  simp only at hsy ho5
  generalize syncOf m1 = q at hsy ho5 hE
  obtain ⟨e2, m2⟩ := q
  have HSY := hyd hsy
  have HO5 := hyd ho5
  clear HST ho4 hsy ho5 HE HTC
  by_cases he2 : e2 = 0
  ·subst he2
   rw [if_pos rfl] at hE
   have HE := hyd hE
   clear hE hq
   go_wp2_with fail
   refine HSY.out.mono ?_
   rintro e w' ⟨rfl, rfl⟩
   go_wp2_with fail
   go_ret2
   exact ROpenPost.ok HE.out (Own.tuckR (HO5.out.nilRows))
  ·rw [if_neg he2] at hE
   have HE := hyd hE
   have hne : (e2 != 0) = true := by simpa using he2
   clear hE hq he2
   go_wp2_with fail
   refine HSY.out.mono ?_
   rintro e w' ⟨rfl, rfl⟩
   go_wp2_with fail
   go_ret2
   exact ROpenPost.bad HE.out HO5.out.drop2
 ·obtain ⟨e1, m1⟩ := q
  have he1 : ¬ e1 = 0 := hq
  have hE := HE.out
  rw [rthen_no (r := (e1, m1)) hq, if_neg hq] at hE
  have HE := hyd hE
  have hne : (e1 != 0) = true := by simpa using he1
  have hne' : (e1 == 0) = false := by simpa using he1
  clear hE hq he1
  go_wp2_with fail
  refine HST.out.mono ?_
  rintro e w4 ⟨rfl, ho4⟩
  have HO4 := hyd ho4
  clear HST ho4 HTC
  go_wp2_with fail
  go_ret2
  exact ROpenPost.bad HE.out HO4.out.drop2
theorem frames_many (ll : List (List UInt8)) : ll.length ≤ (framesOf ll).length := by
 have : ∀ k, k ≤ ll.length → k ≤ (framesOf (ll.take k)).length := by
  intro k
  induction k with
  | zero => intro _; exact Nat.zero_le _
  | succ k ih =>
   intro hk
   obtain ⟨l, hl⟩ : ∃ l, ll[k]? = some l := ⟨ll[k], List.getElem?_eq_getElem hk⟩
   rw [framesOf_take_succ hl, List.length_append, frameOf_length]
   have := ih (by omega)
   omega
 have h := this ll.length (Nat.le_refl _)
 rwa [List.take_length] at h
theorem ropen_store {w wr w2 : World} {r j : Nat} {m : DM} {nm : ByteArray} {rs : List (Res w.heap.size)} {recs : List (List UInt8)} {v v0 : Value} (h : Own w wr (rRef w.heap.size r m :: rObj w.heap.size j (rjObj r nm v0) :: rs)) (hr : OwnsRecs w2 wr.heap.size v recs) (hk : Keeps (fun _ => False) wr w2) :
  ((∃ u, w2.cell? ⟨j, 2, none⟩ = some u) ∧ w2.frozen? ⟨j, 2, none⟩ = false) ∧ Own w (w2.setCell ⟨j, 2, none⟩ v) (rRef w.heap.size r m :: rObj w.heap.size j (rjObj r nm v) :: rRows w.heap.size v recs :: rs) := by
 have h1 := h.addRecs hr hk
 have hj := (h1.at (b := j) (o := rjObj r nm v0) (by simp)).1
 have h2 := (h1.third.store 2 v)
 refine ⟨⟨⟨_, cell_at hj rfl⟩, free_at hj 2⟩, ?_⟩
 have e : (#[Value.pointer (some ⟨r, 0, none⟩), Value.string nm, v0] : Array Value).setIfInBounds 2 v = #[Value.pointer (some ⟨r, 0, none⟩), Value.string nm, v] := rfl
 rw [e] at h2
 exact h2.third
theorem open_there10 {m : DM} {nm : ByteArray} (h1 : isName nm = true) (h2 : ¬ nm.size = 160) (hd : m.down = false) (hf : ¬ findI m.now nm < 0) :
  openOf m nm = (if (scanOf ((fget m.now nm).getD [])).2 < ((fget m.now nm).getD []).length then openLay m nm (scanOf ((fget m.now nm).getD [])) else ⟨0, m, some (scanOf ((fget m.now nm).getD []))⟩) := by
 have hg : (fget m.now nm).isSome = true := by rw [findI_some, decide_eq_false hf]; rfl
 have ht : thereOf m nm = 0 := by simp [thereOf, hd, hg]
 unfold openOf
 rw [if_pos ⟨h1, name_tmp h1 h2⟩, ht, if_neg (by decide), if_pos rfl]
set_option maxRecDepth 100000 in
theorem ropen_there {w w0 : World} {r : Nat} {m : DM} {rs : List (Res w.heap.size)} (h : Own w w0 (rRef w.heap.size r m :: rs)) {n t : Nat} (ht : Tidy m n t) (hn : n + 67108880 < 549755813888) (htt : t + 67108880 < 549755813888) (nm : ByteArray) (hnm : nm.size ≤ 65536) (h1 : isName nm = true) (h2 : ¬ nm.size = 160) (hd : m.down = false) (hfi : ¬ findI m.now nm < 0) :
  Calls Tryz.prog 28 #[.pointer (some ⟨r, 0, none⟩), .string nm] w0 (ROpenPost w r nm rs (openOf m nm)) := by
 have hi := risname_runs nm w0
 have hE := open_there10 h1 h2 hd hfi
 have hg : (fget m.now nm).isSome = true := by rw [findI_some, decide_eq_false hfi]; rfl
 obtain ⟨k, hk, hkf⟩ := findI_get hg
 have hbl : ((fget m.now nm).getD []).length ≤ 67108864 := ht.good.get nm
 generalize (fget m.now nm).getD [] = b at hE hkf hbl
 have hlen := ht.lnow
 have hkl := (List.getElem?_eq_some_iff.1 hkf).1
 obtain ⟨W, hW⟩ : ∃ W, W = w0.alloc (rjObj r nm (.slice none 0 0)) := ⟨_, rfl⟩
 have hal := (h.alloc2 (rjObj r nm (.slice none 0 0)))
 rw [← hW] at hal
 obtain ⟨F, hri, hFb⟩ := hal.head
 obtain ⟨vn, vs, vl, hra⟩ := hri
 have hf := rfind_runs hra.now nm (by omega)
 have c1 := hra.cells.c1
 obtain ⟨g, cap, p, rfl, _, cp, hB⟩ := hra.now.cell hkf
 have hB : Reads W p b := hB.reads
 obtain ⟨pa, pc, rfl, _, _⟩ := hB.form
 have hsc := rscan_calls hB (by omega)
 obtain ⟨na', nc', c1', c5', hf'⟩ := h.now ht (by omega) nm
 rw [hd] at c5'
 rw [h1] at hi
 rw [hk] at hf
 have hle := scanOf_le b
 have hfl := scan_frames_le b
 have hz' : ((nm.size : Int) == 160) = false := by simp; omega
 have hge : decide ((k : Int) < 0) = false := decide_eq_false (by omega)
 have j0 : (k : Int) < m.now.length := by omega
 have j1 : (0 : Int) ≤ k := by omega
 have HSTO := hyd (fun (w3 : World) (v : Value) (ho : OwnsRecs w3 W.heap.size v (scanOf b).1) (hk : Keeps (fun _ => False) W w3) => ropen_store hal ho hk)
 generalize scanOf b = s at hsc hE hle hfl HSTO
 obtain ⟨recs, used⟩ := s
 simp only at hsc hle hfl HSTO
 have HI := hyd hi
 have HF := hyd hf
 have HSC := hyd hsc
 have HT := hyd ht
 subst hW
 unfold rjObj at c1 cp HF HSC HSTO
 have HE := hyd hE
 clear h ht hal hi hf hsc hd hfi h1 h2 c1' hf' hra hg hkf hB hFb hk hE
 go_enter Tryz.func28, Tryz.ntmps28
 go_wp2_with fail
 refine HI.out.mono ?_
 rintro e w' ⟨rfl, rfl⟩
 clear HI
 go_wp2_with fail
 refine HF.out.mono ?_
 rintro e w' ⟨rfl, rfl⟩
 clear HF
 go_wp2_with fail
 refine HSC.out.mono ?_
 rintro e w3 ⟨v, rfl, ho3, hk3⟩
 obtain ⟨⟨⟨u, hu⟩, hf⟩, h4⟩ := HSTO.out w3 v ho3 hk3
 obtain ⟨va, vc, rfl⟩ := ho3.form
 have H4 := hyd h4
 clear h4 ho3 hk3 HSTO HSC
 by_cases hlt : used < b.length
 ·have b1 : decide (used < b.length) = true := decide_eq_true hlt
  have hE := HE.out
  rw [if_pos hlt] at hE
  unfold openLay at hE
  have hlay := rlay_calls H4.out HT.out nm hnm (H4.out.rows (v := .slice va recs.length vc) (ll := recs) (by simp)).1 (by omega) (by omega) (Nat.le_trans (frames_many recs) (by omega))
  have HL := hyd hlay
  simp only at hE
  have HE := hyd hE
  clear hE hlay H4 hlt
  go_wp2_with fail
  refine HL.out.mono ?_
  rintro e w5 ⟨rfl, h5⟩
  have hE := HE.out
  generalize layOf m nm (framesOf recs) = q at h5 hE ⊢
  obtain ⟨qc, qm⟩ := q
  have H5 := hyd h5
  clear h5 HL HE
  by_cases hq : qc = 0
  ·subst hq
   rw [if_pos rfl] at hE
   have HE := hyd hE
   clear hE
   go_wp2_with fail
   go_ret2
   exact ROpenPost.ok HE.out H5.out
  ·rw [if_neg hq] at hE
   have HE := hyd hE
   have b0 : (qc != 0) = true := by simpa using hq
   clear hE hq
   go_wp2_with fail
   go_ret2
   exact ROpenPost.bad HE.out H5.out.drop_two
 ·have b1 : decide (used < b.length) = false := decide_eq_false hlt
  have hE := HE.out
  rw [if_neg hlt] at hE
  have HE := hyd hE
  clear hE hlt
  go_wp2_with fail
  go_ret2
  exact ROpenPost.ok HE.out H4.out
theorem ropen_calls {w w0 : World} {r : Nat} {m : DM} {rs : List (Res w.heap.size)} (h : Own w w0 (rRef w.heap.size r m :: rs)) {n t : Nat} (ht : Tidy m n t) (hn : n + 67108880 < 549755813888) (htt : t + 67108880 < 549755813888) (nm : ByteArray) (hnm : nm.size ≤ 65536) :
  Calls Tryz.prog 28 #[.pointer (some ⟨r, 0, none⟩), .string nm] w0 (ROpenPost w r nm rs (openOf m nm)) := by
 by_cases hb : isName nm = false ∨ nm.size = 160 ∨ m.down = true
 ·exact ropen_bad h ht (by omega) nm hb
 ·have h1 : isName nm = true := by
   cases hx : isName nm with
   | true => rfl
   | false => exact absurd (.inl hx) hb
  have h2 : ¬ nm.size = 160 := fun hx => hb (.inr (.inl hx))
  have hd : m.down = false := by
   cases hx : m.down with
   | false => rfl
   | true => exact absurd (.inr (.inr hx)) hb
  by_cases hf : findI m.now nm < 0
  ·exact ropen_create h ht (by omega) (by omega) nm h1 h2 hd hf
  ·exact ropen_there h ht hn htt nm hnm h1 h2 hd hf
theorem Own.pushR {w wr w1 : World} {rs : List (Res w.heap.size)} {v p : Value} {ll : List (List UInt8)} {l : List UInt8} (h : Own w wr (rRows w.heap.size v ll :: rs)) (hp : Owns w1 wr.heap.size p l) (hk : Keeps (fun _ => False) wr w1) (hb : ll.length < 1099511627776) :
  ∃ a c w', (Builtin.append_ #[50, 50] 50 #[v, .slice (some ⟨w1.heap.size, 0, none⟩) 1 1]).run Tryz.prog (w1.alloc (.cells #[p] 36)) = .ok (.slice a (ll.length + 1) c) w' ∧ Own w w' (rRows w.heap.size (.slice a (ll.length + 1) c) (ll ++ [l]) :: rs) := by
 have hz := h.keeps.size
 obtain ⟨F, ⟨ps, G, h1, h2, h3, h4⟩, hF, back⟩ := h.open1
 have hp1 : p.oneCell' = true := by obtain ⟨a, c, rfl, _⟩ := hp.bytes.form; rfl
 have h1' := row_keep h1 hk (fun _ _ e => e)
 obtain ⟨v', w', hr, ho, hk2, hat⟩ := row_push h1' (Nat.zero_le _) hp1 hb
 obtain ⟨a, c, e⟩ := ownsRow_slice ho
 subst e
 have hkF : Keeps F wr w' := (hk.mono (fun _ _ e => e.elim)).trans hk2 (fun b _ e => (h4 b e).1)
 have hsz := hk.size
 have hsz2 := hk2.size
 have hp2 : Owns w' wr.heap.size p l := owns_keep hp hk2 (fun b hb e => row_ne h1' hp e hb)
 refine ⟨a, c, w', hr, back w' (rRows _ (.slice a (ll.length + 1) c) (ll ++ [l])) hkF ⟨ps ++ [p], fun b => G b ∨ p.ownBlock = some b, by rw [List.length_append]; exact ho, Rel2.append ?_ ⟨?_, trivial⟩, fun b hb => ?_, fun b hb => ?_⟩⟩
 ·refine h2.mono (fun q m hq => (hq.keep (fun b hb => ?_)).wider (fun b hb => .inl hb))
  have hlt : b < wr.heap.size := by
   rcases hb with hb | hb
   ·exact (hF b (h3 b hb)).2
   ·omega
  refine (hk2.block b (by omega) (fun e => ?_)).trans (hk.block b hlt (fun e => e))
  obtain ⟨_, e2, e3⟩ := h4 b e
  rcases hb with hb | hb
  ·exact e3 hb
  ·omega
 ·exact (ReadsF.of_owns hp2).wider (fun b hb => .inr hb)
 ·rcases hb with hb | hb
  ·exact .inl (h3 b hb)
  ·have := owns_lt hp b hb
   exact .inr ⟨by omega, by omega⟩
 ·have hlt := row_lt ho b hb
  rcases hat with hat | hat
  ·rw [hat] at hb
   obtain ⟨e1, e2, e3⟩ := h4 b hb
   exact ⟨.inl e1, e2, fun e => by rcases e with e | e; exact e3 e; exact row_ne h1' hp hb e⟩
  ·rw [hat] at hb
   cases hb
   refine ⟨.inr ⟨by omega, hlt.1⟩, by omega, fun e => ?_⟩
   rcases e with e | e
   ·have := hF _ (h3 _ e); omega
   ·have := owns_lt hp _ e; omega
def rAppendOf (m : DM) (nm : ByteArray) (recs : List (List UInt8)) (p : List UInt8) : Int × DM × List (List UInt8) :=
 if 1048568 < p.length then (8, m, recs) else if (appendOf m nm (frameOf p)).1 = 0 then (0, (appendOf m nm (frameOf p)).2, recs ++ [p]) else ((appendOf m nm (frameOf p)).1, (appendOf m nm (frameOf p)).2, recs)
def RJPost (w : World) (r j : Nat) (nm : ByteArray) (rs : List (Res w.heap.size)) (res : Int × DM × List (List UInt8)) (e : Ending) (w' : World) : Prop :=
 e = .returned (.int .i64 res.1) ∧ ∃ v, Own w w' (rRef w.heap.size r res.2.1 :: rObj w.heap.size j (rjObj r nm v) :: rRows w.heap.size v res.2.2 :: rs)
theorem rj_cells {w : World} {r j : Nat} {nm : ByteArray} {v : Value} (h : w.heap[j]? = some (rjObj r nm v)) : w.cell? ⟨j, 0, none⟩ = some (.pointer (some ⟨r, 0, none⟩)) ∧ w.cell? ⟨j, 1, none⟩ = some (.string nm) ∧ w.cell? ⟨j, 2, none⟩ = some v ∧ w.frozen? ⟨j, 2, none⟩ = false :=
 ⟨cell_at h rfl, cell_at h rfl, cell_at h rfl, free_at h 2⟩
theorem rj_push {w w2 : World} {r j : Nat} {m : DM} {nm : ByteArray} {vr : Value} {recs : List (List UInt8)} {rs : List (Res w.heap.size)} (h : Own w w2 (rRef w.heap.size r m :: rObj w.heap.size j (rjObj r nm vr) :: rRows w.heap.size vr recs :: rs)) (hrl : recs.length < 1099511627776) {p : List UInt8} :
  ∀ (w3 : World) (tv : Value), Owns w3 w2.heap.size tv p → Keeps (fun _ => False) w2.drew w3 → ∃ a c w4, (Builtin.append_ #[50, 50] 50 #[vr, .slice (some ⟨w3.heap.size, 0, none⟩) 1 1]).run Tryz.prog (w3.alloc (.cells #[tv] 36)) = .ok (.slice a (recs.length + 1) c) w4 ∧ w3.cell? ⟨j, 2, none⟩ = some vr ∧ w4.cell? ⟨j, 2, none⟩ = some vr ∧ w4.frozen? ⟨j, 2, none⟩ = false ∧
   Own w (w4.setCell ⟨j, 2, none⟩ (.slice a (recs.length + 1) c)) (rRef w.heap.size r m :: rObj w.heap.size j (rjObj r nm (.slice a (recs.length + 1) c)) :: rRows w.heap.size (.slice a (recs.length + 1) c) (recs ++ [p]) :: rs) := fun w3 tv ho hk => by
 have h1 := h.third
 have hj := (h.at (b := j) (o := rjObj r nm vr) (by simp)).1
 have hj3 := hk.undrew.at hj (fun e => e)
 obtain ⟨a, c, w4, hrun, h4⟩ := h1.pushR ho hk.undrew hrl
 have h5 := h4.third
 have hj4 := (h5.at (b := j) (o := rjObj r nm vr) (by simp)).1
 exact ⟨a, c, w4, hrun, (rj_cells hj3).2.2.1, (rj_cells hj4).2.2.1, (rj_cells hj4).2.2.2, (h5.store 2 (.slice a (recs.length + 1) c)).third⟩
set_option maxRecDepth 100000 in
set_option maxHeartbeats 1000000 in
theorem rappend_callsO {w w0 : World} {r j : Nat} {m : DM} {nm : ByteArray} {vr : Value} {recs : List (List UInt8)} {rs : List (Res w.heap.size)} (h : Own w w0 (rRef w.heap.size r m :: rObj w.heap.size j (rjObj r nm vr) :: rRows w.heap.size vr recs :: rs)) {n t : Nat} (ht : Tidy m n t) (hn : n + 8 < 549755813888) (htt : t + 8 < 549755813888) (hrl : recs.length < 1099511627776) {v : Value} {p : List UInt8} (hp : ∀ (wr : World) (l : List (Res w.heap.size)), Own w wr (l ++ rs) → Reads wr v p) :
  Calls Tryz.prog 39 #[.pointer (some ⟨j, 0, none⟩), v] w0 (RJPost w r j nm rs (rAppendOf m nm recs p)) := by
 obtain ⟨ra, rc, rfl⟩ := (h.rows (v := vr) (ll := recs) (by simp)).2
 have hp0 := hp w0 [_, _, _] h
 obtain ⟨pa, pc, rfl, _, _⟩ := hp0.form
 obtain ⟨c0, c1, c2, _⟩ := rj_cells (h.at (b := j) (o := rjObj r nm (.slice ra recs.length rc)) (by simp)).1
 unfold rAppendOf
 by_cases hbig : 1048568 < p.length
 ·rw [if_pos hbig]
  have HO := hyd h
  have b0 : decide ((1048568 : Int) < (p.length : Int)) = true := decide_eq_true (by omega)
  clear h hbig hp hp0
  go_enter Tryz.func39, Tryz.ntmps39
  go_wp2_with fail
  go_ret
  exact ⟨rfl, .slice ra recs.length rc, HO.out⟩
 ·rw [if_neg hbig]
  have b0 : decide ((1048568 : Int) < (p.length : Int)) = false := decide_eq_false (by omega)
  generalize hR : (if (appendOf m nm (frameOf p)).1 = 0 then (0, (appendOf m nm (frameOf p)).2, recs ++ [p]) else ((appendOf m nm (frameOf p)).1, (appendOf m nm (frameOf p)).2, recs) : Int × DM × List (List UInt8)) = R
  have HR := hyd hR
  have HR0 := hR
  have hfr := rframe_calls (hp0.keep (Keeps.refl _ w0).drew) (by omega)
  have d0 : w0.drew.cell? ⟨j, 0, none⟩ = some (.pointer (some ⟨r, 0, none⟩)) := c0
  have d1 : w0.drew.cell? ⟨j, 1, none⟩ = some (.string nm) := c1
  have HFR := hyd hfr
  have HO := hyd h
  have HT := hyd ht
  have HP := hyd hp
  have hpl : p.length ≤ 1048568 := by omega
  have hj := (h.at (b := j) (o := rjObj r nm (.slice ra recs.length rc)) (by simp)).1
  have ck : ∀ w1 : World, Keeps (fun _ => False) w0.drew w1 → w1.cell? ⟨j, 0, none⟩ = some (.pointer (some ⟨r, 0, none⟩)) ∧ w1.cell? ⟨j, 1, none⟩ = some (.string nm) := fun w1 hk => by
   have hb := hk.undrew.at hj (fun e => e)
   exact ⟨(rj_cells hb).1, (rj_cells hb).2.1⟩
  have hstf : ∀ (w1 : World) (fv : Value), Owns w1 w0.heap.size fv (frameOf p) → Keeps (fun _ => False) w0.drew w1 → Calls Tryz.prog 58 #[.pointer (some ⟨r, 0, none⟩), .agg #[.int .i64 1, .string nm, .string ⟨#[]⟩, fv]] w1 (fun e w2 => e = .returned (.int .i64 (appendOf m nm (frameOf p)).1) ∧ Own w w2 (rRef w.heap.size r (appendOf m nm (frameOf p)).2 :: rObj w.heap.size j (rjObj r nm (.slice ra recs.length rc)) :: rRows w.heap.size (.slice ra recs.length rc) recs :: rs) ∧ w2.cell? ⟨j, 0, none⟩ = some (.pointer (some ⟨r, 0, none⟩)) ∧ w2.cell? ⟨j, 1, none⟩ = some (.string nm)) := fun w1 fv ho1 hk1 => by
   have hst := (h.addBytes ho1 hk1.undrew).swap.rstepB ht (by omega) (by omega) ⟨1, nm, ⟨#[]⟩, frameOf p⟩ ⟨by simp, by simp⟩ (fun h => absurd rfl h) (fun w' hw' => hw')
   rw [step_append] at hst
   refine hst.mono ?_
   rintro e w2 ⟨he, ho⟩
   have hb := (ho.at (b := j) (o := rjObj r nm (.slice ra recs.length rc)) (by simp)).1
   exact ⟨he, ho.drop2, (rj_cells hb).1, (rj_cells hb).2.1⟩
  clear hR HR
  generalize appendOf m nm (frameOf p) = q at hstf HR0
  obtain ⟨qc, qm⟩ := q
  simp only at hstf HR0
  have HR := hyd HR0
  clear HR0
  have CK := hyd ck
  have HSTF := hyd hstf
  clear h ht hbig hp hp0 hfr ck hstf hj
  go_enter Tryz.func39, Tryz.ntmps39
  go_wp2_with fail
  go_region_law (first | (refine step_wantedR rfl ?_; go_simp; go_at_call 101; refine HFR.out.mono ?_; rintro e w1 ⟨fv, rfl, ho1, hk1⟩; obtain ⟨q1, q2⟩ := CK.out _ hk1; obtain ⟨fa, fc, rfl, _, _⟩ := ho1.bytes.form) | (refine step_wantedR rfl ?_; go_simp; go_at_call 58; refine (HSTF.out _ _ ho1 hk1).mono ?_; rintro e w2 ⟨rfl, ho2, s1, s2⟩) | fail)
  all_goals
   clear q1 q2 ho1 hk1 HFR HSTF CK d0 d1 c0 c1 c2
   by_cases hq : qc = 0
   ·subst hq
    have hR := HR.out
    rw [if_pos rfl] at hR
    have HR := hyd hR
    have htw := twin_calls (w := w2.drew) ((HP.out w2 [_, _, _] ho2).keep (Keeps.refl _ w2).drew) (by omega)
    have HTW := hyd htw
    have HPU := hyd (rj_push ho2 hrl (p := p))
    have e2 := (rj_cells (ho2.at (b := j) (o := rjObj r nm (.slice ra recs.length rc)) (by simp)).1).2.2.1
    have e2d : w2.drew.cell? ⟨j, 2, none⟩ = some (.slice ra recs.length rc) := e2
    clear hR htw ho2 s1 s2
    go_wp2_with fail
    go_region_law (first | (refine step_wantedR rfl ?_; go_simp; go_at_call 20; refine HTW.out.mono ?_; rintro e w3 ⟨tv, rfl, ho3, hk3⟩; obtain ⟨a4, c4, w4, hrun, g0, g1, g2, hfin⟩ := HPU.out _ _ ho3 hk3; obtain ⟨ta, tc, rfl, _, _⟩ := ho3.bytes.form; have HFIN := hyd hfin; have HRUN := hyd hrun; have g3 := (World.cell?_alloc_lt w3 (.cells #[.slice ta p.length tc] 36) ⟨j, 2, none⟩ (World.block_lt_of_cell? w3 _ g0)).trans g0; clear hfin hrun) | (refine step_append_run rfl _ _ _ _ rfl rfl rfl HRUN.out ?_) | fail)
    all_goals
     clear g0 g1 g2 g3 hk3 ho3 HPU HTW HRUN
     go_wp2_with fail
     go_ret
     rw [← HR.out]
     exact ⟨rfl, _, HFIN.out⟩
   ·have hR := HR.out
    rw [if_neg hq] at hR
    have HR := hyd hR
    have hne : (qc == 0) = false := by simpa using hq
    have HO2 := hyd ho2
    clear hR hq ho2 s1 s2
    go_wp2_with fail
    go_ret
    rw [← HR.out]
    exact ⟨rfl, .slice ra recs.length rc, HO2.out⟩
theorem Tidy.openJ {m : DM} {n t : Nat} (h : Tidy m n t) (nm : ByteArray) : Tidy (openOf m nm).m (n + 67108880) (t + 67108880) := by
 have hb := h.good.get nm
 have hs := scan_frames_le ((fget m.now nm).getD [])
 unfold openOf
 split
 ·split
  ·have hr : runSteps (createSteps nm) m = rthen (createOf m nm) syncOf := by
    unfold createSteps
    simp only [runSteps_fun, rthen_last]
   have h2 : Tidy (rthen (createOf m nm) syncOf).2 (n + 1 + 0) (t + 1 + 0) := (h.create nm).then (h.create nm).sync
   rw [hr]
   split <;> exact h2.mono (by omega) (by omega)
  ·split
   ·split
    ·unfold openLay
     have := h.lay nm (framesOf (scanOf ((fget m.now nm).getD [])).1)
     split <;> exact this.mono (by omega) (by omega)
    ·exact h.mono (by omega) (by omega)
   ·exact h.mono (by omega) (by omega)
 ·exact h.mono (by omega) (by omega)
theorem scan_used (b : List UInt8) : (scanOf b).2 = (framesOf (scanOf b).1).length := by
 have h := (scanFrom_frames (l := b) (b.length + 1) 0 (Nat.zero_le _)).1
 unfold scanOf
 omega
theorem open_recs {m : DM} {n : Nat} (h : Good m n) (nm : ByteArray) {l : List (List UInt8)} {u : Nat} (hr : (openOf m nm).res = some (l, u)) : (openOf m nm).code = 0 ∧ u = (framesOf l).length ∧ u ≤ 67108864 := by
 have hb := h.get nm
 have hs := scan_frames_le ((fget m.now nm).getD [])
 have hu := scan_used ((fget m.now nm).getD [])
 have key : ∀ s : List (List UInt8) × Nat, s = scanOf ((fget m.now nm).getD []) → s = (l, u) → u = (framesOf l).length ∧ u ≤ 67108864 := fun s h1 h2 => by
  subst h2
  rw [← h1] at hs hu
  simp only at hs hu
  omega
 unfold openOf at hr ⊢
 split at hr
 ·rename_i h1
  rw [if_pos h1]
  split at hr
  ·rename_i h2
   rw [if_pos h2]
   split at hr
   ·rename_i h3
    rw [if_pos h3]
    simp only [Option.some.injEq, Prod.mk.injEq] at hr
    obtain ⟨rfl, rfl⟩ := hr
    exact ⟨rfl, rfl, Nat.zero_le _⟩
   ·cases hr
  ·rename_i h2
   rw [if_neg h2]
   split at hr
   ·rename_i h3
    rw [if_pos h3]
    split at hr
    ·rename_i h4
     rw [if_pos h4]
     unfold openLay at hr ⊢
     split at hr
     ·rename_i h5
      rw [if_pos h5]
      simp only [Option.some.injEq] at hr
      exact ⟨rfl, key _ rfl hr⟩
     ·cases hr
    ·rename_i h4
     rw [if_neg h4]
     simp only [Option.some.injEq] at hr
     exact ⟨rfl, key _ rfl hr⟩
   ·cases hr
 ·cases hr
end Go.Proofs.YtddnikpdmjogiaaGreat
