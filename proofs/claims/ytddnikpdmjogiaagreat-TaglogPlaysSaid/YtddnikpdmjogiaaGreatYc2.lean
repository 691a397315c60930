/- A part of the proof. -/
import Derived.Test.YtddnikpdmjogiaaGreatYc1
import Derived.Deep.DeepCutAuto
import Derived.Deep.CutBlock
namespace Go.Proofs.YtddnikpdmjogiaaGreat
set_option linter.unusedVariables false
open Go.RowKit Go.MapKept
theorem Tidy.create {m : DM} {n t : Nat} (h : Tidy m n t) (f : ByteArray) : Tidy (createOf m f).2 (n + 1) (t + 1) := by
 rw [← step_create]; exact h.step _ ⟨by simp, by simp⟩ (fun _ => rfl) (fun _ => Nat.zero_le _)
theorem Tidy.append {m : DM} {n t : Nat} (h : Tidy m n t) (f : ByteArray) (p : List UInt8) : Tidy (appendOf m f p).2 (n + 1) (t + 1) := by
 rw [← step_append]; exact h.step _ ⟨by simp, by simp⟩ (fun e => absurd rfl e) (fun _ => Nat.zero_le _)
theorem Tidy.remove {m : DM} {n t : Nat} (h : Tidy m n t) (f : ByteArray) : Tidy (removeOf m f).2 (n + 1) (t + 1) := by
 rw [← step_remove]; exact h.step _ ⟨by simp, by simp⟩ (fun _ => rfl) (fun _ => Nat.zero_le _)
theorem Tidy.rename {m : DM} {n t : Nat} (h : Tidy m n t) (f g : ByteArray) : Tidy (renameOf m f g).2 (n + 1) (t + 1) := by
 rw [← step_rename]; exact h.step _ ⟨by simp, by simp⟩ (fun _ => rfl) (fun e => absurd rfl e)
theorem Tidy.first {m : DM} {n t : Nat} (h : Tidy m n t) (f : ByteArray) : Tidy (rfirst m f).2 (n + 1) (t + 1) := by
 unfold rfirst
 split
 ·exact h.remove f
 ·exact h.mono (Nat.le_succ _) (Nat.le_succ _)
theorem Tidy.then {r : Int × DM} {f : DM → Int × DM} {n t a : Nat} (h : Tidy r.2 n t) (hf : Tidy (f r.2).2 (n + a) (t + a)) : Tidy (rthen r f).2 (n + a) (t + a) := by
 unfold rthen
 split
 ·exact hf
 ·exact h.mono (by omega) (by omega)
theorem Tidy.write {t' : ByteArray} {b : List UInt8} : ∀ (f : Nat) {m : DM} {n t i : Nat}, Tidy m n t → Tidy (writeFrom t' b f m i).2 (n + f) (t + f)
 | 0, m, n, t, i, h => h
 | f + 1, m, n, t, i, h => by
  rw [writeFrom]
  split
  ·split
   ·have := Tidy.write (t' := t') (b := b) f (i := i + 1048576) (h.append t' ((b.drop i).take 1048576))
    rw [show n + (f + 1) = n + 1 + f by omega, show t + (f + 1) = t + 1 + f by omega]; exact this
   ·exact (h.append t' _).mono (by omega) (by omega)
  ·exact h.mono (by omega) (by omega)
theorem Tidy.full {r : Int × DM} {n t : Nat} (h : Tidy r.2 n t) (f : ByteArray) : Tidy (rfull f r).2 (n + 1) (t + 1) := by
 unfold rfull
 split
 ·split
  ·exact h.remove f
  ·exact h.remove f
 ·exact h.mono (Nat.le_succ _) (Nat.le_succ _)
theorem Tidy.rlay {m : DM} {n t : Nat} (h : Tidy m n t) (nm : ByteArray) (b : List UInt8) : Tidy (rlaySteps m nm b).2 (n + (b.length + 6)) (t + (b.length + 6)) := by
 have h1 := Tidy.then (a := 1) (f := fun m => createOf m (tmpOf nm)) (h.first (tmpOf nm)) ((h.first _).create _)
 have h2 := Tidy.then (a := b.length / 1048576 + 1) (f := fun m => writeOf m (tmpOf nm) b) h1 (Tidy.write _ h1)
 have h3 := Tidy.then (a := 0) (f := syncOf) h2 h2.sync
 have h4 := Tidy.then (a := 1) (f := fun m => renameOf m (tmpOf nm) nm) h3 (h3.rename _ _)
 have h5 := Tidy.then (a := 0) (f := syncOf) h4 h4.sync
 exact h5.mono (by omega) (by omega)
theorem Tidy.lay {m : DM} {n t : Nat} (h : Tidy m n t) (nm : ByteArray) (b : List UInt8) : Tidy (layOf m nm b).2 (n + (b.length + 7)) (t + (b.length + 7)) := by
 rw [← rlay_eq]
 exact (h.rlay nm b).full _
theorem Own.now {w wr : World} {r : Nat} {m : DM} {rs : List (Res w.heap.size)} (h : Own w wr (rRef w.heap.size r m :: rs)) {n t : Nat} (ht : Tidy m n t) (htt : t < 549755813888) (s : ByteArray) :
  ∃ na nc, wr.cell? ⟨r, 1, none⟩ = some (.slice na m.now.length nc) ∧ wr.cell? ⟨r, 5, none⟩ = some (.bool m.down) ∧ Runs 67 #[.slice na m.now.length nc, .string s] wr (.int .i64 (findI m.now s)) wr := by
 obtain ⟨F, hri, hFb⟩ := h.head
 obtain ⟨vn, vs, vl, hra⟩ := hri
 have hl := ht.lnow
 have hfi := rfind_runs hra.now s (by omega)
 have c1 := hra.cells.c1
 have c5 := hra.cells.c5
 obtain ⟨na, nc, rfl, _, _⟩ := hra.now.form
 exact ⟨na, nc, c1, c5, hfi⟩
theorem ROwn.of2 {w w' : World} {r : Nat} {rs : List (Res w.heap.size)} {x : Res w.heap.size} {res res' : Int × DM} {e : Ending} (h : ROwn w r (x :: rs) res e w') (hres : res = res') : ROwn w r rs res' e w' := by
 subst hres
 exact ⟨h.1, h.2.swap.drop⟩
def RLay (w : World) (r : Nat) (rs : List (Res w.heap.size)) (n t : Nat) (P : Int × DM) (ev : Value) (wx : World) : Prop :=
 ∃ (e : Int) (m : DM), P = (e, m) ∧ ev = .int .i64 e ∧ Own w wx (rRef w.heap.size r m :: rs) ∧ Tidy m n t
theorem meas_step (a k : Nat) (s : Int) (hs : 0 < s) (h : k < a) : a - ((k : Int) + s).toNat < a - (k : Int).toNat := by omega
theorem rthen_no {r : Int × DM} {f : DM → Int × DM} (h : ¬ r.1 = 0) : rthen r f = r := if_neg h
theorem rthen_yes {m : DM} {f : DM → Int × DM} : rthen (0, m) f = f m := if_pos rfl
set_option maxRecDepth 100000 in
set_option maxHeartbeats 2000000 in
theorem rlay_calls {w w0 : World} {r : Nat} {m : DM} {rs : List (Res w.heap.size)} (h : Own w w0 (rRef w.heap.size r m :: rs)) {n t : Nat} (ht : Tidy m n t) (nm : ByteArray) (hnm : nm.size ≤ 65536) {v : Value} {ll : List (List UInt8)} (hr : RowsIn w0 v ll)
  (hn : n + (framesOf ll).length + 8 < 549755813888) (htt : t + (framesOf ll).length + 8 < 549755813888) (hll : ll.length ≤ 1099511627776) :
  Calls Tryz.prog 88 #[.pointer (some ⟨r, 0, none⟩), .string nm, v] w0 (ROwn w r rs (layOf m nm (framesOf ll))) := by
 rw [← rlay_eq]
 obtain ⟨a, c, rfl, hcell⟩ := hr
 have hadd : ∀ w, (Op.stringOp .add nm ⟨#[43]⟩).run Tryz.prog w = .ok (.string (tmpOf nm)) w := fun w => run_string_add_sum w nm ⟨#[43]⟩ (by change nm.size + 1 ≤ _; omega)
 have HC := hyd hcell
 have HO := hyd h
 have HT := hyd ht
 have hfl := framesOf_take_le ll
 have i1 : (ll.length : Int) ≤ 1099511627776 := by omega
 clear h ht hcell
 go_enter Tryz.func88, Tryz.ntmps88
 go_wp2_with fail
 clear hadd
 go_loopw [8, 9] (fun bv iv wx => ∃ (k : Nat), k ≤ ll.length ∧ iv = .int .i64 (k : Int) ∧ Owns wx w0.heap.size bv (framesOf (ll.take k)) ∧ Keeps (fun _ => False) w0 wx) (fun _ iv _ => ll.length - (intOf iv).toNat)
 case atStart => exact ⟨0, Nat.zero_le _, rfl, Owns.nil _ _, Keeps.refl _ _⟩
 case round =>
  obtain ⟨k, hk, rfl, hb, hq⟩ := hrel
  have j0 : (0 : Int) ≤ k := by omega
  obtain ⟨ba, bc, rfl, hbl, hbm⟩ := hb.bytes.form
  by_cases hlt : k < ll.length
  ·obtain ⟨l, hl⟩ : ∃ l, ll[k]? = some l := ⟨ll[k], List.getElem?_eq_getElem hlt⟩
   obtain ⟨x, p, rfl, hcx, hrd⟩ := HC.out k l hl
   have hcz : wr.cell? (x.add k) = some p := (World.cell?_of_block (hq.block _ (World.block_lt_of_cell? w0 _ hcx) (fun e => e))).trans hcx
   obtain ⟨pa, pc, rfl, _, _⟩ := hrd.form
   have j1 : (k : Int) < ll.length := by omega
   have hle := record_le hl
   have hfr := (rframe_calls (hrd.keep hq) (by omega)).mono (fun e w1 h => h)
   have HFR := hyd hfr
   have HBO := hyd hb
   have HQ := hyd hq
   have hs := framesOf_take_succ hl
   have hsl := hfl (k + 1)
   rw [hs, List.length_append] at hsl
   have HS := hyd hs
   clear hfr hcx hrd hb hq hs
   go_wp2_with fail
   refine HFR.out.mono ?_
   rintro e w1 ⟨pv, rfl, ho1, hk1⟩
   obtain ⟨v', w', hrun, hob, hkb⟩ := Owns.grow (Nat.le_trans HQ.out.size hk1.size) (HBO.out.keep hk1) ho1.bytes.reads (by omega)
   rw [← HS.out] at hob
   obtain ⟨va, vc, rfl, _, _⟩ := hob.bytes.form
   have HRUN := hyd hrun
   have HREL := hyd (⟨k + 1, by omega, rfl, hob, (HQ.out.trans hk1 (fun _ _ e => e)).trans hkb (fun b hb e => by have := owns_lt HBO.out b e; omega)⟩ : ∃ (k' : Nat), k' ≤ ll.length ∧ Value.int .i64 ((k + 1 : Nat) : Int) = .int .i64 (k' : Int) ∧ Owns w' w0.heap.size (.slice va (framesOf (ll.take (k + 1))).length vc) (framesOf (ll.take k')) ∧ Keeps (fun _ => False) w0 w')
   clear hrun hob hkb ho1 hk1 HBO HFR
   go_wp2_with (at_builtin; (first | (refine wpList_append_run rfl _ _ _ _ rfl rfl rfl HRUN.out ?_)))
   go_roundw
   case rel => exact HREL.out
   case measure => simp [intOf]; omega
  ·have hkl : k = ll.length := by omega
   subst hkl
   rw [List.take_length] at hb
   have hown := (HO.out.addBytes hb hq).swap
   clear hb hq
   rw [List.take_length] at hbl
   obtain ⟨na, nc, c1, c5, hfi⟩ := hown.now HT.out (by omega) (tmpOf nm)
   have HF := hyd hfi
   have HW := hyd hown
   clear hfi hown
   rw [List.take_length]
   go_upto_region 8 with fail
   go_cut [42] from 16 to 112 (fun c wx => ∃ bb : Bool, c = .bool bb ∧ (bb = true ↔ (m.down = false ∧ 0 ≤ findI m.now (tmpOf nm))) ∧ Own w wx (rRef w.heap.size r m :: (rBytes w.heap.size (.slice ba (framesOf ll).length bc) (framesOf ll) :: rs)))
   case first =>
    cases hd : m.down with
    | true =>
     rw [hd] at c5
     have HD := hyd hd
     clear hd
     go_wp2_with fail
     go_meet
     exact ⟨false, rfl, by rw [HD.out]; simp, HW.out⟩
    | false =>
     rw [hd] at c5
     obtain ⟨fi, hfi⟩ : ∃ x, x = findI m.now (tmpOf nm) := ⟨_, rfl⟩
     have HG := hyd (show 0 ≤ fi ↔ (m.down = false ∧ 0 ≤ findI m.now (tmpOf nm)) from by rw [hfi, hd]; simp)
     have hF := HF.out
     rw [← hfi] at hF
     have HF2 := hyd hF
     clear hd hF HF hfi
     by_cases hff : 0 ≤ fi
     ·go_wp2_with fail
      refine HF2.out.mono ?_
      rintro e w' ⟨rfl, rfl⟩
      go_wp2_with fail
      go_meet
      exact ⟨true, rfl, ⟨fun _ => HG.out.1 hff, fun _ => rfl⟩, HW.out⟩
     ·go_wp2_with fail
      refine HF2.out.mono ?_
      rintro e w' ⟨rfl, rfl⟩
      go_wp2_with fail
      go_meet
      exact ⟨false, congrArg Value.bool (decide_eq_false (by omega)), ⟨(fun h => by cases h), fun h => absurd (HG.out.2 h) (by omega)⟩, HW.out⟩
   case rest =>
    obtain ⟨bb, rfl, hbb, hown⟩ := hcut
    have HEQ : rlaySteps m nm (framesOf ll) = rlaySteps m nm (framesOf ll) := rfl
    conv at HEQ => rhs; unfold rlaySteps
    have HEQ := hyd HEQ
    have HOW := hyd hown
    have hrf : rfirst m (tmpOf nm) = if bb = true then removeOf m (tmpOf nm) else (0, m) := by
     unfold rfirst
     by_cases hb : bb = true
     ·rw [if_pos hb, if_pos (hbb.1 hb)]
     ·rw [if_neg hb, if_neg (fun h => hb (hbb.2 h))]
    have HRF := hyd hrf
    clear hrf hbb hown HF c1 c5 HW
    go_upto_if 42 with fail
    go_cut [10] from 16 to 112 (fun ev wx => RLay w r (rBytes w.heap.size (.slice ba (framesOf ll).length bc) (framesOf ll) :: rs) (n + 1) (t + 1) (rfirst m (tmpOf nm)) ev wx)
    case first =>
     cases bb with
     | true =>
      have hst := HOW.out.rstep HT.out (by omega) (by omega) ⟨2, tmpOf nm, ⟨#[]⟩, []⟩ ⟨by simp, by simp⟩ (fun _ => rfl) (fun F' w' _ _ => reads_nil w')
      rw [step_remove] at hst
      have HST := hyd hst
      have hr : rfirst m (tmpOf nm) = removeOf m (tmpOf nm) := by simpa using HRF.out
      have HR := hyd hr
      have HTN := hyd (HT.out.remove (tmpOf nm))
      clear hst hr
      go_wp2_with fail
      refine HST.out.mono ?_
      rintro e w4 ⟨rfl, ho4⟩
      have HG := hyd (⟨_, _, HR.out, rfl, ho4, HTN.out⟩ : RLay w r (rBytes w.heap.size (.slice ba (framesOf ll).length bc) (framesOf ll) :: rs) (n + 1) (t + 1) (rfirst m (tmpOf nm)) _ w4)
      clear ho4
      go_wp2_with fail
      go_meet
      exact HG.out
     | false =>
      have HG := hyd (⟨_, _, (by simpa using HRF.out), rfl, HOW.out, HT.out.mono (by omega) (by omega)⟩ : RLay w r (rBytes w.heap.size (.slice ba (framesOf ll).length bc) (framesOf ll) :: rs) (n + 1) (t + 1) (rfirst m (tmpOf nm)) (.int .i64 0) wc)
      go_wp2_with fail
      go_meet
      exact HG.out
    case rest =>
     obtain ⟨e1, m1, hP, rfl, ho, ht1⟩ := hcut
     have HEQ := HEQ.out
     rw [hP] at HEQ
     have HEQ := hyd HEQ
     have HO := hyd ho
     have HT1 := hyd ht1
     clear hP ho ht1
     go_upto_if 48 with fail
     go_cut [10] from 16 to 112 (fun ev wx => RLay w r (rBytes w.heap.size (.slice ba (framesOf ll).length bc) (framesOf ll) :: rs) (n + 2) (t + 2) (rthen (e1, m1) (fun m => createOf m (tmpOf nm))) ev wx)
     case first =>
      by_cases he : e1 = 0
      ·subst he
       have hst := HO.out.rstep HT1.out (by omega) (by omega) ⟨0, tmpOf nm, ⟨#[]⟩, []⟩ ⟨by simp, by simp⟩ (fun _ => rfl) (fun F' w' _ _ => reads_nil w')
       rw [step_create] at hst
       have HST := hyd hst
       have HTN := hyd (HT1.out.create (tmpOf nm))
       clear hst
       go_wp2_with fail
       refine HST.out.mono ?_
       rintro e w4 ⟨rfl, ho4⟩
       have HG := hyd (⟨_, _, rthen_yes, rfl, ho4, HTN.out⟩ : RLay w r (rBytes w.heap.size (.slice ba (framesOf ll).length bc) (framesOf ll) :: rs) (n + 2) (t + 2) (rthen (0, m1) (fun m => createOf m (tmpOf nm))) _ _)
       clear ho4
       go_wp2_with fail
       go_meet
       exact HG.out
      ·have hne : (e1 == 0) = false := by simpa using he
       have HG := hyd (⟨_, _, rthen_no (r := (e1, m1)) he, rfl, HO.out, HT1.out.mono (by omega) (by omega)⟩ : RLay w r (rBytes w.heap.size (.slice ba (framesOf ll).length bc) (framesOf ll) :: rs) (n + 2) (t + 2) (rthen (e1, m1) (fun m => createOf m (tmpOf nm))) (.int .i64 e1) _)
       clear he
       go_wp2_with fail
       go_meet
       exact HG.out
     case rest =>
      obtain ⟨e2, m2, hP, rfl, ho, ht2⟩ := hcut
      have HEQ := HEQ.out
      rw [hP] at HEQ
      have HEQ := hyd HEQ
      have HO := hyd ho
      have HT2 := hyd ht2
      clear hP ho ht2
      go_upto_block 2 with fail
      go_cut [10, 11, 12] from 16 to 112 (fun ev _ _ wx => RLay w r (rBytes w.heap.size (.slice ba (framesOf ll).length bc) (framesOf ll) :: rs) (n + ((framesOf ll).length + 2)) (t + ((framesOf ll).length + 2)) (rthen (e2, m2) (fun m => writeOf m (tmpOf nm) (framesOf ll))) ev wx)
      case first =>
       go_wp2_with fail
       go_loopw [10, 11] (fun ev iv wx => ∃ (k f : Nat) (e' : Int) (m' : DM) (n' t' : Nat), ev = .int .i64 e' ∧ iv = .int .i64 (k : Int) ∧ Own w wx (rRef w.heap.size r m' :: (rBytes w.heap.size (.slice ba (framesOf ll).length bc) (framesOf ll) :: rs)) ∧ Tidy m' n' t' ∧ (n' ≤ n + 2 + k ∧ n' ≤ n + 2 + (framesOf ll).length ∧ t' ≤ t + 2 + k ∧ t' ≤ t + 2 + (framesOf ll).length) ∧ rthen (e', m') (fun m => writeFrom (tmpOf nm) (framesOf ll) f m k) = rthen (e2, m2) (fun m => writeOf m (tmpOf nm) (framesOf ll)) ∧ (framesOf ll).length < k + f * 1048576 ∧ k ≤ (framesOf ll).length + 1048576) (fun _ iv _ => (framesOf ll).length - (intOf iv).toNat)
       case atStart => exact ⟨0, (framesOf ll).length / 1048576 + 1, e2, m2, n + 2, t + 2, rfl, rfl, HO.out, HT2.out, by omega, rfl, by omega, by omega⟩
       case round =>
        obtain ⟨k, f, e', m', n', t', rfl, rfl, ho, ht', hbd, hwf, hf, hkb⟩ := hrel
        have j0 : (0 : Int) ≤ k := by omega
        by_cases he : e' = 0
        ·subst he
         by_cases hlt : k < (framesOf ll).length
         ·obtain ⟨f, rfl⟩ : ∃ f', f = f' + 1 := ⟨f - 1, by omega⟩
          have hwf' := hwf
          rw [rthen, if_pos rfl, writeFrom, if_pos hlt] at hwf'
          clear hwf
          obtain ⟨j, hj⟩ : ∃ j, j = (((framesOf ll).drop k).take 1048576).length := ⟨_, rfl⟩
          have hjl : j = if (framesOf ll).length < k + 1048576 then (framesOf ll).length - k else 1048576 := by
           rw [hj, List.length_take, List.length_drop]; split <;> omega
          have hjk : k + j ≤ (framesOf ll).length := by rw [hjl]; split <;> omega
          have hj0 : 0 < j := by rw [hjl]; split <;> omega
          have hjt : ((framesOf ll).drop k).take j = ((framesOf ll).drop k).take 1048576 := by
           have := List.take_length (l := ((framesOf ll).drop k).take 1048576)
           rw [← hj, List.take_take] at this
           rw [Nat.min_eq_left (by rw [hj, List.length_take]; omega)] at this
           exact this
          have hst := ho.rstepB ht' (by omega) (by omega) ⟨1, tmpOf nm, ⟨#[]⟩, ((framesOf ll).drop k).take 1048576⟩ ⟨by simp, by simp⟩ (fun h => absurd rfl h) (pv := .slice (Option.map (fun x => x.add k) ba) j (bc - k)) (fun w' hw' => by
           have := Reads.cutP hw' k j hjk
           rw [hjt, if_neg (by omega : ¬ bc = k)] at this; exact this)
          rw [step_append] at hst
          have hap := ht'.append (tmpOf nm) (((framesOf ll).drop k).take 1048576)
          generalize ((framesOf ll).drop k).take 1048576 = p at hst hwf' hap
          have HST := hyd hst
          have HWF' := hyd hwf'
          have HAP := hyd hap
          have i1 : (k : Int) < (framesOf ll).length := by omega
          have HX := hyd (show (n' ≤ n + 2 + k ∧ n' ≤ n + 2 + (framesOf ll).length ∧ t' ≤ t + 2 + k ∧ t' ≤ t + 2 + (framesOf ll).length) ∧ k ≤ (framesOf ll).length + 1048576 ∧ (framesOf ll).length < k + (f + 1) * 1048576 ∧ k < (framesOf ll).length from ⟨hbd, hkb, hf, hlt⟩)
          clear hst hwf' hap ho ht' hjt hj hj0 hbd hf hkb hlt
          by_cases hend : (framesOf ll).length < k + 1048576
          ·rw [if_pos hend] at hjl
           subst hjl
           have hee : decide (((framesOf ll).length : Int) < (k : Int) + 1048576) = true := decide_eq_true (by omega)
           clear hend hjk
           go_wp2_with fail
           refine HST.out.mono ?_
           rintro e w5 ⟨rfl, ho5⟩
           have HO5 := hyd ho5
           clear ho5 HST
           generalize appendOf m' (tmpOf nm) p = q at HO5 HWF' HAP ⊢
           obtain ⟨qc, qm⟩ := q
           have hrel := (⟨k + 1048576, f, qc, qm, n' + 1, t' + 1, rfl, congrArg (Value.int .i64) (by omega), HO5.out, HAP.out, by have := HX.out; omega, HWF'.out, by have := HX.out; omega, by have := HX.out; omega⟩ : ∃ (k' f' : Nat) (e' : Int) (m' : DM) (n' t' : Nat), Value.int .i64 qc = .int .i64 e' ∧ Value.int .i64 ((k : Int) + 1048576) = .int .i64 (k' : Int) ∧ Own w w5 (rRef w.heap.size r m' :: rBytes w.heap.size (.slice ba (framesOf ll).length bc) (framesOf ll) :: rs) ∧ Tidy m' n' t' ∧ (n' ≤ n + 2 + k' ∧ n' ≤ n + 2 + (framesOf ll).length ∧ t' ≤ t + 2 + k' ∧ t' ≤ t + 2 + (framesOf ll).length) ∧ rthen (e', m') (fun m => writeFrom (tmpOf nm) (framesOf ll) f' m k') = rthen (e2, m2) (fun m => writeOf m (tmpOf nm) (framesOf ll)) ∧ (framesOf ll).length < k' + f' * 1048576 ∧ k' ≤ (framesOf ll).length + 1048576)
           have HREL := hyd hrel
           have hwr : IntKind.i64.wrap ((k : Int) + 1048576) = (k : Int) + 1048576 := IntWalk.i64_in _ (by omega)
           have HMEAS := hyd (meas_step (framesOf ll).length k 1048576 (by decide) HX.out.2.2.2)
           clear hrel HX HAP HWF' HO5 hee i1
           go_wp2_with fail
           go_roundw
           case rel => exact HREL.out
           case measure => exact HMEAS.out
          ·rw [if_neg hend] at hjl
           subst hjl
           have hee : decide (((framesOf ll).length : Int) < (k : Int) + 1048576) = false := decide_eq_false (by omega)
           clear hend
           go_wp2_with fail
           refine HST.out.mono ?_
           rintro e w5 ⟨rfl, ho5⟩
           have HO5 := hyd ho5
           clear ho5 HST
           generalize appendOf m' (tmpOf nm) p = q at HO5 HWF' HAP ⊢
           obtain ⟨qc, qm⟩ := q
           have hrel := (⟨k + 1048576, f, qc, qm, n' + 1, t' + 1, rfl, congrArg (Value.int .i64) (by omega), HO5.out, HAP.out, by have := HX.out; omega, HWF'.out, by have := HX.out; omega, by have := HX.out; omega⟩ : ∃ (k' f' : Nat) (e' : Int) (m' : DM) (n' t' : Nat), Value.int .i64 qc = .int .i64 e' ∧ Value.int .i64 ((k : Int) + 1048576) = .int .i64 (k' : Int) ∧ Own w w5 (rRef w.heap.size r m' :: rBytes w.heap.size (.slice ba (framesOf ll).length bc) (framesOf ll) :: rs) ∧ Tidy m' n' t' ∧ (n' ≤ n + 2 + k' ∧ n' ≤ n + 2 + (framesOf ll).length ∧ t' ≤ t + 2 + k' ∧ t' ≤ t + 2 + (framesOf ll).length) ∧ rthen (e', m') (fun m => writeFrom (tmpOf nm) (framesOf ll) f' m k') = rthen (e2, m2) (fun m => writeOf m (tmpOf nm) (framesOf ll)) ∧ (framesOf ll).length < k' + f' * 1048576 ∧ k' ≤ (framesOf ll).length + 1048576)
           have HREL := hyd hrel
           have hwr : IntKind.i64.wrap ((k : Int) + 1048576) = (k : Int) + 1048576 := IntWalk.i64_in _ (by omega)
           have HMEAS := hyd (meas_step (framesOf ll).length k 1048576 (by decide) HX.out.2.2.2)
           clear hrel HX HAP HWF' HO5 hee i1
           go_wp2_with fail
           go_roundw
           case rel => exact HREL.out
           case measure => exact HMEAS.out
         ·have hR : (0, m') = rthen (e2, m2) (fun m => writeOf m (tmpOf nm) (framesOf ll)) := by
           rw [← hwf, rthen_yes]
           cases f with
           | zero => rfl
           | succ f => rw [writeFrom, if_neg hlt]
          have HG := hyd (⟨0, m', hR.symm, rfl, ho, ht'.mono (by omega) (by omega)⟩ : RLay w r (rBytes w.heap.size (.slice ba (framesOf ll).length bc) (framesOf ll) :: rs) (n + ((framesOf ll).length + 2)) (t + ((framesOf ll).length + 2)) (rthen (e2, m2) (fun m => writeOf m (tmpOf nm) (framesOf ll))) (.int .i64 0) _)
          have i1 : ¬ (k : Int) < (framesOf ll).length := by omega
          clear hwf hR hf hkb hbd hlt ho ht'
          go_wp2_with fail
          go_meet
          exact HG.out
        ·have hR := hwf
         rw [rthen_no (r := (e', m')) he] at hR
         have HG := hyd (⟨e', m', hR.symm, rfl, ho, ht'.mono (by omega) (by omega)⟩ : RLay w r (rBytes w.heap.size (.slice ba (framesOf ll).length bc) (framesOf ll) :: rs) (n + ((framesOf ll).length + 2)) (t + ((framesOf ll).length + 2)) (rthen (e2, m2) (fun m => writeOf m (tmpOf nm) (framesOf ll))) (.int .i64 e') _)
         have hne : (e' == 0) = false := by simpa using he
         clear hwf hR hf hkb hbd he ho ht'
         go_wp2_with fail
         all_goals (go_meet; exact HG.out)
      case rest =>
       obtain ⟨e3, m3, hP, rfl, ho, ht3⟩ := hcut
       have HEQ := HEQ.out
       rw [hP] at HEQ
       have HEQ := hyd HEQ
       have HO := hyd ho
       have HT3 := hyd ht3
       clear hP ho ht3
       go_upto_if 80 with fail
       go_cut [10] from 16 to 112 (fun ev wx => RLay w r (rBytes w.heap.size (.slice ba (framesOf ll).length bc) (framesOf ll) :: rs) (n + ((framesOf ll).length + 2)) (t + ((framesOf ll).length + 2)) (rthen (e3, m3) syncOf) ev wx)
       case first =>
        by_cases he : e3 = 0
        ·subst he
         obtain ⟨w5, hsy, ho5⟩ := HO.out.rsync HT3.out
         have HST := hyd hsy
         have HON := hyd ho5
         have HTN := hyd HT3.out.sync
         clear hsy ho5
         go_wp2_with fail
         refine HST.out.mono ?_
         rintro e w4 ⟨rfl, rfl⟩
         have HG := hyd (⟨_, _, rthen_yes, rfl, HON.out, HTN.out⟩ : RLay w r (rBytes w.heap.size (.slice ba (framesOf ll).length bc) (framesOf ll) :: rs) (n + ((framesOf ll).length + 2)) (t + ((framesOf ll).length + 2)) (rthen (0, m3) syncOf) _ _)
         go_wp2_with fail
         go_meet
         exact HG.out
        ·have hne : (e3 == 0) = false := by simpa using he
         have HG := hyd (⟨_, _, rthen_no (r := (e3, m3)) he, rfl, HO.out, HT3.out.mono (by omega) (by omega)⟩ : RLay w r (rBytes w.heap.size (.slice ba (framesOf ll).length bc) (framesOf ll) :: rs) (n + ((framesOf ll).length + 2)) (t + ((framesOf ll).length + 2)) (rthen (e3, m3) syncOf) (.int .i64 e3) _)
         clear he
         go_wp2_with fail
         go_meet
         exact HG.out
       case rest =>
        obtain ⟨e4, m4, hP, rfl, ho, ht4⟩ := hcut
        have HEQ := HEQ.out
        rw [hP] at HEQ
        have HEQ := hyd HEQ
        have HO := hyd ho
        have HT4 := hyd ht4
        clear hP ho ht4
        go_upto_if 84 with fail
        go_cut [10] from 16 to 112 (fun ev wx => RLay w r (rBytes w.heap.size (.slice ba (framesOf ll).length bc) (framesOf ll) :: rs) (n + ((framesOf ll).length + 3)) (t + ((framesOf ll).length + 3)) (rthen (e4, m4) (fun m => renameOf m (tmpOf nm) nm)) ev wx)
        case first =>
         by_cases he : e4 = 0
         ·subst he
          have hst := HO.out.rstep HT4.out (by omega) (by omega) ⟨3, tmpOf nm, nm, []⟩ ⟨by simp, by simp⟩ (fun _ => rfl) (fun F' w' _ _ => reads_nil w')
          rw [step_rename] at hst
          have HST := hyd hst
          have HTN := hyd (HT4.out.rename (tmpOf nm) nm)
          clear hst
          go_wp2_with fail
          refine HST.out.mono ?_
          rintro e w4 ⟨rfl, ho4⟩
          have HG := hyd (⟨_, _, rthen_yes, rfl, ho4, HTN.out⟩ : RLay w r (rBytes w.heap.size (.slice ba (framesOf ll).length bc) (framesOf ll) :: rs) (n + ((framesOf ll).length + 3)) (t + ((framesOf ll).length + 3)) (rthen (0, m4) (fun m => renameOf m (tmpOf nm) nm)) _ _)
          clear ho4
          go_wp2_with fail
          go_meet
          exact HG.out
         ·have hne : (e4 == 0) = false := by simpa using he
          have HG := hyd (⟨_, _, rthen_no (r := (e4, m4)) he, rfl, HO.out, HT4.out.mono (by omega) (by omega)⟩ : RLay w r (rBytes w.heap.size (.slice ba (framesOf ll).length bc) (framesOf ll) :: rs) (n + ((framesOf ll).length + 3)) (t + ((framesOf ll).length + 3)) (rthen (e4, m4) (fun m => renameOf m (tmpOf nm) nm)) (.int .i64 e4) _)
          clear he
          go_wp2_with fail
          go_meet
          exact HG.out
        case rest =>
         obtain ⟨e5, m5, hP, rfl, ho, ht5⟩ := hcut
         have HEQ := HEQ.out
         rw [hP] at HEQ
         have HEQ := hyd HEQ
         have HO := hyd ho
         have HT5 := hyd ht5
         clear hP ho ht5
         go_upto_if 91 with fail
         go_cut [10] from 16 to 112 (fun ev wx => RLay w r (rBytes w.heap.size (.slice ba (framesOf ll).length bc) (framesOf ll) :: rs) (n + ((framesOf ll).length + 3)) (t + ((framesOf ll).length + 3)) (rthen (e5, m5) syncOf) ev wx)
         case first =>
          by_cases he : e5 = 0
          ·subst he
           obtain ⟨w5, hsy, ho5⟩ := HO.out.rsync HT5.out
           have HST := hyd hsy
           have HON := hyd ho5
           have HTN := hyd HT5.out.sync
           clear hsy ho5
           go_wp2_with fail
           refine HST.out.mono ?_
           rintro e w4 ⟨rfl, rfl⟩
           have HG := hyd (⟨_, _, rthen_yes, rfl, HON.out, HTN.out⟩ : RLay w r (rBytes w.heap.size (.slice ba (framesOf ll).length bc) (framesOf ll) :: rs) (n + ((framesOf ll).length + 3)) (t + ((framesOf ll).length + 3)) (rthen (0, m5) syncOf) _ _)
           go_wp2_with fail
           go_meet
           exact HG.out
          ·have hne : (e5 == 0) = false := by simpa using he
           have HG := hyd (⟨_, _, rthen_no (r := (e5, m5)) he, rfl, HO.out, HT5.out.mono (by omega) (by omega)⟩ : RLay w r (rBytes w.heap.size (.slice ba (framesOf ll).length bc) (framesOf ll) :: rs) (n + ((framesOf ll).length + 3)) (t + ((framesOf ll).length + 3)) (rthen (e5, m5) syncOf) (.int .i64 e5) _)
           clear he
           go_wp2_with fail
           go_meet
           exact HG.out
         case rest =>
          obtain ⟨e6, m6, hP, rfl, ho, ht6⟩ := hcut
          have HEQ := HEQ.out
          rw [hP] at HEQ
          have HEQ := hyd HEQ
          have HO5 := hyd ho
          have HT5 := hyd ht6
          clear hP ho ht6
          by_cases h4 : e6 = 4
          ·subst h4
           obtain ⟨na5, nc5, c1, c5, hf5⟩ := HO5.out.now HT5.out (by omega) (tmpOf nm)
           by_cases hff : 0 ≤ findI m6.now (tmpOf nm)
           ·have hst := HO5.out.rstep HT5.out (by omega) (by omega) ⟨2, tmpOf nm, ⟨#[]⟩, []⟩ ⟨by simp, by simp⟩ (fun _ => rfl) (fun F' w' _ _ => reads_nil w')
            rw [step_remove] at hst
            have HF5 := hyd hf5
            have HST := hyd hst
            have hres : rfull (tmpOf nm) (rlaySteps m nm (framesOf ll)) = (if (removeOf m6 (tmpOf nm)).1 = 0 then (4, (removeOf m6 (tmpOf nm)).2) else removeOf m6 (tmpOf nm)) := by
             rw [HEQ.out, rfull, if_pos ⟨rfl, hff⟩]
            generalize removeOf m6 (tmpOf nm) = q at HST hres
            obtain ⟨qc, qm⟩ := q
            have HRES := hyd hres
            have hge : decide ((0 : Int) ≤ findI m6.now (tmpOf nm)) = true := decide_eq_true hff
            generalize findI m6.now (tmpOf nm) = fi at HF5 hge
            clear hff hres hf5 hst HEQ
            by_cases hqc : qc = 0
            ·subst hqc
             go_wp2_with (first | (go_at_call 67; refine HF5.out.mono ?_; rintro e w' ⟨rfl, rfl⟩) | (go_at_call 58; refine HST.out.mono ?_; rintro e w6 ⟨rfl, ho6⟩; have HO6 := hyd ho6; clear ho6))
             all_goals (go_ret; exact ROwn.of2 (res := (4, qm)) ⟨rfl, HO6.out⟩ (HRES.out.trans (by simp)).symm)
            ·have hqb : (qc == 0) = false := by simpa using hqc
             go_wp2_with (first | (go_at_call 67; refine HF5.out.mono ?_; rintro e w' ⟨rfl, rfl⟩) | (go_at_call 58; refine HST.out.mono ?_; rintro e w6 ⟨rfl, ho6⟩; have HO6 := hyd ho6; clear ho6))
             all_goals (go_ret; exact ROwn.of2 (res := (qc, qm)) ⟨rfl, HO6.out⟩ (HRES.out.trans (by simp [hqc])).symm)
           ·have hres : rfull (tmpOf nm) (rlaySteps m nm (framesOf ll)) = (4, m6) := by
             rw [HEQ.out, rfull, if_neg (fun h => hff h.2)]
            have HRES := hyd hres
            have HF5 := hyd hf5
            have hge : decide ((0 : Int) ≤ findI m6.now (tmpOf nm)) = false := decide_eq_false hff
            generalize findI m6.now (tmpOf nm) = fi at HF5 hge
            clear hff hres hf5 HEQ
            go_wp2_with (first | (go_at_call 67; refine HF5.out.mono ?_; rintro e w' ⟨rfl, rfl⟩))
            all_goals (go_ret; exact ROwn.of2 (res := (4, m6)) ⟨rfl, HO5.out⟩ HRES.out.symm)
          ·have h4' : (e6 == 4) = false := by simpa using h4
           have hres : rfull (tmpOf nm) (rlaySteps m nm (framesOf ll)) = (e6, m6) := by
            rw [HEQ.out, rfull, if_neg (fun h => h4 h.1)]
           have HRES := hyd hres
           clear hres HEQ
           go_wp2_with fail
           all_goals (go_ret; exact ROwn.of2 (res := (e6, m6)) ⟨rfl, HO5.out⟩ HRES.out.symm)
end Go.Proofs.YtddnikpdmjogiaaGreat
