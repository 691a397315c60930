/- A part of the proof. -/
import Derived.Test.YtddnikpdmjogiaaGreatZc0
namespace Go.Proofs.YtddnikpdmjogiaaGreat
set_option linter.unusedVariables false
open Go.RowKit Go.MapKept
theorem Tidy.create {m : DM} {n t : Nat} (h : Tidy m n t) (f : ByteArray) : Tidy (createOf m f).2 (n + 1) (t + 1) := by
  rw [← step_create]; exact h.step _ ⟨by simp, by simp⟩ (fun _ => rfl) (fun _ => Nat.zero_le _)
theorem Tidy.append {m : DM} {n t : Nat} (h : Tidy m n t) (f : ByteArray) (p : List UInt8) : Tidy (appendOf m f p).2 (n + 1) (t + 1) := by
  rw [← step_append]; exact h.step _ ⟨by simp, by simp⟩ (fun e => absurd rfl e) (fun _ => Nat.zero_le _)
theorem Tidy.remove {m : DM} {n t : Nat} (h : Tidy m n t) (f : ByteArray) : Tidy (removeOf m f).2 (n + 1) (t + 1) := by
  rw [← step_remove]; exact h.step _ ⟨by simp, by simp⟩ (fun _ => rfl) (fun _ => Nat.zero_le _)
theorem Tidy.rename {m : DM} {n t : Nat} (h : Tidy m n t) (f g : ByteArray) : Tidy (renameOf m f g).2 (n + 1) (t + 1) := by
  rw [← step_rename]; exact h.step _ ⟨by simp, by simp⟩ (fun _ => rfl) (fun e => absurd rfl e)
theorem Tidy.first {m : DM} {n t : Nat} (h : Tidy m n t) (f : ByteArray) : Tidy (rfirst m f).2 (n + 1) (t + 1) := by
  unfold rfirst
  split
  · exact h.remove f
  · exact h.mono (Nat.le_succ _) (Nat.le_succ _)
theorem Tidy.then {r : Int × DM} {f : DM → Int × DM} {n t a : Nat} (h : Tidy r.2 n t) (hf : Tidy (f r.2).2 (n + a) (t + a)) : Tidy (rthen r f).2 (n + a) (t + a) := by
  unfold rthen
  split
  · exact hf
  · exact h.mono (by omega) (by omega)
theorem Tidy.write {t' : ByteArray} {b : List UInt8} : ∀ (f : Nat) {m : DM} {n t i : Nat}, Tidy m n t → Tidy (writeFrom t' b f m i).2 (n + f) (t + f)
  | 0, m, n, t, i, h => h
  | f + 1, m, n, t, i, h => by
    rw [writeFrom]
    split
    · split
      · have := Tidy.write (t' := t') (b := b) f (i := i + 1048576) (h.append t' ((b.drop i).take 1048576))
        rw [show n + (f + 1) = n + 1 + f by omega, show t + (f + 1) = t + 1 + f by omega]; exact this
      · exact (h.append t' _).mono (by omega) (by omega)
    · exact h.mono (by omega) (by omega)
theorem Tidy.full {r : Int × DM} {n t : Nat} (h : Tidy r.2 n t) (f : ByteArray) : Tidy (rfull f r).2 (n + 1) (t + 1) := by
  unfold rfull
  split
  · split
    · exact h.remove f
    · exact h.remove f
  · exact h.mono (Nat.le_succ _) (Nat.le_succ _)
theorem Tidy.rlay {m : DM} {n t : Nat} (h : Tidy m n t) (nm : ByteArray) (b : List UInt8) : Tidy (rlaySteps m nm b).2 (n + (b.length + 6)) (t + (b.length + 6)) := by
  have h1 := Tidy.then (a := 1) (f := fun m => createOf m (tmpOf nm)) (h.first (tmpOf nm)) ((h.first _).create _)
  have h2 := Tidy.then (a := b.length / 1048576 + 1) (f := fun m => writeOf m (tmpOf nm) b) h1 (Tidy.write _ h1)
  have h3 := Tidy.then (a := 0) (f := syncOf) h2 h2.sync
  have h4 := Tidy.then (a := 1) (f := fun m => renameOf m (tmpOf nm) nm) h3 (h3.rename _ _)
  have h5 := Tidy.then (a := 0) (f := syncOf) h4 h4.sync
  exact h5.mono (by omega) (by omega)
theorem Tidy.lay {m : DM} {n t : Nat} (h : Tidy m n t) (nm : ByteArray) (b : List UInt8) : Tidy (layOf m nm b).2 (n + (b.length + 7)) (t + (b.length + 7)) := by
  rw [← rlay_eq]
  exact (h.rlay nm b).full _
theorem Own.now {w wr : World} {r : Nat} {m : DM} {rs : List (Res w.heap.size)} (h : Own w wr (rRef w.heap.size r m :: rs)) {n t : Nat} (ht : Tidy m n t) (htt : t < 549755813888) (s : ByteArray) :
    ∃ na nc, wr.cell? ⟨r, 1, none⟩ = some (.slice na m.now.length nc) ∧ wr.cell? ⟨r, 5, none⟩ = some (.bool m.down) ∧ Runs 67 #[.slice na m.now.length nc, .string s] wr (.int .i64 (findI m.now s)) wr := by
  obtain ⟨F, hri, hFb⟩ := h.head
  obtain ⟨vn, vs, vl, hra⟩ := hri
  have hl := ht.lnow
  have hfi := rfind_runs hra.now s (by omega)
  have c1 := hra.cells.c1
  have c5 := hra.cells.c5
  obtain ⟨na, nc, rfl, _, _⟩ := hra.now.form
  exact ⟨na, nc, c1, c5, hfi⟩
theorem ROwn.of2 {w w' : World} {r : Nat} {rs : List (Res w.heap.size)} {x : Res w.heap.size} {res res' : Int × DM} {e : Ending} (h : ROwn w r (x :: rs) res e w') (hres : res = res') : ROwn w r rs res' e w' := by
  subst hres
  exact ⟨h.1, h.2.swap.drop⟩
theorem meas_step (a k : Nat) (s : Int) (hs : 0 < s) (h : k < a) : a - ((k : Int) + s).toNat < a - (k : Int).toNat := by omega
theorem rthen_no {r : Int × DM} {f : DM → Int × DM} (h : ¬ r.1 = 0) : rthen r f = r := if_neg h
theorem rthen_yes {m : DM} {f : DM → Int × DM} : rthen (0, m) f = f m := if_pos rfl
set_option maxRecDepth 100000 in
set_option maxHeartbeats 2000000 in
theorem rlay_calls {w w0 : World} {r : Nat} {m : DM} {rs : List (Res w.heap.size)} (h : Own w w0 (rRef w.heap.size r m :: rs)) {n t : Nat} (ht : Tidy m n t) (nm : ByteArray) (hnm : nm.size ≤ 65536) {v : Value} {ll : List (List UInt8)} (hr : RowsIn w0 v ll)
    (hn : n + (framesOf ll).length + 8 < 549755813888) (htt : t + (framesOf ll).length + 8 < 549755813888) (hll : ll.length ≤ 1099511627776) :
    Calls Tryz.prog 88 #[.pointer (some ⟨r, 0, none⟩), .string nm, v] w0 (ROwn w r rs (layOf m nm (framesOf ll))) := by
  rw [← rlay_eq]
  obtain ⟨a, c, rfl, hcell⟩ := hr
  have hadd : ∀ w, (Op.stringOp .add nm ⟨#[43]⟩).run Tryz.prog w = .ok (.string (tmpOf nm)) w := fun w => run_string_add_sum w nm ⟨#[43]⟩ (by change nm.size + 1 ≤ _; omega)
  have HC := Lib.hid hcell
  have HO := Lib.hid h
  have HT := Lib.hid ht
  have hfl := framesOf_take_le ll
  have i1 : (ll.length : Int) ≤ 1099511627776 := by omega
  clear h ht hcell
  go_enter Tryz.func88, Tryz.ntmps88
  go_wp2_with fail
  clear hadd
  go_loopw [8, 9] (fun bv iv wx => ∃ (k : Nat), k ≤ ll.length ∧ iv = .int .i64 (k : Int) ∧ Owns wx w0.heap.size bv (framesOf (ll.take k)) ∧ Keeps (fun _ => False) w0 wx) (fun _ iv _ => ll.length - (intOf iv).toNat)
  case atStart => exact ⟨0, Nat.zero_le _, rfl, Owns.nil _ _, Keeps.refl _ _⟩
  case round =>
    obtain ⟨k, hk, rfl, hb, hq⟩ := hrel
    have j0 : (0 : Int) ≤ k := by omega
    obtain ⟨ba, bc, rfl, hbl, hbm⟩ := hb.bytes.form
    by_cases hlt : k < ll.length
    · obtain ⟨l, hl⟩ : ∃ l, ll[k]? = some l := ⟨ll[k], List.getElem?_eq_getElem hlt⟩
      obtain ⟨x, p, rfl, hcx, hrd⟩ := HC.out k l hl
      have hcz : wr.cell? (x.add k) = some p := (World.cell?_of_block (hq.block _ (World.block_lt_of_cell? w0 _ hcx) (fun e => e))).trans hcx
      obtain ⟨pa, pc, rfl, _, _⟩ := hrd.form
      have j1 : (k : Int) < ll.length := by omega
      have hle := record_le hl
      have hfr := (rframe_calls (hrd.keep hq) (by omega)).mono (fun e w1 h => h)
      have HFR := Lib.hid hfr
      have HBO := Lib.hid hb
      have HQ := Lib.hid hq
      have hs := framesOf_take_succ hl
      have hsl := hfl (k + 1)
      rw [hs, List.length_append] at hsl
      have HS := Lib.hid hs
      clear hfr hcx hrd hb hq hs
      go_wp2_with fail
      refine HFR.out.mono ?_
      rintro e w1 ⟨pv, rfl, ho1, hk1⟩
      obtain ⟨v', w', hrun, hob, hkb⟩ := Owns.grow (Nat.le_trans HQ.out.size hk1.size) (HBO.out.keep hk1) ho1.bytes.reads (by omega)
      rw [← HS.out] at hob
      obtain ⟨va, vc, rfl, _, _⟩ := hob.bytes.form
      have HRUN := Lib.hid hrun
      have HREL := Lib.hid (⟨k + 1, by omega, rfl, hob, (HQ.out.trans hk1 (fun _ _ e => e)).trans hkb (fun b hb e => by have := owns_lt HBO.out b e; omega)⟩ : ∃ (k' : Nat), k' ≤ ll.length ∧ Value.int .i64 ((k + 1 : Nat) : Int) = .int .i64 (k' : Int) ∧ Owns w' w0.heap.size (.slice va (framesOf (ll.take (k + 1))).length vc) (framesOf (ll.take k')) ∧ Keeps (fun _ => False) w0 w')
      clear hrun hob hkb ho1 hk1 HBO HFR
      go_wp2_with (at_builtin; (first | (refine wpList_append_run rfl _ _ _ _ rfl rfl rfl HRUN.out ?_)))
      go_roundw
      case rel => exact HREL.out
      case measure => simp [intOf]; omega
    · have hkl : k = ll.length := by omega
      subst hkl
      rw [List.take_length] at hb
      have hown := (HO.out.addBytes hb hq).swap
      clear hb hq
      rw [List.take_length] at hbl
      obtain ⟨na, nc, c1, c5, hfi⟩ := hown.now HT.out (by omega) (tmpOf nm)
      have hst := hown.rstep HT.out (by omega) (by omega) ⟨0, tmpOf nm, ⟨#[]⟩, []⟩ ⟨by simp, by simp⟩ (fun _ => rfl) (fun F' w' _ _ => reads_nil w')
      rw [step_create] at hst
      have hE1 : rfirst m (tmpOf nm) = (0, m) → rthen (rfirst m (tmpOf nm)) (fun m => createOf m (tmpOf nm)) = createOf m (tmpOf nm) := fun h => by rw [h]; simp [rthen]
      cases hd : m.down with
      | true =>
        rw [hd] at c5
        have hE2 := hE1 (by unfold rfirst; rw [hd]; simp)
        have ht1 := HT.out.create (tmpOf nm)
        clear hE1
        generalize createOf m (tmpOf nm) = q at hst hE2 ht1
        obtain ⟨e1, m1⟩ := q
        obtain ⟨n1, hn1⟩ : ∃ x, x = n + 1 := ⟨_, rfl⟩
        obtain ⟨t1, ht1'⟩ : ∃ x, x = t + 1 := ⟨_, rfl⟩
        have HST := Lib.hid hst
        have HT1 := Lib.hid (show Tidy m1 n1 t1 from by subst hn1; subst ht1'; exact ht1)
        have HB1 := Lib.hid (show n1 ≤ n + 2 ∧ t1 ≤ t + 2 from by omega)
        have HE1 := Lib.hid hE2
        clear hst hfi hE2 ht1 hn1 ht1' hd
        go_wp2_with fail
        refine HST.out.mono ?_
        rintro e w5 ⟨rfl, ho5⟩
        have HO1 := Lib.hid ho5
        clear ho5 HST c5 c1 hown
        have hwf0 : ∃ R, rthen (e1, m1) (fun m => writeFrom (tmpOf nm) (framesOf ll) ((framesOf ll).length / 1048576 + 1) m 0) = R := ⟨_, rfl⟩
        obtain ⟨R, hwf⟩ := hwf0
        have HR := Lib.hid (show rthen (rthen (rfirst m (tmpOf nm)) (fun m => createOf m (tmpOf nm))) (fun m => writeOf m (tmpOf nm) (framesOf ll)) = R from by rw [HE1.out]; exact hwf)
        have HWF := Lib.hid hwf
        clear hwf HE1
        go_wp2_with fail
        go_loopw [10, 11] (fun ev iv wx => ∃ (k f : Nat) (e' : Int) (m' : DM) (n' t' : Nat), ev = .int .i64 e' ∧ iv = .int .i64 (k : Int) ∧ Own w wx (rRef w.heap.size r m' :: rBytes w.heap.size (.slice ba (framesOf ll).length bc) (framesOf ll) :: rs) ∧ Tidy m' n' t' ∧ (n' ≤ n + 2 + k ∧ n' ≤ n + 2 + (framesOf ll).length ∧ t' ≤ t + 2 + k ∧ t' ≤ t + 2 + (framesOf ll).length) ∧ rthen (e', m') (fun m => writeFrom (tmpOf nm) (framesOf ll) f m k) = R ∧ (framesOf ll).length < k + f * 1048576 ∧ k ≤ (framesOf ll).length + 1048576) (fun _ iv _ => (framesOf ll).length - (intOf iv).toNat)
        case atStart => exact ⟨0, (framesOf ll).length / 1048576 + 1, e1, m1, n1, t1, rfl, rfl, HO1.out, HT1.out, by have := HB1.out; omega, HWF.out, by omega, by omega⟩
        case round =>
          obtain ⟨k, f, e', m', n', t', rfl, rfl, ho, ht', hbd, hwf, hf, hkb⟩ := hrel
          have j0 : (0 : Int) ≤ k := by omega
          by_cases he : e' = 0
          · subst he
            by_cases hlt : k < (framesOf ll).length
            · obtain ⟨f, rfl⟩ : ∃ f', f = f' + 1 := ⟨f - 1, by omega⟩
              have hwf' := hwf
              rw [rthen, if_pos rfl, writeFrom, if_pos hlt] at hwf'
              clear hwf
              obtain ⟨j, hj⟩ : ∃ j, j = (((framesOf ll).drop k).take 1048576).length := ⟨_, rfl⟩
              have hjl : j = if (framesOf ll).length < k + 1048576 then (framesOf ll).length - k else 1048576 := by
                rw [hj, List.length_take, List.length_drop]; split <;> omega
              have hjk : k + j ≤ (framesOf ll).length := by rw [hjl]; split <;> omega
              have hj0 : 0 < j := by rw [hjl]; split <;> omega
              have hjt : ((framesOf ll).drop k).take j = ((framesOf ll).drop k).take 1048576 := by
                have := List.take_length (l := ((framesOf ll).drop k).take 1048576)
                rw [← hj, List.take_take] at this
                rw [Nat.min_eq_left (by rw [hj, List.length_take]; omega)] at this
                exact this
              have hst := ho.rstepB ht' (by omega) (by omega) ⟨1, tmpOf nm, ⟨#[]⟩, ((framesOf ll).drop k).take 1048576⟩ ⟨by simp, by simp⟩ (fun h => absurd rfl h) (pv := .slice (Option.map (fun x => x.add k) ba) j (bc - k)) (fun w' hw' => by
                have := Reads.cutP hw' k j hjk
                rw [hjt, if_neg (by omega : ¬ bc = k)] at this; exact this)
              rw [step_append] at hst
              have hap := ht'.append (tmpOf nm) (((framesOf ll).drop k).take 1048576)
              generalize ((framesOf ll).drop k).take 1048576 = p at hst hwf' hap
              have HST := Lib.hid hst
              have HWF' := Lib.hid hwf'
              have HAP := Lib.hid hap
              have i1 : (k : Int) < (framesOf ll).length := by omega
              have HX := Lib.hid (show (n' ≤ n + 2 + k ∧ n' ≤ n + 2 + (framesOf ll).length ∧ t' ≤ t + 2 + k ∧ t' ≤ t + 2 + (framesOf ll).length) ∧ k ≤ (framesOf ll).length + 1048576 ∧ (framesOf ll).length < k + (f + 1) * 1048576 ∧ k < (framesOf ll).length from ⟨hbd, hkb, hf, hlt⟩)
              clear hst hwf' hap ho ht' hjt hj hj0 hbd hf hkb hlt
              by_cases hend : (framesOf ll).length < k + 1048576
              · rw [if_pos hend] at hjl
                subst hjl
                have hee : decide (((framesOf ll).length : Int) < (k : Int) + 1048576) = true := decide_eq_true (by omega)
                clear hend hjk
                go_wp2_with fail
                refine HST.out.mono ?_
                rintro e w5 ⟨rfl, ho5⟩
                have HO5 := Lib.hid ho5
                clear ho5 HST
                generalize appendOf m' (tmpOf nm) p = q at HO5 HWF' HAP ⊢
                obtain ⟨qc, qm⟩ := q
                have hrel := (⟨k + 1048576, f, qc, qm, n' + 1, t' + 1, rfl, congrArg (Value.int .i64) (by omega), HO5.out, HAP.out, by have := HX.out; omega, HWF'.out, by have := HX.out; omega, by have := HX.out; omega⟩ : ∃ (k' f' : Nat) (e' : Int) (m' : DM) (n' t' : Nat), Value.int .i64 qc = .int .i64 e' ∧ Value.int .i64 ((k : Int) + 1048576) = .int .i64 (k' : Int) ∧ Own w w5 (rRef w.heap.size r m' :: rBytes w.heap.size (.slice ba (framesOf ll).length bc) (framesOf ll) :: rs) ∧ Tidy m' n' t' ∧ (n' ≤ n + 2 + k' ∧ n' ≤ n + 2 + (framesOf ll).length ∧ t' ≤ t + 2 + k' ∧ t' ≤ t + 2 + (framesOf ll).length) ∧ rthen (e', m') (fun m => writeFrom (tmpOf nm) (framesOf ll) f' m k') = R ∧ (framesOf ll).length < k' + f' * 1048576 ∧ k' ≤ (framesOf ll).length + 1048576)
                have HREL := Lib.hid hrel
                have hwr : IntKind.i64.wrap ((k : Int) + 1048576) = (k : Int) + 1048576 := IntWalk.i64_in _ (by omega)
                have HMEAS := Lib.hid (meas_step (framesOf ll).length k 1048576 (by decide) HX.out.2.2.2)
                clear hrel HX HAP HWF' HO5 hee hn htt i1 hnm
                go_wp2_with fail
                go_roundw
                case rel => exact HREL.out
                case measure => exact HMEAS.out
              · rw [if_neg hend] at hjl
                subst hjl
                have hee : decide (((framesOf ll).length : Int) < (k : Int) + 1048576) = false := decide_eq_false (by omega)
                clear hend
                go_wp2_with fail
                refine HST.out.mono ?_
                rintro e w5 ⟨rfl, ho5⟩
                have HO5 := Lib.hid ho5
                clear ho5 HST
                generalize appendOf m' (tmpOf nm) p = q at HO5 HWF' HAP ⊢
                obtain ⟨qc, qm⟩ := q
                have hrel := (⟨k + 1048576, f, qc, qm, n' + 1, t' + 1, rfl, congrArg (Value.int .i64) (by omega), HO5.out, HAP.out, by have := HX.out; omega, HWF'.out, by have := HX.out; omega, by have := HX.out; omega⟩ : ∃ (k' f' : Nat) (e' : Int) (m' : DM) (n' t' : Nat), Value.int .i64 qc = .int .i64 e' ∧ Value.int .i64 ((k : Int) + 1048576) = .int .i64 (k' : Int) ∧ Own w w5 (rRef w.heap.size r m' :: rBytes w.heap.size (.slice ba (framesOf ll).length bc) (framesOf ll) :: rs) ∧ Tidy m' n' t' ∧ (n' ≤ n + 2 + k' ∧ n' ≤ n + 2 + (framesOf ll).length ∧ t' ≤ t + 2 + k' ∧ t' ≤ t + 2 + (framesOf ll).length) ∧ rthen (e', m') (fun m => writeFrom (tmpOf nm) (framesOf ll) f' m k') = R ∧ (framesOf ll).length < k' + f' * 1048576 ∧ k' ≤ (framesOf ll).length + 1048576)
                have HREL := Lib.hid hrel
                have hwr : IntKind.i64.wrap ((k : Int) + 1048576) = (k : Int) + 1048576 := IntWalk.i64_in _ (by omega)
                have HMEAS := Lib.hid (meas_step (framesOf ll).length k 1048576 (by decide) HX.out.2.2.2)
                clear hrel HX HAP HWF' HO5 hee hn htt i1 hnm
                go_wp2_with fail
                go_roundw
                case rel => exact HREL.out
                case measure => exact HMEAS.out
            · have hR : (0, m') = R := by
                rw [← hwf, rthen_yes]
                cases f with
                | zero => rfl
                | succ f => rw [writeFrom, if_neg hlt]
              have HRX := Lib.hid (HR.out.trans hR.symm)
              have HBX := Lib.hid (show n' ≤ n + 2 + (framesOf ll).length ∧ t' ≤ t + 2 + (framesOf ll).length from by omega)
              have i1 : ¬ (k : Int) < (framesOf ll).length := by omega
              clear hwf hR hf hkb hbd hlt HR
              obtain ⟨w2, hsy, ho2⟩ := ho.rsync ht'
              have hsT := ht'.sync
              have hE2 : rlaySteps m nm (framesOf ll) = rthen (rthen (syncOf m') (fun m => renameOf m (tmpOf nm) nm)) syncOf := by
                unfold rlaySteps
                rw [HRX.out, rthen_yes]
              generalize syncOf m' = q at hsy ho2 hsT hE2
              by_cases hq : q.1 = 0
              · obtain ⟨e2, m2⟩ := q
                have he2 : e2 = 0 := hq
                subst he2
                have HSY := Lib.hid hsy
                have HO2 := Lib.hid ho2
                have HT2 := Lib.hid hsT
                clear ho ht' hsy ho2 hsT HRX hq
                rw [rthen_yes] at hE2
                have hst := HO2.out.rstep HT2.out (by have := HBX.out; omega) (by have := HBX.out; omega) ⟨3, tmpOf nm, nm, []⟩ ⟨by simp, by simp⟩ (fun _ => rfl) (fun F' w' _ _ => reads_nil w')
                rw [step_rename] at hst
                have hsT := HT2.out.rename (tmpOf nm) nm
                generalize renameOf m2 (tmpOf nm) nm = q at hst hE2 hsT
                by_cases hq : q.1 = 0
                · obtain ⟨e3, m3⟩ := q
                  have he3 : e3 = 0 := hq
                  subst he3
                  rw [rthen_yes] at hE2
                  have HST := Lib.hid hst
                  have HT3 := Lib.hid hsT
                  have HE2 := Lib.hid hE2
                  clear hst hsT hE2 HO2 HT2 hq
                  go_wp2_with fail
                  refine HSY.out.mono ?_
                  rintro e w' ⟨rfl, rfl⟩
                  clear HSY
                  go_wp2_with fail
                  refine HST.out.mono ?_
                  rintro e w3 ⟨rfl, ho3⟩
                  obtain ⟨w5, hsy, ho5⟩ := ho3.rsync HT3.out
                  have ht5 := HT3.out.sync
                  have hE5 := HE2.out
                  generalize syncOf m3 = q at hsy ho5 ht5 hE5
                  obtain ⟨e5, m5⟩ := q
                  have HE5 := Lib.hid hE5
                  have HT5 := Lib.hid ht5
                  have HO5 := Lib.hid ho5
                  have HSY := Lib.hid hsy
                  have HB5 := Lib.hid (show n' + 1 < 1099511627776 ∧ t' + 1 < 549755813888 from by have := HBX.out; omega)
                  clear hE5 ht5 ho5 hsy HE2 HT3 ho3 HST
                  go_wp2_with fail
                  refine HSY.out.mono ?_
                  rintro e w' ⟨rfl, rfl⟩
                  clear HSY
                  by_cases h4 : e5 = 4
                  · subst h4
                    obtain ⟨na5, nc5, c1, c5, hf5⟩ := HO5.out.now HT5.out (by have := HB5.out; omega) (tmpOf nm)
                    by_cases hff : 0 ≤ findI m5.now (tmpOf nm)
                    · have hst := HO5.out.rstep HT5.out (by have := HB5.out; omega) (by have := HB5.out; omega) ⟨2, tmpOf nm, ⟨#[]⟩, []⟩ ⟨by simp, by simp⟩ (fun _ => rfl) (fun F' w' _ _ => reads_nil w')
                      rw [step_remove] at hst
                      have HF5 := Lib.hid hf5
                      have HST := Lib.hid hst
                      have hres : rfull (tmpOf nm) (rlaySteps m nm (framesOf ll)) = (if (removeOf m5 (tmpOf nm)).1 = 0 then (4, (removeOf m5 (tmpOf nm)).2) else removeOf m5 (tmpOf nm)) := by
                        rw [HE5.out, rfull, if_pos ⟨rfl, hff⟩]
                      generalize removeOf m5 (tmpOf nm) = q at HST hres
                      obtain ⟨qc, qm⟩ := q
                      have HRES := Lib.hid hres
                      have hge : decide ((0 : Int) ≤ findI m5.now (tmpOf nm)) = true := decide_eq_true hff
                      generalize findI m5.now (tmpOf nm) = fi at HF5 hge
                      clear hff hres hf5 hst HE5
                      by_cases hqc : qc = 0
                      · subst hqc
                        go_wp2_with (first | (go_at_call 67; refine HF5.out.mono ?_; rintro e w' ⟨rfl, rfl⟩) | (go_at_call 58; refine HST.out.mono ?_; rintro e w6 ⟨rfl, ho6⟩; have HO6 := Lib.hid ho6; clear ho6))
                        all_goals (go_ret; exact ROwn.of2 (res := (4, qm)) ⟨rfl, HO6.out⟩ (HRES.out.trans (by simp)).symm)
                      · have hqb : (qc == 0) = false := by simpa using hqc
                        go_wp2_with (first | (go_at_call 67; refine HF5.out.mono ?_; rintro e w' ⟨rfl, rfl⟩) | (go_at_call 58; refine HST.out.mono ?_; rintro e w6 ⟨rfl, ho6⟩; have HO6 := Lib.hid ho6; clear ho6))
                        all_goals (go_ret; exact ROwn.of2 (res := (qc, qm)) ⟨rfl, HO6.out⟩ (HRES.out.trans (by simp [hqc])).symm)
                    · have hres : rfull (tmpOf nm) (rlaySteps m nm (framesOf ll)) = (4, m5) := by
                        rw [HE5.out, rfull, if_neg (fun h => hff h.2)]
                      have HRES := Lib.hid hres
                      have HF5 := Lib.hid hf5
                      have hge : decide ((0 : Int) ≤ findI m5.now (tmpOf nm)) = false := decide_eq_false hff
                      generalize findI m5.now (tmpOf nm) = fi at HF5 hge
                      clear hff hres hf5 HE5
                      go_wp2_with (first | (go_at_call 67; refine HF5.out.mono ?_; rintro e w' ⟨rfl, rfl⟩))
                      all_goals (go_ret; exact ROwn.of2 (res := (4, m5)) ⟨rfl, HO5.out⟩ HRES.out.symm)
                  · have h4' : (e5 == 4) = false := by simpa using h4
                    have hres : rfull (tmpOf nm) (rlaySteps m nm (framesOf ll)) = (e5, m5) := by
                      rw [HE5.out, rfull, if_neg (fun h => h4 h.1)]
                    have HRES := Lib.hid hres
                    clear hres HE5
                    go_wp2_with fail
                    all_goals (go_ret; exact ROwn.of2 (res := (e5, m5)) ⟨rfl, HO5.out⟩ HRES.out.symm)
                · obtain ⟨e5, m5⟩ := q
                  have he5 : ¬ e5 = 0 := hq
                  rw [rthen_no hq] at hE2
                  have HE5 := Lib.hid hE2
                  have HT5 := Lib.hid hsT
                  have HST := Lib.hid hst
                  have HB5 := Lib.hid (show n' + 1 < 1099511627776 ∧ t' + 1 < 549755813888 from by have := HBX.out; omega)
                  have hne : (e5 == 0) = false := by simpa using he5
                  clear hst hsT hE2 HO2 HT2 hq he5
                  go_wp2_with fail
                  refine HSY.out.mono ?_
                  rintro e w' ⟨rfl, rfl⟩
                  clear HSY
                  go_wp2_with fail
                  refine HST.out.mono ?_
                  rintro e w5 ⟨rfl, ho5⟩
                  have HO5 := Lib.hid ho5
                  clear ho5 HST
                  by_cases h4 : e5 = 4
                  · subst h4
                    obtain ⟨na5, nc5, c1, c5, hf5⟩ := HO5.out.now HT5.out (by have := HB5.out; omega) (tmpOf nm)
                    by_cases hff : 0 ≤ findI m5.now (tmpOf nm)
                    · have hst := HO5.out.rstep HT5.out (by have := HB5.out; omega) (by have := HB5.out; omega) ⟨2, tmpOf nm, ⟨#[]⟩, []⟩ ⟨by simp, by simp⟩ (fun _ => rfl) (fun F' w' _ _ => reads_nil w')
                      rw [step_remove] at hst
                      have HF5 := Lib.hid hf5
                      have HST := Lib.hid hst
                      have hres : rfull (tmpOf nm) (rlaySteps m nm (framesOf ll)) = (if (removeOf m5 (tmpOf nm)).1 = 0 then (4, (removeOf m5 (tmpOf nm)).2) else removeOf m5 (tmpOf nm)) := by
                        rw [HE5.out, rfull, if_pos ⟨rfl, hff⟩]
                      generalize removeOf m5 (tmpOf nm) = q at HST hres
                      obtain ⟨qc, qm⟩ := q
                      have HRES := Lib.hid hres
                      have hge : decide ((0 : Int) ≤ findI m5.now (tmpOf nm)) = true := decide_eq_true hff
                      generalize findI m5.now (tmpOf nm) = fi at HF5 hge
                      clear hff hres hf5 hst HE5
                      by_cases hqc : qc = 0
                      · subst hqc
                        go_wp2_with (first | (go_at_call 67; refine HF5.out.mono ?_; rintro e w' ⟨rfl, rfl⟩) | (go_at_call 58; refine HST.out.mono ?_; rintro e w6 ⟨rfl, ho6⟩; have HO6 := Lib.hid ho6; clear ho6))
                        all_goals (go_ret; exact ROwn.of2 (res := (4, qm)) ⟨rfl, HO6.out⟩ (HRES.out.trans (by simp)).symm)
                      · have hqb : (qc == 0) = false := by simpa using hqc
                        go_wp2_with (first | (go_at_call 67; refine HF5.out.mono ?_; rintro e w' ⟨rfl, rfl⟩) | (go_at_call 58; refine HST.out.mono ?_; rintro e w6 ⟨rfl, ho6⟩; have HO6 := Lib.hid ho6; clear ho6))
                        all_goals (go_ret; exact ROwn.of2 (res := (qc, qm)) ⟨rfl, HO6.out⟩ (HRES.out.trans (by simp [hqc])).symm)
                    · have hres : rfull (tmpOf nm) (rlaySteps m nm (framesOf ll)) = (4, m5) := by
                        rw [HE5.out, rfull, if_neg (fun h => hff h.2)]
                      have HRES := Lib.hid hres
                      have HF5 := Lib.hid hf5
                      have hge : decide ((0 : Int) ≤ findI m5.now (tmpOf nm)) = false := decide_eq_false hff
                      generalize findI m5.now (tmpOf nm) = fi at HF5 hge
                      clear hff hres hf5 HE5
                      go_wp2_with (first | (go_at_call 67; refine HF5.out.mono ?_; rintro e w' ⟨rfl, rfl⟩))
                      all_goals (go_ret; exact ROwn.of2 (res := (4, m5)) ⟨rfl, HO5.out⟩ HRES.out.symm)
                  · have h4' : (e5 == 4) = false := by simpa using h4
                    have hres : rfull (tmpOf nm) (rlaySteps m nm (framesOf ll)) = (e5, m5) := by
                      rw [HE5.out, rfull, if_neg (fun h => h4 h.1)]
                    have HRES := Lib.hid hres
                    clear hres HE5
                    go_wp2_with fail
                    all_goals (go_ret; exact ROwn.of2 (res := (e5, m5)) ⟨rfl, HO5.out⟩ HRES.out.symm)
              · obtain ⟨e5, m5⟩ := q
                have he5 : ¬ e5 = 0 := hq
                rw [rthen_no (r := (e5, m5)) hq, rthen_no (r := (e5, m5)) hq] at hE2
                have HE5 := Lib.hid hE2
                have HT5 := Lib.hid hsT
                have HO5 := Lib.hid ho2
                have HSY := Lib.hid hsy
                have HB5 := Lib.hid (show n' < 1099511627776 ∧ t' < 549755813888 from by have := HBX.out; omega)
                have hne : (e5 == 0) = false := by simpa using he5
                clear hsy hsT hE2 ho2 ho ht' hq he5
                go_wp2_with fail
                refine HSY.out.mono ?_
                rintro e w' ⟨rfl, rfl⟩
                clear HSY
                by_cases h4 : e5 = 4
                · subst h4
                  obtain ⟨na5, nc5, c1, c5, hf5⟩ := HO5.out.now HT5.out (by have := HB5.out; omega) (tmpOf nm)
                  by_cases hff : 0 ≤ findI m5.now (tmpOf nm)
                  · have hst := HO5.out.rstep HT5.out (by have := HB5.out; omega) (by have := HB5.out; omega) ⟨2, tmpOf nm, ⟨#[]⟩, []⟩ ⟨by simp, by simp⟩ (fun _ => rfl) (fun F' w' _ _ => reads_nil w')
                    rw [step_remove] at hst
                    have HF5 := Lib.hid hf5
                    have HST := Lib.hid hst
                    have hres : rfull (tmpOf nm) (rlaySteps m nm (framesOf ll)) = (if (removeOf m5 (tmpOf nm)).1 = 0 then (4, (removeOf m5 (tmpOf nm)).2) else removeOf m5 (tmpOf nm)) := by
                      rw [HE5.out, rfull, if_pos ⟨rfl, hff⟩]
                    generalize removeOf m5 (tmpOf nm) = q at HST hres
                    obtain ⟨qc, qm⟩ := q
                    have HRES := Lib.hid hres
                    have hge : decide ((0 : Int) ≤ findI m5.now (tmpOf nm)) = true := decide_eq_true hff
                    generalize findI m5.now (tmpOf nm) = fi at HF5 hge
                    clear hff hres hf5 hst HE5
                    by_cases hqc : qc = 0
                    · subst hqc
                      go_wp2_with (first | (go_at_call 67; refine HF5.out.mono ?_; rintro e w' ⟨rfl, rfl⟩) | (go_at_call 58; refine HST.out.mono ?_; rintro e w6 ⟨rfl, ho6⟩; have HO6 := Lib.hid ho6; clear ho6))
                      all_goals (go_ret; exact ROwn.of2 (res := (4, qm)) ⟨rfl, HO6.out⟩ (HRES.out.trans (by simp)).symm)
                    · have hqb : (qc == 0) = false := by simpa using hqc
                      go_wp2_with (first | (go_at_call 67; refine HF5.out.mono ?_; rintro e w' ⟨rfl, rfl⟩) | (go_at_call 58; refine HST.out.mono ?_; rintro e w6 ⟨rfl, ho6⟩; have HO6 := Lib.hid ho6; clear ho6))
                      all_goals (go_ret; exact ROwn.of2 (res := (qc, qm)) ⟨rfl, HO6.out⟩ (HRES.out.trans (by simp [hqc])).symm)
                  · have hres : rfull (tmpOf nm) (rlaySteps m nm (framesOf ll)) = (4, m5) := by
                      rw [HE5.out, rfull, if_neg (fun h => hff h.2)]
                    have HRES := Lib.hid hres
                    have HF5 := Lib.hid hf5
                    have hge : decide ((0 : Int) ≤ findI m5.now (tmpOf nm)) = false := decide_eq_false hff
                    generalize findI m5.now (tmpOf nm) = fi at HF5 hge
                    clear hff hres hf5 HE5
                    go_wp2_with (first | (go_at_call 67; refine HF5.out.mono ?_; rintro e w' ⟨rfl, rfl⟩))
                    all_goals (go_ret; exact ROwn.of2 (res := (4, m5)) ⟨rfl, HO5.out⟩ HRES.out.symm)
                · have h4' : (e5 == 4) = false := by simpa using h4
                  have hres : rfull (tmpOf nm) (rlaySteps m nm (framesOf ll)) = (e5, m5) := by
                    rw [HE5.out, rfull, if_neg (fun h => h4 h.1)]
                  have HRES := Lib.hid hres
                  clear hres HE5
                  go_wp2_with fail
                  all_goals (go_ret; exact ROwn.of2 (res := (e5, m5)) ⟨rfl, HO5.out⟩ HRES.out.symm)
          · have hR := hwf
            rw [rthen_no (r := (e', m')) he] at hR
            have hE : rlaySteps m nm (framesOf ll) = (e', m') := by
              unfold rlaySteps
              rw [HR.out, ← hR, rthen_no (r := (e', m')) he, rthen_no (r := (e', m')) he, rthen_no (r := (e', m')) he]
            obtain ⟨e5, he5⟩ : ∃ x, x = e' := ⟨_, rfl⟩
            obtain ⟨m5, hm5⟩ : ∃ x, x = m' := ⟨_, rfl⟩
            subst he5
            subst hm5
            have HE5 := Lib.hid hE
            have HT5 := Lib.hid ht'
            have HO5 := Lib.hid ho
            have HB5 := Lib.hid (show n' < 1099511627776 ∧ t' < 549755813888 from by omega)
            have hne : (e5 == 0) = false := by simpa using he
            clear hwf hR hE ht' ho hf hkb hbd he HR
            by_cases h4 : e5 = 4
            · subst h4
              obtain ⟨na5, nc5, c1, c5, hf5⟩ := HO5.out.now HT5.out (by have := HB5.out; omega) (tmpOf nm)
              by_cases hff : 0 ≤ findI m5.now (tmpOf nm)
              · have hst := HO5.out.rstep HT5.out (by have := HB5.out; omega) (by have := HB5.out; omega) ⟨2, tmpOf nm, ⟨#[]⟩, []⟩ ⟨by simp, by simp⟩ (fun _ => rfl) (fun F' w' _ _ => reads_nil w')
                rw [step_remove] at hst
                have HF5 := Lib.hid hf5
                have HST := Lib.hid hst
                have hres : rfull (tmpOf nm) (rlaySteps m nm (framesOf ll)) = (if (removeOf m5 (tmpOf nm)).1 = 0 then (4, (removeOf m5 (tmpOf nm)).2) else removeOf m5 (tmpOf nm)) := by
                  rw [HE5.out, rfull, if_pos ⟨rfl, hff⟩]
                generalize removeOf m5 (tmpOf nm) = q at HST hres
                obtain ⟨qc, qm⟩ := q
                have HRES := Lib.hid hres
                have hge : decide ((0 : Int) ≤ findI m5.now (tmpOf nm)) = true := decide_eq_true hff
                generalize findI m5.now (tmpOf nm) = fi at HF5 hge
                clear hff hres hf5 hst HE5
                by_cases hqc : qc = 0
                · subst hqc
                  go_wp2_with (first | (go_at_call 67; refine HF5.out.mono ?_; rintro e w' ⟨rfl, rfl⟩) | (go_at_call 58; refine HST.out.mono ?_; rintro e w6 ⟨rfl, ho6⟩; have HO6 := Lib.hid ho6; clear ho6))
                  all_goals (go_ret; exact ROwn.of2 (res := (4, qm)) ⟨rfl, HO6.out⟩ (HRES.out.trans (by simp)).symm)
                · have hqb : (qc == 0) = false := by simpa using hqc
                  go_wp2_with (first | (go_at_call 67; refine HF5.out.mono ?_; rintro e w' ⟨rfl, rfl⟩) | (go_at_call 58; refine HST.out.mono ?_; rintro e w6 ⟨rfl, ho6⟩; have HO6 := Lib.hid ho6; clear ho6))
                  all_goals (go_ret; exact ROwn.of2 (res := (qc, qm)) ⟨rfl, HO6.out⟩ (HRES.out.trans (by simp [hqc])).symm)
              · have hres : rfull (tmpOf nm) (rlaySteps m nm (framesOf ll)) = (4, m5) := by
                  rw [HE5.out, rfull, if_neg (fun h => hff h.2)]
                have HRES := Lib.hid hres
                have HF5 := Lib.hid hf5
                have hge : decide ((0 : Int) ≤ findI m5.now (tmpOf nm)) = false := decide_eq_false hff
                generalize findI m5.now (tmpOf nm) = fi at HF5 hge
                clear hff hres hf5 HE5
                go_wp2_with (first | (go_at_call 67; refine HF5.out.mono ?_; rintro e w' ⟨rfl, rfl⟩))
                all_goals (go_ret; exact ROwn.of2 (res := (4, m5)) ⟨rfl, HO5.out⟩ HRES.out.symm)
            · have h4' : (e5 == 4) = false := by simpa using h4
              have hres : rfull (tmpOf nm) (rlaySteps m nm (framesOf ll)) = (e5, m5) := by
                rw [HE5.out, rfull, if_neg (fun h => h4 h.1)]
              have HRES := Lib.hid hres
              clear hres HE5
              go_wp2_with fail
              all_goals (go_ret; exact ROwn.of2 (res := (e5, m5)) ⟨rfl, HO5.out⟩ HRES.out.symm)
      | false =>
        rw [hd] at c5
        have HF := Lib.hid hfi
        by_cases hff : 0 ≤ findI m.now (tmpOf nm)
        · have hst0 := hown.rstep HT.out (by omega) (by omega) ⟨2, tmpOf nm, ⟨#[]⟩, []⟩ ⟨by simp, by simp⟩ (fun _ => rfl) (fun F' w' _ _ => reads_nil w')
          rw [step_remove] at hst0
          have htr := HT.out.remove (tmpOf nm)
          have hE2 : rthen (rfirst m (tmpOf nm)) (fun m => createOf m (tmpOf nm)) = rthen (removeOf m (tmpOf nm)) (fun m => createOf m (tmpOf nm)) := by
            rw [rfirst, if_pos ⟨hd, hff⟩]
          have hge : decide ((0 : Int) ≤ findI m.now (tmpOf nm)) = true := decide_eq_true hff
          generalize findI m.now (tmpOf nm) = fi at HF hge
          clear hE1 hst hfi hff hd
          generalize removeOf m (tmpOf nm) = q at hst0 hE2 htr
          by_cases hq : q.1 = 0
          · obtain ⟨e0, m0⟩ := q
            have he0 : e0 = 0 := hq
            subst he0
            rw [rthen_yes] at hE2
            have hE2 := Lib.hid hE2
            have HST := Lib.hid hst0
            have HTR := Lib.hid htr
            clear hst0 htr hq hown
            go_wp2_with fail
            refine HF.out.mono ?_
            rintro e w' ⟨rfl, rfl⟩
            clear HF
            go_wp2_with fail
            refine HST.out.mono ?_
            rintro e w4 ⟨rfl, ho4⟩
            clear HST c1 c5
            have hst := ho4.rstep HTR.out (by omega) (by omega) ⟨0, tmpOf nm, ⟨#[]⟩, []⟩ ⟨by simp, by simp⟩ (fun _ => rfl) (fun F' w' _ _ => reads_nil w')
            rw [step_create] at hst
            have ht1 := HTR.out.create (tmpOf nm)
            have hE2 := hE2.out
            generalize createOf m0 (tmpOf nm) = q at hst hE2 ht1
            obtain ⟨e1, m1⟩ := q
            obtain ⟨n1, hn1⟩ : ∃ x, x = n + 1 + 1 := ⟨_, rfl⟩
            obtain ⟨t1, ht1'⟩ : ∃ x, x = t + 1 + 1 := ⟨_, rfl⟩
            have HST := Lib.hid hst
            have HT1 := Lib.hid (show Tidy m1 n1 t1 from by subst hn1; subst ht1'; exact ht1)
            have HB1 := Lib.hid (show n1 ≤ n + 2 ∧ t1 ≤ t + 2 from by omega)
            have HE1 := Lib.hid hE2
            clear hst hE2 ht1 hn1 ht1' ho4 HTR
            go_wp2_with fail
            refine HST.out.mono ?_
            rintro e w5 ⟨rfl, ho5⟩
            have HO1 := Lib.hid ho5
            clear ho5 HST
            have hwf0 : ∃ R, rthen (e1, m1) (fun m => writeFrom (tmpOf nm) (framesOf ll) ((framesOf ll).length / 1048576 + 1) m 0) = R := ⟨_, rfl⟩
            obtain ⟨R, hwf⟩ := hwf0
            have HR := Lib.hid (show rthen (rthen (rfirst m (tmpOf nm)) (fun m => createOf m (tmpOf nm))) (fun m => writeOf m (tmpOf nm) (framesOf ll)) = R from by rw [HE1.out]; exact hwf)
            have HWF := Lib.hid hwf
            clear hwf HE1
            go_wp2_with fail
            go_loopw [10, 11] (fun ev iv wx => ∃ (k f : Nat) (e' : Int) (m' : DM) (n' t' : Nat), ev = .int .i64 e' ∧ iv = .int .i64 (k : Int) ∧ Own w wx (rRef w.heap.size r m' :: rBytes w.heap.size (.slice ba (framesOf ll).length bc) (framesOf ll) :: rs) ∧ Tidy m' n' t' ∧ (n' ≤ n + 2 + k ∧ n' ≤ n + 2 + (framesOf ll).length ∧ t' ≤ t + 2 + k ∧ t' ≤ t + 2 + (framesOf ll).length) ∧ rthen (e', m') (fun m => writeFrom (tmpOf nm) (framesOf ll) f m k) = R ∧ (framesOf ll).length < k + f * 1048576 ∧ k ≤ (framesOf ll).length + 1048576) (fun _ iv _ => (framesOf ll).length - (intOf iv).toNat)
            case atStart => exact ⟨0, (framesOf ll).length / 1048576 + 1, e1, m1, n1, t1, rfl, rfl, HO1.out, HT1.out, by have := HB1.out; omega, HWF.out, by omega, by omega⟩
            case round =>
              obtain ⟨k, f, e', m', n', t', rfl, rfl, ho, ht', hbd, hwf, hf, hkb⟩ := hrel
              have j0 : (0 : Int) ≤ k := by omega
              by_cases he : e' = 0
              · subst he
                by_cases hlt : k < (framesOf ll).length
                · obtain ⟨f, rfl⟩ : ∃ f', f = f' + 1 := ⟨f - 1, by omega⟩
                  have hwf' := hwf
                  rw [rthen, if_pos rfl, writeFrom, if_pos hlt] at hwf'
                  clear hwf
                  obtain ⟨j, hj⟩ : ∃ j, j = (((framesOf ll).drop k).take 1048576).length := ⟨_, rfl⟩
                  have hjl : j = if (framesOf ll).length < k + 1048576 then (framesOf ll).length - k else 1048576 := by
                    rw [hj, List.length_take, List.length_drop]; split <;> omega
                  have hjk : k + j ≤ (framesOf ll).length := by rw [hjl]; split <;> omega
                  have hj0 : 0 < j := by rw [hjl]; split <;> omega
                  have hjt : ((framesOf ll).drop k).take j = ((framesOf ll).drop k).take 1048576 := by
                    have := List.take_length (l := ((framesOf ll).drop k).take 1048576)
                    rw [← hj, List.take_take] at this
                    rw [Nat.min_eq_left (by rw [hj, List.length_take]; omega)] at this
                    exact this
                  have hst := ho.rstepB ht' (by omega) (by omega) ⟨1, tmpOf nm, ⟨#[]⟩, ((framesOf ll).drop k).take 1048576⟩ ⟨by simp, by simp⟩ (fun h => absurd rfl h) (pv := .slice (Option.map (fun x => x.add k) ba) j (bc - k)) (fun w' hw' => by
                    have := Reads.cutP hw' k j hjk
                    rw [hjt, if_neg (by omega : ¬ bc = k)] at this; exact this)
                  rw [step_append] at hst
                  have hap := ht'.append (tmpOf nm) (((framesOf ll).drop k).take 1048576)
                  generalize ((framesOf ll).drop k).take 1048576 = p at hst hwf' hap
                  have HST := Lib.hid hst
                  have HWF' := Lib.hid hwf'
                  have HAP := Lib.hid hap
                  have i1 : (k : Int) < (framesOf ll).length := by omega
                  have HX := Lib.hid (show (n' ≤ n + 2 + k ∧ n' ≤ n + 2 + (framesOf ll).length ∧ t' ≤ t + 2 + k ∧ t' ≤ t + 2 + (framesOf ll).length) ∧ k ≤ (framesOf ll).length + 1048576 ∧ (framesOf ll).length < k + (f + 1) * 1048576 ∧ k < (framesOf ll).length from ⟨hbd, hkb, hf, hlt⟩)
                  clear hst hwf' hap ho ht' hjt hj hj0 hbd hf hkb hlt
                  by_cases hend : (framesOf ll).length < k + 1048576
                  · rw [if_pos hend] at hjl
                    subst hjl
                    have hee : decide (((framesOf ll).length : Int) < (k : Int) + 1048576) = true := decide_eq_true (by omega)
                    clear hend hjk
                    go_wp2_with fail
                    refine HST.out.mono ?_
                    rintro e w5 ⟨rfl, ho5⟩
                    have HO5 := Lib.hid ho5
                    clear ho5 HST
                    generalize appendOf m' (tmpOf nm) p = q at HO5 HWF' HAP ⊢
                    obtain ⟨qc, qm⟩ := q
                    have hrel := (⟨k + 1048576, f, qc, qm, n' + 1, t' + 1, rfl, congrArg (Value.int .i64) (by omega), HO5.out, HAP.out, by have := HX.out; omega, HWF'.out, by have := HX.out; omega, by have := HX.out; omega⟩ : ∃ (k' f' : Nat) (e' : Int) (m' : DM) (n' t' : Nat), Value.int .i64 qc = .int .i64 e' ∧ Value.int .i64 ((k : Int) + 1048576) = .int .i64 (k' : Int) ∧ Own w w5 (rRef w.heap.size r m' :: rBytes w.heap.size (.slice ba (framesOf ll).length bc) (framesOf ll) :: rs) ∧ Tidy m' n' t' ∧ (n' ≤ n + 2 + k' ∧ n' ≤ n + 2 + (framesOf ll).length ∧ t' ≤ t + 2 + k' ∧ t' ≤ t + 2 + (framesOf ll).length) ∧ rthen (e', m') (fun m => writeFrom (tmpOf nm) (framesOf ll) f' m k') = R ∧ (framesOf ll).length < k' + f' * 1048576 ∧ k' ≤ (framesOf ll).length + 1048576)
                    have HREL := Lib.hid hrel
                    have hwr : IntKind.i64.wrap ((k : Int) + 1048576) = (k : Int) + 1048576 := IntWalk.i64_in _ (by omega)
                    have HMEAS := Lib.hid (meas_step (framesOf ll).length k 1048576 (by decide) HX.out.2.2.2)
                    clear hrel HX HAP HWF' HO5 hee hn htt i1 hnm
                    go_wp2_with fail
                    go_roundw
                    case rel => exact HREL.out
                    case measure => exact HMEAS.out
                  · rw [if_neg hend] at hjl
                    subst hjl
                    have hee : decide (((framesOf ll).length : Int) < (k : Int) + 1048576) = false := decide_eq_false (by omega)
                    clear hend
                    go_wp2_with fail
                    refine HST.out.mono ?_
                    rintro e w5 ⟨rfl, ho5⟩
                    have HO5 := Lib.hid ho5
                    clear ho5 HST
                    generalize appendOf m' (tmpOf nm) p = q at HO5 HWF' HAP ⊢
                    obtain ⟨qc, qm⟩ := q
                    have hrel := (⟨k + 1048576, f, qc, qm, n' + 1, t' + 1, rfl, congrArg (Value.int .i64) (by omega), HO5.out, HAP.out, by have := HX.out; omega, HWF'.out, by have := HX.out; omega, by have := HX.out; omega⟩ : ∃ (k' f' : Nat) (e' : Int) (m' : DM) (n' t' : Nat), Value.int .i64 qc = .int .i64 e' ∧ Value.int .i64 ((k : Int) + 1048576) = .int .i64 (k' : Int) ∧ Own w w5 (rRef w.heap.size r m' :: rBytes w.heap.size (.slice ba (framesOf ll).length bc) (framesOf ll) :: rs) ∧ Tidy m' n' t' ∧ (n' ≤ n + 2 + k' ∧ n' ≤ n + 2 + (framesOf ll).length ∧ t' ≤ t + 2 + k' ∧ t' ≤ t + 2 + (framesOf ll).length) ∧ rthen (e', m') (fun m => writeFrom (tmpOf nm) (framesOf ll) f' m k') = R ∧ (framesOf ll).length < k' + f' * 1048576 ∧ k' ≤ (framesOf ll).length + 1048576)
                    have HREL := Lib.hid hrel
                    have hwr : IntKind.i64.wrap ((k : Int) + 1048576) = (k : Int) + 1048576 := IntWalk.i64_in _ (by omega)
                    have HMEAS := Lib.hid (meas_step (framesOf ll).length k 1048576 (by decide) HX.out.2.2.2)
                    clear hrel HX HAP HWF' HO5 hee hn htt i1 hnm
                    go_wp2_with fail
                    go_roundw
                    case rel => exact HREL.out
                    case measure => exact HMEAS.out
                · have hR : (0, m') = R := by
                    rw [← hwf, rthen_yes]
                    cases f with
                    | zero => rfl
                    | succ f => rw [writeFrom, if_neg hlt]
                  have HRX := Lib.hid (HR.out.trans hR.symm)
                  have HBX := Lib.hid (show n' ≤ n + 2 + (framesOf ll).length ∧ t' ≤ t + 2 + (framesOf ll).length from by omega)
                  have i1 : ¬ (k : Int) < (framesOf ll).length := by omega
                  clear hwf hR hf hkb hbd hlt HR
                  obtain ⟨w2, hsy, ho2⟩ := ho.rsync ht'
                  have hsT := ht'.sync
                  have hE2 : rlaySteps m nm (framesOf ll) = rthen (rthen (syncOf m') (fun m => renameOf m (tmpOf nm) nm)) syncOf := by
                    unfold rlaySteps
                    rw [HRX.out, rthen_yes]
                  generalize syncOf m' = q at hsy ho2 hsT hE2
                  by_cases hq : q.1 = 0
                  · obtain ⟨e2, m2⟩ := q
                    have he2 : e2 = 0 := hq
                    subst he2
                    have HSY := Lib.hid hsy
                    have HO2 := Lib.hid ho2
                    have HT2 := Lib.hid hsT
                    clear ho ht' hsy ho2 hsT HRX hq
                    rw [rthen_yes] at hE2
                    have hst := HO2.out.rstep HT2.out (by have := HBX.out; omega) (by have := HBX.out; omega) ⟨3, tmpOf nm, nm, []⟩ ⟨by simp, by simp⟩ (fun _ => rfl) (fun F' w' _ _ => reads_nil w')
                    rw [step_rename] at hst
                    have hsT := HT2.out.rename (tmpOf nm) nm
                    generalize renameOf m2 (tmpOf nm) nm = q at hst hE2 hsT
                    by_cases hq : q.1 = 0
                    · obtain ⟨e3, m3⟩ := q
                      have he3 : e3 = 0 := hq
                      subst he3
                      rw [rthen_yes] at hE2
                      have HST := Lib.hid hst
                      have HT3 := Lib.hid hsT
                      have HE2 := Lib.hid hE2
                      clear hst hsT hE2 HO2 HT2 hq
                      go_wp2_with fail
                      refine HSY.out.mono ?_
                      rintro e w' ⟨rfl, rfl⟩
                      clear HSY
                      go_wp2_with fail
                      refine HST.out.mono ?_
                      rintro e w3 ⟨rfl, ho3⟩
                      obtain ⟨w5, hsy, ho5⟩ := ho3.rsync HT3.out
                      have ht5 := HT3.out.sync
                      have hE5 := HE2.out
                      generalize syncOf m3 = q at hsy ho5 ht5 hE5
                      obtain ⟨e5, m5⟩ := q
                      have HE5 := Lib.hid hE5
                      have HT5 := Lib.hid ht5
                      have HO5 := Lib.hid ho5
                      have HSY := Lib.hid hsy
                      have HB5 := Lib.hid (show n' + 1 < 1099511627776 ∧ t' + 1 < 549755813888 from by have := HBX.out; omega)
                      clear hE5 ht5 ho5 hsy HE2 HT3 ho3 HST
                      go_wp2_with fail
                      refine HSY.out.mono ?_
                      rintro e w' ⟨rfl, rfl⟩
                      clear HSY
                      by_cases h4 : e5 = 4
                      · subst h4
                        obtain ⟨na5, nc5, c1, c5, hf5⟩ := HO5.out.now HT5.out (by have := HB5.out; omega) (tmpOf nm)
                        by_cases hff : 0 ≤ findI m5.now (tmpOf nm)
                        · have hst := HO5.out.rstep HT5.out (by have := HB5.out; omega) (by have := HB5.out; omega) ⟨2, tmpOf nm, ⟨#[]⟩, []⟩ ⟨by simp, by simp⟩ (fun _ => rfl) (fun F' w' _ _ => reads_nil w')
                          rw [step_remove] at hst
                          have HF5 := Lib.hid hf5
                          have HST := Lib.hid hst
                          have hres : rfull (tmpOf nm) (rlaySteps m nm (framesOf ll)) = (if (removeOf m5 (tmpOf nm)).1 = 0 then (4, (removeOf m5 (tmpOf nm)).2) else removeOf m5 (tmpOf nm)) := by
                            rw [HE5.out, rfull, if_pos ⟨rfl, hff⟩]
                          generalize removeOf m5 (tmpOf nm) = q at HST hres
                          obtain ⟨qc, qm⟩ := q
                          have HRES := Lib.hid hres
                          have hge : decide ((0 : Int) ≤ findI m5.now (tmpOf nm)) = true := decide_eq_true hff
                          generalize findI m5.now (tmpOf nm) = fi at HF5 hge
                          clear hff hres hf5 hst HE5
                          by_cases hqc : qc = 0
                          · subst hqc
                            go_wp2_with (first | (go_at_call 67; refine HF5.out.mono ?_; rintro e w' ⟨rfl, rfl⟩) | (go_at_call 58; refine HST.out.mono ?_; rintro e w6 ⟨rfl, ho6⟩; have HO6 := Lib.hid ho6; clear ho6))
                            all_goals (go_ret; exact ROwn.of2 (res := (4, qm)) ⟨rfl, HO6.out⟩ (HRES.out.trans (by simp)).symm)
                          · have hqb : (qc == 0) = false := by simpa using hqc
                            go_wp2_with (first | (go_at_call 67; refine HF5.out.mono ?_; rintro e w' ⟨rfl, rfl⟩) | (go_at_call 58; refine HST.out.mono ?_; rintro e w6 ⟨rfl, ho6⟩; have HO6 := Lib.hid ho6; clear ho6))
                            all_goals (go_ret; exact ROwn.of2 (res := (qc, qm)) ⟨rfl, HO6.out⟩ (HRES.out.trans (by simp [hqc])).symm)
                        · have hres : rfull (tmpOf nm) (rlaySteps m nm (framesOf ll)) = (4, m5) := by
                            rw [HE5.out, rfull, if_neg (fun h => hff h.2)]
                          have HRES := Lib.hid hres
                          have HF5 := Lib.hid hf5
                          have hge : decide ((0 : Int) ≤ findI m5.now (tmpOf nm)) = false := decide_eq_false hff
                          generalize findI m5.now (tmpOf nm) = fi at HF5 hge
                          clear hff hres hf5 HE5
                          go_wp2_with (first | (go_at_call 67; refine HF5.out.mono ?_; rintro e w' ⟨rfl, rfl⟩))
                          all_goals (go_ret; exact ROwn.of2 (res := (4, m5)) ⟨rfl, HO5.out⟩ HRES.out.symm)
                      · have h4' : (e5 == 4) = false := by simpa using h4
                        have hres : rfull (tmpOf nm) (rlaySteps m nm (framesOf ll)) = (e5, m5) := by
                          rw [HE5.out, rfull, if_neg (fun h => h4 h.1)]
                        have HRES := Lib.hid hres
                        clear hres HE5
                        go_wp2_with fail
                        all_goals (go_ret; exact ROwn.of2 (res := (e5, m5)) ⟨rfl, HO5.out⟩ HRES.out.symm)
                    · obtain ⟨e5, m5⟩ := q
                      have he5 : ¬ e5 = 0 := hq
                      rw [rthen_no hq] at hE2
                      have HE5 := Lib.hid hE2
                      have HT5 := Lib.hid hsT
                      have HST := Lib.hid hst
                      have HB5 := Lib.hid (show n' + 1 < 1099511627776 ∧ t' + 1 < 549755813888 from by have := HBX.out; omega)
                      have hne : (e5 == 0) = false := by simpa using he5
                      clear hst hsT hE2 HO2 HT2 hq he5
                      go_wp2_with fail
                      refine HSY.out.mono ?_
                      rintro e w' ⟨rfl, rfl⟩
                      clear HSY
                      go_wp2_with fail
                      refine HST.out.mono ?_
                      rintro e w5 ⟨rfl, ho5⟩
                      have HO5 := Lib.hid ho5
                      clear ho5 HST
                      by_cases h4 : e5 = 4
                      · subst h4
                        obtain ⟨na5, nc5, c1, c5, hf5⟩ := HO5.out.now HT5.out (by have := HB5.out; omega) (tmpOf nm)
                        by_cases hff : 0 ≤ findI m5.now (tmpOf nm)
                        · have hst := HO5.out.rstep HT5.out (by have := HB5.out; omega) (by have := HB5.out; omega) ⟨2, tmpOf nm, ⟨#[]⟩, []⟩ ⟨by simp, by simp⟩ (fun _ => rfl) (fun F' w' _ _ => reads_nil w')
                          rw [step_remove] at hst
                          have HF5 := Lib.hid hf5
                          have HST := Lib.hid hst
                          have hres : rfull (tmpOf nm) (rlaySteps m nm (framesOf ll)) = (if (removeOf m5 (tmpOf nm)).1 = 0 then (4, (removeOf m5 (tmpOf nm)).2) else removeOf m5 (tmpOf nm)) := by
                            rw [HE5.out, rfull, if_pos ⟨rfl, hff⟩]
                          generalize removeOf m5 (tmpOf nm) = q at HST hres
                          obtain ⟨qc, qm⟩ := q
                          have HRES := Lib.hid hres
                          have hge : decide ((0 : Int) ≤ findI m5.now (tmpOf nm)) = true := decide_eq_true hff
                          generalize findI m5.now (tmpOf nm) = fi at HF5 hge
                          clear hff hres hf5 hst HE5
                          by_cases hqc : qc = 0
                          · subst hqc
                            go_wp2_with (first | (go_at_call 67; refine HF5.out.mono ?_; rintro e w' ⟨rfl, rfl⟩) | (go_at_call 58; refine HST.out.mono ?_; rintro e w6 ⟨rfl, ho6⟩; have HO6 := Lib.hid ho6; clear ho6))
                            all_goals (go_ret; exact ROwn.of2 (res := (4, qm)) ⟨rfl, HO6.out⟩ (HRES.out.trans (by simp)).symm)
                          · have hqb : (qc == 0) = false := by simpa using hqc
                            go_wp2_with (first | (go_at_call 67; refine HF5.out.mono ?_; rintro e w' ⟨rfl, rfl⟩) | (go_at_call 58; refine HST.out.mono ?_; rintro e w6 ⟨rfl, ho6⟩; have HO6 := Lib.hid ho6; clear ho6))
                            all_goals (go_ret; exact ROwn.of2 (res := (qc, qm)) ⟨rfl, HO6.out⟩ (HRES.out.trans (by simp [hqc])).symm)
                        · have hres : rfull (tmpOf nm) (rlaySteps m nm (framesOf ll)) = (4, m5) := by
                            rw [HE5.out, rfull, if_neg (fun h => hff h.2)]
                          have HRES := Lib.hid hres
                          have HF5 := Lib.hid hf5
                          have hge : decide ((0 : Int) ≤ findI m5.now (tmpOf nm)) = false := decide_eq_false hff
                          generalize findI m5.now (tmpOf nm) = fi at HF5 hge
                          clear hff hres hf5 HE5
                          go_wp2_with (first | (go_at_call 67; refine HF5.out.mono ?_; rintro e w' ⟨rfl, rfl⟩))
                          all_goals (go_ret; exact ROwn.of2 (res := (4, m5)) ⟨rfl, HO5.out⟩ HRES.out.symm)
                      · have h4' : (e5 == 4) = false := by simpa using h4
                        have hres : rfull (tmpOf nm) (rlaySteps m nm (framesOf ll)) = (e5, m5) := by
                          rw [HE5.out, rfull, if_neg (fun h => h4 h.1)]
                        have HRES := Lib.hid hres
                        clear hres HE5
                        go_wp2_with fail
                        all_goals (go_ret; exact ROwn.of2 (res := (e5, m5)) ⟨rfl, HO5.out⟩ HRES.out.symm)
                  · obtain ⟨e5, m5⟩ := q
                    have he5 : ¬ e5 = 0 := hq
                    rw [rthen_no (r := (e5, m5)) hq, rthen_no (r := (e5, m5)) hq] at hE2
                    have HE5 := Lib.hid hE2
                    have HT5 := Lib.hid hsT
                    have HO5 := Lib.hid ho2
                    have HSY := Lib.hid hsy
                    have HB5 := Lib.hid (show n' < 1099511627776 ∧ t' < 549755813888 from by have := HBX.out; omega)
                    have hne : (e5 == 0) = false := by simpa using he5
                    clear hsy hsT hE2 ho2 ho ht' hq he5
                    go_wp2_with fail
                    refine HSY.out.mono ?_
                    rintro e w' ⟨rfl, rfl⟩
                    clear HSY
                    by_cases h4 : e5 = 4
                    · subst h4
                      obtain ⟨na5, nc5, c1, c5, hf5⟩ := HO5.out.now HT5.out (by have := HB5.out; omega) (tmpOf nm)
                      by_cases hff : 0 ≤ findI m5.now (tmpOf nm)
                      · have hst := HO5.out.rstep HT5.out (by have := HB5.out; omega) (by have := HB5.out; omega) ⟨2, tmpOf nm, ⟨#[]⟩, []⟩ ⟨by simp, by simp⟩ (fun _ => rfl) (fun F' w' _ _ => reads_nil w')
                        rw [step_remove] at hst
                        have HF5 := Lib.hid hf5
                        have HST := Lib.hid hst
                        have hres : rfull (tmpOf nm) (rlaySteps m nm (framesOf ll)) = (if (removeOf m5 (tmpOf nm)).1 = 0 then (4, (removeOf m5 (tmpOf nm)).2) else removeOf m5 (tmpOf nm)) := by
                          rw [HE5.out, rfull, if_pos ⟨rfl, hff⟩]
                        generalize removeOf m5 (tmpOf nm) = q at HST hres
                        obtain ⟨qc, qm⟩ := q
                        have HRES := Lib.hid hres
                        have hge : decide ((0 : Int) ≤ findI m5.now (tmpOf nm)) = true := decide_eq_true hff
                        generalize findI m5.now (tmpOf nm) = fi at HF5 hge
                        clear hff hres hf5 hst HE5
                        by_cases hqc : qc = 0
                        · subst hqc
                          go_wp2_with (first | (go_at_call 67; refine HF5.out.mono ?_; rintro e w' ⟨rfl, rfl⟩) | (go_at_call 58; refine HST.out.mono ?_; rintro e w6 ⟨rfl, ho6⟩; have HO6 := Lib.hid ho6; clear ho6))
                          all_goals (go_ret; exact ROwn.of2 (res := (4, qm)) ⟨rfl, HO6.out⟩ (HRES.out.trans (by simp)).symm)
                        · have hqb : (qc == 0) = false := by simpa using hqc
                          go_wp2_with (first | (go_at_call 67; refine HF5.out.mono ?_; rintro e w' ⟨rfl, rfl⟩) | (go_at_call 58; refine HST.out.mono ?_; rintro e w6 ⟨rfl, ho6⟩; have HO6 := Lib.hid ho6; clear ho6))
                          all_goals (go_ret; exact ROwn.of2 (res := (qc, qm)) ⟨rfl, HO6.out⟩ (HRES.out.trans (by simp [hqc])).symm)
                      · have hres : rfull (tmpOf nm) (rlaySteps m nm (framesOf ll)) = (4, m5) := by
                          rw [HE5.out, rfull, if_neg (fun h => hff h.2)]
                        have HRES := Lib.hid hres
                        have HF5 := Lib.hid hf5
                        have hge : decide ((0 : Int) ≤ findI m5.now (tmpOf nm)) = false := decide_eq_false hff
                        generalize findI m5.now (tmpOf nm) = fi at HF5 hge
                        clear hff hres hf5 HE5
                        go_wp2_with (first | (go_at_call 67; refine HF5.out.mono ?_; rintro e w' ⟨rfl, rfl⟩))
                        all_goals (go_ret; exact ROwn.of2 (res := (4, m5)) ⟨rfl, HO5.out⟩ HRES.out.symm)
                    · have h4' : (e5 == 4) = false := by simpa using h4
                      have hres : rfull (tmpOf nm) (rlaySteps m nm (framesOf ll)) = (e5, m5) := by
                        rw [HE5.out, rfull, if_neg (fun h => h4 h.1)]
                      have HRES := Lib.hid hres
                      clear hres HE5
                      go_wp2_with fail
                      all_goals (go_ret; exact ROwn.of2 (res := (e5, m5)) ⟨rfl, HO5.out⟩ HRES.out.symm)
              · have hR := hwf
                rw [rthen_no (r := (e', m')) he] at hR
                have hE : rlaySteps m nm (framesOf ll) = (e', m') := by
                  unfold rlaySteps
                  rw [HR.out, ← hR, rthen_no (r := (e', m')) he, rthen_no (r := (e', m')) he, rthen_no (r := (e', m')) he]
                obtain ⟨e5, he5⟩ : ∃ x, x = e' := ⟨_, rfl⟩
                obtain ⟨m5, hm5⟩ : ∃ x, x = m' := ⟨_, rfl⟩
                subst he5
                subst hm5
                have HE5 := Lib.hid hE
                have HT5 := Lib.hid ht'
                have HO5 := Lib.hid ho
                have HB5 := Lib.hid (show n' < 1099511627776 ∧ t' < 549755813888 from by omega)
                have hne : (e5 == 0) = false := by simpa using he
                clear hwf hR hE ht' ho hf hkb hbd he HR
                by_cases h4 : e5 = 4
                · subst h4
                  obtain ⟨na5, nc5, c1, c5, hf5⟩ := HO5.out.now HT5.out (by have := HB5.out; omega) (tmpOf nm)
                  by_cases hff : 0 ≤ findI m5.now (tmpOf nm)
                  · have hst := HO5.out.rstep HT5.out (by have := HB5.out; omega) (by have := HB5.out; omega) ⟨2, tmpOf nm, ⟨#[]⟩, []⟩ ⟨by simp, by simp⟩ (fun _ => rfl) (fun F' w' _ _ => reads_nil w')
                    rw [step_remove] at hst
                    have HF5 := Lib.hid hf5
                    have HST := Lib.hid hst
                    have hres : rfull (tmpOf nm) (rlaySteps m nm (framesOf ll)) = (if (removeOf m5 (tmpOf nm)).1 = 0 then (4, (removeOf m5 (tmpOf nm)).2) else removeOf m5 (tmpOf nm)) := by
                      rw [HE5.out, rfull, if_pos ⟨rfl, hff⟩]
                    generalize removeOf m5 (tmpOf nm) = q at HST hres
                    obtain ⟨qc, qm⟩ := q
                    have HRES := Lib.hid hres
                    have hge : decide ((0 : Int) ≤ findI m5.now (tmpOf nm)) = true := decide_eq_true hff
                    generalize findI m5.now (tmpOf nm) = fi at HF5 hge
                    clear hff hres hf5 hst HE5
                    by_cases hqc : qc = 0
                    · subst hqc
                      go_wp2_with (first | (go_at_call 67; refine HF5.out.mono ?_; rintro e w' ⟨rfl, rfl⟩) | (go_at_call 58; refine HST.out.mono ?_; rintro e w6 ⟨rfl, ho6⟩; have HO6 := Lib.hid ho6; clear ho6))
                      all_goals (go_ret; exact ROwn.of2 (res := (4, qm)) ⟨rfl, HO6.out⟩ (HRES.out.trans (by simp)).symm)
                    · have hqb : (qc == 0) = false := by simpa using hqc
                      go_wp2_with (first | (go_at_call 67; refine HF5.out.mono ?_; rintro e w' ⟨rfl, rfl⟩) | (go_at_call 58; refine HST.out.mono ?_; rintro e w6 ⟨rfl, ho6⟩; have HO6 := Lib.hid ho6; clear ho6))
                      all_goals (go_ret; exact ROwn.of2 (res := (qc, qm)) ⟨rfl, HO6.out⟩ (HRES.out.trans (by simp [hqc])).symm)
                  · have hres : rfull (tmpOf nm) (rlaySteps m nm (framesOf ll)) = (4, m5) := by
                      rw [HE5.out, rfull, if_neg (fun h => hff h.2)]
                    have HRES := Lib.hid hres
                    have HF5 := Lib.hid hf5
                    have hge : decide ((0 : Int) ≤ findI m5.now (tmpOf nm)) = false := decide_eq_false hff
                    generalize findI m5.now (tmpOf nm) = fi at HF5 hge
                    clear hff hres hf5 HE5
                    go_wp2_with (first | (go_at_call 67; refine HF5.out.mono ?_; rintro e w' ⟨rfl, rfl⟩))
                    all_goals (go_ret; exact ROwn.of2 (res := (4, m5)) ⟨rfl, HO5.out⟩ HRES.out.symm)
                · have h4' : (e5 == 4) = false := by simpa using h4
                  have hres : rfull (tmpOf nm) (rlaySteps m nm (framesOf ll)) = (e5, m5) := by
                    rw [HE5.out, rfull, if_neg (fun h => h4 h.1)]
                  have HRES := Lib.hid hres
                  clear hres HE5
                  go_wp2_with fail
                  all_goals (go_ret; exact ROwn.of2 (res := (e5, m5)) ⟨rfl, HO5.out⟩ HRES.out.symm)
          · obtain ⟨e1, m1⟩ := q
            rw [rthen_no (r := (e1, m1)) hq] at hE2
            obtain ⟨n1, hn1⟩ : ∃ x, x = n + 1 := ⟨_, rfl⟩
            obtain ⟨t1, ht1'⟩ : ∃ x, x = t + 1 := ⟨_, rfl⟩
            have HST := Lib.hid hst0
            have HT1 := Lib.hid (show Tidy m1 n1 t1 from by subst hn1; subst ht1'; exact htr)
            have HB1 := Lib.hid (show n1 ≤ n + 2 ∧ t1 ≤ t + 2 from by omega)
            have HE1 := Lib.hid hE2
            have hne : (e1 == 0) = false := by simpa using hq
            clear hst0 hE2 htr hn1 ht1' hq hown
            go_wp2_with fail
            refine HF.out.mono ?_
            rintro e w' ⟨rfl, rfl⟩
            clear HF
            go_wp2_with fail
            refine HST.out.mono ?_
            rintro e w5 ⟨rfl, ho5⟩
            have HO1 := Lib.hid ho5
            clear ho5 HST c1 c5
            have hwf0 : ∃ R, rthen (e1, m1) (fun m => writeFrom (tmpOf nm) (framesOf ll) ((framesOf ll).length / 1048576 + 1) m 0) = R := ⟨_, rfl⟩
            obtain ⟨R, hwf⟩ := hwf0
            have HR := Lib.hid (show rthen (rthen (rfirst m (tmpOf nm)) (fun m => createOf m (tmpOf nm))) (fun m => writeOf m (tmpOf nm) (framesOf ll)) = R from by rw [HE1.out]; exact hwf)
            have HWF := Lib.hid hwf
            clear hwf HE1
            go_wp2_with fail
            go_loopw [10, 11] (fun ev iv wx => ∃ (k f : Nat) (e' : Int) (m' : DM) (n' t' : Nat), ev = .int .i64 e' ∧ iv = .int .i64 (k : Int) ∧ Own w wx (rRef w.heap.size r m' :: rBytes w.heap.size (.slice ba (framesOf ll).length bc) (framesOf ll) :: rs) ∧ Tidy m' n' t' ∧ (n' ≤ n + 2 + k ∧ n' ≤ n + 2 + (framesOf ll).length ∧ t' ≤ t + 2 + k ∧ t' ≤ t + 2 + (framesOf ll).length) ∧ rthen (e', m') (fun m => writeFrom (tmpOf nm) (framesOf ll) f m k) = R ∧ (framesOf ll).length < k + f * 1048576 ∧ k ≤ (framesOf ll).length + 1048576) (fun _ iv _ => (framesOf ll).length - (intOf iv).toNat)
            case atStart => exact ⟨0, (framesOf ll).length / 1048576 + 1, e1, m1, n1, t1, rfl, rfl, HO1.out, HT1.out, by have := HB1.out; omega, HWF.out, by omega, by omega⟩
            case round =>
              obtain ⟨k, f, e', m', n', t', rfl, rfl, ho, ht', hbd, hwf, hf, hkb⟩ := hrel
              have j0 : (0 : Int) ≤ k := by omega
              by_cases he : e' = 0
              · subst he
                by_cases hlt : k < (framesOf ll).length
                · obtain ⟨f, rfl⟩ : ∃ f', f = f' + 1 := ⟨f - 1, by omega⟩
                  have hwf' := hwf
                  rw [rthen, if_pos rfl, writeFrom, if_pos hlt] at hwf'
                  clear hwf
                  obtain ⟨j, hj⟩ : ∃ j, j = (((framesOf ll).drop k).take 1048576).length := ⟨_, rfl⟩
                  have hjl : j = if (framesOf ll).length < k + 1048576 then (framesOf ll).length - k else 1048576 := by
                    rw [hj, List.length_take, List.length_drop]; split <;> omega
                  have hjk : k + j ≤ (framesOf ll).length := by rw [hjl]; split <;> omega
                  have hj0 : 0 < j := by rw [hjl]; split <;> omega
                  have hjt : ((framesOf ll).drop k).take j = ((framesOf ll).drop k).take 1048576 := by
                    have := List.take_length (l := ((framesOf ll).drop k).take 1048576)
                    rw [← hj, List.take_take] at this
                    rw [Nat.min_eq_left (by rw [hj, List.length_take]; omega)] at this
                    exact this
                  have hst := ho.rstepB ht' (by omega) (by omega) ⟨1, tmpOf nm, ⟨#[]⟩, ((framesOf ll).drop k).take 1048576⟩ ⟨by simp, by simp⟩ (fun h => absurd rfl h) (pv := .slice (Option.map (fun x => x.add k) ba) j (bc - k)) (fun w' hw' => by
                    have := Reads.cutP hw' k j hjk
                    rw [hjt, if_neg (by omega : ¬ bc = k)] at this; exact this)
                  rw [step_append] at hst
                  have hap := ht'.append (tmpOf nm) (((framesOf ll).drop k).take 1048576)
                  generalize ((framesOf ll).drop k).take 1048576 = p at hst hwf' hap
                  have HST := Lib.hid hst
                  have HWF' := Lib.hid hwf'
                  have HAP := Lib.hid hap
                  have i1 : (k : Int) < (framesOf ll).length := by omega
                  have HX := Lib.hid (show (n' ≤ n + 2 + k ∧ n' ≤ n + 2 + (framesOf ll).length ∧ t' ≤ t + 2 + k ∧ t' ≤ t + 2 + (framesOf ll).length) ∧ k ≤ (framesOf ll).length + 1048576 ∧ (framesOf ll).length < k + (f + 1) * 1048576 ∧ k < (framesOf ll).length from ⟨hbd, hkb, hf, hlt⟩)
                  clear hst hwf' hap ho ht' hjt hj hj0 hbd hf hkb hlt
                  by_cases hend : (framesOf ll).length < k + 1048576
                  · rw [if_pos hend] at hjl
                    subst hjl
                    have hee : decide (((framesOf ll).length : Int) < (k : Int) + 1048576) = true := decide_eq_true (by omega)
                    clear hend hjk
                    go_wp2_with fail
                    refine HST.out.mono ?_
                    rintro e w5 ⟨rfl, ho5⟩
                    have HO5 := Lib.hid ho5
                    clear ho5 HST
                    generalize appendOf m' (tmpOf nm) p = q at HO5 HWF' HAP ⊢
                    obtain ⟨qc, qm⟩ := q
                    have hrel := (⟨k + 1048576, f, qc, qm, n' + 1, t' + 1, rfl, congrArg (Value.int .i64) (by omega), HO5.out, HAP.out, by have := HX.out; omega, HWF'.out, by have := HX.out; omega, by have := HX.out; omega⟩ : ∃ (k' f' : Nat) (e' : Int) (m' : DM) (n' t' : Nat), Value.int .i64 qc = .int .i64 e' ∧ Value.int .i64 ((k : Int) + 1048576) = .int .i64 (k' : Int) ∧ Own w w5 (rRef w.heap.size r m' :: rBytes w.heap.size (.slice ba (framesOf ll).length bc) (framesOf ll) :: rs) ∧ Tidy m' n' t' ∧ (n' ≤ n + 2 + k' ∧ n' ≤ n + 2 + (framesOf ll).length ∧ t' ≤ t + 2 + k' ∧ t' ≤ t + 2 + (framesOf ll).length) ∧ rthen (e', m') (fun m => writeFrom (tmpOf nm) (framesOf ll) f' m k') = R ∧ (framesOf ll).length < k' + f' * 1048576 ∧ k' ≤ (framesOf ll).length + 1048576)
                    have HREL := Lib.hid hrel
                    have hwr : IntKind.i64.wrap ((k : Int) + 1048576) = (k : Int) + 1048576 := IntWalk.i64_in _ (by omega)
                    have HMEAS := Lib.hid (meas_step (framesOf ll).length k 1048576 (by decide) HX.out.2.2.2)
                    clear hrel HX HAP HWF' HO5 hee hn htt i1 hnm
                    go_wp2_with fail
                    go_roundw
                    case rel => exact HREL.out
                    case measure => exact HMEAS.out
                  · rw [if_neg hend] at hjl
                    subst hjl
                    have hee : decide (((framesOf ll).length : Int) < (k : Int) + 1048576) = false := decide_eq_false (by omega)
                    clear hend
                    go_wp2_with fail
                    refine HST.out.mono ?_
                    rintro e w5 ⟨rfl, ho5⟩
                    have HO5 := Lib.hid ho5
                    clear ho5 HST
                    generalize appendOf m' (tmpOf nm) p = q at HO5 HWF' HAP ⊢
                    obtain ⟨qc, qm⟩ := q
                    have hrel := (⟨k + 1048576, f, qc, qm, n' + 1, t' + 1, rfl, congrArg (Value.int .i64) (by omega), HO5.out, HAP.out, by have := HX.out; omega, HWF'.out, by have := HX.out; omega, by have := HX.out; omega⟩ : ∃ (k' f' : Nat) (e' : Int) (m' : DM) (n' t' : Nat), Value.int .i64 qc = .int .i64 e' ∧ Value.int .i64 ((k : Int) + 1048576) = .int .i64 (k' : Int) ∧ Own w w5 (rRef w.heap.size r m' :: rBytes w.heap.size (.slice ba (framesOf ll).length bc) (framesOf ll) :: rs) ∧ Tidy m' n' t' ∧ (n' ≤ n + 2 + k' ∧ n' ≤ n + 2 + (framesOf ll).length ∧ t' ≤ t + 2 + k' ∧ t' ≤ t + 2 + (framesOf ll).length) ∧ rthen (e', m') (fun m => writeFrom (tmpOf nm) (framesOf ll) f' m k') = R ∧ (framesOf ll).length < k' + f' * 1048576 ∧ k' ≤ (framesOf ll).length + 1048576)
                    have HREL := Lib.hid hrel
                    have hwr : IntKind.i64.wrap ((k : Int) + 1048576) = (k : Int) + 1048576 := IntWalk.i64_in _ (by omega)
                    have HMEAS := Lib.hid (meas_step (framesOf ll).length k 1048576 (by decide) HX.out.2.2.2)
                    clear hrel HX HAP HWF' HO5 hee hn htt i1 hnm
                    go_wp2_with fail
                    go_roundw
                    case rel => exact HREL.out
                    case measure => exact HMEAS.out
                · have hR : (0, m') = R := by
                    rw [← hwf, rthen_yes]
                    cases f with
                    | zero => rfl
                    | succ f => rw [writeFrom, if_neg hlt]
                  have HRX := Lib.hid (HR.out.trans hR.symm)
                  have HBX := Lib.hid (show n' ≤ n + 2 + (framesOf ll).length ∧ t' ≤ t + 2 + (framesOf ll).length from by omega)
                  have i1 : ¬ (k : Int) < (framesOf ll).length := by omega
                  clear hwf hR hf hkb hbd hlt HR
                  obtain ⟨w2, hsy, ho2⟩ := ho.rsync ht'
                  have hsT := ht'.sync
                  have hE2 : rlaySteps m nm (framesOf ll) = rthen (rthen (syncOf m') (fun m => renameOf m (tmpOf nm) nm)) syncOf := by
                    unfold rlaySteps
                    rw [HRX.out, rthen_yes]
                  generalize syncOf m' = q at hsy ho2 hsT hE2
                  by_cases hq : q.1 = 0
                  · obtain ⟨e2, m2⟩ := q
                    have he2 : e2 = 0 := hq
                    subst he2
                    have HSY := Lib.hid hsy
                    have HO2 := Lib.hid ho2
                    have HT2 := Lib.hid hsT
                    clear ho ht' hsy ho2 hsT HRX hq
                    rw [rthen_yes] at hE2
                    have hst := HO2.out.rstep HT2.out (by have := HBX.out; omega) (by have := HBX.out; omega) ⟨3, tmpOf nm, nm, []⟩ ⟨by simp, by simp⟩ (fun _ => rfl) (fun F' w' _ _ => reads_nil w')
                    rw [step_rename] at hst
                    have hsT := HT2.out.rename (tmpOf nm) nm
                    generalize renameOf m2 (tmpOf nm) nm = q at hst hE2 hsT
                    by_cases hq : q.1 = 0
                    · obtain ⟨e3, m3⟩ := q
                      have he3 : e3 = 0 := hq
                      subst he3
                      rw [rthen_yes] at hE2
                      have HST := Lib.hid hst
                      have HT3 := Lib.hid hsT
                      have HE2 := Lib.hid hE2
                      clear hst hsT hE2 HO2 HT2 hq
                      go_wp2_with fail
                      refine HSY.out.mono ?_
                      rintro e w' ⟨rfl, rfl⟩
                      clear HSY
                      go_wp2_with fail
                      refine HST.out.mono ?_
                      rintro e w3 ⟨rfl, ho3⟩
                      obtain ⟨w5, hsy, ho5⟩ := ho3.rsync HT3.out
                      have ht5 := HT3.out.sync
                      have hE5 := HE2.out
                      generalize syncOf m3 = q at hsy ho5 ht5 hE5
                      obtain ⟨e5, m5⟩ := q
                      have HE5 := Lib.hid hE5
                      have HT5 := Lib.hid ht5
                      have HO5 := Lib.hid ho5
                      have HSY := Lib.hid hsy
                      have HB5 := Lib.hid (show n' + 1 < 1099511627776 ∧ t' + 1 < 549755813888 from by have := HBX.out; omega)
                      clear hE5 ht5 ho5 hsy HE2 HT3 ho3 HST
                      go_wp2_with fail
                      refine HSY.out.mono ?_
                      rintro e w' ⟨rfl, rfl⟩
                      clear HSY
                      by_cases h4 : e5 = 4
                      · subst h4
                        obtain ⟨na5, nc5, c1, c5, hf5⟩ := HO5.out.now HT5.out (by have := HB5.out; omega) (tmpOf nm)
                        by_cases hff : 0 ≤ findI m5.now (tmpOf nm)
                        · have hst := HO5.out.rstep HT5.out (by have := HB5.out; omega) (by have := HB5.out; omega) ⟨2, tmpOf nm, ⟨#[]⟩, []⟩ ⟨by simp, by simp⟩ (fun _ => rfl) (fun F' w' _ _ => reads_nil w')
                          rw [step_remove] at hst
                          have HF5 := Lib.hid hf5
                          have HST := Lib.hid hst
                          have hres : rfull (tmpOf nm) (rlaySteps m nm (framesOf ll)) = (if (removeOf m5 (tmpOf nm)).1 = 0 then (4, (removeOf m5 (tmpOf nm)).2) else removeOf m5 (tmpOf nm)) := by
                            rw [HE5.out, rfull, if_pos ⟨rfl, hff⟩]
                          generalize removeOf m5 (tmpOf nm) = q at HST hres
                          obtain ⟨qc, qm⟩ := q
                          have HRES := Lib.hid hres
                          have hge : decide ((0 : Int) ≤ findI m5.now (tmpOf nm)) = true := decide_eq_true hff
                          generalize findI m5.now (tmpOf nm) = fi at HF5 hge
                          clear hff hres hf5 hst HE5
                          by_cases hqc : qc = 0
                          · subst hqc
                            go_wp2_with (first | (go_at_call 67; refine HF5.out.mono ?_; rintro e w' ⟨rfl, rfl⟩) | (go_at_call 58; refine HST.out.mono ?_; rintro e w6 ⟨rfl, ho6⟩; have HO6 := Lib.hid ho6; clear ho6))
                            all_goals (go_ret; exact ROwn.of2 (res := (4, qm)) ⟨rfl, HO6.out⟩ (HRES.out.trans (by simp)).symm)
                          · have hqb : (qc == 0) = false := by simpa using hqc
                            go_wp2_with (first | (go_at_call 67; refine HF5.out.mono ?_; rintro e w' ⟨rfl, rfl⟩) | (go_at_call 58; refine HST.out.mono ?_; rintro e w6 ⟨rfl, ho6⟩; have HO6 := Lib.hid ho6; clear ho6))
                            all_goals (go_ret; exact ROwn.of2 (res := (qc, qm)) ⟨rfl, HO6.out⟩ (HRES.out.trans (by simp [hqc])).symm)
                        · have hres : rfull (tmpOf nm) (rlaySteps m nm (framesOf ll)) = (4, m5) := by
                            rw [HE5.out, rfull, if_neg (fun h => hff h.2)]
                          have HRES := Lib.hid hres
                          have HF5 := Lib.hid hf5
                          have hge : decide ((0 : Int) ≤ findI m5.now (tmpOf nm)) = false := decide_eq_false hff
                          generalize findI m5.now (tmpOf nm) = fi at HF5 hge
                          clear hff hres hf5 HE5
                          go_wp2_with (first | (go_at_call 67; refine HF5.out.mono ?_; rintro e w' ⟨rfl, rfl⟩))
                          all_goals (go_ret; exact ROwn.of2 (res := (4, m5)) ⟨rfl, HO5.out⟩ HRES.out.symm)
                      · have h4' : (e5 == 4) = false := by simpa using h4
                        have hres : rfull (tmpOf nm) (rlaySteps m nm (framesOf ll)) = (e5, m5) := by
                          rw [HE5.out, rfull, if_neg (fun h => h4 h.1)]
                        have HRES := Lib.hid hres
                        clear hres HE5
                        go_wp2_with fail
                        all_goals (go_ret; exact ROwn.of2 (res := (e5, m5)) ⟨rfl, HO5.out⟩ HRES.out.symm)
                    · obtain ⟨e5, m5⟩ := q
                      have he5 : ¬ e5 = 0 := hq
                      rw [rthen_no hq] at hE2
                      have HE5 := Lib.hid hE2
                      have HT5 := Lib.hid hsT
                      have HST := Lib.hid hst
                      have HB5 := Lib.hid (show n' + 1 < 1099511627776 ∧ t' + 1 < 549755813888 from by have := HBX.out; omega)
                      have hne : (e5 == 0) = false := by simpa using he5
                      clear hst hsT hE2 HO2 HT2 hq he5
                      go_wp2_with fail
                      refine HSY.out.mono ?_
                      rintro e w' ⟨rfl, rfl⟩
                      clear HSY
                      go_wp2_with fail
                      refine HST.out.mono ?_
                      rintro e w5 ⟨rfl, ho5⟩
                      have HO5 := Lib.hid ho5
                      clear ho5 HST
                      by_cases h4 : e5 = 4
                      · subst h4
                        obtain ⟨na5, nc5, c1, c5, hf5⟩ := HO5.out.now HT5.out (by have := HB5.out; omega) (tmpOf nm)
                        by_cases hff : 0 ≤ findI m5.now (tmpOf nm)
                        · have hst := HO5.out.rstep HT5.out (by have := HB5.out; omega) (by have := HB5.out; omega) ⟨2, tmpOf nm, ⟨#[]⟩, []⟩ ⟨by simp, by simp⟩ (fun _ => rfl) (fun F' w' _ _ => reads_nil w')
                          rw [step_remove] at hst
                          have HF5 := Lib.hid hf5
                          have HST := Lib.hid hst
                          have hres : rfull (tmpOf nm) (rlaySteps m nm (framesOf ll)) = (if (removeOf m5 (tmpOf nm)).1 = 0 then (4, (removeOf m5 (tmpOf nm)).2) else removeOf m5 (tmpOf nm)) := by
                            rw [HE5.out, rfull, if_pos ⟨rfl, hff⟩]
                          generalize removeOf m5 (tmpOf nm) = q at HST hres
                          obtain ⟨qc, qm⟩ := q
                          have HRES := Lib.hid hres
                          have hge : decide ((0 : Int) ≤ findI m5.now (tmpOf nm)) = true := decide_eq_true hff
                          generalize findI m5.now (tmpOf nm) = fi at HF5 hge
                          clear hff hres hf5 hst HE5
                          by_cases hqc : qc = 0
                          · subst hqc
                            go_wp2_with (first | (go_at_call 67; refine HF5.out.mono ?_; rintro e w' ⟨rfl, rfl⟩) | (go_at_call 58; refine HST.out.mono ?_; rintro e w6 ⟨rfl, ho6⟩; have HO6 := Lib.hid ho6; clear ho6))
                            all_goals (go_ret; exact ROwn.of2 (res := (4, qm)) ⟨rfl, HO6.out⟩ (HRES.out.trans (by simp)).symm)
                          · have hqb : (qc == 0) = false := by simpa using hqc
                            go_wp2_with (first | (go_at_call 67; refine HF5.out.mono ?_; rintro e w' ⟨rfl, rfl⟩) | (go_at_call 58; refine HST.out.mono ?_; rintro e w6 ⟨rfl, ho6⟩; have HO6 := Lib.hid ho6; clear ho6))
                            all_goals (go_ret; exact ROwn.of2 (res := (qc, qm)) ⟨rfl, HO6.out⟩ (HRES.out.trans (by simp [hqc])).symm)
                        · have hres : rfull (tmpOf nm) (rlaySteps m nm (framesOf ll)) = (4, m5) := by
                            rw [HE5.out, rfull, if_neg (fun h => hff h.2)]
                          have HRES := Lib.hid hres
                          have HF5 := Lib.hid hf5
                          have hge : decide ((0 : Int) ≤ findI m5.now (tmpOf nm)) = false := decide_eq_false hff
                          generalize findI m5.now (tmpOf nm) = fi at HF5 hge
                          clear hff hres hf5 HE5
                          go_wp2_with (first | (go_at_call 67; refine HF5.out.mono ?_; rintro e w' ⟨rfl, rfl⟩))
                          all_goals (go_ret; exact ROwn.of2 (res := (4, m5)) ⟨rfl, HO5.out⟩ HRES.out.symm)
                      · have h4' : (e5 == 4) = false := by simpa using h4
                        have hres : rfull (tmpOf nm) (rlaySteps m nm (framesOf ll)) = (e5, m5) := by
                          rw [HE5.out, rfull, if_neg (fun h => h4 h.1)]
                        have HRES := Lib.hid hres
                        clear hres HE5
                        go_wp2_with fail
                        all_goals (go_ret; exact ROwn.of2 (res := (e5, m5)) ⟨rfl, HO5.out⟩ HRES.out.symm)
                  · obtain ⟨e5, m5⟩ := q
                    have he5 : ¬ e5 = 0 := hq
                    rw [rthen_no (r := (e5, m5)) hq, rthen_no (r := (e5, m5)) hq] at hE2
                    have HE5 := Lib.hid hE2
                    have HT5 := Lib.hid hsT
                    have HO5 := Lib.hid ho2
                    have HSY := Lib.hid hsy
                    have HB5 := Lib.hid (show n' < 1099511627776 ∧ t' < 549755813888 from by have := HBX.out; omega)
                    have hne : (e5 == 0) = false := by simpa using he5
                    clear hsy hsT hE2 ho2 ho ht' hq he5
                    go_wp2_with fail
                    refine HSY.out.mono ?_
                    rintro e w' ⟨rfl, rfl⟩
                    clear HSY
                    by_cases h4 : e5 = 4
                    · subst h4
                      obtain ⟨na5, nc5, c1, c5, hf5⟩ := HO5.out.now HT5.out (by have := HB5.out; omega) (tmpOf nm)
                      by_cases hff : 0 ≤ findI m5.now (tmpOf nm)
                      · have hst := HO5.out.rstep HT5.out (by have := HB5.out; omega) (by have := HB5.out; omega) ⟨2, tmpOf nm, ⟨#[]⟩, []⟩ ⟨by simp, by simp⟩ (fun _ => rfl) (fun F' w' _ _ => reads_nil w')
                        rw [step_remove] at hst
                        have HF5 := Lib.hid hf5
                        have HST := Lib.hid hst
                        have hres : rfull (tmpOf nm) (rlaySteps m nm (framesOf ll)) = (if (removeOf m5 (tmpOf nm)).1 = 0 then (4, (removeOf m5 (tmpOf nm)).2) else removeOf m5 (tmpOf nm)) := by
                          rw [HE5.out, rfull, if_pos ⟨rfl, hff⟩]
                        generalize removeOf m5 (tmpOf nm) = q at HST hres
                        obtain ⟨qc, qm⟩ := q
                        have HRES := Lib.hid hres
                        have hge : decide ((0 : Int) ≤ findI m5.now (tmpOf nm)) = true := decide_eq_true hff
                        generalize findI m5.now (tmpOf nm) = fi at HF5 hge
                        clear hff hres hf5 hst HE5
                        by_cases hqc : qc = 0
                        · subst hqc
                          go_wp2_with (first | (go_at_call 67; refine HF5.out.mono ?_; rintro e w' ⟨rfl, rfl⟩) | (go_at_call 58; refine HST.out.mono ?_; rintro e w6 ⟨rfl, ho6⟩; have HO6 := Lib.hid ho6; clear ho6))
                          all_goals (go_ret; exact ROwn.of2 (res := (4, qm)) ⟨rfl, HO6.out⟩ (HRES.out.trans (by simp)).symm)
                        · have hqb : (qc == 0) = false := by simpa using hqc
                          go_wp2_with (first | (go_at_call 67; refine HF5.out.mono ?_; rintro e w' ⟨rfl, rfl⟩) | (go_at_call 58; refine HST.out.mono ?_; rintro e w6 ⟨rfl, ho6⟩; have HO6 := Lib.hid ho6; clear ho6))
                          all_goals (go_ret; exact ROwn.of2 (res := (qc, qm)) ⟨rfl, HO6.out⟩ (HRES.out.trans (by simp [hqc])).symm)
                      · have hres : rfull (tmpOf nm) (rlaySteps m nm (framesOf ll)) = (4, m5) := by
                          rw [HE5.out, rfull, if_neg (fun h => hff h.2)]
                        have HRES := Lib.hid hres
                        have HF5 := Lib.hid hf5
                        have hge : decide ((0 : Int) ≤ findI m5.now (tmpOf nm)) = false := decide_eq_false hff
                        generalize findI m5.now (tmpOf nm) = fi at HF5 hge
                        clear hff hres hf5 HE5
                        go_wp2_with (first | (go_at_call 67; refine HF5.out.mono ?_; rintro e w' ⟨rfl, rfl⟩))
                        all_goals (go_ret; exact ROwn.of2 (res := (4, m5)) ⟨rfl, HO5.out⟩ HRES.out.symm)
                    · have h4' : (e5 == 4) = false := by simpa using h4
                      have hres : rfull (tmpOf nm) (rlaySteps m nm (framesOf ll)) = (e5, m5) := by
                        rw [HE5.out, rfull, if_neg (fun h => h4 h.1)]
                      have HRES := Lib.hid hres
                      clear hres HE5
                      go_wp2_with fail
                      all_goals (go_ret; exact ROwn.of2 (res := (e5, m5)) ⟨rfl, HO5.out⟩ HRES.out.symm)
              · have hR := hwf
                rw [rthen_no (r := (e', m')) he] at hR
                have hE : rlaySteps m nm (framesOf ll) = (e', m') := by
                  unfold rlaySteps
                  rw [HR.out, ← hR, rthen_no (r := (e', m')) he, rthen_no (r := (e', m')) he, rthen_no (r := (e', m')) he]
                obtain ⟨e5, he5⟩ : ∃ x, x = e' := ⟨_, rfl⟩
                obtain ⟨m5, hm5⟩ : ∃ x, x = m' := ⟨_, rfl⟩
                subst he5
                subst hm5
                have HE5 := Lib.hid hE
                have HT5 := Lib.hid ht'
                have HO5 := Lib.hid ho
                have HB5 := Lib.hid (show n' < 1099511627776 ∧ t' < 549755813888 from by omega)
                have hne : (e5 == 0) = false := by simpa using he
                clear hwf hR hE ht' ho hf hkb hbd he HR
                by_cases h4 : e5 = 4
                · subst h4
                  obtain ⟨na5, nc5, c1, c5, hf5⟩ := HO5.out.now HT5.out (by have := HB5.out; omega) (tmpOf nm)
                  by_cases hff : 0 ≤ findI m5.now (tmpOf nm)
                  · have hst := HO5.out.rstep HT5.out (by have := HB5.out; omega) (by have := HB5.out; omega) ⟨2, tmpOf nm, ⟨#[]⟩, []⟩ ⟨by simp, by simp⟩ (fun _ => rfl) (fun F' w' _ _ => reads_nil w')
                    rw [step_remove] at hst
                    have HF5 := Lib.hid hf5
                    have HST := Lib.hid hst
                    have hres : rfull (tmpOf nm) (rlaySteps m nm (framesOf ll)) = (if (removeOf m5 (tmpOf nm)).1 = 0 then (4, (removeOf m5 (tmpOf nm)).2) else removeOf m5 (tmpOf nm)) := by
                      rw [HE5.out, rfull, if_pos ⟨rfl, hff⟩]
                    generalize removeOf m5 (tmpOf nm) = q at HST hres
                    obtain ⟨qc, qm⟩ := q
                    have HRES := Lib.hid hres
                    have hge : decide ((0 : Int) ≤ findI m5.now (tmpOf nm)) = true := decide_eq_true hff
                    generalize findI m5.now (tmpOf nm) = fi at HF5 hge
                    clear hff hres hf5 hst HE5
                    by_cases hqc : qc = 0
                    · subst hqc
                      go_wp2_with (first | (go_at_call 67; refine HF5.out.mono ?_; rintro e w' ⟨rfl, rfl⟩) | (go_at_call 58; refine HST.out.mono ?_; rintro e w6 ⟨rfl, ho6⟩; have HO6 := Lib.hid ho6; clear ho6))
                      all_goals (go_ret; exact ROwn.of2 (res := (4, qm)) ⟨rfl, HO6.out⟩ (HRES.out.trans (by simp)).symm)
                    · have hqb : (qc == 0) = false := by simpa using hqc
                      go_wp2_with (first | (go_at_call 67; refine HF5.out.mono ?_; rintro e w' ⟨rfl, rfl⟩) | (go_at_call 58; refine HST.out.mono ?_; rintro e w6 ⟨rfl, ho6⟩; have HO6 := Lib.hid ho6; clear ho6))
                      all_goals (go_ret; exact ROwn.of2 (res := (qc, qm)) ⟨rfl, HO6.out⟩ (HRES.out.trans (by simp [hqc])).symm)
                  · have hres : rfull (tmpOf nm) (rlaySteps m nm (framesOf ll)) = (4, m5) := by
                      rw [HE5.out, rfull, if_neg (fun h => hff h.2)]
                    have HRES := Lib.hid hres
                    have HF5 := Lib.hid hf5
                    have hge : decide ((0 : Int) ≤ findI m5.now (tmpOf nm)) = false := decide_eq_false hff
                    generalize findI m5.now (tmpOf nm) = fi at HF5 hge
                    clear hff hres hf5 HE5
                    go_wp2_with (first | (go_at_call 67; refine HF5.out.mono ?_; rintro e w' ⟨rfl, rfl⟩))
                    all_goals (go_ret; exact ROwn.of2 (res := (4, m5)) ⟨rfl, HO5.out⟩ HRES.out.symm)
                · have h4' : (e5 == 4) = false := by simpa using h4
                  have hres : rfull (tmpOf nm) (rlaySteps m nm (framesOf ll)) = (e5, m5) := by
                    rw [HE5.out, rfull, if_neg (fun h => h4 h.1)]
                  have HRES := Lib.hid hres
                  clear hres HE5
                  go_wp2_with fail
                  all_goals (go_ret; exact ROwn.of2 (res := (e5, m5)) ⟨rfl, HO5.out⟩ HRES.out.symm)
        · have hE2 := hE1 (by rw [rfirst, if_neg (fun h => hff h.2)])
          have ht1 := HT.out.create (tmpOf nm)
          have hge : decide ((0 : Int) ≤ findI m.now (tmpOf nm)) = false := decide_eq_false hff
          generalize findI m.now (tmpOf nm) = fi at HF hge
          clear hE1 hff hfi
          generalize createOf m (tmpOf nm) = q at hst hE2 ht1
          obtain ⟨e1, m1⟩ := q
          obtain ⟨n1, hn1⟩ : ∃ x, x = n + 1 := ⟨_, rfl⟩
          obtain ⟨t1, ht1'⟩ : ∃ x, x = t + 1 := ⟨_, rfl⟩
          have HST := Lib.hid hst
          have HT1 := Lib.hid (show Tidy m1 n1 t1 from by subst hn1; subst ht1'; exact ht1)
          have HB1 := Lib.hid (show n1 ≤ n + 2 ∧ t1 ≤ t + 2 from by omega)
          have HE1 := Lib.hid hE2
          clear hst hE2 ht1 hn1 ht1' hd hown
          go_wp2_with fail
          refine HF.out.mono ?_
          rintro e w' ⟨rfl, rfl⟩
          clear HF
          go_wp2_with fail
          refine HST.out.mono ?_
          rintro e w5 ⟨rfl, ho5⟩
          have HO1 := Lib.hid ho5
          clear ho5 HST c5 c1
          have hwf0 : ∃ R, rthen (e1, m1) (fun m => writeFrom (tmpOf nm) (framesOf ll) ((framesOf ll).length / 1048576 + 1) m 0) = R := ⟨_, rfl⟩
          obtain ⟨R, hwf⟩ := hwf0
          have HR := Lib.hid (show rthen (rthen (rfirst m (tmpOf nm)) (fun m => createOf m (tmpOf nm))) (fun m => writeOf m (tmpOf nm) (framesOf ll)) = R from by rw [HE1.out]; exact hwf)
          have HWF := Lib.hid hwf
          clear hwf HE1
          go_wp2_with fail
          go_loopw [10, 11] (fun ev iv wx => ∃ (k f : Nat) (e' : Int) (m' : DM) (n' t' : Nat), ev = .int .i64 e' ∧ iv = .int .i64 (k : Int) ∧ Own w wx (rRef w.heap.size r m' :: rBytes w.heap.size (.slice ba (framesOf ll).length bc) (framesOf ll) :: rs) ∧ Tidy m' n' t' ∧ (n' ≤ n + 2 + k ∧ n' ≤ n + 2 + (framesOf ll).length ∧ t' ≤ t + 2 + k ∧ t' ≤ t + 2 + (framesOf ll).length) ∧ rthen (e', m') (fun m => writeFrom (tmpOf nm) (framesOf ll) f m k) = R ∧ (framesOf ll).length < k + f * 1048576 ∧ k ≤ (framesOf ll).length + 1048576) (fun _ iv _ => (framesOf ll).length - (intOf iv).toNat)
          case atStart => exact ⟨0, (framesOf ll).length / 1048576 + 1, e1, m1, n1, t1, rfl, rfl, HO1.out, HT1.out, by have := HB1.out; omega, HWF.out, by omega, by omega⟩
          case round =>
            obtain ⟨k, f, e', m', n', t', rfl, rfl, ho, ht', hbd, hwf, hf, hkb⟩ := hrel
            have j0 : (0 : Int) ≤ k := by omega
            by_cases he : e' = 0
            · subst he
              by_cases hlt : k < (framesOf ll).length
              · obtain ⟨f, rfl⟩ : ∃ f', f = f' + 1 := ⟨f - 1, by omega⟩
                have hwf' := hwf
                rw [rthen, if_pos rfl, writeFrom, if_pos hlt] at hwf'
                clear hwf
                obtain ⟨j, hj⟩ : ∃ j, j = (((framesOf ll).drop k).take 1048576).length := ⟨_, rfl⟩
                have hjl : j = if (framesOf ll).length < k + 1048576 then (framesOf ll).length - k else 1048576 := by
                  rw [hj, List.length_take, List.length_drop]; split <;> omega
                have hjk : k + j ≤ (framesOf ll).length := by rw [hjl]; split <;> omega
                have hj0 : 0 < j := by rw [hjl]; split <;> omega
                have hjt : ((framesOf ll).drop k).take j = ((framesOf ll).drop k).take 1048576 := by
                  have := List.take_length (l := ((framesOf ll).drop k).take 1048576)
                  rw [← hj, List.take_take] at this
                  rw [Nat.min_eq_left (by rw [hj, List.length_take]; omega)] at this
                  exact this
                have hst := ho.rstepB ht' (by omega) (by omega) ⟨1, tmpOf nm, ⟨#[]⟩, ((framesOf ll).drop k).take 1048576⟩ ⟨by simp, by simp⟩ (fun h => absurd rfl h) (pv := .slice (Option.map (fun x => x.add k) ba) j (bc - k)) (fun w' hw' => by
                  have := Reads.cutP hw' k j hjk
                  rw [hjt, if_neg (by omega : ¬ bc = k)] at this; exact this)
                rw [step_append] at hst
                have hap := ht'.append (tmpOf nm) (((framesOf ll).drop k).take 1048576)
                generalize ((framesOf ll).drop k).take 1048576 = p at hst hwf' hap
                have HST := Lib.hid hst
                have HWF' := Lib.hid hwf'
                have HAP := Lib.hid hap
                have i1 : (k : Int) < (framesOf ll).length := by omega
                have HX := Lib.hid (show (n' ≤ n + 2 + k ∧ n' ≤ n + 2 + (framesOf ll).length ∧ t' ≤ t + 2 + k ∧ t' ≤ t + 2 + (framesOf ll).length) ∧ k ≤ (framesOf ll).length + 1048576 ∧ (framesOf ll).length < k + (f + 1) * 1048576 ∧ k < (framesOf ll).length from ⟨hbd, hkb, hf, hlt⟩)
                clear hst hwf' hap ho ht' hjt hj hj0 hbd hf hkb hlt
                by_cases hend : (framesOf ll).length < k + 1048576
                · rw [if_pos hend] at hjl
                  subst hjl
                  have hee : decide (((framesOf ll).length : Int) < (k : Int) + 1048576) = true := decide_eq_true (by omega)
                  clear hend hjk
                  go_wp2_with fail
                  refine HST.out.mono ?_
                  rintro e w5 ⟨rfl, ho5⟩
                  have HO5 := Lib.hid ho5
                  clear ho5 HST
                  generalize appendOf m' (tmpOf nm) p = q at HO5 HWF' HAP ⊢
                  obtain ⟨qc, qm⟩ := q
                  have hrel := (⟨k + 1048576, f, qc, qm, n' + 1, t' + 1, rfl, congrArg (Value.int .i64) (by omega), HO5.out, HAP.out, by have := HX.out; omega, HWF'.out, by have := HX.out; omega, by have := HX.out; omega⟩ : ∃ (k' f' : Nat) (e' : Int) (m' : DM) (n' t' : Nat), Value.int .i64 qc = .int .i64 e' ∧ Value.int .i64 ((k : Int) + 1048576) = .int .i64 (k' : Int) ∧ Own w w5 (rRef w.heap.size r m' :: rBytes w.heap.size (.slice ba (framesOf ll).length bc) (framesOf ll) :: rs) ∧ Tidy m' n' t' ∧ (n' ≤ n + 2 + k' ∧ n' ≤ n + 2 + (framesOf ll).length ∧ t' ≤ t + 2 + k' ∧ t' ≤ t + 2 + (framesOf ll).length) ∧ rthen (e', m') (fun m => writeFrom (tmpOf nm) (framesOf ll) f' m k') = R ∧ (framesOf ll).length < k' + f' * 1048576 ∧ k' ≤ (framesOf ll).length + 1048576)
                  have HREL := Lib.hid hrel
                  have hwr : IntKind.i64.wrap ((k : Int) + 1048576) = (k : Int) + 1048576 := IntWalk.i64_in _ (by omega)
                  have HMEAS := Lib.hid (meas_step (framesOf ll).length k 1048576 (by decide) HX.out.2.2.2)
                  clear hrel HX HAP HWF' HO5 hee hn htt i1 hnm
                  go_wp2_with fail
                  go_roundw
                  case rel => exact HREL.out
                  case measure => exact HMEAS.out
                · rw [if_neg hend] at hjl
                  subst hjl
                  have hee : decide (((framesOf ll).length : Int) < (k : Int) + 1048576) = false := decide_eq_false (by omega)
                  clear hend
                  go_wp2_with fail
                  refine HST.out.mono ?_
                  rintro e w5 ⟨rfl, ho5⟩
                  have HO5 := Lib.hid ho5
                  clear ho5 HST
                  generalize appendOf m' (tmpOf nm) p = q at HO5 HWF' HAP ⊢
                  obtain ⟨qc, qm⟩ := q
                  have hrel := (⟨k + 1048576, f, qc, qm, n' + 1, t' + 1, rfl, congrArg (Value.int .i64) (by omega), HO5.out, HAP.out, by have := HX.out; omega, HWF'.out, by have := HX.out; omega, by have := HX.out; omega⟩ : ∃ (k' f' : Nat) (e' : Int) (m' : DM) (n' t' : Nat), Value.int .i64 qc = .int .i64 e' ∧ Value.int .i64 ((k : Int) + 1048576) = .int .i64 (k' : Int) ∧ Own w w5 (rRef w.heap.size r m' :: rBytes w.heap.size (.slice ba (framesOf ll).length bc) (framesOf ll) :: rs) ∧ Tidy m' n' t' ∧ (n' ≤ n + 2 + k' ∧ n' ≤ n + 2 + (framesOf ll).length ∧ t' ≤ t + 2 + k' ∧ t' ≤ t + 2 + (framesOf ll).length) ∧ rthen (e', m') (fun m => writeFrom (tmpOf nm) (framesOf ll) f' m k') = R ∧ (framesOf ll).length < k' + f' * 1048576 ∧ k' ≤ (framesOf ll).length + 1048576)
                  have HREL := Lib.hid hrel
                  have hwr : IntKind.i64.wrap ((k : Int) + 1048576) = (k : Int) + 1048576 := IntWalk.i64_in _ (by omega)
                  have HMEAS := Lib.hid (meas_step (framesOf ll).length k 1048576 (by decide) HX.out.2.2.2)
                  clear hrel HX HAP HWF' HO5 hee hn htt i1 hnm
                  go_wp2_with fail
                  go_roundw
                  case rel => exact HREL.out
                  case measure => exact HMEAS.out
              · have hR : (0, m') = R := by
                  rw [← hwf, rthen_yes]
                  cases f with
                  | zero => rfl
                  | succ f => rw [writeFrom, if_neg hlt]
                have HRX := Lib.hid (HR.out.trans hR.symm)
                have HBX := Lib.hid (show n' ≤ n + 2 + (framesOf ll).length ∧ t' ≤ t + 2 + (framesOf ll).length from by omega)
                have i1 : ¬ (k : Int) < (framesOf ll).length := by omega
                clear hwf hR hf hkb hbd hlt HR
                obtain ⟨w2, hsy, ho2⟩ := ho.rsync ht'
                have hsT := ht'.sync
                have hE2 : rlaySteps m nm (framesOf ll) = rthen (rthen (syncOf m') (fun m => renameOf m (tmpOf nm) nm)) syncOf := by
                  unfold rlaySteps
                  rw [HRX.out, rthen_yes]
                generalize syncOf m' = q at hsy ho2 hsT hE2
                by_cases hq : q.1 = 0
                · obtain ⟨e2, m2⟩ := q
                  have he2 : e2 = 0 := hq
                  subst he2
                  have HSY := Lib.hid hsy
                  have HO2 := Lib.hid ho2
                  have HT2 := Lib.hid hsT
                  clear ho ht' hsy ho2 hsT HRX hq
                  rw [rthen_yes] at hE2
                  have hst := HO2.out.rstep HT2.out (by have := HBX.out; omega) (by have := HBX.out; omega) ⟨3, tmpOf nm, nm, []⟩ ⟨by simp, by simp⟩ (fun _ => rfl) (fun F' w' _ _ => reads_nil w')
                  rw [step_rename] at hst
                  have hsT := HT2.out.rename (tmpOf nm) nm
                  generalize renameOf m2 (tmpOf nm) nm = q at hst hE2 hsT
                  by_cases hq : q.1 = 0
                  · obtain ⟨e3, m3⟩ := q
                    have he3 : e3 = 0 := hq
                    subst he3
                    rw [rthen_yes] at hE2
                    have HST := Lib.hid hst
                    have HT3 := Lib.hid hsT
                    have HE2 := Lib.hid hE2
                    clear hst hsT hE2 HO2 HT2 hq
                    go_wp2_with fail
                    refine HSY.out.mono ?_
                    rintro e w' ⟨rfl, rfl⟩
                    clear HSY
                    go_wp2_with fail
                    refine HST.out.mono ?_
                    rintro e w3 ⟨rfl, ho3⟩
                    obtain ⟨w5, hsy, ho5⟩ := ho3.rsync HT3.out
                    have ht5 := HT3.out.sync
                    have hE5 := HE2.out
                    generalize syncOf m3 = q at hsy ho5 ht5 hE5
                    obtain ⟨e5, m5⟩ := q
                    have HE5 := Lib.hid hE5
                    have HT5 := Lib.hid ht5
                    have HO5 := Lib.hid ho5
                    have HSY := Lib.hid hsy
                    have HB5 := Lib.hid (show n' + 1 < 1099511627776 ∧ t' + 1 < 549755813888 from by have := HBX.out; omega)
                    clear hE5 ht5 ho5 hsy HE2 HT3 ho3 HST
                    go_wp2_with fail
                    refine HSY.out.mono ?_
                    rintro e w' ⟨rfl, rfl⟩
                    clear HSY
                    by_cases h4 : e5 = 4
                    · subst h4
                      obtain ⟨na5, nc5, c1, c5, hf5⟩ := HO5.out.now HT5.out (by have := HB5.out; omega) (tmpOf nm)
                      by_cases hff : 0 ≤ findI m5.now (tmpOf nm)
                      · have hst := HO5.out.rstep HT5.out (by have := HB5.out; omega) (by have := HB5.out; omega) ⟨2, tmpOf nm, ⟨#[]⟩, []⟩ ⟨by simp, by simp⟩ (fun _ => rfl) (fun F' w' _ _ => reads_nil w')
                        rw [step_remove] at hst
                        have HF5 := Lib.hid hf5
                        have HST := Lib.hid hst
                        have hres : rfull (tmpOf nm) (rlaySteps m nm (framesOf ll)) = (if (removeOf m5 (tmpOf nm)).1 = 0 then (4, (removeOf m5 (tmpOf nm)).2) else removeOf m5 (tmpOf nm)) := by
                          rw [HE5.out, rfull, if_pos ⟨rfl, hff⟩]
                        generalize removeOf m5 (tmpOf nm) = q at HST hres
                        obtain ⟨qc, qm⟩ := q
                        have HRES := Lib.hid hres
                        have hge : decide ((0 : Int) ≤ findI m5.now (tmpOf nm)) = true := decide_eq_true hff
                        generalize findI m5.now (tmpOf nm) = fi at HF5 hge
                        clear hff hres hf5 hst HE5
                        by_cases hqc : qc = 0
                        · subst hqc
                          go_wp2_with (first | (go_at_call 67; refine HF5.out.mono ?_; rintro e w' ⟨rfl, rfl⟩) | (go_at_call 58; refine HST.out.mono ?_; rintro e w6 ⟨rfl, ho6⟩; have HO6 := Lib.hid ho6; clear ho6))
                          all_goals (go_ret; exact ROwn.of2 (res := (4, qm)) ⟨rfl, HO6.out⟩ (HRES.out.trans (by simp)).symm)
                        · have hqb : (qc == 0) = false := by simpa using hqc
                          go_wp2_with (first | (go_at_call 67; refine HF5.out.mono ?_; rintro e w' ⟨rfl, rfl⟩) | (go_at_call 58; refine HST.out.mono ?_; rintro e w6 ⟨rfl, ho6⟩; have HO6 := Lib.hid ho6; clear ho6))
                          all_goals (go_ret; exact ROwn.of2 (res := (qc, qm)) ⟨rfl, HO6.out⟩ (HRES.out.trans (by simp [hqc])).symm)
                      · have hres : rfull (tmpOf nm) (rlaySteps m nm (framesOf ll)) = (4, m5) := by
                          rw [HE5.out, rfull, if_neg (fun h => hff h.2)]
                        have HRES := Lib.hid hres
                        have HF5 := Lib.hid hf5
                        have hge : decide ((0 : Int) ≤ findI m5.now (tmpOf nm)) = false := decide_eq_false hff
                        generalize findI m5.now (tmpOf nm) = fi at HF5 hge
                        clear hff hres hf5 HE5
                        go_wp2_with (first | (go_at_call 67; refine HF5.out.mono ?_; rintro e w' ⟨rfl, rfl⟩))
                        all_goals (go_ret; exact ROwn.of2 (res := (4, m5)) ⟨rfl, HO5.out⟩ HRES.out.symm)
                    · have h4' : (e5 == 4) = false := by simpa using h4
                      have hres : rfull (tmpOf nm) (rlaySteps m nm (framesOf ll)) = (e5, m5) := by
                        rw [HE5.out, rfull, if_neg (fun h => h4 h.1)]
                      have HRES := Lib.hid hres
                      clear hres HE5
                      go_wp2_with fail
                      all_goals (go_ret; exact ROwn.of2 (res := (e5, m5)) ⟨rfl, HO5.out⟩ HRES.out.symm)
                  · obtain ⟨e5, m5⟩ := q
                    have he5 : ¬ e5 = 0 := hq
                    rw [rthen_no hq] at hE2
                    have HE5 := Lib.hid hE2
                    have HT5 := Lib.hid hsT
                    have HST := Lib.hid hst
                    have HB5 := Lib.hid (show n' + 1 < 1099511627776 ∧ t' + 1 < 549755813888 from by have := HBX.out; omega)
                    have hne : (e5 == 0) = false := by simpa using he5
                    clear hst hsT hE2 HO2 HT2 hq he5
                    go_wp2_with fail
                    refine HSY.out.mono ?_
                    rintro e w' ⟨rfl, rfl⟩
                    clear HSY
                    go_wp2_with fail
                    refine HST.out.mono ?_
                    rintro e w5 ⟨rfl, ho5⟩
                    have HO5 := Lib.hid ho5
                    clear ho5 HST
                    by_cases h4 : e5 = 4
                    · subst h4
                      obtain ⟨na5, nc5, c1, c5, hf5⟩ := HO5.out.now HT5.out (by have := HB5.out; omega) (tmpOf nm)
                      by_cases hff : 0 ≤ findI m5.now (tmpOf nm)
                      · have hst := HO5.out.rstep HT5.out (by have := HB5.out; omega) (by have := HB5.out; omega) ⟨2, tmpOf nm, ⟨#[]⟩, []⟩ ⟨by simp, by simp⟩ (fun _ => rfl) (fun F' w' _ _ => reads_nil w')
                        rw [step_remove] at hst
                        have HF5 := Lib.hid hf5
                        have HST := Lib.hid hst
                        have hres : rfull (tmpOf nm) (rlaySteps m nm (framesOf ll)) = (if (removeOf m5 (tmpOf nm)).1 = 0 then (4, (removeOf m5 (tmpOf nm)).2) else removeOf m5 (tmpOf nm)) := by
                          rw [HE5.out, rfull, if_pos ⟨rfl, hff⟩]
                        generalize removeOf m5 (tmpOf nm) = q at HST hres
                        obtain ⟨qc, qm⟩ := q
                        have HRES := Lib.hid hres
                        have hge : decide ((0 : Int) ≤ findI m5.now (tmpOf nm)) = true := decide_eq_true hff
                        generalize findI m5.now (tmpOf nm) = fi at HF5 hge
                        clear hff hres hf5 hst HE5
                        by_cases hqc : qc = 0
                        · subst hqc
                          go_wp2_with (first | (go_at_call 67; refine HF5.out.mono ?_; rintro e w' ⟨rfl, rfl⟩) | (go_at_call 58; refine HST.out.mono ?_; rintro e w6 ⟨rfl, ho6⟩; have HO6 := Lib.hid ho6; clear ho6))
                          all_goals (go_ret; exact ROwn.of2 (res := (4, qm)) ⟨rfl, HO6.out⟩ (HRES.out.trans (by simp)).symm)
                        · have hqb : (qc == 0) = false := by simpa using hqc
                          go_wp2_with (first | (go_at_call 67; refine HF5.out.mono ?_; rintro e w' ⟨rfl, rfl⟩) | (go_at_call 58; refine HST.out.mono ?_; rintro e w6 ⟨rfl, ho6⟩; have HO6 := Lib.hid ho6; clear ho6))
                          all_goals (go_ret; exact ROwn.of2 (res := (qc, qm)) ⟨rfl, HO6.out⟩ (HRES.out.trans (by simp [hqc])).symm)
                      · have hres : rfull (tmpOf nm) (rlaySteps m nm (framesOf ll)) = (4, m5) := by
                          rw [HE5.out, rfull, if_neg (fun h => hff h.2)]
                        have HRES := Lib.hid hres
                        have HF5 := Lib.hid hf5
                        have hge : decide ((0 : Int) ≤ findI m5.now (tmpOf nm)) = false := decide_eq_false hff
                        generalize findI m5.now (tmpOf nm) = fi at HF5 hge
                        clear hff hres hf5 HE5
                        go_wp2_with (first | (go_at_call 67; refine HF5.out.mono ?_; rintro e w' ⟨rfl, rfl⟩))
                        all_goals (go_ret; exact ROwn.of2 (res := (4, m5)) ⟨rfl, HO5.out⟩ HRES.out.symm)
                    · have h4' : (e5 == 4) = false := by simpa using h4
                      have hres : rfull (tmpOf nm) (rlaySteps m nm (framesOf ll)) = (e5, m5) := by
                        rw [HE5.out, rfull, if_neg (fun h => h4 h.1)]
                      have HRES := Lib.hid hres
                      clear hres HE5
                      go_wp2_with fail
                      all_goals (go_ret; exact ROwn.of2 (res := (e5, m5)) ⟨rfl, HO5.out⟩ HRES.out.symm)
                · obtain ⟨e5, m5⟩ := q
                  have he5 : ¬ e5 = 0 := hq
                  rw [rthen_no (r := (e5, m5)) hq, rthen_no (r := (e5, m5)) hq] at hE2
                  have HE5 := Lib.hid hE2
                  have HT5 := Lib.hid hsT
                  have HO5 := Lib.hid ho2
                  have HSY := Lib.hid hsy
                  have HB5 := Lib.hid (show n' < 1099511627776 ∧ t' < 549755813888 from by have := HBX.out; omega)
                  have hne : (e5 == 0) = false := by simpa using he5
                  clear hsy hsT hE2 ho2 ho ht' hq he5
                  go_wp2_with fail
                  refine HSY.out.mono ?_
                  rintro e w' ⟨rfl, rfl⟩
                  clear HSY
                  by_cases h4 : e5 = 4
                  · subst h4
                    obtain ⟨na5, nc5, c1, c5, hf5⟩ := HO5.out.now HT5.out (by have := HB5.out; omega) (tmpOf nm)
                    by_cases hff : 0 ≤ findI m5.now (tmpOf nm)
                    · have hst := HO5.out.rstep HT5.out (by have := HB5.out; omega) (by have := HB5.out; omega) ⟨2, tmpOf nm, ⟨#[]⟩, []⟩ ⟨by simp, by simp⟩ (fun _ => rfl) (fun F' w' _ _ => reads_nil w')
                      rw [step_remove] at hst
                      have HF5 := Lib.hid hf5
                      have HST := Lib.hid hst
                      have hres : rfull (tmpOf nm) (rlaySteps m nm (framesOf ll)) = (if (removeOf m5 (tmpOf nm)).1 = 0 then (4, (removeOf m5 (tmpOf nm)).2) else removeOf m5 (tmpOf nm)) := by
                        rw [HE5.out, rfull, if_pos ⟨rfl, hff⟩]
                      generalize removeOf m5 (tmpOf nm) = q at HST hres
                      obtain ⟨qc, qm⟩ := q
                      have HRES := Lib.hid hres
                      have hge : decide ((0 : Int) ≤ findI m5.now (tmpOf nm)) = true := decide_eq_true hff
                      generalize findI m5.now (tmpOf nm) = fi at HF5 hge
                      clear hff hres hf5 hst HE5
                      by_cases hqc : qc = 0
                      · subst hqc
                        go_wp2_with (first | (go_at_call 67; refine HF5.out.mono ?_; rintro e w' ⟨rfl, rfl⟩) | (go_at_call 58; refine HST.out.mono ?_; rintro e w6 ⟨rfl, ho6⟩; have HO6 := Lib.hid ho6; clear ho6))
                        all_goals (go_ret; exact ROwn.of2 (res := (4, qm)) ⟨rfl, HO6.out⟩ (HRES.out.trans (by simp)).symm)
                      · have hqb : (qc == 0) = false := by simpa using hqc
                        go_wp2_with (first | (go_at_call 67; refine HF5.out.mono ?_; rintro e w' ⟨rfl, rfl⟩) | (go_at_call 58; refine HST.out.mono ?_; rintro e w6 ⟨rfl, ho6⟩; have HO6 := Lib.hid ho6; clear ho6))
                        all_goals (go_ret; exact ROwn.of2 (res := (qc, qm)) ⟨rfl, HO6.out⟩ (HRES.out.trans (by simp [hqc])).symm)
                    · have hres : rfull (tmpOf nm) (rlaySteps m nm (framesOf ll)) = (4, m5) := by
                        rw [HE5.out, rfull, if_neg (fun h => hff h.2)]
                      have HRES := Lib.hid hres
                      have HF5 := Lib.hid hf5
                      have hge : decide ((0 : Int) ≤ findI m5.now (tmpOf nm)) = false := decide_eq_false hff
                      generalize findI m5.now (tmpOf nm) = fi at HF5 hge
                      clear hff hres hf5 HE5
                      go_wp2_with (first | (go_at_call 67; refine HF5.out.mono ?_; rintro e w' ⟨rfl, rfl⟩))
                      all_goals (go_ret; exact ROwn.of2 (res := (4, m5)) ⟨rfl, HO5.out⟩ HRES.out.symm)
                  · have h4' : (e5 == 4) = false := by simpa using h4
                    have hres : rfull (tmpOf nm) (rlaySteps m nm (framesOf ll)) = (e5, m5) := by
                      rw [HE5.out, rfull, if_neg (fun h => h4 h.1)]
                    have HRES := Lib.hid hres
                    clear hres HE5
                    go_wp2_with fail
                    all_goals (go_ret; exact ROwn.of2 (res := (e5, m5)) ⟨rfl, HO5.out⟩ HRES.out.symm)
            · have hR := hwf
              rw [rthen_no (r := (e', m')) he] at hR
              have hE : rlaySteps m nm (framesOf ll) = (e', m') := by
                unfold rlaySteps
                rw [HR.out, ← hR, rthen_no (r := (e', m')) he, rthen_no (r := (e', m')) he, rthen_no (r := (e', m')) he]
              obtain ⟨e5, he5⟩ : ∃ x, x = e' := ⟨_, rfl⟩
              obtain ⟨m5, hm5⟩ : ∃ x, x = m' := ⟨_, rfl⟩
              subst he5
              subst hm5
              have HE5 := Lib.hid hE
              have HT5 := Lib.hid ht'
              have HO5 := Lib.hid ho
              have HB5 := Lib.hid (show n' < 1099511627776 ∧ t' < 549755813888 from by omega)
              have hne : (e5 == 0) = false := by simpa using he
              clear hwf hR hE ht' ho hf hkb hbd he HR
              by_cases h4 : e5 = 4
              · subst h4
                obtain ⟨na5, nc5, c1, c5, hf5⟩ := HO5.out.now HT5.out (by have := HB5.out; omega) (tmpOf nm)
                by_cases hff : 0 ≤ findI m5.now (tmpOf nm)
                · have hst := HO5.out.rstep HT5.out (by have := HB5.out; omega) (by have := HB5.out; omega) ⟨2, tmpOf nm, ⟨#[]⟩, []⟩ ⟨by simp, by simp⟩ (fun _ => rfl) (fun F' w' _ _ => reads_nil w')
                  rw [step_remove] at hst
                  have HF5 := Lib.hid hf5
                  have HST := Lib.hid hst
                  have hres : rfull (tmpOf nm) (rlaySteps m nm (framesOf ll)) = (if (removeOf m5 (tmpOf nm)).1 = 0 then (4, (removeOf m5 (tmpOf nm)).2) else removeOf m5 (tmpOf nm)) := by
                    rw [HE5.out, rfull, if_pos ⟨rfl, hff⟩]
                  generalize removeOf m5 (tmpOf nm) = q at HST hres
                  obtain ⟨qc, qm⟩ := q
                  have HRES := Lib.hid hres
                  have hge : decide ((0 : Int) ≤ findI m5.now (tmpOf nm)) = true := decide_eq_true hff
                  generalize findI m5.now (tmpOf nm) = fi at HF5 hge
                  clear hff hres hf5 hst HE5
                  by_cases hqc : qc = 0
                  · subst hqc
                    go_wp2_with (first | (go_at_call 67; refine HF5.out.mono ?_; rintro e w' ⟨rfl, rfl⟩) | (go_at_call 58; refine HST.out.mono ?_; rintro e w6 ⟨rfl, ho6⟩; have HO6 := Lib.hid ho6; clear ho6))
                    all_goals (go_ret; exact ROwn.of2 (res := (4, qm)) ⟨rfl, HO6.out⟩ (HRES.out.trans (by simp)).symm)
                  · have hqb : (qc == 0) = false := by simpa using hqc
                    go_wp2_with (first | (go_at_call 67; refine HF5.out.mono ?_; rintro e w' ⟨rfl, rfl⟩) | (go_at_call 58; refine HST.out.mono ?_; rintro e w6 ⟨rfl, ho6⟩; have HO6 := Lib.hid ho6; clear ho6))
                    all_goals (go_ret; exact ROwn.of2 (res := (qc, qm)) ⟨rfl, HO6.out⟩ (HRES.out.trans (by simp [hqc])).symm)
                · have hres : rfull (tmpOf nm) (rlaySteps m nm (framesOf ll)) = (4, m5) := by
                    rw [HE5.out, rfull, if_neg (fun h => hff h.2)]
                  have HRES := Lib.hid hres
                  have HF5 := Lib.hid hf5
                  have hge : decide ((0 : Int) ≤ findI m5.now (tmpOf nm)) = false := decide_eq_false hff
                  generalize findI m5.now (tmpOf nm) = fi at HF5 hge
                  clear hff hres hf5 HE5
                  go_wp2_with (first | (go_at_call 67; refine HF5.out.mono ?_; rintro e w' ⟨rfl, rfl⟩))
                  all_goals (go_ret; exact ROwn.of2 (res := (4, m5)) ⟨rfl, HO5.out⟩ HRES.out.symm)
              · have h4' : (e5 == 4) = false := by simpa using h4
                have hres : rfull (tmpOf nm) (rlaySteps m nm (framesOf ll)) = (e5, m5) := by
                  rw [HE5.out, rfull, if_neg (fun h => h4 h.1)]
                have HRES := Lib.hid hres
                clear hres HE5
                go_wp2_with fail
                all_goals (go_ret; exact ROwn.of2 (res := (e5, m5)) ⟨rfl, HO5.out⟩ HRES.out.symm)
end Go.Proofs.YtddnikpdmjogiaaGreat
