/- The document's table: Fold. -/
import Derived.Test.YtaeabdghlkdkjaaGreatR11App
import Derived.Test.YtaeabdghlkdkjaaGreatTFold
namespace Go.Proofs.YtaeabdghlkdkjaaGreat
set_option linter.unusedVariables false
open Go.RowKit Go.MapKept

def rtFoldOf (m : DM) (nm : ByteArray) (recs : List (List UInt8)) (fs : FS) (dn : Bool) : Int × DM × List (List UInt8) × FS × Bool :=
  if dn = true then (5, m, recs, fs, dn)
  else ((rRewriteOf m nm recs (foldRecs fs)).1, (rRewriteOf m nm recs (foldRecs fs)).2.1, (rRewriteOf m nm recs (foldRecs fs)).2.2, fs, (rRewriteOf m nm recs (foldRecs fs)).1 == 5)
theorem fold_short {fs : FS} (hok : TabOk fs) : ¬ tooLong (foldRecs fs) := by
  rintro ⟨p, hp, hlong⟩
  unfold foldRecs at hp
  obtain ⟨q, hq', rfl⟩ := List.mem_map.1 hp
  have := foldRec_len (hok.each q hq')
  omega

set_option maxRecDepth 100000 in
set_option maxHeartbeats 1000000 in
theorem rfold11_calls {w w0 : World} {r q u : Nat} {nm : ByteArray} {m : DM} {recs : List (List UInt8)} {v lv : Value} {fs : FS} {dn : Bool} {rs : List (Res w.heap.size)} (h : Own w w0 (rtRes w.heap.size r q u nm m recs v lv fs dn ++ rs)) {n t : Nat} (ht : Tidy m n t)
    (hn : n + (framesOf (foldRecs fs)).length + 8 < 549755813888) (htt : t + (framesOf (foldRecs fs)).length + 8 < 549755813888) (hnm : nm.size ≤ 65536) (hok : TabOk fs) (hl : fs.length ≤ 1099511627774) :
    Calls Tryz.prog 25 #[.pointer (some ⟨u, 0, none⟩)] w0 (RTabPost w r q u nm rs (rtFoldOf m nm recs fs dn)) := by
  have h0 : Own w w0 (rRef w.heap.size r m :: rObj w.heap.size q (rjObj r nm v) :: rRows w.heap.size v recs :: rObj w.heap.size u (rtabObj q lv dn) :: rPairs w.heap.size lv fs :: rs) := h
  obtain ⟨F, hpa⟩ := h0.pairs (v := lv) (fs := fs) (by simp)
  obtain ⟨la, lc, rfl, -, -⟩ := hpa.form
  obtain ⟨R, hR⟩ : ∃ R, rtFoldOf m nm recs fs dn = R := ⟨_, rfl⟩
  have HR := Lib.hid hR
  rw [hR]
  unfold rtFoldOf at HR
  have htab := (h0.at (b := u) (o := rtabObj q (.slice la fs.length lc) dn) (by simp)).1
  obtain ⟨c0, c1, c2, cf⟩ := rtab_cells htab
  have H0 := Lib.hid h0
  have HT := Lib.hid ht
  have HPA := Lib.hid hpa
  have HTAB := Lib.hid htab
  have HN := Lib.hid (show n + (framesOf (foldRecs fs)).length + 9 ≤ 549755813888 ∧ t + (framesOf (foldRecs fs)).length + 9 ≤ 549755813888 by omega)
  have HNM := Lib.hid hnm
  have HOK := Lib.hid hok
  have HLL := Lib.hid hl
  have i1 : (fs.length : Int) ≤ 1099511627774 := by omega
  clear h h0 hR ht hn htt hnm hok hl hpa htab cf
  cases dn with
  | true =>
    rw [if_pos rfl] at HR
    have HF := Lib.hid (show RTabPost w r q u nm rs R (.returned (.int .i64 5)) w0 by rw [← HR.out]; exact ⟨rfl, _, _, H0.out⟩)
    clear HR
    go_enter Tryz.func25, Tryz.ntmps25
    go_wp2_with fail
    go_ret
    exact HF.out
  | false =>
    rw [if_neg (by simp)] at HR
    go_enter Tryz.func25, Tryz.ntmps25
    go_wp2_with fail
    clear c0 c1 c2
    go_loopw [3, 4] (fun ov iv wx => ∃ k : Nat, k ≤ fs.length ∧ iv = .int .i64 (k : Int) ∧ OwnsRecs wx w0.heap.size ov (foldRecs (fs.take k)) ∧ Keeps (fun _ => False) w0 wx) (fun _ iv _ => fs.length - (intOf iv).toNat)
    case atStart => exact ⟨0, Nat.zero_le _, rfl, by rw [List.take_zero]; exact OwnsRecs.nil _ _, Keeps.refl _ _⟩
    case round =>
      obtain ⟨k, hk, rfl, ho, hq⟩ := hrel
      have k0 : (0 : Int) ≤ k := by omega
      obtain ⟨w2, hw2⟩ : ∃ w2, w2 = wr := ⟨_, rfl⟩
      subst hw2
      obtain ⟨d0, d1, -, -⟩ := rtab_cells (hq.at HTAB.out (fun e => e))
      obtain ⟨oa, on, oc, rfl⟩ : ∃ a n c, u3 = .slice a n c := by obtain ⟨a, c, e⟩ := ho.form; exact ⟨a, _, c, e⟩
      by_cases hlt : k < fs.length
      · obtain ⟨f, hf⟩ : ∃ f, fs[k]? = some f := ⟨fs[k], List.getElem?_eq_getElem hlt⟩
        obtain ⟨g, cap, pv, e, hc1, hc2, hB⟩ := (HPA.out.quiet (G := F) hq (fun b hb _ => hb)).cell hf
        simp only [Value.slice.injEq] at e
        obtain ⟨rfl, -, rfl⟩ := e
        obtain ⟨va, vc, rfl, -, -⟩ := hB.form
        have e1 : w2.drew.cell? ⟨u, 1, none⟩ = some (.slice (some ⟨g, 0, none⟩) fs.length lc) := d1
        have e2 : w2.drew.cell? ⟨g, k * 2, none⟩ = some (.string f.1) := hc1
        have e3 : w2.drew.cell? ⟨g, k * 2 + 1, none⟩ = some (.slice va f.2.length vc) := hc2
        have hB2 := heap_alloc_new w2.drew (.cells #[.string f.1, .bool false, .slice va f.2.length vc] 72)
        have hins : TChsIn (w2.drew.alloc (.cells #[.string f.1, .bool false, .slice va f.2.length vc] 72)) (some ⟨w2.drew.heap.size, 0, none⟩) [⟨f.1, false, f.2⟩] := fun i c hc => by
          match i, hc with
          | 0, hc => cases hc; exact ⟨_, _, rfl, cell_at hB2 rfl, cell_at hB2 rfl, cell_at hB2 rfl, (hB.reads.keep ((Keeps.refl _ w2).drew)).keep ((Keeps.refl _ w2.drew).alloc _)⟩
          | i + 1, hc => simp at hc
        have hen := rencode_calls hins (c := 1) (by simp) (by unfold maxLen; omega)
        have hcode := foldRec_ok (HOK.out.each f (List.mem_of_getElem? hf))
        obtain ⟨ec, er, her⟩ : ∃ ec er, encOf [⟨f.1, false, f.2⟩] = (ec, er) := ⟨_, _, rfl⟩
        have hrec : foldRec f = er := by unfold foldRec; rw [her]
        rw [her] at hen hcode
        dsimp only at hcode
        subst hcode
        rw [drew_size] at hen
        have HEN := Lib.hid hen
        have j1 : (k : Int) < fs.length := by omega
        have hk1' : k + 1 ≤ fs.length := by omega
        have HPU := Lib.hid (fun (w3 : World) (p : Value) (hk3 : Keeps (fun _ => False) w2 w3) (hp : Owns w3 w2.heap.size p er) => ho.push hq.size hk3 hp (by unfold foldRecs; rw [List.length_map, List.length_take]; have := HLL.out; omega))
        rw [← hrec, ← foldRecs_snoc hf, hrec] at HPU
        have HQ := Lib.hid hq
        have HBASE := Lib.hid (fun (bb : Nat) (e : (Value.slice oa on oc).ownBlock = some bb) => (show w0.heap.size ≤ bb by obtain ⟨ps, r1, _⟩ := ho; exact (row_lt r1 bb e).2))
        clear hB hB2 hins hen her hrec ho hq hf hlt hk
        go_wp2_with fail
        go_region_law (first | (refine step_wanted rfl ?_; go_simp; go_at_call 84; refine HEN.out.mono ?_; rintro e w3 ⟨rv, rfl, hrv, hk3⟩; obtain ⟨ra, rn, rc, rfl⟩ := slice_form2 hrv) | fail)
        all_goals
          have hk23 : Keeps (fun _ => False) w2 w3 := (((Keeps.refl _ w2).drew).alloc _).trans hk3 (fun _ _ e => e)
          obtain ⟨pv, w4, hrun, hor, hk4⟩ := HPU.out w3 (.slice ra rn rc) hk23 (hrv.base (by rw [World.size_alloc, drew_size]; omega))
          obtain ⟨pa, pc, e⟩ := hor.form
          obtain ⟨pn, rfl⟩ : ∃ pn, pv = .slice pa pn pc := ⟨_, e⟩
          have HREL := Lib.hid (⟨k + 1, hk1', rfl, hor, (HQ.out.trans hk23 (fun _ _ e => e)).trans hk4 (fun bb hb e => by have := HBASE.out bb e; omega)⟩ : ∃ k' : Nat, k' ≤ fs.length ∧ Value.int .i64 ((k + 1 : Nat) : Int) = .int .i64 (k' : Int) ∧ OwnsRecs w4 w0.heap.size (.slice pa pn pc) (foldRecs (fs.take k')) ∧ Keeps (fun _ => False) w0 w4)
          have HRUN := Lib.hid hrun
          clear e hor hrun hk4 hk23 hk3 hrv HPU HEN HBASE HQ
          go_wp2_with (at_builtin; (first | (refine wpList_append_run (w := w3.alloc (.cells #[.slice ra rn rc] 36)) rfl _ _ _ _ rfl rfl rfl HRUN.out ?_)))
          go_roundw
          case rel => exact HREL.out
          case measure => simp [intOf]; omega
      · obtain rfl : k = fs.length := by omega
        rw [List.take_length] at ho
        have h2 : Own w w2 (rRef w.heap.size r m :: rObj w.heap.size q (rjObj r nm v) :: rRows w.heap.size v recs :: rObj w.heap.size u (rtabObj q (.slice la fs.length lc) false) :: rPairs w.heap.size (.slice la fs.length lc) fs :: rRows w.heap.size (.slice oa on oc) (foldRecs fs) :: rs) :=
          (H0.out.addRecs ho hq).perm (List.perm_middle (l₁ := [_, _, _, _, _])).symm
        have hnl := fold_short HOK.out
        have hrw := rrewrite_callsO (R := rRewriteOf m nm recs (foldRecs fs)) h2 HT.out HNM.out (v := .slice oa on oc) (ll := foldRecs fs) (fun wr ls h => (h.rows (v := .slice oa on oc) (ll := foldRecs fs) (by simp)).1) (by have := HN.out; omega) (by have := HN.out; omega) (fun hh => absurd hh hnl) (fun _ => rfl)
        generalize rRewriteOf m nm recs (foldRecs fs) = A at HR hrw
        obtain ⟨ac, am, ar⟩ := A
        dsimp only at HR
        have HRW := Lib.hid hrw
        clear hrw h2 hnl ho hq hlt hk
        go_wp2_with fail
        refine HRW.out.mono ?_
        rintro e w3 ⟨rfl, v3, h3⟩
        dsimp only at h3
        obtain ⟨t30, -, t32, t33⟩ := rtab_cells (h3.at (b := u) (o := rtabObj q (.slice la fs.length lc) false) (by simp)).1
        have t3f := t33 2
        have HF := Lib.hid (show RTabPost w r q u nm rs R (.returned (.int .i64 ac)) (w3.setCell ⟨u, 2, none⟩ (.bool (ac == 5))) by rw [← HR.out]; exact ⟨rfl, _, _, (Own.pull (l₁ := [_, _, _, _, _]) h3).drop.rdown _⟩)
        clear h3 t33 HRW HR d0 d1
        dsimp only
        go_wp2_with fail
        go_ret
        exact HF.out
end Go.Proofs.YtaeabdghlkdkjaaGreat
