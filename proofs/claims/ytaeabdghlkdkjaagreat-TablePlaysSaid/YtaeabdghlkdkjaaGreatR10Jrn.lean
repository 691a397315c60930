/- The document's journal: Append. -/
import Derived.Test.YtaeabdghlkdkjaaGreatR10Open
import Derived.Test.YtaeabdghlkdkjaaGreatSmallV
namespace Go.Proofs.YtaeabdghlkdkjaaGreat
set_option linter.unusedVariables false
open Go.RowKit Go.MapKept

/-- 'append(ll, p)'. -/
theorem Own.pushR {w wr w1 : World} {rs : List (Res w.heap.size)} {v p : Value} {ll : List (List UInt8)} {l : List UInt8} (h : Own w wr (rRows w.heap.size v ll :: rs)) (hp : Owns w1 wr.heap.size p l) (hk : Keeps (fun _ => False) wr w1) (hb : ll.length < 1099511627776) :
    ∃ a c w', (Builtin.append_ #[22, 22] 22 #[v, .slice (some ⟨w1.heap.size, 0, none⟩) 1 1]).run Tryz.prog (w1.alloc (.cells #[p] 36)) = .ok (.slice a (ll.length + 1) c) w' ∧ Own w w' (rRows w.heap.size (.slice a (ll.length + 1) c) (ll ++ [l]) :: rs) := by
  have hz := h.keeps.size
  obtain ⟨F, ⟨ps, G, h1, h2, h3, h4⟩, hF, back⟩ := h.open1
  have hp1 : p.oneCell' = true := by obtain ⟨a, c, rfl, _⟩ := hp.bytes.form; rfl
  have h1' := row_keep h1 hk (fun _ _ e => e)
  obtain ⟨v', w', hr, ho, hk2, hat⟩ := row_push h1' (Nat.zero_le _) hp1 hb
  obtain ⟨a, c, e⟩ := ownsRow_slice ho
  subst e
  have hkF : Keeps F wr w' := (hk.mono (fun _ _ e => e.elim)).trans hk2 (fun b _ e => (h4 b e).1)
  have hsz := hk.size
  have hsz2 := hk2.size
  have hp2 : Owns w' wr.heap.size p l := owns_keep hp hk2 (fun b hb e => row_ne h1' hp e hb)
  refine ⟨a, c, w', hr, back w' (rRows _ (.slice a (ll.length + 1) c) (ll ++ [l])) hkF ⟨ps ++ [p], fun b => G b ∨ p.ownBlock = some b, by rw [List.length_append]; exact ho, Rel2.append ?_ ⟨?_, trivial⟩, fun b hb => ?_, fun b hb => ?_⟩⟩
  · refine h2.mono (fun q m hq => (hq.keep (fun b hb => ?_)).wider (fun b hb => .inl hb))
    have hlt : b < wr.heap.size := by
      rcases hb with hb | hb
      · exact (hF b (h3 b hb)).2
      · omega
    refine (hk2.block b (by omega) (fun e => ?_)).trans (hk.block b hlt (fun e => e))
    obtain ⟨_, e2, e3⟩ := h4 b e
    rcases hb with hb | hb
    · exact e3 hb
    · omega
  · exact (ReadsF.of_owns hp2).wider (fun b hb => .inr hb)
  · rcases hb with hb | hb
    · exact .inl (h3 b hb)
    · have := owns_lt hp b hb
      exact .inr ⟨by omega, by omega⟩
  · have hlt := row_lt ho b hb
    rcases hat with hat | hat
    · rw [hat] at hb
      obtain ⟨e1, e2, e3⟩ := h4 b hb
      exact ⟨.inl e1, e2, fun e => by rcases e with e | e; exact e3 e; exact row_ne h1' hp hb e⟩
    · rw [hat] at hb
      cases hb
      refine ⟨.inr ⟨by omega, hlt.1⟩, by omega, fun e => ?_⟩
      rcases e with e | e
      · have := hF _ (h3 _ e); omega
      · have := owns_lt hp _ e; omega

/-- Appending, as the document has it. -/
def rAppendOf (m : DM) (nm : ByteArray) (recs : List (List UInt8)) (p : List UInt8) : Int × DM × List (List UInt8) :=
  if 1048568 < p.length then (8, m, recs) else if (appendOf m nm (frameOf p)).1 = 0 then (0, (appendOf m nm (frameOf p)).2, recs ++ [p]) else ((appendOf m nm (frameOf p)).1, (appendOf m nm (frameOf p)).2, recs)
/-- What a step of the document's journal leaves. -/
def RJPost (w : World) (r j : Nat) (nm : ByteArray) (rs : List (Res w.heap.size)) (res : Int × DM × List (List UInt8)) (e : Ending) (w' : World) : Prop :=
  e = .returned (.int .i64 res.1) ∧ ∃ v, Own w w' (rRef w.heap.size r res.2.1 :: rObj w.heap.size j (rjObj r nm v) :: rRows w.heap.size v res.2.2 :: rs)
theorem rj_cells {w : World} {r j : Nat} {nm : ByteArray} {v : Value} (h : w.heap[j]? = some (rjObj r nm v)) : w.cell? ⟨j, 0, none⟩ = some (.pointer (some ⟨r, 0, none⟩)) ∧ w.cell? ⟨j, 1, none⟩ = some (.string nm) ∧ w.cell? ⟨j, 2, none⟩ = some v ∧ w.frozen? ⟨j, 2, none⟩ = false :=
  ⟨cell_at h rfl, cell_at h rfl, cell_at h rfl, free_at h 2⟩

theorem rj_push {w w2 : World} {r j : Nat} {m : DM} {nm : ByteArray} {vr : Value} {recs : List (List UInt8)} {rs : List (Res w.heap.size)} (h : Own w w2 (rRef w.heap.size r m :: rObj w.heap.size j (rjObj r nm vr) :: rRows w.heap.size vr recs :: rs)) (hrl : recs.length < 1099511627776) {p : List UInt8} :
    ∀ (w3 : World) (tv : Value), Owns w3 w2.heap.size tv p → Keeps (fun _ => False) w2.drew w3 → ∃ a c w4, (Builtin.append_ #[22, 22] 22 #[vr, .slice (some ⟨w3.heap.size, 0, none⟩) 1 1]).run Tryz.prog (w3.alloc (.cells #[tv] 36)) = .ok (.slice a (recs.length + 1) c) w4 ∧ w3.cell? ⟨j, 2, none⟩ = some vr ∧ w4.cell? ⟨j, 2, none⟩ = some vr ∧ w4.frozen? ⟨j, 2, none⟩ = false ∧
      Own w (w4.setCell ⟨j, 2, none⟩ (.slice a (recs.length + 1) c)) (rRef w.heap.size r m :: rObj w.heap.size j (rjObj r nm (.slice a (recs.length + 1) c)) :: rRows w.heap.size (.slice a (recs.length + 1) c) (recs ++ [p]) :: rs) := fun w3 tv ho hk => by
  have h1 := h.third
  have hj := (h.at (b := j) (o := rjObj r nm vr) (by simp)).1
  have hj3 := hk.undrew.at hj (fun e => e)
  obtain ⟨a, c, w4, hrun, h4⟩ := h1.pushR ho hk.undrew hrl
  have h5 := h4.third
  have hj4 := (h5.at (b := j) (o := rjObj r nm vr) (by simp)).1
  exact ⟨a, c, w4, hrun, (rj_cells hj3).2.2.1, (rj_cells hj4).2.2.1, (rj_cells hj4).2.2.2, (h5.store 2 (.slice a (recs.length + 1) c)).third⟩

set_option maxRecDepth 100000 in
set_option maxHeartbeats 1000000 in
theorem rappend_callsO {w w0 : World} {r j : Nat} {m : DM} {nm : ByteArray} {vr : Value} {recs : List (List UInt8)} {rs : List (Res w.heap.size)} (h : Own w w0 (rRef w.heap.size r m :: rObj w.heap.size j (rjObj r nm vr) :: rRows w.heap.size vr recs :: rs)) {n t : Nat} (ht : Tidy m n t) (hn : n + 8 < 549755813888) (htt : t + 8 < 549755813888) (hrl : recs.length < 1099511627776) {v : Value} {p : List UInt8} (hp : ∀ (wr : World) (l : List (Res w.heap.size)), Own w wr (l ++ rs) → Reads wr v p) :
    Calls Tryz.prog 16 #[.pointer (some ⟨j, 0, none⟩), v] w0 (RJPost w r j nm rs (rAppendOf m nm recs p)) := by
  obtain ⟨ra, rc, rfl⟩ := (h.rows (v := vr) (ll := recs) (by simp)).2
  have hp0 := hp w0 [_, _, _] h
  obtain ⟨pa, pc, rfl, _, _⟩ := hp0.form
  obtain ⟨c0, c1, c2, _⟩ := rj_cells (h.at (b := j) (o := rjObj r nm (.slice ra recs.length rc)) (by simp)).1
  unfold rAppendOf
  by_cases hbig : 1048568 < p.length
  · rw [if_pos hbig]
    have HO := Lib.hid h
    have b0 : decide ((1048568 : Int) < (p.length : Int)) = true := decide_eq_true (by omega)
    clear h hbig hp hp0
    go_enter Tryz.func16, Tryz.ntmps16
    go_wp2_with fail
    go_ret
    exact ⟨rfl, .slice ra recs.length rc, HO.out⟩
  · rw [if_neg hbig]
    have b0 : decide ((1048568 : Int) < (p.length : Int)) = false := decide_eq_false (by omega)
    generalize hR : (if (appendOf m nm (frameOf p)).1 = 0 then (0, (appendOf m nm (frameOf p)).2, recs ++ [p]) else ((appendOf m nm (frameOf p)).1, (appendOf m nm (frameOf p)).2, recs) : Int × DM × List (List UInt8)) = R
    have HR := Lib.hid hR
    have HR0 := hR
    have hfr := rframe_calls (hp0.keep (Keeps.refl _ w0).drew) (by omega)
    have d0 : w0.drew.cell? ⟨j, 0, none⟩ = some (.pointer (some ⟨r, 0, none⟩)) := c0
    have d1 : w0.drew.cell? ⟨j, 1, none⟩ = some (.string nm) := c1
    have HFR := Lib.hid hfr
    have HO := Lib.hid h
    have HT := Lib.hid ht
    have HP := Lib.hid hp
    have hpl : p.length ≤ 1048568 := by omega
    have hj := (h.at (b := j) (o := rjObj r nm (.slice ra recs.length rc)) (by simp)).1
    have ck : ∀ w1 : World, Keeps (fun _ => False) w0.drew w1 → w1.cell? ⟨j, 0, none⟩ = some (.pointer (some ⟨r, 0, none⟩)) ∧ w1.cell? ⟨j, 1, none⟩ = some (.string nm) := fun w1 hk => by
      have hb := hk.undrew.at hj (fun e => e)
      exact ⟨(rj_cells hb).1, (rj_cells hb).2.1⟩
    have hstf : ∀ (w1 : World) (fv : Value), Owns w1 w0.heap.size fv (frameOf p) → Keeps (fun _ => False) w0.drew w1 → Calls Tryz.prog 65 #[.pointer (some ⟨r, 0, none⟩), .agg #[.int .i64 1, .string nm, .string ⟨#[]⟩, fv]] w1 (fun e w2 => e = .returned (.int .i64 (appendOf m nm (frameOf p)).1) ∧ Own w w2 (rRef w.heap.size r (appendOf m nm (frameOf p)).2 :: rObj w.heap.size j (rjObj r nm (.slice ra recs.length rc)) :: rRows w.heap.size (.slice ra recs.length rc) recs :: rs) ∧ w2.cell? ⟨j, 0, none⟩ = some (.pointer (some ⟨r, 0, none⟩)) ∧ w2.cell? ⟨j, 1, none⟩ = some (.string nm)) := fun w1 fv ho1 hk1 => by
      have hst := (h.addBytes ho1 hk1.undrew).swap.rstepB ht (by omega) (by omega) ⟨1, nm, ⟨#[]⟩, frameOf p⟩ ⟨by simp, by simp⟩ (fun h => absurd rfl h) (fun w' hw' => hw')
      rw [step_append] at hst
      refine hst.mono ?_
      rintro e w2 ⟨he, ho⟩
      have hb := (ho.at (b := j) (o := rjObj r nm (.slice ra recs.length rc)) (by simp)).1
      exact ⟨he, ho.drop2, (rj_cells hb).1, (rj_cells hb).2.1⟩
    clear hR HR
    generalize appendOf m nm (frameOf p) = q at hstf HR0
    obtain ⟨qc, qm⟩ := q
    simp only at hstf HR0
    have HR := Lib.hid HR0
    clear HR0
    have CK := Lib.hid ck
    have HSTF := Lib.hid hstf
    clear h ht hbig hp hp0 hfr ck hstf hj
    go_enter Tryz.func16, Tryz.ntmps16
    go_wp2_with fail
    go_region_law (first | (refine step_wantedR rfl ?_; go_simp; go_at_call 74; refine HFR.out.mono ?_; rintro e w1 ⟨fv, rfl, ho1, hk1⟩; obtain ⟨q1, q2⟩ := CK.out _ hk1; obtain ⟨fa, fc, rfl, _, _⟩ := ho1.bytes.form) | (refine step_wantedR rfl ?_; go_simp; go_at_call 65; refine (HSTF.out _ _ ho1 hk1).mono ?_; rintro e w2 ⟨rfl, ho2, s1, s2⟩) | fail)
    all_goals
      clear q1 q2 ho1 hk1 HFR HSTF CK d0 d1 c0 c1 c2
      by_cases hq : qc = 0
      · subst hq
        have hR := HR.out
        rw [if_pos rfl] at hR
        have HR := Lib.hid hR
        have htw := twin_calls (w := w2.drew) ((HP.out w2 [_, _, _] ho2).keep (Keeps.refl _ w2).drew) (by omega)
        have HTW := Lib.hid htw
        have HPU := Lib.hid (rj_push ho2 hrl (p := p))
        have e2 := (rj_cells (ho2.at (b := j) (o := rjObj r nm (.slice ra recs.length rc)) (by simp)).1).2.2.1
        have e2d : w2.drew.cell? ⟨j, 2, none⟩ = some (.slice ra recs.length rc) := e2
        clear hR htw ho2 s1 s2
        go_wp2_with fail
        go_region_law (first | (refine step_wantedR rfl ?_; go_simp; go_at_call 48; refine HTW.out.mono ?_; rintro e w3 ⟨tv, rfl, ho3, hk3⟩; obtain ⟨a4, c4, w4, hrun, g0, g1, g2, hfin⟩ := HPU.out _ _ ho3 hk3; obtain ⟨ta, tc, rfl, _, _⟩ := ho3.bytes.form; have HFIN := Lib.hid hfin; have HRUN := Lib.hid hrun; have g3 := (World.cell?_alloc_lt w3 (.cells #[.slice ta p.length tc] 36) ⟨j, 2, none⟩ (World.block_lt_of_cell? w3 _ g0)).trans g0; clear hfin hrun) | (refine step_append_run rfl _ _ _ _ rfl rfl rfl HRUN.out ?_) | fail)
        all_goals
          clear g0 g1 g2 g3 hk3 ho3 HPU HTW HRUN
          go_wp2_with fail
          go_ret
          rw [← HR.out]
          exact ⟨rfl, _, HFIN.out⟩
      · have hR := HR.out
        rw [if_neg hq] at hR
        have HR := Lib.hid hR
        have hne : (qc == 0) = false := by simpa using hq
        have HO2 := Lib.hid ho2
        clear hR hq ho2 s1 s2
        go_wp2_with fail
        go_ret
        rw [← HR.out]
        exact ⟨rfl, .slice ra recs.length rc, HO2.out⟩
theorem rappend_calls {w w0 : World} {r j : Nat} {m : DM} {nm : ByteArray} {vr : Value} {recs : List (List UInt8)} {rs : List (Res w.heap.size)} (h : Own w w0 (rRef w.heap.size r m :: rObj w.heap.size j (rjObj r nm vr) :: rRows w.heap.size vr recs :: rs)) {n t : Nat} (ht : Tidy m n t) (hn : n + 8 < 549755813888) (htt : t + 8 < 549755813888) (hrl : recs.length < 1099511627776) {v : Value} {p : List UInt8} (hp : Reads w v p) :
    Calls Tryz.prog 16 #[.pointer (some ⟨j, 0, none⟩), v] w0 (RJPost w r j nm rs (rAppendOf m nm recs p)) :=
  rappend_callsO h ht hn htt hrl (fun wr l h => hp.keep h.keeps)
end Go.Proofs.YtaeabdghlkdkjaaGreat
