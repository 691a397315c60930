/- The contracts of a journal's Append, Sync, Size and Rewrite. -/
import Derived.Test.YtlinkpjneehnbaaOpen
namespace Go.Proofs.Ytlinkpjneehnbaa
open Go.RowKit Go.MapKept

/-- What Append answers, the disk and the size behind it. -/
def jAppendOf (m : DM) (nm : ByteArray) (size : Nat) (p : List UInt8) : Int × DM × Nat :=
  if 1048568 < p.length then (8, m, size) else if (appendOf m nm (frameOf p)).1 = 0 then (0, (appendOf m nm (frameOf p)).2, size + (8 + p.length)) else ((appendOf m nm (frameOf p)).1, (appendOf m nm (frameOf p)).2, size)
/-- A number is answered; the disk and the journal are as told. -/
def JPost (w : World) (d j : Nat) (nm : ByteArray) (rs : List (Res w.heap.size)) (r : Int × DM × Nat) (e : Ending) (w' : World) : Prop :=
  e = .returned (.int .i64 r.1) ∧ Own w w' (rDisk w.heap.size d r.2.1 :: rObj w.heap.size j (jrnObj d nm r.2.2) :: rs)
theorem JPost.mk {w : World} {d j : Nat} {nm : ByteArray} {rs : List (Res w.heap.size)} {r : Int × DM × Nat} {c : Int} {m : DM} {s : Nat} {w' : World} (hr : r = (c, m, s)) (h : Own w w' (rDisk w.heap.size d m :: rObj w.heap.size j (jrnObj d nm s) :: rs)) : JPost w d j nm rs r (.returned (.int .i64 c)) w' := by
  subst hr; exact ⟨rfl, h⟩
theorem jrn_cells {w : World} {j d : Nat} {nm : ByteArray} {s : Nat} (h : w.heap[j]? = some (jrnObj d nm s)) : w.cell? ⟨j, 0, none⟩ = some (.pointer (some ⟨d, 0, none⟩)) ∧ w.cell? ⟨j, 1, none⟩ = some (.string nm) ∧ w.cell? ⟨j, 2, none⟩ = some (.int .i64 (s : Int)) ∧ ∀ i, w.frozen? ⟨j, i, none⟩ = false :=
  ⟨cell_at h rfl, cell_at h rfl, cell_at h rfl, fun i => free_at h i⟩

theorem jrn_store {w wr : World} {d j s x : Nat} {m : DM} {nm : ByteArray} {rs : List (Res w.heap.size)} (h : Own w wr (rDisk w.heap.size d m :: rObj w.heap.size j (jrnObj d nm s) :: rs)) :
    Own w (wr.setCell ⟨j, 2, none⟩ (.int .i64 (x : Int))) (rDisk w.heap.size d m :: rObj w.heap.size j (jrnObj d nm x) :: rs) := (h.swap.store 2 (.int .i64 (x : Int))).swap
set_option maxRecDepth 100000 in
set_option maxHeartbeats 1000000 in
theorem jappend_calls {w w0 : World} {d j : Nat} {m : DM} {nm : ByteArray} {size : Nat} {rs : List (Res w.heap.size)} (h : Own w w0 (rDisk w.heap.size d m :: rObj w.heap.size j (jrnObj d nm size) :: rs)) {n : Nat} (hg : Good m n) (hn : n < 549755813888) (hs : size ≤ 1099511627776) {v : Value} {p : List UInt8} (hp : Reads w0 v p) :
    Calls Try.prog 37 #[.pointer (some ⟨j, 0, none⟩), v] w0 (JPost w d j nm rs (jAppendOf m nm size p)) := by
  obtain ⟨pa, pc, rfl, _, _⟩ := hp.form
  by_cases hbig : 1048568 < p.length
  · have he : jAppendOf m nm size p = (8, m, size) := by unfold jAppendOf; rw [if_pos hbig]
    have HE := Lib.hid he
    have HO := Lib.hid h
    have b0 : decide ((1048568 : Int) < (p.length : Int)) = true := decide_eq_true (by omega)
    clear he h hbig hp hs hn hg
    go_enter Try.func37, Try.ntmps37
    go_wp2_with fail
    go_ret
    exact JPost.mk HE.out HO.out
  · have he : jAppendOf m nm size p = if (appendOf m nm (frameOf p)).1 = 0 then (0, (appendOf m nm (frameOf p)).2, size + (8 + p.length)) else ((appendOf m nm (frameOf p)).1, (appendOf m nm (frameOf p)).2, size) := by unfold jAppendOf; rw [if_neg hbig]
    have b0 : decide ((1048568 : Int) < (p.length : Int)) = false := decide_eq_false (by omega)
    have hj := (h.at (b := j) (o := jrnObj d nm size) (by simp))
    obtain ⟨c0, c1, _, _⟩ := jrn_cells hj.1
    have hfr := frame_calls (hp.keep (Keeps.refl _ w0).drew) (by omega)
    have hap := fun (v1 : Value) (w1 : World) (ho : Owns w1 w0.heap.size v1 (frameOf p)) (hk : Keeps (fun _ => False) w0.drew w1) =>
      (h.drew.quiet hk).append nm ho.bytes.reads hg.room0 hg.room1 hg.unow hg.fuse (hg.loose (by omega))
    have ck : ∀ w1 : World, Keeps (fun _ => False) w0.drew w1 → w1.cell? ⟨j, 0, none⟩ = some (.pointer (some ⟨d, 0, none⟩)) ∧ w1.cell? ⟨j, 1, none⟩ = some (.string nm) := fun w1 hk => by
      have e := (World.cell?_of_block (w := w0.drew) (a := ⟨j, 0, none⟩) (hk.block j hj.2.2 (fun e => e))).trans c0
      have e2 := (World.cell?_of_block (w := w0.drew) (a := ⟨j, 1, none⟩) (hk.block j hj.2.2 (fun e => e))).trans c1
      exact ⟨e, e2⟩
    have HE := Lib.hid he
    generalize frameOf p = fr at hfr hap HE
    generalize appendOf m nm fr = q at hap HE
    obtain ⟨qc, qm⟩ := q
    have HFR := Lib.hid hfr
    have HAP := Lib.hid hap
    have CK := Lib.hid ck
    have i1 : (p.length : Int) ≤ 1048568 := by omega
    have i2 : (size : Int) ≤ 1099511627776 := by omega
    have i3 : (0 : Int) ≤ size := by omega
    clear he h hbig hp hs hn hg hj ck hfr hap
    have c0d : w0.drew.cell? ⟨j, 0, none⟩ = some (.pointer (some ⟨d, 0, none⟩)) := c0
    have c1d : w0.drew.cell? ⟨j, 1, none⟩ = some (.string nm) := c1
    go_enter Try.func37, Try.ntmps37
    go_wp2_with fail
    go_region_law (first | (refine step_wanted rfl ?_; go_simp; go_at_call 34; refine HFR.out.mono ?_; rintro e w1 ⟨v1, rfl, ho1, hk1⟩; obtain ⟨c0w, c1w⟩ := CK.out _ hk1) | (refine step_wanted rfl ?_; go_simp; go_at_call 21; refine (HAP.out _ _ ho1 hk1).mono ?_; rintro e w2 ⟨rfl, h2⟩) | fail)
    all_goals
      have hcj := jrn_cells (h2.at (b := j) (o := jrnObj d nm size) (by simp)).1
      have hst := jrn_store (x := size + (8 + p.length)) h2
      have HST := Lib.hid hst
      have H2 := Lib.hid h2
      have he := HE.out
      obtain ⟨_, _, k2, k3⟩ := hcj
      have k3' := k3 2
      clear hst h2 c0w c1w c0 c1 c0d c1d ho1 hk1 HE k3
      by_cases hq : qc = 0
      · subst hq
        simp only [if_true] at he
        have HE := Lib.hid he
        clear he
        go_wp2_with fail
        go_ret
        refine JPost.mk HE.out ?_
        have h := HST.out
        push_cast at h
        exact h
      · simp only [hq, if_false] at he
        have HE := Lib.hid he
        have b1 : (qc != 0) = true := by simpa using hq
        clear he hq
        go_wp2_with fail
        go_ret
        exact JPost.mk HE.out H2.out
end Go.Proofs.Ytlinkpjneehnbaa
