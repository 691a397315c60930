/- The contracts of a journal's Sync, Size and Rewrite; a nil journal. -/
import Derived.Test.YtlinkpjneehnbaaJrn
namespace Go.Proofs.Ytlinkpjneehnbaa
open Go.RowKit Go.MapKept

theorem jsync_calls {w w0 : World} {d j : Nat} {m : DM} {nm : ByteArray} {size : Nat} {rs : List (Res w.heap.size)} (h : Own w w0 (rDisk w.heap.size d m :: rObj w.heap.size j (jrnObj d nm size) :: rs)) {n : Nat} (hg : Good m n) :
    Calls Try.prog 38 #[.pointer (some ⟨j, 0, none⟩)] w0 (JPost w d j nm rs ((syncOf m).1, (syncOf m).2, size)) := by
  obtain ⟨c0, _, _, _⟩ := jrn_cells (h.at (b := j) (o := jrnObj d nm size) (by simp)).1
  have hs := h.sync hg.fuse hg.fits1
  have HS := Lib.hid hs
  clear h hg hs
  go_enter Try.func38, Try.ntmps38
  go_wp2_with fail
  refine HS.out.mono ?_
  rintro e w1 ⟨rfl, h1⟩
  have H1 := Lib.hid h1
  clear h1
  go_wp2_with fail
  go_ret
  exact ⟨rfl, H1.out⟩
theorem jsize_runs {w : World} {d j : Nat} {nm : ByteArray} {size : Nat} (h : w.heap[j]? = some (jrnObj d nm size)) : Runs 39 #[.pointer (some ⟨j, 0, none⟩)] w (.int .i64 (size : Int)) w := by
  obtain ⟨_, _, c2, _⟩ := jrn_cells h
  clear h
  unfold Runs
  go_enter Try.func39, Try.ntmps39
  go_wp2_with fail
  go_ret
  exact ⟨rfl, rfl⟩
theorem jsize_nil (w : World) : Runs 39 #[.pointer none] w (.int .i64 0) w := by
  unfold Runs
  go_enter Try.func39, Try.ntmps39
  go_wp2_with fail
  go_ret
  exact ⟨rfl, rfl⟩
theorem jsync_nil (w : World) : Runs 38 #[.pointer none] w (.int .i64 2) w := by
  unfold Runs
  go_enter Try.func38, Try.ntmps38
  go_wp2_with fail
  go_ret
  exact ⟨rfl, rfl⟩
theorem jappend_nil (w : World) (v : Value) : Runs 37 #[.pointer none, v] w (.int .i64 2) w := by
  unfold Runs
  go_enter Try.func37, Try.ntmps37
  go_wp2_with fail
  go_ret
  exact ⟨rfl, rfl⟩
theorem jrewrite_nil (w : World) (v : Value) : Runs 40 #[.pointer none, v] w (.int .i64 2) w := by
  unfold Runs
  go_enter Try.func40, Try.ntmps40
  go_wp2_with fail
  go_ret
  exact ⟨rfl, rfl⟩

/-- A record that is too long. -/
def tooLong (ll : List (List UInt8)) : Prop := ∃ p ∈ ll, 1048568 < p.length
def jRewriteOf (m : DM) (nm : ByteArray) (size : Nat) (ll : List (List UInt8)) : Int × DM × Nat :=
  if (layOf m nm (framesOf ll)).1 = 0 then (0, (layOf m nm (framesOf ll)).2, (framesOf ll).length) else ((layOf m nm (framesOf ll)).1, (layOf m nm (framesOf ll)).2, size)
set_option maxRecDepth 100000 in
set_option maxHeartbeats 1000000 in
theorem jrewrite_calls {w w0 : World} {d j : Nat} {m : DM} {nm : ByteArray} {size : Nat} {rs : List (Res w.heap.size)} (h : Own w w0 (rDisk w.heap.size d m :: rObj w.heap.size j (jrnObj d nm size) :: rs)) {n : Nat} (hg : Good m n) (hnm : nm.size ≤ 65536) {v : Value} {ll : List (List UInt8)} (hr : RowsIn w0 v ll)
    (hn : n + 7 * ((framesOf ll).length + 1) + 1 < 1099511627776) {r : Int × DM × Nat} (hlong : tooLong ll → r = (8, m, size)) (hfit : ¬ tooLong ll → r = jRewriteOf m nm size ll) :
    Calls Try.prog 40 #[.pointer (some ⟨j, 0, none⟩), v] w0 (JPost w d j nm rs r) := by
  obtain ⟨a, c, rfl, hrows⟩ := id hr
  have hlen : ll.length ≤ (framesOf ll).length := by
    clear hrows hn hr hlong hfit
    induction ll with
    | nil => exact Nat.zero_le _
    | cons p ll ih => rw [framesOf_cons, List.length_append, frameOf_length, List.length_cons]; omega
  have j9 : (ll.length : Int) ≤ 1099511627776 := by omega
  have hlay := lay_calls h.drew hg nm hnm (hr.keep (Keeps.refl _ w0).drew) hn
  have hj := (h.at (b := j) (o := jrnObj d nm size) (by simp)).1
  obtain ⟨c0, c1, _, _⟩ := jrn_cells hj
  have c0d : w0.drew.cell? ⟨j, 0, none⟩ = some (.pointer (some ⟨d, 0, none⟩)) := c0
  have c1d : w0.drew.cell? ⟨j, 1, none⟩ = some (.string nm) := c1
  have HL := Lib.hid hlay
  have HROWS := Lib.hid hrows
  have HO := Lib.hid h
  have HLONG := Lib.hid hlong
  have HFIT := Lib.hid hfit
  clear h hg hnm hr hn hlong hfit hrows hlen hlay hj
  go_enter Try.func40, Try.ntmps40
  go_wp2_with fail
  go_loopw [13] (fun i wx => ∃ k : Nat, k ≤ ll.length ∧ i = .int .i64 (k : Int) ∧ wx = w0 ∧ ∀ p ∈ ll.take k, ¬ 1048568 < p.length) (fun i _ => ll.length - (intOf i).toNat)
  case atStart => exact ⟨0, Nat.zero_le _, rfl, rfl, fun p hp => by simp at hp⟩
  case round =>
    obtain ⟨k, hk, rfl, rfl, hok⟩ := hrel
    have j0 : (0 : Int) ≤ k := by omega
    by_cases hlt : k < ll.length
    · obtain ⟨l, hl⟩ : ∃ l, ll[k]? = some l := ⟨ll[k], List.getElem?_eq_getElem hlt⟩
      obtain ⟨x, p, rfl, hcx, hrd⟩ := HROWS.out k l hl
      obtain ⟨pa, pc, rfl, _, _⟩ := hrd.form
      have j1 : (k : Int) < ll.length := by omega
      by_cases hbig : 1048568 < l.length
      · have he := HLONG.out ⟨l, List.mem_of_getElem? hl, hbig⟩
        have HE := Lib.hid he
        have b0 : decide ((1048568 : Int) < (l.length : Int)) = true := decide_eq_true (by omega)
        clear he hbig hok hl hlt hrd
        go_wp2_with fail
        go_ret
        exact JPost.mk HE.out HO.out
      · have hok2 : ∀ p ∈ ll.take (k + 1), ¬ 1048568 < p.length := by
          intro q hq
          rw [List.take_add_one, hl] at hq
          simp only [Option.toList_some, List.mem_append, List.mem_singleton] at hq
          rcases hq with hq | rfl
          · exact hok q hq
          · exact hbig
        have HOK := Lib.hid hok2
        have b0 : decide ((1048568 : Int) < (l.length : Int)) = false := decide_eq_false (by omega)
        have HK := Lib.hid hlt
        clear hok2 hok hbig hl hlt hrd hk
        go_wp2_with fail
        go_roundw
        case rel => exact ⟨k + 1, HK.out, rfl, trivial, HOK.out⟩
        case measure => have := HK.out; simp [intOf]; omega
    · obtain rfl : k = ll.length := by omega
      have he := HFIT.out (fun ⟨p, hp, hb⟩ => hok p (by rw [List.take_length]; exact hp) hb)
      unfold jRewriteOf at he
      generalize layOf m nm (framesOf ll) = q at HL he
      obtain ⟨qc, qm⟩ := q
      generalize (framesOf ll).length = fl at HL he
      have HE0 := Lib.hid he
      clear hok hlt hk he
      go_wp2_with fail
      go_region_law (first | (refine step_wanted rfl ?_; go_simp; go_at_call 88; refine HL.out.mono ?_; rintro e w2 ⟨rfl, h2⟩) | fail)
      all_goals
        have hcj := jrn_cells (h2.at (b := j) (o := jrnObj d nm size) (by simp)).1
        have hst := jrn_store (x := fl) h2
        have HST := Lib.hid hst
        have H2 := Lib.hid h2
        have he := HE0.out
        obtain ⟨_, _, k2, k3⟩ := hcj
        have k3' := k3 2
        clear hst h2 c0 c1 c0d c1d k3
        by_cases hq : qc = 0
        · subst hq
          simp only [if_true] at he
          have HE := Lib.hid he
          clear he
          go_wp2_with fail
          go_ret
          exact JPost.mk HE.out HST.out
        · simp only [hq, if_false] at he
          have HE := Lib.hid he
          have b1 : (qc == 0) = false := by simpa using hq
          clear he hq
          go_wp2_with fail
          go_ret
          exact JPost.mk HE.out H2.out
end Go.Proofs.Ytlinkpjneehnbaa
