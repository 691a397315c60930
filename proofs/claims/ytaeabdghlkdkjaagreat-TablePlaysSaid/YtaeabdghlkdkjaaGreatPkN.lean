/- The document's journal: Size and Rewrite. -/
import Derived.Test.YtaeabdghlkdkjaaGreatR10Jrn
import Derived.Test.YtaeabdghlkdkjaaGreatPkK
namespace Go.Proofs.YtaeabdghlkdkjaaGreat
set_option linter.unusedVariables false
open Go.RowKit Go.MapKept

set_option maxRecDepth 100000 in
theorem rsize_runs {w : World} {v : Value} {ll : List (List UInt8)} (hr : RowsIn w v ll) (hb : (framesOf ll).length ≤ 1099511627776) : Runs 29 #[v] w (.int .i64 ((framesOf ll).length : Int)) w := by
  obtain ⟨a, c, rfl, hcell⟩ := hr
  have hfl := framesOf_take_le ll
  have hll := frames_many ll
  have HC := Lib.hid hcell
  have i1 : (ll.length : Int) ≤ 1099511627776 := by omega
  unfold Runs
  clear hcell
  go_enter Tryz.func29, Tryz.ntmps29
  go_wp2_with fail
  go_loopw [3, 4] (fun nv iv wx => ∃ k : Nat, k ≤ ll.length ∧ nv = .int .i64 ((framesOf (ll.take k)).length : Int) ∧ iv = .int .i64 (k : Int) ∧ wx = w) (fun _ iv _ => ll.length - (intOf iv).toNat)
  case atStart => exact ⟨0, Nat.zero_le _, rfl, rfl, rfl⟩
  case round =>
    obtain ⟨k, hk, rfl, rfl, rfl⟩ := hrel
    have j0 : (0 : Int) ≤ k := by omega
    by_cases hlt : k < ll.length
    · obtain ⟨l, hl⟩ : ∃ l, ll[k]? = some l := ⟨ll[k], List.getElem?_eq_getElem hlt⟩
      obtain ⟨x, p, rfl, hcx, hrd⟩ := HC.out k l hl
      obtain ⟨pa, pc, rfl, _, _⟩ := hrd.form
      have j1 : (k : Int) < ll.length := by omega
      have hs := framesOf_take_succ hl
      have hsl := hfl (k + 1)
      have hs2 : ((framesOf (ll.take (k + 1))).length : Int) = ((framesOf (ll.take k)).length : Int) + 8 + (l.length : Int) := by rw [hs, List.length_append, frameOf_length]; omega
      have hfk : ((framesOf (ll.take k)).length : Int) + 8 + (l.length : Int) ≤ 1099511627776 := by omega
      have HREL := Lib.hid (⟨k + 1, by omega, congrArg (Value.int .i64) hs2.symm, rfl, trivial⟩ : ∃ k' : Nat, k' ≤ ll.length ∧ Value.int .i64 (((framesOf (ll.take k)).length : Int) + 8 + (l.length : Int)) = .int .i64 ((framesOf (ll.take k')).length : Int) ∧ Value.int .i64 ((k + 1 : Nat) : Int) = .int .i64 (k' : Int) ∧ True)
      have f0 : (0 : Int) ≤ ((framesOf (ll.take k)).length : Int) := by omega
      have l0 : (0 : Int) ≤ (l.length : Int) := by omega
      generalize ((framesOf (ll.take k)).length : Int) = z at hfk f0 HREL ⊢
      clear hs hsl hs2 hrd hfl
      go_wp2_with fail
      go_roundw
      case rel => exact HREL.out
      case measure => simp [intOf]; omega
    · have hkl : k = ll.length := by omega
      subst hkl
      have hz : ((framesOf (ll.take ll.length)).length : Int) = ((framesOf ll).length : Int) := by rw [List.take_length]
      rw [hz]
      clear hz hfl
      go_wp2_with fail
      go_ret
      exact ⟨rfl, rfl⟩
end Go.Proofs.YtaeabdghlkdkjaaGreat

namespace Go.Proofs.YtaeabdghlkdkjaaGreat
set_option linter.unusedVariables false
open Go.RowKit Go.MapKept

set_option maxRecDepth 100000 in
set_option maxHeartbeats 1000000 in
theorem rrewrite_callsO {w w0 : World} {r j : Nat} {m : DM} {nm : ByteArray} {vr : Value} {recs : List (List UInt8)} {rs : List (Res w.heap.size)} (h : Own w w0 (rRef w.heap.size r m :: rObj w.heap.size j (rjObj r nm vr) :: rRows w.heap.size vr recs :: rs)) {n t : Nat} (ht : Tidy m n t) (hnm : nm.size ≤ 65536) {v : Value} {ll : List (List UInt8)} (hr : ∀ (wr : World) (l : List (Res w.heap.size)), Own w wr (l ++ rs) → RowsIn wr v ll)
    (hn : n + (framesOf ll).length + 8 < 549755813888) (htt : t + (framesOf ll).length + 8 < 549755813888) {R : Int × DM × List (List UInt8)} (hlong : tooLong ll → R = (8, m, recs)) (hfit : ¬ tooLong ll → R = if (layOf m nm (framesOf ll)).1 = 0 then (0, (layOf m nm (framesOf ll)).2, ll) else ((layOf m nm (framesOf ll)).1, (layOf m nm (framesOf ll)).2, recs)) :
    Calls Tryz.prog 88 #[.pointer (some ⟨j, 0, none⟩), v] w0 (RJPost w r j nm rs R) := by
  have hrw := hr
  have hr0 := hr w0 [_, _, _] h
  have hmany := frames_many ll
  obtain ⟨ra, rc, rfl⟩ := (h.rows (v := vr) (ll := recs) (by simp)).2
  obtain ⟨c0, c1, c2, _⟩ := rj_cells (h.at (b := j) (o := rjObj r nm (.slice ra recs.length rc)) (by simp)).1
  have hlay := rlay_calls (h.drew) ht nm hnm (hr0.keep (Keeps.refl _ w0).drew) hn htt (by omega)
  have hlay' := rlay_calls h ht nm hnm hr0 hn htt (by omega)
  obtain ⟨a, c, rfl, hrows⟩ := hr0
  have d0 : w0.drew.cell? ⟨j, 0, none⟩ = some (.pointer (some ⟨r, 0, none⟩)) := c0
  have d1 : w0.drew.cell? ⟨j, 1, none⟩ = some (.string nm) := c1
  have HROWS := Lib.hid hrows
  have HRW := Lib.hid hrw
  have HO := Lib.hid h
  have HLONG := Lib.hid hlong
  have HFIT := Lib.hid hfit
  have HL := Lib.hid hlay
  have HL' := Lib.hid hlay'
  have i1 : (ll.length : Int) ≤ 549755813888 := by omega
  have i2 : (framesOf ll).length ≤ 549755813888 := by omega
  clear h ht hnm hr hn htt hlong hfit hrows hlay hlay' hrw
  go_enter Tryz.func88, Tryz.ntmps88
  go_wp2_with fail
  go_loopw [5] (fun i wx => ∃ k : Nat, k ≤ ll.length ∧ i = .int .i64 (k : Int) ∧ wx = w0 ∧ ∀ p ∈ ll.take k, ¬ 1048568 < p.length) (fun i _ => ll.length - (intOf i).toNat)
  case atStart => exact ⟨0, Nat.zero_le _, rfl, rfl, fun p hp => by simp at hp⟩
  case round =>
    obtain ⟨k, hk, rfl, rfl, hok⟩ := hrel
    have j0 : (0 : Int) ≤ k := by omega
    by_cases hlt : k < ll.length
    · obtain ⟨l, hl⟩ : ∃ l, ll[k]? = some l := ⟨ll[k], List.getElem?_eq_getElem hlt⟩
      obtain ⟨x, p, rfl, hcx, hrd⟩ := HROWS.out k l hl
      obtain ⟨pa, pc, rfl, _, _⟩ := hrd.form
      have j1 : (k : Int) < ll.length := by omega
      by_cases hbig : 1048568 < l.length
      · have he := HLONG.out ⟨l, List.mem_of_getElem? hl, hbig⟩
        have HE := Lib.hid he
        have b0 : decide ((1048568 : Int) < (l.length : Int)) = true := decide_eq_true (by omega)
        clear he hbig hok hl hlt hrd
        go_wp2_with fail
        go_ret
        rw [HE.out]
        exact ⟨rfl, _, HO.out⟩
      · have hok2 : ∀ p ∈ ll.take (k + 1), ¬ 1048568 < p.length := by
          intro q hq
          rw [List.take_add_one, hl] at hq
          simp only [Option.toList_some, List.mem_append, List.mem_singleton] at hq
          rcases hq with hq | rfl
          · exact hok q hq
          · exact hbig
        have HOK := Lib.hid hok2
        have b0 : decide ((1048568 : Int) < (l.length : Int)) = false := decide_eq_false (by omega)
        have HK := Lib.hid hlt
        clear hok2 hok hbig hl hlt hrd hk
        go_wp2_with fail
        go_roundw
        case rel => exact ⟨k + 1, HK.out, rfl, trivial, HOK.out⟩
        case measure => have := HK.out; simp [intOf]; omega
    · obtain rfl : k = ll.length := by omega
      have he := HFIT.out (fun ⟨p, hp, hb⟩ => hok p (by rw [List.take_length]; exact hp) hb)
      generalize layOf m nm (framesOf ll) = q at HL HL' he
      obtain ⟨qc, qm⟩ := q
      simp only at he
      have HE0 := Lib.hid he
      clear hok hlt hk he
      go_wp2_with fail
      go_region_law (first | (refine step_wantedR rfl ?_; go_simp; (first | (refine HL.out.mono ?_) | (refine HL'.out.mono ?_)); rintro e w2 ⟨rfl, h2⟩) | fail)
      all_goals
        have hcj := rj_cells (h2.at (b := j) (o := rjObj r nm (.slice ra recs.length rc)) (by simp)).1
        obtain ⟨_, _, k2, k3⟩ := hcj
        have hst := (h2.third.drop.swap.store 2 (.slice none 0 0)).swap.nilRows
        have H2 := Lib.hid h2
        have he := HE0.out
        clear c0 c1 d0 d1 HL HL' HLONG HFIT
        by_cases hq : qc = 0
        · subst hq
          rw [if_pos rfl] at he
          have HE := Lib.hid he
          have HST := Lib.hid (Own.tuckR hst)
          clear he hst h2
          go_wp2_with fail
          clear k2 k3 H2
          go_loopw [7] (fun i wx => ∃ (k : Nat) (va : Value), k ≤ ll.length ∧ i = .int .i64 (k : Int) ∧ Own w wx (rRef w.heap.size r qm :: rObj w.heap.size j (rjObj r nm va) :: rRows w.heap.size va (ll.take k) :: rs)) (fun i _ => ll.length - (intOf i).toNat)
          case atStart => exact ⟨0, .slice none 0 0, Nat.zero_le _, rfl, HST.out⟩
          case round =>
            obtain ⟨k, va, hk, rfl, ho⟩ := hrel
            have j0 : (0 : Int) ≤ k := by omega
            by_cases hlt : k < ll.length
            · obtain ⟨l, hl⟩ : ∃ l, ll[k]? = some l := ⟨ll[k], List.getElem?_eq_getElem hlt⟩
              obtain ⟨a', c', e, hc⟩ := HRW.out _ [_, _, _] ho
              cases e
              obtain ⟨x, p, rfl, hcx, hrd⟩ := hc k l hl
              obtain ⟨pa, pc, rfl, _, _⟩ := hrd.form
              have htk : ll.take k ++ [l] = ll.take (k + 1) := by rw [List.take_add_one, hl]; rfl
              have hlk : (ll.take k).length < 1099511627776 := by rw [List.length_take]; omega
              have hkd : (ll.take (k + 1)).length = (ll.take k).length + 1 := by rw [List.length_take, List.length_take]; omega
              generalize ll.take k = D at ho htk hlk hkd
              obtain ⟨ra2, rc2, rfl⟩ := (ho.rows (v := va) (ll := D) (by simp)).2
              have j1 : (k : Int) < ll.length := by omega
              have hle := record_le hl
              have HTW := Lib.hid (twin_calls (w := _) (hrd.keep (Keeps.refl _ _).drew) (by omega))
              have HPU := Lib.hid (rj_push ho hlk (p := l))
              have e2 := (rj_cells (ho.at (b := j) (o := rjObj r nm (.slice ra2 D.length rc2)) (by simp)).1).2.2.1
              have HTK := Lib.hid htk
              have e2d : (World.drew _).cell? ⟨j, 2, none⟩ = some (.slice ra2 D.length rc2) := e2
              have hcd : (World.drew _).cell? (x.add k) = some (.slice pa l.length pc) := hcx
              clear ho hc hrd hle htk hlk hkd
              go_wp2_with fail
              go_region_law (first | (refine step_wantedR rfl ?_; go_simp; go_at_call 48; refine HTW.out.mono ?_; rintro e w3 ⟨tv, rfl, ho3, hk3⟩; obtain ⟨a4, c4, w4, hrun, g0, g1, g2, hfin⟩ := HPU.out _ _ ho3 hk3; obtain ⟨ta, tc, rfl, _, _⟩ := ho3.bytes.form; rw [HTK.out] at hfin; have HFIN := Lib.hid hfin; have HRUN := Lib.hid hrun; have g3 := (World.cell?_alloc_lt w3 (.cells #[.slice ta l.length tc] 36) ⟨j, 2, none⟩ (World.block_lt_of_cell? w3 _ g0)).trans g0; clear hfin hrun) | (refine step_append_run rfl _ _ _ _ rfl rfl rfl HRUN.out ?_) | fail)
              all_goals
                have HREL := Lib.hid (⟨k + 1, _, by omega, rfl, HFIN.out⟩ : ∃ (k' : Nat) (va : Value), k' ≤ ll.length ∧ Value.int .i64 ((k + 1 : Nat) : Int) = .int .i64 (k' : Int) ∧ Own w _ (rRef w.heap.size r qm :: rObj w.heap.size j (rjObj r nm va) :: rRows w.heap.size va (ll.take k') :: rs))
                clear g0 g1 g2 g3 hk3 ho3 HPU HTW HRUN HFIN
                go_wp2_with fail
                go_roundw
                case rel => exact HREL.out
                case measure => simp [intOf]; omega
            · obtain rfl : k = ll.length := by omega
              rw [List.take_length] at ho
              have HO3 := Lib.hid ho
              clear ho hlt
              go_wp2_with fail
              go_ret
              rw [HE.out]
              exact ⟨rfl, _, HO3.out⟩
        · rw [if_neg hq] at he
          have HE := Lib.hid he
          have hne : (qc == 0) = false := by simpa using hq
          clear he hq hst h2
          go_wp2_with fail
          go_ret
          rw [HE.out]
          exact ⟨rfl, _, H2.out⟩
theorem rrewrite_calls {w w0 : World} {r j : Nat} {m : DM} {nm : ByteArray} {vr : Value} {recs : List (List UInt8)} {rs : List (Res w.heap.size)} (h : Own w w0 (rRef w.heap.size r m :: rObj w.heap.size j (rjObj r nm vr) :: rRows w.heap.size vr recs :: rs)) {n t : Nat} (ht : Tidy m n t) (hnm : nm.size ≤ 65536) {v : Value} {ll : List (List UInt8)} (hr : RowsIn w v ll)
    (hn : n + (framesOf ll).length + 8 < 549755813888) (htt : t + (framesOf ll).length + 8 < 549755813888) {R : Int × DM × List (List UInt8)} (hlong : tooLong ll → R = (8, m, recs)) (hfit : ¬ tooLong ll → R = if (layOf m nm (framesOf ll)).1 = 0 then (0, (layOf m nm (framesOf ll)).2, ll) else ((layOf m nm (framesOf ll)).1, (layOf m nm (framesOf ll)).2, recs)) :
    Calls Tryz.prog 88 #[.pointer (some ⟨j, 0, none⟩), v] w0 (RJPost w r j nm rs R) :=
  rrewrite_callsO h ht hnm (fun wr l h => hr.keep h.keeps) hn htt hlong hfit
end Go.Proofs.YtaeabdghlkdkjaaGreat
