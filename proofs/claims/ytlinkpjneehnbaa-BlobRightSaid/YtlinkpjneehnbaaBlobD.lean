/- The store of bytes: New, Put. -/
import Derived.Test.YtlinkpjneehnbaaBlobC
namespace Go.Proofs.Ytlinkpjneehnbaa
set_option linter.unusedVariables false
set_option linter.unusedSimpArgs false
open Go.RowKit Go.MapKept

def zero32 : List UInt8 := List.replicate 32 0
/-- blob.New: a code, the disk. -/
def bNewOf (m : DM) : Int × DM :=
  if thereOf m tmpB = 6 then (0, m)
  else if thereOf m tmpB = 0 then (if (removeOf m tmpB).1 = 0 then syncOf (removeOf m tmpB).2 else removeOf m tmpB) else (thereOf m tmpB, m)
/-- Put: a sum, a code, the disk. -/
def bPutRes (D : List UInt8) (r : Int × DM) : List UInt8 × Int × DM := if r.1 = 0 then (D, 0, r.2) else (zero32, r.1, r.2)
def bPutOf (m : DM) (p : List UInt8) : List UInt8 × Int × DM :=
  if 1048576 < p.length then (zero32, 8, m) else bPutRes (sumOf p) (if thereOf m (fileOf (sumOf p)) = 6 then bLayOf m (sumOf p) p else (thereOf m (fileOf (sumOf p)), m))
theorem res_dig2 {fn : Func} {p u : Tmp} (h : fn.results = #[.cell p 58, .tmp u]) (tmps : Array Value) (w : World) (g : Nat) (ds : Array Value) (hdz : ds.size = 32) (hp : tmps.getD p undef = .pointer (some ⟨g, 0, none⟩)) (hc : w.heap[g]? = some (.cells ds 58 (0, 0))) :
    (results fn tmps).run Try.prog w = .ok (.tuple #[.agg ds, tmps.getD u undef]) w := by
  rw [results_cell_tmp h, hp]
  simp only [asAddr, Sem.run_pure, Result.andThen_ok, run_loadVar_row w g 58 58 ds (0, 0) _ hc Try.underlying58 rfl (by rw [hdz]; kernel_rfl)]
section
variable {w wr : World} {d st : Nat} {m : DM} {rs : List (Res w.heap.size)}
/-- What New hands back: a store of the disk, or none. -/
def BNewPost (w : World) (d : Nat) (rs : List (Res w.heap.size)) (r : Int × DM) (e : Ending) (w' : World) : Prop :=
  (¬ r.1 = 0 ∧ e = .returned (.tuple #[.pointer none, .int .i64 r.1]) ∧ Own w w' (rDisk w.heap.size d r.2 :: rs)) ∨
  (r.1 = 0 ∧ ∃ st, e = .returned (.tuple #[.pointer (some ⟨st, 0, none⟩), .int .i64 0]) ∧ Own w w' (rDisk w.heap.size d r.2 :: rObj w.heap.size st (.cells #[.pointer (some ⟨d, 0, none⟩)] 146) :: rs))
theorem BNewPost.ok {r : Int × DM} (hr : r.1 = 0) (h : Own w wr (rDisk w.heap.size d r.2 :: rs)) : BNewPost w d rs r (.returned (.tuple #[.pointer (some ⟨wr.heap.size, 0, none⟩), .int .i64 0])) (wr.alloc (.cells #[.pointer (some ⟨d, 0, none⟩)] 146)) :=
  .inr ⟨hr, _, rfl, h.alloc2 _⟩
set_option maxRecDepth 100000 in
set_option maxHeartbeats 1000000 in
theorem bnew_calls (h : Own w wr (rDisk w.heap.size d m :: rs)) {n : Nat} (hg : Good m n) (hn : n < 1099511627776) :
    Calls Try.prog 41 #[.pointer (some ⟨d, 0, none⟩)] wr (BNewPost w d rs (bNewOf m)) := by
  have hs := h.size tmpB
  obtain ⟨w1, hr, h1⟩ := h.remove tmpB hg.fuse (hg.loose hn)
  have hg1 := hg.remove tmpB
  have hbn : ∃ r, r = bNewOf m := ⟨_, rfl⟩
  obtain ⟨r, hrr⟩ := hbn
  rw [← hrr]
  unfold bNewOf at hrr
  generalize sizeCode m tmpB = sc at hs
  generalize removeOf m tmpB = q at hr h1 hg1 hrr
  obtain ⟨qc, qm⟩ := q
  simp only at hr h1 hg1 hrr
  have hsy := h1.sync hg1.fuse hg1.fits1
  generalize thereOf m tmpB = t at hs hrr
  unfold tmpB at hs hr
  have H := Lib.hid h
  have H1 := Lib.hid h1
  have HSY := Lib.hid hsy
  by_cases h6 : t = 6
  · subst h6
    simp only [if_true] at hrr
    have HE := Lib.hid hrr
    clear h h1 hg hg1 hsy hrr hr H1 HSY hn
    go_enter Try.func41, Try.ntmps41
    go_wp2_with fail
    refine hs.out.mono ?_; rintro e w' ⟨rfl, rfl⟩
    go_wp2_with fail
    go_ret2
    rw [HE.out]
    exact BNewPost.ok rfl H.out
  · simp only [h6, if_false] at hrr
    have hb6 : (t != 6) = true := by simpa using h6
    by_cases h0 : t = 0
    · subst h0
      simp only [if_true] at hrr
      by_cases hq : qc = 0
      · subst hq
        simp only [if_true] at hrr
        have HE := Lib.hid hrr
        generalize syncOf qm = s at HSY HE
        obtain ⟨sc', sm⟩ := s
        clear h h1 hg hg1 hsy hrr hn h6
        go_enter Try.func41, Try.ntmps41
        go_wp2_with fail
        refine hs.out.mono ?_; rintro e w' ⟨rfl, rfl⟩
        go_wp2_with fail
        refine hr.out.mono ?_; rintro e w' ⟨rfl, rfl⟩
        go_wp2_with fail
        refine HSY.out.mono ?_; rintro e w' ⟨rfl, h2⟩
        have H2 := Lib.hid h2
        clear h2 HSY H1 H hs hr
        by_cases hs0 : sc' = 0
        · subst hs0
          go_wp2_with fail
          go_ret2
          rw [HE.out]
          exact BNewPost.ok rfl H2.out
        · have hb0 : (sc' != 0) = true := by simpa using hs0
          have HS0 := Lib.hid hs0
          clear hs0
          go_wp2_with fail
          go_ret2
          rw [HE.out]
          exact .inl ⟨HS0.out, rfl, H2.out⟩
      · simp only [hq, if_false] at hrr
        have HE := Lib.hid hrr
        have hbq : (qc != 0) = true := by simpa using hq
        have hbq2 : (qc == 0) = false := by simpa using hq
        have HQ := Lib.hid hq
        clear h h1 hg hg1 hsy hrr hn h6 HSY hq
        go_enter Try.func41, Try.ntmps41
        go_wp2_with fail
        refine hs.out.mono ?_; rintro e w' ⟨rfl, rfl⟩
        go_wp2_with fail
        refine hr.out.mono ?_; rintro e w' ⟨rfl, rfl⟩
        go_wp2_with fail
        go_ret2
        rw [HE.out]
        exact .inl ⟨HQ.out, rfl, H1.out⟩
    · simp only [h0, if_false] at hrr
      have HE := Lib.hid hrr
      have hbq : (t != 0) = true := by simpa using h0
      have hbq2 : (t == 0) = false := by simpa using h0
      have HQ := Lib.hid h0
      clear h h1 hg hg1 hsy hrr hn h6 HSY h0 hr H1
      go_enter Try.func41, Try.ntmps41
      go_wp2_with fail
      refine hs.out.mono ?_; rintro e w' ⟨rfl, rfl⟩
      go_wp2_with fail
      go_ret2
      rw [HE.out]
      exact .inl ⟨HQ.out, rfl, H.out⟩
end
end Go.Proofs.Ytlinkpjneehnbaa
