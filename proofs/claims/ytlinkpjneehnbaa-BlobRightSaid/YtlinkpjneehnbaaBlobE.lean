/- The store of bytes: Put. -/
import Derived.Test.YtlinkpjneehnbaaBlobD
namespace Go.Proofs.Ytlinkpjneehnbaa
set_option linter.unusedVariables false
set_option linter.unusedSimpArgs false
open Go.RowKit Go.MapKept

def zeroC : Array Value := (zero32.map u8v).toArray
theorem zeroC_rep : zeroC = Array.replicate 32 (.int .u8 0) := by kernel_rfl
theorem zeroC_built : Try.prog.built 58 [] = some zeroC := by kernel_rfl
theorem zeroC_size : zeroC.size = 32 := by kernel_rfl
theorem dig_info {ds : Array Value} (h : ds.size = 32) : (Try.prog.info? 58).map (·.size) = some ds.size := by rw [h]; kernel_rfl
section
variable {w wr : World} {d st : Nat} {m : DM} {rs : List (Res w.heap.size)}
def BPutPost (w : World) (d : Nat) (rs : List (Res w.heap.size)) (r : List UInt8 × Int × DM) (e : Ending) (w' : World) : Prop :=
  e = .returned (.tuple #[.agg (r.1.map u8v).toArray, .int .i64 r.2.1]) ∧ Own w w' (rDisk w.heap.size d r.2.2 :: rs)
theorem own_row {b : Nat} {o : Array Value} {r : Res w.heap.size} (h : Own w wr (r :: rObj w.heap.size b (.cells o 58) :: rs)) (cs : Array Value) : Own w (wr.setRow b cs) (r :: rObj w.heap.size b (.cells cs 58) :: rs) := (h.swap.setRow cs).swap
set_option maxRecDepth 100000 in
set_option maxHeartbeats 1000000 in
theorem bput_calls (h : Own w wr (rDisk w.heap.size d m :: rs)) (hst : rObj w.heap.size st (.cells #[.pointer (some ⟨d, 0, none⟩)] 146) ∈ rs) {n : Nat} (hg : Good m n) (hn : n + 10 < 1099511627776) {pv : Value} {p : List UInt8}
    (hp : ∀ W m', Own w W (rDisk w.heap.size d m' :: rs) → Reads W pv p) (hlen : p.length < 70368744177664) :
    Calls Try.prog 43 #[.pointer (some ⟨st, 0, none⟩), pv] wr (BPutPost w d rs (bPutOf m p)) := by
  obtain ⟨a, c, rfl, _, _⟩ := (hp wr m h).form
  obtain ⟨pl, hpl⟩ : ∃ pl, pl = p.length := ⟨_, rfl⟩
  have h1 := h.alloc2 (.cells zeroC 58)
  have hz0 := h1.at (b := wr.heap.size) (o := .cells zeroC 58) (by simp)
  obtain ⟨R, hR⟩ : ∃ R, R = bPutOf m p := ⟨_, rfl⟩
  rw [← hR]
  unfold bPutOf at hR
  by_cases hbig : 1048576 < p.length
  · rw [if_pos hbig] at hR
    have hb : decide ((1048576 : Int) < (pl : Int)) = true := by rw [hpl]; exact decide_eq_true (by omega)
    have hfin : Own w ((wr.alloc (.cells zeroC 58)).setRow wr.heap.size zeroC) (rDisk w.heap.size d m :: rs) := (own_row h1 zeroC).drop2
    have hrow := setRow_heap (wr.alloc (.cells zeroC 58)) wr.heap.size zeroC zeroC 58 _ hz0.1
    have HF := Lib.hid hfin
    have HW := Lib.hid hrow
    have HZ := Lib.hid hz0.1
    have HR := Lib.hid hR
    rw [← hpl]
    clear h h1 hst hg hn hp hlen hz0 hR hbig hpl hfin hrow
    go_enter Try.func43, Try.ntmps43
    go_wp2_with (first | (refine wpList_build_as rfl 58 _ rfl zeroC zeroC_built ?_) | (refine wpList_store_row rfl 58 _ _ rfl wr.heap.size zeroC rfl rfl 58 _ HZ.out (dig_info zeroC_size) rfl (by kernel_rfl) ?_))
    refine bodyPost_ret (res_dig2 Try.results43 _ _ wr.heap.size zeroC zeroC_size rfl HW.out) rfl ?_
    rw [HR.out]
    exact ⟨rfl, HF.out⟩
  · rw [if_neg hbig] at hR
    have hb : decide ((1048576 : Int) < (pl : Int)) = false := by rw [hpl]; exact decide_eq_false (by omega)
    obtain ⟨D, hD⟩ : ∃ D, D = sumOf p := ⟨_, rfl⟩
    have hDl : D.length = 32 := by rw [hD]; exact sumOf_length p
    obtain ⟨ds, hds⟩ : ∃ ds : Array Value, ds = (D.map u8v).toArray := ⟨_, rfl⟩
    have hdz : ds.size = 32 := by rw [hds]; simp [hDl]
    have hone : ds.all (·.oneCell') = true := by rw [hds]; exact bytes_one _
    rw [← hD] at hR
    have hsum := sum_calls (hp _ m h1.drop2) hlen
    rw [← hD, ← hds, ← hpl] at hsum
    have HSUM := Lib.hid hsum
    have H1 := Lib.hid h1
    have HR := Lib.hid hR
    have HI := Lib.hid (dig_info hdz)
    have HONE := Lib.hid hone
    have HDZ := Lib.hid hdz
    have HDS := Lib.hid hds
    have HDL := Lib.hid hDl
    have HD := Lib.hid hD
    have HPL := Lib.hid hpl
    have HG := Lib.hid hg
    have HN := Lib.hid hn
    have HP := Lib.hid hp
    have HST := Lib.hid hst
    rw [← hpl]
    clear h h1 hst hg hn hp hlen hz0 hR hbig hsum hds hdz hone hDl hD hpl
    go_enter Try.func43, Try.ntmps43
    go_wp2_with fail
    change Calls _ _ _ (wr.alloc (.cells zeroC 58)) _
    refine HSUM.out.mono ?_
    rintro e w2 ⟨rfl, hk2⟩
    have h2 := (H1.out.quiet hk2).alloc2 (.cells ds 58)
    have H2 := Lib.hid h2
    have hrb2 := (h2.at (b := wr.heap.size) (o := .cells zeroC 58) (by simp)).1
    clear HSUM H1 hk2 h2
    go_wp2_with (first | (refine wpList_store_row rfl 58 _ _ rfl w2.heap.size ds rfl rfl 58 _ (heap_alloc_new w2 _) HI.out (by rw [HDZ.out]; kernel_rfl) HONE.out ?_; rw [World.setRow_alloc_new]) | (refine wpList_load_row rfl 58 _ rfl w2.heap.size rfl 58 ds (0, 0) _ (heap_alloc_new w2 _) Try.underlying58 rfl HI.out ?_))
    have hsz := bsize_calls H2.out (st := st) (by simp [HST.out]) HDL.out
    rw [← HDS.out] at hsz
    have HSZ := Lib.hid hsz
    clear hsz hrb2
    refine HSZ.out.mono ?_
    rintro e w4 ⟨rfl, hk4⟩
    have h4 := H2.out.quiet hk4
    have hlay := blay_calls h4 HG.out HN.out (st := st) (by simp [HST.out]) HDL.out (pv := .slice a p.length c) (p := p) (fun W m' ho => HP.out W m' ho.drop2.drop2)
    rw [← HDS.out, ← HPL.out] at hlay
    have HLAY := Lib.hid hlay
    have H4 := Lib.hid h4
    generalize sizeCode m (fileOf D) = sc
    generalize thereOf m (fileOf D) = t at HR ⊢
    generalize bLayOf m D p = q at HR HLAY
    obtain ⟨qc, qm⟩ := q
    clear hlay h4 hk4 HSZ H2 hb
    by_cases h6 : t = 6
    · subst h6
      have hr := HR.out
      have hr2 : R = bPutRes D (qc, qm) := hr
      have HQ2 := Lib.hid hr2
      clear hr2 HR
      have hd4 := (H4.out.at (b := w2.heap.size) (o := .cells ds 58) (by simp)).1
      have HD4 := Lib.hid hd4
      clear hr hd4
      go_wp2_with (first | (refine wpList_load_row rfl 58 _ rfl w2.heap.size rfl 58 ds (0, 0) _ HD4.out Try.underlying58 rfl HI.out ?_))
      refine HLAY.out.mono ?_
      rintro e w5 ⟨rfl, h5⟩
      have H5 := Lib.hid h5
      clear h5 HLAY H4 HD4
      have hdb := (H5.out.at (b := w2.heap.size) (o := .cells ds 58) (by simp)).1
      have hrb := (H5.out.at (b := wr.heap.size) (o := .cells zeroC 58) (by simp)).1
      have HDB := Lib.hid hdb
      have HRB := Lib.hid hrb
      clear hdb hrb
      by_cases hc0 : qc = 0
      · subst hc0
        have hfin := ((H5.out.third.setRow ds).drop.drop2)
        have hrow := setRow_heap w5 wr.heap.size zeroC ds 58 _ HRB.out
        have HF := Lib.hid hfin
        have HW := Lib.hid hrow
        clear hfin hrow
        go_wp2_with (first | (refine wpList_load_row rfl 58 _ rfl w2.heap.size rfl 58 ds (0, 0) _ HDB.out Try.underlying58 rfl HI.out ?_) | (refine wpList_store_row rfl 58 _ _ rfl wr.heap.size ds rfl rfl 58 _ HRB.out HI.out (by rw [HDZ.out]; kernel_rfl) HONE.out ?_))
        refine bodyPost_ret (res_dig2 Try.results43 _ _ wr.heap.size ds HDZ.out rfl HW.out) rfl ?_
        rw [HQ2.out]
        exact ⟨by rw [HDS.out]; rfl, HF.out⟩
      · have hb0 : (qc != 0) = true := by simpa using hc0
        have HC0 := Lib.hid hc0
        have hfin := ((H5.out.third.setRow zeroC).drop.drop2)
        have hrow := setRow_heap w5 wr.heap.size zeroC zeroC 58 _ HRB.out
        have HF := Lib.hid hfin
        have HW := Lib.hid hrow
        clear hfin hrow hc0
        go_wp2_with (first | (refine wpList_build_as rfl 58 _ rfl zeroC zeroC_built ?_) | (refine wpList_store_row rfl 58 _ _ rfl wr.heap.size zeroC rfl rfl 58 _ HRB.out (dig_info zeroC_size) rfl (by kernel_rfl) ?_))
        refine bodyPost_ret (res_dig2 Try.results43 _ _ wr.heap.size zeroC zeroC_size rfl HW.out) rfl ?_
        rw [HQ2.out, bPutRes, if_neg HC0.out]
        exact ⟨rfl, HF.out⟩
    · have hr := HR.out
      simp only [h6, if_false] at hr
      have HR := Lib.hid hr
      have hb6 : (t == 6) = false := by simpa using h6
      clear hr h6 HLAY
      have hdb := (H4.out.at (b := w2.heap.size) (o := .cells ds 58) (by simp)).1
      have hrb := (H4.out.at (b := wr.heap.size) (o := .cells zeroC 58) (by simp)).1
      have HDB := Lib.hid hdb
      have HRB := Lib.hid hrb
      clear hdb hrb
      by_cases hc0 : t = 0
      · subst hc0
        have hfin := ((H4.out.third.setRow ds).drop.drop2)
        have hrow := setRow_heap w4 wr.heap.size zeroC ds 58 _ HRB.out
        have HF := Lib.hid hfin
        have HW := Lib.hid hrow
        clear hfin hrow
        go_wp2_with (first | (refine wpList_load_row rfl 58 _ rfl w2.heap.size rfl 58 ds (0, 0) _ HDB.out Try.underlying58 rfl HI.out ?_) | (refine wpList_store_row rfl 58 _ _ rfl wr.heap.size ds rfl rfl 58 _ HRB.out HI.out (by rw [HDZ.out]; kernel_rfl) HONE.out ?_))
        refine bodyPost_ret (res_dig2 Try.results43 _ _ wr.heap.size ds HDZ.out rfl HW.out) rfl ?_
        rw [HR.out]
        exact ⟨by rw [HDS.out]; rfl, HF.out⟩
      · have hb0 : (t != 0) = true := by simpa using hc0
        have HC0 := Lib.hid hc0
        have hfin := ((H4.out.third.setRow zeroC).drop.drop2)
        have hrow := setRow_heap w4 wr.heap.size zeroC zeroC 58 _ HRB.out
        have HF := Lib.hid hfin
        have HW := Lib.hid hrow
        clear hfin hrow hc0
        go_wp2_with (first | (refine wpList_build_as rfl 58 _ rfl zeroC zeroC_built ?_) | (refine wpList_store_row rfl 58 _ _ rfl wr.heap.size zeroC rfl rfl 58 _ HRB.out (dig_info zeroC_size) rfl (by kernel_rfl) ?_))
        refine bodyPost_ret (res_dig2 Try.results43 _ _ wr.heap.size zeroC zeroC_size rfl HW.out) rfl ?_
        rw [HR.out, bPutRes, if_neg HC0.out]
        exact ⟨rfl, HF.out⟩
end
end Go.Proofs.Ytlinkpjneehnbaa
