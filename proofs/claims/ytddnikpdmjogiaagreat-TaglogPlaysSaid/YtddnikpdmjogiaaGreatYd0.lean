/- A part of the proof. -/
import Derived.Test.YtddnikpdmjogiaaGreatYc8
import Derived.Test.YtddnikpdmjogiaaGreatYc9
import Derived.Deep.DeepCutAuto
import Derived.Deep.CutBlock
namespace Go.Proofs.YtddnikpdmjogiaaGreat
set_option linter.unusedVariables false
open Go.RowKit Go.MapKept
set_option maxRecDepth 100000 in
set_option maxHeartbeats 2000000 in
theorem r2K_runs (w : World) : Runs 171 #[] w (.agg kCells) (w.alloc (.cells kCells 225)) := by
 unfold Runs
 go_enter Tryz.func171, Tryz.ntmps171
 go_wp2_with (first | (refine wpList_build_as rfl 225 _ rfl kCells (by kernel_rfl) ?_) | (refine wpList_store_row rfl 225 (.tmp 0) (.tmp 1) rfl w.heap.size kCells rfl rfl 225 _ (heap_alloc_new w _) (by kernel_rfl) (by kernel_rfl) (by kernel_rfl) ?_))
 rw [World.setRow_alloc_new]
 refine bodyPost_ret (results_cell_row Tryz.results171 _ _ w.heap.size 225 kCells (0, 0) _ rfl (heap_alloc_new w _) Tryz.underlying225 rfl (by kernel_rfl)) rfl ?_
 exact ⟨rfl, rfl⟩
def hCells : Array Value := (hWords.map u32v).toArray
set_option maxRecDepth 100000 in
set_option maxHeartbeats 2000000 in
theorem r2Begin_runs (w : World) : Runs 158 #[] w (.agg hCells) (w.alloc (.cells hCells 212)) := by
 unfold Runs
 go_enter Tryz.func158, Tryz.ntmps158
 go_wp2_with (first | (refine wpList_build_as rfl 212 _ rfl hCells (by kernel_rfl) ?_) | (refine wpList_store_row rfl 212 (.tmp 0) (.tmp 1) rfl w.heap.size hCells rfl rfl 212 _ (heap_alloc_new w _) (by kernel_rfl) (by kernel_rfl) (by kernel_rfl) ?_))
 rw [World.setRow_alloc_new]
 refine bodyPost_ret (results_cell_row Tryz.results158 _ _ w.heap.size 212 hCells (0, 0) _ rfl (heap_alloc_new w _) Tryz.underlying212 rfl (by kernel_rfl)) rfl ?_
 exact ⟨rfl, rfl⟩
set_option maxRecDepth 100000 in
set_option maxHeartbeats 4000000 in
theorem rblock_walk (w : World) (x : Addr) (p : List UInt8) (pc : Nat) (hpl : p.length = 64) (hp : ∀ i c, p[i]? = some c → w.cell? (x.add i) = some (u8v c))
  {h0 h1 h2 h3 h4 h5 h6 h7 : Int} (hw : ∀ y ∈ [h0, h1, h2, h3, h4, h5, h6, h7], (0 : Int) ≤ y ∧ y < 4294967296) : Calls Tryz.prog 157 #[.agg (([h0, h1, h2, h3, h4, h5, h6, h7].map u32v).toArray), .slice (some x) 64 pc] w
   (QuietP w (.agg ((blockV kWords [h0, h1, h2, h3, h4, h5, h6, h7] p).map u32v).toArray)) := by
 have HP := hyd hp
 have HPL := hyd hpl
 have HW := hyd hw
 clear hp hpl hw
 obtain ⟨hc, hhc⟩ : ∃ hc : Array Value, hc = ([h0, h1, h2, h3, h4, h5, h6, h7].map u32v).toArray := ⟨_, rfl⟩
 rw [← hhc]
 have HHC := hyd hhc
 have HK := hyd r2K_runs
 have HKO := hyd (show kCells.all (·.oneCell') = true by kernel_rfl)
 clear hhc
 go_enter Tryz.func157, Tryz.ntmps157
 go_wp2_with fail
 have o2 := ((Own.start w).alloc (.cells hc 212)).alloc (.cells #[.int .u32 0, .int .u32 0, .int .u32 0, .int .u32 0, .int .u32 0, .int .u32 0, .int .u32 0, .int .u32 0] 212)
 rw [World.size_alloc] at o2
 have HRB := hyd (heap_alloc_new (w.alloc (.cells hc 212)) (.cells #[.int .u32 0, .int .u32 0, .int .u32 0, .int .u32 0, .int .u32 0, .int .u32 0, .int .u32 0, .int .u32 0] 212))
 have H2 := hyd o2
 clear o2
 generalize (w.alloc (.cells hc 212)).alloc (.cells #[.int .u32 0, .int .u32 0, .int .u32 0, .int .u32 0, .int .u32 0, .int .u32 0, .int .u32 0, .int .u32 0] 212) = w2 at *
 refine (HK.out w2).out.mono ?_; rintro e w' ⟨rfl, rfl⟩
 have H3 := hyd (H2.out.quiet ((Keeps.refl _ w2).alloc (.cells kCells 225)))
 clear HK H2 HRB
 generalize w2.alloc (.cells kCells 225) = w3 at *
 go_upto_region 2 with (refine wpList_store_row rfl 225 _ _ rfl w3.heap.size kCells rfl rfl 225 _ (heap_alloc_new w3 _) (by kernel_rfl) (by kernel_rfl) HKO.out ?_; rw [World.setRow_alloc_new])
 have o4 := H3.out.alloc (.cells kCells 225)
 have o4s : Own w (w3.alloc (.cells kCells 225)) [rObj w.heap.size w3.heap.size (arrObj kWords 225), rObj w.heap.size (w.heap.size + 1) (.cells #[.int .u32 0, .int .u32 0, .int .u32 0, .int .u32 0, .int .u32 0, .int .u32 0, .int .u32 0, .int .u32 0] 212), rObj w.heap.size w.heap.size (arrObj [h0, h1, h2, h3, h4, h5, h6, h7] 212)] := by
  rw [HHC.out, kCells_eq] at o4
  exact o4
 have H4 := hyd o4s
 clear o4 o4s H3 HKO
 generalize w3.alloc (.cells kCells 225) = w4 at *
 generalize w3.heap.size = kb at *
 have o5 := H4.out.alloc (arrObj (List.replicate 64 0) 225)
 have H5 := hyd (show Own w (w4.alloc (arrObj (List.replicate 64 0) 225)) [rObj w.heap.size w4.heap.size (arrObj (schedD p 0) 225), rObj w.heap.size kb (arrObj kWords 225), rObj w.heap.size (w.heap.size + 1) (.cells #[.int .u32 0, .int .u32 0, .int .u32 0, .int .u32 0, .int .u32 0, .int .u32 0, .int .u32 0, .int .u32 0] 212), rObj w.heap.size w.heap.size (arrObj [h0, h1, h2, h3, h4, h5, h6, h7] 212)] from o5)
 clear o5 H4
 go_upto_region 3 with fail
 change Code.wp _ _ _ _ (w4.alloc (arrObj (List.replicate 64 0) 225))
 generalize w4.alloc (arrObj (List.replicate 64 0) 225) = w5 at *
 generalize w4.heap.size = wb at *
 go_wp2_with fail
 go_loopw [7] (fun i wx => ∃ j : Nat, i = .int .i64 (j : Int) ∧ j ≤ 64 ∧ Own w wx [rObj w.heap.size wb (arrObj (schedD p j) 225), rObj w.heap.size kb (arrObj kWords 225), rObj w.heap.size (w.heap.size + 1) (.cells #[.int .u32 0, .int .u32 0, .int .u32 0, .int .u32 0, .int .u32 0, .int .u32 0, .int .u32 0, .int .u32 0] 212), rObj w.heap.size w.heap.size (arrObj [h0, h1, h2, h3, h4, h5, h6, h7] 212)]) (fun i _ => 64 - (intOf i).toNat)
 case atStart => exact ⟨0, rfl, by omega, H5.out⟩
 case round =>
  obtain ⟨j, rfl, hj, hown⟩ := hrel
  clear H5
  have j0 : (0 : Int) ≤ j := by omega
  by_cases hlt : j < 64
  ·have j1 : (j : Int) < 64 := by omega
   obtain ⟨L, hLe⟩ : ∃ L, L = schedD p j := ⟨_, rfl⟩
   have hL : L.length = 64 := by rw [hLe]; exact schedD_length p j
   by_cases h16 : j < 16
   ·have j2 : (j : Int) < 16 := by omega
    have hpl := HPL.out
    have hnext : schedD p (j + 1) = L.set j (wordAt p j) := by rw [hLe]; exact schedD_low h16
    rw [← hLe] at hown
    obtain ⟨q, hq⟩ : ∃ q, q = 4 * j := ⟨_, rfl⟩
    obtain ⟨q1, hq1⟩ : ∃ x, x = q + 1 := ⟨_, rfl⟩
    obtain ⟨q2, hq2⟩ : ∃ x, x = q + 2 := ⟨_, rfl⟩
    obtain ⟨q3, hq3⟩ : ∃ x, x = q + 3 := ⟨_, rfl⟩
    have w4 : IntKind.i64.wrap (4 * (j : Int)) = (q : Int) := by rw [IntKind.wrap_i64]; omega
    have w5 : IntKind.i64.wrap ((q : Int) + 1) = (q1 : Int) := by rw [IntKind.wrap_i64]; omega
    have w6 : IntKind.i64.wrap ((q : Int) + 2) = (q2 : Int) := by rw [IntKind.wrap_i64]; omega
    have w7 : IntKind.i64.wrap ((q : Int) + 3) = (q3 : Int) := by rw [IntKind.wrap_i64]; omega
    obtain ⟨b0, hb0⟩ : ∃ b, p[q]? = some b := ⟨_, List.getElem?_eq_getElem (by omega)⟩
    obtain ⟨b1, hb1⟩ : ∃ b, p[q1]? = some b := ⟨_, List.getElem?_eq_getElem (by omega)⟩
    obtain ⟨b2, hb2⟩ : ∃ b, p[q2]? = some b := ⟨_, List.getElem?_eq_getElem (by omega)⟩
    obtain ⟨b3, hb3⟩ : ∃ b, p[q3]? = some b := ⟨_, List.getElem?_eq_getElem (by omega)⟩
    have hk := hown.keeps
    have c0 := (hk.at0 (HP.out _ _ hb0))
    have c1 := (hk.at0 (HP.out _ _ hb1))
    have c2 := (hk.at0 (HP.out _ _ hb2))
    have c3 := (hk.at0 (HP.out _ _ hb3))
    unfold u8v at c0 c1 c2 c3
    have a0 : (0 : Int) ≤ q := by omega
    have a1 : (0 : Int) ≤ q1 := by omega
    have a2 : (0 : Int) ≤ q2 := by omega
    have a3 : (0 : Int) ≤ q3 := by omega
    have d0 : (q : Int) < 64 := by omega
    have d1 : (q1 : Int) < 64 := by omega
    have d2 : (q2 : Int) < 64 := by omega
    have d3 : (q3 : Int) < 64 := by omega
    have ca := (hown.at (b := wb) (o := arrObj L 225) (by simp)).1
    obtain ⟨lj, hlj⟩ : ∃ x, L[j]? = some x := ⟨_, List.getElem?_eq_getElem (by omega)⟩
    have cj := arr_cell ca hlj
    have fj := arr_free ca j
    have hst := fun x => (hown.storeArr j x).drew
    have hw4 := word4_eq hq hq1 hq2 hq3 hb0 hb1 hb2 hb3
    rw [← sumW_eq] at hw4
    unfold u32v at cj
    have HW4 := hyd hw4
    have HST := hyd hst
    have HLL := hyd hlt
    have HNX := hyd hnext
    clear hown hk hb0 hb1 hb2 hb3 hq hq1 hq2 hq3 hpl hlt hj hw4 hst hL ca hlj hLe hnext h16
    go_wp2_with fail
    go_still_tail 35, (by kernel_rfl)
    change wpList _ _ _ _ _ (World.drew _)
    clear w4 w5 w6 w7 a0 a1 a2 a3 d0 d1 d2 d3 c0 c1 c2 c3
    go_wp2_with fail
    go_roundw
    case rel => exact ⟨j + 1, rfl, HLL.out, by rw [HNX.out, ← HW4.out]; exact HST.out _⟩
    case measure => have := HLL.out; simp [intOf]; omega
   ·have j2 : ¬ (j : Int) < 16 := by omega
    have hnext := schedD_high (p := p) (j := j) (by omega)
    rw [← hLe] at hown hnext
    have ca := (hown.at (b := wb) (o := arrObj L 225) (by simp)).1
    obtain ⟨q0, hq0⟩ : ∃ x, x = j - 16 := ⟨_, rfl⟩
    obtain ⟨q1, hq1⟩ : ∃ x, x = j - 15 := ⟨_, rfl⟩
    obtain ⟨q2, hq2⟩ : ∃ x, x = j - 2 := ⟨_, rfl⟩
    obtain ⟨q3, hq3⟩ : ∃ x, x = j - 7 := ⟨_, rfl⟩
    have w5 : IntKind.i64.wrap ((j : Int) - 15) = (q1 : Int) := by rw [IntKind.wrap_i64]; omega
    have w6 : IntKind.i64.wrap ((j : Int) - 2) = (q2 : Int) := by rw [IntKind.wrap_i64]; omega
    have w7 : IntKind.i64.wrap ((j : Int) - 7) = (q3 : Int) := by rw [IntKind.wrap_i64]; omega
    have w8 : IntKind.i64.wrap ((j : Int) - 16) = (q0 : Int) := by rw [IntKind.wrap_i64]; omega
    have c0 := arr_cell ca (wAt_eq (i := q0) (by omega))
    have c1 := arr_cell ca (wAt_eq (i := q1) (by omega))
    have c2 := arr_cell ca (wAt_eq (i := q2) (by omega))
    have c3 := arr_cell ca (wAt_eq (i := q3) (by omega))
    have c4 := arr_cell ca (wAt_eq (i := j) (by omega))
    have f4 := arr_free ca j
    unfold u32v at c0 c1 c2 c3 c4
    have a0 : (0 : Int) ≤ q0 := by omega
    have a1 : (0 : Int) ≤ q1 := by omega
    have a2 : (0 : Int) ≤ q2 := by omega
    have a3 : (0 : Int) ≤ q3 := by omega
    have d0 : (q0 : Int) < 64 := by omega
    have d1 : (q1 : Int) < 64 := by omega
    have d2 : (q2 : Int) < 64 := by omega
    have d3 : (q3 : Int) < 64 := by omega
    rw [← hq0, ← hq1, ← hq2, ← hq3] at hnext
    have HX := hyd hlt
    have HNX := hyd hnext
    have HO := hyd hown
    generalize wAt L q0 = v0 at c0 HNX
    generalize wAt L q1 = v1 at c1 HNX
    generalize wAt L q2 = v2 at c2 HNX
    generalize wAt L q3 = v3 at c3 HNX
    generalize wAt L j = v4 at c4
    clear hnext hq0 hq1 hq2 hq3 hlt hj hL hLe ca hown h16
    go_wp2_with fail
    go_still_tail 17, (by kernel_rfl)
    still_call (turn_still turnOk_all.1 _)
    repeat still_step
    still_call (turn_still turnOk_all.2.1 _)
    repeat still_step
    refine wpStill_nil ?_
    change wpList _ _ _ _ _ (World.drew _)
    obtain ⟨s8, hs8⟩ : ∃ s, s = bits .xor .u32 (bits .xor .u32 (rotV v1 7) (rotV v1 18)) (v1 / 8) := ⟨_, rfl⟩
    rw [← hs8]
    have HS8 := hyd hs8
    have HO2 := hyd HO.out.drew
    change wr.drew.cell? _ = _ at c0 c1 c2 c3 c4
    change wr.drew.frozen? _ = _ at f4
    clear hs8 HO
    generalize wr.drew = w3 at HO2 c0 c1 c2 c3 c4 f4 ⊢
    go_wp2_with fail
    go_still_tail 17, (by kernel_rfl)
    still_call (turn_still turnOk_all.2.2.1 _)
    repeat still_step
    still_call (turn_still turnOk_all.2.2.2.1 _)
    repeat still_step
    refine wpStill_nil ?_
    change wpList _ _ _ _ _ (World.drew _)
    obtain ⟨s9, hs9⟩ : ∃ s, s = bits .xor .u32 (bits .xor .u32 (rotV v2 17) (rotV v2 19)) (v2 / 1024) := ⟨_, rfl⟩
    rw [← hs9]
    have HS9 := hyd hs9
    have HO3 := hyd HO2.out.drew
    change w3.drew.cell? _ = _ at c0 c1 c2 c3 c4
    change w3.drew.frozen? _ = _ at f4
    clear hs9 HO2
    generalize w3.drew = w4 at HO3 c0 c1 c2 c3 c4 f4 ⊢
    go_wp2_with fail
    go_still_tail 15, (by kernel_rfl)
    change wpList _ _ _ _ _ (World.drew _)
    clear w5 w6 w7 w8 a0 a1 a2 a3 d0 d1 d2 d3 c0 c1 c2 c3
    go_wp2_with fail
    go_roundw
    case rel =>
     refine ⟨j + 1, rfl, HX.out, ?_⟩
     rw [HNX.out]
     rw [show mixW v0 v1 v3 v2 = (v0 + s8 + v3 + s9) % 4294967296 by rw [HS8.out, HS9.out]; rfl]
     exact (HO3.out.storeArr j _).drew
    case measure => have := HX.out; simp [intOf]; omega
  ·obtain rfl : j = 64 := by omega
   obtain ⟨W, hW⟩ : ∃ W, W = sched2 p 48 := ⟨_, rfl⟩
   have hWL : W.length = 64 := by rw [hW]; exact sched2_length p 48
   rw [schedD_end, ← hW] at hown
   have HWW := hyd hW
   have HWL := hyd hWL
   have HO := hyd hown
   have hV := (hown.at (b := w.heap.size) (o := arrObj [h0, h1, h2, h3, h4, h5, h6, h7] 212) (by simp)).1
   have c0 := arr_cell hV (i := 0) rfl
   have c1 := arr_cell hV (i := 1) rfl
   have c2 := arr_cell hV (i := 2) rfl
   have c3 := arr_cell hV (i := 3) rfl
   have c4 := arr_cell hV (i := 4) rfl
   have c5 := arr_cell hV (i := 5) rfl
   have c6 := arr_cell hV (i := 6) rfl
   have c7 := arr_cell hV (i := 7) rfl
   unfold u32v at c0 c1 c2 c3 c4 c5 c6 c7
   rw [show ((64 : Nat) : Int) = 64 from rfl]
   clear hown hV hlt hj hW hWL HP HPL
   go_wp2_with fail
   go_quiet (fail)
   have HO2 := hyd (HO.out.drewN nq)
   change (wr.drewN nq).cell? _ = _ at c0 c1 c2 c3 c4 c5 c6 c7
   clear HO
   generalize wr.drewN nq = w6 at HO2 c0 c1 c2 c3 c4 c5 c6 c7 ⊢
   go_wp2_with fail
   go_quiet (fail)
   have HO3 := hyd (HO2.out.drewN nq)
   clear HO2 c0 c1 c2 c3 c4 c5 c6 c7
   generalize w6.drewN nq = w7 at HO3 ⊢
   go_wp2_with fail
   have HNW := hyd HW.out
   go_loopw [10, 11, 12, 13, 14, 15, 16, 17, 18] (fun va vb vc vd ve vf vg vh i wx => ∃ (n : Nat) (a b c d e f g h : Int), va = .int .u32 a ∧ vb = .int .u32 b ∧ vc = .int .u32 c ∧ vd = .int .u32 d ∧ ve = .int .u32 e ∧ vf = .int .u32 f ∧ vg = .int .u32 g ∧ vh = .int .u32 h ∧ i = .int .i64 (n : Int) ∧ n ≤ 64 ∧ (∀ y ∈ [a, b, c, d, e, f, g, h], (0 : Int) ≤ y ∧ y < 4294967296) ∧ rndN kWords W [h0, h1, h2, h3, h4, h5, h6, h7] n = [a, b, c, d, e, f, g, h] ∧
    Own w wx [rObj w.heap.size wb (arrObj W 225), rObj w.heap.size kb (arrObj kWords 225), rObj w.heap.size (w.heap.size + 1) (.cells #[.int .u32 0, .int .u32 0, .int .u32 0, .int .u32 0, .int .u32 0, .int .u32 0, .int .u32 0, .int .u32 0] 212), rObj w.heap.size w.heap.size (arrObj [h0, h1, h2, h3, h4, h5, h6, h7] 212)]) (fun _ _ _ _ _ _ _ _ i _ => 64 - (intOf i).toNat)
   case atStart => exact ⟨0, _, _, _, _, _, _, _, _, rfl, rfl, rfl, rfl, rfl, rfl, rfl, rfl, rfl, by omega, HNW.out, rfl, HO3.out⟩
   case round =>
    obtain ⟨n, a, b, c, d, e, f, g, h, rfl, rfl, rfl, rfl, rfl, rfl, rfl, rfl, rfl, hn, hwd, hrn, hown⟩ := hrel
    clear HNW
    by_cases hlt : n < 64
    ·have hWw := (hown.at (b := wb) (o := arrObj W 225) (by simp)).1
     have hKw := (hown.at (b := kb) (o := arrObj kWords 225) (by simp)).1
     have ck := arr_cell hKw (wAt_eq (i := n) hlt)
     have cw := arr_cell hWw (wAt_eq (i := n) (by rw [HWL.out]; exact hlt))
     unfold u32v at ck cw
     have hnext : rndN kWords W [h0, h1, h2, h3, h4, h5, h6, h7] (n + 1) = rndStep (wAt kWords n) (wAt W n) [a, b, c, d, e, f, g, h] := by rw [← hrn]; rfl
     have hwd2 := rndStep_words (k := wAt kWords n) (w := wAt W n) hwd
     have j0 : (0 : Int) ≤ n := by omega
     have j1 : (n : Int) < 64 := by omega
     have hee := hwd e (by simp)
     have HAN := hyd (show bits .and .u32 (IntKind.u32.wrap (4294967295 - e)) g = bits .andNot .u32 g e by rw [IntKind.wrap_u32, Int.emod_eq_of_lt (by omega) (by omega)]; exact and_not hee.1 hee.2)
     have HNX := hyd hnext
     have HWD := hyd hwd2
     have HX := hyd hlt
     have HO := hyd hown
     generalize wAt kWords n = kn at ck HNX HWD
     generalize wAt W n = wn at cw HNX HWD
     clear hnext hlt hrn hn hown hWw hKw hwd hwd2 hee
     go_wp2_with fail
     go_still_tail 27, (by kernel_rfl)
     still_call (turn_still turnOk_all.2.2.2.2.1 _)
     repeat still_step
     still_call (turn_still turnOk_all.2.2.2.2.2.1 _)
     repeat still_step
     still_call (turn_still turnOk_all.2.2.2.2.2.2.1 _)
     repeat still_step
     refine wpStill_nil ?_
     change wpList _ _ _ _ _ (World.drew _)
     have HO2 := hyd HO.out.drew
     clear ck cw HO
     generalize wr.drew = w8 at HO2 ⊢
     go_wp2_with fail
     rw [HAN.out, ← rndX_def e f g h kn wn]
     obtain ⟨X, hX⟩ : ∃ X, X = rndX e f g h kn wn := ⟨_, rfl⟩
     rw [← hX]
     have HXX := hyd hX
     clear hX HAN
     refine (turn_still turnOk_all.2.2.2.2.2.2.2.1 _).mono ?_; rintro e1 w9 ⟨rfl, rfl⟩
     go_wp2_with fail
     refine (turn_still turnOk_all.2.2.2.2.2.2.2.2.1 _).mono ?_; rintro e1 w9 ⟨rfl, rfl⟩
     go_wp2_with fail
     refine (turn_still turnOk_all.2.2.2.2.2.2.2.2.2 _).mono ?_; rintro e1 w9 ⟨rfl, rfl⟩
     go_wp2_with fail
     go_roundw
     case rel =>
      refine ⟨n + 1, _, a, b, c, _, e, f, g, rfl, rfl, rfl, rfl, rfl, rfl, rfl, rfl, rfl, HX.out, ?_, ?_, HO2.out⟩
      ·rw [HXX.out]; exact HWD.out
      ·rw [HXX.out]; exact HNX.out
     case measure => have := HX.out; simp [intOf]; omega
    ·obtain rfl : n = 64 := by omega
     rw [show ((64 : Nat) : Int) = 64 from rfl]
     have hV := (hown.at (b := w.heap.size) (o := arrObj [h0, h1, h2, h3, h4, h5, h6, h7] 212) (by simp)).1
     have hR := (hown.at (b := w.heap.size + 1) (o := .cells #[.int .u32 0, .int .u32 0, .int .u32 0, .int .u32 0, .int .u32 0, .int .u32 0, .int .u32 0, .int .u32 0] 212) (by simp)).1
     have c0 := arr_cell hV (i := 0) rfl
     have c1 := arr_cell hV (i := 1) rfl
     have c2 := arr_cell hV (i := 2) rfl
     have c3 := arr_cell hV (i := 3) rfl
     have c4 := arr_cell hV (i := 4) rfl
     have c5 := arr_cell hV (i := 5) rfl
     have c6 := arr_cell hV (i := 6) rfl
     have c7 := arr_cell hV (i := 7) rfl
     unfold u32v at c0 c1 c2 c3 c4 c5 c6 c7
     have HR := hyd hR
     have HO := hyd hown.keeps
     have HB := hyd (show blockV kWords [h0, h1, h2, h3, h4, h5, h6, h7] p = [(h0 + a) % 4294967296, (h1 + b) % 4294967296, (h2 + c) % 4294967296, (h3 + d) % 4294967296, (h4 + e) % 4294967296, (h5 + f) % 4294967296, (h6 + g) % 4294967296, (h7 + h) % 4294967296] by
      unfold blockV; rw [← HWW.out, hrn]; rfl)
     obtain ⟨rc, hrc⟩ : ∃ rc : Array Value, rc = #[.int .u32 ((h0 + a) % 4294967296), .int .u32 ((h1 + b) % 4294967296), .int .u32 ((h2 + c) % 4294967296), .int .u32 ((h3 + d) % 4294967296), .int .u32 ((h4 + e) % 4294967296), .int .u32 ((h5 + f) % 4294967296), .int .u32 ((h6 + g) % 4294967296), .int .u32 ((h7 + h) % 4294967296)] := ⟨_, rfl⟩
     have HRC := hyd hrc
     clear hV hR hown hwd hrn hlt hn hrc
     have HI8 := hyd (show (Tryz.prog.info? 212).map (·.size) = some rc.size ∧ rc.size = 8 ∧ rc.all (·.oneCell') = true by rw [HRC.out]; exact ⟨by kernel_rfl, rfl, by simp [Value.oneCell']⟩)
     go_wp2_with (first | (refine wpList_build_as rfl 212 _ rfl #[.int .u32 ((h0 + a) % 4294967296), .int .u32 ((h1 + b) % 4294967296), .int .u32 ((h2 + c) % 4294967296), .int .u32 ((h3 + d) % 4294967296), .int .u32 ((h4 + e) % 4294967296), .int .u32 ((h5 + f) % 4294967296), .int .u32 ((h6 + g) % 4294967296), .int .u32 ((h7 + h) % 4294967296)] (by kernel_rfl) ?_; rw [← HRC.out]) | (refine wpList_store_row rfl 212 _ _ rfl (w.heap.size + 1) rc rfl rfl 212 _ HR.out HI8.out.1 HI8.out.2.1.symm HI8.out.2.2 ?_))
     have hh : (wr.setRow (w.heap.size + 1) rc).heap[w.heap.size + 1]? = some (.cells rc 212 (0, 0)) := setRow_heap wr (w.heap.size + 1) _ rc 212 _ HR.out
     refine bodyPost_ret (results_cell_row Tryz.results157 _ _ (w.heap.size + 1) 212 rc (0, 0) _ rfl hh Tryz.underlying212 rfl HI8.out.1) rfl ?_
     refine ⟨?_, ?_⟩
     ·rw [HB.out, HRC.out]; rfl
     ·exact HO.out.trans (keeps_setRow _ _ _) (fun b hb e => by omega)
theorem rblock_calls {w : World} {v : Value} {p : List UInt8} {H : List Int} (hH : H.length = 8) (hw : Words H) (hr : Reads w v p) (hpl : p.length = 64) :
  Calls Tryz.prog 157 #[.agg ((H.map u32v).toArray), v] w (QuietP w (.agg ((blockV kWords H p).map u32v).toArray)) := by
 rcases hr with ⟨_, rfl⟩ | ⟨x, c, rfl, k1, k2, k3⟩
 ·simp at hpl
 ·obtain ⟨h0, h1, h2, h3, h4, h5, h6, h7, rfl⟩ := list8 hH
  rw [hpl]
  exact rblock_walk w x p c hpl (fun i c hi => k3 i _ (by rw [List.getElem?_map, hi]; rfl)) hw
end Go.Proofs.YtddnikpdmjogiaaGreat
