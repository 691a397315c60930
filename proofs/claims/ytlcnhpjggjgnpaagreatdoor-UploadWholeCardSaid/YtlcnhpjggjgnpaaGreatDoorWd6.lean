/- A part of the proof. -/
import Derived.Test.YtlcnhpjggjgnpaaGreatDoorWd3
import Derived.Test.YtlcnhpjggjgnpaaGreatDoorWd5
import Derived.Lib.SlBytesConst
namespace Go.Proofs.YtlcnhpjggjgnpaaGreatDoor
set_option linter.unusedVariables false
set_option linter.unusedSimpArgs false
open Go.RowKit Go.MapKept
def abcL : List UInt8 := [97, 98, 99]
def abcO : Obj := .cells #[.int .u8 97, .int .u8 98, .int .u8 99] 5 (3, 4)
theorem abc_reads {W : World} {g : Nat} (h : W.heap[g]? = some abcO) : Reads W (.slice (some ⟨g, 0, none⟩) 3 3) abcL := by
  refine .inr ⟨⟨g, 0, none⟩, 3, rfl, Nat.le_refl _, by simp [maxLen], fun k v hv => ?_⟩
  rw [Addr.add_lit, Nat.zero_add]
  match k, hv with
  | 0, hv => cases hv; exact cell_at h rfl
  | 1, hv => cases hv; exact cell_at h rfl
  | 2, hv => cases hv; exact cell_at h rfl
  | k + 3, hv => simp [abcL] at hv
def aB : ByteArray := ⟨#[97]⟩
theorem aB_repo : isRepo aB = true := by decide +kernel
theorem first_start {R : Int} (hR : 400 ≤ R) {repo : ByteArray} (hrep : isRepo repo = true) {til : Int} (htil : 0 ≤ til ∧ til ≤ 1099511627776) :
    ∃ T1 F1 b1, startOf ⟨oneT R [], 0, [], false⟩ nmT 1 repo til = (((1 : Nat) : Int), 0, T1) ∧ CT T1 R F1 b1 ∧ fget F1 (ukeyOf 1) = some [] ∧ used F1 ≤ 250 ∧ (∀ k, k ≠ nmT → k ≠ ukeyOf 1 → fget F1 k = none) ∧ T1.size ≤ 1048576 := by
  have ct0 : CT ⟨oneT R [], 0, [], false⟩ R [(nmT, [])] [] := ⟨CM.oneT R, by simp [fget], rfl⟩
  have n1 : ukeyOf 1 ≠ nmT := ne_of_size (by rw [ukeyOf_size]; decide)
  have nd0 : FNodup [(nmT, ([] : List UInt8))] := by simp [FNodup]
  have hno : fget [(nmT, ([] : List UInt8))] (ukeyOf 1) = none := by simp [fget, Ne.symm n1]
  obtain ⟨T1, b1, hs, hct, hb, -⟩ := start_calm ct0 (nx := 1) ⟨by omega, by omega⟩ hrep htil hno (by decide) (by simp [used]; omega)
  have hsz := start_size ⟨oneT R [], 0, [], false⟩ nmT 1 repo til
  rw [hs] at hsz
  have u0 := used_fput nd0 (ukeyOf 1) []
  have u1 := used_fput (nd0.fput (ukeyOf 1) []) nmT b1
  rw [hno] at u0
  refine ⟨T1, _, b1, hs, hct, ?_, ?_, fun k h1 h2 => ?_, by simpa using hsz⟩
  · rw [fget_fput_other (nd0.fput _ _) _ _ _ (Ne.symm n1)]
    exact fget_fput_same nd0 _ _
  · simp [used] at u0 hb
    omega
  · rw [fget_fput_other (nd0.fput _ _) _ _ _ (Ne.symm h1), fget_fput_other nd0 _ _ _ (Ne.symm h2)]
    simp [fget, Ne.symm h1]
def UAw (y st u bd : Nat) (cl : List Value) (W : World) : Prop :=
  (W.cell? ⟨y, 1, none⟩ = some (.pointer (some ⟨st, 0, none⟩)) ∧ W.cell? ⟨y, 3, none⟩ = some (.pointer (some ⟨u, 0, none⟩))) ∧ W.rangeAt bd 0 cl
theorem UAw.of {w W : World} {y d st t u bd : Nat} {cl : List Value} {M : List (Res w.heap.size)} (h : Own w W M) (hy : rObj w.heap.size y (yObj d st t u) ∈ M) (hm : rObj w.heap.size bd (.cells cl.toArray 39) ∈ M) : UAw y st u bd cl W := by
  obtain ⟨-, k1, -, k3⟩ := y_cells (h.at (b := y) (o := yObj d st t u) hy).1
  refine ⟨⟨k1, k3⟩, fun k v hv => ?_⟩
  rw [Nat.zero_add]
  exact cell_at (h.at (b := bd) (o := .cells cl.toArray 39) hm).1 (by rw [List.getElem?_toArray]; exact hv)
set_option maxRecDepth 100000 in
set_option maxHeartbeats 1000000 in
theorem awake13_calls (w0 : World) (hgl : GLen w0) : Calls Tryz.prog 8 #[] w0 (QuietP w0 (.bool true)) := by
  have HY := Lib.hid (yard13_calls (R := 1000) (by omega) (by omega) (Own.start w0))
  obtain ⟨T1, F1, b1, hs1, ct1, hk1, hu1, ho1, hz1⟩ := first_start (R := 1000) (by omega) aB_repo (til := 9) ⟨by omega, by omega⟩
  have hg0 : Good (oneT 1000 []) 0 := oneT_good (by simp) (by omega)
  have hg1 : Good T1.m 3 := by
    have := start_good (T := ⟨oneT 1000 [], 0, [], false⟩) hg0 nmT 1 aB 9
    rw [hs1] at this; exact this
  obtain ⟨T2, hp2, ct2, -⟩ := patch_calm ct1 (nx := 1) (x := ⟨1, aB, 9, []⟩) hk1 (p := abcL) (by decide) (by have : abcL.length = 3 := rfl; omega)
  have hg2 : Good T2.m 4 := by
    have := patch_good (T := T1) hg1 (ukeyOf 1) ⟨1, aB, 9, []⟩ 0 abcL
    rw [show ((0 : Int)) = (([] : List UInt8).length : Int) from rfl, hp2] at this; exact this
  have hz2 : T2.size ≤ 1048576 := by
    have := patch_size T1 (ukeyOf 1) ⟨1, aB, 9, []⟩ 0 abcL
    rw [show ((0 : Int)) = (([] : List UInt8).length : Int) from rfl, hp2] at this
    dsimp only at this
    omega
  have HGL := Lib.hid hgl
  have HS1 := Lib.hid hs1
  have HP2 := Lib.hid hp2
  have HG := Lib.hid (And.intro hg0 (And.intro hg1 hg2))
  have HZ := Lib.hid (And.intro hz1 hz2)
  have HC := Lib.hid (And.intro ct1 ct2)
  have HF := Lib.hid (And.intro hk1 (And.intro hu1 ho1))
  clear hgl hs1 ct1 hk1 hu1 ho1 hz1 hg0 hg1 hp2 ct2 hg2 hz2
  go_enter Tryz.func8, Tryz.ntmps8
  go_wp2_with fail
  refine HY.out.mono ?_
  rintro e w1 ⟨y, d, st, j, t, b, u, mp, rfl, h1⟩
  obtain ⟨-, -, -, k3⟩ := y_cells (h1.at (b := y) (o := yObj d st t u) (by simp)).1
  have hst := ustart_calls (nx := 1) (L := []) h1 (HGL.out.keep h1.keeps) HG.out.1 (by omega) (by decide) ⟨by omega, by omega⟩ (by simp) aB 9 ⟨by omega, by omega⟩
  rw [HS1.out] at hst
  have hst2 : Calls Tryz.prog 9 #[.pointer (some ⟨u, 0, none⟩), .string ⟨#[97]⟩, .int .i64 9] w1 (fun e w' => e = .returned (.tuple #[.int .i64 1, .int .i64 0]) ∧ ∃ sp q, Own w0 w' (tRes w0.heap.size d j t b nmT T1 ++ (uRes w0.heap.size d u st t mp ((1 + 1 : Nat) : Int) ([] ++ [(⟨((1 : Nat) : Int), aB, 9, []⟩, sp, q)]) ++ [rObj w0.heap.size y (yObj d st t u)]))) := hst.mono (by
    rintro e w' ⟨he, hh⟩
    refine ⟨by simpa using he, ?_⟩
    rcases hh with ⟨-, sp, q, hh⟩ | ⟨hn, -⟩
    · exact ⟨sp, q, hh⟩
    · exact absurd rfl hn)
  have HST := Lib.hid hst2
  clear hst hst2 h1 HY
  go_wp2_with fail
  refine HST.out.mono ?_
  rintro e w2 ⟨rfl, sp, q, h2⟩
  have H2 := Lib.hid h2
  clear k3
  obtain ⟨-, -, -, k3⟩ := y_cells (h2.at (b := y) (o := yObj d st t u) (by simp)).1
  have hcv : (convert 22 22 (.slice (some ⟨w2.heap.size, 0, none⟩) 3 3)).run Tryz.prog (w2.alloc (.cells #[.int .u8 97, .int .u8 98, .int .u8 99] 5)) = .ok (.slice (some ⟨w2.heap.size, 0, none⟩) 3 3) (w2.alloc abcO) := Lib.run_convert_bytes_const (P := Tryz.prog) w2 22 5 #[.int .u8 97, .int .u8 98, .int .u8 99] 3 3 Tryz.underlying22 Tryz.underlying5
  have h3 := h2.endObj abcO
  obtain ⟨tl, hq2, -, -⟩ := (h2.stat (q := q) (l := []) (by simp [uRes, liveRes])).1
  have hlt := lt_of_heap hq2
  have hpa := upatch_calls (L1 := []) (L2 := []) (next := ((1 + 1 : Nat) : Int)) (x := ⟨((1 : Nat) : Int), aB, 9, []⟩) (sp := sp) (q := q) h3 (by simp [uget]) HG.out.2.1 (by omega) (nx := 1) rfl (by omega) (by simp) 0 (pv := .slice (some ⟨w2.heap.size, 0, none⟩) 3 3) (p := abcL) (by decide)
    (fun W M hW => abc_reads (hW.at (b := w2.heap.size) (o := abcO) (by simp)).1) (fun a n c e _ hh => by cases e; dsimp only at hh; omega)
  have hp2' : patchOf T1 (ukeyOf 1) ⟨((1 : Nat) : Int), aB, 9, []⟩ 0 abcL = (0, T2, ⟨((1 : Nat) : Int), aB, 9, abcL⟩) := HP2.out
  rw [hp2'] at hpa
  have hpa2 : Calls Tryz.prog 10 #[.pointer (some ⟨u, 0, none⟩), .int .i64 1, .int .i64 0, .slice (some ⟨w2.heap.size, 0, none⟩) 3 3] (w2.alloc abcO) (fun e w' => e = .returned (.int .i64 0) ∧ Own w0 w' (tRes w0.heap.size d j t b nmT T2 ++ (uRes w0.heap.size d u st t mp ((1 + 1 : Nat) : Int) ([] ++ (⟨((1 : Nat) : Int), aB, 9, abcL⟩, sp, q) :: []) ++ (rObj w0.heap.size w2.heap.size abcO :: [rObj w0.heap.size y (yObj d st t u)])))) := hpa.mono (fun e w' hh => hh)
  have HPA := Lib.hid hpa2
  have k3' : (w2.alloc abcO).cell? ⟨y, 3, none⟩ = some (.pointer (some ⟨u, 0, none⟩)) := (y_cells (h3.at (b := y) (o := yObj d st t u) (by simp)).1).2.2.2
  clear h2 h3 HST hq2 hpa hpa2 hlt hp2'
  go_wp2_with fail
  refine HPA.out.mono ?_
  rintro e w3 ⟨rfl, h3⟩
  clear hcv k3 k3'
  obtain ⟨-, -, -, k3⟩ := y_cells (h3.at (b := y) (o := yObj d st t u) (by simp)).1
  have hpb := upatch_calls (L1 := []) (L2 := []) (next := ((1 + 1 : Nat) : Int)) (x := ⟨((1 : Nat) : Int), aB, 9, abcL⟩) (sp := sp) (q := q) h3 (by simp [uget]) HG.out.2.2 (by omega) (nx := 1) rfl (by omega) (by decide) 0 (pv := .slice none 0 0) (p := []) (by decide) (fun W M hW => reads_nil W) (fun a n c e _ hh => by cases e)
  have hp3 : patchOf T2 (ukeyOf 1) ⟨((1 : Nat) : Int), aB, 9, abcL⟩ 0 [] = (130, T2, ⟨((1 : Nat) : Int), aB, 9, abcL⟩) := by
    unfold patchOf
    rw [if_neg (by show ¬ (0 : Int) = ((abcL.length : Nat) : Int); decide)]
  rw [hp3] at hpb
  have hpb2 : Calls Tryz.prog 10 #[.pointer (some ⟨u, 0, none⟩), .int .i64 1, .int .i64 0, .slice none 0 0] w3 (fun e w' => e = .returned (.int .i64 130) ∧ Own w0 w' (tRes w0.heap.size d j t b nmT T2 ++ (uRes w0.heap.size d u st t mp ((1 + 1 : Nat) : Int) ([] ++ (⟨((1 : Nat) : Int), aB, 9, abcL⟩, sp, q) :: []) ++ (rObj w0.heap.size w2.heap.size abcO :: [rObj w0.heap.size y (yObj d st t u)])))) := hpb.mono (fun e w' hh => hh)
  have HPB := Lib.hid hpb2
  clear h3 hpb hpb2 hp3 HPA H2
  go_wp2_with fail
  refine HPB.out.mono ?_
  rintro e w4 ⟨rfl, h4⟩
  have h4 := h4.dropEnd
  -- what is to come
  obtain ⟨dg, hdg⟩ : ∃ dg, dg = sumOf abcL := ⟨_, rfl⟩
  have hdl : dg.length = 32 := by rw [hdg]; exact sumOf_length _
  obtain ⟨cl, hcl⟩ : ∃ cl : List Value, cl = dg.map u8v := ⟨_, rfl⟩
  have nf : fileOf dg ≠ nmT := ne_of_size (by rw [fileOf_size dg hdl]; decide)
  have nk : fileOf dg ≠ ukeyOf 1 := ne_of_size (by rw [fileOf_size dg hdl, ukeyOf_size]; decide)
  have nd1 := HC.out.1.cm.nd
  have u2 := used_fput nd1 (ukeyOf 1) ([] ++ abcL)
  rw [HF.out.1] at u2
  obtain ⟨T3, F3, b3, hf3, ct3, hfd, -, -⟩ := finish_calm HC.out.2 (nx := 1) (x := ⟨((1 : Nat) : Int), aB, 9, abcL⟩) (by rw [fget_fput_same nd1]; rfl) (by decide) (dg := dg) hdg.symm (by rw [fget_fput_other nd1 _ _ _ (Ne.symm nk)]; exact HF.out.2.2 _ nf nk) (by
    have h1 : abcL.length = 3 := rfl
    have h2 := HF.out.2.1
    simp only [Option.getD_some, List.length_nil, List.nil_append, h1, Nat.add_zero] at u2
    rw [List.nil_append]
    omega)
  have hg3 : Good T3.m 7 := by
    have := finish_good (T := T2) HG.out.2.2 nmT (ukeyOf 1) ⟨((1 : Nat) : Int), aB, 9, abcL⟩ dg
    rw [hf3] at this; exact this
  have hwh : wholeOf T3.m dg = true := by
    unfold wholeOf
    rw [ct3.cm.there, ct3.cm.cont, hfd]
    simp [hdg]
  have HFIN := Lib.hid (show ∀ W (M : List (Res w0.heap.size)), Own w0 W (tRes w0.heap.size d j t b nmT T2 ++ (uRes w0.heap.size d u st t mp ((1 + 1 : Nat) : Int) ([] ++ (⟨((1 : Nat) : Int), aB, 9, abcL⟩, sp, q) :: []) ++ M)) → Calls Tryz.prog 12 #[.pointer (some ⟨u, 0, none⟩), .int .i64 1, .agg cl.toArray, .slice none 0 0] W (fun e w' => e = .returned (.int .i64 0) ∧ Own w0 w' (tRes w0.heap.size d j t b nmT T3 ++ (uRes w0.heap.size d u st t mp ((1 + 1 : Nat) : Int) [] ++ M))) from fun W M hW => by
    rw [hcl]
    have := ufinish_calls (L1 := []) (L2 := []) hW (by simp [uget]) (by simp) HG.out.2.2 (by omega) (by have := HZ.out.2; omega) (nx := 1) rfl (by omega) (by decide) ⟨by decide, by decide⟩ (by decide) hdl
    rw [hf3] at this
    exact this.mono (fun e w' hh => hh))
  have HWH := Lib.hid (show ∀ W (M : List (Res w0.heap.size)), Own w0 W (tRes w0.heap.size d j t b nmT T3 ++ (uRes w0.heap.size d u st t mp ((1 + 1 : Nat) : Int) [] ++ M)) → Calls Tryz.prog 28 #[.pointer (some ⟨st, 0, none⟩), .agg cl.toArray] W (QuietP W (.bool true)) from fun W M hW => by
    rw [hcl, ← hwh]
    exact bwhole_calls hW (by simp [uRes, stObj1]) hg3 hdl)
  have HLS := Lib.hid (show ∀ W (M : List (Res w0.heap.size)), Own w0 W (tRes w0.heap.size d j t b nmT T3 ++ (uRes w0.heap.size d u st t mp ((1 + 1 : Nat) : Int) [] ++ M)) → Calls Tryz.prog 22 #[.pointer (some ⟨u, 0, none⟩)] W (UListPost W []) from fun W M hW => ulist_calls hW (by simp) (by simp) (by simp))
  have hsum := sum_calls (abc_reads (heap_alloc_new w4 abcO)) (by decide)
  rw [← hdg, ← hcl] at hsum
  have HSUM := Lib.hid hsum
  have HI := Lib.hid (dig_info (ds := cl.toArray) (by rw [hcl]; simp [hdl]))
  have HIL := Lib.hid (show (Tryz.prog.info? 39).map (·.size) = some cl.length by rw [hcl, List.length_map, hdl]; kernel_rfl)
  have HONE := Lib.hid (show cl.toArray.all (·.oneCell') = true by rw [hcl]; exact bytes_one _)
  have HSZ := Lib.hid (show cl.toArray.size = 32 by rw [hcl]; simp [hdl])
  have hcv : (convert 22 22 (.slice (some ⟨w4.heap.size, 0, none⟩) 3 3)).run Tryz.prog (w4.alloc (.cells #[.int .u8 97, .int .u8 98, .int .u8 99] 5)) = .ok (.slice (some ⟨w4.heap.size, 0, none⟩) 3 3) (w4.alloc abcO) := Lib.run_convert_bytes_const (P := Tryz.prog) w4 22 5 #[.int .u8 97, .int .u8 98, .int .u8 99] 3 3 Tryz.underlying22 Tryz.underlying5
  have H4 := Lib.hid h4
  have HKA := Lib.hid ((Keeps.refl (fun _ => False) w4).alloc abcO)
  clear h4 HPB k3 hdg hdl hcl nf nk nd1 u2 hf3 ct3 hfd hg3 hwh hsum HC HF HG HZ
  go_wp2_with fail
  refine HSUM.out.mono ?_
  rintro e w5 ⟨rfl, hk5⟩
  have H5 := Lib.hid ((H4.out.quiet (HKA.out.trans hk5 (fun _ _ e => e))).endObj (.cells cl.toArray 39))
  clear hk5 H4 HKA HSUM hcv
  go_upto_region 8 with (refine wpList_store_row rfl 39 _ _ rfl w5.heap.size cl.toArray rfl rfl 39 _ (heap_alloc_new w5 _) HI.out (by rw [HSZ.out]; kernel_rfl) HONE.out ?_; rw [World.setRow_alloc_new])
  generalize w5.alloc (.cells cl.toArray 39) = w6 at H5 ⊢
  generalize w5.heap.size = bd at H5 ⊢
  refine wp_region_held_drew (S := UAw y st u bd cl) (by kernel_rfl) (by exact UAw.of (d := d) (t := t) H5.out.drew (by simp) (by simp)) (fun hHeld => ?_)
  have H6 := Lib.hid H5.out.drew
  clear H5
  refine wpAnyH_take (i := 0) (oi := { dst := some 43, op := _, type := _, pos := _, after := _, guard := _ }) (v := .pointer (some ⟨y, 0, none⟩)) rfl (by kernel_rfl) (by kernel_rfl) (by kernel_rfl) (fun _ _ _ h => h) (Or.inl ⟨by rfl, by intro w hSw; (try dsimp only at hSw); go_simp⟩) hHeld ?_
  try simp only [Act.put, List.setIfInBounds_toArray, List.set_cons_zero, List.set_cons_succ]
  refine wpAnyH_take (i := 1) (oi := { dst := some 44, op := _, type := _, pos := _, after := _, guard := _ }) (v := .pointer (some ⟨y, 0, none⟩)) rfl (by kernel_rfl) (by kernel_rfl) (by kernel_rfl) (fun _ _ _ h => h) (Or.inl ⟨by rfl, by intro w hSw; (try dsimp only at hSw); go_simp⟩) hHeld ?_
  try simp only [Act.put, List.setIfInBounds_toArray, List.set_cons_zero, List.set_cons_succ]
  refine wpAnyH_take (i := 2) (oi := { dst := some 45, op := _, type := _, pos := _, after := _, guard := _ }) (v := .pointer (some ⟨y, 3, none⟩)) rfl (by kernel_rfl) (by kernel_rfl) (by kernel_rfl) (fun _ _ _ h => h) (Or.inl ⟨by rfl, by intro w hSw; (try dsimp only at hSw); go_simp⟩) hHeld ?_
  try simp only [Act.put, List.setIfInBounds_toArray, List.set_cons_zero, List.set_cons_succ]
  refine wpAnyH_take (i := 3) (oi := { dst := some 46, op := _, type := _, pos := _, after := _, guard := _ }) (v := .pointer (some ⟨u, 0, none⟩)) rfl (by kernel_rfl) (by kernel_rfl) (by kernel_rfl) (fun _ _ _ h => h) (Or.inl ⟨by rfl, by intro w hSw; (try dsimp only at hSw); (have q0 := hSw.1.2; go_simp)⟩) hHeld ?_
  try simp only [Act.put, List.setIfInBounds_toArray, List.set_cons_zero, List.set_cons_succ]
  refine wpAnyH_take (i := 4) (oi := { dst := some 47, op := _, type := _, pos := _, after := _, guard := _ }) (v := .agg (cl).toArray) rfl (by kernel_rfl) (by kernel_rfl) (by kernel_rfl) (fun _ _ _ h => h) (yieldsIf_load_mid (by rfl) _ _ rfl (bd) (0) rfl (cl) _ (fun w' hk => hk.2) Tryz.underlying39 rfl HIL.out) hHeld ?_
  try simp only [Act.put, List.setIfInBounds_toArray, List.set_cons_zero, List.set_cons_succ]
  refine wpAnyH_ready (rs := [5]) (by kernel_rfl) (by simp) ?_
  refine AllReadyH.cons (o := { dst := some 48, op := _, type := _, pos := _, after := _, guard := _ }) rfl (fun K hK => ?_) AllReadyH.nil
  refine step_wanted' rfl ?_
  go_simp
  go_at_call 12
  refine (HFIN.out _ _ H6.out).mono ?_
  rintro e w7 ⟨rfl, h7⟩
  have H7 := Lib.hid h7
  clear h7
  refine hK.out _ _ (by exact UAw.of (d := d) (t := t) H7.out (by simp) (by simp)) (fun hHeld1 => ?_)
  clear hK K
  try simp only [Act.put, List.setIfInBounds_toArray, List.set_cons_zero, List.set_cons_succ]
  refine wpAnyH_take (i := 6) (oi := { dst := some 49, op := _, type := _, pos := _, after := _, guard := _ }) (v := .bool true) rfl (by kernel_rfl) (by kernel_rfl) (by kernel_rfl) (fun _ _ _ h => h) (Or.inl ⟨by rfl, by intro w hSw; (try dsimp only at hSw); go_simp⟩) hHeld1 ?_
  try simp only [Act.put, List.setIfInBounds_toArray, List.set_cons_zero, List.set_cons_succ]
  refine wpAnyH_take (i := 7) (oi := { dst := some 50, op := _, type := _, pos := _, after := _, guard := _ }) (v := .bool true) rfl (by kernel_rfl) (by kernel_rfl) (by kernel_rfl) (fun _ _ _ h => h) (Or.inl ⟨by rfl, by intro w hSw; (try dsimp only at hSw); go_simp⟩) hHeld1 ?_
  try simp only [Act.put, List.setIfInBounds_toArray, List.set_cons_zero, List.set_cons_succ]
  refine wpAnyH_take (i := 8) (oi := { dst := some 51, op := _, type := _, pos := _, after := _, guard := _ }) (v := .pointer (some ⟨y, 0, none⟩)) rfl (by kernel_rfl) (by kernel_rfl) (by kernel_rfl) (fun _ _ _ h => h) (Or.inl ⟨by rfl, by intro w hSw; (try dsimp only at hSw); go_simp⟩) hHeld1 ?_
  try simp only [Act.put, List.setIfInBounds_toArray, List.set_cons_zero, List.set_cons_succ]
  refine wpAnyH_take (i := 9) (oi := { dst := some 52, op := _, type := _, pos := _, after := _, guard := _ }) (v := .pointer (some ⟨y, 0, none⟩)) rfl (by kernel_rfl) (by kernel_rfl) (by kernel_rfl) (fun _ _ _ h => h) (Or.inl ⟨by rfl, by intro w hSw; (try dsimp only at hSw); go_simp⟩) hHeld1 ?_
  try simp only [Act.put, List.setIfInBounds_toArray, List.set_cons_zero, List.set_cons_succ]
  refine wpAnyH_take (i := 10) (oi := { dst := some 53, op := _, type := _, pos := _, after := _, guard := _ }) (v := .pointer (some ⟨y, 1, none⟩)) rfl (by kernel_rfl) (by kernel_rfl) (by kernel_rfl) (fun _ _ _ h => h) (Or.inl ⟨by rfl, by intro w hSw; (try dsimp only at hSw); go_simp⟩) hHeld1 ?_
  try simp only [Act.put, List.setIfInBounds_toArray, List.set_cons_zero, List.set_cons_succ]
  refine wpAnyH_take (i := 11) (oi := { dst := some 54, op := _, type := _, pos := _, after := _, guard := _ }) (v := .pointer (some ⟨st, 0, none⟩)) rfl (by kernel_rfl) (by kernel_rfl) (by kernel_rfl) (fun _ _ _ h => h) (Or.inl ⟨by rfl, by intro w hSw; (try dsimp only at hSw); (have q0 := hSw.1.1; go_simp)⟩) hHeld1 ?_
  try simp only [Act.put, List.setIfInBounds_toArray, List.set_cons_zero, List.set_cons_succ]
  refine wpAnyH_take (i := 12) (oi := { dst := some 55, op := _, type := _, pos := _, after := _, guard := _ }) (v := .agg (cl).toArray) rfl (by kernel_rfl) (by kernel_rfl) (by kernel_rfl) (fun _ _ _ h => h) (yieldsIf_load_mid (by rfl) _ _ rfl (bd) (0) rfl (cl) _ (fun w' hk => hk.2) Tryz.underlying39 rfl HIL.out) hHeld1 ?_
  try simp only [Act.put, List.setIfInBounds_toArray, List.set_cons_zero, List.set_cons_succ]
  refine wpAnyH_ready (rs := [13]) (by kernel_rfl) (by simp) ?_
  refine AllReadyH.cons (o := { dst := some 56, op := _, type := _, pos := _, after := _, guard := _ }) rfl (fun K hK => ?_) AllReadyH.nil
  go_simp
  go_at_call 28
  refine (HWH.out _ _ H7.out).mono ?_
  rintro e w8 ⟨rfl, hk8⟩
  have H8 := Lib.hid (H7.out.quiet hk8)
  clear hk8
  refine hK.out _ _ (by exact UAw.of (d := d) (t := t) H8.out (by simp) (by simp)) (fun hHeld2 => ?_)
  clear hK K
  try simp only [Act.put, List.setIfInBounds_toArray, List.set_cons_zero, List.set_cons_succ]
  refine wpAnyH_take (i := 14) (oi := { dst := some 57, op := _, type := _, pos := _, after := _, guard := _ }) (v := .bool true) rfl (by kernel_rfl) (by kernel_rfl) (by kernel_rfl) (fun _ _ _ h => h) (Or.inl ⟨by rfl, by intro w hSw; (try dsimp only at hSw); go_simp⟩) hHeld2 ?_
  try simp only [Act.put, List.setIfInBounds_toArray, List.set_cons_zero, List.set_cons_succ]
  refine wpAnyH_take (i := 15) (oi := { dst := some 58, op := _, type := _, pos := _, after := _, guard := _ }) (v := .bool true) rfl (by kernel_rfl) (by kernel_rfl) (by kernel_rfl) (fun _ _ _ h => h) (Or.inl ⟨by rfl, by intro w hSw; (try dsimp only at hSw); go_simp⟩) hHeld2 ?_
  try simp only [Act.put, List.setIfInBounds_toArray, List.set_cons_zero, List.set_cons_succ]
  refine wpAnyH_take (i := 16) (oi := { dst := some 59, op := _, type := _, pos := _, after := _, guard := _ }) (v := .pointer (some ⟨y, 0, none⟩)) rfl (by kernel_rfl) (by kernel_rfl) (by kernel_rfl) (fun _ _ _ h => h) (Or.inl ⟨by rfl, by intro w hSw; (try dsimp only at hSw); go_simp⟩) hHeld2 ?_
  try simp only [Act.put, List.setIfInBounds_toArray, List.set_cons_zero, List.set_cons_succ]
  refine wpAnyH_take (i := 17) (oi := { dst := some 60, op := _, type := _, pos := _, after := _, guard := _ }) (v := .pointer (some ⟨y, 0, none⟩)) rfl (by kernel_rfl) (by kernel_rfl) (by kernel_rfl) (fun _ _ _ h => h) (Or.inl ⟨by rfl, by intro w hSw; (try dsimp only at hSw); go_simp⟩) hHeld2 ?_
  try simp only [Act.put, List.setIfInBounds_toArray, List.set_cons_zero, List.set_cons_succ]
  refine wpAnyH_take (i := 18) (oi := { dst := some 61, op := _, type := _, pos := _, after := _, guard := _ }) (v := .pointer (some ⟨y, 3, none⟩)) rfl (by kernel_rfl) (by kernel_rfl) (by kernel_rfl) (fun _ _ _ h => h) (Or.inl ⟨by rfl, by intro w hSw; (try dsimp only at hSw); go_simp⟩) hHeld2 ?_
  try simp only [Act.put, List.setIfInBounds_toArray, List.set_cons_zero, List.set_cons_succ]
  refine wpAnyH_take (i := 19) (oi := { dst := some 62, op := _, type := _, pos := _, after := _, guard := _ }) (v := .pointer (some ⟨u, 0, none⟩)) rfl (by kernel_rfl) (by kernel_rfl) (by kernel_rfl) (fun _ _ _ h => h) (Or.inl ⟨by rfl, by intro w hSw; (try dsimp only at hSw); (have q0 := hSw.1.2; go_simp)⟩) hHeld2 ?_
  try simp only [Act.put, List.setIfInBounds_toArray, List.set_cons_zero, List.set_cons_succ]
  refine wpAnyH_ready (rs := [20]) (by kernel_rfl) (by simp) ?_
  refine AllReadyH.cons (o := { dst := some 63, op := _, type := _, pos := _, after := _, guard := _ }) rfl (fun K hK => ?_) AllReadyH.nil
  go_simp
  go_at_call 22
  refine (HLS.out _ _ H8.out).mono ?_
  rintro e w9 ⟨v9, rfl, ho9, hk9⟩
  obtain ⟨a9, c9, rfl⟩ := ownsRow_slice ho9
  have H9 := Lib.hid (H8.out.quiet hk9)
  clear hk9 ho9
  refine hK.out _ _ (by exact UAw.of (d := d) (t := t) H9.out (by simp) (by simp)) (fun hHeld3 => ?_)
  clear hK K
  try simp only [Act.put, List.setIfInBounds_toArray, List.set_cons_zero, List.set_cons_succ]
  refine wpAnyH_take (i := 21) (oi := { dst := some 64, op := _, type := _, pos := _, after := _, guard := _ }) (v := .int .i64 0) rfl (by kernel_rfl) (by kernel_rfl) (by kernel_rfl) (fun _ _ _ h => h) (Or.inl ⟨by rfl, by intro w hSw; (try dsimp only at hSw); go_simp⟩) hHeld3 ?_
  try simp only [Act.put, List.setIfInBounds_toArray, List.set_cons_zero, List.set_cons_succ]
  refine wpAnyH_take (i := 22) (oi := { dst := some 65, op := _, type := _, pos := _, after := _, guard := _ }) (v := .bool true) rfl (by kernel_rfl) (by kernel_rfl) (by kernel_rfl) (fun _ _ _ h => h) (Or.inl ⟨by rfl, by intro w hSw; (try dsimp only at hSw); go_simp⟩) hHeld3 ?_
  try simp only [Act.put, List.setIfInBounds_toArray, List.set_cons_zero, List.set_cons_succ]
  refine wpAnyH_take (i := 23) (oi := { dst := some 66, op := _, type := _, pos := _, after := _, guard := _ }) (v := .bool true) rfl (by kernel_rfl) (by kernel_rfl) (by kernel_rfl) (fun _ _ _ h => h) (Or.inl ⟨by rfl, by intro w hSw; (try dsimp only at hSw); go_simp⟩) hHeld3 ?_
  try simp only [Act.put, List.setIfInBounds_toArray, List.set_cons_zero, List.set_cons_succ]
  refine wpAnyH_take (i := 24) (oi := { dst := some 0, op := _, type := _, pos := _, after := _, guard := _ }) (v := .bool true) rfl (by kernel_rfl) (by kernel_rfl) (by kernel_rfl) (fun _ _ _ h => h) (Or.inl ⟨by rfl, by intro w hSw; (try dsimp only at hSw); go_simp⟩) hHeld3 ?_
  try simp only [Act.put, List.setIfInBounds_toArray, List.set_cons_zero, List.set_cons_succ]
  refine wpAnyH_done (by kernel_rfl) ?_ _
  go_wp2_with fail
  go_ret
  exact ⟨rfl, H9.out.keeps⟩
end Go.Proofs.YtlcnhpjggjgnpaaGreatDoor
namespace Go.Proofs.YtlcnhpjggjgnpaaGreatDoor
set_option linter.unusedVariables false
open Go.RowKit Go.MapKept
def rB : ByteArray := ⟨#[114]⟩
theorem rB_repo : isRepo rB = true := by decide +kernel
structure Wh (p : List UInt8) (T : TM) (a i : Nat) : Prop where
  ct : ∃ F b, CT T 2097152 F b ∧ fget F (ukeyOf 1) = some (p.take a) ∧ used F ≤ 250 + a ∧ ∀ k, k ≠ nmT → k ≠ ukeyOf 1 → fget F k = none
  good : Good T.m (3 + i)
  size : T.size ≤ 1048576
  le : a ≤ p.length
theorem wh_start (p : List UInt8) : ∃ T1, startOf ⟨oneT 2097152 [], 0, [], false⟩ nmT 1 rB 1 = (((1 : Nat) : Int), 0, T1) ∧ Wh p T1 0 0 := by
  obtain ⟨T1, F1, b1, hs, ct, hk, hu, ho, hz⟩ := first_start (R := 2097152) (by omega) rB_repo (til := 1) ⟨by omega, by omega⟩
  have hg0 : Good (oneT 2097152 []) 0 := oneT_good (by simp) (by omega)
  have hg1 : Good T1.m 3 := by
    have := start_good (T := ⟨oneT 2097152 [], 0, [], false⟩) hg0 nmT 1 rB 1
    rw [hs] at this; exact this
  exact ⟨T1, hs, ⟨F1, b1, ct, by rw [hk]; rfl, by omega, ho⟩, hg1, hz, Nat.zero_le _⟩
theorem Wh.patch {p : List UInt8} {T : TM} {a i tt : Nat} (h : Wh p T a i) (hp : p.length ≤ 262144) (ha : a ≤ tt) (ht : tt ≤ p.length) :
    ∃ T', patchOf T (ukeyOf 1) ⟨((1 : Nat) : Int), rB, 1, p.take a⟩ (a : Int) ((p.drop a).take (tt - a)) = (0, T', ⟨((1 : Nat) : Int), rB, 1, p.take tt⟩) ∧ Wh p T' tt (i + 1) := by
  obtain ⟨F, b, ct, hk, hu, ho⟩ := h.ct
  have hl : (p.take a).length = a := by rw [List.length_take]; omega
  have hl2 : ((p.drop a).take (tt - a)).length = tt - a := by rw [List.length_take, List.length_drop]; omega
  have hc : p.take a ++ (p.drop a).take (tt - a) = p.take tt := by
    rw [← List.take_add]; congr 1; omega
  obtain ⟨T2, hp2, ct2, -⟩ := patch_calm ct (nx := 1) (x := ⟨((1 : Nat) : Int), rB, 1, p.take a⟩) hk (p := (p.drop a).take (tt - a)) (by dsimp only; omega) (by omega)
  have hg := patch_good (T := T) h.good (ukeyOf 1) ⟨((1 : Nat) : Int), rB, 1, p.take a⟩ (a : Int) ((p.drop a).take (tt - a))
  have hz := patch_size T (ukeyOf 1) ⟨((1 : Nat) : Int), rB, 1, p.take a⟩ (a : Int) ((p.drop a).take (tt - a))
  dsimp only at hp2
  rw [hl, hc] at hp2
  rw [hp2] at hg hz
  dsimp only at hg hz
  refine ⟨T2, hp2, ⟨_, b, ct2, ?_, ?_, ?_⟩, hg, by rw [hz]; exact h.size, ht⟩
  · rw [fget_fput_same ct.cm.nd, hc]
  · have hu2 := used_fput ct.cm.nd (ukeyOf 1) (p.take a ++ (p.drop a).take (tt - a))
    rw [hk, Option.getD_some, List.length_append, hl, hl2] at hu2
    omega
  · intro k k1 k2
    rw [fget_fput_other ct.cm.nd _ _ _ (Ne.symm k2)]
    exact ho k k1 k2
theorem Wh.finish {p : List UInt8} {T : TM} {i : Nat} (h : Wh p T p.length i) (hp : p.length ≤ 262144) :
    ∃ T', finishOf T nmT (ukeyOf 1) ⟨((1 : Nat) : Int), rB, 1, p⟩ (sumOf p) = (0, T', true) ∧ Good T'.m (6 + i) ∧ readCode T'.m (fileOf (sumOf p)) 0 (p.length : Int) = 0 ∧ readBytes T'.m (fileOf (sumOf p)) 0 (p.length : Int) = p := by
  obtain ⟨F, b, ct, hk, hu, ho⟩ := h.ct
  rw [List.take_length] at hk
  have hdl : (sumOf p).length = 32 := sumOf_length _
  have nf : fileOf (sumOf p) ≠ nmT := ne_of_size (by rw [fileOf_size _ hdl]; decide)
  have nk : fileOf (sumOf p) ≠ ukeyOf 1 := ne_of_size (by rw [fileOf_size _ hdl, ukeyOf_size]; decide)
  obtain ⟨T3, F3, b3, hf3, ct3, hfd, -, -⟩ := finish_calm ct (nx := 1) (x := ⟨((1 : Nat) : Int), rB, 1, p⟩) hk (show rB.size ≤ 128 by decide) (dg := sumOf p) rfl (ho _ nf nk) (by omega)
  have hg := finish_good (T := T) h.good nmT (ukeyOf 1) ⟨((1 : Nat) : Int), rB, 1, p⟩ (sumOf p)
  rw [hf3] at hg
  refine ⟨T3, hf3, hg.mono (by omega), ?_, ?_⟩
  · unfold readCode
    rw [ct3.cm.there, hfd]
    simp
  · have e : fget T3.m.now (fileOf (sumOf p)) = some p := by rw [ct3.cm.now]; exact hfd
    unfold readBytes
    rw [ct3.cm.there, hfd, e]
    simp [open_piece]
    omega
end Go.Proofs.YtlcnhpjggjgnpaaGreatDoor
namespace Go.Proofs.YtlcnhpjggjgnpaaGreatDoor
set_option linter.unusedVariables false
set_option linter.unusedSimpArgs false
open Go.RowKit Go.MapKept
section
variable {w wr : World} {d u st t mp j b : Nat} {nm : ByteArray} {T : TM} {next : Int} {L : UL} {rs : List (Res w.heap.size)}
theorem ufind_gone {w0 : World} (h : Own w w0 (tRes w.heap.size d j t b nm T ++ (uRes w.heap.size d u st t mp next L ++ rs))) {id : Int} (hf : uget L id = none) :
    Runs 47 #[.pointer (some ⟨u, 0, none⟩), .int .i64 id] w0 (.tuple #[.pointer none, .int .i64 6]) w0 := by
  have hfi := ufind_runs (L := L) h (u := u) (d := d) (st := st) (t := t) (mp := mp) (next := next) (by simp [uRes]) (by simp [uRes]) id
  unfold ufindOf at hfi
  rw [hf] at hfi
  exact hfi
set_option maxRecDepth 100000 in
theorem upatch_gone {w0 : World} (h : Own w w0 (tRes w.heap.size d j t b nm T ++ (uRes w.heap.size d u st t mp next L ++ rs))) {id : Int} (hf : uget L id = none) (at_ : Int) (pv : Value) :
    Runs 10 #[.pointer (some ⟨u, 0, none⟩), .int .i64 id, .int .i64 at_, pv] w0 (.int .i64 6) w0 := by
  have hfi := ufind_gone h hf
  unfold Runs
  clear h hf
  go_enter Tryz.func10, Tryz.ntmps10
  go_wp2_with fail
  refine hfi.out.mono ?_
  rintro e w' ⟨rfl, rfl⟩
  go_wp2_with fail
  go_ret
  exact ⟨rfl, rfl⟩
set_option maxRecDepth 100000 in
theorem ufinish_gone {w0 : World} (h : Own w w0 (tRes w.heap.size d j t b nm T ++ (uRes w.heap.size d u st t mp next L ++ rs))) {id : Int} (hf : uget L id = none) (cl : List Value) (more : Value) :
    Calls Tryz.prog 12 #[.pointer (some ⟨u, 0, none⟩), .int .i64 id, .agg cl.toArray, more] w0 (QuietP w0 (.int .i64 6)) := by
  have hfi := ufind_gone (h.endObj (.cells cl.toArray 39)) hf
  have HK := Lib.hid ((Keeps.refl (fun _ => False) w0).alloc (.cells cl.toArray 39))
  clear h hf
  go_enter Tryz.func12, Tryz.ntmps12
  go_wp2_with fail
  refine hfi.out.mono ?_
  rintro e w' ⟨rfl, rfl⟩
  go_wp2_with fail
  go_ret
  exact ⟨rfl, HK.out⟩
end
end Go.Proofs.YtlcnhpjggjgnpaaGreatDoor
