/- merkle's Leaf, Node, split. -/
import Derived.Test.YtaeabdghlkdkjaaGreatDgS
namespace Go.Proofs.YtaeabdghlkdkjaaGreat
set_option linter.unusedVariables false
open Go.RowKit Go.MapKept

/-- How many bits a number has. -/
def lenOf (n : Nat) : Nat := if n = 0 then 0 else Nat.log2 n + 1
theorem lenOf_le {n : Nat} (h : n < 256) : lenOf n ≤ 8 := by
  unfold lenOf
  split
  · omega
  · have := (Nat.log2_lt (n := n) (k := 8) ‹_›).2 (by omega)
    omega
def lenTab : ByteArray := ⟨(([0, 1, 2, 2, 3, 3, 3, 3, 4, 4, 4, 4, 4, 4, 4, 4, 5, 5, 5, 5, 5, 5, 5, 5, 5, 5, 5, 5, 5, 5, 5, 5, 6, 6, 6, 6, 6, 6, 6, 6, 6, 6, 6, 6, 6, 6, 6, 6, 6, 6, 6, 6, 6, 6, 6, 6, 6, 6, 6, 6, 6, 6, 6, 6].append [7, 7, 7, 7, 7, 7, 7, 7, 7, 7, 7, 7, 7, 7, 7, 7, 7, 7, 7, 7, 7, 7, 7, 7, 7, 7, 7, 7, 7, 7, 7, 7, 7, 7, 7, 7, 7, 7, 7, 7, 7, 7, 7, 7, 7, 7, 7, 7, 7, 7, 7, 7, 7, 7, 7, 7, 7, 7, 7, 7, 7, 7, 7, 7]).append ([8, 8, 8, 8, 8, 8, 8, 8, 8, 8, 8, 8, 8, 8, 8, 8, 8, 8, 8, 8, 8, 8, 8, 8, 8, 8, 8, 8, 8, 8, 8, 8, 8, 8, 8, 8, 8, 8, 8, 8, 8, 8, 8, 8, 8, 8, 8, 8, 8, 8, 8, 8, 8, 8, 8, 8, 8, 8, 8, 8, 8, 8, 8, 8].append [8, 8, 8, 8, 8, 8, 8, 8, 8, 8, 8, 8, 8, 8, 8, 8, 8, 8, 8, 8, 8, 8, 8, 8, 8, 8, 8, 8, 8, 8, 8, 8, 8, 8, 8, 8, 8, 8, 8, 8, 8, 8, 8, 8, 8, 8, 8, 8, 8, 8, 8, 8, 8, 8, 8, 8, 8, 8, 8, 8, 8, 8, 8, 8])).toArray⟩
theorem lenTab_at : ∀ n : Fin 256, lenTab[n.1]? = some (UInt8.ofNat (lenOf n.1)) := by decide +kernel
theorem lenTab_get {n : Nat} (h : n < 256) (hz : n < lenTab.size) : (lenTab[n]'hz).toNat = lenOf n := by
  have h1 : lenTab[n]? = some (UInt8.ofNat (lenOf n)) := lenTab_at ⟨n, h⟩
  have h2 : (UInt8.ofNat (lenOf n)).toNat = lenOf n := by
    rw [UInt8.toNat_ofNat']
    exact Nat.mod_eq_of_lt (by have := lenOf_le h; omega)
  rw [getElem?_pos lenTab n hz] at h1
  rw [Option.some.inj h1, h2]
set_option maxRecDepth 100000 in
theorem len64_runs {n : Nat} (h : n < 256) (w : World) : Runs 186 #[.int .u64 (n : Int)] w (.int .i64 (lenOf n : Int)) w := by
  unfold Runs
  have i0 : (0 : Int) ≤ n := by omega
  have i1 : (n : Int) < 256 := by omega
  have i2 := lenOf_le h
  have i3 : (lenOf n : Int) ≤ 8 := by omega
  have j1 : decide ((4294967296 : Int) ≤ (n : Int)) = false := decide_eq_false (by omega)
  have j2 : decide ((65536 : Int) ≤ (n : Int)) = false := decide_eq_false (by omega)
  have j3 : ¬ (256 : Int) ≤ n := by omega
  have i4 : (0 : Int) ≤ lenOf n := by omega
  have hz : n < lenTab.size := by
    have e : lenTab.size = 256 := by decide +kernel
    omega
  have HG := Lib.hid (lenTab_get h hz)
  clear i2 h
  go_enter Tryz.func186, Tryz.ntmps186
  go_wp2_with fail
  go_ret
  refine ⟨(congrArg (fun z : Int => Ending.returned (.int .i64 (wrap64 (wrap64 z)))) (show (((lenTab[n]'hz).toNat : Nat) : Int) = (lenOf n : Int) by rw [HG.out])).trans ?_, rfl⟩
  rw [IntWalk.wrap64_in (lenOf n : Int) (by omega), IntWalk.wrap64_in (lenOf n : Int) (by omega)]
set_option maxRecDepth 100000 in
theorem len_runs {n : Nat} (h : n < 256) (w : World) : Runs 168 #[.int .u64 (n : Int)] w (.int .i64 (lenOf n : Int)) w := by
  unfold Runs
  have hl := len64_runs h w
  clear h
  go_enter Tryz.func168, Tryz.ntmps168
  go_wp2_with fail
  refine hl.out.mono ?_; rintro e w' ⟨rfl, rfl⟩
  go_wp2_with fail
  go_ret
  exact ⟨rfl, rfl⟩
set_option maxRecDepth 100000 in
theorem split_runs {n : Nat} (h2 : 2 ≤ n) (h : n ≤ 256) (w : World) : Runs 155 #[.int .i64 (n : Int)] w (.int .i64 (halfOf n : Int)) w := by
  unfold Runs
  obtain ⟨k, rfl⟩ : ∃ k, n = k + 1 := ⟨n - 1, by omega⟩
  have hl := len_runs (n := k) (by omega) w
  have hlen : lenOf k = Nat.log2 k + 1 := by unfold lenOf; rw [if_neg (by omega)]
  have hle := lenOf_le (n := k) (by omega)
  have hw1 : wrap64 (((k + 1 : Nat) : Int) - 1) = (k : Int) := by rw [IntWalk.wrap64_in _ (by omega)]; omega
  have hw2 : wrap64 ((lenOf k : Int) - 1) = (Nat.log2 k : Int) := by rw [IntWalk.wrap64_in _ (by omega)]; omega
  have i0 : (0 : Int) ≤ k := by omega
  have i1 : (k : Int) < 256 := by omega
  have HL := Lib.hid hl
  have HLE := Lib.hid hle
  have HLEN := Lib.hid hlen
  have HH := Lib.hid (show halfOf (k + 1) = 2 ^ Nat.log2 k from rfl)
  clear hl hlen hle h h2
  have HW := Lib.hid (show wrap64 ((2 : Int) ^ min (Nat.log2 k) 64) = (halfOf (k + 1) : Int) by
    have h7 : Nat.log2 k ≤ 7 := by have := HLE.out; have := HLEN.out; omega
    have h8 : 2 ^ Nat.log2 k ≤ 2 ^ 7 := Nat.pow_le_pow_right (by omega) h7
    have h9 : ((2 ^ Nat.log2 k : Nat) : Int) = (2 : Int) ^ Nat.log2 k := by rw [Int.natCast_pow]; rfl
    rw [Nat.min_eq_left (by omega), HH.out, ← h9]
    clear h9
    generalize 2 ^ Nat.log2 k = q at h8 ⊢
    rw [IntWalk.wrap64_in _ (by omega)])
  go_enter Tryz.func155, Tryz.ntmps155
  go_wp2_with fail
  refine HL.out.out.mono ?_; rintro e w' ⟨rfl, rfl⟩
  go_wp2_with fail
  go_ret
  exact ⟨congrArg (fun z => Ending.returned (.int .i64 z)) HW.out, rfl⟩
/-- A literal of one byte. -/
theorem owns_lit1 (w : World) (c : UInt8) : Owns (w.alloc (.cells #[u8v c] 5)) w.heap.size (.slice (some ⟨w.heap.size, 0, none⟩) 1 1) [c] :=
  ⟨rfl, .inr ⟨w.heap.size, 1, _, rfl, Nat.le_refl _, heap_alloc_new w _, by simp, by simp [maxLen], by simp, by simp⟩⟩
set_option maxRecDepth 100000 in
set_option maxHeartbeats 1000000 in
theorem leaf_calls {w : World} {v : Value} {p : List UInt8} (h : Reads w v p) (hb : p.length < 70368744177663) : Calls Tryz.prog 45 #[v] w (QuietP w (.agg ((leafOf p).map u8v).toArray)) := by
  have hkA : Keeps (fun _ => False) w (w.alloc (.cells zeroC 83)) := (Keeps.refl _ w).alloc _
  have hrA := heap_alloc_new w (.cells zeroC 83)
  have hkB : Keeps (fun _ => False) (w.alloc (.cells zeroC 83)) ((w.alloc (.cells zeroC 83)).alloc (.cells #[.int .u8 0] 5)) := (Keeps.refl _ _).alloc _
  have ho : Owns ((w.alloc (.cells zeroC 83)).alloc (.cells #[.int .u8 0] 5)) (w.heap.size + 1) (.slice (some ⟨w.heap.size + 1, 0, none⟩) 1 1) [0] := by
    have := owns_lit1 (w.alloc (.cells zeroC 83)) 0
    rw [World.size_alloc] at this
    exact this
  have hr := ((h.keep hkA).keep hkB)
  obtain ⟨v', w3, hrun, ho3, hk3⟩ := Owns.grow (by simp only [World.size_alloc]; omega) ho hr (by simp only [List.length_cons, List.length_nil]; omega)
  have hk13 : Keeps (fun _ => False) (w.alloc (.cells zeroC 83)) w3 := hkB.trans hk3 (fun b hb e => by have := owns_lt ho b e; rw [World.size_alloc] at hb; omega)
  have hsum := sum_calls ho3.bytes.reads (by simp only [List.length_append, List.length_cons, List.length_nil]; omega)
  obtain ⟨a, c, rfl, _, _⟩ := h.form
  obtain ⟨a3, c3, rfl, _, _⟩ := ho3.bytes.form
  obtain ⟨ds, hds⟩ : ∃ ds : Array Value, ds = ((leafOf p).map u8v).toArray := ⟨_, rfl⟩
  have hdz : ds.size = 32 := by rw [hds]; simp [leafOf_length]
  have hone : ds.all (·.oneCell') = true := by rw [hds]; exact bytes_one _
  rw [show ((sumOf ([0] ++ p)).map u8v).toArray = ds from hds.symm] at hsum
  rw [← hds]
  have HINF := Lib.hid (dig_info hdz)
  have HONE := Lib.hid hone
  have HDZ := Lib.hid hdz
  have HK := Lib.hid (hkA.trans hk13 (fun _ _ e => e))
  have HR := Lib.hid (hk13.at hrA (fun e => e))
  have HRUN := Lib.hid hrun
  have HSUM := Lib.hid hsum
  have HLT := Lib.hid (show w.heap.size < w3.heap.size from lt_of_heap (hk13.at hrA (fun e => e)))
  generalize ([0] ++ p).length = n3 at HRUN HSUM
  clear h hb hkA hrA hkB ho hr hrun ho3 hk3 hk13 hsum hds hdz hone
  go_enter Tryz.func45, Tryz.ntmps45
  go_wp2_with (at_builtin; refine wpList_append_run rfl _ _ _ _ rfl rfl rfl HRUN.out ?_)
  refine HSUM.out.mono ?_
  rintro e w4 ⟨rfl, hk4⟩
  have hr4 := hk4.at HR.out (fun e => e)
  have HK4 := Lib.hid ((HK.out.trans hk4 (fun _ _ e => e)).trans (keeps_setRow w4 w.heap.size ds) (fun b hb e => by omega))
  have HR4 := Lib.hid (setRow_heap w4 w.heap.size _ ds 83 _ hr4)
  have HR3 := Lib.hid hr4
  clear hk4 HK HSUM hr4 HR HRUN
  go_wp2_with (refine wpList_store_row rfl 83 _ _ rfl w.heap.size ds rfl rfl 83 _ HR3.out HINF.out (by rw [HDZ.out]; kernel_rfl) HONE.out ?_)
  refine bodyPost_ret (results_cell_row Tryz.results45 _ _ w.heap.size 83 ds (0, 0) _ rfl HR4.out Tryz.underlying83 rfl HINF.out) rfl ?_
  exact ⟨rfl, HK4.out⟩
theorem mk65 (w : World) : ∃ w', (Instr.makeSlice 36 (.int .i64 0) (.int .i64 65)).run Tryz.prog w = .ok (.slice (some ⟨w.heap.size, 0, none⟩) 0 65) w' ∧ Owns w' w.heap.size (.slice (some ⟨w.heap.size, 0, none⟩) 0 65) [] ∧ Keeps (fun _ => False) w w' ∧ w.heap.size < w'.heap.size := by
  obtain ⟨i0, hi, hz0, hz1, hz2⟩ := info_parts info_u8
  obtain ⟨w1, hmk, ho1, hg1⟩ := run_make_own (P := Tryz.prog) w w.heap.size 36 5 i0 _ 1 Tryz.underlying36 hi hz0 hz1 .i64 .i64 65 (by rw [hz2]; omega) (by unfold maxLen; omega) (Nat.le_refl _)
  exact ⟨w1, hmk, ho1, (Keeps.of_grown hg1).mono (fun b _ e => by cases e), (owns_lt ho1 w.heap.size rfl).1⟩
theorem reads_box {w : World} {b : Nat} {l : List UInt8} (h : w.heap[b]? = some (.cells (l.map u8v).toArray 83 (0, 0))) (hl : l.length = 32) : Reads w (.slice (some ⟨b, 0, none⟩) 32 32) l := by
  refine .inr ⟨_, 32, by rw [hl], by omega, by unfold maxLen; omega, fun j u hu => ?_⟩
  rw [Addr.add_lit, Nat.zero_add]
  exact cell_at h (by rw [List.getElem?_toArray]; exact hu)
set_option maxRecDepth 100000 in
set_option maxHeartbeats 2000000 in
theorem node_calls (w : World) (l r : Dg) (hl : l.length = 32) (hr : r.length = 32) : Calls Tryz.prog 156 #[.agg (l.map u8v).toArray, .agg (r.map u8v).toArray] w (QuietP w (.agg ((nodeOf l r).map u8v).toArray)) := by
  obtain ⟨ca, hca⟩ : ∃ ca : Array Value, ca = (l.map u8v).toArray := ⟨_, rfl⟩
  obtain ⟨cb, hcb⟩ : ∃ cb : Array Value, cb = (r.map u8v).toArray := ⟨_, rfl⟩
  obtain ⟨ds, hds⟩ : ∃ ds : Array Value, ds = ((nodeOf l r).map u8v).toArray := ⟨_, rfl⟩
  have hk1 : Keeps (fun _ => False) w (((w.alloc (.cells ca 83)).alloc (.cells cb 83)).alloc (.cells zeroC 83)) := (((Keeps.refl _ w).alloc _).alloc _).alloc _
  obtain ⟨w1, hw1⟩ : ∃ w1, w1 = ((w.alloc (.cells ca 83)).alloc (.cells cb 83)).alloc (.cells zeroC 83) := ⟨_, rfl⟩
  have hz1 : w1.heap.size = w.heap.size + 3 := by rw [hw1]; simp
  have hba : w1.heap[w.heap.size]? = some (.cells ca 83) := by
    rw [hw1]; exact (((Keeps.refl (fun _ => False) _).alloc _).alloc _).at (heap_alloc_new w _) (fun e => e)
  have hbb : w1.heap[w.heap.size + 1]? = some (.cells cb 83) := by
    rw [hw1]
    have := ((Keeps.refl (fun _ => False) _).alloc (.cells zeroC 83)).at (heap_alloc_new (w.alloc (.cells ca 83)) (.cells cb 83)) (fun e => e)
    rw [World.size_alloc] at this; exact this
  have hbc : w1.heap[w.heap.size + 2]? = some (.cells zeroC 83) := by
    rw [hw1]
    have := heap_alloc_new ((w.alloc (.cells ca 83)).alloc (.cells cb 83)) (.cells zeroC 83)
    rw [World.size_alloc, World.size_alloc] at this; exact this
  obtain ⟨w2, hmk, ho2, hk2, hlt2⟩ := mk65 w1
  rw [hz1] at hmk ho2 hlt2
  have hk3 : Keeps (fun _ => False) w2 (w2.alloc (.cells #[.int .u8 1] 5)) := (Keeps.refl _ w2).alloc _
  have hlit : Reads (w2.alloc (.cells #[.int .u8 1] 5)) (.slice (some ⟨w2.heap.size, 0, none⟩) 1 1) [1] := (owns_lit1 w2 1).bytes.reads
  obtain ⟨v4, w4, hrun4, ho4, hk4⟩ := Owns.grow (by rw [World.size_alloc]; omega) (ho2.keep hk3) hlit (by simp)
  have hk24 : Keeps (fun _ => False) w1 w4 := (hk2.trans hk3 (fun _ _ e => e)).trans hk4 (fun b hb e => by have := owns_lt ho2 b e; omega)
  have hk45 : Keeps (fun _ => False) w4 w4.drew := (Keeps.refl _ w4).drew
  have hrl : Reads w4.drew (.slice (some ⟨w.heap.size, 0, none⟩) 32 32) l := reads_box ((hk24.trans hk45 (fun _ _ e => e)).at (by rw [hca] at hba; exact hba) (fun e => e)) hl
  obtain ⟨v5, w5, hrun5, ho5, hk5⟩ := Owns.grow (by have := hk24.size; show w.heap.size + 3 ≤ w4.heap.size; omega) (ho4.keep hk45) hrl (by rw [hl]; simp)
  have hk15 : Keeps (fun _ => False) w1 w5 := (hk24.trans hk45 (fun _ _ e => e)).trans hk5 (fun b hb e => by have := owns_lt ho4 b e; omega)
  have hrr : Reads w5 (.slice (some ⟨w.heap.size + 1, 0, none⟩) 32 32) r := reads_box (hk15.at (by rw [hcb] at hbb; exact hbb) (fun e => e)) hr
  obtain ⟨v6, w6, hrun6, ho6, hk6⟩ := Owns.grow (by have := hk15.size; omega) ho5 hrr (by rw [List.length_append, List.length_append, hl, hr]; simp)
  have hk16 : Keeps (fun _ => False) w1 w6 := hk15.trans hk6 (fun b hb e => by have := owns_lt ho5 b e; omega)
  have hsum := sum_calls ho6.bytes.reads (by simp only [List.length_append, hl, hr]; simp)
  have hdz : ds.size = 32 := by rw [hds]; simp [nodeOf_length]
  have hone : ds.all (·.oneCell') = true := by rw [hds]; exact bytes_one _
  rw [show ((sumOf ((([] ++ [1]) ++ l) ++ r)).map u8v).toArray = ds by rw [hds]; unfold nodeOf; simp] at hsum
  have hoc : ca.all (·.oneCell') = true ∧ cb.all (·.oneCell') = true := by rw [hca, hcb]; exact ⟨bytes_one _, bytes_one _⟩
  have hsa := dall_run
  rw [hw1] at hmk
  have HOC := Lib.hid hoc
  have HS := Lib.hid (⟨by rw [hca]; simp [hl], by rw [hcb]; simp [hr]⟩ : ca.size = 32 ∧ cb.size = 32)
  rw [← hca, ← hcb, ← hds]
  have HINF := Lib.hid (dig_info hdz)
  have HONE := Lib.hid hone
  have HDZ := Lib.hid hdz
  rw [← hw1] at hk1
  have HK := Lib.hid (hk1.trans hk16 (fun _ _ e => e))
  have HR := Lib.hid (hk16.at hbc (fun e => e))
  have HR4 := Lib.hid hrun4
  have HR5 := Lib.hid hrun5
  have HR6 := Lib.hid hrun6
  have HSUM := Lib.hid hsum
  have HMK := Lib.hid hmk
  have HZ := Lib.hid (⟨by have := hk16.size; omega, hz1⟩ : w.heap.size + 2 < w6.heap.size ∧ w1.heap.size = w.heap.size + 3)
  clear hl hr hca hcb hds hk1 hw1 hz1 hba hbb hbc hmk ho2 hk2 hlt2 hk3 hlit hrun4 ho4 hk4 hk24 hk45 hrl hrun5 ho5 hk5 hk15 hrr hrun6 ho6 hk6 hk16 hsum hdz hone hoc
  go_enter Tryz.func156, Tryz.ntmps156
  go_wp2_with (first | (at_make; refine wpList_make_run rfl _ _ _ rfl rfl rfl HMK.out ?_) | (at_builtin; refine wpList_append_run rfl _ _ _ _ rfl rfl rfl HR4.out ?_))
  obtain ⟨gb, hgb⟩ : ∃ gb, gb = w.heap.size + 1 + 1 := ⟨_, rfl⟩
  rw [← hgb]
  have HRB := Lib.hid (show w6.heap[gb]? = some (.cells zeroC 83) by rw [hgb]; exact HR.out)
  have HGB := Lib.hid hgb
  have hds := HDZ.out
  have HZC := Lib.hid (show zeroC.size = ds.size by rw [hds]; kernel_rfl)
  clear hgb HR
  go_region_law (first | (refine step_append_run rfl _ _ _ _ rfl rfl rfl HR5.out ?_) | (refine step_append_run rfl _ _ _ _ rfl rfl rfl HR6.out ?_) | (refine step_wanted' rfl ?_; go_simp; go_at_call 116; refine HSUM.out.mono ?_; rintro e w7 ⟨rfl, hk7⟩; have hr7 := hk7.at HRB.out (fun e => e); have hst7 := cells_laid hr7 HZC.out HONE.out) | fail)
  all_goals
    have HR8 := Lib.hid (setRow_heap w7 gb _ ds 83 _ hr7)
    have hgb := HGB.out
    have hz := HZ.out.1
    have HF := Lib.hid ((HK.out.trans hk7 (fun _ _ e => e)).trans (keeps_setRow w7 gb ds) (fun b hb e => by omega) : Keeps (fun _ => False) w (w7.setRow gb ds))
    clear hst7 hr7 hk7 hds hgb hz hsa
    go_wp2_with fail
    refine bodyPost_ret (results_cell_row Tryz.results156 _ _ gb 83 ds (0, 0) _ rfl HR8.out Tryz.underlying83 rfl HINF.out) rfl ?_
    exact ⟨rfl, HF.out⟩
end Go.Proofs.YtaeabdghlkdkjaaGreat
