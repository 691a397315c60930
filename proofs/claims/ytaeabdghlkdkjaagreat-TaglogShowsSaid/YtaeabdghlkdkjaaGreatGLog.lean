/- taglog: what a log tells. -/
import Derived.Test.YtaeabdghlkdkjaaGreatMrkC
import Derived.Test.YtaeabdghlkdkjaaGreatGKey
import Derived.Test.YtaeabdghlkdkjaaGreatPkQ
import Derived.Test.YtaeabdghlkdkjaaGreatPush
namespace Go.Proofs.YtaeabdghlkdkjaaGreat
set_option linter.unusedVariables false
open Go.RowKit Go.MapKept

def logObj (t : Nat) (ve vl : Value) : Obj := .cells #[.pointer (some ⟨t, 0, none⟩), ve, vl] 173 (0, 0)
theorem log_cells {w : World} {g t : Nat} {ve vl : Value} (h : w.heap[g]? = some (logObj t ve vl)) : w.cell? ⟨g, 0, none⟩ = some (.pointer (some ⟨t, 0, none⟩)) ∧ w.cell? ⟨g, 1, none⟩ = some ve ∧ w.cell? ⟨g, 2, none⟩ = some vl ∧ ∀ i, w.frozen? ⟨g, i, none⟩ = false :=
  ⟨cell_at h rfl, cell_at h rfl, cell_at h rfl, fun i => free_at h i⟩
def leavesOf (es : List (List UInt8)) : List Dg := es.map leafOf
theorem leaves32 (es : List (List UInt8)) : Len32 (leavesOf es) := fun x hx => by
  obtain ⟨p, _, rfl⟩ := List.mem_map.1 hx
  exact leafOf_length p
/-- A log in memory, to be read. -/
structure LogAt (w : World) (g t : Nat) (ve vl : Value) (es : List (List UInt8)) : Prop where
  obj : w.heap[g]? = some (logObj t ve vl)
  rows : RowsIn w ve es
  leaves : DgIn w vl (leavesOf es)
theorem LogAt.keep {w w' : World} {g t : Nat} {ve vl : Value} {es : List (List UInt8)} (h : LogAt w g t ve vl es) (hk : Keeps (fun _ => False) w w') : LogAt w' g t ve vl es :=
  ⟨hk.at h.obj (fun e => e), h.rows.keep hk, h.leaves.keep hk⟩
theorem rows_form {w : World} {v : Value} {es : List (List UInt8)} (h : RowsIn w v es) : ∃ a c, v = .slice a es.length c := by
  obtain ⟨a, c, e, -⟩ := h
  exact ⟨a, c, e⟩
set_option maxRecDepth 100000 in
theorem gsize_runs {w : World} {g t : Nat} {ve vl : Value} {es : List (List UInt8)} (h : LogAt w g t ve vl es) : Runs 34 #[.pointer (some ⟨g, 0, none⟩)] w (.int .i64 (es.length : Int)) w := by
  unfold Runs
  obtain ⟨a, c, rfl⟩ := rows_form h.rows
  obtain ⟨-, c1, -, -⟩ := log_cells h.obj
  clear h
  go_enter Tryz.func34, Tryz.ntmps34
  go_wp2_with fail
  go_ret
  exact ⟨rfl, rfl⟩
theorem gsize_nil (w : World) : Runs 34 #[.pointer none] w (.int .i64 0) w := by
  unfold Runs
  go_enter Tryz.func34, Tryz.ntmps34
  go_wp2_with fail
  go_ret
  exact ⟨rfl, rfl⟩
set_option maxRecDepth 100000 in
theorem gfits_runs {w : World} {g t : Nat} {ve vl : Value} {es : List (List UInt8)} (h : LogAt w g t ve vl es) (n : Int) : Runs 105 #[.pointer (some ⟨g, 0, none⟩), .int .i64 n] w (.int .i64 (if n < 0 ∨ (es.length : Int) < n then 1 else 0)) w := by
  unfold Runs
  obtain ⟨a, c, rfl⟩ := rows_form h.rows
  obtain ⟨-, c1, -, -⟩ := log_cells h.obj
  clear h
  by_cases h0 : n < 0
  · rw [if_pos (.inl h0)]
    go_enter Tryz.func105, Tryz.ntmps105
    go_wp2_with fail
    go_ret
    exact ⟨rfl, rfl⟩
  · by_cases h1 : (es.length : Int) < n
    · rw [if_pos (.inr h1)]
      go_enter Tryz.func105, Tryz.ntmps105
      go_wp2_with fail
      go_ret
      exact ⟨rfl, rfl⟩
    · rw [if_neg (by omega)]
      go_enter Tryz.func105, Tryz.ntmps105
      go_wp2_with fail
      go_ret
      exact ⟨rfl, rfl⟩
theorem gfits_nil (w : World) (n : Int) : Runs 105 #[.pointer none, .int .i64 n] w (.int .i64 2) w := by
  unfold Runs
  go_enter Tryz.func105, Tryz.ntmps105
  go_wp2_with fail
  go_ret
  exact ⟨rfl, rfl⟩
/-- A digest and a code. -/
def DigPost2 (w : World) (D : Dg) (c : Int) (e : Ending) (w' : World) : Prop := e = .returned (.tuple #[.agg (D.map u8v).toArray, .int .i64 c]) ∧ Keeps (fun _ => False) w w'
set_option maxRecDepth 100000 in
set_option maxHeartbeats 1000000 in
/-- Root, where the number does not fit. -/
theorem groot_bad (w : World) (gv : Value) (n c : Int) (hc : c ≠ 0) (hf : ∀ W, Keeps (fun _ => False) w W → Runs 105 #[gv, .int .i64 n] W (.int .i64 c) W) : Calls Tryz.prog 36 #[gv, .int .i64 n] w (DigPost2 w zero32 c) := by
  have hr := hf (w.alloc (.cells zeroC 83)) ((Keeps.refl _ w).alloc _)
  have b0 : (c != 0) = true := by simpa using hc
  have HR := Lib.hid hr
  have HNB := Lib.hid (heap_alloc_new w (.cells zeroC 83))
  have HRW := Lib.hid (setRow_heap (w.alloc (.cells zeroC 83)) w.heap.size _ zeroC 83 _ (heap_alloc_new w (.cells zeroC 83)))
  have HF := Lib.hid (⟨rfl, ((Keeps.refl _ w).alloc (.cells zeroC 83)).trans (keeps_setRow _ w.heap.size zeroC) (fun b hb e => by omega)⟩ : DigPost2 w zero32 c (.returned (.tuple #[.agg zeroC, .int .i64 c])) ((w.alloc (.cells zeroC 83)).setRow w.heap.size zeroC))
  clear hr hf hc
  go_enter Tryz.func36, Tryz.ntmps36
  go_wp2_with fail
  refine HR.out.out.mono ?_; rintro e w' ⟨rfl, rfl⟩
  go_wp2_with (first | (refine wpList_build_as rfl 83 _ rfl zeroC zeroC_built ?_) | (refine wpList_store_row rfl 83 _ _ rfl w.heap.size zeroC rfl rfl 83 _ HNB.out (dig_info zeroC_size) rfl (by kernel_rfl) ?_))
  refine bodyPost_ret (res_dig2 Tryz.results36 _ _ w.heap.size zeroC zeroC_size rfl HRW.out) rfl ?_
  exact HF.out
set_option maxRecDepth 100000 in
set_option maxHeartbeats 1000000 in
theorem groot_calls {w : World} {g t : Nat} {ve vl : Value} {es : List (List UInt8)} (h : LogAt w g t ve vl es) (hl : es.length ≤ 256) {n : Nat} (hn : n ≤ es.length) : Calls Tryz.prog 36 #[.pointer (some ⟨g, 0, none⟩), .int .i64 (n : Int)] w (DigPost2 w (rootOf ((leavesOf es).take n)) 0) := by
  obtain ⟨W0, hW0⟩ : ∃ W0, W0 = w.alloc (.cells zeroC 83) := ⟨_, rfl⟩
  have hk1 : Keeps (fun _ => False) w W0 := by rw [hW0]; exact (Keeps.refl _ w).alloc _
  have hb0 : W0.heap[w.heap.size]? = some (.cells zeroC 83) := by rw [hW0]; exact heap_alloc_new w _
  have h1 := h.keep hk1
  have hfit := gfits_runs h1 (n : Int)
  rw [if_neg (by omega)] at hfit
  have hll : (leavesOf es).length = es.length := List.length_map _
  obtain ⟨vt, hsl, hdt⟩ := h1.leaves.take (k := n) (by omega)
  have hrt := root_calls 256 _ (by rw [List.length_take]; omega) (by rw [List.length_take]; omega) W0 vt hdt
  have hr32 := rootOf_length ((leaves32 es).take n)
  generalize rootOf ((leavesOf es).take n) = rt at *
  obtain ⟨ds, hds⟩ : ∃ ds : Array Value, ds = (rt.map u8v).toArray := ⟨_, rfl⟩
  rw [← hds] at hrt
  have hdz : ds.size = 32 := by rw [hds]; simp [hr32]
  have hone : ds.all (·.oneCell') = true := by rw [hds]; exact bytes_one _
  obtain ⟨-, -, c2, -⟩ := log_cells h1.obj
  obtain ⟨P, hP⟩ : ∃ P, DigPost2 w rt 0 = P := ⟨_, rfl⟩
  have HP := Lib.hid hP
  rw [hP]
  have HW0 := Lib.hid hW0
  have HFIT := Lib.hid hfit
  have HRT := Lib.hid hrt
  have HINF := Lib.hid (dig_info hdz)
  have HONE := Lib.hid hone
  have HDZ := Lib.hid (show zeroC.size = ds.size by rw [hdz]; kernel_rfl)
  have HD32 := Lib.hid hdz
  have HDS := Lib.hid hds
  have HB := Lib.hid hb0
  have HK := Lib.hid hk1
  have i0 : (0 : Int) ≤ n := by omega
  obtain ⟨la, lc, rfl, -, -⟩ := h1.leaves.form
  rw [hW0] at c2
  clear h hW0 hk1 hb0 h1 hfit hdt hrt hr32 hds hdz hone hP hl hn hll
  go_enter Tryz.func36, Tryz.ntmps36
  go_wp2_with fail
  change Calls _ _ _ (w.alloc (.cells zeroC 83)) _
  rw [← HW0.out]
  refine HFIT.out.out.mono ?_; rintro e w' ⟨rfl, rfl⟩
  rw [← HW0.out] at c2
  go_wp2_with fail
  refine HRT.out.mono ?_
  rintro e w4 ⟨rfl, hk4⟩
  have hr4 := hk4.at HB.out (fun e => e)
  have HF := Lib.hid (show P (.returned (.tuple #[.agg ds, .int .i64 0])) (w4.setRow w.heap.size ds) by rw [← HP.out, HDS.out]; exact ⟨rfl, (HK.out.trans hk4 (fun _ _ e => e)).trans (keeps_setRow w4 w.heap.size _) (fun b hb e => by omega)⟩)
  have HR4 := Lib.hid (setRow_heap w4 w.heap.size _ ds 83 _ hr4)
  have HR3 := Lib.hid hr4
  clear hk4 HK HRT hr4 HB c2 hsl
  go_wp2_with (refine wpList_store_row rfl 83 _ _ rfl w.heap.size ds rfl rfl 83 _ HR3.out HINF.out HDZ.out HONE.out ?_)
  refine bodyPost_ret (res_dig2 Tryz.results36 _ _ w.heap.size ds HD32.out rfl HR4.out) rfl ?_
  exact HF.out
end Go.Proofs.YtaeabdghlkdkjaaGreat
