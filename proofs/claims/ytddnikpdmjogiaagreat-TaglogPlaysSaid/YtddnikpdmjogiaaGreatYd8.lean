/- A part of the proof. -/
import Derived.Test.YtddnikpdmjogiaaGreatYb9
import Derived.Test.YtddnikpdmjogiaaGreatYc5
import Derived.Test.YtddnikpdmjogiaaGreatYd6
import Derived.Test.YtddnikpdmjogiaaGreatYd7
namespace Go.Proofs.YtddnikpdmjogiaaGreat
set_option linter.unusedVariables false
open Go.RowKit Go.MapKept
def logObj (t : Nat) (ve vl : Value) : Obj := .cells #[.pointer (some ⟨t, 0, none⟩), ve, vl] 117 (0, 0)
theorem log_cells {w : World} {g t : Nat} {ve vl : Value} (h : w.heap[g]? = some (logObj t ve vl)) : w.cell? ⟨g, 0, none⟩ = some (.pointer (some ⟨t, 0, none⟩)) ∧ w.cell? ⟨g, 1, none⟩ = some ve ∧ w.cell? ⟨g, 2, none⟩ = some vl ∧ ∀ i, w.frozen? ⟨g, i, none⟩ = false :=
 ⟨cell_at h rfl, cell_at h rfl, cell_at h rfl, fun i => free_at h i⟩
def leavesOf (es : List (List UInt8)) : List Dg := es.map leafOf
theorem leaves32 (es : List (List UInt8)) : Len32 (leavesOf es) := fun x hx => by
 obtain ⟨p, _, rfl⟩ := List.mem_map.1 hx
 exact leafOf_length p
structure LogAt (w : World) (g t : Nat) (ve vl : Value) (es : List (List UInt8)) : Prop where
 obj : w.heap[g]? = some (logObj t ve vl)
 rows : RowsIn w ve es
 leaves : DgIn w vl (leavesOf es)
theorem LogAt.keep {w w' : World} {g t : Nat} {ve vl : Value} {es : List (List UInt8)} (h : LogAt w g t ve vl es) (hk : Keeps (fun _ => False) w w') : LogAt w' g t ve vl es :=
 ⟨hk.at h.obj (fun e => e), h.rows.keep hk, h.leaves.keep hk⟩
theorem rows_form {w : World} {v : Value} {es : List (List UInt8)} (h : RowsIn w v es) : ∃ a c, v = .slice a es.length c := by
 obtain ⟨a, c, e, -⟩ := h
 exact ⟨a, c, e⟩
set_option maxRecDepth 100000 in
theorem gsize_runs {w : World} {g t : Nat} {ve vl : Value} {es : List (List UInt8)} (h : LogAt w g t ve vl es) : Runs 15 #[.pointer (some ⟨g, 0, none⟩)] w (.int .i64 (es.length : Int)) w := by
 unfold Runs
 obtain ⟨a, c, rfl⟩ := rows_form h.rows
 obtain ⟨-, c1, -, -⟩ := log_cells h.obj
 clear h
 go_enter Tryz.func15, Tryz.ntmps15
 go_wp2_with fail
 go_ret
 exact ⟨rfl, rfl⟩
set_option maxRecDepth 100000 in
theorem gfits_runs {w : World} {g t : Nat} {ve vl : Value} {es : List (List UInt8)} (h : LogAt w g t ve vl es) (n : Int) : Runs 92 #[.pointer (some ⟨g, 0, none⟩), .int .i64 n] w (.int .i64 (if n < 0 ∨ (es.length : Int) < n then 1 else 0)) w := by
 unfold Runs
 obtain ⟨a, c, rfl⟩ := rows_form h.rows
 obtain ⟨-, c1, -, -⟩ := log_cells h.obj
 clear h
 by_cases h0 : n < 0
 ·rw [if_pos (.inl h0)]
  go_enter Tryz.func92, Tryz.ntmps92
  go_wp2_with fail
  go_ret
  exact ⟨rfl, rfl⟩
 ·by_cases h1 : (es.length : Int) < n
  ·rw [if_pos (.inr h1)]
   go_enter Tryz.func92, Tryz.ntmps92
   go_wp2_with fail
   go_ret
   exact ⟨rfl, rfl⟩
  ·rw [if_neg (by omega)]
   go_enter Tryz.func92, Tryz.ntmps92
   go_wp2_with fail
   go_ret
   exact ⟨rfl, rfl⟩
def DigPost2 (w : World) (D : Dg) (c : Int) (e : Ending) (w' : World) : Prop := e = .returned (.tuple #[.agg (D.map u8v).toArray, .int .i64 c]) ∧ Keeps (fun _ => False) w w'
set_option maxRecDepth 100000 in
set_option maxHeartbeats 1000000 in
theorem groot_bad (w : World) (gv : Value) (n c : Int) (hc : c ≠ 0) (hf : ∀ W, Keeps (fun _ => False) w W → Runs 92 #[gv, .int .i64 n] W (.int .i64 c) W) : Calls Tryz.prog 31 #[gv, .int .i64 n] w (DigPost2 w zero32 c) := by
 have hr := hf (w.alloc (.cells zeroC 101)) ((Keeps.refl _ w).alloc _)
 have b0 : (c != 0) = true := by simpa using hc
 have HR := hyd hr
 have HNB := hyd (heap_alloc_new w (.cells zeroC 101))
 have HRW := hyd (setRow_heap (w.alloc (.cells zeroC 101)) w.heap.size _ zeroC 101 _ (heap_alloc_new w (.cells zeroC 101)))
 have HF := hyd (⟨rfl, ((Keeps.refl _ w).alloc (.cells zeroC 101)).trans (keeps_setRow _ w.heap.size zeroC) (fun b hb e => by omega)⟩ : DigPost2 w zero32 c (.returned (.tuple #[.agg zeroC, .int .i64 c])) ((w.alloc (.cells zeroC 101)).setRow w.heap.size zeroC))
 clear hr hf hc
 go_enter Tryz.func31, Tryz.ntmps31
 go_wp2_with fail
 refine HR.out.out.mono ?_; rintro e w' ⟨rfl, rfl⟩
 go_wp2_with (first | (refine wpList_build_as rfl 101 _ rfl zeroC zeroC_built ?_) | (refine wpList_store_row rfl 101 _ _ rfl w.heap.size zeroC rfl rfl 101 _ HNB.out (dig_info zeroC_size) rfl (by kernel_rfl) ?_))
 refine bodyPost_ret (res_dig2 Tryz.results31 _ _ w.heap.size zeroC zeroC_size rfl HRW.out) rfl ?_
 exact HF.out
set_option maxRecDepth 100000 in
set_option maxHeartbeats 1000000 in
theorem groot_calls {w : World} {g t : Nat} {ve vl : Value} {es : List (List UInt8)} (h : LogAt w g t ve vl es) (hl : es.length ≤ 256) {n : Nat} (hn : n ≤ es.length) : Calls Tryz.prog 31 #[.pointer (some ⟨g, 0, none⟩), .int .i64 (n : Int)] w (DigPost2 w (rootOf ((leavesOf es).take n)) 0) := by
 obtain ⟨W0, hW0⟩ : ∃ W0, W0 = w.alloc (.cells zeroC 101) := ⟨_, rfl⟩
 have hk1 : Keeps (fun _ => False) w W0 := by rw [hW0]; exact (Keeps.refl _ w).alloc _
 have hb0 : W0.heap[w.heap.size]? = some (.cells zeroC 101) := by rw [hW0]; exact heap_alloc_new w _
 have h1 := h.keep hk1
 have hfit := gfits_runs h1 (n : Int)
 rw [if_neg (by omega)] at hfit
 have hll : (leavesOf es).length = es.length := List.length_map _
 obtain ⟨vt, hsl, hdt⟩ := h1.leaves.take (k := n) (by omega)
 have hrt := root_calls 256 _ (by rw [List.length_take]; omega) (by rw [List.length_take]; omega) W0 vt hdt
 have hr32 := rootOf_length ((leaves32 es).take n)
 generalize rootOf ((leavesOf es).take n) = rt at *
 obtain ⟨ds, hds⟩ : ∃ ds : Array Value, ds = (rt.map u8v).toArray := ⟨_, rfl⟩
 rw [← hds] at hrt
 have hdz : ds.size = 32 := by rw [hds]; simp [hr32]
 have hone : ds.all (·.oneCell') = true := by rw [hds]; exact bytes_one _
 obtain ⟨-, -, c2, -⟩ := log_cells h1.obj
 obtain ⟨P, hP⟩ : ∃ P, DigPost2 w rt 0 = P := ⟨_, rfl⟩
 have HP := hyd hP
 rw [hP]
 have HW0 := hyd hW0
 have HFIT := hyd hfit
 have HRT := hyd hrt
 have HINF := hyd (dig_info hdz)
 have HONE := hyd hone
 have HDZ := hyd (show zeroC.size = ds.size by rw [hdz]; kernel_rfl)
 have HD32 := hyd hdz
 have HDS := hyd hds
 have HB := hyd hb0
 have HK := hyd hk1
 have i0 : (0 : Int) ≤ n := by omega
 obtain ⟨la, lc, rfl, -, -⟩ := h1.leaves.form
 rw [hW0] at c2
 clear h hW0 hk1 hb0 h1 hfit hdt hrt hr32 hds hdz hone hP hl hn hll
 go_enter Tryz.func31, Tryz.ntmps31
 go_wp2_with fail
 change Calls _ _ _ (w.alloc (.cells zeroC 101)) _
 rw [← HW0.out]
 refine HFIT.out.out.mono ?_; rintro e w' ⟨rfl, rfl⟩
 rw [← HW0.out] at c2
 go_wp2_with fail
 refine HRT.out.mono ?_
 rintro e w4 ⟨rfl, hk4⟩
 have hr4 := hk4.at HB.out (fun e => e)
 have HF := hyd (show P (.returned (.tuple #[.agg ds, .int .i64 0])) (w4.setRow w.heap.size ds) by rw [← HP.out, HDS.out]; exact ⟨rfl, (HK.out.trans hk4 (fun _ _ e => e)).trans (keeps_setRow w4 w.heap.size _) (fun b hb e => by omega)⟩)
 have HR4 := hyd (setRow_heap w4 w.heap.size _ ds 101 _ hr4)
 have HR3 := hyd hr4
 clear hk4 HK HRT hr4 HB c2 hsl
 go_wp2_with (refine wpList_store_row rfl 101 _ _ rfl w.heap.size ds rfl rfl 101 _ HR3.out HINF.out HDZ.out HONE.out ?_)
 refine bodyPost_ret (res_dig2 Tryz.results31 _ _ w.heap.size ds HD32.out rfl HR4.out) rfl ?_
 exact HF.out
def BytesPost2 (w : World) (p : List UInt8) (c : Int) (e : Ending) (w' : World) : Prop := ∃ v, e = .returned (.tuple #[v, .int .i64 c]) ∧ Owns w' w.heap.size v p ∧ Keeps (fun _ => False) w w'
set_option maxRecDepth 100000 in
theorem gentry_bad {w : World} {g t : Nat} {ve vl : Value} {es : List (List UInt8)} (h : LogAt w g t ve vl es) {i : Int} (hi : i < 0 ∨ (es.length : Int) ≤ i) : Runs 48 #[.pointer (some ⟨g, 0, none⟩), .int .i64 i] w (.tuple #[.slice none 0 0, .int .i64 1]) w := by
 unfold Runs
 obtain ⟨a, c, rfl⟩ := rows_form h.rows
 obtain ⟨-, c1, -, -⟩ := log_cells h.obj
 clear h
 by_cases h0 : i < 0
 ·clear hi
  go_enter Tryz.func48, Tryz.ntmps48
  go_wp2_with fail
  go_ret2
  exact ⟨rfl, rfl⟩
 ·have h1 : (es.length : Int) ≤ i := by omega
  clear hi
  go_enter Tryz.func48, Tryz.ntmps48
  go_wp2_with fail
  go_ret2
  exact ⟨rfl, rfl⟩
set_option maxRecDepth 100000 in
theorem gentry_calls {w : World} {g t : Nat} {ve vl : Value} {es : List (List UInt8)} (h : LogAt w g t ve vl es) {i : Nat} {p : List UInt8} (hp : es[i]? = some p) (hpl : p.length ≤ 140737488355328) : Calls Tryz.prog 48 #[.pointer (some ⟨g, 0, none⟩), .int .i64 (i : Int)] w (BytesPost2 w p 0) := by
 obtain ⟨hi, -⟩ := List.getElem?_eq_some_iff.1 hp
 obtain ⟨a, c, rfl, h2⟩ := h.rows
 obtain ⟨x, pv, rfl, hx, hpr⟩ := h2 i p hp
 obtain ⟨-, c1, -, -⟩ := log_cells h.obj
 obtain ⟨v, w1, hcl, hv, hk⟩ := clone_owns hpr hpl
 obtain ⟨pa, pc, rfl, -, -⟩ := hpr.form
 have i0 : (0 : Int) ≤ i := by omega
 have i1 : (i : Int) < es.length := by omega
 have HF := hyd (⟨_, rfl, hv, hk⟩ : BytesPost2 w p 0 (.returned (.tuple #[v, .int .i64 0])) w1)
 have HCL := hyd hcl
 clear h h2 hp hpr hcl hv hk hi hpl
 go_enter Tryz.func48, Tryz.ntmps48
 go_wp2_with fail
 refine HCL.out.out.mono ?_; rintro e w' ⟨rfl, rfl⟩
 go_wp2_with fail
 go_ret2
 exact HF.out
set_option maxRecDepth 100000 in
theorem gpath_bad (w : World) (gv : Value) (i n c : Int) (hc : c ≠ 0) (hf : Runs 92 #[gv, .int .i64 n] w (.int .i64 c) w) : Calls Tryz.prog 47 #[gv, .int .i64 i, .int .i64 n] w (DigsPost2 w [] c) := by
 have b0 : (c != 0) = true := by simpa using hc
 have HR := hyd hf
 clear hf hc
 go_enter Tryz.func47, Tryz.ntmps47
 go_wp2_with fail
 refine HR.out.out.mono ?_; rintro e w' ⟨rfl, rfl⟩
 go_wp2_with fail
 go_ret2
 exact ⟨_, rfl, Digs.nil _ _, Keeps.refl _ _⟩
set_option maxRecDepth 100000 in
set_option maxHeartbeats 1000000 in
theorem gpath_calls {w : World} {g t : Nat} {ve vl : Value} {es : List (List UInt8)} (h : LogAt w g t ve vl es) (hl : es.length ≤ 256) (i : Int) {n : Nat} (hn : n ≤ es.length) :
  Calls Tryz.prog 47 #[.pointer (some ⟨g, 0, none⟩), .int .i64 i, .int .i64 (n : Int)] w (DigsPost2 w (if 0 ≤ i ∧ i < (n : Int) then pathOf ((leavesOf es).take n) i.toNat else []) (if 0 ≤ i ∧ i < (n : Int) then 0 else 1)) := by
 have hfit := gfits_runs h (n : Int)
 rw [if_neg (by omega)] at hfit
 have hll : (leavesOf es).length = es.length := List.length_map _
 obtain ⟨vt, hsl, hdt⟩ := h.leaves.take (k := n) (by omega)
 have htl : ((leavesOf es).take n).length = n := by rw [List.length_take]; omega
 have hm := mpath_calls (L := (leavesOf es).take n) (by omega) w vt i hdt
 rw [htl] at hm
 generalize (if 0 ≤ i ∧ i < (n : Int) then pathOf ((leavesOf es).take n) i.toNat else []) = rt at *
 generalize ((if 0 ≤ i ∧ i < (n : Int) then 0 else 1) : Int) = rc at *
 obtain ⟨-, -, c2, -⟩ := log_cells h.obj
 obtain ⟨la, lc, rfl, -, -⟩ := h.leaves.form
 have HFIT := hyd hfit
 have HM := hyd hm
 have i0 : (0 : Int) ≤ n := by omega
 clear h hfit hm htl hll hdt hl hn
 go_enter Tryz.func47, Tryz.ntmps47
 go_wp2_with fail
 refine HFIT.out.out.mono ?_; rintro e w' ⟨rfl, rfl⟩
 go_wp2_with fail
 refine HM.out.mono ?_
 rintro e w1 ⟨v1, rfl, hd, hk⟩
 have HF := hyd (⟨_, rfl, hd, hk⟩ : DigsPost2 w rt rc (.returned (.tuple #[v1, .int .i64 rc])) w1)
 clear hd hk HM
 go_wp2_with fail
 go_ret2
 exact HF.out
set_option maxRecDepth 100000 in
theorem gproof_bad (w : World) (gv : Value) (i n c : Int) (hc : c ≠ 0) (hf : Runs 92 #[gv, .int .i64 n] w (.int .i64 c) w) : Calls Tryz.prog 32 #[gv, .int .i64 i, .int .i64 n] w (DigsPost2 w [] c) := by
 have b0 : (c != 0) = true := by simpa using hc
 have HR := hyd hf
 clear hf hc
 go_enter Tryz.func32, Tryz.ntmps32
 go_wp2_with fail
 refine HR.out.out.mono ?_; rintro e w' ⟨rfl, rfl⟩
 go_wp2_with fail
 go_ret2
 exact ⟨_, rfl, Digs.nil _ _, Keeps.refl _ _⟩
set_option maxRecDepth 100000 in
set_option maxHeartbeats 1000000 in
theorem gproof_calls {w : World} {g t : Nat} {ve vl : Value} {es : List (List UInt8)} (h : LogAt w g t ve vl es) (hl : es.length ≤ 256) (i : Int) {n : Nat} (hn : n ≤ es.length) :
  Calls Tryz.prog 32 #[.pointer (some ⟨g, 0, none⟩), .int .i64 i, .int .i64 (n : Int)] w (DigsPost2 w (if 0 < i ∧ i ≤ (n : Int) then proofOf ((leavesOf es).take n) i.toNat true else []) (if 0 ≤ i ∧ i ≤ (n : Int) then 0 else 1)) := by
 have hfit := gfits_runs h (n : Int)
 rw [if_neg (by omega)] at hfit
 have hll : (leavesOf es).length = es.length := List.length_map _
 obtain ⟨vt, hsl, hdt⟩ := h.leaves.take (k := n) (by omega)
 have htl : ((leavesOf es).take n).length = n := by rw [List.length_take]; omega
 have hm := mproof_calls (L := (leavesOf es).take n) (by omega) w vt i hdt
 rw [htl] at hm
 generalize (if 0 < i ∧ i ≤ (n : Int) then proofOf ((leavesOf es).take n) i.toNat true else []) = rt at *
 generalize ((if 0 ≤ i ∧ i ≤ (n : Int) then 0 else 1) : Int) = rc at *
 obtain ⟨-, -, c2, -⟩ := log_cells h.obj
 obtain ⟨la, lc, rfl, -, -⟩ := h.leaves.form
 have HFIT := hyd hfit
 have HM := hyd hm
 have i0 : (0 : Int) ≤ n := by omega
 clear h hfit hm htl hll hdt hl hn
 go_enter Tryz.func32, Tryz.ntmps32
 go_wp2_with fail
 refine HFIT.out.out.mono ?_; rintro e w' ⟨rfl, rfl⟩
 go_wp2_with fail
 refine HM.out.mono ?_
 rintro e w1 ⟨v1, rfl, hd, hk⟩
 have HF := hyd (⟨_, rfl, hd, hk⟩ : DigsPost2 w rt rc (.returned (.tuple #[v1, .int .i64 rc])) w1)
 clear hd hk HM
 go_wp2_with fail
 go_ret2
 exact HF.out
theorem fold_set : ∀ (l : List Value) (k : Nat) (arr : Array Value), arr.size = k + l.length → List.foldl (fun (cs : Array Value) (x : Value × Nat) => cs.setIfInBounds x.snd x.fst) arr (l.zipIdx k) = (arr.toList.take k ++ l).toArray
 | [], k, arr, h => by
  rw [List.take_of_length_le (by simp at h ⊢; omega)]
  simp
 | v :: l, k, arr, h => by
  rw [List.zipIdx_cons, List.foldl_cons, fold_set l (k + 1) (arr.setIfInBounds k v) (by rw [Array.size_setIfInBounds, h, List.length_cons]; omega)]
  congr 1
  have hk : k < arr.toList.length := by rw [List.length_cons] at h; simp; omega
  rw [Array.toList_setIfInBounds, List.take_add_one, List.take_set_of_le (by omega), List.getElem?_set_self hk]
  simp
theorem fold32 {cl : List Value} (h : cl.length = 32) : List.foldl (fun (cs : Array Value) (x : Value × Nat) => cs.setIfInBounds x.snd x.fst) #[.int .u8 0, .int .u8 0, .int .u8 0, .int .u8 0, .int .u8 0, .int .u8 0, .int .u8 0, .int .u8 0, .int .u8 0, .int .u8 0, .int .u8 0, .int .u8 0, .int .u8 0, .int .u8 0, .int .u8 0, .int .u8 0, .int .u8 0, .int .u8 0, .int .u8 0, .int .u8 0, .int .u8 0, .int .u8 0, .int .u8 0, .int .u8 0, .int .u8 0, .int .u8 0, .int .u8 0, .int .u8 0, .int .u8 0, .int .u8 0, .int .u8 0, .int .u8 0] cl.zipIdx = cl.toArray := by
 rw [fold_set cl 0 _ (by simp [h])]
 simp
def gRes (B g t : Nat) (ve vl : Value) (es : List (List UInt8)) : List (Res B) := [rObj B g (logObj t ve vl), rRows B ve es, rDigs B vl (leavesOf es)]
section
variable {w wr : World} {g t : Nat} {ve vl : Value} {es : List (List UInt8)} {rs : List (Res w.heap.size)}
theorem Own.logAt (h : Own w wr rs) (h1 : rObj w.heap.size g (logObj t ve vl) ∈ rs) (h2 : rRows w.heap.size ve es ∈ rs) (h3 : rDigs w.heap.size vl (leavesOf es) ∈ rs) : LogAt wr g t ve vl es :=
 ⟨(h.at h1).1, (h.rows h2).1, (h.digs h3).ins⟩
end
set_option maxRecDepth 100000 in
set_option maxHeartbeats 2000000 in
theorem gadd_calls {w w0 : World} {g t : Nat} {ve vl : Value} {es : List (List UInt8)} {rs : List (Res w.heap.size)} (h : Own w w0 (gRes w.heap.size g t ve vl es ++ rs)) (hl : es.length < 1099511627776) {pv : Value} {p : List UInt8} (hpl : p.length ≤ 70368744177662)
  (hp : ∀ (wr : World) (ls : List (Res w.heap.size)), Own w wr (ls ++ rs) → Reads wr pv p) :
  Calls Tryz.prog 45 #[.pointer (some ⟨g, 0, none⟩), pv] w0 (fun e w' => e = .returned (.tuple #[]) ∧ ∃ ve' vl', Own w w' (gRes w.heap.size g t ve' vl' (es ++ [p]) ++ rs)) := by
 have h0 : Own w w0 (rObj w.heap.size g (logObj t ve vl) :: rRows w.heap.size ve es :: rDigs w.heap.size vl (leavesOf es) :: rs) := h
 have hd0 := h0.drew
 obtain ⟨v1, w1, hcl, hv1, hk1⟩ := clone_owns (hp w0.drew [_, _, _] hd0) (by omega)
 obtain ⟨ra, rc, w2, hrun2, h2⟩ := (hd0.swap).pushRec hv1 hk1 hl
 have h3 : Own w (w2.setCell ⟨g, 1, none⟩ (.slice ra (es.length + 1) rc)) (rObj w.heap.size g (logObj t (.slice ra (es.length + 1) rc) vl) :: rRows w.heap.size (.slice ra (es.length + 1) rc) (es ++ [p]) :: rDigs w.heap.size vl (leavesOf es) :: rs) := h2.swap.store 1 _
 have hlf := leaf_calls (hp _ [_, _, _] h3.drew) (by omega)
 obtain ⟨-, c1, -, -⟩ := log_cells (hd0.at (b := g) (o := logObj t ve vl) (by simp)).1
 obtain ⟨-, c1', -, -⟩ := log_cells ((hd0.quiet hk1).at (b := g) (o := logObj t ve vl) (by simp)).1
 obtain ⟨-, c1a, -, -⟩ := log_cells (((hd0.quiet hk1).alloc (.cells #[v1] 36)).at (b := g) (o := logObj t ve vl) (by simp)).1
 obtain ⟨-, c1'', -, f1''⟩ := log_cells (h2.at (b := g) (o := logObj t ve vl) (by simp)).1
 have f1 := f1'' 1
 obtain ⟨-, -, c2, -⟩ := log_cells (h3.at (b := g) (o := logObj t (.slice ra (es.length + 1) rc) vl) (by simp)).1
 obtain ⟨va, vc, hve⟩ : ∃ a c, ve = .slice a es.length c := rows_form (h0.rows (v := ve) (ll := es) (by simp)).1
 obtain ⟨pa, pc, hpv, -, -⟩ := (hp w0.drew [_, _, _] hd0).form
 obtain ⟨qa, qc, hqv, -, -⟩ := hv1.bytes.form
 subst hve
 subst hpv
 subst hqv
 have HCL := hyd hcl
 have HR2 := hyd hrun2
 have H3 := hyd h3
 have HLF := hyd hlf
 have L32 := leafOf_length p
 obtain ⟨cl, hcl2⟩ : ∃ cl : List Value, cl = (leafOf p).map u8v := ⟨_, rfl⟩
 rw [← hcl2] at HLF
 have hclz : cl.length = 32 := by rw [hcl2, List.length_map, L32]
 have hfo := fold32 hclz
 have HC2 := hyd hcl2
 have HL32 := hyd (⟨L32, by rw [show (leavesOf es).length = es.length from List.length_map _]; exact hl⟩ : (leafOf p).length = 32 ∧ (leavesOf es).length < 1099511627776)
 have HSN := hyd (show leavesOf (es ++ [p]) = leavesOf es ++ [leafOf p] by unfold leavesOf; rw [List.map_append]; rfl)
 generalize es.length = ne at *
 generalize p.length = np at *
 clear h h0 hd0 hcl hv1 hk1 hrun2 h2 h3 hlf hp hcl2 L32 hpl hl f1''
 go_enter Tryz.func45, Tryz.ntmps45
 go_wp2_with fail
 go_region_law (first | (refine step_append_run rfl _ _ _ _ rfl rfl rfl HR2.out ?_) | (refine step_wanted' rfl ?_; go_simp; go_at_call 85; refine HCL.out.out.mono ?_; rintro e w' ⟨rfl, rfl⟩) | fail)
 all_goals
  obtain ⟨w3, hw3⟩ : ∃ w3, w3 = w2.setCell ⟨g, 1, none⟩ (.slice ra (ne + 1) rc) := ⟨_, rfl⟩
  rw [← hw3] at H3 HLF c2 ⊢
  clear hw3 c1 c1' c1a c1'' f1 HR2 HCL
  go_wp2_with fail
  have HX := hyd (fun (w7 : World) (hk : Keeps (fun _ => False) w3.drew w7) => ((H3.out.drew).quiet hk).third.swap.tuck2)
  clear H3
  go_region_law (first | (refine step_append_run rfl _ _ _ _ rfl rfl rfl hrun8 ?_) | (refine step_wanted' rfl ?_; go_simp; go_at_call 33; refine HLF.out.mono ?_; rintro e w7 ⟨rfl, hk7⟩; have h7 := HX.out w7 hk7; have h7a := h7.quiet ((Keeps.refl _ w7).alloc (.cells cl.toArray 101)); obtain ⟨-, -, c27, -⟩ := log_cells (h7.at (b := g) (o := logObj t (.slice ra (ne + 1) rc) vl) (by simp)).1; obtain ⟨-, -, c27a, -⟩ := log_cells (h7a.at (b := g) (o := logObj t (.slice ra (ne + 1) rc) vl) (by simp)).1; obtain ⟨da, dc, w8, hrun8, h8⟩ := h7a.pushDig HL32.out.1 (b := w7.heap.size) (fun k u hu => by rw [Nat.zero_add]; exact cell_at (heap_alloc_new w7 (.cells cl.toArray 101)) (by rw [List.getElem?_toArray, HC2.out]; exact hu)) HL32.out.2; obtain ⟨-, -, c28, f28⟩ := log_cells (h8.at (b := g) (o := logObj t (.slice ra (ne + 1) rc) vl) (by simp)).1; have f28' := f28 2) | fail)
  all_goals
   have h9 := (h8.third.store 2 (.slice da ((leavesOf es).length + 1) dc))
   have HF := hyd (show Own w (w8.setCell ⟨g, 2, none⟩ (.slice da ((leavesOf es).length + 1) dc)) (gRes w.heap.size g t (.slice ra (ne + 1) rc) (.slice da ((leavesOf es).length + 1) dc) (es ++ [p]) ++ rs) by unfold gRes; rw [HSN.out]; exact (h9.tuck2).swap.third)
   clear h9 h8 hrun8 c28 f28 f28' c27 c27a h7 h7a hk7 c2 hfo
   go_wp2_with fail
   go_end0
   exact ⟨rfl, _, _, HF.out⟩
set_option maxRecDepth 100000 in
theorem chclone_nil (w : World) : Calls Tryz.prog 56 #[.slice none 0 0] w fun e w' => e = .returned (.slice none 0 0) ∧ w = w' := by
 have hq := Lib.run_eql_slice_nil (P := Tryz.prog) w 40 112 none 0 0 0 0 Tryz.underlying40
 go_enter Tryz.func56, Tryz.ntmps56
 go_wp2
 go_ret
 exact ⟨rfl, rfl⟩
def rRaw (B : Nat) (v : Value) (T size n : Nat) (xs : List Value) : Res B := ⟨fun F w => w.ownsRow 0 T size v n xs ∧ ∀ b, v.ownBlock = some b → F b, fun _ _ _ h hk => ⟨rrow_keep h.1 (fun b hb => hk b (.inl (h.2 b hb))), h.2⟩⟩
theorem own_after4 {w wr : World} {a b c d r : Res w.heap.size} {rs : List (Res w.heap.size)} (h : Own w wr (r :: a :: b :: c :: d :: rs)) : Own w wr (a :: b :: c :: d :: r :: rs) := h.perm (List.perm_middle (l₁ := [a, b, c, d])).symm
theorem own_before4 {w wr : World} {a b c d r : Res w.heap.size} {rs : List (Res w.heap.size)} (h : Own w wr (a :: b :: c :: d :: r :: rs)) : Own w wr (r :: a :: b :: c :: d :: rs) := Own.pull (l₁ := [a, b, c, d]) h
theorem one_change (w : World) (k : ByteArray) {pv : Value} (hpv : pv.oneCell' = true) : ∃ a c w', (Builtin.append_ #[40, 40] 40 #[.slice none 0 0, .slice (some ⟨w.heap.size, 0, none⟩) 1 1]).run Tryz.prog (w.alloc (.cells #[.string k, .bool false, pv] 112)) = .ok (.slice a 1 c) w' ∧
  w'.ownsRow w.heap.size 112 3 (.slice a 1 c) 1 [.string k, .bool false, pv] ∧ Keeps (fun _ => False) w w' := by
 obtain ⟨i0, hi, hz0', hz1, hz2⟩ := info_parts info_tchange
 obtain ⟨v', w', hrun, ho2, hg, _, hat⟩ := run_append_own_at (P := Tryz.prog) (w.alloc (.cells #[.string k, .bool false, pv] 112)) w.heap.size 40 40 112 i0 _ 3 48 Tryz.underlying40 hi hz0' hz1 hz2 rfl (by omega) (.slice none 0 0) 0 [] ⟨rfl, .inl ⟨rfl, rfl⟩⟩ ⟨w.heap.size, 0, none⟩ 1 1 [.string k, .bool false, pv] rfl
  (fun j u hu => by
   rw [Addr.add_lit, Nat.zero_add]
   exact cell_at (heap_alloc_new w _) (by simpa using hu))
  (by intro u hu; simp at hu; rcases hu with rfl | rfl | rfl; rfl; rfl; exact hpv) (by unfold maxLen; omega) (by omega) (by simp only [World.size_alloc]; omega)
 obtain ⟨a, c, rfl⟩ := ownsRow_slice ho2
 exact ⟨a, c, w', hrun, ho2, ((Keeps.refl _ w).alloc _).trans ((Keeps.of_grown hg).mono (fun b _ e => by cases e)) (fun _ _ e => e)⟩
theorem raw_in {w wr : World} {rs : List (Res w.heap.size)} {a : Option Addr} {n c : Nat} {k : ByteArray} {pv : Value} {p : List UInt8} (h : Own w wr rs) (hm : rRaw w.heap.size (.slice a n c) 112 3 1 [.string k, .bool false, pv] ∈ rs) (hp : Reads wr pv p) : TChsIn wr a [⟨k, false, p⟩] := by
 obtain ⟨F, ⟨ho, _⟩, _⟩ := h.mem hm
 rcases ho.2 with ⟨-, e⟩ | ⟨g, cap, cur, e, _, hb, _⟩
 ·omega
 ·simp only [Value.slice.injEq] at e
  obtain ⟨rfl, -, -⟩ := e
  intro i ch hc
  match i, hc with
  | 0, hc =>
   cases hc
   have h0 := ho.cells (g := g) rfl 0 _ rfl
   have h1 := ho.cells (g := g) rfl 1 _ rfl
   have h2 := ho.cells (g := g) rfl 2 _ rfl
   exact ⟨_, _, rfl, h0, h1, h2, hp⟩
  | i + 1, hc => simp at hc
def GAddPost (w : World) (d j t b g : Nat) (nm : ByteArray) (rs : List (Res w.heap.size)) (es : List (List UInt8)) (p : List UInt8) (r : Int × TM) (e : Ending) (w' : World) : Prop :=
 ∃ ve vl, e = .returned (.int .i64 r.1) ∧ Own w w' (tRes w.heap.size d j t b nm r.2 ++ (gRes w.heap.size g t ve vl (if r.1 = 0 then es ++ [p] else es) ++ rs))
theorem u64_small {k : Nat} (h : k < 18446744073709551616) : IntKind.u64.wrap (k : Int) = (k : Int) := by
 simp only [IntKind.wrap, IntKind.signed, IntKind.bits]
 simp
 omega
set_option maxRecDepth 100000 in
set_option maxHeartbeats 4000000 in
theorem gAdd_calls {w w0 : World} {d j t b g : Nat} {nm : ByteArray} {T : TM} {ve vl : Value} {es : List (List UInt8)} {rs : List (Res w.heap.size)} (h : Own w w0 (tRes w.heap.size d j t b nm T ++ (gRes w.heap.size g t ve vl es ++ rs)))
  {n : Nat} (hg : Good T.m n) (hn : n < 549755813888) (hs : T.size ≤ 1099511627776) (hl : es.length < 1048576) {pv : Value} {p : List UInt8} (hpl : p.length ≤ 70368744177662) (hp : ∀ (wr : World) (ls : List (Res w.heap.size)), Own w wr (ls ++ rs) → Reads wr pv p) :
  Calls Tryz.prog 19 #[.pointer (some ⟨g, 0, none⟩), pv, .slice none 0 0] w0 (GAddPost w d j t b g nm rs es p (tAppOf T nm [⟨keyOf es.length, false, p⟩])) := by
 have hd0 := h.drew
 have hob : ∀ {W : World} {T' : TM}, Own w W (tRes w.heap.size d j t b nm T' ++ (gRes w.heap.size g t ve vl es ++ rs)) → W.cell? ⟨g, 0, none⟩ = some (.pointer (some ⟨t, 0, none⟩)) ∧ W.cell? ⟨g, 1, none⟩ = some ve := fun {W T'} h => by
  obtain ⟨c0, c1, -, -⟩ := log_cells (h.at (b := g) (o := logObj t ve vl) (by simp [gRes])).1
  exact ⟨c0, c1⟩
 obtain ⟨va, vc, hve⟩ : ∃ a c, ve = .slice a es.length c := rows_form (h.rows (v := ve) (ll := es) (by simp [gRes])).1
 subst hve
 obtain ⟨pa, pc, hpv, -, -⟩ := (hp w0 (tRes w.heap.size d j t b nm T ++ gRes w.heap.size g t _ vl es) (by rw [List.append_assoc]; exact h)).form
 subst hpv
 have hk0 := key_calls w0.drew (es.length : Int) es.length (u64_small (by omega)) (by omega)
 -- behind the key: the row of one change
 have hX : ∀ w1, Keeps (fun _ => False) w0.drew w1 → ∃ a c w2, (Builtin.append_ #[40, 40] 40 #[.slice none 0 0, .slice (some ⟨w1.heap.size, 0, none⟩) 1 1]).run Tryz.prog (w1.alloc (.cells #[.string (keyOf es.length), .bool false, .slice pa p.length pc] 112)) = .ok (.slice a 1 c) w2 ∧
   (w2.cell? ⟨g, 0, none⟩ = some (.pointer (some ⟨t, 0, none⟩)) ∧ w2.cell? ⟨g, 1, none⟩ = some (.slice va es.length vc)) ∧ ((w1.alloc (.cells #[.string (keyOf es.length), .bool false, .slice pa p.length pc] 112)).cell? ⟨g, 0, none⟩ = some (.pointer (some ⟨t, 0, none⟩)) ∧ (w1.alloc (.cells #[.string (keyOf es.length), .bool false, .slice pa p.length pc] 112)).cell? ⟨g, 1, none⟩ = some (.slice va es.length vc)) ∧
   Calls Tryz.prog 10 #[.pointer (some ⟨t, 0, none⟩), .slice a 1 c] w2 (fun e w3 => e = .returned (.int .i64 (tAppOf T nm [⟨keyOf es.length, false, p⟩]).1) ∧ Own w w3 (tRes w.heap.size d j t b nm (tAppOf T nm [⟨keyOf es.length, false, p⟩]).2 ++ (gRes w.heap.size g t (.slice va es.length vc) vl es ++ rs))) := fun w1 hk1 => by
  obtain ⟨a, c, w2, hrun, hrow, hk2⟩ := one_change w1 (keyOf es.length) (pv := .slice pa p.length pc) rfl
  have h1 := hd0.quiet hk1
  have h2 : Own w w2 (rRaw w.heap.size (.slice a 1 c) 112 3 1 [.string (keyOf es.length), .bool false, .slice pa p.length pc] :: (tRes w.heap.size d j t b nm T ++ (gRes w.heap.size g t (.slice va es.length vc) vl es ++ rs))) :=
   h1.add hk2 (r := rRaw _ (.slice a 1 c) 112 3 1 [.string (keyOf es.length), .bool false, .slice pa p.length pc]) (G := fun b => (Value.slice a 1 c).ownBlock = some b) ⟨ownsRow_base0 hrow (Nat.zero_le _), fun _ hb => hb⟩ (fun b hb => by
    have := hrow.lt b hb
    omega)
  have h3 : Own w w2 (tRes w.heap.size d j t b nm T ++ (rRaw w.heap.size (.slice a 1 c) 112 3 1 [.string (keyOf es.length), .bool false, .slice pa p.length pc] :: (gRes w.heap.size g t (.slice va es.length vc) vl es ++ rs))) := own_after4 h2
  have hcm : 1 ≤ c ∧ c ≤ maxLen := by
   rcases hrow.2 with ⟨-, e⟩ | ⟨g', cap, cur, e, _, _, k1, k2, _⟩
   ·omega
   ·cases e; exact ⟨k1, k2⟩
  refine ⟨a, c, w2, hrun, hob (h2.drop), hob (h1.alloc _).drop, ?_⟩
  refine (tapply_callsO h3 hg hn hs (a := a) (c := c) (l := [⟨keyOf es.length, false, p⟩]) (fun wr ls ho => raw_in (n := 1) (c := c) ho (by simp) (hp wr (ls ++ (rRaw w.heap.size (.slice a 1 c) 112 3 1 [.string (keyOf es.length), .bool false, .slice pa p.length pc] :: gRes w.heap.size g t (.slice va es.length vc) vl es)) (by rw [List.append_assoc]; exact ho))) hcm.1 hcm.2).mono ?_
  rintro e w3 ⟨rfl, h4⟩
  exact ⟨rfl, (own_before4 h4).drop⟩
 obtain ⟨R, hR⟩ : ∃ R, tAppOf T nm [⟨keyOf es.length, false, p⟩] = R := ⟨_, rfl⟩
 rw [hR] at hX ⊢
 obtain ⟨rc, rT⟩ := R
 have hfin : ∀ w3, Own w w3 (tRes w.heap.size d j t b nm rT ++ (gRes w.heap.size g t (.slice va es.length vc) vl es ++ rs)) → Calls Tryz.prog 45 #[.pointer (some ⟨g, 0, none⟩), .slice pa p.length pc] w3 (fun e w' => e = .returned (.tuple #[]) ∧ ∃ ve' vl', Own w w' (tRes w.heap.size d j t b nm rT ++ (gRes w.heap.size g t ve' vl' (es ++ [p]) ++ rs))) := fun w3 h3 => by
  have h4 : Own w w3 (gRes w.heap.size g t (.slice va es.length vc) vl es ++ (tRes w.heap.size d j t b nm rT ++ rs)) := h3.perm (by rw [← List.append_assoc, ← List.append_assoc]; exact (List.perm_append_comm).append_right _)
  refine (gadd_calls h4 (by omega) hpl (fun wr ls ho => hp wr (ls ++ tRes w.heap.size d j t b nm rT) (by rw [List.append_assoc]; exact ho))).mono ?_
  rintro e w' ⟨rfl, ve', vl', h5⟩
  exact ⟨rfl, ve', vl', h5.perm (by rw [← List.append_assoc, ← List.append_assoc]; exact (List.perm_append_comm).append_right _)⟩
 obtain ⟨c0, c1⟩ := hob h
 have hc0 := hob hd0
 have HX := hyd hX
 have HOB := hyd (fun W T' h => hob (W := W) (T' := T') h)
 have HFIN := hyd hfin
 have HK0 := hyd hk0
 have HC1 := hyd (fun w1 (hk : Keeps (fun _ => False) w0.drew w1) => hob (hd0.quiet hk))
 have i1 : (es.length : Int) < 1048576 := by omega
 have j1 : decide ((1048576 : Int) ≤ (es.length : Int)) = false := decide_eq_false (by omega)
 have HK00 := hyd (Keeps.refl (fun _ => False) w0.drew)
 dsimp only at HX
 generalize keyOf es.length = ky at *
 clear h hd0 hob hk0 hX hR hfin hg hn hs hp hpl hl i1
 go_enter Tryz.func19, Tryz.ntmps19
 go_upto_region 5 with fail
 go_region_held3 (fun w' => w'.cell? ⟨g, 0, none⟩ = some (.pointer (some ⟨t, 0, none⟩)) ∧ w'.cell? ⟨g, 1, none⟩ = some (.slice va es.length vc)) (first | exact hc0 | exact hc1 | exact hc2 | exact hc2a | exact hc3 | go_keep) (first | (refine step_append_run rfl _ _ _ _ rfl rfl rfl hrun2 ?_) | (go_at_call 56; refine (chclone_nil _).mono ?_; rintro e w' ⟨rfl, rfl⟩) | (go_at_call 43; refine HK0.out.mono ?_; rintro e w1 ⟨rfl, hk1⟩; have hc1 := HC1.out w1 hk1; obtain ⟨xa, xc, w2, hrun2, hc2, hc2a, hap2⟩ := HX.out w1 hk1) | (go_at_call 10; refine hap2.mono ?_; rintro e w3 ⟨rfl, h3⟩; have hc3 := HOB.out _ _ h3))
 all_goals
  have H3 := hyd h3
  clear hc0 hc1 hc2 hc2a hc3 hrun2 hap2 hk1 h3 HX HK0 HC1 HK00 HOB c0 c1
  by_cases h0 : rc = 0
  ·subst h0
   have HA := hyd (HFIN.out w3 H3.out)
   clear HFIN H3
   go_wp2_with fail
   refine HA.out.mono ?_
   rintro e w4 ⟨rfl, ve', vl', h4⟩
   have HF := hyd (show GAddPost w d j t b g nm rs es p (0, rT) (.returned (.int .i64 0)) w4 from ⟨ve', vl', rfl, by rw [if_pos rfl]; exact h4⟩)
   clear h4 HA
   go_wp2_with fail
   go_ret
   exact HF.out
  ·have b0 : (rc == 0) = false := by rw [beq_eq_false_iff_ne]; exact h0
   have HF := hyd (show GAddPost w d j t b g nm rs es p (rc, rT) (.returned (.int .i64 rc)) w3 from ⟨_, _, rfl, by rw [if_neg h0]; exact H3.out⟩)
   clear HFIN H3 h0
   go_wp2_with fail
   go_ret
   exact HF.out
def hdG : ByteArray := ⟨#[103, 47]⟩
def gFrom (fs : FS) : List ByteArray → List (List UInt8) → Option (List (List UInt8))
 | [], es => some es
 | k :: ks, es => if k = keyOf es.length ∧ es.length < 1048576 then gFrom fs ks (es ++ [(fget fs k).getD []]) else none
def gOpenOf (fs : FS) : Option (List (List UInt8)) := gFrom fs (keysOf fs hdG ⟨#[]⟩ (fs.length : Int)) []
theorem gFrom_step {fs : FS} {ks : List ByteArray} {k : ByteArray} {i : Nat} (hk : ks[i]? = some k) {es : List (List UInt8)} : gFrom fs (ks.drop i) es = if k = keyOf es.length ∧ es.length < 1048576 then gFrom fs (ks.drop (i + 1)) (es ++ [(fget fs k).getD []]) else none := by
 obtain ⟨hi, rfl⟩ := List.getElem?_eq_some_iff.1 hk
 rw [List.drop_eq_getElem_cons hi, gFrom]
theorem fget_small {fs : FS} {N : Nat} (h : ∀ p ∈ fs, p.2.length ≤ N) (k : ByteArray) : ((fget fs k).getD []).length ≤ N := by
 cases hf : fget fs k with
 | none => simp
 | some v => exact h _ (mem_of_fget hf)
def GOpenPost (w : World) (d j t b : Nat) (nm : ByteArray) (T : TM) (rs : List (Res w.heap.size)) (e : Ending) (w' : World) : Prop :=
 match gOpenOf T.fs with
 | none => e = .returned (.tuple #[.pointer none, .int .i64 200]) ∧ Own w w' (tRes w.heap.size d j t b nm T ++ rs)
 | some es => ∃ g ve vl, e = .returned (.tuple #[.pointer (some ⟨g, 0, none⟩), .int .i64 0]) ∧ Own w w' (tRes w.heap.size d j t b nm T ++ (gRes w.heap.size g t ve vl es ++ rs))
theorem gopen_none {w w' : World} {d j t b : Nat} {nm : ByteArray} {T : TM} {rs : List (Res w.heap.size)} (hr : gOpenOf T.fs = none) (h : Own w w' (tRes w.heap.size d j t b nm T ++ rs)) : GOpenPost w d j t b nm T rs (.returned (.tuple #[.pointer none, .int .i64 200])) w' := by
 unfold GOpenPost
 rw [hr]
 exact ⟨rfl, h⟩
theorem gopen_some {w w' : World} {d j t b g : Nat} {ve vl : Value} {es : List (List UInt8)} {nm : ByteArray} {T : TM} {rs : List (Res w.heap.size)} (hr : gOpenOf T.fs = some es) (h : Own w w' (tRes w.heap.size d j t b nm T ++ (gRes w.heap.size g t ve vl es ++ rs))) : GOpenPost w d j t b nm T rs (.returned (.tuple #[.pointer (some ⟨g, 0, none⟩), .int .i64 0])) w' := by
 unfold GOpenPost
 rw [hr]
 exact ⟨g, ve, vl, rfl, h⟩
def rStrs (B : Nat) (v : Value) (l : List ByteArray) : Res B := rRaw B v 9 1 l.length (l.map Value.string)
section
variable {w wr : World} {g t d j b : Nat} {ve vl kv : Value} {es : List (List UInt8)} {ks : List ByteArray} {nm : ByteArray} {T : TM} {rs : List (Res w.heap.size)}
theorem Own.addStrs {w1 : World} (h : Own w wr rs) (hd : StrsAt wr.heap.size w1 kv ks) (hk : Keeps (fun _ => False) wr w1) : Own w w1 (rStrs w.heap.size kv ks :: rs) :=
 h.add hk (r := rStrs _ kv ks) (G := fun b => kv.ownBlock = some b) ⟨hd.base (Nat.zero_le _), fun _ hb => hb⟩ (fun b hb => hd.lt b hb)
theorem Own.strs (h : Own w wr rs) (hm : rStrs w.heap.size kv ks ∈ rs) : StrsAt 0 wr kv ks := by
 obtain ⟨F, ⟨ho, _⟩, _⟩ := h.mem hm
 exact ho
theorem Own.newLog (h : Own w wr rs) : Own w (wr.alloc (logObj t (.slice none 0 0) (.slice none 0 0))) (gRes w.heap.size wr.heap.size t (.slice none 0 0) (.slice none 0 0) [] ++ rs) := by
 have h1 := (h.alloc (logObj t (.slice none 0 0) (.slice none 0 0))).nilRows.nilDigs
 exact h1.third.perm (List.Perm.cons _ (List.Perm.swap ..))
theorem Own.logLast (h : Own w wr (gRes w.heap.size g t ve vl es ++ (tRes w.heap.size d j t b nm T ++ rs))) : Own w wr (tRes w.heap.size d j t b nm T ++ (gRes w.heap.size g t ve vl es ++ rs)) :=
 h.perm (by rw [← List.append_assoc, ← List.append_assoc]; exact (List.perm_append_comm).append_right _)
theorem Own.dropMid {r : Res w.heap.size} {l₁ l₂ : List (Res w.heap.size)} (h : Own w wr (l₁ ++ r :: l₂)) : Own w wr (l₁ ++ l₂) := (Own.pull h).drop
theorem perm_mid {α : Type} (A B C : List α) (s : α) : (A ++ (s :: (B ++ C))).Perm (B ++ (A ++ (s :: C))) := by
 refine List.perm_middle.trans ?_
 refine List.Perm.trans ?_ ((List.perm_middle (l₁ := A)).symm.append_left B)
 refine List.Perm.trans ?_ List.perm_middle.symm
 refine List.Perm.cons _ ?_
 rw [← List.append_assoc, ← List.append_assoc]
 exact (List.perm_append_comm).append_right _
theorem Own.noLog (h : Own w wr (gRes w.heap.size g t ve vl es ++ rs)) : Own w wr rs := Own.drop (Own.drop (Own.drop h))
end
set_option maxRecDepth 100000 in
set_option maxHeartbeats 2000000 in
theorem gOpen_calls {w w0 : World} {d j t b : Nat} {nm : ByteArray} {T : TM} {rs : List (Res w.heap.size)} (h : Own w w0 (tRes w.heap.size d j t b nm T ++ rs))
  (hs : FSorted T.fs) (hn : ∀ p ∈ T.fs, p.1.size ≤ maxLen) (hl : T.fs.length ≤ 1099511627775) (hv : ∀ p ∈ T.fs, p.2.length ≤ 70368744177662) :
  Calls Tryz.prog 13 #[.pointer (some ⟨t, 0, none⟩)] w0 (GOpenPost w d j t b nm T rs) := by
 have hu : ∀ {W : World} {rs' : List (Res w.heap.size)}, Own w W (tRes w.heap.size d j t b nm T ++ rs') → W.heap[t]? = some (tabObj j b T.down) ∧ ∃ F : Nat → Prop, MapFs F W b T.fs := fun {W rs'} h => by
  obtain ⟨F, ⟨_, hm⟩, _⟩ := h.mem (r := rMap w.heap.size b T.fs) (by simp [tRes])
  exact ⟨(h.at (b := t) (o := tabObj j b T.down) (by simp [tRes])).1, F, hm⟩
 have h1 := h.newLog (t := t)
 obtain ⟨ht1, F1, hm1⟩ := hu h1.logLast
 have hln := tlen_runs ht1 hm1
 have hky := tkeys_calls ht1 hm1 hs hn hl hdG ⟨#[]⟩ (T.fs.length : Int)
 obtain ⟨R, hR⟩ : ∃ R, gOpenOf T.fs = R := ⟨_, rfl⟩
 have hR' := hR
 unfold gOpenOf at hR'
 generalize keysOf T.fs hdG ⟨#[]⟩ (T.fs.length : Int) = ks at hky hR'
 have HLN := hyd hln
 have HKY := hyd hky
 have HR := hyd (⟨hR, hR'⟩ : gOpenOf T.fs = R ∧ gFrom T.fs ks [] = R)
 have H1 := hyd h1
 have HU := hyd (fun W rs' => @hu W rs')
 have HV := hyd (fget_small hv)
 unfold hdG at HKY
 clear h hs hn hl hv h1 hu ht1 hm1 hln hky hR hR' F1
 go_enter Tryz.func13, Tryz.ntmps13
 go_wp2_with fail
 refine HLN.out.out.mono ?_; rintro e w' ⟨rfl, rfl⟩
 go_wp2_with fail
 refine HKY.out.mono ?_
 rintro e w1 ⟨kv, rfl, hkv, hk1⟩
 have h2 := (H1.out.quiet hk1)
 obtain ⟨ka, kc, rfl⟩ := hkv.form
 have h3 : Own w w1 (rStrs w.heap.size (.slice ka ks.length kc) ks :: (gRes w.heap.size w0.heap.size t (.slice none 0 0) (.slice none 0 0) [] ++ (tRes w.heap.size d j t b nm T ++ rs))) := H1.out.addStrs hkv hk1
 have h4 : Own w w1 (gRes w.heap.size w0.heap.size t (.slice none 0 0) (.slice none 0 0) [] ++ (rStrs w.heap.size (.slice ka ks.length kc) ks :: (tRes w.heap.size d j t b nm T ++ rs))) := h3.perm (List.perm_middle (l₁ := gRes _ _ _ _ _ _)).symm
 have H4 := hyd h4
 clear hkv hk1 h2 h3 h4 H1 HKY HLN
 go_wp2_with fail
 go_loopw [19] (fun iv wx => ∃ (k : Nat) (es : List (List UInt8)) (ve vl : Value), k ≤ ks.length ∧ iv = .int .i64 (k : Int) ∧ es.length = k ∧ gFrom T.fs ks [] = gFrom T.fs (ks.drop k) es ∧ Own w wx (gRes w.heap.size w0.heap.size t ve vl es ++ (rStrs w.heap.size (.slice ka ks.length kc) ks :: (tRes w.heap.size d j t b nm T ++ rs)))) (fun iv _ => ks.length - (intOf iv).toNat)
 case atStart => exact ⟨0, [], _, _, Nat.zero_le _, rfl, rfl, rfl, H4.out⟩
 case round =>
  obtain ⟨k, es, ve, vl, hk, rfl, hke, hinv, ho⟩ := hrel
  have k0 : (0 : Int) ≤ k := by omega
  have hst := ho.strs (kv := .slice ka ks.length kc) (ks := ks) (by simp)
  by_cases hlt : k < ks.length
  ·obtain ⟨s, hks⟩ : ∃ s, ks[k]? = some s := ⟨ks[k], List.getElem?_eq_getElem hlt⟩
   obtain ⟨g2, rfl, hc1, hcap, -⟩ := hst.cell hks
   rw [gFrom_step hks, hke] at hinv
   have k1 : (k : Int) < ks.length := by omega
   have hk1 : k + 1 ≤ ks.length := by omega
   have i1 : (ks.length : Int) ≤ 9223372036854775807 := by
    rcases hst.2 with ⟨h0, -⟩ | ⟨g', cap, cur, e, _, _, h3, h4, _⟩
    ·cases h0
    ·have h4' : cap ≤ 2 ^ 63 - 1 := h4
     have h3' : ks.length ≤ cap := h3
     omega
   have hkb : k < 18446744073709551616 := by omega
   have HKC := hyd (key_calls wr (k : Int) k (u64_small hkb) hkb)
   have HKE := hyd hke
   have HO := hyd ho
   clear hst hlt ho hke
   by_cases hok : s = keyOf k ∧ k < 1048576
   ·rw [if_pos hok] at hinv
    obtain ⟨hs, hlim⟩ := hok
    have j5 : decide ((1048576 : Int) ≤ (k : Int)) = false := decide_eq_false (by omega)
    go_wp2_with fail
    refine HKC.out.mono ?_
    rintro e w2 ⟨rfl, hk2⟩
    have h2 := HO.out.quiet hk2
    have HO2 := hyd h2
    rw [← hs]
    have HLIM := hyd hlim
    have HINV := hyd hinv
    clear HKC hs hk2 h2 HO hc1 hlim hinv
    go_wp2_with fail
    have h3 : Own w w2 (tRes w.heap.size d j t b nm T ++ (gRes w.heap.size w0.heap.size t ve vl es ++ (rStrs w.heap.size (.slice (some ⟨g2, 0, none⟩) ks.length kc) ks :: rs))) := HO2.out.perm (perm_mid _ _ _ _)
    obtain ⟨htc, F, hmc⟩ := HU.out _ _ h3
    have hget := tget_calls htc hmc s (by have := HV.out s; omega)
    refine hget.mono ?_
    rintro e w3 ⟨v, rfl, hv, hk3⟩
    have h4 := HO2.out.addBytes hv hk3
    obtain ⟨va, vc, rfl, -, -⟩ := hv.bytes.form
    have h5 : Own w w3 (gRes w.heap.size w0.heap.size t ve vl es ++ (rBytes w.heap.size (.slice va ((fget T.fs s).getD []).length vc) ((fget T.fs s).getD []) :: rStrs w.heap.size (.slice (some ⟨g2, 0, none⟩) ks.length kc) ks :: (tRes w.heap.size d j t b nm T ++ rs))) := h4.perm (List.perm_middle (l₁ := gRes _ _ _ _ _ _)).symm
    have hadd := gadd_calls h5 (by rw [HKE.out]; have := HLIM.out; omega) (HV.out s) (fun wr ls hw => (hw.bytes (v := .slice va ((fget T.fs s).getD []).length vc) (l := (fget T.fs s).getD []) (by simp)).1)
    have HADD := hyd hadd
    generalize (fget T.fs s).getD [] = val at *
    clear hadd h5 h4 hv hk3 hget htc hmc h3 HO2 HU HV
    go_wp2_with fail
    refine HADD.out.mono ?_
    rintro e w4 ⟨rfl, ve', vl', h6⟩
    have HREL := hyd (⟨k + 1, es ++ [val], ve', vl', hk1, rfl, by rw [List.length_append, HKE.out]; rfl, HINV.out, h6.dropMid⟩ : ∃ (k' : Nat) (es' : List (List UInt8)) (ve vl : Value), k' ≤ ks.length ∧ Value.int .i64 ((k + 1 : Nat) : Int) = .int .i64 (k' : Int) ∧ es'.length = k' ∧ gFrom T.fs ks [] = gFrom T.fs (ks.drop k') es' ∧ Own w w4 (gRes w.heap.size w0.heap.size t ve vl es' ++ (rStrs w.heap.size (.slice (some ⟨g2, 0, none⟩) ks.length kc) ks :: (tRes w.heap.size d j t b nm T ++ rs))))
    clear h6 HADD HINV H4 HR
    go_wp2_with fail
    go_roundw
    case rel => exact HREL.out
    case measure => simp [intOf]; omega
   ·rw [if_neg hok] at hinv
    have hnone : gOpenOf T.fs = none := HR.out.1.trans (by rw [← HR.out.2, hinv])
    refine (?_ : _)
    by_cases hs : s = keyOf k
    ·have hlim : ¬ k < 1048576 := fun h => hok ⟨hs, h⟩
     have i5 : (1048576 : Int) ≤ k := by omega
     go_wp2_with fail
     refine HKC.out.mono ?_
     rintro e w2 ⟨rfl, hk2⟩
     have hq : (s.toList == (keyOf k).toList) = true := by rw [hs]; simp
     have HF := hyd (gopen_none hnone (Own.drop ((HO.out.quiet hk2).noLog)))
     clear HKC hs hk2 HO hc1 hnone HR HU HV H4 hok hlim
     generalize keyOf k = ky at *
     go_wp2_with fail
     go_ret2
     exact HF.out
    ·have hq : (s.toList == (keyOf k).toList) = false := by
      rw [Bool.eq_false_iff]; intro hc
      exact hs (toList_inj (by simpa using hc))
     go_wp2_with fail
     refine HKC.out.mono ?_
     rintro e w2 ⟨rfl, hk2⟩
     have HF := hyd (gopen_none hnone (Own.drop ((HO.out.quiet hk2).noLog)))
     generalize keyOf k = ky at *
     clear HKC hs hk2 HO hc1 hnone HR HU HV H4 hok
     go_wp2_with fail
     go_ret2
     exact HF.out
  ·obtain rfl : k = ks.length := by omega
   rw [List.drop_length] at hinv
   have HFIN := hyd (gopen_some (HR.out.1.trans (by rw [← HR.out.2, hinv]; rfl)) (Own.logLast ho.dropMid) : GOpenPost w d j t b nm T rs (.returned (.tuple #[.pointer (some ⟨w0.heap.size, 0, none⟩), .int .i64 0])) wr)
   clear hinv ho hlt hk hst HR HU HV H4
   go_wp2_with fail
   go_ret2
   exact HFIN.out
theorem topen_code (m : DM) (nm : ByteArray) : ((tOpenOf m nm).tab = none → (tOpenOf m nm).code ≠ 0) ∧ ∀ x, (tOpenOf m nm).tab = some x → (tOpenOf m nm).code = 0 := by
 have h0 := (open_res m nm).1
 unfold tOpenOf
 cases h : (openOf m nm).res with
 | none => exact ⟨fun _ => h0 h, fun x e => by cases e⟩
 | some s =>
  dsimp only
  cases h2 : tabOf s.1 [] with
  | none => exact ⟨fun _ => (by decide : (200 : Int) ≠ 0), fun x e => by cases e⟩
  | some fs => exact ⟨(fun e => by cases e), fun _ _ => rfl⟩
def OpenedPost (w : World) (d : Nat) (nm : ByteArray) (rs : List (Res w.heap.size)) (r : TabR) (e : Ending) (w' : World) : Prop :=
 (r.tab = none ∧ e = .returned (.tuple #[.pointer none, .pointer none, .int .i64 r.code]) ∧ Own w w' (rDisk w.heap.size d r.m :: rs)) ∨
 (∃ (size : Nat) (fs : FS) (j t b : Nat), r.tab = some (size, fs) ∧ gOpenOf fs = none ∧ e = .returned (.tuple #[.pointer none, .pointer (some ⟨t, 0, none⟩), .int .i64 200]) ∧ Own w w' (tRes w.heap.size d j t b nm ⟨r.m, size, fs, false⟩ ++ rs)) ∨
 ∃ (size : Nat) (fs : FS) (j t b g : Nat) (ve vl : Value) (es : List (List UInt8)), r.tab = some (size, fs) ∧ gOpenOf fs = some es ∧ e = .returned (.tuple #[.pointer (some ⟨g, 0, none⟩), .pointer (some ⟨t, 0, none⟩), .int .i64 0]) ∧ Own w w' (tRes w.heap.size d j t b nm ⟨r.m, size, fs, false⟩ ++ (gRes w.heap.size g t ve vl es ++ rs))
set_option maxRecDepth 100000 in
theorem opened15_calls {w w0 : World} {d : Nat} {m : DM} {rs : List (Res w.heap.size)} (h : Own w w0 (rDisk w.heap.size d m :: rs)) {n : Nat} (hg : Good m n) (hn : n < 549755813888)
  (hfs : ∀ size fs, (tOpenOf m nmT).tab = some (size, fs) → FSorted fs ∧ (∀ p ∈ fs, p.1.size ≤ maxLen) ∧ fs.length ≤ 1099511627775 ∧ ∀ p ∈ fs, p.2.length ≤ 70368744177662) :
  Calls Tryz.prog 17 #[.pointer (some ⟨d, 0, none⟩)] w0 (OpenedPost w d nmT rs (tOpenOf m nmT)) := by
 have hop := topen_calls h hg hn nmT
 have hcd := topen_code m nmT
 generalize tOpenOf m nmT = R at *
 have HOP := hyd hop
 unfold nmT at HOP
 have HFS := hyd hfs
 clear h hg hn hop hfs
 go_enter Tryz.func17, Tryz.ntmps17
 go_wp2_with fail
 refine HOP.out.mono ?_
 rintro e w1 (⟨hr, rfl, h1⟩ | ⟨size, fs, j, t, b, hr, rfl, h1⟩)
 ·have hc : (R.code != 0) = true := by simpa using hcd.1 hr
  have HF := hyd (show OpenedPost w d nmT rs R (.returned (.tuple #[.pointer none, .pointer none, .int .i64 R.code])) w1 from .inl ⟨hr, rfl, h1⟩)
  clear hr h1 hcd HFS HOP
  go_wp2_with fail
  go_ret3
  exact HF.out
 ·have hc : R.code = 0 := hcd.2 _ hr
  obtain ⟨f1, f2, f3, f4⟩ := HFS.out _ _ hr
  have hgo := gOpen_calls (T := ⟨R.m, size, fs, false⟩) (nm := nmT) h1 f1 f2 f3 f4
  rw [hc]
  have HGO := hyd hgo
  have HR := hyd hr
  clear f1 f2 f3 f4 hgo hr h1 hcd HFS HOP hc
  go_wp2_with fail
  refine HGO.out.mono ?_
  cases hgo : gOpenOf fs with
  | none =>
   intro e w2 hp
   unfold GOpenPost at hp
   dsimp only at hp
   rw [hgo] at hp
   obtain ⟨rfl, h2⟩ := hp
   have HF := hyd (show OpenedPost w d nmT rs R (.returned (.tuple #[.pointer none, .pointer (some ⟨t, 0, none⟩), .int .i64 200])) w2 from .inr (.inl ⟨size, fs, j, t, b, HR.out, hgo, rfl, h2⟩))
   clear h2 hgo HGO HR
   go_wp2_with fail
   go_ret3
   exact HF.out
  | some es =>
   intro e w2 hp
   unfold GOpenPost at hp
   dsimp only at hp
   rw [hgo] at hp
   obtain ⟨g, ve, vl, rfl, h2⟩ := hp
   have HF := hyd (show OpenedPost w d nmT rs R (.returned (.tuple #[.pointer (some ⟨g, 0, none⟩), .pointer (some ⟨t, 0, none⟩), .int .i64 0])) w2 from .inr (.inr ⟨size, fs, j, t, b, g, ve, vl, es, HR.out, hgo, rfl, h2⟩))
   clear h2 hgo HGO HR
   go_wp2_with fail
   go_ret3
   exact HF.out
theorem keyOf_size (x : Nat) : (keyOf x).size = 10 := by
 unfold keyOf
 rw [ByteArray.size_append]
 have h : (hexOf (putOf x 4)).length = 8 := by rw [hexOf_length, putOf_length]
 have : (ByteArray.mk (hexOf (putOf x 4)).toArray).size = (hexOf (putOf x 4)).length := by simp [ByteArray.size]
 rw [this, h]
 rfl
def entCh (k : Nat) (p : List UInt8) : TCh := ⟨keyOf k, false, p⟩
theorem ent_good (k : Nat) {p : List UInt8} (hp : p.length ≤ 262144) : badCh (entCh k p) = false := by
 have := keyOf_size k
 unfold badCh entCh
 dsimp only
 rw [this]
 simp
 omega
theorem textOf_le (p : List UInt8) (h : p.length < 1099511627776) : (textOf p).length ≤ p.length + 10 := by
 unfold textOf
 have := countOf_len10 (n := p.length) (by omega)
 rw [List.length_append]
 omega
theorem ent_enc (k : Nat) {p : List UInt8} (hp : p.length ≤ 500) : (encOf [entCh k p]).1 = 0 ∧ (encOf [entCh k p]).2.length ≤ p.length + 52 := by
 have hk : (keyOf k).toList.length = 10 := by rw [key_len]; exact keyOf_size k
 have e1 := textOf_le (keyOf k).toList (by omega)
 have e2 := textOf_le p (by omega)
 have hs : (([entCh k p].map encCh).flatten).length ≤ p.length + 41 := by
  simp only [List.map_cons, List.map_nil, List.flatten_cons, List.flatten_nil, encCh, entCh, List.length_append, Bool.false_eq_true, if_false, List.length_cons, List.length_nil]
  omega
 have h0 := enc_fits (l := [entCh k p]) (by simp) (by intro c hc; rw [List.mem_singleton.1 hc]; exact ent_good k (by omega)) (by omega)
 refine ⟨h0, ?_⟩
 rw [(enc_ok h0).2.1, List.length_append]
 have := countOf_len10 (n := [entCh k p].length) (by simp)
 omega
theorem add_oneT {room : Int} {b : List UInt8} {size : Nat} {fs : FS} (k : Nat) {p : List UInt8} (hp : p.length ≤ 500) (hr : (b.length : Int) + (p.length + 60) ≤ room) : ∃ b' size', tAppOf ⟨oneT room b, size, fs, false⟩ nmT [entCh k p] = (0, ⟨oneT room b', size', tdo fs (entCh k p), false⟩) ∧ b'.length ≤ b.length + (p.length + 60) ∧ size' ≤ size + (p.length + 60) := by
 obtain ⟨h0, h1⟩ := ent_enc k hp
 rw [app_oneT h0 (by omega)]
 refine ⟨_, _, rfl, ?_, ?_⟩
 ·rw [List.length_append, frameOf_length]; omega
 ·omega
theorem oneT_good {room : Int} {b : List UInt8} (h0 : (b.length : Int) ≤ room) (h1 : room ≤ 67108864) : Good (oneT room b) 0 := by
 refine ⟨?_, h1, ?_, ?_, Nat.le_refl _, ?_, rfl, ?_, ?_⟩
 ·have : (0 : Int) ≤ room := by omega
  exact this
 ·exact (show (-1 : Int) ≤ -1 by decide)
 ·exact (show (-1 : Int) ≤ 9223372036854775807 by decide)
 ·simp [FNodup, oneT]
 ·intro k
  simp [oneT, used]
  exact h0
 ·intro c hc
  simp [oneT] at hc
def litObj (x : Nat) : Obj := .cells #[.int .u8 (x : Int)] 5 (1, 2)
theorem lit_reads {w wr : World} {rs : List (Res w.heap.size)} (h : Own w wr rs) {b : Nat} {u : UInt8} (hm : rObj w.heap.size b (litObj u.toNat) ∈ rs) : Reads wr (.slice (some ⟨b, 0, none⟩) 1 1) [u] := by
 refine .inr ⟨_, 1, rfl, by simp, by simp [maxLen], fun j v hv => ?_⟩
 match j, hv with
 | 0, hv =>
  simp only [List.map_cons, List.map_nil, List.getElem?_cons_zero, Option.some.injEq] at hv
  rw [← hv, Addr.add_lit]
  exact cell_at (h.at hm).1 rfl
 | j + 1, hv => simp at hv
end Go.Proofs.YtddnikpdmjogiaaGreat
