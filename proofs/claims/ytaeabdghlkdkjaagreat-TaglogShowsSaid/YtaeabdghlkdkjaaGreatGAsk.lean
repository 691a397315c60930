/- taglog: an entry, a way, a proof. -/
import Derived.Test.YtaeabdghlkdkjaaGreatGLog
namespace Go.Proofs.YtaeabdghlkdkjaaGreat
set_option linter.unusedVariables false
open Go.RowKit Go.MapKept

/-- Bytes of one's own and a code. -/
def BytesPost2 (w : World) (p : List UInt8) (c : Int) (e : Ending) (w' : World) : Prop := ∃ v, e = .returned (.tuple #[v, .int .i64 c]) ∧ Owns w' w.heap.size v p ∧ Keeps (fun _ => False) w w'
theorem gentry_nil (w : World) (i : Int) : Runs 37 #[.pointer none, .int .i64 i] w (.tuple #[.slice none 0 0, .int .i64 2]) w := by
  unfold Runs
  go_enter Tryz.func37, Tryz.ntmps37
  go_wp2_with fail
  go_ret2
  exact ⟨rfl, rfl⟩
set_option maxRecDepth 100000 in
theorem gentry_bad {w : World} {g t : Nat} {ve vl : Value} {es : List (List UInt8)} (h : LogAt w g t ve vl es) {i : Int} (hi : i < 0 ∨ (es.length : Int) ≤ i) : Runs 37 #[.pointer (some ⟨g, 0, none⟩), .int .i64 i] w (.tuple #[.slice none 0 0, .int .i64 1]) w := by
  unfold Runs
  obtain ⟨a, c, rfl⟩ := rows_form h.rows
  obtain ⟨-, c1, -, -⟩ := log_cells h.obj
  clear h
  by_cases h0 : i < 0
  · clear hi
    go_enter Tryz.func37, Tryz.ntmps37
    go_wp2_with fail
    go_ret2
    exact ⟨rfl, rfl⟩
  · have h1 : (es.length : Int) ≤ i := by omega
    clear hi
    go_enter Tryz.func37, Tryz.ntmps37
    go_wp2_with fail
    go_ret2
    exact ⟨rfl, rfl⟩
set_option maxRecDepth 100000 in
theorem gentry_calls {w : World} {g t : Nat} {ve vl : Value} {es : List (List UInt8)} (h : LogAt w g t ve vl es) {i : Nat} {p : List UInt8} (hp : es[i]? = some p) (hpl : p.length ≤ 140737488355328) : Calls Tryz.prog 37 #[.pointer (some ⟨g, 0, none⟩), .int .i64 (i : Int)] w (BytesPost2 w p 0) := by
  obtain ⟨hi, -⟩ := List.getElem?_eq_some_iff.1 hp
  obtain ⟨a, c, rfl, h2⟩ := h.rows
  obtain ⟨x, pv, rfl, hx, hpr⟩ := h2 i p hp
  obtain ⟨-, c1, -, -⟩ := log_cells h.obj
  obtain ⟨v, w1, hcl, hv, hk⟩ := clone_owns hpr hpl
  obtain ⟨pa, pc, rfl, -, -⟩ := hpr.form
  have i0 : (0 : Int) ≤ i := by omega
  have i1 : (i : Int) < es.length := by omega
  have HF := Lib.hid (⟨_, rfl, hv, hk⟩ : BytesPost2 w p 0 (.returned (.tuple #[v, .int .i64 0])) w1)
  have HCL := Lib.hid hcl
  clear h h2 hp hpr hcl hv hk hi hpl
  go_enter Tryz.func37, Tryz.ntmps37
  go_wp2_with fail
  refine HCL.out.out.mono ?_; rintro e w' ⟨rfl, rfl⟩
  go_wp2_with fail
  go_ret2
  exact HF.out
set_option maxRecDepth 100000 in
theorem gpath_bad (w : World) (gv : Value) (i n c : Int) (hc : c ≠ 0) (hf : Runs 105 #[gv, .int .i64 n] w (.int .i64 c) w) : Calls Tryz.prog 38 #[gv, .int .i64 i, .int .i64 n] w (DigsPost2 w [] c) := by
  have b0 : (c != 0) = true := by simpa using hc
  have HR := Lib.hid hf
  clear hf hc
  go_enter Tryz.func38, Tryz.ntmps38
  go_wp2_with fail
  refine HR.out.out.mono ?_; rintro e w' ⟨rfl, rfl⟩
  go_wp2_with fail
  go_ret2
  exact ⟨_, rfl, Digs.nil _ _, Keeps.refl _ _⟩
set_option maxRecDepth 100000 in
set_option maxHeartbeats 1000000 in
theorem gpath_calls {w : World} {g t : Nat} {ve vl : Value} {es : List (List UInt8)} (h : LogAt w g t ve vl es) (hl : es.length ≤ 256) (i : Int) {n : Nat} (hn : n ≤ es.length) :
    Calls Tryz.prog 38 #[.pointer (some ⟨g, 0, none⟩), .int .i64 i, .int .i64 (n : Int)] w (DigsPost2 w (if 0 ≤ i ∧ i < (n : Int) then pathOf ((leavesOf es).take n) i.toNat else []) (if 0 ≤ i ∧ i < (n : Int) then 0 else 1)) := by
  have hfit := gfits_runs h (n : Int)
  rw [if_neg (by omega)] at hfit
  have hll : (leavesOf es).length = es.length := List.length_map _
  obtain ⟨vt, hsl, hdt⟩ := h.leaves.take (k := n) (by omega)
  have htl : ((leavesOf es).take n).length = n := by rw [List.length_take]; omega
  have hm := mpath_calls (L := (leavesOf es).take n) (by omega) w vt i hdt
  rw [htl] at hm
  generalize (if 0 ≤ i ∧ i < (n : Int) then pathOf ((leavesOf es).take n) i.toNat else []) = rt at *
  generalize ((if 0 ≤ i ∧ i < (n : Int) then 0 else 1) : Int) = rc at *
  obtain ⟨-, -, c2, -⟩ := log_cells h.obj
  obtain ⟨la, lc, rfl, -, -⟩ := h.leaves.form
  have HFIT := Lib.hid hfit
  have HM := Lib.hid hm
  have i0 : (0 : Int) ≤ n := by omega
  clear h hfit hm htl hll hdt hl hn
  go_enter Tryz.func38, Tryz.ntmps38
  go_wp2_with fail
  refine HFIT.out.out.mono ?_; rintro e w' ⟨rfl, rfl⟩
  go_wp2_with fail
  refine HM.out.mono ?_
  rintro e w1 ⟨v1, rfl, hd, hk⟩
  have HF := Lib.hid (⟨_, rfl, hd, hk⟩ : DigsPost2 w rt rc (.returned (.tuple #[v1, .int .i64 rc])) w1)
  clear hd hk HM
  go_wp2_with fail
  go_ret2
  exact HF.out
set_option maxRecDepth 100000 in
theorem gproof_bad (w : World) (gv : Value) (i n c : Int) (hc : c ≠ 0) (hf : Runs 105 #[gv, .int .i64 n] w (.int .i64 c) w) : Calls Tryz.prog 39 #[gv, .int .i64 i, .int .i64 n] w (DigsPost2 w [] c) := by
  have b0 : (c != 0) = true := by simpa using hc
  have HR := Lib.hid hf
  clear hf hc
  go_enter Tryz.func39, Tryz.ntmps39
  go_wp2_with fail
  refine HR.out.out.mono ?_; rintro e w' ⟨rfl, rfl⟩
  go_wp2_with fail
  go_ret2
  exact ⟨_, rfl, Digs.nil _ _, Keeps.refl _ _⟩
set_option maxRecDepth 100000 in
set_option maxHeartbeats 1000000 in
theorem gproof_calls {w : World} {g t : Nat} {ve vl : Value} {es : List (List UInt8)} (h : LogAt w g t ve vl es) (hl : es.length ≤ 256) (i : Int) {n : Nat} (hn : n ≤ es.length) :
    Calls Tryz.prog 39 #[.pointer (some ⟨g, 0, none⟩), .int .i64 i, .int .i64 (n : Int)] w (DigsPost2 w (if 0 < i ∧ i ≤ (n : Int) then proofOf ((leavesOf es).take n) i.toNat true else []) (if 0 ≤ i ∧ i ≤ (n : Int) then 0 else 1)) := by
  have hfit := gfits_runs h (n : Int)
  rw [if_neg (by omega)] at hfit
  have hll : (leavesOf es).length = es.length := List.length_map _
  obtain ⟨vt, hsl, hdt⟩ := h.leaves.take (k := n) (by omega)
  have htl : ((leavesOf es).take n).length = n := by rw [List.length_take]; omega
  have hm := mproof_calls (L := (leavesOf es).take n) (by omega) w vt i hdt
  rw [htl] at hm
  generalize (if 0 < i ∧ i ≤ (n : Int) then proofOf ((leavesOf es).take n) i.toNat true else []) = rt at *
  generalize ((if 0 ≤ i ∧ i ≤ (n : Int) then 0 else 1) : Int) = rc at *
  obtain ⟨-, -, c2, -⟩ := log_cells h.obj
  obtain ⟨la, lc, rfl, -, -⟩ := h.leaves.form
  have HFIT := Lib.hid hfit
  have HM := Lib.hid hm
  have i0 : (0 : Int) ≤ n := by omega
  clear h hfit hm htl hll hdt hl hn
  go_enter Tryz.func39, Tryz.ntmps39
  go_wp2_with fail
  refine HFIT.out.out.mono ?_; rintro e w' ⟨rfl, rfl⟩
  go_wp2_with fail
  refine HM.out.mono ?_
  rintro e w1 ⟨v1, rfl, hd, hk⟩
  have HF := Lib.hid (⟨_, rfl, hd, hk⟩ : DigsPost2 w rt rc (.returned (.tuple #[v1, .int .i64 rc])) w1)
  clear hd hk HM
  go_wp2_with fail
  go_ret2
  exact HF.out
end Go.Proofs.YtaeabdghlkdkjaaGreat
