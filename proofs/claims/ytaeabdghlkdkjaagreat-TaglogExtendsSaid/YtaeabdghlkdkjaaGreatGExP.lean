/- TaglogExtends: what its walk holds to. -/
import Derived.Test.YtaeabdghlkdkjaaGreatPkY
import Derived.Test.YtaeabdghlkdkjaaGreatPkZ
import Derived.Test.YtaeabdghlkdkjaaGreatMrkY
namespace Go.Proofs.YtaeabdghlkdkjaaGreat
set_option linter.unusedVariables false
open Go.RowKit Go.MapKept

/-- The roots of the first beginnings. -/
def rootsOf (es : List (List UInt8)) (r : Nat) : List Dg := (List.range r).map (fun i => rootOf ((leavesOf es).take i))
theorem rootsOf_zero (es : List (List UInt8)) : rootsOf es 0 = [] := rfl
theorem rootsOf_length (es : List (List UInt8)) (r : Nat) : (rootsOf es r).length = r := by simp [rootsOf]
theorem rootsOf_step (es : List (List UInt8)) (r : Nat) : rootsOf es (r + 1) = rootsOf es r ++ [rootOf ((leavesOf es).take r)] := by
  unfold rootsOf
  rw [List.range_succ, List.map_append]
  rfl
theorem rootsOf_append (es x : List (List UInt8)) {r : Nat} (h : r ≤ es.length + 1) : rootsOf (es ++ x) r = rootsOf es r := by
  unfold rootsOf leavesOf
  refine List.map_congr_left (fun i hi => ?_)
  have hi := List.mem_range.1 hi
  rw [List.map_append, List.take_append_of_le_length (by rw [List.length_map]; omega)]
theorem rootsOf_get {es : List (List UInt8)} {r i : Nat} (h : i < r) : (rootsOf es r)[i]? = some (rootOf ((leavesOf es).take i)) := by
  unfold rootsOf
  rw [List.getElem?_map, List.getElem?_range h]
  rfl
/-- The log, its disk, the roots and the entries that were noted. -/
def ERel (w0 wx : World) (d k : Nat) (lv rv av : Value) : Prop :=
  ∃ (j t b g : Nat) (es : List (List UInt8)) (nx : List UInt8) (cut : Bool) (m : DM) (size : Nat) (ve vl : Value) (r : Nat), lv = .pointer (some ⟨g, 0, none⟩) ∧ r ≤ es.length + 1 ∧ GLI es nx cut m size k ∧
    Own w0 wx (tRes w0.heap.size d j t b nmT ⟨m, size, logFs es, cut⟩ ++ (gRes w0.heap.size g t ve vl es ++ [rDigs w0.heap.size rv (rootsOf es r), rRows w0.heap.size av es]))
end Go.Proofs.YtaeabdghlkdkjaaGreat
