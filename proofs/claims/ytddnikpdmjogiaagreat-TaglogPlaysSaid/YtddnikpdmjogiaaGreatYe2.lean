/- A part of the proof. -/
import Derived.Test.YtddnikpdmjogiaaGreatYb9
import Derived.Test.YtddnikpdmjogiaaGreatYd8
import Derived.Test.YtddnikpdmjogiaaGreatYe1
namespace Go.Proofs.YtddnikpdmjogiaaGreat
set_option linter.unusedVariables false
open Go.RowKit Go.MapKept
def gSel (fs : FS) : FS := fs.filter (fun f => beginsB f.1 hdG)
theorem begins_size {k : ByteArray} (h : beginsB k hdG = true) : 0 < k.size := by
 unfold beginsB at h
 rw [Bool.and_eq_true] at h
 have h1 := of_decide_eq_true h.1
 have h2 : hdG.size = 2 := rfl
 omega
theorem keysFrom_sel (n : Int) : ∀ (fs : FS) (out : List ByteArray), ((out.length + fs.length : Nat) : Int) ≤ n → keysFrom hdG ⟨#[]⟩ n fs out = out ++ (gSel fs).map (·.1)
 | [], out, _ => by simp [keysFrom, gSel]
 | f :: fs, out, h => by
  rw [List.length_cons] at h
  unfold keysFrom
  rw [if_neg (by omega)]
  by_cases hb : beginsB f.1 hdG = true
  ·rw [if_pos ⟨hb, blt_empty (begins_size hb)⟩, keysFrom_sel n fs _ (by rw [List.length_append, List.length_singleton]; omega)]
   simp [gSel, hb]
  ·rw [if_neg (fun h => hb h.1), keysFrom_sel n fs out (by omega)]
   simp [gSel, hb]
theorem gFrom_sel (FSS : FS) : ∀ (l : FS) (es : List (List UInt8)), (∀ f ∈ l, fget FSS f.1 = some f.2) → es.length + l.length < 1048576 → gFrom FSS ((gSel l).map (·.1)) es = rFrom l es
 | [], es, _, _ => rfl
 | f :: l, es, hm, hl => by
  rw [List.length_cons] at hl
  have ih := fun es h => gFrom_sel FSS l es (fun x hx => hm x (List.mem_cons_of_mem _ hx)) h
  unfold rFrom
  by_cases hb : beginsB f.1 hdG = true
  ·have e : gSel (f :: l) = f :: gSel l := by simp [gSel, hb]
   rw [e, if_pos hb, List.map_cons, gFrom]
   by_cases hk : f.1 = keyOf es.length
   ·rw [if_pos ⟨hk, by omega⟩, if_pos hk, hm f (List.mem_cons_self ..), ih _ (by rw [List.length_append, List.length_singleton]; omega)]
    rfl
   ·rw [if_neg (fun h => hk h.1), if_neg hk]
  ·have e : gSel (f :: l) = gSel l := by simp [gSel, hb]
   rw [e, if_neg hb, ih _ (by omega)]
theorem gopen_rfrom {fs : FS} (hs : FSorted fs) (hl : fs.length < 1048576) : gOpenOf fs = rFrom fs [] := by
 unfold gOpenOf keysOf
 rw [keysFrom_sel _ fs [] (by simp), List.nil_append, gFrom_sel fs fs [] (fun f hf => fget_mem hs.nodup hf) (by simpa using hl)]
end Go.Proofs.YtddnikpdmjogiaaGreat
