/- A part of the proof. -/
import Derived.Test.YtlcnhpjggjgnpaaGreatDoorUlaa6
import Derived.ChangeKeysEq
import Derived.Deep.MidRow
import Derived.Great.BuildSlice
import Derived.StillTailTactics
namespace Go.Proofs.YtlcnhpjggjgnpaaGreatDoor
set_option linter.unusedVariables false
set_option linter.unusedSimpArgs false
open Go.RowKit Go.MapKept
theorem dall_run (W : World) (b : Nat) : (Instr.sliceAt 39 (.pointer (some ⟨b, 0, none⟩)) none none none).run Tryz.prog W = .ok (.slice (some ⟨b, 0, none⟩) 32 32) W := by kernel_rfl
theorem dig_info {ds : Array Value} (h : ds.size = 32) : (Tryz.prog.info? 39).map (·.size) = some ds.size := by rw [h]; kernel_rfl
theorem plain_u8 : Tryz.prog.plainKey 5 = true := by kernel_rfl
theorem cells_u8 : Tryz.prog.cellsOf 5 = 1 := by kernel_rfl
theorem eq_items (A B : List UInt8) (W : World) : ∀ is : List Nat, (∀ i ∈ is, i < A.length ∧ i < B.length) →
  ∃ r : Bool, (Op.eqItems 9999 5 1 (A.map u8v).toArray (B.map u8v).toArray is).run Tryz.prog W = .ok r W ∧ (r = true ↔ ∀ i ∈ is, A[i]? = B[i]?)
 | [], _ => ⟨true, by simp [Op.eqItems], by simp⟩
 | i :: is, h => by
  obtain ⟨r, hr, hiff⟩ := eq_items A B W is (fun j hj => h j (List.mem_cons_of_mem _ hj))
  have hi := h i (List.mem_cons_self ..)
  have ha : (part 5 (A.map u8v).toArray (i * 1)).run Tryz.prog W = .ok (u8v A[i]) W := run_part_plain W plain_u8 (by simp [hi.1])
  have hb : (part 5 (B.map u8v).toArray (i * 1)).run Tryz.prog W = .ok (u8v B[i]) W := run_part_plain W plain_u8 (by simp [hi.2])
  have he : (Op.equalIn 9999 5 (u8v A[i]) (u8v B[i])).run Tryz.prog W = .ok ((A[i].toNat : Int) == (B[i].toNat : Int)) W := run_equalIn_int W 9998 5 .u8 .u8 _ _ Tryz.underlying5
  simp only [Op.eqItems, Sem.run_bind, ha, hb, he, Result.andThen_ok]
  by_cases hab : A[i] = B[i]
  ·have e1 : ((A[i].toNat : Int) == (B[i].toNat : Int)) = true := by rw [hab]; simp
   refine ⟨r, by rw [e1]; simpa using hr, ?_⟩
   rw [hiff]
   simp [List.getElem?_eq_getElem hi.1, List.getElem?_eq_getElem hi.2, hab]
  ·have e1 : ((A[i].toNat : Int) == (B[i].toNat : Int)) = false := by
    rw [beq_eq_false_iff_ne]
    intro e
    exact hab (UInt8.toNat_inj.1 (by omega))
   refine ⟨false, by rw [e1]; simp, ?_⟩
   simp [List.getElem?_eq_getElem hi.1, List.getElem?_eq_getElem hi.2, hab]
theorem dig_ext {A B : List UInt8} (hA : A.length = 32) (hB : B.length = 32) (hall : ∀ i ∈ List.range 32, A[i]? = B[i]?) : A = B := by
 apply List.ext_getElem?
 intro i
 by_cases hi : i < 32
 ·exact hall i (by rw [List.mem_range]; exact hi)
 ·rw [List.getElem?_eq_none (by omega), List.getElem?_eq_none (by omega)]
theorem dig_eq (A B : List UInt8) (hA : A.length = 32) (hB : B.length = 32) (W : World) : (Op.equalIn 10000 39 (.agg (A.map u8v).toArray) (.agg (B.map u8v).toArray)).run Tryz.prog W = .ok (decide (A = B)) W := by
 obtain ⟨i0, hi, hz0, hz1, hz2⟩ := info_parts info_u8
 have h := run_equalIn_array (P := Tryz.prog) W 9999 (t := 39) (e := 5) (n := 32) (i := i0) (A.map u8v).toArray (B.map u8v).toArray (by kernel_rfl) hi
 rw [cells_u8] at h
 obtain ⟨r, hr, hiff⟩ := eq_items A B W (List.range 32) (fun i hm => by rw [List.mem_range] at hm; omega)
 have hrd : r = decide (A = B) := by
  rw [Bool.eq_iff_iff, hiff, decide_eq_true_iff]
  exact ⟨fun hall => dig_ext hA hB hall, fun e i _ => by rw [e]⟩
 rw [hrd] at hr
 exact h.trans hr
end Go.Proofs.YtlcnhpjggjgnpaaGreatDoor
namespace Go.Proofs.YtlcnhpjggjgnpaaGreatDoor
set_option linter.unusedVariables false
open Go.RowKit Go.MapKept
section
variable {P : Program} {ops : Array Oper} {o : Oper} {a : Act} {w : World} {K : Act → World → Prop} {Q : Exit → Act → World → Prop} {E : Prop}
theorem step_store_row (hgd : o.guard = none) (ty : TypeId) (x y : Operand) (ho : o.op = .store ty x y) (g : Nat) (cells : Array Value) (hx : a.eval x = .pointer (some ⟨g, 0, none⟩)) (hy : a.eval y = .agg cells) (t : TypeId) (old : Array Value) (hg : w.heap[g]? = some (.cells old t))
  (hi : (P.info? ty).map (·.size) = some cells.size) (hold : old.size = cells.size) (h1 : cells.all (·.oneCell') = true) (h : K (a.put o.dst undef) (w.setRow g cells)) : if Region.wanted o (yielded ops a.tmps) = true then Oper.wp P o a w K Q else E := by
 rw [if_pos (by simp [Region.wanted, hgd])]
 exact wp_store_row ty x y ho g cells hx hy t old hg hi hold h1 h
end
theorem owns_lit1 (w : World) (c : UInt8) : Owns (w.alloc (.cells #[u8v c] 5)) w.heap.size (.slice (some ⟨w.heap.size, 0, none⟩) 1 1) [c] :=
 ⟨rfl, .inr ⟨w.heap.size, 1, _, rfl, Nat.le_refl _, heap_alloc_new w _, by simp, by simp [maxLen], by simp, by simp⟩⟩
end Go.Proofs.YtlcnhpjggjgnpaaGreatDoor
