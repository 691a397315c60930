/- A part of the proof. -/
import Derived.Test.YtlcnhpjggjgnpaaGreatDoorUlad9
namespace Go.Proofs.YtlcnhpjggjgnpaaGreatDoor
set_option linter.unusedVariables false
set_option linter.unusedSimpArgs false
open Go.RowKit Go.MapKept
def UnhexPost4 (w : World) (x : List UInt8) (e : Ending) (w' : World) : Prop := ∃ g, e = .returned (.tuple #[.slice (some ⟨g, 0, none⟩) 4 4, .int .i64 0]) ∧ w'.rangeAt g 0 (x.map u8v) ∧ Keeps (fun _ => False) w w'
set_option maxRecDepth 100000 in
theorem mk4 (w : World) : ∃ w', (Instr.makeSlice 22 (.int .i64 4) (.int .i64 4)).run Tryz.prog w = .ok (.slice (some ⟨w.heap.size, 0, none⟩) 4 4) w' ∧ w'.heap[w.heap.size]? = some (rowObj (List.replicate 4 0)) ∧ Keeps (fun _ => False) w w' := by
 obtain ⟨i0, hi, hz0, hz1, hz2⟩ := info_parts info_u8
 have hr := run_make (P := Tryz.prog) w 22 5 i0 _ Tryz.underlying22 hi hz0 .i64 .i64 4 4 (by omega) (by omega) (by rw [hz2]; omega) (by omega)
 rw [hz1] at hr
 have e : (Obj.cells (madeCells (Value.int .u8 0).cells (Int.toNat 4 * 1)) 5 (0, 0)) = rowObj (List.replicate 4 0) := by
  unfold rowObj
  congr 1
  apply Array.ext'
  simp [madeCells, Value.cells, u8v, List.range_succ_eq_map]
 rw [e] at hr
 exact ⟨_, hr, heap_alloc_new w _, (Keeps.refl _ w).alloc _⟩
set_option maxRecDepth 100000 in
set_option maxHeartbeats 2000000 in
theorem unhex4_calls (w : World) {x : List UInt8} (hx : x.length = 4) : Calls Tryz.prog 66 #[.string ⟨(hexOf x).toArray⟩] w (UnhexPost4 w x) := by
 have hix := fun (W : World) (i : Nat) (c : UInt8) (h : (hexOf x)[i]? = some c) => text_index (W := W) h
 have hlen : (((⟨(hexOf x).toArray⟩ : ByteArray).size : Nat) : Int) = 8 := by
  show (((hexOf x).toArray).size : Int) = 8
  rw [List.size_toArray, hexOf_length, hx]; rfl
 generalize (⟨(hexOf x).toArray⟩ : ByteArray) = s at hix hlen ⊢
 obtain ⟨w1, hmk, hb, hk⟩ := mk4 w
 have hst : Own w w1 [rObj w.heap.size w.heap.size (rowObj (unhexRow x 0))] := by
  have e : unhexRow x 0 = List.replicate 4 0 := by simp [unhexRow, hx]
  rw [e]
  exact (Own.start w).add hk (r := rObj _ w.heap.size (rowObj (List.replicate 4 0))) (G := fun b => b = w.heap.size) ⟨rfl, hb⟩ (fun b hb' => by
   subst hb'
   exact ⟨Nat.le_refl _, lt_of_heap hb⟩)
 have HST := Lib.hid hst
 have HIX := Lib.hid hix
 have HX := Lib.hid hx
 clear hb hk hx hst hix
 go_enter Tryz.func66, Tryz.ntmps66
 go_wp2_with fail
 go_loopw [18] (fun iv wx => ∃ k : Nat, iv = .int .i64 (k : Int) ∧ k ≤ 4 ∧ Own w wx [rObj w.heap.size w.heap.size (rowObj (unhexRow x k))]) (fun iv _ => 4 - (intOf iv).toNat)
 case atStart => exact ⟨0, rfl, Nat.zero_le _, HST.out⟩
 case round =>
  obtain ⟨k, rfl, hk, ho⟩ := hrel
  have j0 : (0 : Int) ≤ k := by omega
  by_cases hlt : k < 4
  ·obtain ⟨c, hc⟩ : ∃ c, x[k]? = some c := ⟨x[k]'(by rw [HX.out]; omega), List.getElem?_eq_getElem _⟩
   have j2 : (k : Int) < 4 := by omega
   obtain ⟨h1, h2⟩ := hexOf_at hc
   have hi1 := fun W => HIX.out W _ _ h1
   have hi2 := fun W => HIX.out W _ _ h2
   have e1 : ((2 * k : Nat) : Int) = 2 * (k : Int) := by omega
   have e2 : ((2 * k + 1 : Nat) : Int) = 2 * (k : Int) + 1 := by omega
   rw [e1] at hi1
   rw [e2] at hi2
   have hw1 : IntKind.i64.wrap (2 * (k : Int)) = 2 * (k : Int) := by rw [IntKind.wrap_i64]; omega
   have hw2 : IntKind.i64.wrap (2 * (k : Int) + 1) = 2 * (k : Int) + 1 := by rw [IntKind.wrap_i64]; omega
   have hcl := c.toNat_lt
   have hd1 := fun W => digit_runs W (c.toNat / 16) (by omega)
   have hd2 := fun W => digit_runs W (c.toNat % 16) (by omega)
   generalize ((hexd (c.toNat / 16)).toNat : Int) = z1 at hi1 hd1
   generalize ((hexd (c.toNat % 16)).toNat : Int) = z2 at hi2 hd2
   obtain ⟨g1, hg1⟩ : ∃ g : Nat, g = c.toNat / 16 := ⟨_, rfl⟩
   obtain ⟨g2, hg2⟩ : ∃ g : Nat, g = c.toNat % 16 := ⟨_, rfl⟩
   rw [← hg1] at hd1
   rw [← hg2] at hd2
   have hb1 : ¬ (15 : Int) < (g1 : Int) := by omega
   have hb2 : ¬ (15 : Int) < (g2 : Int) := by omega
   have hgg : bits BinOp.or IntKind.u8 ((g1 : Int) * 16) (g2 : Int) = (c.toNat : Int) := by
    have := two_digits c.toNat hcl
    rw [← hg1, ← hg2] at this
    exact this
   have hbk := (ho.at (b := w.heap.size) (o := rowObj (unhexRow x k)) (by simp)).1
   have hul : (unhexRow x k).length = 4 := by
    unfold unhexRow
    rw [List.length_append, List.length_take, List.length_replicate, HX.out]; omega
   have hcell : wr.cell? ⟨w.heap.size, k, none⟩ = some (u8v ((unhexRow x k)[k]'(by omega))) := cell_at hbk (by simp [hul, hlt])
   have hfree := free_at hbk k
   have hnx := ho.store k (u8v c)
   have hset : (((unhexRow x k).map u8v).toArray).setIfInBounds k (u8v c) = ((unhexRow x (k + 1)).map u8v).toArray := by
    rw [← unhexRow_step hc, List.map_set]; simp
   rw [hset] at hnx
   have HNX := Lib.hid (hnx.drew)
   have HLT := Lib.hid hlt
   generalize u8v ((unhexRow x k)[k]'(by omega)) = old at hcell
   have HNX2 := Lib.hid hnx
   have HD1 := Lib.hid hd1
   have HD2 := Lib.hid hd2
   clear hd1 hd2 h1 h2 e1 e2 hcl hg1 hg2 hbk hul hnx hset ho
   go_wp2_with fail
   go_region_held3 (fun _ => True) (trivial) (first | (go_at_call_of 125 (Value.int .u8 z1); refine (HD1.out _).out.mono ?_; rintro e w' ⟨rfl, rfl⟩) | (go_at_call_of 125 (Value.int .u8 z2); refine (HD2.out _).out.mono ?_; rintro e w' ⟨rfl, rfl⟩))
   all_goals
    go_wp2_with fail
    go_roundw
    case rel => exact ⟨k + 1, rfl, HLT.out, HNX.out⟩
    case measure => have := HLT.out; simp [intOf]; omega
  ·obtain rfl : k = 4 := by omega
   have hb := (ho.at (b := w.heap.size) (o := rowObj (unhexRow x 4)) (by simp)).1
   have e : unhexRow x 4 = x := by
    unfold unhexRow
    rw [HX.out, List.take_of_length_le (by rw [HX.out]; omega)]
    simp
   rw [e] at hb
   have HR := Lib.hid (fun (j : Nat) (v : Value) (hv : (x.map u8v)[j]? = some v) => (by rw [Nat.zero_add]; exact cell_at hb (by rw [List.getElem?_toArray]; exact hv) : wr.cell? ⟨w.heap.size, 0 + j, none⟩ = some v))
   have HK := Lib.hid ho.keeps
   clear hb ho e hlt hk
   go_wp2_with fail
   go_ret2
   exact ⟨w.heap.size, rfl, HR.out, HK.out⟩
end Go.Proofs.YtlcnhpjggjgnpaaGreatDoor
