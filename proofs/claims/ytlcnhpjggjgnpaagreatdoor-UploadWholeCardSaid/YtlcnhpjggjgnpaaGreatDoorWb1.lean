/- A part of the proof. -/
import Derived.Test.YtlcnhpjggjgnpaaGreatDoorWa8
import Derived.Test.YtlcnhpjggjgnpaaGreatDoorWa9
import Derived.Test.YtlcnhpjggjgnpaaGreatDoorWb0
import Derived.StillTailTactics
import Derived.Deep.RegionHeld3
import Derived.Deep.MidRow
namespace Go.Proofs.YtlcnhpjggjgnpaaGreatDoor
set_option linter.unusedVariables false
open Go.RowKit Go.MapKept
def tmpB : ByteArray := ⟨#[98, 43]⟩
def fileOf (dg : List UInt8) : ByteArray := ⟨#[98, 47]⟩ ++ ⟨(hexOf dg).toArray⟩
theorem fileOf_size (dg : List UInt8) (h : dg.length = 32) : (fileOf dg).size = 66 := by
  rw [fileOf, ByteArray.size_append]
  show 2 + (hexOf dg).toArray.size = 66
  rw [List.size_toArray, hexOf_length, h]
theorem agg_reads {w : World} {b : Nat} {dg : List UInt8} (h : w.heap[b]? = some (.cells (dg.map u8v).toArray 39)) (hl : dg.length = 32) : Reads w (.slice (some ⟨b, 0, none⟩) 32 32) dg := by
  refine .inr ⟨⟨b, 0, none⟩, 32, by rw [hl], by omega, by simp [maxLen], fun j u hu => ?_⟩
  rw [Addr.add_lit, Nat.zero_add]
  exact cell_at h (by rw [List.getElem?_toArray]; exact hu)
set_option maxRecDepth 100000 in
theorem file_calls (w : World) (dg : List UInt8) (hl : dg.length = 32) : Calls Tryz.prog 56 #[.agg (dg.map u8v).toArray] w (QuietP w (.string (fileOf dg))) := by
  obtain ⟨ds, hds⟩ : ∃ ds : Array Value, ds = (dg.map u8v).toArray := ⟨_, rfl⟩
  have hx := hex_calls (w := w.alloc (.cells ds 39)) (v := .slice (some ⟨w.heap.size, 0, none⟩) 32 32) (l := dg) (agg_reads (by rw [hds]; exact heap_alloc_new w _) hl) (by omega)
  have hsl := fun W => dall_run W w.heap.size
  have hadd := fun W => run_string_add_sum (P := Tryz.prog) W ⟨#[98, 47]⟩ ⟨(hexOf dg).toArray⟩ (by show 2 + (hexOf dg).toArray.size ≤ _; rw [List.size_toArray, hexOf_length]; omega)
  rw [← hds]
  have HX := Lib.hid hx
  have hk1 : Keeps (fun _ => False) w (w.alloc (.cells ds 39)) := (Keeps.refl _ w).alloc _
  have HK1 := Lib.hid hk1
  have hfe : fileOf dg = ⟨#[98, 47]⟩ ++ ⟨(hexOf dg).toArray⟩ := rfl
  rw [hfe]
  generalize (⟨(hexOf dg).toArray⟩ : ByteArray) = hs at HX hadd ⊢
  clear hx hk1 hds hl hfe
  go_enter Tryz.func56, Tryz.ntmps56
  go_wp2_with fail
  refine HX.out.mono ?_
  rintro e w2 ⟨rfl, hk2⟩
  have HK2 := Lib.hid (HK1.out.trans hk2 (fun _ _ e => e))
  clear hk2 HK1 HX
  go_wp2_with fail
  go_ret
  exact ⟨rfl, HK2.out⟩
end Go.Proofs.YtlcnhpjggjgnpaaGreatDoor
