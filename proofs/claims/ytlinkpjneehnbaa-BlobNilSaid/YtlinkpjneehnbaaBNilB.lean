/- The document's name of a blob's file. -/
import Derived.Test.YtlinkpjneehnbaaBNilA
import Derived.Test.YtlinkpjneehnbaaRHex
namespace Go.Proofs.Ytlinkpjneehnbaa
set_option linter.unusedVariables false
set_option linter.unusedSimpArgs false
open Go.RowKit Go.MapKept

theorem agg_reads32 {w : World} {b : Nat} {dg : List UInt8} (h : w.heap[b]? = some (.cells (dg.map u8v).toArray 57)) (hl : dg.length = 32) : Reads w (.slice (some ⟨b, 0, none⟩) 32 32) dg := by
  refine .inr ⟨⟨b, 0, none⟩, 32, by rw [hl], by omega, by simp [maxLen], fun j u hu => ?_⟩
  rw [Addr.add_lit, Nat.zero_add]
  exact cell_at h (by rw [List.getElem?_toArray]; exact hu)
theorem dall_run32 (W : World) (b : Nat) : (Instr.sliceAt 57 (.pointer (some ⟨b, 0, none⟩)) none none none).run Try.prog W = .ok (.slice (some ⟨b, 0, none⟩) 32 32) W := by kernel_rfl
set_option maxRecDepth 100000 in
theorem rfile_calls (w : World) (dg : List UInt8) (hl : dg.length = 32) : Calls Try.prog 70 #[.agg (dg.map u8v).toArray] w (QuietP w (.string (fileOf dg))) := by
  obtain ⟨ds, hds⟩ : ∃ ds : Array Value, ds = (dg.map u8v).toArray := ⟨_, rfl⟩
  have hx := rhex_calls (w := w.alloc (.cells ds 57)) (v := .slice (some ⟨w.heap.size, 0, none⟩) 32 32) (l := dg) (agg_reads32 (by rw [hds]; exact heap_alloc_new w _) hl) (by omega)
  have hsl := fun W => dall_run32 W w.heap.size
  have hadd := fun W => run_string_add_sum (P := Try.prog) W ⟨#[98, 47]⟩ ⟨(hexOf dg).toArray⟩ (by show 2 + (hexOf dg).toArray.size ≤ _; rw [List.size_toArray, hexOf_length]; omega)
  rw [← hds]
  have HX := Lib.hid hx
  have hk1 : Keeps (fun _ => False) w (w.alloc (.cells ds 57)) := (Keeps.refl _ w).alloc _
  have HK1 := Lib.hid hk1
  have hfe : fileOf dg = ⟨#[98, 47]⟩ ++ ⟨(hexOf dg).toArray⟩ := rfl
  rw [hfe]
  generalize (⟨(hexOf dg).toArray⟩ : ByteArray) = hs at HX hadd ⊢
  clear hx hk1 hds hl hfe
  go_enter Try.func70, Try.ntmps70
  go_wp2_with fail
  refine HX.out.mono ?_
  rintro e w2 ⟨rfl, hk2⟩
  have HK2 := Lib.hid (HK1.out.trans hk2 (fun _ _ e => e))
  clear hk2 HK1 HX
  go_wp2_with fail
  go_ret
  exact ⟨rfl, HK2.out⟩
end Go.Proofs.Ytlinkpjneehnbaa
