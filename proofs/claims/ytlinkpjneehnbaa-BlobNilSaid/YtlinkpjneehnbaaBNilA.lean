/- What the methods of a nil store answer. -/
import Derived.Test.YtlinkpjneehnbaaBlobF
namespace Go.Proofs.Ytlinkpjneehnbaa
set_option linter.unusedVariables false
set_option linter.unusedSimpArgs false
open Go.RowKit Go.MapKept

section
variable (w : World) (cl : List Value)
set_option maxRecDepth 100000 in
theorem size_nilB : Calls Try.prog 66 #[.pointer none, .agg cl.toArray] w (QuietP w (.tuple #[.int .i64 0, .int .i64 2])) := by
  have HK := Lib.hid ((Keeps.refl (fun _ => False) w).alloc (.cells cl.toArray 58))
  go_enter Try.func66, Try.ntmps66
  go_wp2_with fail
  go_ret2
  exact ⟨rfl, HK.out⟩
set_option maxRecDepth 100000 in
theorem read_nilB (x y : Int) : Calls Try.prog 46 #[.pointer none, .agg cl.toArray, .int .i64 x, .int .i64 y] w (QuietP w (.tuple #[.slice none 0 0, .int .i64 2])) := by
  have HK := Lib.hid ((Keeps.refl (fun _ => False) w).alloc (.cells cl.toArray 58))
  go_enter Try.func46, Try.ntmps46
  go_wp2_with fail
  go_ret2
  exact ⟨rfl, HK.out⟩
set_option maxRecDepth 100000 in
theorem list_nilB : Calls Try.prog 67 #[.pointer none] w (QuietP w (.tuple #[.slice none 0 0, .int .i64 2])) := by
  go_enter Try.func67, Try.ntmps67
  go_wp2_with fail
  go_ret2
  exact ⟨rfl, Keeps.refl _ w⟩
set_option maxRecDepth 100000 in
theorem delete_nilB : Calls Try.prog 68 #[.pointer none, .agg cl.toArray] w (QuietP w (.int .i64 2)) := by
  have HK := Lib.hid ((Keeps.refl (fun _ => False) w).alloc (.cells cl.toArray 58))
  go_enter Try.func68, Try.ntmps68
  go_wp2_with fail
  go_ret
  exact ⟨rfl, HK.out⟩
set_option maxRecDepth 100000 in
theorem adopt_nilB (nm : ByteArray) : Calls Try.prog 49 #[.pointer none, .string nm, .agg cl.toArray] w (QuietP w (.int .i64 2)) := by
  have HK := Lib.hid ((Keeps.refl (fun _ => False) w).alloc (.cells cl.toArray 58))
  go_enter Try.func49, Try.ntmps49
  go_wp2_with fail
  go_ret
  exact ⟨rfl, HK.out⟩
set_option maxRecDepth 100000 in
theorem whole_nilB (hl : cl.length = 32) : Calls Try.prog 50 #[.pointer none, .agg cl.toArray] w (QuietP w (.bool false)) := by
  have HK := Lib.hid ((Keeps.refl (fun _ => False) w).alloc (.cells cl.toArray 58))
  have HI := Lib.hid (dig_info (ds := cl.toArray) (by simp [hl]))
  have HB := Lib.hid (heap_alloc_new w (.cells cl.toArray 58))
  have HS := Lib.hid (size_nilB (w.alloc (.cells cl.toArray 58)) cl)
  clear hl
  go_enter Try.func50, Try.ntmps50
  go_wp2_with (first | (refine wpList_load_row rfl 58 _ rfl w.heap.size rfl 58 cl.toArray (0, 0) _ HB.out Try.underlying58 rfl HI.out ?_))
  refine HS.out.mono ?_
  rintro e w2 ⟨rfl, hk2⟩
  have HK2 := Lib.hid (HK.out.trans hk2 (fun _ _ e => e))
  clear hk2 HS
  go_wp2_with fail
  go_ret
  exact ⟨rfl, HK2.out⟩
set_option maxRecDepth 100000 in
theorem new_nilB : Calls Try.prog 41 #[.pointer none] w (QuietP w (.tuple #[.pointer none, .int .i64 2])) := by
  have hs := fun W => size_nil tmpB W
  unfold tmpB at hs
  go_enter Try.func41, Try.ntmps41
  go_wp2_with fail
  refine (hs _).out.mono ?_; rintro e w' ⟨rfl, rfl⟩
  go_wp2_with fail
  go_ret2
  exact ⟨rfl, Keeps.refl _ w⟩
end
set_option maxRecDepth 100000 in
theorem put_nilB (w : World) (a : Option Addr) (n c : Nat) : Calls Try.prog 43 #[.pointer none, .slice a n c] w (QuietP w (.tuple #[.agg zeroC, .int .i64 2])) := by
  have hz0 := heap_alloc_new w (.cells zeroC 58)
  have hrow := setRow_heap (w.alloc (.cells zeroC 58)) w.heap.size zeroC zeroC 58 _ hz0
  have hk : Keeps (fun _ => False) w ((w.alloc (.cells zeroC 58)).setRow w.heap.size zeroC) := by
    rw [World.setRow_alloc_new]
    exact (Keeps.refl _ w).alloc _
  have HK := Lib.hid hk
  have HW := Lib.hid hrow
  have HZ := Lib.hid hz0
  clear hz0 hrow hk
  go_enter Try.func43, Try.ntmps43
  go_wp2_with (first | (refine wpList_build_as rfl 58 _ rfl zeroC zeroC_built ?_) | (refine wpList_store_row rfl 58 _ _ rfl w.heap.size zeroC rfl rfl 58 _ HZ.out (dig_info zeroC_size) rfl (by kernel_rfl) ?_))
  refine bodyPost_ret (res_dig2 Try.results43 _ _ w.heap.size zeroC zeroC_size rfl HW.out) rfl ?_
  exact ⟨rfl, HK.out⟩
end Go.Proofs.Ytlinkpjneehnbaa
