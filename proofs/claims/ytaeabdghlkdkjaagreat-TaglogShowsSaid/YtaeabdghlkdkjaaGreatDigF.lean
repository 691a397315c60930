/- The sum of bytes. -/
import Derived.Test.YtaeabdghlkdkjaaGreatDigS
namespace Go.Proofs.YtaeabdghlkdkjaaGreat
set_option linter.unusedVariables false
open Go.RowKit Go.MapKept

theorem sumOf_length (L : List UInt8) : (sumOf L).length = 32 := by
  have h : (hashH (L ++ padOf L.length)).length = 8 := hashN_length _ _
  rw [sumOf, flat4_length, h]
set_option maxRecDepth 100000 in
theorem sum_calls {w : World} {v : Value} {l : List UInt8} (hr : Reads w v l) (hb : l.length < 70368744177664) : Calls Tryz.prog 116 #[v] w (QuietP w (.agg ((sumOf l).map u8v).toArray)) := by
  obtain ⟨wA, hwA⟩ : ∃ wA : World, wA = w.alloc (.cells (Array.replicate 32 (.int .u8 0)) 83) := ⟨_, rfl⟩
  have hkA : Keeps (fun _ => False) w wA := by rw [hwA]; exact (Keeps.refl _ w).alloc _
  have hzA : wA.heap.size = w.heap.size + 1 := by rw [hwA, World.size_alloc]
  have hrA : wA.heap[w.heap.size]? = some (.cells (Array.replicate 32 (.int .u8 0)) 83) := by rw [hwA]; exact heap_alloc_new w _
  have hnew := dnew_runs wA
  have hk1 : Keeps (fun _ => False) wA (wA.alloc (stObj hWords (restOf 0 (List.replicate 64 0)))) := (Keeps.refl _ wA).alloc _
  have hst : StAt (wA.alloc (stObj hWords (restOf 0 (List.replicate 64 0)))) (w.heap.size + 1) [] := by
    rw [← hzA]
    exact ⟨List.replicate 64 0, heap_alloc_new wA _, by simp, by simp⟩
  have hne : ∀ x n c, v = .slice (some x) n c → l ≠ [] → x.block ≠ w.heap.size + 1 := by
    intro x n c e hl hx
    subst e
    rcases hr with ⟨e, _⟩ | ⟨x', c', e, g1, g2, g3⟩
    · cases e
    · cases e
      obtain ⟨b, l', rfl⟩ := List.exists_cons_of_ne_nil hl
      have := World.block_lt_of_cell? w _ (g3 0 (u8v b) rfl)
      rw [addr_block] at this
      omega
  have hput := put_calls' hst ((hr.keep hkA).keep hk1) hne (by simp; omega)
  rw [hzA] at hnew
  obtain ⟨a, c, rfl, hc1, hc2⟩ := hr.form
  obtain ⟨ds, hds⟩ : ∃ ds : Array Value, ds = ((sumOf l).map u8v).toArray := ⟨_, rfl⟩
  have hdz : ds.size = 32 := by rw [hds]; simp [sumOf_length]
  have hinfo : (Tryz.prog.info? 83).map (·.size) = some ds.size := by rw [hdz]; kernel_rfl
  have hone : ds.all (·.oneCell') = true := by rw [hds]; exact bytes_one _
  have HP := Lib.hid hput
  have HN := Lib.hid hnew
  have HKA := Lib.hid hkA
  have HK := Lib.hid hk1
  have HRA := Lib.hid hrA
  have HZA := Lib.hid hzA
  have HWA := Lib.hid hwA
  have HINF := Lib.hid hinfo
  have HONE := Lib.hid hone
  have HDZ := Lib.hid hdz
  rw [← hds]
  have HDS := Lib.hid hds
  clear hput hnew hk1 hst hne hr hkA hzA hrA hwA hinfo hone hdz hds hc1 hc2
  go_enter Tryz.func116, Tryz.ntmps116
  go_wp2_with fail
  change Calls _ _ _ (w.alloc (.cells (Array.replicate 32 (.int .u8 0)) 83)) _
  rw [← HWA.out]
  refine HN.out.out.mono ?_; rintro e w' ⟨rfl, rfl⟩
  go_wp2_with fail
  refine HP.out.mono ?_
  rintro e w2 ⟨rfl, hk2, hst2⟩
  rw [List.nil_append] at hst2
  have hd2 := dsum_calls hst2 hb
  rw [← HDS.out] at hd2
  have hk3 : Keeps (fun _ => False) w w2 := (HKA.out.trans HK.out (fun _ _ e => e)).trans hk2 (fun b hb e => by omega)
  have hr2 : w2.heap[w.heap.size]? = some (.cells (Array.replicate 32 (.int .u8 0)) 83) := hk2.at (HK.out.at HRA.out (fun e => e)) (fun e => by omega)
  have HD := Lib.hid hd2
  have HK3 := Lib.hid hk3
  have HR2 := Lib.hid hr2
  clear hk2 hst2 hd2 hk3 HP HN HK HKA HRA hr2 hb
  go_wp2_with fail
  refine HD.out.mono ?_
  rintro e w3 ⟨rfl, hk4⟩
  have hr3 := hk4.at HR2.out (fun e => e)
  have HK4 := Lib.hid ((HK3.out.trans hk4 (fun _ _ e => e)).trans (keeps_setRow w3 w.heap.size ds) (fun b hb e => by omega))
  have HR4 := Lib.hid (setRow_heap w3 w.heap.size _ ds 83 _ hr3)
  have HR3 := Lib.hid hr3
  clear hk4 HK3 HD hr3 HR2
  go_wp2_with (refine wpList_store_row rfl 83 _ _ rfl w.heap.size ds rfl rfl 83 _ HR3.out HINF.out (by rw [HDZ.out]; rfl) HONE.out ?_)
  refine bodyPost_ret (results_cell_row Tryz.results116 _ _ w.heap.size 83 ds (0, 0) _ rfl HR4.out Tryz.underlying83 rfl HINF.out) rfl ?_
  exact ⟨rfl, HK4.out⟩
end Go.Proofs.YtaeabdghlkdkjaaGreat
