/- TaglogNil: the walk. -/
import Derived.Test.YtaeabdghlkdkjaaGreatGAwk
namespace Go.Proofs.YtaeabdghlkdkjaaGreat
set_option linter.unusedVariables false
open Go.RowKit Go.MapKept

theorem gOpen_nil (w : World) : Runs 32 #[.pointer none] w (.tuple #[.pointer none, .int .i64 2]) w := by
  unfold Runs
  go_enter Tryz.func32, Tryz.ntmps32
  go_wp2_with fail
  go_ret2
  exact ⟨rfl, rfl⟩
set_option maxRecDepth 100000 in
set_option maxHeartbeats 1000000 in
theorem gnil_walk (i : Int) (a1 : Option Addr) (len1 cap1 : Nat) (w : World) : Calls Tryz.prog 6 #[.int .i64 i, .slice a1 len1 cap1] w fun e w' => e = .returned (.bool true) ∧ Below w.heap.size w w' := by
  obtain ⟨x, hx, hx2⟩ := u64_nat i
  have hr := groot_bad w (.pointer none) i 2 (by decide) (fun W _ => gfits_nil W i)
  have he := fun W => gentry_nil W i
  have hp := fun W => gpath_bad W (.pointer none) i i 2 (by decide) (gfits_nil W i)
  have hq := fun W => gproof_bad W (.pointer none) i i 2 (by decide) (gfits_nil W i)
  have hk := fun W => key_calls W i x hx hx2
  have hk2 := fun W => rkey_calls W i x hx hx2
  have HR := Lib.hid hr
  have HE := Lib.hid he
  have HP := Lib.hid hp
  have HQ := Lib.hid hq
  have HK := Lib.hid hk
  have HK2 := Lib.hid hk2
  have HA := Lib.hid awake15_calls
  have HI := Lib.hid (dig_info zeroC_size)
  generalize keyOf x = ky at *
  clear hr he hp hq hk hk2 hx hx2
  go_enter Tryz.func6, Tryz.ntmps6
  go_wp2_with fail
  refine HR.out.mono ?_
  rintro e w1 ⟨rfl, hk1⟩
  have HB := Lib.hid (heap_alloc_new w1 (.cells zeroC 83))
  have HK1 := Lib.hid (show Keeps (fun _ => False) w ((w1.alloc (.cells zeroC 83)).setRow w1.heap.size zeroC) from (hk1.alloc _).trans (keeps_setRow _ w1.heap.size zeroC) (fun b hb e => by have := hk1.size; omega))
  clear hk1 HR
  go_wp2_with (refine wpList_store_row rfl 83 _ _ rfl w1.heap.size zeroC rfl rfl 83 _ HB.out HI.out rfl (by kernel_rfl) ?_)
  obtain ⟨W1, hW1⟩ : ∃ W1, W1 = (w1.alloc (.cells zeroC 83)).setRow w1.heap.size zeroC := ⟨_, rfl⟩
  change Calls _ _ _ ((w1.alloc (.cells zeroC 83)).setRow w1.heap.size zeroC) _
  rw [← hW1] at HK1 ⊢
  clear hW1 HB HI
  refine (HE.out _).out.mono ?_; rintro e w' ⟨rfl, rfl⟩
  go_wp2_with fail
  refine (HP.out _).mono ?_
  rintro e w2 ⟨v2, rfl, -, hk2⟩
  have H2 := Lib.hid (HK1.out.trans hk2 (fun _ _ e => e))
  clear hk2 HK1 HE HP
  go_wp2_with fail
  refine (HQ.out _).mono ?_
  rintro e w3 ⟨v3, rfl, -, hk3⟩
  have H3 := Lib.hid (H2.out.trans hk3 (fun _ _ e => e))
  clear hk3 H2 HQ
  go_wp2_with fail
  refine (gOpen_nil _).out.mono ?_; rintro e w' ⟨rfl, rfl⟩
  go_wp2_with fail
  refine (HA.out _).mono ?_
  rintro e w4 ⟨rfl, hk4⟩
  have H4 := Lib.hid (H3.out.trans hk4 (fun _ _ e => e))
  clear hk4 H3 HA
  go_wp2_with fail
  refine (gAdd_nil _ _ _).out.mono ?_; rintro e w' ⟨rfl, rfl⟩
  go_wp2_with fail
  refine (gsize_nil _).out.mono ?_; rintro e w' ⟨rfl, rfl⟩
  go_wp2_with fail
  refine (HK.out _).mono ?_
  rintro e w5 ⟨rfl, hk5⟩
  have H5 := Lib.hid (H4.out.trans hk5 (fun _ _ e => e))
  clear hk5 H4 HK
  go_wp2_with fail
  refine (HK2.out _).mono ?_
  rintro e w6 ⟨rfl, hk6⟩
  have H6 := Lib.hid (H5.out.trans hk6 (fun _ _ e => e)).below
  clear hk6 H5 HK2
  go_wp2_with fail
  go_ret
  exact ⟨rfl, H6.out⟩
end Go.Proofs.YtaeabdghlkdkjaaGreat
