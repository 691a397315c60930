/- The walk of DiskNil. -/
import Derived.Test.YtlinkpjneehnbaaSync
import Derived.Test.YtlinkpjneehnbaaAwake
namespace Go.Proofs.Ytlinkpjneehnbaa
open Go.RowKit Go.MapKept

theorem names_nil (h : ByteArray) (w : World) : Runs 55 #[.pointer none, .string h] w (.tuple #[.slice none 0 0, .int .i64 2]) w := by
  unfold Runs
  go_enter Try.func55, Try.ntmps55
  go_wp2_with (go_at_call 73; refine (up_nilr _).out.mono ?_; rintro e w' ⟨rfl, rfl⟩)
  go_ret2
  exact ⟨rfl, rfl⟩
theorem used_nilr (w : World) : Runs 22 #[.pointer none] w (.int .i64 0) w := used_nil w

set_option maxRecDepth 100000 in
set_option maxHeartbeats 1000000 in
theorem nil_walk (s : ByteArray) (pa : Option Addr) (pl pc : Nat) (n : Int) (w : World) :
    Calls Try.prog 14 #[.string s, .slice pa pl pc, .int .i64 n] w fun e w' => e = .returned (.bool true) ∧ Below w.heap.size w w' := by
  go_enter Try.func14, Try.ntmps14
  go_wp2_with fail
  refine (read_nil s n n w).out.mono ?_; rintro e w' ⟨rfl, rfl⟩
  go_wp2_with fail
  refine (size_nil s w).out.mono ?_; rintro e w' ⟨rfl, rfl⟩
  go_wp2_with fail
  refine (names_nil s w).out.mono ?_; rintro e w' ⟨rfl, rfl⟩
  go_wp2_with fail
  refine (awake_calls w).mono ?_; rintro e w1 ⟨rfl, hk⟩
  go_wp2_with (first | (go_at_call 20; refine (create_nil _ _).out.mono ?_; rintro e w' ⟨rfl, rfl⟩) | (go_at_call 21; refine (append_nil _ _ _).out.mono ?_; rintro e w' ⟨rfl, rfl⟩) | (go_at_call 23; refine (remove_nil _ _).out.mono ?_; rintro e w' ⟨rfl, rfl⟩) | (go_at_call 60; refine (rename_nil _ _ _).out.mono ?_; rintro e w' ⟨rfl, rfl⟩) | (go_at_call 24; refine (sync_nil _).out.mono ?_; rintro e w' ⟨rfl, rfl⟩) | (go_at_call 44; refine (fuse_nil _ _).out.mono ?_; rintro e w' ⟨rfl, rfl⟩) | (go_at_call 25; refine (crash_nil _ _ _).out.mono ?_; rintro e w' ⟨rfl, rfl⟩) | (go_at_call 22; refine (used_nilr _).out.mono ?_; rintro e w' ⟨rfl, rfl⟩) | (go_at_call 26; refine (loose_nil _).out.mono ?_; rintro e w' ⟨rfl, rfl⟩) | (go_at_call 47; refine (down_nil _).out.mono ?_; rintro e w' ⟨rfl, rfl⟩))
  go_ret
  exact ⟨rfl, hk.below⟩
end Go.Proofs.Ytlinkpjneehnbaa
