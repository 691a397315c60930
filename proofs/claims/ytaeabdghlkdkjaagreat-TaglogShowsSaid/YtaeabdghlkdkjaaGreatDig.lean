/- The digest: rotation of a word. -/
import Derived.Test.YtaeabdghlkdkjaaGreatPkD
import Derived.Laws.Shifts
namespace Go.Proofs.YtaeabdghlkdkjaaGreat
open Go.RowKit Go.MapKept

/-- How far RotateLeft32 shifts. -/
def rotS (k : Int) : Int := bits .and .u64 (IntKind.u64.wrap k) 31
def rotlV (x k : Int) : Int := bits .or .u32 (IntKind.u32.wrap (x * 2 ^ min (rotS k).toNat 32)) (x / 2 ^ min (IntKind.u64.wrap (32 - rotS k)).toNat 32)
set_option maxRecDepth 100000 in
theorem rotl_runs (x k : Int) (w : World) (h1 : 0 ≤ rotS k) (h2 : 0 ≤ IntKind.u64.wrap (32 - rotS k)) : Runs 198 #[.int .u32 x, .int .i64 k] w (.int .u32 (rotlV x k)) w := by
  unfold Runs rotlV
  unfold rotS at *
  go_enter Tryz.func198, Tryz.ntmps198
  go_wp2_with fail
  go_ret
  exact ⟨rfl, rfl⟩
/-- octet.Rot. -/
def rotV (x n : Int) : Int := rotlV x (wrap64 (-bits .and .i64 n 31))
/-- A rotation by n goes as it should. -/
def RotOk (n : Int) : Prop := 0 ≤ rotS (wrap64 (-bits .and .i64 n 31)) ∧ 0 ≤ IntKind.u64.wrap (32 - rotS (wrap64 (-bits .and .i64 n 31)))
set_option maxRecDepth 100000 in
theorem rot_runs (x n : Int) (w : World) (h : RotOk n) : Runs 189 #[.int .u32 x, .int .i64 n] w (.int .u32 (rotV x n)) w := by
  have hr := rotl_runs x (wrap64 (-bits .and .i64 n 31)) w h.1 h.2
  have HR := Lib.hid hr
  clear hr h
  unfold Runs rotV
  go_enter Tryz.func189, Tryz.ntmps189
  go_wp2_with fail
  refine HR.out.out.mono ?_; rintro e w' ⟨rfl, rfl⟩
  go_wp2_with fail
  go_ret
  exact ⟨rfl, rfl⟩
theorem rotOk_all : RotOk 7 ∧ RotOk 18 ∧ RotOk 17 ∧ RotOk 19 ∧ RotOk 6 ∧ RotOk 11 ∧ RotOk 25 ∧ RotOk 2 ∧ RotOk 13 ∧ RotOk 22 := by
  refine ⟨?_, ?_, ?_, ?_, ?_, ?_, ?_, ?_, ?_, ?_⟩ <;> exact ⟨by decide +kernel, by decide +kernel⟩
end Go.Proofs.YtaeabdghlkdkjaaGreat
