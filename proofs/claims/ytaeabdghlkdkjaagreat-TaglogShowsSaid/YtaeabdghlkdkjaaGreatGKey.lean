/- The keys of a log's entries. -/
import Derived.Test.YtaeabdghlkdkjaaGreatRHex
import Derived.Test.YtaeabdghlkdkjaaGreatPkD
namespace Go.Proofs.YtaeabdghlkdkjaaGreat
set_option linter.unusedVariables false
open Go.RowKit Go.MapKept

def keyOf (x : Nat) : ByteArray := (⟨#[103, 47]⟩ : ByteArray) ++ (⟨(hexOf (putOf x 4)).toArray⟩ : ByteArray)
theorem u64_nat (i : Int) : ∃ x : Nat, IntKind.u64.wrap i = (x : Int) ∧ x < 18446744073709551616 := by
  have h0 : 0 ≤ IntKind.u64.wrap i := by
    simp only [IntKind.wrap, IntKind.signed, IntKind.bits]
    simp
    exact Int.emod_nonneg _ (by decide)
  have h1 : IntKind.u64.wrap i < 18446744073709551616 := by
    simp only [IntKind.wrap, IntKind.signed, IntKind.bits]
    simp
    exact Int.emod_lt_of_pos _ (by decide)
  exact ⟨(IntKind.u64.wrap i).toNat, by omega, by omega⟩
set_option maxRecDepth 100000 in
theorem key_calls (w : World) (i : Int) (x : Nat) (hx : IntKind.u64.wrap i = (x : Int)) (hx2 : x < 18446744073709551616) : Calls Tryz.prog 41 #[.int .i64 i] w (QuietP w (.string (keyOf x))) := by
  have hp := put_calls w x 4 hx2 (by omega)
  have HP := Lib.hid hp
  unfold keyOf
  clear hp hx2
  go_enter Tryz.func41, Tryz.ntmps41
  go_wp2_with fail
  refine HP.out.mono ?_
  rintro e w1 ⟨v1, rfl, ho, hk⟩
  have hh := hex_calls ho.bytes.reads (by rw [putOf_length]; omega)
  obtain ⟨a, c, rfl, -, -⟩ := ho.bytes.form
  have HH := Lib.hid hh
  have HK := Lib.hid hk
  clear hh ho hk HP hx
  generalize (putOf x 4).length = n4 at HH ⊢
  go_wp2_with fail
  refine HH.out.mono ?_
  rintro e w2 ⟨rfl, hk2⟩
  have HF := Lib.hid (HK.out.trans hk2 (fun _ _ e => e))
  clear hk2 HH
  go_wp2_with fail
  go_ret
  exact ⟨rfl, HF.out⟩
set_option maxRecDepth 100000 in
theorem rkey_calls (w : World) (i : Int) (x : Nat) (hx : IntKind.u64.wrap i = (x : Int)) (hx2 : x < 18446744073709551616) : Calls Tryz.prog 42 #[.int .i64 i] w (QuietP w (.string (keyOf x))) := by
  have hp := rput_calls w x 4 hx2 (by omega) (by omega)
  have HP := Lib.hid hp
  unfold keyOf
  clear hp hx2
  go_enter Tryz.func42, Tryz.ntmps42
  go_wp2_with fail
  refine HP.out.mono ?_
  rintro e w1 ⟨v1, rfl, ho, hk⟩
  have hh := rhex_calls ho.bytes.reads (by rw [putOf_length]; omega)
  obtain ⟨a, c, rfl, -, -⟩ := ho.bytes.form
  have HH := Lib.hid hh
  have HK := Lib.hid hk
  clear hh ho hk HP hx
  generalize (putOf x 4).length = n4 at HH ⊢
  go_wp2_with fail
  refine HH.out.mono ?_
  rintro e w2 ⟨rfl, hk2⟩
  have HF := Lib.hid (HK.out.trans hk2 (fun _ _ e => e))
  clear hk2 HH
  go_wp2_with fail
  go_ret
  exact ⟨rfl, HF.out⟩
end Go.Proofs.YtaeabdghlkdkjaaGreat
