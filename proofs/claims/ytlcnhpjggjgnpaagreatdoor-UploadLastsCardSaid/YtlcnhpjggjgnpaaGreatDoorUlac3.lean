/- A part of the proof. -/
import Derived.Test.YtlcnhpjggjgnpaaGreatDoorUlaa8
namespace Go.Proofs.YtlcnhpjggjgnpaaGreatDoor
set_option linter.unusedVariables false
open Go.RowKit Go.MapKept
def ukeyOf (x : Nat) : ByteArray := (⟨#[117, 47]⟩ : ByteArray) ++ (⟨(hexOf (putOf x 4)).toArray⟩ : ByteArray)
set_option maxRecDepth 100000 in
theorem ukey_calls (w : World) (i : Int) (x : Nat) (hx : IntKind.u64.wrap i = (x : Int)) (hx2 : x < 18446744073709551616) : Calls Tryz.prog 23 #[.int .i64 i] w (QuietP w (.string (ukeyOf x))) := by
 have hp := put_calls w x 4 hx2 (by omega)
 have HP := Lib.hid hp
 unfold ukeyOf
 clear hp hx2
 go_enter Tryz.func23, Tryz.ntmps23
 go_wp2_with fail
 refine HP.out.mono ?_
 rintro e w1 ⟨v1, rfl, ho, hk⟩
 have hh := hex_calls ho.bytes.reads (by rw [putOf_length]; omega)
 obtain ⟨a, c, rfl, -, -⟩ := ho.bytes.form
 have HH := Lib.hid hh
 have HK := Lib.hid hk
 clear hh ho hk HP hx
 generalize (putOf x 4).length = n4 at HH ⊢
 go_wp2_with fail
 refine HH.out.mono ?_
 rintro e w2 ⟨rfl, hk2⟩
 have HF := Lib.hid (HK.out.trans hk2 (fun _ _ e => e))
 clear hk2 HH
 go_wp2_with fail
 go_ret
 exact ⟨rfl, HF.out⟩
end Go.Proofs.YtlcnhpjggjgnpaaGreatDoor
