/- merkle's Path, Proof, climb and Check. -/
import Derived.Test.YtaeabdghlkdkjaaGreatMrkP
import Derived.Deep.DeepCutAuto
import Derived.Deep.CutBlock
namespace Go.Proofs.YtaeabdghlkdkjaaGreat
set_option linter.unusedVariables false
open Go.RowKit Go.MapKept

/-- Path and Proof: a row of digests, or a code. -/
def DigsPost2 (w : World) (L : List Dg) (c : Int) (e : Ending) (w' : World) : Prop := ∃ v, e = .returned (.tuple #[v, .int .i64 c]) ∧ Digs w.heap.size w' v L ∧ Keeps (fun _ => False) w w'
set_option maxRecDepth 100000 in
theorem mpath_calls {L : List Dg} (hL : L.length ≤ 256) (w : World) (v : Value) (i : Int) (h : DgIn w v L) : Calls Tryz.prog 108 #[v, .int .i64 i] w (DigsPost2 w (if 0 ≤ i ∧ i < L.length then pathOf L i.toNat else []) (if 0 ≤ i ∧ i < L.length then 0 else 1)) := by
  obtain ⟨a, c, rfl, -, -⟩ := id h.form
  by_cases hi : 0 ≤ i ∧ i < L.length
  · rw [if_pos hi, if_pos hi]
    obtain ⟨k, rfl⟩ : ∃ k : Nat, i = k := ⟨i.toNat, by omega⟩
    have hp := path_calls1 256 L hL hL w _ k h (by omega)
    rw [Int.toNat_natCast]
    have HP := Lib.hid hp
    have i0 : (0 : Int) ≤ k := by omega
    have i1 : (k : Int) < L.length := by omega
    generalize pathOf L k = pt at *
    clear h hp hi
    go_enter Tryz.func108, Tryz.ntmps108
    go_wp2_with fail
    refine HP.out.mono ?_
    rintro e w1 ⟨v1, rfl, hd, hk⟩
    have HF := Lib.hid (⟨_, rfl, hd, hk⟩ : DigsPost2 w pt 0 (.returned (.tuple #[v1, .int .i64 0])) w1)
    clear hd hk HP
    go_wp2_with fail
    go_ret2
    exact HF.out
  · rw [if_neg hi, if_neg hi]
    by_cases h0 : i < 0
    · clear h hi
      go_enter Tryz.func108, Tryz.ntmps108
      go_wp2_with fail
      go_ret2
      exact ⟨_, rfl, Digs.nil _ _, Keeps.refl _ _⟩
    · have h1 : (L.length : Int) ≤ i := by omega
      clear h hi
      go_enter Tryz.func108, Tryz.ntmps108
      go_wp2_with fail
      go_ret2
      exact ⟨_, rfl, Digs.nil _ _, Keeps.refl _ _⟩
set_option maxRecDepth 100000 in
theorem mproof_calls {L : List Dg} (hL : L.length ≤ 256) (w : World) (v : Value) (m : Int) (h : DgIn w v L) : Calls Tryz.prog 109 #[v, .int .i64 m] w (DigsPost2 w (if 0 < m ∧ m ≤ L.length then proofOf L m.toNat true else []) (if 0 ≤ m ∧ m ≤ L.length then 0 else 1)) := by
  obtain ⟨a, c, rfl, -, -⟩ := id h.form
  by_cases h0 : m < 0
  · rw [if_neg (by omega), if_neg (by omega)]
    clear h
    go_enter Tryz.func109, Tryz.ntmps109
    go_wp2_with fail
    go_ret2
    exact ⟨_, rfl, Digs.nil _ _, Keeps.refl _ _⟩
  · by_cases h1 : (L.length : Int) < m
    · rw [if_neg (by omega), if_neg (by omega)]
      clear h
      go_enter Tryz.func109, Tryz.ntmps109
      go_wp2_with fail
      go_ret2
      exact ⟨_, rfl, Digs.nil _ _, Keeps.refl _ _⟩
    · by_cases h2 : m = 0
      · subst h2
        rw [if_neg (by omega), if_pos (by omega)]
        have j1 : (0 : Int) ≤ L.length := by omega
        clear h h1 h0
        go_enter Tryz.func109, Tryz.ntmps109
        go_wp2_with fail
        go_ret2
        exact ⟨_, rfl, Digs.nil _ _, Keeps.refl _ _⟩
      · obtain ⟨k, rfl⟩ : ∃ k : Nat, m = k := ⟨m.toNat, by omega⟩
        rw [if_pos (by omega), if_pos (by omega), Int.toNat_natCast]
        have hp := proof_calls1 256 L hL hL w _ k true h (by omega) (by omega)
        have HP := Lib.hid hp
        have e0 : ((k : Int) == 0) = false := by rw [beq_eq_false_iff_ne]; exact h2
        generalize proofOf L k true = pt at *
        clear h hp h2
        go_enter Tryz.func109, Tryz.ntmps109
        go_wp2_with fail
        refine HP.out.mono ?_
        rintro e w1 ⟨v1, rfl, hd, hk⟩
        have HF := Lib.hid (⟨_, rfl, hd, hk⟩ : DigsPost2 w pt 0 (.returned (.tuple #[v1, .int .i64 0])) w1)
        clear hd hk HP
        go_wp2_with fail
        go_ret2
        exact HF.out
end Go.Proofs.YtaeabdghlkdkjaaGreat
