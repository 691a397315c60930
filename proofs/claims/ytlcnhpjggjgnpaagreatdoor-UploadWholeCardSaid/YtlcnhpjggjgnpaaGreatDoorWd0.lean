/- A part of the proof. -/
import Derived.Test.YtlcnhpjggjgnpaaGreatDoorWc7
import Derived.Lib.SlBytesConst
namespace Go.Proofs.YtlcnhpjggjgnpaaGreatDoor
set_option linter.unusedVariables false
open Go.RowKit Go.MapKept
def nmT : ByteArray := ⟨#[116]⟩
theorem nmT_name : isName nmT = true ∧ isName (tmpOf nmT) = true := by
  constructor
  · simp [isName, nmT]; rfl
  · have h1 : (tmpOf nmT).toList = [116, 43] := by decide +kernel
    have h2 : (tmpOf nmT).size = 2 := by decide +kernel
    simp [isName, h1, h2]
def oneT (room : Int) (b : List UInt8) : DM := { newOf room with now := [(nmT, b)], sure := [(nmT, b)], loose := [] }
theorem open_emptyT (room : Int) : openOf (newOf room) nmT = ⟨0, oneT room [], some ([], 0)⟩ := by
  have h1 : createOf (newOf room) nmT = (0, { newOf room with now := [(nmT, [])], loose := [⟨0, nmT, ⟨#[]⟩, []⟩] }) := by
    rw [Calm.create ⟨rfl, rfl⟩ nmT_name.1 rfl (by simp [newOf])]
    rfl
  have h2 : runSteps (createSteps nmT) (newOf room) = (0, oneT room []) := by
    unfold createSteps runSteps
    simp only [h1, if_true]
    unfold runSteps
    have h3 : syncOf { newOf room with now := [(nmT, [])], loose := [⟨0, nmT, ⟨#[]⟩, []⟩] } = (0, oneT room []) := by
      simp [syncOf, newOf, synced, spendOf, oneT, doCh, fput, fdel, fins]
    simp only [h3, if_true]
    rfl
  unfold openOf
  rw [if_pos nmT_name, if_pos (by simp [thereOf, newOf, fget]), h2]
  rfl
theorem topen_empty (room : Int) : tOpenOf (newOf room) nmT = ⟨0, oneT room [], some (0, [])⟩ := by
  unfold tOpenOf
  rw [open_emptyT]
  rfl
theorem encFrom_fits : ∀ (l : List TCh) (out : List UInt8), (∀ c ∈ l, badCh c = false) → out.length + (l.map encCh).flatten.length ≤ 1048568 → (encFrom l out).1 = 0
  | [], out, _, _ => rfl
  | c :: l, out, h, hl => by
    rw [List.map_cons, List.flatten_cons, List.length_append] at hl
    rw [encFrom, if_neg (by rw [h c (List.mem_cons_self ..)]; simp), if_neg (by rw [List.length_append]; omega)]
    exact encFrom_fits l _ (fun x hx => h x (List.mem_cons_of_mem _ hx)) (by rw [List.length_append]; omega)
theorem enc_fits {l : List TCh} (hl : l.length ≤ 256) (h : ∀ c ∈ l, badCh c = false) (hs : 10 + (l.map encCh).flatten.length ≤ 1048568) : (encOf l).1 = 0 := by
  unfold encOf
  rw [if_neg (by omega)]
  exact encFrom_fits l _ h (by have := countOf_len10 (n := l.length) (by omega); omega)
end Go.Proofs.YtlcnhpjggjgnpaaGreatDoor
