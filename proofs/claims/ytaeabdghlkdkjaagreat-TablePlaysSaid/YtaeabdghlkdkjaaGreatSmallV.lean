/- Rows of records: whether they are small, the same, a beginning. -/
import Derived.Test.YtaeabdghlkdkjaaGreatPkE
import Derived.Test.YtaeabdghlkdkjaaGreatPkD
namespace Go.Proofs.YtaeabdghlkdkjaaGreat
set_option linter.unusedVariables false
open Go.RowKit Go.MapKept

theorem elem_bytess : Tryz.prog.underlying 22 = some (.slice (Tryz.prog.elem 22)) := by kernel_rfl
theorem size_bytes (w : World) : (sizeOf (Tryz.prog.elem 22)).run Tryz.prog w = .ok 1 w := by kernel_rfl
/-- 'l[:j]'. -/
theorem head_run (w : World) (a : Option Addr) (n c j : Nat) (h1 : j ≤ c) : (Instr.sliceAt 22 (.slice a n c) none (some (.int .i64 (j : Int))) none).run Tryz.prog w = .ok (.slice a j c) w := by
  rw [run_sliceAt_slice _ _ _ _ _ _ elem_bytess, run_slice_h w 22 a n c elem_bytess .i64 (j : Int) (by omega) (by omega), size_bytes]
  simp only [Result.andThen, sliced, Int.toNat_natCast, Nat.zero_mul, Nat.sub_zero]
  have : (a.map fun x => x.add 0) = a := by cases a with
    | none => rfl
    | some x => simp [Addr.add_zero']
  rw [this]
  simp
theorem RowsIn.take {w : World} {a : Option Addr} {n c : Nat} {ll : List (List UInt8)} (h : RowsIn w (.slice a n c) ll) (j : Nat) (hj : j ≤ ll.length) : RowsIn w (.slice a j c) (ll.take j) := by
  obtain ⟨a', c', e, h2⟩ := h
  cases e
  refine ⟨a, c, by rw [List.length_take, Nat.min_eq_left hj], fun i l hi => ?_⟩
  rw [List.getElem?_take] at hi
  split at hi
  · exact h2 i l hi
  · cases hi

def total (ll : List (List UInt8)) : Nat := (ll.map List.length).sum
def smallOf (ll : List (List UInt8)) : Bool := (ll.take 12).all (fun p => decide (p.length ≤ 400)) && decide (ll.length ≤ 12) && decide (total ll ≤ 2000)
theorem smallOf_true {ll : List (List UInt8)} (h : smallOf ll = true) : ll.length ≤ 12 ∧ total ll ≤ 2000 ∧ ∀ p ∈ ll, p.length ≤ 400 := by
  unfold smallOf at h
  simp only [Bool.and_eq_true, decide_eq_true_eq, List.all_eq_true] at h
  obtain ⟨⟨h1, h2⟩, h3⟩ := h
  rw [List.take_of_length_le h2] at h1
  exact ⟨h2, h3, h1⟩
theorem total_take {ll : List (List UInt8)} {k : Nat} {l : List UInt8} (h : ll[k]? = some l) : total (ll.take (k + 1)) = total (ll.take k) + l.length := by
  rw [List.take_add_one, h]
  simp [total]
theorem total_le (ll : List (List UInt8)) (k : Nat) (h : ∀ p ∈ ll.take k, p.length ≤ 400) : total (ll.take k) ≤ 400 * k := by
  have : ∀ l : List (List UInt8), (∀ p ∈ l, p.length ≤ 400) → total l ≤ 400 * l.length := by
    intro l
    induction l with
    | nil => intro _; simp [total]
    | cons p l ih =>
      intro h
      have h1 := h p (List.mem_cons_self ..)
      have h2 := ih (fun q hq => h q (List.mem_cons_of_mem _ hq))
      have : total (p :: l) = p.length + total l := by simp [total]
      rw [this, List.length_cons]; omega
  have h2 := this _ h
  have h3 : (ll.take k).length ≤ k := List.length_take_le _ _
  have := Nat.mul_le_mul_left 400 h3
  omega

/-! ### The same records; a beginning -/
def beginsOf (a b : List (List UInt8)) : Bool := decide (a = b.take a.length)
theorem ltake_step {l l' : List (List UInt8)} {k : Nat} {p q : List UInt8} (hp : l[k]? = some p) (hq : l'[k]? = some q) (h : l.take k = l'.take k) : p = q ↔ l.take (k + 1) = l'.take (k + 1) := by
  rw [List.take_add_one, List.take_add_one, hp, hq, h]
  simp
end Go.Proofs.YtaeabdghlkdkjaaGreat
