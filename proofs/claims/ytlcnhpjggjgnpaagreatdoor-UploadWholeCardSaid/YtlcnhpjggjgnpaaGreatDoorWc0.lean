/- A part of the proof. -/
import Derived.Test.YtlcnhpjggjgnpaaGreatDoorWa5
import Derived.Test.YtlcnhpjggjgnpaaGreatDoorWa7
namespace Go.Proofs.YtlcnhpjggjgnpaaGreatDoor
open Go.RowKit Go.MapKept
theorem bytesLess_trans : ∀ {a b c : List UInt8}, Op.bytesLess a b = true → Op.bytesLess b c = true → Op.bytesLess a c = true
  | [], [], _, h, _ => by simp [Op.bytesLess] at h
  | [], _ :: _, [], _, h => by simp [Op.bytesLess] at h
  | [], _ :: _, _ :: _, _, _ => rfl
  | _ :: _, [], _, h, _ => by simp [Op.bytesLess] at h
  | _ :: _, _ :: _, [], _, h => by simp [Op.bytesLess] at h
  | x :: a, y :: b, z :: c, h, k => by
    simp only [Op.bytesLess, Bool.or_eq_true, Bool.and_eq_true, decide_eq_true_eq, beq_iff_eq] at h k ⊢
    rcases h with h | ⟨rfl, h⟩
    · rcases k with k | ⟨rfl, k⟩
      · exact .inl (UInt8.lt_trans h k)
      · exact .inl h
    · rcases k with k | ⟨rfl, k⟩
      · exact .inl k
      · exact .inr ⟨rfl, bytesLess_trans h k⟩
theorem bytesLess_irrefl : ∀ (a : List UInt8), Op.bytesLess a a = false
  | [] => rfl
  | x :: a => by
    simp [Op.bytesLess, bytesLess_irrefl a]
theorem bytesLess_total : ∀ {a b : List UInt8}, Op.bytesLess a b = false → a ≠ b → Op.bytesLess b a = true
  | [], [], _, h => absurd rfl h
  | [], _ :: _, h, _ => by simp [Op.bytesLess] at h
  | _ :: _, [], _, _ => rfl
  | x :: a, y :: b, h, k => by
    simp only [Op.bytesLess, Bool.or_eq_false_iff, Bool.and_eq_false_iff, decide_eq_false_iff_not, beq_eq_false_iff_ne, Bool.or_eq_true, Bool.and_eq_true, decide_eq_true_eq, beq_iff_eq] at h ⊢
    by_cases e : x = y
    · subst e
      refine .inr ⟨rfl, bytesLess_total ?_ (fun e => k (by rw [e]))⟩
      rcases h.2 with h | h
      · exact absurd rfl h
      · exact h
    · rcases UInt8.lt_or_lt_of_ne e with h2 | h2
      · exact absurd h2 h.1
      · exact .inl h2
theorem toList_inj {a b : ByteArray} (h : a.toList = b.toList) : a = b := by
  have := (bytes_beq a b).1 (by rw [beq_toListBytes, h]; simp)
  exact this
theorem blt_trans {a b c : ByteArray} (h : blt a b = true) (k : blt b c = true) : blt a c = true := bytesLess_trans h k
theorem blt_irrefl (a : ByteArray) : blt a a = false := bytesLess_irrefl _
theorem blt_total {a b : ByteArray} (h : blt a b = false) (k : a ≠ b) : blt b a = true := bytesLess_total h (fun e => k (toList_inj e))
def FSorted (fs : FS) : Prop := fs.Pairwise (fun x y => blt x.1 y.1 = true)
theorem FSorted.nil : FSorted [] := List.Pairwise.nil
end Go.Proofs.YtlcnhpjggjgnpaaGreatDoor
namespace Go.Proofs.YtlcnhpjggjgnpaaGreatDoor
set_option linter.unusedVariables false
open Go.RowKit Go.MapKept
theorem rrow_keep {w w' : World} {base e n size : Nat} {v : Value} {xs : List Value} (h : w.ownsRow base e size v n xs) (hr : ∀ b, v.ownBlock = some b → w'.heap[b]? = w.heap[b]?) : w'.ownsRow base e size v n xs := by
  obtain ⟨h1, h2⟩ := h
  refine ⟨h1, h2.imp id ?_⟩
  rintro ⟨g, cap, cur, rfl, hg, hb, rest⟩
  exact ⟨g, cap, cur, rfl, hg, (hr g rfl).trans hb, rest⟩
theorem ownsRow_base0 {w : World} {base e n size : Nat} {v : Value} {xs : List Value} (h : w.ownsRow base e size v n xs) {base' : Nat} (hb : base' ≤ base) : w.ownsRow base' e size v n xs := by
  obtain ⟨h1, h2⟩ := h
  refine ⟨h1, h2.imp id ?_⟩
  rintro ⟨g, cap, cur, rfl, hg, h3⟩
  exact ⟨g, cap, cur, rfl, by omega, h3⟩
end Go.Proofs.YtlcnhpjggjgnpaaGreatDoor
namespace Go.Proofs.YtlcnhpjggjgnpaaGreatDoor
set_option linter.unusedVariables false
open Go.RowKit Go.MapKept
end Go.Proofs.YtlcnhpjggjgnpaaGreatDoor
namespace Go.Proofs.YtlcnhpjggjgnpaaGreatDoor
set_option linter.unusedVariables false
open Go.RowKit Go.MapKept
end Go.Proofs.YtlcnhpjggjgnpaaGreatDoor
namespace Go.Proofs.YtlcnhpjggjgnpaaGreatDoor
set_option linter.unusedVariables false
open Go.RowKit Go.MapKept
end Go.Proofs.YtlcnhpjggjgnpaaGreatDoor
namespace Go.Proofs.YtlcnhpjggjgnpaaGreatDoor
set_option linter.unusedVariables false
open Go.RowKit Go.MapKept
end Go.Proofs.YtlcnhpjggjgnpaaGreatDoor
namespace Go.Proofs.YtlcnhpjggjgnpaaGreatDoor
set_option linter.unusedVariables false
open Go.RowKit Go.MapKept
end Go.Proofs.YtlcnhpjggjgnpaaGreatDoor
namespace Go.Proofs.YtlcnhpjggjgnpaaGreatDoor
set_option linter.unusedVariables false
open Go.RowKit Go.MapKept
end Go.Proofs.YtlcnhpjggjgnpaaGreatDoor
namespace Go.Proofs.YtlcnhpjggjgnpaaGreatDoor
set_option linter.unusedVariables false
open Go.RowKit Go.MapKept Go.Deep
theorem reads_nil (w : World) : Reads w (.slice none 0 0) [] := .inl ⟨rfl, rfl⟩
variable {H : Type} {enc : TypeId × Value → H}
end Go.Proofs.YtlcnhpjggjgnpaaGreatDoor
namespace Go.Proofs.YtlcnhpjggjgnpaaGreatDoor
set_option linter.unusedVariables false
open Go.RowKit Go.MapKept
theorem slice_runP (w : World) (a : Option Addr) (n c i j : Nat) (h1 : i + j ≤ c) :
    (Instr.sliceAt 22 (.slice a n c) (some (.int .i64 (i : Int))) (some (.int .i64 ((i : Int) + (j : Int)))) none).run Tryz.prog w = .ok (.slice (if c = i then a else Option.map (fun x => x.add i) a) j (c - i)) w := by
  rw [run_sliceAt_slice _ _ _ _ _ _ elem_bytes, run_slice_lh w 22 a n c elem_bytes .i64 .i64 (i : Int) ((i : Int) + j) (by omega) (by omega) (by omega), size_u8]
  have e3 : ((i : Int) + j).toNat = i + j := by omega
  simp only [Result.andThen, sliced, e3, Int.toNat_natCast, Nat.mul_one, Nat.add_sub_cancel_left]
theorem Reads.cutP {w : World} {a : Option Addr} {n c : Nat} {l : List UInt8} (h : Reads w (.slice a n c) l) (i j : Nat) (hij : i + j ≤ l.length) : Reads w (.slice (if c = i then a else Option.map (fun x => x.add i) a) j (c - i)) ((l.drop i).take j) := by
  cases a with
  | none =>
    rcases h with ⟨e, rfl⟩ | ⟨x, c', e, _⟩
    · cases e
      simp at hij
      obtain ⟨rfl, rfl⟩ := hij
      exact .inl ⟨rfl, rfl⟩
    · cases e
  | some x =>
    have h2 := h.cut i j hij
    by_cases hc : c = i
    · rw [if_pos hc] at h2 ⊢; exact h2
    · rw [if_neg hc] at h2 ⊢; exact h2
end Go.Proofs.YtlcnhpjggjgnpaaGreatDoor
namespace Go.Proofs.YtlcnhpjggjgnpaaGreatDoor
set_option linter.unusedVariables false
open Go.RowKit Go.MapKept
theorem drew_size (w : World) : w.drew.heap.size = w.heap.size := rfl
end Go.Proofs.YtlcnhpjggjgnpaaGreatDoor
