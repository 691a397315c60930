/- A part of the proof. -/
import Derived.Test.YtlcnhpjggjgnpaaGreatDoorUlaa7
import Derived.Test.YtlcnhpjggjgnpaaGreatDoorUlaa8
import Derived.Test.YtlcnhpjggjgnpaaGreatDoorUlab0
import Derived.Test.YtlcnhpjggjgnpaaGreatDoorUlab4
import Derived.Test.YtlcnhpjggjgnpaaGreatDoorUlab6
import Derived.Deep.DeepCutAuto
import Derived.Deep.CutBlock
namespace Go.Proofs.YtlcnhpjggjgnpaaGreatDoor
set_option linter.unusedVariables false
open Go.RowKit Go.MapKept
set_option maxRecDepth 100000 in
theorem chclone_nil (w : World) : Calls Tryz.prog 53 #[.slice none 0 0] w fun e w' => e = .returned (.slice none 0 0) ∧ w = w' := by
 have hq := Lib.run_eql_slice_nil (P := Tryz.prog) w 124 109 none 0 0 0 0 Tryz.underlying124
 go_enter Tryz.func53, Tryz.ntmps53
 go_wp2
 go_ret
 exact ⟨rfl, rfl⟩
def rRaw (B : Nat) (v : Value) (T size n : Nat) (xs : List Value) : Res B := ⟨fun F w => w.ownsRow 0 T size v n xs ∧ ∀ b, v.ownBlock = some b → F b, fun _ _ _ h hk => ⟨rrow_keep h.1 (fun b hb => hk b (.inl (h.2 b hb))), h.2⟩⟩
theorem one_change (w : World) (k : ByteArray) {pv : Value} (hpv : pv.oneCell' = true) : ∃ a c w', (Builtin.append_ #[124, 124] 124 #[.slice none 0 0, .slice (some ⟨w.heap.size, 0, none⟩) 1 1]).run Tryz.prog (w.alloc (.cells #[.string k, .bool false, pv] 109)) = .ok (.slice a 1 c) w' ∧
  w'.ownsRow w.heap.size 109 3 (.slice a 1 c) 1 [.string k, .bool false, pv] ∧ Keeps (fun _ => False) w w' := by
 obtain ⟨i0, hi, hz0', hz1, hz2⟩ := info_parts info_tchange
 obtain ⟨v', w', hrun, ho2, hg, _, hat⟩ := run_append_own_at (P := Tryz.prog) (w.alloc (.cells #[.string k, .bool false, pv] 109)) w.heap.size 124 124 109 i0 _ 3 48 Tryz.underlying124 hi hz0' hz1 hz2 rfl (by omega) (.slice none 0 0) 0 [] ⟨rfl, .inl ⟨rfl, rfl⟩⟩ ⟨w.heap.size, 0, none⟩ 1 1 [.string k, .bool false, pv] rfl
  (fun j u hu => by
   rw [Addr.add_lit, Nat.zero_add]
   exact cell_at (heap_alloc_new w _) (by simpa using hu))
  (by intro u hu; simp at hu; rcases hu with rfl | rfl | rfl; rfl; rfl; exact hpv) (by unfold maxLen; omega) (by omega) (by simp only [World.size_alloc]; omega)
 obtain ⟨a, c, rfl⟩ := ownsRow_slice ho2
 exact ⟨a, c, w', hrun, ho2, ((Keeps.refl _ w).alloc _).trans ((Keeps.of_grown hg).mono (fun b _ e => by cases e)) (fun _ _ e => e)⟩
theorem raw_in {w wr : World} {rs : List (Res w.heap.size)} {a : Option Addr} {n c : Nat} {k : ByteArray} {pv : Value} {p : List UInt8} (h : Own w wr rs) (hm : rRaw w.heap.size (.slice a n c) 109 3 1 [.string k, .bool false, pv] ∈ rs) (hp : Reads wr pv p) : TChsIn wr a [⟨k, false, p⟩] := by
 obtain ⟨F, ⟨ho, _⟩, _⟩ := h.mem hm
 rcases ho.2 with ⟨-, e⟩ | ⟨g, cap, cur, e, _, hb, _⟩
 ·omega
 ·simp only [Value.slice.injEq] at e
  obtain ⟨rfl, -, -⟩ := e
  intro i ch hc
  match i, hc with
  | 0, hc =>
   cases hc
   have h0 := ho.cells (g := g) rfl 0 _ rfl
   have h1 := ho.cells (g := g) rfl 1 _ rfl
   have h2 := ho.cells (g := g) rfl 2 _ rfl
   exact ⟨_, _, rfl, h0, h1, h2, hp⟩
  | i + 1, hc => simp at hc
theorem u64_small {k : Nat} (h : k < 18446744073709551616) : IntKind.u64.wrap (k : Int) = (k : Int) := by
 simp only [IntKind.wrap, IntKind.signed, IntKind.bits]
 simp
 omega
end Go.Proofs.YtlcnhpjggjgnpaaGreatDoor
namespace Go.Proofs.YtlcnhpjggjgnpaaGreatDoor
set_option linter.unusedVariables false
open Go.RowKit Go.MapKept
def rStrs (B : Nat) (v : Value) (l : List ByteArray) : Res B := rRaw B v 9 1 l.length (l.map Value.string)
section
variable {w wr : World} {g t d j b : Nat} {ve vl kv : Value} {es : List (List UInt8)} {ks : List ByteArray} {nm : ByteArray} {T : TM} {rs : List (Res w.heap.size)}
theorem Own.addStrs {w1 : World} (h : Own w wr rs) (hd : StrsAt wr.heap.size w1 kv ks) (hk : Keeps (fun _ => False) wr w1) : Own w w1 (rStrs w.heap.size kv ks :: rs) :=
 h.add hk (r := rStrs _ kv ks) (G := fun b => kv.ownBlock = some b) ⟨hd.base (Nat.zero_le _), fun _ hb => hb⟩ (fun b hb => hd.lt b hb)
theorem Own.strs (h : Own w wr rs) (hm : rStrs w.heap.size kv ks ∈ rs) : StrsAt 0 wr kv ks := by
 obtain ⟨F, ⟨ho, _⟩, _⟩ := h.mem hm
 exact ho
theorem Own.dropMid {r : Res w.heap.size} {l₁ l₂ : List (Res w.heap.size)} (h : Own w wr (l₁ ++ r :: l₂)) : Own w wr (l₁ ++ l₂) := (Own.pull h).drop
end
theorem oneT_good {room : Int} {b : List UInt8} (h0 : (b.length : Int) ≤ room) (h1 : room ≤ 67108864) : Good (oneT room b) 0 := by
 refine ⟨?_, h1, ?_, ?_, Nat.le_refl _, ?_, rfl, ?_, ?_⟩
 ·have : (0 : Int) ≤ room := by omega
  exact this
 ·exact (show (-1 : Int) ≤ -1 by decide)
 ·exact (show (-1 : Int) ≤ 9223372036854775807 by decide)
 ·simp [FNodup, oneT]
 ·intro k
  simp [oneT, used]
  exact h0
 ·intro c hc
  simp [oneT] at hc
end Go.Proofs.YtlcnhpjggjgnpaaGreatDoor
