/- A part of the proof. -/
import Derived.Test.YtlcnhpjggjgnpaaGreatDoorUlac4
import Derived.Test.YtlcnhpjggjgnpaaGreatDoorUlac5
namespace Go.Proofs.YtlcnhpjggjgnpaaGreatDoor
set_option linter.unusedVariables false
set_option linter.unusedSimpArgs false
open Go.RowKit Go.MapKept
def slashB : ByteArray := ⟨#[47]⟩
def repoParts (s : ByteArray) : List ByteArray := Lib.splitB slashB 0 (Lib.countB s slashB) s
def isRepo (s : ByteArray) : Bool := decide (s.size ≤ 128) && (repoParts s).all (fun p => partOf p.toList)
def GLen (w : World) : Prop := ∃ m : Int, w.cell? ⟨ksplit146_ren.g 1, 0, none⟩ = some (.int .i64 m)
theorem GLen.keep {w w' : World} (h : GLen w) (hk : Keeps (fun _ => False) w w') : GLen w' := by
 obtain ⟨m, hm⟩ := h
 exact ⟨m, (World.cell?_of_block (hk.block _ (World.block_lt_of_cell? w _ hm) (fun e => e))).trans hm⟩
theorem splitB_size (sep : ByteArray) (sv : Nat) : ∀ (k : Nat) (s : ByteArray), ∀ p ∈ Lib.splitB sep sv k s, p.size ≤ s.size
 | 0, s, p, h => by
  simp only [Lib.splitB, List.mem_singleton] at h
  rw [h]; exact Nat.le_refl _
 | k + 1, s, p, h => by
  rw [Lib.splitB] at h
  split at h
  ·simp only [List.mem_singleton] at h
   rw [h]; exact Nat.le_refl _
  ·rcases List.mem_cons.1 h with h | h
   ·rw [h, ByteArray.size_extract]; omega
   ·have := splitB_size sep sv k _ p h
    rw [ByteArray.size_extract] at this; omega
set_option maxRecDepth 100000 in
set_option maxHeartbeats 1000000 in
theorem isrepo_calls (w : World) (hg : GLen w) (s : ByteArray) : Calls Tryz.prog 40 #[.string s] w (QuietP w (.bool (isRepo s))) := by
 obtain ⟨m, hm⟩ := hg
 by_cases hs : s.size ≤ 128
 ·have hsp := ksplit s slashB m w (by omega) hm (by decide)
  have hcnt : Lib.countB s slashB + 1 = (repoParts s).length := by unfold repoParts; rw [Lib.splitB_all slashB (by decide) 0 _ s rfl]
  have hsz : ∀ p ∈ repoParts s, p.size ≤ 128 := fun p hp => Nat.le_trans (splitB_size _ _ _ _ p hp) hs
  have hR : isRepo s = (repoParts s).all (fun p => partOf p.toList) := by unfold isRepo; rw [decide_eq_true hs, Bool.true_and]
  rw [hR]
  have hlen : (repoParts s).length ≤ 129 := by
   have := Lib.countB_le slashB (by decide) s.size s (Nat.le_refl _)
   omega
  rw [hcnt] at hsp
  change Calls _ _ _ _ (fun e w' => _ ∧ w' = w.alloc (.cells ((repoParts s).map Value.string).toArray 9)) at hsp
  generalize repoParts s = ps at hsp hsz hlen ⊢
  have hcell : ∀ k p, ps[k]? = some p → (w.alloc (.cells (ps.map Value.string).toArray 9)).cell? ⟨w.heap.size, k, none⟩ = some (.string p) := fun k p h => cell_at (heap_alloc_new w _) (by simp [h])
  have hk := (Keeps.refl (fun _ => False) w).alloc (.cells (ps.map Value.string).toArray 9)
  have hpt : ∀ k p, ps[k]? = some p → ∀ W, Runs 103 #[.string p] W (.bool (partOf p.toList)) W := fun k p h W => by
   have := part_runs W p.toList (by have := hsz p (List.mem_of_getElem? h); rw [ByteArray.toList_eq, Array.length_toList]; exact Nat.le_trans this (by decide))
   have e : txt p.toList = p := by unfold txt; rw [ByteArray.toList_eq]
   rw [e] at this; exact this
  have j0 : (s.size : Int) ≤ 128 := by omega
  have HSP := Lib.hid hsp
  have HC := Lib.hid hcell
  have HPT := Lib.hid hpt
  have HK := Lib.hid hk
  have j1 : (ps.length : Int) ≤ 129 := by omega
  clear hsp hcell hpt hk hsz hR hcnt hm hs hlen
  generalize w.alloc (.cells (ps.map Value.string).toArray 9) = w1 at HSP HC HK
  generalize w.heap.size = b0 at HSP HC
  go_enter Tryz.func40, Tryz.ntmps40
  go_wp2_with fail
  refine HSP.out.mono ?_
  rintro e w' ⟨rfl, rfl⟩
  clear HSP
  go_wp2_with fail
  go_loopw [4, 11] (fun _ iv wx => ∃ k : Nat, iv = .int .i64 (k : Int) ∧ k ≤ ps.length ∧ (ps.take k).all (fun p => partOf p.toList) = true ∧ w' = wx) (fun _ iv _ => ps.length - (intOf iv).toNat)
  case atStart => exact ⟨0, rfl, Nat.zero_le _, rfl, rfl⟩
  case round =>
   obtain ⟨k, rfl, hk, hall, rfl⟩ := hrel
   have k0 : (0 : Int) ≤ k := by omega
   by_cases hlt : k < ps.length
   ·obtain ⟨p, hp⟩ : ∃ p, ps[k]? = some p := ⟨_, List.getElem?_eq_getElem hlt⟩
    have hcl := HC.out k p hp
    have hpr := HPT.out k p hp
    have j2 : (k : Int) < ps.length := by omega
    have hwr : IntKind.i64.wrap ((k : Int) + 1) = ((k + 1 : Nat) : Int) := by rw [IntWalk.i64_in _ (by omega)]; omega
    cases hb : partOf p.toList with
    | false =>
     rw [hb] at hpr
     have HF := Lib.hid (show ps.all (fun p => partOf p.toList) = false from by
      rw [List.all_eq_false]; exact ⟨p, List.mem_of_getElem? hp, by rw [hb]; decide⟩)
     clear hb hp hall hlt hk
     go_wp2_with (go_at_call 103; refine (hpr _).out.mono ?_; rintro e w' ⟨rfl, rfl⟩)
     go_ret
     exact ⟨congrArg (fun b => Ending.returned (Value.bool b)) HF.out.symm, HK.out⟩
    | true =>
     rw [hb] at hpr
     have HA := Lib.hid (show (ps.take (k + 1)).all (fun p => partOf p.toList) = true from by
      rw [List.take_add_one, hp, List.all_append, hall]; simp [hb])
     have HLT := Lib.hid hlt
     clear hb hp hall hlt hk
     go_wp2_with (go_at_call 103; refine (hpr _).out.mono ?_; rintro e w' ⟨rfl, rfl⟩)
     go_roundw
     case rel => exact ⟨k + 1, rfl, HLT.out, HA.out, by first | rfl | trivial⟩
     case measure => have := HLT.out; simp [intOf]; omega
   ·obtain rfl : k = ps.length := by omega
    rw [List.take_length] at hall
    have HF := Lib.hid hall
    clear hall hlt hk
    go_wp2_with fail
    go_ret
    exact ⟨congrArg (fun b => Ending.returned (Value.bool b)) HF.out.symm, HK.out⟩
 ·have hR : isRepo s = false := by unfold isRepo; rw [decide_eq_false hs, Bool.false_and]
  rw [hR]
  have j0 : ¬ (s.size : Int) ≤ 128 := by omega
  have j1 : (128 : Int) < s.size := by omega
  clear hR hs hm
  go_enter Tryz.func40, Tryz.ntmps40
  go_wp2_with fail
  go_ret
  exact ⟨rfl, Keeps.refl _ _⟩
end Go.Proofs.YtlcnhpjggjgnpaaGreatDoor
