/- A number's lowest bytes: octet's Put and the document's. -/
import Derived.Test.YtlinkpjneehnbaaWord
namespace Go.Proofs.Ytlinkpjneehnbaa
open Go.RowKit Go.MapKept

/-- The lowest bytes of n, the highest first. -/
def putOf (n : Nat) : Nat → List UInt8
  | 0 => []
  | s + 1 => putOf (n / 256) s ++ [UInt8.ofNat (n % 256)]
theorem putOf_length : ∀ (s n : Nat), (putOf n s).length = s
  | 0, _ => rfl
  | s + 1, n => by simp [putOf, putOf_length s]
theorem putOf_cons : ∀ (s n : Nat), putOf n (s + 1) = UInt8.ofNat (n / 256 ^ s % 256) :: putOf n s
  | 0, n => by simp [putOf]
  | s + 1, n => by
    rw [putOf, putOf_cons s, List.cons_append]
    congr 2
    rw [Nat.div_div_eq_div_mul, Nat.pow_succ, Nat.mul_comm 256]
theorem byte_at (n k : Nat) : (UInt8.ofNat (n / 256 ^ k % 256)).toNat = n / 256 ^ k % 256 := by
  rw [UInt8.toNat_ofNat']
  omega

theorem putOf_drop (n k : Nat) : ∀ (s : Nat), k + 1 ≤ s → (putOf n s).drop (s - (k + 1)) = putOf n (k + 1)
  | 0, h => by omega
  | s + 1, h => by
    by_cases e : s = k
    · subst e; rw [Nat.sub_self]; rfl
    · rw [putOf_cons s, show s + 1 - (k + 1) = (s - (k + 1)) + 1 by omega, List.drop_succ_cons]
      exact putOf_drop n k s (by omega)
theorem putOf_get (n s k : Nat) (h : k + 1 ≤ s) : (putOf n s)[s - (k + 1)]? = some (UInt8.ofNat (n / 256 ^ k % 256)) := by
  have := congrArg (fun l : List UInt8 => l[0]?) (putOf_drop n k s h)
  simp only [List.getElem?_drop, Nat.add_zero] at this
  rw [this, putOf_cons]
  rfl
theorem putOf_take (n s k : Nat) (h : k + 1 ≤ s) : (putOf n s).take (s - k) = (putOf n s).take (s - (k + 1)) ++ [UInt8.ofNat (n / 256 ^ k % 256)] := by
  rw [show s - k = (s - (k + 1)) + 1 by omega, List.take_add_one, putOf_get n s k h]
  rfl
theorem byte_int (n k : Nat) : (n : Int) / 2 ^ (8 * k) % 256 = ((UInt8.ofNat (n / 256 ^ k % 256)).toNat : Int) := by
  rw [byte_at, show (256 : Nat) ^ k = 2 ^ (8 * k) by rw [Nat.pow_mul]]
  simp only [Int.natCast_emod, Int.natCast_ediv, Int.natCast_pow]
  rfl

set_option maxRecDepth 100000 in
theorem rput_calls (w : World) (n s : Nat) (_hn : n < 18446744073709551616) (hs : s ≤ 8) (hs1 : 1 ≤ s) : Calls Try.prog 108 #[.int .u64 (n : Int), .int .i64 (s : Int)] w (OPost w (putOf n s)) := by
  have j0 : (1 : Int) ≤ s := by omega
  have j1 : (s : Int) ≤ 8 := by omega
  go_enter Try.func108, Try.ntmps108
  go_wp2_with fail
  go_loopw [5, 6] (fun av i wr => ∃ k : Nat, k ≤ s ∧ i = .int .i64 ((k : Int) - 1) ∧ Owns wr w.heap.size av ((putOf n s).take (s - k)) ∧ Keeps (fun _ => False) w wr) (fun _ i _ => (intOf i + 1).toNat)
  case atStart => exact ⟨s, Nat.le_refl _, rfl, by rw [Nat.sub_self]; exact Owns.nil _ _, Keeps.refl _ _⟩
  case round =>
    obtain ⟨k, hk, rfl, ho, hq⟩ := hrel
    have hsz := hq.size
    by_cases hk0 : k = 0
    · subst hk0
      rw [Nat.sub_zero, List.take_of_length_le (by rw [putOf_length]; omega)] at ho
      obtain ⟨aa, ac, rfl, q1, q2⟩ := ho.bytes.form
      have HO := Lib.hid ho
      have HQ := Lib.hid hq
      clear ho hq
      go_wp2_with fail
      go_ret
      exact ⟨_, rfl, HO.out, HQ.out⟩
    · obtain ⟨k', rfl⟩ : ∃ k', k = k' + 1 := ⟨k - 1, by omega⟩
      have i0 : ((k' + 1 : Nat) : Int) - 1 = (k' : Int) := by omega
      rw [i0]
      have i1 : (0 : Int) ≤ k' := by omega
      have i2 : (k' : Int) < 8 := by omega
      have e1 := byte_int n k'
      have e2 := putOf_take n s k' hk
      have e3 : ((putOf n s).take (s - (k' + 1))).length ≤ 8 := by rw [List.length_take, putOf_length]; omega
      generalize (putOf n s).take (s - (k' + 1)) = L at ho e2 e3
      generalize UInt8.ofNat (n / 256 ^ k' % 256) = b at e1 e2
      have hq2 : Keeps (fun _ => False) wr (wr.alloc (.cells #[.int .u8 (b.toNat : Int)] 5)) := (Keeps.refl _ _).alloc _
      obtain ⟨v', w3, hrun, ho3, hk3⟩ := Owns.grow (by simp only [World.size_alloc]; omega) (ho.keep hq2) (one_byte wr b) (by simp only [List.length_cons, List.length_nil]; omega)
      have hq3 : Keeps (fun _ => False) w w3 := (hq.trans hq2 (fun _ _ e => e)).trans hk3 (fun b hb e => by have := owns_lt ho b e; omega)
      obtain ⟨aa, ac, rfl, q1, q2⟩ := ho.bytes.form
      obtain ⟨aa', ac', rfl, _, _⟩ := ho3.bytes.form
      have HR := Lib.hid (⟨k', by omega, rfl, by rw [e2]; exact ho3, hq3⟩ : ∃ k : Nat, k ≤ s ∧ Value.int .i64 ((k' : Int) - 1) = .int .i64 ((k : Int) - 1) ∧ Owns w3 w.heap.size (.slice aa' (L ++ [b]).length ac') ((putOf n s).take (s - k)) ∧ Keeps (fun _ => False) w w3)
      have Hrun := Lib.hid hrun
      generalize b.toNat = bb at e1 Hrun
      clear i0 hk0 e2 ho3 hq3 hq2 hk3 hrun hq ho hsz
      go_wp2_with (at_builtin; refine wpList_append_run rfl _ _ _ _ rfl rfl rfl Hrun.out ?_)
      go_roundw
      case rel => have h := HR.out; simp only [List.length_append, List.length_cons, List.length_nil] at h; exact h
      case measure => simp only [intOf]; omega

theorem make_owns (w : World) (n : Nat) (hn : n ≤ 140737488355328) : ∃ w', (Instr.makeSlice 31 (.int .i64 (n : Int)) (.int .i64 (n : Int))).run Try.prog w = .ok (.slice (some ⟨w.heap.size, 0, none⟩) n n) w' ∧
    Owns w' w.heap.size (.slice (some ⟨w.heap.size, 0, none⟩) n n) (List.replicate n 0) ∧ Keeps (fun _ => False) w w' := by
  obtain ⟨i0, hi, hz0, hz1, hz2⟩ := info_parts info_u8
  obtain ⟨w', hr, ho, hg⟩ := run_make_full (P := Try.prog) w w.heap.size 31 5 i0 _ 1 Try.underlying31 hi hz0 hz1 .i64 .i64 n (by rw [hz2]; omega) (by unfold maxLen; omega) (Nat.le_refl _)
  have e : (madeCells (Value.int .u8 0).cells (n * 1)).toList = (List.replicate n (0 : UInt8)).map u8v := by
    apply List.ext_getElem?
    intro i
    simp only [madeCells, Array.toList_map, List.getElem?_map, Array.toList_range, Nat.mul_one, List.getElem?_replicate]
    by_cases h : i < n
    · simp [h, Value.cells, u8v]
      rw [Nat.mod_one]
      rfl
    · simp [h]
  rw [e] at ho
  refine ⟨w', hr, ?_, (Keeps.of_grown hg).mono (fun _ _ e => by cases e)⟩
  unfold Owns
  rw [List.length_replicate]
  exact ho
theorem Owns.set {w : World} {base g n c : Nat} {l : List UInt8} (h : Owns w base (.slice (some ⟨g, 0, none⟩) n c) l) {i : Nat} (hi : i < l.length) (b : UInt8) :
    Owns (w.setCell ⟨g, i, none⟩ (.int .u8 (b.toNat : Int))) base (.slice (some ⟨g, 0, none⟩) n c) (l.set i b) ∧ (∃ u, w.cell? ⟨g, i, none⟩ = some u) ∧ w.frozen? ⟨g, i, none⟩ = false ∧ Keeps (fun x => x = g) w (w.setCell ⟨g, i, none⟩ (.int .u8 (b.toNat : Int))) := by
  obtain ⟨h1, h2⟩ := h
  rcases h2 with ⟨e, _⟩ | ⟨g', cap, cur, e, hg, hb, h3, h4, h5, h6⟩
  · cases e
  · cases e
    have hi2 : i < cur.size := by omega
    refine ⟨⟨by simp, .inr ⟨g, c, _, by rw [List.length_set], hg, heap_setCell_eq hb i _, by rw [List.length_set]; exact h3, h4, by simp; omega, ?_⟩⟩, ⟨cur[i], cell_at hb (by simp [hi2])⟩, free_at hb i, Keeps.setCell (F := fun x => x = g) (p := ⟨g, i, none⟩) (Keeps.refl _ w) (fun _ => rfl) _⟩
    rw [List.length_set]
    simp only [Nat.mul_one] at h6 ⊢
    rw [List.map_set, ← h6]
    simp [List.take_set, u8v]
theorem set_step (n k j : Nat) : (List.replicate (j + 1) (0 : UInt8) ++ putOf n k).set j (UInt8.ofNat (n / 256 ^ k % 256)) = List.replicate j 0 ++ putOf n (k + 1) := by
  rw [putOf_cons, List.replicate_succ', List.append_assoc, List.set_append_right _ _ (by simp)]
  simp
set_option maxRecDepth 100000 in
theorem put_calls (w : World) (n s : Nat) (_hn : n < 18446744073709551616) (hs : s ≤ 8) : Calls Try.prog 82 #[.int .u64 (n : Int), .int .i64 (s : Int)] w (OPost w (putOf n s)) := by
  have j0 : (0 : Int) ≤ s := by omega
  have j1 : (s : Int) ≤ 8 := by omega
  obtain ⟨w1, hmk, ho1, hq1⟩ := make_owns w s (by omega)
  have HO1 := Lib.hid ho1
  have HQ1 := Lib.hid hq1
  clear ho1 hq1
  go_enter Try.func82, Try.ntmps82
  go_wp2_with fail
  go_loopw [16] (fun i wr => ∃ k : Nat, k ≤ s ∧ i = .int .i64 (k : Int) ∧ Owns wr w.heap.size (.slice (some ⟨w.heap.size, 0, none⟩) s s) (List.replicate (s - k) 0 ++ putOf n k) ∧ Keeps (fun _ => False) w wr) (fun i _ => (s : Nat) - (intOf i).toNat)
  case atStart => exact ⟨0, Nat.zero_le _, rfl, by simpa [putOf] using HO1.out, HQ1.out⟩
  case round =>
    obtain ⟨k, hk, rfl, ho, hq⟩ := hrel
    clear hmk
    by_cases hlt : k < s
    · obtain ⟨j, hj⟩ : ∃ j, s = k + (j + 1) := ⟨s - (k + 1), by omega⟩
      have e0 : (s : Int) - 1 - (k : Int) = (j : Int) := by omega
      rw [show s - k = j + 1 by omega] at ho
      have e1 := byte_int n k
      have e2 := set_step n k j
      generalize UInt8.ofNat (n / 256 ^ k % 256) = b at e1 e2
      obtain ⟨ho2, ⟨u, hu⟩, hf, hk2⟩ := ho.set (i := j) (by simp; omega) b
      rw [e2] at ho2
      have hq2 : Keeps (fun _ => False) w (wr.setCell ⟨w.heap.size, j, none⟩ (.int .u8 (b.toNat : Int))) := hq.trans hk2 (fun x hx e => by omega)
      have HR := Lib.hid (⟨k + 1, by omega, rfl, by rw [show s - (k + 1) = j by omega]; exact ho2, hq2⟩ : ∃ k' : Nat, k' ≤ s ∧ Value.int .i64 ((k + 1 : Nat) : Int) = .int .i64 (k' : Int) ∧ Owns (wr.setCell ⟨w.heap.size, j, none⟩ (.int .u8 (b.toNat : Int))) w.heap.size (.slice (some ⟨w.heap.size, 0, none⟩) s s) (List.replicate (s - k') 0 ++ putOf n k') ∧ Keeps (fun _ => False) w (wr.setCell ⟨w.heap.size, j, none⟩ (.int .u8 (b.toNat : Int))))
      have i0 : (0 : Int) ≤ k := by omega
      have i1 : (k : Int) < s := by omega
      have i2 : (j : Int) < s := by omega
      have i3 : (0 : Int) ≤ j := by omega
      generalize b.toNat = bb at e1 HR
      clear e2 ho ho2 hq hq2 hk2 hlt hj
      go_wp2_with fail
      go_roundw
      case rel => exact HR.out
      case measure => simp [intOf]; omega
    · obtain rfl : k = s := by omega
      rw [Nat.sub_self] at ho
      have HO := Lib.hid ho
      have HQ := Lib.hid hq
      clear ho hq hlt hk
      go_wp2_with fail
      go_ret
      exact ⟨_, rfl, HO.out, HQ.out⟩
end Go.Proofs.Ytlinkpjneehnbaa
