/- The document's Sync and Read: the walks. -/
import Derived.Test.YtlinkpjneehnbaaROwn
import Derived.Test.YtlinkpjneehnbaaScan
namespace Go.Proofs.Ytlinkpjneehnbaa
set_option linter.unusedVariables false
open Go.RowKit Go.MapKept

/-- What a call does to the document's disk in its own blocks. -/
theorem rsync_runs {F : Nat → Prop} {w : World} {r : Nat} {m : DM} (h : RefIs F w r m) (hn : m.now = m.loose.foldl doCh m.sure) (hf : m.fuse ≤ 9223372036854775807) :
    ∃ w', Runs 63 #[.pointer (some ⟨r, 0, none⟩)] w (.int .i64 (syncOf m).1) w' ∧ RefIs F w' r (syncOf m).2 ∧ Keeps F w w' := by
  have hi := h
  obtain ⟨vn, vs, vl, h⟩ := h
  have c5 := h.cells.c5
  unfold syncOf
  cases hd : m.down with
  | true =>
    rw [hd] at c5
    refine ⟨w, ?_, hi, Keeps.refl _ _⟩
    unfold Runs
    go_enter Try.func63, Try.ntmps63
    go_wp2_with fail
    go_ret
    exact ⟨rfl, rfl⟩
  | false =>
    rw [hd] at c5
    rw [if_neg (by simp)]
    obtain ⟨w1, hpow, h1, k1, z1⟩ := rpower_runs h hf
    have k1' : Keeps F w w1 := k1.mono (fun b _ e => by rw [e]; exact h.fr)
    by_cases hfz : m.fuse = 0
    · rw [if_pos hfz]
      rw [show (!decide (m.fuse = 0)) = false by simp [hfz]] at hpow
      have e1 : (spendOf m).2 = { m with down := true } := by unfold spendOf; rw [if_pos hfz]
      rw [e1] at h1
      refine ⟨w1, ?_, ⟨vn, vs, vl, h1⟩, k1'⟩
      clear h h1 k1 k1' hi hn e1
      unfold Runs
      go_enter Try.func63, Try.ntmps63
      go_wp2_with (go_at_call 94; refine hpow.out.mono ?_; rintro e w' ⟨rfl, rfl⟩)
      go_ret
      exact ⟨rfl, rfl⟩
    · rw [if_neg hfz]
      rw [show (!decide (m.fuse = 0)) = true by simp [hfz]] at hpow
      obtain ⟨na, nc, rfl, _, _⟩ := h1.now.form
      obtain ⟨sa, sc, rfl, _, _⟩ := h1.sure.form
      obtain ⟨la, lc, rfl⟩ := h1.loose.form
      have b1 := h1.blk
      obtain ⟨w2, hw2⟩ : ∃ w2, w2 = w1.setCell ⟨r, 2, none⟩ (.slice na (spendOf m).2.now.length nc) := ⟨_, rfl⟩
      have b2 : w2.heap[r]? = some (.cells #[.int .i64 (spendOf m).2.room, .slice na (spendOf m).2.now.length nc, .slice na (spendOf m).2.now.length nc, .slice la (spendOf m).2.loose.length lc, .int .i64 (spendOf m).2.fuse, .bool (spendOf m).2.down] 84 (0, 0)) := by rw [hw2, heap_setCell_eq b1]; rfl
      have b3 : (w2.setCell ⟨r, 3, none⟩ (.slice none 0 0)).heap[r]? = some (.cells #[.int .i64 (spendOf m).2.room, .slice na (spendOf m).2.now.length nc, .slice na (spendOf m).2.now.length nc, .slice none 0 0, .int .i64 (spendOf m).2.fuse, .bool (spendOf m).2.down] 84 (0, 0)) := by rw [heap_setCell_eq b2]; rfl
      have hsp := spend_same (m := m)
      refine ⟨w2.setCell ⟨r, 3, none⟩ (.slice none 0 0), ?_, ⟨.slice na (spendOf m).2.now.length nc, .slice na (spendOf m).2.now.length nc, .slice none 0 0, ?_⟩, ?_⟩
      rotate_left
      · refine RefAt.store (m := synced m) (cs := _) b1 b3 (fun b hb => ?_) h.fr h1.now ?_ (RChsAt.nil _ _) h1.lt
        · rw [Below.heap_setCell _ _ _ _ hb, hw2, Below.heap_setCell _ _ _ _ hb]
        · have := h1.now
          rw [hsp.1] at this ⊢
          have e : (synced m).sure = m.now := by rw [hn]; rfl
          rw [e]
          exact this
      · refine Keeps.setCell (p := ⟨r, 3, none⟩) ?_ (fun _ => h.fr) _
        rw [hw2]
        exact k1'.setCell (p := ⟨r, 2, none⟩) (fun _ => h.fr) _
      · have r1 : w1.cell? ⟨r, 1, none⟩ = some (.slice na (spendOf m).2.now.length nc) := cell_at b1 rfl
        have r2 : w1.cell? ⟨r, 2, none⟩ = some (.slice sa (spendOf m).2.sure.length sc) := cell_at b1 rfl
        have f2 : w1.frozen? ⟨r, 2, none⟩ = false := free_at b1 2
        have r3 : w1.cell? ⟨r, 3, none⟩ = some (.slice la (spendOf m).2.loose.length lc) := cell_at b1 rfl
        have f3 : w1.frozen? ⟨r, 3, none⟩ = false := free_at b1 3
        subst hw2
        generalize (spendOf m).2 = m1 at *
        clear h h1 k1 k1' hi hn b1 b2 b3 hsp
        unfold Runs
        go_enter Try.func63, Try.ntmps63
        go_wp2_with (go_at_call 94; refine hpow.out.mono ?_; rintro e w' ⟨rfl, rfl⟩)
        go_ret
        exact ⟨rfl, rfl⟩

/-- A slice expression of a row that may be nil. -/
theorem slice_runP (w : World) (a : Option Addr) (n c i j : Nat) (h1 : i + j ≤ c) :
    (Instr.sliceAt 31 (.slice a n c) (some (.int .i64 (i : Int))) (some (.int .i64 ((i : Int) + (j : Int)))) none).run Try.prog w = .ok (.slice (if c = i then a else Option.map (fun x => x.add i) a) j (c - i)) w := by
  rw [run_sliceAt_slice _ _ _ _ _ _ elem_bytes, run_slice_lh w 31 a n c elem_bytes .i64 .i64 (i : Int) ((i : Int) + j) (by omega) (by omega) (by omega), size_u8]
  have e3 : ((i : Int) + j).toNat = i + j := by omega
  simp only [Result.andThen, sliced, e3, Int.toNat_natCast, Nat.mul_one, Nat.add_sub_cancel_left]
theorem Reads.cutP {w : World} {a : Option Addr} {n c : Nat} {l : List UInt8} (h : Reads w (.slice a n c) l) (i j : Nat) (hij : i + j ≤ l.length) : Reads w (.slice (if c = i then a else Option.map (fun x => x.add i) a) j (c - i)) ((l.drop i).take j) := by
  cases a with
  | none =>
    rcases h with ⟨e, rfl⟩ | ⟨x, c', e, _⟩
    · cases e
      simp at hij
      obtain ⟨rfl, rfl⟩ := hij
      exact .inl ⟨rfl, rfl⟩
    · cases e
  | some x =>
    have h2 := h.cut i j hij
    by_cases hc : c = i
    · rw [if_pos hc] at h2 ⊢; exact h2
    · rw [if_neg hc] at h2 ⊢; exact h2
/-- The first so many, from none to all. -/
def clampN (n : Int) (most : Nat) : Nat := if n < 0 then 0 else if (most : Int) < n then most else n.toNat
theorem clampN_int (n : Int) (most : Nat) : (if n < 0 then (0 : Int) else if (most : Int) < n then (most : Int) else n) = (clampN n most : Int) := by
  unfold clampN
  split
  · rfl
  · split
    · rfl
    · omega
theorem clampN_le (n : Int) (most : Nat) : clampN n most ≤ most := by
  unfold clampN
  split
  · omega
  · split <;> omega
theorem clampN_pos {n : Int} (h : 0 ≤ n) (most : Nat) : clampN n most = if (most : Int) < n then most else n.toNat := by
  unfold clampN
  rw [if_neg (by omega)]
theorem piece_clamp (l : List UInt8) (at_ n : Int) (h0 : 0 ≤ at_) (h1 : 0 ≤ n) : pieceOf l at_ n = (l.drop (clampN at_ l.length)).take (clampN n (l.length - clampN at_ l.length)) := by
  unfold pieceOf
  rw [clampN_pos h1, clampN_pos h0]
  by_cases ha : (l.length : Int) < at_
  · rw [if_pos ha, List.drop_of_length_le (by omega : l.length ≤ at_.toNat), List.drop_of_length_le (Nat.le_refl _)]; simp
  · rw [if_neg ha]
    by_cases hn : ((l.length - at_.toNat : Nat) : Int) < n
    · rw [if_pos hn, List.take_of_length_le (by simp; omega), List.take_of_length_le (by simp)]
    · rw [if_neg hn]
set_option maxRecDepth 100000 in
theorem rread_calls {w : World} {v : Value} {l : List UInt8} (h : Reads w v l) (at_ n : Int) (h0 : 0 ≤ at_) (h1 : 0 ≤ n) (hb : l.length ≤ 140737488355328) : Calls Try.prog 100 #[v, .int .i64 at_, .int .i64 n] w (OPost w (pieceOf l at_ n)) := by
  rw [piece_clamp l at_ n h0 h1]
  obtain ⟨a, c, rfl, hlc, hcm⟩ := h.form
  unfold maxLen at hcm
  have hcl := rclamp_runs w at_ (l.length : Int)
  rw [clampN_int] at hcl
  have hle := clampN_le at_ l.length
  generalize clampN at_ l.length = i at *
  have hcl2 := fun w => rclamp_runs w n ((l.length - i : Nat) : Int)
  simp only [clampN_int] at hcl2
  have hle2 := clampN_le n (l.length - i)
  generalize clampN n (l.length - i) = j at *
  have hsl := fun w => slice_runP w a l.length c i j (by omega)
  have hcut := h.cutP i j (by omega)
  have hlen : ((l.drop i).take j).length = j := by simp; omega
  generalize (if c = i then a else Option.map (fun x => x.add i) a) = y at *
  have hsub : ((l.length - i : Nat) : Int) = (l.length : Int) - (i : Int) := by omega
  rw [hsub] at hcl2
  have i0 : (0 : Int) ≤ (i : Int) := by omega
  have i1 : (i : Int) ≤ l.length := by omega
  have i2 : (j : Int) ≤ (l.length : Int) - i := by omega
  have i3 : (0 : Int) ≤ (j : Int) := by omega
  have i4 : (l.length : Int) ≤ 140737488355328 := by omega
  have htw := twin_calls hcut (by rw [hlen]; omega)
  have HTW := Lib.hid htw
  have HSL := Lib.hid hsl
  have HC2 := Lib.hid hcl2
  clear h hcut htw hsl hcl2 hsub hle hle2 hlc hcm hb
  go_enter Try.func100, Try.ntmps100
  go_wp2_with fail
  refine hcl.out.mono ?_
  rintro e w' ⟨rfl, rfl⟩
  clear hcl
  have hsl := HSL.out
  clear HSL
  go_wp2_with fail
  refine (HC2.out _).out.mono ?_
  rintro e w' ⟨rfl, rfl⟩
  clear HC2
  go_wp2_with fail
  refine HTW.out.mono ?_
  rintro e w2 ⟨v2, rfl, ho2, hk2⟩
  obtain ⟨a2, c2, rfl, _, _⟩ := ho2.bytes.form
  simp only [hlen] at ho2 ⊢
  have HO := Lib.hid ho2
  have HK := Lib.hid hk2
  clear ho2 hk2 HTW
  go_wp2_with fail
  go_ret
  exact ⟨_, rfl, HO.out, HK.out⟩
end Go.Proofs.Ytlinkpjneehnbaa
