/- The document's disk in memory; its New, power, May: the walks. -/
import Derived.Test.YtlinkpjneehnbaaRDo
import Derived.Test.YtlinkpjneehnbaaBox
namespace Go.Proofs.Ytlinkpjneehnbaa
set_option linter.unusedVariables false
open Go.RowKit Go.MapKept

/-- The slice v is a row of changes, as the document's disk has them. -/
def RChsAt (F : Nat → Prop) (w : World) (v : Value) (cs : List Ch) : Prop :=
  ∃ ps : List Value, Rel2 (fun p c => Bytes F w p c.p) ps cs ∧ w.ownsRow 0 78 4 v cs.length (chCells ps cs) ∧ ∀ b, v.ownBlock = some b → F b
theorem RChsAt.nil (F : Nat → Prop) (w : World) : RChsAt F w (.slice none 0 0) [] := ⟨[], trivial, ⟨rfl, .inl ⟨rfl, rfl⟩⟩, fun b hb => by cases hb⟩
theorem RChsAt.keep {F G : Nat → Prop} {w w' : World} {v : Value} {cs : List Ch} (h : RChsAt F w v cs) (hk : KeepU8 F w w') (hr : ∀ b, v.ownBlock = some b → w'.heap[b]? = w.heap[b]?) (hFG : ∀ b, F b → b < w.heap.size → G b) : RChsAt G w' v cs := by
  obtain ⟨ps, h1, h2, h3⟩ := h
  exact ⟨ps, h1.mono (fun p c hpc => hpc.keep hk hFG), rrow_keep h2 hr, fun b hb => hFG b (h3 b hb) (h2.lt b hb).2⟩
theorem RChsAt.same {F : Nat → Prop} {w w' : World} {v : Value} {cs : List Ch} (h : RChsAt F w v cs) (hk : ∀ b, F b → w'.heap[b]? = w.heap[b]?) : RChsAt F w' v cs := by
  obtain ⟨ps, h1, h2, h3⟩ := h
  exact RChsAt.keep ⟨ps, h1, h2, h3⟩ (fun g cs fz hF hb => (hk g hF).trans hb) (fun b hb => hk b (h3 b hb)) (fun _ h _ => h)
theorem RChsAt.quiet {F G : Nat → Prop} {w w' : World} {v : Value} {cs : List Ch} (h : RChsAt F w v cs) (hk : Keeps (fun _ => False) w w') (hFG : ∀ b, F b → b < w.heap.size → G b) : RChsAt G w' v cs := by
  obtain ⟨ps, h1, h2, h3⟩ := h
  exact RChsAt.keep ⟨ps, h1, h2, h3⟩ (KeepU8.of_none hk) (fun b hb => hk.block b (h2.lt b hb).2 (fun e => e)) hFG
theorem RChsAt.form {F : Nat → Prop} {w : World} {v : Value} {cs : List Ch} (h : RChsAt F w v cs) : ∃ a c, v = .slice a cs.length c := by
  obtain ⟨ps, h1, h2, h3⟩ := h
  exact ownsRow_slice h2

/-- Block r is the document's disk, and reads as m; all that it has lies in blocks of F. -/
structure RefAt (F : Nat → Prop) (w : World) (r : Nat) (vn vs vl : Value) (m : DM) : Prop where
  blk : w.heap[r]? = some (.cells #[.int .i64 m.room, vn, vs, vl, .int .i64 m.fuse, .bool m.down] 84 (0, 0))
  fr : F r
  now : FilesAt F w vn m.now
  sure : FilesAt F w vs m.sure
  loose : RChsAt F w vl m.loose
  lt : ∀ b, F b → b < w.heap.size
def RefIs (F : Nat → Prop) (w : World) (r : Nat) (m : DM) : Prop := ∃ vn vs vl, RefAt F w r vn vs vl m
theorem RefAt.keep {F : Nat → Prop} {w w' : World} {r : Nat} {vn vs vl : Value} {m : DM} (h : RefAt F w r vn vs vl m) (hk : ∀ b, F b → w'.heap[b]? = w.heap[b]?) : RefAt F w' r vn vs vl m :=
  ⟨(hk r h.fr).trans h.blk, h.fr, h.now.same hk, h.sure.same hk, h.loose.same hk, fun b hb => by
    have := h.lt b hb
    have e := hk b hb
    rw [Array.getElem?_eq_getElem this] at e
    exact (Array.getElem?_eq_some_iff.1 e).1⟩
theorem RefIs.keep {F : Nat → Prop} {w w' : World} {r : Nat} {m : DM} (h : RefIs F w r m) (hk : ∀ b, F b → w'.heap[b]? = w.heap[b]?) : RefIs F w' r m := by
  obtain ⟨vn, vs, vl, h⟩ := h
  exact ⟨vn, vs, vl, h.keep hk⟩
theorem RefIs.lt {F : Nat → Prop} {w : World} {r : Nat} {m : DM} (h : RefIs F w r m) : ∀ b, F b → b < w.heap.size := by
  obtain ⟨vn, vs, vl, h⟩ := h
  exact h.lt
theorem RefAt.quiet {F G : Nat → Prop} {w w' : World} {r : Nat} {vn vs vl : Value} {m : DM} (h : RefAt F w r vn vs vl m) (hk : Keeps (fun _ => False) w w') (hFG : ∀ b, F b → b < w.heap.size → G b) (hG : ∀ b, G b → b < w'.heap.size) : RefAt G w' r vn vs vl m :=
  ⟨hk.at h.blk (fun e => e), hFG r h.fr (h.lt r h.fr), h.now.quiet hk hFG, h.sure.quiet hk hFG, h.loose.quiet hk hFG, hG⟩
/-- The document's disk's cells. -/
structure RCells (w : World) (d : Nat) (vn vs vl : Value) (m : DM) : Prop where
  c0 : w.cell? ⟨d, 0, none⟩ = some (.int .i64 m.room)
  c1 : w.cell? ⟨d, 1, none⟩ = some vn
  c2 : w.cell? ⟨d, 2, none⟩ = some vs
  c3 : w.cell? ⟨d, 3, none⟩ = some vl
  c4 : w.cell? ⟨d, 4, none⟩ = some (.int .i64 m.fuse)
  c5 : w.cell? ⟨d, 5, none⟩ = some (.bool m.down)
  f0 : ∀ i, w.frozen? ⟨d, i, none⟩ = false
theorem RefAt.cells {F : Nat → Prop} {w : World} {r : Nat} {vn vs vl : Value} {m : DM} (h : RefAt F w r vn vs vl m) : RCells w r vn vs vl m :=
  ⟨cell_at h.blk rfl, cell_at h.blk rfl, cell_at h.blk rfl, cell_at h.blk rfl, cell_at h.blk rfl, cell_at h.blk rfl, fun i => free_at h.blk i⟩
/-- The disk's own block is written; what stands in it now was there. -/
theorem RefAt.store {F : Nat → Prop} {w w' : World} {r : Nat} {vn vs vl : Value} {m : DM} {cs : Array Value} (hblk : w.heap[r]? = some (.cells cs 84 (0, 0)))
    (hd : w'.heap[r]? = some (.cells #[.int .i64 m.room, vn, vs, vl, .int .i64 m.fuse, .bool m.down] 84 (0, 0))) (hne : ∀ b, b ≠ r → w'.heap[b]? = w.heap[b]?)
    (fr : F r) (h1 : FilesAt F w vn m.now) (h2 : FilesAt F w vs m.sure) (h3 : RChsAt F w vl m.loose) (hlt : ∀ b, F b → b < w.heap.size) : RefAt F w' r vn vs vl m := by
  have hu : KeepU8 F w w' := fun g cs fz hF hb => by
    rw [hne g (fun e => by subst e; rw [hblk] at hb; simp at hb)]
    exact hb
  have hrow : ∀ {e n size : Nat} {v : Value} {xs : List Value}, w.ownsRow 0 e size v n xs → e ≠ 84 → ∀ b, v.ownBlock = some b → w'.heap[b]? = w.heap[b]? := fun ho he b hb => hne b (fun e' => by
    subst e'
    obtain ⟨cur, hc⟩ := ownsRow_type ho hb
    rw [hblk] at hc
    simp at hc
    exact he hc.2.symm)
  refine ⟨hd, fr, ?_, ?_, ?_, fun b hb => ?_⟩
  · exact h1.keep hu (by obtain ⟨ps, _, ho, _⟩ := h1; exact hrow ho (by decide)) (fun _ h _ => h)
  · exact h2.keep hu (by obtain ⟨ps, _, ho, _⟩ := h2; exact hrow ho (by decide)) (fun _ h _ => h)
  · exact h3.keep hu (by obtain ⟨ps, _, ho, _⟩ := h3; exact hrow ho (by decide)) (fun _ h _ => h)
  · by_cases e : b = r
    · subst e; exact lt_of_heap hd
    · have := hlt b hb
      have e' := hne b e
      rw [Array.getElem?_eq_getElem this] at e'
      exact (Array.getElem?_eq_some_iff.1 e').1

/-! ### New -/
theorem rnew_runs (w : World) (room : Int) : ∃ r w', Runs 51 #[.int .i64 room] w (.pointer (some ⟨r, 0, none⟩)) w' ∧ RefIs (Ext (fun _ => False) w w') w' r (newOf room) ∧ Keeps (fun _ => False) w w' := by
  refine ⟨w.heap.size, w.alloc (.cells #[.int .i64 room, .slice none 0 0, .slice none 0 0, .slice none 0 0, .int .i64 (-1), .bool false] 84), ?_, ⟨_, _, _, heap_alloc_new _ _, .inr ⟨Nat.le_refl _, by simp⟩, FilesAt.nil _ _, FilesAt.nil _ _, RChsAt.nil _ _, fun b hb => hb.elim (fun e => e.elim) (fun e => e.2)⟩, (Keeps.refl _ w).alloc _⟩
  unfold Runs
  go_enter Try.func51, Try.ntmps51
  go_wp2
  go_ret
  exact ⟨rfl, rfl⟩

/-! ### power -/
theorem rpower_raw (w : World) (d : Nat) (f : Int) (v5 : Value) (c4 : w.cell? ⟨d, 4, none⟩ = some (.int .i64 f)) (c5 : w.cell? ⟨d, 5, none⟩ = some v5) (f4 : w.frozen? ⟨d, 4, none⟩ = false) (f5 : w.frozen? ⟨d, 5, none⟩ = false) (hf : f ≤ 9223372036854775807) :
    Runs 94 #[.pointer (some ⟨d, 0, none⟩)] w (.bool (!decide (f = 0))) (if f = 0 then w.setCell ⟨d, 5, none⟩ (.bool true) else if 0 < f then w.setCell ⟨d, 4, none⟩ (.int .i64 (f - 1)) else w) := by
  unfold Runs
  by_cases h0 : f = 0
  · subst h0
    simp only [if_true]
    go_enter Try.func94, Try.ntmps94
    go_wp2
    go_ret
    exact ⟨rfl, rfl⟩
  · have hb' : (decide (f = 0)) = false := by simpa using h0
    rw [hb', if_neg h0]
    by_cases h1 : 0 < f
    · rw [if_pos h1]
      go_enter Try.func94, Try.ntmps94
      go_wp2
      go_ret
      exact ⟨rfl, rfl⟩
    · rw [if_neg h1]
      go_enter Try.func94, Try.ntmps94
      go_wp2
      go_ret
      exact ⟨rfl, rfl⟩
theorem rpower_runs {F : Nat → Prop} {w : World} {r : Nat} {vn vs vl : Value} {m : DM} (h : RefAt F w r vn vs vl m) (hf : m.fuse ≤ 9223372036854775807) :
    ∃ w', Runs 94 #[.pointer (some ⟨r, 0, none⟩)] w (.bool (!decide (m.fuse = 0))) w' ∧ RefAt F w' r vn vs vl (spendOf m).2 ∧ Keeps (fun b => b = r) w w' ∧ w'.heap.size = w.heap.size := by
  have hr := rpower_raw w r m.fuse _ h.cells.c4 h.cells.c5 (h.cells.f0 4) (h.cells.f0 5) hf
  unfold spendOf
  by_cases h0 : m.fuse = 0
  · simp only [h0, if_true] at hr ⊢
    refine ⟨w.setCell ⟨r, 5, none⟩ (.bool true), hr, RefAt.store h.blk ?_ (fun b hb => Below.heap_setCell _ _ _ _ hb) h.fr h.now h.sure h.loose h.lt, (Keeps.refl (fun b => b = r) w).setCell (p := ⟨r, 5, none⟩) (fun _ => rfl) _, by simp⟩
    rw [heap_setCell_eq h.blk]; simp [h0]
  · by_cases h1 : 0 < m.fuse
    · simp only [h0, h1, if_true, if_false] at hr ⊢
      refine ⟨w.setCell ⟨r, 4, none⟩ (.int .i64 (m.fuse - 1)), hr, RefAt.store h.blk ?_ (fun b hb => Below.heap_setCell _ _ _ _ hb) h.fr h.now h.sure h.loose h.lt, (Keeps.refl (fun b => b = r) w).setCell (p := ⟨r, 4, none⟩) (fun _ => rfl) _, by simp⟩
      rw [heap_setCell_eq h.blk]; simp
    · simp only [h0, h1, if_false] at hr ⊢
      exact ⟨w, hr, h, Keeps.refl _ _, rfl⟩

/-! ### clamp -/
theorem rclamp_runs (w : World) (n most : Int) : Runs 127 #[.int .i64 n, .int .i64 most] w (.int .i64 (if n < 0 then 0 else if most < n then most else n)) w := by
  unfold Runs
  by_cases h0 : n < 0
  · rw [if_pos h0]
    go_enter Try.func127, Try.ntmps127
    go_wp2
    go_ret
    exact ⟨rfl, rfl⟩
  · rw [if_neg h0]
    by_cases h1 : most < n
    · rw [if_pos h1]
      go_enter Try.func127, Try.ntmps127
      go_wp2
      go_ret
      exact ⟨rfl, rfl⟩
    · rw [if_neg h1]
      go_enter Try.func127, Try.ntmps127
      go_wp2
      go_ret
      exact ⟨rfl, rfl⟩
end Go.Proofs.Ytlinkpjneehnbaa
