/- A part of the proof. -/
import Derived.Test.YtddnikpdmjogiaaGreatZa7
import Derived.Test.YtddnikpdmjogiaaGreatZa8
namespace Go.Proofs.YtddnikpdmjogiaaGreat
set_option linter.unusedVariables false
open Go.RowKit Go.MapKept
theorem rsync_runs {F : Nat → Prop} {w : World} {r : Nat} {m : DM} (h : RefIs F w r m) (hn : m.now = m.loose.foldl doCh m.sure) (hf : m.fuse ≤ 9223372036854775807) :
    ∃ w', Runs 40 #[.pointer (some ⟨r, 0, none⟩)] w (.int .i64 (syncOf m).1) w' ∧ RefIs F w' r (syncOf m).2 ∧ Keeps F w w' := by
  have hi := h
  obtain ⟨vn, vs, vl, h⟩ := h
  have c5 := h.cells.c5
  unfold syncOf
  cases hd : m.down with
  | true =>
    rw [hd] at c5
    refine ⟨w, ?_, hi, Keeps.refl _ _⟩
    unfold Runs
    go_enter Tryz.func40, Tryz.ntmps40
    go_wp2_with fail
    go_ret
    exact ⟨rfl, rfl⟩
  | false =>
    rw [hd] at c5
    rw [if_neg (by simp)]
    obtain ⟨w1, hpow, h1, k1, z1⟩ := rpower_runs h hf
    have k1' : Keeps F w w1 := k1.mono (fun b _ e => by rw [e]; exact h.fr)
    by_cases hfz : m.fuse = 0
    · rw [if_pos hfz]
      rw [show (!decide (m.fuse = 0)) = false by simp [hfz]] at hpow
      have e1 : (spendOf m).2 = { m with down := true } := by unfold spendOf; rw [if_pos hfz]
      rw [e1] at h1
      refine ⟨w1, ?_, ⟨vn, vs, vl, h1⟩, k1'⟩
      clear h h1 k1 k1' hi hn e1
      unfold Runs
      go_enter Tryz.func40, Tryz.ntmps40
      go_wp2_with (go_at_call 102; refine hpow.out.mono ?_; rintro e w' ⟨rfl, rfl⟩)
      go_ret
      exact ⟨rfl, rfl⟩
    · rw [if_neg hfz]
      rw [show (!decide (m.fuse = 0)) = true by simp [hfz]] at hpow
      obtain ⟨na, nc, rfl, _, _⟩ := h1.now.form
      obtain ⟨sa, sc, rfl, _, _⟩ := h1.sure.form
      obtain ⟨la, lc, rfl⟩ := h1.loose.form
      have b1 := h1.blk
      obtain ⟨w2, hw2⟩ : ∃ w2, w2 = w1.setCell ⟨r, 2, none⟩ (.slice na (spendOf m).2.now.length nc) := ⟨_, rfl⟩
      have b2 : w2.heap[r]? = some (.cells #[.int .i64 (spendOf m).2.room, .slice na (spendOf m).2.now.length nc, .slice na (spendOf m).2.now.length nc, .slice la (spendOf m).2.loose.length lc, .int .i64 (spendOf m).2.fuse, .bool (spendOf m).2.down] 92 (0, 0)) := by rw [hw2, heap_setCell_eq b1]; rfl
      have b3 : (w2.setCell ⟨r, 3, none⟩ (.slice none 0 0)).heap[r]? = some (.cells #[.int .i64 (spendOf m).2.room, .slice na (spendOf m).2.now.length nc, .slice na (spendOf m).2.now.length nc, .slice none 0 0, .int .i64 (spendOf m).2.fuse, .bool (spendOf m).2.down] 92 (0, 0)) := by rw [heap_setCell_eq b2]; rfl
      have hsp := spend_same (m := m)
      refine ⟨w2.setCell ⟨r, 3, none⟩ (.slice none 0 0), ?_, ⟨.slice na (spendOf m).2.now.length nc, .slice na (spendOf m).2.now.length nc, .slice none 0 0, ?_⟩, ?_⟩
      rotate_left
      · refine RefAt.store (m := synced m) (cs := _) b1 b3 (fun b hb => ?_) h.fr h1.now ?_ (RChsAt.nil _ _) h1.lt
        · rw [Below.heap_setCell _ _ _ _ hb, hw2, Below.heap_setCell _ _ _ _ hb]
        · have := h1.now
          rw [hsp.1] at this ⊢
          have e : (synced m).sure = m.now := by rw [hn]; rfl
          rw [e]
          exact this
      · refine Keeps.setCell (p := ⟨r, 3, none⟩) ?_ (fun _ => h.fr) _
        rw [hw2]
        exact k1'.setCell (p := ⟨r, 2, none⟩) (fun _ => h.fr) _
      · have r1 : w1.cell? ⟨r, 1, none⟩ = some (.slice na (spendOf m).2.now.length nc) := cell_at b1 rfl
        have r2 : w1.cell? ⟨r, 2, none⟩ = some (.slice sa (spendOf m).2.sure.length sc) := cell_at b1 rfl
        have f2 : w1.frozen? ⟨r, 2, none⟩ = false := free_at b1 2
        have r3 : w1.cell? ⟨r, 3, none⟩ = some (.slice la (spendOf m).2.loose.length lc) := cell_at b1 rfl
        have f3 : w1.frozen? ⟨r, 3, none⟩ = false := free_at b1 3
        subst hw2
        generalize (spendOf m).2 = m1 at *
        clear h h1 k1 k1' hi hn b1 b2 b3 hsp
        unfold Runs
        go_enter Tryz.func40, Tryz.ntmps40
        go_wp2_with (go_at_call 102; refine hpow.out.mono ?_; rintro e w' ⟨rfl, rfl⟩)
        go_ret
        exact ⟨rfl, rfl⟩
theorem Reads.cutP {w : World} {a : Option Addr} {n c : Nat} {l : List UInt8} (h : Reads w (.slice a n c) l) (i j : Nat) (hij : i + j ≤ l.length) : Reads w (.slice (if c = i then a else Option.map (fun x => x.add i) a) j (c - i)) ((l.drop i).take j) := by
  cases a with
  | none =>
    rcases h with ⟨e, rfl⟩ | ⟨x, c', e, _⟩
    · cases e
      simp at hij
      obtain ⟨rfl, rfl⟩ := hij
      exact .inl ⟨rfl, rfl⟩
    · cases e
  | some x =>
    have h2 := h.cut i j hij
    by_cases hc : c = i
    · rw [if_pos hc] at h2 ⊢; exact h2
    · rw [if_neg hc] at h2 ⊢; exact h2
end Go.Proofs.YtddnikpdmjogiaaGreat
namespace Go.Proofs.YtddnikpdmjogiaaGreat
set_option linter.unusedVariables false
open Go.RowKit Go.MapKept
theorem rchCells_get : ∀ {ps : List Value} {cs : List Ch} (i : Nat) {p : Value} {c : Ch}, ps[i]? = some p → cs[i]? = some c → (chCells ps cs)[i * 4]? = some (.int .i64 c.kind) ∧ (chCells ps cs)[i * 4 + 1]? = some (.string c.a) ∧ (chCells ps cs)[i * 4 + 2]? = some (.string c.b) ∧ (chCells ps cs)[i * 4 + 3]? = some p
  | q :: ps, g :: cs, 0, p, c, hp, hc => by
    simp at hp hc; subst hp; subst hc
    exact ⟨rfl, rfl, rfl, rfl⟩
  | q :: ps, g :: cs, i + 1, p, c, hp, hc => by
    have := rchCells_get (ps := ps) (cs := cs) i (by simpa using hp) (by simpa using hc)
    rw [show (i + 1) * 4 = i * 4 + 1 + 1 + 1 + 1 by omega]
    simpa [chCells] using this
  | [], _, i, _, _, hp, _ => by simp at hp
  | _ :: _, [], i, _, _, _, hc => by simp at hc
theorem RChsAt.cell {F : Nat → Prop} {w : World} {v : Value} {cs : List Ch} (h : RChsAt F w v cs) {i : Nat} {c : Ch} (hc : cs[i]? = some c) :
    ∃ g cap p, v = .slice (some ⟨g, 0, none⟩) cs.length cap ∧ cs.length ≤ cap ∧ w.cell? ⟨g, i * 4, none⟩ = some (.int .i64 c.kind) ∧ w.cell? ⟨g, i * 4 + 1, none⟩ = some (.string c.a) ∧ w.cell? ⟨g, i * 4 + 2, none⟩ = some (.string c.b) ∧ w.cell? ⟨g, i * 4 + 3, none⟩ = some p ∧ Bytes F w p c.p ∧ F g := by
  obtain ⟨ps, h1, h2, h3⟩ := h
  obtain ⟨p, hp, hB⟩ := h1.get' hc
  have hcc := rchCells_get i hp hc
  rcases h2.2 with ⟨rfl, e⟩ | ⟨g, cap, cur, rfl, _, hb, h4, _⟩
  · have := (List.getElem?_eq_some_iff.1 hc).1; omega
  · have hat : ∀ j u, (chCells ps cs)[j]? = some u → w.cell? ⟨g, j, none⟩ = some u := fun j u hu => by
      have := h2.cells (g := g) rfl j u hu
      simpa [Addr.add_lit] using this
    exact ⟨g, cap, p, rfl, h4, hat _ _ hcc.1, hat _ _ hcc.2.1, hat _ _ hcc.2.2.1, hat _ _ hcc.2.2.2, hB, h3 g rfl⟩
theorem drew_size (w : World) : w.drew.heap.size = w.heap.size := rfl
end Go.Proofs.YtddnikpdmjogiaaGreat
