/- A part of the proof. -/
import Derived.Test.YtddnikpdmjogiaaGreatYa4
import Derived.Test.YtddnikpdmjogiaaGreatYa6
namespace Go.Proofs.YtddnikpdmjogiaaGreat
set_option linter.unusedVariables false
open Go.RowKit Go.MapKept
theorem info_rchange : (Tryz.prog.info? 138).map (fun i => (i.zero, i.size, i.bytes)) = some (some (.agg #[.int .i64 0, .string ⟨#[]⟩, .string ⟨#[]⟩, .slice none 0 0]), 4, 64) := by kernel_rfl
theorem RChsAt.push {F : Nat → Prop} {w : World} {v p : Value} {cs : List Ch} {c : Ch} (h : RChsAt F w v cs) (hF : ∀ b, F b → b < w.heap.size) (hp : Bytes F w p c.p) (hb : cs.length < 1099511627776) :
  ∃ a k w', (Builtin.append_ #[90, 90] 90 #[v, .slice (some ⟨w.heap.size, 0, none⟩) 1 1]).run Tryz.prog (w.alloc (.cells #[.int .i64 c.kind, .string c.a, .string c.b, p] 138)) = .ok (.slice a (cs.length + 1) k) w' ∧ RChsAt (Ext F w w') w' (.slice a (cs.length + 1) k) (cs ++ [c]) ∧
   Keeps (fun b => v.ownBlock = some b) w w' ∧ ∀ b, v.ownBlock = some b → F b ∧ ∃ cur, w.heap[b]? = some (.cells cur 138 (0, 0)) := by
 obtain ⟨ps, h1, h2, h3⟩ := h
 have hlt := h2.lt
 obtain ⟨i0, hi, hz0, hz1, hz2⟩ := info_parts info_rchange
 have hp1 : p.oneCell' = true := by obtain ⟨a, c, rfl, _⟩ := hp.form; rfl
 obtain ⟨v', w', hrun, ho2, hg, _, hat⟩ := run_append_own_at (P := Tryz.prog) (w.alloc (.cells #[.int .i64 c.kind, .string c.a, .string c.b, p] 138)) 0 90 90 138 i0 _ 4 64 Tryz.underlying90 hi hz0 hz1 hz2 rfl (by omega) v cs.length (chCells ps cs) (h2.alloc _) ⟨w.heap.size, 0, none⟩ 1 1 [.int .i64 c.kind, .string c.a, .string c.b, p] rfl
  (fun j u hu => by
   rw [Addr.add_lit, Nat.zero_add]
   exact cell_at (heap_alloc_new w _) (by simpa using hu))
  (by intro u hu; simp at hu; rcases hu with rfl | rfl | rfl | rfl; rfl; rfl; rfl; exact hp1) (by unfold maxLen; omega) (by omega) (Nat.zero_le _)
 obtain ⟨a, k, rfl⟩ := ownsRow_slice ho2
 have hk : Keeps (fun b => v.ownBlock = some b) w w' := ((Keeps.refl _ w).alloc _).trans (Keeps.of_grown hg) (fun _ _ h => h)
 have htype : ∀ b, v.ownBlock = some b → ∃ cur, w.heap[b]? = some (.cells cur 138 (0, 0)) := fun b hb => ownsRow_type h2 hb
 have hku : KeepU8 F w w' := KeepU8.of_keeps hk (fun g cs fz hg he hb => by obtain ⟨cur, hc⟩ := htype g he; rw [hc] at hb; simp at hb)
 have hz := hk.size
 refine ⟨a, k, w', hrun, ⟨ps ++ [p], ?_, ?_, fun b hb => ?_⟩, hk, fun b hb => ⟨h3 b hb, htype b hb⟩⟩
 ·exact (h1.mono (fun q f hq => hq.keep hku (fun _ h _ => .inl h))).append ⟨hp.keep hku (fun _ h _ => .inl h), trivial⟩
 ·rw [chCells_snoc _ _ _ _ h1.length, List.length_append]
  exact ho2
 ·have hlt2 := ho2.lt b hb
  rcases hat with hat | hat
  ·rw [hat] at hb; exact .inl (h3 b hb)
  ·rw [hat] at hb; simp at hb; subst hb; exact .inr ⟨by omega, hlt2.2⟩
theorem step_wantedR {ops : Array Oper} {o : Oper} {a : Act} {X E : Prop} (hg : o.guard = none) (h : X) : if Region.wanted o (yielded ops a.tmps) = true then X else E := by
 rw [if_pos (by simp [Region.wanted, hg])]
 exact h
def RStepPost (F : Nat → Prop) (w : World) (r : Nat) (res : Int × DM) (e : Ending) (w' : World) : Prop := e = .returned (.int .i64 res.1) ∧ RefIs (Ext F w w') w' r res.2 ∧ Keeps F w w'
set_option maxRecDepth 100000 in
theorem rstep_down {w : World} {r : Nat} (k : Int) (x y : ByteArray) (pv : Value) (c5 : (w.alloc (.cells #[.int .i64 k, .string x, .string y, pv] 138)).cell? ⟨r, 5, none⟩ = some (.bool true)) :
  Runs 58 #[.pointer (some ⟨r, 0, none⟩), .agg #[.int .i64 k, .string x, .string y, pv]] w (.int .i64 5) (w.alloc (.cells #[.int .i64 k, .string x, .string y, pv] 138)) := by
 unfold Runs
 go_enter Tryz.func58, Tryz.ntmps58
 go_wp2_with fail
 go_ret
 exact ⟨rfl, rfl⟩
set_option maxRecDepth 100000 in
theorem rstep_refused {w : World} {r : Nat} (k : Int) (x y : ByteArray) (pv : Value) (e0 : Int) (he : (e0 == 0) = false) (Q : World → Prop) (c5 : (w.alloc (.cells #[.int .i64 k, .string x, .string y, pv] 138)).cell? ⟨r, 5, none⟩ = some (.bool false))
  (hm : Calls Tryz.prog 117 #[.pointer (some ⟨r, 0, none⟩), .agg #[.int .i64 k, .string x, .string y, pv]] (w.alloc (.cells #[.int .i64 k, .string x, .string y, pv] 138)) (fun e w' => e = .returned (.int .i64 e0) ∧ Q w')) :
  Calls Tryz.prog 58 #[.pointer (some ⟨r, 0, none⟩), .agg #[.int .i64 k, .string x, .string y, pv]] w (fun e w' => e = .returned (.int .i64 e0) ∧ Q w') := by
 go_enter Tryz.func58, Tryz.ntmps58
 go_wp2_with fail
 refine hm.mono ?_
 rintro e w2 ⟨rfl, hq⟩
 go_wp2_with fail
 go_ret
 exact ⟨rfl, hq⟩
set_option maxRecDepth 100000 in
theorem rstep_dead {w : World} {r : Nat} (k : Int) (x y : ByteArray) (pv : Value) (Q Q2 : World → Prop) (c5 : (w.alloc (.cells #[.int .i64 k, .string x, .string y, pv] 138)).cell? ⟨r, 5, none⟩ = some (.bool false))
  (hm : Calls Tryz.prog 117 #[.pointer (some ⟨r, 0, none⟩), .agg #[.int .i64 k, .string x, .string y, pv]] (w.alloc (.cells #[.int .i64 k, .string x, .string y, pv] 138)) (fun e w' => e = .returned (.int .i64 0) ∧ Q w'))
  (hpw : ∀ w2, Q w2 → Calls Tryz.prog 102 #[.pointer (some ⟨r, 0, none⟩)] w2 (fun e w' => e = .returned (.bool false) ∧ Q2 w')) :
  Calls Tryz.prog 58 #[.pointer (some ⟨r, 0, none⟩), .agg #[.int .i64 k, .string x, .string y, pv]] w (fun e w' => e = .returned (.int .i64 5) ∧ Q2 w') := by
 have HP := hyd hpw
 clear hpw
 go_enter Tryz.func58, Tryz.ntmps58
 go_wp2_with fail
 refine hm.mono ?_
 rintro e w2 ⟨rfl, hq⟩
 go_wp2_with fail
 refine (HP.out w2 hq).mono ?_
 rintro e w3 ⟨rfl, hq3⟩
 go_wp2_with fail
 go_ret
 exact ⟨rfl, hq3⟩
theorem rstep_end {F : Nat → Prop} {w w5 w6 : World} {r bx : Nat} {vn vs vl v6 p4 : Value} {m : DM} {c : Ch} (h5 : RefAt F w5 r vn vs vl (spendOf m).2) (hlt : ∀ b, F b → b < w.heap.size) (hz5 : w.heap.size ≤ w5.heap.size) (hk5 : Keeps F w w5) (hrb : bx ≠ r)
  (hbx5 : w5.heap[bx]? = some (.cells #[.int .i64 c.kind, .string c.a, .string c.b, p4] 138 (0, 0))) (ho5 : Bytes (fun b => w.heap.size ≤ b) w5 p4 c.p) (hfz : m.fuse ≠ 0) (hll : m.loose.length < 1099511627776)
  (h6 : FilesAt (Ext (Ext F w w5) w5 w6) w6 v6 (doCh m.now c)) (k6 : Keeps (fun _ => False) w5 w6) :
  ∃ a8 c8 w8, (Builtin.append_ #[90, 90] 90 #[vl, .slice (some ⟨w6.heap.size, 0, none⟩) 1 1]).run Tryz.prog ((w6.setCell ⟨r, 1, none⟩ v6).drew.alloc (.cells #[.int .i64 c.kind, .string c.a, .string c.b, p4] 138)) = .ok (.slice a8 (m.loose.length + 1) c8) w8 ∧
   (w6.setCell ⟨r, 1, none⟩ v6).heap[r]? = some (.cells #[.int .i64 (spendOf m).2.room, v6, vs, vl, .int .i64 (spendOf m).2.fuse, .bool (spendOf m).2.down] 92 (0, 0)) ∧
   (w6.setCell ⟨r, 1, none⟩ v6).heap[bx]? = some (.cells #[.int .i64 c.kind, .string c.a, .string c.b, p4] 138 (0, 0)) ∧
   w8.heap[r]? = some (.cells #[.int .i64 (spendOf m).2.room, v6, vs, vl, .int .i64 (spendOf m).2.fuse, .bool (spendOf m).2.down] 92 (0, 0)) ∧
   RStepPost F w r (doesOf m c) (.returned (.int .i64 0)) (w8.setCell ⟨r, 3, none⟩ (.slice a8 (m.loose.length + 1) c8)) := by
 have e2 : (spendOf m).2.now = m.now := by unfold spendOf; split; rfl; split <;> rfl
 have e3 : (spendOf m).2.loose = m.loose := by unfold spendOf; split; rfl; split <;> rfl
 have z6 := k6.size
 have hG : ∀ b, Ext F w w6 b → b < w6.heap.size := fun b hb => by
  rcases hb with hb | hb
  ·have := hlt b hb; omega
  ·exact hb.2
 have hb6 := k6.at h5.blk (fun e => e)
 have hbx6 := k6.at hbx5 (fun e => e)
 have hb7 : (w6.setCell ⟨r, 1, none⟩ v6).heap[r]? = some (.cells #[.int .i64 (spendOf m).2.room, v6, vs, vl, .int .i64 (spendOf m).2.fuse, .bool (spendOf m).2.down] 92 (0, 0)) := by rw [heap_setCell_eq hb6]; rfl
 have hbx7 : (w6.setCell ⟨r, 1, none⟩ v6).heap[bx]? = some (.cells #[.int .i64 c.kind, .string c.a, .string c.b, p4] 138 (0, 0)) := by rw [Below.heap_setCell _ _ _ _ hrb]; exact hbx6
 have h7 : RefAt (Ext F w w6) (w6.setCell ⟨r, 1, none⟩ v6) r v6 vs vl { (spendOf m).2 with now := doCh m.now c } := RefAt.store hb6 hb7 (fun b hb => Below.heap_setCell _ _ _ _ hb) (.inl h5.fr)
  (h6.keep (KeepU8.refl _ _) (fun _ _ => rfl) (fun b hb _ => ext_trans hz5 z6 b hb)) (h5.sure.quiet k6 (fun b hb _ => .inl hb)) (h5.loose.quiet k6 (fun b hb _ => .inl hb)) hG
 have hku7 : KeepU8 (fun b => w.heap.size ≤ b) w6 (w6.setCell ⟨r, 1, none⟩ v6) := (KeepU8.refl _ w6).setCell (fun cs fz e => by simp only at e; rw [hb6] at e; simp at e) _
 have z7 : (w6.setCell ⟨r, 1, none⟩ v6).heap.size = w6.heap.size := by simp
 have ho7 : Bytes (Ext F w w6) (w6.setCell ⟨r, 1, none⟩ v6).drew p4 c.p := (ho5.keep ((KeepU8.of_none k6).trans hku7) (fun b hb hb2 => (.inr ⟨hb, by omega⟩ : Ext F w w6 b))).keep (KeepU8.refl _ _).drew (fun _ h _ => h)
 have hl7 : RChsAt (Ext F w w6) (w6.setCell ⟨r, 1, none⟩ v6).drew vl m.loose := by have := h7.loose; rw [e3] at this; exact this.same (fun _ _ => rfl)
 obtain ⟨a8, c8, w8, hrun, hl8, k8, t8⟩ := hl7.push (c := c) (fun b hb => by have := hG b hb; simp; omega) ho7 hll
 have k8 := k8.undrew
 have z8 : w6.heap.size ≤ w8.heap.size := by have := k8.size; omega
 have hb8 := k8.at hb7 (fun e => by obtain ⟨_, cur, hc⟩ := t8 _ e; have hc : (w6.setCell ⟨r, 1, none⟩ v6).heap[r]? = _ := hc; rw [hb7] at hc; simp at hc)
 have hH : ∀ b, Ext F w w8 b → b < w8.heap.size := fun b hb => by
  rcases hb with hb | hb
  ·have := hlt b hb; omega
  ·exact hb.2
 have hup : ∀ b, Ext F w w6 b → Ext F w w8 b := ext_one (by omega) z8
 have hku8 : ∀ G, KeepU8 G (w6.setCell ⟨r, 1, none⟩ v6) w8 := fun G => KeepU8.of_keeps k8 (fun g cs fz _ e hg => by obtain ⟨_, cur, hc⟩ := t8 _ e; have hc : (w6.setCell ⟨r, 1, none⟩ v6).heap[g]? = _ := hc; rw [hg] at hc; simp at hc)
 have hfiles : ∀ v fs, FilesAt (Ext F w w6) (w6.setCell ⟨r, 1, none⟩ v6) v fs → FilesAt (Ext F w w8) w8 v fs := fun v fs h => by
  refine h.keep (hku8 _) ?_ (fun b hb _ => hup b hb)
  obtain ⟨ps, _, ho, _⟩ := h
  intro b hb
  obtain ⟨cur, hc⟩ := ownsRow_type ho hb
  exact k8.block b (lt_of_heap hc) (fun e => by obtain ⟨_, cur', hc'⟩ := t8 _ e; have hc' : (w6.setCell ⟨r, 1, none⟩ v6).heap[b]? = _ := hc'; rw [hc] at hc'; simp at hc')
 rw [show w6.heap.size = (w6.setCell ⟨r, 1, none⟩ v6).drew.heap.size by simp]
 refine ⟨a8, c8, w8, hrun, hb7, hbx7, hb8, ?_⟩
 have e1 : doesOf m c = (0, { (spendOf m).2 with now := doCh m.now c, loose := m.loose ++ [c] }) := by unfold doesOf; rw [if_neg hfz]
 rw [e1]
 have z9 : (w8.setCell ⟨r, 3, none⟩ (.slice a8 (m.loose.length + 1) c8)).heap.size = w8.heap.size := by simp
 refine ⟨rfl, ⟨v6, vs, .slice a8 (m.loose.length + 1) c8, ?_⟩, ?_⟩
 ·have h9 : RefAt (Ext F w w8) (w8.setCell ⟨r, 3, none⟩ (.slice a8 (m.loose.length + 1) c8)) r v6 vs (.slice a8 (m.loose.length + 1) c8) { (spendOf m).2 with now := doCh m.now c, loose := m.loose ++ [c] } :=
   RefAt.store hb8 (by rw [heap_setCell_eq hb8]; rfl) (fun b hb => Below.heap_setCell _ _ _ _ hb) (.inl h5.fr) (hfiles _ _ h7.now) (hfiles _ _ h7.sure)
    (hl8.keep (KeepU8.refl _ _) (fun _ _ => rfl) (fun b hb _ => by
     rcases hb with hb | hb
     ·exact hup b hb
     ·exact .inr ⟨by have := hb.1; simp at this; omega, hb.2⟩)) hH
  unfold Ext at h9 ⊢
  rw [z9]
  exact h9
 ·have k06 : Keeps F w w6 := hk5.trans k6 (fun _ _ e => e.elim)
  have k07 : Keeps F w (w6.setCell ⟨r, 1, none⟩ v6) := k06.setCell (p := ⟨r, 1, none⟩) (fun _ => h5.fr) _
  have k08 : Keeps F w w8 := k07.trans k8 (fun b hb e => by
   have := (t8 b e).1
   rcases this with h | h
   ·exact h
   ·omega)
  exact k08.setCell (p := ⟨r, 3, none⟩) (fun _ => h5.fr) _
set_option maxRecDepth 100000 in
set_option maxHeartbeats 1000000 in
theorem rstep_goes {F : Nat → Prop} {w : World} {r : Nat} {vn vs vl : Value} {m : DM} (h : RefAt F w r vn vs vl m) (c : Ch) {pv : Value} (hp : ∀ w', Keeps F w w' → Reads w' pv c.p) (hs : FSorted m.now) (hmay : May m.now c) (hdn : m.down = false) (hfz : m.fuse ≠ 0) (hf : m.fuse ≤ 9223372036854775807)
  (hl : m.now.length < 549755813888) (hll : m.loose.length < 1099511627776) (hsz : c.kind = 1 → ((fget m.now c.a).getD []).length + c.p.length ≤ 140737488355328) (hpl : c.p.length ≤ 140737488355328)
  (hm : Calls Tryz.prog 117 #[.pointer (some ⟨r, 0, none⟩), .agg #[.int .i64 c.kind, .string c.a, .string c.b, pv]] (w.alloc (.cells #[.int .i64 c.kind, .string c.a, .string c.b, pv] 138)) (QuietP (w.alloc (.cells #[.int .i64 c.kind, .string c.a, .string c.b, pv] 138)) (.int .i64 0))) :
  Calls Tryz.prog 58 #[.pointer (some ⟨r, 0, none⟩), .agg #[.int .i64 c.kind, .string c.a, .string c.b, pv]] w (RStepPost F w r (doesOf m c)) := by
 obtain ⟨pa, pc, rfl, _, _⟩ := (hp w (Keeps.refl _ _)).form
 obtain ⟨na, nc, rfl, _, _⟩ := h.now.form
 obtain ⟨la, lc, rfl⟩ := h.loose.form
 obtain ⟨w1, hw1⟩ : ∃ w1, w1 = w.alloc (.cells #[.int .i64 c.kind, .string c.a, .string c.b, .slice pa c.p.length pc] 138) := ⟨_, rfl⟩
 rw [← hw1] at hm
 have hk1 : Keeps (fun _ => False) w w1 := by rw [hw1]; exact (Keeps.refl _ w).alloc _
 have hz1 : w1.heap.size = w.heap.size + 1 := by rw [hw1]; simp
 have hbx1 : w1.heap[w.heap.size]? = some (.cells #[.int .i64 c.kind, .string c.a, .string c.b, .slice pa c.p.length pc] 138 (0, 0)) := by rw [hw1]; exact heap_alloc_new _ _
 have hlt := h.lt
 have hrb : r ≠ w.heap.size := by have := hlt r h.fr; omega
 have h1 := h.quiet hk1 (G := F) (fun _ h _ => h) (fun b hb => by have := hlt b hb; omega)
 have c5 : (w.alloc (.cells #[.int .i64 c.kind, .string c.a, .string c.b, .slice pa c.p.length pc] 138)).cell? ⟨r, 5, none⟩ = some (.bool false) := by rw [← hw1, ← hdn]; exact h1.cells.c5
 obtain ⟨k, x, y, p⟩ := c
 simp only at *
 go_enter Tryz.func58, Tryz.ntmps58
 go_wp2_with fail
 rw [← hw1]
 clear hw1 c5
 refine hm.mono ?_
 rintro e w2 ⟨rfl, hk2⟩
 clear hm
 have h2 := h1.quiet hk2 (G := F) (fun _ h _ => h) (fun b hb => by have := hlt b hb; have := hk2.size; omega)
 obtain ⟨w3, hpow, h3, hk3, hz3⟩ := rpower_runs h2 hf
 rw [show (!decide (m.fuse = 0)) = true by simp [hfz]] at hpow
 clear h1 h2
 go_wp2_with fail
 refine hpow.out.mono ?_
 rintro e w' ⟨rfl, rfl⟩
 have hbx3 := hk3.at (hk2.at hbx1 (fun e => e)) (fun e => hrb e.symm)
 have b33 : w3.cell? ⟨w.heap.size, 3, none⟩ = some (.slice pa p.length pc) := cell_at hbx3 rfl
 have hk03 : Keeps F w w3 := ((hk1.trans hk2 (fun _ _ e => e)).any (F := F)).trans hk3 (fun b _ e => by rw [e]; exact h.fr)
 have htw := twin_calls (hp w3 hk03) hpl
 clear hpow
 go_wp2_with fail
 refine htw.mono ?_
 rintro e w4 ⟨v4, rfl, ho4, hk4⟩
 obtain ⟨a4, c4, rfl, _, _⟩ := ho4.bytes.form
 have hbx4 := hk4.at hbx3 (fun e => e)
 have b43 : w4.cell? ⟨w.heap.size, 3, none⟩ = some (.slice pa p.length pc) := cell_at hbx4 rfl
 have f43 : w4.frozen? ⟨w.heap.size, 3, none⟩ = false := free_at hbx4 3
 have hbx5 : (w4.setCell ⟨w.heap.size, 3, none⟩ (.slice a4 p.length c4)).heap[w.heap.size]? = some (.cells #[.int .i64 k, .string x, .string y, .slice a4 p.length c4] 138 (0, 0)) := by rw [heap_setCell_eq hbx4]; rfl
 have hk5 : Keeps (fun b => b = w.heap.size) w4 (w4.setCell ⟨w.heap.size, 3, none⟩ (.slice a4 p.length c4)) := (Keeps.refl (fun b => b = w.heap.size) w4).setCell (p := ⟨w.heap.size, 3, none⟩) (fun _ => rfl) _
 have hz4 : w3.heap.size ≤ w4.heap.size := hk4.size
 have h5 : RefAt F (w4.setCell ⟨w.heap.size, 3, none⟩ (.slice a4 p.length c4)) r (.slice na m.now.length nc) vs (.slice la m.loose.length lc) (spendOf m).2 := h3.keep (fun b hb => (Below.heap_setCell _ _ _ _ (by have := hlt b hb; simp only; omega)).trans (hk4.block b (h3.lt b hb) (fun e => e)))
 have ho5 : Bytes (fun b => w3.heap.size ≤ b) (w4.setCell ⟨w.heap.size, 3, none⟩ (.slice a4 p.length c4)) (.slice a4 p.length c4) p := ho4.bytes.keep ((KeepU8.refl _ w4).setCell (fun cs fz e => by rw [hbx4] at e; simp at e) _) (fun _ h _ => h)
 obtain ⟨w5, hw5⟩ : ∃ w5, w5 = w4.setCell ⟨w.heap.size, 3, none⟩ (.slice a4 p.length c4) := ⟨_, rfl⟩
 rw [← hw5] at hbx5 hk5 h5 ho5
 clear htw ho4
 go_wp2_with fail
 rw [← hw5]
 clear hw5
 have hlt5 : ∀ b, Ext F w w5 b → b < w5.heap.size := fun b hb => by
  rcases hb with hb | hb
  ·exact h5.lt b hb
  ·exact hb.2
 have hk35 : Keeps (fun b => b = w.heap.size) w3 w5 := (hk4.mono (fun _ _ e => e.elim)).trans hk5 (fun _ _ e => e)
 have hz5 := hk35.size
 have hz03 := hk03.size
 have e2 : (spendOf m).2.now = m.now := by unfold spendOf; split; rfl; split <;> rfl
 have e3 : (spendOf m).2.loose = m.loose := by unfold spendOf; split; rfl; split <;> rfl
 have e4 : (spendOf m).2.sure = m.sure := by unfold spendOf; split; rfl; split <;> rfl
 have hn5 : FilesAt (Ext F w w5) w5.drew (.slice na m.now.length nc) m.now := by
  have hh := h5.now.keep (w' := w5.drew) (G := Ext F w w5) (KeepU8.refl _ w5).drew (fun _ _ => rfl) (fun b hb _ => .inl hb)
  rw [e2] at hh
  exact hh
 have ho5' : Bytes (Ext F w w5) w5.drew (.slice a4 p.length c4) p := ho5.keep (KeepU8.refl _ w5).drew (fun b hb hb2 => .inr ⟨by omega, hb2⟩)
 have hdo := rdo_calls (w := w5.drew) hn5 hlt5 hs ⟨k, x, y, p⟩ hmay ho5'.reads hl hsz
 simp only at hdo
 have hdo2 := hdo.mono (R' := fun e w6 => ∃ a6 c6, e = .returned (.slice a6 (doCh m.now ⟨k, x, y, p⟩).length c6) ∧ FilesAt (Ext (Ext F w w5) w5 w6) w6 (.slice a6 (doCh m.now ⟨k, x, y, p⟩).length c6) (doCh m.now ⟨k, x, y, p⟩) ∧ Keeps (fun _ => False) w5 w6 ∧ w6.cell? ⟨r, 1, none⟩ = some (.slice na m.now.length nc) ∧ w6.frozen? ⟨r, 1, none⟩ = false) (by
  rintro e w6 ⟨v6, rfl, h6, k6⟩
  obtain ⟨a6, c6, rfl, _, _⟩ := h6.form
  have k6 := k6.undrew
  have hb6 := k6.at h5.blk (fun e => e)
  exact ⟨a6, c6, rfl, h6, k6, cell_at hb6 rfl, free_at hb6 1⟩)
 have r51 : w5.cell? ⟨r, 1, none⟩ = some (.slice na m.now.length nc) := h5.cells.c1
 have b50 : w5.cell? ⟨w.heap.size, 0, none⟩ = some (.int .i64 k) := cell_at hbx5 rfl
 have b51 : w5.cell? ⟨w.heap.size, 1, none⟩ = some (.string x) := cell_at hbx5 rfl
 have b52 : w5.cell? ⟨w.heap.size, 2, none⟩ = some (.string y) := cell_at hbx5 rfl
 have b53 : w5.cell? ⟨w.heap.size, 3, none⟩ = some (.slice a4 p.length c4) := cell_at hbx5 rfl
 have HDO := hyd hdo2
 have hk05 : Keeps F w w5 := hk03.trans hk35 (fun b hb e => by omega)
 have H5 := hyd h5
 have HLT := hyd hlt
 have HK05 := hyd hk05
 have HBX5 := hyd hbx5
 have HO5 := hyd (ho5.keep (KeepU8.refl _ _) (fun b hb _ => (by omega : w.heap.size ≤ b)) : Bytes (fun b => w.heap.size ≤ b) w5 (.slice a4 p.length c4) p)
 clear hdo ho5' hn5 hdo2 h5 h3 h hbx1 hbx3 hbx4 hbx5 ho5 hp hlt hk5 hk35 hk03 hk4 hk3 hk2 hk1 hs hsz hmay
 go_region_law (first | (refine step_wantedR rfl ?_; go_simp; go_at_call 118; refine HDO.out.mono ?_; rintro e w6 ⟨a6, c6, rfl, h6, k6, q1, q2⟩) | fail)
 all_goals
  obtain ⟨a8, c8, w8, hrun, hb7, hbx7, hb8, hpost⟩ := rstep_end (c := ⟨k, x, y, p⟩) H5.out HLT.out (by omega) HK05.out (Ne.symm hrb) HBX5.out HO5.out hfz hll h6 k6
  obtain ⟨w7, hw7⟩ : ∃ w7, w7 = w6.setCell ⟨r, 1, none⟩ (.slice a6 (doCh m.now ⟨k, x, y, p⟩).length c6) := ⟨_, rfl⟩
  have z7 : w6.heap.size = w7.heap.size := by rw [hw7]; simp
  rw [← hw7] at hrun hb7 hbx7 ⊢
  rw [z7] at hrun
  have r7 : w7.cell? ⟨r, 3, none⟩ = some (.slice la m.loose.length lc) := cell_at hb7 rfl
  have r7d : w7.drew.cell? ⟨r, 3, none⟩ = some (.slice la m.loose.length lc) := r7
  have g0 : w7.cell? ⟨w.heap.size, 0, none⟩ = some (.int .i64 k) := cell_at hbx7 rfl
  have g1 : w7.cell? ⟨w.heap.size, 1, none⟩ = some (.string x) := cell_at hbx7 rfl
  have g2 : w7.cell? ⟨w.heap.size, 2, none⟩ = some (.string y) := cell_at hbx7 rfl
  have g3 : w7.cell? ⟨w.heap.size, 3, none⟩ = some (.slice a4 p.length c4) := cell_at hbx7 rfl
  have r8 : w8.cell? ⟨r, 3, none⟩ = some (.slice la m.loose.length lc) := cell_at hb8 rfl
  have f8 : w8.frozen? ⟨r, 3, none⟩ = false := free_at hb8 3
  have hr7 := lt_of_heap hb7
  have r7a : (w7.drew.alloc (.cells #[.int .i64 k, .string x, .string y, .slice a4 p.length c4] 138)).cell? ⟨r, 3, none⟩ = some (.slice la m.loose.length lc) := (World.cell?_alloc_lt w7.drew _ ⟨r, 3, none⟩ hr7).trans r7
  have HRUN := hyd hrun
  have HPO := hyd hpost
  clear hrun hpost hb7 hbx7 hb8 hw7 H5 HLT HK05 HBX5 HO5 HDO h6 k6 q1 q2 hf hl hll hpl
  go_wp2_with fail
  go_region_law (refine step_append_run rfl _ _ _ _ rfl rfl rfl HRUN.out ?_)
  all_goals
   go_wp2_with fail
   go_ret
   exact HPO.out
theorem RefIs.quiet {F : Nat → Prop} {w w1 : World} {r : Nat} {m : DM} (h : RefIs F w r m) (hk : Keeps (fun _ => False) w w1) : RefIs (Ext F w w1) w1 r m := by
 obtain ⟨vn, vs, vl, h⟩ := h
 exact ⟨vn, vs, vl, h.quiet hk (fun b hb _ => .inl hb) (ext_lt h.lt hk.size)⟩
theorem rstep_calls {F : Nat → Prop} {w : World} {r : Nat} {m : DM} (h : RefIs F w r m) (c : Ch) {pv : Value} (hp : ∀ w', Keeps F w w' → Reads w' pv c.p) (hk : 0 ≤ c.kind ∧ c.kind ≤ 3) (hp0 : c.kind ≠ 1 → c.p = []) (hs : FSorted m.now) (hf : m.fuse ≤ 9223372036854775807)
  (hl : m.now.length < 549755813888) (hll : m.loose.length < 1099511627776) (hu : (used m.now : Int) ≤ m.room) (hr0 : 0 ≤ m.room) (hr1 : m.room ≤ 67108864) :
  Calls Tryz.prog 58 #[.pointer (some ⟨r, 0, none⟩), .agg #[.int .i64 c.kind, .string c.a, .string c.b, pv]] w (RStepPost F w r (stepOf m c)) := by
 have hi := h
 obtain ⟨vn, vs, vl, h⟩ := h
 have hform := (hp w (Keeps.refl _ _)).form
 have hk1 : Keeps (fun _ => False) w (w.alloc (.cells #[.int .i64 c.kind, .string c.a, .string c.b, pv] 138)) := (Keeps.refl _ w).alloc _
 have h1 := h.quiet hk1 (G := F) (fun _ h _ => h) (fun b hb => by have := h.lt b hb; have := hk1.size; omega)
 have c5 := h1.cells.c5
 unfold stepOf
 cases hd : m.down with
 | true =>
  rw [hd] at c5
  refine (rstep_down c.kind c.a c.b pv c5).out.mono ?_
  rintro e w' ⟨rfl, rfl⟩
  exact ⟨rfl, hi.quiet hk1, hk1.any⟩
 | false =>
  rw [hd] at c5
  rw [if_neg (by simp)]
  have hmay := rmay_calls h1 c hk (pv := pv) (by obtain ⟨a, k, e, _⟩ := hform; exact ⟨a, k, e⟩) hl (by omega) hr0 hr1
  by_cases h0 : mayOf m c = 0
  ·rw [if_pos h0]
   rw [h0] at hmay
   have hm := mayOf_may hk h0
   by_cases hfz : m.fuse = 0
   ·refine (rstep_dead c.kind c.a c.b pv (fun w2 => Keeps (fun _ => False) (w.alloc (.cells #[.int .i64 c.kind, .string c.a, .string c.b, pv] 138)) w2) (fun w3 => RefIs (Ext F w w3) w3 r (spendOf m).2 ∧ Keeps F w w3) c5 hmay (fun w2 hk2 => ?_)).mono ?_
    ·have h2 := h1.quiet hk2 (G := F) (fun _ h _ => h) (fun b hb => by have := h.lt b hb; have := hk1.size; have := hk2.size; omega)
     obtain ⟨w3, hpow, h3, k3, z3⟩ := rpower_runs h2 hf
     rw [show (!decide (m.fuse = 0)) = false by simp [hfz]] at hpow
     refine hpow.out.mono ?_
     rintro e w' ⟨rfl, rfl⟩
     have hz1 := hk1.size
     have hz2 := hk2.size
     have hz3 := k3.size
     exact ⟨rfl, ⟨vn, vs, vl, h3.quiet (Keeps.refl _ w3) (fun b hb _ => .inl hb) (ext_lt h.lt (by omega))⟩, ((hk1.trans hk2 (fun _ _ e => e)).any (F := F)).trans k3 (fun b _ e => by rw [e]; exact h.fr)⟩
    ·rintro e w3 ⟨rfl, h3, k3⟩
     have e1 : doesOf m c = (5, (spendOf m).2) := by unfold doesOf spendOf; rw [if_pos hfz, if_pos hfz]
     rw [e1]
     exact ⟨rfl, h3, k3⟩
   ·have hpl : c.p.length ≤ 1048576 := by
     by_cases hk' : c.kind = 1
     ·unfold mayOf at h0
      rw [if_neg (by omega)] at h0
      split at h0
      ·cases h0
      ·by_cases hb : (1048576 : Int) < (c.p.length : Int)
       ·simp [hb] at h0
       ·omega
     ·rw [hp0 hk']; simp
    have hg := used_get hs.nodup c.a
    exact rstep_goes h c hp hs hm hd hfz hf hl hll (fun _ => by omega) (by omega) hmay
  ·rw [if_neg h0]
   refine (rstep_refused c.kind c.a c.b pv (mayOf m c) (by simpa using h0) (fun w2 => Keeps (fun _ => False) (w.alloc (.cells #[.int .i64 c.kind, .string c.a, .string c.b, pv] 138)) w2) c5 hmay).mono ?_
   rintro e w2 ⟨rfl, hk2⟩
   have hkk := hk1.trans hk2 (fun _ _ e => e)
   exact ⟨rfl, hi.quiet hkk, hkk.any⟩
theorem length_fins (fs : FS) (f : ByteArray × List UInt8) : (fins fs f).length = fs.length + 1 := by
 rw [(fins_perm f fs).length_eq]; rfl
theorem length_doCh (fs : FS) (c : Ch) : (doCh fs c).length ≤ fs.length + 1 := by
 have h1 : ∀ n b, (fput fs n b).length ≤ fs.length + 1 := fun n b => by
  unfold fput
  rw [length_fins]
  have : (fdel fs n).length ≤ fs.length := List.length_filter_le _ _
  omega
 have h2 : ∀ l n, (fdel l n).length ≤ l.length := fun l n => List.length_filter_le _ _
 unfold doCh
 split
 ·exact h1 _ _
 ·split
  ·exact h1 _ _
  ·split
   ·exact Nat.le_trans (h2 _ _) (Nat.le_succ _)
   ·split
    ·split
     ·exact h1 _ _
     ·exact Nat.le_trans (h2 _ _) (h1 _ _)
    ·exact Nat.le_succ _
theorem length_fold : ∀ (l : List Ch) (fs : FS), (l.foldl doCh fs).length ≤ fs.length + l.length
 | [], fs => Nat.le_refl _
 | c :: l, fs => by
  have h1 := length_fold l (doCh fs c)
  have h2 := length_doCh fs c
  rw [List.foldl_cons, List.length_cons]
  omega
def NamesOk (fs : FS) : Prop := ∀ p ∈ fs, p.1.size ≤ 160
theorem NamesOk.fdel {fs : FS} (h : NamesOk fs) (n : ByteArray) : NamesOk (fdel fs n) := fun p hp => h p (List.mem_filter.1 hp).1
theorem NamesOk.fput {fs : FS} (h : NamesOk fs) (n : ByteArray) (b : List UInt8) (hn : n.size ≤ 160) : NamesOk (fput fs n b) := fun p hp => by
 rcases List.mem_cons.1 ((fins_perm (n, b) (Go.Proofs.YtddnikpdmjogiaaGreat.fdel fs n)).mem_iff.1 hp) with rfl | hp
 ·exact hn
 ·exact h.fdel n p hp
def ChOk (c : Ch) : Prop := c.a.size ≤ 160 ∧ c.b.size ≤ 160
theorem NamesOk.doCh {fs : FS} (h : NamesOk fs) {c : Ch} (hc : ChOk c) : NamesOk (doCh fs c) := by
 unfold Go.Proofs.YtddnikpdmjogiaaGreat.doCh
 split
 ·exact h.fput _ _ hc.1
 ·split
  ·exact h.fput _ _ hc.1
  ·split
   ·exact h.fdel _
   ·split
    ·split
     ·exact h.fput _ _ hc.2
     ·exact (h.fput _ _ hc.2).fdel _
    ·exact h
theorem NamesOk.fold : ∀ (l : List Ch) {fs : FS}, NamesOk fs → (∀ c ∈ l, ChOk c) → NamesOk (l.foldl Go.Proofs.YtddnikpdmjogiaaGreat.doCh fs)
 | [], _, h, _ => h
 | c :: l, _, h, hl => NamesOk.fold l (h.doCh (hl c (List.mem_cons_self ..))) (fun x hx => hl x (List.mem_cons_of_mem _ hx))
structure Tidy (m : DM) (n t : Nat) : Prop where
 good : Good m n
 ssure : FSorted m.sure
 len : m.sure.length + m.loose.length ≤ t
 nsure : NamesOk m.sure
 nloose : ∀ c ∈ m.loose, ChOk c
 may : ∀ k c, m.loose[k]? = some c → May ((m.loose.take k).foldl doCh m.sure) c
theorem Tidy.snow {m : DM} {n t : Nat} (h : Tidy m n t) : FSorted m.now := by rw [h.good.now]; exact FSorted.fold _ h.ssure
theorem Tidy.names {m : DM} {n t : Nat} (h : Tidy m n t) : NamesOk m.now := by rw [h.good.now]; exact NamesOk.fold _ h.nsure h.nloose
theorem Tidy.lnow {m : DM} {n t : Nat} (h : Tidy m n t) : m.now.length ≤ t := by
 rw [h.good.now]
 exact Nat.le_trans (length_fold _ _) h.len
theorem Tidy.new {room : Int} (h0 : 0 ≤ room) (h1 : room ≤ 67108864) : Tidy (newOf room) 0 0 :=
 ⟨Good.new h0 h1, FSorted.nil, by simp [newOf], fun p hp => by simp [newOf] at hp, fun c hc => by simp [newOf] at hc, fun k c hc => by simp [newOf] at hc⟩
theorem Tidy.mono {m : DM} {n t n' t' : Nat} (h : Tidy m n t) (hn : n ≤ n') (ht : t ≤ t') : Tidy m n' t' := ⟨h.good.mono hn, h.ssure, Nat.le_trans h.len ht, h.nsure, h.nloose, h.may⟩
theorem Tidy.does {m : DM} {n t : Nat} (h : Tidy m n t) (c : Ch) (hm : May m.now c) (hc : ChOk c) (hp : c.p.length ≤ 1048576) (hu : c.kind = 1 → (used m.now : Int) + (c.p.length : Int) ≤ m.room) : Tidy (doesOf m c).2 (n + 1) (t + 1) := by
 have hg := h.good.does c hm.1 hp hu
 have e3 : (spendOf m).2.sure = m.sure := by unfold spendOf; split; rfl; split <;> rfl
 unfold doesOf at hg ⊢
 split at hg
 ·rename_i hf
  rw [if_pos hf]
  exact ⟨hg, h.ssure, by have := h.len; simp only; omega, h.nsure, h.nloose, h.may⟩
 ·rename_i hf
  rw [if_neg hf]
  refine ⟨hg, ?_, ?_, ?_, ?_, ?_⟩ <;> simp only [e3]
  ·exact h.ssure
  ·have := h.len; simp; omega
  ·exact h.nsure
  ·intro x hx
   rcases List.mem_append.1 hx with hx | hx
   ·exact h.nloose x hx
   ·simp at hx; subst hx; exact hc
  ·intro k x hx
   by_cases hk : k < m.loose.length
   ·rw [List.getElem?_append_left hk] at hx
    rw [List.take_append_of_le_length (by omega)]
    exact h.may k x hx
   ·have hk2 : k = m.loose.length := by
     have := (List.getElem?_eq_some_iff.1 hx).1
     simp at this; omega
    subst hk2
    simp at hx
    subst hx
    rw [List.take_left, ← h.good.now]
    exact hm
theorem isName_size {s : ByteArray} (h : isName s = true) : s.size ≤ 160 := by
 unfold isName at h
 have := (Bool.and_eq_true_iff.1 h).2
 have := of_decide_eq_true this
 omega
theorem Tidy.step {m : DM} {n t : Nat} (h : Tidy m n t) (c : Ch) (hk : 0 ≤ c.kind ∧ c.kind ≤ 3) (hp : c.kind ≠ 1 → c.p = []) (hb : c.kind ≠ 3 → c.b.size ≤ 160) : Tidy (stepOf m c).2 (n + 1) (t + 1) := by
 unfold stepOf
 split
 ·exact h.mono (Nat.le_succ _) (Nat.le_succ _)
 ·split
  ·rename_i h0
   have hm := mayOf_may hk h0
   have hin : c.kind ≠ 0 → c.a.size ≤ 160 := fun hk0 => by
    obtain ⟨i, _, hi⟩ := findI_get (hm.2.2 hk0)
    exact h.names _ (List.mem_of_getElem? hi)
   unfold mayOf at h0
   refine h.does c hm ⟨?_, ?_⟩ ?_ ?_
   ·by_cases hk0 : c.kind = 0
    ·rw [if_pos hk0] at h0
     split at h0
     ·rename_i h2; exact isName_size h2
     ·cases h0
    ·exact hin hk0
   ·by_cases hk3 : c.kind = 3
    ·cases hn : isName c.b with
     | true => exact isName_size hn
     | false =>
      exfalso
      by_cases hf : findI m.now c.a < 0
      ·simp [hk3, hf] at h0
      ·simp [hk3, hf, hn] at h0
    ·exact hb hk3
   ·by_cases hk1 : c.kind = 1
    ·rw [if_neg (by omega)] at h0
     split at h0
     ·cases h0
     ·split at h0
      ·cases h0
      ·omega
    ·rw [hp hk1]; simp
   ·intro hk1
    rw [if_neg (by omega)] at h0
    split at h0
    ·cases h0
    ·split at h0
     ·cases h0
     ·split at h0
      ·cases h0
      ·omega
  ·exact h.mono (Nat.le_succ _) (Nat.le_succ _)
theorem Tidy.setFuse {m : DM} {n t : Nat} (h : Tidy m n t) (k : Int) (hk : k ≤ 9223372036854775807) : Tidy (fuseOf m k).2 n t := by
 have hg := h.good.setFuse k hk
 unfold fuseOf at hg ⊢
 split
 ·exact h
 ·rename_i hd
  rw [if_neg hd] at hg
  exact ⟨hg, h.ssure, h.len, h.nsure, h.nloose, h.may⟩
theorem Tidy.sync {m : DM} {n t : Nat} (h : Tidy m n t) : Tidy (syncOf m).2 n t := by
 have hg := h.good.sync
 unfold syncOf at hg ⊢
 split
 ·exact h
 ·rename_i hd
  rw [if_neg hd] at hg
  split
  ·rename_i hf
   rw [if_pos hf] at hg
   exact ⟨hg, h.ssure, h.len, h.nsure, h.nloose, h.may⟩
  ·rename_i hf
   rw [if_neg hf] at hg
   refine ⟨hg, FSorted.fold _ h.ssure, ?_, NamesOk.fold _ h.nsure h.nloose, fun c hc => by simp [synced] at hc, fun k c hc => by simp [synced] at hc⟩
   have h1 := length_fold m.loose m.sure
   have := h.len
   simp only [synced, List.length_nil]
   omega
theorem Tidy.crash {m : DM} {n t : Nat} (h : Tidy m n t) (keep part : Int) : Tidy (crashOf m keep part) 0 t := by
 have hg := h.good.crash keep part
 have hle := clampI_le keep m.loose.length
 have hsub : ∀ c ∈ m.loose.take (clampI keep m.loose.length), ChOk c := fun c hc => h.nloose c (List.mem_of_mem_take hc)
 have h1 : FSorted (crashFs m keep part) ∧ NamesOk (crashFs m keep part) ∧ (crashFs m keep part).length ≤ t := by
  have hl := length_fold (m.loose.take (clampI keep m.loose.length)) m.sure
  have hlen := h.len
  rw [List.length_take] at hl
  unfold crashFs
  simp only
  split
  ·rename_i c hc
   have hlt := (List.getElem?_eq_some_iff.1 hc).1
   split
   ·refine ⟨(FSorted.fold _ h.ssure).doCh _, (NamesOk.fold _ h.nsure hsub).doCh (h.nloose c (List.mem_of_getElem? hc)), ?_⟩
    have := length_doCh ((m.loose.take (clampI keep m.loose.length)).foldl doCh m.sure) { c with p := c.p.take (clampI part c.p.length) }
    omega
   ·exact ⟨FSorted.fold _ h.ssure, NamesOk.fold _ h.nsure hsub, by omega⟩
  ·exact ⟨FSorted.fold _ h.ssure, NamesOk.fold _ h.nsure hsub, by omega⟩
 exact ⟨hg, h1.1, by simpa [crashOf, crashed] using h1.2.2, h1.2.1, fun c hc => by simp [crashOf, crashed] at hc, fun k c hc => by simp [crashOf, crashed] at hc⟩
end Go.Proofs.YtddnikpdmjogiaaGreat
namespace Go.Proofs.YtddnikpdmjogiaaGreat
set_option linter.unusedVariables false
open Go.RowKit Go.MapKept Go.Deep
def rRef (B r : Nat) (m : DM) : Res B := ⟨fun F w => RefIs F w r m, fun _ _ _ h hk => h.keep (fun b hb => hk b (.inl hb))⟩
def ROwn (w : World) (r : Nat) (rs : List (Res w.heap.size)) (res : Int × DM) (e : Ending) (w' : World) : Prop := e = .returned (.int .i64 res.1) ∧ Own w w' (rRef w.heap.size r res.2 :: rs)
theorem Own.rnew {w wr : World} {rs : List (Res w.heap.size)} (h : Own w wr rs) (room : Int) :
  ∃ r w', Runs 7 #[.int .i64 room] wr (.pointer (some ⟨r, 0, none⟩)) w' ∧ Own w w' (rRef w.heap.size r (newOf room) :: rs) := by
 obtain ⟨r, w', hr, hd, k⟩ := rnew_runs wr room
 exact ⟨r, w', hr, h.add k (r := rRef _ r (newOf room)) hd (fun b hb => by rcases hb with hb | hb; exact hb.elim; exact hb)⟩
theorem Own.rstep {w wr : World} {r : Nat} {m : DM} {rs : List (Res w.heap.size)} (h : Own w wr (rRef w.heap.size r m :: rs)) {n t : Nat} (ht : Tidy m n t) (hn : n < 1099511627776) (htt : t < 549755813888) (c : Ch) (hk : 0 ≤ c.kind ∧ c.kind ≤ 3) (hp0 : c.kind ≠ 1 → c.p = []) {pv : Value}
  (hp : ∀ (F : Nat → Prop) (w' : World), (∀ b, F b → w.heap.size ≤ b ∧ b < wr.heap.size) → Keeps F wr w' → Reads w' pv c.p) :
  Calls Tryz.prog 58 #[.pointer (some ⟨r, 0, none⟩), .agg #[.int .i64 c.kind, .string c.a, .string c.b, pv]] wr (ROwn w r rs (stepOf m c)) := by
 obtain ⟨F, h1, h2, back⟩ := h.open1
 refine (rstep_calls (h1 : RefIs F wr r m) c (fun w' hk' => hp F w' h2 hk') hk hp0 ht.snow ht.good.fuse (Nat.lt_of_le_of_lt ht.lnow htt) (ht.good.loose hn) ht.good.unow ht.good.room0 ht.good.room1).mono ?_
 rintro e w' ⟨he, h3, h4⟩
 exact ⟨he, back w' (rRef _ r (stepOf m c).2) h4 h3⟩
theorem Own.ref {w wr : World} {r : Nat} {m : DM} {rs : List (Res w.heap.size)} (h : Own w wr rs) (hm : rRef w.heap.size r m ∈ rs) : ∃ F : Nat → Prop, RefIs F wr r m := by
 obtain ⟨F, h1, _⟩ := h.mem hm
 exact ⟨F, h1⟩
theorem reads_nil (w : World) : Reads w (.slice none 0 0) [] := .inl ⟨rfl, rfl⟩
variable {H : Type} {enc : TypeId × Value → H}
theorem in_str {W : World} {n : Nat} {v : Value} {y : DataW H × List MemPlace} (h : DataW.trod enc Tryz.prog W 0 (fun _ => true) true n 9 [v] = some y) : ∃ s : ByteArray, v = .string s ∧ s.size ≤ maxLen := by
 obtain ⟨s, hs, _, hz⟩ := DataW.trod_string Tryz.underlying9 h
 simp at hs
 exact ⟨s, hs, hz⟩
structure Op9 where
 kind : Int
 a : ByteArray
 b : ByteArray
 p : List UInt8
 n : Int
 m : Int
end Go.Proofs.YtddnikpdmjogiaaGreat
