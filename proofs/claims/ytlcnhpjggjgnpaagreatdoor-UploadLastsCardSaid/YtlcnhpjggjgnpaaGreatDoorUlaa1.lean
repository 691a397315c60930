/- A part of the proof. -/
import Derived.Test.YtlcnhpjggjgnpaaGreatDoorUlaa0
import Derived.Maps.AppendAt
namespace Go.Proofs.YtlcnhpjggjgnpaaGreatDoor
open Go.RowKit Go.MapKept
open Go.ChangeMaps (setBlock)
theorem clone_nil (w : World) : Calls Tryz.prog 111 #[.slice none 0 0] w fun e w' => e = .returned (.slice none 0 0) ∧ w = w' := by
 have hq := Lib.run_eql_slice_nil (P := Tryz.prog) w 22 5 none 0 0 0 0 Tryz.underlying22
 go_enter Tryz.func111, Tryz.ntmps111
 go_wp2
 go_ret
 exact ⟨rfl, rfl⟩
theorem clone_raw (w w1 : World) (a : Addr) (n c : Nat) (v' : Value)
  (hrun : (Builtin.append_ #[22, 22] 22 #[.slice (some ⟨w.heap.size, 0, none⟩) 0 0, .slice (some a) n c]).run Tryz.prog (w.alloc (.cells #[] 5)) = .ok v' w1) :
  Calls Tryz.prog 111 #[.slice (some a) n c] w fun e w' => e = .returned v' ∧ w1 = w' := by
 have hq := Lib.run_eql_slice_nil (P := Tryz.prog) w 22 5 (some a) n c 0 0 Tryz.underlying22
 have Hrun := Lib.hid hrun
 clear hrun
 go_enter Tryz.func111, Tryz.ntmps111
 go_wp2_with (at_builtin; refine wpList_append_run rfl _ _ _ _ rfl rfl rfl Hrun.out ?_)
 go_ret
 exact ⟨rfl, rfl⟩
theorem clone_runs {w : World} {v : Value} {l : List UInt8} (h : Reads w v l) (hl : l.length ≤ 140737488355328) :
  ∃ v' w', Runs 111 #[v] w v' w' ∧ Bytes (fun b => w.heap.size ≤ b) w' v' l ∧ Keeps (fun _ => False) w w' := by
 obtain ⟨a, c, rfl, h1, h2⟩ := h.form
 cases a with
 | none =>
  rcases h with ⟨e, rfl⟩ | ⟨x, c', e, _⟩
  ·simp only [Value.slice.injEq] at e
   obtain ⟨_, _, rfl⟩ := e
   exact ⟨_, _, clone_nil w, Bytes.nil _ _, Keeps.refl _ _⟩
  ·cases e
 | some a =>
  obtain ⟨i0, hi, hz0, hz1, hz2⟩ := info_parts info_u8
  have hn : Bytes (fun b => b = w.heap.size) (w.alloc (.cells #[] 5)) (.slice (some ⟨w.heap.size, 0, none⟩) 0 0) [] :=
   .inr ⟨_, 0, 0, _, _, rfl, rfl, heap_alloc_new w _, Nat.le_refl _, Nat.zero_le _, by simp, fun i c hi => by simp at hi⟩
  have hk : Reads (w.alloc (.cells #[] 5)) (.slice (some a) l.length c) l := h.keep ((Keeps.refl _ w).alloc _)
  obtain ⟨v', w1, hrun, hB, hk1, _⟩ := append_full (P := Tryz.prog) 22 22 22 5 i0 _ Tryz.underlying22 Tryz.underlying22 hi hz0 hz1 hz2 rfl hn hk rfl (by simpa using hl)
  refine ⟨v', w1, clone_raw w w1 a _ c v' hrun, ?_, ((Keeps.refl _ w).alloc _).trans hk1 (fun _ _ e => e)⟩
  rw [List.nil_append] at hB
  exact hB.keep (KeepU8.refl _ _) (fun b hb _ => by rcases hb with hb | hb <;> (try simp at hb) <;> omega)
theorem info_change : (Tryz.prog.info? 166).map (fun i => (i.zero, i.size, i.bytes)) = some (some (.agg #[.int .i64 0, .string ⟨#[]⟩, .string ⟨#[]⟩, .slice none 0 0]), 4, 64) := by kernel_rfl
theorem chCells_snoc : ∀ (ps : List Value) (cs : List Ch) (p : Value) (c : Ch), ps.length = cs.length → chCells (ps ++ [p]) (cs ++ [c]) = chCells ps cs ++ [.int .i64 c.kind, .string c.a, .string c.b, p]
 | [], [], _, _, _ => rfl
 | q :: ps, d :: cs, p, c, h => by simp [chCells, chCells_snoc ps cs p c (by simpa using h)]
 | [], _ :: _, _, _, h => by simp at h
 | _ :: _, [], _, _, h => by simp at h
theorem load_change (w : World) (b : Nat) (c0 c1 c2 c3 : Value) (h : w.heap[b]? = some (.cells #[c0, c1, c2, c3] 166 (0, 0))) :
  w.cell? ⟨b, 0, none⟩ = some c0 ∧ w.cell? ⟨b, 1, none⟩ = some c1 ∧ w.cell? ⟨b, 2, none⟩ = some c2 ∧ w.cell? ⟨b, 3, none⟩ = some c3 :=
 ⟨cell_at h rfl, cell_at h rfl, cell_at h rfl, cell_at h rfl⟩
set_option maxRecDepth 100000 in
theorem does_raw (w w1 w2 w3 : World) (d bn : Nat) (k : Int) (x y : ByteArray) (pv : Value) (la va : Option Addr) (ln lc vn vc : Nat)
  (Hs : Runs 112 #[.pointer (some ⟨d, 0, none⟩)] (w.alloc (.cells #[.int .i64 k, .string x, .string y, pv] 166)) (.int .i64 0) w1)
  (Hd : Runs 77 #[.map (some bn), .agg #[.int .i64 k, .string x, .string y, pv]] w1.drew (.tuple #[]) w2)
  (a1 : w1.cell? ⟨d, 1, none⟩ = some (.map (some bn))) (b1 : w1.heap[w.heap.size]? = some (.cells #[.int .i64 k, .string x, .string y, pv] 166 (0, 0)))
  (a2 : w2.cell? ⟨d, 3, none⟩ = some (.slice la ln lc)) (b2 : w2.heap[w.heap.size]? = some (.cells #[.int .i64 k, .string x, .string y, pv] 166 (0, 0)))
  (hdlt : d < w2.heap.size)
  (hrun : (Builtin.append_ #[133, 133] 133 #[.slice la ln lc, .slice (some ⟨w2.heap.size, 0, none⟩) 1 1]).run Tryz.prog (w2.alloc (.cells #[.int .i64 k, .string x, .string y, pv] 166)).drew = .ok (.slice va vn vc) w3)
  (a3 : w3.cell? ⟨d, 3, none⟩ = some (.slice la ln lc)) (f3 : w3.frozen? ⟨d, 3, none⟩ = false) :
  Runs 105 #[.pointer (some ⟨d, 0, none⟩), .agg #[.int .i64 k, .string x, .string y, pv]] w (.int .i64 0) (w3.setCell ⟨d, 3, none⟩ (.slice va vn vc)) := by
 unfold Runs
 obtain ⟨p10, p11, p12, p13⟩ := load_change w1 _ _ _ _ _ b1
 obtain ⟨p20, p21, p22, p23⟩ := load_change w2 _ _ _ _ _ b2
 have a4 : (w2.alloc (.cells #[.int .i64 k, .string x, .string y, pv] 166)).cell? ⟨d, 3, none⟩ = some (.slice la ln lc) := (World.cell?_alloc_lt w2 _ ⟨d, 3, none⟩ hdlt).trans a2
 have Hrun := Lib.hid hrun
 clear hrun b1 b2
 go_enter Tryz.func105, Tryz.ntmps105
 go_wp2_with (go_at_call 112; refine Hs.out.mono ?_; rintro e w' ⟨rfl, rfl⟩)
 go_still_tail 5, (by kernel_rfl)
 change wpList _ _ _ _ _ w1.drew
 go_wp2_with (go_at_call 77; refine Hd.out.mono ?_; rintro e w' ⟨rfl, rfl⟩)
 go_region_law (refine step_append_run rfl _ _ _ _ rfl rfl rfl Hrun.out ?_)
 all_goals
  go_wp2
  go_ret
  exact ⟨rfl, rfl⟩
theorem does_dead (w w1 : World) (d : Nat) (k : Int) (x y : ByteArray) (pv : Value)
  (Hs : Runs 112 #[.pointer (some ⟨d, 0, none⟩)] (w.alloc (.cells #[.int .i64 k, .string x, .string y, pv] 166)) (.int .i64 5) w1) :
  Runs 105 #[.pointer (some ⟨d, 0, none⟩), .agg #[.int .i64 k, .string x, .string y, pv]] w (.int .i64 5) w1 := by
 unfold Runs
 go_enter Tryz.func105, Tryz.ntmps105
 go_wp2_with (go_at_call 112; refine Hs.out.mono ?_; rintro e w' ⟨rfl, rfl⟩)
 go_ret
 exact ⟨rfl, rfl⟩
def Ext (F : Nat → Prop) (w w' : World) : Nat → Prop := fun b => F b ∨ (w.heap.size ≤ b ∧ b < w'.heap.size)
theorem DiskAt.wider {F G : Nat → Prop} {w : World} {d bn bs : Nat} {vl : Value} {m : DM} (h : DiskAt F w d bn bs vl m) (hFG : ∀ b, F b → G b) (hlt : ∀ b, G b → b < w.heap.size) : DiskAt G w d bn bs vl m :=
 ⟨h.blk, hFG _ h.fd, hFG _ h.fbn, hFG _ h.fbs, h.ne, h.now.keep rfl (KeepU8.refl _ _) (fun b hb _ => hFG b hb), h.sure.keep rfl (KeepU8.refl _ _) (fun b hb _ => hFG b hb), h.loose.keep (KeepU8.refl _ _) (fun _ _ => rfl) (fun b hb _ => hFG b hb), hlt⟩
theorem spend_runs {F : Nat → Prop} {w : World} {d bn bs : Nat} {vl : Value} {m : DM} (h : DiskAt F w d bn bs vl m) (hf : m.fuse ≤ 9223372036854775807) :
  ∃ w', Runs 112 #[.pointer (some ⟨d, 0, none⟩)] w (.int .i64 (spendOf m).1) w' ∧ DiskAt F w' d bn bs vl (spendOf m).2 ∧ Keeps (fun b => b = d) w w' ∧ w'.heap.size = w.heap.size := by
 have hr := spend_raw w d m.fuse _ h.cells.c4 h.cells.c5 (h.cells.f0 4) (h.cells.f0 5) hf
 unfold spendOf
 by_cases h0 : m.fuse = 0
 ·simp only [h0, if_true] at hr ⊢
  refine ⟨w.setCell ⟨d, 5, none⟩ (.bool true), hr.mono (fun e w' h => ⟨h.1, h.2.symm⟩), h.reset ?_ (fun b hb => Below.heap_setCell _ _ _ _ hb) rfl rfl rfl, (Keeps.refl (fun b => b = d) w).setCell (p := ⟨d, 5, none⟩) (fun _ => rfl) _, by simp⟩
  rw [heap_setCell_eq h.blk]; simp [h0]
 ·by_cases h1 : 0 < m.fuse
  ·simp only [h0, h1, if_true, if_false] at hr ⊢
   refine ⟨w.setCell ⟨d, 4, none⟩ (.int .i64 (m.fuse - 1)), hr.mono (fun e w' h => ⟨h.1, h.2.symm⟩), h.reset ?_ (fun b hb => Below.heap_setCell _ _ _ _ hb) rfl rfl rfl, (Keeps.refl (fun b => b = d) w).setCell (p := ⟨d, 4, none⟩) (fun _ => rfl) _, by simp⟩
   rw [heap_setCell_eq h.blk]; simp
  ·simp only [h0, h1, if_false] at hr ⊢
   exact ⟨w, hr.mono (fun e w' h => ⟨h.1, h.2.symm⟩), h, Keeps.refl _ _, rfl⟩
def doesOf (m : DM) (c : Ch) : Int × DM := if m.fuse = 0 then (5, { m with down := true }) else (0, { (spendOf m).2 with now := doCh m.now c, loose := m.loose ++ [c] })
theorem ownsRow_type {w : World} {base e size n : Nat} {v : Value} {xs : List Value} (h : w.ownsRow base e size v n xs) {b : Nat} (hb : v.ownBlock = some b) : ∃ cur, w.heap[b]? = some (.cells cur e (0, 0)) := by
 rcases h.2 with ⟨rfl, _⟩ | ⟨g, cap, cur, rfl, _, hg, _⟩
 ·cases hb
 ·cases hb; exact ⟨cur, hg⟩
theorem ownsRow_slice {w : World} {base e size n : Nat} {v : Value} {xs : List Value} (h : w.ownsRow base e size v n xs) : ∃ a c, v = .slice a n c := by
 rcases h.2 with ⟨rfl, rfl⟩ | ⟨g, cap, cur, rfl, _⟩
 ·exact ⟨_, _, rfl⟩
 ·exact ⟨_, _, rfl⟩
theorem does_calls {F : Nat → Prop} {w : World} {d : Nat} {m : DM} (h : DiskIs F w d m) (c : Ch) {pv : Value} (hp : Bytes F w pv c.p) (hfit : Fits m.now c) (hf : m.fuse ≤ 9223372036854775807) (hl : m.loose.length < 1099511627776) :
  ∃ w', Runs 105 #[.pointer (some ⟨d, 0, none⟩), .agg #[.int .i64 c.kind, .string c.a, .string c.b, pv]] w (.int .i64 (doesOf m c).1) w' ∧ DiskIs (Ext F w w') w' d (doesOf m c).2 ∧ Keeps F w w' := by
 obtain ⟨bn, bs, vl, h⟩ := h
 have hlt := h.lt
 have h0 : DiskAt F (w.alloc (.cells #[.int .i64 c.kind, .string c.a, .string c.b, pv] 166)) d bn bs vl m := h.keep (fun b hb => Below.heap_alloc _ _ _ (hlt b hb))
 have hp0 : Bytes F (w.alloc (.cells #[.int .i64 c.kind, .string c.a, .string c.b, pv] 166)) pv c.p := hp.keep ((KeepU8.refl F w).alloc _) (fun _ h _ => h)
 obtain ⟨w1, hs, h1, k1, z1⟩ := spend_runs h0 hf
 have hdlt := hlt d h.fd
 have z1' : w1.heap.size = w.heap.size + 1 := by rw [z1]; simp
 by_cases hz : m.fuse = 0
 ·have e1 : (spendOf m).1 = 5 := by simp [spendOf, hz]
  have e2 : (spendOf m).2 = { m with down := true } := by simp [spendOf, hz]
  rw [e1] at hs
  rw [e2] at h1
  refine ⟨w1, ?_, ?_, ?_⟩
  ·rw [show (doesOf m c).1 = 5 by simp [doesOf, hz]]
   exact does_dead w w1 d c.kind c.a c.b pv hs
  ·rw [show (doesOf m c).2 = { m with down := true } by simp [doesOf, hz]]
   exact ⟨bn, bs, vl, h1.wider (fun b hb => .inl hb) (fun b hb => by rcases hb with hb | hb; exact h1.lt b hb; exact hb.2)⟩
  ·exact ((Keeps.refl F w).alloc _).trans k1 (fun b _ e => by subst e; exact h.fd)
 ·have e1 : (spendOf m).1 = 0 := by simp only [spendOf, hz, if_false]; split <;> rfl
  have e2 : (spendOf m).2.now = m.now := by simp only [spendOf, hz, if_false]; split <;> rfl
  have e3 : (spendOf m).2.loose = m.loose := by simp only [spendOf, hz, if_false]; split <;> rfl
  rw [e1] at hs
  have hb1 : w1.heap[w.heap.size]? = some (.cells #[.int .i64 c.kind, .string c.a, .string c.b, pv] 166 (0, 0)) := k1.at (heap_alloc_new w _) (by omega)
  have hp1 : Bytes F w1.drew pv c.p := hp0.keep ((KeepU8.of_keeps k1 (fun g cs fz _ e hg => by subst e; rw [h0.blk] at hg; simp at hg)).drew) (fun _ h _ => h)
  have hn1 : MapFs F w1.drew bn m.now := by rw [← e2]; exact h1.now.keep rfl (KeepU8.refl _ _).drew (fun _ h _ => h)
  obtain ⟨w2, hd, h2, k2⟩ := do_calls hn1 c hp1 hfit
  have k2 := k2.undrew
  have z2 := k2.size
  have hdn : d ≠ bn := fun e => by subst e; exact h.now.notU8 _ _ _ h.blk
  have hd2 : w2.heap[d]? = _ := k2.at h1.blk hdn
  have hb2 : w2.heap[w.heap.size]? = _ := k2.at hb1 (by have := hlt bn h.fbn; omega)
  have hl2 : ChsAt F w2 vl m.loose := by
   rw [← e3]
   refine h1.loose.keep (KeepU8.of_keeps k2 (fun g cs fz _ e hg => by subst e; exact h1.now.notU8 _ _ _ hg)) (fun b hb => ?_) (fun _ h _ => h)
   obtain ⟨_, _, hr, _⟩ := h1.loose
   obtain ⟨cur, hg⟩ := ownsRow_type hr hb
   exact k2.block b (lt_of_heap hg) (fun e => by subst e; exact h1.now.notU8 _ _ _ hg)
  obtain ⟨ps, r1, r2, r3⟩ := hl2
  obtain ⟨i0, hi, hz0, hz1, hz2⟩ := info_parts info_change
  have r2' : ((w2.alloc (.cells #[.int .i64 c.kind, .string c.a, .string c.b, pv] 166)).drew).ownsRow 0 166 4 vl m.loose.length (chCells ps m.loose) := (r2.alloc _).drew
  have hpv : pv.oneCell' = true := by obtain ⟨a, cap, rfl, _⟩ := hp.form; rfl
  obtain ⟨v', w3, hrun, r4, hg3, _, hat⟩ := run_append_own_at (P := Tryz.prog) ((w2.alloc (.cells #[.int .i64 c.kind, .string c.a, .string c.b, pv] 166)).drew) 0 133 133 166 i0 _ 4 64 Tryz.underlying133 hi hz0 hz1 hz2 rfl (by omega)
   vl m.loose.length (chCells ps m.loose) r2' ⟨w2.heap.size, 0, none⟩ 1 1 [.int .i64 c.kind, .string c.a, .string c.b, pv] rfl
   (fun j u hu => by
    rw [Addr.add_lit, Nat.zero_add]
    exact cell_at (fz := (0, 0)) (heap_alloc_new w2 (.cells #[.int .i64 c.kind, .string c.a, .string c.b, pv] 166)) (by simpa using hu))
   (by intro u hu; simp at hu; rcases hu with rfl | rfl | rfl | rfl <;> first | rfl | exact hpv) (by unfold maxLen; omega) (by omega) (Nat.zero_le _)
  obtain ⟨va, vc, rfl⟩ := ownsRow_slice r4
  obtain ⟨la, lc, rfl⟩ := ownsRow_slice r2
  have hrow : ∀ b, (Value.slice la m.loose.length lc).ownBlock = some b → ∃ cur, w2.heap[b]? = some (.cells cur 166 (0, 0)) := fun b hb => ownsRow_type r2 hb
  have k3 : Keeps (fun b => (Value.slice la m.loose.length lc).ownBlock = some b) w2 w3 := (((Keeps.refl _ w2).alloc _).drew).trans (Keeps.of_grown hg3) (fun _ _ h => h)
  have hd3 : w3.heap[d]? = _ := k3.at hd2 (fun e => by obtain ⟨cur, hc⟩ := hrow d e; rw [hd2] at hc; simp at hc)
  have ku2 : ∀ G, KeepU8 G w2 w3 := fun G => KeepU8.of_keeps k3 (fun g cs fz _ e hg => by obtain ⟨cur, hc⟩ := hrow g e; rw [hc] at hg; simp at hg)
  have hd2lt := lt_of_heap hd2
  have z3 := k3.size
  have key := does_raw w w1 w2 w3 d bn c.kind c.a c.b pv la va m.loose.length lc (m.loose.length + 1) vc hs hd h1.cells.c1 hb1 (cell_at hd2 rfl) hb2 hd2lt hrun (cell_at hd3 rfl) (free_at hd3 3)
  refine ⟨w3.setCell ⟨d, 3, none⟩ (.slice va (m.loose.length + 1) vc), ?_, ?_, ?_⟩
  rotate_left
  ·refine ⟨bn, bs, .slice va (m.loose.length + 1) vc, ?_⟩
   have ku3 : ∀ G, KeepU8 G w3 (w3.setCell ⟨d, 3, none⟩ (.slice va (m.loose.length + 1) vc)) := fun G => (KeepU8.refl G w3).setCell (fun cs fz e => by rw [hd3] at e; simp at e) _
   have ku1 : ∀ G, KeepU8 G w1 w2 := fun G => KeepU8.of_keeps k2 (fun g cs fz _ e hg => by subst e; exact h1.now.notU8 _ _ _ hg)
   have hne : ∀ b, b ≠ d → (w3.setCell ⟨d, 3, none⟩ (.slice va (m.loose.length + 1) vc)).heap[b]? = w3.heap[b]? := fun b hb => Below.heap_setCell _ _ _ _ hb
   have eF : ∀ b, F b → Ext F w (w3.setCell ⟨d, 3, none⟩ (.slice va (m.loose.length + 1) vc)) b := fun b hb => .inl hb
   have hds : bs ≠ d := fun e => by subst e; exact h.sure.notU8 _ _ _ h.blk
   have hmap : ∀ b fs G, MapFs G w2 b fs → w3.heap[b]? = w2.heap[b]? := fun b fs G hm => k3.block b hm.lt (fun e => by obtain ⟨cur, hc⟩ := hrow b e; exact hm.notU8 _ _ _ hc)
   have hs2 : MapFs F w2 bs m.sure := by
    have e4 : (spendOf m).2.sure = m.sure := by simp only [spendOf, hz, if_false]; split <;> rfl
    rw [← e4]
    exact h1.sure.keep (k2.block bs h1.sure.lt (fun e => h.ne e.symm)) (ku1 F) (fun _ h _ => h)
   rw [show (doesOf m c).2 = { (spendOf m).2 with now := doCh m.now c, loose := m.loose ++ [c] } by simp [doesOf, hz]]
   refine ⟨?_, eF d h.fd, eF bn h.fbn, eF bs h.fbs, h.ne, ?_, ?_, ?_, ?_⟩
   ·rw [heap_setCell_eq hd3]; simp
   ·exact h2.keep ((hne bn (Ne.symm hdn)).trans (hmap bn _ _ h2)) ((ku2 _).trans (ku3 _)) (fun b hb hb2 => by rcases hb with hb | hb; exact .inl hb; exact .inr ⟨by simp at hb; omega, by simp; omega⟩)
   ·have e4 : (spendOf m).2.sure = m.sure := by simp only [spendOf, hz, if_false]; split <;> rfl
    simp only [e4]
    exact hs2.keep ((hne bs hds).trans (hmap bs _ _ hs2)) ((ku2 _).trans (ku3 _)) (fun b hb _ => eF b hb)
   ·have hlen : ps.length = m.loose.length := r1.length
    refine ⟨ps ++ [pv], ?_, ?_, ?_⟩
    ·refine Rel2.append (r1.mono (fun p c' hpc => hpc.keep ((ku2 _).trans (ku3 _)) (fun b hb _ => eF b hb))) ⟨?_, trivial⟩
     exact hp1.keep (((ku1 F)).trans ((ku2 _).trans (ku3 _))) (fun b hb _ => eF b hb)
    ·rw [chCells_snoc _ _ _ _ hlen]
     simp only [List.length_append, List.length_cons, List.length_nil]
     refine ownsRow_setCell_other r4 (fun e => ?_) _
     obtain ⟨cur, hc⟩ := ownsRow_type r4 e
     rw [hd3] at hc; simp at hc
    ·intro b hb
     have hb3 := (r4.lt b hb).2
     by_cases hlt2 : b < w2.heap.size
     ·refine .inl (r3 b ?_)
      by_cases e : (Value.slice la m.loose.length lc).ownBlock = some b
      ·exact e
      ·obtain ⟨cur, hc⟩ := ownsRow_type r4 hb
       exfalso
       rcases hat with h | h
       ·rw [← h] at e; exact e hb
       ·rw [hb] at h; simp at h; omega
     ·exact .inr ⟨by omega, by simpa using hb3⟩
   ·intro b hb
    rcases hb with hb | hb
    ·have := hlt b hb; simp; omega
    ·exact hb.2
  ·refine Keeps.setCell ?_ (fun _ => h.fd) _
   have a1 : Keeps F w w1 := ((Keeps.refl F w).alloc _).trans k1 (fun b _ e => by subst e; exact h.fd)
   have a2 : Keeps F w w2 := a1.trans k2 (fun b _ e => by subst e; exact h.fbn)
   exact a2.trans k3 (fun b _ e => r3 b e)
  ·rw [show (doesOf m c).1 = 0 by simp [doesOf, hz]]
   exact key
theorem up_runs {F : Nat → Prop} {w : World} {d : Nat} {m : DM} (h : DiskIs F w d m) : Runs 76 #[.pointer (some ⟨d, 0, none⟩)] w (.int .i64 (upOf m)) w := up_calls h
theorem isname_runs (s : ByteArray) (w : World) : Runs 104 #[.string s] w (.bool (isName s)) w := isname_calls s w
theorem there_runs {F : Nat → Prop} {w : World} {d : Nat} {m : DM} (h : DiskIs F w d m) (n : ByteArray) : Runs 110 #[.pointer (some ⟨d, 0, none⟩), .string n] w (.int .i64 (thereOf m n)) w := there_calls h n
def DPost (F : Nat → Prop) (w : World) (d : Nat) (r : Int × DM) (e : Ending) (w' : World) : Prop :=
 e = .returned (.int .i64 r.1) ∧ DiskIs (Ext F w w') w' d r.2 ∧ Keeps F w w'
theorem DiskIs.ext {F : Nat → Prop} {w : World} {d : Nat} {m : DM} (h : DiskIs F w d m) : DiskIs (Ext F w w) w d m := by
 obtain ⟨bn, bs, vl, h⟩ := h
 exact ⟨bn, bs, vl, h.wider (fun b hb => .inl hb) (fun b hb => by rcases hb with hb | hb; exact h.lt b hb; exact hb.2)⟩
theorem DiskIs.wider {F G : Nat → Prop} {w : World} {d : Nat} {m : DM} (h : DiskIs F w d m) (hFG : ∀ b, F b → G b) (hlt : ∀ b, G b → b < w.heap.size) : DiskIs G w d m := by
 obtain ⟨bn, bs, vl, h⟩ := h
 exact ⟨bn, bs, vl, h.wider hFG hlt⟩
theorem DiskIs.rebase {F : Nat → Prop} {w w1 w2 : World} {d : Nat} {m : DM} (h : DiskIs (Ext (Ext F w w1) w1 w2) w2 d m) (h1 : w.heap.size ≤ w1.heap.size) (h2 : w1.heap.size ≤ w2.heap.size) : DiskIs (Ext F w w2) w2 d m :=
 h.wider (fun b hb => by
  rcases hb with (hb | hb) | hb
  ·exact .inl hb
  ·exact .inr ⟨hb.1, by omega⟩
  ·exact .inr ⟨by omega, hb.2⟩) (fun b hb => by
  rcases hb with hb | hb
  ·exact h.lt b (.inl (.inl hb))
  ·exact hb.2)
def createOf (m : DM) (n : ByteArray) : Int × DM :=
 if m.down then (5, m) else if !isName n then (1, m) else if (fget m.now n).isSome then (7, m) else if decide ((4096 : Int) ≤ (m.now.length : Int)) then (4, m) else doesOf m ⟨0, n, ⟨#[]⟩, []⟩
theorem create_raw (w w2 : World) (d bn : Nat) (n : ByteArray) (v : Value) (dn nm is fl : Bool) (r len : Int)
  (hup : Runs 76 #[.pointer (some ⟨d, 0, none⟩)] w (.int .i64 (if dn then 5 else 0)) w) (c1 : w.cell? ⟨d, 1, none⟩ = some (.map (some bn)))
  (hl : Sem.run Tryz.prog (Instr.lookup 132 (Value.map (some bn)) (Value.string n) true) w = Result.ok (Value.tuple #[v, Value.bool is]) w)
  (hnm : Runs 104 #[.string n] w (.bool nm) w)
  (hlen : (Builtin.len_ #[132] 3 #[.map (some bn)]).run Tryz.prog w = .ok (.int .i64 len) w) (hfl : decide ((4096 : Int) ≤ len) = fl)
  (hd : dn = false → nm = true → is = false → fl = false → Runs 105 #[.pointer (some ⟨d, 0, none⟩), .agg #[.int .i64 0, .string n, .string ⟨#[]⟩, .slice none 0 0]] w (.int .i64 r) w2) :
  Runs 41 #[.pointer (some ⟨d, 0, none⟩), .string n] w (.int .i64 (if dn then 5 else if !nm then 1 else if is then 7 else if fl then 4 else r)) (if dn then w else if !nm then w else if is then w else if fl then w else w2) := by
 unfold Runs
 cases dn <;> cases nm <;> cases is <;> cases fl
 all_goals
  simp only [Bool.false_eq_true, if_false, if_true, Bool.not_true, Bool.not_false, true_implies, reduceCtorEq, false_implies] at hup hd ⊢
  have Hd := Lib.hid hd
  clear hd
  go_enter Tryz.func41, Tryz.ntmps41
  go_wp2_with (first | (go_at_call 76; refine hup.out.mono ?_; rintro e w' ⟨rfl, rfl⟩) | (go_at_call 104; refine hnm.out.mono ?_; rintro e w' ⟨rfl, rfl⟩) | (go_at_call 105; refine Hd.out.out.mono ?_; rintro e w' ⟨rfl, rfl⟩))
  go_ret
  exact ⟨rfl, rfl⟩
theorem create_runs {F : Nat → Prop} {w : World} {d : Nat} {m : DM} (h : DiskIs F w d m) (n : ByteArray) (hf : m.fuse ≤ 9223372036854775807) (hl : m.loose.length < 1099511627776) :
  ∃ w', Runs 41 #[.pointer (some ⟨d, 0, none⟩), .string n] w (.int .i64 (createOf m n).1) w' ∧ DiskIs (Ext F w w') w' d (createOf m n).2 ∧ Keeps F w w' := by
 have hup := up_runs h
 obtain ⟨w2, hd, h2, k2⟩ := does_calls h ⟨0, n, ⟨#[]⟩, []⟩ (Bytes.nil F w) ⟨by simp, by simp⟩ hf hl
 have hi := h
 obtain ⟨bn, bs, vl, h⟩ := h
 obtain ⟨v, _, _, hlook⟩ := look_now h.now n
 have key := create_raw w w2 d bn n v m.down (isName n) _ _ _ _ hup h.cells.c1 (hlook true) (isname_runs n w) (h.now.len (P := Tryz.prog) Tryz.underlying132 3) rfl (fun _ _ _ _ => hd)
 obtain ⟨w', hw'⟩ : ∃ w' : World, w' = (if m.down then w else if !isName n then w else if (fget m.now n).isSome then w else if decide ((4096 : Int) ≤ (m.now.length : Int)) then w else w2) := ⟨_, rfl⟩
 rw [← hw'] at key
 refine ⟨w', ?_, ?_, ?_⟩
 ·rw [show (createOf m n).1 = (if m.down then 5 else if !isName n then 1 else if (fget m.now n).isSome then 7 else if decide ((4096 : Int) ≤ (m.now.length : Int)) then 4 else (doesOf m ⟨0, n, ⟨#[]⟩, []⟩).1) by unfold createOf; simp only [apply_ite Prod.fst]]
  exact key
 ·subst hw'
  unfold createOf
  repeat' split
  all_goals first | exact hi.ext | exact h2
 ·subst hw'
  repeat' split
  all_goals first | exact Keeps.refl _ _ | exact k2
def removeOf (m : DM) (n : ByteArray) : Int × DM := if thereOf m n = 0 then doesOf m ⟨2, n, ⟨#[]⟩, []⟩ else (thereOf m n, m)
theorem remove_raw (w w2 : World) (d : Nat) (n : ByteArray) (t r : Int)
  (hth : Runs 110 #[.pointer (some ⟨d, 0, none⟩), .string n] w (.int .i64 t) w)
  (hd : t = 0 → Runs 105 #[.pointer (some ⟨d, 0, none⟩), .agg #[.int .i64 2, .string n, .string ⟨#[]⟩, .slice none 0 0]] w (.int .i64 r) w2) :
  Runs 45 #[.pointer (some ⟨d, 0, none⟩), .string n] w (.int .i64 (if t = 0 then r else t)) (if t = 0 then w2 else w) := by
 unfold Runs
 by_cases ht : t = 0
 ·subst ht
  simp only [if_true, true_implies] at hd ⊢
  have Hd := Lib.hid hd
  clear hd
  go_enter Tryz.func45, Tryz.ntmps45
  go_wp2_with (first | (go_at_call 110; refine hth.out.mono ?_; rintro e w' ⟨rfl, rfl⟩) | (go_at_call 105; refine Hd.out.out.mono ?_; rintro e w' ⟨rfl, rfl⟩))
  go_ret
  exact ⟨rfl, rfl⟩
 ·rw [if_neg ht, if_neg ht]
  have hb : (t == 0) = false := by simpa using ht
  clear hd ht
  go_enter Tryz.func45, Tryz.ntmps45
  go_wp2_with (first | (go_at_call 110; refine hth.out.mono ?_; rintro e w' ⟨rfl, rfl⟩))
  go_ret
  exact ⟨rfl, rfl⟩
theorem remove_runs {F : Nat → Prop} {w : World} {d : Nat} {m : DM} (h : DiskIs F w d m) (n : ByteArray) (hf : m.fuse ≤ 9223372036854775807) (hl : m.loose.length < 1099511627776) :
  ∃ w', Runs 45 #[.pointer (some ⟨d, 0, none⟩), .string n] w (.int .i64 (removeOf m n).1) w' ∧ DiskIs (Ext F w w') w' d (removeOf m n).2 ∧ Keeps F w w' := by
 obtain ⟨w2, hd, h2, k2⟩ := does_calls h ⟨2, n, ⟨#[]⟩, []⟩ (Bytes.nil F w) ⟨by simp, by simp⟩ hf hl
 have key := remove_raw w w2 d n (thereOf m n) _ (there_runs h n) (fun _ => hd)
 unfold removeOf
 by_cases ht : thereOf m n = 0
 ·simp only [ht, if_true] at key ⊢
  exact ⟨w2, key, h2, k2⟩
 ·simp only [ht, if_false] at key ⊢
  exact ⟨w, key, h.ext, Keeps.refl _ _⟩
def pieceOf (l : List UInt8) (at_ n : Int) : List UInt8 := (l.drop at_.toNat).take n.toNat
theorem Bytes.from {F : Nat → Prop} {w : World} {a : Option Addr} {c n : Nat} {l : List UInt8} (h : Bytes F w (.slice a n c) l) (i j : Nat) (hi : i + j ≤ l.length) (hc : ¬ c = i) :
  Bytes F w (.slice (a.map (fun x => x.add i)) j (c - i)) ((l.drop i).take j) := by
 have hl : ((l.drop i).take j).length = j := by simp; omega
 rcases h with ⟨e, rfl⟩ | ⟨g, off, cap, cs, fz, e, hF, hb, h1, h2, h3, h4⟩
 ·simp only [Value.slice.injEq] at e
  obtain ⟨rfl, rfl, rfl⟩ := e
  simp at hi
  omega
 ·simp only [Value.slice.injEq] at e
  obtain ⟨rfl, rfl, rfl⟩ := e
  refine .inr ⟨g, off + i, c - i, cs, fz, ?_, hF, hb, by omega, by omega, by omega, fun k x hk => ?_⟩
  ·rw [hl]; simp only [Option.map_some, Addr.add_lit]
  ·rw [List.getElem?_take] at hk
   split at hk
   ·rw [List.getElem?_drop] at hk
    rw [Nat.add_assoc]; exact h4 _ _ hk
   ·cases hk
theorem Bytes.none_of {F : Nat → Prop} {w : World} {a : Option Addr} {c n : Nat} {l : List UInt8} (h : Bytes F w (.slice a n c) l) : Bytes F w (.slice a 0 0) [] := by
 rcases h with ⟨e, rfl⟩ | ⟨g, off, cap, cs, fz, e, hF, hb, h1, h2, h3, h4⟩
 ·simp only [Value.slice.injEq] at e
  obtain ⟨rfl, _, _⟩ := e
  exact Bytes.nil _ _
 ·simp only [Value.slice.injEq] at e
  obtain ⟨rfl, _, _⟩ := e
  exact .inr ⟨g, off, 0, cs, fz, rfl, hF, hb, Nat.le_refl _, Nat.zero_le _, by omega, fun i c hi => by simp at hi⟩
set_option maxRecDepth 100000 in
theorem read_raw (w w2 : World) (d bn : Nat) (n : ByteArray) (at_ k : Int) (i j : Nat) (va : Option Addr) (vn vc : Nat) (v2 : Value)
  (hth : Runs 110 #[.pointer (some ⟨d, 0, none⟩), .string n] w (.int .i64 0) w) (c1 : w.cell? ⟨d, 1, none⟩ = some (.map (some bn)))
  (hl : Sem.run Tryz.prog (Instr.lookup 132 (Value.map (some bn)) (Value.string n) false) w = Result.ok (.slice va vn vc) w)
  (h0 : 0 ≤ at_) (hk0 : 0 ≤ k) (hm1 : (if (vn : Int) < at_ then (vn : Int) else at_) = (i : Int)) (hm2 : (if ((vn - i : Nat) : Int) < k then ((vn - i : Nat) : Int) else k) = (j : Int))
  (hle : (vn : Int) ≤ vc) (hi : (i : Int) ≤ vn) (hi0 : (0 : Int) ≤ i) (hj : (j : Int) ≤ ((vc - i : Nat) : Int)) (hj0 : (0 : Int) ≤ j) (hci : ¬ vc = i)
  (hc : Runs 111 #[.slice (Option.map (fun x => x.add i) va) j (vc - i)] w v2 w2) :
  Runs 55 #[.pointer (some ⟨d, 0, none⟩), .string n, .int .i64 at_, .int .i64 k] w (.tuple #[v2, .int .i64 0]) w2 := by
 unfold Runs
 go_enter Tryz.func55, Tryz.ntmps55
 go_wp2_with (first | (go_at_call 110; refine hth.out.mono ?_; rintro e w' ⟨rfl, rfl⟩) | (go_at_call 111; refine hc.out.mono ?_; rintro e w' ⟨rfl, rfl⟩))
 go_ret2
 exact ⟨rfl, rfl⟩
set_option maxRecDepth 100000 in
theorem read_raw0 (w w2 : World) (d bn : Nat) (n : ByteArray) (at_ k : Int) (va : Option Addr) (i : Nat) (v2 : Value)
  (hth : Runs 110 #[.pointer (some ⟨d, 0, none⟩), .string n] w (.int .i64 0) w) (c1 : w.cell? ⟨d, 1, none⟩ = some (.map (some bn)))
  (hl : Sem.run Tryz.prog (Instr.lookup 132 (Value.map (some bn)) (Value.string n) false) w = Result.ok (.slice va i i) w)
  (h0 : 0 ≤ at_) (hk0 : 0 ≤ k) (hm1 : (if (i : Int) < at_ then (i : Int) else at_) = (i : Int)) (hm2 : (if (0 : Int) < k then (0 : Int) else k) = 0)
  (hi0 : (0 : Int) ≤ i) 
  (hc : Runs 111 #[.slice va 0 0] w v2 w2) :
  Runs 55 #[.pointer (some ⟨d, 0, none⟩), .string n, .int .i64 at_, .int .i64 k] w (.tuple #[v2, .int .i64 0]) w2 := by
 unfold Runs
 go_enter Tryz.func55, Tryz.ntmps55
 go_wp2_with (first | (go_at_call 110; refine hth.out.mono ?_; rintro e w' ⟨rfl, rfl⟩) | (go_at_call 111; refine hc.out.mono ?_; rintro e w' ⟨rfl, rfl⟩))
 go_ret2
 exact ⟨rfl, rfl⟩
theorem read_bad (w : World) (d : Nat) (n : ByteArray) (at_ k t : Int)
  (hth : Runs 110 #[.pointer (some ⟨d, 0, none⟩), .string n] w (.int .i64 t) w) (ht : (t == 0) = false) :
  Runs 55 #[.pointer (some ⟨d, 0, none⟩), .string n, .int .i64 at_, .int .i64 k] w (.tuple #[.slice none 0 0, .int .i64 t]) w := by
 unfold Runs
 go_enter Tryz.func55, Tryz.ntmps55
 go_wp2_with (first | (go_at_call 110; refine hth.out.mono ?_; rintro e w' ⟨rfl, rfl⟩))
 go_ret2
 exact ⟨rfl, rfl⟩
theorem read_neg (w : World) (d : Nat) (n : ByteArray) (at_ k : Int)
  (hth : Runs 110 #[.pointer (some ⟨d, 0, none⟩), .string n] w (.int .i64 0) w) (hn : at_ < 0 ∨ k < 0) :
  Runs 55 #[.pointer (some ⟨d, 0, none⟩), .string n, .int .i64 at_, .int .i64 k] w (.tuple #[.slice none 0 0, .int .i64 1]) w := by
 unfold Runs
 by_cases ha : at_ < 0
 ·clear hn
  go_enter Tryz.func55, Tryz.ntmps55
  go_wp2_with (first | (go_at_call 110; refine hth.out.mono ?_; rintro e w' ⟨rfl, rfl⟩))
  go_ret2
  exact ⟨rfl, rfl⟩
 ·have hk : k < 0 := by omega
  clear hn
  go_enter Tryz.func55, Tryz.ntmps55
  go_wp2_with (first | (go_at_call 110; refine hth.out.mono ?_; rintro e w' ⟨rfl, rfl⟩))
  go_ret2
  exact ⟨rfl, rfl⟩
def readCode (m : DM) (n : ByteArray) (at_ k : Int) : Int := if thereOf m n = 0 then (if at_ < 0 ∨ k < 0 then 1 else 0) else thereOf m n
def readBytes (m : DM) (n : ByteArray) (at_ k : Int) : List UInt8 := if thereOf m n = 0 then (if at_ < 0 ∨ k < 0 then [] else pieceOf ((fget m.now n).getD []) at_ k) else []
theorem read_runs {F : Nat → Prop} {w : World} {d : Nat} {m : DM} (h : DiskIs F w d m) (n : ByteArray) (at_ k : Int) (hlen : ((fget m.now n).getD []).length ≤ 140737488355328) :
  ∃ v w', Runs 55 #[.pointer (some ⟨d, 0, none⟩), .string n, .int .i64 at_, .int .i64 k] w (.tuple #[v, .int .i64 (readCode m n at_ k)]) w' ∧ Bytes (fun b => w.heap.size ≤ b) w' v (readBytes m n at_ k) ∧ Keeps (fun _ => False) w w' := by
 have hth := there_runs h n
 unfold readCode readBytes
 by_cases ht : thereOf m n = 0
 ·simp only [ht, if_true]
  rw [ht] at hth
  by_cases hneg : at_ < 0 ∨ k < 0
  ·simp only [hneg, if_true]
   exact ⟨_, _, read_neg w d n at_ k hth hneg, Bytes.nil _ _, Keeps.refl _ _⟩
  ·simp only [hneg, if_false]
   obtain ⟨bn, bs, vl, h⟩ := h
   obtain ⟨v, hB, _, hlook⟩ := look_now h.now n
   have hl := hlook false
   simp only [Bool.false_eq_true, if_false] at hl
   generalize (fget m.now n).getD [] = l at *
   obtain ⟨va, vc, rfl, h1, h2⟩ := hB.form
   unfold maxLen at h2
   by_cases hc : vc = (if (l.length : Int) < at_ then (l.length : Int) else at_).toNat
   ·have hvl : vc = l.length := by split at hc <;> omega
    subst hvl
    obtain ⟨v2, w2, hr, hB2, hk2⟩ := clone_runs hB.none_of.reads (by simp)
    refine ⟨v2, w2, read_raw0 w w2 d bn n at_ k va l.length v2 hth h.cells.c1 hl (by omega) (by omega) (by split <;> omega) (by split <;> omega) (by omega) hr, ?_, hk2⟩
    have : pieceOf l at_ k = [] := by
     unfold pieceOf
     rw [List.drop_of_length_le (by split at hc <;> omega)]; simp
    rw [this]; exact hB2
   ·have hcl : ∀ i : Nat, i = (if (l.length : Int) < at_ then (l.length : Int) else at_).toNat → i ≤ l.length := by intro i hi; split at hi <;> omega
    obtain ⟨i, hi⟩ : ∃ i : Nat, i = (if (l.length : Int) < at_ then (l.length : Int) else at_).toNat := ⟨_, rfl⟩
    have hil := hcl i hi
    rw [← hi] at hc
    obtain ⟨j, hj⟩ : ∃ j : Nat, j = (if ((l.length - i : Nat) : Int) < k then ((l.length - i : Nat) : Int) else k).toNat := ⟨_, rfl⟩
    have hjl : i + j ≤ l.length := by split at hj <;> omega
    obtain ⟨v2, w2, hr, hB2, hk2⟩ := clone_runs (hB.from i j hjl hc).reads (by simp; omega)
    refine ⟨v2, w2, read_raw w w2 d bn n at_ k i j va l.length vc v2 hth h.cells.c1 hl (by omega) (by omega) (by split at hi <;> (split <;> omega)) (by split at hj <;> (split <;> omega)) (by omega) (by omega) (by omega) (by omega) (by omega) hc hr, ?_, hk2⟩
    have : pieceOf l at_ k = (l.drop i).take j := by
     unfold pieceOf
     by_cases h3 : (l.length : Int) < at_
     ·rw [if_pos h3] at hi
      rw [List.drop_of_length_le (by omega : l.length ≤ at_.toNat), List.drop_of_length_le (by omega : l.length ≤ i)]; simp
     ·rw [if_neg h3] at hi
      rw [← hi]
      by_cases h4 : ((l.length - i : Nat) : Int) < k
      ·rw [if_pos h4] at hj
       rw [List.take_of_length_le (by simp; omega), List.take_of_length_le (by simp; omega)]
      ·rw [if_neg h4] at hj
       rw [← hj]
    rw [this]; exact hB2
 ·simp only [ht, if_false]
  exact ⟨_, _, read_bad w d n at_ k _ hth (by simpa using ht), Bytes.nil _ _, Keeps.refl _ _⟩
def lenV : Value → Nat | .slice _ n _ => n | _ => 0
def seenLen : List MapEntry → Array Nat → Nat
 | [], _ => 0
 | x :: l, seen => (if seen.contains x.born then lenV x.val else 0) + seenLen l seen
theorem seenLen_other (seen : Array Nat) (b : Nat) : ∀ (es : List MapEntry), b ∉ es.map (·.born) → seenLen es (seen.push b) = seenLen es seen
 | [], _ => rfl
 | x :: l, h => by
  have hx : (x.born == b) = false := by
   rw [Bool.eq_false_iff]; intro hc
   exact h (List.mem_cons.2 (Or.inl (beq_iff_eq.1 hc).symm))
  simp only [seenLen, contains_push, hx, Bool.or_false, seenLen_other seen b l (fun e => h (List.mem_cons.2 (Or.inr e)))]
theorem seenLen_push (seen : Array Nat) (e : MapEntry) (hs : seen.contains e.born = false) : ∀ (es : List MapEntry), (es.map (·.born)).Nodup → e ∈ es → seenLen es (seen.push e.born) = seenLen es seen + lenV e.val
 | x :: l, hn, he => by
  have hn' : x.born ∉ l.map (·.born) ∧ (l.map (·.born)).Nodup := List.nodup_cons.1 hn
  rcases List.mem_cons.1 he with rfl | h
  ·simp only [seenLen, contains_push, hs, beq_self_eq_true, Bool.or_true, if_true, Bool.false_eq_true, if_false, seenLen_other seen e.born l hn'.1]
   omega
  ·have hx : (x.born == e.born) = false := by
    rw [Bool.eq_false_iff]; intro hc
    exact hn'.1 (by rw [beq_iff_eq.1 hc]; exact List.mem_map.2 ⟨e, h, rfl⟩)
   simp only [seenLen, contains_push, hx, Bool.or_false, seenLen_push seen e hs l hn'.2 h]
   omega
theorem seenLen_le (seen : Array Nat) : ∀ (es : List MapEntry), seenLen es seen ≤ (es.map fun e => lenV e.val).sum
 | [] => Nat.le_refl _
 | x :: l => by
  have := seenLen_le seen l
  simp only [seenLen, List.map_cons, List.sum_cons]
  split <;> omega
theorem seenLen_full (seen : Array Nat) : ∀ (es : List MapEntry), (∀ x ∈ es, seen.contains x.born = true) → seenLen es seen = (es.map fun e => lenV e.val).sum
 | [], _ => rfl
 | x :: l, h => by
  simp only [seenLen, h x (List.mem_cons.2 (Or.inl rfl)), if_true, List.map_cons, List.sum_cons, seenLen_full seen l (fun y hy => h y (List.mem_cons.2 (Or.inr hy)))]
theorem seenLen_none : ∀ (es : List MapEntry), seenLen es #[] = 0
 | [] => rfl
 | x :: l => by
  have : (#[] : Array Nat).contains x.born = false := by simp
  simp only [seenLen, this, Bool.false_eq_true, if_false, seenLen_none l]
theorem left_none {es : Array MapEntry} {seen : Array Nat} (h : (leftOf es seen).size = 0) : ∀ x ∈ es.toList, seen.contains x.born = true := by
 intro x hx
 have h2 : leftOf es seen = #[] := Array.eq_empty_of_size_eq_zero h
 unfold leftOf at h2
 rw [Array.filter_eq_empty_iff] at h2
 have h3 := h2 x (Array.mem_toList_iff.1 hx)
 cases hc : seen.contains x.born with
 | true => rfl
 | false => rw [hc] at h3; simp at h3
theorem used_perm {l fs : FS} (h : l.Perm fs) : used l = used fs := by
 induction h with
 | nil => rfl
 | cons x _ ih => simp [used, ih]
 | swap x y l => simp [used]; omega
 | trans _ _ h1 h2 => exact h1.trans h2
theorem rel_used {F : Nat → Prop} {w : World} : ∀ {es : List MapEntry} {l : FS}, Rel2 (EntryOk F w) es l → (es.map fun e => lenV e.val).sum = used l
 | [], [], _ => rfl
 | e :: es, p :: l, h => by
  obtain ⟨a, c, hv, _⟩ := h.1.2.form
  have e1 := rel_used h.2
  have e2 : lenV e.val = p.2.length := by rw [hv]; rfl
  simp only [List.map_cons, List.sum_cons, used, e2]
  rw [← e1]
 | [], _ :: _, h => h.elim
 | _ :: _, [], h => h.elim
def QuietP (w : World) (v : Value) (e : Ending) (w' : World) : Prop := e = .returned v ∧ Keeps (fun _ => False) w w'
set_option maxRecDepth 100000 in
theorem used_raw (w : World) (d bn : Nat) (es : Array MapEntry) (clock : Nat) (total : Nat) (c1 : w.cell? ⟨d, 1, none⟩ = some (.map (some bn)))
  (hb : w.heap[bn]? = some (.map es clock)) (hs : Stamped es clock) (hv : ∀ e ∈ es.toList, ∃ a n c, e.val = .slice a n c) (ht : (es.toList.map fun e => lenV e.val).sum = total) (htb : total ≤ 4611686018427387904) :
  Calls Tryz.prog 96 #[.pointer (some ⟨d, 0, none⟩)] w (QuietP w (.int .i64 (total : Int))) := by
 have hrange := run_range_map (P := Tryz.prog) w 132 9 22 bn es clock Tryz.underlying132 hb
 have hblt := lt_of_heap hb
 have hb0 : (w.alloc (.mapIter (some bn) clock #[] clock)).heap[bn]? = some (.map es clock) := (Below.heap_alloc _ _ _ hblt).trans hb
 have HS := Lib.hid hs
 have HV := Lib.hid hv
 have HT := Lib.hid ht
 clear hs hv ht
 go_enter Tryz.func96, Tryz.ntmps96
 go_wp2
 go_loopw [3] (fun n wr => ∃ seen : Array Nat, ∃ c0 : Nat, wr.heap[w.heap.size]? = some (.mapIter (some bn) clock seen c0) ∧ clock ≤ c0 ∧ n = .int .i64 ((seenLen es.toList seen : Nat) : Int) ∧ Keeps (fun _ => False) w wr) (fun _ wr => (leftOf es (wr.iterSeen w.heap.size)).size)
 case atStart => exact ⟨#[], clock, heap_alloc_new w _, Nat.le_refl _, by rw [seenLen_none]; rfl, (Keeps.refl _ w).alloc _⟩
 case round =>
  obtain ⟨seen, c0, hr, hc0, rfl, hk⟩ := hrel
  have hb' : wr.heap[bn]? = some (.map es clock) := hk.at hb (fun e => e)
  have hle := seenLen_le seen es.toList
  rw [HT.out] at hle
  rcases run_next_at (P := Tryz.prog) wr 0 w.heap.size bn clock c0 seen es clock hr hb' HS.out.1 hc0 with ⟨hz, hrun⟩ | ⟨e, he, w1, hw1, hrun⟩
  ·have hfin : seenLen es.toList seen = total := by rw [← HT.out]; exact seenLen_full seen _ (left_none hz)
   have Hfin := Lib.hid hfin
   clear hfin hz hr hb' hb0 hrange hc0
   go_wp2
   go_ret
   refine ⟨?_, hk⟩
   rw [Hfin.out]
   rfl
  ·obtain ⟨hmem, hns⟩ := mem_left he
   obtain ⟨va, vn, vc, hval⟩ := HV.out e hmem
   have hw1h : w1.heap = wr.heap := by rcases hw1 with rfl | rfl <;> rfl
   have hk1 : Keeps (fun _ => False) w w1 := by rcases hw1 with rfl | rfl <;> first | exact hk | exact hk.drew
   have hr2 : (setBlock w1 w.heap.size (.mapIter (some bn) clock (seen.push e.born) clock)).heap[w.heap.size]? = some (.mapIter (some bn) clock (seen.push e.born) clock) := heap_setBlock_eq (by rw [hw1h]; exact hr) _
   have hb2 : (setBlock w1 w.heap.size (.mapIter (some bn) clock (seen.push e.born) clock)).heap[bn]? = some (.map es clock) := by rw [heap_setBlock_ne _ _ _ (by omega), hw1h]; exact hb'
   have hent := run_entry_at (P := Tryz.prog) _ w.heap.size bn clock seen es clock e hr2 hb2 hmem HS.out.2.1
   have hpush := seenLen_push seen e hns es.toList HS.out.2.1 hmem
   have hle2 := seenLen_le (seen.push e.born) es.toList
   rw [HT.out, hpush] at hle2
   have hk2 : Keeps (fun _ => False) w (setBlock w1 w.heap.size (.mapIter (some bn) clock (seen.push e.born) clock)) := hk1.setBlock (fun h => by omega) _
   have hsh := left_shrinks es seen e he
   rw [hval] at hrun hent hpush hle2
   simp only [lenV] at hpush hle2
   have HR := Lib.hid hr
   have HR2 := Lib.hid hr2
   have HP := Lib.hid hpush
   clear hr hr2 hb2 hb0 hb' hval hmem hns he hw1 hw1h hpush hrange hb hk1
   have hs0 : (0 : Int) ≤ (seenLen es.toList seen : Nat) := by omega
   have hn0 : (0 : Int) ≤ (vn : Nat) := by omega
   have hn1 : ((seenLen es.toList seen : Nat) : Int) + (vn : Nat) ≤ 4611686018427387904 := by omega
   clear hle hle2
   go_wp2
   go_roundw
   case rel => exact ⟨seen.push e.born, clock, HR2.out, Nat.le_refl _, by rw [HP.out]; push_cast; rfl, hk2⟩
   case measure =>
    simp only [World.iterSeen, HR.out, HR2.out]
    exact hsh
theorem used_calls {F : Nat → Prop} {w : World} {d : Nat} {m : DM} (h : DiskIs F w d m) (hu : used m.now ≤ 4611686018427387904) : Calls Tryz.prog 96 #[.pointer (some ⟨d, 0, none⟩)] w (QuietP w (.int .i64 (used m.now : Int))) := by
 obtain ⟨bn, bs, vl, h⟩ := h
 have c1 := h.cells.c1
 obtain ⟨es, clock, l, hb, hs, hr, hp⟩ := h.now
 refine used_raw w d bn es clock _ c1 hb hs (fun e he => ?_) ((rel_used hr).trans (used_perm hp)) hu
 obtain ⟨i, hi⟩ := List.mem_iff_getElem?.1 he
 obtain ⟨p, _, hp⟩ := hr.get hi
 obtain ⟨a, c, hv, _⟩ := hp.2.form
 exact ⟨a, _, c, hv⟩
theorem DiskIs.quiet {F : Nat → Prop} {w w1 : World} {d : Nat} {m : DM} (h : DiskIs F w d m) (hk : Keeps (fun _ => False) w w1) : DiskIs (Ext F w w1) w1 d m :=
 (h.keeps hk (fun _ _ e => e)).wider (fun b hb => .inl hb) (fun b hb => by
  rcases hb with hb | hb
  ·have := h.lt b hb; have := hk.size; omega
  ·exact hb.2)
theorem Keeps.any {F : Nat → Prop} {w w1 : World} (hk : Keeps (fun _ => False) w w1) : Keeps F w w1 := hk.mono (fun _ _ e => e.elim)
def appendOf (m : DM) (n : ByteArray) (p : List UInt8) : Int × DM :=
 if thereOf m n = 0 then (if (1048576 : Int) < (p.length : Int) then (8, m) else if m.room - (used m.now : Int) < (p.length : Int) then (4, m) else doesOf m ⟨1, n, ⟨#[]⟩, p⟩) else (thereOf m n, m)
theorem append_bad (w : World) (d : Nat) (n : ByteArray) (pv : Value) (t : Int)
  (hth : Runs 110 #[.pointer (some ⟨d, 0, none⟩), .string n] w (.int .i64 t) w) (ht : (t == 0) = false) :
  Runs 48 #[.pointer (some ⟨d, 0, none⟩), .string n, pv] w (.int .i64 t) w := by
 unfold Runs
 go_enter Tryz.func48, Tryz.ntmps48
 go_wp2_with (first | (go_at_call 110; refine hth.out.mono ?_; rintro e w' ⟨rfl, rfl⟩))
 go_ret
 exact ⟨rfl, rfl⟩
theorem append_long (w : World) (d : Nat) (n : ByteArray) (a : Option Addr) (l c : Nat)
  (hth : Runs 110 #[.pointer (some ⟨d, 0, none⟩), .string n] w (.int .i64 0) w) (hl : (1048576 : Int) < (l : Int)) :
  Runs 48 #[.pointer (some ⟨d, 0, none⟩), .string n, .slice a l c] w (.int .i64 8) w := by
 unfold Runs
 go_enter Tryz.func48, Tryz.ntmps48
 go_wp2_with (first | (go_at_call 110; refine hth.out.mono ?_; rintro e w' ⟨rfl, rfl⟩))
 go_ret
 exact ⟨rfl, rfl⟩
set_option maxRecDepth 100000 in
set_option maxHeartbeats 400000 in
theorem append_calls {F : Nat → Prop} {w : World} {d : Nat} {m : DM} (h : DiskIs F w d m) (n : ByteArray) {pv : Value} {p : List UInt8} (hp : Reads w pv p)
  (hr0 : 0 ≤ m.room) (hr1 : m.room ≤ 67108864) (hu : (used m.now : Int) ≤ m.room) (hg : ((fget m.now n).getD []).length ≤ used m.now) (hf : m.fuse ≤ 9223372036854775807) (hl : m.loose.length < 1099511627776) :
  Calls Tryz.prog 48 #[.pointer (some ⟨d, 0, none⟩), .string n, pv] w (DPost F w d (appendOf m n p)) := by
 have hth := there_runs h n
 obtain ⟨pa, pc, rfl, hpc, hpm⟩ := hp.form
 unfold appendOf
 by_cases ht : thereOf m n = 0
 ·simp only [ht, if_true]
  rw [ht] at hth
  by_cases hlong : (1048576 : Int) < (p.length : Int)
  ·simp only [hlong, if_true]
   refine (append_long w d n pa p.length pc hth hlong).out.mono ?_
   rintro e w' ⟨rfl, rfl⟩
   exact ⟨rfl, h.ext, Keeps.refl _ _⟩
  ·simp only [hlong, if_false]
   have hus := used_calls (h.keep (w' := w.drew) (fun _ _ => rfl)) (by omega)
   obtain ⟨r, hr⟩ : ∃ r, r = m.room := ⟨_, rfl⟩
   obtain ⟨u, hu'⟩ : ∃ u, u = used m.now := ⟨_, rfl⟩
   have c0 : w.cell? ⟨d, 0, none⟩ = some (.int .i64 r) := by
    obtain ⟨bn, bs, vl, h⟩ := h
    rw [hr]; exact h.cells.c0
   have hdlt : d < w.heap.size := by
    obtain ⟨bn, bs, vl, h⟩ := h
    exact h.lt d h.fd
   rw [← hu'] at hus hu hg
   rw [← hr, ← hu']
   have hwrap : IntKind.i64.wrap (r - (u : Int)) = r - (u : Int) := IntWalk.i64_in _ (by omega)
   have H := Lib.hid h
   have HP := Lib.hid hp
   have HW := Lib.hid hg
   clear h hp ht hr hu' hg
   have ck : ∀ w1 : World, Keeps (fun _ => False) w.drew w1 → w1.cell? ⟨d, 0, none⟩ = some (.int .i64 r) := fun w1 hk => (World.cell?_of_block (w := w.drew) (hk.block d hdlt (fun e => e))).trans c0
   have CK := Lib.hid ck
   clear ck
   by_cases hfull : r - (u : Int) < (p.length : Int)
   ·simp only [hfull, if_true]
    go_enter Tryz.func48, Tryz.ntmps48
    go_wp2_with (first | (go_at_call 110; refine hth.out.mono ?_; rintro e w' ⟨rfl, rfl⟩))
    go_region_held3 (fun w' => w'.cell? ⟨d, 0, none⟩ = some (.int .i64 r)) (first | go_keep | exact CK.out _ hk) (first | (go_at_call 96; refine hus.mono ?_; rintro e w1 ⟨rfl, hk⟩))
    go_wp2
    go_ret
    exact ⟨rfl, H.out.quiet hk.undrew, hk.undrew.any⟩
   ·simp only [hfull, if_false]
    go_enter Tryz.func48, Tryz.ntmps48
    go_wp2_with (first | (go_at_call 110; refine hth.out.mono ?_; rintro e w' ⟨rfl, rfl⟩))
    go_region_held3 (fun w' => w'.cell? ⟨d, 0, none⟩ = some (.int .i64 r)) (first | go_keep | exact CK.out _ hk) (first | (go_at_call 96; refine hus.mono ?_; rintro e w1 ⟨rfl, hk⟩))
    obtain ⟨v2, w2, hc, hB2, hk2⟩ := clone_runs (HP.out.keep hk.undrew) (by omega)
    obtain ⟨v2a, v2c, rfl, _, _⟩ := hB2.form
    have h1 := H.out.quiet hk.undrew
    have h2 := h1.quiet hk2
    have hz1 := hk.undrew.size
    have hz2 := hk2.size
    have h3 : DiskIs (Ext F w w2) w2 d m := h2.rebase hz1 hz2
    obtain ⟨w3, hd, h4, k4⟩ := does_calls h3 ⟨1, n, ⟨#[]⟩, p⟩ (hB2.keep (KeepU8.refl _ _) (fun b hb hb2 => .inr ⟨by omega, hb2⟩)) ⟨by simp, fun _ => by have := HW.out; simp only; omega⟩ hf hl
    have hz3 := k4.size
    replace hd : Runs 105 #[.pointer (some ⟨d, 0, none⟩), .agg #[.int .i64 1, .string n, .string ⟨#[]⟩, .slice v2a p.length v2c]] w2 (.int .i64 (doesOf m ⟨1, n, ⟨#[]⟩, p⟩).1) w3 := hd
    have H4 := Lib.hid h4
    have K4 := Lib.hid k4
    have K2 := Lib.hid hk2
    have K1 := Lib.hid hk
    clear h1 h2 h3 h4 k4 hB2 hk2 hk
    go_wp2_with (first | (go_at_call 111; refine hc.out.mono ?_; rintro e w' ⟨rfl, rfl⟩) | (go_at_call 105; refine hd.out.mono ?_; rintro e w' ⟨rfl, rfl⟩))
    go_ret
    refine ⟨rfl, H4.out.rebase (by omega) hz3, ?_⟩
    exact ((K1.out.undrew.any (F := F)).trans K2.out (fun _ _ e => e.elim)).trans K4.out (fun b hb e => by rcases e with e | e; exact e; omega)
 ·simp only [ht, if_false]
  refine (append_bad w d n _ _ hth (by simpa using ht)).out.mono ?_
  rintro e w' ⟨rfl, rfl⟩
  exact ⟨rfl, h.ext, Keeps.refl _ _⟩
end Go.Proofs.YtlcnhpjggjgnpaaGreatDoor
