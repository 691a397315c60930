/- The contracts of slices.Clone and of does: a change, done to a disk. -/
import Derived.Test.YtlinkpjneehnbaaDo
import Derived.Maps.AppendAt
namespace Go.Proofs.Ytlinkpjneehnbaa
open Go.RowKit Go.MapKept
open Go.ChangeMaps (setBlock)

theorem clone_nil (w : World) : Calls Try.prog 76 #[.slice none 0 0] w fun e w' => e = .returned (.slice none 0 0) ∧ w = w' := by
  have hq := Lib.run_eql_slice_nil (P := Try.prog) w 31 5 none 0 0 0 0 Try.underlying31
  go_enter Try.func76, Try.ntmps76
  go_wp2
  go_ret
  exact ⟨rfl, rfl⟩

theorem clone_raw (w w1 : World) (a : Addr) (n c : Nat) (v' : Value)
    (hrun : (Builtin.append_ #[31, 31] 31 #[.slice (some ⟨w.heap.size, 0, none⟩) 0 0, .slice (some a) n c]).run Try.prog (w.alloc (.cells #[] 5)) = .ok v' w1) :
    Calls Try.prog 76 #[.slice (some a) n c] w fun e w' => e = .returned v' ∧ w1 = w' := by
  have hq := Lib.run_eql_slice_nil (P := Try.prog) w 31 5 (some a) n c 0 0 Try.underlying31
  have Hrun := Lib.hid hrun
  clear hrun
  go_enter Try.func76, Try.ntmps76
  go_wp2_with (at_builtin; refine wpList_append_run rfl _ _ _ _ rfl rfl rfl Hrun.out ?_)
  go_ret
  exact ⟨rfl, rfl⟩

theorem clone_runs {w : World} {v : Value} {l : List UInt8} (h : Reads w v l) (hl : l.length ≤ 140737488355328) :
    ∃ v' w', Runs 76 #[v] w v' w' ∧ Bytes (fun b => w.heap.size ≤ b) w' v' l ∧ Keeps (fun _ => False) w w' := by
  obtain ⟨a, c, rfl, h1, h2⟩ := h.form
  cases a with
  | none =>
    rcases h with ⟨e, rfl⟩ | ⟨x, c', e, _⟩
    · simp only [Value.slice.injEq] at e
      obtain ⟨_, _, rfl⟩ := e
      exact ⟨_, _, clone_nil w, Bytes.nil _ _, Keeps.refl _ _⟩
    · cases e
  | some a =>
    obtain ⟨i0, hi, hz0, hz1, hz2⟩ := info_parts info_u8
    have hn : Bytes (fun b => b = w.heap.size) (w.alloc (.cells #[] 5)) (.slice (some ⟨w.heap.size, 0, none⟩) 0 0) [] :=
      .inr ⟨_, 0, 0, _, _, rfl, rfl, heap_alloc_new w _, Nat.le_refl _, Nat.zero_le _, by simp, fun i c hi => by simp at hi⟩
    have hk : Reads (w.alloc (.cells #[] 5)) (.slice (some a) l.length c) l := h.keep ((Keeps.refl _ w).alloc _)
    obtain ⟨v', w1, hrun, hB, hk1, _⟩ := append_full (P := Try.prog) 31 31 31 5 i0 _ Try.underlying31 Try.underlying31 hi hz0 hz1 hz2 rfl hn hk rfl (by simpa using hl)
    refine ⟨v', w1, clone_raw w w1 a _ c v' hrun, ?_, ((Keeps.refl _ w).alloc _).trans hk1 (fun _ _ e => e)⟩
    rw [List.nil_append] at hB
    exact hB.keep (KeepU8.refl _ _) (fun b hb _ => by rcases hb with hb | hb <;> (try simp at hb) <;> omega)

theorem info_change : (Try.prog.info? 129).map (fun i => (i.zero, i.size, i.bytes)) = some (some (.agg #[.int .i64 0, .string ⟨#[]⟩, .string ⟨#[]⟩, .slice none 0 0]), 4, 64) := by kernel_rfl

theorem chCells_snoc : ∀ (ps : List Value) (cs : List Ch) (p : Value) (c : Ch), ps.length = cs.length → chCells (ps ++ [p]) (cs ++ [c]) = chCells ps cs ++ [.int .i64 c.kind, .string c.a, .string c.b, p]
  | [], [], _, _, _ => rfl
  | q :: ps, d :: cs, p, c, h => by simp [chCells, chCells_snoc ps cs p c (by simpa using h)]
  | [], _ :: _, _, _, h => by simp at h
  | _ :: _, [], _, _, h => by simp at h

theorem load_change (w : World) (b : Nat) (c0 c1 c2 c3 : Value) (h : w.heap[b]? = some (.cells #[c0, c1, c2, c3] 129 (0, 0))) :
    w.cell? ⟨b, 0, none⟩ = some c0 ∧ w.cell? ⟨b, 1, none⟩ = some c1 ∧ w.cell? ⟨b, 2, none⟩ = some c2 ∧ w.cell? ⟨b, 3, none⟩ = some c3 :=
  ⟨cell_at h rfl, cell_at h rfl, cell_at h rfl, cell_at h rfl⟩

set_option maxRecDepth 100000 in
/-- The walk of does behind spend, at a step that has power. -/
theorem does_raw (w w1 w2 w3 : World) (d bn : Nat) (k : Int) (x y : ByteArray) (pv : Value) (la va : Option Addr) (ln lc vn vc : Nat)
    (Hs : Runs 77 #[.pointer (some ⟨d, 0, none⟩)] (w.alloc (.cells #[.int .i64 k, .string x, .string y, pv] 129)) (.int .i64 0) w1)
    (Hd : Runs 78 #[.map (some bn), .agg #[.int .i64 k, .string x, .string y, pv]] w1.drew (.tuple #[]) w2)
    (a1 : w1.cell? ⟨d, 1, none⟩ = some (.map (some bn))) (b1 : w1.heap[w.heap.size]? = some (.cells #[.int .i64 k, .string x, .string y, pv] 129 (0, 0)))
    (a2 : w2.cell? ⟨d, 3, none⟩ = some (.slice la ln lc)) (b2 : w2.heap[w.heap.size]? = some (.cells #[.int .i64 k, .string x, .string y, pv] 129 (0, 0)))
    (hdlt : d < w2.heap.size)
    (hrun : (Builtin.append_ #[123, 123] 123 #[.slice la ln lc, .slice (some ⟨w2.heap.size, 0, none⟩) 1 1]).run Try.prog (w2.alloc (.cells #[.int .i64 k, .string x, .string y, pv] 129)).drew = .ok (.slice va vn vc) w3)
    (a3 : w3.cell? ⟨d, 3, none⟩ = some (.slice la ln lc)) (f3 : w3.frozen? ⟨d, 3, none⟩ = false) :
    Runs 74 #[.pointer (some ⟨d, 0, none⟩), .agg #[.int .i64 k, .string x, .string y, pv]] w (.int .i64 0) (w3.setCell ⟨d, 3, none⟩ (.slice va vn vc)) := by
  unfold Runs
  obtain ⟨p10, p11, p12, p13⟩ := load_change w1 _ _ _ _ _ b1
  obtain ⟨p20, p21, p22, p23⟩ := load_change w2 _ _ _ _ _ b2
  have a4 : (w2.alloc (.cells #[.int .i64 k, .string x, .string y, pv] 129)).cell? ⟨d, 3, none⟩ = some (.slice la ln lc) := (World.cell?_alloc_lt w2 _ ⟨d, 3, none⟩ hdlt).trans a2
  have Hrun := Lib.hid hrun
  clear hrun b1 b2
  go_enter Try.func74, Try.ntmps74
  go_wp2_with (go_at_call 77; refine Hs.out.mono ?_; rintro e w' ⟨rfl, rfl⟩)
  go_still_tail 5, (by kernel_rfl)
  change wpList _ _ _ _ _ w1.drew
  go_wp2_with (go_at_call 78; refine Hd.out.mono ?_; rintro e w' ⟨rfl, rfl⟩)
  go_region_law (refine step_append_run rfl _ _ _ _ rfl rfl rfl Hrun.out ?_)
  all_goals
    go_wp2
    go_ret
    exact ⟨rfl, rfl⟩

theorem does_dead (w w1 : World) (d : Nat) (k : Int) (x y : ByteArray) (pv : Value)
    (Hs : Runs 77 #[.pointer (some ⟨d, 0, none⟩)] (w.alloc (.cells #[.int .i64 k, .string x, .string y, pv] 129)) (.int .i64 5) w1) :
    Runs 74 #[.pointer (some ⟨d, 0, none⟩), .agg #[.int .i64 k, .string x, .string y, pv]] w (.int .i64 5) w1 := by
  unfold Runs
  go_enter Try.func74, Try.ntmps74
  go_wp2_with (go_at_call 77; refine Hs.out.mono ?_; rintro e w' ⟨rfl, rfl⟩)
  go_ret
  exact ⟨rfl, rfl⟩

/-- What is in F, or new. -/
def Ext (F : Nat → Prop) (w w' : World) : Nat → Prop := fun b => F b ∨ (w.heap.size ≤ b ∧ b < w'.heap.size)

theorem DiskAt.wider {F G : Nat → Prop} {w : World} {d bn bs : Nat} {vl : Value} {m : DM} (h : DiskAt F w d bn bs vl m) (hFG : ∀ b, F b → G b) (hlt : ∀ b, G b → b < w.heap.size) : DiskAt G w d bn bs vl m :=
  ⟨h.blk, hFG _ h.fd, hFG _ h.fbn, hFG _ h.fbs, h.ne, h.now.keep rfl (KeepU8.refl _ _) (fun b hb _ => hFG b hb), h.sure.keep rfl (KeepU8.refl _ _) (fun b hb _ => hFG b hb), h.loose.keep (KeepU8.refl _ _) (fun _ _ => rfl) (fun b hb _ => hFG b hb), hlt⟩

theorem spend_runs {F : Nat → Prop} {w : World} {d bn bs : Nat} {vl : Value} {m : DM} (h : DiskAt F w d bn bs vl m) (hf : m.fuse ≤ 9223372036854775807) :
    ∃ w', Runs 77 #[.pointer (some ⟨d, 0, none⟩)] w (.int .i64 (spendOf m).1) w' ∧ DiskAt F w' d bn bs vl (spendOf m).2 ∧ Keeps (fun b => b = d) w w' ∧ w'.heap.size = w.heap.size := by
  have hr := spend_raw w d m.fuse _ h.cells.c4 h.cells.c5 (h.cells.f0 4) (h.cells.f0 5) hf
  unfold spendOf
  by_cases h0 : m.fuse = 0
  · simp only [h0, if_true] at hr ⊢
    refine ⟨w.setCell ⟨d, 5, none⟩ (.bool true), hr.mono (fun e w' h => ⟨h.1, h.2.symm⟩), h.reset ?_ (fun b hb => Below.heap_setCell _ _ _ _ hb) rfl rfl rfl, (Keeps.refl (fun b => b = d) w).setCell (p := ⟨d, 5, none⟩) (fun _ => rfl) _, by simp⟩
    rw [heap_setCell_eq h.blk]; simp [h0]
  · by_cases h1 : 0 < m.fuse
    · simp only [h0, h1, if_true, if_false] at hr ⊢
      refine ⟨w.setCell ⟨d, 4, none⟩ (.int .i64 (m.fuse - 1)), hr.mono (fun e w' h => ⟨h.1, h.2.symm⟩), h.reset ?_ (fun b hb => Below.heap_setCell _ _ _ _ hb) rfl rfl rfl, (Keeps.refl (fun b => b = d) w).setCell (p := ⟨d, 4, none⟩) (fun _ => rfl) _, by simp⟩
      rw [heap_setCell_eq h.blk]; simp
    · simp only [h0, h1, if_false] at hr ⊢
      exact ⟨w, hr.mono (fun e w' h => ⟨h.1, h.2.symm⟩), h, Keeps.refl _ _, rfl⟩

/-- A change, if there is power. -/
def doesOf (m : DM) (c : Ch) : Int × DM := if m.fuse = 0 then (5, { m with down := true }) else (0, { (spendOf m).2 with now := doCh m.now c, loose := m.loose ++ [c] })

theorem ownsRow_type {w : World} {base e size n : Nat} {v : Value} {xs : List Value} (h : w.ownsRow base e size v n xs) {b : Nat} (hb : v.ownBlock = some b) : ∃ cur, w.heap[b]? = some (.cells cur e (0, 0)) := by
  rcases h.2 with ⟨rfl, _⟩ | ⟨g, cap, cur, rfl, _, hg, _⟩
  · cases hb
  · cases hb; exact ⟨cur, hg⟩
theorem ownsRow_slice {w : World} {base e size n : Nat} {v : Value} {xs : List Value} (h : w.ownsRow base e size v n xs) : ∃ a c, v = .slice a n c := by
  rcases h.2 with ⟨rfl, rfl⟩ | ⟨g, cap, cur, rfl, _⟩
  · exact ⟨_, _, rfl⟩
  · exact ⟨_, _, rfl⟩

theorem does_calls {F : Nat → Prop} {w : World} {d : Nat} {m : DM} (h : DiskIs F w d m) (c : Ch) {pv : Value} (hp : Bytes F w pv c.p) (hfit : Fits m.now c) (hf : m.fuse ≤ 9223372036854775807) (hl : m.loose.length < 1099511627776) :
    ∃ w', Runs 74 #[.pointer (some ⟨d, 0, none⟩), .agg #[.int .i64 c.kind, .string c.a, .string c.b, pv]] w (.int .i64 (doesOf m c).1) w' ∧ DiskIs (Ext F w w') w' d (doesOf m c).2 ∧ Keeps F w w' := by
  obtain ⟨bn, bs, vl, h⟩ := h
  have hlt := h.lt
  have h0 : DiskAt F (w.alloc (.cells #[.int .i64 c.kind, .string c.a, .string c.b, pv] 129)) d bn bs vl m := h.keep (fun b hb => Below.heap_alloc _ _ _ (hlt b hb))
  have hp0 : Bytes F (w.alloc (.cells #[.int .i64 c.kind, .string c.a, .string c.b, pv] 129)) pv c.p := hp.keep ((KeepU8.refl F w).alloc _) (fun _ h _ => h)
  obtain ⟨w1, hs, h1, k1, z1⟩ := spend_runs h0 hf
  have hdlt := hlt d h.fd
  have z1' : w1.heap.size = w.heap.size + 1 := by rw [z1]; simp
  by_cases hz : m.fuse = 0
  · have e1 : (spendOf m).1 = 5 := by simp [spendOf, hz]
    have e2 : (spendOf m).2 = { m with down := true } := by simp [spendOf, hz]
    rw [e1] at hs
    rw [e2] at h1
    refine ⟨w1, ?_, ?_, ?_⟩
    · rw [show (doesOf m c).1 = 5 by simp [doesOf, hz]]
      exact does_dead w w1 d c.kind c.a c.b pv hs
    · rw [show (doesOf m c).2 = { m with down := true } by simp [doesOf, hz]]
      exact ⟨bn, bs, vl, h1.wider (fun b hb => .inl hb) (fun b hb => by rcases hb with hb | hb; exact h1.lt b hb; exact hb.2)⟩
    · exact ((Keeps.refl F w).alloc _).trans k1 (fun b _ e => by subst e; exact h.fd)
  · have e1 : (spendOf m).1 = 0 := by simp only [spendOf, hz, if_false]; split <;> rfl
    have e2 : (spendOf m).2.now = m.now := by simp only [spendOf, hz, if_false]; split <;> rfl
    have e3 : (spendOf m).2.loose = m.loose := by simp only [spendOf, hz, if_false]; split <;> rfl
    rw [e1] at hs
    have hb1 : w1.heap[w.heap.size]? = some (.cells #[.int .i64 c.kind, .string c.a, .string c.b, pv] 129 (0, 0)) := k1.at (heap_alloc_new w _) (by omega)
    have hp1 : Bytes F w1.drew pv c.p := hp0.keep ((KeepU8.of_keeps k1 (fun g cs fz _ e hg => by subst e; rw [h0.blk] at hg; simp at hg)).drew) (fun _ h _ => h)
    have hn1 : MapFs F w1.drew bn m.now := by rw [← e2]; exact h1.now.keep rfl (KeepU8.refl _ _).drew (fun _ h _ => h)
    obtain ⟨w2, hd, h2, k2⟩ := do_calls hn1 c hp1 hfit
    have k2 := k2.undrew
    have z2 := k2.size
    have hdn : d ≠ bn := fun e => by subst e; exact h.now.notU8 _ _ _ h.blk
    have hd2 : w2.heap[d]? = _ := k2.at h1.blk hdn
    have hb2 : w2.heap[w.heap.size]? = _ := k2.at hb1 (by have := hlt bn h.fbn; omega)
    have hl2 : ChsAt F w2 vl m.loose := by
      rw [← e3]
      refine h1.loose.keep (KeepU8.of_keeps k2 (fun g cs fz _ e hg => by subst e; exact h1.now.notU8 _ _ _ hg)) (fun b hb => ?_) (fun _ h _ => h)
      obtain ⟨_, _, hr, _⟩ := h1.loose
      obtain ⟨cur, hg⟩ := ownsRow_type hr hb
      exact k2.block b (lt_of_heap hg) (fun e => by subst e; exact h1.now.notU8 _ _ _ hg)
    obtain ⟨ps, r1, r2, r3⟩ := hl2
    obtain ⟨i0, hi, hz0, hz1, hz2⟩ := info_parts info_change
    have r2' : ((w2.alloc (.cells #[.int .i64 c.kind, .string c.a, .string c.b, pv] 129)).drew).ownsRow 0 129 4 vl m.loose.length (chCells ps m.loose) := (r2.alloc _).drew
    have hpv : pv.oneCell' = true := by obtain ⟨a, cap, rfl, _⟩ := hp.form; rfl
    obtain ⟨v', w3, hrun, r4, hg3, _, hat⟩ := run_append_own_at (P := Try.prog) ((w2.alloc (.cells #[.int .i64 c.kind, .string c.a, .string c.b, pv] 129)).drew) 0 123 123 129 i0 _ 4 64 Try.underlying123 hi hz0 hz1 hz2 rfl (by omega)
      vl m.loose.length (chCells ps m.loose) r2' ⟨w2.heap.size, 0, none⟩ 1 1 [.int .i64 c.kind, .string c.a, .string c.b, pv] rfl
      (fun j u hu => by
        rw [Addr.add_lit, Nat.zero_add]
        exact cell_at (fz := (0, 0)) (heap_alloc_new w2 (.cells #[.int .i64 c.kind, .string c.a, .string c.b, pv] 129)) (by simpa using hu))
      (by intro u hu; simp at hu; rcases hu with rfl | rfl | rfl | rfl <;> first | rfl | exact hpv) (by unfold maxLen; omega) (by omega) (Nat.zero_le _)
    obtain ⟨va, vc, rfl⟩ := ownsRow_slice r4
    obtain ⟨la, lc, rfl⟩ := ownsRow_slice r2
    have hrow : ∀ b, (Value.slice la m.loose.length lc).ownBlock = some b → ∃ cur, w2.heap[b]? = some (.cells cur 129 (0, 0)) := fun b hb => ownsRow_type r2 hb
    have k3 : Keeps (fun b => (Value.slice la m.loose.length lc).ownBlock = some b) w2 w3 := (((Keeps.refl _ w2).alloc _).drew).trans (Keeps.of_grown hg3) (fun _ _ h => h)
    have hd3 : w3.heap[d]? = _ := k3.at hd2 (fun e => by obtain ⟨cur, hc⟩ := hrow d e; rw [hd2] at hc; simp at hc)
    have ku2 : ∀ G, KeepU8 G w2 w3 := fun G => KeepU8.of_keeps k3 (fun g cs fz _ e hg => by obtain ⟨cur, hc⟩ := hrow g e; rw [hc] at hg; simp at hg)
    have hd2lt := lt_of_heap hd2
    have z3 := k3.size
    have key := does_raw w w1 w2 w3 d bn c.kind c.a c.b pv la va m.loose.length lc (m.loose.length + 1) vc hs hd h1.cells.c1 hb1 (cell_at hd2 rfl) hb2 hd2lt hrun (cell_at hd3 rfl) (free_at hd3 3)
    refine ⟨w3.setCell ⟨d, 3, none⟩ (.slice va (m.loose.length + 1) vc), ?_, ?_, ?_⟩
    rotate_left
    · refine ⟨bn, bs, .slice va (m.loose.length + 1) vc, ?_⟩
      have ku3 : ∀ G, KeepU8 G w3 (w3.setCell ⟨d, 3, none⟩ (.slice va (m.loose.length + 1) vc)) := fun G => (KeepU8.refl G w3).setCell (fun cs fz e => by rw [hd3] at e; simp at e) _
      have ku1 : ∀ G, KeepU8 G w1 w2 := fun G => KeepU8.of_keeps k2 (fun g cs fz _ e hg => by subst e; exact h1.now.notU8 _ _ _ hg)
      have hne : ∀ b, b ≠ d → (w3.setCell ⟨d, 3, none⟩ (.slice va (m.loose.length + 1) vc)).heap[b]? = w3.heap[b]? := fun b hb => Below.heap_setCell _ _ _ _ hb
      have eF : ∀ b, F b → Ext F w (w3.setCell ⟨d, 3, none⟩ (.slice va (m.loose.length + 1) vc)) b := fun b hb => .inl hb
      have hds : bs ≠ d := fun e => by subst e; exact h.sure.notU8 _ _ _ h.blk
      have hmap : ∀ b fs G, MapFs G w2 b fs → w3.heap[b]? = w2.heap[b]? := fun b fs G hm => k3.block b hm.lt (fun e => by obtain ⟨cur, hc⟩ := hrow b e; exact hm.notU8 _ _ _ hc)
      have hs2 : MapFs F w2 bs m.sure := by
        have e4 : (spendOf m).2.sure = m.sure := by simp only [spendOf, hz, if_false]; split <;> rfl
        rw [← e4]
        exact h1.sure.keep (k2.block bs h1.sure.lt (fun e => h.ne e.symm)) (ku1 F) (fun _ h _ => h)
      rw [show (doesOf m c).2 = { (spendOf m).2 with now := doCh m.now c, loose := m.loose ++ [c] } by simp [doesOf, hz]]
      refine ⟨?_, eF d h.fd, eF bn h.fbn, eF bs h.fbs, h.ne, ?_, ?_, ?_, ?_⟩
      · rw [heap_setCell_eq hd3]; simp
      · exact h2.keep ((hne bn (Ne.symm hdn)).trans (hmap bn _ _ h2)) ((ku2 _).trans (ku3 _)) (fun b hb hb2 => by rcases hb with hb | hb; exact .inl hb; exact .inr ⟨by simp at hb; omega, by simp; omega⟩)
      · have e4 : (spendOf m).2.sure = m.sure := by simp only [spendOf, hz, if_false]; split <;> rfl
        simp only [e4]
        exact hs2.keep ((hne bs hds).trans (hmap bs _ _ hs2)) ((ku2 _).trans (ku3 _)) (fun b hb _ => eF b hb)
      · have hlen : ps.length = m.loose.length := r1.length
        refine ⟨ps ++ [pv], ?_, ?_, ?_⟩
        · refine Rel2.append (r1.mono (fun p c' hpc => hpc.keep ((ku2 _).trans (ku3 _)) (fun b hb _ => eF b hb))) ⟨?_, trivial⟩
          exact hp1.keep (((ku1 F)).trans ((ku2 _).trans (ku3 _))) (fun b hb _ => eF b hb)
        · rw [chCells_snoc _ _ _ _ hlen]
          simp only [List.length_append, List.length_cons, List.length_nil]
          refine ownsRow_setCell_other r4 (fun e => ?_) _
          obtain ⟨cur, hc⟩ := ownsRow_type r4 e
          rw [hd3] at hc; simp at hc
        · intro b hb
          have hb3 := (r4.lt b hb).2
          by_cases hlt2 : b < w2.heap.size
          · refine .inl (r3 b ?_)
            by_cases e : (Value.slice la m.loose.length lc).ownBlock = some b
            · exact e
            · obtain ⟨cur, hc⟩ := ownsRow_type r4 hb
              exfalso
              rcases hat with h | h
              · rw [← h] at e; exact e hb
              · rw [hb] at h; simp at h; omega
          · exact .inr ⟨by omega, by simpa using hb3⟩
      · intro b hb
        rcases hb with hb | hb
        · have := hlt b hb; simp; omega
        · exact hb.2
    · refine Keeps.setCell ?_ (fun _ => h.fd) _
      have a1 : Keeps F w w1 := ((Keeps.refl F w).alloc _).trans k1 (fun b _ e => by subst e; exact h.fd)
      have a2 : Keeps F w w2 := a1.trans k2 (fun b _ e => by subst e; exact h.fbn)
      exact a2.trans k3 (fun b _ e => r3 b e)
    · rw [show (doesOf m c).1 = 0 by simp [doesOf, hz]]
      exact key

end Go.Proofs.Ytlinkpjneehnbaa
