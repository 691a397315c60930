/- Variables that closures capture, rows of bytes that grow: as things that do not touch. -/
import Derived.Test.YtlinkpjneehnbaaOwn
import Derived.Test.YtlinkpjneehnbaaGood
import Derived.Test.YtlinkpjneehnbaaRecs
namespace Go.Proofs.Ytlinkpjneehnbaa
open Go.RowKit Go.MapKept

theorem rel_mem {α β : Type} {R : α → β → Prop} : ∀ {Fs : List α} {rs : List β}, Rel2 R Fs rs → ∀ r ∈ rs, ∃ F ∈ Fs, R F r
  | F :: Fs, s :: rs, h, r, hr => by
    rcases List.mem_cons.1 hr with rfl | hr
    · exact ⟨F, List.mem_cons_self .., h.1⟩
    · obtain ⟨G, hG, h2⟩ := rel_mem h.2 r hr
      exact ⟨G, List.mem_cons_of_mem _ hG, h2⟩
  | _, [], _, r, hr => by simp at hr
  | [], _ :: _, h, _, _ => h.elim
theorem Own.mem {w wr : World} {rs : List (Res w.heap.size)} (h : Own w wr rs) {r : Res w.heap.size} (hr : r ∈ rs) : ∃ F : Nat → Prop, r.is F wr ∧ ∀ b, F b → w.heap.size ≤ b ∧ b < wr.heap.size := by
  obtain ⟨k, Fs, h1, h2⟩ := h
  obtain ⟨F, hF, h3, h4⟩ := rel_mem h1 r hr
  exact ⟨F, h3, h4⟩

/-! ### A block -/
def rObj (B b : Nat) (o : Obj) : Res B := ⟨fun F w => F b ∧ w.heap[b]? = some o, fun _ _ _ h hk => ⟨h.1, (hk _ (.inl h.1)).trans h.2⟩⟩
theorem Own.at {w wr : World} {rs : List (Res w.heap.size)} (h : Own w wr rs) {b : Nat} {o : Obj} (hr : rObj w.heap.size b o ∈ rs) : wr.heap[b]? = some o ∧ w.heap.size ≤ b ∧ b < wr.heap.size := by
  obtain ⟨F, h1, h2⟩ := h.mem hr
  exact ⟨h1.2, h2 b h1.1⟩
theorem Own.alloc {w wr : World} {rs : List (Res w.heap.size)} (h : Own w wr rs) (o : Obj) : Own w (wr.alloc o) (rObj w.heap.size wr.heap.size o :: rs) :=
  h.add ((Keeps.refl _ wr).alloc o) (r := rObj _ wr.heap.size o) (G := fun b => b = wr.heap.size) ⟨rfl, heap_alloc_new wr o⟩ (fun b hb => by simp; omega)
theorem Own.alloc2 {w wr : World} {r : Res w.heap.size} {rs : List (Res w.heap.size)} (h : Own w wr (r :: rs)) (o : Obj) : Own w (wr.alloc o) (r :: rObj w.heap.size wr.heap.size o :: rs) := (h.alloc o).swap
theorem Own.drew {w wr : World} {rs : List (Res w.heap.size)} (h : Own w wr rs) : Own w wr.drew rs := h.quiet (Keeps.refl _ wr).drew
/-- A store into a block. -/
theorem Own.store {w wr : World} {rs : List (Res w.heap.size)} {b : Nat} {cs : Array Value} {t : TypeId} (h : Own w wr (rObj w.heap.size b (.cells cs t (0, 0)) :: rs)) (i : Nat) (u : Value) :
    Own w (wr.setCell ⟨b, i, none⟩ u) (rObj w.heap.size b (.cells (cs.setIfInBounds i u) t (0, 0)) :: rs) := by
  obtain ⟨F, h1, h2, back⟩ := h.open1
  exact back _ (rObj _ b (.cells (cs.setIfInBounds i u) t (0, 0))) ((Keeps.refl F wr).setCell (fun _ => h1.1) u) ⟨.inl h1.1, heap_setCell_eq h1.2 i u⟩

/-- The second thing is let go. -/
theorem Own.drop2 {w wr : World} {r s : Res w.heap.size} {rs : List (Res w.heap.size)} (h : Own w wr (r :: s :: rs)) : Own w wr (r :: rs) := h.swap.drop
theorem Own.drop_two {w wr : World} {r s t : Res w.heap.size} {rs : List (Res w.heap.size)} (h : Own w wr (r :: s :: t :: rs)) : Own w wr (r :: rs) := h.drop2.drop2

/-! ### A row of bytes -/
def rBytes (B : Nat) (v : Value) (l : List UInt8) : Res B :=
  ⟨fun F w => w.ownsRow 0 5 1 v l.length (l.map u8v) ∧ ∀ b, v.ownBlock = some b → F b, fun _ _ _ h hk => ⟨by
    obtain ⟨⟨h1, h2⟩, h3⟩ := h
    refine ⟨h1, ?_⟩
    rcases h2 with h2 | ⟨g, cap, cur, rfl, hg, hb, h4, h5, h6, h7⟩
    · exact .inl h2
    · exact .inr ⟨g, cap, cur, rfl, hg, (hk g (.inl (h3 g rfl))).trans hb, h4, h5, h6, h7⟩, h.2⟩⟩
theorem Own.nilBytes {w wr : World} {rs : List (Res w.heap.size)} (h : Own w wr rs) : Own w wr (rBytes w.heap.size (.slice none 0 0) [] :: rs) :=
  h.add (Keeps.refl _ wr) (r := rBytes _ (.slice none 0 0) []) (G := fun _ => False) ⟨⟨rfl, .inl ⟨rfl, rfl⟩⟩, fun b hb => by cases hb⟩ (fun _ hb => hb.elim)
theorem Own.bytes {w wr : World} {rs : List (Res w.heap.size)} {v : Value} {l : List UInt8} (h : Own w wr rs) (hm : rBytes w.heap.size v l ∈ rs) : Reads wr v l ∧ ∃ a c, v = .slice a l.length c ∧ l.length ≤ c ∧ c ≤ maxLen := by
  obtain ⟨F, h1, h2⟩ := h.mem hm
  have hB : Bytes (fun b => 0 ≤ b) wr v l := bytes_of_owns h1.1
  exact ⟨hB.reads, hB.form⟩
theorem Own.grow {w wr : World} {rs : List (Res w.heap.size)} {v : Value} {l : List UInt8} (h : Own w wr (rBytes w.heap.size v l :: rs)) {pv : Value} {p : List UInt8} (hp : Reads wr pv p) (hb : l.length + p.length ≤ 140737488355328) :
    ∃ v' w', (Builtin.append_ #[31, 31] 31 #[v, pv]).run Try.prog wr = .ok v' w' ∧ Own w w' (rBytes w.heap.size v' (l ++ p) :: rs) := by
  obtain ⟨F, h1, h2, back⟩ := h.open1
  obtain ⟨i0, hi, hz0, hz1, hz2⟩ := info_parts info_u8
  rcases hp with ⟨rfl, rfl⟩ | ⟨x, c, rfl, k1, k2, k3⟩
  · refine ⟨v, wr, append_none 31 31 31 5 i0 Try.underlying31 Try.underlying31 hi (by rw [hz1]) (bytes_of_owns h1.1) (.inl ⟨rfl, rfl⟩), ?_⟩
    rw [List.append_nil]; exact h
  · obtain ⟨v', w', hrun, ho2, hg, _, hat⟩ := run_append_own_at (P := Try.prog) wr 0 31 31 5 i0 _ 1 1 Try.underlying31 hi hz0 hz1 hz2 (by rfl) (by omega) v l.length (l.map u8v) h1.1 x p.length c (p.map u8v) (by simp) k3 (u8v_one _) (by unfold maxLen; omega) (by omega) (Nat.zero_le _)
    rw [← List.map_append, ← List.length_append] at ho2
    refine ⟨v', w', hrun, back w' (rBytes _ v' (l ++ p)) ((Keeps.of_grown hg).mono (fun b hb e => h1.2 b e)) ⟨ho2, fun b hb => ?_⟩⟩
    have hlt := (row_lt ho2 b hb).1
    rcases hat with hat | hat
    · rw [hat] at hb; exact .inl (h1.2 b hb)
    · rw [hat] at hb; cases hb; exact .inr ⟨Nat.le_refl _, hlt⟩
/-- A new row of bytes. -/
theorem Own.addBytes {w wr w' : World} {rs : List (Res w.heap.size)} (h : Own w wr rs) {v : Value} {l : List UInt8} (ho : Owns w' wr.heap.size v l) (hk : Keeps (fun _ => False) wr w') : Own w w' (rBytes w.heap.size v l :: rs) :=
  h.add hk (r := rBytes _ v l) (G := fun b => v.ownBlock = some b) ⟨row_base ho (Nat.zero_le _), fun b hb => hb⟩ (fun b hb => by have := owns_lt ho b hb; omega)

/-! ### Rows of records that are only read -/
/-- The slice v holds slices that read as these lists, in whatever memory. -/
def RowsIn (w : World) (v : Value) (ll : List (List UInt8)) : Prop :=
  ∃ a c, v = .slice a ll.length c ∧ ∀ (i : Nat) (l : List UInt8), ll[i]? = some l → ∃ x p, a = some x ∧ w.cell? (x.add i) = some p ∧ Reads w p l
theorem RowsIn.keep {w w' : World} {v : Value} {ll : List (List UInt8)} (h : RowsIn w v ll) (hk : Keeps (fun _ => False) w w') : RowsIn w' v ll := by
  obtain ⟨a, c, rfl, h2⟩ := h
  refine ⟨a, c, rfl, fun i l hi => ?_⟩
  obtain ⟨x, p, e, hc, hr⟩ := h2 i l hi
  have := hk.block _ (World.block_lt_of_cell? w _ hc) (fun e => e)
  exact ⟨x, p, e, by rw [World.cell?_of_block this]; exact hc, hr.keep hk⟩
theorem OwnsRecs.rows {w : World} {base : Nat} {v : Value} {ll : List (List UInt8)} (h : OwnsRecs w base v ll) : RowsIn w v ll := by
  obtain ⟨a, c, rfl⟩ := h.form
  refine ⟨a, c, rfl, fun i l hi => ?_⟩
  obtain ⟨_, x, p, e, hc, ho⟩ := h.cell hi
  exact ⟨x, p, e, hc, ho.bytes.reads⟩
theorem RowsIn.nil (w : World) : RowsIn w (.slice none 0 0) [] := ⟨none, 0, rfl, fun i l hi => by simp at hi⟩

/-! ### Functions that have a body -/
theorem enters_at {f : FuncId} {fn : Func} {c : Code} (hf : Try.prog.funcs[f]? = some fn) (hname : (fn.name == "runtime.NumGoroutine") = false) (hb : fn.body = some c) (args : Array Value) (w : World) : (callFunc f args).run Try.prog w = .ok (.enter f args) w := by
  have h1 : fn.name ≠ "runtime.NumGoroutine" := by simpa using hname
  simp [callFunc, hf, h1, hb, mark]
end Go.Proofs.Ytlinkpjneehnbaa
