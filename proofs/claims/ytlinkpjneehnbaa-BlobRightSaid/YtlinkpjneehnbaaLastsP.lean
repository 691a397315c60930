/- What the walk of JournalLasts does to its rows: a record more, a copy; a fuse; whether the disk is down. -/
import Derived.Test.YtlinkpjneehnbaaLastsK
import Derived.Test.YtlinkpjneehnbaaPkE
import Derived.Test.YtlinkpjneehnbaaSmall
namespace Go.Proofs.Ytlinkpjneehnbaa
set_option linter.unusedVariables false
open Go.RowKit Go.MapKept

theorem Own.fuse {w wr : World} {d : Nat} {m : DM} {rs : List (Res w.heap.size)} (h : Own w wr (rDisk w.heap.size d m :: rs)) (n : Int) :
    ∃ w', Runs 44 #[.pointer (some ⟨d, 0, none⟩), .int .i64 n] wr (.int .i64 (fuseOf m n).1) w' ∧ Own w w' (rDisk w.heap.size d (fuseOf m n).2 :: rs) := by
  obtain ⟨F, h1, back⟩ := h.disk
  obtain ⟨w', hr, h2, k⟩ := fuse_runs h1 n
  exact ⟨w', hr, (back _ (.returned (.int .i64 (fuseOf m n).1)) w' ⟨rfl, h2, k⟩).2⟩
theorem Own.down {w wr : World} {d : Nat} {m : DM} {rs : List (Res w.heap.size)} (h : Own w wr (rDisk w.heap.size d m :: rs)) : Runs 47 #[.pointer (some ⟨d, 0, none⟩)] wr (.bool m.down) wr := by
  obtain ⟨F, h1, _⟩ := h.disk
  exact down_runs h1
/-- 'append(ll, p)'. -/
theorem Own.pushRec {w wr w1 : World} {rs : List (Res w.heap.size)} {v p : Value} {ll : List (List UInt8)} {l : List UInt8} (h : Own w wr (rRows w.heap.size v ll :: rs)) (hp : Owns w1 wr.heap.size p l) (hk : Keeps (fun _ => False) wr w1) (hb : ll.length < 1099511627776) :
    ∃ a c w', (Builtin.append_ #[34, 34] 34 #[v, .slice (some ⟨w1.heap.size, 0, none⟩) 1 1]).run Try.prog (w1.alloc (.cells #[p] 31)) = .ok (.slice a (ll.length + 1) c) w' ∧ Own w w' (rRows w.heap.size (.slice a (ll.length + 1) c) (ll ++ [l]) :: rs) := by
  have hz := h.keeps.size
  obtain ⟨F, ⟨ps, G, h1, h2, h3, h4⟩, hF, back⟩ := h.open1
  have hp1 : p.oneCell' = true := by obtain ⟨a, c, rfl, _⟩ := hp.bytes.form; rfl
  have h1' := row_keep h1 hk (fun _ _ e => e)
  obtain ⟨v', w', hr, ho, hk2, hat⟩ := row_push h1' (Nat.zero_le _) hp1 hb
  obtain ⟨a, c, e⟩ := ownsRow_slice ho
  subst e
  have hkF : Keeps F wr w' := (hk.mono (fun _ _ e => e.elim)).trans hk2 (fun b _ e => (h4 b e).1)
  have hsz := hk.size
  have hsz2 := hk2.size
  have hp2 : Owns w' wr.heap.size p l := owns_keep hp hk2 (fun b hb e => row_ne h1' hp e hb)
  refine ⟨a, c, w', hr, back w' (rRows _ (.slice a (ll.length + 1) c) (ll ++ [l])) hkF ⟨ps ++ [p], fun b => G b ∨ p.ownBlock = some b, by rw [List.length_append]; exact ho, Rel2.append ?_ ⟨?_, trivial⟩, fun b hb => ?_, fun b hb => ?_⟩⟩
  · refine h2.mono (fun q m hq => (hq.keep (fun b hb => ?_)).wider (fun b hb => .inl hb))
    have hlt : b < wr.heap.size := by
      rcases hb with hb | hb
      · exact (hF b (h3 b hb)).2
      · omega
    refine (hk2.block b (by omega) (fun e => ?_)).trans (hk.block b hlt (fun e => e))
    obtain ⟨_, e2, e3⟩ := h4 b e
    rcases hb with hb | hb
    · exact e3 hb
    · omega
  · exact (ReadsF.of_owns hp2).wider (fun b hb => .inr hb)
  · rcases hb with hb | hb
    · exact .inl (h3 b hb)
    · have := owns_lt hp b hb
      exact .inr ⟨by omega, by omega⟩
  · have hlt := row_lt ho b hb
    rcases hat with hat | hat
    · rw [hat] at hb
      obtain ⟨e1, e2, e3⟩ := h4 b hb
      exact ⟨.inl e1, e2, fun e => by rcases e with e | e; exact e3 e; exact row_ne h1' hp hb e⟩
    · rw [hat] at hb
      cases hb
      refine ⟨.inr ⟨by omega, hlt.1⟩, by omega, fun e => ?_⟩
      rcases e with e | e
      · have := hF _ (h3 _ e); omega
      · have := owns_lt hp _ e; omega
theorem rel_of_get {α β : Type} {R : α → β → Prop} : ∀ (l : List β) (f : Nat → α), (∀ i b, l[i]? = some b → R (f i) b) → Rel2 R ((List.range l.length).map f) l
  | [], _, _ => trivial
  | b :: l, f, h => by
    rw [List.length_cons, List.range_succ_eq_map, List.map_cons, List.map_map]
    exact ⟨h 0 b rfl, rel_of_get l (f ∘ Nat.succ) (fun i b' hb => h (i + 1) b' (by simpa using hb))⟩
/-- 'append([][]byte{}, ll...)', of records of old memory. -/
theorem Own.copyRows {w wr : World} {rs : List (Res w.heap.size)} (h : Own w wr rs) {a : Option Addr} {c : Nat} {ll : List (List UInt8)} (hr : RowsIn w (.slice a ll.length c) ll) (hb : ll.length < 1099511627776) :
    ∃ a' c' w', (Builtin.append_ #[34, 34] 34 #[.slice (some ⟨wr.heap.size, 0, none⟩) 0 0, .slice a ll.length c]).run Try.prog (wr.alloc (.cells #[] 31)) = .ok (.slice a' ll.length c') w' ∧ Own w w' (rRows w.heap.size (.slice a' ll.length c') ll :: rs) := by
  have hz := h.keeps.size
  obtain ⟨i0, hi, hz0, hz1, hz2⟩ := info_parts info_bytes
  have ho0 : (wr.alloc (.cells #[] 31)).ownsRow 0 31 1 (.slice (some ⟨wr.heap.size, 0, none⟩) 0 0) 0 [] := ⟨rfl, .inr ⟨wr.heap.size, 0, #[], rfl, Nat.zero_le _, heap_alloc_new wr _, Nat.le_refl _, Nat.zero_le _, rfl, rfl⟩⟩
  have hk0 := (Keeps.refl (fun _ => False) wr).alloc (.cells #[] 31)
  obtain ⟨a2, c2, e, hrow⟩ := hr
  simp only [Value.slice.injEq] at e
  obtain ⟨rfl, -, rfl⟩ := e
  cases a with
  | none =>
    have hll : ll = [] := by
      cases ll with
      | nil => rfl
      | cons p ll => obtain ⟨x, p, e, _⟩ := hrow 0 p rfl; cases e
    subst hll
    refine ⟨some ⟨wr.heap.size, 0, none⟩, 0, wr.alloc (.cells #[] 31), ?_, h.add hk0 (r := rRows _ (.slice (some ⟨wr.heap.size, 0, none⟩) 0 0) []) (G := fun b => b = wr.heap.size) ⟨[], fun _ => False, ho0, trivial, fun _ e => e.elim, fun b hb => by cases hb; exact ⟨rfl, by omega, fun e => e⟩⟩ (fun b hb => by simp; omega)⟩
    simp [Builtin.append_, run_underlying Try.underlying34, sizeOf, typeInfo, hi, Builtin.lenOf, Builtin.firstCells, storeCells]
  | some x =>
    have hk1 := h.keeps.trans hk0 (fun _ _ e => e)
    obtain ⟨f, hf⟩ : ∃ f : Nat → Value, f = fun i => (w.cell? (x.add i)).getD (.bool false) := ⟨_, rfl⟩
    have hfi : ∀ i l, ll[i]? = some l → w.cell? (x.add i) = some (f i) ∧ Reads w (f i) l := fun i l hl => by
      obtain ⟨x', p, e, hc, hrd⟩ := hrow i l hl
      cases e
      rw [hf]; simp only [hc, Option.getD_some]; exact ⟨trivial, hrd⟩
    have hget : ∀ (j : Nat) u, ((List.range ll.length).map f)[j]? = some u → ∃ l, ll[j]? = some l ∧ u = f j := fun j u hu => by
      rw [List.getElem?_map] at hu
      by_cases hj : j < ll.length
      · rw [List.getElem?_range hj] at hu
        simp at hu
        exact ⟨ll[j], List.getElem?_eq_getElem hj, hu.symm⟩
      · rw [List.getElem?_eq_none (by simp; omega)] at hu; cases hu
    obtain ⟨v', w', hrun, ho2, hg, _, hat⟩ := run_append_own_at (P := Try.prog) (wr.alloc (.cells #[] 31)) 0 34 34 31 i0 _ 1 24 Try.underlying34 hi hz0 hz1 hz2 rfl (by omega) _ 0 [] ho0 x ll.length c ((List.range ll.length).map f) (by simp)
      (fun j u hu => by
        obtain ⟨l, hl, rfl⟩ := hget j u hu
        obtain ⟨hc, _⟩ := hfi j l hl
        have := hk1.block _ (World.block_lt_of_cell? w _ hc) (fun e => e)
        rw [World.cell?_of_block this]; exact hc)
      (fun u hu => by
        obtain ⟨j, hj⟩ := List.getElem?_of_mem hu
        obtain ⟨l, hl, rfl⟩ := hget j u hj
        obtain ⟨_, hrd⟩ := hfi j l hl
        obtain ⟨_, _, e, _⟩ := hrd.form
        rw [e]; rfl) (by unfold maxLen; omega) (by omega) (Nat.zero_le _)
    rw [Nat.zero_add, List.nil_append] at ho2
    obtain ⟨a', c', e⟩ := ownsRow_slice ho2
    subst e
    have hkw : Keeps (fun _ => False) wr w' := hk0.trans (Keeps.of_grown hg) (fun b hb e => by
      simp only [Value.ownBlock, Option.some.injEq] at e
      omega)
    have hkw2 := h.keeps.trans hkw (fun _ _ e => e)
    have hsz := hkw.size
    refine ⟨a', c', w', hrun, h.add hkw (r := rRows _ (.slice a' ll.length c') ll) (G := fun b => (Value.slice a' ll.length c').ownBlock = some b) ⟨_, fun _ => False, ho2, rel_of_get ll f (fun i l hl => ?_), fun _ e => e.elim, fun b hb => ⟨hb, ?_, fun e => e⟩⟩ (fun b hb => ?_)⟩
    · exact (ReadsF.of_old (hfi i l hl).2 (Nat.le_refl _)).keep (fun b hb => by
        rcases hb with hb | hb
        · exact hb.elim
        · exact hkw2.block b hb (fun e => e))
    · rcases hat with hat | hat <;> rw [hat] at hb <;> simp [Value.ownBlock] at hb <;> omega
    · have hlt := row_lt ho2 b hb
      refine ⟨?_, hlt.1⟩
      rcases hat with hat | hat <;> rw [hat] at hb <;> simp [Value.ownBlock] at hb <;> omega
end Go.Proofs.Ytlinkpjneehnbaa
