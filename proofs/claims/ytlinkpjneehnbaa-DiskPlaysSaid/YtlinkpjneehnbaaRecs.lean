/- Rows of records: slices of slices of bytes, in new memory. -/
import Derived.Test.YtlinkpjneehnbaaScanV
namespace Go.Proofs.Ytlinkpjneehnbaa
open Go.RowKit Go.MapKept

theorem info_bytes : (Try.prog.info? 31).map (fun i => (i.zero, i.size, i.bytes)) = some (some (.slice none 0 0), 1, 24) := by kernel_rfl

/-- 'append(out, p)', p already stored in a row of its own. -/
theorem row_push {w : World} {base n : Nat} {v p : Value} {ps : List Value} (h : w.ownsRow base 31 1 v n ps) (hz : base ≤ w.heap.size) (hp : p.oneCell' = true) (hb : n < 1099511627776) :
    ∃ v' w', (Builtin.append_ #[34, 34] 34 #[v, .slice (some ⟨w.heap.size, 0, none⟩) 1 1]).run Try.prog (w.alloc (.cells #[p] 31)) = .ok v' w' ∧ w'.ownsRow base 31 1 v' (n + 1) (ps ++ [p]) ∧
      Keeps (fun b => v.ownBlock = some b) w w' ∧ (v'.ownBlock = v.ownBlock ∨ v'.ownBlock = some (w.heap.size + 1)) := by
  obtain ⟨i0, hi, hz0, hz1, hz2⟩ := info_parts info_bytes
  obtain ⟨v', w', hrun, ho2, hg, _, hat⟩ := run_append_own_at (P := Try.prog) (w.alloc (.cells #[p] 31)) base 34 34 31 i0 _ 1 24 Try.underlying34 hi hz0 hz1 hz2 rfl (by omega) v n ps (h.alloc _) ⟨w.heap.size, 0, none⟩ 1 1 [p] rfl
    (fun j u hu => by
      rw [Addr.add_lit, Nat.zero_add]
      exact cell_at (heap_alloc_new w _) (by simpa using hu))
    (by intro u hu; simp at hu; subst hu; exact hp) (by unfold maxLen; omega) (by omega) (by simp only [World.size_alloc]; omega)
  refine ⟨v', w', hrun, ho2, ((Keeps.refl _ w).alloc _).trans (Keeps.of_grown hg) (fun _ _ h => h), ?_⟩
  simpa using hat
theorem row_keep {w w' : World} {base e n : Nat} {v : Value} {xs : List Value} (h : w.ownsRow base e 1 v n xs) {F : Nat → Prop} (hk : Keeps F w w') (hF : ∀ b, v.ownBlock = some b → ¬ F b) : w'.ownsRow base e 1 v n xs := by
  obtain ⟨h1, h2⟩ := h
  refine ⟨h1, ?_⟩
  rcases h2 with h2 | ⟨g, cap, cur, rfl, hg, hb, h3, h4, h5, h6⟩
  · exact .inl h2
  · exact .inr ⟨g, cap, cur, rfl, hg, hk.at hb (hF g rfl), h3, h4, h5, h6⟩
theorem row_lt {w : World} {base e n : Nat} {v : Value} {xs : List Value} (h : w.ownsRow base e 1 v n xs) : ∀ b, v.ownBlock = some b → b < w.heap.size ∧ base ≤ b := by
  rcases h.2 with ⟨rfl, _⟩ | ⟨g, cap, cur, rfl, hg, hb, _⟩
  · intro b hb; cases hb
  · intro b hb'
    cases hb'
    exact ⟨lt_of_heap hb, hg⟩
theorem row_base {w : World} {base base' e n : Nat} {v : Value} {xs : List Value} (h : w.ownsRow base e 1 v n xs) (hb : base' ≤ base) : w.ownsRow base' e 1 v n xs := by
  obtain ⟨h1, h2⟩ := h
  refine ⟨h1, ?_⟩
  rcases h2 with h2 | ⟨g, cap, cur, rfl, hg, h3⟩
  · exact .inl h2
  · exact .inr ⟨g, cap, cur, rfl, by omega, h3⟩
/-- A row of bytes and a row of slices never lie in one block. -/
theorem row_ne {w : World} {base base' n n' : Nat} {v p : Value} {xs ys : List Value} (h : w.ownsRow base 31 1 v n xs) (k : w.ownsRow base' 5 1 p n' ys) {b : Nat} (hb : v.ownBlock = some b) (hb' : p.ownBlock = some b) : False := by
  obtain ⟨c1, e1⟩ := ownsRow_type h hb
  obtain ⟨c2, e2⟩ := ownsRow_type k hb'
  have := e1.symm.trans e2
  simp at this
/-- The slice v is a row of new memory; what stands in it are rows of new memory, each another one, that read as these lists. -/
def OwnsRecs (w : World) (base : Nat) (v : Value) (ll : List (List UInt8)) : Prop :=
  ∃ ps : List Value, w.ownsRow base 31 1 v ll.length ps ∧ Rel2 (fun p l => Owns w base p l) ps ll ∧ ps.Pairwise (fun p q => ∀ b, p.ownBlock = some b → q.ownBlock ≠ some b)
theorem OwnsRecs.nil (w : World) (base : Nat) : OwnsRecs w base (.slice none 0 0) [] := ⟨[], ⟨rfl, .inl ⟨rfl, rfl⟩⟩, trivial, List.Pairwise.nil⟩
theorem Rel2.mem {α β : Type} {R : α → β → Prop} : ∀ {l : List α} {m : List β}, Rel2 R l m → ∀ a ∈ l, ∃ b, R a b
  | a :: xs, b :: bs, h, x, hx => by
    rcases List.mem_cons.1 hx with rfl | hx
    · exact ⟨b, h.1⟩
    · exact Rel2.mem h.2 x hx
  | [], _, _, x, hx => by simp at hx
  | _ :: _, [], h, _, _ => h.elim
theorem OwnsRecs.form {w : World} {base : Nat} {v : Value} {ll : List (List UInt8)} (h : OwnsRecs w base v ll) : ∃ a c, v = .slice a ll.length c := by
  obtain ⟨ps, h1, _⟩ := h
  exact ownsRow_slice h1
theorem OwnsRecs.le {w : World} {base n c : Nat} {a : Option Addr} {ll : List (List UInt8)} (h : OwnsRecs w base (.slice a n c) ll) : n ≤ c := by
  obtain ⟨ps, h1, _⟩ := h
  rcases h1.2 with ⟨e, _⟩ | ⟨g, cap, cur, e, _, _, h3, _⟩
  · cases e; exact Nat.le_refl _
  · cases e; exact h3
theorem OwnsRecs.keep {w w' : World} {base : Nat} {v : Value} {ll : List (List UInt8)} (h : OwnsRecs w base v ll) (hk : Keeps (fun _ => False) w w') : OwnsRecs w' base v ll := by
  obtain ⟨ps, h1, h2, h3⟩ := h
  exact ⟨ps, row_keep h1 hk (fun _ _ e => e), h2.mono (fun p l hp => hp.keep hk), h3⟩
/-- One record more, made since w0. -/
theorem OwnsRecs.push {w0 w : World} {base : Nat} {v p : Value} {ll : List (List UInt8)} {l : List UInt8} (h : OwnsRecs w0 base v ll) (hz : base ≤ w0.heap.size) (hk0 : Keeps (fun _ => False) w0 w) (hp : Owns w w0.heap.size p l) (hb : ll.length < 1099511627776) :
    ∃ v' w', (Builtin.append_ #[34, 34] 34 #[v, .slice (some ⟨w.heap.size, 0, none⟩) 1 1]).run Try.prog (w.alloc (.cells #[p] 31)) = .ok v' w' ∧ OwnsRecs w' base v' (ll ++ [l]) ∧ Keeps (fun b => v.ownBlock = some b) w w' := by
  obtain ⟨ps, h1, h2, h3⟩ := h
  have hp1 : p.oneCell' = true := by obtain ⟨a, c, rfl, _⟩ := hp.bytes.form; rfl
  have h1' := row_keep h1 hk0 (fun _ _ e => e)
  obtain ⟨v', w', hr, ho, hk, _⟩ := row_push h1' (Nat.le_trans hz hk0.size) hp1 hb
  refine ⟨v', w', hr, ⟨ps ++ [p], by rw [List.length_append]; exact ho, ?_, ?_⟩, hk⟩
  · have hp2 : Owns w' w0.heap.size p l := owns_keep hp hk (fun b hb e => row_ne h1' hp e hb)
    refine Rel2.append (h2.mono (fun q m hq => ?_)) ⟨hp2.base hz, trivial⟩
    have hq' := hq.keep hk0
    exact owns_keep hq' hk (fun b hb e => row_ne h1' hq' e hb)
  · rw [List.pairwise_append]
    refine ⟨h3, List.pairwise_singleton .., fun q hq r hr b hb e => ?_⟩
    simp at hr
    subst hr
    obtain ⟨m, hm⟩ := h2.mem q hq
    have e1 := owns_lt hm b hb
    have e2 := owns_lt hp b e
    omega
/-- The k-th record. -/
theorem OwnsRecs.cell {w : World} {base n c : Nat} {a : Option Addr} {ll : List (List UInt8)} (h : OwnsRecs w base (.slice a n c) ll) {k : Nat} {l : List UInt8} (hk : ll[k]? = some l) :
    n = ll.length ∧ ∃ x p, a = some x ∧ w.cell? (x.add k) = some p ∧ Owns w base p l := by
  obtain ⟨ps, h1, h2, h3⟩ := h
  obtain ⟨p, hp, ho⟩ := h2.get' hk
  obtain ⟨b, d, e⟩ := ownsRow_slice h1
  cases e
  rcases h1.2 with ⟨e, e2⟩ | ⟨g, cap, cur, e, _⟩
  · have := (List.getElem?_eq_some_iff.1 hk).1; omega
  · cases e
    exact ⟨rfl, _, p, rfl, h1.cells (g := g) rfl k p hp, ho⟩

/-- 'append([]byte{}, p...)'. -/
theorem copy_run {w : World} {pv : Value} {p : List UInt8} (hp : Reads w pv p) (hb : p.length ≤ 140737488355328) :
    ∃ v' w', (Builtin.append_ #[31, 31] 31 #[.slice (some ⟨w.heap.size, 0, none⟩) 0 0, pv]).run Try.prog (w.alloc (.cells #[] 5)) = .ok v' w' ∧ Owns w' w.heap.size v' p ∧ Keeps (fun _ => False) w w' := by
  have hk : Keeps (fun _ => False) w (w.alloc (.cells #[] 5)) := (Keeps.refl _ w).alloc _
  have ho : Owns (w.alloc (.cells #[] 5)) w.heap.size (.slice (some ⟨w.heap.size, 0, none⟩) 0 0) [] :=
    ⟨rfl, .inr ⟨w.heap.size, 0, #[], rfl, Nat.le_refl _, heap_alloc_new w _, Nat.le_refl _, Nat.zero_le _, by simp, by simp⟩⟩
  obtain ⟨v', w', hr, h2, hk2⟩ := ho.grow (by simp) (hp.keep hk) (by simpa using hb)
  refine ⟨v', w', hr, by simpa using h2, hk.trans hk2 (fun b hb e => ?_)⟩
  have : w.heap.size = b := by simpa [Value.ownBlock] using e
  omega

/-- A call that makes a row of records, and tells a number. -/
def RPost (w : World) (ll : List (List UInt8)) (n : Int) (e : Ending) (w' : World) : Prop := ∃ v, e = .returned (.tuple #[v, .int .i64 n]) ∧ OwnsRecs w' w.heap.size v ll ∧ Keeps (fun _ => False) w w'
end Go.Proofs.Ytlinkpjneehnbaa
