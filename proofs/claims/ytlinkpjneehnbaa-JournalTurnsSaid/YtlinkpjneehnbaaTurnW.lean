/- The walk of JournalTurns. -/
import Derived.Test.YtlinkpjneehnbaaTurnV
import Derived.Test.YtlinkpjneehnbaaAwakeJ
import Derived.Test.YtlinkpjneehnbaaSince
import Derived.Outline
namespace Go.Proofs.Ytlinkpjneehnbaa
set_option linter.unusedVariables false
open Go.RowKit Go.MapKept

/-! ### A row of numbers -/
theorem info_int : (Try.prog.info? 3).map (fun i => (i.zero, i.size, i.bytes)) = some (some (.int .i64 0), 1, 8) := by kernel_rfl
def i64v (n : Nat) : Value := .int .i64 (n : Int)
def rInts (B : Nat) (v : Value) (l : List Nat) : Res B :=
  ⟨fun F w => w.ownsRow 0 3 1 v l.length (l.map i64v) ∧ ∀ b, v.ownBlock = some b → F b, fun _ _ _ h hk => ⟨by
    obtain ⟨⟨h1, h2⟩, h3⟩ := h
    refine ⟨h1, ?_⟩
    rcases h2 with h2 | ⟨g, cap, cur, rfl, hg, hb, h4, h5, h6, h7⟩
    · exact .inl h2
    · exact .inr ⟨g, cap, cur, rfl, hg, (hk g (.inl (h3 g rfl))).trans hb, h4, h5, h6, h7⟩, h.2⟩⟩
theorem Own.nilInts {w wr : World} {rs : List (Res w.heap.size)} (h : Own w wr rs) : Own w wr (rInts w.heap.size (.slice none 0 0) [] :: rs) :=
  h.add (Keeps.refl _ wr) (r := rInts _ (.slice none 0 0) []) (G := fun _ => False) ⟨⟨rfl, .inl ⟨rfl, rfl⟩⟩, fun b hb => by cases hb⟩ (fun _ hb => hb.elim)
theorem Own.ints {w wr : World} {rs : List (Res w.heap.size)} {v : Value} {l : List Nat} (h : Own w wr rs) (hm : rInts w.heap.size v l ∈ rs) : ∃ a c, v = .slice a l.length c ∧ l.length ≤ c ∧ c ≤ maxLen ∧ ∀ (i n : Nat), l[i]? = some n → ∃ x, a = some x ∧ wr.cell? (x.add i) = some (.int .i64 (n : Int)) := by
  obtain ⟨F, ⟨h1, _⟩, _⟩ := h.mem hm
  rcases h1.2 with ⟨rfl, e2⟩ | ⟨g, cap, cur, rfl, _, _, h4, h5, _⟩
  · exact ⟨none, 0, by rw [e2], by omega, Nat.zero_le _, fun i n hi => by have := (List.getElem?_eq_some_iff.1 hi).1; omega⟩
  · exact ⟨_, cap, rfl, h4, h5, fun i n hi => ⟨_, rfl, h1.cells (g := g) rfl i (i64v n) (by rw [List.getElem?_map, hi]; rfl)⟩⟩
/-- 'append(l, n)'. -/
theorem Own.pushInt {w wr : World} {rs : List (Res w.heap.size)} {v : Value} {l : List Nat} (h : Own w wr (rInts w.heap.size v l :: rs)) (n : Nat) (hb : l.length < 1099511627776) :
    ∃ v' w', (Builtin.append_ #[22, 22] 22 #[v, .slice (some ⟨wr.heap.size, 0, none⟩) 1 1]).run Try.prog (wr.alloc (.cells #[.int .i64 (n : Int)] 3)) = .ok v' w' ∧ Own w w' (rInts w.heap.size v' (l ++ [n]) :: rs) := by
  obtain ⟨F, h1, h2, back⟩ := h.open1
  obtain ⟨i0, hi, hz0, hz1, hz2⟩ := info_parts info_int
  obtain ⟨v', w', hrun, ho2, hg, _, hat⟩ := run_append_own_at (P := Try.prog) (wr.alloc (.cells #[.int .i64 (n : Int)] 3)) 0 22 22 3 i0 _ 1 8 Try.underlying22 hi hz0 hz1 hz2 rfl (by omega) v l.length (l.map i64v) (h1.1.alloc _) ⟨wr.heap.size, 0, none⟩ 1 1 [i64v n] rfl
    (fun j u hu => by
      rw [Addr.add_lit, Nat.zero_add]
      exact cell_at (heap_alloc_new wr _) (by simpa [i64v] using hu))
    (by intro u hu; simp at hu; subst hu; rfl) (by unfold maxLen; omega) (by omega) (Nat.zero_le _)
  refine ⟨v', w', hrun, back w' (rInts _ v' (l ++ [n])) (((Keeps.refl F wr).alloc _).trans (Keeps.of_grown hg) (fun b hb e => h1.2 b e)) ⟨?_, fun b hb => ?_⟩⟩
  · rw [List.length_append, List.map_append]; exact ho2
  · have hlt := (row_lt ho2 b hb).1
    rcases hat with hat | hat
    · rw [hat] at hb; exact .inl (h1.2 b hb)
    · rw [hat] at hb
      simp only [World.size_alloc, Option.some.injEq] at hb
      exact .inr ⟨by omega, hlt⟩
/-- A byte of a row is laid anew. -/
theorem Own.setByte {w wr : World} {rs : List (Res w.heap.size)} {v : Value} {l : List UInt8} (h : Own w wr (rBytes w.heap.size v l :: rs)) {i : Nat} (hi : i < l.length) (b : UInt8) :
    ∃ g c, v = .slice (some ⟨g, 0, none⟩) l.length c ∧ wr.cell? ⟨g, i, none⟩ = some (.int .u8 (l[i].toNat : Int)) ∧ wr.frozen? ⟨g, i, none⟩ = false ∧
      Own w (wr.setCell ⟨g, i, none⟩ (.int .u8 (b.toNat : Int))) (rBytes w.heap.size v (l.set i b) :: rs) := by
  obtain ⟨F, h1, h2, back⟩ := h.open1
  have hc0 := h1.1
  rcases h1.1.2 with ⟨rfl, e⟩ | ⟨g, cap, cur, rfl, hg, hb, h4, h5, h6, h7⟩
  · omega
  · have ho : Owns wr 0 (.slice (some ⟨g, 0, none⟩) l.length cap) l := h1.1
    obtain ⟨s1, ⟨u, hu⟩, s3, s4⟩ := ho.set hi b
    have hc := hc0.cells (g := g) rfl i (u8v l[i]) (by simp [hi])
    rw [Addr.add_lit, Nat.zero_add] at hc
    refine ⟨g, cap, rfl, hc, s3, back _ (rBytes _ _ (l.set i b)) (s4.mono (fun x _ e => by subst e; exact h1.2 _ rfl)) ⟨?_, fun x hx => .inl (h1.2 x hx)⟩⟩
    have := s1
    unfold Owns at this
    rw [List.length_set] at this ⊢
    exact this

/-- What the first loop of JournalTurns holds to. -/
def TurnRel (w0 wx : World) (ll : List (List UInt8)) (k : Nat) (bv ev : Value) : Prop :=
  Own w0 wx [rInts _ ev ((List.range k).map (endAt ll)), rBytes _ bv (framesOf (ll.take k))]
theorem turn_grow {w0 wr : World} {ll : List (List UInt8)} {k : Nat} {bv ev : Value} {l : List UInt8} (h : TurnRel w0 wr ll k bv ev) (hl : ll[k]? = some l) (hk : k < 1000) (hb : (framesOf (ll.take (k + 1))).length ≤ 140737488355328) :
    ∀ v1 w1, Owns w1 wr.heap.size v1 (frameOf l) → Keeps (fun _ => False) wr w1 → ∃ a2 c2 w2 a3 c3 w3, (Builtin.append_ #[31, 31] 31 #[bv, v1]).run Try.prog w1 = .ok (.slice a2 (endAt ll k) c2) w2 ∧
      (Builtin.append_ #[22, 22] 22 #[ev, .slice (some ⟨w2.heap.size, 0, none⟩) 1 1]).run Try.prog (w2.alloc (.cells #[.int .i64 (endAt ll k : Int)] 3)) = .ok (.slice a3 (k + 1) c3) w3 ∧
      TurnRel w0 w3 ll (k + 1) (.slice a2 (endAt ll k) c2) (.slice a3 (k + 1) c3) := by
  intro v1 w1 ho hk1
  have he := endAt_eq hl
  have h1 := (h.quiet hk1).swap
  have hfe : (framesOf (ll.take k) ++ frameOf l) = framesOf (ll.take (k + 1)) := by
    rw [List.take_add_one, hl, framesOf_append]; simp [framesOf]
  obtain ⟨v2, w2, r2, h2⟩ := h1.grow ho.bytes.reads (by have : (framesOf (ll.take (k + 1))).length = endAt ll k := rfl; omega)
  rw [hfe] at h2
  obtain ⟨a2, c2, rfl, _, _⟩ := (h2.bytes (List.mem_cons_self ..)).2
  obtain ⟨v3, w3, r3, h3⟩ := h2.swap.pushInt (endAt ll k) (by simp; omega)
  have e4 : (List.range k).map (endAt ll) ++ [endAt ll k] = (List.range (k + 1)).map (endAt ll) := by rw [List.range_succ, List.map_append]; rfl
  rw [e4] at h3
  obtain ⟨a3, c3, e5, _, _, _⟩ := h3.ints (List.mem_cons_self ..)
  have e6 : ((List.range (k + 1)).map (endAt ll)).length = k + 1 := by simp
  rw [e6] at e5
  subst e5
  exact ⟨a2, c2, w2, a3, c3, w3, r2, r3, h3⟩
end Go.Proofs.Ytlinkpjneehnbaa
