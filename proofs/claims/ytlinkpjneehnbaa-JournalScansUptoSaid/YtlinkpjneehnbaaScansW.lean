/- The walk of JournalScans. -/
import Derived.Test.YtlinkpjneehnbaaRScan
import Derived.Test.YtlinkpjneehnbaaAwakeJ
import Derived.Test.YtlinkpjneehnbaaSame
import Derived.Laws.BitsAllLaws
import Derived.Outline
namespace Go.Proofs.Ytlinkpjneehnbaa
set_option linter.unusedVariables false
open Go.RowKit Go.MapKept

/-- Rows of records of new memory, with their slices. -/
structure RecsAt (w : World) (base top : Nat) (v : Value) (ps : List Value) (ll : List (List UInt8)) : Prop where
  row : w.ownsRow base 31 1 v ps.length ps
  recs : Rel2 (fun p l => Owns w base p l) ps ll
  apart : ps.Pairwise (fun p q => ∀ b, p.ownBlock = some b → q.ownBlock ≠ some b)
  lt : (∀ b, v.ownBlock = some b → b < top) ∧ ∀ p ∈ ps, ∀ b, p.ownBlock = some b → b < top
theorem OwnsRecs.recsAt {w : World} {base : Nat} {v : Value} {ll : List (List UInt8)} (h : OwnsRecs w base v ll) : ∃ ps, RecsAt w base w.heap.size v ps ll := by
  obtain ⟨ps, h1, h2, h3⟩ := h
  refine ⟨ps, by rw [h2.length]; exact h1, h2, h3, fun b hb => (row_lt h1 b hb).1, fun p hp b hb => ?_⟩
  obtain ⟨l, hl⟩ := h2.mem p hp
  exact (owns_lt hl b hb).1
theorem RecsAt.keep {w w' : World} {base top : Nat} {v : Value} {ps : List Value} {ll : List (List UInt8)} (h : RecsAt w base top v ps ll) (hk : Keeps (fun _ => False) w w') : RecsAt w' base top v ps ll :=
  ⟨row_keep h.row hk (fun _ _ e => e), h.recs.mono (fun p l hp => hp.keep hk), h.apart, h.lt⟩
theorem OwnsRecs.keepAbove {w w' : World} {base b0 top : Nat} {v : Value} {ll : List (List UInt8)} (h : OwnsRecs w base v ll) (hk : Keeps (fun b => b0 ≤ b ∧ b < top) w w') (ht : top ≤ base) : OwnsRecs w' base v ll := by
  obtain ⟨ps, h1, h2, h3⟩ := h
  exact ⟨ps, row_keep h1 hk (fun b hb e => by have := (row_lt h1 b hb).2; omega), h2.mono (fun p l hp => owns_keep hp hk (fun b hb e => by have := (owns_lt hp b hb).2; omega)), h3⟩
theorem rel_set {ps : List Value} {ll : List (List UInt8)} {R S : Value → List UInt8 → Prop} (h : Rel2 R ps ll) (i : Nat) {p : Value} {l' : List UInt8} (hp : ps[i]? = some p) (hnew : S p l') (hold : ∀ (j : Nat) (q : Value), j ≠ i → ps[j]? = some q → ∀ m, R q m → S q m) : Rel2 S ps (ll.set i l') := by
  induction ps generalizing ll i with
  | nil => simp at hp
  | cons q ps ih =>
    cases ll with
    | nil => exact h.elim
    | cons m ll =>
      cases i with
      | zero =>
        simp at hp
        subst hp
        refine ⟨hnew, ?_⟩
        refine rel_mem_right' h.2 (fun j a ha b hab => hold (j + 1) a (by omega) (by simpa using ha) b hab)
      | succ i => exact ⟨hold 0 q (by omega) (by simp) m h.1, ih h.2 i (by simpa using hp) (fun j a hj ha => hold (j + 1) a (by omega) (by simpa using ha))⟩
where
  rel_mem_right' {R S : Value → List UInt8 → Prop} : ∀ {l : List Value} {m : List (List UInt8)}, Rel2 R l m → (∀ (j : Nat) (a : Value), l[j]? = some a → ∀ b, R a b → S a b) → Rel2 S l m
  | [], [], _, _ => trivial
  | a :: l, b :: m, h, k => ⟨k 0 a (by simp) b h.1, rel_mem_right' h.2 (fun j x hx => k (j + 1) x (by simpa using hx))⟩
  | [], _ :: _, h, _ => h.elim
  | _ :: _, [], h, _ => h.elim
theorem pairwise_ne {ps : List Value} (h : ps.Pairwise (fun p q => ∀ b, p.ownBlock = some b → q.ownBlock ≠ some b)) {i j : Nat} {p q : Value} (hp : ps[i]? = some p) (hq : ps[j]? = some q) (hij : j ≠ i) {b : Nat} (hb : p.ownBlock = some b) : q.ownBlock ≠ some b := by
  obtain ⟨hi, rfl⟩ := List.getElem?_eq_some_iff.1 hp
  obtain ⟨hj, rfl⟩ := List.getElem?_eq_some_iff.1 hq
  rw [List.pairwise_iff_getElem] at h
  rcases Nat.lt_or_ge i j with h1 | h1
  · exact h i j hi hj h1 b hb
  · intro e
    exact h j i hj hi (by omega) b e hb
/-- A byte of a record is laid anew. -/
theorem RecsAt.set {w : World} {base top : Nat} {v : Value} {ps : List Value} {ll : List (List UInt8)} (h : RecsAt w base top v ps ll) {i k : Nat} {p : Value} {l : List UInt8} (hp : ps[i]? = some p) (hl : ll[i]? = some l) (hk : k < l.length) (b : UInt8) :
    ∃ g c, p = .slice (some ⟨g, 0, none⟩) l.length c ∧ base ≤ g ∧ g < top ∧ w.cell? ⟨g, k, none⟩ = some (.int .u8 (l[k].toNat : Int)) ∧ w.frozen? ⟨g, k, none⟩ = false ∧
      RecsAt (w.setCell ⟨g, k, none⟩ (.int .u8 (b.toNat : Int))) base top v ps (ll.set i (l.set k b)) ∧ Keeps (fun x => x = g) w (w.setCell ⟨g, k, none⟩ (.int .u8 (b.toNat : Int))) := by
  obtain ⟨q, hq, ho⟩ := h.recs.get' hl
  rw [hp] at hq
  cases hq
  have hne : l ≠ [] := by rintro rfl; simp at hk
  obtain ⟨g, c, rfl, h1, h2, _⟩ := ho.form hne
  obtain ⟨s1, ⟨u, hu⟩, s3, s4⟩ := ho.set hk b
  have hc := World.ownsRow.cells ho (g := g) rfl k (u8v l[k]) (by simp [hk])
  rw [Addr.add_lit, Nat.zero_add] at hc
  have hb := owns_lt ho g rfl
  refine ⟨g, c, rfl, hb.2, h.lt.2 _ (List.mem_of_getElem? hp) g rfl, hc, s3, ⟨row_keep h.row s4 (fun x hx e => by subst e; exact row_ne h.row ho hx rfl), rel_set h.recs i hp ?_ (fun j q hj hq m hm => owns_keep hm s4 (fun x hx e => by subst e; exact pairwise_ne h.apart hp hq hj (b := x) rfl hx)), h.apart, h.lt⟩, s4⟩
  have := s1
  unfold Owns at this ⊢
  rw [List.length_set] at this ⊢
  exact this
theorem RecsAt.cell {w : World} {base top : Nat} {v : Value} {ps : List Value} {ll : List (List UInt8)} (h : RecsAt w base top v ps ll) {i : Nat} {l : List UInt8} (hl : ll[i]? = some l) : ∃ x c p, v = .slice (some x) ll.length c ∧ ps[i]? = some p ∧ w.cell? (x.add i) = some p ∧ Owns w base p l := by
  obtain ⟨p, hp, ho⟩ := h.recs.get' hl
  have hlen := h.recs.length
  rcases h.row.2 with ⟨e, e2⟩ | ⟨g, cap, cur, e, _⟩
  · have := (List.getElem?_eq_some_iff.1 hl).1; omega
  · subst e
    exact ⟨_, cap, p, by rw [hlen], hp, h.row.cells (g := g) rfl i p hp, ho⟩
end Go.Proofs.Ytlinkpjneehnbaa
