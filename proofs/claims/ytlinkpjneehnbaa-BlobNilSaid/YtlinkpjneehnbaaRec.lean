/- Rows of records among things that do not touch; opening a journal: the model. -/
import Derived.Test.YtlinkpjneehnbaaLayC
namespace Go.Proofs.Ytlinkpjneehnbaa
set_option linter.unusedVariables false
open Go.RowKit Go.MapKept

/-- The slice p reads as l; its cells lie in F, or are old. -/
def ReadsF (B : Nat) (F : Nat → Prop) (w : World) (p : Value) (l : List UInt8) : Prop :=
  ∃ (a : Option Addr) (c : Nat), p = .slice a l.length c ∧ l.length ≤ c ∧ c ≤ maxLen ∧ (a = none → c = 0) ∧ ∀ x, a = some x → (l ≠ [] → F x.block ∨ x.block < B) ∧ ∀ j u, (l.map u8v)[j]? = some u → w.cell? (x.add j) = some u
theorem add_block (x : Addr) (j : Nat) : (x.add j).block = x.block := by unfold Addr.add; split <;> rfl
theorem ReadsF.keep {B : Nat} {F : Nat → Prop} {w w' : World} {p : Value} {l : List UInt8} (h : ReadsF B F w p l) (hk : ∀ b, F b ∨ b < B → w'.heap[b]? = w.heap[b]?) : ReadsF B F w' p l := by
  obtain ⟨a, c, h1, h2, h3, h4, h5⟩ := h
  refine ⟨a, c, h1, h2, h3, h4, fun x hx => ⟨(h5 x hx).1, fun j u hu => ?_⟩⟩
  have hne : l ≠ [] := by rintro rfl; simp at hu
  have := hk _ ((h5 x hx).1 hne)
  rw [← add_block x j] at this
  rw [World.cell?_of_block this]
  exact (h5 x hx).2 j u hu
theorem ReadsF.wider {B : Nat} {F G : Nat → Prop} {w : World} {p : Value} {l : List UInt8} (h : ReadsF B F w p l) (hFG : ∀ b, F b → G b) : ReadsF B G w p l := by
  obtain ⟨a, c, h1, h2, h3, h4, h5⟩ := h
  exact ⟨a, c, h1, h2, h3, h4, fun x hx => ⟨fun hne => ((h5 x hx).1 hne).imp (hFG _) id, (h5 x hx).2⟩⟩
theorem ReadsF.reads {B : Nat} {F : Nat → Prop} {w : World} {p : Value} {l : List UInt8} (h : ReadsF B F w p l) : Reads w p l := by
  obtain ⟨a, c, rfl, h2, h3, h4, h5⟩ := h
  cases a with
  | none =>
    have := h4 rfl
    subst this
    have : l = [] := List.eq_nil_of_length_eq_zero (by omega)
    subst this
    exact .inl ⟨rfl, rfl⟩
  | some x => exact .inr ⟨x, c, rfl, h2, h3, (h5 x rfl).2⟩
theorem ReadsF.of_owns {B base : Nat} {w : World} {p : Value} {l : List UInt8} (h : Owns w base p l) : ReadsF B (fun b => p.ownBlock = some b) w p l := by
  rcases h.bytes.reads with ⟨rfl, rfl⟩ | ⟨x, c, rfl, h1, h2, h3⟩
  · exact ⟨none, 0, rfl, Nat.le_refl _, Nat.zero_le _, fun _ => rfl, fun x hx => by cases hx⟩
  · refine ⟨some x, c, rfl, h1, h2, (fun e => by cases e), fun y hy => ?_⟩
    cases hy
    refine ⟨fun hne => .inl ?_, h3⟩
    obtain ⟨g, c', e, _⟩ := h.form hne
    cases e
    rfl
theorem ReadsF.of_old {B : Nat} {w : World} {p : Value} {l : List UInt8} (h : Reads w p l) (hB : w.heap.size ≤ B) : ReadsF B (fun _ => False) w p l := by
  rcases h with ⟨rfl, rfl⟩ | ⟨x, c, rfl, h1, h2, h3⟩
  · exact ⟨none, 0, rfl, Nat.le_refl _, Nat.zero_le _, fun _ => rfl, fun x hx => by cases hx⟩
  · refine ⟨some x, c, rfl, h1, h2, (fun e => by cases e), fun y hy => ?_⟩
    cases hy
    refine ⟨fun hne => .inr ?_, h3⟩
    obtain ⟨k, hk⟩ : ∃ k, l.length = k + 1 := ⟨l.length - 1, by have := List.length_pos_iff.2 hne; omega⟩
    have hc := h3 0 (u8v (l[0]'(by omega))) (by simp [List.getElem?_eq_getElem (show 0 < l.length by omega)])
    have := World.block_lt_of_cell? w _ hc
    rw [add_block] at this
    omega

/-- A row of records, of whatever memory; the records do not lie in the row's own block. -/
def rRows (B : Nat) (v : Value) (ll : List (List UInt8)) : Res B :=
  ⟨fun F w => ∃ (ps : List Value) (G : Nat → Prop), w.ownsRow 0 31 1 v ll.length ps ∧ Rel2 (fun p l => ReadsF B G w p l) ps ll ∧ (∀ b, G b → F b) ∧ ∀ b, v.ownBlock = some b → F b ∧ B ≤ b ∧ ¬ G b, fun F w w' h hk => by
    obtain ⟨ps, G, ⟨h1, h2⟩, h3, h4, h5⟩ := h
    refine ⟨ps, G, ⟨h1, ?_⟩, h3.mono (fun p l hp => hp.keep (fun b hb => hk b (hb.imp (h4 b) id))), h4, h5⟩
    rcases h2 with h2 | ⟨g, cap, cur, rfl, hg, hb, k4, k5, k6, k7⟩
    · exact .inl h2
    · exact .inr ⟨g, cap, cur, rfl, hg, (hk g (.inl (h5 g rfl).1)).trans hb, k4, k5, k6, k7⟩⟩
theorem Own.rows {w wr : World} {rs : List (Res w.heap.size)} {v : Value} {ll : List (List UInt8)} (h : Own w wr rs) (hm : rRows w.heap.size v ll ∈ rs) : RowsIn wr v ll ∧ ∃ a c, v = .slice a ll.length c := by
  obtain ⟨F, ⟨ps, G, h1, h2, h3, _⟩, _⟩ := h.mem hm
  obtain ⟨a, c, rfl⟩ := ownsRow_slice h1
  refine ⟨⟨a, c, rfl, fun i l hl => ?_⟩, a, c, rfl⟩
  obtain ⟨p, hp, ho⟩ := h2.get' hl
  rcases h1.2 with ⟨e, e2⟩ | ⟨g, cap, cur, e, _⟩
  · have := (List.getElem?_eq_some_iff.1 hl).1; omega
  · cases e
    exact ⟨_, p, rfl, h1.cells (g := g) rfl i p hp, ho.reads⟩
theorem rel_mem_right {α β : Type} {R : α → β → Prop} {S : α → β → Prop} : ∀ {l : List α} {m : List β}, Rel2 R l m → (∀ a ∈ l, ∀ b, R a b → S a b) → Rel2 S l m
  | [], [], _, _ => trivial
  | a :: l, b :: m, h, k => ⟨k a (List.mem_cons_self ..) b h.1, rel_mem_right h.2 (fun x hx => k x (List.mem_cons_of_mem _ hx))⟩
  | [], _ :: _, h, _ => h.elim
  | _ :: _, [], h, _ => h.elim
/-- What Scan makes, as a thing. -/
theorem Own.addRecs {w wr w' : World} {rs : List (Res w.heap.size)} (h : Own w wr rs) {v : Value} {ll : List (List UInt8)} (ho : OwnsRecs w' wr.heap.size v ll) (hk : Keeps (fun _ => False) wr w') : Own w w' (rRows w.heap.size v ll :: rs) := by
  obtain ⟨ps, h1, h2, _⟩ := ho
  have hz := h.keeps.size
  refine h.add hk (r := rRows _ v ll) (G := fun b => v.ownBlock = some b ∨ ∃ p ∈ ps, p.ownBlock = some b) ⟨ps, fun b => ∃ p ∈ ps, p.ownBlock = some b, row_base h1 (Nat.zero_le _), rel_mem_right h2 (fun p hp l hl => (ReadsF.of_owns hl).wider (fun b hb => ⟨p, hp, hb⟩)), fun b hb => .inr hb, fun b hb => ⟨.inl hb, by have := row_lt h1 b hb; omega, fun ⟨p, hp, hb'⟩ => ?_⟩⟩ (fun b hb => ?_)
  · obtain ⟨l, hl⟩ := h2.mem p hp
    exact row_ne h1 hl hb hb'
  rcases hb with hb | ⟨p, hp, hb⟩
  · have := row_lt h1 b hb; omega
  · obtain ⟨l, hl⟩ := h2.mem p hp
    have := owns_lt hl b hb; omega
theorem Own.nilRows {w wr : World} {rs : List (Res w.heap.size)} (h : Own w wr rs) : Own w wr (rRows w.heap.size (.slice none 0 0) [] :: rs) :=
  h.add (Keeps.refl _ wr) (r := rRows _ (.slice none 0 0) []) (G := fun _ => False) ⟨[], fun _ => False, ⟨rfl, .inl ⟨rfl, rfl⟩⟩, trivial, fun _ h => h, fun b hb => by cases hb⟩ (fun _ hb => hb.elim)

/-! ### Opening, as the model has it -/
structure OpenR where
  code : Int
  m : DM
  res : Option (List (List UInt8) × Nat)
def createSteps (nm : ByteArray) : List (DM → Int × DM) := [fun m => createOf m nm, syncOf]
def openLay (m : DM) (nm : ByteArray) (s : List (List UInt8) × Nat) : OpenR := if (layOf m nm (framesOf s.1)).1 = 0 then ⟨0, (layOf m nm (framesOf s.1)).2, some s⟩ else ⟨(layOf m nm (framesOf s.1)).1, (layOf m nm (framesOf s.1)).2, none⟩
def openOf (m : DM) (nm : ByteArray) : OpenR :=
  if isName nm = true ∧ isName (tmpOf nm) = true then
    if thereOf m nm = 6 then (if (runSteps (createSteps nm) m).1 = 0 then ⟨0, (runSteps (createSteps nm) m).2, some ([], 0)⟩ else ⟨(runSteps (createSteps nm) m).1, (runSteps (createSteps nm) m).2, none⟩)
    else if thereOf m nm = 0 then
      (if (scanOf ((fget m.now nm).getD [])).2 < ((fget m.now nm).getD []).length then openLay m nm (scanOf ((fget m.now nm).getD [])) else ⟨0, m, some (scanOf ((fget m.now nm).getD []))⟩)
    else ⟨thereOf m nm, m, none⟩
  else ⟨1, m, none⟩
theorem scan_frames_le (b : List UInt8) : (framesOf (scanOf b).1).length ≤ b.length := by
  have h := (scanFrom_frames (l := b) (b.length + 1) 0 (Nat.zero_le _)).1
  have h2 := scanOf_le b
  unfold scanOf at *
  omega
theorem createSteps_good (nm : ByteArray) : ∀ f ∈ createSteps nm, ∀ m j, Good m j → Good (f m).2 (j + 1) := by
  intro f hf m j h
  simp only [createSteps, List.mem_cons, List.not_mem_nil, or_false] at hf
  rcases hf with rfl | rfl
  · exact h.create _
  · exact h.sync.mono (by omega)
theorem open_good {m : DM} {n : Nat} (h : Good m n) (nm : ByteArray) : Good (openOf m nm).m (n + 6 * (67108864 + 1) + 1) := by
  have hb := h.get nm
  have hs := scan_frames_le ((fget m.now nm).getD [])
  unfold openOf
  split
  · split
    · have := runSteps_good (createSteps nm) (createSteps_good nm) h
      split <;> exact this.mono (by simp [createSteps])
    · split
      · split
        · unfold openLay
          have := lay_good h nm (framesOf (scanOf ((fget m.now nm).getD [])).1)
          split <;> exact this.mono (by omega)
        · exact h.mono (by omega)
      · exact h.mono (by omega)
  · exact h.mono (by omega)
end Go.Proofs.Ytlinkpjneehnbaa
