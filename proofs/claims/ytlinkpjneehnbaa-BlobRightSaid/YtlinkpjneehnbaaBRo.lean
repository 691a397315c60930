/- Rows of digests as things among others. -/
import Derived.Test.YtlinkpjneehnbaaBLst
namespace Go.Proofs.Ytlinkpjneehnbaa
set_option linter.unusedVariables false
set_option linter.unusedSimpArgs false
open Go.RowKit Go.MapKept

/-- 'append(v, x)', x stored somewhere. -/
theorem Digs.pushAt {base : Nat} {w : World} {v : Value} {L : List (List UInt8)} (h : Digs base w v L) (hz : base ≤ w.heap.size) {x : List UInt8} (hx : x.length = 32) {b : Nat} (hb : w.rangeAt b 0 (x.map u8v)) (hL : L.length < 1099511627776) :
    ∃ a c w', (Builtin.append_ #[108, 108] 108 #[v, .slice (some ⟨b, 0, none⟩) 1 1]).run Try.prog w = .ok (.slice a (L.length + 1) c) w' ∧ Digs base w' (.slice a (L.length + 1) c) (L ++ [x]) ∧
      Keeps (fun b => v.ownBlock = some b) w w' ∧ ((Value.slice a (L.length + 1) c).ownBlock = v.ownBlock ∨ (Value.slice a (L.length + 1) c).ownBlock = some w.heap.size) := by
  obtain ⟨i0, hi, hz0, hz1, hz2⟩ := info_parts info_digest
  obtain ⟨v', w', hrun, ho2, hg, _, hat⟩ := run_append_own_at (P := Try.prog) w base 108 108 58 i0 _ 32 32 Try.underlying108 hi hz0 hz1 hz2 (by kernel_rfl) (by omega) v L.length (digCells L) h.1 ⟨b, 0, none⟩ 1 1 (x.map u8v) (by rw [List.length_map, hx])
    (fun j u hu => by
      have := hb j u hu
      rw [Addr.add_lit]
      exact this)
    (dig_oneCell x) (by unfold maxLen; omega) (by omega) hz
  rw [← digCells_snoc] at ho2
  obtain ⟨a, c, rfl⟩ := ownsRow_slice ho2
  refine ⟨a, c, w', hrun, ⟨by rw [List.length_append]; exact ho2, fun y hy => ?_⟩, Keeps.of_grown hg, by simpa using hat⟩
  rcases List.mem_append.1 hy with hy | hy
  · exact h.2 y hy
  · simp at hy; subst hy; exact hx
/-- A row of digests. -/
def rDigs (B : Nat) (v : Value) (L : List (List UInt8)) : Res B :=
  ⟨fun F w => Digs 0 w v L ∧ ∀ b, v.ownBlock = some b → F b, fun _ _ _ h hk => ⟨h.1.keep (fun b hb => hk b (.inl (h.2 b hb))), h.2⟩⟩
section
variable {w wr : World} {rs : List (Res w.heap.size)} {v : Value} {L : List (List UInt8)}
theorem Own.digs (h : Own w wr rs) (hm : rDigs w.heap.size v L ∈ rs) : Digs 0 wr v L := by
  obtain ⟨F, h1, _⟩ := h.mem hm
  exact h1.1
theorem Own.addDigs {w1 : World} (h : Own w wr rs) (hd : Digs wr.heap.size w1 v L) (hk : Keeps (fun _ => False) wr w1) : Own w w1 (rDigs w.heap.size v L :: rs) :=
  h.add hk (r := rDigs _ v L) (G := fun b => v.ownBlock = some b) ⟨hd.base (Nat.zero_le _), fun _ hb => hb⟩ (fun b hb => ⟨(hd.lt b hb).2, (hd.lt b hb).1⟩)
theorem Own.nilDigs (h : Own w wr rs) : Own w wr (rDigs w.heap.size (.slice none 0 0) [] :: rs) := h.addDigs (Digs.nil _ _) (Keeps.refl _ wr)
theorem Own.range {b : Nat} {cl : List Value} {t : TypeId} (h : Own w wr rs) (hm : rObj w.heap.size b (.cells cl.toArray t) ∈ rs) : wr.rangeAt b 0 cl := fun k u hu => by
  rw [Nat.zero_add]
  exact cell_at (h.at hm).1 (by rw [List.getElem?_toArray]; exact hu)
theorem Own.pushDig (h : Own w wr (rDigs w.heap.size v L :: rs)) {x : List UInt8} (hx : x.length = 32) {b : Nat} (hb : wr.rangeAt b 0 (x.map u8v)) (hL : L.length < 1099511627776) :
    ∃ a c w', (Builtin.append_ #[108, 108] 108 #[v, .slice (some ⟨b, 0, none⟩) 1 1]).run Try.prog wr = .ok (.slice a (L.length + 1) c) w' ∧ Own w w' (rDigs w.heap.size (.slice a (L.length + 1) c) (L ++ [x]) :: rs) := by
  obtain ⟨F, ⟨h1, h2⟩, hF, back⟩ := h.open1
  obtain ⟨a, c, w', hrun, hd, hk, hat⟩ := h1.pushAt (Nat.zero_le _) hx hb hL
  have hlt := hd.lt
  refine ⟨a, c, w', hrun, back w' (rDigs _ (.slice a (L.length + 1) c) (L ++ [x])) (hk.mono (fun b _ e => h2 b e)) ⟨hd, fun b hb => ?_⟩⟩
  rcases hat with hat | hat
  · rw [hat] at hb
    exact .inl (h2 b hb)
  · have hl := hlt b hb
    rw [hat] at hb
    cases hb
    exact .inr ⟨Nat.le_refl _, hl.1⟩
theorem Own.without (h : Own w wr rs) (hm : rDigs w.heap.size v L ∈ rs) {D : List UInt8} (hD : D.length = 32) (hL : L.length < 1099511627776) :
    Calls Try.prog 71 #[v, .agg (D.map u8v).toArray] wr fun e w1 => ∃ (a : Option Addr) (c : Nat), e = .returned (.slice a (withoutOf L D).length c) ∧ Own w w1 (rDigs w.heap.size (.slice a (withoutOf L D).length c) (withoutOf L D) :: rs) := by
  refine (without_calls (h.digs hm) hD hL).mono ?_
  rintro e w1 ⟨a, c, he, hd, hk⟩
  exact ⟨a, c, he, h.addDigs hd hk⟩
theorem Own.pick {r : Res w.heap.size} {l₁ l₂ : List (Res w.heap.size)} (h : Own w wr (l₁ ++ r :: l₂)) : Own w wr (r :: (l₁ ++ l₂)) := h.perm List.perm_middle
end
/-- A literal of one digest. -/
theorem wp_buildDig {o : Oper} {a : Act} {w : World} {K : Act → World → Prop} {Q : Exit → Act → World → Prop} (x : Operand) (ho : o.op = .buildSlice 108 1 #[(0, x)]) (cl : List Value) (hl : cl.length = 32) (hx : a.eval x = .agg cl.toArray)
    (h : K (a.put o.dst (.slice (some ⟨w.heap.size, 0, none⟩) 1 1)) (w.alloc (.cells cl.toArray 58))) : o.wp Try.prog a w K Q := by
  obtain ⟨i0, hi, hz0, hz1, _⟩ := digest_parts
  refine wp_buildSlice 108 58 1 #[(0, x)] ho cl.toArray i0 (.agg zeroC) Try.underlying108 hi hz0 (by rw [hz1]; decide) (by rw [hz1]; decide) ?_ h
  rw [hz1]
  simp only [List.map_toArray, List.map_cons, List.map_nil, hx]
  exact fill_one cl hl
/-- What holds of the store, its lists and its boxes. -/
def BSt (w0 wx : World) (d : Nat) (H S : List (List UInt8)) (m : DM) (n : Nat) (sv hv uv : Value) (rs : List (Res w0.heap.size)) : Prop :=
  ∃ st : Nat, sv = .pointer (some ⟨st, 0, none⟩) ∧ BI H S m n ∧ H.length ≤ n ∧ S.length ≤ n ∧
    Own w0 wx (rDisk w0.heap.size d m :: rObj w0.heap.size st (.cells #[.pointer (some ⟨d, 0, none⟩)] 146) :: rDigs w0.heap.size hv H :: rDigs w0.heap.size uv S :: rs)
end Go.Proofs.Ytlinkpjneehnbaa
