/- Changes that one owns: their values may be written. -/
import Derived.Test.YtaeabdghlkdkjaaGreatPkP
import Derived.Test.YtaeabdghlkdkjaaGreatPkF
namespace Go.Proofs.YtaeabdghlkdkjaaGreat
set_option linter.unusedVariables false
open Go.RowKit Go.MapKept

/-- A row of changes of one's own, in blocks of F; no two values share a block. -/
def TChsHeld (F : Nat → Prop) (w : World) (v : Value) (cs : List TCh) : Prop :=
  ∃ ps : List Value, Rel2 (fun p (c : TCh) => Owns w 0 p c.val ∧ ∀ b, p.ownBlock = some b → F b) ps cs ∧ w.ownsRow 0 60 3 v cs.length (tchCells ps cs) ∧ (∀ b, v.ownBlock = some b → F b) ∧ ps.Pairwise (fun p q => ∀ b, p.ownBlock = some b → q.ownBlock ≠ some b)
theorem TChsHeld.same {F : Nat → Prop} {w w' : World} {v : Value} {cs : List TCh} (h : TChsHeld F w v cs) (hk : ∀ b, F b → w'.heap[b]? = w.heap[b]?) : TChsHeld F w' v cs := by
  obtain ⟨ps, h1, h2, h3, h4⟩ := h
  exact ⟨ps, h1.mono (fun p c hp => ⟨rrow_keep hp.1 (fun b hb => hk b (hp.2 b hb)), hp.2⟩), rrow_keep h2 (fun b hb => hk b (h3 b hb)), h3, h4⟩
def rTChsO (B : Nat) (v : Value) (cs : List TCh) : Res B := ⟨fun F w => TChsHeld F w v cs, fun _ _ _ h hk => h.same (fun b hb => hk b (.inl hb))⟩
theorem ownsRow_base {w : World} {base e size n : Nat} {v : Value} {xs : List Value} (h : w.ownsRow base e size v n xs) : w.ownsRow 0 e size v n xs := by
  obtain ⟨h1, h2⟩ := h
  refine ⟨h1, h2.imp id ?_⟩
  rintro ⟨g, cap, cur, rfl, hg, rest⟩
  exact ⟨g, cap, cur, rfl, Nat.zero_le _, rest⟩
theorem TChsAt.held {base : Nat} {w : World} {v : Value} {cs : List TCh} (h : TChsAt 60 base w v cs) : TChsHeld (fun b => base ≤ b ∧ b < w.heap.size) w v cs := by
  obtain ⟨ps, h1, h2, h3⟩ := h
  exact ⟨ps, h1.mono (fun p c hp => ⟨ownsRow_base hp, fun b hb => ⟨(owns_lt hp b hb).2, (owns_lt hp b hb).1⟩⟩), ownsRow_base h2, fun b hb => ⟨(h2.lt b hb).1, (h2.lt b hb).2⟩, h3⟩
theorem Own.addHeld {w wr w' : World} {rs : List (Res w.heap.size)} (h : Own w wr rs) {v : Value} {cs : List TCh} (ho : TChsAt 60 wr.heap.size w' v cs) (hk : Keeps (fun _ => False) wr w') : Own w w' (rTChsO w.heap.size v cs :: rs) :=
  h.add hk (r := rTChsO w.heap.size v cs) (G := fun b => wr.heap.size ≤ b ∧ b < w'.heap.size) ho.held (fun b hb => hb)
theorem TChsHeld.ins {F : Nat → Prop} {w : World} {a : Option Addr} {n c : Nat} {cs : List TCh} (h : TChsHeld F w (.slice a n c) cs) : TChsIn w a cs := fun i ch hc => by
  obtain ⟨ps, h1, h2, -, h3⟩ := h
  obtain ⟨p, hp, ho⟩ := h1.get' hc
  have hcl := tchCells_get i hp hc
  rcases h2.2 with ⟨e, e2⟩ | ⟨g, cap, cur, e, _⟩
  · have := (List.getElem?_eq_some_iff.1 hc).1; omega
  · cases e
    exact ⟨_, p, rfl, h2.cells (g := g) rfl _ _ hcl.1, h2.cells (g := g) rfl _ _ hcl.2.1, h2.cells (g := g) rfl _ _ hcl.2.2, ho.1.bytes.reads⟩
theorem Own.insHeld {w wr : World} {rs : List (Res w.heap.size)} {a : Option Addr} {n c : Nat} {cs : List TCh} (h : Own w wr rs) (hm : rTChsO w.heap.size (.slice a n c) cs ∈ rs) : TChsIn wr a cs := by
  obtain ⟨F, hF, _⟩ := h.mem hm
  exact TChsHeld.ins hF
theorem TChsHeld.le {F : Nat → Prop} {n c : Nat} {w : World} {a : Option Addr} {cs : List TCh} (h : TChsHeld F w (.slice a n c) cs) : n ≤ c ∧ c ≤ maxLen := by
  obtain ⟨ps, h1, h2, h3⟩ := h
  rcases h2.2 with ⟨e, e2⟩ | ⟨g, cap, cur, e, _, _, k1, k2, _⟩
  · cases e; exact ⟨Nat.le_refl _, Nat.zero_le _⟩
  · cases e; exact ⟨k1, k2⟩
theorem rel2_set {α β : Type} {R S : α → β → Prop} : ∀ {ps : List α} {cs : List β} (k : Nat) {p : α} {c' : β}, Rel2 R ps cs → ps[k]? = some p → S p c' → (∀ i q d, i ≠ k → ps[i]? = some q → R q d → S q d) → Rel2 S ps (cs.set k c')
  | [], [], _, _, _, _, hp, _, _ => by simp at hp
  | x :: ps, y :: cs, 0, p, c', h, hp, hs, hr => by
    simp at hp; subst hp
    refine ⟨hs, ?_⟩
    have : ∀ {ps : List α} {cs : List β} (j : Nat), Rel2 R ps cs → (∀ i q d, ps[i]? = some q → R q d → S q d) → Rel2 S ps cs := fun {ps cs} => by
      induction ps generalizing cs with
      | nil => intro j h _; cases cs with | nil => trivial | cons _ _ => exact h.elim
      | cons a ps ih =>
        intro j h hr
        cases cs with
        | nil => exact h.elim
        | cons b cs => exact ⟨hr 0 a b rfl h.1, ih 0 h.2 (fun i q d hq => hr (i + 1) q d (by simpa using hq))⟩
    exact this 0 h.2 (fun i q d hq => hr (i + 1) q d (by omega) (by simpa using hq))
  | x :: ps, y :: cs, k + 1, p, c', h, hp, hs, hr =>
    ⟨hr 0 x y (by omega) rfl h.1, rel2_set k h.2 (by simpa using hp) hs (fun i q d hi hq => hr (i + 1) q d (by omega) (by simpa using hq))⟩
  | [], _ :: _, _, _, _, h, _, _, _ => h.elim
  | _ :: _, [], _, _, _, h, _, _, _ => h.elim
theorem tchCells_set : ∀ {ps : List Value} {cs : List TCh} (k : Nat) {c : TCh} (bs : List UInt8), cs[k]? = some c → tchCells ps (cs.set k ⟨c.key, c.gone, bs⟩) = tchCells ps cs
  | [], cs, k, c, bs, _ => by cases cs <;> cases k <;> simp [tchCells]
  | p :: ps, [], k, c, bs, h => by simp at h
  | p :: ps, x :: cs, 0, c, bs, h => by simp at h; subst h; rfl
  | p :: ps, x :: cs, k + 1, c, bs, h => by
    simp only [List.set_cons_succ, tchCells]
    rw [tchCells_set k bs (by simpa using h)]
/-- A byte of a value is written. -/
theorem TChsHeld.poke {F : Nat → Prop} {w : World} {v : Value} {cs : List TCh} (h : TChsHeld F w v cs) {k n : Nat} {c : TCh} (hc : cs[k]? = some c) (hn : n < c.val.length) (z : UInt8) :
    ∃ (x : Addr) (cp g cap : Nat) (y : UInt8), v = .slice (some x) cs.length cp ∧ w.cell? { block := (x.add (k * 3)).block, off := (x.add (k * 3)).off + 2 } = some (.slice (some ⟨g, 0, none⟩) c.val.length cap) ∧ c.val[n]? = some y ∧ w.cell? ⟨g, n, none⟩ = some (.int .u8 (y.toNat : Int)) ∧ w.frozen? ⟨g, n, none⟩ = false ∧ F g ∧
      TChsHeld F (w.setCell ⟨g, n, none⟩ (.int .u8 (z.toNat : Int))) v (cs.set k ⟨c.key, c.gone, c.val.set n z⟩) := by
  obtain ⟨ps, h1, h2, h3, h4⟩ := h
  obtain ⟨p, hp, ho, hF⟩ := h1.get' hc
  have hcl := tchCells_get k hp hc
  obtain ⟨g, cap, rfl, -, -⟩ := ho.form (fun e => by rw [e] at hn; simp at hn)
  obtain ⟨ho2, -, hfz, hk⟩ := ho.set hn z
  obtain ⟨y, ey, hcell⟩ := ho.bytes.reads.cell rfl hn
  cases ey
  rw [Addr.add_lit, Nat.zero_add] at hcell
  have hne : ∀ b, v.ownBlock = some b → b ≠ g := fun b hb e => by
    subst e
    obtain ⟨c1, k1⟩ := ownsRow_type h2 hb
    obtain ⟨c2, k2⟩ := ownsRow_type ho rfl
    have := k1.symm.trans k2
    simp only [Option.some.injEq, Obj.cells.injEq] at this
    exact absurd this.2.1 (by decide)
  rcases h2.2 with ⟨e, e2⟩ | ⟨gv, capv, cur, e, hrest⟩
  · have := (List.getElem?_eq_some_iff.1 hc).1; omega
  subst e
  have hx := h2.cells (g := gv) rfl _ _ hcl.2.2
  rw [← Addr.add_add, Addr.add_succ'] at hx
  refine ⟨_, _, g, cap, _, rfl, hx, List.getElem?_eq_getElem hn, hcell, hfz, hF g rfl, ps, ?_, ?_, h3, h4⟩
  · refine rel2_set k h1 hp ⟨?_, hF⟩ (fun i q d hi hq hqd => ⟨owns_keep hqd.1 hk (fun b hb e => ?_), hqd.2⟩)
    · rw [← List.length_set (i := n) (a := z)] at ho2
      simpa using ho2
    · subst e
      rcases Nat.lt_or_gt_of_ne hi with hlt | hgt
      · exact (List.pairwise_iff_getElem.1 h4 i k (List.getElem?_eq_some_iff.1 hq).1 (List.getElem?_eq_some_iff.1 hp).1 hlt) _ (by rw [(List.getElem?_eq_some_iff.1 hq).2]; exact hb) (by rw [(List.getElem?_eq_some_iff.1 hp).2]; rfl)
      · exact (List.pairwise_iff_getElem.1 h4 k i (List.getElem?_eq_some_iff.1 hp).1 (List.getElem?_eq_some_iff.1 hq).1 hgt) _ (by rw [(List.getElem?_eq_some_iff.1 hp).2]; rfl) (by rw [(List.getElem?_eq_some_iff.1 hq).2]; exact hb)
  · rw [List.length_set, tchCells_set k _ hc]
    exact rrow_keep h2 (fun b hb => hk.block b (h2.lt b hb).2 (hne b hb))
end Go.Proofs.YtaeabdghlkdkjaaGreat
