/- A table's changes and its map, in memory. -/
import Derived.Test.YtaeabdghlkdkjaaCntR
import Derived.Test.YtaeabdghlkdkjaaPkJ
namespace Go.Proofs.Ytaeabdghlkdkjaa
set_option linter.unusedVariables false
open Go.RowKit Go.MapKept
open Go.ChangeMaps (setBlock)

def tchCells : List Value → List TCh → List Value
  | p :: ps, c :: cs => .string c.key :: .bool c.gone :: p :: tchCells ps cs
  | _, _ => []
theorem tchCells_snoc : ∀ (ps : List Value) (cs : List TCh) (p : Value) (c : TCh), ps.length = cs.length → tchCells (ps ++ [p]) (cs ++ [c]) = tchCells ps cs ++ [.string c.key, .bool c.gone, p]
  | [], [], _, _, _ => rfl
  | q :: ps, g :: cs, p, c, h => by simp [tchCells, tchCells_snoc ps cs p c (by simpa using h)]
  | [], _ :: _, _, _, h => by simp at h
  | _ :: _, [], _, _, h => by simp at h
theorem tchCells_get : ∀ {ps : List Value} {cs : List TCh} (i : Nat) {p : Value} {c : TCh}, ps[i]? = some p → cs[i]? = some c → (tchCells ps cs)[i * 3]? = some (.string c.key) ∧ (tchCells ps cs)[i * 3 + 1]? = some (.bool c.gone) ∧ (tchCells ps cs)[i * 3 + 2]? = some p
  | q :: ps, g :: cs, 0, p, c, hp, hc => by
    simp at hp hc; subst hp; subst hc
    exact ⟨rfl, rfl, rfl⟩
  | q :: ps, g :: cs, i + 1, p, c, hp, hc => by
    have := tchCells_get (ps := ps) (cs := cs) i (by simpa using hp) (by simpa using hc)
    rw [show (i + 1) * 3 = i * 3 + 1 + 1 + 1 by omega]
    simpa [tchCells] using this
  | [], _, i, _, _, hp, _ => by simp at hp
  | _ :: _, [], i, _, _, _, hc => by simp at hc

/-- Changes that can be read. -/
def TChsIn (w : World) (a : Option Addr) (cs : List TCh) : Prop :=
  ∀ (i : Nat) (c : TCh), cs[i]? = some c → ∃ x p, a = some x ∧ w.cell? (x.add (i * 3)) = some (.string c.key) ∧ w.cell? (x.add (i * 3 + 1)) = some (.bool c.gone) ∧ w.cell? (x.add (i * 3 + 2)) = some p ∧ Reads w p c.val
theorem cell_keep {w w' : World} {x : Addr} {v : Value} (h : w.cell? x = some v) (hk : Keeps (fun _ => False) w w') : w'.cell? x = some v := by
  have := hk.block _ (World.block_lt_of_cell? w _ h) (fun e => e)
  rw [World.cell?_of_block this]; exact h
theorem TChsIn.keep {w w' : World} {a : Option Addr} {cs : List TCh} (h : TChsIn w a cs) (hk : Keeps (fun _ => False) w w') : TChsIn w' a cs := fun i c hc => by
  obtain ⟨x, p, e, c0, c1, c2, hp⟩ := h i c hc
  exact ⟨x, p, e, cell_keep c0 hk, cell_keep c1 hk, cell_keep c2 hk, hp.keep hk⟩
theorem TChsIn.take {w : World} {a : Option Addr} {cs : List TCh} (h : TChsIn w a cs) (k : Nat) : TChsIn w a (cs.take k) := fun i c hc => by
  rw [List.getElem?_take] at hc
  split at hc
  · exact h i c hc
  · cases hc
/-- The cells of a change, as a load of it reads them. -/
theorem TChsIn.cells {w : World} {a : Option Addr} {cs : List TCh} (h : TChsIn w a cs) {i : Nat} {c : TCh} (hc : cs[i]? = some c) : ∃ x p, a = some x ∧ w.cell? (x.add (i * 3)) = some (.string c.key) ∧ w.cell? { block := (x.add (i * 3)).block, off := (x.add (i * 3)).off + 1 } = some (.bool c.gone) ∧ w.cell? { block := (x.add (i * 3)).block, off := (x.add (i * 3)).off + 2 } = some p ∧ Reads w p c.val := by
  obtain ⟨x, p, e, c0, c1, c2, hp⟩ := h i c hc
  rw [← Addr.add_add, Addr.add_succ'] at c1 c2
  exact ⟨x, p, e, c0, c1, c2, hp⟩
/-- Changes in blocks of F, or in old memory. -/
def TChsF (B : Nat) (F : Nat → Prop) (w : World) (a : Option Addr) (cs : List TCh) : Prop :=
  ∀ (i : Nat) (c : TCh), cs[i]? = some c → ∃ x p, a = some x ∧ (F x.block ∨ x.block < B) ∧ w.cell? (x.add (i * 3)) = some (.string c.key) ∧ w.cell? (x.add (i * 3 + 1)) = some (.bool c.gone) ∧ w.cell? (x.add (i * 3 + 2)) = some p ∧ ReadsF B F w p c.val
theorem TChsF.keep {B : Nat} {F : Nat → Prop} {w w' : World} {a : Option Addr} {cs : List TCh} (h : TChsF B F w a cs) (hk : ∀ b, F b ∨ b < B → w'.heap[b]? = w.heap[b]?) : TChsF B F w' a cs := fun i c hc => by
  obtain ⟨x, p, e, hb, c0, c1, c2, hp⟩ := h i c hc
  have hh : ∀ j, w'.cell? (x.add j) = w.cell? (x.add j) := fun j => World.cell?_of_block (by rw [add_block]; exact hk _ hb)
  exact ⟨x, p, e, hb, (hh _).trans c0, (hh _).trans c1, (hh _).trans c2, hp.keep hk⟩
theorem TChsF.ins {B : Nat} {F : Nat → Prop} {w : World} {a : Option Addr} {cs : List TCh} (h : TChsF B F w a cs) : TChsIn w a cs := fun i c hc => by
  obtain ⟨x, p, e, _, c0, c1, c2, hp⟩ := h i c hc
  exact ⟨x, p, e, c0, c1, c2, hp.reads⟩
theorem TChsIn.old {B : Nat} {w : World} {a : Option Addr} {cs : List TCh} (h : TChsIn w a cs) (hB : w.heap.size ≤ B) : TChsF B (fun _ => False) w a cs := fun i c hc => by
  obtain ⟨x, p, e, c0, c1, c2, hp⟩ := h i c hc
  have := World.block_lt_of_cell? w _ c0
  rw [add_block] at this
  exact ⟨x, p, e, .inr (by omega), c0, c1, c2, ReadsF.of_old hp hB⟩
def rTChs (B : Nat) (a : Option Addr) (cs : List TCh) : Res B := ⟨fun F w => TChsF B F w a cs, fun _ _ _ h hk => h.keep hk⟩
theorem Own.tchs {w wr : World} {rs : List (Res w.heap.size)} {a : Option Addr} {cs : List TCh} (h : Own w wr rs) (hm : rTChs w.heap.size a cs ∈ rs) : TChsIn wr a cs := by
  obtain ⟨F, hF, _⟩ := h.mem hm
  exact TChsF.ins hF
theorem Own.oldTChs {w wr : World} {rs : List (Res w.heap.size)} {a : Option Addr} {cs : List TCh} (h : Own w wr rs) (hi : TChsIn w a cs) : Own w wr (rTChs w.heap.size a cs :: rs) :=
  h.add (Keeps.refl _ wr) (r := rTChs w.heap.size a cs) (G := fun _ => False) ((hi.old (Nat.le_refl _)).keep (fun b hb => by
    rcases hb with hb | hb
    · exact hb.elim
    · exact h.keeps.block b hb (fun e => e))) (fun b hb => hb.elim)

/-- A row of changes in new memory, its values other new memory. -/
def TChsAt (T : TypeId) (base : Nat) (w : World) (v : Value) (cs : List TCh) : Prop :=
  ∃ ps : List Value, Rel2 (fun p (c : TCh) => Owns w base p c.val) ps cs ∧ w.ownsRow base T 3 v cs.length (tchCells ps cs) ∧ ps.Pairwise (fun p q => ∀ b, p.ownBlock = some b → q.ownBlock ≠ some b)
theorem TChsAt.nil (T : TypeId) (base : Nat) (w : World) : TChsAt T base w (.slice none 0 0) [] := ⟨[], trivial, ⟨rfl, .inl ⟨rfl, rfl⟩⟩, List.Pairwise.nil⟩
theorem TChsAt.form {T : TypeId} {base : Nat} {w : World} {v : Value} {cs : List TCh} (h : TChsAt T base w v cs) : ∃ a c, v = .slice a cs.length c := by
  obtain ⟨ps, h1, h2, h3⟩ := h
  exact ownsRow_slice h2
theorem TChsAt.keep {T : TypeId} {base : Nat} {w w' : World} {v : Value} {cs : List TCh} (h : TChsAt T base w v cs) (hk : Keeps (fun _ => False) w w') : TChsAt T base w' v cs := by
  obtain ⟨ps, h1, h2, h3⟩ := h
  exact ⟨ps, h1.mono (fun p c hpc => hpc.keep hk), rrow_keep h2 (fun b hb => hk.block b (h2.lt b hb).2 (fun e => e)), h3⟩
theorem TChsAt.res {T : TypeId} {base B : Nat} {w : World} {a : Option Addr} {n c : Nat} {cs : List TCh} (h : TChsAt T base w (.slice a n c) cs) : TChsF B (fun b => base ≤ b ∧ b < w.heap.size) w a cs := fun i ch hc => by
  obtain ⟨ps, h1, h2, h3⟩ := h
  obtain ⟨p, hp, ho⟩ := h1.get' hc
  have hcl := tchCells_get i hp hc
  have hlt := h2.lt
  rcases h2.2 with ⟨e, e2⟩ | ⟨g, cap, cur, e, _⟩
  · have := (List.getElem?_eq_some_iff.1 hc).1; omega
  · cases e
    refine ⟨_, p, rfl, .inl ⟨(hlt g rfl).1, (hlt g rfl).2⟩, h2.cells (g := g) rfl _ _ hcl.1, h2.cells (g := g) rfl _ _ hcl.2.1, h2.cells (g := g) rfl _ _ hcl.2.2, ?_⟩
    exact (ReadsF.of_owns (B := B) ho).wider (fun b hb => ⟨(owns_lt ho b hb).2, (owns_lt ho b hb).1⟩)
theorem TChsAt.ins {T : TypeId} {base : Nat} {w : World} {a : Option Addr} {n c : Nat} {cs : List TCh} (h : TChsAt T base w (.slice a n c) cs) : TChsIn w a cs := (h.res (B := 0)).ins
theorem TChsAt.le {T : TypeId} {base n c : Nat} {w : World} {a : Option Addr} {cs : List TCh} (h : TChsAt T base w (.slice a n c) cs) : n ≤ c ∧ c ≤ maxLen := by
  obtain ⟨ps, h1, h2, h3⟩ := h
  rcases h2.2 with ⟨e, e2⟩ | ⟨g, cap, cur, e, _, _, k1, k2, _⟩
  · cases e; exact ⟨Nat.le_refl _, Nat.zero_le _⟩
  · cases e; exact ⟨k1, k2⟩
theorem Own.addTChs {w wr w' : World} {rs : List (Res w.heap.size)} (h : Own w wr rs) {T : TypeId} {a : Option Addr} {n c : Nat} {cs : List TCh} (ho : TChsAt T wr.heap.size w' (.slice a n c) cs) (hk : Keeps (fun _ => False) wr w') : Own w w' (rTChs w.heap.size a cs :: rs) :=
  h.add hk (r := rTChs w.heap.size a cs) (G := fun b => wr.heap.size ≤ b ∧ b < w'.heap.size) ho.res (fun b hb => hb)

/-- 'append(out, c)', c already stored in a row of its own. -/
theorem TChsAt.push {T Ts : TypeId} (hinfo : (Try.prog.info? T).map (fun i => (i.zero, i.size, i.bytes)) = some (some (.agg #[.string ⟨#[]⟩, .bool false, .slice none 0 0]), 3, 48)) (hu : Try.prog.underlying Ts = some (.slice T)) (hne : T ≠ 5)
    {base : Nat} {w0 w : World} {v p : Value} {cs : List TCh} {c : TCh} (h : TChsAt T base w0 v cs) (hz : base ≤ w0.heap.size) (hk0 : Keeps (fun _ => False) w0 w) (hp : Owns w w0.heap.size p c.val) (hb : cs.length < 1099511627776) :
    ∃ a k w', (Builtin.append_ #[Ts, Ts] Ts #[v, .slice (some ⟨w.heap.size, 0, none⟩) 1 1]).run Try.prog (w.alloc (.cells #[.string c.key, .bool c.gone, p] T)) = .ok (.slice a (cs.length + 1) k) w' ∧ TChsAt T base w' (.slice a (cs.length + 1) k) (cs ++ [c]) ∧
      Keeps (fun b => v.ownBlock = some b) w w' ∧ ∀ b, v.ownBlock = some b → base ≤ b := by
  obtain ⟨ps, g1, g2, h3⟩ := h
  have h1 : Rel2 (fun p (c : TCh) => Owns w base p c.val) ps cs := g1.mono (fun p c hpc => hpc.keep hk0)
  have h2 : w.ownsRow base T 3 v cs.length (tchCells ps cs) := rrow_keep g2 (fun b hb => hk0.block b (g2.lt b hb).2 (fun e => e))
  have hz0 := hk0.size
  have hlt := h2.lt
  obtain ⟨i0, hi, hz0', hz1, hz2⟩ := info_parts hinfo
  have hp1 : p.oneCell' = true := by obtain ⟨a, c, rfl, _⟩ := hp.bytes.form; rfl
  obtain ⟨v', w', hrun, ho2, hg, _, hat⟩ := run_append_own_at (P := Try.prog) (w.alloc (.cells #[.string c.key, .bool c.gone, p] T)) base Ts Ts T i0 _ 3 48 hu hi hz0' hz1 hz2 rfl (by omega) v cs.length (tchCells ps cs) (h2.alloc _) ⟨w.heap.size, 0, none⟩ 1 1 [.string c.key, .bool c.gone, p] rfl
    (fun j u hu => by
      rw [Addr.add_lit, Nat.zero_add]
      exact cell_at (heap_alloc_new w _) (by simpa using hu))
    (by intro u hu; simp at hu; rcases hu with rfl | rfl | rfl; rfl; rfl; exact hp1) (by unfold maxLen; omega) (by omega) (by simp only [World.size_alloc]; omega)
  obtain ⟨a, k, rfl⟩ := ownsRow_slice ho2
  have hk : Keeps (fun b => v.ownBlock = some b) w w' := ((Keeps.refl _ w).alloc _).trans (Keeps.of_grown hg) (fun _ _ h => h)
  have hdis : ∀ {q : Value} {m : List UInt8} {base' : Nat}, Owns w base' q m → ∀ b, q.ownBlock = some b → ¬ v.ownBlock = some b := fun {q m base'} hq b e1 e2 => by
    obtain ⟨c1, k1⟩ := ownsRow_type hq e1
    obtain ⟨c2, k2⟩ := ownsRow_type h2 e2
    have := k1.symm.trans k2
    simp only [Option.some.injEq, Obj.cells.injEq] at this
    exact hne this.2.1.symm
  refine ⟨a, k, w', hrun, ⟨ps ++ [p], ?_, ?_, ?_⟩, hk, fun b hb => (hlt b hb).1⟩
  · exact (h1.mono (fun q f hq => owns_keep hq hk (hdis hq))).append ⟨Owns.base (owns_keep hp hk (hdis hp)) hz, trivial⟩
  · rw [tchCells_snoc _ _ _ _ h1.length, List.length_append]
    exact ho2
  · rw [List.pairwise_append]
    refine ⟨h3, List.pairwise_singleton .., fun q hq r hr b hb e => ?_⟩
    simp at hr
    subst hr
    obtain ⟨m, hm⟩ := g1.mem q hq
    have e1 := owns_lt hm b hb
    have e2 := owns_lt hp b e
    omega
end Go.Proofs.Ytaeabdghlkdkjaa
