/- Slices of bytes: what append makes of them. -/
import Derived.Test.YtlinkpjneehnbaaMaps
import Derived.Deep.AppendSrc
import Derived.Maps.OwnSet
namespace Go.Proofs.Ytlinkpjneehnbaa
open Go.RowKit Go.MapKept

def u8v (c : UInt8) : Value := .int .u8 (c.toNat : Int)
theorem u8v_one (l : List UInt8) : ∀ u ∈ l.map u8v, u.oneCell' = true := by
  intro u hu
  obtain ⟨_, _, rfl⟩ := List.mem_map.1 hu
  rfl

section
variable {P : Program} {F : Nat → Prop} {w : World}

theorem Bytes.cells {s : Value} {l : List UInt8} (h : Bytes F w s l) {a : Addr} {n c : Nat} (hs : s = .slice (some a) n c) : n = l.length ∧ ∀ j u, (l.map u8v)[j]? = some u → w.cell? (a.add j) = some u := by
  rcases h with ⟨e, _⟩ | ⟨g, off, cap, cs, fz, e, hF, hb, h1, h2, h3, h4⟩
  · rw [hs] at e; cases e
  · rw [hs] at e
    simp only [Value.slice.injEq, Option.some.injEq] at e
    obtain ⟨rfl, rfl, rfl⟩ := e
    refine ⟨rfl, fun j u hu => ?_⟩
    rw [List.getElem?_map] at hu
    obtain ⟨x, hx, rfl⟩ := Option.map_eq_some_iff.1 hu
    rw [Addr.add_lit]
    exact cell_at hb (h4 j x hx)

/-- The slice v reads as the bytes l, in whatever memory. -/
def Reads (w : World) (v : Value) (l : List UInt8) : Prop :=
  (v = .slice none 0 0 ∧ l = []) ∨ ∃ (x : Addr) (c : Nat), v = .slice (some x) l.length c ∧ l.length ≤ c ∧ c ≤ maxLen ∧ ∀ j u, (l.map u8v)[j]? = some u → w.cell? (x.add j) = some u
theorem Bytes.reads {s : Value} {l : List UInt8} (h : Bytes F w s l) : Reads w s l := by
  obtain ⟨a, c, rfl, h1, h2⟩ := h.form
  cases a with
  | none =>
    rcases h with ⟨e, rfl⟩ | ⟨g, off, cap, cs, fz, e, _⟩
    · exact .inl ⟨e, rfl⟩
    · cases e
  | some x => exact .inr ⟨x, c, rfl, h1, h2, (h.cells rfl).2⟩
theorem Reads.form {v : Value} {l : List UInt8} (h : Reads w v l) : ∃ a c, v = .slice a l.length c ∧ l.length ≤ c ∧ c ≤ maxLen := by
  rcases h with ⟨rfl, rfl⟩ | ⟨x, c, rfl, h1, h2, _⟩
  · exact ⟨none, 0, rfl, Nat.le_refl _, Nat.zero_le _⟩
  · exact ⟨_, c, rfl, h1, h2⟩
theorem Reads.same {v : Value} {l : List UInt8} (h : Reads w v l) {w' : World} (hk : ∀ b, b < w.heap.size → w'.heap[b]? = w.heap[b]?) : Reads w' v l := by
  rcases h with h | ⟨x, c, rfl, h1, h2, h3⟩
  · exact .inl h
  · exact .inr ⟨x, c, rfl, h1, h2, fun j u hu => by
      have := h3 j u hu
      rw [World.cell?_of_block (hk _ (World.block_lt_of_cell? w _ this))]
      exact this⟩
theorem Reads.keep {v : Value} {l : List UInt8} (h : Reads w v l) {w' : World} (hk : Keeps (fun _ => False) w w') : Reads w' v l := h.same (fun b hb => hk.block b hb (fun e => e))
theorem Reads.src {tx e' : TypeId} (hk : P.underlying tx = some (.slice e')) {x : Value} {m : List UInt8} (h : Reads w x m) : Src P 1 tx x m.length (m.map u8v) w := by
  rcases h with ⟨rfl, rfl⟩ | ⟨a, c, rfl, h1, h2, h3⟩
  · exact Src.ofNil w hk _
  · exact Src.ofSlice w hk a _ _ _ (by simp) h3 (u8v_one _)

theorem Bytes.src {tx e' : TypeId} (hk : P.underlying tx = some (.slice e')) {x : Value} {m : List UInt8} (h : Bytes F w x m) : Src P 1 tx x m.length (m.map u8v) w := by
  obtain ⟨a, cap, rfl, _, _⟩ := h.form
  cases a with
  | none =>
    rcases h with ⟨e, rfl⟩ | ⟨g, off, cap, cs, fz, e, _⟩
    · exact Src.ofNil w hk _
    · cases e
  | some a =>
    exact Src.ofSlice w hk a _ _ _ (by simp) (h.cells rfl).2 (u8v_one _)

theorem Bytes.first {x : Value} {m : List UInt8} (h : Bytes F w x m) : (Builtin.firstCells 1 m.length x).run P w = .ok (m.map u8v).toArray w := by
  obtain ⟨a, cap, rfl, _, _⟩ := h.form
  cases a with
  | none =>
    rcases h with ⟨e, rfl⟩ | ⟨g, off, cap, cs, fz, e, _⟩
    · exact run_firstCells_none w 1 0 0 _
    · cases e
  | some a => exact run_firstCells_some w 1 _ a _ _ _ (by simp) (h.cells rfl).2

/-- A new row that holds these bytes first. -/
theorem Bytes.made (l : List UInt8) (rest : Array Value) (w : World) {n cap : Nat} (hn : n = l.length) (hc : l.length ≤ cap) (hm : cap ≤ maxLen) (hs : cap ≤ l.length + rest.size) (hF : F w.heap.size) :
    Bytes F (w.alloc (.cells ((l.map u8v).toArray ++ rest) 5)) (.slice (some ⟨w.heap.size, 0, none⟩) n cap) l := by
  subst hn
  refine .inr ⟨_, 0, cap, _, _, rfl, hF, heap_alloc_new w _, hc, hm, by simp; omega, fun i c hi => ?_⟩
  have hlt : i < l.length := (List.getElem?_eq_some_iff.1 hi).1
  simp only [Nat.zero_add, Array.getElem?_append, List.size_toArray, List.length_map, hlt, if_true, List.getElem?_toArray, List.getElem?_map, hi, Option.map_some]
  rfl

/-- 'append(s, x...)' where there is no room: a new row. -/
theorem append_new (t tx ty e' : TypeId) (i : TypeInfo) (z : Value) (ht : P.underlying t = some (.slice 5)) (hx : P.underlying tx = some (.slice e')) (hi : P.info? 5 = some i) (hz : i.zero = some z) (hsz : i.size = 1) (hby : i.bytes = 1) (hzc : z.cells.size = 1)
    {s x : Value} {l m : List UInt8} (h : Bytes F w s l) (k : Reads w x m) {a : Option Addr} {n cap : Nat} (hs : s = .slice a n cap) (hcap : cap < l.length + m.length) (hb : l.length + m.length ≤ 140737488355328) :
    ∃ v' w', (Builtin.append_ #[t, tx] ty #[s, x]).run P w = .ok v' w' ∧ Bytes (fun b => b = w.heap.size) w' v' (l ++ m) ∧ w'.heap.size = w.heap.size + 1 ∧ Keeps (fun _ => False) w w' ∧
      ∃ c cs, v' = .slice (some ⟨w.heap.size, 0, none⟩) (l.length + m.length) c ∧ w'.heap[w.heap.size]? = some (.cells cs 5 (0, 0)) := by
  have hn : n = l.length := by
    obtain ⟨a', c', e, _, _⟩ := h.form
    rw [hs] at e; simp at e; exact e.2.1
  subst hn
  have hsrc : Src P i.size tx x m.length (m.map u8v) w := by rw [hsz]; exact k.src hx
  have hold : (Builtin.firstCells i.size l.length (.slice a l.length cap)).run P w.drew = .ok (l.map u8v).toArray w.drew := by
    rw [hsz, ← hs]
    exact Bytes.first (F := F) (h.keep (KeepU8.refl F w).drew (fun _ h _ => h))
  have hr := run_append_grow_src (P := P) w t tx ty 5 i z ht hi hz a l.length cap (l.map u8v) hold x m.length (m.map u8v) hsrc hcap (by omega) (by rw [hby]; exact growslice_fits hcap (by omega))
  have hge := grownCap_ge w (l.length + m.length) cap 5
  have hle := grownCap_le_maxLen w (l.length + m.length) cap 5 (by unfold maxLen; omega)
  refine ⟨_, _, by rw [hs]; exact hr, ?_, by simp, ((Keeps.refl _ _).drew).alloc _, _, _, rfl, heap_alloc_new w.drew _⟩
  rw [show l.map u8v ++ m.map u8v = (l ++ m).map u8v by simp]
  exact Bytes.made (F := fun b => b = w.heap.size) (l ++ m) _ w.drew (by simp) (by simpa using hge) hle (by simp [size_zeroCells, hzc]; omega) rfl

/-- 'append(s, x...)' of nothing. -/
theorem append_none (t tx ty e' : TypeId) (i : TypeInfo) (ht : P.underlying t = some (.slice 5)) (hx : P.underlying tx = some (.slice e')) (hi : P.info? 5 = some i) (hsz : i.size = 1)
    {s x : Value} {l : List UInt8} (h : Bytes F w s l) (k : Reads w x []) : (Builtin.append_ #[t, tx] ty #[s, x]).run P w = .ok s w := by
  obtain ⟨a, cap, hs, hc, _⟩ := h.form
  subst hs
  cases a with
  | none =>
    have hsrc : Src P i.size tx x 0 [] w := by rw [hsz]; exact k.src hx
    have hc' := hsrc.cells
    have hl' := hsrc.len w
    simp [Builtin.append_, run_underlying ht, run_underlying hx, sizeOf, typeInfo, hi, hl', hc, hc']
  | some a =>
    have hsrc : Src P i.size tx x 0 [] w := by rw [hsz]; exact k.src hx
    have hc' := hsrc.cells
    have hl' := hsrc.len w
    simp [Builtin.append_, run_underlying ht, run_underlying hx, sizeOf, typeInfo, hi, hl', hc, hc', storeCells]

/-- 'append(s, x...)', s with no room behind its length. -/
theorem append_full (t tx ty e' : TypeId) (i : TypeInfo) (z : Value) (ht : P.underlying t = some (.slice 5)) (hx : P.underlying tx = some (.slice e')) (hi : P.info? 5 = some i) (hz : i.zero = some z) (hsz : i.size = 1) (hby : i.bytes = 1) (hzc : z.cells.size = 1)
    {s x : Value} {l m : List UInt8} (h : Bytes F w s l) (k : Reads w x m) {a : Option Addr} {n : Nat} (hs : s = .slice a n l.length) (hb : l.length + m.length ≤ 140737488355328) :
    ∃ v' w', (Builtin.append_ #[t, tx] ty #[s, x]).run P w = .ok v' w' ∧ Bytes (fun b => F b ∨ b = w.heap.size) w' v' (l ++ m) ∧ Keeps (fun _ => False) w w' ∧ (m ≠ [] → Bytes (fun b => b = w.heap.size) w' v' (l ++ m)) ∧ (m = [] → v' = s) := by
  by_cases hm : m = []
  · subst hm
    refine ⟨s, w, append_none t tx ty e' i ht hx hi hsz h k, ?_, Keeps.refl _ _, fun h => absurd rfl h, fun _ => rfl⟩
    rw [List.append_nil]
    exact h.keep (KeepU8.refl F w) (fun _ h _ => .inl h)
  · have hpos : 0 < m.length := List.length_pos_iff.2 hm
    obtain ⟨v', w', hr, hB, hz', hk, _⟩ := append_new t tx ty e' i z ht hx hi hz hsz hby hzc h k hs (by omega) hb
    exact ⟨v', w', hr, hB.keep (KeepU8.refl _ _) (fun _ h _ => .inr h), hk, fun _ => hB, fun h => absurd h hm⟩

/-- An append whose run is known, as a step of a region that draws; and of a plain one. -/
theorem step_append_run {ops : Array Oper} {o : Oper} {a : Act} {K : Act → World → Prop} {Q : Exit → Act → World → Prop} {E : Prop}
    (hg : o.guard = none) (s x : Operand) (t tx : TypeId) (hop : o.op = Op.call { callee := Callee.builtin Builtin.append, args := #[s, x], argTypes := #[t, tx] })
    {sv xv v' : Value} {w' : World} (hs : a.eval s = sv) (hx : a.eval x = xv) (hrun : (Builtin.append_ #[t, tx] o.type #[sv, xv]).run P w = .ok v' w')
    (hK : K (a.put o.dst v') w') : if Region.wanted o (yielded ops a.tmps) = true then Oper.wp P o a w K Q else E := by
  have hw : Region.wanted o (yielded ops a.tmps) = true := by simp [Region.wanted, hg]
  rw [if_pos hw]
  unfold Oper.wp
  simp [execOp, hop, resolve, invoke, builtin, hs, hx, hrun, Result.andThen]
  exact hK
theorem wpList_append_run {ops : Array Oper} {o : Oper} {rest : List Oper} {a : Act} {Q : Exit → Act → World → Prop}
    (hg : o.guard = none) (s x : Operand) (t tx : TypeId) (hop : o.op = Op.call { callee := Callee.builtin Builtin.append, args := #[s, x], argTypes := #[t, tx] })
    {sv xv v' : Value} {w' : World} (hs : a.eval s = sv) (hx : a.eval x = xv) (hrun : (Builtin.append_ #[t, tx] o.type #[sv, xv]).run P w = .ok v' w')
    (hK : wpList P ops Q rest (a.put o.dst v') w') : wpList P ops Q (o :: rest) a w := by
  refine wpList_plain hg fun K hK' => ?_
  unfold Oper.wp
  simp [execOp, hop, resolve, invoke, builtin, hs, hx, hrun, Result.andThen]
  exact hK' _ _ hK

theorem wpList_delete_run {ops : Array Oper} {o : Oper} {rest : List Oper} {a : Act} {Q : Exit → Act → World → Prop}
    (hg : o.guard = none) (s x : Operand) (t tx : TypeId) (hop : o.op = Op.call { callee := Callee.builtin Builtin.delete, args := #[s, x], argTypes := #[t, tx] })
    {sv xv v' : Value} {w' : World} (hs : a.eval s = sv) (hx : a.eval x = xv) (hrun : (Builtin.delete_ #[t, tx] o.type #[sv, xv]).run P w = .ok v' w')
    (hK : wpList P ops Q rest (a.put o.dst v') w') : wpList P ops Q (o :: rest) a w := by
  refine wpList_plain hg fun K hK' => ?_
  unfold Oper.wp
  simp [execOp, hop, resolve, invoke, builtin, hs, hx, hrun, Result.andThen]
  exact hK' _ _ hK

/-- A row of bytes that the call owns. -/
theorem bytes_of_owns {base : Nat} {v : Value} {l : List UInt8} {n : Nat} (h : w.ownsRow base 5 1 v n (l.map u8v)) : Bytes (fun b => base ≤ b) w v l := by
  obtain ⟨h1, h2⟩ := h
  have hl : l.length = n := by simpa using h1
  rcases h2 with ⟨rfl, rfl⟩ | ⟨g, cap, cur, rfl, hg, hb, hnc, hcm, hcs, ht⟩
  · have : l = [] := List.eq_nil_of_length_eq_zero hl
    subst this; exact Bytes.nil _ _
  · subst hl
    refine .inr ⟨g, 0, cap, cur, (0, 0), rfl, hg, hb, hnc, hcm, by omega, fun i c hi => ?_⟩
    have : (cur.toList.take (l.length * 1))[i]? = some (u8v c) := by rw [ht, List.getElem?_map, hi]; rfl
    rw [List.getElem?_take] at this
    split at this
    · rw [Nat.zero_add]; simpa [u8v] using this
    · cases this
end
end Go.Proofs.Ytlinkpjneehnbaa
