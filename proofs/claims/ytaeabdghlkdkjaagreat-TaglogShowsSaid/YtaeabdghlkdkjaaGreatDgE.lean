/- Digests in memory: compared, in rows, as things. -/
import Derived.Test.YtaeabdghlkdkjaaGreatDigF
import Derived.ChangeKeysEq
import Derived.Deep.MidRow
import Derived.Great.BuildSlice
namespace Go.Proofs.YtaeabdghlkdkjaaGreat
set_option linter.unusedVariables false
set_option linter.unusedSimpArgs false
open Go.RowKit Go.MapKept

def zero32 : List UInt8 := List.replicate 32 0
def zeroC : Array Value := (zero32.map u8v).toArray
theorem dall_run (W : World) (b : Nat) : (Instr.sliceAt 83 (.pointer (some ⟨b, 0, none⟩)) none none none).run Tryz.prog W = .ok (.slice (some ⟨b, 0, none⟩) 32 32) W := by kernel_rfl
theorem zeroC_rep : zeroC = Array.replicate 32 (.int .u8 0) := by kernel_rfl
theorem zeroC_built : Tryz.prog.built 83 [] = some zeroC := by kernel_rfl
theorem zeroC_size : zeroC.size = 32 := by kernel_rfl
theorem dig_info {ds : Array Value} (h : ds.size = 32) : (Tryz.prog.info? 83).map (·.size) = some ds.size := by rw [h]; kernel_rfl
theorem plain_u8 : Tryz.prog.plainKey 5 = true := by kernel_rfl
theorem cells_u8 : Tryz.prog.cellsOf 5 = 1 := by kernel_rfl
theorem eq_items (A B : List UInt8) (W : World) : ∀ is : List Nat, (∀ i ∈ is, i < A.length ∧ i < B.length) →
    ∃ r : Bool, (Op.eqItems 9999 5 1 (A.map u8v).toArray (B.map u8v).toArray is).run Tryz.prog W = .ok r W ∧ (r = true ↔ ∀ i ∈ is, A[i]? = B[i]?)
  | [], _ => ⟨true, by simp [Op.eqItems], by simp⟩
  | i :: is, h => by
    obtain ⟨r, hr, hiff⟩ := eq_items A B W is (fun j hj => h j (List.mem_cons_of_mem _ hj))
    have hi := h i (List.mem_cons_self ..)
    have ha : (part 5 (A.map u8v).toArray (i * 1)).run Tryz.prog W = .ok (u8v A[i]) W := run_part_plain W plain_u8 (by simp [hi.1])
    have hb : (part 5 (B.map u8v).toArray (i * 1)).run Tryz.prog W = .ok (u8v B[i]) W := run_part_plain W plain_u8 (by simp [hi.2])
    have he : (Op.equalIn 9999 5 (u8v A[i]) (u8v B[i])).run Tryz.prog W = .ok ((A[i].toNat : Int) == (B[i].toNat : Int)) W := run_equalIn_int W 9998 5 .u8 .u8 _ _ Tryz.underlying5
    simp only [Op.eqItems, Sem.run_bind, ha, hb, he, Result.andThen_ok]
    by_cases hab : A[i] = B[i]
    · have e1 : ((A[i].toNat : Int) == (B[i].toNat : Int)) = true := by rw [hab]; simp
      refine ⟨r, by rw [e1]; simpa using hr, ?_⟩
      rw [hiff]
      simp [List.getElem?_eq_getElem hi.1, List.getElem?_eq_getElem hi.2, hab]
    · have e1 : ((A[i].toNat : Int) == (B[i].toNat : Int)) = false := by
        rw [beq_eq_false_iff_ne]
        intro e
        exact hab (UInt8.toNat_inj.1 (by omega))
      refine ⟨false, by rw [e1]; simp, ?_⟩
      simp [List.getElem?_eq_getElem hi.1, List.getElem?_eq_getElem hi.2, hab]
theorem dig_ext {A B : List UInt8} (hA : A.length = 32) (hB : B.length = 32) (hall : ∀ i ∈ List.range 32, A[i]? = B[i]?) : A = B := by
  apply List.ext_getElem?
  intro i
  by_cases hi : i < 32
  · exact hall i (by rw [List.mem_range]; exact hi)
  · rw [List.getElem?_eq_none (by omega), List.getElem?_eq_none (by omega)]
theorem dig_eq (A B : List UInt8) (hA : A.length = 32) (hB : B.length = 32) (W : World) : (Op.equalIn 10000 83 (.agg (A.map u8v).toArray) (.agg (B.map u8v).toArray)).run Tryz.prog W = .ok (decide (A = B)) W := by
  obtain ⟨i0, hi, hz0, hz1, hz2⟩ := info_parts info_u8
  have h := run_equalIn_array (P := Tryz.prog) W 9999 (t := 83) (e := 5) (n := 32) (i := i0) (A.map u8v).toArray (B.map u8v).toArray (by kernel_rfl) hi
  rw [cells_u8] at h
  obtain ⟨r, hr, hiff⟩ := eq_items A B W (List.range 32) (fun i hm => by rw [List.mem_range] at hm; omega)
  have hrd : r = decide (A = B) := by
    rw [Bool.eq_iff_iff, hiff, decide_eq_true_iff]
    exact ⟨fun hall => dig_ext hA hB hall, fun e i _ => by rw [e]⟩
  rw [hrd] at hr
  exact h.trans hr
/-- Digests all. -/
def Len32 (L : List (List UInt8)) : Prop := ∀ x ∈ L, x.length = 32
theorem Len32.snoc {L : List (List UInt8)} (h : Len32 L) {D : List UInt8} (hD : D.length = 32) : Len32 (L ++ [D]) := fun x hx => by
  rcases List.mem_append.1 hx with hx | hx
  · exact h x hx
  · simp at hx; subst hx; exact hD
/-- The cells of a row of digests. -/
def digCells (L : List (List UInt8)) : List Value := L.flatMap (fun x => x.map u8v)
theorem digCells_length : ∀ {L : List (List UInt8)}, Len32 L → (digCells L).length = L.length * 32
  | [], _ => rfl
  | x :: L, h => by
    have h1 := digCells_length (L := L) (fun y hy => h y (List.mem_cons_of_mem _ hy))
    have h2 := h x (List.mem_cons_self ..)
    unfold digCells at h1 ⊢
    rw [List.flatMap_cons, List.length_append, h1, List.length_map, h2, List.length_cons]
    omega
theorem digCells_get : ∀ {L : List (List UInt8)}, Len32 L → ∀ {k : Nat} {x : List UInt8}, L[k]? = some x → ∀ {j : Nat} {v : Value}, (x.map u8v)[j]? = some v → (digCells L)[k * 32 + j]? = some v
  | [], _, k, x, hx, _, _, _ => by simp at hx
  | y :: L, h, 0, x, hx, j, v, hv => by
    simp at hx
    subst hx
    have hj : j < (y.map u8v).length := (List.getElem?_eq_some_iff.1 hv).1
    unfold digCells
    rw [List.flatMap_cons, Nat.zero_mul, Nat.zero_add, List.getElem?_append_left hj, hv]
  | y :: L, h, k + 1, x, hx, j, v, hv => by
    have h1 := digCells_get (L := L) (fun z hz => h z (List.mem_cons_of_mem _ hz)) (k := k) (x := x) (by simpa using hx) hv
    have h2 : (y.map u8v).length = 32 := by rw [List.length_map]; exact h y (List.mem_cons_self ..)
    unfold digCells at h1 ⊢
    rw [List.flatMap_cons, List.getElem?_append_right (by omega), h2, ← h1]
    congr 1
    omega
theorem digCells_snoc (L : List (List UInt8)) (x : List UInt8) : digCells (L ++ [x]) = digCells L ++ x.map u8v := by simp [digCells]

/-- The slice v is a row of these digests, in memory from base on. -/
def Digs (base : Nat) (w : World) (v : Value) (L : List (List UInt8)) : Prop := w.ownsRow base 83 32 v L.length (digCells L) ∧ Len32 L
theorem Digs.nil (base : Nat) (w : World) : Digs base w (.slice none 0 0) [] := ⟨⟨rfl, .inl ⟨rfl, rfl⟩⟩, fun x hx => by cases hx⟩
theorem Digs.keep {base : Nat} {w w' : World} {v : Value} {L : List (List UInt8)} (h : Digs base w v L) (hr : ∀ b, v.ownBlock = some b → w'.heap[b]? = w.heap[b]?) : Digs base w' v L := by
  obtain ⟨⟨h1, h2⟩, h3⟩ := h
  refine ⟨⟨h1, h2.imp id ?_⟩, h3⟩
  rintro ⟨g, cap, cur, rfl, hg, hb, rest⟩
  exact ⟨g, cap, cur, rfl, hg, (hr g rfl).trans hb, rest⟩
theorem Digs.lt {base : Nat} {w : World} {v : Value} {L : List (List UInt8)} (h : Digs base w v L) : ∀ b, v.ownBlock = some b → b < w.heap.size ∧ base ≤ b := by
  rcases h.1.2 with ⟨rfl, _⟩ | ⟨g, cap, cur, rfl, hg, hb, _⟩
  · intro b hb; cases hb
  · intro b hb'
    cases hb'
    exact ⟨lt_of_heap hb, hg⟩
theorem Digs.quiet {base : Nat} {w w' : World} {v : Value} {L : List (List UInt8)} (h : Digs base w v L) (hk : Keeps (fun _ => False) w w') : Digs base w' v L := h.keep (fun b hb => hk.block b (h.lt b hb).1 (fun e => e))
theorem Digs.base {base base' : Nat} {w : World} {v : Value} {L : List (List UInt8)} (h : Digs base w v L) (hb : base' ≤ base) : Digs base' w v L := by
  obtain ⟨⟨h1, h2⟩, h3⟩ := h
  refine ⟨⟨h1, h2.imp id ?_⟩, h3⟩
  rintro ⟨g, cap, cur, rfl, hg, rest⟩
  exact ⟨g, cap, cur, rfl, by omega, rest⟩
theorem Digs.form {base : Nat} {w : World} {v : Value} {L : List (List UInt8)} (h : Digs base w v L) : ∃ a c, v = .slice a L.length c ∧ L.length ≤ c ∧ c ≤ maxLen := by
  rcases h.1.2 with ⟨rfl, e⟩ | ⟨g, cap, cur, rfl, _, _, h4, h5, _⟩
  · exact ⟨none, 0, by rw [e], by omega, Nat.zero_le _⟩
  · exact ⟨_, cap, rfl, h4, h5⟩
/-- A digest of the row. -/
theorem Digs.cell {base : Nat} {w : World} {v : Value} {L : List (List UInt8)} (h : Digs base w v L) {k : Nat} {x : List UInt8} (hx : L[k]? = some x) :
    ∃ g c, v = .slice (some ⟨g, 0, none⟩) L.length c ∧ w.rangeAt g (k * 32) (x.map u8v) := by
  rcases h.1.2 with ⟨rfl, e⟩ | ⟨g, cap, cur, rfl, _, hb, _⟩
  · have := (List.getElem?_eq_some_iff.1 hx).1; omega
  · refine ⟨g, cap, rfl, fun j u hu => ?_⟩
    have := h.1.cells (g := g) rfl (k * 32 + j) u (digCells_get h.2 hx hu)
    rwa [Addr.add_lit, Nat.zero_add] at this
theorem info_digest : (Tryz.prog.info? 83).map (fun i => (i.zero, i.size, i.bytes)) = some (some (.agg zeroC), 32, 32) := by kernel_rfl
theorem dig_oneCell (x : List UInt8) : ∀ v ∈ x.map u8v, v.oneCell' = true := fun v hv => by
  obtain ⟨c, _, rfl⟩ := List.mem_map.1 hv
  rfl
/-- 'append(v, x)', x already stored in a row of its own. -/
theorem Digs.push {base : Nat} {w : World} {v : Value} {L : List (List UInt8)} (h : Digs base w v L) (hz : base ≤ w.heap.size) {x : List UInt8} (hx : x.length = 32) (hb : L.length < 1099511627776) :
    ∃ a c w', (Builtin.append_ #[88, 88] 88 #[v, .slice (some ⟨w.heap.size, 0, none⟩) 1 1]).run Tryz.prog (w.alloc (.cells (x.map u8v).toArray 83)) = .ok (.slice a (L.length + 1) c) w' ∧ Digs base w' (.slice a (L.length + 1) c) (L ++ [x]) ∧
      Keeps (fun b => v.ownBlock = some b) w w' ∧ ((Value.slice a (L.length + 1) c).ownBlock = v.ownBlock ∨ (Value.slice a (L.length + 1) c).ownBlock = some (w.heap.size + 1)) := by
  obtain ⟨i0, hi, hz0, hz1, hz2⟩ := info_parts info_digest
  obtain ⟨v', w', hrun, ho2, hg, _, hat⟩ := run_append_own_at (P := Tryz.prog) (w.alloc (.cells (x.map u8v).toArray 83)) base 88 88 83 i0 _ 32 32 Tryz.underlying88 hi hz0 hz1 hz2 (by kernel_rfl) (by omega) v L.length (digCells L) (h.1.alloc _) ⟨w.heap.size, 0, none⟩ 1 1 (x.map u8v) (by rw [List.length_map, hx])
    (fun j u hu => by
      rw [Addr.add_lit, Nat.zero_add]
      exact cell_at (heap_alloc_new w _) (by rw [List.getElem?_toArray]; exact hu))
    (dig_oneCell x) (by unfold maxLen; omega) (by omega) (by simp only [World.size_alloc]; omega)
  rw [← digCells_snoc] at ho2
  obtain ⟨a, c, rfl⟩ := ownsRow_slice ho2
  refine ⟨a, c, w', hrun, ⟨by rw [List.length_append]; exact ho2, fun y hy => ?_⟩, ((Keeps.refl _ w).alloc _).trans (Keeps.of_grown hg) (fun _ _ h => h), by simpa using hat⟩
  rcases List.mem_append.1 hy with hy | hy
  · exact h.2 y hy
  · simp at hy; subst hy; exact hx
theorem zeros_size : ((Array.range (1 * 32)).map (fun j => (Value.agg zeroC).cells[j % (Value.agg zeroC).cells.size]!)).size = 32 := by simp
/-- The cells of a literal of one digest. -/
theorem fill_one (cl : List Value) (hl : cl.length = 32) : Instr.fill (fun i => some (i * 32, 32)) ((Array.range (1 * 32)).map (fun j => (Value.agg zeroC).cells[j % (Value.agg zeroC).cells.size]!)) [(0, .agg cl.toArray)] = some cl.toArray := by
  have h := Go.Great.fill_whole (s := 32) (by decide) [.agg cl.toArray] ((Array.range (1 * 32)).map (fun j => (Value.agg zeroC).cells[j % (Value.agg zeroC).cells.size]!)) (fun v hv => by
    simp at hv; subst hv; simp [Value.cells, hl]) (by rw [zeros_size]; rfl)
  simpa [Value.cells] using h
theorem zeroC_one : zeroC.all (·.oneCell') = true := by kernel_rfl

theorem digest_parts : ∃ i, Tryz.prog.info? 83 = some i ∧ i.zero = some (.agg zeroC) ∧ i.size = 32 ∧ i.bytes = 32 := by
  obtain ⟨i0, hi, hz0, hz1, hz2⟩ := info_parts info_digest
  exact ⟨i0, hi, hz0, hz1, hz2⟩
/-- A literal of one digest, in a plain region. -/
theorem wpList_buildDig {ops : Array Oper} {rest : List Oper} {o : Oper} {a : Act} {w : World} {Q : Exit → Act → World → Prop} (hg : o.guard = none) (x : Operand) (ho : o.op = .buildSlice 88 1 #[(0, x)]) (cl : List Value) (hl : cl.length = 32) (hx : a.eval x = .agg cl.toArray)
    (h : wpList Tryz.prog ops Q rest (a.put o.dst (.slice (some ⟨w.heap.size, 0, none⟩) 1 1)) (w.alloc (.cells cl.toArray 83))) : wpList Tryz.prog ops Q (o :: rest) a w := by
  obtain ⟨i0, hi, hz0, hz1, _⟩ := digest_parts
  refine wpList_buildSlice hg 88 83 1 #[(0, x)] ho cl.toArray i0 (.agg zeroC) Tryz.underlying88 hi hz0 (by rw [hz1]; decide) (by rw [hz1]; decide) ?_ h
  rw [hz1]
  simp only [List.map_toArray, List.map_cons, List.map_nil, hx]
  exact fill_one cl hl

/-- 'append(v, x)', x stored somewhere. -/
theorem Digs.pushAt {base : Nat} {w : World} {v : Value} {L : List (List UInt8)} (h : Digs base w v L) (hz : base ≤ w.heap.size) {x : List UInt8} (hx : x.length = 32) {b : Nat} (hb : w.rangeAt b 0 (x.map u8v)) (hL : L.length < 1099511627776) :
    ∃ a c w', (Builtin.append_ #[88, 88] 88 #[v, .slice (some ⟨b, 0, none⟩) 1 1]).run Tryz.prog w = .ok (.slice a (L.length + 1) c) w' ∧ Digs base w' (.slice a (L.length + 1) c) (L ++ [x]) ∧
      Keeps (fun b => v.ownBlock = some b) w w' ∧ ((Value.slice a (L.length + 1) c).ownBlock = v.ownBlock ∨ (Value.slice a (L.length + 1) c).ownBlock = some w.heap.size) := by
  obtain ⟨i0, hi, hz0, hz1, hz2⟩ := info_parts info_digest
  obtain ⟨v', w', hrun, ho2, hg, _, hat⟩ := run_append_own_at (P := Tryz.prog) w base 88 88 83 i0 _ 32 32 Tryz.underlying88 hi hz0 hz1 hz2 (by kernel_rfl) (by omega) v L.length (digCells L) h.1 ⟨b, 0, none⟩ 1 1 (x.map u8v) (by rw [List.length_map, hx])
    (fun j u hu => by
      have := hb j u hu
      rw [Addr.add_lit]
      exact this)
    (dig_oneCell x) (by unfold maxLen; omega) (by omega) hz
  rw [← digCells_snoc] at ho2
  obtain ⟨a, c, rfl⟩ := ownsRow_slice ho2
  refine ⟨a, c, w', hrun, ⟨by rw [List.length_append]; exact ho2, fun y hy => ?_⟩, Keeps.of_grown hg, by simpa using hat⟩
  rcases List.mem_append.1 hy with hy | hy
  · exact h.2 y hy
  · simp at hy; subst hy; exact hx
/-- A row of digests. -/
def rDigs (B : Nat) (v : Value) (L : List (List UInt8)) : Res B :=
  ⟨fun F w => Digs 0 w v L ∧ ∀ b, v.ownBlock = some b → F b, fun _ _ _ h hk => ⟨h.1.keep (fun b hb => hk b (.inl (h.2 b hb))), h.2⟩⟩
section
variable {w wr : World} {rs : List (Res w.heap.size)} {v : Value} {L : List (List UInt8)}
theorem Own.digs (h : Own w wr rs) (hm : rDigs w.heap.size v L ∈ rs) : Digs 0 wr v L := by
  obtain ⟨F, h1, _⟩ := h.mem hm
  exact h1.1
theorem Own.addDigs {w1 : World} (h : Own w wr rs) (hd : Digs wr.heap.size w1 v L) (hk : Keeps (fun _ => False) wr w1) : Own w w1 (rDigs w.heap.size v L :: rs) :=
  h.add hk (r := rDigs _ v L) (G := fun b => v.ownBlock = some b) ⟨hd.base (Nat.zero_le _), fun _ hb => hb⟩ (fun b hb => ⟨(hd.lt b hb).2, (hd.lt b hb).1⟩)
theorem Own.nilDigs (h : Own w wr rs) : Own w wr (rDigs w.heap.size (.slice none 0 0) [] :: rs) := h.addDigs (Digs.nil _ _) (Keeps.refl _ wr)
theorem Own.range {b : Nat} {cl : List Value} {t : TypeId} (h : Own w wr rs) (hm : rObj w.heap.size b (.cells cl.toArray t) ∈ rs) : wr.rangeAt b 0 cl := fun k u hu => by
  rw [Nat.zero_add]
  exact cell_at (h.at hm).1 (by rw [List.getElem?_toArray]; exact hu)
theorem Own.pushDig (h : Own w wr (rDigs w.heap.size v L :: rs)) {x : List UInt8} (hx : x.length = 32) {b : Nat} (hb : wr.rangeAt b 0 (x.map u8v)) (hL : L.length < 1099511627776) :
    ∃ a c w', (Builtin.append_ #[88, 88] 88 #[v, .slice (some ⟨b, 0, none⟩) 1 1]).run Tryz.prog wr = .ok (.slice a (L.length + 1) c) w' ∧ Own w w' (rDigs w.heap.size (.slice a (L.length + 1) c) (L ++ [x]) :: rs) := by
  obtain ⟨F, ⟨h1, h2⟩, hF, back⟩ := h.open1
  obtain ⟨a, c, w', hrun, hd, hk, hat⟩ := h1.pushAt (Nat.zero_le _) hx hb hL
  have hlt := hd.lt
  refine ⟨a, c, w', hrun, back w' (rDigs _ (.slice a (L.length + 1) c) (L ++ [x])) (hk.mono (fun b _ e => h2 b e)) ⟨hd, fun b hb => ?_⟩⟩
  rcases hat with hat | hat
  · rw [hat] at hb
    exact .inl (h2 b hb)
  · have hl := hlt b hb
    rw [hat] at hb
    cases hb
    exact .inr ⟨Nat.le_refl _, hl.1⟩
theorem Own.pick {r : Res w.heap.size} {l₁ l₂ : List (Res w.heap.size)} (h : Own w wr (l₁ ++ r :: l₂)) : Own w wr (r :: (l₁ ++ l₂)) := h.perm List.perm_middle
end
/-- A literal of one digest. -/
theorem wp_buildDig {o : Oper} {a : Act} {w : World} {K : Act → World → Prop} {Q : Exit → Act → World → Prop} (x : Operand) (ho : o.op = .buildSlice 88 1 #[(0, x)]) (cl : List Value) (hl : cl.length = 32) (hx : a.eval x = .agg cl.toArray)
    (h : K (a.put o.dst (.slice (some ⟨w.heap.size, 0, none⟩) 1 1)) (w.alloc (.cells cl.toArray 83))) : o.wp Tryz.prog a w K Q := by
  obtain ⟨i0, hi, hz0, hz1, _⟩ := digest_parts
  refine wp_buildSlice 88 83 1 #[(0, x)] ho cl.toArray i0 (.agg zeroC) Tryz.underlying88 hi hz0 (by rw [hz1]; decide) (by rw [hz1]; decide) ?_ h
  rw [hz1]
  simp only [List.map_toArray, List.map_cons, List.map_nil, hx]
  exact fill_one cl hl
theorem res_dig2 {fn : Func} {p u : Tmp} (h : fn.results = #[.cell p 83, .tmp u]) (tmps : Array Value) (w : World) (g : Nat) (ds : Array Value) (hdz : ds.size = 32) (hp : tmps.getD p undef = .pointer (some ⟨g, 0, none⟩)) (hc : w.heap[g]? = some (.cells ds 83 (0, 0))) :
    (results fn tmps).run Tryz.prog w = .ok (.tuple #[.agg ds, tmps.getD u undef]) w := by
  rw [results_cell_tmp h, hp]
  simp only [asAddr, Sem.run_pure, Result.andThen_ok, run_loadVar_row w g 83 83 ds (0, 0) _ hc Tryz.underlying83 rfl (by rw [hdz]; kernel_rfl)]
theorem wpList_load_rowG {P : Program} {ops : Array Oper} {rest : List Oper} {o : Oper} {a : Act} {w : World} {Q : Exit → Act → World → Prop} (hgd : Region.wanted o (yielded ops a.tmps) = true) (ty : TypeId) (x : Operand) (ho : o.op = .load ty x)
    (g : Nat) (hx : a.eval x = .pointer (some ⟨g, 0, none⟩)) (t : TypeId) (cs : Array Value) (fr : Nat × Nat) (d : TypeDesc) (hg : w.heap[g]? = some (.cells cs t fr))
    (hu : P.underlying ty = some d) (hd : (match d with | .struct _ | .array _ _ => true | _ => false) = true) (hi : (P.info? ty).map (·.size) = some cs.size)
    (h : wpList P ops Q rest (a.put o.dst (.agg cs)) w) : wpList P ops Q (o :: rest) a w :=
  wpList_step fun K hK => by rw [if_pos hgd]; exact wp_load_row ty x ho g hx t cs fr d hg hu hd hi (hK _ _ h)
end Go.Proofs.YtaeabdghlkdkjaaGreat
