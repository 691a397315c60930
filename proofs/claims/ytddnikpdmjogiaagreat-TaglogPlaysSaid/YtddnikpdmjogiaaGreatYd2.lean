/- A part of the proof. -/
import Derived.Test.YtddnikpdmjogiaaGreatYc9
import Derived.ChangeKeysEq
import Derived.Deep.MidRow
import Derived.Great.BuildSlice
import Derived.StillTailTactics
namespace Go.Proofs.YtddnikpdmjogiaaGreat
set_option linter.unusedVariables false
set_option linter.unusedSimpArgs false
open Go.RowKit Go.MapKept
def zero32 : List UInt8 := List.replicate 32 0
def zeroC : Array Value := (zero32.map u8v).toArray
theorem dall_run (W : World) (b : Nat) : (Instr.sliceAt 101 (.pointer (some ⟨b, 0, none⟩)) none none none).run Tryz.prog W = .ok (.slice (some ⟨b, 0, none⟩) 32 32) W := by kernel_rfl
theorem zeroC_built : Tryz.prog.built 101 [] = some zeroC := by kernel_rfl
theorem zeroC_size : zeroC.size = 32 := by kernel_rfl
theorem dig_info {ds : Array Value} (h : ds.size = 32) : (Tryz.prog.info? 101).map (·.size) = some ds.size := by rw [h]; kernel_rfl
theorem plain_u8 : Tryz.prog.plainKey 5 = true := by kernel_rfl
theorem cells_u8 : Tryz.prog.cellsOf 5 = 1 := by kernel_rfl
theorem eq_items (A B : List UInt8) (W : World) : ∀ is : List Nat, (∀ i ∈ is, i < A.length ∧ i < B.length) →
  ∃ r : Bool, (Op.eqItems 9999 5 1 (A.map u8v).toArray (B.map u8v).toArray is).run Tryz.prog W = .ok r W ∧ (r = true ↔ ∀ i ∈ is, A[i]? = B[i]?)
 | [], _ => ⟨true, by simp [Op.eqItems], by simp⟩
 | i :: is, h => by
  obtain ⟨r, hr, hiff⟩ := eq_items A B W is (fun j hj => h j (List.mem_cons_of_mem _ hj))
  have hi := h i (List.mem_cons_self ..)
  have ha : (part 5 (A.map u8v).toArray (i * 1)).run Tryz.prog W = .ok (u8v A[i]) W := run_part_plain W plain_u8 (by simp [hi.1])
  have hb : (part 5 (B.map u8v).toArray (i * 1)).run Tryz.prog W = .ok (u8v B[i]) W := run_part_plain W plain_u8 (by simp [hi.2])
  have he : (Op.equalIn 9999 5 (u8v A[i]) (u8v B[i])).run Tryz.prog W = .ok ((A[i].toNat : Int) == (B[i].toNat : Int)) W := run_equalIn_int W 9998 5 .u8 .u8 _ _ Tryz.underlying5
  simp only [Op.eqItems, Sem.run_bind, ha, hb, he, Result.andThen_ok]
  by_cases hab : A[i] = B[i]
  ·have e1 : ((A[i].toNat : Int) == (B[i].toNat : Int)) = true := by rw [hab]; simp
   refine ⟨r, by rw [e1]; simpa using hr, ?_⟩
   rw [hiff]
   simp [List.getElem?_eq_getElem hi.1, List.getElem?_eq_getElem hi.2, hab]
  ·have e1 : ((A[i].toNat : Int) == (B[i].toNat : Int)) = false := by
    rw [beq_eq_false_iff_ne]
    intro e
    exact hab (UInt8.toNat_inj.1 (by omega))
   refine ⟨false, by rw [e1]; simp, ?_⟩
   simp [List.getElem?_eq_getElem hi.1, List.getElem?_eq_getElem hi.2, hab]
theorem dig_ext {A B : List UInt8} (hA : A.length = 32) (hB : B.length = 32) (hall : ∀ i ∈ List.range 32, A[i]? = B[i]?) : A = B := by
 apply List.ext_getElem?
 intro i
 by_cases hi : i < 32
 ·exact hall i (by rw [List.mem_range]; exact hi)
 ·rw [List.getElem?_eq_none (by omega), List.getElem?_eq_none (by omega)]
theorem dig_eq (A B : List UInt8) (hA : A.length = 32) (hB : B.length = 32) (W : World) : (Op.equalIn 10000 101 (.agg (A.map u8v).toArray) (.agg (B.map u8v).toArray)).run Tryz.prog W = .ok (decide (A = B)) W := by
 obtain ⟨i0, hi, hz0, hz1, hz2⟩ := info_parts info_u8
 have h := run_equalIn_array (P := Tryz.prog) W 9999 (t := 101) (e := 5) (n := 32) (i := i0) (A.map u8v).toArray (B.map u8v).toArray (by kernel_rfl) hi
 rw [cells_u8] at h
 obtain ⟨r, hr, hiff⟩ := eq_items A B W (List.range 32) (fun i hm => by rw [List.mem_range] at hm; omega)
 have hrd : r = decide (A = B) := by
  rw [Bool.eq_iff_iff, hiff, decide_eq_true_iff]
  exact ⟨fun hall => dig_ext hA hB hall, fun e i _ => by rw [e]⟩
 rw [hrd] at hr
 exact h.trans hr
def Len32 (L : List (List UInt8)) : Prop := ∀ x ∈ L, x.length = 32
def digCells (L : List (List UInt8)) : List Value := L.flatMap (fun x => x.map u8v)
theorem digCells_get : ∀ {L : List (List UInt8)}, Len32 L → ∀ {k : Nat} {x : List UInt8}, L[k]? = some x → ∀ {j : Nat} {v : Value}, (x.map u8v)[j]? = some v → (digCells L)[k * 32 + j]? = some v
 | [], _, k, x, hx, _, _, _ => by simp at hx
 | y :: L, h, 0, x, hx, j, v, hv => by
  simp at hx
  subst hx
  have hj : j < (y.map u8v).length := (List.getElem?_eq_some_iff.1 hv).1
  unfold digCells
  rw [List.flatMap_cons, Nat.zero_mul, Nat.zero_add, List.getElem?_append_left hj, hv]
 | y :: L, h, k + 1, x, hx, j, v, hv => by
  have h1 := digCells_get (L := L) (fun z hz => h z (List.mem_cons_of_mem _ hz)) (k := k) (x := x) (by simpa using hx) hv
  have h2 : (y.map u8v).length = 32 := by rw [List.length_map]; exact h y (List.mem_cons_self ..)
  unfold digCells at h1 ⊢
  rw [List.flatMap_cons, List.getElem?_append_right (by omega), h2, ← h1]
  congr 1
  omega
theorem digCells_snoc (L : List (List UInt8)) (x : List UInt8) : digCells (L ++ [x]) = digCells L ++ x.map u8v := by simp [digCells]
def Digs (base : Nat) (w : World) (v : Value) (L : List (List UInt8)) : Prop := w.ownsRow base 101 32 v L.length (digCells L) ∧ Len32 L
theorem Digs.nil (base : Nat) (w : World) : Digs base w (.slice none 0 0) [] := ⟨⟨rfl, .inl ⟨rfl, rfl⟩⟩, fun x hx => by cases hx⟩
theorem Digs.keep {base : Nat} {w w' : World} {v : Value} {L : List (List UInt8)} (h : Digs base w v L) (hr : ∀ b, v.ownBlock = some b → w'.heap[b]? = w.heap[b]?) : Digs base w' v L := by
 obtain ⟨⟨h1, h2⟩, h3⟩ := h
 refine ⟨⟨h1, h2.imp id ?_⟩, h3⟩
 rintro ⟨g, cap, cur, rfl, hg, hb, rest⟩
 exact ⟨g, cap, cur, rfl, hg, (hr g rfl).trans hb, rest⟩
theorem Digs.lt {base : Nat} {w : World} {v : Value} {L : List (List UInt8)} (h : Digs base w v L) : ∀ b, v.ownBlock = some b → b < w.heap.size ∧ base ≤ b := by
 rcases h.1.2 with ⟨rfl, _⟩ | ⟨g, cap, cur, rfl, hg, hb, _⟩
 ·intro b hb; cases hb
 ·intro b hb'
  cases hb'
  exact ⟨lt_of_heap hb, hg⟩
theorem Digs.quiet {base : Nat} {w w' : World} {v : Value} {L : List (List UInt8)} (h : Digs base w v L) (hk : Keeps (fun _ => False) w w') : Digs base w' v L := h.keep (fun b hb => hk.block b (h.lt b hb).1 (fun e => e))
theorem Digs.base {base base' : Nat} {w : World} {v : Value} {L : List (List UInt8)} (h : Digs base w v L) (hb : base' ≤ base) : Digs base' w v L := by
 obtain ⟨⟨h1, h2⟩, h3⟩ := h
 refine ⟨⟨h1, h2.imp id ?_⟩, h3⟩
 rintro ⟨g, cap, cur, rfl, hg, rest⟩
 exact ⟨g, cap, cur, rfl, by omega, rest⟩
theorem Digs.form {base : Nat} {w : World} {v : Value} {L : List (List UInt8)} (h : Digs base w v L) : ∃ a c, v = .slice a L.length c ∧ L.length ≤ c ∧ c ≤ maxLen := by
 rcases h.1.2 with ⟨rfl, e⟩ | ⟨g, cap, cur, rfl, _, _, h4, h5, _⟩
 ·exact ⟨none, 0, by rw [e], by omega, Nat.zero_le _⟩
 ·exact ⟨_, cap, rfl, h4, h5⟩
theorem Digs.cell {base : Nat} {w : World} {v : Value} {L : List (List UInt8)} (h : Digs base w v L) {k : Nat} {x : List UInt8} (hx : L[k]? = some x) :
  ∃ g c, v = .slice (some ⟨g, 0, none⟩) L.length c ∧ w.rangeAt g (k * 32) (x.map u8v) := by
 rcases h.1.2 with ⟨rfl, e⟩ | ⟨g, cap, cur, rfl, _, hb, _⟩
 ·have := (List.getElem?_eq_some_iff.1 hx).1; omega
 ·refine ⟨g, cap, rfl, fun j u hu => ?_⟩
  have := h.1.cells (g := g) rfl (k * 32 + j) u (digCells_get h.2 hx hu)
  rwa [Addr.add_lit, Nat.zero_add] at this
theorem info_digest : (Tryz.prog.info? 101).map (fun i => (i.zero, i.size, i.bytes)) = some (some (.agg zeroC), 32, 32) := by kernel_rfl
theorem dig_oneCell (x : List UInt8) : ∀ v ∈ x.map u8v, v.oneCell' = true := fun v hv => by
 obtain ⟨c, _, rfl⟩ := List.mem_map.1 hv
 rfl
theorem Digs.push {base : Nat} {w : World} {v : Value} {L : List (List UInt8)} (h : Digs base w v L) (hz : base ≤ w.heap.size) {x : List UInt8} (hx : x.length = 32) (hb : L.length < 1099511627776) :
  ∃ a c w', (Builtin.append_ #[104, 104] 104 #[v, .slice (some ⟨w.heap.size, 0, none⟩) 1 1]).run Tryz.prog (w.alloc (.cells (x.map u8v).toArray 101)) = .ok (.slice a (L.length + 1) c) w' ∧ Digs base w' (.slice a (L.length + 1) c) (L ++ [x]) ∧
   Keeps (fun b => v.ownBlock = some b) w w' ∧ ((Value.slice a (L.length + 1) c).ownBlock = v.ownBlock ∨ (Value.slice a (L.length + 1) c).ownBlock = some (w.heap.size + 1)) := by
 obtain ⟨i0, hi, hz0, hz1, hz2⟩ := info_parts info_digest
 obtain ⟨v', w', hrun, ho2, hg, _, hat⟩ := run_append_own_at (P := Tryz.prog) (w.alloc (.cells (x.map u8v).toArray 101)) base 104 104 101 i0 _ 32 32 Tryz.underlying104 hi hz0 hz1 hz2 (by kernel_rfl) (by omega) v L.length (digCells L) (h.1.alloc _) ⟨w.heap.size, 0, none⟩ 1 1 (x.map u8v) (by rw [List.length_map, hx])
  (fun j u hu => by
   rw [Addr.add_lit, Nat.zero_add]
   exact cell_at (heap_alloc_new w _) (by rw [List.getElem?_toArray]; exact hu))
  (dig_oneCell x) (by unfold maxLen; omega) (by omega) (by simp only [World.size_alloc]; omega)
 rw [← digCells_snoc] at ho2
 obtain ⟨a, c, rfl⟩ := ownsRow_slice ho2
 refine ⟨a, c, w', hrun, ⟨by rw [List.length_append]; exact ho2, fun y hy => ?_⟩, ((Keeps.refl _ w).alloc _).trans (Keeps.of_grown hg) (fun _ _ h => h), by simpa using hat⟩
 rcases List.mem_append.1 hy with hy | hy
 ·exact h.2 y hy
 ·simp at hy; subst hy; exact hx
theorem zeros_size : ((Array.range (1 * 32)).map (fun j => (Value.agg zeroC).cells[j % (Value.agg zeroC).cells.size]!)).size = 32 := by simp
theorem fill_one (cl : List Value) (hl : cl.length = 32) : Instr.fill (fun i => some (i * 32, 32)) ((Array.range (1 * 32)).map (fun j => (Value.agg zeroC).cells[j % (Value.agg zeroC).cells.size]!)) [(0, .agg cl.toArray)] = some cl.toArray := by
 have h := Go.Great.fill_whole (s := 32) (by decide) [.agg cl.toArray] ((Array.range (1 * 32)).map (fun j => (Value.agg zeroC).cells[j % (Value.agg zeroC).cells.size]!)) (fun v hv => by
  simp at hv; subst hv; simp [Value.cells, hl]) (by rw [zeros_size]; rfl)
 simpa [Value.cells] using h
theorem digest_parts : ∃ i, Tryz.prog.info? 101 = some i ∧ i.zero = some (.agg zeroC) ∧ i.size = 32 ∧ i.bytes = 32 := by
 obtain ⟨i0, hi, hz0, hz1, hz2⟩ := info_parts info_digest
 exact ⟨i0, hi, hz0, hz1, hz2⟩
theorem wpList_buildDig {ops : Array Oper} {rest : List Oper} {o : Oper} {a : Act} {w : World} {Q : Exit → Act → World → Prop} (hg : o.guard = none) (x : Operand) (ho : o.op = .buildSlice 104 1 #[(0, x)]) (cl : List Value) (hl : cl.length = 32) (hx : a.eval x = .agg cl.toArray)
  (h : wpList Tryz.prog ops Q rest (a.put o.dst (.slice (some ⟨w.heap.size, 0, none⟩) 1 1)) (w.alloc (.cells cl.toArray 101))) : wpList Tryz.prog ops Q (o :: rest) a w := by
 obtain ⟨i0, hi, hz0, hz1, _⟩ := digest_parts
 refine wpList_buildSlice hg 104 101 1 #[(0, x)] ho cl.toArray i0 (.agg zeroC) Tryz.underlying104 hi hz0 (by rw [hz1]; decide) (by rw [hz1]; decide) ?_ h
 rw [hz1]
 simp only [List.map_toArray, List.map_cons, List.map_nil, hx]
 exact fill_one cl hl
theorem Digs.pushAt {base : Nat} {w : World} {v : Value} {L : List (List UInt8)} (h : Digs base w v L) (hz : base ≤ w.heap.size) {x : List UInt8} (hx : x.length = 32) {b : Nat} (hb : w.rangeAt b 0 (x.map u8v)) (hL : L.length < 1099511627776) :
  ∃ a c w', (Builtin.append_ #[104, 104] 104 #[v, .slice (some ⟨b, 0, none⟩) 1 1]).run Tryz.prog w = .ok (.slice a (L.length + 1) c) w' ∧ Digs base w' (.slice a (L.length + 1) c) (L ++ [x]) ∧
   Keeps (fun b => v.ownBlock = some b) w w' ∧ ((Value.slice a (L.length + 1) c).ownBlock = v.ownBlock ∨ (Value.slice a (L.length + 1) c).ownBlock = some w.heap.size) := by
 obtain ⟨i0, hi, hz0, hz1, hz2⟩ := info_parts info_digest
 obtain ⟨v', w', hrun, ho2, hg, _, hat⟩ := run_append_own_at (P := Tryz.prog) w base 104 104 101 i0 _ 32 32 Tryz.underlying104 hi hz0 hz1 hz2 (by kernel_rfl) (by omega) v L.length (digCells L) h.1 ⟨b, 0, none⟩ 1 1 (x.map u8v) (by rw [List.length_map, hx])
  (fun j u hu => by
   have := hb j u hu
   rw [Addr.add_lit]
   exact this)
  (dig_oneCell x) (by unfold maxLen; omega) (by omega) hz
 rw [← digCells_snoc] at ho2
 obtain ⟨a, c, rfl⟩ := ownsRow_slice ho2
 refine ⟨a, c, w', hrun, ⟨by rw [List.length_append]; exact ho2, fun y hy => ?_⟩, Keeps.of_grown hg, by simpa using hat⟩
 rcases List.mem_append.1 hy with hy | hy
 ·exact h.2 y hy
 ·simp at hy; subst hy; exact hx
def rDigs (B : Nat) (v : Value) (L : List (List UInt8)) : Res B :=
 ⟨fun F w => Digs 0 w v L ∧ ∀ b, v.ownBlock = some b → F b, fun _ _ _ h hk => ⟨h.1.keep (fun b hb => hk b (.inl (h.2 b hb))), h.2⟩⟩
section
variable {w wr : World} {rs : List (Res w.heap.size)} {v : Value} {L : List (List UInt8)}
theorem Own.digs (h : Own w wr rs) (hm : rDigs w.heap.size v L ∈ rs) : Digs 0 wr v L := by
 obtain ⟨F, h1, _⟩ := h.mem hm
 exact h1.1
theorem Own.addDigs {w1 : World} (h : Own w wr rs) (hd : Digs wr.heap.size w1 v L) (hk : Keeps (fun _ => False) wr w1) : Own w w1 (rDigs w.heap.size v L :: rs) :=
 h.add hk (r := rDigs _ v L) (G := fun b => v.ownBlock = some b) ⟨hd.base (Nat.zero_le _), fun _ hb => hb⟩ (fun b hb => ⟨(hd.lt b hb).2, (hd.lt b hb).1⟩)
theorem Own.nilDigs (h : Own w wr rs) : Own w wr (rDigs w.heap.size (.slice none 0 0) [] :: rs) := h.addDigs (Digs.nil _ _) (Keeps.refl _ wr)
theorem Own.range {b : Nat} {cl : List Value} {t : TypeId} (h : Own w wr rs) (hm : rObj w.heap.size b (.cells cl.toArray t) ∈ rs) : wr.rangeAt b 0 cl := fun k u hu => by
 rw [Nat.zero_add]
 exact cell_at (h.at hm).1 (by rw [List.getElem?_toArray]; exact hu)
theorem Own.pushDig (h : Own w wr (rDigs w.heap.size v L :: rs)) {x : List UInt8} (hx : x.length = 32) {b : Nat} (hb : wr.rangeAt b 0 (x.map u8v)) (hL : L.length < 1099511627776) :
  ∃ a c w', (Builtin.append_ #[104, 104] 104 #[v, .slice (some ⟨b, 0, none⟩) 1 1]).run Tryz.prog wr = .ok (.slice a (L.length + 1) c) w' ∧ Own w w' (rDigs w.heap.size (.slice a (L.length + 1) c) (L ++ [x]) :: rs) := by
 obtain ⟨F, ⟨h1, h2⟩, hF, back⟩ := h.open1
 obtain ⟨a, c, w', hrun, hd, hk, hat⟩ := h1.pushAt (Nat.zero_le _) hx hb hL
 have hlt := hd.lt
 refine ⟨a, c, w', hrun, back w' (rDigs _ (.slice a (L.length + 1) c) (L ++ [x])) (hk.mono (fun b _ e => h2 b e)) ⟨hd, fun b hb => ?_⟩⟩
 rcases hat with hat | hat
 ·rw [hat] at hb
  exact .inl (h2 b hb)
 ·have hl := hlt b hb
  rw [hat] at hb
  cases hb
  exact .inr ⟨Nat.le_refl _, hl.1⟩
end
theorem wp_buildDig {o : Oper} {a : Act} {w : World} {K : Act → World → Prop} {Q : Exit → Act → World → Prop} (x : Operand) (ho : o.op = .buildSlice 104 1 #[(0, x)]) (cl : List Value) (hl : cl.length = 32) (hx : a.eval x = .agg cl.toArray)
  (h : K (a.put o.dst (.slice (some ⟨w.heap.size, 0, none⟩) 1 1)) (w.alloc (.cells cl.toArray 101))) : o.wp Tryz.prog a w K Q := by
 obtain ⟨i0, hi, hz0, hz1, _⟩ := digest_parts
 refine wp_buildSlice 104 101 1 #[(0, x)] ho cl.toArray i0 (.agg zeroC) Tryz.underlying104 hi hz0 (by rw [hz1]; decide) (by rw [hz1]; decide) ?_ h
 rw [hz1]
 simp only [List.map_toArray, List.map_cons, List.map_nil, hx]
 exact fill_one cl hl
theorem res_dig2 {fn : Func} {p u : Tmp} (h : fn.results = #[.cell p 101, .tmp u]) (tmps : Array Value) (w : World) (g : Nat) (ds : Array Value) (hdz : ds.size = 32) (hp : tmps.getD p undef = .pointer (some ⟨g, 0, none⟩)) (hc : w.heap[g]? = some (.cells ds 101 (0, 0))) :
  (results fn tmps).run Tryz.prog w = .ok (.tuple #[.agg ds, tmps.getD u undef]) w := by
 rw [results_cell_tmp h, hp]
 simp only [asAddr, Sem.run_pure, Result.andThen_ok, run_loadVar_row w g 101 101 ds (0, 0) _ hc Tryz.underlying101 rfl (by rw [hdz]; kernel_rfl)]
theorem wpList_load_rowG {P : Program} {ops : Array Oper} {rest : List Oper} {o : Oper} {a : Act} {w : World} {Q : Exit → Act → World → Prop} (hgd : Region.wanted o (yielded ops a.tmps) = true) (ty : TypeId) (x : Operand) (ho : o.op = .load ty x)
  (g : Nat) (hx : a.eval x = .pointer (some ⟨g, 0, none⟩)) (t : TypeId) (cs : Array Value) (fr : Nat × Nat) (d : TypeDesc) (hg : w.heap[g]? = some (.cells cs t fr))
  (hu : P.underlying ty = some d) (hd : (match d with | .struct _ | .array _ _ => true | _ => false) = true) (hi : (P.info? ty).map (·.size) = some cs.size)
  (h : wpList P ops Q rest (a.put o.dst (.agg cs)) w) : wpList P ops Q (o :: rest) a w :=
 wpList_step fun K hK => by rw [if_pos hgd]; exact wp_load_row ty x ho g hx t cs fr d hg hu hd hi (hK _ _ h)
abbrev Dg := List UInt8
def leafOf (p : List UInt8) : Dg := sumOf (0 :: p)
def nodeOf (l r : Dg) : Dg := sumOf (1 :: (l ++ r))
theorem leafOf_length (p : List UInt8) : (leafOf p).length = 32 := sumOf_length _
theorem nodeOf_length (l r : Dg) : (nodeOf l r).length = 32 := sumOf_length _
def halfOf (n : Nat) : Nat := 2 ^ Nat.log2 (n - 1)
theorem half_lt {n : Nat} (h : 2 ≤ n) : halfOf n < n := by
 have := Nat.log2_self_le (n := n - 1) (by omega)
 unfold halfOf
 omega
theorem half_pos (n : Nat) : 0 < halfOf n := Nat.two_pow_pos _
theorem half_of_pow {n J : Nat} (h1 : 2 ^ J < n) (h2 : n ≤ 2 ^ (J + 1)) : halfOf n = 2 ^ J := by
 unfold halfOf
 congr 1
 exact (Nat.log2_eq_iff (by have := Nat.two_pow_pos J; omega)).2 ⟨by omega, by omega⟩
def rootOf (l : List Dg) : Dg :=
 if h : 2 ≤ l.length then nodeOf (rootOf (l.take (halfOf l.length))) (rootOf (l.drop (halfOf l.length))) else (l[0]?).getD (sumOf [])
termination_by l.length
decreasing_by
 ·have := half_lt h
  rw [List.length_take]; omega
 ·have := half_pos l.length
  rw [List.length_drop]; omega
theorem rootOf_two {l : List Dg} (h : 2 ≤ l.length) : rootOf l = nodeOf (rootOf (l.take (halfOf l.length))) (rootOf (l.drop (halfOf l.length))) := by rw [rootOf, dif_pos h]
theorem rootOf_one (x : Dg) : rootOf [x] = x := by rw [rootOf, dif_neg (by simp)]; rfl
theorem rootOf_nil : rootOf [] = sumOf [] := by rw [rootOf, dif_neg (by simp)]; rfl
theorem rootOf_length {l : List Dg} (h : Len32 l) : (rootOf l).length = 32 := by
 by_cases h2 : 2 ≤ l.length
 ·rw [rootOf_two h2]; exact nodeOf_length _ _
 ·match l, h2 with
  | [], _ => rw [rootOf_nil]; exact sumOf_length _
  | [x], _ => rw [rootOf_one]; exact h x (by simp)
  | x :: y :: l, h2 => simp at h2
def pathOf (l : List Dg) (i : Nat) : List Dg :=
 if h : 2 ≤ l.length then
  (if i < halfOf l.length then pathOf (l.take (halfOf l.length)) i ++ [rootOf (l.drop (halfOf l.length))]
   else pathOf (l.drop (halfOf l.length)) (i - halfOf l.length) ++ [rootOf (l.take (halfOf l.length))])
 else []
termination_by l.length
decreasing_by
 ·have := half_lt h
  rw [List.length_take]; omega
 ·have := half_pos l.length
  rw [List.length_drop]; omega
def proofOf (l : List Dg) (m : Nat) (whole : Bool) : List Dg :=
 if m = l.length then (if whole = true then [] else [rootOf l])
 else if h : 2 ≤ l.length then
  (if m ≤ halfOf l.length then proofOf (l.take (halfOf l.length)) m whole ++ [rootOf (l.drop (halfOf l.length))]
   else proofOf (l.drop (halfOf l.length)) (m - halfOf l.length) false ++ [rootOf (l.take (halfOf l.length))])
 else []
termination_by l.length
decreasing_by
 ·have := half_lt h
  rw [List.length_take]; omega
 ·have := half_pos l.length
  rw [List.length_drop]; omega
theorem Len32.take {L : List Dg} (h : Len32 L) (k : Nat) : Len32 (L.take k) := fun x hx => h x (List.mem_of_mem_take hx)
theorem Len32.drop {L : List Dg} (h : Len32 L) (k : Nat) : Len32 (L.drop k) := fun x hx => h x (List.mem_of_mem_drop hx)
end Go.Proofs.YtddnikpdmjogiaaGreat
namespace Go.Proofs.YtddnikpdmjogiaaGreat
set_option linter.unusedVariables false
open Go.RowKit Go.MapKept
section
variable {P : Program} {ops : Array Oper} {o : Oper} {a : Act} {w : World} {K : Act → World → Prop} {Q : Exit → Act → World → Prop} {E : Prop}
theorem step_load_row (hgd : o.guard = none) (ty : TypeId) (x : Operand) (ho : o.op = .load ty x) (g : Nat) (hx : a.eval x = .pointer (some ⟨g, 0, none⟩)) (t : TypeId) (cs : Array Value) (fr : Nat × Nat) (d : TypeDesc) (hg : w.heap[g]? = some (.cells cs t fr))
  (hu : P.underlying ty = some d) (hd : (match d with | .struct _ | .array _ _ => true | _ => false) = true) (hi : (P.info? ty).map (·.size) = some cs.size) (h : K (a.put o.dst (.agg cs)) w) : if Region.wanted o (yielded ops a.tmps) = true then Oper.wp P o a w K Q else E := by
 rw [if_pos (by simp [Region.wanted, hgd])]
 exact wp_load_row ty x ho g hx t cs fr d hg hu hd hi h
theorem step_store_row (hgd : o.guard = none) (ty : TypeId) (x y : Operand) (ho : o.op = .store ty x y) (g : Nat) (cells : Array Value) (hx : a.eval x = .pointer (some ⟨g, 0, none⟩)) (hy : a.eval y = .agg cells) (t : TypeId) (old : Array Value) (hg : w.heap[g]? = some (.cells old t))
  (hi : (P.info? ty).map (·.size) = some cells.size) (hold : old.size = cells.size) (h1 : cells.all (·.oneCell') = true) (h : K (a.put o.dst undef) (w.setRow g cells)) : if Region.wanted o (yielded ops a.tmps) = true then Oper.wp P o a w K Q else E := by
 rw [if_pos (by simp [Region.wanted, hgd])]
 exact wp_store_row ty x y ho g cells hx hy t old hg hi hold h1 h
end
section
variable {P : Program} {ops : Array Oper} {rest : List Oper} {o : Oper} {a : Act} {w : World} {Q : Act → Prop}
theorem still_load_mid (hgd : Region.wanted o (yielded ops a.tmps) = true) (ty : TypeId) (x : Operand) (ho : o.op = .load ty x) (b i : Nat) (hx : a.eval x = .pointer (some ⟨b, i, none⟩)) (cs : List Value) (d : TypeDesc) (hc : w.rangeAt b i cs)
  (hu : P.underlying ty = some d) (hd : d.isRow = true) (hi : (P.info? ty).map (·.size) = some cs.length) (h : wpStill P ops w Q rest (a.put o.dst (.agg cs.toArray))) : wpStill P ops w Q (o :: rest) a := by
 rw [wpStill, if_pos hgd]
 unfold Oper.still execOp
 simp only [ho, hx, Instr.loadAt, Instr.sureAddr, Sem.run_bind, Sem.run_pure, Result.andThen_ok, run_loadVar_mid w b i ty cs d hc hu hd hi]
 exact ⟨rfl, h⟩
end
theorem cells_laid {w : World} {g : Nat} {t : TypeId} {old cells : Array Value} (hg : w.heap[g]? = some (.cells old t (0, 0))) (ho : old.size = cells.size) (h1 : cells.all (·.oneCell') = true) :
  (storeCells ⟨g, 0, none⟩ cells.toList 0).run Tryz.prog w = .ok () (w.setRow g cells) := by
 have := run_storeCells_from (P := Tryz.prog) g t cells.toList 0 old w hg (by simp; omega) (fun v hv => (Array.all_eq_true_iff_forall_mem.1 h1) v (by simpa using hv))
 simpa using this
def lenOf (n : Nat) : Nat := if n = 0 then 0 else Nat.log2 n + 1
theorem lenOf_le {n : Nat} (h : n < 256) : lenOf n ≤ 8 := by
 unfold lenOf
 split
 ·omega
 ·have := (Nat.log2_lt (n := n) (k := 8) ‹_›).2 (by omega)
  omega
def lenTab : ByteArray := ⟨(([0, 1, 2, 2, 3, 3, 3, 3, 4, 4, 4, 4, 4, 4, 4, 4, 5, 5, 5, 5, 5, 5, 5, 5, 5, 5, 5, 5, 5, 5, 5, 5, 6, 6, 6, 6, 6, 6, 6, 6, 6, 6, 6, 6, 6, 6, 6, 6, 6, 6, 6, 6, 6, 6, 6, 6, 6, 6, 6, 6, 6, 6, 6, 6].append [7, 7, 7, 7, 7, 7, 7, 7, 7, 7, 7, 7, 7, 7, 7, 7, 7, 7, 7, 7, 7, 7, 7, 7, 7, 7, 7, 7, 7, 7, 7, 7, 7, 7, 7, 7, 7, 7, 7, 7, 7, 7, 7, 7, 7, 7, 7, 7, 7, 7, 7, 7, 7, 7, 7, 7, 7, 7, 7, 7, 7, 7, 7, 7]).append ([8, 8, 8, 8, 8, 8, 8, 8, 8, 8, 8, 8, 8, 8, 8, 8, 8, 8, 8, 8, 8, 8, 8, 8, 8, 8, 8, 8, 8, 8, 8, 8, 8, 8, 8, 8, 8, 8, 8, 8, 8, 8, 8, 8, 8, 8, 8, 8, 8, 8, 8, 8, 8, 8, 8, 8, 8, 8, 8, 8, 8, 8, 8, 8].append [8, 8, 8, 8, 8, 8, 8, 8, 8, 8, 8, 8, 8, 8, 8, 8, 8, 8, 8, 8, 8, 8, 8, 8, 8, 8, 8, 8, 8, 8, 8, 8, 8, 8, 8, 8, 8, 8, 8, 8, 8, 8, 8, 8, 8, 8, 8, 8, 8, 8, 8, 8, 8, 8, 8, 8, 8, 8, 8, 8, 8, 8, 8, 8])).toArray⟩
theorem lenTab_at : ∀ n : Fin 256, lenTab[n.1]? = some (UInt8.ofNat (lenOf n.1)) := by decide +kernel
theorem lenTab_get {n : Nat} (h : n < 256) (hz : n < lenTab.size) : (lenTab[n]'hz).toNat = lenOf n := by
 have h1 : lenTab[n]? = some (UInt8.ofNat (lenOf n)) := lenTab_at ⟨n, h⟩
 have h2 : (UInt8.ofNat (lenOf n)).toNat = lenOf n := by
  rw [UInt8.toNat_ofNat']
  exact Nat.mod_eq_of_lt (by have := lenOf_le h; omega)
 rw [getElem?_pos lenTab n hz] at h1
 rw [Option.some.inj h1, h2]
set_option maxRecDepth 100000 in
theorem len64_runs {n : Nat} (h : n < 256) (w : World) : Runs 160 #[.int .u64 (n : Int)] w (.int .i64 (lenOf n : Int)) w := by
 unfold Runs
 have i0 : (0 : Int) ≤ n := by omega
 have i1 : (n : Int) < 256 := by omega
 have i2 := lenOf_le h
 have i3 : (lenOf n : Int) ≤ 8 := by omega
 have j1 : decide ((4294967296 : Int) ≤ (n : Int)) = false := decide_eq_false (by omega)
 have j2 : decide ((65536 : Int) ≤ (n : Int)) = false := decide_eq_false (by omega)
 have j3 : ¬ (256 : Int) ≤ n := by omega
 have i4 : (0 : Int) ≤ lenOf n := by omega
 have hz : n < lenTab.size := by
  have e : lenTab.size = 256 := by decide +kernel
  omega
 have HG := hyd (lenTab_get h hz)
 clear i2 h
 go_enter Tryz.func160, Tryz.ntmps160
 go_wp2_with fail
 go_ret
 refine ⟨(congrArg (fun z : Int => Ending.returned (.int .i64 (wrap64 (wrap64 z)))) (show (((lenTab[n]'hz).toNat : Nat) : Int) = (lenOf n : Int) by rw [HG.out])).trans ?_, rfl⟩
 rw [IntWalk.wrap64_in (lenOf n : Int) (by omega), IntWalk.wrap64_in (lenOf n : Int) (by omega)]
set_option maxRecDepth 100000 in
theorem len_runs {n : Nat} (h : n < 256) (w : World) : Runs 152 #[.int .u64 (n : Int)] w (.int .i64 (lenOf n : Int)) w := by
 unfold Runs
 have hl := len64_runs h w
 clear h
 go_enter Tryz.func152, Tryz.ntmps152
 go_wp2_with fail
 refine hl.out.mono ?_; rintro e w' ⟨rfl, rfl⟩
 go_wp2_with fail
 go_ret
 exact ⟨rfl, rfl⟩
set_option maxRecDepth 100000 in
theorem split_runs {n : Nat} (h2 : 2 ≤ n) (h : n ≤ 256) (w : World) : Runs 132 #[.int .i64 (n : Int)] w (.int .i64 (halfOf n : Int)) w := by
 unfold Runs
 obtain ⟨k, rfl⟩ : ∃ k, n = k + 1 := ⟨n - 1, by omega⟩
 have hl := len_runs (n := k) (by omega) w
 have hlen : lenOf k = Nat.log2 k + 1 := by unfold lenOf; rw [if_neg (by omega)]
 have hle := lenOf_le (n := k) (by omega)
 have hw1 : wrap64 (((k + 1 : Nat) : Int) - 1) = (k : Int) := by rw [IntWalk.wrap64_in _ (by omega)]; omega
 have hw2 : wrap64 ((lenOf k : Int) - 1) = (Nat.log2 k : Int) := by rw [IntWalk.wrap64_in _ (by omega)]; omega
 have i0 : (0 : Int) ≤ k := by omega
 have i1 : (k : Int) < 256 := by omega
 have HL := hyd hl
 have HLE := hyd hle
 have HLEN := hyd hlen
 have HH := hyd (show halfOf (k + 1) = 2 ^ Nat.log2 k from rfl)
 clear hl hlen hle h h2
 have HW := hyd (show wrap64 ((2 : Int) ^ min (Nat.log2 k) 64) = (halfOf (k + 1) : Int) by
  have h7 : Nat.log2 k ≤ 7 := by have := HLE.out; have := HLEN.out; omega
  have h8 : 2 ^ Nat.log2 k ≤ 2 ^ 7 := Nat.pow_le_pow_right (by omega) h7
  have h9 : ((2 ^ Nat.log2 k : Nat) : Int) = (2 : Int) ^ Nat.log2 k := by rw [Int.natCast_pow]; rfl
  rw [Nat.min_eq_left (by omega), HH.out, ← h9]
  clear h9
  generalize 2 ^ Nat.log2 k = q at h8 ⊢
  rw [IntWalk.wrap64_in _ (by omega)])
 go_enter Tryz.func132, Tryz.ntmps132
 go_wp2_with fail
 refine HL.out.out.mono ?_; rintro e w' ⟨rfl, rfl⟩
 go_wp2_with fail
 go_ret
 exact ⟨congrArg (fun z => Ending.returned (.int .i64 z)) HW.out, rfl⟩
theorem owns_lit1 (w : World) (c : UInt8) : Owns (w.alloc (.cells #[u8v c] 5)) w.heap.size (.slice (some ⟨w.heap.size, 0, none⟩) 1 1) [c] :=
 ⟨rfl, .inr ⟨w.heap.size, 1, _, rfl, Nat.le_refl _, heap_alloc_new w _, by simp, by simp [maxLen], by simp, by simp⟩⟩
set_option maxRecDepth 100000 in
set_option maxHeartbeats 1000000 in
theorem leaf_calls {w : World} {v : Value} {p : List UInt8} (h : Reads w v p) (hb : p.length < 70368744177663) : Calls Tryz.prog 33 #[v] w (QuietP w (.agg ((leafOf p).map u8v).toArray)) := by
 have hkA : Keeps (fun _ => False) w (w.alloc (.cells zeroC 101)) := (Keeps.refl _ w).alloc _
 have hrA := heap_alloc_new w (.cells zeroC 101)
 have hkB : Keeps (fun _ => False) (w.alloc (.cells zeroC 101)) ((w.alloc (.cells zeroC 101)).alloc (.cells #[.int .u8 0] 5)) := (Keeps.refl _ _).alloc _
 have ho : Owns ((w.alloc (.cells zeroC 101)).alloc (.cells #[.int .u8 0] 5)) (w.heap.size + 1) (.slice (some ⟨w.heap.size + 1, 0, none⟩) 1 1) [0] := by
  have := owns_lit1 (w.alloc (.cells zeroC 101)) 0
  rw [World.size_alloc] at this
  exact this
 have hr := ((h.keep hkA).keep hkB)
 obtain ⟨v', w3, hrun, ho3, hk3⟩ := Owns.grow (by simp only [World.size_alloc]; omega) ho hr (by simp only [List.length_cons, List.length_nil]; omega)
 have hk13 : Keeps (fun _ => False) (w.alloc (.cells zeroC 101)) w3 := hkB.trans hk3 (fun b hb e => by have := owns_lt ho b e; rw [World.size_alloc] at hb; omega)
 have hsum := sum_calls ho3.bytes.reads (by simp only [List.length_append, List.length_cons, List.length_nil]; omega)
 obtain ⟨a, c, rfl, _, _⟩ := h.form
 obtain ⟨a3, c3, rfl, _, _⟩ := ho3.bytes.form
 obtain ⟨ds, hds⟩ : ∃ ds : Array Value, ds = ((leafOf p).map u8v).toArray := ⟨_, rfl⟩
 have hdz : ds.size = 32 := by rw [hds]; simp [leafOf_length]
 have hone : ds.all (·.oneCell') = true := by rw [hds]; exact bytes_one _
 rw [show ((sumOf ([0] ++ p)).map u8v).toArray = ds from hds.symm] at hsum
 rw [← hds]
 have HINF := hyd (dig_info hdz)
 have HONE := hyd hone
 have HDZ := hyd hdz
 have HK := hyd (hkA.trans hk13 (fun _ _ e => e))
 have HR := hyd (hk13.at hrA (fun e => e))
 have HRUN := hyd hrun
 have HSUM := hyd hsum
 have HLT := hyd (show w.heap.size < w3.heap.size from lt_of_heap (hk13.at hrA (fun e => e)))
 generalize ([0] ++ p).length = n3 at HRUN HSUM
 clear h hb hkA hrA hkB ho hr hrun ho3 hk3 hk13 hsum hds hdz hone
 go_enter Tryz.func33, Tryz.ntmps33
 go_wp2_with (at_builtin; refine wpList_append_run rfl _ _ _ _ rfl rfl rfl HRUN.out ?_)
 refine HSUM.out.mono ?_
 rintro e w4 ⟨rfl, hk4⟩
 have hr4 := hk4.at HR.out (fun e => e)
 have HK4 := hyd ((HK.out.trans hk4 (fun _ _ e => e)).trans (keeps_setRow w4 w.heap.size ds) (fun b hb e => by omega))
 have HR4 := hyd (setRow_heap w4 w.heap.size _ ds 101 _ hr4)
 have HR3 := hyd hr4
 clear hk4 HK HSUM hr4 HR HRUN
 go_wp2_with (refine wpList_store_row rfl 101 _ _ rfl w.heap.size ds rfl rfl 101 _ HR3.out HINF.out (by rw [HDZ.out]; kernel_rfl) HONE.out ?_)
 refine bodyPost_ret (results_cell_row Tryz.results33 _ _ w.heap.size 101 ds (0, 0) _ rfl HR4.out Tryz.underlying101 rfl HINF.out) rfl ?_
 exact ⟨rfl, HK4.out⟩
theorem mk65 (w : World) : ∃ w', (Instr.makeSlice 36 (.int .i64 0) (.int .i64 65)).run Tryz.prog w = .ok (.slice (some ⟨w.heap.size, 0, none⟩) 0 65) w' ∧ Owns w' w.heap.size (.slice (some ⟨w.heap.size, 0, none⟩) 0 65) [] ∧ Keeps (fun _ => False) w w' ∧ w.heap.size < w'.heap.size := by
 obtain ⟨i0, hi, hz0, hz1, hz2⟩ := info_parts info_u8
 obtain ⟨w1, hmk, ho1, hg1⟩ := run_make_own (P := Tryz.prog) w w.heap.size 36 5 i0 _ 1 Tryz.underlying36 hi hz0 hz1 .i64 .i64 65 (by rw [hz2]; omega) (by unfold maxLen; omega) (Nat.le_refl _)
 exact ⟨w1, hmk, ho1, (Keeps.of_grown hg1).mono (fun b _ e => by cases e), (owns_lt ho1 w.heap.size rfl).1⟩
theorem reads_box {w : World} {b : Nat} {l : List UInt8} (h : w.heap[b]? = some (.cells (l.map u8v).toArray 101 (0, 0))) (hl : l.length = 32) : Reads w (.slice (some ⟨b, 0, none⟩) 32 32) l := by
 refine .inr ⟨_, 32, by rw [hl], by omega, by unfold maxLen; omega, fun j u hu => ?_⟩
 rw [Addr.add_lit, Nat.zero_add]
 exact cell_at h (by rw [List.getElem?_toArray]; exact hu)
set_option maxRecDepth 100000 in
set_option maxHeartbeats 2000000 in
theorem node_calls (w : World) (l r : Dg) (hl : l.length = 32) (hr : r.length = 32) : Calls Tryz.prog 133 #[.agg (l.map u8v).toArray, .agg (r.map u8v).toArray] w (QuietP w (.agg ((nodeOf l r).map u8v).toArray)) := by
 obtain ⟨ca, hca⟩ : ∃ ca : Array Value, ca = (l.map u8v).toArray := ⟨_, rfl⟩
 obtain ⟨cb, hcb⟩ : ∃ cb : Array Value, cb = (r.map u8v).toArray := ⟨_, rfl⟩
 obtain ⟨ds, hds⟩ : ∃ ds : Array Value, ds = ((nodeOf l r).map u8v).toArray := ⟨_, rfl⟩
 have hk1 : Keeps (fun _ => False) w (((w.alloc (.cells ca 101)).alloc (.cells cb 101)).alloc (.cells zeroC 101)) := (((Keeps.refl _ w).alloc _).alloc _).alloc _
 obtain ⟨w1, hw1⟩ : ∃ w1, w1 = ((w.alloc (.cells ca 101)).alloc (.cells cb 101)).alloc (.cells zeroC 101) := ⟨_, rfl⟩
 have hz1 : w1.heap.size = w.heap.size + 3 := by rw [hw1]; simp
 have hba : w1.heap[w.heap.size]? = some (.cells ca 101) := by
  rw [hw1]; exact (((Keeps.refl (fun _ => False) _).alloc _).alloc _).at (heap_alloc_new w _) (fun e => e)
 have hbb : w1.heap[w.heap.size + 1]? = some (.cells cb 101) := by
  rw [hw1]
  have := ((Keeps.refl (fun _ => False) _).alloc (.cells zeroC 101)).at (heap_alloc_new (w.alloc (.cells ca 101)) (.cells cb 101)) (fun e => e)
  rw [World.size_alloc] at this; exact this
 have hbc : w1.heap[w.heap.size + 2]? = some (.cells zeroC 101) := by
  rw [hw1]
  have := heap_alloc_new ((w.alloc (.cells ca 101)).alloc (.cells cb 101)) (.cells zeroC 101)
  rw [World.size_alloc, World.size_alloc] at this; exact this
 obtain ⟨w2, hmk, ho2, hk2, hlt2⟩ := mk65 w1
 rw [hz1] at hmk ho2 hlt2
 have hk3 : Keeps (fun _ => False) w2 (w2.alloc (.cells #[.int .u8 1] 5)) := (Keeps.refl _ w2).alloc _
 have hlit : Reads (w2.alloc (.cells #[.int .u8 1] 5)) (.slice (some ⟨w2.heap.size, 0, none⟩) 1 1) [1] := (owns_lit1 w2 1).bytes.reads
 obtain ⟨v4, w4, hrun4, ho4, hk4⟩ := Owns.grow (by rw [World.size_alloc]; omega) (ho2.keep hk3) hlit (by simp)
 have hk24 : Keeps (fun _ => False) w1 w4 := (hk2.trans hk3 (fun _ _ e => e)).trans hk4 (fun b hb e => by have := owns_lt ho2 b e; omega)
 have hk45 : Keeps (fun _ => False) w4 w4.drew := (Keeps.refl _ w4).drew
 have hrl : Reads w4.drew (.slice (some ⟨w.heap.size, 0, none⟩) 32 32) l := reads_box ((hk24.trans hk45 (fun _ _ e => e)).at (by rw [hca] at hba; exact hba) (fun e => e)) hl
 obtain ⟨v5, w5, hrun5, ho5, hk5⟩ := Owns.grow (by have := hk24.size; show w.heap.size + 3 ≤ w4.heap.size; omega) (ho4.keep hk45) hrl (by rw [hl]; simp)
 have hk15 : Keeps (fun _ => False) w1 w5 := (hk24.trans hk45 (fun _ _ e => e)).trans hk5 (fun b hb e => by have := owns_lt ho4 b e; omega)
 have hrr : Reads w5 (.slice (some ⟨w.heap.size + 1, 0, none⟩) 32 32) r := reads_box (hk15.at (by rw [hcb] at hbb; exact hbb) (fun e => e)) hr
 obtain ⟨v6, w6, hrun6, ho6, hk6⟩ := Owns.grow (by have := hk15.size; omega) ho5 hrr (by rw [List.length_append, List.length_append, hl, hr]; simp)
 have hk16 : Keeps (fun _ => False) w1 w6 := hk15.trans hk6 (fun b hb e => by have := owns_lt ho5 b e; omega)
 have hsum := sum_calls ho6.bytes.reads (by simp only [List.length_append, hl, hr]; simp)
 have hdz : ds.size = 32 := by rw [hds]; simp [nodeOf_length]
 have hone : ds.all (·.oneCell') = true := by rw [hds]; exact bytes_one _
 rw [show ((sumOf ((([] ++ [1]) ++ l) ++ r)).map u8v).toArray = ds by rw [hds]; unfold nodeOf; simp] at hsum
 have hoc : ca.all (·.oneCell') = true ∧ cb.all (·.oneCell') = true := by rw [hca, hcb]; exact ⟨bytes_one _, bytes_one _⟩
 have hsa := dall_run
 rw [hw1] at hmk
 have HOC := hyd hoc
 have HS := hyd (⟨by rw [hca]; simp [hl], by rw [hcb]; simp [hr]⟩ : ca.size = 32 ∧ cb.size = 32)
 rw [← hca, ← hcb, ← hds]
 have HINF := hyd (dig_info hdz)
 have HONE := hyd hone
 have HDZ := hyd hdz
 rw [← hw1] at hk1
 have HK := hyd (hk1.trans hk16 (fun _ _ e => e))
 have HR := hyd (hk16.at hbc (fun e => e))
 have HR4 := hyd hrun4
 have HR5 := hyd hrun5
 have HR6 := hyd hrun6
 have HSUM := hyd hsum
 have HMK := hyd hmk
 have HZ := hyd (⟨by have := hk16.size; omega, hz1⟩ : w.heap.size + 2 < w6.heap.size ∧ w1.heap.size = w.heap.size + 3)
 clear hl hr hca hcb hds hk1 hw1 hz1 hba hbb hbc hmk ho2 hk2 hlt2 hk3 hlit hrun4 ho4 hk4 hk24 hk45 hrl hrun5 ho5 hk5 hk15 hrr hrun6 ho6 hk6 hk16 hsum hdz hone hoc
 go_enter Tryz.func133, Tryz.ntmps133
 go_wp2_with (first | (at_make; refine wpList_make_run rfl _ _ _ rfl rfl rfl HMK.out ?_) | (at_builtin; refine wpList_append_run rfl _ _ _ _ rfl rfl rfl HR4.out ?_))
 obtain ⟨gb, hgb⟩ : ∃ gb, gb = w.heap.size + 1 + 1 := ⟨_, rfl⟩
 rw [← hgb]
 have HRB := hyd (show w6.heap[gb]? = some (.cells zeroC 101) by rw [hgb]; exact HR.out)
 have HGB := hyd hgb
 have hds := HDZ.out
 have HZC := hyd (show zeroC.size = ds.size by rw [hds]; kernel_rfl)
 clear hgb HR
 go_region_law (first | (refine step_append_run rfl _ _ _ _ rfl rfl rfl HR5.out ?_) | (refine step_append_run rfl _ _ _ _ rfl rfl rfl HR6.out ?_) | (refine step_wanted' rfl ?_; go_simp; go_at_call 95; refine HSUM.out.mono ?_; rintro e w7 ⟨rfl, hk7⟩; have hr7 := hk7.at HRB.out (fun e => e); have hst7 := cells_laid hr7 HZC.out HONE.out) | fail)
 all_goals
  have HR8 := hyd (setRow_heap w7 gb _ ds 101 _ hr7)
  have hgb := HGB.out
  have hz := HZ.out.1
  have HF := hyd ((HK.out.trans hk7 (fun _ _ e => e)).trans (keeps_setRow w7 gb ds) (fun b hb e => by omega) : Keeps (fun _ => False) w (w7.setRow gb ds))
  clear hst7 hr7 hk7 hds hgb hz hsa
  go_wp2_with fail
  refine bodyPost_ret (results_cell_row Tryz.results133 _ _ gb 101 ds (0, 0) _ rfl HR8.out Tryz.underlying101 rfl HINF.out) rfl ?_
  exact ⟨rfl, HF.out⟩
def DgIn (w : World) (v : Value) (L : List Dg) : Prop := Len32 L ∧ ∃ a c, v = .slice a L.length c ∧ L.length ≤ c ∧ c ≤ maxLen ∧ ∀ k x, L[k]? = some x → ∃ b o, a = some ⟨b, o, none⟩ ∧ w.rangeAt b (o + k * 32) (x.map u8v)
theorem DgIn.keep {w w' : World} {v : Value} {L : List Dg} (h : DgIn w v L) (hk : Keeps (fun _ => False) w w') : DgIn w' v L := by
 obtain ⟨h0, a, c, h1, h2, h3, h4⟩ := h
 refine ⟨h0, a, c, h1, h2, h3, fun k x hx => ?_⟩
 obtain ⟨b, o, e, hr⟩ := h4 k x hx
 refine ⟨b, o, e, fun j v hv => ?_⟩
 have hc := hr j v hv
 rw [World.cell?_of_block (hk.block _ (World.block_lt_of_cell? w _ hc) (fun e => e))]
 exact hc
theorem Digs.ins {base : Nat} {w : World} {v : Value} {L : List Dg} (h : Digs base w v L) : DgIn w v L := by
 obtain ⟨a, c, rfl, h1, h2⟩ := h.form
 refine ⟨h.2, a, c, rfl, h1, h2, fun k x hx => ?_⟩
 obtain ⟨g, c', e, hr⟩ := h.cell hx
 cases e
 exact ⟨g, 0, rfl, by rw [Nat.zero_add]; exact hr⟩
theorem elem_digests : Tryz.prog.underlying 104 = some (.slice (Tryz.prog.elem 104)) := by kernel_rfl
theorem size_digest (w : World) : (sizeOf (Tryz.prog.elem 104)).run Tryz.prog w = .ok 32 w := by kernel_rfl
theorem DgIn.take {w : World} {v : Value} {L : List Dg} (h : DgIn w v L) {k : Nat} (hk : k ≤ L.length) : ∃ v', (∀ W, (Instr.sliceAt 104 v none (some (.int .i64 (k : Int))) none).run Tryz.prog W = .ok v' W) ∧ DgIn w v' (L.take k) := by
 obtain ⟨h0, a, c, rfl, h2, h3, h4⟩ := h
 refine ⟨.slice a k c, fun W => ?_, h0.take k, a, c, by rw [List.length_take, Nat.min_eq_left hk], by rw [List.length_take]; omega, h3, fun i x hx => ?_⟩
 ·rw [run_sliceAt_slice _ _ _ _ _ _ elem_digests, run_slice_h W 104 a L.length c elem_digests .i64 (k : Int) (by omega) (by omega), size_digest]
  simp only [Result.andThen, sliced, Int.toNat_natCast, Nat.zero_mul, Nat.sub_zero]
  have : (a.map fun x => x.add 0) = a := by cases a with
   | none => rfl
   | some x => simp [Addr.add_zero']
  rw [this, ite_self]
 ·rw [List.getElem?_take] at hx
  split at hx
  ·exact h4 i x hx
  ·cases hx
theorem DgIn.drop {w : World} {v : Value} {L : List Dg} (h : DgIn w v L) {k : Nat} (hk : k ≤ L.length) : ∃ v', (∀ W, (Instr.sliceAt 104 v (some (.int .i64 (k : Int))) none none).run Tryz.prog W = .ok v' W) ∧ DgIn w v' (L.drop k) := by
 obtain ⟨h0, a, c, rfl, h2, h3, h4⟩ := h
 refine ⟨.slice (if c = k then a else a.map (fun x => x.add (k * 32))) (L.length - k) (c - k), fun W => ?_, h0.drop k, _, c - k, by rw [List.length_drop], by rw [List.length_drop]; omega, by omega, fun i x hx => ?_⟩
 ·rw [run_sliceAt_slice _ _ _ _ _ _ elem_digests, run_slice_l W 104 a L.length c elem_digests .i64 (k : Int) (by omega) (by omega), size_digest]
  simp only [Result.andThen, sliced, Int.toNat_natCast]
 ·rw [List.getElem?_drop] at hx
  obtain ⟨b, o, rfl, hr⟩ := h4 _ x hx
  have hlt := (List.getElem?_eq_some_iff.1 hx).1
  refine ⟨b, o + k * 32, ?_, ?_⟩
  ·rw [if_neg (by omega)]
   simp [Addr.add_lit]
  ·rw [show o + k * 32 + i * 32 = o + (k + i) * 32 by omega]
   exact hr
theorem DgIn.form {w : World} {v : Value} {L : List Dg} (h : DgIn w v L) : ∃ a c, v = .slice a L.length c ∧ L.length ≤ c ∧ c ≤ maxLen := by
 obtain ⟨_, a, c, h1, h2, h3, _⟩ := h
 exact ⟨a, c, h1, h2, h3⟩
def RootC (L : List Dg) : Prop := ∀ (w : World) (v : Value), DgIn w v L → Calls Tryz.prog 93 #[v] w (QuietP w (.agg ((rootOf L).map u8v).toArray))
set_option maxRecDepth 100000 in
set_option maxHeartbeats 4000000 in
theorem root_two {L : List Dg} (h2 : 2 ≤ L.length) (hL : L.length ≤ 256) (ihl : RootC (L.take (halfOf L.length))) (ihr : RootC (L.drop (halfOf L.length))) : RootC L := by
 intro w v h
 have hlt := half_lt h2
 obtain ⟨vl, hsl, hdl⟩ := h.take (k := halfOf L.length) (by omega)
 obtain ⟨vr, hsr, hdr⟩ := h.drop (k := halfOf L.length) (by omega)
 obtain ⟨a, c, rfl, hc1, hc2⟩ := h.form
 have h32 := h.1
 obtain ⟨W0, hW0⟩ : ∃ W0, W0 = w.alloc (.cells zeroC 101) := ⟨_, rfl⟩
 have hk1 : Keeps (fun _ => False) w W0 := by rw [hW0]; exact (Keeps.refl _ w).alloc _
 have hb0 : W0.drew.heap[w.heap.size]? = some (.cells zeroC 101) := by rw [hW0]; exact heap_alloc_new w _
 have HW0 := hyd hW0
 have hkd := hk1.drew
 obtain ⟨ds, hds⟩ : ∃ ds : Array Value, ds = ((rootOf L).map u8v).toArray := ⟨_, rfl⟩
 obtain ⟨cl, hcl⟩ : ∃ ds : Array Value, ds = ((rootOf (L.take (halfOf L.length))).map u8v).toArray := ⟨_, rfl⟩
 obtain ⟨cr, hcr⟩ : ∃ ds : Array Value, ds = ((rootOf (L.drop (halfOf L.length))).map u8v).toArray := ⟨_, rfl⟩
 have HL := hyd (fun W (hk : Keeps (fun _ => False) W0.drew W) => ihl W vl (hdl.keep (hkd.trans hk (fun _ _ e => e))))
 have HR := hyd (fun W (hk : Keeps (fun _ => False) W0.drew W) => ihr W vr (hdr.keep (hkd.trans hk (fun _ _ e => e))))
 have HN := hyd (fun W => node_calls W (rootOf (L.take (halfOf L.length))) (rootOf (L.drop (halfOf L.length))) (rootOf_length (h32.take _)) (rootOf_length (h32.drop _)))
 rw [← rootOf_two h2, ← hds, ← hcl, ← hcr] at HN
 rw [← hcl] at HL
 rw [← hcr] at HR
 have hdz : ds.size = 32 := by rw [hds]; simp [rootOf_length h32]
 have hone : ds.all (·.oneCell') = true := by rw [hds]; exact bytes_one _
 rw [← hds]
 have hsp := fun W => split_runs h2 hL W
 have HINF := hyd (dig_info hdz)
 have HONE := hyd hone
 have HZC := hyd (show zeroC.size = ds.size by rw [hdz]; kernel_rfl)
 have HB := hyd hb0
 have HK := hyd hkd
 have HK0 := hyd (Keeps.refl (fun _ => False) W0.drew)
 have HSP := hyd hsp
 have i2 : (2 : Int) ≤ L.length := by omega
 have i3 : (L.length : Int) ≤ 256 := by omega
 have e0 : ((L.length : Int) == 0) = false := by rw [beq_eq_false_iff_ne]; omega
 have e1 : ((L.length : Int) == 1) = false := by rw [beq_eq_false_iff_ne]; omega
 generalize halfOf L.length = k at *
 obtain ⟨gb, hgb⟩ : ∃ gb, gb = w.heap.size := ⟨_, rfl⟩
 rw [← hgb] at HB
 have HGB := hyd hgb
 clear hgb
 clear h hb0 hW0 hdl hdr hk1 hkd hds hcl hcr hone hsp ihl ihr h2 hL hlt hc1 hc2 h32
 go_enter Tryz.func93, Tryz.ntmps93
 go_wp2_with fail
 refine (HSP.out _).out.mono ?_; rintro e w' ⟨rfl, rfl⟩
 go_wp2_with fail
 change Code.wp _ _ _ _ (w.alloc (.cells zeroC 101))
 rw [← HW0.out, ← HGB.out]
 go_region_law (first | (refine step_wanted' rfl ?_; go_simp; go_at_call 93; refine (HR.out _ hk7).mono ?_; rintro e w8 ⟨rfl, hk8⟩; have hk78 := hk7.trans hk8 (fun _ _ e => e)) | (refine step_wanted' rfl ?_; go_simp; go_at_call 133; refine (HN.out _).mono ?_; rintro e w9 ⟨rfl, hk9⟩; have hk79 := hk78.trans hk9 (fun _ _ e => e); have hr9 := hk79.at HB.out (fun e => e); have hst9 := cells_laid hr9 HZC.out HONE.out) | (refine step_wanted' rfl ?_; go_simp; go_at_call 93; refine (HL.out _ HK0.out).mono ?_; rintro e w7 ⟨rfl, hk7⟩) | fail)
 all_goals
  have HR9 := hyd (setRow_heap w9 gb _ ds 101 _ hr9)
  have hgb := HGB.out
  have HF := hyd ((HK.out.trans hk79 (fun _ _ e => e)).trans (keeps_setRow w9 gb ds) (fun b hb e => by omega) : Keeps (fun _ => False) w (w9.setRow gb ds))
  clear hgb hst9 hr9 hk79 hk9 hk8 hk7 hk78 hsl hsr
  go_wp2_with fail
  refine bodyPost_ret (results_cell_row Tryz.results93 _ _ gb 101 ds (0, 0) _ rfl HR9.out Tryz.underlying101 rfl HINF.out) rfl ?_
  exact ⟨rfl, HF.out⟩
set_option maxRecDepth 100000 in
set_option maxHeartbeats 1000000 in
theorem root_nil : RootC [] := by
 intro w v h
 obtain ⟨a, c, rfl, -, -⟩ := h.form
 obtain ⟨W0, hW0⟩ : ∃ W0, W0 = w.alloc (.cells zeroC 101) := ⟨_, rfl⟩
 have hk1 : Keeps (fun _ => False) w W0 := by rw [hW0]; exact (Keeps.refl _ w).alloc _
 have hb0 : W0.heap[w.heap.size]? = some (.cells zeroC 101) := by rw [hW0]; exact heap_alloc_new w _
 have hsum := sum_calls (w := W0) (v := .slice none 0 0) (l := []) (.inl ⟨rfl, rfl⟩) (by simp)
 obtain ⟨ds, hds⟩ : ∃ ds : Array Value, ds = ((sumOf []).map u8v).toArray := ⟨_, rfl⟩
 rw [← hds] at hsum
 rw [rootOf_nil, ← hds]
 have hdz : ds.size = 32 := by rw [hds]; simp [sumOf_length]
 have hone : ds.all (·.oneCell') = true := by rw [hds]; exact bytes_one _
 have HW0 := hyd hW0
 have HINF := hyd (dig_info hdz)
 have HONE := hyd hone
 have HDZ := hyd hdz
 have HK := hyd hk1
 have HB := hyd hb0
 have HSUM := hyd hsum
 clear h hW0 hk1 hb0 hsum hds hdz hone
 go_enter Tryz.func93, Tryz.ntmps93
 go_wp2_with fail
 change Calls _ _ _ (w.alloc (.cells zeroC 101)) _
 rw [← HW0.out]
 refine HSUM.out.mono ?_
 rintro e w4 ⟨rfl, hk4⟩
 have hr4 := hk4.at HB.out (fun e => e)
 have HK4 := hyd ((HK.out.trans hk4 (fun _ _ e => e)).trans (keeps_setRow w4 w.heap.size ds) (fun b hb e => by omega))
 have HR4 := hyd (setRow_heap w4 w.heap.size _ ds 101 _ hr4)
 have HR3 := hyd hr4
 clear hk4 HK HSUM hr4 HB
 go_wp2_with (refine wpList_store_row rfl 101 _ _ rfl w.heap.size ds rfl rfl 101 _ HR3.out HINF.out (by rw [HDZ.out]; kernel_rfl) HONE.out ?_)
 refine bodyPost_ret (results_cell_row Tryz.results93 _ _ w.heap.size 101 ds (0, 0) _ rfl HR4.out Tryz.underlying101 rfl HINF.out) rfl ?_
 exact ⟨rfl, HK4.out⟩
set_option maxRecDepth 100000 in
set_option maxHeartbeats 1000000 in
theorem root_one (x : Dg) : RootC [x] := by
 intro w v h
 obtain ⟨h0, a, c, rfl, h1, h2, h3⟩ := h
 have hx := h0 x (by simp)
 obtain ⟨b, o, rfl, hr⟩ := h3 0 x rfl
 rw [Nat.zero_mul, Nat.add_zero] at hr
 obtain ⟨cl, hcl⟩ : ∃ cl : List Value, cl = x.map u8v := ⟨_, rfl⟩
 rw [← hcl] at hr
 rw [rootOf_one, ← hcl]
 have hsz : cl.length = 32 := by rw [hcl, List.length_map, hx]
 have hr2 : (w.alloc (.cells zeroC 101)).rangeAt b o cl := fun j v hv => by
  have hc := hr j v hv
  rw [World.cell?_of_block (((Keeps.refl (fun _ => False) w).alloc _).block _ (World.block_lt_of_cell? w _ hc) (fun e => e))]
  exact hc
 have hone : cl.toArray.all (·.oneCell') = true := by rw [hcl]; exact bytes_one _
 have HXI := hyd (show (Tryz.prog.info? 101).map (·.size) = some cl.length by rw [hsz]; kernel_rfl)
 have HINF := hyd (dig_info (ds := cl.toArray) (by simp [hsz]))
 have HONE := hyd hone
 have HRG := hyd hr2
 have HSZ := hyd hsz
 have HB := hyd (heap_alloc_new w (.cells zeroC 101))
 have HR4 := hyd (setRow_heap (w.alloc (.cells zeroC 101)) w.heap.size _ cl.toArray 101 _ (heap_alloc_new w (.cells zeroC 101)))
 have HK := hyd (((Keeps.refl (fun _ => False) w).alloc (.cells zeroC 101)).trans (keeps_setRow (w.alloc (.cells zeroC 101)) w.heap.size cl.toArray) (fun b hb e => by omega))
 clear h0 h1 h2 h3 hr hr2 hcl hx hsz hone
 go_enter Tryz.func93, Tryz.ntmps93
 go_wp2_with (first | (refine wpList_load_mid rfl 101 _ rfl b o rfl cl _ HRG.out Tryz.underlying101 rfl HXI.out ?_) | (refine wpList_store_row rfl 101 _ _ rfl w.heap.size cl.toArray rfl rfl 101 _ HB.out HINF.out (by simp only [List.size_toArray]; rw [HSZ.out]; kernel_rfl) HONE.out ?_))
 refine bodyPost_ret (results_cell_row Tryz.results93 _ _ w.heap.size 101 cl.toArray (0, 0) _ rfl HR4.out Tryz.underlying101 rfl HINF.out) rfl ?_
 exact ⟨rfl, HK.out⟩
theorem root_calls : ∀ (n : Nat) (L : List Dg), L.length ≤ n → L.length ≤ 256 → RootC L
 | 0, L, h, _ => by
  obtain rfl : L = [] := List.eq_nil_of_length_eq_zero (by omega)
  exact root_nil
 | n + 1, L, h, hL => by
  by_cases h2 : 2 ≤ L.length
  ·have h3 := half_lt h2
   have h4 := half_pos L.length
   exact root_two h2 hL (root_calls n _ (by rw [List.length_take]; omega) (by rw [List.length_take]; omega)) (root_calls n _ (by rw [List.length_drop]; omega) (by rw [List.length_drop]; omega))
  ·match L, h2 with
   | [], _ => exact root_nil
   | [x], _ => exact root_one x
   | x :: y :: L, h2 => simp at h2
end Go.Proofs.YtddnikpdmjogiaaGreat
