/- Rows of digests; layer 12's has and without. -/
import Derived.Test.YtlinkpjneehnbaaBRq
import Derived.Deep.MidRow
import Derived.Great.BuildSlice
namespace Go.Proofs.Ytlinkpjneehnbaa
set_option linter.unusedVariables false
set_option linter.unusedSimpArgs false
open Go.RowKit Go.MapKept

/-- The cells of a row of digests. -/
def digCells (L : List (List UInt8)) : List Value := L.flatMap (fun x => x.map u8v)
theorem digCells_length : ∀ {L : List (List UInt8)}, Len32 L → (digCells L).length = L.length * 32
  | [], _ => rfl
  | x :: L, h => by
    have h1 := digCells_length (L := L) (fun y hy => h y (List.mem_cons_of_mem _ hy))
    have h2 := h x (List.mem_cons_self ..)
    unfold digCells at h1 ⊢
    rw [List.flatMap_cons, List.length_append, h1, List.length_map, h2, List.length_cons]
    omega
theorem digCells_get : ∀ {L : List (List UInt8)}, Len32 L → ∀ {k : Nat} {x : List UInt8}, L[k]? = some x → ∀ {j : Nat} {v : Value}, (x.map u8v)[j]? = some v → (digCells L)[k * 32 + j]? = some v
  | [], _, k, x, hx, _, _, _ => by simp at hx
  | y :: L, h, 0, x, hx, j, v, hv => by
    simp at hx
    subst hx
    have hj : j < (y.map u8v).length := (List.getElem?_eq_some_iff.1 hv).1
    unfold digCells
    rw [List.flatMap_cons, Nat.zero_mul, Nat.zero_add, List.getElem?_append_left hj, hv]
  | y :: L, h, k + 1, x, hx, j, v, hv => by
    have h1 := digCells_get (L := L) (fun z hz => h z (List.mem_cons_of_mem _ hz)) (k := k) (x := x) (by simpa using hx) hv
    have h2 : (y.map u8v).length = 32 := by rw [List.length_map]; exact h y (List.mem_cons_self ..)
    unfold digCells at h1 ⊢
    rw [List.flatMap_cons, List.getElem?_append_right (by omega), h2, ← h1]
    congr 1
    omega
theorem digCells_snoc (L : List (List UInt8)) (x : List UInt8) : digCells (L ++ [x]) = digCells L ++ x.map u8v := by simp [digCells]

/-- The slice v is a row of these digests, in memory from base on. -/
def Digs (base : Nat) (w : World) (v : Value) (L : List (List UInt8)) : Prop := w.ownsRow base 58 32 v L.length (digCells L) ∧ Len32 L
theorem Digs.nil (base : Nat) (w : World) : Digs base w (.slice none 0 0) [] := ⟨⟨rfl, .inl ⟨rfl, rfl⟩⟩, fun x hx => by cases hx⟩
theorem Digs.keep {base : Nat} {w w' : World} {v : Value} {L : List (List UInt8)} (h : Digs base w v L) (hr : ∀ b, v.ownBlock = some b → w'.heap[b]? = w.heap[b]?) : Digs base w' v L := by
  obtain ⟨⟨h1, h2⟩, h3⟩ := h
  refine ⟨⟨h1, h2.imp id ?_⟩, h3⟩
  rintro ⟨g, cap, cur, rfl, hg, hb, rest⟩
  exact ⟨g, cap, cur, rfl, hg, (hr g rfl).trans hb, rest⟩
theorem Digs.lt {base : Nat} {w : World} {v : Value} {L : List (List UInt8)} (h : Digs base w v L) : ∀ b, v.ownBlock = some b → b < w.heap.size ∧ base ≤ b := by
  rcases h.1.2 with ⟨rfl, _⟩ | ⟨g, cap, cur, rfl, hg, hb, _⟩
  · intro b hb; cases hb
  · intro b hb'
    cases hb'
    exact ⟨lt_of_heap hb, hg⟩
theorem Digs.quiet {base : Nat} {w w' : World} {v : Value} {L : List (List UInt8)} (h : Digs base w v L) (hk : Keeps (fun _ => False) w w') : Digs base w' v L := h.keep (fun b hb => hk.block b (h.lt b hb).1 (fun e => e))
theorem Digs.base {base base' : Nat} {w : World} {v : Value} {L : List (List UInt8)} (h : Digs base w v L) (hb : base' ≤ base) : Digs base' w v L := by
  obtain ⟨⟨h1, h2⟩, h3⟩ := h
  refine ⟨⟨h1, h2.imp id ?_⟩, h3⟩
  rintro ⟨g, cap, cur, rfl, hg, rest⟩
  exact ⟨g, cap, cur, rfl, by omega, rest⟩
theorem Digs.form {base : Nat} {w : World} {v : Value} {L : List (List UInt8)} (h : Digs base w v L) : ∃ a c, v = .slice a L.length c ∧ L.length ≤ c ∧ c ≤ maxLen := by
  rcases h.1.2 with ⟨rfl, e⟩ | ⟨g, cap, cur, rfl, _, _, h4, h5, _⟩
  · exact ⟨none, 0, by rw [e], by omega, Nat.zero_le _⟩
  · exact ⟨_, cap, rfl, h4, h5⟩
/-- A digest of the row. -/
theorem Digs.cell {base : Nat} {w : World} {v : Value} {L : List (List UInt8)} (h : Digs base w v L) {k : Nat} {x : List UInt8} (hx : L[k]? = some x) :
    ∃ g c, v = .slice (some ⟨g, 0, none⟩) L.length c ∧ w.rangeAt g (k * 32) (x.map u8v) := by
  rcases h.1.2 with ⟨rfl, e⟩ | ⟨g, cap, cur, rfl, _, hb, _⟩
  · have := (List.getElem?_eq_some_iff.1 hx).1; omega
  · refine ⟨g, cap, rfl, fun j u hu => ?_⟩
    have := h.1.cells (g := g) rfl (k * 32 + j) u (digCells_get h.2 hx hu)
    rwa [Addr.add_lit, Nat.zero_add] at this
theorem info_digest : (Try.prog.info? 58).map (fun i => (i.zero, i.size, i.bytes)) = some (some (.agg zeroC), 32, 32) := by kernel_rfl
theorem dig_oneCell (x : List UInt8) : ∀ v ∈ x.map u8v, v.oneCell' = true := fun v hv => by
  obtain ⟨c, _, rfl⟩ := List.mem_map.1 hv
  rfl
/-- 'append(v, x)', x already stored in a row of its own. -/
theorem Digs.push {base : Nat} {w : World} {v : Value} {L : List (List UInt8)} (h : Digs base w v L) (hz : base ≤ w.heap.size) {x : List UInt8} (hx : x.length = 32) (hb : L.length < 1099511627776) :
    ∃ a c w', (Builtin.append_ #[108, 108] 108 #[v, .slice (some ⟨w.heap.size, 0, none⟩) 1 1]).run Try.prog (w.alloc (.cells (x.map u8v).toArray 58)) = .ok (.slice a (L.length + 1) c) w' ∧ Digs base w' (.slice a (L.length + 1) c) (L ++ [x]) ∧
      Keeps (fun b => v.ownBlock = some b) w w' ∧ ((Value.slice a (L.length + 1) c).ownBlock = v.ownBlock ∨ (Value.slice a (L.length + 1) c).ownBlock = some (w.heap.size + 1)) := by
  obtain ⟨i0, hi, hz0, hz1, hz2⟩ := info_parts info_digest
  obtain ⟨v', w', hrun, ho2, hg, _, hat⟩ := run_append_own_at (P := Try.prog) (w.alloc (.cells (x.map u8v).toArray 58)) base 108 108 58 i0 _ 32 32 Try.underlying108 hi hz0 hz1 hz2 (by kernel_rfl) (by omega) v L.length (digCells L) (h.1.alloc _) ⟨w.heap.size, 0, none⟩ 1 1 (x.map u8v) (by rw [List.length_map, hx])
    (fun j u hu => by
      rw [Addr.add_lit, Nat.zero_add]
      exact cell_at (heap_alloc_new w _) (by rw [List.getElem?_toArray]; exact hu))
    (dig_oneCell x) (by unfold maxLen; omega) (by omega) (by simp only [World.size_alloc]; omega)
  rw [← digCells_snoc] at ho2
  obtain ⟨a, c, rfl⟩ := ownsRow_slice ho2
  refine ⟨a, c, w', hrun, ⟨by rw [List.length_append]; exact ho2, fun y hy => ?_⟩, ((Keeps.refl _ w).alloc _).trans (Keeps.of_grown hg) (fun _ _ h => h), by simpa using hat⟩
  rcases List.mem_append.1 hy with hy | hy
  · exact h.2 y hy
  · simp at hy; subst hy; exact hx
theorem zeros_size : ((Array.range (1 * 32)).map (fun j => (Value.agg zeroC).cells[j % (Value.agg zeroC).cells.size]!)).size = 32 := by simp
/-- The cells of a literal of one digest. -/
theorem fill_one (cl : List Value) (hl : cl.length = 32) : Instr.fill (fun i => some (i * 32, 32)) ((Array.range (1 * 32)).map (fun j => (Value.agg zeroC).cells[j % (Value.agg zeroC).cells.size]!)) [(0, .agg cl.toArray)] = some cl.toArray := by
  have h := Go.Great.fill_whole (s := 32) (by decide) [.agg cl.toArray] ((Array.range (1 * 32)).map (fun j => (Value.agg zeroC).cells[j % (Value.agg zeroC).cells.size]!)) (fun v hv => by
    simp at hv; subst hv; simp [Value.cells, hl]) (by rw [zeros_size]; rfl)
  simpa [Value.cells] using h
theorem zeroC_one : zeroC.all (·.oneCell') = true := by kernel_rfl

set_option maxRecDepth 100000 in
set_option maxHeartbeats 2000000 in
theorem has_calls {w : World} {base : Nat} {v : Value} {L : List (List UInt8)} (h : Digs base w v L) {D : List UInt8} (hD : D.length = 32) (hL : L.length ≤ 1099511627776) :
    Calls Try.prog 72 #[v, .agg (D.map u8v).toArray] w (QuietP w (.bool (decide (D ∈ L)))) := by
  obtain ⟨va, vc, rfl, _, _⟩ := h.form
  obtain ⟨cl, hcl⟩ : ∃ cl : List Value, cl = D.map u8v := ⟨_, rfl⟩
  rw [← hcl]
  have hdz : cl.toArray.size = 32 := by rw [hcl]; simp [hD]
  obtain ⟨R, hR⟩ : ∃ R, R = decide (D ∈ L) := ⟨_, rfl⟩
  rw [← hR]
  have hk1 : Keeps (fun _ => False) w (w.alloc (.cells cl.toArray 58)) := (Keeps.refl _ w).alloc _
  have hb := heap_alloc_new w (.cells cl.toArray 58)
  have j1 : (L.length : Int) ≤ 9223372036854775807 := by omega
  have HB := Lib.hid hb
  have HK := Lib.hid hk1
  have HI := Lib.hid (dig_info hdz)
  have HD := Lib.hid h
  have HR := Lib.hid hR
  have HCL := Lib.hid hcl
  have HL := Lib.hid hD
  clear h hL hb hk1 hdz hR hcl
  go_enter Try.func72, Try.ntmps72
  go_wp2_with fail
  go_loopw [9] (fun iv wx => ∃ k : Nat, iv = .int .i64 (k : Int) ∧ k ≤ L.length ∧ Keeps (fun _ => False) (w.alloc (.cells cl.toArray 58)) wx ∧ ∀ x ∈ L.take k, ¬ x = D) (fun iv _ => L.length - (intOf iv).toNat)
  case atStart => exact ⟨0, rfl, Nat.zero_le _, Keeps.refl _ _, fun x hx => by simp at hx⟩
  case round =>
    obtain ⟨k, rfl, hk, hkp, hno⟩ := hrel
    have j0 : (0 : Int) ≤ k := by omega
    by_cases hlt : k < L.length
    · obtain ⟨x, hx⟩ : ∃ x, L[k]? = some x := ⟨L[k], List.getElem?_eq_getElem hlt⟩
      have hd2 := HD.out.quiet (HK.out.trans hkp (fun _ _ e => e))
      obtain ⟨g, c, hv, hrg⟩ := hd2.cell hx
      cases hv
      have hxl := HD.out.2 x (List.mem_of_getElem? hx)
      have j2 : (k : Int) < L.length := by omega
      obtain ⟨xl, hxl2⟩ : ∃ xl : List Value, xl = x.map u8v := ⟨_, rfl⟩
      rw [← hxl2] at hrg
      have hxs : xl.toArray.size = 32 := by rw [hxl2]; simp [hxl]
      have hxi : (Try.prog.info? 58).map (·.size) = some xl.length := by rw [hxl2, List.length_map, hxl]; kernel_rfl
      have hone : xl.toArray.all (·.oneCell') = true := all_oneCell_toArray (by rw [hxl2]; exact dig_oneCell x)
      have heq := fun W => dig_eq x D hxl HL.out W
      rw [← hxl2, ← HCL.out] at heq
      have hb2 := hkp.at HB.out (fun e => e)
      have hb3 : (wr.alloc (.cells xl.toArray 58)).heap[w.heap.size]? = some (.cells cl.toArray 58 (0, 0)) := (((Keeps.refl (fun _ => False) wr).alloc _).at hb2 (fun e => e))
      have HB3 := Lib.hid hb3
      have HB4 := Lib.hid (heap_alloc_new wr (.cells xl.toArray 58))
      have HZ := Lib.hid (heap_alloc_new wr (.cells zeroC 58))
      have HRG := Lib.hid hrg
      have HXI := Lib.hid hxi
      have HXI2 := Lib.hid (dig_info hxs)
      have HXS := Lib.hid hxs
      have HONE := Lib.hid hone
      have HKP := Lib.hid ((HK.out.trans hkp (fun _ _ e => e)).trans ((Keeps.refl _ wr).alloc (.cells xl.toArray 58)) (fun _ _ e => e))
      have HKP2 := Lib.hid (hkp.trans ((Keeps.refl _ wr).alloc (.cells xl.toArray 58)) (fun _ _ e => e))
      clear hb2 hb3 hrg hxi hxs hone hd2 hkp hxl hxl2
      by_cases hxD : x = D
      · have hR1 : R = true := by
          rw [HR.out, decide_eq_true_eq, ← hxD]
          exact List.mem_of_getElem? hx
        have HR1 := Lib.hid hR1
        have hd : decide (x = D) = true := decide_eq_true hxD
        simp only [hd] at heq
        clear hR1 hxD hd hx hno hlt hk
        go_wp2_with (first | (refine wpList_load_mid rfl 58 _ rfl g (k * 32) rfl xl _ HRG.out Try.underlying58 rfl HXI.out ?_) | (refine wpList_store_row rfl 58 _ _ rfl wr.heap.size xl.toArray rfl rfl 58 _ HZ.out HXI2.out (by rw [HXS.out]; kernel_rfl) HONE.out ?_; rw [World.setRow_alloc_new]) | (refine wpList_load_row rfl 58 _ rfl wr.heap.size rfl 58 xl.toArray (0, 0) _ HB4.out Try.underlying58 rfl HXI2.out ?_) | (refine wpList_load_row rfl 58 _ rfl w.heap.size rfl 58 cl.toArray (0, 0) _ HB3.out Try.underlying58 rfl HI.out ?_))
        go_ret
        exact ⟨by rw [HR1.out]; rfl, HKP.out⟩
      · have hno2 : ∀ y ∈ L.take (k + 1), ¬ y = D := fun y hy => by
          rw [List.take_add_one, hx] at hy
          simp only [Option.toList_some, List.mem_append, List.mem_singleton] at hy
          rcases hy with hy | rfl
          · exact hno y hy
          · exact hxD
        have HNO := Lib.hid hno2
        have HLT := Lib.hid hlt
        have hd : decide (x = D) = false := decide_eq_false hxD
        simp only [hd] at heq
        clear hno2 hxD hd hx hno hlt hk
        go_wp2_with (first | (refine wpList_load_mid rfl 58 _ rfl g (k * 32) rfl xl _ HRG.out Try.underlying58 rfl HXI.out ?_) | (refine wpList_store_row rfl 58 _ _ rfl wr.heap.size xl.toArray rfl rfl 58 _ HZ.out HXI2.out (by rw [HXS.out]; kernel_rfl) HONE.out ?_; rw [World.setRow_alloc_new]) | (refine wpList_load_row rfl 58 _ rfl wr.heap.size rfl 58 xl.toArray (0, 0) _ HB4.out Try.underlying58 rfl HXI2.out ?_) | (refine wpList_load_row rfl 58 _ rfl w.heap.size rfl 58 cl.toArray (0, 0) _ HB3.out Try.underlying58 rfl HI.out ?_))
        go_roundw
        case rel => exact ⟨k + 1, rfl, HLT.out, HKP2.out, HNO.out⟩
        case measure => have := HLT.out; simp [intOf]; omega
    · obtain rfl : k = L.length := by omega
      have hf : R = false := by
        rw [HR.out, decide_eq_false_iff_not]
        intro hm
        rw [List.take_length] at hno
        exact hno D hm rfl
      have HF := Lib.hid hf
      have HKP := Lib.hid (HK.out.trans hkp (fun _ _ e => e))
      clear hf hkp hno hlt hk
      go_wp2_with fail
      go_ret
      exact ⟨by rw [HF.out]; rfl, HKP.out⟩
theorem without_step {L : List (List UInt8)} {D x : List UInt8} {k : Nat} (hx : L[k]? = some x) : withoutOf (L.take (k + 1)) D = if x = D then withoutOf (L.take k) D else withoutOf (L.take k) D ++ [x] := by
  unfold withoutOf
  rw [List.take_add_one, hx]
  simp only [Option.toList_some, List.filter_append]
  by_cases e : x = D
  · rw [if_pos e]; simp [e]
  · rw [if_neg e]; simp [e]
/-- What without leaves. -/
def WithoutPost (w : World) (L : List (List UInt8)) (e : Ending) (w' : World) : Prop := ∃ (a : Option Addr) (c : Nat), e = .returned (.slice a L.length c) ∧ Digs w.heap.size w' (.slice a L.length c) L ∧ Keeps (fun _ => False) w w'
theorem digest_parts : ∃ i, Try.prog.info? 58 = some i ∧ i.zero = some (.agg zeroC) ∧ i.size = 32 ∧ i.bytes = 32 := by
  obtain ⟨i0, hi, hz0, hz1, hz2⟩ := info_parts info_digest
  exact ⟨i0, hi, hz0, hz1, hz2⟩
/-- A literal of one digest, in a plain region. -/
theorem wpList_buildDig {ops : Array Oper} {rest : List Oper} {o : Oper} {a : Act} {w : World} {Q : Exit → Act → World → Prop} (hg : o.guard = none) (x : Operand) (ho : o.op = .buildSlice 108 1 #[(0, x)]) (cl : List Value) (hl : cl.length = 32) (hx : a.eval x = .agg cl.toArray)
    (h : wpList Try.prog ops Q rest (a.put o.dst (.slice (some ⟨w.heap.size, 0, none⟩) 1 1)) (w.alloc (.cells cl.toArray 58))) : wpList Try.prog ops Q (o :: rest) a w := by
  obtain ⟨i0, hi, hz0, hz1, _⟩ := digest_parts
  refine wpList_buildSlice hg 108 58 1 #[(0, x)] ho cl.toArray i0 (.agg zeroC) Try.underlying108 hi hz0 (by rw [hz1]; decide) (by rw [hz1]; decide) ?_ h
  rw [hz1]
  simp only [List.map_toArray, List.map_cons, List.map_nil, hx]
  exact fill_one cl hl

set_option maxRecDepth 100000 in
set_option maxHeartbeats 2000000 in
theorem without_calls {w : World} {base : Nat} {v : Value} {L : List (List UInt8)} (h : Digs base w v L) {D : List UInt8} (hD : D.length = 32) (hL : L.length < 1099511627776) :
    Calls Try.prog 71 #[v, .agg (D.map u8v).toArray] w (WithoutPost w (withoutOf L D)) := by
  obtain ⟨va, vc, rfl, _, _⟩ := h.form
  obtain ⟨cl, hcl⟩ : ∃ cl : List Value, cl = D.map u8v := ⟨_, rfl⟩
  rw [← hcl]
  have hdz : cl.toArray.size = 32 := by rw [hcl]; simp [hD]
  have hk1 : Keeps (fun _ => False) w (w.alloc (.cells cl.toArray 58)) := (Keeps.refl _ w).alloc _
  have hb := heap_alloc_new w (.cells cl.toArray 58)
  have j1 : (L.length : Int) ≤ 9223372036854775807 := by omega
  have HB := Lib.hid hb
  have HK := Lib.hid hk1
  have HI := Lib.hid (dig_info hdz)
  have HD := Lib.hid h
  have HCL := Lib.hid hcl
  have HL := Lib.hid hD
  have HLL := Lib.hid hL
  clear h hL hb hk1 hdz hcl
  go_enter Try.func71, Try.ntmps71
  go_wp2_with fail
  go_loopw [5, 10] (fun ov iv wx => ∃ k : Nat, iv = .int .i64 (k : Int) ∧ k ≤ L.length ∧ Keeps (fun _ => False) (w.alloc (.cells cl.toArray 58)) wx ∧ Digs (w.heap.size + 1) wx ov (withoutOf (L.take k) D)) (fun _ iv _ => L.length - (intOf iv).toNat)
  case atStart => exact ⟨0, rfl, Nat.zero_le _, Keeps.refl _ _, Digs.nil _ _⟩
  case round =>
    obtain ⟨k, rfl, hk, hkp, hout⟩ := hrel
    have j0 : (0 : Int) ≤ k := by omega
    by_cases hlt : k < L.length
    · obtain ⟨x, hx⟩ : ∃ x, L[k]? = some x := ⟨L[k], List.getElem?_eq_getElem hlt⟩
      have hd2 := HD.out.quiet (HK.out.trans hkp (fun _ _ e => e))
      obtain ⟨g, c, hv, hrg⟩ := hd2.cell hx
      cases hv
      have hxl := HD.out.2 x (List.mem_of_getElem? hx)
      have j2 : (k : Int) < L.length := by omega
      have hst := without_step (D := D) hx
      have hol : (withoutOf (L.take k) D).length ≤ k := Nat.le_trans (List.length_filter_le _ _) (by rw [List.length_take]; omega)
      obtain ⟨xl, hxl2⟩ : ∃ xl : List Value, xl = x.map u8v := ⟨_, rfl⟩
      rw [← hxl2] at hrg
      have hxs : xl.toArray.size = 32 := by rw [hxl2]; simp [hxl]
      have hxi : (Try.prog.info? 58).map (·.size) = some xl.length := by rw [hxl2, List.length_map, hxl]; kernel_rfl
      have hone : xl.toArray.all (·.oneCell') = true := all_oneCell_toArray (by rw [hxl2]; exact dig_oneCell x)
      have heq := fun W => dig_eq x D hxl HL.out W
      rw [← hxl2, ← HCL.out] at heq
      have hb2 := hkp.at HB.out (fun e => e)
      have hb3 : (wr.alloc (.cells xl.toArray 58)).heap[w.heap.size]? = some (.cells cl.toArray 58 (0, 0)) := (((Keeps.refl (fun _ => False) wr).alloc _).at hb2 (fun e => e))
      have hsz := hkp.size
      rw [World.size_alloc] at hsz
      obtain ⟨oa, oc, rfl, _, _⟩ := hout.form
      have hka := (Keeps.refl (fun _ => False) wr).alloc (.cells xl.toArray 58)
      obtain ⟨a4, c4, w4, hrun, ho4, hk4, _⟩ := (hout.quiet hka).push (by rw [World.size_alloc]; omega) hxl (by have := HLL.out; omega)
      have hkw4 : Keeps (fun _ => False) (w.alloc (.cells cl.toArray 58)) w4 := (hkp.trans hka (fun _ _ e => e)).trans hk4 (fun b hb e => by
        have := (hout.lt b e).2
        rw [World.size_alloc] at hb
        omega)
      rw [← hxl2] at hrun
      have HB3 := Lib.hid hb3
      have HB4 := Lib.hid (heap_alloc_new wr (.cells xl.toArray 58))
      have HZ := Lib.hid (heap_alloc_new wr (.cells zeroC 58))
      have HRG := Lib.hid hrg
      have HXI := Lib.hid hxi
      have HXI2 := Lib.hid (dig_info hxs)
      have HXS := Lib.hid hxs
      have HXL := Lib.hid (by rw [hxl2, List.length_map, hxl] : xl.length = 32)
      have HONE := Lib.hid hone
      have HRUN := Lib.hid hrun
      have HO4 := Lib.hid ho4
      have HKW := Lib.hid hkw4
      have HOUT := Lib.hid (hout.quiet hka)
      have HKP2 := Lib.hid (hkp.trans hka (fun _ _ e => e))
      have HLT := Lib.hid hlt
      generalize withoutOf (L.take k) D = M at HOUT HO4 hst HRUN hol hout hrun ho4 hk4 ⊢
      clear hb2 hb3 hrg hxi hxs hone hd2 hkp hxl hxl2 hrun ho4 hk4 hkw4 hout hka hsz hol
      by_cases hxD : x = D
      · rw [if_pos hxD] at hst
        have hd : decide (x = D) = true := decide_eq_true hxD
        simp only [hd] at heq
        have HST := Lib.hid hst
        clear hst hxD hd hx hlt hk
        go_wp2_with (first | (refine wpList_load_mid rfl 58 _ rfl g (k * 32) rfl xl _ HRG.out Try.underlying58 rfl HXI.out ?_) | (refine wpList_store_row rfl 58 _ _ rfl wr.heap.size xl.toArray rfl rfl 58 _ HZ.out HXI2.out (by rw [HXS.out]; kernel_rfl) HONE.out ?_; rw [World.setRow_alloc_new]) | (refine wpList_load_row rfl 58 _ rfl wr.heap.size rfl 58 xl.toArray (0, 0) _ HB4.out Try.underlying58 rfl HXI2.out ?_) | (refine wpList_load_row rfl 58 _ rfl w.heap.size rfl 58 cl.toArray (0, 0) _ HB3.out Try.underlying58 rfl HI.out ?_))
        go_roundw
        case rel => exact ⟨k + 1, rfl, HLT.out, HKP2.out, by rw [HST.out]; exact HOUT.out⟩
        case measure => have := HLT.out; simp [intOf]; omega
      · rw [if_neg hxD] at hst
        have hd : decide (x = D) = false := decide_eq_false hxD
        simp only [hd] at heq
        have HST := Lib.hid hst
        clear hst hxD hd hx hlt hk
        go_wp2_with (first | (refine wpList_load_mid rfl 58 _ rfl g (k * 32) rfl xl _ HRG.out Try.underlying58 rfl HXI.out ?_) | (refine wpList_store_row rfl 58 _ _ rfl wr.heap.size xl.toArray rfl rfl 58 _ HZ.out HXI2.out (by rw [HXS.out]; kernel_rfl) HONE.out ?_; rw [World.setRow_alloc_new]) | (refine wpList_load_row rfl 58 _ rfl wr.heap.size rfl 58 xl.toArray (0, 0) _ HB4.out Try.underlying58 rfl HXI2.out ?_) | (refine wpList_load_row rfl 58 _ rfl w.heap.size rfl 58 cl.toArray (0, 0) _ HB3.out Try.underlying58 rfl HI.out ?_) | (refine wpList_buildDig rfl _ rfl xl HXL.out rfl ?_) | (at_builtin; refine wpList_append_run rfl _ _ _ _ rfl rfl rfl HRUN.out ?_))
        go_roundw
        case rel => exact ⟨k + 1, rfl, HLT.out, HKW.out, by rw [HST.out]; exact HO4.out⟩
        case measure => have := HLT.out; simp [intOf]; omega
    · obtain rfl : k = L.length := by omega
      rw [List.take_length] at hout
      obtain ⟨oa, oc, rfl, _, _⟩ := hout.form
      have HO := Lib.hid (hout.base (base' := w.heap.size) (by omega))
      have HKP := Lib.hid (HK.out.trans hkp (fun _ _ e => e))
      clear hkp hlt hk hout
      go_wp2_with fail
      go_ret
      exact ⟨oa, oc, rfl, HO.out, HKP.out⟩
end Go.Proofs.Ytlinkpjneehnbaa
