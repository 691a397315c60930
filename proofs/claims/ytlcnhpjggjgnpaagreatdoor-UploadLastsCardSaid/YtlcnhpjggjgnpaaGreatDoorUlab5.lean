/- A part of the proof. -/
import Derived.Test.YtlcnhpjggjgnpaaGreatDoorUlaa8
import Derived.Test.YtlcnhpjggjgnpaaGreatDoorUlaa9
import Derived.Test.YtlcnhpjggjgnpaaGreatDoorUlab4
import Derived.Laws.IdiomStrings
import Derived.Laws.AppendOwn
import Derived.Deep.DeepCutAuto
import Derived.Deep.CutBlock
namespace Go.Proofs.YtlcnhpjggjgnpaaGreatDoor
set_option linter.unusedVariables false
open Go.RowKit Go.MapKept
def EncPost (w : World) (r : Int × List UInt8) (e : Ending) (w' : World) : Prop := ∃ v, e = .returned (.tuple #[v, .int .i64 r.1]) ∧ Owns w' w.heap.size v r.2 ∧ Keeps (fun _ => False) w w'
theorem conv_bytes (s : ByteArray) (hs : s.size ≤ 140737488355328) (W : World) : ∃ c w', (convert 9 22 (.string s)).run Tryz.prog W = .ok (.slice (some ⟨W.heap.size, 0, none⟩) s.size c) w' ∧ Reads w' (.slice (some ⟨W.heap.size, 0, none⟩) s.size c) s.toList ∧ Keeps (fun _ => False) W w' := by
 refine ⟨_, _, run_bytes_of_string W 9 22 5 s Tryz.underlying9 Tryz.underlying22 Tryz.underlying5, ?_, (((Keeps.refl _ W).drew).alloc _)⟩
 have hsz : s.toList.length = s.size := key_len s
 refine .inr ⟨⟨W.heap.size, 0, none⟩, _, by rw [hsz], by rw [hsz]; exact grownCap_ge _ _ _ _, grownCap_le_maxLen _ _ _ _ (by unfold maxLen; omega), fun j u hu => ?_⟩
 rw [Addr.add_lit, Nat.zero_add]
 refine cell_at (heap_alloc_new W.drew _) ?_
 rw [List.getElem?_map] at hu
 obtain ⟨c, hc, rfl⟩ := Option.map_eq_some_iff.1 hu
 rw [ByteArray.toList_eq] at hc
 obtain ⟨hj, rfl⟩ := List.getElem?_eq_some_iff.1 hc
 rw [bytesRow_at s _ j (by simpa using hj)]
 simp [u8v]
theorem Reads.keepAt {F : Nat → Prop} {w w' : World} {x : Addr} {n c : Nat} {l : List UInt8} (h : Reads w (.slice (some x) n c) l) (hk : Keeps F w w') (hF : ¬ F x.block) : Reads w' (.slice (some x) n c) l := by
 rcases h with ⟨e, _⟩ | ⟨y, c', e, h1, h2, h3⟩
 ·cases e
 ·cases e
  refine .inr ⟨_, _, rfl, h1, h2, fun j u hu => ?_⟩
  have hc := h3 j u hu
  have hb := World.block_lt_of_cell? w _ hc
  have := hk.block _ hb (by rw [add_block]; exact hF)
  rw [World.cell?_of_block this]
  exact hc
theorem slice_form {w : World} {base : Nat} {v : Value} {l : List UInt8} (h : Owns w base v l) : ∃ a n c, v = .slice a n c := by
 obtain ⟨a, c, rfl, _⟩ := h.bytes.form
 exact ⟨a, _, c, rfl⟩
theorem step_append_at {P : Program} (W : World) {ops : Array Oper} {o : Oper} {a : Act} {w : World} {K : Act → World → Prop} {Q : Exit → Act → World → Prop} {E : Prop} (hw : w = W)
  (hg : o.guard = none) (s x : Operand) (t tx : TypeId) (hop : o.op = Op.call { callee := Callee.builtin Builtin.append, args := #[s, x], argTypes := #[t, tx] })
  (sv xv : Value) {v' : Value} {w' : World} (hs : a.eval s = sv) (hx : a.eval x = xv) (hrun : (Builtin.append_ #[t, tx] o.type #[sv, xv]).run P W = .ok v' w')
  (hK : K (a.put o.dst v') w') : if Region.wanted o (yielded ops a.tmps) = true then Oper.wp P o a w K Q else E := by
 subst hw
 exact step_append_run hg s x t tx hop hs hx hrun hK
theorem grow_at {w W : World} {base : Nat} {v pv : Value} {l p : List UInt8} (hz : base ≤ W.heap.size) (ho : Owns W base v l) (hp : Reads W pv p) (hb : l.length + p.length ≤ 140737488355328) (hw : Keeps (fun _ => False) w W) (hwb : w.heap.size ≤ base) {B : Nat} {arr : Array Value} {T : TypeId} (hB : W.heap[B]? = some (.cells arr T (0, 0))) (hT : T ≠ 5) :
  ∃ a n c w', (Builtin.append_ #[22, 22] 22 #[v, pv]).run Tryz.prog W = .ok (.slice a n c) w' ∧ Owns w' base (.slice a n c) (l ++ p) ∧ Keeps (fun _ => False) w w' ∧ w'.heap[B]? = some (.cells arr T (0, 0)) ∧
   ∀ (g n c : Nat) (m : List UInt8), Reads W (.slice (some ⟨g, 0, none⟩) n c) m → v.ownBlock ≠ some g → Reads w' (.slice (some ⟨g, 0, none⟩) n c) m := by
 obtain ⟨v', w', hrun, ho2, hk⟩ := ho.grow hz hp hb
 obtain ⟨a, c, rfl, _, _⟩ := ho2.bytes.form
 refine ⟨a, _, c, w', hrun, ho2, hw.trans hk (fun b hb e => by have := owns_lt ho b e; omega), hk.at hB (fun e => ?_), fun g n c m hr hne => hr.keepAt hk hne⟩
 obtain ⟨cur, e2⟩ := ownsRow_type ho e
 rw [hB] at e2
 simp only [Option.some.injEq, Obj.cells.injEq] at e2
 exact hT e2.2.1
set_option maxRecDepth 100000 in
set_option maxHeartbeats 1000000 in
theorem tencode_calls {w : World} {a : Option Addr} {c : Nat} {l : List TCh} (h : TChsIn w a l) (hlc : l.length ≤ c) (hc : c ≤ maxLen) : Calls Tryz.prog 107 #[.slice a l.length c] w (EncPost w (encOf l)) := by
 have H := Lib.hid h
 unfold maxLen at hc
 have i0 : (l.length : Int) ≤ 9223372036854775807 := by omega
 have i1 : (0 : Int) ≤ (l.length : Int) := by omega
 clear h hlc hc
 by_cases hbig : 256 < l.length
 ·have he : encOf l = (8, []) := by unfold encOf; rw [if_pos hbig]
  have j1 : (256 : Int) < l.length := by omega
  rw [he]
  clear hbig he
  go_enter Tryz.func107, Tryz.ntmps107
  go_wp2_with fail
  go_ret2
  exact ⟨_, rfl, Owns.nil _ _, Keeps.refl _ _⟩
 have he : encOf l = encFrom l (countOf l.length) := by unfold encOf; rw [if_neg hbig]
 have j1 : ¬ (256 : Int) < l.length := by omega
 have HCN := Lib.hid (fun W => count_calls W l.length (by omega))
 have hcl := countOf_len10 (n := l.length) (by omega)
 rw [he]
 have HCL := Lib.hid hcl
 clear he hcl
 go_enter Tryz.func107, Tryz.ntmps107
 go_wp2_with fail
 refine (HCN.out w).mono ?_
 rintro e w1 ⟨cv, rfl, ho1, hk1⟩
 have HO1 := Lib.hid ho1
 have HK1 := Lib.hid hk1
 clear ho1 hk1 HCN
 go_wp2_with fail
 go_loopw [4, 16] (fun ov iv wx => ∃ (k : Nat) (out : List UInt8), k ≤ l.length ∧ iv = .int .i64 (k : Int) ∧ Owns wx w.heap.size ov out ∧ encFrom l (countOf l.length) = encFrom (l.drop k) out ∧ out.length ≤ 1048568 ∧ Keeps (fun _ => False) w wx) (fun _ iv _ => l.length - (intOf iv).toNat)
 case atStart => exact ⟨0, _, Nat.zero_le _, rfl, HO1.out, rfl, by have := HCL.out; omega, HK1.out⟩
 case round =>
  obtain ⟨k, out, hk, rfl, ho, hinv, hol, hq⟩ := hrel
  clear HO1 HK1 HCL
  have j0 : (0 : Int) ≤ k := by omega
  obtain ⟨oa, oc, rfl, _, _⟩ := ho.bytes.form
  by_cases hlt : k < l.length
  ·obtain ⟨ch, hch⟩ : ∃ ch, l[k]? = some ch := ⟨l[k], List.getElem?_eq_getElem hlt⟩
   obtain ⟨x, p, rfl, c0, c1, c2, hp⟩ := H.out.cells hch
   have c0 := cell_keep c0 hq
   have c1 := cell_keep c1 hq
   have c2 := cell_keep c2 hq
   obtain ⟨key, gone, val⟩ := ch
   dsimp only at c0 c1 c2 hp
   obtain ⟨pa, pc, rfl, _, _⟩ := hp.form
   have j2 : (k : Int) < l.length := by omega
   have hinv2 : encFrom (l.drop k) out = if badCh ⟨key, gone, val⟩ = true then (1, []) else if 1048568 < (out ++ encCh ⟨key, gone, val⟩).length then (8, []) else encFrom (l.drop (k + 1)) (out ++ encCh ⟨key, gone, val⟩) := by
    obtain ⟨hk', he⟩ := List.getElem?_eq_some_iff.1 hch
    rw [List.drop_eq_getElem_cons hk', encFrom, he]
   rw [hinv2] at hinv
   clear hinv2
   have o0 : (0 : Int) ≤ (key.size : Int) := by omega
   have o1 : (0 : Int) ≤ (val.length : Int) := by omega
   have HINV := Lib.hid hinv
   have HO := Lib.hid ho
   have HQ := Lib.hid hq
   have HP := Lib.hid hp
   clear hinv ho hq hp hk hlt hch
   go_upto_region 7 with fail
   by_cases hb : badCh ⟨key, gone, val⟩ = true
   ·rw [if_pos hb] at HINV
    have hfin : ∀ wx, Keeps (fun _ => False) w wx → EncPost w (encFrom l (countOf l.length)) (.returned (.tuple #[.slice none 0 0, .int .i64 1])) wx := fun wx hkx => ⟨_, by rw [HINV.out], by rw [HINV.out]; exact Owns.nil _ _, hkx⟩
    have HFIN := Lib.hid (hfin _ (HQ.out.alloc (.cells #[.string key, .bool gone, .slice pa val.length pc] 109)))
    unfold badCh at hb
    simp only [Bool.or_eq_true, decide_eq_true_eq] at hb
    clear hfin HINV HP HO HQ hol
    by_cases e0 : key.size = 0
    ·have b1 : key.toList.isEmpty = true := by rw [List.isEmpty_iff]; exact List.eq_nil_of_length_eq_zero (by rw [key_len]; exact e0)
     clear hb e0
     go_wp2_with fail
     go_ret2
     exact HFIN.out
    ·have b1 : key.toList.isEmpty = false := by rw [← Bool.not_eq_true, List.isEmpty_iff]; exact fun e => e0 (by rw [← key_len, e]; rfl)
     by_cases e1 : 320 < key.size
     ·have b2 : decide ((320 : Int) < (key.size : Int)) = true := decide_eq_true (by omega)
      clear hb e0 e1
      go_wp2_with fail
      go_ret2
      exact HFIN.out
     ·have b2 : decide ((320 : Int) < (key.size : Int)) = false := decide_eq_false (by omega)
      have b3 : decide ((262144 : Int) < (val.length : Int)) = true := decide_eq_true (by omega)
      clear hb e0 e1
      go_wp2_with fail
      go_ret2
      exact HFIN.out
   ·obtain ⟨b1, b2, b3⟩ : key.toList.isEmpty = false ∧ decide ((320 : Int) < (key.size : Int)) = false ∧ decide ((262144 : Int) < (val.length : Int)) = false := by
     obtain ⟨g0, g1, g2⟩ := badCh_false (by simpa using hb : badCh ⟨key, gone, val⟩ = false)
     dsimp only at g0 g1 g2
     exact ⟨by rw [← Bool.not_eq_true, List.isEmpty_iff]; exact fun e => by rw [← key_len, e] at g0; simp at g0, decide_eq_false (by omega), decide_eq_false (by omega)⟩
    go_upto_if 36 with fail
    have hB := heap_alloc_new wr (.cells #[.string key, .bool gone, .slice pa val.length pc] 109)
    have hk2 : Keeps (fun _ => False) w (wr.alloc (.cells #[.string key, .bool gone, .slice pa val.length pc] 109)) := HQ.out.alloc _
    have ho2 : Owns (wr.alloc (.cells #[.string key, .bool gone, .slice pa val.length pc] 109)) w.heap.size (.slice oa out.length oc) out := HO.out.keep ((Keeps.refl _ wr).alloc _)
    have hz2 : (wr.alloc (.cells #[.string key, .bool gone, .slice pa val.length pc] 109)).heap.size = wr.heap.size + 1 := World.size_alloc _ _
    have hlt2 : ∀ b, (Value.slice oa out.length oc).ownBlock = some b → b < wr.heap.size := fun b hb => (owns_lt HO.out b hb).1
    have q0 := cell_at (i := 0) hB rfl
    generalize wr.alloc (.cells #[.string key, .bool gone, .slice pa val.length pc] 109) = w2 at *
    generalize wr.heap.size = B at *
    go_cut [4] from 37 to 57 (fun v wx => Owns wx w.heap.size v (out ++ encCh ⟨key, gone, val⟩) ∧ Keeps (fun _ => False) w wx)
    case first =>
     obtain ⟨cvC, cvW, hcv⟩ : ∃ (cvC : World → Nat) (cvW : World → World), ∀ W, (convert 9 22 (.string key)).run Tryz.prog W = .ok (.slice (some ⟨W.heap.size, 0, none⟩) key.size (cvC W)) (cvW W) ∧ Reads (cvW W) (.slice (some ⟨W.heap.size, 0, none⟩) key.size (cvC W)) key.toList ∧ Keeps (fun _ => False) W (cvW W) :=
      ⟨fun W => (conv_bytes key (by have := b2; simp at this; omega) W).choose, fun W => (conv_bytes key (by have := b2; simp at this; omega) W).choose_spec.choose, fun W => (conv_bytes key (by have := b2; simp at this; omega) W).choose_spec.choose_spec⟩
     have hcr := fun W => (hcv W).1
     have HKL := Lib.hid (show 2000000 + (textOf key.toList).length ≤ 140737488355328 by have hk' := key_len key; have h1 := countOf_len10 (n := key.toList.length) (by have := of_decide_eq_false b2; omega); have := of_decide_eq_false b2; unfold textOf; rw [List.length_append]; omega)
     cases gone with
     | true =>
      have ha0 := fun (W : World) (g : Nat) (hk : Keeps (fun _ => False) w2 W) (hc : W.cell? ⟨g, 0, none⟩ = some (.int .u8 0)) => grow_at (w := w) (W := W) (base := w.heap.size) (v := .slice oa out.length oc) (pv := .slice (some ⟨g, 0, none⟩) 1 1) (l := out) (p := [0]) (by have := (hk2.trans hk (fun _ _ e => e)).size; omega) (ho2.keep hk) (.inr ⟨_, 1, rfl, Nat.le_refl _, by unfold maxLen; omega, fun j u hu => by
       match j, hu with
       | 0, hu => simp at hu; subst hu; rw [Addr.add_zero']; exact hc⟩) (by simp; omega) (hk2.trans hk (fun _ _ e => e)) (Nat.le_refl _) (hk.at hB (fun e => e)) (by decide)
      have hcell : ∀ W : World, (W.alloc (Obj.cells #[.int .u8 0] 5)).cell? ⟨W.heap.size, 0, none⟩ = some (.int .u8 0) := fun W => cell_at (heap_alloc_new W (Obj.cells #[.int .u8 0] 5)) rfl
      have HA := Lib.hid ha0
      have q0a : (w2.alloc (Obj.cells #[.int .u8 0] 5)).drew.cell? ⟨B, 0, none⟩ = some (.string key) := cell_keep (w := w2) q0 (((Keeps.refl _ w2).alloc _).drew)
      have A1 := Lib.hid (ha0 (w2.alloc (Obj.cells #[.int .u8 0] 5)).drew w2.heap.size (((Keeps.refl _ w2).alloc _).drew) (hcell w2))
      have A2 := Lib.hid (ha0 ((cvW w2.drew).alloc (Obj.cells #[.int .u8 0] 5)) (cvW w2.drew).heap.size (((Keeps.refl _ w2).drew.trans (hcv w2.drew).2.2 (fun _ _ e => e)).alloc _) (hcell (cvW w2.drew)))
      have A3 := Lib.hid (ha0 (cvW (w2.alloc (Obj.cells #[.int .u8 0] 5)).drew) w2.heap.size ((((Keeps.refl _ w2).alloc _).drew).trans (hcv _).2.2 (fun _ _ e => e)) (cell_keep (w := (w2.alloc (Obj.cells #[.int .u8 0] 5)).drew) (hcell w2) (hcv _).2.2))
      have HT := Lib.hid (fun (W : World) (sv : Value) (h : Reads W sv key.toList) => text_calls h (by rw [key_len]; have := of_decide_eq_false b2; omega))
      have HB := Lib.hid (fun (W W2 : World) (v1 tv : Value) (l1 : List UInt8) (h1 : Owns W w.heap.size v1 l1) (hl : l1.length ≤ 2000000) (hw : Keeps (fun _ => False) w W) (hW : W.heap[B]? = some (.cells #[.string key, .bool true, .slice pa val.length pc] 109 (0, 0))) (hk : Keeps (fun _ => False) W W2) (ht : Reads W2 tv (textOf key.toList)) => grow_at (w := w) (W := W2) (base := w.heap.size) (v := v1) (pv := tv) (l := l1) (p := textOf key.toList) (hw.trans hk (fun _ _ e => e)).size (h1.keep hk) ht (by have := HKL.out; omega) (hw.trans hk (fun _ _ e => e)) (Nat.le_refl _) (hk.at hW (fun e => e)) (by decide))
      have HCV := Lib.hid hcv
      have HL1 := Lib.hid (show (out ++ [0]).length ≤ 2000000 by simp; omega)
      have HN2 := Lib.hid (show (Value.slice oa out.length oc).ownBlock ≠ some w2.heap.size from fun e => by have := hlt2 _ e; omega)
      have HN3 := Lib.hid (show (Value.slice oa out.length oc).ownBlock ≠ some (w2.heap.size + 1) from fun e => by have := hlt2 _ e; omega)
      have HR2 := Lib.hid (show Reads ((cvW w2.drew).alloc (Obj.cells #[.int .u8 0] 5)) (.slice (some ⟨w2.heap.size, 0, none⟩) key.size (cvC w2.drew)) key.toList from (hcv w2.drew).2.1.keep ((Keeps.refl _ _).alloc _))
      have HR3 := Lib.hid (show Reads (cvW (w2.alloc (Obj.cells #[.int .u8 0] 5)).drew) (.slice (some ⟨w2.heap.size + 1, 0, none⟩) key.size (cvC (w2.alloc (Obj.cells #[.int .u8 0] 5)).drew)) key.toList by have := (hcv (w2.alloc (Obj.cells #[.int .u8 0] 5)).drew).2.1; rw [drew_size, World.size_alloc] at this; exact this)
      clear ha0 hcv hb ho2 hk2 hlt2 hz2 hol hB hcell HP HINV
      go_wp2_with fail
      go_region_law (first | (refine step_wanted rfl ?_; go_simp; go_at_call 154; refine (HT.out _ _ ?hr).mono ?_; (case hr => first | exact (HCV.out w3).2.1 | exact hr3 _ _ _ _ HR2.out HN2.out | exact hr3 _ _ _ _ HR3.out HN3.out); rintro e w4 ⟨tv, rfl, ho4, hk4⟩; obtain ⟨ta, tn, tc, rfl⟩ := slice_form ho4) | (obtain ⟨a3, n3, c3, w3, hrun3, ho3, hk3, hB3, hr3⟩ := A1.out; have q3 := cell_at (i := 0) hB3 rfl; refine step_append_at ((w2.alloc (Obj.cells #[.int .u8 0] 5)).drew) rfl rfl (.tmp 37) (.tmp 38) 22 22 rfl (.slice oa out.length oc) (.slice (some ⟨w2.heap.size, 0, none⟩) 1 1) rfl rfl hrun3 ?_) | (obtain ⟨a3, n3, c3, w3, hrun3, ho3, hk3, hB3, hr3⟩ := A2.out; have q3 := cell_at (i := 0) hB3 rfl; refine step_append_at ((cvW w2.drew).alloc (Obj.cells #[.int .u8 0] 5)) rfl rfl (.tmp 37) (.tmp 38) 22 22 rfl (.slice oa out.length oc) (.slice (some ⟨(cvW w2.drew).heap.size, 0, none⟩) 1 1) rfl rfl hrun3 ?_) | (obtain ⟨a3, n3, c3, w3, hrun3, ho3, hk3, hB3, hr3⟩ := A3.out; have q3 := cell_at (i := 0) hB3 rfl; refine step_append_at (cvW (w2.alloc (Obj.cells #[.int .u8 0] 5)).drew) rfl rfl (.tmp 37) (.tmp 38) 22 22 rfl (.slice oa out.length oc) (.slice (some ⟨w2.heap.size, 0, none⟩) 1 1) rfl rfl hrun3 ?_) | (have hk34 : Keeps (fun _ => False) w3 w4 := (by first | exact hk4 | exact (HCV.out w3).2.2.trans hk4 (fun _ _ e => e)); obtain ⟨a5, n5, c5, w5, hrun5, ho5, hk5, hB5, hr5⟩ := HB.out _ _ _ _ _ ho3 HL1.out hk3 hB3 hk34 ho4.bytes.reads; refine step_append_at w4 rfl rfl (.tmp 39) (.tmp 43) 22 22 rfl (.slice a3 n3 c3) (.slice ta tn tc) rfl rfl hrun5 ?_) | fail)
      all_goals
       go_wp2_with fail
       go_meet
       refine ⟨?_, hk5⟩
       rw [List.append_assoc] at ho5
       exact ho5
     | false =>
      have q1 := cell_at (i := 1) hB rfl
      go_upto_region 11 with fail
      go_cut [4] from 45 to 52 (fun v wx => Owns wx w.heap.size v (out ++ [1] ++ textOf key.toList) ∧ Keeps (fun _ => False) w wx ∧ wx.heap[B]? = some (.cells #[.string key, .bool false, .slice pa val.length pc] 109 (0, 0)))
      case first =>
       have ha0 := fun (W : World) (g : Nat) (hk : Keeps (fun _ => False) w2 W) (hc : W.cell? ⟨g, 0, none⟩ = some (.int .u8 1)) => grow_at (w := w) (W := W) (base := w.heap.size) (v := .slice oa out.length oc) (pv := .slice (some ⟨g, 0, none⟩) 1 1) (l := out) (p := [1]) (by have := (hk2.trans hk (fun _ _ e => e)).size; omega) (ho2.keep hk) (.inr ⟨_, 1, rfl, Nat.le_refl _, by unfold maxLen; omega, fun j u hu => by
        match j, hu with
        | 0, hu => simp at hu; subst hu; rw [Addr.add_zero']; exact hc⟩) (by simp; omega) (hk2.trans hk (fun _ _ e => e)) (Nat.le_refl _) (hk.at hB (fun e => e)) (by decide)
       have hcell : ∀ W : World, (W.alloc (Obj.cells #[.int .u8 1] 5)).cell? ⟨W.heap.size, 0, none⟩ = some (.int .u8 1) := fun W => cell_at (heap_alloc_new W (Obj.cells #[.int .u8 1] 5)) rfl
       have HA := Lib.hid ha0
       have q0a : (w2.alloc (Obj.cells #[.int .u8 1] 5)).drew.cell? ⟨B, 0, none⟩ = some (.string key) := cell_keep (w := w2) q0 (((Keeps.refl _ w2).alloc _).drew)
       have A1 := Lib.hid (ha0 (w2.alloc (Obj.cells #[.int .u8 1] 5)).drew w2.heap.size (((Keeps.refl _ w2).alloc _).drew) (hcell w2))
       have A2 := Lib.hid (ha0 ((cvW w2.drew).alloc (Obj.cells #[.int .u8 1] 5)) (cvW w2.drew).heap.size (((Keeps.refl _ w2).drew.trans (hcv w2.drew).2.2 (fun _ _ e => e)).alloc _) (hcell (cvW w2.drew)))
       have A3 := Lib.hid (ha0 (cvW (w2.alloc (Obj.cells #[.int .u8 1] 5)).drew) w2.heap.size ((((Keeps.refl _ w2).alloc _).drew).trans (hcv _).2.2 (fun _ _ e => e)) (cell_keep (w := (w2.alloc (Obj.cells #[.int .u8 1] 5)).drew) (hcell w2) (hcv _).2.2))
       have HT := Lib.hid (fun (W : World) (sv : Value) (h : Reads W sv key.toList) => text_calls h (by rw [key_len]; have := of_decide_eq_false b2; omega))
       have HB := Lib.hid (fun (W W2 : World) (v1 tv : Value) (l1 : List UInt8) (h1 : Owns W w.heap.size v1 l1) (hl : l1.length ≤ 2000000) (hw : Keeps (fun _ => False) w W) (hW : W.heap[B]? = some (.cells #[.string key, .bool false, .slice pa val.length pc] 109 (0, 0))) (hk : Keeps (fun _ => False) W W2) (ht : Reads W2 tv (textOf key.toList)) => grow_at (w := w) (W := W2) (base := w.heap.size) (v := v1) (pv := tv) (l := l1) (p := textOf key.toList) (hw.trans hk (fun _ _ e => e)).size (h1.keep hk) ht (by have := HKL.out; omega) (hw.trans hk (fun _ _ e => e)) (Nat.le_refl _) (hk.at hW (fun e => e)) (by decide))
       have HCV := Lib.hid hcv
       have HL1 := Lib.hid (show (out ++ [1]).length ≤ 2000000 by simp; omega)
       have HN2 := Lib.hid (show (Value.slice oa out.length oc).ownBlock ≠ some w2.heap.size from fun e => by have := hlt2 _ e; omega)
       have HN3 := Lib.hid (show (Value.slice oa out.length oc).ownBlock ≠ some (w2.heap.size + 1) from fun e => by have := hlt2 _ e; omega)
       have HR2 := Lib.hid (show Reads ((cvW w2.drew).alloc (Obj.cells #[.int .u8 1] 5)) (.slice (some ⟨w2.heap.size, 0, none⟩) key.size (cvC w2.drew)) key.toList from (hcv w2.drew).2.1.keep ((Keeps.refl _ _).alloc _))
       have HR3 := Lib.hid (show Reads (cvW (w2.alloc (Obj.cells #[.int .u8 1] 5)).drew) (.slice (some ⟨w2.heap.size + 1, 0, none⟩) key.size (cvC (w2.alloc (Obj.cells #[.int .u8 1] 5)).drew)) key.toList by have := (hcv (w2.alloc (Obj.cells #[.int .u8 1] 5)).drew).2.1; rw [drew_size, World.size_alloc] at this; exact this)
       clear ha0 hcv hb ho2 hk2 hlt2 hz2 hol hB hcell HINV
       go_wp2_with fail
       go_region_law (first | (refine step_wanted rfl ?_; go_simp; go_at_call 154; refine (HT.out _ _ ?hr).mono ?_; (case hr => first | exact (HCV.out w3).2.1 | exact hr3 _ _ _ _ HR2.out HN2.out | exact hr3 _ _ _ _ HR3.out HN3.out); rintro e w4 ⟨tv, rfl, ho4, hk4⟩; obtain ⟨ta, tn, tc, rfl⟩ := slice_form ho4) | (obtain ⟨a3, n3, c3, w3, hrun3, ho3, hk3, hB3, hr3⟩ := A1.out; have q3 := cell_at (i := 0) hB3 rfl; refine step_append_at ((w2.alloc (Obj.cells #[.int .u8 1] 5)).drew) rfl rfl (.tmp 45) (.tmp 46) 22 22 rfl (.slice oa out.length oc) (.slice (some ⟨w2.heap.size, 0, none⟩) 1 1) rfl rfl hrun3 ?_) | (obtain ⟨a3, n3, c3, w3, hrun3, ho3, hk3, hB3, hr3⟩ := A2.out; have q3 := cell_at (i := 0) hB3 rfl; refine step_append_at ((cvW w2.drew).alloc (Obj.cells #[.int .u8 1] 5)) rfl rfl (.tmp 45) (.tmp 46) 22 22 rfl (.slice oa out.length oc) (.slice (some ⟨(cvW w2.drew).heap.size, 0, none⟩) 1 1) rfl rfl hrun3 ?_) | (obtain ⟨a3, n3, c3, w3, hrun3, ho3, hk3, hB3, hr3⟩ := A3.out; have q3 := cell_at (i := 0) hB3 rfl; refine step_append_at (cvW (w2.alloc (Obj.cells #[.int .u8 1] 5)).drew) rfl rfl (.tmp 45) (.tmp 46) 22 22 rfl (.slice oa out.length oc) (.slice (some ⟨w2.heap.size, 0, none⟩) 1 1) rfl rfl hrun3 ?_) | (have hk34 : Keeps (fun _ => False) w3 w4 := (by first | exact hk4 | exact (HCV.out w3).2.2.trans hk4 (fun _ _ e => e)); obtain ⟨a5, n5, c5, w5, hrun5, ho5, hk5, hB5, hr5⟩ := HB.out _ _ _ _ _ ho3 HL1.out hk3 hB3 hk34 ho4.bytes.reads; refine step_append_at w4 rfl rfl (.tmp 47) (.tmp 51) 22 22 rfl (.slice a3 n3 c3) (.slice ta tn tc) rfl rfl hrun5 ?_) | fail)
       all_goals
        go_wp2_with fail
        go_meet
        exact ⟨ho5, hk5, hB5⟩
      case rest =>
       obtain ⟨ho6, hk6, hB6⟩ := hcut
       have q6 := cell_at (i := 2) hB6 rfl
       have hp6 := HP.out.keep hk6
       have hvl : val.length ≤ 262144 := by have := of_decide_eq_false b3; omega
       have HT := Lib.hid (text_calls hp6 (by omega))
       have htl : (textOf val).length ≤ 300000 := by
        have h1 := countOf_len10 (n := val.length) (by omega)
        unfold textOf; rw [List.length_append]; omega
       have hl6 : (out ++ [1] ++ textOf key.toList).length ≤ 2100000 := by
        have hk' := key_len key
        have h1 := countOf_len10 (n := key.toList.length) (by have := of_decide_eq_false b2; omega)
        have := of_decide_eq_false b2
        unfold textOf
        simp only [List.length_append, List.length_cons, List.length_nil]
        omega
       obtain ⟨a6, n6, c6, rfl⟩ := slice_form ho6
       have HG := Lib.hid (fun (W2 : World) (tv : Value) (hk : Keeps (fun _ => False) wc W2) (ht : Reads W2 tv (textOf val)) => grow_at (w := w) (W := W2) (base := w.heap.size) (v := .slice a6 n6 c6) (pv := tv) (l := out ++ [1] ++ textOf key.toList) (p := textOf val) (hk6.trans hk (fun _ _ e => e)).size (ho6.keep hk) ht (by omega) (hk6.trans hk (fun _ _ e => e)) (Nat.le_refl _) (hk.at hB6 (fun e => e)) (by decide))
       clear ho6 hk6 hB6 hp6 htl hl6 hvl hb HP HINV ho2 hk2 hlt2 hz2 hol hB
       go_wp2_with fail
       refine HT.out.mono ?_
       rintro e w7 ⟨tv, rfl, ho7, hk7⟩
       obtain ⟨a8, n8, c8, w8, hrun8, ho8, hk8, _, _⟩ := HG.out w7 tv hk7 ho7.bytes.reads
       obtain ⟨ta, tn, tc, rfl⟩ := slice_form ho7
       have HRUN := Lib.hid hrun8
       have HO8 := Lib.hid ho8
       have HK8 := Lib.hid hk8
       clear hrun8 ho8 hk8 ho7 hk7 HG HT
       go_wp2_with (first | (at_builtin; refine wpList_append_run rfl _ _ _ _ rfl rfl rfl HRUN.out ?_))
       go_meet
       refine ⟨?_, HK8.out⟩
       have := HO8.out
       simp only [List.append_assoc] at this
       exact this
    case rest =>
     obtain ⟨ho6, hk6⟩ := hcut
     obtain ⟨n6, hn6⟩ : ∃ n, n = (out ++ encCh ⟨key, gone, val⟩).length := ⟨_, rfl⟩
     obtain ⟨a6, c6, rfl, _, _⟩ := ho6.bytes.form
     have hinv := HINV.out
     rw [if_neg hb] at hinv
     rw [← hn6] at hinv ho6 ⊢
     clear HINV HP HO HQ ho2 hk2 hlt2 hz2 hol hb b1 b2 b3 q0 hB
     by_cases hl : 1048568 < n6
     ·rw [if_pos hl] at hinv
      have bl : decide ((1048568 : Int) < (n6 : Int)) = true := decide_eq_true (by omega)
      clear hl hn6
      go_wp2_with fail
      go_ret2
      exact ⟨_, rfl, Owns.nil _ _, hk6⟩
     ·rw [if_neg hl] at hinv
      have bl : decide ((1048568 : Int) < (n6 : Int)) = false := decide_eq_false (by omega)
      have HREL := Lib.hid (⟨k + 1, out ++ encCh ⟨key, gone, val⟩, by omega, rfl, ho6, hinv, by omega, hk6⟩ : ∃ (k' : Nat) (out' : List UInt8), k' ≤ l.length ∧ Value.int .i64 ((k + 1 : Nat) : Int) = .int .i64 (k' : Int) ∧ Owns wc w.heap.size (.slice a6 n6 c6) out' ∧ encFrom l (countOf l.length) = encFrom (l.drop k') out' ∧ out'.length ≤ 1048568 ∧ Keeps (fun _ => False) w wc)
      clear ho6 hinv hk6 hn6 hl
      go_wp2_with fail
      go_roundw
      case rel => exact HREL.out
      case measure => simp [intOf]; omega
  ·obtain rfl : k = l.length := by omega
   rw [List.drop_length] at hinv
   have hfin : EncPost w (encFrom l (countOf l.length)) (.returned (.tuple #[.slice oa out.length oc, .int .i64 0])) wr := ⟨_, by rw [hinv]; rfl, by rw [hinv]; exact ho, hq⟩
   have HFIN := Lib.hid hfin
   clear hfin hinv ho hq hol hlt hk
   go_wp2_with fail
   go_ret2
   exact HFIN.out
end Go.Proofs.YtlcnhpjggjgnpaaGreatDoor
