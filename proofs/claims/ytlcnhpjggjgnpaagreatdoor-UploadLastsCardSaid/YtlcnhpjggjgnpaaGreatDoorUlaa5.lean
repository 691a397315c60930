/- A part of the proof. -/
import Derived.Test.YtlcnhpjggjgnpaaGreatDoorUlaa2
import Derived.Outline
namespace Go.Proofs.YtlcnhpjggjgnpaaGreatDoor
open Go.RowKit Go.MapKept
structure ScanSt (l : List UInt8) (f a : Nat) (done : List (List UInt8)) : Prop where
 fuel : l.length < a + f
 le : a ≤ l.length
 few : 8 * done.length ≤ a
 recs : done ++ (scanFrom l f a).1 = (scanOf l).1
 used : (scanFrom l f a).2 = (scanOf l).2
theorem ScanSt.start (l : List UInt8) : ScanSt l (l.length + 1) 0 [] := ⟨by omega, Nat.zero_le _, Nat.le_refl _, rfl, rfl⟩
theorem ScanSt.stop {l : List UInt8} {f a : Nat} {done : List (List UInt8)} (h : ScanSt l f a done) (hn : ¬ FrameAt l a) : done = (scanOf l).1 ∧ a = (scanOf l).2 := by
 obtain ⟨h1, h2, h3, h4, h5⟩ := h
 match f, h1, h4, h5 with
 | f + 1, _, h4, h5 =>
  rw [scanFrom, if_neg hn] at h4 h5
  exact ⟨by simpa using h4, h5⟩
 | 0, h1, _, _ => omega
theorem ScanSt.step {l : List UInt8} {f a : Nat} {done : List (List UInt8)} (h : ScanSt l f a done) (hy : FrameAt l a) : ScanSt l (f - 1) (a + 8 + wordOf l a) (done ++ [recAt l a]) := by
 obtain ⟨h1, h2, h3, h4, h5⟩ := h
 match f, h1, h4, h5 with
 | f + 1, h1, h4, h5 =>
  rw [scanFrom, if_pos hy] at h4 h5
  have := hy.2.2.1
  refine ⟨by simp only [Nat.add_sub_cancel]; omega, this, by simp; omega, ?_, h5⟩
  rw [List.append_assoc]
  exact h4
 | 0, h1, _, _ => omega
theorem Reads.cut {w : World} {x : Addr} {n c : Nat} {l : List UInt8} (h : Reads w (.slice (some x) n c) l) (i j : Nat) (hij : i + j ≤ l.length) : Reads w (.slice (some (if c = i then x else x.add i)) j (c - i)) ((l.drop i).take j) := by
 have hl : ((l.drop i).take j).length = j := by simp; omega
 rcases h with ⟨e, _⟩ | ⟨x', c', e, h1, h2, h3⟩
 ·cases e
 ·cases e
  refine .inr ⟨_, _, by rw [hl], by omega, by omega, fun k u hu => ?_⟩
  rw [List.getElem?_map, List.getElem?_take] at hu
  split at hu
  ·rename_i hk
   have hne : ¬ c = i := by omega
   rw [if_neg hne]
   rw [List.getElem?_drop] at hu
   rw [Addr.add_add]
   exact h3 _ _ (by rw [List.getElem?_map]; exact hu)
  ·cases hu
theorem wpList_slice_run {P : Program} {w : World} {ops : Array Oper} {o : Oper} {rest : List Oper} {a : Act} {Q : Exit → Act → World → Prop}
  (hg : o.guard = none) (x lo hi : Operand) (t : TypeId) (hop : o.op = Op.slice t x (some lo) (some hi) none)
  {xv lv hv v' : Value} (hx : a.eval x = xv) (hl : a.eval lo = lv) (hh : a.eval hi = hv) (hrun : (Instr.sliceAt t xv (some lv) (some hv) none).run P w = .ok v' w)
  (hK : wpList P ops Q rest (a.put o.dst v') w) : wpList P ops Q (o :: rest) a w := by
 refine wpList_plain hg fun K hK' => ?_
 unfold Oper.wp
 simp [execOp, hop, hx, hl, hh, hrun, Result.andThen]
 exact hK' _ _ hK
theorem elem_bytes : Tryz.prog.underlying 22 = some (.slice (Tryz.prog.elem 22)) := by kernel_rfl
theorem size_u8 (w : World) : (sizeOf (Tryz.prog.elem 22)).run Tryz.prog w = .ok 1 w := by kernel_rfl
theorem slice_run (w : World) (x : Addr) (n c i j : Nat) (h1 : i + j ≤ c) :
  (Instr.sliceAt 22 (.slice (some x) n c) (some (.int .i64 (i : Int))) (some (.int .i64 ((i : Int) + (j : Int)))) none).run Tryz.prog w = .ok (.slice (some (if c = i then x else x.add i)) j (c - i)) w := by
 rw [run_sliceAt_slice _ _ _ _ _ _ elem_bytes, run_slice_lh w 22 (some x) n c elem_bytes .i64 .i64 (i : Int) ((i : Int) + j) (by omega) (by omega) (by omega), size_u8]
 have e3 : ((i : Int) + j).toNat = i + j := by omega
 simp only [Result.andThen, sliced, e3, Int.toNat_natCast, Nat.mul_one, Option.map_some, Nat.add_sub_cancel_left]
 split <;> rfl
theorem RPost.mk {w w2 : World} {v : Value} {done : List (List UInt8)} {k : Nat} {T : List (List UInt8) × Nat} (h : done = T.1 ∧ k = T.2) (ho : OwnsRecs w2 w.heap.size v done) (hk : Keeps (fun _ => False) w w2) : RPost w T.1 (T.2 : Int) (.returned (.tuple #[v, .int .i64 (k : Int)])) w2 := by
 obtain ⟨rfl, rfl⟩ := h
 exact ⟨v, rfl, ho, hk⟩
set_option maxRecDepth 100000 in
set_option maxHeartbeats 1000000 in
theorem scan_calls {w : World} {v : Value} {l : List UInt8} (h : Reads w v l) (hb : l.length ≤ 1099511627776) : Calls Tryz.prog 119 #[v] w (RPost w (scanOf l).1 ((scanOf l).2 : Int)) := by
 obtain ⟨a, c, rfl, hc1, hc2⟩ := h.form
 have H := Lib.hid h
 unfold maxLen at hc2
 clear h
 go_enter Tryz.func119, Tryz.ntmps119
 go_wp2_with fail
 go_loopw [4, 5] (fun ov i wr => ∃ (f k : Nat) (done : List (List UInt8)), i = .int .i64 (k : Int) ∧ ScanSt l f k done ∧ OwnsRecs wr w.heap.size ov done ∧ Keeps (fun _ => False) w wr) (fun _ i _ => l.length - (intOf i).toNat)
 case atStart => exact ⟨_, 0, [], rfl, ScanSt.start l, OwnsRecs.nil _ _, Keeps.refl _ _⟩
 case round =>
  obtain ⟨f, k, done, rfl, hst, hrs, hq⟩ := hrel
  obtain ⟨oa, oc, rfl⟩ := hrs.form
  have HST := Lib.hid hst
  have HRS := Lib.hid hrs
  have HQ := Lib.hid hq
  have hle := hst.le
  clear hst hrs hq
  by_cases h4 : k + 4 ≤ l.length
  ·by_cases h8 : k + 8 ≤ l.length
   ·have hw1 := word_calls (H.out.keep HQ.out) k h4
    have hlt1 := wordOf_lt l k h4
    obtain ⟨x, rfl⟩ : ∃ x, a = some x := by
     rcases H.out with ⟨e, e2⟩ | ⟨x, c', e, _⟩
     ·subst e2; simp at h8
     ·cases e; exact ⟨x, rfl⟩
    by_cases hbig : wordOf l k ≤ 1048576 ∧ k + 8 + wordOf l k ≤ l.length
    ·obtain ⟨hn1, hn2⟩ := hbig
     have hcut := H.out.cut (k + 8) (wordOf l k) hn2
     have hstop := HST.out.stop
     have hstep := HST.out.step
     have hfr : FrameAt l k ↔ crcOf (putOf (wordOf l k) 4 ++ recAt l k) = wordOf l (k + 4) := ⟨fun h => h.2.2.2, fun h => ⟨h8, hn1, hn2, h⟩⟩
     rw [hfr] at hstop hstep
     have hrl := recAt_length hn2
     have hw2 : ∀ w1 : World, Keeps (fun _ => False) wr w1 → Calls Tryz.prog 157 #[.slice (some x) l.length c, .int .i64 ((k : Int) + 4)] w1 (QuietP w1 (.tuple #[.int .u32 (wordOf l (k + 4) : Int), .bool true])) := fun w1 hk1 => by
      have := word_calls (H.out.keep (HQ.out.trans hk1 (fun _ _ e => e))) (k + 4) (by omega)
      push_cast at this; exact this
     have hlt2 := wordOf_lt l (k + 4) (by omega)
     change Reads w _ (recAt l k) at hcut
     generalize wordOf l (k + 4) = z2 at hw2 hlt2 hstop hstep hfr
     generalize recAt l k = r at hcut hstop hstep hfr hrl
     generalize wordOf l k = z at hw1 hlt1 hcut hstop hstep hfr hrl hn1 hn2
     have HSTOP := Lib.hid hstop
     have HSTEP := Lib.hid hstep
     have HW := Lib.hid hw2
     have HCUT := Lib.hid hcut
     have HRL := Lib.hid hrl
     have i0 : (0 : Int) ≤ z := by omega
     have b1 : decide ((1048576 : Int) < (z : Int)) = false := decide_eq_false (by omega)
     have i2 : (0 : Int) ≤ k := by omega
     have i3 : (k : Int) + 8 + z ≤ l.length := by omega
     have i4 : (l.length : Int) ≤ 1099511627776 := by omega
     have b2 : decide ((l.length : Int) - k - 8 < z) = false := decide_eq_false (by omega)
     have i6 : (l.length : Int) ≤ c := by omega
     have i7 : (z : Int) < 4294967296 := by omega
     have i8 : (z2 : Int) < 4294967296 := by omega
     have i9 : (0 : Int) ≤ z2 := by omega
     have hput := fun w2 => put_calls w2 z 4 (by omega) (by omega)
     clear hstop hstep hw2 hcut hrl hfr hle hb h4 h8 hn1 hn2 hlt2 hc1 hc2
     go_wp2_with fail
     refine hw1.mono ?_
     rintro e w1 ⟨rfl, hk1⟩
     have hw2' := HW.out w1 hk1
     have HK := Lib.hid hk1
     clear hk1
     go_wp2_with fail
     refine hw2'.mono ?_
     rintro e w2 ⟨rfl, hk2⟩
     have hkk : Keeps (fun _ => False) wr w2 := HK.out.trans hk2 (fun _ _ e => e)
     have HK2 := Lib.hid hkk
     have HP := Lib.hid (hput w2)
     have hsl := slice_run w2 x l.length c (k + 8) z (by omega)
     push_cast at hsl
     generalize (if c = k + 8 then x else x.add (k + 8)) = y at hsl HCUT
     have HSL := Lib.hid hsl
     clear hk2 hkk hw1 hw2' hlt1 HW hput hsl
     go_wp2_with (refine wpList_slice_run rfl _ _ _ _ rfl rfl rfl rfl HSL.out ?_)
     refine HP.out.mono ?_
     rintro e w3 ⟨v3, rfl, ho3, hk3⟩
     have hl3 : (putOf z 4).length = 4 := putOf_length _ _
     have hk03 : Keeps (fun _ => False) w w3 := (HQ.out.trans HK2.out (fun _ _ e => e)).trans hk3 (fun _ _ e => e)
     have hz3 := hk03.size
     have hz23 := hk3.size
     obtain ⟨v4, w4, hrun4, ho4, hk4⟩ := ho3.grow hz23 (HCUT.out.keep hk03) (by rw [hl3, HRL.out]; omega)
     have hk34 : Keeps (fun _ => False) w2 w4 := hk3.trans hk4 (fun b hb e => by have := owns_lt ho3 b e; omega)
     have hcrc := crc_calls ho4.bytes.reads
     obtain ⟨a3, c3, rfl, _, _⟩ := ho3.bytes.form
     obtain ⟨a4, c4, rfl, _, _⟩ := ho4.bytes.form
     have hlt3 := crcOf_lt (putOf z 4 ++ r)
     rw [List.length_append, hl3] at hrun4 hcrc
     rw [hl3]
     rw [HRL.out] at hrun4 hcrc
     generalize crcOf (putOf z 4 ++ r) = cc at hcrc hlt3 HSTOP HSTEP
     have HR4 := Lib.hid hrun4
     have HC := Lib.hid hcrc
     have HK4 := Lib.hid (HK2.out.trans hk34 (fun _ _ e => e))
     have i10 : (cc : Int) < 4294967296 := by omega
     have i11 : (0 : Int) ≤ cc := by omega
     clear hrun4 ho3 ho4 hk3 hk4 hk34 hcrc hlt3 hl3 hk03 hz3 hz23
     go_wp2_with (at_builtin; refine wpList_append_run (w := w3) rfl _ _ _ _ rfl rfl rfl HR4.out ?_)
     refine HC.out.mono ?_
     rintro e w5 ⟨rfl, hk5⟩
     have HK5 := Lib.hid (HK4.out.trans hk5 (fun _ _ e => e))
     clear hk5 HC HR4 HK4
     by_cases hcc : cc = z2
     ·have hs2 := HSTEP.out hcc
      have hk05 : Keeps (fun _ => False) w w5 := HQ.out.trans HK5.out (fun _ _ e => e)
      obtain ⟨v6, w6, hrun6, ho6, hk6⟩ := copy_run (HCUT.out.keep hk05) (by rw [HRL.out]; omega)
      obtain ⟨v7, w7, hrun7, ho7, hk7⟩ := (HRS.out.keep HK5.out).push hk05.size hk6 ho6 (by have := HST.out.few; have := HST.out.le; omega)
      have hk57 : Keeps (fun _ => False) w w7 := (hk05.trans hk6 (fun _ _ e => e)).trans hk7 (fun b hb e => by
       obtain ⟨ps, h1, _⟩ := HRS.out
       have := row_lt h1 b e; omega)
      obtain ⟨a6, c6, rfl, _, _⟩ := ho6.bytes.form
      obtain ⟨a7, c7, rfl⟩ := ho7.form
      rw [HRL.out] at hrun6 hrun7
      have HR6 := Lib.hid hrun6
      have HR7 := Lib.hid hrun7
      have HREL := Lib.hid (⟨f - 1, k + 8 + z, done ++ [r], congrArg (Value.int .i64) (by omega), hs2, ho7, hk57⟩ : ∃ (f' k' : Nat) (done' : List (List UInt8)), Value.int .i64 ((k : Int) + (8 + (z : Int))) = .int .i64 (k' : Int) ∧ ScanSt l f' k' done' ∧ OwnsRecs w7 w.heap.size (.slice a7 (done ++ [r]).length c7) done' ∧ Keeps (fun _ => False) w w7)
      subst hcc
      clear hrun6 hrun7 ho6 ho7 hk6 hk7 hk57 hk05 hs2 HSTOP HSTEP
      go_wp2_with (at_builtin; (first | (refine wpList_append_run (w := w5.alloc (.cells #[] 5)) rfl _ _ _ _ rfl rfl rfl HR6.out ?_) | (refine wpList_append_run (w := w6.alloc (.cells #[.slice a6 z c6] 22)) rfl _ _ _ _ rfl rfl rfl HR7.out ?_)))
      go_roundw
      case rel => have h := HREL.out; simp only [List.length_append, List.length_cons, List.length_nil, Nat.zero_add] at h; exact h
      case measure => simp [intOf]; omega
     ·have hfin := HSTOP.out hcc
      have HF := Lib.hid hfin
      have b3 : ¬ (cc : Int) = (z2 : Int) := by omega
      clear hfin hcc HSTOP HSTEP i7 i8 i9 i10 i11
      go_wp2_with fail
      go_ret2
      exact RPost.mk (v := .slice oa done.length oc) HF.out (HRS.out.keep HK5.out) (HQ.out.trans HK5.out (fun _ _ e => e))
    ·have hfin := HST.out.stop (fun hf => hbig ⟨hf.2.1, hf.2.2.1⟩)
     have HF := Lib.hid hfin
     have hw2 : ∀ w1 : World, Keeps (fun _ => False) wr w1 → Calls Tryz.prog 157 #[.slice (some x) l.length c, .int .i64 ((k : Int) + 4)] w1 (QuietP w1 (.tuple #[.int .u32 (wordOf l (k + 4) : Int), .bool true])) := fun w1 hk1 => by
      have := word_calls (H.out.keep (HQ.out.trans hk1 (fun _ _ e => e))) (k + 4) (by omega)
      push_cast at this; exact this
     have HW := Lib.hid hw2
     have hlt2 := wordOf_lt l (k + 4) (by omega)
     generalize wordOf l (k + 4) = z2 at HW hlt2
     generalize wordOf l k = z at hw1 hlt1 hbig
     clear hfin hw2
     go_wp2_with fail
     refine hw1.mono ?_
     rintro e w1 ⟨rfl, hk1⟩
     have hw2' := HW.out w1 hk1
     have HK := Lib.hid hk1
     clear hk1
     go_wp2_with fail
     refine hw2'.mono ?_
     rintro e w2 ⟨rfl, hk2⟩
     have HK2 := Lib.hid hk2
     clear hk2
     have i0 : (0 : Int) ≤ z := by omega
     have i1 : (z : Int) < 4294967296 := by omega
     have i2 : (0 : Int) ≤ k := by omega
     have i3 : (k : Int) + 8 ≤ l.length := by omega
     have i4 : (l.length : Int) ≤ 1099511627776 := by omega
     by_cases hz : z ≤ 1048576
     ·have hz2 : (l.length : Int) - k - 8 < z := by omega
      have hz1 : ¬ (1048576 : Int) < z := by omega
      clear h4 h8 hbig hlt1 hlt2 hz hle hb hc1 hc2
      go_wp2_with fail
      go_ret2
      exact RPost.mk (v := .slice oa done.length oc) HF.out ((HRS.out.keep HK.out).keep HK2.out) ((HQ.out.trans HK.out (fun _ _ e => e)).trans HK2.out (fun _ _ e => e))
     ·have hz1 : (1048576 : Int) < z := by omega
      clear h4 h8 hbig hlt1 hlt2 hz hle hb hc1 hc2
      go_wp2_with fail
      go_ret2
      exact RPost.mk (v := .slice oa done.length oc) HF.out ((HRS.out.keep HK.out).keep HK2.out) ((HQ.out.trans HK.out (fun _ _ e => e)).trans HK2.out (fun _ _ e => e))
   ·have hfin := HST.out.stop (by unfold FrameAt; omega)
    have HF := Lib.hid hfin
    have hw1 := word_calls (H.out.keep HQ.out) k h4
    have hlt1 := wordOf_lt l k h4
    generalize wordOf l k = z at hw1 hlt1
    clear hfin
    go_wp2_with fail
    refine hw1.mono ?_
    rintro e w1 ⟨rfl, hk1⟩
    have hw2 := word_none (H.out.keep (HQ.out.trans hk1 (fun _ _ e => e))) ((k : Int) + 4) (by omega) (by omega)
    have HK := Lib.hid hk1
    clear hk1
    go_wp2_with fail
    refine hw2.mono ?_
    rintro e w2 ⟨rfl, hk2⟩
    have HK2 := Lib.hid hk2
    clear hk2 h4 h8
    go_wp2_with fail
    go_ret2
    exact RPost.mk (v := .slice oa done.length oc) HF.out ((HRS.out.keep HK.out).keep HK2.out) ((HQ.out.trans HK.out (fun _ _ e => e)).trans HK2.out (fun _ _ e => e))
  ·have hfin := HST.out.stop (by unfold FrameAt; omega)
   have HF := Lib.hid hfin
   have hw1 := word_none (H.out.keep HQ.out) (k : Int) (by omega) (by omega)
   clear hfin
   go_wp2_with fail
   refine hw1.mono ?_
   rintro e w1 ⟨rfl, hk1⟩
   have hw2 := word_none (H.out.keep (HQ.out.trans hk1 (fun _ _ e => e))) ((k : Int) + 4) (by omega) (by omega)
   have HK := Lib.hid hk1
   clear hk1
   go_wp2_with fail
   refine hw2.mono ?_
   rintro e w2 ⟨rfl, hk2⟩
   have HK2 := Lib.hid hk2
   clear hk2
   go_wp2_with fail
   go_ret2
   exact RPost.mk (v := .slice oa done.length oc) HF.out ((HRS.out.keep HK.out).keep HK2.out) ((HQ.out.trans HK.out (fun _ _ e => e)).trans HK2.out (fun _ _ e => e))
end Go.Proofs.YtlcnhpjggjgnpaaGreatDoor
