/- A part of the proof. -/
import Derived.Test.YtddnikpdmjogiaaGreatYa8
namespace Go.Proofs.YtddnikpdmjogiaaGreat
open Go.RowKit Go.MapKept
set_option maxRecDepth 100000 in
set_option maxHeartbeats 1000000 in
theorem rscan_calls {w : World} {v : Value} {l : List UInt8} (h : Reads w v l) (hb : l.length ≤ 1099511627776) : Calls Tryz.prog 87 #[v] w (RPost w (scanOf l).1 ((scanOf l).2 : Int)) := by
 obtain ⟨a, c, rfl, hc1, hc2⟩ := h.form
 have H := hyd h
 unfold maxLen at hc2
 clear h
 go_enter Tryz.func87, Tryz.ntmps87
 go_wp2_with fail
 go_loopw [4, 5] (fun ov i wr => ∃ (f k : Nat) (done : List (List UInt8)), i = .int .i64 (k : Int) ∧ ScanSt l f k done ∧ OwnsRecs wr w.heap.size ov done ∧ Keeps (fun _ => False) w wr) (fun _ i _ => l.length - (intOf i).toNat)
 case atStart => exact ⟨_, 0, [], rfl, ScanSt.start l, OwnsRecs.nil _ _, Keeps.refl _ _⟩
 case round =>
  obtain ⟨f, k, done, rfl, hst, hrs, hq⟩ := hrel
  obtain ⟨oa, oc, rfl⟩ := hrs.form
  have HST := hyd hst
  have HRS := hyd hrs
  have HQ := hyd hq
  have hle := hst.le
  clear hst hrs hq
  have i2 : (0 : Int) ≤ k := by omega
  have i2a : (k : Int) ≤ l.length := by omega
  have i4 : (l.length : Int) ≤ 1099511627776 := by omega
  by_cases h8 : k + 8 ≤ l.length
  ·have h4 : k + 4 ≤ l.length := by omega
   obtain ⟨x, rfl⟩ : ∃ x, a = some x := by
    rcases H.out with ⟨e, e2⟩ | ⟨x, c', e, _⟩
    ·subst e2; simp at h8
    ·cases e; exact ⟨x, rfl⟩
   have b0 : decide ((8 : Int) ≤ (l.length : Int) - k) = true := decide_eq_true (by omega)
   have hp4 : Reads wr _ _ := (H.out.keep HQ.out).cut k 4 h4
   have hg := rget_calls hp4 (by simp; omega)
   have hsl0 := slice_run wr x l.length c k 4 (by omega)
   have hlt1 := wordOf_lt l k h4
   change Calls _ _ _ _ (QuietP wr (.tuple #[.int .u64 (wordOf l k : Int), .bool true])) at hg
   push_cast at hsl0
   generalize (if c = k then x else x.add k) = y0 at hsl0 hg
   have HG := hyd hg
   have HSL0 := hyd hsl0
   clear hp4 hg hsl0
   by_cases hbig : wordOf l k ≤ 1048576 ∧ k + 8 + wordOf l k ≤ l.length
   ·obtain ⟨hn1, hn2⟩ := hbig
    have hcut := H.out.cut (k + 8) (wordOf l k) hn2
    have hcut2 := H.out.cut k (8 + wordOf l k) (by omega)
    have hstop := HST.out.stop
    have hstep := HST.out.step
    have hfr : FrameAt l k ↔ crcOf (putOf (wordOf l k) 4 ++ recAt l k) = wordOf l (k + 4) := ⟨fun h => h.2.2.2, fun h => ⟨h8, hn1, hn2, h⟩⟩
    rw [← frame_eq h8 hn2] at hfr
    rw [hfr] at hstop hstep
    have hrl := recAt_length hn2
    have hml : ((l.drop k).take (8 + wordOf l k)).length = 8 + wordOf l k := by simp; omega
    change Reads w _ (recAt l k) at hcut
    generalize (l.drop k).take (8 + wordOf l k) = m at hcut2 hstop hstep hfr hml
    generalize recAt l k = r at hcut hstop hstep hfr hrl
    generalize wordOf l k = z at HG hlt1 hcut hcut2 hstop hstep hfr hrl hn1 hn2 hml
    have HSTOP := hyd hstop
    have HSTEP := hyd hstep
    have HRL := hyd hrl
    have HML := hyd hml
    have hsl := fun w2 => slice_run w2 x l.length c (k + 8) z (by omega)
    have hsl2 := fun w2 => slice_run w2 x l.length c k (8 + z) (by omega)
    push_cast at hsl hsl2
    rw [← Int.add_assoc] at hsl2
    generalize (if c = k + 8 then x else x.add (k + 8)) = y at hsl hcut
    generalize (if c = k then x else x.add k) = y2 at hsl2 hcut2
    have HCUT := hyd hcut
    have HCUT2 := hyd hcut2
    have HSL := hyd hsl
    have HSL2 := hyd hsl2
    have i0 : (0 : Int) ≤ z := by omega
    have b1 : decide ((1048576 : Int) < (z : Int)) = false := decide_eq_false (by omega)
    have i3 : (k : Int) + 8 + z ≤ l.length := by omega
    have b2 : decide ((l.length : Int) - k - 8 < z) = false := decide_eq_false (by omega)
    have i6 : (l.length : Int) ≤ c := by omega
    have i7 : (z : Int) < 4294967296 := by omega
    clear hstop hstep hcut hcut2 hrl hfr hle hb h4 h8 hn1 hn2 hc1 hc2 hlt1 hsl hsl2 hml
    go_wp2_with (refine wpList_slice_run rfl _ _ _ _ rfl rfl rfl rfl HSL0.out ?_)
    refine HG.out.mono ?_
    rintro e w1 ⟨rfl, hk1⟩
    have HK := hyd hk1
    have HSLa := hyd (HSL.out w1)
    clear hk1 HSL HG HSL0
    go_wp2_with (refine wpList_slice_run rfl _ _ _ _ rfl rfl rfl rfl HSLa.out ?_)
    have hk01 : Keeps (fun _ => False) w w1 := HQ.out.trans HK.out (fun _ _ e => e)
    have htw := twin_calls (HCUT.out.keep hk01) (by rw [HRL.out]; omega)
    refine htw.mono ?_
    rintro e w2 ⟨v2, rfl, ho2, hk2⟩
    have hk02 : Keeps (fun _ => False) w w2 := hk01.trans hk2 (fun _ _ e => e)
    have hfm := rframe_calls ho2.bytes.reads (by rw [HRL.out]; omega)
    obtain ⟨a2, c2, rfl, _, _⟩ := ho2.bytes.form
    rw [HRL.out] at hfm ho2 ⊢
    have HO2 := hyd ho2
    have HK2 := hyd hk2
    have HK02 := hyd hk02
    clear hk01 htw ho2 hk2 hk02
    go_wp2_with fail
    refine hfm.mono ?_
    rintro e w3 ⟨v3, rfl, ho3, hk3⟩
    have hk03 : Keeps (fun _ => False) w w3 := HK02.out.trans hk3 (fun _ _ e => e)
    have hcut2 := HCUT2.out.keep hk03
    have hsame := same_calls ho3.bytes.reads hcut2
    obtain ⟨a3, c3, rfl, _, _⟩ := ho3.bytes.form
    generalize hfl : (frameOf r).length = fl at hsame
    have HSLb := hyd (HSL2.out w3)
    have HSM := hyd hsame
    have HK3 := hyd hk3
    have HK03 := hyd hk03
    clear hfm ho3 hk3 hk03 hcut2 hsame hfl HSL2 HCUT2
    go_wp2_with (refine wpList_slice_run rfl _ _ _ _ rfl rfl rfl rfl HSLb.out ?_)
    refine HSM.out.mono ?_
    rintro e w4 ⟨rfl, hk4⟩
    have HK4 := hyd (HK3.out.trans hk4 (fun _ _ e => e))
    have hk04 : Keeps (fun _ => False) w w4 := HK03.out.trans hk4 (fun _ _ e => e)
    clear hk4 HSM HK3
    by_cases hfm : frameOf r = m
    ·have hs2 := HSTEP.out hfm
     have e1 : decide (frameOf r = m) = true := decide_eq_true hfm
     have hkr4 : Keeps (fun _ => False) wr w4 := (HK.out.trans HK2.out (fun _ _ e => e)).trans HK4.out (fun _ _ e => e)
     have ho2 : Owns w4 wr.heap.size (.slice a2 z c2) r := Owns.keep (v := .slice a2 z c2) (HO2.out.base HK.out.size) HK4.out
     obtain ⟨v7, w7, hrun7, ho7, hk7⟩ := HRS.out.push HQ.out.size hkr4 ho2 (by have := HST.out.few; have := HST.out.le; omega)
     have hk57 : Keeps (fun _ => False) w w7 := hk04.trans hk7 (fun b hb e => by
      obtain ⟨ps, h1, _⟩ := HRS.out
      have := row_lt h1 b e; omega)
     obtain ⟨a7, c7, rfl⟩ := ho7.form
     have HR7 := hyd hrun7
     have HREL := hyd (⟨f - 1, k + 8 + z, done ++ [r], rfl, hs2, ho7, hk57⟩ : ∃ (f' k' : Nat) (done' : List (List UInt8)), Value.int .i64 ((k + 8 + z : Nat) : Int) = .int .i64 (k' : Int) ∧ ScanSt l f' k' done' ∧ OwnsRecs w7 w.heap.size (.slice a7 (done ++ [r]).length c7) done' ∧ Keeps (fun _ => False) w w7)
     rw [e1]
     clear hrun7 ho7 ho2 hk7 hk57 hk04 hs2 HSTOP HSTEP hfm e1 hkr4
     go_wp2_with (at_builtin; (first | (refine wpList_append_run (w := w4.alloc (.cells #[.slice a2 z c2] 36)) rfl _ _ _ _ rfl rfl rfl HR7.out ?_)))
     go_roundw
     case rel => have h := HREL.out; simp only [List.length_append, List.length_cons, List.length_nil, Nat.zero_add] at h; exact h
     case measure => simp [intOf]; omega
    ·have hfin := HSTOP.out hfm
     have HF := hyd hfin
     have e1 : decide (frameOf r = m) = false := decide_eq_false hfm
     rw [e1]
     clear hfin hfm HSTOP HSTEP i7 e1 hk04
     go_wp2_with fail
     go_ret2
     exact RPost.mk (v := .slice oa done.length oc) HF.out (HRS.out.keep ((HK.out.trans HK2.out (fun _ _ e => e)).trans HK4.out (fun _ _ e => e))) (HK02.out.trans HK4.out (fun _ _ e => e))
   ·have hfin := HST.out.stop (fun hf => hbig ⟨hf.2.1, hf.2.2.1⟩)
    have HF := hyd hfin
    generalize wordOf l k = z at HG hlt1 hbig
    have i7 : (z : Int) < 4294967296 := by omega
    have i0 : (0 : Int) ≤ z := by omega
    have i3 : (k : Int) + 8 ≤ l.length := by omega
    have i6 : (l.length : Int) ≤ c := by omega
    have fin : ∀ w1 : World, Keeps (fun _ => False) wr w1 → RPost w (scanOf l).1 ((scanOf l).2 : Int) (.returned (.tuple #[.slice oa done.length oc, .int .i64 (k : Int)])) w1 := fun w1 hk1 => RPost.mk HF.out (HRS.out.keep hk1) (HQ.out.trans hk1 (fun _ _ e => e))
    have FIN := hyd fin
    clear fin hfin
    by_cases hz : z ≤ 1048576
    ·have b1 : decide ((1048576 : Int) < (z : Int)) = false := decide_eq_false (by omega)
     have b2 : decide ((l.length : Int) - k - 8 < z) = true := decide_eq_true (by omega)
     clear h4 h8 hbig hlt1 hz hle hb hc1 hc2
     go_wp2_with (refine wpList_slice_run rfl _ _ _ _ rfl rfl rfl rfl HSL0.out ?_)
     refine HG.out.mono ?_
     rintro e w1 ⟨rfl, hk1⟩
     have HK := hyd hk1
     clear hk1
     go_wp2_with fail
     go_ret2
     exact FIN.out _ HK.out
    ·have b1 : decide ((1048576 : Int) < (z : Int)) = true := decide_eq_true (by omega)
     clear h4 h8 hbig hlt1 hz hle hb hc1 hc2
     go_wp2_with (refine wpList_slice_run rfl _ _ _ _ rfl rfl rfl rfl HSL0.out ?_)
     refine HG.out.mono ?_
     rintro e w1 ⟨rfl, hk1⟩
     have HK := hyd hk1
     clear hk1
     go_wp2_with fail
     go_ret2
     exact FIN.out _ HK.out
  ·have hfin := HST.out.stop (by unfold FrameAt; omega)
   have HF := hyd hfin
   have b0 : decide ((8 : Int) ≤ (l.length : Int) - k) = false := decide_eq_false (by omega)
   clear hfin h8
   go_wp2_with fail
   go_ret2
   exact RPost.mk (v := .slice oa done.length oc) HF.out HRS.out HQ.out
end Go.Proofs.YtddnikpdmjogiaaGreat
