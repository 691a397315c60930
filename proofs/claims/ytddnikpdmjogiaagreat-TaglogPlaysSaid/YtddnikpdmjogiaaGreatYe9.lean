/- A part of the proof. -/
import Derived.Test.YtddnikpdmjogiaaGreatYd8
import Derived.Test.YtddnikpdmjogiaaGreatYe8
namespace Go.Proofs.YtddnikpdmjogiaaGreat
set_option linter.unusedVariables false
open Go.RowKit Go.MapKept Go.Deep
section
variable {H : Type} {enc : TypeId × Value → H}
theorem in_tchsV {W : World} {n : Nat} {v : Value} {y : DataW H × List MemPlace} (h : DataW.trod enc Tryz.prog W 0 (fun _ => true) true n 22 [v] = some y) : ∃ (l : List TCh) (a : Option Addr) (c : Nat), v = .slice a l.length c ∧ l.length ≤ c ∧ c ≤ maxLen ∧ TChsIn W a l := by
 have hv : ∃ a len cap, v = .slice a len cap := by
  rcases Go.Deep.open_slice Tryz.underlying22 h with ⟨hcs, _⟩ | ⟨x, l, c, m, n, D, Pl, hcs, _⟩
  ·simp at hcs; exact ⟨_, _, _, hcs⟩
  ·simp at hcs; exact ⟨_, _, _, hcs⟩
 obtain ⟨a, len, cap, rfl⟩ := hv
 obtain ⟨h1, h2, l, rfl, h3⟩ := in_tchs (enc := enc) (W := W) (a := a) (len := len) (cap := cap) (d := y.1) (p := y.2) ⟨n, h⟩
 exact ⟨l, a, cap, rfl, h1, h2, h3⟩
end
end Go.Proofs.YtddnikpdmjogiaaGreat
namespace Go.Proofs.YtddnikpdmjogiaaGreat
set_option linter.unusedVariables false
open Go.RowKit Go.MapKept Go.Deep
structure OpG where
 kind : Int
 p : List UInt8
 l : List TCh
 n : Int
 m : Int
section
variable {H : Type} {enc : TypeId × Value → H}
def OpsGIn (W : World) (a : Option Addr) (len : Nat) : Prop := ∀ i, i < len → ∃ (x : Addr) (o : OpG) (pv : Value) (la : Option Addr) (lc : Nat), a = some x ∧ W.cell? (x.add (i * 5)) = some (.int .i64 o.kind) ∧ W.cell? { block := (x.add (i * 5)).block, off := (x.add (i * 5)).off + 1 } = some pv ∧
 W.cell? { block := (x.add (i * 5)).block, off := (x.add (i * 5)).off + 2 } = some (.slice la o.l.length lc) ∧ W.cell? { block := (x.add (i * 5)).block, off := (x.add (i * 5)).off + 3 } = some (.int .i64 o.n) ∧ W.cell? { block := (x.add (i * 5)).block, off := (x.add (i * 5)).off + 4 } = some (.int .i64 o.m) ∧
 o.l.length ≤ lc ∧ lc ≤ maxLen ∧ TChsIn W la o.l ∧ Reads W pv o.p ∧ -9223372036854775808 ≤ o.n ∧ o.n ≤ 9223372036854775807 ∧ -9223372036854775808 ≤ o.m ∧ o.m ≤ 9223372036854775807
theorem in_opsG {W : World} {a : Option Addr} {len cap : Nat} {d : DataW H} {p : List MemPlace} (h : DataW.Trod enc Tryz.prog W 0 (fun _ => true) true 55 (.slice a len cap) d p) : len ≤ cap ∧ cap ≤ maxLen ∧ OpsGIn W a len := by
 obtain ⟨h1, h2, h3⟩ := in_structs Tryz.underlying55 Tryz.underlying61 (by kernel_rfl) (by kernel_rfl) h
 refine ⟨h1, h2, fun i hi => ?_⟩
 obtain ⟨x, rfl, hf⟩ := h3 i hi
 obtain ⟨v0, _, _, k0, n0, t0⟩ := hf 0 _ rfl
 obtain ⟨v1, _, _, k1, n1, t1⟩ := hf 1 _ rfl
 obtain ⟨v2, _, _, k2, n2, t2⟩ := hf 2 _ rfl
 obtain ⟨v3, _, _, k3, n3, t3⟩ := hf 3 _ rfl
 obtain ⟨v4, _, _, k4, n4, t4⟩ := hf 4 _ rfl
 obtain ⟨a0, rfl, _⟩ := in_int t0
 obtain ⟨l1, r1⟩ := in_bytesV t1
 obtain ⟨l2, la, lc, rfl, b1, b2, r2⟩ := in_tchsV t2
 obtain ⟨a3, rfl, w3⟩ := in_int t3
 obtain ⟨a4, rfl, w4⟩ := in_int t4
 have e1 : (W.cell? (x.add (i * 5 + 1))) = some v1 := k1
 have e2 : (W.cell? (x.add (i * 5 + 2))) = some (.slice la l2.length lc) := k2
 have e3 : (W.cell? (x.add (i * 5 + 3))) = some (.int .i64 a3) := k3
 have e4 : (W.cell? (x.add (i * 5 + 4))) = some (.int .i64 a4) := k4
 rw [← Addr.add_add, Addr.add_succ'] at e1 e2 e3 e4
 exact ⟨x, ⟨a0, l1, l2, a3, a4⟩, v1, la, lc, rfl, k0, e1, e2, e3, e4, b1, b2, r2, r1, w3.2, w3.1, w4.2, w4.1⟩
end
def opGObj (k : Int) (pv lv : Value) (n m : Int) : Obj := .cells #[.int .i64 k, pv, lv, .int .i64 n, .int .i64 m] 61 (0, 0)
theorem opG_at {w : World} {t : Nat} {k n m : Int} {pv lv : Value} (hb : w.heap[t]? = some (opGObj k pv lv n m)) :
  w.cell? ⟨t, 0, none⟩ = some (.int .i64 k) ∧ w.cell? ⟨t, 1, none⟩ = some pv ∧ w.cell? ⟨t, 2, none⟩ = some lv ∧ w.cell? ⟨t, 3, none⟩ = some (.int .i64 n) ∧ w.cell? ⟨t, 4, none⟩ = some (.int .i64 m) :=
 ⟨cell_at hb rfl, cell_at hb rfl, cell_at hb rfl, cell_at hb rfl, cell_at hb rfl⟩
end Go.Proofs.YtddnikpdmjogiaaGreat
namespace Go.Proofs.YtddnikpdmjogiaaGreat
set_option linter.unusedVariables false
open Go.RowKit Go.MapKept
def chG (c : TCh) : Bool := decide (c.key.size ≤ 400) && decide (c.val.length ≤ 300) && !(beginsB c.key hdG)
def fairB (l : List TCh) (p : List UInt8) : Bool := l.all chG && decide (p.length ≤ 500) && decide (l.length ≤ 5)
theorem fairB_true {l : List TCh} {p : List UInt8} (h : fairB l p = true) : (∀ c ∈ l, c.key.size ≤ 400 ∧ c.val.length ≤ 300 ∧ beginsB c.key hdG = false) ∧ p.length ≤ 500 ∧ l.length ≤ 5 := by
 unfold fairB chG at h
 simp only [Bool.and_eq_true, decide_eq_true_eq, List.all_eq_true, Bool.not_eq_true'] at h
 exact ⟨fun c hc => ⟨(h.1.1 c hc).1.1, (h.1.1 c hc).1.2, (h.1.1 c hc).2⟩, h.1.2, h.2⟩
theorem fairB_bad {l : List TCh} {p : List UInt8} {k : Nat} {c : TCh} (hc : l[k]? = some c) (h : chG c = false) : fairB l p = false := by
 have : l.all chG = false := List.all_eq_false.2 ⟨c, List.mem_of_getElem? hc, by simp [h]⟩
 unfold fairB
 rw [this]
 rfl
theorem fairB_all {l : List TCh} {p : List UInt8} (h : ∀ k c, k < l.length → l[k]? = some c → chG c = true) : fairB l p = (decide (p.length ≤ 500) && decide (l.length ≤ 5)) := by
 have : l.all chG = true := List.all_eq_true.2 (fun c hc => by
  obtain ⟨k, hk⟩ := List.mem_iff_getElem?.1 hc
  exact h k c (List.getElem?_eq_some_iff.1 hk).1 hk)
 unfold fairB
 rw [this, Bool.true_and]
set_option maxRecDepth 100000 in
set_option maxHeartbeats 2000000 in
theorem fair15_calls {w : World} {k0 n0 m0 : Int} {pv : Value} {p : List UInt8} {a : Option Addr} {c : Nat} {l : List TCh} (hp : Reads w pv p) (h : TChsIn w a l) (hl : l.length ≤ maxLen) :
  Calls Tryz.prog 18 #[.agg #[.int .i64 k0, pv, .slice a l.length c, .int .i64 n0, .int .i64 m0]] w (QuietP w (.bool (fairB l p))) := by
 obtain ⟨pa, pc, rfl, hpc1, hpc2⟩ := hp.form
 have H := hyd h
 unfold maxLen at hl hpc2
 have i0 : (l.length : Int) ≤ 9223372036854775807 := by omega
 have i1 : (0 : Int) ≤ (l.length : Int) := by omega
 have i2 : (p.length : Int) ≤ 9223372036854775807 := by omega
 have hbx := heap_alloc_new w (opGObj k0 (.slice pa p.length pc) (.slice a l.length c) n0 m0)
 have hk1 : Keeps (fun _ => False) w (w.alloc (opGObj k0 (.slice pa p.length pc) (.slice a l.length c) n0 m0)) := (Keeps.refl _ w).alloc _
 obtain ⟨w1, hw1⟩ : ∃ w1, w1 = w.alloc (opGObj k0 (.slice pa p.length pc) (.slice a l.length c) n0 m0) := ⟨_, rfl⟩
 rw [← hw1] at hbx hk1
 have HBX := hyd hbx
 have HK1 := hyd hk1
 obtain ⟨-, -, b2, -, -⟩ := opG_at hbx
 have HW := hyd hw1
 rw [hw1] at b2
 clear h hp hl hpc1 hpc2 hbx hk1 hw1
 unfold opGObj at b2
 go_enter Tryz.func18, Tryz.ntmps18
 go_wp2_with fail
 change Code.wp _ _ _ _ (w.alloc (opGObj k0 (.slice pa p.length pc) (.slice a l.length c) n0 m0))
 rw [← HW.out]
 clear b2 HW
 go_loopw [8] (fun iv wx => ∃ k : Nat, k ≤ l.length ∧ iv = .int .i64 (k : Int) ∧ (∀ i c, i < k → l[i]? = some c → chG c = true) ∧ Keeps (fun _ => False) w1 wx) (fun iv _ => l.length - (intOf iv).toNat)
 case atStart => exact ⟨0, Nat.zero_le _, rfl, fun i c hi => by omega, Keeps.refl _ _⟩
 case round =>
  obtain ⟨k, hk, rfl, hall, hq⟩ := hrel
  have kk : (0 : Int) ≤ k := by omega
  by_cases hlt : k < l.length
  ·obtain ⟨ch, hch⟩ : ∃ ch, l[k]? = some ch := ⟨l[k], List.getElem?_eq_getElem hlt⟩
   obtain ⟨x, q, rfl, c0, c1, c2, hq2⟩ := (H.out.keep (HK1.out.trans hq (fun _ _ e => e))).cells hch
   obtain ⟨qa, qc, rfl, _, _⟩ := hq2.form
   have j2 : (k : Int) < l.length := by omega
   have hk1 : k + 1 ≤ l.length := by omega
   have o0 : (0 : Int) ≤ (ch.key.size : Int) := by omega
   have o1 : (0 : Int) ≤ (ch.val.length : Int) := by omega
   have HQ := hyd (hq.alloc (.cells #[.string ch.key, .bool ch.gone, .slice qa ch.val.length qc] 38))
   have HBAD := hyd (fun (e : chG ch = false) => fairB_bad (p := p) hch e)
   have HGO := hyd (fun (e : chG ch = true) => (⟨k + 1, hk1, rfl, fun i c hi hc => by
     by_cases e2 : i = k
     ·subst e2; rw [hch] at hc; cases hc; exact e
     ·exact hall i c (by omega) hc, HQ.out⟩ : ∃ k' : Nat, k' ≤ l.length ∧ Value.int .i64 ((k + 1 : Nat) : Int) = .int .i64 (k' : Int) ∧ (∀ i c, i < k' → l[i]? = some c → chG c = true) ∧ Keeps (fun _ => False) w1 (wr.alloc (.cells #[.string ch.key, .bool ch.gone, .slice qa ch.val.length qc] 38))))
   have HBR := hyd (fun W => rbegins_runs ch.key hdG W)
   unfold hdG at HBR
   clear hall hq hq2 hlt hk
   by_cases b1 : 400 < ch.key.size
   ·have b1' : (400 : Int) < ch.key.size := by omega
    rw [HBAD.out (by unfold chG; rw [decide_eq_false (by omega)]; rfl)]
    clear hch b1
    go_wp2_with fail
    go_ret
    exact ⟨rfl, HK1.out.trans HQ.out (fun _ _ e => e)⟩
   ·have b1' : ¬ (400 : Int) < ch.key.size := by omega
    by_cases b2 : 300 < ch.val.length
    ·have b2' : (300 : Int) < ch.val.length := by omega
     rw [HBAD.out (by unfold chG; rw [decide_eq_false (p := ch.val.length ≤ 300) (by omega)]; simp)]
     clear hch b1 b2
     go_wp2_with fail
     go_ret
     exact ⟨rfl, HK1.out.trans HQ.out (fun _ _ e => e)⟩
    ·have b2' : ¬ (300 : Int) < ch.val.length := by omega
     have e1 : chG ch = !(beginsB ch.key hdG) := by unfold chG; rw [decide_eq_true (p := ch.key.size ≤ 400) (by omega), decide_eq_true (p := ch.val.length ≤ 300) (by omega)]; simp
     have e2 : beginsB ch.key ⟨#[103, 47]⟩ = beginsB ch.key hdG := rfl
     rw [e2] at HBR
     clear hch b1 b2 e2
     cases hb : beginsB ch.key hdG with
     | true =>
      rw [hb] at HBR e1
      rw [HBAD.out e1]
      clear hb e1 HGO HBAD
      go_wp2_with fail
      refine (HBR.out _).out.mono ?_; rintro e w' ⟨rfl, rfl⟩
      go_wp2_with fail
      go_ret
      exact ⟨rfl, HK1.out.trans HQ.out (fun _ _ e => e)⟩
     | false =>
      rw [hb] at HBR e1
      have HREL := hyd (HGO.out e1)
      clear hb e1 HGO HBAD
      go_wp2_with fail
      refine (HBR.out _).out.mono ?_; rintro e w' ⟨rfl, rfl⟩
      go_wp2_with fail
      go_roundw
      case rel => exact HREL.out
      case measure => simp [intOf]; omega
  ·obtain rfl : k = l.length := by omega
   have hb := fairB_all (p := p) hall
   obtain ⟨-, b1, b2, -, -⟩ := opG_at (hq.at HBX.out (fun e => e))
   have HF := hyd (fun (v : Bool) (e : (decide (p.length ≤ 500) && decide (l.length ≤ 5)) = v) => show QuietP w (.bool (fairB l p)) (.returned (.bool v)) wr from ⟨by rw [hb, e], HK1.out.trans hq (fun _ _ e => e)⟩)
   clear hall hb hq hlt hk
   by_cases z1 : p.length ≤ 500
   ·have z1' : (p.length : Int) ≤ 500 := by omega
    by_cases z2 : l.length ≤ 5
    ·have z2' : decide ((l.length : Int) ≤ 5) = true := decide_eq_true (by omega)
     have HF2 := hyd (HF.out true (by rw [decide_eq_true z1, decide_eq_true z2]; rfl))
     rw [← z2'] at HF2
     clear z1 z2 HF
     go_wp2_with fail
     go_ret
     first | exact HF2.out | (rw [z2'] at HF2; exact HF2.out)
    ·have z2' : decide ((l.length : Int) ≤ 5) = false := decide_eq_false (by omega)
     have HF2 := hyd (HF.out false (by rw [decide_eq_true z1, decide_eq_false z2]; rfl))
     rw [← z2'] at HF2
     clear z1 z2 HF
     go_wp2_with fail
     go_ret
     first | exact HF2.out | (rw [z2'] at HF2; exact HF2.out)
   ·have HF2 := hyd (HF.out false (by rw [decide_eq_false z1]; rfl))
    have z1' : (500 : Int) < p.length := by omega
    clear z1 HF
    go_wp2_with fail
    go_ret
    exact HF2.out
end Go.Proofs.YtddnikpdmjogiaaGreat
