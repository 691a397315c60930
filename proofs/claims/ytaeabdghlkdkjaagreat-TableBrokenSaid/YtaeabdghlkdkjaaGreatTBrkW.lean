/- The walk of TableBroken. -/
import Derived.Test.YtaeabdghlkdkjaaGreatTBrkV
import Derived.Test.YtaeabdghlkdkjaaGreatSmallV
import Derived.Deep.DeepCutAuto
import Derived.Deep.CutBlock
namespace Go.Proofs.YtaeabdghlkdkjaaGreat
set_option linter.unusedVariables false
open Go.RowKit Go.MapKept

set_option maxRecDepth 100000 in
set_option maxHeartbeats 4000000 in
theorem broken_walk (w0 : World) (a : Option Addr) (c : Nat) (ll : List (List UInt8)) (hlc : ll.length ≤ c) (hcm : c ≤ maxLen) (h : RowsIn w0 (.slice a ll.length c) ll) :
    Calls Tryz.prog 3 #[.slice a ll.length c] w0 fun e w' => e = .returned (.bool true) ∧ Below w0.heap.size w0 w' := by
  obtain ⟨j, hj⟩ : ∃ j, j = min ll.length 10 := ⟨_, rfl⟩
  have hmin : (if (10 : Int) < (ll.length : Int) then (10 : Int) else (ll.length : Int)) = (j : Int) := by rw [hj]; split <;> omega
  have hmin2 : min (ll.length : Int) 10 = (j : Int) := by omega
  have hsl := fun w => head_run w a ll.length c j (by omega)
  have hrows : ∀ i, i < j → ∃ x p l, a = some x ∧ (∀ W, Keeps (fun _ => False) w0 W → W.cell? (x.add i) = some p) ∧ Reads w0 p l := fun i hi => by
    obtain ⟨a', c', e, h2⟩ := h
    cases e
    obtain ⟨x, p, h3, h4, h5⟩ := h2 i (ll[i]'(by omega)) (List.getElem?_eq_getElem (by omega))
    exact ⟨x, p, _, h3, fun W hk => cell_keep h4 hk, h5⟩
  have HR := Lib.hid hrows
  have i0 : (j : Int) ≤ 10 := by omega
  have i1 : (0 : Int) ≤ j := by omega
  have HJ := Lib.hid (show j ≤ 10 by omega)
  unfold maxLen at hcm
  have i2 : (ll.length : Int) ≤ 9223372036854775807 := by omega
  have haw := fun W => awake11_calls W
  have HA := Lib.hid haw
  obtain ⟨d, w1, hnew, ho1⟩ := (Own.start w0).new 65536 (by omega) (by omega)
  obtain ⟨r, w2, hrn, ho2⟩ := ho1.rnew 65536
  have hop := both_open ho2.swap
  unfold nmT at hop
  have HOP := Lib.hid hop
  have HNEW := Lib.hid hnew
  have HRN := Lib.hid hrn
  clear h hrows hj hcm hlc haw ho1 ho2 hop hnew hrn
  go_enter Tryz.func3, Tryz.ntmps3
  go_wp2_with fail
  refine HNEW.out.out.mono ?_; rintro e w' ⟨rfl, rfl⟩
  go_wp2_with fail
  refine HRN.out.out.mono ?_; rintro e w' ⟨rfl, rfl⟩
  go_wp2_with fail
  refine HOP.out.mono ?_
  rintro e w3 ⟨jp, ra, rc, rfl, hop2⟩
  have HOP2 := Lib.hid hop2
  clear hop2 HOP HNEW HRN
  go_wp2_with fail
  refine HOP2.out.mono ?_
  rintro e w4 ⟨q, v, rfl, hj2⟩
  have HJ2 := Lib.hid hj2
  clear hj2 HOP2
  go_wp2_with fail
  refine (HA.out _).mono ?_; rintro e w5 ⟨rfl, hk5⟩
  have HJ5 := Lib.hid (show JTwo w0 w5 d r jp q nmT (oneT 65536 []) [] v [] from Own.quiet HJ2.out hk5)
  clear hk5 HJ2 HA
  go_wp2_with fail
  clear hsl hmin hmin2
  go_loopw [49] (fun iv wx => ∃ (k : Nat) (m : DM) (l : List (List UInt8)) (v : Value), k ≤ j ∧ iv = .int .i64 (k : Int) ∧ BI m l k ∧ JTwo w0 wx d r jp q nmT m l v []) (fun iv _ => j - (intOf iv).toNat)
  case atStart => exact ⟨0, _, _, _, Nat.zero_le _, rfl, BI.start, HJ5.out⟩
  case round =>
    obtain ⟨k, m, l, v, hk, rfl, hb, ho⟩ := hrel
    clear HJ5
    have k0 : (0 : Int) ≤ k := by omega
    by_cases hlt : k < j
    · obtain ⟨x, pv, p, rfl, hc, hp⟩ := HR.out k hlt
      have hx := hc wr ho.keeps
      obtain ⟨pa, pc, rfl, -, -⟩ := hp.form
      have k1 : (k : Int) < j := by omega
      have hk1 : k + 1 ≤ j := by omega
      have hj10 := HJ.out
      have hpl0 : (0 : Int) ≤ p.length := by omega
      by_cases hpl : p.length ≤ 2000
      · have b1 : (p.length : Int) ≤ 2000 := by omega
        have HAP := Lib.hid (both_append ho hb (by omega) hp hpl)
        clear hc hp ho hb hk hlt hpl
        go_wp2_with fail
        refine HAP.out.mono ?_
        rintro e w6 ⟨rfl, h6⟩
        have H6 := Lib.hid h6
        clear h6 HAP
        go_wp2_with fail
        refine H6.out.mono ?_
        rintro e w7 ⟨rfl, m7, l7, v7, hb7, ho7⟩
        have HREL := Lib.hid (⟨k + 1, m7, l7, v7, hk1, rfl, hb7, ho7⟩ : ∃ (k' : Nat) (m' : DM) (l' : List (List UInt8)) (v' : Value), k' ≤ j ∧ Value.int .i64 ((k + 1 : Nat) : Int) = .int .i64 (k' : Int) ∧ BI m' l' k' ∧ JTwo w0 w7 d r jp q nmT m' l' v' [])
        clear H6 hb7 ho7
        go_wp2_with fail
        go_roundw
        case rel => exact HREL.out
        case measure => simp [intOf]; omega
      · have b1 : ¬ (p.length : Int) ≤ 2000 := by omega
        have HREL := Lib.hid (⟨k + 1, m, l, v, hk1, rfl, hb.skip, ho⟩ : ∃ (k' : Nat) (m' : DM) (l' : List (List UInt8)) (v' : Value), k' ≤ j ∧ Value.int .i64 ((k + 1 : Nat) : Int) = .int .i64 (k' : Int) ∧ BI m' l' k' ∧ JTwo w0 wr d r jp q nmT m' l' v' [])
        clear hc hp ho hb hk hlt hpl
        go_wp2_with fail
        go_roundw
        case rel => exact HREL.out
        case measure => simp [intOf]; omega
    · obtain rfl : k = j := by omega
      have HTO := Lib.hid (both_topen ho hb HJ.out)
      clear ho hb hk hlt
      unfold nmT at HTO
      go_wp2_with fail
      refine HTO.out.mono ?_
      rintro e w6 ⟨cd, tp, rfl, h6⟩
      have H6 := Lib.hid h6
      clear h6 HTO
      go_wp2_with fail
      refine H6.out.mono ?_
      rintro e w7 ⟨up, rfl, hk7, hn7, his⟩
      have HK7 := Lib.hid hk7
      have HIS := Lib.hid his
      clear hk7 his H6
      cases tp with
      | none =>
        obtain rfl : up = none := by cases up with | none => rfl | some _ => cases hn7
        clear hn7 HIS
        go_wp2_with fail
        go_ret
        exact ⟨rfl, HK7.out.below⟩
      | some ta =>
        obtain ⟨ua, rfl⟩ : ∃ ua, up = some ua := by cases up with | none => cases hn7 | some ua => exact ⟨ua, rfl⟩
        obtain ⟨lv, hc8, ⟨la, ln, lc, rfl⟩, hi8⟩ := HIS.out ta ua rfl rfl
        have HI8 := Lib.hid hi8
        clear hn7 HIS hi8
        go_wp2_with fail
        refine HI8.out.mono ?_; rintro e w8 ⟨rfl, hk8⟩
        have HF := Lib.hid ((HK7.out.trans hk8 (fun _ _ e => e)).below)
        clear hk8 HI8 HK7
        go_wp2_with fail
        go_ret
        exact ⟨rfl, HF.out⟩
end Go.Proofs.YtaeabdghlkdkjaaGreat
