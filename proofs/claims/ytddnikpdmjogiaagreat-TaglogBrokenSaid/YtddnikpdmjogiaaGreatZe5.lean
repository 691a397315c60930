/- A part of the proof. -/
import Derived.Test.YtddnikpdmjogiaaGreatZe3
import Derived.Test.YtddnikpdmjogiaaGreatZe4
import Derived.Deep.DeepCutAuto
import Derived.Deep.CutBlock
namespace Go.Proofs.YtddnikpdmjogiaaGreat
set_option linter.unusedVariables false
open Go.RowKit Go.MapKept
set_option maxRecDepth 100000 in
set_option maxHeartbeats 8000000 in
theorem tbroken15_walk (a : Option Addr) (cap : Nat) (w0 : World) {l : List TCh} (hlc : l.length ≤ cap) (hcm : cap ≤ maxLen) (hin : TChsIn w0 a l) :
    Calls Tryz.prog 3 #[.slice a l.length cap] w0 fun e w' => e = .returned (.bool true) ∧ Below w0.heap.size w0 w' := by
  have jl : (l.length : Int) ≤ 9223372036854775807 := by unfold maxLen at hcm; omega
  obtain ⟨d, w1, hnew, ho1⟩ := (Own.start w0).new 1048576 (by omega) (by omega)
  have hop := topen_calls ho1 (Tidy.new (by omega) (by omega) : Tidy (newOf 1048576) 0 0).good (by omega) nmT
  rw [topen_empty] at hop
  unfold nmT at hop
  have HOP := Lib.hid hop
  have HIN := Lib.hid hin
  clear ho1 hop hin hlc hcm
  go_enter Tryz.func3, Tryz.ntmps3
  go_wp2_with fail
  refine hnew.out.mono ?_; rintro e w' ⟨rfl, rfl⟩
  clear hnew
  go_wp2_with fail
  refine HOP.out.mono ?_
  rintro e w2 (⟨hn, -, -⟩ | ⟨size, fs, j, t, b, hs, rfl, ho2⟩)
  · cases hn
  simp only [Option.some.injEq, Prod.mk.injEq] at hs
  obtain ⟨rfl, rfl⟩ := hs
  obtain ⟨r, w3, hrn, ho3⟩ := ho2.rnew 1048576
  have HFB := Lib.hid (first_both (by omega) (by omega) ho3)
  clear HOP ho2 ho3
  go_wp2_with fail
  refine hrn.out.mono ?_; rintro e w' ⟨rfl, rfl⟩
  clear hrn
  have hfb := HFB.out
  unfold nmT at hfb
  have HFB2 := Lib.hid hfb
  clear HFB hfb
  go_wp2_with fail
  refine HFB2.out.mono ?_; rintro e w4 ⟨u, rfl, hst⟩
  have H4 := Lib.hid hst
  clear HFB2 hst
  go_wp2_with fail
  refine (awake15_calls w4).mono ?_; rintro e w5 ⟨rfl, hk5⟩
  have H5 := Lib.hid (H4.out.quiet hk5)
  clear H4 hk5
  by_cases h20 : 20 < l.length
  · have hd : decide (20 < l.length) = true := decide_eq_true h20
    have hd2 : (20 : Int) < l.length := by omega
    clear h20
    go_wp2_with fail
    refine (awake15_calls w5).mono ?_; rintro e w6 ⟨rfl, hk6⟩
    have HB := Lib.hid (H5.out.quiet hk6).keeps.below
    clear hk6 H5
    go_wp2_with fail
    go_ret
    exact ⟨rfl, HB.out⟩
  · have hd2 : ¬ (20 : Int) < l.length := by omega
    have HL20 := Lib.hid (show l.length ≤ 20 by omega)
    clear h20
    go_wp2_with fail
    go_loopw [49] (fun iv wx => ∃ k : Nat, iv = .int .i64 (k : Int) ∧ k ≤ l.length ∧ GSt w0 wx d r nmT (k + 1) k [] (.pointer (some ⟨t, 0, none⟩)) (.pointer (some ⟨u, 0, none⟩))) (fun iv _ => l.length - (intOf iv).toNat)
    case atStart => exact ⟨0, rfl, by omega, H5.out⟩
    case round =>
      obtain ⟨k, rfl, hk, hst⟩ := hrel
      clear H5
      have k0 : (0 : Int) ≤ k := by omega
      have k2 : (k : Int) ≤ 20 := by have := HL20.out; omega
      by_cases hlt : k < l.length
      · obtain ⟨ch, hch⟩ : ∃ ch, l[k]? = some ch := ⟨_, List.getElem?_eq_getElem hlt⟩
        obtain ⟨x, pv, rfl, c0, c1, c2, hpv⟩ := HIN.out.cells hch
        have c0 := cell_keep c0 hst.keeps
        have c1 := cell_keep c1 hst.keeps
        have c2 := cell_keep c2 hst.keeps
        obtain ⟨key, gone, val⟩ := ch
        dsimp only at c0 c1 c2 hpv
        obtain ⟨pa, pc, rfl, _, _⟩ := hpv.form
        have j2 : (k : Int) < l.length := by omega
        have HPV := Lib.hid hpv
        have HX := Lib.hid hlt
        have HKI := Lib.hid (show k ≤ 20 by omega)
        have HB := Lib.hid (hst.box (.cells #[.string key, .bool gone, .slice pa val.length pc] 38))
        have HKP := Lib.hid hst.keeps
        clear hpv hch hlt hk hst
        by_cases hv : 2000 < val.length
        · have jv : (2000 : Int) < val.length := by omega
          have HBL := Lib.hid HB.out.keeps.below
          clear hv HKP
          go_wp2_with fail
          go_ret
          exact ⟨rfl, HBL.out⟩
        · have jv : ¬ (2000 : Int) < val.length := by omega
          have HVL := Lib.hid (show val.length ≤ 2000 by omega)
          clear hv
          go_upto_region 12 with fail
          have hbx := heap_alloc_new wr (.cells (([.string key, .bool gone, .slice pa val.length pc] : List Value).toArray) 38)
          change Code.wp _ _ _ _ (wr.alloc (.cells #[.string key, .bool gone, .slice pa val.length pc] 38))
          change (wr.alloc (.cells #[.string key, .bool gone, .slice pa val.length pc] 38)).heap[wr.heap.size]? = _ at hbx
          have HBX := Lib.hid hbx
          clear hbx c0 c1 c2
          generalize wr.alloc (.cells #[.string key, .bool gone, .slice pa val.length pc] 38) = w4 at *
          generalize wr.heap.size = b11 at *
          go_cut [66] from 57 to 65 (fun c wx => c = .bool false ∧ GSt w0 wx d r nmT (k + 2) (k + 1) [] (.pointer (some ⟨t, 0, none⟩)) (.pointer (some ⟨u, 0, none⟩)))
          case first =>
            have H5 := Lib.hid (HB.out.quiet (Keeps.refl _ w4).drew)
            have HBX5 := Lib.hid (show w4.drew.heap[b11]? = some (.cells (([.string key, .bool gone, .slice pa val.length pc] : List Value).toArray) 38) from HBX.out)
            have HI3 := Lib.hid (show (Tryz.prog.info? 38).map (·.size) = some ([.string key, .bool gone, .slice pa val.length pc] : List Value).length by kernel_rfl)
            clear HB HBX
            refine wp_region_held_drew (S := fun w' => w'.heap[b11]? = some (.cells (([.string key, .bool gone, .slice pa val.length pc] : List Value).toArray) 38)) (by kernel_rfl) (by exact HBX5.out) (fun hHeld => ?_)
            generalize w4.drew = w5 at *
            refine wpAnyH_take (i := 0) (oi := { dst := some 57, op := _, type := _, pos := _, after := _, guard := _ }) (v := .pointer (some ⟨t, 0, none⟩)) rfl (by kernel_rfl) (by kernel_rfl) (by kernel_rfl) (fun _ _ _ h => h) (Or.inl ⟨by rfl, by intro w hSw; (try dsimp only at hSw); go_simp⟩) hHeld ?_
            try simp only [Act.put, List.setIfInBounds_toArray, List.set_cons_zero, List.set_cons_succ]
            refine wpAnyH_take (i := 5) (oi := { dst := some 62, op := _, type := _, pos := _, after := _, guard := _ }) (v := .pointer (some ⟨u, 0, none⟩)) rfl (by kernel_rfl) (by kernel_rfl) (by kernel_rfl) (fun _ _ _ h => h) (Or.inl ⟨by rfl, by intro w hSw; (try dsimp only at hSw); go_simp⟩) hHeld ?_
            try simp only [Act.put, List.setIfInBounds_toArray, List.set_cons_zero, List.set_cons_succ]
            refine wpAnyH_take (i := 1) (oi := { dst := some 58, op := _, type := _, pos := _, after := _, guard := _ }) (v := .agg ([.string key, .bool gone, .slice pa val.length pc]).toArray) rfl (by kernel_rfl) (by kernel_rfl) (by kernel_rfl) (fun _ _ _ h => h) (yieldsIf_load_mid (by rfl) _ _ rfl (b11) (0) rfl ([.string key, .bool gone, .slice pa val.length pc]) _ (fun w' hk => range_of hk) Tryz.underlying38 rfl HI3.out) hHeld ?_
            try simp only [Act.put, List.setIfInBounds_toArray, List.set_cons_zero, List.set_cons_succ]
            refine wpAnyH_take (i := 6) (oi := { dst := some 63, op := _, type := _, pos := _, after := _, guard := _ }) (v := .agg ([.string key, .bool gone, .slice pa val.length pc]).toArray) rfl (by kernel_rfl) (by kernel_rfl) (by kernel_rfl) (fun _ _ _ h => h) (yieldsIf_load_mid (by rfl) _ _ rfl (b11) (0) rfl ([.string key, .bool gone, .slice pa val.length pc]) _ (fun w' hk => range_of hk) Tryz.underlying38 rfl HI3.out) hHeld ?_
            try simp only [Act.put, List.setIfInBounds_toArray, List.set_cons_zero, List.set_cons_succ]
            refine wpAnyH_ready (rs := [2, 7]) (by kernel_rfl) (by simp) ?_
            refine (AllReadyH.cons (o := { dst := some 59, op := _, type := _, pos := _, after := _, guard := _ }) rfl (fun K hK => ?_) (AllReadyH.cons (o := { dst := some 64, op := _, type := _, pos := _, after := _, guard := _ }) rfl (fun K hK => ?_) AllReadyH.nil))
            · refine step_wanted' rfl ?_
              go_simp
              have h6 := H5.out.box (.cells #[.string key, .bool gone, .slice pa val.length pc] 38)
              have hr2 := heap_alloc_new w5 (.cells #[.string key, .bool gone, .slice pa val.length pc] 38)
              refine hK.out _ _ ((heap_alloc_old _ _ (lt_of_heap hHeld)).trans hHeld) (fun hHeld6 => ?_)
              clear hK K
              try simp only [Act.put, List.setIfInBounds_toArray, List.set_cons_zero, List.set_cons_succ]
              generalize w5.alloc (.cells #[.string key, .bool gone, .slice pa val.length pc] 38) = w6 at *
              generalize w5.heap.size = r2 at *
              have H6 := Lib.hid h6
              clear h6 hr2
              refine wpAnyH_ready (rs := [3, 7]) (by kernel_rfl) (by simp) ?_
              refine (AllReadyH.cons (o := { dst := some 60, op := _, type := _, pos := _, after := _, guard := _ }) rfl (fun K hK => ?_) (AllReadyH.cons (o := { dst := some 64, op := _, type := _, pos := _, after := _, guard := _ }) rfl (fun K hK => ?_) AllReadyH.nil))
              · refine step_wanted' rfl ?_
                go_simp
                go_at_call 11
                refine (to15_calls (l := [⟨key, gone, val⟩]) (c := 1) (one_in (H6.out.obj (t := r2) (o := (.cells #[.string key, .bool gone, .slice pa val.length pc] 38)) (by simp)) (HPV.out.keep H6.out.keeps)) (by simp) (fun x hx => by simp only [List.mem_singleton] at hx; subst hx; exact Nat.le_trans HVL.out (by omega))).mono ?_
                rintro e w7 ⟨cv, rfl, hat, hk7⟩
                obtain ⟨ca, cc, hcv⟩ := hat.form
                change cv = .slice ca 1 cc at hcv
                subst hcv
                obtain ⟨hle, hcm⟩ := hat.le
                have h7 := H6.out.held hat hk7
                have HLE := Lib.hid (And.intro hle hcm)
                refine hK.out _ _ (hk7.at hHeld6 (fun e => e)) (fun hHeld7 => ?_)
                clear hK K
                try simp only [Act.put, List.setIfInBounds_toArray, List.set_cons_zero, List.set_cons_succ]
                have H7 := Lib.hid h7
                clear h7 hat hk7 hle hcm
                refine wpAnyH_ready (rs := [4, 7]) (by kernel_rfl) (by simp) ?_
                refine (AllReadyH.cons (o := { dst := some 61, op := _, type := _, pos := _, after := _, guard := _ }) rfl (fun K hK => ?_) (AllReadyH.cons (o := { dst := some 64, op := _, type := _, pos := _, after := _, guard := _ }) rfl (fun K hK => ?_) AllReadyH.nil))
                · obtain ⟨co, hap⟩ := H7.out.apply1 (a := ca) (c := cc) (l := [⟨key, gone, val⟩]) (fun wr ls h => h.insHeld (n := 1) (c := cc) (by simp)) (by have := HKI.out; omega) (wt_one HVL.out) HLE.out.1 HLE.out.2
                  refine step_wanted' rfl ?_
                  go_simp
                  go_at_call 10
                  refine hap.mono ?_
                  rintro e w8 ⟨rfl, h8⟩
                  have hb8 := h8.obj (t := b11) (o := .cells (([.string key, .bool gone, .slice pa val.length pc] : List Value).toArray) 38 (0, 0)) (by simp)
                  refine hK.out _ _ hb8 (fun hHeld8 => ?_)
                  clear hK K
                  try simp only [Act.put, List.setIfInBounds_toArray, List.set_cons_zero, List.set_cons_succ]
                  have H8 := Lib.hid h8
                  clear h8 hap hb8
                  refine wpAnyH_ready (rs := [7]) (by kernel_rfl) (by simp) ?_
                  refine (AllReadyH.cons (o := { dst := some 64, op := _, type := _, pos := _, after := _, guard := _ }) rfl (fun K hK => ?_) AllReadyH.nil)
                  refine step_wanted' rfl ?_
                  go_simp
                  have h9 := H8.out.box (.cells #[.string key, .bool gone, .slice pa val.length pc] 38)
                  have hr7 := heap_alloc_new w8 (.cells #[.string key, .bool gone, .slice pa val.length pc] 38)
                  refine hK.out _ _ ((heap_alloc_old _ _ (lt_of_heap hHeld8)).trans hHeld8) (fun hHeld9 => ?_)
                  clear hK K
                  try simp only [Act.put, List.setIfInBounds_toArray, List.set_cons_zero, List.set_cons_succ]
                  generalize w8.alloc (.cells #[.string key, .bool gone, .slice pa val.length pc] 38) = w9 at *
                  generalize w8.heap.size = r7 at *
                  have H9 := Lib.hid h9
                  clear h9 hr7
                  refine wpAnyH_ready (rs := [8]) (by kernel_rfl) (by simp) ?_
                  refine (AllReadyH.cons (o := { dst := some 65, op := _, type := _, pos := _, after := _, guard := _ }) rfl (fun K hK => ?_) AllReadyH.nil)
                  refine step_wanted' rfl ?_
                  go_simp
                  go_at_call 12
                  refine (H9.out.apply2 (a := some ⟨r7, 0, none⟩) (c := 1) (fun wr ls h => one_in (h.at (b := r7) (o := (.cells #[.string key, .bool gone, .slice pa val.length pc] 38)) (by simp)).1 (HPV.out.keep h.keeps)) (by have := HKI.out; omega) (by simp) (by unfold maxLen; omega)).mono ?_
                  rintro e w10 ⟨rfl, h10⟩
                  have hb10 := h10.obj (t := b11) (o := .cells (([.string key, .bool gone, .slice pa val.length pc] : List Value).toArray) 38 (0, 0)) (by simp)
                  refine hK.out _ _ hb10 (fun hHeld10 => ?_)
                  clear hK K
                  try simp only [Act.put, List.setIfInBounds_toArray, List.set_cons_zero, List.set_cons_succ]
                  refine wpAnyH_take (i := 9) (oi := { dst := some 66, op := _, type := _, pos := _, after := _, guard := _ }) (v := .bool false) rfl (by kernel_rfl) (by kernel_rfl) (by kernel_rfl) (fun _ _ _ h => h) (Or.inl ⟨by rfl, by intro w hSw; (try dsimp only at hSw); go_simp⟩) hHeld10 ?_
                  try simp only [Act.put, List.setIfInBounds_toArray, List.set_cons_zero, List.set_cons_succ]
                  refine wpAnyH_done (by kernel_rfl) ?_ _
                  have H10 := Lib.hid h10.unbox.unbox.unbox.unbox
                  clear h10 hb10
                  go_wp2_with fail
                  go_meet
                  exact ⟨rfl, H10.out⟩
                · refine step_wanted' rfl ?_
                  go_simp
                  have h8 := H7.out.box (.cells #[.string key, .bool gone, .slice pa val.length pc] 38)
                  have hr7 := heap_alloc_new w7 (.cells #[.string key, .bool gone, .slice pa val.length pc] 38)
                  refine hK.out _ _ ((heap_alloc_old _ _ (lt_of_heap hHeld7)).trans hHeld7) (fun hHeld8 => ?_)
                  clear hK K
                  try simp only [Act.put, List.setIfInBounds_toArray, List.set_cons_zero, List.set_cons_succ]
                  generalize w7.alloc (.cells #[.string key, .bool gone, .slice pa val.length pc] 38) = w8 at *
                  generalize w7.heap.size = r7 at *
                  have H8 := Lib.hid h8
                  clear h8 hr7
                  refine wpAnyH_ready (rs := [4]) (by kernel_rfl) (by simp) ?_
                  refine (AllReadyH.cons (o := { dst := some 61, op := _, type := _, pos := _, after := _, guard := _ }) rfl (fun K hK => ?_) AllReadyH.nil)
                  obtain ⟨co, hap⟩ := H8.out.apply1 (a := ca) (c := cc) (l := [⟨key, gone, val⟩]) (fun wr ls h => h.insHeld (n := 1) (c := cc) (by simp)) (by have := HKI.out; omega) (wt_one HVL.out) HLE.out.1 HLE.out.2
                  refine step_wanted' rfl ?_
                  go_simp
                  go_at_call 10
                  refine hap.mono ?_
                  rintro e w9 ⟨rfl, h9⟩
                  have hb9 := h9.obj (t := b11) (o := .cells (([.string key, .bool gone, .slice pa val.length pc] : List Value).toArray) 38 (0, 0)) (by simp)
                  refine hK.out _ _ hb9 (fun hHeld9 => ?_)
                  clear hK K
                  try simp only [Act.put, List.setIfInBounds_toArray, List.set_cons_zero, List.set_cons_succ]
                  have H9 := Lib.hid h9
                  clear h9 hap hb9
                  refine wpAnyH_ready (rs := [8]) (by kernel_rfl) (by simp) ?_
                  refine (AllReadyH.cons (o := { dst := some 65, op := _, type := _, pos := _, after := _, guard := _ }) rfl (fun K hK => ?_) AllReadyH.nil)
                  refine step_wanted' rfl ?_
                  go_simp
                  go_at_call 12
                  refine (H9.out.apply2 (a := some ⟨r7, 0, none⟩) (c := 1) (fun wr ls h => one_in (h.at (b := r7) (o := (.cells #[.string key, .bool gone, .slice pa val.length pc] 38)) (by simp)).1 (HPV.out.keep h.keeps)) (by have := HKI.out; omega) (by simp) (by unfold maxLen; omega)).mono ?_
                  rintro e w10 ⟨rfl, h10⟩
                  have hb10 := h10.obj (t := b11) (o := .cells (([.string key, .bool gone, .slice pa val.length pc] : List Value).toArray) 38 (0, 0)) (by simp)
                  refine hK.out _ _ hb10 (fun hHeld10 => ?_)
                  clear hK K
                  try simp only [Act.put, List.setIfInBounds_toArray, List.set_cons_zero, List.set_cons_succ]
                  refine wpAnyH_take (i := 9) (oi := { dst := some 66, op := _, type := _, pos := _, after := _, guard := _ }) (v := .bool false) rfl (by kernel_rfl) (by kernel_rfl) (by kernel_rfl) (fun _ _ _ h => h) (Or.inl ⟨by rfl, by intro w hSw; (try dsimp only at hSw); go_simp⟩) hHeld10 ?_
                  try simp only [Act.put, List.setIfInBounds_toArray, List.set_cons_zero, List.set_cons_succ]
                  refine wpAnyH_done (by kernel_rfl) ?_ _
                  have H10 := Lib.hid h10.unbox.unbox.unbox.unbox
                  clear h10 hb10
                  go_wp2_with fail
                  go_meet
                  exact ⟨rfl, H10.out⟩
              · refine step_wanted' rfl ?_
                go_simp
                have h7 := H6.out.box (.cells #[.string key, .bool gone, .slice pa val.length pc] 38)
                have hr7 := heap_alloc_new w6 (.cells #[.string key, .bool gone, .slice pa val.length pc] 38)
                refine hK.out _ _ ((heap_alloc_old _ _ (lt_of_heap hHeld6)).trans hHeld6) (fun hHeld7 => ?_)
                clear hK K
                try simp only [Act.put, List.setIfInBounds_toArray, List.set_cons_zero, List.set_cons_succ]
                generalize w6.alloc (.cells #[.string key, .bool gone, .slice pa val.length pc] 38) = w7 at *
                generalize w6.heap.size = r7 at *
                have H7 := Lib.hid h7
                clear h7 hr7
                refine wpAnyH_ready (rs := [3]) (by kernel_rfl) (by simp) ?_
                refine (AllReadyH.cons (o := { dst := some 60, op := _, type := _, pos := _, after := _, guard := _ }) rfl (fun K hK => ?_) AllReadyH.nil)
                refine step_wanted' rfl ?_
                go_simp
                go_at_call 11
                refine (to15_calls (l := [⟨key, gone, val⟩]) (c := 1) (one_in (H7.out.obj (t := r2) (o := (.cells #[.string key, .bool gone, .slice pa val.length pc] 38)) (by simp)) (HPV.out.keep H7.out.keeps)) (by simp) (fun x hx => by simp only [List.mem_singleton] at hx; subst hx; exact Nat.le_trans HVL.out (by omega))).mono ?_
                rintro e w8 ⟨cv, rfl, hat, hk8⟩
                obtain ⟨ca, cc, hcv⟩ := hat.form
                change cv = .slice ca 1 cc at hcv
                subst hcv
                obtain ⟨hle, hcm⟩ := hat.le
                have h8 := H7.out.held hat hk8
                have HLE := Lib.hid (And.intro hle hcm)
                refine hK.out _ _ (hk8.at hHeld7 (fun e => e)) (fun hHeld8 => ?_)
                clear hK K
                try simp only [Act.put, List.setIfInBounds_toArray, List.set_cons_zero, List.set_cons_succ]
                have H8 := Lib.hid h8
                clear h8 hat hk8 hle hcm
                refine wpAnyH_ready (rs := [4]) (by kernel_rfl) (by simp) ?_
                refine (AllReadyH.cons (o := { dst := some 61, op := _, type := _, pos := _, after := _, guard := _ }) rfl (fun K hK => ?_) AllReadyH.nil)
                obtain ⟨co, hap⟩ := H8.out.apply1 (a := ca) (c := cc) (l := [⟨key, gone, val⟩]) (fun wr ls h => h.insHeld (n := 1) (c := cc) (by simp)) (by have := HKI.out; omega) (wt_one HVL.out) HLE.out.1 HLE.out.2
                refine step_wanted' rfl ?_
                go_simp
                go_at_call 10
                refine hap.mono ?_
                rintro e w9 ⟨rfl, h9⟩
                have hb9 := h9.obj (t := b11) (o := .cells (([.string key, .bool gone, .slice pa val.length pc] : List Value).toArray) 38 (0, 0)) (by simp)
                refine hK.out _ _ hb9 (fun hHeld9 => ?_)
                clear hK K
                try simp only [Act.put, List.setIfInBounds_toArray, List.set_cons_zero, List.set_cons_succ]
                have H9 := Lib.hid h9
                clear h9 hap hb9
                refine wpAnyH_ready (rs := [8]) (by kernel_rfl) (by simp) ?_
                refine (AllReadyH.cons (o := { dst := some 65, op := _, type := _, pos := _, after := _, guard := _ }) rfl (fun K hK => ?_) AllReadyH.nil)
                refine step_wanted' rfl ?_
                go_simp
                go_at_call 12
                refine (H9.out.apply2 (a := some ⟨r7, 0, none⟩) (c := 1) (fun wr ls h => one_in (h.at (b := r7) (o := (.cells #[.string key, .bool gone, .slice pa val.length pc] 38)) (by simp)).1 (HPV.out.keep h.keeps)) (by have := HKI.out; omega) (by simp) (by unfold maxLen; omega)).mono ?_
                rintro e w10 ⟨rfl, h10⟩
                have hb10 := h10.obj (t := b11) (o := .cells (([.string key, .bool gone, .slice pa val.length pc] : List Value).toArray) 38 (0, 0)) (by simp)
                refine hK.out _ _ hb10 (fun hHeld10 => ?_)
                clear hK K
                try simp only [Act.put, List.setIfInBounds_toArray, List.set_cons_zero, List.set_cons_succ]
                refine wpAnyH_take (i := 9) (oi := { dst := some 66, op := _, type := _, pos := _, after := _, guard := _ }) (v := .bool false) rfl (by kernel_rfl) (by kernel_rfl) (by kernel_rfl) (fun _ _ _ h => h) (Or.inl ⟨by rfl, by intro w hSw; (try dsimp only at hSw); go_simp⟩) hHeld10 ?_
                try simp only [Act.put, List.setIfInBounds_toArray, List.set_cons_zero, List.set_cons_succ]
                refine wpAnyH_done (by kernel_rfl) ?_ _
                have H10 := Lib.hid h10.unbox.unbox.unbox.unbox
                clear h10 hb10
                go_wp2_with fail
                go_meet
                exact ⟨rfl, H10.out⟩
            · refine step_wanted' rfl ?_
              go_simp
              have h6 := H5.out.box (.cells #[.string key, .bool gone, .slice pa val.length pc] 38)
              have hr7 := heap_alloc_new w5 (.cells #[.string key, .bool gone, .slice pa val.length pc] 38)
              refine hK.out _ _ ((heap_alloc_old _ _ (lt_of_heap hHeld)).trans hHeld) (fun hHeld6 => ?_)
              clear hK K
              try simp only [Act.put, List.setIfInBounds_toArray, List.set_cons_zero, List.set_cons_succ]
              generalize w5.alloc (.cells #[.string key, .bool gone, .slice pa val.length pc] 38) = w6 at *
              generalize w5.heap.size = r7 at *
              have H6 := Lib.hid h6
              clear h6 hr7
              refine wpAnyH_ready (rs := [2]) (by kernel_rfl) (by simp) ?_
              refine (AllReadyH.cons (o := { dst := some 59, op := _, type := _, pos := _, after := _, guard := _ }) rfl (fun K hK => ?_) AllReadyH.nil)
              refine step_wanted' rfl ?_
              go_simp
              have h7 := H6.out.box (.cells #[.string key, .bool gone, .slice pa val.length pc] 38)
              have hr2 := heap_alloc_new w6 (.cells #[.string key, .bool gone, .slice pa val.length pc] 38)
              refine hK.out _ _ ((heap_alloc_old _ _ (lt_of_heap hHeld6)).trans hHeld6) (fun hHeld7 => ?_)
              clear hK K
              try simp only [Act.put, List.setIfInBounds_toArray, List.set_cons_zero, List.set_cons_succ]
              generalize w6.alloc (.cells #[.string key, .bool gone, .slice pa val.length pc] 38) = w7 at *
              generalize w6.heap.size = r2 at *
              have H7 := Lib.hid h7
              clear h7 hr2
              refine wpAnyH_ready (rs := [3]) (by kernel_rfl) (by simp) ?_
              refine (AllReadyH.cons (o := { dst := some 60, op := _, type := _, pos := _, after := _, guard := _ }) rfl (fun K hK => ?_) AllReadyH.nil)
              refine step_wanted' rfl ?_
              go_simp
              go_at_call 11
              refine (to15_calls (l := [⟨key, gone, val⟩]) (c := 1) (one_in (H7.out.obj (t := r2) (o := (.cells #[.string key, .bool gone, .slice pa val.length pc] 38)) (by simp)) (HPV.out.keep H7.out.keeps)) (by simp) (fun x hx => by simp only [List.mem_singleton] at hx; subst hx; exact Nat.le_trans HVL.out (by omega))).mono ?_
              rintro e w8 ⟨cv, rfl, hat, hk8⟩
              obtain ⟨ca, cc, hcv⟩ := hat.form
              change cv = .slice ca 1 cc at hcv
              subst hcv
              obtain ⟨hle, hcm⟩ := hat.le
              have h8 := H7.out.held hat hk8
              have HLE := Lib.hid (And.intro hle hcm)
              refine hK.out _ _ (hk8.at hHeld7 (fun e => e)) (fun hHeld8 => ?_)
              clear hK K
              try simp only [Act.put, List.setIfInBounds_toArray, List.set_cons_zero, List.set_cons_succ]
              have H8 := Lib.hid h8
              clear h8 hat hk8 hle hcm
              refine wpAnyH_ready (rs := [4]) (by kernel_rfl) (by simp) ?_
              refine (AllReadyH.cons (o := { dst := some 61, op := _, type := _, pos := _, after := _, guard := _ }) rfl (fun K hK => ?_) AllReadyH.nil)
              obtain ⟨co, hap⟩ := H8.out.apply1 (a := ca) (c := cc) (l := [⟨key, gone, val⟩]) (fun wr ls h => h.insHeld (n := 1) (c := cc) (by simp)) (by have := HKI.out; omega) (wt_one HVL.out) HLE.out.1 HLE.out.2
              refine step_wanted' rfl ?_
              go_simp
              go_at_call 10
              refine hap.mono ?_
              rintro e w9 ⟨rfl, h9⟩
              have hb9 := h9.obj (t := b11) (o := .cells (([.string key, .bool gone, .slice pa val.length pc] : List Value).toArray) 38 (0, 0)) (by simp)
              refine hK.out _ _ hb9 (fun hHeld9 => ?_)
              clear hK K
              try simp only [Act.put, List.setIfInBounds_toArray, List.set_cons_zero, List.set_cons_succ]
              have H9 := Lib.hid h9
              clear h9 hap hb9
              refine wpAnyH_ready (rs := [8]) (by kernel_rfl) (by simp) ?_
              refine (AllReadyH.cons (o := { dst := some 65, op := _, type := _, pos := _, after := _, guard := _ }) rfl (fun K hK => ?_) AllReadyH.nil)
              refine step_wanted' rfl ?_
              go_simp
              go_at_call 12
              refine (H9.out.apply2 (a := some ⟨r7, 0, none⟩) (c := 1) (fun wr ls h => one_in (h.at (b := r7) (o := (.cells #[.string key, .bool gone, .slice pa val.length pc] 38)) (by simp)).1 (HPV.out.keep h.keeps)) (by have := HKI.out; omega) (by simp) (by unfold maxLen; omega)).mono ?_
              rintro e w10 ⟨rfl, h10⟩
              have hb10 := h10.obj (t := b11) (o := .cells (([.string key, .bool gone, .slice pa val.length pc] : List Value).toArray) 38 (0, 0)) (by simp)
              refine hK.out _ _ hb10 (fun hHeld10 => ?_)
              clear hK K
              try simp only [Act.put, List.setIfInBounds_toArray, List.set_cons_zero, List.set_cons_succ]
              refine wpAnyH_take (i := 9) (oi := { dst := some 66, op := _, type := _, pos := _, after := _, guard := _ }) (v := .bool false) rfl (by kernel_rfl) (by kernel_rfl) (by kernel_rfl) (fun _ _ _ h => h) (Or.inl ⟨by rfl, by intro w hSw; (try dsimp only at hSw); go_simp⟩) hHeld10 ?_
              try simp only [Act.put, List.setIfInBounds_toArray, List.set_cons_zero, List.set_cons_succ]
              refine wpAnyH_done (by kernel_rfl) ?_ _
              have H10 := Lib.hid h10.unbox.unbox.unbox.unbox
              clear h10 hb10
              go_wp2_with fail
              go_meet
              exact ⟨rfl, H10.out⟩
          case rest =>
            obtain ⟨rfl, hcut⟩ := hcut
            have HN := Lib.hid hcut
            clear hcut HB HBX
            go_wp2_with fail
            go_roundw
            case rel => exact ⟨k + 1, rfl, HX.out, HN.out⟩
            case measure => have := HX.out; simp only [intOf]; omega
      · obtain rfl : k = l.length := by omega
        obtain ⟨j2, t2, b2, q, u2, m, recs, v, lv, fs, dn, e1, e2, hti, hfn, h⟩ := hst
        simp only [Value.pointer.injEq, Option.some.injEq, Addr.mk.injEq, and_true] at e1 e2
        obtain rfl := e1
        obtain rfl := e2
        have hlen := hti.len
        have hgo := gOpen_calls (T := ⟨m, (framesOf recs).length, fs, dn⟩) h hti.ok.sorted (fun p hp => by have := (hti.ok.each p hp).2.1; unfold maxLen; omega) (by dsimp only; have := HL20.out; omega) (fun p hp => by have := (hti.ok.each p hp).2.2; omega)
        have hgr : gOpenOf fs = rFrom fs [] := gopen_rfrom hti.ok.sorted (by have := HL20.out; omega)
        have HVS := Lib.hid (show ∀ f ∈ fs, f.2.length ≤ 262144 from fun p hp => (hti.ok.each p hp).2.2)
        have HFN := Lib.hid hfn
        have HGO := Lib.hid hgo
        have HGR := Lib.hid hgr
        clear hgo hgr hlen hti hfn h hlt hk
        go_wp2_with fail
        refine HGO.out.mono ?_
        rintro e w5 hpost
        unfold GOpenPost at hpost
        dsimp only at hpost
        rw [HGR.out] at hpost
        cases hr : rFrom fs [] with
        | none =>
          rw [hr] at hpost
          obtain ⟨rfl, ho5⟩ := hpost
          have hro := ropen15_calls (u := u) (q := q) (lv := lv) (fs := fs) (dn := dn) ho5 (by simp [rtRes]) (by simp [rtRes]) (by have := HFN.out; have := HL20.out; omega) (fun f hf => by have := HVS.out f hf; omega)
          have HRO := Lib.hid hro
          have HRR := Lib.hid hr
          clear hro ho5 HGO hr
          go_wp2_with fail
          refine HRO.out.mono ?_
          rintro e w6 hpost
          unfold ROpen15Post at hpost
          rw [HRR.out] at hpost
          obtain ⟨rfl, ho6⟩ := hpost
          have HK := Lib.hid ho6.keeps
          clear ho6 HRO
          go_upto_region 19 with fail
          refine wp_region_held_drew (S := fun w' => Keeps (fun _ => False) w6 w') (by kernel_rfl) (by exact (Keeps.refl _ w6).drew) (fun hHeld => ?_)
          refine wpAnyH_take (i := 0) (oi := { dst := some 88, op := _, type := _, pos := _, after := _, guard := _ }) (v := .pointer none) rfl (by kernel_rfl) (by kernel_rfl) (by kernel_rfl) (fun _ _ _ h => h) (Or.inl ⟨by rfl, by intro w hSw; (try dsimp only at hSw); go_simp⟩) hHeld ?_
          try simp only [Act.put, List.setIfInBounds_toArray, List.set_cons_zero, List.set_cons_succ]
          refine wpAnyH_take (i := 1) (oi := { dst := some 89, op := _, type := _, pos := _, after := _, guard := _ }) (v := .bool true) rfl (by kernel_rfl) (by kernel_rfl) (by kernel_rfl) (fun _ _ _ h => h) (Or.inl ⟨by rfl, by intro w hSw; (try dsimp only at hSw); go_simp⟩) hHeld ?_
          try simp only [Act.put, List.setIfInBounds_toArray, List.set_cons_zero, List.set_cons_succ]
          refine wpAnyH_take (i := 2) (oi := { dst := some 90, op := _, type := _, pos := _, after := _, guard := _ }) (v := .bool true) rfl (by kernel_rfl) (by kernel_rfl) (by kernel_rfl) (fun _ _ _ h => h) (Or.inl ⟨by rfl, by intro w hSw; (try dsimp only at hSw); go_simp⟩) hHeld ?_
          try simp only [Act.put, List.setIfInBounds_toArray, List.set_cons_zero, List.set_cons_succ]
          refine wpAnyH_take (i := 3) (oi := { dst := some 91, op := _, type := _, pos := _, after := _, guard := _ }) (v := undef) rfl (by kernel_rfl) (by kernel_rfl) (by kernel_rfl) (fun _ _ _ h => h) (Or.inr ⟨by kernel_rfl, rfl⟩) hHeld ?_
          try simp only [Act.put, List.setIfInBounds_toArray, List.set_cons_zero, List.set_cons_succ]
          refine wpAnyH_take (i := 4) (oi := { dst := some 92, op := _, type := _, pos := _, after := _, guard := _ }) (v := undef) rfl (by kernel_rfl) (by kernel_rfl) (by kernel_rfl) (fun _ _ _ h => h) (Or.inr ⟨by kernel_rfl, rfl⟩) hHeld ?_
          try simp only [Act.put, List.setIfInBounds_toArray, List.set_cons_zero, List.set_cons_succ]
          refine wpAnyH_take (i := 5) (oi := { dst := some 93, op := _, type := _, pos := _, after := _, guard := _ }) (v := undef) rfl (by kernel_rfl) (by kernel_rfl) (by kernel_rfl) (fun _ _ _ h => h) (Or.inr ⟨by kernel_rfl, rfl⟩) hHeld ?_
          try simp only [Act.put, List.setIfInBounds_toArray, List.set_cons_zero, List.set_cons_succ]
          refine wpAnyH_take (i := 6) (oi := { dst := some 94, op := _, type := _, pos := _, after := _, guard := _ }) (v := undef) rfl (by kernel_rfl) (by kernel_rfl) (by kernel_rfl) (fun _ _ _ h => h) (Or.inr ⟨by kernel_rfl, rfl⟩) hHeld ?_
          try simp only [Act.put, List.setIfInBounds_toArray, List.set_cons_zero, List.set_cons_succ]
          refine wpAnyH_take (i := 7) (oi := { dst := some 95, op := _, type := _, pos := _, after := _, guard := _ }) (v := undef) rfl (by kernel_rfl) (by kernel_rfl) (by kernel_rfl) (fun _ _ _ h => h) (Or.inr ⟨by kernel_rfl, rfl⟩) hHeld ?_
          try simp only [Act.put, List.setIfInBounds_toArray, List.set_cons_zero, List.set_cons_succ]
          refine wpAnyH_take (i := 8) (oi := { dst := some 96, op := _, type := _, pos := _, after := _, guard := _ }) (v := undef) rfl (by kernel_rfl) (by kernel_rfl) (by kernel_rfl) (fun _ _ _ h => h) (Or.inr ⟨by kernel_rfl, rfl⟩) hHeld ?_
          try simp only [Act.put, List.setIfInBounds_toArray, List.set_cons_zero, List.set_cons_succ]
          refine wpAnyH_take (i := 9) (oi := { dst := some 97, op := _, type := _, pos := _, after := _, guard := _ }) (v := undef) rfl (by kernel_rfl) (by kernel_rfl) (by kernel_rfl) (fun _ _ _ h => h) (Or.inr ⟨by kernel_rfl, rfl⟩) hHeld ?_
          try simp only [Act.put, List.setIfInBounds_toArray, List.set_cons_zero, List.set_cons_succ]
          refine wpAnyH_take (i := 10) (oi := { dst := some 98, op := _, type := _, pos := _, after := _, guard := _ }) (v := undef) rfl (by kernel_rfl) (by kernel_rfl) (by kernel_rfl) (fun _ _ _ h => h) (Or.inr ⟨by kernel_rfl, rfl⟩) hHeld ?_
          try simp only [Act.put, List.setIfInBounds_toArray, List.set_cons_zero, List.set_cons_succ]
          refine wpAnyH_take (i := 11) (oi := { dst := some 99, op := _, type := _, pos := _, after := _, guard := _ }) (v := undef) rfl (by kernel_rfl) (by kernel_rfl) (by kernel_rfl) (fun _ _ _ h => h) (Or.inr ⟨by kernel_rfl, rfl⟩) hHeld ?_
          try simp only [Act.put, List.setIfInBounds_toArray, List.set_cons_zero, List.set_cons_succ]
          refine wpAnyH_take (i := 12) (oi := { dst := some 100, op := _, type := _, pos := _, after := _, guard := _ }) (v := undef) rfl (by kernel_rfl) (by kernel_rfl) (by kernel_rfl) (fun _ _ _ h => h) (Or.inr ⟨by kernel_rfl, rfl⟩) hHeld ?_
          try simp only [Act.put, List.setIfInBounds_toArray, List.set_cons_zero, List.set_cons_succ]
          refine wpAnyH_take (i := 13) (oi := { dst := some 101, op := _, type := _, pos := _, after := _, guard := _ }) (v := undef) rfl (by kernel_rfl) (by kernel_rfl) (by kernel_rfl) (fun _ _ _ h => h) (Or.inr ⟨by kernel_rfl, rfl⟩) hHeld ?_
          try simp only [Act.put, List.setIfInBounds_toArray, List.set_cons_zero, List.set_cons_succ]
          refine wpAnyH_take (i := 14) (oi := { dst := some 102, op := _, type := _, pos := _, after := _, guard := _ }) (v := undef) rfl (by kernel_rfl) (by kernel_rfl) (by kernel_rfl) (fun _ _ _ h => h) (Or.inr ⟨by kernel_rfl, rfl⟩) hHeld ?_
          try simp only [Act.put, List.setIfInBounds_toArray, List.set_cons_zero, List.set_cons_succ]
          refine wpAnyH_take (i := 15) (oi := { dst := some 103, op := _, type := _, pos := _, after := _, guard := _ }) (v := undef) rfl (by kernel_rfl) (by kernel_rfl) (by kernel_rfl) (fun _ _ _ h => h) (Or.inr ⟨by kernel_rfl, rfl⟩) hHeld ?_
          try simp only [Act.put, List.setIfInBounds_toArray, List.set_cons_zero, List.set_cons_succ]
          refine wpAnyH_take (i := 16) (oi := { dst := some 104, op := _, type := _, pos := _, after := _, guard := _ }) (v := undef) rfl (by kernel_rfl) (by kernel_rfl) (by kernel_rfl) (fun _ _ _ h => h) (Or.inr ⟨by kernel_rfl, rfl⟩) hHeld ?_
          try simp only [Act.put, List.setIfInBounds_toArray, List.set_cons_zero, List.set_cons_succ]
          refine wpAnyH_take (i := 17) (oi := { dst := some 105, op := _, type := _, pos := _, after := _, guard := _ }) (v := undef) rfl (by kernel_rfl) (by kernel_rfl) (by kernel_rfl) (fun _ _ _ h => h) (Or.inr ⟨by kernel_rfl, rfl⟩) hHeld ?_
          try simp only [Act.put, List.setIfInBounds_toArray, List.set_cons_zero, List.set_cons_succ]
          refine wpAnyH_take (i := 18) (oi := { dst := some 106, op := _, type := _, pos := _, after := _, guard := _ }) (v := undef) rfl (by kernel_rfl) (by kernel_rfl) (by kernel_rfl) (fun _ _ _ h => h) (Or.inr ⟨by kernel_rfl, rfl⟩) hHeld ?_
          try simp only [Act.put, List.setIfInBounds_toArray, List.set_cons_zero, List.set_cons_succ]
          refine wpAnyH_take (i := 19) (oi := { dst := some 107, op := _, type := _, pos := _, after := _, guard := _ }) (v := undef) rfl (by kernel_rfl) (by kernel_rfl) (by kernel_rfl) (fun _ _ _ h => h) (Or.inr ⟨by kernel_rfl, rfl⟩) hHeld ?_
          try simp only [Act.put, List.setIfInBounds_toArray, List.set_cons_zero, List.set_cons_succ]
          refine wpAnyH_take (i := 20) (oi := { dst := some 108, op := _, type := _, pos := _, after := _, guard := _ }) (v := undef) rfl (by kernel_rfl) (by kernel_rfl) (by kernel_rfl) (fun _ _ _ h => h) (Or.inr ⟨by kernel_rfl, rfl⟩) hHeld ?_
          try simp only [Act.put, List.setIfInBounds_toArray, List.set_cons_zero, List.set_cons_succ]
          refine wpAnyH_take (i := 21) (oi := { dst := some 109, op := _, type := _, pos := _, after := _, guard := _ }) (v := undef) rfl (by kernel_rfl) (by kernel_rfl) (by kernel_rfl) (fun _ _ _ h => h) (Or.inr ⟨by kernel_rfl, rfl⟩) hHeld ?_
          try simp only [Act.put, List.setIfInBounds_toArray, List.set_cons_zero, List.set_cons_succ]
          refine wpAnyH_take (i := 22) (oi := { dst := some 110, op := _, type := _, pos := _, after := _, guard := _ }) (v := undef) rfl (by kernel_rfl) (by kernel_rfl) (by kernel_rfl) (fun _ _ _ h => h) (Or.inr ⟨by kernel_rfl, rfl⟩) hHeld ?_
          try simp only [Act.put, List.setIfInBounds_toArray, List.set_cons_zero, List.set_cons_succ]
          refine wpAnyH_take (i := 23) (oi := { dst := some 111, op := _, type := _, pos := _, after := _, guard := _ }) (v := undef) rfl (by kernel_rfl) (by kernel_rfl) (by kernel_rfl) (fun _ _ _ h => h) (Or.inr ⟨by kernel_rfl, rfl⟩) hHeld ?_
          try simp only [Act.put, List.setIfInBounds_toArray, List.set_cons_zero, List.set_cons_succ]
          refine wpAnyH_take (i := 24) (oi := { dst := some 112, op := _, type := _, pos := _, after := _, guard := _ }) (v := undef) rfl (by kernel_rfl) (by kernel_rfl) (by kernel_rfl) (fun _ _ _ h => h) (Or.inr ⟨by kernel_rfl, rfl⟩) hHeld ?_
          try simp only [Act.put, List.setIfInBounds_toArray, List.set_cons_zero, List.set_cons_succ]
          refine wpAnyH_take (i := 25) (oi := { dst := some 113, op := _, type := _, pos := _, after := _, guard := _ }) (v := undef) rfl (by kernel_rfl) (by kernel_rfl) (by kernel_rfl) (fun _ _ _ h => h) (Or.inr ⟨by kernel_rfl, rfl⟩) hHeld ?_
          try simp only [Act.put, List.setIfInBounds_toArray, List.set_cons_zero, List.set_cons_succ]
          refine wpAnyH_take (i := 26) (oi := { dst := some 114, op := _, type := _, pos := _, after := _, guard := _ }) (v := undef) rfl (by kernel_rfl) (by kernel_rfl) (by kernel_rfl) (fun _ _ _ h => h) (Or.inr ⟨by kernel_rfl, rfl⟩) hHeld ?_
          try simp only [Act.put, List.setIfInBounds_toArray, List.set_cons_zero, List.set_cons_succ]
          refine wpAnyH_take (i := 27) (oi := { dst := some 115, op := _, type := _, pos := _, after := _, guard := _ }) (v := undef) rfl (by kernel_rfl) (by kernel_rfl) (by kernel_rfl) (fun _ _ _ h => h) (Or.inr ⟨by kernel_rfl, rfl⟩) hHeld ?_
          try simp only [Act.put, List.setIfInBounds_toArray, List.set_cons_zero, List.set_cons_succ]
          refine wpAnyH_take (i := 28) (oi := { dst := some 116, op := _, type := _, pos := _, after := _, guard := _ }) (v := undef) rfl (by kernel_rfl) (by kernel_rfl) (by kernel_rfl) (fun _ _ _ h => h) (Or.inr ⟨by kernel_rfl, rfl⟩) hHeld ?_
          try simp only [Act.put, List.setIfInBounds_toArray, List.set_cons_zero, List.set_cons_succ]
          refine wpAnyH_take (i := 29) (oi := { dst := some 117, op := _, type := _, pos := _, after := _, guard := _ }) (v := .bool true) rfl (by kernel_rfl) (by kernel_rfl) (by kernel_rfl) (fun _ _ _ h => h) (Or.inl ⟨by rfl, by intro w hSw; (try dsimp only at hSw); go_simp⟩) hHeld ?_
          try simp only [Act.put, List.setIfInBounds_toArray, List.set_cons_zero, List.set_cons_succ]
          refine wpAnyH_take (i := 30) (oi := { dst := some 2, op := _, type := _, pos := _, after := _, guard := _ }) (v := .bool true) rfl (by kernel_rfl) (by kernel_rfl) (by kernel_rfl) (fun _ _ _ h => h) (Or.inl ⟨by rfl, by intro w hSw; (try dsimp only at hSw); go_simp⟩) hHeld ?_
          try simp only [Act.put, List.setIfInBounds_toArray, List.set_cons_zero, List.set_cons_succ]
          refine wpAnyH_done (by kernel_rfl) ?_ _
          have HB := Lib.hid (HK.out.trans hHeld (fun _ _ e => e)).below
          clear hHeld
          go_wp2_with fail
          go_ret
          exact ⟨rfl, HB.out⟩
        | some es =>
          rw [hr] at hpost
          obtain ⟨x, ve, vl, rfl, ho5⟩ := hpost
          have hro := ropen15_calls (u := u) (q := q) (lv := lv) (fs := fs) (dn := dn) ho5 (by simp [rtRes]) (by simp [rtRes]) (by have := HFN.out; have := HL20.out; omega) (fun f hf => by have := HVS.out f hf; omega)
          have HRO := Lib.hid hro
          have HRR := Lib.hid hr
          clear hro ho5 HGO hr
          go_wp2_with fail
          refine HRO.out.mono ?_
          rintro e w6 hpost
          unfold ROpen15Post at hpost
          rw [HRR.out] at hpost
          obtain ⟨y, re, rfl, ho6⟩ := hpost
          have hlg : LogAt w6 x t ve vl es := ho6.logAt (by simp [gRes]) (by simp [gRes]) (by simp [gRes])
          have hrl : RLogAt w6 y u re es := ⟨(ho6.at (b := y) (o := rlogObj u re) (by simp)).1, (ho6.rows (v := re) (ll := es) (by simp)).1⟩
          obtain ⟨ra, rc, rfl⟩ := rows_form hrl.rows
          have hel := rFrom_len fs [] es HRR.out
          have HEL := Lib.hid (show es.length ≤ 256 ∧ ∀ p ∈ es, p.length < 70368744177663 from ⟨by have := hel.1; rw [List.length_nil] at this; have := HFN.out; have := HL20.out; omega, fun p hp => by
            rcases hel.2 p hp with h | ⟨f, hf, rfl⟩
            · cases h
            · have := HVS.out f hf; omega⟩)
          have HK := Lib.hid ho6.keeps
          have HLG := Lib.hid hlg
          have HRL := Lib.hid hrl
          clear ho6 HRO hlg hrl hel
          by_cases h0 : es.length = 0
          · have e0 : ((es.length : Int) == 0) = true := by rw [h0]; rfl
            clear h0
            go_upto_region 19 with fail
            refine wp_region_held_drew (S := fun w' => Keeps (fun _ => False) w6 w') (by kernel_rfl) (by exact (Keeps.refl _ w6).drew) (fun hHeld => ?_)
            refine wpAnyH_take (i := 0) (oi := { dst := some 88, op := _, type := _, pos := _, after := _, guard := _ }) (v := .pointer (some ⟨x, 0, none⟩)) rfl (by kernel_rfl) (by kernel_rfl) (by kernel_rfl) (fun _ _ _ h => h) (Or.inl ⟨by rfl, by intro w hSw; (try dsimp only at hSw); go_simp⟩) hHeld ?_
            try simp only [Act.put, List.setIfInBounds_toArray, List.set_cons_zero, List.set_cons_succ]
            refine wpAnyH_take (i := 1) (oi := { dst := some 89, op := _, type := _, pos := _, after := _, guard := _ }) (v := .bool false) rfl (by kernel_rfl) (by kernel_rfl) (by kernel_rfl) (fun _ _ _ h => h) (Or.inl ⟨by rfl, by intro w hSw; (try dsimp only at hSw); go_simp⟩) hHeld ?_
            try simp only [Act.put, List.setIfInBounds_toArray, List.set_cons_zero, List.set_cons_succ]
            refine wpAnyH_take (i := 2) (oi := { dst := some 90, op := _, type := _, pos := _, after := _, guard := _ }) (v := .bool false) rfl (by kernel_rfl) (by kernel_rfl) (by kernel_rfl) (fun _ _ _ h => h) (Or.inl ⟨by rfl, by intro w hSw; (try dsimp only at hSw); go_simp⟩) hHeld ?_
            try simp only [Act.put, List.setIfInBounds_toArray, List.set_cons_zero, List.set_cons_succ]
            refine wpAnyH_take (i := 3) (oi := { dst := some 91, op := _, type := _, pos := _, after := _, guard := _ }) (v := .pointer (some ⟨x, 0, none⟩)) rfl (by kernel_rfl) (by kernel_rfl) (by kernel_rfl) (fun _ _ _ h => h) (Or.inl ⟨by rfl, by intro w hSw; (try dsimp only at hSw); go_simp⟩) hHeld ?_
            try simp only [Act.put, List.setIfInBounds_toArray, List.set_cons_zero, List.set_cons_succ]
            refine wpAnyH_take (i := 5) (oi := { dst := some 93, op := _, type := _, pos := _, after := _, guard := _ }) (v := .pointer (some ⟨y, 0, none⟩)) rfl (by kernel_rfl) (by kernel_rfl) (by kernel_rfl) (fun _ _ _ h => h) (Or.inl ⟨by rfl, by intro w hSw; (try dsimp only at hSw); go_simp⟩) hHeld ?_
            try simp only [Act.put, List.setIfInBounds_toArray, List.set_cons_zero, List.set_cons_succ]
            refine wpAnyH_take (i := 6) (oi := { dst := some 94, op := _, type := _, pos := _, after := _, guard := _ }) (v := .pointer (some ⟨y, 0, none⟩)) rfl (by kernel_rfl) (by kernel_rfl) (by kernel_rfl) (fun _ _ _ h => h) (Or.inl ⟨by rfl, by intro w hSw; (try dsimp only at hSw); go_simp⟩) hHeld ?_
            try simp only [Act.put, List.setIfInBounds_toArray, List.set_cons_zero, List.set_cons_succ]
            refine wpAnyH_take (i := 7) (oi := { dst := some 95, op := _, type := _, pos := _, after := _, guard := _ }) (v := .pointer (some ⟨y, 1, none⟩)) rfl (by kernel_rfl) (by kernel_rfl) (by kernel_rfl) (fun _ _ _ h => h) (Or.inl ⟨by rfl, by intro w hSw; (try dsimp only at hSw); go_simp⟩) hHeld ?_
            try simp only [Act.put, List.setIfInBounds_toArray, List.set_cons_zero, List.set_cons_succ]
            refine wpAnyH_take (i := 8) (oi := { dst := some 96, op := _, type := _, pos := _, after := _, guard := _ }) (v := .slice ra es.length rc) rfl (by kernel_rfl) (by kernel_rfl) (by kernel_rfl) (fun _ _ _ h => h) (Or.inl ⟨by rfl, by intro w hSw; (try dsimp only at hSw); (have q0 := (rlog_cells (HRL.out.keep hSw).obj).2.1; go_simp)⟩) hHeld ?_
            try simp only [Act.put, List.setIfInBounds_toArray, List.set_cons_zero, List.set_cons_succ]
            refine wpAnyH_take (i := 9) (oi := { dst := some 97, op := _, type := _, pos := _, after := _, guard := _ }) (v := .int .i64 (es.length : Int)) rfl (by kernel_rfl) (by kernel_rfl) (by kernel_rfl) (fun _ _ _ h => h) (Or.inl ⟨by rfl, by intro w hSw; (try dsimp only at hSw); go_simp⟩) hHeld ?_
            try simp only [Act.put, List.setIfInBounds_toArray, List.set_cons_zero, List.set_cons_succ]
            refine wpAnyH_ready (rs := [4]) (by kernel_rfl) (by simp) ?_
            refine AllReadyH.cons (o := { dst := some 92, op := _, type := _, pos := _, after := _, guard := _ }) rfl (fun K hK => ?_) AllReadyH.nil
            go_simp
            go_at_call 15
            refine (gsize_runs (HLG.out.keep hHeld)).out.mono ?_
            rintro e w7 ⟨rfl, rfl⟩
            refine hK.out _ _ (by exact hHeld) (fun hHeld1 => ?_)
            clear hK K
            try simp only [Act.put, List.setIfInBounds_toArray, List.set_cons_zero, List.set_cons_succ]
            refine wpAnyH_take (i := 10) (oi := { dst := some 98, op := _, type := _, pos := _, after := _, guard := _ }) (v := .bool true) rfl (by kernel_rfl) (by kernel_rfl) (by kernel_rfl) (fun _ _ _ h => h) (Or.inl ⟨by rfl, by intro w hSw; (try dsimp only at hSw); go_simp⟩) hHeld1 ?_
            try simp only [Act.put, List.setIfInBounds_toArray, List.set_cons_zero, List.set_cons_succ]
            refine wpAnyH_take (i := 11) (oi := { dst := some 99, op := _, type := _, pos := _, after := _, guard := _ }) (v := .bool true) rfl (by kernel_rfl) (by kernel_rfl) (by kernel_rfl) (fun _ _ _ h => h) (Or.inl ⟨by rfl, by intro w hSw; (try dsimp only at hSw); go_simp⟩) hHeld1 ?_
            try simp only [Act.put, List.setIfInBounds_toArray, List.set_cons_zero, List.set_cons_succ]
            refine wpAnyH_take (i := 12) (oi := { dst := some 100, op := _, type := _, pos := _, after := _, guard := _ }) (v := .pointer (some ⟨y, 0, none⟩)) rfl (by kernel_rfl) (by kernel_rfl) (by kernel_rfl) (fun _ _ _ h => h) (Or.inl ⟨by rfl, by intro w hSw; (try dsimp only at hSw); go_simp⟩) hHeld1 ?_
            try simp only [Act.put, List.setIfInBounds_toArray, List.set_cons_zero, List.set_cons_succ]
            refine wpAnyH_take (i := 13) (oi := { dst := some 101, op := _, type := _, pos := _, after := _, guard := _ }) (v := .pointer (some ⟨y, 0, none⟩)) rfl (by kernel_rfl) (by kernel_rfl) (by kernel_rfl) (fun _ _ _ h => h) (Or.inl ⟨by rfl, by intro w hSw; (try dsimp only at hSw); go_simp⟩) hHeld1 ?_
            try simp only [Act.put, List.setIfInBounds_toArray, List.set_cons_zero, List.set_cons_succ]
            refine wpAnyH_take (i := 14) (oi := { dst := some 102, op := _, type := _, pos := _, after := _, guard := _ }) (v := .pointer (some ⟨y, 1, none⟩)) rfl (by kernel_rfl) (by kernel_rfl) (by kernel_rfl) (fun _ _ _ h => h) (Or.inl ⟨by rfl, by intro w hSw; (try dsimp only at hSw); go_simp⟩) hHeld1 ?_
            try simp only [Act.put, List.setIfInBounds_toArray, List.set_cons_zero, List.set_cons_succ]
            refine wpAnyH_take (i := 15) (oi := { dst := some 103, op := _, type := _, pos := _, after := _, guard := _ }) (v := .slice ra es.length rc) rfl (by kernel_rfl) (by kernel_rfl) (by kernel_rfl) (fun _ _ _ h => h) (Or.inl ⟨by rfl, by intro w hSw; (try dsimp only at hSw); (have q0 := (rlog_cells (HRL.out.keep hSw).obj).2.1; go_simp)⟩) hHeld1 ?_
            try simp only [Act.put, List.setIfInBounds_toArray, List.set_cons_zero, List.set_cons_succ]
            refine wpAnyH_take (i := 16) (oi := { dst := some 104, op := _, type := _, pos := _, after := _, guard := _ }) (v := .int .i64 (es.length : Int)) rfl (by kernel_rfl) (by kernel_rfl) (by kernel_rfl) (fun _ _ _ h => h) (Or.inl ⟨by rfl, by intro w hSw; (try dsimp only at hSw); go_simp⟩) hHeld1 ?_
            try simp only [Act.put, List.setIfInBounds_toArray, List.set_cons_zero, List.set_cons_succ]
            refine wpAnyH_take (i := 17) (oi := { dst := some 105, op := _, type := _, pos := _, after := _, guard := _ }) (v := .bool true) rfl (by kernel_rfl) (by kernel_rfl) (by kernel_rfl) (fun _ _ _ h => h) (Or.inl ⟨by rfl, by intro w hSw; (try dsimp only at hSw); go_simp⟩) hHeld1 ?_
            try simp only [Act.put, List.setIfInBounds_toArray, List.set_cons_zero, List.set_cons_succ]
            refine wpAnyH_take (i := 18) (oi := { dst := some 106, op := _, type := _, pos := _, after := _, guard := _ }) (v := .bool true) rfl (by kernel_rfl) (by kernel_rfl) (by kernel_rfl) (fun _ _ _ h => h) (Or.inl ⟨by rfl, by intro w hSw; (try dsimp only at hSw); go_simp⟩) hHeld1 ?_
            try simp only [Act.put, List.setIfInBounds_toArray, List.set_cons_zero, List.set_cons_succ]
            refine wpAnyH_take (i := 19) (oi := { dst := some 107, op := _, type := _, pos := _, after := _, guard := _ }) (v := undef) rfl (by kernel_rfl) (by kernel_rfl) (by kernel_rfl) (fun _ _ _ h => h) (Or.inr ⟨by kernel_rfl, rfl⟩) hHeld1 ?_
            try simp only [Act.put, List.setIfInBounds_toArray, List.set_cons_zero, List.set_cons_succ]
            refine wpAnyH_take (i := 20) (oi := { dst := some 108, op := _, type := _, pos := _, after := _, guard := _ }) (v := undef) rfl (by kernel_rfl) (by kernel_rfl) (by kernel_rfl) (fun _ _ _ h => h) (Or.inr ⟨by kernel_rfl, rfl⟩) hHeld1 ?_
            try simp only [Act.put, List.setIfInBounds_toArray, List.set_cons_zero, List.set_cons_succ]
            refine wpAnyH_take (i := 21) (oi := { dst := some 109, op := _, type := _, pos := _, after := _, guard := _ }) (v := undef) rfl (by kernel_rfl) (by kernel_rfl) (by kernel_rfl) (fun _ _ _ h => h) (Or.inr ⟨by kernel_rfl, rfl⟩) hHeld1 ?_
            try simp only [Act.put, List.setIfInBounds_toArray, List.set_cons_zero, List.set_cons_succ]
            refine wpAnyH_take (i := 22) (oi := { dst := some 110, op := _, type := _, pos := _, after := _, guard := _ }) (v := undef) rfl (by kernel_rfl) (by kernel_rfl) (by kernel_rfl) (fun _ _ _ h => h) (Or.inr ⟨by kernel_rfl, rfl⟩) hHeld1 ?_
            try simp only [Act.put, List.setIfInBounds_toArray, List.set_cons_zero, List.set_cons_succ]
            refine wpAnyH_take (i := 23) (oi := { dst := some 111, op := _, type := _, pos := _, after := _, guard := _ }) (v := undef) rfl (by kernel_rfl) (by kernel_rfl) (by kernel_rfl) (fun _ _ _ h => h) (Or.inr ⟨by kernel_rfl, rfl⟩) hHeld1 ?_
            try simp only [Act.put, List.setIfInBounds_toArray, List.set_cons_zero, List.set_cons_succ]
            refine wpAnyH_take (i := 24) (oi := { dst := some 112, op := _, type := _, pos := _, after := _, guard := _ }) (v := undef) rfl (by kernel_rfl) (by kernel_rfl) (by kernel_rfl) (fun _ _ _ h => h) (Or.inr ⟨by kernel_rfl, rfl⟩) hHeld1 ?_
            try simp only [Act.put, List.setIfInBounds_toArray, List.set_cons_zero, List.set_cons_succ]
            refine wpAnyH_take (i := 25) (oi := { dst := some 113, op := _, type := _, pos := _, after := _, guard := _ }) (v := undef) rfl (by kernel_rfl) (by kernel_rfl) (by kernel_rfl) (fun _ _ _ h => h) (Or.inr ⟨by kernel_rfl, rfl⟩) hHeld1 ?_
            try simp only [Act.put, List.setIfInBounds_toArray, List.set_cons_zero, List.set_cons_succ]
            refine wpAnyH_take (i := 26) (oi := { dst := some 114, op := _, type := _, pos := _, after := _, guard := _ }) (v := undef) rfl (by kernel_rfl) (by kernel_rfl) (by kernel_rfl) (fun _ _ _ h => h) (Or.inr ⟨by kernel_rfl, rfl⟩) hHeld1 ?_
            try simp only [Act.put, List.setIfInBounds_toArray, List.set_cons_zero, List.set_cons_succ]
            refine wpAnyH_take (i := 27) (oi := { dst := some 115, op := _, type := _, pos := _, after := _, guard := _ }) (v := .bool true) rfl (by kernel_rfl) (by kernel_rfl) (by kernel_rfl) (fun _ _ _ h => h) (Or.inl ⟨by rfl, by intro w hSw; (try dsimp only at hSw); go_simp⟩) hHeld1 ?_
            try simp only [Act.put, List.setIfInBounds_toArray, List.set_cons_zero, List.set_cons_succ]
            refine wpAnyH_take (i := 28) (oi := { dst := some 116, op := _, type := _, pos := _, after := _, guard := _ }) (v := .bool true) rfl (by kernel_rfl) (by kernel_rfl) (by kernel_rfl) (fun _ _ _ h => h) (Or.inl ⟨by rfl, by intro w hSw; (try dsimp only at hSw); go_simp⟩) hHeld1 ?_
            try simp only [Act.put, List.setIfInBounds_toArray, List.set_cons_zero, List.set_cons_succ]
            refine wpAnyH_take (i := 29) (oi := { dst := some 117, op := _, type := _, pos := _, after := _, guard := _ }) (v := .bool true) rfl (by kernel_rfl) (by kernel_rfl) (by kernel_rfl) (fun _ _ _ h => h) (Or.inl ⟨by rfl, by intro w hSw; (try dsimp only at hSw); go_simp⟩) hHeld1 ?_
            try simp only [Act.put, List.setIfInBounds_toArray, List.set_cons_zero, List.set_cons_succ]
            refine wpAnyH_take (i := 30) (oi := { dst := some 2, op := _, type := _, pos := _, after := _, guard := _ }) (v := .bool true) rfl (by kernel_rfl) (by kernel_rfl) (by kernel_rfl) (fun _ _ _ h => h) (Or.inl ⟨by rfl, by intro w hSw; (try dsimp only at hSw); go_simp⟩) hHeld1 ?_
            try simp only [Act.put, List.setIfInBounds_toArray, List.set_cons_zero, List.set_cons_succ]
            refine wpAnyH_done (by kernel_rfl) ?_ _
            have HB := Lib.hid (HK.out.trans hHeld1 (fun _ _ e => e)).below
            clear hHeld hHeld1
            go_wp2_with fail
            go_ret
            exact ⟨rfl, HB.out⟩
          · have e0 : ((es.length : Int) == 0) = false := by rw [beq_eq_false_iff_ne]; omega
            clear h0
            go_upto_region 19 with fail
            refine wp_region_held_drew (S := fun w' => Keeps (fun _ => False) w6 w') (by kernel_rfl) (by exact (Keeps.refl _ w6).drew) (fun hHeld => ?_)
            refine wpAnyH_take (i := 0) (oi := { dst := some 88, op := _, type := _, pos := _, after := _, guard := _ }) (v := .pointer (some ⟨x, 0, none⟩)) rfl (by kernel_rfl) (by kernel_rfl) (by kernel_rfl) (fun _ _ _ h => h) (Or.inl ⟨by rfl, by intro w hSw; (try dsimp only at hSw); go_simp⟩) hHeld ?_
            try simp only [Act.put, List.setIfInBounds_toArray, List.set_cons_zero, List.set_cons_succ]
            refine wpAnyH_take (i := 1) (oi := { dst := some 89, op := _, type := _, pos := _, after := _, guard := _ }) (v := .bool false) rfl (by kernel_rfl) (by kernel_rfl) (by kernel_rfl) (fun _ _ _ h => h) (Or.inl ⟨by rfl, by intro w hSw; (try dsimp only at hSw); go_simp⟩) hHeld ?_
            try simp only [Act.put, List.setIfInBounds_toArray, List.set_cons_zero, List.set_cons_succ]
            refine wpAnyH_take (i := 2) (oi := { dst := some 90, op := _, type := _, pos := _, after := _, guard := _ }) (v := .bool false) rfl (by kernel_rfl) (by kernel_rfl) (by kernel_rfl) (fun _ _ _ h => h) (Or.inl ⟨by rfl, by intro w hSw; (try dsimp only at hSw); go_simp⟩) hHeld ?_
            try simp only [Act.put, List.setIfInBounds_toArray, List.set_cons_zero, List.set_cons_succ]
            refine wpAnyH_take (i := 3) (oi := { dst := some 91, op := _, type := _, pos := _, after := _, guard := _ }) (v := .pointer (some ⟨x, 0, none⟩)) rfl (by kernel_rfl) (by kernel_rfl) (by kernel_rfl) (fun _ _ _ h => h) (Or.inl ⟨by rfl, by intro w hSw; (try dsimp only at hSw); go_simp⟩) hHeld ?_
            try simp only [Act.put, List.setIfInBounds_toArray, List.set_cons_zero, List.set_cons_succ]
            refine wpAnyH_take (i := 5) (oi := { dst := some 93, op := _, type := _, pos := _, after := _, guard := _ }) (v := .pointer (some ⟨y, 0, none⟩)) rfl (by kernel_rfl) (by kernel_rfl) (by kernel_rfl) (fun _ _ _ h => h) (Or.inl ⟨by rfl, by intro w hSw; (try dsimp only at hSw); go_simp⟩) hHeld ?_
            try simp only [Act.put, List.setIfInBounds_toArray, List.set_cons_zero, List.set_cons_succ]
            refine wpAnyH_take (i := 6) (oi := { dst := some 94, op := _, type := _, pos := _, after := _, guard := _ }) (v := .pointer (some ⟨y, 0, none⟩)) rfl (by kernel_rfl) (by kernel_rfl) (by kernel_rfl) (fun _ _ _ h => h) (Or.inl ⟨by rfl, by intro w hSw; (try dsimp only at hSw); go_simp⟩) hHeld ?_
            try simp only [Act.put, List.setIfInBounds_toArray, List.set_cons_zero, List.set_cons_succ]
            refine wpAnyH_take (i := 7) (oi := { dst := some 95, op := _, type := _, pos := _, after := _, guard := _ }) (v := .pointer (some ⟨y, 1, none⟩)) rfl (by kernel_rfl) (by kernel_rfl) (by kernel_rfl) (fun _ _ _ h => h) (Or.inl ⟨by rfl, by intro w hSw; (try dsimp only at hSw); go_simp⟩) hHeld ?_
            try simp only [Act.put, List.setIfInBounds_toArray, List.set_cons_zero, List.set_cons_succ]
            refine wpAnyH_take (i := 8) (oi := { dst := some 96, op := _, type := _, pos := _, after := _, guard := _ }) (v := .slice ra es.length rc) rfl (by kernel_rfl) (by kernel_rfl) (by kernel_rfl) (fun _ _ _ h => h) (Or.inl ⟨by rfl, by intro w hSw; (try dsimp only at hSw); (have q0 := (rlog_cells (HRL.out.keep hSw).obj).2.1; go_simp)⟩) hHeld ?_
            try simp only [Act.put, List.setIfInBounds_toArray, List.set_cons_zero, List.set_cons_succ]
            refine wpAnyH_take (i := 9) (oi := { dst := some 97, op := _, type := _, pos := _, after := _, guard := _ }) (v := .int .i64 (es.length : Int)) rfl (by kernel_rfl) (by kernel_rfl) (by kernel_rfl) (fun _ _ _ h => h) (Or.inl ⟨by rfl, by intro w hSw; (try dsimp only at hSw); go_simp⟩) hHeld ?_
            try simp only [Act.put, List.setIfInBounds_toArray, List.set_cons_zero, List.set_cons_succ]
            refine wpAnyH_ready (rs := [4]) (by kernel_rfl) (by simp) ?_
            refine AllReadyH.cons (o := { dst := some 92, op := _, type := _, pos := _, after := _, guard := _ }) rfl (fun K hK => ?_) AllReadyH.nil
            go_simp
            go_at_call 15
            refine (gsize_runs (HLG.out.keep hHeld)).out.mono ?_
            rintro e w7 ⟨rfl, rfl⟩
            refine hK.out _ _ (by exact hHeld) (fun hHeld1 => ?_)
            clear hK K
            try simp only [Act.put, List.setIfInBounds_toArray, List.set_cons_zero, List.set_cons_succ]
            refine wpAnyH_take (i := 10) (oi := { dst := some 98, op := _, type := _, pos := _, after := _, guard := _ }) (v := .bool true) rfl (by kernel_rfl) (by kernel_rfl) (by kernel_rfl) (fun _ _ _ h => h) (Or.inl ⟨by rfl, by intro w hSw; (try dsimp only at hSw); go_simp⟩) hHeld1 ?_
            try simp only [Act.put, List.setIfInBounds_toArray, List.set_cons_zero, List.set_cons_succ]
            refine wpAnyH_take (i := 11) (oi := { dst := some 99, op := _, type := _, pos := _, after := _, guard := _ }) (v := .bool true) rfl (by kernel_rfl) (by kernel_rfl) (by kernel_rfl) (fun _ _ _ h => h) (Or.inl ⟨by rfl, by intro w hSw; (try dsimp only at hSw); go_simp⟩) hHeld1 ?_
            try simp only [Act.put, List.setIfInBounds_toArray, List.set_cons_zero, List.set_cons_succ]
            refine wpAnyH_take (i := 12) (oi := { dst := some 100, op := _, type := _, pos := _, after := _, guard := _ }) (v := .pointer (some ⟨y, 0, none⟩)) rfl (by kernel_rfl) (by kernel_rfl) (by kernel_rfl) (fun _ _ _ h => h) (Or.inl ⟨by rfl, by intro w hSw; (try dsimp only at hSw); go_simp⟩) hHeld1 ?_
            try simp only [Act.put, List.setIfInBounds_toArray, List.set_cons_zero, List.set_cons_succ]
            refine wpAnyH_take (i := 13) (oi := { dst := some 101, op := _, type := _, pos := _, after := _, guard := _ }) (v := .pointer (some ⟨y, 0, none⟩)) rfl (by kernel_rfl) (by kernel_rfl) (by kernel_rfl) (fun _ _ _ h => h) (Or.inl ⟨by rfl, by intro w hSw; (try dsimp only at hSw); go_simp⟩) hHeld1 ?_
            try simp only [Act.put, List.setIfInBounds_toArray, List.set_cons_zero, List.set_cons_succ]
            refine wpAnyH_take (i := 14) (oi := { dst := some 102, op := _, type := _, pos := _, after := _, guard := _ }) (v := .pointer (some ⟨y, 1, none⟩)) rfl (by kernel_rfl) (by kernel_rfl) (by kernel_rfl) (fun _ _ _ h => h) (Or.inl ⟨by rfl, by intro w hSw; (try dsimp only at hSw); go_simp⟩) hHeld1 ?_
            try simp only [Act.put, List.setIfInBounds_toArray, List.set_cons_zero, List.set_cons_succ]
            refine wpAnyH_take (i := 15) (oi := { dst := some 103, op := _, type := _, pos := _, after := _, guard := _ }) (v := .slice ra es.length rc) rfl (by kernel_rfl) (by kernel_rfl) (by kernel_rfl) (fun _ _ _ h => h) (Or.inl ⟨by rfl, by intro w hSw; (try dsimp only at hSw); (have q0 := (rlog_cells (HRL.out.keep hSw).obj).2.1; go_simp)⟩) hHeld1 ?_
            try simp only [Act.put, List.setIfInBounds_toArray, List.set_cons_zero, List.set_cons_succ]
            refine wpAnyH_take (i := 16) (oi := { dst := some 104, op := _, type := _, pos := _, after := _, guard := _ }) (v := .int .i64 (es.length : Int)) rfl (by kernel_rfl) (by kernel_rfl) (by kernel_rfl) (fun _ _ _ h => h) (Or.inl ⟨by rfl, by intro w hSw; (try dsimp only at hSw); go_simp⟩) hHeld1 ?_
            try simp only [Act.put, List.setIfInBounds_toArray, List.set_cons_zero, List.set_cons_succ]
            refine wpAnyH_take (i := 17) (oi := { dst := some 105, op := _, type := _, pos := _, after := _, guard := _ }) (v := .bool false) rfl (by kernel_rfl) (by kernel_rfl) (by kernel_rfl) (fun _ _ _ h => h) (Or.inl ⟨by rfl, by intro w hSw; (try dsimp only at hSw); go_simp⟩) hHeld1 ?_
            try simp only [Act.put, List.setIfInBounds_toArray, List.set_cons_zero, List.set_cons_succ]
            refine wpAnyH_take (i := 18) (oi := { dst := some 106, op := _, type := _, pos := _, after := _, guard := _ }) (v := .bool false) rfl (by kernel_rfl) (by kernel_rfl) (by kernel_rfl) (fun _ _ _ h => h) (Or.inl ⟨by rfl, by intro w hSw; (try dsimp only at hSw); go_simp⟩) hHeld1 ?_
            try simp only [Act.put, List.setIfInBounds_toArray, List.set_cons_zero, List.set_cons_succ]
            refine wpAnyH_take (i := 19) (oi := { dst := some 107, op := _, type := _, pos := _, after := _, guard := _ }) (v := .pointer (some ⟨x, 0, none⟩)) rfl (by kernel_rfl) (by kernel_rfl) (by kernel_rfl) (fun _ _ _ h => h) (Or.inl ⟨by rfl, by intro w hSw; (try dsimp only at hSw); go_simp⟩) hHeld1 ?_
            try simp only [Act.put, List.setIfInBounds_toArray, List.set_cons_zero, List.set_cons_succ]
            refine wpAnyH_take (i := 20) (oi := { dst := some 108, op := _, type := _, pos := _, after := _, guard := _ }) (v := .pointer (some ⟨y, 0, none⟩)) rfl (by kernel_rfl) (by kernel_rfl) (by kernel_rfl) (fun _ _ _ h => h) (Or.inl ⟨by rfl, by intro w hSw; (try dsimp only at hSw); go_simp⟩) hHeld1 ?_
            try simp only [Act.put, List.setIfInBounds_toArray, List.set_cons_zero, List.set_cons_succ]
            refine wpAnyH_take (i := 21) (oi := { dst := some 109, op := _, type := _, pos := _, after := _, guard := _ }) (v := .pointer (some ⟨y, 0, none⟩)) rfl (by kernel_rfl) (by kernel_rfl) (by kernel_rfl) (fun _ _ _ h => h) (Or.inl ⟨by rfl, by intro w hSw; (try dsimp only at hSw); go_simp⟩) hHeld1 ?_
            try simp only [Act.put, List.setIfInBounds_toArray, List.set_cons_zero, List.set_cons_succ]
            refine wpAnyH_take (i := 22) (oi := { dst := some 110, op := _, type := _, pos := _, after := _, guard := _ }) (v := .pointer (some ⟨y, 0, none⟩)) rfl (by kernel_rfl) (by kernel_rfl) (by kernel_rfl) (fun _ _ _ h => h) (Or.inl ⟨by rfl, by intro w hSw; (try dsimp only at hSw); go_simp⟩) hHeld1 ?_
            try simp only [Act.put, List.setIfInBounds_toArray, List.set_cons_zero, List.set_cons_succ]
            refine wpAnyH_take (i := 23) (oi := { dst := some 111, op := _, type := _, pos := _, after := _, guard := _ }) (v := .pointer (some ⟨y, 1, none⟩)) rfl (by kernel_rfl) (by kernel_rfl) (by kernel_rfl) (fun _ _ _ h => h) (Or.inl ⟨by rfl, by intro w hSw; (try dsimp only at hSw); go_simp⟩) hHeld1 ?_
            try simp only [Act.put, List.setIfInBounds_toArray, List.set_cons_zero, List.set_cons_succ]
            refine wpAnyH_take (i := 24) (oi := { dst := some 112, op := _, type := _, pos := _, after := _, guard := _ }) (v := .slice ra es.length rc) rfl (by kernel_rfl) (by kernel_rfl) (by kernel_rfl) (fun _ _ _ h => h) (Or.inl ⟨by rfl, by intro w hSw; (try dsimp only at hSw); (have q0 := (rlog_cells (HRL.out.keep hSw).obj).2.1; go_simp)⟩) hHeld1 ?_
            try simp only [Act.put, List.setIfInBounds_toArray, List.set_cons_zero, List.set_cons_succ]
            refine wpAnyH_take (i := 25) (oi := { dst := some 113, op := _, type := _, pos := _, after := _, guard := _ }) (v := .int .i64 (es.length : Int)) rfl (by kernel_rfl) (by kernel_rfl) (by kernel_rfl) (fun _ _ _ h => h) (Or.inl ⟨by rfl, by intro w hSw; (try dsimp only at hSw); go_simp⟩) hHeld1 ?_
            try simp only [Act.put, List.setIfInBounds_toArray, List.set_cons_zero, List.set_cons_succ]
            refine wpAnyH_ready (rs := [26]) (by kernel_rfl) (by simp) ?_
            refine AllReadyH.cons (o := { dst := some 114, op := _, type := _, pos := _, after := _, guard := _ }) rfl (fun K hK => ?_) AllReadyH.nil
            go_simp
            go_at_call 16
            refine (tells_calls (HLG.out.keep hHeld1) (HRL.out.keep hHeld1) HEL.out.1 HEL.out.2 0 1 (es.length : Int)).mono ?_
            rintro e w8 ⟨rfl, hk8⟩
            refine hK.out _ _ (by exact hHeld1.trans hk8 (fun _ _ e => e)) (fun hHeld2 => ?_)
            clear hK K
            try simp only [Act.put, List.setIfInBounds_toArray, List.set_cons_zero, List.set_cons_succ]
            refine wpAnyH_take (i := 27) (oi := { dst := some 115, op := _, type := _, pos := _, after := _, guard := _ }) (v := .bool true) rfl (by kernel_rfl) (by kernel_rfl) (by kernel_rfl) (fun _ _ _ h => h) (Or.inl ⟨by rfl, by intro w hSw; (try dsimp only at hSw); go_simp⟩) hHeld2 ?_
            try simp only [Act.put, List.setIfInBounds_toArray, List.set_cons_zero, List.set_cons_succ]
            refine wpAnyH_take (i := 28) (oi := { dst := some 116, op := _, type := _, pos := _, after := _, guard := _ }) (v := .bool true) rfl (by kernel_rfl) (by kernel_rfl) (by kernel_rfl) (fun _ _ _ h => h) (Or.inl ⟨by rfl, by intro w hSw; (try dsimp only at hSw); go_simp⟩) hHeld2 ?_
            try simp only [Act.put, List.setIfInBounds_toArray, List.set_cons_zero, List.set_cons_succ]
            refine wpAnyH_take (i := 29) (oi := { dst := some 117, op := _, type := _, pos := _, after := _, guard := _ }) (v := .bool true) rfl (by kernel_rfl) (by kernel_rfl) (by kernel_rfl) (fun _ _ _ h => h) (Or.inl ⟨by rfl, by intro w hSw; (try dsimp only at hSw); go_simp⟩) hHeld2 ?_
            try simp only [Act.put, List.setIfInBounds_toArray, List.set_cons_zero, List.set_cons_succ]
            refine wpAnyH_take (i := 30) (oi := { dst := some 2, op := _, type := _, pos := _, after := _, guard := _ }) (v := .bool true) rfl (by kernel_rfl) (by kernel_rfl) (by kernel_rfl) (fun _ _ _ h => h) (Or.inl ⟨by rfl, by intro w hSw; (try dsimp only at hSw); go_simp⟩) hHeld2 ?_
            try simp only [Act.put, List.setIfInBounds_toArray, List.set_cons_zero, List.set_cons_succ]
            refine wpAnyH_done (by kernel_rfl) ?_ _
            have HB := Lib.hid (HK.out.trans hHeld2 (fun _ _ e => e)).below
            clear hHeld hHeld1 hHeld2 hk8
            go_wp2_with fail
            go_ret
            exact ⟨rfl, HB.out⟩
end Go.Proofs.YtddnikpdmjogiaaGreat
