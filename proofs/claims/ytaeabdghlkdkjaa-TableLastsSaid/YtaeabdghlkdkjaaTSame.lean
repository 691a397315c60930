/- The document's Same of layer 11. Printed in part by gensame11.py. -/
import Derived.Test.YtaeabdghlkdkjaaTPair
namespace Go.Proofs.Ytaeabdghlkdkjaa
set_option linter.unusedVariables false
open Go.RowKit Go.MapKept

theorem take_eq_step {fs1 fs2 : FS} {k : Nat} {f f2 : ByteArray × List UInt8} (h1 : fs1[k]? = some f) (h2 : fs2[k]? = some f2) (ht : fs1.take k = fs2.take k) (he : f = f2) : fs1.take (k + 1) = fs2.take (k + 1) := by
  obtain ⟨hk1, e1⟩ := List.getElem?_eq_some_iff.1 h1
  obtain ⟨hk2, e2⟩ := List.getElem?_eq_some_iff.1 h2
  rw [List.take_succ_eq_append_getElem hk1, List.take_succ_eq_append_getElem hk2, ht, e1, e2, he]
theorem ne_step {fs1 fs2 : FS} {k : Nat} {f f2 : ByteArray × List UInt8} (h1 : fs1[k]? = some f) (h2 : fs2[k]? = some f2) (he : f ≠ f2) : decide (fs1 = fs2) = false := by
  refine decide_eq_false (fun e => he ?_)
  rw [e, h2] at h1
  cases h1; rfl
set_option maxRecDepth 100000 in
set_option maxHeartbeats 1000000 in
theorem rsame11_calls {F G : Nat → Prop} {w : World} {v v2 : Value} {fs1 fs2 : FS} (h : PairsAt F w v fs1) (h2 : PairsAt G w v2 fs2) (hb : fs1.length ≤ 1099511627775) : Calls Try.prog 54 #[v, v2] w (QuietP w (.bool (decide (fs1 = fs2)))) := by
  obtain ⟨pa, pc, rfl, -, hpm⟩ := h.form
  obtain ⟨qa, qc, rfl, -, hqm⟩ := h2.form
  have H := Lib.hid h
  have H2 := Lib.hid h2
  have i1 : (fs1.length : Int) ≤ 1099511627775 := by omega
  obtain ⟨hl2, hq2⟩ : fs2.length ≤ qc ∧ qc ≤ maxLen := by obtain ⟨a, c, e, g1, g2⟩ := h2.form; cases e; exact ⟨g1, g2⟩
  unfold maxLen at hq2
  clear h h2 hb hpm hqm
  by_cases hn : fs1.length = fs2.length
  · have i2 : (fs2.length : Int) ≤ 1099511627775 := by omega
    have e0 : ((fs1.length : Int) != (fs2.length : Int)) = false := by rw [hn]; simp
    have HNL := Lib.hid hn
    clear hl2 hq2 hn
    go_enter Try.func54, Try.ntmps54
    go_wp2_with fail
    go_loopw [5] (fun iv wx => ∃ k : Nat, k ≤ fs1.length ∧ iv = .int .i64 (k : Int) ∧ fs1.take k = fs2.take k ∧ Keeps (fun _ => False) w wx) (fun iv _ => fs1.length - (intOf iv).toNat)
    case atStart => exact ⟨0, Nat.zero_le _, rfl, rfl, Keeps.refl _ _⟩
    case round =>
      obtain ⟨k, hk, rfl, ht, hq⟩ := hrel
      have k0 : (0 : Int) ≤ k := by omega
      by_cases hlt : k < fs1.length
      · obtain ⟨f, hf⟩ : ∃ f, fs1[k]? = some f := ⟨fs1[k], List.getElem?_eq_getElem hlt⟩
        obtain ⟨f2, hf2⟩ : ∃ f2, fs2[k]? = some f2 := ⟨fs2[k]'(by have := HNL.out; omega), List.getElem?_eq_getElem _⟩
        obtain ⟨g, cap, p, e, hc1, hc2, hB⟩ := (H.out.quiet hq (fun b hb _ => hb)).cell hf
        simp only [Value.slice.injEq] at e
        obtain ⟨rfl, -, rfl⟩ := e
        obtain ⟨g2, cap2, p2, e, hd1, hd2, hD⟩ := (H2.out.quiet hq (fun b hb _ => hb)).cell hf2
        simp only [Value.slice.injEq] at e
        obtain ⟨rfl, -, rfl⟩ := e
        obtain ⟨ba, bc, rfl, -, -⟩ := hB.form
        obtain ⟨da, dc, rfl, -, -⟩ := hD.form
        have k1 : (k : Int) < fs1.length := by omega
        have k2 : (k : Int) < fs2.length := by have := HNL.out; omega
        have hk1 : k + 1 ≤ fs1.length := by omega
        by_cases hkey : f.1 = f2.1
        · have hbe : (f.1.toList == f2.1.toList) = true := by rw [hkey]; simp
          have hsm := fun W (hW : Keeps (fun _ => False) wr W) => same_calls (hB.reads.keep hW) (hD.reads.keep hW)
          have HSM := Lib.hid hsm
          have HQ := Lib.hid hq
          have hS : ∀ W, Keeps (fun _ => False) wr W → W.cell? ⟨g, k * 2, none⟩ = some (.string f.1) ∧ W.cell? ⟨g, k * 2 + 1, none⟩ = some (.slice ba f.2.length bc) ∧ W.cell? ⟨g2, k * 2, none⟩ = some (.string f2.1) ∧ W.cell? ⟨g2, k * 2 + 1, none⟩ = some (.slice da f2.2.length dc) := fun W hW => ⟨cell_keep hc1 hW, cell_keep hc2 hW, cell_keep hd1 hW, cell_keep hd2 hW⟩
          have HS := Lib.hid hS
          obtain ⟨bv, hbv⟩ : ∃ bv, decide (f.2 = f2.2) = bv := ⟨_, rfl⟩
          rw [hbv] at HSM
          have HE := Lib.hid (show bv = true → ∃ k' : Nat, k' ≤ fs1.length ∧ Value.int .i64 ((k + 1 : Nat) : Int) = .int .i64 (k' : Int) ∧ fs1.take k' = fs2.take k' from fun e => ⟨k + 1, hk1, rfl, take_eq_step hf hf2 ht (Prod.ext hkey (of_decide_eq_true (hbv.trans e)))⟩)
          have HN := Lib.hid (show bv = false → decide (fs1 = fs2) = false from fun e => ne_step hf hf2 (fun e2 => by rw [e2, e] at hbv; simp at hbv))
          clear hsm hS hB hD hq ht hf hf2 hkey hlt hk hbv
          cases bv with
          | true =>
            have HEE := Lib.hid (HE.out rfl)
            clear HE HN
            go_wp2_with fail
            go_region_held3 (fun w' => w'.cell? ⟨g, k * 2, none⟩ = some (.string f.1) ∧ w'.cell? ⟨g, k * 2 + 1, none⟩ = some (.slice ba f.2.length bc) ∧ w'.cell? ⟨g2, k * 2, none⟩ = some (.string f2.1) ∧ w'.cell? ⟨g2, k * 2 + 1, none⟩ = some (.slice da f2.2.length dc)) (first | exact HS.out _ ((Keeps.refl _ _).drew) | exact HS.out _ (((Keeps.refl _ _).drew).trans hk2 (fun _ _ e => e)) | go_keep) (first | (go_at_call 19; refine (HSM.out _ ((Keeps.refl _ _).drew)).mono ?_; rintro e w2 ⟨rfl, hk2⟩))
            all_goals
              obtain ⟨k', g1, g2', g3⟩ := HEE.out
              have HREL := Lib.hid (⟨k', g1, g2', g3, (HQ.out.drew).trans hk2 (fun _ _ e => e)⟩ : ∃ k' : Nat, k' ≤ fs1.length ∧ Value.int .i64 ((k + 1 : Nat) : Int) = .int .i64 (k' : Int) ∧ fs1.take k' = fs2.take k' ∧ Keeps (fun _ => False) w w2)
              clear hk2 g1 g2' g3
              go_wp2_with fail
              go_roundw
              case rel => exact HREL.out
              case measure => simp [intOf]; omega
          | false =>
            have HNN := Lib.hid (HN.out rfl)
            clear HE HN
            go_wp2_with fail
            go_region_held3 (fun w' => w'.cell? ⟨g, k * 2, none⟩ = some (.string f.1) ∧ w'.cell? ⟨g, k * 2 + 1, none⟩ = some (.slice ba f.2.length bc) ∧ w'.cell? ⟨g2, k * 2, none⟩ = some (.string f2.1) ∧ w'.cell? ⟨g2, k * 2 + 1, none⟩ = some (.slice da f2.2.length dc)) (first | exact HS.out _ ((Keeps.refl _ _).drew) | exact HS.out _ (((Keeps.refl _ _).drew).trans hk2 (fun _ _ e => e)) | go_keep) (first | (go_at_call 19; refine (HSM.out _ ((Keeps.refl _ _).drew)).mono ?_; rintro e w2 ⟨rfl, hk2⟩))
            all_goals
              have HF := Lib.hid (show QuietP w (.bool (decide (fs1 = fs2))) (.returned (.bool false)) w2 by rw [HNN.out]; exact ⟨rfl, (HQ.out.drew).trans hk2 (fun _ _ e => e)⟩)
              clear hk2
              go_wp2_with fail
              go_ret
              exact HF.out
        · have hbe : (f.1.toList == f2.1.toList) = false := by
            cases hb : (f.1.toList == f2.1.toList) with
            | false => rfl
            | true => exact absurd (toList_inj (by simpa using hb)) hkey
          have hne := ne_step hf hf2 (fun e => hkey (by rw [e]))
          have HF := Lib.hid (show QuietP w (.bool (decide (fs1 = fs2))) (.returned (.bool false)) wr.drew by rw [hne]; exact ⟨rfl, hq.drew⟩)
          clear hne hB hD hq ht hf hf2 hkey hlt hk hc2 hd2
          go_wp2_with fail
          refine wp_region_held_drew (S := fun w' => w'.cell? ⟨g, k * 2, none⟩ = some (.string f.1) ∧ w'.cell? ⟨g2, k * 2, none⟩ = some (.string f2.1)) (by kernel_rfl) ⟨hc1, hd1⟩ (fun hHeld => ?_)
          refine wpAnyH_take (i := 0) (oi := { dst := some 17, op := _, type := _, pos := _, after := _, guard := _ }) (v := .slice (some ⟨g, 0, none⟩) fs1.length pc) rfl (by kernel_rfl) (by kernel_rfl) (by kernel_rfl) (fun _ _ _ h => h) (Or.inl ⟨by rfl, by intro w hSw; obtain ⟨s1, s2⟩ := hSw; go_simp⟩) hHeld ?_
          try simp only [Act.put, List.setIfInBounds_toArray, List.set_cons_zero, List.set_cons_succ]
          refine wpAnyH_take (i := 1) (oi := { dst := some 18, op := _, type := _, pos := _, after := _, guard := _ }) (v := .int .i64 (k : Int)) rfl (by kernel_rfl) (by kernel_rfl) (by kernel_rfl) (fun _ _ _ h => h) (Or.inl ⟨by rfl, by intro w hSw; obtain ⟨s1, s2⟩ := hSw; go_simp⟩) hHeld ?_
          try simp only [Act.put, List.setIfInBounds_toArray, List.set_cons_zero, List.set_cons_succ]
          refine wpAnyH_take (i := 2) (oi := { dst := some 19, op := _, type := _, pos := _, after := _, guard := _ }) (v := .pointer (some ⟨g, k * 2, none⟩)) rfl (by kernel_rfl) (by kernel_rfl) (by kernel_rfl) (fun _ _ _ h => h) (Or.inl ⟨by rfl, by intro w hSw; obtain ⟨s1, s2⟩ := hSw; go_simp⟩) hHeld ?_
          try simp only [Act.put, List.setIfInBounds_toArray, List.set_cons_zero, List.set_cons_succ]
          refine wpAnyH_take (i := 3) (oi := { dst := some 20, op := _, type := _, pos := _, after := _, guard := _ }) (v := .pointer (some ⟨g, k * 2, none⟩)) rfl (by kernel_rfl) (by kernel_rfl) (by kernel_rfl) (fun _ _ _ h => h) (Or.inl ⟨by rfl, by intro w hSw; obtain ⟨s1, s2⟩ := hSw; go_simp⟩) hHeld ?_
          try simp only [Act.put, List.setIfInBounds_toArray, List.set_cons_zero, List.set_cons_succ]
          refine wpAnyH_take (i := 4) (oi := { dst := some 21, op := _, type := _, pos := _, after := _, guard := _ }) (v := .string f.1) rfl (by kernel_rfl) (by kernel_rfl) (by kernel_rfl) (fun _ _ _ h => h) (Or.inl ⟨by rfl, by intro w hSw; obtain ⟨s1, s2⟩ := hSw; go_simp⟩) hHeld ?_
          try simp only [Act.put, List.setIfInBounds_toArray, List.set_cons_zero, List.set_cons_succ]
          refine wpAnyH_take (i := 5) (oi := { dst := some 22, op := _, type := _, pos := _, after := _, guard := _ }) (v := .slice (some ⟨g2, 0, none⟩) fs2.length qc) rfl (by kernel_rfl) (by kernel_rfl) (by kernel_rfl) (fun _ _ _ h => h) (Or.inl ⟨by rfl, by intro w hSw; obtain ⟨s1, s2⟩ := hSw; go_simp⟩) hHeld ?_
          try simp only [Act.put, List.setIfInBounds_toArray, List.set_cons_zero, List.set_cons_succ]
          refine wpAnyH_take (i := 6) (oi := { dst := some 23, op := _, type := _, pos := _, after := _, guard := _ }) (v := .int .i64 (k : Int)) rfl (by kernel_rfl) (by kernel_rfl) (by kernel_rfl) (fun _ _ _ h => h) (Or.inl ⟨by rfl, by intro w hSw; obtain ⟨s1, s2⟩ := hSw; go_simp⟩) hHeld ?_
          try simp only [Act.put, List.setIfInBounds_toArray, List.set_cons_zero, List.set_cons_succ]
          refine wpAnyH_take (i := 7) (oi := { dst := some 24, op := _, type := _, pos := _, after := _, guard := _ }) (v := .pointer (some ⟨g2, k * 2, none⟩)) rfl (by kernel_rfl) (by kernel_rfl) (by kernel_rfl) (fun _ _ _ h => h) (Or.inl ⟨by rfl, by intro w hSw; obtain ⟨s1, s2⟩ := hSw; go_simp⟩) hHeld ?_
          try simp only [Act.put, List.setIfInBounds_toArray, List.set_cons_zero, List.set_cons_succ]
          refine wpAnyH_take (i := 8) (oi := { dst := some 25, op := _, type := _, pos := _, after := _, guard := _ }) (v := .pointer (some ⟨g2, k * 2, none⟩)) rfl (by kernel_rfl) (by kernel_rfl) (by kernel_rfl) (fun _ _ _ h => h) (Or.inl ⟨by rfl, by intro w hSw; obtain ⟨s1, s2⟩ := hSw; go_simp⟩) hHeld ?_
          try simp only [Act.put, List.setIfInBounds_toArray, List.set_cons_zero, List.set_cons_succ]
          refine wpAnyH_take (i := 9) (oi := { dst := some 26, op := _, type := _, pos := _, after := _, guard := _ }) (v := .string f2.1) rfl (by kernel_rfl) (by kernel_rfl) (by kernel_rfl) (fun _ _ _ h => h) (Or.inl ⟨by rfl, by intro w hSw; obtain ⟨s1, s2⟩ := hSw; go_simp⟩) hHeld ?_
          try simp only [Act.put, List.setIfInBounds_toArray, List.set_cons_zero, List.set_cons_succ]
          refine wpAnyH_take (i := 10) (oi := { dst := some 27, op := _, type := _, pos := _, after := _, guard := _ }) (v := .bool true) rfl (by kernel_rfl) (by kernel_rfl) (by kernel_rfl) (fun _ _ _ h => h) (Or.inl ⟨by rfl, by intro w hSw; obtain ⟨s1, s2⟩ := hSw; go_simp⟩) hHeld ?_
          try simp only [Act.put, List.setIfInBounds_toArray, List.set_cons_zero, List.set_cons_succ]
          refine wpAnyH_take (i := 11) (oi := { dst := some 28, op := _, type := _, pos := _, after := _, guard := _ }) (v := .bool true) rfl (by kernel_rfl) (by kernel_rfl) (by kernel_rfl) (fun _ _ _ h => h) (Or.inl ⟨by rfl, by intro w hSw; obtain ⟨s1, s2⟩ := hSw; go_simp⟩) hHeld ?_
          try simp only [Act.put, List.setIfInBounds_toArray, List.set_cons_zero, List.set_cons_succ]
          refine wpAnyH_take (i := 12) (oi := { dst := some 29, op := _, type := _, pos := _, after := _, guard := _ }) (v := undef) rfl (by kernel_rfl) (by kernel_rfl) (by kernel_rfl) (fun _ _ _ h => h) (Or.inr ⟨by kernel_rfl, rfl⟩) hHeld ?_
          try simp only [Act.put, List.setIfInBounds_toArray, List.set_cons_zero, List.set_cons_succ]
          refine wpAnyH_take (i := 13) (oi := { dst := some 30, op := _, type := _, pos := _, after := _, guard := _ }) (v := undef) rfl (by kernel_rfl) (by kernel_rfl) (by kernel_rfl) (fun _ _ _ h => h) (Or.inr ⟨by kernel_rfl, rfl⟩) hHeld ?_
          try simp only [Act.put, List.setIfInBounds_toArray, List.set_cons_zero, List.set_cons_succ]
          refine wpAnyH_take (i := 14) (oi := { dst := some 31, op := _, type := _, pos := _, after := _, guard := _ }) (v := undef) rfl (by kernel_rfl) (by kernel_rfl) (by kernel_rfl) (fun _ _ _ h => h) (Or.inr ⟨by kernel_rfl, rfl⟩) hHeld ?_
          try simp only [Act.put, List.setIfInBounds_toArray, List.set_cons_zero, List.set_cons_succ]
          refine wpAnyH_take (i := 15) (oi := { dst := some 32, op := _, type := _, pos := _, after := _, guard := _ }) (v := undef) rfl (by kernel_rfl) (by kernel_rfl) (by kernel_rfl) (fun _ _ _ h => h) (Or.inr ⟨by kernel_rfl, rfl⟩) hHeld ?_
          try simp only [Act.put, List.setIfInBounds_toArray, List.set_cons_zero, List.set_cons_succ]
          refine wpAnyH_take (i := 16) (oi := { dst := some 33, op := _, type := _, pos := _, after := _, guard := _ }) (v := undef) rfl (by kernel_rfl) (by kernel_rfl) (by kernel_rfl) (fun _ _ _ h => h) (Or.inr ⟨by kernel_rfl, rfl⟩) hHeld ?_
          try simp only [Act.put, List.setIfInBounds_toArray, List.set_cons_zero, List.set_cons_succ]
          refine wpAnyH_take (i := 17) (oi := { dst := some 34, op := _, type := _, pos := _, after := _, guard := _ }) (v := undef) rfl (by kernel_rfl) (by kernel_rfl) (by kernel_rfl) (fun _ _ _ h => h) (Or.inr ⟨by kernel_rfl, rfl⟩) hHeld ?_
          try simp only [Act.put, List.setIfInBounds_toArray, List.set_cons_zero, List.set_cons_succ]
          refine wpAnyH_take (i := 18) (oi := { dst := some 35, op := _, type := _, pos := _, after := _, guard := _ }) (v := undef) rfl (by kernel_rfl) (by kernel_rfl) (by kernel_rfl) (fun _ _ _ h => h) (Or.inr ⟨by kernel_rfl, rfl⟩) hHeld ?_
          try simp only [Act.put, List.setIfInBounds_toArray, List.set_cons_zero, List.set_cons_succ]
          refine wpAnyH_take (i := 19) (oi := { dst := some 36, op := _, type := _, pos := _, after := _, guard := _ }) (v := undef) rfl (by kernel_rfl) (by kernel_rfl) (by kernel_rfl) (fun _ _ _ h => h) (Or.inr ⟨by kernel_rfl, rfl⟩) hHeld ?_
          try simp only [Act.put, List.setIfInBounds_toArray, List.set_cons_zero, List.set_cons_succ]
          refine wpAnyH_take (i := 20) (oi := { dst := some 37, op := _, type := _, pos := _, after := _, guard := _ }) (v := undef) rfl (by kernel_rfl) (by kernel_rfl) (by kernel_rfl) (fun _ _ _ h => h) (Or.inr ⟨by kernel_rfl, rfl⟩) hHeld ?_
          try simp only [Act.put, List.setIfInBounds_toArray, List.set_cons_zero, List.set_cons_succ]
          refine wpAnyH_take (i := 21) (oi := { dst := some 38, op := _, type := _, pos := _, after := _, guard := _ }) (v := undef) rfl (by kernel_rfl) (by kernel_rfl) (by kernel_rfl) (fun _ _ _ h => h) (Or.inr ⟨by kernel_rfl, rfl⟩) hHeld ?_
          try simp only [Act.put, List.setIfInBounds_toArray, List.set_cons_zero, List.set_cons_succ]
          refine wpAnyH_take (i := 22) (oi := { dst := some 39, op := _, type := _, pos := _, after := _, guard := _ }) (v := undef) rfl (by kernel_rfl) (by kernel_rfl) (by kernel_rfl) (fun _ _ _ h => h) (Or.inr ⟨by kernel_rfl, rfl⟩) hHeld ?_
          try simp only [Act.put, List.setIfInBounds_toArray, List.set_cons_zero, List.set_cons_succ]
          refine wpAnyH_take (i := 23) (oi := { dst := some 40, op := _, type := _, pos := _, after := _, guard := _ }) (v := undef) rfl (by kernel_rfl) (by kernel_rfl) (by kernel_rfl) (fun _ _ _ h => h) (Or.inr ⟨by kernel_rfl, rfl⟩) hHeld ?_
          try simp only [Act.put, List.setIfInBounds_toArray, List.set_cons_zero, List.set_cons_succ]
          refine wpAnyH_take (i := 24) (oi := { dst := some 41, op := _, type := _, pos := _, after := _, guard := _ }) (v := .bool true) rfl (by kernel_rfl) (by kernel_rfl) (by kernel_rfl) (fun _ _ _ h => h) (Or.inl ⟨by rfl, by intro w hSw; obtain ⟨s1, s2⟩ := hSw; go_simp⟩) hHeld ?_
          try simp only [Act.put, List.setIfInBounds_toArray, List.set_cons_zero, List.set_cons_succ]
          refine wpAnyH_done (by kernel_rfl) ?_ _
          go_wp2_with fail
          go_ret
          exact HF.out
      · obtain rfl : k = fs1.length := by omega
        have he : fs1 = fs2 := by rw [List.take_length, HNL.out, List.take_length] at ht; exact ht
        have HF := Lib.hid (show QuietP w (.bool (decide (fs1 = fs2))) (.returned (.bool true)) wr by rw [decide_eq_true he]; exact ⟨rfl, hq⟩)
        clear he ht hq hlt hk
        go_wp2_with fail
        go_ret
        exact HF.out
  · have e0 : ((fs1.length : Int) != (fs2.length : Int)) = true := by simp; omega
    have hne : decide (fs1 = fs2) = false := decide_eq_false (fun e => hn (by rw [e]))
    rw [hne]
    clear hn hl2 hq2 hne
    go_enter Try.func54, Try.ntmps54
    go_wp2_with fail
    go_ret
    exact ⟨rfl, Keeps.refl _ _⟩
end Go.Proofs.Ytaeabdghlkdkjaa
