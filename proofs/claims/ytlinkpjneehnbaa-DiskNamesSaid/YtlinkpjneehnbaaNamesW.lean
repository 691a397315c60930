/- The walk of DiskNames. -/
import Derived.Test.YtlinkpjneehnbaaROwn
import Derived.Test.YtlinkpjneehnbaaNames
namespace Go.Proofs.Ytlinkpjneehnbaa
set_option linter.unusedVariables false
open Go.RowKit Go.MapKept

theorem elem_strings : Try.prog.underlying 72 = some (.slice (Try.prog.elem 72)) := by kernel_rfl
theorem size_str (w : World) : (sizeOf (Try.prog.elem 72)).run Try.prog w = .ok 1 w := by kernel_rfl
/-- 'l[:j]'. -/
theorem head_strs (w : World) (a : Option Addr) (n c j : Nat) (h1 : j ≤ c) : (Instr.sliceAt 72 (.slice a n c) none (some (.int .i64 (j : Int))) none).run Try.prog w = .ok (.slice a j c) w := by
  rw [run_sliceAt_slice _ _ _ _ _ _ elem_strings, run_slice_h w 72 a n c elem_strings .i64 (j : Int) (by omega) (by omega), size_str]
  simp only [Result.andThen, sliced, Int.toNat_natCast, Nat.zero_mul, Nat.sub_zero]
  have : (a.map fun x => x.add 0) = a := by cases a with
    | none => rfl
    | some x => simp [Addr.add_zero']
  rw [this]
  simp

theorem Calm.step {m : DM} (h : Calm m) (c : Ch) : Calm (stepOf m c).2 := by
  unfold stepOf
  split
  · exact h
  · split
    · rw [h.does]
      exact ⟨h.down, h.fuse⟩
    · exact h
set_option maxRecDepth 100000 in
set_option maxHeartbeats 4000000 in
theorem names_walk (a : Option Addr) (len cap : Nat) (hd : ByteArray) (w : World) (hlc : len ≤ cap) (hcm : cap ≤ maxLen) (hin : StrsIn w a len) :
    Calls Try.prog 12 #[.slice a len cap, .string hd] w fun e w' => e = .returned (.bool true) ∧ Below w.heap.size w w' := by
  unfold maxLen at hcm
  obtain ⟨K, hK⟩ : ∃ K : Nat, min (len : Int) 60 = (K : Int) := ⟨min len 60, by omega⟩
  have hKl : K ≤ len := by omega
  have hK60 : K ≤ 60 := by omega
  have hKm : max (K : Int) 0 = (K : Int) := by omega
  have k0 : (0 : Int) ≤ (K : Int) := by omega
  have k1 : (K : Int) ≤ (cap : Int) := by omega
  have hsl := fun w => head_strs w a len cap K (by omega)
  have HIN := Lib.hid hin
  clear hin
  obtain ⟨d, w1, hnew, ho1⟩ := (Own.start w).new 0 (by omega) (by omega)
  obtain ⟨r, w2, hrn, ho2⟩ := ho1.rnew 0
  have haw := awake_calls w2
  have HO2 := Lib.hid ho2
  clear ho1 ho2
  go_enter Try.func12, Try.ntmps12
  go_wp2_with fail
  refine hnew.out.mono ?_; rintro e w' ⟨rfl, rfl⟩
  go_wp2_with fail
  refine hrn.out.mono ?_; rintro e w' ⟨rfl, rfl⟩
  go_wp2_with fail
  refine haw.mono ?_; rintro e w3 ⟨rfl, hk3⟩
  have HO3 := Lib.hid (HO2.out.quiet hk3).swap
  clear hk3 HO2 haw hnew hrn
  go_wp2_with fail
  clear hK hKm hsl
  go_loopw [33] (fun i wx => ∃ (k : Nat) (m : DM), k ≤ K ∧ i = .int .i64 (k : Int) ∧ Tidy m k k ∧ Calm m ∧ Own w wx [rDisk w.heap.size d m, rRef w.heap.size r m]) (fun i _ => K - (intOf i).toNat)
  case atStart => exact ⟨0, newOf 0, Nat.zero_le _, rfl, Tidy.new (by omega) (by omega), ⟨rfl, rfl⟩, HO3.out⟩
  case round =>
    obtain ⟨k, m, hk, rfl, ht, hcalm, ho⟩ := hrel
    have j0 : (0 : Int) ≤ k := by omega
    by_cases hlt : k < K
    · obtain ⟨x, s, rfl, hcx, _⟩ := HIN.out k (by omega)
      have hcz : wr.cell? (x.add k) = some (.string s) := (World.cell?_of_block (ho.keeps.block _ (World.block_lt_of_cell? w _ hcx) (fun e => e))).trans hcx
      have j1 : (k : Int) < K := by omega
      have h1 := isname_runs s wr
      have h2 := risname_runs s wr
      obtain ⟨w4, hcr, ho4⟩ := ho.create s ht.good.fuse (ht.good.loose (by omega))
      have hst := (ho4.swap).rstep ht (by omega) (by omega) ⟨0, s, ⟨#[]⟩, []⟩ ⟨by simp, by simp⟩ (fun _ => rfl) (pv := .slice none 0 0) (fun _ w' _ _ => reads_nil w')
      have htd := ht.step ⟨0, s, ⟨#[]⟩, []⟩ ⟨by simp, by simp⟩ (fun _ => rfl) (fun _ => Nat.zero_le _)
      have hcm2 := hcalm.step ⟨0, s, ⟨#[]⟩, []⟩
      rw [step_create] at hst htd hcm2
      simp only at hst
      generalize createOf m s = res at hst htd hcm2 hcr ho4
      obtain ⟨z, m2⟩ := res
      simp only at hst htd hcm2 hcr ho4
      generalize isName s = nb at h1 h2
      have HST := Lib.hid hst
      have HTD := Lib.hid htd
      have HCM := Lib.hid hcm2
      clear hst htd hcm2 ho4 ho ht hcalm HIN HO3 hcx
      cases nb
      all_goals
        go_wp2_with (first | (go_at_call 52; refine h1.out.mono ?_; rintro e w' ⟨rfl, rfl⟩) | (go_at_call 53; refine h2.out.mono ?_; rintro e w' ⟨rfl, rfl⟩) | (go_at_call 20; refine hcr.out.mono ?_; rintro e w' ⟨rfl, rfl⟩) | (go_at_call 54; refine HST.out.mono ?_; rintro e w5 ⟨rfl, ho5⟩))
        go_roundw
        case rel => exact ⟨k + 1, m2, by omega, rfl, HTD.out, HCM.out, ho5.swap⟩
        case measure => simp [intOf]; omega
    · obtain rfl : k = K := by omega
      clear HIN HO3
      obtain ⟨Fd, hdi, _⟩ := ho.disk
      have hnm := names_calls hdi hd hcalm.down ht.snow (fun p hp => by have := ht.names p hp; unfold maxLen; omega) (by have := ht.lnow; omega)
      have hln := ht.lnow
      have hnl : (namesOf m.now hd).length ≤ m.now.length := by unfold namesOf; rw [List.length_map]; exact List.length_filter_le _ _
      have HO := Lib.hid ho
      have HNM := Lib.hid hnm
      clear ho ht hcalm hdi hnm
      go_wp2_with fail
      refine HNM.out.mono ?_
      rintro e w4 ⟨v4, rfl, hs4, k4⟩
      obtain ⟨a4, c4, rfl⟩ := hs4.form
      have ho4 := HO.out.quiet k4
      obtain ⟨F, vn, vs, vl, href⟩ := ho4.ref (r := r) (m := m) (by simp)
      obtain ⟨na, nc, rfl, hnc, _⟩ := href.now.form
      have cr := href.cells.c1
      have HREF := Lib.hid href
      have HS4 := Lib.hid hs4
      have HO4 := Lib.hid ho4
      clear href hs4 ho4 k4 HO HNM
      go_wp2_with fail
      have i9 : (m.now.length : Int) ≤ 60 := by omega
      go_loopw [12, 64] (fun ov i wx => ∃ (k2 : Nat) (out : List ByteArray), k2 ≤ m.now.length ∧ i = .int .i64 (k2 : Int) ∧ out.length ≤ k2 ∧ namesOf m.now hd = out ++ namesOf (m.now.drop k2) hd ∧ StrsAt w4.heap.size wx ov out ∧ Keeps (fun _ => False) w4 wx) (fun _ i _ => m.now.length - (intOf i).toNat)
      case atStart => exact ⟨0, [], Nat.zero_le _, rfl, Nat.le_refl _, by simp, StrsAt.nil _ _, Keeps.refl _ _⟩
      case round =>
        obtain ⟨k2, out, hk2, rfl, hlen, hinv, hou, hq⟩ := hrel
        have m0 : (0 : Int) ≤ k2 := by omega
        obtain ⟨oa, oc, rfl⟩ := hou.form
        by_cases hlt2 : k2 < m.now.length
        · obtain ⟨f, hf⟩ : ∃ f, m.now[k2]? = some f := ⟨m.now[k2], List.getElem?_eq_getElem hlt2⟩
          obtain ⟨g, cap', p, e, hc1, hc2, hB⟩ := (HREF.out.now.quiet hq (G := F) (fun _ h _ => h)).cell hf
          simp only [Value.slice.injEq] at e
          obtain ⟨rfl, -, rfl⟩ := e
          obtain ⟨pa, pc, rfl, _, _⟩ := hB.form
          have m1 : (k2 : Int) < m.now.length := by omega
          have hstep := namesOf_step hf hinv
          have hc1' : wr.cell? ⟨g, 0 + k2 * 2 + 0, none⟩ = some (.string f.1) := by simpa using hc1
          obtain ⟨w5, hw5⟩ : ∃ w5, w5 = wr.alloc (.cells #[.string f.1, .slice pa f.2.length pc] 86) := ⟨_, rfl⟩
          have hk5 : Keeps (fun _ => False) wr w5 := by rw [hw5]; exact (Keeps.refl _ wr).alloc _
          have hb5 : w5.heap[wr.heap.size]? = some (.cells #[.string f.1, .slice pa f.2.length pc] 86 (0, 0)) := by rw [hw5]; exact heap_alloc_new _ _
          have g5 : w5.cell? ⟨wr.heap.size, 0, none⟩ = some (.string f.1) := cell_at hb5 rfl
          have hbeg := rbegins_runs f.1 hd w5
          have hou5 := hou.keep hk5
          have hq5 := hq.trans hk5 (fun _ _ e => e)
          by_cases hbg : beginsB f.1 hd = true
          · rw [if_pos hbg] at hstep
            rw [hbg] at hbeg
            obtain ⟨a2, c2, w6, hrun, ho6, hk6, hbase⟩ := hou5.push hq5.size f.1 (by omega)
            have hq6 := hq5.trans hk6 (fun b hb e => by have := hbase b e; omega)
            have HRUN := Lib.hid hrun
            have HREL := Lib.hid (⟨k2 + 1, out ++ [f.1], by omega, rfl, by simp; omega, hstep, by rw [show (out ++ [f.1]).length = out.length + 1 by simp]; exact ho6, hq6⟩ : ∃ (k' : Nat) (out' : List ByteArray), k' ≤ m.now.length ∧ Value.int .i64 ((k2 + 1 : Nat) : Int) = .int .i64 (k' : Int) ∧ out'.length ≤ k' ∧ namesOf m.now hd = out' ++ namesOf (m.now.drop k') hd ∧ StrsAt w4.heap.size w6 (.slice a2 ((out ++ [f.1]).length) c2) out' ∧ Keeps (fun _ => False) w4 w6)
            clear hstep hinv hou hq hf hrun ho6 hk6 hq6 hbase hbg hou5 hq5 hk5 hb5 hB
            go_wp2_with fail
            rw [← hw5]
            clear hw5
            refine hbeg.out.mono ?_
            rintro e w' ⟨rfl, rfl⟩
            go_wp2_with (at_builtin; (first | (refine wpList_append_run (w := w5.alloc (.cells #[.string f.1] 9)) rfl _ _ _ _ rfl rfl rfl HRUN.out ?_)))
            go_roundw
            case rel => have h := HREL.out; simp only [List.length_append, List.length_cons, List.length_nil, Nat.zero_add] at h; exact h
            case measure => simp [intOf]; omega
          · rw [if_neg hbg] at hstep
            rw [Bool.eq_false_iff.2 hbg] at hbeg
            have HREL := Lib.hid (⟨k2 + 1, out, by omega, rfl, by omega, hstep, hou5, hq5⟩ : ∃ (k' : Nat) (out' : List ByteArray), k' ≤ m.now.length ∧ Value.int .i64 ((k2 + 1 : Nat) : Int) = .int .i64 (k' : Int) ∧ out'.length ≤ k' ∧ namesOf m.now hd = out' ++ namesOf (m.now.drop k') hd ∧ StrsAt w4.heap.size w5 (.slice oa out.length oc) out' ∧ Keeps (fun _ => False) w4 w5)
            clear hstep hinv hou hq hf hbg hou5 hq5 hk5 hb5 hB
            go_wp2_with fail
            rw [← hw5]
            clear hw5
            refine hbeg.out.mono ?_
            rintro e w' ⟨rfl, rfl⟩
            go_wp2_with fail
            go_roundw
            case rel => exact HREL.out
            case measure => simp [intOf]; omega
        · obtain rfl : k2 = m.now.length := by omega
          rw [List.drop_length] at hinv
          have hinv : namesOf m.now hd = out := by simpa [namesOf] using hinv
          have HOU := Lib.hid hou
          have HSK := Lib.hid (HS4.out.keep hq)
          have HBEL := Lib.hid (HO4.out.keeps.trans hq (fun _ _ e => e))
          have n0 : (out.length : Int) ≤ 60 := by omega
          rw [hinv] at HSK ⊢
          clear hou hq HS4 HO4 HREF hlen hnl hln i9 cr
          go_wp2_with fail
          generalize wr = wz at *
          go_loopw [89] (fun i wx => ∃ (k3 : Nat), k3 ≤ out.length ∧ i = .int .i64 (k3 : Int) ∧ Keeps (fun _ => False) wz wx) (fun i _ => out.length - (intOf i).toNat)
          case atStart => exact ⟨0, Nat.zero_le _, rfl, Keeps.refl _ _⟩
          case round =>
            obtain ⟨k3, hk3, rfl, hq3⟩ := hrel
            have p0 : (0 : Int) ≤ k3 := by omega
            by_cases hlt3 : k3 < out.length
            · obtain ⟨s3, hs3⟩ : ∃ s3, out[k3]? = some s3 := ⟨out[k3], List.getElem?_eq_getElem hlt3⟩
              have h1 := HSK.out.keep hq3
              have h2 := HOU.out.keep hq3
              clear HSK HOU
              obtain ⟨g1, rfl, e1, e2, _⟩ := h1.cell hs3
              obtain ⟨g2, rfl, e3, e4, _⟩ := h2.cell hs3
              clear h1 h2
              have p1 : (k3 : Int) < out.length := by omega
              have HQ := Lib.hid hq3.drew
              clear hq3 hs3
              go_wp2_with fail
              go_region_held3 (fun w' => w'.cell? ⟨g1, k3, none⟩ = some (.string s3) ∧ w'.cell? ⟨g2, k3, none⟩ = some (.string s3)) (first | exact ⟨e1, e3⟩ | go_keep) (fail)
              go_wp2_with fail
              go_roundw
              case rel => exact ⟨k3 + 1, by omega, rfl, HQ.out⟩
              case measure => simp [intOf]; omega
            · obtain rfl : k3 = out.length := by omega
              have HB := Lib.hid (HBEL.out.trans hq3 (fun _ _ e => e))
              clear hq3 HSK HOU HBEL
              go_wp2_with fail
              go_ret
              exact ⟨rfl, HB.out.below⟩
end Go.Proofs.Ytlinkpjneehnbaa
