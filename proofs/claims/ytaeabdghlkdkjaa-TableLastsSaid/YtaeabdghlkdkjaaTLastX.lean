/- The walk of TableLasts. -/
import Derived.Test.YtaeabdghlkdkjaaTLastP
import Derived.Test.YtaeabdghlkdkjaaTIn11
import Derived.Deep.DeepCutAuto
import Derived.Deep.CutBlock
namespace Go.Proofs.Ytaeabdghlkdkjaa
set_option linter.unusedVariables false
open Go.RowKit Go.MapKept

/-- What the loop holds to. -/
def TLRel (w0 : World) (d len : Nat) (tv av nv cv iv : Value) (wx : World) : Prop :=
  ∃ k : Nat, iv = .int .i64 (k : Int) ∧ k ≤ len ∧ k ≤ 60 ∧ TLs w0 wx d k [] tv av nv cv

set_option maxRecDepth 100000 in
set_option maxHeartbeats 8000000 in
theorem tlasts_walk (a : Option Addr) (len cap : Nat) (w0 : World) (hlc : len ≤ cap) (hcm : cap ≤ maxLen) (hops : OpsTIn w0 a len) :
    Calls Try.prog 5 #[.slice a len cap] w0 fun e w' => e = .returned (.bool true) ∧ Below w0.heap.size w0 w' := by
  have jl : (len : Int) ≤ 9223372036854775807 := by unfold maxLen at hcm; omega
  have HOPS := Lib.hid hops
  obtain ⟨d, w1, hnew, h1⟩ := (Own.start w0).new 16777216 (by omega) (by omega)
  have hop := topen_calls h1 (Good.new (room := 16777216) (by omega) (by omega)) (by omega) nmT
  rw [topen_empty] at hop
  unfold nmT at hop
  have HOP := Lib.hid hop
  clear hops hlc hcm h1 hop
  go_enter Try.func5, Try.ntmps5
  go_wp2_with fail
  refine hnew.out.mono ?_; rintro e w' ⟨rfl, rfl⟩
  go_wp2_with fail
  refine HOP.out.mono ?_
  rintro e w2 (⟨hn, _⟩ | ⟨size, fs, j, t, b, hres, rfl, h2⟩)
  · cases hn
  simp only [Option.some.injEq, Prod.mk.injEq] at hres
  obtain ⟨rfl, rfl⟩ := hres
  dsimp only at h2
  have H2 := Lib.hid h2
  clear h2 hnew HOP
  go_wp2_with fail
  refine (awake11_calls w2).mono ?_
  rintro e w3 ⟨rfl, hk3⟩
  have hst := TLs.start (H2.out.quiet hk3)
  have HR0 := Lib.hid (⟨0, rfl, Nat.zero_le _, Nat.zero_le _, hst⟩ : TLRel w0 d len (.pointer (some ⟨t, 0, none⟩)) (.slice none 0 0) (.slice none 0 0) (.bool false) (.int .i64 0) w3)
  clear hst hk3 H2
  go_wp2_with fail
  go_loopw [5, 7, 8, 9, 40] (fun tv av nv cv iv wx => TLRel w0 d len tv av nv cv iv wx) (fun _ _ _ _ i _ => len - (intOf i).toNat)
  case atStart => exact HR0.out
  case round =>
    obtain ⟨k, rfl, hk, hk60, hst⟩ := hrel
    clear HR0
    have j0 : (0 : Int) ≤ k := by omega
    by_cases hlt : k < len
    · obtain ⟨x, o, la, lc, rfl, c0, c1, c2, c3, hl1, hl2, hin, hon⟩ := HOPS.out k hlt
      have c0 := cell_keep c0 hst.keeps
      have c1 := cell_keep c1 hst.keeps
      have c2 := cell_keep c2 hst.keeps
      have c3 := cell_keep c3 hst.keeps
      obtain ⟨oK, oL, oN, oM⟩ := o
      simp only at c0 c1 c2 c3 hl1 hin hon
      have j2 : (k : Int) < len := by omega
      have hbx := hst.box (opTObj oK (.slice la oL.length lc) oN oM)
      have hsm := small11_calls (c := lc) (hin.keep hbx.keeps) (Nat.le_trans hl1 hl2)
      have HBX := Lib.hid hbx
      have HSM := Lib.hid hsm
      have HIN := Lib.hid hin
      have HL := Lib.hid (⟨hl1, hl2⟩ : oL.length ≤ lc ∧ lc ≤ maxLen)
      have HON := Lib.hid hon
      have HLT := Lib.hid hlt
      clear hst hin hl1 hl2 hon hbx hsm hk hlt
      by_cases h60 : k = 60
      · have j3 : (60 : Int) ≤ k := by omega
        have HB := Lib.hid HBX.out.keeps.below
        clear h60
        go_wp2_with fail
        go_ret
        exact ⟨rfl, HB.out⟩
      · have j3 : ¬ (60 : Int) ≤ k := by omega
        have HK60 := Lib.hid (by omega : k < 60)
        clear h60
        go_wp2_with fail
        refine HSM.out.mono ?_
        rintro e w5 ⟨rfl, hk5⟩
        have h5 := HBX.out.quiet hk5
        generalize hwb : wr.heap.size = wb at *
        have H5 := Lib.hid h5
        obtain ⟨q0, q1, q2, q3⟩ := opT_at (h5.obj (t := wb) (o := opTObj oK (.slice la oL.length lc) oN oM) (List.mem_cons_self ..))
        clear HSM HBX hk5 h5 hwb
        cases hs : smallB oL with
        | false =>
          have HB := Lib.hid H5.out.keeps.below
          clear hs
          go_wp2_with fail
          go_ret
          exact ⟨rfl, HB.out⟩
        | true =>
          have HS := Lib.hid hs
          clear hs c0 c1 c2 c3
          go_upto_block 2 with fail
          go_cut [5, 7, 8, 9, 12, 13, 14, 15, 16, 17, 18] from 41 to 186 (fun tv av nv cv _ _ _ _ _ _ _ wx => TLs w0 wx d (k + 1) [rObj w0.heap.size wb (opTObj oK (.slice la oL.length lc) oN oM)] tv av nv cv)
          case first =>
            by_cases e0 : oK = 0
            · subst e0
              obtain ⟨j9, t9, b9, m, size, now, nxt, cut, rfl, rfl, ⟨na, nc, rfl⟩, ⟨xa, xn, xc, rfl⟩, hi, ho⟩ := H5.out
              obtain ⟨hsl, hsv⟩ := smallB_true HS.out
              have hto := to11_calls (c := lc) (HIN.out.keep ho.keeps) (by omega) (fun x hx => by have := (hsv x hx).2; omega)
              have hnl := hi.len
              have HTO := Lib.hid hto
              have HSV := Lib.hid hsv
              have HSL := Lib.hid (⟨hsl, hnl⟩ : oL.length ≤ 40 ∧ now.length ≤ 40000 * k)
              have HI := Lib.hid hi
              have HO := Lib.hid ho
              clear hto hsv hsl hi ho hnl H5
              go_wp2_with fail
              refine HTO.out.mono ?_
              rintro e w6 ⟨cv, rfl, hat, hk6⟩
              obtain ⟨ca, cc, rfl⟩ := hat.form
              obtain ⟨hle, hcm⟩ := hat.le
              have h6 : Own w0 w6 (tRes w0.heap.size d j9 t9 b9 nmT ⟨m, size, now, cut⟩ ++ (rTChs w0.heap.size ca oL :: rNN w0.heap.size (.slice na now.length nc) now (.slice xa xn xc) nxt :: [rObj w0.heap.size wb (opTObj 0 (.slice la oL.length lc) oN oM)])) := own_five (Own.addTChs HO.out hat hk6)
              have hap := tapply_calls (nm := nmT) h6 HI.out.good (by have := HK60.out; omega) (by have := HI.out.size; have := HK60.out; dsimp only; omega) (a := ca) (c := cc) (l := oL) (by simp) hle hcm
              have hen := fun (W : World) (hk : Keeps (fun _ => False) w0 W) => rencode_calls (HIN.out.keep hk) HL.out.1 HL.out.2
              have h5c := encOf_code oL
              obtain ⟨ec, er, hE⟩ : ∃ ec er, encOf oL = (ec, er) := ⟨_, _, rfl⟩
              have HEN := Lib.hid hen
              rcases HI.out.app HK60.out HS.out with ⟨rfl, eq⟩ | ⟨rfl, hec, eq⟩ | ⟨rfl, hec, m', s', eq, hi2⟩ | ⟨rfl, hec, m', s', eq, hi2⟩
              · rw [eq] at hap
                have HAP := Lib.hid hap
                have HEE := Lib.hid hE
                rw [hE] at h5c
                dsimp only at h5c
                clear hap h6 hat hle hcm hk6 HTO eq hen hE
                go_wp2_with fail
                refine HAP.out.mono ?_
                rintro e w7 ⟨rfl, h7⟩
                have h7 := (own_four h7).drop
                have H7 := Lib.hid h7
                obtain ⟨-, p7, -, -⟩ := opT_at (Own.at h7 (b := wb) (o := opTObj 0 (.slice la oL.length lc) oN oM) (by simp)).1
                clear HAP
                go_wp2_with fail
                refine (HEN.out w7 h7.keeps).mono ?_
                rw [HEE.out]
                rintro e w8 ⟨v8, rfl, hv8, hk8⟩
                obtain ⟨va, vc, rfl, -, -⟩ := hv8.bytes.form
                have HG := Lib.hid ((TLs.mk HI.out (H7.out.quiet hk8)).next)
                obtain ⟨-, p1, -, -⟩ := opT_at (HG.out.obj (t := wb) (o := opTObj 0 (.slice la oL.length lc) oN oM) (List.mem_cons_self ..))
                dsimp only
                clear h7 hv8 hk8 H7 HEN HEE q0 q1 q2 q3
                by_cases h0 : ec = 0
                · subst h0
                  clear h5c
                  go_wp2_with fail
                  go_meet
                  exact HG.out
                · have b0 : (ec != 0) = true := by simpa using h0
                  have b5 : ((5 : Int) != ec) = true := by simpa using Ne.symm h5c
                  have HREL := Lib.hid (⟨k + 1, rfl, HLT.out, HK60.out, HG.out.unbox⟩ : TLRel w0 d len _ _ _ _ (.int .i64 ((k + 1 : Nat) : Int)) w8)
                  clear h0 h5c
                  go_wp2_with fail
                  go_roundw
                  case rel => exact HREL.out
                  case measure => have := HLT.out; simp [intOf]; omega
              · rw [eq, hE] at hap
                have HAP := Lib.hid hap
                have HEE := Lib.hid hE
                rw [hE] at h5c hec
                dsimp only at h5c hec
                clear hap h6 hat hle hcm hk6 HTO eq hen hE
                go_wp2_with fail
                refine HAP.out.mono ?_
                rintro e w7 ⟨rfl, h7⟩
                have h7 := (own_four h7).drop
                have H7 := Lib.hid h7
                obtain ⟨-, p7, -, -⟩ := opT_at (Own.at h7 (b := wb) (o := opTObj 0 (.slice la oL.length lc) oN oM) (by simp)).1
                clear HAP
                go_wp2_with fail
                refine (HEN.out w7 h7.keeps).mono ?_
                rw [HEE.out]
                rintro e w8 ⟨v8, rfl, hv8, hk8⟩
                obtain ⟨va, vc, rfl, -, -⟩ := hv8.bytes.form
                have HG := Lib.hid ((TLs.mk HI.out (H7.out.quiet hk8)).next)
                dsimp only
                have b0 : (ec != 0) = true := by simpa using hec
                have HREL := Lib.hid (⟨k + 1, rfl, HLT.out, HK60.out, HG.out.unbox⟩ : TLRel w0 d len _ _ _ _ (.int .i64 ((k + 1 : Nat) : Int)) w8)
                clear h7 hv8 hk8 H7 HEN HEE q0 q1 q2 q3 hec h5c
                go_wp2_with fail
                go_roundw
                case rel => exact HREL.out
                case measure => have := HLT.out; simp [intOf]; omega
              · rw [eq] at hap
                have HAP := Lib.hid hap
                rw [hE] at hec
                dsimp only at hec
                subst hec
                have HEE := Lib.hid hE
                have HI2 := Lib.hid hi2
                clear hap h6 hat hle hcm hk6 HTO eq hen hE h5c hi2
                go_wp2_with fail
                refine HAP.out.mono ?_
                rintro e w7 ⟨rfl, h7⟩
                have h7 := (own_four h7).drop
                have H7 := Lib.hid h7
                obtain ⟨-, p7, -, -⟩ := opT_at (Own.at h7 (b := wb) (o := opTObj 0 (.slice la oL.length lc) oN oM) (by simp)).1
                clear HAP
                go_wp2_with fail
                refine (HEN.out w7 h7.keeps).mono ?_
                rw [HEE.out]
                rintro e w8 ⟨v8, rfl, hv8, hk8⟩
                obtain ⟨va, vc, rfl, -, -⟩ := hv8.bytes.form
                have h8 := H7.out.quiet hk8
                obtain ⟨-, p1, -, -⟩ := opT_at (Own.at h8 (b := wb) (o := opTObj 0 (.slice la oL.length lc) oN oM) (by simp)).1
                have hdo := (own_four h8).nnDo HI.out.ok.sorted (a := la) (c := lc) (HIN.out.keep h8.keeps) (by have := HSL.out; have := HK60.out; omega) (fun x hx => by have := (HSV.out x hx).2; omega)
                have HDO := Lib.hid hdo
                dsimp only
                clear h7 hv8 hk8 h8 hdo H7 HEN HEE q0 q1 q2 q3
                go_wp2_with fail
                refine HDO.out.mono ?_
                rintro e w9 ⟨v9, rfl, h9, -⟩
                have HG := Lib.hid (TLs.mk HI2.out (own_five h9))
                obtain ⟨a9, c9, rfl⟩ : ∃ a c, v9 = .slice a (tdos now oL).length c := by
                  obtain ⟨F, hF, -⟩ := Own.nn h9 (v := v9) (fs := tdos now oL) (v2 := .slice xa xn xc) (fs2 := nxt) (by simp)
                  obtain ⟨a, c, e, -, -⟩ := hF.form
                  exact ⟨a, c, e⟩
                generalize (tdos now oL).length = n9 at HG ⊢
                clear h9 HDO
                go_wp2_with fail
                go_meet
                exact HG.out
              · rw [eq] at hap
                have HAP := Lib.hid hap
                rw [hE] at hec
                dsimp only at hec
                subst hec
                have HEE := Lib.hid hE
                have HI2 := Lib.hid hi2
                clear hap h6 hat hle hcm hk6 HTO eq hen hE h5c hi2
                go_wp2_with fail
                refine HAP.out.mono ?_
                rintro e w7 ⟨rfl, h7⟩
                have h7 := (own_four h7).drop
                have H7 := Lib.hid h7
                obtain ⟨-, p7, -, -⟩ := opT_at (Own.at h7 (b := wb) (o := opTObj 0 (.slice la oL.length lc) oN oM) (by simp)).1
                clear HAP
                go_wp2_with fail
                refine (HEN.out w7 h7.keeps).mono ?_
                rw [HEE.out]
                rintro e w8 ⟨v8, rfl, hv8, hk8⟩
                obtain ⟨va, vc, rfl, -, -⟩ := hv8.bytes.form
                have h8 := H7.out.quiet hk8
                obtain ⟨-, p1, -, -⟩ := opT_at (Own.at h8 (b := wb) (o := opTObj 0 (.slice la oL.length lc) oN oM) (by simp)).1
                have hdo := (own_four h8).nnDo HI.out.ok.sorted (a := la) (c := lc) (HIN.out.keep h8.keeps) (by have := HSL.out; have := HK60.out; omega) (fun x hx => by have := (HSV.out x hx).2; omega)
                have HDO := Lib.hid hdo
                dsimp only
                clear h7 hv8 hk8 h8 hdo H7 HEN HEE q0 q1 q2 q3
                go_wp2_with fail
                refine HDO.out.mono ?_
                rintro e w9 ⟨v9, rfl, -, h9⟩
                have HG := Lib.hid (TLs.mk HI2.out (own_five h9))
                obtain ⟨a9, c9, rfl⟩ : ∃ a c, v9 = .slice a (tdos now oL).length c := by
                  obtain ⟨F, -, hF⟩ := Own.nn h9 (v := .slice na now.length nc) (fs := now) (v2 := v9) (fs2 := tdos now oL) (by simp)
                  obtain ⟨a, c, e, -, -⟩ := hF.form
                  exact ⟨a, c, e⟩
                generalize (tdos now oL).length = n9 at HG ⊢
                clear h9 HDO
                go_wp2_with fail
                go_meet
                exact HG.out
            · have n0 : (oK == 0) = false := by rw [beq_eq_false_iff_ne]; exact e0
              by_cases e1 : oK = 1
              · subst e1
                clear e0
                obtain ⟨j9, t9, b9, m, size, now, nxt, cut, rfl, rfl, ⟨na, nc, rfl⟩, ⟨xa, xn, xc, rfl⟩, hi, ho⟩ := H5.out
                have hfl := folds_le hi.ok.each
                have hnl := hi.len
                have hwt := hi.wt
                have hfo := tfold_calls (nm := nmT) ho hi.good (by have := HK60.out; dsimp only; omega) (by decide) hi.ok (by have := HK60.out; dsimp only; omega)
                have HI := Lib.hid hi
                rcases hi.fold (by have := HK60.out; omega) with ⟨rfl, eq⟩ | ⟨rfl, m', s', eq, hi2⟩ | ⟨rfl, m', s', eq, hi2⟩
                · rw [eq] at hfo
                  have HFO := Lib.hid hfo
                  clear hfo hfl hnl hwt hi ho H5 eq
                  generalize now.length = nn at *
                  go_wp2_with fail
                  refine HFO.out.mono ?_
                  rintro e w7 ⟨rfl, h7⟩
                  have HG := Lib.hid ((TLs.mk HI.out h7).next)
                  clear h7 HFO
                  dsimp only
                  go_wp2_with fail
                  go_meet
                  exact HG.out
                · rw [eq] at hfo
                  have HFO := Lib.hid hfo
                  have HI2 := Lib.hid (hi2.mono (L' := 40000 * (k + 1)) (n' := 3000000 * (k + 1 + 1)) (by omega) (by have := HK60.out; omega))
                  clear hfo hfl hnl hwt hi hi2 ho H5 eq
                  generalize now.length = nn at *
                  go_wp2_with fail
                  refine HFO.out.mono ?_
                  rintro e w7 ⟨rfl, h7⟩
                  have HG := Lib.hid (TLs.mk HI2.out h7)
                  clear h7 HFO
                  dsimp only
                  go_wp2_with fail
                  go_meet
                  exact HG.out
                · rw [eq] at hfo
                  have HFO := Lib.hid hfo
                  have HI2 := Lib.hid (hi2.mono (L' := 40000 * (k + 1)) (n' := 3000000 * (k + 1 + 1)) (by omega) (by have := HK60.out; omega))
                  clear hfo hfl hnl hwt hi hi2 ho H5 eq
                  generalize now.length = nn at *
                  go_wp2_with fail
                  refine HFO.out.mono ?_
                  rintro e w7 ⟨rfl, h7⟩
                  have HG := Lib.hid (TLs.mk HI2.out (own_five (own_four h7).nnTwice))
                  clear h7 HFO
                  dsimp only
                  go_wp2_with fail
                  go_meet
                  exact HG.out
              · have n1 : (oK == 1) = false := by rw [beq_eq_false_iff_ne]; exact e1
                by_cases e2 : oK = 2
                · subst e2
                  clear e0 e1
                  obtain ⟨j9, t9, b9, m, size, now, nxt, cut, rfl, rfl, ⟨na, nc, rfl⟩, ⟨xa, xn, xc, rfl⟩, hi, ho⟩ := H5.out
                  obtain ⟨w7, hfu, h7⟩ := Own.fuseT ho oN
                  have HFU := Lib.hid hfu
                  have HG := Lib.hid ((TLs.mk (hi.fuse oN HON.out) h7).next)
                  clear hfu h7 hi ho H5
                  go_wp2_with fail
                  refine HFU.out.out.mono ?_; rintro e w' ⟨rfl, rfl⟩
                  go_wp2_with fail
                  go_meet
                  exact HG.out
                · have n2 : (oK == 2) = false := by rw [beq_eq_false_iff_ne]; exact e2
                  by_cases e3 : oK = 3
                  · subst e3
                    clear e0 e1 e2
                    obtain ⟨j9, t9, b9, m, size, now, nxt, cut, rfl, rfl, ⟨na, nc, rfl⟩, ⟨xa, xn, xc, rfl⟩, hi, ho⟩ := H5.out
                    have hcr := Own.crash ho oN oM hi.good.fits
                    have hwk := hi.crash oN oM
                    have hnl := hi.len
                    obtain ⟨q9, hq9, hq93⟩ := uint_mod oM 3 (by omega) (by omega)
                    have hq9' : wrap64 ((IntKind.u64.wrap oM).tmod 3) = (q9 : Int) := hq9
                    have i9 : (0 : Int) ≤ q9 := by omega
                    have i93 : (q9 : Int) < 3 := by omega
                    have HCR := Lib.hid hcr
                    have HWK := Lib.hid hwk
                    have HNL := Lib.hid (⟨hnl, hq93⟩ : now.length ≤ 40000 * k ∧ q9 < 3)
                    clear hcr hwk hi ho H5 hq9 hnl hq93
                    generalize hnn : now.length = nn at *
                    go_wp2_with fail
                    refine HCR.out.mono ?_
                    rintro e w6 ⟨rfl, h6⟩
                    have h6 : Own w0 w6 (rDisk w0.heap.size d (crashOf m oN oM) :: rNN w0.heap.size (.slice na nn nc) now (.slice xa xn xc) nxt :: [rObj w0.heap.size wb (opTObj 3 (.slice la oL.length lc) oN oM)]) := h6.drop2.drop2.drop2
                    obtain ⟨-, -, p2, p3⟩ := opT_at (h6.at (b := wb) (o := opTObj 3 (.slice la oL.length lc) oN oM) (by simp)).1
                    have H6 := Lib.hid h6
                    clear HCR h6 q0 q1 q2 q3
                    go_wp2_with fail
                    rw [hq9']
                    clear hq9'
                    go_loopw [16] (fun iv wx => ∃ (q : Nat) (m : DM), q < 3 ∧ iv = .int .i64 (q : Int) ∧ TWok 16777216 now nxt cut m (40000 * k) ∧ Own w0 wx (rDisk w0.heap.size d m :: rNN w0.heap.size (.slice na nn nc) now (.slice xa xn xc) nxt :: [rObj w0.heap.size wb (opTObj 3 (.slice la oL.length lc) oN oM)])) (fun iv _ => (intOf iv).toNat)
                    case atStart => exact ⟨q9, _, HNL.out.2, rfl, HWK.out, H6.out⟩
                    case round =>
                      obtain ⟨q, m2, hq3, rfl, hwk, ho2⟩ := hrel
                      obtain ⟨-, -, p2, p3⟩ := opT_at (ho2.at (b := wb) (o := opTObj 3 (.slice la oL.length lc) oN oM) (by simp)).1
                      clear H6 HWK i9 i93
                      obtain ⟨w7, hw7⟩ : ∃ w7, w7 = wr := ⟨_, rfl⟩
                      subst hw7
                      have i0 : (0 : Int) ≤ q := by omega
                      have i3 : (q : Int) < 3 := by omega
                      by_cases hq : 0 < q
                      · have i1 : (0 : Int) < q := by omega
                        obtain ⟨z, hz, hz7⟩ := uint_mod (wrap64 (oN + q)) 7 (by omega) (by omega)
                        have hz' : wrap64 ((IntKind.u64.wrap (wrap64 (oN + q))).tmod 7) = (z : Int) := hz
                        have z0 : (0 : Int) ≤ z := by omega
                        obtain ⟨w8, hfu, h8⟩ := Own.fuseT ho2 (z : Int)
                        have hL3 : 3 * ((40000 * k : Nat) : Int) ≤ 16777216 := by have := HK60.out; omega
                        obtain ⟨g1, g2, -⟩ := hwk.again hL3 (z : Int) (by omega) 0 0
                        have hop := topen_any h8 g1 (by omega) nmT
                        unfold nmT at hop
                        have HFU := Lib.hid hfu
                        have HOP := Lib.hid hop
                        have HAG := Lib.hid (fun a b => (hwk.again hL3 (z : Int) (by omega) a b).2.2)
                        have HG2 := Lib.hid g2
                        have HQ := Lib.hid (⟨hq, hq3⟩ : 0 < q ∧ q < 3)
                        clear hfu hop hL3 g1 g2 hz hz7 h8 ho2 hwk hq hq3
                        go_wp2_with fail
                        rw [hz']
                        clear hz'
                        go_wp2_with fail
                        refine HFU.out.out.mono ?_; rintro e w' ⟨rfl, rfl⟩
                        go_wp2_with fail
                        refine HOP.out.mono ?_
                        rintro e w9 ⟨⟨vv, rfl⟩, h9⟩
                        obtain ⟨-, -, s2, s3⟩ := opT_at (h9.at (b := wb) (o := opTObj 3 (.slice la oL.length lc) oN oM) (by simp)).1
                        have HC2 := Lib.hid (fun a b => h9.crash a b HG2.out.fits)
                        clear h9 HOP HFU p2 p3
                        go_wp2_with fail
                        refine (HC2.out _ _).mono ?_
                        rintro e wz ⟨rfl, hz⟩
                        have HREL := Lib.hid (⟨q - 1, _, by have := HQ.out; omega, rfl, HAG.out _ _, hz⟩ : ∃ (q' : Nat) (m' : DM), q' < 3 ∧ Value.int .i64 ((q - 1 : Nat) : Int) = .int .i64 (q' : Int) ∧ TWok 16777216 now nxt cut m' (40000 * k) ∧ Own w0 wz (rDisk w0.heap.size d m' :: rNN w0.heap.size (.slice na nn nc) now (.slice xa xn xc) nxt :: [rObj w0.heap.size wb (opTObj 3 (.slice la oL.length lc) oN oM)]))
                        rw [Int.natCast_sub (by have := HQ.out; omega)] at HREL
                        have hq1 := HQ.out
                        clear hz HC2 HAG HG2 s2 s3
                        go_wp2_with fail
                        go_roundw
                        case rel => exact HREL.out
                        case measure => simp [intOf]; omega
                      · obtain rfl : q = 0 := by omega
                        have hL3 : 3 * ((40000 * k : Nat) : Int) ≤ 16777216 := by have := HK60.out; omega
                        obtain ⟨hgz, fs9, m9, size9, hfs, heq9, hi9⟩ := hwk.opened hL3
                        have hop := topen_calls ho2 hgz (by omega) nmT
                        rw [heq9] at hop
                        unfold nmT at hop
                        have HOP := Lib.hid hop
                        have HI9 := Lib.hid (fun nxt' => (hi9 nxt').mono (L' := 40000 * (k + 1)) (n' := 3000000 * (k + 1 + 1)) (by omega) (by have := HK60.out; omega))
                        have HFS := Lib.hid hfs
                        have hwk1 := hwk.ok
                        clear hL3 hgz heq9 hi9 hfs hop hwk ho2 hq i0 i3 hq3
                        go_wp2_with fail
                        refine HOP.out.mono ?_
                        rintro e w9 (⟨hn, _⟩ | ⟨size, fs, j8, t8, b8, hres, rfl, h9⟩)
                        · cases hn
                        simp only [Option.some.injEq, Prod.mk.injEq] at hres
                        obtain ⟨rfl, rfl⟩ := hres
                        dsimp only at h9
                        clear HOP p2 p3
                        have h9 : Own w0 w9 (tRes w0.heap.size d j8 t8 b8 nmT ⟨m9, size9, fs9, false⟩ ++ rNN w0.heap.size (.slice na nn nc) now (.slice xa xn xc) nxt :: [rObj w0.heap.size wb (opTObj 3 (.slice la oL.length lc) oN oM)]) := h9
                        have hl9 : fs9.length ≤ 1099511627774 := by have := (HI9.out []).len; have := HK60.out; omega
                        have hok9 := (HI9.out []).ok
                        have hmem := fun (W : World) (hk : Keeps (fun _ => False) w9 W) => tab_mem (Own.quiet h9 hk)
                        have hnn2 := fun (W : World) (hk : Keeps (fun _ => False) w9 W) => Own.nn (Own.quiet h9 hk) (v := .slice na nn nc) (fs := now) (v2 := .slice xa xn xc) (fs2 := nxt) (by simp [tRes])
                        have his1 : ∀ W, Keeps (fun _ => False) w9 W → Calls Try.prog 20 #[.pointer (some ⟨t8, 0, none⟩), .slice na nn nc] W (QuietP W (.bool (decide (fs9 = now)))) := fun W hk => by
                          obtain ⟨ht, F, hm⟩ := hmem W hk
                          obtain ⟨G, hp, -⟩ := hnn2 W hk
                          exact is11_calls ht hm hok9 hl9 hp
                        have his2 : ∀ W, Keeps (fun _ => False) w9 W → Calls Try.prog 20 #[.pointer (some ⟨t8, 0, none⟩), .slice xa xn xc] W (QuietP W (.bool (decide (fs9 = nxt)))) := fun W hk => by
                          obtain ⟨ht, F, hm⟩ := hmem W hk
                          obtain ⟨G, -, hp⟩ := hnn2 W hk
                          exact is11_calls ht hm hok9 hl9 hp
                        have hprs : ∀ W, Keeps (fun _ => False) w9 W → Calls Try.prog 28 #[.pointer (some ⟨t8, 0, none⟩)] W (fun e W' => ∃ pa pc, e = .returned (.tuple #[.slice pa fs9.length pc, .bool true]) ∧ TLs w0 W' d (k + 1) [rObj w0.heap.size wb (opTObj 3 (.slice la oL.length lc) oN oM)] (.pointer (some ⟨t8, 0, none⟩)) (.slice pa fs9.length pc) (.slice xa xn xc) (.bool false)) := fun W hk => by
                          obtain ⟨ht, F, hm⟩ := hmem W hk
                          refine (pairs11_calls ht hm hok9 hl9).mono ?_
                          rintro e W' ⟨v, rfl, hp, hk2⟩
                          have hnew := (own_four (Own.quiet h9 hk)).nnNew hp hk2
                          obtain ⟨pa, pc, rfl, -, -⟩ := hp.form
                          exact ⟨pa, pc, rfl, TLs.mk (HI9.out nxt) (own_five hnew)⟩
                        have HIS1 := Lib.hid his1
                        have HIS2 := Lib.hid his2
                        have HPR := Lib.hid hprs
                        clear his1 his2 hprs hmem hnn2 hl9 hok9 h9
                        dsimp only
                        rcases HFS.out with hfs | ⟨rfl, hfs⟩
                        · have HD : decide (fs9 = now) = true := decide_eq_true hfs
                          rw [HD] at HIS1
                          clear hfs HD HIS2
                          generalize fs9.length = n9 at *
                          go_wp2_with fail
                          refine (HIS1.out w9 (Keeps.refl _ _)).mono ?_
                          rintro e w10 ⟨rfl, hk10⟩
                          have HP2 := Lib.hid (HPR.out w10 hk10)
                          clear hk10 HIS1 HPR
                          go_wp2_with fail
                          refine HP2.out.mono ?_
                          rintro e w11 ⟨pa, pc, rfl, h11⟩
                          have HG := Lib.hid h11
                          clear h11 HP2
                          go_wp2_with fail
                          go_meet
                          exact HG.out
                        · have HD : decide (fs9 = nxt) = true := decide_eq_true hfs
                          rw [HD] at HIS2
                          obtain ⟨bn, hbn⟩ : ∃ bn, decide (fs9 = now) = bn := ⟨_, rfl⟩
                          rw [hbn] at HIS1
                          clear hfs HD hbn
                          generalize fs9.length = n9 at *
                          cases bn with
                          | true =>
                            clear HIS2
                            go_wp2_with fail
                            refine (HIS1.out w9 (Keeps.refl _ _)).mono ?_
                            rintro e w10 ⟨rfl, hk10⟩
                            have HP2 := Lib.hid (HPR.out w10 hk10)
                            clear hk10 HIS1 HPR
                            go_wp2_with fail
                            refine HP2.out.mono ?_
                            rintro e w11 ⟨pa, pc, rfl, h11⟩
                            have HG := Lib.hid h11
                            clear h11 HP2
                            go_wp2_with fail
                            go_meet
                            exact HG.out
                          | false =>
                            go_wp2_with fail
                            refine (HIS1.out w9 (Keeps.refl _ _)).mono ?_
                            rintro e w10 ⟨rfl, hk10⟩
                            have HI2 := Lib.hid (HIS2.out w10 hk10)
                            have HP1 := Lib.hid (fun W hk => HPR.out W (hk10.trans hk (fun _ _ e => e)))
                            clear hk10 HIS1 HIS2 HPR
                            go_wp2_with fail
                            refine HI2.out.mono ?_
                            rintro e w12 ⟨rfl, hk12⟩
                            have HP2 := Lib.hid (HP1.out w12 hk12)
                            clear hk12 HI2 HP1
                            go_wp2_with fail
                            refine HP2.out.mono ?_
                            rintro e w11 ⟨pa, pc, rfl, h11⟩
                            have HG := Lib.hid h11
                            clear h11 HP2
                            go_wp2_with fail
                            go_meet
                            exact HG.out
                  · have n3 : (oK == 3) = false := by rw [beq_eq_false_iff_ne]; exact e3
                    have HG := Lib.hid H5.out.next
                    clear e0 e1 e2 e3
                    go_wp2_with fail
                    go_meet
                    exact HG.out
          case rest =>
            obtain ⟨j9, t9, b9, m, size, now, nxt, cut, rfl, rfl, ⟨na, nc, rfl⟩, ⟨xa, xn, xc, rfl⟩, hi, ho⟩ := hcut
            have HREL := Lib.hid (fun wx hk => ⟨k + 1, rfl, HLT.out, HK60.out, (TLs.quiet (TLs.mk hi ho) hk).unbox⟩ : ∀ wx, Keeps (fun _ => False) wc wx → TLRel w0 d len (.pointer (some ⟨t9, 0, none⟩)) (.slice na now.length nc) (.slice xa xn xc) (.bool cut) (.int .i64 ((k + 1 : Nat) : Int)) wx)
            cases cut with
            | true =>
              have HG := Lib.hid (HREL.out wc (Keeps.refl _ _))
              clear hi ho HIN HL HON HS H5 q0 q1 q2 q3
              go_wp2_with fail
              go_roundw
              case rel => exact HG.out
              case measure => have := HLT.out; simp [intOf]; omega
            | false =>
              obtain ⟨ht, F, hm⟩ := tab_mem ho
              obtain ⟨G, hp, -⟩ := Own.nn ho (v := .slice na now.length nc) (fs := now) (v2 := .slice xa xn xc) (fs2 := nxt) (by simp [tRes])
              have his := is11_calls ht hm hi.ok (by have := hi.len; have := HK60.out; dsimp only; omega) hp
              rw [decide_eq_true (show (⟨m, size, now, false⟩ : TM).fs = now from rfl)] at his
              have HIS := Lib.hid his
              clear his ht hm hp hi ho HIN HL HON HS H5 q0 q1 q2 q3
              generalize now.length = nn at *
              go_wp2_with fail
              refine HIS.out.mono ?_
              rintro e w9 ⟨rfl, hk9⟩
              have HG := Lib.hid (HREL.out w9 hk9)
              clear hk9 HREL HIS
              go_wp2_with fail
              go_roundw
              case rel => exact HG.out
              case measure => have := HLT.out; simp [intOf]; omega
    · obtain rfl : k = len := by omega
      have HB := Lib.hid hst.keeps.below
      clear hst hk hk60 hlt
      go_wp2_with fail
      go_ret
      exact ⟨rfl, HB.out⟩
end Go.Proofs.Ytaeabdghlkdkjaa
