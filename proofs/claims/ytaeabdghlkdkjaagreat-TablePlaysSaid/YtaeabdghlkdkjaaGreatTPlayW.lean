/- The walk of TablePlays. -/
import Derived.Test.YtaeabdghlkdkjaaGreatTTwo
import Derived.Test.YtaeabdghlkdkjaaGreatTOpsT
import Derived.Test.YtaeabdghlkdkjaaGreatPkM
import Derived.Deep.DeepCutAuto
import Derived.Deep.CutBlock
namespace Go.Proofs.YtaeabdghlkdkjaaGreat
set_option linter.unusedVariables false
open Go.RowKit Go.MapKept

/-- What the loop holds to. -/
def TRel (w0 : World) (d r len : Nat) (tv uv iv : Value) (wx : World) : Prop :=
  ∃ k : Nat, iv = .int .i64 (k : Int) ∧ k ≤ len ∧ k ≤ 40 ∧ TSt w0 wx d r nmT (3 * k + 1) [] tv uv

set_option maxRecDepth 100000 in
set_option maxHeartbeats 8000000 in
theorem tplays_walk (room : Int) (a : Option Addr) (len cap : Nat) (w0 : World) (hlc : len ≤ cap) (hcm : cap ≤ maxLen) (hops : OpsTIn w0 a len) :
    Calls Tryz.prog 4 #[.int .i64 room, .slice a len cap] w0 fun e w' => e = .returned (.bool true) ∧ Below w0.heap.size w0 w' := by
  have jl : (len : Int) ≤ 9223372036854775807 := by unfold maxLen at hcm; omega
  obtain ⟨r0, hr, hr0, hr1⟩ : ∃ r : Int, wrap64 ((IntKind.u64.wrap room).tmod 20000) = r ∧ 0 ≤ r ∧ r < 20000 := by
    obtain ⟨n, e, h⟩ := uint_mod room 20000 (by omega) (by omega)
    exact ⟨n, e, by omega, by omega⟩
  have haw := awake11_calls w0
  have HOPS := Lib.hid hops
  clear hops hlc hcm
  go_enter Tryz.func4, Tryz.ntmps4
  go_wp2_with fail
  refine haw.mono ?_; rintro e w1 ⟨rfl, hk1⟩
  obtain ⟨d, w2, hnew, ho2⟩ := ((Own.start w0).quiet hk1).new r0 hr0 (by omega)
  obtain ⟨r, w3, hrn, ho3⟩ := ho2.rnew r0
  have hop := topen_both (i := 0) (nm := nmT) ho3.swap (Tidy.new hr0 (by omega)) (by omega) (by decide)
  rw [topen_empty] at hop
  dsimp only at hop
  unfold nmT at hop
  have HOP := Lib.hid hop
  clear ho2 hk1 haw hop ho3
  go_wp2_with fail
  refine hnew.out.mono ?_; rintro e w' ⟨rfl, rfl⟩
  go_wp2_with fail
  refine hrn.out.mono ?_; rintro e w' ⟨rfl, rfl⟩
  clear hnew hrn
  go_wp2_with fail
  refine HOP.out.mono ?_; rintro e w4 ⟨tp, rfl, -, htp, hop2⟩
  obtain ⟨ta, rfl⟩ : ∃ ta, tp = some ta := by
    cases tp with
    | none => cases htp.1 rfl
    | some ta => exact ⟨ta, rfl⟩
  have HOP2 := Lib.hid (hop2 _ (.inl rfl))
  clear hop2 HOP htp
  go_wp2_with fail
  refine HOP2.out.mono ?_; rintro e w5 ⟨up, rfl, hjk, -, hst⟩
  obtain ⟨ua, rfl⟩ : ∃ ua, up = some ua := by
    cases up with
    | none => cases hjk
    | some ua => exact ⟨ua, rfl⟩
  have HR0 := Lib.hid (⟨0, rfl, Nat.zero_le _, Nat.zero_le _, (hst (by simp)).2⟩ : TRel w0 d r len (.pointer (some ta)) (.pointer (some ua)) (.int .i64 0) w5)
  clear HOP2 hst hjk
  go_wp2_with fail
  go_loopw [8, 10, 56] (fun tv uv iv wx => TRel w0 d r len tv uv iv wx) (fun _ _ i _ => len - (intOf i).toNat)
  case atStart => exact HR0.out
  case round =>
    obtain ⟨k, rfl, hk, hk40, hst⟩ := hrel
    clear HR0
    have j0 : (0 : Int) ≤ k := by omega
    by_cases hlt : k < len
    · obtain ⟨x, o, la, lc, rfl, c0, c1, c2, c3, hl1, hl2, hin, hon⟩ := HOPS.out k hlt
      have c0 := cell_keep c0 hst.keeps
      have c1 := cell_keep c1 hst.keeps
      have c2 := cell_keep c2 hst.keeps
      have c3 := cell_keep c3 hst.keeps
      obtain ⟨oK, oL, oN, oM⟩ := o
      simp only at c0 c1 c2 c3 hl1 hin hon
      have j2 : (k : Int) < len := by omega
      have hbx := hst.box (opTObj oK (.slice la oL.length lc) oN oM)
      have hsm := small11_calls (c := lc) (hin.keep hbx.keeps) (Nat.le_trans hl1 hl2)
      have HBX := Lib.hid hbx
      have HSM := Lib.hid hsm
      have HIN := Lib.hid hin
      have HL := Lib.hid (⟨hl1, hl2⟩ : oL.length ≤ lc ∧ lc ≤ maxLen)
      have HON := Lib.hid hon
      have HLT := Lib.hid hlt
      clear hst hin hl1 hl2 hon hbx hsm hk hlt
      by_cases h40 : k = 40
      · have j3 : (40 : Int) ≤ k := by omega
        have HB := Lib.hid HBX.out.keeps.below
        clear h40
        go_wp2_with fail
        go_ret
        exact ⟨rfl, HB.out⟩
      · have j3 : ¬ (40 : Int) ≤ k := by omega
        have HK40 := Lib.hid (by omega : k < 40)
        clear h40
        go_wp2_with fail
        refine HSM.out.mono ?_
        rintro e w5 ⟨rfl, hk5⟩
        have h5 := HBX.out.quiet hk5
        generalize hwb : wr.heap.size = wb at *
        have H5 := Lib.hid h5
        obtain ⟨q0, q1, q2, q3⟩ := opT_at (h5.obj (t := wb) (o := opTObj oK (.slice la oL.length lc) oN oM) (List.mem_cons_self ..))
        clear HSM HBX hk5 h5 hwb
        cases hs : smallB oL with
        | false =>
          have HB := Lib.hid H5.out.keeps.below
          clear hs
          go_wp2_with fail
          go_ret
          exact ⟨rfl, HB.out⟩
        | true =>
          have HS := Lib.hid hs
          clear hs c0 c1 c2 c3
          go_upto_block 2 with fail
          go_cut [14, 15, 16, 17] from 57 to 194 (fun _ _ _ _ wx => TSt w0 wx d r nmT (3 * k + 2) [rObj w0.heap.size wb (opTObj oK (.slice la oL.length lc) oN oM)] u8 u10)
          case first =>
            focus
              by_cases e23 : oK = 2 ∨ oK = 3
              · have hdo := fun kd => H5.out.does (by have := HK40.out; omega) kd oN oM HON.out
                rcases e23 with rfl | rfl
                · have HDO := Lib.hid (hdo 5)
                  clear hdo
                  go_wp2_with fail
                  refine HDO.out.mono ?_
                  rintro e w6 ⟨rfl, h6⟩
                  have HG := Lib.hid h6
                  clear h6
                  go_wp2_with fail
                  go_meet
                  exact HG.out
                · have HDO := Lib.hid (hdo 6)
                  clear hdo
                  go_wp2_with fail
                  refine HDO.out.mono ?_
                  rintro e w6 ⟨rfl, h6⟩
                  have HG := Lib.hid h6
                  clear h6
                  go_wp2_with fail
                  go_meet
                  exact HG.out
              · have n2 : (oK == 2) = false := by rw [beq_eq_false_iff_ne]; exact fun e => e23 (.inl e)
                have n3 : (oK == 3) = false := by rw [beq_eq_false_iff_ne]; exact fun e => e23 (.inr e)
                clear e23
                by_cases e1 : oK = 1
                · subst e1
                  obtain ⟨co, hfo⟩ := H5.out.fold (by have := HK40.out; omega) (by decide)
                  obtain ⟨j, t, b, q, u, m, recs, v, lv, fs, dn, rfl, rfl, -⟩ := H5.out
                  have HFO := Lib.hid hfo
                  clear hfo
                  go_wp2_with fail
                  refine HFO.out.mono ?_
                  rintro e w6 ⟨rfl, h6⟩
                  have H6 := Lib.hid (h6 _ (.inl rfl))
                  clear h6 HFO
                  go_wp2_with fail
                  refine H6.out.mono ?_
                  rintro e w7 ⟨rfl, h7⟩
                  have HG := Lib.hid h7
                  clear h7 H6
                  go_wp2_with fail
                  go_meet
                  exact HG.out
                · have n1 : (oK == 1) = false := by rw [beq_eq_false_iff_ne]; exact e1
                  by_cases e0 : oK = 0
                  · subst e0
                    clear e1
                    have hsm := HS.out
                    have hwt := wt_small hsm
                    obtain ⟨hsl, hsv⟩ := smallB_true hsm
                    have hto := to11_calls (c := lc) (HIN.out.keep H5.out.keeps) (by omega) (fun x hx => by have := (hsv x hx).2; omega)
                    have HTO := Lib.hid hto
                    have HWT := Lib.hid hwt
                    have HSV := Lib.hid hsv
                    have HSL := Lib.hid hsl
                    have l0 : (0 : Int) ≤ oL.length := by omega
                    have l1 : (oL.length : Int) ≤ 40 := by omega
                    clear hto hwt hsm hsl hsv
                    go_wp2_with fail
                    refine HTO.out.mono ?_
                    rintro e w6 ⟨cv, rfl, hat, hk6⟩
                    obtain ⟨ca, cc, rfl⟩ := hat.form
                    obtain ⟨hle, hcm⟩ := hat.le
                    have h6 := H5.out.held hat hk6
                    obtain ⟨co, hap⟩ := h6.apply (by have := HK40.out; omega) (by have := HWT.out; omega) hle hcm HIN.out HL.out.1 HL.out.2
                    obtain ⟨j, t, b, q, u, m, recs, v, lv, fs, dn, rfl, rfl, -⟩ := H5.out
                    have HAP := Lib.hid hap
                    clear hap h6 hat hle hcm hk6 HTO
                    go_wp2_with fail
                    refine HAP.out.mono ?_
                    rintro e w7 ⟨rfl, hob, hk7, F, hF, hFb, hback⟩
                    have HF := Lib.hid hF
                    have HFB := Lib.hid hFb
                    have HBK := Lib.hid hback
                    clear hob hk7 hF hFb hback HAP
                    go_wp2_with fail
                    go_loopw [81] (fun iv wx => ∃ (k2 : Nat) (cs : List TCh), k2 ≤ oL.length ∧ iv = .int .i64 (k2 : Int) ∧ cs.length = oL.length ∧ (∀ c ∈ cs, c.val.length ≤ 500) ∧ TChsHeld F wx (.slice ca oL.length cc) cs ∧ Keeps F w7 wx) (fun iv _ => oL.length - (intOf iv).toNat)
                    case atStart => exact ⟨0, oL, Nat.zero_le _, rfl, rfl, fun c hc => (HSV.out c hc).2, HF.out, Keeps.refl _ _⟩
                    case round =>
                      obtain ⟨k2, cs, hk2, rfl, hcl, hcv, hhe, hq⟩ := hrel
                      obtain ⟨w8, hw8⟩ : ∃ w8, w8 = wr := ⟨_, rfl⟩
                      subst hw8
                      have k20 : (0 : Int) ≤ k2 := by omega
                      by_cases hlt2 : k2 < oL.length
                      · obtain ⟨c, hc⟩ : ∃ c, cs[k2]? = some c := ⟨cs[k2], List.getElem?_eq_getElem (by omega)⟩
                        obtain ⟨xa, cp, hx0, hx2⟩ : ∃ (xa : Addr) (cp : Value), ca = some xa ∧ w8.cell? { block := (xa.add (k2 * 3)).block, off := (xa.add (k2 * 3)).off + 2 } = some cp ∧ ∃ pa pc, cp = .slice pa c.val.length pc := by
                          obtain ⟨xa, cp, e, -, -, h2, h3⟩ := hhe.ins.cells hc
                          obtain ⟨pa, pc, rfl, -, -⟩ := h3.form
                          exact ⟨xa, _, e, h2, pa, pc, rfl⟩
                        subst hx0
                        obtain ⟨hx2, pa, pc, rfl⟩ := hx2
                        have k21 : (k2 : Int) < oL.length := by omega
                        have hk21 : k2 + 1 ≤ oL.length := by omega
                        have hvl := hcv c (List.mem_of_getElem? hc)
                        obtain ⟨N, hN⟩ : ∃ N, c.val.length = N := ⟨_, rfl⟩
                        rw [hN] at hx2 hvl
                        have HI := Lib.hid (⟨0, cs, Nat.zero_le _, rfl, hcl, hcv, ⟨c, hc, hN⟩, hhe, hq⟩ : ∃ (n2 : Nat) (cs' : List TCh), n2 ≤ N ∧ Value.int .i64 0 = .int .i64 (n2 : Int) ∧ cs'.length = oL.length ∧ (∀ c ∈ cs', c.val.length ≤ 500) ∧ (∃ c, cs'[k2]? = some c ∧ c.val.length = N) ∧ TChsHeld F w8 (.slice (some xa) oL.length cc) cs' ∧ Keeps F w7 w8)
                        have n0 : (0 : Int) ≤ N := by omega
                        have n1 : (N : Int) ≤ 500 := by omega
                        clear hcl hcv hhe hq hc hvl hN hk2 hlt2 HF
                        go_wp2_with fail
                        go_loopw [90] (fun iv wx => ∃ (n2 : Nat) (cs' : List TCh), n2 ≤ N ∧ iv = .int .i64 (n2 : Int) ∧ cs'.length = oL.length ∧ (∀ c ∈ cs', c.val.length ≤ 500) ∧ (∃ c, cs'[k2]? = some c ∧ c.val.length = N) ∧ TChsHeld F wx (.slice (some xa) oL.length cc) cs' ∧ Keeps F w7 wx) (fun iv _ => N - (intOf iv).toNat)
                        case atStart => exact HI.out
                        case round =>
                          obtain ⟨n2, cs', hn2, rfl, hcl, hcv, ⟨c', hc', hN'⟩, hhe, hq⟩ := hrel
                          obtain ⟨w9, hw9⟩ : ∃ w9, w9 = wr := ⟨_, rfl⟩
                          subst hw9
                          have n20 : (0 : Int) ≤ n2 := by omega
                          by_cases hlt3 : n2 < N
                          · obtain ⟨y0, hy0⟩ : ∃ y, c'.val[n2]? = some y := ⟨c'.val[n2], List.getElem?_eq_getElem (by omega)⟩
                            obtain ⟨x5, cp5, g, cap5, y, e5, hh, hy, hcell, hfz, hFg, hhe2⟩ := hhe.poke (n := n2) hc' (by omega) (y0 ^^^ 255)
                            rw [hy0] at hy
                            obtain rfl := Option.some.inj hy
                            simp only [Value.slice.injEq, Option.some.injEq] at e5
                            obtain ⟨rfl, -, rfl⟩ := e5
                            rw [hN'] at hh
                            have hxo : bits .xor .u8 (y0.toNat : Int) 255 = ((y0 ^^^ 255).toNat : Int) := by
                              have h1 := u8_xor_nat y0.toNat 255 y0.toNat_lt (by omega)
                              rw [show ((255 : Nat) : Int) = 255 from rfl] at h1
                              rw [h1, UInt8.toNat_xor]
                              rfl
                            have hq2 : Keeps F w7 (w9.setCell ⟨g, n2, none⟩ (.int .u8 ((y0 ^^^ 255).toNat : Int))) := hq.trans (Keeps.setCell (F := fun b => b = g) (p := ⟨g, n2, none⟩) (Keeps.refl _ w9) (fun _ => rfl) _) (fun b _ e => by rw [e]; exact hFg)
                            have hcl2 : (cs'.set k2 ⟨c'.key, c'.gone, c'.val.set n2 (y0 ^^^ 255)⟩).length = oL.length := by rw [List.length_set]; exact hcl
                            have hcv2 : ∀ c ∈ cs'.set k2 ⟨c'.key, c'.gone, c'.val.set n2 (y0 ^^^ 255)⟩, c.val.length ≤ 500 := fun c hc => by
                              rcases List.mem_or_eq_of_mem_set hc with hc | rfl
                              · exact hcv c hc
                              · rw [List.length_set]; exact hcv c' (List.mem_of_getElem? hc')
                            have hc2 : ∃ c, (cs'.set k2 ⟨c'.key, c'.gone, c'.val.set n2 (y0 ^^^ 255)⟩)[k2]? = some c ∧ c.val.length = N :=
                              ⟨_, List.getElem?_set_self (by have := (List.getElem?_eq_some_iff.1 hc').1; exact this), by rw [List.length_set]; exact hN'⟩
                            have n21 : (n2 : Int) < N := by omega
                            have hn21 : n2 + 1 ≤ N := by omega
                            have y0l : (0 : Int) ≤ (y0.toNat : Int) := by omega
                            have HREL := Lib.hid (⟨n2 + 1, _, hn21, rfl, hcl2, hcv2, hc2, hhe2, hq2⟩ : ∃ (n' : Nat) (cs'' : List TCh), n' ≤ N ∧ Value.int .i64 ((n2 + 1 : Nat) : Int) = .int .i64 (n' : Int) ∧ cs''.length = oL.length ∧ (∀ c ∈ cs'', c.val.length ≤ 500) ∧ (∃ c, cs''[k2]? = some c ∧ c.val.length = N) ∧ TChsHeld F (w9.setCell ⟨g, n2, none⟩ (.int .u8 ((y0 ^^^ 255).toNat : Int))) (.slice (some xa) oL.length cc) cs'' ∧ Keeps F w7 (w9.setCell ⟨g, n2, none⟩ (.int .u8 ((y0 ^^^ 255).toNat : Int))))
                            generalize ((y0 ^^^ 255).toNat : Int) = z at hxo HREL
                            generalize (y0.toNat : Int) = yy at hxo hcell y0l
                            clear hq2 hcl2 hcv2 hc2 hhe2 hhe hcv hcl hq hc' hN' hlt3 hn2 hFg hx2 HI
                            go_wp2_with fail
                            go_roundw
                            case rel => exact HREL.out
                            case measure => simp [intOf]; omega
                          · obtain rfl : n2 = N := by omega
                            have HREL := Lib.hid (⟨k2 + 1, cs', hk21, rfl, hcl, hcv, hhe, hq⟩ : ∃ (k' : Nat) (cs'' : List TCh), k' ≤ oL.length ∧ Value.int .i64 ((k2 + 1 : Nat) : Int) = .int .i64 (k' : Int) ∧ cs''.length = oL.length ∧ (∀ c ∈ cs'', c.val.length ≤ 500) ∧ TChsHeld F w9 (.slice (some xa) oL.length cc) cs'' ∧ Keeps F w7 w9)
                            clear hhe hcv hcl hq hc' hN' hlt3 hn2 hx2 HI
                            go_wp2_with fail
                            go_roundw
                            case rel => exact HREL.out
                            case measure => simp [intOf]; omega
                      · obtain rfl : k2 = oL.length := by omega
                        obtain ⟨hob, hra⟩ := HBK.out w8 hq
                        obtain ⟨-, q1b, -, -⟩ := opT_at (hob wb _ (List.mem_cons_self ..))
                        have HRA := Lib.hid hra
                        clear hob hra hhe hcv hcl hk2 hlt2
                        go_wp2_with fail
                        refine HRA.out.mono ?_
                        rintro e w9 ⟨rfl, h9⟩
                        have HG := Lib.hid h9
                        clear h9 HRA
                        go_wp2_with fail
                        go_meet
                        exact HG.out
                  · have n0 : (oK == 0) = false := by rw [beq_eq_false_iff_ne]; exact e0
                    have HG := Lib.hid H5.out.next
                    clear e0 e1
                    go_wp2_with fail
                    go_meet
                    exact HG.out
          case rest =>
            have H6 := Lib.hid hcut
            obtain ⟨q0, -, -, -⟩ := opT_at (hcut.obj (t := wb) (o := opTObj oK (.slice la oL.length lc) oN oM) (List.mem_cons_self ..))
            clear hcut H5 q1 q2 q3 HIN HL HON HS
            go_upto_if 135 with fail
            go_cut [8, 9, 10, 11] from 57 to 194 (fun tv _ uv _ wx => TSt w0 wx d r nmT (3 * k + 3) [rObj w0.heap.size wb (opTObj oK (.slice la oL.length lc) oN oM)] tv uv)
            case first =>
              as_aux_lemma =>
                by_cases e3 : oK = 3
                · subst e3
                  obtain ⟨j, t, b, q, u, m, recs, v, lv, fs, dn, rfl, rfl, hti, htw⟩ := H6.out
                  have hop := topen_both htw.disks hti.tidy (by have := HK40.out; omega) (nm := nmT) (by decide)
                  generalize (tOpenOf m nmT).code = cd at hop
                  unfold nmT at hop
                  have HOP := Lib.hid hop
                  clear hop hti htw
                  go_wp2_with fail
                  refine HOP.out.mono ?_; rintro e w6 ⟨tp, rfl, -, -, hop2⟩
                  have HOP2 := Lib.hid (hop2 _ (.inl rfl))
                  clear hop2 HOP
                  go_wp2_with fail
                  refine HOP2.out.mono ?_; rintro e w7 ⟨up, rfl, hjk, hk7, hst⟩
                  cases tp with
                  | none =>
                    obtain rfl : up = none := by cases up with | none => rfl | some _ => cases hjk
                    have HB := Lib.hid hk7.below
                    clear hst hjk hk7 HOP2
                    go_wp2_with fail
                    go_ret
                    exact ⟨rfl, HB.out⟩
                  | some ta2 =>
                    obtain ⟨ua2, rfl⟩ : ∃ ua, up = some ua := by
                      cases up with
                      | none => cases hjk
                      | some ua => exact ⟨ua, rfl⟩
                    obtain ⟨rfl, h9⟩ := hst (by simp)
                    have HG := Lib.hid h9
                    clear hst h9 hjk hk7 HOP2
                    go_wp2_with fail
                    go_meet
                    exact HG.out
                · have n3 : (oK == 3) = false := by rw [beq_eq_false_iff_ne]; exact e3
                  have HG := Lib.hid H6.out.next
                  clear e3
                  go_wp2_with fail
                  go_meet
                  exact HG.out
            case rest =>
              have hrel : ∀ wx, Keeps (fun _ => False) wc wx → TRel w0 d r len u8 u10 (.int .i64 ((k + 1 : Nat) : Int)) wx := fun wx hk => ⟨k + 1, rfl, HLT.out, HK40.out, (hcut.next.quiet hk).unbox⟩
              have HREL := Lib.hid hrel
              obtain ⟨hi9, u, q, lv, v, n, rfl, ⟨lva, lvn, lvc, rfl⟩, ⟨va, vn, vc, rfl⟩, hcells, hi11, hts, hrs⟩ := hcut.asks (by have := HK40.out; omega)
              have HI9 := Lib.hid hi9
              have HI11 := Lib.hid hi11
              have HTS := Lib.hid hts
              have HRS := Lib.hid hrs
              have HC := Lib.hid hcells
              have HI9d := Lib.hid (hi9 wc.drew (Keeps.refl _ wc).drew)
              have hc0 := hcells wc (Keeps.refl _ _)
              clear hrel H6 hcut hi9 hi11 hts hrs hcells q0 HI9
              generalize (n : Int) = z at HTS HRS
              go_upto_region 43 with fail
              go_region_held3 (fun w' => w'.cell? ⟨u, 0, none⟩ = some (.pointer (some ⟨q, 0, none⟩)) ∧ w'.cell? ⟨u, 1, none⟩ = some (.slice lva lvn lvc) ∧ w'.cell? ⟨q, 2, none⟩ = some (.slice va vn vc)) (first | exact hc0 | exact hc8 | exact hc9 | go_keep) (first | (go_at_call 27; refine HI9d.out.mono ?_; rintro e w8 ⟨rfl, hk8⟩; have K8 := (Keeps.refl (fun _ => False) wc).drew.trans hk8 (fun _ _ e => e); have hc8 := HC.out w8 K8) | (go_at_call 19; refine (HI11.out w8 K8).mono ?_; rintro e w9 ⟨rfl, hk9⟩; have K9 := K8.trans hk9 (fun _ _ e => e); have hc9 := HC.out w9 K9) | (go_at_call 28; refine (HTS.out w9 K9).mono ?_; rintro e w' ⟨rfl, rfl⟩) | (go_at_call 29; refine (HRS.out w9 K9).mono ?_; rintro e w' ⟨rfl, rfl⟩))
              all_goals
                have HG := Lib.hid (HREL.out _ K9)
                clear hk8 hk9 K8 K9 hc8 hc9 hc0 HC HI11 HTS HRS HI9d
                go_wp2_with fail
                go_roundw
                case rel => exact HG.out
                case measure => have := HLT.out; simp [intOf]; omega
    · obtain rfl : k = len := by omega
      have HB := Lib.hid hst.keeps.below
      clear hst hk hk40 hlt
      go_wp2_with fail
      go_ret
      exact ⟨rfl, HB.out⟩
end Go.Proofs.YtaeabdghlkdkjaaGreat
