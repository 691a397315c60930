/- TaglogExtends: the walk. -/
import Derived.Test.YtaeabdghlkdkjaaGreatGExQ
import Derived.Test.YtaeabdghlkdkjaaGreatGAwk
import Derived.Deep.DeepCutAuto
import Derived.Deep.CutBlock
namespace Go.Proofs.YtaeabdghlkdkjaaGreat
set_option linter.unusedVariables false
open Go.RowKit Go.MapKept

theorem opened_start {w w2 : World} {d j t b g : Nat} {ve vl : Value} (h : Own w w2 (tRes w.heap.size d j t b nmT ⟨oneT 1048576 [], 0, [], false⟩ ++ (gRes w.heap.size g t ve vl [] ++ []))) : ES w w2 d 0 [] (.pointer (some ⟨g, 0, none⟩)) (.slice none 0 0) (.slice none 0 0) := by
  refine ES.mk (j := j) (t := t) (b := b) (ve := ve) (vl := vl) (r := 0) (es := []) (Nat.zero_le _) (GLI.start [] (by simp)) ?_
  have h1 := (h.nilRows).nilDigs
  refine h1.perm ?_
  exact (List.perm_append_comm (l₁ := [_, _])).trans (by exact List.Perm.refl _)

set_option maxRecDepth 100000 in
set_option maxHeartbeats 8000000 in
theorem gext_walk (a : Option Addr) (len cap : Nat) (w : World) (hlc : len ≤ cap) (hcm : cap ≤ maxLen) (hops : OpsGIn w a len) :
    Calls Tryz.prog 8 #[.slice a len cap] w fun e w' => e = .returned (.bool true) ∧ Below w.heap.size w w' := by
  obtain ⟨d, w1, hnew, h1⟩ := (Own.start w).new 1048576 (by omega) (by omega)
  have hop := opened15_calls h1 (Good.new (room := 1048576) (by omega) (by omega)) (by omega) (by rw [topen_empty]; intro size fs e; cases e; exact ⟨FSorted.nil, (by simp), (by simp), (by simp)⟩)
  rw [topen_empty] at hop
  have HOP := Lib.hid hop
  have HNEW := Lib.hid hnew
  have HAW := Lib.hid awake15_calls
  have HOPS := Lib.hid hops
  unfold maxLen at hcm
  have i0 : (len : Int) ≤ 9223372036854775807 := by omega
  clear hop hnew h1 hops
  go_enter Tryz.func8, Tryz.ntmps8
  go_wp2_with fail
  refine HNEW.out.out.mono ?_; rintro e w' ⟨rfl, rfl⟩
  go_wp2_with fail
  refine HOP.out.mono ?_
  rintro e w2 (⟨hn, _⟩ | ⟨size, fs, j, t, b, hres, hg, _⟩ | ⟨size, fs, j, t, b, g, ve, vl, es, hres, hg, rfl, h2⟩)
  · cases hn
  · cases hres
    cases hg
  cases hres
  cases hg
  have H2 := Lib.hid h2
  clear h2 HOP HNEW
  go_wp2_with fail
  refine (HAW.out _).mono ?_
  rintro e w3 ⟨rfl, hk3⟩
  have HS := Lib.hid (opened_start (H2.out.quiet hk3))
  clear H2 HAW hk3
  go_upto_block 0 with fail
  go_cut [5, 8, 9, 10, 11, 12, 13, 14, 15, 16, 17, 18, 19, 20, 21, 22, 23, 24] from 54 to 210 (fun lv rv av _ _ _ _ _ _ _ _ _ _ _ _ _ _ _ wx => ES w wx d 50 [] lv rv av)
  case first =>
    as_aux_lemma =>
      go_wp2_with fail
      go_loopw [5, 8, 9, 54] (fun lv rv av iv wx => ∃ k : Nat, iv = .int .i64 (k : Int) ∧ k ≤ len ∧ k ≤ 50 ∧ ES w wx d k [] lv rv av) (fun _ _ _ iv _ => len - (intOf iv).toNat)
      case atStart => exact ⟨0, rfl, Nat.zero_le _, Nat.zero_le _, HS.out⟩
      case round =>
        obtain ⟨k, rfl, hk, hk50, hst⟩ := hrel
        clear HS
        have j0 : (0 : Int) ≤ k := by omega
        by_cases hlt : k < len
        · obtain ⟨x, o, pv, la, lc, rfl, c0, c1, c2, c3, c4, hl1, hl2, hin, hrd, hn1, hn2, hm1, hm2⟩ := HOPS.out k hlt
          have c0 := cell_keep c0 hst.keeps
          have c1 := cell_keep c1 hst.keeps
          have c2 := cell_keep c2 hst.keeps
          have c3 := cell_keep c3 hst.keeps
          have c4 := cell_keep c4 hst.keeps
          obtain ⟨oK, oP, oL, oN, oM⟩ := o
          simp only at c0 c1 c2 c3 c4 hl1 hin hrd hn1 hn2 hm1 hm2
          obtain ⟨pa, pc, rfl, -, -⟩ := hrd.form
          have j2 : (k : Int) < len := by omega
          have hbx := hst.box (opGObj oK (.slice pa oP.length pc) (.slice la oL.length lc) oN oM)
          have hfa := fair15_calls (k0 := oK) (n0 := oN) (m0 := oM) (c := lc) (hrd.keep hbx.keeps) (hin.keep hbx.keeps) (Nat.le_trans hl1 hl2)
          have HBX := Lib.hid hbx
          have HFA := Lib.hid hfa
          have HRD := Lib.hid hrd
          have HN := Lib.hid (⟨hn1, hn2⟩ : -9223372036854775808 ≤ oN ∧ oN ≤ 9223372036854775807)
          have HM := Lib.hid (⟨hm1, hm2⟩ : -9223372036854775808 ≤ oM ∧ oM ≤ 9223372036854775807)
          have HLT := Lib.hid hlt
          clear hst hin hl1 hl2 hrd hbx hfa hk hlt hn1 hn2 hm1 hm2
          by_cases h50 : k = 50
          · have j3 : (50 : Int) ≤ k := by omega
            have HG := Lib.hid ((HBX.out.unbox).mono hk50)
            clear h50 hk50
            go_wp2_with fail
            go_meet
            exact HG.out
          · have j3 : ¬ (50 : Int) ≤ k := by omega
            have HK50 := Lib.hid (by omega : k < 50)
            clear h50 hk50
            go_wp2_with fail
            refine HFA.out.mono ?_
            rintro e w5 ⟨rfl, hk5⟩
            have h5 := HBX.out.quiet hk5
            generalize hwb : wr.heap.size = wb at *
            have H5 := Lib.hid h5
            clear HFA HBX hk5 h5 hwb c0 c1 c2 c3 c4
            cases hs : fairB oL oP with
            | false =>
              have HG := Lib.hid ((H5.out.unbox).mono (Nat.le_of_lt HK50.out))
              clear hs H5
              go_wp2_with fail
              go_meet
              exact HG.out
            | true =>
              have HPL := Lib.hid (fairB_true hs).2.1
              clear hs
              go_upto_block 2 with fail
              go_cut [8, 12, 13] from 55 to 210 (fun rv _ _ wx => ES w wx d k [rObj w.heap.size wb (opGObj oK (.slice pa oP.length pc) (.slice la oL.length lc) oN oM)] u5 rv u9)
              case first =>
                as_aux_lemma =>
                  obtain ⟨j, t, b, g, es, nx, cut, m, size, ve, vl, r, rfl, hr, ⟨ra, rc, rfl⟩, ⟨aa, ac, rfl⟩, hi, ho⟩ := H5.out
                  have hlen : es.length ≤ 50 := by have := hi.len; have := HK50.out; omega
                  have HI := Lib.hid hi
                  have HO := Lib.hid ho
                  have HLE := Lib.hid hlen
                  have HR := Lib.hid hr
                  clear hi ho hr hlen H5
                  go_wp2_with fail
                  go_loopw [8] (fun rv wx => ∃ r : Nat, r ≤ es.length + 1 ∧ (∃ a c, rv = .slice a r c) ∧ EO w wx d j t b g ⟨m, size, logFs es, cut⟩ ve vl es rv (rootsOf es r) (.slice aa es.length ac) es [rObj w.heap.size wb (opGObj oK (.slice pa oP.length pc) (.slice la oL.length lc) oN oM)]) (fun rv _ => es.length + 1 - sliceLen rv)
                  case atStart => exact ⟨r, HR.out, ⟨ra, rc, rfl⟩, HO.out⟩
                  case round =>
                    obtain ⟨r, hr, ⟨ra, rc, rfl⟩, ho⟩ := hrel
                    have j5 : (0 : Int) ≤ r := by omega
                    have HSZ := Lib.hid (gsize_runs ho.log)
                    have HO := Lib.hid ho
                    by_cases hle : r ≤ es.length
                    · have j6 : (r : Int) ≤ es.length := by omega
                      have HRT := Lib.hid (groot_calls ho.log (by have := HLE.out; omega) (n := r) hle)
                      obtain ⟨dl, hdl⟩ : ∃ dl : List Value, dl = (rootOf ((leavesOf es).take r)).map u8v := ⟨_, rfl⟩
                      have hdz : dl.toArray.size = 32 := by rw [hdl]; simp [rootOf_length ((leaves32 es).take r)]
                      have HDL := Lib.hid hdl
                      have HDZ := Lib.hid hdz
                      have HIN := Lib.hid (dig_info hdz)
                      have HD32 := Lib.hid (show dl.length = 32 by simpa using hdz)
                      have HONE := Lib.hid (show dl.toArray.all (·.oneCell') = true from all_oneCell_toArray (by rw [hdl]; exact dig_oneCell _))
                      have HRL := Lib.hid (⟨hr, hle⟩ : r ≤ es.length + 1 ∧ r ≤ es.length)
                      clear ho hr hle hdl hdz
                      go_wp2_with fail
                      refine HSZ.out.out.mono ?_; rintro e w' ⟨rfl, rfl⟩
                      generalize hel : es.length = el at j6 ⊢
                      go_wp2_with fail
                      refine HRT.out.mono ?_
                      rintro e w6 ⟨rfl, hk6⟩
                      rw [← HDL.out]
                      have HZ := Lib.hid (heap_alloc_new w6 (.cells zeroC 83))
                      have H6 := Lib.hid ((HO.out.quiet hk6).box (.cells dl.toArray 83))
                      have HB6 := Lib.hid (heap_alloc_new w6 (.cells dl.toArray 83))
                      clear hk6 HRT HO HSZ
                      go_upto_region 15 with (first | (refine wpList_store_row rfl 83 _ _ rfl w6.heap.size dl.toArray rfl rfl 83 _ HZ.out HIN.out (by rw [HDZ.out]; kernel_rfl) HONE.out ?_; rw [World.setRow_alloc_new]))
                      clear HZ
                      generalize w6.alloc (Obj.cells dl.toArray 83) = wX at *
                      generalize w6.heap.size = rb at *
                      obtain ⟨a9, c9, w9, hrun, h9⟩ := H6.out.fill HDL.out (by have := HRL.out.2; have := HLE.out; omega)
                      have HRUN := Lib.hid hrun
                      have HG := Lib.hid (⟨r + 1, by have := HRL.out.2; omega, ⟨a9, c9, rfl⟩, h9.unbox⟩ : ∃ r' : Nat, r' ≤ es.length + 1 ∧ (∃ a c, Value.slice a9 (r + 1) c9 = .slice a r' c) ∧ EO w w9 d j t b g ⟨m, size, logFs es, cut⟩ ve vl es (.slice a9 (r + 1) c9) (rootsOf es r') (.slice aa es.length ac) es [rObj w.heap.size wb (opGObj oK (.slice pa oP.length pc) (.slice la oL.length lc) oN oM)])
                      clear hrun h9 H6
                      go_wp2_with (first | (refine wpList_load_row rfl 83 _ rfl rb rfl 83 dl.toArray (0, 0) _ HB6.out Tryz.underlying83 rfl HIN.out ?_) | (refine wpList_buildDig rfl _ rfl dl HD32.out rfl ?_) | (at_builtin; refine wpList_append_run rfl _ _ _ _ rfl rfl rfl HRUN.out ?_))
                      subst hel
                      go_roundw
                      case rel => exact HG.out
                      case measure => have := HRL.out; simp only [sliceLen]; omega
                    · have j6 : (es.length : Int) < r := by omega
                      have HG := Lib.hid (ES.mk hr HI.out ho)
                      clear ho hr hle
                      go_wp2_with fail
                      refine HSZ.out.out.mono ?_; rintro e w' ⟨rfl, rfl⟩
                      generalize hel : es.length = el at j6 ⊢
                      go_wp2_with fail
                      subst hel
                      go_meet
                      exact HG.out
              case rest =>
                have H6 := Lib.hid hcut
                obtain ⟨q0, q1, -, q3, q4⟩ := opG_at hcut.at
                clear hcut H5
                have HEND := Lib.hid (fun (wx : World) (oK' : Int) (pa' : Option Addr) (pn pc' : Nat) (la' : Option Addr) (ln lc' : Nat) (lv rv av : Value) (h : ES w wx d (k + 1) [rObj w.heap.size wb (opGObj oK' (.slice pa' pn pc') (.slice la' ln lc') oN oM)] lv rv av) => (⟨k + 1, rfl, HLT.out, HK50.out, h.unbox⟩ : ∃ k' : Nat, Value.int .i64 ((k + 1 : Nat) : Int) = .int .i64 (k' : Int) ∧ k' ≤ len ∧ k' ≤ 50 ∧ ES w wx d k' [] lv rv av))
                obtain ⟨j, t, b, g, es, nx, cut, m, size, ve, vl, r, rfl, hr, ⟨ra, rc, rfl⟩, ⟨aa, ac, rfl⟩, hi, ho⟩ := H6.out
                have hlen : es.length ≤ 50 := by have := hi.len; have := HK50.out; omega
                by_cases e0 : oK = 0
                · subst e0
                  have HAD := Lib.hid (hi.addCalls (by have := HK50.out; omega) ho.own (pv := .slice pa oP.length pc) (p := oP) HPL.out (fun wr ls h => HRD.out.keep h.keeps))
                  have HLE := Lib.hid (⟨hlen, hr⟩ : es.length ≤ 50 ∧ r ≤ es.length + 1)
                  clear hi ho hr hlen H6
                  generalize hpn : oP.length = pn at *
                  generalize hel : es.length = el at *
                  go_wp2_with fail
                  refine HAD.out.mono ?_
                  rintro e w7 ⟨c, es2, nx2, cut2, m2, size2, ve2, vl2, rfl, hcase, hi2, ho2⟩
                  have ho2 : EO w w7 d j t b g ⟨m2, size2, logFs es2, cut2⟩ ve2 vl2 es2 (.slice ra r rc) (rootsOf es r) (.slice aa el ac) es [rObj w.heap.size wb (opGObj 0 (.slice pa pn pc) (.slice la oL.length lc) oN oM)] := ho2
                  have HI2 := Lib.hid hi2
                  obtain ⟨-, p1, -, -, -⟩ := opG_at ho2.at
                  have HO2 := Lib.hid ho2
                  clear hi2 ho2 HAD q0 q1 q3 q4
                  rcases hcase with ⟨rfl, rfl⟩ | ⟨rfl, rfl⟩
                  · have HTW := Lib.hid (twin_calls (HRD.out.keep HO2.out.keeps) (by have := HPL.out; omega))
                    have HMK := Lib.hid (fun (W : World) (av : Value) (h : EO w W d j t b g ⟨m2, size2, logFs (es ++ [oP]), cut2⟩ ve2 vl2 (es ++ [oP]) (.slice ra r rc) (rootsOf es r) av (es ++ [oP]) [rObj w.heap.size wb (opGObj 0 (.slice pa pn pc) (.slice la oL.length lc) oN oM)]) => (by
                      rw [← rootsOf_append es [oP] (by have := HLE.out.2; omega)] at h
                      exact ES.mk (by have := HLE.out.2; simp; omega) HI2.out h : ES w W d (k + 1) [rObj w.heap.size wb (opGObj 0 (.slice pa pn pc) (.slice la oL.length lc) oN oM)] (.pointer (some ⟨g, 0, none⟩)) (.slice ra r rc) av))
                    go_wp2_with fail
                    refine HTW.out.mono ?_
                    rintro e w8 ⟨v8, rfl, hv8, hk8⟩
                    obtain ⟨a9, c9, w9, hrun, h9⟩ := HO2.out.pushAll hv8 hk8 (by have := HLE.out.1; omega)
                    obtain ⟨va, vc, rfl, -, -⟩ := hv8.bytes.form
                    rw [hel] at hrun h9
                    have HRUN := Lib.hid hrun
                    have HG := Lib.hid (HMK.out _ _ h9)
                    clear hrun h9 hv8 hk8 HTW HO2 HMK p1 hel hpn
                    generalize oP.length = pn2 at *
                    go_wp2_with (at_builtin; refine wpList_append_run rfl _ _ _ _ rfl rfl rfl HRUN.out ?_)
                    go_roundw
                    case rel => exact HEND.out _ _ _ _ _ _ _ _ _ _ _ HG.out
                    case measure => have := HLT.out; simp [intOf]; omega
                  · subst hel
                    have HG := Lib.hid (ES.mk HLE.out.2 HI2.out HO2.out)
                    clear HO2 p1
                    generalize es2.length = el at *
                    go_wp2_with fail
                    go_roundw
                    case rel => exact HEND.out _ _ _ _ _ _ _ _ _ _ _ HG.out
                    case measure => have := HLT.out; simp [intOf]; omega
                · have n0 : (oK == 0) = false := by rw [beq_eq_false_iff_ne]; exact e0
                  by_cases e1 : oK = 1
                  · subst e1
                    clear e0
                    obtain ⟨w7, hfu, h7⟩ := ho.fuse oN
                    have HFU := Lib.hid hfu
                    have HG := Lib.hid (ES.mk hr ((hi.fuse oN HN.out.2).mono (Nat.le_succ k)) h7)
                    clear hfu h7 hi ho H6 hr hlen
                    generalize es.length = el at *
                    go_wp2_with fail
                    refine HFU.out.out.mono ?_; rintro e w' ⟨rfl, rfl⟩
                    go_wp2_with fail
                    go_roundw
                    case rel => exact HEND.out _ _ _ _ _ _ _ _ _ _ _ HG.out
                    case measure => have := HLT.out; simp [intOf]; omega
                  · have n1 : (oK == 1) = false := by rw [beq_eq_false_iff_ne]; exact e1
                    by_cases e2 : oK = 2
                    · subst e2
                      clear e0 e1
                      obtain ⟨q9, hq9, hq93⟩ := uint_mod oM 3 (by omega) (by omega)
                      have hq9' : wrap64 ((IntKind.u64.wrap oM).tmod 3) = (q9 : Int) := hq9
                      have i9 : (0 : Int) ≤ q9 := by omega
                      have i93 : (q9 : Int) < 3 := by omega
                      have HCR := Lib.hid (ho.crash hi oN oM)
                      have HLE := Lib.hid (⟨hlen, hr, hq93⟩ : es.length ≤ 50 ∧ r ≤ es.length + 1 ∧ q9 < 3)
                      clear hi ho H6 hq9 hlen hr hq93
                      generalize hel : es.length = el at *
                      go_wp2_with fail
                      refine HCR.out.mono ?_
                      rintro e w6 ⟨⟨x6, rfl⟩, hwk, h6⟩
                      obtain ⟨-, -, -, p3, p4⟩ := opG_at (h6.at (b := wb) (o := opGObj 2 (.slice pa oP.length pc) (.slice la oL.length lc) oN oM) (by simp)).1
                      have H6 := Lib.hid h6
                      have HWK := Lib.hid hwk
                      clear HCR h6 hwk q0 q1 q3 q4
                      go_wp2_with fail
                      rw [hq9']
                      clear hq9'
                      go_loopw [15] (fun iv wx => ∃ (q : Nat) (m : DM), q < 3 ∧ iv = .int .i64 (q : Int) ∧ GWok es nx cut m k ∧ Own w wx (rDisk w.heap.size d m :: rDigs w.heap.size (.slice ra r rc) (rootsOf es r) :: rRows w.heap.size (.slice aa el ac) es :: [rObj w.heap.size wb (opGObj 2 (.slice pa oP.length pc) (.slice la oL.length lc) oN oM)])) (fun iv _ => (intOf iv).toNat)
                      case atStart => exact ⟨q9, _, HLE.out.2.2, rfl, HWK.out, H6.out⟩
                      case round =>
                        obtain ⟨q, m2, hq3, rfl, hwk, ho2⟩ := hrel
                        obtain ⟨-, -, -, p3, p4⟩ := opG_at (ho2.at (b := wb) (o := opGObj 2 (.slice pa oP.length pc) (.slice la oL.length lc) oN oM) (by simp)).1
                        clear H6 HWK i9 i93
                        obtain ⟨w7, hw7⟩ : ∃ w7, w7 = wr := ⟨_, rfl⟩
                        subst hw7
                        have i0 : (0 : Int) ≤ q := by omega
                        have i3 : (q : Int) < 3 := by omega
                        by_cases hq : 0 < q
                        · have i1 : (0 : Int) < q := by omega
                          obtain ⟨z, hz, hz7⟩ := uint_mod (wrap64 (oN + q)) 6 (by omega) (by omega)
                          have hz' : wrap64 ((IntKind.u64.wrap (wrap64 (oN + q))).tmod 6) = (z : Int) := hz
                          have z0 : (0 : Int) ≤ z := by omega
                          obtain ⟨w8, hfu, h8⟩ := Own.fuseG ho2 (z : Int)
                          have hk6 : k ≤ 60 := by have := HK50.out; omega
                          obtain ⟨-, g2, -⟩ := hwk.again hk6 (z : Int) (by omega) 0 0
                          have HFU := Lib.hid hfu
                          have HOP := Lib.hid (hwk.fuseCalls hk6 (z : Int) (by omega) h8)
                          have HAG := Lib.hid (fun a b => (hwk.again hk6 (z : Int) (by omega) a b).2.2)
                          have HG2 := Lib.hid g2
                          have HQ := Lib.hid (⟨hq, hq3⟩ : 0 < q ∧ q < 3)
                          clear hfu hk6 g2 hz hz7 h8 ho2 hwk hq hq3
                          go_wp2_with fail
                          rw [hz']
                          clear hz'
                          go_wp2_with fail
                          refine HFU.out.out.mono ?_; rintro e w' ⟨rfl, rfl⟩
                          go_wp2_with fail
                          refine HOP.out.mono ?_
                          rintro e w9 ⟨⟨x1, x2, x3, rfl⟩, h9⟩
                          obtain ⟨-, -, -, s3, s4⟩ := opG_at (h9.at (b := wb) (o := opGObj 2 (.slice pa oP.length pc) (.slice la oL.length lc) oN oM) (by simp)).1
                          have HC2 := Lib.hid (fun a b => h9.crash a b HG2.out.fits)
                          clear h9 HOP HFU p3 p4
                          go_wp2_with fail
                          refine (HC2.out _ _).mono ?_
                          rintro e wz ⟨rfl, hz⟩
                          have HREL := Lib.hid (⟨q - 1, _, by have := HQ.out; omega, rfl, HAG.out _ _, hz⟩ : ∃ (q' : Nat) (m' : DM), q' < 3 ∧ Value.int .i64 ((q - 1 : Nat) : Int) = .int .i64 (q' : Int) ∧ GWok es nx cut m' k ∧ Own w wz (rDisk w.heap.size d m' :: rDigs w.heap.size (.slice ra r rc) (rootsOf es r) :: rRows w.heap.size (.slice aa el ac) es :: [rObj w.heap.size wb (opGObj 2 (.slice pa oP.length pc) (.slice la oL.length lc) oN oM)]))
                          rw [Int.natCast_sub (by have := HQ.out; omega)] at HREL
                          have hq1 := HQ.out
                          clear hz HC2 HAG HG2 s3 s4
                          go_wp2_with fail
                          go_roundw
                          case rel => exact HREL.out
                          case measure => simp [intOf]; omega
                        · obtain rfl : q = 0 := by omega
                          subst hel
                          have HOP := Lib.hid (hwk.opened15 (by have := HK50.out; omega) ho2 HLE.out.2.1)
                          clear hwk ho2 hq i0 i3 hq3
                          generalize hel : es.length = el at *
                          go_wp2_with fail
                          refine HOP.out.mono ?_
                          rintro e w9 ⟨es2, m9, size9, j9, t9, b9, g9, ve9, vl9, rfl, hes, hnx, hro, hi9, ho9⟩
                          clear HOP p3 p4
                          obtain ⟨e2, he2⟩ : ∃ e2, es2.length = e2 := ⟨_, rfl⟩
                          have hee : e2 = el ∨ e2 = el + 1 := by
                            rcases hes with rfl | rfl
                            · exact .inl (by omega)
                            · exact .inr (by rw [← he2, ← hel]; simp)
                          have HSZ := Lib.hid (fun W (hk : Keeps (fun _ => False) w9 W) => gsize_runs (ho9.quiet hk).log)
                          rw [he2] at HSZ
                          have f1 : decide (e2 < el) = false := decide_eq_false (by omega)
                          have f2 : decide ((el : Int) + 1 < e2) = false := decide_eq_false (by omega)
                          have f3 : (el : Int) ≤ 50 := by have := HLE.out.1; omega
                          have HES := Lib.hid hes
                          have HI9 := Lib.hid hi9
                          have HO9 := Lib.hid ho9
                          have HRO := Lib.hid (⟨hro, hnx, he2, hel, hee⟩ : rootsOf es2 r = rootsOf es r ∧ nx.length ≤ 500 ∧ es2.length = e2 ∧ es.length = el ∧ (e2 = el ∨ e2 = el + 1))
                          clear hes hi9 ho9 hro hnx he2 hel hee
                          go_wp2_with fail
                          refine (HSZ.out _ (Keeps.refl _ _)).out.mono ?_; rintro e w' ⟨rfl, rfl⟩
                          go_wp2_with fail
                          refine (HSZ.out _ (Keeps.refl _ _)).out.mono ?_; rintro e w' ⟨rfl, rfl⟩
                          go_wp2_with fail
                          go_loopw [174] (fun iv wx => ∃ i : Nat, i ≤ el ∧ iv = .int .i64 (i : Int) ∧ Keeps (fun _ => False) w9 wx) (fun iv _ => el - (intOf iv).toNat)
                          case atStart => exact ⟨0, Nat.zero_le _, rfl, Keeps.refl _ _⟩
                          case round =>
                            obtain ⟨i, hir, rfl, hq⟩ := hrel
                            have j0 : (0 : Int) ≤ i := by omega
                            by_cases hlt : i < el
                            · have j1 : (i : Int) < el := by omega
                              obtain ⟨p, hp⟩ : ∃ p, es[i]? = some p := ⟨es[i]'(by have := HRO.out.2.2.2.1; omega), List.getElem?_eq_getElem _⟩
                              have hp2 : es2[i]? = some p := by
                                rcases HES.out with rfl | rfl
                                · exact hp
                                · rw [List.getElem?_append_left (by have := HRO.out.2.2.2.1; omega)]; exact hp
                              have hpl : p.length ≤ 500 := HI9.out.small.1 p (List.mem_of_getElem? hp2)
                              have hoq := HO9.out.quiet hq
                              obtain ⟨a1, c1, hav, hrows⟩ := hoq.rows
                              injection hav with y1 y2 y3; clear y2 y3; subst y1
                              obtain ⟨x1, pv, rfl, hx1, hrd1⟩ := hrows i p hp
                              obtain ⟨va, vc, rfl, -, -⟩ := hrd1.form
                              have HEN := Lib.hid (gentry_calls hoq.log hp2 (by omega))
                              have HR1 := Lib.hid hrd1
                              have HLT := Lib.hid (⟨hlt, hpl⟩ : i < el ∧ p.length ≤ 500)
                              have HQ := Lib.hid hq
                              clear hp hp2 hpl hoq hrows hrd1 hlt hq hir
                              generalize hpn : p.length = pn at *
                              go_wp2_with fail
                              refine HEN.out.mono ?_
                              rintro e w10 ⟨v10, rfl, hv10, hk10⟩
                              obtain ⟨wa, wc2, rfl, -, -⟩ := hv10.bytes.form
                              have hsm := same_calls (HR1.out.keep hk10) hv10.bytes.reads
                              rw [decide_eq_true rfl] at hsm
                              rw [hpn] at hsm
                              have HSM := Lib.hid hsm
                              have HQ10 := Lib.hid (HQ.out.trans hk10 (fun _ _ e => e))
                              clear hsm hv10 hk10 HEN HR1 HQ hx1
                              rw [hpn]
                              go_wp2_with fail
                              refine HSM.out.mono ?_
                              rintro e w11 ⟨rfl, hk11⟩
                              have HG := Lib.hid (⟨i + 1, HLT.out.1, rfl, HQ10.out.trans hk11 (fun _ _ e => e)⟩ : ∃ i' : Nat, i' ≤ el ∧ Value.int .i64 ((i + 1 : Nat) : Int) = .int .i64 (i' : Int) ∧ Keeps (fun _ => False) w9 w11)
                              clear hk11 HQ10 HSM hpn
                              go_wp2_with fail
                              go_roundw
                              case rel => exact HG.out
                              case measure => have := HLT.out; simp [intOf]; omega
                            · obtain rfl : i = el := by omega
                              obtain ⟨hro, hnx, he2, hel, hee⟩ := HRO.out
                              have hrr := HLE.out.2.1
                              have hoq := HO9.out.quiet hq
                              have HOQ := Lib.hid hoq
                              have HS1 := Lib.hid (HSZ.out _ hq)
                              rcases HES.out with rfl | rfl
                              · have f4 : ¬ (i : Int) < e2 := by omega
                                have HG := Lib.hid (ES.mk (by omega) (HI9.out.mono (Nat.le_succ k)) hoq)
                                clear hq hlt hir hoq hro hee hnx hrr HSZ HES
                                go_wp2_with fail
                                refine HS1.out.out.mono ?_; rintro e w' ⟨rfl, rfl⟩
                                go_wp2_with fail
                                go_roundw
                                case rel => exact HEND.out _ _ _ _ _ _ _ _ _ _ _ HG.out
                                case measure => have := HLT.out; simp [intOf]; omega
                              · have f4 : (i : Int) < e2 := by
                                  have : e2 = i + 1 := by rw [← he2, ← hel]; simp
                                  omega
                                have HEN := Lib.hid (gentry_calls hoq.log (i := i) (p := nx) (by rw [List.getElem?_append_right (by omega)]; simp [hel]) (by omega))
                                have HMK := Lib.hid (fun (W : World) (av : Value) (h : EO w W d j9 t9 b9 g9 ⟨m9, size9, logFs (es ++ [nx]), false⟩ ve9 vl9 (es ++ [nx]) (.slice ra r rc) (rootsOf (es ++ [nx]) r) av (es ++ [nx]) [rObj w.heap.size wb (opGObj 2 (.slice pa oP.length pc) (.slice la oL.length lc) oN oM)]) => ES.mk (by simp; omega) (HI9.out.mono (Nat.le_succ k)) h)
                                have hl5 : es.length < 1099511627776 := by omega
                                clear hq hlt hir hro hee hnx hrr HSZ HES hoq
                                go_wp2_with fail
                                refine HS1.out.out.mono ?_; rintro e w' ⟨rfl, rfl⟩
                                go_wp2_with fail
                                refine HEN.out.mono ?_
                                rintro e w10 ⟨v10, rfl, hv10, hk10⟩
                                obtain ⟨a11, c11, w11, hrun, h11⟩ := HOQ.out.pushAll hv10 hk10 hl5
                                rw [hel] at hrun h11
                                obtain ⟨wa, wc2, rfl, -, -⟩ := hv10.bytes.form
                                have HRUN := Lib.hid hrun
                                have HG := Lib.hid (HMK.out _ _ h11)
                                clear hrun h11 hv10 hk10 HEN HMK HOQ HS1 hl5 he2
                                generalize nx.length = nn at *
                                go_wp2_with (at_builtin; refine wpList_append_run rfl _ _ _ _ rfl rfl rfl HRUN.out ?_)
                                go_roundw
                                case rel => exact HEND.out _ _ _ _ _ _ _ _ _ _ _ HG.out
                                case measure => have := HLT.out; simp [intOf]; omega
                    · have n2 : (oK == 2) = false := by rw [beq_eq_false_iff_ne]; exact e2
                      have HG := Lib.hid (H6.out.mono (Nat.le_succ k))
                      clear e0 e1 e2 hi ho hr hlen H6
                      generalize es.length = el at *
                      go_wp2_with fail
                      go_roundw
                      case rel => exact HEND.out _ _ _ _ _ _ _ _ _ _ _ HG.out
                      case measure => have := HLT.out; simp [intOf]; omega
        · have HG := Lib.hid (hst.mono hk50)
          have j2 : ¬ (k : Int) < len := by omega
          clear hst hk hk50 hlt
          go_wp2_with fail
          go_meet
          exact HG.out
  case rest =>
    obtain ⟨j, t, b, g, es, nx, cut, m, size, ve, vl, r, rfl, hr, ⟨ra, rc, rfl⟩, ⟨aa, ac, rfl⟩, hi, ho⟩ := hcut
    have hlen : es.length ≤ 50 := by have := hi.len; omega
    have hrt := groot_calls ho.log (by omega) (n := es.length) (Nat.le_refl _)
    have hll : (leavesOf es).length = es.length := List.length_map _
    rw [List.take_of_length_le (by omega)] at hrt
    obtain ⟨nl, hnl⟩ : ∃ nl : List Value, nl = (rootOf (leavesOf es)).map u8v := ⟨_, rfl⟩
    have hnz : nl.toArray.size = 32 := by rw [hnl]; simp [rootOf_length (leaves32 es)]
    have HNL := Lib.hid hnl
    have HNZ := Lib.hid hnz
    have HIN := Lib.hid (dig_info hnz)
    have HONE := Lib.hid (show nl.toArray.all (·.oneCell') = true from all_oneCell_toArray (by rw [hnl]; exact dig_oneCell _))
    have HSZ := Lib.hid (gsize_runs ho.log)
    have HRT := Lib.hid hrt
    have HO := Lib.hid ho
    have HLE := Lib.hid (⟨hlen, hr⟩ : es.length ≤ 50 ∧ r ≤ es.length + 1)
    clear HS HOPS hrt hll hnl hnz ho hi hlen hr
    go_wp2_with fail
    refine HSZ.out.out.mono ?_; rintro e w' ⟨rfl, rfl⟩
    go_wp2_with fail
    refine HRT.out.mono ?_
    rintro e w5 ⟨rfl, hk5⟩
    rw [← HNL.out]
    have HZ := Lib.hid (heap_alloc_new w5 (.cells zeroC 83))
    have H6 := Lib.hid ((HO.out.quiet hk5).box (.cells nl.toArray 83))
    clear hk5 HRT HO HSZ
    go_wp2_with (first | (refine wpList_store_row rfl 83 _ _ rfl w5.heap.size nl.toArray rfl rfl 83 _ HZ.out HIN.out (by rw [HNZ.out]; kernel_rfl) HONE.out ?_; rw [World.setRow_alloc_new]))
    clear HZ
    generalize w5.alloc (Obj.cells nl.toArray 83) = wX at *
    generalize w5.heap.size = nb at *
    go_loopw [221] (fun iv wx => ∃ i : Nat, i ≤ r ∧ iv = .int .i64 (i : Int) ∧ Keeps (fun _ => False) wX wx) (fun iv _ => r - (intOf iv).toNat)
    case atStart => exact ⟨0, Nat.zero_le _, rfl, Keeps.refl _ _⟩
    case round =>
      obtain ⟨i, hir, rfl, hq⟩ := hrel
      have j0 : (0 : Int) ≤ i := by omega
      by_cases hlt : i < r
      · have j1 : (i : Int) < r := by omega
        have j2 : (i : Int) ≤ es.length := by have := HLE.out.2; omega
        have jN : (r : Int) ≤ 51 := by have := HLE.out; omega
        have hle : i ≤ es.length := by omega
        have hget := rootsOf_get (es := es) hlt
        have ho2 := H6.out.quiet hq
        obtain ⟨rg, rc2, hrv, hrg⟩ := ho2.root.cell hget
        rw [rootsOf_length] at hrv
        obtain ⟨xl, hxl⟩ : ∃ xl : List Value, xl = (rootOf ((leavesOf es).take i)).map u8v := ⟨_, rfl⟩
        rw [← hxl] at hrg
        have hxs : xl.toArray.size = 32 := by rw [hxl]; simp [rootOf_length ((leaves32 es).take i)]
        have hxi : (Tryz.prog.info? 83).map (·.size) = some xl.length := by have h := dig_info hxs; rwa [List.size_toArray] at h
        have ho3 := ho2.box (.cells xl.toArray 83)
        have hpr := gproof_calls ho3.log (by have := HLE.out; omega) (i : Int) (n := es.length) (Nat.le_refl _)
        have hll : (leavesOf es).length = es.length := List.length_map _
        rw [List.take_of_length_le (by omega), if_pos (⟨j0, j2⟩ : (0 : Int) ≤ (i : Int) ∧ (i : Int) ≤ (es.length : Int))] at hpr
        have hpq : (if 0 < (i : Int) ∧ (i : Int) ≤ (es.length : Int) then proofOf (leavesOf es) (i : Int).toNat true else []) = if 0 < i then proofOf (leavesOf es) i true else [] := by
          by_cases h0 : 0 < i
          · rw [if_pos h0, if_pos ⟨by omega, j2⟩]; simp
          · rw [if_neg h0, if_neg (by omega)]
        rw [hpq] at hpr
        have hex := fun (w' : World) (v : Value) (hd : DgIn w' v (if 0 < i then proofOf (leavesOf es) i true else [])) => extends_proof (L := leavesOf es) (by have := HLE.out; omega) (leaves32 es) (m := i) (by omega) hd
        rw [hll, ← hxl, ← HNL.out] at hex
        have HPR := Lib.hid hpr
        have HEX := Lib.hid hex
        have HB29 := Lib.hid ho3.at
        have HB26 := Lib.hid ho3.unbox.at
        have HRG := Lib.hid hrg
        have HXI := Lib.hid hxi
        have HXI2 := Lib.hid (dig_info hxs)
        have HXS := Lib.hid hxs
        have HXONE := Lib.hid (show xl.toArray.all (·.oneCell') = true from all_oneCell_toArray (by rw [hxl]; exact dig_oneCell _))
        have HZ := Lib.hid (heap_alloc_new wr (.cells zeroC 83))
        have HQ := Lib.hid (hq.alloc (.cells xl.toArray 83))
        cases hrv
        generalize (if 0 < i then proofOf (leavesOf es) i true else []) = PF at *
        generalize hel : es.length = el at *
        clear hget ho2 ho3 hpr hpq hex hrg hxl hxs hxi hq hll hle hel
        have HLT := Lib.hid hlt
        clear hlt hir
        go_wp2_with (first | (refine wpList_load_mid rfl 83 _ rfl rg (i * 32) rfl xl _ HRG.out Tryz.underlying83 rfl HXI.out ?_) | (refine wpList_store_row rfl 83 _ _ rfl wr.heap.size xl.toArray rfl rfl 83 _ HZ.out HXI2.out (by rw [HXS.out]; kernel_rfl) HXONE.out ?_; rw [World.setRow_alloc_new]))
        generalize wr.alloc (Obj.cells xl.toArray 83) = wY at *
        generalize wr.heap.size = xb at *
        refine HPR.out.mono ?_
        rintro e w8 ⟨pv, rfl, hd, hk8⟩
        obtain ⟨pa, pc, rfl, -, -⟩ := hd.form
        have HEX2 := Lib.hid (HEX.out w8 _ hd.ins)
        have HB29b := Lib.hid (hk8.at HB29.out (fun e => e))
        have HB26b := Lib.hid (hk8.at HB26.out (fun e => e))
        have HQ8 := Lib.hid (HQ.out.trans hk8 (fun _ _ e => e))
        clear hd hk8 HPR HEX HB29 HB26 HQ HZ HRG
        generalize PF.length = pn at *
        go_wp2_with (first | (refine wpList_load_rowG (by rfl) 83 _ rfl xb rfl 83 xl.toArray (0, 0) _ HB29b.out Tryz.underlying83 rfl HXI2.out ?_) | (refine wpList_load_rowG (by rfl) 83 _ rfl nb rfl 83 nl.toArray (0, 0) _ HB26b.out Tryz.underlying83 rfl HIN.out ?_))
        refine HEX2.out.mono ?_
        rintro e w9 ⟨rfl, hk9⟩
        have HG := Lib.hid (⟨i + 1, HLT.out, rfl, HQ8.out.trans hk9 (fun _ _ e => e)⟩ : ∃ i' : Nat, i' ≤ r ∧ Value.int .i64 ((i + 1 : Nat) : Int) = .int .i64 (i' : Int) ∧ Keeps (fun _ => False) wX w9)
        clear hk9 HEX2 HB29b HB26b HQ8
        go_wp2_with fail
        go_roundw
        case rel => exact HG.out
        case measure => have := HLT.out; simp [intOf]; omega
      · obtain rfl : i = r := by omega
        have HF := Lib.hid (show Below w.heap.size w wr from (H6.out.keeps.trans hq (fun _ _ e => e)).below)
        clear hq hir hlt
        go_wp2_with fail
        go_ret
        exact ⟨rfl, HF.out⟩
end Go.Proofs.YtaeabdghlkdkjaaGreat
