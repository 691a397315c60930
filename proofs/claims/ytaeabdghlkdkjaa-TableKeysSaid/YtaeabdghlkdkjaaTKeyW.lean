/- TableKeys: the walk. -/
import Derived.Test.YtaeabdghlkdkjaaTPrs
import Derived.Test.YtaeabdghlkdkjaaTAwk
import Derived.Deep.DeepCutAuto
import Derived.Deep.CutBlock
namespace Go.Proofs.Ytaeabdghlkdkjaa
set_option linter.unusedVariables false
open Go.RowKit Go.MapKept

theorem app_fs (T : TM) (nm : ByteArray) (l : List TCh) (hd : T.down = false) : ((tAppOf T nm l).1 = 0 → (tAppOf T nm l).2.fs = tdos T.fs l ∧ (encOf l).1 = 0) ∧ ((tAppOf T nm l).1 ≠ 0 → (tAppOf T nm l).2.fs = T.fs) := by
  unfold tAppOf
  rw [if_neg (by rw [hd]; simp)]
  split
  · rename_i he
    split
    · split
      · exact ⟨fun _ => ⟨rfl, he⟩, fun h => absurd rfl h⟩
      · rename_i h1
        exact ⟨fun h => absurd h h1, fun _ => rfl⟩
    · rename_i h1
      exact ⟨fun h => absurd h h1, fun _ => rfl⟩
  · rename_i h1
    exact ⟨fun h => absurd h h1, fun _ => rfl⟩
theorem keyAt_found : ∀ {fs : FS}, FSorted fs → ∀ (k : ByteArray), (fget fs k).isSome = true → ∃ x, fs[keyAt fs k]? = some (k, x) ∧ fget fs k = some x
  | [], _, k, h => by simp [fget] at h
  | p :: fs, hs, k, h => by
    have hs' := List.pairwise_cons.1 hs
    rw [keyAt]
    by_cases he : p.1 = k
    · rw [if_neg (by rw [he, blt_irrefl]; simp)]
      refine ⟨p.2, by rw [List.getElem?_cons_zero, ← he], ?_⟩
      unfold fget
      rw [List.find?_cons]
      have : decide (p.1 = k) = true := by simpa using he
      rw [this]
      rfl
    · have hg : fget (p :: fs) k = fget fs k := by
        unfold fget
        rw [List.find?_cons]
        have : decide (p.1 = k) = false := by simpa using he
        rw [this]
      rw [hg] at h ⊢
      obtain ⟨x, h1, h2⟩ := keyAt_found hs'.2 k h
      have hmem : (k, x) ∈ fs := List.mem_of_getElem? h1
      rw [if_pos (hs'.1 _ hmem)]
      exact ⟨x, by rw [List.getElem?_cons_succ]; exact h1, h2⟩
theorem keyAt_none {fs : FS} {k : ByteArray} (h : fget fs k = none) {p : ByteArray × List UInt8} (hp : fs[keyAt fs k]? = some p) : p.1 ≠ k := by
  intro e
  have := fget_none_mem h
  exact this (List.mem_map.2 ⟨p, List.mem_of_getElem? hp, e⟩)

theorem keysFrom_len (hd af : ByteArray) (n : Int) : ∀ (fs : FS) (out : List ByteArray), (keysFrom hd af n fs out).length ≤ out.length + fs.length
  | [], out => Nat.le_refl _
  | p :: fs, out => by
    rw [keysFrom]
    split
    · rw [List.length_cons]; omega
    · have := keysFrom_len hd af n fs (if beginsB p.1 hd = true ∧ blt af p.1 = true then out ++ [p.1] else out)
      rw [List.length_cons]
      split at this
      · rw [List.length_append, List.length_singleton] at this; rename_i h1 h2; rw [if_pos h2]; omega
      · rename_i h1 h2; rw [if_neg h2]; omega
theorem PairsAt.later {F : Nat → Prop} {w w' : World} {v : Value} {fs : FS} (h : PairsAt F w v fs) (hk : Keeps (fun _ => False) w w') : PairsAt F w' v fs := h.quiet hk (fun b hb _ => hb)
set_option maxRecDepth 100000 in
set_option maxHeartbeats 2000000 in
theorem tkey_walk {w : World} {a : Option Addr} {c : Nat} {l : List TCh} (hin : TChsIn w a l) (hlc : l.length ≤ c) (hcm : c ≤ maxLen) (x0 x1 : ByteArray) (most : Int) :
    Calls Try.prog 3 #[.slice a l.length c, .agg #[.string x0, .string x1], .int .i64 most] w (fun e w' => e = .returned (.bool true) ∧ Below w.heap.size w w') := by
  obtain ⟨d, w1, hnew, h1⟩ := ((Own.start w).alloc (.cells #[.string x0, .string x1] 23)).new 1048576 (by omega) (by omega)
  have g1 := Good.new (room := 1048576) (by omega) (by omega)
  have hop := topen_calls h1 g1 (by omega) nmT
  have g2 := open_good g1 nmT
  rw [open_emptyT] at g2
  rw [topen_empty] at hop
  unfold nmT at hop
  have HOP := Lib.hid hop
  have HNEW := Lib.hid hnew
  have G2 := Lib.hid g2
  have HIN := Lib.hid hin
  have HLC := Lib.hid hlc
  have HCM := Lib.hid hcm
  clear hop hnew h1 g1 g2 hin hlc hcm
  go_enter Try.func3, Try.ntmps3
  go_wp2_with fail
  refine HNEW.out.out.mono ?_; rintro e w' ⟨rfl, rfl⟩
  go_wp2_with fail
  refine HOP.out.mono ?_
  rintro e w2 (⟨hn, _⟩ | ⟨size, fs, j, t, b, hres, rfl, h2⟩)
  · cases hn
  simp only [Option.some.injEq, Prod.mk.injEq] at hres
  obtain ⟨rfl, rfl⟩ := hres
  dsimp only at h2
  have H2 := Lib.hid h2
  clear h2 HNEW HOP
  go_wp2_with fail
  refine (awake11_calls w2).mono ?_
  rintro e w3 ⟨rfl, hk3⟩
  have H3 := Lib.hid (H2.out.quiet hk3)
  have HSM := Lib.hid (small11_calls (c := c) (HIN.out.keep H3.out.keeps) (by have := HLC.out; have := HCM.out; omega))
  clear hk3 H2
  go_wp2_with fail
  refine HSM.out.mono ?_
  rintro e w4 ⟨rfl, hk4⟩
  have H4 := Lib.hid (H3.out.quiet hk4)
  clear hk4 H3 HSM
  cases hsm : smallB l with
  | false =>
    clear hsm
    go_wp2_with fail
    refine (awake11_calls w4).mono ?_
    rintro e w5 ⟨rfl, hk5⟩
    have HF := Lib.hid (H4.out.quiet hk5).below
    clear hk5 H4
    go_wp2_with fail
    go_ret
    exact ⟨rfl, HF.out⟩
  | true =>
    obtain ⟨hs1, hs2⟩ := smallB_true hsm
    have HTO := Lib.hid (to11_calls (c := c) (HIN.out.keep H4.out.keeps) (by omega) (fun x hx => by have := (hs2 x hx).2; omega))
    have HS1 := Lib.hid hs1
    have HS2 := Lib.hid hs2
    clear hsm hs1 hs2
    go_wp2_with fail
    refine HTO.out.mono ?_
    rintro e w5 ⟨lv, rfl, hat, hk5⟩
    obtain ⟨la, lc, rfl⟩ := hat.form
    have hle := hat.le
    have h5 := (H4.out.addTChs hat hk5).perm (List.perm_middle (l₁ := [_, _, _, _]) (l₂ := [_])).symm
    have hap := tapply_calls (T := ⟨oneT 1048576 [], 0, [], false⟩) (nm := nmT) h5 G2.out (by omega) (by dsimp only; omega) (a := la) (c := lc) (l := l) (by simp) hle.1 hle.2
    have hfs := app_fs ⟨oneT 1048576 [], 0, [], false⟩ nmT l rfl
    generalize tAppOf ⟨oneT 1048576 [], 0, [], false⟩ nmT l = R at hap hfs
    obtain ⟨rc, rm, rz, rfs, rd⟩ := R
    dsimp only at hfs
    have HAP := Lib.hid hap
    have HFS := Lib.hid hfs
    clear hap hfs h5 hat hk5 hle HTO H4 G2
    go_wp2_with fail
    refine HAP.out.mono ?_
    rintro e w6 ⟨rfl, h6⟩
    dsimp only at h6
    have htab := (h6.at (b := t) (o := tabObj j b rd) (by simp [tRes])).1
    have hwd := (h6.at (b := w.heap.size) (o := .cells #[.string x0, .string x1] 23) (by simp [tRes])).1
    obtain ⟨F, ⟨_, hmap⟩, _⟩ := h6.mem (r := rMap w.heap.size b rfs) (by simp [tRes])
    obtain ⟨b0, hb0⟩ : ∃ b0, (rc == 0) = b0 := ⟨_, rfl⟩
    have hok : TabOk rfs ∧ rfs.length ≤ 40 := by
      by_cases hrc : rc = 0
      · obtain ⟨q1, q2⟩ := HFS.out.1 hrc
        rw [q1]
        refine ⟨TabOk.tdos l TabOk.nil (enc_ok q2).2.2.1, ?_⟩
        have q3 := length_tdos l []
        have q4 := HS1.out
        rw [List.length_nil] at q3
        omega
      · rw [HFS.out.2 hrc]
        exact ⟨TabOk.nil, by simp⟩
    have hrdo := rdo11_calls (PairsAt.nil (fun _ => False) w6) FSorted.nil (a := a) (c := c) (HIN.out.keep h6.keeps) (by have := HS1.out; rw [List.length_nil]; omega) (fun x hx => by have := (HS2.out x hx).2; omega)
    have HX := Lib.hid (fun (wx : World) (hk : Keeps (fun _ => False) w6 wx) => (⟨hk.at htab (fun e => e), hmap.later hk, hk.at hwd (fun e => e)⟩ : wx.heap[t]? = some (tabObj j b rd) ∧ MapFs F wx b rfs ∧ wx.heap[w.heap.size]? = some (.cells #[.string x0, .string x1] 23 (0, 0))))
    have HK6 := Lib.hid h6.keeps
    have HOK := Lib.hid hok
    have HDO := Lib.hid hrdo
    clear htab hwd hmap hok hrdo h6 HAP
    go_upto_if 45 with fail
    go_cut [11] from 46 to 47 (fun hv wx => (∃ G, PairsAt G wx hv rfs) ∧ Keeps (fun _ => False) w6 wx)
    case first =>
      cases b0 with
      | true =>
        have hrc : rc = 0 := by simpa using hb0
        have hrf := (HFS.out.1 hrc).1
        go_wp2_with fail
        refine HDO.out.mono ?_
        rintro e w7 ⟨hv, rfl, hp, hk7⟩
        obtain ⟨pa, pc, rfl, -, -⟩ := hp.form
        have HF := Lib.hid (⟨⟨_, by rw [hrf]; exact hp⟩, hk7⟩ : (∃ G, PairsAt G w7 (.slice pa (tdos [] l).length pc) rfs) ∧ Keeps (fun _ => False) w6 w7)
        generalize (tdos [] l).length = n7 at HF ⊢
        clear hp hk7 hrf hrc HDO hb0
        go_wp2_with fail
        go_meet
        exact HF.out
      | false =>
        have hrc : ¬ rc = 0 := by simpa using hb0
        have hrf := HFS.out.2 hrc
        have HF := Lib.hid (⟨⟨fun _ => False, by rw [hrf]; exact PairsAt.nil _ _⟩, Keeps.refl _ _⟩ : (∃ G, PairsAt G w6 (.slice none 0 0) rfs) ∧ Keeps (fun _ => False) w6 w6)
        clear hrc hrf HDO hb0
        go_wp2_with fail
        go_meet
        exact HF.out
    case rest =>
      obtain ⟨⟨G, hp⟩, hk7⟩ := hcut
      obtain ⟨w7, hw7⟩ : ∃ w7, w7 = wc := ⟨_, rfl⟩
      subst hw7
      obtain ⟨pa, pc, rfl, -, -⟩ := hp.form
      have HP := Lib.hid hp
      have HX7 := Lib.hid (fun (wx : World) (hk : Keeps (fun _ => False) w7 wx) => HX.out wx (hk7.trans hk (fun _ _ e => e)))
      have HK7 := Lib.hid (HK6.out.trans hk7 (fun _ _ e => e))
      have hkn := keysFrom_len x0 x1 most rfs []
      have hky := fun (W : World) (hk : Keeps (fun _ => False) w7 W) => tkeys_calls (HX7.out W hk).1 (HX7.out W hk).2.1 HOK.out.1.sorted HOK.out.1.names (by have := HOK.out.2; omega) x0 x1 most
      have hrk := fun (W : World) (hk : Keeps (fun _ => False) w7 W) => rkeys11_calls (hp.later hk) (by have := HOK.out.2; omega) x0 x1 most
      have hkl : (keysOf rfs x0 x1 most).length ≤ 40 := by have := HOK.out.2; unfold keysOf; rw [List.length_nil] at hkn; omega
      generalize keysOf rfs x0 x1 most = ks at hky hrk hkl
      have HKY := Lib.hid hky
      have HRK := Lib.hid hrk
      have i40 : (ks.length : Int) ≤ 40 := by omega
      have HS := Lib.hid (fun (W : World) (hk : Keeps (fun _ => False) w7 W) => (⟨cell_at (i := 0) (HX7.out W hk).2.2 rfl, cell_at (i := 1) (HX7.out W hk).2.2 rfl⟩ : W.cell? ⟨w.heap.size, 0, none⟩ = some (.string x0) ∧ W.cell? ⟨w.heap.size, 1, none⟩ = some (.string x1)))
      clear hp hk7 hkn hky hrk hkl HX HK6 HDO HFS
      go_wp2_with fail
      go_region_held3 (fun w' => w'.cell? ⟨w.heap.size, 0, none⟩ = some (.string x0) ∧ w'.cell? ⟨w.heap.size, 1, none⟩ = some (.string x1)) (first | exact HS.out _ ((Keeps.refl _ w7).drew) | exact s1 | exact s2 | go_keep) (first | (go_at_call 15; refine (HKY.out _ ((Keeps.refl _ w7).drew)).mono ?_; rintro e w8 ⟨xv, rfl, hx, hk8⟩; obtain ⟨xa, xc, rfl⟩ := hx.form; have hk8' := ((Keeps.refl (fun _ => False) w7).drew).trans hk8 (fun _ _ e => e); have s1 := HS.out _ hk8') | (go_at_call 16; refine (HRK.out _ hk8').mono ?_; rintro e w9 ⟨yv, rfl, hy, hk9⟩; obtain ⟨ya, yc, rfl⟩ := hy.form; have hk9' := hk8'.trans hk9 (fun _ _ e => e); have s2 := HS.out _ hk9'))
      all_goals
        have HXV := Lib.hid (hx.keep hk9)
        have HYV := Lib.hid hy
        have HK9 := Lib.hid hk9'
        have n0 : (0 : Int) ≤ ks.length := by omega
        clear hx hy hk8 hk9 hk8' hk9' s1 s2 HKY HRK
        go_wp2_with fail
        go_loopw [69] (fun iv wx => ∃ k : Nat, k ≤ ks.length ∧ iv = .int .i64 (k : Int) ∧ Keeps (fun _ => False) w9 wx) (fun iv _ => ks.length - (intOf iv).toNat)
        case atStart => exact ⟨0, Nat.zero_le _, rfl, Keeps.refl _ _⟩
        case round =>
          obtain ⟨k, hk, rfl, hq⟩ := hrel
          obtain ⟨w10, hw10⟩ : ∃ w10, w10 = wr := ⟨_, rfl⟩
          subst hw10
          have k0 : (0 : Int) ≤ k := by omega
          by_cases hlt : k < ks.length
          · obtain ⟨sk, hsk⟩ : ∃ sk, ks[k]? = some sk := ⟨ks[k], List.getElem?_eq_getElem hlt⟩
            obtain ⟨g, rfl, hc, hle, _⟩ := (HXV.out.keep hq).cell hsk
            obtain ⟨g2, rfl, hc2, hle2, _⟩ := (HYV.out.keep hq).cell hsk
            have k1 : (k : Int) < ks.length := by omega
            have hk1 : k + 1 ≤ ks.length := by omega
            have HQ := Lib.hid hq.drew
            clear hq hsk hle hle2 hlt hk
            go_wp2_with fail
            go_still_tail 8, (by kernel_rfl)
            change wpList _ _ _ _ _ (World.drew _)
            go_wp2_with fail
            go_roundw
            case rel => exact ⟨k + 1, hk1, rfl, HQ.out⟩
            case measure => simp [intOf]; omega
          · obtain rfl : k = ks.length := by omega
            have hk10 : Keeps (fun _ => False) w7 w10 := HK9.out.trans hq (fun _ _ e => e)
            have HK10 := Lib.hid hk10
            have hvl : ((fget rfs x0).getD []).length ≤ 262144 := by
              cases hg : fget rfs x0 with
              | none => simp
              | some x => exact (HOK.out.1.each _ (mem_of_fget hg)).2.2
            have HG := Lib.hid (tget_calls (HX7.out w10 hk10).1 (HX7.out w10 hk10).2.1 x0 (by omega))
            obtain ⟨c0, c1⟩ := HS.out w10 hk10
            clear hq hlt hk hk10 HXV HYV HK9 n0 k0 i40 hvl
            go_wp2_with fail
            refine HG.out.mono ?_
            rintro e w11 ⟨v, rfl, hv, hk11⟩
            obtain ⟨d0, d1⟩ := HS.out w11 (HK10.out.trans hk11 (fun _ _ e => e))
            have hfi := rfind11_runs (HP.out.later (HK10.out.trans hk11 (fun _ _ e => e))) x0 (by have := HOK.out.2; omega)
            obtain ⟨va, vc, rfl, -, -⟩ := hv.bytes.form
            have HV := Lib.hid hv
            have HK11 := Lib.hid (HK10.out.trans hk11 (fun _ _ e => e))
            have HKV := Lib.hid hk11
            have HFI := Lib.hid hfi
            obtain ⟨at_, hat⟩ : ∃ n, keyAt rfs x0 = n := ⟨_, rfl⟩
            rw [hat] at HFI
            have hatl : at_ ≤ rfs.length := by rw [← hat]; exact keyAt_le _ _
            have a0' : (0 : Int) ≤ at_ := by omega
            have a1' : (rfs.length : Int) ≤ 40 := by have := HOK.out.2; omega
            have HAT := Lib.hid hat
            have HATL := Lib.hid hatl
            clear hv hk11 hfi HG c0 c1 hat hatl
            obtain ⟨vs, hvs⟩ : ∃ vs, (fget rfs x0).getD [] = vs := ⟨_, rfl⟩
            obtain ⟨bs, hbs⟩ : ∃ bs, (fget rfs x0).isSome = bs := ⟨_, rfl⟩
            rw [hvs] at HV ⊢
            rw [hbs]
            have HVS := Lib.hid hvs
            have HBS := Lib.hid hbs
            clear hvs hbs
            go_wp2_with fail
            refine HFI.out.out.mono ?_; rintro e w' ⟨rfl, rfl⟩
            go_upto_region 19 with fail
            go_cut [18] from 93 to 106 (fun iv wx => iv = .bool bs ∧ Keeps (fun _ => False) w11 wx)
            case first =>
              by_cases hlt : at_ < rfs.length
              · obtain ⟨f, hf⟩ : ∃ f, rfs[at_]? = some f := ⟨rfs[at_], List.getElem?_eq_getElem hlt⟩
                obtain ⟨g, cap, q, e, hc1, hc2, hB⟩ := (HP.out.later HK11.out).cell hf
                simp only [Value.slice.injEq] at e
                obtain ⟨rfl, -, rfl⟩ := e
                have n1 : (at_ : Int) < rfs.length := by omega
                cases bs with
                | true =>
                  obtain ⟨x, g1, g2⟩ := keyAt_found HOK.out.1.sorted x0 HBS.out
                  rw [HAT.out, hf] at g1
                  have hfe : f = (x0, x) := by simpa using g1
                  have hbe : (f.1.toList == x0.toList) = true := by rw [hfe]; simp
                  clear g1 g2 hfe hf hB hlt hc2
                  go_wp2_with fail
                  go_still_tail 14, (by kernel_rfl)
                  change wpList _ _ _ _ _ (World.drew _)
                  go_wp2_with fail
                  go_meet
                  exact ⟨rfl, (Keeps.refl _ _).drew⟩
                | false =>
                  have hno : fget rfs x0 = none := by
                    have := HBS.out
                    cases hg : fget rfs x0 with
                    | none => rfl
                    | some x => rw [hg] at this; cases this
                  have hne := keyAt_none hno (p := f) (by rw [HAT.out]; exact hf)
                  have hbe : (f.1.toList == x0.toList) = false := by
                    cases hb : (f.1.toList == x0.toList) with
                    | false => rfl
                    | true => exact absurd (toList_inj (by simpa using hb)) hne
                  clear hno hne hf hB hlt hc2
                  go_wp2_with fail
                  go_still_tail 14, (by kernel_rfl)
                  change wpList _ _ _ _ _ (World.drew _)
                  go_wp2_with fail
                  go_meet
                  exact ⟨rfl, (Keeps.refl _ _).drew⟩
              · have hae : at_ = rfs.length := by have := HATL.out; omega
                have hbf : bs = false := by
                  cases bs with
                  | false => rfl
                  | true =>
                    obtain ⟨x, g1, g2⟩ := keyAt_found HOK.out.1.sorted x0 HBS.out
                    rw [HAT.out, hae, List.getElem?_eq_none (Nat.le_refl _)] at g1
                    cases g1
                subst hbf
                have n1 : decide (at_ < rfs.length) = false := by simpa using hlt
                clear hae hlt
                go_wp2_with fail
                refine wp_region_held_drew (S := fun _ => True) (by kernel_rfl) trivial (fun hHeld => ?_)
                refine wpAnyH_take (i := 0) (oi := { dst := some 93, op := _, type := _, pos := _, after := _, guard := _ }) (v := .int .i64 (at_ : Int)) rfl (by kernel_rfl) (by kernel_rfl) (by kernel_rfl) (fun _ _ _ h => h) (Or.inl ⟨by rfl, by intro w hSw; go_simp⟩) hHeld ?_
                try simp only [Act.put, List.setIfInBounds_toArray, List.set_cons_zero, List.set_cons_succ]
                refine wpAnyH_take (i := 1) (oi := { dst := some 94, op := _, type := _, pos := _, after := _, guard := _ }) (v := .slice pa rfs.length pc) rfl (by kernel_rfl) (by kernel_rfl) (by kernel_rfl) (fun _ _ _ h => h) (Or.inl ⟨by rfl, by intro w hSw; go_simp⟩) hHeld ?_
                try simp only [Act.put, List.setIfInBounds_toArray, List.set_cons_zero, List.set_cons_succ]
                refine wpAnyH_take (i := 2) (oi := { dst := some 95, op := _, type := _, pos := _, after := _, guard := _ }) (v := .int .i64 (rfs.length : Int)) rfl (by kernel_rfl) (by kernel_rfl) (by kernel_rfl) (fun _ _ _ h => h) (Or.inl ⟨by rfl, by intro w hSw; go_simp⟩) hHeld ?_
                try simp only [Act.put, List.setIfInBounds_toArray, List.set_cons_zero, List.set_cons_succ]
                refine wpAnyH_take (i := 3) (oi := { dst := some 96, op := _, type := _, pos := _, after := _, guard := _ }) (v := .bool false) rfl (by kernel_rfl) (by kernel_rfl) (by kernel_rfl) (fun _ _ _ h => h) (Or.inl ⟨by rfl, by intro w hSw; go_simp⟩) hHeld ?_
                try simp only [Act.put, List.setIfInBounds_toArray, List.set_cons_zero, List.set_cons_succ]
                refine wpAnyH_take (i := 4) (oi := { dst := some 97, op := _, type := _, pos := _, after := _, guard := _ }) (v := .bool false) rfl (by kernel_rfl) (by kernel_rfl) (by kernel_rfl) (fun _ _ _ h => h) (Or.inl ⟨by rfl, by intro w hSw; go_simp⟩) hHeld ?_
                try simp only [Act.put, List.setIfInBounds_toArray, List.set_cons_zero, List.set_cons_succ]
                refine wpAnyH_take (i := 5) (oi := { dst := some 98, op := _, type := _, pos := _, after := _, guard := _ }) (v := undef) rfl (by kernel_rfl) (by kernel_rfl) (by kernel_rfl) (fun _ _ _ h => h) (Or.inr ⟨by kernel_rfl, rfl⟩) hHeld ?_
                try simp only [Act.put, List.setIfInBounds_toArray, List.set_cons_zero, List.set_cons_succ]
                refine wpAnyH_take (i := 6) (oi := { dst := some 99, op := _, type := _, pos := _, after := _, guard := _ }) (v := undef) rfl (by kernel_rfl) (by kernel_rfl) (by kernel_rfl) (fun _ _ _ h => h) (Or.inr ⟨by kernel_rfl, rfl⟩) hHeld ?_
                try simp only [Act.put, List.setIfInBounds_toArray, List.set_cons_zero, List.set_cons_succ]
                refine wpAnyH_take (i := 7) (oi := { dst := some 100, op := _, type := _, pos := _, after := _, guard := _ }) (v := undef) rfl (by kernel_rfl) (by kernel_rfl) (by kernel_rfl) (fun _ _ _ h => h) (Or.inr ⟨by kernel_rfl, rfl⟩) hHeld ?_
                try simp only [Act.put, List.setIfInBounds_toArray, List.set_cons_zero, List.set_cons_succ]
                refine wpAnyH_take (i := 8) (oi := { dst := some 101, op := _, type := _, pos := _, after := _, guard := _ }) (v := undef) rfl (by kernel_rfl) (by kernel_rfl) (by kernel_rfl) (fun _ _ _ h => h) (Or.inr ⟨by kernel_rfl, rfl⟩) hHeld ?_
                try simp only [Act.put, List.setIfInBounds_toArray, List.set_cons_zero, List.set_cons_succ]
                refine wpAnyH_take (i := 9) (oi := { dst := some 102, op := _, type := _, pos := _, after := _, guard := _ }) (v := undef) rfl (by kernel_rfl) (by kernel_rfl) (by kernel_rfl) (fun _ _ _ h => h) (Or.inr ⟨by kernel_rfl, rfl⟩) hHeld ?_
                try simp only [Act.put, List.setIfInBounds_toArray, List.set_cons_zero, List.set_cons_succ]
                refine wpAnyH_take (i := 10) (oi := { dst := some 103, op := _, type := _, pos := _, after := _, guard := _ }) (v := undef) rfl (by kernel_rfl) (by kernel_rfl) (by kernel_rfl) (fun _ _ _ h => h) (Or.inr ⟨by kernel_rfl, rfl⟩) hHeld ?_
                try simp only [Act.put, List.setIfInBounds_toArray, List.set_cons_zero, List.set_cons_succ]
                refine wpAnyH_take (i := 11) (oi := { dst := some 104, op := _, type := _, pos := _, after := _, guard := _ }) (v := undef) rfl (by kernel_rfl) (by kernel_rfl) (by kernel_rfl) (fun _ _ _ h => h) (Or.inr ⟨by kernel_rfl, rfl⟩) hHeld ?_
                try simp only [Act.put, List.setIfInBounds_toArray, List.set_cons_zero, List.set_cons_succ]
                refine wpAnyH_take (i := 12) (oi := { dst := some 105, op := _, type := _, pos := _, after := _, guard := _ }) (v := undef) rfl (by kernel_rfl) (by kernel_rfl) (by kernel_rfl) (fun _ _ _ h => h) (Or.inr ⟨by kernel_rfl, rfl⟩) hHeld ?_
                try simp only [Act.put, List.setIfInBounds_toArray, List.set_cons_zero, List.set_cons_succ]
                refine wpAnyH_take (i := 13) (oi := { dst := some 106, op := _, type := _, pos := _, after := _, guard := _ }) (v := .bool false) rfl (by kernel_rfl) (by kernel_rfl) (by kernel_rfl) (fun _ _ _ h => h) (Or.inl ⟨by rfl, by intro w hSw; go_simp⟩) hHeld ?_
                try simp only [Act.put, List.setIfInBounds_toArray, List.set_cons_zero, List.set_cons_succ]
                refine wpAnyH_take (i := 14) (oi := { dst := some 18, op := _, type := _, pos := _, after := _, guard := _ }) (v := .bool false) rfl (by kernel_rfl) (by kernel_rfl) (by kernel_rfl) (fun _ _ _ h => h) (Or.inl ⟨by rfl, by intro w hSw; go_simp⟩) hHeld ?_
                try simp only [Act.put, List.setIfInBounds_toArray, List.set_cons_zero, List.set_cons_succ]
                refine wpAnyH_done (by kernel_rfl) ?_ _
                go_wp2_with fail
                go_meet
                exact ⟨rfl, (Keeps.refl _ _).drew⟩
            case rest =>
              obtain ⟨rfl, hk12⟩ := hcut
              obtain ⟨w12, hw12⟩ : ∃ w12, w12 = wc := ⟨_, rfl⟩
              subst hw12
              have HK12 := Lib.hid (HK11.out.trans hk12 (fun _ _ e => e))
              have HV12 := Lib.hid (HV.out.keep hk12)
              clear hk12 HV HKV HK11 d0 d1
              go_upto_region 20 with fail
              go_cut [122] from 107 to 121 (fun tv wx => tv = .bool false ∧ Keeps (fun _ => False) w12 wx)
              case first =>
                cases bs with
                | false =>
                  go_wp2_with fail
                  go_meet
                  exact ⟨rfl, Keeps.refl _ _⟩
                | true =>
                  obtain ⟨x, g1, g2⟩ := keyAt_found HOK.out.1.sorted x0 HBS.out
                  rw [HAT.out] at g1
                  have hvx : vs = x := by have := HVS.out; rw [g2] at this; exact this.symm
                  subst hvx
                  obtain ⟨g, cap, q, e, hc1, hc2, hB⟩ := (HP.out.later HK12.out).cell g1
                  simp only [Value.slice.injEq] at e
                  obtain ⟨rfl, -, rfl⟩ := e
                  obtain ⟨qa, qc, rfl, -, -⟩ := hB.form
                  have hsm := same_calls HV12.out.bytes.reads hB.reads
                  rw [decide_eq_true rfl] at hsm
                  have n1 : (at_ : Int) < rfs.length := by
                    have := (List.getElem?_eq_some_iff.1 g1).1
                    omega
                  have HSM := Lib.hid hsm
                  clear g1 g2 hB hsm hc1
                  dsimp only at hc2 HSM
                  go_wp2_with fail
                  refine HSM.out.mono ?_
                  rintro e w13 ⟨rfl, hk13⟩
                  have HF := Lib.hid hk13
                  clear hk13 HSM
                  go_wp2_with fail
                  go_meet
                  exact ⟨rfl, HF.out⟩
              case rest =>
                obtain ⟨rfl, hk13⟩ := hcut
                obtain ⟨w13, hw13⟩ : ∃ w13, w13 = wc := ⟨_, rfl⟩
                subst hw13
                have HK13 := Lib.hid (HK12.out.trans hk13 (fun _ _ e => e))
                have HV13 := Lib.hid (HV12.out.keep hk13)
                have hvl : vs.length ≤ 262144 := by
                  have := HVS.out
                  cases hg : fget rfs x0 with
                  | none => rw [hg] at this; rw [← this]; simp
                  | some x => rw [hg] at this; rw [← this]; exact (HOK.out.1.each _ (mem_of_fget hg)).2.2
                have v0 : (0 : Int) ≤ vs.length := by omega
                have v1 : (vs.length : Int) ≤ 262144 := by omega
                clear hk13 HV12 HK12 HVS HBS hvl
                go_wp2_with fail
                go_loopw [125] (fun iv wx => ∃ (k : Nat) (ys : List UInt8), k ≤ vs.length ∧ iv = .int .i64 (k : Int) ∧ ys.length = vs.length ∧ Owns wx w10.heap.size (.slice va vs.length vc) ys ∧ Keeps (fun _ => False) w7 wx) (fun iv _ => vs.length - (intOf iv).toNat)
                case atStart => exact ⟨0, vs, Nat.zero_le _, rfl, rfl, HV13.out, HK13.out⟩
                case round =>
                  obtain ⟨k, ys, hk, rfl, hyl, ho, hq⟩ := hrel
                  obtain ⟨w14, hw14⟩ : ∃ w14, w14 = wr := ⟨_, rfl⟩
                  subst hw14
                  have k0 : (0 : Int) ≤ k := by omega
                  by_cases hlt : k < vs.length
                  · obtain ⟨g, c', e, h1, h2, h3⟩ := ho.form (fun e => by rw [e] at hyl; simp at hyl; omega)
                    rw [hyl] at e
                    cases e
                    have hi : k < ys.length := by omega
                    obtain ⟨y, ey, hcell⟩ := ho.bytes.reads.cell rfl hi
                    cases ey
                    obtain ⟨ho2, -, hfz, hk2⟩ := ho.set hi (ys[k] ^^^ 255)
                    have hx : bits .xor .u8 (ys[k].toNat : Int) 255 = ((ys[k] ^^^ 255).toNat : Int) := by
                      have h1 := u8_xor_nat ys[k].toNat 255 ys[k].toNat_lt (by omega)
                      rw [show ((255 : Nat) : Int) = 255 from rfl] at h1
                      rw [h1, UInt8.toNat_xor]
                      rfl
                    have hgz := (owns_lt ho g rfl).2
                    have hk7' := HK10.out.size
                    have hq2 : Keeps (fun _ => False) w7 (w14.setCell ⟨g, k, none⟩ (.int .u8 ((ys[k] ^^^ 255).toNat : Int))) := hq.trans hk2 (fun b hb e => by omega)
                    have hyl2 : (ys.set k (ys[k] ^^^ 255)).length = vs.length := by rw [List.length_set]; exact hyl
                    have k1 : (k : Int) < vs.length := by omega
                    have hk1 : k + 1 ≤ vs.length := by omega
                    have z1 := ys[k].toNat_lt
                    generalize ys.set k (ys[k] ^^^ 255) = ys2 at ho2 hyl2
                    rw [Addr.add_lit, Nat.zero_add] at hcell
                    have HREL := Lib.hid (⟨k + 1, ys2, hk1, rfl, hyl2, ho2, hq2⟩ : ∃ (k' : Nat) (ys' : List UInt8), k' ≤ vs.length ∧ Value.int .i64 ((k + 1 : Nat) : Int) = .int .i64 (k' : Int) ∧ ys'.length = vs.length ∧ Owns (w14.setCell ⟨g, k, none⟩ (.int .u8 ((ys[k] ^^^ 255).toNat : Int))) w10.heap.size (.slice (some ⟨g, 0, none⟩) vs.length vc) ys' ∧ Keeps (fun _ => False) w7 (w14.setCell ⟨g, k, none⟩ (.int .u8 ((ys[k] ^^^ 255).toNat : Int))))
                    generalize ((ys[k] ^^^ 255).toNat : Int) = z at hx HREL
                    generalize (ys[k].toNat : Int) = y0 at hx hcell
                    clear ho hq ho2 hk2 hq2 hyl2 hyl h1 h2 h3 hgz hk7' hi z1 hlt hk HV13
                    go_wp2_with fail
                    go_roundw
                    case rel => exact HREL.out
                    case measure => simp [intOf]; omega
                  · obtain rfl : k = vs.length := by omega
                    have hx := HX7.out w14 hq
                    have his := is11_calls hx.1 hx.2.1 HOK.out.1 (by have := HOK.out.2; omega) (HP.out.later hq)
                    rw [decide_eq_true rfl] at his
                    have HIS := Lib.hid his
                    have HQ := Lib.hid (HK7.out.trans hq (fun _ _ e => e))
                    clear his hx ho hq hyl hlt hk
                    go_wp2_with fail
                    refine HIS.out.mono ?_
                    rintro e w15 ⟨rfl, hk15⟩
                    have HF := Lib.hid (HQ.out.trans hk15 (fun _ _ e => e)).below
                    clear hk15 HIS HQ
                    go_wp2_with fail
                    go_ret
                    exact ⟨rfl, HF.out⟩
end Go.Proofs.Ytaeabdghlkdkjaa
