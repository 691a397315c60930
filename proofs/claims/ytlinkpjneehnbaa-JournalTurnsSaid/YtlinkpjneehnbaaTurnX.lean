/- The walk of JournalTurns, whole. -/
import Derived.Test.YtlinkpjneehnbaaTurnW
import Derived.Test.YtlinkpjneehnbaaSmall
import Derived.Laws.BitsAllLaws
namespace Go.Proofs.Ytlinkpjneehnbaa
set_option linter.unusedVariables false
open Go.RowKit Go.MapKept

theorem framesOf_len (ll : List (List UInt8)) : (framesOf ll).length = 8 * ll.length + total ll := by
  induction ll with
  | nil => rfl
  | cons p ll ih =>
    rw [framesOf_cons, List.length_append, frameOf_length, ih, List.length_cons]
    have : total (p :: ll) = p.length + total ll := by simp [total]
    rw [this]; omega
theorem endAt_mono {ll : List (List UInt8)} {k : Nat} (h : k < ll.length) : (framesOf (ll.take k)).length < endAt ll k := by
  rw [endAt_eq (List.getElem?_eq_getElem h), frameOf_length]; omega
theorem xor_ne (a b : UInt8) (h : b ≠ 0) : a ^^^ b ≠ a := by
  intro e
  apply h
  have h2 := congrArg (fun t => a ^^^ t) e
  simp only [← UInt8.xor_assoc, UInt8.xor_self, UInt8.zero_xor] at h2
  exact h2

set_option maxRecDepth 100000 in
set_option maxHeartbeats 2000000 in
theorem turns_walk (a : Option Addr) (cap : Nat) (ll : List (List UInt8)) (at_ : Int) (t : UInt8) (w0 : World) (hlc : ll.length ≤ cap) (hcm : cap ≤ maxLen) (hrows : RowsIn w0 (.slice a ll.length cap) ll) :
    Calls Try.prog 7 #[.slice a ll.length cap, .int .i64 at_, .int .u8 (t.toNat : Int)] w0 fun e w' => e = .returned (.bool true) ∧ Below w0.heap.size w0 w' := by
  have haw := awakeJ_calls w0
  have hsm := fun w1 (hk : Keeps (fun _ => False) w0 w1) => small_calls (hrows.keep hk) ⟨a, rfl⟩ hlc hcm
  have hb0 := t.toNat_lt
  have i0 : (0 : Int) ≤ (t.toNat : Int) := by omega
  have i1 : (t.toNat : Int) < 256 := by omega
  have HSM := Lib.hid hsm
  have HROWS := Lib.hid hrows
  have HC := Lib.hid (⟨hlc, hcm⟩ : ll.length ≤ cap ∧ cap ≤ maxLen)
  clear hsm hrows hlc hcm hb0
  by_cases hs : smallOf ll = true
  · have hsm2 := HSM.out
    rw [hs] at hsm2
    have HSM2 := Lib.hid hsm2
    obtain ⟨s1, s2, s3⟩ := smallOf_true hs
    have hfl := framesOf_len ll
    clear hsm2 HSM hs
    by_cases ht : t = 0
    · subst ht
      go_enter Try.func7, Try.ntmps7
      go_wp2_with fail
      refine haw.mono ?_
      rintro e w1 ⟨rfl, hk1⟩
      have hsm := HSM2.out w1 hk1
      have HSM := Lib.hid hsm
      have haw2 := Lib.hid (awakeJ_calls w1)
      have HK := Lib.hid hk1
      clear hk1 hsm haw
      go_wp2_with fail
      refine HSM.out.mono ?_
      rintro e w' ⟨rfl, rfl⟩
      go_wp2_with fail
      refine haw2.out.mono ?_
      rintro e w2 ⟨rfl, hk2⟩
      have HK2 := Lib.hid hk2
      clear hk2
      go_wp2_with fail
      go_ret
      exact ⟨rfl, (HK.out.trans HK2.out (fun _ _ e => e)).below⟩
    · have htn : ¬ t.toNat = 0 := fun e => ht (UInt8.toNat_inj.1 e)
      have b0 : ((t.toNat : Int) == 0) = false := by rw [beq_eq_false_iff_ne]; omega
      have HT := Lib.hid ht
      have HS := Lib.hid (⟨s1, s2, s3, hfl⟩ : ll.length ≤ 12 ∧ total ll ≤ 2000 ∧ (∀ p ∈ ll, p.length ≤ 400) ∧ (framesOf ll).length = 8 * ll.length + total ll)
      clear s1 s2 s3 hfl ht htn
      go_enter Try.func7, Try.ntmps7
      go_wp2_with fail
      refine haw.mono ?_
      rintro e w1 ⟨rfl, hk1⟩
      have hsm := HSM2.out w1 hk1
      have HSM := Lib.hid hsm
      have hrel0 : TurnRel w0 w1 ll 0 (.slice none 0 0) (.slice none 0 0) := (((Own.start w0).quiet hk1).nilBytes).nilInts
      have HR0 := Lib.hid hrel0
      clear hk1 hsm haw hrel0
      go_wp2_with fail
      refine HSM.out.mono ?_
      rintro e w' ⟨rfl, rfl⟩
      go_wp2_with fail
      have j9 : (ll.length : Int) ≤ 12 := by have := HS.out; omega
      go_loopw [7, 8, 29] (fun bv ev i wx => ∃ k : Nat, k ≤ ll.length ∧ i = .int .i64 (k : Int) ∧ TurnRel w0 wx ll k bv ev) (fun _ _ i _ => ll.length - (intOf i).toNat)
      case atStart => exact ⟨0, Nat.zero_le _, rfl, HR0.out⟩
      case round =>
        obtain ⟨k, hk, rfl, hrel⟩ := hrel
        have j0 : (0 : Int) ≤ k := by omega
        clear HSM HSM2 HR0
        by_cases hlt : k < ll.length
        · obtain ⟨l, hl⟩ : ∃ l, ll[k]? = some l := ⟨ll[k], List.getElem?_eq_getElem hlt⟩
          obtain ⟨aa, cc, e, hrow⟩ := HROWS.out.keep hrel.keeps
          cases e
          obtain ⟨x, p, rfl, hcx, hrd⟩ := hrow k l hl
          have hs := HS.out
          have hl4 := hs.2.2.1 l (List.mem_of_getElem? hl)
          have hfr := frame_calls hrd (by omega)
          have hle := framesOf_take_le ll (k + 1)
          have hgr := turn_grow hrel hl (by omega) (by omega)
          obtain ⟨pa, pc, rfl, _, _⟩ := hrd.form
          obtain ⟨ea, ec, hev, _, _, _⟩ := hrel.ints (List.mem_cons_self ..)
          rw [show ((List.range k).map (endAt ll)).length = k by simp] at hev
          subst hev
          obtain ⟨ba, bc, rfl, _, _⟩ := ((Own.swap hrel).bytes (List.mem_cons_self ..)).2
          have HFR := Lib.hid hfr
          have HGR := Lib.hid hgr
          have j1 : (k : Int) < ll.length := by omega
          have HLT := Lib.hid hlt
          clear hrow hrd hfr hgr hrel hl hs hl4 hle hk hlt
          go_wp2_with fail
          refine HFR.out.mono ?_
          rintro e w2 ⟨v1, rfl, ho1, hk1⟩
          obtain ⟨a2, c2, w3, a3, c3, w4, r3, r4, hrel4⟩ := HGR.out v1 w2 ho1 hk1
          obtain ⟨va, vc, rfl, _, _⟩ := ho1.bytes.form
          have R3 := Lib.hid r3
          have R4 := Lib.hid r4
          have REL := Lib.hid hrel4
          clear r3 r4 hrel4 ho1 hk1
          go_wp2_with (at_builtin; (first | (refine wpList_append_run (w := w2) rfl _ _ _ _ rfl rfl rfl R3.out ?_) | (refine wpList_append_run (w := w3.alloc (.cells #[.int .i64 (endAt ll k : Int)] 3)) rfl _ _ _ _ rfl rfl rfl R4.out ?_)))
          go_roundw
          case rel => exact ⟨k + 1, HLT.out, rfl, REL.out⟩
          case measure => have := HLT.out; simp [intOf]; omega
        · obtain rfl : k = ll.length := by omega
          obtain ⟨ea, ec, hev, hec1, hec2, hecell⟩ := hrel.ints (List.mem_cons_self ..)
          rw [show ((List.range ll.length).map (endAt ll)).length = ll.length by simp] at hev hec1
          subst hev
          have hrel1 := Own.swap hrel
          rw [List.take_length] at hrel1
          obtain ⟨ba, bc, hbv, hbc1, hbc2⟩ := (hrel1.bytes (List.mem_cons_self ..)).2
          subst hbv
          by_cases hB0 : (framesOf ll).length = 0
          · have b1 : ((framesOf ll).length : Int) = 0 := by omega
            have HF := Lib.hid hrel.below
            rw [hB0]
            clear hrel hrel1 hecell hB0 b1 hlt hk
            go_wp2_with fail
            go_ret
            exact ⟨rfl, HF.out⟩
          · obtain ⟨x, hx, hxk⟩ := uint_mod at_ (framesOf ll).length (by omega) (by have := HS.out; omega)
            have hs := HS.out
            have hn0 : 0 < ll.length := by
              rcases Nat.eq_zero_or_pos ll.length with h | h
              · rw [List.eq_nil_of_length_eq_zero h] at hB0; simp [framesOf_nil] at hB0
              · exact h
            have hends : ∀ i, i < ll.length → ∃ y, ea = some y ∧ wr.cell? (y.add i) = some (.int .i64 (endAt ll i : Int)) := fun i hi => hecell i (endAt ll i) (by simp [hi])
            have b1 : ¬ ((framesOf ll).length : Int) = 0 := by omega
            have b2 : (((framesOf ll).length : Int) == 0) = false := by rw [beq_eq_false_iff_ne]; exact b1
            have j2 : ((framesOf ll).length : Int) ≤ 4000 := by omega
            have j3 : (0 : Int) ≤ ((framesOf ll).length : Int) := by omega
            have j4 : (x : Int) < ((framesOf ll).length : Int) := by omega
            have j5 : (0 : Int) ≤ (x : Int) := by omega
            have j6 : ((framesOf ll).length : Int) ≤ bc := by omega
            obtain ⟨BL, hBL⟩ : ∃ BL, BL = (framesOf ll).length := ⟨_, rfl⟩
            have HBL := Lib.hid hBL
            have HENDS := Lib.hid hends
            have HREL := Lib.hid hrel1
            have HX := Lib.hid (⟨hxk, hn0, hB0⟩ : x < (framesOf ll).length ∧ 0 < ll.length ∧ ¬ (framesOf ll).length = 0)
            rw [← hBL] at hx b1 b2 j2 j3 j4 j6 ⊢
            clear hrel hrel1 hecell hlt hk hs hends hxk hn0 hB0 hBL hbc1 hbc2 hec1 hec2
            go_wp2_with fail
            rw [hx]
            clear hx b1 b2
            obtain ⟨wo, hwo⟩ : ∃ wo : World, wo = wr := ⟨_, rfl⟩
            rw [← hwo] at HENDS HREL ⊢
            clear hwo
            go_loopw [11] (fun i wx => ∃ h : Nat, i = .int .i64 (h : Int) ∧ h < ll.length ∧ (framesOf (ll.take h)).length ≤ x ∧ wx = wo) (fun i _ => ll.length - (intOf i).toNat)
            case atStart => exact ⟨0, rfl, HX.out.2.1, by simp [framesOf_nil], rfl⟩
            case round =>
              obtain ⟨h, rfl, hlt, hfx, rfl⟩ := hrel
              obtain ⟨y, rfl, hcy⟩ := HENDS.out h hlt
              have j7 : (0 : Int) ≤ (h : Int) := by omega
              have j8 : (h : Int) < ll.length := by omega
              by_cases hle : endAt ll h ≤ x
              · have hlt2 : h + 1 < ll.length := by
                  rcases Nat.lt_or_ge (h + 1) ll.length with h1 | h1
                  · exact h1
                  · have := endAt_last (ll := ll) (k := h) (by omega)
                    have := HX.out.1; omega
                have HL2 := Lib.hid (⟨hlt2, hle, hlt⟩ : h + 1 < ll.length ∧ endAt ll h ≤ x ∧ h < ll.length)
                have b3 : decide (endAt ll h ≤ x) = true := decide_eq_true hle
                clear hlt2 hle hfx hlt
                go_wp2_with fail
                go_roundw
                case rel => exact ⟨h + 1, rfl, HL2.out.1, HL2.out.2.1, trivial⟩
                case measure => have := HL2.out; simp [intOf]; omega
              · have b3 : decide (endAt ll h ≤ x) = false := decide_eq_false hle
                have hxl := HX.out.1
                obtain ⟨g, c', e, hcb, hfb, hown⟩ := HREL.out.setByte (i := x) hxl ((framesOf ll)[x] ^^^ t)
                simp only [Value.slice.injEq] at e
                obtain ⟨rfl, -, rfl⟩ := e
                have hl : ll[h]? = some ll[h] := List.getElem?_eq_getElem hlt
                obtain ⟨t1, t2⟩ := turn_law (ll := ll) (fun p hp => by have := HS.out.2.2.1 p hp; omega) hl hfx (by omega) (x := (framesOf ll)[x] ^^^ t) hxl (xor_ne _ _ HT.out)
                have e1 : bits .xor .u8 ((framesOf ll)[x].toNat : Int) (t.toNat : Int) = (((framesOf ll)[x] ^^^ t).toNat : Int) := by
                  rw [UInt8.toNat_xor]; exact u8_xor_nat _ _ (UInt8.toNat_lt _) (UInt8.toNat_lt _)
                have hby := (framesOf ll)[x].toNat_lt
                have hrd' := (hown.bytes (List.mem_cons_self ..)).1
                have hlen' : ((framesOf ll).set x ((framesOf ll)[x] ^^^ t)).length = (framesOf ll).length := List.length_set ..
                have hsc := scan_calls hrd' (by rw [hlen']; have := HS.out; omega)
                generalize (framesOf ll)[x] ^^^ t = yb at e1 hown hsc t1 t2
                generalize (framesOf ll)[x].toNat = xb at hcb e1 hby
                generalize scanOf ((framesOf ll).set x yb) = sc at hsc t1 t2
                obtain ⟨got, used⟩ := sc
                simp only at hsc t1 t2
                have hfrom : 0 < h → ∃ h', h = h' + 1 ∧ wr.cell? (y.add h') = some (.int .i64 ((framesOf (ll.take h)).length : Int)) := fun h0 => by
                  obtain ⟨h', rfl⟩ : ∃ h', h = h' + 1 := ⟨h - 1, by omega⟩
                  obtain ⟨y2, e2, hc2⟩ := HENDS.out h' (by omega)
                  cases e2
                  exact ⟨h', rfl, hc2⟩
                have hk5 := hown.keeps
                have HSC := Lib.hid hsc
                have HOWN := Lib.hid hown
                have HT1 := Lib.hid t1
                have HT2 := Lib.hid t2
                have HFROM := Lib.hid hfrom
                have HFX := Lib.hid hfx
                have HLT := Lib.hid hlt
                have j10 : (xb : Int) < 256 := by omega
                have j11 : (0 : Int) ≤ xb := by omega
                have j12 : (yb.toNat : Int) < 256 := by have := yb.toNat_lt; omega
                have j13 : (0 : Int) ≤ (yb.toNat : Int) := by omega
                rw [← HBL.out] at HSC HOWN
                clear hsc hown t1 t2 hfrom hfx hlt hle hl hxl hlen' hrd' hby hk5 HREL HENDS
                go_wp2_with fail
                refine HSC.out.mono ?_
                rintro e w3 ⟨v3, rfl, ho3, hk3⟩
                have h3 := HOWN.out.quiet hk3
                have hrows3 := (HROWS.out.keep h3.keeps).take h (Nat.le_of_lt HLT.out)
                have hbg := begins_calls hrows3 ho3.rows (by rw [List.length_take]; have := HS.out; unfold maxLen; omega) (fun a n c e => by subst e; exact ho3.le)
                rw [HT1.out] at hbg
                have hsl := fun w => head_run w a ll.length cap h (by have := HC.out; have := HLT.out; omega)
                obtain ⟨a3, c3, rfl⟩ := ho3.form
                have HBG := Lib.hid hbg
                have H3 := Lib.hid h3
                clear hbg hrows3 ho3 hk3 h3 HSC
                go_wp2_with fail
                refine HBG.out.mono ?_
                rintro e w4 ⟨rfl, hk4⟩
                have h4 := H3.out.quiet hk4
                have HBEL := Lib.hid h4.below
                obtain ⟨ea4, ec4, hev4, _, _, hec4⟩ := h4.ints (v := .slice (some y) ll.length ec) (l := (List.range ll.length).map (endAt ll)) (by simp)
                simp only [Value.slice.injEq] at hev4
                obtain ⟨rfl, -, rfl⟩ := hev4
                have hfrom4 : ∀ h', h = h' + 1 → w4.cell? (y.add h') = some (.int .i64 ((framesOf (ll.take h)).length : Int)) := fun h' e => by
                  obtain ⟨y2, e2, hc2⟩ := hec4 h' (endAt ll h') (by
                    have hl' : h' < ll.length := Nat.lt_of_le_of_lt (by omega) HLT.out
                    rw [List.getElem?_map, List.getElem?_range hl']; rfl)
                  cases e2
                  rw [e]; exact hc2
                have HF4 := Lib.hid hfrom4
                have ht2 := HT2.out
                have hfx2 := HFX.out
                clear hsl hk4 h4 hec4 hfrom4 H3 HBG
                by_cases hh0 : h = 0
                · subst hh0
                  rw [List.take_zero, framesOf_nil] at ht2
                  simp only [List.length_nil, Nat.zero_add] at ht2
                  by_cases hg0 : got.length = 0
                  · have b5 : (got.length : Int) = 0 := by omega
                    rw [hg0]
                    clear ht2 hg0 b5 hfx2
                    go_wp2_with fail
                    go_ret
                    exact ⟨rfl, HBEL.out⟩
                  · have b5 : ((got.length : Int) == 0) = false := by rw [beq_eq_false_iff_ne]; omega
                    have b6 : decide ((x : Int) - 0 < 4) = true := decide_eq_true (by omega)
                    have b7 : decide ((x : Int) < 4) = true := decide_eq_true (by omega)
                    clear ht2 hg0 hfx2
                    go_wp2_with fail
                    go_ret
                    exact ⟨rfl, HBEL.out⟩
                · obtain ⟨h', hh'⟩ : ∃ h', h = h' + 1 := ⟨h - 1, by omega⟩
                  have hc4 := HF4.out h' hh'
                  have b4 : ((h : Int) - 1) = (h' : Int) := by omega
                  have j14 : (0 : Int) ≤ h' := by omega
                  have j15 : (h' : Int) < ll.length := by omega
                  have b8 : decide ((0 : Int) < (h : Int)) = true := decide_eq_true (by omega)
                  generalize (framesOf (ll.take h)).length = fr at hc4 ht2 hfx2
                  by_cases hg0 : got.length = h
                  · rw [hg0]
                    clear ht2 hg0 hh0
                    go_wp2_with fail
                    go_ret
                    exact ⟨rfl, HBEL.out⟩
                  · have b5 : ((got.length : Int) == (h : Int)) = false := by rw [beq_eq_false_iff_ne]; omega
                    have b7 : decide ((x : Int) - (fr : Int) < 4) = true := decide_eq_true (by omega)
                    have j16 : (fr : Int) ≤ x := by omega
                    clear ht2 hg0 hh0 hfx2
                    go_wp2_with fail
                    all_goals
                      go_ret
                      exact ⟨rfl, HBEL.out⟩
  · have hs2 : smallOf ll = false := by simpa using hs
    have hsm2 := HSM.out
    rw [hs2] at hsm2
    have HSM2 := Lib.hid hsm2
    clear hsm2 HSM hs hs2
    go_enter Try.func7, Try.ntmps7
    go_wp2_with fail
    refine haw.mono ?_
    rintro e w1 ⟨rfl, hk1⟩
    have hsm := HSM2.out w1 hk1
    have HSM := Lib.hid hsm
    have haw2 := Lib.hid (awakeJ_calls w1)
    have HK := Lib.hid hk1
    clear hk1 hsm haw
    go_wp2_with fail
    refine HSM.out.mono ?_
    rintro e w' ⟨rfl, rfl⟩
    go_wp2_with fail
    refine haw2.out.mono ?_
    rintro e w2 ⟨rfl, hk2⟩
    have HK2 := Lib.hid hk2
    clear hk2
    go_wp2_with fail
    go_ret
    exact ⟨rfl, (HK.out.trans HK2.out (fun _ _ e => e)).below⟩
end Go.Proofs.Ytlinkpjneehnbaa
