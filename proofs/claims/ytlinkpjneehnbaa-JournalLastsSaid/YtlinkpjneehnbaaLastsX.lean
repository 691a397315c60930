/- The walk of JournalLasts. -/
import Derived.Test.YtlinkpjneehnbaaLastsP
import Derived.Test.YtlinkpjneehnbaaAwakeJ
import Derived.Laws.BitsAllLaws
namespace Go.Proofs.Ytlinkpjneehnbaa
set_option linter.unusedVariables false
open Go.RowKit Go.MapKept

theorem Own.rows2 {w wr : World} {rs : List (Res w.heap.size)} {v : Value} {ll : List (List UInt8)} (h : Own w wr rs) (hm : rRows w.heap.size v ll ∈ rs) : ∃ a c, v = .slice a ll.length c ∧ ll.length ≤ c ∧ c ≤ maxLen := by
  obtain ⟨F, ⟨ps, G, h1, _⟩, _⟩ := h.mem hm
  rcases h1.2 with ⟨rfl, e⟩ | ⟨g, cap, cur, rfl, _, _, h4, h5, _⟩
  · exact ⟨none, 0, by rw [e], by omega, Nat.zero_le _⟩
  · exact ⟨_, cap, rfl, h4, h5⟩
theorem frames_ge (ll : List (List UInt8)) : ll.length ≤ (framesOf ll).length := by
  induction ll with
  | nil => exact Nat.zero_le _
  | cons p ll ih => rw [framesOf_cons, List.length_append, frameOf_length, List.length_cons]; omega
theorem Own.last4 {w wr : World} {r1 r2 r3 r4 : Res w.heap.size} (h : Own w wr [r1, r2, r3, r4]) : Own w wr [r4, r1, r2, r3] := h.perm (List.perm_append_comm (l₁ := [_, _, _]) (l₂ := [_]))
theorem Own.first4 {w wr : World} {r1 r2 r3 r4 : Res w.heap.size} (h : Own w wr [r4, r1, r2, r3]) : Own w wr [r1, r2, r3, r4] := h.perm (List.perm_append_comm (l₁ := [_]) (l₂ := [_, _, _]))
theorem Own.drewN {w wr : World} {rs : List (Res w.heap.size)} (h : Own w wr rs) (n : Nat) : Own w { wr with drawn := n } rs := h.quiet ((Keeps.refl _ wr).drewN n)
theorem Own.drop3of6 {w wr : World} {r1 r2 r3 r4 r5 r6 : Res w.heap.size} (h : Own w wr [r1, r2, r3, r4, r5, r6]) : Own w wr [r1, r2, r3] := (h.perm (List.perm_append_comm (l₁ := [r1, r2, r3]) (l₂ := [r4, r5, r6]))).drop.drop.drop
theorem LI.other {all : List (List UInt8)} {sure : Nat} {o o' : List (List UInt8)} {m : DM} {size i : Nat} (h : LI all sure false o m size i) : LI all sure false o' m size i :=
  ⟨h.small, h.len, h.le, (fun e => by cases e), h.size, h.st.imp id (fun ⟨a, b⟩ => ⟨a, b.mono (fun _ hb => hb.imp id (fun e => by cases e.1)) (Nat.le_refl _)⟩)⟩
theorem spot_none {w : World} {b o : Nat} {sp : Option Nat} {v : Value} (h : w.cell? ⟨b, o, sp⟩ = some v) : sp = none := by
  cases sp with
  | none => rfl
  | some x =>
    unfold World.cell? at h
    split at h <;> simp at h
theorem op_cells {W : World} {x : Addr} {len i : Nat} {o : OpJ} {pv rv : Value} (hx : OpsIn W (some x) len) (hi : i < len) (h : OpAt W x i o pv rv) : ∃ b f, x = ⟨b, f, none⟩ ∧ W.cell? ⟨b, f + i * 5, none⟩ = some (.int .i64 o.kind) ∧ W.cell? ⟨b, f + i * 5 + 1, none⟩ = some pv ∧ W.cell? ⟨b, f + i * 5 + 2, none⟩ = some rv ∧ W.cell? ⟨b, f + i * 5 + 3, none⟩ = some (.int .i64 o.n) ∧ W.cell? ⟨b, f + i * 5 + 4, none⟩ = some (.int .i64 o.m) := by
  obtain ⟨b, f, sp⟩ := x
  obtain ⟨x', o', pv', rv', e, h'⟩ := hx 0 (by omega)
  cases e
  obtain rfl : sp = none := spot_none (b := b) (o := f) h'.c0
  have c0 := h.c0
  have c1 := h.c1
  have c2 := h.c2
  have c3 := h.c3
  have c4 := h.c4
  rw [Addr.add_lit] at c0 c1 c2 c3 c4
  exact ⟨b, f, rfl, c0, c1, c2, c3, c4⟩
theorem cell_still {w w' : World} {x : Addr} {v : Value} (h : w.cell? x = some v) (hk : Keeps (fun _ => False) w w') : w'.cell? x = some v := by
  rw [World.cell?_of_block (hk.block _ (World.block_lt_of_cell? w _ h) (fun e => e))]; exact h
/-- A row that the law keeps to compare with: it came in. -/
def OldRows (w : World) (v : Value) (ll : List (List UInt8)) : Prop := RowsIn w v ll ∧ ∃ a c, v = .slice a ll.length c ∧ ll.length ≤ c ∧ c ≤ maxLen
theorem OldRows.nil (w : World) : OldRows w (.slice none 0 0) [] := ⟨RowsIn.nil w, none, 0, rfl, Nat.le_refl _, Nat.zero_le _⟩
/-- What the loop of JournalLasts holds to. -/
def LRel (w0 : World) (d len : Nat) (jv av ov sv cv iv : Value) (wx : World) : Prop :=
  ∃ (j : Nat) (all : List (List UInt8)) (sure : Nat) (cut : Bool) (other : List (List UInt8)) (m : DM) (size k : Nat), jv = .pointer (some ⟨j, 0, none⟩) ∧ sv = .int .i64 (sure : Int) ∧ cv = .bool cut ∧ iv = .int .i64 (k : Int) ∧ k ≤ len ∧
    OldRows w0 ov other ∧ LI all sure cut other m size k ∧ Own w0 wx [rDisk _ d m, rObj _ j (jrnObj d nmJ size), rRows _ av all]

theorem LRel.mk {w0 wx : World} {d len j sure k size t : Nat} {all other : List (List UInt8)} {cut : Bool} {m : DM} {av ov : Value} {o : Obj} (hk : k < len) (ho : OldRows w0 ov other) (hi : LI all sure cut other m size (k + 1)) (h : Own w0 wx [rDisk _ d m, rObj _ j (jrnObj d nmJ size), rObj _ t o, rRows _ av all]) :
    LRel w0 d len (.pointer (some ⟨j, 0, none⟩)) av ov (.int .i64 (sure : Int)) (.bool cut) (.int .i64 ((k + 1 : Nat) : Int)) wx :=
  ⟨j, all, sure, cut, other, m, size, k + 1, rfl, rfl, rfl, rfl, hk, ho, hi, (h.third.drop)⟩
/-- The block of a step, filled. -/
def opObj (k : Int) (pv rv : Value) (n m : Int) : Obj := .cells #[.int .i64 k, pv, rv, .int .i64 n, .int .i64 m] 67 (0, 0)
theorem op_at {w wr : World} {rs : List (Res w.heap.size)} {t : Nat} {k n m : Int} {pv rv : Value} (h : Own w wr rs) (hm : rObj w.heap.size t (opObj k pv rv n m) ∈ rs) :
    wr.cell? ⟨t, 0, none⟩ = some (.int .i64 k) ∧ wr.cell? ⟨t, 1, none⟩ = some pv ∧ wr.cell? ⟨t, 2, none⟩ = some rv ∧ wr.cell? ⟨t, 3, none⟩ = some (.int .i64 n) ∧ wr.cell? ⟨t, 4, none⟩ = some (.int .i64 m) := by
  have hb := (h.at hm).1
  exact ⟨cell_at hb rfl, cell_at hb rfl, cell_at hb rfl, cell_at hb rfl, cell_at hb rfl⟩

set_option maxRecDepth 100000 in
set_option maxHeartbeats 8000000 in
theorem lastsJ_walk (a : Option Addr) (len cap : Nat) (w0 : World) (hlc : len ≤ cap) (hcm : cap ≤ maxLen) (hops : OpsIn w0 a len) :
    Calls Try.prog 10 #[.slice a len cap] w0 fun e w' => e = .returned (.bool true) ∧ Below w0.heap.size w0 w' := by
  have jl : (len : Int) ≤ 9223372036854775807 := by unfold maxLen at hcm; omega
  have jc : (cap : Int) ≤ 9223372036854775807 := by unfold maxLen at hcm; omega
  have jlc : (len : Int) ≤ (cap : Int) := by omega
  obtain ⟨d, w1, hnew, h1⟩ := (Own.start w0).new 1048576 (by omega) (by omega)
  have haw := awakeJ_calls w1
  have HOPS := Lib.hid hops
  have H1 := Lib.hid h1
  clear hops h1 hlc hcm
  go_enter Try.func10, Try.ntmps10
  go_wp2_with fail
  refine hnew.out.mono ?_; rintro e w' ⟨rfl, rfl⟩
  go_wp2_with fail
  refine haw.mono ?_
  rintro e w2 ⟨rfl, hk2⟩
  have h2 := H1.out.quiet hk2
  have hop := open_calls h2 (Good.new (room := 1048576) (by omega) (by omega)) (by omega) nmJ
  rw [open_empty] at hop
  unfold nmJ at hop
  clear hnew haw H1 hk2 h2
  go_wp2_with fail
  refine hop.mono ?_
  rintro e w3 (⟨hn, _⟩ | ⟨recs, used, j, v, hres, rfl, h3⟩)
  · cases hn
  simp only [Option.some.injEq, Prod.mk.injEq] at hres
  obtain ⟨rfl, rfl⟩ := hres
  have hrel0 : LRel w0 d len (.pointer (some ⟨j, 0, none⟩)) (.slice none 0 0) (.slice none 0 0) (.int .i64 0) (.bool false) (.int .i64 0) w3 :=
    ⟨j, [], 0, false, [], _, 0, 0, rfl, rfl, rfl, rfl, Nat.zero_le _, OldRows.nil _, LI.start, (h3.third.drop.nilRows).perm ((List.Perm.swap ..).trans (List.Perm.cons _ (List.Perm.swap ..)))⟩
  have HR0 := Lib.hid hrel0
  clear h3 hrel0 hop
  go_wp2_with fail
  go_loopw [5, 8, 9, 10, 11, 41] (fun jv av ov sv cv iv wx => LRel w0 d len jv av ov sv cv iv wx) (fun _ _ _ _ _ i _ => len - (intOf i).toNat)
  case atStart => exact HR0.out
  case round =>
    obtain ⟨j, all, sure, cut, other, m, size, k, rfl, rfl, rfl, rfl, hk, hoth, hinv, hown⟩ := hrel
    clear HR0
    have j0 : (0 : Int) ≤ k := by omega
    by_cases hlt : k < len
    · obtain ⟨x, o, pv, rv, rfl, hop⟩ := HOPS.out k hlt
      have hk0 := hown.keeps
      obtain ⟨xb, xf, rfl, c0, c1, c2, c3, c4⟩ := op_cells HOPS.out hlt hop
      replace c0 := cell_still c0 hk0
      replace c1 := cell_still c1 hk0
      replace c2 := cell_still c2 hk0
      replace c3 := cell_still c3 hk0
      replace c4 := cell_still c4 hk0
      have hp := hop.p
      have hr := hop.r
      obtain ⟨oK, oP, oR, oN, oM⟩ := o
      simp only at c0 c1 c2 c3 c4 hp hr
      obtain ⟨pa, pc, rfl, _, _⟩ := hp.form
      obtain ⟨ra, rc, hrv, hr1, hr2⟩ := hr.2
      subst hrv
      replace hr := hr.1
      have j1 : (k : Int) < len := by omega
      have HOWN := Lib.hid hown
      have HINV := Lib.hid hinv
      have HOTH := Lib.hid hoth
      have HP := Lib.hid hp
      have HR := Lib.hid hr
      have HRC := Lib.hid (⟨hr1, hr2⟩ : oR.length ≤ rc ∧ rc ≤ maxLen)
      have HOP := Lib.hid hop
      have HLT := Lib.hid hlt
      clear hop hown hinv hoth hp hr hr1 hr2 hlt hk hk0
      obtain ⟨aa, ac, hav, ha1, ha2⟩ := HOWN.out.rows2 (v := u8) (ll := all) (by simp)
      subst hav
      have HAC := Lib.hid (⟨ha1, ha2⟩ : all.length ≤ ac ∧ ac ≤ maxLen)
      obtain ⟨_, oa, oc, hov, ho1, ho2⟩ := HOTH.out
      subst hov
      by_cases h60 : 60 ≤ k
      · have j2 : (60 : Int) ≤ k := by omega
        have HB := Lib.hid ((HOWN.out.keeps.alloc (.cells #[.int .i64 oK, .slice pa oP.length pc, .slice ra oR.length rc, .int .i64 oN, .int .i64 oM] 67)).below)
        clear h60 ha1 ha2 ho1 ho2
        go_wp2_with fail
        go_ret
        exact ⟨rfl, HB.out⟩
      · have j2 : ¬ (60 : Int) ≤ k := by omega
        have ha5 : Own w0 (wr.alloc (opObj oK (.slice pa oP.length pc) (.slice ra oR.length rc) oN oM)) [rDisk _ d m, rObj _ j (jrnObj d nmJ size), rObj _ wr.heap.size (opObj oK (.slice pa oP.length pc) (.slice ra oR.length rc) oN oM), rRows _ (.slice aa all.length ac) all] :=
          (HOWN.out.alloc _).perm ((List.Perm.swap ..).trans (List.Perm.cons _ (List.Perm.swap ..)))
        have hsm := small_calls (HR.out.keep ha5.keeps) ⟨ra, rfl⟩ HRC.out.1 HRC.out.2
        have HSM := Lib.hid hsm
        have HA5 := Lib.hid ha5
        have H60 := Lib.hid h60
        clear h60 ha1 ha2 ho1 ho2 hsm ha5
        go_wp2_with fail
        refine HSM.out.mono ?_
        rintro e w5 ⟨rfl, hw⟩
        have ha5 := HA5.out
        rw [hw] at ha5
        replace HA5 := Lib.hid ha5
        obtain ⟨q0, q1, q2, q3, q4⟩ := op_at (t := wr.heap.size) (k := oK) (pv := .slice pa oP.length pc) (rv := .slice ra oR.length rc) (n := oN) (m := oM) ha5 (by simp)
        clear HSM hw ha5
        by_cases hs : smallOf oR = true
        · rw [hs]
          by_cases h2k : 2000 < oP.length
          · have j3 : (2000 : Int) < (oP.length : Int) := by omega
            have HB := Lib.hid HA5.out.below
            clear h2k hs
            go_wp2_with fail
            go_ret
            exact ⟨rfl, HB.out⟩
          · have j3 : ¬ (2000 : Int) < (oP.length : Int) := by omega
            have HS := Lib.hid (⟨hs, h2k⟩ : smallOf oR = true ∧ ¬ 2000 < oP.length)
            have hk60 := H60.out
            have hinv := HINV.out
            have hg := hinv.good
            have hsz := hinv.size
            have hpl := hinv.len
            have HG := Lib.hid hg
            have HSZ := Lib.hid hsz
            clear h2k hs hk60 hinv hg hsz hpl
            by_cases e0 : oK = 0
            · subst e0
              have hap := jappend_calls HA5.out (nm := nmJ) (size := size) HG.out (by have := H60.out; omega) (by have := HSZ.out; have := H60.out; omega) (HP.out.keep HA5.out.keeps)
              rcases HINV.out.append (by have := H60.out; omega) oP (by have := HS.out.2; omega) with ⟨m2, s2, eq, hi2⟩ | ⟨m2, eq, hi2⟩
              · rw [eq] at hap
                have HAP := Lib.hid hap
                have HI2 := Lib.hid hi2
                clear hap hi2 eq
                go_wp2_with fail
                refine HAP.out.mono ?_
                rintro e w6 ⟨rfl, h6⟩
                replace h6 : Own w0 w6 [rDisk _ d m2, rObj _ j (jrnObj d nmJ s2), rObj _ wr.heap.size (opObj 0 (.slice pa oP.length pc) (.slice ra oR.length rc) oN oM), rRows _ (.slice aa all.length ac) all] := h6
                obtain ⟨-, r1, -, -, -⟩ := op_at (t := wr.heap.size) (k := 0) (pv := .slice pa oP.length pc) (rv := .slice ra oR.length rc) (n := oN) (m := oM) h6 (by simp)
                have htw := twin_calls (HP.out.keep h6.keeps) (by have := HS.out.2; omega)
                have HTW := Lib.hid htw
                have H6 := Lib.hid h6
                clear htw h6 HAP q0 q1 q2 q3 q4
                go_wp2_with fail
                refine HTW.out.mono ?_
                rintro e w7 ⟨v7, rfl, ho7, hk7⟩
                obtain ⟨a8, c8, w8, run8, h8⟩ := (H6.out.last4).pushRec ho7 hk7 (by have := frames_ge all; have := HINV.out.len; have := H60.out; omega)
                obtain ⟨va, vc, rfl, _, _⟩ := ho7.bytes.form
                have RUN := Lib.hid run8
                have HREL := Lib.hid (LRel.mk HLT.out HOTH.out HI2.out h8.first4)
                clear ho7 hk7 run8 h8 HTW
                go_wp2_with (at_builtin; refine wpList_append_run rfl _ _ _ _ rfl rfl rfl RUN.out ?_)
                go_roundw
                case rel => exact HREL.out
                case measure => have := HLT.out; simp [intOf]; omega
              · rw [eq] at hap
                have HC := Lib.hid hap
                have HI2 := Lib.hid hi2
                clear hap hi2 eq
                go_wp2_with fail
                refine HC.out.mono ?_
                rintro e w6 ⟨rfl, h6⟩
                replace h6 : Own w0 w6 [rDisk _ d m2, rObj _ j (jrnObj d nmJ size), rObj _ wr.heap.size (opObj 0 (.slice pa oP.length pc) (.slice ra oR.length rc) oN oM), rRows _ (.slice aa all.length ac) all] := h6
                have HREL := Lib.hid (LRel.mk HLT.out HOTH.out HI2.out h6)
                clear h6 HC q0 q1 q2 q3 q4
                go_wp2_with fail
                go_roundw
                case rel => exact HREL.out
                case measure => have := HLT.out; simp [intOf]; omega
            · have b0 : (oK == 0) = false := by rw [beq_eq_false_iff_ne]; exact e0
              by_cases e1 : oK = 1
              · subst e1
                clear e0 b0
                have hsy := jsync_calls HA5.out (nm := nmJ) (size := size) HG.out
                rcases HINV.out.sync with ⟨m2, eq, hi2⟩ | ⟨m2, eq, hi2⟩
                · rw [eq] at hsy
                  simp only at hsy
                  have HC := Lib.hid hsy
                  have HI2 := Lib.hid hi2
                  clear hsy hi2 eq
                  go_wp2_with fail
                  refine HC.out.mono ?_
                  rintro e w6 ⟨rfl, h6⟩
                  replace h6 : Own w0 w6 [rDisk _ d m2, rObj _ j (jrnObj d nmJ size), rObj _ wr.heap.size (opObj 1 (.slice pa oP.length pc) (.slice ra oR.length rc) oN oM), rRows _ (.slice aa all.length ac) all] := h6
                  have HREL := Lib.hid (LRel.mk HLT.out HOTH.out HI2.out h6)
                  clear h6 HC q0 q1 q2 q3 q4
                  go_wp2_with fail
                  go_roundw
                  case rel => exact HREL.out
                  case measure => have := HLT.out; simp [intOf]; omega
                · rw [eq] at hsy
                  simp only at hsy
                  have HC := Lib.hid hsy
                  have HI2 := Lib.hid hi2
                  clear hsy hi2 eq
                  go_wp2_with fail
                  refine HC.out.mono ?_
                  rintro e w6 ⟨rfl, h6⟩
                  replace h6 : Own w0 w6 [rDisk _ d m2, rObj _ j (jrnObj d nmJ size), rObj _ wr.heap.size (opObj 1 (.slice pa oP.length pc) (.slice ra oR.length rc) oN oM), rRows _ (.slice aa all.length ac) all] := h6
                  have HREL := Lib.hid (LRel.mk HLT.out HOTH.out HI2.out h6)
                  clear h6 HC q0 q1 q2 q3 q4
                  go_wp2_with fail
                  go_roundw
                  case rel => exact HREL.out
                  case measure => have := HLT.out; simp [intOf]; omega
              · have b1 : (oK == 1) = false := by rw [beq_eq_false_iff_ne]; exact e1
                by_cases e2 : oK = 2
                · subst e2
                  clear e0 b0 e1 b1
                  have hdn := HA5.out.down
                  have hfr := small_frames HS.out.1
                  have hrw := jrewrite_calls HA5.out (nm := nmJ) (size := size) HG.out (by decide) (HR.out.keep HA5.out.keeps) (by have := H60.out; omega) (r := jRewriteOf m nmJ size oR) (fun h => absurd h hfr.2.2) (fun _ => rfl)
                  clear hfr
                  rcases HINV.out.rewrite oR HS.out.1 with ⟨m2, s2, eq, hi2⟩ | ⟨hd, m2, eq, hi2⟩ | ⟨hd, m2, eq, hi2⟩
                  · rw [eq] at hrw
                    have HC := Lib.hid hrw
                    have HD := Lib.hid hdn
                    have HI2 := Lib.hid hi2
                    clear hrw hdn hi2 eq
                    go_wp2_with fail
                    refine HD.out.out.mono ?_; rintro e w' ⟨rfl, rfl⟩
                    go_wp2_with fail
                    refine HC.out.mono ?_
                    rintro e w6 ⟨rfl, h6⟩
                    replace h6 : Own w0 w6 [rDisk _ d m2, rObj _ j (jrnObj d nmJ s2), rObj _ wr.heap.size (opObj 2 (.slice pa oP.length pc) (.slice ra oR.length rc) oN oM), rRows _ (.slice aa all.length ac) all] := h6
                    obtain ⟨-, -, r2, -, -⟩ := op_at (t := wr.heap.size) (k := 2) (pv := .slice pa oP.length pc) (rv := .slice ra oR.length rc) (n := oN) (m := oM) h6 (by simp)
                    obtain ⟨a8, c8, w8, run8, h8⟩ := (h6.last4.drop).drew.copyRows (ll := oR) HR.out (by have := HS.out.1; have := smallOf_true HS.out.1; omega)
                    have run9 : (Builtin.append_ #[34, 34] 34 #[.slice (some ⟨w6.heap.size, 0, none⟩) 0 0, .slice ra oR.length rc]).run Try.prog (w6.alloc (.cells #[] 31)).drew = .ok (.slice a8 oR.length c8) w8 := run8
                    have RUN := Lib.hid run9
                    obtain ⟨-, -, rz, -, -⟩ := op_at (t := wr.heap.size) (k := 2) (pv := .slice pa oP.length pc) (rv := .slice ra oR.length rc) (n := oN) (m := oM) ((h6.alloc (.cells #[] 31)).drew) (by simp)
                    obtain ⟨-, -, r8, -, -⟩ := op_at (t := wr.heap.size) (k := 2) (pv := .slice pa oP.length pc) (rv := .slice ra oR.length rc) (n := oN) (m := oM) h8 (by simp)
                    have HREL := Lib.hid (LRel.mk HLT.out HOTH.out HI2.out h8.first4)
                    clear h6 h8 run8 run9 HC HD q0 q1 q2 q3 q4
                    go_wp2_with fail
                    go_region_law (refine step_append_run rfl _ _ _ _ rfl rfl rfl RUN.out ?_)
                    all_goals
                      go_wp2_with fail
                      go_roundw
                      case rel => exact HREL.out
                      case measure => have := HLT.out; simp [intOf]; omega
                  · rw [eq] at hrw
                    rw [hd] at hdn
                    have HC := Lib.hid hrw
                    have HD := Lib.hid hdn
                    have HI2 := Lib.hid hi2
                    clear hrw hdn hi2 eq
                    go_wp2_with fail
                    refine HD.out.out.mono ?_; rintro e w' ⟨rfl, rfl⟩
                    go_wp2_with fail
                    refine HC.out.mono ?_
                    rintro e w6 ⟨rfl, h6⟩
                    replace h6 : Own w0 w6 [rDisk _ d m2, rObj _ j (jrnObj d nmJ size), rObj _ wr.heap.size (opObj 2 (.slice pa oP.length pc) (.slice ra oR.length rc) oN oM), rRows _ (.slice aa all.length ac) all] := h6
                    obtain ⟨-, -, r2, -, -⟩ := op_at (t := wr.heap.size) (k := 2) (pv := .slice pa oP.length pc) (rv := .slice ra oR.length rc) (n := oN) (m := oM) h6 (by simp)
                    have HREL := Lib.hid (fun n => LRel.mk HLT.out (⟨HR.out, ra, rc, rfl, HRC.out.1, HRC.out.2⟩ : OldRows w0 (.slice ra oR.length rc) oR) HI2.out (h6.drewN n))
                    clear h6 HC HD hd q0 q1 q2 q3 q4
                    go_wp2_with fail
                    go_quiet (fail)
                    go_wp2_with fail
                    go_roundw
                    case rel => exact HREL.out _
                    case measure => have := HLT.out; simp [intOf]; omega
                  · rw [eq] at hrw
                    rw [hd] at hdn
                    have HC := Lib.hid hrw
                    have HD := Lib.hid hdn
                    have HI2 := Lib.hid hi2
                    clear hrw hdn hi2 eq
                    go_wp2_with fail
                    refine HD.out.out.mono ?_; rintro e w' ⟨rfl, rfl⟩
                    go_wp2_with fail
                    refine HC.out.mono ?_
                    rintro e w6 ⟨rfl, h6⟩
                    replace h6 : Own w0 w6 [rDisk _ d m2, rObj _ j (jrnObj d nmJ size), rObj _ wr.heap.size (opObj 2 (.slice pa oP.length pc) (.slice ra oR.length rc) oN oM), rRows _ (.slice aa all.length ac) all] := h6
                    have HREL := Lib.hid (LRel.mk HLT.out HOTH.out HI2.out h6)
                    clear h6 HC HD hd q0 q1 q2 q3 q4
                    go_wp2_with fail
                    go_roundw
                    case rel => exact HREL.out
                    case measure => have := HLT.out; simp [intOf]; omega
                · have b2 : (oK == 2) = false := by rw [beq_eq_false_iff_ne]; exact e2
                  by_cases e4 : oK = 4
                  · subst e4
                    clear e0 b0 e1 b1 e2 b2
                    obtain ⟨w6, hfu, h6⟩ := HA5.out.fuse oN
                    have HC := Lib.hid hfu
                    have HREL := Lib.hid (LRel.mk HLT.out HOTH.out (HINV.out.fuse oN HOP.out.n.1) h6)
                    clear h6 hfu
                    go_wp2_with fail
                    refine HC.out.out.mono ?_; rintro e w' ⟨rfl, rfl⟩
                    go_wp2_with fail
                    go_roundw
                    case rel => exact HREL.out
                    case measure => have := HLT.out; simp [intOf]; omega
                  · have b4 : (oK == 4) = false := by rw [beq_eq_false_iff_ne]; exact e4
                    by_cases e5 : oK = 5
                    · subst e5
                      obtain ⟨rs, hw⟩ := HINV.out.crash oN oM
                      have hcr := HA5.out.crash oN oM HG.out.fits
                      have HCR := Lib.hid hcr
                      have HW0 := Lib.hid hw
                      have H60b := Lib.hid (show k < 60 by have := H60.out; omega)
                      clear e0 b0 e1 b1 e2 b2 e4 b4 hcr hw
                      go_wp2_with fail
                      refine HCR.out.mono ?_
                      rintro e w6 ⟨rfl, h6⟩
                      replace h6 : Own w0 w6 [rDisk _ d (crashOf m oN oM), rObj _ j (jrnObj d nmJ size), rObj _ wr.heap.size (opObj 5 (.slice pa oP.length pc) (.slice ra oR.length rc) oN oM), rRows _ (.slice aa all.length ac) all] := h6
                      obtain ⟨-, -, -, p3, p4⟩ := op_at (t := wr.heap.size) (k := 5) (pv := .slice pa oP.length pc) (rv := .slice ra oR.length rc) (n := oN) (m := oM) h6 (by simp)
                      have H6 := Lib.hid h6
                      clear h6 q0 q1 q2 q3 q4 HCR
                      by_cases hm : oM.tmod 3 = 1
                      · have bm : (oM.tmod 3 == 1) = true := by rw [beq_iff_eq]; exact hm
                        obtain ⟨x, hx, hx8⟩ := uint_mod oM 8 (by omega) (by omega)
                        have hx' : wrap64 ((IntKind.u64.wrap oM).tmod 8) = (x : Int) := hx
                        have j5 : (0 : Int) ≤ (x : Int) := by omega
                        have j6 : (x : Int) < 8 := by omega
                        obtain ⟨w7, hfu, h7⟩ := H6.out.fuse (x : Int)
                        obtain ⟨hg7, hg8, _⟩ := HW0.out.again (x : Int) (by omega) 0 0
                        have hop := open_calls h7 hg7 (by omega) nmJ
                        unfold nmJ at hop
                        have hwa := fun a b => (HW0.out.again (x : Int) (by omega) a b).2.2
                        have HOPN := Lib.hid hop
                        have HFU := Lib.hid hfu
                        have HG8 := Lib.hid hg8
                        have HWA := Lib.hid hwa
                        clear hx hop hfu hg7 hg8 hwa h7 hx8 hm
                        go_wp2_with fail
                        rw [hx']
                        go_wp2_with fail
                        refine HFU.out.out.mono ?_; rintro e w' ⟨rfl, rfl⟩
                        go_wp2_with fail
                        refine HOPN.out.mono ?_
                        rintro e w8 hpost
                        have h8 : (∃ vv, e = .returned vv) ∧ Own w0 w8 [rDisk _ d (openOf (fuseOf (crashOf m oN oM) (x : Int)).2 nmJ).m, rObj _ j (jrnObj d nmJ size), rObj _ wr.heap.size (opObj 5 (.slice pa oP.length pc) (.slice ra oR.length rc) oN oM), rRows _ (.slice aa all.length ac) all] := by
                          rcases hpost with ⟨_, rfl, h8⟩ | ⟨recs, used, j8, v8, _, rfl, h8⟩
                          · exact ⟨⟨_, rfl⟩, h8⟩
                          · exact ⟨⟨_, rfl⟩, h8.drop_two⟩
                        obtain ⟨⟨vv, rfl⟩, h8⟩ := h8
                        obtain ⟨-, -, -, s3, s4⟩ := op_at (t := wr.heap.size) (k := 5) (pv := .slice pa oP.length pc) (rv := .slice ra oR.length rc) (n := oN) (m := oM) h8 (by simp)
                        have HC2 := Lib.hid (fun a b => h8.crash a b HG8.out.fits)
                        clear h8 hpost HOPN HFU p3 p4
                        go_wp2_with fail
                        refine (HC2.out _ _).mono ?_
                        rintro e wz ⟨rfl, hz⟩
                        replace hz : Own w0 wz [rDisk _ d (crashOf (openOf (fuseOf (crashOf m oN oM) (x : Int)).2 nmJ).m (wrap64 (oN.tdiv 2)) (wrap64 (oM.tdiv 2))), rObj _ j (jrnObj d nmJ size), rObj _ wr.heap.size (opObj 5 (.slice pa oP.length pc) (.slice ra oR.length rc) oN oM), rRows _ (.slice aa all.length ac) all] := hz
                        have HZ := Lib.hid hz
                        have HW := Lib.hid (HWA.out (wrap64 (oN.tdiv 2)) (wrap64 (oM.tdiv 2)))
                        clear hz HC2 HWA s3 s4 HW0 H6
                        obtain ⟨hgz, m9, heq9, hi9, hrt⟩ := HW.out.opened H60b.out
                        have hop9 := open_calls HZ.out hgz (by omega) nmJ
                        rw [heq9] at hop9
                        unfold nmJ at hop9
                        have HOP9 := Lib.hid hop9
                        have HI9 := Lib.hid (hi9.other (o' := other))
                        have HRT := Lib.hid hrt
                        clear hgz heq9 hop9 hi9 hrt
                        go_wp2_with fail
                        refine HOP9.out.mono ?_
                        rintro e w9 (⟨hn, _⟩ | ⟨recs, used, j9, v9, hres, rfl, h9⟩)
                        · cases hn
                        simp only [Option.some.injEq, Prod.mk.injEq] at hres
                        obtain ⟨rfl, rfl⟩ := hres
                        replace h9 : Own w0 w9 [rDisk _ d m9, rObj _ j9 (jrnObj d nmJ (framesOf rs).length), rRows _ v9 rs, rObj _ j (jrnObj d nmJ size), rObj _ wr.heap.size (opObj 5 (.slice pa oP.length pc) (.slice ra oR.length rc) oN oM), rRows _ (.slice aa all.length ac) all] := h9
                        have hr9 := (h9.rows (v := v9) (ll := rs) (by simp)).1
                        have hra := (h9.rows (v := .slice aa all.length ac) (ll := all) (by simp)).1
                        obtain ⟨va, vc, hv9, hv1, hv2⟩ := h9.rows2 (v := v9) (ll := rs) (by simp)
                        subst hv9
                        have hsl := fun w => head_run w aa all.length ac sure (Nat.le_trans HINV.out.le HAC.out.1)
                        have hb1 := begins_calls (hra.take sure HINV.out.le) hr9 (by rw [List.length_take]; have := HAC.out; omega) (fun a n c e => by cases e; exact hv1)
                        have hb2 := fun wx (hk : Keeps (fun _ => False) w9 wx) => begins_calls (hr9.keep hk) (hra.keep hk) (Nat.le_trans hv1 hv2) (fun a n c e => by cases e; exact HAC.out.1)
                        have hb3 := fun wx (hk : Keeps (fun _ => False) w9 wx) => rsame_calls (hr9.keep hk) (HOTH.out.1.keep ((h9.keeps).trans hk (fun _ _ e => e))) (Nat.le_trans hv1 hv2)
                        have HB1 := Lib.hid hb1
                        have HB2 := Lib.hid hb2
                        have HB3 := Lib.hid hb3
                        have H9 := Lib.hid h9
                        have HRELF : ∀ wx, Keeps (fun _ => False) w9 wx → LRel w0 d len (.pointer (some ⟨j9, 0, none⟩)) (.slice va rs.length vc) (.slice oa other.length oc) (.int .i64 (rs.length : Int)) (.bool false) (.int .i64 ((k + 1 : Nat) : Int)) wx :=
                          fun wx hk => ⟨j9, rs, rs.length, false, other, m9, _, k + 1, rfl, rfl, rfl, rfl, HLT.out, HOTH.out, HI9.out, (H9.out.quiet hk).drop3of6⟩
                        have HRL := Lib.hid HRELF
                        clear h9 hr9 hra hv1 hv2 hb1 hb2 hb3 HRELF HOP9
                        by_cases hB1 : beginsOf (all.take sure) rs = true
                        · rw [hB1] at HB1
                          by_cases hB2 : beginsOf rs all = true
                          · rw [hB2] at HB2
                            clear hB1 hB2
                            go_wp2_with fail
                            refine HB1.out.mono ?_
                            rintro e w10 ⟨rfl, hk10⟩
                            have hc2 := Lib.hid (HB2.out _ hk10)
                            have HK10 := Lib.hid hk10
                            clear hk10
                            go_wp2_with fail
                            refine hc2.out.mono ?_
                            rintro e w11 ⟨rfl, hk11⟩
                            have HREL := Lib.hid (HRL.out _ (HK10.out.trans hk11 (fun _ _ e => e)))
                            clear hk11 hc2
                            go_wp2_with fail
                            go_roundw
                            case rel => exact HREL.out
                            case measure => have := HLT.out; simp [intOf]; omega
                          · have hB2f : beginsOf rs all = false := by simpa using hB2
                            obtain ⟨hcut, hoe⟩ : cut = true ∧ rs = other := by
                              rcases HRT.out with h | h
                              · exact absurd h.2 hB2
                              · exact h
                            rw [hB2f] at HB2
                            subst hcut
                            have hd9 : decide (rs = other) = true := decide_eq_true hoe
                            rw [hd9] at HB3
                            clear hB1 hB2 hB2f hoe hd9 HRT
                            go_wp2_with fail
                            refine HB1.out.mono ?_
                            rintro e w10 ⟨rfl, hk10⟩
                            have hc2 := Lib.hid (HB2.out _ hk10)
                            have HK10 := Lib.hid hk10
                            clear hk10
                            go_wp2_with fail
                            refine hc2.out.mono ?_
                            rintro e w11 ⟨rfl, hk11⟩
                            have hk12 := HK10.out.trans hk11 (fun _ _ e => e)
                            have hc3 := Lib.hid (HB3.out _ hk12)
                            have HK12 := Lib.hid hk12
                            clear hk11 hk12 hc2
                            go_wp2_with fail
                            refine hc3.out.mono ?_
                            rintro e w13 ⟨rfl, hk13⟩
                            have HREL := Lib.hid (HRL.out _ (HK12.out.trans hk13 (fun _ _ e => e)))
                            clear hk13 hc3
                            go_wp2_with fail
                            go_roundw
                            case rel => exact HREL.out
                            case measure => have := HLT.out; simp [intOf]; omega
                        · have hB1f : beginsOf (all.take sure) rs = false := by simpa using hB1
                          obtain ⟨hcut, hoe⟩ : cut = true ∧ rs = other := by
                            rcases HRT.out with h | h
                            · exact absurd h.1 hB1
                            · exact h
                          rw [hB1f] at HB1
                          subst hcut
                          have hd9 : decide (rs = other) = true := decide_eq_true hoe
                          rw [hd9] at HB3
                          clear hB1 hB1f hoe hd9 HRT HB2
                          go_wp2_with fail
                          refine HB1.out.mono ?_
                          rintro e w10 ⟨rfl, hk10⟩
                          have hc3 := Lib.hid (HB3.out _ hk10)
                          have HK12 := Lib.hid hk10
                          clear hk10
                          go_wp2_with fail
                          refine hc3.out.mono ?_
                          rintro e w13 ⟨rfl, hk13⟩
                          have HREL := Lib.hid (HRL.out _ (HK12.out.trans hk13 (fun _ _ e => e)))
                          clear hk13 hc3
                          go_wp2_with fail
                          go_roundw
                          case rel => exact HREL.out
                          case measure => have := HLT.out; simp [intOf]; omega
                      · have bm : (oM.tmod 3 == 1) = false := by rw [beq_eq_false_iff_ne]; exact hm
                        have HZ := H6
                        have HW := HW0
                        clear HW0 H6
                        obtain ⟨hgz, m9, heq9, hi9, hrt⟩ := HW.out.opened H60b.out
                        have hop9 := open_calls HZ.out hgz (by omega) nmJ
                        rw [heq9] at hop9
                        unfold nmJ at hop9
                        have HOP9 := Lib.hid hop9
                        have HI9 := Lib.hid (hi9.other (o' := other))
                        have HRT := Lib.hid hrt
                        clear hgz heq9 hop9 hi9 hrt
                        go_wp2_with fail
                        refine HOP9.out.mono ?_
                        rintro e w9 (⟨hn, _⟩ | ⟨recs, used, j9, v9, hres, rfl, h9⟩)
                        · cases hn
                        simp only [Option.some.injEq, Prod.mk.injEq] at hres
                        obtain ⟨rfl, rfl⟩ := hres
                        replace h9 : Own w0 w9 [rDisk _ d m9, rObj _ j9 (jrnObj d nmJ (framesOf rs).length), rRows _ v9 rs, rObj _ j (jrnObj d nmJ size), rObj _ wr.heap.size (opObj 5 (.slice pa oP.length pc) (.slice ra oR.length rc) oN oM), rRows _ (.slice aa all.length ac) all] := h9
                        have hr9 := (h9.rows (v := v9) (ll := rs) (by simp)).1
                        have hra := (h9.rows (v := .slice aa all.length ac) (ll := all) (by simp)).1
                        obtain ⟨va, vc, hv9, hv1, hv2⟩ := h9.rows2 (v := v9) (ll := rs) (by simp)
                        subst hv9
                        have hsl := fun w => head_run w aa all.length ac sure (Nat.le_trans HINV.out.le HAC.out.1)
                        have hb1 := begins_calls (hra.take sure HINV.out.le) hr9 (by rw [List.length_take]; have := HAC.out; omega) (fun a n c e => by cases e; exact hv1)
                        have hb2 := fun wx (hk : Keeps (fun _ => False) w9 wx) => begins_calls (hr9.keep hk) (hra.keep hk) (Nat.le_trans hv1 hv2) (fun a n c e => by cases e; exact HAC.out.1)
                        have hb3 := fun wx (hk : Keeps (fun _ => False) w9 wx) => rsame_calls (hr9.keep hk) (HOTH.out.1.keep ((h9.keeps).trans hk (fun _ _ e => e))) (Nat.le_trans hv1 hv2)
                        have HB1 := Lib.hid hb1
                        have HB2 := Lib.hid hb2
                        have HB3 := Lib.hid hb3
                        have H9 := Lib.hid h9
                        have HRELF : ∀ wx, Keeps (fun _ => False) w9 wx → LRel w0 d len (.pointer (some ⟨j9, 0, none⟩)) (.slice va rs.length vc) (.slice oa other.length oc) (.int .i64 (rs.length : Int)) (.bool false) (.int .i64 ((k + 1 : Nat) : Int)) wx :=
                          fun wx hk => ⟨j9, rs, rs.length, false, other, m9, _, k + 1, rfl, rfl, rfl, rfl, HLT.out, HOTH.out, HI9.out, (H9.out.quiet hk).drop3of6⟩
                        have HRL := Lib.hid HRELF
                        clear h9 hr9 hra hv1 hv2 hb1 hb2 hb3 HRELF HOP9
                        by_cases hB1 : beginsOf (all.take sure) rs = true
                        · rw [hB1] at HB1
                          by_cases hB2 : beginsOf rs all = true
                          · rw [hB2] at HB2
                            clear hB1 hB2
                            go_wp2_with fail
                            refine HB1.out.mono ?_
                            rintro e w10 ⟨rfl, hk10⟩
                            have hc2 := Lib.hid (HB2.out _ hk10)
                            have HK10 := Lib.hid hk10
                            clear hk10
                            go_wp2_with fail
                            refine hc2.out.mono ?_
                            rintro e w11 ⟨rfl, hk11⟩
                            have HREL := Lib.hid (HRL.out _ (HK10.out.trans hk11 (fun _ _ e => e)))
                            clear hk11 hc2
                            go_wp2_with fail
                            go_roundw
                            case rel => exact HREL.out
                            case measure => have := HLT.out; simp [intOf]; omega
                          · have hB2f : beginsOf rs all = false := by simpa using hB2
                            obtain ⟨hcut, hoe⟩ : cut = true ∧ rs = other := by
                              rcases HRT.out with h | h
                              · exact absurd h.2 hB2
                              · exact h
                            rw [hB2f] at HB2
                            subst hcut
                            have hd9 : decide (rs = other) = true := decide_eq_true hoe
                            rw [hd9] at HB3
                            clear hB1 hB2 hB2f hoe hd9 HRT
                            go_wp2_with fail
                            refine HB1.out.mono ?_
                            rintro e w10 ⟨rfl, hk10⟩
                            have hc2 := Lib.hid (HB2.out _ hk10)
                            have HK10 := Lib.hid hk10
                            clear hk10
                            go_wp2_with fail
                            refine hc2.out.mono ?_
                            rintro e w11 ⟨rfl, hk11⟩
                            have hk12 := HK10.out.trans hk11 (fun _ _ e => e)
                            have hc3 := Lib.hid (HB3.out _ hk12)
                            have HK12 := Lib.hid hk12
                            clear hk11 hk12 hc2
                            go_wp2_with fail
                            refine hc3.out.mono ?_
                            rintro e w13 ⟨rfl, hk13⟩
                            have HREL := Lib.hid (HRL.out _ (HK12.out.trans hk13 (fun _ _ e => e)))
                            clear hk13 hc3
                            go_wp2_with fail
                            go_roundw
                            case rel => exact HREL.out
                            case measure => have := HLT.out; simp [intOf]; omega
                        · have hB1f : beginsOf (all.take sure) rs = false := by simpa using hB1
                          obtain ⟨hcut, hoe⟩ : cut = true ∧ rs = other := by
                            rcases HRT.out with h | h
                            · exact absurd h.1 hB1
                            · exact h
                          rw [hB1f] at HB1
                          subst hcut
                          have hd9 : decide (rs = other) = true := decide_eq_true hoe
                          rw [hd9] at HB3
                          clear hB1 hB1f hoe hd9 HRT HB2
                          go_wp2_with fail
                          refine HB1.out.mono ?_
                          rintro e w10 ⟨rfl, hk10⟩
                          have hc3 := Lib.hid (HB3.out _ hk10)
                          have HK12 := Lib.hid hk10
                          clear hk10
                          go_wp2_with fail
                          refine hc3.out.mono ?_
                          rintro e w13 ⟨rfl, hk13⟩
                          have HREL := Lib.hid (HRL.out _ (HK12.out.trans hk13 (fun _ _ e => e)))
                          clear hk13 hc3
                          go_wp2_with fail
                          go_roundw
                          case rel => exact HREL.out
                          case measure => have := HLT.out; simp [intOf]; omega
                    · have b5 : (oK == 5) = false := by rw [beq_eq_false_iff_ne]; exact e5
                      have HREL := Lib.hid (LRel.mk HLT.out HOTH.out HINV.out.next HA5.out)
                      go_wp2_with fail
                      go_roundw
                      case rel => exact HREL.out
                      case measure => have := HLT.out; simp [intOf]; omega
        · have hs2 : smallOf oR = false := by simpa using hs
          rw [hs2]
          have HB := Lib.hid HA5.out.below
          clear hs hs2
          go_wp2_with fail
          go_ret
          exact ⟨rfl, HB.out⟩
    · obtain rfl : k = len := by omega
      have HB := Lib.hid hown.below
      clear hown hinv hoth hlt hk
      go_wp2_with fail
      go_ret
      exact ⟨rfl, HB.out⟩
end Go.Proofs.Ytlinkpjneehnbaa
