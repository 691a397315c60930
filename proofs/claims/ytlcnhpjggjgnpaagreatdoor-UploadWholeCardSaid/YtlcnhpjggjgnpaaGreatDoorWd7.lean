/- A part of the proof. -/
import Derived.Test.YtlcnhpjggjgnpaaGreatDoorWd6
namespace Go.Proofs.YtlcnhpjggjgnpaaGreatDoor
set_option linter.unusedVariables false
set_option linter.unusedSimpArgs false
open Go.RowKit Go.MapKept
def UWs (y st u bo bs : Nat) (ol sl : List Value) (W : World) : Prop :=
  (W.cell? ⟨y, 1, none⟩ = some (.pointer (some ⟨st, 0, none⟩)) ∧ W.cell? ⟨y, 3, none⟩ = some (.pointer (some ⟨u, 0, none⟩))) ∧ W.rangeAt bo 0 ol ∧ W.rangeAt bs 0 sl
theorem range_of {w W : World} {b : Nat} {cl : List Value} {ty : TypeId} {M : List (Res w.heap.size)} (h : Own w W M) (hm : rObj w.heap.size b (.cells cl.toArray ty) ∈ M) : W.rangeAt b 0 cl := fun k v hv => by
  rw [Nat.zero_add]
  exact cell_at (h.at (b := b) (o := .cells cl.toArray ty) hm).1 (by rw [List.getElem?_toArray]; exact hv)
theorem UWs.of {w W : World} {y d st t u bo bs : Nat} {ol sl : List Value} {M : List (Res w.heap.size)} (h : Own w W M) (hy : rObj w.heap.size y (yObj d st t u) ∈ M) (ho : rObj w.heap.size bo (.cells ol.toArray 24) ∈ M) (hs : rObj w.heap.size bs (.cells sl.toArray 39) ∈ M) : UWs y st u bo bs ol sl W := by
  obtain ⟨-, k1, -, k3⟩ := y_cells (h.at (b := y) (o := yObj d st t u) hy).1
  exact ⟨⟨k1, k3⟩, range_of h ho, range_of h hs⟩
def wlast (cn : Nat) : Nat := min cn 29 + 1
def WRel (w0 : World) (p : List UInt8) (cn d st j t b u mp y bo sp q : Nat) (ol : List Value) (av iv : Value) (W : World) : Prop :=
  ∃ (a i : Nat) (T : TM), av = .int .i64 (a : Int) ∧ iv = .int .i64 (i : Int) ∧ Wh p T a i ∧ i ≤ wlast cn ∧ (i = wlast cn → a = p.length) ∧
    Own w0 W (tRes w0.heap.size d j t b nmT T ++ (uRes w0.heap.size d u st t mp ((1 + 1 : Nat) : Int) ([] ++ (⟨((1 : Nat) : Int), rB, 1, p.take a⟩, sp, q) :: []) ++ [rObj w0.heap.size y (yObj d st t u), rObj w0.heap.size bo (.cells ol.toArray 24)]))
theorem cut_nums (v : Int) (pl a : Nat) (ha : a ≤ pl) (hp : pl ≤ 262144) : ∃ r : Nat, r ≤ pl - a ∧ IntKind.i64.wrap ((pl : Int) - (a : Int)) = ((pl - a : Nat) : Int) ∧ IntKind.i64.wrap (((pl - a : Nat) : Int) + 1) = ((pl - a + 1 : Nat) : Int) ∧ IntKind.u64.wrap ((pl - a + 1 : Nat) : Int) = ((pl - a + 1 : Nat) : Int) ∧
    wrap64 ((IntKind.u64.wrap v).tmod ((pl - a + 1 : Nat) : Int)) = (r : Int) ∧ IntKind.i64.wrap ((a : Int) + (r : Int)) = ((a + r : Nat) : Int) := by
  have h0 : 0 ≤ IntKind.u64.wrap v := by simp [IntKind.wrap, IntKind.signed, IntKind.bits]; omega
  generalize IntKind.u64.wrap v = z at *
  obtain ⟨k, hk⟩ : ∃ k, k = pl - a := ⟨_, rfl⟩
  rw [← hk]
  have h1 : 0 ≤ z % ((k + 1 : Nat) : Int) := Int.emod_nonneg _ (by omega)
  have h2 : z % ((k + 1 : Nat) : Int) < ((k + 1 : Nat) : Int) := Int.emod_lt_of_pos _ (by omega)
  have h3 : z.tmod ((k + 1 : Nat) : Int) = z % ((k + 1 : Nat) : Int) := Int.tmod_eq_emod_of_nonneg h0
  rw [h3]
  generalize z % ((k + 1 : Nat) : Int) = y at *
  refine ⟨y.toNat, by omega, ?_, ?_, IntWalk.u64_in _ (by omega), ?_, ?_⟩
  · rw [IntWalk.i64_in _ (by omega)]; omega
  · rw [IntWalk.i64_in _ (by omega)]; omega
  · have : wrap64 y = y := by
      have h4 : y < 262145 := by omega
      unfold wrap64; omega
    rw [this]; omega
  · rw [IntWalk.i64_in _ (by omega)]; omega
theorem y3_of {w W : World} {y d st t u : Nat} {M : List (Res w.heap.size)} (h : Own w W M) (hy : rObj w.heap.size y (yObj d st t u) ∈ M) : W.cell? ⟨y, 3, none⟩ = some (.pointer (some ⟨u, 0, none⟩)) := (y_cells (h.at (b := y) (o := yObj d st t u) hy).1).2.2.2
set_option maxRecDepth 100000 in
set_option maxHeartbeats 2000000 in
theorem uwh_walk (w0 : World) (hgl : GLen w0) {pa : Option Addr} {pc : Nat} {p : List UInt8} (hrd : Reads w0 (.slice pa p.length pc) p) {ca : Option Addr} {cn cc : Nat} (hcc : cn ≤ cc ∧ cc ≤ maxLen) (hcuts : ∀ i, i < cn → ∃ x v, ca = some x ∧ w0.cell? (x.add i) = some (.int .i64 v)) {dg : List UInt8} (hdg : dg.length = 32) :
    Calls Tryz.prog 3 #[.slice pa p.length pc, .slice ca cn cc, .agg (dg.map u8v).toArray] w0 (QuietP w0 (.bool true)) := by
  obtain ⟨pa', pc', e0, hpl, hpm⟩ := hrd.form
  cases e0
  unfold maxLen at hpm hcc
  obtain ⟨ol, hol⟩ : ∃ ol : List Value, ol = dg.map u8v := ⟨_, rfl⟩
  have HRD := Lib.hid hrd
  have HCUT := Lib.hid hcuts
  have HGL := Lib.hid hgl
  have HB := Lib.hid (And.intro hpl (And.intro hpm (And.intro hcc.1 hcc.2)))
  have HDG := Lib.hid (And.intro hdg hol)
  rw [← hol]
  obtain ⟨pl, hpl2⟩ : ∃ pl, pl = p.length := ⟨_, rfl⟩
  have HPL := Lib.hid hpl2
  rw [← hpl2]
  have h0 := (Own.start w0).alloc (.cells ol.toArray 24)
  have HY := Lib.hid (yard13_calls (R := 2097152) (by omega) (by omega) h0)
  have i0 : (0 : Int) ≤ (pl : Int) := by omega
  have i1 : (0 : Int) ≤ (cn : Int) := by omega
  clear hrd hcuts hgl hpl hpm hcc hdg hol h0 hpl2
  by_cases hbig : 262144 < pl
  · have b1 : decide ((262144 : Int) < (pl : Int)) = true := decide_eq_true (by omega)
    clear hbig HPL
    go_enter Tryz.func3, Tryz.ntmps3
    go_wp2_with fail
    refine HY.out.mono ?_
    rintro e w1 ⟨y, d, st, j, t, b, u, mp, rfl, h1⟩
    have H1 := Lib.hid h1.keeps
    have HG1 := Lib.hid (HGL.out.keep h1.keeps)
    clear h1 HY
    go_wp2_with fail
    refine (awake13_calls w1 HG1.out).mono ?_
    rintro e w2 ⟨rfl, hk2⟩
    have H2 := Lib.hid (H1.out.trans hk2 (fun _ _ e => e))
    have HG2 := Lib.hid (HG1.out.keep hk2)
    clear hk2 H1 HG1
    go_wp2_with fail
    refine (awake13_calls w2 HG2.out).mono ?_
    rintro e w3 ⟨rfl, hk3⟩
    have H3 := Lib.hid (H2.out.trans hk3 (fun _ _ e => e))
    clear hk3 H2 HG2
    go_wp2_with fail
    go_ret
    exact ⟨rfl, H3.out⟩
  have b1 : decide ((262144 : Int) < (pl : Int)) = false := decide_eq_false (by omega)
  have HSM := Lib.hid (show p.length ≤ 262144 by rw [← HPL.out]; omega)
  have i2 : (pl : Int) ≤ 262144 := by omega
  clear hbig
  obtain ⟨T1, hs1, hw1⟩ := wh_start p
  have HS1 := Lib.hid hs1
  have HW1 := Lib.hid hw1
  have HG0 := Lib.hid (show Good (oneT 2097152 []) 0 from oneT_good (by simp) (by omega))
  clear hs1 hw1
  go_enter Tryz.func3, Tryz.ntmps3
  go_wp2_with fail
  refine HY.out.mono ?_
  rintro e w1 ⟨y, d, st, j, t, b, u, mp, rfl, h1⟩
  have H1 := Lib.hid h1
  have HG1 := Lib.hid (HGL.out.keep h1.keeps)
  clear h1 HY
  go_wp2_with fail
  refine (awake13_calls w1 HG1.out).mono ?_
  rintro e w2 ⟨rfl, hk2⟩
  have h2 := H1.out.quiet hk2
  obtain ⟨-, -, -, k3⟩ := y_cells (h2.at (b := y) (o := yObj d st t u) (by simp)).1
  have hst := ustart_calls (nx := 1) (L := []) h2 (HGL.out.keep h2.keeps) HG0.out (by omega) (by decide) ⟨by omega, by omega⟩ (by simp) rB 1 ⟨by omega, by omega⟩
  rw [HS1.out] at hst
  have hst2 : Calls Tryz.prog 9 #[.pointer (some ⟨u, 0, none⟩), .string ⟨#[114]⟩, .int .i64 1] w2 (fun e w' => e = .returned (.tuple #[.int .i64 1, .int .i64 0]) ∧ ∃ sp q, Own w0 w' (tRes w0.heap.size d j t b nmT T1 ++ (uRes w0.heap.size d u st t mp ((1 + 1 : Nat) : Int) ([] ++ (⟨((1 : Nat) : Int), rB, 1, p.take 0⟩, sp, q) :: []) ++ [rObj w0.heap.size y (yObj d st t u), rObj w0.heap.size w0.heap.size (.cells ol.toArray 24)]))) := hst.mono (by
    rintro e w' ⟨he, hh⟩
    refine ⟨by simpa using he, ?_⟩
    rcases hh with ⟨-, sp, q, hh⟩ | ⟨hn, -⟩
    · exact ⟨sp, q, hh⟩
    · exact absurd rfl hn)
  have HST := Lib.hid hst2
  clear hst hst2 h2 H1 hk2 HS1 HG0 HG1
  go_wp2_with fail
  refine HST.out.mono ?_
  rintro e w3 ⟨rfl, sp, q, h3⟩
  have hq0 : w0.heap.size ≤ q := (h3.stat (q := q) (l := p.take 0) (by simp [uRes, liveRes])).2
  have HQ := Lib.hid hq0
  have H3 := Lib.hid h3
  have HGT := Lib.hid (HW1.out)
  clear h3 hq0 HST k3
  go_wp2_with fail
  go_loopw [10, 11, 12] (fun av iv _ wx => WRel w0 p cn d st j t b u mp y w0.heap.size sp q ol av iv wx) (fun _ iv _ _ => 31 - (intOf iv).toNat)
  case atStart => exact ⟨0, 0, T1, rfl, rfl, HW1.out, Nat.zero_le _, fun e => by unfold wlast at e; omega, H3.out⟩
  case round =>
    obtain ⟨a, i, T, rfl, rfl, hW, hi, hend, ho⟩ := hrel
    have HW := Lib.hid hW
    have HI := Lib.hid (And.intro hi hend)
    have HO := Lib.hid ho
    have j0 : (0 : Int) ≤ (i : Int) := by omega
    have hal : a ≤ pl := by rw [HPL.out]; exact hW.le
    clear hW hi hend ho H3 HGT HW1
    by_cases hc : i ≤ cn ∧ i < 30
    · have c1 : (i : Int) ≤ (cn : Int) := by omega
      have c2 : (i : Int) < 30 := by omega
      have HC := Lib.hid hc
      clear hc
      go_upto_region 12 with fail
      go_cut [64] from 45 to 92 (fun v wx => v = .bool (decide (i < cn ∧ i < 29)) ∧ wr = wx)
      case first =>
        by_cases h1 : i < cn
        · have d1 : (i : Int) < (cn : Int) := by omega
          by_cases h2 : i < 29
          · have d2 : (i : Int) < 29 := by omega
            go_wp2_with fail
            go_meet
            exact ⟨by simp [h1, h2], rfl⟩
          · have d2 : ¬ (i : Int) < 29 := by omega
            go_wp2_with fail
            go_meet
            exact ⟨by simp [h2], rfl⟩
        · have d1 : ¬ (i : Int) < (cn : Int) := by omega
          go_wp2_with fail
          go_meet
          exact ⟨by simp [h1], rfl⟩
      case rest =>
        obtain ⟨rfl, rfl⟩ := hcut
        obtain ⟨bb, hbb⟩ : ∃ bb, bb = decide (i < cn ∧ i < 29) := ⟨_, rfl⟩
        rw [← hbb]
        have HBB := Lib.hid hbb
        clear hbb c1 c2
        go_upto_if 64 with fail
        go_cut [12] from 45 to 92 (fun tv wx => ∃ tt : Nat, tv = .int .i64 (tt : Int) ∧ a ≤ tt ∧ tt ≤ pl ∧ (bb = false → tt = pl) ∧ wr = wx)
        case first =>
          cases bb with
          | false =>
            go_wp2_with fail
            go_meet
            exact ⟨pl, rfl, hal, Nat.le_refl _, fun _ => rfl, rfl⟩
          | true =>
            have hin := of_decide_eq_true HBB.out.symm
            obtain ⟨x, v, rfl, hcell⟩ := HCUT.out i hin.1
            have hcell := cell_keep hcell HO.out.keeps
            obtain ⟨r, n0, n1, n2, n3, n4, n5⟩ := cut_nums v pl a hal (by rw [HPL.out]; exact HSM.out)
            have n6 : ¬ (pl - a + 1 : Nat) = 0 := by omega
            have d1 : (i : Int) < (cn : Int) := by omega
            have N0 := Lib.hid n0
            generalize pl - a = k at n1 n2 n3 n4 n6
            generalize k + 1 = m at n2 n3 n4 n6
            clear hin n0 HBB
            go_wp2_with fail
            go_meet
            exact ⟨a + r, by rfl, by omega, by have := N0.out; omega, (fun e => by cases e), rfl⟩
        case rest =>
          obtain ⟨tt, rfl, ht1, ht2, ht3, rfl⟩ := hcut
          have HT3 := Lib.hid (show ¬ (i < cn ∧ i < 29) → tt = pl from fun hn => ht3 (by rw [HBB.out]; simpa using hn))
          obtain ⟨qa, hqa⟩ : ∃ qa, qa = (if pc = a then pa else Option.map (fun x => x.add a) pa) := ⟨_, rfl⟩
          have hsl := fun W => slice_runP W pa pl pc a (tt - a) (by have := HB.out.1; rw [← HPL.out] at this; omega)
          rw [← hqa] at hsl
          have e1 : (a : Int) + ((tt - a : Nat) : Int) = (tt : Int) := by omega
          rw [e1] at hsl
          have hpc := HRD.out.cutP a (tt - a) (by rw [← HPL.out]; omega)
          rw [← hqa] at hpc
          have HPC := Lib.hid hpc
          obtain ⟨T', hpt, hW'⟩ := HW.out.patch HSM.out ht1 (by rw [← HPL.out]; exact ht2)
          have hlen : ((p.drop a).take (tt - a)).length ≤ 262144 := Nat.le_trans (List.length_take_le' _ _) (by rw [List.length_drop]; have := HSM.out; omega)
          have hpa := upatch_calls (L1 := []) (L2 := []) (next := ((1 + 1 : Nat) : Int)) (x := ⟨((1 : Nat) : Int), rB, 1, p.take a⟩) (sp := sp) (q := q) HO.out.drew (by simp [uget]) HW.out.good (by have := HC.out; omega) (nx := 1) rfl (by omega) (by have := HSM.out; simp only [List.length_take]; omega) (a : Int) (pv := .slice qa (tt - a) (pc - a)) (p := (p.drop a).take (tt - a)) (by omega)
            (fun W M hW => HPC.out.keep hW.keeps) (fun z n c e hne hb => by
              have hr := HPC.out
              rw [e] at hr
              have hpos : 0 < ((p.drop a).take (tt - a)).length := List.length_pos_iff.2 hne
              obtain ⟨y', e', hcl⟩ := hr.cell (k := 0) rfl hpos
              cases e'
              have := World.block_lt_of_cell? w0 _ hcl
              have h5 : (z.add 0).block = z.block := by simp [Addr.add]
              have := HQ.out
              omega)
          rw [hpt] at hpa
          have hpa2 : Calls Tryz.prog 10 #[.pointer (some ⟨u, 0, none⟩), .int .i64 1, .int .i64 (a : Int), .slice qa (tt - a) (pc - a)] wr.drew (fun e w' => e = .returned (.int .i64 0) ∧ Own w0 w' (tRes w0.heap.size d j t b nmT T' ++ (uRes w0.heap.size d u st t mp ((1 + 1 : Nat) : Int) ([] ++ (⟨((1 : Nat) : Int), rB, 1, p.take tt⟩, sp, q) :: []) ++ [rObj w0.heap.size y (yObj d st t u), rObj w0.heap.size w0.heap.size (.cells ol.toArray 24)]))) := hpa.mono (fun e w' hh => hh)
          have HPA := Lib.hid hpa2
          have HW' := Lib.hid hW'
          have HTT := Lib.hid (And.intro ht1 ht2)
          clear hpa hpa2 hpt hW' hpc hqa hlen ht3 ht1 ht2 e1 HBB
          go_upto_region 14 with fail
          refine wp_region_held_drew (S := (fun W => W.cell? ⟨y, 3, none⟩ = some (.pointer (some ⟨u, 0, none⟩)))) (by kernel_rfl) (by exact y3_of (d := d) (st := st) (t := t) HO.out.drew (by simp)) (fun hHeld => ?_)
          refine wpAnyH_take (i := 0) (oi := { dst := some 80, op := _, type := _, pos := _, after := _, guard := _ }) (v := .pointer (some ⟨y, 0, none⟩)) rfl (by kernel_rfl) (by kernel_rfl) (by kernel_rfl) (fun _ _ _ h => h) (Or.inl ⟨by rfl, by intro w hSw; (try dsimp only at hSw); go_simp⟩) hHeld ?_
          try simp only [Act.put, List.setIfInBounds_toArray, List.set_cons_zero, List.set_cons_succ]
          refine wpAnyH_take (i := 1) (oi := { dst := some 81, op := _, type := _, pos := _, after := _, guard := _ }) (v := .pointer (some ⟨y, 0, none⟩)) rfl (by kernel_rfl) (by kernel_rfl) (by kernel_rfl) (fun _ _ _ h => h) (Or.inl ⟨by rfl, by intro w hSw; (try dsimp only at hSw); go_simp⟩) hHeld ?_
          try simp only [Act.put, List.setIfInBounds_toArray, List.set_cons_zero, List.set_cons_succ]
          refine wpAnyH_take (i := 2) (oi := { dst := some 82, op := _, type := _, pos := _, after := _, guard := _ }) (v := .pointer (some ⟨y, 3, none⟩)) rfl (by kernel_rfl) (by kernel_rfl) (by kernel_rfl) (fun _ _ _ h => h) (Or.inl ⟨by rfl, by intro w hSw; (try dsimp only at hSw); go_simp⟩) hHeld ?_
          try simp only [Act.put, List.setIfInBounds_toArray, List.set_cons_zero, List.set_cons_succ]
          refine wpAnyH_take (i := 3) (oi := { dst := some 83, op := _, type := _, pos := _, after := _, guard := _ }) (v := .pointer (some ⟨u, 0, none⟩)) rfl (by kernel_rfl) (by kernel_rfl) (by kernel_rfl) (fun _ _ _ h => h) (Or.inl ⟨by rfl, by intro w hSw; (try dsimp only at hSw); go_simp⟩) hHeld ?_
          try simp only [Act.put, List.setIfInBounds_toArray, List.set_cons_zero, List.set_cons_succ]
          refine wpAnyH_take (i := 4) (oi := { dst := some 84, op := _, type := _, pos := _, after := _, guard := _ }) (v := .int .i64 1) rfl (by kernel_rfl) (by kernel_rfl) (by kernel_rfl) (fun _ _ _ h => h) (Or.inl ⟨by rfl, by intro w hSw; (try dsimp only at hSw); go_simp⟩) hHeld ?_
          try simp only [Act.put, List.setIfInBounds_toArray, List.set_cons_zero, List.set_cons_succ]
          refine wpAnyH_take (i := 5) (oi := { dst := some 85, op := _, type := _, pos := _, after := _, guard := _ }) (v := .int .i64 (a : Int)) rfl (by kernel_rfl) (by kernel_rfl) (by kernel_rfl) (fun _ _ _ h => h) (Or.inl ⟨by rfl, by intro w hSw; (try dsimp only at hSw); go_simp⟩) hHeld ?_
          try simp only [Act.put, List.setIfInBounds_toArray, List.set_cons_zero, List.set_cons_succ]
          refine wpAnyH_take (i := 6) (oi := { dst := some 86, op := _, type := _, pos := _, after := _, guard := _ }) (v := .slice pa pl pc) rfl (by kernel_rfl) (by kernel_rfl) (by kernel_rfl) (fun _ _ _ h => h) (Or.inl ⟨by rfl, by intro w hSw; (try dsimp only at hSw); go_simp⟩) hHeld ?_
          try simp only [Act.put, List.setIfInBounds_toArray, List.set_cons_zero, List.set_cons_succ]
          refine wpAnyH_take (i := 7) (oi := { dst := some 87, op := _, type := _, pos := _, after := _, guard := _ }) (v := .int .i64 (a : Int)) rfl (by kernel_rfl) (by kernel_rfl) (by kernel_rfl) (fun _ _ _ h => h) (Or.inl ⟨by rfl, by intro w hSw; (try dsimp only at hSw); go_simp⟩) hHeld ?_
          try simp only [Act.put, List.setIfInBounds_toArray, List.set_cons_zero, List.set_cons_succ]
          refine wpAnyH_take (i := 8) (oi := { dst := some 88, op := _, type := _, pos := _, after := _, guard := _ }) (v := .int .i64 (tt : Int)) rfl (by kernel_rfl) (by kernel_rfl) (by kernel_rfl) (fun _ _ _ h => h) (Or.inl ⟨by rfl, by intro w hSw; (try dsimp only at hSw); go_simp⟩) hHeld ?_
          try simp only [Act.put, List.setIfInBounds_toArray, List.set_cons_zero, List.set_cons_succ]
          refine wpAnyH_take (i := 9) (oi := { dst := some 89, op := _, type := _, pos := _, after := _, guard := _ }) (v := .slice qa (tt - a) (pc - a)) rfl (by kernel_rfl) (by kernel_rfl) (by kernel_rfl) (fun _ _ _ h => h) (Or.inl ⟨by rfl, by intro w hSw; (try dsimp only at hSw); go_simp⟩) hHeld ?_
          try simp only [Act.put, List.setIfInBounds_toArray, List.set_cons_zero, List.set_cons_succ]
          refine wpAnyH_ready (rs := [10]) (by kernel_rfl) (by simp) ?_
          refine AllReadyH.cons (o := { dst := some 90, op := _, type := _, pos := _, after := _, guard := _ }) rfl (fun K hK => ?_) AllReadyH.nil
          refine step_wanted' rfl ?_
          go_simp
          go_at_call 10
          refine HPA.out.mono ?_
          rintro e w4 ⟨rfl, h4⟩
          have H4 := Lib.hid h4
          clear h4
          refine hK.out _ _ (by exact y3_of (d := d) (st := st) (t := t) H4.out (by simp)) (fun hHeld1 => ?_)
          clear hK K
          try simp only [Act.put, List.setIfInBounds_toArray, List.set_cons_zero, List.set_cons_succ]
          refine wpAnyH_take (i := 11) (oi := { dst := some 91, op := _, type := _, pos := _, after := _, guard := _ }) (v := .bool false) rfl (by kernel_rfl) (by kernel_rfl) (by kernel_rfl) (fun _ _ _ h => h) (Or.inl ⟨by rfl, by intro w hSw; (try dsimp only at hSw); go_simp⟩) hHeld1 ?_
          try simp only [Act.put, List.setIfInBounds_toArray, List.set_cons_zero, List.set_cons_succ]
          refine wpAnyH_done (by kernel_rfl) ?_ _
          clear hHeld hHeld1 hsl HPA
          have c2 : (i : Int) < 30 := by have := HC.out; omega
          have hrel : WRel w0 p cn d st j t b u mp y w0.heap.size sp q ol (.int .i64 (tt : Int)) (.int .i64 ((i : Int) + 1)) w4 := by
            refine ⟨tt, i + 1, T', rfl, rfl, HW'.out, ?_, ?_, H4.out⟩
            · have h1 := HC.out; have h2 := HI.out.1
              unfold wlast at h2 ⊢; omega
            · intro e
              have h1 := HC.out
              rw [← HPL.out]
              refine HT3.out (fun hh => ?_)
              unfold wlast at e; omega
          have HREL := Lib.hid hrel
          clear hrel H4 HW' HO HW HPC
          go_wp2_with fail
          go_roundw
          case rel => exact HREL.out
          case measure => have := HC.out; simp [intOf]; omega
    · have HI' := Lib.hid (show i ≤ 30 by have := HI.out.1; unfold wlast at this; omega)
      have hfin : a = p.length := by
        have h1 := HI.out
        refine h1.2 ?_
        unfold wlast at h1 ⊢; omega
      subst hfin
      have hcb : ∃ c1 c2 : Bool, decide ((i : Int) ≤ (cn : Int)) = c1 ∧ decide ((i : Int) < 30) = c2 ∧ (c1 && c2) = false := by
        refine ⟨_, _, rfl, rfl, ?_⟩
        rw [Bool.and_eq_false_iff, decide_eq_false_iff_not, decide_eq_false_iff_not]
        omega
      have HCB := Lib.hid hcb
      clear hc hcb
      go_upto_region 9 with fail
      go_cut [52] from 45 to 92 (fun v wx => v = .bool false ∧ wr = wx)
      case first =>
        obtain ⟨c1, c2, e1, e2, e3⟩ := HCB.out
        cases c1 with
        | false =>
          have e1' : ¬ (i : Int) ≤ (cn : Int) := by simpa using e1
          clear e1 e2 e3 HCB
          go_wp2_with fail
          go_meet
          exact ⟨rfl, rfl⟩
        | true =>
          have e1' : (i : Int) ≤ (cn : Int) := by simpa using e1
          have e2' : ¬ (i : Int) < 30 := by
            have : c2 = false := by simpa using e3
            rw [this] at e2
            simpa using e2
          clear e1 e2 e3 HCB
          go_wp2_with fail
          go_meet
          exact ⟨rfl, rfl⟩
      case rest =>
        obtain ⟨rfl, rfl⟩ := hcut
        clear HCB HI j0
        go_wp2_with fail
        have hsm := sum_calls (v := .slice pa p.length pc) (HRD.out.keep HO.out.keeps) (by have := HSM.out; omega)
        obtain ⟨sl, hsl⟩ : ∃ sl : List Value, sl = (sumOf p).map u8v := ⟨_, rfl⟩
        rw [← hsl] at hsm
        rw [← HPL.out] at hsm ⊢
        have HSUM := Lib.hid hsm
        have HSL := Lib.hid hsl
        have h0 := HO.out
        rw [List.take_length] at h0
        have HO := Lib.hid h0
        have HI := Lib.hid (dig_info (ds := sl.toArray) (by rw [hsl]; simp [sumOf_length]))
        have HSI := Lib.hid (show (Tryz.prog.info? 39).map (·.size) = some sl.length by rw [hsl, List.length_map, sumOf_length]; kernel_rfl)
        have HOI := Lib.hid (show (Tryz.prog.info? 24).map (·.size) = some ol.length by rw [HDG.out.2, List.length_map, HDG.out.1]; kernel_rfl)
        have HONE := Lib.hid (show sl.toArray.all (·.oneCell') = true by rw [hsl]; exact bytes_one _)
        have HSZ := Lib.hid (show sl.toArray.size = 32 by rw [hsl]; simp [sumOf_length])
        have HOD := Lib.hid (show ol = dg.map u8v from HDG.out.2)
        have HDL := Lib.hid HDG.out.1
        have heq := fun W => dig_eq dg (sumOf p) HDG.out.1 (sumOf_length _) W
        rw [← hsl, ← HDG.out.2] at heq
        obtain ⟨bb, hbb⟩ : ∃ bb, bb = decide (dg = sumOf p) := ⟨_, rfl⟩
        rw [← hbb] at heq
        have HBB := Lib.hid hbb
        clear hsm hsl h0 hbb HDG
        refine HSUM.out.mono ?_
        rintro e w5 ⟨rfl, hk5⟩
        have H5 := Lib.hid ((HO.out.quiet hk5).endObj (.cells sl.toArray 39))
        clear hk5 HO HSUM
        go_upto_region 18 with (refine wpList_store_row rfl 39 _ _ rfl w5.heap.size sl.toArray rfl rfl 39 _ (heap_alloc_new w5 _) HI.out (by rw [HSZ.out]; kernel_rfl) HONE.out ?_; rw [World.setRow_alloc_new])
        generalize w5.alloc (.cells sl.toArray 39) = w6 at H5 ⊢
        generalize w5.heap.size = bs at H5 ⊢
        simp only [Act.put]
        go_cut [107] from 95 to 173 (fun v wx => v = .bool false ∧ Own w0 wx (tRes w0.heap.size d j t b nmT T ++ (uRes w0.heap.size d u st t mp ((1 + 1 : Nat) : Int) ([] ++ (⟨((1 : Nat) : Int), rB, 1, p⟩, sp, q) :: []) ++ [rObj w0.heap.size bs (.cells sl.toArray 39), rObj w0.heap.size y (yObj d st t u), rObj w0.heap.size w0.heap.size (.cells ol.toArray 24)])))
        case first =>
          cases bb with
          | true =>
            refine wp_region_held_drew (S := UWs y st u w0.heap.size bs ol sl) (by kernel_rfl) (by exact UWs.of (d := d) (t := t) H5.out.drew (by simp) (by simp) (by simp)) (fun hHeld => ?_)
            have H6 := Lib.hid H5.out.drew
            clear H5
            refine wpAnyH_take (i := 0) (oi := { dst := some 95, op := _, type := _, pos := _, after := _, guard := _ }) (v := .agg (ol).toArray) rfl (by kernel_rfl) (by kernel_rfl) (by kernel_rfl) (fun _ _ _ h => h) (yieldsIf_load_mid (by rfl) _ _ rfl (w0.heap.size) (0) rfl (ol) _ (fun w' hk => hk.2.1) Tryz.underlying24 rfl HOI.out) hHeld ?_
            try simp only [Act.put, List.setIfInBounds_toArray, List.set_cons_zero, List.set_cons_succ]
            refine wpAnyH_take (i := 1) (oi := { dst := some 96, op := _, type := _, pos := _, after := _, guard := _ }) (v := .agg (sl).toArray) rfl (by kernel_rfl) (by kernel_rfl) (by kernel_rfl) (fun _ _ _ h => h) (yieldsIf_load_mid (by rfl) _ _ rfl (bs) (0) rfl (sl) _ (fun w' hk => hk.2.2) Tryz.underlying39 rfl HSI.out) hHeld ?_
            try simp only [Act.put, List.setIfInBounds_toArray, List.set_cons_zero, List.set_cons_succ]
            refine wpAnyH_take (i := 2) (oi := { dst := some 97, op := _, type := _, pos := _, after := _, guard := _ }) (v := .bool false) rfl (by kernel_rfl) (by kernel_rfl) (by kernel_rfl) (fun _ _ _ h => h) (Or.inl ⟨by rfl, by intro w hSw; (try dsimp only at hSw); go_simp⟩) hHeld ?_
            try simp only [Act.put, List.setIfInBounds_toArray, List.set_cons_zero, List.set_cons_succ]
            refine wpAnyH_take (i := 3) (oi := { dst := some 98, op := _, type := _, pos := _, after := _, guard := _ }) (v := .bool false) rfl (by kernel_rfl) (by kernel_rfl) (by kernel_rfl) (fun _ _ _ h => h) (Or.inl ⟨by rfl, by intro w hSw; (try dsimp only at hSw); go_simp⟩) hHeld ?_
            try simp only [Act.put, List.setIfInBounds_toArray, List.set_cons_zero, List.set_cons_succ]
            refine wpAnyH_take (i := 4) (oi := { dst := some 99, op := _, type := _, pos := _, after := _, guard := _ }) (v := undef) rfl (by kernel_rfl) (by kernel_rfl) (by kernel_rfl) (fun _ _ _ h => h) (Or.inr ⟨by kernel_rfl, rfl⟩) hHeld ?_
            try simp only [Act.put, List.setIfInBounds_toArray, List.set_cons_zero, List.set_cons_succ]
            refine wpAnyH_take (i := 5) (oi := { dst := some 100, op := _, type := _, pos := _, after := _, guard := _ }) (v := undef) rfl (by kernel_rfl) (by kernel_rfl) (by kernel_rfl) (fun _ _ _ h => h) (Or.inr ⟨by kernel_rfl, rfl⟩) hHeld ?_
            try simp only [Act.put, List.setIfInBounds_toArray, List.set_cons_zero, List.set_cons_succ]
            refine wpAnyH_take (i := 6) (oi := { dst := some 101, op := _, type := _, pos := _, after := _, guard := _ }) (v := undef) rfl (by kernel_rfl) (by kernel_rfl) (by kernel_rfl) (fun _ _ _ h => h) (Or.inr ⟨by kernel_rfl, rfl⟩) hHeld ?_
            try simp only [Act.put, List.setIfInBounds_toArray, List.set_cons_zero, List.set_cons_succ]
            refine wpAnyH_take (i := 7) (oi := { dst := some 102, op := _, type := _, pos := _, after := _, guard := _ }) (v := undef) rfl (by kernel_rfl) (by kernel_rfl) (by kernel_rfl) (fun _ _ _ h => h) (Or.inr ⟨by kernel_rfl, rfl⟩) hHeld ?_
            try simp only [Act.put, List.setIfInBounds_toArray, List.set_cons_zero, List.set_cons_succ]
            refine wpAnyH_take (i := 8) (oi := { dst := some 103, op := _, type := _, pos := _, after := _, guard := _ }) (v := undef) rfl (by kernel_rfl) (by kernel_rfl) (by kernel_rfl) (fun _ _ _ h => h) (Or.inr ⟨by kernel_rfl, rfl⟩) hHeld ?_
            try simp only [Act.put, List.setIfInBounds_toArray, List.set_cons_zero, List.set_cons_succ]
            refine wpAnyH_take (i := 9) (oi := { dst := some 104, op := _, type := _, pos := _, after := _, guard := _ }) (v := undef) rfl (by kernel_rfl) (by kernel_rfl) (by kernel_rfl) (fun _ _ _ h => h) (Or.inr ⟨by kernel_rfl, rfl⟩) hHeld ?_
            try simp only [Act.put, List.setIfInBounds_toArray, List.set_cons_zero, List.set_cons_succ]
            refine wpAnyH_take (i := 10) (oi := { dst := some 105, op := _, type := _, pos := _, after := _, guard := _ }) (v := undef) rfl (by kernel_rfl) (by kernel_rfl) (by kernel_rfl) (fun _ _ _ h => h) (Or.inr ⟨by kernel_rfl, rfl⟩) hHeld ?_
            try simp only [Act.put, List.setIfInBounds_toArray, List.set_cons_zero, List.set_cons_succ]
            refine wpAnyH_take (i := 11) (oi := { dst := some 106, op := _, type := _, pos := _, after := _, guard := _ }) (v := undef) rfl (by kernel_rfl) (by kernel_rfl) (by kernel_rfl) (fun _ _ _ h => h) (Or.inr ⟨by kernel_rfl, rfl⟩) hHeld ?_
            try simp only [Act.put, List.setIfInBounds_toArray, List.set_cons_zero, List.set_cons_succ]
            refine wpAnyH_take (i := 12) (oi := { dst := some 107, op := _, type := _, pos := _, after := _, guard := _ }) (v := .bool false) rfl (by kernel_rfl) (by kernel_rfl) (by kernel_rfl) (fun _ _ _ h => h) (Or.inl ⟨by rfl, by intro w hSw; (try dsimp only at hSw); go_simp⟩) hHeld ?_
            try simp only [Act.put, List.setIfInBounds_toArray, List.set_cons_zero, List.set_cons_succ]
            refine wpAnyH_done (by kernel_rfl) ?_ _
            go_wp2_with fail
            go_meet
            exact ⟨rfl, H6.out⟩
          | false =>
            have hne : ¬ sumOf p = dg := fun e => by
              have := of_decide_eq_false HBB.out.symm
              exact this e.symm
            have hfo : finishOf T nmT (ukeyOf 1) ⟨((1 : Nat) : Int), rB, 1, p⟩ dg = (20, T, false) := by
              unfold finishOf
              rw [if_neg hne]
            have HFIN := Lib.hid (show ∀ W (M : List (Res w0.heap.size)), Own w0 W (tRes w0.heap.size d j t b nmT T ++ (uRes w0.heap.size d u st t mp ((1 + 1 : Nat) : Int) ([] ++ (⟨((1 : Nat) : Int), rB, 1, p⟩, sp, q) :: []) ++ M)) → Calls Tryz.prog 12 #[.pointer (some ⟨u, 0, none⟩), .int .i64 1, .agg ol.toArray, .slice none 0 0] W (fun e w' => e = .returned (.int .i64 20) ∧ Own w0 w' (tRes w0.heap.size d j t b nmT T ++ (uRes w0.heap.size d u st t mp ((1 + 1 : Nat) : Int) ([] ++ (⟨((1 : Nat) : Int), rB, 1, p⟩, sp, q) :: []) ++ M))) from fun W M hW => by
              rw [HOD.out]
              have := ufinish_calls (L1 := []) (L2 := []) hW (by simp [uget]) (by simp) HW.out.good (by have := HI'.out; omega) (by have := HW.out.size; omega) (nx := 1) rfl (by omega) (by have := HSM.out; dsimp only; omega) (show (0 : Int) ≤ 1 ∧ (1 : Int) ≤ 1099511627776 by decide) (show rB.size ≤ 128 by decide) HDL.out
              rw [hfo] at this
              exact this.mono (fun e w' hh => hh))
            clear hne hfo
            refine wp_region_held_drew (S := UWs y st u w0.heap.size bs ol sl) (by kernel_rfl) (by exact UWs.of (d := d) (t := t) H5.out.drew (by simp) (by simp) (by simp)) (fun hHeld => ?_)
            have H6 := Lib.hid H5.out.drew
            clear H5
            refine wpAnyH_take (i := 0) (oi := { dst := some 95, op := _, type := _, pos := _, after := _, guard := _ }) (v := .agg (ol).toArray) rfl (by kernel_rfl) (by kernel_rfl) (by kernel_rfl) (fun _ _ _ h => h) (yieldsIf_load_mid (by rfl) _ _ rfl (w0.heap.size) (0) rfl (ol) _ (fun w' hk => hk.2.1) Tryz.underlying24 rfl HOI.out) hHeld ?_
            try simp only [Act.put, List.setIfInBounds_toArray, List.set_cons_zero, List.set_cons_succ]
            refine wpAnyH_take (i := 1) (oi := { dst := some 96, op := _, type := _, pos := _, after := _, guard := _ }) (v := .agg (sl).toArray) rfl (by kernel_rfl) (by kernel_rfl) (by kernel_rfl) (fun _ _ _ h => h) (yieldsIf_load_mid (by rfl) _ _ rfl (bs) (0) rfl (sl) _ (fun w' hk => hk.2.2) Tryz.underlying39 rfl HSI.out) hHeld ?_
            try simp only [Act.put, List.setIfInBounds_toArray, List.set_cons_zero, List.set_cons_succ]
            refine wpAnyH_take (i := 2) (oi := { dst := some 97, op := _, type := _, pos := _, after := _, guard := _ }) (v := .bool true) rfl (by kernel_rfl) (by kernel_rfl) (by kernel_rfl) (fun _ _ _ h => h) (Or.inl ⟨by rfl, by intro w hSw; (try dsimp only at hSw); go_simp⟩) hHeld ?_
            try simp only [Act.put, List.setIfInBounds_toArray, List.set_cons_zero, List.set_cons_succ]
            refine wpAnyH_take (i := 3) (oi := { dst := some 98, op := _, type := _, pos := _, after := _, guard := _ }) (v := .bool true) rfl (by kernel_rfl) (by kernel_rfl) (by kernel_rfl) (fun _ _ _ h => h) (Or.inl ⟨by rfl, by intro w hSw; (try dsimp only at hSw); go_simp⟩) hHeld ?_
            try simp only [Act.put, List.setIfInBounds_toArray, List.set_cons_zero, List.set_cons_succ]
            refine wpAnyH_take (i := 4) (oi := { dst := some 99, op := _, type := _, pos := _, after := _, guard := _ }) (v := .pointer (some ⟨y, 0, none⟩)) rfl (by kernel_rfl) (by kernel_rfl) (by kernel_rfl) (fun _ _ _ h => h) (Or.inl ⟨by rfl, by intro w hSw; (try dsimp only at hSw); go_simp⟩) hHeld ?_
            try simp only [Act.put, List.setIfInBounds_toArray, List.set_cons_zero, List.set_cons_succ]
            refine wpAnyH_take (i := 5) (oi := { dst := some 100, op := _, type := _, pos := _, after := _, guard := _ }) (v := .pointer (some ⟨y, 0, none⟩)) rfl (by kernel_rfl) (by kernel_rfl) (by kernel_rfl) (fun _ _ _ h => h) (Or.inl ⟨by rfl, by intro w hSw; (try dsimp only at hSw); go_simp⟩) hHeld ?_
            try simp only [Act.put, List.setIfInBounds_toArray, List.set_cons_zero, List.set_cons_succ]
            refine wpAnyH_take (i := 6) (oi := { dst := some 101, op := _, type := _, pos := _, after := _, guard := _ }) (v := .pointer (some ⟨y, 3, none⟩)) rfl (by kernel_rfl) (by kernel_rfl) (by kernel_rfl) (fun _ _ _ h => h) (Or.inl ⟨by rfl, by intro w hSw; (try dsimp only at hSw); go_simp⟩) hHeld ?_
            try simp only [Act.put, List.setIfInBounds_toArray, List.set_cons_zero, List.set_cons_succ]
            refine wpAnyH_take (i := 7) (oi := { dst := some 102, op := _, type := _, pos := _, after := _, guard := _ }) (v := .pointer (some ⟨u, 0, none⟩)) rfl (by kernel_rfl) (by kernel_rfl) (by kernel_rfl) (fun _ _ _ h => h) (Or.inl ⟨by rfl, by intro w hSw; (try dsimp only at hSw); (have q0 := hSw.1.2; go_simp)⟩) hHeld ?_
            try simp only [Act.put, List.setIfInBounds_toArray, List.set_cons_zero, List.set_cons_succ]
            refine wpAnyH_take (i := 8) (oi := { dst := some 103, op := _, type := _, pos := _, after := _, guard := _ }) (v := .int .i64 1) rfl (by kernel_rfl) (by kernel_rfl) (by kernel_rfl) (fun _ _ _ h => h) (Or.inl ⟨by rfl, by intro w hSw; (try dsimp only at hSw); go_simp⟩) hHeld ?_
            try simp only [Act.put, List.setIfInBounds_toArray, List.set_cons_zero, List.set_cons_succ]
            refine wpAnyH_take (i := 9) (oi := { dst := some 104, op := _, type := _, pos := _, after := _, guard := _ }) (v := .agg (ol).toArray) rfl (by kernel_rfl) (by kernel_rfl) (by kernel_rfl) (fun _ _ _ h => h) (yieldsIf_load_mid (by rfl) _ _ rfl (w0.heap.size) (0) rfl (ol) _ (fun w' hk => hk.2.1) Tryz.underlying24 rfl HOI.out) hHeld ?_
            try simp only [Act.put, List.setIfInBounds_toArray, List.set_cons_zero, List.set_cons_succ]
            refine wpAnyH_ready (rs := [10]) (by kernel_rfl) (by simp) ?_
            refine AllReadyH.cons (o := { dst := some 105, op := _, type := _, pos := _, after := _, guard := _ }) rfl (fun K hK => ?_) AllReadyH.nil
            go_simp
            go_at_call 12
            refine (HFIN.out _ _ H6.out).mono ?_
            rintro e w7 ⟨rfl, h7⟩
            have H7 := Lib.hid h7
            clear h7
            refine hK.out _ _ (by exact UWs.of (d := d) (t := t) H7.out (by simp) (by simp) (by simp)) (fun hHeld1 => ?_)
            clear hK K
            try simp only [Act.put, List.setIfInBounds_toArray, List.set_cons_zero, List.set_cons_succ]
            refine wpAnyH_take (i := 11) (oi := { dst := some 106, op := _, type := _, pos := _, after := _, guard := _ }) (v := .bool false) rfl (by kernel_rfl) (by kernel_rfl) (by kernel_rfl) (fun _ _ _ h => h) (Or.inl ⟨by rfl, by intro w hSw; (try dsimp only at hSw); go_simp⟩) hHeld1 ?_
            try simp only [Act.put, List.setIfInBounds_toArray, List.set_cons_zero, List.set_cons_succ]
            refine wpAnyH_take (i := 12) (oi := { dst := some 107, op := _, type := _, pos := _, after := _, guard := _ }) (v := .bool false) rfl (by kernel_rfl) (by kernel_rfl) (by kernel_rfl) (fun _ _ _ h => h) (Or.inl ⟨by rfl, by intro w hSw; (try dsimp only at hSw); go_simp⟩) hHeld1 ?_
            try simp only [Act.put, List.setIfInBounds_toArray, List.set_cons_zero, List.set_cons_succ]
            refine wpAnyH_done (by kernel_rfl) ?_ _
            go_wp2_with fail
            go_meet
            exact ⟨rfl, H7.out⟩
        case rest =>
          obtain ⟨rfl, hcut⟩ := hcut
          have HC7 := Lib.hid hcut
          clear hcut heq H5 HBB HOI HOD HDL
          have k3 := y3_of (y := y) (u := u) (d := d) (st := st) (t := t) HC7.out (by simp)
          have hlk := ulook_calls (L1 := []) (L2 := []) HC7.out (by simp [uget])
          have hlk2 : Calls Tryz.prog 13 #[.pointer (some ⟨u, 0, none⟩), .int .i64 1] wc (QuietP wc (.tuple #[.agg #[.string rB, .int .i64 1, .int .i64 (pl : Int)], .int .i64 0])) := by
            have e : (pl : Int) = ((p.length : Nat) : Int) := by rw [HPL.out]
            rw [e]
            exact hlk
          have HLK := Lib.hid hlk2
          clear hlk hlk2
          obtain ⟨T3, hf3, hg3, hrc, hrb⟩ := HW.out.finish HSM.out
          have HFIN := Lib.hid (show ∀ W (M : List (Res w0.heap.size)), Own w0 W (tRes w0.heap.size d j t b nmT T ++ (uRes w0.heap.size d u st t mp ((1 + 1 : Nat) : Int) ([] ++ (⟨((1 : Nat) : Int), rB, 1, p⟩, sp, q) :: []) ++ M)) → Calls Tryz.prog 12 #[.pointer (some ⟨u, 0, none⟩), .int .i64 1, .agg sl.toArray, .slice none 0 0] W (fun e w' => e = .returned (.int .i64 0) ∧ Own w0 w' (tRes w0.heap.size d j t b nmT T3 ++ (uRes w0.heap.size d u st t mp ((1 + 1 : Nat) : Int) [] ++ M))) from fun W M hW => by
            rw [HSL.out]
            have := ufinish_calls (L1 := []) (L2 := []) hW (by simp [uget]) (by simp) HW.out.good (by have := HI'.out; omega) (by have := HW.out.size; omega) (nx := 1) rfl (by omega) (by have := HSM.out; dsimp only; omega) (show (0 : Int) ≤ 1 ∧ (1 : Int) ≤ 1099511627776 by decide) (show rB.size ≤ 128 by decide) (sumOf_length p)
            rw [hf3] at this
            exact this.mono (fun e w' hh => hh))
          have HREA := Lib.hid (show ∀ W (M : List (Res w0.heap.size)), Own w0 W (tRes w0.heap.size d j t b nmT T3 ++ (uRes w0.heap.size d u st t mp ((1 + 1 : Nat) : Int) [] ++ M)) → Calls Tryz.prog 14 #[.pointer (some ⟨st, 0, none⟩), .agg sl.toArray, .int .i64 0, .int .i64 (pl : Int)] W (fun e w' => ∃ va vc, e = .returned (.tuple #[.slice va pl vc, .int .i64 0]) ∧ Reads w' (.slice va pl vc) p ∧ Keeps (fun _ => False) W w') from fun W M hW => by
            rw [HSL.out, HPL.out]
            have := bread_calls (st := st) hW (by simp [uRes, stObj1]) (sumOf_length p) 0 (p.length : Int) hg3
            rw [hrc, hrb] at this
            refine this.mono ?_
            rintro e w' ⟨v, he, hr, hk⟩
            obtain ⟨va, vc, rfl, -, -⟩ := hr.form
            exact ⟨va, vc, he, hr, hk⟩)
          have HFG := Lib.hid (show ∀ W (M : List (Res w0.heap.size)), Own w0 W (tRes w0.heap.size d j t b nmT T3 ++ (uRes w0.heap.size d u st t mp ((1 + 1 : Nat) : Int) [] ++ M)) → Calls Tryz.prog 12 #[.pointer (some ⟨u, 0, none⟩), .int .i64 1, .agg sl.toArray, .slice none 0 0] W (QuietP W (.int .i64 6)) from fun W M hW => ufinish_gone hW (by simp [uget]) sl (.slice none 0 0))
          have HPG := Lib.hid (show ∀ W (M : List (Res w0.heap.size)), Own w0 W (tRes w0.heap.size d j t b nmT T3 ++ (uRes w0.heap.size d u st t mp ((1 + 1 : Nat) : Int) [] ++ M)) → Runs 10 #[.pointer (some ⟨u, 0, none⟩), .int .i64 1, .int .i64 (pl : Int), .slice none 0 0] W (.int .i64 6) W from fun W M hW => upatch_gone hW (by simp [uget]) (pl : Int) (.slice none 0 0))
          clear hf3 hg3 hrc hrb
          go_wp2_with fail
          refine HLK.out.mono ?_
          rintro e w8 ⟨rfl, hk8⟩
          have h9 := (HC7.out.quiet hk8).endObj (.cells #[.string rB, .int .i64 1, .int .i64 (pl : Int)] 43)
          have H9 := Lib.hid h9
          clear hk8 h9 HC7 HLK k3
          go_upto_region 21 with fail
          generalize w8.alloc (.cells #[.string rB, .int .i64 1, .int .i64 (pl : Int)] 43) = w9 at *
          generalize w8.heap.size = bx at *
          refine wp_region_held_drew (S := (fun W => UWs y st u w0.heap.size bs ol sl W ∧ W.cell? ⟨bx, 2, none⟩ = some (.int .i64 (pl : Int)))) (by kernel_rfl) (by exact ⟨UWs.of (d := d) (t := t) H9.out.drew (by simp) (by simp) (by simp), cell_at (i := 2) (H9.out.drew.at (b := bx) (o := .cells #[.string rB, .int .i64 1, .int .i64 (pl : Int)] 43) (by simp)).1 rfl⟩) (fun hHeld => ?_)
          have H10 := Lib.hid H9.out.drew
          clear H9
          refine wpAnyH_take (i := 0) (oi := { dst := some 117, op := _, type := _, pos := _, after := _, guard := _ }) (v := .int .i64 0) rfl (by kernel_rfl) (by kernel_rfl) (by kernel_rfl) (fun _ _ _ h => h) (Or.inl ⟨by rfl, by intro w hSw; (try dsimp only at hSw); go_simp⟩) hHeld ?_
          try simp only [Act.put, List.setIfInBounds_toArray, List.set_cons_zero, List.set_cons_succ]
          refine wpAnyH_take (i := 1) (oi := { dst := some 118, op := _, type := _, pos := _, after := _, guard := _ }) (v := .bool false) rfl (by kernel_rfl) (by kernel_rfl) (by kernel_rfl) (fun _ _ _ h => h) (Or.inl ⟨by rfl, by intro w hSw; (try dsimp only at hSw); go_simp⟩) hHeld ?_
          try simp only [Act.put, List.setIfInBounds_toArray, List.set_cons_zero, List.set_cons_succ]
          refine wpAnyH_take (i := 2) (oi := { dst := some 119, op := _, type := _, pos := _, after := _, guard := _ }) (v := .bool false) rfl (by kernel_rfl) (by kernel_rfl) (by kernel_rfl) (fun _ _ _ h => h) (Or.inl ⟨by rfl, by intro w hSw; (try dsimp only at hSw); go_simp⟩) hHeld ?_
          try simp only [Act.put, List.setIfInBounds_toArray, List.set_cons_zero, List.set_cons_succ]
          refine wpAnyH_take (i := 3) (oi := { dst := some 120, op := _, type := _, pos := _, after := _, guard := _ }) (v := .pointer (some ⟨bx, 2, none⟩)) rfl (by kernel_rfl) (by kernel_rfl) (by kernel_rfl) (fun _ _ _ h => h) (Or.inl ⟨by rfl, by intro w hSw; (try dsimp only at hSw); go_simp⟩) hHeld ?_
          try simp only [Act.put, List.setIfInBounds_toArray, List.set_cons_zero, List.set_cons_succ]
          refine wpAnyH_take (i := 4) (oi := { dst := some 121, op := _, type := _, pos := _, after := _, guard := _ }) (v := .int .i64 (pl : Int)) rfl (by kernel_rfl) (by kernel_rfl) (by kernel_rfl) (fun _ _ _ h => h) (Or.inl ⟨by rfl, by intro w hSw; (try dsimp only at hSw); (have q0 := hSw.2; go_simp)⟩) hHeld ?_
          try simp only [Act.put, List.setIfInBounds_toArray, List.set_cons_zero, List.set_cons_succ]
          refine wpAnyH_take (i := 5) (oi := { dst := some 122, op := _, type := _, pos := _, after := _, guard := _ }) (v := .slice pa pl pc) rfl (by kernel_rfl) (by kernel_rfl) (by kernel_rfl) (fun _ _ _ h => h) (Or.inl ⟨by rfl, by intro w hSw; (try dsimp only at hSw); go_simp⟩) hHeld ?_
          try simp only [Act.put, List.setIfInBounds_toArray, List.set_cons_zero, List.set_cons_succ]
          refine wpAnyH_take (i := 6) (oi := { dst := some 123, op := _, type := _, pos := _, after := _, guard := _ }) (v := .int .i64 (pl : Int)) rfl (by kernel_rfl) (by kernel_rfl) (by kernel_rfl) (fun _ _ _ h => h) (Or.inl ⟨by rfl, by intro w hSw; (try dsimp only at hSw); go_simp⟩) hHeld ?_
          try simp only [Act.put, List.setIfInBounds_toArray, List.set_cons_zero, List.set_cons_succ]
          refine wpAnyH_take (i := 7) (oi := { dst := some 124, op := _, type := _, pos := _, after := _, guard := _ }) (v := .bool false) rfl (by kernel_rfl) (by kernel_rfl) (by kernel_rfl) (fun _ _ _ h => h) (Or.inl ⟨by rfl, by intro w hSw; (try dsimp only at hSw); go_simp⟩) hHeld ?_
          try simp only [Act.put, List.setIfInBounds_toArray, List.set_cons_zero, List.set_cons_succ]
          refine wpAnyH_take (i := 8) (oi := { dst := some 125, op := _, type := _, pos := _, after := _, guard := _ }) (v := .bool false) rfl (by kernel_rfl) (by kernel_rfl) (by kernel_rfl) (fun _ _ _ h => h) (Or.inl ⟨by rfl, by intro w hSw; (try dsimp only at hSw); go_simp⟩) hHeld ?_
          try simp only [Act.put, List.setIfInBounds_toArray, List.set_cons_zero, List.set_cons_succ]
          refine wpAnyH_take (i := 9) (oi := { dst := some 126, op := _, type := _, pos := _, after := _, guard := _ }) (v := .bool false) rfl (by kernel_rfl) (by kernel_rfl) (by kernel_rfl) (fun _ _ _ h => h) (Or.inl ⟨by rfl, by intro w hSw; (try dsimp only at hSw); go_simp⟩) hHeld ?_
          try simp only [Act.put, List.setIfInBounds_toArray, List.set_cons_zero, List.set_cons_succ]
          refine wpAnyH_take (i := 10) (oi := { dst := some 127, op := _, type := _, pos := _, after := _, guard := _ }) (v := .pointer (some ⟨y, 0, none⟩)) rfl (by kernel_rfl) (by kernel_rfl) (by kernel_rfl) (fun _ _ _ h => h) (Or.inl ⟨by rfl, by intro w hSw; (try dsimp only at hSw); go_simp⟩) hHeld ?_
          try simp only [Act.put, List.setIfInBounds_toArray, List.set_cons_zero, List.set_cons_succ]
          refine wpAnyH_take (i := 11) (oi := { dst := some 128, op := _, type := _, pos := _, after := _, guard := _ }) (v := .pointer (some ⟨y, 0, none⟩)) rfl (by kernel_rfl) (by kernel_rfl) (by kernel_rfl) (fun _ _ _ h => h) (Or.inl ⟨by rfl, by intro w hSw; (try dsimp only at hSw); go_simp⟩) hHeld ?_
          try simp only [Act.put, List.setIfInBounds_toArray, List.set_cons_zero, List.set_cons_succ]
          refine wpAnyH_take (i := 12) (oi := { dst := some 129, op := _, type := _, pos := _, after := _, guard := _ }) (v := .pointer (some ⟨y, 3, none⟩)) rfl (by kernel_rfl) (by kernel_rfl) (by kernel_rfl) (fun _ _ _ h => h) (Or.inl ⟨by rfl, by intro w hSw; (try dsimp only at hSw); go_simp⟩) hHeld ?_
          try simp only [Act.put, List.setIfInBounds_toArray, List.set_cons_zero, List.set_cons_succ]
          refine wpAnyH_take (i := 13) (oi := { dst := some 130, op := _, type := _, pos := _, after := _, guard := _ }) (v := .pointer (some ⟨u, 0, none⟩)) rfl (by kernel_rfl) (by kernel_rfl) (by kernel_rfl) (fun _ _ _ h => h) (Or.inl ⟨by rfl, by intro w hSw; (try dsimp only at hSw); (have q0 := hSw.1.1.2; go_simp)⟩) hHeld ?_
          try simp only [Act.put, List.setIfInBounds_toArray, List.set_cons_zero, List.set_cons_succ]
          refine wpAnyH_take (i := 14) (oi := { dst := some 131, op := _, type := _, pos := _, after := _, guard := _ }) (v := .int .i64 1) rfl (by kernel_rfl) (by kernel_rfl) (by kernel_rfl) (fun _ _ _ h => h) (Or.inl ⟨by rfl, by intro w hSw; (try dsimp only at hSw); go_simp⟩) hHeld ?_
          try simp only [Act.put, List.setIfInBounds_toArray, List.set_cons_zero, List.set_cons_succ]
          refine wpAnyH_take (i := 15) (oi := { dst := some 132, op := _, type := _, pos := _, after := _, guard := _ }) (v := .agg (sl).toArray) rfl (by kernel_rfl) (by kernel_rfl) (by kernel_rfl) (fun _ _ _ h => h) (yieldsIf_load_mid (by rfl) _ _ rfl (bs) (0) rfl (sl) _ (fun w' hk => hk.1.2.2) Tryz.underlying39 rfl HSI.out) hHeld ?_
          try simp only [Act.put, List.setIfInBounds_toArray, List.set_cons_zero, List.set_cons_succ]
          refine wpAnyH_ready (rs := [16]) (by kernel_rfl) (by simp) ?_
          refine AllReadyH.cons (o := { dst := some 133, op := _, type := _, pos := _, after := _, guard := _ }) rfl (fun K hK => ?_) AllReadyH.nil
          go_simp
          go_at_call 12
          refine (HFIN.out _ _ H10.out).mono ?_
          rintro e w11 ⟨rfl, h11⟩
          have H11 := Lib.hid h11
          clear h11
          refine hK.out _ _ (by exact ⟨UWs.of (d := d) (t := t) H11.out (by simp) (by simp) (by simp), cell_at (i := 2) (H11.out.at (b := bx) (o := .cells #[.string rB, .int .i64 1, .int .i64 (pl : Int)] 43) (by simp)).1 rfl⟩) (fun hHeld1 => ?_)
          clear hK K
          try simp only [Act.put, List.setIfInBounds_toArray, List.set_cons_zero, List.set_cons_succ]
          refine wpAnyH_take (i := 17) (oi := { dst := some 134, op := _, type := _, pos := _, after := _, guard := _ }) (v := .bool false) rfl (by kernel_rfl) (by kernel_rfl) (by kernel_rfl) (fun _ _ _ h => h) (Or.inl ⟨by rfl, by intro w hSw; (try dsimp only at hSw); go_simp⟩) hHeld1 ?_
          try simp only [Act.put, List.setIfInBounds_toArray, List.set_cons_zero, List.set_cons_succ]
          refine wpAnyH_take (i := 18) (oi := { dst := some 135, op := _, type := _, pos := _, after := _, guard := _ }) (v := .bool false) rfl (by kernel_rfl) (by kernel_rfl) (by kernel_rfl) (fun _ _ _ h => h) (Or.inl ⟨by rfl, by intro w hSw; (try dsimp only at hSw); go_simp⟩) hHeld1 ?_
          try simp only [Act.put, List.setIfInBounds_toArray, List.set_cons_zero, List.set_cons_succ]
          refine wpAnyH_done (by kernel_rfl) ?_ _
          clear hHeld hHeld1 HFIN H10
          go_upto_region 23 with fail
          refine wp_region_held_drew (S := UWs y st u w0.heap.size bs ol sl) (by kernel_rfl) (by exact UWs.of (d := d) (t := t) H11.out.drew (by simp) (by simp) (by simp)) (fun hHeld => ?_)
          have H12 := Lib.hid H11.out.drew
          clear H11
          refine wpAnyH_take (i := 0) (oi := { dst := some 137, op := _, type := _, pos := _, after := _, guard := _ }) (v := .pointer (some ⟨y, 0, none⟩)) rfl (by kernel_rfl) (by kernel_rfl) (by kernel_rfl) (fun _ _ _ h => h) (Or.inl ⟨by rfl, by intro w hSw; (try dsimp only at hSw); go_simp⟩) hHeld ?_
          try simp only [Act.put, List.setIfInBounds_toArray, List.set_cons_zero, List.set_cons_succ]
          refine wpAnyH_take (i := 1) (oi := { dst := some 138, op := _, type := _, pos := _, after := _, guard := _ }) (v := .pointer (some ⟨y, 0, none⟩)) rfl (by kernel_rfl) (by kernel_rfl) (by kernel_rfl) (fun _ _ _ h => h) (Or.inl ⟨by rfl, by intro w hSw; (try dsimp only at hSw); go_simp⟩) hHeld ?_
          try simp only [Act.put, List.setIfInBounds_toArray, List.set_cons_zero, List.set_cons_succ]
          refine wpAnyH_take (i := 2) (oi := { dst := some 139, op := _, type := _, pos := _, after := _, guard := _ }) (v := .pointer (some ⟨y, 1, none⟩)) rfl (by kernel_rfl) (by kernel_rfl) (by kernel_rfl) (fun _ _ _ h => h) (Or.inl ⟨by rfl, by intro w hSw; (try dsimp only at hSw); go_simp⟩) hHeld ?_
          try simp only [Act.put, List.setIfInBounds_toArray, List.set_cons_zero, List.set_cons_succ]
          refine wpAnyH_take (i := 3) (oi := { dst := some 140, op := _, type := _, pos := _, after := _, guard := _ }) (v := .pointer (some ⟨st, 0, none⟩)) rfl (by kernel_rfl) (by kernel_rfl) (by kernel_rfl) (fun _ _ _ h => h) (Or.inl ⟨by rfl, by intro w hSw; (try dsimp only at hSw); (have q0 := hSw.1.1; go_simp)⟩) hHeld ?_
          try simp only [Act.put, List.setIfInBounds_toArray, List.set_cons_zero, List.set_cons_succ]
          refine wpAnyH_take (i := 4) (oi := { dst := some 141, op := _, type := _, pos := _, after := _, guard := _ }) (v := .agg (sl).toArray) rfl (by kernel_rfl) (by kernel_rfl) (by kernel_rfl) (fun _ _ _ h => h) (yieldsIf_load_mid (by rfl) _ _ rfl (bs) (0) rfl (sl) _ (fun w' hk => hk.2.2) Tryz.underlying39 rfl HSI.out) hHeld ?_
          try simp only [Act.put, List.setIfInBounds_toArray, List.set_cons_zero, List.set_cons_succ]
          refine wpAnyH_take (i := 5) (oi := { dst := some 142, op := _, type := _, pos := _, after := _, guard := _ }) (v := .slice pa pl pc) rfl (by kernel_rfl) (by kernel_rfl) (by kernel_rfl) (fun _ _ _ h => h) (Or.inl ⟨by rfl, by intro w hSw; (try dsimp only at hSw); go_simp⟩) hHeld ?_
          try simp only [Act.put, List.setIfInBounds_toArray, List.set_cons_zero, List.set_cons_succ]
          refine wpAnyH_take (i := 6) (oi := { dst := some 143, op := _, type := _, pos := _, after := _, guard := _ }) (v := .int .i64 (pl : Int)) rfl (by kernel_rfl) (by kernel_rfl) (by kernel_rfl) (fun _ _ _ h => h) (Or.inl ⟨by rfl, by intro w hSw; (try dsimp only at hSw); go_simp⟩) hHeld ?_
          try simp only [Act.put, List.setIfInBounds_toArray, List.set_cons_zero, List.set_cons_succ]
          refine wpAnyH_ready (rs := [7]) (by kernel_rfl) (by simp) ?_
          refine AllReadyH.cons (o := { dst := some 144, op := _, type := _, pos := _, after := _, guard := _ }) rfl (fun K hK => ?_) AllReadyH.nil
          refine step_wanted' rfl ?_
          go_simp
          go_at_call 14
          refine (HREA.out _ _ H12.out).mono ?_
          rintro e w13 ⟨va, vc, rfl, hrv, hk13⟩
          have H13 := Lib.hid (H12.out.quiet hk13)
          have HRV := Lib.hid hrv
          clear hk13 hrv
          refine hK.out _ _ (by exact UWs.of (d := d) (t := t) H13.out (by simp) (by simp) (by simp)) (fun hHeld1 => ?_)
          clear hK K
          try simp only [Act.put, List.setIfInBounds_toArray, List.set_cons_zero, List.set_cons_succ]
          refine wpAnyH_take (i := 8) (oi := { dst := some 136, op := _, type := _, pos := _, after := _, guard := _ }) (v := .tuple #[.slice va pl vc, .int .i64 0]) rfl (by kernel_rfl) (by kernel_rfl) (by kernel_rfl) (fun _ _ _ h => h) (Or.inl ⟨by rfl, by intro w hSw; (try dsimp only at hSw); go_simp⟩) hHeld1 ?_
          try simp only [Act.put, List.setIfInBounds_toArray, List.set_cons_zero, List.set_cons_succ]
          refine wpAnyH_take (i := 9) (oi := { dst := some 145, op := _, type := _, pos := _, after := _, guard := _ }) (v := .slice va pl vc) rfl (by kernel_rfl) (by kernel_rfl) (by kernel_rfl) (fun _ _ _ h => h) (Or.inl ⟨by rfl, by intro w hSw; (try dsimp only at hSw); go_simp⟩) hHeld1 ?_
          try simp only [Act.put, List.setIfInBounds_toArray, List.set_cons_zero, List.set_cons_succ]
          refine wpAnyH_take (i := 10) (oi := { dst := some 146, op := _, type := _, pos := _, after := _, guard := _ }) (v := .int .i64 0) rfl (by kernel_rfl) (by kernel_rfl) (by kernel_rfl) (fun _ _ _ h => h) (Or.inl ⟨by rfl, by intro w hSw; (try dsimp only at hSw); go_simp⟩) hHeld1 ?_
          try simp only [Act.put, List.setIfInBounds_toArray, List.set_cons_zero, List.set_cons_succ]
          refine wpAnyH_take (i := 11) (oi := { dst := some 16, op := _, type := _, pos := _, after := _, guard := _ }) (v := .slice va pl vc) rfl (by kernel_rfl) (by kernel_rfl) (by kernel_rfl) (fun _ _ _ h => h) (Or.inl ⟨by rfl, by intro w hSw; (try dsimp only at hSw); go_simp⟩) hHeld1 ?_
          try simp only [Act.put, List.setIfInBounds_toArray, List.set_cons_zero, List.set_cons_succ]
          refine wpAnyH_take (i := 12) (oi := { dst := some 17, op := _, type := _, pos := _, after := _, guard := _ }) (v := .int .i64 0) rfl (by kernel_rfl) (by kernel_rfl) (by kernel_rfl) (fun _ _ _ h => h) (Or.inl ⟨by rfl, by intro w hSw; (try dsimp only at hSw); go_simp⟩) hHeld1 ?_
          try simp only [Act.put, List.setIfInBounds_toArray, List.set_cons_zero, List.set_cons_succ]
          refine wpAnyH_done (by kernel_rfl) ?_ _
          clear hHeld hHeld1 HREA H12
          go_upto_region 24 with fail
          have HSA := Lib.hid (show Calls Tryz.prog 15 #[.slice va pl vc, .slice pa pl pc] w13.drew (QuietP w13.drew (.bool true)) from by
            have hp := HRD.out.keep (H13.out.drew.keeps)
            rw [← HPL.out] at hp
            have := same_calls (HRV.out.keep (Keeps.refl (fun _ => False) w13).drew) hp
            simpa using this)
          refine wp_region_held_drew (S := UWs y st u w0.heap.size bs ol sl) (by kernel_rfl) (by exact UWs.of (d := d) (t := t) H13.out.drew (by simp) (by simp) (by simp)) (fun hHeld => ?_)
          have H14 := Lib.hid H13.out.drew
          clear H13
          refine wpAnyH_take (i := 0) (oi := { dst := some 147, op := _, type := _, pos := _, after := _, guard := _ }) (v := .int .i64 0) rfl (by kernel_rfl) (by kernel_rfl) (by kernel_rfl) (fun _ _ _ h => h) (Or.inl ⟨by rfl, by intro w hSw; (try dsimp only at hSw); go_simp⟩) hHeld ?_
          try simp only [Act.put, List.setIfInBounds_toArray, List.set_cons_zero, List.set_cons_succ]
          refine wpAnyH_take (i := 1) (oi := { dst := some 148, op := _, type := _, pos := _, after := _, guard := _ }) (v := .bool true) rfl (by kernel_rfl) (by kernel_rfl) (by kernel_rfl) (fun _ _ _ h => h) (Or.inl ⟨by rfl, by intro w hSw; (try dsimp only at hSw); go_simp⟩) hHeld ?_
          try simp only [Act.put, List.setIfInBounds_toArray, List.set_cons_zero, List.set_cons_succ]
          refine wpAnyH_take (i := 2) (oi := { dst := some 149, op := _, type := _, pos := _, after := _, guard := _ }) (v := .bool true) rfl (by kernel_rfl) (by kernel_rfl) (by kernel_rfl) (fun _ _ _ h => h) (Or.inl ⟨by rfl, by intro w hSw; (try dsimp only at hSw); go_simp⟩) hHeld ?_
          try simp only [Act.put, List.setIfInBounds_toArray, List.set_cons_zero, List.set_cons_succ]
          refine wpAnyH_take (i := 3) (oi := { dst := some 150, op := _, type := _, pos := _, after := _, guard := _ }) (v := .slice va pl vc) rfl (by kernel_rfl) (by kernel_rfl) (by kernel_rfl) (fun _ _ _ h => h) (Or.inl ⟨by rfl, by intro w hSw; (try dsimp only at hSw); go_simp⟩) hHeld ?_
          try simp only [Act.put, List.setIfInBounds_toArray, List.set_cons_zero, List.set_cons_succ]
          refine wpAnyH_take (i := 4) (oi := { dst := some 151, op := _, type := _, pos := _, after := _, guard := _ }) (v := .slice pa pl pc) rfl (by kernel_rfl) (by kernel_rfl) (by kernel_rfl) (fun _ _ _ h => h) (Or.inl ⟨by rfl, by intro w hSw; (try dsimp only at hSw); go_simp⟩) hHeld ?_
          try simp only [Act.put, List.setIfInBounds_toArray, List.set_cons_zero, List.set_cons_succ]
          refine wpAnyH_ready (rs := [5]) (by kernel_rfl) (by simp) ?_
          refine AllReadyH.cons (o := { dst := some 152, op := _, type := _, pos := _, after := _, guard := _ }) rfl (fun K hK => ?_) AllReadyH.nil
          go_simp
          go_at_call 15
          refine HSA.out.mono ?_
          rintro e w15 ⟨rfl, hk15⟩
          have H15 := Lib.hid (H14.out.quiet hk15)
          clear hk15 H14
          refine hK.out _ _ (by exact UWs.of (d := d) (t := t) H15.out (by simp) (by simp) (by simp)) (fun hHeld1 => ?_)
          clear hK K
          try simp only [Act.put, List.setIfInBounds_toArray, List.set_cons_zero, List.set_cons_succ]
          refine wpAnyH_take (i := 6) (oi := { dst := some 153, op := _, type := _, pos := _, after := _, guard := _ }) (v := .bool true) rfl (by kernel_rfl) (by kernel_rfl) (by kernel_rfl) (fun _ _ _ h => h) (Or.inl ⟨by rfl, by intro w hSw; (try dsimp only at hSw); go_simp⟩) hHeld1 ?_
          try simp only [Act.put, List.setIfInBounds_toArray, List.set_cons_zero, List.set_cons_succ]
          refine wpAnyH_take (i := 7) (oi := { dst := some 154, op := _, type := _, pos := _, after := _, guard := _ }) (v := .bool true) rfl (by kernel_rfl) (by kernel_rfl) (by kernel_rfl) (fun _ _ _ h => h) (Or.inl ⟨by rfl, by intro w hSw; (try dsimp only at hSw); go_simp⟩) hHeld1 ?_
          try simp only [Act.put, List.setIfInBounds_toArray, List.set_cons_zero, List.set_cons_succ]
          refine wpAnyH_take (i := 8) (oi := { dst := some 155, op := _, type := _, pos := _, after := _, guard := _ }) (v := .pointer (some ⟨y, 0, none⟩)) rfl (by kernel_rfl) (by kernel_rfl) (by kernel_rfl) (fun _ _ _ h => h) (Or.inl ⟨by rfl, by intro w hSw; (try dsimp only at hSw); go_simp⟩) hHeld1 ?_
          try simp only [Act.put, List.setIfInBounds_toArray, List.set_cons_zero, List.set_cons_succ]
          refine wpAnyH_take (i := 9) (oi := { dst := some 156, op := _, type := _, pos := _, after := _, guard := _ }) (v := .pointer (some ⟨y, 0, none⟩)) rfl (by kernel_rfl) (by kernel_rfl) (by kernel_rfl) (fun _ _ _ h => h) (Or.inl ⟨by rfl, by intro w hSw; (try dsimp only at hSw); go_simp⟩) hHeld1 ?_
          try simp only [Act.put, List.setIfInBounds_toArray, List.set_cons_zero, List.set_cons_succ]
          refine wpAnyH_take (i := 10) (oi := { dst := some 157, op := _, type := _, pos := _, after := _, guard := _ }) (v := .pointer (some ⟨y, 3, none⟩)) rfl (by kernel_rfl) (by kernel_rfl) (by kernel_rfl) (fun _ _ _ h => h) (Or.inl ⟨by rfl, by intro w hSw; (try dsimp only at hSw); go_simp⟩) hHeld1 ?_
          try simp only [Act.put, List.setIfInBounds_toArray, List.set_cons_zero, List.set_cons_succ]
          refine wpAnyH_take (i := 11) (oi := { dst := some 158, op := _, type := _, pos := _, after := _, guard := _ }) (v := .pointer (some ⟨u, 0, none⟩)) rfl (by kernel_rfl) (by kernel_rfl) (by kernel_rfl) (fun _ _ _ h => h) (Or.inl ⟨by rfl, by intro w hSw; (try dsimp only at hSw); (have q0 := hSw.1.2; go_simp)⟩) hHeld1 ?_
          try simp only [Act.put, List.setIfInBounds_toArray, List.set_cons_zero, List.set_cons_succ]
          refine wpAnyH_take (i := 12) (oi := { dst := some 159, op := _, type := _, pos := _, after := _, guard := _ }) (v := .int .i64 1) rfl (by kernel_rfl) (by kernel_rfl) (by kernel_rfl) (fun _ _ _ h => h) (Or.inl ⟨by rfl, by intro w hSw; (try dsimp only at hSw); go_simp⟩) hHeld1 ?_
          try simp only [Act.put, List.setIfInBounds_toArray, List.set_cons_zero, List.set_cons_succ]
          refine wpAnyH_take (i := 13) (oi := { dst := some 160, op := _, type := _, pos := _, after := _, guard := _ }) (v := .agg (sl).toArray) rfl (by kernel_rfl) (by kernel_rfl) (by kernel_rfl) (fun _ _ _ h => h) (yieldsIf_load_mid (by rfl) _ _ rfl (bs) (0) rfl (sl) _ (fun w' hk => hk.2.2) Tryz.underlying39 rfl HSI.out) hHeld1 ?_
          try simp only [Act.put, List.setIfInBounds_toArray, List.set_cons_zero, List.set_cons_succ]
          refine wpAnyH_ready (rs := [14]) (by kernel_rfl) (by simp) ?_
          refine AllReadyH.cons (o := { dst := some 161, op := _, type := _, pos := _, after := _, guard := _ }) rfl (fun K hK => ?_) AllReadyH.nil
          go_simp
          go_at_call 12
          refine (HFG.out _ _ H15.out).mono ?_
          rintro e w16 ⟨rfl, hk16⟩
          have H16 := Lib.hid (H15.out.quiet hk16)
          clear hk16 H15
          refine hK.out _ _ (by exact UWs.of (d := d) (t := t) H16.out (by simp) (by simp) (by simp)) (fun hHeld2 => ?_)
          clear hK K
          try simp only [Act.put, List.setIfInBounds_toArray, List.set_cons_zero, List.set_cons_succ]
          refine wpAnyH_take (i := 15) (oi := { dst := some 162, op := _, type := _, pos := _, after := _, guard := _ }) (v := .bool true) rfl (by kernel_rfl) (by kernel_rfl) (by kernel_rfl) (fun _ _ _ h => h) (Or.inl ⟨by rfl, by intro w hSw; (try dsimp only at hSw); go_simp⟩) hHeld2 ?_
          try simp only [Act.put, List.setIfInBounds_toArray, List.set_cons_zero, List.set_cons_succ]
          refine wpAnyH_take (i := 16) (oi := { dst := some 163, op := _, type := _, pos := _, after := _, guard := _ }) (v := .bool true) rfl (by kernel_rfl) (by kernel_rfl) (by kernel_rfl) (fun _ _ _ h => h) (Or.inl ⟨by rfl, by intro w hSw; (try dsimp only at hSw); go_simp⟩) hHeld2 ?_
          try simp only [Act.put, List.setIfInBounds_toArray, List.set_cons_zero, List.set_cons_succ]
          refine wpAnyH_take (i := 17) (oi := { dst := some 164, op := _, type := _, pos := _, after := _, guard := _ }) (v := .bool true) rfl (by kernel_rfl) (by kernel_rfl) (by kernel_rfl) (fun _ _ _ h => h) (Or.inl ⟨by rfl, by intro w hSw; (try dsimp only at hSw); go_simp⟩) hHeld2 ?_
          try simp only [Act.put, List.setIfInBounds_toArray, List.set_cons_zero, List.set_cons_succ]
          refine wpAnyH_take (i := 18) (oi := { dst := some 165, op := _, type := _, pos := _, after := _, guard := _ }) (v := .pointer (some ⟨y, 0, none⟩)) rfl (by kernel_rfl) (by kernel_rfl) (by kernel_rfl) (fun _ _ _ h => h) (Or.inl ⟨by rfl, by intro w hSw; (try dsimp only at hSw); go_simp⟩) hHeld2 ?_
          try simp only [Act.put, List.setIfInBounds_toArray, List.set_cons_zero, List.set_cons_succ]
          refine wpAnyH_take (i := 19) (oi := { dst := some 166, op := _, type := _, pos := _, after := _, guard := _ }) (v := .pointer (some ⟨y, 0, none⟩)) rfl (by kernel_rfl) (by kernel_rfl) (by kernel_rfl) (fun _ _ _ h => h) (Or.inl ⟨by rfl, by intro w hSw; (try dsimp only at hSw); go_simp⟩) hHeld2 ?_
          try simp only [Act.put, List.setIfInBounds_toArray, List.set_cons_zero, List.set_cons_succ]
          refine wpAnyH_take (i := 20) (oi := { dst := some 167, op := _, type := _, pos := _, after := _, guard := _ }) (v := .pointer (some ⟨y, 3, none⟩)) rfl (by kernel_rfl) (by kernel_rfl) (by kernel_rfl) (fun _ _ _ h => h) (Or.inl ⟨by rfl, by intro w hSw; (try dsimp only at hSw); go_simp⟩) hHeld2 ?_
          try simp only [Act.put, List.setIfInBounds_toArray, List.set_cons_zero, List.set_cons_succ]
          refine wpAnyH_take (i := 21) (oi := { dst := some 168, op := _, type := _, pos := _, after := _, guard := _ }) (v := .pointer (some ⟨u, 0, none⟩)) rfl (by kernel_rfl) (by kernel_rfl) (by kernel_rfl) (fun _ _ _ h => h) (Or.inl ⟨by rfl, by intro w hSw; (try dsimp only at hSw); (have q0 := hSw.1.2; go_simp)⟩) hHeld2 ?_
          try simp only [Act.put, List.setIfInBounds_toArray, List.set_cons_zero, List.set_cons_succ]
          refine wpAnyH_take (i := 22) (oi := { dst := some 169, op := _, type := _, pos := _, after := _, guard := _ }) (v := .int .i64 1) rfl (by kernel_rfl) (by kernel_rfl) (by kernel_rfl) (fun _ _ _ h => h) (Or.inl ⟨by rfl, by intro w hSw; (try dsimp only at hSw); go_simp⟩) hHeld2 ?_
          try simp only [Act.put, List.setIfInBounds_toArray, List.set_cons_zero, List.set_cons_succ]
          refine wpAnyH_take (i := 23) (oi := { dst := some 170, op := _, type := _, pos := _, after := _, guard := _ }) (v := .int .i64 (pl : Int)) rfl (by kernel_rfl) (by kernel_rfl) (by kernel_rfl) (fun _ _ _ h => h) (Or.inl ⟨by rfl, by intro w hSw; (try dsimp only at hSw); go_simp⟩) hHeld2 ?_
          try simp only [Act.put, List.setIfInBounds_toArray, List.set_cons_zero, List.set_cons_succ]
          refine wpAnyH_ready (rs := [24]) (by kernel_rfl) (by simp) ?_
          refine AllReadyH.cons (o := { dst := some 171, op := _, type := _, pos := _, after := _, guard := _ }) rfl (fun K hK => ?_) AllReadyH.nil
          go_simp
          go_at_call 10
          refine (HPG.out _ _ H16.out).out.mono ?_
          rintro e w' ⟨rfl, rfl⟩
          refine hK.out _ _ (by exact UWs.of (d := d) (t := t) H16.out (by simp) (by simp) (by simp)) (fun hHeld3 => ?_)
          clear hK K
          try simp only [Act.put, List.setIfInBounds_toArray, List.set_cons_zero, List.set_cons_succ]
          refine wpAnyH_take (i := 25) (oi := { dst := some 172, op := _, type := _, pos := _, after := _, guard := _ }) (v := .bool true) rfl (by kernel_rfl) (by kernel_rfl) (by kernel_rfl) (fun _ _ _ h => h) (Or.inl ⟨by rfl, by intro w hSw; (try dsimp only at hSw); go_simp⟩) hHeld3 ?_
          try simp only [Act.put, List.setIfInBounds_toArray, List.set_cons_zero, List.set_cons_succ]
          refine wpAnyH_take (i := 26) (oi := { dst := some 173, op := _, type := _, pos := _, after := _, guard := _ }) (v := .bool true) rfl (by kernel_rfl) (by kernel_rfl) (by kernel_rfl) (fun _ _ _ h => h) (Or.inl ⟨by rfl, by intro w hSw; (try dsimp only at hSw); go_simp⟩) hHeld3 ?_
          try simp only [Act.put, List.setIfInBounds_toArray, List.set_cons_zero, List.set_cons_succ]
          refine wpAnyH_take (i := 27) (oi := { dst := some 6, op := _, type := _, pos := _, after := _, guard := _ }) (v := .bool true) rfl (by kernel_rfl) (by kernel_rfl) (by kernel_rfl) (fun _ _ _ h => h) (Or.inl ⟨by rfl, by intro w hSw; (try dsimp only at hSw); go_simp⟩) hHeld3 ?_
          try simp only [Act.put, List.setIfInBounds_toArray, List.set_cons_zero, List.set_cons_succ]
          refine wpAnyH_done (by kernel_rfl) ?_ _
          go_wp2_with fail
          go_ret
          exact ⟨rfl, H16.out.keeps⟩
end Go.Proofs.YtlcnhpjggjgnpaaGreatDoor
