/- A part of the proof. -/
import Derived.Test.YtddnikpdmjogiaaGreatYd9
import Derived.Deep.DeepCutAuto
import Derived.Deep.CutBlock
namespace Go.Proofs.YtddnikpdmjogiaaGreat
set_option linter.unusedVariables false
open Go.RowKit Go.MapKept
theorem wpList_build_asG {P : Program} {ops : Array Oper} {rest : List Oper} {o : Oper} {a : Act} {w : World} {Q : Exit → Act → World → Prop} (hgd : Region.wanted o (yielded ops a.tmps) = true) (t : TypeId) (parts : Array (Nat × Operand)) (ho : o.op = .build t parts) (cells : Array Value)
  (hf : P.built t (parts.map fun (i, x) => (i, a.eval x)).toList = some cells) (h : wpList P ops Q rest (a.put o.dst (.agg cells)) w) : wpList P ops Q (o :: rest) a w :=
 wpList_step fun K hK => by
  rw [if_pos hgd]
  exact wp_build t parts ho (by rw [hf]; rfl) (by rw [hf]; exact hK _ _ h)
structure Asked (w : World) (g : Nat) (es : List (List UInt8)) (i k n : Int) (D : Dg) (e : Int) (P : List Dg) (f : Int) (Q : List Dg) (q : Int) (X : List UInt8) (x : Int) : Prop where
 d32 : D.length = 32
 pl : P.length < 1099511627776
 ql : Q.length < 1099511627776
 xl : X.length ≤ 140737488355328
 root : ∀ W, Keeps (fun _ => False) w W → Calls Tryz.prog 31 #[.pointer (some ⟨g, 0, none⟩), .int .i64 n] W (DigPost2 W D e)
 path : ∀ W, Keeps (fun _ => False) w W → Calls Tryz.prog 47 #[.pointer (some ⟨g, 0, none⟩), .int .i64 i, .int .i64 n] W (DigsPost2 W P f)
 proof : ∀ W, Keeps (fun _ => False) w W → Calls Tryz.prog 32 #[.pointer (some ⟨g, 0, none⟩), .int .i64 k, .int .i64 n] W (DigsPost2 W Q q)
 entry : ∀ W, Keeps (fun _ => False) w W → Calls Tryz.prog 48 #[.pointer (some ⟨g, 0, none⟩), .int .i64 i] W (BytesPost2 W X x)
 bad : n < 0 ∨ (es.length : Int) < n → D = zero32 ∧ e = 1 ∧ P = [] ∧ f = 1 ∧ Q = [] ∧ q = 1
 good : 0 ≤ n → n ≤ (es.length : Int) → D = rootOf ((leavesOf es).take n.toNat) ∧ e = 0 ∧ (P = if 0 ≤ i ∧ i < n then pathOf ((leavesOf es).take n.toNat) i.toNat else []) ∧ (f = if 0 ≤ i ∧ i < n then 0 else 1) ∧ (Q = if 0 < k ∧ k ≤ n then proofOf ((leavesOf es).take n.toNat) k.toNat true else []) ∧ (q = if 0 ≤ k ∧ k ≤ n then 0 else 1)
 ibad : i < 0 ∨ (es.length : Int) ≤ i → X = [] ∧ x = 1
 igood : 0 ≤ i → i < (es.length : Int) → es[i.toNat]? = some X ∧ x = 0
theorem asked {w : World} {g t : Nat} {ve vl : Value} {es : List (List UInt8)} (h : LogAt w g t ve vl es) (hl : es.length ≤ 256) (hp : ∀ p ∈ es, p.length < 70368744177663) (i k n : Int) :
  ∃ D e P f Q q X x, Asked w g es i k n D e P f Q q X x := by
 have hin : ∃ X x, X.length ≤ 140737488355328 ∧ (∀ W, Keeps (fun _ => False) w W → Calls Tryz.prog 48 #[.pointer (some ⟨g, 0, none⟩), .int .i64 i] W (BytesPost2 W X x)) ∧ (i < 0 ∨ (es.length : Int) ≤ i → X = [] ∧ x = 1) ∧ (0 ≤ i → i < (es.length : Int) → es[i.toNat]? = some X ∧ x = 0) := by
  by_cases hi : i < 0 ∨ (es.length : Int) ≤ i
  ·refine ⟨[], 1, by simp, fun W hk => (gentry_bad (h.keep hk) hi).out.mono ?_, fun _ => ⟨rfl, rfl⟩, fun h1 h2 => by omega⟩
   rintro e w' ⟨rfl, rfl⟩
   exact ⟨_, rfl, Owns.nil _ _, Keeps.refl _ _⟩
  ·obtain ⟨j, rfl⟩ : ∃ j : Nat, i = j := ⟨i.toNat, by omega⟩
   have hj : j < es.length := by omega
   obtain ⟨X, hX⟩ : ∃ X, es[j]? = some X := ⟨_, List.getElem?_eq_getElem hj⟩
   have hxl := hp X (List.mem_of_getElem? hX)
   exact ⟨X, 0, by omega, fun W hk => gentry_calls (h.keep hk) hX (by omega), fun h1 => by omega, fun _ _ => ⟨hX, rfl⟩⟩
 obtain ⟨X, x, hx1, hx2, hx3, hx4⟩ := hin
 by_cases hn : n < 0 ∨ (es.length : Int) < n
 ·have hf : ∀ W, Keeps (fun _ => False) w W → Runs 92 #[.pointer (some ⟨g, 0, none⟩), .int .i64 n] W (.int .i64 1) W := fun W hk => by
   have := gfits_runs (h.keep hk) n
   rwa [if_pos hn] at this
  refine ⟨zero32, 1, [], 1, [], 1, X, x, ⟨by simp [zero32], by simp, by simp, hx1, fun W hk => groot_bad W _ n 1 (by decide) (fun W2 hk2 => hf W2 (hk.trans hk2 (fun _ _ e => e))), fun W hk => gpath_bad W _ i n 1 (by decide) (hf W hk), fun W hk => gproof_bad W _ k n 1 (by decide) (hf W hk), hx2, fun _ => ⟨rfl, rfl, rfl, rfl, rfl, rfl⟩, fun h1 h2 => by omega, hx3, hx4⟩⟩
 ·obtain ⟨m, rfl⟩ : ∃ m : Nat, n = m := ⟨n.toNat, by omega⟩
  have hm : m ≤ es.length := by omega
  have hll : ((leavesOf es).take m).length ≤ 256 := by rw [List.length_take]; unfold leavesOf; rw [List.length_map]; omega
  refine ⟨rootOf ((leavesOf es).take m), 0, _, _, _, _, X, x, ⟨rootOf_length ((leaves32 es).take m), ?_, ?_, hx1, fun W hk => groot_calls (h.keep hk) hl hm, fun W hk => gpath_calls (h.keep hk) hl i hm, fun W hk => gproof_calls (h.keep hk) hl k hm, hx2, fun h1 => by omega, fun _ _ => ⟨rfl, rfl, rfl, rfl, rfl, rfl⟩, hx3, hx4⟩⟩
  ·split
   ·have := path_len 256 ((leavesOf es).take m) i.toNat hll; omega
   ·simp
  ·split
   ·have := proof_len 256 ((leavesOf es).take m) k.toNat true hll; omega
   ·simp
set_option maxRecDepth 100000 in
set_option maxHeartbeats 4000000 in
theorem tells_walk {w : World} {g m r : Nat} {vm : Value} {es : List (List UInt8)} {i k n : Int} {D : Dg} {e : Int} {P : List Dg} {f : Int} {Q : List Dg} {q : Int} {X : List UInt8} {x : Int}
  (ha : Asked w g es i k n D e P f Q q X x) (hm : RLogAt w m r vm es) (hl : es.length ≤ 256) (hp : ∀ p ∈ es, p.length < 70368744177663) :
  Calls Tryz.prog 16 #[.pointer (some ⟨g, 0, none⟩), .pointer (some ⟨m, 0, none⟩), .int .i64 i, .int .i64 k, .int .i64 n] w (QuietP w (.bool true)) := by
 have HA := hyd ha
 have HM := hyd hm
 have HL := hyd (And.intro hl hp)
 obtain ⟨dl, hdl⟩ : ∃ dl : List Value, dl = D.map u8v := ⟨_, rfl⟩
 have hdz : dl.length = 32 := by rw [hdl, List.length_map, ha.d32]
 have HDZ := hyd hdz
 have HDL := hyd hdl
 have HDI := hyd (show (Tryz.prog.info? 101).map (·.size) = some dl.toArray.size ∧ zeroC.size = dl.toArray.size ∧ dl.toArray.all (·.oneCell') = true from ⟨dig_info (by rw [List.size_toArray, hdz]), by rw [zeroC_size, List.size_toArray, hdz], by rw [hdl]; exact bytes_one _⟩)
 have HROOT := hyd (show ∀ W, Keeps (fun _ => False) w W → Calls Tryz.prog 31 #[.pointer (some ⟨g, 0, none⟩), .int .i64 n] W (fun ee w' => ee = .returned (.tuple #[.agg dl.toArray, .int .i64 e]) ∧ Keeps (fun _ => False) W w') from fun W hk => by rw [hdl]; exact ha.root W hk)
 clear ha hm hl hp hdl hdz
 go_enter Tryz.func16, Tryz.ntmps16
 go_wp2_with fail
 refine (HROOT.out w (Keeps.refl _ _)).mono ?_
 rintro ee w1 ⟨rfl, hk1⟩
 have H1 := hyd ((((Own.start w).quiet hk1).alloc (.cells zeroC 101)).setRow dl.toArray)
 have HB1 := hyd (heap_alloc_new w1 (.cells zeroC 101))
 clear hk1 HROOT
 go_upto_region 2 with (refine wpList_store_row rfl 101 _ _ rfl w1.heap.size dl.toArray rfl rfl 101 _ HB1.out HDI.out.1 HDI.out.2.1 HDI.out.2.2 ?_)
 change Code.wp _ _ _ _ ((w1.alloc (.cells zeroC 101)).setRow w1.heap.size dl.toArray)
 clear HB1
 generalize (w1.alloc (.cells zeroC 101)).setRow w1.heap.size dl.toArray = w2 at *
 generalize w1.heap.size = rb at *
 go_wp2_with fail
 refine (HA.out.path w2 H1.out.keeps).mono ?_
 rintro ee w3 ⟨pv, rfl, hpd, hk3⟩
 have H3 := hyd (H1.out.addDigs hpd hk3)
 obtain ⟨pa, pc, rfl, _, _⟩ := hpd.form
 clear hpd hk3 H1
 go_wp2_with fail
 refine (HA.out.proof w3 H3.out.keeps).mono ?_
 rintro ee w4 ⟨qv, rfl, hqd, hk4⟩
 have H4 := hyd (H3.out.addDigs hqd hk4)
 obtain ⟨qa, qc, rfl, _, _⟩ := hqd.form
 clear hqd hk4 H3
 go_wp2_with fail
 refine (HA.out.entry w4 H4.out.keeps).mono ?_
 rintro ee w5 ⟨xv, rfl, hxd, hk5⟩
 have H5 := hyd (H4.out.addBytes hxd hk5)
 obtain ⟨xa, xc, rfl, _, _⟩ := hxd.bytes.reads.form
 clear hxd hk5 H4
 go_upto_region 5 with fail
 go_cut [56] from 46 to 55 (fun c wx => c = .bool (decide (i < 0 ∨ (es.length : Int) ≤ i)) ∧ Own w wx [rBytes _ (.slice xa X.length xc) X, rDigs _ (.slice qa Q.length qc) Q, rDigs _ (.slice pa P.length pc) P, rObj _ rb (.cells dl.toArray 101)])
 case first =>
  obtain ⟨c0, c1, c2⟩ := rlog_cells (HM.out.keep H5.out.keeps).obj
  obtain ⟨va, vc, rfl⟩ := rows_form HM.out.rows
  by_cases h0 : i < 0
  ·have HF := hyd (show Value.bool true = .bool (decide (i < 0 ∨ (es.length : Int) ≤ i)) by rw [decide_eq_true (.inl h0)])
   go_wp2_with fail
   go_meet
   exact ⟨HF.out, H5.out⟩
  ·have h1 := h0
   have HF := hyd (show ∀ b, b = decide ((es.length : Int) ≤ i) → Value.bool b = .bool (decide (i < 0 ∨ (es.length : Int) ≤ i)) from fun b hb => by rw [hb]; simp [h1])
   clear h1
   go_wp2_with fail
   go_meet
   exact ⟨HF.out _ rfl, H5.out⟩
 case rest =>
  obtain ⟨rfl, hcut⟩ := hcut
  obtain ⟨bi, hbi⟩ : ∃ b, b = decide (i < 0 ∨ (es.length : Int) ≤ i) := ⟨_, rfl⟩
  rw [← hbi]
  have HBI := hyd hbi
  have H6 := hyd hcut
  clear hbi hcut H5
  go_upto_if 56 with fail
  go_cut [] from 57 to 77 (fun wx => Own w wx [rBytes _ (.slice xa X.length xc) X, rDigs _ (.slice qa Q.length qc) Q, rDigs _ (.slice pa P.length pc) P, rObj _ rb (.cells dl.toArray 101)])
  case first =>
   cases bi with
   | true =>
    obtain ⟨hX, hx⟩ := HA.out.ibad (of_decide_eq_true HBI.out.symm)
    have HO := hyd H6.out
    have hxl : X.length = 0 := by rw [hX]; rfl
    have e0 : ((X.length : Int) != 0) = false := by rw [hxl]; rfl
    have e1 : (x != 1) = false := by rw [hx]; rfl
    clear hX hx hxl H6 HBI
    go_wp2_with fail
    go_meet
    exact HO.out
   | false =>
    have hni := of_decide_eq_false HBI.out.symm
    have i0 : 0 ≤ i := by omega
    have i1 : i < es.length := by omega
    obtain ⟨hX, hx⟩ := HA.out.igood i0 i1
    have e1 : (x != 0) = false := by rw [hx]; rfl
    have hat := HM.out.keep H6.out.keeps
    obtain ⟨c0, c1, c2⟩ := rlog_cells hat.obj
    obtain ⟨va, vc, rfl, hrow⟩ := hat.rows
    obtain ⟨y, pv, rfl, hy, hrd⟩ := hrow i.toNat X hX
    have hsame := same_calls (H6.out.bytes (v := .slice xa X.length xc) (l := X) (by simp)).1 hrd
    rw [decide_eq_true rfl] at hsame
    have HS := hyd hsame
    have HO := hyd H6.out
    clear hX hx hat hrow hrd hsame hni H6 HBI
    go_wp2_with fail
    refine HS.out.mono ?_
    rintro ee w7 ⟨rfl, hk7⟩
    have HO7 := hyd (HO.out.quiet hk7)
    clear hk7 HO HS
    go_wp2_with fail
    go_meet
    exact HO7.out
  case rest =>
   have H6 := hyd hcut
   clear hcut
   go_upto_region 10 with fail
   go_cut [88] from 78 to 87 (fun c wx => c = .bool (decide (n < 0 ∨ (es.length : Int) < n)) ∧ Own w wx [rBytes _ (.slice xa X.length xc) X, rDigs _ (.slice qa Q.length qc) Q, rDigs _ (.slice pa P.length pc) P, rObj _ rb (.cells dl.toArray 101)])
   case first =>
    obtain ⟨c0, c1, c2⟩ := rlog_cells (HM.out.keep H6.out.keeps).obj
    obtain ⟨va, vc, rfl⟩ := rows_form HM.out.rows
    by_cases h0 : n < 0
    ·have HF := hyd (show Value.bool true = .bool (decide (n < 0 ∨ (es.length : Int) < n)) by rw [decide_eq_true (.inl h0)])
     go_wp2_with fail
     go_meet
     exact ⟨HF.out, H6.out⟩
    ·have h1 := h0
     have HF := hyd (show ∀ b, b = decide ((es.length : Int) < n) → Value.bool b = .bool (decide (n < 0 ∨ (es.length : Int) < n)) from fun b hb => by rw [hb]; simp [h1])
     clear h1
     go_wp2_with fail
     go_meet
     exact ⟨HF.out _ rfl, H6.out⟩
   case rest =>
    obtain ⟨rfl, hcut⟩ := hcut
    obtain ⟨bn, hbn⟩ : ∃ b, b = decide (n < 0 ∨ (es.length : Int) < n) := ⟨_, rfl⟩
    rw [← hbn]
    have H7 := hyd hcut
    cases bn with
    | true =>
     obtain ⟨hD, he, hP, hf, hQ, hq⟩ := HA.out.bad (of_decide_eq_true hbn.symm)
     have hdz : dl = zero32.map u8v := by rw [HDL.out, hD]
     have heq := fun W => dig_eq zero32 zero32 (by simp [zero32]) (by simp [zero32]) W
     rw [decide_eq_true rfl] at heq
     change ∀ W, (Op.equalIn 10000 101 (.agg zeroC) (.agg #[.int .u8 0, .int .u8 0, .int .u8 0, .int .u8 0, .int .u8 0, .int .u8 0, .int .u8 0, .int .u8 0, .int .u8 0, .int .u8 0, .int .u8 0, .int .u8 0, .int .u8 0, .int .u8 0, .int .u8 0, .int .u8 0, .int .u8 0, .int .u8 0, .int .u8 0, .int .u8 0, .int .u8 0, .int .u8 0, .int .u8 0, .int .u8 0, .int .u8 0, .int .u8 0, .int .u8 0, .int .u8 0, .int .u8 0, .int .u8 0, .int .u8 0, .int .u8 0])).run Tryz.prog W = .ok true W at heq
     have hrb := (H7.out.at (b := rb) (o := .cells dl.toArray 101) (by simp)).1
     rw [hdz] at hrb
     change wc.heap[rb]? = some (.cells zeroC 101) at hrb
     have HRB := hyd hrb
     have e1 : (e == 1) = true := by rw [he]; rfl
     have e2 : (f == 1) = true := by rw [hf]; rfl
     have e3 : (q == 1) = true := by rw [hq]; rfl
     have e4 : P.length = 0 := by rw [hP]; rfl
     have e5 : Q.length = 0 := by rw [hQ]; rfl
     have HK := hyd H7.out.keeps
     clear hD he hP hf hQ hq hdz hbn hcut hrb H6 H7
     go_wp2_with (first | (refine wpList_load_rowG (by rfl) 101 _ rfl rb rfl 101 zeroC (0, 0) _ HRB.out Tryz.underlying101 rfl (dig_info zeroC_size) ?_) | (refine wpList_build_asG (by rfl) 101 _ rfl zeroC zeroC_built ?_))
     go_ret
     exact ⟨rfl, HK.out⟩
    | false =>
     have hnn := of_decide_eq_false hbn.symm
     obtain ⟨nn, rfl⟩ : ∃ nn : Nat, n = nn := ⟨n.toNat, by omega⟩
     have hnl : nn ≤ es.length := by omega
     obtain ⟨hD, he, hP, hf, hQ, hq⟩ := HA.out.good (by omega) (by omega)
     simp only [Int.toNat_natCast] at hD hP hQ
     have hL32 := (leaves32 es).take nn
     have hLl : ((leavesOf es).take nn).length = nn := by rw [List.length_take]; unfold leavesOf; rw [List.length_map]; omega
     have HLV := hyd (rleaves_calls (HM.out.keep H7.out.keeps) HL.out.2 (by have := HL.out.1; omega) hnl)
     have heq := fun W => dig_eq D D HA.out.d32 HA.out.d32 W
     rw [decide_eq_true rfl, ← HDL.out] at heq
     have e1 : (e != 0) = false := by rw [he]; rfl
     have HF := hyd (And.intro hP (And.intro hf (And.intro hQ hq)))
     have HN := hyd (And.intro hnl (And.intro hLl hL32))
     have HD := hyd hD
     clear hnn hP hf hQ hq hbn hcut H6 hD he hnl hL32 hLl
     go_wp2_with fail
     refine HLV.out.mono ?_
     rintro ee w8 ⟨lv, rfl, hld, hk8⟩
     obtain ⟨la, lc, rfl, _, _⟩ := hld.form
     rw [HN.out.2.1] at hld ⊢
     have H8 := hyd (H7.out.addDigsR hld hk8)
     have HRT := hyd (show ∀ W, Keeps (fun _ => False) w8 W → Calls Tryz.prog 51 #[.slice la nn lc] W (QuietP W (.agg dl.toArray)) from fun W hk => by
      have := rroot_calls 256 ((leavesOf es).take nn) (by have := HN.out; have := HL.out; omega) (by have := HN.out; have := HL.out; omega) W _ ((H8.out.quiet hk).digsR (v := .slice la nn lc) (L := (leavesOf es).take nn) (by simp)).ins
      rw [HDL.out, HD.out]
      exact this)
     have HRO := hyd (show ∀ W, Keeps (fun _ => False) w8 W → W.rangeAt rb 0 dl from fun W hk => (H8.out.quiet hk).range (b := rb) (cl := dl) (t := 101) (by simp))
     have HDI2 := hyd (show (Tryz.prog.info? 101).map (·.size) = some dl.length by rw [HDZ.out]; kernel_rfl)
     clear hld hk8 H7 HLV
     go_upto_region 13 with fail
     go_cut [122] from 115 to 121 (fun c wx => c = .bool false ∧ Own w wx [rDigsD _ (.slice la nn lc) ((leavesOf es).take nn), rBytes _ (.slice xa X.length xc) X, rDigs _ (.slice qa Q.length qc) Q, rDigs _ (.slice pa P.length pc) P, rObj _ rb (.cells dl.toArray 101)])
     case first =>
      refine wp_region_held_drew (S := fun w' => Keeps (fun _ => False) w8 w') (by kernel_rfl) (by exact (Keeps.refl _ w8).drew) (fun hHeld => ?_)
      refine tkH 0 115 (.int .i64 e) rfl (by kernel_rfl) (by kernel_rfl) (by kernel_rfl) (fun _ _ _ h => h) (Or.inl ⟨by rfl, by intro w hSw; (try dsimp only at hSw); go_simp⟩) hHeld ?_
      try simp only [Act.put, sA, sZ, sS]
      refine tkH 1 116 (.bool false) rfl (by kernel_rfl) (by kernel_rfl) (by kernel_rfl) (fun _ _ _ h => h) (Or.inl ⟨by rfl, by intro w hSw; (try dsimp only at hSw); go_simp⟩) hHeld ?_
      try simp only [Act.put, sA, sZ, sS]
      refine tkH 2 117 (.bool false) rfl (by kernel_rfl) (by kernel_rfl) (by kernel_rfl) (fun _ _ _ h => h) (Or.inl ⟨by rfl, by intro w hSw; (try dsimp only at hSw); go_simp⟩) hHeld ?_
      try simp only [Act.put, sA, sZ, sS]
      refine tkH 3 118 (.agg (dl).toArray) rfl (by kernel_rfl) (by kernel_rfl) (by kernel_rfl) (fun _ _ _ h => h) (yieldsIf_load_mid (by rfl) _ _ rfl (rb) (0) rfl (dl) _ (fun w' hk => HRO.out w' hk) Tryz.underlying101 rfl HDI2.out) hHeld ?_
      try simp only [Act.put, sA, sZ, sS]
      refine tkH 4 119 (.slice la nn lc) rfl (by kernel_rfl) (by kernel_rfl) (by kernel_rfl) (fun _ _ _ h => h) (Or.inl ⟨by rfl, by intro w hSw; (try dsimp only at hSw); go_simp⟩) hHeld ?_
      try simp only [Act.put, sA, sZ, sS]
      refine wpAnyH_ready (rs := [5]) (by kernel_rfl) (by simp) ?_
      refine AllReadyH.cons (o := { dst := some 120, op := _, type := _, pos := _, after := _, guard := _ }) rfl (fun K hK => ?_) AllReadyH.nil
      go_simp
      go_at_call 51
      refine (HRT.out _ hHeld).mono ?_
      rintro ee w9 ⟨rfl, hk9⟩
      refine hK.out _ _ (by exact hHeld.trans hk9 (fun _ _ e => e)) (fun hHeld1 => ?_)
      clear hK K
      try simp only [Act.put, sA, sZ, sS]
      refine tkH 6 121 (.bool false) rfl (by kernel_rfl) (by kernel_rfl) (by kernel_rfl) (fun _ _ _ h => h) (Or.inl ⟨by rfl, by intro w hSw; (try dsimp only at hSw); go_simp⟩) hHeld1 ?_
      try simp only [Act.put, sA, sZ, sS]
      refine tkH 7 122 (.bool false) rfl (by kernel_rfl) (by kernel_rfl) (by kernel_rfl) (fun _ _ _ h => h) (Or.inl ⟨by rfl, by intro w hSw; (try dsimp only at hSw); go_simp⟩) hHeld1 ?_
      try simp only [Act.put, sA, sZ, sS]
      refine wpAnyH_done (by kernel_rfl) ?_ _
      have HO9 := hyd (H8.out.quiet hHeld1)
      clear hHeld hHeld1 hk9
      go_wp2_with fail
      go_meet
      exact ⟨rfl, HO9.out⟩
     case rest =>
      obtain ⟨rfl, hcut⟩ := hcut
      have H9 := hyd hcut
      clear hcut H8 HRT HRO
      go_upto_region 15 with fail
      go_cut [129] from 123 to 128 (fun c wx => c = .bool (decide (i < 0 ∨ (nn : Int) ≤ i)) ∧ Own w wx [rDigsD _ (.slice la nn lc) ((leavesOf es).take nn), rBytes _ (.slice xa X.length xc) X, rDigs _ (.slice qa Q.length qc) Q, rDigs _ (.slice pa P.length pc) P, rObj _ rb (.cells dl.toArray 101)])
      case first =>
       by_cases h0 : i < 0
       ·have HG := hyd (show Value.bool true = .bool (decide (i < 0 ∨ (nn : Int) ≤ i)) by rw [decide_eq_true (.inl h0)])
        go_wp2_with fail
        go_meet
        exact ⟨HG.out, H9.out⟩
       ·have h1 := h0
        have HG := hyd (show ∀ b, b = decide ((nn : Int) ≤ i) → Value.bool b = .bool (decide (i < 0 ∨ (nn : Int) ≤ i)) from fun b hb => by rw [hb]; simp [h1])
        clear h1
        go_wp2_with fail
        go_meet
        exact ⟨HG.out _ rfl, H9.out⟩
      case rest =>
       obtain ⟨rfl, hcut⟩ := hcut
       obtain ⟨bi, hbi⟩ : ∃ b, b = decide (i < 0 ∨ (nn : Int) ≤ i) := ⟨_, rfl⟩
       rw [← hbi]
       have HBI := hyd hbi
       have H10 := hyd hcut
       clear hbi hcut H9
       go_upto_if 129 with fail
       go_cut [] from 130 to 146 (fun wx => Own w wx [rDigsD _ (.slice la nn lc) ((leavesOf es).take nn), rBytes _ (.slice xa X.length xc) X, rDigs _ (.slice qa Q.length qc) Q, rDigs _ (.slice pa P.length pc) P, rObj _ rb (.cells dl.toArray 101)])
       case first =>
        cases bi with
        | true =>
         have hb := of_decide_eq_true HBI.out.symm
         obtain ⟨hP, hf, -, -⟩ := HF.out
         rw [if_neg (by omega)] at hP hf
         have e2 : (f != 1) = false := by rw [hf]; rfl
         have e3 : ((P.length : Int) != 0) = false := by rw [hP]; rfl
         clear hP hf hb HBI
         go_wp2_with fail
         go_meet
         exact H10.out
        | false =>
         have hb := of_decide_eq_false HBI.out.symm
         obtain ⟨hP, hf, -, -⟩ := HF.out
         rw [if_pos (by omega)] at hP hf
         have e2 : (f != 0) = false := by rw [hf]; rfl
         obtain ⟨j, hj⟩ : ∃ j : Nat, i = j := ⟨i.toNat, by omega⟩
         have hpath := rpath_calls1 256 ((leavesOf es).take nn) (by have := HN.out; have := HL.out; omega) (by have := HN.out; have := HL.out; omega) _ _ j (H10.out.digsR (v := .slice la nn lc) (L := (leavesOf es).take nn) (by simp)).ins (by have := HN.out; omega)
         rw [show j = i.toNat by omega, ← hP, show ((i.toNat : Nat) : Int) = i by omega] at hpath
         have HPA := hyd hpath
         clear hP hf hb hj hpath HBI
         go_wp2_with fail
         refine HPA.out.mono ?_
         rintro ee w11 ⟨v11, rfl, hd11, hk11⟩
         have hsame := same15_true ((H10.out.quiet hk11).digs (v := .slice pa P.length pc) (L := P) (by simp)).ins hd11.ins HA.out.pl
         obtain ⟨a11, c11, rfl, _, _⟩ := hd11.form
         have H11 := hyd (H10.out.quiet hk11)
         have HS := hyd hsame
         clear hd11 hk11 hsame HPA
         go_wp2_with fail
         refine HS.out.mono ?_
         rintro ee w12 ⟨rfl, hk12⟩
         have H12 := hyd (H11.out.quiet hk12)
         clear hk12 H11 HS
         go_wp2_with fail
         go_meet
         exact H12.out
       case rest =>
        have H13 := hyd hcut
        clear hcut H10
        go_upto_region 20 with fail
        go_cut [153] from 147 to 152 (fun c wx => c = .bool (decide (k < 0 ∨ (nn : Int) < k)) ∧ Own w wx [rDigsD _ (.slice la nn lc) ((leavesOf es).take nn), rBytes _ (.slice xa X.length xc) X, rDigs _ (.slice qa Q.length qc) Q, rDigs _ (.slice pa P.length pc) P, rObj _ rb (.cells dl.toArray 101)])
        case first =>
         by_cases h0 : k < 0
         ·have HG := hyd (show Value.bool true = .bool (decide (k < 0 ∨ (nn : Int) < k)) by rw [decide_eq_true (.inl h0)])
          go_wp2_with fail
          go_meet
          exact ⟨HG.out, H13.out⟩
         ·have h1 := h0
          have HG := hyd (show ∀ b, b = decide ((nn : Int) < k) → Value.bool b = .bool (decide (k < 0 ∨ (nn : Int) < k)) from fun b hb => by rw [hb]; simp [h1])
          clear h1
          go_wp2_with fail
          go_meet
          exact ⟨HG.out _ rfl, H13.out⟩
        case rest =>
         obtain ⟨rfl, hcut⟩ := hcut
         obtain ⟨bk, hbk⟩ : ∃ b, b = decide (k < 0 ∨ (nn : Int) < k) := ⟨_, rfl⟩
         rw [← hbk]
         have H14 := hyd hcut
         clear hcut H13
         cases bk with
         | true =>
          have hb := of_decide_eq_true hbk.symm
          obtain ⟨-, -, hQ, hq⟩ := HF.out
          rw [if_neg (by omega)] at hQ hq
          have e2 : (q == 1) = true := by rw [hq]; rfl
          have e3 : ((Q.length : Int) == 0) = true := by rw [hQ]; rfl
          have HK := hyd H14.out.keeps
          clear hQ hq hb hbk
          go_wp2_with fail
          go_ret
          exact ⟨rfl, HK.out⟩
         | false =>
          have hb := of_decide_eq_false hbk.symm
          obtain ⟨-, -, hQ, hq⟩ := HF.out
          rw [if_pos (by omega)] at hq
          have e2 : (q == 0) = true := by rw [hq]; rfl
          obtain ⟨j, hj⟩ : ∃ j : Nat, k = j := ⟨k.toNat, by omega⟩
          have hproof := rproof_calls (H14.out.digsR (v := .slice la nn lc) (L := (leavesOf es).take nn) (by simp)).ins (by have := HN.out; have := HL.out; omega) (m := j) (by have := HN.out; omega)
          have hQ2 : Q = if 0 < j then proofOf ((leavesOf es).take nn) j true else [] := by
           rw [hQ, hj, Int.toNat_natCast]
           by_cases h0 : 0 < j
           ·rw [if_pos (by omega), if_pos h0]
           ·rw [if_neg (by omega), if_neg h0]
          rw [← hQ2, ← hj] at hproof
          have HPR := hyd hproof
          clear hQ hQ2 hq hb hj hproof hbk
          go_wp2_with fail
          refine HPR.out.mono ?_
          rintro ee w15 ⟨v15, rfl, hd15, hk15⟩
          have hsame := same15_true ((H14.out.quiet hk15).digs (v := .slice qa Q.length qc) (L := Q) (by simp)).ins hd15.ins HA.out.ql
          obtain ⟨a15, c15, rfl, _, _⟩ := hd15.form
          have H15 := hyd (H14.out.quiet hk15)
          have HS := hyd hsame
          clear hd15 hk15 hsame HPR
          go_wp2_with fail
          refine HS.out.mono ?_
          rintro ee w16 ⟨rfl, hk16⟩
          have HK := hyd (H15.out.quiet hk16).keeps
          clear hk16 H15 HS
          go_wp2_with fail
          go_ret
          exact ⟨rfl, HK.out⟩
theorem tells_calls {w : World} {g t m r : Nat} {ve vl vm : Value} {es : List (List UInt8)} (h : LogAt w g t ve vl es) (hm : RLogAt w m r vm es) (hl : es.length ≤ 256) (hp : ∀ p ∈ es, p.length < 70368744177663) (i k n : Int) :
  Calls Tryz.prog 16 #[.pointer (some ⟨g, 0, none⟩), .pointer (some ⟨m, 0, none⟩), .int .i64 i, .int .i64 k, .int .i64 n] w (QuietP w (.bool true)) := by
 obtain ⟨D, e, P, f, Q, q, X, x, ha⟩ := asked h hl hp i k n
 exact tells_walk ha hm hl hp
end Go.Proofs.YtddnikpdmjogiaaGreat
