/- A part of the proof. -/
import Derived.Test.YtddnikpdmjogiaaGreatYe7
import Derived.Test.YtddnikpdmjogiaaGreatYe9
import Derived.Test.YtddnikpdmjogiaaGreatYf0
import Derived.Deep.DeepCutAuto
import Derived.Deep.CutBlock
namespace Go.Proofs.YtddnikpdmjogiaaGreat
set_option linter.unusedVariables false
open Go.RowKit Go.MapKept
section
variable {w0 w : World} {d r : Nat} {R : Int} {i k : Nat} {es : List (List UInt8)} {rs : List (Res w0.heap.size)} {lo tv uv gv : Value} {p : List UInt8} {L : List TCh}
theorem QSt.addAll {wb : Nat} {o : Obj} (h : QSt w0 w d r R i k es (rObj w0.heap.size wb o :: rs) lo tv uv gv) (hi : i ≤ 130) (hk : k ≤ 130) {pv : Value} (hp : Reads w0 pv p) {la : Option Addr} {lc : Nat} (hL : TChsIn w0 la L) (hfair : fairB L p = true) :
  Calls Tryz.prog 20 #[pv] w fun e w1 => ∃ ta tc, e = .returned (.slice ta p.length tc) ∧ w1.heap[wb]? = some o ∧
   Calls Tryz.prog 11 #[.slice la L.length lc] w1 fun e w2 => ∃ ca cc, e = .returned (.slice ca L.length cc) ∧ w2.heap[wb]? = some o ∧ ∃ co : Int,
    Calls Tryz.prog 19 #[lo, .slice ta p.length tc, .slice ca L.length cc] w2 fun e w3 => e = .returned (.int .i64 co) ∧ w3.heap[wb]? = some o ∧
     Calls Tryz.prog 21 #[gv, pv, .slice la L.length lc] w3 fun e w4 => e = .returned (.int .i64 co) ∧ w4.heap[wb]? = some o ∧ ∃ es', QSt w0 w4 d r R (i + 1) (k + 1) es' (rObj w0.heap.size wb o :: rs) lo tv uv gv := by
 obtain ⟨hf1, hf2, hf3⟩ := fairB_true hfair
 refine (twin_calls (hp.keep h.keeps) (by omega)).mono ?_
 rintro e w1 ⟨tv', rfl, ho1, hk1⟩
 obtain ⟨ta, tc, rfl, -, -⟩ := ho1.bytes.form
 have h1 := h.addBytes ho1 hk1
 refine ⟨ta, tc, rfl, h1.obj (by simp), ?_⟩
 refine (to15_calls (c := lc) (hL.keep h1.keeps) (by omega) (fun x hx => by have := (hf1 x hx).2.1; omega)).mono ?_
 rintro e w2 ⟨cv, rfl, hat, hk2⟩
 obtain ⟨ca, cc, rfl⟩ := hat.form
 obtain ⟨ps, h2⟩ := h1.heldP hat hk2
 obtain ⟨co, hadd⟩ := h2.add1 hi hk (pv := .slice ta p.length tc) (mv := .slice ca L.length cc) (ps := ps) (L := L) hf2 (by simp) (by simp) hf3 (fun c hc => ⟨(hf1 c hc).1, (hf1 c hc).2.1⟩) (fun c hc => by rw [(hf1 c hc).2.2]; decide)
 refine ⟨ca, cc, rfl, h2.obj (by simp), co, ?_⟩
 refine hadd.mono ?_
 rintro e w3 ⟨rfl, h3⟩
 have h4 := h3.drop.drop
 refine ⟨rfl, h4.obj (by simp), ?_⟩
 refine (h4.add2 hi hk hf2 hp (lc := lc) hL hf3).mono ?_
 rintro e w4 ⟨rfl, h5⟩
 exact ⟨rfl, h5.obj (by simp), _, h5⟩
end
theorem QSt.start {w w1 : World} {d r j t b gl : Nat} {ve vl : Value} {R : Int} {rs : List (Res w.heap.size)} (hR0 : 0 ≤ R) (hR1 : R ≤ 67108864) (h : Own w w1 (tRes w.heap.size d j t b nmT ⟨oneT R [], 0, [], false⟩ ++ (gRes w.heap.size gl t ve vl [] ++ (rRef w.heap.size r (newOf R) :: rs)))) :
  Calls Tryz.prog 8 #[.pointer (some ⟨r, 0, none⟩), .string nmT] w1 fun e w2 => ∃ u : Nat, e = .returned (.tuple #[.pointer (some ⟨u, 0, none⟩), .int .i64 0]) ∧
   Calls Tryz.prog 14 #[.pointer (some ⟨u, 0, none⟩)] w2 fun e w3 => ∃ gy : Nat, e = .returned (.tuple #[.pointer (some ⟨gy, 0, none⟩), .int .i64 0]) ∧ QSt w w3 d r R 1 0 [] rs (.pointer (some ⟨gl, 0, none⟩)) (.pointer (some ⟨t, 0, none⟩)) (.pointer (some ⟨u, 0, none⟩)) (.pointer (some ⟨gy, 0, none⟩)) := by
 have ht : Tidy (newOf R) (4000000000 * 0) (4000000000 * 0) := Tidy.new hR0 hR1
 obtain ⟨htt, hop⟩ := TI.open ht nmT
 have h1' : Own w w1 ((tRes w.heap.size d j t b nmT ⟨oneT R [], 0, [], false⟩ ++ gRes w.heap.size gl t ve vl []) ++ (rRef w.heap.size r (newOf R) :: rs)) := h
 have h2 : Own w w1 (rRef w.heap.size r (newOf R) :: ((tRes w.heap.size d j t b nmT ⟨oneT R [], 0, [], false⟩ ++ gRes w.heap.size gl t ve vl []) ++ rs)) := h1'.perm List.perm_middle
 refine (r11open_calls h2 ht (by omega) (by omega) nmT (by decide)).mono ?_
 rintro e w3 (⟨hn2, he, ho3⟩ | ⟨size2, fs2, recs, q, u, v, lv, hs2, hr2, he, ho3⟩)
 ·rw [topen_empty] at hn2; cases hn2
 ·obtain ⟨hu, hc, hti⟩ := hop _ _ _ hs2 hr2
  rw [topen_empty] at hs2 he ho3 hti
  simp only [Option.some.injEq, Prod.mk.injEq] at hs2
  obtain ⟨rfl, rfl⟩ := hs2
  have hrecs : recs = [] := by
   cases recs with
   | nil => rfl
   | cons x l =>
    have := frames_many (x :: l)
    rw [← hu] at this
    simp at this
  subst hrecs
  refine ⟨u, he, ?_⟩
  refine (ropen15_calls ho3 (u := u) (q := q) (lv := lv) (fs := []) (dn := false) (by simp [rtRes]) (by simp [rtRes]) (by simp) (fun f hf => by simp at hf)).mono ?_
  rintro e w4 ⟨gy, re, he, h5⟩
  refine ⟨gy, he, j, t, b, q, u, gl, gy, _, [], [], false, rfl, rfl, rfl, rfl, hti, PJ.start hR0 hR1, rfl, v, lv, ve, vl, re, ?_⟩
  have h6 := Own.flip (A := rRows w.heap.size re [] :: rObj w.heap.size gy (rlogObj u re) :: rtRes w.heap.size r q u nmT (oneT R []) [] v lv [] false) (B := tRes w.heap.size d j t b nmT ⟨oneT R [], 0, [], false⟩ ++ gRes w.heap.size gl t ve vl []) h5
  exact Own.perm h6 (List.Perm.append_left (tRes w.heap.size d j t b nmT ⟨oneT R [], 0, [], false⟩ ++ gRes w.heap.size gl t ve vl []) ((List.perm_append_comm (l₁ := [rRows w.heap.size re [], rObj w.heap.size gy (rlogObj u re)]) (l₂ := rtRes w.heap.size r q u nmT (oneT R []) [] v lv [] false)).append_right rs))
def i3Obj (x0 x1 x2 : Int) : Obj := .cells #[.int .i64 x0, .int .i64 x1, .int .i64 x2] 56 (0, 0)
def QRel (w0 : World) (rs : List (Res w0.heap.size)) (d r len : Nat) (R : Int) (lo tv uv gv iv : Value) (wx : World) : Prop :=
 ∃ (k : Nat) (es : List (List UInt8)) (gl t u gy : Addr), iv = .int .i64 (k : Int) ∧ k ≤ len ∧ k ≤ 40 ∧ lo = .pointer (some gl) ∧ tv = .pointer (some t) ∧ uv = .pointer (some u) ∧ gv = .pointer (some gy) ∧ QSt w0 wx d r R (3 * k + 1) (3 * k) es rs lo tv uv gv
theorem QSt.up {w0 w : World} {d r : Nat} {R : Int} {i k i' k' : Nat} {es : List (List UInt8)} {rs : List (Res w0.heap.size)} {lo tv uv gv : Value} (h : QSt w0 w d r R i k es rs lo tv uv gv) (hi : i ≤ i') (hk : k ≤ k') : QSt w0 w d r R i' k' es rs lo tv uv gv := by
 obtain ⟨j, t, b, q, u, gl, gy, m, recs, fs, dn, e1, e2, e3, e4, h1, h2, h3, h⟩ := h
 exact ⟨j, t, b, q, u, gl, gy, m, recs, fs, dn, e1, e2, e3, e4, ⟨h1.tidy.mono (by omega) (by omega), Nat.le_trans h1.recs (by omega), Nat.le_trans h1.wt (by omega), h1.ok⟩, h2.mono hk, h3, h⟩
def QFirst (w0 : World) (rs : List (Res w0.heap.size)) (d r : Nat) (R : Int) (oK : Int) (k : Nat) (lo tv uv gv : Value) (wx : World) : Prop :=
 ((oK == 2) = true ∧ ∃ m, QC w0 wx d r R (3 * k + 2) (3 * k + 1) m rs) ∨ ((oK == 2) = false ∧ ∃ es, QSt w0 wx d r R (3 * k + 2) (3 * k + 1) es rs lo tv uv gv)
def QEnd (w0 : World) (rs : List (Res w0.heap.size)) (d r : Nat) (R : Int) (lo tv uv gv : Value) (wx : World) : Prop :=
 ∃ (i k : Nat) (es : List (List UInt8)) (gl t u gy : Addr), i ≤ 130 ∧ k ≤ 130 ∧ lo = .pointer (some gl) ∧ tv = .pointer (some t) ∧ uv = .pointer (some u) ∧ gv = .pointer (some gy) ∧ QSt w0 wx d r R i k es rs lo tv uv gv
theorem ask_nums (x0 x1 x2 : Int) (L : Nat) (hL : L ≤ 130) : ∃ n1 N n2 M0 M1 : Nat, wrap64 ((L : Int) + 1) = (n1 : Int) ∧ IntKind.u64.wrap (n1 : Int) = (n1 : Int) ∧ ¬ n1 = 0 ∧ wrap64 ((IntKind.u64.wrap x2).tmod n1) = (N : Int) ∧
  wrap64 ((N : Int) + 1) = (n2 : Int) ∧ IntKind.u64.wrap (n2 : Int) = (n2 : Int) ∧ ¬ n2 = 0 ∧ wrap64 ((IntKind.u64.wrap x0).tmod n2) = (M0 : Int) ∧ wrap64 ((IntKind.u64.wrap x1).tmod n2) = (M1 : Int) := by
 obtain ⟨N, hN, hN2⟩ := uint_mod x2 (L + 1) (by omega) (by omega)
 have hN3 : N ≤ 130 := by omega
 obtain ⟨M0, hM0, -⟩ := uint_mod x0 (N + 1) (by omega) (by omega)
 obtain ⟨M1, hM1, -⟩ := uint_mod x1 (N + 1) (by omega) (by omega)
 have small : ∀ k : Nat, k ≤ 131 → wrap64 (k : Int) = (k : Int) ∧ IntKind.u64.wrap (k : Int) = (k : Int) := fun k hk => ⟨IntWalk.wrap64_in _ (by omega), IntWalk.u64_in _ (by omega)⟩
 exact ⟨L + 1, N, N + 1, M0, M1, (small (L + 1) (by omega)).1, (small (L + 1) (by omega)).2, Nat.succ_ne_zero L, hN, (small (N + 1) (by omega)).1, (small (N + 1) (by omega)).2, Nat.succ_ne_zero N, hM0, hM1⟩
set_option maxRecDepth 100000 in
set_option maxHeartbeats 2000000 in
theorem gplays_walk (room : Int) (a : Option Addr) (len cap : Nat) (x0 x1 x2 : Int) (w0 : World) (hlc : len ≤ cap) (hcm : cap ≤ maxLen) (hops : OpsGIn w0 a len) :
  Calls Tryz.prog 4 #[.int .i64 room, .slice a len cap, .agg #[.int .i64 x0, .int .i64 x1, .int .i64 x2]] w0 fun e w' => e = .returned (.bool true) ∧ Below w0.heap.size w0 w' := by
 have jl : (len : Int) ≤ 9223372036854775807 := by unfold maxLen at hcm; omega
 obtain ⟨r0, hr, hr0, hr1⟩ : ∃ r : Int, wrap64 ((IntKind.u64.wrap room).tmod 20000) = r ∧ 0 ≤ r ∧ r < 20000 := by
  obtain ⟨n, e, h⟩ := uint_mod room 20000 (by omega) (by omega)
  exact ⟨n, e, by omega, by omega⟩
 have HAW := hyd awake15_calls
 have HOPS := hyd hops
 clear hops hlc hcm
 go_enter Tryz.func4, Tryz.ntmps4
 go_wp2_with fail
 refine (HAW.out _).mono ?_; rintro e w1 ⟨rfl, hk1⟩
 have h0 : Own w0 w1 [rObj w0.heap.size w0.heap.size (i3Obj x0 x1 x2)] := ((Own.start w0).alloc (i3Obj x0 x1 x2)).quiet hk1
 obtain ⟨d, w2, hnew, ho2⟩ := h0.new r0 hr0 (by omega)
 obtain ⟨r, w3, hrn, ho3⟩ := ho2.rnew r0
 have hop := opened15_calls ho3.swap (Good.new (room := r0) hr0 (by omega)) (by omega) (by rw [topen_empty]; intro size fs e; cases e; exact ⟨FSorted.nil, (by simp), (by simp), (by simp)⟩)
 rw [topen_empty] at hop
 have HOP := hyd hop
 have HRR := hyd (And.intro hr0 hr1)
 have AX := hyd (show ∃ rs : List (Res w0.heap.size), rs = [rObj w0.heap.size w0.heap.size (i3Obj x0 x1 x2)] from ⟨_, rfl⟩)
 clear h0 hk1 ho2 ho3 hop HAW
 go_wp2_with fail
 refine hnew.out.mono ?_; rintro e w' ⟨rfl, rfl⟩
 go_wp2_with fail
 refine hrn.out.mono ?_; rintro e w' ⟨rfl, rfl⟩
 clear hnew hrn
 go_wp2_with fail
 refine HOP.out.mono ?_
 rintro e w4 (⟨hn, _⟩ | ⟨size, fs, j, t, b, hres, hg, _⟩ | ⟨size, fs, j, t, b, g, ve, vl, es, hres, hg, rfl, h4⟩)
 ·cases hn
 ·cases hres
  cases hg
 cases hres
 cases hg
 have hst := QSt.start HRR.out.1 (by have := HRR.out.2; omega) h4
 unfold nmT at hst
 have HST := hyd hst
 clear h4 hst HOP AX
 go_wp2_with fail
 refine HST.out.mono ?_
 rintro e w5 ⟨u, rfl, hgo⟩
 have HGO := hyd hgo
 clear hgo HST
 go_wp2_with fail
 refine HGO.out.mono ?_
 rintro e w6 ⟨gy, rfl, hst⟩
 have HR0 := hyd (⟨0, [], _, _, _, _, rfl, Nat.zero_le _, Nat.zero_le _, rfl, rfl, rfl, rfl, hst⟩ : QRel w0 [rObj w0.heap.size w0.heap.size (i3Obj x0 x1 x2)] d r len r0 (.pointer (some ⟨g, 0, none⟩)) (.pointer (some ⟨t, 0, none⟩)) (.pointer (some ⟨u, 0, none⟩)) (.pointer (some ⟨gy, 0, none⟩)) (.int .i64 0) w6)
 clear hst HGO
 go_upto_block 0 with fail
 go_cut [10, 11, 12, 13, 14, 15, 17, 18] from 61 to 167 (fun lo tv _ uv _ gv _ _ wx => QEnd w0 [rObj w0.heap.size w0.heap.size (i3Obj x0 x1 x2)] d r r0 lo tv uv gv wx)
 case first =>
  as_aux_lemma =>
   go_wp2_with fail
   go_loopw [10, 11, 13, 15, 61] (fun lo tv uv gv iv wx => QRel w0 [rObj w0.heap.size w0.heap.size (i3Obj x0 x1 x2)] d r len r0 lo tv uv gv iv wx) (fun _ _ _ _ iv _ => len - (intOf iv).toNat)
   case atStart => exact HR0.out
   case round =>
    obtain ⟨k, es, gl, ta, ua, gya, rfl, hk, hk40, rfl, rfl, rfl, rfl, hst⟩ := hrel
    clear HR0
    have j0 : (0 : Int) ≤ k := by omega
    by_cases hlt : k < len
    ·obtain ⟨x, o, pv, la, lc, rfl, c0, c1, c2, c3, c4, hl1, hl2, hin, hrd, hn1, hn2, hm1, hm2⟩ := HOPS.out k hlt
     have c0 := cell_keep c0 hst.keeps
     have c1 := cell_keep c1 hst.keeps
     have c2 := cell_keep c2 hst.keeps
     have c3 := cell_keep c3 hst.keeps
     have c4 := cell_keep c4 hst.keeps
     obtain ⟨oK, oP, oL, oN, oM⟩ := o
     simp only at c0 c1 c2 c3 c4 hl1 hin hrd hn1 hn2 hm1 hm2
     obtain ⟨pa, pc, rfl, -, -⟩ := hrd.form
     have j2 : (k : Int) < len := by omega
     have hbx := hst.box (opGObj oK (.slice pa oP.length pc) (.slice la oL.length lc) oN oM)
     have hfa := fair15_calls (k0 := oK) (n0 := oN) (m0 := oM) (c := lc) (hrd.keep hbx.keeps) (hin.keep hbx.keeps) (Nat.le_trans hl1 hl2)
     have HBX := hyd hbx
     have HFA := hyd hfa
     have HRD := hyd hrd
     have HIN := hyd hin
     have HN := hyd (⟨hn1, hn2⟩ : -9223372036854775808 ≤ oN ∧ oN ≤ 9223372036854775807)
     have HLT := hyd hlt
     clear hst hin hl1 hl2 hrd hbx hfa hk hlt hn1 hn2 hm1 hm2
     by_cases h40 : k = 40
     ·have j3 : (40 : Int) ≤ k := by omega
      have HG := hyd (⟨_, _, _, _, _, _, _, by omega, by omega, rfl, rfl, rfl, rfl, HBX.out.drop⟩ : QEnd w0 [rObj w0.heap.size w0.heap.size (i3Obj x0 x1 x2)] d r r0 (.pointer (some gl)) (.pointer (some ta)) (.pointer (some ua)) (.pointer (some gya)) _)
      clear h40 hk40
      go_wp2_with fail
      go_meet
      exact HG.out
     ·have j3 : ¬ (40 : Int) ≤ k := by omega
      have HK40 := hyd (by omega : k < 40)
      clear h40 hk40
      go_wp2_with fail
      refine HFA.out.mono ?_
      rintro e w5 ⟨rfl, hk5⟩
      have h5 := HBX.out.quiet hk5
      generalize hwb : wr.heap.size = wb at *
      have H5 := hyd h5
      clear HFA HBX hk5 h5 hwb c0 c1 c2 c3 c4
      cases hs : fairB oL oP with
      | false =>
       have HG := hyd (⟨_, _, _, _, _, _, _, by have := HK40.out; omega, by have := HK40.out; omega, rfl, rfl, rfl, rfl, H5.out.drop⟩ : QEnd w0 [rObj w0.heap.size w0.heap.size (i3Obj x0 x1 x2)] d r r0 (.pointer (some gl)) (.pointer (some ta)) (.pointer (some ua)) (.pointer (some gya)) _)
       clear hs H5
       go_wp2_with fail
       go_meet
       exact HG.out
      | true =>
       have HFB := hyd hs
       clear hs
       obtain ⟨q0, q1, q2, q3, q4⟩ := opG_at (H5.out.obj (t := wb) (o := opGObj oK (.slice pa oP.length pc) (.slice la oL.length lc) oN oM) (List.mem_cons_self ..))
       go_upto_if 75 with fail
       go_cut [12] from 62 to 167 (fun _ wx => QFirst w0 [rObj w0.heap.size wb (opGObj oK (.slice pa oP.length pc) (.slice la oL.length lc) oN oM), rObj w0.heap.size w0.heap.size (i3Obj x0 x1 x2)] d r r0 oK k (.pointer (some gl)) (.pointer (some ta)) (.pointer (some ua)) (.pointer (some gya)) wx)
       case first =>
        as_aux_lemma =>
         by_cases e0 : oK = 0
         ·subst e0
          have hadd := (H5.out.quiet (Keeps.refl _ w5).drew).addAll (by have := HK40.out; omega) (by have := HK40.out; omega) HRD.out (lc := lc) HIN.out HFB.out
          have HADD := hyd hadd
          have HC := hyd (fun (W : World) (hb : W.heap[wb]? = some (opGObj 0 (.slice pa oP.length pc) (.slice la oL.length lc) oN oM)) => (⟨(opG_at hb).2.1, (opG_at hb).2.2.1⟩ : W.cell? ⟨wb, 1, none⟩ = some (.slice pa oP.length pc) ∧ W.cell? ⟨wb, 2, none⟩ = some (.slice la oL.length lc)))
          have hc5 := HC.out _ ((H5.out.quiet (Keeps.refl _ w5).drew).obj (t := wb) (o := (opGObj 0 (.slice pa oP.length pc) (.slice la oL.length lc) oN oM)) (List.mem_cons_self ..))
          clear hadd
          go_upto_region 16 with fail
          go_region_held3 (fun w' => w'.cell? ⟨wb, 1, none⟩ = some (.slice pa oP.length pc) ∧ w'.cell? ⟨wb, 2, none⟩ = some (.slice la oL.length lc)) (first | exact hc5 | exact hc6 | exact hc7 | exact hc8 | exact hc9 | go_keep) (first | (go_at_call 20; refine HADD.out.mono ?_; rintro e w6 ⟨ya, yc, rfl, hb6, h6⟩; have hc6 := HC.out w6 hb6) | (go_at_call 11; refine h6.mono ?_; rintro e w7 ⟨ca, cc, rfl, hb7, co, h7⟩; have hc7 := HC.out w7 hb7) | (go_at_call 19; refine h7.mono ?_; rintro e w8 ⟨rfl, hb8, h8⟩; have hc8 := HC.out w8 hb8) | (go_at_call 21; refine h8.mono ?_; rintro e w9 ⟨rfl, hb9, es', h9⟩; have hc9 := HC.out w9 hb9))
          all_goals
           have HG := hyd (Or.inr ⟨rfl, _, h9⟩ : QFirst w0 [rObj w0.heap.size wb (opGObj 0 (.slice pa oP.length pc) (.slice la oL.length lc) oN oM), rObj w0.heap.size w0.heap.size (i3Obj x0 x1 x2)] d r r0 0 k (.pointer (some gl)) (.pointer (some ta)) (.pointer (some ua)) (.pointer (some gya)) w9)
           clear h6 h7 h8 h9 hb6 hb7 hb8 hb9 hc5 hc6 hc7 hc8 hc9
           go_wp2_with fail
           go_meet
           exact HG.out
         ·have n0 : (oK == 0) = false := by rw [beq_eq_false_iff_ne]; exact e0
          by_cases e1 : oK = 1
          ·subst e1
           have HDO := hyd (H5.out.fuse (by have := HK40.out; omega) oN oM HN.out.2)
           clear n0 e0
           go_wp2_with fail
           refine HDO.out.mono ?_
           rintro e w6 ⟨rfl, h6⟩
           have HG := hyd (Or.inr ⟨rfl, _, h6⟩ : QFirst w0 [rObj w0.heap.size wb (opGObj 1 (.slice pa oP.length pc) (.slice la oL.length lc) oN oM), rObj w0.heap.size w0.heap.size (i3Obj x0 x1 x2)] d r r0 1 k (.pointer (some gl)) (.pointer (some ta)) (.pointer (some ua)) (.pointer (some gya)) w6)
           clear h6
           go_wp2_with fail
           go_meet
           exact HG.out
          ·have n1 : (oK == 1) = false := by rw [beq_eq_false_iff_ne]; exact e1
           by_cases e2 : oK = 2
           ·subst e2
            have HDO := hyd (H5.out.crash (by have := HK40.out; omega) oN oM HN.out.2)
            clear n0 n1 e0 e1
            go_wp2_with fail
            refine HDO.out.mono ?_
            rintro e w6 ⟨rfl, m, h6⟩
            have HG := hyd (Or.inl ⟨rfl, m, h6.1, (by obtain ⟨x, a, b⟩ := h6.2.1; exact ⟨x, a.mono (Nat.le_succ _), b⟩), h6.2.2⟩ : QFirst w0 [rObj w0.heap.size wb (opGObj 2 (.slice pa oP.length pc) (.slice la oL.length lc) oN oM), rObj w0.heap.size w0.heap.size (i3Obj x0 x1 x2)] d r r0 2 k (.pointer (some gl)) (.pointer (some ta)) (.pointer (some ua)) (.pointer (some gya)) w6)
            clear h6
            go_wp2_with fail
            go_meet
            exact HG.out
           ·have n2 : (oK == 2) = false := by rw [beq_eq_false_iff_ne]; exact e2
            have HG := hyd (Or.inr ⟨n2, _, H5.out.more⟩ : QFirst w0 [rObj w0.heap.size wb (opGObj oK (.slice pa oP.length pc) (.slice la oL.length lc) oN oM), rObj w0.heap.size w0.heap.size (i3Obj x0 x1 x2)] d r r0 oK k (.pointer (some gl)) (.pointer (some ta)) (.pointer (some ua)) (.pointer (some gya)) w5)
            clear e0 e1 e2
            go_wp2_with fail
            go_meet
            exact HG.out
       case rest =>
        have hbo : wc.heap[wb]? = some (opGObj oK (.slice pa oP.length pc) (.slice la oL.length lc) oN oM) := by
         rcases hcut with ⟨-, m, h6⟩ | ⟨-, es', h6⟩
         ·exact (h6.2.2.at (b := wb) (o := (opGObj oK (.slice pa oP.length pc) (.slice la oL.length lc) oN oM)) (by simp)).1
         ·exact h6.obj (by simp)
        obtain ⟨q0', -, -, -, -⟩ := opG_at hbo
        have HCUT := hyd hcut
        clear H5 q0 q1 q2 q3 q4 hbo hcut
        go_upto_if 113 with fail
        go_cut [10, 11, 12, 13, 14, 15] from 62 to 167 (fun lo tv _ uv _ gv wx => ∃ (es : List (List UInt8)) (gl t u gy : Addr), lo = .pointer (some gl) ∧ tv = .pointer (some t) ∧ uv = .pointer (some u) ∧ gv = .pointer (some gy) ∧ QSt w0 wx d r r0 (3 * k + 3) (3 * k + 1) es [rObj w0.heap.size wb (opGObj oK (.slice pa oP.length pc) (.slice la oL.length lc) oN oM), rObj w0.heap.size w0.heap.size (i3Obj x0 x1 x2)] lo tv uv gv)
        case first =>
         as_aux_lemma =>
          rcases HCUT.out with ⟨e2, m, h6⟩ | ⟨n2, es', h6⟩
          ·obtain ⟨c, hop⟩ := h6.open (by have := HK40.out; omega) (by have := HK40.out; omega)
           unfold nmT at hop
           have HOP := hyd hop
           clear hop h6 q0' HCUT
           go_wp2_with fail
           refine HOP.out.mono ?_
           rintro e w6 (⟨hc, rfl, -, -, h7⟩ | ⟨rfl, lo', tv', rfl, -, -, h7⟩)
           ·have H7 := hyd h7
            clear h7 HOP hc
            go_wp2_with fail
            refine H7.out.mono ?_
            rintro e w7 ⟨rfl, hk7⟩
            have HB := hyd hk7.below
            clear hk7 H7
            go_wp2_with fail
            go_ret
            exact ⟨rfl, HB.out⟩
           ·have H7 := hyd h7
            clear h7 HOP
            go_wp2_with fail
            refine H7.out.mono ?_
            rintro e w7 ⟨uv', rfl, -, -, h8⟩
            have H8 := hyd h8
            clear h8 H7
            go_wp2_with fail
            refine H8.out.mono ?_
            rintro e w8 ⟨gv', es', rfl, h9⟩
            have HG := hyd h9
            clear h9 H8
            go_wp2_with fail
            go_meet
            exact ⟨_, _, _, _, _, rfl, rfl, rfl, rfl, HG.out⟩
          ·have HG := hyd (h6.up (i' := 3 * k + 3) (k' := 3 * k + 1) (by omega) (by omega))
           clear h6 q0' HCUT
           go_wp2_with fail
           go_meet
           exact ⟨_, _, _, _, _, rfl, rfl, rfl, rfl, HG.out⟩
        case rest =>
         obtain ⟨es', gl', ta', ua', gya', rfl, rfl, rfl, rfl, h9⟩ := hcut
         clear q0' HCUT
         obtain ⟨hi9, hek, hsz, -, u', gy', pla, pln, plc, pra, prc, e1, e2, hcells, hi11⟩ := h9.askq (by have := HK40.out; omega) (by have := HK40.out; omega)
         cases e1
         cases e2
         have hrel : ∀ wx, Keeps (fun _ => False) wc wx → QRel w0 [rObj w0.heap.size w0.heap.size (i3Obj x0 x1 x2)] d r len r0 (.pointer (some gl')) (.pointer (some ta')) (.pointer (some ⟨u', 0, none⟩)) (.pointer (some ⟨gy', 0, none⟩)) (.int .i64 ((k + 1 : Nat) : Int)) wx := fun wx hk => ⟨k + 1, es', _, _, _, _, rfl, HLT.out, HK40.out, rfl, rfl, rfl, rfl, ((h9.quiet hk).drop).up (by omega) (by omega)⟩
         have HREL := hyd hrel
         have HI11 := hyd hi11
         have HSZ := hyd hsz
         have HC := hyd hcells
         have HI9 := hyd hi9
         clear hrel h9 hi9 hi11 hsz hcells hek
         generalize es'.length = el at *
         go_upto_region 27 with fail
         refine wp_region_held_drew (S := fun w' => Keeps (fun _ => False) wc w') (by kernel_rfl) (by exact (Keeps.refl _ wc).drew) (fun hHeld => ?_)
         generalize wc.drew = w27 at *
         refine tkH 0 144 (.pointer (some gl')) rfl (by kernel_rfl) (by kernel_rfl) (by kernel_rfl) (fun _ _ _ h => h) (Or.inl ⟨by rfl, by intro w hSw; (try dsimp only at hSw); go_simp⟩) hHeld ?_
         try simp only [Act.put, sA, sZ, sS]
         refine tkH 2 146 (.pointer (some ⟨gy', 0, none⟩)) rfl (by kernel_rfl) (by kernel_rfl) (by kernel_rfl) (fun _ _ _ h => h) (Or.inl ⟨by rfl, by intro w hSw; (try dsimp only at hSw); go_simp⟩) hHeld ?_
         try simp only [Act.put, sA, sZ, sS]
         refine tkH 3 147 (.pointer (some ⟨gy', 0, none⟩)) rfl (by kernel_rfl) (by kernel_rfl) (by kernel_rfl) (fun _ _ _ h => h) (Or.inl ⟨by rfl, by intro w hSw; (try dsimp only at hSw); go_simp⟩) hHeld ?_
         try simp only [Act.put, sA, sZ, sS]
         refine tkH 4 148 (.pointer (some ⟨gy', 1, none⟩)) rfl (by kernel_rfl) (by kernel_rfl) (by kernel_rfl) (fun _ _ _ h => h) (Or.inl ⟨by rfl, by intro w hSw; (try dsimp only at hSw); go_simp⟩) hHeld ?_
         try simp only [Act.put, sA, sZ, sS]
         refine tkH 5 149 (.slice pra el prc) rfl (by kernel_rfl) (by kernel_rfl) (by kernel_rfl) (fun _ _ _ h => h) (Or.inl ⟨by rfl, by intro w hSw; (try dsimp only at hSw); (have q0 := (HC.out _ hSw).2; go_simp)⟩) hHeld ?_
         try simp only [Act.put, sA, sZ, sS]
         refine tkH 6 150 (.int .i64 (el : Int)) rfl (by kernel_rfl) (by kernel_rfl) (by kernel_rfl) (fun _ _ _ h => h) (Or.inl ⟨by rfl, by intro w hSw; (try dsimp only at hSw); go_simp⟩) hHeld ?_
         try simp only [Act.put, sA, sZ, sS]
         refine wpAnyH_ready (rs := [1]) (by kernel_rfl) (by simp) ?_
         refine AllReadyH.cons (o := { dst := some 145, op := _, type := _, pos := _, after := _, guard := _ }) rfl (fun K hK => ?_) AllReadyH.nil
         go_simp
         go_at_call 15
         refine (HSZ.out _ hHeld).out.mono ?_
         rintro e w7 ⟨rfl, rfl⟩
         refine hK.out _ _ (by exact hHeld) (fun hHeld1 => ?_)
         clear hK K
         try simp only [Act.put, sA, sZ, sS]
         refine tkH 7 151 (.bool false) rfl (by kernel_rfl) (by kernel_rfl) (by kernel_rfl) (fun _ _ _ h => h) (Or.inl ⟨by rfl, by intro w hSw; (try dsimp only at hSw); go_simp⟩) hHeld1 ?_
         try simp only [Act.put, sA, sZ, sS]
         refine tkH 8 152 (.bool false) rfl (by kernel_rfl) (by kernel_rfl) (by kernel_rfl) (fun _ _ _ h => h) (Or.inl ⟨by rfl, by intro w hSw; (try dsimp only at hSw); go_simp⟩) hHeld1 ?_
         try simp only [Act.put, sA, sZ, sS]
         refine tkH 9 153 (.pointer (some ⟨d, 0, none⟩)) rfl (by kernel_rfl) (by kernel_rfl) (by kernel_rfl) (fun _ _ _ h => h) (Or.inl ⟨by rfl, by intro w hSw; (try dsimp only at hSw); go_simp⟩) hHeld1 ?_
         try simp only [Act.put, sA, sZ, sS]
         refine tkH 10 154 (.pointer (some ⟨r, 0, none⟩)) rfl (by kernel_rfl) (by kernel_rfl) (by kernel_rfl) (fun _ _ _ h => h) (Or.inl ⟨by rfl, by intro w hSw; (try dsimp only at hSw); go_simp⟩) hHeld1 ?_
         try simp only [Act.put, sA, sZ, sS]
         refine wpAnyH_ready (rs := [11]) (by kernel_rfl) (by simp) ?_
         refine AllReadyH.cons (o := { dst := some 155, op := _, type := _, pos := _, after := _, guard := _ }) rfl (fun K hK => ?_) AllReadyH.nil
         go_simp
         go_at_call 23
         refine (HI9.out _ hHeld1).mono ?_
         rintro e w8 ⟨rfl, hk8⟩
         refine hK.out _ _ (by exact hHeld1.trans hk8 (fun _ _ e => e)) (fun hHeld2 => ?_)
         clear hK K
         try simp only [Act.put, sA, sZ, sS]
         refine tkH 12 156 (.bool false) rfl (by kernel_rfl) (by kernel_rfl) (by kernel_rfl) (fun _ _ _ h => h) (Or.inl ⟨by rfl, by intro w hSw; (try dsimp only at hSw); go_simp⟩) hHeld2 ?_
         try simp only [Act.put, sA, sZ, sS]
         refine tkH 13 157 (.bool false) rfl (by kernel_rfl) (by kernel_rfl) (by kernel_rfl) (fun _ _ _ h => h) (Or.inl ⟨by rfl, by intro w hSw; (try dsimp only at hSw); go_simp⟩) hHeld2 ?_
         try simp only [Act.put, sA, sZ, sS]
         refine tkH 14 158 (.bool false) rfl (by kernel_rfl) (by kernel_rfl) (by kernel_rfl) (fun _ _ _ h => h) (Or.inl ⟨by rfl, by intro w hSw; (try dsimp only at hSw); go_simp⟩) hHeld2 ?_
         try simp only [Act.put, sA, sZ, sS]
         refine tkH 15 159 (.pointer (some ta')) rfl (by kernel_rfl) (by kernel_rfl) (by kernel_rfl) (fun _ _ _ h => h) (Or.inl ⟨by rfl, by intro w hSw; (try dsimp only at hSw); go_simp⟩) hHeld2 ?_
         try simp only [Act.put, sA, sZ, sS]
         refine tkH 16 160 (.pointer (some ⟨u', 0, none⟩)) rfl (by kernel_rfl) (by kernel_rfl) (by kernel_rfl) (fun _ _ _ h => h) (Or.inl ⟨by rfl, by intro w hSw; (try dsimp only at hSw); go_simp⟩) hHeld2 ?_
         try simp only [Act.put, sA, sZ, sS]
         refine tkH 17 161 (.pointer (some ⟨u', 0, none⟩)) rfl (by kernel_rfl) (by kernel_rfl) (by kernel_rfl) (fun _ _ _ h => h) (Or.inl ⟨by rfl, by intro w hSw; (try dsimp only at hSw); go_simp⟩) hHeld2 ?_
         try simp only [Act.put, sA, sZ, sS]
         refine tkH 18 162 (.pointer (some ⟨u', 1, none⟩)) rfl (by kernel_rfl) (by kernel_rfl) (by kernel_rfl) (fun _ _ _ h => h) (Or.inl ⟨by rfl, by intro w hSw; (try dsimp only at hSw); go_simp⟩) hHeld2 ?_
         try simp only [Act.put, sA, sZ, sS]
         refine tkH 19 163 (.slice pla pln plc) rfl (by kernel_rfl) (by kernel_rfl) (by kernel_rfl) (fun _ _ _ h => h) (Or.inl ⟨by rfl, by intro w hSw; (try dsimp only at hSw); (have q0 := (HC.out _ hSw).1; go_simp)⟩) hHeld2 ?_
         try simp only [Act.put, sA, sZ, sS]
         refine wpAnyH_ready (rs := [20]) (by kernel_rfl) (by simp) ?_
         refine AllReadyH.cons (o := { dst := some 164, op := _, type := _, pos := _, after := _, guard := _ }) rfl (fun K hK => ?_) AllReadyH.nil
         go_simp
         go_at_call 24
         refine (HI11.out _ hHeld2).mono ?_
         rintro e w9 ⟨rfl, hk9⟩
         refine hK.out _ _ (by exact hHeld2.trans hk9 (fun _ _ e => e)) (fun hHeld3 => ?_)
         clear hK K
         try simp only [Act.put, sA, sZ, sS]
         refine tkH 21 165 (.bool false) rfl (by kernel_rfl) (by kernel_rfl) (by kernel_rfl) (fun _ _ _ h => h) (Or.inl ⟨by rfl, by intro w hSw; (try dsimp only at hSw); go_simp⟩) hHeld3 ?_
         try simp only [Act.put, sA, sZ, sS]
         refine tkH 22 166 (.bool false) rfl (by kernel_rfl) (by kernel_rfl) (by kernel_rfl) (fun _ _ _ h => h) (Or.inl ⟨by rfl, by intro w hSw; (try dsimp only at hSw); go_simp⟩) hHeld3 ?_
         try simp only [Act.put, sA, sZ, sS]
         refine wpAnyH_done (by kernel_rfl) ?_ _
         have HG := hyd (HREL.out _ hHeld3)
         clear hk8 hk9 hHeld hHeld1 hHeld2 hHeld3 HC HI11 HSZ HI9
         go_wp2_with fail
         go_roundw
         case rel => exact HG.out
         case measure => have := HLT.out; simp [intOf]; omega
    ·obtain rfl : k = len := by omega
     have HG := hyd (⟨_, _, _, _, _, _, _, by omega, by omega, rfl, rfl, rfl, rfl, hst⟩ : QEnd w0 [rObj w0.heap.size w0.heap.size (i3Obj x0 x1 x2)] d r r0 (.pointer (some gl)) (.pointer (some ta)) (.pointer (some ua)) (.pointer (some gya)) _)
     clear hst hlt hk hk40
     go_wp2_with fail
     go_meet
     exact HG.out
 case rest =>
  obtain ⟨i, k, es, gl, ta, ua, gya, hi, hk, rfl, rfl, rfl, rfl, hst⟩ := hcut
  obtain ⟨-, hek, -, ht, u', gy', pla, pln, plc, pra, prc, e1, e2, hcells, -⟩ := hst.askq hi hk
  cases e2
  have hc : ∀ W, Keeps (fun _ => False) wc W → (W.cell? ⟨gy', 1, none⟩ = some (.slice pra es.length prc) ∧ W.cell? ⟨w0.heap.size, 0, none⟩ = some (.int .i64 x0) ∧ W.cell? ⟨w0.heap.size, 1, none⟩ = some (.int .i64 x1) ∧ W.cell? ⟨w0.heap.size, 2, none⟩ = some (.int .i64 x2)) := fun W hW => by
   have hb := (hst.quiet hW).obj (t := w0.heap.size) (o := i3Obj x0 x1 x2) (by simp)
   exact ⟨(hcells W hW).2, cell_at hb rfl, cell_at hb rfl, cell_at hb rfl⟩
  have HC := hyd hc
  have HT := hyd ht
  have HB := hyd (fun W (hW : Keeps (fun _ => False) wc W) => (hst.quiet hW).keeps.below)
  obtain ⟨n1, N, n2, M0, M1, hw1, hw2, hz1, hN, hw3, hw4, hz2, hM0, hM1⟩ := ask_nums x0 x1 x2 es.length (Nat.le_trans hek hk)
  clear hst ht hc hcells hi hk hek HOPS HR0 hr hr0 hr1
  generalize es.length = el at *
  go_upto_region 30 with fail
  refine wp_region_held_drew (S := fun w' => Keeps (fun _ => False) wc w') (by kernel_rfl) (by exact (Keeps.refl _ wc).drew) (fun hHeld => ?_)
  generalize wc.drew = w30 at *
  refine tkH 0 168 (.pointer (some ⟨w0.heap.size, 2, none⟩)) rfl (by kernel_rfl) (by kernel_rfl) (by kernel_rfl) (fun _ _ _ h => h) (Or.inl ⟨by rfl, by intro w hSw; (try dsimp only at hSw); go_simp⟩) hHeld ?_
  try simp only [Act.put, sA, sZ, sS]
  refine tkH 1 169 (.int .i64 x2) rfl (by kernel_rfl) (by kernel_rfl) (by kernel_rfl) (fun _ _ _ h => h) (Or.inl ⟨by rfl, by intro w hSw; (try dsimp only at hSw); (have q0 := (HC.out _ hSw).2.2.2; go_simp)⟩) hHeld ?_
  try simp only [Act.put, sA, sZ, sS]
  refine tkH 2 170 (.int .u64 (IntKind.u64.wrap x2)) rfl (by kernel_rfl) (by kernel_rfl) (by kernel_rfl) (fun _ _ _ h => h) (Or.inl ⟨by rfl, by intro w hSw; (try dsimp only at hSw); go_simp⟩) hHeld ?_
  try simp only [Act.put, sA, sZ, sS]
  refine tkH 3 171 (.pointer (some ⟨gy', 0, none⟩)) rfl (by kernel_rfl) (by kernel_rfl) (by kernel_rfl) (fun _ _ _ h => h) (Or.inl ⟨by rfl, by intro w hSw; (try dsimp only at hSw); go_simp⟩) hHeld ?_
  try simp only [Act.put, sA, sZ, sS]
  refine tkH 4 172 (.pointer (some ⟨gy', 0, none⟩)) rfl (by kernel_rfl) (by kernel_rfl) (by kernel_rfl) (fun _ _ _ h => h) (Or.inl ⟨by rfl, by intro w hSw; (try dsimp only at hSw); go_simp⟩) hHeld ?_
  try simp only [Act.put, sA, sZ, sS]
  refine tkH 5 173 (.pointer (some ⟨gy', 1, none⟩)) rfl (by kernel_rfl) (by kernel_rfl) (by kernel_rfl) (fun _ _ _ h => h) (Or.inl ⟨by rfl, by intro w hSw; (try dsimp only at hSw); go_simp⟩) hHeld ?_
  try simp only [Act.put, sA, sZ, sS]
  refine tkH 6 174 (.slice pra el prc) rfl (by kernel_rfl) (by kernel_rfl) (by kernel_rfl) (fun _ _ _ h => h) (Or.inl ⟨by rfl, by intro w hSw; (try dsimp only at hSw); (have q0 := (HC.out _ hSw).1; go_simp)⟩) hHeld ?_
  try simp only [Act.put, sA, sZ, sS]
  refine tkH 7 175 (.int .i64 (el : Int)) rfl (by kernel_rfl) (by kernel_rfl) (by kernel_rfl) (fun _ _ _ h => h) (Or.inl ⟨by rfl, by intro w hSw; (try dsimp only at hSw); go_simp⟩) hHeld ?_
  try simp only [Act.put, sA, sZ, sS]
  refine tkH 8 176 (.int .i64 (n1 : Int)) rfl (by kernel_rfl) (by kernel_rfl) (by kernel_rfl) (fun _ _ _ h => h) (Or.inl ⟨by rfl, by intro w hSw; (try dsimp only at hSw); (go_simp; exact (IntWalk.i64_left _).trans hw1)⟩) hHeld ?_
  try simp only [Act.put, sA, sZ, sS]
  refine tkH 9 177 (.int .u64 (n1 : Int)) rfl (by kernel_rfl) (by kernel_rfl) (by kernel_rfl) (fun _ _ _ h => h) (Or.inl ⟨by rfl, by intro w hSw; (try dsimp only at hSw); go_simp⟩) hHeld ?_
  try simp only [Act.put, sA, sZ, sS]
  refine tkH 10 178 (.int .u64 ((IntKind.u64.wrap x2).tmod n1)) rfl (by kernel_rfl) (by kernel_rfl) (by kernel_rfl) (fun _ _ _ h => h) (Or.inl ⟨by rfl, by intro w hSw; (try dsimp only at hSw); (go_simp <;> exact hz1)⟩) hHeld ?_
  try simp only [Act.put, sA, sZ, sS]
  refine tkH 11 179 (.int .i64 (N : Int)) rfl (by kernel_rfl) (by kernel_rfl) (by kernel_rfl) (fun _ _ _ h => h) (Or.inl ⟨by rfl, by intro w hSw; (try dsimp only at hSw); (go_simp; exact (IntWalk.i64_left _).trans hN)⟩) hHeld ?_
  try simp only [Act.put, sA, sZ, sS]
  refine tkH 12 19 (.int .i64 (N : Int)) rfl (by kernel_rfl) (by kernel_rfl) (by kernel_rfl) (fun _ _ _ h => h) (Or.inl ⟨by rfl, by intro w hSw; (try dsimp only at hSw); go_simp⟩) hHeld ?_
  try simp only [Act.put, sA, sZ, sS]
  refine wpAnyH_done (by kernel_rfl) ?_ _
  go_upto_region 31 with fail
  refine wp_region_held_drew (S := fun w' => Keeps (fun _ => False) wc w') (by kernel_rfl) (by exact hHeld.drew) (fun hHeld => ?_)
  generalize w30.drew = w31 at *
  refine tkH 0 180 (.pointer (some gl)) rfl (by kernel_rfl) (by kernel_rfl) (by kernel_rfl) (fun _ _ _ h => h) (Or.inl ⟨by rfl, by intro w hSw; (try dsimp only at hSw); go_simp⟩) hHeld ?_
  try simp only [Act.put, sA, sZ, sS]
  refine tkH 1 181 (.pointer (some ⟨gy', 0, none⟩)) rfl (by kernel_rfl) (by kernel_rfl) (by kernel_rfl) (fun _ _ _ h => h) (Or.inl ⟨by rfl, by intro w hSw; (try dsimp only at hSw); go_simp⟩) hHeld ?_
  try simp only [Act.put, sA, sZ, sS]
  refine tkH 2 182 (.pointer (some ⟨w0.heap.size, 0, none⟩)) rfl (by kernel_rfl) (by kernel_rfl) (by kernel_rfl) (fun _ _ _ h => h) (Or.inl ⟨by rfl, by intro w hSw; (try dsimp only at hSw); go_simp⟩) hHeld ?_
  try simp only [Act.put, sA, sZ, sS]
  refine tkH 3 183 (.int .i64 (x0 : Int)) rfl (by kernel_rfl) (by kernel_rfl) (by kernel_rfl) (fun _ _ _ h => h) (Or.inl ⟨by rfl, by intro w hSw; (try dsimp only at hSw); (have q0 := (HC.out _ hSw).2.1; go_simp)⟩) hHeld ?_
  try simp only [Act.put, sA, sZ, sS]
  refine tkH 4 184 (.pointer (some ⟨w0.heap.size, 1, none⟩)) rfl (by kernel_rfl) (by kernel_rfl) (by kernel_rfl) (fun _ _ _ h => h) (Or.inl ⟨by rfl, by intro w hSw; (try dsimp only at hSw); go_simp⟩) hHeld ?_
  try simp only [Act.put, sA, sZ, sS]
  refine tkH 5 185 (.int .i64 (x1 : Int)) rfl (by kernel_rfl) (by kernel_rfl) (by kernel_rfl) (fun _ _ _ h => h) (Or.inl ⟨by rfl, by intro w hSw; (try dsimp only at hSw); (have q0 := (HC.out _ hSw).2.2.1; go_simp)⟩) hHeld ?_
  try simp only [Act.put, sA, sZ, sS]
  refine tkH 6 186 (.pointer (some ⟨w0.heap.size, 2, none⟩)) rfl (by kernel_rfl) (by kernel_rfl) (by kernel_rfl) (fun _ _ _ h => h) (Or.inl ⟨by rfl, by intro w hSw; (try dsimp only at hSw); go_simp⟩) hHeld ?_
  try simp only [Act.put, sA, sZ, sS]
  refine tkH 7 187 (.int .i64 (x2 : Int)) rfl (by kernel_rfl) (by kernel_rfl) (by kernel_rfl) (fun _ _ _ h => h) (Or.inl ⟨by rfl, by intro w hSw; (try dsimp only at hSw); (have q0 := (HC.out _ hSw).2.2.2; go_simp)⟩) hHeld ?_
  try simp only [Act.put, sA, sZ, sS]
  refine wpAnyH_ready (rs := [8]) (by kernel_rfl) (by simp) ?_
  refine AllReadyH.cons (o := { dst := some 188, op := _, type := _, pos := _, after := _, guard := _ }) rfl (fun K hK => ?_) AllReadyH.nil
  go_simp
  go_at_call 16
  refine (HT.out _ _ _ _ hHeld).mono ?_
  rintro e w8 ⟨rfl, hk8⟩
  refine hK.out _ _ (by exact hHeld.trans hk8 (fun _ _ e => e)) (fun hHeld1 => ?_)
  clear hK K
  try simp only [Act.put, sA, sZ, sS]
  refine tkH 9 189 (.bool true) rfl (by kernel_rfl) (by kernel_rfl) (by kernel_rfl) (fun _ _ _ h => h) (Or.inl ⟨by rfl, by intro w hSw; (try dsimp only at hSw); go_simp⟩) hHeld1 ?_
  try simp only [Act.put, sA, sZ, sS]
  refine tkH 10 190 (.pointer (some gl)) rfl (by kernel_rfl) (by kernel_rfl) (by kernel_rfl) (fun _ _ _ h => h) (Or.inl ⟨by rfl, by intro w hSw; (try dsimp only at hSw); go_simp⟩) hHeld1 ?_
  try simp only [Act.put, sA, sZ, sS]
  refine tkH 11 191 (.pointer (some ⟨gy', 0, none⟩)) rfl (by kernel_rfl) (by kernel_rfl) (by kernel_rfl) (fun _ _ _ h => h) (Or.inl ⟨by rfl, by intro w hSw; (try dsimp only at hSw); go_simp⟩) hHeld1 ?_
  try simp only [Act.put, sA, sZ, sS]
  refine tkH 12 192 (.pointer (some ⟨w0.heap.size, 0, none⟩)) rfl (by kernel_rfl) (by kernel_rfl) (by kernel_rfl) (fun _ _ _ h => h) (Or.inl ⟨by rfl, by intro w hSw; (try dsimp only at hSw); go_simp⟩) hHeld1 ?_
  try simp only [Act.put, sA, sZ, sS]
  refine tkH 13 193 (.int .i64 (x0 : Int)) rfl (by kernel_rfl) (by kernel_rfl) (by kernel_rfl) (fun _ _ _ h => h) (Or.inl ⟨by rfl, by intro w hSw; (try dsimp only at hSw); (have q0 := (HC.out _ hSw).2.1; go_simp)⟩) hHeld1 ?_
  try simp only [Act.put, sA, sZ, sS]
  refine tkH 14 194 (.int .u64 (IntKind.u64.wrap x0)) rfl (by kernel_rfl) (by kernel_rfl) (by kernel_rfl) (fun _ _ _ h => h) (Or.inl ⟨by rfl, by intro w hSw; (try dsimp only at hSw); go_simp⟩) hHeld1 ?_
  try simp only [Act.put, sA, sZ, sS]
  refine tkH 15 195 (.int .i64 (N : Int)) rfl (by kernel_rfl) (by kernel_rfl) (by kernel_rfl) (fun _ _ _ h => h) (Or.inl ⟨by rfl, by intro w hSw; (try dsimp only at hSw); go_simp⟩) hHeld1 ?_
  try simp only [Act.put, sA, sZ, sS]
  refine tkH 16 196 (.int .i64 (n2 : Int)) rfl (by kernel_rfl) (by kernel_rfl) (by kernel_rfl) (fun _ _ _ h => h) (Or.inl ⟨by rfl, by intro w hSw; (try dsimp only at hSw); (go_simp; exact (IntWalk.i64_left _).trans hw3)⟩) hHeld1 ?_
  try simp only [Act.put, sA, sZ, sS]
  refine tkH 17 197 (.int .u64 (n2 : Int)) rfl (by kernel_rfl) (by kernel_rfl) (by kernel_rfl) (fun _ _ _ h => h) (Or.inl ⟨by rfl, by intro w hSw; (try dsimp only at hSw); go_simp⟩) hHeld1 ?_
  try simp only [Act.put, sA, sZ, sS]
  refine tkH 18 198 (.int .u64 ((IntKind.u64.wrap x0).tmod n2)) rfl (by kernel_rfl) (by kernel_rfl) (by kernel_rfl) (fun _ _ _ h => h) (Or.inl ⟨by rfl, by intro w hSw; (try dsimp only at hSw); (go_simp <;> exact hz2)⟩) hHeld1 ?_
  try simp only [Act.put, sA, sZ, sS]
  refine tkH 19 199 (.int .i64 (M0 : Int)) rfl (by kernel_rfl) (by kernel_rfl) (by kernel_rfl) (fun _ _ _ h => h) (Or.inl ⟨by rfl, by intro w hSw; (try dsimp only at hSw); (go_simp; exact (IntWalk.i64_left _).trans hM0)⟩) hHeld1 ?_
  try simp only [Act.put, sA, sZ, sS]
  refine tkH 20 200 (.pointer (some ⟨w0.heap.size, 1, none⟩)) rfl (by kernel_rfl) (by kernel_rfl) (by kernel_rfl) (fun _ _ _ h => h) (Or.inl ⟨by rfl, by intro w hSw; (try dsimp only at hSw); go_simp⟩) hHeld1 ?_
  try simp only [Act.put, sA, sZ, sS]
  refine tkH 21 201 (.int .i64 (x1 : Int)) rfl (by kernel_rfl) (by kernel_rfl) (by kernel_rfl) (fun _ _ _ h => h) (Or.inl ⟨by rfl, by intro w hSw; (try dsimp only at hSw); (have q0 := (HC.out _ hSw).2.2.1; go_simp)⟩) hHeld1 ?_
  try simp only [Act.put, sA, sZ, sS]
  refine tkH 22 202 (.int .u64 (IntKind.u64.wrap x1)) rfl (by kernel_rfl) (by kernel_rfl) (by kernel_rfl) (fun _ _ _ h => h) (Or.inl ⟨by rfl, by intro w hSw; (try dsimp only at hSw); go_simp⟩) hHeld1 ?_
  try simp only [Act.put, sA, sZ, sS]
  refine tkH 23 203 (.int .i64 (N : Int)) rfl (by kernel_rfl) (by kernel_rfl) (by kernel_rfl) (fun _ _ _ h => h) (Or.inl ⟨by rfl, by intro w hSw; (try dsimp only at hSw); go_simp⟩) hHeld1 ?_
  try simp only [Act.put, sA, sZ, sS]
  refine tkH 24 204 (.int .i64 (n2 : Int)) rfl (by kernel_rfl) (by kernel_rfl) (by kernel_rfl) (fun _ _ _ h => h) (Or.inl ⟨by rfl, by intro w hSw; (try dsimp only at hSw); (go_simp; exact (IntWalk.i64_left _).trans hw3)⟩) hHeld1 ?_
  try simp only [Act.put, sA, sZ, sS]
  refine tkH 25 205 (.int .u64 (n2 : Int)) rfl (by kernel_rfl) (by kernel_rfl) (by kernel_rfl) (fun _ _ _ h => h) (Or.inl ⟨by rfl, by intro w hSw; (try dsimp only at hSw); go_simp⟩) hHeld1 ?_
  try simp only [Act.put, sA, sZ, sS]
  refine tkH 26 206 (.int .u64 ((IntKind.u64.wrap x1).tmod n2)) rfl (by kernel_rfl) (by kernel_rfl) (by kernel_rfl) (fun _ _ _ h => h) (Or.inl ⟨by rfl, by intro w hSw; (try dsimp only at hSw); (go_simp <;> exact hz2)⟩) hHeld1 ?_
  try simp only [Act.put, sA, sZ, sS]
  refine tkH 27 207 (.int .i64 (M1 : Int)) rfl (by kernel_rfl) (by kernel_rfl) (by kernel_rfl) (fun _ _ _ h => h) (Or.inl ⟨by rfl, by intro w hSw; (try dsimp only at hSw); (go_simp; exact (IntWalk.i64_left _).trans hM1)⟩) hHeld1 ?_
  try simp only [Act.put, sA, sZ, sS]
  refine tkH 28 208 (.int .i64 (N : Int)) rfl (by kernel_rfl) (by kernel_rfl) (by kernel_rfl) (fun _ _ _ h => h) (Or.inl ⟨by rfl, by intro w hSw; (try dsimp only at hSw); go_simp⟩) hHeld1 ?_
  try simp only [Act.put, sA, sZ, sS]
  refine wpAnyH_ready (rs := [29]) (by kernel_rfl) (by simp) ?_
  refine AllReadyH.cons (o := { dst := some 209, op := _, type := _, pos := _, after := _, guard := _ }) rfl (fun K hK => ?_) AllReadyH.nil
  go_simp
  go_at_call 16
  refine (HT.out _ _ _ _ hHeld1).mono ?_
  rintro e w9 ⟨rfl, hk9⟩
  refine hK.out _ _ (by exact hHeld1.trans hk9 (fun _ _ e => e)) (fun hHeld2 => ?_)
  clear hK K
  try simp only [Act.put, sA, sZ, sS]
  refine tkH 30 210 (.bool true) rfl (by kernel_rfl) (by kernel_rfl) (by kernel_rfl) (fun _ _ _ h => h) (Or.inl ⟨by rfl, by intro w hSw; (try dsimp only at hSw); go_simp⟩) hHeld2 ?_
  try simp only [Act.put, sA, sZ, sS]
  refine tkH 31 6 (.bool true) rfl (by kernel_rfl) (by kernel_rfl) (by kernel_rfl) (fun _ _ _ h => h) (Or.inl ⟨by rfl, by intro w hSw; (try dsimp only at hSw); go_simp⟩) hHeld2 ?_
  try simp only [Act.put, sA, sZ, sS]
  refine wpAnyH_done (by kernel_rfl) ?_ _
  have HG := hyd (HB.out _ hHeld2)
  clear hk8 hk9 hHeld hHeld1 hHeld2 HC HT HB
  go_wp2_with fail
  go_ret
  exact ⟨rfl, HG.out⟩
end Go.Proofs.YtddnikpdmjogiaaGreat
