/- A part of the proof. -/
import Derived.Test.YtddnikpdmjogiaaGreatYb8
import Derived.Test.YtddnikpdmjogiaaGreatYb9
namespace Go.Proofs.YtddnikpdmjogiaaGreat
set_option linter.unusedVariables false
open Go.RowKit Go.MapKept
theorem info_r11change : (Tryz.prog.info? 38).map (fun i => (i.zero, i.size, i.bytes)) = some (some (.agg #[.string ⟨#[]⟩, .bool false, .slice none 0 0]), 3, 48) := by kernel_rfl
theorem rreadtext_key {w : World} {v : Value} {b : List UInt8} (h : Reads w v b) (hb : b.length ≤ 1099511627776) : Calls Tryz.prog 90 #[v, .int .i64 320] w (RTPost w (readTextOf b 320)) := rreadtext_calls h hb 320 (by omega)
theorem rreadtext_val {w : World} {v : Value} {b : List UInt8} (h : Reads w v b) (hb : b.length ≤ 1099511627776) : Calls Tryz.prog 90 #[v, .int .i64 262144] w (RTPost w (readTextOf b 262144)) := rreadtext_calls h hb 262144 (by omega)
def RDecPost (w : World) (r : Option (List TCh)) (e : Ending) (w' : World) : Prop := ∃ v, e = .returned (.tuple #[v, .int .i64 (if r.isSome = true then 0 else 10)]) ∧ Keeps (fun _ => False) w w' ∧ ∀ l, r = some l → TChsAt 38 w.heap.size w' v l
theorem RDecPost.no {w wx : World} {r : Option (List TCh)} (hr : r = none) (hk : Keeps (fun _ => False) w wx) : RDecPost w r (.returned (.tuple #[.slice none 0 0, .int .i64 10])) wx := by
 subst hr
 exact ⟨_, rfl, hk, fun l hl => by cases hl⟩
set_option maxRecDepth 100000 in
set_option maxHeartbeats 1000000 in
theorem rdecode_calls {w : World} {v : Value} {b : List UInt8} (h : Reads w v b) (hb : b.length ≤ 1099511627776) : Calls Tryz.prog 29 #[v] w (RDecPost w (decOf b)) := by
 have HC := hyd (rreadcount_calls h)
 have hle := readCount_le b
 have hlt := readCount_lt b
 obtain ⟨n, u, e, hr⟩ : ∃ n u e, readCountOf b = (n, u, e) := ⟨_, _, _, rfl⟩
 have hd : decOf b = if e = 0 ∧ n ≤ 256 then decFrom n (b.drop u) [] else none := by unfold decOf; rw [hr]
 rw [hr] at HC hle hlt
 simp only at hle hlt
 obtain ⟨a, c, rfl, hc1, hc2⟩ := h.form
 have H := hyd h
 have HD := hyd hd
 have HBL := hyd hb
 unfold maxLen at hc2
 have i1 : (b.length : Int) ≤ 1099511627776 := by omega
 have i2 : (u : Int) ≤ b.length := by omega
 have i5 : (0 : Int) ≤ u := by omega
 have i4 : (0 : Int) ≤ n := by omega
 have HLE := hyd hle
 clear h hd hlt hb hc1 hc2 hle hr
 go_enter Tryz.func29, Tryz.ntmps29
 go_wp2_with fail
 refine HC.out.mono ?_
 rintro e1 w1 ⟨rfl, hk1⟩
 have HK1 := hyd hk1
 clear hk1 HC
 unfold rcVal
 by_cases he : e = 0
 ·subst he
  by_cases hn : 256 < n
  ·have hd := HD.out
   rw [if_neg (by omega)] at hd
   have j1 : (256 : Int) < n := by omega
   have HF := hyd (RDecPost.no hd HK1.out)
   clear hd hn
   go_wp2_with fail
   go_ret2
   exact HF.out
  have hd := HD.out
  rw [if_pos ⟨rfl, by omega⟩] at hd
  have HD2 := hyd hd
  have j1 : ¬ (256 : Int) < n := by omega
  have n1 : (n : Int) ≤ 256 := by omega
  clear hd hn
  go_wp2_with fail
  go_loopw [7, 8, 9] (fun av ov iv wx => ∃ (k p : Nat) (out : List TCh), k ≤ n ∧ iv = .int .i64 (k : Int) ∧ av = .int .i64 (p : Int) ∧ p ≤ b.length ∧ out.length = k ∧ decOf b = decFrom (n - k) (b.drop p) out ∧ TChsAt 38 w.heap.size wx ov out ∧ Keeps (fun _ => False) w wx) (fun _ _ iv _ => n - (intOf iv).toNat)
  case atStart => exact ⟨0, u, [], Nat.zero_le _, rfl, rfl, HLE.out, rfl, HD2.out, TChsAt.nil _ _ _, HK1.out⟩
  case round =>
   obtain ⟨k, p, out, hk, rfl, rfl, hp, hol, hinv, ho, hq⟩ := hrel
   clear HD HD2 HK1 i2 i5 HLE
   have k0 : (0 : Int) ≤ k := by omega
   have p0 : (0 : Int) ≤ p := by omega
   obtain ⟨oa, oc, rfl⟩ := ho.form
   by_cases hlt : k < n
   ·have j2 : (k : Int) < n := by omega
    rw [decFrom_succ hlt] at hinv
    have hk1 : k + 1 ≤ n := by omega
    by_cases hpl : p = b.length
    ·subst hpl
     rw [List.drop_length] at hinv
     have HF := hyd (RDecPost.no hinv hq)
     clear hinv ho hq hlt hk hol hp HBL
     go_wp2_with fail
     go_ret2
     exact HF.out
    ·have p1 : (p : Int) < b.length := by omega
     have p2 : ¬ (b.length : Int) ≤ p := by omega
     obtain ⟨x, rfl, hx⟩ := (H.out.keep hq).cell rfl (show p < b.length by omega)
     rw [List.drop_eq_getElem_cons (show p < b.length by omega)] at hinv
     have hzl := b[p].toNat_lt
     generalize b[p] = z at hx hzl hinv
     by_cases hz1 : 1 < z.toNat
     ·rw [decCh_cons, if_pos hz1] at hinv
      have HF := hyd (RDecPost.no hinv hq)
      have j3 : (1 : Int) < z.toNat := by omega
      clear hinv ho hq hlt hk hol hz1 hzl hp hpl HBL
      go_wp2_with fail
      go_ret2
      exact HF.out
     ·obtain ⟨gone, hgo⟩ : ∃ gone : Bool, ((z.toNat : Int) == 0) = gone := ⟨_, rfl⟩
      have hgn : (z.toNat = 0) ↔ gone = true := by rw [← hgo]; simp
      have j3 : ¬ (1 : Int) < z.toNat := by omega
      rw [decCh_cons, if_neg hz1] at hinv
      obtain ⟨a1, d1, hs1, hr1⟩ := tail_run H.out (p + 1) (by omega)
      obtain ⟨n9, hn9⟩ : ∃ n9, b.length - (p + 1) = n9 := ⟨_, rfl⟩
      rw [hn9] at hs1 hr1
      have hs1' : ∀ W, (Instr.sliceAt 36 (.slice (some x) b.length c) (some (.int .i64 ((p : Int) + 1))) none none).run Tryz.prog W = .ok (.slice a1 n9 d1) W := by
       have e1 : ((p + 1 : Nat) : Int) = (p : Int) + 1 := by omega
       rw [← e1]; exact hs1
      obtain ⟨kb, u1, ec, hrt⟩ : ∃ kb u1 ec, readTextOf (b.drop (p + 1)) 320 = (kb, u1, ec) := ⟨_, _, _, rfl⟩
      have hul := readText_le (b.drop (p + 1)) 320
      rw [hrt] at hinv hul
      simp only at hinv hul
      have hB := heap_alloc_new wr (.cells #[.string ⟨#[]⟩, .bool gone, .slice none 0 0] 38)
      have hka : Keeps (fun _ => False) w (wr.alloc (.cells #[.string ⟨#[]⟩, .bool gone, .slice none 0 0] 38)) := hq.trans ((Keeps.refl _ wr).alloc _) (fun _ _ e => e)
      have HRT := hyd (rreadtext_key (w := wr.alloc (.cells #[.string ⟨#[]⟩, .bool gone, .slice none 0 0] 38)) (hr1.keep hka) (by rw [List.length_drop]; have := HBL.out; omega))
      rw [hrt] at HRT
      have hdl : (b.drop (p + 1)).length = b.length - (p + 1) := List.length_drop
      have uu0 : (0 : Int) ≤ u1 := by omega
      have uu2 : (p : Int) + 1 + u1 ≤ b.length := by omega
      have HP3 := hyd (show p + 1 + u1 ≤ b.length by omega)
      have HINV := hyd hinv
      have HO := hyd ho
      have HQ := hyd hq
      have HB := hyd hB
      have HOL := hyd hol
      have HGN := hyd hgn
      clear hrt hul hinv ho hq hB hz1 hzl hol hgn hs1 hr1 hka hn9 hdl hp hpl hk hlt
      generalize (z.toNat : Int) = zi at hx hgo j3
      go_wp2_with fail
      refine HRT.out.mono ?_
      rintro e w2 ⟨kv, rfl, hok, hkk⟩
      obtain ⟨ka, kc, rfl, -, -⟩ := hok.bytes.form
      have HOK := hyd hok
      have HKK := hyd hkk
      have HKW := hyd ((HQ.out.alloc _).trans hkk (fun _ _ e => e))
      clear hok hkk HRT
      by_cases hok : ec = 0 ∧ kb ≠ []
      ·obtain ⟨rfl, hkb⟩ := hok
       have hinv := HINV.out
       rw [if_pos ⟨rfl, hkb⟩] at hinv
       have hkl : ((kb.length : Int) == 0) = false := by have := List.length_pos_iff.2 hkb; simp; intro e; rw [e] at this; simp at this
       have hkl0 : (0 : Int) ≤ kb.length := by omega
       have hcv := Reads.str (w := w2) HOK.out.bytes.reads
       have hB2 := HKK.out.at HB.out (fun e => e)
       have hk2 : Keeps (fun _ => False) wr w2 := ((Keeps.refl _ wr).alloc _).trans HKK.out (fun _ _ e => e)
       have q0 : w2.cell? ⟨wr.heap.size, 0, none⟩ = some (.string ⟨#[]⟩) := cell_at (i := 0) hB2 rfl
       have f0 : w2.frozen? ⟨wr.heap.size, 0, none⟩ = false := free_at hB2 0
       have hB3 := heap_setCell_eq (w := w2) hB2 0 (.string ⟨kb.toArray⟩)
       have hk3 : Keeps (fun _ => False) wr (w2.setCell ⟨wr.heap.size, 0, none⟩ (.string ⟨kb.toArray⟩)) := hk2.setCell (fun h => absurd h (Nat.lt_irrefl _)) _
       have q1 := cell_at (i := 0) hB3 rfl
       have q2 := cell_at (i := 1) hB3 rfl
       have q3 := cell_at (i := 2) hB3 rfl
       rw [List.drop_drop] at hinv
       cases gone with
       | true =>
        rw [if_pos (HGN.out.2 rfl)] at hinv
        have hat := HP3.out
        obtain ⟨a7, k7, w7, hrun7, ho7, hk7, hb7⟩ := TChsAt.push (T := 38) (Ts := 22) info_r11change Tryz.underlying22 (by decide) (c := ⟨⟨kb.toArray⟩, true, []⟩) HO.out HQ.out.size hk3 (Owns.nil _ _) (by have := HOL.out; omega)
        have hkw : Keeps (fun _ => False) w w7 := (HQ.out.trans hk3 (fun _ _ e => e)).trans hk7 (fun b hb e => by have := hb7 b e; omega)
        have HREL := hyd (⟨k + 1, p + 1 + u1, out ++ [⟨⟨kb.toArray⟩, true, []⟩], hk1, rfl, rfl, hat, by simp; exact HOL.out, hinv, ho7, hkw⟩ : ∃ (k' p' : Nat) (out' : List TCh), k' ≤ n ∧ Value.int .i64 ((k + 1 : Nat) : Int) = .int .i64 (k' : Int) ∧ Value.int .i64 ((p + 1 + u1 : Nat) : Int) = .int .i64 (p' : Int) ∧ p' ≤ b.length ∧ out'.length = k' ∧ decOf b = decFrom (n - k') (b.drop p') out' ∧ TChsAt 38 w.heap.size w7 (.slice a7 (out.length + 1) k7) out' ∧ Keeps (fun _ => False) w w7)
        dsimp only at hrun7
        rw [World.size_setCell] at hrun7
        have HRUN := hyd hrun7
        clear hinv hkb hB2 hk2 hB3 hk3 HINV HOK HKK HB hrun7 ho7 hk7 hb7 hkw HP3 hat HGN HO HQ HBL
        go_wp2_with (first | (at_builtin; refine wpList_append_run (w := (w2.setCell ⟨wr.heap.size, 0, none⟩ (.string ⟨kb.toArray⟩)).alloc (.cells #[.string ⟨kb.toArray⟩, .bool true, .slice none 0 0] 38)) rfl _ _ _ _ rfl rfl rfl HRUN.out ?_))
        go_roundw
        case rel => exact HREL.out
        case measure => simp [intOf]; omega
       | false =>
        have hz : ¬ z.toNat = 0 := fun h => absurd (HGN.out.1 h) (by simp)
        rw [if_neg hz] at hinv
        have hkw3 : Keeps (fun _ => False) w (w2.setCell ⟨wr.heap.size, 0, none⟩ (.string ⟨kb.toArray⟩)) := HQ.out.trans hk3 (fun _ _ e => e)
        obtain ⟨a4, d4, hs4, hr4⟩ := tail_run H.out (p + 1 + u1) HP3.out
        have hln : b.length - (p + 1 + u1) = (b.drop (p + 1 + u1)).length := by rw [List.length_drop]
        rw [hln] at hs4 hr4
        have hs4' : ∀ W, (Instr.sliceAt 36 (.slice (some x) b.length c) (some (.int .i64 ((p : Int) + 1 + (u1 : Int)))) none none).run Tryz.prog W = .ok (.slice a4 (b.drop (p + 1 + u1)).length d4) W := by
         have e1 : ((p + 1 + u1 : Nat) : Int) = (p : Int) + 1 + (u1 : Int) := by omega
         rw [← e1]; exact hs4
        obtain ⟨n4, hn4⟩ : ∃ n4, (b.drop (p + 1 + u1)).length = n4 := ⟨_, rfl⟩
        rw [hn4] at hs4' hr4
        have HRV := hyd (rreadtext_val (hr4.keep hkw3) (by rw [List.length_drop]; have := HBL.out; omega))
        have hul := readText_le (b.drop (p + 1 + u1)) 262144
        obtain ⟨vb, u5, ev, hrv⟩ : ∃ vb u5 ev, readTextOf (b.drop (p + 1 + u1)) 262144 = (vb, u5, ev) := ⟨_, _, _, rfl⟩
        rw [hrv] at HRV hinv hul
        simp only at hinv hul
        have hdl : (b.drop (p + 1 + u1)).length = b.length - (p + 1 + u1) := List.length_drop
        have hat : p + 1 + u1 + u5 ≤ b.length := by have := HP3.out; omega
        have v0 : (0 : Int) ≤ u5 := by omega
        have v1 : (p : Int) + 1 + u1 + u5 ≤ b.length := by omega
        rw [List.drop_drop] at hinv
        have HINV5 := hyd hinv
        have HAT := hyd hat
        have HB3 := hyd hB3
        have HK3 := hyd hk3
        clear hrv hinv hul hr4 hs4 hln hn4 hdl hat hz hkb hB2 hk2 hB3 hk3 HINV HOK HKK HB hkw3 HP3
        go_wp2_with fail
        refine HRV.out.mono ?_
        rintro e w4 ⟨vv, rfl, hov, hkv⟩
        obtain ⟨va, vc, rfl, -, -⟩ := hov.bytes.form
        have hB4 := hkv.at HB3.out (fun e => e)
        have hk4 : Keeps (fun _ => False) wr w4 := HK3.out.trans hkv (fun _ _ e => e)
        have r2 : w4.cell? ⟨wr.heap.size, 2, none⟩ = some (.slice none 0 0) := cell_at (i := 2) hB4 rfl
        have f2 : w4.frozen? ⟨wr.heap.size, 2, none⟩ = false := free_at hB4 2
        have hk5 : Keeps (fun _ => False) wr (w4.setCell ⟨wr.heap.size, 2, none⟩ (.slice va vb.length vc)) := hk4.setCell (fun h => absurd h (Nat.lt_irrefl _)) _
        have hk45 : Keeps (fun b => b = wr.heap.size) w4 (w4.setCell ⟨wr.heap.size, 2, none⟩ (.slice va vb.length vc)) := Keeps.setCell (p := ⟨wr.heap.size, 2, none⟩) (Keeps.refl (fun b => b = wr.heap.size) w4) (fun _ => rfl) _
        have hkw : Keeps (fun _ => False) w (w4.setCell ⟨wr.heap.size, 2, none⟩ (.slice va vb.length vc)) := HQ.out.trans hk5 (fun _ _ e => e)
        have hB5 := heap_setCell_eq hB4 2 (.slice va vb.length vc)
        have ho5 : Owns (w4.setCell ⟨wr.heap.size, 2, none⟩ (.slice va vb.length vc)) wr.heap.size (.slice va vb.length vc) vb := by
         refine Owns.base (owns_keep hov hk45 (fun b hb e => ?_)) HK3.out.size
         subst e
         obtain ⟨cur, e2⟩ := ownsRow_type hov hb
         rw [hB4] at e2
         simp only [Option.some.injEq, Obj.cells.injEq] at e2
         exact absurd e2.2.1 (by decide)
        by_cases hev : ev = 0
        ·subst hev
         have hinv := HINV5.out
         rw [if_pos rfl] at hinv
         have hat := HAT.out
         have s1 := cell_at (i := 0) hB5 rfl
         have s2 := cell_at (i := 1) hB5 rfl
         have s3 := cell_at (i := 2) hB5 rfl
         obtain ⟨a7, k7, w7, hrun7, ho7, hk7, hb7⟩ := TChsAt.push (T := 38) (Ts := 22) info_r11change Tryz.underlying22 (by decide) (c := ⟨⟨kb.toArray⟩, false, vb⟩) HO.out HQ.out.size hk5 ho5 (by have := HOL.out; omega)
         have hkw : Keeps (fun _ => False) w w7 := hkw.trans hk7 (fun b hb e => by have := hb7 b e; omega)
         have HREL := hyd (⟨k + 1, p + 1 + u1 + u5, out ++ [⟨⟨kb.toArray⟩, false, vb⟩], hk1, rfl, rfl, hat, by simp; exact HOL.out, hinv, ho7, hkw⟩ : ∃ (k' p' : Nat) (out' : List TCh), k' ≤ n ∧ Value.int .i64 ((k + 1 : Nat) : Int) = .int .i64 (k' : Int) ∧ Value.int .i64 ((p + 1 + u1 + u5 : Nat) : Int) = .int .i64 (p' : Int) ∧ p' ≤ b.length ∧ out'.length = k' ∧ decOf b = decFrom (n - k') (b.drop p') out' ∧ TChsAt 38 w.heap.size w7 (.slice a7 (out.length + 1) k7) out' ∧ Keeps (fun _ => False) w w7)
         dsimp only at hrun7
         rw [World.size_setCell] at hrun7
         have HRUN := hyd hrun7
         clear hinv hrun7 ho7 hk7 hb7 hkw hat HGN HO HQ HBL hk5 hB5 ho5 hk45 hk4 hB4 hov hkv HRV HINV5 HAT HK3 HB3 HKW
         go_wp2_with (first | (at_builtin; refine wpList_append_run (w := (w4.setCell ⟨wr.heap.size, 2, none⟩ (.slice va vb.length vc)).alloc (.cells #[.string ⟨kb.toArray⟩, .bool false, .slice va vb.length vc] 38)) rfl _ _ _ _ rfl rfl rfl HRUN.out ?_))
         go_roundw
         case rel => exact HREL.out
         case measure => simp [intOf]; omega
        ·have hinv := HINV5.out
         rw [if_neg hev] at hinv
         have HF := hyd (RDecPost.no hinv (HQ.out.trans hk4 (fun _ _ e => e)))
         have he2 : (ev != 0) = true := by simpa using hev
         clear hinv hev hk5 hB5 ho5 hkw hk45 hk4 hB4 hov hkv HRV HINV5
         go_wp2_with fail
         go_ret2
         exact HF.out
      ·have hinv := HINV.out
       rw [if_neg hok] at hinv
       have HF := hyd (RDecPost.no hinv HKW.out)
       clear hinv
       by_cases h0 : ec = 0
       ·subst h0
        have hkb : kb = [] := by
         cases kb with
         | nil => rfl
         | cons y ys => exact absurd ⟨rfl, by simp⟩ hok
        subst hkb
        clear hok
        go_wp2_with fail
        go_ret2
        exact HF.out
       ·have he2 : (ec != 0) = true := by simpa using h0
        clear hok h0
        go_wp2_with fail
        go_ret2
        exact HF.out
   ·obtain rfl : k = n := by omega
    rw [Nat.sub_self, decFrom] at hinv
    have HF := hyd (show RDecPost w (decOf b) (.returned (.tuple #[.slice oa out.length oc, .int .i64 0])) wr ∨ p ≠ b.length from by
     by_cases hpl : p = b.length
     ·rw [hpl, List.drop_length, if_pos rfl] at hinv
      refine .inl ?_
      rw [hinv]
      exact ⟨_, rfl, hq, fun l hl => by cases hl; exact ho⟩
     ·exact .inr hpl)
    have HF2 := hyd (show p ≠ b.length → RDecPost w (decOf b) (.returned (.tuple #[.slice none 0 0, .int .i64 10])) wr from fun hpl => by
     rw [if_neg (fun e => hpl (by have := List.drop_eq_nil_iff.1 e; omega))] at hinv
     exact RDecPost.no hinv hq)
    clear hinv ho hq hlt hk hol HBL
    by_cases hpl : p = b.length
    ·have HF3 := hyd (HF.out.resolve_right (fun h => h hpl))
     subst hpl
     clear HF HF2 hp
     go_wp2_with fail
     go_ret2
     exact HF3.out
    ·have HF3 := hyd (HF2.out hpl)
     have hb2 : ((p : Int) != (b.length : Int)) = true := by simp; omega
     clear HF HF2 hp hpl
     go_wp2_with fail
     go_ret2
     exact HF3.out
 ·have hd := HD.out
  rw [if_neg (fun h => he h.1)] at hd
  have he2 : (e != 0) = true := by simpa using he
  have HF := hyd (RDecPost.no hd HK1.out)
  clear he hd
  go_wp2_with fail
  go_ret2
  exact HF.out
end Go.Proofs.YtddnikpdmjogiaaGreat
