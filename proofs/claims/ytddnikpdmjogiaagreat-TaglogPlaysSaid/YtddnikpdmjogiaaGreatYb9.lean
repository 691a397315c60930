/- A part of the proof. -/
import Derived.Test.YtddnikpdmjogiaaGreatYb0
import Derived.Test.YtddnikpdmjogiaaGreatYb5
import Derived.Test.YtddnikpdmjogiaaGreatYb6
import Derived.Deep.DeepCutAuto
import Derived.Deep.CutBlock
namespace Go.Proofs.YtddnikpdmjogiaaGreat
set_option linter.unusedVariables false
open Go.RowKit Go.MapKept
theorem info_tchange : (Tryz.prog.info? 112).map (fun i => (i.zero, i.size, i.bytes)) = some (some (.agg #[.string ⟨#[]⟩, .bool false, .slice none 0 0]), 3, 48) := by kernel_rfl
theorem tail_run {w : World} {a : Option Addr} {n c : Nat} {l : List UInt8} (h : Reads w (.slice a n c) l) (i : Nat) (hi : i ≤ l.length) :
  ∃ a' c', (∀ W, (Instr.sliceAt 36 (.slice a n c) (some (.int .i64 (i : Int))) none none).run Tryz.prog W = .ok (.slice a' (l.length - i) c') W) ∧ Reads w (.slice a' (l.length - i) c') (l.drop i) := by
 obtain ⟨b, d, e, h1, h2⟩ := h.form
 cases e
 have h3 := h.cutP i (l.length - i) (by omega)
 have ht : (l.drop i).take (l.length - i) = l.drop i := List.take_of_length_le (by rw [List.length_drop]; omega)
 rw [ht] at h3
 refine ⟨_, _, fun W => ?_, h3⟩
 rw [run_sliceAt_slice _ _ _ _ _ _ elem_bytes, run_slice_l W 36 a l.length c elem_bytes .i64 (i : Int) (by omega) (by omega), size_u8]
 simp only [Result.andThen, sliced, Int.toNat_natCast, Nat.mul_one]
theorem readtext_key {w : World} {v : Value} {b : List UInt8} (h : Reads w v b) (hb : b.length ≤ 1099511627776) : Calls Tryz.prog 84 #[v, .int .i64 320] w (RTPost w (readTextOf b 320)) := readtext_calls h hb 320 (by omega)
theorem readtext_val {w : World} {v : Value} {b : List UInt8} (h : Reads w v b) (hb : b.length ≤ 1099511627776) : Calls Tryz.prog 84 #[v, .int .i64 262144] w (RTPost w (readTextOf b 262144)) := readtext_calls h hb 262144 (by omega)
def DecPost (w : World) (r : Option (List TCh)) (e : Ending) (w' : World) : Prop := ∃ v, e = .returned (.tuple #[v, .bool r.isSome]) ∧ Keeps (fun _ => False) w w' ∧ ∀ l, r = some l → TChsAt 112 w.heap.size w' v l
theorem DecPost.no {w wx : World} {r : Option (List TCh)} (hr : r = none) (hk : Keeps (fun _ => False) w wx) : DecPost w r (.returned (.tuple #[.slice none 0 0, .bool false])) wx := by
 subst hr
 exact ⟨_, rfl, hk, fun l hl => by cases hl⟩
theorem decFrom_succ {n k : Nat} (h : k < n) (b : List UInt8) (out : List TCh) : decFrom (n - k) b out = match decCh b with | none => none | some (c, b') => decFrom (n - (k + 1)) b' (out ++ [c]) := by
 rw [show n - k = (n - (k + 1)) + 1 by omega, decFrom]
 cases decCh b <;> rfl
theorem decCh_cons (z : UInt8) (b1 : List UInt8) : decCh (z :: b1) = if 1 < z.toNat then none
  else if (readTextOf b1 320).2.2 = 0 ∧ (readTextOf b1 320).1 ≠ [] then
   (if z.toNat = 0 then some (⟨⟨(readTextOf b1 320).1.toArray⟩, true, []⟩, b1.drop (readTextOf b1 320).2.1)
    else if (readTextOf (b1.drop (readTextOf b1 320).2.1) 262144).2.2 = 0 then some (⟨⟨(readTextOf b1 320).1.toArray⟩, false, (readTextOf (b1.drop (readTextOf b1 320).2.1) 262144).1⟩, (b1.drop (readTextOf b1 320).2.1).drop (readTextOf (b1.drop (readTextOf b1 320).2.1) 262144).2.1)
    else none)
  else none := rfl
set_option maxRecDepth 100000 in
set_option maxHeartbeats 1000000 in
theorem tdecode_calls {w : World} {v : Value} {b : List UInt8} (h : Reads w v b) (hb : b.length ≤ 1099511627776) : Calls Tryz.prog 26 #[v] w (DecPost w (decOf b)) := by
 have HC := hyd (readcount_calls h)
 have hle := readCount_le b
 have hlt := readCount_lt b
 obtain ⟨n, u, e, hr⟩ : ∃ n u e, readCountOf b = (n, u, e) := ⟨_, _, _, rfl⟩
 have hd : decOf b = if e = 0 ∧ n ≤ 256 then decFrom n (b.drop u) [] else none := by unfold decOf; rw [hr]
 rw [hr] at HC hle hlt
 simp only at hle hlt
 obtain ⟨a, c, rfl, hc1, hc2⟩ := h.form
 have H := hyd h
 have HD := hyd hd
 have HBL := hyd hb
 unfold maxLen at hc2
 have i2 : (u : Int) ≤ b.length := by omega
 have i5 : (0 : Int) ≤ u := by omega
 have i4 : (0 : Int) ≤ n := by omega
 have HLE := hyd hle
 clear h hd hlt hb hc1 hc2 hle hr
 go_enter Tryz.func26, Tryz.ntmps26
 go_wp2_with fail
 refine HC.out.mono ?_
 rintro e1 w1 ⟨rfl, hk1⟩
 have HK1 := hyd hk1
 have H1 := hyd H.out
 clear hk1 HC
 unfold rcVal
 by_cases he : e = 0
 ·subst he
  by_cases hn : 256 < n
  ·have hd := HD.out
   rw [if_neg (by omega)] at hd
   have j1 : (256 : Int) < n := by omega
   have HF := hyd (DecPost.no hd HK1.out)
   clear hd hn
   go_wp2_with fail
   go_ret2
   exact HF.out
  have hd := HD.out
  rw [if_pos ⟨rfl, by omega⟩] at hd
  obtain ⟨ta, tc, hsl, hrd⟩ := tail_run H1.out u HLE.out
  have hlen : b.length - u = (b.drop u).length := by rw [List.length_drop]
  rw [hlen] at hsl hrd
  have HD2 := hyd hd
  have HRD := hyd hrd
  have j1 : ¬ (256 : Int) < n := by omega
  have HBL2 := hyd (show (b.drop u).length ≤ 1099511627776 by rw [List.length_drop]; have := HBL.out; omega)
  generalize b.drop u = b0 at hsl HD2 HRD HBL2
  clear hd hrd hlen hn HLE
  go_wp2_with fail
  go_loopw [0, 7, 28] (fun bv ov iv wx => ∃ (k : Nat) (rest : List UInt8) (out : List TCh), k ≤ n ∧ iv = .int .u64 (k : Int) ∧ out.length = k ∧ rest.length ≤ b0.length ∧ Reads w bv rest ∧ decOf b = decFrom (n - k) rest out ∧ TChsAt 112 w.heap.size wx ov out ∧ Keeps (fun _ => False) w wx) (fun _ _ iv _ => n - (intOf iv).toNat)
  case atStart => exact ⟨0, b0, [], Nat.zero_le _, rfl, rfl, Nat.le_refl _, HRD.out, HD2.out, TChsAt.nil _ _ _, HK1.out⟩
  case round =>
   obtain ⟨k, rest, out, hk, rfl, hol, hrl, hrd, hinv, ho, hq⟩ := hrel
   clear HD HD2 HRD HK1 H1 H hsl i2 i5
   have k0 : (0 : Int) ≤ k := by omega
   have n1 : (n : Int) ≤ 256 := by omega
   have hrl2 : rest.length ≤ 1099511627776 := by have := HBL2.out; omega
   obtain ⟨ra, rc, rfl, _, hrc⟩ := hrd.form
   obtain ⟨oa, oc, rfl⟩ := ho.form
   by_cases hlt : k < n
   ·have j2 : (k : Int) < n := by omega
    rw [decFrom_succ hlt] at hinv
    have hk1 : k + 1 ≤ n := by omega
    cases rest with
    | nil =>
     have HF := hyd (DecPost.no hinv hq)
     clear hinv ho hq hrd hlt hk hol hrl hrl2 hrc HBL HBL2
     go_wp2_with fail
     go_ret2
     exact HF.out
    | cons z b1 =>
     obtain ⟨x, rfl, hx⟩ := (hrd.keep hq).cell (k := 0) rfl (by simp)
     rw [Addr.add_zero'] at hx
     simp only [List.getElem_cons_zero] at hx
     have hzl := z.toNat_lt
     have hzn : (z :: b1).length = b1.length + 1 := rfl
     have l0 : (0 : Int) ≤ b1.length := by omega
     by_cases hz1 : 1 < z.toNat
     ·rw [decCh_cons, if_pos hz1] at hinv
      have HF := hyd (DecPost.no hinv hq)
      have j3 : (1 : Int) < z.toNat := by omega
      clear hinv ho hq hrd hlt hk hol hrl hrl2 hrc hz1 hzl HBL HBL2
      go_wp2_with fail
      go_ret2
      exact HF.out
     ·obtain ⟨gone, hgo⟩ : ∃ gone : Bool, ((z.toNat : Int) == 0) = gone := ⟨_, rfl⟩
      have hgn : (z.toNat = 0) ↔ gone = true := by rw [← hgo]; simp
      have j3 : ¬ (1 : Int) < z.toNat := by omega
      rw [decCh_cons, if_neg hz1] at hinv
      obtain ⟨kb, u1, ec, hrt⟩ : ∃ kb u1 ec, readTextOf b1 320 = (kb, u1, ec) := ⟨_, _, _, rfl⟩
      have hul := readText_le b1 320
      rw [hrt] at hinv hul
      simp only at hinv hul
      have hB := heap_alloc_new wr (.cells #[.string ⟨#[]⟩, .bool gone, .slice none 0 0] 112)
      obtain ⟨a1, d1, hs1, hr1⟩ := tail_run hrd 1 (by simp)
      rw [List.drop_succ_cons, List.drop_zero, show (z :: b1).length - 1 = b1.length from rfl] at hr1
      have hs1' : ∀ W, (Instr.sliceAt 36 (.slice (some x) (b1.length + 1) rc) (some (.int .i64 1)) none none).run Tryz.prog W = .ok (.slice a1 b1.length d1) W := hs1
      have HRT := hyd (readtext_key (w := wr.alloc (.cells #[.string ⟨#[]⟩, .bool gone, .slice none 0 0] 112)) (hr1.keep (hq.trans ((Keeps.refl _ wr).alloc _) (fun _ _ e => e))) (by simp at hrl2; omega))
      rw [hrt] at HRT
      obtain ⟨a2, d2, hs2, hr2⟩ := tail_run hrd (1 + u1) (by rw [List.length_cons]; omega)
      have e2 : ((1 + u1 : Nat) : Int) = 1 + (u1 : Int) := by omega
      rw [show (z :: b1).drop (1 + u1) = b1.drop u1 by rw [Nat.add_comm, List.drop_succ_cons], show (z :: b1).length - (1 + u1) = (b1.drop u1).length by rw [List.length_cons, List.length_drop]; omega] at hr2
      rw [e2, show (z :: b1).length - (1 + u1) = (b1.drop u1).length by rw [List.length_cons, List.length_drop]; omega] at hs2
      rw [List.length_cons] at hs2
      have uu0 : (0 : Int) ≤ u1 := by omega
      have uu2 : (u1 : Int) ≤ b1.length := by omega
      have uu3 : (u1 : Int) ≤ 1099511627776 := by simp at hrl2; omega
      have hww : IntKind.i64.wrap (1 + (u1 : Int)) = 1 + (u1 : Int) := by simp [IntKind.wrap, IntKind.bits, IntKind.signed]; omega
      have HUL := hyd hul
      have HINV := hyd hinv
      have HO := hyd ho
      have HQ := hyd hq
      have HR2 := hyd hr2
      have HB := hyd hB
      have HRL := hyd hrl2
      have HOL := hyd hol
      have HGN := hyd hgn
      have HRLE := hyd hrl
      clear hrt hul hinv ho hq hrd hB hrl2 hrc hz1 hzl hol hgn HBL hr2 e2 hrl hs1 hr1
      generalize (z.toNat : Int) = zi at hx hgo j3
      go_wp2_with fail
      refine HRT.out.mono ?_
      rintro e w2 ⟨kv, rfl, hok, hkk⟩
      obtain ⟨ka, kc, rfl, _, _⟩ := hok.bytes.form
      have HOK := hyd hok
      have HKK := hyd hkk
      have HKW := hyd ((HQ.out.alloc _).trans hkk (fun _ _ e => e))
      clear hok hkk HRT
      by_cases hok : ec = 0 ∧ kb ≠ []
      ·obtain ⟨rfl, hkb⟩ := hok
       have hinv := HINV.out
       rw [if_pos ⟨rfl, hkb⟩] at hinv
       have hkl : ((kb.length : Int) == 0) = false := by have := List.length_pos_iff.2 hkb; simp; intro e; rw [e] at this; simp at this
       have hkl0 : (0 : Int) ≤ kb.length := by omega
       have hcv := Reads.str (w := w2.drew) (HOK.out.bytes.reads.keep ((Keeps.refl _ w2).drew))
       have hB2 := HKK.out.at HB.out (fun e => e)
       have hk2 : Keeps (fun _ => False) wr w2.drew := (((Keeps.refl _ wr).alloc _).trans HKK.out (fun _ _ e => e)).drew
       have q0 : w2.drew.cell? ⟨wr.heap.size, 0, none⟩ = some (.string ⟨#[]⟩) := cell_at (i := 0) hB2 rfl
       have f0 : w2.drew.frozen? ⟨wr.heap.size, 0, none⟩ = false := free_at hB2 0
       have hfin : ∀ wx, wx = w2.drew.setCell ⟨wr.heap.size, 0, none⟩ (.string ⟨kb.toArray⟩) → Reads w (.slice a2 (b1.length - u1) d2) (b1.drop u1) ∧ Keeps (fun _ => False) wr wx ∧ wx.heap[wr.heap.size]? = some (.cells #[.string ⟨kb.toArray⟩, .bool gone, .slice none 0 0] 112 (0, 0)) := fun wx e => by
        subst e
        have hkx : Keeps (fun _ => False) wr (w2.drew.setCell ⟨wr.heap.size, 0, none⟩ (.string ⟨kb.toArray⟩)) := hk2.setCell (fun h => absurd h (Nat.lt_irrefl _)) _
        exact ⟨by have := HR2.out; rw [List.length_drop] at this; exact this, hkx, heap_setCell_eq (w := w2.drew) hB2 0 _⟩
       have HFIN := hyd hfin
       have HINV2 := hyd hinv
       clear hinv hkb hB2 hk2 hfin HINV HOK HKK HB
       go_upto_region 14 with fail
       go_cut [0] from 58 to 64 (fun bv wx => Reads w bv (b1.drop u1) ∧ Keeps (fun _ => False) wr wx ∧ wx.heap[wr.heap.size]? = some (.cells #[.string ⟨kb.toArray⟩, .bool gone, .slice none 0 0] 112 (0, 0)))
       case first =>
        go_region_law (fail)
        all_goals
         go_wp2_with fail
         go_meet
         exact HFIN.out _ rfl
       case rest =>
        obtain ⟨hr3, hk3, hB3⟩ := hcut
        have q1 := cell_at (i := 1) hB3 rfl
        have hl3 : (b1.drop u1).length ≤ b0.length ∧ (b1.drop u1).length ≤ 1099511627776 := by
         have h1 := HRLE.out; have h2 := HRL.out
         rw [List.length_cons] at h1 h2
         rw [List.length_drop]; omega
        have hinv2 := HINV2.out
        clear HINV2 HRL HRLE HR2 HUL uu0 uu2 uu3
        generalize b1.drop u1 = r3 at hr3 hl3 hinv2
        obtain ⟨ra3, rc3, rfl, _, _⟩ := hr3.form
        have HL3 := hyd hl3
        have HINV2 := hyd hinv2
        clear hl3 hinv2
        have HR3 := hyd hr3
        have HK3 := hyd hk3
        have HB3 := hyd hB3
        clear hr3 hk3 hB3 HFIN hcv q0 f0 hww hs2 hs1' hx
        go_upto_if 67 with fail
        go_cut [0] from 69 to 79 (fun bv wx => ∃ (p : Value) (rest' val : List UInt8), decOf b = decFrom (n - (k + 1)) rest' (out ++ [⟨⟨kb.toArray⟩, gone, val⟩]) ∧ rest'.length ≤ b0.length ∧ Reads w bv rest' ∧ Keeps (fun _ => False) wr wx ∧ wx.heap[wr.heap.size]? = some (.cells #[.string ⟨kb.toArray⟩, .bool gone, p] 112 (0, 0)) ∧ Owns wx wr.heap.size p val)
        case first =>
         cases gone with
         | true =>
          have hfin : ∃ (p : Value) (rest' val : List UInt8), decOf b = decFrom (n - (k + 1)) rest' (out ++ [⟨⟨kb.toArray⟩, true, val⟩]) ∧ rest'.length ≤ b0.length ∧ Reads w (.slice ra3 r3.length rc3) rest' ∧ Keeps (fun _ => False) wr wc ∧ wc.heap[wr.heap.size]? = some (.cells #[.string ⟨kb.toArray⟩, .bool true, p] 112 (0, 0)) ∧ Owns wc wr.heap.size p val := by
           have hinv := HINV2.out
           rw [if_pos (HGN.out.2 rfl)] at hinv
           exact ⟨_, r3, [], hinv, HL3.out.1, HR3.out, HK3.out, HB3.out, Owns.nil _ _⟩
          have HF := hyd hfin
          clear hfin
          go_wp2_with fail
          go_meet
          exact HF.out
         | false =>
          have hz : ¬ z.toNat = 0 := fun h => absurd (HGN.out.1 h) (by simp)
          have hinv := HINV2.out
          rw [if_neg hz] at hinv
          have HRV := hyd (readtext_val (HR3.out.keep (HQ.out.trans HK3.out (fun _ _ e => e))) HL3.out.2)
          have hul := readText_le r3 262144
          obtain ⟨vb, u5, ev, hrv⟩ : ∃ vb u5 ev, readTextOf r3 262144 = (vb, u5, ev) := ⟨_, _, _, rfl⟩
          rw [hrv] at HRV hinv hul
          simp only at hinv hul
          obtain ⟨a5, d5, hs5, hr5⟩ := tail_run HR3.out u5 hul.1
          have hl5 : (r3.drop u5).length ≤ b0.length := by have := HL3.out.1; rw [List.length_drop]; omega
          have hln : r3.length - u5 = (r3.drop u5).length := by rw [List.length_drop]
          rw [hln] at hs5 hr5
          generalize r3.drop u5 = r5 at hs5 hr5 hl5 hinv
          have HINV5 := hyd hinv
          have HR5 := hyd hr5
          have HL5 := hyd hl5
          clear hrv hinv hul hr5 hl5 hln hz HINV2
          go_wp2_with fail
          refine HRV.out.mono ?_
          rintro e w4 ⟨vv, rfl, hov, hkv⟩
          obtain ⟨va, vc, rfl, _, _⟩ := hov.bytes.form
          have hB4 := hkv.at HB3.out (fun e => e)
          have hk4 : Keeps (fun _ => False) wr w4 := HK3.out.trans hkv (fun _ _ e => e)
          have q2 : w4.cell? ⟨wr.heap.size, 2, none⟩ = some (.slice none 0 0) := cell_at (i := 2) hB4 rfl
          have f2 : w4.frozen? ⟨wr.heap.size, 2, none⟩ = false := free_at hB4 2
          have hk5 : Keeps (fun _ => False) wr (w4.setCell ⟨wr.heap.size, 2, none⟩ (.slice va vb.length vc)) := hk4.setCell (fun h => absurd h (Nat.lt_irrefl _)) _
          have hk45 : Keeps (fun b => b = wr.heap.size) w4 (w4.setCell ⟨wr.heap.size, 2, none⟩ (.slice va vb.length vc)) := Keeps.setCell (p := ⟨wr.heap.size, 2, none⟩) (Keeps.refl (fun b => b = wr.heap.size) w4) (fun _ => rfl) _
          have hkw : Keeps (fun _ => False) w (w4.setCell ⟨wr.heap.size, 2, none⟩ (.slice va vb.length vc)) := HQ.out.trans hk5 (fun _ _ e => e)
          have hB5 := heap_setCell_eq hB4 2 (.slice va vb.length vc)
          have ho5 : Owns (w4.setCell ⟨wr.heap.size, 2, none⟩ (.slice va vb.length vc)) wr.heap.size (.slice va vb.length vc) vb := by
           refine Owns.base (owns_keep hov hk45 (fun b hb e => ?_)) HK3.out.size
           subst e
           obtain ⟨cur, e2⟩ := ownsRow_type hov hb
           rw [hB4] at e2
           simp only [Option.some.injEq, Obj.cells.injEq] at e2
           exact absurd e2.2.1 (by decide)
          by_cases hev : ev = 0
          ·subst hev
           have hinv := HINV5.out
           rw [if_pos rfl] at hinv
           have HF := hyd (⟨_, r5, vb, hinv, HL5.out, HR5.out, hk5, hB5, ho5⟩ : ∃ (p : Value) (rest' val : List UInt8), decOf b = decFrom (n - (k + 1)) rest' (out ++ [⟨⟨kb.toArray⟩, false, val⟩]) ∧ rest'.length ≤ b0.length ∧ Reads w (.slice a5 r5.length d5) rest' ∧ Keeps (fun _ => False) wr (w4.setCell ⟨wr.heap.size, 2, none⟩ (.slice va vb.length vc)) ∧ (w4.setCell ⟨wr.heap.size, 2, none⟩ (.slice va vb.length vc)).heap[wr.heap.size]? = some (.cells #[.string ⟨kb.toArray⟩, .bool false, p] 112 (0, 0)) ∧ Owns (w4.setCell ⟨wr.heap.size, 2, none⟩ (.slice va vb.length vc)) wr.heap.size p val)
           clear hinv hk5 hB5 ho5 hkw hk45 hk4 hB4 hov hkv HRV HR5 HINV5
           go_wp2_with fail
           go_meet
           exact HF.out
          ·have hinv := HINV5.out
           rw [if_neg hev] at hinv
           have HF := hyd (DecPost.no hinv hkw)
           have he2 : (ev != 0) = true := by simpa using hev
           clear hinv hev hk5 hB5 ho5 hkw hk45 hk4 hB4 hov hkv HRV HR5 HINV5
           go_wp2_with fail
           go_ret2
           exact HF.out
        case rest =>
         obtain ⟨p, rest', val, hinv, hl', hr', hk', hB', ho'⟩ := hcut
         have q0 := cell_at (i := 0) hB' rfl
         have q2 := cell_at (i := 1) hB' rfl
         have q3 := cell_at (i := 2) hB' rfl
         obtain ⟨a7, k7, w7, hrun7, ho7, hk7, hb7⟩ := TChsAt.push (T := 112) (Ts := 40) info_tchange Tryz.underlying40 (by decide) (c := ⟨⟨kb.toArray⟩, gone, val⟩) HO.out HQ.out.size hk' ho' (by have := HOL.out; omega)
         have hkw : Keeps (fun _ => False) w w7 := (HQ.out.trans hk' (fun _ _ e => e)).trans hk7 (fun b hb e => by have := hb7 b e; omega)
         obtain ⟨ua, uc, rfl, _, _⟩ := hr'.form
         have HREL := hyd (⟨k + 1, rest', out ++ [⟨⟨kb.toArray⟩, gone, val⟩], hk1, rfl, by simp; exact HOL.out, hl', hr', hinv, ho7, hkw⟩ : ∃ (k' : Nat) (rest'' : List UInt8) (out' : List TCh), k' ≤ n ∧ Value.int .u64 ((k + 1 : Nat) : Int) = .int .u64 (k' : Int) ∧ out'.length = k' ∧ rest''.length ≤ b0.length ∧ Reads w (.slice ua rest'.length uc) rest'' ∧ decOf b = decFrom (n - k') rest'' out' ∧ TChsAt 112 w.heap.size w7 (.slice a7 (out.length + 1) k7) out' ∧ Keeps (fun _ => False) w w7)
         have HRUN := hyd hrun7
         obtain ⟨pa, pc, rfl, _, _⟩ := ho'.bytes.form
         clear hinv hl' hr' hk' hB' ho' hrun7 ho7 hk7 hb7 hkw HINV2 HR3 HK3 HB3 HL3
         go_wp2_with (first | (at_builtin; refine wpList_append_run (w := wc.alloc (.cells #[.string ⟨kb.toArray⟩, .bool gone, .slice pa val.length pc] 112)) rfl _ _ _ _ rfl rfl rfl HRUN.out ?_))
         go_roundw
         case rel => exact HREL.out
         case measure => simp [intOf]; omega
      ·have hinv := HINV.out
       rw [if_neg hok] at hinv
       have HF := hyd (DecPost.no hinv HKW.out)
       clear hinv
       by_cases h0 : ec = 0
       ·subst h0
        have hkb : kb = [] := by
         cases kb with
         | nil => rfl
         | cons y ys => exact absurd ⟨rfl, by simp⟩ hok
        subst hkb
        clear hok
        go_wp2_with fail
        go_ret2
        exact HF.out
       ·have he2 : (ec != 0) = true := by simpa using h0
        clear hok h0
        go_wp2_with fail
        go_ret2
        exact HF.out
   ·obtain rfl : k = n := by omega
    rw [Nat.sub_self, decFrom] at hinv
    obtain ⟨bb, hbb⟩ : ∃ bb : Bool, ((rest.length : Int) == 0) = bb := ⟨_, rfl⟩
    have hbr : rest = [] ↔ bb = true := by rw [← hbb]; simp
    have hfin : DecPost w (decOf b) (.returned (.tuple #[.slice oa out.length oc, .bool bb])) wr := by
     by_cases hr0 : rest = []
     ·rw [if_pos hr0] at hinv
      rw [hinv, hbr.1 hr0]
      exact ⟨_, rfl, hq, fun l hl => by cases hl; exact ho⟩
     ·rw [if_neg hr0] at hinv
      rw [hinv]
      have : bb = false := by cases bb with | false => rfl | true => exact absurd (hbr.2 rfl) hr0
      rw [this]
      exact ⟨_, rfl, hq, fun l hl => by cases hl⟩
    have HF := hyd hfin
    have rl0 : (0 : Int) ≤ rest.length := by omega
    clear hfin hinv ho hq hrd hlt hk hol hrl hrl2 hrc HBL HBL2 hbr
    go_wp2_with fail
    go_ret2
    exact HF.out
 ·have hd := HD.out
  rw [if_neg (fun h => he h.1)] at hd
  have he2 : (e != 0) = true := by simpa using he
  have HF := hyd (DecPost.no hd HK1.out)
  clear he hd
  go_wp2_with fail
  go_ret2
  exact HF.out
def tabOf : List (List UInt8) → FS → Option FS
 | [], fs => some fs
 | r :: rs, fs => match decOf r with | none => none | some l => tabOf rs (tdos fs l)
theorem tabOf_step {recs : List (List UInt8)} {k : Nat} {r : List UInt8} (h : recs[k]? = some r) (fs : FS) : tabOf (recs.drop k) fs = match decOf r with | none => none | some l => tabOf (recs.drop (k + 1)) (tdos fs l) := by
 obtain ⟨hk, rfl⟩ := List.getElem?_eq_some_iff.1 h
 rw [List.drop_eq_getElem_cons hk, tabOf]
theorem decCh_small {b b' : List UInt8} {c : TCh} (h : decCh b = some (c, b')) : c.val.length ≤ 262144 ∧ 0 < c.key.size ∧ c.key.size ≤ 320 := by
 cases b with
 | nil => cases h
 | cons z b1 =>
  rw [decCh_cons] at h
  split at h
  ·cases h
  ·split at h
   ·rename_i hkey
    have hsz : (⟨(readTextOf b1 320).1.toArray⟩ : ByteArray).size = (readTextOf b1 320).1.length := by
     show (readTextOf b1 320).1.toArray.size = _
     simp
    have h1 := readText_le b1 320
    have h2 := List.length_pos_iff.2 hkey.2
    split at h
    ·cases h
     exact ⟨by simp, by rw [hsz]; omega, by rw [hsz]; omega⟩
    ·split at h
     ·cases h
      have h3 := readText_le (b1.drop (readTextOf b1 320).2.1) 262144
      exact ⟨h3.2.2, by rw [hsz]; omega, by rw [hsz]; omega⟩
     ·cases h
   ·cases h
theorem decFrom_small : ∀ (n : Nat) (b : List UInt8) (out l : List TCh), decFrom n b out = some l → (∀ x ∈ out, x.val.length ≤ 262144 ∧ 0 < x.key.size ∧ x.key.size ≤ 320) → (∀ x ∈ l, x.val.length ≤ 262144 ∧ 0 < x.key.size ∧ x.key.size ≤ 320) ∧ l.length = out.length + n
 | 0, b, out, l, h, ho => by
  rw [decFrom] at h
  split at h
  ·cases h; exact ⟨ho, rfl⟩
  ·cases h
 | n + 1, b, out, l, h, ho => by
  rw [decFrom] at h
  cases hd : decCh b with
  | none => rw [hd] at h; cases h
  | some p =>
   obtain ⟨c, b'⟩ := p
   rw [hd] at h
   obtain ⟨h1, h2⟩ := decFrom_small n b' (out ++ [c]) l h (fun x hx => by
    rcases List.mem_append.1 hx with hx | hx
    ·exact ho x hx
    ·rw [List.mem_singleton] at hx
     subst hx
     exact decCh_small hd)
   exact ⟨h1, by rw [h2]; simp; omega⟩
theorem decOf_small {b : List UInt8} {l : List TCh} (h : decOf b = some l) : (∀ x ∈ l, x.val.length ≤ 262144 ∧ 0 < x.key.size ∧ x.key.size ≤ 320) ∧ l.length ≤ 256 := by
 unfold decOf at h
 split at h
 ·rename_i hn
  obtain ⟨h1, h2⟩ := decFrom_small _ _ _ _ h (fun x hx => by simp at hx)
  exact ⟨h1, by rw [h2]; simp; exact hn.2⟩
 ·cases h
theorem open_res (m : DM) (nm : ByteArray) : ((openOf m nm).res = none → (openOf m nm).code ≠ 0) ∧ ∀ recs used, (openOf m nm).res = some (recs, used) → (openOf m nm).code = 0 ∧ ∀ p ∈ recs, p.length ≤ 1048576 := by
 unfold openOf
 split
 ·split
  ·split
   ·rename_i h0
    exact ⟨(fun e => by cases e), fun recs used e => by cases e; exact ⟨rfl, fun p hp => by simp at hp⟩⟩
   ·rename_i h0
    exact ⟨fun _ => h0, fun recs used e => by cases e⟩
  ·split
   ·split
    ·unfold openLay
     split
     ·exact ⟨(fun e => by cases e), fun recs used e => ⟨rfl, fun p hp => by
       have e' : scanOf ((fget m.now nm).getD []) = (recs, used) := Option.some.inj e
       have : recs = (scanOf ((fget m.now nm).getD [])).1 := by rw [e']
       rw [this] at hp
       exact scanFrom_small _ _ p hp⟩⟩
     ·rename_i h0
      exact ⟨fun _ => h0, fun recs used e => by cases e⟩
    ·exact ⟨(fun e => by cases e), fun recs used e => ⟨rfl, fun p hp => by
      have e' : scanOf ((fget m.now nm).getD []) = (recs, used) := Option.some.inj e
      have : recs = (scanOf ((fget m.now nm).getD [])).1 := by rw [e']
      rw [this] at hp
      exact scanFrom_small _ _ p hp⟩⟩
   ·rename_i h0
    exact ⟨fun _ => h0, fun recs used e => by cases e⟩
 ·exact ⟨fun _ => by simp, fun recs used e => by cases e⟩
structure TabR where
 code : Int
 m : DM
 tab : Option (Nat × FS)
def tOpenOf (m : DM) (nm : ByteArray) : TabR :=
 match (openOf m nm).res with
 | none => ⟨(openOf m nm).code, (openOf m nm).m, none⟩
 | some s => match tabOf s.1 [] with | none => ⟨200, (openOf m nm).m, none⟩ | some fs => ⟨0, (openOf m nm).m, some (s.2, fs)⟩
def TOpenPost (w : World) (d : Nat) (nm : ByteArray) (rs : List (Res w.heap.size)) (r : TabR) (e : Ending) (w' : World) : Prop :=
 (r.tab = none ∧ e = .returned (.tuple #[.pointer none, .int .i64 r.code]) ∧ Own w w' (rDisk w.heap.size d r.m :: rs)) ∨
 ∃ (size : Nat) (fs : FS) (j t b : Nat), r.tab = some (size, fs) ∧ e = .returned (.tuple #[.pointer (some ⟨t, 0, none⟩), .int .i64 r.code]) ∧ Own w w' (rDisk w.heap.size d r.m :: rObj w.heap.size j (jrnObj d nm size) :: rObj w.heap.size t (tabObj j b false) :: rMap w.heap.size b fs :: rs)
theorem Own.pull {w wr : World} {r : Res w.heap.size} {l₁ l₂ : List (Res w.heap.size)} (h : Own w wr (l₁ ++ r :: l₂)) : Own w wr (r :: (l₁ ++ l₂)) := h.perm List.perm_middle
theorem Own.tabOrder {w wr : World} {m t d j r : Res w.heap.size} {rs : List (Res w.heap.size)} (h : Own w wr (m :: t :: d :: j :: r :: rs)) : Own w wr (d :: j :: t :: m :: rs) := by
 have h1 := (Own.pull (l₁ := [m, t, d, j]) h).drop
 have h2 := Own.pull (l₁ := [m]) h1
 have h3 := Own.pull (l₁ := [t, m, d]) h2
 exact Own.pull (l₁ := [j, t, m]) h3
theorem Own.newMap {w wr : World} {rs : List (Res w.heap.size)} (h : Own w wr rs) : Own w (wr.alloc (.map #[] 0)) (rMap w.heap.size wr.heap.size [] :: rs) :=
 h.add ((Keeps.refl _ wr).alloc _) (r := rMap w.heap.size wr.heap.size []) (G := fun b => b = wr.heap.size) ⟨rfl, #[], 0, [], heap_alloc_new wr _, stamped_empty 0, trivial, List.Perm.refl _⟩ (fun b hb => by rw [World.size_alloc]; omega)
set_option maxRecDepth 100000 in
set_option maxHeartbeats 1000000 in
theorem topen_calls {w w0 : World} {d : Nat} {m : DM} {rs : List (Res w.heap.size)} (h : Own w w0 (rDisk w.heap.size d m :: rs)) {n : Nat} (hg : Good m n) (hn : n < 549755813888) (nm : ByteArray) :
  Calls Tryz.prog 6 #[.pointer (some ⟨d, 0, none⟩), .string nm] w0 (TOpenPost w d nm rs (tOpenOf m nm)) := by
 have hop := open_calls h hg hn nm
 have hres := open_res m nm
 have HOP := hyd hop
 have HRES := hyd hres
 have hmm := @run_makeMap Tryz.prog
 clear h hg hn hop hres
 obtain ⟨T, hT⟩ : ∃ T, tOpenOf m nm = T := ⟨_, rfl⟩
 have HT := hyd hT
 rw [hT]
 clear hT
 go_enter Tryz.func6, Tryz.ntmps6
 go_wp2_with fail
 refine HOP.out.mono ?_
 rintro e w1 (⟨hr, rfl, h1⟩ | ⟨recs, used, j, v, hr, rfl, h1⟩)
 ·have hc : ((openOf m nm).code != 0) = true := by simpa using HRES.out.1 hr
  have HF := hyd (show TOpenPost w d nm rs T (.returned (.tuple #[.pointer none, .int .i64 (openOf m nm).code])) w1 by
   rw [← HT.out]; unfold tOpenOf; rw [hr]; exact .inl ⟨rfl, rfl, h1⟩)
  generalize (openOf m nm).code = rc at hc HF ⊢
  clear HOP HRES hr h1 hmm HT
  go_wp2_with fail
  go_ret2
  exact HF.out
 ·obtain ⟨hc, hrl⟩ := HRES.out.2 recs used hr
  have HT2 := hyd (show T = match tabOf recs [] with | none => ⟨200, (openOf m nm).m, none⟩ | some fs => ⟨0, (openOf m nm).m, some (used, fs)⟩ by rw [← HT.out]; unfold tOpenOf; rw [hr])
  rw [hc]
  have hh := ((h1.newMap).alloc (tabObj j w1.heap.size false)).swap
  rw [World.size_alloc] at hh
  obtain ⟨-, va, vc, rfl⟩ := h1.rows (v := v) (ll := recs) (by simp)
  have hrn : (recs.length : Int) ≤ 9223372036854775807 := by
   obtain ⟨F, ⟨ps, G, hrow, _⟩, _⟩ := h1.mem (r := rRows w.heap.size (.slice va recs.length vc) recs) (by simp)
   rcases hrow.2 with ⟨e1, e2⟩ | ⟨g, cap, cur, _, _, _, h3, h4, _⟩
   ·rw [e2]; simp
   ·unfold maxLen at h4; omega
  have HL := hyd hrl
  have HH := hyd hh
  have i0 : (0 : Int) ≤ recs.length := by omega
  generalize (openOf m nm).m = m1 at HH HT2
  clear HOP HRES hr h1 hc hrl hh HT
  go_wp2_with fail
  go_loopw [30] (fun iv wx => ∃ (k : Nat) (fs : FS), k ≤ recs.length ∧ iv = .int .i64 (k : Int) ∧ tabOf recs [] = tabOf (recs.drop k) fs ∧ Own w wx (rMap w.heap.size w1.heap.size fs :: rObj w.heap.size (w1.heap.size + 1) (tabObj j w1.heap.size false) :: rDisk w.heap.size d m1 :: rObj w.heap.size j (jrnObj d nm used) :: rRows w.heap.size (.slice va recs.length vc) recs :: rs)) (fun iv _ => recs.length - (intOf iv).toNat)
  case atStart => exact ⟨0, [], Nat.zero_le _, rfl, rfl, HH.out⟩
  case round =>
   obtain ⟨k, fs, hk, rfl, hinv, ho⟩ := hrel
   clear HH
   have k0 : (0 : Int) ≤ k := by omega
   by_cases hlt : k < recs.length
   ·obtain ⟨rec, hrec⟩ : ∃ rec, recs[k]? = some rec := ⟨recs[k], List.getElem?_eq_getElem hlt⟩
    obtain ⟨⟨_, _, e, hrows⟩, _⟩ := ho.rows (v := .slice va recs.length vc) (ll := recs) (by simp)
    cases e
    obtain ⟨x, p, rfl, hx, hp⟩ := hrows k rec hrec
    have hpl := HL.out rec (List.mem_of_getElem? hrec)
    rw [tabOf_step hrec] at hinv
    have HDC := hyd (tdecode_calls hp (by omega))
    obtain ⟨pa, pc, rfl, _, _⟩ := hp.form
    have k1 : (k : Int) < recs.length := by omega
    have hk1 : k + 1 ≤ recs.length := by omega
    have HINV := hyd hinv
    have HO := hyd ho
    clear hrows hp hpl hinv ho hrec hlt hk HL
    go_wp2_with fail
    refine HDC.out.mono ?_
    rintro e w2 ⟨lv, rfl, hk2, hl2⟩
    cases hd : decOf rec with
    | none =>
     have hinv := HINV.out
     rw [hd] at hinv
     have hfin : TOpenPost w d nm rs T (.returned (.tuple #[.pointer none, .int .i64 200])) w2 := by
      rw [HT2.out, hinv]
      exact .inl ⟨rfl, rfl, ((HO.out.quiet hk2).drop.drop.drop3.swap.drop)⟩
     have HF := hyd hfin
     clear hfin hinv hd hk2 hl2 HINV HO HDC
     simp only [Option.isSome_none]
     go_wp2_with fail
     go_ret2
     exact HF.out
    | some l =>
     have hinv := HINV.out
     rw [hd] at hinv
     have hat := hl2 l hd
     obtain ⟨la, lc, rfl⟩ := hat.form
     obtain ⟨hs1, hs2⟩ := decOf_small hd
     have ho2 := (HO.out.addTChs hat hk2).tuck2
     have hdo := tdo_calls ho2 (a := la) (c := lc) (l := l) (by simp) (by omega) (fun x hx => by have := (hs1 x hx).1; omega)
     have HDO := hyd hdo
     have HINV2 := hyd hinv
     clear hinv hd hat hk2 hl2 HINV HO HDC hs1 hs2 ho2 hdo
     simp only [Option.isSome_some]
     go_wp2_with fail
     refine HDO.out.mono ?_
     rintro e w3 ⟨rfl, h3⟩
     have HREL := hyd (⟨k + 1, tdos fs l, hk1, rfl, HINV2.out, h3.drop3⟩ : ∃ (k' : Nat) (fs' : FS), k' ≤ recs.length ∧ Value.int .i64 ((k + 1 : Nat) : Int) = .int .i64 (k' : Int) ∧ tabOf recs [] = tabOf (recs.drop k') fs' ∧ Own w w3 (rMap w.heap.size w1.heap.size fs' :: rObj w.heap.size (w1.heap.size + 1) (tabObj j w1.heap.size false) :: rDisk w.heap.size d m1 :: rObj w.heap.size j (jrnObj d nm used) :: rRows w.heap.size (.slice (some x) recs.length vc) recs :: rs))
     clear h3 HDO HINV2
     go_wp2_with fail
     go_roundw
     case rel => exact HREL.out
     case measure => simp [intOf]; omega
   ·obtain rfl : k = recs.length := by omega
    rw [List.drop_length, tabOf] at hinv
    have hfin : TOpenPost w d nm rs T (.returned (.tuple #[.pointer (some ⟨w1.heap.size + 1, 0, none⟩), .int .i64 0])) wr := by
     rw [HT2.out, hinv]
     exact .inr ⟨used, fs, j, _, _, rfl, rfl, ho.tabOrder⟩
    have HF := hyd hfin
    clear hfin hinv ho hlt hk HL
    go_wp2_with fail
    go_ret2
    exact HF.out
def smallB (l : List TCh) : Bool := decide (l.length ≤ 40) && l.all (fun c => decide (c.key.size ≤ 400) && decide (c.val.length ≤ 500))
theorem smallB_true {l : List TCh} (h : smallB l = true) : l.length ≤ 40 ∧ ∀ c ∈ l, c.key.size ≤ 400 ∧ c.val.length ≤ 500 := by
 unfold smallB at h
 simp only [Bool.and_eq_true, decide_eq_true_eq, List.all_eq_true] at h
 exact h
theorem TChsAt.form3 {T : TypeId} {base : Nat} {w : World} {v : Value} {cs : List TCh} (h : TChsAt T base w v cs) : ∃ a n c, v = .slice a n c := by
 obtain ⟨a, c, e⟩ := h.form
 exact ⟨a, _, c, e⟩
theorem slice_form2 {w : World} {base : Nat} {v : Value} {l : List UInt8} (h : Owns w base v l) : ∃ a n c, v = .slice a n c := by
 obtain ⟨a, c, rfl, _⟩ := h.bytes.form
 exact ⟨a, _, c, rfl⟩
def ToPost (w : World) (l : List TCh) (e : Ending) (w' : World) : Prop := ∃ v, e = .returned v ∧ TChsAt 112 w.heap.size w' v l ∧ Keeps (fun _ => False) w w'
theorem POutAt.push2 {base : Nat} {F : Nat → Prop} {w : World} {v p : Value} {fs : FS} {n : ByteArray} {l : List UInt8} (h : POutAt base F w v fs) (hz : base ≤ w.heap.size) (hp : Bytes F w p l) (hb : fs.length < 1099511627776) :
  ∃ a n' c w', (Builtin.append_ #[72, 72] 72 #[v, .slice (some ⟨w.heap.size, 0, none⟩) 1 1]).run Tryz.prog (w.alloc (.cells #[.string n, p] 125)) = .ok (.slice a n' c) w' ∧ POutAt base F w' (.slice a n' c) (fs ++ [(n, l)]) ∧
   Keeps (fun b => v.ownBlock = some b) w w' ∧ ∀ b, v.ownBlock = some b → base ≤ b := by
 obtain ⟨ps, h1, h2⟩ := h
 have hlt := h2.lt
 obtain ⟨i0, hi, hz0, hz1, hz2⟩ := info_parts info_pair
 have hp1 : p.oneCell' = true := by obtain ⟨a, c, rfl, _⟩ := hp.form; rfl
 obtain ⟨v', w', hrun, ho2, hg, _, hat⟩ := run_append_own_at (P := Tryz.prog) (w.alloc (.cells #[.string n, p] 125)) base 72 72 125 i0 _ 2 40 Tryz.underlying72 hi hz0 hz1 hz2 rfl (by omega) v fs.length (fileCells ps fs) (h2.alloc _) ⟨w.heap.size, 0, none⟩ 1 1 [.string n, p] rfl
  (fun j u hu => by
   rw [Addr.add_lit, Nat.zero_add]
   exact cell_at (heap_alloc_new w _) (by simpa using hu))
  (by intro u hu; simp at hu; rcases hu with rfl | rfl; rfl; exact hp1) (by unfold maxLen; omega) (by omega) (by simp only [World.size_alloc]; omega)
 obtain ⟨a, c, rfl⟩ := ownsRow_slice ho2
 have hk : Keeps (fun b => v.ownBlock = some b) w w' := ((Keeps.refl _ w).alloc _).trans (Keeps.of_grown hg) (fun _ _ h => h)
 have hku : KeepU8 F w w' := KeepU8.of_keeps hk (fun g cs fz hg he hc => by
  obtain ⟨cur, e2⟩ := ownsRow_type h2 he
  rw [hc] at e2
  simp only [Option.some.injEq, Obj.cells.injEq] at e2
  exact absurd e2.2.1 (by decide))
 refine ⟨a, _, c, w', hrun, ⟨ps ++ [p], ?_, ?_⟩, hk, fun b hb => (hlt b hb).1⟩
 ·exact (h1.mono (fun q f hq => hq.keep hku (fun _ h _ => h))).append ⟨hp.keep hku (fun _ h _ => h), trivial⟩
 ·rw [fileCells_snoc _ _ _ _ h1.length, List.length_append]
  exact ho2
theorem POutAt.form3 {base : Nat} {F : Nat → Prop} {w : World} {v : Value} {fs : FS} (h : POutAt base F w v fs) : ∃ a n c, v = .slice a n c := by
 obtain ⟨a, c, e⟩ := h.form
 exact ⟨a, _, c, e⟩
theorem length_tdo (fs : FS) (c : TCh) : (tdo fs c).length ≤ fs.length + 1 := by
 unfold tdo
 have h1 : (fdel fs c.key).length ≤ fs.length := List.length_filter_le _ _
 split
 ·omega
 ·unfold fput
  rw [length_fins]; omega
theorem length_tdos : ∀ (l : List TCh) (fs : FS), (tdos fs l).length ≤ fs.length + l.length
 | [], fs => Nat.le_refl _
 | c :: l, fs => by
  have h1 := length_tdos l (tdo fs c)
  have h2 := length_tdo fs c
  show (tdos (tdo fs c) l).length ≤ _
  rw [List.length_cons]; omega
theorem take_snoc {fs : FS} {i : Nat} {f : ByteArray × List UInt8} (hf : fs[i]? = some f) : fs.take (i + 1) = fs.take i ++ [f] := by
 obtain ⟨hi, he⟩ := List.getElem?_eq_some_iff.1 hf
 rw [List.take_succ_eq_append_getElem hi, he]
set_option maxRecDepth 100000 in
set_option maxHeartbeats 1000000 in
theorem rdo11_calls {F : Nat → Prop} {w : World} {v : Value} {fs : FS} (h : PairsAt F w v fs) (hs : FSorted fs) {a : Option Addr} {c : Nat} {l : List TCh} (hc : TChsIn w a l) (hl : fs.length + l.length < 1099511627775) (hv : ∀ x ∈ l, x.val.length ≤ 140737488355328) :
  Calls Tryz.prog 30 #[v, .slice a l.length c] w (PPost F w (tdos fs l)) := by
 obtain ⟨va, vc, rfl, -, -⟩ := h.form
 have H := hyd h
 have HC := hyd hc
 have HV := hyd hv
 have HS := hyd hs
 have HL := hyd hl
 have i0 : (l.length : Int) ≤ 1099511627775 := by omega
 have i1 : (0 : Int) ≤ (l.length : Int) := by omega
 clear h hc hv hs hl
 go_enter Tryz.func30, Tryz.ntmps30
 go_wp2_with fail
 go_loopw [0, 5] (fun lv iv wx => ∃ k : Nat, k ≤ l.length ∧ iv = .int .i64 (k : Int) ∧ PairsAt (Ext F w wx) wx lv (tdos fs (l.take k)) ∧ Keeps (fun _ => False) w wx) (fun _ iv _ => l.length - (intOf iv).toNat)
 case atStart => exact ⟨0, Nat.zero_le _, rfl, H.out.keep (KeepU8.refl _ _) (fun _ _ => rfl) (fun b hb _ => .inl hb), Keeps.refl _ _⟩
 case round =>
  obtain ⟨k, hk, rfl, hp, hq⟩ := hrel
  have k0 : (0 : Int) ≤ k := by omega
  obtain ⟨wo, hwo⟩ : ∃ wo, wo = wr := ⟨_, rfl⟩
  subst hwo
  by_cases hlt : k < l.length
  ·obtain ⟨ch, hch⟩ : ∃ ch, l[k]? = some ch := ⟨l[k], List.getElem?_eq_getElem hlt⟩
   have hstep := tdos_take hch fs
   have hsort := FSorted.tdos (l.take k) HS.out
   have hlen1 := length_tdos (l.take k) fs
   rw [List.length_take] at hlen1
   generalize tdos fs (l.take k) = fs1 at hp hstep hsort hlen1
   have hl1 : fs1.length < 1099511627775 := by have := HL.out; omega
   obtain ⟨pa, pc, rfl, -, -⟩ := hp.form
   obtain ⟨x, p, rfl, c0, c1, c2, hpr⟩ := (HC.out.keep hq).cells hch
   have hvl := HV.out ch (List.mem_of_getElem? hch)
   obtain ⟨key, gone, val⟩ := ch
   dsimp only at c0 c1 c2 hpr hvl
   obtain ⟨ba, bc, rfl, -, -⟩ := hpr.form
   have j2 : (k : Int) < l.length := by omega
   have hk1 : k + 1 ≤ l.length := by omega
   have hfind := rfind11_runs hp key (by omega)
   have hle := keyAt_le fs1 key
   have hsplit := tdo_split hsort ⟨key, gone, val⟩
   dsimp only at hsplit
   have HFI := hyd hfind
   obtain ⟨at_, hat⟩ : ∃ n, n = keyAt fs1 key := ⟨_, rfl⟩
   rw [← hat] at HFI hle hsplit
   have HSP := hyd hsplit
   have HST := hyd hstep
   have HP := hyd hp
   have HQ := hyd hq
   have HPR := hyd hpr
   have HL1 := hyd hl1
   have HVL := hyd hvl
   have j3 : (at_ : Int) ≤ fs1.length := by omega
   have j4 : (0 : Int) ≤ at_ := by omega
   have j5 : (fs1.length : Int) ≤ 1099511627774 := by omega
   have HLE := hyd hle
   clear hfind hsplit hstep hp hq hpr hsort hlen1 hl1 hvl hch hlt hk hat H hle
   go_wp2_with fail
   refine HFI.out.out.mono ?_; rintro e w' ⟨rfl, rfl⟩
   go_wp2_with fail
   go_loopw [7, 8] (fun ov iv wx => ∃ (i : Nat), i ≤ at_ ∧ iv = .int .i64 (i : Int) ∧ POutAt wo.heap.size (fun b => Ext F w wo b ∨ wo.heap.size ≤ b) wx ov (fs1.take i) ∧ Keeps (fun _ => False) wo wx) (fun _ iv _ => at_ - (intOf iv).toNat)
   case atStart => exact ⟨0, Nat.zero_le _, rfl, by rw [List.take_zero]; exact POutAt.nil _ _ _, Keeps.refl _ _⟩
   case round =>
    obtain ⟨w1, hw1⟩ : ∃ w1, w1 = wr := ⟨_, rfl⟩
    subst hw1
    obtain ⟨i, hi, rfl, ho, hq1⟩ := hrel
    obtain ⟨oa, on, oc, rfl⟩ := ho.form3
    have n0 : (0 : Int) ≤ i := by omega
    by_cases hlt : i < at_
    ·obtain ⟨f, hf⟩ : ∃ f, fs1[i]? = some f := ⟨fs1[i]'(by have := HLE.out; omega), List.getElem?_eq_getElem _⟩
     obtain ⟨g, cap, q, e, hc1, hc2, hB⟩ := (HP.out.quiet hq1 (fun b hb _ => hb)).cell hf
     simp only [Value.slice.injEq] at e
     obtain ⟨rfl, -, rfl⟩ := e
     obtain ⟨qa, qc, rfl, -, -⟩ := hB.form
     have n1 : (i : Int) < at_ := by omega
     have n2 : (i : Int) < fs1.length := by omega
     have hi1 : i + 1 ≤ at_ := by omega
     obtain ⟨a2, m2, c2, w2, hrun, ho2, hk2, hbase⟩ := ho.push2 hq1.size (hB.keep (KeepU8.refl _ _) (fun b hb _ => .inl hb)) (n := f.1) (by rw [List.length_take]; have := HL1.out; omega)
     rw [show (f.1, f.2) = f from rfl, ← take_snoc hf] at ho2
     have hq2 := hq1.trans hk2 (fun b hb e => by have := hbase b e; omega)
     have HREL := hyd (⟨i + 1, hi1, rfl, ho2, hq2⟩ : ∃ (i' : Nat), i' ≤ at_ ∧ Value.int .i64 ((i + 1 : Nat) : Int) = .int .i64 (i' : Int) ∧ POutAt wo.heap.size (fun b => Ext F w wo b ∨ wo.heap.size ≤ b) w2 (.slice a2 m2 c2) (fs1.take i') ∧ Keeps (fun _ => False) wo w2)
     have HRUN := hyd hrun
     clear ho hq1 hf hB hrun ho2 hk2 hbase hq2 hi hlt
     go_wp2_with (at_builtin; (first | (refine wpList_append_run (w := w1.alloc (.cells #[.string f.1, .slice qa f.2.length qc] 125)) rfl _ _ _ _ rfl rfl rfl HRUN.out ?_)))
     go_roundw
     case rel => exact HREL.out
     case measure => simp [intOf]; omega
    ·obtain rfl : i = at_ := by omega
     have CC := hyd (fun (wx : World) (hk : Keeps (fun _ => False) wo wx) => (⟨cell_keep c0 hk, cell_keep c2 hk⟩ : wx.cell? (x.add (k * 3)) = some (.string key) ∧ wx.cell? { block := (x.add (k * 3)).block, off := (x.add (k * 3)).off + 2 } = some (.slice ba val.length bc)))
     have d0 := cell_keep c0 hq1
     have d1 := cell_keep c1 hq1
     have d2 := cell_keep c2 hq1
     have HO1 := hyd ho
     have HQ1 := hyd hq1
     clear ho hq1 c0 c1 c2 hi hlt
     go_upto_if 40 with fail
     go_cut [7] from 41 to 55 (fun ov wx => ∃ out : FS, tdo fs1 ⟨key, gone, val⟩ = out ++ fdel (fs1.drop i) key ∧ out.length ≤ i + 1 ∧ POutAt wo.heap.size (fun b => Ext F w wo b ∨ wo.heap.size ≤ b) wx ov out ∧ Keeps (fun _ => False) wo wx)
     case first =>
      cases gone with
      | true =>
       have hsp := HSP.out
       rw [if_pos rfl, List.append_nil] at hsp
       have HF := hyd (⟨_, hsp, by rw [List.length_take]; omega, HO1.out, HQ1.out⟩ : ∃ out : FS, tdo fs1 ⟨key, true, val⟩ = out ++ fdel (fs1.drop i) key ∧ out.length ≤ i + 1 ∧ POutAt wo.heap.size (fun b => Ext F w wo b ∨ wo.heap.size ≤ b) w1 (.slice oa on oc) out ∧ Keeps (fun _ => False) wo w1)
       clear hsp HSP HO1 HQ1
       go_wp2_with fail
       go_meet
       exact HF.out
      | false =>
       have hsp := HSP.out
       rw [if_neg (by simp)] at hsp
       have HTW := hyd (twin_calls (w := w1.drew) (HPR.out.keep HQ1.out.drew) HVL.out)
       have hpush : ∀ (w2 : World) (ta : Option Addr) (tn tc : Nat), Keeps (fun _ => False) w1.drew w2 → Owns w2 w1.drew.heap.size (.slice ta tn tc) val →
         ∃ a' n' c' w', (Builtin.append_ #[72, 72] 72 #[.slice oa on oc, .slice (some ⟨w2.heap.size, 0, none⟩) 1 1]).run Tryz.prog (w2.alloc (.cells #[.string key, .slice ta tn tc] 125)) = .ok (.slice a' n' c') w' ∧ (∃ out : FS, tdo fs1 ⟨key, false, val⟩ = out ++ fdel (fs1.drop i) key ∧ out.length ≤ i + 1 ∧ POutAt wo.heap.size (fun b => Ext F w wo b ∨ wo.heap.size ≤ b) w' (.slice a' n' c') out ∧ Keeps (fun _ => False) wo w') ∧ (w2.cell? (x.add (k * 3)) = some (.string key) ∧ w2.cell? { block := (x.add (k * 3)).block, off := (x.add (k * 3)).off + 2 } = some (.slice ba val.length bc)) ∧ ((w2.alloc (.cells #[.string key, .slice ta tn tc] 125)).cell? (x.add (k * 3)) = some (.string key) ∧ (w2.alloc (.cells #[.string key, .slice ta tn tc] 125)).cell? { block := (x.add (k * 3)).block, off := (x.add (k * 3)).off + 2 } = some (.slice ba val.length bc)) ∧ (w'.cell? (x.add (k * 3)) = some (.string key) ∧ w'.cell? { block := (x.add (k * 3)).block, off := (x.add (k * 3)).off + 2 } = some (.slice ba val.length bc)) := fun w2 ta tn tc hk2 ht => by
        have hk12 : Keeps (fun _ => False) w1 w2 := ((Keeps.refl _ w1).drew).trans hk2 (fun _ _ e => e)
        have hwo2 : Keeps (fun _ => False) wo w2 := HQ1.out.trans hk12 (fun _ _ e => e)
        obtain ⟨a', n', c', w', hrun, ho', hk', hb'⟩ := (HO1.out.keep hk12).push2 (n := key) (l := val) hwo2.size (ht.bytes.keep (KeepU8.refl _ _) (fun b hb _ => .inr (by have h1 : w1.drew.heap.size = w1.heap.size := rfl; have := HQ1.out.size; omega))) (by rw [List.length_take]; have := HL1.out; omega)
        have hwo' : Keeps (fun _ => False) wo w' := hwo2.trans hk' (fun b hb e => by have := hb' b e; omega)
        refine ⟨a', n', c', w', hrun, ⟨fs1.take i ++ [(key, val)], hsp, ?_, ho', hwo'⟩, CC.out _ hwo2, CC.out _ (hwo2.alloc _), CC.out _ hwo'⟩
        rw [List.length_append, List.length_take, List.length_singleton]; omega
       have HPU := hyd hpush
       have HS0 := hyd (CC.out _ HQ1.out.drew)
       clear hpush hsp HSP HO1 HQ1 HPR HVL
       go_wp2_with fail
       go_region_held3 (fun w' => w'.cell? (x.add (k * 3)) = some (.string key) ∧ w'.cell? { block := (x.add (k * 3)).block, off := (x.add (k * 3)).off + 2 } = some (.slice ba val.length bc)) (first | exact HS0.out | exact s1 | exact s2 | exact s3 | go_keep) (first | (go_at_call 20; refine HTW.out.mono ?_; rintro e w3 ⟨tv, rfl, hv1, hk1'⟩; obtain ⟨ta, tn, tc, rfl⟩ := slice_form2 hv1; obtain ⟨a2, m2, e2, w4, hrun2, hfin2, s1, s2, s3⟩ := HPU.out w3 ta tn tc hk1' hv1) | (refine step_append_run rfl _ _ _ _ rfl rfl rfl hrun2 ?_))
       all_goals
        have HF := hyd hfin2
        clear hfin2 hrun2 s1 s2 s3 hv1 hk1'
        go_wp2_with fail
        go_meet
        exact HF.out
     case rest =>
      obtain ⟨out0, hinv0, hlen0, ho0, hq0⟩ := hcut
      have HI0 := hyd hinv0
      have HO0 := hyd ho0
      have HQ0 := hyd hq0
      clear hinv0 ho0 hq0 HO1 HQ1 HSP HPR HVL d0 d1 d2
      go_wp2_with fail
      go_loopw [7, 9] (fun ov iv wx => ∃ (m : Nat) (out : FS), i ≤ m ∧ m ≤ fs1.length ∧ iv = .int .i64 (m : Int) ∧ tdo fs1 ⟨key, gone, val⟩ = out ++ fdel (fs1.drop m) key ∧ out.length ≤ m + 1 ∧ POutAt wo.heap.size (fun b => Ext F w wo b ∨ wo.heap.size ≤ b) wx ov out ∧ Keeps (fun _ => False) wo wx) (fun _ iv _ => fs1.length - (intOf iv).toNat)
      case atStart => exact ⟨i, out0, Nat.le_refl _, HLE.out, rfl, HI0.out, hlen0, HO0.out, HQ0.out⟩
      case round =>
       obtain ⟨m, out, him, hm, rfl, hinv, hlen, ho2, hq2⟩ := hrel
       obtain ⟨w3, hw3⟩ : ∃ w3, w3 = wr := ⟨_, rfl⟩
       subst hw3
       obtain ⟨za, zn, zc, rfl⟩ := ho2.form3
       have n3 : (0 : Int) ≤ m := by omega
       obtain ⟨e0, e2⟩ := CC.out _ hq2
       clear HI0 HO0 HQ0 hlen0
       by_cases hlt : m < fs1.length
       ·obtain ⟨f, hf⟩ : ∃ f, fs1[m]? = some f := ⟨fs1[m], List.getElem?_eq_getElem hlt⟩
        obtain ⟨g, cap, q, e, hc1, hc2, hB⟩ := (HP.out.quiet hq2 (fun b hb _ => hb)).cell hf
        simp only [Value.slice.injEq] at e
        obtain ⟨rfl, -, rfl⟩ := e
        obtain ⟨qa, qc, rfl, -, -⟩ := hB.form
        have n4 : (m : Int) < fs1.length := by omega
        have hm1 : m + 1 ≤ fs1.length := by omega
        have hdrop : fs1.drop m = f :: fs1.drop (m + 1) := by
         obtain ⟨hm', he⟩ := List.getElem?_eq_some_iff.1 hf
         rw [List.drop_eq_getElem_cons hm', he]
        rw [hdrop, fdel_cons] at hinv
        by_cases hkey : f.1 = key
        ·rw [if_pos hkey] at hinv
         have hbe : (f.1.toList == key.toList) = true := by rw [hkey]; simp
         have HREL := hyd (⟨m + 1, out, by omega, hm1, rfl, hinv, by omega, ho2.keep ((Keeps.refl _ w3).drew), hq2.drew⟩ : ∃ (m' : Nat) (out' : FS), i ≤ m' ∧ m' ≤ fs1.length ∧ Value.int .i64 ((m + 1 : Nat) : Int) = .int .i64 (m' : Int) ∧ tdo fs1 ⟨key, gone, val⟩ = out' ++ fdel (fs1.drop m') key ∧ out'.length ≤ m' + 1 ∧ POutAt wo.heap.size (fun b => Ext F w wo b ∨ wo.heap.size ≤ b) w3.drew (.slice za zn zc) out' ∧ Keeps (fun _ => False) wo w3.drew)
         clear hinv ho2 hq2 hf hB hdrop hkey hlt hm
         go_wp2_with fail
         go_still_tail 10, (by kernel_rfl)
         change wpList _ _ _ _ _ (World.drew _)
         go_wp2_with fail
         go_roundw
         case rel => exact HREL.out
         case measure => simp [intOf]; omega
        ·rw [if_neg hkey] at hinv
         have hbe : (f.1.toList == key.toList) = false := by
          cases hb : (f.1.toList == key.toList) with
          | false => rfl
          | true => exact absurd (toList_inj (by simpa using hb)) hkey
         obtain ⟨a2, m2, e3, w4, hrun, ho4, hk4, hbase⟩ := (ho2.keep ((Keeps.refl _ w3).drew)).push2 (w := w3.drew) hq2.size ((hB.keep (KeepU8.refl _ _) (fun b hb _ => .inl hb)).keep (KeepU8.refl _ _) (fun _ h _ => h)) (n := f.1) (by have := HL1.out; omega)
         have hq4 : Keeps (fun _ => False) wo w4 := hq2.drew.trans hk4 (fun b hb e => by have := hbase b e; omega)
         have hinv4 : tdo fs1 ⟨key, gone, val⟩ = (out ++ [f]) ++ fdel (fs1.drop (m + 1)) key := by rw [hinv]; simp
         have HREL := hyd (⟨m + 1, out ++ [f], by omega, hm1, rfl, hinv4, by simp; omega, ho4, hq4⟩ : ∃ (m' : Nat) (out' : FS), i ≤ m' ∧ m' ≤ fs1.length ∧ Value.int .i64 ((m + 1 : Nat) : Int) = .int .i64 (m' : Int) ∧ tdo fs1 ⟨key, gone, val⟩ = out' ++ fdel (fs1.drop m') key ∧ out'.length ≤ m' + 1 ∧ POutAt wo.heap.size (fun b => Ext F w wo b ∨ wo.heap.size ≤ b) w4 (.slice a2 m2 e3) out' ∧ Keeps (fun _ => False) wo w4)
         have HRUN := hyd hrun
         have hd1 : w3.drew.cell? ⟨g, m * 2, none⟩ = some (.string f.1) := hc1
         have hd2 : w3.drew.cell? ⟨g, m * 2 + 1, none⟩ = some (.slice qa f.2.length qc) := hc2
         clear hinv hinv4 ho2 hq2 hf hB hdrop hkey hlt hm hrun ho4 hk4 hbase hq4
         go_wp2_with fail
         go_still_tail 10, (by kernel_rfl)
         change wpList _ _ _ _ _ (World.drew _)
         go_wp2_with (at_builtin; (first | (refine wpList_append_run (w := w3.drew.alloc (.cells #[.string f.1, .slice qa f.2.length qc] 125)) rfl _ _ _ _ rfl rfl rfl HRUN.out ?_)))
         go_roundw
         case rel => exact HREL.out
         case measure => simp [intOf]; omega
       ·obtain rfl : m = fs1.length := by omega
        have hout : tdos fs (l.take (k + 1)) = out := by
         rw [HST.out, hinv, List.drop_length]
         show out ++ [] = out
         exact List.append_nil _
        have hpa : PairsAt (Ext F w w3) w3 (.slice za zn zc) (tdos fs (l.take (k + 1))) := by
         rw [hout]
         have hz1 := HQ.out.size
         have hz2 := hq2.size
         refine ho2.files (fun b hb hlt => ?_) (fun b h1 h2 => .inr ⟨by omega, h2⟩)
         rcases hb with (hb | hb) | hb
         ·exact .inl hb
         ·exact .inr ⟨hb.1, hlt⟩
         ·exact .inr ⟨by omega, hlt⟩
        have HREL := hyd (⟨k + 1, hk1, rfl, hpa, HQ.out.trans hq2 (fun _ _ e => e)⟩ : ∃ k' : Nat, k' ≤ l.length ∧ Value.int .i64 ((k + 1 : Nat) : Int) = .int .i64 (k' : Int) ∧ PairsAt (Ext F w w3) w3 (.slice za zn zc) (tdos fs (l.take k')) ∧ Keeps (fun _ => False) w w3)
        clear hpa hout hinv ho2 hq2 hlt hm
        go_wp2_with fail
        go_roundw
        case rel => exact HREL.out
        case measure => simp [intOf]; omega
  ·obtain rfl : k = l.length := by omega
   rw [List.take_length] at hp
   obtain ⟨pa, pc, rfl, -, -⟩ := hp.form
   have HF := hyd (⟨_, rfl, hp, hq⟩ : PPost F w (tdos fs l) (.returned (.slice pa (tdos fs l).length pc)) wo)
   generalize (tdos fs l).length = n0 at HF ⊢
   clear hp hq hlt hk
   go_wp2_with fail
   go_ret
   exact HF.out
theorem take_eq_step {fs1 fs2 : FS} {k : Nat} {f f2 : ByteArray × List UInt8} (h1 : fs1[k]? = some f) (h2 : fs2[k]? = some f2) (ht : fs1.take k = fs2.take k) (he : f = f2) : fs1.take (k + 1) = fs2.take (k + 1) := by
 obtain ⟨hk1, e1⟩ := List.getElem?_eq_some_iff.1 h1
 obtain ⟨hk2, e2⟩ := List.getElem?_eq_some_iff.1 h2
 rw [List.take_succ_eq_append_getElem hk1, List.take_succ_eq_append_getElem hk2, ht, e1, e2, he]
theorem ne_step {fs1 fs2 : FS} {k : Nat} {f f2 : ByteArray × List UInt8} (h1 : fs1[k]? = some f) (h2 : fs2[k]? = some f2) (he : f ≠ f2) : decide (fs1 = fs2) = false := by
 refine decide_eq_false (fun e => he ?_)
 rw [e, h2] at h1
 cases h1; rfl
set_option maxRecDepth 100000 in
set_option maxHeartbeats 1000000 in
theorem rsame11_calls {F G : Nat → Prop} {w : World} {v v2 : Value} {fs1 fs2 : FS} (h : PairsAt F w v fs1) (h2 : PairsAt G w v2 fs2) (hb : fs1.length ≤ 1099511627775) : Calls Tryz.prog 76 #[v, v2] w (QuietP w (.bool (decide (fs1 = fs2)))) := by
 obtain ⟨pa, pc, rfl, -, hpm⟩ := h.form
 obtain ⟨qa, qc, rfl, -, hqm⟩ := h2.form
 have H := hyd h
 have H2 := hyd h2
 have i1 : (fs1.length : Int) ≤ 1099511627775 := by omega
 obtain ⟨hl2, hq2⟩ : fs2.length ≤ qc ∧ qc ≤ maxLen := by obtain ⟨a, c, e, g1, g2⟩ := h2.form; cases e; exact ⟨g1, g2⟩
 unfold maxLen at hq2
 clear h h2 hb hpm hqm
 by_cases hn : fs1.length = fs2.length
 ·have i2 : (fs2.length : Int) ≤ 1099511627775 := by omega
  have e0 : ((fs1.length : Int) != (fs2.length : Int)) = false := by rw [hn]; simp
  have HNL := hyd hn
  clear hl2 hq2 hn
  go_enter Tryz.func76, Tryz.ntmps76
  go_wp2_with fail
  go_loopw [5] (fun iv wx => ∃ k : Nat, k ≤ fs1.length ∧ iv = .int .i64 (k : Int) ∧ fs1.take k = fs2.take k ∧ Keeps (fun _ => False) w wx) (fun iv _ => fs1.length - (intOf iv).toNat)
  case atStart => exact ⟨0, Nat.zero_le _, rfl, rfl, Keeps.refl _ _⟩
  case round =>
   obtain ⟨k, hk, rfl, ht, hq⟩ := hrel
   have k0 : (0 : Int) ≤ k := by omega
   by_cases hlt : k < fs1.length
   ·obtain ⟨f, hf⟩ : ∃ f, fs1[k]? = some f := ⟨fs1[k], List.getElem?_eq_getElem hlt⟩
    obtain ⟨f2, hf2⟩ : ∃ f2, fs2[k]? = some f2 := ⟨fs2[k]'(by have := HNL.out; omega), List.getElem?_eq_getElem _⟩
    obtain ⟨g, cap, p, e, hc1, hc2, hB⟩ := (H.out.quiet hq (fun b hb _ => hb)).cell hf
    simp only [Value.slice.injEq] at e
    obtain ⟨rfl, -, rfl⟩ := e
    obtain ⟨g2, cap2, p2, e, hd1, hd2, hD⟩ := (H2.out.quiet hq (fun b hb _ => hb)).cell hf2
    simp only [Value.slice.injEq] at e
    obtain ⟨rfl, -, rfl⟩ := e
    obtain ⟨ba, bc, rfl, -, -⟩ := hB.form
    obtain ⟨da, dc, rfl, -, -⟩ := hD.form
    have k1 : (k : Int) < fs1.length := by omega
    have k2 : (k : Int) < fs2.length := by have := HNL.out; omega
    have hk1 : k + 1 ≤ fs1.length := by omega
    by_cases hkey : f.1 = f2.1
    ·have hbe : (f.1.toList == f2.1.toList) = true := by rw [hkey]; simp
     have hsm := fun W (hW : Keeps (fun _ => False) wr W) => same_calls (hB.reads.keep hW) (hD.reads.keep hW)
     have HSM := hyd hsm
     have HQ := hyd hq
     have hS : ∀ W, Keeps (fun _ => False) wr W → W.cell? ⟨g, k * 2, none⟩ = some (.string f.1) ∧ W.cell? ⟨g, k * 2 + 1, none⟩ = some (.slice ba f.2.length bc) ∧ W.cell? ⟨g2, k * 2, none⟩ = some (.string f2.1) ∧ W.cell? ⟨g2, k * 2 + 1, none⟩ = some (.slice da f2.2.length dc) := fun W hW => ⟨cell_keep hc1 hW, cell_keep hc2 hW, cell_keep hd1 hW, cell_keep hd2 hW⟩
     have HS := hyd hS
     obtain ⟨bv, hbv⟩ : ∃ bv, decide (f.2 = f2.2) = bv := ⟨_, rfl⟩
     rw [hbv] at HSM
     have HE := hyd (show bv = true → ∃ k' : Nat, k' ≤ fs1.length ∧ Value.int .i64 ((k + 1 : Nat) : Int) = .int .i64 (k' : Int) ∧ fs1.take k' = fs2.take k' from fun e => ⟨k + 1, hk1, rfl, take_eq_step hf hf2 ht (Prod.ext hkey (of_decide_eq_true (hbv.trans e)))⟩)
     have HN := hyd (show bv = false → decide (fs1 = fs2) = false from fun e => ne_step hf hf2 (fun e2 => by rw [e2, e] at hbv; simp at hbv))
     clear hsm hS hB hD hq ht hf hf2 hkey hlt hk hbv
     cases bv with
     | true =>
      have HEE := hyd (HE.out rfl)
      clear HE HN
      go_wp2_with fail
      go_region_held3 (fun w' => w'.cell? ⟨g, k * 2, none⟩ = some (.string f.1) ∧ w'.cell? ⟨g, k * 2 + 1, none⟩ = some (.slice ba f.2.length bc) ∧ w'.cell? ⟨g2, k * 2, none⟩ = some (.string f2.1) ∧ w'.cell? ⟨g2, k * 2 + 1, none⟩ = some (.slice da f2.2.length dc)) (first | exact HS.out _ ((Keeps.refl _ _).drew) | exact HS.out _ (((Keeps.refl _ _).drew).trans hk2 (fun _ _ e => e)) | go_keep) (first | (go_at_call 49; refine (HSM.out _ ((Keeps.refl _ _).drew)).mono ?_; rintro e w2 ⟨rfl, hk2⟩))
      all_goals
       obtain ⟨k', g1, g2', g3⟩ := HEE.out
       have HREL := hyd (⟨k', g1, g2', g3, (HQ.out.drew).trans hk2 (fun _ _ e => e)⟩ : ∃ k' : Nat, k' ≤ fs1.length ∧ Value.int .i64 ((k + 1 : Nat) : Int) = .int .i64 (k' : Int) ∧ fs1.take k' = fs2.take k' ∧ Keeps (fun _ => False) w w2)
       clear hk2 g1 g2' g3
       go_wp2_with fail
       go_roundw
       case rel => exact HREL.out
       case measure => simp [intOf]; omega
     | false =>
      have HNN := hyd (HN.out rfl)
      clear HE HN
      go_wp2_with fail
      go_region_held3 (fun w' => w'.cell? ⟨g, k * 2, none⟩ = some (.string f.1) ∧ w'.cell? ⟨g, k * 2 + 1, none⟩ = some (.slice ba f.2.length bc) ∧ w'.cell? ⟨g2, k * 2, none⟩ = some (.string f2.1) ∧ w'.cell? ⟨g2, k * 2 + 1, none⟩ = some (.slice da f2.2.length dc)) (first | exact HS.out _ ((Keeps.refl _ _).drew) | exact HS.out _ (((Keeps.refl _ _).drew).trans hk2 (fun _ _ e => e)) | go_keep) (first | (go_at_call 49; refine (HSM.out _ ((Keeps.refl _ _).drew)).mono ?_; rintro e w2 ⟨rfl, hk2⟩))
      all_goals
       have HF := hyd (show QuietP w (.bool (decide (fs1 = fs2))) (.returned (.bool false)) w2 by rw [HNN.out]; exact ⟨rfl, (HQ.out.drew).trans hk2 (fun _ _ e => e)⟩)
       clear hk2
       go_wp2_with fail
       go_ret
       exact HF.out
    ·have hbe : (f.1.toList == f2.1.toList) = false := by
      cases hb : (f.1.toList == f2.1.toList) with
      | false => rfl
      | true => exact absurd (toList_inj (by simpa using hb)) hkey
     have hne := ne_step hf hf2 (fun e => hkey (by rw [e]))
     have HF := hyd (show QuietP w (.bool (decide (fs1 = fs2))) (.returned (.bool false)) wr.drew by rw [hne]; exact ⟨rfl, hq.drew⟩)
     clear hne hB hD hq ht hf hf2 hkey hlt hk hc2 hd2
     go_wp2_with fail
     refine wp_region_held_drew (S := fun w' => w'.cell? ⟨g, k * 2, none⟩ = some (.string f.1) ∧ w'.cell? ⟨g2, k * 2, none⟩ = some (.string f2.1)) (by kernel_rfl) ⟨hc1, hd1⟩ (fun hHeld => ?_)
     refine tkH 0 17 (.slice (some ⟨g, 0, none⟩) fs1.length pc) rfl (by kernel_rfl) (by kernel_rfl) (by kernel_rfl) (fun _ _ _ h => h) (Or.inl ⟨by rfl, by intro w hSw; obtain ⟨s1, s2⟩ := hSw; go_simp⟩) hHeld ?_
     try simp only [Act.put, sA, sZ, sS]
     refine tkH 1 18 (.int .i64 (k : Int)) rfl (by kernel_rfl) (by kernel_rfl) (by kernel_rfl) (fun _ _ _ h => h) (Or.inl ⟨by rfl, by intro w hSw; obtain ⟨s1, s2⟩ := hSw; go_simp⟩) hHeld ?_
     try simp only [Act.put, sA, sZ, sS]
     refine tkH 2 19 (.pointer (some ⟨g, k * 2, none⟩)) rfl (by kernel_rfl) (by kernel_rfl) (by kernel_rfl) (fun _ _ _ h => h) (Or.inl ⟨by rfl, by intro w hSw; obtain ⟨s1, s2⟩ := hSw; go_simp⟩) hHeld ?_
     try simp only [Act.put, sA, sZ, sS]
     refine tkH 3 20 (.pointer (some ⟨g, k * 2, none⟩)) rfl (by kernel_rfl) (by kernel_rfl) (by kernel_rfl) (fun _ _ _ h => h) (Or.inl ⟨by rfl, by intro w hSw; obtain ⟨s1, s2⟩ := hSw; go_simp⟩) hHeld ?_
     try simp only [Act.put, sA, sZ, sS]
     refine tkH 4 21 (.string f.1) rfl (by kernel_rfl) (by kernel_rfl) (by kernel_rfl) (fun _ _ _ h => h) (Or.inl ⟨by rfl, by intro w hSw; obtain ⟨s1, s2⟩ := hSw; go_simp⟩) hHeld ?_
     try simp only [Act.put, sA, sZ, sS]
     refine tkH 5 22 (.slice (some ⟨g2, 0, none⟩) fs2.length qc) rfl (by kernel_rfl) (by kernel_rfl) (by kernel_rfl) (fun _ _ _ h => h) (Or.inl ⟨by rfl, by intro w hSw; obtain ⟨s1, s2⟩ := hSw; go_simp⟩) hHeld ?_
     try simp only [Act.put, sA, sZ, sS]
     refine tkH 6 23 (.int .i64 (k : Int)) rfl (by kernel_rfl) (by kernel_rfl) (by kernel_rfl) (fun _ _ _ h => h) (Or.inl ⟨by rfl, by intro w hSw; obtain ⟨s1, s2⟩ := hSw; go_simp⟩) hHeld ?_
     try simp only [Act.put, sA, sZ, sS]
     refine tkH 7 24 (.pointer (some ⟨g2, k * 2, none⟩)) rfl (by kernel_rfl) (by kernel_rfl) (by kernel_rfl) (fun _ _ _ h => h) (Or.inl ⟨by rfl, by intro w hSw; obtain ⟨s1, s2⟩ := hSw; go_simp⟩) hHeld ?_
     try simp only [Act.put, sA, sZ, sS]
     refine tkH 8 25 (.pointer (some ⟨g2, k * 2, none⟩)) rfl (by kernel_rfl) (by kernel_rfl) (by kernel_rfl) (fun _ _ _ h => h) (Or.inl ⟨by rfl, by intro w hSw; obtain ⟨s1, s2⟩ := hSw; go_simp⟩) hHeld ?_
     try simp only [Act.put, sA, sZ, sS]
     refine tkH 9 26 (.string f2.1) rfl (by kernel_rfl) (by kernel_rfl) (by kernel_rfl) (fun _ _ _ h => h) (Or.inl ⟨by rfl, by intro w hSw; obtain ⟨s1, s2⟩ := hSw; go_simp⟩) hHeld ?_
     try simp only [Act.put, sA, sZ, sS]
     refine tkH 10 27 (.bool true) rfl (by kernel_rfl) (by kernel_rfl) (by kernel_rfl) (fun _ _ _ h => h) (Or.inl ⟨by rfl, by intro w hSw; obtain ⟨s1, s2⟩ := hSw; go_simp⟩) hHeld ?_
     try simp only [Act.put, sA, sZ, sS]
     refine tkH 11 28 (.bool true) rfl (by kernel_rfl) (by kernel_rfl) (by kernel_rfl) (fun _ _ _ h => h) (Or.inl ⟨by rfl, by intro w hSw; obtain ⟨s1, s2⟩ := hSw; go_simp⟩) hHeld ?_
     try simp only [Act.put, sA, sZ, sS]
     refine tkH 12 29 (undef) rfl (by kernel_rfl) (by kernel_rfl) (by kernel_rfl) (fun _ _ _ h => h) (Or.inr ⟨by kernel_rfl, rfl⟩) hHeld ?_
     try simp only [Act.put, sA, sZ, sS]
     refine tkH 13 30 (undef) rfl (by kernel_rfl) (by kernel_rfl) (by kernel_rfl) (fun _ _ _ h => h) (Or.inr ⟨by kernel_rfl, rfl⟩) hHeld ?_
     try simp only [Act.put, sA, sZ, sS]
     refine tkH 14 31 (undef) rfl (by kernel_rfl) (by kernel_rfl) (by kernel_rfl) (fun _ _ _ h => h) (Or.inr ⟨by kernel_rfl, rfl⟩) hHeld ?_
     try simp only [Act.put, sA, sZ, sS]
     refine tkH 15 32 (undef) rfl (by kernel_rfl) (by kernel_rfl) (by kernel_rfl) (fun _ _ _ h => h) (Or.inr ⟨by kernel_rfl, rfl⟩) hHeld ?_
     try simp only [Act.put, sA, sZ, sS]
     refine tkH 16 33 (undef) rfl (by kernel_rfl) (by kernel_rfl) (by kernel_rfl) (fun _ _ _ h => h) (Or.inr ⟨by kernel_rfl, rfl⟩) hHeld ?_
     try simp only [Act.put, sA, sZ, sS]
     refine tkH 17 34 (undef) rfl (by kernel_rfl) (by kernel_rfl) (by kernel_rfl) (fun _ _ _ h => h) (Or.inr ⟨by kernel_rfl, rfl⟩) hHeld ?_
     try simp only [Act.put, sA, sZ, sS]
     refine tkH 18 35 (undef) rfl (by kernel_rfl) (by kernel_rfl) (by kernel_rfl) (fun _ _ _ h => h) (Or.inr ⟨by kernel_rfl, rfl⟩) hHeld ?_
     try simp only [Act.put, sA, sZ, sS]
     refine tkH 19 36 (undef) rfl (by kernel_rfl) (by kernel_rfl) (by kernel_rfl) (fun _ _ _ h => h) (Or.inr ⟨by kernel_rfl, rfl⟩) hHeld ?_
     try simp only [Act.put, sA, sZ, sS]
     refine tkH 20 37 (undef) rfl (by kernel_rfl) (by kernel_rfl) (by kernel_rfl) (fun _ _ _ h => h) (Or.inr ⟨by kernel_rfl, rfl⟩) hHeld ?_
     try simp only [Act.put, sA, sZ, sS]
     refine tkH 21 38 (undef) rfl (by kernel_rfl) (by kernel_rfl) (by kernel_rfl) (fun _ _ _ h => h) (Or.inr ⟨by kernel_rfl, rfl⟩) hHeld ?_
     try simp only [Act.put, sA, sZ, sS]
     refine tkH 22 39 (undef) rfl (by kernel_rfl) (by kernel_rfl) (by kernel_rfl) (fun _ _ _ h => h) (Or.inr ⟨by kernel_rfl, rfl⟩) hHeld ?_
     try simp only [Act.put, sA, sZ, sS]
     refine tkH 23 40 (undef) rfl (by kernel_rfl) (by kernel_rfl) (by kernel_rfl) (fun _ _ _ h => h) (Or.inr ⟨by kernel_rfl, rfl⟩) hHeld ?_
     try simp only [Act.put, sA, sZ, sS]
     refine tkH 24 41 (.bool true) rfl (by kernel_rfl) (by kernel_rfl) (by kernel_rfl) (fun _ _ _ h => h) (Or.inl ⟨by rfl, by intro w hSw; obtain ⟨s1, s2⟩ := hSw; go_simp⟩) hHeld ?_
     try simp only [Act.put, sA, sZ, sS]
     refine wpAnyH_done (by kernel_rfl) ?_ _
     go_wp2_with fail
     go_ret
     exact HF.out
   ·obtain rfl : k = fs1.length := by omega
    have he : fs1 = fs2 := by rw [List.take_length, HNL.out, List.take_length] at ht; exact ht
    have HF := hyd (show QuietP w (.bool (decide (fs1 = fs2))) (.returned (.bool true)) wr by rw [decide_eq_true he]; exact ⟨rfl, hq⟩)
    clear he ht hq hlt hk
    go_wp2_with fail
    go_ret
    exact HF.out
 ·have e0 : ((fs1.length : Int) != (fs2.length : Int)) = true := by simp; omega
  have hne : decide (fs1 = fs2) = false := decide_eq_false (fun e => hn (by rw [e]))
  rw [hne]
  clear hn hl2 hq2 hne
  go_enter Tryz.func76, Tryz.ntmps76
  go_wp2_with fail
  go_ret
  exact ⟨rfl, Keeps.refl _ _⟩
structure TabOk (fs : FS) : Prop where
 sorted : FSorted fs
 each : ∀ p ∈ fs, 0 < p.1.size ∧ p.1.size ≤ 320 ∧ p.2.length ≤ 262144
theorem TabOk.nil : TabOk [] := ⟨FSorted.nil, fun p hp => by simp at hp⟩
theorem TabOk.tdo {fs : FS} (h : TabOk fs) {c : TCh} (hc : badCh c = false) : TabOk (tdo fs c) := by
 refine ⟨FSorted.tdo h.sorted c, fun p hp => ?_⟩
 obtain ⟨g0, g1, g2⟩ := badCh_false hc
 unfold Go.Proofs.YtddnikpdmjogiaaGreat.tdo at hp
 split at hp
 ·exact h.each p (List.mem_filter.1 hp).1
 ·unfold fput at hp
  rcases List.mem_cons.1 ((fins_perm _ _).mem_iff.1 hp) with rfl | hp
  ·exact ⟨g0, g1, g2⟩
  ·exact h.each p (List.mem_filter.1 hp).1
theorem TabOk.tdos : ∀ (l : List TCh) {fs : FS}, TabOk fs → (∀ c ∈ l, badCh c = false) → TabOk (tdos fs l)
 | [], fs, h, _ => h
 | c :: l, fs, h, hc => TabOk.tdos l (h.tdo (hc c (List.mem_cons_self ..))) (fun x hx => hc x (List.mem_cons_of_mem _ hx))
theorem TabOk.names {fs : FS} (h : TabOk fs) : ∀ p ∈ fs, p.1.size ≤ maxLen := fun p hp => by have := (h.each p hp).2.1; unfold maxLen; omega
theorem blt_empty {s : ByteArray} (h : 0 < s.size) : blt ⟨#[]⟩ s = true := by
 unfold blt
 have hl := key_len s
 have he : (⟨#[]⟩ : ByteArray).toList = [] := by decide +kernel
 rw [he]
 cases hs : s.toList with
 | nil => rw [hs] at hl; simp at hl; omega
 | cons x l => rfl
theorem keysFrom_all : ∀ (fs : FS) (n : Int) (out : List ByteArray), (∀ p ∈ fs, 0 < p.1.size) → (out.length : Int) + fs.length ≤ n → keysFrom ⟨#[]⟩ ⟨#[]⟩ n fs out = out ++ fs.map (·.1)
 | [], n, out, _, _ => by rw [keysFrom]; simp
 | p :: fs, n, out, h, hn => by
  rw [List.length_cons] at hn
  rw [keysFrom, if_neg (by omega), if_pos ⟨begins_empty _, blt_empty (h p (List.mem_cons_self ..))⟩, keysFrom_all fs n _ (fun x hx => h x (List.mem_cons_of_mem _ hx)) (by rw [List.length_append, List.length_singleton]; omega)]
  simp
theorem keys_all {fs : FS} (h : TabOk fs) : keysOf fs ⟨#[]⟩ ⟨#[]⟩ (fs.length : Int) = fs.map (·.1) := by
 unfold keysOf
 rw [keysFrom_all fs _ [] (fun p hp => (h.each p hp).1) (by simp)]
 rfl
def PairsPost (w : World) (fs : FS) (e : Ending) (w' : World) : Prop := ∃ v, e = .returned (.tuple #[v, .bool true]) ∧ PairsAt (fun b => w.heap.size ≤ b) w' v fs ∧ Keeps (fun _ => False) w w'
theorem MapFs.later {F : Nat → Prop} {w w' : World} {b : Nat} {fs : FS} (h : MapFs F w b fs) (hk : Keeps (fun _ => False) w w') : MapFs F w' b fs := h.keep (hk.block b h.lt (fun e => e)) (KeepU8.of_none hk) (fun _ h _ => h)
set_option maxRecDepth 100000 in
set_option maxHeartbeats 1000000 in
theorem pairs11_calls {w : World} {t j b : Nat} {down : Bool} {F : Nat → Prop} {fs : FS} (h : w.heap[t]? = some (tabObj j b down)) (hm : MapFs F w b fs) (hok : TabOk fs) (hl : fs.length ≤ 1099511627774) :
  Calls Tryz.prog 75 #[.pointer (some ⟨t, 0, none⟩)] w (PairsPost w fs) := by
 have hlen := fun W (hk : Keeps (fun _ => False) w W) => tlen_runs (hk.at h (fun e => e)) (hm.later hk)
 have hkeys := tkeys_calls h hm hok.sorted hok.names (by omega) ⟨#[]⟩ ⟨#[]⟩ (fs.length : Int)
 rw [keys_all hok] at hkeys
 have hnd := hok.sorted.nodup
 have hget := fun W (hk : Keeps (fun _ => False) w W) (p : ByteArray × List UInt8) (hp : p ∈ fs) => tget_calls (hk.at h (fun e => e)) (hm.later hk) p.1 (by rw [fget_mem hnd (show (p.1, p.2) ∈ fs from hp)]; have := (hok.each p hp).2.2; simp only [Option.getD_some]; omega)
 have HLEN := hyd hlen
 have HK := hyd hkeys
 have HG := hyd hget
 have HND := hyd hnd
 have HLL := hyd hl
 have i1 : (fs.length : Int) ≤ 1099511627774 := by omega
 clear h hm hok hl hlen hkeys hget hnd
 go_enter Tryz.func75, Tryz.ntmps75
 go_wp2_with fail
 refine (HLEN.out w (Keeps.refl _ _)).out.mono ?_; rintro e w' ⟨rfl, rfl⟩
 go_wp2_with fail
 refine HK.out.mono ?_
 rintro e w1 ⟨kv, rfl, hkv, hk1⟩
 obtain ⟨ka, kc, e⟩ := hkv.form
 rw [List.length_map] at e
 subst e
 have HKV := hyd hkv
 have HK1 := hyd hk1
 clear hkv hk1 HK
 go_wp2_with fail
 go_loopw [4, 16] (fun ov iv wx => ∃ k : Nat, k ≤ fs.length ∧ iv = .int .i64 (k : Int) ∧ POutAt w1.heap.size (fun b => w.heap.size ≤ b) wx ov (fs.take k) ∧ Keeps (fun _ => False) w1 wx) (fun _ iv _ => fs.length - (intOf iv).toNat)
 case atStart => exact ⟨0, Nat.zero_le _, rfl, by rw [List.take_zero]; exact POutAt.nil _ _ _, Keeps.refl _ _⟩
 case round =>
  obtain ⟨k, hk, rfl, ho, hq⟩ := hrel
  have k0 : (0 : Int) ≤ k := by omega
  obtain ⟨w2, hw2⟩ : ∃ w2, w2 = wr := ⟨_, rfl⟩
  subst hw2
  by_cases hlt : k < fs.length
  ·obtain ⟨oa, on, oc, rfl⟩ := ho.form3
   obtain ⟨f, hf⟩ : ∃ f, fs[k]? = some f := ⟨fs[k], List.getElem?_eq_getElem hlt⟩
   obtain ⟨g, rfl, hc, hle, _⟩ := (HKV.out.keep hq).cell (i := k) (s := f.1) (by rw [List.getElem?_map, hf]; rfl)
   have k1 : (k : Int) < fs.length := by omega
   have hk1' : k + 1 ≤ fs.length := by omega
   have hmem := List.mem_of_getElem? hf
   have hfg := fget_mem HND.out (show (f.1, f.2) ∈ fs from hmem)
   have hgt := HG.out w2 (HK1.out.trans hq (fun _ _ e => e)) f hmem
   unfold GetPost at hgt
   rw [hfg] at hgt
   have HGT := hyd hgt
   have HO := hyd ho
   have HQ := hyd hq
   have HF := hyd hf
   clear hgt hfg hmem ho hq hf hlt hk hle
   go_wp2_with fail
   refine HGT.out.mono ?_
   rintro e w3 ⟨v, rfl, hv, hk3⟩
   simp only [Option.getD_some, Option.isSome_some] at hv ⊢
   obtain ⟨va, vn, vc, rfl⟩ := slice_form2 hv
   have hz := HK1.out.size
   have hz2 := HQ.out.size
   obtain ⟨a4, n4, c4, w4, hrun, ho4, hk4, hbase⟩ := (HO.out.keep hk3).push2 (n := f.1) (l := f.2) (by have := hk3.size; omega) (hv.bytes.keep (KeepU8.refl _ _) (fun b hb _ => by omega)) (by rw [List.length_take]; have := HLL.out; omega)
   rw [show (f.1, f.2) = f from rfl, ← take_snoc HF.out] at ho4
   have HREL := hyd (⟨k + 1, hk1', rfl, ho4, (HQ.out.trans hk3 (fun _ _ e => e)).trans hk4 (fun b hb e => by have := hbase b e; omega)⟩ : ∃ k' : Nat, k' ≤ fs.length ∧ Value.int .i64 ((k + 1 : Nat) : Int) = .int .i64 (k' : Int) ∧ POutAt w1.heap.size (fun b => w.heap.size ≤ b) w4 (.slice a4 n4 c4) (fs.take k') ∧ Keeps (fun _ => False) w1 w4)
   have HRUN := hyd hrun
   clear hrun ho4 hk4 hbase hv hk3 HGT HO HQ HF hz hz2
   go_wp2_with (at_builtin; (first | (refine wpList_append_run (w := w3.alloc (.cells #[.string f.1, .slice va vn vc] 125)) rfl _ _ _ _ rfl rfl rfl HRUN.out ?_)))
   go_roundw
   case rel => exact HREL.out
   case measure => simp [intOf]; omega
  ·obtain rfl : k = fs.length := by omega
   rw [List.take_length] at ho
   have hfl : PairsAt (fun b => w.heap.size ≤ b) w2 u4 fs := ho.files (fun b hb _ => hb) (fun b h1 _ => by have := HK1.out.size; omega)
   obtain ⟨pa, pc, rfl, -, -⟩ := hfl.form
   have hln := HLEN.out w2 (HK1.out.trans hq (fun _ _ e => e))
   have HLN := hyd hln
   have HF := hyd (⟨_, rfl, hfl, HK1.out.trans hq (fun _ _ e => e)⟩ : PairsPost w fs (.returned (.tuple #[.slice pa fs.length pc, .bool true])) w2)
   clear hfl ho hq hlt hk hln
   go_wp2_with fail
   refine HLN.out.out.mono ?_; rintro e w' ⟨rfl, rfl⟩
   go_wp2_with fail
   go_ret2
   exact HF.out
set_option maxRecDepth 100000 in
set_option maxHeartbeats 1000000 in
theorem is11_calls {w : World} {t j b : Nat} {down : Bool} {F G : Nat → Prop} {fs fs2 : FS} {v : Value} (h : w.heap[t]? = some (tabObj j b down)) (hm : MapFs F w b fs) (hok : TabOk fs) (hl : fs.length ≤ 1099511627774) (h2 : PairsAt G w v fs2) :
  Calls Tryz.prog 24 #[.pointer (some ⟨t, 0, none⟩), v] w (QuietP w (.bool (decide (fs = fs2)))) := by
 have hp := pairs11_calls h hm hok hl
 obtain ⟨va, vc, rfl, -, -⟩ := h2.form
 have HP := hyd hp
 have H2 := hyd h2
 have HL := hyd hl
 clear hp h hm hok hl h2
 obtain ⟨bv, hbv⟩ : ∃ bv, decide (fs = fs2) = bv := ⟨_, rfl⟩
 rw [hbv]
 have HBV := hyd hbv
 clear hbv
 go_enter Tryz.func24, Tryz.ntmps24
 go_wp2_with fail
 refine HP.out.mono ?_
 rintro e w1 ⟨pv, rfl, hpv, hk1⟩
 have hs := rsame11_calls hpv (H2.out.quiet (G := G) hk1 (fun b hb _ => hb)) (by have := HL.out; omega)
 obtain ⟨pa, pc, rfl, -, -⟩ := hpv.form
 have HS := hyd hs
 have HK := hyd hk1
 clear hs hpv hk1 HP H2
 rw [HBV.out] at HS
 go_wp2_with fail
 refine HS.out.mono ?_
 rintro e w2 ⟨rfl, hk2⟩
 have HF := hyd (HK.out.trans hk2 (fun _ _ e => e))
 clear hk2 HS HK
 cases bv
 all_goals go_wp2_with fail
 all_goals go_ret
 all_goals exact ⟨rfl, HF.out⟩
def rPairs (B : Nat) (v : Value) (fs : FS) : Res B := ⟨fun F w => PairsAt F w v fs, fun _ _ _ h hk => h.same (fun b hb => hk b (.inl hb))⟩
theorem Own.nilPairs {w wr : World} {rs : List (Res w.heap.size)} (h : Own w wr rs) : Own w wr (rPairs w.heap.size (.slice none 0 0) [] :: rs) :=
 h.add (Keeps.refl _ _) (r := rPairs w.heap.size (.slice none 0 0) []) (G := fun _ => False) (PairsAt.nil _ _) (fun b hb => hb.elim)
theorem Own.pairs {w wr : World} {rs : List (Res w.heap.size)} {v : Value} {fs : FS} (h : Own w wr rs) (hm : rPairs w.heap.size v fs ∈ rs) : ∃ F : Nat → Prop, PairsAt F wr v fs := by
 obtain ⟨F, hF, _⟩ := h.mem hm
 exact ⟨F, hF⟩
theorem Own.rdo {w wr : World} {lv : Value} {fs : FS} {rs : List (Res w.heap.size)} (h : Own w wr (rPairs w.heap.size lv fs :: rs)) (hs : FSorted fs) {a : Option Addr} {c : Nat} {l : List TCh} (hc : TChsIn wr a l) (hl : fs.length + l.length < 1099511627775) (hv : ∀ x ∈ l, x.val.length ≤ 140737488355328) :
  Calls Tryz.prog 30 #[lv, .slice a l.length c] wr (fun e w' => ∃ v', e = .returned v' ∧ Own w w' (rPairs w.heap.size v' (tdos fs l) :: rs)) := by
 obtain ⟨F, hF, hb, hback⟩ := h.open1
 refine (rdo11_calls hF hs hc hl hv).mono ?_
 rintro e w' ⟨v', rfl, hp, hk⟩
 exact ⟨v', rfl, hback w' (rPairs w.heap.size v' (tdos fs l)) hk.any hp⟩
end Go.Proofs.YtddnikpdmjogiaaGreat
