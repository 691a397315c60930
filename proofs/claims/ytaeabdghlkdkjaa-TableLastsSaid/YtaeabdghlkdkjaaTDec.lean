/- A table's decode. -/
import Derived.Test.YtaeabdghlkdkjaaTMem
import Derived.Test.YtaeabdghlkdkjaaRdC
import Derived.Test.YtaeabdghlkdkjaaPkK
import Derived.Deep.DeepCutAuto
import Derived.Deep.CutBlock
namespace Go.Proofs.Ytaeabdghlkdkjaa
set_option linter.unusedVariables false
open Go.RowKit Go.MapKept

theorem info_tchange : (Try.prog.info? 51).map (fun i => (i.zero, i.size, i.bytes)) = some (some (.agg #[.string ⟨#[]⟩, .bool false, .slice none 0 0]), 3, 48) := by kernel_rfl
/-- 'b[i:]'. -/
theorem tail_run {w : World} {a : Option Addr} {n c : Nat} {l : List UInt8} (h : Reads w (.slice a n c) l) (i : Nat) (hi : i ≤ l.length) :
    ∃ a' c', (∀ W, (Instr.sliceAt 41 (.slice a n c) (some (.int .i64 (i : Int))) none none).run Try.prog W = .ok (.slice a' (l.length - i) c') W) ∧ Reads w (.slice a' (l.length - i) c') (l.drop i) := by
  obtain ⟨b, d, e, h1, h2⟩ := h.form
  cases e
  have h3 := h.cutP i (l.length - i) (by omega)
  have ht : (l.drop i).take (l.length - i) = l.drop i := List.take_of_length_le (by rw [List.length_drop]; omega)
  rw [ht] at h3
  refine ⟨_, _, fun W => ?_, h3⟩
  rw [run_sliceAt_slice _ _ _ _ _ _ elem_bytes, run_slice_l W 41 a l.length c elem_bytes .i64 (i : Int) (by omega) (by omega), size_u8]
  simp only [Result.andThen, sliced, Int.toNat_natCast, Nat.mul_one]
theorem Reads.tail1 {w : World} {x : Addr} {c : Nat} {z : UInt8} {l : List UInt8} (h : Reads w (.slice (some x) (l.length + 1) c) (z :: l)) : Reads w (.slice (some { block := x.block, off := x.off + 1 }) l.length (c - 1)) l := by
  rcases h with ⟨e, _⟩ | ⟨y, c', e, h1, h2, h3⟩
  · cases e
  · cases e
    rw [List.length_cons] at h1
    refine .inr ⟨_, _, rfl, by omega, by omega, fun j u hu => ?_⟩
    have := h3 (j + 1) u (by simpa using hu)
    rw [Nat.add_comm j 1, ← Addr.add_add, Addr.add_succ'] at this
    exact this
theorem readtext_key {w : World} {v : Value} {b : List UInt8} (h : Reads w v b) (hb : b.length ≤ 1099511627776) : Calls Try.prog 91 #[v, .int .i64 320] w (RTPost w (readTextOf b 320)) := readtext_calls h hb 320 (by omega)
theorem readtext_val {w : World} {v : Value} {b : List UInt8} (h : Reads w v b) (hb : b.length ≤ 1099511627776) : Calls Try.prog 91 #[v, .int .i64 262144] w (RTPost w (readTextOf b 262144)) := readtext_calls h hb 262144 (by omega)
/-- Changes are told, or none. -/
def DecPost (w : World) (r : Option (List TCh)) (e : Ending) (w' : World) : Prop := ∃ v, e = .returned (.tuple #[v, .bool r.isSome]) ∧ Keeps (fun _ => False) w w' ∧ ∀ l, r = some l → TChsAt 51 w.heap.size w' v l
theorem DecPost.no {w wx : World} {r : Option (List TCh)} (hr : r = none) (hk : Keeps (fun _ => False) w wx) : DecPost w r (.returned (.tuple #[.slice none 0 0, .bool false])) wx := by
  subst hr
  exact ⟨_, rfl, hk, fun l hl => by cases hl⟩
theorem decFrom_succ {n k : Nat} (h : k < n) (b : List UInt8) (out : List TCh) : decFrom (n - k) b out = match decCh b with | none => none | some (c, b') => decFrom (n - (k + 1)) b' (out ++ [c]) := by
  rw [show n - k = (n - (k + 1)) + 1 by omega, decFrom]
  cases decCh b <;> rfl
/-- One change, in the terms of its texts. -/
theorem decCh_cons (z : UInt8) (b1 : List UInt8) : decCh (z :: b1) = if 1 < z.toNat then none
    else if (readTextOf b1 320).2.2 = 0 ∧ (readTextOf b1 320).1 ≠ [] then
      (if z.toNat = 0 then some (⟨⟨(readTextOf b1 320).1.toArray⟩, true, []⟩, b1.drop (readTextOf b1 320).2.1)
       else if (readTextOf (b1.drop (readTextOf b1 320).2.1) 262144).2.2 = 0 then some (⟨⟨(readTextOf b1 320).1.toArray⟩, false, (readTextOf (b1.drop (readTextOf b1 320).2.1) 262144).1⟩, (b1.drop (readTextOf b1 320).2.1).drop (readTextOf (b1.drop (readTextOf b1 320).2.1) 262144).2.1)
       else none)
    else none := rfl

set_option maxRecDepth 100000 in
set_option maxHeartbeats 1000000 in
theorem tdecode_calls {w : World} {v : Value} {b : List UInt8} (h : Reads w v b) (hb : b.length ≤ 1099511627776) : Calls Try.prog 46 #[v] w (DecPost w (decOf b)) := by
  have HC := Lib.hid (readcount_calls h)
  have hle := readCount_le b
  have hlt := readCount_lt b
  obtain ⟨n, u, e, hr⟩ : ∃ n u e, readCountOf b = (n, u, e) := ⟨_, _, _, rfl⟩
  have hd : decOf b = if e = 0 ∧ n ≤ 256 then decFrom n (b.drop u) [] else none := by unfold decOf; rw [hr]
  rw [hr] at HC hle hlt
  simp only at hle hlt
  obtain ⟨a, c, rfl, hc1, hc2⟩ := h.form
  have H := Lib.hid h
  have HD := Lib.hid hd
  have HBL := Lib.hid hb
  unfold maxLen at hc2
  have i2 : (u : Int) ≤ b.length := by omega
  have i5 : (0 : Int) ≤ u := by omega
  have i4 : (0 : Int) ≤ n := by omega
  have HLE := Lib.hid hle
  clear h hd hlt hb hc1 hc2 hle hr
  go_enter Try.func46, Try.ntmps46
  go_wp2_with fail
  refine HC.out.mono ?_
  rintro e1 w1 ⟨rfl, hk1⟩
  have HK1 := Lib.hid hk1
  have H1 := Lib.hid H.out
  clear hk1 HC
  unfold rcVal
  by_cases he : e = 0
  · subst he
    by_cases hn : 256 < n
    · have hd := HD.out
      rw [if_neg (by omega)] at hd
      have j1 : (256 : Int) < n := by omega
      have HF := Lib.hid (DecPost.no hd HK1.out)
      clear hd hn
      go_wp2_with fail
      go_ret2
      exact HF.out
    have hd := HD.out
    rw [if_pos ⟨rfl, by omega⟩] at hd
    obtain ⟨ta, tc, hsl, hrd⟩ := tail_run H1.out u HLE.out
    have hlen : b.length - u = (b.drop u).length := by rw [List.length_drop]
    rw [hlen] at hsl hrd
    have HD2 := Lib.hid hd
    have HRD := Lib.hid hrd
    have j1 : ¬ (256 : Int) < n := by omega
    have HBL2 := Lib.hid (show (b.drop u).length ≤ 1099511627776 by rw [List.length_drop]; have := HBL.out; omega)
    generalize b.drop u = b0 at hsl HD2 HRD HBL2
    clear hd hrd hlen hn HLE
    go_wp2_with fail
    go_loopw [0, 7, 28] (fun bv ov iv wx => ∃ (k : Nat) (rest : List UInt8) (out : List TCh), k ≤ n ∧ iv = .int .u64 (k : Int) ∧ out.length = k ∧ rest.length ≤ b0.length ∧ Reads w bv rest ∧ decOf b = decFrom (n - k) rest out ∧ TChsAt 51 w.heap.size wx ov out ∧ Keeps (fun _ => False) w wx) (fun _ _ iv _ => n - (intOf iv).toNat)
    case atStart => exact ⟨0, b0, [], Nat.zero_le _, rfl, rfl, Nat.le_refl _, HRD.out, HD2.out, TChsAt.nil _ _ _, HK1.out⟩
    case round =>
      obtain ⟨k, rest, out, hk, rfl, hol, hrl, hrd, hinv, ho, hq⟩ := hrel
      clear HD HD2 HRD HK1 H1 H hsl i2 i5
      have k0 : (0 : Int) ≤ k := by omega
      have n1 : (n : Int) ≤ 256 := by omega
      have hrl2 : rest.length ≤ 1099511627776 := by have := HBL2.out; omega
      obtain ⟨ra, rc, rfl, _, hrc⟩ := hrd.form
      obtain ⟨oa, oc, rfl⟩ := ho.form
      by_cases hlt : k < n
      · have j2 : (k : Int) < n := by omega
        rw [decFrom_succ hlt] at hinv
        have hk1 : k + 1 ≤ n := by omega
        cases rest with
        | nil =>
          have HF := Lib.hid (DecPost.no hinv hq)
          clear hinv ho hq hrd hlt hk hol hrl hrl2 hrc HBL HBL2
          go_wp2_with fail
          go_ret2
          exact HF.out
        | cons z b1 =>
          obtain ⟨x, rfl, hx⟩ := (hrd.keep hq).cell (k := 0) rfl (by simp)
          rw [Addr.add_zero'] at hx
          simp only [List.getElem_cons_zero] at hx
          have hzl := z.toNat_lt
          have hzn : (z :: b1).length = b1.length + 1 := rfl
          have l0 : (0 : Int) ≤ b1.length := by omega
          by_cases hz1 : 1 < z.toNat
          · rw [decCh_cons, if_pos hz1] at hinv
            have HF := Lib.hid (DecPost.no hinv hq)
            have j3 : (1 : Int) < z.toNat := by omega
            clear hinv ho hq hrd hlt hk hol hrl hrl2 hrc hz1 hzl HBL HBL2
            go_wp2_with fail
            go_ret2
            exact HF.out
          · obtain ⟨gone, hgo⟩ : ∃ gone : Bool, ((z.toNat : Int) == 0) = gone := ⟨_, rfl⟩
            have hgn : (z.toNat = 0) ↔ gone = true := by rw [← hgo]; simp
            have j3 : ¬ (1 : Int) < z.toNat := by omega
            rw [decCh_cons, if_neg hz1] at hinv
            obtain ⟨kb, u1, ec, hrt⟩ : ∃ kb u1 ec, readTextOf b1 320 = (kb, u1, ec) := ⟨_, _, _, rfl⟩
            have hul := readText_le b1 320
            rw [hrt] at hinv hul
            simp only at hinv hul
            have hB := heap_alloc_new wr (.cells #[.string ⟨#[]⟩, .bool gone, .slice none 0 0] 51)
            obtain ⟨a1, d1, hs1, hr1⟩ := tail_run hrd 1 (by simp)
            rw [List.drop_succ_cons, List.drop_zero, show (z :: b1).length - 1 = b1.length from rfl] at hr1
            have hs1' : ∀ W, (Instr.sliceAt 41 (.slice (some x) (b1.length + 1) rc) (some (.int .i64 1)) none none).run Try.prog W = .ok (.slice a1 b1.length d1) W := hs1
            have HRT := Lib.hid (readtext_key (w := wr.alloc (.cells #[.string ⟨#[]⟩, .bool gone, .slice none 0 0] 51)) (hr1.keep (hq.trans ((Keeps.refl _ wr).alloc _) (fun _ _ e => e))) (by simp at hrl2; omega))
            rw [hrt] at HRT
            obtain ⟨a2, d2, hs2, hr2⟩ := tail_run hrd (1 + u1) (by rw [List.length_cons]; omega)
            have e2 : ((1 + u1 : Nat) : Int) = 1 + (u1 : Int) := by omega
            rw [show (z :: b1).drop (1 + u1) = b1.drop u1 by rw [Nat.add_comm, List.drop_succ_cons], show (z :: b1).length - (1 + u1) = (b1.drop u1).length by rw [List.length_cons, List.length_drop]; omega] at hr2
            rw [e2, show (z :: b1).length - (1 + u1) = (b1.drop u1).length by rw [List.length_cons, List.length_drop]; omega] at hs2
            rw [List.length_cons] at hs2
            have uu0 : (0 : Int) ≤ u1 := by omega
            have uu2 : (u1 : Int) ≤ b1.length := by omega
            have uu3 : (u1 : Int) ≤ 1099511627776 := by simp at hrl2; omega
            have hww : IntKind.i64.wrap (1 + (u1 : Int)) = 1 + (u1 : Int) := by simp [IntKind.wrap, IntKind.bits, IntKind.signed]; omega
            have HUL := Lib.hid hul
            have HINV := Lib.hid hinv
            have HO := Lib.hid ho
            have HQ := Lib.hid hq
            have HR2 := Lib.hid hr2
            have HB := Lib.hid hB
            have HRL := Lib.hid hrl2
            have HOL := Lib.hid hol
            have HGN := Lib.hid hgn
            have HRLE := Lib.hid hrl
            clear hrt hul hinv ho hq hrd hB hrl2 hrc hz1 hzl hol hgn HBL hr2 e2 hrl hs1 hr1
            generalize (z.toNat : Int) = zi at hx hgo j3
            go_wp2_with fail
            refine HRT.out.mono ?_
            rintro e w2 ⟨kv, rfl, hok, hkk⟩
            obtain ⟨ka, kc, rfl, _, _⟩ := hok.bytes.form
            have HOK := Lib.hid hok
            have HKK := Lib.hid hkk
            have HKW := Lib.hid ((HQ.out.alloc _).trans hkk (fun _ _ e => e))
            clear hok hkk HRT
            by_cases hok : ec = 0 ∧ kb ≠ []
            · obtain ⟨rfl, hkb⟩ := hok
              have hinv := HINV.out
              rw [if_pos ⟨rfl, hkb⟩] at hinv
              have hkl : ((kb.length : Int) == 0) = false := by have := List.length_pos_iff.2 hkb; simp; intro e; rw [e] at this; simp at this
              have hkl0 : (0 : Int) ≤ kb.length := by omega
              have hcv := Reads.str (w := w2.drew) (HOK.out.bytes.reads.keep ((Keeps.refl _ w2).drew))
              have hB2 := HKK.out.at HB.out (fun e => e)
              have hk2 : Keeps (fun _ => False) wr w2.drew := (((Keeps.refl _ wr).alloc _).trans HKK.out (fun _ _ e => e)).drew
              have q0 : w2.drew.cell? ⟨wr.heap.size, 0, none⟩ = some (.string ⟨#[]⟩) := cell_at (i := 0) hB2 rfl
              have f0 : w2.drew.frozen? ⟨wr.heap.size, 0, none⟩ = false := free_at hB2 0
              have hfin : ∀ wx, wx = w2.drew.setCell ⟨wr.heap.size, 0, none⟩ (.string ⟨kb.toArray⟩) → Reads w (.slice a2 (b1.length - u1) d2) (b1.drop u1) ∧ Keeps (fun _ => False) wr wx ∧ wx.heap[wr.heap.size]? = some (.cells #[.string ⟨kb.toArray⟩, .bool gone, .slice none 0 0] 51 (0, 0)) := fun wx e => by
                subst e
                have hkx : Keeps (fun _ => False) wr (w2.drew.setCell ⟨wr.heap.size, 0, none⟩ (.string ⟨kb.toArray⟩)) := hk2.setCell (fun h => absurd h (Nat.lt_irrefl _)) _
                exact ⟨by have := HR2.out; rw [List.length_drop] at this; exact this, hkx, heap_setCell_eq (w := w2.drew) hB2 0 _⟩
              have HFIN := Lib.hid hfin
              have HINV2 := Lib.hid hinv
              clear hinv hkb hB2 hk2 hfin HINV HOK HKK HB
              go_upto_region 14 with fail
              go_cut [0] from 58 to 64 (fun bv wx => Reads w bv (b1.drop u1) ∧ Keeps (fun _ => False) wr wx ∧ wx.heap[wr.heap.size]? = some (.cells #[.string ⟨kb.toArray⟩, .bool gone, .slice none 0 0] 51 (0, 0)))
              case first =>
                go_region_law (fail)
                all_goals
                  go_wp2_with fail
                  go_meet
                  exact HFIN.out _ rfl
              case rest =>
                obtain ⟨hr3, hk3, hB3⟩ := hcut
                have q1 := cell_at (i := 1) hB3 rfl
                have hl3 : (b1.drop u1).length ≤ b0.length ∧ (b1.drop u1).length ≤ 1099511627776 := by
                  have h1 := HRLE.out; have h2 := HRL.out
                  rw [List.length_cons] at h1 h2
                  rw [List.length_drop]; omega
                have hinv2 := HINV2.out
                clear HINV2 HRL HRLE HR2 HUL uu0 uu2 uu3
                generalize b1.drop u1 = r3 at hr3 hl3 hinv2
                obtain ⟨ra3, rc3, rfl, _, _⟩ := hr3.form
                have HL3 := Lib.hid hl3
                have HINV2 := Lib.hid hinv2
                clear hl3 hinv2
                have HR3 := Lib.hid hr3
                have HK3 := Lib.hid hk3
                have HB3 := Lib.hid hB3
                clear hr3 hk3 hB3 HFIN hcv q0 f0 hww hs2 hs1' hx
                go_upto_if 67 with fail
                go_cut [0] from 69 to 79 (fun bv wx => ∃ (p : Value) (rest' val : List UInt8), decOf b = decFrom (n - (k + 1)) rest' (out ++ [⟨⟨kb.toArray⟩, gone, val⟩]) ∧ rest'.length ≤ b0.length ∧ Reads w bv rest' ∧ Keeps (fun _ => False) wr wx ∧ wx.heap[wr.heap.size]? = some (.cells #[.string ⟨kb.toArray⟩, .bool gone, p] 51 (0, 0)) ∧ Owns wx wr.heap.size p val)
                case first =>
                  cases gone with
                  | true =>
                    have hfin : ∃ (p : Value) (rest' val : List UInt8), decOf b = decFrom (n - (k + 1)) rest' (out ++ [⟨⟨kb.toArray⟩, true, val⟩]) ∧ rest'.length ≤ b0.length ∧ Reads w (.slice ra3 r3.length rc3) rest' ∧ Keeps (fun _ => False) wr wc ∧ wc.heap[wr.heap.size]? = some (.cells #[.string ⟨kb.toArray⟩, .bool true, p] 51 (0, 0)) ∧ Owns wc wr.heap.size p val := by
                      have hinv := HINV2.out
                      rw [if_pos (HGN.out.2 rfl)] at hinv
                      exact ⟨_, r3, [], hinv, HL3.out.1, HR3.out, HK3.out, HB3.out, Owns.nil _ _⟩
                    have HF := Lib.hid hfin
                    clear hfin
                    go_wp2_with fail
                    go_meet
                    exact HF.out
                  | false =>
                    have hz : ¬ z.toNat = 0 := fun h => absurd (HGN.out.1 h) (by simp)
                    have hinv := HINV2.out
                    rw [if_neg hz] at hinv
                    have HRV := Lib.hid (readtext_val (HR3.out.keep (HQ.out.trans HK3.out (fun _ _ e => e))) HL3.out.2)
                    have hul := readText_le r3 262144
                    obtain ⟨vb, u5, ev, hrv⟩ : ∃ vb u5 ev, readTextOf r3 262144 = (vb, u5, ev) := ⟨_, _, _, rfl⟩
                    rw [hrv] at HRV hinv hul
                    simp only at hinv hul
                    obtain ⟨a5, d5, hs5, hr5⟩ := tail_run HR3.out u5 hul.1
                    have hl5 : (r3.drop u5).length ≤ b0.length := by have := HL3.out.1; rw [List.length_drop]; omega
                    have hln : r3.length - u5 = (r3.drop u5).length := by rw [List.length_drop]
                    rw [hln] at hs5 hr5
                    generalize r3.drop u5 = r5 at hs5 hr5 hl5 hinv
                    have HINV5 := Lib.hid hinv
                    have HR5 := Lib.hid hr5
                    have HL5 := Lib.hid hl5
                    clear hrv hinv hul hr5 hl5 hln hz HINV2
                    go_wp2_with fail
                    refine HRV.out.mono ?_
                    rintro e w4 ⟨vv, rfl, hov, hkv⟩
                    obtain ⟨va, vc, rfl, _, _⟩ := hov.bytes.form
                    have hB4 := hkv.at HB3.out (fun e => e)
                    have hk4 : Keeps (fun _ => False) wr w4 := HK3.out.trans hkv (fun _ _ e => e)
                    have q2 : w4.cell? ⟨wr.heap.size, 2, none⟩ = some (.slice none 0 0) := cell_at (i := 2) hB4 rfl
                    have f2 : w4.frozen? ⟨wr.heap.size, 2, none⟩ = false := free_at hB4 2
                    have hk5 : Keeps (fun _ => False) wr (w4.setCell ⟨wr.heap.size, 2, none⟩ (.slice va vb.length vc)) := hk4.setCell (fun h => absurd h (Nat.lt_irrefl _)) _
                    have hk45 : Keeps (fun b => b = wr.heap.size) w4 (w4.setCell ⟨wr.heap.size, 2, none⟩ (.slice va vb.length vc)) := Keeps.setCell (p := ⟨wr.heap.size, 2, none⟩) (Keeps.refl (fun b => b = wr.heap.size) w4) (fun _ => rfl) _
                    have hkw : Keeps (fun _ => False) w (w4.setCell ⟨wr.heap.size, 2, none⟩ (.slice va vb.length vc)) := HQ.out.trans hk5 (fun _ _ e => e)
                    have hB5 := heap_setCell_eq hB4 2 (.slice va vb.length vc)
                    have ho5 : Owns (w4.setCell ⟨wr.heap.size, 2, none⟩ (.slice va vb.length vc)) wr.heap.size (.slice va vb.length vc) vb := by
                      refine Owns.base (owns_keep hov hk45 (fun b hb e => ?_)) HK3.out.size
                      subst e
                      obtain ⟨cur, e2⟩ := ownsRow_type hov hb
                      rw [hB4] at e2
                      simp only [Option.some.injEq, Obj.cells.injEq] at e2
                      exact absurd e2.2.1 (by decide)
                    by_cases hev : ev = 0
                    · subst hev
                      have hinv := HINV5.out
                      rw [if_pos rfl] at hinv
                      have HF := Lib.hid (⟨_, r5, vb, hinv, HL5.out, HR5.out, hk5, hB5, ho5⟩ : ∃ (p : Value) (rest' val : List UInt8), decOf b = decFrom (n - (k + 1)) rest' (out ++ [⟨⟨kb.toArray⟩, false, val⟩]) ∧ rest'.length ≤ b0.length ∧ Reads w (.slice a5 r5.length d5) rest' ∧ Keeps (fun _ => False) wr (w4.setCell ⟨wr.heap.size, 2, none⟩ (.slice va vb.length vc)) ∧ (w4.setCell ⟨wr.heap.size, 2, none⟩ (.slice va vb.length vc)).heap[wr.heap.size]? = some (.cells #[.string ⟨kb.toArray⟩, .bool false, p] 51 (0, 0)) ∧ Owns (w4.setCell ⟨wr.heap.size, 2, none⟩ (.slice va vb.length vc)) wr.heap.size p val)
                      clear hinv hk5 hB5 ho5 hkw hk45 hk4 hB4 hov hkv HRV HR5 HINV5
                      go_wp2_with fail
                      go_meet
                      exact HF.out
                    · have hinv := HINV5.out
                      rw [if_neg hev] at hinv
                      have HF := Lib.hid (DecPost.no hinv hkw)
                      have he2 : (ev != 0) = true := by simpa using hev
                      clear hinv hev hk5 hB5 ho5 hkw hk45 hk4 hB4 hov hkv HRV HR5 HINV5
                      go_wp2_with fail
                      go_ret2
                      exact HF.out
                case rest =>
                  obtain ⟨p, rest', val, hinv, hl', hr', hk', hB', ho'⟩ := hcut
                  have q0 := cell_at (i := 0) hB' rfl
                  have q2 := cell_at (i := 1) hB' rfl
                  have q3 := cell_at (i := 2) hB' rfl
                  obtain ⟨a7, k7, w7, hrun7, ho7, hk7, hb7⟩ := TChsAt.push (T := 51) (Ts := 35) info_tchange Try.underlying35 (by decide) (c := ⟨⟨kb.toArray⟩, gone, val⟩) HO.out HQ.out.size hk' ho' (by have := HOL.out; omega)
                  have hkw : Keeps (fun _ => False) w w7 := (HQ.out.trans hk' (fun _ _ e => e)).trans hk7 (fun b hb e => by have := hb7 b e; omega)
                  obtain ⟨ua, uc, rfl, _, _⟩ := hr'.form
                  have HREL := Lib.hid (⟨k + 1, rest', out ++ [⟨⟨kb.toArray⟩, gone, val⟩], hk1, rfl, by simp; exact HOL.out, hl', hr', hinv, ho7, hkw⟩ : ∃ (k' : Nat) (rest'' : List UInt8) (out' : List TCh), k' ≤ n ∧ Value.int .u64 ((k + 1 : Nat) : Int) = .int .u64 (k' : Int) ∧ out'.length = k' ∧ rest''.length ≤ b0.length ∧ Reads w (.slice ua rest'.length uc) rest'' ∧ decOf b = decFrom (n - k') rest'' out' ∧ TChsAt 51 w.heap.size w7 (.slice a7 (out.length + 1) k7) out' ∧ Keeps (fun _ => False) w w7)
                  have HRUN := Lib.hid hrun7
                  obtain ⟨pa, pc, rfl, _, _⟩ := ho'.bytes.form
                  clear hinv hl' hr' hk' hB' ho' hrun7 ho7 hk7 hb7 hkw HINV2 HR3 HK3 HB3 HL3
                  go_wp2_with (first | (at_builtin; refine wpList_append_run (w := wc.alloc (.cells #[.string ⟨kb.toArray⟩, .bool gone, .slice pa val.length pc] 51)) rfl _ _ _ _ rfl rfl rfl HRUN.out ?_))
                  go_roundw
                  case rel => exact HREL.out
                  case measure => simp [intOf]; omega
            · have hinv := HINV.out
              rw [if_neg hok] at hinv
              have HF := Lib.hid (DecPost.no hinv HKW.out)
              clear hinv
              by_cases h0 : ec = 0
              · subst h0
                have hkb : kb = [] := by
                  cases kb with
                  | nil => rfl
                  | cons y ys => exact absurd ⟨rfl, by simp⟩ hok
                subst hkb
                clear hok
                go_wp2_with fail
                go_ret2
                exact HF.out
              · have he2 : (ec != 0) = true := by simpa using h0
                clear hok h0
                go_wp2_with fail
                go_ret2
                exact HF.out
      · obtain rfl : k = n := by omega
        rw [Nat.sub_self, decFrom] at hinv
        obtain ⟨bb, hbb⟩ : ∃ bb : Bool, ((rest.length : Int) == 0) = bb := ⟨_, rfl⟩
        have hbr : rest = [] ↔ bb = true := by rw [← hbb]; simp
        have hfin : DecPost w (decOf b) (.returned (.tuple #[.slice oa out.length oc, .bool bb])) wr := by
          by_cases hr0 : rest = []
          · rw [if_pos hr0] at hinv
            rw [hinv, hbr.1 hr0]
            exact ⟨_, rfl, hq, fun l hl => by cases hl; exact ho⟩
          · rw [if_neg hr0] at hinv
            rw [hinv]
            have : bb = false := by cases bb with | false => rfl | true => exact absurd (hbr.2 rfl) hr0
            rw [this]
            exact ⟨_, rfl, hq, fun l hl => by cases hl⟩
        have HF := Lib.hid hfin
        have rl0 : (0 : Int) ≤ rest.length := by omega
        clear hfin hinv ho hq hrd hlt hk hol hrl hrl2 hrc HBL HBL2 hbr
        go_wp2_with fail
        go_ret2
        exact HF.out
  · have hd := HD.out
    rw [if_neg (fun h => he h.1)] at hd
    have he2 : (e != 0) = true := by simpa using he
    have HF := Lib.hid (DecPost.no hd HK1.out)
    clear he hd
    go_wp2_with fail
    go_ret2
    exact HF.out
end Go.Proofs.Ytaeabdghlkdkjaa
