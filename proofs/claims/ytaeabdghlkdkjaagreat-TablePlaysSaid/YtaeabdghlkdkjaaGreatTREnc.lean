/- The document's Encode of layer 11. -/
import Derived.Test.YtaeabdghlkdkjaaGreatTEnc
import Derived.Test.YtaeabdghlkdkjaaGreatPkO
namespace Go.Proofs.YtaeabdghlkdkjaaGreat
set_option linter.unusedVariables false
open Go.RowKit Go.MapKept

set_option maxRecDepth 100000 in
set_option maxHeartbeats 1000000 in
theorem rencode_calls {w : World} {a : Option Addr} {c : Nat} {l : List TCh} (h : TChsIn w a l) (hlc : l.length ≤ c) (hc : c ≤ maxLen) : Calls Tryz.prog 84 #[.slice a l.length c] w (EncPost w (encOf l)) := by
  have H := Lib.hid h
  unfold maxLen at hc
  have i0 : (l.length : Int) ≤ 9223372036854775807 := by omega
  have i1 : (0 : Int) ≤ (l.length : Int) := by omega
  clear h hlc hc
  by_cases hbig : 256 < l.length
  · have he : encOf l = (8, []) := by unfold encOf; rw [if_pos hbig]
    have j1 : (256 : Int) < l.length := by omega
    rw [he]
    clear hbig he
    go_enter Tryz.func84, Tryz.ntmps84
    go_wp2_with fail
    go_ret2
    exact ⟨_, rfl, Owns.nil _ _, Keeps.refl _ _⟩
  have he : encOf l = encFrom l (countOf l.length) := by unfold encOf; rw [if_neg hbig]
  have j1 : (l.length : Int) ≤ 256 := by omega
  have HCN := Lib.hid (fun W => rcount_calls W l.length (by omega))
  have hcl := countOf_len10 (n := l.length) (by omega)
  rw [he]
  have HCL := Lib.hid hcl
  clear he hcl hbig
  go_enter Tryz.func84, Tryz.ntmps84
  go_wp2_with fail
  refine (HCN.out w).mono ?_
  rintro e w1 ⟨cv, rfl, ho1, hk1⟩
  have HO1 := Lib.hid ho1
  have HK1 := Lib.hid hk1
  clear ho1 hk1 HCN
  go_wp2_with fail
  go_loopw [4, 5] (fun ov iv wx => ∃ (k : Nat) (out : List UInt8), k ≤ l.length ∧ iv = .int .i64 (k : Int) ∧ Owns wx w.heap.size ov out ∧ encFrom l (countOf l.length) = encFrom (l.drop k) out ∧ out.length ≤ 1048568 ∧ Keeps (fun _ => False) w wx) (fun _ iv _ => l.length - (intOf iv).toNat)
  case atStart => exact ⟨0, _, Nat.zero_le _, rfl, HO1.out, rfl, by have := HCL.out; omega, HK1.out⟩
  case round =>
    obtain ⟨k, out, hk, rfl, ho, hinv, hol, hq⟩ := hrel
    clear HO1 HK1 HCL
    have j0 : (0 : Int) ≤ k := by omega
    obtain ⟨oa, on, oc, rfl⟩ := slice_form ho
    by_cases hlt : k < l.length
    · obtain ⟨ch, hch⟩ : ∃ ch, l[k]? = some ch := ⟨l[k], List.getElem?_eq_getElem hlt⟩
      obtain ⟨x, p, rfl, c0, c1, c2, hp⟩ := H.out.cells hch
      have hinv2 : encFrom (l.drop k) out = if badCh ch = true then (1, []) else if 1048568 < (out ++ encCh ch).length then (8, []) else encFrom (l.drop (k + 1)) (out ++ encCh ch) := by
        obtain ⟨hk', he⟩ := List.getElem?_eq_some_iff.1 hch
        rw [List.drop_eq_getElem_cons hk', encFrom, he]
      rw [hinv2] at hinv
      clear hinv2
      obtain ⟨key, gone, val⟩ := ch
      dsimp only at c0 c1 c2 hp
      obtain ⟨pa, pc, rfl, -, -⟩ := hp.form
      have CC := Lib.hid (fun (W : World) (hk : Keeps (fun _ => False) w W) => (⟨cell_keep c0 hk, cell_keep c1 hk, cell_keep c2 hk⟩ : W.cell? (x.add (k * 3)) = some (.string key) ∧ W.cell? { block := (x.add (k * 3)).block, off := (x.add (k * 3)).off + 1 } = some (.bool gone) ∧ W.cell? { block := (x.add (k * 3)).block, off := (x.add (k * 3)).off + 2 } = some (.slice pa val.length pc)))
      obtain ⟨q0, q1, q2⟩ := CC.out wr hq
      have j2 : (k : Int) < l.length := by omega
      have hk1 : k + 1 ≤ l.length := by omega
      have o0 : (0 : Int) ≤ (key.size : Int) := by omega
      have o1 : (0 : Int) ≤ (val.length : Int) := by omega
      have HINV := Lib.hid hinv
      have HO := Lib.hid ho
      have HQ := Lib.hid hq
      have HP := Lib.hid hp
      have HOL := Lib.hid hol
      clear hinv ho hq hp hk hlt hch hol c0 c1 c2
      by_cases hb : badCh ⟨key, gone, val⟩ = true
      · rw [if_pos hb] at HINV
        have HFIN := Lib.hid (⟨_, by rw [HINV.out], by rw [HINV.out]; exact Owns.nil _ _, HQ.out⟩ : EncPost w (encFrom l (countOf l.length)) (.returned (.tuple #[.slice none 0 0, .int .i64 1])) wr)
        unfold badCh at hb
        simp only [Bool.or_eq_true, decide_eq_true_eq] at hb
        clear HINV HP HO HQ HOL
        by_cases e0 : key.size = 0
        · have b1 : key.toList.isEmpty = true := by rw [List.isEmpty_iff]; exact List.eq_nil_of_length_eq_zero (by rw [key_len]; exact e0)
          clear hb e0
          go_wp2_with fail
          go_ret2
          exact HFIN.out
        · have b1 : key.toList.isEmpty = false := by rw [← Bool.not_eq_true, List.isEmpty_iff]; exact fun e => e0 (by rw [← key_len, e]; rfl)
          by_cases e1 : 320 < key.size
          · have b2 : decide ((320 : Int) < (key.size : Int)) = true := decide_eq_true (by omega)
            clear hb e0 e1
            go_wp2_with fail
            go_ret2
            exact HFIN.out
          · have b2 : decide ((320 : Int) < (key.size : Int)) = false := decide_eq_false (by omega)
            have b3 : decide ((262144 : Int) < (val.length : Int)) = true := decide_eq_true (by omega)
            clear hb e0 e1
            go_wp2_with fail
            go_ret2
            exact HFIN.out
      · rw [if_neg hb] at HINV
        obtain ⟨g0, g1, g2⟩ := badCh_false (by simpa using hb : badCh ⟨key, gone, val⟩ = false)
        dsimp only at g0 g1 g2
        have b1 : key.toList.isEmpty = false := by rw [← Bool.not_eq_true, List.isEmpty_iff]; exact fun e => by rw [← key_len, e] at g0; simp at g0
        have b2 : decide ((320 : Int) < (key.size : Int)) = false := decide_eq_false (by omega)
        have b3 : decide ((262144 : Int) < (val.length : Int)) = false := decide_eq_false (by omega)
        have hkl : (textOf key.toList).length ≤ 400 := by
          have hk' := key_len key
          have h1 := countOf_len10 (n := key.toList.length) (by omega)
          unfold textOf; rw [List.length_append]; omega
        have hvl : (textOf val).length ≤ 300000 := by
          have h1 := countOf_len10 (n := val.length) (by omega)
          unfold textOf; rw [List.length_append]; omega
        -- the kind
        obtain ⟨kb, hkb⟩ : ∃ kb : UInt8, (if gone = true then (0 : UInt8) else 1) = kb := ⟨_, rfl⟩
        have hgr : ∃ v' w', (Builtin.append_ #[36, 36] 36 #[.slice oa on oc, .slice (some ⟨wr.heap.size, 0, none⟩) 1 1]).run Tryz.prog (wr.alloc (.cells #[.int .u8 (kb.toNat : Int)] 5)) = .ok v' w' ∧ Owns w' w.heap.size v' (out ++ [kb]) ∧ Keeps (fun _ => False) w w' := by
          obtain ⟨v', w', h1, h2, h3⟩ := Owns.grow (wr := wr.alloc (.cells #[.int .u8 (kb.toNat : Int)] 5)) (by rw [World.size_alloc]; have := HQ.out.size; omega) (HO.out.keep ((Keeps.refl (fun _ => False) wr).alloc _)) (one_byte wr kb) (by have := HOL.out; simp; omega)
          exact ⟨v', w', h1, h2, (HQ.out.trans ((Keeps.refl (fun _ => False) wr).alloc _) (fun _ _ e => e)).trans h3 (fun b hb e => by have := owns_lt HO.out b e; omega)⟩
        obtain ⟨v2, w2, hr2, ho2, hk2⟩ := hgr
        obtain ⟨a2, n2, c2', rfl⟩ := slice_form ho2
        obtain ⟨cc, w3, hcv, hrd3, hk3⟩ := conv_bytes key (by omega) w2
        have ht3 := rtext_calls hrd3 (by rw [key_len]; omega)
        obtain ⟨r0, r1, r2⟩ := CC.out w2 hk2
        have HR2 := Lib.hid hr2
        have HT3 := Lib.hid ht3
        have HG3 := Lib.hid (fun (W : World) (tv : Value) (hk : Keeps (fun _ => False) w3 W) (ht : Reads W tv (textOf key.toList)) => (ho2.keep (hk3.trans hk (fun _ _ e => e))).more (w := w) ((hk2.trans (hk3.trans hk (fun _ _ e => e)) (fun _ _ e => e)).size) ht (by have := HOL.out; simp; omega) (hk2.trans (hk3.trans hk (fun _ _ e => e)) (fun _ _ e => e)) (Nat.le_refl _))
        have HVL := Lib.hid hvl
        have HKL := Lib.hid hkl
        have HG2 := Lib.hid g2
        clear hr2 ho2 hk2 hrd3 hk3 ht3 hb g0 g1 g2 hkl hvl HO HQ
        cases gone with
        | true =>
          obtain rfl : (0 : UInt8) = kb := hkb
          go_wp2_with (first | (at_builtin; refine wpList_append_run rfl _ _ _ _ rfl rfl rfl HR2.out ?_) | fail)
          refine HT3.out.mono ?_
          rintro e w4 ⟨tv, rfl, ho4, hk4⟩
          obtain ⟨v5, w5, hr5, ho5, hk5⟩ := HG3.out w4 tv hk4 ho4.bytes.reads
          obtain ⟨ta, tn, tc, rfl⟩ := slice_form ho4
          obtain ⟨s0, s1, s2⟩ := CC.out w5 hk5
          clear HR2 HT3 HG3 hcv r0 r1 r2 q0 q1 q2 ho4 hk4
          have hinv := HINV.out
          have he : out ++ [0] ++ textOf key.toList = out ++ encCh ⟨key, true, val⟩ := by simp [encCh]
          rw [he] at ho5
          obtain ⟨n9, hn9⟩ : ∃ n, n = (out ++ encCh ⟨key, true, val⟩).length := ⟨_, rfl⟩
          obtain ⟨a9, c9, rfl, -, -⟩ := ho5.bytes.form
          rw [← hn9] at hinv ho5 hr5
          have HRR := Lib.hid hr5
          clear HINV HP HOL CC HKL HVL HG2 he hr5
          by_cases hl : 1048568 < n9
          · rw [if_pos hl] at hinv
            have bl : decide ((1048568 : Int) < (n9 : Int)) = true := decide_eq_true (by omega)
            have HFIN := Lib.hid (⟨_, by rw [hinv], by rw [hinv]; exact Owns.nil _ _, hk5⟩ : EncPost w (encFrom l (countOf l.length)) (.returned (.tuple #[.slice none 0 0, .int .i64 8])) _)
            clear hl hn9 ho5 hk5 hinv
            go_wp2_with (first | (at_builtin; refine wpList_append_run rfl _ _ _ _ rfl rfl rfl HRR.out ?_) | fail)
            go_ret2
            exact HFIN.out
          · rw [if_neg hl] at hinv
            have bl : decide ((1048568 : Int) < (n9 : Int)) = false := decide_eq_false (by omega)
            have HO9 := Lib.hid ho5
            have HK9 := Lib.hid hk5
            have HI9 := Lib.hid hinv
            have HN9 := Lib.hid (show (out ++ encCh ⟨key, true, val⟩).length ≤ 1048568 by omega)
            clear hl hn9 ho5 hk5 hinv
            go_wp2_with (first | (at_builtin; refine wpList_append_run rfl _ _ _ _ rfl rfl rfl HRR.out ?_) | fail)
            go_roundw
            case rel => exact ⟨k + 1, out ++ encCh ⟨key, true, val⟩, hk1, rfl, HO9.out, HI9.out, HN9.out, HK9.out⟩
            case measure => simp [intOf]; omega
        | false =>
          obtain rfl : (1 : UInt8) = kb := hkb
          go_wp2_with (first | (at_builtin; refine wpList_append_run rfl _ _ _ _ rfl rfl rfl HR2.out ?_) | fail)
          refine HT3.out.mono ?_
          rintro e w4 ⟨tv, rfl, ho4, hk4⟩
          obtain ⟨v5, w5, hr5, ho5, hk5⟩ := HG3.out w4 tv hk4 ho4.bytes.reads
          obtain ⟨ta, tn, tc, rfl⟩ := slice_form ho4
          obtain ⟨a5, n5, c5, rfl⟩ := slice_form ho5
          obtain ⟨s0, s1, s2⟩ := CC.out w5 hk5
          have HT5 := Lib.hid (rtext_calls (HP.out.keep hk5) (by have := HG2.out; omega))
          have HG5 := Lib.hid (fun (W : World) (tv : Value) (hk : Keeps (fun _ => False) w5 W) (ht : Reads W tv (textOf val)) => (ho5.keep hk).more (w := w) ((hk5.trans hk (fun _ _ e => e)).size) ht (by have := HOL.out; have := HKL.out; have := HVL.out; simp only [List.length_append, List.length_cons, List.length_nil]; omega) (hk5.trans hk (fun _ _ e => e)) (Nat.le_refl _))
          have HR5 := Lib.hid hr5
          clear HR2 HT3 HG3 hcv r0 r1 r2 q0 q1 q2 ho4 hk4 hr5 ho5 hk5
          go_wp2_with (first | (at_builtin; refine wpList_append_run rfl _ _ _ _ rfl rfl rfl HR5.out ?_) | fail)
          refine HT5.out.mono ?_
          rintro e w6 ⟨tv, rfl, ho6, hk6⟩
          obtain ⟨v7, w7, hr7, ho7, hk7⟩ := HG5.out w6 tv hk6 ho6.bytes.reads
          obtain ⟨ta, tn, tc, rfl⟩ := slice_form ho6
          obtain ⟨t0, t1, t2⟩ := CC.out w7 hk7
          clear HR5 HT5 HG5 s0 s1 s2 ho6 hk6
          have hinv := HINV.out
          have he : out ++ [1] ++ textOf key.toList ++ textOf val = out ++ encCh ⟨key, false, val⟩ := by simp [encCh]
          rw [he] at ho7
          obtain ⟨n9, hn9⟩ : ∃ n, n = (out ++ encCh ⟨key, false, val⟩).length := ⟨_, rfl⟩
          obtain ⟨a9, c9, rfl, -, -⟩ := ho7.bytes.form
          rw [← hn9] at hinv ho7 hr7
          have HRR := Lib.hid hr7
          clear HINV HP HOL CC HKL HVL HG2 he hr7
          by_cases hl : 1048568 < n9
          · rw [if_pos hl] at hinv
            have bl : decide ((1048568 : Int) < (n9 : Int)) = true := decide_eq_true (by omega)
            have HFIN := Lib.hid (⟨_, by rw [hinv], by rw [hinv]; exact Owns.nil _ _, hk7⟩ : EncPost w (encFrom l (countOf l.length)) (.returned (.tuple #[.slice none 0 0, .int .i64 8])) _)
            clear hl hn9 ho7 hk7 hinv
            go_wp2_with (first | (at_builtin; refine wpList_append_run rfl _ _ _ _ rfl rfl rfl HRR.out ?_) | fail)
            go_ret2
            exact HFIN.out
          · rw [if_neg hl] at hinv
            have bl : decide ((1048568 : Int) < (n9 : Int)) = false := decide_eq_false (by omega)
            have HO9 := Lib.hid ho7
            have HK9 := Lib.hid hk7
            have HI9 := Lib.hid hinv
            have HN9 := Lib.hid (show (out ++ encCh ⟨key, false, val⟩).length ≤ 1048568 by omega)
            clear hl hn9 ho7 hk7 hinv
            go_wp2_with (first | (at_builtin; refine wpList_append_run rfl _ _ _ _ rfl rfl rfl HRR.out ?_) | fail)
            go_roundw
            case rel => exact ⟨k + 1, out ++ encCh ⟨key, false, val⟩, hk1, rfl, HO9.out, HI9.out, HN9.out, HK9.out⟩
            case measure => simp [intOf]; omega
    · obtain rfl : k = l.length := by omega
      rw [List.drop_length] at hinv
      have HFIN := Lib.hid (⟨_, by rw [hinv]; rfl, by rw [hinv]; exact ho, hq⟩ : EncPost w (encFrom l (countOf l.length)) (.returned (.tuple #[.slice oa on oc, .int .i64 0])) wr)
      clear hinv ho hq hol hlt hk
      go_wp2_with fail
      go_ret2
      exact HFIN.out
end Go.Proofs.YtaeabdghlkdkjaaGreat
