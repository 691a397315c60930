/- The document's Do of layer 11. -/
import Derived.Test.YtaeabdghlkdkjaaTPair
import Derived.Test.YtaeabdghlkdkjaaTDo
import Derived.Test.YtaeabdghlkdkjaaTTo
import Derived.Deep.DeepCutAuto
import Derived.Deep.CutBlock
namespace Go.Proofs.Ytaeabdghlkdkjaa
set_option linter.unusedVariables false
open Go.RowKit Go.MapKept

/-- 'append(out, f)', f already stored in a row of its own; its bytes lie in blocks of F. -/
theorem POutAt.push2 {base : Nat} {F : Nat → Prop} {w : World} {v p : Value} {fs : FS} {n : ByteArray} {l : List UInt8} (h : POutAt base F w v fs) (hz : base ≤ w.heap.size) (hp : Bytes F w p l) (hb : fs.length < 1099511627776) :
    ∃ a n' c w', (Builtin.append_ #[33, 33] 33 #[v, .slice (some ⟨w.heap.size, 0, none⟩) 1 1]).run Try.prog (w.alloc (.cells #[.string n, p] 46)) = .ok (.slice a n' c) w' ∧ POutAt base F w' (.slice a n' c) (fs ++ [(n, l)]) ∧
      Keeps (fun b => v.ownBlock = some b) w w' ∧ ∀ b, v.ownBlock = some b → base ≤ b := by
  obtain ⟨ps, h1, h2⟩ := h
  have hlt := h2.lt
  obtain ⟨i0, hi, hz0, hz1, hz2⟩ := info_parts info_pair
  have hp1 : p.oneCell' = true := by obtain ⟨a, c, rfl, _⟩ := hp.form; rfl
  obtain ⟨v', w', hrun, ho2, hg, _, hat⟩ := run_append_own_at (P := Try.prog) (w.alloc (.cells #[.string n, p] 46)) base 33 33 46 i0 _ 2 40 Try.underlying33 hi hz0 hz1 hz2 rfl (by omega) v fs.length (fileCells ps fs) (h2.alloc _) ⟨w.heap.size, 0, none⟩ 1 1 [.string n, p] rfl
    (fun j u hu => by
      rw [Addr.add_lit, Nat.zero_add]
      exact cell_at (heap_alloc_new w _) (by simpa using hu))
    (by intro u hu; simp at hu; rcases hu with rfl | rfl; rfl; exact hp1) (by unfold maxLen; omega) (by omega) (by simp only [World.size_alloc]; omega)
  obtain ⟨a, c, rfl⟩ := ownsRow_slice ho2
  have hk : Keeps (fun b => v.ownBlock = some b) w w' := ((Keeps.refl _ w).alloc _).trans (Keeps.of_grown hg) (fun _ _ h => h)
  have hku : KeepU8 F w w' := KeepU8.of_keeps hk (fun g cs fz hg he hc => by
    obtain ⟨cur, e2⟩ := ownsRow_type h2 he
    rw [hc] at e2
    simp only [Option.some.injEq, Obj.cells.injEq] at e2
    exact absurd e2.2.1 (by decide))
  refine ⟨a, _, c, w', hrun, ⟨ps ++ [p], ?_, ?_⟩, hk, fun b hb => (hlt b hb).1⟩
  · exact (h1.mono (fun q f hq => hq.keep hku (fun _ h _ => h))).append ⟨hp.keep hku (fun _ h _ => h), trivial⟩
  · rw [fileCells_snoc _ _ _ _ h1.length, List.length_append]
    exact ho2
theorem POutAt.form3 {base : Nat} {F : Nat → Prop} {w : World} {v : Value} {fs : FS} (h : POutAt base F w v fs) : ∃ a n c, v = .slice a n c := by
  obtain ⟨a, c, e⟩ := h.form
  exact ⟨a, _, c, e⟩
theorem PairsAt.form3 {F : Nat → Prop} {w : World} {v : Value} {fs : FS} (h : PairsAt F w v fs) : ∃ a c, v = .slice a fs.length c ∧ fs.length ≤ c ∧ c ≤ maxLen := h.form
theorem length_tdo (fs : FS) (c : TCh) : (tdo fs c).length ≤ fs.length + 1 := by
  unfold tdo
  have h1 : (fdel fs c.key).length ≤ fs.length := List.length_filter_le _ _
  split
  · omega
  · unfold fput
    rw [length_fins]; omega
theorem length_tdos : ∀ (l : List TCh) (fs : FS), (tdos fs l).length ≤ fs.length + l.length
  | [], fs => Nat.le_refl _
  | c :: l, fs => by
    have h1 := length_tdos l (tdo fs c)
    have h2 := length_tdo fs c
    show (tdos (tdo fs c) l).length ≤ _
    rw [List.length_cons]; omega
theorem take_snoc {fs : FS} {i : Nat} {f : ByteArray × List UInt8} (hf : fs[i]? = some f) : fs.take (i + 1) = fs.take i ++ [f] := by
  obtain ⟨hi, he⟩ := List.getElem?_eq_some_iff.1 hf
  rw [List.take_succ_eq_append_getElem hi, he]

set_option maxRecDepth 100000 in
set_option maxHeartbeats 1000000 in
theorem rdo11_calls {F : Nat → Prop} {w : World} {v : Value} {fs : FS} (h : PairsAt F w v fs) (hs : FSorted fs) {a : Option Addr} {c : Nat} {l : List TCh} (hc : TChsIn w a l) (hl : fs.length + l.length < 1099511627775) (hv : ∀ x ∈ l, x.val.length ≤ 140737488355328) :
    Calls Try.prog 14 #[v, .slice a l.length c] w (PPost F w (tdos fs l)) := by
  obtain ⟨va, vc, rfl, -, -⟩ := h.form
  have H := Lib.hid h
  have HC := Lib.hid hc
  have HV := Lib.hid hv
  have HS := Lib.hid hs
  have HL := Lib.hid hl
  have i0 : (l.length : Int) ≤ 1099511627775 := by omega
  have i1 : (0 : Int) ≤ (l.length : Int) := by omega
  clear h hc hv hs hl
  go_enter Try.func14, Try.ntmps14
  go_wp2_with fail
  go_loopw [0, 5] (fun lv iv wx => ∃ k : Nat, k ≤ l.length ∧ iv = .int .i64 (k : Int) ∧ PairsAt (Ext F w wx) wx lv (tdos fs (l.take k)) ∧ Keeps (fun _ => False) w wx) (fun _ iv _ => l.length - (intOf iv).toNat)
  case atStart => exact ⟨0, Nat.zero_le _, rfl, H.out.keep (KeepU8.refl _ _) (fun _ _ => rfl) (fun b hb _ => .inl hb), Keeps.refl _ _⟩
  case round =>
    obtain ⟨k, hk, rfl, hp, hq⟩ := hrel
    have k0 : (0 : Int) ≤ k := by omega
    obtain ⟨wo, hwo⟩ : ∃ wo, wo = wr := ⟨_, rfl⟩
    subst hwo
    by_cases hlt : k < l.length
    · obtain ⟨ch, hch⟩ : ∃ ch, l[k]? = some ch := ⟨l[k], List.getElem?_eq_getElem hlt⟩
      have hstep := tdos_take hch fs
      have hsort := FSorted.tdos (l.take k) HS.out
      have hlen1 := length_tdos (l.take k) fs
      rw [List.length_take] at hlen1
      generalize tdos fs (l.take k) = fs1 at hp hstep hsort hlen1
      have hl1 : fs1.length < 1099511627775 := by have := HL.out; omega
      obtain ⟨pa, pc, rfl, -, -⟩ := hp.form
      obtain ⟨x, p, rfl, c0, c1, c2, hpr⟩ := (HC.out.keep hq).cells hch
      have hvl := HV.out ch (List.mem_of_getElem? hch)
      obtain ⟨key, gone, val⟩ := ch
      dsimp only at c0 c1 c2 hpr hvl
      obtain ⟨ba, bc, rfl, -, -⟩ := hpr.form
      have j2 : (k : Int) < l.length := by omega
      have hk1 : k + 1 ≤ l.length := by omega
      have hfind := rfind11_runs hp key (by omega)
      have hle := keyAt_le fs1 key
      have hsplit := tdo_split hsort ⟨key, gone, val⟩
      dsimp only at hsplit
      have HFI := Lib.hid hfind
      obtain ⟨at_, hat⟩ : ∃ n, n = keyAt fs1 key := ⟨_, rfl⟩
      rw [← hat] at HFI hle hsplit
      have HSP := Lib.hid hsplit
      have HST := Lib.hid hstep
      have HP := Lib.hid hp
      have HQ := Lib.hid hq
      have HPR := Lib.hid hpr
      have HL1 := Lib.hid hl1
      have HVL := Lib.hid hvl
      have j3 : (at_ : Int) ≤ fs1.length := by omega
      have j4 : (0 : Int) ≤ at_ := by omega
      have j5 : (fs1.length : Int) ≤ 1099511627774 := by omega
      have HLE := Lib.hid hle
      clear hfind hsplit hstep hp hq hpr hsort hlen1 hl1 hvl hch hlt hk hat H hle
      go_wp2_with fail
      refine HFI.out.out.mono ?_; rintro e w' ⟨rfl, rfl⟩
      go_wp2_with fail
      go_loopw [7, 8] (fun ov iv wx => ∃ (i : Nat), i ≤ at_ ∧ iv = .int .i64 (i : Int) ∧ POutAt wo.heap.size (fun b => Ext F w wo b ∨ wo.heap.size ≤ b) wx ov (fs1.take i) ∧ Keeps (fun _ => False) wo wx) (fun _ iv _ => at_ - (intOf iv).toNat)
      case atStart => exact ⟨0, Nat.zero_le _, rfl, by rw [List.take_zero]; exact POutAt.nil _ _ _, Keeps.refl _ _⟩
      case round =>
        obtain ⟨w1, hw1⟩ : ∃ w1, w1 = wr := ⟨_, rfl⟩
        subst hw1
        obtain ⟨i, hi, rfl, ho, hq1⟩ := hrel
        obtain ⟨oa, on, oc, rfl⟩ := ho.form3
        have n0 : (0 : Int) ≤ i := by omega
        by_cases hlt : i < at_
        · obtain ⟨f, hf⟩ : ∃ f, fs1[i]? = some f := ⟨fs1[i]'(by have := HLE.out; omega), List.getElem?_eq_getElem _⟩
          obtain ⟨g, cap, q, e, hc1, hc2, hB⟩ := (HP.out.quiet hq1 (fun b hb _ => hb)).cell hf
          simp only [Value.slice.injEq] at e
          obtain ⟨rfl, -, rfl⟩ := e
          obtain ⟨qa, qc, rfl, -, -⟩ := hB.form
          have n1 : (i : Int) < at_ := by omega
          have n2 : (i : Int) < fs1.length := by omega
          have hi1 : i + 1 ≤ at_ := by omega
          obtain ⟨a2, m2, c2, w2, hrun, ho2, hk2, hbase⟩ := ho.push2 hq1.size (hB.keep (KeepU8.refl _ _) (fun b hb _ => .inl hb)) (n := f.1) (by rw [List.length_take]; have := HL1.out; omega)
          rw [show (f.1, f.2) = f from rfl, ← take_snoc hf] at ho2
          have hq2 := hq1.trans hk2 (fun b hb e => by have := hbase b e; omega)
          have HREL := Lib.hid (⟨i + 1, hi1, rfl, ho2, hq2⟩ : ∃ (i' : Nat), i' ≤ at_ ∧ Value.int .i64 ((i + 1 : Nat) : Int) = .int .i64 (i' : Int) ∧ POutAt wo.heap.size (fun b => Ext F w wo b ∨ wo.heap.size ≤ b) w2 (.slice a2 m2 c2) (fs1.take i') ∧ Keeps (fun _ => False) wo w2)
          have HRUN := Lib.hid hrun
          clear ho hq1 hf hB hrun ho2 hk2 hbase hq2 hi hlt
          go_wp2_with (at_builtin; (first | (refine wpList_append_run (w := w1.alloc (.cells #[.string f.1, .slice qa f.2.length qc] 46)) rfl _ _ _ _ rfl rfl rfl HRUN.out ?_)))
          go_roundw
          case rel => exact HREL.out
          case measure => simp [intOf]; omega
        · obtain rfl : i = at_ := by omega
          have CC := Lib.hid (fun (wx : World) (hk : Keeps (fun _ => False) wo wx) => (⟨cell_keep c0 hk, cell_keep c2 hk⟩ : wx.cell? (x.add (k * 3)) = some (.string key) ∧ wx.cell? { block := (x.add (k * 3)).block, off := (x.add (k * 3)).off + 2 } = some (.slice ba val.length bc)))
          have d0 := cell_keep c0 hq1
          have d1 := cell_keep c1 hq1
          have d2 := cell_keep c2 hq1
          have HO1 := Lib.hid ho
          have HQ1 := Lib.hid hq1
          clear ho hq1 c0 c1 c2 hi hlt
          go_upto_if 40 with fail
          go_cut [7] from 41 to 55 (fun ov wx => ∃ out : FS, tdo fs1 ⟨key, gone, val⟩ = out ++ fdel (fs1.drop i) key ∧ out.length ≤ i + 1 ∧ POutAt wo.heap.size (fun b => Ext F w wo b ∨ wo.heap.size ≤ b) wx ov out ∧ Keeps (fun _ => False) wo wx)
          case first =>
            cases gone with
            | true =>
              have hsp := HSP.out
              rw [if_pos rfl, List.append_nil] at hsp
              have HF := Lib.hid (⟨_, hsp, by rw [List.length_take]; omega, HO1.out, HQ1.out⟩ : ∃ out : FS, tdo fs1 ⟨key, true, val⟩ = out ++ fdel (fs1.drop i) key ∧ out.length ≤ i + 1 ∧ POutAt wo.heap.size (fun b => Ext F w wo b ∨ wo.heap.size ≤ b) w1 (.slice oa on oc) out ∧ Keeps (fun _ => False) wo w1)
              clear hsp HSP HO1 HQ1
              go_wp2_with fail
              go_meet
              exact HF.out
            | false =>
              have hsp := HSP.out
              rw [if_neg (by simp)] at hsp
              have HTW := Lib.hid (twin_calls (w := w1.drew) (HPR.out.keep HQ1.out.drew) HVL.out)
              have hpush : ∀ (w2 : World) (ta : Option Addr) (tn tc : Nat), Keeps (fun _ => False) w1.drew w2 → Owns w2 w1.drew.heap.size (.slice ta tn tc) val →
                  ∃ a' n' c' w', (Builtin.append_ #[33, 33] 33 #[.slice oa on oc, .slice (some ⟨w2.heap.size, 0, none⟩) 1 1]).run Try.prog (w2.alloc (.cells #[.string key, .slice ta tn tc] 46)) = .ok (.slice a' n' c') w' ∧ (∃ out : FS, tdo fs1 ⟨key, false, val⟩ = out ++ fdel (fs1.drop i) key ∧ out.length ≤ i + 1 ∧ POutAt wo.heap.size (fun b => Ext F w wo b ∨ wo.heap.size ≤ b) w' (.slice a' n' c') out ∧ Keeps (fun _ => False) wo w') ∧ (w2.cell? (x.add (k * 3)) = some (.string key) ∧ w2.cell? { block := (x.add (k * 3)).block, off := (x.add (k * 3)).off + 2 } = some (.slice ba val.length bc)) ∧ ((w2.alloc (.cells #[.string key, .slice ta tn tc] 46)).cell? (x.add (k * 3)) = some (.string key) ∧ (w2.alloc (.cells #[.string key, .slice ta tn tc] 46)).cell? { block := (x.add (k * 3)).block, off := (x.add (k * 3)).off + 2 } = some (.slice ba val.length bc)) ∧ (w'.cell? (x.add (k * 3)) = some (.string key) ∧ w'.cell? { block := (x.add (k * 3)).block, off := (x.add (k * 3)).off + 2 } = some (.slice ba val.length bc)) := fun w2 ta tn tc hk2 ht => by
                have hk12 : Keeps (fun _ => False) w1 w2 := ((Keeps.refl _ w1).drew).trans hk2 (fun _ _ e => e)
                have hwo2 : Keeps (fun _ => False) wo w2 := HQ1.out.trans hk12 (fun _ _ e => e)
                obtain ⟨a', n', c', w', hrun, ho', hk', hb'⟩ := (HO1.out.keep hk12).push2 (n := key) (l := val) hwo2.size (ht.bytes.keep (KeepU8.refl _ _) (fun b hb _ => .inr (by have h1 : w1.drew.heap.size = w1.heap.size := rfl; have := HQ1.out.size; omega))) (by rw [List.length_take]; have := HL1.out; omega)
                have hwo' : Keeps (fun _ => False) wo w' := hwo2.trans hk' (fun b hb e => by have := hb' b e; omega)
                refine ⟨a', n', c', w', hrun, ⟨fs1.take i ++ [(key, val)], hsp, ?_, ho', hwo'⟩, CC.out _ hwo2, CC.out _ (hwo2.alloc _), CC.out _ hwo'⟩
                rw [List.length_append, List.length_take, List.length_singleton]; omega
              have HPU := Lib.hid hpush
              have HS0 := Lib.hid (CC.out _ HQ1.out.drew)
              clear hpush hsp HSP HO1 HQ1 HPR HVL
              go_wp2_with fail
              go_region_held3 (fun w' => w'.cell? (x.add (k * 3)) = some (.string key) ∧ w'.cell? { block := (x.add (k * 3)).block, off := (x.add (k * 3)).off + 2 } = some (.slice ba val.length bc)) (first | exact HS0.out | exact s1 | exact s2 | exact s3 | go_keep) (first | (go_at_call 49; refine HTW.out.mono ?_; rintro e w3 ⟨tv, rfl, hv1, hk1'⟩; obtain ⟨ta, tn, tc, rfl⟩ := slice_form2 hv1; obtain ⟨a2, m2, e2, w4, hrun2, hfin2, s1, s2, s3⟩ := HPU.out w3 ta tn tc hk1' hv1) | (refine step_append_run rfl _ _ _ _ rfl rfl rfl hrun2 ?_))
              all_goals
                have HF := Lib.hid hfin2
                clear hfin2 hrun2 s1 s2 s3 hv1 hk1'
                go_wp2_with fail
                go_meet
                exact HF.out
          case rest =>
            obtain ⟨out0, hinv0, hlen0, ho0, hq0⟩ := hcut
            have HI0 := Lib.hid hinv0
            have HO0 := Lib.hid ho0
            have HQ0 := Lib.hid hq0
            clear hinv0 ho0 hq0 HO1 HQ1 HSP HPR HVL d0 d1 d2
            go_wp2_with fail
            go_loopw [7, 9] (fun ov iv wx => ∃ (m : Nat) (out : FS), i ≤ m ∧ m ≤ fs1.length ∧ iv = .int .i64 (m : Int) ∧ tdo fs1 ⟨key, gone, val⟩ = out ++ fdel (fs1.drop m) key ∧ out.length ≤ m + 1 ∧ POutAt wo.heap.size (fun b => Ext F w wo b ∨ wo.heap.size ≤ b) wx ov out ∧ Keeps (fun _ => False) wo wx) (fun _ iv _ => fs1.length - (intOf iv).toNat)
            case atStart => exact ⟨i, out0, Nat.le_refl _, HLE.out, rfl, HI0.out, hlen0, HO0.out, HQ0.out⟩
            case round =>
              obtain ⟨m, out, him, hm, rfl, hinv, hlen, ho2, hq2⟩ := hrel
              obtain ⟨w3, hw3⟩ : ∃ w3, w3 = wr := ⟨_, rfl⟩
              subst hw3
              obtain ⟨za, zn, zc, rfl⟩ := ho2.form3
              have n3 : (0 : Int) ≤ m := by omega
              obtain ⟨e0, e2⟩ := CC.out _ hq2
              clear HI0 HO0 HQ0 hlen0
              by_cases hlt : m < fs1.length
              · obtain ⟨f, hf⟩ : ∃ f, fs1[m]? = some f := ⟨fs1[m], List.getElem?_eq_getElem hlt⟩
                obtain ⟨g, cap, q, e, hc1, hc2, hB⟩ := (HP.out.quiet hq2 (fun b hb _ => hb)).cell hf
                simp only [Value.slice.injEq] at e
                obtain ⟨rfl, -, rfl⟩ := e
                obtain ⟨qa, qc, rfl, -, -⟩ := hB.form
                have n4 : (m : Int) < fs1.length := by omega
                have hm1 : m + 1 ≤ fs1.length := by omega
                have hdrop : fs1.drop m = f :: fs1.drop (m + 1) := by
                  obtain ⟨hm', he⟩ := List.getElem?_eq_some_iff.1 hf
                  rw [List.drop_eq_getElem_cons hm', he]
                rw [hdrop, fdel_cons] at hinv
                by_cases hkey : f.1 = key
                · rw [if_pos hkey] at hinv
                  have hbe : (f.1.toList == key.toList) = true := by rw [hkey]; simp
                  have HREL := Lib.hid (⟨m + 1, out, by omega, hm1, rfl, hinv, by omega, ho2.keep ((Keeps.refl _ w3).drew), hq2.drew⟩ : ∃ (m' : Nat) (out' : FS), i ≤ m' ∧ m' ≤ fs1.length ∧ Value.int .i64 ((m + 1 : Nat) : Int) = .int .i64 (m' : Int) ∧ tdo fs1 ⟨key, gone, val⟩ = out' ++ fdel (fs1.drop m') key ∧ out'.length ≤ m' + 1 ∧ POutAt wo.heap.size (fun b => Ext F w wo b ∨ wo.heap.size ≤ b) w3.drew (.slice za zn zc) out' ∧ Keeps (fun _ => False) wo w3.drew)
                  clear hinv ho2 hq2 hf hB hdrop hkey hlt hm
                  go_wp2_with fail
                  go_still_tail 10, (by kernel_rfl)
                  change wpList _ _ _ _ _ (World.drew _)
                  go_wp2_with fail
                  go_roundw
                  case rel => exact HREL.out
                  case measure => simp [intOf]; omega
                · rw [if_neg hkey] at hinv
                  have hbe : (f.1.toList == key.toList) = false := by
                    cases hb : (f.1.toList == key.toList) with
                    | false => rfl
                    | true => exact absurd (toList_inj (by simpa using hb)) hkey
                  obtain ⟨a2, m2, e3, w4, hrun, ho4, hk4, hbase⟩ := (ho2.keep ((Keeps.refl _ w3).drew)).push2 (w := w3.drew) hq2.size ((hB.keep (KeepU8.refl _ _) (fun b hb _ => .inl hb)).keep (KeepU8.refl _ _) (fun _ h _ => h)) (n := f.1) (by have := HL1.out; omega)
                  have hq4 : Keeps (fun _ => False) wo w4 := hq2.drew.trans hk4 (fun b hb e => by have := hbase b e; omega)
                  have hinv4 : tdo fs1 ⟨key, gone, val⟩ = (out ++ [f]) ++ fdel (fs1.drop (m + 1)) key := by rw [hinv]; simp
                  have HREL := Lib.hid (⟨m + 1, out ++ [f], by omega, hm1, rfl, hinv4, by simp; omega, ho4, hq4⟩ : ∃ (m' : Nat) (out' : FS), i ≤ m' ∧ m' ≤ fs1.length ∧ Value.int .i64 ((m + 1 : Nat) : Int) = .int .i64 (m' : Int) ∧ tdo fs1 ⟨key, gone, val⟩ = out' ++ fdel (fs1.drop m') key ∧ out'.length ≤ m' + 1 ∧ POutAt wo.heap.size (fun b => Ext F w wo b ∨ wo.heap.size ≤ b) w4 (.slice a2 m2 e3) out' ∧ Keeps (fun _ => False) wo w4)
                  have HRUN := Lib.hid hrun
                  have hd1 : w3.drew.cell? ⟨g, m * 2, none⟩ = some (.string f.1) := hc1
                  have hd2 : w3.drew.cell? ⟨g, m * 2 + 1, none⟩ = some (.slice qa f.2.length qc) := hc2
                  clear hinv hinv4 ho2 hq2 hf hB hdrop hkey hlt hm hrun ho4 hk4 hbase hq4
                  go_wp2_with fail
                  go_still_tail 10, (by kernel_rfl)
                  change wpList _ _ _ _ _ (World.drew _)
                  go_wp2_with (at_builtin; (first | (refine wpList_append_run (w := w3.drew.alloc (.cells #[.string f.1, .slice qa f.2.length qc] 46)) rfl _ _ _ _ rfl rfl rfl HRUN.out ?_)))
                  go_roundw
                  case rel => exact HREL.out
                  case measure => simp [intOf]; omega
              · obtain rfl : m = fs1.length := by omega
                have hout : tdos fs (l.take (k + 1)) = out := by
                  rw [HST.out, hinv, List.drop_length]
                  show out ++ [] = out
                  exact List.append_nil _
                have hpa : PairsAt (Ext F w w3) w3 (.slice za zn zc) (tdos fs (l.take (k + 1))) := by
                  rw [hout]
                  have hz1 := HQ.out.size
                  have hz2 := hq2.size
                  refine ho2.files (fun b hb hlt => ?_) (fun b h1 h2 => .inr ⟨by omega, h2⟩)
                  rcases hb with (hb | hb) | hb
                  · exact .inl hb
                  · exact .inr ⟨hb.1, hlt⟩
                  · exact .inr ⟨by omega, hlt⟩
                have HREL := Lib.hid (⟨k + 1, hk1, rfl, hpa, HQ.out.trans hq2 (fun _ _ e => e)⟩ : ∃ k' : Nat, k' ≤ l.length ∧ Value.int .i64 ((k + 1 : Nat) : Int) = .int .i64 (k' : Int) ∧ PairsAt (Ext F w w3) w3 (.slice za zn zc) (tdos fs (l.take k')) ∧ Keeps (fun _ => False) w w3)
                clear hpa hout hinv ho2 hq2 hlt hm
                go_wp2_with fail
                go_roundw
                case rel => exact HREL.out
                case measure => simp [intOf]; omega
    · obtain rfl : k = l.length := by omega
      rw [List.take_length] at hp
      obtain ⟨pa, pc, rfl, -, -⟩ := hp.form
      have HF := Lib.hid (⟨_, rfl, hp, hq⟩ : PPost F w (tdos fs l) (.returned (.slice pa (tdos fs l).length pc)) wo)
      generalize (tdos fs l).length = n0 at HF ⊢
      clear hp hq hlt hk
      go_wp2_with fail
      go_ret
      exact HF.out
end Go.Proofs.Ytaeabdghlkdkjaa
