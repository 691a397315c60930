/- The document's without and with: the walks. -/
import Derived.Test.YtlinkpjneehnbaaRFs
namespace Go.Proofs.Ytlinkpjneehnbaa
set_option linter.unusedVariables false
open Go.RowKit Go.MapKept

set_option maxRecDepth 100000 in
set_option maxHeartbeats 1000000 in
theorem rwithout_calls {F : Nat → Prop} {w : World} {v : Value} {fs : FS} (h : FilesAt F w v fs) (hF : ∀ b, F b → b < w.heap.size) (n : ByteArray) (hb : fs.length < 1099511627776) : Calls Try.prog 123 #[v, .string n] w (FPost F w (fdel fs n)) := by
  obtain ⟨a, c, rfl, hlc, hcm⟩ := h.form
  have H := Lib.hid h
  have HF := Lib.hid hF
  have i1 : (fs.length : Int) ≤ 1099511627776 := by omega
  clear h hF
  go_enter Try.func123, Try.ntmps123
  go_wp2_with fail
  go_loopw [5, 6] (fun ov i wx => ∃ (k : Nat) (out : FS), k ≤ fs.length ∧ i = .int .i64 (k : Int) ∧ out.length ≤ k ∧ fdel fs n = out ++ fdel (fs.drop k) n ∧ OutAt w.heap.size F wx ov out ∧ Keeps (fun _ => False) w wx) (fun _ i _ => fs.length - (intOf i).toNat)
  case atStart => exact ⟨0, [], Nat.zero_le _, rfl, Nat.le_refl _, by simp, OutAt.nil _ _ _, Keeps.refl _ _⟩
  case round =>
    obtain ⟨k, out, hk, rfl, hlen, hinv, ho, hq⟩ := hrel
    have j0 : (0 : Int) ≤ k := by omega
    obtain ⟨oa, oc, rfl⟩ := ho.form
    by_cases hlt : k < fs.length
    · obtain ⟨f, hf⟩ : ∃ f, fs[k]? = some f := ⟨fs[k], List.getElem?_eq_getElem hlt⟩
      obtain ⟨g, cap, p, e, hc1, hc2, hB⟩ := (H.out.quiet hq (G := F) (fun _ h _ => h)).cell hf
      simp only [Value.slice.injEq] at e
      obtain ⟨rfl, -, rfl⟩ := e
      have hst := fdel_step hf hinv
      have j1 : (k : Int) < fs.length := by omega
      by_cases he : f.1 = n
      · rw [if_pos he] at hst
        have HS := Lib.hid hst
        have HO := Lib.hid ho
        have HQ := Lib.hid hq
        have hqn : (f.1.toList == n.toList) = true := by rw [he]; simp
        clear hst hinv ho hq hf he hB
        go_wp2_with fail
        go_roundw
        case rel => exact ⟨k + 1, out, by omega, rfl, by omega, HS.out, HO.out, HQ.out⟩
        case measure => simp [intOf]; omega
      · rw [if_neg he] at hst
        have hqn : (f.1.toList == n.toList) = false := by
          rw [Bool.eq_false_iff]; intro hc
          exact he (toList_inj (by simpa using hc))
        obtain ⟨a2, c2, w2, hrun, ho2, hk2, hbase⟩ := ho.push (n := f.1) hq.size hB HF.out (by omega)
        have hq2 := hq.trans hk2 (fun b hb e => by have := hbase b e; omega)
        have HRUN := Lib.hid hrun
        have HREL := Lib.hid (⟨k + 1, out ++ [f], by omega, rfl, by simp; omega, hst, by rw [show (out ++ [f]).length = out.length + 1 by simp]; exact ho2, hq2⟩ : ∃ (k' : Nat) (out' : FS), k' ≤ fs.length ∧ Value.int .i64 ((k + 1 : Nat) : Int) = .int .i64 (k' : Int) ∧ out'.length ≤ k' ∧ fdel fs n = out' ++ fdel (fs.drop k') n ∧ OutAt w.heap.size F w2 (.slice a2 ((out ++ [f]).length) c2) out' ∧ Keeps (fun _ => False) w w2)
        clear hst hinv ho hq hf he hrun ho2 hk2 hq2 hbase
        obtain ⟨pa, pc, rfl, _, _⟩ := hB.form
        clear hB
        go_wp2_with (at_builtin; (first | (refine wpList_append_run (w := wr.alloc (.cells #[.string f.1, .slice pa f.2.length pc] 86)) rfl _ _ _ _ rfl rfl rfl HRUN.out ?_)))
        go_roundw
        case rel => have h := HREL.out; simp only [List.length_append, List.length_cons, List.length_nil, Nat.zero_add] at h; exact h
        case measure => simp [intOf]; omega
    · obtain rfl : k = fs.length := by omega
      rw [List.drop_length] at hinv
      have hfin : FPost F w (fdel fs n) (.returned (.slice oa out.length oc)) wr := by rw [hinv]; simpa [fdel] using FPost.mk ho hq
      have HFIN := Lib.hid hfin
      clear hfin hinv ho hq
      go_wp2_with fail
      go_ret
      exact HFIN.out

set_option maxRecDepth 100000 in
set_option maxHeartbeats 1000000 in
theorem rwith_calls {F : Nat → Prop} {w : World} {v : Value} {fs : FS} (h : FilesAt F w v fs) (hF : ∀ b, F b → b < w.heap.size) (n : ByteArray) {qv : Value} {l : List UInt8} (hq0 : Bytes F w qv l) (hb : fs.length < 549755813888) : Calls Try.prog 122 #[v, .agg #[.string n, qv]] w (FPost F w (fins fs (n, l))) := by
  obtain ⟨a, c, rfl, hlc, hcm⟩ := h.form
  obtain ⟨qa, qc, rfl, _, _⟩ := hq0.form
  obtain ⟨w1, hw1⟩ : ∃ w1, w1 = w.alloc (.cells #[.string n, .slice qa l.length qc] 86) := ⟨_, rfl⟩
  have hk1 : Keeps (fun _ => False) w w1 := by rw [hw1]; exact (Keeps.refl _ w).alloc _
  have hz1 : w1.heap.size = w.heap.size + 1 := by rw [hw1]; simp
  have hbx : w1.heap[w.heap.size]? = some (.cells #[.string n, .slice qa l.length qc] 86 (0, 0)) := by rw [hw1]; exact heap_alloc_new _ _
  have H := Lib.hid (h.quiet hk1 (G := F) (fun _ h _ => h))
  have HQ0 := Lib.hid (hq0.keep (KeepU8.of_none hk1) (G := F) (fun _ h _ => h))
  have HF := Lib.hid (fun b hb => by have := hF b hb; omega : ∀ b, F b → b < w.heap.size + 1)
  have HK1 := Lib.hid hk1
  have i1 : (fs.length : Int) ≤ 549755813888 := by omega
  clear h hF hq0 hk1
  go_enter Try.func122, Try.ntmps122
  go_wp2_with fail
  rw [← hw1]
  go_loopw [5, 6, 7] (fun ov dv i wx => ∃ (k : Nat) (out : FS) (dn : Bool), k ≤ fs.length ∧ i = .int .i64 (k : Int) ∧ dv = .bool dn ∧ out.length ≤ 2 * k ∧ fins fs (n, l) = out ++ (if dn then fs.drop k else fins (fs.drop k) (n, l)) ∧ OutAt (w.heap.size + 1) F wx ov out ∧ Keeps (fun _ => False) w1 wx) (fun _ _ i _ => fs.length - (intOf i).toNat)
  case atStart => exact ⟨0, [], false, Nat.zero_le _, rfl, rfl, Nat.zero_le _, by simp, OutAt.nil _ _ _, Keeps.refl _ _⟩
  case round =>
    obtain ⟨k, out, dn, hk, rfl, rfl, hlen, hinv, ho, hq⟩ := hrel
    have j0 : (0 : Int) ≤ k := by omega
    obtain ⟨oa, oc, rfl⟩ := ho.form
    have hbr := hq.at hbx (fun e => e)
    have b0 : wr.cell? ⟨w.heap.size, 0, none⟩ = some (.string n) := cell_at hbr rfl
    have b1 : wr.cell? ⟨w.heap.size, 1, none⟩ = some (.slice qa l.length qc) := cell_at hbr rfl
    by_cases hlt : k < fs.length
    · obtain ⟨f, hf⟩ : ∃ f, fs[k]? = some f := ⟨fs[k], List.getElem?_eq_getElem hlt⟩
      obtain ⟨g, cap, p, e, hc1, hc2, hB⟩ := (H.out.quiet hq (G := F) (fun _ h _ => h)).cell hf
      simp only [Value.slice.injEq] at e
      obtain ⟨rfl, -, rfl⟩ := e
      have j1 : (k : Int) < fs.length := by omega
      obtain ⟨pa, pc, rfl, _, _⟩ := hB.form
      have hqd : Keeps (fun _ => False) w1 wr.drew := hq.drew
      have hod : OutAt (w.heap.size + 1) F wr.drew (.slice oa out.length oc) out := ho.keep (Keeps.refl _ wr).drew
      have hBd : Bytes F wr.drew (.slice pa f.2.length pc) f.2 := hB.keep (KeepU8.refl F wr).drew (fun _ h _ => h)
      have hc1d : wr.drew.cell? ⟨g, k * 2, none⟩ = some (.string f.1) := hc1
      have hc2d : wr.drew.cell? ⟨g, k * 2 + 1, none⟩ = some (.slice pa f.2.length pc) := hc2
      have b0d : wr.drew.cell? ⟨w.heap.size, 0, none⟩ = some (.string n) := b0
      have b1d : wr.drew.cell? ⟨w.heap.size, 1, none⟩ = some (.slice qa l.length qc) := b1
      have hsd := hqd.size
      cases dn
      · rw [if_neg (by simp)] at hinv
        have hst := fins_step hf out hinv
        cases hbl : Op.bytesLess n.toList f.1.toList
        · rw [show blt (n, l).1 f.1 = false from hbl, if_neg (by simp)] at hst
          obtain ⟨a2, c2, w2, hrun, ho2, hk2, hbase⟩ := hod.push (n := f.1) (by omega) hBd HF.out (by omega)
          have hq2 := hqd.trans hk2 (fun b hb e => by have := hbase b e; omega)
          have HRUN := Lib.hid hrun
          have HREL := Lib.hid (⟨k + 1, out ++ [f], false, by omega, rfl, rfl, by simp; omega, by rw [if_neg (by simp)]; exact hst, by rw [show (out ++ [f]).length = out.length + 1 by simp]; exact ho2, hq2⟩ : ∃ (k' : Nat) (out' : FS) (dn : Bool), k' ≤ fs.length ∧ Value.int .i64 ((k + 1 : Nat) : Int) = .int .i64 (k' : Int) ∧ Value.bool false = .bool dn ∧ out'.length ≤ 2 * k' ∧ fins fs (n, l) = out' ++ (if dn then fs.drop k' else fins (fs.drop k') (n, l)) ∧ OutAt (w.heap.size + 1) F w2 (.slice a2 ((out ++ [f]).length) c2) out' ∧ Keeps (fun _ => False) w1 w2)
          clear hst hinv ho hq hf hrun ho2 hk2 hq2 hbase hB hBd hqd hod hbr
          go_wp2_with fail
          go_region_held3 (fun w' => w'.cell? ⟨w.heap.size, 0, none⟩ = some (.string n) ∧ w'.cell? ⟨g, k * 2, none⟩ = some (.string f.1)) (first | exact ⟨b0, hc1⟩ | go_keep) (fail)
          go_wp2_with (at_builtin; (first | (refine wpList_append_run (w := wr.drew.alloc (.cells #[.string f.1, .slice pa f.2.length pc] 86)) rfl _ _ _ _ rfl rfl rfl HRUN.out ?_)))
          go_roundw
          case rel => have h := HREL.out; simp only [List.length_append, List.length_cons, List.length_nil, Nat.zero_add] at h; exact h
          case measure => simp [intOf]; omega
        · rw [show blt (n, l).1 f.1 = true from hbl, if_pos rfl] at hst
          obtain ⟨a2, c2, w2, hrun, ho2, hk2, hbase⟩ := hod.push (n := n) (by omega) ((HQ0.out.keep (KeepU8.of_none hqd) (G := F) (fun _ h _ => h))) HF.out (by omega)
          have hq2 := hqd.trans hk2 (fun b hb e => by have := hbase b e; omega)
          obtain ⟨g', cap', p', e', hd1, hd2, hB2⟩ := (H.out.quiet hq2 (G := F) (fun _ h _ => h)).cell hf
          simp only [Value.slice.injEq, Option.some.injEq, Addr.mk.injEq, and_true, true_and] at e'
          obtain ⟨rfl, rfl⟩ := e'
          obtain ⟨pa2, pc2, rfl, _, _⟩ := hB2.form
          have hs2 := hq2.size
          have hlen2 : (out ++ [(n, l)]).length = out.length + 1 := by simp
          rw [← hlen2] at hrun ho2
          obtain ⟨a3, c3, w3, hrun3, ho3, hk3, hbase3⟩ := ho2.push (n := f.1) (by omega) hB2 HF.out (by rw [hlen2]; omega)
          have hq3 := hq2.trans hk3 (fun b hb e => by have := hbase3 b e; omega)
          have HRUN := Lib.hid hrun
          have HRUN3 := Lib.hid hrun3
          have HREL := Lib.hid (⟨k + 1, out ++ [(n, l)] ++ [f], true, by omega, rfl, rfl, by simp; omega, by rw [if_pos rfl]; exact hst, ho3, hq3⟩ : ∃ (k' : Nat) (out' : FS) (dn : Bool), k' ≤ fs.length ∧ Value.int .i64 ((k + 1 : Nat) : Int) = .int .i64 (k' : Int) ∧ Value.bool true = .bool dn ∧ out'.length ≤ 2 * k' ∧ fins fs (n, l) = out' ++ (if dn then fs.drop k' else fins (fs.drop k') (n, l)) ∧ OutAt (w.heap.size + 1) F w3 (.slice a3 ((out ++ [(n, l)]).length + 1) c3) out' ∧ Keeps (fun _ => False) w1 w3)
          generalize (out ++ [(n, l)]).length = ln2 at HRUN HRUN3 HREL
          clear hst hinv ho hq hf hrun ho2 hk2 hq2 hbase hB hBd hqd hod hbr hrun3 ho3 hk3 hq3 hbase3 hB2 hlen2
          go_wp2_with fail
          go_region_held3 (fun w' => w'.cell? ⟨w.heap.size, 0, none⟩ = some (.string n) ∧ w'.cell? ⟨g, k * 2, none⟩ = some (.string f.1)) (first | exact ⟨b0, hc1⟩ | go_keep) (fail)
          go_wp2_with (at_builtin; (first | (refine wpList_append_run (w := wr.drew.alloc (.cells #[.string n, .slice qa l.length qc] 86)) rfl _ _ _ _ rfl rfl rfl HRUN.out ?_) | (refine wpList_append_run (w := w2.alloc (.cells #[.string f.1, .slice pa2 f.2.length pc2] 86)) rfl _ _ _ _ rfl rfl rfl HRUN3.out ?_)))
          go_roundw
          case rel => exact HREL.out
          case measure => simp [intOf]; omega
      · rw [if_pos rfl] at hinv
        have hst := drop_step hf hinv
        obtain ⟨a2, c2, w2, hrun, ho2, hk2, hbase⟩ := hod.push (n := f.1) (by omega) hBd HF.out (by omega)
        have hq2 := hqd.trans hk2 (fun b hb e => by have := hbase b e; omega)
        have HRUN := Lib.hid hrun
        have HREL := Lib.hid (⟨k + 1, out ++ [f], true, by omega, rfl, rfl, by simp; omega, by rw [if_pos rfl]; exact hst, by rw [show (out ++ [f]).length = out.length + 1 by simp]; exact ho2, hq2⟩ : ∃ (k' : Nat) (out' : FS) (dn : Bool), k' ≤ fs.length ∧ Value.int .i64 ((k + 1 : Nat) : Int) = .int .i64 (k' : Int) ∧ Value.bool true = .bool dn ∧ out'.length ≤ 2 * k' ∧ fins fs (n, l) = out' ++ (if dn then fs.drop k' else fins (fs.drop k') (n, l)) ∧ OutAt (w.heap.size + 1) F w2 (.slice a2 ((out ++ [f]).length) c2) out' ∧ Keeps (fun _ => False) w1 w2)
        clear hst hinv ho hq hf hrun ho2 hk2 hq2 hbase hB hBd hqd hod hbr
        go_wp2_with fail
        go_region
        go_wp2_with (at_builtin; (first | (refine wpList_append_run (w := wr.drew.alloc (.cells #[.string f.1, .slice pa f.2.length pc] 86)) rfl _ _ _ _ rfl rfl rfl HRUN.out ?_)))
        go_roundw
        case rel => have h := HREL.out; simp only [List.length_append, List.length_cons, List.length_nil, Nat.zero_add] at h; exact h
        case measure => simp [intOf]; omega
    · obtain rfl : k = fs.length := by omega
      rw [List.drop_length] at hinv
      have hsd := hq.size
      cases dn
      · rw [if_neg (by simp)] at hinv
        obtain ⟨a2, c2, w2, hrun, ho2, hk2, hbase⟩ := ho.push (n := n) (by omega) ((HQ0.out.keep (KeepU8.of_none hq) (G := F) (fun _ h _ => h))) HF.out (by omega)
        have hq2 := hq.trans hk2 (fun b hb e => by have := hbase b e; omega)
        have hfin : FPost F w (fins fs (n, l)) (.returned (.slice a2 (out.length + 1) c2)) w2 := by
          rw [hinv]
          exact FPost.mk (ho2.base (by omega)) (HK1.out.trans hq2 (fun _ _ e => e))
        have HFIN := Lib.hid hfin
        have HRUN := Lib.hid hrun
        clear hfin hinv ho hq hbr hrun ho2 hk2 hq2 hbase
        go_wp2_with (at_builtin; (refine wpList_append_run (w := wr.alloc (.cells #[.string n, .slice qa l.length qc] 86)) rfl _ _ _ _ rfl rfl rfl HRUN.out ?_))
        go_ret
        exact HFIN.out
      · rw [if_pos rfl, List.append_nil] at hinv
        have hfin : FPost F w (fins fs (n, l)) (.returned (.slice oa out.length oc)) wr := by
          rw [hinv]
          exact FPost.mk (ho.base (by omega)) (HK1.out.trans hq (fun _ _ e => e))
        have HFIN := Lib.hid hfin
        clear hfin hinv ho hq hbr
        go_wp2_with fail
        go_ret
        exact HFIN.out
end Go.Proofs.Ytlinkpjneehnbaa
