/- The document's Do: the walk, kind by kind. -/
import Derived.Test.YtlinkpjneehnbaaRFind
import Derived.Test.YtlinkpjneehnbaaRWith
namespace Go.Proofs.Ytlinkpjneehnbaa
set_option linter.unusedVariables false
open Go.RowKit Go.MapKept

theorem ext_trans {F : Nat → Prop} {w w1 w2 : World} (h1 : w.heap.size ≤ w1.heap.size) (h2 : w1.heap.size ≤ w2.heap.size) : ∀ b, Ext (Ext F w w1) w1 w2 b → Ext F w w2 b := fun b hb => by
  rcases hb with (hb | hb) | hb
  · exact .inl hb
  · exact .inr ⟨hb.1, by omega⟩
  · exact .inr ⟨by omega, hb.2⟩
theorem FPost.after {F : Nat → Prop} {w w1 w2 : World} {fs : FS} {e : Ending} (hk : Keeps (fun _ => False) w w1) (h : FPost (Ext F w w1) w1 fs e w2) : FPost F w fs e w2 := by
  obtain ⟨v, rfl, h1, h2⟩ := h
  exact ⟨v, rfl, h1.keep (KeepU8.refl _ _) (fun _ _ => rfl) (fun b hb _ => ext_trans hk.size h2.size b hb), hk.trans h2 (fun _ _ e => e)⟩
theorem ext_lt {F : Nat → Prop} {w w1 : World} (hF : ∀ b, F b → b < w.heap.size) (hk : w.heap.size ≤ w1.heap.size) : ∀ b, Ext F w w1 b → b < w1.heap.size := fun b hb => by
  rcases hb with hb | hb
  · have := hF b hb; omega
  · exact hb.2

theorem ext_one {F : Nat → Prop} {w w1 w2 : World} (h1 : w.heap.size ≤ w1.heap.size) (h2 : w1.heap.size ≤ w2.heap.size) : ∀ b, Ext F w w1 b → Ext F w w2 b := fun b hb => hb.imp id (fun hb => ⟨hb.1, by omega⟩)
theorem fdel_length (fs : FS) (x : ByteArray) : (fdel fs x).length ≤ fs.length := List.length_filter_le _ _

set_option maxRecDepth 100000 in
theorem rdo_create {F : Nat → Prop} {w : World} {v : Value} {fs : FS} (h : FilesAt F w v fs) (hF : ∀ b, F b → b < w.heap.size) (x y : ByteArray) (pv : Value) (hb : fs.length < 549755813888) :
    Calls Try.prog 95 #[v, .agg #[.int .i64 0, .string x, .string y, pv]] w (FPost F w (fins fs (x, []))) := by
  obtain ⟨a, c, rfl, hlc, hcm⟩ := h.form
  have hk1 : Keeps (fun _ => False) w (w.alloc (.cells #[.int .i64 0, .string x, .string y, pv] 78)) := (Keeps.refl _ w).alloc _
  have hw := rwith_calls (h.quiet hk1 (G := Ext F w (w.alloc (.cells #[.int .i64 0, .string x, .string y, pv] 78))) (fun _ h _ => .inl h)) (ext_lt hF hk1.size) x (Bytes.nil _ _) hb
  have HW := Lib.hid hw
  have HK := Lib.hid hk1
  clear h hF hw hk1
  go_enter Try.func95, Try.ntmps95
  go_wp2_with fail
  refine HW.out.mono ?_
  intro e w2 hp
  have HP := Lib.hid (hp.after HK.out)
  obtain ⟨v2, rfl, h2, k2⟩ := hp
  obtain ⟨a2, c2, rfl, _, _⟩ := h2.form
  clear h2 k2
  go_wp2_with fail
  go_ret
  exact HP.out

set_option maxRecDepth 100000 in
theorem rdo_remove {F : Nat → Prop} {w : World} {v : Value} {fs : FS} (h : FilesAt F w v fs) (hF : ∀ b, F b → b < w.heap.size) (x y : ByteArray) (pv : Value) (hb : fs.length < 549755813888) :
    Calls Try.prog 95 #[v, .agg #[.int .i64 2, .string x, .string y, pv]] w (FPost F w (fdel fs x)) := by
  obtain ⟨a, c, rfl, hlc, hcm⟩ := h.form
  have hk1 : Keeps (fun _ => False) w (w.alloc (.cells #[.int .i64 2, .string x, .string y, pv] 78)) := (Keeps.refl _ w).alloc _
  have hw := rwithout_calls (h.quiet hk1 (G := Ext F w (w.alloc (.cells #[.int .i64 2, .string x, .string y, pv] 78))) (fun _ h _ => .inl h)) (ext_lt hF hk1.size) x (by omega)
  have HW := Lib.hid hw
  have HK := Lib.hid hk1
  clear h hF hw hk1
  go_enter Try.func95, Try.ntmps95
  go_wp2_with fail
  refine HW.out.mono ?_
  intro e w2 hp
  have HP := Lib.hid (hp.after HK.out)
  obtain ⟨v2, rfl, h2, k2⟩ := hp
  obtain ⟨a2, c2, rfl, _, _⟩ := h2.form
  clear h2 k2
  go_wp2_with fail
  go_ret
  exact HP.out

set_option maxRecDepth 100000 in
set_option maxHeartbeats 1000000 in
theorem rdo_append {F : Nat → Prop} {w : World} {v : Value} {fs : FS} (h : FilesAt F w v fs) (hF : ∀ b, F b → b < w.heap.size) (x y : ByteArray) {pv : Value} {p : List UInt8} (hp : Reads w pv p) (hb : fs.length < 549755813888) (hs : (fget fs x).isSome = true) (hsz : ((fget fs x).getD []).length + p.length ≤ 140737488355328) :
    Calls Try.prog 95 #[v, .agg #[.int .i64 1, .string x, .string y, pv]] w (FPost F w (fins (fdel fs x) (x, (fget fs x).getD [] ++ p))) := by
  obtain ⟨a, c, rfl, hlc, hcm⟩ := h.form
  obtain ⟨pa, pc, rfl, _, _⟩ := hp.form
  obtain ⟨w1, hw1⟩ : ∃ w1, w1 = w.alloc (.cells #[.int .i64 1, .string x, .string y, .slice pa p.length pc] 78) := ⟨_, rfl⟩
  have hk1 : Keeps (fun _ => False) w w1 := by rw [hw1]; exact (Keeps.refl _ w).alloc _
  have hbx : w1.heap[w.heap.size]? = some (.cells #[.int .i64 1, .string x, .string y, .slice pa p.length pc] 78 (0, 0)) := by rw [hw1]; exact heap_alloc_new _ _
  have h1 := h.quiet hk1 (G := Ext F w w1) (fun _ h _ => .inl h)
  have hF1 := ext_lt hF hk1.size
  have hfind := rfind_runs h1 x (by omega)
  obtain ⟨k, hki, hkf⟩ := findI_get hs
  rw [hki] at hfind
  obtain ⟨g, cap, qv, e, hc1, hc2, hB⟩ := h1.cell hkf
  simp only [Value.slice.injEq] at e
  obtain ⟨rfl, -, rfl⟩ := e
  have hkl := (List.getElem?_eq_some_iff.1 hkf).1
  have j0 : (0 : Int) ≤ k := by omega
  have j1 : (k : Int) < fs.length := by omega
  have htw := twin_calls hB.reads (by simp only; omega)
  simp only at htw
  obtain ⟨qa, qc, rfl, _, _⟩ := hB.form
  generalize (fget fs x).getD [] = l at *
  have hp1 := hp.keep hk1
  have H1 := Lib.hid h1
  have HF1 := Lib.hid hF1
  have HK1 := Lib.hid hk1
  have HP1 := Lib.hid hp1
  have hFw := Lib.hid hF
  clear h hF hki hkf hkl hB h1 hF1 hk1 hp1 hp hs
  go_enter Try.func95, Try.ntmps95
  go_wp2_with fail
  rw [← hw1]
  clear hw1
  refine hfind.out.mono ?_
  rintro e w' ⟨rfl, rfl⟩
  go_wp2_with fail
  refine htw.mono ?_
  rintro e w2 ⟨v2, rfl, ho2, hk2⟩
  obtain ⟨v3, w3, hrun3, ho3, hk3⟩ := ho2.grow hk2.size (HP1.out.keep hk2) hsz
  have hk13 : Keeps (fun _ => False) w1 w3 := hk2.trans hk3 (fun b hb e => by have := (owns_lt ho2 b e).2; omega)
  have hbx2 := hk2.at hbx (fun e => e)
  have hbx3 := hk13.at hbx (fun e => e)
  have c21 : w2.cell? ⟨w.heap.size, 3, none⟩ = some (.slice pa p.length pc) := cell_at hbx2 rfl
  have c31 : w3.cell? ⟨w.heap.size, 1, none⟩ = some (.string x) := cell_at hbx3 rfl
  obtain ⟨a2, c2, rfl, _, _⟩ := ho2.bytes.form
  obtain ⟨a3, c3, rfl, _, _⟩ := ho3.bytes.form
  have HR3 := Lib.hid hrun3
  have HK13 := Lib.hid hk13
  have HO3 := Lib.hid ho3
  have hF3 := ext_lt hFw.out (show w.heap.size ≤ w3.heap.size by have := HK1.out.size; have := hk13.size; omega)
  have h3 : FilesAt (Ext F w w3) w3.drew (.slice (some ⟨g, 0, none⟩) fs.length c) fs := H1.out.quiet hk13.drew (fun b hb _ => ext_one HK1.out.size hk13.size b hb)
  have hwo := rwithout_calls h3 hF3 x (by omega)
  have hdl := fdel_length fs x
  have hnext : ∀ v4 w4, FilesAt (Ext (Ext F w w3) w3.drew w4) w4 v4 (fdel fs x) → Keeps (fun _ => False) w3.drew w4 → Calls Try.prog 122 #[v4, .agg #[.string x, .slice a3 (l.length + p.length) c3]] w4 (fun e w5 => FPost F w (fins (fdel fs x) (x, l ++ p)) e w5 ∧ w5.cell? ⟨w.heap.size, 1, none⟩ = some (.string x)) := fun v4 w4 h4 k4 => by
    refine (rwith_calls (l := l ++ p) h4 (ext_lt hF3 k4.size) x ?_ (by omega)).mono (fun e w5 h5 => ?_)
    · have := ho3.bytes.keep (KeepU8.of_none k4.undrew) (G := Ext (Ext F w w3) w3.drew w4) (fun b hb hb2 => .inl (.inr ⟨by have := HK1.out.size; omega, hb2⟩))
      rw [List.length_append] at this
      exact this
    · refine ⟨FPost.after (HK1.out.trans hk13 (fun _ _ e => e)) (FPost.after (F := Ext F w w3) k4.undrew h5), ?_⟩
      obtain ⟨v5, _, _, k5⟩ := h5
      exact cell_at ((k4.undrew.trans k5 (fun _ _ e => e)).at hbx3 (fun e => e)) rfl
  have hkeep : ∀ w4, Keeps (fun _ => False) w3.drew w4 → w4.cell? ⟨w.heap.size, 1, none⟩ = some (.string x) := fun w4 k4 => cell_at (k4.undrew.at hbx3 (fun e => e)) rfl
  have HWO := Lib.hid hwo
  have HN := Lib.hid hnext
  have HKP := Lib.hid hkeep
  clear hrun3 hk13 ho3 ho2 hk2 hk3 hbx2 hbx3 htw hwo hnext hF3 h3 hkeep hdl
  go_wp2_with (at_builtin; (refine wpList_append_run (w := w2) rfl _ _ _ _ rfl rfl rfl HR3.out ?_))
  go_region_held3 (fun w' => w'.cell? ⟨w.heap.size, 1, none⟩ = some (.string x)) (first | exact c31 | exact HKP.out _ k4 | exact q5 | go_keep) (first | (go_at_call 123; refine HWO.out.mono ?_; rintro e w4 ⟨v4, rfl, h4, k4⟩) | (go_at_call 122; refine (HN.out _ _ h4 k4).mono ?_; rintro e w5 ⟨⟨v5, rfl, h5, k5⟩, q5⟩))
  obtain ⟨a5, c5, rfl, _, _⟩ := h5.form
  have HP := Lib.hid (⟨_, rfl, h5, k5⟩ : FPost F w (fins (fdel fs x) (x, l ++ p)) (.returned (.slice a5 _ c5)) w5)
  clear h5 k5 h4 k4
  go_wp2_with fail
  go_ret
  exact HP.out

set_option maxRecDepth 100000 in
set_option maxHeartbeats 1000000 in
theorem rdo_rename {F : Nat → Prop} {w : World} {v : Value} {fs : FS} (h : FilesAt F w v fs) (hF : ∀ b, F b → b < w.heap.size) (x y : ByteArray) {pv : Value} (hb : fs.length < 549755813888) (hs : (fget fs x).isSome = true) :
    Calls Try.prog 95 #[v, .agg #[.int .i64 3, .string x, .string y, pv]] w (FPost F w (fins (fdel (fdel fs x) y) (y, (fget fs x).getD []))) := by
  obtain ⟨a, c, rfl, hlc, hcm⟩ := h.form
  obtain ⟨w1, hw1⟩ : ∃ w1, w1 = w.alloc (.cells #[.int .i64 3, .string x, .string y, pv] 78) := ⟨_, rfl⟩
  have hk1 : Keeps (fun _ => False) w w1 := by rw [hw1]; exact (Keeps.refl _ w).alloc _
  have hbx : w1.heap[w.heap.size]? = some (.cells #[.int .i64 3, .string x, .string y, pv] 78 (0, 0)) := by rw [hw1]; exact heap_alloc_new _ _
  have h1 := h.quiet hk1 (G := Ext F w w1) (fun _ h _ => .inl h)
  have hF1 := ext_lt hF hk1.size
  have hfind := rfind_runs h1 x (by omega)
  obtain ⟨k, hki, hkf⟩ := findI_get hs
  rw [hki] at hfind
  obtain ⟨g, cap, qv, e, hc1, hc2, hB⟩ := h1.cell hkf
  simp only [Value.slice.injEq] at e
  obtain ⟨rfl, -, rfl⟩ := e
  have hkl := (List.getElem?_eq_some_iff.1 hkf).1
  have j0 : (0 : Int) ≤ k := by omega
  have j1 : (k : Int) < fs.length := by omega
  obtain ⟨qa, qc, rfl, _, _⟩ := hB.form
  simp only at hB hc2
  generalize (fget fs x).getD [] = l at *
  have b1 : w1.cell? ⟨w.heap.size, 1, none⟩ = some (.string x) := cell_at hbx rfl
  have b2 : w1.cell? ⟨w.heap.size, 2, none⟩ = some (.string y) := cell_at hbx rfl
  have hwo := rwithout_calls (w := w1.drew) (h1.same (fun _ _ => rfl)) hF1 x (by omega)
  have hdl := fdel_length fs x
  have hdl2 := fdel_length (fdel fs x) y
  have hkeep : ∀ w4, Keeps (fun _ => False) w1.drew w4 → w4.cell? ⟨w.heap.size, 1, none⟩ = some (.string x) ∧ w4.cell? ⟨w.heap.size, 2, none⟩ = some (.string y) := fun w4 k4 => ⟨cell_at (k4.undrew.at hbx (fun e => e)) rfl, cell_at (k4.undrew.at hbx (fun e => e)) rfl⟩
  have hnext2 : ∀ v4 w4, FilesAt (Ext (Ext F w w1) w1.drew w4) w4 v4 (fdel fs x) → Keeps (fun _ => False) w1.drew w4 → Calls Try.prog 123 #[v4, .string y] w4 (fun e w5 => ∃ v5, e = .returned v5 ∧ FilesAt (Ext (Ext F w w1) w1.drew w5) w5 v5 (fdel (fdel fs x) y) ∧ Keeps (fun _ => False) w1.drew w5) := fun v4 w4 h4 k4 => by
    refine (rwithout_calls h4 (ext_lt hF1 k4.size) y (by omega)).mono (fun e w5 h5 => ?_)
    obtain ⟨v5, rfl, h5, k5⟩ := FPost.after k4 h5
    exact ⟨v5, rfl, h5, k5⟩
  have hnext : ∀ v4 w4, FilesAt (Ext (Ext F w w1) w1.drew w4) w4 v4 (fdel (fdel fs x) y) → Keeps (fun _ => False) w1.drew w4 → Calls Try.prog 122 #[v4, .agg #[.string y, .slice qa l.length qc]] w4 (fun e w5 => FPost F w (fins (fdel (fdel fs x) y) (y, l)) e w5 ∧ Keeps (fun _ => False) w1.drew w5) := fun v4 w4 h4 k4 => by
    refine (rwith_calls (l := l) h4 (ext_lt hF1 k4.size) y (hB.keep (KeepU8.of_none k4.undrew) (fun b hb _ => .inl hb)) (by omega)).mono (fun e w5 h5 => ?_)
    refine ⟨FPost.after hk1 (FPost.after (F := Ext F w w1) k4.undrew h5), ?_⟩
    obtain ⟨v5, _, _, k5⟩ := h5
    exact k4.trans k5 (fun _ _ e => e)
  have HWO := Lib.hid hwo
  have HN := Lib.hid hnext
  have HN2 := Lib.hid hnext2
  have HKP := Lib.hid hkeep
  clear h hF hki hkf hkl hB h1 hF1 hk1 hs hwo hnext hnext2 hkeep hdl hdl2 hbx
  go_enter Try.func95, Try.ntmps95
  go_wp2_with fail
  rw [← hw1]
  clear hw1
  refine hfind.out.mono ?_
  rintro e w' ⟨rfl, rfl⟩
  go_wp2_with fail
  go_region_held3 (fun w' => w'.cell? ⟨w.heap.size, 1, none⟩ = some (.string x) ∧ w'.cell? ⟨w.heap.size, 2, none⟩ = some (.string y)) (first | exact ⟨b1, b2⟩ | exact HKP.out _ k6 | exact HKP.out _ k5 | exact HKP.out _ k4 | go_keep) (first | (go_at_call 123; refine (HN2.out _ _ h4 k4).mono ?_; rintro e w5 ⟨v5, rfl, h5, k5⟩) | (go_at_call 123; refine HWO.out.mono ?_; rintro e w4 ⟨v4, rfl, h4, k4⟩) | (go_at_call 122; refine (HN.out _ _ h5 k5).mono ?_; rintro e w6 ⟨⟨v6, rfl, h6, q6⟩, k6⟩))
  obtain ⟨a6, c6, rfl, _, _⟩ := h6.form
  have HP := Lib.hid (⟨_, rfl, h6, q6⟩ : FPost F w (fins (fdel (fdel fs x) y) (y, l)) (.returned (.slice a6 _ c6)) w6)
  clear h6 q6 h5 k5 h4 k4 k6
  go_wp2_with fail
  go_ret
  exact HP.out

/-- A change that may be done: the document's files are those of the disk's model. -/
theorem rdo_calls {F : Nat → Prop} {w : World} {v : Value} {fs : FS} (h : FilesAt F w v fs) (hF : ∀ b, F b → b < w.heap.size) (hs : FSorted fs) (c : Ch) (hm : May fs c) {pv : Value} (hp : Reads w pv c.p) (hb : fs.length < 549755813888) (hsz : c.kind = 1 → ((fget fs c.a).getD []).length + c.p.length ≤ 140737488355328) :
    Calls Try.prog 95 #[v, .agg #[.int .i64 c.kind, .string c.a, .string c.b, pv]] w (FPost F w (doCh fs c)) := by
  rw [← rdo_do hs hm]
  obtain ⟨⟨k0, k3⟩, m1, m2⟩ := hm
  obtain ⟨k, x, y, p⟩ := c
  simp only at *
  have : k = 0 ∨ k = 1 ∨ k = 2 ∨ k = 3 := by omega
  rcases this with rfl | rfl | rfl | rfl
  · exact rdo_create h hF x y pv hb
  · exact rdo_append h hF x y hp hb (m2 (by decide)) (hsz rfl)
  · exact rdo_remove h hF x y pv hb
  · exact rdo_rename h hF x y hb (m2 (by decide))
end Go.Proofs.Ytlinkpjneehnbaa
