/- merkle's Root, path and proof. -/
import Derived.Test.YtaeabdghlkdkjaaGreatMrk
namespace Go.Proofs.YtaeabdghlkdkjaaGreat
set_option linter.unusedVariables false
open Go.RowKit Go.MapKept

/-- The slice v holds these digests, in whatever memory. -/
def DgIn (w : World) (v : Value) (L : List Dg) : Prop := Len32 L ∧ ∃ a c, v = .slice a L.length c ∧ L.length ≤ c ∧ c ≤ maxLen ∧ ∀ k x, L[k]? = some x → ∃ b o, a = some ⟨b, o, none⟩ ∧ w.rangeAt b (o + k * 32) (x.map u8v)
theorem DgIn.keep {w w' : World} {v : Value} {L : List Dg} (h : DgIn w v L) (hk : Keeps (fun _ => False) w w') : DgIn w' v L := by
  obtain ⟨h0, a, c, h1, h2, h3, h4⟩ := h
  refine ⟨h0, a, c, h1, h2, h3, fun k x hx => ?_⟩
  obtain ⟨b, o, e, hr⟩ := h4 k x hx
  refine ⟨b, o, e, fun j v hv => ?_⟩
  have hc := hr j v hv
  rw [World.cell?_of_block (hk.block _ (World.block_lt_of_cell? w _ hc) (fun e => e))]
  exact hc
theorem DgIn.nil (w : World) : DgIn w (.slice none 0 0) [] := ⟨fun x hx => by simp at hx, none, 0, rfl, Nat.le_refl _, Nat.zero_le _, fun k x hx => by simp at hx⟩
theorem Digs.ins {base : Nat} {w : World} {v : Value} {L : List Dg} (h : Digs base w v L) : DgIn w v L := by
  obtain ⟨a, c, rfl, h1, h2⟩ := h.form
  refine ⟨h.2, a, c, rfl, h1, h2, fun k x hx => ?_⟩
  obtain ⟨g, c', e, hr⟩ := h.cell hx
  cases e
  exact ⟨g, 0, rfl, by rw [Nat.zero_add]; exact hr⟩
theorem elem_digests : Tryz.prog.underlying 88 = some (.slice (Tryz.prog.elem 88)) := by kernel_rfl
theorem size_digest (w : World) : (sizeOf (Tryz.prog.elem 88)).run Tryz.prog w = .ok 32 w := by kernel_rfl
/-- 'l[:k]'. -/
theorem DgIn.take {w : World} {v : Value} {L : List Dg} (h : DgIn w v L) {k : Nat} (hk : k ≤ L.length) : ∃ v', (∀ W, (Instr.sliceAt 88 v none (some (.int .i64 (k : Int))) none).run Tryz.prog W = .ok v' W) ∧ DgIn w v' (L.take k) := by
  obtain ⟨h0, a, c, rfl, h2, h3, h4⟩ := h
  refine ⟨.slice a k c, fun W => ?_, h0.take k, a, c, by rw [List.length_take, Nat.min_eq_left hk], by rw [List.length_take]; omega, h3, fun i x hx => ?_⟩
  · rw [run_sliceAt_slice _ _ _ _ _ _ elem_digests, run_slice_h W 88 a L.length c elem_digests .i64 (k : Int) (by omega) (by omega), size_digest]
    simp only [Result.andThen, sliced, Int.toNat_natCast, Nat.zero_mul, Nat.sub_zero]
    have : (a.map fun x => x.add 0) = a := by cases a with
      | none => rfl
      | some x => simp [Addr.add_zero']
    rw [this, ite_self]
  · rw [List.getElem?_take] at hx
    split at hx
    · exact h4 i x hx
    · cases hx
/-- 'l[k:]'. -/
theorem DgIn.drop {w : World} {v : Value} {L : List Dg} (h : DgIn w v L) {k : Nat} (hk : k ≤ L.length) : ∃ v', (∀ W, (Instr.sliceAt 88 v (some (.int .i64 (k : Int))) none none).run Tryz.prog W = .ok v' W) ∧ DgIn w v' (L.drop k) := by
  obtain ⟨h0, a, c, rfl, h2, h3, h4⟩ := h
  refine ⟨.slice (if c = k then a else a.map (fun x => x.add (k * 32))) (L.length - k) (c - k), fun W => ?_, h0.drop k, _, c - k, by rw [List.length_drop], by rw [List.length_drop]; omega, by omega, fun i x hx => ?_⟩
  · rw [run_sliceAt_slice _ _ _ _ _ _ elem_digests, run_slice_l W 88 a L.length c elem_digests .i64 (k : Int) (by omega) (by omega), size_digest]
    simp only [Result.andThen, sliced, Int.toNat_natCast]
  · rw [List.getElem?_drop] at hx
    obtain ⟨b, o, rfl, hr⟩ := h4 _ x hx
    have hlt := (List.getElem?_eq_some_iff.1 hx).1
    refine ⟨b, o + k * 32, ?_, ?_⟩
    · rw [if_neg (by omega)]
      simp [Addr.add_lit]
    · rw [show o + k * 32 + i * 32 = o + (k + i) * 32 by omega]
      exact hr
theorem DgIn.form {w : World} {v : Value} {L : List Dg} (h : DgIn w v L) : ∃ a c, v = .slice a L.length c ∧ L.length ≤ c ∧ c ≤ maxLen := by
  obtain ⟨_, a, c, h1, h2, h3, _⟩ := h
  exact ⟨a, c, h1, h2, h3⟩
/-- What Root tells. -/
def RootC (L : List Dg) : Prop := ∀ (w : World) (v : Value), DgIn w v L → Calls Tryz.prog 106 #[v] w (QuietP w (.agg ((rootOf L).map u8v).toArray))

set_option maxRecDepth 100000 in
set_option maxHeartbeats 4000000 in
theorem root_two {L : List Dg} (h2 : 2 ≤ L.length) (hL : L.length ≤ 256) (ihl : RootC (L.take (halfOf L.length))) (ihr : RootC (L.drop (halfOf L.length))) : RootC L := by
  intro w v h
  have hlt := half_lt h2
  obtain ⟨vl, hsl, hdl⟩ := h.take (k := halfOf L.length) (by omega)
  obtain ⟨vr, hsr, hdr⟩ := h.drop (k := halfOf L.length) (by omega)
  obtain ⟨a, c, rfl, hc1, hc2⟩ := h.form
  have h32 := h.1
  obtain ⟨W0, hW0⟩ : ∃ W0, W0 = w.alloc (.cells zeroC 83) := ⟨_, rfl⟩
  have hk1 : Keeps (fun _ => False) w W0 := by rw [hW0]; exact (Keeps.refl _ w).alloc _
  have hb0 : W0.drew.heap[w.heap.size]? = some (.cells zeroC 83) := by rw [hW0]; exact heap_alloc_new w _
  have HW0 := Lib.hid hW0
  have hkd := hk1.drew
  obtain ⟨ds, hds⟩ : ∃ ds : Array Value, ds = ((rootOf L).map u8v).toArray := ⟨_, rfl⟩
  obtain ⟨cl, hcl⟩ : ∃ ds : Array Value, ds = ((rootOf (L.take (halfOf L.length))).map u8v).toArray := ⟨_, rfl⟩
  obtain ⟨cr, hcr⟩ : ∃ ds : Array Value, ds = ((rootOf (L.drop (halfOf L.length))).map u8v).toArray := ⟨_, rfl⟩
  have HL := Lib.hid (fun W (hk : Keeps (fun _ => False) W0.drew W) => ihl W vl (hdl.keep (hkd.trans hk (fun _ _ e => e))))
  have HR := Lib.hid (fun W (hk : Keeps (fun _ => False) W0.drew W) => ihr W vr (hdr.keep (hkd.trans hk (fun _ _ e => e))))
  have HN := Lib.hid (fun W => node_calls W (rootOf (L.take (halfOf L.length))) (rootOf (L.drop (halfOf L.length))) (rootOf_length (h32.take _)) (rootOf_length (h32.drop _)))
  rw [← rootOf_two h2, ← hds, ← hcl, ← hcr] at HN
  rw [← hcl] at HL
  rw [← hcr] at HR
  have hdz : ds.size = 32 := by rw [hds]; simp [rootOf_length h32]
  have hone : ds.all (·.oneCell') = true := by rw [hds]; exact bytes_one _
  rw [← hds]
  have hsp := fun W => split_runs h2 hL W
  have HINF := Lib.hid (dig_info hdz)
  have HONE := Lib.hid hone
  have HZC := Lib.hid (show zeroC.size = ds.size by rw [hdz]; kernel_rfl)
  have HB := Lib.hid hb0
  have HK := Lib.hid hkd
  have HK0 := Lib.hid (Keeps.refl (fun _ => False) W0.drew)
  have HSP := Lib.hid hsp
  have i2 : (2 : Int) ≤ L.length := by omega
  have i3 : (L.length : Int) ≤ 256 := by omega
  have e0 : ((L.length : Int) == 0) = false := by rw [beq_eq_false_iff_ne]; omega
  have e1 : ((L.length : Int) == 1) = false := by rw [beq_eq_false_iff_ne]; omega
  generalize halfOf L.length = k at *
  obtain ⟨gb, hgb⟩ : ∃ gb, gb = w.heap.size := ⟨_, rfl⟩
  rw [← hgb] at HB
  have HGB := Lib.hid hgb
  clear hgb
  clear h hb0 hW0 hdl hdr hk1 hkd hds hcl hcr hone hsp ihl ihr h2 hL hlt hc1 hc2 h32
  go_enter Tryz.func106, Tryz.ntmps106
  go_wp2_with fail
  refine (HSP.out _).out.mono ?_; rintro e w' ⟨rfl, rfl⟩
  go_wp2_with fail
  change Code.wp _ _ _ _ (w.alloc (.cells zeroC 83))
  rw [← HW0.out, ← HGB.out]
  go_region_law (first | (refine step_wanted' rfl ?_; go_simp; go_at_call 106; refine (HR.out _ hk7).mono ?_; rintro e w8 ⟨rfl, hk8⟩; have hk78 := hk7.trans hk8 (fun _ _ e => e)) | (refine step_wanted' rfl ?_; go_simp; go_at_call 156; refine (HN.out _).mono ?_; rintro e w9 ⟨rfl, hk9⟩; have hk79 := hk78.trans hk9 (fun _ _ e => e); have hr9 := hk79.at HB.out (fun e => e); have hst9 := cells_laid hr9 HZC.out HONE.out) | (refine step_wanted' rfl ?_; go_simp; go_at_call 106; refine (HL.out _ HK0.out).mono ?_; rintro e w7 ⟨rfl, hk7⟩) | fail)
  all_goals
    have HR9 := Lib.hid (setRow_heap w9 gb _ ds 83 _ hr9)
    have hgb := HGB.out
    have HF := Lib.hid ((HK.out.trans hk79 (fun _ _ e => e)).trans (keeps_setRow w9 gb ds) (fun b hb e => by omega) : Keeps (fun _ => False) w (w9.setRow gb ds))
    clear hgb hst9 hr9 hk79 hk9 hk8 hk7 hk78 hsl hsr
    go_wp2_with fail
    refine bodyPost_ret (results_cell_row Tryz.results106 _ _ gb 83 ds (0, 0) _ rfl HR9.out Tryz.underlying83 rfl HINF.out) rfl ?_
    exact ⟨rfl, HF.out⟩
set_option maxRecDepth 100000 in
set_option maxHeartbeats 1000000 in
theorem root_nil : RootC [] := by
  intro w v h
  obtain ⟨a, c, rfl, -, -⟩ := h.form
  obtain ⟨W0, hW0⟩ : ∃ W0, W0 = w.alloc (.cells zeroC 83) := ⟨_, rfl⟩
  have hk1 : Keeps (fun _ => False) w W0 := by rw [hW0]; exact (Keeps.refl _ w).alloc _
  have hb0 : W0.heap[w.heap.size]? = some (.cells zeroC 83) := by rw [hW0]; exact heap_alloc_new w _
  have hsum := sum_calls (w := W0) (v := .slice none 0 0) (l := []) (.inl ⟨rfl, rfl⟩) (by simp)
  obtain ⟨ds, hds⟩ : ∃ ds : Array Value, ds = ((sumOf []).map u8v).toArray := ⟨_, rfl⟩
  rw [← hds] at hsum
  rw [rootOf_nil, ← hds]
  have hdz : ds.size = 32 := by rw [hds]; simp [sumOf_length]
  have hone : ds.all (·.oneCell') = true := by rw [hds]; exact bytes_one _
  have HW0 := Lib.hid hW0
  have HINF := Lib.hid (dig_info hdz)
  have HONE := Lib.hid hone
  have HDZ := Lib.hid hdz
  have HK := Lib.hid hk1
  have HB := Lib.hid hb0
  have HSUM := Lib.hid hsum
  clear h hW0 hk1 hb0 hsum hds hdz hone
  go_enter Tryz.func106, Tryz.ntmps106
  go_wp2_with fail
  change Calls _ _ _ (w.alloc (.cells zeroC 83)) _
  rw [← HW0.out]
  refine HSUM.out.mono ?_
  rintro e w4 ⟨rfl, hk4⟩
  have hr4 := hk4.at HB.out (fun e => e)
  have HK4 := Lib.hid ((HK.out.trans hk4 (fun _ _ e => e)).trans (keeps_setRow w4 w.heap.size ds) (fun b hb e => by omega))
  have HR4 := Lib.hid (setRow_heap w4 w.heap.size _ ds 83 _ hr4)
  have HR3 := Lib.hid hr4
  clear hk4 HK HSUM hr4 HB
  go_wp2_with (refine wpList_store_row rfl 83 _ _ rfl w.heap.size ds rfl rfl 83 _ HR3.out HINF.out (by rw [HDZ.out]; kernel_rfl) HONE.out ?_)
  refine bodyPost_ret (results_cell_row Tryz.results106 _ _ w.heap.size 83 ds (0, 0) _ rfl HR4.out Tryz.underlying83 rfl HINF.out) rfl ?_
  exact ⟨rfl, HK4.out⟩
set_option maxRecDepth 100000 in
set_option maxHeartbeats 1000000 in
theorem root_one (x : Dg) : RootC [x] := by
  intro w v h
  obtain ⟨h0, a, c, rfl, h1, h2, h3⟩ := h
  have hx := h0 x (by simp)
  obtain ⟨b, o, rfl, hr⟩ := h3 0 x rfl
  rw [Nat.zero_mul, Nat.add_zero] at hr
  obtain ⟨cl, hcl⟩ : ∃ cl : List Value, cl = x.map u8v := ⟨_, rfl⟩
  rw [← hcl] at hr
  rw [rootOf_one, ← hcl]
  have hsz : cl.length = 32 := by rw [hcl, List.length_map, hx]
  have hr2 : (w.alloc (.cells zeroC 83)).rangeAt b o cl := fun j v hv => by
    have hc := hr j v hv
    rw [World.cell?_of_block (((Keeps.refl (fun _ => False) w).alloc _).block _ (World.block_lt_of_cell? w _ hc) (fun e => e))]
    exact hc
  have hone : cl.toArray.all (·.oneCell') = true := by rw [hcl]; exact bytes_one _
  have HXI := Lib.hid (show (Tryz.prog.info? 83).map (·.size) = some cl.length by rw [hsz]; kernel_rfl)
  have HINF := Lib.hid (dig_info (ds := cl.toArray) (by simp [hsz]))
  have HONE := Lib.hid hone
  have HRG := Lib.hid hr2
  have HSZ := Lib.hid hsz
  have HB := Lib.hid (heap_alloc_new w (.cells zeroC 83))
  have HR4 := Lib.hid (setRow_heap (w.alloc (.cells zeroC 83)) w.heap.size _ cl.toArray 83 _ (heap_alloc_new w (.cells zeroC 83)))
  have HK := Lib.hid (((Keeps.refl (fun _ => False) w).alloc (.cells zeroC 83)).trans (keeps_setRow (w.alloc (.cells zeroC 83)) w.heap.size cl.toArray) (fun b hb e => by omega))
  clear h0 h1 h2 h3 hr hr2 hcl hx hsz hone
  go_enter Tryz.func106, Tryz.ntmps106
  go_wp2_with (first | (refine wpList_load_mid rfl 83 _ rfl b o rfl cl _ HRG.out Tryz.underlying83 rfl HXI.out ?_) | (refine wpList_store_row rfl 83 _ _ rfl w.heap.size cl.toArray rfl rfl 83 _ HB.out HINF.out (by simp only [List.size_toArray]; rw [HSZ.out]; kernel_rfl) HONE.out ?_))
  refine bodyPost_ret (results_cell_row Tryz.results106 _ _ w.heap.size 83 cl.toArray (0, 0) _ rfl HR4.out Tryz.underlying83 rfl HINF.out) rfl ?_
  exact ⟨rfl, HK.out⟩
/-- Root tells the tree's root. -/
theorem root_calls : ∀ (n : Nat) (L : List Dg), L.length ≤ n → L.length ≤ 256 → RootC L
  | 0, L, h, _ => by
    obtain rfl : L = [] := List.eq_nil_of_length_eq_zero (by omega)
    exact root_nil
  | n + 1, L, h, hL => by
    by_cases h2 : 2 ≤ L.length
    · have h3 := half_lt h2
      have h4 := half_pos L.length
      exact root_two h2 hL (root_calls n _ (by rw [List.length_take]; omega) (by rw [List.length_take]; omega)) (root_calls n _ (by rw [List.length_drop]; omega) (by rw [List.length_drop]; omega))
    · match L, h2 with
      | [], _ => exact root_nil
      | [x], _ => exact root_one x
      | x :: y :: L, h2 => simp at h2
end Go.Proofs.YtaeabdghlkdkjaaGreat
