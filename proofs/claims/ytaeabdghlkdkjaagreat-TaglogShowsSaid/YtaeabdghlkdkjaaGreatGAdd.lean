/- taglog: an entry is taken in. -/
import Derived.Test.YtaeabdghlkdkjaaGreatGAsk
namespace Go.Proofs.YtaeabdghlkdkjaaGreat
set_option linter.unusedVariables false
open Go.RowKit Go.MapKept

theorem fold_set : ∀ (l : List Value) (k : Nat) (arr : Array Value), arr.size = k + l.length → List.foldl (fun (cs : Array Value) (x : Value × Nat) => cs.setIfInBounds x.snd x.fst) arr (l.zipIdx k) = (arr.toList.take k ++ l).toArray
  | [], k, arr, h => by
    rw [List.take_of_length_le (by simp at h ⊢; omega)]
    simp
  | v :: l, k, arr, h => by
    rw [List.zipIdx_cons, List.foldl_cons, fold_set l (k + 1) (arr.setIfInBounds k v) (by rw [Array.size_setIfInBounds, h, List.length_cons]; omega)]
    congr 1
    have hk : k < arr.toList.length := by rw [List.length_cons] at h; simp; omega
    rw [Array.toList_setIfInBounds, List.take_add_one, List.take_set_of_le (by omega), List.getElem?_set_self hk]
    simp
/-- A literal of one digest, as go_simp leaves it. -/
theorem fold32 {cl : List Value} (h : cl.length = 32) : List.foldl (fun (cs : Array Value) (x : Value × Nat) => cs.setIfInBounds x.snd x.fst) #[.int .u8 0, .int .u8 0, .int .u8 0, .int .u8 0, .int .u8 0, .int .u8 0, .int .u8 0, .int .u8 0, .int .u8 0, .int .u8 0, .int .u8 0, .int .u8 0, .int .u8 0, .int .u8 0, .int .u8 0, .int .u8 0, .int .u8 0, .int .u8 0, .int .u8 0, .int .u8 0, .int .u8 0, .int .u8 0, .int .u8 0, .int .u8 0, .int .u8 0, .int .u8 0, .int .u8 0, .int .u8 0, .int .u8 0, .int .u8 0, .int .u8 0, .int .u8 0] cl.zipIdx = cl.toArray := by
  rw [fold_set cl 0 _ (by simp [h])]
  simp
/-- The things of a log. -/
def gRes (B g t : Nat) (ve vl : Value) (es : List (List UInt8)) : List (Res B) := [rObj B g (logObj t ve vl), rRows B ve es, rDigs B vl (leavesOf es)]
section
variable {w wr : World} {g t : Nat} {ve vl : Value} {es : List (List UInt8)} {rs : List (Res w.heap.size)}
theorem Own.logAt (h : Own w wr rs) (h1 : rObj w.heap.size g (logObj t ve vl) ∈ rs) (h2 : rRows w.heap.size ve es ∈ rs) (h3 : rDigs w.heap.size vl (leavesOf es) ∈ rs) : LogAt wr g t ve vl es :=
  ⟨(h.at h1).1, (h.rows h2).1, (h.digs h3).ins⟩
end
set_option maxRecDepth 100000 in
set_option maxHeartbeats 2000000 in
theorem gadd_calls {w w0 : World} {g t : Nat} {ve vl : Value} {es : List (List UInt8)} {rs : List (Res w.heap.size)} (h : Own w w0 (gRes w.heap.size g t ve vl es ++ rs)) (hl : es.length < 1099511627776) {pv : Value} {p : List UInt8} (hpl : p.length ≤ 70368744177662)
    (hp : ∀ (wr : World) (ls : List (Res w.heap.size)), Own w wr (ls ++ rs) → Reads wr pv p) :
    Calls Tryz.prog 99 #[.pointer (some ⟨g, 0, none⟩), pv] w0 (fun e w' => e = .returned (.tuple #[]) ∧ ∃ ve' vl', Own w w' (gRes w.heap.size g t ve' vl' (es ++ [p]) ++ rs)) := by
  have h0 : Own w w0 (rObj w.heap.size g (logObj t ve vl) :: rRows w.heap.size ve es :: rDigs w.heap.size vl (leavesOf es) :: rs) := h
  have hd0 := h0.drew
  obtain ⟨v1, w1, hcl, hv1, hk1⟩ := clone_owns (hp w0.drew [_, _, _] hd0) (by omega)
  obtain ⟨ra, rc, w2, hrun2, h2⟩ := (hd0.swap).pushRec hv1 hk1 hl
  have h3 : Own w (w2.setCell ⟨g, 1, none⟩ (.slice ra (es.length + 1) rc)) (rObj w.heap.size g (logObj t (.slice ra (es.length + 1) rc) vl) :: rRows w.heap.size (.slice ra (es.length + 1) rc) (es ++ [p]) :: rDigs w.heap.size vl (leavesOf es) :: rs) := h2.swap.store 1 _
  have hlf := leaf_calls (hp _ [_, _, _] h3.drew) (by omega)
  obtain ⟨-, c1, -, -⟩ := log_cells (hd0.at (b := g) (o := logObj t ve vl) (by simp)).1
  obtain ⟨-, c1', -, -⟩ := log_cells ((hd0.quiet hk1).at (b := g) (o := logObj t ve vl) (by simp)).1
  obtain ⟨-, c1a, -, -⟩ := log_cells (((hd0.quiet hk1).alloc (.cells #[v1] 36)).at (b := g) (o := logObj t ve vl) (by simp)).1
  obtain ⟨-, c1'', -, f1''⟩ := log_cells (h2.at (b := g) (o := logObj t ve vl) (by simp)).1
  have f1 := f1'' 1
  obtain ⟨-, -, c2, -⟩ := log_cells (h3.at (b := g) (o := logObj t (.slice ra (es.length + 1) rc) vl) (by simp)).1
  obtain ⟨va, vc, hve⟩ : ∃ a c, ve = .slice a es.length c := rows_form (h0.rows (v := ve) (ll := es) (by simp)).1
  obtain ⟨pa, pc, hpv, -, -⟩ := (hp w0.drew [_, _, _] hd0).form
  obtain ⟨qa, qc, hqv, -, -⟩ := hv1.bytes.form
  subst hve
  subst hpv
  subst hqv
  have HCL := Lib.hid hcl
  have HR2 := Lib.hid hrun2
  have H3 := Lib.hid h3
  have HLF := Lib.hid hlf
  have L32 := leafOf_length p
  obtain ⟨cl, hcl2⟩ : ∃ cl : List Value, cl = (leafOf p).map u8v := ⟨_, rfl⟩
  rw [← hcl2] at HLF
  have hclz : cl.length = 32 := by rw [hcl2, List.length_map, L32]
  have hfo := fold32 hclz
  have HC2 := Lib.hid hcl2
  have HL32 := Lib.hid (⟨L32, by rw [show (leavesOf es).length = es.length from List.length_map _]; exact hl⟩ : (leafOf p).length = 32 ∧ (leavesOf es).length < 1099511627776)
  have HSN := Lib.hid (show leavesOf (es ++ [p]) = leavesOf es ++ [leafOf p] by unfold leavesOf; rw [List.map_append]; rfl)
  generalize es.length = ne at *
  generalize p.length = np at *
  clear h h0 hd0 hcl hv1 hk1 hrun2 h2 h3 hlf hp hcl2 L32 hpl hl f1''
  go_enter Tryz.func99, Tryz.ntmps99
  go_wp2_with fail
  go_region_law (first | (refine step_append_run rfl _ _ _ _ rfl rfl rfl HR2.out ?_) | (refine step_wanted' rfl ?_; go_simp; go_at_call 107; refine HCL.out.out.mono ?_; rintro e w' ⟨rfl, rfl⟩) | fail)
  all_goals
    obtain ⟨w3, hw3⟩ : ∃ w3, w3 = w2.setCell ⟨g, 1, none⟩ (.slice ra (ne + 1) rc) := ⟨_, rfl⟩
    rw [← hw3] at H3 HLF c2 ⊢
    clear hw3 c1 c1' c1a c1'' f1 HR2 HCL
    go_wp2_with fail
    have HX := Lib.hid (fun (w7 : World) (hk : Keeps (fun _ => False) w3.drew w7) => ((H3.out.drew).quiet hk).third.swap.tuck2)
    clear H3
    go_region_law (first | (refine step_append_run rfl _ _ _ _ rfl rfl rfl hrun8 ?_) | (refine step_wanted' rfl ?_; go_simp; go_at_call 45; refine HLF.out.mono ?_; rintro e w7 ⟨rfl, hk7⟩; have h7 := HX.out w7 hk7; have h7a := h7.quiet ((Keeps.refl _ w7).alloc (.cells cl.toArray 83)); obtain ⟨-, -, c27, -⟩ := log_cells (h7.at (b := g) (o := logObj t (.slice ra (ne + 1) rc) vl) (by simp)).1; obtain ⟨-, -, c27a, -⟩ := log_cells (h7a.at (b := g) (o := logObj t (.slice ra (ne + 1) rc) vl) (by simp)).1; obtain ⟨da, dc, w8, hrun8, h8⟩ := h7a.pushDig HL32.out.1 (b := w7.heap.size) (fun k u hu => by rw [Nat.zero_add]; exact cell_at (heap_alloc_new w7 (.cells cl.toArray 83)) (by rw [List.getElem?_toArray, HC2.out]; exact hu)) HL32.out.2; obtain ⟨-, -, c28, f28⟩ := log_cells (h8.at (b := g) (o := logObj t (.slice ra (ne + 1) rc) vl) (by simp)).1; have f28' := f28 2) | fail)
    all_goals
      have h9 := (h8.third.store 2 (.slice da ((leavesOf es).length + 1) dc))
      have HF := Lib.hid (show Own w (w8.setCell ⟨g, 2, none⟩ (.slice da ((leavesOf es).length + 1) dc)) (gRes w.heap.size g t (.slice ra (ne + 1) rc) (.slice da ((leavesOf es).length + 1) dc) (es ++ [p]) ++ rs) by unfold gRes; rw [HSN.out]; exact (h9.tuck2).swap.third)
      clear h9 h8 hrun8 c28 f28 f28' c27 c27a h7 h7a hk7 c2 hfo
      go_wp2_with fail
      go_end0
      exact ⟨rfl, _, _, HF.out⟩
end Go.Proofs.YtaeabdghlkdkjaaGreat
