/- A part of the proof. -/
import Derived.Test.YtddnikpdmjogiaaGreatYd6
import Derived.Test.YtddnikpdmjogiaaGreatYd8
namespace Go.Proofs.YtddnikpdmjogiaaGreat
set_option linter.unusedVariables false
open Go.RowKit Go.MapKept
def rlogObj (t : Nat) (ve : Value) : Obj := .cells #[.pointer (some ⟨t, 0, none⟩), ve] 52 (0, 0)
theorem rlog_cells {w : World} {g t : Nat} {ve : Value} (h : w.heap[g]? = some (rlogObj t ve)) : w.cell? ⟨g, 0, none⟩ = some (.pointer (some ⟨t, 0, none⟩)) ∧ w.cell? ⟨g, 1, none⟩ = some ve ∧ ∀ i, w.frozen? ⟨g, i, none⟩ = false :=
 ⟨cell_at h rfl, cell_at h rfl, fun i => free_at h i⟩
structure RLogAt (w : World) (g t : Nat) (ve : Value) (es : List (List UInt8)) : Prop where
 obj : w.heap[g]? = some (rlogObj t ve)
 rows : RowsIn w ve es
theorem RLogAt.keep {w w' : World} {g t : Nat} {ve : Value} {es : List (List UInt8)} (h : RLogAt w g t ve es) (hk : Keeps (fun _ => False) w w') : RLogAt w' g t ve es :=
 ⟨hk.at h.obj (fun e => e), h.rows.keep hk⟩
section
variable {w wr : World} {rs : List (Res w.heap.size)} {v : Value} {L : List (List UInt8)}
theorem Own.pushNewD (h : Own w wr (rDigsD w.heap.size v L :: rs)) {x : List UInt8} (hx : x.length = 32) (hL : L.length < 1099511627776) :
  ∃ a c w', (Builtin.append_ #[128, 128] 128 #[v, .slice (some ⟨wr.heap.size, 0, none⟩) 1 1]).run Tryz.prog (wr.alloc (.cells (x.map u8v).toArray 100)) = .ok (.slice a (L.length + 1) c) w' ∧ Own w w' (rDigsD w.heap.size (.slice a (L.length + 1) c) (L ++ [x]) :: rs) :=
 (h.quiet ((Keeps.refl _ wr).alloc _)).pushD32 hx (fun k u hu => by rw [Nat.zero_add]; exact cell_at (heap_alloc_new wr _) (by rw [List.getElem?_toArray]; exact hu)) hL
theorem Own.freshD (h : Own w wr rs) (hm : rDigsD w.heap.size v L ∈ rs) : DigsR w.heap.size wr v L := by
 obtain ⟨F, ⟨h1, h2⟩, h3⟩ := h.mem hm
 obtain ⟨⟨k1, k2⟩, k3⟩ := h1
 refine ⟨⟨k1, ?_⟩, k3⟩
 rcases k2 with k2 | ⟨g, cap, cur, rfl, hg, hb⟩
 ·exact .inl k2
 ·exact .inr ⟨g, cap, cur, rfl, (h3 g (h2 g rfl)).1, hb⟩
end
set_option maxRecDepth 100000 in
set_option maxHeartbeats 2000000 in
theorem rleaves_calls {w : World} {g t : Nat} {ve : Value} {es : List (List UInt8)} (h : RLogAt w g t ve es) (hp : ∀ p ∈ es, p.length < 70368744177663) (hl : es.length < 1099511627776) {n : Nat} (hn : n ≤ es.length) :
  Calls Tryz.prog 50 #[.pointer (some ⟨g, 0, none⟩), .int .i64 (n : Int)] w (fun e w' => ∃ v, e = .returned v ∧ DigsR w.heap.size w' v ((leavesOf es).take n) ∧ Keeps (fun _ => False) w w') := by
 have HH := hyd h
 have HP := hyd hp
 have HN := hyd (And.intro hn hl)
 have H1 := hyd (Own.start w).nilDigsR
 clear h hp hn hl
 go_enter Tryz.func50, Tryz.ntmps50
 go_wp2_with fail
 go_loopw [5, 6] (fun ov i wx => ∃ k : Nat, i = .int .i64 (k : Int) ∧ k ≤ n ∧ Own w wx [rDigsD _ ov ((leavesOf es).take k)]) (fun _ i _ => n - (intOf i).toNat)
 case atStart => exact ⟨0, rfl, by omega, H1.out⟩
 case round =>
  obtain ⟨k, rfl, hk, hown⟩ := hrel
  clear H1
  have j0 : (0 : Int) ≤ k := by omega
  have j2 : (k : Int) < 1099511627776 := by have := HN.out; omega
  by_cases hlt : k < n
  ·have j1 : (k : Int) < n := by omega
   have hkl : k < es.length := by have := HN.out; omega
   obtain ⟨pc, hpc⟩ : ∃ p, es[k]? = some p := ⟨_, List.getElem?_eq_getElem hkl⟩
   have hat := HH.out.keep hown.keeps
   obtain ⟨c0, c1, c2⟩ := rlog_cells hat.obj
   obtain ⟨a, c, rfl, hrow⟩ := hat.rows
   obtain ⟨x, pv, rfl, hx, hrd⟩ := hrow k pc hpc
   have hleaf := rleaf_calls hrd (HP.out _ (List.mem_of_getElem? hpc))
   have j3 : (k : Int) < es.length := by omega
   have hll : (leavesOf es)[k]? = some (leafOf pc) := by unfold leavesOf; rw [List.getElem?_map, hpc]; rfl
   have ht : (leavesOf es).take (k + 1) = (leavesOf es).take k ++ [leafOf pc] := by rw [List.take_add_one, hll]; rfl
   have hbl : ((leavesOf es).take k).length < 1099511627776 := by rw [List.length_take]; have := HN.out; omega
   obtain ⟨cl, hcl⟩ : ∃ cl : List Value, cl = (leafOf pc).map u8v := ⟨_, rfl⟩
   rw [← hcl] at hleaf
   have HPU := hyd (fun (w5 : World) (hk5 : Keeps (fun _ => False) wr w5) => (hown.quiet hk5).pushNewD (leafOf_length pc) hbl)
   rw [← ht, ← hcl] at HPU
   have HLF := hyd hleaf
   have HCZ := hyd (show cl.length = 32 by rw [hcl, List.length_map, leafOf_length])
   have HX := hyd hlt
   clear hat hrow hrd hleaf hll ht hbl hcl hown hkl hpc hlt hk
   go_wp2_with fail
   refine HLF.out.mono ?_
   rintro e w5 ⟨rfl, hk5⟩
   obtain ⟨a6, c6, w6, hrun, h6⟩ := HPU.out w5 hk5
   have HR := hyd hrun
   have H6 := hyd h6
   generalize ((leavesOf es).take k).length + 1 = n6 at *
   clear hrun h6 hk5 HPU HLF
   go_wp2_with (first | (refine wpList_buildD32 rfl _ rfl cl HCZ.out rfl ?_) | (at_builtin; refine wpList_append_run rfl _ _ _ _ rfl rfl rfl HR.out ?_))
   go_roundw
   case rel => exact ⟨k + 1, rfl, HX.out, H6.out⟩
   case measure => have := HX.out; simp only [intOf]; omega
  ·obtain rfl : k = n := by omega
   have HF := hyd (⟨u5, rfl, hown.freshD (by simp), hown.keeps⟩ : ∃ v, Ending.returned u5 = .returned v ∧ DigsR w.heap.size wr v ((leavesOf es).take k) ∧ Keeps (fun _ => False) w wr)
   obtain ⟨a, c, rfl, _, _⟩ := (hown.digsR (v := u5) (L := (leavesOf es).take k) (by simp)).form
   generalize ((leavesOf es).take k).length = n6 at *
   clear hown hlt hk
   go_wp2_with fail
   go_ret
   exact HF.out
set_option maxRecDepth 100000 in
theorem rproof_calls {w : World} {v : Value} {L : List Dg} (h : DgIn w v L) (hl : L.length ≤ 256) {m : Nat} (hm : m ≤ L.length) :
  Calls Tryz.prog 54 #[v, .int .i64 (m : Int)] w (DigsRPost w (if 0 < m then proofOf L m true else [])) := by
 obtain ⟨a, c, rfl, -, -⟩ := h.form
 by_cases h0 : 0 < m
 ·rw [if_pos h0]
  have HC := hyd (rproof_calls1 256 L hl hl w _ m true h h0 hm)
  have e0 : ((m : Int) == 0) = false := by rw [beq_eq_false_iff_ne]; omega
  generalize L.length = n at *
  clear h hm h0
  go_enter Tryz.func54, Tryz.ntmps54
  go_wp2_with fail
  refine HC.out.mono ?_
  rintro e w' ⟨v', rfl, hd, hk⟩
  have HF := hyd (⟨v', rfl, hd, hk⟩ : DigsRPost w (proofOf L m true) (.returned v') w')
  obtain ⟨a', c', rfl, _, _⟩ := hd.form
  generalize (proofOf L m true).length = n' at *
  clear hd hk HC
  go_wp2_with fail
  go_ret
  exact HF.out
 ·rw [if_neg h0]
  obtain rfl : m = 0 := by omega
  rw [show ((0 : Nat) : Int) = 0 from rfl]
  clear h hm h0
  go_enter Tryz.func54, Tryz.ntmps54
  go_wp2_with fail
  go_ret
  exact ⟨_, rfl, DigsR.nil _ _, Keeps.refl _ _⟩
set_option maxRecDepth 100000 in
set_option maxHeartbeats 2000000 in
theorem same15_true {w : World} {va vb : Value} {L : List Dg} (ha : DgIn w va L) (hb : DgIn w vb L) (hl : L.length < 1099511627776) : Calls Tryz.prog 52 #[va, vb] w (QuietP w (.bool true)) := by
 have h32 := ha.1
 have HA := hyd ha
 have HB := hyd hb
 obtain ⟨a, c, rfl, -, -⟩ := ha.form
 obtain ⟨b, d, rfl, -, -⟩ := hb.form
 have HL := hyd hl
 have H32 := hyd h32
 clear ha hb h32 hl
 go_enter Tryz.func52, Tryz.ntmps52
 go_wp2_with fail
 go_loopw [13] (fun i wx => ∃ k : Nat, i = .int .i64 (k : Int) ∧ k ≤ L.length ∧ Keeps (fun _ => False) w wx) (fun i _ => L.length - (intOf i).toNat)
 case atStart => exact ⟨0, rfl, by omega, Keeps.refl _ _⟩
 case round =>
  obtain ⟨k, rfl, hk, hkeep⟩ := hrel
  have j0 : (0 : Int) ≤ k := by omega
  have j2 : (k : Int) < 1099511627776 := by have := HL.out; omega
  by_cases hlt : k < L.length
  ·have j1 : (k : Int) < L.length := by omega
   obtain ⟨x, hx⟩ : ∃ x, L[k]? = some x := ⟨_, List.getElem?_eq_getElem hlt⟩
   have hx32 := H32.out x (List.mem_of_getElem? hx)
   obtain ⟨_, a', c', ea, _, _, hra⟩ := HA.out.keep hkeep
   obtain ⟨_, b', d', eb, _, _, hrb⟩ := HB.out.keep hkeep
   cases ea
   cases eb
   obtain ⟨ba, oa, rfl, hra1⟩ := hra k x hx
   obtain ⟨bb, ob, rfl, hrb1⟩ := hrb k x hx
   clear hra hrb
   obtain ⟨xl, hxl⟩ : ∃ xl : List Value, xl = x.map u8v := ⟨_, rfl⟩
   have heq := fun W => dig_eq x x hx32 hx32 W
   rw [decide_eq_true rfl, ← hxl] at heq
   rw [← hxl] at hra1 hrb1
   have hxz : xl.length = 32 := by rw [hxl, List.length_map, hx32]
   have HI1 := hyd (show (Tryz.prog.info? 101).map (·.size) = some xl.length by rw [hxz]; kernel_rfl)
   have HI2 := hyd (show (Tryz.prog.info? 100).map (·.size) = some xl.length by rw [hxz]; kernel_rfl)
   have HRA := hyd hra1
   have HRB := hyd hrb1
   have HX := hyd hlt
   have HK := hyd hkeep
   clear hra1 hrb1 hxl hx hx32 hxz hlt hk hkeep
   go_upto_region 6 with fail
   refine wp_region_still_tail 8 (by kernel_rfl) (by kernel_rfl) ?_
   simp only [List.take_succ_cons, List.take_zero, List.drop_succ_cons, List.drop_zero]
   still_step
   still_step
   still_step
   refine still_load_mid (by rfl) 101 _ rfl ba (oa + k * 32) rfl xl _ HRA.out Tryz.underlying101 rfl HI1.out ?_
   still_step
   still_step
   still_step
   refine still_load_mid (by rfl) 100 _ rfl bb (ob + k * 32) rfl xl _ HRB.out Tryz.underlying100 rfl HI2.out ?_
   refine wpStill_nil ?_
   change wpList _ _ _ _ _ wr.drew
   simp only [Act.put, sA, sZ, sS]
   have HKD := hyd (HK.out.drew)
   clear HK HRA HRB
   generalize wr.drew = w5 at *
   go_wp2_with fail
   go_roundw
   case rel => exact ⟨k + 1, rfl, HX.out, HKD.out⟩
   case measure => have := HX.out; simp only [intOf]; omega
  ·obtain rfl : k = L.length := by omega
   have HK := hyd hkeep
   clear hkeep hlt hk
   go_wp2_with fail
   go_ret
   exact ⟨rfl, HK.out⟩
end Go.Proofs.YtddnikpdmjogiaaGreat
