/- A part of the proof. -/
import Derived.Test.YtddnikpdmjogiaaGreatYd0
namespace Go.Proofs.YtddnikpdmjogiaaGreat
set_option linter.unusedVariables false
open Go.RowKit Go.MapKept
def rStV (H : List Int) (n : Int) (t : Value) : List Value := H.map u32v ++ [.int .u64 n, t]
def tailOf (M : List UInt8) : List UInt8 := M.drop (64 * (M.length / 64))
def RSt (w : World) (v : Value) (M : List UInt8) : Prop := ∃ t, v = .agg (rStV (hashH M) M.length t).toArray ∧ Reads w t (tailOf M)
def RStN (w : World) (base : Nat) (v : Value) (M : List UInt8) : Prop := ∃ t, v = .agg (rStV (hashH M) M.length t).toArray ∧ Owns w base t (tailOf M)
theorem RStN.st {w : World} {base : Nat} {v : Value} {M : List UInt8} (h : RStN w base v M) : RSt w v M := by
 obtain ⟨t, rfl, ho⟩ := h
 exact ⟨t, rfl, ho.bytes.reads⟩
theorem RSt.keep {w w' : World} {v : Value} {M : List UInt8} (h : RSt w v M) (hk : Keeps (fun _ => False) w w') : RSt w' v M := by
 obtain ⟨t, rfl, hr⟩ := h
 exact ⟨t, rfl, hr.keep hk⟩
theorem rStV_one (H : List Int) (n : Int) (a : Option Addr) (k c : Nat) : ∀ v ∈ rStV H n (.slice a k c), v.oneCell' = true := by
 intro v hv
 simp only [rStV, List.mem_append, List.mem_map, List.mem_cons, List.not_mem_nil, or_false] at hv
 rcases hv with ⟨x, _, rfl⟩ | rfl | rfl <;> rfl
theorem hashH_length (M : List UInt8) : (hashH M).length = 8 := hashN_length M _
theorem tailOf_length (M : List UInt8) : (tailOf M).length = M.length % 64 := by
 unfold tailOf; rw [List.length_drop]; omega
theorem tail_more (M : List UInt8) (c : UInt8) (h : (tailOf M).length ≠ 63) : tailOf (M ++ [c]) = tailOf M ++ [c] ∧ hashH (M ++ [c]) = hashH M := by
 rw [tailOf_length] at h
 have e : (M ++ [c]).length / 64 = M.length / 64 := by simp only [List.length_append, List.length_cons, List.length_nil]; omega
 constructor
 ·unfold tailOf
  rw [e, List.drop_append_of_le_length (by omega)]
 ·unfold hashH
  rw [e]
  exact hashN_append M [c] _ (by omega)
theorem tail_full (M : List UInt8) (c : UInt8) (h : (tailOf M).length = 63) : tailOf (M ++ [c]) = [] ∧ hashH (M ++ [c]) = blockV kWords (hashH M) (tailOf M ++ [c]) := by
 rw [tailOf_length] at h
 have e : (M ++ [c]).length / 64 = M.length / 64 + 1 := by simp only [List.length_append, List.length_cons, List.length_nil]; omega
 have e2 : (M ++ [c]).drop (64 * (M.length / 64)) = tailOf M ++ [c] := by
  unfold tailOf
  rw [List.drop_append_of_le_length (by omega)]
 constructor
 ·unfold tailOf
  rw [e]
  apply List.drop_eq_nil_of_le
  simp only [List.length_append, List.length_cons, List.length_nil]; omega
 ·unfold hashH
  rw [e]
  have h64 : 64 ≤ ((M ++ [c]).drop (64 * (M.length / 64))).length := by
   rw [List.length_drop]; simp only [List.length_append, List.length_cons, List.length_nil]; omega
  rw [(mid_next h64).1, e2, hashN_append M [c] _ (by omega)]
  congr 1
  apply List.take_of_length_le
  rw [List.length_append, tailOf_length]; simp; omega
def rStB : Array Value := #[.int .u32 1779033703, .int .u32 3144134277, .int .u32 1013904242, .int .u32 2773480762, .int .u32 1359893119, .int .u32 2600822924, .int .u32 528734635, .int .u32 1541459225, .int .u64 0, .slice none 0 0]
set_option maxRecDepth 100000 in
set_option maxHeartbeats 2000000 in
theorem r2New_calls (w : World) : Calls Tryz.prog 145 #[] w (fun e w' => Keeps (fun _ => False) w w' ∧ ∃ v, e = .returned v ∧ RStN w' w.heap.size v []) := by
 go_enter Tryz.func145, Tryz.ntmps145
 go_wp2_with fail
 refine (r2Begin_runs _).out.mono ?_; rintro e w' ⟨rfl, rfl⟩
 have o := ((Own.start w).alloc (.cells #[.int .u32 0, .int .u32 0, .int .u32 0, .int .u32 0, .int .u32 0, .int .u32 0, .int .u32 0, .int .u32 0, .int .u64 0, .slice none 0 0] 214)).alloc (.cells hCells 212)
 have HR := hyd (o.at (b := w.heap.size) (o := .cells #[.int .u32 0, .int .u32 0, .int .u32 0, .int .u32 0, .int .u32 0, .int .u32 0, .int .u32 0, .int .u32 0, .int .u64 0, .slice none 0 0] 214) (by simp)).1
 have HK := hyd o.keeps
 clear o
 generalize (w.alloc (.cells #[.int .u32 0, .int .u32 0, .int .u32 0, .int .u32 0, .int .u32 0, .int .u32 0, .int .u32 0, .int .u32 0, .int .u64 0, .slice none 0 0] 214)).alloc (.cells hCells 212) = w2 at *
 go_wp2_with (first | (refine wpList_build_as rfl 214 _ rfl rStB (by kernel_rfl) ?_) | (refine wpList_store_row rfl 214 _ _ rfl w.heap.size rStB rfl rfl 214 _ HR.out (by kernel_rfl) (by kernel_rfl) (by kernel_rfl) ?_))
 have hh : (w2.setRow w.heap.size rStB).heap[w.heap.size]? = some (.cells rStB 214 (0, 0)) := setRow_heap w2 w.heap.size _ rStB 214 _ HR.out
 refine bodyPost_ret (results_cell_row Tryz.results145 _ _ w.heap.size 214 rStB (0, 0) _ rfl hh Tryz.underlying214 rfl (by kernel_rfl)) rfl ?_
 exact ⟨HK.out.trans (keeps_setRow _ _ _) (fun b hb e => by omega), _, rfl, .slice none 0 0, rfl, Owns.nil _ _⟩
variable {w wr : World} {rs : List (Res w.heap.size)}
theorem Own.owns {v : Value} {l : List UInt8} (h : Own w wr rs) (hm : rBytes w.heap.size v l ∈ rs) : Owns wr w.heap.size v l := by
 obtain ⟨F, h1, h2⟩ := h.mem hm
 obtain ⟨⟨k1, k2⟩, k3⟩ := h1
 refine ⟨k1, ?_⟩
 rcases k2 with k2 | ⟨g, cap, cur, rfl, hg, hb⟩
 ·exact .inl k2
 ·exact .inr ⟨g, cap, cur, rfl, (h2 g (k3 g rfl)).1, hb⟩
theorem store8_eq (h0 h1 h2 h3 h4 h5 h6 h7 g0 g1 g2 g3 g4 g5 g6 g7 n : Int) (tv : Value) :
  ((((((((rStV [h0, h1, h2, h3, h4, h5, h6, h7] n tv).toArray.setIfInBounds 0 (u32v g0)).setIfInBounds 1 (u32v g1)).setIfInBounds 2 (u32v g2)).setIfInBounds 3 (u32v g3)).setIfInBounds 4 (u32v g4)).setIfInBounds 5 (u32v g5)).setIfInBounds 6 (u32v g6)).setIfInBounds 7 (u32v g7) = (rStV [g0, g1, g2, g3, g4, g5, g6, g7] n tv).toArray := by kernel_rfl
theorem store89_eq (h0 h1 h2 h3 h4 h5 h6 h7 n m : Int) (tv sv : Value) :
  ((rStV [h0, h1, h2, h3, h4, h5, h6, h7] n tv).toArray.setIfInBounds 8 (.int .u64 m)).setIfInBounds 9 sv = (rStV [h0, h1, h2, h3, h4, h5, h6, h7] m sv).toArray := by kernel_rfl
theorem Own.store8 {b : Nat} {n : Int} {tv : Value} {H H' : List Int} (h : Own w wr (rObj w.heap.size b (.cells (rStV H n tv).toArray 214 (0, 0)) :: rs)) (hH : H.length = 8) (hH' : H'.length = 8) :
  Own w (wr.setCells b 0 (H'.map u32v)) (rObj w.heap.size b (.cells (rStV H' n tv).toArray 214 (0, 0)) :: rs) := by
 obtain ⟨h0, h1, h2, h3, h4, h5, h6, h7, rfl⟩ := list8 hH
 obtain ⟨g0, g1, g2, g3, g4, g5, g6, g7, rfl⟩ := list8 hH'
 have hs := (((((((h.store 0 (u32v g0)).store 1 (u32v g1)).store 2 (u32v g2)).store 3 (u32v g3)).store 4 (u32v g4)).store 5 (u32v g5)).store 6 (u32v g6)).store 7 (u32v g7)
 rw [store8_eq] at hs
 exact hs
theorem Own.there8 {b : Nat} {n : Int} {tv : Value} {H : List Int} (h : Own w wr (rObj w.heap.size b (.cells (rStV H n tv).toArray 214 (0, 0)) :: rs)) (hH : H.length = 8) :
  wr.rangeAt b 0 (H.map u32v) ∧ wr.there b 0 8 := by
 have hb := (h.at (b := b) (o := .cells (rStV H n tv).toArray 214 (0, 0)) (by simp)).1
 have h1 : wr.rangeAt b 0 (H.map u32v) := by
  intro j v hv
  have hj : j < (H.map u32v).length := (List.getElem?_eq_some_iff.1 hv).1
  rw [Nat.zero_add]
  refine cell_at hb ?_
  simp only [rStV, List.getElem?_toArray]
  rw [List.getElem?_append_left hj]; exact hv
 refine ⟨h1, fun j hj => ?_⟩
 rw [Nat.zero_add]
 refine ⟨?_, free_at hb j⟩
 have hj2 : j < (H.map u32v).length := by rw [List.length_map, hH]; exact hj
 have := h1 j _ (List.getElem?_eq_getElem hj2)
 rw [Nat.zero_add] at this
 rw [this]; rfl
set_option maxRecDepth 100000 in
set_option maxHeartbeats 4000000 in
theorem rwrite_calls {v : Value} {M : List UInt8} {pv : Value} {l : List UInt8} (hs : RSt w v M) (hr : Reads w pv l) (hb : M.length + l.length < 140737488355328) :
  Calls Tryz.prog 144 #[v, pv] w (fun e w' => Keeps (fun _ => False) w w' ∧ ∃ v', e = .returned v' ∧ RStN w' w.heap.size v' (M ++ l)) := by
 obtain ⟨t0, rfl, ht⟩ := hs
 obtain ⟨ta, tc, rfl, _, _⟩ := ht.form
 have HR := hyd hr
 obtain ⟨pa, pc, rfl, hpc, hpc2⟩ := hr.form
 have hcell := fun k (hk : k < l.length) => hr.cell rfl hk
 obtain ⟨tl, htl⟩ : ∃ tl, tl = (tailOf M).length := ⟨_, rfl⟩
 have htl64 : tl < 64 := by rw [htl, tailOf_length]; omega
 rw [← htl]
 obtain ⟨sc, hsc⟩ : ∃ sc : Array Value, sc = (rStV (hashH M) M.length (.slice ta tl tc)).toArray := ⟨_, rfl⟩
 rw [← hsc]
 rw [← htl] at ht
 have HT := hyd ht
 have HTL := hyd htl64
 have HSC := hyd hsc
 have HB := hyd hb
 clear ht htl hsc hr hb htl64
 go_enter Tryz.func144, Tryz.ntmps144
 go_upto_region 1 with fail
 have o := ((Own.start w).alloc (.cells sc 214)).alloc (.cells #[.int .u32 0, .int .u32 0, .int .u32 0, .int .u32 0, .int .u32 0, .int .u32 0, .int .u32 0, .int .u32 0, .int .u64 0, .slice none 0 0] 214)
 have o2 := o.swap
 rw [World.size_alloc, HSC.out] at o2
 rw [HSC.out]
 have HO := hyd o2
 have c9 := cell_at (i := 9) (v := .slice ta tl tc) (o2.at (b := w.heap.size) (o := .cells (rStV (hashH M) M.length (.slice ta tl tc)).toArray 214) (by simp)).1 (by
  obtain ⟨h0, h1, h2, h3, h4, h5, h6, h7, e⟩ := list8 (hashH_length M)
  rw [e]; rfl)
 clear o o2
 have HR2 := hyd (HO.out.keeps)
 clear HSC
 generalize (w.alloc (.cells (rStV (hashH M) M.length (.slice ta tl tc)).toArray 214)).alloc (.cells #[.int .u32 0, .int .u32 0, .int .u32 0, .int .u32 0, .int .u32 0, .int .u32 0, .int .u32 0, .int .u32 0, .int .u64 0, .slice none 0 0] 214) = w2 at *
 go_wp2_with fail
 refine (twin_calls (HT.out.keep HR2.out) (by have := HTL.out; rw [tailOf_length]; omega)).mono ?_
 rintro e w3 ⟨tv, rfl, ho, hk⟩
 have H3 := hyd (HO.out.addBytes ho hk)
 clear ho hk HO c9 HR2
 go_wp2_with fail
 go_loopw [5, 6] (fun tv i wx => ∃ k : Nat, i = .int .i64 (k : Int) ∧ k ≤ l.length ∧ Own w wx [rBytes _ tv (tailOf (M ++ l.take k)), rObj _ w.heap.size (.cells (rStV (hashH (M ++ l.take k)) M.length (.slice ta tl tc)).toArray 214 (0, 0)), rObj _ (w.heap.size + 1) (.cells #[.int .u32 0, .int .u32 0, .int .u32 0, .int .u32 0, .int .u32 0, .int .u32 0, .int .u32 0, .int .u32 0, .int .u64 0, .slice none 0 0] 214)]) (fun _ i _ => l.length - (intOf i).toNat)
 case atStart => exact ⟨0, rfl, by omega, by rw [List.take_zero, List.append_nil]; exact H3.out⟩
 case round =>
  obtain ⟨k, rfl, hk, hown⟩ := hrel
  clear H3
  have j0 : (0 : Int) ≤ k := by omega
  have j2 : (k : Int) < 140737488355328 := by have := HB.out; omega
  by_cases hlt : k < l.length
  ·have j1 : (k : Int) < l.length := by omega
   obtain ⟨c, hc⟩ : ∃ c, c = l[k] := ⟨_, rfl⟩
   have ht : l.take (k + 1) = l.take k ++ [c] := by rw [hc, List.take_append_getElem hlt]
   obtain ⟨x, rfl, hx⟩ := hcell k hlt
   rw [← hc] at hx
   have hx := hown.keeps.at0 hx
   obtain ⟨M', hM'⟩ : ∃ M', M' = M ++ l.take k := ⟨_, rfl⟩
   rw [← hM'] at hown
   have hnx : M ++ l.take (k + 1) = M' ++ [c] := by rw [ht, hM', List.append_assoc]
   have hq2 : Keeps (fun _ => False) wr (wr.alloc (.cells #[.int .u8 (c.toNat : Int)] 5)) := (Keeps.refl _ _).alloc _
   have htail := tailOf_length M'
   obtain ⟨v', w4, hrun, ho4⟩ := (hown.quiet hq2).grow (one_byte wr c) (by simp only [List.length_cons, List.length_nil]; omega)
   obtain ⟨_, aa, ac, rfl, q1, q2⟩ := hown.bytes (v := u5) (l := tailOf M') (by simp)
   obtain ⟨_, aa', ac', rfl, q3, q4⟩ := ho4.bytes (v := v') (l := tailOf M' ++ [c]) (by simp)
   have hl1 : (tailOf M' ++ [c]).length = (tailOf M').length + 1 := by simp
   by_cases h63 : (tailOf M').length = 63
   ·have h64 : (tailOf M' ++ [c]).length = 64 := by omega
    have hrd := (ho4.bytes (v := .slice aa' (tailOf M' ++ [c]).length ac') (l := tailOf M' ++ [c]) (by simp)).1
    obtain ⟨hT, hH⟩ := tail_full M' c h63
    obtain ⟨hl8, hw8⟩ : (hashH M').length = 8 ∧ Words (hashH M') := ⟨hashH_length M', hashN_words _ _⟩
    have hd := ho4.drop
    have hth := hd.there8 hl8
    have HCALL := hyd (rblock_calls hl8 hw8 hrd h64)
    have HN := hyd (show ∀ w5, Keeps (fun _ => False) w4 w5 → Own w (w5.setCells w.heap.size 0 ((blockV kWords (hashH M') (tailOf M' ++ [c])).map u32v)) [rBytes _ (.slice none 0 0) (tailOf (M ++ l.take (k + 1))), rObj _ w.heap.size (.cells (rStV (hashH (M ++ l.take (k + 1))) M.length (.slice ta tl tc)).toArray 214 (0, 0)), rObj _ (w.heap.size + 1) (.cells #[.int .u32 0, .int .u32 0, .int .u32 0, .int .u32 0, .int .u32 0, .int .u32 0, .int .u32 0, .int .u32 0, .int .u64 0, .slice none 0 0] 214)] from fun w5 hk5 => by
     rw [hnx, hT, hH]
     exact ((hd.quiet hk5).store8 hl8 (by rw [blockV_length]; exact hl8)).nilBytes)
    have HTH := hyd (show ∀ w5, Keeps (fun _ => False) w4 w5 → w5.there w.heap.size 0 8 from fun w5 hk5 => ((hd.quiet hk5).there8 hl8).2)
    have HRG := hyd hth.1
    have HI8 := hyd (show (Tryz.prog.info? 212).map (·.size) = some ((hashH M').map u32v).length by rw [List.length_map, hl8]; kernel_rfl)
    have HB8 := hyd (show (Tryz.prog.info? 212).map (·.size) = some (((blockV kWords (hashH M') (tailOf M' ++ [c])).map u32v).toArray).size ∧ ((((blockV kWords (hashH M') (tailOf M' ++ [c])).map u32v).toArray).size = 8) ∧ (((blockV kWords (hashH M') (tailOf M' ++ [c])).map u32v).toArray).all (·.oneCell') = true by
     have hz : (((blockV kWords (hashH M') (tailOf M' ++ [c])).map u32v).toArray).size = 8 := by rw [List.size_toArray, List.length_map, blockV_length, hl8]
     exact ⟨by rw [hz]; kernel_rfl, hz, all_oneCell_toArray (copy_one _)⟩)
    rw [h64] at HCALL hrun
    have Hrun := hyd hrun
    have HX := hyd hlt
    obtain ⟨nv, hnv⟩ : ∃ nv, nv = (blockV kWords (hashH M') (tailOf M' ++ [c])).map u32v := ⟨_, rfl⟩
    rw [← hnv] at HN HB8 HCALL
    obtain ⟨hv, hhv⟩ : ∃ hv, hv = (hashH M').map u32v := ⟨_, rfl⟩
    rw [← hhv] at HRG HI8 HCALL
    rw [h63] at Hrun ⊢
    generalize c.toNat = cc at *
    clear hl8 hw8 hd hth hrd hT hH h63 h64 hl1 q1 q2 q3 q4 ho4 hrun htail hq2 hnx hM' hown ht hc hlt hk hcell hnv hhv
    go_wp2_with (first | (at_builtin; refine wpList_append_run rfl _ _ _ _ rfl rfl rfl Hrun.out ?_) | (refine wpList_load_mid rfl 212 _ rfl w.heap.size 0 rfl hv _ HRG.out Tryz.underlying212 rfl HI8.out ?_))
    refine HCALL.out.mono ?_
    rintro e w5 ⟨rfl, hk5⟩
    have HN5 := hyd (HN.out w5 hk5)
    have HT5 := hyd (HTH.out w5 hk5)
    clear HN HTH hk5 HCALL
    go_wp2_with (refine wpList_store_mid rfl 212 _ _ rfl w.heap.size 0 nv.toArray rfl rfl (by rw [HB8.out.2.1]; exact HT5.out) HB8.out.1 HB8.out.2.2 ?_)
    go_roundw
    case rel => exact ⟨k + 1, rfl, HX.out, HN5.out⟩
    case measure => have := HX.out; simp only [intOf]; omega
   ·obtain ⟨hT, hH⟩ := tail_more M' c h63
    have hN : Own w w4 [rBytes _ (.slice aa' (tailOf M' ++ [c]).length ac') (tailOf (M ++ l.take (k + 1))), rObj _ w.heap.size (.cells (rStV (hashH (M ++ l.take (k + 1))) M.length (.slice ta tl tc)).toArray 214 (0, 0)), rObj _ (w.heap.size + 1) (.cells #[.int .u32 0, .int .u32 0, .int .u32 0, .int .u32 0, .int .u32 0, .int .u32 0, .int .u32 0, .int .u32 0, .int .u64 0, .slice none 0 0] 214)] := by
     rw [hnx, hT, hH]; exact ho4
    have hne : (((tailOf M' ++ [c]).length : Int) == 64) = false := by simp only [beq_eq_false_iff_ne]; omega
    have HN := hyd hN
    have Hrun := hyd hrun
    have HX := hyd hlt
    generalize (tailOf M' ++ [c]).length = n4 at *
    generalize (tailOf M').length = n3 at *
    generalize c.toNat = cc at *
    clear hT hH h63 hl1 q1 q2 q3 q4 ho4 hrun htail hq2 hnx hM' hown ht hc hlt hk hcell hN
    go_wp2_with (at_builtin; refine wpList_append_run rfl _ _ _ _ rfl rfl rfl Hrun.out ?_)
    go_roundw
    case rel => exact ⟨k + 1, rfl, HX.out, HN.out⟩
    case measure => have := HX.out; simp only [intOf]; omega
  ·obtain rfl : k = l.length := by omega
   rw [List.take_length] at hown
   obtain ⟨_, aa, ac, rfl, q1, q2⟩ := hown.bytes (v := u5) (l := tailOf (M ++ l)) (by simp)
   have hsb := (hown.at (b := w.heap.size) (o := .cells (rStV (hashH (M ++ l)) M.length (.slice ta tl tc)).toArray 214 (0, 0)) (by simp)).1
   have hl8 := hashH_length (M ++ l)
   obtain ⟨g0, g1, g2, g3, g4, g5, g6, g7, hg⟩ := list8 hl8
   have c8 : wr.cell? ⟨w.heap.size, 8, none⟩ = some (.int .u64 (M.length : Int)) := cell_at hsb (by rw [hg]; rfl)
   have c9 : wr.cell? ⟨w.heap.size, 9, none⟩ = some (.slice ta tl tc) := cell_at hsb (by rw [hg]; rfl)
   have f8 := free_at hsb 8
   have f9 := free_at hsb 9
   have hb := HB.out
   have e1 : IntKind.u64.wrap (l.length : Int) = (l.length : Int) := IntWalk.u64_in _ (by omega)
   have e2 : IntKind.u64.wrap ((M.length : Int) + (l.length : Int)) = ((M ++ l).length : Int) := by rw [IntWalk.u64_in _ (by omega), List.length_append]; omega
   have hS := (hown.swap.store 8 (.int .u64 ((M ++ l).length : Int))).store 9 (.slice aa (tailOf (M ++ l)).length ac)
   rw [hg, store89_eq, ← hg] at hS
   have HS := hyd hS
   obtain ⟨n5, hn5⟩ : ∃ n, n = (tailOf (M ++ l)).length := ⟨_, rfl⟩
   obtain ⟨n6, hn6⟩ : ∃ n, n = (M ++ l).length := ⟨_, rfl⟩
   rw [← hn5, ← hn6] at HS
   rw [← hn6] at e2
   rw [← hn5]
   have HN := hyd (And.intro hn5 hn6)
   have HL8 := hyd hl8
   clear hS hg hsb hl8 hown q1 q2 hn5 hn6 hlt hk hb j2 hcell g0 g1 g2 g3 g4 g5 g6 g7
   go_upto_region 11 with fail
   have HSB := hyd (HS.out.at (b := w.heap.size) (o := .cells (rStV (hashH (M ++ l)) n6 (.slice aa n5 ac)).toArray 214 (0, 0)) (by simp)).1
   have HRB := hyd (HS.out.at (b := w.heap.size + 1) (o := .cells #[.int .u32 0, .int .u32 0, .int .u32 0, .int .u32 0, .int .u32 0, .int .u32 0, .int .u32 0, .int .u32 0, .int .u64 0, .slice none 0 0] 214) (by simp)).1
   have HK := hyd HS.out.keeps
   have HRD := hyd (HS.out.bytes (v := .slice aa n5 ac) (l := tailOf (M ++ l)) (by simp)).1
   obtain ⟨H, hH⟩ : ∃ H, H = hashH (M ++ l) := ⟨_, rfl⟩
   rw [← hH] at HSB HL8
   have HH := hyd hH
   clear hH
   generalize (wr.setCell ⟨w.heap.size, 8, none⟩ (.int .u64 (n6 : Int))).setCell ⟨w.heap.size, 9, none⟩ (.slice aa n5 ac) = w7 at *
   obtain ⟨nc, hnc⟩ : ∃ nc, nc = (rStV H n6 (.slice aa n5 ac)).toArray := ⟨_, rfl⟩
   rw [← hnc] at HSB
   have HI := hyd (show (Tryz.prog.info? 214).map (·.size) = some nc.size ∧ nc.size = 10 ∧ nc.all (·.oneCell') = true by
    have hz : nc.size = 10 := by rw [hnc, List.size_toArray]; unfold rStV; rw [List.length_append, List.length_map, HL8.out]; rfl
    refine ⟨by rw [hz]; kernel_rfl, hz, ?_⟩
    rw [hnc]; exact all_oneCell_toArray (rStV_one _ _ _ _ _))
   have HNC := hyd hnc
   clear hnc
   go_wp2_with (first | (refine wpList_load_row rfl 214 _ rfl w.heap.size rfl 214 nc (0, 0) _ HSB.out Tryz.underlying214 rfl HI.out.1 ?_) | (refine wpList_store_row rfl 214 _ _ rfl (w.heap.size + 1) nc rfl rfl 214 _ HRB.out HI.out.1 HI.out.2.1.symm HI.out.2.2 ?_))
   have hh : (w7.setRow (w.heap.size + 1) nc).heap[w.heap.size + 1]? = some (.cells nc 214 (0, 0)) := setRow_heap w7 _ _ nc 214 _ HRB.out
   refine bodyPost_ret (results_cell_row Tryz.results144 _ _ (w.heap.size + 1) 214 nc (0, 0) _ rfl hh Tryz.underlying214 rfl HI.out.1) rfl ?_
   have hk := keeps_setRow w7 (w.heap.size + 1) nc
   refine ⟨HK.out.trans hk (fun b hb e => by omega), _, rfl, .slice aa n5 ac, ?_, ?_⟩
   ·rw [HNC.out, HH.out, HN.out.2]
   ·exact (HS.out.third.setRow nc).owns (by simp)
end Go.Proofs.YtddnikpdmjogiaaGreat
