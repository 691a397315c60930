/- A part of the proof. -/
import Derived.Test.YtddnikpdmjogiaaGreatYd1
import Derived.Test.YtddnikpdmjogiaaGreatYd2
import Derived.Deep.LoopGhost
namespace Go.Proofs.YtddnikpdmjogiaaGreat
set_option linter.unusedVariables false
open Go.RowKit Go.MapKept
theorem pad_more {n k : Nat} (h : k ≤ zerosOf n) : (n + (k + 1)) % 64 = 56 ↔ k = zerosOf n := by unfold zerosOf at *; omega
theorem pad0_mod (M : List UInt8) (k : Nat) : (tailOf (M ++ pad0 k)).length = (M.length + (k + 1)) % 64 := by
 rw [tailOf_length, List.length_append, pad0_length]
def partOf (S : List UInt8) (q : Nat) : List UInt8 := S.take q ++ List.replicate (32 - q) 0
theorem partOf_length (S : List UInt8) (hS : S.length = 32) {q : Nat} (hq : q ≤ 32) : (partOf S q).length = 32 := by
 unfold partOf; rw [List.length_append, List.length_take, List.length_replicate]; omega
theorem partOf_next (S : List UInt8) (hS : S.length = 32) {q : Nat} (hq : q < 32) {c : UInt8} (hc : S[q]? = some c) : partOf S (q + 1) = (partOf S q).set q c := by
 have h32 : q < S.length := by omega
 have ht : S.take (q + 1) = S.take q ++ [c] := by rw [List.take_add_one, hc]; rfl
 have hl : (S.take q).length = q := by rw [List.length_take]; omega
 unfold partOf
 rw [ht, show 32 - q = (32 - (q + 1)) + 1 by omega, List.replicate_succ, List.set_append_right _ _ (by omega), hl, Nat.sub_self, List.set_cons_zero, List.append_assoc]
 rfl
theorem partOf_end (S : List UInt8) (hS : S.length = 32) : partOf S 32 = S := by
 unfold partOf; rw [List.take_of_length_le (by omega)]; simp
theorem flat4_get : ∀ (Y : List Int) (i j : Nat), i < Y.length → j < 4 → (Y.flatMap (fun x => putOf x.toNat 4))[4 * i + j]? = (putOf (wAt Y i).toNat 4)[j]?
 | [], i, j, h, _ => by simp at h
 | y :: Y, 0, j, _, hj => by
  rw [List.flatMap_cons, List.getElem?_append_left (by rw [putOf_length]; omega), Nat.mul_zero, Nat.zero_add]; rfl
 | y :: Y, i + 1, j, h, hj => by
  rw [List.flatMap_cons, List.getElem?_append_right (by rw [putOf_length]; omega), putOf_length, show 4 * (i + 1) + j - 4 = 4 * i + j by omega, flat4_get Y i j (by simpa using h) hj]
  rfl
theorem u8set (L : List UInt8) (q : Nat) (c : UInt8) : ((L.map u8v).toArray).setIfInBounds q (.int .u8 (c.toNat : Int)) = ((L.set q c).map u8v).toArray := by
 simp [List.map_set, u8v]
variable {w wr : World} {rs : List (Res w.heap.size)}
theorem Own.storeB {b q : Nat} {c : UInt8} {L : List UInt8} (h : Own w wr (rObj w.heap.size b (.cells (L.map u8v).toArray 100 (0, 0)) :: rs)) :
  Own w (wr.setCell ⟨b, q, none⟩ (.int .u8 (c.toNat : Int))) (rObj w.heap.size b (.cells ((L.set q c).map u8v).toArray 100 (0, 0)) :: rs) := by
 have := h.store q (.int .u8 (c.toNat : Int))
 rwa [u8set] at this
theorem rSt_row (H : List Int) (n : Int) (a : Option Addr) (k c : Nat) (hH : H.length = 8) : (Tryz.prog.info? 214).map (·.size) = some (rStV H n (.slice a k c)).toArray.size ∧ (rStV H n (.slice a k c)).toArray.size = 10 ∧ (rStV H n (.slice a k c)).toArray.all (·.oneCell') = true := by
 have hz : (rStV H n (.slice a k c)).toArray.size = 10 := by rw [List.size_toArray]; unfold rStV; rw [List.length_append, List.length_map, hH]; rfl
 exact ⟨by rw [hz]; kernel_rfl, hz, all_oneCell_toArray (rStV_one _ _ _ _ _)⟩
def ClRel (w wx : World) (M : List UInt8) : Prop := ∃ tv, Own w wx [rBytes _ tv (tailOf M), rObj _ w.heap.size (.cells (rStV (hashH M) M.length tv).toArray 214 (0, 0)), rObj _ (w.heap.size + 1) (.cells (Array.replicate 32 (.int .u8 0)) 100)]
theorem ClRel.put {M : List UInt8} {w4 wx : World} {tv : Value} {cs : Array Value} (hx : Own w wx [rObj _ w.heap.size (.cells cs 214 (0, 0)), rObj _ (w.heap.size + 1) (.cells (Array.replicate 32 (.int .u8 0)) 100)]) (hk : Keeps (fun _ => False) wx w4) (ho : Owns w4 wx.heap.size tv (tailOf M)) :
  ClRel w (w4.setRow w.heap.size (rStV (hashH M) M.length tv).toArray) M :=
 ⟨tv, ((hx.addBytes ho hk).swap.setRow _).swap⟩
set_option maxRecDepth 100000 in
set_option maxHeartbeats 4000000 in
theorem rclose_calls {v : Value} {M : List UInt8} (hs : RSt w v M) (hb : M.length < 70368744177664) : Calls Tryz.prog 143 #[v] w (QuietP w (.agg ((sumOf M).map u8v).toArray)) := by
 obtain ⟨t0, rfl, ht⟩ := hs
 obtain ⟨ta, tc, rfl, _, _⟩ := ht.form
 obtain ⟨sc, hsc⟩ : ∃ sc : Array Value, sc = (rStV (hashH M) M.length (.slice ta (tailOf M).length tc)).toArray := ⟨_, rfl⟩
 have hi := rSt_row (hashH M) M.length ta (tailOf M).length tc (hashH_length M)
 have h8 : sc[8]? = some (.int .u64 (M.length : Int)) := by
  obtain ⟨g0, g1, g2, g3, g4, g5, g6, g7, hg⟩ := list8 (hashH_length M)
  rw [hsc, hg]; rfl
 have hst : RSt w (.agg sc) M := ⟨_, by rw [hsc], ht⟩
 rw [← hsc] at hi ⊢
 have HST := hyd hst
 have HI := hyd hi
 have HB := hyd hb
 clear ht hsc hst hi
 obtain ⟨n8, hn8⟩ : ∃ n8, n8 = 8 * M.length := ⟨_, rfl⟩
 have hn8b : n8 < 18446744073709551616 := by omega
 have HN8 := hyd (And.intro hn8 hn8b)
 have e1 : IntKind.u64.wrap ((M.length : Int) * 8) = (n8 : Int) := by rw [IntWalk.u64_in _ (by omega)]; omega
 clear hb hn8 hn8b
 go_enter Tryz.func143, Tryz.ntmps143
 go_upto_region 1 with fail
 have o := ((Own.start w).alloc (.cells sc 214)).alloc (.cells (Array.replicate 32 (.int .u8 0)) 100)
 have o2 := o.swap
 rw [World.size_alloc] at o2
 have hsb := (o2.at (b := w.heap.size) (o := .cells sc 214) (by simp)).1
 have c8 := cell_at (i := 8) (v := .int .u64 (M.length : Int)) hsb (by simpa using h8)
 have HSB := hyd hsb
 have HO := hyd o2
 clear o o2 hsb h8
 change Code.wp _ _ _ _ ((w.alloc (.cells sc 214)).alloc (.cells (Array.replicate 32 (.int .u8 0)) 100))
 generalize (w.alloc (.cells sc 214)).alloc (.cells (Array.replicate 32 (.int .u8 0)) 100) = w2 at *
 go_upto_region 2 with fail
 have HW2 := hyd (rwrite_calls (pv := .slice (some ⟨w2.heap.size, 0, none⟩) 1 1) (l := [128]) (HST.out.keep (HO.out.keeps.trans ((Keeps.refl _ w2).alloc (.cells #[.int .u8 128] 5)) (fun _ _ e => e))) (one_byte w2 128) (by have := HB.out; simp only [List.length_cons, List.length_nil]; omega))
 go_wp2_with (first | (refine wpList_load_row rfl 214 _ rfl w.heap.size rfl 214 sc (0, 0) _ HSB.out Tryz.underlying214 rfl HI.out.1 ?_))
 refine HW2.out.mono ?_
 rintro e w3 ⟨hk3, v3, rfl, t3, rfl, ho3⟩
 obtain ⟨ta3, tc3, rfl, _, _⟩ := ho3.bytes.reads.form
 have hk23 : Keeps (fun _ => False) w2 w3 := ((Keeps.refl _ w2).alloc _).trans hk3 (fun _ _ e => e)
 have ho3 := ho3.base (base' := w2.heap.size) (by rw [World.size_alloc]; omega)
 have hr3 := rSt_row (hashH (M ++ [128])) (M ++ [128]).length ta3 (tailOf (M ++ [128])).length tc3 (hashH_length _)
 have HC := hyd (ClRel.put (M := M ++ [128]) HO.out hk23 ho3)
 have hsb3 := hk23.at HSB.out (fun e => e)
 have HSB3 := hyd hsb3
 have HI3 := hyd hr3
 clear HW2 hk3 hk23 ho3 hr3 hsb3 HSB c8 HO
 generalize (rStV (hashH (M ++ [128])) (M ++ [128]).length (.slice ta3 (tailOf (M ++ [128])).length tc3)).toArray = s3 at *
 go_wp2_with (refine wpList_store_row rfl 214 _ _ rfl w.heap.size s3 rfl rfl 214 _ HSB3.out HI3.out.1 (by rw [HI.out.2.1, HI3.out.2.1]) HI3.out.2.2 ?_)
 clear HSB3 HI3
 generalize w3.setRow w.heap.size s3 = w4 at *
 have HBB := HB.out
 have hzo : zerosOf M.length < 64 := by unfold zerosOf; omega
 have HZO := hyd hzo
 clear hzo HBB
 simp only [Act.put]
 go_loopg [] 100 (fun gk wx => ∃ k : Nat, gk + k = 100 ∧ k ≤ zerosOf M.length ∧ ClRel w wx (M ++ pad0 k))
 case atStart => exact ⟨0, by omega, by omega, HC.out⟩
 case round =>
  obtain ⟨k, hgk, hk, tv, hown⟩ := hrel
  clear HC
  have hlen : (M ++ pad0 k).length ≤ M.length + 65 := by rw [List.length_append, pad0_length]; have := HZO.out; omega
  obtain ⟨hrd, ta4, tc4, rfl, _, _⟩ := hown.bytes (v := tv) (l := tailOf (M ++ pad0 k)) (by simp)
  have hr4 := rSt_row (hashH (M ++ pad0 k)) (M ++ pad0 k).length ta4 (tailOf (M ++ pad0 k)).length tc4 (hashH_length _)
  have hsb := (hown.at (b := w.heap.size) (o := .cells (rStV (hashH (M ++ pad0 k)) (M ++ pad0 k).length (.slice ta4 (tailOf (M ++ pad0 k)).length tc4)).toArray 214 (0, 0)) (by simp)).1
  have c9 := cell_at (i := 9) (v := .slice ta4 (tailOf (M ++ pad0 k)).length tc4) hsb (by
   obtain ⟨g0, g1, g2, g3, g4, g5, g6, g7, hg⟩ := list8 (hashH_length (M ++ pad0 k))
   rw [hg]; rfl)
  have hst : RSt wr (.agg (rStV (hashH (M ++ pad0 k)) (M ++ pad0 k).length (.slice ta4 (tailOf (M ++ pad0 k)).length tc4)).toArray) (M ++ pad0 k) := ⟨_, rfl, hrd⟩
  have hmod := pad0_mod M k
  have hpm := pad_more hk
  have HO := hyd hown
  have HSB := hyd hsb
  have HI4 := hyd hr4
  have HST4 := hyd hst
  have HLEN := hyd hlen
  have HK := hyd (And.intro hgk hk)
  clear hown hsb hr4 hst hrd hlen hgk hk
  obtain ⟨tn, htn⟩ : ∃ tn, tn = (tailOf (M ++ pad0 k)).length := ⟨_, rfl⟩
  rw [← htn] at c9 HO HSB HI4 HST4 hmod
  rw [← hmod] at hpm
  by_cases hlt : k = zerosOf M.length
  ·have hne : ((tn : Int) != 56) = false := by
    have : tn = 56 := hpm.2 hlt
    rw [this]; rfl
   have HX := hyd hlt
   obtain ⟨s4, hs4⟩ : ∃ s, s = (rStV (hashH (M ++ pad0 k)) (M ++ pad0 k).length (.slice ta4 tn tc4)).toArray := ⟨_, rfl⟩
   rw [← hs4] at HSB HI4 HST4 HO
   clear hlt hpm hmod hs4 htn
   go_upto_region 5 with fail
   go_cut [] from 21 to 24 (fun wx => ClRel w wx (M ++ padOf M.length))
   case first =>
    have HO5 := hyd HO.out.drew
    have HSB5 := hyd ((HO5.out.at (b := w.heap.size) (o := .cells s4 214 (0, 0)) (by simp)).1)
    have HST5 := hyd (HST4.out.keep (Keeps.refl _ wr).drew)
    have HFIN := hyd (show ∀ (w6 w7 : World) (t7 : Value), Keeps (fun _ => False) wr.drew w6 → Keeps (fun _ => False) w6 w7 → Owns w7 w6.heap.size t7 (tailOf (M ++ pad0 k ++ putOf n8 8)) → ClRel w (w7.setRow w.heap.size (rStV (hashH (M ++ pad0 k ++ putOf n8 8)) (M ++ pad0 k ++ putOf n8 8).length t7).toArray) (M ++ padOf M.length) from fun w6 w7 t7 hk6 hk7 ho7 => by
     have := ClRel.put (M := M ++ pad0 k ++ putOf n8 8) (HO5.out.quiet hk6).drop hk7 ho7
     rw [show M ++ padOf M.length = M ++ pad0 k ++ putOf n8 8 by rw [HX.out, HN8.out.1, List.append_assoc]; rfl]
     exact this)
    clear HO HSB HST4 HO5 c9
    refine wp_region_held_drew (S := fun _ => True) (by kernel_rfl) trivial (fun hHeld => ?_)
    generalize wr.drew = w5 at *
    refine tkH 1 22 (.int .u64 (n8 : Int)) rfl (by kernel_rfl) (by kernel_rfl) (by kernel_rfl) (fun _ _ _ h => h) (Or.inl ⟨by rfl, by intro w hSw; go_simp⟩) trivial ?_
    try simp only [Act.put, sA, sZ, sS]
    refine wpAnyH_ready (rs := [0, 2]) (by kernel_rfl) (by simp) ?_
    refine AllReadyH.cons (o := { dst := some 21, op := _, type := _, pos := _, after := _, guard := _ }) rfl (fun K hK => ?_) (AllReadyH.cons (o := { dst := some 23, op := _, type := _, pos := _, after := _, guard := _ }) rfl (fun K hK => ?_) AllReadyH.nil)
    ·refine step_load_row rfl 214 _ rfl w.heap.size rfl 214 s4 (0, 0) _ HSB5.out Tryz.underlying214 rfl HI4.out.1 ?_
     refine hK.out _ _ trivial (fun _ => ?_)
     clear hK K
     try simp only [Act.put, sA, sZ, sS]
     refine wpAnyH_ready (rs := [2]) (by kernel_rfl) (by simp) ?_
     refine AllReadyH.cons (o := { dst := some 23, op := _, type := _, pos := _, after := _, guard := _ }) rfl (fun K hK => ?_) AllReadyH.nil
     refine step_wanted' rfl ?_
     go_simp
     go_at_call 108
     refine (rput_calls w5 n8 8 HN8.out.2 (by omega) (by omega)).mono ?_
     rintro e w6 ⟨v6, rfl, ho6, hk6⟩
     have hrd6 := ho6.bytes.reads
     refine hK.out _ _ trivial (fun _ => ?_)
     clear hK K
     try simp only [Act.put, sA, sZ, sS]
     refine wpAnyH_ready (rs := [3]) (by kernel_rfl) (by simp) ?_
     refine AllReadyH.cons (o := { dst := some 24, op := _, type := _, pos := _, after := _, guard := _ }) rfl (fun K hK => ?_) AllReadyH.nil
     refine step_wanted' rfl ?_
     go_simp
     go_at_call 144
     refine (rwrite_calls (HST5.out.keep hk6) hrd6 (by have := HB.out; have := HLEN.out; rw [putOf_length]; omega)).mono ?_
     rintro e w7 ⟨hk7, v7, rfl, t7, rfl, ho7⟩
     obtain ⟨ta7, tc7, rfl, _, _⟩ := ho7.bytes.reads.form
     have hF := HFIN.out w6 w7 _ hk6 hk7 ho7
     have hr7 := rSt_row (hashH (M ++ pad0 k ++ putOf n8 8)) (M ++ pad0 k ++ putOf n8 8).length ta7 (tailOf (M ++ pad0 k ++ putOf n8 8)).length tc7 (hashH_length _)
     generalize (rStV (hashH (M ++ pad0 k ++ putOf n8 8)) (M ++ pad0 k ++ putOf n8 8).length (.slice ta7 (tailOf (M ++ pad0 k ++ putOf n8 8)).length tc7)).toArray = s7 at hF hr7 ⊢
     have hsb7 := hk7.at (hk6.at HSB5.out (fun e => e)) (fun e => e)
     refine hK.out _ _ trivial (fun _ => ?_)
     clear hK K
     try simp only [Act.put, sA, sZ, sS]
     refine wpAnyH_ready (rs := [4]) (by kernel_rfl) (by simp) ?_
     refine AllReadyH.cons (o := { dst := none, op := _, type := _, pos := _, after := _, guard := _ }) rfl (fun K hK => ?_) AllReadyH.nil
     refine step_store_row rfl 214 _ _ rfl w.heap.size _ rfl rfl 214 _ hsb7 hr7.1 (by rw [HI4.out.2.1, hr7.2.1]) hr7.2.2 ?_
     refine hK.out _ _ trivial (fun _ => ?_)
     clear hK K
     refine wpAnyH_done (by kernel_rfl) ?_ _
     go_wp2_with fail
     go_meet
     exact hF
    ·refine step_wanted' rfl ?_
     go_simp
     go_at_call 108
     refine (rput_calls w5 n8 8 HN8.out.2 (by omega) (by omega)).mono ?_
     rintro e w6 ⟨v6, rfl, ho6, hk6⟩
     have hrd6 := ho6.bytes.reads
     refine hK.out _ _ trivial (fun _ => ?_)
     clear hK K
     try simp only [Act.put, sA, sZ, sS]
     refine wpAnyH_ready (rs := [0]) (by kernel_rfl) (by simp) ?_
     refine AllReadyH.cons (o := { dst := some 21, op := _, type := _, pos := _, after := _, guard := _ }) rfl (fun K hK => ?_) AllReadyH.nil
     refine step_load_row rfl 214 _ rfl w.heap.size rfl 214 s4 (0, 0) _ (hk6.at HSB5.out (fun e => e)) Tryz.underlying214 rfl HI4.out.1 ?_
     refine hK.out _ _ trivial (fun _ => ?_)
     clear hK K
     try simp only [Act.put, sA, sZ, sS]
     refine wpAnyH_ready (rs := [3]) (by kernel_rfl) (by simp) ?_
     refine AllReadyH.cons (o := { dst := some 24, op := _, type := _, pos := _, after := _, guard := _ }) rfl (fun K hK => ?_) AllReadyH.nil
     refine step_wanted' rfl ?_
     go_simp
     go_at_call 144
     refine (rwrite_calls (HST5.out.keep hk6) hrd6 (by have := HB.out; have := HLEN.out; rw [putOf_length]; omega)).mono ?_
     rintro e w7 ⟨hk7, v7, rfl, t7, rfl, ho7⟩
     obtain ⟨ta7, tc7, rfl, _, _⟩ := ho7.bytes.reads.form
     have hF := HFIN.out w6 w7 _ hk6 hk7 ho7
     have hr7 := rSt_row (hashH (M ++ pad0 k ++ putOf n8 8)) (M ++ pad0 k ++ putOf n8 8).length ta7 (tailOf (M ++ pad0 k ++ putOf n8 8)).length tc7 (hashH_length _)
     generalize (rStV (hashH (M ++ pad0 k ++ putOf n8 8)) (M ++ pad0 k ++ putOf n8 8).length (.slice ta7 (tailOf (M ++ pad0 k ++ putOf n8 8)).length tc7)).toArray = s7 at hF hr7 ⊢
     have hsb7 := hk7.at (hk6.at HSB5.out (fun e => e)) (fun e => e)
     refine hK.out _ _ trivial (fun _ => ?_)
     clear hK K
     try simp only [Act.put, sA, sZ, sS]
     refine wpAnyH_ready (rs := [4]) (by kernel_rfl) (by simp) ?_
     refine AllReadyH.cons (o := { dst := none, op := _, type := _, pos := _, after := _, guard := _ }) rfl (fun K hK => ?_) AllReadyH.nil
     refine step_store_row rfl 214 _ _ rfl w.heap.size _ rfl rfl 214 _ hsb7 hr7.1 (by rw [HI4.out.2.1, hr7.2.1]) hr7.2.2 ?_
     refine hK.out _ _ trivial (fun _ => ?_)
     clear hK K
     refine wpAnyH_done (by kernel_rfl) ?_ _
     go_wp2_with fail
     go_meet
     exact hF
   case rest =>
    obtain ⟨tv, hcut⟩ := hcut
    have ho := hcut.drop
    obtain ⟨Y, hY⟩ : ∃ Y, Y = hashH (M ++ padOf M.length) := ⟨_, rfl⟩
    have hYl : Y.length = 8 := by rw [hY]; exact hashH_length _
    have hYw : Words Y := by rw [hY]; exact hashN_words _ _
    have hS : Y.flatMap (fun x => putOf x.toNat 4) = sumOf M := by rw [hY]; rfl
    rw [← hY] at ho
    have h32 : (sumOf M).length = 32 := sumOf_length M
    obtain ⟨S, hSe⟩ : ∃ S, S = sumOf M := ⟨_, rfl⟩
    rw [← hSe] at hS h32
    have HSE := hyd hSe
    obtain ⟨sl, hsl⟩ : ∃ sl, sl = (rStV Y (M ++ padOf M.length).length tv).toArray := ⟨_, rfl⟩
    rw [← hsl] at ho
    have hcells : ∀ i, i < 8 → sl[i]? = some (u32v (wAt Y i)) := fun i hi => by
     rw [hsl, List.getElem?_toArray, rStV, List.getElem?_append_left (by rw [List.length_map, hYl]; exact hi), List.getElem?_map, wAt_eq (by omega)]; rfl
    have HCL := hyd hcells
    have HYW := hyd hYw
    have HYL := hyd hYl
    have HS := hyd hS
    have H32 := hyd h32
    have HO6 := hyd ho
    clear hcut hY hYl hYw hS h32 hSe hsl hcells ho HO HSB HST4 c9
    go_upto_region 7 with fail
    have H7 := hyd (show Own w (wc.alloc (.cells (Array.replicate 32 (.int .u8 0)) 100)) [rObj _ wc.heap.size (.cells ((partOf S (4 * 0)).map u8v).toArray 100 (0, 0)), rObj _ w.heap.size (.cells sl 214 (0, 0)), rObj _ (w.heap.size + 1) (.cells (Array.replicate 32 (.int .u8 0)) 100)] from HO6.out.alloc _)
    change Code.wp _ _ _ _ (wc.alloc (.cells (Array.replicate 32 (.int .u8 0)) 100))
    clear HO6
    generalize wc.alloc (.cells (Array.replicate 32 (.int .u8 0)) 100) = w7 at *
    generalize wc.heap.size = db at *
    go_wp2_with fail
    go_loopw [5] (fun i wx => ∃ n : Nat, i = .int .i64 (n : Int) ∧ n ≤ 8 ∧ Own w wx [rObj _ db (.cells ((partOf S (4 * n)).map u8v).toArray 100 (0, 0)), rObj _ w.heap.size (.cells sl 214 (0, 0)), rObj _ (w.heap.size + 1) (.cells (Array.replicate 32 (.int .u8 0)) 100)]) (fun i _ => 8 - (intOf i).toNat)
    case atStart => exact ⟨0, rfl, by omega, H7.out⟩
    case round =>
     obtain ⟨n, rfl, hn, hown⟩ := hrel
     clear H7
     have j0 : (0 : Int) ≤ n := by omega
     by_cases hn8 : n < 8
     ·have j1 : (n : Int) < 8 := by omega
      have hsb := (hown.at (b := w.heap.size) (o := .cells sl 214 (0, 0)) (by simp)).1
      have cn := cell_at hsb (HCL.out n hn8)
      unfold u32v at cn
      obtain ⟨m, hm⟩ : ∃ m : Nat, (m : Int) = wAt Y n := ⟨(wAt Y n).toNat, by
       have := HYW.out (wAt Y n) (List.mem_of_getElem? (wAt_eq (by rw [HYL.out]; exact hn8)))
       omega⟩
      have hm32 : m < 4294967296 := by
       have := HYW.out (wAt Y n) (List.mem_of_getElem? (wAt_eq (by rw [HYL.out]; exact hn8)))
       omega
      have hget : ∀ q, q < 4 → S[4 * n + q]? = (putOf m 4)[q]? := fun q hq => by
       rw [← HS.out, flat4_get Y n q (by rw [HYL.out]; exact hn8) hq, ← hm]; rfl
      have hcv : IntKind.u64.wrap (wAt Y n) = (m : Int) := by rw [← hm]; exact IntWalk.u64_in _ (by omega)
      have HG := hyd hget
      have HO7 := hyd hown
      have HN8 := hyd hn8
      have HP := hyd (rput_calls wr m 4 (by omega) (by omega) (by omega))
      generalize wAt Y n = hw at *
      clear hsb hown hget hm hm32 hn hn8
      go_wp2_with fail
      refine HP.out.mono ?_
      rintro e w8 ⟨v8, rfl, ho8, hk8⟩
      obtain ⟨ba, bc, rfl, _, _⟩ := ho8.bytes.reads.form
      have H8 := hyd (show Own w w8 [rObj _ db (.cells ((partOf S (4 * n + 0)).map u8v).toArray 100 (0, 0)), rBytes _ (.slice ba 4 bc) (putOf m 4), rObj _ w.heap.size (.cells sl 214 (0, 0)), rObj _ (w.heap.size + 1) (.cells (Array.replicate 32 (.int .u8 0)) 100)] from (HO7.out.addBytes ho8 hk8).swap)
      rw [putOf_length]
      clear ho8 hk8 HP HO7
      go_wp2_with fail
      go_loopw [7] (fun j wx => ∃ q : Nat, j = .int .i64 (q : Int) ∧ q ≤ 4 ∧ Own w wx [rObj _ db (.cells ((partOf S (4 * n + q)).map u8v).toArray 100 (0, 0)), rBytes _ (.slice ba 4 bc) (putOf m 4), rObj _ w.heap.size (.cells sl 214 (0, 0)), rObj _ (w.heap.size + 1) (.cells (Array.replicate 32 (.int .u8 0)) 100)]) (fun j _ => 4 - (intOf j).toNat)
      case atStart => exact ⟨0, rfl, by omega, H8.out⟩
      case round =>
       obtain ⟨q, rfl, hq, hown⟩ := hrel
       clear H8
       have i0 : (0 : Int) ≤ q := by omega
       by_cases hq4 : q < 4
       ·have i1 : (q : Int) < 4 := by omega
        have hrd := (hown.bytes (v := .slice ba 4 bc) (l := putOf m 4) (by simp)).1
        obtain ⟨x, rfl, hx⟩ := hrd.cell (k := q) rfl (by rw [putOf_length]; exact hq4)
        obtain ⟨c, hc⟩ : ∃ c, c = (putOf m 4)[q]'(by rw [putOf_length]; exact hq4) := ⟨_, rfl⟩
        rw [← hc] at hx
        have hSc : S[4 * n + q]? = some c := by rw [HG.out q hq4, hc]; exact List.getElem?_eq_getElem _
        have hlt32 : 4 * n + q < 32 := by have := HN8.out; omega
        have hnx := partOf_next S H32.out hlt32 hSc
        have hdb := (hown.at (b := db) (o := .cells ((partOf S (4 * n + q)).map u8v).toArray 100 (0, 0)) (by simp)).1
        obtain ⟨z, hz⟩ : ∃ z, (partOf S (4 * n + q))[4 * n + q]? = some z := ⟨_, List.getElem?_eq_getElem (by rw [partOf_length S H32.out (by omega)]; exact hlt32)⟩
        have cd := cell_at (i := 4 * n + q) (v := u8v z) hdb (by simp [hz])
        have fd := free_at hdb (4 * n + q)
        unfold u8v at cd
        have hst := hown.storeB (q := 4 * n + q) (c := c)
        rw [← hnx, Nat.add_assoc] at hst
        have HST := hyd hst
        have HQ := hyd hq4
        obtain ⟨p4, hp4⟩ : ∃ p4, p4 = 4 * n := ⟨_, rfl⟩
        obtain ⟨pq, hpq⟩ : ∃ pq, pq = p4 + q := ⟨_, rfl⟩
        have w1 : IntKind.i64.wrap (4 * (n : Int)) = (p4 : Int) := by rw [IntKind.wrap_i64]; omega
        have w2 : IntKind.i64.wrap ((p4 : Int) + (q : Int)) = (pq : Int) := by rw [IntKind.wrap_i64]; omega
        have k0 : (0 : Int) ≤ pq := by omega
        have k1 : (pq : Int) < 32 := by omega
        rw [← hp4, ← hpq] at cd fd
        rw [show 4 * n + q = pq by omega] at HST
        generalize c.toNat = cc at *
        generalize z.toNat = zz at *
        clear hst hdb hz hnx hlt32 hSc hc hrd hown hq hq4 hp4 hpq
        go_wp2_with fail
        go_roundw
        case rel => exact ⟨q + 1, rfl, HQ.out, HST.out⟩
        case measure => have := HQ.out; simp only [intOf]; omega
       ·obtain rfl : q = 4 := by omega
        rw [show 4 * n + 4 = 4 * (n + 1) by omega] at hown
        have HO9 := hyd hown
        clear hown hq hq4
        rw [show ((4 : Nat) : Int) = 4 from rfl]
        go_wp2_with fail
        go_roundw
        case rel => exact ⟨n + 1, rfl, HN8.out, (HO9.out).drop2⟩
        case measure => have := HN8.out; simp only [intOf]; omega
     ·obtain rfl : n = 8 := by omega
      rw [show ((8 : Nat) : Int) = 8 from rfl]
      rw [show 4 * 8 = 32 from rfl, partOf_end S H32.out] at hown
      obtain ⟨ds, hds⟩ : ∃ ds : Array Value, ds = (S.map u8v).toArray := ⟨_, rfl⟩
      rw [← hds] at hown
      have HDS := hyd hds
      have hdz : ds.size = 32 := by rw [hds]; simp [H32.out]
      have HI := hyd (show (Tryz.prog.info? 100).map (·.size) = some ds.size ∧ ds.size = 32 ∧ ds.all (·.oneCell') = true from ⟨by rw [hdz]; kernel_rfl, hdz, by rw [hds]; exact bytes_one _⟩)
      have HDB := hyd (hown.at (b := db) (o := .cells ds 100 (0, 0)) (by simp)).1
      have HRB := hyd (hown.at (b := w.heap.size + 1) (o := .cells (Array.replicate 32 (.int .u8 0)) 100) (by simp)).1
      have HK := hyd hown.keeps
      clear hown hds hdz hn hn8
      go_wp2_with (first | (refine wpList_load_row rfl 100 _ rfl db rfl 100 ds (0, 0) _ HDB.out Tryz.underlying100 rfl HI.out.1 ?_) | (refine wpList_store_row rfl 100 _ _ rfl (w.heap.size + 1) ds rfl rfl 100 _ HRB.out HI.out.1 (by rw [HI.out.2.1]; rfl) HI.out.2.2 ?_))
      have hh : (wr.setRow (w.heap.size + 1) ds).heap[w.heap.size + 1]? = some (.cells ds 100 (0, 0)) := setRow_heap wr _ _ ds 100 _ HRB.out
      refine bodyPost_ret (results_cell_row Tryz.results143 _ _ (w.heap.size + 1) 100 ds (0, 0) _ rfl hh Tryz.underlying100 rfl HI.out.1) rfl ?_
      exact ⟨by rw [HDS.out, HSE.out], HK.out.trans (keeps_setRow _ _ _) (fun b hb e => by omega)⟩
  ·have hne : ((tn : Int) != 56) = true := by
    have : tn ≠ 56 := fun e => hlt (hpm.1 e)
    simp only [bne_iff_ne, ne_eq]; omega
   have HX := hyd hlt
   obtain ⟨s4, hs4⟩ : ∃ s, s = (rStV (hashH (M ++ pad0 k)) (M ++ pad0 k).length (.slice ta4 tn tc4)).toArray := ⟨_, rfl⟩
   rw [← hs4] at HSB HI4 HST4 HO
   have HTN := hyd htn
   have HW2 := hyd (rwrite_calls (pv := .slice (some ⟨wr.heap.size, 0, none⟩) 1 1) (l := [0]) (HST4.out.keep ((Keeps.refl _ wr).alloc (.cells #[.int .u8 0] 5))) (one_byte wr 0) (by have := HB.out; have := HLEN.out; simp only [List.length_cons, List.length_nil]; omega))
   clear hlt hpm hmod hs4 htn
   go_wp2_with (first | (refine wpList_load_row rfl 214 _ rfl w.heap.size rfl 214 s4 (0, 0) _ HSB.out Tryz.underlying214 rfl HI4.out.1 ?_))
   refine HW2.out.mono ?_
   rintro e w3 ⟨hk3, v3, rfl, t3, rfl, ho3⟩
   obtain ⟨ta3, tc3, rfl, _, _⟩ := ho3.bytes.reads.form
   have hk23 : Keeps (fun _ => False) wr w3 := ((Keeps.refl _ wr).alloc _).trans hk3 (fun _ _ e => e)
   have ho3 := ho3.base (base' := wr.heap.size) (by rw [World.size_alloc]; omega)
   have hr3 := rSt_row (hashH (M ++ pad0 k ++ [0])) (M ++ pad0 k ++ [0]).length ta3 (tailOf (M ++ pad0 k ++ [0])).length tc3 (hashH_length _)
   have hC := ClRel.put (M := M ++ pad0 k ++ [0]) HO.out.drop hk23 ho3
   rw [List.append_assoc M, pad0_succ] at hC hr3
   have HC := hyd hC
   have hsb3 := hk23.at HSB.out (fun e => e)
   rw [List.append_assoc M, pad0_succ]
   have HSB3 := hyd hsb3
   have HI3 := hyd hr3
   clear HW2 hk3 hk23 ho3 hr3 hsb3 HSB c9 HO hC
   generalize (rStV (hashH (M ++ pad0 (k + 1))) (M ++ pad0 (k + 1)).length (.slice ta3 (tailOf (M ++ pad0 (k + 1))).length tc3)).toArray = s3 at *
   go_wp2_with (refine wpList_store_row rfl 214 _ _ rfl w.heap.size s3 rfl rfl 214 _ HSB3.out HI3.out.1 (by rw [HI4.out.2.1, HI3.out.2.1]) HI3.out.2.2 ?_)
   go_roundg (gk - 1)
   case rel => exact ⟨k + 1, by have := HK.out; have := HZO.out; have := HX.out; omega, by have := HK.out; have := HX.out; omega, HC.out⟩
   case measure => have := HK.out; have := HZO.out; omega
set_option maxRecDepth 100000 in
theorem rsum_calls {v : Value} {l : List UInt8} (hr : Reads w v l) (hb : l.length < 70368744177664) : Calls Tryz.prog 111 #[v] w (QuietP w (.agg ((sumOf l).map u8v).toArray)) := by
 obtain ⟨a, c, rfl, hc1, hc2⟩ := hr.form
 obtain ⟨ds, hds⟩ : ∃ ds : Array Value, ds = ((sumOf l).map u8v).toArray := ⟨_, rfl⟩
 have hdz : ds.size = 32 := by rw [hds]; simp [sumOf_length]
 have HI := hyd (show (Tryz.prog.info? 100).map (·.size) = some ds.size ∧ ds.size = 32 ∧ ds.all (·.oneCell') = true from ⟨by rw [hdz]; kernel_rfl, hdz, by rw [hds]; exact bytes_one _⟩)
 have HR := hyd hr
 have HB := hyd hb
 have HDS := hyd hds
 rw [← hds]
 clear hdz hr hb hds
 have HA := hyd ((Own.start w).alloc (.cells (Array.replicate 32 (.int .u8 0)) 100))
 go_enter Tryz.func111, Tryz.ntmps111
 go_wp2_with fail
 change Calls _ _ _ (w.alloc (.cells (Array.replicate 32 (.int .u8 0)) 100)) _
 generalize w.alloc (.cells (Array.replicate 32 (.int .u8 0)) 100) = w1 at *
 refine (r2New_calls w1).mono ?_
 rintro e w2 ⟨hk2, v2, rfl, hn2⟩
 have H2 := hyd (HA.out.quiet hk2)
 have HN2 := hyd hn2.st
 clear hk2 hn2 HA
 go_wp2_with fail
 refine (rwrite_calls HN2.out (HR.out.keep H2.out.keeps) (by have := HB.out; simp only [List.length_nil]; omega)).mono ?_
 rintro e w3 ⟨hk3, v3, rfl, hn3⟩
 have H3 := hyd (H2.out.quiet hk3)
 have hn3 := hn3.st
 rw [List.nil_append] at hn3
 have HN3 := hyd hn3
 clear hk3 hn3 H2
 go_wp2_with fail
 refine (rclose_calls HN3.out HB.out).mono ?_
 rintro e w4 ⟨rfl, hk4⟩
 rw [← HDS.out]
 have h4 := H3.out.quiet hk4
 have HRB := hyd (h4.at (b := w.heap.size) (o := .cells (Array.replicate 32 (.int .u8 0)) 100) (by simp)).1
 have HK := hyd h4.keeps
 clear h4 hk4 H3
 go_wp2_with (refine wpList_store_row rfl 100 _ _ rfl w.heap.size ds rfl rfl 100 _ HRB.out HI.out.1 (by rw [HI.out.2.1]; rfl) HI.out.2.2 ?_)
 have hh : (w4.setRow w.heap.size ds).heap[w.heap.size]? = some (.cells ds 100 (0, 0)) := setRow_heap w4 _ _ ds 100 _ HRB.out
 refine bodyPost_ret (results_cell_row Tryz.results111 _ _ w.heap.size 100 ds (0, 0) _ rfl hh Tryz.underlying100 rfl HI.out.1) rfl ?_
 exact ⟨rfl, HK.out.trans (keeps_setRow _ _ _) (fun b hb e => by omega)⟩
end Go.Proofs.YtddnikpdmjogiaaGreat
