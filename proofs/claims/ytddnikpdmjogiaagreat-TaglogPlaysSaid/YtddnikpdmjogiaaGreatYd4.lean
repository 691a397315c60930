/- A part of the proof. -/
import Derived.Test.YtddnikpdmjogiaaGreatYd3
namespace Go.Proofs.YtddnikpdmjogiaaGreat
set_option linter.unusedVariables false
open Go.RowKit Go.MapKept
theorem d32_row {ds : Array Value} {l : List UInt8} (hds : ds = (l.map u8v).toArray) (h : l.length = 32) : (Tryz.prog.info? 100).map (·.size) = some ds.size ∧ ds.size = 32 ∧ ds.all (·.oneCell') = true := by
 have hdz : ds.size = 32 := by rw [hds]; simp [h]
 exact ⟨by rw [hdz]; kernel_rfl, hdz, by rw [hds]; exact bytes_one _⟩
variable {w wr : World} {rs : List (Res w.heap.size)}
theorem Own.push1 {v : Value} {L : List UInt8} (h : Own w wr (rBytes w.heap.size v L :: rs)) (c : UInt8) (hb : L.length < 140737488355328) :
  ∃ a n c0 a' c' w4, v = .slice a n c0 ∧ (Builtin.append_ #[36, 36] 36 #[.slice a n c0, .slice (some ⟨wr.heap.size, 0, none⟩) 1 1]).run Tryz.prog (wr.alloc (.cells #[.int .u8 (c.toNat : Int)] 5)) = .ok (.slice a' (n + 1) c') w4 ∧ Own w w4 (rBytes w.heap.size (.slice a' (n + 1) c') (L ++ [c]) :: rs) := by
 have hq2 : Keeps (fun _ => False) wr (wr.alloc (.cells #[.int .u8 (c.toNat : Int)] 5)) := (Keeps.refl _ _).alloc _
 obtain ⟨v', w4, hrun, ho4⟩ := (h.quiet hq2).grow (one_byte wr c) (by simp only [List.length_cons, List.length_nil]; omega)
 obtain ⟨_, a, c0, rfl, _, _⟩ := h.bytes (v := v) (l := L) (by simp)
 obtain ⟨_, a', c', rfl, _, _⟩ := ho4.bytes (v := v') (l := L ++ [c]) (by simp)
 rw [List.length_append, List.length_singleton] at hrun ho4
 exact ⟨a, _, c0, a', c', w4, rfl, hrun, ho4⟩
set_option maxRecDepth 100000 in
set_option maxHeartbeats 2000000 in
theorem rleaf_calls {v : Value} {p : List UInt8} (h : Reads w v p) (hb : p.length < 70368744177663) : Calls Tryz.prog 110 #[v] w (QuietP w (.agg ((leafOf p).map u8v).toArray)) := by
 obtain ⟨pa, pc, rfl, _, _⟩ := h.form
 have hcell := fun k (hk : k < p.length) => h.cell rfl hk
 have HC := hyd hcell
 have HB := hyd hb
 have o1 := (Own.start w).alloc (.cells (Array.replicate 32 (.int .u8 0)) 100)
 have o2 := o1.addBytes (owns_lit1 (w.alloc (.cells (Array.replicate 32 (.int .u8 0)) 100)) 0) ((Keeps.refl _ _).alloc _)
 rw [World.size_alloc] at o2
 have H2 := hyd o2
 clear h hcell hb o1 o2
 go_enter Tryz.func110, Tryz.ntmps110
 go_upto_region 2 with fail
 change Code.wp _ _ _ _ ((w.alloc (.cells (Array.replicate 32 (.int .u8 0)) 100)).alloc (.cells #[u8v 0] 5))
 generalize (w.alloc (.cells (Array.replicate 32 (.int .u8 0)) 100)).alloc (.cells #[u8v 0] 5) = w2 at *
 go_wp2_with fail
 go_loopw [3, 4] (fun bv i wx => ∃ k : Nat, i = .int .i64 (k : Int) ∧ k ≤ p.length ∧ Own w wx [rBytes _ bv (0 :: p.take k), rObj _ w.heap.size (.cells (Array.replicate 32 (.int .u8 0)) 100)]) (fun _ i _ => p.length - (intOf i).toNat)
 case atStart => exact ⟨0, rfl, by omega, H2.out⟩
 case round =>
  obtain ⟨k, rfl, hk, hown⟩ := hrel
  clear H2
  have j0 : (0 : Int) ≤ k := by omega
  have j2 : (k : Int) < 70368744177663 := by have := HB.out; omega
  by_cases hlt : k < p.length
  ·have j1 : (k : Int) < p.length := by omega
   obtain ⟨x, rfl, hx⟩ := HC.out k hlt
   have hx := hown.keeps.at0 hx
   have ht : p.take (k + 1) = p.take k ++ [p[k]] := by rw [List.take_append_getElem hlt]
   obtain ⟨a, n, c0, a', c', w4, rfl, hrun, ho4⟩ := hown.push1 p[k] (by simp only [List.length_cons, List.length_take]; omega)
   rw [List.cons_append, ← ht] at ho4
   have Hrun := hyd hrun
   have HN := hyd ho4
   have HX := hyd hlt
   generalize p[k].toNat = cc at *
   clear hown hrun ho4 ht hk hlt
   go_wp2_with (at_builtin; refine wpList_append_run rfl _ _ _ _ rfl rfl rfl Hrun.out ?_)
   go_roundw
   case rel => exact ⟨k + 1, rfl, HX.out, HN.out⟩
   case measure => have := HX.out; simp only [intOf]; omega
  ·obtain rfl : k = p.length := by omega
   rw [List.take_length] at hown
   obtain ⟨ds, hds⟩ : ∃ ds : Array Value, ds = ((leafOf p).map u8v).toArray := ⟨_, rfl⟩
   have HI := hyd (d32_row hds (leafOf_length p))
   have hsum := rsum_calls (hown.bytes (v := u3) (l := 0 :: p) (by simp)).1 (by rw [List.length_cons]; have := HB.out; omega)
   change Calls Tryz.prog 111 #[u3] wr (QuietP wr (.agg ((leafOf p).map u8v).toArray)) at hsum
   rw [← hds] at hsum
   obtain ⟨_, a, c, rfl, _, _⟩ := hown.bytes (v := u3) (l := 0 :: p) (by simp)
   have HO := hyd hown.drop
   have HS := hyd hsum
   have HDS := hyd hds
   generalize (0 :: p).length = n3 at *
   clear hown hsum hds hk hlt
   go_wp2_with fail
   refine HS.out.mono ?_
   rintro e w4 ⟨rfl, hk4⟩
   have h4 := HO.out.quiet hk4
   have HRB := hyd (h4.at (b := w.heap.size) (o := .cells (Array.replicate 32 (.int .u8 0)) 100) (by simp)).1
   have HK := hyd h4.keeps
   clear h4 hk4 HO
   go_wp2_with (refine wpList_store_row rfl 100 _ _ rfl w.heap.size ds rfl rfl 100 _ HRB.out HI.out.1 (by rw [HI.out.2.1]; rfl) HI.out.2.2 ?_)
   have hh : (w4.setRow w.heap.size ds).heap[w.heap.size]? = some (.cells ds 100 (0, 0)) := setRow_heap w4 _ _ ds 100 _ HRB.out
   refine bodyPost_ret (results_cell_row Tryz.results110 _ _ w.heap.size 100 ds (0, 0) _ rfl hh Tryz.underlying100 rfl HI.out.1) rfl ?_
   exact ⟨by rw [HDS.out], HK.out.trans (keeps_setRow _ _ _) (fun b hb e => by omega)⟩
set_option maxRecDepth 100000 in
set_option maxHeartbeats 2000000 in
theorem rpair_calls (w : World) (l r : Dg) (hl : l.length = 32) (hr : r.length = 32) : Calls Tryz.prog 146 #[.agg (l.map u8v).toArray, .agg (r.map u8v).toArray] w (OPost w (1 :: (l ++ r))) := by
 obtain ⟨ca, hca⟩ : ∃ ca : Array Value, ca = (l.map u8v).toArray := ⟨_, rfl⟩
 obtain ⟨cb, hcb⟩ : ∃ cb : Array Value, cb = (r.map u8v).toArray := ⟨_, rfl⟩
 rw [← hca, ← hcb]
 have o1 := ((Own.start w).alloc (.cells ca 100)).alloc (.cells cb 100)
 have o2 := o1.addBytes (owns_lit1 ((w.alloc (.cells ca 100)).alloc (.cells cb 100)) 1) ((Keeps.refl _ _).alloc _)
 simp only [World.size_alloc] at o2
 have H2 := hyd o2
 have hga : ∀ (k : Nat) (c : UInt8), l[k]? = some c → ca[k]? = some (Value.int .u8 (c.toNat : Int)) := fun k c hc => by rw [hca]; simp [hc, u8v]
 have hgb : ∀ (k : Nat) (c : UInt8), r[k]? = some c → cb[k]? = some (Value.int .u8 (c.toNat : Int)) := fun k c hc => by rw [hcb]; simp [hc, u8v]
 have HGA := hyd hga
 have HGB := hyd hgb
 have HL := hyd (And.intro hl hr)
 clear o1 o2 hga hgb hca hcb hl hr
 go_enter Tryz.func146, Tryz.ntmps146
 go_upto_region 2 with fail
 change Code.wp _ _ _ _ (((w.alloc (.cells ca 100)).alloc (.cells cb 100)).alloc (.cells #[u8v 1] 5))
 generalize ((w.alloc (.cells ca 100)).alloc (.cells cb 100)).alloc (.cells #[u8v 1] 5) = w2 at *
 go_wp2_with fail
 go_loopw [5, 6] (fun bv i wx => ∃ k : Nat, i = .int .i64 (k : Int) ∧ k ≤ 32 ∧ Own w wx [rBytes _ bv (1 :: l.take k), rObj _ (w.heap.size + 1) (.cells cb 100), rObj _ w.heap.size (.cells ca 100)]) (fun _ i _ => 32 - (intOf i).toNat)
 case atStart => exact ⟨0, rfl, by omega, H2.out⟩
 case round =>
  obtain ⟨k, rfl, hk, hown⟩ := hrel
  clear H2
  have j0 : (0 : Int) ≤ k := by omega
  by_cases hlt : k < 32
  ·have j1 : (k : Int) < 32 := by omega
   have hkl : k < l.length := by rw [HL.out.1]; exact hlt
   have ht : l.take (k + 1) = l.take k ++ [l[k]] := by rw [List.take_append_getElem hkl]
   have cx := cell_at (hown.at (b := w.heap.size) (o := .cells ca 100) (by simp)).1 (HGA.out k l[k] (List.getElem?_eq_getElem hkl))
   obtain ⟨a, n, c0, a', c', w4, rfl, hrun, ho4⟩ := hown.push1 l[k] (by simp only [List.length_cons, List.length_take]; omega)
   rw [List.cons_append, ← ht] at ho4
   have Hrun := hyd hrun
   have HN := hyd ho4
   have HX := hyd hlt
   generalize l[k].toNat = cc at *
   clear hown hrun ho4 ht hk hlt hkl
   go_wp2_with (at_builtin; refine wpList_append_run rfl _ _ _ _ rfl rfl rfl Hrun.out ?_)
   go_roundw
   case rel => exact ⟨k + 1, rfl, HX.out, HN.out⟩
   case measure => have := HX.out; simp only [intOf]; omega
  ·obtain rfl : k = 32 := by omega
   rw [List.take_of_length_le (by rw [HL.out.1]; omega)] at hown
   have H3 := hyd hown
   rw [show ((32 : Nat) : Int) = 32 from rfl]
   clear hown hk hlt
   go_wp2_with fail
   go_loopw [5, 7] (fun bv i wx => ∃ k : Nat, i = .int .i64 (k : Int) ∧ k ≤ 32 ∧ Own w wx [rBytes _ bv (1 :: (l ++ r.take k)), rObj _ (w.heap.size + 1) (.cells cb 100), rObj _ w.heap.size (.cells ca 100)]) (fun _ i _ => 32 - (intOf i).toNat)
   case atStart => exact ⟨0, rfl, by omega, by rw [List.take_zero, List.append_nil]; exact H3.out⟩
   case round =>
    obtain ⟨k, rfl, hk, hown⟩ := hrel
    clear H3
    have j0 : (0 : Int) ≤ k := by omega
    by_cases hlt : k < 32
    ·have j1 : (k : Int) < 32 := by omega
     have hkl : k < r.length := by rw [HL.out.2]; exact hlt
     have ht : r.take (k + 1) = r.take k ++ [r[k]] := by rw [List.take_append_getElem hkl]
     have cx := cell_at (hown.at (b := w.heap.size + 1) (o := .cells cb 100) (by simp)).1 (HGB.out k r[k] (List.getElem?_eq_getElem hkl))
     obtain ⟨a, n, c0, a', c', w4, rfl, hrun, ho4⟩ := hown.push1 r[k] (by simp only [List.length_cons, List.length_append, List.length_take, HL.out.1]; omega)
     rw [List.cons_append, List.append_assoc, ← ht] at ho4
     have Hrun := hyd hrun
     have HN := hyd ho4
     have HX := hyd hlt
     generalize r[k].toNat = cc at *
     clear hown hrun ho4 ht hk hlt hkl
     go_wp2_with (at_builtin; refine wpList_append_run rfl _ _ _ _ rfl rfl rfl Hrun.out ?_)
     go_roundw
     case rel => exact ⟨k + 1, rfl, HX.out, HN.out⟩
     case measure => have := HX.out; simp only [intOf]; omega
    ·obtain rfl : k = 32 := by omega
     rw [List.take_of_length_le (l := r) (by rw [HL.out.2]; omega)] at hown
     have HF := hyd (show OPost w (1 :: (l ++ r)) (.returned u5) wr from ⟨_, rfl, hown.owns (by simp), hown.keeps⟩)
     obtain ⟨_, a, c, rfl, _, _⟩ := hown.bytes (v := u5) (l := 1 :: (l ++ r)) (by simp)
     generalize (1 :: (l ++ r)).length = n5 at *
     rw [show ((32 : Nat) : Int) = 32 from rfl]
     clear hown hk hlt
     go_wp2_with fail
     go_ret
     exact HF.out
set_option maxRecDepth 100000 in
set_option maxHeartbeats 2000000 in
theorem rnode_calls (w : World) (l r : Dg) (hl : l.length = 32) (hr : r.length = 32) : Calls Tryz.prog 113 #[.agg (l.map u8v).toArray, .agg (r.map u8v).toArray] w (QuietP w (.agg ((nodeOf l r).map u8v).toArray)) := by
 have HP := hyd (fun w2 => rpair_calls w2 l r hl hr)
 have hpl : (1 :: (l ++ r)).length < 70368744177664 := by simp [hl, hr]
 obtain ⟨ds, hds⟩ : ∃ ds : Array Value, ds = ((nodeOf l r).map u8v).toArray := ⟨_, rfl⟩
 have HI := hyd (d32_row hds (nodeOf_length l r))
 obtain ⟨ca, hca⟩ : ∃ ca : Array Value, ca = (l.map u8v).toArray := ⟨_, rfl⟩
 obtain ⟨cb, hcb⟩ : ∃ cb : Array Value, cb = (r.map u8v).toArray := ⟨_, rfl⟩
 have HA := hyd (d32_row hca hl)
 have HB := hyd (d32_row hcb hr)
 rw [← hca, ← hcb] at HP ⊢
 have o1 := (((Own.start w).alloc (.cells ca 100)).alloc (.cells cb 100)).alloc (.cells (Array.replicate 32 (.int .u8 0)) 100)
 rw [World.size_alloc, World.size_alloc] at o1
 have H1 := hyd o1
 have HDS := hyd hds
 have HPL := hyd hpl
 rw [← hds]
 clear o1 hca hcb hl hr hds hpl
 go_enter Tryz.func113, Tryz.ntmps113
 go_upto_region 1 with fail
 change Code.wp _ _ _ _ (((w.alloc (.cells ca 100)).alloc (.cells cb 100)).alloc (.cells (Array.replicate 32 (.int .u8 0)) 100))
 generalize ((w.alloc (.cells ca 100)).alloc (.cells cb 100)).alloc (.cells (Array.replicate 32 (.int .u8 0)) 100) = w1 at *
 have HCA := hyd (H1.out.at (b := w.heap.size) (o := .cells ca 100) (by simp)).1
 have HCB := hyd (H1.out.at (b := w.heap.size + 1) (o := .cells cb 100) (by simp)).1
 go_wp2_with (first | (refine wpList_load_row rfl 100 _ rfl w.heap.size rfl 100 ca (0, 0) _ HCA.out Tryz.underlying100 rfl HA.out.1 ?_) | (refine wpList_load_row rfl 100 _ rfl (w.heap.size + 1) rfl 100 cb (0, 0) _ HCB.out Tryz.underlying100 rfl HB.out.1 ?_))
 refine (HP.out w1).mono ?_
 rintro e w2 ⟨v2, rfl, ho2, hk2⟩
 obtain ⟨a2, c2, rfl, _, _⟩ := ho2.bytes.reads.form
 have hsum := rsum_calls ho2.bytes.reads HPL.out
 change Calls Tryz.prog 111 _ w2 (QuietP w2 (.agg ((nodeOf l r).map u8v).toArray)) at hsum
 rw [← HDS.out] at hsum
 have H2 := hyd (H1.out.quiet hk2)
 have HS := hyd hsum
 generalize (1 :: (l ++ r)).length = n2 at *
 clear ho2 hk2 hsum H1 HP HCA HCB
 go_wp2_with fail
 refine HS.out.mono ?_
 rintro e w4 ⟨rfl, hk4⟩
 have h4 := H2.out.quiet hk4
 have HRB := hyd (h4.at (b := w.heap.size + 1 + 1) (o := .cells (Array.replicate 32 (.int .u8 0)) 100) (by simp)).1
 have HK := hyd h4.keeps
 clear h4 hk4 H2 HS
 go_wp2_with (refine wpList_store_row rfl 100 _ _ rfl (w.heap.size + 1 + 1) ds rfl rfl 100 _ HRB.out HI.out.1 (by rw [HI.out.2.1]; rfl) HI.out.2.2 ?_)
 have hh : (w4.setRow (w.heap.size + 1 + 1) ds).heap[w.heap.size + 1 + 1]? = some (.cells ds 100 (0, 0)) := setRow_heap w4 _ _ ds 100 _ HRB.out
 refine bodyPost_ret (results_cell_row Tryz.results113 _ _ (w.heap.size + 1 + 1) 100 ds (0, 0) _ rfl hh Tryz.underlying100 rfl HI.out.1) rfl ?_
 exact ⟨rfl, HK.out.trans (keeps_setRow _ _ _) (fun b hb e => by omega)⟩
set_option maxRecDepth 100000 in
theorem rhalf_calls {n : Nat} (h2 : 2 ≤ n) (h : n ≤ 256) (w : World) : Calls Tryz.prog 112 #[.int .i64 (n : Int)] w (fun e w' => e = .returned (.int .i64 (halfOf n : Int)) ∧ w' = w) := by
 have j2 : (2 : Int) ≤ n := by omega
 have j3 : (n : Int) ≤ 256 := by omega
 go_enter Tryz.func112, Tryz.ntmps112
 go_wp2_with fail
 go_loopw [3] (fun kv wx => wx = w ∧ ∃ J k : Nat, kv = .int .i64 (k : Int) ∧ k = 2 ^ J ∧ k < n) (fun kv _ => n - (intOf kv).toNat)
 case atStart => exact ⟨rfl, 0, 1, rfl, rfl, by omega⟩
 case round =>
  obtain ⟨rfl, J, k, rfl, hk, hlt⟩ := hrel
  have hp := Nat.two_pow_pos J
  have hw : IntKind.i64.wrap ((n : Int) - (k : Int)) = ((n - k : Nat) : Int) := by rw [IntKind.wrap_i64]; omega
  have HK := hyd hk
  have HLT := hyd hlt
  have HH := hyd (And.intro h2 h)
  by_cases hk2 : k < n - k
  ·have hd : decide (k < n - k) = true := by rw [decide_eq_true_eq]; omega
   have hw2 : IntKind.i64.wrap (2 * (k : Int)) = ((2 * k : Nat) : Int) := by rw [IntKind.wrap_i64]; omega
   have HK2 := hyd hk2
   have HP := hyd hp
   obtain ⟨d, hd0⟩ : ∃ d, d = n - k := ⟨_, rfl⟩
   obtain ⟨kk, hkk⟩ : ∃ kk, kk = 2 * k := ⟨_, rfl⟩
   rw [← hd0] at hw hd
   rw [← hkk] at hw2
   have HKK := hyd hkk
   clear hd0 hkk hk hlt hk2 hp h2 h
   go_wp2_with fail
   go_roundw
   case rel => exact ⟨by first | rfl | trivial, J + 1, kk, rfl, by rw [HKK.out, HK.out, Nat.pow_succ]; omega, by have := HK2.out; have := HKK.out; omega⟩
   case measure => have := HK2.out; have := HKK.out; have := HP.out; have := HK.out; simp only [intOf]; omega
  ·have hd : decide (k < n - k) = false := by rw [decide_eq_false_iff_not]; omega
   have HF := hyd (show halfOf n = k by rw [hk]; exact half_of_pow (by omega) (by rw [Nat.pow_succ]; omega))
   obtain ⟨d, hd0⟩ : ∃ d, d = n - k := ⟨_, rfl⟩
   rw [← hd0] at hw hd
   clear hd0 hk hlt hk2 hp h2 h
   go_wp2_with fail
   go_ret
   exact ⟨by rw [HF.out]; rfl, rfl⟩
def DigsR (base : Nat) (w : World) (v : Value) (L : List (List UInt8)) : Prop := w.ownsRow base 100 32 v L.length (digCells L) ∧ Len32 L
theorem DigsR.nil (base : Nat) (w : World) : DigsR base w (.slice none 0 0) [] := ⟨⟨rfl, .inl ⟨rfl, rfl⟩⟩, fun x hx => by cases hx⟩
theorem DigsR.keep {base : Nat} {w w' : World} {v : Value} {L : List (List UInt8)} (h : DigsR base w v L) (hr : ∀ b, v.ownBlock = some b → w'.heap[b]? = w.heap[b]?) : DigsR base w' v L := by
 obtain ⟨⟨h1, h2⟩, h3⟩ := h
 refine ⟨⟨h1, h2.imp id ?_⟩, h3⟩
 rintro ⟨g, cap, cur, rfl, hg, hb, rest⟩
 exact ⟨g, cap, cur, rfl, hg, (hr g rfl).trans hb, rest⟩
theorem DigsR.lt {base : Nat} {w : World} {v : Value} {L : List (List UInt8)} (h : DigsR base w v L) : ∀ b, v.ownBlock = some b → b < w.heap.size ∧ base ≤ b := by
 rcases h.1.2 with ⟨rfl, _⟩ | ⟨g, cap, cur, rfl, hg, hb, _⟩
 ·intro b hb; cases hb
 ·intro b hb'
  cases hb'
  exact ⟨lt_of_heap hb, hg⟩
theorem DigsR.quiet {base : Nat} {w w' : World} {v : Value} {L : List (List UInt8)} (h : DigsR base w v L) (hk : Keeps (fun _ => False) w w') : DigsR base w' v L := h.keep (fun b hb => hk.block b (h.lt b hb).1 (fun e => e))
theorem DigsR.base {base base' : Nat} {w : World} {v : Value} {L : List (List UInt8)} (h : DigsR base w v L) (hb : base' ≤ base) : DigsR base' w v L := by
 obtain ⟨⟨h1, h2⟩, h3⟩ := h
 refine ⟨⟨h1, h2.imp id ?_⟩, h3⟩
 rintro ⟨g, cap, cur, rfl, hg, rest⟩
 exact ⟨g, cap, cur, rfl, by omega, rest⟩
theorem DigsR.form {base : Nat} {w : World} {v : Value} {L : List (List UInt8)} (h : DigsR base w v L) : ∃ a c, v = .slice a L.length c ∧ L.length ≤ c ∧ c ≤ maxLen := by
 rcases h.1.2 with ⟨rfl, e⟩ | ⟨g, cap, cur, rfl, _, _, h4, h5, _⟩
 ·exact ⟨none, 0, by rw [e], by omega, Nat.zero_le _⟩
 ·exact ⟨_, cap, rfl, h4, h5⟩
theorem DigsR.cell {base : Nat} {w : World} {v : Value} {L : List (List UInt8)} (h : DigsR base w v L) {k : Nat} {x : List UInt8} (hx : L[k]? = some x) :
  ∃ g c, v = .slice (some ⟨g, 0, none⟩) L.length c ∧ w.rangeAt g (k * 32) (x.map u8v) := by
 rcases h.1.2 with ⟨rfl, e⟩ | ⟨g, cap, cur, rfl, _, hb, _⟩
 ·have := (List.getElem?_eq_some_iff.1 hx).1; omega
 ·refine ⟨g, cap, rfl, fun j u hu => ?_⟩
  have := h.1.cells (g := g) rfl (k * 32 + j) u (digCells_get h.2 hx hu)
  rwa [Addr.add_lit, Nat.zero_add] at this
theorem info_d32 : (Tryz.prog.info? 100).map (fun i => (i.zero, i.size, i.bytes)) = some (some (.agg zeroC), 32, 32) := by kernel_rfl
theorem DigsR.push {base : Nat} {w : World} {v : Value} {L : List (List UInt8)} (h : DigsR base w v L) (hz : base ≤ w.heap.size) {x : List UInt8} (hx : x.length = 32) (hb : L.length < 1099511627776) :
  ∃ a c w', (Builtin.append_ #[128, 128] 128 #[v, .slice (some ⟨w.heap.size, 0, none⟩) 1 1]).run Tryz.prog (w.alloc (.cells (x.map u8v).toArray 100)) = .ok (.slice a (L.length + 1) c) w' ∧ DigsR base w' (.slice a (L.length + 1) c) (L ++ [x]) ∧
   Keeps (fun b => v.ownBlock = some b) w w' ∧ ((Value.slice a (L.length + 1) c).ownBlock = v.ownBlock ∨ (Value.slice a (L.length + 1) c).ownBlock = some (w.heap.size + 1)) := by
 obtain ⟨i0, hi, hz0, hz1, hz2⟩ := info_parts info_d32
 obtain ⟨v', w', hrun, ho2, hg, _, hat⟩ := run_append_own_at (P := Tryz.prog) (w.alloc (.cells (x.map u8v).toArray 100)) base 128 128 100 i0 _ 32 32 Tryz.underlying128 hi hz0 hz1 hz2 (by kernel_rfl) (by omega) v L.length (digCells L) (h.1.alloc _) ⟨w.heap.size, 0, none⟩ 1 1 (x.map u8v) (by rw [List.length_map, hx])
  (fun j u hu => by
   rw [Addr.add_lit, Nat.zero_add]
   exact cell_at (heap_alloc_new w _) (by rw [List.getElem?_toArray]; exact hu))
  (dig_oneCell x) (by unfold maxLen; omega) (by omega) (by simp only [World.size_alloc]; omega)
 rw [← digCells_snoc] at ho2
 obtain ⟨a, c, rfl⟩ := ownsRow_slice ho2
 refine ⟨a, c, w', hrun, ⟨by rw [List.length_append]; exact ho2, fun y hy => ?_⟩, ((Keeps.refl _ w).alloc _).trans (Keeps.of_grown hg) (fun _ _ h => h), by simpa using hat⟩
 rcases List.mem_append.1 hy with hy | hy
 ·exact h.2 y hy
 ·simp at hy; subst hy; exact hx
theorem d32_parts : ∃ i, Tryz.prog.info? 100 = some i ∧ i.zero = some (.agg zeroC) ∧ i.size = 32 ∧ i.bytes = 32 := by
 obtain ⟨i0, hi, hz0, hz1, hz2⟩ := info_parts info_d32
 exact ⟨i0, hi, hz0, hz1, hz2⟩
theorem wpList_buildD32 {ops : Array Oper} {rest : List Oper} {o : Oper} {a : Act} {w : World} {Q : Exit → Act → World → Prop} (hg : o.guard = none) (x : Operand) (ho : o.op = .buildSlice 128 1 #[(0, x)]) (cl : List Value) (hl : cl.length = 32) (hx : a.eval x = .agg cl.toArray)
  (h : wpList Tryz.prog ops Q rest (a.put o.dst (.slice (some ⟨w.heap.size, 0, none⟩) 1 1)) (w.alloc (.cells cl.toArray 100))) : wpList Tryz.prog ops Q (o :: rest) a w := by
 obtain ⟨i0, hi, hz0, hz1, _⟩ := d32_parts
 refine wpList_buildSlice hg 128 100 1 #[(0, x)] ho cl.toArray i0 (.agg zeroC) Tryz.underlying128 hi hz0 (by rw [hz1]; decide) (by rw [hz1]; decide) ?_ h
 rw [hz1]
 simp only [List.map_toArray, List.map_cons, List.map_nil, hx]
 exact fill_one cl hl
theorem DigsR.pushAt {base : Nat} {w : World} {v : Value} {L : List (List UInt8)} (h : DigsR base w v L) (hz : base ≤ w.heap.size) {x : List UInt8} (hx : x.length = 32) {b : Nat} (hb : w.rangeAt b 0 (x.map u8v)) (hL : L.length < 1099511627776) :
  ∃ a c w', (Builtin.append_ #[128, 128] 128 #[v, .slice (some ⟨b, 0, none⟩) 1 1]).run Tryz.prog w = .ok (.slice a (L.length + 1) c) w' ∧ DigsR base w' (.slice a (L.length + 1) c) (L ++ [x]) ∧
   Keeps (fun b => v.ownBlock = some b) w w' ∧ ((Value.slice a (L.length + 1) c).ownBlock = v.ownBlock ∨ (Value.slice a (L.length + 1) c).ownBlock = some w.heap.size) := by
 obtain ⟨i0, hi, hz0, hz1, hz2⟩ := info_parts info_d32
 obtain ⟨v', w', hrun, ho2, hg, _, hat⟩ := run_append_own_at (P := Tryz.prog) w base 128 128 100 i0 _ 32 32 Tryz.underlying128 hi hz0 hz1 hz2 (by kernel_rfl) (by omega) v L.length (digCells L) h.1 ⟨b, 0, none⟩ 1 1 (x.map u8v) (by rw [List.length_map, hx])
  (fun j u hu => by
   have := hb j u hu
   rw [Addr.add_lit]
   exact this)
  (dig_oneCell x) (by unfold maxLen; omega) (by omega) hz
 rw [← digCells_snoc] at ho2
 obtain ⟨a, c, rfl⟩ := ownsRow_slice ho2
 refine ⟨a, c, w', hrun, ⟨by rw [List.length_append]; exact ho2, fun y hy => ?_⟩, Keeps.of_grown hg, by simpa using hat⟩
 rcases List.mem_append.1 hy with hy | hy
 ·exact h.2 y hy
 ·simp at hy; subst hy; exact hx
def rDigsD (B : Nat) (v : Value) (L : List (List UInt8)) : Res B :=
 ⟨fun F w => DigsR 0 w v L ∧ ∀ b, v.ownBlock = some b → F b, fun _ _ _ h hk => ⟨h.1.keep (fun b hb => hk b (.inl (h.2 b hb))), h.2⟩⟩
section
variable {w wr : World} {rs : List (Res w.heap.size)} {v : Value} {L : List (List UInt8)}
theorem Own.digsR (h : Own w wr rs) (hm : rDigsD w.heap.size v L ∈ rs) : DigsR 0 wr v L := by
 obtain ⟨F, h1, _⟩ := h.mem hm
 exact h1.1
theorem Own.addDigsR {w1 : World} (h : Own w wr rs) (hd : DigsR wr.heap.size w1 v L) (hk : Keeps (fun _ => False) wr w1) : Own w w1 (rDigsD w.heap.size v L :: rs) :=
 h.add hk (r := rDigsD _ v L) (G := fun b => v.ownBlock = some b) ⟨hd.base (Nat.zero_le _), fun _ hb => hb⟩ (fun b hb => ⟨(hd.lt b hb).2, (hd.lt b hb).1⟩)
theorem Own.nilDigsR (h : Own w wr rs) : Own w wr (rDigsD w.heap.size (.slice none 0 0) [] :: rs) := h.addDigsR (DigsR.nil _ _) (Keeps.refl _ wr)
theorem Own.pushD32 (h : Own w wr (rDigsD w.heap.size v L :: rs)) {x : List UInt8} (hx : x.length = 32) {b : Nat} (hb : wr.rangeAt b 0 (x.map u8v)) (hL : L.length < 1099511627776) :
  ∃ a c w', (Builtin.append_ #[128, 128] 128 #[v, .slice (some ⟨b, 0, none⟩) 1 1]).run Tryz.prog wr = .ok (.slice a (L.length + 1) c) w' ∧ Own w w' (rDigsD w.heap.size (.slice a (L.length + 1) c) (L ++ [x]) :: rs) := by
 obtain ⟨F, ⟨h1, h2⟩, hF, back⟩ := h.open1
 obtain ⟨a, c, w', hrun, hd, hk, hat⟩ := h1.pushAt (Nat.zero_le _) hx hb hL
 have hlt := hd.lt
 refine ⟨a, c, w', hrun, back w' (rDigsD _ (.slice a (L.length + 1) c) (L ++ [x])) (hk.mono (fun b _ e => h2 b e)) ⟨hd, fun b hb => ?_⟩⟩
 rcases hat with hat | hat
 ·rw [hat] at hb
  exact .inl (h2 b hb)
 ·have hl := hlt b hb
  rw [hat] at hb
  cases hb
  exact .inr ⟨Nat.le_refl _, hl.1⟩
end
theorem wp_buildD32 {o : Oper} {a : Act} {w : World} {K : Act → World → Prop} {Q : Exit → Act → World → Prop} (x : Operand) (ho : o.op = .buildSlice 128 1 #[(0, x)]) (cl : List Value) (hl : cl.length = 32) (hx : a.eval x = .agg cl.toArray)
  (h : K (a.put o.dst (.slice (some ⟨w.heap.size, 0, none⟩) 1 1)) (w.alloc (.cells cl.toArray 100))) : o.wp Tryz.prog a w K Q := by
 obtain ⟨i0, hi, hz0, hz1, _⟩ := d32_parts
 refine wp_buildSlice 128 100 1 #[(0, x)] ho cl.toArray i0 (.agg zeroC) Tryz.underlying128 hi hz0 (by rw [hz1]; decide) (by rw [hz1]; decide) ?_ h
 rw [hz1]
 simp only [List.map_toArray, List.map_cons, List.map_nil, hx]
 exact fill_one cl hl
theorem DigsR.ins {base : Nat} {w : World} {v : Value} {L : List Dg} (h : DigsR base w v L) : DgIn w v L := by
 obtain ⟨a, c, rfl, h1, h2⟩ := h.form
 refine ⟨h.2, a, c, rfl, h1, h2, fun k x hx => ?_⟩
 obtain ⟨g, c', e, hr⟩ := h.cell hx
 cases e
 exact ⟨g, 0, rfl, by rw [Nat.zero_add]; exact hr⟩
theorem elem_d32s : Tryz.prog.underlying 128 = some (.slice (Tryz.prog.elem 128)) := by kernel_rfl
theorem size_d32 (w : World) : (sizeOf (Tryz.prog.elem 128)).run Tryz.prog w = .ok 32 w := by kernel_rfl
theorem DgIn.takeR {w : World} {v : Value} {L : List Dg} (h : DgIn w v L) {k : Nat} (hk : k ≤ L.length) : ∃ v', (∀ W, (Instr.sliceAt 128 v none (some (.int .i64 (k : Int))) none).run Tryz.prog W = .ok v' W) ∧ DgIn w v' (L.take k) := by
 obtain ⟨h0, a, c, rfl, h2, h3, h4⟩ := h
 refine ⟨.slice a k c, fun W => ?_, h0.take k, a, c, by rw [List.length_take, Nat.min_eq_left hk], by rw [List.length_take]; omega, h3, fun i x hx => ?_⟩
 ·rw [run_sliceAt_slice _ _ _ _ _ _ elem_d32s, run_slice_h W 128 a L.length c elem_d32s .i64 (k : Int) (by omega) (by omega), size_d32]
  simp only [Result.andThen, sliced, Int.toNat_natCast, Nat.zero_mul, Nat.sub_zero]
  have : (a.map fun x => x.add 0) = a := by cases a with
   | none => rfl
   | some x => simp [Addr.add_zero']
  rw [this, ite_self]
 ·rw [List.getElem?_take] at hx
  split at hx
  ·exact h4 i x hx
  ·cases hx
theorem DgIn.dropR {w : World} {v : Value} {L : List Dg} (h : DgIn w v L) {k : Nat} (hk : k ≤ L.length) : ∃ v', (∀ W, (Instr.sliceAt 128 v (some (.int .i64 (k : Int))) none none).run Tryz.prog W = .ok v' W) ∧ DgIn w v' (L.drop k) := by
 obtain ⟨h0, a, c, rfl, h2, h3, h4⟩ := h
 refine ⟨.slice (if c = k then a else a.map (fun x => x.add (k * 32))) (L.length - k) (c - k), fun W => ?_, h0.drop k, _, c - k, by rw [List.length_drop], by rw [List.length_drop]; omega, by omega, fun i x hx => ?_⟩
 ·rw [run_sliceAt_slice _ _ _ _ _ _ elem_d32s, run_slice_l W 128 a L.length c elem_d32s .i64 (k : Int) (by omega) (by omega), size_d32]
  simp only [Result.andThen, sliced, Int.toNat_natCast]
 ·rw [List.getElem?_drop] at hx
  obtain ⟨b, o, rfl, hr⟩ := h4 _ x hx
  have hlt := (List.getElem?_eq_some_iff.1 hx).1
  refine ⟨b, o + k * 32, ?_, ?_⟩
  ·rw [if_neg (by omega)]
   simp [Addr.add_lit]
  ·rw [show o + k * 32 + i * 32 = o + (k + i) * 32 by omega]
   exact hr
def RRootC (L : List Dg) : Prop := ∀ (w : World) (v : Value), DgIn w v L → Calls Tryz.prog 51 #[v] w (QuietP w (.agg ((rootOf L).map u8v).toArray))
set_option maxRecDepth 100000 in
set_option maxHeartbeats 4000000 in
theorem rroot_two {L : List Dg} (h2 : 2 ≤ L.length) (hL : L.length ≤ 256) (ihl : RRootC (L.take (halfOf L.length))) (ihr : RRootC (L.drop (halfOf L.length))) : RRootC L := by
 intro w v h
 have hlt := half_lt h2
 obtain ⟨vl, hsl, hdl⟩ := h.takeR (k := halfOf L.length) (by omega)
 obtain ⟨vr, hsr, hdr⟩ := h.dropR (k := halfOf L.length) (by omega)
 obtain ⟨a, c, rfl, hc1, hc2⟩ := h.form
 have h32 := h.1
 obtain ⟨ds, hds⟩ : ∃ ds : Array Value, ds = ((rootOf L).map u8v).toArray := ⟨_, rfl⟩
 obtain ⟨cl, hcl⟩ : ∃ ds : Array Value, ds = ((rootOf (L.take (halfOf L.length))).map u8v).toArray := ⟨_, rfl⟩
 obtain ⟨cr, hcr⟩ : ∃ ds : Array Value, ds = ((rootOf (L.drop (halfOf L.length))).map u8v).toArray := ⟨_, rfl⟩
 have HI := hyd (d32_row hds (rootOf_length h32))
 have HLI := hyd (d32_row hcl (rootOf_length (h32.take _)))
 have HRI := hyd (d32_row hcr (rootOf_length (h32.drop _)))
 have HL := hyd (fun W (hk : Keeps (fun _ => False) w W) => ihl W vl (hdl.keep hk))
 have HR := hyd (fun W (hk : Keeps (fun _ => False) w W) => ihr W vr (hdr.keep hk))
 have HN := hyd (fun W => rnode_calls W (rootOf (L.take (halfOf L.length))) (rootOf (L.drop (halfOf L.length))) (rootOf_length (h32.take _)) (rootOf_length (h32.drop _)))
 rw [← rootOf_two h2, ← hds, ← hcl, ← hcr] at HN
 rw [← hcl] at HL
 rw [← hcr] at HR
 rw [← hds]
 have HSP := hyd (fun W => rhalf_calls h2 hL W)
 have i2 : (2 : Int) ≤ L.length := by omega
 have i3 : (L.length : Int) ≤ 256 := by omega
 have e0 : ((L.length : Int) == 0) = false := by rw [beq_eq_false_iff_ne]; omega
 have e1 : ((L.length : Int) == 1) = false := by rw [beq_eq_false_iff_ne]; omega
 have H1 := hyd ((Own.start w).alloc (.cells (Array.replicate 32 (.int .u8 0)) 100))
 generalize halfOf L.length = k at *
 clear h hdl hdr hds hcl hcr ihl ihr h2 hL hlt hc1 hc2 h32
 go_enter Tryz.func51, Tryz.ntmps51
 go_upto_region 1 with fail
 change Code.wp _ _ _ _ (w.alloc (.cells (Array.replicate 32 (.int .u8 0)) 100))
 generalize w.alloc (.cells (Array.replicate 32 (.int .u8 0)) 100) = w1 at *
 go_wp2_with fail
 refine (HSP.out _).mono ?_; rintro e w' ⟨rfl, rfl⟩
 go_wp2_with fail
 refine (HL.out _ H1.out.keeps).mono ?_; rintro e w2 ⟨rfl, hk2⟩
 have H2 := hyd ((H1.out.quiet hk2).alloc (.cells (Array.replicate 32 (.int .u8 0)) 100))
 clear H1 hk2 HL HSP
 have HB2 := hyd (H2.out.at (b := w2.heap.size) (o := .cells (Array.replicate 32 (.int .u8 0)) 100) (by simp)).1
 go_upto_region 7 with (refine wpList_store_row rfl 100 _ _ rfl w2.heap.size cl rfl rfl 100 _ HB2.out HLI.out.1 (by rw [HLI.out.2.1]; rfl) HLI.out.2.2 ?_)
 have H3 := hyd (H2.out.setRow cl)
 change Code.wp _ _ _ _ ((w2.alloc (.cells (Array.replicate 32 (.int .u8 0)) 100)).setRow w2.heap.size cl)
 clear H2 HB2
 generalize (w2.alloc (.cells (Array.replicate 32 (.int .u8 0)) 100)).setRow w2.heap.size cl = w3 at *
 generalize w2.heap.size = b2 at *
 go_wp2_with fail
 refine (HR.out _ H3.out.keeps).mono ?_; rintro e w4 ⟨rfl, hk4⟩
 have H4 := hyd ((H3.out.quiet hk4).alloc (.cells (Array.replicate 32 (.int .u8 0)) 100))
 clear H3 hk4 HR
 have HB4 := hyd (H4.out.at (b := w4.heap.size) (o := .cells (Array.replicate 32 (.int .u8 0)) 100) (by simp)).1
 go_upto_region 8 with (refine wpList_store_row rfl 100 _ _ rfl w4.heap.size cr rfl rfl 100 _ HB4.out HRI.out.1 (by rw [HRI.out.2.1]; rfl) HRI.out.2.2 ?_)
 have H5 := hyd (H4.out.setRow cr)
 change Code.wp _ _ _ _ ((w4.alloc (.cells (Array.replicate 32 (.int .u8 0)) 100)).setRow w4.heap.size cr)
 clear H4 HB4
 generalize (w4.alloc (.cells (Array.replicate 32 (.int .u8 0)) 100)).setRow w4.heap.size cr = w5 at *
 generalize w4.heap.size = b4 at *
 have HBL := hyd (H5.out.at (b := b2) (o := .cells cl 100) (by simp)).1
 have HBR := hyd (H5.out.at (b := b4) (o := .cells cr 100) (by simp)).1
 go_wp2_with (first | (refine wpList_load_row rfl 100 _ rfl b2 rfl 100 cl (0, 0) _ HBL.out Tryz.underlying100 rfl HLI.out.1 ?_) | (refine wpList_load_row rfl 100 _ rfl b4 rfl 100 cr (0, 0) _ HBR.out Tryz.underlying100 rfl HRI.out.1 ?_))
 refine (HN.out _).mono ?_; rintro e w6 ⟨rfl, hk6⟩
 have h6 := H5.out.quiet hk6
 have HRB := hyd (h6.at (b := w.heap.size) (o := .cells (Array.replicate 32 (.int .u8 0)) 100) (by simp)).1
 have HK := hyd h6.keeps
 clear h6 hk6 H5 HN HBL HBR
 go_wp2_with (refine wpList_store_row rfl 100 _ _ rfl w.heap.size ds rfl rfl 100 _ HRB.out HI.out.1 (by rw [HI.out.2.1]; rfl) HI.out.2.2 ?_)
 have hh : (w6.setRow w.heap.size ds).heap[w.heap.size]? = some (.cells ds 100 (0, 0)) := setRow_heap w6 _ _ ds 100 _ HRB.out
 refine bodyPost_ret (results_cell_row Tryz.results51 _ _ w.heap.size 100 ds (0, 0) _ rfl hh Tryz.underlying100 rfl HI.out.1) rfl ?_
 exact ⟨rfl, HK.out.trans (keeps_setRow _ _ _) (fun b hb e => by omega)⟩
set_option maxRecDepth 100000 in
set_option maxHeartbeats 1000000 in
theorem rroot_nil : RRootC [] := by
 intro w v h
 obtain ⟨a, c, rfl, -, -⟩ := h.form
 obtain ⟨ds, hds⟩ : ∃ ds : Array Value, ds = ((rootOf []).map u8v).toArray := ⟨_, rfl⟩
 have HI := hyd (d32_row hds (rootOf_length (fun x hx => by simp at hx)))
 have H1 := hyd ((Own.start w).alloc (.cells (Array.replicate 32 (.int .u8 0)) 100))
 have HS := hyd (fun w1 => rsum_calls (w := w1) (v := .slice none 0 0) (l := []) (.inl ⟨rfl, rfl⟩) (by simp))
 rw [rootOf_nil] at hds ⊢
 rw [← hds] at HS ⊢
 clear h hds
 go_enter Tryz.func51, Tryz.ntmps51
 go_upto_region 1 with fail
 change Code.wp _ _ _ _ (w.alloc (.cells (Array.replicate 32 (.int .u8 0)) 100))
 generalize w.alloc (.cells (Array.replicate 32 (.int .u8 0)) 100) = w1 at *
 go_wp2_with fail
 refine (HS.out _).mono ?_; rintro e w6 ⟨rfl, hk6⟩
 have h6 := H1.out.quiet hk6
 have HRB := hyd (h6.at (b := w.heap.size) (o := .cells (Array.replicate 32 (.int .u8 0)) 100) (by simp)).1
 have HK := hyd h6.keeps
 clear h6 hk6 H1 HS
 go_wp2_with (refine wpList_store_row rfl 100 _ _ rfl w.heap.size ds rfl rfl 100 _ HRB.out HI.out.1 (by rw [HI.out.2.1]; rfl) HI.out.2.2 ?_)
 have hh : (w6.setRow w.heap.size ds).heap[w.heap.size]? = some (.cells ds 100 (0, 0)) := setRow_heap w6 _ _ ds 100 _ HRB.out
 refine bodyPost_ret (results_cell_row Tryz.results51 _ _ w.heap.size 100 ds (0, 0) _ rfl hh Tryz.underlying100 rfl HI.out.1) rfl ?_
 exact ⟨rfl, HK.out.trans (keeps_setRow _ _ _) (fun b hb e => by omega)⟩
set_option maxRecDepth 100000 in
set_option maxHeartbeats 1000000 in
theorem rroot_one (x : Dg) : RRootC [x] := by
 intro w v h
 obtain ⟨h0, a, c, rfl, h1, h2, h3⟩ := h
 have hx := h0 x (by simp)
 obtain ⟨b, o, rfl, hr⟩ := h3 0 x rfl
 rw [Nat.zero_mul, Nat.add_zero] at hr
 obtain ⟨cl, hcl⟩ : ∃ cl : List Value, cl = x.map u8v := ⟨_, rfl⟩
 rw [← hcl] at hr
 rw [rootOf_one, ← hcl]
 have hsz : cl.length = 32 := by rw [hcl, List.length_map, hx]
 have H1 := hyd ((Own.start w).alloc (.cells (Array.replicate 32 (.int .u8 0)) 100))
 have hr2 : (w.alloc (.cells (Array.replicate 32 (.int .u8 0)) 100)).rangeAt b o cl := fun j v hv => by
  have hc := hr j v hv
  rw [World.cell?_of_block (H1.out.keeps.block _ (World.block_lt_of_cell? w _ hc) (fun e => e))]
  exact hc
 have HI := hyd (d32_row (ds := cl.toArray) (by rw [hcl]) hx)
 have HXI := hyd (show (Tryz.prog.info? 100).map (·.size) = some cl.length by rw [hsz]; kernel_rfl)
 have HRG := hyd hr2
 clear h0 h1 h2 h3 hr hr2 hcl hx hsz
 go_enter Tryz.func51, Tryz.ntmps51
 go_upto_region 1 with fail
 change Code.wp _ _ _ _ (w.alloc (.cells (Array.replicate 32 (.int .u8 0)) 100))
 generalize w.alloc (.cells (Array.replicate 32 (.int .u8 0)) 100) = w1 at *
 have HRB := hyd (H1.out.at (b := w.heap.size) (o := .cells (Array.replicate 32 (.int .u8 0)) 100) (by simp)).1
 go_wp2_with (first | (refine wpList_load_mid rfl 100 _ rfl b o rfl cl _ HRG.out Tryz.underlying100 rfl HXI.out ?_) | (refine wpList_store_row rfl 100 _ _ rfl w.heap.size cl.toArray rfl rfl 100 _ HRB.out HI.out.1 (by rw [HI.out.2.1]; rfl) HI.out.2.2 ?_))
 have hh : (w1.setRow w.heap.size cl.toArray).heap[w.heap.size]? = some (.cells cl.toArray 100 (0, 0)) := setRow_heap w1 _ _ _ 100 _ HRB.out
 refine bodyPost_ret (results_cell_row Tryz.results51 _ _ w.heap.size 100 cl.toArray (0, 0) _ rfl hh Tryz.underlying100 rfl HI.out.1) rfl ?_
 exact ⟨rfl, H1.out.keeps.trans (keeps_setRow _ _ _) (fun b hb e => by omega)⟩
theorem rroot_calls : ∀ (n : Nat) (L : List Dg), L.length ≤ n → L.length ≤ 256 → RRootC L
 | 0, L, h, _ => by
  obtain rfl : L = [] := List.eq_nil_of_length_eq_zero (by omega)
  exact rroot_nil
 | n + 1, L, h, hL => by
  by_cases h2 : 2 ≤ L.length
  ·have h3 := half_lt h2
   have h4 := half_pos L.length
   exact rroot_two h2 hL (rroot_calls n _ (by rw [List.length_take]; omega) (by rw [List.length_take]; omega)) (rroot_calls n _ (by rw [List.length_drop]; omega) (by rw [List.length_drop]; omega))
  ·match L, h2 with
   | [], _ => exact rroot_nil
   | [x], _ => exact rroot_one x
   | x :: y :: L, h2 => simp at h2
end Go.Proofs.YtddnikpdmjogiaaGreat
