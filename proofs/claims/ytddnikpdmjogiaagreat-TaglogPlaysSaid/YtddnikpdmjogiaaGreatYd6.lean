/- A part of the proof. -/
import Derived.Test.YtddnikpdmjogiaaGreatYd4
import Derived.Test.YtddnikpdmjogiaaGreatYd5
import Derived.Deep.DeepCutAuto
import Derived.Deep.CutBlock
namespace Go.Proofs.YtddnikpdmjogiaaGreat
set_option linter.unusedVariables false
open Go.RowKit Go.MapKept
def DigsRPost (w : World) (L : List Dg) (e : Ending) (w' : World) : Prop := ∃ v, e = .returned v ∧ DigsR w.heap.size w' v L ∧ Keeps (fun _ => False) w w'
def RPathC (L : List Dg) : Prop := ∀ (w : World) (v : Value) (i : Nat), DgIn w v L → i < L.length → Calls Tryz.prog 53 #[v, .int .i64 (i : Int)] w (DigsRPost w (pathOf L i))
def RProofC (L : List Dg) : Prop := ∀ (w : World) (v : Value) (m : Nat) (whole : Bool), DgIn w v L → 0 < m → m ≤ L.length → Calls Tryz.prog 114 #[v, .int .i64 (m : Int), .bool whole] w (DigsRPost w (proofOf L m whole))
set_option maxRecDepth 100000 in
set_option maxHeartbeats 4000000 in
theorem rpath_two {L : List Dg} (h2 : 2 ≤ L.length) (hL : L.length ≤ 256) (ihl : RPathC (L.take (halfOf L.length))) (ihr : RPathC (L.drop (halfOf L.length))) : RPathC L := by
 intro w v i h hi
 have hlt := half_lt h2
 have hps := half_pos L.length
 obtain ⟨vl, hsl, hdl⟩ := h.takeR (k := halfOf L.length) (by omega)
 obtain ⟨vr, hsr, hdr⟩ := h.dropR (k := halfOf L.length) (by omega)
 obtain ⟨a, c, rfl, hc1, hc2⟩ := h.form
 have h32 := h.1
 have hkd : Keeps (fun _ => False) w w.drew := (Keeps.refl _ w).drew
 have hsp := fun W => rhalf_calls h2 hL W
 have HSP := hyd hsp
 have i2 : (2 : Int) ≤ L.length := by omega
 have i3 : (L.length : Int) ≤ 256 := by omega
 have e1 : ((L.length : Int) == 1) = false := by rw [beq_eq_false_iff_ne]; omega
 by_cases hik : i < halfOf L.length
 ·have hp := ihl w.drew vl i (hdl.keep hkd) (by rw [List.length_take]; omega)
  have hpl := path_len 256 (L.take (halfOf L.length)) i (by rw [List.length_take]; omega)
  rw [pathOf_left h2 hik]
  have HR := hyd (fun W (hk : Keeps (fun _ => False) w.drew W) => rroot_calls 256 _ (by rw [List.length_drop]; omega) (by rw [List.length_drop]; omega) W vr (hdr.keep (hkd.trans hk (fun _ _ e => e))))
  have hrl := rootOf_length (h32.drop (halfOf L.length))
  have j1 : (i : Int) < halfOf L.length := by omega
  have HP := hyd hp
  generalize rootOf (L.drop (halfOf L.length)) = rt at *
  generalize pathOf (L.take (halfOf L.length)) i = pt at *
  obtain ⟨cl, hcl⟩ : ∃ cl : List Value, cl = rt.map u8v := ⟨_, rfl⟩
  rw [← hcl] at HR
  have HRL := hyd hrl
  have HCL := hyd hcl
  have HCZ := hyd (show cl.length = 32 by rw [hcl, List.length_map, hrl])
  have HPL := hyd (show pt.length < 1099511627776 by omega)
  have HKD := hyd hkd
  generalize halfOf L.length = k at *
  clear hcl hrl hpl h hdl hdr hkd hsp ihl ihr h2 hL hlt hc1 hc2 h32 hp hik hi hps
  go_enter Tryz.func53, Tryz.ntmps53
  go_wp2_with fail
  refine (HSP.out _).mono ?_; rintro e w' ⟨rfl, hw'⟩; obtain rfl := hw'.symm
  go_wp2_with fail
  go_region_law (first | (refine step_wanted' rfl ?_; go_simp; go_at_call 51; refine (HR.out _ hk7).mono ?_; rintro e w8 ⟨rfl, hk8⟩; have hk78 := hk7.trans hk8 (fun _ _ e => e); obtain ⟨a9, c9, w9, hrun9, hd9, hk9, hat9⟩ := (hd7.quiet hk8).push (hk78.size) HRL.out HPL.out; rw [← HCL.out] at hrun9; dsimp only; rename_i K2 hK2; refine hK2 _ _ ?_; refine wpAny_ready (rs := [9]) (by kernel_rfl) (by simp) ?_; refine AllReady.cons rfl (fun K3 hK3 => ?_) AllReady.nil; refine step_wanted' rfl ?_; refine wp_buildD32 _ rfl cl HCZ.out rfl ?_; refine hK3 _ _ ?_) | (refine step_append_run rfl _ _ _ _ rfl rfl rfl hrun9 ?_) | (refine step_wanted' rfl ?_; go_simp; go_at_call 53; refine HP.out.mono ?_; rintro e w7 ⟨v7, rfl, hd7, hk7⟩) | fail)
  all_goals
   have HF := hyd (⟨_, rfl, hd9, (HKD.out.trans hk78 (fun _ _ e => e)).trans hk9 (fun b hb e => by
    have h9 : w.heap.size ≤ b := (hd7.lt b e).2
    omega)⟩ : DigsRPost w (pt ++ [rt]) (.returned (.slice a9 (pt.length + 1) c9)) w9)
   clear hat9 hk9 hd9 hrun9 hk78 hk8 hk7 hd7 hsl hsr
   generalize pt.length + 1 = n9 at HF ⊢
   go_wp2_with fail
   go_ret
   exact HF.out
 ·have hp := ihr w.drew vr (i - halfOf L.length) (hdr.keep hkd) (by rw [List.length_drop]; omega)
  have hpl := path_len 256 (L.drop (halfOf L.length)) (i - halfOf L.length) (by rw [List.length_drop]; omega)
  rw [pathOf_right h2 hik]
  have HR := hyd (fun W (hk : Keeps (fun _ => False) w.drew W) => rroot_calls 256 _ (by rw [List.length_take]; omega) (by rw [List.length_take]; omega) W vl (hdl.keep (hkd.trans hk (fun _ _ e => e))))
  have hrl := rootOf_length (h32.take (halfOf L.length))
  have j1 : ¬ (i : Int) < halfOf L.length := by omega
  have hw : wrap64 ((i : Int) - (halfOf L.length : Int)) = ((i - halfOf L.length : Nat) : Int) := by rw [IntWalk.wrap64_in _ (by omega)]; omega
  have HP := hyd hp
  generalize rootOf (L.take (halfOf L.length)) = rt at *
  generalize pathOf (L.drop (halfOf L.length)) (i - halfOf L.length) = pt at *
  obtain ⟨cl, hcl⟩ : ∃ cl : List Value, cl = rt.map u8v := ⟨_, rfl⟩
  rw [← hcl] at HR
  have HRL := hyd hrl
  have HCL := hyd hcl
  have HCZ := hyd (show cl.length = 32 by rw [hcl, List.length_map, hrl])
  have HPL := hyd (show pt.length < 1099511627776 by omega)
  have HKD := hyd hkd
  have HW := hyd (show IntKind.i64.wrap ((i : Int) - (halfOf L.length : Int)) = ((i - halfOf L.length : Nat) : Int) from (IntWalk.i64_left _).trans hw)
  clear hw
  generalize i - halfOf L.length = i1 at *
  generalize halfOf L.length = k at *
  clear hcl hrl hpl h hdl hdr hkd hsp ihl ihr h2 hL hlt hc1 hc2 h32 hp hik hi hps
  go_enter Tryz.func53, Tryz.ntmps53
  go_wp2_with fail
  refine (HSP.out _).mono ?_; rintro e w' ⟨rfl, hw'⟩; obtain rfl := hw'.symm
  go_wp2_with fail
  go_region_law (first | (refine step_wanted' rfl ?_; go_simp; go_at_call 51; refine (HR.out _ hk7).mono ?_; rintro e w8 ⟨rfl, hk8⟩; have hk78 := hk7.trans hk8 (fun _ _ e => e); obtain ⟨a9, c9, w9, hrun9, hd9, hk9, hat9⟩ := (hd7.quiet hk8).push (hk78.size) HRL.out HPL.out; rw [← HCL.out] at hrun9; dsimp only; rename_i K2 hK2; refine hK2 _ _ ?_; refine wpAny_ready (rs := [11]) (by kernel_rfl) (by simp) ?_; refine AllReady.cons rfl (fun K3 hK3 => ?_) AllReady.nil; refine step_wanted' rfl ?_; refine wp_buildD32 _ rfl cl HCZ.out rfl ?_; refine hK3 _ _ ?_) | (refine step_append_run rfl _ _ _ _ rfl rfl rfl hrun9 ?_) | (refine step_wanted' rfl ?_; go_simp; go_at_call 53; rw [HW.out]; refine HP.out.mono ?_; rintro e w7 ⟨v7, rfl, hd7, hk7⟩) | fail)
  all_goals
   have HF := hyd (⟨_, rfl, hd9, (HKD.out.trans hk78 (fun _ _ e => e)).trans hk9 (fun b hb e => by
    have h9 : w.heap.size ≤ b := (hd7.lt b e).2
    omega)⟩ : DigsRPost w (pt ++ [rt]) (.returned (.slice a9 (pt.length + 1) c9)) w9)
   clear hat9 hk9 hd9 hrun9 hk78 hk8 hk7 hd7 hsl hsr
   generalize pt.length + 1 = n9 at HF ⊢
   go_wp2_with fail
   go_ret
   exact HF.out
set_option maxRecDepth 100000 in
theorem rpath_one (x : Dg) : RPathC [x] := by
 intro w v i h hi
 obtain ⟨a, c, rfl, -, -⟩ := h.form
 have hp : pathOf [x] i = [] := by rw [pathOf, dif_neg (by simp)]
 rw [hp]
 clear h hi hp
 go_enter Tryz.func53, Tryz.ntmps53
 go_wp2_with fail
 go_ret
 exact ⟨_, rfl, DigsR.nil _ _, Keeps.refl _ _⟩
theorem rpath_calls1 : ∀ (n : Nat) (L : List Dg), L.length ≤ n → L.length ≤ 256 → RPathC L
 | 0, L, h, _ => fun w v i _ hi => by omega
 | n + 1, L, h, hL => by
  by_cases h2 : 2 ≤ L.length
  ·have h3 := half_lt h2
   have h4 := half_pos L.length
   exact rpath_two h2 hL (rpath_calls1 n _ (by rw [List.length_take]; omega) (by rw [List.length_take]; omega)) (rpath_calls1 n _ (by rw [List.length_drop]; omega) (by rw [List.length_drop]; omega))
  ·match L, h2 with
   | [], _ => exact fun w v i _ hi => by simp at hi
   | [x], _ => exact rpath_one x
   | x :: y :: L, h2 => simp at h2
set_option maxRecDepth 100000 in
set_option maxHeartbeats 4000000 in
theorem rproof_two {L : List Dg} (h2 : 2 ≤ L.length) (hL : L.length ≤ 256) (ihl : RProofC (L.take (halfOf L.length))) (ihr : RProofC (L.drop (halfOf L.length))) : ∀ (w : World) (v : Value) (m : Nat) (whole : Bool), DgIn w v L → 0 < m → m < L.length → Calls Tryz.prog 114 #[v, .int .i64 (m : Int), .bool whole] w (DigsRPost w (proofOf L m whole)) := by
 intro w v m whole h h0 hi
 have hne : m ≠ L.length := by omega
 have hlt := half_lt h2
 have hps := half_pos L.length
 obtain ⟨vl, hsl, hdl⟩ := h.takeR (k := halfOf L.length) (by omega)
 obtain ⟨vr, hsr, hdr⟩ := h.dropR (k := halfOf L.length) (by omega)
 obtain ⟨a, c, rfl, hc1, hc2⟩ := h.form
 have h32 := h.1
 have hkd : Keeps (fun _ => False) w w.drew := (Keeps.refl _ w).drew
 have hsp := fun W => rhalf_calls h2 hL W
 have HSP := hyd hsp
 have i2 : (2 : Int) ≤ L.length := by omega
 have i3 : (L.length : Int) ≤ 256 := by omega
 have e1 : ((m : Int) == (L.length : Int)) = false := by rw [beq_eq_false_iff_ne]; omega
 by_cases hik : m ≤ halfOf L.length
 ·have hp := ihl w.drew vl m whole (hdl.keep hkd) (by omega) (by rw [List.length_take]; omega)
  have hpl := proof_len 256 (L.take (halfOf L.length)) m whole (by rw [List.length_take]; omega)
  rw [proofOf_left h2 whole hne hik]
  have HR := hyd (fun W (hk : Keeps (fun _ => False) w.drew W) => rroot_calls 256 _ (by rw [List.length_drop]; omega) (by rw [List.length_drop]; omega) W vr (hdr.keep (hkd.trans hk (fun _ _ e => e))))
  have hrl := rootOf_length (h32.drop (halfOf L.length))
  have j1 : (m : Int) ≤ halfOf L.length := by omega
  have HP := hyd hp
  generalize rootOf (L.drop (halfOf L.length)) = rt at *
  generalize proofOf (L.take (halfOf L.length)) m whole = pt at *
  obtain ⟨cl, hcl⟩ : ∃ cl : List Value, cl = rt.map u8v := ⟨_, rfl⟩
  rw [← hcl] at HR
  have HRL := hyd hrl
  have HCL := hyd hcl
  have HCZ := hyd (show cl.length = 32 by rw [hcl, List.length_map, hrl])
  have HPL := hyd (show pt.length < 1099511627776 by omega)
  have HKD := hyd hkd
  generalize halfOf L.length = k at *
  clear hcl hrl hpl h hdl hdr hkd hsp ihl ihr h2 hL hlt hc1 hc2 h32 hp hik hi hps h0 hne
  go_enter Tryz.func114, Tryz.ntmps114
  go_wp2_with fail
  refine (HSP.out _).mono ?_; rintro e w' ⟨rfl, hw'⟩; obtain rfl := hw'.symm
  go_wp2_with fail
  go_region_law (first | (refine step_wanted' rfl ?_; go_simp; go_at_call 51; refine (HR.out _ hk7).mono ?_; rintro e w8 ⟨rfl, hk8⟩; have hk78 := hk7.trans hk8 (fun _ _ e => e); obtain ⟨a9, c9, w9, hrun9, hd9, hk9, hat9⟩ := (hd7.quiet hk8).push (hk78.size) HRL.out HPL.out; rw [← HCL.out] at hrun9; dsimp only; rename_i K2 hK2; refine hK2 _ _ ?_; refine wpAny_ready (rs := [10]) (by kernel_rfl) (by simp) ?_; refine AllReady.cons rfl (fun K3 hK3 => ?_) AllReady.nil; refine step_wanted' rfl ?_; refine wp_buildD32 _ rfl cl HCZ.out rfl ?_; refine hK3 _ _ ?_) | (refine step_append_run rfl _ _ _ _ rfl rfl rfl hrun9 ?_) | (refine step_wanted' rfl ?_; go_simp; go_at_call 114; refine HP.out.mono ?_; rintro e w7 ⟨v7, rfl, hd7, hk7⟩) | fail)
  all_goals
   have HF := hyd (⟨_, rfl, hd9, (HKD.out.trans hk78 (fun _ _ e => e)).trans hk9 (fun b hb e => by
    have h9 : w.heap.size ≤ b := (hd7.lt b e).2
    omega)⟩ : DigsRPost w (pt ++ [rt]) (.returned (.slice a9 (pt.length + 1) c9)) w9)
   clear hat9 hk9 hd9 hrun9 hk78 hk8 hk7 hd7 hsl hsr
   generalize pt.length + 1 = n9 at HF ⊢
   go_wp2_with fail
   go_ret
   exact HF.out
 ·have hp := ihr w.drew vr (m - halfOf L.length) false (hdr.keep hkd) (by omega) (by rw [List.length_drop]; omega)
  have hpl := proof_len 256 (L.drop (halfOf L.length)) (m - halfOf L.length) false (by rw [List.length_drop]; omega)
  rw [proofOf_right h2 whole hne hik]
  have HR := hyd (fun W (hk : Keeps (fun _ => False) w.drew W) => rroot_calls 256 _ (by rw [List.length_take]; omega) (by rw [List.length_take]; omega) W vl (hdl.keep (hkd.trans hk (fun _ _ e => e))))
  have hrl := rootOf_length (h32.take (halfOf L.length))
  have j1 : ¬ (m : Int) ≤ halfOf L.length := by omega
  have hw : wrap64 ((m : Int) - (halfOf L.length : Int)) = ((m - halfOf L.length : Nat) : Int) := by rw [IntWalk.wrap64_in _ (by omega)]; omega
  have HP := hyd hp
  generalize rootOf (L.take (halfOf L.length)) = rt at *
  generalize proofOf (L.drop (halfOf L.length)) (m - halfOf L.length) false = pt at *
  obtain ⟨cl, hcl⟩ : ∃ cl : List Value, cl = rt.map u8v := ⟨_, rfl⟩
  rw [← hcl] at HR
  have HRL := hyd hrl
  have HCL := hyd hcl
  have HCZ := hyd (show cl.length = 32 by rw [hcl, List.length_map, hrl])
  have HPL := hyd (show pt.length < 1099511627776 by omega)
  have HKD := hyd hkd
  have HW := hyd (show IntKind.i64.wrap ((m : Int) - (halfOf L.length : Int)) = ((m - halfOf L.length : Nat) : Int) from (IntWalk.i64_left _).trans hw)
  clear hw
  generalize m - halfOf L.length = m1 at *
  generalize halfOf L.length = k at *
  clear hcl hrl hpl h hdl hdr hkd hsp ihl ihr h2 hL hlt hc1 hc2 h32 hp hik hi hps h0 hne
  go_enter Tryz.func114, Tryz.ntmps114
  go_wp2_with fail
  refine (HSP.out _).mono ?_; rintro e w' ⟨rfl, hw'⟩; obtain rfl := hw'.symm
  go_wp2_with fail
  go_region_law (first | (refine step_wanted' rfl ?_; go_simp; go_at_call 51; refine (HR.out _ hk7).mono ?_; rintro e w8 ⟨rfl, hk8⟩; have hk78 := hk7.trans hk8 (fun _ _ e => e); obtain ⟨a9, c9, w9, hrun9, hd9, hk9, hat9⟩ := (hd7.quiet hk8).push (hk78.size) HRL.out HPL.out; rw [← HCL.out] at hrun9; dsimp only; rename_i K2 hK2; refine hK2 _ _ ?_; refine wpAny_ready (rs := [11]) (by kernel_rfl) (by simp) ?_; refine AllReady.cons rfl (fun K3 hK3 => ?_) AllReady.nil; refine step_wanted' rfl ?_; refine wp_buildD32 _ rfl cl HCZ.out rfl ?_; refine hK3 _ _ ?_) | (refine step_append_run rfl _ _ _ _ rfl rfl rfl hrun9 ?_) | (refine step_wanted' rfl ?_; go_simp; go_at_call 114; rw [HW.out]; refine HP.out.mono ?_; rintro e w7 ⟨v7, rfl, hd7, hk7⟩) | fail)
  all_goals
   have HF := hyd (⟨_, rfl, hd9, (HKD.out.trans hk78 (fun _ _ e => e)).trans hk9 (fun b hb e => by
    have h9 : w.heap.size ≤ b := (hd7.lt b e).2
    omega)⟩ : DigsRPost w (pt ++ [rt]) (.returned (.slice a9 (pt.length + 1) c9)) w9)
   clear hat9 hk9 hd9 hrun9 hk78 hk8 hk7 hd7 hsl hsr
   generalize pt.length + 1 = n9 at HF ⊢
   go_wp2_with fail
   go_ret
   exact HF.out
set_option maxRecDepth 100000 in
set_option maxHeartbeats 1000000 in
theorem rproof_end {L : List Dg} (hL : L.length ≤ 256) : ∀ (w : World) (v : Value) (whole : Bool), DgIn w v L → Calls Tryz.prog 114 #[v, .int .i64 (L.length : Int), .bool whole] w (DigsRPost w (proofOf L L.length whole)) := by
 intro w v whole h
 have hpr : proofOf L L.length whole = if whole = true then [] else [rootOf L] := by rw [proofOf, if_pos rfl]
 rw [hpr]
 have h32 := rootOf_length h.1
 have hrt := rroot_calls 256 L hL hL w v h
 obtain ⟨a, c, rfl, -, -⟩ := h.form
 have i3 : (L.length : Int) ≤ 256 := by omega
 cases whole with
 | true =>
  rw [if_pos rfl]
  clear h hpr hrt h32
  go_enter Tryz.func114, Tryz.ntmps114
  go_wp2_with fail
  go_ret
  exact ⟨_, rfl, DigsR.nil _ _, Keeps.refl _ _⟩
 | false =>
  rw [if_neg (by simp)]
  generalize rootOf L = rt at *
  obtain ⟨cl, hcl⟩ : ∃ cl : List Value, cl = rt.map u8v := ⟨_, rfl⟩
  have HF := hyd (fun (W : World) => (⟨⟨by simp [digCells, h32], .inr ⟨W.heap.size, 1, _, rfl, Nat.le_refl _, heap_alloc_new W _, by simp, by simp [maxLen], by simp [hcl, h32], by simp [hcl, digCells, List.take_of_length_le (show (rt.map u8v).length ≤ 32 by rw [List.length_map]; omega)]⟩⟩, fun y hy => by simp at hy; subst hy; exact h32⟩ : DigsR W.heap.size (W.alloc (.cells cl.toArray 100)) (.slice (some ⟨W.heap.size, 0, none⟩) 1 1) [rt]))
  rw [← hcl] at hrt
  have HRT := hyd hrt
  have HCZ := hyd (show cl.length = 32 by rw [hcl, List.length_map, h32])
  clear h hpr hrt h32 hcl
  go_enter Tryz.func114, Tryz.ntmps114
  go_wp2_with fail
  refine HRT.out.mono ?_
  rintro e w7 ⟨rfl, hk7⟩
  have HK := hyd hk7
  clear hk7
  go_wp2_with (refine wpList_buildD32 rfl _ rfl cl HCZ.out rfl ?_)
  go_ret
  exact ⟨_, rfl, DigsR.base (HF.out w7) HK.out.size, HK.out.trans ((Keeps.refl _ w7).alloc _) (fun _ _ e => e)⟩
theorem rproof_calls1 : ∀ (n : Nat) (L : List Dg), L.length ≤ n → L.length ≤ 256 → RProofC L
 | 0, L, h, _ => fun w v m whole _ h0 hm => by omega
 | n + 1, L, h, hL => fun w v m whole hd h0 hm => by
  by_cases he : m = L.length
  ·subst he
   exact rproof_end hL w v whole hd
  ·have h2 : 2 ≤ L.length := by omega
   have h3 := half_lt h2
   have h4 := half_pos L.length
   exact rproof_two h2 hL (rproof_calls1 n _ (by rw [List.length_take]; omega) (by rw [List.length_take]; omega)) (rproof_calls1 n _ (by rw [List.length_drop]; omega) (by rw [List.length_drop]; omega)) w v m whole hd h0 (by omega)
def DigsPost2 (w : World) (L : List Dg) (c : Int) (e : Ending) (w' : World) : Prop := ∃ v, e = .returned (.tuple #[v, .int .i64 c]) ∧ Digs w.heap.size w' v L ∧ Keeps (fun _ => False) w w'
set_option maxRecDepth 100000 in
theorem mpath_calls {L : List Dg} (hL : L.length ≤ 256) (w : World) (v : Value) (i : Int) (h : DgIn w v L) : Calls Tryz.prog 109 #[v, .int .i64 i] w (DigsPost2 w (if 0 ≤ i ∧ i < L.length then pathOf L i.toNat else []) (if 0 ≤ i ∧ i < L.length then 0 else 1)) := by
 obtain ⟨a, c, rfl, -, -⟩ := id h.form
 by_cases hi : 0 ≤ i ∧ i < L.length
 ·rw [if_pos hi, if_pos hi]
  obtain ⟨k, rfl⟩ : ∃ k : Nat, i = k := ⟨i.toNat, by omega⟩
  have hp := path_calls1 256 L hL hL w _ k h (by omega)
  rw [Int.toNat_natCast]
  have HP := hyd hp
  have i0 : (0 : Int) ≤ k := by omega
  have i1 : (k : Int) < L.length := by omega
  generalize pathOf L k = pt at *
  clear h hp hi
  go_enter Tryz.func109, Tryz.ntmps109
  go_wp2_with fail
  refine HP.out.mono ?_
  rintro e w1 ⟨v1, rfl, hd, hk⟩
  have HF := hyd (⟨_, rfl, hd, hk⟩ : DigsPost2 w pt 0 (.returned (.tuple #[v1, .int .i64 0])) w1)
  clear hd hk HP
  go_wp2_with fail
  go_ret2
  exact HF.out
 ·rw [if_neg hi, if_neg hi]
  by_cases h0 : i < 0
  ·clear h hi
   go_enter Tryz.func109, Tryz.ntmps109
   go_wp2_with fail
   go_ret2
   exact ⟨_, rfl, Digs.nil _ _, Keeps.refl _ _⟩
  ·have h1 : (L.length : Int) ≤ i := by omega
   clear h hi
   go_enter Tryz.func109, Tryz.ntmps109
   go_wp2_with fail
   go_ret2
   exact ⟨_, rfl, Digs.nil _ _, Keeps.refl _ _⟩
set_option maxRecDepth 100000 in
theorem mproof_calls {L : List Dg} (hL : L.length ≤ 256) (w : World) (v : Value) (m : Int) (h : DgIn w v L) : Calls Tryz.prog 94 #[v, .int .i64 m] w (DigsPost2 w (if 0 < m ∧ m ≤ L.length then proofOf L m.toNat true else []) (if 0 ≤ m ∧ m ≤ L.length then 0 else 1)) := by
 obtain ⟨a, c, rfl, -, -⟩ := id h.form
 by_cases h0 : m < 0
 ·rw [if_neg (by omega), if_neg (by omega)]
  clear h
  go_enter Tryz.func94, Tryz.ntmps94
  go_wp2_with fail
  go_ret2
  exact ⟨_, rfl, Digs.nil _ _, Keeps.refl _ _⟩
 ·by_cases h1 : (L.length : Int) < m
  ·rw [if_neg (by omega), if_neg (by omega)]
   clear h
   go_enter Tryz.func94, Tryz.ntmps94
   go_wp2_with fail
   go_ret2
   exact ⟨_, rfl, Digs.nil _ _, Keeps.refl _ _⟩
  ·by_cases h2 : m = 0
   ·subst h2
    rw [if_neg (by omega), if_pos (by omega)]
    have j1 : (0 : Int) ≤ L.length := by omega
    clear h h1 h0
    go_enter Tryz.func94, Tryz.ntmps94
    go_wp2_with fail
    go_ret2
    exact ⟨_, rfl, Digs.nil _ _, Keeps.refl _ _⟩
   ·obtain ⟨k, rfl⟩ : ∃ k : Nat, m = k := ⟨m.toNat, by omega⟩
    rw [if_pos (by omega), if_pos (by omega), Int.toNat_natCast]
    have hp := proof_calls1 256 L hL hL w _ k true h (by omega) (by omega)
    have HP := hyd hp
    have e0 : ((k : Int) == 0) = false := by rw [beq_eq_false_iff_ne]; exact h2
    generalize proofOf L k true = pt at *
    clear h hp h2
    go_enter Tryz.func94, Tryz.ntmps94
    go_wp2_with fail
    refine HP.out.mono ?_
    rintro e w1 ⟨v1, rfl, hd, hk⟩
    have HF := hyd (⟨_, rfl, hd, hk⟩ : DigsPost2 w pt 0 (.returned (.tuple #[v1, .int .i64 0])) w1)
    clear hd hk HP
    go_wp2_with fail
    go_ret2
    exact HF.out
end Go.Proofs.YtddnikpdmjogiaaGreat
