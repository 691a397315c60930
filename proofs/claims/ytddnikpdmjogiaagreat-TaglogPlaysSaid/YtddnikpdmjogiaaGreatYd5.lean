/- A part of the proof. -/
import Derived.Test.YtddnikpdmjogiaaGreatYd2
namespace Go.Proofs.YtddnikpdmjogiaaGreat
set_option linter.unusedVariables false
open Go.RowKit Go.MapKept
def DigsPost (w : World) (L : List Dg) (e : Ending) (w' : World) : Prop := ∃ v, e = .returned v ∧ Digs w.heap.size w' v L ∧ Keeps (fun _ => False) w w'
def PathC (L : List Dg) : Prop := ∀ (w : World) (v : Value) (i : Nat), DgIn w v L → i < L.length → Calls Tryz.prog 142 #[v, .int .i64 (i : Int)] w (DigsPost w (pathOf L i))
def ProofC (L : List Dg) : Prop := ∀ (w : World) (v : Value) (m : Nat) (whole : Bool), DgIn w v L → 0 < m → m ≤ L.length → Calls Tryz.prog 134 #[v, .int .i64 (m : Int), .bool whole] w (DigsPost w (proofOf L m whole))
theorem pathOf_left {L : List Dg} (h2 : 2 ≤ L.length) {i : Nat} (hi : i < halfOf L.length) : pathOf L i = pathOf (L.take (halfOf L.length)) i ++ [rootOf (L.drop (halfOf L.length))] := by rw [pathOf, dif_pos h2, if_pos hi]
theorem pathOf_right {L : List Dg} (h2 : 2 ≤ L.length) {i : Nat} (hi : ¬ i < halfOf L.length) : pathOf L i = pathOf (L.drop (halfOf L.length)) (i - halfOf L.length) ++ [rootOf (L.take (halfOf L.length))] := by rw [pathOf, dif_pos h2, if_neg hi]
theorem proofOf_left {L : List Dg} (h2 : 2 ≤ L.length) {m : Nat} (whole : Bool) (hm : m ≠ L.length) (hi : m ≤ halfOf L.length) : proofOf L m whole = proofOf (L.take (halfOf L.length)) m whole ++ [rootOf (L.drop (halfOf L.length))] := by rw [proofOf, if_neg hm, dif_pos h2, if_pos hi]
theorem proofOf_right {L : List Dg} (h2 : 2 ≤ L.length) {m : Nat} (whole : Bool) (hm : m ≠ L.length) (hi : ¬ m ≤ halfOf L.length) : proofOf L m whole = proofOf (L.drop (halfOf L.length)) (m - halfOf L.length) false ++ [rootOf (L.take (halfOf L.length))] := by rw [proofOf, if_neg hm, dif_pos h2, if_neg hi]
theorem path_len : ∀ (n : Nat) (L : List Dg) (i : Nat), L.length ≤ n → (pathOf L i).length ≤ n
 | 0, L, i, h => by rw [pathOf, dif_neg (by omega)]; simp
 | n + 1, L, i, h => by
  by_cases h2 : 2 ≤ L.length
  ·have h3 := half_lt h2
   have h4 := half_pos L.length
   rw [pathOf, dif_pos h2]
   split
   ·have := path_len n (L.take (halfOf L.length)) i (by rw [List.length_take]; omega)
    rw [List.length_append, List.length_singleton]; omega
   ·have := path_len n (L.drop (halfOf L.length)) (i - halfOf L.length) (by rw [List.length_drop]; omega)
    rw [List.length_append, List.length_singleton]; omega
  ·rw [pathOf, dif_neg h2]; simp
theorem proof_len : ∀ (n : Nat) (L : List Dg) (m : Nat) (whole : Bool), L.length ≤ n → (proofOf L m whole).length ≤ n + 1
 | 0, L, m, whole, h => by
  rw [proofOf]
  split
  ·split <;> simp
  ·rw [dif_neg (by omega)]; simp
 | n + 1, L, m, whole, h => by
  rw [proofOf]
  split
  ·split <;> simp
  ·by_cases h2 : 2 ≤ L.length
   ·have h3 := half_lt h2
    have h4 := half_pos L.length
    rw [dif_pos h2]
    split
    ·have := proof_len n (L.take (halfOf L.length)) m whole (by rw [List.length_take]; omega)
     rw [List.length_append, List.length_singleton]; omega
    ·have := proof_len n (L.drop (halfOf L.length)) (m - halfOf L.length) false (by rw [List.length_drop]; omega)
     rw [List.length_append, List.length_singleton]; omega
   ·rw [dif_neg h2]; simp
set_option maxRecDepth 100000 in
set_option maxHeartbeats 4000000 in
theorem path_two {L : List Dg} (h2 : 2 ≤ L.length) (hL : L.length ≤ 256) (ihl : PathC (L.take (halfOf L.length))) (ihr : PathC (L.drop (halfOf L.length))) : PathC L := by
 intro w v i h hi
 have hlt := half_lt h2
 have hps := half_pos L.length
 obtain ⟨vl, hsl, hdl⟩ := h.take (k := halfOf L.length) (by omega)
 obtain ⟨vr, hsr, hdr⟩ := h.drop (k := halfOf L.length) (by omega)
 obtain ⟨a, c, rfl, hc1, hc2⟩ := h.form
 have h32 := h.1
 have hkd : Keeps (fun _ => False) w w.drew := (Keeps.refl _ w).drew
 have hsp := fun W => split_runs h2 hL W
 have HSP := hyd hsp
 have i2 : (2 : Int) ≤ L.length := by omega
 have i3 : (L.length : Int) ≤ 256 := by omega
 have e1 : ((L.length : Int) == 1) = false := by rw [beq_eq_false_iff_ne]; omega
 by_cases hik : i < halfOf L.length
 ·have hp := ihl w.drew vl i (hdl.keep hkd) (by rw [List.length_take]; omega)
  have hpl := path_len 256 (L.take (halfOf L.length)) i (by rw [List.length_take]; omega)
  rw [pathOf_left h2 hik]
  have HR := hyd (fun W (hk : Keeps (fun _ => False) w.drew W) => root_calls 256 _ (by rw [List.length_drop]; omega) (by rw [List.length_drop]; omega) W vr (hdr.keep (hkd.trans hk (fun _ _ e => e))))
  have hrl := rootOf_length (h32.drop (halfOf L.length))
  have j1 : (i : Int) < halfOf L.length := by omega
  have HP := hyd hp
  generalize rootOf (L.drop (halfOf L.length)) = rt at *
  generalize pathOf (L.take (halfOf L.length)) i = pt at *
  obtain ⟨cl, hcl⟩ : ∃ cl : List Value, cl = rt.map u8v := ⟨_, rfl⟩
  rw [← hcl] at HR
  have HRL := hyd hrl
  have HCL := hyd hcl
  have HCZ := hyd (show cl.length = 32 by rw [hcl, List.length_map, hrl])
  have HPL := hyd (show pt.length < 1099511627776 by omega)
  have HKD := hyd hkd
  generalize halfOf L.length = k at *
  clear hcl hrl hpl h hdl hdr hkd hsp ihl ihr h2 hL hlt hc1 hc2 h32 hp hik hi hps
  go_enter Tryz.func142, Tryz.ntmps142
  go_wp2_with fail
  refine (HSP.out _).out.mono ?_; rintro e w' ⟨rfl, rfl⟩
  go_wp2_with fail
  go_region_law (first | (refine step_wanted' rfl ?_; go_simp; go_at_call 93; refine (HR.out _ hk7).mono ?_; rintro e w8 ⟨rfl, hk8⟩; have hk78 := hk7.trans hk8 (fun _ _ e => e); obtain ⟨a9, c9, w9, hrun9, hd9, hk9, hat9⟩ := (hd7.quiet hk8).push (hk78.size) HRL.out HPL.out; rw [← HCL.out] at hrun9; dsimp only; rename_i K2 hK2; refine hK2 _ _ ?_; refine wpAny_ready (rs := [9]) (by kernel_rfl) (by simp) ?_; refine AllReady.cons rfl (fun K3 hK3 => ?_) AllReady.nil; refine step_wanted' rfl ?_; refine wp_buildDig _ rfl cl HCZ.out rfl ?_; refine hK3 _ _ ?_) | (refine step_append_run rfl _ _ _ _ rfl rfl rfl hrun9 ?_) | (refine step_wanted' rfl ?_; go_simp; go_at_call 142; refine HP.out.mono ?_; rintro e w7 ⟨v7, rfl, hd7, hk7⟩) | fail)
  all_goals
   have HF := hyd (⟨_, rfl, hd9, (HKD.out.trans hk78 (fun _ _ e => e)).trans hk9 (fun b hb e => by
    have h9 : w.heap.size ≤ b := (hd7.lt b e).2
    omega)⟩ : DigsPost w (pt ++ [rt]) (.returned (.slice a9 (pt.length + 1) c9)) w9)
   clear hat9 hk9 hd9 hrun9 hk78 hk8 hk7 hd7 hsl hsr
   generalize pt.length + 1 = n9 at HF ⊢
   go_wp2_with fail
   go_ret
   exact HF.out
 ·have hp := ihr w.drew vr (i - halfOf L.length) (hdr.keep hkd) (by rw [List.length_drop]; omega)
  have hpl := path_len 256 (L.drop (halfOf L.length)) (i - halfOf L.length) (by rw [List.length_drop]; omega)
  rw [pathOf_right h2 hik]
  have HR := hyd (fun W (hk : Keeps (fun _ => False) w.drew W) => root_calls 256 _ (by rw [List.length_take]; omega) (by rw [List.length_take]; omega) W vl (hdl.keep (hkd.trans hk (fun _ _ e => e))))
  have hrl := rootOf_length (h32.take (halfOf L.length))
  have j1 : ¬ (i : Int) < halfOf L.length := by omega
  have hw : wrap64 ((i : Int) - (halfOf L.length : Int)) = ((i - halfOf L.length : Nat) : Int) := by rw [IntWalk.wrap64_in _ (by omega)]; omega
  have HP := hyd hp
  generalize rootOf (L.take (halfOf L.length)) = rt at *
  generalize pathOf (L.drop (halfOf L.length)) (i - halfOf L.length) = pt at *
  obtain ⟨cl, hcl⟩ : ∃ cl : List Value, cl = rt.map u8v := ⟨_, rfl⟩
  rw [← hcl] at HR
  have HRL := hyd hrl
  have HCL := hyd hcl
  have HCZ := hyd (show cl.length = 32 by rw [hcl, List.length_map, hrl])
  have HPL := hyd (show pt.length < 1099511627776 by omega)
  have HKD := hyd hkd
  have HW := hyd (show IntKind.i64.wrap ((i : Int) - (halfOf L.length : Int)) = ((i - halfOf L.length : Nat) : Int) from (IntWalk.i64_left _).trans hw)
  clear hw
  generalize i - halfOf L.length = i1 at *
  generalize halfOf L.length = k at *
  clear hcl hrl hpl h hdl hdr hkd hsp ihl ihr h2 hL hlt hc1 hc2 h32 hp hik hi hps
  go_enter Tryz.func142, Tryz.ntmps142
  go_wp2_with fail
  refine (HSP.out _).out.mono ?_; rintro e w' ⟨rfl, rfl⟩
  go_wp2_with fail
  go_region_law (first | (refine step_wanted' rfl ?_; go_simp; go_at_call 93; refine (HR.out _ hk7).mono ?_; rintro e w8 ⟨rfl, hk8⟩; have hk78 := hk7.trans hk8 (fun _ _ e => e); obtain ⟨a9, c9, w9, hrun9, hd9, hk9, hat9⟩ := (hd7.quiet hk8).push (hk78.size) HRL.out HPL.out; rw [← HCL.out] at hrun9; dsimp only; rename_i K2 hK2; refine hK2 _ _ ?_; refine wpAny_ready (rs := [11]) (by kernel_rfl) (by simp) ?_; refine AllReady.cons rfl (fun K3 hK3 => ?_) AllReady.nil; refine step_wanted' rfl ?_; refine wp_buildDig _ rfl cl HCZ.out rfl ?_; refine hK3 _ _ ?_) | (refine step_append_run rfl _ _ _ _ rfl rfl rfl hrun9 ?_) | (refine step_wanted' rfl ?_; go_simp; go_at_call 142; rw [HW.out]; refine HP.out.mono ?_; rintro e w7 ⟨v7, rfl, hd7, hk7⟩) | fail)
  all_goals
   have HF := hyd (⟨_, rfl, hd9, (HKD.out.trans hk78 (fun _ _ e => e)).trans hk9 (fun b hb e => by
    have h9 : w.heap.size ≤ b := (hd7.lt b e).2
    omega)⟩ : DigsPost w (pt ++ [rt]) (.returned (.slice a9 (pt.length + 1) c9)) w9)
   clear hat9 hk9 hd9 hrun9 hk78 hk8 hk7 hd7 hsl hsr
   generalize pt.length + 1 = n9 at HF ⊢
   go_wp2_with fail
   go_ret
   exact HF.out
set_option maxRecDepth 100000 in
theorem path_one (x : Dg) : PathC [x] := by
 intro w v i h hi
 obtain ⟨a, c, rfl, -, -⟩ := h.form
 have hp : pathOf [x] i = [] := by rw [pathOf, dif_neg (by simp)]
 rw [hp]
 clear h hi hp
 go_enter Tryz.func142, Tryz.ntmps142
 go_wp2_with fail
 go_ret
 exact ⟨_, rfl, Digs.nil _ _, Keeps.refl _ _⟩
theorem path_calls1 : ∀ (n : Nat) (L : List Dg), L.length ≤ n → L.length ≤ 256 → PathC L
 | 0, L, h, _ => fun w v i _ hi => by omega
 | n + 1, L, h, hL => by
  by_cases h2 : 2 ≤ L.length
  ·have h3 := half_lt h2
   have h4 := half_pos L.length
   exact path_two h2 hL (path_calls1 n _ (by rw [List.length_take]; omega) (by rw [List.length_take]; omega)) (path_calls1 n _ (by rw [List.length_drop]; omega) (by rw [List.length_drop]; omega))
  ·match L, h2 with
   | [], _ => exact fun w v i _ hi => by simp at hi
   | [x], _ => exact path_one x
   | x :: y :: L, h2 => simp at h2
set_option maxRecDepth 100000 in
set_option maxHeartbeats 4000000 in
theorem proof_two {L : List Dg} (h2 : 2 ≤ L.length) (hL : L.length ≤ 256) (ihl : ProofC (L.take (halfOf L.length))) (ihr : ProofC (L.drop (halfOf L.length))) : ∀ (w : World) (v : Value) (m : Nat) (whole : Bool), DgIn w v L → 0 < m → m < L.length → Calls Tryz.prog 134 #[v, .int .i64 (m : Int), .bool whole] w (DigsPost w (proofOf L m whole)) := by
 intro w v m whole h h0 hi
 have hne : m ≠ L.length := by omega
 have hlt := half_lt h2
 have hps := half_pos L.length
 obtain ⟨vl, hsl, hdl⟩ := h.take (k := halfOf L.length) (by omega)
 obtain ⟨vr, hsr, hdr⟩ := h.drop (k := halfOf L.length) (by omega)
 obtain ⟨a, c, rfl, hc1, hc2⟩ := h.form
 have h32 := h.1
 have hkd : Keeps (fun _ => False) w w.drew := (Keeps.refl _ w).drew
 have hsp := fun W => split_runs h2 hL W
 have HSP := hyd hsp
 have i2 : (2 : Int) ≤ L.length := by omega
 have i3 : (L.length : Int) ≤ 256 := by omega
 have e1 : ((m : Int) == (L.length : Int)) = false := by rw [beq_eq_false_iff_ne]; omega
 by_cases hik : m ≤ halfOf L.length
 ·have hp := ihl w.drew vl m whole (hdl.keep hkd) (by omega) (by rw [List.length_take]; omega)
  have hpl := proof_len 256 (L.take (halfOf L.length)) m whole (by rw [List.length_take]; omega)
  rw [proofOf_left h2 whole hne hik]
  have HR := hyd (fun W (hk : Keeps (fun _ => False) w.drew W) => root_calls 256 _ (by rw [List.length_drop]; omega) (by rw [List.length_drop]; omega) W vr (hdr.keep (hkd.trans hk (fun _ _ e => e))))
  have hrl := rootOf_length (h32.drop (halfOf L.length))
  have j1 : (m : Int) ≤ halfOf L.length := by omega
  have HP := hyd hp
  generalize rootOf (L.drop (halfOf L.length)) = rt at *
  generalize proofOf (L.take (halfOf L.length)) m whole = pt at *
  obtain ⟨cl, hcl⟩ : ∃ cl : List Value, cl = rt.map u8v := ⟨_, rfl⟩
  rw [← hcl] at HR
  have HRL := hyd hrl
  have HCL := hyd hcl
  have HCZ := hyd (show cl.length = 32 by rw [hcl, List.length_map, hrl])
  have HPL := hyd (show pt.length < 1099511627776 by omega)
  have HKD := hyd hkd
  generalize halfOf L.length = k at *
  clear hcl hrl hpl h hdl hdr hkd hsp ihl ihr h2 hL hlt hc1 hc2 h32 hp hik hi hps h0 hne
  go_enter Tryz.func134, Tryz.ntmps134
  go_wp2_with fail
  refine (HSP.out _).out.mono ?_; rintro e w' ⟨rfl, rfl⟩
  go_wp2_with fail
  go_region_law (first | (refine step_wanted' rfl ?_; go_simp; go_at_call 93; refine (HR.out _ hk7).mono ?_; rintro e w8 ⟨rfl, hk8⟩; have hk78 := hk7.trans hk8 (fun _ _ e => e); obtain ⟨a9, c9, w9, hrun9, hd9, hk9, hat9⟩ := (hd7.quiet hk8).push (hk78.size) HRL.out HPL.out; rw [← HCL.out] at hrun9; dsimp only; rename_i K2 hK2; refine hK2 _ _ ?_; refine wpAny_ready (rs := [10]) (by kernel_rfl) (by simp) ?_; refine AllReady.cons rfl (fun K3 hK3 => ?_) AllReady.nil; refine step_wanted' rfl ?_; refine wp_buildDig _ rfl cl HCZ.out rfl ?_; refine hK3 _ _ ?_) | (refine step_append_run rfl _ _ _ _ rfl rfl rfl hrun9 ?_) | (refine step_wanted' rfl ?_; go_simp; go_at_call 134; refine HP.out.mono ?_; rintro e w7 ⟨v7, rfl, hd7, hk7⟩) | fail)
  all_goals
   have HF := hyd (⟨_, rfl, hd9, (HKD.out.trans hk78 (fun _ _ e => e)).trans hk9 (fun b hb e => by
    have h9 : w.heap.size ≤ b := (hd7.lt b e).2
    omega)⟩ : DigsPost w (pt ++ [rt]) (.returned (.slice a9 (pt.length + 1) c9)) w9)
   clear hat9 hk9 hd9 hrun9 hk78 hk8 hk7 hd7 hsl hsr
   generalize pt.length + 1 = n9 at HF ⊢
   go_wp2_with fail
   go_ret
   exact HF.out
 ·have hp := ihr w.drew vr (m - halfOf L.length) false (hdr.keep hkd) (by omega) (by rw [List.length_drop]; omega)
  have hpl := proof_len 256 (L.drop (halfOf L.length)) (m - halfOf L.length) false (by rw [List.length_drop]; omega)
  rw [proofOf_right h2 whole hne hik]
  have HR := hyd (fun W (hk : Keeps (fun _ => False) w.drew W) => root_calls 256 _ (by rw [List.length_take]; omega) (by rw [List.length_take]; omega) W vl (hdl.keep (hkd.trans hk (fun _ _ e => e))))
  have hrl := rootOf_length (h32.take (halfOf L.length))
  have j1 : ¬ (m : Int) ≤ halfOf L.length := by omega
  have hw : wrap64 ((m : Int) - (halfOf L.length : Int)) = ((m - halfOf L.length : Nat) : Int) := by rw [IntWalk.wrap64_in _ (by omega)]; omega
  have HP := hyd hp
  generalize rootOf (L.take (halfOf L.length)) = rt at *
  generalize proofOf (L.drop (halfOf L.length)) (m - halfOf L.length) false = pt at *
  obtain ⟨cl, hcl⟩ : ∃ cl : List Value, cl = rt.map u8v := ⟨_, rfl⟩
  rw [← hcl] at HR
  have HRL := hyd hrl
  have HCL := hyd hcl
  have HCZ := hyd (show cl.length = 32 by rw [hcl, List.length_map, hrl])
  have HPL := hyd (show pt.length < 1099511627776 by omega)
  have HKD := hyd hkd
  have HW := hyd (show IntKind.i64.wrap ((m : Int) - (halfOf L.length : Int)) = ((m - halfOf L.length : Nat) : Int) from (IntWalk.i64_left _).trans hw)
  clear hw
  generalize m - halfOf L.length = m1 at *
  generalize halfOf L.length = k at *
  clear hcl hrl hpl h hdl hdr hkd hsp ihl ihr h2 hL hlt hc1 hc2 h32 hp hik hi hps h0 hne
  go_enter Tryz.func134, Tryz.ntmps134
  go_wp2_with fail
  refine (HSP.out _).out.mono ?_; rintro e w' ⟨rfl, rfl⟩
  go_wp2_with fail
  go_region_law (first | (refine step_wanted' rfl ?_; go_simp; go_at_call 93; refine (HR.out _ hk7).mono ?_; rintro e w8 ⟨rfl, hk8⟩; have hk78 := hk7.trans hk8 (fun _ _ e => e); obtain ⟨a9, c9, w9, hrun9, hd9, hk9, hat9⟩ := (hd7.quiet hk8).push (hk78.size) HRL.out HPL.out; rw [← HCL.out] at hrun9; dsimp only; rename_i K2 hK2; refine hK2 _ _ ?_; refine wpAny_ready (rs := [11]) (by kernel_rfl) (by simp) ?_; refine AllReady.cons rfl (fun K3 hK3 => ?_) AllReady.nil; refine step_wanted' rfl ?_; refine wp_buildDig _ rfl cl HCZ.out rfl ?_; refine hK3 _ _ ?_) | (refine step_append_run rfl _ _ _ _ rfl rfl rfl hrun9 ?_) | (refine step_wanted' rfl ?_; go_simp; go_at_call 134; rw [HW.out]; refine HP.out.mono ?_; rintro e w7 ⟨v7, rfl, hd7, hk7⟩) | fail)
  all_goals
   have HF := hyd (⟨_, rfl, hd9, (HKD.out.trans hk78 (fun _ _ e => e)).trans hk9 (fun b hb e => by
    have h9 : w.heap.size ≤ b := (hd7.lt b e).2
    omega)⟩ : DigsPost w (pt ++ [rt]) (.returned (.slice a9 (pt.length + 1) c9)) w9)
   clear hat9 hk9 hd9 hrun9 hk78 hk8 hk7 hd7 hsl hsr
   generalize pt.length + 1 = n9 at HF ⊢
   go_wp2_with fail
   go_ret
   exact HF.out
set_option maxRecDepth 100000 in
set_option maxHeartbeats 1000000 in
theorem proof_end {L : List Dg} (hL : L.length ≤ 256) : ∀ (w : World) (v : Value) (whole : Bool), DgIn w v L → Calls Tryz.prog 134 #[v, .int .i64 (L.length : Int), .bool whole] w (DigsPost w (proofOf L L.length whole)) := by
 intro w v whole h
 have hpr : proofOf L L.length whole = if whole = true then [] else [rootOf L] := by rw [proofOf, if_pos rfl]
 rw [hpr]
 have h32 := rootOf_length h.1
 have hrt := root_calls 256 L hL hL w v h
 obtain ⟨a, c, rfl, -, -⟩ := h.form
 have i3 : (L.length : Int) ≤ 256 := by omega
 cases whole with
 | true =>
  rw [if_pos rfl]
  clear h hpr hrt h32
  go_enter Tryz.func134, Tryz.ntmps134
  go_wp2_with fail
  go_ret
  exact ⟨_, rfl, Digs.nil _ _, Keeps.refl _ _⟩
 | false =>
  rw [if_neg (by simp)]
  generalize rootOf L = rt at *
  obtain ⟨cl, hcl⟩ : ∃ cl : List Value, cl = rt.map u8v := ⟨_, rfl⟩
  have HF := hyd (fun (W : World) => (⟨⟨by simp [digCells, h32], .inr ⟨W.heap.size, 1, _, rfl, Nat.le_refl _, heap_alloc_new W _, by simp, by simp [maxLen], by simp [hcl, h32], by simp [hcl, digCells, List.take_of_length_le (show (rt.map u8v).length ≤ 32 by rw [List.length_map]; omega)]⟩⟩, fun y hy => by simp at hy; subst hy; exact h32⟩ : Digs W.heap.size (W.alloc (.cells cl.toArray 101)) (.slice (some ⟨W.heap.size, 0, none⟩) 1 1) [rt]))
  rw [← hcl] at hrt
  have HRT := hyd hrt
  have HCZ := hyd (show cl.length = 32 by rw [hcl, List.length_map, h32])
  clear h hpr hrt h32 hcl
  go_enter Tryz.func134, Tryz.ntmps134
  go_wp2_with fail
  refine HRT.out.mono ?_
  rintro e w7 ⟨rfl, hk7⟩
  have HK := hyd hk7
  clear hk7
  go_wp2_with (refine wpList_buildDig rfl _ rfl cl HCZ.out rfl ?_)
  go_ret
  exact ⟨_, rfl, Digs.base (HF.out w7) HK.out.size, HK.out.trans ((Keeps.refl _ w7).alloc _) (fun _ _ e => e)⟩
theorem proof_calls1 : ∀ (n : Nat) (L : List Dg), L.length ≤ n → L.length ≤ 256 → ProofC L
 | 0, L, h, _ => fun w v m whole _ h0 hm => by omega
 | n + 1, L, h, hL => fun w v m whole hd h0 hm => by
  by_cases he : m = L.length
  ·subst he
   exact proof_end hL w v whole hd
  ·have h2 : 2 ≤ L.length := by omega
   have h3 := half_lt h2
   have h4 := half_pos L.length
   exact proof_two h2 hL (proof_calls1 n _ (by rw [List.length_take]; omega) (by rw [List.length_take]; omega)) (proof_calls1 n _ (by rw [List.length_drop]; omega) (by rw [List.length_drop]; omega)) w v m whole hd h0 (by omega)
end Go.Proofs.YtddnikpdmjogiaaGreat
