/- Extends, of no leaves; Extends of a proof. -/
import Derived.Test.YtaeabdghlkdkjaaGreatMrkX
namespace Go.Proofs.YtaeabdghlkdkjaaGreat
set_option linter.unusedVariables false
open Go.RowKit Go.MapKept

set_option maxRecDepth 100000 in
set_option maxHeartbeats 4000000 in
theorem extends_none {w : World} {n : Nat} {od rd : Dg} (ho : od = sumOf []) (hr : rd.length = 32) (hn : n = 0 → rd = od) {v : Value} (h : DgIn w v []) :
    Calls Tryz.prog 51 #[.agg (od.map u8v).toArray, .int .i64 0, .agg (rd.map u8v).toArray, .int .i64 (n : Int), v] w (QuietP w (.bool true)) := by
  have hs := fun W : World => sum_calls (w := W) (v := .slice none 0 0) (l := []) (.inl ⟨rfl, rfl⟩) (by simp)
  rw [← ho] at hs
  have ho32 : od.length = 32 := by rw [ho]; exact sumOf_length _
  obtain ⟨va, vc, rfl, -, -⟩ := id h.form
  have heq := dig_eq od od ho32 ho32
  obtain ⟨ol, hol⟩ : ∃ ol : List Value, ol = od.map u8v := ⟨_, rfl⟩
  obtain ⟨rl, hrl⟩ : ∃ rl : List Value, rl = rd.map u8v := ⟨_, rfl⟩
  have hrl2 : n = 0 → rl = ol := fun e => by rw [hrl, hol, hn e]
  have hci : ∀ {d : Dg} {l : List Value}, l = d.map u8v → d.length = 32 → (Tryz.prog.info? 83).map (·.size) = some l.length := fun {d l} e hd => by
    have h := dig_info (show l.toArray.size = 32 by rw [e]; simp [hd])
    rw [List.size_toArray] at h
    exact h
  have HCO := Lib.hid (hci hol ho32)
  have HCR := Lib.hid (hci hrl hr)
  rw [← hol] at hs heq ⊢
  rw [← hrl]
  have HS := Lib.hid hs
  have heq1 : ∀ W, (Op.equalIn 10000 83 (.agg ol.toArray) (.agg ol.toArray)).run Tryz.prog W = .ok true W := fun W => by have h := heq W; simpa using h
  have hk0 : Keeps (fun _ => False) w ((w.alloc (.cells ol.toArray 83)).alloc (.cells rl.toArray 83)) := ((Keeps.refl _ w).alloc _).alloc _
  have hb5 : ((w.alloc (.cells ol.toArray 83)).alloc (.cells rl.toArray 83)).heap[w.heap.size]? = some (.cells ol.toArray 83) := ((Keeps.refl (fun _ => False) _).alloc _).at (heap_alloc_new w _) (fun e => e)
  have hb7 : ((w.alloc (.cells ol.toArray 83)).alloc (.cells rl.toArray 83)).heap[w.heap.size + 1]? = some (.cells rl.toArray 83) := by
    have := heap_alloc_new (w.alloc (.cells ol.toArray 83)) (.cells rl.toArray 83)
    rw [World.size_alloc] at this
    exact this
  obtain ⟨W, hW⟩ : ∃ W, W = (w.alloc (.cells ol.toArray 83)).alloc (.cells rl.toArray 83) := ⟨_, rfl⟩
  rw [← hW] at hk0 hb5 hb7
  have HRO := Lib.hid (fun w' (h : Keeps (fun _ => False) W w') => (⟨fun k u hu => by
    rw [Nat.zero_add]
    exact cell_at (h.at hb5 (fun e => e)) (by rw [List.getElem?_toArray]; exact hu), fun k u hu => by
    rw [Nat.zero_add]
    exact cell_at (h.at hb7 (fun e => e)) (by rw [List.getElem?_toArray]; exact hu)⟩ : w'.rangeAt w.heap.size 0 ol ∧ w'.rangeAt (w.heap.size + 1) 0 rl))
  have HK0 := Lib.hid hk0
  have HW := Lib.hid hW
  have HRL := Lib.hid hrl2
  have i0 : (0 : Int) ≤ n := by omega
  clear ho hr hn h hs ho32 heq hol hrl hci hk0 hb5 hb7 hW hrl2
  by_cases hz : 0 < n
  · have i1 : (0 : Int) < n := by omega
    clear HRL
    go_enter Tryz.func51, Tryz.ntmps51
    go_wp2_with fail
    change Code.wp _ _ _ _ ((w.alloc (.cells ol.toArray 83)).alloc (.cells rl.toArray 83))
    rw [← HW.out]
    refine wp_region_held_drew (S := fun w' => Keeps (fun _ => False) W w') (by kernel_rfl) (by exact (Keeps.refl _ W).drew) (fun hHeld => ?_)
    refine wpAnyH_take (i := 0) (oi := { dst := some 26, op := _, type := _, pos := _, after := _, guard := _ }) (v := .slice va 0 vc) rfl (by kernel_rfl) (by kernel_rfl) (by kernel_rfl) (fun _ _ _ h => h) (Or.inl ⟨by rfl, by intro w hSw; (try dsimp only at hSw); go_simp⟩) hHeld ?_
    try simp only [Act.put, List.setIfInBounds_toArray, List.set_cons_zero, List.set_cons_succ]
    refine wpAnyH_take (i := 1) (oi := { dst := some 27, op := _, type := _, pos := _, after := _, guard := _ }) (v := .int .i64 0) rfl (by kernel_rfl) (by kernel_rfl) (by kernel_rfl) (fun _ _ _ h => h) (Or.inl ⟨by rfl, by intro w hSw; (try dsimp only at hSw); go_simp⟩) hHeld ?_
    try simp only [Act.put, List.setIfInBounds_toArray, List.set_cons_zero, List.set_cons_succ]
    refine wpAnyH_take (i := 2) (oi := { dst := some 28, op := _, type := _, pos := _, after := _, guard := _ }) (v := .bool true) rfl (by kernel_rfl) (by kernel_rfl) (by kernel_rfl) (fun _ _ _ h => h) (Or.inl ⟨by rfl, by intro w hSw; (try dsimp only at hSw); go_simp⟩) hHeld ?_
    try simp only [Act.put, List.setIfInBounds_toArray, List.set_cons_zero, List.set_cons_succ]
    refine wpAnyH_take (i := 3) (oi := { dst := some 29, op := _, type := _, pos := _, after := _, guard := _ }) (v := .bool true) rfl (by kernel_rfl) (by kernel_rfl) (by kernel_rfl) (fun _ _ _ h => h) (Or.inl ⟨by rfl, by intro w hSw; (try dsimp only at hSw); go_simp⟩) hHeld ?_
    try simp only [Act.put, List.setIfInBounds_toArray, List.set_cons_zero, List.set_cons_succ]
    refine wpAnyH_take (i := 4) (oi := { dst := some 30, op := _, type := _, pos := _, after := _, guard := _ }) (v := .agg (ol).toArray) rfl (by kernel_rfl) (by kernel_rfl) (by kernel_rfl) (fun _ _ _ h => h) (yieldsIf_load_mid (by rfl) _ _ rfl (w.heap.size) (0) rfl (ol) _ (fun w' h => (HRO.out w' h).1) Tryz.underlying83 rfl HCO.out) hHeld ?_
    try simp only [Act.put, List.setIfInBounds_toArray, List.set_cons_zero, List.set_cons_succ]
    refine wpAnyH_ready (rs := [5]) (by kernel_rfl) (by simp) ?_
    refine AllReadyH.cons (o := { dst := some 31, op := _, type := _, pos := _, after := _, guard := _ }) rfl (fun K hK => ?_) AllReadyH.nil
    go_simp
    go_at_call 116
    refine (HS.out _).mono ?_
    rintro e w7 ⟨rfl, hk7⟩
    refine hK.out _ _ (by exact hHeld.trans hk7 (fun _ _ e => e)) (fun hHeld1 => ?_)
    clear hK K
    try simp only [Act.put, List.setIfInBounds_toArray, List.set_cons_zero, List.set_cons_succ]
    refine wpAnyH_take (i := 6) (oi := { dst := some 32, op := _, type := _, pos := _, after := _, guard := _ }) (v := .bool true) rfl (by kernel_rfl) (by kernel_rfl) (by kernel_rfl) (fun _ _ _ h => h) (Or.inl ⟨by rfl, by intro w hSw; (try dsimp only at hSw); go_simp⟩) hHeld1 ?_
    try simp only [Act.put, List.setIfInBounds_toArray, List.set_cons_zero, List.set_cons_succ]
    refine wpAnyH_take (i := 7) (oi := { dst := some 33, op := _, type := _, pos := _, after := _, guard := _ }) (v := .bool true) rfl (by kernel_rfl) (by kernel_rfl) (by kernel_rfl) (fun _ _ _ h => h) (Or.inl ⟨by rfl, by intro w hSw; (try dsimp only at hSw); go_simp⟩) hHeld1 ?_
    try simp only [Act.put, List.setIfInBounds_toArray, List.set_cons_zero, List.set_cons_succ]
    refine wpAnyH_take (i := 8) (oi := { dst := some 34, op := _, type := _, pos := _, after := _, guard := _ }) (v := .bool true) rfl (by kernel_rfl) (by kernel_rfl) (by kernel_rfl) (fun _ _ _ h => h) (Or.inl ⟨by rfl, by intro w hSw; (try dsimp only at hSw); go_simp⟩) hHeld1 ?_
    try simp only [Act.put, List.setIfInBounds_toArray, List.set_cons_zero, List.set_cons_succ]
    refine wpAnyH_take (i := 9) (oi := { dst := some 35, op := _, type := _, pos := _, after := _, guard := _ }) (v := .int .i64 (n : Int)) rfl (by kernel_rfl) (by kernel_rfl) (by kernel_rfl) (fun _ _ _ h => h) (Or.inl ⟨by rfl, by intro w hSw; (try dsimp only at hSw); go_simp⟩) hHeld1 ?_
    try simp only [Act.put, List.setIfInBounds_toArray, List.set_cons_zero, List.set_cons_succ]
    refine wpAnyH_take (i := 10) (oi := { dst := some 36, op := _, type := _, pos := _, after := _, guard := _ }) (v := .bool true) rfl (by kernel_rfl) (by kernel_rfl) (by kernel_rfl) (fun _ _ _ h => h) (Or.inl ⟨by rfl, by intro w hSw; (try dsimp only at hSw); go_simp⟩) hHeld1 ?_
    try simp only [Act.put, List.setIfInBounds_toArray, List.set_cons_zero, List.set_cons_succ]
    refine wpAnyH_take (i := 11) (oi := { dst := some 37, op := _, type := _, pos := _, after := _, guard := _ }) (v := .bool true) rfl (by kernel_rfl) (by kernel_rfl) (by kernel_rfl) (fun _ _ _ h => h) (Or.inl ⟨by rfl, by intro w hSw; (try dsimp only at hSw); go_simp⟩) hHeld1 ?_
    try simp only [Act.put, List.setIfInBounds_toArray, List.set_cons_zero, List.set_cons_succ]
    refine wpAnyH_take (i := 12) (oi := { dst := some 38, op := _, type := _, pos := _, after := _, guard := _ }) (v := undef) rfl (by kernel_rfl) (by kernel_rfl) (by kernel_rfl) (fun _ _ _ h => h) (Or.inr ⟨by kernel_rfl, rfl⟩) hHeld1 ?_
    try simp only [Act.put, List.setIfInBounds_toArray, List.set_cons_zero, List.set_cons_succ]
    refine wpAnyH_take (i := 13) (oi := { dst := some 39, op := _, type := _, pos := _, after := _, guard := _ }) (v := undef) rfl (by kernel_rfl) (by kernel_rfl) (by kernel_rfl) (fun _ _ _ h => h) (Or.inr ⟨by kernel_rfl, rfl⟩) hHeld1 ?_
    try simp only [Act.put, List.setIfInBounds_toArray, List.set_cons_zero, List.set_cons_succ]
    refine wpAnyH_take (i := 14) (oi := { dst := some 40, op := _, type := _, pos := _, after := _, guard := _ }) (v := undef) rfl (by kernel_rfl) (by kernel_rfl) (by kernel_rfl) (fun _ _ _ h => h) (Or.inr ⟨by kernel_rfl, rfl⟩) hHeld1 ?_
    try simp only [Act.put, List.setIfInBounds_toArray, List.set_cons_zero, List.set_cons_succ]
    refine wpAnyH_take (i := 15) (oi := { dst := some 41, op := _, type := _, pos := _, after := _, guard := _ }) (v := .bool true) rfl (by kernel_rfl) (by kernel_rfl) (by kernel_rfl) (fun _ _ _ h => h) (Or.inl ⟨by rfl, by intro w hSw; (try dsimp only at hSw); go_simp⟩) hHeld1 ?_
    try simp only [Act.put, List.setIfInBounds_toArray, List.set_cons_zero, List.set_cons_succ]
    refine wpAnyH_take (i := 16) (oi := { dst := some 42, op := _, type := _, pos := _, after := _, guard := _ }) (v := .bool true) rfl (by kernel_rfl) (by kernel_rfl) (by kernel_rfl) (fun _ _ _ h => h) (Or.inl ⟨by rfl, by intro w hSw; (try dsimp only at hSw); go_simp⟩) hHeld1 ?_
    try simp only [Act.put, List.setIfInBounds_toArray, List.set_cons_zero, List.set_cons_succ]
    refine wpAnyH_take (i := 17) (oi := { dst := some 10, op := _, type := _, pos := _, after := _, guard := _ }) (v := .bool true) rfl (by kernel_rfl) (by kernel_rfl) (by kernel_rfl) (fun _ _ _ h => h) (Or.inl ⟨by rfl, by intro w hSw; (try dsimp only at hSw); go_simp⟩) hHeld1 ?_
    try simp only [Act.put, List.setIfInBounds_toArray, List.set_cons_zero, List.set_cons_succ]
    refine wpAnyH_done (by kernel_rfl) ?_ _
    go_wp2_with fail
    go_ret
    exact ⟨rfl, HK0.out.trans hHeld1 (fun _ _ e => e)⟩
  · obtain rfl : n = 0 := by omega
    obtain rfl := HRL.out rfl
    clear hz HRL
    go_enter Tryz.func51, Tryz.ntmps51
    go_wp2_with fail
    change Code.wp _ _ _ _ ((w.alloc (.cells rl.toArray 83)).alloc (.cells rl.toArray 83))
    rw [← HW.out]
    refine wp_region_held_drew (S := fun w' => Keeps (fun _ => False) W w') (by kernel_rfl) (by exact (Keeps.refl _ W).drew) (fun hHeld => ?_)
    refine wpAnyH_take (i := 0) (oi := { dst := some 26, op := _, type := _, pos := _, after := _, guard := _ }) (v := .slice va 0 vc) rfl (by kernel_rfl) (by kernel_rfl) (by kernel_rfl) (fun _ _ _ h => h) (Or.inl ⟨by rfl, by intro w hSw; (try dsimp only at hSw); go_simp⟩) hHeld ?_
    try simp only [Act.put, List.setIfInBounds_toArray, List.set_cons_zero, List.set_cons_succ]
    refine wpAnyH_take (i := 1) (oi := { dst := some 27, op := _, type := _, pos := _, after := _, guard := _ }) (v := .int .i64 0) rfl (by kernel_rfl) (by kernel_rfl) (by kernel_rfl) (fun _ _ _ h => h) (Or.inl ⟨by rfl, by intro w hSw; (try dsimp only at hSw); go_simp⟩) hHeld ?_
    try simp only [Act.put, List.setIfInBounds_toArray, List.set_cons_zero, List.set_cons_succ]
    refine wpAnyH_take (i := 2) (oi := { dst := some 28, op := _, type := _, pos := _, after := _, guard := _ }) (v := .bool true) rfl (by kernel_rfl) (by kernel_rfl) (by kernel_rfl) (fun _ _ _ h => h) (Or.inl ⟨by rfl, by intro w hSw; (try dsimp only at hSw); go_simp⟩) hHeld ?_
    try simp only [Act.put, List.setIfInBounds_toArray, List.set_cons_zero, List.set_cons_succ]
    refine wpAnyH_take (i := 3) (oi := { dst := some 29, op := _, type := _, pos := _, after := _, guard := _ }) (v := .bool true) rfl (by kernel_rfl) (by kernel_rfl) (by kernel_rfl) (fun _ _ _ h => h) (Or.inl ⟨by rfl, by intro w hSw; (try dsimp only at hSw); go_simp⟩) hHeld ?_
    try simp only [Act.put, List.setIfInBounds_toArray, List.set_cons_zero, List.set_cons_succ]
    refine wpAnyH_take (i := 4) (oi := { dst := some 30, op := _, type := _, pos := _, after := _, guard := _ }) (v := .agg (rl).toArray) rfl (by kernel_rfl) (by kernel_rfl) (by kernel_rfl) (fun _ _ _ h => h) (yieldsIf_load_mid (by rfl) _ _ rfl (w.heap.size) (0) rfl (rl) _ (fun w' h => (HRO.out w' h).1) Tryz.underlying83 rfl HCO.out) hHeld ?_
    try simp only [Act.put, List.setIfInBounds_toArray, List.set_cons_zero, List.set_cons_succ]
    refine wpAnyH_ready (rs := [5]) (by kernel_rfl) (by simp) ?_
    refine AllReadyH.cons (o := { dst := some 31, op := _, type := _, pos := _, after := _, guard := _ }) rfl (fun K hK => ?_) AllReadyH.nil
    go_simp
    go_at_call 116
    refine (HS.out _).mono ?_
    rintro e w7 ⟨rfl, hk7⟩
    refine hK.out _ _ (by exact hHeld.trans hk7 (fun _ _ e => e)) (fun hHeld1 => ?_)
    clear hK K
    try simp only [Act.put, List.setIfInBounds_toArray, List.set_cons_zero, List.set_cons_succ]
    refine wpAnyH_take (i := 6) (oi := { dst := some 32, op := _, type := _, pos := _, after := _, guard := _ }) (v := .bool true) rfl (by kernel_rfl) (by kernel_rfl) (by kernel_rfl) (fun _ _ _ h => h) (Or.inl ⟨by rfl, by intro w hSw; (try dsimp only at hSw); go_simp⟩) hHeld1 ?_
    try simp only [Act.put, List.setIfInBounds_toArray, List.set_cons_zero, List.set_cons_succ]
    refine wpAnyH_take (i := 7) (oi := { dst := some 33, op := _, type := _, pos := _, after := _, guard := _ }) (v := .bool true) rfl (by kernel_rfl) (by kernel_rfl) (by kernel_rfl) (fun _ _ _ h => h) (Or.inl ⟨by rfl, by intro w hSw; (try dsimp only at hSw); go_simp⟩) hHeld1 ?_
    try simp only [Act.put, List.setIfInBounds_toArray, List.set_cons_zero, List.set_cons_succ]
    refine wpAnyH_take (i := 8) (oi := { dst := some 34, op := _, type := _, pos := _, after := _, guard := _ }) (v := .bool true) rfl (by kernel_rfl) (by kernel_rfl) (by kernel_rfl) (fun _ _ _ h => h) (Or.inl ⟨by rfl, by intro w hSw; (try dsimp only at hSw); go_simp⟩) hHeld1 ?_
    try simp only [Act.put, List.setIfInBounds_toArray, List.set_cons_zero, List.set_cons_succ]
    refine wpAnyH_take (i := 9) (oi := { dst := some 35, op := _, type := _, pos := _, after := _, guard := _ }) (v := .int .i64 0) rfl (by kernel_rfl) (by kernel_rfl) (by kernel_rfl) (fun _ _ _ h => h) (Or.inl ⟨by rfl, by intro w hSw; (try dsimp only at hSw); go_simp⟩) hHeld1 ?_
    try simp only [Act.put, List.setIfInBounds_toArray, List.set_cons_zero, List.set_cons_succ]
    refine wpAnyH_take (i := 10) (oi := { dst := some 36, op := _, type := _, pos := _, after := _, guard := _ }) (v := .bool false) rfl (by kernel_rfl) (by kernel_rfl) (by kernel_rfl) (fun _ _ _ h => h) (Or.inl ⟨by rfl, by intro w hSw; (try dsimp only at hSw); go_simp⟩) hHeld1 ?_
    try simp only [Act.put, List.setIfInBounds_toArray, List.set_cons_zero, List.set_cons_succ]
    refine wpAnyH_take (i := 11) (oi := { dst := some 37, op := _, type := _, pos := _, after := _, guard := _ }) (v := .bool false) rfl (by kernel_rfl) (by kernel_rfl) (by kernel_rfl) (fun _ _ _ h => h) (Or.inl ⟨by rfl, by intro w hSw; (try dsimp only at hSw); go_simp⟩) hHeld1 ?_
    try simp only [Act.put, List.setIfInBounds_toArray, List.set_cons_zero, List.set_cons_succ]
    refine wpAnyH_take (i := 12) (oi := { dst := some 38, op := _, type := _, pos := _, after := _, guard := _ }) (v := .agg (rl).toArray) rfl (by kernel_rfl) (by kernel_rfl) (by kernel_rfl) (fun _ _ _ h => h) (yieldsIf_load_mid (by rfl) _ _ rfl (w.heap.size + 1) (0) rfl (rl) _ (fun w' h => (HRO.out w' h).2) Tryz.underlying83 rfl HCO.out) hHeld1 ?_
    try simp only [Act.put, List.setIfInBounds_toArray, List.set_cons_zero, List.set_cons_succ]
    refine wpAnyH_take (i := 13) (oi := { dst := some 39, op := _, type := _, pos := _, after := _, guard := _ }) (v := .agg (rl).toArray) rfl (by kernel_rfl) (by kernel_rfl) (by kernel_rfl) (fun _ _ _ h => h) (yieldsIf_load_mid (by rfl) _ _ rfl (w.heap.size) (0) rfl (rl) _ (fun w' h => (HRO.out w' h).1) Tryz.underlying83 rfl HCO.out) hHeld1 ?_
    try simp only [Act.put, List.setIfInBounds_toArray, List.set_cons_zero, List.set_cons_succ]
    refine wpAnyH_take (i := 14) (oi := { dst := some 40, op := _, type := _, pos := _, after := _, guard := _ }) (v := .bool true) rfl (by kernel_rfl) (by kernel_rfl) (by kernel_rfl) (fun _ _ _ h => h) (Or.inl ⟨by rfl, by intro w hSw; (try dsimp only at hSw); go_simp⟩) hHeld1 ?_
    try simp only [Act.put, List.setIfInBounds_toArray, List.set_cons_zero, List.set_cons_succ]
    refine wpAnyH_take (i := 15) (oi := { dst := some 41, op := _, type := _, pos := _, after := _, guard := _ }) (v := .bool true) rfl (by kernel_rfl) (by kernel_rfl) (by kernel_rfl) (fun _ _ _ h => h) (Or.inl ⟨by rfl, by intro w hSw; (try dsimp only at hSw); go_simp⟩) hHeld1 ?_
    try simp only [Act.put, List.setIfInBounds_toArray, List.set_cons_zero, List.set_cons_succ]
    refine wpAnyH_take (i := 16) (oi := { dst := some 42, op := _, type := _, pos := _, after := _, guard := _ }) (v := .bool true) rfl (by kernel_rfl) (by kernel_rfl) (by kernel_rfl) (fun _ _ _ h => h) (Or.inl ⟨by rfl, by intro w hSw; (try dsimp only at hSw); go_simp⟩) hHeld1 ?_
    try simp only [Act.put, List.setIfInBounds_toArray, List.set_cons_zero, List.set_cons_succ]
    refine wpAnyH_take (i := 17) (oi := { dst := some 10, op := _, type := _, pos := _, after := _, guard := _ }) (v := .bool true) rfl (by kernel_rfl) (by kernel_rfl) (by kernel_rfl) (fun _ _ _ h => h) (Or.inl ⟨by rfl, by intro w hSw; (try dsimp only at hSw); go_simp⟩) hHeld1 ?_
    try simp only [Act.put, List.setIfInBounds_toArray, List.set_cons_zero, List.set_cons_succ]
    refine wpAnyH_done (by kernel_rfl) ?_ _
    go_wp2_with fail
    go_ret
    exact ⟨rfl, HK0.out.trans hHeld1 (fun _ _ e => e)⟩
/-- Extends, of a proof. -/
theorem extends_proof {w : World} {L : List Dg} (hL : L.length ≤ 256) (h32 : Len32 L) {m : Nat} (hm : m ≤ L.length) {v : Value} (h : DgIn w v (if 0 < m then proofOf L m true else [])) :
    Calls Tryz.prog 51 #[.agg ((rootOf (L.take m)).map u8v).toArray, .int .i64 (m : Int), .agg ((rootOf L).map u8v).toArray, .int .i64 (L.length : Int), v] w (QuietP w (.bool true)) := by
  by_cases h0 : 0 < m
  · rw [if_pos h0] at h
    exact extends_some hL h32 h0 hm h
  · rw [if_neg h0] at h
    obtain rfl : m = 0 := by omega
    refine extends_none (by rw [List.take_zero, rootOf, dif_neg (by simp)]; rfl) (rootOf_length h32) (fun e => ?_) h
    rw [List.length_eq_zero_iff.1 e]
    rfl
end Go.Proofs.YtaeabdghlkdkjaaGreat
