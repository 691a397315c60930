/- merkle's grow: the right half; Extends. -/
import Derived.Test.YtaeabdghlkdkjaaGreatMrkG
namespace Go.Proofs.YtaeabdghlkdkjaaGreat
set_option linter.unusedVariables false
open Go.RowKit Go.MapKept

set_option maxRecDepth 100000 in
set_option maxHeartbeats 4000000 in
theorem grow_right (w0 w : World) (hw : Keeps (fun _ => False) w0 w) {old : Dg} (ho : old.length = 32) {m n k : Nat} (hn2 : 2 ≤ n) (hn : n ≤ 256) (hk : halfOf n = k) (hmn : m ≠ n) (hmk : k < m) (hm : m ≤ n) (whole : Bool) {v : Value} {way : List Dg} (h : DgIn w0 v way) {a b x : Dg} {rest : List Dg} (ha : a.length = 32) (hb : b.length = 32) (hx : x.length = 32)
    (ih : ∀ W, Keeps (fun _ => False) w0 W → Calls Tryz.prog 121 #[.agg (old.map u8v).toArray, .int .i64 ((m - k : Nat) : Int), .int .i64 ((n - k : Nat) : Int), .bool false, v] W (GrowPost w0 W a b (x :: rest))) :
    Calls Tryz.prog 121 #[.agg (old.map u8v).toArray, .int .i64 (m : Int), .int .i64 (n : Int), .bool whole, v] w (GrowPost w0 w (nodeOf x a) (nodeOf x b) rest) := by
  obtain ⟨va, vc0, rfl, -, -⟩ := id h.form
  obtain ⟨ol, hol⟩ : ∃ ol : List Value, ol = old.map u8v := ⟨_, rfl⟩
  obtain ⟨al, hal⟩ : ∃ al : List Value, al = a.map u8v := ⟨_, rfl⟩
  obtain ⟨bl, hbl⟩ : ∃ bl : List Value, bl = b.map u8v := ⟨_, rfl⟩
  obtain ⟨xl, hxl⟩ : ∃ xl : List Value, xl = x.map u8v := ⟨_, rfl⟩
  obtain ⟨na, hna⟩ : ∃ na : List Value, na = (nodeOf x a).map u8v := ⟨_, rfl⟩
  obtain ⟨nb, hnb⟩ : ∃ nb : List Value, nb = (nodeOf x b).map u8v := ⟨_, rfl⟩
  have hgs := GrowAt.start w ol
  have hs := split_runs hn2 hn
  rw [hk] at hs
  have hdi := fun {y : Dg} {yl : List Value} (e : yl = y.map u8v) (hy : y.length = 32) => (show (Tryz.prog.info? 83).map (·.size) = some yl.toArray.size ∧ zeroC.size = yl.toArray.size ∧ yl.toArray.all (·.oneCell') = true ∧ yl.toArray.size = 32 ∧ (Tryz.prog.info? 83).map (·.size) = some yl.length from by
    have hl : yl.toArray.size = 32 := by rw [e]; simp [hy]
    have h := dig_info hl
    exact ⟨h, by rw [hl]; kernel_rfl, by rw [e]; exact bytes_one _, hl, by rw [List.size_toArray] at h; exact h⟩)
  have HO := Lib.hid (hdi hol ho)
  have HA := Lib.hid (hdi hal ha)
  have HB := Lib.hid (hdi hbl hb)
  have HX := Lib.hid (hdi hxl hx)
  have HNB := Lib.hid (hdi hnb (nodeOf_length _ _))
  have HNA := Lib.hid (hdi hna (nodeOf_length _ _))
  have HN := Lib.hid (fun W => show Calls Tryz.prog 156 #[.agg xl.toArray, .agg al.toArray] W (QuietP W (.agg na.toArray)) by rw [hal, hxl, hna]; exact node_calls W x a hx ha)
  have HN2 := Lib.hid (fun W => show Calls Tryz.prog 156 #[.agg xl.toArray, .agg bl.toArray] W (QuietP W (.agg nb.toArray)) by rw [hbl, hxl, hnb]; exact node_calls W x b hx hb)
  have HFIN := Lib.hid (fun W vw (hg : GrowAt w W ol) (hd : DgIn w0 vw rest) => hg.fin na.toArray nb.toArray (by rw [hna]) (by rw [hnb]) hd)
  have i3 : (k : Int) < m := by omega
  have hs1 : wrap64 ((m : Int) - (k : Int)) = ((m - k : Nat) : Int) := by rw [IntWalk.wrap64_in _ (by omega)]; omega
  have hs2 : wrap64 ((n : Int) - (k : Int)) = ((n - k : Nat) : Int) := by rw [IntWalk.wrap64_in _ (by omega)]; omega
  have hmn2 : ¬ (m : Int) = n := by omega
  have HSP := Lib.hid hs
  have HIH := Lib.hid ih
  have HW := Lib.hid hw
  have HXE := Lib.hid (⟨hal, hbl, hxl⟩ : al = a.map u8v ∧ bl = b.map u8v ∧ xl = x.map u8v)
  rw [← hol] at HIH ⊢
  clear hs hdi hol hal hbl hxl hnb hna hm ih hw h ho ha hb hx hn2 hk hmn hmk
  generalize way.length = nw0 at *
  go_enter Tryz.func121, Tryz.ntmps121
  go_wp2_with fail
  obtain ⟨W, hW⟩ : ∃ W, W = (((w.alloc (.cells ol.toArray 83)).alloc (.cells zeroC 83)).alloc (.cells zeroC 83)).alloc (.cells zeroC 83) := ⟨_, rfl⟩
  change Calls _ _ _ ((((w.alloc (.cells ol.toArray 83)).alloc (.cells zeroC 83)).alloc (.cells zeroC 83)).alloc (.cells zeroC 83)) _
  rw [← hW] at hgs ⊢
  clear hW
  refine (HSP.out _).out.mono ?_; rintro e w' ⟨rfl, rfl⟩
  have HG0 := Lib.hid hgs
  clear hgs HSP
  go_wp2_with (refine wpList_load_rowG rfl 83 _ rfl w.heap.size rfl 83 ol.toArray (0, 0) _ HG0.out.old Tryz.underlying83 rfl HO.out.1 ?_)
  first | rw [(IntWalk.i64_left _).trans hs1, (IntWalk.i64_left _).trans hs2] | rw [hs1, hs2] | skip
  refine (HIH.out W (HW.out.trans HG0.out.keeps (fun _ _ e => e))).mono ?_
  rintro e w5 ⟨v5, rfl, hd5, hk5⟩
  obtain ⟨g, o, nw, vc, vw, rfl, hn0, hnc, hcm, hr, -, hsl, hdw⟩ := dig_head hd5
  rw [← HXE.out.1, ← HXE.out.2.1]
  rw [← HXE.out.2.2] at hr
  have i1 : (0 : Int) < nw := by omega
  have i2 : (nw : Int) ≤ vc := by omega
  have hnz : ¬ nw = 0 := by omega
  have HR := Lib.hid (⟨hr, HW.out⟩ : w0.rangeAt g o xl ∧ Keeps (fun _ => False) w0 w)
  have hg5 := HG0.out.later hk5
  have HB16 := Lib.hid (heap_alloc_new w5 (.cells zeroC 83))
  have HFIN2 := Lib.hid (fun W hg => HFIN.out W vw hg hdw)
  -- the two boxes
  have hb16 : ((w5.alloc (.cells zeroC 83)).alloc (.cells zeroC 83)).heap[w5.heap.size]? = some (.cells zeroC 83) := ((Keeps.refl (fun _ => False) _).alloc _).at HB16.out (fun e => e)
  have hb17 : ((w5.alloc (.cells zeroC 83)).alloc (.cells zeroC 83)).heap[w5.heap.size + 1]? = some (.cells zeroC 83) := by
    have h := heap_alloc_new (w5.alloc (.cells zeroC 83)) (.cells zeroC 83)
    rw [World.size_alloc] at h
    exact h
  obtain ⟨W5, hW5⟩ : ∃ W5, W5 = (w5.alloc (.cells zeroC 83)).alloc (.cells zeroC 83) := ⟨_, rfl⟩
  rw [← hW5] at hb16 hb17
  have hkW5 : Keeps (fun _ => False) w5 W5 := by rw [hW5]; exact ((Keeps.refl _ _).alloc _).alloc _
  have hb17' : (W5.setRow w5.heap.size al.toArray).heap[w5.heap.size + 1]? = some (.cells zeroC 83) := (setRow_other W5 _ _ _ (by omega)).trans hb17
  obtain ⟨W6, hW6⟩ : ∃ W6, W6 = (W5.setRow w5.heap.size al.toArray).setRow (w5.heap.size + 1) bl.toArray := ⟨_, rfl⟩
  have hk6 : Keeps (fun _ => False) w5 W6 := by
    rw [hW6]
    exact (hkW5.trans (keeps_setRow _ w5.heap.size _) (fun b hb e => by omega)).trans (keeps_setRow _ (w5.heap.size + 1) _) (fun b hb e => by omega)
  have hz5 : w.heap.size + 1 + 1 < w5.heap.size := (Array.getElem?_eq_some_iff.1 hg5.two).1
  have ha6 : W6.heap[w5.heap.size]? = some (.cells al.toArray 83 (0, 0)) := by rw [hW6]; exact (setRow_other _ _ _ _ (by omega)).trans (setRow_heap W5 _ _ _ _ _ hb16)
  have hb6 : W6.heap[w5.heap.size + 1]? = some (.cells bl.toArray 83 (0, 0)) := by rw [hW6]; exact setRow_heap _ _ _ _ _ _ hb17'
  have hg6 := hg5.later hk6
  have HG := Lib.hid (hg6.later (Keeps.refl _ W6).drew)
  have HRO := Lib.hid (fun w' (h : KG w W6 w') => (⟨h.row ha6 (by omega) (by omega), h.row hb6 (by omega) (by omega), h.old HR.out.2 hg6.keeps HR.out.1⟩ : w'.rangeAt w5.heap.size 0 al ∧ w'.rangeAt (w5.heap.size + 1) 0 bl ∧ w'.rangeAt g o xl))
  have HS1 := Lib.hid hb16
  have HS2 := Lib.hid hb17'
  have HW5 := Lib.hid hW5
  have HW6 := Lib.hid hW6
  clear hr hd5 hdw hk5 hg5 hb16 hb17 hkW5 hb17' hk6 ha6 hb6 hg6 hW5 hW6 HR HB16 HFIN HIH HG0 hn0 hnc hcm hz5
  go_upto_region 17 with (first | (refine wpList_store_row rfl 83 _ _ rfl w5.heap.size al.toArray rfl rfl 83 zeroC (by have h := HS1.out; rw [HW5.out] at h; exact h) HA.out.1 HA.out.2.1 HA.out.2.2.1 ?_) | (refine wpList_store_row rfl 83 _ _ rfl (w5.heap.size + 1) bl.toArray rfl rfl 83 zeroC (by have h := HS2.out; rw [HW5.out] at h; exact h) HB.out.1 HB.out.2.1 HB.out.2.2.1 ?_))
  change Code.wp _ _ _ _ ((((w5.alloc (.cells zeroC 83)).alloc (.cells zeroC 83)).setRow w5.heap.size al.toArray).setRow (w5.heap.size + 1) bl.toArray)
  rw [← HW5.out, ← HW6.out]
  clear HS1 HS2 HW5 HW6
  generalize w5.heap.size = b16 at *
  refine wp_region_held_drew (S := fun w' => KG w W6 w') (by kernel_rfl) (by exact (Keeps.refl _ W6).drew) (fun hHeld => ?_)
  refine wpAnyH_take (i := 0) (oi := { dst := some 100, op := _, type := _, pos := _, after := _, guard := _ }) (v := .slice (some ⟨g, o, none⟩) nw vc) rfl (by kernel_rfl) (by kernel_rfl) (by kernel_rfl) (fun _ _ _ h => h) (Or.inl ⟨by rfl, by intro w hSw; (try dsimp only at hSw); go_simp⟩) hHeld ?_
  try simp only [Act.put, List.setIfInBounds_toArray, List.set_cons_zero, List.set_cons_succ]
  refine wpAnyH_take (i := 1) (oi := { dst := some 101, op := _, type := _, pos := _, after := _, guard := _ }) (v := .pointer (some ⟨g, o, none⟩)) rfl (by kernel_rfl) (by kernel_rfl) (by kernel_rfl) (fun _ _ _ h => h) (Or.inl ⟨by rfl, by intro w hSw; (try dsimp only at hSw); go_simp⟩) hHeld ?_
  try simp only [Act.put, List.setIfInBounds_toArray, List.set_cons_zero, List.set_cons_succ]
  refine wpAnyH_take (i := 2) (oi := { dst := some 102, op := _, type := _, pos := _, after := _, guard := _ }) (v := .agg (xl).toArray) rfl (by kernel_rfl) (by kernel_rfl) (by kernel_rfl) (fun _ _ _ h => h) (yieldsIf_load_mid (by rfl) _ _ rfl (g) (o) rfl (xl) _ (fun w' h => (HRO.out w' h).2.2) Tryz.underlying83 rfl HX.out.2.2.2.2) hHeld ?_
  try simp only [Act.put, List.setIfInBounds_toArray, List.set_cons_zero, List.set_cons_succ]
  refine wpAnyH_take (i := 3) (oi := { dst := some 103, op := _, type := _, pos := _, after := _, guard := _ }) (v := .agg (al).toArray) rfl (by kernel_rfl) (by kernel_rfl) (by kernel_rfl) (fun _ _ _ h => h) (yieldsIf_load_mid (by rfl) _ _ rfl (b16) (0) rfl (al) _ (fun w' h => (HRO.out w' h).1) Tryz.underlying83 rfl HA.out.2.2.2.2) hHeld ?_
  try simp only [Act.put, List.setIfInBounds_toArray, List.set_cons_zero, List.set_cons_succ]
  refine wpAnyH_take (i := 5) (oi := { dst := some 105, op := _, type := _, pos := _, after := _, guard := _ }) (v := .slice (some ⟨g, o, none⟩) nw vc) rfl (by kernel_rfl) (by kernel_rfl) (by kernel_rfl) (fun _ _ _ h => h) (Or.inl ⟨by rfl, by intro w hSw; (try dsimp only at hSw); go_simp⟩) hHeld ?_
  try simp only [Act.put, List.setIfInBounds_toArray, List.set_cons_zero, List.set_cons_succ]
  refine wpAnyH_take (i := 6) (oi := { dst := some 106, op := _, type := _, pos := _, after := _, guard := _ }) (v := .pointer (some ⟨g, o, none⟩)) rfl (by kernel_rfl) (by kernel_rfl) (by kernel_rfl) (fun _ _ _ h => h) (Or.inl ⟨by rfl, by intro w hSw; (try dsimp only at hSw); go_simp⟩) hHeld ?_
  try simp only [Act.put, List.setIfInBounds_toArray, List.set_cons_zero, List.set_cons_succ]
  refine wpAnyH_take (i := 7) (oi := { dst := some 107, op := _, type := _, pos := _, after := _, guard := _ }) (v := .agg (xl).toArray) rfl (by kernel_rfl) (by kernel_rfl) (by kernel_rfl) (fun _ _ _ h => h) (yieldsIf_load_mid (by rfl) _ _ rfl (g) (o) rfl (xl) _ (fun w' h => (HRO.out w' h).2.2) Tryz.underlying83 rfl HX.out.2.2.2.2) hHeld ?_
  try simp only [Act.put, List.setIfInBounds_toArray, List.set_cons_zero, List.set_cons_succ]
  refine wpAnyH_take (i := 8) (oi := { dst := some 108, op := _, type := _, pos := _, after := _, guard := _ }) (v := .agg (bl).toArray) rfl (by kernel_rfl) (by kernel_rfl) (by kernel_rfl) (fun _ _ _ h => h) (yieldsIf_load_mid (by rfl) _ _ rfl (b16 + 1) (0) rfl (bl) _ (fun w' h => (HRO.out w' h).2.1) Tryz.underlying83 rfl HB.out.2.2.2.2) hHeld ?_
  try simp only [Act.put, List.setIfInBounds_toArray, List.set_cons_zero, List.set_cons_succ]
  refine wpAnyH_take (i := 10) (oi := { dst := some 110, op := _, type := _, pos := _, after := _, guard := _ }) (v := .slice (some ⟨g, o, none⟩) nw vc) rfl (by kernel_rfl) (by kernel_rfl) (by kernel_rfl) (fun _ _ _ h => h) (Or.inl ⟨by rfl, by intro w hSw; (try dsimp only at hSw); go_simp⟩) hHeld ?_
  try simp only [Act.put, List.setIfInBounds_toArray, List.set_cons_zero, List.set_cons_succ]
  refine wpAnyH_take (i := 11) (oi := { dst := some 111, op := _, type := _, pos := _, after := _, guard := _ }) (v := vw) rfl (by kernel_rfl) (by kernel_rfl) (by kernel_rfl) (fun _ _ _ h => h) (Or.inl ⟨by rfl, by intro w hSw; (try dsimp only at hSw); go_simp⟩) hHeld ?_
  try simp only [Act.put, List.setIfInBounds_toArray, List.set_cons_zero, List.set_cons_succ]
  refine wpAnyH_ready (rs := [4]) (by kernel_rfl) (by simp) ?_
  refine AllReadyH.cons (o := { dst := some 104, op := _, type := _, pos := _, after := _, guard := _ }) rfl (fun K hK => ?_) AllReadyH.nil
  refine step_wanted' rfl ?_
  go_simp
  go_at_call 156
  refine (HN.out _).mono ?_
  rintro e w7 ⟨rfl, hk7⟩
  refine hK.out _ _ (by exact hHeld.trans hk7 (fun b _ e => by cases e)) (fun hHeld1 => ?_)
  clear hK K
  try simp only [Act.put, List.setIfInBounds_toArray, List.set_cons_zero, List.set_cons_succ]
  refine wpAnyH_ready (rs := [9]) (by kernel_rfl) (by simp) ?_
  refine AllReadyH.cons (o := { dst := some 109, op := _, type := _, pos := _, after := _, guard := _ }) rfl (fun K hK => ?_) AllReadyH.nil
  refine step_wanted' rfl ?_
  go_simp
  go_at_call 156
  refine (HN2.out _).mono ?_
  rintro e w8 ⟨rfl, hk8⟩
  have HG7 := Lib.hid ((HG.out.later hk7).later hk8)
  refine hK.out _ _ (by exact hHeld1.trans hk8 (fun b _ e => by cases e)) (fun hHeld2 => ?_)
  clear hK K
  try simp only [Act.put, List.setIfInBounds_toArray, List.set_cons_zero, List.set_cons_succ]
  refine wpAnyH_ready (rs := [12]) (by kernel_rfl) (by simp) ?_
  refine AllReadyH.cons (o := { dst := none, op := _, type := _, pos := _, after := _, guard := _ }) rfl (fun K hK => ?_) AllReadyH.nil
  refine step_store_row rfl 83 _ _ rfl (w.heap.size + 1) (na.toArray) rfl rfl 83 _ HG7.out.one HNA.out.1 HNA.out.2.1 HNA.out.2.2.1 ?_
  refine hK.out _ _ (by exact hHeld2.trans (keeps_setRow _ _ _) (fun b _ e => .inl e)) (fun hHeld3 => ?_)
  clear hK K
  try simp only [Act.put]
  refine wpAnyH_ready (rs := [13]) (by kernel_rfl) (by simp) ?_
  refine AllReadyH.cons (o := { dst := none, op := _, type := _, pos := _, after := _, guard := _ }) rfl (fun K hK => ?_) AllReadyH.nil
  refine step_store_row rfl 83 _ _ rfl (w.heap.size + 1 + 1) (nb.toArray) rfl rfl 83 _ (HG7.out.two' _) HNB.out.1 HNB.out.2.1 HNB.out.2.2.1 ?_
  refine hK.out _ _ (by exact hHeld3.trans (keeps_setRow _ _ _) (fun b _ e => .inr e)) (fun hHeld4 => ?_)
  clear hK K
  try simp only [Act.put]
  refine wpAnyH_take (i := 14) (oi := { dst := some 12, op := _, type := _, pos := _, after := _, guard := _ }) (v := vw) rfl (by kernel_rfl) (by kernel_rfl) (by kernel_rfl) (fun _ _ _ h => h) (Or.inl ⟨by rfl, by intro w hSw; (try dsimp only at hSw); go_simp⟩) hHeld4 ?_
  try simp only [Act.put, List.setIfInBounds_toArray, List.set_cons_zero, List.set_cons_succ]
  refine wpAnyH_take (i := 15) (oi := { dst := some 13, op := _, type := _, pos := _, after := _, guard := _ }) (v := .bool true) rfl (by kernel_rfl) (by kernel_rfl) (by kernel_rfl) (fun _ _ _ h => h) (Or.inl ⟨by rfl, by intro w hSw; (try dsimp only at hSw); go_simp⟩) hHeld4 ?_
  try simp only [Act.put, List.setIfInBounds_toArray, List.set_cons_zero, List.set_cons_succ]
  refine wpAnyH_done (by kernel_rfl) ?_ _
  go_wp2_with fail
  refine bodyPost_ret (res_grow Tryz.results121 _ _ (w.heap.size + 1) (w.heap.size + 1 + 1) na.toArray nb.toArray HNA.out.2.2.2.1 HNB.out.2.2.2.1 rfl rfl (HG7.out.fin1 _ _) (HG7.out.fin2 _ _)) rfl ?_
  exact HFIN2.out _ HG7.out
end Go.Proofs.YtaeabdghlkdkjaaGreat
