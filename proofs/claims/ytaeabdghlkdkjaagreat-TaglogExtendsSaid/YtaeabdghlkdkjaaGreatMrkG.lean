/- merkle's grow, where it tells. -/
import Derived.Test.YtaeabdghlkdkjaaGreatPkU
namespace Go.Proofs.YtaeabdghlkdkjaaGreat
set_option linter.unusedVariables false
open Go.RowKit Go.MapKept

/-- What grow tells. -/
def GrowPost (w0 w : World) (a b : Dg) (rest : List Dg) (e : Ending) (w' : World) : Prop :=
  ∃ v, e = .returned (.tuple #[.agg (a.map u8v).toArray, .agg (b.map u8v).toArray, v, .bool true]) ∧ DgIn w0 v rest ∧ Keeps (fun _ => False) w w'
theorem results_cells2 {fn : Func} {p q u v : Tmp} {ty ty2 : TypeId} (h : fn.results = #[.cell p ty, .cell q ty2, .tmp u, .tmp v]) (tmps : Array Value) (P : Program) (w : World) :
    (results fn tmps).run P w = ((asAddr (tmps.getD p undef)).run P w).andThen fun a w₁ => ((loadVar ty a).run P w₁).andThen fun x w₂ => ((asAddr (tmps.getD q undef)).run P w₂).andThen fun a2 w₃ => ((loadVar ty2 a2).run P w₃).andThen fun y w₄ => .ok (.tuple #[x, y, tmps.getD u undef, tmps.getD v undef]) w₄ := by
  simp only [results, h]
  simp [Sem.run_bind, Result.andThen]
theorem res_grow {fn : Func} {p q u v : Tmp} (h : fn.results = #[.cell p 83, .cell q 83, .tmp u, .tmp v]) (tmps : Array Value) (w : World) (g g2 : Nat) (ds ds2 : Array Value) (hdz : ds.size = 32) (hdz2 : ds2.size = 32) (hp : tmps.getD p undef = .pointer (some ⟨g, 0, none⟩)) (hq : tmps.getD q undef = .pointer (some ⟨g2, 0, none⟩))
    (hc : w.heap[g]? = some (.cells ds 83 (0, 0))) (hc2 : w.heap[g2]? = some (.cells ds2 83 (0, 0))) :
    (results fn tmps).run Tryz.prog w = .ok (.tuple #[.agg ds, .agg ds2, tmps.getD u undef, tmps.getD v undef]) w := by
  rw [results_cells2 h, hp, hq]
  simp only [asAddr, Sem.run_pure, Result.andThen_ok, run_loadVar_row w g 83 83 ds (0, 0) _ hc Tryz.underlying83 rfl (by rw [hdz]; kernel_rfl), run_loadVar_row w g2 83 83 ds2 (0, 0) _ hc2 Tryz.underlying83 rfl (by rw [hdz2]; kernel_rfl)]
/-- grow's boxes. -/
structure GrowAt (w W : World) (ol : List Value) : Prop where
  old : W.heap[w.heap.size]? = some (.cells ol.toArray 83)
  one : W.heap[w.heap.size + 1]? = some (.cells zeroC 83)
  two : W.heap[w.heap.size + 1 + 1]? = some (.cells zeroC 83)
  keeps : Keeps (fun _ => False) w W
theorem GrowAt.later {w W W' : World} {ol : List Value} (h : GrowAt w W ol) (hk : Keeps (fun _ => False) W W') : GrowAt w W' ol :=
  ⟨hk.at h.old (fun e => e), hk.at h.one (fun e => e), hk.at h.two (fun e => e), h.keeps.trans hk (fun _ _ e => e)⟩
theorem GrowAt.start (w : World) (ol : List Value) : GrowAt w ((((w.alloc (.cells ol.toArray 83)).alloc (.cells zeroC 83)).alloc (.cells zeroC 83)).alloc (.cells zeroC 83)) ol := by
  have k1 := (Keeps.refl (fun _ => False) (w.alloc (.cells ol.toArray 83))).alloc (.cells zeroC 83)
  have k2 := (Keeps.refl (fun _ => False) ((w.alloc (.cells ol.toArray 83)).alloc (.cells zeroC 83))).alloc (.cells zeroC 83)
  have k3 := (Keeps.refl (fun _ => False) (((w.alloc (.cells ol.toArray 83)).alloc (.cells zeroC 83)).alloc (.cells zeroC 83))).alloc (.cells zeroC 83)
  have h1 := heap_alloc_new (w.alloc (.cells ol.toArray 83)) (.cells zeroC 83)
  have h2 := heap_alloc_new ((w.alloc (.cells ol.toArray 83)).alloc (.cells zeroC 83)) (.cells zeroC 83)
  simp only [World.size_alloc] at h1 h2
  exact ⟨k3.at (k2.at (k1.at (heap_alloc_new w _) (fun e => e)) (fun e => e)) (fun e => e), k3.at (k2.at h1 (fun e => e)) (fun e => e), k3.at h2 (fun e => e), ((((Keeps.refl _ w).alloc _).alloc _).alloc _).alloc _⟩
section
variable {w W : World} {ol : List Value} (h : GrowAt w W ol) (A B : Array Value)
include h
theorem GrowAt.two' : (W.setRow (w.heap.size + 1) A).heap[w.heap.size + 1 + 1]? = some (.cells zeroC 83) := (setRow_other W _ _ A (by omega)).trans h.two
theorem GrowAt.fin1 : ((W.setRow (w.heap.size + 1) A).setRow (w.heap.size + 1 + 1) B).heap[w.heap.size + 1]? = some (.cells A 83 (0, 0)) := (setRow_other _ _ _ B (by omega)).trans (setRow_heap W _ _ A _ _ h.one)
theorem GrowAt.fin2 : ((W.setRow (w.heap.size + 1) A).setRow (w.heap.size + 1 + 1) B).heap[w.heap.size + 1 + 1]? = some (.cells B 83 (0, 0)) := setRow_heap _ _ _ B _ _ (h.two' A)
theorem GrowAt.finK : Keeps (fun _ => False) w ((W.setRow (w.heap.size + 1) A).setRow (w.heap.size + 1 + 1) B) :=
  (h.keeps.trans (keeps_setRow W _ A) (fun b hb e => by omega)).trans (keeps_setRow _ _ B) (fun b hb e => by omega)
theorem GrowAt.fin {w0 : World} {a b : Dg} {rest : List Dg} {v : Value} (ha : A = (a.map u8v).toArray) (hb : B = (b.map u8v).toArray) (hd : DgIn w0 v rest) : GrowPost w0 w a b rest (.returned (.tuple #[.agg A, .agg B, v, .bool true])) ((W.setRow (w.heap.size + 1) A).setRow (w.heap.size + 1 + 1) B) :=
  ⟨v, by rw [ha, hb], hd, h.finK A B⟩
end
/-- What grow's stores may change. -/
def KG (w W w' : World) : Prop := Keeps (fun b => b = w.heap.size + 1 ∨ b = w.heap.size + 1 + 1) W w'
theorem KG.row {w W w' : World} (h : KG w W w') {b : Nat} {cl : List Value} {fr : Nat × Nat} (hb : W.heap[b]? = some (.cells cl.toArray 83 fr)) (h1 : b ≠ w.heap.size + 1) (h2 : b ≠ w.heap.size + 1 + 1) : w'.rangeAt b 0 cl := fun k u hu => by
  rw [Nat.zero_add]
  exact cell_at ((h.block b (Array.getElem?_eq_some_iff.1 hb).1 (fun e => by rcases e with e | e; exact h1 e; exact h2 e)).trans hb) (by rw [List.getElem?_toArray]; exact hu)
theorem KG.old {w0 w W w' : World} (h : KG w W w') (hk : Keeps (fun _ => False) w0 w) (hk2 : Keeps (fun _ => False) w W) {b o : Nat} {cl : List Value} (hr : w0.rangeAt b o cl) : w'.rangeAt b o cl := fun k u hu => by
  have hc := hr k u hu
  have hlt := World.block_lt_of_cell? w0 _ hc
  have l1 := hk.size
  have l2 := hk2.size
  dsimp only at hlt
  rw [World.cell?_of_block (((h.block b (by omega) (fun e => by omega)).trans (hk2.block b (by omega) (fun e => e))).trans (hk.block b hlt (fun e => e)))]
  exact hc
set_option maxRecDepth 100000 in
set_option maxHeartbeats 2000000 in
theorem grow_whole (w0 w : World) (hw : Keeps (fun _ => False) w0 w) (n : Nat) {old : Dg} (ho : old.length = 32) {v : Value} {way : List Dg} (h : DgIn w0 v way) :
    Calls Tryz.prog 121 #[.agg (old.map u8v).toArray, .int .i64 (n : Int), .int .i64 (n : Int), .bool true, v] w (GrowPost w0 w old old way) := by
  obtain ⟨va, vc, rfl, -, -⟩ := id h.form
  obtain ⟨ol, hol⟩ : ∃ ol : List Value, ol = old.map u8v := ⟨_, rfl⟩
  have hgs := GrowAt.start w ol
  have hlen : ol.toArray.size = 32 := by rw [hol]; simp [ho]
  have hone : ol.toArray.all (·.oneCell') = true := by rw [hol]; exact bytes_one _
  have HFIN := Lib.hid (fun W (hg : GrowAt w W ol) => hg.fin ol.toArray ol.toArray (by rw [hol]) (by rw [hol]) h)
  rw [← hol]
  have HCI := Lib.hid (show (Tryz.prog.info? 83).map (·.size) = some ol.length by have h := dig_info hlen; rw [List.size_toArray] at h; exact h)
  have HA0 := Lib.hid (⟨dig_info hlen, (by rw [hlen]; kernel_rfl), hone⟩ : _ ∧ zeroC.size = ol.toArray.size ∧ ol.toArray.all (·.oneCell') = true)
  have HL := Lib.hid hlen
  clear hol hlen hone ho h hw
  generalize way.length = nw at *
  go_enter Tryz.func121, Tryz.ntmps121
  go_upto_region 4 with fail
  obtain ⟨W, hW⟩ : ∃ W, W = (((w.alloc (.cells ol.toArray 83)).alloc (.cells zeroC 83)).alloc (.cells zeroC 83)).alloc (.cells zeroC 83) := ⟨_, rfl⟩
  change Code.wp _ _ _ _ ((((w.alloc (.cells ol.toArray 83)).alloc (.cells zeroC 83)).alloc (.cells zeroC 83)).alloc (.cells zeroC 83))
  rw [← hW] at hgs ⊢
  clear hW
  have HG := Lib.hid (hgs.later (Keeps.refl _ W).drew)
  have HRO := Lib.hid (fun w' (h : KG w W w') => h.row hgs.old (by omega) (by omega))
  clear hgs
  refine wp_region_held_drew (S := fun w' => KG w W w') (by kernel_rfl) (by exact (Keeps.refl _ W).drew) (fun hHeld => ?_)
  refine wpAnyH_take (i := 0) (oi := { dst := some 28, op := _, type := _, pos := _, after := _, guard := _ }) (v := .agg (ol).toArray) rfl (by kernel_rfl) (by kernel_rfl) (by kernel_rfl) (fun _ _ _ h => h) (yieldsIf_load_mid (by rfl) _ _ rfl (w.heap.size) (0) rfl (ol) _ (fun w' h => HRO.out w' h) Tryz.underlying83 rfl HCI.out) hHeld ?_
  try simp only [Act.put, List.setIfInBounds_toArray, List.set_cons_zero, List.set_cons_succ]
  refine wpAnyH_take (i := 1) (oi := { dst := some 29, op := _, type := _, pos := _, after := _, guard := _ }) (v := .agg (ol).toArray) rfl (by kernel_rfl) (by kernel_rfl) (by kernel_rfl) (fun _ _ _ h => h) (yieldsIf_load_mid (by rfl) _ _ rfl (w.heap.size) (0) rfl (ol) _ (fun w' h => HRO.out w' h) Tryz.underlying83 rfl HCI.out) hHeld ?_
  try simp only [Act.put, List.setIfInBounds_toArray, List.set_cons_zero, List.set_cons_succ]
  refine wpAnyH_take (i := 2) (oi := { dst := some 30, op := _, type := _, pos := _, after := _, guard := _ }) (v := .slice va nw vc) rfl (by kernel_rfl) (by kernel_rfl) (by kernel_rfl) (fun _ _ _ h => h) (Or.inl ⟨by rfl, by intro w hSw; (try dsimp only at hSw); go_simp⟩) hHeld ?_
  try simp only [Act.put, List.setIfInBounds_toArray, List.set_cons_zero, List.set_cons_succ]
  refine wpAnyH_ready (rs := [3]) (by kernel_rfl) (by simp) ?_
  refine AllReadyH.cons (o := { dst := none, op := _, type := _, pos := _, after := _, guard := _ }) rfl (fun K hK => ?_) AllReadyH.nil
  refine step_store_row rfl 83 _ _ rfl (w.heap.size + 1) (ol.toArray) rfl rfl 83 _ HG.out.one HA0.out.1 HA0.out.2.1 HA0.out.2.2 ?_
  refine hK.out _ _ (by exact hHeld.trans (keeps_setRow _ _ _) (fun b _ e => .inl e)) (fun hHeld1 => ?_)
  clear hK K
  try simp only [Act.put]
  refine wpAnyH_ready (rs := [4]) (by kernel_rfl) (by simp) ?_
  refine AllReadyH.cons (o := { dst := none, op := _, type := _, pos := _, after := _, guard := _ }) rfl (fun K hK => ?_) AllReadyH.nil
  refine step_store_row rfl 83 _ _ rfl (w.heap.size + 1 + 1) (ol.toArray) rfl rfl 83 _ (HG.out.two' _) HA0.out.1 HA0.out.2.1 HA0.out.2.2 ?_
  refine hK.out _ _ (by exact hHeld1.trans (keeps_setRow _ _ _) (fun b _ e => .inr e)) (fun hHeld2 => ?_)
  clear hK K
  try simp only [Act.put]
  refine wpAnyH_take (i := 5) (oi := { dst := some 12, op := _, type := _, pos := _, after := _, guard := _ }) (v := .slice va nw vc) rfl (by kernel_rfl) (by kernel_rfl) (by kernel_rfl) (fun _ _ _ h => h) (Or.inl ⟨by rfl, by intro w hSw; (try dsimp only at hSw); go_simp⟩) hHeld2 ?_
  try simp only [Act.put, List.setIfInBounds_toArray, List.set_cons_zero, List.set_cons_succ]
  refine wpAnyH_take (i := 6) (oi := { dst := some 13, op := _, type := _, pos := _, after := _, guard := _ }) (v := .bool true) rfl (by kernel_rfl) (by kernel_rfl) (by kernel_rfl) (fun _ _ _ h => h) (Or.inl ⟨by rfl, by intro w hSw; (try dsimp only at hSw); go_simp⟩) hHeld2 ?_
  try simp only [Act.put, List.setIfInBounds_toArray, List.set_cons_zero, List.set_cons_succ]
  refine wpAnyH_done (by kernel_rfl) ?_ _
  go_wp2_with fail
  refine bodyPost_ret (res_grow Tryz.results121 _ _ (w.heap.size + 1) (w.heap.size + 1 + 1) ol.toArray ol.toArray HL.out HL.out rfl rfl (HG.out.fin1 _ _) (HG.out.fin2 _ _)) rfl ?_
  exact HFIN.out _ HG.out
/-- The first of digests that are read, and the others. -/
theorem dig_head {w : World} {v : Value} {x : Dg} {rest : List Dg} (h : DgIn w v (x :: rest)) : ∃ g o n c vw, v = .slice (some ⟨g, o, none⟩) n c ∧ 0 < n ∧ n ≤ c ∧ c ≤ maxLen ∧ w.rangeAt g o (x.map u8v) ∧ x.length = 32 ∧ (∀ W, (Instr.sliceAt 88 v (some (.int .i64 1)) none none).run Tryz.prog W = .ok vw W) ∧ DgIn w vw rest := by
  obtain ⟨vw, hsl, hdw⟩ := h.drop (k := 1) (by simp)
  obtain ⟨h0, a, c, e, h1, h2, h3⟩ := h
  obtain ⟨g, o, e2, hr⟩ := h3 0 x rfl
  subst e2
  exact ⟨g, o, _, c, vw, e, by simp, h1, h2, by simpa using hr, h0 x (List.mem_cons_self ..), hsl, hdw⟩
set_option maxRecDepth 100000 in
set_option maxHeartbeats 2000000 in
theorem grow_way (w0 w : World) (hw : Keeps (fun _ => False) w0 w) (n : Nat) {ol : List Value} {v : Value} {x : Dg} {way : List Dg} (h : DgIn w0 v (x :: way)) :
    Calls Tryz.prog 121 #[.agg ol.toArray, .int .i64 (n : Int), .int .i64 (n : Int), .bool false, v] w (GrowPost w0 w x x way) := by
  obtain ⟨g, o, nw, vc, vw, rfl, hn0, hnc, hcm, hr, hx, hsl, hdw⟩ := dig_head h
  have i1 : (0 : Int) < nw := by omega
  have i2 : (nw : Int) ≤ vc := by omega
  have hnz : ¬ nw = 0 := by omega
  obtain ⟨xl, hxl⟩ : ∃ xl : List Value, xl = x.map u8v := ⟨_, rfl⟩
  have hgs := GrowAt.start w ol
  have hlen : xl.toArray.size = 32 := by rw [hxl]; simp [hx]
  have hone : xl.toArray.all (·.oneCell') = true := by rw [hxl]; exact bytes_one _
  have HFIN := Lib.hid (fun W (hg : GrowAt w W ol) => hg.fin xl.toArray xl.toArray (by rw [hxl]) (by rw [hxl]) hdw)
  rw [← hxl] at hr
  have HCI := Lib.hid (show (Tryz.prog.info? 83).map (·.size) = some xl.length by have h := dig_info hlen; rw [List.size_toArray] at h; exact h)
  have HA0 := Lib.hid (⟨dig_info hlen, (by rw [hlen]; kernel_rfl), hone⟩ : _ ∧ zeroC.size = xl.toArray.size ∧ xl.toArray.all (·.oneCell') = true)
  have HL := Lib.hid hlen
  have HR := Lib.hid (⟨hr, hw⟩ : w0.rangeAt g o xl ∧ Keeps (fun _ => False) w0 w)
  clear hxl hlen hone h hw hr hx hdw hn0 hnc hcm
  go_enter Tryz.func121, Tryz.ntmps121
  go_upto_region 7 with fail
  obtain ⟨W, hW⟩ : ∃ W, W = (((w.alloc (.cells ol.toArray 83)).alloc (.cells zeroC 83)).alloc (.cells zeroC 83)).alloc (.cells zeroC 83) := ⟨_, rfl⟩
  change Code.wp _ _ _ _ ((((w.alloc (.cells ol.toArray 83)).alloc (.cells zeroC 83)).alloc (.cells zeroC 83)).alloc (.cells zeroC 83))
  rw [← hW] at hgs ⊢
  clear hW
  have HG := Lib.hid (hgs.later (Keeps.refl _ W).drew)
  have HRO := Lib.hid (fun w' (h : KG w W w') => h.old HR.out.2 hgs.keeps HR.out.1)
  clear hgs HR
  refine wp_region_held_drew (S := fun w' => KG w W w') (by kernel_rfl) (by exact (Keeps.refl _ W).drew) (fun hHeld => ?_)
  refine wpAnyH_take (i := 0) (oi := { dst := some 36, op := _, type := _, pos := _, after := _, guard := _ }) (v := .slice (some ⟨g, o, none⟩) nw vc) rfl (by kernel_rfl) (by kernel_rfl) (by kernel_rfl) (fun _ _ _ h => h) (Or.inl ⟨by rfl, by intro w hSw; (try dsimp only at hSw); go_simp⟩) hHeld ?_
  try simp only [Act.put, List.setIfInBounds_toArray, List.set_cons_zero, List.set_cons_succ]
  refine wpAnyH_take (i := 1) (oi := { dst := some 37, op := _, type := _, pos := _, after := _, guard := _ }) (v := .pointer (some ⟨g, o, none⟩)) rfl (by kernel_rfl) (by kernel_rfl) (by kernel_rfl) (fun _ _ _ h => h) (Or.inl ⟨by rfl, by intro w hSw; (try dsimp only at hSw); go_simp⟩) hHeld ?_
  try simp only [Act.put, List.setIfInBounds_toArray, List.set_cons_zero, List.set_cons_succ]
  refine wpAnyH_take (i := 2) (oi := { dst := some 38, op := _, type := _, pos := _, after := _, guard := _ }) (v := .agg (xl).toArray) rfl (by kernel_rfl) (by kernel_rfl) (by kernel_rfl) (fun _ _ _ h => h) (yieldsIf_load_mid (by rfl) _ _ rfl (g) (o) rfl (xl) _ (fun w' h => HRO.out w' h) Tryz.underlying83 rfl HCI.out) hHeld ?_
  try simp only [Act.put, List.setIfInBounds_toArray, List.set_cons_zero, List.set_cons_succ]
  refine wpAnyH_take (i := 3) (oi := { dst := some 39, op := _, type := _, pos := _, after := _, guard := _ }) (v := .slice (some ⟨g, o, none⟩) nw vc) rfl (by kernel_rfl) (by kernel_rfl) (by kernel_rfl) (fun _ _ _ h => h) (Or.inl ⟨by rfl, by intro w hSw; (try dsimp only at hSw); go_simp⟩) hHeld ?_
  try simp only [Act.put, List.setIfInBounds_toArray, List.set_cons_zero, List.set_cons_succ]
  refine wpAnyH_take (i := 4) (oi := { dst := some 40, op := _, type := _, pos := _, after := _, guard := _ }) (v := .pointer (some ⟨g, o, none⟩)) rfl (by kernel_rfl) (by kernel_rfl) (by kernel_rfl) (fun _ _ _ h => h) (Or.inl ⟨by rfl, by intro w hSw; (try dsimp only at hSw); go_simp⟩) hHeld ?_
  try simp only [Act.put, List.setIfInBounds_toArray, List.set_cons_zero, List.set_cons_succ]
  refine wpAnyH_take (i := 5) (oi := { dst := some 41, op := _, type := _, pos := _, after := _, guard := _ }) (v := .agg (xl).toArray) rfl (by kernel_rfl) (by kernel_rfl) (by kernel_rfl) (fun _ _ _ h => h) (yieldsIf_load_mid (by rfl) _ _ rfl (g) (o) rfl (xl) _ (fun w' h => HRO.out w' h) Tryz.underlying83 rfl HCI.out) hHeld ?_
  try simp only [Act.put, List.setIfInBounds_toArray, List.set_cons_zero, List.set_cons_succ]
  refine wpAnyH_take (i := 6) (oi := { dst := some 42, op := _, type := _, pos := _, after := _, guard := _ }) (v := .slice (some ⟨g, o, none⟩) nw vc) rfl (by kernel_rfl) (by kernel_rfl) (by kernel_rfl) (fun _ _ _ h => h) (Or.inl ⟨by rfl, by intro w hSw; (try dsimp only at hSw); go_simp⟩) hHeld ?_
  try simp only [Act.put, List.setIfInBounds_toArray, List.set_cons_zero, List.set_cons_succ]
  refine wpAnyH_take (i := 7) (oi := { dst := some 43, op := _, type := _, pos := _, after := _, guard := _ }) (v := vw) rfl (by kernel_rfl) (by kernel_rfl) (by kernel_rfl) (fun _ _ _ h => h) (Or.inl ⟨by rfl, by intro w hSw; (try dsimp only at hSw); go_simp⟩) hHeld ?_
  try simp only [Act.put, List.setIfInBounds_toArray, List.set_cons_zero, List.set_cons_succ]
  refine wpAnyH_ready (rs := [8]) (by kernel_rfl) (by simp) ?_
  refine AllReadyH.cons (o := { dst := none, op := _, type := _, pos := _, after := _, guard := _ }) rfl (fun K hK => ?_) AllReadyH.nil
  refine step_store_row rfl 83 _ _ rfl (w.heap.size + 1) (xl.toArray) rfl rfl 83 _ HG.out.one HA0.out.1 HA0.out.2.1 HA0.out.2.2 ?_
  refine hK.out _ _ (by exact hHeld.trans (keeps_setRow _ _ _) (fun b _ e => .inl e)) (fun hHeld1 => ?_)
  clear hK K
  try simp only [Act.put]
  refine wpAnyH_ready (rs := [9]) (by kernel_rfl) (by simp) ?_
  refine AllReadyH.cons (o := { dst := none, op := _, type := _, pos := _, after := _, guard := _ }) rfl (fun K hK => ?_) AllReadyH.nil
  refine step_store_row rfl 83 _ _ rfl (w.heap.size + 1 + 1) (xl.toArray) rfl rfl 83 _ (HG.out.two' _) HA0.out.1 HA0.out.2.1 HA0.out.2.2 ?_
  refine hK.out _ _ (by exact hHeld1.trans (keeps_setRow _ _ _) (fun b _ e => .inr e)) (fun hHeld2 => ?_)
  clear hK K
  try simp only [Act.put]
  refine wpAnyH_take (i := 10) (oi := { dst := some 12, op := _, type := _, pos := _, after := _, guard := _ }) (v := vw) rfl (by kernel_rfl) (by kernel_rfl) (by kernel_rfl) (fun _ _ _ h => h) (Or.inl ⟨by rfl, by intro w hSw; (try dsimp only at hSw); go_simp⟩) hHeld2 ?_
  try simp only [Act.put, List.setIfInBounds_toArray, List.set_cons_zero, List.set_cons_succ]
  refine wpAnyH_take (i := 11) (oi := { dst := some 13, op := _, type := _, pos := _, after := _, guard := _ }) (v := .bool true) rfl (by kernel_rfl) (by kernel_rfl) (by kernel_rfl) (fun _ _ _ h => h) (Or.inl ⟨by rfl, by intro w hSw; (try dsimp only at hSw); go_simp⟩) hHeld2 ?_
  try simp only [Act.put, List.setIfInBounds_toArray, List.set_cons_zero, List.set_cons_succ]
  refine wpAnyH_done (by kernel_rfl) ?_ _
  go_wp2_with fail
  refine bodyPost_ret (res_grow Tryz.results121 _ _ (w.heap.size + 1) (w.heap.size + 1 + 1) xl.toArray xl.toArray HL.out HL.out rfl rfl (HG.out.fin1 _ _) (HG.out.fin2 _ _)) rfl ?_
  exact HFIN.out _ HG.out
set_option maxRecDepth 100000 in
set_option maxHeartbeats 4000000 in
theorem grow_left (w0 w : World) (hw : Keeps (fun _ => False) w0 w) {old : Dg} (ho : old.length = 32) {m n k : Nat} (hn2 : 2 ≤ n) (hn : n ≤ 256) (hk : halfOf n = k) (hmn : m ≠ n) (hmk : m ≤ k) (whole : Bool) {v : Value} {way : List Dg} (h : DgIn w0 v way) {a b x : Dg} {rest : List Dg} (ha : a.length = 32) (hb : b.length = 32) (hx : x.length = 32)
    (ih : ∀ W, Keeps (fun _ => False) w0 W → Calls Tryz.prog 121 #[.agg (old.map u8v).toArray, .int .i64 (m : Int), .int .i64 (k : Int), .bool whole, v] W (GrowPost w0 W a b (x :: rest))) :
    Calls Tryz.prog 121 #[.agg (old.map u8v).toArray, .int .i64 (m : Int), .int .i64 (n : Int), .bool whole, v] w (GrowPost w0 w a (nodeOf b x) rest) := by
  obtain ⟨va, vc0, rfl, -, -⟩ := id h.form
  obtain ⟨ol, hol⟩ : ∃ ol : List Value, ol = old.map u8v := ⟨_, rfl⟩
  obtain ⟨al, hal⟩ : ∃ al : List Value, al = a.map u8v := ⟨_, rfl⟩
  obtain ⟨bl, hbl⟩ : ∃ bl : List Value, bl = b.map u8v := ⟨_, rfl⟩
  obtain ⟨xl, hxl⟩ : ∃ xl : List Value, xl = x.map u8v := ⟨_, rfl⟩
  obtain ⟨nb, hnb⟩ : ∃ nb : List Value, nb = (nodeOf b x).map u8v := ⟨_, rfl⟩
  have hgs := GrowAt.start w ol
  have hs := split_runs hn2 hn
  rw [hk] at hs
  have hdi := fun {y : Dg} {yl : List Value} (e : yl = y.map u8v) (hy : y.length = 32) => (show (Tryz.prog.info? 83).map (·.size) = some yl.toArray.size ∧ zeroC.size = yl.toArray.size ∧ yl.toArray.all (·.oneCell') = true ∧ yl.toArray.size = 32 ∧ (Tryz.prog.info? 83).map (·.size) = some yl.length from by
    have hl : yl.toArray.size = 32 := by rw [e]; simp [hy]
    have h := dig_info hl
    exact ⟨h, by rw [hl]; kernel_rfl, by rw [e]; exact bytes_one _, hl, by rw [List.size_toArray] at h; exact h⟩)
  have HO := Lib.hid (hdi hol ho)
  have HA := Lib.hid (hdi hal ha)
  have HB := Lib.hid (hdi hbl hb)
  have HX := Lib.hid (hdi hxl hx)
  have HNB := Lib.hid (hdi hnb (nodeOf_length _ _))
  have HN := Lib.hid (fun W => show Calls Tryz.prog 156 #[.agg bl.toArray, .agg xl.toArray] W (QuietP W (.agg nb.toArray)) by rw [hbl, hxl, hnb]; exact node_calls W b x hb hx)
  have HFIN := Lib.hid (fun W vw (hg : GrowAt w W ol) (hd : DgIn w0 vw rest) => hg.fin al.toArray nb.toArray (by rw [hal]) (by rw [hnb]) hd)
  have i3 : (m : Int) ≤ k := by omega
  have hmn2 : ¬ (m : Int) = n := by omega
  have HSP := Lib.hid hs
  have HIH := Lib.hid ih
  have HW := Lib.hid hw
  have HXE := Lib.hid (⟨hal, hbl, hxl⟩ : al = a.map u8v ∧ bl = b.map u8v ∧ xl = x.map u8v)
  rw [← hol] at HIH ⊢
  clear hs hdi hol hal hbl hxl hnb ih hw h ho ha hb hx hn2 hk hmn hmk
  generalize way.length = nw0 at *
  go_enter Tryz.func121, Tryz.ntmps121
  go_wp2_with fail
  obtain ⟨W, hW⟩ : ∃ W, W = (((w.alloc (.cells ol.toArray 83)).alloc (.cells zeroC 83)).alloc (.cells zeroC 83)).alloc (.cells zeroC 83) := ⟨_, rfl⟩
  change Calls _ _ _ ((((w.alloc (.cells ol.toArray 83)).alloc (.cells zeroC 83)).alloc (.cells zeroC 83)).alloc (.cells zeroC 83)) _
  rw [← hW] at hgs ⊢
  clear hW
  refine (HSP.out _).out.mono ?_; rintro e w' ⟨rfl, rfl⟩
  have HG0 := Lib.hid hgs
  clear hgs HSP
  go_wp2_with (refine wpList_load_rowG rfl 83 _ rfl w.heap.size rfl 83 ol.toArray (0, 0) _ HG0.out.old Tryz.underlying83 rfl HO.out.1 ?_)
  refine (HIH.out W (HW.out.trans HG0.out.keeps (fun _ _ e => e))).mono ?_
  rintro e w5 ⟨v5, rfl, hd5, hk5⟩
  obtain ⟨g, o, nw, vc, vw, rfl, hn0, hnc, hcm, hr, -, hsl, hdw⟩ := dig_head hd5
  rw [← HXE.out.1, ← HXE.out.2.1]
  rw [← HXE.out.2.2] at hr
  have i1 : (0 : Int) < nw := by omega
  have i2 : (nw : Int) ≤ vc := by omega
  have hnz : ¬ nw = 0 := by omega
  have HR := Lib.hid (⟨hr, HW.out⟩ : w0.rangeAt g o xl ∧ Keeps (fun _ => False) w0 w)
  have hg5 := HG0.out.later hk5
  have HB16 := Lib.hid (heap_alloc_new w5 (.cells zeroC 83))
  have HFIN2 := Lib.hid (fun W hg => HFIN.out W vw hg hdw)
  -- the two boxes
  have hb16 : ((w5.alloc (.cells zeroC 83)).alloc (.cells zeroC 83)).heap[w5.heap.size]? = some (.cells zeroC 83) := ((Keeps.refl (fun _ => False) _).alloc _).at HB16.out (fun e => e)
  have hb17 : ((w5.alloc (.cells zeroC 83)).alloc (.cells zeroC 83)).heap[w5.heap.size + 1]? = some (.cells zeroC 83) := by
    have h := heap_alloc_new (w5.alloc (.cells zeroC 83)) (.cells zeroC 83)
    rw [World.size_alloc] at h
    exact h
  obtain ⟨W5, hW5⟩ : ∃ W5, W5 = (w5.alloc (.cells zeroC 83)).alloc (.cells zeroC 83) := ⟨_, rfl⟩
  rw [← hW5] at hb16 hb17
  have hkW5 : Keeps (fun _ => False) w5 W5 := by rw [hW5]; exact ((Keeps.refl _ _).alloc _).alloc _
  have hb17' : (W5.setRow w5.heap.size al.toArray).heap[w5.heap.size + 1]? = some (.cells zeroC 83) := (setRow_other W5 _ _ _ (by omega)).trans hb17
  obtain ⟨W6, hW6⟩ : ∃ W6, W6 = (W5.setRow w5.heap.size al.toArray).setRow (w5.heap.size + 1) bl.toArray := ⟨_, rfl⟩
  have hk6 : Keeps (fun _ => False) w5 W6 := by
    rw [hW6]
    exact (hkW5.trans (keeps_setRow _ w5.heap.size _) (fun b hb e => by omega)).trans (keeps_setRow _ (w5.heap.size + 1) _) (fun b hb e => by omega)
  have hz5 : w.heap.size + 1 + 1 < w5.heap.size := (Array.getElem?_eq_some_iff.1 hg5.two).1
  have ha6 : W6.heap[w5.heap.size]? = some (.cells al.toArray 83 (0, 0)) := by rw [hW6]; exact (setRow_other _ _ _ _ (by omega)).trans (setRow_heap W5 _ _ _ _ _ hb16)
  have hb6 : W6.heap[w5.heap.size + 1]? = some (.cells bl.toArray 83 (0, 0)) := by rw [hW6]; exact setRow_heap _ _ _ _ _ _ hb17'
  have hg6 := hg5.later hk6
  have HG := Lib.hid (hg6.later (Keeps.refl _ W6).drew)
  have HRO := Lib.hid (fun w' (h : KG w W6 w') => (⟨h.row ha6 (by omega) (by omega), h.row hb6 (by omega) (by omega), h.old HR.out.2 hg6.keeps HR.out.1⟩ : w'.rangeAt w5.heap.size 0 al ∧ w'.rangeAt (w5.heap.size + 1) 0 bl ∧ w'.rangeAt g o xl))
  have HS1 := Lib.hid hb16
  have HS2 := Lib.hid hb17'
  have HW5 := Lib.hid hW5
  have HW6 := Lib.hid hW6
  clear hr hd5 hdw hk5 hg5 hb16 hb17 hkW5 hb17' hk6 ha6 hb6 hg6 hW5 hW6 HR HB16 HFIN HIH HG0 hn0 hnc hcm hz5
  go_upto_region 13 with (first | (refine wpList_store_row rfl 83 _ _ rfl w5.heap.size al.toArray rfl rfl 83 zeroC (by have h := HS1.out; rw [HW5.out] at h; exact h) HA.out.1 HA.out.2.1 HA.out.2.2.1 ?_) | (refine wpList_store_row rfl 83 _ _ rfl (w5.heap.size + 1) bl.toArray rfl rfl 83 zeroC (by have h := HS2.out; rw [HW5.out] at h; exact h) HB.out.1 HB.out.2.1 HB.out.2.2.1 ?_))
  change Code.wp _ _ _ _ ((((w5.alloc (.cells zeroC 83)).alloc (.cells zeroC 83)).setRow w5.heap.size al.toArray).setRow (w5.heap.size + 1) bl.toArray)
  rw [← HW5.out, ← HW6.out]
  clear HS1 HS2 HW5 HW6
  generalize w5.heap.size = b16 at *
  refine wp_region_held_drew (S := fun w' => KG w W6 w') (by kernel_rfl) (by exact (Keeps.refl _ W6).drew) (fun hHeld => ?_)
  refine wpAnyH_take (i := 0) (oi := { dst := some 69, op := _, type := _, pos := _, after := _, guard := _ }) (v := .agg (al).toArray) rfl (by kernel_rfl) (by kernel_rfl) (by kernel_rfl) (fun _ _ _ h => h) (yieldsIf_load_mid (by rfl) _ _ rfl (b16) (0) rfl (al) _ (fun w' h => (HRO.out w' h).1) Tryz.underlying83 rfl HA.out.2.2.2.2) hHeld ?_
  try simp only [Act.put, List.setIfInBounds_toArray, List.set_cons_zero, List.set_cons_succ]
  refine wpAnyH_take (i := 1) (oi := { dst := some 70, op := _, type := _, pos := _, after := _, guard := _ }) (v := .agg (bl).toArray) rfl (by kernel_rfl) (by kernel_rfl) (by kernel_rfl) (fun _ _ _ h => h) (yieldsIf_load_mid (by rfl) _ _ rfl (b16 + 1) (0) rfl (bl) _ (fun w' h => (HRO.out w' h).2.1) Tryz.underlying83 rfl HB.out.2.2.2.2) hHeld ?_
  try simp only [Act.put, List.setIfInBounds_toArray, List.set_cons_zero, List.set_cons_succ]
  refine wpAnyH_take (i := 2) (oi := { dst := some 71, op := _, type := _, pos := _, after := _, guard := _ }) (v := .slice (some ⟨g, o, none⟩) nw vc) rfl (by kernel_rfl) (by kernel_rfl) (by kernel_rfl) (fun _ _ _ h => h) (Or.inl ⟨by rfl, by intro w hSw; (try dsimp only at hSw); go_simp⟩) hHeld ?_
  try simp only [Act.put, List.setIfInBounds_toArray, List.set_cons_zero, List.set_cons_succ]
  refine wpAnyH_take (i := 3) (oi := { dst := some 72, op := _, type := _, pos := _, after := _, guard := _ }) (v := .pointer (some ⟨g, o, none⟩)) rfl (by kernel_rfl) (by kernel_rfl) (by kernel_rfl) (fun _ _ _ h => h) (Or.inl ⟨by rfl, by intro w hSw; (try dsimp only at hSw); go_simp⟩) hHeld ?_
  try simp only [Act.put, List.setIfInBounds_toArray, List.set_cons_zero, List.set_cons_succ]
  refine wpAnyH_take (i := 4) (oi := { dst := some 73, op := _, type := _, pos := _, after := _, guard := _ }) (v := .agg (xl).toArray) rfl (by kernel_rfl) (by kernel_rfl) (by kernel_rfl) (fun _ _ _ h => h) (yieldsIf_load_mid (by rfl) _ _ rfl (g) (o) rfl (xl) _ (fun w' h => (HRO.out w' h).2.2) Tryz.underlying83 rfl HX.out.2.2.2.2) hHeld ?_
  try simp only [Act.put, List.setIfInBounds_toArray, List.set_cons_zero, List.set_cons_succ]
  refine wpAnyH_take (i := 6) (oi := { dst := some 75, op := _, type := _, pos := _, after := _, guard := _ }) (v := .slice (some ⟨g, o, none⟩) nw vc) rfl (by kernel_rfl) (by kernel_rfl) (by kernel_rfl) (fun _ _ _ h => h) (Or.inl ⟨by rfl, by intro w hSw; (try dsimp only at hSw); go_simp⟩) hHeld ?_
  try simp only [Act.put, List.setIfInBounds_toArray, List.set_cons_zero, List.set_cons_succ]
  refine wpAnyH_take (i := 7) (oi := { dst := some 76, op := _, type := _, pos := _, after := _, guard := _ }) (v := vw) rfl (by kernel_rfl) (by kernel_rfl) (by kernel_rfl) (fun _ _ _ h => h) (Or.inl ⟨by rfl, by intro w hSw; (try dsimp only at hSw); go_simp⟩) hHeld ?_
  try simp only [Act.put, List.setIfInBounds_toArray, List.set_cons_zero, List.set_cons_succ]
  refine wpAnyH_ready (rs := [5]) (by kernel_rfl) (by simp) ?_
  refine AllReadyH.cons (o := { dst := some 74, op := _, type := _, pos := _, after := _, guard := _ }) rfl (fun K hK => ?_) AllReadyH.nil
  refine step_wanted' rfl ?_
  go_simp
  go_at_call 156
  refine (HN.out _).mono ?_
  rintro e w7 ⟨rfl, hk7⟩
  have HG7 := Lib.hid (HG.out.later hk7)
  refine hK.out _ _ (by exact hHeld.trans hk7 (fun b _ e => by cases e)) (fun hHeld1 => ?_)
  clear hK K
  try simp only [Act.put, List.setIfInBounds_toArray, List.set_cons_zero, List.set_cons_succ]
  refine wpAnyH_ready (rs := [8]) (by kernel_rfl) (by simp) ?_
  refine AllReadyH.cons (o := { dst := none, op := _, type := _, pos := _, after := _, guard := _ }) rfl (fun K hK => ?_) AllReadyH.nil
  refine step_store_row rfl 83 _ _ rfl (w.heap.size + 1) (al.toArray) rfl rfl 83 _ HG7.out.one HA.out.1 HA.out.2.1 HA.out.2.2.1 ?_
  refine hK.out _ _ (by exact hHeld1.trans (keeps_setRow _ _ _) (fun b _ e => .inl e)) (fun hHeld2 => ?_)
  clear hK K
  try simp only [Act.put]
  refine wpAnyH_ready (rs := [9]) (by kernel_rfl) (by simp) ?_
  refine AllReadyH.cons (o := { dst := none, op := _, type := _, pos := _, after := _, guard := _ }) rfl (fun K hK => ?_) AllReadyH.nil
  refine step_store_row rfl 83 _ _ rfl (w.heap.size + 1 + 1) (nb.toArray) rfl rfl 83 _ (HG7.out.two' _) HNB.out.1 HNB.out.2.1 HNB.out.2.2.1 ?_
  refine hK.out _ _ (by exact hHeld2.trans (keeps_setRow _ _ _) (fun b _ e => .inr e)) (fun hHeld3 => ?_)
  clear hK K
  try simp only [Act.put]
  refine wpAnyH_take (i := 10) (oi := { dst := some 12, op := _, type := _, pos := _, after := _, guard := _ }) (v := vw) rfl (by kernel_rfl) (by kernel_rfl) (by kernel_rfl) (fun _ _ _ h => h) (Or.inl ⟨by rfl, by intro w hSw; (try dsimp only at hSw); go_simp⟩) hHeld3 ?_
  try simp only [Act.put, List.setIfInBounds_toArray, List.set_cons_zero, List.set_cons_succ]
  refine wpAnyH_take (i := 11) (oi := { dst := some 13, op := _, type := _, pos := _, after := _, guard := _ }) (v := .bool true) rfl (by kernel_rfl) (by kernel_rfl) (by kernel_rfl) (fun _ _ _ h => h) (Or.inl ⟨by rfl, by intro w hSw; (try dsimp only at hSw); go_simp⟩) hHeld3 ?_
  try simp only [Act.put, List.setIfInBounds_toArray, List.set_cons_zero, List.set_cons_succ]
  refine wpAnyH_done (by kernel_rfl) ?_ _
  go_wp2_with fail
  refine bodyPost_ret (res_grow Tryz.results121 _ _ (w.heap.size + 1) (w.heap.size + 1 + 1) al.toArray nb.toArray HA.out.2.2.2.1 HNB.out.2.2.2.1 rfl rfl (HG7.out.fin1 _ _) (HG7.out.fin2 _ _)) rfl ?_
  exact HFIN2.out _ HG7.out
end Go.Proofs.YtaeabdghlkdkjaaGreat
