/- A part of the proof. -/
import Derived.Test.YtlcnhpjggjgnpaaGreatDoorUlab7
import Derived.Test.YtlcnhpjggjgnpaaGreatDoorUlac1
import Derived.Test.YtlcnhpjggjgnpaaGreatDoorUlac8
namespace Go.Proofs.YtlcnhpjggjgnpaaGreatDoor
set_option linter.unusedVariables false
set_option linter.unusedSimpArgs false
open Go.RowKit Go.MapKept
open Go.ChangeMaps (setBlock)
def finishOf (T : TM) (nm ky : ByteArray) (x : Ses) (dg : List UInt8) : Int × TM × Bool :=
 if sumOf x.b = dg then
  (if (tAppOf T nm [⟨ky, false, laidOf x.repo x.til.toNat dg⟩]).1 = 0 then
   ((closeOf (tAppOf T nm [⟨ky, false, laidOf x.repo x.til.toNat dg⟩]).2 nm ky dg).1, (closeOf (tAppOf T nm [⟨ky, false, laidOf x.repo x.til.toNat dg⟩]).2 nm ky dg).2, true)
   else ((tAppOf T nm [⟨ky, false, laidOf x.repo x.til.toNat dg⟩]).1, (tAppOf T nm [⟨ky, false, laidOf x.repo x.til.toNat dg⟩]).2, false))
 else (20, T, false)
theorem tApp_size (T : TM) (nm : ByteArray) (l : List TCh) : (tAppOf T nm l).2.size ≤ T.size + 1048576 := by
 have h : ∀ p, (jAppendOf T.m nm T.size p).2.2 ≤ T.size + 1048576 := fun p => by
  unfold jAppendOf
  split
  ·exact Nat.le_add_right _ _
  ·split
   ·show T.size + (8 + p.length) ≤ _; omega
   ·exact Nat.le_add_right _ _
 unfold tAppOf
 split
 ·exact Nat.le_add_right _ _
 ·split
  ·split
   ·split
    ·exact h _
    ·exact h _
   ·exact h _
  ·exact Nat.le_add_right _ _
section
variable {w wr : World} {d u st t mp j b : Nat} {nm : ByteArray} {T : TM} {next : Int} {L L1 L2 : UL} {rs : List (Res w.heap.size)}
theorem Own.pmapDel {ps : PS} {w1 : World} (h : Own w wr (rPMap w.heap.size mp ps :: rs)) (k : Int) (hq : Keeps (fun _ => False) wr w1) :
  ∃ w2, (Builtin.delete_ #[102, 3] 0 #[.map (some mp), .int .i64 k]).run Tryz.prog w1 = .ok (.tuple #[]) w2 ∧ Own w w2 (rPMap w.heap.size mp (pdel ps k) :: rs) := by
 obtain ⟨F, ⟨hb, hm⟩, hF, hfin⟩ := h.open1
 have h1 : MapPs w1 mp ps := hm.keep (hq.block mp hm.lt (fun e => e))
 obtain ⟨es, clock, hr, h3⟩ := h1.delete (P := Tryz.prog) Tryz.underlying102 Tryz.underlying3 k 3 0
 exact ⟨_, hr, hfin _ (rPMap _ mp (pdel ps k)) ((hq.mono (fun _ _ e => e.elim)).setBlock (fun _ => hb) _) ⟨.inl hb, h3⟩⟩
theorem pdel_focus {x : Ses} {sp q : Nat} (hnd : ∀ y ∈ L1 ++ L2, y.1.id ≠ x.id) : pdel (ptrs (L1 ++ (x, sp, q) :: L2)) x.id = ptrs (L1 ++ L2) := by
 have e : ptrs (L1 ++ (x, sp, q) :: L2) = ptrs L1 ++ ((x.id, sp) :: ptrs L2) := by simp [ptrs]
 have k1 : ∀ M : UL, (∀ y ∈ M, y.1.id ≠ x.id) → (ptrs M).filter (fun p => p.1 ≠ x.id) = ptrs M := fun M hM => by
  rw [List.filter_eq_self]
  intro p hp
  obtain ⟨y, hy, rfl⟩ := List.mem_map.1 hp
  simpa using hM y hy
 rw [e]
 unfold pdel
 rw [List.filter_append, List.filter_cons]
 simp only [ne_eq, not_true_eq_false, decide_false, Bool.false_eq_true, if_false]
 rw [k1 L1 (fun y hy => hnd y (by simp [hy])), k1 L2 (fun y hy => hnd y (by simp [hy]))]
 simp [ptrs]
theorem Own.leave {W : World} {x : Ses} {sp q : Nat} {M : List (Res w.heap.size)} (h : Own w W (tRes w.heap.size d j t b nm T ++ (uRes w.heap.size d u st t mp next (L1 ++ (x, sp, q) :: L2) ++ M))) (hnd : ∀ y ∈ L1 ++ L2, y.1.id ≠ x.id) :
  ∃ w2, (Builtin.delete_ #[102, 3] 0 #[.map (some mp), .int .i64 x.id]).run Tryz.prog W = .ok (.tuple #[]) w2 ∧ Own w w2 (tRes w.heap.size d j t b nm T ++ (uRes w.heap.size d u st t mp next (L1 ++ L2) ++ M)) := by
 have h1 := h.focus.drop.drop
 have h2 : Own w W (rPMap w.heap.size mp (ptrs (L1 ++ (x, sp, q) :: L2)) :: ((tRes w.heap.size d j t b nm T ++ [rObj w.heap.size u (uObj d st t next mp), rObj w.heap.size st (stObj1 d)]) ++ ((liveRes w.heap.size L1 ++ liveRes w.heap.size L2) ++ M))) := by
  refine Own.pull (l₁ := tRes w.heap.size d j t b nm T ++ [rObj w.heap.size u (uObj d st t next mp), rObj w.heap.size st (stObj1 d)]) (r := rPMap w.heap.size mp (ptrs (L1 ++ (x, sp, q) :: L2))) (l₂ := (liveRes w.heap.size L1 ++ liveRes w.heap.size L2) ++ M) ?_
  have e : tRes w.heap.size d j t b nm T ++ (uRest w.heap.size d u st t mp next (ptrs (L1 ++ (x, sp, q) :: L2)) L1 L2 ++ M) = (tRes w.heap.size d j t b nm T ++ [rObj w.heap.size u (uObj d st t next mp), rObj w.heap.size st (stObj1 d)]) ++ rPMap w.heap.size mp (ptrs (L1 ++ (x, sp, q) :: L2)) :: ((liveRes w.heap.size L1 ++ liveRes w.heap.size L2) ++ M) := by
   simp [uRest, List.append_assoc]
  rw [← e]; exact h1
 obtain ⟨w2, hr, h3⟩ := h2.pmapDel x.id (Keeps.refl _ _)
 rw [pdel_focus hnd] at h3
 refine ⟨w2, hr, ?_⟩
 have e : tRes w.heap.size d j t b nm T ++ (uRes w.heap.size d u st t mp next (L1 ++ L2) ++ M) = (tRes w.heap.size d j t b nm T ++ [rObj w.heap.size u (uObj d st t next mp), rObj w.heap.size st (stObj1 d)]) ++ rPMap w.heap.size mp (ptrs (L1 ++ L2)) :: ((liveRes w.heap.size L1 ++ liveRes w.heap.size L2) ++ M) := by
  simp [uRes, liveRes_append, List.append_assoc]
 rw [e]
 exact h3.perm (List.perm_middle).symm
def UFin (u d st t : Nat) (next : Int) (mp bd sp q : Nat) (cl : List Value) (x : Ses) (W : World) : Prop :=
 UCl u d st t next mp bd cl W ∧ W.cell? ⟨sp, 3, none⟩ = some (.pointer (some ⟨q, 0, none⟩)) ∧ W.rangeAt sp 0 [.string x.repo, .int .i64 x.til, .int .i64 (x.b.length : Int)]
theorem UFin.of {bd sp q : Nat} {cl : List Value} {x : Ses} {W : World} {M : List (Res w.heap.size)} (h : Own w W (tRes w.heap.size d j t b nm T ++ (uRes w.heap.size d u st t mp next (L1 ++ (x, sp, q) :: L2) ++ M))) (hm : rObj w.heap.size bd (.cells cl.toArray 39) ∈ M) : UFin u d st t next mp bd sp q cl x W := by
 have hs := (h.focus.at (b := sp) (o := sesObj x q) (by simp)).1
 refine ⟨UCl.of h hm, (ses_cells hs).2.2.2, fun k v hv => ?_⟩
 rw [Nat.zero_add]
 obtain ⟨c0, c1, c2, -⟩ := ses_cells hs
 match k, hv with
 | 0, hv => simp at hv; rw [← hv]; exact c0
 | 1, hv => simp at hv; rw [← hv]; exact c1
 | 2, hv => simp at hv; rw [← hv]; exact c2
 | k + 3, hv => simp at hv
theorem UFin.keep {bd sp q : Nat} {cl : List Value} {x : Ses} {W W' : World} (h : UFin u d st t next mp bd sp q cl x W) (hk : Keeps (fun _ => False) W W') : UFin u d st t next mp bd sp q cl x W' :=
 ⟨⟨⟨cell_keep h.1.1.1 hk, cell_keep h.1.1.2.1 hk, cell_keep h.1.1.2.2.1 hk, cell_keep h.1.1.2.2.2.1 hk, cell_keep h.1.1.2.2.2.2 hk⟩, fun k v hv => cell_keep (h.1.2 k v hv) hk⟩, cell_keep h.2.1 hk, fun k v hv => cell_keep (h.2.2 k v hv) hk⟩
def UFinPost (w : World) (d j t b u st mp : Nat) (nm : ByteArray) (next : Int) (L1 L2 : UL) (x : Ses) (sp q : Nat) (rs : List (Res w.heap.size)) (r : Int × TM × Bool) (e : Ending) (w' : World) : Prop :=
 e = .returned (.int .i64 r.1) ∧ Own w w' (tRes w.heap.size d j t b nm r.2.1 ++ (uRes w.heap.size d u st t mp next (if r.2.2 = true then L1 ++ L2 else L1 ++ (x, sp, q) :: L2) ++ rs))
set_option maxRecDepth 100000 in
set_option maxHeartbeats 1000000 in
theorem ufinish_calls {w0 : World} {x : Ses} {sp q : Nat} (h : Own w w0 (tRes w.heap.size d j t b nm T ++ (uRes w.heap.size d u st t mp next (L1 ++ (x, sp, q) :: L2) ++ rs))) (hf : uget (L1 ++ (x, sp, q) :: L2) x.id = some (x, sp, q)) (hnd : ∀ y ∈ L1 ++ L2, y.1.id ≠ x.id) {n : Nat} (hg : Good T.m n) (hn : n + 50 < 549755813888) (hs : T.size + 1048576 ≤ 1099511627776) {nx : Nat} (hid : x.id = (nx : Int)) (hnx : nx ≤ 4294967295) (hxb : x.b.length ≤ 1048576) (htil : 0 ≤ x.til ∧ x.til ≤ 1099511627776) (hrep : x.repo.size ≤ 128)
  {dg : List UInt8} (hdl : dg.length = 32) :
  Calls Tryz.prog 12 #[.pointer (some ⟨u, 0, none⟩), .int .i64 x.id, .agg (dg.map u8v).toArray, .slice none 0 0] w0 (UFinPost w d j t b u st mp nm next L1 L2 x sp q rs (finishOf T nm (ukeyOf nx) x dg)) := by
 obtain ⟨ky, hky⟩ : ∃ k, k = ukeyOf nx := ⟨_, rfl⟩
 have HKEY := Lib.hid (show ∀ W, Calls Tryz.prog 23 #[.int .i64 x.id] W (QuietP W (.string ky)) from fun W => by rw [hky, hid]; exact ukey_calls W nx nx (IntWalk.u64_in _ (by omega)) (by omega))
 obtain ⟨cl, hcl⟩ : ∃ cl : List Value, cl = dg.map u8v := ⟨_, rfl⟩
 have HI := Lib.hid (show (Tryz.prog.info? 39).map (·.size) = some cl.length by rw [hcl, List.length_map, hdl]; kernel_rfl)
 have HI3 := Lib.hid (show (Tryz.prog.info? 43).map (·.size) = some ([.string x.repo, .int .i64 x.til, .int .i64 (x.b.length : Int)] : List Value).length by kernel_rfl)
 obtain ⟨R, hR⟩ : ∃ R, finishOf T nm (ukeyOf nx) x dg = R := ⟨_, rfl⟩
 rw [hR, ← hcl]
 unfold finishOf at hR
 rw [← hky] at hR
 obtain ⟨l1, hl1⟩ : ∃ l, l = laidOf x.repo x.til.toNat dg := ⟨_, rfl⟩
 rw [← hl1] at hR
 obtain ⟨ap, hap⟩ : ∃ r, r = tAppOf T nm [⟨ky, false, l1⟩] := ⟨_, rfl⟩
 rw [← hap] at hR
 have hga : Good ap.2.m (n + 1) := by rw [hap]; exact tApp_good hg nm _
 have hsa : ap.2.size ≤ 1099511627776 := by rw [hap]; exact Nat.le_trans (tApp_size T nm _) hs
 obtain ⟨cr, hcr⟩ : ∃ r, r = closeOf ap.2 nm ky dg := ⟨_, rfl⟩
 rw [← hcr] at hR
 have HCLO := Lib.hid (show ∀ W (M : List (Res w.heap.size)), Own w W (tRes w.heap.size d j t b nm ap.2 ++ (uRes w.heap.size d u st t mp next (L1 ++ L2) ++ M)) → Calls Tryz.prog 54 #[.pointer (some ⟨u, 0, none⟩), .int .i64 x.id, .agg cl.toArray] W (ULPost w d j t b u st mp nm next (L1 ++ L2) M cr) from fun W M hW => by
  rw [hcr, hcl, hky]
  exact uclose_calls hW hga (by omega) hsa hid hnx hdl)
 have HLAID := Lib.hid (show ∀ W (M : List (Res w.heap.size)) (bd : Nat), Own w W M → rObj w.heap.size bd (.cells cl.toArray 39) ∈ M → Calls Tryz.prog 43 #[.agg #[.string x.repo, .int .i64 x.til, .int .i64 (x.b.length : Int)], .slice (some ⟨bd, 0, none⟩) 32 32] W (OPost W l1) from fun W M bd hW hm => by
  rw [hl1]
  exact laid_calls x.repo x.til _ x.til.toNat (by rw [IntWalk.u64_in _ (by omega)]; omega) (by omega) (agg_reads (by rw [← hcl]; exact (hW.at hm).1) hdl) (by omega) (by omega))
 have HAPP := Lib.hid (show ∀ W (M : List (Res w.heap.size)) (a : Option Addr) (c : Nat) (v1 : Value), 1 ≤ c ∧ c ≤ maxLen → Own w W (tRes w.heap.size d j t b nm T ++ (uRes w.heap.size d u st t mp next (L1 ++ (x, sp, q) :: L2) ++ (rRaw w.heap.size (.slice a 1 c) 109 3 1 [.string ky, .bool false, v1] :: rBytes w.heap.size v1 l1 :: M))) →
   Calls Tryz.prog 42 #[.pointer (some ⟨t, 0, none⟩), .slice a 1 c] W (ULPost w d j t b u st mp nm next (L1 ++ (x, sp, q) :: L2) M ap) from fun W M a c v1 hc hW => by
  have := tapply_callsO hW hg (by omega) (by omega) (a := a) (c := c) (l := [⟨ky, false, l1⟩]) (fun wr ls ho => raw_in (n := 1) (c := c) ho (by simp) (ho.bytes (v := v1) (l := l1) (by simp)).1) hc.1 hc.2
  rw [← hap] at this
  refine this.mono ?_
  rintro e w' ⟨he, h⟩
  exact ⟨he, h.dropEnd.dropEnd⟩)
 have hfi := fun (W : World) (M : List (Res w.heap.size)) (hW : Own w W (tRes w.heap.size d j t b nm T ++ (uRes w.heap.size d u st t mp next (L1 ++ (x, sp, q) :: L2) ++ M))) => ufind_runs (L := L1 ++ (x, sp, q) :: L2) hW (u := u) (d := d) (st := st) (t := t) (mp := mp) (next := next) (by simp [uRes]) (by simp [uRes]) x.id
 unfold ufindOf at hfi
 rw [hf] at hfi
 dsimp only at hfi
 have HFI := Lib.hid hfi
 have heq := fun W => dig_eq (sumOf x.b) dg (sumOf_length _) hdl W
 obtain ⟨sm, hsm⟩ : ∃ sm : List Value, sm = (sumOf x.b).map u8v := ⟨_, rfl⟩
 rw [← hsm, ← hcl] at heq
 have HSUM := Lib.hid (show ∀ W (M : List (Res w.heap.size)), Own w W (tRes w.heap.size d j t b nm T ++ (uRes w.heap.size d u st t mp next (L1 ++ (x, sp, q) :: L2) ++ M)) → Calls Tryz.prog 52 #[.pointer (some ⟨q, 0, none⟩)] W (fun e w' => e = .returned (.agg sm.toArray) ∧ Keeps (fun _ => False) W w') from fun W M hW => by
  rw [hsm]
  exact dsum_calls (hW.focus.stat (q := q) (l := x.b) (by simp)).1 (by omega))
 have HLV := Lib.hid (fun (W : World) (T' : TM) (M : List (Res w.heap.size)) (hW : Own w W (tRes w.heap.size d j t b nm T' ++ (uRes w.heap.size d u st t mp next (L1 ++ (x, sp, q) :: L2) ++ M))) => Own.leave hW hnd)
 have H0 := Lib.hid (h.endObj (.cells cl.toArray 39))
 obtain ⟨bb, hbb⟩ : ∃ bb, bb = decide (sumOf x.b = dg) := ⟨_, rfl⟩
 rw [← hbb] at heq
 have HBB := Lib.hid hbb
 obtain ⟨c1, T1⟩ := ap
 obtain ⟨c2, T2⟩ := cr
 dsimp only at hR HCLO HAPP
 have HR := Lib.hid hR
 clear hfi hf hnd hg hn hs hid hnx hxb htil hrep hdl hky hcl hl1 hap hga hsa hcr hsm hbb hR h
 go_enter Tryz.func12, Tryz.ntmps12
 go_wp2_with fail
 generalize w0.alloc (.cells cl.toArray 39) = w1 at H0 ⊢
 generalize w0.heap.size = bd at H0 ⊢
 refine (HFI.out _ _ H0.out).out.mono ?_
 rintro e w' ⟨rfl, rfl⟩
 go_upto_region 4 with fail
 refine wp_region_held_drew (S := UFin u d st t next mp bd sp q cl x) (by kernel_rfl) (by exact UFin.of H0.out.drew (List.mem_cons_self ..)) (fun hHeld => ?_)
 have H1 := Lib.hid H0.out.drew
 clear H0 HFI
 refine wpAnyH_take (i := 0) (oi := { dst := some 24, op := _, type := _, pos := _, after := _, guard := _ }) (v := .pointer (some ⟨sp, 0, none⟩)) rfl (by kernel_rfl) (by kernel_rfl) (by kernel_rfl) (fun _ _ _ h => h) (Or.inl ⟨by rfl, by intro w hSw; (try dsimp only at hSw); go_simp⟩) hHeld ?_
 try simp only [Act.put, List.setIfInBounds_toArray, List.set_cons_zero, List.set_cons_succ]
 refine wpAnyH_take (i := 1) (oi := { dst := some 25, op := _, type := _, pos := _, after := _, guard := _ }) (v := .pointer (some ⟨sp, 0, none⟩)) rfl (by kernel_rfl) (by kernel_rfl) (by kernel_rfl) (fun _ _ _ h => h) (Or.inl ⟨by rfl, by intro w hSw; (try dsimp only at hSw); go_simp⟩) hHeld ?_
 try simp only [Act.put, List.setIfInBounds_toArray, List.set_cons_zero, List.set_cons_succ]
 refine wpAnyH_take (i := 2) (oi := { dst := some 26, op := _, type := _, pos := _, after := _, guard := _ }) (v := .pointer (some ⟨sp, 3, none⟩)) rfl (by kernel_rfl) (by kernel_rfl) (by kernel_rfl) (fun _ _ _ h => h) (Or.inl ⟨by rfl, by intro w hSw; (try dsimp only at hSw); go_simp⟩) hHeld ?_
 try simp only [Act.put, List.setIfInBounds_toArray, List.set_cons_zero, List.set_cons_succ]
 refine wpAnyH_take (i := 3) (oi := { dst := some 27, op := _, type := _, pos := _, after := _, guard := _ }) (v := .pointer (some ⟨q, 0, none⟩)) rfl (by kernel_rfl) (by kernel_rfl) (by kernel_rfl) (fun _ _ _ h => h) (Or.inl ⟨by rfl, by intro w hSw; (try dsimp only at hSw); (have q0 := hSw.2.1; go_simp)⟩) hHeld ?_
 try simp only [Act.put, List.setIfInBounds_toArray, List.set_cons_zero, List.set_cons_succ]
 refine wpAnyH_take (i := 5) (oi := { dst := some 29, op := _, type := _, pos := _, after := _, guard := _ }) (v := .agg (cl).toArray) rfl (by kernel_rfl) (by kernel_rfl) (by kernel_rfl) (fun _ _ _ h => h) (yieldsIf_load_mid (by rfl) _ _ rfl (bd) (0) rfl (cl) _ (fun w' hk => hk.1.2) Tryz.underlying39 rfl HI.out) hHeld ?_
 try simp only [Act.put, List.setIfInBounds_toArray, List.set_cons_zero, List.set_cons_succ]
 refine wpAnyH_ready (rs := [4]) (by kernel_rfl) (by simp) ?_
 refine AllReadyH.cons (o := { dst := some 28, op := _, type := _, pos := _, after := _, guard := _ }) rfl (fun K hK => ?_) AllReadyH.nil
 refine step_wanted' rfl ?_
 go_simp
 go_at_call 52
 refine (HSUM.out _ _ H1.out).mono ?_
 rintro e w2 ⟨rfl, hk2⟩
 have H2 := Lib.hid (H1.out.quiet hk2)
 refine hK.out _ _ (by exact UFin.of H2.out (List.mem_cons_self ..)) (fun hHeld1 => ?_)
 clear hK K
 try simp only [Act.put, List.setIfInBounds_toArray, List.set_cons_zero, List.set_cons_succ]
 refine wpAnyH_take (i := 6) (oi := { dst := some 30, op := _, type := _, pos := _, after := _, guard := _ }) (v := .bool (!bb)) rfl (by kernel_rfl) (by kernel_rfl) (by kernel_rfl) (fun _ _ _ h => h) (Or.inl ⟨by rfl, by intro w hSw; (try dsimp only at hSw); go_simp⟩) hHeld1 ?_
 try simp only [Act.put, List.setIfInBounds_toArray, List.set_cons_zero, List.set_cons_succ]
 refine wpAnyH_take (i := 7) (oi := { dst := some 23, op := _, type := _, pos := _, after := _, guard := _ }) (v := .bool (!bb)) rfl (by kernel_rfl) (by kernel_rfl) (by kernel_rfl) (fun _ _ _ h => h) (Or.inl ⟨by rfl, by intro w hSw; (try dsimp only at hSw); go_simp⟩) hHeld1 ?_
 try simp only [Act.put, List.setIfInBounds_toArray, List.set_cons_zero, List.set_cons_succ]
 refine wpAnyH_done (by kernel_rfl) ?_ _
 cases bb with
 | false =>
  have hr1 := HR.out
  rw [if_neg (of_decide_eq_false HBB.out.symm)] at hr1
  subst hr1
  clear HR heq
  go_wp2_with fail
  go_ret
  exact ⟨rfl, H2.out.dropEnd⟩
 | true =>
  have hr1 := HR.out
  rw [if_pos (of_decide_eq_true HBB.out.symm)] at hr1
  have HR := Lib.hid hr1
  clear hr1 heq
  have hsl : ∀ W, (Instr.sliceAt 39 (.pointer (some ⟨bd, 0, none⟩)) none none none).run Tryz.prog W = .ok (.slice (some ⟨bd, 0, none⟩) 32 32) W := fun W => by
   go_simp
  go_upto_region 6 with fail
  refine wp_region_held_drew (S := UFin u d st t next mp bd sp q cl x) (by kernel_rfl) (by exact UFin.of H2.out.drew (List.mem_cons_self ..)) (fun hHeld => ?_)
  have H3 := Lib.hid H2.out.drew
  clear H2
  refine wpAnyH_take (i := 0) (oi := { dst := some 31, op := _, type := _, pos := _, after := _, guard := _ }) (v := .slice none 0 0) rfl (by kernel_rfl) (by kernel_rfl) (by kernel_rfl) (fun _ _ _ h => h) (Or.inl ⟨by rfl, by intro w hSw; (try dsimp only at hSw); go_simp⟩) hHeld ?_
  try simp only [Act.put, List.setIfInBounds_toArray, List.set_cons_zero, List.set_cons_succ]
  refine wpAnyH_take (i := 2) (oi := { dst := some 33, op := _, type := _, pos := _, after := _, guard := _ }) (v := .int .i64 x.id) rfl (by kernel_rfl) (by kernel_rfl) (by kernel_rfl) (fun _ _ _ h => h) (Or.inl ⟨by rfl, by intro w hSw; (try dsimp only at hSw); go_simp⟩) hHeld ?_
  try simp only [Act.put, List.setIfInBounds_toArray, List.set_cons_zero, List.set_cons_succ]
  refine wpAnyH_take (i := 4) (oi := { dst := some 35, op := _, type := _, pos := _, after := _, guard := _ }) (v := .pointer (some ⟨sp, 0, none⟩)) rfl (by kernel_rfl) (by kernel_rfl) (by kernel_rfl) (fun _ _ _ h => h) (Or.inl ⟨by rfl, by intro w hSw; (try dsimp only at hSw); go_simp⟩) hHeld ?_
  try simp only [Act.put, List.setIfInBounds_toArray, List.set_cons_zero, List.set_cons_succ]
  refine wpAnyH_take (i := 5) (oi := { dst := some 36, op := _, type := _, pos := _, after := _, guard := _ }) (v := .pointer (some ⟨sp, 0, none⟩)) rfl (by kernel_rfl) (by kernel_rfl) (by kernel_rfl) (fun _ _ _ h => h) (Or.inl ⟨by rfl, by intro w hSw; (try dsimp only at hSw); go_simp⟩) hHeld ?_
  try simp only [Act.put, List.setIfInBounds_toArray, List.set_cons_zero, List.set_cons_succ]
  refine wpAnyH_take (i := 6) (oi := { dst := some 37, op := _, type := _, pos := _, after := _, guard := _ }) (v := .pointer (some ⟨sp, 0, none⟩)) rfl (by kernel_rfl) (by kernel_rfl) (by kernel_rfl) (fun _ _ _ h => h) (Or.inl ⟨by rfl, by intro w hSw; (try dsimp only at hSw); go_simp⟩) hHeld ?_
  try simp only [Act.put, List.setIfInBounds_toArray, List.set_cons_zero, List.set_cons_succ]
  refine wpAnyH_take (i := 7) (oi := { dst := some 38, op := _, type := _, pos := _, after := _, guard := _ }) (v := .agg ([.string x.repo, .int .i64 x.til, .int .i64 (x.b.length : Int)]).toArray) rfl (by kernel_rfl) (by kernel_rfl) (by kernel_rfl) (fun _ _ _ h => h) (yieldsIf_load_mid (by rfl) _ _ rfl (sp) (0) rfl ([.string x.repo, .int .i64 x.til, .int .i64 (x.b.length : Int)]) _ (fun w' hk => hk.2.2) Tryz.underlying43 rfl HI3.out) hHeld ?_
  try simp only [Act.put, List.setIfInBounds_toArray, List.set_cons_zero, List.set_cons_succ]
  refine wpAnyH_take (i := 8) (oi := { dst := some 39, op := _, type := _, pos := _, after := _, guard := _ }) (v := .slice (some ⟨bd, 0, none⟩) 32 32) rfl (by kernel_rfl) (by kernel_rfl) (by kernel_rfl) (fun _ _ _ h => h) (Or.inl ⟨by rfl, by intro w hSw; (try dsimp only at hSw); go_simp⟩) hHeld ?_
  try simp only [Act.put, List.setIfInBounds_toArray, List.set_cons_zero, List.set_cons_succ]
  refine wpAnyH_ready (rs := [1]) (by kernel_rfl) (by simp) ?_
  refine AllReadyH.cons (o := { dst := some 32, op := _, type := _, pos := _, after := _, guard := _ }) rfl (fun K hK => ?_) AllReadyH.nil
  refine step_wanted' rfl ?_
  go_simp
  go_at_call 53
  refine (chclone_nil _).mono ?_
  rintro e w' ⟨rfl, rfl⟩
  refine hK.out _ _ (by exact hHeld) (fun hHeld1 => ?_)
  clear hK K
  try simp only [Act.put, List.setIfInBounds_toArray, List.set_cons_zero, List.set_cons_succ]
  refine wpAnyH_ready (rs := [3]) (by kernel_rfl) (by simp) ?_
  refine AllReadyH.cons (o := { dst := some 34, op := _, type := _, pos := _, after := _, guard := _ }) rfl (fun K hK => ?_) AllReadyH.nil
  refine step_wanted' rfl ?_
  go_simp
  go_at_call 23
  refine (HKEY.out _).mono ?_
  rintro e w4 ⟨rfl, hk4⟩
  have H4 := Lib.hid (H3.out.quiet hk4)
  refine hK.out _ _ (by exact UFin.of H4.out (List.mem_cons_self ..)) (fun hHeld2 => ?_)
  clear hK K
  try simp only [Act.put, List.setIfInBounds_toArray, List.set_cons_zero, List.set_cons_succ]
  refine wpAnyH_ready (rs := [9]) (by kernel_rfl) (by simp) ?_
  refine AllReadyH.cons (o := { dst := some 40, op := _, type := _, pos := _, after := _, guard := _ }) rfl (fun K hK => ?_) AllReadyH.nil
  refine step_wanted' rfl ?_
  go_simp
  go_at_call 43
  refine (HLAID.out _ _ bd H4.out (by simp)).mono ?_
  rintro e w5 ⟨v1, rfl, ho1, hk5⟩
  obtain ⟨a1, q1, rfl, -, -⟩ := ho1.bytes.form
  have H5 := Lib.hid (H4.out.endBytes ho1 hk5)
  clear ho1
  refine hK.out _ _ (by exact UFin.of H5.out (by simp)) (fun hHeld3 => ?_)
  clear hK K
  try simp only [Act.put, List.setIfInBounds_toArray, List.set_cons_zero, List.set_cons_succ]
  refine wpAnyH_take (i := 10) (oi := { dst := some 41, op := _, type := _, pos := _, after := _, guard := _ }) (v := .agg #[.string ky, .bool false, .slice a1 l1.length q1]) rfl (by kernel_rfl) (by kernel_rfl) (by kernel_rfl) (fun _ _ _ h => h) (Or.inl ⟨by rfl, by intro w hSw; (try dsimp only at hSw); go_simp⟩) hHeld3 ?_
  try simp only [Act.put, List.setIfInBounds_toArray, List.set_cons_zero, List.set_cons_succ]
  refine wpAnyH_ready (rs := [11]) (by kernel_rfl) (by simp) ?_
  refine AllReadyH.cons (o := { dst := some 42, op := _, type := _, pos := _, after := _, guard := _ }) rfl (fun K hK => ?_) AllReadyH.nil
  refine step_wanted' rfl ?_
  go_simp
  obtain ⟨xa, xc, w6, hrun, hrow, hk6⟩ := one_change w5 ky (pv := .slice a1 l1.length q1) rfl
  refine hK.out _ _ (by exact UFin.keep hHeld3 ((Keeps.refl _ _).alloc _)) (fun hHeld4 => ?_)
  clear hK K
  try simp only [Act.put, List.setIfInBounds_toArray, List.set_cons_zero, List.set_cons_succ]
  refine wpAnyH_ready (rs := [12]) (by kernel_rfl) (by simp) ?_
  refine AllReadyH.cons (o := { dst := some 43, op := _, type := _, pos := _, after := _, guard := _ }) rfl (fun K hK => ?_) AllReadyH.nil
  refine step_append_run rfl _ _ _ _ rfl rfl rfl hrun ?_
  have H6 := Lib.hid (Own.toEnd (H5.out.add hk6 (r := rRaw _ (.slice xa 1 xc) 109 3 1 [.string ky, .bool false, .slice a1 l1.length q1]) (G := fun b => (Value.slice xa 1 xc).ownBlock = some b) ⟨ownsRow_base0 hrow (Nat.zero_le _), fun _ hb => hb⟩ (fun b hb => by have := hrow.lt b hb; omega)))
  refine hK.out _ _ (by exact UFin.of H6.out (by simp)) (fun hHeld5 => ?_)
  clear hK K
  try simp only [Act.put, List.setIfInBounds_toArray, List.set_cons_zero, List.set_cons_succ]
  refine wpAnyH_take (i := 13) (oi := { dst := some 11, op := _, type := _, pos := _, after := _, guard := _ }) (v := .slice xa 1 xc) rfl (by kernel_rfl) (by kernel_rfl) (by kernel_rfl) (fun _ _ _ h => h) (Or.inl ⟨by rfl, by intro w hSw; (try dsimp only at hSw); go_simp⟩) hHeld5 ?_
  try simp only [Act.put, List.setIfInBounds_toArray, List.set_cons_zero, List.set_cons_succ]
  refine wpAnyH_done (by kernel_rfl) ?_ _
  have hcm : 1 ≤ xc ∧ xc ≤ maxLen := by
   rcases hrow.2 with ⟨-, e⟩ | ⟨g', cap, cur, e, _, _, k1, k2, _⟩
   ·omega
   ·cases e; exact ⟨k1, k2⟩
  have HCM := Lib.hid hcm
  clear hrun hrow hcm hsl
  obtain ⟨-, -, k2, -, -⟩ := u_cells (H6.out.at (b := u) (o := uObj d st t next mp) (by simp [uRes])).1
  go_wp2_with fail
  refine (HAPP.out _ _ _ _ _ HCM.out H6.out).mono ?_
  rintro e w7 ⟨rfl, h7⟩
  have H7 := Lib.hid h7
  clear h7 k2 H6
  by_cases hc : c1 = 0
  ·subst hc
   have hr1 := HR.out
   rw [if_pos rfl] at hr1
   subst hr1
   obtain ⟨-, -, -, -, k4⟩ := u_cells (H7.out.at (b := u) (o := uObj d st t next mp) (by simp [uRes])).1
   obtain ⟨w8, hdel, h8⟩ := HLV.out _ _ _ H7.out
   have HD := Lib.hid hdel
   have H8 := Lib.hid h8
   have HB := Lib.hid (h8.at (b := bd) (o := .cells cl.toArray 39) (by simp)).1
   have HIA := Lib.hid (show (Tryz.prog.info? 39).map (·.size) = some cl.toArray.size by rw [HI.out]; simp)
   clear hdel h8 HR
   go_wp2_with (first | (at_delete; refine wpList_delete_run rfl _ _ _ _ rfl rfl rfl HD.out ?_) | (refine wpList_load_row rfl 39 _ rfl bd rfl 39 cl.toArray (0, 0) _ HB.out Tryz.underlying39 rfl HIA.out ?_))
   refine (HCLO.out _ _ H8.out).mono ?_
   rintro e w9 ⟨rfl, h9⟩
   have H9 := Lib.hid h9.dropEnd
   clear h9 H8 HD HB k4
   go_wp2_with fail
   go_ret
   exact ⟨rfl, H9.out⟩
  ·have hr1 := HR.out
   rw [if_neg hc] at hr1
   subst hr1
   have b1 : (c1 != 0) = true := by simpa using hc
   clear HR hc
   go_wp2_with fail
   go_ret
   exact ⟨rfl, H7.out.dropEnd⟩
end
end Go.Proofs.YtlcnhpjggjgnpaaGreatDoor
namespace Go.Proofs.YtlcnhpjggjgnpaaGreatDoor
set_option linter.unusedVariables false
open Go.RowKit Go.MapKept
theorem ukeyOf_size (x : Nat) : (ukeyOf x).size = 10 := by
 unfold ukeyOf
 rw [ByteArray.size_append]
 show 2 + (hexOf (putOf x 4)).toArray.size = 10
 rw [List.size_toArray, hexOf_length, putOf_length]
theorem name_of_size {s : ByteArray} (h0 : 0 < s.size) (h1 : s.size ≤ 160) : isName s = true := by
 have : s.toList ≠ [] := by
  intro e
  have h2 := congrArg List.length e
  rw [ByteArray.toList_eq, Array.length_toList] at h2
  exact absurd h2 (Nat.ne_of_gt h0)
 unfold isName
 rw [decide_eq_true (show ((s.size : Int)) ≤ 160 by omega)]
 cases hl : s.toList with
 | nil => exact absurd hl this
 | cons a l => rfl
theorem ne_of_size {a b : ByteArray} (h : a.size ≠ b.size) : a ≠ b := fun e => h (by rw [e])
def wtC (l : List TCh) : Nat := (l.map (fun c => 21 + c.key.size + c.val.length)).sum
theorem enc_wt {l : List TCh} (hl : l.length ≤ 256) (h : ∀ c ∈ l, badCh c = false) (hw : wtC l ≤ 1048000) : (encOf l).1 = 0 ∧ (encOf l).2.length ≤ 10 + wtC l := by
 have hs : ∀ l : List TCh, (∀ c ∈ l, badCh c = false) → ((l.map encCh).flatten).length ≤ wtC l := fun l => by
  induction l with
  | nil => intro _; simp [wtC]
  | cons c l ih =>
   intro h
   have h1 := ih (fun x hx => h x (List.mem_cons_of_mem _ hx))
   have h2 : (encCh c).length ≤ 21 + c.key.size + c.val.length := by
    have hb := h c (List.mem_cons_self ..)
    unfold badCh at hb
    simp only [Bool.or_eq_false_iff, decide_eq_false_iff_not] at hb
    have hk := key_len c.key
    have e1 := countOf_len10 (n := c.key.toList.length) (by omega)
    have e2 := countOf_len10 (n := c.val.length) (by omega)
    unfold encCh textOf
    split
    ·rw [List.length_cons, List.length_append]; omega
    ·rw [List.length_append, List.length_cons, List.length_append, List.length_append]; omega
   simp only [wtC, List.map_cons, List.flatten_cons, List.length_append, List.sum_cons] at h1 ⊢
   omega
 have h0 := enc_fits hl h (by have := hs l h; omega)
 refine ⟨h0, ?_⟩
 rw [(enc_ok h0).2.1, List.length_append]
 have := hs l h
 have := countOf_len10 (n := l.length) (by omega)
 omega
theorem good_key {k : ByteArray} {g : Bool} {v : List UInt8} (h0 : 0 < k.size) (h1 : k.size ≤ 320) (h2 : v.length ≤ 262144) : badCh ⟨k, g, v⟩ = false := by
 unfold badCh
 simp only [Bool.or_eq_false_iff, decide_eq_false_iff_not]
 omega
theorem start_calm {T : TM} {R : Int} {F : FS} {b : List UInt8} (h : CT T R F b) {nx : Nat} (hnx : 1 ≤ nx ∧ nx ≤ 4294967295) {repo : ByteArray} (hrep : isRepo repo = true) {til : Int} (htil : 0 ≤ til ∧ til ≤ 1099511627776) (hno : fget F (ukeyOf nx) = none) (hl : F.length < 4096) (hr : (used F : Int) + 400 ≤ R) :
  ∃ T' b', startOf T nmT nx repo til = ((nx : Int), 0, T') ∧ CT T' R (fput (fput F (ukeyOf nx) []) nmT b') b' ∧ b'.length ≤ b.length + 250 ∧ T'.fs = tdos T.fs [⟨ukeyOf nx, false, laidOf repo til.toNat []⟩, ⟨uB, false, putOf (nx + 1) 8⟩] := by
 have hks := ukeyOf_size nx
 have hrs := isRepo_size hrep
 have hne : ukeyOf nx ≠ nmT := ne_of_size (by rw [hks]; decide)
 have hc := h.cm.create (k := ukeyOf nx) (name_of_size (by omega) (by omega)) hno hl
 have hu0 := used_fput h.cm.nd (ukeyOf nx) []
 rw [hno] at hu0
 simp only [Option.getD_none, List.length_nil, Nat.add_zero] at hu0
 have hct : CT ⟨(createOf T.m (ukeyOf nx)).2, T.size, T.fs, T.down⟩ R (fput F (ukeyOf nx) []) b := ⟨hc.2, by rw [fget_fput_other h.cm.nd _ _ _ hne]; exact h.file, h.up⟩
 have huB : uB.size = 1 := rfl
 have hll := laidOf_length repo til.toNat []
 have hlp := putOf_length 8 (nx + 1)
 rw [List.length_nil] at hll
 have hw : wtC [⟨ukeyOf nx, false, laidOf repo til.toNat []⟩, ⟨uB, false, putOf (nx + 1) 8⟩] = 21 + 10 + (9 + 0 + repo.size) + (21 + 1 + 8) := by
  simp [wtC, hks, huB, hll, hlp]
 have he := enc_wt (l := [⟨ukeyOf nx, false, laidOf repo til.toNat []⟩, ⟨uB, false, putOf (nx + 1) 8⟩]) (by simp) (by
  intro c hcm
  rcases List.mem_cons.1 hcm with rfl | hcm
  ·exact good_key (by omega) (by omega) (by omega)
  ·rw [List.mem_singleton.1 hcm]
   exact good_key (by omega) (by omega) (by omega)) (by rw [hw]; omega)
 rw [hw] at he
 obtain ⟨a0, a1, a2⟩ := hct.app he.1 (by rw [hu0]; omega)
 refine ⟨_, _, ?_, a1, by rw [List.length_append, frameOf_length]; omega, a2⟩
 unfold startOf
 rw [if_pos hrep, if_neg (by omega), if_neg (by omega), if_pos hc.1, if_pos a0]
theorem patch_calm {T : TM} {R : Int} {F : FS} {b v : List UInt8} (h : CT T R F b) {nx : Nat} {x : Ses} (hv : fget F (ukeyOf nx) = some v) {p : List UInt8} (hp : x.b.length + p.length ≤ 1048576) (hr : (used F : Int) + p.length ≤ R) :
  ∃ T', patchOf T (ukeyOf nx) x (x.b.length : Int) p = (0, T', { x with b := x.b ++ p }) ∧ CT T' R (fput F (ukeyOf nx) (v ++ p)) b ∧ T'.fs = T.fs := by
 have hne : ukeyOf nx ≠ nmT := ne_of_size (by rw [ukeyOf_size]; decide)
 have ha := h.cm.append (k := ukeyOf nx) hv (p := p) (by omega) hr
 have hs := ha.2.sync
 refine ⟨{ T with m := (syncOf (appendOf T.m (ukeyOf nx) p).2).2 }, ?_, ⟨hs.2, by rw [fget_fput_other h.cm.nd _ _ _ hne]; exact h.file, h.up⟩, rfl⟩
 unfold patchOf
 rw [if_pos rfl, if_neg (by omega), if_pos ha.1, if_pos hs.1]
theorem finish_calm {T : TM} {R : Int} {F : FS} {b : List UInt8} (h : CT T R F b) {nx : Nat} {x : Ses} (hv : fget F (ukeyOf nx) = some x.b) (hrs : x.repo.size ≤ 128) {dg : List UInt8} (hd : sumOf x.b = dg) (hno : fget F (fileOf dg) = none) (hr : (used F : Int) + 600 ≤ R) :
  ∃ T' F' b', finishOf T nmT (ukeyOf nx) x dg = (0, T', true) ∧ CT T' R F' b' ∧ fget F' (fileOf dg) = some x.b ∧ fget F' (ukeyOf nx) = none ∧
   T'.fs = tdos (tdos T.fs [⟨ukeyOf nx, false, laidOf x.repo x.til.toNat dg⟩]) [⟨ukeyOf nx, true, []⟩] := by
 have hdl : dg.length = 32 := by rw [← hd]; exact sumOf_length _
 have hks := ukeyOf_size nx
 have hfs := fileOf_size dg hdl
 have n1 : ukeyOf nx ≠ nmT := ne_of_size (by rw [hks]; decide)
 have n2 : fileOf dg ≠ nmT := ne_of_size (by rw [hfs]; decide)
 have n3 : ukeyOf nx ≠ fileOf dg := ne_of_size (by rw [hfs, hks]; decide)
 have hll := laidOf_length x.repo x.til.toNat dg
 -- the end is written
 have w1 : wtC [⟨ukeyOf nx, false, laidOf x.repo x.til.toNat dg⟩] = 21 + 10 + (9 + 32 + x.repo.size) := by simp [wtC, hks, hll, hdl]
 have e1 := enc_wt (l := [⟨ukeyOf nx, false, laidOf x.repo x.til.toNat dg⟩]) (by simp) (by intro c hc; rw [List.mem_singleton.1 hc]; exact good_key (by omega) (by omega) (by omega)) (by rw [w1]; omega)
 rw [w1] at e1
 obtain ⟨a0, a1, a2⟩ := h.app e1.1 (by omega)
 have u1 := used_fput h.cm.nd nmT (b ++ frameOf (encOf [⟨ukeyOf nx, false, laidOf x.repo x.til.toNat dg⟩]).2)
 rw [h.file, Option.getD_some, List.length_append, frameOf_length] at u1
 generalize b ++ frameOf (encOf [⟨ukeyOf nx, false, laidOf x.repo x.til.toNat dg⟩]).2 = b1 at a1 u1
 generalize hT1 : tAppOf T nmT [⟨ukeyOf nx, false, laidOf x.repo x.til.toNat dg⟩] = r1 at a0 a1 a2
 obtain ⟨c1, T1⟩ := r1
 dsimp only at a0 a1 a2
 subst a0
 have v1 : fget (fput F nmT b1) (ukeyOf nx) = some x.b := by rw [fget_fput_other h.cm.nd _ _ _ (Ne.symm n1)]; exact hv
 have g1 : fget (fput F nmT b1) (fileOf dg) = none := by rw [fget_fput_other h.cm.nd _ _ _ (Ne.symm n2)]; exact hno
 have nd1 := a1.cm.nd
 -- the file is adopted
 have r0 := a1.cm.rename (k := ukeyOf nx) (g := fileOf dg) v1 (name_of_size (by omega) (by omega)) n3
 have s0 := r0.2.sync
 have had : adoptOf T1.m (ukeyOf nx) dg = syncOf (renameOf T1.m (ukeyOf nx) (fileOf dg)).2 := by
  unfold adoptOf
  rw [a1.cm.there, v1, a1.cm.cont, v1, a1.cm.there, g1]
  simp [hd, r0.1]
 have nd2 : FNodup (fput (fput F nmT b1) (fileOf dg) x.b) := nd1.fput _ _
 have ct2 : CT { T1 with m := (adoptOf T1.m (ukeyOf nx) dg).2 } R (fdel (fput (fput F nmT b1) (fileOf dg) x.b) (ukeyOf nx)) b1 := by
  rw [had]
  refine ⟨s0.2, ?_, a1.up⟩
  rw [fget_fdel_other _ _ _ n1, fget_fput_other nd1 _ _ _ n2]
  exact fget_fput_same h.cm.nd _ _
 have u2 := used_fput nd1 (fileOf dg) x.b
 rw [g1] at u2
 simp only [Option.getD_none, List.length_nil, Nat.add_zero] at u2
 have u3 := used_fdel nd2 (ukeyOf nx)
 rw [fget_fput_other nd1 _ _ _ (Ne.symm n3), v1, Option.getD_some] at u3
 -- the key goes
 have w2 : wtC [⟨ukeyOf nx, true, []⟩] = 21 + 10 := by simp [wtC, hks]
 have e2 := enc_wt (l := [⟨ukeyOf nx, true, []⟩]) (by simp) (by intro c hc; rw [List.mem_singleton.1 hc]; exact good_key (by omega) (by omega) (by simp)) (by rw [w2]; omega)
 rw [w2] at e2
 obtain ⟨p0, p1, p2⟩ := ct2.app e2.1 (by omega)
 refine ⟨_, _, _, ?_, p1, ?_, ?_, ?_⟩
 ·unfold finishOf
  rw [if_pos hd, hT1, if_pos rfl]
  have hcl : closeOf T1 nmT (ukeyOf nx) dg = (0, (tAppOf { T1 with m := (adoptOf T1.m (ukeyOf nx) dg).2 } nmT [⟨ukeyOf nx, true, []⟩]).2) := by
   unfold closeOf
   rw [if_neg (by rw [had]; exact fun hh => hh.1 s0.1), if_neg (by rw [p0]; decide), p0]
  rw [hcl]
 ·rw [fget_fput_other ct2.cm.nd _ _ _ (Ne.symm n2), fget_fdel_other _ _ _ n3]
  exact fget_fput_same nd1 _ _
 ·rw [fget_fput_other ct2.cm.nd _ _ _ (Ne.symm n1)]
  exact fget_fdel_same _ _
 ·rw [p2, a2]
theorem start_good {T : TM} {n : Nat} (h : Good T.m n) (nm : ByteArray) (nx : Nat) (repo : ByteArray) (til : Int) : Good (startOf T nm nx repo til).2.2.m (n + 3) := by
 have h1 := h.create (ukeyOf nx)
 have h2 := tApp_good (T := ⟨(createOf T.m (ukeyOf nx)).2, T.size, T.fs, T.down⟩) h1 nm [⟨ukeyOf nx, false, laidOf repo til.toNat []⟩, ⟨uB, false, putOf (nx + 1) 8⟩]
 have h3 := h2.remove (ukeyOf nx)
 unfold startOf
 split
 ·split
  ·exact h.mono (by omega)
  ·split
   ·exact h.mono (by omega)
   ·split
    ·split
     ·exact h2.mono (by omega)
     ·exact h3
    ·exact h1.mono (by omega)
 ·exact h.mono (by omega)
theorem start_size (T : TM) (nm : ByteArray) (nx : Nat) (repo : ByteArray) (til : Int) : (startOf T nm nx repo til).2.2.size ≤ T.size + 1048576 := by
 have h2 := tApp_size ⟨(createOf T.m (ukeyOf nx)).2, T.size, T.fs, T.down⟩ nm [⟨ukeyOf nx, false, laidOf repo til.toNat []⟩, ⟨uB, false, putOf (nx + 1) 8⟩]
 unfold startOf
 split
 ·split
  ·exact Nat.le_add_right _ _
  ·split
   ·exact Nat.le_add_right _ _
   ·split
    ·split
     ·exact h2
     ·exact h2
    ·exact Nat.le_add_right _ _
 ·exact Nat.le_add_right _ _
theorem patch_good {T : TM} {n : Nat} (h : Good T.m n) (ky : ByteArray) (x : Ses) (at_ : Int) (p : List UInt8) : Good (patchOf T ky x at_ p).2.1.m (n + 1) := by
 have h1 := h.append ky p
 unfold patchOf
 split
 ·split
  ·exact h.mono (by omega)
  ·split
   ·split
    ·exact h1.sync
    ·exact h1.sync
   ·exact h1
 ·exact h.mono (by omega)
theorem patch_size (T : TM) (ky : ByteArray) (x : Ses) (at_ : Int) (p : List UInt8) : (patchOf T ky x at_ p).2.1.size = T.size := by
 unfold patchOf
 split
 ·split
  ·rfl
  ·split
   ·split
    ·rfl
    ·rfl
   ·rfl
 ·rfl
theorem close_good {T : TM} {n : Nat} (h : Good T.m n) (nm ky : ByteArray) (dg : List UInt8) : Good (closeOf T nm ky dg).2.m (n + 2) := by
 have h1 := adopt_good h ky dg
 have h2 := tApp_good (T := { T with m := (adoptOf T.m ky dg).2 }) h1 nm [⟨ky, true, []⟩]
 unfold closeOf
 split
 ·exact h1.mono (by omega)
 ·split
  ·exact h2
  ·exact h2
theorem finish_good {T : TM} {n : Nat} (h : Good T.m n) (nm ky : ByteArray) (x : Ses) (dg : List UInt8) : Good (finishOf T nm ky x dg).2.1.m (n + 3) := by
 have h1 := tApp_good h nm [⟨ky, false, laidOf x.repo x.til.toNat dg⟩]
 have h2 := close_good (T := (tAppOf T nm [⟨ky, false, laidOf x.repo x.til.toNat dg⟩]).2) h1 nm ky dg
 unfold finishOf
 split
 ·split
  ·exact h2
  ·exact h1.mono (by omega)
 ·exact h.mono (by omega)
end Go.Proofs.YtlcnhpjggjgnpaaGreatDoor
