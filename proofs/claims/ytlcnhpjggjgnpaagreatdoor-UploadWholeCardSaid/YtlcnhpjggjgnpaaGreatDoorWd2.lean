/- A part of the proof. -/
import Derived.Test.YtlcnhpjggjgnpaaGreatDoorWc5
import Derived.Test.YtlcnhpjggjgnpaaGreatDoorWc9
import Derived.Test.YtlcnhpjggjgnpaaGreatDoorWd0
import Derived.Test.YtlcnhpjggjgnpaaGreatDoorWd1
namespace Go.Proofs.YtlcnhpjggjgnpaaGreatDoor
set_option linter.unusedVariables false
set_option linter.unusedSimpArgs false
open Go.RowKit Go.MapKept
open Go.ChangeMaps (setBlock)
def finishOf (T : TM) (nm ky : ByteArray) (x : Ses) (dg : List UInt8) : Int × TM × Bool :=
  if sumOf x.b = dg then
    (if (tAppOf T nm [⟨ky, false, laidOf x.repo x.til.toNat dg⟩]).1 = 0 then
      ((closeOf (tAppOf T nm [⟨ky, false, laidOf x.repo x.til.toNat dg⟩]).2 nm ky dg).1, (closeOf (tAppOf T nm [⟨ky, false, laidOf x.repo x.til.toNat dg⟩]).2 nm ky dg).2, true)
     else ((tAppOf T nm [⟨ky, false, laidOf x.repo x.til.toNat dg⟩]).1, (tAppOf T nm [⟨ky, false, laidOf x.repo x.til.toNat dg⟩]).2, false))
  else (20, T, false)
theorem tApp_size (T : TM) (nm : ByteArray) (l : List TCh) : (tAppOf T nm l).2.size ≤ T.size + 1048576 := by
  have h : ∀ p, (jAppendOf T.m nm T.size p).2.2 ≤ T.size + 1048576 := fun p => by
    unfold jAppendOf
    split
    · exact Nat.le_add_right _ _
    · split
      · show T.size + (8 + p.length) ≤ _; omega
      · exact Nat.le_add_right _ _
  unfold tAppOf
  split
  · exact Nat.le_add_right _ _
  · split
    · split
      · split
        · exact h _
        · exact h _
      · exact h _
    · exact Nat.le_add_right _ _
section
variable {w wr : World} {d u st t mp j b : Nat} {nm : ByteArray} {T : TM} {next : Int} {L L1 L2 : UL} {rs : List (Res w.heap.size)}
theorem Own.pmapDel {ps : PS} {w1 : World} (h : Own w wr (rPMap w.heap.size mp ps :: rs)) (k : Int) (hq : Keeps (fun _ => False) wr w1) :
    ∃ w2, (Builtin.delete_ #[102, 3] 0 #[.map (some mp), .int .i64 k]).run Tryz.prog w1 = .ok (.tuple #[]) w2 ∧ Own w w2 (rPMap w.heap.size mp (pdel ps k) :: rs) := by
  obtain ⟨F, ⟨hb, hm⟩, hF, hfin⟩ := h.open1
  have h1 : MapPs w1 mp ps := hm.keep (hq.block mp hm.lt (fun e => e))
  obtain ⟨es, clock, hr, h3⟩ := h1.delete (P := Tryz.prog) Tryz.underlying102 Tryz.underlying3 k 3 0
  exact ⟨_, hr, hfin _ (rPMap _ mp (pdel ps k)) ((hq.mono (fun _ _ e => e.elim)).setBlock (fun _ => hb) _) ⟨.inl hb, h3⟩⟩
theorem pdel_focus {x : Ses} {sp q : Nat} (hnd : ∀ y ∈ L1 ++ L2, y.1.id ≠ x.id) : pdel (ptrs (L1 ++ (x, sp, q) :: L2)) x.id = ptrs (L1 ++ L2) := by
  have e : ptrs (L1 ++ (x, sp, q) :: L2) = ptrs L1 ++ ((x.id, sp) :: ptrs L2) := by simp [ptrs]
  have k1 : ∀ M : UL, (∀ y ∈ M, y.1.id ≠ x.id) → (ptrs M).filter (fun p => p.1 ≠ x.id) = ptrs M := fun M hM => by
    rw [List.filter_eq_self]
    intro p hp
    obtain ⟨y, hy, rfl⟩ := List.mem_map.1 hp
    simpa using hM y hy
  rw [e]
  unfold pdel
  rw [List.filter_append, List.filter_cons]
  simp only [ne_eq, not_true_eq_false, decide_false, Bool.false_eq_true, if_false]
  rw [k1 L1 (fun y hy => hnd y (by simp [hy])), k1 L2 (fun y hy => hnd y (by simp [hy]))]
  simp [ptrs]
theorem Own.leave {W : World} {x : Ses} {sp q : Nat} {M : List (Res w.heap.size)} (h : Own w W (tRes w.heap.size d j t b nm T ++ (uRes w.heap.size d u st t mp next (L1 ++ (x, sp, q) :: L2) ++ M))) (hnd : ∀ y ∈ L1 ++ L2, y.1.id ≠ x.id) :
    ∃ w2, (Builtin.delete_ #[102, 3] 0 #[.map (some mp), .int .i64 x.id]).run Tryz.prog W = .ok (.tuple #[]) w2 ∧ Own w w2 (tRes w.heap.size d j t b nm T ++ (uRes w.heap.size d u st t mp next (L1 ++ L2) ++ M)) := by
  have h1 := h.focus.drop.drop
  have h2 : Own w W (rPMap w.heap.size mp (ptrs (L1 ++ (x, sp, q) :: L2)) :: ((tRes w.heap.size d j t b nm T ++ [rObj w.heap.size u (uObj d st t next mp), rObj w.heap.size st (stObj1 d)]) ++ ((liveRes w.heap.size L1 ++ liveRes w.heap.size L2) ++ M))) := by
    refine Own.pull (l₁ := tRes w.heap.size d j t b nm T ++ [rObj w.heap.size u (uObj d st t next mp), rObj w.heap.size st (stObj1 d)]) (r := rPMap w.heap.size mp (ptrs (L1 ++ (x, sp, q) :: L2))) (l₂ := (liveRes w.heap.size L1 ++ liveRes w.heap.size L2) ++ M) ?_
    have e : tRes w.heap.size d j t b nm T ++ (uRest w.heap.size d u st t mp next (ptrs (L1 ++ (x, sp, q) :: L2)) L1 L2 ++ M) = (tRes w.heap.size d j t b nm T ++ [rObj w.heap.size u (uObj d st t next mp), rObj w.heap.size st (stObj1 d)]) ++ rPMap w.heap.size mp (ptrs (L1 ++ (x, sp, q) :: L2)) :: ((liveRes w.heap.size L1 ++ liveRes w.heap.size L2) ++ M) := by
      simp [uRest, List.append_assoc]
    rw [← e]; exact h1
  obtain ⟨w2, hr, h3⟩ := h2.pmapDel x.id (Keeps.refl _ _)
  rw [pdel_focus hnd] at h3
  refine ⟨w2, hr, ?_⟩
  have e : tRes w.heap.size d j t b nm T ++ (uRes w.heap.size d u st t mp next (L1 ++ L2) ++ M) = (tRes w.heap.size d j t b nm T ++ [rObj w.heap.size u (uObj d st t next mp), rObj w.heap.size st (stObj1 d)]) ++ rPMap w.heap.size mp (ptrs (L1 ++ L2)) :: ((liveRes w.heap.size L1 ++ liveRes w.heap.size L2) ++ M) := by
    simp [uRes, liveRes_append, List.append_assoc]
  rw [e]
  exact h3.perm (List.perm_middle).symm
def UFin (u d st t : Nat) (next : Int) (mp bd sp q : Nat) (cl : List Value) (x : Ses) (W : World) : Prop :=
  UCl u d st t next mp bd cl W ∧ W.cell? ⟨sp, 3, none⟩ = some (.pointer (some ⟨q, 0, none⟩)) ∧ W.rangeAt sp 0 [.string x.repo, .int .i64 x.til, .int .i64 (x.b.length : Int)]
theorem UFin.of {bd sp q : Nat} {cl : List Value} {x : Ses} {W : World} {M : List (Res w.heap.size)} (h : Own w W (tRes w.heap.size d j t b nm T ++ (uRes w.heap.size d u st t mp next (L1 ++ (x, sp, q) :: L2) ++ M))) (hm : rObj w.heap.size bd (.cells cl.toArray 39) ∈ M) : UFin u d st t next mp bd sp q cl x W := by
  have hs := (h.focus.at (b := sp) (o := sesObj x q) (by simp)).1
  refine ⟨UCl.of h hm, (ses_cells hs).2.2.2, fun k v hv => ?_⟩
  rw [Nat.zero_add]
  obtain ⟨c0, c1, c2, -⟩ := ses_cells hs
  match k, hv with
  | 0, hv => simp at hv; rw [← hv]; exact c0
  | 1, hv => simp at hv; rw [← hv]; exact c1
  | 2, hv => simp at hv; rw [← hv]; exact c2
  | k + 3, hv => simp at hv
theorem UFin.keep {bd sp q : Nat} {cl : List Value} {x : Ses} {W W' : World} (h : UFin u d st t next mp bd sp q cl x W) (hk : Keeps (fun _ => False) W W') : UFin u d st t next mp bd sp q cl x W' :=
  ⟨⟨⟨cell_keep h.1.1.1 hk, cell_keep h.1.1.2.1 hk, cell_keep h.1.1.2.2.1 hk, cell_keep h.1.1.2.2.2.1 hk, cell_keep h.1.1.2.2.2.2 hk⟩, fun k v hv => cell_keep (h.1.2 k v hv) hk⟩, cell_keep h.2.1 hk, fun k v hv => cell_keep (h.2.2 k v hv) hk⟩
def UFinPost (w : World) (d j t b u st mp : Nat) (nm : ByteArray) (next : Int) (L1 L2 : UL) (x : Ses) (sp q : Nat) (rs : List (Res w.heap.size)) (r : Int × TM × Bool) (e : Ending) (w' : World) : Prop :=
  e = .returned (.int .i64 r.1) ∧ Own w w' (tRes w.heap.size d j t b nm r.2.1 ++ (uRes w.heap.size d u st t mp next (if r.2.2 = true then L1 ++ L2 else L1 ++ (x, sp, q) :: L2) ++ rs))
set_option maxRecDepth 100000 in
set_option maxHeartbeats 1000000 in
theorem ufinish_calls {w0 : World} {x : Ses} {sp q : Nat} (h : Own w w0 (tRes w.heap.size d j t b nm T ++ (uRes w.heap.size d u st t mp next (L1 ++ (x, sp, q) :: L2) ++ rs))) (hf : uget (L1 ++ (x, sp, q) :: L2) x.id = some (x, sp, q)) (hnd : ∀ y ∈ L1 ++ L2, y.1.id ≠ x.id) {n : Nat} (hg : Good T.m n) (hn : n + 50 < 549755813888) (hs : T.size + 1048576 ≤ 1099511627776) {nx : Nat} (hid : x.id = (nx : Int)) (hnx : nx ≤ 4294967295) (hxb : x.b.length ≤ 1048576) (htil : 0 ≤ x.til ∧ x.til ≤ 1099511627776) (hrep : x.repo.size ≤ 128)
    {dg : List UInt8} (hdl : dg.length = 32) :
    Calls Tryz.prog 12 #[.pointer (some ⟨u, 0, none⟩), .int .i64 x.id, .agg (dg.map u8v).toArray, .slice none 0 0] w0 (UFinPost w d j t b u st mp nm next L1 L2 x sp q rs (finishOf T nm (ukeyOf nx) x dg)) := by
  obtain ⟨ky, hky⟩ : ∃ k, k = ukeyOf nx := ⟨_, rfl⟩
  have HKEY := Lib.hid (show ∀ W, Calls Tryz.prog 23 #[.int .i64 x.id] W (QuietP W (.string ky)) from fun W => by rw [hky, hid]; exact ukey_calls W nx nx (IntWalk.u64_in _ (by omega)) (by omega))
  obtain ⟨cl, hcl⟩ : ∃ cl : List Value, cl = dg.map u8v := ⟨_, rfl⟩
  have HI := Lib.hid (show (Tryz.prog.info? 39).map (·.size) = some cl.length by rw [hcl, List.length_map, hdl]; kernel_rfl)
  have HI3 := Lib.hid (show (Tryz.prog.info? 43).map (·.size) = some ([.string x.repo, .int .i64 x.til, .int .i64 (x.b.length : Int)] : List Value).length by kernel_rfl)
  obtain ⟨R, hR⟩ : ∃ R, finishOf T nm (ukeyOf nx) x dg = R := ⟨_, rfl⟩
  rw [hR, ← hcl]
  unfold finishOf at hR
  rw [← hky] at hR
  obtain ⟨l1, hl1⟩ : ∃ l, l = laidOf x.repo x.til.toNat dg := ⟨_, rfl⟩
  rw [← hl1] at hR
  obtain ⟨ap, hap⟩ : ∃ r, r = tAppOf T nm [⟨ky, false, l1⟩] := ⟨_, rfl⟩
  rw [← hap] at hR
  have hga : Good ap.2.m (n + 1) := by rw [hap]; exact tApp_good hg nm _
  have hsa : ap.2.size ≤ 1099511627776 := by rw [hap]; exact Nat.le_trans (tApp_size T nm _) hs
  obtain ⟨cr, hcr⟩ : ∃ r, r = closeOf ap.2 nm ky dg := ⟨_, rfl⟩
  rw [← hcr] at hR
  have HCLO := Lib.hid (show ∀ W (M : List (Res w.heap.size)), Own w W (tRes w.heap.size d j t b nm ap.2 ++ (uRes w.heap.size d u st t mp next (L1 ++ L2) ++ M)) → Calls Tryz.prog 54 #[.pointer (some ⟨u, 0, none⟩), .int .i64 x.id, .agg cl.toArray] W (ULPost w d j t b u st mp nm next (L1 ++ L2) M cr) from fun W M hW => by
    rw [hcr, hcl, hky]
    exact uclose_calls hW hga (by omega) hsa hid hnx hdl)
  have HLAID := Lib.hid (show ∀ W (M : List (Res w.heap.size)) (bd : Nat), Own w W M → rObj w.heap.size bd (.cells cl.toArray 39) ∈ M → Calls Tryz.prog 43 #[.agg #[.string x.repo, .int .i64 x.til, .int .i64 (x.b.length : Int)], .slice (some ⟨bd, 0, none⟩) 32 32] W (OPost W l1) from fun W M bd hW hm => by
    rw [hl1]
    exact laid_calls x.repo x.til _ x.til.toNat (by rw [IntWalk.u64_in _ (by omega)]; omega) (by omega) (agg_reads (by rw [← hcl]; exact (hW.at hm).1) hdl) (by omega) (by omega))
  have HAPP := Lib.hid (show ∀ W (M : List (Res w.heap.size)) (a : Option Addr) (c : Nat) (v1 : Value), 1 ≤ c ∧ c ≤ maxLen → Own w W (tRes w.heap.size d j t b nm T ++ (uRes w.heap.size d u st t mp next (L1 ++ (x, sp, q) :: L2) ++ (rRaw w.heap.size (.slice a 1 c) 109 3 1 [.string ky, .bool false, v1] :: rBytes w.heap.size v1 l1 :: M))) →
      Calls Tryz.prog 42 #[.pointer (some ⟨t, 0, none⟩), .slice a 1 c] W (ULPost w d j t b u st mp nm next (L1 ++ (x, sp, q) :: L2) M ap) from fun W M a c v1 hc hW => by
    have := tapply_callsO hW hg (by omega) (by omega) (a := a) (c := c) (l := [⟨ky, false, l1⟩]) (fun wr ls ho => raw_in (n := 1) (c := c) ho (by simp) (ho.bytes (v := v1) (l := l1) (by simp)).1) hc.1 hc.2
    rw [← hap] at this
    refine this.mono ?_
    rintro e w' ⟨he, h⟩
    exact ⟨he, h.dropEnd.dropEnd⟩)
  have hfi := fun (W : World) (M : List (Res w.heap.size)) (hW : Own w W (tRes w.heap.size d j t b nm T ++ (uRes w.heap.size d u st t mp next (L1 ++ (x, sp, q) :: L2) ++ M))) => ufind_runs (L := L1 ++ (x, sp, q) :: L2) hW (u := u) (d := d) (st := st) (t := t) (mp := mp) (next := next) (by simp [uRes]) (by simp [uRes]) x.id
  unfold ufindOf at hfi
  rw [hf] at hfi
  dsimp only at hfi
  have HFI := Lib.hid hfi
  have heq := fun W => dig_eq (sumOf x.b) dg (sumOf_length _) hdl W
  obtain ⟨sm, hsm⟩ : ∃ sm : List Value, sm = (sumOf x.b).map u8v := ⟨_, rfl⟩
  rw [← hsm, ← hcl] at heq
  have HSUM := Lib.hid (show ∀ W (M : List (Res w.heap.size)), Own w W (tRes w.heap.size d j t b nm T ++ (uRes w.heap.size d u st t mp next (L1 ++ (x, sp, q) :: L2) ++ M)) → Calls Tryz.prog 52 #[.pointer (some ⟨q, 0, none⟩)] W (fun e w' => e = .returned (.agg sm.toArray) ∧ Keeps (fun _ => False) W w') from fun W M hW => by
    rw [hsm]
    exact dsum_calls (hW.focus.stat (q := q) (l := x.b) (by simp)).1 (by omega))
  have HLV := Lib.hid (fun (W : World) (T' : TM) (M : List (Res w.heap.size)) (hW : Own w W (tRes w.heap.size d j t b nm T' ++ (uRes w.heap.size d u st t mp next (L1 ++ (x, sp, q) :: L2) ++ M))) => Own.leave hW hnd)
  have H0 := Lib.hid (h.endObj (.cells cl.toArray 39))
  obtain ⟨bb, hbb⟩ : ∃ bb, bb = decide (sumOf x.b = dg) := ⟨_, rfl⟩
  rw [← hbb] at heq
  have HBB := Lib.hid hbb
  obtain ⟨c1, T1⟩ := ap
  obtain ⟨c2, T2⟩ := cr
  dsimp only at hR HCLO HAPP
  have HR := Lib.hid hR
  clear hfi hf hnd hg hn hs hid hnx hxb htil hrep hdl hky hcl hl1 hap hga hsa hcr hsm hbb hR h
  go_enter Tryz.func12, Tryz.ntmps12
  go_wp2_with fail
  generalize w0.alloc (.cells cl.toArray 39) = w1 at H0 ⊢
  generalize w0.heap.size = bd at H0 ⊢
  refine (HFI.out _ _ H0.out).out.mono ?_
  rintro e w' ⟨rfl, rfl⟩
  go_upto_region 4 with fail
  refine wp_region_held_drew (S := UFin u d st t next mp bd sp q cl x) (by kernel_rfl) (by exact UFin.of H0.out.drew (List.mem_cons_self ..)) (fun hHeld => ?_)
  have H1 := Lib.hid H0.out.drew
  clear H0 HFI
  refine wpAnyH_take (i := 0) (oi := { dst := some 24, op := _, type := _, pos := _, after := _, guard := _ }) (v := .pointer (some ⟨sp, 0, none⟩)) rfl (by kernel_rfl) (by kernel_rfl) (by kernel_rfl) (fun _ _ _ h => h) (Or.inl ⟨by rfl, by intro w hSw; (try dsimp only at hSw); go_simp⟩) hHeld ?_
  try simp only [Act.put, List.setIfInBounds_toArray, List.set_cons_zero, List.set_cons_succ]
  refine wpAnyH_take (i := 1) (oi := { dst := some 25, op := _, type := _, pos := _, after := _, guard := _ }) (v := .pointer (some ⟨sp, 0, none⟩)) rfl (by kernel_rfl) (by kernel_rfl) (by kernel_rfl) (fun _ _ _ h => h) (Or.inl ⟨by rfl, by intro w hSw; (try dsimp only at hSw); go_simp⟩) hHeld ?_
  try simp only [Act.put, List.setIfInBounds_toArray, List.set_cons_zero, List.set_cons_succ]
  refine wpAnyH_take (i := 2) (oi := { dst := some 26, op := _, type := _, pos := _, after := _, guard := _ }) (v := .pointer (some ⟨sp, 3, none⟩)) rfl (by kernel_rfl) (by kernel_rfl) (by kernel_rfl) (fun _ _ _ h => h) (Or.inl ⟨by rfl, by intro w hSw; (try dsimp only at hSw); go_simp⟩) hHeld ?_
  try simp only [Act.put, List.setIfInBounds_toArray, List.set_cons_zero, List.set_cons_succ]
  refine wpAnyH_take (i := 3) (oi := { dst := some 27, op := _, type := _, pos := _, after := _, guard := _ }) (v := .pointer (some ⟨q, 0, none⟩)) rfl (by kernel_rfl) (by kernel_rfl) (by kernel_rfl) (fun _ _ _ h => h) (Or.inl ⟨by rfl, by intro w hSw; (try dsimp only at hSw); (have q0 := hSw.2.1; go_simp)⟩) hHeld ?_
  try simp only [Act.put, List.setIfInBounds_toArray, List.set_cons_zero, List.set_cons_succ]
  refine wpAnyH_take (i := 5) (oi := { dst := some 29, op := _, type := _, pos := _, after := _, guard := _ }) (v := .agg (cl).toArray) rfl (by kernel_rfl) (by kernel_rfl) (by kernel_rfl) (fun _ _ _ h => h) (yieldsIf_load_mid (by rfl) _ _ rfl (bd) (0) rfl (cl) _ (fun w' hk => hk.1.2) Tryz.underlying39 rfl HI.out) hHeld ?_
  try simp only [Act.put, List.setIfInBounds_toArray, List.set_cons_zero, List.set_cons_succ]
  refine wpAnyH_ready (rs := [4]) (by kernel_rfl) (by simp) ?_
  refine AllReadyH.cons (o := { dst := some 28, op := _, type := _, pos := _, after := _, guard := _ }) rfl (fun K hK => ?_) AllReadyH.nil
  refine step_wanted' rfl ?_
  go_simp
  go_at_call 52
  refine (HSUM.out _ _ H1.out).mono ?_
  rintro e w2 ⟨rfl, hk2⟩
  have H2 := Lib.hid (H1.out.quiet hk2)
  refine hK.out _ _ (by exact UFin.of H2.out (List.mem_cons_self ..)) (fun hHeld1 => ?_)
  clear hK K
  try simp only [Act.put, List.setIfInBounds_toArray, List.set_cons_zero, List.set_cons_succ]
  refine wpAnyH_take (i := 6) (oi := { dst := some 30, op := _, type := _, pos := _, after := _, guard := _ }) (v := .bool (!bb)) rfl (by kernel_rfl) (by kernel_rfl) (by kernel_rfl) (fun _ _ _ h => h) (Or.inl ⟨by rfl, by intro w hSw; (try dsimp only at hSw); go_simp⟩) hHeld1 ?_
  try simp only [Act.put, List.setIfInBounds_toArray, List.set_cons_zero, List.set_cons_succ]
  refine wpAnyH_take (i := 7) (oi := { dst := some 23, op := _, type := _, pos := _, after := _, guard := _ }) (v := .bool (!bb)) rfl (by kernel_rfl) (by kernel_rfl) (by kernel_rfl) (fun _ _ _ h => h) (Or.inl ⟨by rfl, by intro w hSw; (try dsimp only at hSw); go_simp⟩) hHeld1 ?_
  try simp only [Act.put, List.setIfInBounds_toArray, List.set_cons_zero, List.set_cons_succ]
  refine wpAnyH_done (by kernel_rfl) ?_ _
  cases bb with
  | false =>
    have hr1 := HR.out
    rw [if_neg (of_decide_eq_false HBB.out.symm)] at hr1
    subst hr1
    clear HR heq
    go_wp2_with fail
    go_ret
    exact ⟨rfl, H2.out.dropEnd⟩
  | true =>
    have hr1 := HR.out
    rw [if_pos (of_decide_eq_true HBB.out.symm)] at hr1
    have HR := Lib.hid hr1
    clear hr1 heq
    have hsl : ∀ W, (Instr.sliceAt 39 (.pointer (some ⟨bd, 0, none⟩)) none none none).run Tryz.prog W = .ok (.slice (some ⟨bd, 0, none⟩) 32 32) W := fun W => by
      go_simp
    go_upto_region 6 with fail
    refine wp_region_held_drew (S := UFin u d st t next mp bd sp q cl x) (by kernel_rfl) (by exact UFin.of H2.out.drew (List.mem_cons_self ..)) (fun hHeld => ?_)
    have H3 := Lib.hid H2.out.drew
    clear H2
    refine wpAnyH_take (i := 0) (oi := { dst := some 31, op := _, type := _, pos := _, after := _, guard := _ }) (v := .slice none 0 0) rfl (by kernel_rfl) (by kernel_rfl) (by kernel_rfl) (fun _ _ _ h => h) (Or.inl ⟨by rfl, by intro w hSw; (try dsimp only at hSw); go_simp⟩) hHeld ?_
    try simp only [Act.put, List.setIfInBounds_toArray, List.set_cons_zero, List.set_cons_succ]
    refine wpAnyH_take (i := 2) (oi := { dst := some 33, op := _, type := _, pos := _, after := _, guard := _ }) (v := .int .i64 x.id) rfl (by kernel_rfl) (by kernel_rfl) (by kernel_rfl) (fun _ _ _ h => h) (Or.inl ⟨by rfl, by intro w hSw; (try dsimp only at hSw); go_simp⟩) hHeld ?_
    try simp only [Act.put, List.setIfInBounds_toArray, List.set_cons_zero, List.set_cons_succ]
    refine wpAnyH_take (i := 4) (oi := { dst := some 35, op := _, type := _, pos := _, after := _, guard := _ }) (v := .pointer (some ⟨sp, 0, none⟩)) rfl (by kernel_rfl) (by kernel_rfl) (by kernel_rfl) (fun _ _ _ h => h) (Or.inl ⟨by rfl, by intro w hSw; (try dsimp only at hSw); go_simp⟩) hHeld ?_
    try simp only [Act.put, List.setIfInBounds_toArray, List.set_cons_zero, List.set_cons_succ]
    refine wpAnyH_take (i := 5) (oi := { dst := some 36, op := _, type := _, pos := _, after := _, guard := _ }) (v := .pointer (some ⟨sp, 0, none⟩)) rfl (by kernel_rfl) (by kernel_rfl) (by kernel_rfl) (fun _ _ _ h => h) (Or.inl ⟨by rfl, by intro w hSw; (try dsimp only at hSw); go_simp⟩) hHeld ?_
    try simp only [Act.put, List.setIfInBounds_toArray, List.set_cons_zero, List.set_cons_succ]
    refine wpAnyH_take (i := 6) (oi := { dst := some 37, op := _, type := _, pos := _, after := _, guard := _ }) (v := .pointer (some ⟨sp, 0, none⟩)) rfl (by kernel_rfl) (by kernel_rfl) (by kernel_rfl) (fun _ _ _ h => h) (Or.inl ⟨by rfl, by intro w hSw; (try dsimp only at hSw); go_simp⟩) hHeld ?_
    try simp only [Act.put, List.setIfInBounds_toArray, List.set_cons_zero, List.set_cons_succ]
    refine wpAnyH_take (i := 7) (oi := { dst := some 38, op := _, type := _, pos := _, after := _, guard := _ }) (v := .agg ([.string x.repo, .int .i64 x.til, .int .i64 (x.b.length : Int)]).toArray) rfl (by kernel_rfl) (by kernel_rfl) (by kernel_rfl) (fun _ _ _ h => h) (yieldsIf_load_mid (by rfl) _ _ rfl (sp) (0) rfl ([.string x.repo, .int .i64 x.til, .int .i64 (x.b.length : Int)]) _ (fun w' hk => hk.2.2) Tryz.underlying43 rfl HI3.out) hHeld ?_
    try simp only [Act.put, List.setIfInBounds_toArray, List.set_cons_zero, List.set_cons_succ]
    refine wpAnyH_take (i := 8) (oi := { dst := some 39, op := _, type := _, pos := _, after := _, guard := _ }) (v := .slice (some ⟨bd, 0, none⟩) 32 32) rfl (by kernel_rfl) (by kernel_rfl) (by kernel_rfl) (fun _ _ _ h => h) (Or.inl ⟨by rfl, by intro w hSw; (try dsimp only at hSw); go_simp⟩) hHeld ?_
    try simp only [Act.put, List.setIfInBounds_toArray, List.set_cons_zero, List.set_cons_succ]
    refine wpAnyH_ready (rs := [1]) (by kernel_rfl) (by simp) ?_
    refine AllReadyH.cons (o := { dst := some 32, op := _, type := _, pos := _, after := _, guard := _ }) rfl (fun K hK => ?_) AllReadyH.nil
    refine step_wanted' rfl ?_
    go_simp
    go_at_call 53
    refine (chclone_nil _).mono ?_
    rintro e w' ⟨rfl, rfl⟩
    refine hK.out _ _ (by exact hHeld) (fun hHeld1 => ?_)
    clear hK K
    try simp only [Act.put, List.setIfInBounds_toArray, List.set_cons_zero, List.set_cons_succ]
    refine wpAnyH_ready (rs := [3]) (by kernel_rfl) (by simp) ?_
    refine AllReadyH.cons (o := { dst := some 34, op := _, type := _, pos := _, after := _, guard := _ }) rfl (fun K hK => ?_) AllReadyH.nil
    refine step_wanted' rfl ?_
    go_simp
    go_at_call 23
    refine (HKEY.out _).mono ?_
    rintro e w4 ⟨rfl, hk4⟩
    have H4 := Lib.hid (H3.out.quiet hk4)
    refine hK.out _ _ (by exact UFin.of H4.out (List.mem_cons_self ..)) (fun hHeld2 => ?_)
    clear hK K
    try simp only [Act.put, List.setIfInBounds_toArray, List.set_cons_zero, List.set_cons_succ]
    refine wpAnyH_ready (rs := [9]) (by kernel_rfl) (by simp) ?_
    refine AllReadyH.cons (o := { dst := some 40, op := _, type := _, pos := _, after := _, guard := _ }) rfl (fun K hK => ?_) AllReadyH.nil
    refine step_wanted' rfl ?_
    go_simp
    go_at_call 43
    refine (HLAID.out _ _ bd H4.out (by simp)).mono ?_
    rintro e w5 ⟨v1, rfl, ho1, hk5⟩
    obtain ⟨a1, q1, rfl, -, -⟩ := ho1.bytes.form
    have H5 := Lib.hid (H4.out.endBytes ho1 hk5)
    clear ho1
    refine hK.out _ _ (by exact UFin.of H5.out (by simp)) (fun hHeld3 => ?_)
    clear hK K
    try simp only [Act.put, List.setIfInBounds_toArray, List.set_cons_zero, List.set_cons_succ]
    refine wpAnyH_take (i := 10) (oi := { dst := some 41, op := _, type := _, pos := _, after := _, guard := _ }) (v := .agg #[.string ky, .bool false, .slice a1 l1.length q1]) rfl (by kernel_rfl) (by kernel_rfl) (by kernel_rfl) (fun _ _ _ h => h) (Or.inl ⟨by rfl, by intro w hSw; (try dsimp only at hSw); go_simp⟩) hHeld3 ?_
    try simp only [Act.put, List.setIfInBounds_toArray, List.set_cons_zero, List.set_cons_succ]
    refine wpAnyH_ready (rs := [11]) (by kernel_rfl) (by simp) ?_
    refine AllReadyH.cons (o := { dst := some 42, op := _, type := _, pos := _, after := _, guard := _ }) rfl (fun K hK => ?_) AllReadyH.nil
    refine step_wanted' rfl ?_
    go_simp
    obtain ⟨xa, xc, w6, hrun, hrow, hk6⟩ := one_change w5 ky (pv := .slice a1 l1.length q1) rfl
    refine hK.out _ _ (by exact UFin.keep hHeld3 ((Keeps.refl _ _).alloc _)) (fun hHeld4 => ?_)
    clear hK K
    try simp only [Act.put, List.setIfInBounds_toArray, List.set_cons_zero, List.set_cons_succ]
    refine wpAnyH_ready (rs := [12]) (by kernel_rfl) (by simp) ?_
    refine AllReadyH.cons (o := { dst := some 43, op := _, type := _, pos := _, after := _, guard := _ }) rfl (fun K hK => ?_) AllReadyH.nil
    refine step_append_run rfl _ _ _ _ rfl rfl rfl hrun ?_
    have H6 := Lib.hid (Own.toEnd (H5.out.add hk6 (r := rRaw _ (.slice xa 1 xc) 109 3 1 [.string ky, .bool false, .slice a1 l1.length q1]) (G := fun b => (Value.slice xa 1 xc).ownBlock = some b) ⟨ownsRow_base0 hrow (Nat.zero_le _), fun _ hb => hb⟩ (fun b hb => by have := hrow.lt b hb; omega)))
    refine hK.out _ _ (by exact UFin.of H6.out (by simp)) (fun hHeld5 => ?_)
    clear hK K
    try simp only [Act.put, List.setIfInBounds_toArray, List.set_cons_zero, List.set_cons_succ]
    refine wpAnyH_take (i := 13) (oi := { dst := some 11, op := _, type := _, pos := _, after := _, guard := _ }) (v := .slice xa 1 xc) rfl (by kernel_rfl) (by kernel_rfl) (by kernel_rfl) (fun _ _ _ h => h) (Or.inl ⟨by rfl, by intro w hSw; (try dsimp only at hSw); go_simp⟩) hHeld5 ?_
    try simp only [Act.put, List.setIfInBounds_toArray, List.set_cons_zero, List.set_cons_succ]
    refine wpAnyH_done (by kernel_rfl) ?_ _
    have hcm : 1 ≤ xc ∧ xc ≤ maxLen := by
      rcases hrow.2 with ⟨-, e⟩ | ⟨g', cap, cur, e, _, _, k1, k2, _⟩
      · omega
      · cases e; exact ⟨k1, k2⟩
    have HCM := Lib.hid hcm
    clear hrun hrow hcm hsl
    obtain ⟨-, -, k2, -, -⟩ := u_cells (H6.out.at (b := u) (o := uObj d st t next mp) (by simp [uRes])).1
    go_wp2_with fail
    refine (HAPP.out _ _ _ _ _ HCM.out H6.out).mono ?_
    rintro e w7 ⟨rfl, h7⟩
    have H7 := Lib.hid h7
    clear h7 k2 H6
    by_cases hc : c1 = 0
    · subst hc
      have hr1 := HR.out
      rw [if_pos rfl] at hr1
      subst hr1
      obtain ⟨-, -, -, -, k4⟩ := u_cells (H7.out.at (b := u) (o := uObj d st t next mp) (by simp [uRes])).1
      obtain ⟨w8, hdel, h8⟩ := HLV.out _ _ _ H7.out
      have HD := Lib.hid hdel
      have H8 := Lib.hid h8
      have HB := Lib.hid (h8.at (b := bd) (o := .cells cl.toArray 39) (by simp)).1
      have HIA := Lib.hid (show (Tryz.prog.info? 39).map (·.size) = some cl.toArray.size by rw [HI.out]; simp)
      clear hdel h8 HR
      go_wp2_with (first | (at_delete; refine wpList_delete_run rfl _ _ _ _ rfl rfl rfl HD.out ?_) | (refine wpList_load_row rfl 39 _ rfl bd rfl 39 cl.toArray (0, 0) _ HB.out Tryz.underlying39 rfl HIA.out ?_))
      refine (HCLO.out _ _ H8.out).mono ?_
      rintro e w9 ⟨rfl, h9⟩
      have H9 := Lib.hid h9.dropEnd
      clear h9 H8 HD HB k4
      go_wp2_with fail
      go_ret
      exact ⟨rfl, H9.out⟩
    · have hr1 := HR.out
      rw [if_neg hc] at hr1
      subst hr1
      have b1 : (c1 != 0) = true := by simpa using hc
      clear HR hc
      go_wp2_with fail
      go_ret
      exact ⟨rfl, H7.out.dropEnd⟩
end
end Go.Proofs.YtlcnhpjggjgnpaaGreatDoor
namespace Go.Proofs.YtlcnhpjggjgnpaaGreatDoor
set_option linter.unusedVariables false
set_option linter.unusedSimpArgs false
open Go.RowKit Go.MapKept
open Go.ChangeMaps (setBlock)
def hdU : ByteArray := ⟨#[117, 47]⟩
section
variable {w wr : World} {d u st t mp j b : Nat} {nm : ByteArray} {T : TM} {next : Int} {L : UL} {rs : List (Res w.heap.size)}
theorem perm_fresh {α : Type} (T R : List α) (a p s : α) : (a :: p :: (T ++ (s :: R))).Perm (T ++ ((a :: s :: p :: []) ++ R)) := by
  have h1 : ([a, p] ++ (T ++ (s :: R))).Perm (T ++ ([a, p] ++ (s :: R))) := List.perm_append_comm_assoc _ _ _
  exact h1.trans (List.Perm.append_left T ((List.Perm.swap s p R).cons a))
theorem strs_empty {base : Nat} {W : World} {v : Value} (h : StrsAt base W v []) : ∃ a c, v = .slice a 0 c := by
  obtain ⟨a, c, e⟩ := ownsRow_slice h
  exact ⟨a, c, e⟩
set_option maxRecDepth 100000 in
theorem usweep_none {w0 : World} (h : Own w w0 (tRes w.heap.size d j t b nm T ++ (uRes w.heap.size d u st t mp next L ++ rs))) (hdn : T.m.down = false) (hs : FSorted T.m.now) (hn : ∀ p ∈ T.m.now, p.1.size ≤ maxLen) (hl : T.m.now.length ≤ 1099511627775) (hno : namesOf T.m.now hdU = []) :
    Calls Tryz.prog 68 #[.pointer (some ⟨u, 0, none⟩)] w0 (QuietP w0 (.int .i64 0)) := by
  obtain ⟨F, hdk, -⟩ := Own.disk (h : Own w w0 (rDisk w.heap.size d T.m :: _))
  have hnc := names_calls hdk hdU hdn hs hn hl
  rw [hno] at hnc
  unfold hdU at hnc
  obtain ⟨c0, -, -, -, -⟩ := u_cells (h.at (b := u) (o := uObj d st t next mp) (by simp [uRes])).1
  have HNC := Lib.hid hnc
  clear h hdk hnc hdn hs hn hl hno
  go_enter Tryz.func68, Tryz.ntmps68
  go_wp2_with fail
  refine HNC.out.mono ?_
  rintro e w1 ⟨v, rfl, hst, hk1⟩
  obtain ⟨a, c, rfl⟩ := strs_empty hst
  have HK := Lib.hid hk1
  clear hst hk1 HNC c0
  go_wp2_with fail
  go_loopw [5, 7, 8, 9, 10, 24] (fun gv _ _ _ _ iv wx => gv = .int .i64 0 ∧ iv = .int .i64 0 ∧ w1 = wx) (fun _ _ _ _ _ _ _ => 0)
  case atStart => exact ⟨rfl, rfl, rfl⟩
  case round =>
    obtain ⟨rfl, rfl, rfl⟩ := hrel
    go_wp2_with fail
    go_ret
    exact ⟨rfl, HK.out⟩
set_option maxRecDepth 100000 in
set_option maxHeartbeats 1000000 in
theorem uopen_none {w0 : World} {m : DM} {size : Nat} {dn : Bool} (h : Own w w0 (tRes w.heap.size d j t b nm ⟨m, size, [], dn⟩ ++ (rObj w.heap.size st (stObj1 d) :: rs))) (hdn : m.down = false) (hs : FSorted m.now) (hn : ∀ p ∈ m.now, p.1.size ≤ maxLen) (hl : m.now.length ≤ 1099511627775) (hno : namesOf m.now hdU = []) :
    Calls Tryz.prog 20 #[.pointer (some ⟨d, 0, none⟩), .pointer (some ⟨st, 0, none⟩), .pointer (some ⟨t, 0, none⟩)] w0 (fun e w' => ∃ u mp, e = .returned (.tuple #[.pointer (some ⟨u, 0, none⟩), .int .i64 0]) ∧ Own w w' (tRes w.heap.size d j t b nm ⟨m, size, [], dn⟩ ++ (uRes w.heap.size d u st t mp 1 [] ++ rs))) := by
  have hmm := @run_makeMap Tryz.prog
  have h1 := h.newPMap
  have h2 := h1.alloc (uObj d st t 1 w0.heap.size)
  change Own w ((w0.alloc (.map #[] 0)).alloc (.cells #[.pointer (some ⟨d, 0, none⟩), .pointer (some ⟨st, 0, none⟩), .pointer (some ⟨t, 0, none⟩), .int .i64 1, .map (some w0.heap.size)] 104)) _ at h2
  have H2 := Lib.hid h2
  rw [World.size_alloc] at h2
  have h3 : Own w _ (tRes w.heap.size d j t b nm ⟨m, size, [], dn⟩ ++ (uRes w.heap.size d (w0.heap.size + 1) st t w0.heap.size 1 [] ++ rs)) := h2.perm (perm_fresh ..)
  have hw := fun (W : World) (hW : Own w W (tRes w.heap.size d j t b nm ⟨m, size, [], dn⟩ ++ (uRes w.heap.size d (w0.heap.size + 1) st t w0.heap.size 1 [] ++ rs))) => usweep_none hW hdn hs hn hl hno
  have htb := fun (W : World) (hW : Own w W (tRes w.heap.size d j t b nm ⟨m, size, [], dn⟩ ++ (uRes w.heap.size d (w0.heap.size + 1) st t w0.heap.size 1 [] ++ rs))) =>
    (show ∃ F, W.heap[t]? = some (tabObj j b dn) ∧ MapFs F W b [] from by
      obtain ⟨F, hF, -⟩ := hW.mem (r := rMap w.heap.size b []) (by simp [tRes])
      exact ⟨F, (hW.at (b := t) (o := tabObj j b dn) (by simp [tRes])).1, hF.2⟩)
  have HSW := Lib.hid hw
  have HTB := Lib.hid htb
  have H3 := Lib.hid h3
  clear h h1 h2 h3 hdn hs hn hl hno hw htb
  go_enter Tryz.func20, Tryz.ntmps20
  go_wp2_with fail
  generalize (w0.alloc (.map #[] 0)).alloc (.cells #[.pointer (some ⟨d, 0, none⟩), .pointer (some ⟨st, 0, none⟩), .pointer (some ⟨t, 0, none⟩), .int .i64 1, .map (some w0.heap.size)] 104) = w2 at H3 ⊢
  generalize w0.heap.size + 1 = u at *
  generalize w0.heap.size = mp at *
  obtain ⟨F, hb, hm⟩ := HTB.out w2 H3.out
  have hget := tget_calls hb hm ⟨#[117]⟩ (by simp [fget])
  have HGET := Lib.hid hget
  clear hget hb hm hmm
  refine HGET.out.mono ?_
  rintro e w3 ⟨v, rfl, ho, hk3⟩
  have hnone : (fget ([] : FS) ⟨#[117]⟩).isSome = false := rfl
  obtain ⟨va, vc, rfl, -, -⟩ := ho.bytes.form
  rw [hnone]
  have H4 := Lib.hid (H3.out.quiet hk3)
  clear ho hk3 H3 HGET hnone
  obtain ⟨F2, hb, hm⟩ := HTB.out w3 H4.out
  have hlen := tlen_runs hb hm
  have hkeys := fun n => tkeys_calls hb hm FSorted.nil (by simp) (by simp) ⟨#[117, 47]⟩ ⟨#[]⟩ n
  have HL := Lib.hid hlen
  have HKY := Lib.hid hkeys
  clear hb hm hlen hkeys
  go_wp2_with fail
  refine HL.out.out.mono ?_
  rintro e w' ⟨rfl, rfl⟩
  go_wp2_with fail
  refine (HKY.out _).mono ?_
  rintro e w4 ⟨v, rfl, hst, hk4⟩
  obtain ⟨a, c, rfl⟩ := strs_empty (show StrsAt _ _ v [] from hst)
  have H5 := Lib.hid (H4.out.quiet hk4)
  clear hst hk4 H4 HL HKY
  go_wp2_with fail
  go_loopw [14, 15, 16, 17, 18, 19, 20, 21, 22, 23, 24, 72] (fun _ _ _ _ _ _ _ _ _ _ _ iv wx => iv = .int .i64 0 ∧ w4 = wx) (fun _ _ _ _ _ _ _ _ _ _ _ _ _ => 0)
  case atStart => exact ⟨rfl, rfl⟩
  case round =>
    obtain ⟨rfl, rfl⟩ := hrel
    go_wp2_with fail
    refine (HSW.out _ H5.out).mono ?_
    rintro e w5 ⟨rfl, hk5⟩
    have H6 := Lib.hid (H5.out.quiet hk5)
    clear hk5 H5
    go_wp2_with fail
    go_ret2
    exact ⟨u, mp, rfl, H6.out⟩
end
end Go.Proofs.YtlcnhpjggjgnpaaGreatDoor
namespace Go.Proofs.YtlcnhpjggjgnpaaGreatDoor
set_option linter.unusedVariables false
set_option linter.unusedSimpArgs false
open Go.RowKit Go.MapKept
open Go.ChangeMaps (setBlock)
def yObj (d st t u : Nat) : Obj := .cells #[.pointer (some ⟨d, 0, none⟩), .pointer (some ⟨st, 0, none⟩), .pointer (some ⟨t, 0, none⟩), .pointer (some ⟨u, 0, none⟩)] 35
section
variable {w wr : World} {rs : List (Res w.heap.size)}
theorem oneT_names (R : Int) : namesOf (oneT R []).now hdU = [] := by
  show namesOf [(nmT, [])] hdU = []
  decide +kernel
theorem oneT_sorted (R : Int) : FSorted (oneT R []).now := by
  show FSorted [(nmT, [])]
  simp [FSorted]
set_option maxRecDepth 100000 in
set_option maxHeartbeats 1000000 in
theorem opened13_fresh {w0 : World} {d : Nat} {R : Int} (hR0 : 0 ≤ R) (hR1 : R ≤ 67108864) (h : Own w w0 (rDisk w.heap.size d (newOf R) :: rs)) :
    Calls Tryz.prog 31 #[.pointer (some ⟨d, 0, none⟩)] w0 (fun e w' => ∃ y st j t b u mp, e = .returned (.tuple #[.pointer (some ⟨y, 0, none⟩), .int .i64 0]) ∧ Own w w' (tRes w.heap.size d j t b nmT ⟨oneT R [], 0, [], false⟩ ++ (uRes w.heap.size d u st t mp 1 [] ++ (rObj w.heap.size y (yObj d st t u) :: rs)))) := by
  have hg : Good (newOf R) 0 := Good.new hR0 hR1
  have hb := bnew_calls h hg (by omega)
  rw [show bNewOf (newOf R) = (0, newOf R) by simp [bNewOf, thereOf, newOf, fget]] at hb
  have HB := Lib.hid hb
  have HG := Lib.hid hg
  clear h hb hg hR0 hR1
  go_enter Tryz.func31, Tryz.ntmps31
  go_wp2_with fail
  refine HB.out.mono ?_
  rintro e w1 (⟨hn, -, -⟩ | ⟨-, st, rfl, h1⟩)
  · exact absurd rfl hn
  have hop := topen_calls h1 HG.out (by omega) nmT
  rw [topen_empty] at hop
  unfold nmT at hop
  have HOP := Lib.hid hop
  clear hop h1 HB HG
  go_wp2_with fail
  refine HOP.out.mono ?_
  rintro e w2 (⟨hn, -, -⟩ | ⟨size, fs, j, t, b, hs, rfl, h2⟩)
  · cases hn
  simp only [Option.some.injEq, Prod.mk.injEq] at hs
  obtain ⟨rfl, rfl⟩ := hs
  have hup := uopen_none (d := d) (j := j) (t := t) (b := b) (nm := nmT) (m := oneT R []) (size := 0) (dn := false) (st := st) (rs := rs) (w0 := w2) h2 rfl (oneT_sorted R) (fun p hp => by
    have hp : p ∈ [(nmT, ([] : List UInt8))] := hp
    rw [List.mem_singleton] at hp
    rw [hp]; decide) (show [(nmT, ([] : List UInt8))].length ≤ 1099511627775 by decide) (oneT_names R)
  have HUP := Lib.hid hup
  clear hup h2 HOP
  go_wp2_with fail
  refine HUP.out.mono ?_
  rintro e w3 ⟨u, mp, rfl, h3⟩
  have H3 := Lib.hid (h3.endObj (yObj d st t u))
  clear h3 HUP
  go_wp2_with fail
  go_ret2
  exact ⟨_, st, j, t, b, u, mp, rfl, H3.out⟩
theorem y_cells {w : World} {y d st t u : Nat} (h : w.heap[y]? = some (yObj d st t u)) : w.cell? ⟨y, 0, none⟩ = some (.pointer (some ⟨d, 0, none⟩)) ∧ w.cell? ⟨y, 1, none⟩ = some (.pointer (some ⟨st, 0, none⟩)) ∧ w.cell? ⟨y, 2, none⟩ = some (.pointer (some ⟨t, 0, none⟩)) ∧ w.cell? ⟨y, 3, none⟩ = some (.pointer (some ⟨u, 0, none⟩)) :=
  ⟨cell_at h rfl, cell_at h rfl, cell_at h rfl, cell_at h rfl⟩
set_option maxRecDepth 100000 in
set_option maxHeartbeats 1000000 in
theorem yard13_calls {w0 : World} {R : Int} (hR0 : 0 ≤ R) (hR1 : R ≤ 67108864) (h : Own w w0 rs) :
    Calls Tryz.prog 7 #[.int .i64 R] w0 (fun e w' => ∃ y d st j t b u mp, e = .returned (.pointer (some ⟨y, 0, none⟩)) ∧ Own w w' (tRes w.heap.size d j t b nmT ⟨oneT R [], 0, [], false⟩ ++ (uRes w.heap.size d u st t mp 1 [] ++ (rObj w.heap.size y (yObj d st t u) :: rs)))) := by
  obtain ⟨d, w1, hnew, h1⟩ := h.new R hR0 hR1
  have HO := Lib.hid (opened13_fresh hR0 hR1 h1)
  clear h h1 hR0 hR1
  go_enter Tryz.func7, Tryz.ntmps7
  go_wp2_with fail
  refine hnew.out.mono ?_
  rintro e w' ⟨rfl, rfl⟩
  clear hnew
  go_wp2_with fail
  refine HO.out.mono ?_
  rintro e w2 ⟨y, st, j, t, b, u, mp, rfl, h2⟩
  obtain ⟨-, -, -, k3⟩ := y_cells (h2.at (b := y) (o := yObj d st t u) (by simp)).1
  have H2 := Lib.hid h2
  clear h2 HO
  go_wp2_with fail
  go_ret
  exact ⟨y, d, st, j, t, b, u, mp, rfl, H2.out⟩
end
end Go.Proofs.YtlcnhpjggjgnpaaGreatDoor
