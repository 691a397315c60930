/- A part of the proof. -/
import Derived.Test.YtlcnhpjggjgnpaaGreatDoorWc8
import Derived.Deep.DeepCutAuto
import Derived.Deep.CutBlock
namespace Go.Proofs.YtlcnhpjggjgnpaaGreatDoor
set_option linter.unusedVariables false
set_option linter.unusedSimpArgs false
open Go.RowKit Go.MapKept
open Go.ChangeMaps (setBlock)
set_option maxRecDepth 100000 in
set_option maxHeartbeats 1000000 in
theorem dwrite_calls {w : World} {s : Nat} {L l : List UInt8} {pv : Value} (hs : StAt w s L) (hr : Reads w pv l) (hne : ∀ x n c, pv = .slice (some x) n c → l ≠ [] → x.block ≠ s) (hb : L.length + l.length ≤ 4194304) :
    Calls Tryz.prog 50 #[.pointer (some ⟨s, 0, none⟩), pv] w fun e w' => e = .returned (.int .i64 0) ∧ Keeps (fun b => b = s) w w' ∧ StAt w' s (L ++ l) := by
  have hput := put_calls' hs hr hne (by omega)
  obtain ⟨a, c, rfl, -, -⟩ := hr.form
  obtain ⟨tail, hh, ht, hp⟩ := hs
  obtain ⟨x0, x1, x2, x3, x4, x5, x6, x7, hx⟩ := list8 (hashN_length L (L.length / 64))
  have hh2 := hh
  unfold stObj hashH restOf at hh2
  rw [hx] at hh2
  have c8 := cell_at (i := 8) hh2 rfl
  simp only [List.map_cons, List.map_nil, List.cons_append, List.nil_append, List.getElem_toArray, List.getElem_cons_succ, List.getElem_cons_zero] at c8
  have HP := Lib.hid hput
  obtain ⟨n, hn⟩ : ∃ n, n = L.length := ⟨_, rfl⟩
  obtain ⟨k, hk⟩ : ∃ k, k = l.length := ⟨_, rfl⟩
  rw [← hn] at c8 hb
  rw [← hk] at HP hb ⊢
  obtain ⟨z, hz⟩ : ∃ z : Int, z = 2305843009213693951 - (n : Int) := ⟨_, rfl⟩
  have hw : IntKind.u64.wrap (2305843009213693951 - (n : Int)) = z := by rw [IntWalk.u64_in _ (by omega)]; exact hz.symm
  have hw2 : IntKind.u64.wrap (k : Int) = (k : Int) := IntWalk.u64_in _ (by omega)
  have hb2 : decide (z < (k : Int)) = false := decide_eq_false (by omega)
  clear hput hr hne hh hh2 hx hp ht hn hk hz hb
  go_enter Tryz.func50, Tryz.ntmps50
  go_wp2_with fail
  refine HP.out.mono ?_
  rintro e w1 ⟨rfl, hk1, hs1⟩
  have H1 := Lib.hid (And.intro hk1 hs1)
  clear hk1 hs1 HP
  go_wp2_with fail
  go_ret
  exact ⟨rfl, H1.out⟩
def patchOf (T : TM) (ky : ByteArray) (x : Ses) (at_ : Int) (p : List UInt8) : Int × TM × Ses :=
  if at_ = (x.b.length : Int) then
    (if (1048576 : Int) - (x.b.length : Int) < (p.length : Int) then (8, T, x)
     else if (appendOf T.m ky p).1 = 0 then
      (if (syncOf (appendOf T.m ky p).2).1 = 0 then (0, { T with m := (syncOf (appendOf T.m ky p).2).2 }, { x with b := x.b ++ p })
       else ((syncOf (appendOf T.m ky p).2).1, { T with m := (syncOf (appendOf T.m ky p).2).2 }, x))
     else ((appendOf T.m ky p).1, { T with m := (appendOf T.m ky p).2 }, x))
  else (130, T, x)
section
variable {w wr : World} {d u st t mp j b : Nat} {nm : ByteArray} {T : TM} {next : Int} {L L1 L2 : UL} {rs : List (Res w.heap.size)}
def uRest (B d u st t mp : Nat) (next : Int) (ps : PS) (L1 L2 : UL) : List (Res B) := rObj B u (uObj d st t next mp) :: rObj B st (stObj1 d) :: rPMap B mp ps :: (liveRes B L1 ++ liveRes B L2)
theorem perm_focus {α : Type} (T L1 L2 R : List α) (a s p x y : α) : (T ++ ((a :: s :: p :: (L1 ++ (x :: y :: L2))) ++ R)).Perm (x :: y :: (T ++ ((a :: s :: p :: (L1 ++ L2)) ++ R))) := by
  have h1 : (T ++ ([x, y] ++ ((a :: s :: p :: (L1 ++ L2)) ++ R))).Perm ([x, y] ++ (T ++ ((a :: s :: p :: (L1 ++ L2)) ++ R))) := List.perm_append_comm_assoc _ _ _
  refine List.Perm.trans (List.Perm.append_left T ?_) h1
  have h2 : ([a, s, p] ++ ([x, y] ++ ((L1 ++ L2) ++ R))).Perm ([x, y] ++ ([a, s, p] ++ ((L1 ++ L2) ++ R))) := List.perm_append_comm_assoc _ _ _
  refine List.Perm.trans ?_ h2
  have h3 : (L1 ++ ([x, y] ++ (L2 ++ R))).Perm ([x, y] ++ (L1 ++ (L2 ++ R))) := List.perm_append_comm_assoc _ _ _
  have h4 : ((L1 ++ (x :: y :: L2)) ++ R).Perm ([x, y] ++ ((L1 ++ L2) ++ R)) := by
    rw [List.append_assoc, List.append_assoc]; exact h3
  exact ((h4.cons p).cons s).cons a
theorem Own.focus {W : World} {x : Ses} {sp q : Nat} {M : List (Res w.heap.size)} (h : Own w W (tRes w.heap.size d j t b nm T ++ (uRes w.heap.size d u st t mp next (L1 ++ (x, sp, q) :: L2) ++ M))) :
    Own w W (rObj w.heap.size sp (sesObj x q) :: rSt w.heap.size q x.b :: (tRes w.heap.size d j t b nm T ++ (uRest w.heap.size d u st t mp next (ptrs (L1 ++ (x, sp, q) :: L2)) L1 L2 ++ M))) := by
  unfold uRes at h
  rw [liveRes_append] at h
  exact h.perm (perm_focus ..)
theorem Own.unfocus {W : World} {x : Ses} {sp q : Nat} {M : List (Res w.heap.size)} {ps : PS} (h : Own w W (rObj w.heap.size sp (sesObj x q) :: rSt w.heap.size q x.b :: (tRes w.heap.size d j t b nm T ++ (uRest w.heap.size d u st t mp next ps L1 L2 ++ M)))) (hp : ps = ptrs (L1 ++ (x, sp, q) :: L2)) :
    Own w W (tRes w.heap.size d j t b nm T ++ (uRes w.heap.size d u st t mp next (L1 ++ (x, sp, q) :: L2) ++ M)) := by
  subst hp
  unfold uRes
  rw [liveRes_append]
  exact h.perm (perm_focus ..).symm
theorem Own.write {W : World} {q : Nat} {l p : List UInt8} {pv : Value} (h : Own w W (rSt w.heap.size q l :: rs)) (hr : Reads W pv p) (hne : ∀ x n c, pv = .slice (some x) n c → p ≠ [] → x.block ≠ q) (hb : l.length + p.length ≤ 4194304) :
    Calls Tryz.prog 50 #[.pointer (some ⟨q, 0, none⟩), pv] W fun e w' => e = .returned (.int .i64 0) ∧ Own w w' (rSt w.heap.size q (l ++ p) :: rs) := by
  obtain ⟨F, hi, hF, hfin⟩ := h.open1
  refine (dwrite_calls hi.2 hr hne hb).mono ?_
  rintro e w' ⟨rfl, hk, hs⟩
  exact ⟨rfl, hfin w' (rSt _ q (l ++ p)) (hk.mono (fun _ _ e => by rw [e]; exact hi.1)) ⟨.inl hi.1, hs⟩⟩
def UPatchPost (w : World) (d j t b u st mp : Nat) (nm : ByteArray) (next : Int) (L1 L2 : UL) (sp q : Nat) (rs : List (Res w.heap.size)) (r : Int × TM × Ses) (e : Ending) (w' : World) : Prop :=
  e = .returned (.int .i64 r.1) ∧ Own w w' (tRes w.heap.size d j t b nm r.2.1 ++ (uRes w.heap.size d u st t mp next (L1 ++ (r.2.2, sp, q) :: L2) ++ rs))
set_option maxRecDepth 100000 in
set_option maxHeartbeats 1000000 in
theorem upatch_calls {w0 : World} {x : Ses} {sp q : Nat} (h : Own w w0 (tRes w.heap.size d j t b nm T ++ (uRes w.heap.size d u st t mp next (L1 ++ (x, sp, q) :: L2) ++ rs))) (hf : uget (L1 ++ (x, sp, q) :: L2) x.id = some (x, sp, q)) {n : Nat} (hg : Good T.m n) (hn : n + 3 < 549755813888) {nx : Nat} (hid : x.id = (nx : Int)) (hnx : nx ≤ 4294967295) (hxb : x.b.length ≤ 1048576) (at_ : Int) {pv : Value} {p : List UInt8} (hpl : p.length ≤ 140737488355328)
    (hp : ∀ (W : World) (M : List (Res w.heap.size)), Own w W (M ++ rs) → Reads W pv p) (hne : ∀ x n c, pv = .slice (some x) n c → p ≠ [] → x.block ≠ q) :
    Calls Tryz.prog 10 #[.pointer (some ⟨u, 0, none⟩), .int .i64 x.id, .int .i64 at_, pv] w0 (UPatchPost w d j t b u st mp nm next L1 L2 sp q rs (patchOf T (ukeyOf nx) x at_ p)) := by
  have hfi := ufind_runs (L := L1 ++ (x, sp, q) :: L2) h (u := u) (d := d) (st := st) (t := t) (mp := mp) (next := next) (by simp [uRes]) (by simp [uRes]) x.id
  unfold ufindOf at hfi
  rw [hf] at hfi
  dsimp only at hfi
  have HFI := Lib.hid hfi
  have H0 := Lib.hid h
  have hrd := hp w0 (tRes w.heap.size d j t b nm T ++ uRes w.heap.size d u st t mp next (L1 ++ (x, sp, q) :: L2)) (by rw [List.append_assoc]; exact h)
  obtain ⟨pa, pc, rfl, -, -⟩ := hrd.form
  have hobs : ∀ {W : World} {T' : TM}, Own w W (tRes w.heap.size d j t b nm T' ++ (uRes w.heap.size d u st t mp next (L1 ++ (x, sp, q) :: L2) ++ rs)) → W.heap[sp]? = some (sesObj x q) ∧ W.heap[u]? = some (uObj d st t next mp) := fun {W T'} h =>
    ⟨(h.focus.at (b := sp) (o := sesObj x q) (by simp)).1, (h.at (b := u) (o := uObj d st t next mp) (by simp [uRes])).1⟩
  have HOB := Lib.hid (fun W T' h => hobs (W := W) (T' := T') h)
  obtain ⟨-, -, s2, -⟩ := ses_cells (hobs h).1
  obtain ⟨bl, hbl⟩ : ∃ bl, bl = x.b.length := ⟨_, rfl⟩
  obtain ⟨pl, hpl2⟩ : ∃ pl, pl = p.length := ⟨_, rfl⟩
  have HBL := Lib.hid (And.intro hbl hpl2)
  rw [← hbl] at s2 hxb
  rw [← hpl2] at hpl ⊢
  have HX := Lib.hid (And.intro hxb hpl)
  simp only [← hpl2] at hp hne
  have HP := Lib.hid hp
  have HNE := Lib.hid hne
  have HG := Lib.hid hg
  have HN := Lib.hid hn
  clear h hfi hf hrd hg hn hp hne hobs
  by_cases ha : at_ = (bl : Int)
  · have b1 : (at_ != (bl : Int)) = false := by simp [ha]
    have hw : IntKind.i64.wrap (1048576 - (bl : Int)) = 1048576 - (bl : Int) := IntWalk.i64_in _ (by omega)
    by_cases hl : (1048576 : Int) - (bl : Int) < (pl : Int)
    · have hS : patchOf T (ukeyOf nx) x at_ p = (8, T, x) := by
        unfold patchOf
        rw [← HBL.out.1, ← HBL.out.2, if_pos ha, if_pos hl]
      rw [hS]
      have b2 : decide ((1048576 : Int) - (bl : Int) < (pl : Int)) = true := decide_eq_true hl
      clear hS ha hl hbl hpl2 hxb hpl hid hnx
      go_enter Tryz.func10, Tryz.ntmps10
      go_wp2_with fail
      refine HFI.out.out.mono ?_
      rintro e w' ⟨rfl, rfl⟩
      go_wp2_with fail
      go_ret
      exact ⟨rfl, H0.out⟩
    · have b2 : decide ((1048576 : Int) - (bl : Int) < (pl : Int)) = false := decide_eq_false hl
      obtain ⟨R, hR⟩ : ∃ R, patchOf T (ukeyOf nx) x at_ p = R := ⟨_, rfl⟩
      rw [hR]
      unfold patchOf at hR
      rw [← HBL.out.1, ← HBL.out.2, if_pos ha, if_neg hl] at hR
      obtain ⟨ky, hky⟩ : ∃ k, k = ukeyOf nx := ⟨_, rfl⟩
      rw [← hky] at hR
      have HKEY := Lib.hid (show ∀ W, Calls Tryz.prog 23 #[.int .i64 x.id] W (QuietP W (.string ky)) from fun W => by rw [hky, hid]; exact ukey_calls W nx nx (IntWalk.u64_in _ (by omega)) (by omega))
      obtain ⟨ar, har⟩ : ∃ r, r = appendOf T.m ky p := ⟨_, rfl⟩
      obtain ⟨sr, hsr⟩ : ∃ r, r = syncOf ar.2 := ⟨_, rfl⟩
      rw [← har, ← hsr] at hR
      have hga : Good ar.2 (n + 1) := by rw [har]; exact HG.out.append ky p
      have HAPP := Lib.hid (show ∀ W, Own w W (tRes w.heap.size d j t b nm T ++ (uRes w.heap.size d u st t mp next (L1 ++ (x, sp, q) :: L2) ++ rs)) → Calls Tryz.prog 48 #[.pointer (some ⟨d, 0, none⟩), .string ky, .slice pa pl pc] W (fun e w' => e = .returned (.int .i64 ar.1) ∧ Own w w' (tRes w.heap.size d j t b nm { T with m := ar.2 } ++ (uRes w.heap.size d u st t mp next (L1 ++ (x, sp, q) :: L2) ++ rs))) from fun W hW => by
        rw [har]
        exact Own.append hW ky (HP.out W (tRes w.heap.size d j t b nm T ++ uRes w.heap.size d u st t mp next (L1 ++ (x, sp, q) :: L2)) (by rw [List.append_assoc]; exact hW)) HG.out.room0 HG.out.room1 HG.out.unow HG.out.fuse (HG.out.loose (by have := HN.out; omega)))
      have HSY := Lib.hid (show ∀ W, Own w W (tRes w.heap.size d j t b nm { T with m := ar.2 } ++ (uRes w.heap.size d u st t mp next (L1 ++ (x, sp, q) :: L2) ++ rs)) → Calls Tryz.prog 49 #[.pointer (some ⟨d, 0, none⟩)] W (fun e w' => e = .returned (.int .i64 sr.1) ∧ Own w w' (tRes w.heap.size d j t b nm { T with m := sr.2 } ++ (uRes w.heap.size d u st t mp next (L1 ++ (x, sp, q) :: L2) ++ rs))) from fun W hW => by
        rw [hsr]
        exact Own.sync hW hga.fuse hga.fits1)
      obtain ⟨c1, m1⟩ := ar
      obtain ⟨c2, m2⟩ := sr
      dsimp only at hR HAPP HSY
      have HR := Lib.hid hR
      have hw3 : IntKind.i64.wrap ((bl : Int) + (pl : Int)) = ((bl : Int) + (pl : Int)) := IntWalk.i64_in _ (by omega)
      have HW3 := Lib.hid hw3
      have HSM := Lib.hid (show bl + pl ≤ 1048576 by omega)
      clear hR hky har hsr hga ha hl hbl hpl2 hxb hpl hid hnx hw3 HG HN
      go_enter Tryz.func10, Tryz.ntmps10
      go_wp2_with fail
      refine HFI.out.out.mono ?_
      rintro e w' ⟨rfl, rfl⟩
      go_upto_region 8 with fail
      clear s2 hw b1 b2 HFI
      refine wp_region_held_drew (S := fun W => W.cell? ⟨u, 0, none⟩ = some (.pointer (some ⟨d, 0, none⟩))) (by kernel_rfl) (by exact (u_cells (HOB.out _ _ H0.out.drew).2).1) (fun hHeld => ?_)
      have H0d := Lib.hid H0.out.drew
      clear H0
      refine wpAnyH_take (i := 0) (oi := { dst := some 41, op := _, type := _, pos := _, after := _, guard := _ }) (v := .pointer (some ⟨u, 0, none⟩)) rfl (by kernel_rfl) (by kernel_rfl) (by kernel_rfl) (fun _ _ _ h => h) (Or.inl ⟨by rfl, by intro w hSw; (try dsimp only at hSw); go_simp⟩) hHeld ?_
      try simp only [Act.put, List.setIfInBounds_toArray, List.set_cons_zero, List.set_cons_succ]
      refine wpAnyH_take (i := 1) (oi := { dst := some 42, op := _, type := _, pos := _, after := _, guard := _ }) (v := .pointer (some ⟨u, 0, none⟩)) rfl (by kernel_rfl) (by kernel_rfl) (by kernel_rfl) (fun _ _ _ h => h) (Or.inl ⟨by rfl, by intro w hSw; (try dsimp only at hSw); go_simp⟩) hHeld ?_
      try simp only [Act.put, List.setIfInBounds_toArray, List.set_cons_zero, List.set_cons_succ]
      refine wpAnyH_take (i := 2) (oi := { dst := some 43, op := _, type := _, pos := _, after := _, guard := _ }) (v := .pointer (some ⟨u, 0, none⟩)) rfl (by kernel_rfl) (by kernel_rfl) (by kernel_rfl) (fun _ _ _ h => h) (Or.inl ⟨by rfl, by intro w hSw; (try dsimp only at hSw); go_simp⟩) hHeld ?_
      try simp only [Act.put, List.setIfInBounds_toArray, List.set_cons_zero, List.set_cons_succ]
      refine wpAnyH_take (i := 3) (oi := { dst := some 44, op := _, type := _, pos := _, after := _, guard := _ }) (v := .pointer (some ⟨d, 0, none⟩)) rfl (by kernel_rfl) (by kernel_rfl) (by kernel_rfl) (fun _ _ _ h => h) (Or.inl ⟨by rfl, by intro w hSw; (try dsimp only at hSw); (have q0 := hSw; go_simp)⟩) hHeld ?_
      try simp only [Act.put, List.setIfInBounds_toArray, List.set_cons_zero, List.set_cons_succ]
      refine wpAnyH_take (i := 4) (oi := { dst := some 45, op := _, type := _, pos := _, after := _, guard := _ }) (v := .int .i64 x.id) rfl (by kernel_rfl) (by kernel_rfl) (by kernel_rfl) (fun _ _ _ h => h) (Or.inl ⟨by rfl, by intro w hSw; (try dsimp only at hSw); go_simp⟩) hHeld ?_
      try simp only [Act.put, List.setIfInBounds_toArray, List.set_cons_zero, List.set_cons_succ]
      refine wpAnyH_take (i := 6) (oi := { dst := some 47, op := _, type := _, pos := _, after := _, guard := _ }) (v := .slice pa pl pc) rfl (by kernel_rfl) (by kernel_rfl) (by kernel_rfl) (fun _ _ _ h => h) (Or.inl ⟨by rfl, by intro w hSw; (try dsimp only at hSw); go_simp⟩) hHeld ?_
      try simp only [Act.put, List.setIfInBounds_toArray, List.set_cons_zero, List.set_cons_succ]
      refine wpAnyH_ready (rs := [5]) (by kernel_rfl) (by simp) ?_
      refine AllReadyH.cons (o := { dst := some 46, op := _, type := _, pos := _, after := _, guard := _ }) rfl (fun K hK => ?_) AllReadyH.nil
      refine step_wanted' rfl ?_
      go_simp
      go_at_call 23
      refine (HKEY.out _).mono ?_
      rintro e w3 ⟨rfl, hk3⟩
      have H3 := Lib.hid (H0d.out.quiet hk3)
      refine hK.out _ _ (by exact (u_cells (HOB.out _ _ H3.out).2).1) (fun hHeld1 => ?_)
      clear hK K
      try simp only [Act.put, List.setIfInBounds_toArray, List.set_cons_zero, List.set_cons_succ]
      refine wpAnyH_ready (rs := [7]) (by kernel_rfl) (by simp) ?_
      refine AllReadyH.cons (o := { dst := some 48, op := _, type := _, pos := _, after := _, guard := _ }) rfl (fun K hK => ?_) AllReadyH.nil
      refine step_wanted' rfl ?_
      go_simp
      go_at_call 48
      refine (HAPP.out _ H3.out).mono ?_
      rintro e w4 ⟨rfl, h4⟩
      have H4 := Lib.hid h4
      clear h4
      refine hK.out _ _ (by exact (u_cells (HOB.out _ _ H4.out).2).1) (fun hHeld2 => ?_)
      clear hK K
      try simp only [Act.put, List.setIfInBounds_toArray, List.set_cons_zero, List.set_cons_succ]
      refine wpAnyH_take (i := 8) (oi := { dst := some 11, op := _, type := _, pos := _, after := _, guard := _ }) (v := .int .i64 c1) rfl (by kernel_rfl) (by kernel_rfl) (by kernel_rfl) (fun _ _ _ h => h) (Or.inl ⟨by rfl, by intro w hSw; (try dsimp only at hSw); go_simp⟩) hHeld2 ?_
      try simp only [Act.put, List.setIfInBounds_toArray, List.set_cons_zero, List.set_cons_succ]
      refine wpAnyH_done (by kernel_rfl) ?_ _
      by_cases hc : c1 = 0
      · subst hc
        have hr1 := HR.out
        rw [if_pos rfl] at hr1
        have HR := Lib.hid hr1
        clear hr1
        obtain ⟨k0, -, -, -, -⟩ := u_cells (HOB.out _ _ H4.out).2
        go_wp2_with fail
        refine (HSY.out _ H4.out).mono ?_
        rintro e w5 ⟨rfl, h5⟩
        clear k0 H4
        by_cases hc2 : c2 = 0
        · subst hc2
          have hr1 := HR.out
          rw [if_pos rfl] at hr1
          subst hr1
          have hs5 := (HOB.out _ _ h5).1
          obtain ⟨-, -, s2, s3⟩ := ses_cells hs5
          rw [← HBL.out.1] at s2
          have f2 := free_at hs5 2
          have h6 := h5.focus.store 2 (.int .i64 ((bl : Int) + (pl : Int)))
          have s3' : (w5.setCell ⟨sp, 2, none⟩ (.int .i64 ((bl : Int) + (pl : Int)))).cell? ⟨sp, 3, none⟩ = some (.pointer (some ⟨q, 0, none⟩)) := cell_at (h6.at (List.mem_cons_self ..)).1 rfl
          have h7 : Own w (w5.setCell ⟨sp, 2, none⟩ (.int .i64 ((bl : Int) + (pl : Int)))) (rSt w.heap.size q x.b :: rObj w.heap.size sp (sesObj { x with b := x.b ++ p } q) :: (tRes w.heap.size d j t b nm { T with m := m2 } ++ (uRest w.heap.size d u st t mp next (ptrs (L1 ++ (x, sp, q) :: L2)) L1 L2 ++ rs))) := by
            have e : (sesObj { x with b := x.b ++ p } q) = Obj.cells (#[.string x.repo, .int .i64 x.til, .int .i64 (x.b.length : Int), .pointer (some ⟨q, 0, none⟩)].setIfInBounds 2 (.int .i64 ((bl : Int) + (pl : Int)))) 116 (0, 0) := by
              unfold sesObj
              rw [HBL.out.1, HBL.out.2]
              simp
            rw [e]
            exact h6.swap
          have hwr := h7.write (pv := .slice pa pl pc) (p := p) (HP.out _ (rSt w.heap.size q x.b :: rObj w.heap.size sp (sesObj { x with b := x.b ++ p } q) :: (tRes w.heap.size d j t b nm { T with m := m2 } ++ uRest w.heap.size d u st t mp next (ptrs (L1 ++ (x, sp, q) :: L2)) L1 L2)) (by show Own _ _ (_ :: _ :: ((_ ++ _) ++ rs)); rw [List.append_assoc]; exact h7)) HNE.out (by have := HSM.out; have := HBL.out; omega)
          have HWR := Lib.hid hwr
          have hw3 := HW3.out
          clear h5 h6 h7 hwr hs5 HR
          go_wp2_with fail
          refine HWR.out.mono ?_
          rintro e w6 ⟨rfl, h8⟩
          have H8 := Lib.hid (Own.unfocus (x := { x with b := x.b ++ p }) h8.swap (by simp [ptrs]))
          clear h8 HWR s2 s3 s3' f2 hw3
          go_wp2_with fail
          go_ret
          exact ⟨rfl, H8.out⟩
        · have hr1 := HR.out
          rw [if_neg hc2] at hr1
          subst hr1
          have hb2 : (c2 != 0) = true := by simpa using hc2
          have H5 := Lib.hid h5
          clear HR hc2 h5
          go_wp2_with fail
          go_ret
          exact ⟨rfl, H5.out⟩
      · have hr1 := HR.out
        rw [if_neg hc] at hr1
        subst hr1
        have hb2 : (c1 != 0) = true := by simpa using hc
        clear HR hc
        go_wp2_with fail
        go_ret
        exact ⟨rfl, H4.out⟩
  · have hS : patchOf T (ukeyOf nx) x at_ p = (130, T, x) := by
      unfold patchOf
      rw [← HBL.out.1, if_neg ha]
    rw [hS]
    have b1 : (at_ != (bl : Int)) = true := by simpa using ha
    clear hS ha hbl hpl2 hxb hpl hid hnx
    go_enter Tryz.func10, Tryz.ntmps10
    go_wp2_with fail
    refine HFI.out.out.mono ?_
    rintro e w' ⟨rfl, rfl⟩
    go_wp2_with fail
    go_ret
    exact ⟨rfl, H0.out⟩
end
end Go.Proofs.YtlcnhpjggjgnpaaGreatDoor
namespace Go.Proofs.YtlcnhpjggjgnpaaGreatDoor
set_option linter.unusedVariables false
set_option linter.unusedSimpArgs false
open Go.RowKit Go.MapKept
open Go.ChangeMaps (setBlock)
theorem adopt_good {m : DM} {n : Nat} (h : Good m n) (nm : ByteArray) (dg : List UInt8) : Good (adoptOf m nm dg).2 (n + 1) := by
  unfold adoptOf
  split
  · split
    · split
      · split
        · exact (h.remove nm).sync
        · exact h.remove nm
      · split
        · exact (h.rename nm (fileOf dg)).sync
        · exact h.rename nm (fileOf dg)
    · exact h.mono (Nat.le_succ _)
  · exact h.mono (Nat.le_succ _)
def closeOf (T : TM) (nm ky : ByteArray) (dg : List UInt8) : Int × TM :=
  if ¬ (adoptOf T.m ky dg).1 = 0 ∧ ¬ (adoptOf T.m ky dg).1 = 6 then ((adoptOf T.m ky dg).1, { T with m := (adoptOf T.m ky dg).2 })
  else if (tAppOf { T with m := (adoptOf T.m ky dg).2 } nm [⟨ky, true, []⟩]).1 = 4 then (0, (tAppOf { T with m := (adoptOf T.m ky dg).2 } nm [⟨ky, true, []⟩]).2)
  else ((tAppOf { T with m := (adoptOf T.m ky dg).2 } nm [⟨ky, true, []⟩]).1, (tAppOf { T with m := (adoptOf T.m ky dg).2 } nm [⟨ky, true, []⟩]).2)
section
variable {w wr : World} {d u st t mp j b : Nat} {nm : ByteArray} {T : TM} {next : Int} {L L1 L2 : UL} {rs : List (Res w.heap.size)}
def UCl (u d st t : Nat) (next : Int) (mp bd : Nat) (cl : List Value) (W : World) : Prop :=
  (W.cell? ⟨u, 0, none⟩ = some (.pointer (some ⟨d, 0, none⟩)) ∧ W.cell? ⟨u, 1, none⟩ = some (.pointer (some ⟨st, 0, none⟩)) ∧ W.cell? ⟨u, 2, none⟩ = some (.pointer (some ⟨t, 0, none⟩)) ∧ W.cell? ⟨u, 3, none⟩ = some (.int .i64 next) ∧ W.cell? ⟨u, 4, none⟩ = some (.map (some mp))) ∧ W.rangeAt bd 0 cl
theorem UCl.of {bd : Nat} {cl : List Value} {W : World} {A M : List (Res w.heap.size)} (h : Own w W (A ++ (uRes w.heap.size d u st t mp next L ++ M))) (hm : rObj w.heap.size bd (.cells cl.toArray 39) ∈ M) : UCl u d st t next mp bd cl W := by
  refine ⟨u_cells (h.at (b := u) (o := uObj d st t next mp) (by simp [uRes])).1, fun k v hv => ?_⟩
  rw [Nat.zero_add]
  exact cell_at (h.at (b := bd) (o := .cells cl.toArray 39) (by simp [hm])).1 (by rw [List.getElem?_toArray]; exact hv)
theorem one_in13 {wr : World} {b : Nat} {key : ByteArray} {gone : Bool} {pv : Value} {val : List UInt8} {t : TypeId} (hb : wr.heap[b]? = some (.cells #[.string key, .bool gone, pv] t)) (hp : Reads wr pv val) : TChsIn wr (some ⟨b, 0, none⟩) [⟨key, gone, val⟩] := by
  intro i ch hc
  match i, hc with
  | 0, hc =>
    cases hc
    exact ⟨_, _, rfl, cell_at hb rfl, cell_at hb rfl, cell_at hb rfl, hp⟩
  | i + 1, hc => simp at hc
def ULPost (w : World) (d j t b u st mp : Nat) (nm : ByteArray) (next : Int) (L : UL) (rs : List (Res w.heap.size)) (r : Int × TM) (e : Ending) (w' : World) : Prop :=
  e = .returned (.int .i64 r.1) ∧ Own w w' (tRes w.heap.size d j t b nm r.2 ++ (uRes w.heap.size d u st t mp next L ++ rs))
theorem apply_gone {W : World} {T' : TM} {n : Nat} {bb : Nat} {ky : ByteArray} {M : List (Res w.heap.size)} (hW : Own w W (tRes w.heap.size d j t b nm T' ++ (uRes w.heap.size d u st t mp next L ++ (rObj w.heap.size bb (.cells #[.string ky, .bool true, .slice none 0 0] 109) :: M)))) (hg : Good T'.m n) (hn : n < 549755813888) (hs : T'.size ≤ 1099511627776) :
    Calls Tryz.prog 42 #[.pointer (some ⟨t, 0, none⟩), .slice (some ⟨bb, 0, none⟩) 1 1] W (ULPost w d j t b u st mp nm next L M (tAppOf T' nm [⟨ky, true, []⟩])) := by
  refine (tapply_callsO hW hg hn hs (a := some ⟨bb, 0, none⟩) (c := 1) (l := [⟨ky, true, []⟩]) (fun wr ls ho => one_in13 (t := 109) (ho.at (b := bb) (o := .cells #[.string ky, .bool true, .slice none 0 0] 109) (by simp)).1 (reads_nil _)) (by simp) (by decide)).mono ?_
  rintro e w' ⟨he, h⟩
  exact ⟨he, h.dropEnd⟩
set_option maxRecDepth 100000 in
set_option maxHeartbeats 1000000 in
theorem uclose_calls {w0 : World} (h : Own w w0 (tRes w.heap.size d j t b nm T ++ (uRes w.heap.size d u st t mp next L ++ rs))) {n : Nat} (hg : Good T.m n) (hn : n + 20 < 549755813888) (hs : T.size ≤ 1099511627776) {id : Int} {nx : Nat} (hid : id = (nx : Int)) (hnx : nx ≤ 4294967295) {dg : List UInt8} (hdl : dg.length = 32) :
    Calls Tryz.prog 54 #[.pointer (some ⟨u, 0, none⟩), .int .i64 id, .agg (dg.map u8v).toArray] w0 (ULPost w d j t b u st mp nm next L rs (closeOf T nm (ukeyOf nx) dg)) := by
  obtain ⟨ky, hky⟩ : ∃ k, k = ukeyOf nx := ⟨_, rfl⟩
  have HKEY := Lib.hid (show ∀ W, Calls Tryz.prog 23 #[.int .i64 id] W (QuietP W (.string ky)) from fun W => by rw [hky, hid]; exact ukey_calls W nx nx (IntWalk.u64_in _ (by omega)) (by omega))
  obtain ⟨cl, hcl⟩ : ∃ cl : List Value, cl = dg.map u8v := ⟨_, rfl⟩
  have HI := Lib.hid (show (Tryz.prog.info? 39).map (·.size) = some cl.length by rw [hcl, List.length_map, hdl]; kernel_rfl)
  obtain ⟨R, hR⟩ : ∃ R, closeOf T nm (ukeyOf nx) dg = R := ⟨_, rfl⟩
  rw [hR, ← hcl]
  unfold closeOf at hR
  rw [← hky] at hR
  obtain ⟨ar, har⟩ : ∃ r, r = adoptOf T.m ky dg := ⟨_, rfl⟩
  have hga : Good ar.2 (n + 1) := by rw [har]; exact adopt_good hg ky dg
  have HADO := Lib.hid (show ∀ W (M : List (Res w.heap.size)), Own w W (tRes w.heap.size d j t b nm T ++ (uRes w.heap.size d u st t mp next L ++ M)) → Calls Tryz.prog 115 #[.pointer (some ⟨st, 0, none⟩), .string ky, .agg cl.toArray] W (fun e w' => e = .returned (.int .i64 ar.1) ∧ Own w w' (tRes w.heap.size d j t b nm { T with m := ar.2 } ++ (uRes w.heap.size d u st t mp next L ++ M))) from fun W M hW => by
    rw [har, hcl]
    exact badopt_calls hW (by simp [uRes, stObj1]) hg (by omega) ky dg hdl)
  rw [← har] at hR
  obtain ⟨ap, hap⟩ : ∃ r, r = tAppOf { T with m := ar.2 } nm [⟨ky, true, []⟩] := ⟨_, rfl⟩
  have HAPP := Lib.hid (show ∀ W (M : List (Res w.heap.size)) (bb : Nat), Own w W (tRes w.heap.size d j t b nm { T with m := ar.2 } ++ (uRes w.heap.size d u st t mp next L ++ (rObj w.heap.size bb (.cells #[.string ky, .bool true, .slice none 0 0] 109) :: M))) → Calls Tryz.prog 42 #[.pointer (some ⟨t, 0, none⟩), .slice (some ⟨bb, 0, none⟩) 1 1] W (ULPost w d j t b u st mp nm next L M ap) from fun W M bb hW => by
    rw [hap]
    exact apply_gone hW hga (by omega) hs)
  rw [← hap] at hR
  obtain ⟨c1, m1⟩ := ar
  obtain ⟨c2, T2⟩ := ap
  dsimp only at hR HADO HAPP
  have HR := Lib.hid hR
  have H0 := Lib.hid (h.endObj (.cells cl.toArray 39))
  clear hR hky hcl har hga hap h hg hn hs hid hnx hdl
  go_enter Tryz.func54, Tryz.ntmps54
  go_upto_region 1 with fail
  generalize w0.alloc (.cells cl.toArray 39) = w1 at H0 ⊢
  generalize w0.heap.size = bd at H0 ⊢
  refine wp_region_held_drew (S := UCl u d st t next mp bd cl) (by kernel_rfl) (by exact UCl.of H0.out.drew (List.mem_cons_self ..)) (fun hHeld => ?_)
  have H1 := Lib.hid H0.out.drew
  clear H0
  generalize w1.drew = w1d at *
  refine wpAnyH_take (i := 0) (oi := { dst := some 9, op := _, type := _, pos := _, after := _, guard := _ }) (v := .pointer (some ⟨u, 0, none⟩)) rfl (by kernel_rfl) (by kernel_rfl) (by kernel_rfl) (fun _ _ _ h => h) (Or.inl ⟨by rfl, by intro w hSw; (try dsimp only at hSw); go_simp⟩) hHeld ?_
  try simp only [Act.put, List.setIfInBounds_toArray, List.set_cons_zero, List.set_cons_succ]
  refine wpAnyH_take (i := 1) (oi := { dst := some 10, op := _, type := _, pos := _, after := _, guard := _ }) (v := .pointer (some ⟨u, 0, none⟩)) rfl (by kernel_rfl) (by kernel_rfl) (by kernel_rfl) (fun _ _ _ h => h) (Or.inl ⟨by rfl, by intro w hSw; (try dsimp only at hSw); go_simp⟩) hHeld ?_
  try simp only [Act.put, List.setIfInBounds_toArray, List.set_cons_zero, List.set_cons_succ]
  refine wpAnyH_take (i := 2) (oi := { dst := some 11, op := _, type := _, pos := _, after := _, guard := _ }) (v := .pointer (some ⟨u, 1, none⟩)) rfl (by kernel_rfl) (by kernel_rfl) (by kernel_rfl) (fun _ _ _ h => h) (Or.inl ⟨by rfl, by intro w hSw; (try dsimp only at hSw); go_simp⟩) hHeld ?_
  try simp only [Act.put, List.setIfInBounds_toArray, List.set_cons_zero, List.set_cons_succ]
  refine wpAnyH_take (i := 3) (oi := { dst := some 12, op := _, type := _, pos := _, after := _, guard := _ }) (v := .pointer (some ⟨st, 0, none⟩)) rfl (by kernel_rfl) (by kernel_rfl) (by kernel_rfl) (fun _ _ _ h => h) (Or.inl ⟨by rfl, by intro w hSw; (try dsimp only at hSw); (obtain ⟨⟨q0, q1, q2, q3, q4⟩, -⟩ := hSw; go_simp)⟩) hHeld ?_
  try simp only [Act.put, List.setIfInBounds_toArray, List.set_cons_zero, List.set_cons_succ]
  refine wpAnyH_take (i := 4) (oi := { dst := some 13, op := _, type := _, pos := _, after := _, guard := _ }) (v := .int .i64 id) rfl (by kernel_rfl) (by kernel_rfl) (by kernel_rfl) (fun _ _ _ h => h) (Or.inl ⟨by rfl, by intro w hSw; (try dsimp only at hSw); go_simp⟩) hHeld ?_
  try simp only [Act.put, List.setIfInBounds_toArray, List.set_cons_zero, List.set_cons_succ]
  refine wpAnyH_take (i := 6) (oi := { dst := some 15, op := _, type := _, pos := _, after := _, guard := _ }) (v := .agg (cl).toArray) rfl (by kernel_rfl) (by kernel_rfl) (by kernel_rfl) (fun _ _ _ h => h) (yieldsIf_load_mid (by rfl) _ _ rfl (bd) (0) rfl (cl) _ (fun w' hk => hk.2) Tryz.underlying39 rfl HI.out) hHeld ?_
  try simp only [Act.put, List.setIfInBounds_toArray, List.set_cons_zero, List.set_cons_succ]
  refine wpAnyH_ready (rs := [5]) (by kernel_rfl) (by simp) ?_
  refine AllReadyH.cons (o := { dst := some 14, op := _, type := _, pos := _, after := _, guard := _ }) rfl (fun K hK => ?_) AllReadyH.nil
  refine step_wanted' rfl ?_
  go_simp
  go_at_call 23
  refine (HKEY.out _).mono ?_
  rintro e w2 ⟨rfl, hk2⟩
  have H2 := Lib.hid (H1.out.quiet hk2)
  refine hK.out _ _ (by exact UCl.of H2.out (List.mem_cons_self ..)) (fun hHeld1 => ?_)
  clear hK K
  try simp only [Act.put, List.setIfInBounds_toArray, List.set_cons_zero, List.set_cons_succ]
  refine wpAnyH_ready (rs := [7]) (by kernel_rfl) (by simp) ?_
  refine AllReadyH.cons (o := { dst := some 16, op := _, type := _, pos := _, after := _, guard := _ }) rfl (fun K hK => ?_) AllReadyH.nil
  refine step_wanted' rfl ?_
  go_simp
  go_at_call 115
  refine (HADO.out _ _ H2.out).mono ?_
  rintro e w3 ⟨rfl, h3⟩
  have H3 := Lib.hid h3
  clear h3
  refine hK.out _ _ (by exact UCl.of H3.out (List.mem_cons_self ..)) (fun hHeld2 => ?_)
  clear hK K
  try simp only [Act.put, List.setIfInBounds_toArray, List.set_cons_zero, List.set_cons_succ]
  refine wpAnyH_take (i := 8) (oi := { dst := some 7, op := _, type := _, pos := _, after := _, guard := _ }) (v := .int .i64 c1) rfl (by kernel_rfl) (by kernel_rfl) (by kernel_rfl) (fun _ _ _ h => h) (Or.inl ⟨by rfl, by intro w hSw; (try dsimp only at hSw); go_simp⟩) hHeld2 ?_
  try simp only [Act.put, List.setIfInBounds_toArray, List.set_cons_zero, List.set_cons_succ]
  refine wpAnyH_done (by kernel_rfl) ?_ _
  by_cases hc : ¬ c1 = 0 ∧ ¬ c1 = 6
  · have hr1 := HR.out
    rw [if_pos hc] at hr1
    subst hr1
    have b1 : (c1 != 0) = true := by simpa using hc.1
    have b2 : (c1 != 6) = true := by simpa using hc.2
    clear HR hc
    go_wp2_with fail
    go_ret
    exact ⟨rfl, H3.out.dropEnd⟩
  · have hr1 := HR.out
    rw [if_neg hc] at hr1
    have HR := Lib.hid hr1
    clear hr1
    have hpath : (c1 = 0) ∨ (c1 = 6) := by
      by_cases h0 : c1 = 0
      · exact .inl h0
      · by_cases h6 : c1 = 6
        · exact .inr h6
        · exact absurd ⟨h0, h6⟩ hc
    clear hc
    go_upto_region 2 with fail
    go_cut [22] from 9 to 35 (fun v wx => v = .bool false ∧ w3 = wx)
    case first =>
      rcases hpath with rfl | rfl
      · go_wp2_with fail
        go_meet
        exact ⟨rfl, rfl⟩
      · go_wp2_with fail
        go_meet
        exact ⟨rfl, rfl⟩
    case rest =>
      obtain ⟨rfl, rfl⟩ := hcut
      clear hpath
      go_upto_region 4 with fail
      refine wp_region_held_drew (S := UCl u d st t next mp bd cl) (by kernel_rfl) (by exact UCl.of H3.out.drew (List.mem_cons_self ..)) (fun hHeld => ?_)
      have H4 := Lib.hid H3.out.drew
      clear H3
      generalize w3.drew = w3d at *
      refine wpAnyH_take (i := 0) (oi := { dst := some 24, op := _, type := _, pos := _, after := _, guard := _ }) (v := .pointer (some ⟨u, 0, none⟩)) rfl (by kernel_rfl) (by kernel_rfl) (by kernel_rfl) (fun _ _ _ h => h) (Or.inl ⟨by rfl, by intro w hSw; (try dsimp only at hSw); go_simp⟩) hHeld ?_
      try simp only [Act.put, List.setIfInBounds_toArray, List.set_cons_zero, List.set_cons_succ]
      refine wpAnyH_take (i := 1) (oi := { dst := some 25, op := _, type := _, pos := _, after := _, guard := _ }) (v := .pointer (some ⟨u, 0, none⟩)) rfl (by kernel_rfl) (by kernel_rfl) (by kernel_rfl) (fun _ _ _ h => h) (Or.inl ⟨by rfl, by intro w hSw; (try dsimp only at hSw); go_simp⟩) hHeld ?_
      try simp only [Act.put, List.setIfInBounds_toArray, List.set_cons_zero, List.set_cons_succ]
      refine wpAnyH_take (i := 2) (oi := { dst := some 26, op := _, type := _, pos := _, after := _, guard := _ }) (v := .pointer (some ⟨u, 2, none⟩)) rfl (by kernel_rfl) (by kernel_rfl) (by kernel_rfl) (fun _ _ _ h => h) (Or.inl ⟨by rfl, by intro w hSw; (try dsimp only at hSw); go_simp⟩) hHeld ?_
      try simp only [Act.put, List.setIfInBounds_toArray, List.set_cons_zero, List.set_cons_succ]
      refine wpAnyH_take (i := 3) (oi := { dst := some 27, op := _, type := _, pos := _, after := _, guard := _ }) (v := .pointer (some ⟨t, 0, none⟩)) rfl (by kernel_rfl) (by kernel_rfl) (by kernel_rfl) (fun _ _ _ h => h) (Or.inl ⟨by rfl, by intro w hSw; (try dsimp only at hSw); (obtain ⟨⟨q0, q1, q2, q3, q4⟩, -⟩ := hSw; go_simp)⟩) hHeld ?_
      try simp only [Act.put, List.setIfInBounds_toArray, List.set_cons_zero, List.set_cons_succ]
      refine wpAnyH_take (i := 4) (oi := { dst := some 28, op := _, type := _, pos := _, after := _, guard := _ }) (v := .int .i64 id) rfl (by kernel_rfl) (by kernel_rfl) (by kernel_rfl) (fun _ _ _ h => h) (Or.inl ⟨by rfl, by intro w hSw; (try dsimp only at hSw); go_simp⟩) hHeld ?_
      try simp only [Act.put, List.setIfInBounds_toArray, List.set_cons_zero, List.set_cons_succ]
      refine wpAnyH_ready (rs := [5]) (by kernel_rfl) (by simp) ?_
      refine AllReadyH.cons (o := { dst := some 29, op := _, type := _, pos := _, after := _, guard := _ }) rfl (fun K hK => ?_) AllReadyH.nil
      refine step_wanted' rfl ?_
      go_simp
      go_at_call 23
      refine (HKEY.out _).mono ?_
      rintro e w5 ⟨rfl, hk5⟩
      have H5 := Lib.hid (H4.out.quiet hk5)
      refine hK.out _ _ (by exact UCl.of H5.out (List.mem_cons_self ..)) (fun hHeld1 => ?_)
      clear hK K
      try simp only [Act.put, List.setIfInBounds_toArray, List.set_cons_zero, List.set_cons_succ]
      refine wpAnyH_take (i := 6) (oi := { dst := some 30, op := _, type := _, pos := _, after := _, guard := _ }) (v := .agg #[.string ky, .bool true, .slice none 0 0]) rfl (by kernel_rfl) (by kernel_rfl) (by kernel_rfl) (fun _ _ _ h => h) (Or.inl ⟨by rfl, by intro w hSw; (try dsimp only at hSw); go_simp⟩) hHeld1 ?_
      try simp only [Act.put, List.setIfInBounds_toArray, List.set_cons_zero, List.set_cons_succ]
      refine wpAnyH_ready (rs := [7]) (by kernel_rfl) (by simp) ?_
      refine AllReadyH.cons (o := { dst := some 31, op := _, type := _, pos := _, after := _, guard := _ }) rfl (fun K hK => ?_) AllReadyH.nil
      refine step_wanted' rfl ?_
      go_simp
      have H6 := Lib.hid (H5.out.endObj (.cells #[.string ky, .bool true, .slice none 0 0] 109))
      refine hK.out _ _ (by exact UCl.of H6.out (by simp)) (fun hHeld2 => ?_)
      clear hK K
      try simp only [Act.put, List.setIfInBounds_toArray, List.set_cons_zero, List.set_cons_succ]
      refine wpAnyH_ready (rs := [8]) (by kernel_rfl) (by simp) ?_
      refine AllReadyH.cons (o := { dst := some 32, op := _, type := _, pos := _, after := _, guard := _ }) rfl (fun K hK => ?_) AllReadyH.nil
      refine step_wanted' rfl ?_
      go_simp
      go_at_call 42
      refine (HAPP.out _ _ _ H6.out).mono ?_
      rintro e w7 ⟨rfl, h7⟩
      have H7 := Lib.hid h7
      clear h7
      refine hK.out _ _ (by exact UCl.of H7.out (List.mem_cons_self ..)) (fun hHeld3 => ?_)
      clear hK K
      try simp only [Act.put, List.setIfInBounds_toArray, List.set_cons_zero, List.set_cons_succ]
      refine wpAnyH_take (i := 9) (oi := { dst := some 8, op := _, type := _, pos := _, after := _, guard := _ }) (v := .int .i64 c2) rfl (by kernel_rfl) (by kernel_rfl) (by kernel_rfl) (fun _ _ _ h => h) (Or.inl ⟨by rfl, by intro w hSw; (try dsimp only at hSw); go_simp⟩) hHeld3 ?_
      try simp only [Act.put, List.setIfInBounds_toArray, List.set_cons_zero, List.set_cons_succ]
      refine wpAnyH_done (by kernel_rfl) ?_ _
      by_cases hc : c2 = 4
      · subst hc
        have hr1 := HR.out
        rw [if_pos rfl] at hr1
        subst hr1
        clear HR
        go_wp2_with fail
        go_ret
        exact ⟨rfl, H7.out.dropEnd⟩
      · have hr1 := HR.out
        rw [if_neg hc] at hr1
        subst hr1
        have b1 : (c2 != 4) = true := by simpa using hc
        clear HR hc
        go_wp2_with fail
        go_ret
        exact ⟨rfl, H7.out.dropEnd⟩
end
end Go.Proofs.YtlcnhpjggjgnpaaGreatDoor
