/- A part of the proof. -/
import Derived.Test.YtlcnhpjggjgnpaaGreatDoorUlac8
import Derived.Test.YtlcnhpjggjgnpaaGreatDoorUlac9
import Derived.Test.YtlcnhpjggjgnpaaGreatDoorUlad2
import Derived.Test.YtlcnhpjggjgnpaaGreatDoorUlae2
import Derived.Test.YtlcnhpjggjgnpaaGreatDoorUlae5
import Derived.Test.YtlcnhpjggjgnpaaGreatDoorUlae6
import Derived.Lib.SlBytesConst
namespace Go.Proofs.YtlcnhpjggjgnpaaGreatDoor
set_option linter.unusedVariables false
set_option linter.unusedSimpArgs false
open Go.RowKit Go.MapKept
theorem oneT_good4 {R : Int} (h0 : 0 ≤ R) (h1 : R ≤ 67108864) : Good (oneT R []) 4 := by
 have h := open_good (Good.new (room := R) h0 h1) nmT
 rw [open_emptyT] at h
 exact ⟨h.room0, h.room1, h.fuse0, h.fuse, by simp [oneT], h.nsure, h.now, h.used, h.kinds⟩
theorem oneT_tidy {R : Int} (h0 : 0 ≤ R) (h1 : R ≤ 67108864) : Tidy (oneT R []) 4 4 := by
 have hg := oneT_good4 h0 h1
 refine ⟨hg, oneT_sorted R, by simp [oneT], ?_, fun c hc => by simp [oneT] at hc, fun k c hc => by simp [oneT] at hc⟩
 intro p hp
 have : p = (nmT, []) := by simpa [oneT] using hp
 subst this
 decide
theorem LSt.first : LSt [] ⟨oneT 1048576 [], 0, [], false⟩ [] 1 0 := by
 have hgt : fget [(nmT, ([] : List UInt8))] = fset (fun _ => none) nmT [] := by
  funext x
  simp only [fset]
  split
  ·rename_i e; subst e; simp [fget]
  ·rename_i e; simp [fget, Ne.symm e]
 refine ⟨(oneT_tidy (by omega) (by omega)).mono (by omega) (by omega), (show 0 ≤ BB 0 by unfold BB; omega), by simp, fun x hx => by simp at hx, by simp, fun x hx => by simp at hx, Nat.le_refl _, by omega, .inl ⟨fun x hx => by simp at hx, fset (fun _ => none) nmT [], [], 0, fun _ => none, ?_⟩⟩
 have hclr : fclr (fclr (fset (fun _ => none) nmT []) tmpT) nmT = fun _ => none := by
  funext x
  simp only [fclr, fset]
  split
  ·rfl
  ·split
   ·rfl
   ·rfl
 refine ⟨⟨⟨rfl, (by rw [framesOf_nil]; rfl), ⟨⟨[], by rw [fset_same], by kernel_rfl, Nat.zero_le _⟩, rfl, (fun p hp => by simp at hp), ?_, ?_, (by rw [framesOf_nil]; exact Nat.zero_le _)⟩, ?_, ?_, ?_⟩, ?_⟩, (fun x hx => by simp at hx), (fun id e h => by cases h), by simp, fun f h1 h2 => ?_⟩
 ·rw [fset_other _ _ tmpT_ne]; simp
 ·rw [hclr]; exact Holds.empty.mono (Nat.le_refl _) (Nat.zero_le _)
 ·rw [fset_same, framesOf_nil]
 ·exact ⟨TabOk.nil, (fun k v h => by cases h), (fun id e h => by cases h), .inl ⟨rfl, rfl⟩⟩
 ·refine ⟨(fun id h => by cases h), (fun id e h => by cases h), fun d c hd h => ?_, ?_⟩
  ·rw [fset_other _ _ (ne_of_size (by rw [fileOf_size d hd]; decide))] at h; cases h
  ·rw [fset_other _ _ (ne_of_size (by decide +kernel))]
 ·exact ⟨(oneT_good4 (by omega) (by omega)).mono (by omega), rfl, rfl, Img.one rfl hgt, hgt⟩
 ·exfalso
  by_cases hf : f = nmT
  ·subst hf; revert h1; decide
  ·rw [fset_other _ _ hf] at h2; cases h2
end Go.Proofs.YtlcnhpjggjgnpaaGreatDoor
namespace Go.Proofs.YtlcnhpjggjgnpaaGreatDoor
set_option linter.unusedVariables false
set_option linter.unusedSimpArgs false
open Go.RowKit Go.MapKept
open Go.ChangeMaps (setBlock)
section
variable {w wr : World} {d u st t mp j b : Nat} {nm : ByteArray} {T : TM} {next : Int} {L L1 L2 : UL} {rs : List (Res w.heap.size)}
def UC5 (u d st t : Nat) (next : Int) (mp : Nat) (W : World) : Prop :=
 W.cell? ⟨u, 0, none⟩ = some (.pointer (some ⟨d, 0, none⟩)) ∧ W.cell? ⟨u, 1, none⟩ = some (.pointer (some ⟨st, 0, none⟩)) ∧ W.cell? ⟨u, 2, none⟩ = some (.pointer (some ⟨t, 0, none⟩)) ∧ W.cell? ⟨u, 3, none⟩ = some (.int .i64 next) ∧ W.cell? ⟨u, 4, none⟩ = some (.map (some mp))
theorem UC5.of {W : World} {A M : List (Res w.heap.size)} (h : Own w W (A ++ (uRes w.heap.size d u st t mp next L ++ M))) : UC5 u d st t next mp W :=
 u_cells (h.at (b := u) (o := uObj d st t next mp) (by simp [uRes])).1
set_option maxRecDepth 100000 in
theorem ucancel_gone {w0 : World} (h : Own w w0 (tRes w.heap.size d j t b nm T ++ (uRes w.heap.size d u st t mp next L ++ rs))) {id : Int} (hf : uget L id = none) :
  Runs 21 #[.pointer (some ⟨u, 0, none⟩), .int .i64 id] w0 (.int .i64 6) w0 := by
 have hfi := ufind_gone h hf
 unfold Runs
 clear h hf
 go_enter Tryz.func21, Tryz.ntmps21
 go_wp2_with fail
 refine hfi.out.mono ?_
 rintro e w' ⟨rfl, rfl⟩
 go_wp2_with fail
 go_ret
 exact ⟨rfl, rfl⟩
set_option maxRecDepth 100000 in
set_option maxHeartbeats 1000000 in
theorem ucancel_calls {w0 : World} {x : Ses} {sp q : Nat} (h : Own w w0 (tRes w.heap.size d j t b nm T ++ (uRes w.heap.size d u st t mp next (L1 ++ (x, sp, q) :: L2) ++ rs))) (hf : uget (L1 ++ (x, sp, q) :: L2) x.id = some (x, sp, q)) (hnd : ∀ y ∈ L1 ++ L2, y.1.id ≠ x.id) {n : Nat} (hg : Good T.m n) (hn : n + 50 < 549755813888) (hs : T.size ≤ 1099511627776) {nx : Nat} (hid : x.id = (nx : Int)) (hnx : nx ≤ 4294967295) :
  Calls Tryz.prog 21 #[.pointer (some ⟨u, 0, none⟩), .int .i64 x.id] w0 (UFinPost w d j t b u st mp nm next L1 L2 x sp q rs (cancelOf T nm (ukeyOf nx))) := by
 obtain ⟨ky, hky⟩ : ∃ k, k = ukeyOf nx := ⟨_, rfl⟩
 have HKEY := Lib.hid (show ∀ W, Calls Tryz.prog 23 #[.int .i64 x.id] W (QuietP W (.string ky)) from fun W => by rw [hky, hid]; exact ukey_calls W nx nx (IntWalk.u64_in _ (by omega)) (by omega))
 obtain ⟨R, hR⟩ : ∃ R, cancelOf T nm (ukeyOf nx) = R := ⟨_, rfl⟩
 rw [hR]
 unfold cancelOf at hR
 rw [← hky] at hR
 obtain ⟨ap, hap⟩ : ∃ r, r = tAppOf T nm [⟨ky, true, []⟩] := ⟨_, rfl⟩
 have hga : Good ap.2.m (n + 1) := by rw [hap]; exact tApp_good hg nm _
 have HAPP := Lib.hid (show ∀ W (M : List (Res w.heap.size)) (bb : Nat), Own w W (tRes w.heap.size d j t b nm T ++ (uRes w.heap.size d u st t mp next (L1 ++ (x, sp, q) :: L2) ++ (rObj w.heap.size bb (.cells #[.string ky, .bool true, .slice none 0 0] 109) :: M))) → Calls Tryz.prog 42 #[.pointer (some ⟨t, 0, none⟩), .slice (some ⟨bb, 0, none⟩) 1 1] W (ULPost w d j t b u st mp nm next (L1 ++ (x, sp, q) :: L2) M ap) from fun W M bb hW => by
  rw [hap]
  exact apply_gone hW hg (by omega) hs)
 rw [← hap] at hR
 obtain ⟨rm, hrm⟩ : ∃ r, r = removeOf ap.2.m ky := ⟨_, rfl⟩
 have hgr : Good rm.2 (n + 2) := by rw [hrm]; exact hga.remove ky
 have HREM := Lib.hid (show ∀ W (M : List (Res w.heap.size)), Own w W (tRes w.heap.size d j t b nm ap.2 ++ M) → ∃ w', Runs 45 #[.pointer (some ⟨d, 0, none⟩), .string ky] W (.int .i64 rm.1) w' ∧ Own w w' (tRes w.heap.size d j t b nm { ap.2 with m := rm.2 } ++ M) from fun W M hW => by
  rw [hrm]
  exact Own.remove hW ky hga.fuse (hga.loose (by omega)))
 rw [← hrm] at hR
 obtain ⟨sr, hsr⟩ : ∃ r, r = syncOf rm.2 := ⟨_, rfl⟩
 have HSYN := Lib.hid (show ∀ W (M : List (Res w.heap.size)), Own w W (tRes w.heap.size d j t b nm { ap.2 with m := rm.2 } ++ M) → Calls Tryz.prog 49 #[.pointer (some ⟨d, 0, none⟩)] W (fun e w' => e = .returned (.int .i64 sr.1) ∧ Own w w' (tRes w.heap.size d j t b nm { ap.2 with m := sr.2 } ++ M)) from fun W M hW => by
  rw [hsr]
  exact Own.sync hW hgr.fuse (fun k c hc => (hgr.fits k c hc).1))
 rw [← hsr] at hR
 have hfi := ufind_runs (L := L1 ++ (x, sp, q) :: L2) h (u := u) (d := d) (st := st) (t := t) (mp := mp) (next := next) (by simp [uRes]) (by simp [uRes]) x.id
 unfold ufindOf at hfi
 rw [hf] at hfi
 dsimp only at hfi
 have HFI := Lib.hid hfi
 have HLV := Lib.hid (fun (W : World) (T' : TM) (M : List (Res w.heap.size)) (hW : Own w W (tRes w.heap.size d j t b nm T' ++ (uRes w.heap.size d u st t mp next (L1 ++ (x, sp, q) :: L2) ++ M))) => Own.leave hW hnd)
 obtain ⟨c1, T1⟩ := ap
 obtain ⟨c2, m2⟩ := rm
 obtain ⟨c3, m3⟩ := sr
 dsimp only at hR HAPP HREM HSYN
 have HR := Lib.hid hR
 have H0 := Lib.hid h
 clear hR hky hap hga hrm hgr hsr hfi h hf hnd hg hn hs hid hnx
 go_enter Tryz.func21, Tryz.ntmps21
 go_wp2_with fail
 refine HFI.out.out.mono ?_
 rintro e w' ⟨rfl, rfl⟩
 go_upto_region 4 with fail
 refine wp_region_held_drew (S := UC5 u d st t next mp) (by kernel_rfl) (by exact UC5.of H0.out.drew) (fun hHeld => ?_)
 have H1 := Lib.hid H0.out.drew
 clear H0 HFI
 refine wpAnyH_take (i := 0) (oi := { dst := some 18, op := _, type := _, pos := _, after := _, guard := _ }) (v := .pointer (some ⟨u, 0, none⟩)) rfl (by kernel_rfl) (by kernel_rfl) (by kernel_rfl) (fun _ _ _ h => h) (Or.inl ⟨by rfl, by intro w hSw; (try dsimp only at hSw); go_simp⟩) hHeld ?_
 try simp only [Act.put, List.setIfInBounds_toArray, List.set_cons_zero, List.set_cons_succ]
 refine wpAnyH_take (i := 1) (oi := { dst := some 19, op := _, type := _, pos := _, after := _, guard := _ }) (v := .pointer (some ⟨u, 0, none⟩)) rfl (by kernel_rfl) (by kernel_rfl) (by kernel_rfl) (fun _ _ _ h => h) (Or.inl ⟨by rfl, by intro w hSw; (try dsimp only at hSw); go_simp⟩) hHeld ?_
 try simp only [Act.put, List.setIfInBounds_toArray, List.set_cons_zero, List.set_cons_succ]
 refine wpAnyH_take (i := 2) (oi := { dst := some 20, op := _, type := _, pos := _, after := _, guard := _ }) (v := .pointer (some ⟨u, 2, none⟩)) rfl (by kernel_rfl) (by kernel_rfl) (by kernel_rfl) (fun _ _ _ h => h) (Or.inl ⟨by rfl, by intro w hSw; (try dsimp only at hSw); go_simp⟩) hHeld ?_
 try simp only [Act.put, List.setIfInBounds_toArray, List.set_cons_zero, List.set_cons_succ]
 refine wpAnyH_take (i := 3) (oi := { dst := some 21, op := _, type := _, pos := _, after := _, guard := _ }) (v := .pointer (some ⟨t, 0, none⟩)) rfl (by kernel_rfl) (by kernel_rfl) (by kernel_rfl) (fun _ _ _ h => h) (Or.inl ⟨by rfl, by intro w hSw; (try dsimp only at hSw); (obtain ⟨q0, q1, q2, q3, q4⟩ := hSw; go_simp)⟩) hHeld ?_
 try simp only [Act.put, List.setIfInBounds_toArray, List.set_cons_zero, List.set_cons_succ]
 refine wpAnyH_take (i := 4) (oi := { dst := some 22, op := _, type := _, pos := _, after := _, guard := _ }) (v := .int .i64 x.id) rfl (by kernel_rfl) (by kernel_rfl) (by kernel_rfl) (fun _ _ _ h => h) (Or.inl ⟨by rfl, by intro w hSw; (try dsimp only at hSw); go_simp⟩) hHeld ?_
 try simp only [Act.put, List.setIfInBounds_toArray, List.set_cons_zero, List.set_cons_succ]
 refine wpAnyH_ready (rs := [5]) (by kernel_rfl) (by simp) ?_
 refine AllReadyH.cons (o := { dst := some 23, op := _, type := _, pos := _, after := _, guard := _ }) rfl (fun K hK => ?_) AllReadyH.nil
 refine step_wanted' rfl ?_
 go_simp
 go_at_call 23
 refine (HKEY.out _).mono ?_
 rintro e w2 ⟨rfl, hk2⟩
 have H2 := Lib.hid (H1.out.quiet hk2)
 clear hk2
 refine hK.out _ _ (by exact UC5.of H2.out) (fun hHeld1 => ?_)
 clear hK K
 try simp only [Act.put, List.setIfInBounds_toArray, List.set_cons_zero, List.set_cons_succ]
 refine wpAnyH_take (i := 6) (oi := { dst := some 24, op := _, type := _, pos := _, after := _, guard := _ }) (v := .agg #[.string ky, .bool true, .slice none 0 0]) rfl (by kernel_rfl) (by kernel_rfl) (by kernel_rfl) (fun _ _ _ h => h) (Or.inl ⟨by rfl, by intro w hSw; (try dsimp only at hSw); go_simp⟩) hHeld1 ?_
 try simp only [Act.put, List.setIfInBounds_toArray, List.set_cons_zero, List.set_cons_succ]
 refine wpAnyH_ready (rs := [7]) (by kernel_rfl) (by simp) ?_
 refine AllReadyH.cons (o := { dst := some 25, op := _, type := _, pos := _, after := _, guard := _ }) rfl (fun K hK => ?_) AllReadyH.nil
 refine step_wanted' rfl ?_
 go_simp
 have H3 := Lib.hid (H2.out.endObj (.cells #[.string ky, .bool true, .slice none 0 0] 109))
 refine hK.out _ _ (by exact UC5.of H3.out) (fun hHeld2 => ?_)
 clear hK K
 try simp only [Act.put, List.setIfInBounds_toArray, List.set_cons_zero, List.set_cons_succ]
 refine wpAnyH_ready (rs := [8]) (by kernel_rfl) (by simp) ?_
 refine AllReadyH.cons (o := { dst := some 26, op := _, type := _, pos := _, after := _, guard := _ }) rfl (fun K hK => ?_) AllReadyH.nil
 refine step_wanted' rfl ?_
 go_simp
 go_at_call 42
 refine (HAPP.out _ _ _ H3.out).mono ?_
 rintro e w4 ⟨rfl, h4⟩
 have H4 := Lib.hid h4
 clear h4
 refine hK.out _ _ (by exact UC5.of H4.out) (fun hHeld3 => ?_)
 clear hK K
 try simp only [Act.put, List.setIfInBounds_toArray, List.set_cons_zero, List.set_cons_succ]
 refine wpAnyH_take (i := 9) (oi := { dst := some 7, op := _, type := _, pos := _, after := _, guard := _ }) (v := .int .i64 c1) rfl (by kernel_rfl) (by kernel_rfl) (by kernel_rfl) (fun _ _ _ h => h) (Or.inl ⟨by rfl, by intro w hSw; (try dsimp only at hSw); go_simp⟩) hHeld3 ?_
 try simp only [Act.put, List.setIfInBounds_toArray, List.set_cons_zero, List.set_cons_succ]
 refine wpAnyH_done (by kernel_rfl) ?_ _
 clear H1 H2 H3 HAPP hHeld hHeld1 hHeld2 hHeld3
 by_cases hc : c1 = 0
 ·subst hc
  have hr1 := HR.out
  rw [if_pos rfl] at hr1
  have HR := Lib.hid hr1
  clear hr1
  obtain ⟨-, -, -, -, k4⟩ := u_cells (H4.out.at (b := u) (o := uObj d st t next mp) (by simp [uRes])).1
  obtain ⟨w5, hdel, h5⟩ := HLV.out _ _ _ H4.out
  have HD := Lib.hid hdel
  have H5 := Lib.hid h5
  clear hdel h5 H4 HLV
  go_upto_region 8 with (at_delete; refine wpList_delete_run rfl _ _ _ _ rfl rfl rfl HD.out ?_)
  clear HD k4
  refine wp_region_held_drew (S := UC5 u d st t next mp) (by kernel_rfl) (by exact UC5.of H5.out.drew) (fun hHeld => ?_)
  have H6 := Lib.hid H5.out.drew
  clear H5
  refine wpAnyH_take (i := 0) (oi := { dst := some 35, op := _, type := _, pos := _, after := _, guard := _ }) (v := .pointer (some ⟨u, 0, none⟩)) rfl (by kernel_rfl) (by kernel_rfl) (by kernel_rfl) (fun _ _ _ h => h) (Or.inl ⟨by rfl, by intro w hSw; (try dsimp only at hSw); go_simp⟩) hHeld ?_
  try simp only [Act.put, List.setIfInBounds_toArray, List.set_cons_zero, List.set_cons_succ]
  refine wpAnyH_take (i := 1) (oi := { dst := some 36, op := _, type := _, pos := _, after := _, guard := _ }) (v := .pointer (some ⟨u, 0, none⟩)) rfl (by kernel_rfl) (by kernel_rfl) (by kernel_rfl) (fun _ _ _ h => h) (Or.inl ⟨by rfl, by intro w hSw; (try dsimp only at hSw); go_simp⟩) hHeld ?_
  try simp only [Act.put, List.setIfInBounds_toArray, List.set_cons_zero, List.set_cons_succ]
  refine wpAnyH_take (i := 2) (oi := { dst := some 37, op := _, type := _, pos := _, after := _, guard := _ }) (v := .pointer (some ⟨u, 0, none⟩)) rfl (by kernel_rfl) (by kernel_rfl) (by kernel_rfl) (fun _ _ _ h => h) (Or.inl ⟨by rfl, by intro w hSw; (try dsimp only at hSw); go_simp⟩) hHeld ?_
  try simp only [Act.put, List.setIfInBounds_toArray, List.set_cons_zero, List.set_cons_succ]
  refine wpAnyH_take (i := 3) (oi := { dst := some 38, op := _, type := _, pos := _, after := _, guard := _ }) (v := .pointer (some ⟨d, 0, none⟩)) rfl (by kernel_rfl) (by kernel_rfl) (by kernel_rfl) (fun _ _ _ h => h) (Or.inl ⟨by rfl, by intro w hSw; (try dsimp only at hSw); (obtain ⟨q0, q1, q2, q3, q4⟩ := hSw; go_simp)⟩) hHeld ?_
  try simp only [Act.put, List.setIfInBounds_toArray, List.set_cons_zero, List.set_cons_succ]
  refine wpAnyH_take (i := 4) (oi := { dst := some 39, op := _, type := _, pos := _, after := _, guard := _ }) (v := .int .i64 x.id) rfl (by kernel_rfl) (by kernel_rfl) (by kernel_rfl) (fun _ _ _ h => h) (Or.inl ⟨by rfl, by intro w hSw; (try dsimp only at hSw); go_simp⟩) hHeld ?_
  try simp only [Act.put, List.setIfInBounds_toArray, List.set_cons_zero, List.set_cons_succ]
  refine wpAnyH_ready (rs := [5]) (by kernel_rfl) (by simp) ?_
  refine AllReadyH.cons (o := { dst := some 40, op := _, type := _, pos := _, after := _, guard := _ }) rfl (fun K hK => ?_) AllReadyH.nil
  refine step_wanted' rfl ?_
  go_simp
  go_at_call 23
  refine (HKEY.out _).mono ?_
  rintro e w7 ⟨rfl, hk7⟩
  have H7 := Lib.hid (H6.out.quiet hk7)
  clear hk7
  refine hK.out _ _ (by exact UC5.of H7.out) (fun hHeld1 => ?_)
  clear hK K
  try simp only [Act.put, List.setIfInBounds_toArray, List.set_cons_zero, List.set_cons_succ]
  refine wpAnyH_ready (rs := [6]) (by kernel_rfl) (by simp) ?_
  refine AllReadyH.cons (o := { dst := some 41, op := _, type := _, pos := _, after := _, guard := _ }) rfl (fun K hK => ?_) AllReadyH.nil
  refine step_wanted' rfl ?_
  go_simp
  go_at_call 45
  obtain ⟨w8, hrn, h8⟩ := HREM.out _ _ H7.out
  refine hrn.out.mono ?_
  rintro e w' ⟨rfl, rfl⟩
  have H8 := Lib.hid h8
  clear h8 hrn
  refine hK.out _ _ (by exact UC5.of H8.out) (fun hHeld2 => ?_)
  clear hK K
  try simp only [Act.put, List.setIfInBounds_toArray, List.set_cons_zero, List.set_cons_succ]
  refine wpAnyH_take (i := 7) (oi := { dst := some 8, op := _, type := _, pos := _, after := _, guard := _ }) (v := .int .i64 c2) rfl (by kernel_rfl) (by kernel_rfl) (by kernel_rfl) (fun _ _ _ h => h) (Or.inl ⟨by rfl, by intro w hSw; (try dsimp only at hSw); go_simp⟩) hHeld2 ?_
  try simp only [Act.put, List.setIfInBounds_toArray, List.set_cons_zero, List.set_cons_succ]
  refine wpAnyH_done (by kernel_rfl) ?_ _
  clear H6 H7 HREM hHeld hHeld1 hHeld2
  by_cases hc : c2 = 0
  ·subst hc
   have hr1 := HR.out
   rw [if_pos rfl] at hr1
   subst hr1
   obtain ⟨k0, -, -, -, -⟩ := u_cells (H8.out.at (b := u) (o := uObj d st t next mp) (by simp [uRes])).1
   have HSY := Lib.hid (HSYN.out _ _ H8.out)
   clear HR HSYN H8
   go_wp2_with fail
   refine HSY.out.mono ?_
   rintro e w9 ⟨rfl, h9⟩
   have H9 := Lib.hid h9
   clear h9 HSY k0
   go_wp2_with fail
   go_ret
   exact ⟨rfl, by simpa using H9.out⟩
  ·have hr1 := HR.out
   rw [if_neg hc] at hr1
   subst hr1
   have b1 : (c2 != 0) = true := by simpa using hc
   clear HR hc HSYN
   go_wp2_with fail
   go_ret
   exact ⟨rfl, by simpa using H8.out⟩
 ·have hr1 := HR.out
  rw [if_neg hc] at hr1
  subst hr1
  have b1 : (c1 != 0) = true := by simpa using hc
  clear HR hc HSYN HREM HLV
  go_wp2_with fail
  go_ret
  exact ⟨rfl, by simpa using H4.out⟩
end
end Go.Proofs.YtlcnhpjggjgnpaaGreatDoor
namespace Go.Proofs.YtlcnhpjggjgnpaaGreatDoor
set_option linter.unusedVariables false
set_option linter.unusedSimpArgs false
open Go.RowKit Go.MapKept
def UHold (w : World) (d j t b u st mp : Nat) (M : List (Res w.heap.size)) (P : TM → Prop) (c : Nat) (hv : List Kp) (W : World) : Prop :=
 ∃ (T : TM) (L : UL) (nx : Nat), LSt hv T (L.map (·.1)) nx c ∧ P T ∧ Own w W (tRes w.heap.size d j t b nmT T ++ (uRes w.heap.size d u st t mp (nx : Int) L ++ M))
abbrev anyT : TM → Prop := fun _ => True
section
variable {w W : World} {d j t b u st mp : Nat} {M : List (Res w.heap.size)} {P : TM → Prop} {c : Nat} {hv : List Kp}
theorem UHold.keep {W' : World} (h : UHold w d j t b u st mp M P c hv W) (hk : Keeps (fun _ => False) W W') : UHold w d j t b u st mp M P c hv W' := by
 obtain ⟨T, L, nx, h1, h2, h3⟩ := h
 exact ⟨T, L, nx, h1, h2, h3.quiet hk⟩
theorem UHold.keeps (h : UHold w d j t b u st mp M P c hv W) : Keeps (fun _ => False) w W := by
 obtain ⟨T, L, nx, h1, h2, h3⟩ := h
 exact h3.keeps
theorem LSt.nums {T : TM} {L : List Ses} {nx : Nat} (h : LSt hv T L nx c) (hc : c < 60) : Good T.m (500000000 + 10 * c) ∧ T.size ≤ 200000 ∧ 1 ≤ nx ∧ nx ≤ 61 := by
 have h1 := h.size
 have h2 := h.nxc
 have hB : BB c ≤ 183000 := by unfold BB; omega
 exact ⟨h.tidy.good, by omega, h.nx1, by omega⟩
theorem UHold.start (h : UHold w d j t b u st mp M P c hv W) (hc : c < 60) (hgl : GLen W) :
  Calls Tryz.prog 9 #[.pointer (some ⟨u, 0, none⟩), .string abR, .int .i64 5] W (fun e w' => ∃ (id cd : Int) (hv' : List Kp), e = .returned (.tuple #[.int .i64 id, .int .i64 cd]) ∧ UHold w d j t b u st mp M anyT (c + 1) hv' w' ∧
   ((cd = 0 ∧ ∃ n : Nat, id = (n : Int) ∧ hv' = hv ++ [⟨n, [], [], false⟩]) ∨ (cd = 5 ∧ hv' = hv))) := by
 obtain ⟨T, L, nx, h1, -, h3⟩ := h
 obtain ⟨hg, hs, hn1, hn2⟩ := h1.nums hc
 have hcall := ustart_calls h3 hgl hg (by omega) (by omega) ⟨hn1, by omega⟩ (fun x hx => by
  obtain ⟨id, a1, a2, a3, -⟩ := h1.each x.1 (List.mem_map_of_mem hx)
  omega) abR 5 ⟨by omega, by omega⟩
 rcases h1.start hc with ⟨T2, e, h4⟩ | ⟨T2, e, h4⟩
 ·rw [e] at hcall
  refine hcall.mono ?_
  rintro e w' ⟨rfl, hh⟩
  rcases hh with ⟨-, sp, q, hh⟩ | ⟨hn, -⟩
  ·exact ⟨_, _, _, rfl, ⟨T2, _, nx + 1, by rw [List.map_append]; exact h4, trivial, hh⟩, .inl ⟨rfl, nx, rfl, rfl⟩⟩
  ·exact absurd rfl hn
 ·rw [e] at hcall
  refine hcall.mono ?_
  rintro e w' ⟨rfl, hh⟩
  rcases hh with ⟨hn, -⟩ | ⟨-, hh⟩
  ·exact absurd (show (5 : Int) = 0 from hn) (by omega)
  ·exact ⟨_, _, _, rfl, ⟨T2, L, nx, h4, trivial, hh⟩, .inr ⟨rfl, rfl⟩⟩
theorem LSt.split {T : TM} {L : UL} {nx : Nat} (h : LSt hv T (L.map (·.1)) nx c) (hc : c < 60) {k : Kp} (hk : k ∈ hv) :
  (uget L (k.id : Int) = none ∧ k.ends = true) ∨ ∃ (x : Ses) (sp q : Nat) (L1 L2 : UL), L = L1 ++ (x, sp, q) :: L2 ∧ x.id = (k.id : Int) ∧ uget (L1 ++ (x, sp, q) :: L2) x.id = some (x, sp, q) ∧ (∀ y ∈ L1 ++ L2, y.1.id ≠ x.id) ∧ L.map (·.1) = L1.map (·.1) ++ x :: L2.map (·.1) ∧ k.id ≤ 61 ∧ x.b.length ≤ 200000 ∧ x.repo = abR ∧ x.til = 5 := by
 cases hu : uget L (k.id : Int) with
 | none =>
  refine .inl ⟨rfl, h.ended hk (fun x hx => ?_)⟩
  obtain ⟨y, hy, rfl⟩ := List.mem_map.1 hx
  have := List.find?_eq_none.1 hu y hy
  simpa using this
 | some z =>
  obtain ⟨e, L1, L2, hL⟩ := uget_split hu
  obtain ⟨x, sp, q⟩ := z
  dsimp only at e
  have hmap : L.map (·.1) = L1.map (·.1) ++ x :: L2.map (·.1) := by rw [hL]; simp
  have ho := (hmap ▸ h : LSt hv T (L1.map (·.1) ++ x :: L2.map (·.1)) nx c).other
  obtain ⟨id, a1, a2, a3, a4, a5, a6⟩ := h.each x (by rw [hmap]; simp)
  have hB : BB c ≤ 183000 := by unfold BB; omega
  refine .inr ⟨x, sp, q, L1, L2, hL, e, by rw [← hL, e]; exact hu, fun y hy => ho.1 y.1 ?_, hmap, by have := h.nxc; omega, by omega, a4, a5⟩
  rw [← List.map_append]
  exact List.mem_map_of_mem hy
theorem UHold.patch (h : UHold w d j t b u st mp M P c hv W) (hc : c < 60) {at_ : Nat} {k : Kp} (hk : hv[at_]? = some k) {pv : Value} {p : List UInt8} (hp : p.length ≤ 2000) (hr : Reads w pv p) :
  Calls Tryz.prog 10 #[.pointer (some ⟨u, 0, none⟩), .int .i64 (k.id : Int), .int .i64 (k.sure.length : Int), pv] W (fun e w' => ∃ (cd : Int) (hv' : List Kp), e = .returned (.int .i64 cd) ∧ UHold w d j t b u st mp M anyT (c + 1) hv' w' ∧
   ((cd = 0 ∧ hv' = hv.set at_ ⟨k.id, k.sure ++ p, [], k.ends⟩) ∨ (cd = 5 ∧ hv' = hv.set at_ ⟨k.id, k.sure, if k.may = [] then p else k.may, k.ends⟩) ∨ (cd = 6 ∧ k.ends = true ∧ hv' = hv))) := by
 obtain ⟨T, L, nx, h1, -, h3⟩ := h
 obtain ⟨hg, hs, hn1, hn2⟩ := h1.nums hc
 rcases h1.split hc (List.mem_of_getElem? hk) with ⟨hu, he⟩ | ⟨x, sp, q, L1, L2, rfl, hid, hf, hnd, hmap, b1, b2, b3, b4⟩
 ·refine Calls.mono (upatch_gone h3 hu _ pv).out ?_
  rintro e w' ⟨rfl, rfl⟩
  exact ⟨6, hv, rfl, ⟨T, L, nx, h1.next, trivial, h3⟩, .inr (.inr ⟨rfl, he, rfl⟩)⟩
 ·rw [hmap] at h1
  have hq := (h3.stat (q := q) (l := x.b) (by simp [uRes, liveRes_append, liveRes])).2
  have hcall := upatch_calls h3 hf hg (by omega) hid (by omega) (by omega) (k.sure.length : Int) (pv := pv) (p := p) (by omega) (fun W' M' hW => hr.keep hW.keeps) (fun z n c' e hne hb => by
   subst e
   have hpos : 0 < p.length := List.length_pos_iff.2 hne
   obtain ⟨y', e', hcl⟩ := hr.cell (k := 0) rfl hpos
   cases e'
   have := World.block_lt_of_cell? w _ hcl
   have h5 : (z.add 0).block = z.block := by simp [Addr.add]
   omega)
  rw [← hid]
  obtain ⟨hb, h4⟩ := h1.patch hc hk hid hp
  rcases h4 with ⟨T2, e, h4⟩ | ⟨T2, e, h4⟩
  ·rw [e] at hcall
   refine hcall.mono ?_
   rintro e w' ⟨rfl, hh⟩
   exact ⟨0, _, rfl, ⟨T2, _, nx, by simpa using h4, trivial, hh⟩, .inl ⟨rfl, rfl⟩⟩
  ·rw [e] at hcall
   refine hcall.mono ?_
   rintro e w' ⟨rfl, hh⟩
   exact ⟨5, _, rfl, ⟨T2, _, nx, by simpa using h4, trivial, hh⟩, .inr (.inl ⟨rfl, rfl⟩)⟩
theorem UHold.cancel (h : UHold w d j t b u st mp M P c hv W) (hc : c < 60) {at_ : Nat} {k : Kp} (hk : hv[at_]? = some k) :
  Calls Tryz.prog 21 #[.pointer (some ⟨u, 0, none⟩), .int .i64 (k.id : Int)] W (fun e w' => ∃ (cd : Int) (hv' : List Kp), e = .returned (.int .i64 cd) ∧ UHold w d j t b u st mp M anyT (c + 1) hv' w' ∧
   ((cd = 0 ∧ hv' = hv.eraseIdx at_) ∨ (cd = 5 ∧ hv' = hv.set at_ ⟨k.id, k.sure, k.may, true⟩) ∨ (cd = 6 ∧ k.ends = true ∧ hv' = hv))) := by
 obtain ⟨T, L, nx, h1, -, h3⟩ := h
 obtain ⟨hg, hs, hn1, hn2⟩ := h1.nums hc
 rcases h1.split hc (List.mem_of_getElem? hk) with ⟨hu, he⟩ | ⟨x, sp, q, L1, L2, rfl, hid, hf, hnd, hmap, b1, b2, b3, b4⟩
 ·refine Calls.mono (ucancel_gone h3 hu).out ?_
  rintro e w' ⟨rfl, rfl⟩
  exact ⟨6, hv, rfl, ⟨T, L, nx, h1.next, trivial, h3⟩, .inr (.inr ⟨rfl, he, rfl⟩)⟩
 ·rw [hmap] at h1
  have hcall := ucancel_calls h3 hf hnd hg (by omega) (by omega) hid (by omega)
  rw [← hid]
  rcases h1.cancel hc hk hid with ⟨T2, e, h4⟩ | ⟨T2, gone, e, h4⟩
  ·rw [e] at hcall
   refine hcall.mono ?_
   rintro e w' ⟨rfl, hh⟩
   exact ⟨0, _, rfl, ⟨T2, L1 ++ L2, nx, by simpa using h4, trivial, by simpa using hh⟩, .inl ⟨rfl, rfl⟩⟩
  ·rw [e] at hcall
   refine hcall.mono ?_
   rintro e w' ⟨rfl, hh⟩
   refine ⟨5, _, rfl, ⟨T2, _, nx, ?_, trivial, hh⟩, .inr (.inl ⟨rfl, rfl⟩)⟩
   cases gone <;> simpa using h4
theorem UHold.finish (h : UHold w d j t b u st mp M P c hv W) (hc : c < 60) {at_ : Nat} {k : Kp} (hk : hv[at_]? = some k) :
  Calls Tryz.prog 12 #[.pointer (some ⟨u, 0, none⟩), .int .i64 (k.id : Int), .agg ((sumOf k.sure).map u8v).toArray, .slice none 0 0] W (fun e w' => ∃ (cd : Int) (hv' : List Kp), e = .returned (.int .i64 cd) ∧
   ((cd = 0 ∧ hv' = hv.eraseIdx at_ ∧ UHold w d j t b u st mp M (fun T => wholeOf T.m (sumOf k.sure) = true) (c + 1) hv' w') ∨ (¬ cd = 0 ∧ UHold w d j t b u st mp M anyT (c + 1) hv' w' ∧ ((cd = 5 ∧ hv' = hv.set at_ ⟨k.id, k.sure, k.may, true⟩) ∨ (cd = 6 ∧ k.ends = true ∧ hv' = hv))))) := by
 obtain ⟨T, L, nx, h1, -, h3⟩ := h
 obtain ⟨hg, hs, hn1, hn2⟩ := h1.nums hc
 rcases h1.split hc (List.mem_of_getElem? hk) with ⟨hu, he⟩ | ⟨x, sp, q, L1, L2, rfl, hid, hf, hnd, hmap, b1, b2, b3, b4⟩
 ·refine Calls.mono (ufinish_gone h3 hu _ _) ?_
  rintro e w' ⟨rfl, hk⟩
  exact ⟨6, hv, rfl, .inr ⟨by omega, ⟨T, L, nx, h1.next, trivial, h3.quiet hk⟩, .inr ⟨rfl, he, rfl⟩⟩⟩
 ·rw [hmap] at h1
  have hcall := ufinish_calls h3 hf hnd hg (by omega) (by omega) hid (by omega) (by omega) (by rw [b4]; omega) (by rw [b3]; decide) (dg := sumOf k.sure) (sumOf_length _)
  rw [← hid]
  rcases h1.finish hc hk hid with ⟨T2, e, hw, h4⟩ | ⟨T2, gone, e, h4⟩
  ·rw [e] at hcall
   refine hcall.mono ?_
   rintro e w' ⟨rfl, hh⟩
   exact ⟨0, _, rfl, .inl ⟨rfl, rfl, ⟨T2, L1 ++ L2, nx, by simpa using h4, hw, by simpa using hh⟩⟩⟩
  ·rw [e] at hcall
   refine hcall.mono ?_
   rintro e w' ⟨rfl, hh⟩
   refine ⟨5, _, rfl, .inr ⟨by omega, ⟨T2, _, nx, ?_, trivial, hh⟩, .inl ⟨rfl, rfl⟩⟩⟩
   cases gone <;> simpa using h4
end
theorem Own.fuseU {w wr : World} {d : Nat} {m : DM} {rs : List (Res w.heap.size)} (h : Own w wr (rDisk w.heap.size d m :: rs)) (n : Int) :
  ∃ w', Runs 29 #[.pointer (some ⟨d, 0, none⟩), .int .i64 n] wr (.int .i64 (fuseOf m n).1) w' ∧ Own w w' (rDisk w.heap.size d (fuseOf m n).2 :: rs) := by
 obtain ⟨F, h1, back⟩ := h.disk
 obtain ⟨w', hr, h2, k⟩ := fuse_runs h1 n
 exact ⟨w', hr, (back _ (.returned (.int .i64 (fuseOf m n).1)) w' ⟨rfl, h2, k⟩).2⟩
section
variable {w W : World} {d j t b u st mp : Nat} {M : List (Res w.heap.size)} {P : TM → Prop} {c : Nat} {hv : List Kp}
theorem UHold.whole {dg : List UInt8} (h : UHold w d j t b u st mp M (fun T => wholeOf T.m dg = true) c hv W) (hc : c < 60) (hl : dg.length = 32) :
  Calls Tryz.prog 28 #[.pointer (some ⟨st, 0, none⟩), .agg (dg.map u8v).toArray] W (QuietP W (.bool true)) := by
 obtain ⟨T, L, nx, h1, h2, h3⟩ := h
 have := bwhole_calls (m := T.m) (st := st) h3 (by simp [uRes, stObj1]) h1.tidy.good hl
 rw [h2] at this
 exact this
theorem UHold.fuse (h : UHold w d j t b u st mp M P c hv W) (k : Int) (hk : k ≤ 9223372036854775807) :
  ∃ (w' : World) (v : Int), Runs 29 #[.pointer (some ⟨d, 0, none⟩), .int .i64 k] W (.int .i64 v) w' ∧ UHold w d j t b u st mp M anyT c hv w' := by
 obtain ⟨T, L, nx, h1, -, h3⟩ := h
 obtain ⟨w', hr, h4⟩ := Own.fuseU h3 k
 exact ⟨w', _, hr, { T with m := (fuseOf T.m k).2 }, L, nx, h1.fuse k hk, trivial, h4⟩
def UCr (w : World) (d : Nat) (M : List (Res w.heap.size)) (c : Nat) (hv : List Kp) (W : World) : Prop := ∃ m : DM, CrSt hv m c ∧ Own w W (rDisk w.heap.size d m :: M)
def UCf (w : World) (d : Nat) (M : List (Res w.heap.size)) (c : Nat) (hv : List Kp) (W : World) : Prop := ∃ (m : DM) (E : List UE) (nx : Nat), Tidy m 0 (NN c + 2) ∧ OpCond m E nx ∧ Tidy (o13Of m E).2.1 500000000 1000000000 ∧ (∀ keep part : Int, CrSt hv (crashOf (o13Of m E).2.1 keep part) c) ∧ Own w W (rDisk w.heap.size d m :: M)
def UCo (w : World) (d : Nat) (M : List (Res w.heap.size)) (c : Nat) (hv : List Kp) (W : World) : Prop := ∃ m : DM, Tidy m 500000000 1000000000 ∧ (∀ keep part : Int, CrSt hv (crashOf m keep part) c) ∧ Own w W (rDisk w.heap.size d m :: M)
theorem UHold.crash (h : UHold w d j t b u st mp M P c hv W) (keep part : Int) :
  Calls Tryz.prog 30 #[.pointer (some ⟨d, 0, none⟩), .int .i64 keep, .int .i64 part] W (fun e w' => e = .returned (.int .i64 0) ∧ UCr w d M c hv w') := by
 obtain ⟨T, L, nx, h1, -, h3⟩ := h
 have h4 : Own w W (rDisk w.heap.size d T.m :: M) := by
  have h5 : Own w W (rDisk w.heap.size d T.m :: (([rObj w.heap.size j (jrnObj d nmT T.size), rObj w.heap.size t (tabObj j b T.down), rMap w.heap.size b T.fs] ++ uRes w.heap.size d u st t mp (nx : Int) L) ++ M)) := by
   rw [List.append_assoc]; exact h3
  exact h5.dropAll
 refine (Own.crash h4 keep part h1.tidy.good.fits).mono ?_
 rintro e w' ⟨rfl, h'⟩
 exact ⟨rfl, _, h1.crash keep part, h'⟩
theorem UCr.fuse (h : UCr w d M c hv W) (hc : c < 60) (k : Int) (hk : k ≤ 9223372036854775807) :
  ∃ (w' : World) (v : Int), Runs 29 #[.pointer (some ⟨d, 0, none⟩), .int .i64 k] W (.int .i64 v) w' ∧ UCf w d M c hv w' := by
 obtain ⟨m, h1, h2⟩ := h
 obtain ⟨w', hr, h4⟩ := Own.fuseU h2 k
 obtain ⟨a1, E, nx, a2, a3, a4⟩ := h1.again hc k hk
 exact ⟨w', _, hr, (fuseOf m k).2, E, nx, a1, a2, a3, a4, h4⟩
theorem o13_disk {m : DM} {E : List UE} {T : TM} {S : List Ses} (h : (o13Of m E).2.2 = some (T, S)) : (o13Of m E).2.1 = T.m := by
 unfold o13Of at h ⊢
 split at h
 ·rename_i h1
  rw [if_pos h1]
  split at h
  ·cases h
  ·split at h
   ·rename_i h2 h3
    simp only [h2, h3, if_true]
    dsimp only at h
    have := Option.some.inj h
    show (uOpenOf _ nmT E).2.1.m = T.m
    rw [this]
   ·cases h
 ·cases h
theorem UCf.opened (h : UCf w d M c hv W) (hc : c < 60) (hgl : GLen w) :
  Calls Tryz.prog 31 #[.pointer (some ⟨d, 0, none⟩)] W (fun e w' => (∃ (v : Option Addr) (cd : Int), e = .returned (.tuple #[.pointer v, .int .i64 cd])) ∧ UCo w d M c hv w') := by
 obtain ⟨m, E, nx, a1, a2, a3, a4, h2⟩ := h
 refine (opened13_calls h2 hgl a1 (by omega) (E := E) (nx := nx) a2).mono ?_
 rintro e w' hp
 rcases hp with ⟨-, -, rfl, hO⟩ | ⟨T, S, y, st, j, t, b, u, mp, L, hr, -, rfl, -, hO⟩
 ·exact ⟨⟨_, _, rfl⟩, _, a3, a4, hO⟩
 ·rw [o13_disk hr] at a3 a4
  refine ⟨⟨_, _, rfl⟩, _, a3, a4, ?_⟩
  have h5 : Own w w' (rDisk w.heap.size d T.m :: (([rObj w.heap.size j (jrnObj d nmT T.size), rObj w.heap.size t (tabObj j b T.down), rMap w.heap.size b T.fs] ++ uRes w.heap.size d u st t mp (nx : Int) L) ++ (rObj w.heap.size y (yObj d st t u) :: M))) := by
   rw [List.append_assoc]; exact hO
  exact h5.dropAll.drop2
theorem UCo.crash (h : UCo w d M c hv W) (keep part : Int) :
  Calls Tryz.prog 30 #[.pointer (some ⟨d, 0, none⟩), .int .i64 keep, .int .i64 part] W (fun e w' => e = .returned (.int .i64 0) ∧ UCr w d M c hv w') := by
 obtain ⟨m, a3, a4, h2⟩ := h
 refine (Own.crash h2 keep part a3.good.fits).mono ?_
 rintro e w' ⟨rfl, h'⟩
 exact ⟨rfl, _, a4 keep part, h'⟩
theorem UCr.opened (h : UCr w d M c hv W) (hc : c < 60) (hgl : GLen w) :
  Calls Tryz.prog 31 #[.pointer (some ⟨d, 0, none⟩)] W (fun e w' => ∃ (y st j t b u mp nx : Nat) (T : TM) (L : UL), e = .returned (.tuple #[.pointer (some ⟨y, 0, none⟩), .int .i64 0]) ∧ LSt (foundOf hv (L.map (·.1))) T (L.map (·.1)) nx c ∧ FoundOk hv (L.map (·.1)) T.m ∧
   Own w w' (tRes w.heap.size d j t b nmT T ++ (uRes w.heap.size d u st t mp (nx : Int) L ++ (rObj w.heap.size y (yObj d st t u) :: M)))) := by
 obtain ⟨m, h1, h2⟩ := h
 obtain ⟨E, nx, T, S, a1, a2, a3, a4⟩ := h1.opened hc
 refine (opened13_calls h2 hgl h1.tidy (by omega) (E := E) (nx := nx) a1).mono ?_
 rintro e w' hp
 rw [a2] at hp
 rcases hp with ⟨hn, -⟩ | ⟨T', S', y, st, j, t, b, u, mp, L, hr, -, rfl, rfl, hO⟩
 ·cases hn
 ·cases hr
  exact ⟨y, st, j, t, b, u, mp, nx, T, L, rfl, a3, a4, hO⟩
end
def abcL : List UInt8 := [97, 98, 99]
def abcO : Obj := .cells #[.int .u8 97, .int .u8 98, .int .u8 99] 5 (3, 4)
theorem abc_reads {W : World} {g : Nat} (h : W.heap[g]? = some abcO) : Reads W (.slice (some ⟨g, 0, none⟩) 3 3) abcL := by
 refine .inr ⟨⟨g, 0, none⟩, 3, rfl, Nat.le_refl _, by simp [maxLen], fun k v hv => ?_⟩
 rw [Addr.add_lit, Nat.zero_add]
 match k, hv with
 | 0, hv => cases hv; exact cell_at h rfl
 | 1, hv => cases hv; exact cell_at h rfl
 | 2, hv => cases hv; exact cell_at h rfl
 | k + 3, hv => simp [abcL] at hv
def aB : ByteArray := ⟨#[97]⟩
theorem aB_repo : isRepo aB = true := by decide +kernel
theorem first_start {R : Int} (hR : 400 ≤ R) {repo : ByteArray} (hrep : isRepo repo = true) {til : Int} (htil : 0 ≤ til ∧ til ≤ 1099511627776) :
  ∃ T1 F1 b1, startOf ⟨oneT R [], 0, [], false⟩ nmT 1 repo til = (((1 : Nat) : Int), 0, T1) ∧ CT T1 R F1 b1 ∧ fget F1 (ukeyOf 1) = some [] ∧ used F1 ≤ 250 ∧ (∀ k, k ≠ nmT → k ≠ ukeyOf 1 → fget F1 k = none) ∧ T1.size ≤ 1048576 := by
 have ct0 : CT ⟨oneT R [], 0, [], false⟩ R [(nmT, [])] [] := ⟨CM.oneT R, by simp [fget], rfl⟩
 have n1 : ukeyOf 1 ≠ nmT := ne_of_size (by rw [ukeyOf_size]; decide)
 have nd0 : FNodup [(nmT, ([] : List UInt8))] := by simp [FNodup]
 have hno : fget [(nmT, ([] : List UInt8))] (ukeyOf 1) = none := by simp [fget, Ne.symm n1]
 obtain ⟨T1, b1, hs, hct, hb, -⟩ := start_calm ct0 (nx := 1) ⟨by omega, by omega⟩ hrep htil hno (by decide) (by simp [used]; omega)
 have hsz := start_size ⟨oneT R [], 0, [], false⟩ nmT 1 repo til
 rw [hs] at hsz
 have u0 := used_fput nd0 (ukeyOf 1) []
 have u1 := used_fput (nd0.fput (ukeyOf 1) []) nmT b1
 rw [hno] at u0
 refine ⟨T1, _, b1, hs, hct, ?_, ?_, fun k h1 h2 => ?_, by simpa using hsz⟩
 ·rw [fget_fput_other (nd0.fput _ _) _ _ _ (Ne.symm n1)]
  exact fget_fput_same nd0 _ _
 ·simp [used] at u0 hb
  omega
 ·rw [fget_fput_other (nd0.fput _ _) _ _ _ (Ne.symm h1), fget_fput_other nd0 _ _ _ (Ne.symm h2)]
  simp [fget, Ne.symm h1]
def UAw (y st u bd : Nat) (cl : List Value) (W : World) : Prop :=
 (W.cell? ⟨y, 1, none⟩ = some (.pointer (some ⟨st, 0, none⟩)) ∧ W.cell? ⟨y, 3, none⟩ = some (.pointer (some ⟨u, 0, none⟩))) ∧ W.rangeAt bd 0 cl
theorem UAw.of {w W : World} {y d st t u bd : Nat} {cl : List Value} {M : List (Res w.heap.size)} (h : Own w W M) (hy : rObj w.heap.size y (yObj d st t u) ∈ M) (hm : rObj w.heap.size bd (.cells cl.toArray 39) ∈ M) : UAw y st u bd cl W := by
 obtain ⟨-, k1, -, k3⟩ := y_cells (h.at (b := y) (o := yObj d st t u) hy).1
 refine ⟨⟨k1, k3⟩, fun k v hv => ?_⟩
 rw [Nat.zero_add]
 exact cell_at (h.at (b := bd) (o := .cells cl.toArray 39) hm).1 (by rw [List.getElem?_toArray]; exact hv)
set_option maxRecDepth 100000 in
set_option maxHeartbeats 1000000 in
theorem awake13_calls (w0 : World) (hgl : GLen w0) : Calls Tryz.prog 8 #[] w0 (QuietP w0 (.bool true)) := by
 have HY := Lib.hid (yard13_calls (R := 1000) (by omega) (by omega) (Own.start w0))
 obtain ⟨T1, F1, b1, hs1, ct1, hk1, hu1, ho1, hz1⟩ := first_start (R := 1000) (by omega) aB_repo (til := 9) ⟨by omega, by omega⟩
 have hg0 : Good (oneT 1000 []) 0 := oneT_good (by simp) (by omega)
 have hg1 : Good T1.m 3 := by
  have := start_good (T := ⟨oneT 1000 [], 0, [], false⟩) hg0 nmT 1 aB 9
  rw [hs1] at this; exact this
 obtain ⟨T2, hp2, ct2, -⟩ := patch_calm ct1 (nx := 1) (x := ⟨1, aB, 9, []⟩) hk1 (p := abcL) (by decide) (by have : abcL.length = 3 := rfl; omega)
 have hg2 : Good T2.m 4 := by
  have := patch_good (T := T1) hg1 (ukeyOf 1) ⟨1, aB, 9, []⟩ 0 abcL
  rw [show ((0 : Int)) = (([] : List UInt8).length : Int) from rfl, hp2] at this; exact this
 have hz2 : T2.size ≤ 1048576 := by
  have := patch_size T1 (ukeyOf 1) ⟨1, aB, 9, []⟩ 0 abcL
  rw [show ((0 : Int)) = (([] : List UInt8).length : Int) from rfl, hp2] at this
  dsimp only at this
  omega
 have HGL := Lib.hid hgl
 have HS1 := Lib.hid hs1
 have HP2 := Lib.hid hp2
 have HG := Lib.hid (And.intro hg0 (And.intro hg1 hg2))
 have HZ := Lib.hid (And.intro hz1 hz2)
 have HC := Lib.hid (And.intro ct1 ct2)
 have HF := Lib.hid (And.intro hk1 (And.intro hu1 ho1))
 clear hgl hs1 ct1 hk1 hu1 ho1 hz1 hg0 hg1 hp2 ct2 hg2 hz2
 go_enter Tryz.func8, Tryz.ntmps8
 go_wp2_with fail
 refine HY.out.mono ?_
 rintro e w1 ⟨y, d, st, j, t, b, u, mp, rfl, h1⟩
 obtain ⟨-, -, -, k3⟩ := y_cells (h1.at (b := y) (o := yObj d st t u) (by simp)).1
 have hst := ustart_calls (nx := 1) (L := []) h1 (HGL.out.keep h1.keeps) HG.out.1 (by omega) (by decide) ⟨by omega, by omega⟩ (by simp) aB 9 ⟨by omega, by omega⟩
 rw [HS1.out] at hst
 have hst2 : Calls Tryz.prog 9 #[.pointer (some ⟨u, 0, none⟩), .string ⟨#[97]⟩, .int .i64 9] w1 (fun e w' => e = .returned (.tuple #[.int .i64 1, .int .i64 0]) ∧ ∃ sp q, Own w0 w' (tRes w0.heap.size d j t b nmT T1 ++ (uRes w0.heap.size d u st t mp ((1 + 1 : Nat) : Int) ([] ++ [(⟨((1 : Nat) : Int), aB, 9, []⟩, sp, q)]) ++ [rObj w0.heap.size y (yObj d st t u)]))) := hst.mono (by
  rintro e w' ⟨he, hh⟩
  refine ⟨by simpa using he, ?_⟩
  rcases hh with ⟨-, sp, q, hh⟩ | ⟨hn, -⟩
  ·exact ⟨sp, q, hh⟩
  ·exact absurd rfl hn)
 have HST := Lib.hid hst2
 clear hst hst2 h1 HY
 go_wp2_with fail
 refine HST.out.mono ?_
 rintro e w2 ⟨rfl, sp, q, h2⟩
 have H2 := Lib.hid h2
 clear k3
 obtain ⟨-, -, -, k3⟩ := y_cells (h2.at (b := y) (o := yObj d st t u) (by simp)).1
 have hcv : (convert 22 22 (.slice (some ⟨w2.heap.size, 0, none⟩) 3 3)).run Tryz.prog (w2.alloc (.cells #[.int .u8 97, .int .u8 98, .int .u8 99] 5)) = .ok (.slice (some ⟨w2.heap.size, 0, none⟩) 3 3) (w2.alloc abcO) := Lib.run_convert_bytes_const (P := Tryz.prog) w2 22 5 #[.int .u8 97, .int .u8 98, .int .u8 99] 3 3 Tryz.underlying22 Tryz.underlying5
 have h3 := h2.endObj abcO
 obtain ⟨tl, hq2, -, -⟩ := (h2.stat (q := q) (l := []) (by simp [uRes, liveRes])).1
 have hlt := lt_of_heap hq2
 have hpa := upatch_calls (L1 := []) (L2 := []) (next := ((1 + 1 : Nat) : Int)) (x := ⟨((1 : Nat) : Int), aB, 9, []⟩) (sp := sp) (q := q) h3 (by simp [uget]) HG.out.2.1 (by omega) (nx := 1) rfl (by omega) (by simp) 0 (pv := .slice (some ⟨w2.heap.size, 0, none⟩) 3 3) (p := abcL) (by decide)
  (fun W M hW => abc_reads (hW.at (b := w2.heap.size) (o := abcO) (by simp)).1) (fun a n c e _ hh => by cases e; dsimp only at hh; omega)
 have hp2' : patchOf T1 (ukeyOf 1) ⟨((1 : Nat) : Int), aB, 9, []⟩ 0 abcL = (0, T2, ⟨((1 : Nat) : Int), aB, 9, abcL⟩) := HP2.out
 rw [hp2'] at hpa
 have hpa2 : Calls Tryz.prog 10 #[.pointer (some ⟨u, 0, none⟩), .int .i64 1, .int .i64 0, .slice (some ⟨w2.heap.size, 0, none⟩) 3 3] (w2.alloc abcO) (fun e w' => e = .returned (.int .i64 0) ∧ Own w0 w' (tRes w0.heap.size d j t b nmT T2 ++ (uRes w0.heap.size d u st t mp ((1 + 1 : Nat) : Int) ([] ++ (⟨((1 : Nat) : Int), aB, 9, abcL⟩, sp, q) :: []) ++ (rObj w0.heap.size w2.heap.size abcO :: [rObj w0.heap.size y (yObj d st t u)])))) := hpa.mono (fun e w' hh => hh)
 have HPA := Lib.hid hpa2
 have k3' : (w2.alloc abcO).cell? ⟨y, 3, none⟩ = some (.pointer (some ⟨u, 0, none⟩)) := (y_cells (h3.at (b := y) (o := yObj d st t u) (by simp)).1).2.2.2
 clear h2 h3 HST hq2 hpa hpa2 hlt hp2'
 go_wp2_with fail
 refine HPA.out.mono ?_
 rintro e w3 ⟨rfl, h3⟩
 clear hcv k3 k3'
 obtain ⟨-, -, -, k3⟩ := y_cells (h3.at (b := y) (o := yObj d st t u) (by simp)).1
 have hpb := upatch_calls (L1 := []) (L2 := []) (next := ((1 + 1 : Nat) : Int)) (x := ⟨((1 : Nat) : Int), aB, 9, abcL⟩) (sp := sp) (q := q) h3 (by simp [uget]) HG.out.2.2 (by omega) (nx := 1) rfl (by omega) (by decide) 0 (pv := .slice none 0 0) (p := []) (by decide) (fun W M hW => reads_nil W) (fun a n c e _ hh => by cases e)
 have hp3 : patchOf T2 (ukeyOf 1) ⟨((1 : Nat) : Int), aB, 9, abcL⟩ 0 [] = (130, T2, ⟨((1 : Nat) : Int), aB, 9, abcL⟩) := by
  unfold patchOf
  rw [if_neg (by show ¬ (0 : Int) = ((abcL.length : Nat) : Int); decide)]
 rw [hp3] at hpb
 have hpb2 : Calls Tryz.prog 10 #[.pointer (some ⟨u, 0, none⟩), .int .i64 1, .int .i64 0, .slice none 0 0] w3 (fun e w' => e = .returned (.int .i64 130) ∧ Own w0 w' (tRes w0.heap.size d j t b nmT T2 ++ (uRes w0.heap.size d u st t mp ((1 + 1 : Nat) : Int) ([] ++ (⟨((1 : Nat) : Int), aB, 9, abcL⟩, sp, q) :: []) ++ (rObj w0.heap.size w2.heap.size abcO :: [rObj w0.heap.size y (yObj d st t u)])))) := hpb.mono (fun e w' hh => hh)
 have HPB := Lib.hid hpb2
 clear h3 hpb hpb2 hp3 HPA H2
 go_wp2_with fail
 refine HPB.out.mono ?_
 rintro e w4 ⟨rfl, h4⟩
 have h4 := h4.dropEnd
 -- what is to come
 obtain ⟨dg, hdg⟩ : ∃ dg, dg = sumOf abcL := ⟨_, rfl⟩
 have hdl : dg.length = 32 := by rw [hdg]; exact sumOf_length _
 obtain ⟨cl, hcl⟩ : ∃ cl : List Value, cl = dg.map u8v := ⟨_, rfl⟩
 have nf : fileOf dg ≠ nmT := ne_of_size (by rw [fileOf_size dg hdl]; decide)
 have nk : fileOf dg ≠ ukeyOf 1 := ne_of_size (by rw [fileOf_size dg hdl, ukeyOf_size]; decide)
 have nd1 := HC.out.1.cm.nd
 have u2 := used_fput nd1 (ukeyOf 1) ([] ++ abcL)
 rw [HF.out.1] at u2
 obtain ⟨T3, F3, b3, hf3, ct3, hfd, -, -⟩ := finish_calm HC.out.2 (nx := 1) (x := ⟨((1 : Nat) : Int), aB, 9, abcL⟩) (by rw [fget_fput_same nd1]; rfl) (by decide) (dg := dg) hdg.symm (by rw [fget_fput_other nd1 _ _ _ (Ne.symm nk)]; exact HF.out.2.2 _ nf nk) (by
  have h1 : abcL.length = 3 := rfl
  have h2 := HF.out.2.1
  simp only [Option.getD_some, List.length_nil, List.nil_append, h1, Nat.add_zero] at u2
  rw [List.nil_append]
  omega)
 have hg3 : Good T3.m 7 := by
  have := finish_good (T := T2) HG.out.2.2 nmT (ukeyOf 1) ⟨((1 : Nat) : Int), aB, 9, abcL⟩ dg
  rw [hf3] at this; exact this
 have hwh : wholeOf T3.m dg = true := by
  unfold wholeOf
  rw [ct3.cm.there, ct3.cm.cont, hfd]
  simp [hdg]
 have HFIN := Lib.hid (show ∀ W (M : List (Res w0.heap.size)), Own w0 W (tRes w0.heap.size d j t b nmT T2 ++ (uRes w0.heap.size d u st t mp ((1 + 1 : Nat) : Int) ([] ++ (⟨((1 : Nat) : Int), aB, 9, abcL⟩, sp, q) :: []) ++ M)) → Calls Tryz.prog 12 #[.pointer (some ⟨u, 0, none⟩), .int .i64 1, .agg cl.toArray, .slice none 0 0] W (fun e w' => e = .returned (.int .i64 0) ∧ Own w0 w' (tRes w0.heap.size d j t b nmT T3 ++ (uRes w0.heap.size d u st t mp ((1 + 1 : Nat) : Int) [] ++ M))) from fun W M hW => by
  rw [hcl]
  have := ufinish_calls (L1 := []) (L2 := []) hW (by simp [uget]) (by simp) HG.out.2.2 (by omega) (by have := HZ.out.2; omega) (nx := 1) rfl (by omega) (by decide) ⟨by decide, by decide⟩ (by decide) hdl
  rw [hf3] at this
  exact this.mono (fun e w' hh => hh))
 have HWH := Lib.hid (show ∀ W (M : List (Res w0.heap.size)), Own w0 W (tRes w0.heap.size d j t b nmT T3 ++ (uRes w0.heap.size d u st t mp ((1 + 1 : Nat) : Int) [] ++ M)) → Calls Tryz.prog 28 #[.pointer (some ⟨st, 0, none⟩), .agg cl.toArray] W (QuietP W (.bool true)) from fun W M hW => by
  rw [hcl, ← hwh]
  exact bwhole_calls hW (by simp [uRes, stObj1]) hg3 hdl)
 have HLS := Lib.hid (show ∀ W (M : List (Res w0.heap.size)), Own w0 W (tRes w0.heap.size d j t b nmT T3 ++ (uRes w0.heap.size d u st t mp ((1 + 1 : Nat) : Int) [] ++ M)) → Calls Tryz.prog 22 #[.pointer (some ⟨u, 0, none⟩)] W (UListPost W []) from fun W M hW => ulist_calls hW (by simp) (by simp) (by simp))
 have hsum := sum_calls (abc_reads (heap_alloc_new w4 abcO)) (by decide)
 rw [← hdg, ← hcl] at hsum
 have HSUM := Lib.hid hsum
 have HI := Lib.hid (dig_info (ds := cl.toArray) (by rw [hcl]; simp [hdl]))
 have HIL := Lib.hid (show (Tryz.prog.info? 39).map (·.size) = some cl.length by rw [hcl, List.length_map, hdl]; kernel_rfl)
 have HONE := Lib.hid (show cl.toArray.all (·.oneCell') = true by rw [hcl]; exact bytes_one _)
 have HSZ := Lib.hid (show cl.toArray.size = 32 by rw [hcl]; simp [hdl])
 have hcv : (convert 22 22 (.slice (some ⟨w4.heap.size, 0, none⟩) 3 3)).run Tryz.prog (w4.alloc (.cells #[.int .u8 97, .int .u8 98, .int .u8 99] 5)) = .ok (.slice (some ⟨w4.heap.size, 0, none⟩) 3 3) (w4.alloc abcO) := Lib.run_convert_bytes_const (P := Tryz.prog) w4 22 5 #[.int .u8 97, .int .u8 98, .int .u8 99] 3 3 Tryz.underlying22 Tryz.underlying5
 have H4 := Lib.hid h4
 have HKA := Lib.hid ((Keeps.refl (fun _ => False) w4).alloc abcO)
 clear h4 HPB k3 hdg hdl hcl nf nk nd1 u2 hf3 ct3 hfd hg3 hwh hsum HC HF HG HZ
 go_wp2_with fail
 refine HSUM.out.mono ?_
 rintro e w5 ⟨rfl, hk5⟩
 have H5 := Lib.hid ((H4.out.quiet (HKA.out.trans hk5 (fun _ _ e => e))).endObj (.cells cl.toArray 39))
 clear hk5 H4 HKA HSUM hcv
 go_upto_region 8 with (refine wpList_store_row rfl 39 _ _ rfl w5.heap.size cl.toArray rfl rfl 39 _ (heap_alloc_new w5 _) HI.out (by rw [HSZ.out]; kernel_rfl) HONE.out ?_; rw [World.setRow_alloc_new])
 generalize w5.alloc (.cells cl.toArray 39) = w6 at H5 ⊢
 generalize w5.heap.size = bd at H5 ⊢
 refine wp_region_held_drew (S := UAw y st u bd cl) (by kernel_rfl) (by exact UAw.of (d := d) (t := t) H5.out.drew (by simp) (by simp)) (fun hHeld => ?_)
 have H6 := Lib.hid H5.out.drew
 clear H5
 refine wpAnyH_take (i := 0) (oi := { dst := some 43, op := _, type := _, pos := _, after := _, guard := _ }) (v := .pointer (some ⟨y, 0, none⟩)) rfl (by kernel_rfl) (by kernel_rfl) (by kernel_rfl) (fun _ _ _ h => h) (Or.inl ⟨by rfl, by intro w hSw; (try dsimp only at hSw); go_simp⟩) hHeld ?_
 try simp only [Act.put, List.setIfInBounds_toArray, List.set_cons_zero, List.set_cons_succ]
 refine wpAnyH_take (i := 1) (oi := { dst := some 44, op := _, type := _, pos := _, after := _, guard := _ }) (v := .pointer (some ⟨y, 0, none⟩)) rfl (by kernel_rfl) (by kernel_rfl) (by kernel_rfl) (fun _ _ _ h => h) (Or.inl ⟨by rfl, by intro w hSw; (try dsimp only at hSw); go_simp⟩) hHeld ?_
 try simp only [Act.put, List.setIfInBounds_toArray, List.set_cons_zero, List.set_cons_succ]
 refine wpAnyH_take (i := 2) (oi := { dst := some 45, op := _, type := _, pos := _, after := _, guard := _ }) (v := .pointer (some ⟨y, 3, none⟩)) rfl (by kernel_rfl) (by kernel_rfl) (by kernel_rfl) (fun _ _ _ h => h) (Or.inl ⟨by rfl, by intro w hSw; (try dsimp only at hSw); go_simp⟩) hHeld ?_
 try simp only [Act.put, List.setIfInBounds_toArray, List.set_cons_zero, List.set_cons_succ]
 refine wpAnyH_take (i := 3) (oi := { dst := some 46, op := _, type := _, pos := _, after := _, guard := _ }) (v := .pointer (some ⟨u, 0, none⟩)) rfl (by kernel_rfl) (by kernel_rfl) (by kernel_rfl) (fun _ _ _ h => h) (Or.inl ⟨by rfl, by intro w hSw; (try dsimp only at hSw); (have q0 := hSw.1.2; go_simp)⟩) hHeld ?_
 try simp only [Act.put, List.setIfInBounds_toArray, List.set_cons_zero, List.set_cons_succ]
 refine wpAnyH_take (i := 4) (oi := { dst := some 47, op := _, type := _, pos := _, after := _, guard := _ }) (v := .agg (cl).toArray) rfl (by kernel_rfl) (by kernel_rfl) (by kernel_rfl) (fun _ _ _ h => h) (yieldsIf_load_mid (by rfl) _ _ rfl (bd) (0) rfl (cl) _ (fun w' hk => hk.2) Tryz.underlying39 rfl HIL.out) hHeld ?_
 try simp only [Act.put, List.setIfInBounds_toArray, List.set_cons_zero, List.set_cons_succ]
 refine wpAnyH_ready (rs := [5]) (by kernel_rfl) (by simp) ?_
 refine AllReadyH.cons (o := { dst := some 48, op := _, type := _, pos := _, after := _, guard := _ }) rfl (fun K hK => ?_) AllReadyH.nil
 refine step_wanted' rfl ?_
 go_simp
 go_at_call 12
 refine (HFIN.out _ _ H6.out).mono ?_
 rintro e w7 ⟨rfl, h7⟩
 have H7 := Lib.hid h7
 clear h7
 refine hK.out _ _ (by exact UAw.of (d := d) (t := t) H7.out (by simp) (by simp)) (fun hHeld1 => ?_)
 clear hK K
 try simp only [Act.put, List.setIfInBounds_toArray, List.set_cons_zero, List.set_cons_succ]
 refine wpAnyH_take (i := 6) (oi := { dst := some 49, op := _, type := _, pos := _, after := _, guard := _ }) (v := .bool true) rfl (by kernel_rfl) (by kernel_rfl) (by kernel_rfl) (fun _ _ _ h => h) (Or.inl ⟨by rfl, by intro w hSw; (try dsimp only at hSw); go_simp⟩) hHeld1 ?_
 try simp only [Act.put, List.setIfInBounds_toArray, List.set_cons_zero, List.set_cons_succ]
 refine wpAnyH_take (i := 7) (oi := { dst := some 50, op := _, type := _, pos := _, after := _, guard := _ }) (v := .bool true) rfl (by kernel_rfl) (by kernel_rfl) (by kernel_rfl) (fun _ _ _ h => h) (Or.inl ⟨by rfl, by intro w hSw; (try dsimp only at hSw); go_simp⟩) hHeld1 ?_
 try simp only [Act.put, List.setIfInBounds_toArray, List.set_cons_zero, List.set_cons_succ]
 refine wpAnyH_take (i := 8) (oi := { dst := some 51, op := _, type := _, pos := _, after := _, guard := _ }) (v := .pointer (some ⟨y, 0, none⟩)) rfl (by kernel_rfl) (by kernel_rfl) (by kernel_rfl) (fun _ _ _ h => h) (Or.inl ⟨by rfl, by intro w hSw; (try dsimp only at hSw); go_simp⟩) hHeld1 ?_
 try simp only [Act.put, List.setIfInBounds_toArray, List.set_cons_zero, List.set_cons_succ]
 refine wpAnyH_take (i := 9) (oi := { dst := some 52, op := _, type := _, pos := _, after := _, guard := _ }) (v := .pointer (some ⟨y, 0, none⟩)) rfl (by kernel_rfl) (by kernel_rfl) (by kernel_rfl) (fun _ _ _ h => h) (Or.inl ⟨by rfl, by intro w hSw; (try dsimp only at hSw); go_simp⟩) hHeld1 ?_
 try simp only [Act.put, List.setIfInBounds_toArray, List.set_cons_zero, List.set_cons_succ]
 refine wpAnyH_take (i := 10) (oi := { dst := some 53, op := _, type := _, pos := _, after := _, guard := _ }) (v := .pointer (some ⟨y, 1, none⟩)) rfl (by kernel_rfl) (by kernel_rfl) (by kernel_rfl) (fun _ _ _ h => h) (Or.inl ⟨by rfl, by intro w hSw; (try dsimp only at hSw); go_simp⟩) hHeld1 ?_
 try simp only [Act.put, List.setIfInBounds_toArray, List.set_cons_zero, List.set_cons_succ]
 refine wpAnyH_take (i := 11) (oi := { dst := some 54, op := _, type := _, pos := _, after := _, guard := _ }) (v := .pointer (some ⟨st, 0, none⟩)) rfl (by kernel_rfl) (by kernel_rfl) (by kernel_rfl) (fun _ _ _ h => h) (Or.inl ⟨by rfl, by intro w hSw; (try dsimp only at hSw); (have q0 := hSw.1.1; go_simp)⟩) hHeld1 ?_
 try simp only [Act.put, List.setIfInBounds_toArray, List.set_cons_zero, List.set_cons_succ]
 refine wpAnyH_take (i := 12) (oi := { dst := some 55, op := _, type := _, pos := _, after := _, guard := _ }) (v := .agg (cl).toArray) rfl (by kernel_rfl) (by kernel_rfl) (by kernel_rfl) (fun _ _ _ h => h) (yieldsIf_load_mid (by rfl) _ _ rfl (bd) (0) rfl (cl) _ (fun w' hk => hk.2) Tryz.underlying39 rfl HIL.out) hHeld1 ?_
 try simp only [Act.put, List.setIfInBounds_toArray, List.set_cons_zero, List.set_cons_succ]
 refine wpAnyH_ready (rs := [13]) (by kernel_rfl) (by simp) ?_
 refine AllReadyH.cons (o := { dst := some 56, op := _, type := _, pos := _, after := _, guard := _ }) rfl (fun K hK => ?_) AllReadyH.nil
 go_simp
 go_at_call 28
 refine (HWH.out _ _ H7.out).mono ?_
 rintro e w8 ⟨rfl, hk8⟩
 have H8 := Lib.hid (H7.out.quiet hk8)
 clear hk8
 refine hK.out _ _ (by exact UAw.of (d := d) (t := t) H8.out (by simp) (by simp)) (fun hHeld2 => ?_)
 clear hK K
 try simp only [Act.put, List.setIfInBounds_toArray, List.set_cons_zero, List.set_cons_succ]
 refine wpAnyH_take (i := 14) (oi := { dst := some 57, op := _, type := _, pos := _, after := _, guard := _ }) (v := .bool true) rfl (by kernel_rfl) (by kernel_rfl) (by kernel_rfl) (fun _ _ _ h => h) (Or.inl ⟨by rfl, by intro w hSw; (try dsimp only at hSw); go_simp⟩) hHeld2 ?_
 try simp only [Act.put, List.setIfInBounds_toArray, List.set_cons_zero, List.set_cons_succ]
 refine wpAnyH_take (i := 15) (oi := { dst := some 58, op := _, type := _, pos := _, after := _, guard := _ }) (v := .bool true) rfl (by kernel_rfl) (by kernel_rfl) (by kernel_rfl) (fun _ _ _ h => h) (Or.inl ⟨by rfl, by intro w hSw; (try dsimp only at hSw); go_simp⟩) hHeld2 ?_
 try simp only [Act.put, List.setIfInBounds_toArray, List.set_cons_zero, List.set_cons_succ]
 refine wpAnyH_take (i := 16) (oi := { dst := some 59, op := _, type := _, pos := _, after := _, guard := _ }) (v := .pointer (some ⟨y, 0, none⟩)) rfl (by kernel_rfl) (by kernel_rfl) (by kernel_rfl) (fun _ _ _ h => h) (Or.inl ⟨by rfl, by intro w hSw; (try dsimp only at hSw); go_simp⟩) hHeld2 ?_
 try simp only [Act.put, List.setIfInBounds_toArray, List.set_cons_zero, List.set_cons_succ]
 refine wpAnyH_take (i := 17) (oi := { dst := some 60, op := _, type := _, pos := _, after := _, guard := _ }) (v := .pointer (some ⟨y, 0, none⟩)) rfl (by kernel_rfl) (by kernel_rfl) (by kernel_rfl) (fun _ _ _ h => h) (Or.inl ⟨by rfl, by intro w hSw; (try dsimp only at hSw); go_simp⟩) hHeld2 ?_
 try simp only [Act.put, List.setIfInBounds_toArray, List.set_cons_zero, List.set_cons_succ]
 refine wpAnyH_take (i := 18) (oi := { dst := some 61, op := _, type := _, pos := _, after := _, guard := _ }) (v := .pointer (some ⟨y, 3, none⟩)) rfl (by kernel_rfl) (by kernel_rfl) (by kernel_rfl) (fun _ _ _ h => h) (Or.inl ⟨by rfl, by intro w hSw; (try dsimp only at hSw); go_simp⟩) hHeld2 ?_
 try simp only [Act.put, List.setIfInBounds_toArray, List.set_cons_zero, List.set_cons_succ]
 refine wpAnyH_take (i := 19) (oi := { dst := some 62, op := _, type := _, pos := _, after := _, guard := _ }) (v := .pointer (some ⟨u, 0, none⟩)) rfl (by kernel_rfl) (by kernel_rfl) (by kernel_rfl) (fun _ _ _ h => h) (Or.inl ⟨by rfl, by intro w hSw; (try dsimp only at hSw); (have q0 := hSw.1.2; go_simp)⟩) hHeld2 ?_
 try simp only [Act.put, List.setIfInBounds_toArray, List.set_cons_zero, List.set_cons_succ]
 refine wpAnyH_ready (rs := [20]) (by kernel_rfl) (by simp) ?_
 refine AllReadyH.cons (o := { dst := some 63, op := _, type := _, pos := _, after := _, guard := _ }) rfl (fun K hK => ?_) AllReadyH.nil
 go_simp
 go_at_call 22
 refine (HLS.out _ _ H8.out).mono ?_
 rintro e w9 ⟨v9, rfl, ho9, hk9⟩
 obtain ⟨a9, c9, rfl⟩ := ownsRow_slice ho9
 have H9 := Lib.hid (H8.out.quiet hk9)
 clear hk9 ho9
 refine hK.out _ _ (by exact UAw.of (d := d) (t := t) H9.out (by simp) (by simp)) (fun hHeld3 => ?_)
 clear hK K
 try simp only [Act.put, List.setIfInBounds_toArray, List.set_cons_zero, List.set_cons_succ]
 refine wpAnyH_take (i := 21) (oi := { dst := some 64, op := _, type := _, pos := _, after := _, guard := _ }) (v := .int .i64 0) rfl (by kernel_rfl) (by kernel_rfl) (by kernel_rfl) (fun _ _ _ h => h) (Or.inl ⟨by rfl, by intro w hSw; (try dsimp only at hSw); go_simp⟩) hHeld3 ?_
 try simp only [Act.put, List.setIfInBounds_toArray, List.set_cons_zero, List.set_cons_succ]
 refine wpAnyH_take (i := 22) (oi := { dst := some 65, op := _, type := _, pos := _, after := _, guard := _ }) (v := .bool true) rfl (by kernel_rfl) (by kernel_rfl) (by kernel_rfl) (fun _ _ _ h => h) (Or.inl ⟨by rfl, by intro w hSw; (try dsimp only at hSw); go_simp⟩) hHeld3 ?_
 try simp only [Act.put, List.setIfInBounds_toArray, List.set_cons_zero, List.set_cons_succ]
 refine wpAnyH_take (i := 23) (oi := { dst := some 66, op := _, type := _, pos := _, after := _, guard := _ }) (v := .bool true) rfl (by kernel_rfl) (by kernel_rfl) (by kernel_rfl) (fun _ _ _ h => h) (Or.inl ⟨by rfl, by intro w hSw; (try dsimp only at hSw); go_simp⟩) hHeld3 ?_
 try simp only [Act.put, List.setIfInBounds_toArray, List.set_cons_zero, List.set_cons_succ]
 refine wpAnyH_take (i := 24) (oi := { dst := some 0, op := _, type := _, pos := _, after := _, guard := _ }) (v := .bool true) rfl (by kernel_rfl) (by kernel_rfl) (by kernel_rfl) (fun _ _ _ h => h) (Or.inl ⟨by rfl, by intro w hSw; (try dsimp only at hSw); go_simp⟩) hHeld3 ?_
 try simp only [Act.put, List.setIfInBounds_toArray, List.set_cons_zero, List.set_cons_succ]
 refine wpAnyH_done (by kernel_rfl) ?_ _
 go_wp2_with fail
 go_ret
 exact ⟨rfl, H9.out.keeps⟩
end Go.Proofs.YtlcnhpjggjgnpaaGreatDoor
namespace Go.Proofs.YtlcnhpjggjgnpaaGreatDoor
set_option linter.unusedVariables false
set_option linter.unusedSimpArgs false
open Go.RowKit Go.MapKept
def ULs (w : World) (c : Nat) (M : List (Res w.heap.size)) (yv hvv : Value) (wx : World) : Prop :=
 ∃ (d j t b u st mp y : Nat) (hv : List Kp) (a : Option Addr) (cap : Nat) (l : List KV) (S : List (Value × List UInt8)), yv = .pointer (some ⟨y, 0, none⟩) ∧ hvv = .slice a l.length cap ∧ l.length ≤ c ∧ KRel S hv l ∧ (Value.slice none 0 0, []) ∈ S ∧
  UHold w d j t b u st mp (rKRow w.heap.size (.slice a l.length cap) l.length (kvs l) :: rRds w.heap.size S :: rObj w.heap.size y (yObj d st t u) :: M) anyT c hv wx
section
variable {w W : World} {d j t b u st mp : Nat} {M : List (Res w.heap.size)} {P : TM → Prop} {c : Nat} {hv : List Kp}
def ULh (y st u d bx : Nat) (o : List Value) (W : World) : Prop := (W.cell? ⟨y, 0, none⟩ = some (.pointer (some ⟨d, 0, none⟩)) ∧ W.cell? ⟨y, 1, none⟩ = some (.pointer (some ⟨st, 0, none⟩)) ∧ W.cell? ⟨y, 3, none⟩ = some (.pointer (some ⟨u, 0, none⟩))) ∧ W.rangeAt bx 0 o
theorem UHold.more {r : Res w.heap.size} (h : UHold w d j t b u st mp (r :: M) P c hv W) : UHold w d j t b u st mp M P c hv W := by
 obtain ⟨T, L, nx, h1, h2, h3⟩ := h
 exact ⟨T, L, nx, h1, h2, h3.dropEnd⟩
theorem UHold.any (h : UHold w d j t b u st mp M P c hv W) : UHold w d j t b u st mp M anyT c hv W := by
 obtain ⟨T, L, nx, h1, h2, h3⟩ := h
 exact ⟨T, L, nx, h1, trivial, h3⟩
theorem UHold.own (h : UHold w d j t b u st mp M P c hv W) : ∃ A B : List (Res w.heap.size), Own w W (A ++ (B ++ M)) := by
 obtain ⟨T, L, nx, h1, h2, h3⟩ := h
 exact ⟨_, _, h3⟩
theorem UHold.box (h : UHold w d j t b u st mp M P c hv W) (o : Obj) : UHold w d j t b u st mp (rObj w.heap.size W.heap.size o :: M) P c hv (W.alloc o) := by
 obtain ⟨T, L, nx, h1, h2, h3⟩ := h
 exact ⟨T, L, nx, h1, h2, h3.endObj o⟩
theorem UHold.at {bb : Nat} {o : Obj} (h : UHold w d j t b u st mp M P c hv W) (hm : rObj w.heap.size bb o ∈ M) : W.heap[bb]? = some o := by
 obtain ⟨T, L, nx, h1, h2, h3⟩ := h
 exact (h3.at (in_end hm)).1
theorem UHold.y {y : Nat} (h : UHold w d j t b u st mp M P c hv W) (hm : rObj w.heap.size y (yObj d st t u) ∈ M) : W.cell? ⟨y, 0, none⟩ = some (.pointer (some ⟨d, 0, none⟩)) ∧ W.cell? ⟨y, 1, none⟩ = some (.pointer (some ⟨st, 0, none⟩)) ∧ W.cell? ⟨y, 3, none⟩ = some (.pointer (some ⟨u, 0, none⟩)) := by
 obtain ⟨k0, k1, -, k3⟩ := y_cells (h.at hm)
 exact ⟨k0, k1, k3⟩
theorem UHold.next (h : UHold w d j t b u st mp M P c hv W) : UHold w d j t b u st mp M anyT (c + 1) hv W := by
 obtain ⟨T, L, nx, h1, h2, h3⟩ := h
 exact ⟨T, L, nx, h1.next, trivial, h3⟩
theorem Own.twoHead {w wr : World} {A B M : List (Res w.heap.size)} {x y : Res w.heap.size} (h : Own w wr (A ++ (B ++ (x :: y :: M)))) : Own w wr (y :: x :: (A ++ (B ++ M))) := Own.toHead (A := x :: A) h.toHead
theorem UHold.push {bx : Res w.heap.size} {ra : Option Addr} {rcap : Nat} {l : List KV} (h : UHold w d j t b u st mp (bx :: rKRow w.heap.size (.slice ra l.length rcap) l.length (kvs l) :: M) P c hv W) (n : Int) (hl : l.length < 1000) :
  ∃ a' c' w', (Builtin.append_ #[64, 64] 64 #[.slice ra l.length rcap, .slice (some ⟨W.heap.size, 0, none⟩) 1 1]).run Tryz.prog (W.alloc (.cells #[.int .i64 n, .slice none 0 0, .slice none 0 0, .bool false] 71)) = .ok (.slice a' (l.length + 1) c') w' ∧
   UHold w d j t b u st mp (bx :: rKRow w.heap.size (.slice a' (l ++ [(⟨n, .slice none 0 0, .slice none 0 0, false⟩ : KV)]).length c') (l ++ [(⟨n, .slice none 0 0, .slice none 0 0, false⟩ : KV)]).length (kvs (l ++ [(⟨n, .slice none 0 0, .slice none 0 0, false⟩ : KV)])) :: M) P c hv w' := by
 obtain ⟨T, L, nx, h1, h2, h3⟩ := h
 obtain ⟨a', c', w', hr, h4⟩ := h3.twoHead.krPush (.int .i64 n) (.slice none 0 0) (.slice none 0 0) (.bool false) ⟨rfl, rfl, rfl, rfl⟩ (by omega)
 refine ⟨a', c', w', hr, T, L, nx, h1, h2, ?_⟩
 have h5 := h4.swap.twoEnd
 rw [kvs_app]
 simpa [kvs, KV.cells] using h5
theorem UHold.drew (h : UHold w d j t b u st mp M P c hv W) : UHold w d j t b u st mp M P c hv W.drew := h.keep (Keeps.refl _ _).drew
theorem held_of {y bx : Nat} {k i n m : Int} {r : ByteArray} {pv lv : Value} {A : List (Res w.heap.size)} (h : Own w W A) (hy : rObj w.heap.size y (yObj d st t u) ∈ A) (hb : rObj w.heap.size bx (opUObj k i r pv n m lv) ∈ A) : ULh y st u d bx [.int .i64 k, .int .i64 i, .string r, pv, .int .i64 n, .int .i64 m, lv] W := by
 obtain ⟨k0, k1, -, k3⟩ := y_cells (h.at hy).1
 refine ⟨⟨k0, k1, k3⟩, fun j v hv => ?_⟩
 rw [Nat.zero_add]
 exact cell_at (h.at hb).1 (by simpa [opUObj] using hv)
theorem UHold.held {y bx : Nat} {k i n m : Int} {r : ByteArray} {pv lv : Value} (h : UHold w d j t b u st mp M P c hv W) (hy : rObj w.heap.size y (yObj d st t u) ∈ M) (hb : rObj w.heap.size bx (opUObj k i r pv n m lv) ∈ M) : ULh y st u d bx [.int .i64 k, .int .i64 i, .string r, pv, .int .i64 n, .int .i64 m, lv] W := by
 obtain ⟨A, B, hO⟩ := h.own
 exact held_of hO (in_end hy) (in_end hb)
theorem UCr.held {y bx : Nat} {k i n m : Int} {r : ByteArray} {pv lv : Value} (h : UCr w d M c hv W) (hy : rObj w.heap.size y (yObj d st t u) ∈ M) (hb : rObj w.heap.size bx (opUObj k i r pv n m lv) ∈ M) : ULh y st u d bx [.int .i64 k, .int .i64 i, .string r, pv, .int .i64 n, .int .i64 m, lv] W := by
 obtain ⟨m', h1, hO⟩ := h
 exact held_of hO (List.mem_cons_of_mem _ hy) (List.mem_cons_of_mem _ hb)
theorem UCo.held {y bx : Nat} {k i n m : Int} {r : ByteArray} {pv lv : Value} (h : UCo w d M c hv W) (hy : rObj w.heap.size y (yObj d st t u) ∈ M) (hb : rObj w.heap.size bx (opUObj k i r pv n m lv) ∈ M) : ULh y st u d bx [.int .i64 k, .int .i64 i, .string r, pv, .int .i64 n, .int .i64 m, lv] W := by
 obtain ⟨m', h1, h2, hO⟩ := h
 exact held_of hO (List.mem_cons_of_mem _ hy) (List.mem_cons_of_mem _ hb)
theorem UCf.held {y bx : Nat} {k i n m : Int} {r : ByteArray} {pv lv : Value} (h : UCf w d M c hv W) (hy : rObj w.heap.size y (yObj d st t u) ∈ M) (hb : rObj w.heap.size bx (opUObj k i r pv n m lv) ∈ M) : ULh y st u d bx [.int .i64 k, .int .i64 i, .string r, pv, .int .i64 n, .int .i64 m, lv] W := by
 obtain ⟨m', E, nx, h1, h2, h3, h4, hO⟩ := h
 exact held_of hO (List.mem_cons_of_mem _ hy) (List.mem_cons_of_mem _ hb)
theorem UCr.keep {W' : World} (h : UCr w d M c hv W) (hk : Keeps (fun _ => False) W W') : UCr w d M c hv W' := by
 obtain ⟨m', h1, hO⟩ := h
 exact ⟨m', h1, hO.quiet hk⟩
theorem UCo.keep {W' : World} (h : UCo w d M c hv W) (hk : Keeps (fun _ => False) W W') : UCo w d M c hv W' := by
 obtain ⟨m', h1, h2, hO⟩ := h
 exact ⟨m', h1, h2, hO.quiet hk⟩
theorem Own.dropRight {R : List (Res w.heap.size)} : ∀ {M : List (Res w.heap.size)}, Own w W (R ++ M) → Own w W R
 | [], h => by simpa using h
 | x :: M, h => Own.dropRight (M := M) (Own.dropMid (r := x) h)
theorem rem_small (n : Int) (q : Nat) (hq : 0 < q) (hq2 : q < 100) : ∃ g : Nat, g < q ∧ wrap64 ((IntKind.u64.wrap n).tmod (q : Int)) = (g : Int) := by
 have h0 : 0 ≤ IntKind.u64.wrap n := by rw [IntKind.wrap_u64]; exact Int.emod_nonneg _ (by omega)
 have h1 : 0 ≤ (IntKind.u64.wrap n).tmod (q : Int) := Int.tmod_nonneg _ h0
 have h2 : (IntKind.u64.wrap n).tmod (q : Int) < (q : Int) := Int.tmod_lt_of_pos _ (by omega)
 refine ⟨((IntKind.u64.wrap n).tmod (q : Int)).toNat, by omega, ?_⟩
 rw [show ((((IntKind.u64.wrap n).tmod (q : Int)).toNat : Nat) : Int) = (IntKind.u64.wrap n).tmod (q : Int) by omega]
 unfold wrap64
 omega
end
theorem frame_fill {ts : List Value} {ds : List Deferred} {R : (Nat → Value) → Prop} {build : (Nat → Value) → List Value} (h : R (fun n => ts.getD n undef)) (e : build (fun n => ts.getD n undef) = ts) : ∃ f : Nat → Value, R f ∧ (⟨ts.toArray, ds⟩ : Act) = ⟨(build f).toArray, ds⟩ := ⟨_, h, by rw [e]⟩
def ULr (ya : Addr) (i : Nat) (x : KV) (W : World) : Prop := W.cell? (ya.add (i * 4)) = some (.int .i64 x.id) ∧ W.cell? ⟨(ya.add (i * 4)).block, (ya.add (i * 4)).off + 1, none⟩ = some x.s ∧ W.cell? ⟨(ya.add (i * 4)).block, (ya.add (i * 4)).off + 2, none⟩ = some x.m ∧ W.cell? ⟨(ya.add (i * 4)).block, (ya.add (i * 4)).off + 3, none⟩ = some (.bool x.e)
theorem addr_row (g i : Nat) : (⟨g, 0, none⟩ : Addr).add (i * 4) = ⟨g, i * 4, none⟩ := by unfold Addr.add; split <;> simp_all
theorem elem_kepts : Tryz.prog.underlying 64 = some (.slice (Tryz.prog.elem 64)) := by kernel_rfl
theorem size_kept (w : World) : (sizeOf (Tryz.prog.elem 64)).run Tryz.prog w = .ok 4 w := by
 obtain ⟨i0, hi, hz0, hz1, hz2⟩ := info_parts info_kept
 rw [show Tryz.prog.elem 64 = 71 by kernel_rfl]
 simp [sizeOf, typeInfo, hi, hz1]
theorem slice_ptr3 (w : World) (a : Option Addr) (n c i : Nat) (h1 : i ≤ c) : (Instr.sliceAt 64 (.slice a n c) none (some (.int .i64 (i : Int))) (some (.int .i64 (i : Int)))).run Tryz.prog w = .ok (.slice a i i) w := by
 rw [run_sliceAt_slice _ _ _ _ _ _ elem_kepts, run_slice_any w 64 a n c elem_kepts]
 have : (a.map fun x => x.add 0) = a := by cases a with
  | none => rfl
  | some x => simp [Addr.add_zero']
 simp [Instr.sliceBounds, run_sliceBound, size_kept, Result.andThen, sliced, h1, this, (by omega : (i : Int) ≤ (c : Int))]
theorem slice_tail4 (w : World) (a : Option Addr) (n c i : Nat) (h1 : i ≤ n) (h2 : n ≤ c) :
  (Instr.sliceAt 64 (.slice a n c) (some (.int .i64 (i : Int))) none none).run Tryz.prog w = .ok (.slice (if c = i then a else Option.map (fun x => x.add (i * 4)) a) (n - i) (c - i)) w := by
 rw [run_sliceAt_slice _ _ _ _ _ _ elem_kepts, run_slice_any w 64 a n c elem_kepts]
 simp [Instr.sliceBounds, run_sliceBound, size_kept, Result.andThen, sliced, h1, h2, (by omega : (i : Int) ≤ (n : Int))]
theorem set_same {l : List KV} {i : Nat} {x : KV} (h : l[i]? = some x) : l.set i x = l := by
 obtain ⟨hlt, rfl⟩ := List.getElem?_eq_some_iff.1 h
 exact List.set_getElem_self hlt
section
variable {w W : World} {d j t b u st mp : Nat} {M : List (Res w.heap.size)} {P : TM → Prop} {c : Nat} {hv : List Kp} {bx : Res w.heap.size} {ya : Addr} {rcap : Nat} {l : List KV} {i : Nat} {x : KV}
theorem UHold.rowAt (h : UHold w d j t b u st mp M P c hv W) (hm : rKRow w.heap.size (.slice (some ya) l.length rcap) l.length (kvs l) ∈ M) (hx : l[i]? = some x) : ULr ya i x W := by
 obtain ⟨A, B, hO⟩ := h.own
 obtain ⟨y, e, h1⟩ := (hO.kin (in_end hm)).at hx
 cases e
 exact h1
theorem UHold.rowSome {ra : Option Addr} (h : UHold w d j t b u st mp M P c hv W) (hm : rKRow w.heap.size (.slice ra l.length rcap) l.length (kvs l) ∈ M) (hx : l[i]? = some x) : ∃ ya, ra = some ya := by
 obtain ⟨A, B, hO⟩ := h.own
 obtain ⟨y, e, h1⟩ := (hO.kin (in_end hm)).at hx
 exact ⟨y, e⟩
theorem UHold.rowCap {ra : Option Addr} (h : UHold w d j t b u st mp M P c hv W) (hm : rKRow w.heap.size (.slice ra l.length rcap) l.length (kvs l) ∈ M) : l.length ≤ rcap ∧ rcap ≤ maxLen := by
 obtain ⟨A, B, hO⟩ := h.own
 obtain ⟨F, hr, -⟩ := hO.kr (in_end hm)
 obtain ⟨a, c', e, h1, h2⟩ := KRow.form hr
 cases e
 exact ⟨h1, h2⟩
theorem UHold.rowFree (h : UHold w d j t b u st mp M P c hv W) (hm : rKRow w.heap.size (.slice (some ya) l.length rcap) l.length (kvs l) ∈ M) (o : Nat) : W.frozen? ⟨(ya.add (i * 4)).block, o, none⟩ = false := by
 obtain ⟨A, B, hO⟩ := h.own
 obtain ⟨F, hr, -⟩ := hO.kr (in_end hm)
 rcases hr.2 with ⟨e, _⟩ | ⟨g, cap, cur, e, hF, hb, _⟩
 ·cases e
 ·cases e
  rw [addr_row]
  exact free_at hb o
theorem UHold.setAt (h : UHold w d j t b u st mp (bx :: rKRow w.heap.size (.slice (some ya) l.length rcap) l.length (kvs l) :: M) P c hv W) (hx : l[i]? = some x) (k : Nat) (hk : k < 4) (v : Value) (x' : KV) (hx' : x.cells.set k v = x'.cells) :
  UHold w d j t b u st mp (bx :: rKRow w.heap.size (.slice (some ya) (l.set i x').length rcap) (l.set i x').length (kvs (l.set i x')) :: M) P c hv (W.setCell ⟨(ya.add (i * 4)).block, (ya.add (i * 4)).off + k, none⟩ v) := by
 have hg : ∃ g, ya = ⟨g, 0, none⟩ := by
  obtain ⟨A, B, hO⟩ := h.own
  obtain ⟨F, hr, -⟩ := hO.kr (v := .slice (some ya) l.length rcap) (n := l.length) (xs := kvs l) (in_end (by simp))
  rcases hr.2 with ⟨e, _⟩ | ⟨g, cap, cur, e, hF, hb, _⟩
  ·cases e
  ·cases e; exact ⟨g, rfl⟩
 obtain ⟨g, rfl⟩ := hg
 obtain ⟨T, L, nx, h1, h2, h3⟩ := h
 have h4 := h3.twoHead.krSet (i * 4 + k) v
 rw [kvs_set hx k hk v x' hx'] at h4
 rw [List.length_set, addr_row]
 exact ⟨T, L, nx, h1, h2, h4.swap.twoEnd⟩
theorem UHold.ok {S : List (Value × List UInt8)} {hv' : List Kp} (h : UHold w d j t b u st mp M P c hv W) (hm : rRds w.heap.size S ∈ M) (hR : KRel S hv' l) : ∀ x ∈ l, x.Ok := by
 obtain ⟨A, B, hO⟩ := h.own
 exact hR.ok hO (in_end hm)
theorem UHold.reads {S : List (Value × List UInt8)} (h : UHold w d j t b u st mp M P c hv W) (hm : rRds w.heap.size S ∈ M) {v : Value} {q : List UInt8} (hp : (v, q) ∈ S) : Reads W v q := by
 obtain ⟨A, B, hO⟩ := h.own
 exact hO.rds (in_end hm) hp
theorem UHold.sureLen {k : Kp} (h : UHold w d j t b u st mp M P c hv W) (hc : c < 60) (hk : hv[i]? = some k) : k.sure.length ≤ 200000 := by
 obtain ⟨T, L, nx, h1, h2, h3⟩ := h
 have := (h1.hlt k (List.mem_of_getElem? hk)).2.2
 have hB : BB c ≤ 183000 := by unfold BB; omega
 omega
theorem UHold.erase (h : UHold w d j t b u st mp (bx :: rKRow w.heap.size (.slice (some ya) l.length rcap) l.length (kvs l) :: M) P c hv W) (hi : i < l.length) (hl : l.length < 1000) (hok : ∀ x ∈ l, x.Ok) :
  ∃ a' c' w', (Builtin.append_ #[64, 64] 64 #[.slice (some ya) i i, .slice (if rcap = i + 1 then some ya else Option.map (fun x => x.add ((i + 1) * 4)) (some ya)) (l.length - (i + 1)) (rcap - (i + 1))]).run Tryz.prog W = .ok (.slice a' (l.eraseIdx i).length c') w' ∧
   UHold w d j t b u st mp (bx :: rKRow w.heap.size (.slice a' (l.eraseIdx i).length c') (l.eraseIdx i).length (kvs (l.eraseIdx i)) :: M) P c hv w' := by
 obtain ⟨T, L, nx, h1, h2, h3⟩ := h
 have h4 := h3.twoHead
 obtain ⟨F, hr, -⟩ := h4.kr (v := .slice (some ya) l.length rcap) (n := l.length) (xs := kvs l) (by simp)
 have hg : ∃ g, ya = ⟨g, 0, none⟩ := by
  rcases hr.2 with ⟨e, _⟩ | ⟨g, cap, cur, e, hF, hb, _⟩
  ·cases e
  ·cases e; exact ⟨g, rfl⟩
 obtain ⟨g, rfl⟩ := hg
 have hkin : KIn W (some ⟨g, 0, none⟩) l := KRow.kin hr
 have hlen : (l.eraseIdx i).length = i + (l.length - (i + 1)) := by rw [List.length_eraseIdx_of_lt hi]; omega
 have hcells : ∀ (z : Addr), (z = ⟨g, 0, none⟩ ∧ l.length = i + 1 ∨ z = ⟨g, (i + 1) * 4, none⟩) → ∀ k v, (kvs (l.drop (i + 1)))[k]? = some v → W.cell? (z.add k) = some v := fun z hz k v hv => by
  rw [← kvs_drop, List.getElem?_drop] at hv
  rcases hz with ⟨rfl, hz⟩ | rfl
  ·have := (List.getElem?_eq_some_iff.1 hv).1
   rw [kvs_len] at this
   omega
  ·obtain ⟨g', e, hc⟩ := hkin _ _ hv
   cases e
   have hadd : (⟨g, (i + 1) * 4, none⟩ : Addr).add k = ⟨g, (i + 1) * 4 + k, none⟩ := by unfold Addr.add; split <;> simp_all
   rw [hadd]; exact hc
 have hone : ∀ v ∈ kvs (l.drop (i + 1)), v.oneCell' = true := fun v hv => by
  obtain ⟨x, hx, hv⟩ := List.mem_flatMap.1 hv
  obtain ⟨⟨a1, n1, c1, e1⟩, ⟨a2, n2, c2, e2⟩⟩ := hok x (List.mem_of_mem_drop hx)
  obtain ⟨xi, xs, xm, xe⟩ := x
  dsimp only at e1 e2
  subst e1 e2
  simp only [KV.cells, List.mem_cons, List.not_mem_nil, or_false] at hv
  rcases hv with rfl | rfl | rfl | rfl <;> rfl
 have hcut := h4.krCut (k := i) (by omega)
 rw [kvs_take] at hcut
 have key : ∀ z : Addr, (z = ⟨g, 0, none⟩ ∧ l.length = i + 1 ∨ z = ⟨g, (i + 1) * 4, none⟩) → ∃ a' c' w', (Builtin.append_ #[64, 64] 64 #[.slice (some ⟨g, 0, none⟩) i i, .slice (some z) (l.length - (i + 1)) (rcap - (i + 1))]).run Tryz.prog W = .ok (.slice a' (l.eraseIdx i).length c') w' ∧
   UHold w d j t b u st mp (bx :: rKRow w.heap.size (.slice a' (l.eraseIdx i).length c') (l.eraseIdx i).length (kvs (l.eraseIdx i)) :: M) P c hv w' := fun z hz => by
  obtain ⟨a', c', w', hrun, h5⟩ := hcut.krApp (a := z) (m := l.length - (i + 1)) (c := rcap - (i + 1)) (news := kvs (l.drop (i + 1))) (by rw [kvs_len, List.length_drop]) (hcells z hz) hone (by omega) (fun e => by cases e)
  rw [← hlen] at hrun h5
  rw [← kvs_app, ← eraseIdx_take] at h5
  exact ⟨a', c', w', hrun, T, L, nx, h1, h2, h5.swap.twoEnd⟩
 split
 ·rename_i e
  obtain ⟨F', q⟩ := KRow.form hr
  exact key _ (.inl ⟨rfl, by
   obtain ⟨c', e2, k1, k2⟩ := q
   cases e2
   omega⟩)
 ·rw [Option.map_some, addr_row]
  exact key _ (.inr rfl)
theorem UHold.bytes {v : Value} {q : List UInt8} {w1 : World} (h : UHold w d j t b u st mp M P c hv W) (ho : Owns w1 W.heap.size v q) (hk : Keeps (fun _ => False) W w1) : UHold w d j t b u st mp (rBytes w.heap.size v q :: M) P c hv w1 := by
 obtain ⟨T, L, nx, h1, h2, h3⟩ := h
 exact ⟨T, L, nx, h1, h2, h3.endBytes ho hk⟩
theorem UHold.grow {v : Value} {q : List UInt8} (h : UHold w d j t b u st mp (rBytes w.heap.size v q :: M) P c hv W) {pv : Value} {p : List UInt8} (hp : Reads W pv p) (hb : q.length + p.length ≤ 140737488355328) :
  ∃ v' w', (Builtin.append_ #[22, 22] 22 #[v, pv]).run Tryz.prog W = .ok v' w' ∧ UHold w d j t b u st mp (rBytes w.heap.size v' (q ++ p) :: M) P c hv w' := by
 obtain ⟨T, L, nx, h1, h2, h3⟩ := h
 obtain ⟨v', w', hr, h4⟩ := h3.toHead.grow hp hb
 exact ⟨v', w', hr, T, L, nx, h1, h2, h4.toEnd⟩
theorem UHold.bytesForm {v : Value} {q : List UInt8} (h : UHold w d j t b u st mp (rBytes w.heap.size v q :: M) P c hv W) : ∃ a c', v = .slice a q.length c' ∧ q.length ≤ c' ∧ c' ≤ maxLen := by
 obtain ⟨A, B, hO⟩ := h.own
 exact (hO.bytes (in_end (List.mem_cons_self ..))).2
theorem UHold.known {v : Value} {q : List UInt8} {S : List (Value × List UInt8)} {kr : Res w.heap.size} (h : UHold w d j t b u st mp (rBytes w.heap.size v q :: bx :: kr :: rRds w.heap.size S :: M) P c hv W) : UHold w d j t b u st mp (bx :: kr :: rRds w.heap.size ((v, q) :: S) :: M) P c hv W := by
 obtain ⟨T, L, nx, h1, h2, h3⟩ := h
 refine ⟨T, L, nx, h1, h2, ?_⟩
 have h4 := h3.toHead
 have h5 : Own w W (bx :: rBytes w.heap.size v q :: (_ ++ (_ ++ (kr :: rRds w.heap.size S :: M)))) := Own.toHead (A := rBytes w.heap.size v q :: _) h4
 have h6 : Own w W (kr :: bx :: rBytes w.heap.size v q :: (_ ++ (_ ++ (rRds w.heap.size S :: M)))) := Own.toHead (A := bx :: rBytes w.heap.size v q :: _) h5
 have h7 : Own w W (rRds w.heap.size S :: kr :: bx :: rBytes w.heap.size v q :: (_ ++ (_ ++ M))) := Own.toHead (A := kr :: bx :: rBytes w.heap.size v q :: _) h6
 have h8 := (h7.perm (List.perm_middle (l₁ := [_, _, _]) (a := rBytes w.heap.size v q))).rdsBytes
 have h9 := Own.toEnd (A := kr :: bx :: tRes w.heap.size d j t b nmT T) (B := uRes w.heap.size d u st t mp (nx : Int) L) (M := M) h8
 have h11 := Own.toEnd (x := kr) (A := bx :: tRes w.heap.size d j t b nmT T) (B := uRes w.heap.size d u st t mp (nx : Int) L) (M := rRds w.heap.size ((v, q) :: S) :: M) h9
 exact Own.toEnd (x := bx) (A := tRes w.heap.size d j t b nmT T) (B := uRes w.heap.size d u st t mp (nx : Int) L) (M := kr :: rRds w.heap.size ((v, q) :: S) :: M) h11
theorem UHold.elder {v : Value} {q : List UInt8} {S : List (Value × List UInt8)} {kr : Res w.heap.size} (h : UHold w d j t b u st mp (bx :: kr :: rRds w.heap.size S :: M) P c hv W) (hv' : Reads w v q) : UHold w d j t b u st mp (bx :: kr :: rRds w.heap.size ((v, q) :: S) :: M) P c hv W := by
 obtain ⟨T, L, nx, h1, h2, h3⟩ := h
 refine ⟨T, L, nx, h1, h2, ?_⟩
 have h5 := h3.toHead
 have h6 : Own w W (kr :: bx :: (_ ++ (_ ++ (rRds w.heap.size S :: M)))) := Own.toHead (A := bx :: _) h5
 have h7 : Own w W (rRds w.heap.size S :: kr :: bx :: (_ ++ (_ ++ M))) := Own.toHead (A := kr :: bx :: _) h6
 have h8 := h7.rdsOld hv'
 have h9 := Own.toEnd (A := kr :: bx :: tRes w.heap.size d j t b nmT T) (B := uRes w.heap.size d u st t mp (nx : Int) L) (M := M) h8
 have h11 := Own.toEnd (x := kr) (A := bx :: tRes w.heap.size d j t b nmT T) (B := uRes w.heap.size d u st t mp (nx : Int) L) (M := rRds w.heap.size ((v, q) :: S) :: M) h9
 exact Own.toEnd (x := bx) (A := tRes w.heap.size d j t b nmT T) (B := uRes w.heap.size d u st t mp (nx : Int) L) (M := kr :: rRds w.heap.size ((v, q) :: S) :: M) h11
end
end Go.Proofs.YtlcnhpjggjgnpaaGreatDoor
