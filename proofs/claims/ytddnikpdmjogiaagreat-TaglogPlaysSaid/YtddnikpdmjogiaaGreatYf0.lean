/- A part of the proof. -/
import Derived.Test.YtddnikpdmjogiaaGreatYd8
namespace Go.Proofs.YtddnikpdmjogiaaGreat
set_option linter.unusedVariables false
open Go.RowKit Go.MapKept
theorem logAtAdd {w wr : World} {d j t b g : Nat} {nm : ByteArray} {T : TM} {ve vl : Value} {es : List (List UInt8)} {rs : List (Res w.heap.size)} (h : Own w wr (tRes w.heap.size d j t b nm T ++ (gRes w.heap.size g t ve vl es ++ rs))) : LogAt wr g t ve vl es :=
 h.logAt (by simp [gRes]) (by simp [gRes]) (by simp [gRes])
theorem aw_rootOne (x : Dg) : rootOf [x] = x := by
 rw [rootOf, dif_neg (by simp)]
 rfl
theorem aw_halfTwo : halfOf 2 = 1 := by decide +kernel
theorem aw_proofTwo (x y : Dg) : proofOf [x, y] 1 true = [y] := by
 rw [proofOf, if_neg (by simp), dif_pos (by simp)]
 simp only [List.length_cons, List.length_nil, Nat.zero_add, aw_halfTwo, Nat.reduceAdd]
 rw [if_pos (by omega), proofOf, if_pos (by simp), if_pos rfl]
 show [] ++ [rootOf [y]] = [y]
 rw [aw_rootOne]
 rfl
theorem aw_root {w : World} {g t : Nat} {ve vl : Value} (h : LogAt w g t ve vl [[97], [98]]) : Calls Tryz.prog 31 #[.pointer (some ⟨g, 0, none⟩), .int .i64 1] w (DigPost2 w (leafOf [97]) 0) := by
 have h0 := groot_calls h (by simp) (n := 1) (by simp)
 rw [show (leavesOf [[97], [98]]).take 1 = [leafOf [97]] from rfl, aw_rootOne] at h0
 exact h0
theorem aw_proof {w : World} {g t : Nat} {ve vl : Value} (h : LogAt w g t ve vl [[97], [98]]) : Calls Tryz.prog 32 #[.pointer (some ⟨g, 0, none⟩), .int .i64 1, .int .i64 2] w (DigsPost2 w [leafOf [98]] 0) := by
 have h0 := gproof_calls h (by simp) 1 (n := 2) (by simp)
 rw [show (leavesOf [[97], [98]]).take 2 = [leafOf [97], leafOf [98]] from rfl, if_pos (by decide), if_pos (by decide), show (1 : Int).toNat = 1 from rfl, aw_proofTwo] at h0
 exact h0
theorem Own.litLast {w wr : World} {x : Res w.heap.size} {A B L : List (Res w.heap.size)} (h : Own w wr (x :: (A ++ (B ++ L)))) : Own w wr (A ++ (B ++ (x :: L))) := h.perm (by
 rw [← List.append_assoc, ← List.append_assoc]
 exact List.perm_middle.symm)
theorem gAdd_lit {w w1 : World} {d j t b g : Nat} {room : Int} {bb b' : List UInt8} {size s' : Nat} {fs fs' : FS} {ve vl : Value} {es : List (List UInt8)} {rs : List (Res w.heap.size)} (h : Own w w1 (tRes w.heap.size d j t b nmT ⟨oneT room bb, size, fs, false⟩ ++ (gRes w.heap.size g t ve vl es ++ rs)))
  (hb : (bb.length : Int) ≤ room) (hr : room ≤ 67108864) (hs : size ≤ 1099511627776) (hl : es.length < 1048576) (u : UInt8) (ha : tAppOf ⟨oneT room bb, size, fs, false⟩ nmT [entCh es.length [u]] = (0, ⟨oneT room b', s', fs', false⟩)) :
  Calls Tryz.prog 19 #[.pointer (some ⟨g, 0, none⟩), .slice (some ⟨w1.heap.size, 0, none⟩) 1 1, .slice none 0 0] (w1.alloc (litObj u.toNat)) (fun e w' => ∃ ve vl, e = .returned (.int .i64 0) ∧ Own w w' (tRes w.heap.size d j t b nmT ⟨oneT room b', s', fs', false⟩ ++ (gRes w.heap.size g t ve vl (es ++ [[u]]) ++ (rObj w.heap.size w1.heap.size (litObj u.toNat) :: rs)))) := by
 have h1 := (h.alloc (litObj u.toNat)).litLast
 have hc := gAdd_calls h1 (n := 0) (oneT_good hb hr) (by omega) hs hl (pv := .slice (some ⟨w1.heap.size, 0, none⟩) 1 1) (p := [u]) (by simp) (fun wr ls ho => lit_reads ho (by simp))
 unfold entCh at ha
 rw [ha] at hc
 refine hc.mono ?_
 rintro e w' ⟨ve, vl, rfl, h2⟩
 exact ⟨ve, vl, rfl, by simpa using h2⟩
set_option maxRecDepth 100000 in
set_option maxHeartbeats 4000000 in
theorem awake15_calls (w0 : World) : Calls Tryz.prog 9 #[] w0 (QuietP w0 (.bool true)) := by
 obtain ⟨d, w1, hnew, h1⟩ := (Own.start w0).new 1000 (by omega) (by omega)
 have g1 := Good.new (room := 1000) (by omega) (by omega)
 have hop := opened15_calls h1 g1 (by omega) (by rw [topen_empty]; intro size fs e; cases e; exact ⟨FSorted.nil, (by simp), (by simp), (by simp)⟩)
 rw [topen_empty] at hop
 have HOP := hyd hop
 have HNEW := hyd hnew
 obtain ⟨b1, s1, ha1, hb1, hs1⟩ := add_oneT (room := 1000) (b := []) (size := 0) (fs := []) 0 (p := [97]) (by simp) (by simp)
 clear hop hnew h1 g1
 go_enter Tryz.func9, Tryz.ntmps9
 go_wp2_with fail
 refine HNEW.out.out.mono ?_; rintro e w' ⟨rfl, rfl⟩
 go_wp2_with fail
 refine HOP.out.mono ?_
 rintro e w2 (⟨hn, _⟩ | ⟨size, fs, j, t, b, hres, hg, _⟩ | ⟨size, fs, j, t, b, g, ve, vl, es, hres, hg, rfl, h2⟩)
 ·cases hn
 ·cases hres
  cases hg
 cases hres
 cases hg
 have hcv1 := Lib.run_convert_bytes_const (P := Tryz.prog) w2 36 5 #[.int .u8 97] 1 1 Tryz.underlying36 Tryz.underlying5
 go_wp2_with fail
 have hc1 := gAdd_lit h2 (by simp) (by omega) (by omega) (by simp) 97 ha1
 obtain ⟨b2, s2, ha2, hb2, hs2⟩ := add_oneT (room := 1000) (b := b1) (size := s1) (fs := tdo [] (entCh 0 [97])) 1 (p := [98]) (by simp) (by have h : b1.length ≤ 61 := hb1; simp only [List.length_cons, List.length_nil]; omega)
 generalize tdo [] (entCh 0 [97]) = fs1 at *
 generalize tdo fs1 (entCh 1 [98]) = fs2 at *
 have HC1 := hyd hc1
 have HB := hyd (⟨hb1, hs1, ha2⟩ : _ ∧ _ ∧ _)
 clear hc1 hb1 hs1 ha1 ha2 hcv1 HOP HNEW h2 hb2 hs2
 refine HC1.out.mono ?_
 rintro e w3 ⟨ve3, vl3, rfl, h3⟩
 have hcv2 := Lib.run_convert_bytes_const (P := Tryz.prog) w3 36 5 #[.int .u8 98] 1 1 Tryz.underlying36 Tryz.underlying5
 have hc2 := gAdd_lit h3 (by have h : b1.length ≤ 61 := HB.out.1; omega) (by omega) (by have h : s1 ≤ 61 := (Nat.le_trans HB.out.2.1 (by decide)); omega) (by simp) 98 HB.out.2.2
 have HC2 := hyd hc2
 clear hc2 h3 HC1 HB
 go_wp2_with fail
 refine HC2.out.mono ?_
 rintro e w4 ⟨ve4, vl4, rfl, h4⟩
 have hr1 := aw_root (logAtAdd h4)
 have hq1 := fun W (hk : Keeps (fun _ => False) w4 W) => aw_proof ((logAtAdd h4).keep hk)
 have hs1 := fun W (hk : Keeps (fun _ => False) w4 W) => gsize_runs ((logAtAdd h4).keep hk)
 have hk4 := h4.keeps
 have HR1 := hyd hr1
 have HQ1 := hyd hq1
 have HS1 := hyd hs1
 have HK4 := hyd hk4
 obtain ⟨da, hda⟩ : ∃ da : List Value, da = (leafOf [97]).map u8v := ⟨_, rfl⟩
 obtain ⟨db, hdb⟩ : ∃ db : List Value, db = (leafOf [98]).map u8v := ⟨_, rfl⟩
 have za : da.toArray.size = 32 := by rw [hda]; simp [leafOf_length]
 have oa : da.toArray.all (·.oneCell') = true := by rw [hda]; exact bytes_one _
 have HDA := hyd (⟨hda, za, oa⟩ : da = (leafOf [97]).map u8v ∧ da.toArray.size = 32 ∧ da.toArray.all (·.oneCell') = true)
 have zb : db.toArray.size = 32 := by rw [hdb]; simp [leafOf_length]
 have HDB := hyd (⟨hdb, zb⟩ : db = (leafOf [98]).map u8v ∧ db.toArray.size = 32)
 clear h4 HC2 hcv2 hr1 hq1 hs1 hk4 hda hdb za oa zb
 go_wp2_with fail
 refine HR1.out.mono ?_
 rintro e w5 ⟨rfl, hk5⟩
 rw [← HDA.out.1]
 have HB5 := hyd (heap_alloc_new w5 (.cells zeroC 101))
 have HINF := hyd (dig_info HDA.out.2.1)
 have HZZ := hyd (show zeroC.size = da.toArray.size by rw [HDA.out.2.1]; kernel_rfl)
 have HONE := hyd HDA.out.2.2
 obtain ⟨w6, hw6⟩ : ∃ w6, w6 = (w5.alloc (.cells zeroC 101)).setRow w5.heap.size da.toArray := ⟨_, rfl⟩
 have hr6 : w6.heap[w5.heap.size]? = some (.cells da.toArray 101) := by rw [hw6]; exact setRow_heap _ _ _ _ _ _ HB5.out
 have hk6 : Keeps (fun _ => False) w5 w6 := by rw [hw6]; exact ((Keeps.refl _ w5).alloc _).trans (keeps_setRow _ w5.heap.size da.toArray) (fun b hb e => by omega)
 have HW6 := hyd hw6
 have H6 := hyd (⟨hr6, hk6, hk5⟩ : _ ∧ Keeps (fun _ => False) w5 w6 ∧ Keeps (fun _ => False) w4 w5)
 clear hr6 hk6 hk5 hw6 HR1
 go_wp2_with (refine wpList_store_row rfl 101 _ _ rfl w5.heap.size da.toArray rfl rfl 101 _ HB5.out HINF.out HZZ.out HONE.out ?_)
 change Calls _ _ _ ((w5.alloc (.cells zeroC 101)).setRow w5.heap.size da.toArray) _
 rw [← HW6.out]
 refine (HQ1.out w6 (H6.out.2.2.trans H6.out.2.1 (fun _ _ e => e))).mono ?_
 rintro e w7 ⟨v7, rfl, hd7, hk7⟩
 obtain ⟨gp, pc, rfl, hrp⟩ : ∃ gp pc, v7 = .slice (some ⟨gp, 0, none⟩) 1 pc ∧ w7.rangeAt gp 0 db := by
  obtain ⟨-, a, c, e, -, -, hx⟩ := hd7.ins
  obtain ⟨b, o, e2, hr⟩ := hx 0 _ rfl
  subst e
  subst e2
  rcases hd7.1.2 with ⟨e, -⟩ | ⟨g', cap, cur, e, -⟩
  ·cases e
  ·cases e
   exact ⟨_, _, rfl, by rw [HDB.out.1]; simpa using hr⟩
 have HRA := hyd (fun w' (h : Keeps (fun _ => False) w7 w') => show w'.rangeAt w5.heap.size 0 da from fun k u hu => by
  rw [Nat.zero_add]
  exact cell_at ((hk7.trans h (fun _ _ e => e)).at H6.out.1 (fun e => e)) (by rw [List.getElem?_toArray]; exact hu))
 have HRB := hyd (fun w' (h : Keeps (fun _ => False) w7 w') => show w'.rangeAt gp 0 db from fun k u hu => by
  have hc := hrp k u hu
  rw [World.cell?_of_block (h.block _ (World.block_lt_of_cell? w7 _ hc) (fun e => e))]
  exact hc)
 have HCIda := hyd (show (Tryz.prog.info? 101).map (·.size) = some da.length by have h := dig_info HDA.out.2.1; rw [List.size_toArray] at h; exact h)
 have HCIdb := hyd (show (Tryz.prog.info? 101).map (·.size) = some db.length by have h := dig_info HDB.out.2; rw [List.size_toArray] at h; exact h)
 have HEQA := hyd (show ∀ W, (Op.equalIn 10000 101 (.agg da.toArray) (.agg da.toArray)).run Tryz.prog W = .ok true W from fun W => by rw [HDA.out.1]; have h := dig_eq (leafOf [97]) (leafOf [97]) (leafOf_length _) (leafOf_length _) W; simpa using h)
 have HEQB := hyd (show ∀ W, (Op.equalIn 10000 101 (.agg db.toArray) (.agg db.toArray)).run Tryz.prog W = .ok true W from fun W => by rw [HDB.out.1]; have h := dig_eq (leafOf [98]) (leafOf [98]) (leafOf_length _) (leafOf_length _) W; simpa using h)
 have HLFA := hyd (fun W : World => leaf_calls (w := W.alloc (litObj 97)) (v := .slice (some ⟨W.heap.size, 0, none⟩) 1 1) (p := [97]) (lit_reads (u := 97) ((Own.start W).alloc (litObj 97)) (by simp)) (by simp))
 have HLFB := hyd (fun W : World => leaf_calls (w := W.alloc (litObj 98)) (v := .slice (some ⟨W.heap.size, 0, none⟩) 1 1) (p := [98]) (lit_reads (u := 98) ((Own.start W).alloc (litObj 98)) (by simp)) (by simp))
 have HSZ := hyd (fun W (h : Keeps (fun _ => False) w7 W) => HS1.out W (((H6.out.2.2.trans H6.out.2.1 (fun _ _ e => e)).trans hk7 (fun _ _ e => e)).trans h (fun _ _ e => e)))
 have HK7 := hyd (HK4.out.trans ((H6.out.2.2.trans H6.out.2.1 (fun _ _ e => e)).trans hk7 (fun _ _ e => e)) (fun _ _ e => e))
 unfold litObj at HLFA HLFB
 clear hd7 hk7 hrp HB5 HINF HZZ HONE HW6 HS1 HQ1 HK4 H6
 go_wp2_with fail
 refine wp_region_held_drew (S := fun w' => Keeps (fun _ => False) w7 w') (by kernel_rfl) (by exact (Keeps.refl _ w7).drew) (fun hHeld => ?_)
 refine tkH 0 50 (.int .i64 0) rfl (by kernel_rfl) (by kernel_rfl) (by kernel_rfl) (fun _ _ _ h => h) (Or.inl ⟨by rfl, by intro w hSw; (try dsimp only at hSw); go_simp⟩) hHeld ?_
 try simp only [Act.put, sA, sZ, sS]
 refine tkH 1 51 (.bool true) rfl (by kernel_rfl) (by kernel_rfl) (by kernel_rfl) (fun _ _ _ h => h) (Or.inl ⟨by rfl, by intro w hSw; (try dsimp only at hSw); go_simp⟩) hHeld ?_
 try simp only [Act.put, sA, sZ, sS]
 refine tkH 2 52 (.bool true) rfl (by kernel_rfl) (by kernel_rfl) (by kernel_rfl) (fun _ _ _ h => h) (Or.inl ⟨by rfl, by intro w hSw; (try dsimp only at hSw); go_simp⟩) hHeld ?_
 try simp only [Act.put, sA, sZ, sS]
 refine tkH 3 53 (.int .i64 0) rfl (by kernel_rfl) (by kernel_rfl) (by kernel_rfl) (fun _ _ _ h => h) (Or.inl ⟨by rfl, by intro w hSw; (try dsimp only at hSw); go_simp⟩) hHeld ?_
 try simp only [Act.put, sA, sZ, sS]
 refine tkH 4 54 (.bool true) rfl (by kernel_rfl) (by kernel_rfl) (by kernel_rfl) (fun _ _ _ h => h) (Or.inl ⟨by rfl, by intro w hSw; (try dsimp only at hSw); go_simp⟩) hHeld ?_
 try simp only [Act.put, sA, sZ, sS]
 refine tkH 5 55 (.bool true) rfl (by kernel_rfl) (by kernel_rfl) (by kernel_rfl) (fun _ _ _ h => h) (Or.inl ⟨by rfl, by intro w hSw; (try dsimp only at hSw); go_simp⟩) hHeld ?_
 try simp only [Act.put, sA, sZ, sS]
 refine tkH 6 56 (.bool true) rfl (by kernel_rfl) (by kernel_rfl) (by kernel_rfl) (fun _ _ _ h => h) (Or.inl ⟨by rfl, by intro w hSw; (try dsimp only at hSw); go_simp⟩) hHeld ?_
 try simp only [Act.put, sA, sZ, sS]
 refine tkH 7 57 (.agg (da).toArray) rfl (by kernel_rfl) (by kernel_rfl) (by kernel_rfl) (fun _ _ _ h => h) (yieldsIf_load_mid (by rfl) _ _ rfl (w5.heap.size) 0 rfl (da) _ (fun w' h => HRA.out w' h) Tryz.underlying101 rfl HCIda.out) hHeld ?_
 try simp only [Act.put, sA, sZ, sS]
 refine wpAnyH_ready (rs := [8]) (by kernel_rfl) (by simp) ?_
 refine AllReadyH.cons (o := { dst := some 58, op := _, type := _, pos := _, after := _, guard := _ }) rfl (fun K hK => ?_) AllReadyH.nil
 go_simp
 refine hK.out _ _ (by exact hHeld.trans ((Keeps.refl _ _).alloc _) (fun _ _ e => e)) (fun hHeld1 => ?_)
 clear hK K
 try simp only [Act.put, sA, sZ, sS]
 refine wpAnyH_ready (rs := [9]) (by kernel_rfl) (by simp) ?_
 refine AllReadyH.cons (o := { dst := some 59, op := _, type := _, pos := _, after := _, guard := _ }) rfl (fun K hK => ?_) AllReadyH.nil
 have hcv : (convert 36 36 (.slice (some ⟨w7.heap.size, 0, none⟩) 1 1)).run Tryz.prog (w7.alloc (.cells #[.int .u8 97] 5)).drew = .ok (.slice (some ⟨w7.heap.size, 0, none⟩) 1 1) (w7.alloc (.cells #[.int .u8 97] 5 (1, 2))).drew := Lib.run_convert_bytes_const (P := Tryz.prog) w7.drew 36 5 #[.int .u8 97] 1 1 Tryz.underlying36 Tryz.underlying5
 go_simp
 clear hcv
 refine hK.out _ _ (by exact ((Keeps.refl _ w7).alloc _).drew) (fun hHeld2 => ?_)
 clear hK K
 try simp only [Act.put, sA, sZ, sS]
 refine wpAnyH_ready (rs := [10]) (by kernel_rfl) (by simp) ?_
 refine AllReadyH.cons (o := { dst := some 60, op := _, type := _, pos := _, after := _, guard := _ }) rfl (fun K hK => ?_) AllReadyH.nil
 go_simp
 go_at_call 33
 refine (HLFA.out w7.drew).mono ?_
 rintro e w8 ⟨rfl, hk8⟩
 rw [← HDA.out.1]
 refine hK.out _ _ (by exact hHeld2.trans hk8 (fun _ _ e => e)) (fun hHeld3 => ?_)
 clear hK K
 try simp only [Act.put, sA, sZ, sS]
 have heq := HEQA.out
 refine tkH 11 61 (.bool true) rfl (by kernel_rfl) (by kernel_rfl) (by kernel_rfl) (fun _ _ _ h => h) (Or.inl ⟨by rfl, by intro w hSw; (try dsimp only at hSw); go_simp⟩) hHeld3 ?_
 try simp only [Act.put, sA, sZ, sS]
 refine tkH 12 62 (.bool true) rfl (by kernel_rfl) (by kernel_rfl) (by kernel_rfl) (fun _ _ _ h => h) (Or.inl ⟨by rfl, by intro w hSw; (try dsimp only at hSw); go_simp⟩) hHeld3 ?_
 try simp only [Act.put, sA, sZ, sS]
 refine tkH 13 63 (.bool true) rfl (by kernel_rfl) (by kernel_rfl) (by kernel_rfl) (fun _ _ _ h => h) (Or.inl ⟨by rfl, by intro w hSw; (try dsimp only at hSw); go_simp⟩) hHeld3 ?_
 try simp only [Act.put, sA, sZ, sS]
 refine tkH 14 64 (.slice (some ⟨gp, 0, none⟩) 1 pc) rfl (by kernel_rfl) (by kernel_rfl) (by kernel_rfl) (fun _ _ _ h => h) (Or.inl ⟨by rfl, by intro w hSw; (try dsimp only at hSw); go_simp⟩) hHeld3 ?_
 try simp only [Act.put, sA, sZ, sS]
 refine tkH 15 65 (.int .i64 1) rfl (by kernel_rfl) (by kernel_rfl) (by kernel_rfl) (fun _ _ _ h => h) (Or.inl ⟨by rfl, by intro w hSw; (try dsimp only at hSw); go_simp⟩) hHeld3 ?_
 try simp only [Act.put, sA, sZ, sS]
 refine tkH 16 66 (.bool true) rfl (by kernel_rfl) (by kernel_rfl) (by kernel_rfl) (fun _ _ _ h => h) (Or.inl ⟨by rfl, by intro w hSw; (try dsimp only at hSw); go_simp⟩) hHeld3 ?_
 try simp only [Act.put, sA, sZ, sS]
 refine tkH 17 67 (.bool true) rfl (by kernel_rfl) (by kernel_rfl) (by kernel_rfl) (fun _ _ _ h => h) (Or.inl ⟨by rfl, by intro w hSw; (try dsimp only at hSw); go_simp⟩) hHeld3 ?_
 try simp only [Act.put, sA, sZ, sS]
 refine tkH 18 68 (.bool true) rfl (by kernel_rfl) (by kernel_rfl) (by kernel_rfl) (fun _ _ _ h => h) (Or.inl ⟨by rfl, by intro w hSw; (try dsimp only at hSw); go_simp⟩) hHeld3 ?_
 try simp only [Act.put, sA, sZ, sS]
 refine tkH 19 69 (.slice (some ⟨gp, 0, none⟩) 1 pc) rfl (by kernel_rfl) (by kernel_rfl) (by kernel_rfl) (fun _ _ _ h => h) (Or.inl ⟨by rfl, by intro w hSw; (try dsimp only at hSw); go_simp⟩) hHeld3 ?_
 try simp only [Act.put, sA, sZ, sS]
 refine tkH 20 70 (.pointer (some ⟨gp, 0, none⟩)) rfl (by kernel_rfl) (by kernel_rfl) (by kernel_rfl) (fun _ _ _ h => h) (Or.inl ⟨by rfl, by intro w hSw; (try dsimp only at hSw); go_simp⟩) hHeld3 ?_
 try simp only [Act.put, sA, sZ, sS]
 refine tkH 21 71 (.agg (db).toArray) rfl (by kernel_rfl) (by kernel_rfl) (by kernel_rfl) (fun _ _ _ h => h) (yieldsIf_load_mid (by rfl) _ _ rfl (gp) 0 rfl (db) _ (fun w' h => HRB.out w' h) Tryz.underlying101 rfl HCIdb.out) hHeld3 ?_
 try simp only [Act.put, sA, sZ, sS]
 clear heq
 refine wpAnyH_ready (rs := [22]) (by kernel_rfl) (by simp) ?_
 refine AllReadyH.cons (o := { dst := some 72, op := _, type := _, pos := _, after := _, guard := _ }) rfl (fun K hK => ?_) AllReadyH.nil
 go_simp
 refine hK.out _ _ (by exact hHeld3.trans ((Keeps.refl _ _).alloc _) (fun _ _ e => e)) (fun hHeld4 => ?_)
 clear hK K
 try simp only [Act.put, sA, sZ, sS]
 refine wpAnyH_ready (rs := [23]) (by kernel_rfl) (by simp) ?_
 refine AllReadyH.cons (o := { dst := some 73, op := _, type := _, pos := _, after := _, guard := _ }) rfl (fun K hK => ?_) AllReadyH.nil
 have hcv := Lib.run_convert_bytes_const (P := Tryz.prog) w8 36 5 #[.int .u8 98] 1 1 Tryz.underlying36 Tryz.underlying5
 go_simp
 clear hcv
 refine hK.out _ _ (by exact hHeld3.trans ((Keeps.refl _ _).alloc _) (fun _ _ e => e)) (fun hHeld5 => ?_)
 clear hK K
 try simp only [Act.put, sA, sZ, sS]
 refine wpAnyH_ready (rs := [24]) (by kernel_rfl) (by simp) ?_
 refine AllReadyH.cons (o := { dst := some 74, op := _, type := _, pos := _, after := _, guard := _ }) rfl (fun K hK => ?_) AllReadyH.nil
 go_simp
 go_at_call 33
 refine (HLFB.out w8).mono ?_
 rintro e w9 ⟨rfl, hk9⟩
 rw [← HDB.out.1]
 refine hK.out _ _ (by exact hHeld5.trans hk9 (fun _ _ e => e)) (fun hHeld6 => ?_)
 clear hK K
 try simp only [Act.put, sA, sZ, sS]
 have heq := HEQB.out
 refine tkH 25 75 (.bool true) rfl (by kernel_rfl) (by kernel_rfl) (by kernel_rfl) (fun _ _ _ h => h) (Or.inl ⟨by rfl, by intro w hSw; (try dsimp only at hSw); go_simp⟩) hHeld6 ?_
 try simp only [Act.put, sA, sZ, sS]
 refine tkH 26 76 (.bool true) rfl (by kernel_rfl) (by kernel_rfl) (by kernel_rfl) (fun _ _ _ h => h) (Or.inl ⟨by rfl, by intro w hSw; (try dsimp only at hSw); go_simp⟩) hHeld6 ?_
 try simp only [Act.put, sA, sZ, sS]
 refine tkH 27 77 (.bool true) rfl (by kernel_rfl) (by kernel_rfl) (by kernel_rfl) (fun _ _ _ h => h) (Or.inl ⟨by rfl, by intro w hSw; (try dsimp only at hSw); go_simp⟩) hHeld6 ?_
 try simp only [Act.put, sA, sZ, sS]
 refine tkH 28 78 (.pointer (some ⟨g, 0, none⟩)) rfl (by kernel_rfl) (by kernel_rfl) (by kernel_rfl) (fun _ _ _ h => h) (Or.inl ⟨by rfl, by intro w hSw; (try dsimp only at hSw); go_simp⟩) hHeld6 ?_
 try simp only [Act.put, sA, sZ, sS]
 clear heq
 refine wpAnyH_ready (rs := [29]) (by kernel_rfl) (by simp) ?_
 refine AllReadyH.cons (o := { dst := some 79, op := _, type := _, pos := _, after := _, guard := _ }) rfl (fun K hK => ?_) AllReadyH.nil
 go_simp
 go_at_call 15
 refine (HSZ.out _ hHeld6).out.mono ?_
 rintro e w' ⟨rfl, rfl⟩
 refine hK.out _ _ (by exact hHeld6) (fun hHeld7 => ?_)
 clear hK K
 try simp only [Act.put, sA, sZ, sS]
 refine tkH 30 80 (.bool true) rfl (by kernel_rfl) (by kernel_rfl) (by kernel_rfl) (fun _ _ _ h => h) (Or.inl ⟨by rfl, by intro w hSw; (try dsimp only at hSw); go_simp⟩) hHeld7 ?_
 try simp only [Act.put, sA, sZ, sS]
 refine tkH 31 81 (.bool true) rfl (by kernel_rfl) (by kernel_rfl) (by kernel_rfl) (fun _ _ _ h => h) (Or.inl ⟨by rfl, by intro w hSw; (try dsimp only at hSw); go_simp⟩) hHeld7 ?_
 try simp only [Act.put, sA, sZ, sS]
 refine tkH 32 0 (.bool true) rfl (by kernel_rfl) (by kernel_rfl) (by kernel_rfl) (fun _ _ _ h => h) (Or.inl ⟨by rfl, by intro w hSw; (try dsimp only at hSw); go_simp⟩) hHeld7 ?_
 try simp only [Act.put, List.setIfInBounds_toArray, List.set_cons_zero]
 refine wpAnyH_done (by kernel_rfl) ?_ _
 have HF := hyd (HK7.out.trans hHeld7 (fun _ _ e => e))
 go_wp2_with fail
 go_ret
 exact ⟨rfl, HF.out⟩
end Go.Proofs.YtddnikpdmjogiaaGreat
