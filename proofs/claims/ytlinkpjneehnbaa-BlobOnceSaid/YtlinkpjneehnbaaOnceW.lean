/- The walk of BlobOnce. -/
import Derived.Test.YtlinkpjneehnbaaAwakeB
import Derived.Test.YtlinkpjneehnbaaSame
namespace Go.Proofs.Ytlinkpjneehnbaa
set_option linter.unusedVariables false
set_option linter.unusedSimpArgs false
open Go.RowKit Go.MapKept

theorem Own.used {w wr : World} {d : Nat} {m : DM} {rs : List (Res w.heap.size)} (h : Own w wr (rDisk w.heap.size d m :: rs)) (hu : Go.Proofs.Ytlinkpjneehnbaa.used m.now ≤ 4611686018427387904) : Calls Try.prog 22 #[.pointer (some ⟨d, 0, none⟩)] wr (QuietP wr (.int .i64 (Go.Proofs.Ytlinkpjneehnbaa.used m.now : Int))) := by
  obtain ⟨F, h1, _⟩ := h.disk
  exact used_calls h1 hu
theorem Own.fused {w wr : World} {d : Nat} {m : DM} {rs : List (Res w.heap.size)} (h : Own w wr (rDisk w.heap.size d m :: rs)) (n : Int) :
    ∃ w', Runs 44 #[.pointer (some ⟨d, 0, none⟩), .int .i64 n] wr (.int .i64 (fuseOf m n).1) w' ∧ Own w w' (rDisk w.heap.size d (fuseOf m n).2 :: rs) := by
  obtain ⟨F, h1, back⟩ := h.disk
  obtain ⟨w', hr, h2, k⟩ := fuse_runs h1 n
  exact ⟨w', hr, (back _ (.returned (.int .i64 (fuseOf m n).1)) w' ⟨rfl, h2, k⟩).2⟩
theorem Reads.cutO {w : World} {a : Option Addr} {n c : Nat} {l : List UInt8} (h : Reads w (.slice a n c) l) (i j : Nat) (hij : i + j ≤ l.length) : Reads w (.slice (if c = i then a else Option.map (fun x => x.add i) a) j (c - i)) ((l.drop i).take j) := by
  cases a with
  | none =>
    rcases h with ⟨e, rfl⟩ | ⟨x, c', e, _⟩
    · cases e
      simp at hij
      obtain ⟨rfl, rfl⟩ := hij
      exact .inl ⟨rfl, rfl⟩
    · cases e
  | some x =>
    have h2 := h.cut i j hij
    by_cases hc : c = i
    · rw [if_pos hc] at h2 ⊢; exact h2
    · rw [if_neg hc] at h2 ⊢; exact h2
theorem blob_used (room : Int) (D p : List UInt8) : used (blobM room D p).now = p.length := by simp [blobM, used]
theorem blob_fuse0 (room : Int) (D p : List UInt8) : fuseOf (blobM room D p) 0 = (0, { blobM room D p with fuse := 0 }) := rfl
theorem blob_fuse1 (room : Int) (D p : List UInt8) : fuseOf { blobM room D p with fuse := 0 } (-1) = (0, blobM room D p) := rfl
set_option maxRecDepth 100000 in
set_option maxHeartbeats 2000000 in
theorem once_walk (a : Option Addr) (cap : Nat) (l : List UInt8) (x y : Int) (w0 : World) (hrd : Reads w0 (.slice a l.length cap) l) (hx : (Lit.int .i64 x).wf = true) (hy : (Lit.int .i64 y).wf = true) :
    Calls Try.prog 9 #[.slice a l.length cap, .int .i64 x, .int .i64 y] w0 fun e w' => e = .returned (.bool true) ∧ Below w0.heap.size w0 w' := by
  obtain ⟨d, w1, hnew, h1⟩ := (Own.start w0).new 2097152 (by omega) (by omega)
  have g1 := Good.new (room := 2097152) (by omega) (by omega)
  have hbn := bnew_calls h1 g1 (by omega)
  rw [bnew_new] at hbn
  have HBN := Lib.hid hbn
  have G1 := Lib.hid g1
  obtain ⟨n, hn⟩ : ∃ n, n = l.length := ⟨_, rfl⟩
  clear h1 hbn g1
  by_cases hbig : 1048576 < l.length
  · have hb : decide ((1048576 : Int) < (n : Int)) = true := by rw [hn]; exact decide_eq_true (by omega)
    rw [← hn]
    clear hn hbig hrd hx hy
    go_enter Try.func9, Try.ntmps9
    go_wp2_with fail
    refine hnew.out.mono ?_; rintro e w' ⟨rfl, rfl⟩
    go_wp2_with fail
    refine HBN.out.mono ?_
    rintro e w2 (⟨hnn, _⟩ | ⟨_, st, rfl, h2⟩)
    · exact absurd rfl hnn
    go_wp2_with fail
    refine (awakeB_calls _).mono ?_; rintro e w3 ⟨rfl, hk3⟩
    go_wp2_with fail
    refine (awakeB_calls _).mono ?_; rintro e w4 ⟨rfl, hk4⟩
    have HB := Lib.hid ((h2.quiet hk3).quiet hk4).below
    clear h2 hk3 hk4 HBN hnew
    go_wp2_with fail
    go_ret
    exact ⟨rfl, HB.out⟩
  · have hb : decide ((1048576 : Int) < (n : Int)) = false := by rw [hn]; exact decide_eq_false (by omega)
    have hll : l.length ≤ 1048576 := by omega
    obtain ⟨D, hD⟩ : ∃ D, D = sumOf l := ⟨_, rfl⟩
    obtain ⟨cl, hcl⟩ : ∃ cl : List Value, cl = D.map u8v := ⟨_, rfl⟩
    have hDl : D.length = 32 := by rw [hD]; exact sumOf_length _
    have hput1 : ∀ (wr : World) (rs : List (Res w0.heap.size)) (st : Nat), Own w0 wr (rDisk w0.heap.size d (newOf 2097152) :: rs) → rObj w0.heap.size st (.cells #[.pointer (some ⟨d, 0, none⟩)] 146) ∈ rs →
        Calls Try.prog 43 #[.pointer (some ⟨st, 0, none⟩), .slice a n cap] wr (fun e w' => e = .returned (.tuple #[.agg cl.toArray, .int .i64 0]) ∧ Own w0 w' (rDisk w0.heap.size d (blobM 2097152 D l) :: rs)) := fun wr rs st h hst => by
      have hp := bput_calls h hst G1.out (by omega) (pv := .slice a l.length cap) (p := l) (fun W m' ho => hrd.keep ho.keeps) (by omega)
      rw [bput_new 2097152 l hll (by omega), ← hD, ← hn] at hp
      rw [hcl]; exact hp
    have hput2 : ∀ (wr : World) (rs : List (Res w0.heap.size)) (st : Nat), Own w0 wr (rDisk w0.heap.size d { blobM 2097152 D l with fuse := 0 } :: rs) → rObj w0.heap.size st (.cells #[.pointer (some ⟨d, 0, none⟩)] 146) ∈ rs →
        Calls Try.prog 43 #[.pointer (some ⟨st, 0, none⟩), .slice a n cap] wr (fun e w' => e = .returned (.tuple #[.agg cl.toArray, .int .i64 0]) ∧ Own w0 w' (rDisk w0.heap.size d { blobM 2097152 D l with fuse := 0 } :: rs)) := fun wr rs st h hst => by
      have hp := bput_calls h hst (blob_good 2097152 D l 0 (by omega) (by omega) (by omega) (by omega)) (by omega) (pv := .slice a l.length cap) (p := l) (fun W m' ho => hrd.keep ho.keeps) (by omega)
      have hb2 := bput_again 2097152 l 0 hll
      rw [← hD] at hb2
      rw [hb2, ← hn] at hp
      rw [hcl]; exact hp
    have hsum : ∀ (W : World), Keeps (fun _ => False) w0 W → Calls Try.prog 45 #[.slice a n cap] W (QuietP W (.agg cl.toArray)) := fun W hk => by
      have h := sum_calls (hrd.keep hk) (by omega)
      rw [← hD, ← hcl, ← hn] at h
      exact h
    have hused : ∀ (W : World) (rs : List (Res w0.heap.size)), Own w0 W (rDisk w0.heap.size d (blobM 2097152 D l) :: rs) → Calls Try.prog 22 #[.pointer (some ⟨d, 0, none⟩)] W (QuietP W (.int .i64 (n : Int))) := fun W rs h => by
      have h := h.used (by rw [blob_used]; omega)
      rw [blob_used, ← hn] at h
      exact h
    have HPUT1 := Lib.hid hput1
    have HPUT2 := Lib.hid hput2
    have HSUM := Lib.hid hsum
    have HUSED := Lib.hid hused
    have HRD := Lib.hid hrd
    have HLL := Lib.hid hll
    have HI := Lib.hid (dig_info (ds := cl.toArray) (by rw [hcl]; simp [hDl]))
    have HONE := Lib.hid (show cl.toArray.all (·.oneCell') = true by rw [hcl]; exact bytes_one _)
    have HSZ := Lib.hid (show cl.toArray.size = 32 by rw [hcl]; simp [hDl])
    have HCL := Lib.hid hcl
    have HD := Lib.hid hD
    have HDL := Lib.hid hDl
    have HN := Lib.hid hn
    rw [← hn]
    clear hbig hrd hll hD hcl hDl hput1 hput2 hsum hused hn
    go_enter Try.func9, Try.ntmps9
    go_wp2_with fail
    refine hnew.out.mono ?_; rintro e w' ⟨rfl, rfl⟩
    go_wp2_with fail
    refine HBN.out.mono ?_
    rintro e w2 (⟨hnn, _⟩ | ⟨_, st, rfl, h2⟩)
    · exact absurd rfl hnn
    go_wp2_with fail
    refine (awakeB_calls _).mono ?_; rintro e w3 ⟨rfl, hk3⟩
    have H3 := Lib.hid (h2.quiet hk3)
    clear HBN hnew h2 hk3
    go_wp2_with fail
    refine (HPUT1.out _ _ _ H3.out (by simp)).mono ?_
    rintro e w4 ⟨rfl, h4⟩
    obtain ⟨w6, hf5, h6⟩ := (h4.alloc2 (.cells cl.toArray 58)).fused 0
    rw [blob_fuse0] at hf5 h6
    have HF5 := Lib.hid hf5
    have H6 := Lib.hid h6
    have HP2 := Lib.hid (HPUT2.out _ _ st h6 (by simp))
    clear H3 h4 hf5 h6 HPUT1 HPUT2
    go_wp2_with (first | (refine wpList_store_row rfl 58 _ _ rfl w4.heap.size cl.toArray rfl rfl 58 _ (heap_alloc_new w4 _) HI.out (by rw [HSZ.out]; kernel_rfl) HONE.out ?_; rw [World.setRow_alloc_new]))
    refine HF5.out.out.mono ?_; rintro e w' ⟨rfl, rfl⟩
    go_wp2_with fail
    refine HP2.out.mono ?_
    rintro e w7 ⟨rfl, h7⟩
    obtain ⟨w8, hf8, h8⟩ := (h7.alloc2 (.cells cl.toArray 58)).fused (-1)
    rw [blob_fuse1] at hf8 h8
    have HF8 := Lib.hid hf8
    have H8 := Lib.hid h8
    clear HF5 H6 HP2 h7 hf8 h8
    go_wp2_with (first | (refine wpList_store_row rfl 58 _ _ rfl w7.heap.size cl.toArray rfl rfl 58 _ (heap_alloc_new w7 _) HI.out (by rw [HSZ.out]; kernel_rfl) HONE.out ?_; rw [World.setRow_alloc_new]))
    refine HF8.out.out.mono ?_; rintro e w' ⟨rfl, rfl⟩
    go_wp2_with fail
    have hb1 := (H8.out.at (b := w4.heap.size) (o := .cells cl.toArray 58) (by simp)).1
    have hb2 := (H8.out.at (b := w7.heap.size) (o := .cells cl.toArray 58) (by simp)).1
    have hck : ∀ W, Keeps (fun _ => False) w8.drew W → W.rangeAt w4.heap.size 0 cl ∧ W.rangeAt w7.heap.size 0 cl := fun W hk => ⟨fun k v hv => by
      rw [Nat.zero_add]
      exact cell_at (hk.at (w := w8.drew) hb1 (fun e => e)) (by rw [List.getElem?_toArray]; exact hv), fun k v hv => by
      rw [Nat.zero_add]
      exact cell_at (hk.at (w := w8.drew) hb2 (fun e => e)) (by rw [List.getElem?_toArray]; exact hv)⟩
    have heq := fun W => dig_eq D D HDL.out HDL.out W
    rw [← HCL.out, decide_eq_true rfl] at heq
    have hund := Try.underlying58
    have hinfo : (Try.prog.info? 58).map (·.size) = some cl.length := HI.out
    have hkd : Keeps (fun _ => False) w8 w8.drew := (Keeps.refl _ w8).drew
    have HS9 := Lib.hid (HSUM.out w8.drew (H8.out.keeps.trans hkd (fun _ _ e => e)))
    have HU9 := Lib.hid (fun (W : World) (hk : Keeps (fun _ => False) w8.drew W) => HUSED.out W _ (H8.out.quiet (hkd.trans hk (fun _ _ e => e))))
    have HC0 := Lib.hid (hck _ (Keeps.refl _ _))
    have HCK := Lib.hid hck
    have HKD := Lib.hid hkd
    clear hb1 hb2 hck hkd
    refine wp_region_held_drew (S := fun w' => w'.rangeAt w4.heap.size 0 cl ∧ w'.rangeAt w7.heap.size 0 cl) (by kernel_rfl) (by exact HC0.out) (fun hHeld => ?_)
    refine wpAnyH_take (i := 0) (oi := { dst := some 54, op := Op.move (Operand.tmp 12), type := 25, pos := "law.go:234", after := #[], guard := none }) (v := .int .i64 0) rfl (by kernel_rfl) (by kernel_rfl) (by kernel_rfl) (fun _ _ _ h => h) (Or.inl ⟨by rfl, by intro w hSw; (try dsimp only at hSw); go_simp⟩) hHeld ?_
    try simp only [Act.put, List.setIfInBounds_toArray, List.set_cons_zero, List.set_cons_succ]
    refine wpAnyH_take (i := 1) (oi := { dst := some 55, op := Op.binOp BinOp.neq 25 (Operand.tmp 54) (Operand.const (Value.int IntKind.i64 0)) 25, type := 4, pos := "law.go:234", after := #[{ on := 0, ground := Ground.data }], guard := none }) (v := .bool false) rfl (by kernel_rfl) (by kernel_rfl) (by kernel_rfl) (fun _ _ _ h => h) (Or.inl ⟨by rfl, by intro w hSw; (try dsimp only at hSw); go_simp⟩) hHeld ?_
    try simp only [Act.put, List.setIfInBounds_toArray, List.set_cons_zero, List.set_cons_succ]
    refine wpAnyH_take (i := 2) (oi := { dst := some 56, op := Op.move (Operand.tmp 55), type := 4, pos := "law.go:234", after := #[{ on := 1, ground := Ground.data }], guard := none }) (v := .bool false) rfl (by kernel_rfl) (by kernel_rfl) (by kernel_rfl) (fun _ _ _ h => h) (Or.inl ⟨by rfl, by intro w hSw; (try dsimp only at hSw); go_simp⟩) hHeld ?_
    try simp only [Act.put, List.setIfInBounds_toArray, List.set_cons_zero, List.set_cons_succ]
    refine wpAnyH_take (i := 3) (oi := { dst := some 57, op := Op.move (Operand.tmp 14), type := 25, pos := "law.go:234", after := #[{ on := 2, ground := Ground.guard }], guard := some (2, false) }) (v := .int .i64 0) rfl (by kernel_rfl) (by kernel_rfl) (by kernel_rfl) (fun _ _ _ h => h) (Or.inl ⟨by rfl, by intro w hSw; (try dsimp only at hSw); go_simp⟩) hHeld ?_
    try simp only [Act.put, List.setIfInBounds_toArray, List.set_cons_zero, List.set_cons_succ]
    refine wpAnyH_take (i := 4) (oi := { dst := some 58, op := Op.binOp BinOp.neq 25 (Operand.tmp 57) (Operand.const (Value.int IntKind.i64 0)) 25, type := 4, pos := "law.go:234", after := #[{ on := 3, ground := Ground.data }, { on := 2, ground := Ground.guard }], guard := some (2, false) }) (v := .bool false) rfl (by kernel_rfl) (by kernel_rfl) (by kernel_rfl) (fun _ _ _ h => h) (Or.inl ⟨by rfl, by intro w hSw; (try dsimp only at hSw); go_simp⟩) hHeld ?_
    try simp only [Act.put, List.setIfInBounds_toArray, List.set_cons_zero, List.set_cons_succ]
    refine wpAnyH_take (i := 5) (oi := { dst := some 59, op := Op.pick (Operand.tmp 56) (Operand.const (Value.bool true)) (Operand.tmp 58), type := 4, pos := "law.go:234", after := #[{ on := 2, ground := Ground.data }, { on := 4, ground := Ground.data }], guard := none }) (v := .bool false) rfl (by kernel_rfl) (by kernel_rfl) (by kernel_rfl) (fun _ _ _ h => h) (Or.inl ⟨by rfl, by intro w hSw; (try dsimp only at hSw); go_simp⟩) hHeld ?_
    try simp only [Act.put, List.setIfInBounds_toArray, List.set_cons_zero, List.set_cons_succ]
    refine wpAnyH_take (i := 6) (oi := { dst := some 60, op := Op.move (Operand.tmp 59), type := 4, pos := "law.go:234", after := #[{ on := 5, ground := Ground.data }, { on := 2, ground := Ground.chain }], guard := none }) (v := .bool false) rfl (by kernel_rfl) (by kernel_rfl) (by kernel_rfl) (fun _ _ _ h => h) (Or.inl ⟨by rfl, by intro w hSw; (try dsimp only at hSw); go_simp⟩) hHeld ?_
    try simp only [Act.put, List.setIfInBounds_toArray, List.set_cons_zero, List.set_cons_succ]
    refine wpAnyH_take (i := 7) (oi := { dst := some 61, op := Op.load 58 (Operand.tmp 11), type := 58, pos := "law.go:234", after := #[{ on := 6, ground := Ground.guard }], guard := some (6, false) }) (v := .agg (cl).toArray) rfl (by kernel_rfl) (by kernel_rfl) (by kernel_rfl) (fun _ _ _ h => h) (yieldsIf_load_mid (by rfl) _ _ rfl (w4.heap.size) 0 rfl (cl) _ (fun _ h => h.1) hund rfl hinfo) hHeld ?_
    try simp only [Act.put, List.setIfInBounds_toArray, List.set_cons_zero, List.set_cons_succ]
    refine wpAnyH_take (i := 8) (oi := { dst := some 62, op := Op.load 58 (Operand.tmp 13), type := 58, pos := "law.go:234", after := #[{ on := 6, ground := Ground.guard }], guard := some (6, false) }) (v := .agg (cl).toArray) rfl (by kernel_rfl) (by kernel_rfl) (by kernel_rfl) (fun _ _ _ h => h) (yieldsIf_load_mid (by rfl) _ _ rfl (w7.heap.size) 0 rfl (cl) _ (fun _ h => h.2) hund rfl hinfo) hHeld ?_
    try simp only [Act.put, List.setIfInBounds_toArray, List.set_cons_zero, List.set_cons_succ]
    refine wpAnyH_take (i := 9) (oi := { dst := some 63, op := Op.binOp BinOp.neq 58 (Operand.tmp 61) (Operand.tmp 62) 58, type := 4, pos := "law.go:234", after := #[{ on := 7, ground := Ground.data }, { on := 8, ground := Ground.data }, { on := 6, ground := Ground.guard }], guard := some (6, false) }) (v := .bool false) rfl (by kernel_rfl) (by kernel_rfl) (by kernel_rfl) (fun _ _ _ h => h) (Or.inl ⟨by rfl, by intro w hSw; (try dsimp only at hSw); go_simp⟩) hHeld ?_
    try simp only [Act.put, List.setIfInBounds_toArray, List.set_cons_zero, List.set_cons_succ]
    refine wpAnyH_take (i := 10) (oi := { dst := some 64, op := Op.pick (Operand.tmp 60) (Operand.const (Value.bool true)) (Operand.tmp 63), type := 4, pos := "law.go:234", after := #[{ on := 6, ground := Ground.data }, { on := 9, ground := Ground.data }], guard := none }) (v := .bool false) rfl (by kernel_rfl) (by kernel_rfl) (by kernel_rfl) (fun _ _ _ h => h) (Or.inl ⟨by rfl, by intro w hSw; (try dsimp only at hSw); go_simp⟩) hHeld ?_
    try simp only [Act.put, List.setIfInBounds_toArray, List.set_cons_zero, List.set_cons_succ]
    refine wpAnyH_take (i := 11) (oi := { dst := some 65, op := Op.move (Operand.tmp 64), type := 4, pos := "law.go:234", after := #[{ on := 10, ground := Ground.data }, { on := 6, ground := Ground.chain }], guard := none }) (v := .bool false) rfl (by kernel_rfl) (by kernel_rfl) (by kernel_rfl) (fun _ _ _ h => h) (Or.inl ⟨by rfl, by intro w hSw; (try dsimp only at hSw); go_simp⟩) hHeld ?_
    try simp only [Act.put, List.setIfInBounds_toArray, List.set_cons_zero, List.set_cons_succ]
    refine wpAnyH_take (i := 12) (oi := { dst := some 66, op := Op.load 58 (Operand.tmp 11), type := 58, pos := "law.go:234", after := #[{ on := 11, ground := Ground.guard }], guard := some (11, false) }) (v := .agg (cl).toArray) rfl (by kernel_rfl) (by kernel_rfl) (by kernel_rfl) (fun _ _ _ h => h) (yieldsIf_load_mid (by rfl) _ _ rfl (w4.heap.size) 0 rfl (cl) _ (fun _ h => h.1) hund rfl hinfo) hHeld ?_
    try simp only [Act.put, List.setIfInBounds_toArray, List.set_cons_zero, List.set_cons_succ]
    refine wpAnyH_take (i := 13) (oi := { dst := some 67, op := Op.move (Operand.tmp 0), type := 31, pos := "law.go:234", after := #[{ on := 11, ground := Ground.guard }], guard := some (11, false) }) (v := .slice a n cap) rfl (by kernel_rfl) (by kernel_rfl) (by kernel_rfl) (fun _ _ _ h => h) (Or.inl ⟨by rfl, by intro w hSw; (try dsimp only at hSw); go_simp⟩) hHeld ?_
    try simp only [Act.put, List.setIfInBounds_toArray, List.set_cons_zero, List.set_cons_succ]
    refine wpAnyH_ready (rs := [14]) (by kernel_rfl) (by simp) ?_
    refine AllReadyH.cons (o := { dst := some 68, op := Op.call { callee := Callee.value (Operand.func 45), args := #[Operand.tmp 67], argTypes := #[31] }, type := 58, pos := "law.go:234", after := #[{ on := 13, ground := Ground.data }, { on := 11, ground := Ground.chain }, { on := 11, ground := Ground.guard }], guard := some (11, false) }) rfl (fun K hK => ?_) AllReadyH.nil
    go_simp
    go_at_call 45
    refine HS9.out.mono ?_
    rintro e w9 ⟨rfl, hk9⟩
    go_simp
    refine hK.out _ _ (by exact HCK.out _ hk9) (fun hHeld1 => ?_)
    clear hK K
    try simp only [Act.put, List.setIfInBounds_toArray, List.set_cons_zero, List.set_cons_succ]
    clear hHeld
    refine wpAnyH_take (i := 15) (oi := { dst := some 69, op := Op.binOp BinOp.neq 58 (Operand.tmp 66) (Operand.tmp 68) 58, type := 4, pos := "law.go:234", after := #[{ on := 12, ground := Ground.data }, { on := 14, ground := Ground.data }, { on := 11, ground := Ground.guard }], guard := some (11, false) }) (v := .bool false) rfl (by kernel_rfl) (by kernel_rfl) (by kernel_rfl) (fun _ _ _ h => h) (Or.inl ⟨by rfl, by intro w hSw; (try dsimp only at hSw); go_simp⟩) hHeld1 ?_
    try simp only [Act.put, List.setIfInBounds_toArray, List.set_cons_zero, List.set_cons_succ]
    refine wpAnyH_take (i := 16) (oi := { dst := some 70, op := Op.pick (Operand.tmp 65) (Operand.const (Value.bool true)) (Operand.tmp 69), type := 4, pos := "law.go:234", after := #[{ on := 11, ground := Ground.data }, { on := 15, ground := Ground.data }], guard := none }) (v := .bool false) rfl (by kernel_rfl) (by kernel_rfl) (by kernel_rfl) (fun _ _ _ h => h) (Or.inl ⟨by rfl, by intro w hSw; (try dsimp only at hSw); go_simp⟩) hHeld1 ?_
    try simp only [Act.put, List.setIfInBounds_toArray, List.set_cons_zero, List.set_cons_succ]
    refine wpAnyH_take (i := 17) (oi := { dst := some 71, op := Op.move (Operand.tmp 70), type := 4, pos := "law.go:234", after := #[{ on := 16, ground := Ground.data }, { on := 14, ground := Ground.chain }], guard := none }) (v := .bool false) rfl (by kernel_rfl) (by kernel_rfl) (by kernel_rfl) (fun _ _ _ h => h) (Or.inl ⟨by rfl, by intro w hSw; (try dsimp only at hSw); go_simp⟩) hHeld1 ?_
    try simp only [Act.put, List.setIfInBounds_toArray, List.set_cons_zero, List.set_cons_succ]
    refine wpAnyH_take (i := 18) (oi := { dst := some 72, op := Op.move (Operand.tmp 7), type := 24, pos := "law.go:234", after := #[{ on := 17, ground := Ground.guard }], guard := some (17, false) }) (v := .pointer (some ⟨d, 0, none⟩)) rfl (by kernel_rfl) (by kernel_rfl) (by kernel_rfl) (fun _ _ _ h => h) (Or.inl ⟨by rfl, by intro w hSw; (try dsimp only at hSw); go_simp⟩) hHeld1 ?_
    try simp only [Act.put, List.setIfInBounds_toArray, List.set_cons_zero, List.set_cons_succ]
    refine wpAnyH_take (i := 20) (oi := { dst := some 74, op := Op.move (Operand.tmp 0), type := 31, pos := "law.go:234", after := #[{ on := 17, ground := Ground.guard }], guard := some (17, false) }) (v := .slice a n cap) rfl (by kernel_rfl) (by kernel_rfl) (by kernel_rfl) (fun _ _ _ h => h) (Or.inl ⟨by rfl, by intro w hSw; (try dsimp only at hSw); go_simp⟩) hHeld1 ?_
    try simp only [Act.put, List.setIfInBounds_toArray, List.set_cons_zero, List.set_cons_succ]
    refine wpAnyH_take (i := 21) (oi := { dst := some 75, op := Op.call { callee := Callee.builtin Builtin.len, args := #[Operand.tmp 74], argTypes := #[31] }, type := 3, pos := "law.go:234", after := #[{ on := 20, ground := Ground.data }, { on := 17, ground := Ground.guard }], guard := some (17, false) }) (v := .int .i64 (n : Int)) rfl (by kernel_rfl) (by kernel_rfl) (by kernel_rfl) (fun _ _ _ h => h) (Or.inl ⟨by rfl, by intro w hSw; (try dsimp only at hSw); go_simp⟩) hHeld1 ?_
    try simp only [Act.put, List.setIfInBounds_toArray, List.set_cons_zero, List.set_cons_succ]
    refine wpAnyH_ready (rs := [19]) (by kernel_rfl) (by simp) ?_
    refine AllReadyH.cons (o := { dst := some 73, op := Op.call { callee := Callee.value (Operand.func 22), args := #[Operand.tmp 72], argTypes := #[24] }, type := 3, pos := "law.go:234", after := #[{ on := 18, ground := Ground.data }, { on := 17, ground := Ground.chain }, { on := 17, ground := Ground.guard }], guard := some (17, false) }) rfl (fun K hK => ?_) AllReadyH.nil
    go_simp
    go_at_call 22
    refine (HU9.out _ hk9).mono ?_
    rintro e w10 ⟨rfl, hk10⟩
    go_simp
    refine hK.out _ _ (by exact HCK.out _ (hk9.trans hk10 (fun _ _ e => e))) (fun hHeld2 => ?_)
    clear hK K
    try simp only [Act.put, List.setIfInBounds_toArray, List.set_cons_zero, List.set_cons_succ]
    clear hHeld1
    refine wpAnyH_take (i := 22) (oi := { dst := some 76, op := Op.binOp BinOp.neq 3 (Operand.tmp 73) (Operand.tmp 75) 3, type := 4, pos := "law.go:234", after := #[{ on := 19, ground := Ground.data }, { on := 21, ground := Ground.data }, { on := 17, ground := Ground.guard }], guard := some (17, false) }) (v := .bool false) rfl (by kernel_rfl) (by kernel_rfl) (by kernel_rfl) (fun _ _ _ h => h) (Or.inl ⟨by rfl, by intro w hSw; (try dsimp only at hSw); go_simp⟩) hHeld2 ?_
    try simp only [Act.put, List.setIfInBounds_toArray, List.set_cons_zero, List.set_cons_succ]
    refine wpAnyH_take (i := 23) (oi := { dst := some 77, op := Op.pick (Operand.tmp 71) (Operand.const (Value.bool true)) (Operand.tmp 76), type := 4, pos := "law.go:234", after := #[{ on := 17, ground := Ground.data }, { on := 22, ground := Ground.data }], guard := none }) (v := .bool false) rfl (by kernel_rfl) (by kernel_rfl) (by kernel_rfl) (fun _ _ _ h => h) (Or.inl ⟨by rfl, by intro w hSw; (try dsimp only at hSw); go_simp⟩) hHeld2 ?_
    try simp only [Act.put, List.setIfInBounds_toArray, List.set_cons_zero, List.set_cons_succ]
    refine wpAnyH_done (by kernel_rfl) ?_ _
    clear hHeld2
    have H10 := Lib.hid (H8.out.quiet ((HKD.out.trans hk9 (fun _ _ e => e)).trans hk10 (fun _ _ e => e)))
    have HCB := Lib.hid ((HCK.out _ (hk9.trans hk10 (fun _ _ e => e))).1)
    clear HS9 HU9 HC0 HCK HKD hk9 hk10 heq HF8 H8
    obtain ⟨n1, hn1⟩ : ∃ n1 : Nat, n1 = n + 1 := ⟨_, rfl⟩
    have hn2 : n ≤ 1048576 := by have := HLL.out; have := HN.out; omega
    have hw1 : wrap64 ((n : Int) + 1) = (n1 : Int) := by rw [IntWalk.wrap64_in _ (by omega)]; omega
    have hw2 : IntKind.u64.wrap (n1 : Int) = (n1 : Int) := IntWalk.u64_in _ (by omega)
    have hz1 : ¬ ((n1 : Int) = 0) := by omega
    obtain ⟨A, hA, hA2⟩ := uint_mod x n1 (by omega) (by omega)
    have HA := Lib.hid (show A ≤ n by omega)
    obtain ⟨B, hB⟩ : ∃ B : Nat, B = n - A := ⟨_, rfl⟩
    have hw3 : wrap64 ((n : Int) - (A : Int)) = (B : Int) := by rw [IntWalk.wrap64_in _ (by omega)]; omega
    have HB := Lib.hid hB
    have HN2 := Lib.hid hn2
    have hread : ∀ k : Int, 0 ≤ k → Calls Try.prog 46 #[.pointer (some ⟨st, 0, none⟩), .agg cl.toArray, .int .i64 (A : Int), .int .i64 k] w10 fun e w' => ∃ v, e = .returned (.tuple #[v, .int .i64 0]) ∧ Reads w' v ((l.drop A).take k.toNat) ∧ Keeps (fun _ => False) w10 w' := fun k hk => by
      have h := bread_calls H10.out (st := st) (by simp) HDL.out (A : Int) k (blob_good 2097152 D l (-1) (by omega) (by omega) (by have := HLL.out; omega) (by omega))
      have hc : readCode (blobM 2097152 D l) (fileOf D) (A : Int) k = 0 := by unfold readCode; rw [blob_there', if_pos rfl, if_neg (by omega)]
      have hbs : readBytes (blobM 2097152 D l) (fileOf D) (A : Int) k = (l.drop A).take k.toNat := by
        unfold readBytes
        rw [blob_there', if_pos rfl, if_neg (by omega)]
        exact congrArg (fun t : List UInt8 => (t.drop A).take k.toNat) (blob_cont' 2097152 D l)
      rw [hc, hbs, ← HCL.out] at h
      exact h
    have HREAD := Lib.hid hread
    have hsame : ∀ (W : World) (v : Value) (k M : Nat), Keeps (fun _ => False) w10 W → A + M ≤ l.length → Reads W v ((l.drop A).take k) → (l.drop A).take k = (l.drop A).take M → Calls Try.prog 28 #[v, .slice (if cap = A then a else Option.map (fun x => x.add A) a) M (cap - A)] W (QuietP W (.bool true)) := fun W v k M hk hM hr he => by
      have hr2 := (HRD.out.cutO A M hM).keep (H10.out.keeps.trans hk (fun _ _ e => e))
      have h := same_calls hr hr2
      rw [decide_eq_true he] at h
      exact h
    have hBn : A + B = l.length := by have := HA.out; have := HN.out; omega
    have hcap : (l.length : Int) ≤ (cap : Int) := by
      obtain ⟨_, _, e, h, _⟩ := HRD.out.form
      cases e
      omega
    have HBN := Lib.hid hBn
    have HCAP := Lib.hid hcap
    clear hread hB hA2 hn1 hn2 hx hy hb hBn hcap
    have key : ∀ (k : Int) (M E : Nat), 0 ≤ k → M ≤ B → E = A + M → (l.drop A).take k.toNat = (l.drop A).take M → wrap64 ((A : Int) + (M : Int)) = (E : Int) ∧ (0 : Int) ≤ (A : Int) ∧ (A : Int) ≤ (E : Int) ∧ (E : Int) ≤ (cap : Int) ∧ E - A = M ∧ A + M ≤ l.length := fun k M E hk hM hE he => by
      have h1 := HBN.out
      have h2 := HCAP.out
      have h3 := HLL.out
      exact ⟨by rw [IntWalk.wrap64_in _ (by omega)]; omega, by omega, by omega, by omega, by omega, by omega⟩
    have KEY := Lib.hid key
    clear key
    by_cases hy0 : y < 0
    · 
      have he : (l.drop A).take (0 : Int).toNat = (l.drop A).take 0 := by rfl
      obtain ⟨_, hA0, _, hEc, _, hML⟩ := KEY.out 0 0 A (by omega) (by omega) rfl he
      have hB0 : (0 : Int) ≤ (B : Int) := by omega
      have hwA : wrap64 (A : Int) = (A : Int) := by have := HA.out; have := HN2.out; rw [IntWalk.wrap64_in _ (by omega)]
      have HE := Lib.hid he
      have HML := Lib.hid hML
      clear he hML
      go_wp2_with (first | (refine wpList_load_mid rfl 58 _ rfl w4.heap.size 0 rfl cl _ HCB.out hund rfl hinfo ?_))
      refine (HREAD.out 0 (by omega)).mono ?_
      rintro e w11 ⟨v, rfl, hrd2, hk11⟩
      have HS11 := Lib.hid (hsame w11 v _ _ hk11 HML.out hrd2 HE.out)
      have HK11 := Lib.hid hk11
      clear hsame hrd2 hk11
      by_cases hcA : cap = A
      · have hs := HS11.out
        rw [if_pos hcA, hcA, Nat.sub_self] at hs
        have HS := Lib.hid hs
        clear hs HS11
        go_wp2_with fail
        refine HS.out.mono ?_
        rintro e w12 ⟨rfl, hk12⟩
        have HBL := Lib.hid ((H10.out.quiet HK11.out).quiet hk12).below
        clear hk12 HK11 HS
        go_wp2_with fail
        go_ret
        exact ⟨rfl, HBL.out⟩
      · have hs := HS11.out
        rw [if_neg hcA] at hs
        have HS := Lib.hid hs
        clear hs HS11
        go_wp2_with fail
        refine HS.out.mono ?_
        rintro e w12 ⟨rfl, hk12⟩
        have HBL := Lib.hid ((H10.out.quiet HK11.out).quiet hk12).below
        clear hk12 HK11 HS
        go_wp2_with fail
        go_ret
        exact ⟨rfl, HBL.out⟩
    · obtain ⟨Y, rfl⟩ : ∃ Y : Nat, y = (Y : Int) := ⟨y.toNat, by omega⟩
      clear hy0
      have hy1 : ¬ ((Y : Int) < 0) := by omega
      by_cases hyB : (B : Int) < (Y : Int)
      · have hyB2 : ¬ ((Y : Int) ≤ (B : Int)) := by omega
        obtain ⟨E, hE⟩ : ∃ E : Nat, E = A + B := ⟨_, rfl⟩
        have he : (l.drop A).take ((Y : Int) : Int).toNat = (l.drop A).take B := by rw [List.take_of_length_le (by rw [List.length_drop]; have := HBN.out; omega), List.take_of_length_le (by rw [List.length_drop]; have := HBN.out; omega)]
        obtain ⟨hwE, hA0, hAE, hEc, hEA, hML⟩ := KEY.out (Y : Int) B E (by omega) (by have := HB.out; omega) hE he
        have HE := Lib.hid he
        have HML := Lib.hid hML
        clear he hML hE
        go_wp2_with (first | (refine wpList_load_mid rfl 58 _ rfl w4.heap.size 0 rfl cl _ HCB.out hund rfl hinfo ?_))
        refine (HREAD.out (Y : Int) (by omega)).mono ?_
        rintro e w11 ⟨v, rfl, hrd2, hk11⟩
        have HS11 := Lib.hid (hsame w11 v _ _ hk11 HML.out hrd2 HE.out)
        have HK11 := Lib.hid hk11
        clear hsame hrd2 hk11
        by_cases hcA : cap = A
        · have hs := HS11.out
          rw [if_pos hcA, hcA, Nat.sub_self] at hs
          have HS := Lib.hid hs
          clear hs HS11
          go_wp2_with fail
          refine HS.out.mono ?_
          rintro e w12 ⟨rfl, hk12⟩
          have HBL := Lib.hid ((H10.out.quiet HK11.out).quiet hk12).below
          clear hk12 HK11 HS
          go_wp2_with fail
          go_ret
          exact ⟨rfl, HBL.out⟩
        · have hs := HS11.out
          rw [if_neg hcA] at hs
          have HS := Lib.hid hs
          clear hs HS11
          go_wp2_with fail
          refine HS.out.mono ?_
          rintro e w12 ⟨rfl, hk12⟩
          have HBL := Lib.hid ((H10.out.quiet HK11.out).quiet hk12).below
          clear hk12 HK11 HS
          go_wp2_with fail
          go_ret
          exact ⟨rfl, HBL.out⟩
      · have hyB2 : (Y : Int) ≤ (B : Int) := by omega
        obtain ⟨E, hE⟩ : ∃ E : Nat, E = A + Y := ⟨_, rfl⟩
        have he : (l.drop A).take ((Y : Int) : Int).toNat = (l.drop A).take Y := by rfl
        obtain ⟨hwE, hA0, hAE, hEc, hEA, hML⟩ := KEY.out (Y : Int) Y E (by omega) (by have := HB.out; omega) hE he
        have HE := Lib.hid he
        have HML := Lib.hid hML
        clear he hML hE
        go_wp2_with (first | (refine wpList_load_mid rfl 58 _ rfl w4.heap.size 0 rfl cl _ HCB.out hund rfl hinfo ?_))
        refine (HREAD.out (Y : Int) (by omega)).mono ?_
        rintro e w11 ⟨v, rfl, hrd2, hk11⟩
        have HS11 := Lib.hid (hsame w11 v _ _ hk11 HML.out hrd2 HE.out)
        have HK11 := Lib.hid hk11
        clear hsame hrd2 hk11
        by_cases hcA : cap = A
        · have hs := HS11.out
          rw [if_pos hcA, hcA, Nat.sub_self] at hs
          have HS := Lib.hid hs
          clear hs HS11
          go_wp2_with fail
          refine HS.out.mono ?_
          rintro e w12 ⟨rfl, hk12⟩
          have HBL := Lib.hid ((H10.out.quiet HK11.out).quiet hk12).below
          clear hk12 HK11 HS
          go_wp2_with fail
          go_ret
          exact ⟨rfl, HBL.out⟩
        · have hs := HS11.out
          rw [if_neg hcA] at hs
          have HS := Lib.hid hs
          clear hs HS11
          go_wp2_with fail
          refine HS.out.mono ?_
          rintro e w12 ⟨rfl, hk12⟩
          have HBL := Lib.hid ((H10.out.quiet HK11.out).quiet hk12).below
          clear hk12 HK11 HS
          go_wp2_with fail
          go_ret
          exact ⟨rfl, HBL.out⟩
end Go.Proofs.Ytlinkpjneehnbaa
