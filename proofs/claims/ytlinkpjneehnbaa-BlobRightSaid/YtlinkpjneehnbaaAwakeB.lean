/- What layer 12 answers awake: true. -/
import Derived.Test.YtlinkpjneehnbaaBlobP
import Derived.Test.YtlinkpjneehnbaaPkC
namespace Go.Proofs.Ytlinkpjneehnbaa
set_option linter.unusedVariables false
set_option linter.unusedSimpArgs false
open Go.RowKit Go.MapKept

def abcObj : Obj := .cells #[.int .u8 97, .int .u8 98, .int .u8 99] 5 (3, 4)
theorem abc_reads {w : World} {b : Nat} (h : w.heap[b]? = some abcObj) : Reads w (.slice (some ⟨b, 0, none⟩) 3 3) [97, 98, 99] := by
  refine .inr ⟨_, 3, rfl, Nat.le_refl _, by simp [maxLen], fun j u hu => ?_⟩
  rw [Addr.add_lit, Nat.zero_add]
  refine cell_at h ?_
  match j, hu with
  | 0, hu => exact hu
  | 1, hu => exact hu
  | 2, hu => exact hu
  | j + 3, hu => simp at hu
theorem blob_good (room : Int) (D p : List UInt8) (f : Int) (hf : -1 ≤ f) (hf2 : f ≤ 9223372036854775807) (hr : (p.length : Int) ≤ room) (hr2 : room ≤ 67108864) : Good { blobM room D p with fuse := f } 0 := by
  refine ⟨by simp [blobM, newOf]; omega, by simpa [blobM, newOf] using hr2, hf, hf2, by simp [blobM, newOf], by simp [blobM, FNodup, newOf], by simp [blobM, newOf], fun k => ?_, by simp [blobM, newOf]⟩
  simp [blobM, newOf, used]
  exact hr
theorem blob_there' (room : Int) (D p : List UInt8) : thereOf (blobM room D p) (fileOf D) = 0 := blob_there room D p (-1)
theorem blob_cont' (room : Int) (D p : List UInt8) : contOf (blobM room D p) (fileOf D) = p := blob_cont room D p (-1)
theorem blob_size (room : Int) (D p : List UInt8) : sizeCode (blobM room D p) (fileOf D) = (p.length : Int) := by
  unfold sizeCode
  rw [blob_there', if_pos rfl]
  exact congrArg (fun l : List UInt8 => (l.length : Int)) (blob_cont' room D p)
set_option maxRecDepth 100000 in
set_option maxHeartbeats 2000000 in
theorem awakeB_calls (w0 : World) : Calls Try.prog 42 #[] w0 (QuietP w0 (.bool true)) := by
  obtain ⟨d, w1, hnew, h1⟩ := (Own.start w0).new 100 (by omega) (by omega)
  have g1 := Good.new (room := 100) (by omega) (by omega)
  have hbn := bnew_calls h1 g1 (by omega)
  rw [bnew_new] at hbn
  have HBN := Lib.hid hbn
  have G1 := Lib.hid g1
  clear h1 hbn g1
  go_enter Try.func42, Try.ntmps42
  go_wp2_with fail
  refine hnew.out.mono ?_; rintro e w' ⟨rfl, rfl⟩
  go_wp2_with fail
  refine HBN.out.mono ?_
  rintro e w2 (⟨hn, _⟩ | ⟨_, st, rfl, h2⟩)
  · exact absurd rfl hn
  have hconv := Lib.run_convert_bytes_const (P := Try.prog) w2 31 5 #[.int .u8 97, .int .u8 98, .int .u8 99] 3 3 Try.underlying31 Try.underlying5
  have h3 := (h2.alloc abcObj).perm ((List.Perm.swap ..).trans (List.Perm.cons _ (List.Perm.swap ..)))
  have hput := bput_calls h3 (st := st) (by simp) G1.out (by omega) (pv := .slice (some ⟨w2.heap.size, 0, none⟩) 3 3) (p := [97, 98, 99]) (fun W m' ho => abc_reads (ho.at (b := w2.heap.size) (o := abcObj) (by simp)).1) (by simp)
  rw [bput_new 100 [97, 98, 99] (by simp) (by simp)] at hput
  obtain ⟨D, hD⟩ : ∃ D, D = sumOf [97, 98, 99] := ⟨_, rfl⟩
  obtain ⟨cl, hcl⟩ : ∃ cl : List Value, cl = D.map u8v := ⟨_, rfl⟩
  have hDl : D.length = 32 := by rw [hD]; exact sumOf_length _
  have hw := whole_blob 100 [97, 98, 99]
  rw [← hD] at hput hw
  have hput2 : Calls Try.prog 43 #[.pointer (some ⟨st, 0, none⟩), .slice (some ⟨w2.heap.size, 0, none⟩) 3 3] (w2.alloc abcObj) (fun e w' => e = .returned (.tuple #[.agg cl.toArray, .int .i64 0]) ∧ Own w0 w' (rDisk w0.heap.size d (blobM 100 D [97, 98, 99]) :: [rObj w0.heap.size st (.cells #[.pointer (some ⟨d, 0, none⟩)] 146), rObj w0.heap.size w2.heap.size abcObj])) := by rw [hcl]; exact hput
  have HPUT := Lib.hid hput2
  have hab := heap_alloc_new w2 abcObj
  clear HBN h2 h3 hput hput2 hnew
  go_wp2_with fail
  change Calls _ _ _ (w2.alloc abcObj) _
  refine HPUT.out.mono ?_
  rintro e w3 ⟨rfl, h4⟩
  clear hconv
  have h5 := h4.alloc2 (.cells cl.toArray 58)
  have H5 := Lib.hid h5
  have HI := Lib.hid (dig_info (ds := cl.toArray) (by rw [hcl]; simp [hDl]))
  have HONE := Lib.hid (show cl.toArray.all (·.oneCell') = true by rw [hcl]; exact bytes_one _)
  have HSZ := Lib.hid (show cl.toArray.size = 32 by rw [hcl]; simp [hDl])
  have HCL := Lib.hid hcl
  have HD := Lib.hid hD
  have HDL := Lib.hid hDl
  have HW := Lib.hid hw
  have hsz := bsize_calls h5 (st := st) (by simp) hDl
  have hsc : sizeCode (blobM 100 D [97, 98, 99]) (fileOf D) = 3 := blob_size 100 D [97, 98, 99]
  rw [blob_there', hsc, ← hcl] at hsz
  have HSIZE := Lib.hid hsz
  have hb0 := heap_alloc_new w3 (.cells cl.toArray 58)
  have HB0 := Lib.hid hb0
  clear HPUT h4 h5 hab hcl hD hDl hw hsz hsc hb0
  go_wp2_with (first | (refine wpList_store_row rfl 58 _ _ rfl w3.heap.size cl.toArray rfl rfl 58 _ (heap_alloc_new w3 _) HI.out (by rw [HSZ.out]; kernel_rfl) HONE.out ?_; rw [World.setRow_alloc_new]) | (refine wpList_load_row rfl 58 _ rfl w3.heap.size rfl 58 cl.toArray (0, 0) _ (heap_alloc_new w3 _) Try.underlying58 rfl HI.out ?_))
  refine HSIZE.out.mono ?_
  rintro e w4 ⟨rfl, hk4⟩
  have h6 := (H5.out.quiet hk4)
  have hb4 := hk4.at HB0.out (fun e => e)
  have hsum : Calls Try.prog 45 #[.slice (some ⟨w4.heap.size, 0, none⟩) 3 3] (w4.alloc abcObj).drew (QuietP (w4.alloc abcObj).drew (.agg cl.toArray)) := by
    have h := sum_calls (abc_reads (w := (w4.alloc abcObj).drew) (heap_alloc_new w4 abcObj)) (by simp)
    rw [← HD.out, ← HCL.out] at h
    exact h
  have hwh : ∀ W : World, Keeps (fun _ => False) w4.drew W → Calls Try.prog 50 #[.pointer (some ⟨st, 0, none⟩), .agg cl.toArray] W (QuietP W (.bool true)) := fun W hk => by
    have h := bwhole_calls (h6.quiet ((Keeps.refl _ w4).drew.trans hk (fun _ _ e => e))) (st := st) (by simp) (blob_good 100 D [97, 98, 99] (-1) (by omega) (by omega) (by simp) (by omega)) HDL.out
    rw [HW.out, ← HCL.out] at h
    exact h
  have hck : ∀ W, Keeps (fun _ => False) w4.drew W → W.rangeAt w3.heap.size 0 cl := fun W hk k v hv => by
    rw [Nat.zero_add]
    exact cell_at (hk.at (w := w4.drew) hb4 (fun e => e)) (by rw [List.getElem?_toArray]; exact hv)
  have heq := fun W => dig_eq D D HDL.out HDL.out W
  rw [← HCL.out, decide_eq_true rfl] at heq
  have hund := Try.underlying58
  have hinfo : (Try.prog.info? 58).map (·.size) = some cl.length := HI.out
  have hca : ∀ o : Obj, Keeps (fun _ => False) w4.drew (w4.alloc o).drew := fun o => (Keeps.refl _ w4.drew).alloc o
  have HC0 := Lib.hid (hck _ (Keeps.refl _ _))
  have HC1 := Lib.hid (fun o : Obj => hck _ (hca o))
  have HC2 := Lib.hid (fun (o : Obj) (W : World) (hk : Keeps (fun _ => False) (w4.alloc o).drew W) => hck W ((hca o).trans hk (fun _ _ e => e)))
  have HCA := Lib.hid hca
  have HS := Lib.hid hsum
  have HWH := Lib.hid hwh
  have HK0 := Lib.hid (h6.keeps)
  have hconv : (convert 31 31 (.slice (some ⟨w4.heap.size, 0, none⟩) 3 3)).run Try.prog (w4.alloc (.cells #[.int .u8 97, .int .u8 98, .int .u8 99] 5)).drew = .ok (.slice (some ⟨w4.heap.size, 0, none⟩) 3 3) (w4.alloc abcObj).drew := Lib.run_convert_bytes_const (P := Try.prog) w4.drew 31 5 #[.int .u8 97, .int .u8 98, .int .u8 99] 3 3 Try.underlying31 Try.underlying5
  clear hck hca hsum hwh h6 hb4 hk4 HSIZE HB0
  go_wp2_with fail
  refine wp_region_held_drew (S := fun w' => w'.rangeAt w3.heap.size 0 cl) (by kernel_rfl) (by exact HC0.out) (fun hHeld => ?_)
  refine wpAnyH_take (i := 0) (oi := { dst := some 37, op := Op.move (Operand.tmp 6), type := 25, pos := "law.go:25", after := #[], guard := none }) (v := .int .i64 0) rfl (by kernel_rfl) (by kernel_rfl) (by kernel_rfl) (fun _ _ _ h => h) (Or.inl ⟨by rfl, by intro w hSw; (try dsimp only at hSw); go_simp⟩) hHeld ?_
  try simp only [Act.put, List.setIfInBounds_toArray, List.set_cons_zero, List.set_cons_succ]
  refine wpAnyH_take (i := 1) (oi := { dst := some 38, op := Op.binOp BinOp.eql 25 (Operand.tmp 37) (Operand.const (Value.int IntKind.i64 0)) 25, type := 4, pos := "law.go:25", after := #[{ on := 0, ground := Ground.data }], guard := none }) (v := .bool true) rfl (by kernel_rfl) (by kernel_rfl) (by kernel_rfl) (fun _ _ _ h => h) (Or.inl ⟨by rfl, by intro w hSw; (try dsimp only at hSw); go_simp⟩) hHeld ?_
  try simp only [Act.put, List.setIfInBounds_toArray, List.set_cons_zero, List.set_cons_succ]
  refine wpAnyH_take (i := 2) (oi := { dst := some 39, op := Op.move (Operand.tmp 38), type := 4, pos := "law.go:25", after := #[{ on := 1, ground := Ground.data }], guard := none }) (v := .bool true) rfl (by kernel_rfl) (by kernel_rfl) (by kernel_rfl) (fun _ _ _ h => h) (Or.inl ⟨by rfl, by intro w hSw; (try dsimp only at hSw); go_simp⟩) hHeld ?_
  try simp only [Act.put, List.setIfInBounds_toArray, List.set_cons_zero, List.set_cons_succ]
  refine wpAnyH_take (i := 3) (oi := { dst := some 40, op := Op.load 58 (Operand.tmp 5), type := 58, pos := "law.go:25", after := #[{ on := 2, ground := Ground.guard }], guard := some (2, true) }) (v := .agg (cl).toArray) rfl (by kernel_rfl) (by kernel_rfl) (by kernel_rfl) (fun _ _ _ h => h) (yieldsIf_load_mid (by rfl) _ _ rfl (w3.heap.size) 0 rfl (cl) _ (fun _ h => h) hund rfl hinfo) hHeld ?_
  try simp only [Act.put, List.setIfInBounds_toArray, List.set_cons_zero, List.set_cons_succ]
  refine wpAnyH_ready (rs := [4]) (by kernel_rfl) (by simp) ?_
  refine AllReadyH.cons (o := { dst := some 41, op := Op.buildSlice 31 3 #[(0, Operand.const (Value.int IntKind.u8 97)), (1, Operand.const (Value.int IntKind.u8 98)), (2, Operand.const (Value.int IntKind.u8 99))], type := 31, pos := "law.go:25", after := #[{ on := 2, ground := Ground.guard }], guard := some (2, true) }) rfl (fun K hK => ?_) AllReadyH.nil
  go_simp
  refine hK.out _ _ (by exact HC1.out _) (fun hHeld1 => ?_)
  clear hK K
  try simp only [Act.put, List.setIfInBounds_toArray, List.set_cons_zero, List.set_cons_succ]
  clear hHeld
  refine wpAnyH_ready (rs := [5]) (by kernel_rfl) (by simp) ?_
  refine AllReadyH.cons (o := { dst := some 42, op := Op.convert 31 31 (Operand.tmp 41), type := 31, pos := "law.go:25", after := #[{ on := 4, ground := Ground.data }, { on := 2, ground := Ground.guard }], guard := some (2, true) }) rfl (fun K hK => ?_) AllReadyH.nil
  go_simp
  refine hK.out _ _ (by exact HC1.out _) (fun hHeld2 => ?_)
  clear hK K
  try simp only [Act.put, List.setIfInBounds_toArray, List.set_cons_zero, List.set_cons_succ]
  clear hHeld1
  refine wpAnyH_ready (rs := [6]) (by kernel_rfl) (by simp) ?_
  refine AllReadyH.cons (o := { dst := some 43, op := Op.call { callee := Callee.value (Operand.func 45), args := #[Operand.tmp 42], argTypes := #[31] }, type := 58, pos := "law.go:25", after := #[{ on := 5, ground := Ground.data }, { on := 2, ground := Ground.chain }, { on := 2, ground := Ground.guard }], guard := some (2, true) }) rfl (fun K hK => ?_) AllReadyH.nil
  go_simp
  go_at_call 45
  refine HS.out.mono ?_
  rintro e w5 ⟨rfl, hk5⟩
  go_simp
  refine hK.out _ _ (by exact HC2.out _ _ hk5) (fun hHeld3 => ?_)
  clear hK K
  try simp only [Act.put, List.setIfInBounds_toArray, List.set_cons_zero, List.set_cons_succ]
  clear hHeld2
  refine wpAnyH_take (i := 7) (oi := { dst := some 44, op := Op.binOp BinOp.eql 58 (Operand.tmp 40) (Operand.tmp 43) 58, type := 4, pos := "law.go:25", after := #[{ on := 3, ground := Ground.data }, { on := 6, ground := Ground.data }, { on := 2, ground := Ground.guard }], guard := some (2, true) }) (v := .bool true) rfl (by kernel_rfl) (by kernel_rfl) (by kernel_rfl) (fun _ _ _ h => h) (Or.inl ⟨by rfl, by intro w hSw; (try dsimp only at hSw); go_simp⟩) hHeld3 ?_
  try simp only [Act.put, List.setIfInBounds_toArray, List.set_cons_zero, List.set_cons_succ]
  refine wpAnyH_take (i := 8) (oi := { dst := some 45, op := Op.pick (Operand.tmp 39) (Operand.tmp 44) (Operand.const (Value.bool false)), type := 4, pos := "law.go:25", after := #[{ on := 2, ground := Ground.data }, { on := 7, ground := Ground.data }], guard := none }) (v := .bool true) rfl (by kernel_rfl) (by kernel_rfl) (by kernel_rfl) (fun _ _ _ h => h) (Or.inl ⟨by rfl, by intro w hSw; (try dsimp only at hSw); go_simp⟩) hHeld3 ?_
  try simp only [Act.put, List.setIfInBounds_toArray, List.set_cons_zero, List.set_cons_succ]
  refine wpAnyH_take (i := 9) (oi := { dst := some 46, op := Op.move (Operand.tmp 45), type := 4, pos := "law.go:25", after := #[{ on := 8, ground := Ground.data }, { on := 6, ground := Ground.chain }], guard := none }) (v := .bool true) rfl (by kernel_rfl) (by kernel_rfl) (by kernel_rfl) (fun _ _ _ h => h) (Or.inl ⟨by rfl, by intro w hSw; (try dsimp only at hSw); go_simp⟩) hHeld3 ?_
  try simp only [Act.put, List.setIfInBounds_toArray, List.set_cons_zero, List.set_cons_succ]
  refine wpAnyH_take (i := 10) (oi := { dst := some 47, op := Op.move (Operand.tmp 8), type := 25, pos := "law.go:25", after := #[{ on := 9, ground := Ground.guard }], guard := some (9, true) }) (v := .int .i64 0) rfl (by kernel_rfl) (by kernel_rfl) (by kernel_rfl) (fun _ _ _ h => h) (Or.inl ⟨by rfl, by intro w hSw; (try dsimp only at hSw); go_simp⟩) hHeld3 ?_
  try simp only [Act.put, List.setIfInBounds_toArray, List.set_cons_zero, List.set_cons_succ]
  refine wpAnyH_take (i := 11) (oi := { dst := some 48, op := Op.binOp BinOp.eql 25 (Operand.tmp 47) (Operand.const (Value.int IntKind.i64 0)) 25, type := 4, pos := "law.go:25", after := #[{ on := 10, ground := Ground.data }, { on := 9, ground := Ground.guard }], guard := some (9, true) }) (v := .bool true) rfl (by kernel_rfl) (by kernel_rfl) (by kernel_rfl) (fun _ _ _ h => h) (Or.inl ⟨by rfl, by intro w hSw; (try dsimp only at hSw); go_simp⟩) hHeld3 ?_
  try simp only [Act.put, List.setIfInBounds_toArray, List.set_cons_zero, List.set_cons_succ]
  refine wpAnyH_take (i := 12) (oi := { dst := some 49, op := Op.pick (Operand.tmp 46) (Operand.tmp 48) (Operand.const (Value.bool false)), type := 4, pos := "law.go:25", after := #[{ on := 9, ground := Ground.data }, { on := 11, ground := Ground.data }], guard := none }) (v := .bool true) rfl (by kernel_rfl) (by kernel_rfl) (by kernel_rfl) (fun _ _ _ h => h) (Or.inl ⟨by rfl, by intro w hSw; (try dsimp only at hSw); go_simp⟩) hHeld3 ?_
  try simp only [Act.put, List.setIfInBounds_toArray, List.set_cons_zero, List.set_cons_succ]
  refine wpAnyH_take (i := 13) (oi := { dst := some 50, op := Op.move (Operand.tmp 49), type := 4, pos := "law.go:25", after := #[{ on := 12, ground := Ground.data }, { on := 9, ground := Ground.chain }], guard := none }) (v := .bool true) rfl (by kernel_rfl) (by kernel_rfl) (by kernel_rfl) (fun _ _ _ h => h) (Or.inl ⟨by rfl, by intro w hSw; (try dsimp only at hSw); go_simp⟩) hHeld3 ?_
  try simp only [Act.put, List.setIfInBounds_toArray, List.set_cons_zero, List.set_cons_succ]
  refine wpAnyH_take (i := 14) (oi := { dst := some 51, op := Op.move (Operand.tmp 7), type := 3, pos := "law.go:25", after := #[{ on := 13, ground := Ground.guard }], guard := some (13, true) }) (v := .int .i64 3) rfl (by kernel_rfl) (by kernel_rfl) (by kernel_rfl) (fun _ _ _ h => h) (Or.inl ⟨by rfl, by intro w hSw; (try dsimp only at hSw); go_simp⟩) hHeld3 ?_
  try simp only [Act.put, List.setIfInBounds_toArray, List.set_cons_zero, List.set_cons_succ]
  refine wpAnyH_take (i := 15) (oi := { dst := some 52, op := Op.binOp BinOp.eql 3 (Operand.tmp 51) (Operand.const (Value.int IntKind.i64 3)) 3, type := 4, pos := "law.go:25", after := #[{ on := 14, ground := Ground.data }, { on := 13, ground := Ground.guard }], guard := some (13, true) }) (v := .bool true) rfl (by kernel_rfl) (by kernel_rfl) (by kernel_rfl) (fun _ _ _ h => h) (Or.inl ⟨by rfl, by intro w hSw; (try dsimp only at hSw); go_simp⟩) hHeld3 ?_
  try simp only [Act.put, List.setIfInBounds_toArray, List.set_cons_zero, List.set_cons_succ]
  refine wpAnyH_take (i := 16) (oi := { dst := some 53, op := Op.pick (Operand.tmp 50) (Operand.tmp 52) (Operand.const (Value.bool false)), type := 4, pos := "law.go:25", after := #[{ on := 13, ground := Ground.data }, { on := 15, ground := Ground.data }], guard := none }) (v := .bool true) rfl (by kernel_rfl) (by kernel_rfl) (by kernel_rfl) (fun _ _ _ h => h) (Or.inl ⟨by rfl, by intro w hSw; (try dsimp only at hSw); go_simp⟩) hHeld3 ?_
  try simp only [Act.put, List.setIfInBounds_toArray, List.set_cons_zero, List.set_cons_succ]
  refine wpAnyH_take (i := 17) (oi := { dst := some 54, op := Op.move (Operand.tmp 53), type := 4, pos := "law.go:25", after := #[{ on := 16, ground := Ground.data }, { on := 13, ground := Ground.chain }], guard := none }) (v := .bool true) rfl (by kernel_rfl) (by kernel_rfl) (by kernel_rfl) (fun _ _ _ h => h) (Or.inl ⟨by rfl, by intro w hSw; (try dsimp only at hSw); go_simp⟩) hHeld3 ?_
  try simp only [Act.put, List.setIfInBounds_toArray, List.set_cons_zero, List.set_cons_succ]
  refine wpAnyH_take (i := 18) (oi := { dst := some 55, op := Op.move (Operand.tmp 3), type := 54, pos := "law.go:25", after := #[{ on := 17, ground := Ground.guard }], guard := some (17, true) }) (v := .pointer (some ⟨st, 0, none⟩)) rfl (by kernel_rfl) (by kernel_rfl) (by kernel_rfl) (fun _ _ _ h => h) (Or.inl ⟨by rfl, by intro w hSw; (try dsimp only at hSw); go_simp⟩) hHeld3 ?_
  try simp only [Act.put, List.setIfInBounds_toArray, List.set_cons_zero, List.set_cons_succ]
  refine wpAnyH_take (i := 19) (oi := { dst := some 56, op := Op.load 58 (Operand.tmp 5), type := 58, pos := "law.go:25", after := #[{ on := 17, ground := Ground.guard }], guard := some (17, true) }) (v := .agg (cl).toArray) rfl (by kernel_rfl) (by kernel_rfl) (by kernel_rfl) (fun _ _ _ h => h) (yieldsIf_load_mid (by rfl) _ _ rfl (w3.heap.size) 0 rfl (cl) _ (fun _ h => h) hund rfl hinfo) hHeld3 ?_
  try simp only [Act.put, List.setIfInBounds_toArray, List.set_cons_zero, List.set_cons_succ]
  refine wpAnyH_ready (rs := [20]) (by kernel_rfl) (by simp) ?_
  refine AllReadyH.cons (o := { dst := some 57, op := Op.call { callee := Callee.value (Operand.func 50), args := #[Operand.tmp 55, Operand.tmp 56], argTypes := #[54, 58] }, type := 4, pos := "law.go:25", after := #[{ on := 18, ground := Ground.data }, { on := 19, ground := Ground.data }, { on := 17, ground := Ground.chain }, { on := 17, ground := Ground.guard }], guard := some (17, true) }) rfl (fun K hK => ?_) AllReadyH.nil
  go_simp
  go_at_call 50
  refine (HWH.out _ ((HCA.out _).trans hk5 (fun _ _ e => e))).mono ?_
  rintro e w6 ⟨rfl, hk6⟩
  go_simp
  refine hK.out _ _ (by exact HC2.out _ _ (hk5.trans hk6 (fun _ _ e => e))) (fun hHeld4 => ?_)
  clear hK K
  try simp only [Act.put, List.setIfInBounds_toArray, List.set_cons_zero, List.set_cons_succ]
  clear hHeld3
  refine wpAnyH_take (i := 21) (oi := { dst := some 58, op := Op.pick (Operand.tmp 54) (Operand.tmp 57) (Operand.const (Value.bool false)), type := 4, pos := "law.go:25", after := #[{ on := 17, ground := Ground.data }, { on := 20, ground := Ground.data }], guard := none }) (v := .bool true) rfl (by kernel_rfl) (by kernel_rfl) (by kernel_rfl) (fun _ _ _ h => h) (Or.inl ⟨by rfl, by intro w hSw; (try dsimp only at hSw); go_simp⟩) hHeld4 ?_
  try simp only [Act.put, List.setIfInBounds_toArray, List.set_cons_zero, List.set_cons_succ]
  refine wpAnyH_take (i := 22) (oi := { dst := some 0, op := Op.assign (Operand.tmp 58), type := 4, pos := "law.go:25", after := #[{ on := 21, ground := Ground.data }, { on := 20, ground := Ground.chain }, { on := 0, ground := Ground.phase }, { on := 1, ground := Ground.phase }, { on := 2, ground := Ground.phase }, { on := 3, ground := Ground.phase }, { on := 4, ground := Ground.phase }, { on := 5, ground := Ground.phase }, { on := 6, ground := Ground.phase }, { on := 7, ground := Ground.phase }, { on := 8, ground := Ground.phase }, { on := 9, ground := Ground.phase }, { on := 10, ground := Ground.phase }, { on := 11, ground := Ground.phase }, { on := 12, ground := Ground.phase }, { on := 13, ground := Ground.phase }, { on := 14, ground := Ground.phase }, { on := 15, ground := Ground.phase }, { on := 16, ground := Ground.phase }, { on := 17, ground := Ground.phase }, { on := 18, ground := Ground.phase }, { on := 19, ground := Ground.phase }, { on := 20, ground := Ground.phase }, { on := 21, ground := Ground.phase }], guard := none }) (v := .bool true) rfl (by kernel_rfl) (by kernel_rfl) (by kernel_rfl) (fun _ _ _ h => h) (Or.inl ⟨by rfl, by intro w hSw; (try dsimp only at hSw); go_simp⟩) hHeld4 ?_
  try simp only [Act.put, List.setIfInBounds_toArray, List.set_cons_zero, List.set_cons_succ]
  refine wpAnyH_done (by kernel_rfl) ?_ _
  clear hHeld4
  have HKF := Lib.hid ((((HK0.out.drew).trans (HCA.out abcObj) (fun _ _ e => e)).trans hk5 (fun _ _ e => e)).trans hk6 (fun _ _ e => e))
  clear heq hund hinfo hconv hk5 hk6
  go_wp2_with fail
  go_ret
  exact ⟨rfl, HKF.out⟩
end Go.Proofs.Ytlinkpjneehnbaa
