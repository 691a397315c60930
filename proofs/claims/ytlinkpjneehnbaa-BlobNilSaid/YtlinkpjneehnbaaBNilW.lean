/- The walk of BlobNil. -/
import Derived.Test.YtlinkpjneehnbaaAwakeB
import Derived.Test.YtlinkpjneehnbaaBNilB
namespace Go.Proofs.Ytlinkpjneehnbaa
set_option linter.unusedVariables false
set_option linter.unusedSimpArgs false
open Go.RowKit Go.MapKept

theorem bput_long (m : DM) (p : List UInt8) (h : 1048576 < p.length) : bPutOf m p = (zero32, 8, m) := by unfold bPutOf; rw [if_pos h]
set_option maxRecDepth 100000 in
set_option maxHeartbeats 2000000 in
theorem bnil_walk (dg : List UInt8) (hl : dg.length = 32) (a : Option Addr) (n c : Nat) (w0 : World) :
    Calls Try.prog 16 #[.agg (dg.map u8v).toArray, .slice a n c] w0 fun e w' => e = .returned (.bool true) ∧ Below w0.heap.size w0 w' := by
  obtain ⟨cl, hcl⟩ : ∃ cl : List Value, cl = dg.map u8v := ⟨_, rfl⟩
  have hcz : cl.length = 32 := by rw [hcl]; simp [hl]
  rw [← hcl]
  have h0 : Own w0 (w0.alloc (.cells cl.toArray 57)) [rObj w0.heap.size w0.heap.size (.cells cl.toArray 57)] := (Own.start w0).alloc _
  have H0 := Lib.hid h0
  have HCL := Lib.hid hcl
  have HL := Lib.hid hl
  have HCZ := Lib.hid hcz
  have HI := Lib.hid (show (Try.prog.info? 57).map (·.size) = some cl.toArray.size by rw [List.size_toArray, hcz]; kernel_rfl)
  have HP := Lib.hid (put_nilB (w0.alloc (.cells cl.toArray 57)) a n c)
  clear h0 hcl hl hcz
  go_enter Try.func16, Try.ntmps16
  go_wp2_with fail
  refine HP.out.mono ?_
  rintro e w1 ⟨rfl, hk1⟩
  have H1 := Lib.hid ((H0.out.quiet hk1).alloc2 (.cells zeroC 58))
  clear hk1 H0 HP
  have HBX := Lib.hid (H1.out.at (b := w0.heap.size) (o := .cells cl.toArray 57) (by simp)).1
  have HS := Lib.hid (size_nilB (w1.alloc (.cells zeroC 58)) cl)
  go_wp2_with (first | (refine wpList_store_row rfl 58 _ _ rfl w1.heap.size zeroC rfl rfl 58 _ (heap_alloc_new w1 _) (dig_info zeroC_size) rfl (by kernel_rfl) ?_; rw [World.setRow_alloc_new]) | (refine wpList_load_row rfl 57 _ rfl w0.heap.size rfl 57 cl.toArray (0, 0) _ HBX.out Try.underlying57 rfl HI.out ?_))
  refine HS.out.mono ?_
  rintro e w2 ⟨rfl, hk2⟩
  have H2 := Lib.hid (H1.out.quiet hk2)
  clear hk2 H1 HS HBX
  have HBX2 := Lib.hid (H2.out.at (b := w0.heap.size) (o := .cells cl.toArray 57) (by simp)).1
  go_wp2_with (first | (refine wpList_load_row rfl 57 _ rfl w0.heap.size rfl 57 cl.toArray (0, 0) _ HBX2.out Try.underlying57 rfl HI.out ?_))
  refine (read_nilB _ cl 0 1).mono ?_
  rintro e w3 ⟨rfl, hk3⟩
  have H3 := Lib.hid (H2.out.quiet hk3)
  clear hk3 H2 HBX2
  go_wp2_with fail
  refine (list_nilB _).mono ?_
  rintro e w4 ⟨rfl, hk4⟩
  have H4 := Lib.hid (H3.out.quiet hk4)
  clear hk4 H3
  go_wp2_with fail
  refine (new_nilB _).mono ?_
  rintro e w5 ⟨rfl, hk5⟩
  obtain ⟨d, w6, hnew, h6⟩ := (H4.out.quiet hk5).new 4194304 (by omega) (by omega)
  have g1 := Good.new (room := 4194304) (by omega) (by omega)
  have hbn := bnew_calls h6 g1 (by omega)
  rw [bnew_new] at hbn
  have HBN := Lib.hid hbn
  have G1 := Lib.hid g1
  have HNEW := Lib.hid hnew
  clear hk5 H4 hnew h6 g1 hbn
  go_wp2_with fail
  refine HNEW.out.out.mono ?_; rintro e w' ⟨rfl, rfl⟩
  go_wp2_with fail
  refine HBN.out.mono ?_
  rintro e w7 (⟨hnn, _⟩ | ⟨_, st, rfl, h7⟩)
  · exact absurd rfl hnn
  obtain ⟨w8, hmk, hB, hk8⟩ := make_owns w7 1048577 (by omega)
  have hmk2 : (Instr.makeSlice 31 (.int .i64 1048577) (.int .i64 1048577)).run Try.prog w7 = .ok (.slice (some ⟨w7.heap.size, 0, none⟩) 1048577 1048577) w8 := hmk
  obtain ⟨l, hlr⟩ : ∃ l : List UInt8, l = List.replicate 1048577 0 := ⟨_, rfl⟩
  have hll : l.length = 1048577 := by rw [hlr, List.length_replicate]
  have hrl : Reads w8 (.slice (some ⟨w7.heap.size, 0, none⟩) 1048577 1048577) l := by rw [hlr]; exact hB.bytes.reads
  have hk78 := hk8
  obtain ⟨bv, hbv⟩ : ∃ bv : Value, bv = .slice (some ⟨w7.heap.size, 0, none⟩) 1048577 1048577 := ⟨_, rfl⟩
  have h8 := (h7.addBytes (v := bv) (l := l) (by rw [hlr, hbv]; exact hB) hk8).tuck2
  have hput := bput_calls h8 (st := st) (by simp) G1.out (by omega) (pv := .slice (some ⟨w7.heap.size, 0, none⟩) 1048577 1048577) (p := l) (fun W m' ho => by rw [← hbv]; exact (ho.bytes (by simp)).1) (by omega)
  rw [bput_long _ l (by omega)] at hput
  replace hput : Calls Try.prog 43 #[.pointer (some ⟨st, 0, none⟩), .slice (some ⟨w7.heap.size, 0, none⟩) 1048577 1048577] w8 (fun e w' => e = .returned (.tuple #[.agg zeroC, .int .i64 8]) ∧ Own w0 w' (rDisk w0.heap.size d (newOf 4194304) :: _)) := hput
  have HMK := Lib.hid hmk2
  have HPUT := Lib.hid hput
  clear HBN HNEW h7 hmk hmk2 hB hk8 hk78 hlr hll hrl h8 hput hbv
  go_wp2_with (at_make; refine wpList_make_run rfl _ _ _ rfl rfl rfl HMK.out ?_)
  refine HPUT.out.mono ?_
  rintro e w9 ⟨rfl, h9⟩
  have H9 := Lib.hid (h9.alloc2 (.cells zeroC 58))
  clear h9 HPUT HMK
  go_wp2_with (first | (refine wpList_store_row rfl 58 _ _ rfl w9.heap.size zeroC rfl rfl 58 _ (heap_alloc_new w9 _) (dig_info zeroC_size) rfl (by kernel_rfl) ?_; rw [World.setRow_alloc_new]))
  generalize w9.alloc (.cells zeroC 58) = wX at H9 ⊢
  have hbx := (H9.out.at (b := w0.heap.size) (o := .cells cl.toArray 57) (by simp)).1
  have hck : ∀ W, Keeps (fun _ => False) wX.drew W → W.rangeAt w0.heap.size 0 cl := fun W hk k v hv => by
    rw [Nat.zero_add]
    exact cell_at (hk.at (w := wX.drew) hbx (fun e => e)) (by rw [List.getElem?_toArray]; exact hv)
  have hund := Try.underlying57
  have hinfo : (Try.prog.info? 57).map (·.size) = some cl.length := HI.out
  have hfile := fun W => file_calls W dg HL.out
  have hrfile := fun W => rfile_calls W dg HL.out
  rw [← HCL.out] at hfile hrfile
  generalize fileOf dg = fl at hfile hrfile
  have HF := Lib.hid hfile
  have HRF := Lib.hid hrfile
  have HC0 := Lib.hid (hck _ (Keeps.refl _ _))
  have HCK := Lib.hid hck
  clear hbx hck hfile hrfile
  refine wp_region_held_drew (S := fun w' => w'.rangeAt w0.heap.size 0 cl) (by kernel_rfl) (by exact HC0.out) (fun hHeld => ?_)
  refine wpAnyH_ready (rs := [0]) (by kernel_rfl) (by simp) ?_
  refine AllReadyH.cons (o := { dst := some 66, op := Op.call { callee := Callee.value (Operand.func 42), args := #[], argTypes := #[] }, type := 4, pos := "law.go:279", after := #[], guard := none }) rfl (fun K hK => ?_) AllReadyH.nil
  go_simp
  go_at_call 42
  refine (awakeB_calls _).mono ?_
  rintro e wa ⟨rfl, ka⟩
  go_simp
  refine hK.out _ _ (by exact HCK.out _ ka) (fun hHeld1 => ?_)
  clear hK K
  try simp only [Act.put, List.setIfInBounds_toArray, List.set_cons_zero, List.set_cons_succ]
  clear hHeld
  refine wpAnyH_take (i := 1) (oi := { dst := some 67, op := Op.move (Operand.tmp 66), type := 4, pos := "law.go:279", after := #[{ on := 0, ground := Ground.data }, { on := 0, ground := Ground.chain }], guard := none }) (v := .bool true) rfl (by kernel_rfl) (by kernel_rfl) (by kernel_rfl) (fun _ _ _ h => h) (Or.inl ⟨by rfl, by intro w hSw; (try dsimp only at hSw); go_simp⟩) hHeld1 ?_
  try simp only [Act.put, List.setIfInBounds_toArray, List.set_cons_zero, List.set_cons_succ]
  refine wpAnyH_take (i := 2) (oi := { dst := some 68, op := Op.move (Operand.tmp 7), type := 25, pos := "law.go:279", after := #[{ on := 1, ground := Ground.guard }], guard := some (1, true) }) (v := .int .i64 2) rfl (by kernel_rfl) (by kernel_rfl) (by kernel_rfl) (fun _ _ _ h => h) (Or.inl ⟨by rfl, by intro w hSw; (try dsimp only at hSw); go_simp⟩) hHeld1 ?_
  try simp only [Act.put, List.setIfInBounds_toArray, List.set_cons_zero, List.set_cons_succ]
  refine wpAnyH_take (i := 3) (oi := { dst := some 69, op := Op.binOp BinOp.eql 25 (Operand.tmp 68) (Operand.const (Value.int IntKind.i64 2)) 25, type := 4, pos := "law.go:279", after := #[{ on := 2, ground := Ground.data }, { on := 1, ground := Ground.guard }], guard := some (1, true) }) (v := .bool true) rfl (by kernel_rfl) (by kernel_rfl) (by kernel_rfl) (fun _ _ _ h => h) (Or.inl ⟨by rfl, by intro w hSw; (try dsimp only at hSw); go_simp⟩) hHeld1 ?_
  try simp only [Act.put, List.setIfInBounds_toArray, List.set_cons_zero, List.set_cons_succ]
  refine wpAnyH_take (i := 4) (oi := { dst := some 70, op := Op.pick (Operand.tmp 67) (Operand.tmp 69) (Operand.const (Value.bool false)), type := 4, pos := "law.go:279", after := #[{ on := 1, ground := Ground.data }, { on := 3, ground := Ground.data }], guard := none }) (v := .bool true) rfl (by kernel_rfl) (by kernel_rfl) (by kernel_rfl) (fun _ _ _ h => h) (Or.inl ⟨by rfl, by intro w hSw; (try dsimp only at hSw); go_simp⟩) hHeld1 ?_
  try simp only [Act.put, List.setIfInBounds_toArray, List.set_cons_zero, List.set_cons_succ]
  refine wpAnyH_take (i := 5) (oi := { dst := some 71, op := Op.move (Operand.tmp 70), type := 4, pos := "law.go:279", after := #[{ on := 4, ground := Ground.data }, { on := 1, ground := Ground.chain }], guard := none }) (v := .bool true) rfl (by kernel_rfl) (by kernel_rfl) (by kernel_rfl) (fun _ _ _ h => h) (Or.inl ⟨by rfl, by intro w hSw; (try dsimp only at hSw); go_simp⟩) hHeld1 ?_
  try simp only [Act.put, List.setIfInBounds_toArray, List.set_cons_zero, List.set_cons_succ]
  refine wpAnyH_take (i := 6) (oi := { dst := some 72, op := Op.move (Operand.tmp 9), type := 25, pos := "law.go:279", after := #[{ on := 5, ground := Ground.guard }], guard := some (5, true) }) (v := .int .i64 2) rfl (by kernel_rfl) (by kernel_rfl) (by kernel_rfl) (fun _ _ _ h => h) (Or.inl ⟨by rfl, by intro w hSw; (try dsimp only at hSw); go_simp⟩) hHeld1 ?_
  try simp only [Act.put, List.setIfInBounds_toArray, List.set_cons_zero, List.set_cons_succ]
  refine wpAnyH_take (i := 7) (oi := { dst := some 73, op := Op.binOp BinOp.eql 25 (Operand.tmp 72) (Operand.const (Value.int IntKind.i64 2)) 25, type := 4, pos := "law.go:279", after := #[{ on := 6, ground := Ground.data }, { on := 5, ground := Ground.guard }], guard := some (5, true) }) (v := .bool true) rfl (by kernel_rfl) (by kernel_rfl) (by kernel_rfl) (fun _ _ _ h => h) (Or.inl ⟨by rfl, by intro w hSw; (try dsimp only at hSw); go_simp⟩) hHeld1 ?_
  try simp only [Act.put, List.setIfInBounds_toArray, List.set_cons_zero, List.set_cons_succ]
  refine wpAnyH_take (i := 8) (oi := { dst := some 74, op := Op.pick (Operand.tmp 71) (Operand.tmp 73) (Operand.const (Value.bool false)), type := 4, pos := "law.go:279", after := #[{ on := 5, ground := Ground.data }, { on := 7, ground := Ground.data }], guard := none }) (v := .bool true) rfl (by kernel_rfl) (by kernel_rfl) (by kernel_rfl) (fun _ _ _ h => h) (Or.inl ⟨by rfl, by intro w hSw; (try dsimp only at hSw); go_simp⟩) hHeld1 ?_
  try simp only [Act.put, List.setIfInBounds_toArray, List.set_cons_zero, List.set_cons_succ]
  refine wpAnyH_take (i := 9) (oi := { dst := some 75, op := Op.move (Operand.tmp 74), type := 4, pos := "law.go:279", after := #[{ on := 8, ground := Ground.data }, { on := 5, ground := Ground.chain }], guard := none }) (v := .bool true) rfl (by kernel_rfl) (by kernel_rfl) (by kernel_rfl) (fun _ _ _ h => h) (Or.inl ⟨by rfl, by intro w hSw; (try dsimp only at hSw); go_simp⟩) hHeld1 ?_
  try simp only [Act.put, List.setIfInBounds_toArray, List.set_cons_zero, List.set_cons_succ]
  refine wpAnyH_take (i := 10) (oi := { dst := some 76, op := Op.move (Operand.tmp 11), type := 25, pos := "law.go:279", after := #[{ on := 9, ground := Ground.guard }], guard := some (9, true) }) (v := .int .i64 2) rfl (by kernel_rfl) (by kernel_rfl) (by kernel_rfl) (fun _ _ _ h => h) (Or.inl ⟨by rfl, by intro w hSw; (try dsimp only at hSw); go_simp⟩) hHeld1 ?_
  try simp only [Act.put, List.setIfInBounds_toArray, List.set_cons_zero, List.set_cons_succ]
  refine wpAnyH_take (i := 11) (oi := { dst := some 77, op := Op.binOp BinOp.eql 25 (Operand.tmp 76) (Operand.const (Value.int IntKind.i64 2)) 25, type := 4, pos := "law.go:279", after := #[{ on := 10, ground := Ground.data }, { on := 9, ground := Ground.guard }], guard := some (9, true) }) (v := .bool true) rfl (by kernel_rfl) (by kernel_rfl) (by kernel_rfl) (fun _ _ _ h => h) (Or.inl ⟨by rfl, by intro w hSw; (try dsimp only at hSw); go_simp⟩) hHeld1 ?_
  try simp only [Act.put, List.setIfInBounds_toArray, List.set_cons_zero, List.set_cons_succ]
  refine wpAnyH_take (i := 12) (oi := { dst := some 78, op := Op.pick (Operand.tmp 75) (Operand.tmp 77) (Operand.const (Value.bool false)), type := 4, pos := "law.go:279", after := #[{ on := 9, ground := Ground.data }, { on := 11, ground := Ground.data }], guard := none }) (v := .bool true) rfl (by kernel_rfl) (by kernel_rfl) (by kernel_rfl) (fun _ _ _ h => h) (Or.inl ⟨by rfl, by intro w hSw; (try dsimp only at hSw); go_simp⟩) hHeld1 ?_
  try simp only [Act.put, List.setIfInBounds_toArray, List.set_cons_zero, List.set_cons_succ]
  refine wpAnyH_take (i := 13) (oi := { dst := some 79, op := Op.move (Operand.tmp 78), type := 4, pos := "law.go:279", after := #[{ on := 12, ground := Ground.data }, { on := 9, ground := Ground.chain }], guard := none }) (v := .bool true) rfl (by kernel_rfl) (by kernel_rfl) (by kernel_rfl) (fun _ _ _ h => h) (Or.inl ⟨by rfl, by intro w hSw; (try dsimp only at hSw); go_simp⟩) hHeld1 ?_
  try simp only [Act.put, List.setIfInBounds_toArray, List.set_cons_zero, List.set_cons_succ]
  refine wpAnyH_take (i := 14) (oi := { dst := some 80, op := Op.move (Operand.tmp 13), type := 25, pos := "law.go:279", after := #[{ on := 13, ground := Ground.guard }], guard := some (13, true) }) (v := .int .i64 2) rfl (by kernel_rfl) (by kernel_rfl) (by kernel_rfl) (fun _ _ _ h => h) (Or.inl ⟨by rfl, by intro w hSw; (try dsimp only at hSw); go_simp⟩) hHeld1 ?_
  try simp only [Act.put, List.setIfInBounds_toArray, List.set_cons_zero, List.set_cons_succ]
  refine wpAnyH_take (i := 15) (oi := { dst := some 81, op := Op.binOp BinOp.eql 25 (Operand.tmp 80) (Operand.const (Value.int IntKind.i64 2)) 25, type := 4, pos := "law.go:279", after := #[{ on := 14, ground := Ground.data }, { on := 13, ground := Ground.guard }], guard := some (13, true) }) (v := .bool true) rfl (by kernel_rfl) (by kernel_rfl) (by kernel_rfl) (fun _ _ _ h => h) (Or.inl ⟨by rfl, by intro w hSw; (try dsimp only at hSw); go_simp⟩) hHeld1 ?_
  try simp only [Act.put, List.setIfInBounds_toArray, List.set_cons_zero, List.set_cons_succ]
  refine wpAnyH_take (i := 16) (oi := { dst := some 82, op := Op.pick (Operand.tmp 79) (Operand.tmp 81) (Operand.const (Value.bool false)), type := 4, pos := "law.go:279", after := #[{ on := 13, ground := Ground.data }, { on := 15, ground := Ground.data }], guard := none }) (v := .bool true) rfl (by kernel_rfl) (by kernel_rfl) (by kernel_rfl) (fun _ _ _ h => h) (Or.inl ⟨by rfl, by intro w hSw; (try dsimp only at hSw); go_simp⟩) hHeld1 ?_
  try simp only [Act.put, List.setIfInBounds_toArray, List.set_cons_zero, List.set_cons_succ]
  refine wpAnyH_take (i := 17) (oi := { dst := some 83, op := Op.move (Operand.tmp 82), type := 4, pos := "law.go:279", after := #[{ on := 16, ground := Ground.data }, { on := 13, ground := Ground.chain }], guard := none }) (v := .bool true) rfl (by kernel_rfl) (by kernel_rfl) (by kernel_rfl) (fun _ _ _ h => h) (Or.inl ⟨by rfl, by intro w hSw; (try dsimp only at hSw); go_simp⟩) hHeld1 ?_
  try simp only [Act.put, List.setIfInBounds_toArray, List.set_cons_zero, List.set_cons_succ]
  refine wpAnyH_take (i := 18) (oi := { dst := some 84, op := Op.move (Operand.tmp 15), type := 25, pos := "law.go:279", after := #[{ on := 17, ground := Ground.guard }], guard := some (17, true) }) (v := .int .i64 2) rfl (by kernel_rfl) (by kernel_rfl) (by kernel_rfl) (fun _ _ _ h => h) (Or.inl ⟨by rfl, by intro w hSw; (try dsimp only at hSw); go_simp⟩) hHeld1 ?_
  try simp only [Act.put, List.setIfInBounds_toArray, List.set_cons_zero, List.set_cons_succ]
  refine wpAnyH_take (i := 19) (oi := { dst := some 85, op := Op.binOp BinOp.eql 25 (Operand.tmp 84) (Operand.const (Value.int IntKind.i64 2)) 25, type := 4, pos := "law.go:279", after := #[{ on := 18, ground := Ground.data }, { on := 17, ground := Ground.guard }], guard := some (17, true) }) (v := .bool true) rfl (by kernel_rfl) (by kernel_rfl) (by kernel_rfl) (fun _ _ _ h => h) (Or.inl ⟨by rfl, by intro w hSw; (try dsimp only at hSw); go_simp⟩) hHeld1 ?_
  try simp only [Act.put, List.setIfInBounds_toArray, List.set_cons_zero, List.set_cons_succ]
  refine wpAnyH_take (i := 20) (oi := { dst := some 86, op := Op.pick (Operand.tmp 83) (Operand.tmp 85) (Operand.const (Value.bool false)), type := 4, pos := "law.go:279", after := #[{ on := 17, ground := Ground.data }, { on := 19, ground := Ground.data }], guard := none }) (v := .bool true) rfl (by kernel_rfl) (by kernel_rfl) (by kernel_rfl) (fun _ _ _ h => h) (Or.inl ⟨by rfl, by intro w hSw; (try dsimp only at hSw); go_simp⟩) hHeld1 ?_
  try simp only [Act.put, List.setIfInBounds_toArray, List.set_cons_zero, List.set_cons_succ]
  refine wpAnyH_take (i := 21) (oi := { dst := some 87, op := Op.move (Operand.tmp 86), type := 4, pos := "law.go:279", after := #[{ on := 20, ground := Ground.data }, { on := 17, ground := Ground.chain }], guard := none }) (v := .bool true) rfl (by kernel_rfl) (by kernel_rfl) (by kernel_rfl) (fun _ _ _ h => h) (Or.inl ⟨by rfl, by intro w hSw; (try dsimp only at hSw); go_simp⟩) hHeld1 ?_
  try simp only [Act.put, List.setIfInBounds_toArray, List.set_cons_zero, List.set_cons_succ]
  refine wpAnyH_take (i := 22) (oi := { dst := some 88, op := Op.move (Operand.tmp 14), type := 54, pos := "law.go:279", after := #[{ on := 21, ground := Ground.guard }], guard := some (21, true) }) (v := .pointer none) rfl (by kernel_rfl) (by kernel_rfl) (by kernel_rfl) (fun _ _ _ h => h) (Or.inl ⟨by rfl, by intro w hSw; (try dsimp only at hSw); go_simp⟩) hHeld1 ?_
  try simp only [Act.put, List.setIfInBounds_toArray, List.set_cons_zero, List.set_cons_succ]
  refine wpAnyH_take (i := 23) (oi := { dst := some 89, op := Op.binOp BinOp.eql 54 (Operand.tmp 88) (Operand.const (Value.pointer none)) 54, type := 4, pos := "law.go:279", after := #[{ on := 22, ground := Ground.data }, { on := 21, ground := Ground.guard }], guard := some (21, true) }) (v := .bool true) rfl (by kernel_rfl) (by kernel_rfl) (by kernel_rfl) (fun _ _ _ h => h) (Or.inl ⟨by rfl, by intro w hSw; (try dsimp only at hSw); go_simp⟩) hHeld1 ?_
  try simp only [Act.put, List.setIfInBounds_toArray, List.set_cons_zero, List.set_cons_succ]
  refine wpAnyH_take (i := 24) (oi := { dst := some 90, op := Op.pick (Operand.tmp 87) (Operand.tmp 89) (Operand.const (Value.bool false)), type := 4, pos := "law.go:279", after := #[{ on := 21, ground := Ground.data }, { on := 23, ground := Ground.data }], guard := none }) (v := .bool true) rfl (by kernel_rfl) (by kernel_rfl) (by kernel_rfl) (fun _ _ _ h => h) (Or.inl ⟨by rfl, by intro w hSw; (try dsimp only at hSw); go_simp⟩) hHeld1 ?_
  try simp only [Act.put, List.setIfInBounds_toArray, List.set_cons_zero, List.set_cons_succ]
  refine wpAnyH_take (i := 25) (oi := { dst := some 91, op := Op.move (Operand.tmp 90), type := 4, pos := "law.go:279", after := #[{ on := 24, ground := Ground.data }, { on := 21, ground := Ground.chain }], guard := none }) (v := .bool true) rfl (by kernel_rfl) (by kernel_rfl) (by kernel_rfl) (fun _ _ _ h => h) (Or.inl ⟨by rfl, by intro w hSw; (try dsimp only at hSw); go_simp⟩) hHeld1 ?_
  try simp only [Act.put, List.setIfInBounds_toArray, List.set_cons_zero, List.set_cons_succ]
  refine wpAnyH_take (i := 26) (oi := { dst := some 92, op := Op.move (Operand.tmp 5), type := 54, pos := "law.go:279", after := #[{ on := 25, ground := Ground.guard }], guard := some (25, true) }) (v := .pointer none) rfl (by kernel_rfl) (by kernel_rfl) (by kernel_rfl) (fun _ _ _ h => h) (Or.inl ⟨by rfl, by intro w hSw; (try dsimp only at hSw); go_simp⟩) hHeld1 ?_
  try simp only [Act.put, List.setIfInBounds_toArray, List.set_cons_zero, List.set_cons_succ]
  refine wpAnyH_take (i := 27) (oi := { dst := some 93, op := Op.load 57 (Operand.tmp 2), type := 57, pos := "law.go:279", after := #[{ on := 25, ground := Ground.guard }], guard := some (25, true) }) (v := .agg (cl).toArray) rfl (by kernel_rfl) (by kernel_rfl) (by kernel_rfl) (fun _ _ _ h => h) (yieldsIf_load_mid (by rfl) _ _ rfl (w0.heap.size) 0 rfl (cl) _ (fun _ h => h) hund rfl hinfo) hHeld1 ?_
  try simp only [Act.put, List.setIfInBounds_toArray, List.set_cons_zero, List.set_cons_succ]
  refine wpAnyH_ready (rs := [28]) (by kernel_rfl) (by simp) ?_
  refine AllReadyH.cons (o := { dst := some 94, op := Op.call { callee := Callee.value (Operand.func 68), args := #[Operand.tmp 92, Operand.tmp 93], argTypes := #[54, 58] }, type := 25, pos := "law.go:279", after := #[{ on := 26, ground := Ground.data }, { on := 27, ground := Ground.data }, { on := 25, ground := Ground.chain }, { on := 25, ground := Ground.guard }], guard := some (25, true) }) rfl (fun K hK => ?_) AllReadyH.nil
  go_simp
  go_at_call 68
  refine (delete_nilB _ cl).mono ?_
  rintro e wd ⟨rfl, kd⟩
  go_simp
  refine hK.out _ _ (by exact HCK.out _ (ka.trans kd (fun _ _ e => e))) (fun hHeld2 => ?_)
  clear hK K
  try simp only [Act.put, List.setIfInBounds_toArray, List.set_cons_zero, List.set_cons_succ]
  clear hHeld1
  refine wpAnyH_take (i := 29) (oi := { dst := some 95, op := Op.binOp BinOp.eql 25 (Operand.tmp 94) (Operand.const (Value.int IntKind.i64 2)) 25, type := 4, pos := "law.go:279", after := #[{ on := 28, ground := Ground.data }, { on := 25, ground := Ground.guard }], guard := some (25, true) }) (v := .bool true) rfl (by kernel_rfl) (by kernel_rfl) (by kernel_rfl) (fun _ _ _ h => h) (Or.inl ⟨by rfl, by intro w hSw; (try dsimp only at hSw); go_simp⟩) hHeld2 ?_
  try simp only [Act.put, List.setIfInBounds_toArray, List.set_cons_zero, List.set_cons_succ]
  refine wpAnyH_take (i := 30) (oi := { dst := some 96, op := Op.pick (Operand.tmp 91) (Operand.tmp 95) (Operand.const (Value.bool false)), type := 4, pos := "law.go:279", after := #[{ on := 25, ground := Ground.data }, { on := 29, ground := Ground.data }], guard := none }) (v := .bool true) rfl (by kernel_rfl) (by kernel_rfl) (by kernel_rfl) (fun _ _ _ h => h) (Or.inl ⟨by rfl, by intro w hSw; (try dsimp only at hSw); go_simp⟩) hHeld2 ?_
  try simp only [Act.put, List.setIfInBounds_toArray, List.set_cons_zero, List.set_cons_succ]
  refine wpAnyH_take (i := 31) (oi := { dst := some 97, op := Op.move (Operand.tmp 96), type := 4, pos := "law.go:279", after := #[{ on := 30, ground := Ground.data }, { on := 28, ground := Ground.chain }], guard := none }) (v := .bool true) rfl (by kernel_rfl) (by kernel_rfl) (by kernel_rfl) (fun _ _ _ h => h) (Or.inl ⟨by rfl, by intro w hSw; (try dsimp only at hSw); go_simp⟩) hHeld2 ?_
  try simp only [Act.put, List.setIfInBounds_toArray, List.set_cons_zero, List.set_cons_succ]
  refine wpAnyH_take (i := 32) (oi := { dst := some 98, op := Op.move (Operand.tmp 5), type := 54, pos := "law.go:279", after := #[{ on := 31, ground := Ground.guard }], guard := some (31, true) }) (v := .pointer none) rfl (by kernel_rfl) (by kernel_rfl) (by kernel_rfl) (fun _ _ _ h => h) (Or.inl ⟨by rfl, by intro w hSw; (try dsimp only at hSw); go_simp⟩) hHeld2 ?_
  try simp only [Act.put, List.setIfInBounds_toArray, List.set_cons_zero, List.set_cons_succ]
  refine wpAnyH_take (i := 33) (oi := { dst := some 99, op := Op.load 57 (Operand.tmp 2), type := 57, pos := "law.go:279", after := #[{ on := 31, ground := Ground.guard }], guard := some (31, true) }) (v := .agg (cl).toArray) rfl (by kernel_rfl) (by kernel_rfl) (by kernel_rfl) (fun _ _ _ h => h) (yieldsIf_load_mid (by rfl) _ _ rfl (w0.heap.size) 0 rfl (cl) _ (fun _ h => h) hund rfl hinfo) hHeld2 ?_
  try simp only [Act.put, List.setIfInBounds_toArray, List.set_cons_zero, List.set_cons_succ]
  refine wpAnyH_ready (rs := [34]) (by kernel_rfl) (by simp) ?_
  refine AllReadyH.cons (o := { dst := some 100, op := Op.call { callee := Callee.value (Operand.func 49), args := #[Operand.tmp 98, Operand.const (Value.string { data := #[102] }), Operand.tmp 99], argTypes := #[54, 9, 58] }, type := 25, pos := "law.go:279", after := #[{ on := 32, ground := Ground.data }, { on := 33, ground := Ground.data }, { on := 31, ground := Ground.chain }, { on := 31, ground := Ground.guard }], guard := some (31, true) }) rfl (fun K hK => ?_) AllReadyH.nil
  go_simp
  go_at_call 49
  refine (adopt_nilB _ cl _).mono ?_
  rintro e we ⟨rfl, ke⟩
  go_simp
  refine hK.out _ _ (by exact HCK.out _ ((ka.trans kd (fun _ _ e => e)).trans ke (fun _ _ e => e))) (fun hHeld3 => ?_)
  clear hK K
  try simp only [Act.put, List.setIfInBounds_toArray, List.set_cons_zero, List.set_cons_succ]
  clear hHeld2
  refine wpAnyH_take (i := 35) (oi := { dst := some 101, op := Op.binOp BinOp.eql 25 (Operand.tmp 100) (Operand.const (Value.int IntKind.i64 2)) 25, type := 4, pos := "law.go:279", after := #[{ on := 34, ground := Ground.data }, { on := 31, ground := Ground.guard }], guard := some (31, true) }) (v := .bool true) rfl (by kernel_rfl) (by kernel_rfl) (by kernel_rfl) (fun _ _ _ h => h) (Or.inl ⟨by rfl, by intro w hSw; (try dsimp only at hSw); go_simp⟩) hHeld3 ?_
  try simp only [Act.put, List.setIfInBounds_toArray, List.set_cons_zero, List.set_cons_succ]
  refine wpAnyH_take (i := 36) (oi := { dst := some 102, op := Op.pick (Operand.tmp 97) (Operand.tmp 101) (Operand.const (Value.bool false)), type := 4, pos := "law.go:279", after := #[{ on := 31, ground := Ground.data }, { on := 35, ground := Ground.data }], guard := none }) (v := .bool true) rfl (by kernel_rfl) (by kernel_rfl) (by kernel_rfl) (fun _ _ _ h => h) (Or.inl ⟨by rfl, by intro w hSw; (try dsimp only at hSw); go_simp⟩) hHeld3 ?_
  try simp only [Act.put, List.setIfInBounds_toArray, List.set_cons_zero, List.set_cons_succ]
  refine wpAnyH_take (i := 37) (oi := { dst := some 103, op := Op.move (Operand.tmp 102), type := 4, pos := "law.go:279", after := #[{ on := 36, ground := Ground.data }, { on := 34, ground := Ground.chain }], guard := none }) (v := .bool true) rfl (by kernel_rfl) (by kernel_rfl) (by kernel_rfl) (fun _ _ _ h => h) (Or.inl ⟨by rfl, by intro w hSw; (try dsimp only at hSw); go_simp⟩) hHeld3 ?_
  try simp only [Act.put, List.setIfInBounds_toArray, List.set_cons_zero, List.set_cons_succ]
  refine wpAnyH_take (i := 38) (oi := { dst := some 104, op := Op.move (Operand.tmp 5), type := 54, pos := "law.go:279", after := #[{ on := 37, ground := Ground.guard }], guard := some (37, true) }) (v := .pointer none) rfl (by kernel_rfl) (by kernel_rfl) (by kernel_rfl) (fun _ _ _ h => h) (Or.inl ⟨by rfl, by intro w hSw; (try dsimp only at hSw); go_simp⟩) hHeld3 ?_
  try simp only [Act.put, List.setIfInBounds_toArray, List.set_cons_zero, List.set_cons_succ]
  refine wpAnyH_take (i := 39) (oi := { dst := some 105, op := Op.load 57 (Operand.tmp 2), type := 57, pos := "law.go:279", after := #[{ on := 37, ground := Ground.guard }], guard := some (37, true) }) (v := .agg (cl).toArray) rfl (by kernel_rfl) (by kernel_rfl) (by kernel_rfl) (fun _ _ _ h => h) (yieldsIf_load_mid (by rfl) _ _ rfl (w0.heap.size) 0 rfl (cl) _ (fun _ h => h) hund rfl hinfo) hHeld3 ?_
  try simp only [Act.put, List.setIfInBounds_toArray, List.set_cons_zero, List.set_cons_succ]
  refine wpAnyH_ready (rs := [40]) (by kernel_rfl) (by simp) ?_
  refine AllReadyH.cons (o := { dst := some 106, op := Op.call { callee := Callee.value (Operand.func 50), args := #[Operand.tmp 104, Operand.tmp 105], argTypes := #[54, 58] }, type := 4, pos := "law.go:279", after := #[{ on := 38, ground := Ground.data }, { on := 39, ground := Ground.data }, { on := 37, ground := Ground.chain }, { on := 37, ground := Ground.guard }], guard := some (37, true) }) rfl (fun K hK => ?_) AllReadyH.nil
  go_simp
  go_at_call 50
  refine (whole_nilB _ cl HCZ.out).mono ?_
  rintro e wf ⟨rfl, kf⟩
  go_simp
  refine hK.out _ _ (by exact HCK.out _ (((ka.trans kd (fun _ _ e => e)).trans ke (fun _ _ e => e)).trans kf (fun _ _ e => e))) (fun hHeld4 => ?_)
  clear hK K
  try simp only [Act.put, List.setIfInBounds_toArray, List.set_cons_zero, List.set_cons_succ]
  clear hHeld3
  refine wpAnyH_take (i := 41) (oi := { dst := some 107, op := Op.unOp UnOp.not 4 (Operand.tmp 106), type := 4, pos := "law.go:279", after := #[{ on := 40, ground := Ground.data }, { on := 37, ground := Ground.guard }], guard := some (37, true) }) (v := .bool true) rfl (by kernel_rfl) (by kernel_rfl) (by kernel_rfl) (fun _ _ _ h => h) (Or.inl ⟨by rfl, by intro w hSw; (try dsimp only at hSw); go_simp⟩) hHeld4 ?_
  try simp only [Act.put, List.setIfInBounds_toArray, List.set_cons_zero, List.set_cons_succ]
  refine wpAnyH_take (i := 42) (oi := { dst := some 108, op := Op.pick (Operand.tmp 103) (Operand.tmp 107) (Operand.const (Value.bool false)), type := 4, pos := "law.go:279", after := #[{ on := 37, ground := Ground.data }, { on := 41, ground := Ground.data }], guard := none }) (v := .bool true) rfl (by kernel_rfl) (by kernel_rfl) (by kernel_rfl) (fun _ _ _ h => h) (Or.inl ⟨by rfl, by intro w hSw; (try dsimp only at hSw); go_simp⟩) hHeld4 ?_
  try simp only [Act.put, List.setIfInBounds_toArray, List.set_cons_zero, List.set_cons_succ]
  refine wpAnyH_take (i := 43) (oi := { dst := some 109, op := Op.move (Operand.tmp 108), type := 4, pos := "law.go:279", after := #[{ on := 42, ground := Ground.data }, { on := 40, ground := Ground.chain }], guard := none }) (v := .bool true) rfl (by kernel_rfl) (by kernel_rfl) (by kernel_rfl) (fun _ _ _ h => h) (Or.inl ⟨by rfl, by intro w hSw; (try dsimp only at hSw); go_simp⟩) hHeld4 ?_
  try simp only [Act.put, List.setIfInBounds_toArray, List.set_cons_zero, List.set_cons_succ]
  refine wpAnyH_take (i := 44) (oi := { dst := some 110, op := Op.move (Operand.tmp 21), type := 25, pos := "law.go:279", after := #[{ on := 43, ground := Ground.guard }], guard := some (43, true) }) (v := .int .i64 8) rfl (by kernel_rfl) (by kernel_rfl) (by kernel_rfl) (fun _ _ _ h => h) (Or.inl ⟨by rfl, by intro w hSw; (try dsimp only at hSw); go_simp⟩) hHeld4 ?_
  try simp only [Act.put, List.setIfInBounds_toArray, List.set_cons_zero, List.set_cons_succ]
  refine wpAnyH_take (i := 45) (oi := { dst := some 111, op := Op.binOp BinOp.eql 25 (Operand.tmp 110) (Operand.const (Value.int IntKind.i64 8)) 25, type := 4, pos := "law.go:279", after := #[{ on := 44, ground := Ground.data }, { on := 43, ground := Ground.guard }], guard := some (43, true) }) (v := .bool true) rfl (by kernel_rfl) (by kernel_rfl) (by kernel_rfl) (fun _ _ _ h => h) (Or.inl ⟨by rfl, by intro w hSw; (try dsimp only at hSw); go_simp⟩) hHeld4 ?_
  try simp only [Act.put, List.setIfInBounds_toArray, List.set_cons_zero, List.set_cons_succ]
  refine wpAnyH_take (i := 46) (oi := { dst := some 112, op := Op.pick (Operand.tmp 109) (Operand.tmp 111) (Operand.const (Value.bool false)), type := 4, pos := "law.go:279", after := #[{ on := 43, ground := Ground.data }, { on := 45, ground := Ground.data }], guard := none }) (v := .bool true) rfl (by kernel_rfl) (by kernel_rfl) (by kernel_rfl) (fun _ _ _ h => h) (Or.inl ⟨by rfl, by intro w hSw; (try dsimp only at hSw); go_simp⟩) hHeld4 ?_
  try simp only [Act.put, List.setIfInBounds_toArray, List.set_cons_zero, List.set_cons_succ]
  refine wpAnyH_take (i := 47) (oi := { dst := some 113, op := Op.move (Operand.tmp 112), type := 4, pos := "law.go:279", after := #[{ on := 46, ground := Ground.data }, { on := 43, ground := Ground.chain }], guard := none }) (v := .bool true) rfl (by kernel_rfl) (by kernel_rfl) (by kernel_rfl) (fun _ _ _ h => h) (Or.inl ⟨by rfl, by intro w hSw; (try dsimp only at hSw); go_simp⟩) hHeld4 ?_
  try simp only [Act.put, List.setIfInBounds_toArray, List.set_cons_zero, List.set_cons_succ]
  refine wpAnyH_take (i := 48) (oi := { dst := some 114, op := Op.load 57 (Operand.tmp 2), type := 57, pos := "law.go:279", after := #[{ on := 47, ground := Ground.guard }], guard := some (47, true) }) (v := .agg (cl).toArray) rfl (by kernel_rfl) (by kernel_rfl) (by kernel_rfl) (fun _ _ _ h => h) (yieldsIf_load_mid (by rfl) _ _ rfl (w0.heap.size) 0 rfl (cl) _ (fun _ h => h) hund rfl hinfo) hHeld4 ?_
  try simp only [Act.put, List.setIfInBounds_toArray, List.set_cons_zero, List.set_cons_succ]
  refine wpAnyH_take (i := 50) (oi := { dst := some 116, op := Op.load 57 (Operand.tmp 2), type := 57, pos := "law.go:279", after := #[{ on := 47, ground := Ground.guard }], guard := some (47, true) }) (v := .agg (cl).toArray) rfl (by kernel_rfl) (by kernel_rfl) (by kernel_rfl) (fun _ _ _ h => h) (yieldsIf_load_mid (by rfl) _ _ rfl (w0.heap.size) 0 rfl (cl) _ (fun _ h => h) hund rfl hinfo) hHeld4 ?_
  try simp only [Act.put, List.setIfInBounds_toArray, List.set_cons_zero, List.set_cons_succ]
  refine wpAnyH_ready (rs := [49]) (by kernel_rfl) (by simp) ?_
  refine AllReadyH.cons (o := { dst := some 115, op := Op.call { callee := Callee.value (Operand.func 69), args := #[Operand.tmp 114], argTypes := #[58] }, type := 9, pos := "law.go:279", after := #[{ on := 48, ground := Ground.data }, { on := 47, ground := Ground.chain }, { on := 47, ground := Ground.guard }], guard := some (47, true) }) rfl (fun K hK => ?_) AllReadyH.nil
  go_simp
  go_at_call 69
  refine (HF.out _).mono ?_
  rintro e wg ⟨rfl, kg⟩
  go_simp
  refine hK.out _ _ (by exact HCK.out _ ((((ka.trans kd (fun _ _ e => e)).trans ke (fun _ _ e => e)).trans kf (fun _ _ e => e)).trans kg (fun _ _ e => e))) (fun hHeld5 => ?_)
  clear hK K
  try simp only [Act.put, List.setIfInBounds_toArray, List.set_cons_zero, List.set_cons_succ]
  clear hHeld4
  refine wpAnyH_ready (rs := [51]) (by kernel_rfl) (by simp) ?_
  refine AllReadyH.cons (o := { dst := some 117, op := Op.call { callee := Callee.value (Operand.func 70), args := #[Operand.tmp 116], argTypes := #[57] }, type := 9, pos := "law.go:279", after := #[{ on := 50, ground := Ground.data }, { on := 49, ground := Ground.chain }, { on := 47, ground := Ground.guard }], guard := some (47, true) }) rfl (fun K hK => ?_) AllReadyH.nil
  go_simp
  go_at_call 70
  refine (HRF.out _).mono ?_
  rintro e wh ⟨rfl, kh⟩
  go_simp
  refine hK.out _ _ (by exact HCK.out _ (((((ka.trans kd (fun _ _ e => e)).trans ke (fun _ _ e => e)).trans kf (fun _ _ e => e)).trans kg (fun _ _ e => e)).trans kh (fun _ _ e => e))) (fun hHeld6 => ?_)
  clear hK K
  try simp only [Act.put, List.setIfInBounds_toArray, List.set_cons_zero, List.set_cons_succ]
  clear hHeld5
  refine wpAnyH_take (i := 52) (oi := { dst := some 118, op := Op.binOp BinOp.eql 9 (Operand.tmp 115) (Operand.tmp 117) 9, type := 4, pos := "law.go:279", after := #[{ on := 49, ground := Ground.data }, { on := 51, ground := Ground.data }, { on := 47, ground := Ground.guard }], guard := some (47, true) }) (v := .bool true) rfl (by kernel_rfl) (by kernel_rfl) (by kernel_rfl) (fun _ _ _ h => h) (Or.inl ⟨by rfl, by intro w hSw; (try dsimp only at hSw); go_simp⟩) hHeld6 ?_
  try simp only [Act.put, List.setIfInBounds_toArray, List.set_cons_zero, List.set_cons_succ]
  refine wpAnyH_take (i := 53) (oi := { dst := some 119, op := Op.pick (Operand.tmp 113) (Operand.tmp 118) (Operand.const (Value.bool false)), type := 4, pos := "law.go:279", after := #[{ on := 47, ground := Ground.data }, { on := 52, ground := Ground.data }], guard := none }) (v := .bool true) rfl (by kernel_rfl) (by kernel_rfl) (by kernel_rfl) (fun _ _ _ h => h) (Or.inl ⟨by rfl, by intro w hSw; (try dsimp only at hSw); go_simp⟩) hHeld6 ?_
  try simp only [Act.put, List.setIfInBounds_toArray, List.set_cons_zero, List.set_cons_succ]
  refine wpAnyH_take (i := 54) (oi := { dst := some 4, op := Op.assign (Operand.tmp 119), type := 4, pos := "law.go:279", after := #[{ on := 53, ground := Ground.data }, { on := 51, ground := Ground.chain }, { on := 0, ground := Ground.phase }, { on := 1, ground := Ground.phase }, { on := 2, ground := Ground.phase }, { on := 3, ground := Ground.phase }, { on := 4, ground := Ground.phase }, { on := 5, ground := Ground.phase }, { on := 6, ground := Ground.phase }, { on := 7, ground := Ground.phase }, { on := 8, ground := Ground.phase }, { on := 9, ground := Ground.phase }, { on := 10, ground := Ground.phase }, { on := 11, ground := Ground.phase }, { on := 12, ground := Ground.phase }, { on := 13, ground := Ground.phase }, { on := 14, ground := Ground.phase }, { on := 15, ground := Ground.phase }, { on := 16, ground := Ground.phase }, { on := 17, ground := Ground.phase }, { on := 18, ground := Ground.phase }, { on := 19, ground := Ground.phase }, { on := 20, ground := Ground.phase }, { on := 21, ground := Ground.phase }, { on := 22, ground := Ground.phase }, { on := 23, ground := Ground.phase }, { on := 24, ground := Ground.phase }, { on := 25, ground := Ground.phase }, { on := 26, ground := Ground.phase }, { on := 27, ground := Ground.phase }, { on := 28, ground := Ground.phase }, { on := 29, ground := Ground.phase }, { on := 30, ground := Ground.phase }, { on := 31, ground := Ground.phase }, { on := 32, ground := Ground.phase }, { on := 33, ground := Ground.phase }, { on := 34, ground := Ground.phase }, { on := 35, ground := Ground.phase }, { on := 36, ground := Ground.phase }, { on := 37, ground := Ground.phase }, { on := 38, ground := Ground.phase }, { on := 39, ground := Ground.phase }, { on := 40, ground := Ground.phase }, { on := 41, ground := Ground.phase }, { on := 42, ground := Ground.phase }, { on := 43, ground := Ground.phase }, { on := 44, ground := Ground.phase }, { on := 45, ground := Ground.phase }, { on := 46, ground := Ground.phase }, { on := 47, ground := Ground.phase }, { on := 48, ground := Ground.phase }, { on := 49, ground := Ground.phase }, { on := 50, ground := Ground.phase }, { on := 51, ground := Ground.phase }, { on := 52, ground := Ground.phase }, { on := 53, ground := Ground.phase }], guard := none }) (v := .bool true) rfl (by kernel_rfl) (by kernel_rfl) (by kernel_rfl) (fun _ _ _ h => h) (Or.inl ⟨by rfl, by intro w hSw; (try dsimp only at hSw); go_simp⟩) hHeld6 ?_
  try simp only [Act.put, List.setIfInBounds_toArray, List.set_cons_zero, List.set_cons_succ]
  refine wpAnyH_done (by kernel_rfl) ?_ _
  clear hHeld6
  have HBL := Lib.hid ((H9.out.drew).quiet (((((ka.trans kd (fun _ _ e => e)).trans ke (fun _ _ e => e)).trans kf (fun _ _ e => e)).trans kg (fun _ _ e => e)).trans kh (fun _ _ e => e))).below
  clear hund hinfo ka kd ke kf kg kh
  go_wp2_with fail
  go_ret
  exact ⟨rfl, HBL.out⟩
end Go.Proofs.Ytlinkpjneehnbaa
