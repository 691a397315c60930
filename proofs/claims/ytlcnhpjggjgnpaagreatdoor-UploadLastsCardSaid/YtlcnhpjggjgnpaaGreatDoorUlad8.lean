/- A part of the proof. -/
import Derived.Test.YtlcnhpjggjgnpaaGreatDoorUlab4
import Derived.Test.YtlcnhpjggjgnpaaGreatDoorUlad2
import Derived.BigQuiet
namespace Go.Proofs.YtlcnhpjggjgnpaaGreatDoor
set_option linter.unusedVariables false
set_option linter.unusedSimpArgs false
open Go.RowKit Go.MapKept
theorem results_cell_tmp2 {fn : Func} {p u v : Tmp} {ty : TypeId} (h : fn.results = #[.cell p ty, .tmp u, .tmp v]) (tmps : Array Value) (P : Program) (w : World) :
  (results fn tmps).run P w =
   ((asAddr (tmps.getD p undef)).run P w).andThen fun a w₁ => ((loadVar ty a).run P w₁).andThen fun r w₂ => .ok (.tuple #[r, tmps.getD u undef, tmps.getD v undef]) w₂ := by
 simp only [results, h]
 simp [Sem.run_bind, Result.andThen]
theorem res_taken {fn : Func} {p u v : Tmp} (h : fn.results = #[.cell p 43, .tmp u, .tmp v]) (tmps : Array Value) (w : World) (g : Nat) (ds : Array Value) (hdz : ds.size = 3) (hp : tmps.getD p undef = .pointer (some ⟨g, 0, none⟩)) (hc : w.heap[g]? = some (.cells ds 43 (0, 0))) :
  (results fn tmps).run Tryz.prog w = .ok (.tuple #[.agg ds, tmps.getD u undef, tmps.getD v undef]) w := by
 rw [results_cell_tmp2 h, hp]
 simp only [asAddr, Sem.run_pure, Result.andThen_ok, run_loadVar_row w g 43 43 ds (0, 0) _ hc Tryz.underlying43 rfl (by rw [hdz]; kernel_rfl)]
theorem tak_slices (g n c k : Nat) (hk : k ≤ 32) (h1 : 1 + k ≤ n) (h2 : n < c ∨ 1 + k < n) (h3 : n ≤ c) :
  (∀ W, (Instr.sliceAt 22 (.slice (some ⟨g, 0, none⟩) n c) (some (.int .i64 1)) (some (.int .u8 (1 + (k : Int)))) none).run Tryz.prog W = .ok (.slice (some ⟨g, 1, none⟩) k (c - 1)) W) ∧
  (∀ W, (Instr.sliceAt 22 (.slice (some ⟨g, 0, none⟩) n c) (some (.int .u8 (1 + (k : Int)))) none none).run Tryz.prog W = .ok (.slice (some ⟨g, 1 + k, none⟩) (n - (1 + k)) (c - (1 + k))) W) := by
 refine ⟨fun W => ?_, fun W => ?_⟩
 ·rw [run_sliceAt_slice _ _ _ _ _ _ elem_bytes, run_slice_lh W 22 _ n c elem_bytes .i64 .u8 (1 : Int) (1 + (k : Int)) (by omega) (by omega) (by omega), size_u8]
  have e1 : (1 + (k : Int)).toNat = 1 + k := by omega
  have e2 : ((1 : Int)).toNat = 1 := rfl
  simp only [Result.andThen, sliced, e1, e2, Nat.mul_one, Nat.add_sub_cancel_left]
  rw [if_neg (by omega)]
  rfl
 ·rw [run_sliceAt_slice _ _ _ _ _ _ elem_bytes, run_slice_l W 22 _ n c elem_bytes .u8 (1 + (k : Int)) (by omega) (by omega), size_u8]
  have e1 : (1 + (k : Int)).toNat = 1 + k := by omega
  simp only [Result.andThen, sliced, e1, Nat.mul_one]
  rw [if_neg (by omega)]
  simp [Addr.add_lit]
theorem uval_length (x : UE) : (uval x).length = 9 + x.e.length + x.repo.size := laidOf_length _ _ _
theorem UEok.elen {x : UE} (h : UEok x) : x.e.length = 0 ∨ x.e.length = 32 := by
 rcases h.e with h | h
 ·left; rw [h]; rfl
 ·exact .inr h
theorem isRepo_pos {s : ByteArray} (h : isRepo s = true) : 0 < s.size := by
 rcases Nat.eq_zero_or_pos s.size with h0 | h0
 ·obtain ⟨a⟩ := s
  have : a = #[] := Array.eq_empty_of_size_eq_zero h0
  subst this
  have hn : isRepo ⟨#[]⟩ = false := by decide +kernel
  rw [hn] at h; cases h
 ·exact h0
theorem laid_cut (x : UE) : (uval x).drop (1 + x.e.length) = putOf x.til.toNat 8 ++ x.repo.toList ∧ ((uval x).drop 1).take x.e.length = x.e ∧ (uval x)[0]? = some (UInt8.ofNat x.e.length) := by
 refine ⟨?_, ?_, ?_⟩
 ·show ([UInt8.ofNat x.e.length] ++ x.e ++ putOf x.til.toNat 8 ++ x.repo.toList).drop (1 + x.e.length) = _
  rw [List.append_assoc, List.drop_left' (by simp; omega)]
 ·show (([UInt8.ofNat x.e.length] ++ x.e ++ putOf x.til.toNat 8 ++ x.repo.toList).drop 1).take x.e.length = _
  simp only [List.append_assoc, List.singleton_append, List.drop_succ_cons, List.drop_zero]
  exact List.take_left' rfl
 ·rfl
theorem Reads.off {w : World} {g o n c : Nat} {l : List UInt8} (h : Reads w (.slice (some ⟨g, o, none⟩) n c) l) (i j : Nat) (hij : i + j ≤ l.length) (hne : i < c) : Reads w (.slice (some ⟨g, o + i, none⟩) j (c - i)) ((l.drop i).take j) := by
 have := h.cut i j hij
 rw [if_neg (by omega), Addr.add_lit] at this
 exact this
theorem rangeOwn {w W : World} {b : Nat} {cl : List Value} {ty : TypeId} {M : List (Res w.heap.size)} (h : Own w W M) (hm : rObj w.heap.size b (.cells cl.toArray ty) ∈ M) : W.rangeAt b 0 cl := fun k v hv => by
 rw [Nat.zero_add]
 exact cell_at (h.at (b := b) (o := .cells cl.toArray ty) hm).1 (by rw [List.getElem?_toArray]; exact hv)
def tak0 : Obj := .cells #[.string ⟨#[]⟩, .int .i64 0, .int .i64 0] 43
set_option maxRecDepth 100000 in
set_option maxHeartbeats 1000000 in
theorem taken_calls {w : World} (hgl : GLen w) {x : UE} (hx : UEok x) {g n c : Nat} (h : Reads w (.slice (some ⟨g, 0, none⟩) n c) (uval x)) :
  Calls Tryz.prog 65 #[.slice (some ⟨g, 0, none⟩) n c] w (QuietP w (.tuple #[.agg #[.string x.repo, .int .i64 x.til, .int .i64 0], .slice (some ⟨g, 1, none⟩) x.e.length (c - 1), .bool true])) := by
 obtain ⟨k, hk⟩ : ∃ k, k = x.e.length := ⟨_, rfl⟩
 have hk2 : k = 0 ∨ k = 32 := by rw [hk]; exact hx.elen
 have hlen := uval_length x
 have hrs := isRepo_size hx.repo
 obtain ⟨cut1, cut2, cut3⟩ := laid_cut x
 obtain ⟨a', c', e0, hlc, hcm⟩ := h.form
 cases e0
 rw [← hk] at hlen cut1 cut2 cut3
 unfold maxLen at hcm
 obtain ⟨y, ey, hc0⟩ := h.cell (k := 0) rfl (by omega)
 cases ey
 have hc0' : w.cell? ⟨g, 0, none⟩ = some (.int .u8 (k : Int)) := by
  have e1 : (uval x)[0]'(by omega) = UInt8.ofNat k := by
   have := cut3
   rw [List.getElem?_eq_getElem (by omega)] at this
   exact Option.some.inj this
  rw [e1, Addr.add_zero'] at hc0
  rw [hc0]
  have : (UInt8.ofNat k).toNat = k := by simp; omega
  rw [this]
 obtain ⟨hs1, hs2⟩ := tak_slices g (uval x).length c k (by omega) (by omega) (by omega) hlc
 have hr8 : Reads w (.slice (some ⟨g, 1 + k, none⟩) 8 (c - (1 + k))) (putOf x.til.toNat 8) := by
  have := h.off (1 + k) 8 (by omega) (by omega)
  rw [cut1, List.take_left' (putOf_length _ _), Nat.zero_add] at this
  exact this
 have hrr : Reads w (.slice (some ⟨g, 9 + k, none⟩) x.repo.size (c - (9 + k))) x.repo.toList := by
  have := h.off (9 + k) x.repo.size (by omega) (by
   have : 0 < x.repo.size := isRepo_pos hx.repo
   omega)
  rw [show 9 + k = 1 + k + 8 by omega, ← List.drop_drop, cut1, List.drop_left' (putOf_length _ _), List.take_of_length_le (by rw [key_len]; exact Nat.le_refl _), Nat.zero_add] at this
  rw [show 9 + k = 1 + k + 8 by omega]
  exact this
 have hpos : 0 < x.repo.size := isRepo_pos hx.repo
 have hs3 : ∀ W, (Instr.sliceAt 22 (.slice (some ⟨g, 1 + k, none⟩) ((uval x).length - (1 + k)) (c - (1 + k))) none (some (.int .i64 8)) none).run Tryz.prog W = .ok (.slice (some ⟨g, 1 + k, none⟩) 8 (c - (1 + k))) W := fun W => by
  exact shead_run W (some ⟨g, 1 + k, none⟩) _ _ 8 (by omega)
 have hs4 : ∀ W, (Instr.sliceAt 22 (.slice (some ⟨g, 1 + k, none⟩) ((uval x).length - (1 + k)) (c - (1 + k))) (some (.int .i64 8)) none none).run Tryz.prog W = .ok (.slice (some ⟨g, 9 + k, none⟩) x.repo.size (c - (9 + k))) W := fun W => by
  rw [run_sliceAt_slice _ _ _ _ _ _ elem_bytes, run_slice_l W 22 _ _ _ elem_bytes .i64 (8 : Int) (by omega) (by omega), size_u8]
  have e2 : ((8 : Int)).toNat = 8 := rfl
  simp only [Result.andThen, sliced, e2, Nat.mul_one]
  rw [if_neg (by omega)]
  simp only [Option.map_some, Addr.add_lit]
  rw [show 1 + k + 8 = 9 + k by omega, show (uval x).length - (1 + k) - 8 = x.repo.size by omega, show c - (1 + k) - 8 = c - (9 + k) by omega]
 have hget := fun (W : World) (hW : Keeps (fun _ => False) w W) => get_calls (hr8.keep hW) (by rw [putOf_length]; exact Nat.le_refl _)
 rw [getOf_putOf 8 x.til.toNat (by have := hx.til; omega)] at hget
 have htl : ((x.til.toNat : Nat) : Int) = x.til := by have := hx.til; omega
 rw [htl] at hget
 have HGET := Lib.hid hget
 have HSTR := Lib.hid (fun (W : World) (hW : Keeps (fun _ => False) w W) => (by
  have := (hrr.keep hW).text
  rw [key_list] at this
  exact this : (convert 22 9 (.slice (some ⟨g, 9 + k, none⟩) x.repo.size (c - (9 + k)))).run Tryz.prog W = .ok (.string x.repo) W))
 have HISR := Lib.hid (fun (W : World) (hW : Keeps (fun _ => False) w W) => (by
  have := isrepo_calls W (hgl.keep hW) x.repo
  rw [hx.repo] at this
  exact this : Calls Tryz.prog 40 #[.string x.repo] W (QuietP W (.bool true))))
 have HC0 := Lib.hid (fun (W : World) (hW : Keeps (fun _ => False) w W) => cell_keep hc0' hW)
 have H1 := Lib.hid ((Own.start w).alloc tak0)
 have hc1 := cell_keep hc0' ((Keeps.refl (fun _ => False) w).alloc tak0)
 obtain ⟨len, hln⟩ : ∃ len, len = (uval x).length := ⟨_, rfl⟩
 obtain ⟨l2, hl2⟩ : ∃ l2, l2 = len - (1 + k) := ⟨_, rfl⟩
 obtain ⟨c2, hcc2⟩ : ∃ c2, c2 = c - (1 + k) := ⟨_, rfl⟩
 obtain ⟨c9, hcc9⟩ : ∃ c9, c9 = c - (9 + k) := ⟨_, rfl⟩
 obtain ⟨c1, hcc1⟩ : ∃ c1, c1 = c - 1 := ⟨_, rfl⟩
 rw [← hln, ← hl2, ← hcc2] at hs3 hs4
 rw [← hcc9] at hs4 HSTR
 rw [← hln] at hs1 hs2
 rw [← hcc1] at hs1
 rw [← hl2, ← hcc2] at hs2
 rw [← hcc2] at HGET
 rw [← hk, ← hcc1, ← hln]
 have j1 : decide ((len : Int) < 1) = false := decide_eq_false (by omega)
 have j2 : (((k : Int) != 0) && ((k : Int) != 32)) = false := by
  rcases hk2 with e | e <;> rw [e] <;> decide
 have j3 : IntKind.i64.wrap (k : Int) = (k : Int) := IntWalk.i64_in _ (by omega)
 have j4 : IntKind.i64.wrap (9 + (k : Int)) = 9 + (k : Int) := IntWalk.i64_in _ (by omega)
 have j9 : (0 : Int) < (len : Int) := by omega
 have j10 : ¬ len = 0 := by omega
 have j5 : decide ((len : Int) < 9 + (k : Int)) = false := decide_eq_false (by omega)
 have j6 : IntKind.u8.wrap (1 + (k : Int)) = 1 + (k : Int) := by simp [IntKind.wrap, IntKind.bits, IntKind.signed]; omega
 have j7 : IntKind.i64.wrap x.til = x.til := IntWalk.i64_in _ (by have := hx.til; omega)
 have j8 : decide (x.til ≤ 1099511627776) = true := decide_eq_true hx.til.2
 have HI3 := Lib.hid (show (Tryz.prog.info? 43).map (·.size) = some ([.string x.repo, .int .i64 x.til, .int .i64 0] : List Value).length by kernel_rfl)
 clear hgl hx h hk hlen hrs cut1 cut2 cut3 hcm hlc hc0 hc0' hr8 hrr hget htl hln hl2 hcc2 hcc9 hcc1 hpos
 generalize x.repo.size = rsz at *
 generalize x.repo = repo at *
 generalize x.til = til at *
 unfold tak0 at H1 hc1
 clear j2
 have k32 : (k : Int) ≤ 32 := by omega
 have k0 : (0 : Int) ≤ (k : Int) := by omega
 have hcase : (((k : Int) == 0) = true ∧ ((k : Int) != 0) = false) ∨ (((k : Int) != 0) = true ∧ ((k : Int) != 32) = false) := by
  rcases hk2 with e | e
  ·left; subst e; decide
  ·right; subst e; decide
 clear hk2
 rcases hcase with ⟨-, j2⟩ | ⟨j2, j2b⟩
 all_goals
  go_enter Tryz.func65, Tryz.ntmps65
  go_upto_region 3 with fail
  clear hc1 j1 j3 j4 j5 j2
  refine wp_region_held_drew (S := (fun W => W.cell? ⟨g, 0, none⟩ = some (.int .u8 (k : Int)))) (by kernel_rfl) (by exact HC0.out _ ((Keeps.refl (fun _ => False) w).alloc _).drew) (fun hHeld => ?_)
  refine wpAnyH_take (i := 0) (oi := { dst := some 33, op := _, type := _, pos := _, after := _, guard := _ }) (v := .slice (some ⟨g, 0, none⟩) len c) rfl (by kernel_rfl) (by kernel_rfl) (by kernel_rfl) (fun _ _ _ h => h) (Or.inl ⟨by rfl, by intro w hSw; (try dsimp only at hSw); go_simp⟩) hHeld ?_
  try simp only [Act.put, List.setIfInBounds_toArray, List.set_cons_zero, List.set_cons_succ]
  refine wpAnyH_take (i := 1) (oi := { dst := some 34, op := _, type := _, pos := _, after := _, guard := _ }) (v := .slice (some ⟨g, 0, none⟩) len c) rfl (by kernel_rfl) (by kernel_rfl) (by kernel_rfl) (fun _ _ _ h => h) (Or.inl ⟨by rfl, by intro w hSw; (try dsimp only at hSw); go_simp⟩) hHeld ?_
  try simp only [Act.put, List.setIfInBounds_toArray, List.set_cons_zero, List.set_cons_succ]
  refine wpAnyH_take (i := 2) (oi := { dst := some 35, op := _, type := _, pos := _, after := _, guard := _ }) (v := .pointer (some ⟨g, 0, none⟩)) rfl (by kernel_rfl) (by kernel_rfl) (by kernel_rfl) (fun _ _ _ h => h) (Or.inl ⟨by rfl, by intro w hSw; (try dsimp only at hSw); go_simp⟩) hHeld ?_
  try simp only [Act.put, List.setIfInBounds_toArray, List.set_cons_zero, List.set_cons_succ]
  refine wpAnyH_take (i := 3) (oi := { dst := some 36, op := _, type := _, pos := _, after := _, guard := _ }) (v := .int .u8 (k : Int)) rfl (by kernel_rfl) (by kernel_rfl) (by kernel_rfl) (fun _ _ _ h => h) (Or.inl ⟨by rfl, by intro w hSw; (try dsimp only at hSw); go_simp⟩) hHeld ?_
  try simp only [Act.put, List.setIfInBounds_toArray, List.set_cons_zero, List.set_cons_succ]
  refine wpAnyH_take (i := 4) (oi := { dst := some 37, op := _, type := _, pos := _, after := _, guard := _ }) (v := .int .u8 (1 + (k : Int))) rfl (by kernel_rfl) (by kernel_rfl) (by kernel_rfl) (fun _ _ _ h => h) (Or.inl ⟨by rfl, by intro w hSw; (try dsimp only at hSw); go_simp⟩) hHeld ?_
  try simp only [Act.put, List.setIfInBounds_toArray, List.set_cons_zero, List.set_cons_succ]
  refine wpAnyH_take (i := 5) (oi := { dst := some 38, op := _, type := _, pos := _, after := _, guard := _ }) (v := .slice (some ⟨g, 1, none⟩) k c1) rfl (by kernel_rfl) (by kernel_rfl) (by kernel_rfl) (fun _ _ _ h => h) (Or.inl ⟨by rfl, by intro w hSw; (try dsimp only at hSw); go_simp⟩) hHeld ?_
  try simp only [Act.put, List.setIfInBounds_toArray, List.set_cons_zero, List.set_cons_succ]
  refine wpAnyH_take (i := 6) (oi := { dst := some 39, op := _, type := _, pos := _, after := _, guard := _ }) (v := .slice (some ⟨g, 0, none⟩) len c) rfl (by kernel_rfl) (by kernel_rfl) (by kernel_rfl) (fun _ _ _ h => h) (Or.inl ⟨by rfl, by intro w hSw; (try dsimp only at hSw); go_simp⟩) hHeld ?_
  try simp only [Act.put, List.setIfInBounds_toArray, List.set_cons_zero, List.set_cons_succ]
  refine wpAnyH_take (i := 7) (oi := { dst := some 40, op := _, type := _, pos := _, after := _, guard := _ }) (v := .slice (some ⟨g, 0, none⟩) len c) rfl (by kernel_rfl) (by kernel_rfl) (by kernel_rfl) (fun _ _ _ h => h) (Or.inl ⟨by rfl, by intro w hSw; (try dsimp only at hSw); go_simp⟩) hHeld ?_
  try simp only [Act.put, List.setIfInBounds_toArray, List.set_cons_zero, List.set_cons_succ]
  refine wpAnyH_take (i := 8) (oi := { dst := some 41, op := _, type := _, pos := _, after := _, guard := _ }) (v := .pointer (some ⟨g, 0, none⟩)) rfl (by kernel_rfl) (by kernel_rfl) (by kernel_rfl) (fun _ _ _ h => h) (Or.inl ⟨by rfl, by intro w hSw; (try dsimp only at hSw); go_simp⟩) hHeld ?_
  try simp only [Act.put, List.setIfInBounds_toArray, List.set_cons_zero, List.set_cons_succ]
  refine wpAnyH_take (i := 9) (oi := { dst := some 42, op := _, type := _, pos := _, after := _, guard := _ }) (v := .int .u8 (k : Int)) rfl (by kernel_rfl) (by kernel_rfl) (by kernel_rfl) (fun _ _ _ h => h) (Or.inl ⟨by rfl, by intro w hSw; (try dsimp only at hSw); go_simp⟩) hHeld ?_
  try simp only [Act.put, List.setIfInBounds_toArray, List.set_cons_zero, List.set_cons_succ]
  refine wpAnyH_take (i := 10) (oi := { dst := some 43, op := _, type := _, pos := _, after := _, guard := _ }) (v := .int .u8 (1 + (k : Int))) rfl (by kernel_rfl) (by kernel_rfl) (by kernel_rfl) (fun _ _ _ h => h) (Or.inl ⟨by rfl, by intro w hSw; (try dsimp only at hSw); go_simp⟩) hHeld ?_
  try simp only [Act.put, List.setIfInBounds_toArray, List.set_cons_zero, List.set_cons_succ]
  refine wpAnyH_take (i := 11) (oi := { dst := some 44, op := _, type := _, pos := _, after := _, guard := _ }) (v := .slice (some ⟨g, 1 + k, none⟩) l2 c2) rfl (by kernel_rfl) (by kernel_rfl) (by kernel_rfl) (fun _ _ _ h => h) (Or.inl ⟨by rfl, by intro w hSw; (try dsimp only at hSw); go_simp⟩) hHeld ?_
  try simp only [Act.put, List.setIfInBounds_toArray, List.set_cons_zero, List.set_cons_succ]
  refine wpAnyH_take (i := 12) (oi := { dst := some 3, op := _, type := _, pos := _, after := _, guard := _ }) (v := .slice (some ⟨g, 1, none⟩) k c1) rfl (by kernel_rfl) (by kernel_rfl) (by kernel_rfl) (fun _ _ _ h => h) (Or.inl ⟨by rfl, by intro w hSw; (try dsimp only at hSw); go_simp⟩) hHeld ?_
  try simp only [Act.put, List.setIfInBounds_toArray, List.set_cons_zero, List.set_cons_succ]
  refine wpAnyH_take (i := 13) (oi := { dst := some 0, op := _, type := _, pos := _, after := _, guard := _ }) (v := .slice (some ⟨g, 1 + k, none⟩) l2 c2) rfl (by kernel_rfl) (by kernel_rfl) (by kernel_rfl) (fun _ _ _ h => h) (Or.inl ⟨by rfl, by intro w hSw; (try dsimp only at hSw); go_simp⟩) hHeld ?_
  try simp only [Act.put, List.setIfInBounds_toArray, List.set_cons_zero, List.set_cons_succ]
  refine wpAnyH_done (by kernel_rfl) ?_ _
  clear hHeld hs1 hs2 j6 j9
  go_wp2_with fail
  refine (HGET.out _ ((Keeps.refl (fun _ => False) w).alloc _).drew).mono ?_
  rintro e w2 ⟨rfl, hk2⟩
  have h2 := (H1.out.drew.quiet hk2).drew
  have H2 := Lib.hid h2
  go_upto_region 5 with fail
  clear hs3 HGET hk2
  have e1 := cell_at (i := 1) (h2.at (List.mem_cons_self ..)).1 rfl
  have f1 := free_at (h2.at (List.mem_cons_self ..)).1 1
  simp only [List.getElem_toArray, List.getElem_cons_succ, List.getElem_cons_zero] at e1
  have h3 : Own w (w2.drew.setCell ⟨w.heap.size, 1, none⟩ (.int .i64 til)) [rObj w.heap.size w.heap.size (.cells #[.string ⟨#[]⟩, .int .i64 til, .int .i64 0] 43)] := h2.store 1 (.int .i64 til)
  have e0 := cell_at (i := 0) (h3.at (List.mem_cons_self ..)).1 rfl
  have f0 := free_at (h3.at (List.mem_cons_self ..)).1 0
  simp only [List.getElem_toArray, List.getElem_cons_succ, List.getElem_cons_zero] at e0
  have h4 : Own w ((w2.drew.setCell ⟨w.heap.size, 1, none⟩ (.int .i64 til)).setCell ⟨w.heap.size, 0, none⟩ (.string repo)) [rObj w.heap.size w.heap.size (.cells #[.string repo, .int .i64 til, .int .i64 0] 43)] := h3.store 0 (.string repo)
  have H3 := Lib.hid h3
  have H4 := Lib.hid h4
  clear h2 h3 h4
  refine wp_region_held_drew (S := (fun W => Keeps (fun _ => False) w W)) (by kernel_rfl) (by exact H2.out.keeps) (fun hHeld => ?_)
  generalize w2.drew = w2d at *
  refine wpAnyH_take (i := 0) (oi := { dst := some 51, op := _, type := _, pos := _, after := _, guard := _ }) (v := .int .u64 til) rfl (by kernel_rfl) (by kernel_rfl) (by kernel_rfl) (fun _ _ _ h => h) (Or.inl ⟨by rfl, by intro w hSw; (try dsimp only at hSw); go_simp⟩) hHeld ?_
  try simp only [Act.put, List.setIfInBounds_toArray, List.set_cons_zero, List.set_cons_succ]
  refine wpAnyH_take (i := 1) (oi := { dst := some 52, op := _, type := _, pos := _, after := _, guard := _ }) (v := .int .i64 til) rfl (by kernel_rfl) (by kernel_rfl) (by kernel_rfl) (fun _ _ _ h => h) (Or.inl ⟨by rfl, by intro w hSw; (try dsimp only at hSw); go_simp⟩) hHeld ?_
  try simp only [Act.put, List.setIfInBounds_toArray, List.set_cons_zero, List.set_cons_succ]
  refine wpAnyH_take (i := 2) (oi := { dst := some 53, op := _, type := _, pos := _, after := _, guard := _ }) (v := .slice (some ⟨g, 1 + k, none⟩) l2 c2) rfl (by kernel_rfl) (by kernel_rfl) (by kernel_rfl) (fun _ _ _ h => h) (Or.inl ⟨by rfl, by intro w hSw; (try dsimp only at hSw); go_simp⟩) hHeld ?_
  try simp only [Act.put, List.setIfInBounds_toArray, List.set_cons_zero, List.set_cons_succ]
  refine wpAnyH_take (i := 3) (oi := { dst := some 54, op := _, type := _, pos := _, after := _, guard := _ }) (v := .slice (some ⟨g, 9 + k, none⟩) rsz c9) rfl (by kernel_rfl) (by kernel_rfl) (by kernel_rfl) (fun _ _ _ h => h) (Or.inl ⟨by rfl, by intro w hSw; (try dsimp only at hSw); go_simp⟩) hHeld ?_
  try simp only [Act.put, List.setIfInBounds_toArray, List.set_cons_zero, List.set_cons_succ]
  refine wpAnyH_take (i := 4) (oi := { dst := some 55, op := _, type := _, pos := _, after := _, guard := _ }) (v := .string repo) rfl (by kernel_rfl) (by kernel_rfl) (by kernel_rfl) (fun _ _ _ h => h) (Or.inl ⟨by rfl, by intro w hSw; (try dsimp only at hSw); (have q := HSTR.out _ hSw; go_simp)⟩) hHeld ?_
  try simp only [Act.put, List.setIfInBounds_toArray, List.set_cons_zero, List.set_cons_succ]
  refine wpAnyH_take (i := 5) (oi := { dst := some 56, op := _, type := _, pos := _, after := _, guard := _ }) (v := .pointer (some ⟨w.heap.size, 1, none⟩)) rfl (by kernel_rfl) (by kernel_rfl) (by kernel_rfl) (fun _ _ _ h => h) (Or.inl ⟨by rfl, by intro w hSw; (try dsimp only at hSw); go_simp⟩) hHeld ?_
  try simp only [Act.put, List.setIfInBounds_toArray, List.set_cons_zero, List.set_cons_succ]
  refine wpAnyH_ready (rs := [6]) (by kernel_rfl) (by simp) ?_
  refine AllReadyH.cons (o := { dst := none, op := _, type := _, pos := _, after := _, guard := _ }) rfl (fun K hK => ?_) AllReadyH.nil
  refine step_wanted' rfl ?_
  go_simp
  refine hK.out _ _ (by exact H3.out.keeps) (fun hHeld1 => ?_)
  clear hK K
  try simp only [Act.put, List.setIfInBounds_toArray, List.set_cons_zero, List.set_cons_succ]
  refine wpAnyH_take (i := 7) (oi := { dst := some 57, op := _, type := _, pos := _, after := _, guard := _ }) (v := .pointer (some ⟨w.heap.size, 0, none⟩)) rfl (by kernel_rfl) (by kernel_rfl) (by kernel_rfl) (fun _ _ _ h => h) (Or.inl ⟨by rfl, by intro w hSw; (try dsimp only at hSw); go_simp⟩) hHeld1 ?_
  try simp only [Act.put, List.setIfInBounds_toArray, List.set_cons_zero, List.set_cons_succ]
  refine wpAnyH_ready (rs := [8]) (by kernel_rfl) (by simp) ?_
  refine AllReadyH.cons (o := { dst := none, op := _, type := _, pos := _, after := _, guard := _ }) rfl (fun K hK => ?_) AllReadyH.nil
  refine step_wanted' rfl ?_
  go_simp
  refine hK.out _ _ (by exact H4.out.keeps) (fun hHeld2 => ?_)
  clear hK K
  try simp only [Act.put, List.setIfInBounds_toArray, List.set_cons_zero, List.set_cons_succ]
  refine wpAnyH_done (by kernel_rfl) ?_ _
  generalize (w2d.setCell ⟨w.heap.size, 1, none⟩ (.int .i64 til)).setCell ⟨w.heap.size, 0, none⟩ (.string repo) = w4 at *
  clear e1 f1 e0 f0 H2 H3 hs4 HSTR j7
  go_upto_region 6 with fail
  refine wp_region_held_drew (S := (fun W => Keeps (fun _ => False) w W ∧ W.rangeAt w.heap.size 0 [.string repo, .int .i64 til, .int .i64 0])) (by kernel_rfl) (by exact ⟨H4.out.drew.keeps, rangeOwn H4.out.drew (List.mem_cons_self ..)⟩) (fun hHeld => ?_)
  have H5 := Lib.hid H4.out.drew
  clear H4
  generalize w4.drew = w4d at *
  refine wpAnyH_take (i := 0) (oi := { dst := some 58, op := _, type := _, pos := _, after := _, guard := _ }) (v := .agg ([.string repo, .int .i64 til, .int .i64 0]).toArray) rfl (by kernel_rfl) (by kernel_rfl) (by kernel_rfl) (fun _ _ _ h => h) (yieldsIf_load_mid (by rfl) _ _ rfl (w.heap.size) (0) rfl ([.string repo, .int .i64 til, .int .i64 0]) _ (fun w' hk => hk.2) Tryz.underlying43 rfl HI3.out) hHeld ?_
  try simp only [Act.put, List.setIfInBounds_toArray, List.set_cons_zero, List.set_cons_succ]
  refine wpAnyH_take (i := 1) (oi := { dst := some 59, op := _, type := _, pos := _, after := _, guard := _ }) (v := .slice (some ⟨g, 1, none⟩) k c1) rfl (by kernel_rfl) (by kernel_rfl) (by kernel_rfl) (fun _ _ _ h => h) (Or.inl ⟨by rfl, by intro w hSw; (try dsimp only at hSw); go_simp⟩) hHeld ?_
  try simp only [Act.put, List.setIfInBounds_toArray, List.set_cons_zero, List.set_cons_succ]
  refine wpAnyH_take (i := 2) (oi := { dst := some 60, op := _, type := _, pos := _, after := _, guard := _ }) (v := .int .u64 til) rfl (by kernel_rfl) (by kernel_rfl) (by kernel_rfl) (fun _ _ _ h => h) (Or.inl ⟨by rfl, by intro w hSw; (try dsimp only at hSw); go_simp⟩) hHeld ?_
  try simp only [Act.put, List.setIfInBounds_toArray, List.set_cons_zero, List.set_cons_succ]
  refine wpAnyH_take (i := 3) (oi := { dst := some 61, op := _, type := _, pos := _, after := _, guard := _ }) (v := .bool true) rfl (by kernel_rfl) (by kernel_rfl) (by kernel_rfl) (fun _ _ _ h => h) (Or.inl ⟨by rfl, by intro w hSw; (try dsimp only at hSw); go_simp⟩) hHeld ?_
  try simp only [Act.put, List.setIfInBounds_toArray, List.set_cons_zero, List.set_cons_succ]
  refine wpAnyH_take (i := 4) (oi := { dst := some 62, op := _, type := _, pos := _, after := _, guard := _ }) (v := .bool true) rfl (by kernel_rfl) (by kernel_rfl) (by kernel_rfl) (fun _ _ _ h => h) (Or.inl ⟨by rfl, by intro w hSw; (try dsimp only at hSw); go_simp⟩) hHeld ?_
  try simp only [Act.put, List.setIfInBounds_toArray, List.set_cons_zero, List.set_cons_succ]
  refine wpAnyH_take (i := 5) (oi := { dst := some 63, op := _, type := _, pos := _, after := _, guard := _ }) (v := .pointer (some ⟨w.heap.size, 0, none⟩)) rfl (by kernel_rfl) (by kernel_rfl) (by kernel_rfl) (fun _ _ _ h => h) (Or.inl ⟨by rfl, by intro w hSw; (try dsimp only at hSw); go_simp⟩) hHeld ?_
  try simp only [Act.put, List.setIfInBounds_toArray, List.set_cons_zero, List.set_cons_succ]
  refine wpAnyH_take (i := 6) (oi := { dst := some 64, op := _, type := _, pos := _, after := _, guard := _ }) (v := .string repo) rfl (by kernel_rfl) (by kernel_rfl) (by kernel_rfl) (fun _ _ _ h => h) (Or.inl ⟨by rfl, by intro w hSw; (try dsimp only at hSw); (have q := hSw.2 0 _ rfl; simp only [Nat.zero_add] at q; go_simp)⟩) hHeld ?_
  try simp only [Act.put, List.setIfInBounds_toArray, List.set_cons_zero, List.set_cons_succ]
  refine wpAnyH_ready (rs := [7]) (by kernel_rfl) (by simp) ?_
  refine AllReadyH.cons (o := { dst := some 65, op := _, type := _, pos := _, after := _, guard := _ }) rfl (fun K hK => ?_) AllReadyH.nil
  go_simp
  go_at_call 40
  refine (HISR.out _ hHeld.1).mono ?_
  rintro e w7 ⟨rfl, hk7⟩
  have H7 := Lib.hid (H5.out.quiet hk7)
  clear hk7 H5
  refine hK.out _ _ (by exact ⟨H7.out.keeps, rangeOwn H7.out (List.mem_cons_self ..)⟩) (fun hHeld1 => ?_)
  clear hK K
  try simp only [Act.put, List.setIfInBounds_toArray, List.set_cons_zero, List.set_cons_succ]
  refine wpAnyH_take (i := 8) (oi := { dst := some 66, op := _, type := _, pos := _, after := _, guard := _ }) (v := .bool true) rfl (by kernel_rfl) (by kernel_rfl) (by kernel_rfl) (fun _ _ _ h => h) (Or.inl ⟨by rfl, by intro w hSw; (try dsimp only at hSw); go_simp⟩) hHeld1 ?_
  try simp only [Act.put, List.setIfInBounds_toArray, List.set_cons_zero, List.set_cons_succ]
  refine wpAnyH_ready (rs := [9]) (by kernel_rfl) (by simp) ?_
  refine AllReadyH.cons (o := { dst := none, op := _, type := _, pos := _, after := _, guard := _ }) rfl (fun K hK => ?_) AllReadyH.nil
  refine step_store_row rfl 43 _ _ rfl w.heap.size #[.string repo, .int .i64 til, .int .i64 0] rfl rfl 43 _ (H7.out.at (List.mem_cons_self ..)).1 (by kernel_rfl) rfl (by kernel_rfl) ?_
  have H8 := Lib.hid (H7.out.setRow #[.string repo, .int .i64 til, .int .i64 0])
  refine hK.out _ _ (by exact ⟨H8.out.keeps, rangeOwn (cl := [.string repo, .int .i64 til, .int .i64 0]) H8.out (List.mem_cons_self ..)⟩) (fun hHeld2 => ?_)
  clear hK K
  try simp only [Act.put, List.setIfInBounds_toArray, List.set_cons_zero, List.set_cons_succ]
  refine wpAnyH_take (i := 10) (oi := { dst := some 3, op := _, type := _, pos := _, after := _, guard := _ }) (v := .slice (some ⟨g, 1, none⟩) k c1) rfl (by kernel_rfl) (by kernel_rfl) (by kernel_rfl) (fun _ _ _ h => h) (Or.inl ⟨by rfl, by intro w hSw; (try dsimp only at hSw); go_simp⟩) hHeld2 ?_
  try simp only [Act.put, List.setIfInBounds_toArray, List.set_cons_zero, List.set_cons_succ]
  refine wpAnyH_take (i := 11) (oi := { dst := some 4, op := _, type := _, pos := _, after := _, guard := _ }) (v := .bool true) rfl (by kernel_rfl) (by kernel_rfl) (by kernel_rfl) (fun _ _ _ h => h) (Or.inl ⟨by rfl, by intro w hSw; (try dsimp only at hSw); go_simp⟩) hHeld2 ?_
  try simp only [Act.put, List.setIfInBounds_toArray, List.set_cons_zero, List.set_cons_succ]
  refine wpAnyH_done (by kernel_rfl) ?_ _
  generalize w7.setRow w.heap.size #[.string repo, .int .i64 til, .int .i64 0] = w8 at *
  clear hHeld hHeld1 hHeld2 H7 HISR HI3 j8
  go_wp2_with fail
  refine bodyPost_ret (res_taken Tryz.results65 _ _ w.heap.size _ rfl rfl (H8.out.at (List.mem_cons_self ..)).1) rfl ?_
  exact ⟨rfl, H8.out.keeps⟩
end Go.Proofs.YtlcnhpjggjgnpaaGreatDoor
