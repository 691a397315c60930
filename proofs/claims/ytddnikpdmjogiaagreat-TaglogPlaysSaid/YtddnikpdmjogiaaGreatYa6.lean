/- A part of the proof. -/
import Derived.Test.YtddnikpdmjogiaaGreatYa5
namespace Go.Proofs.YtddnikpdmjogiaaGreat
set_option linter.unusedVariables false
open Go.RowKit Go.MapKept
def mayOf (m : DM) (c : Ch) : Int :=
 if c.kind = 0 then (if isName c.a then (if findI m.now c.a < 0 then (if (4096 : Int) ≤ (m.now.length : Int) then 4 else 0) else 7) else 1)
 else if findI m.now c.a < 0 then 6
 else if c.kind = 1 then (if (1048576 : Int) < (c.p.length : Int) then 8 else if m.room - (used m.now : Int) < (c.p.length : Int) then 4 else 0)
 else if c.kind = 3 then (if isName c.b then 0 else 1) else 0
set_option maxRecDepth 100000 in
theorem rmay_create {F : Nat → Prop} {w : World} {r : Nat} {vn vs vl : Value} {m : DM} (h : RefAt F w r vn vs vl m) (x y : ByteArray) (pv : Value) (hl : m.now.length < 549755813888) :
  Calls Tryz.prog 117 #[.pointer (some ⟨r, 0, none⟩), .agg #[.int .i64 0, .string x, .string y, pv]] w (QuietP w (.int .i64 (if isName x then (if findI m.now x < 0 then (if (4096 : Int) ≤ (m.now.length : Int) then 4 else 0) else 7) else 1))) := by
 obtain ⟨w1, hw1⟩ : ∃ w1, w1 = w.alloc (.cells #[.int .i64 0, .string x, .string y, pv] 138) := ⟨_, rfl⟩
 have hk1 : Keeps (fun _ => False) w w1 := by rw [hw1]; exact (Keeps.refl _ w).alloc _
 have hbx : w1.heap[w.heap.size]? = some (.cells #[.int .i64 0, .string x, .string y, pv] 138 (0, 0)) := by rw [hw1]; exact heap_alloc_new _ _
 have h1 := (h.quiet hk1 (G := F) (fun _ h _ => h) (fun b hb => by have := h.lt b hb; have := hk1.size; omega)).keep (w' := w1.drew) (fun _ _ => rfl)
 obtain ⟨na, nc, rfl, hnc, hnm⟩ := h1.now.form
 have hrlt : r < w1.heap.size := h1.lt r h1.fr
 have c1 : w1.cell? ⟨r, 1, none⟩ = some (.slice na m.now.length nc) := h1.cells.c1
 have c0 : w1.cell? ⟨r, 0, none⟩ = some (.int .i64 m.room) := h1.cells.c0
 have b0 : w1.cell? ⟨w.heap.size, 0, none⟩ = some (.int .i64 0) := cell_at hbx rfl
 have b1 : w1.cell? ⟨w.heap.size, 1, none⟩ = some (.string x) := cell_at hbx rfl
 have b2 : w1.cell? ⟨w.heap.size, 2, none⟩ = some (.string y) := cell_at hbx rfl
 have b3 : w1.cell? ⟨w.heap.size, 3, none⟩ = some (pv) := cell_at hbx rfl
 have d0 : w1.drew.cell? ⟨w.heap.size, 0, none⟩ = some (.int .i64 0) := b0
 have d1 : w1.drew.cell? ⟨w.heap.size, 1, none⟩ = some (.string x) := b1
 have d2 : w1.drew.cell? ⟨w.heap.size, 2, none⟩ = some (.string y) := b2
 have d3 : w1.drew.cell? ⟨w.heap.size, 3, none⟩ = some (pv) := b3
 have dc1 : w1.drew.cell? ⟨r, 1, none⟩ = some (.slice na m.now.length nc) := c1
 have dc0 : w1.drew.cell? ⟨r, 0, none⟩ = some (.int .i64 m.room) := c0
 have hfd := rfind_runs h1.now x (by omega)
 have hinx := risname_runs x w1.drew
 have hiny := risname_runs y w1.drew
 have i1 : (m.now.length : Int) ≤ 549755813888 := by omega
 generalize m.now.length = len at *
 have hfr := findI_lt m.now x
 generalize findI m.now x = fi at *
 have HK := hyd hk1
 generalize isName x = nx at *
 generalize isName y = ny at *
 clear h hk1 hbx h1
 cases nx
 ·simp only [Bool.false_eq_true, if_false]
  go_enter Tryz.func117, Tryz.ntmps117
  go_wp2_with fail
  rw [← hw1]
  clear hw1
  go_region_held3 (fun w' => w'.cell? ⟨w.heap.size, 1, none⟩ = some (.string x) ∧ w'.cell? ⟨r, 1, none⟩ = some (.slice na len nc)) (first | exact ⟨b1, c1⟩ | go_keep) (first | (go_at_call 67; refine hfd.out.mono ?_; rintro e w' ⟨rfl, rfl⟩))
  go_wp2_with (go_at_call 86; refine hinx.out.mono ?_; rintro e w' ⟨rfl, rfl⟩)
  go_ret
  exact ⟨rfl, HK.out.drew⟩
 ·simp only [if_true]
  by_cases hfi : fi < 0
  ·rw [if_pos hfi]
   by_cases h4 : (4096 : Int) ≤ (len : Int)
   ·rw [if_pos h4]
    go_enter Tryz.func117, Tryz.ntmps117
    go_wp2_with fail
    rw [← hw1]
    clear hw1
    go_region_held3 (fun w' => w'.cell? ⟨w.heap.size, 1, none⟩ = some (.string x) ∧ w'.cell? ⟨r, 1, none⟩ = some (.slice na len nc)) (first | exact ⟨b1, c1⟩ | go_keep) (first | (go_at_call 67; refine hfd.out.mono ?_; rintro e w' ⟨rfl, rfl⟩))
    go_wp2_with (go_at_call 86; refine hinx.out.mono ?_; rintro e w' ⟨rfl, rfl⟩)
    go_ret
    exact ⟨rfl, HK.out.drew⟩
   ·rw [if_neg h4]
    go_enter Tryz.func117, Tryz.ntmps117
    go_wp2_with fail
    rw [← hw1]
    clear hw1
    go_region_held3 (fun w' => w'.cell? ⟨w.heap.size, 1, none⟩ = some (.string x) ∧ w'.cell? ⟨r, 1, none⟩ = some (.slice na len nc)) (first | exact ⟨b1, c1⟩ | go_keep) (first | (go_at_call 67; refine hfd.out.mono ?_; rintro e w' ⟨rfl, rfl⟩))
    go_wp2_with (go_at_call 86; refine hinx.out.mono ?_; rintro e w' ⟨rfl, rfl⟩)
    go_ret
    exact ⟨rfl, HK.out.drew⟩
  ·rw [if_neg hfi]
   go_enter Tryz.func117, Tryz.ntmps117
   go_wp2_with fail
   rw [← hw1]
   clear hw1
   go_region_held3 (fun w' => w'.cell? ⟨w.heap.size, 1, none⟩ = some (.string x) ∧ w'.cell? ⟨r, 1, none⟩ = some (.slice na len nc)) (first | exact ⟨b1, c1⟩ | go_keep) (first | (go_at_call 67; refine hfd.out.mono ?_; rintro e w' ⟨rfl, rfl⟩))
   go_wp2_with (go_at_call 86; refine hinx.out.mono ?_; rintro e w' ⟨rfl, rfl⟩)
   go_ret
   exact ⟨rfl, HK.out.drew⟩
set_option maxRecDepth 100000 in
theorem rmay_remove {F : Nat → Prop} {w : World} {r : Nat} {vn vs vl : Value} {m : DM} (h : RefAt F w r vn vs vl m) (x y : ByteArray) (pv : Value) (hl : m.now.length < 549755813888) :
  Calls Tryz.prog 117 #[.pointer (some ⟨r, 0, none⟩), .agg #[.int .i64 2, .string x, .string y, pv]] w (QuietP w (.int .i64 (if findI m.now x < 0 then 6 else 0))) := by
 obtain ⟨w1, hw1⟩ : ∃ w1, w1 = w.alloc (.cells #[.int .i64 2, .string x, .string y, pv] 138) := ⟨_, rfl⟩
 have hk1 : Keeps (fun _ => False) w w1 := by rw [hw1]; exact (Keeps.refl _ w).alloc _
 have hbx : w1.heap[w.heap.size]? = some (.cells #[.int .i64 2, .string x, .string y, pv] 138 (0, 0)) := by rw [hw1]; exact heap_alloc_new _ _
 have h1 := (h.quiet hk1 (G := F) (fun _ h _ => h) (fun b hb => by have := h.lt b hb; have := hk1.size; omega)).keep (w' := w1.drew) (fun _ _ => rfl)
 obtain ⟨na, nc, rfl, hnc, hnm⟩ := h1.now.form
 have hrlt : r < w1.heap.size := h1.lt r h1.fr
 have c1 : w1.cell? ⟨r, 1, none⟩ = some (.slice na m.now.length nc) := h1.cells.c1
 have c0 : w1.cell? ⟨r, 0, none⟩ = some (.int .i64 m.room) := h1.cells.c0
 have b0 : w1.cell? ⟨w.heap.size, 0, none⟩ = some (.int .i64 2) := cell_at hbx rfl
 have b1 : w1.cell? ⟨w.heap.size, 1, none⟩ = some (.string x) := cell_at hbx rfl
 have b2 : w1.cell? ⟨w.heap.size, 2, none⟩ = some (.string y) := cell_at hbx rfl
 have b3 : w1.cell? ⟨w.heap.size, 3, none⟩ = some (pv) := cell_at hbx rfl
 have d0 : w1.drew.cell? ⟨w.heap.size, 0, none⟩ = some (.int .i64 2) := b0
 have d1 : w1.drew.cell? ⟨w.heap.size, 1, none⟩ = some (.string x) := b1
 have d2 : w1.drew.cell? ⟨w.heap.size, 2, none⟩ = some (.string y) := b2
 have d3 : w1.drew.cell? ⟨w.heap.size, 3, none⟩ = some (pv) := b3
 have dc1 : w1.drew.cell? ⟨r, 1, none⟩ = some (.slice na m.now.length nc) := c1
 have dc0 : w1.drew.cell? ⟨r, 0, none⟩ = some (.int .i64 m.room) := c0
 have hfd := rfind_runs h1.now x (by omega)
 have hinx := risname_runs x w1.drew
 have hiny := risname_runs y w1.drew
 have i1 : (m.now.length : Int) ≤ 549755813888 := by omega
 generalize m.now.length = len at *
 have hfr := findI_lt m.now x
 generalize findI m.now x = fi at *
 have HK := hyd hk1
 generalize isName x = nx at *
 generalize isName y = ny at *
 clear h hk1 hbx h1
 by_cases hfi : fi < 0
 ·rw [if_pos hfi]
  go_enter Tryz.func117, Tryz.ntmps117
  go_wp2_with fail
  rw [← hw1]
  clear hw1
  go_region_held3 (fun w' => w'.cell? ⟨w.heap.size, 1, none⟩ = some (.string x) ∧ w'.cell? ⟨r, 1, none⟩ = some (.slice na len nc)) (first | exact ⟨b1, c1⟩ | go_keep) (first | (go_at_call 67; refine hfd.out.mono ?_; rintro e w' ⟨rfl, rfl⟩))
  go_wp2_with fail
  go_ret
  exact ⟨rfl, HK.out.drew⟩
 ·rw [if_neg hfi]
  go_enter Tryz.func117, Tryz.ntmps117
  go_wp2_with fail
  rw [← hw1]
  clear hw1
  go_region_held3 (fun w' => w'.cell? ⟨w.heap.size, 1, none⟩ = some (.string x) ∧ w'.cell? ⟨r, 1, none⟩ = some (.slice na len nc)) (first | exact ⟨b1, c1⟩ | go_keep) (first | (go_at_call 67; refine hfd.out.mono ?_; rintro e w' ⟨rfl, rfl⟩))
  go_wp2_with fail
  go_ret
  exact ⟨rfl, HK.out.drew⟩
set_option maxRecDepth 100000 in
theorem rmay_rename {F : Nat → Prop} {w : World} {r : Nat} {vn vs vl : Value} {m : DM} (h : RefAt F w r vn vs vl m) (x y : ByteArray) (pv : Value) (hl : m.now.length < 549755813888) :
  Calls Tryz.prog 117 #[.pointer (some ⟨r, 0, none⟩), .agg #[.int .i64 3, .string x, .string y, pv]] w (QuietP w (.int .i64 (if findI m.now x < 0 then 6 else if isName y then 0 else 1))) := by
 obtain ⟨w1, hw1⟩ : ∃ w1, w1 = w.alloc (.cells #[.int .i64 3, .string x, .string y, pv] 138) := ⟨_, rfl⟩
 have hk1 : Keeps (fun _ => False) w w1 := by rw [hw1]; exact (Keeps.refl _ w).alloc _
 have hbx : w1.heap[w.heap.size]? = some (.cells #[.int .i64 3, .string x, .string y, pv] 138 (0, 0)) := by rw [hw1]; exact heap_alloc_new _ _
 have h1 := (h.quiet hk1 (G := F) (fun _ h _ => h) (fun b hb => by have := h.lt b hb; have := hk1.size; omega)).keep (w' := w1.drew) (fun _ _ => rfl)
 obtain ⟨na, nc, rfl, hnc, hnm⟩ := h1.now.form
 have hrlt : r < w1.heap.size := h1.lt r h1.fr
 have c1 : w1.cell? ⟨r, 1, none⟩ = some (.slice na m.now.length nc) := h1.cells.c1
 have c0 : w1.cell? ⟨r, 0, none⟩ = some (.int .i64 m.room) := h1.cells.c0
 have b0 : w1.cell? ⟨w.heap.size, 0, none⟩ = some (.int .i64 3) := cell_at hbx rfl
 have b1 : w1.cell? ⟨w.heap.size, 1, none⟩ = some (.string x) := cell_at hbx rfl
 have b2 : w1.cell? ⟨w.heap.size, 2, none⟩ = some (.string y) := cell_at hbx rfl
 have b3 : w1.cell? ⟨w.heap.size, 3, none⟩ = some (pv) := cell_at hbx rfl
 have d0 : w1.drew.cell? ⟨w.heap.size, 0, none⟩ = some (.int .i64 3) := b0
 have d1 : w1.drew.cell? ⟨w.heap.size, 1, none⟩ = some (.string x) := b1
 have d2 : w1.drew.cell? ⟨w.heap.size, 2, none⟩ = some (.string y) := b2
 have d3 : w1.drew.cell? ⟨w.heap.size, 3, none⟩ = some (pv) := b3
 have dc1 : w1.drew.cell? ⟨r, 1, none⟩ = some (.slice na m.now.length nc) := c1
 have dc0 : w1.drew.cell? ⟨r, 0, none⟩ = some (.int .i64 m.room) := c0
 have hfd := rfind_runs h1.now x (by omega)
 have hinx := risname_runs x w1.drew
 have hiny := risname_runs y w1.drew
 have i1 : (m.now.length : Int) ≤ 549755813888 := by omega
 generalize m.now.length = len at *
 have hfr := findI_lt m.now x
 generalize findI m.now x = fi at *
 have HK := hyd hk1
 generalize isName x = nx at *
 generalize isName y = ny at *
 clear h hk1 hbx h1
 by_cases hfi : fi < 0
 ·rw [if_pos hfi]
  go_enter Tryz.func117, Tryz.ntmps117
  go_wp2_with fail
  rw [← hw1]
  clear hw1
  go_region_held3 (fun w' => w'.cell? ⟨w.heap.size, 1, none⟩ = some (.string x) ∧ w'.cell? ⟨r, 1, none⟩ = some (.slice na len nc)) (first | exact ⟨b1, c1⟩ | go_keep) (first | (go_at_call 67; refine hfd.out.mono ?_; rintro e w' ⟨rfl, rfl⟩))
  go_wp2_with fail
  go_ret
  exact ⟨rfl, HK.out.drew⟩
 ·rw [if_neg hfi]
  cases ny
  ·simp only [Bool.false_eq_true, if_false]
   go_enter Tryz.func117, Tryz.ntmps117
   go_wp2_with fail
   rw [← hw1]
   clear hw1
   go_region_held3 (fun w' => w'.cell? ⟨w.heap.size, 1, none⟩ = some (.string x) ∧ w'.cell? ⟨r, 1, none⟩ = some (.slice na len nc)) (first | exact ⟨b1, c1⟩ | go_keep) (first | (go_at_call 67; refine hfd.out.mono ?_; rintro e w' ⟨rfl, rfl⟩))
   go_wp2_with (go_at_call 86; refine hiny.out.mono ?_; rintro e w' ⟨rfl, rfl⟩)
   go_ret
   exact ⟨rfl, HK.out.drew⟩
  ·simp only [if_true]
   go_enter Tryz.func117, Tryz.ntmps117
   go_wp2_with fail
   rw [← hw1]
   clear hw1
   go_region_held3 (fun w' => w'.cell? ⟨w.heap.size, 1, none⟩ = some (.string x) ∧ w'.cell? ⟨r, 1, none⟩ = some (.slice na len nc)) (first | exact ⟨b1, c1⟩ | go_keep) (first | (go_at_call 67; refine hfd.out.mono ?_; rintro e w' ⟨rfl, rfl⟩))
   go_wp2_with (go_at_call 86; refine hiny.out.mono ?_; rintro e w' ⟨rfl, rfl⟩)
   go_ret
   exact ⟨rfl, HK.out.drew⟩
set_option maxRecDepth 100000 in
theorem rmay_append {F : Nat → Prop} {w : World} {r : Nat} {vn vs vl : Value} {m : DM} (h : RefAt F w r vn vs vl m) (x y : ByteArray) (pa : Option Addr) (p : List UInt8) (pc : Nat) (hl : m.now.length < 549755813888) (hu : used m.now ≤ 4611686018427387904) (hr0 : 0 ≤ m.room) (hr1 : m.room ≤ 67108864) :
  Calls Tryz.prog 117 #[.pointer (some ⟨r, 0, none⟩), .agg #[.int .i64 1, .string x, .string y, .slice pa p.length pc]] w (QuietP w (.int .i64 (if findI m.now x < 0 then 6 else if (1048576 : Int) < (p.length : Int) then 8 else if m.room - (used m.now : Int) < (p.length : Int) then 4 else 0))) := by
 obtain ⟨w1, hw1⟩ : ∃ w1, w1 = w.alloc (.cells #[.int .i64 1, .string x, .string y, .slice pa p.length pc] 138) := ⟨_, rfl⟩
 have hk1 : Keeps (fun _ => False) w w1 := by rw [hw1]; exact (Keeps.refl _ w).alloc _
 have hbx : w1.heap[w.heap.size]? = some (.cells #[.int .i64 1, .string x, .string y, .slice pa p.length pc] 138 (0, 0)) := by rw [hw1]; exact heap_alloc_new _ _
 have h1 := (h.quiet hk1 (G := F) (fun _ h _ => h) (fun b hb => by have := h.lt b hb; have := hk1.size; omega)).keep (w' := w1.drew) (fun _ _ => rfl)
 obtain ⟨na, nc, rfl, hnc, hnm⟩ := h1.now.form
 have hrlt : r < w1.heap.size := h1.lt r h1.fr
 have c1 : w1.cell? ⟨r, 1, none⟩ = some (.slice na m.now.length nc) := h1.cells.c1
 have c0 : w1.cell? ⟨r, 0, none⟩ = some (.int .i64 m.room) := h1.cells.c0
 have b0 : w1.cell? ⟨w.heap.size, 0, none⟩ = some (.int .i64 1) := cell_at hbx rfl
 have b1 : w1.cell? ⟨w.heap.size, 1, none⟩ = some (.string x) := cell_at hbx rfl
 have b2 : w1.cell? ⟨w.heap.size, 2, none⟩ = some (.string y) := cell_at hbx rfl
 have b3 : w1.cell? ⟨w.heap.size, 3, none⟩ = some (.slice pa p.length pc) := cell_at hbx rfl
 have d0 : w1.drew.cell? ⟨w.heap.size, 0, none⟩ = some (.int .i64 1) := b0
 have d1 : w1.drew.cell? ⟨w.heap.size, 1, none⟩ = some (.string x) := b1
 have d2 : w1.drew.cell? ⟨w.heap.size, 2, none⟩ = some (.string y) := b2
 have d3 : w1.drew.cell? ⟨w.heap.size, 3, none⟩ = some (.slice pa p.length pc) := b3
 have dc1 : w1.drew.cell? ⟨r, 1, none⟩ = some (.slice na m.now.length nc) := c1
 have dc0 : w1.drew.cell? ⟨r, 0, none⟩ = some (.int .i64 m.room) := c0
 have hfd := rfind_runs h1.now x (by omega)
 have hinx := risname_runs x w1.drew
 have hiny := risname_runs y w1.drew
 have i1 : (m.now.length : Int) ≤ 549755813888 := by omega
 have hus := rused_runs (h1.now.same (w' := w1.drew.drew) (fun _ _ => rfl)) (by omega) hu
 have e0 : w1.drew.drew.cell? ⟨r, 0, none⟩ = some (.int .i64 m.room) := c0
 have e1 : w1.drew.drew.cell? ⟨r, 1, none⟩ = some (.slice na m.now.length nc) := c1
 have e3 : w1.drew.drew.cell? ⟨w.heap.size, 3, none⟩ = some (.slice pa p.length pc) := b3
 have u1 : (used m.now : Int) ≤ 4611686018427387904 := by omega
 have u0 : (0 : Int) ≤ (used m.now : Int) := by omega
 generalize used m.now = us at *
 generalize m.room = rm at *
 generalize m.now.length = len at *
 have hfr := findI_lt m.now x
 generalize findI m.now x = fi at *
 have HK := hyd hk1
 generalize isName x = nx at *
 generalize isName y = ny at *
 clear h hk1 hbx h1 hu
 by_cases hfi : fi < 0
 ·rw [if_pos hfi]
  go_enter Tryz.func117, Tryz.ntmps117
  go_wp2_with fail
  rw [← hw1]
  clear hw1
  go_region_held3 (fun w' => w'.cell? ⟨w.heap.size, 1, none⟩ = some (.string x) ∧ w'.cell? ⟨r, 1, none⟩ = some (.slice na len nc)) (first | exact ⟨b1, c1⟩ | go_keep) (first | (go_at_call 67; refine hfd.out.mono ?_; rintro e w' ⟨rfl, rfl⟩))
  go_wp2_with fail
  go_ret
  exact ⟨rfl, HK.out.drew⟩
 ·rw [if_neg hfi]
  by_cases hlong : (1048576 : Int) < (p.length : Int)
  ·rw [if_pos hlong]
   go_enter Tryz.func117, Tryz.ntmps117
   go_wp2_with fail
   rw [← hw1]
   clear hw1
   go_region_held3 (fun w' => w'.cell? ⟨w.heap.size, 1, none⟩ = some (.string x) ∧ w'.cell? ⟨r, 1, none⟩ = some (.slice na len nc)) (first | exact ⟨b1, c1⟩ | go_keep) (first | (go_at_call 67; refine hfd.out.mono ?_; rintro e w' ⟨rfl, rfl⟩))
   go_wp2_with fail
   go_ret
   exact ⟨rfl, HK.out.drew⟩
  ·rw [if_neg hlong]
   have hwrap : IntKind.i64.wrap (rm - (us : Int)) = rm - (us : Int) := IntWalk.i64_in _ (by omega)
   by_cases hfull : rm - (us : Int) < (p.length : Int)
   ·rw [if_pos hfull]
    go_enter Tryz.func117, Tryz.ntmps117
    go_wp2_with fail
    rw [← hw1]
    clear hw1
    go_region_held3 (fun w' => w'.cell? ⟨w.heap.size, 1, none⟩ = some (.string x) ∧ w'.cell? ⟨r, 1, none⟩ = some (.slice na len nc)) (first | exact ⟨b1, c1⟩ | go_keep) (first | (go_at_call 67; refine hfd.out.mono ?_; rintro e w' ⟨rfl, rfl⟩))
    go_wp2_with fail
    go_region_held3 (fun w' => w'.cell? ⟨w.heap.size, 3, none⟩ = some (.slice pa p.length pc) ∧ w'.cell? ⟨r, 0, none⟩ = some (.int .i64 rm) ∧ w'.cell? ⟨r, 1, none⟩ = some (.slice na len nc)) (first | exact ⟨e3, e0, e1⟩ | go_keep) (first | (go_at_call 71; refine hus.out.mono ?_; rintro e w' ⟨rfl, rfl⟩))
    go_wp2_with fail
    go_ret
    exact ⟨rfl, HK.out.drew.drew⟩
   ·rw [if_neg hfull]
    go_enter Tryz.func117, Tryz.ntmps117
    go_wp2_with fail
    rw [← hw1]
    clear hw1
    go_region_held3 (fun w' => w'.cell? ⟨w.heap.size, 1, none⟩ = some (.string x) ∧ w'.cell? ⟨r, 1, none⟩ = some (.slice na len nc)) (first | exact ⟨b1, c1⟩ | go_keep) (first | (go_at_call 67; refine hfd.out.mono ?_; rintro e w' ⟨rfl, rfl⟩))
    go_wp2_with fail
    go_region_held3 (fun w' => w'.cell? ⟨w.heap.size, 3, none⟩ = some (.slice pa p.length pc) ∧ w'.cell? ⟨r, 0, none⟩ = some (.int .i64 rm) ∧ w'.cell? ⟨r, 1, none⟩ = some (.slice na len nc)) (first | exact ⟨e3, e0, e1⟩ | go_keep) (first | (go_at_call 71; refine hus.out.mono ?_; rintro e w' ⟨rfl, rfl⟩))
    go_wp2_with fail
    go_ret
    exact ⟨rfl, HK.out.drew.drew⟩
theorem rmay_calls {F : Nat → Prop} {w : World} {r : Nat} {vn vs vl : Value} {m : DM} (h : RefAt F w r vn vs vl m) (c : Ch) (hk : 0 ≤ c.kind ∧ c.kind ≤ 3) {pv : Value} (hp : ∃ a k, pv = .slice a c.p.length k) (hl : m.now.length < 549755813888) (hu : used m.now ≤ 4611686018427387904) (hr0 : 0 ≤ m.room) (hr1 : m.room ≤ 67108864) :
  Calls Tryz.prog 117 #[.pointer (some ⟨r, 0, none⟩), .agg #[.int .i64 c.kind, .string c.a, .string c.b, pv]] w (QuietP w (.int .i64 (mayOf m c))) := by
 obtain ⟨pa, pc, rfl⟩ := hp
 obtain ⟨k, x, y, p⟩ := c
 simp only at *
 have : k = 0 ∨ k = 1 ∨ k = 2 ∨ k = 3 := by omega
 unfold mayOf
 rcases this with rfl | rfl | rfl | rfl
 ·exact rmay_create h x y _ hl
 ·exact rmay_append h x y pa p pc hl hu hr0 hr1
 ·exact rmay_remove h x y _ hl
 ·exact rmay_rename h x y _ hl
theorem mayOf_may {m : DM} {c : Ch} (hk : 0 ≤ c.kind ∧ c.kind ≤ 3) (h : mayOf m c = 0) : May m.now c := by
 have hn := findI_neg m.now c.a
 unfold mayOf at h
 refine ⟨hk, fun h0 => ?_, fun h0 => ?_⟩
 ·rw [if_pos h0] at h
  split at h
  ·split at h
   ·rename_i h2; exact hn ▸ h2
   ·cases h
  ·cases h
 ·rw [if_neg h0] at h
  split at h
  ·cases h
  ·rename_i h2
   rw [hn] at h2
   cases hg : fget m.now c.a with
   | none => exact absurd hg h2
   | some _ => rfl
def stepOf (m : DM) (c : Ch) : Int × DM := if m.down then (5, m) else if mayOf m c = 0 then doesOf m c else (mayOf m c, m)
theorem findI_some (fs : FS) (n : ByteArray) : (fget fs n).isSome = !decide (findI fs n < 0) := by
 have := findI_neg fs n
 cases hg : fget fs n with
 | none => rw [hg] at this; simp [this]
 | some x => rw [hg] at this; simp [this]
theorem step_create (m : DM) (n : ByteArray) : stepOf m ⟨0, n, ⟨#[]⟩, []⟩ = createOf m n := by
 unfold stepOf createOf mayOf
 rw [findI_some]
 cases m.down with
 | true => rfl
 | false =>
  cases isName n with
  | false => rfl
  | true =>
   by_cases h1 : findI m.now n < 0
   ·by_cases h2 : (4096 : Int) ≤ (m.now.length : Int)
    ·simp [h1, h2]
    ·simp [h1, h2]
   ·simp [h1]
theorem step_append (m : DM) (n : ByteArray) (p : List UInt8) : stepOf m ⟨1, n, ⟨#[]⟩, p⟩ = appendOf m n p := by
 unfold stepOf appendOf mayOf thereOf
 rw [findI_some]
 cases m.down with
 | true => simp
 | false =>
  by_cases h1 : findI m.now n < 0
  ·simp [h1]
  ·by_cases h2 : (1048576 : Int) < (p.length : Int)
   ·simp [h1, h2]
   ·by_cases h3 : m.room - (used m.now : Int) < (p.length : Int)
    ·simp [h1, h2, h3]
    ·simp [h1, h2, h3]
theorem step_remove (m : DM) (n : ByteArray) : stepOf m ⟨2, n, ⟨#[]⟩, []⟩ = removeOf m n := by
 unfold stepOf removeOf mayOf thereOf
 rw [findI_some]
 cases m.down with
 | true => simp
 | false =>
  by_cases h1 : findI m.now n < 0
  ·simp [h1]
  ·simp [h1]
theorem step_rename (m : DM) (n k : ByteArray) : stepOf m ⟨3, n, k, []⟩ = renameOf m n k := by
 unfold stepOf renameOf mayOf thereOf
 rw [findI_some]
 cases m.down with
 | true => simp
 | false =>
  by_cases h1 : findI m.now n < 0
  ·simp [h1]
  ·cases isName k <;> simp [h1]
end Go.Proofs.YtddnikpdmjogiaaGreat
