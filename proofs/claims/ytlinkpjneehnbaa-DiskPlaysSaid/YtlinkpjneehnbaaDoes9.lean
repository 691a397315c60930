/- The law's Does: the walks of the kinds that are one call each. -/
import Derived.Test.YtlinkpjneehnbaaIs
namespace Go.Proofs.Ytlinkpjneehnbaa
set_option linter.unusedVariables false
open Go.RowKit Go.MapKept

/-- What a step of a script does. -/
def does9 (m : DM) (o : Op9) : DM :=
  if o.kind = 0 then (createOf m o.a).2 else if o.kind = 1 then (appendOf m o.a o.p).2 else if o.kind = 2 then (removeOf m o.a).2 else if o.kind = 3 then (renameOf m o.a o.b).2
  else if o.kind = 4 then (syncOf m).2 else if o.kind = 5 then (fuseOf m o.n).2 else if o.kind = 6 then crashOf m o.n o.m else m
def DoesPost (w0 : World) (d r : Nat) (rs : List (Res w0.heap.size)) (m : DM) (e : Ending) (w' : World) : Prop := e = .returned (.bool true) ∧ Own w0 w' (rDisk w0.heap.size d m :: rRef w0.heap.size r m :: rs)
def opAgg (k : Int) (a b : ByteArray) (pv : Value) (n m : Int) : Array Value := #[.int .i64 k, .string a, .string b, pv, .int .i64 n, .int .i64 m]
theorem Own.boxed {w0 w : World} {x y : Res w0.heap.size} {rs : List (Res w0.heap.size)} (h : Own w0 w (x :: y :: rs)) (o : Obj) : Own w0 (w.alloc o) (x :: y :: rObj w0.heap.size w.heap.size o :: rs) :=
  (h.alloc o).perm ((List.Perm.swap ..).trans (List.Perm.cons x (List.Perm.swap ..)))
theorem Own.unbox {w0 w : World} {x y z : Res w0.heap.size} {rs : List (Res w0.heap.size)} (h : Own w0 w (x :: y :: z :: rs)) : Own w0 w (x :: y :: rs) :=
  (h.perm ((List.Perm.cons x (List.Perm.swap ..)).trans (List.Perm.swap ..))).drop
theorem mem2 {α : Type} {x y z : α} {l : List α} : z ∈ x :: y :: z :: l := List.mem_cons_of_mem _ (List.mem_cons_of_mem _ (List.mem_cons_self ..))
theorem op_cells {w : World} {b : Nat} {k : Int} {x y : ByteArray} {pv : Value} {n m : Int} (h : w.heap[b]? = some (.cells #[.int .i64 k, .string x, .string y, pv, .int .i64 n, .int .i64 m] 91 (0, 0))) :
    w.cell? ⟨b, 0, none⟩ = some (.int .i64 k) ∧ w.cell? ⟨b, 1, none⟩ = some (.string x) ∧ w.cell? ⟨b, 2, none⟩ = some (.string y) ∧ w.cell? ⟨b, 3, none⟩ = some pv ∧ w.cell? ⟨b, 4, none⟩ = some (.int .i64 n) ∧ w.cell? ⟨b, 5, none⟩ = some (.int .i64 m) :=
  ⟨cell_at h rfl, cell_at h rfl, cell_at h rfl, cell_at h rfl, cell_at h rfl, cell_at h rfl⟩

theorem Own.rename9 {w wr : World} {d : Nat} {m : DM} {rs : List (Res w.heap.size)} (h : Own w wr (rDisk w.heap.size d m :: rs)) (n k : ByteArray) (hf : m.fuse ≤ 9223372036854775807) (hl : m.loose.length < 1099511627776) :
    ∃ w', Runs 60 #[.pointer (some ⟨d, 0, none⟩), .string n, .string k] wr (.int .i64 (renameOf m n k).1) w' ∧ Own w w' (rDisk w.heap.size d (renameOf m n k).2 :: rs) := by
  obtain ⟨F, h1, back⟩ := h.disk
  obtain ⟨w', hr, h2, kk⟩ := rename_runs h1 n k hf hl
  exact ⟨w', hr, (back _ (.returned (.int .i64 (renameOf m n k).1)) w' ⟨rfl, h2, kk⟩).2⟩
theorem Own.fuse9 {w wr : World} {d : Nat} {m : DM} {rs : List (Res w.heap.size)} (h : Own w wr (rDisk w.heap.size d m :: rs)) (n : Int) :
    ∃ w', Runs 44 #[.pointer (some ⟨d, 0, none⟩), .int .i64 n] wr (.int .i64 (fuseOf m n).1) w' ∧ Own w w' (rDisk w.heap.size d (fuseOf m n).2 :: rs) := by
  obtain ⟨F, h1, back⟩ := h.disk
  obtain ⟨w', hr, h2, k⟩ := fuse_runs h1 n
  exact ⟨w', hr, (back _ (.returned (.int .i64 (fuseOf m n).1)) w' ⟨rfl, h2, k⟩).2⟩

section
variable {w0 w : World} {d r : Nat} {m : DM} {rs : List (Res w0.heap.size)}
set_option maxRecDepth 100000 in
set_option maxHeartbeats 1000000 in
theorem does_k0 (h : Own w0 w (rDisk w0.heap.size d m :: rRef w0.heap.size r m :: rs)) {n t : Nat} (ht : Tidy m n t) (hn : n < 1099511627776) (htt : t < 549755813888) (x y : ByteArray) (pv : Value) (i j : Int) :
    Calls Try.prog 57 #[.pointer (some ⟨d, 0, none⟩), .pointer (some ⟨r, 0, none⟩), .agg #[.int .i64 0, .string x, .string y, pv, .int .i64 i, .int .i64 j]] w (DoesPost w0 d r rs (createOf m x).2) := by
  have ho := h.boxed (.cells #[.int .i64 0, .string x, .string y, pv, .int .i64 i, .int .i64 j] 91)
  obtain ⟨wb, hwb⟩ : ∃ wb, wb = w.alloc (.cells #[.int .i64 0, .string x, .string y, pv, .int .i64 i, .int .i64 j] 91) := ⟨_, rfl⟩
  rw [← hwb] at ho
  obtain ⟨b0, b1, b2, b3, b4, b5⟩ := op_cells (ho.at (b := w.heap.size) mem2).1
  obtain ⟨w1, hcr, ho1⟩ := ho.drew.create x ht.good.fuse (ht.good.loose hn)
  obtain ⟨-, c1, c2, -, -, -⟩ := op_cells (ho1.at (b := w.heap.size) mem2).1
  have hst := (ho1.swap).rstep ht hn htt ⟨0, x, ⟨#[]⟩, []⟩ ⟨by simp, by simp⟩ (fun _ => rfl) (pv := .slice none 0 0) (fun _ w' _ _ => reads_nil w')
  rw [step_create] at hst
  simp only at hst
  generalize createOf m x = res at *
  obtain ⟨z, m2⟩ := res
  simp only at *
  have HST := Lib.hid (hst.mono (fun e w2 (hp : ROwn w0 r _ (z, m2) e w2) => (⟨hp.1, hp.2.swap, (op_cells (hp.2.swap.at (b := w.heap.size) mem2).1).2.1, (op_cells (hp.2.swap.at (b := w.heap.size) mem2).1).2.2.1⟩ : e = .returned (.int .i64 z) ∧ Own w0 w2 (rDisk w0.heap.size d m2 :: rRef w0.heap.size r m2 :: rObj w0.heap.size w.heap.size (.cells #[.int .i64 0, .string x, .string y, pv, .int .i64 i, .int .i64 j] 91) :: rs) ∧ w2.cell? ⟨w.heap.size, 1, none⟩ = some (.string x) ∧ w2.cell? ⟨w.heap.size, 2, none⟩ = some (.string y))))
  clear h ht hn htt hst b3 b4 b5
  go_enter Try.func57, Try.ntmps57
  go_wp2_with fail
  rw [← hwb]
  clear hwb
  go_region_held3 (fun w' => w'.cell? ⟨w.heap.size, 1, none⟩ = some (.string x) ∧ w'.cell? ⟨w.heap.size, 2, none⟩ = some (.string y)) (first | exact ⟨b1, b2⟩ | exact ⟨q1, q2⟩ | exact ⟨c1, c2⟩ | go_keep) (first | (go_at_call 20; refine hcr.out.mono ?_; rintro e w' ⟨rfl, rfl⟩) | (go_at_call 54; refine HST.out.mono ?_; rintro e w2 ⟨rfl, ho2, q1, q2⟩))
  have HO := Lib.hid ho2.unbox
  clear ho2 q1 q2 ho ho1 hcr HST
  go_wp2_with fail
  go_ret
  exact ⟨rfl, HO.out⟩
set_option maxRecDepth 100000 in
set_option maxHeartbeats 1000000 in
theorem does_k2 (h : Own w0 w (rDisk w0.heap.size d m :: rRef w0.heap.size r m :: rs)) {n t : Nat} (ht : Tidy m n t) (hn : n < 1099511627776) (htt : t < 549755813888) (x y : ByteArray) (pv : Value) (i j : Int) :
    Calls Try.prog 57 #[.pointer (some ⟨d, 0, none⟩), .pointer (some ⟨r, 0, none⟩), .agg #[.int .i64 2, .string x, .string y, pv, .int .i64 i, .int .i64 j]] w (DoesPost w0 d r rs (removeOf m x).2) := by
  have ho := h.boxed (.cells #[.int .i64 2, .string x, .string y, pv, .int .i64 i, .int .i64 j] 91)
  obtain ⟨wb, hwb⟩ : ∃ wb, wb = w.alloc (.cells #[.int .i64 2, .string x, .string y, pv, .int .i64 i, .int .i64 j] 91) := ⟨_, rfl⟩
  rw [← hwb] at ho
  obtain ⟨b0, b1, b2, b3, b4, b5⟩ := op_cells (ho.at (b := w.heap.size) mem2).1
  obtain ⟨w1, hcr, ho1⟩ := ho.drew.remove x ht.good.fuse (ht.good.loose hn)
  obtain ⟨-, c1, c2, -, -, -⟩ := op_cells (ho1.at (b := w.heap.size) mem2).1
  have hst := (ho1.swap).rstep ht hn htt ⟨2, x, ⟨#[]⟩, []⟩ ⟨by simp, by simp⟩ (fun _ => rfl) (pv := .slice none 0 0) (fun _ w' _ _ => reads_nil w')
  rw [step_remove] at hst
  simp only at hst
  generalize removeOf m x = res at *
  obtain ⟨z, m2⟩ := res
  simp only at *
  have HST := Lib.hid (hst.mono (fun e w2 (hp : ROwn w0 r _ (z, m2) e w2) => (⟨hp.1, hp.2.swap, (op_cells (hp.2.swap.at (b := w.heap.size) mem2).1).2.1, (op_cells (hp.2.swap.at (b := w.heap.size) mem2).1).2.2.1⟩ : e = .returned (.int .i64 z) ∧ Own w0 w2 (rDisk w0.heap.size d m2 :: rRef w0.heap.size r m2 :: rObj w0.heap.size w.heap.size (.cells #[.int .i64 2, .string x, .string y, pv, .int .i64 i, .int .i64 j] 91) :: rs) ∧ w2.cell? ⟨w.heap.size, 1, none⟩ = some (.string x) ∧ w2.cell? ⟨w.heap.size, 2, none⟩ = some (.string y))))
  clear h ht hn htt hst b3 b4 b5
  go_enter Try.func57, Try.ntmps57
  go_wp2_with fail
  rw [← hwb]
  clear hwb
  go_region_held3 (fun w' => w'.cell? ⟨w.heap.size, 1, none⟩ = some (.string x) ∧ w'.cell? ⟨w.heap.size, 2, none⟩ = some (.string y)) (first | exact ⟨b1, b2⟩ | exact ⟨q1, q2⟩ | exact ⟨c1, c2⟩ | go_keep) (first | (go_at_call 23; refine hcr.out.mono ?_; rintro e w' ⟨rfl, rfl⟩) | (go_at_call 54; refine HST.out.mono ?_; rintro e w2 ⟨rfl, ho2, q1, q2⟩))
  have HO := Lib.hid ho2.unbox
  clear ho2 q1 q2 ho ho1 hcr HST
  go_wp2_with fail
  go_ret
  exact ⟨rfl, HO.out⟩
set_option maxRecDepth 100000 in
set_option maxHeartbeats 1000000 in
theorem does_k3 (h : Own w0 w (rDisk w0.heap.size d m :: rRef w0.heap.size r m :: rs)) {n t : Nat} (ht : Tidy m n t) (hn : n < 1099511627776) (htt : t < 549755813888) (x y : ByteArray) (pv : Value) (i j : Int) :
    Calls Try.prog 57 #[.pointer (some ⟨d, 0, none⟩), .pointer (some ⟨r, 0, none⟩), .agg #[.int .i64 3, .string x, .string y, pv, .int .i64 i, .int .i64 j]] w (DoesPost w0 d r rs (renameOf m x y).2) := by
  have ho := h.boxed (.cells #[.int .i64 3, .string x, .string y, pv, .int .i64 i, .int .i64 j] 91)
  obtain ⟨wb, hwb⟩ : ∃ wb, wb = w.alloc (.cells #[.int .i64 3, .string x, .string y, pv, .int .i64 i, .int .i64 j] 91) := ⟨_, rfl⟩
  rw [← hwb] at ho
  obtain ⟨b0, b1, b2, b3, b4, b5⟩ := op_cells (ho.at (b := w.heap.size) mem2).1
  obtain ⟨w1, hcr, ho1⟩ := ho.drew.rename9 x y ht.good.fuse (ht.good.loose hn)
  obtain ⟨-, c1, c2, -, -, -⟩ := op_cells (ho1.at (b := w.heap.size) mem2).1
  have hst := (ho1.swap).rstep ht hn htt ⟨3, x, y, []⟩ ⟨by simp, by simp⟩ (fun _ => rfl) (pv := .slice none 0 0) (fun _ w' _ _ => reads_nil w')
  rw [step_rename] at hst
  simp only at hst
  generalize renameOf m x y = res at *
  obtain ⟨z, m2⟩ := res
  simp only at *
  have HST := Lib.hid (hst.mono (fun e w2 (hp : ROwn w0 r _ (z, m2) e w2) => (⟨hp.1, hp.2.swap, (op_cells (hp.2.swap.at (b := w.heap.size) mem2).1).2.1, (op_cells (hp.2.swap.at (b := w.heap.size) mem2).1).2.2.1⟩ : e = .returned (.int .i64 z) ∧ Own w0 w2 (rDisk w0.heap.size d m2 :: rRef w0.heap.size r m2 :: rObj w0.heap.size w.heap.size (.cells #[.int .i64 3, .string x, .string y, pv, .int .i64 i, .int .i64 j] 91) :: rs) ∧ w2.cell? ⟨w.heap.size, 1, none⟩ = some (.string x) ∧ w2.cell? ⟨w.heap.size, 2, none⟩ = some (.string y))))
  clear h ht hn htt hst b3 b4 b5
  go_enter Try.func57, Try.ntmps57
  go_wp2_with fail
  rw [← hwb]
  clear hwb
  go_region_held3 (fun w' => w'.cell? ⟨w.heap.size, 1, none⟩ = some (.string x) ∧ w'.cell? ⟨w.heap.size, 2, none⟩ = some (.string y)) (first | exact ⟨b1, b2⟩ | exact ⟨q1, q2⟩ | exact ⟨c1, c2⟩ | go_keep) (first | (go_at_call 60; refine hcr.out.mono ?_; rintro e w' ⟨rfl, rfl⟩) | (go_at_call 54; refine HST.out.mono ?_; rintro e w2 ⟨rfl, ho2, q1, q2⟩))
  have HO := Lib.hid ho2.unbox
  clear ho2 q1 q2 ho ho1 hcr HST
  go_wp2_with fail
  go_ret
  exact ⟨rfl, HO.out⟩
end
/-- The document's disk's fuse is set. -/
theorem Own.rfuse {w wr : World} {r : Nat} {m : DM} {rs : List (Res w.heap.size)} (h : Own w wr (rRef w.heap.size r m :: rs)) (k : Int) :
    wr.cell? ⟨r, 4, none⟩ = some (.int .i64 m.fuse) ∧ wr.cell? ⟨r, 5, none⟩ = some (.bool m.down) ∧ wr.frozen? ⟨r, 4, none⟩ = false ∧ Own w (wr.setCell ⟨r, 4, none⟩ (.int .i64 k)) (rRef w.heap.size r { m with fuse := k } :: rs) := by
  obtain ⟨F, h1, h2, back⟩ := h.open1
  obtain ⟨vn, vs, vl, h1⟩ : RefIs F wr r m := h1
  refine ⟨h1.cells.c4, h1.cells.c5, h1.cells.f0 4, back _ (rRef _ r { m with fuse := k }) ((Keeps.refl F wr).setCell (p := ⟨r, 4, none⟩) (fun _ => h1.fr) _) ⟨vn, vs, vl, ?_⟩⟩
  have hh : RefAt F (wr.setCell ⟨r, 4, none⟩ (.int .i64 k)) r vn vs vl { m with fuse := k } := RefAt.store h1.blk (by rw [heap_setCell_eq h1.blk]; rfl) (fun b hb => Below.heap_setCell _ _ _ _ hb) h1.fr h1.now h1.sure h1.loose h1.lt
  exact hh.quiet (Keeps.refl _ _) (fun b hb _ => .inl hb) (fun b hb => by
    rcases hb with hb | hb
    · exact hh.lt b hb
    · exact hb.2)
section
variable {w0 w : World} {d r : Nat} {m : DM} {rs : List (Res w0.heap.size)}
set_option maxRecDepth 100000 in
set_option maxHeartbeats 1000000 in
theorem does_k4 (h : Own w0 w (rDisk w0.heap.size d m :: rRef w0.heap.size r m :: rs)) {n t : Nat} (ht : Tidy m n t) (x y : ByteArray) (pv : Value) (i j : Int) :
    Calls Try.prog 57 #[.pointer (some ⟨d, 0, none⟩), .pointer (some ⟨r, 0, none⟩), .agg #[.int .i64 4, .string x, .string y, pv, .int .i64 i, .int .i64 j]] w (DoesPost w0 d r rs (syncOf m).2) := by
  have ho := h.boxed (.cells #[.int .i64 4, .string x, .string y, pv, .int .i64 i, .int .i64 j] 91)
  have hsy := ho.sync ht.good.fuse ht.good.fits1
  have HT := Lib.hid ht
  have HSY := Lib.hid hsy
  clear h ht ho hsy
  go_enter Try.func57, Try.ntmps57
  go_wp2_with fail
  refine HSY.out.mono ?_
  rintro e w1 ⟨rfl, ho1⟩
  obtain ⟨w2, hr2, ho2⟩ := ho1.swap.rsync HT.out
  have HO := Lib.hid ho2.swap.unbox
  clear ho1 ho2 HSY HT
  generalize (syncOf m).1 = z at *
  go_wp2_with fail
  refine hr2.out.mono ?_
  rintro e w' ⟨rfl, rfl⟩
  go_wp2_with fail
  go_ret
  exact ⟨rfl, HO.out⟩
set_option maxRecDepth 100000 in
set_option maxHeartbeats 1000000 in
theorem does_k6 (h : Own w0 w (rDisk w0.heap.size d m :: rRef w0.heap.size r m :: rs)) {n t : Nat} (ht : Tidy m n t) (htt : t < 549755813888) (x y : ByteArray) (pv : Value) (i j : Int) :
    Calls Try.prog 57 #[.pointer (some ⟨d, 0, none⟩), .pointer (some ⟨r, 0, none⟩), .agg #[.int .i64 6, .string x, .string y, pv, .int .i64 i, .int .i64 j]] w (DoesPost w0 d r rs (crashOf m i j)) := by
  have ho := h.boxed (.cells #[.int .i64 6, .string x, .string y, pv, .int .i64 i, .int .i64 j] 91)
  have hrc := ho.swap.rcrash ht htt i j
  have HT := Lib.hid ht
  have HRC := Lib.hid hrc
  clear h ht ho hrc
  go_enter Try.func57, Try.ntmps57
  go_wp2_with fail
  refine HRC.out.mono ?_
  rintro e w1 ⟨rfl, ho1⟩
  obtain ⟨-, -, -, -, c4, c5⟩ := op_cells (ho1.at (b := w.heap.size) mem2).1
  have hcr := ho1.swap.crash i j HT.out.good.fits
  have HCR := Lib.hid hcr
  clear hcr ho1 HRC HT
  go_wp2_with fail
  refine HCR.out.mono ?_
  rintro e w2 ⟨rfl, ho2⟩
  have HO := Lib.hid ho2.unbox
  clear ho2 HCR
  go_wp2_with fail
  go_ret
  exact ⟨rfl, HO.out⟩
set_option maxRecDepth 100000 in
set_option maxHeartbeats 1000000 in
theorem does_k5 (h : Own w0 w (rDisk w0.heap.size d m :: rRef w0.heap.size r m :: rs)) (x y : ByteArray) (pv : Value) (i j : Int) :
    Calls Try.prog 57 #[.pointer (some ⟨d, 0, none⟩), .pointer (some ⟨r, 0, none⟩), .agg #[.int .i64 5, .string x, .string y, pv, .int .i64 i, .int .i64 j]] w (DoesPost w0 d r rs (fuseOf m i).2) := by
  have ho := h.boxed (.cells #[.int .i64 5, .string x, .string y, pv, .int .i64 i, .int .i64 j] 91)
  obtain ⟨wb, hwb⟩ : ∃ wb, wb = w.alloc (.cells #[.int .i64 5, .string x, .string y, pv, .int .i64 i, .int .i64 j] 91) := ⟨_, rfl⟩
  rw [← hwb] at ho
  obtain ⟨b0, b1, b2, b3, b4, b5⟩ := op_cells (ho.at (b := w.heap.size) mem2).1
  obtain ⟨r4, r5, f4, ho2⟩ := ho.swap.rfuse (max i (-1))
  cases hdn : m.down with
  | true =>
    rw [hdn] at r5
    obtain ⟨w1, hf, ho1⟩ := ho.fuse9 i
    rw [show fuseOf m i = (5, m) by unfold fuseOf; rw [hdn]; rfl] at hf ho1 ⊢
    have HO := Lib.hid ho1.unbox
    clear h ho ho1 ho2 b1 b2 b3 b5
    subst hwb
    go_enter Try.func57, Try.ntmps57
    go_wp2_with fail
    refine hf.out.mono ?_
    rintro e w' ⟨rfl, rfl⟩
    go_wp2_with fail
    go_ret
    exact ⟨rfl, HO.out⟩
  | false =>
    rw [hdn] at r5
    obtain ⟨w1, hf, ho1⟩ := ho2.swap.fuse9 i
    rw [show fuseOf m i = (0, { m with fuse := max i (-1) }) by unfold fuseOf; rw [hdn, if_neg (by simp)]; congr 2; split <;> omega] at hf ho1 ⊢
    obtain ⟨-, -, -, -, c4, -⟩ := op_cells (ho2.swap.at (b := w.heap.size) mem2).1
    have HO := Lib.hid ho1.unbox
    clear h ho ho1 ho2 b1 b2 b3 b5
    subst hwb
    go_enter Try.func57, Try.ntmps57
    go_wp2_with fail
    refine hf.out.mono ?_
    rintro e w' ⟨rfl, rfl⟩
    go_wp2_with fail
    go_ret
    exact ⟨rfl, HO.out⟩
end
end Go.Proofs.Ytlinkpjneehnbaa
