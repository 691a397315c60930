/- law 9's Is and Does, most kinds. -/
import Derived.Test.YtaeabdghlkdkjaaGreatPkI
import Derived.Test.YtaeabdghlkdkjaaGreatPkH
import Derived.Laws.BitsAllLaws
namespace Go.Proofs.YtaeabdghlkdkjaaGreat
set_option linter.unusedVariables false
open Go.RowKit Go.MapKept

theorem Own.rsync {w wr : World} {r : Nat} {m : DM} {rs : List (Res w.heap.size)} (h : Own w wr (rRef w.heap.size r m :: rs)) {n t : Nat} (ht : Tidy m n t) :
    ∃ w', Runs 66 #[.pointer (some ⟨r, 0, none⟩)] wr (.int .i64 (syncOf m).1) w' ∧ Own w w' (rRef w.heap.size r (syncOf m).2 :: rs) := by
  obtain ⟨F, h1, h2, back⟩ := h.open1
  obtain ⟨w', hr, h3, h4⟩ := rsync_runs (h1 : RefIs F wr r m) ht.good.now ht.good.fuse
  obtain ⟨vn, vs, vl, h3⟩ := h3
  exact ⟨w', hr, back w' (rRef _ r (syncOf m).2) h4 ⟨vn, vs, vl, h3.quiet (Keeps.refl _ _) (fun b hb _ => .inl hb) (fun b hb => by rcases hb with hb | hb; exact h3.lt b hb; exact hb.2)⟩⟩
theorem Own.rcrash {w wr : World} {r : Nat} {m : DM} {rs : List (Res w.heap.size)} (h : Own w wr (rRef w.heap.size r m :: rs)) {n t : Nat} (ht : Tidy m n t) (htt : t < 549755813888) (keep part : Int) :
    Calls Tryz.prog 91 #[.pointer (some ⟨r, 0, none⟩), .int .i64 keep, .int .i64 part] wr (fun e w' => e = .returned (.tuple #[]) ∧ Own w w' (rRef w.heap.size r (crashOf m keep part) :: rs)) := by
  obtain ⟨F, h1, h2, back⟩ := h.open1
  refine (rcrash_calls (h1 : RefIs F wr r m) ht htt keep part).mono ?_
  rintro e w' ⟨he, h3, h4⟩
  exact ⟨he, back w' (rRef _ r (crashOf m keep part)) h4 h3⟩

theorem begins_empty (s : ByteArray) : beginsB s ⟨#[]⟩ = true := by
  unfold beginsB
  have : (⟨#[]⟩ : ByteArray).size = 0 := rfl
  rw [this]
  have e : s.extract 0 0 = ⟨#[]⟩ := by simp; rfl
  rw [e]
  simp
theorem namesOf_empty (fs : FS) : namesOf fs ⟨#[]⟩ = fs.map (·.1) := by
  unfold namesOf
  rw [List.filter_eq_self.2 (fun p _ => begins_empty p.1)]

set_option maxRecDepth 100000 in
set_option maxHeartbeats 2000000 in
theorem is_calls {w0 w : World} {d r : Nat} {m : DM} {rs : List (Res w0.heap.size)} (ho : Own w0 w (rDisk w0.heap.size d m :: rRef w0.heap.size r m :: rs)) {n t : Nat} (ht : Tidy m n t) (htt : t < 549755813888) :
    Calls Tryz.prog 27 #[.pointer (some ⟨d, 0, none⟩), .pointer (some ⟨r, 0, none⟩)] w (QuietP w (.bool true)) := by
  obtain ⟨Fd, hdi, _⟩ := ho.disk
  obtain ⟨F, vn, vs, vl, href⟩ := ho.ref (r := r) (m := m) (by simp)
  obtain ⟨na, nc, rfl, hnc, _⟩ := href.now.form
  obtain ⟨la, lc, rfl⟩ := href.loose.form
  have r1 := href.cells.c1
  have r3 := href.cells.c3
  have r5 := href.cells.c5
  have hdown := down_runs (hdi.keep (w' := w.drew) (fun _ _ => rfl))
  have hkd : Keeps (fun _ => False) w w.drew := (Keeps.refl _ w).drew
  have hloose := fun w1 (hk : Keeps (fun _ => False) w.drew w1) => loose_runs (hdi.keeps (hkd.trans hk (fun _ _ e => e)) (fun _ _ e => e))
  have hun := ht.good.unow
  have hr1 := ht.good.room1
  have hused := used_calls (hdi.keep (w' := w.drew) (fun _ _ => rfl)) (by omega)
  have hrused := fun w1 (hk : Keeps (fun _ => False) w.drew w1) => rused_runs (href.now.quiet (hkd.trans hk (fun _ _ e => e)) (G := F) (fun _ h _ => h)) (by have := ht.lnow; omega) (by omega)
  have hck := fun w1 (hk : Keeps (fun _ => False) w.drew w1) => (href.quiet (hkd.trans hk (fun _ _ e => e)) (G := F) (fun _ h _ => h) (fun b hb => by have := href.lt b hb; have := hk.size; simp only [drew_size] at this; omega)).cells
  have hck2 := fun w1 (hk : Keeps (fun _ => False) w.drew w1) => (⟨(hck w1 hk).c1, (hck w1 hk).c3, (hck w1 hk).c5⟩ : w1.cell? ⟨r, 1, none⟩ = some (.slice na m.now.length nc) ∧ w1.cell? ⟨r, 3, none⟩ = some (.slice la m.loose.length lc) ∧ w1.cell? ⟨r, 5, none⟩ = some (.bool m.down))
  have HCK := Lib.hid hck2
  clear hck hck2
  have HL := Lib.hid hloose
  have HU := Lib.hid hused
  have HRU := Lib.hid hrused
  have HDI := Lib.hid hdi
  have HREF := Lib.hid href
  have HT := Lib.hid ht
  clear hloose hused hrused hdi href ho ht
  go_enter Tryz.func27, Tryz.ntmps27
  go_wp2_with fail
  go_region_held3 (fun w' => w'.cell? ⟨r, 1, none⟩ = some (.slice na m.now.length nc) ∧ w'.cell? ⟨r, 3, none⟩ = some (.slice la m.loose.length lc) ∧ w'.cell? ⟨r, 5, none⟩ = some (.bool m.down)) (first | exact ⟨r1, r3, r5⟩ | exact HCK.out _ hk1 | go_keep) (first | (go_at_call 93; refine hdown.out.mono ?_; rintro e w' ⟨rfl, rfl⟩) | (go_at_call 94; refine HU.out.mono ?_; rintro e w1 ⟨rfl, hk1⟩) | (go_at_call 95; refine (HRU.out _ hk1).out.mono ?_; rintro e w' ⟨rfl, rfl⟩) | (go_at_call 96; refine (HL.out _ hk1).out.mono ?_; rintro e w' ⟨rfl, rfl⟩))
  go_wp2_with fail
  have hk01 : Keeps (fun _ => False) w w1 := hkd.trans hk1 (fun _ _ e => e)
  have hd1 := HDI.out.keeps hk01 (fun _ _ e => e)
  have hlt1 : ∀ b, F b → b < w1.heap.size := fun b hb => by have := HREF.out.lt b hb; have := hk01.size; omega
  have h1 := HREF.out.quiet hk01 (G := F) (fun _ h _ => h) hlt1
  obtain ⟨q1, q3, q5⟩ := HCK.out _ hk1
  clear r1 r3 r5 HCK HL HU HRU hk1 hkd hdown HDI HREF
  cases hdn : m.down with
  | true =>
    have hup := up_runs hd1
    rw [show upOf m = 5 by unfold upOf; rw [hdn]; rfl] at hup
    have hnm := names_down ⟨#[]⟩ hup
    rw [hdn] at q5
    have HK := Lib.hid hk01
    clear hd1 h1 hup hk01
    refine hnm.out.mono ?_
    rintro e w' ⟨rfl, rfl⟩
    go_wp2_with fail
    go_ret
    exact ⟨rfl, HK.out⟩
  | false =>
    rw [hdn] at q5
    have hnm := names_calls hd1 ⟨#[]⟩ hdn HT.out.snow (fun p hp => by have := HT.out.names p hp; unfold maxLen; omega) (by have := HT.out.lnow; omega)
    rw [namesOf_empty] at hnm
    refine hnm.mono ?_
    rintro e w2 ⟨v2, rfl, hs2, k2⟩
    obtain ⟨a2, c2, rfl⟩ := hs2.form
    rw [List.length_map]
    have hk02 : Keeps (fun _ => False) w w2 := hk01.trans k2 (fun _ _ e => e)
    have hd2 := hd1.keeps k2 (fun _ _ e => e)
    have hlt2 : ∀ b, F b → b < w2.heap.size := fun b hb => by have := hlt1 b hb; have := k2.size; omega
    have h2 := h1.quiet k2 (G := F) (fun _ h _ => h) hlt2
    have q1 := h2.cells.c1
    have q5 := h2.cells.c5
    rw [hdn] at q5
    have i1 : (m.now.length : Int) ≤ 549755813888 := by have := HT.out.lnow; omega
    have H2 := Lib.hid h2
    have HD2 := Lib.hid hd2
    have HS2 := Lib.hid hs2
    have HK02 := Lib.hid hk02
    clear hd1 h1 hnm hk01 hk02 hd2 h2 hs2 k2
    go_wp2_with fail
    clear q1 q5
    go_loopw [73] (fun i wx => ∃ (k : Nat), k ≤ m.now.length ∧ i = .int .i64 (k : Int) ∧ Keeps (fun _ => False) w2 wx) (fun i _ => m.now.length - (intOf i).toNat)
    case atStart => exact ⟨0, Nat.zero_le _, rfl, Keeps.refl _ _⟩
    case round =>
      obtain ⟨k, hk, rfl, hq⟩ := hrel
      have j0 : (0 : Int) ≤ k := by omega
      by_cases hlt : k < m.now.length
      · obtain ⟨f, hf⟩ : ∃ f, m.now[k]? = some f := ⟨m.now[k], List.getElem?_eq_getElem hlt⟩
        have j1 : (k : Int) < m.now.length := by omega
        obtain ⟨g, cap', p, e, hc1, hc2, hB⟩ := (H2.out.now.quiet hq (G := F) (fun _ h _ => h)).cell hf
        simp only [Value.slice.injEq] at e
        obtain ⟨rfl, -, rfl⟩ := e
        obtain ⟨pa, pc, rfl, _, _⟩ := hB.form
        obtain ⟨g2, rfl, hl1, hl2, _⟩ := (HS2.out.keep hq).cell (i := k) (s := f.1) (by rw [List.getElem?_map, hf]; rfl)
        obtain ⟨w5, hw5⟩ : ∃ w5, w5 = wr.alloc (.cells #[.string f.1, .slice pa f.2.length pc] 138) := ⟨_, rfl⟩
        have hk5 : Keeps (fun _ => False) wr w5 := by rw [hw5]; exact (Keeps.refl _ wr).alloc _
        have hb5 : w5.heap[wr.heap.size]? = some (.cells #[.string f.1, .slice pa f.2.length pc] 138 (0, 0)) := by rw [hw5]; exact heap_alloc_new _ _
        have g5 : w5.cell? ⟨wr.heap.size, 0, none⟩ = some (.string f.1) := cell_at hb5 rfl
        have hq5 := hq.trans hk5 (fun _ _ e => e)
        have hd5 := HD2.out.keeps hq5 (fun _ _ e => e)
        have hg : fget m.now f.1 = some f.2 := fget_mem HT.out.good.nnow (List.mem_of_getElem? hf)
        have hth : thereOf m f.1 = 0 := by simp [thereOf, hdn, hg]
        have hsz := size_runs hd5 f.1
        rw [show sizeCode m f.1 = (f.2.length : Int) by simp [sizeCode, hth, hg], hth] at hsz
        have hgl := HT.out.good.get f.1
        obtain ⟨v6, w6, hrd, hB6, hk6⟩ := read_runs hd5 f.1 0 (f.2.length : Int) (by omega)
        rw [show readCode m f.1 0 (f.2.length : Int) = 0 by unfold readCode; rw [if_pos hth, if_neg (by omega)]] at hrd
        rw [show readBytes m f.1 0 (f.2.length : Int) = f.2 by unfold readBytes; rw [if_pos hth, if_neg (by omega), hg]; simp [pieceOf]] at hB6
        obtain ⟨a6, c6, rfl, _, _⟩ := hB6.form
        have hb6 := hk6.at hb5 (fun e => e)
        have g60 : w6.cell? ⟨wr.heap.size, 0, none⟩ = some (.string f.1) := cell_at hb6 rfl
        have g61 : w6.cell? ⟨wr.heap.size, 1, none⟩ = some (.slice pa f.2.length pc) := cell_at hb6 rfl
        have hk56 := hk5.trans hk6 (fun _ _ e => e)
        have hl6 : w6.cell? ⟨g2, k, none⟩ = some (.string f.1) := (World.cell?_of_block (hk56.block _ (World.block_lt_of_cell? wr _ hl1) (fun e => e))).trans hl1
        have hsm := same_calls (w := w6.drew) (hB6.reads.keep (Keeps.refl _ w6).drew) ((hB.reads.keep hk56).keep (Keeps.refl _ w6).drew)
        rw [decide_eq_true rfl] at hsm
        have HSM := Lib.hid hsm
        have HQ6 := Lib.hid (hq.trans hk56 (fun _ _ e => e))
        have hcc : ∀ w7, Keeps (fun _ => False) w6.drew w7 → w7.cell? ⟨g2, k, none⟩ = some (.string f.1) ∧ w7.cell? ⟨wr.heap.size, 0, none⟩ = some (.string f.1) ∧ w7.cell? ⟨wr.heap.size, 1, none⟩ = some (.slice pa f.2.length pc) := fun w7 hk7 =>
          ⟨(World.cell?_of_block (hk7.undrew.block _ (World.block_lt_of_cell? w6 _ hl6) (fun e => e))).trans hl6, cell_at (hk7.undrew.at hb6 (fun e => e)) rfl, cell_at (hk7.undrew.at hb6 (fun e => e)) rfl⟩
        have HCC := Lib.hid hcc
        clear hq hB hk5 hb5 hq5 hd5 hg hth hgl hB6 hk6 hb6 hk56 hsm hcc hf H2 HD2 HS2
        go_wp2_with fail
        rw [← hw5]
        clear hw5
        refine hsz.out.mono ?_
        rintro e w' ⟨rfl, rfl⟩
        go_wp2_with fail
        refine hrd.out.mono ?_
        rintro e w' ⟨rfl, rfl⟩
        go_wp2_with fail
        go_region_held3 (fun w' => w'.cell? ⟨g2, k, none⟩ = some (.string f.1) ∧ w'.cell? ⟨wr.heap.size, 0, none⟩ = some (.string f.1) ∧ w'.cell? ⟨wr.heap.size, 1, none⟩ = some (.slice pa f.2.length pc)) (first | exact ⟨hl6, g60, g61⟩ | exact HCC.out _ hk7 | go_keep) (first | (go_at_call 46; refine HSM.out.mono ?_; rintro e w7 ⟨rfl, hk7⟩))
        have HQ7 := Lib.hid (HQ6.out.trans hk7.undrew (fun _ _ e => e))
        clear hk7
        go_wp2_with fail
        go_roundw
        case rel => exact ⟨k + 1, by omega, rfl, HQ7.out⟩
        case measure => simp [intOf]; omega
      · obtain rfl : k = m.now.length := by omega
        have HQ := Lib.hid (HK02.out.trans hq (fun _ _ e => e))
        clear hq H2 HD2 HS2
        go_wp2_with fail
        go_ret
        exact ⟨rfl, HQ.out⟩
end Go.Proofs.YtaeabdghlkdkjaaGreat

namespace Go.Proofs.YtaeabdghlkdkjaaGreat
set_option linter.unusedVariables false
open Go.RowKit Go.MapKept

/-- What a step of a script does. -/
def does9 (m : DM) (o : Op9) : DM :=
  if o.kind = 0 then (createOf m o.a).2 else if o.kind = 1 then (appendOf m o.a o.p).2 else if o.kind = 2 then (removeOf m o.a).2 else if o.kind = 3 then (renameOf m o.a o.b).2
  else if o.kind = 4 then (syncOf m).2 else if o.kind = 5 then (fuseOf m o.n).2 else if o.kind = 6 then crashOf m o.n o.m else m
def DoesPost (w0 : World) (d r : Nat) (rs : List (Res w0.heap.size)) (m : DM) (e : Ending) (w' : World) : Prop := e = .returned (.bool true) ∧ Own w0 w' (rDisk w0.heap.size d m :: rRef w0.heap.size r m :: rs)
def opAgg (k : Int) (a b : ByteArray) (pv : Value) (n m : Int) : Array Value := #[.int .i64 k, .string a, .string b, pv, .int .i64 n, .int .i64 m]
theorem Own.boxed {w0 w : World} {x y : Res w0.heap.size} {rs : List (Res w0.heap.size)} (h : Own w0 w (x :: y :: rs)) (o : Obj) : Own w0 (w.alloc o) (x :: y :: rObj w0.heap.size w.heap.size o :: rs) :=
  (h.alloc o).perm ((List.Perm.swap ..).trans (List.Perm.cons x (List.Perm.swap ..)))
theorem Own.unbox {w0 w : World} {x y z : Res w0.heap.size} {rs : List (Res w0.heap.size)} (h : Own w0 w (x :: y :: z :: rs)) : Own w0 w (x :: y :: rs) :=
  (h.perm ((List.Perm.cons x (List.Perm.swap ..)).trans (List.Perm.swap ..))).drop
theorem mem2 {α : Type} {x y z : α} {l : List α} : z ∈ x :: y :: z :: l := List.mem_cons_of_mem _ (List.mem_cons_of_mem _ (List.mem_cons_self ..))
theorem op_cells {w : World} {b : Nat} {k : Int} {x y : ByteArray} {pv : Value} {n m : Int} (h : w.heap[b]? = some (.cells #[.int .i64 k, .string x, .string y, pv, .int .i64 n, .int .i64 m] 66 (0, 0))) :
    w.cell? ⟨b, 0, none⟩ = some (.int .i64 k) ∧ w.cell? ⟨b, 1, none⟩ = some (.string x) ∧ w.cell? ⟨b, 2, none⟩ = some (.string y) ∧ w.cell? ⟨b, 3, none⟩ = some pv ∧ w.cell? ⟨b, 4, none⟩ = some (.int .i64 n) ∧ w.cell? ⟨b, 5, none⟩ = some (.int .i64 m) :=
  ⟨cell_at h rfl, cell_at h rfl, cell_at h rfl, cell_at h rfl, cell_at h rfl, cell_at h rfl⟩

theorem Own.rename9 {w wr : World} {d : Nat} {m : DM} {rs : List (Res w.heap.size)} (h : Own w wr (rDisk w.heap.size d m :: rs)) (n k : ByteArray) (hf : m.fuse ≤ 9223372036854775807) (hl : m.loose.length < 1099511627776) :
    ∃ w', Runs 90 #[.pointer (some ⟨d, 0, none⟩), .string n, .string k] wr (.int .i64 (renameOf m n k).1) w' ∧ Own w w' (rDisk w.heap.size d (renameOf m n k).2 :: rs) := by
  obtain ⟨F, h1, back⟩ := h.disk
  obtain ⟨w', hr, h2, kk⟩ := rename_runs h1 n k hf hl
  exact ⟨w', hr, (back _ (.returned (.int .i64 (renameOf m n k).1)) w' ⟨rfl, h2, kk⟩).2⟩
theorem Own.fuse9 {w wr : World} {d : Nat} {m : DM} {rs : List (Res w.heap.size)} (h : Own w wr (rDisk w.heap.size d m :: rs)) (n : Int) :
    ∃ w', Runs 49 #[.pointer (some ⟨d, 0, none⟩), .int .i64 n] wr (.int .i64 (fuseOf m n).1) w' ∧ Own w w' (rDisk w.heap.size d (fuseOf m n).2 :: rs) := by
  obtain ⟨F, h1, back⟩ := h.disk
  obtain ⟨w', hr, h2, k⟩ := fuse_runs h1 n
  exact ⟨w', hr, (back _ (.returned (.int .i64 (fuseOf m n).1)) w' ⟨rfl, h2, k⟩).2⟩

section
variable {w0 w : World} {d r : Nat} {m : DM} {rs : List (Res w0.heap.size)}
set_option maxRecDepth 100000 in
set_option maxHeartbeats 1000000 in
theorem does_k0 (h : Own w0 w (rDisk w0.heap.size d m :: rRef w0.heap.size r m :: rs)) {n t : Nat} (ht : Tidy m n t) (hn : n < 1099511627776) (htt : t < 549755813888) (x y : ByteArray) (pv : Value) (i j : Int) :
    Calls Tryz.prog 26 #[.pointer (some ⟨d, 0, none⟩), .pointer (some ⟨r, 0, none⟩), .agg #[.int .i64 0, .string x, .string y, pv, .int .i64 i, .int .i64 j]] w (DoesPost w0 d r rs (createOf m x).2) := by
  have ho := h.boxed (.cells #[.int .i64 0, .string x, .string y, pv, .int .i64 i, .int .i64 j] 66)
  obtain ⟨wb, hwb⟩ : ∃ wb, wb = w.alloc (.cells #[.int .i64 0, .string x, .string y, pv, .int .i64 i, .int .i64 j] 66) := ⟨_, rfl⟩
  rw [← hwb] at ho
  obtain ⟨b0, b1, b2, b3, b4, b5⟩ := op_cells (ho.at (b := w.heap.size) mem2).1
  obtain ⟨w1, hcr, ho1⟩ := ho.drew.create x ht.good.fuse (ht.good.loose hn)
  obtain ⟨-, c1, c2, -, -, -⟩ := op_cells (ho1.at (b := w.heap.size) mem2).1
  have hst := (ho1.swap).rstep ht hn htt ⟨0, x, ⟨#[]⟩, []⟩ ⟨by simp, by simp⟩ (fun _ => rfl) (pv := .slice none 0 0) (fun _ w' _ _ => reads_nil w')
  rw [step_create] at hst
  simp only at hst
  generalize createOf m x = res at *
  obtain ⟨z, m2⟩ := res
  simp only at *
  have HST := Lib.hid (hst.mono (fun e w2 (hp : ROwn w0 r _ (z, m2) e w2) => (⟨hp.1, hp.2.swap, (op_cells (hp.2.swap.at (b := w.heap.size) mem2).1).2.1, (op_cells (hp.2.swap.at (b := w.heap.size) mem2).1).2.2.1⟩ : e = .returned (.int .i64 z) ∧ Own w0 w2 (rDisk w0.heap.size d m2 :: rRef w0.heap.size r m2 :: rObj w0.heap.size w.heap.size (.cells #[.int .i64 0, .string x, .string y, pv, .int .i64 i, .int .i64 j] 66) :: rs) ∧ w2.cell? ⟨w.heap.size, 1, none⟩ = some (.string x) ∧ w2.cell? ⟨w.heap.size, 2, none⟩ = some (.string y))))
  clear h ht hn htt hst b3 b4 b5
  go_enter Tryz.func26, Tryz.ntmps26
  go_wp2_with fail
  rw [← hwb]
  clear hwb
  go_region_held3 (fun w' => w'.cell? ⟨w.heap.size, 1, none⟩ = some (.string x) ∧ w'.cell? ⟨w.heap.size, 2, none⟩ = some (.string y)) (first | exact ⟨b1, b2⟩ | exact ⟨q1, q2⟩ | exact ⟨c1, c2⟩ | go_keep) (first | (go_at_call 58; refine hcr.out.mono ?_; rintro e w' ⟨rfl, rfl⟩) | (go_at_call 65; refine HST.out.mono ?_; rintro e w2 ⟨rfl, ho2, q1, q2⟩))
  have HO := Lib.hid ho2.unbox
  clear ho2 q1 q2 ho ho1 hcr HST
  go_wp2_with fail
  go_ret
  exact ⟨rfl, HO.out⟩
set_option maxRecDepth 100000 in
set_option maxHeartbeats 1000000 in
theorem does_k2 (h : Own w0 w (rDisk w0.heap.size d m :: rRef w0.heap.size r m :: rs)) {n t : Nat} (ht : Tidy m n t) (hn : n < 1099511627776) (htt : t < 549755813888) (x y : ByteArray) (pv : Value) (i j : Int) :
    Calls Tryz.prog 26 #[.pointer (some ⟨d, 0, none⟩), .pointer (some ⟨r, 0, none⟩), .agg #[.int .i64 2, .string x, .string y, pv, .int .i64 i, .int .i64 j]] w (DoesPost w0 d r rs (removeOf m x).2) := by
  have ho := h.boxed (.cells #[.int .i64 2, .string x, .string y, pv, .int .i64 i, .int .i64 j] 66)
  obtain ⟨wb, hwb⟩ : ∃ wb, wb = w.alloc (.cells #[.int .i64 2, .string x, .string y, pv, .int .i64 i, .int .i64 j] 66) := ⟨_, rfl⟩
  rw [← hwb] at ho
  obtain ⟨b0, b1, b2, b3, b4, b5⟩ := op_cells (ho.at (b := w.heap.size) mem2).1
  obtain ⟨w1, hcr, ho1⟩ := ho.drew.remove x ht.good.fuse (ht.good.loose hn)
  obtain ⟨-, c1, c2, -, -, -⟩ := op_cells (ho1.at (b := w.heap.size) mem2).1
  have hst := (ho1.swap).rstep ht hn htt ⟨2, x, ⟨#[]⟩, []⟩ ⟨by simp, by simp⟩ (fun _ => rfl) (pv := .slice none 0 0) (fun _ w' _ _ => reads_nil w')
  rw [step_remove] at hst
  simp only at hst
  generalize removeOf m x = res at *
  obtain ⟨z, m2⟩ := res
  simp only at *
  have HST := Lib.hid (hst.mono (fun e w2 (hp : ROwn w0 r _ (z, m2) e w2) => (⟨hp.1, hp.2.swap, (op_cells (hp.2.swap.at (b := w.heap.size) mem2).1).2.1, (op_cells (hp.2.swap.at (b := w.heap.size) mem2).1).2.2.1⟩ : e = .returned (.int .i64 z) ∧ Own w0 w2 (rDisk w0.heap.size d m2 :: rRef w0.heap.size r m2 :: rObj w0.heap.size w.heap.size (.cells #[.int .i64 2, .string x, .string y, pv, .int .i64 i, .int .i64 j] 66) :: rs) ∧ w2.cell? ⟨w.heap.size, 1, none⟩ = some (.string x) ∧ w2.cell? ⟨w.heap.size, 2, none⟩ = some (.string y))))
  clear h ht hn htt hst b3 b4 b5
  go_enter Tryz.func26, Tryz.ntmps26
  go_wp2_with fail
  rw [← hwb]
  clear hwb
  go_region_held3 (fun w' => w'.cell? ⟨w.heap.size, 1, none⟩ = some (.string x) ∧ w'.cell? ⟨w.heap.size, 2, none⟩ = some (.string y)) (first | exact ⟨b1, b2⟩ | exact ⟨q1, q2⟩ | exact ⟨c1, c2⟩ | go_keep) (first | (go_at_call 89; refine hcr.out.mono ?_; rintro e w' ⟨rfl, rfl⟩) | (go_at_call 65; refine HST.out.mono ?_; rintro e w2 ⟨rfl, ho2, q1, q2⟩))
  have HO := Lib.hid ho2.unbox
  clear ho2 q1 q2 ho ho1 hcr HST
  go_wp2_with fail
  go_ret
  exact ⟨rfl, HO.out⟩
set_option maxRecDepth 100000 in
set_option maxHeartbeats 1000000 in
theorem does_k3 (h : Own w0 w (rDisk w0.heap.size d m :: rRef w0.heap.size r m :: rs)) {n t : Nat} (ht : Tidy m n t) (hn : n < 1099511627776) (htt : t < 549755813888) (x y : ByteArray) (pv : Value) (i j : Int) :
    Calls Tryz.prog 26 #[.pointer (some ⟨d, 0, none⟩), .pointer (some ⟨r, 0, none⟩), .agg #[.int .i64 3, .string x, .string y, pv, .int .i64 i, .int .i64 j]] w (DoesPost w0 d r rs (renameOf m x y).2) := by
  have ho := h.boxed (.cells #[.int .i64 3, .string x, .string y, pv, .int .i64 i, .int .i64 j] 66)
  obtain ⟨wb, hwb⟩ : ∃ wb, wb = w.alloc (.cells #[.int .i64 3, .string x, .string y, pv, .int .i64 i, .int .i64 j] 66) := ⟨_, rfl⟩
  rw [← hwb] at ho
  obtain ⟨b0, b1, b2, b3, b4, b5⟩ := op_cells (ho.at (b := w.heap.size) mem2).1
  obtain ⟨w1, hcr, ho1⟩ := ho.drew.rename9 x y ht.good.fuse (ht.good.loose hn)
  obtain ⟨-, c1, c2, -, -, -⟩ := op_cells (ho1.at (b := w.heap.size) mem2).1
  have hst := (ho1.swap).rstep ht hn htt ⟨3, x, y, []⟩ ⟨by simp, by simp⟩ (fun _ => rfl) (pv := .slice none 0 0) (fun _ w' _ _ => reads_nil w')
  rw [step_rename] at hst
  simp only at hst
  generalize renameOf m x y = res at *
  obtain ⟨z, m2⟩ := res
  simp only at *
  have HST := Lib.hid (hst.mono (fun e w2 (hp : ROwn w0 r _ (z, m2) e w2) => (⟨hp.1, hp.2.swap, (op_cells (hp.2.swap.at (b := w.heap.size) mem2).1).2.1, (op_cells (hp.2.swap.at (b := w.heap.size) mem2).1).2.2.1⟩ : e = .returned (.int .i64 z) ∧ Own w0 w2 (rDisk w0.heap.size d m2 :: rRef w0.heap.size r m2 :: rObj w0.heap.size w.heap.size (.cells #[.int .i64 3, .string x, .string y, pv, .int .i64 i, .int .i64 j] 66) :: rs) ∧ w2.cell? ⟨w.heap.size, 1, none⟩ = some (.string x) ∧ w2.cell? ⟨w.heap.size, 2, none⟩ = some (.string y))))
  clear h ht hn htt hst b3 b4 b5
  go_enter Tryz.func26, Tryz.ntmps26
  go_wp2_with fail
  rw [← hwb]
  clear hwb
  go_region_held3 (fun w' => w'.cell? ⟨w.heap.size, 1, none⟩ = some (.string x) ∧ w'.cell? ⟨w.heap.size, 2, none⟩ = some (.string y)) (first | exact ⟨b1, b2⟩ | exact ⟨q1, q2⟩ | exact ⟨c1, c2⟩ | go_keep) (first | (go_at_call 90; refine hcr.out.mono ?_; rintro e w' ⟨rfl, rfl⟩) | (go_at_call 65; refine HST.out.mono ?_; rintro e w2 ⟨rfl, ho2, q1, q2⟩))
  have HO := Lib.hid ho2.unbox
  clear ho2 q1 q2 ho ho1 hcr HST
  go_wp2_with fail
  go_ret
  exact ⟨rfl, HO.out⟩
end
/-- The document's disk's fuse is set. -/
theorem Own.rfuse {w wr : World} {r : Nat} {m : DM} {rs : List (Res w.heap.size)} (h : Own w wr (rRef w.heap.size r m :: rs)) (k : Int) :
    wr.cell? ⟨r, 4, none⟩ = some (.int .i64 m.fuse) ∧ wr.cell? ⟨r, 5, none⟩ = some (.bool m.down) ∧ wr.frozen? ⟨r, 4, none⟩ = false ∧ Own w (wr.setCell ⟨r, 4, none⟩ (.int .i64 k)) (rRef w.heap.size r { m with fuse := k } :: rs) := by
  obtain ⟨F, h1, h2, back⟩ := h.open1
  obtain ⟨vn, vs, vl, h1⟩ : RefIs F wr r m := h1
  refine ⟨h1.cells.c4, h1.cells.c5, h1.cells.f0 4, back _ (rRef _ r { m with fuse := k }) ((Keeps.refl F wr).setCell (p := ⟨r, 4, none⟩) (fun _ => h1.fr) _) ⟨vn, vs, vl, ?_⟩⟩
  have hh : RefAt F (wr.setCell ⟨r, 4, none⟩ (.int .i64 k)) r vn vs vl { m with fuse := k } := RefAt.store h1.blk (by rw [heap_setCell_eq h1.blk]; rfl) (fun b hb => Below.heap_setCell _ _ _ _ hb) h1.fr h1.now h1.sure h1.loose h1.lt
  exact hh.quiet (Keeps.refl _ _) (fun b hb _ => .inl hb) (fun b hb => by
    rcases hb with hb | hb
    · exact hh.lt b hb
    · exact hb.2)
section
variable {w0 w : World} {d r : Nat} {m : DM} {rs : List (Res w0.heap.size)}
set_option maxRecDepth 100000 in
set_option maxHeartbeats 1000000 in
theorem does_k4 (h : Own w0 w (rDisk w0.heap.size d m :: rRef w0.heap.size r m :: rs)) {n t : Nat} (ht : Tidy m n t) (x y : ByteArray) (pv : Value) (i j : Int) :
    Calls Tryz.prog 26 #[.pointer (some ⟨d, 0, none⟩), .pointer (some ⟨r, 0, none⟩), .agg #[.int .i64 4, .string x, .string y, pv, .int .i64 i, .int .i64 j]] w (DoesPost w0 d r rs (syncOf m).2) := by
  have ho := h.boxed (.cells #[.int .i64 4, .string x, .string y, pv, .int .i64 i, .int .i64 j] 66)
  have hsy := ho.sync ht.good.fuse ht.good.fits1
  have HT := Lib.hid ht
  have HSY := Lib.hid hsy
  clear h ht ho hsy
  go_enter Tryz.func26, Tryz.ntmps26
  go_wp2_with fail
  refine HSY.out.mono ?_
  rintro e w1 ⟨rfl, ho1⟩
  obtain ⟨w2, hr2, ho2⟩ := ho1.swap.rsync HT.out
  have HO := Lib.hid ho2.swap.unbox
  clear ho1 ho2 HSY HT
  generalize (syncOf m).1 = z at *
  go_wp2_with fail
  refine hr2.out.mono ?_
  rintro e w' ⟨rfl, rfl⟩
  go_wp2_with fail
  go_ret
  exact ⟨rfl, HO.out⟩
set_option maxRecDepth 100000 in
set_option maxHeartbeats 1000000 in
theorem does_k6 (h : Own w0 w (rDisk w0.heap.size d m :: rRef w0.heap.size r m :: rs)) {n t : Nat} (ht : Tidy m n t) (htt : t < 549755813888) (x y : ByteArray) (pv : Value) (i j : Int) :
    Calls Tryz.prog 26 #[.pointer (some ⟨d, 0, none⟩), .pointer (some ⟨r, 0, none⟩), .agg #[.int .i64 6, .string x, .string y, pv, .int .i64 i, .int .i64 j]] w (DoesPost w0 d r rs (crashOf m i j)) := by
  have ho := h.boxed (.cells #[.int .i64 6, .string x, .string y, pv, .int .i64 i, .int .i64 j] 66)
  have hrc := ho.swap.rcrash ht htt i j
  have HT := Lib.hid ht
  have HRC := Lib.hid hrc
  clear h ht ho hrc
  go_enter Tryz.func26, Tryz.ntmps26
  go_wp2_with fail
  refine HRC.out.mono ?_
  rintro e w1 ⟨rfl, ho1⟩
  obtain ⟨-, -, -, -, c4, c5⟩ := op_cells (ho1.at (b := w.heap.size) mem2).1
  have hcr := ho1.swap.crash i j HT.out.good.fits
  have HCR := Lib.hid hcr
  clear hcr ho1 HRC HT
  go_wp2_with fail
  refine HCR.out.mono ?_
  rintro e w2 ⟨rfl, ho2⟩
  have HO := Lib.hid ho2.unbox
  clear ho2 HCR
  go_wp2_with fail
  go_ret
  exact ⟨rfl, HO.out⟩
set_option maxRecDepth 100000 in
set_option maxHeartbeats 1000000 in
theorem does_k5 (h : Own w0 w (rDisk w0.heap.size d m :: rRef w0.heap.size r m :: rs)) (x y : ByteArray) (pv : Value) (i j : Int) :
    Calls Tryz.prog 26 #[.pointer (some ⟨d, 0, none⟩), .pointer (some ⟨r, 0, none⟩), .agg #[.int .i64 5, .string x, .string y, pv, .int .i64 i, .int .i64 j]] w (DoesPost w0 d r rs (fuseOf m i).2) := by
  have ho := h.boxed (.cells #[.int .i64 5, .string x, .string y, pv, .int .i64 i, .int .i64 j] 66)
  obtain ⟨wb, hwb⟩ : ∃ wb, wb = w.alloc (.cells #[.int .i64 5, .string x, .string y, pv, .int .i64 i, .int .i64 j] 66) := ⟨_, rfl⟩
  rw [← hwb] at ho
  obtain ⟨b0, b1, b2, b3, b4, b5⟩ := op_cells (ho.at (b := w.heap.size) mem2).1
  obtain ⟨r4, r5, f4, ho2⟩ := ho.swap.rfuse (max i (-1))
  cases hdn : m.down with
  | true =>
    rw [hdn] at r5
    obtain ⟨w1, hf, ho1⟩ := ho.fuse9 i
    rw [show fuseOf m i = (5, m) by unfold fuseOf; rw [hdn]; rfl] at hf ho1 ⊢
    have HO := Lib.hid ho1.unbox
    clear h ho ho1 ho2 b1 b2 b3 b5
    subst hwb
    go_enter Tryz.func26, Tryz.ntmps26
    go_wp2_with fail
    refine hf.out.mono ?_
    rintro e w' ⟨rfl, rfl⟩
    go_wp2_with fail
    go_ret
    exact ⟨rfl, HO.out⟩
  | false =>
    rw [hdn] at r5
    obtain ⟨w1, hf, ho1⟩ := ho2.swap.fuse9 i
    rw [show fuseOf m i = (0, { m with fuse := max i (-1) }) by unfold fuseOf; rw [hdn, if_neg (by simp)]; congr 2; split <;> omega] at hf ho1 ⊢
    obtain ⟨-, -, -, -, c4, -⟩ := op_cells (ho2.swap.at (b := w.heap.size) mem2).1
    have HO := Lib.hid ho1.unbox
    clear h ho ho1 ho2 b1 b2 b3 b5
    subst hwb
    go_enter Tryz.func26, Tryz.ntmps26
    go_wp2_with fail
    refine hf.out.mono ?_
    rintro e w' ⟨rfl, rfl⟩
    go_wp2_with fail
    go_ret
    exact ⟨rfl, HO.out⟩
end
end Go.Proofs.YtaeabdghlkdkjaaGreat

namespace Go.Proofs.YtaeabdghlkdkjaaGreat
set_option linter.unusedVariables false
open Go.RowKit Go.MapKept

/-- A byte of a row of one's own is written. -/
theorem Own.setByte {w wr : World} {rs : List (Res w.heap.size)} {a : Option Addr} {n c : Nat} {l : List UInt8} (h : Own w wr (rBytes w.heap.size (.slice a n c) l :: rs)) {i : Nat} (hi : i < l.length) (b : UInt8) :
    ∃ g, a = some ⟨g, 0, none⟩ ∧ n = l.length ∧ n ≤ c ∧ wr.cell? ⟨g, i, none⟩ = some (.int .u8 (l[i].toNat : Int)) ∧ wr.frozen? ⟨g, i, none⟩ = false ∧ ∀ m : Nat, Own w ({ wr with drawn := m }.setCell ⟨g, i, none⟩ (.int .u8 (b.toNat : Int))) (rBytes w.heap.size (.slice a n c) (l.set i b) :: rs) := by
  obtain ⟨F, h1, h2, back⟩ := h.open1
  have h1' : wr.ownsRow 0 5 1 (.slice a n c) l.length (l.map u8v) := h1.1
  rcases h1'.2 with ⟨_, e⟩ | ⟨g, cap, cur, e, _, hb, h3, _⟩
  · omega
  · simp only [Value.slice.injEq] at e
    obtain ⟨rfl, rfl, rfl⟩ := e
    have hc := h1'.cells (g := g) rfl i (u8v l[i]) (by rw [List.getElem?_map, List.getElem?_eq_getElem hi]; rfl)
    refine ⟨g, rfl, rfl, h3, by simpa [Addr.add_lit, u8v] using hc, free_at hb i, fun m => ?_⟩
    have hm : Owns { wr with drawn := m } 0 (.slice (some ⟨g, 0, none⟩) l.length c) l := h1'
    obtain ⟨q1, _, _, q4⟩ := hm.set hi b
    refine back _ (rBytes _ (.slice (some ⟨g, 0, none⟩) l.length c) (l.set i b)) ?_ ⟨q1, fun x hx => ?_⟩
    · exact ((Keeps.refl (fun x => x = g) wr).drewN m).trans q4 (fun _ _ e => e) |>.mono (fun x _ e => by subst e; exact h1.2 x rfl)
    · exact .inl (h1.2 x hx)
theorem mem3 {α : Type} {x y z u : α} {l : List α} : u ∈ x :: y :: z :: u :: l := List.mem_cons_of_mem _ mem2
/-- Old bytes read as they did, whatever new memory is written. -/
theorem old_reads {w0 wr : World} {pv : Value} {p : List UInt8} (hp : Reads w0 pv p) (hk : Keeps (fun _ => False) w0 wr) (F : Nat → Prop) (w' : World) (hF : ∀ b, F b → w0.heap.size ≤ b ∧ b < wr.heap.size) (hk2 : Keeps F wr w') : Reads w' pv p :=
  hp.same (fun b hb => (hk2.block b (Nat.lt_of_lt_of_le hb hk.size) (fun e => by have := (hF b e).1; omega)).trans (hk.block b hb (fun e => e)))

section
variable {w0 w : World} {d r : Nat} {m : DM} {rs : List (Res w0.heap.size)}
set_option maxRecDepth 100000 in
set_option maxHeartbeats 2000000 in
theorem does_k1 (h : Own w0 w (rDisk w0.heap.size d m :: rRef w0.heap.size r m :: rs)) {n t : Nat} (ht : Tidy m n t) (hn : n < 1099511627776) (htt : t < 549755813888) (x y : ByteArray) {pv : Value} {p : List UInt8} (hp : Reads w0 pv p) (hpl : p.length ≤ 140737488355328) (i j : Int) :
    Calls Tryz.prog 26 #[.pointer (some ⟨d, 0, none⟩), .pointer (some ⟨r, 0, none⟩), .agg #[.int .i64 1, .string x, .string y, pv, .int .i64 i, .int .i64 j]] w (DoesPost w0 d r rs (appendOf m x p).2) := by
  obtain ⟨pa, pc, rfl, _, _⟩ := hp.form
  have ho := h.boxed (.cells #[.int .i64 1, .string x, .string y, .slice pa p.length pc, .int .i64 i, .int .i64 j] 66)
  have htw := twin_calls (hp.keep ho.keeps) hpl
  have HT := Lib.hid ht
  have HP := Lib.hid hp
  have HO := Lib.hid ho
  clear h ht hp ho
  go_enter Tryz.func26, Tryz.ntmps26
  go_wp2_with fail
  refine htw.mono ?_
  rintro e w1 ⟨v1, rfl, hw1, hk1⟩
  obtain ⟨a1, c1, rfl, hpc1, hcm1⟩ := hw1.bytes.form
  have hob := (HO.out.addBytes hw1 hk1).swap
  obtain ⟨-, b1, -, b3, -, -⟩ := op_cells (hob.at (b := w.heap.size) mem3).1
  have hap := hob.append x hw1.bytes.reads HT.out.good.room0 HT.out.good.room1 HT.out.good.unow HT.out.good.fuse (HT.out.good.loose hn)
  have HAP := Lib.hid hap
  clear hob hap hw1 hk1 HO htw
  have hsa := step_append m x p
  have htd := HT.out.step ⟨1, x, ⟨#[]⟩, p⟩ ⟨by simp, by simp⟩ (fun e => absurd rfl e) (fun _ => Nat.zero_le _)
  generalize appendOf m x p = res at *
  obtain ⟨z, m2⟩ := res
  have HSA := Lib.hid hsa
  clear hsa htd
  go_wp2_with fail
  refine HAP.out.mono ?_
  rintro e w2 ⟨rfl, ho2⟩
  have HO2 := Lib.hid ho2
  clear ho2 HAP
  simp only
  go_wp2_with fail
  clear b1 b3
  go_loopw [41] (fun iv wx => ∃ (k : Nat) (l' : List UInt8), k ≤ p.length ∧ iv = .int .i64 (k : Int) ∧ l'.length = p.length ∧ Own w0 wx (rBytes w0.heap.size (.slice a1 p.length c1) l' :: rDisk w0.heap.size d m2 :: rRef w0.heap.size r m :: rObj w0.heap.size w.heap.size (.cells #[.int .i64 1, .string x, .string y, .slice pa p.length pc, .int .i64 i, .int .i64 j] 66) :: rs)) (fun iv _ => p.length - (intOf iv).toNat)
  case atStart => exact ⟨0, p, Nat.zero_le _, rfl, rfl, HO2.out.swap⟩
  case round =>
    obtain ⟨k, l', hk, rfl, hl', ho⟩ := hrel
    have j0 : (0 : Int) ≤ k := by omega
    have i9 : (p.length : Int) ≤ 140737488355328 := by omega
    by_cases hkl : k < p.length
    · have j1 : (k : Int) < p.length := by omega
      have hkl' : k < l'.length := by omega
      obtain ⟨g, e, _, hnc, hcq, hfq, hst⟩ := ho.setByte hkl' (l'[k] ^^^ 255)
      subst e
      replace hst := hst wr.drawn
      have hlen2 : (l'.set k (l'[k] ^^^ 255)).length = p.length := by rw [List.length_set]; exact hl'
      have e1 : bits .xor .u8 (l'[k].toNat : Int) 255 = ((l'[k] ^^^ 255).toNat : Int) := by
        rw [UInt8.toNat_xor]; exact u8_xor_nat _ 255 (UInt8.toNat_lt _) (by omega)
      have hby := l'[k].toNat_lt
      have HST := Lib.hid (⟨k + 1, _, by omega, rfl, hlen2, hst⟩ : ∃ (k2 : Nat) (l2 : List UInt8), k2 ≤ p.length ∧ Value.int .i64 ((k + 1 : Nat) : Int) = .int .i64 (k2 : Int) ∧ l2.length = p.length ∧ Own w0 (World.setCell wr ⟨g, k, none⟩ (.int .u8 ((l'[k] ^^^ 255).toNat : Int))) (rBytes w0.heap.size (.slice (some ⟨g, 0, none⟩) p.length c1) l2 :: rDisk w0.heap.size d m2 :: rRef w0.heap.size r m :: rObj w0.heap.size w.heap.size (.cells #[.int .i64 1, .string x, .string y, .slice pa p.length pc, .int .i64 i, .int .i64 j] 66) :: rs))
      generalize l'[k] ^^^ 255 = yb at e1 HST
      generalize l'[k].toNat = xb at hcq e1 hby
      have j5 : (xb : Int) < 256 := by omega
      have j6 : (0 : Int) ≤ xb := by omega
      have HKL := Lib.hid hkl
      clear ho hst hby hkl hk hl' hlen2 hkl' HO2 HP HT HSA
      go_wp2_with fail
      go_roundw
      case rel => exact HST.out
      case measure => have := HKL.out; simp [intOf]; omega
    · obtain rfl : k = p.length := by omega
      have ho2 := ho.drop
      obtain ⟨-, b1, -, b3, -, -⟩ := op_cells (ho2.at (b := w.heap.size) mem2).1
      have hst := ho2.swap.rstep HT.out hn htt ⟨1, x, ⟨#[]⟩, p⟩ ⟨by simp, by simp⟩ (fun e => absurd rfl e) (pv := .slice pa p.length pc) (fun F w' h1 h2 => old_reads HP.out ho2.keeps F w' h1 h2)
      rw [HSA.out] at hst
      have HST := Lib.hid hst
      clear ho ho2 hst HO2 HP HT HSA
      go_wp2_with fail
      refine HST.out.mono ?_
      rintro e w3 ⟨rfl, ho3⟩
      have HO := Lib.hid ho3.swap.unbox
      clear ho3 HST
      simp only at HO ⊢
      go_wp2_with fail
      go_ret
      exact ⟨rfl, HO.out⟩
end
end Go.Proofs.YtaeabdghlkdkjaaGreat
