/- A part of the proof. -/
import Derived.Test.YtlcnhpjggjgnpaaGreatDoorUlaa6
import Derived.Test.YtlcnhpjggjgnpaaGreatDoorUlaa7
import Derived.Test.YtlcnhpjggjgnpaaGreatDoorUlaa8
import Derived.Test.YtlcnhpjggjgnpaaGreatDoorUlab0
import Derived.Test.YtlcnhpjggjgnpaaGreatDoorUlab3
import Derived.StillTailTactics
import Derived.Deep.RegionHeld3
import Derived.Deep.MidRow
import Derived.Defers
namespace Go.Proofs.YtlcnhpjggjgnpaaGreatDoor
set_option linter.unusedVariables false
open Go.RowKit Go.MapKept
def tmpB : ByteArray := ⟨#[98, 43]⟩
def fileOf (dg : List UInt8) : ByteArray := ⟨#[98, 47]⟩ ++ ⟨(hexOf dg).toArray⟩
theorem fileOf_size (dg : List UInt8) (h : dg.length = 32) : (fileOf dg).size = 66 := by
 rw [fileOf, ByteArray.size_append]
 show 2 + (hexOf dg).toArray.size = 66
 rw [List.size_toArray, hexOf_length, h]
theorem agg_reads {w : World} {b : Nat} {dg : List UInt8} (h : w.heap[b]? = some (.cells (dg.map u8v).toArray 39)) (hl : dg.length = 32) : Reads w (.slice (some ⟨b, 0, none⟩) 32 32) dg := by
 refine .inr ⟨⟨b, 0, none⟩, 32, by rw [hl], by omega, by simp [maxLen], fun j u hu => ?_⟩
 rw [Addr.add_lit, Nat.zero_add]
 exact cell_at h (by rw [List.getElem?_toArray]; exact hu)
set_option maxRecDepth 100000 in
theorem file_calls (w : World) (dg : List UInt8) (hl : dg.length = 32) : Calls Tryz.prog 56 #[.agg (dg.map u8v).toArray] w (QuietP w (.string (fileOf dg))) := by
 obtain ⟨ds, hds⟩ : ∃ ds : Array Value, ds = (dg.map u8v).toArray := ⟨_, rfl⟩
 have hx := hex_calls (w := w.alloc (.cells ds 39)) (v := .slice (some ⟨w.heap.size, 0, none⟩) 32 32) (l := dg) (agg_reads (by rw [hds]; exact heap_alloc_new w _) hl) (by omega)
 have hsl := fun W => dall_run W w.heap.size
 have hadd := fun W => run_string_add_sum (P := Tryz.prog) W ⟨#[98, 47]⟩ ⟨(hexOf dg).toArray⟩ (by show 2 + (hexOf dg).toArray.size ≤ _; rw [List.size_toArray, hexOf_length]; omega)
 rw [← hds]
 have HX := Lib.hid hx
 have hk1 : Keeps (fun _ => False) w (w.alloc (.cells ds 39)) := (Keeps.refl _ w).alloc _
 have HK1 := Lib.hid hk1
 have hfe : fileOf dg = ⟨#[98, 47]⟩ ++ ⟨(hexOf dg).toArray⟩ := rfl
 rw [hfe]
 generalize (⟨(hexOf dg).toArray⟩ : ByteArray) = hs at HX hadd ⊢
 clear hx hk1 hds hl hfe
 go_enter Tryz.func56, Tryz.ntmps56
 go_wp2_with fail
 refine HX.out.mono ?_
 rintro e w2 ⟨rfl, hk2⟩
 have HK2 := Lib.hid (HK1.out.trans hk2 (fun _ _ e => e))
 clear hk2 HK1 HX
 go_wp2_with fail
 go_ret
 exact ⟨rfl, HK2.out⟩
end Go.Proofs.YtlcnhpjggjgnpaaGreatDoor
namespace Go.Proofs.YtlcnhpjggjgnpaaGreatDoor
set_option linter.unusedVariables false
set_option linter.unusedSimpArgs false
open Go.RowKit Go.MapKept
section
variable {w wr : World} {d st : Nat} {m : DM} {rs : List (Res w.heap.size)}
def stObj1 (d : Nat) : Obj := .cells #[.pointer (some ⟨d, 0, none⟩)] 128
def AskS (st d b : Nat) (cl : List Value) (w' : World) : Prop := w'.cell? ⟨st, 0, none⟩ = some (.pointer (some ⟨d, 0, none⟩)) ∧ w'.rangeAt b 0 cl
theorem askS (h : Own w wr (rDisk w.heap.size d m :: rs)) (hst : rObj w.heap.size st (.cells #[.pointer (some ⟨d, 0, none⟩)] 128) ∈ rs) (cl : List Value) :
  ∀ w1, Keeps (fun _ => False) (wr.alloc (.cells cl.toArray 39)).drew w1 → AskS st d wr.heap.size cl w1 ∧ Own w w1 (rDisk w.heap.size d m :: rs) := fun w1 hk => by
 have h0 : Own w wr.drew (rDisk w.heap.size d m :: rs) := h.drew
 have h1 : Own w w1 (rObj w.heap.size wr.heap.size (.cells cl.toArray 39) :: rDisk w.heap.size d m :: rs) := (h.alloc (.cells cl.toArray 39)).drew.quiet hk
 refine ⟨⟨cell_at (i := 0) (h1.at (b := st) (o := .cells #[.pointer (some ⟨d, 0, none⟩)] 128) (by simp [hst])).1 rfl, fun k v hv => ?_⟩, h1.drop⟩
 rw [Nat.zero_add]
 exact cell_at (h1.at (List.mem_cons_self ..)).1 (by rw [List.getElem?_toArray]; exact hv)
set_option maxRecDepth 100000 in
set_option maxHeartbeats 1000000 in
theorem bsize_calls (h : Own w wr (rDisk w.heap.size d m :: rs)) (hst : rObj w.heap.size st (.cells #[.pointer (some ⟨d, 0, none⟩)] 128) ∈ rs) {dg : List UInt8} (hl : dg.length = 32) :
  Calls Tryz.prog 75 #[.pointer (some ⟨st, 0, none⟩), .agg (dg.map u8v).toArray] wr fun e w' => e = .returned (.tuple #[.int .i64 (sizeCode m (fileOf dg)), .int .i64 (thereOf m (fileOf dg))]) ∧ Keeps (fun _ => False) wr w' := by
 have hfile := fun W => file_calls W dg hl
 obtain ⟨cl, hcl⟩ : ∃ cl : List Value, cl = dg.map u8v := ⟨_, rfl⟩
 have hinfo : (Tryz.prog.info? 39).map (·.size) = some cl.length := by rw [hcl, List.length_map, hl]; kernel_rfl
 have hund := Tryz.underlying39
 rw [← hcl] at hfile ⊢
 have hask := askS h hst cl
 have hsz : ∀ w1, Keeps (fun _ => False) (wr.alloc (.cells cl.toArray 39)).drew w1 → Runs 57 #[.pointer (some ⟨d, 0, none⟩), .string (fileOf dg)] w1 (.tuple #[.int .i64 (sizeCode m (fileOf dg)), .int .i64 (thereOf m (fileOf dg))]) w1 := fun w1 hk => (hask w1 hk).2.size _
 have hk0 : Keeps (fun _ => False) wr (wr.alloc (.cells cl.toArray 39)).drew := ((Keeps.refl _ wr).alloc _).drew
 have HC := Lib.hid (fun w1 hk => (hask w1 hk).1)
 have HF := Lib.hid hfile
 have HZ := Lib.hid hsz
 have HK0 := Lib.hid hk0
 generalize fileOf dg = nm at HF HZ ⊢
 clear h hst hfile hask hsz hcl hl hk0
 go_enter Tryz.func75, Tryz.ntmps75
 go_wp2_with fail
 go_region_held3 (fun w' => w'.cell? ⟨st, 0, none⟩ = some (.pointer (some ⟨d, 0, none⟩)) ∧ w'.rangeAt wr.heap.size 0 cl) (first | exact HC.out _ (Keeps.refl _ _) | exact HC.out _ hk1 | go_keep) (first | (go_at_call 56; refine (HF.out _).mono ?_; rintro e w1 ⟨rfl, hk1⟩) | (go_at_call 57; refine (HZ.out _ hk1).out.mono ?_; rintro e w' ⟨rfl, rfl⟩))
 all_goals
  have HK1 := Lib.hid (HK0.out.trans hk1 (fun _ _ e => e))
  clear hk1
  go_wp2_with fail
  go_ret2
  exact ⟨rfl, HK1.out⟩
set_option maxRecDepth 100000 in
set_option maxHeartbeats 1000000 in
theorem bread_calls (h : Own w wr (rDisk w.heap.size d m :: rs)) (hst : rObj w.heap.size st (.cells #[.pointer (some ⟨d, 0, none⟩)] 128) ∈ rs) {dg : List UInt8} (hl : dg.length = 32) (at_ k : Int) {n : Nat} (hg : Good m n) :
  Calls Tryz.prog 14 #[.pointer (some ⟨st, 0, none⟩), .agg (dg.map u8v).toArray, .int .i64 at_, .int .i64 k] wr fun e w' => ∃ v, e = .returned (.tuple #[v, .int .i64 (readCode m (fileOf dg) at_ k)]) ∧ Reads w' v (readBytes m (fileOf dg) at_ k) ∧ Keeps (fun _ => False) wr w' := by
 have hfile := fun W => file_calls W dg hl
 obtain ⟨cl, hcl⟩ : ∃ cl : List Value, cl = dg.map u8v := ⟨_, rfl⟩
 have hinfo : (Tryz.prog.info? 39).map (·.size) = some cl.length := by rw [hcl, List.length_map, hl]; kernel_rfl
 have hund := Tryz.underlying39
 rw [← hcl] at hfile ⊢
 have hask := askS h hst cl
 have hrd : ∀ w1, Keeps (fun _ => False) (wr.alloc (.cells cl.toArray 39)).drew w1 → ∃ a c w2, Runs 55 #[.pointer (some ⟨d, 0, none⟩), .string (fileOf dg), .int .i64 at_, .int .i64 k] w1 (.tuple #[.slice a (readBytes m (fileOf dg) at_ k).length c, .int .i64 (readCode m (fileOf dg) at_ k)]) w2 ∧ Reads w2 (.slice a (readBytes m (fileOf dg) at_ k).length c) (readBytes m (fileOf dg) at_ k) ∧ Keeps (fun _ => False) (wr.alloc (.cells cl.toArray 39)).drew w2 := fun w1 hk => by
  obtain ⟨v2, w2, hr, hB, hk2, h2⟩ := (hask w1 hk).2.read (fileOf dg) at_ k (by have := hg.get (fileOf dg); omega)
  obtain ⟨a, c, rfl, _, _⟩ := hB.form
  exact ⟨a, c, w2, hr, hB.reads, hk.trans hk2 (fun _ _ e => e)⟩
 have hk0 : Keeps (fun _ => False) wr (wr.alloc (.cells cl.toArray 39)).drew := ((Keeps.refl _ wr).alloc _).drew
 have HC := Lib.hid (fun w1 hk => (hask w1 hk).1)
 have HF := Lib.hid hfile
 have HZ := Lib.hid hrd
 have HK0 := Lib.hid hk0
 generalize fileOf dg = nm at HF HZ ⊢
 generalize readBytes m nm at_ k = rb at HZ ⊢
 clear h hst hfile hask hrd hcl hl hk0 hg
 go_enter Tryz.func14, Tryz.ntmps14
 go_wp2_with fail
 go_region_held3 (fun w' => w'.cell? ⟨st, 0, none⟩ = some (.pointer (some ⟨d, 0, none⟩)) ∧ w'.rangeAt wr.heap.size 0 cl) (first | exact HC.out _ (Keeps.refl _ _) | exact HC.out _ hk2 | exact HC.out _ hk1 | go_keep) (first | (go_at_call 56; refine (HF.out _).mono ?_; rintro e w1 ⟨rfl, hk1⟩) | (go_at_call 55; obtain ⟨ra, rc, w2, hrun, hrds, hk2⟩ := HZ.out _ hk1; refine hrun.out.mono ?_; rintro e w' ⟨rfl, rfl⟩))
 all_goals
  have HK2 := Lib.hid (HK0.out.trans hk2 (fun _ _ e => e))
  have HRD := Lib.hid hrds
  clear hk1 hk2 hrds hrun
  go_wp2_with fail
  go_ret2
  exact ⟨_, rfl, HRD.out, HK2.out⟩
end
end Go.Proofs.YtlcnhpjggjgnpaaGreatDoor
namespace Go.Proofs.YtlcnhpjggjgnpaaGreatDoor
set_option linter.unusedVariables false
set_option linter.unusedSimpArgs false
open Go.RowKit Go.MapKept
def bNewOf (m : DM) : Int × DM :=
 if thereOf m tmpB = 6 then (0, m)
 else if thereOf m tmpB = 0 then (if (removeOf m tmpB).1 = 0 then syncOf (removeOf m tmpB).2 else removeOf m tmpB) else (thereOf m tmpB, m)
section
variable {w wr : World} {d st : Nat} {m : DM} {rs : List (Res w.heap.size)}
def BNewPost (w : World) (d : Nat) (rs : List (Res w.heap.size)) (r : Int × DM) (e : Ending) (w' : World) : Prop :=
 (¬ r.1 = 0 ∧ e = .returned (.tuple #[.pointer none, .int .i64 r.1]) ∧ Own w w' (rDisk w.heap.size d r.2 :: rs)) ∨
 (r.1 = 0 ∧ ∃ st, e = .returned (.tuple #[.pointer (some ⟨st, 0, none⟩), .int .i64 0]) ∧ Own w w' (rDisk w.heap.size d r.2 :: rObj w.heap.size st (.cells #[.pointer (some ⟨d, 0, none⟩)] 128) :: rs))
theorem BNewPost.ok {r : Int × DM} (hr : r.1 = 0) (h : Own w wr (rDisk w.heap.size d r.2 :: rs)) : BNewPost w d rs r (.returned (.tuple #[.pointer (some ⟨wr.heap.size, 0, none⟩), .int .i64 0])) (wr.alloc (.cells #[.pointer (some ⟨d, 0, none⟩)] 128)) :=
 .inr ⟨hr, _, rfl, h.alloc2 _⟩
set_option maxRecDepth 100000 in
set_option maxHeartbeats 1000000 in
theorem bnew_calls (h : Own w wr (rDisk w.heap.size d m :: rs)) {n : Nat} (hg : Good m n) (hn : n < 1099511627776) :
  Calls Tryz.prog 18 #[.pointer (some ⟨d, 0, none⟩)] wr (BNewPost w d rs (bNewOf m)) := by
 have hs := h.size tmpB
 obtain ⟨w1, hr, h1⟩ := h.remove tmpB hg.fuse (hg.loose hn)
 have hg1 := hg.remove tmpB
 have hbn : ∃ r, r = bNewOf m := ⟨_, rfl⟩
 obtain ⟨r, hrr⟩ := hbn
 rw [← hrr]
 unfold bNewOf at hrr
 generalize sizeCode m tmpB = sc at hs
 generalize removeOf m tmpB = q at hr h1 hg1 hrr
 obtain ⟨qc, qm⟩ := q
 simp only at hr h1 hg1 hrr
 have hsy := h1.sync hg1.fuse hg1.fits1
 generalize thereOf m tmpB = t at hs hrr
 unfold tmpB at hs hr
 have H := Lib.hid h
 have H1 := Lib.hid h1
 have HSY := Lib.hid hsy
 by_cases h6 : t = 6
 ·subst h6
  simp only [if_true] at hrr
  have HE := Lib.hid hrr
  clear h h1 hg hg1 hsy hrr hr H1 HSY hn
  go_enter Tryz.func18, Tryz.ntmps18
  go_wp2_with fail
  refine hs.out.mono ?_; rintro e w' ⟨rfl, rfl⟩
  go_wp2_with fail
  go_ret2
  rw [HE.out]
  exact BNewPost.ok rfl H.out
 ·simp only [h6, if_false] at hrr
  have hb6 : (t != 6) = true := by simpa using h6
  by_cases h0 : t = 0
  ·subst h0
   simp only [if_true] at hrr
   by_cases hq : qc = 0
   ·subst hq
    simp only [if_true] at hrr
    have HE := Lib.hid hrr
    generalize syncOf qm = s at HSY HE
    obtain ⟨sc', sm⟩ := s
    clear h h1 hg hg1 hsy hrr hn h6
    go_enter Tryz.func18, Tryz.ntmps18
    go_wp2_with fail
    refine hs.out.mono ?_; rintro e w' ⟨rfl, rfl⟩
    go_wp2_with fail
    refine hr.out.mono ?_; rintro e w' ⟨rfl, rfl⟩
    go_wp2_with fail
    refine HSY.out.mono ?_; rintro e w' ⟨rfl, h2⟩
    have H2 := Lib.hid h2
    clear h2 HSY H1 H hs hr
    by_cases hs0 : sc' = 0
    ·subst hs0
     go_wp2_with fail
     go_ret2
     rw [HE.out]
     exact BNewPost.ok rfl H2.out
    ·have hb0 : (sc' != 0) = true := by simpa using hs0
     have HS0 := Lib.hid hs0
     clear hs0
     go_wp2_with fail
     go_ret2
     rw [HE.out]
     exact .inl ⟨HS0.out, rfl, H2.out⟩
   ·simp only [hq, if_false] at hrr
    have HE := Lib.hid hrr
    have hbq : (qc != 0) = true := by simpa using hq
    have hbq2 : (qc == 0) = false := by simpa using hq
    have HQ := Lib.hid hq
    clear h h1 hg hg1 hsy hrr hn h6 HSY hq
    go_enter Tryz.func18, Tryz.ntmps18
    go_wp2_with fail
    refine hs.out.mono ?_; rintro e w' ⟨rfl, rfl⟩
    go_wp2_with fail
    refine hr.out.mono ?_; rintro e w' ⟨rfl, rfl⟩
    go_wp2_with fail
    go_ret2
    rw [HE.out]
    exact .inl ⟨HQ.out, rfl, H1.out⟩
  ·simp only [h0, if_false] at hrr
   have HE := Lib.hid hrr
   have hbq : (t != 0) = true := by simpa using h0
   have hbq2 : (t == 0) = false := by simpa using h0
   have HQ := Lib.hid h0
   clear h h1 hg hg1 hsy hrr hn h6 HSY h0 hr H1
   go_enter Tryz.func18, Tryz.ntmps18
   go_wp2_with fail
   refine hs.out.mono ?_; rintro e w' ⟨rfl, rfl⟩
   go_wp2_with fail
   go_ret2
   rw [HE.out]
   exact .inl ⟨HQ.out, rfl, H.out⟩
end
end Go.Proofs.YtlcnhpjggjgnpaaGreatDoor
namespace Go.Proofs.YtlcnhpjggjgnpaaGreatDoor
set_option linter.unusedVariables false
set_option linter.unusedSimpArgs false
open Go.RowKit Go.MapKept
def contOf (m : DM) (n : ByteArray) : List UInt8 := (fget m.now n).getD []
def wholeOf (m : DM) (dg : List UInt8) : Bool := decide (thereOf m (fileOf dg) = 0) && decide (sumOf (contOf m (fileOf dg)) = dg)
section
variable {w wr : World} {d st : Nat} {m : DM} {rs : List (Res w.heap.size)}
set_option maxRecDepth 100000 in
set_option maxHeartbeats 1000000 in
theorem bwhole_calls (h : Own w wr (rDisk w.heap.size d m :: rs)) (hst : rObj w.heap.size st (.cells #[.pointer (some ⟨d, 0, none⟩)] 128) ∈ rs) {n : Nat} (hg : Good m n) {dg : List UInt8} (hl : dg.length = 32) :
  Calls Tryz.prog 28 #[.pointer (some ⟨st, 0, none⟩), .agg (dg.map u8v).toArray] wr (QuietP wr (.bool (wholeOf m dg))) := by
 obtain ⟨cl, hcl⟩ : ∃ cl : List Value, cl = dg.map u8v := ⟨_, rfl⟩
 have hdz : cl.toArray.size = 32 := by rw [hcl]; simp [hl]
 have hinfo : (Tryz.prog.info? 39).map (·.size) = some cl.length := by rw [hcl, List.length_map, hl]; kernel_rfl
 have hund := Tryz.underlying39
 have h1 := h.alloc2 (.cells cl.toArray 39)
 have hsz := bsize_calls h1 (st := st) (by simp [hst]) hl
 rw [← hcl] at hsz ⊢
 obtain ⟨R, hR⟩ : ∃ R, R = wholeOf m dg := ⟨_, rfl⟩
 rw [← hR]
 have hk1 : Keeps (fun _ => False) wr (wr.alloc (.cells cl.toArray 39)) := (Keeps.refl _ wr).alloc _
 have hb := heap_alloc_new wr (.cells cl.toArray 39)
 have HK1 := Lib.hid hk1
 have HB := Lib.hid hb
 have HSZ := Lib.hid hsz
 have HI := Lib.hid (dig_info hdz)
 have hg2 := hg.get (fileOf dg)
 obtain ⟨tt, htt⟩ : ∃ tt, tt = thereOf m (fileOf dg) := ⟨_, rfl⟩
 have hrds := fun (W : World) (hk : Keeps (fun _ => False) (wr.alloc (.cells cl.toArray 39)) W) => bread_calls (h1.quiet hk) (st := st) (by simp [hst]) hl 0 (sizeCode m (fileOf dg)) hg
 by_cases h0 : thereOf m (fileOf dg) = 0
 ·have hsc : sizeCode m (fileOf dg) = ((contOf m (fileOf dg)).length : Int) := by unfold sizeCode; rw [if_pos h0]; rfl
  have hrc : readCode m (fileOf dg) 0 (sizeCode m (fileOf dg)) = 0 := by unfold readCode; rw [if_pos h0, if_neg (by rw [hsc]; omega)]
  have hrb : readBytes m (fileOf dg) 0 (sizeCode m (fileOf dg)) = contOf m (fileOf dg) := by unfold readBytes; rw [if_pos h0, if_neg (by rw [hsc]; omega), hsc]; exact open_piece _
  have hRe : R = decide (sumOf (contOf m (fileOf dg)) = dg) := by rw [hR, wholeOf, h0]; simp
  rw [h0] at HSZ
  rw [hrc, hrb, ← hcl] at hrds
  have hcl2 : (contOf m (fileOf dg)).length ≤ 67108864 := hg2
  generalize sizeCode m (fileOf dg) = sc at HSZ hrds
  generalize contOf m (fileOf dg) = C at hrds hRe hcl2
  have HRD := Lib.hid hrds
  have HRE := Lib.hid hRe
  have HCL := Lib.hid hcl
  have HC2 := Lib.hid hcl2
  have HL := Lib.hid hl
  clear h h1 hst hg hsz hk1 hb hrds hRe hcl hR htt h0 hsc hrc hrb hg2 hdz hcl2 hl
  go_enter Tryz.func28, Tryz.ntmps28
  go_wp2_with (first | (refine wpList_load_row rfl 39 _ rfl wr.heap.size rfl 39 cl.toArray (0, 0) _ HB.out Tryz.underlying39 rfl HI.out ?_))
  refine HSZ.out.mono ?_
  rintro e w2 ⟨rfl, hk2⟩
  have hb2 := hk2.at HB.out (fun e => e)
  have HB2 := Lib.hid hb2
  have HR2 := Lib.hid (HRD.out w2 hk2)
  have HK2 := Lib.hid (HK1.out.trans hk2 (fun _ _ e => e))
  clear hb2 hk2 HSZ HRD
  go_wp2_with (first | (refine wpList_load_row rfl 39 _ rfl wr.heap.size rfl 39 cl.toArray (0, 0) _ HB2.out Tryz.underlying39 rfl HI.out ?_))
  refine HR2.out.mono ?_
  rintro e w3 ⟨v, rfl, hrd, hk3⟩
  have hb3 := hk3.at HB2.out (fun e => e)
  obtain ⟨ra, rc, rfl, _, _⟩ := hrd.form
  have hsum := fun (W : World) (hk : Keeps (fun _ => False) w3 W) => sum_calls (hrd.keep hk) (by have := HC2.out; omega)
  have hck : ∀ W, Keeps (fun _ => False) w3.drew W → W.rangeAt wr.heap.size 0 cl := fun W hk k v hv => by
   rw [Nat.zero_add]
   exact cell_at (hk.at (w := w3.drew) hb3 (fun e => e)) (by rw [List.getElem?_toArray]; exact hv)
  have HS := Lib.hid (hsum w3.drew ((Keeps.refl _ w3).drew))
  have HCK := Lib.hid hck
  have HK3 := Lib.hid (HK2.out.trans hk3 (fun _ _ e => e))
  clear hb3 hk3 hrd hsum hck HR2 HB2 HB
  have heq := fun W => dig_eq (sumOf C) dg (sumOf_length C) HL.out W
  rw [← HCL.out] at heq
  generalize C.length = clen at HS ⊢
  go_wp2_with fail
  go_region_held3 (fun w' => w'.rangeAt wr.heap.size 0 cl) (first | exact HCK.out _ (Keeps.refl _ _) | exact HCK.out _ hk4 | go_keep) (first | (go_at_call 11; refine HS.out.mono ?_; rintro e w4 ⟨rfl, hk4⟩))
  all_goals
   have HK4 := Lib.hid (HK3.out.trans hk4.undrew (fun _ _ e => e))
   clear hk4
   go_wp2_with fail
   go_ret
   exact ⟨by rw [HRE.out]; rfl, HK4.out⟩
 ·have hRe : R = false := by rw [hR, wholeOf, decide_eq_false h0]; rfl
  have hb0 : (thereOf m (fileOf dg) != 0) = true := by simpa using h0
  generalize sizeCode m (fileOf dg) = sc at HSZ
  generalize thereOf m (fileOf dg) = t at HSZ hb0
  have HRE := Lib.hid hRe
  clear h h1 hst hg hsz hk1 hb hrds hRe hcl hR htt h0 hg2 hdz hl
  go_enter Tryz.func28, Tryz.ntmps28
  go_wp2_with (first | (refine wpList_load_row rfl 39 _ rfl wr.heap.size rfl 39 cl.toArray (0, 0) _ HB.out Tryz.underlying39 rfl HI.out ?_))
  refine HSZ.out.mono ?_
  rintro e w2 ⟨rfl, hk2⟩
  have HK2 := Lib.hid (HK1.out.trans hk2 (fun _ _ e => e))
  clear hk2 HSZ
  go_wp2_with fail
  go_ret
  exact ⟨by rw [HRE.out]; rfl, HK2.out⟩
end
end Go.Proofs.YtlcnhpjggjgnpaaGreatDoor
namespace Go.Proofs.YtlcnhpjggjgnpaaGreatDoor
set_option linter.unusedVariables false
set_option linter.unusedSimpArgs false
open Go.RowKit Go.MapKept
section
variable {w wr : World} {d st : Nat} {m : DM} {rs : List (Res w.heap.size)}
theorem askT (h : Own w wr (rDisk w.heap.size d m :: rs)) (hst : rObj w.heap.size st (.cells #[.pointer (some ⟨d, 0, none⟩)] 128) ∈ rs) (cl : List Value) :
  ∀ w1, Keeps (fun _ => False) (wr.alloc (.cells cl.toArray 39)) w1 → AskS st d wr.heap.size cl w1 ∧ Own w w1 (rDisk w.heap.size d m :: rs) := fun w1 hk => by
 have h1 : Own w w1 (rObj w.heap.size wr.heap.size (.cells cl.toArray 39) :: rDisk w.heap.size d m :: rs) := (h.alloc (.cells cl.toArray 39)).quiet hk
 refine ⟨⟨cell_at (i := 0) (h1.at (b := st) (o := .cells #[.pointer (some ⟨d, 0, none⟩)] 128) (by simp [hst])).1 rfl, fun k v hv => ?_⟩, h1.drop⟩
 rw [Nat.zero_add]
 exact cell_at (h1.at (List.mem_cons_self ..)).1 (by rw [List.getElem?_toArray]; exact hv)
set_option maxRecDepth 100000 in
set_option maxHeartbeats 1000000 in
theorem badopt_none (h : Own w wr (rDisk w.heap.size d m :: rs)) (hst : rObj w.heap.size st (.cells #[.pointer (some ⟨d, 0, none⟩)] 128) ∈ rs) (nm : ByteArray) (dg : List UInt8) (h0 : ¬ thereOf m nm = 0) :
  Calls Tryz.prog 115 #[.pointer (some ⟨st, 0, none⟩), .string nm, .agg (dg.map u8v).toArray] wr (QuietP wr (.int .i64 (thereOf m nm))) := by
 obtain ⟨cl, hcl⟩ : ∃ cl : List Value, cl = dg.map u8v := ⟨_, rfl⟩
 rw [← hcl]
 obtain ⟨⟨hc, _⟩, ho⟩ := askT h hst cl _ (Keeps.refl _ _)
 have HZ := Lib.hid (ho.size nm)
 have HK := Lib.hid ((Keeps.refl (fun _ => False) wr).alloc (.cells cl.toArray 39))
 have hb0 : (thereOf m nm != 0) = true := by simpa using h0
 generalize sizeCode m nm = sc at HZ
 generalize thereOf m nm = t at HZ hb0 ⊢
 clear h hst ho h0 hcl
 go_enter Tryz.func115, Tryz.ntmps115
 go_wp2_with fail
 refine HZ.out.out.mono ?_
 rintro e w' ⟨rfl, rfl⟩
 go_wp2_with fail
 go_ret
 exact ⟨rfl, HK.out⟩
theorem adopt_read (h : Own w wr (rDisk w.heap.size d m :: rs)) (hst : rObj w.heap.size st (.cells #[.pointer (some ⟨d, 0, none⟩)] 128) ∈ rs) {n : Nat} (hg : Good m n) (nm : ByteArray) (cl : List Value) (h0 : thereOf m nm = 0) :
  ∃ a c w2, Runs 55 #[.pointer (some ⟨d, 0, none⟩), .string nm, .int .i64 0, .int .i64 (sizeCode m nm)] (wr.alloc (.cells cl.toArray 39)) (.tuple #[.slice a (contOf m nm).length c, .int .i64 0]) w2 ∧ Keeps (fun _ => False) (wr.alloc (.cells cl.toArray 39)) w2 ∧
   ∀ W, Keeps (fun _ => False) w2 W → Calls Tryz.prog 11 #[.slice a (contOf m nm).length c] W (QuietP W (.agg ((sumOf (contOf m nm)).map u8v).toArray)) := by
 have hsc : sizeCode m nm = ((contOf m nm).length : Int) := by unfold sizeCode; rw [if_pos h0]; rfl
 have hrc : readCode m nm 0 (sizeCode m nm) = 0 := by unfold readCode; rw [if_pos h0, if_neg (by rw [hsc]; omega)]
 have hrb : readBytes m nm 0 (sizeCode m nm) = contOf m nm := by unfold readBytes; rw [if_pos h0, if_neg (by rw [hsc]; omega), hsc]; exact open_piece _
 have hl2 : (contOf m nm).length ≤ 67108864 := hg.get nm
 obtain ⟨_, ho⟩ := askT h hst cl _ (Keeps.refl _ _)
 obtain ⟨v, w2, hr, hB, hk, _⟩ := ho.read nm 0 (sizeCode m nm) (by have := hg.get nm; omega)
 rw [hrc] at hr
 rw [hrb] at hB
 obtain ⟨a, c, rfl, _, _⟩ := hB.form
 exact ⟨a, c, w2, hr, hk, fun W hkW => sum_calls (hB.reads.keep hkW) (by omega)⟩
set_option maxRecDepth 100000 in
set_option maxHeartbeats 1000000 in
theorem badopt_other (h : Own w wr (rDisk w.heap.size d m :: rs)) (hst : rObj w.heap.size st (.cells #[.pointer (some ⟨d, 0, none⟩)] 128) ∈ rs) {n : Nat} (hg : Good m n) (nm : ByteArray) (dg : List UInt8) (hl : dg.length = 32) (h0 : thereOf m nm = 0) (hne : ¬ sumOf (contOf m nm) = dg) :
  Calls Tryz.prog 115 #[.pointer (some ⟨st, 0, none⟩), .string nm, .agg (dg.map u8v).toArray] wr (QuietP wr (.int .i64 20)) := by
 obtain ⟨cl, hcl⟩ : ∃ cl : List Value, cl = dg.map u8v := ⟨_, rfl⟩
 have hund := Tryz.underlying39
 have hinfo : (Tryz.prog.info? 39).map (·.size) = some cl.length := by rw [hcl, List.length_map, hl]; kernel_rfl
 have heq := fun W => dig_eq (sumOf (contOf m nm)) dg (sumOf_length _) hl W
 rw [decide_eq_false hne, ← hcl] at heq
 rw [← hcl]
 obtain ⟨⟨hc, _⟩, ho⟩ := askT h hst cl _ (Keeps.refl _ _)
 have hz := ho.size nm
 rw [h0] at hz
 obtain ⟨a, c, w2, hr, hk, hs⟩ := adopt_read h hst hg nm cl h0
 have hask := fun W hkW => (askT h hst cl W hkW).1
 have hc2 := (hask w2 hk).1
 obtain ⟨sm, hsm⟩ : ∃ sm : List Value, sm = (sumOf (contOf m nm)).map u8v := ⟨_, rfl⟩
 rw [← hsm] at hs heq
 have HZ := Lib.hid hz
 have HR := Lib.hid hr
 have HS := Lib.hid (hs w2.drew ((Keeps.refl _ w2).drew))
 have HC := Lib.hid (fun (W : World) (hkW : Keeps (fun _ => False) w2.drew W) => (hask W (hk.trans (((Keeps.refl _ w2).drew).trans hkW (fun _ _ e => e)) (fun _ _ e => e))).2)
 have HK := Lib.hid ((((Keeps.refl (fun _ => False) wr).alloc (.cells cl.toArray 39)).trans hk (fun _ _ e => e)).drew)
 generalize (contOf m nm).length = n2 at HR HS
 generalize sizeCode m nm = sc at HZ HR
 clear h hst ho h0 hcl hg hne hz hr hk hs hask hsm hl
 go_enter Tryz.func115, Tryz.ntmps115
 go_wp2_with fail
 refine HZ.out.out.mono ?_
 rintro e w' ⟨rfl, rfl⟩
 go_wp2_with fail
 refine HR.out.out.mono ?_
 rintro e w' ⟨rfl, rfl⟩
 go_wp2_with fail
 go_region_held3 (fun w' => w'.rangeAt wr.heap.size 0 cl) (first | exact HC.out _ (Keeps.refl _ _) | exact HC.out _ hk4 | go_keep) (first | (go_at_call 11; refine HS.out.mono ?_; rintro e w4 ⟨rfl, hk4⟩))
 all_goals
  have HK4 := Lib.hid (HK.out.trans hk4 (fun _ _ e => e))
  clear hk4
  go_wp2_with fail
  go_ret
  exact ⟨rfl, HK4.out⟩
end
end Go.Proofs.YtlcnhpjggjgnpaaGreatDoor
namespace Go.Proofs.YtlcnhpjggjgnpaaGreatDoor
set_option linter.unusedVariables false
set_option linter.unusedSimpArgs false
open Go.RowKit Go.MapKept
section
variable {w wr : World} {d st : Nat} {m : DM} {rs : List (Res w.heap.size)}
set_option maxRecDepth 100000 in
set_option maxHeartbeats 1000000 in
theorem badopt_there (h : Own w wr (rDisk w.heap.size d m :: rs)) (hst : rObj w.heap.size st (.cells #[.pointer (some ⟨d, 0, none⟩)] 128) ∈ rs) {n : Nat} (hg : Good m n) (hn : n + 10 < 1099511627776) (nm : ByteArray) (dg : List UInt8) (hl : dg.length = 32) (h0 : thereOf m nm = 0) (he : sumOf (contOf m nm) = dg) (ht : thereOf m (fileOf dg) = 0) (hx : (removeOf m nm).1 = 0) :
  Calls Tryz.prog 115 #[.pointer (some ⟨st, 0, none⟩), .string nm, .agg (dg.map u8v).toArray] wr (DOwn w d rs (syncOf (removeOf m nm).2)) := by
 obtain ⟨cl, hcl⟩ : ∃ cl : List Value, cl = dg.map u8v := ⟨_, rfl⟩
 have hund := Tryz.underlying39
 have hinfo : (Tryz.prog.info? 39).map (·.size) = some cl.length := by rw [hcl, List.length_map, hl]; kernel_rfl
 have heq := fun W => dig_eq dg dg hl hl W
 rw [decide_eq_true rfl, ← hcl] at heq
 have hfile := fun W => file_calls W dg hl
 rw [← hcl] at hfile ⊢
 have hA := h.alloc2 (.cells cl.toArray 39)
 have hask : ∀ W, Own w W (rDisk w.heap.size d m :: rObj w.heap.size wr.heap.size (.cells cl.toArray 39) :: rs) → AskS st d wr.heap.size cl W := fun W ho => by
  refine ⟨cell_at (i := 0) (ho.at (b := st) (o := .cells #[.pointer (some ⟨d, 0, none⟩)] 128) (by simp [hst])).1 rfl, fun k v hv => ?_⟩
  rw [Nat.zero_add]
  exact cell_at (ho.at (b := wr.heap.size) (o := .cells cl.toArray 39) (by simp)).1 (by rw [List.getElem?_toArray]; exact hv)
 have hz := hA.size nm
 rw [h0] at hz
 obtain ⟨a, c, w2, hr, hk, hs⟩ := adopt_read h hst hg nm cl h0
 rw [he, ← hcl] at hs
 have h2 := hA.quiet hk
 have hc1 := (hask _ hA).1
 have hc2 := (hask _ h2).1
 have hs2 := hs w2.drew ((Keeps.refl _ w2).drew)
 have HZ := Lib.hid hz
 have HR := Lib.hid hr
 have HS := Lib.hid hs2
 have HF := Lib.hid hfile
 have H2 := Lib.hid (h2.drew)
 have HG := Lib.hid hg
 have HN := Lib.hid hn
 have HC := Lib.hid (fun (W : World) (hkW : Keeps (fun _ => False) w2.drew W) => (hask W (h2.drew.quiet hkW)))
 have HSZ := Lib.hid (fun (W : World) (hkW : Keeps (fun _ => False) w2.drew W) => (h2.drew.quiet hkW).size (fileOf dg))
 have HT := Lib.hid ht
 have HX := Lib.hid hx
 have hdo : ∀ W, Keeps (fun _ => False) w2.drew W → ∃ w', Runs 45 #[.pointer (some ⟨d, 0, none⟩), .string nm] W (.int .i64 0) w' ∧ w'.cell? ⟨st, 0, none⟩ = some (.pointer (some ⟨d, 0, none⟩)) ∧ Calls Tryz.prog 49 #[.pointer (some ⟨d, 0, none⟩)] w' (DOwn w d (rObj w.heap.size wr.heap.size (.cells cl.toArray 39) :: rs) (syncOf (removeOf m nm).2)) := fun W hkW => by
  obtain ⟨w', hr', ho'⟩ := (h2.drew.quiet hkW).remove nm hg.fuse (by have := hg.len; omega)
  rw [hx] at hr'
  exact ⟨w', hr', cell_at (i := 0) (ho'.at (b := st) (o := .cells #[.pointer (some ⟨d, 0, none⟩)] 128) (by simp [hst])).1 rfl, ho'.sync (hg.remove nm).fuse (hg.remove nm).fits1⟩
 have HDO := Lib.hid hdo
 generalize syncOf (removeOf m nm).2 = q at HDO ⊢
 clear hdo
 generalize (contOf m nm).length = n2 at HR HS
 generalize sizeCode m nm = sc at HZ HR
 clear h hst h0 hg hn hz hr hk hs hl he hA h2 hs2 hask hfile hcl ht hx
 go_enter Tryz.func115, Tryz.ntmps115
 go_wp2_with fail
 refine HZ.out.out.mono ?_
 rintro e w' ⟨rfl, rfl⟩
 go_wp2_with fail
 refine HR.out.out.mono ?_
 rintro e w' ⟨rfl, rfl⟩
 clear hc1 HZ HR
 go_wp2_with fail
 go_region_held3 (fun w' => w'.rangeAt wr.heap.size 0 cl) (first | exact (HC.out _ (Keeps.refl _ _)).2 | exact (HC.out _ hk4).2 | go_keep) (first | (go_at_call 11; refine HS.out.mono ?_; rintro e w4 ⟨rfl, hk4⟩))
 all_goals
  have hd4 : Keeps (fun _ => False) w2.drew w4.drew := hk4.drew
  have HC4 := Lib.hid (fun (W : World) (hkW : Keeps (fun _ => False) w4.drew W) => HC.out W (hd4.trans hkW (fun _ _ e => e)))
  have hsz4 := fun (W : World) (hkW : Keeps (fun _ => False) w4.drew W) => HSZ.out W (hd4.trans hkW (fun _ _ e => e))
  rw [HT.out] at hsz4
  generalize sizeCode m (fileOf dg) = sc2 at hsz4
  generalize fileOf dg = fl at hsz4 HF
  have HSZ4 := Lib.hid hsz4
  have HD4 := Lib.hid hd4
  clear hk4 hd4 hc2 hsz4 HS
  go_wp2_with fail
  go_region_held3 (fun w' => w'.cell? ⟨st, 0, none⟩ = some (.pointer (some ⟨d, 0, none⟩)) ∧ w'.rangeAt wr.heap.size 0 cl) (first | exact HC4.out _ (Keeps.refl _ _) | exact HC4.out _ hk5 | go_keep) (first | (go_at_call 56; refine (HF.out _).mono ?_; rintro e w5 ⟨rfl, hk5⟩) | (go_at_call 57; refine (HSZ4.out _ hk5).out.mono ?_; rintro e w' ⟨rfl, rfl⟩))
 all_goals
  obtain ⟨w6, hr6, hc6, hsy⟩ := HDO.out w5 (HD4.out.trans hk5 (fun _ _ e => e))
  have hc5 := (HC4.out _ hk5).1
  have HR6 := Lib.hid hr6
  have HSY := Lib.hid hsy
  clear hk5 hr6 hsy
  go_wp2_with fail
  refine HR6.out.out.mono ?_
  rintro e w' ⟨rfl, rfl⟩
  clear hc5
  go_wp2_with fail
  refine HSY.out.mono ?_
  rintro e w7 ⟨rfl, h7⟩
  have H7 := Lib.hid h7.drop2
  clear h7
  go_wp2_with fail
  go_ret
  exact ⟨rfl, H7.out⟩
set_option maxRecDepth 100000 in
set_option maxHeartbeats 1000000 in
theorem badopt_new (h : Own w wr (rDisk w.heap.size d m :: rs)) (hst : rObj w.heap.size st (.cells #[.pointer (some ⟨d, 0, none⟩)] 128) ∈ rs) {n : Nat} (hg : Good m n) (hn : n + 10 < 1099511627776) (nm : ByteArray) (dg : List UInt8) (hl : dg.length = 32) (h0 : thereOf m nm = 0) (he : sumOf (contOf m nm) = dg) (ht : ¬ thereOf m (fileOf dg) = 0) (hx : (renameOf m nm (fileOf dg)).1 = 0) :
  Calls Tryz.prog 115 #[.pointer (some ⟨st, 0, none⟩), .string nm, .agg (dg.map u8v).toArray] wr (DOwn w d rs (syncOf (renameOf m nm (fileOf dg)).2)) := by
 obtain ⟨cl, hcl⟩ : ∃ cl : List Value, cl = dg.map u8v := ⟨_, rfl⟩
 have hund := Tryz.underlying39
 have hinfo : (Tryz.prog.info? 39).map (·.size) = some cl.length := by rw [hcl, List.length_map, hl]; kernel_rfl
 have heq := fun W => dig_eq dg dg hl hl W
 rw [decide_eq_true rfl, ← hcl] at heq
 have hfile := fun W => file_calls W dg hl
 rw [← hcl] at hfile ⊢
 have hA := h.alloc2 (.cells cl.toArray 39)
 have hask : ∀ W, Own w W (rDisk w.heap.size d m :: rObj w.heap.size wr.heap.size (.cells cl.toArray 39) :: rs) → AskS st d wr.heap.size cl W := fun W ho => by
  refine ⟨cell_at (i := 0) (ho.at (b := st) (o := .cells #[.pointer (some ⟨d, 0, none⟩)] 128) (by simp [hst])).1 rfl, fun k v hv => ?_⟩
  rw [Nat.zero_add]
  exact cell_at (ho.at (b := wr.heap.size) (o := .cells cl.toArray 39) (by simp)).1 (by rw [List.getElem?_toArray]; exact hv)
 have hz := hA.size nm
 rw [h0] at hz
 obtain ⟨a, c, w2, hr, hk, hs⟩ := adopt_read h hst hg nm cl h0
 rw [he, ← hcl] at hs
 have h2 := hA.quiet hk
 have hc1 := (hask _ hA).1
 have hc2 := (hask _ h2).1
 have hs2 := hs w2.drew ((Keeps.refl _ w2).drew)
 have HZ := Lib.hid hz
 have HR := Lib.hid hr
 have HS := Lib.hid hs2
 have HF := Lib.hid hfile
 have H2 := Lib.hid (h2.drew)
 have HG := Lib.hid hg
 have HN := Lib.hid hn
 have HC := Lib.hid (fun (W : World) (hkW : Keeps (fun _ => False) w2.drew W) => (hask W (h2.drew.quiet hkW)))
 have HSZ := Lib.hid (fun (W : World) (hkW : Keeps (fun _ => False) w2.drew W) => (h2.drew.quiet hkW).size (fileOf dg))
 have HT := Lib.hid ht
 have HX := Lib.hid hx
 have hdo : ∀ W, Keeps (fun _ => False) w2.drew W → ∃ w', Runs 84 #[.pointer (some ⟨d, 0, none⟩), .string nm, .string (fileOf dg)] W (.int .i64 0) w' ∧ AskS st d wr.heap.size cl w' ∧ Calls Tryz.prog 49 #[.pointer (some ⟨d, 0, none⟩)] w' (DOwn w d (rObj w.heap.size wr.heap.size (.cells cl.toArray 39) :: rs) (syncOf (renameOf m nm (fileOf dg)).2)) := fun W hkW => by
  obtain ⟨w', hr', ho'⟩ := (h2.drew.quiet hkW).rename nm (fileOf dg) hg.fuse (by have := hg.len; omega)
  rw [hx] at hr'
  refine ⟨w', hr', ⟨cell_at (i := 0) (ho'.at (b := st) (o := .cells #[.pointer (some ⟨d, 0, none⟩)] 128) (by simp [hst])).1 rfl, fun k v hv => ?_⟩, ho'.sync (hg.rename nm (fileOf dg)).fuse (hg.rename nm (fileOf dg)).fits1⟩
  rw [Nat.zero_add]
  exact cell_at (ho'.at (b := wr.heap.size) (o := .cells cl.toArray 39) (by simp)).1 (by rw [List.getElem?_toArray]; exact hv)
 have HDO := Lib.hid hdo
 generalize syncOf (renameOf m nm (fileOf dg)).2 = q at HDO ⊢
 have hb0 : (thereOf m (fileOf dg) == 0) = false := by simpa using ht
 clear hdo
 generalize (contOf m nm).length = n2 at HR HS
 generalize sizeCode m nm = sc at HZ HR
 clear h hst h0 hg hn hz hr hk hs hl he hA h2 hs2 hask hfile hcl ht hx
 go_enter Tryz.func115, Tryz.ntmps115
 go_wp2_with fail
 refine HZ.out.out.mono ?_
 rintro e w' ⟨rfl, rfl⟩
 go_wp2_with fail
 refine HR.out.out.mono ?_
 rintro e w' ⟨rfl, rfl⟩
 clear hc1 HZ HR
 go_wp2_with fail
 go_region_held3 (fun w' => w'.rangeAt wr.heap.size 0 cl) (first | exact (HC.out _ (Keeps.refl _ _)).2 | exact (HC.out _ hk4).2 | go_keep) (first | (go_at_call 11; refine HS.out.mono ?_; rintro e w4 ⟨rfl, hk4⟩))
 all_goals
  have hd4 : Keeps (fun _ => False) w2.drew w4.drew := hk4.drew
  have HC4 := Lib.hid (fun (W : World) (hkW : Keeps (fun _ => False) w4.drew W) => HC.out W (hd4.trans hkW (fun _ _ e => e)))
  have hsz4 := fun (W : World) (hkW : Keeps (fun _ => False) w4.drew W) => HSZ.out W (hd4.trans hkW (fun _ _ e => e))
  generalize thereOf m (fileOf dg) = t at hsz4 hb0
  generalize sizeCode m (fileOf dg) = sc2 at hsz4
  generalize fileOf dg = fl at hsz4 HF HDO
  have HSZ4 := Lib.hid hsz4
  have HD4 := Lib.hid hd4
  clear hk4 hd4 hc2 hsz4 HS
  go_wp2_with fail
  go_region_held3 (fun w' => w'.cell? ⟨st, 0, none⟩ = some (.pointer (some ⟨d, 0, none⟩)) ∧ w'.rangeAt wr.heap.size 0 cl) (first | exact HC4.out _ (Keeps.refl _ _) | exact HC4.out _ hk5 | go_keep) (first | (go_at_call 56; refine (HF.out _).mono ?_; rintro e w5 ⟨rfl, hk5⟩) | (go_at_call 57; refine (HSZ4.out _ hk5).out.mono ?_; rintro e w' ⟨rfl, rfl⟩))
 all_goals
  have hk5d : Keeps (fun _ => False) w4.drew w5.drew := hk5.drew
  have HC5 := Lib.hid (fun (W : World) (hkW : Keeps (fun _ => False) w5.drew W) => HC4.out W (hk5d.trans hkW (fun _ _ e => e)))
  have HDO5 := Lib.hid (fun (W : World) (hkW : Keeps (fun _ => False) w5.drew W) => HDO.out W (HD4.out.trans (hk5d.trans hkW (fun _ _ e => e)) (fun _ _ e => e)))
  clear hk5 hk5d HSZ4
  go_wp2_with fail
  go_region_held3 (fun w' => w'.cell? ⟨st, 0, none⟩ = some (.pointer (some ⟨d, 0, none⟩)) ∧ w'.rangeAt wr.heap.size 0 cl) (first | exact HC5.out _ (Keeps.refl _ _) | exact hc6 | exact HC5.out _ hk6 | go_keep) (first | (go_at_call 56; refine (HF.out _).mono ?_; rintro e w6 ⟨rfl, hk6⟩) | (go_at_call 84; obtain ⟨w7, hr6, hc6, hsy⟩ := HDO5.out _ hk6; refine hr6.out.mono ?_; rintro e w' ⟨rfl, rfl⟩))
 all_goals
  have HSY := Lib.hid hsy
  have hc7 := hc6.1
  clear hk6 hr6 hsy hc6
  go_wp2_with fail
  refine HSY.out.mono ?_
  rintro e w8 ⟨rfl, h7⟩
  have H7 := Lib.hid h7.drop2
  clear h7
  go_wp2_with fail
  go_ret
  exact ⟨rfl, H7.out⟩
end
end Go.Proofs.YtlcnhpjggjgnpaaGreatDoor
namespace Go.Proofs.YtlcnhpjggjgnpaaGreatDoor
set_option linter.unusedVariables false
set_option linter.unusedSimpArgs false
open Go.RowKit Go.MapKept
section
variable {w wr : World} {d st : Nat} {m : DM} {rs : List (Res w.heap.size)}
set_option maxRecDepth 100000 in
set_option maxHeartbeats 1000000 in
theorem badopt_thereN (h : Own w wr (rDisk w.heap.size d m :: rs)) (hst : rObj w.heap.size st (.cells #[.pointer (some ⟨d, 0, none⟩)] 128) ∈ rs) {n : Nat} (hg : Good m n) (hn : n + 10 < 1099511627776) (nm : ByteArray) (dg : List UInt8) (hl : dg.length = 32) (h0 : thereOf m nm = 0) (he : sumOf (contOf m nm) = dg) (ht : thereOf m (fileOf dg) = 0) (hx : ¬ (removeOf m nm).1 = 0) :
  Calls Tryz.prog 115 #[.pointer (some ⟨st, 0, none⟩), .string nm, .agg (dg.map u8v).toArray] wr (DOwn w d rs (removeOf m nm)) := by
 obtain ⟨cl, hcl⟩ : ∃ cl : List Value, cl = dg.map u8v := ⟨_, rfl⟩
 have hund := Tryz.underlying39
 have hinfo : (Tryz.prog.info? 39).map (·.size) = some cl.length := by rw [hcl, List.length_map, hl]; kernel_rfl
 have heq := fun W => dig_eq dg dg hl hl W
 rw [decide_eq_true rfl, ← hcl] at heq
 have hfile := fun W => file_calls W dg hl
 rw [← hcl] at hfile ⊢
 have hA := h.alloc2 (.cells cl.toArray 39)
 have hask : ∀ W, Own w W (rDisk w.heap.size d m :: rObj w.heap.size wr.heap.size (.cells cl.toArray 39) :: rs) → AskS st d wr.heap.size cl W := fun W ho => by
  refine ⟨cell_at (i := 0) (ho.at (b := st) (o := .cells #[.pointer (some ⟨d, 0, none⟩)] 128) (by simp [hst])).1 rfl, fun k v hv => ?_⟩
  rw [Nat.zero_add]
  exact cell_at (ho.at (b := wr.heap.size) (o := .cells cl.toArray 39) (by simp)).1 (by rw [List.getElem?_toArray]; exact hv)
 have hz := hA.size nm
 rw [h0] at hz
 obtain ⟨a, c, w2, hr, hk, hs⟩ := adopt_read h hst hg nm cl h0
 rw [he, ← hcl] at hs
 have h2 := hA.quiet hk
 have hc1 := (hask _ hA).1
 have hc2 := (hask _ h2).1
 have hs2 := hs w2.drew ((Keeps.refl _ w2).drew)
 have HZ := Lib.hid hz
 have HR := Lib.hid hr
 have HS := Lib.hid hs2
 have HF := Lib.hid hfile
 have H2 := Lib.hid (h2.drew)
 have HG := Lib.hid hg
 have HN := Lib.hid hn
 have HC := Lib.hid (fun (W : World) (hkW : Keeps (fun _ => False) w2.drew W) => (hask W (h2.drew.quiet hkW)))
 have HSZ := Lib.hid (fun (W : World) (hkW : Keeps (fun _ => False) w2.drew W) => (h2.drew.quiet hkW).size (fileOf dg))
 have HT := Lib.hid ht
 have HX := Lib.hid hx
 have hdo : ∀ W, Keeps (fun _ => False) w2.drew W → ∃ w', Runs 45 #[.pointer (some ⟨d, 0, none⟩), .string nm] W (.int .i64 (removeOf m nm).1) w' ∧ Own w w' (rDisk w.heap.size d (removeOf m nm).2 :: rObj w.heap.size wr.heap.size (.cells cl.toArray 39) :: rs) := fun W hkW =>
  (h2.drew.quiet hkW).remove nm hg.fuse (by have := hg.len; omega)
 have HDO := Lib.hid hdo
 have hq : ((removeOf m nm).1 != 0) = true := by simpa using hx
 generalize removeOf m nm = q at HDO hq ⊢
 obtain ⟨q1, q2⟩ := q
 dsimp only at hq
 clear hdo
 generalize (contOf m nm).length = n2 at HR HS
 generalize sizeCode m nm = sc at HZ HR
 clear h hst h0 hg hn hz hr hk hs hl he hA h2 hs2 hask hfile hcl ht hx
 go_enter Tryz.func115, Tryz.ntmps115
 go_wp2_with fail
 refine HZ.out.out.mono ?_
 rintro e w' ⟨rfl, rfl⟩
 go_wp2_with fail
 refine HR.out.out.mono ?_
 rintro e w' ⟨rfl, rfl⟩
 clear hc1 HZ HR
 go_wp2_with fail
 go_region_held3 (fun w' => w'.rangeAt wr.heap.size 0 cl) (first | exact (HC.out _ (Keeps.refl _ _)).2 | exact (HC.out _ hk4).2 | go_keep) (first | (go_at_call 11; refine HS.out.mono ?_; rintro e w4 ⟨rfl, hk4⟩))
 all_goals
  have hd4 : Keeps (fun _ => False) w2.drew w4.drew := hk4.drew
  have HC4 := Lib.hid (fun (W : World) (hkW : Keeps (fun _ => False) w4.drew W) => HC.out W (hd4.trans hkW (fun _ _ e => e)))
  have hsz4 := fun (W : World) (hkW : Keeps (fun _ => False) w4.drew W) => HSZ.out W (hd4.trans hkW (fun _ _ e => e))
  rw [HT.out] at hsz4
  generalize sizeCode m (fileOf dg) = sc2 at hsz4
  generalize fileOf dg = fl at hsz4 HF
  have HSZ4 := Lib.hid hsz4
  have HD4 := Lib.hid hd4
  clear hk4 hd4 hc2 hsz4 HS
  go_wp2_with fail
  go_region_held3 (fun w' => w'.cell? ⟨st, 0, none⟩ = some (.pointer (some ⟨d, 0, none⟩)) ∧ w'.rangeAt wr.heap.size 0 cl) (first | exact HC4.out _ (Keeps.refl _ _) | exact HC4.out _ hk5 | go_keep) (first | (go_at_call 56; refine (HF.out _).mono ?_; rintro e w5 ⟨rfl, hk5⟩) | (go_at_call 57; refine (HSZ4.out _ hk5).out.mono ?_; rintro e w' ⟨rfl, rfl⟩))
 all_goals
  obtain ⟨w6, hr6, h6⟩ := HDO.out w5 (HD4.out.trans hk5 (fun _ _ e => e))
  have hc5 := (HC4.out _ hk5).1
  have HR6 := Lib.hid hr6
  have H6 := Lib.hid h6
  clear hk5 hr6 h6
  go_wp2_with fail
  refine HR6.out.out.mono ?_
  rintro e w' ⟨rfl, rfl⟩
  clear hc5
  have H7 := Lib.hid H6.out.drop2
  clear H6
  go_wp2_with fail
  go_ret
  exact ⟨rfl, H7.out⟩
set_option maxRecDepth 100000 in
set_option maxHeartbeats 1000000 in
theorem badopt_newN (h : Own w wr (rDisk w.heap.size d m :: rs)) (hst : rObj w.heap.size st (.cells #[.pointer (some ⟨d, 0, none⟩)] 128) ∈ rs) {n : Nat} (hg : Good m n) (hn : n + 10 < 1099511627776) (nm : ByteArray) (dg : List UInt8) (hl : dg.length = 32) (h0 : thereOf m nm = 0) (he : sumOf (contOf m nm) = dg) (ht : ¬ thereOf m (fileOf dg) = 0) (hx : ¬ (renameOf m nm (fileOf dg)).1 = 0) :
  Calls Tryz.prog 115 #[.pointer (some ⟨st, 0, none⟩), .string nm, .agg (dg.map u8v).toArray] wr (DOwn w d rs (renameOf m nm (fileOf dg))) := by
 obtain ⟨cl, hcl⟩ : ∃ cl : List Value, cl = dg.map u8v := ⟨_, rfl⟩
 have hund := Tryz.underlying39
 have hinfo : (Tryz.prog.info? 39).map (·.size) = some cl.length := by rw [hcl, List.length_map, hl]; kernel_rfl
 have heq := fun W => dig_eq dg dg hl hl W
 rw [decide_eq_true rfl, ← hcl] at heq
 have hfile := fun W => file_calls W dg hl
 rw [← hcl] at hfile ⊢
 have hA := h.alloc2 (.cells cl.toArray 39)
 have hask : ∀ W, Own w W (rDisk w.heap.size d m :: rObj w.heap.size wr.heap.size (.cells cl.toArray 39) :: rs) → AskS st d wr.heap.size cl W := fun W ho => by
  refine ⟨cell_at (i := 0) (ho.at (b := st) (o := .cells #[.pointer (some ⟨d, 0, none⟩)] 128) (by simp [hst])).1 rfl, fun k v hv => ?_⟩
  rw [Nat.zero_add]
  exact cell_at (ho.at (b := wr.heap.size) (o := .cells cl.toArray 39) (by simp)).1 (by rw [List.getElem?_toArray]; exact hv)
 have hz := hA.size nm
 rw [h0] at hz
 obtain ⟨a, c, w2, hr, hk, hs⟩ := adopt_read h hst hg nm cl h0
 rw [he, ← hcl] at hs
 have h2 := hA.quiet hk
 have hc1 := (hask _ hA).1
 have hc2 := (hask _ h2).1
 have hs2 := hs w2.drew ((Keeps.refl _ w2).drew)
 have HZ := Lib.hid hz
 have HR := Lib.hid hr
 have HS := Lib.hid hs2
 have HF := Lib.hid hfile
 have H2 := Lib.hid (h2.drew)
 have HG := Lib.hid hg
 have HN := Lib.hid hn
 have HC := Lib.hid (fun (W : World) (hkW : Keeps (fun _ => False) w2.drew W) => (hask W (h2.drew.quiet hkW)))
 have HSZ := Lib.hid (fun (W : World) (hkW : Keeps (fun _ => False) w2.drew W) => (h2.drew.quiet hkW).size (fileOf dg))
 have HT := Lib.hid ht
 have HX := Lib.hid hx
 have hdo : ∀ W, Keeps (fun _ => False) w2.drew W → ∃ w', Runs 84 #[.pointer (some ⟨d, 0, none⟩), .string nm, .string (fileOf dg)] W (.int .i64 (renameOf m nm (fileOf dg)).1) w' ∧ AskS st d wr.heap.size cl w' ∧ Own w w' (rDisk w.heap.size d (renameOf m nm (fileOf dg)).2 :: rObj w.heap.size wr.heap.size (.cells cl.toArray 39) :: rs) := fun W hkW => by
  obtain ⟨w', hr', ho'⟩ := (h2.drew.quiet hkW).rename nm (fileOf dg) hg.fuse (by have := hg.len; omega)
  refine ⟨w', hr', ⟨cell_at (i := 0) (ho'.at (b := st) (o := .cells #[.pointer (some ⟨d, 0, none⟩)] 128) (by simp [hst])).1 rfl, fun k v hv => ?_⟩, ho'⟩
  rw [Nat.zero_add]
  exact cell_at (ho'.at (b := wr.heap.size) (o := .cells cl.toArray 39) (by simp)).1 (by rw [List.getElem?_toArray]; exact hv)
 have HDO := Lib.hid hdo
 have hq : ((renameOf m nm (fileOf dg)).1 != 0) = true := by simpa using hx
 generalize renameOf m nm (fileOf dg) = q at HDO hq ⊢
 obtain ⟨q1, q2⟩ := q
 dsimp only at hq
 have hb0 : (thereOf m (fileOf dg) == 0) = false := by simpa using ht
 clear hdo
 generalize (contOf m nm).length = n2 at HR HS
 generalize sizeCode m nm = sc at HZ HR
 clear h hst h0 hg hn hz hr hk hs hl he hA h2 hs2 hask hfile hcl ht hx
 go_enter Tryz.func115, Tryz.ntmps115
 go_wp2_with fail
 refine HZ.out.out.mono ?_
 rintro e w' ⟨rfl, rfl⟩
 go_wp2_with fail
 refine HR.out.out.mono ?_
 rintro e w' ⟨rfl, rfl⟩
 clear hc1 HZ HR
 go_wp2_with fail
 go_region_held3 (fun w' => w'.rangeAt wr.heap.size 0 cl) (first | exact (HC.out _ (Keeps.refl _ _)).2 | exact (HC.out _ hk4).2 | go_keep) (first | (go_at_call 11; refine HS.out.mono ?_; rintro e w4 ⟨rfl, hk4⟩))
 all_goals
  have hd4 : Keeps (fun _ => False) w2.drew w4.drew := hk4.drew
  have HC4 := Lib.hid (fun (W : World) (hkW : Keeps (fun _ => False) w4.drew W) => HC.out W (hd4.trans hkW (fun _ _ e => e)))
  have hsz4 := fun (W : World) (hkW : Keeps (fun _ => False) w4.drew W) => HSZ.out W (hd4.trans hkW (fun _ _ e => e))
  generalize thereOf m (fileOf dg) = t at hsz4 hb0
  generalize sizeCode m (fileOf dg) = sc2 at hsz4
  generalize fileOf dg = fl at hsz4 HF HDO
  have HSZ4 := Lib.hid hsz4
  have HD4 := Lib.hid hd4
  clear hk4 hd4 hc2 hsz4 HS
  go_wp2_with fail
  go_region_held3 (fun w' => w'.cell? ⟨st, 0, none⟩ = some (.pointer (some ⟨d, 0, none⟩)) ∧ w'.rangeAt wr.heap.size 0 cl) (first | exact HC4.out _ (Keeps.refl _ _) | exact HC4.out _ hk5 | go_keep) (first | (go_at_call 56; refine (HF.out _).mono ?_; rintro e w5 ⟨rfl, hk5⟩) | (go_at_call 57; refine (HSZ4.out _ hk5).out.mono ?_; rintro e w' ⟨rfl, rfl⟩))
 all_goals
  have hk5d : Keeps (fun _ => False) w4.drew w5.drew := hk5.drew
  have HC5 := Lib.hid (fun (W : World) (hkW : Keeps (fun _ => False) w5.drew W) => HC4.out W (hk5d.trans hkW (fun _ _ e => e)))
  have HDO5 := Lib.hid (fun (W : World) (hkW : Keeps (fun _ => False) w5.drew W) => HDO.out W (HD4.out.trans (hk5d.trans hkW (fun _ _ e => e)) (fun _ _ e => e)))
  clear hk5 hk5d HSZ4
  go_wp2_with fail
  go_region_held3 (fun w' => w'.cell? ⟨st, 0, none⟩ = some (.pointer (some ⟨d, 0, none⟩)) ∧ w'.rangeAt wr.heap.size 0 cl) (first | exact HC5.out _ (Keeps.refl _ _) | exact hc6 | exact HC5.out _ hk6 | go_keep) (first | (go_at_call 56; refine (HF.out _).mono ?_; rintro e w6 ⟨rfl, hk6⟩) | (go_at_call 84; obtain ⟨w7, hr6, hc6, h7⟩ := HDO5.out _ hk6; refine hr6.out.mono ?_; rintro e w' ⟨rfl, rfl⟩))
 all_goals
  have H7 := Lib.hid h7.drop2
  clear hk6 hr6 hc6 h7
  go_wp2_with fail
  go_ret
  exact ⟨rfl, H7.out⟩
def adoptOf (m : DM) (nm : ByteArray) (dg : List UInt8) : Int × DM :=
 if thereOf m nm = 0 then
  (if sumOf (contOf m nm) = dg then
   (if thereOf m (fileOf dg) = 0 then (if (removeOf m nm).1 = 0 then syncOf (removeOf m nm).2 else removeOf m nm)
    else (if (renameOf m nm (fileOf dg)).1 = 0 then syncOf (renameOf m nm (fileOf dg)).2 else renameOf m nm (fileOf dg)))
   else (20, m))
 else (thereOf m nm, m)
theorem badopt_calls (h : Own w wr (rDisk w.heap.size d m :: rs)) (hst : rObj w.heap.size st (.cells #[.pointer (some ⟨d, 0, none⟩)] 128) ∈ rs) {n : Nat} (hg : Good m n) (hn : n + 10 < 1099511627776) (nm : ByteArray) (dg : List UInt8) (hl : dg.length = 32) :
  Calls Tryz.prog 115 #[.pointer (some ⟨st, 0, none⟩), .string nm, .agg (dg.map u8v).toArray] wr (DOwn w d rs (adoptOf m nm dg)) := by
 unfold adoptOf
 by_cases h0 : thereOf m nm = 0
 ·rw [if_pos h0]
  by_cases he : sumOf (contOf m nm) = dg
  ·rw [if_pos he]
   by_cases ht : thereOf m (fileOf dg) = 0
   ·rw [if_pos ht]
    by_cases hx : (removeOf m nm).1 = 0
    ·rw [if_pos hx]; exact badopt_there h hst hg hn nm dg hl h0 he ht hx
    ·rw [if_neg hx]; exact badopt_thereN h hst hg hn nm dg hl h0 he ht hx
   ·rw [if_neg ht]
    by_cases hx : (renameOf m nm (fileOf dg)).1 = 0
    ·rw [if_pos hx]; exact badopt_new h hst hg hn nm dg hl h0 he ht hx
    ·rw [if_neg hx]; exact badopt_newN h hst hg hn nm dg hl h0 he ht hx
  ·rw [if_neg he]
   refine (badopt_other h hst hg nm dg hl h0 he).mono ?_
   rintro e w' ⟨rfl, hk⟩
   exact ⟨rfl, h.quiet hk⟩
 ·rw [if_neg h0]
  refine (badopt_none h hst nm dg h0).mono ?_
  rintro e w' ⟨rfl, hk⟩
  exact ⟨rfl, h.quiet hk⟩
end
end Go.Proofs.YtlcnhpjggjgnpaaGreatDoor
