/- The store of bytes: a sum's file; the steps of its lay. -/
import Derived.Test.YtlinkpjneehnbaaDigF
import Derived.Test.YtlinkpjneehnbaaHex
import Derived.Test.YtlinkpjneehnbaaPkJ
import Derived.StillTailTactics
import Derived.Deep.RegionHeld3
import Derived.Deep.MidRow
namespace Go.Proofs.Ytlinkpjneehnbaa
set_option linter.unusedVariables false
open Go.RowKit Go.MapKept

def tmpB : ByteArray := ⟨#[98, 43]⟩
def fileOf (dg : List UInt8) : ByteArray := ⟨#[98, 47]⟩ ++ ⟨(hexOf dg).toArray⟩
theorem fileOf_size (dg : List UInt8) (h : dg.length = 32) : (fileOf dg).size = 66 := by
  rw [fileOf, ByteArray.size_append]
  show 2 + (hexOf dg).toArray.size = 66
  rw [List.size_toArray, hexOf_length, h]
theorem agg_reads {w : World} {b : Nat} {dg : List UInt8} (h : w.heap[b]? = some (.cells (dg.map u8v).toArray 58)) (hl : dg.length = 32) : Reads w (.slice (some ⟨b, 0, none⟩) 32 32) dg := by
  refine .inr ⟨⟨b, 0, none⟩, 32, by rw [hl], by omega, by simp [maxLen], fun j u hu => ?_⟩
  rw [Addr.add_lit, Nat.zero_add]
  exact cell_at h (by rw [List.getElem?_toArray]; exact hu)
theorem dall_run (W : World) (b : Nat) : (Instr.sliceAt 58 (.pointer (some ⟨b, 0, none⟩)) none none none).run Try.prog W = .ok (.slice (some ⟨b, 0, none⟩) 32 32) W := by kernel_rfl
set_option maxRecDepth 100000 in
theorem file_calls (w : World) (dg : List UInt8) (hl : dg.length = 32) : Calls Try.prog 69 #[.agg (dg.map u8v).toArray] w (QuietP w (.string (fileOf dg))) := by
  obtain ⟨ds, hds⟩ : ∃ ds : Array Value, ds = (dg.map u8v).toArray := ⟨_, rfl⟩
  have hx := hex_calls (w := w.alloc (.cells ds 58)) (v := .slice (some ⟨w.heap.size, 0, none⟩) 32 32) (l := dg) (agg_reads (by rw [hds]; exact heap_alloc_new w _) hl) (by omega)
  have hsl := fun W => dall_run W w.heap.size
  have hadd := fun W => run_string_add_sum (P := Try.prog) W ⟨#[98, 47]⟩ ⟨(hexOf dg).toArray⟩ (by show 2 + (hexOf dg).toArray.size ≤ _; rw [List.size_toArray, hexOf_length]; omega)
  rw [← hds]
  have HX := Lib.hid hx
  have hk1 : Keeps (fun _ => False) w (w.alloc (.cells ds 58)) := (Keeps.refl _ w).alloc _
  have HK1 := Lib.hid hk1
  have hfe : fileOf dg = ⟨#[98, 47]⟩ ++ ⟨(hexOf dg).toArray⟩ := rfl
  rw [hfe]
  generalize (⟨(hexOf dg).toArray⟩ : ByteArray) = hs at HX hadd ⊢
  clear hx hk1 hds hl hfe
  go_enter Try.func69, Try.ntmps69
  go_wp2_with fail
  refine HX.out.mono ?_
  rintro e w2 ⟨rfl, hk2⟩
  have HK2 := Lib.hid (HK1.out.trans hk2 (fun _ _ e => e))
  clear hk2 HK1 HX
  go_wp2_with fail
  go_ret
  exact ⟨rfl, HK2.out⟩
section
variable {w wr : World} {d : Nat} {m : DM} {rs : List (Res w.heap.size)}
set_option maxRecDepth 100000 in
theorem bclear_calls (h : Own w wr (rDisk w.heap.size d m :: rs)) {n : Nat} {t : ByteArray} (hg : Good m n) (hn : n < 1099511627776) :
    Calls Try.prog 115 #[.pointer (some ⟨d, 0, none⟩), .string t] wr (DOwn w d rs (clearOf m t)) := by
  obtain ⟨w1, hr, h1⟩ := h.remove t hg.fuse (hg.loose hn)
  unfold clearOf
  have H1 := Lib.hid h1
  clear h h1 hg
  generalize (removeOf m t) = r at hr H1
  obtain ⟨c, m'⟩ := r
  by_cases hc : c = 6
  · subst hc
    simp only [if_true]
    go_enter Try.func115, Try.ntmps115
    go_wp2_with fail
    refine hr.out.mono ?_; rintro e w' ⟨rfl, rfl⟩
    go_wp2_with fail
    go_ret
    exact ⟨rfl, H1.out⟩
  · simp only [hc, if_false]
    have hb : (c != 6) = true := by simpa using hc
    go_enter Try.func115, Try.ntmps115
    go_wp2_with fail
    refine hr.out.mono ?_; rintro e w' ⟨rfl, rfl⟩
    go_wp2_with fail
    go_ret
    exact ⟨rfl, H1.out⟩
/-- What the steps hold: the store's box, the store. -/
def BoxIn (rs : List (Res w.heap.size)) (b3 st d : Nat) : Prop := rObj w.heap.size b3 (.cells #[.pointer (some ⟨st, 0, none⟩)] 54) ∈ rs ∧ rObj w.heap.size st (.cells #[.pointer (some ⟨d, 0, none⟩)] 146) ∈ rs
theorem BoxIn.cells {b3 st : Nat} (h : Own w wr (rDisk w.heap.size d m :: rs)) (hb : BoxIn rs b3 st d) : wr.cell? ⟨b3, 0, none⟩ = some (.pointer (some ⟨st, 0, none⟩)) ∧ wr.cell? ⟨st, 0, none⟩ = some (.pointer (some ⟨d, 0, none⟩)) :=
  ⟨cell_at (i := 0) (h.at (List.mem_cons_of_mem _ hb.1)).1 rfl, cell_at (i := 0) (h.at (List.mem_cons_of_mem _ hb.2)).1 rfl⟩
set_option maxRecDepth 100000 in
theorem blay2_calls (h : Own w wr (rDisk w.heap.size d m :: rs)) {n b3 st : Nat} (hg : Good m n) (hn : n < 1099511627776) (hb : BoxIn rs b3 st d) :
    Calls Try.prog 116 #[.pointer (some ⟨b3, 0, none⟩)] wr (DOwn w d rs (clearOf m tmpB)) := by
  obtain ⟨c3, cs⟩ := hb.cells h
  have HC := Lib.hid (bclear_calls h (t := tmpB) hg hn)
  unfold tmpB at HC ⊢
  clear h hb hg
  go_enter Try.func116, Try.ntmps116
  go_wp2_with fail
  refine HC.out.mono ?_; rintro e w' ⟨rfl, h1⟩
  have H1 := Lib.hid h1
  clear h1 HC
  go_wp2_with fail
  go_ret
  exact ⟨rfl, H1.out⟩
set_option maxRecDepth 100000 in
theorem blay3_calls (h : Own w wr (rDisk w.heap.size d m :: rs)) {n b3 st : Nat} (hg : Good m n) (hn : n < 1099511627776) (hb : BoxIn rs b3 st d) :
    Calls Try.prog 117 #[.pointer (some ⟨b3, 0, none⟩)] wr (DOwn w d rs (createOf m tmpB)) := by
  obtain ⟨c3, cs⟩ := hb.cells h
  obtain ⟨w1, hr, h1⟩ := h.create tmpB hg.fuse (hg.loose hn)
  have H1 := Lib.hid h1
  unfold tmpB at hr H1 ⊢
  clear h hb hg h1
  go_enter Try.func117, Try.ntmps117
  go_wp2_with fail
  refine hr.out.mono ?_; rintro e w' ⟨rfl, rfl⟩
  go_wp2_with fail
  go_ret
  exact ⟨rfl, H1.out⟩
set_option maxRecDepth 100000 in
theorem blay4_calls (h : Own w wr (rDisk w.heap.size d m :: rs)) {n b3 b5 st : Nat} {pv : Value} {p : List UInt8} (hg : Good m n) (hn : n < 1099511627776) (hb : BoxIn rs b3 st d) (h5 : rObj w.heap.size b5 (.cells #[pv] 31) ∈ rs) (hp : Reads wr pv p) :
    Calls Try.prog 118 #[.pointer (some ⟨b3, 0, none⟩), .pointer (some ⟨b5, 0, none⟩)] wr (DOwn w d rs (appendOf m tmpB p)) := by
  obtain ⟨c3, cs⟩ := hb.cells h
  obtain ⟨a, c, rfl, _, _⟩ := hp.form
  have c5 := cell_at (i := 0) (h.at (List.mem_cons_of_mem _ h5)).1 rfl
  have hap := h.drew.append tmpB (hp.keep ((Keeps.refl _ wr).drew)) hg.room0 hg.room1 hg.unow hg.fuse (hg.loose hn)
  unfold tmpB at hap ⊢
  have HAP := Lib.hid hap
  clear h hb hg hap hp
  go_enter Try.func118, Try.ntmps118
  go_wp2_with fail
  go_still_tail 5, (by kernel_rfl)
  change wpList _ _ _ _ _ (World.drew _)
  go_wp2_with fail
  refine HAP.out.mono ?_
  rintro e w1 ⟨rfl, h1⟩
  have H1 := Lib.hid h1
  clear h1 HAP
  go_wp2_with fail
  go_ret
  exact ⟨rfl, H1.out⟩
theorem step_wanted2 {ops : Array Oper} {o : Oper} {a : Act} {X E : Prop} (hg : o.guard = none) (h : X) : if Region.wanted o (yielded ops a.tmps) = true then X else E := by
  rw [if_pos (by simp [Region.wanted, hg])]
  exact h
set_option maxRecDepth 100000 in
set_option maxHeartbeats 1000000 in
theorem blay5_calls (h : Own w wr (rDisk w.heap.size d m :: rs)) {n b3 b4 st : Nat} {dg : List UInt8} (hl : dg.length = 32) (hg : Good m n) (hn : n < 1099511627776) (hb : BoxIn rs b3 st d) (h4 : rObj w.heap.size b4 (.cells (dg.map u8v).toArray 58) ∈ rs) :
    Calls Try.prog 119 #[.pointer (some ⟨b3, 0, none⟩), .pointer (some ⟨b4, 0, none⟩)] wr (DOwn w d rs (renameOf m tmpB (fileOf dg))) := by
  obtain ⟨c3, cs⟩ := hb.cells h
  have hb4 := (h.at (List.mem_cons_of_mem _ h4)).1
  have hfile := fun W => file_calls W dg hl
  have hren : ∀ w1, Keeps (fun _ => False) wr.drew w1 → (w1.cell? ⟨b3, 0, none⟩ = some (.pointer (some ⟨st, 0, none⟩)) ∧ w1.cell? ⟨st, 0, none⟩ = some (.pointer (some ⟨d, 0, none⟩))) ∧ ∃ w2, Runs 60 #[.pointer (some ⟨d, 0, none⟩), .string tmpB, .string (fileOf dg)] w1 (.int .i64 (renameOf m tmpB (fileOf dg)).1) w2 ∧ Own w w2 (rDisk w.heap.size d (renameOf m tmpB (fileOf dg)).2 :: rs) := fun w1 hk => by
    have h1 := h.drew.quiet hk
    exact ⟨hb.cells h1, h1.rename tmpB (fileOf dg) hg.fuse (hg.loose hn)⟩
  obtain ⟨cl, hcl⟩ : ∃ cl : List Value, cl = dg.map u8v := ⟨_, rfl⟩
  have hinfo : (Try.prog.info? 58).map (·.size) = some cl.length := by rw [hcl, List.length_map, hl]; kernel_rfl
  have hund := Try.underlying58
  rw [← hcl] at hb4 hfile
  have hck : ∀ w1, Keeps (fun _ => False) wr.drew w1 → w1.cell? ⟨b3, 0, none⟩ = some (.pointer (some ⟨st, 0, none⟩)) ∧ w1.cell? ⟨st, 0, none⟩ = some (.pointer (some ⟨d, 0, none⟩)) ∧ w1.rangeAt b4 0 cl := fun w1 hk => by
    refine ⟨(hren w1 hk).1.1, (hren w1 hk).1.2, fun k v hv => ?_⟩
    rw [Nat.zero_add]
    exact cell_at (hk.at (w := wr.drew) hb4 (fun e => e)) (by rw [List.getElem?_toArray]; exact hv)
  have hck2 : ∀ w2 m', Own w w2 (rDisk w.heap.size d m' :: rs) → w2.cell? ⟨b3, 0, none⟩ = some (.pointer (some ⟨st, 0, none⟩)) ∧ w2.cell? ⟨st, 0, none⟩ = some (.pointer (some ⟨d, 0, none⟩)) ∧ w2.rangeAt b4 0 cl := fun w2 m' ho => by
    refine ⟨(hb.cells ho).1, (hb.cells ho).2, fun k v hv => ?_⟩
    rw [Nat.zero_add]
    have := (ho.at (List.mem_cons_of_mem _ h4)).1
    rw [← hcl] at this
    exact cell_at this (by rw [List.getElem?_toArray]; exact hv)
  have HC2 := Lib.hid hck2
  clear hck2
  unfold tmpB at hren ⊢
  have HF := Lib.hid hfile
  have HR := Lib.hid (fun w1 hk => (hren w1 hk).2)
  have HC := Lib.hid hck
  generalize fileOf dg = nm at HF HR ⊢
  clear h hb hg hfile hren hb4 hcl h4 hl hck
  go_enter Try.func119, Try.ntmps119
  go_wp2_with fail
  go_region_held3 (fun w' => w'.cell? ⟨b3, 0, none⟩ = some (.pointer (some ⟨st, 0, none⟩)) ∧ w'.cell? ⟨st, 0, none⟩ = some (.pointer (some ⟨d, 0, none⟩)) ∧ w'.rangeAt b4 0 cl) (first | exact HC.out _ (Keeps.refl _ _) | exact HC2.out _ _ h2 | exact HC.out _ hk1 | go_keep) (first | (go_at_call 69; refine (HF.out _).mono ?_; rintro e w1 ⟨rfl, hk1⟩) | (go_at_call 60; obtain ⟨w2, hrn, h2⟩ := HR.out _ hk1; refine hrn.out.mono ?_; rintro e w' ⟨rfl, rfl⟩))
  all_goals
    have H2 := Lib.hid h2
    clear h2 hk1 hrn
    go_wp2_with fail
    go_ret
    exact ⟨rfl, H2.out⟩
end
end Go.Proofs.Ytlinkpjneehnbaa
