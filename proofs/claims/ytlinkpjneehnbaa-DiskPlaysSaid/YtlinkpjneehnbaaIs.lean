/- The law's Is: the walk. -/
import Derived.Test.YtlinkpjneehnbaaRCrash
import Derived.Test.YtlinkpjneehnbaaNames
namespace Go.Proofs.Ytlinkpjneehnbaa
set_option linter.unusedVariables false
open Go.RowKit Go.MapKept

theorem Own.rsync {w wr : World} {r : Nat} {m : DM} {rs : List (Res w.heap.size)} (h : Own w wr (rRef w.heap.size r m :: rs)) {n t : Nat} (ht : Tidy m n t) :
    ∃ w', Runs 63 #[.pointer (some ⟨r, 0, none⟩)] wr (.int .i64 (syncOf m).1) w' ∧ Own w w' (rRef w.heap.size r (syncOf m).2 :: rs) := by
  obtain ⟨F, h1, h2, back⟩ := h.open1
  obtain ⟨w', hr, h3, h4⟩ := rsync_runs (h1 : RefIs F wr r m) ht.good.now ht.good.fuse
  obtain ⟨vn, vs, vl, h3⟩ := h3
  exact ⟨w', hr, back w' (rRef _ r (syncOf m).2) h4 ⟨vn, vs, vl, h3.quiet (Keeps.refl _ _) (fun b hb _ => .inl hb) (fun b hb => by rcases hb with hb | hb; exact h3.lt b hb; exact hb.2)⟩⟩
theorem Own.rcrash {w wr : World} {r : Nat} {m : DM} {rs : List (Res w.heap.size)} (h : Own w wr (rRef w.heap.size r m :: rs)) {n t : Nat} (ht : Tidy m n t) (htt : t < 549755813888) (keep part : Int) :
    Calls Try.prog 98 #[.pointer (some ⟨r, 0, none⟩), .int .i64 keep, .int .i64 part] wr (fun e w' => e = .returned (.tuple #[]) ∧ Own w w' (rRef w.heap.size r (crashOf m keep part) :: rs)) := by
  obtain ⟨F, h1, h2, back⟩ := h.open1
  refine (rcrash_calls (h1 : RefIs F wr r m) ht htt keep part).mono ?_
  rintro e w' ⟨he, h3, h4⟩
  exact ⟨he, back w' (rRef _ r (crashOf m keep part)) h4 h3⟩

theorem begins_empty (s : ByteArray) : beginsB s ⟨#[]⟩ = true := by
  unfold beginsB
  have : (⟨#[]⟩ : ByteArray).size = 0 := rfl
  rw [this]
  have e : s.extract 0 0 = ⟨#[]⟩ := by simp; rfl
  rw [e]
  simp
theorem namesOf_empty (fs : FS) : namesOf fs ⟨#[]⟩ = fs.map (·.1) := by
  unfold namesOf
  rw [List.filter_eq_self.2 (fun p _ => begins_empty p.1)]

set_option maxRecDepth 100000 in
set_option maxHeartbeats 2000000 in
theorem is_calls {w0 w : World} {d r : Nat} {m : DM} {rs : List (Res w0.heap.size)} (ho : Own w0 w (rDisk w0.heap.size d m :: rRef w0.heap.size r m :: rs)) {n t : Nat} (ht : Tidy m n t) (htt : t < 549755813888) :
    Calls Try.prog 58 #[.pointer (some ⟨d, 0, none⟩), .pointer (some ⟨r, 0, none⟩)] w (QuietP w (.bool true)) := by
  obtain ⟨Fd, hdi, _⟩ := ho.disk
  obtain ⟨F, vn, vs, vl, href⟩ := ho.ref (r := r) (m := m) (by simp)
  obtain ⟨na, nc, rfl, hnc, _⟩ := href.now.form
  obtain ⟨la, lc, rfl⟩ := href.loose.form
  have r1 := href.cells.c1
  have r3 := href.cells.c3
  have r5 := href.cells.c5
  have hdown := down_runs (hdi.keep (w' := w.drew) (fun _ _ => rfl))
  have hkd : Keeps (fun _ => False) w w.drew := (Keeps.refl _ w).drew
  have hloose := fun w1 (hk : Keeps (fun _ => False) w.drew w1) => loose_runs (hdi.keeps (hkd.trans hk (fun _ _ e => e)) (fun _ _ e => e))
  have hun := ht.good.unow
  have hr1 := ht.good.room1
  have hused := used_calls (hdi.keep (w' := w.drew) (fun _ _ => rfl)) (by omega)
  have hrused := fun w1 (hk : Keeps (fun _ => False) w.drew w1) => rused_runs (href.now.quiet (hkd.trans hk (fun _ _ e => e)) (G := F) (fun _ h _ => h)) (by have := ht.lnow; omega) (by omega)
  have hck := fun w1 (hk : Keeps (fun _ => False) w.drew w1) => (href.quiet (hkd.trans hk (fun _ _ e => e)) (G := F) (fun _ h _ => h) (fun b hb => by have := href.lt b hb; have := hk.size; simp only [drew_size] at this; omega)).cells
  have hck2 := fun w1 (hk : Keeps (fun _ => False) w.drew w1) => (⟨(hck w1 hk).c1, (hck w1 hk).c3, (hck w1 hk).c5⟩ : w1.cell? ⟨r, 1, none⟩ = some (.slice na m.now.length nc) ∧ w1.cell? ⟨r, 3, none⟩ = some (.slice la m.loose.length lc) ∧ w1.cell? ⟨r, 5, none⟩ = some (.bool m.down))
  have HCK := Lib.hid hck2
  clear hck hck2
  have HL := Lib.hid hloose
  have HU := Lib.hid hused
  have HRU := Lib.hid hrused
  have HDI := Lib.hid hdi
  have HREF := Lib.hid href
  have HT := Lib.hid ht
  clear hloose hused hrused hdi href ho ht
  go_enter Try.func58, Try.ntmps58
  go_wp2_with fail
  go_region_held3 (fun w' => w'.cell? ⟨r, 1, none⟩ = some (.slice na m.now.length nc) ∧ w'.cell? ⟨r, 3, none⟩ = some (.slice la m.loose.length lc) ∧ w'.cell? ⟨r, 5, none⟩ = some (.bool m.down)) (first | exact ⟨r1, r3, r5⟩ | exact HCK.out _ hk1 | go_keep) (first | (go_at_call 47; refine hdown.out.mono ?_; rintro e w' ⟨rfl, rfl⟩) | (go_at_call 22; refine HU.out.mono ?_; rintro e w1 ⟨rfl, hk1⟩) | (go_at_call 101; refine (HRU.out _ hk1).out.mono ?_; rintro e w' ⟨rfl, rfl⟩) | (go_at_call 26; refine (HL.out _ hk1).out.mono ?_; rintro e w' ⟨rfl, rfl⟩))
  go_wp2_with fail
  have hk01 : Keeps (fun _ => False) w w1 := hkd.trans hk1 (fun _ _ e => e)
  have hd1 := HDI.out.keeps hk01 (fun _ _ e => e)
  have hlt1 : ∀ b, F b → b < w1.heap.size := fun b hb => by have := HREF.out.lt b hb; have := hk01.size; omega
  have h1 := HREF.out.quiet hk01 (G := F) (fun _ h _ => h) hlt1
  obtain ⟨q1, q3, q5⟩ := HCK.out _ hk1
  clear r1 r3 r5 HCK HL HU HRU hk1 hkd hdown HDI HREF
  cases hdn : m.down with
  | true =>
    have hup := up_runs hd1
    rw [show upOf m = 5 by unfold upOf; rw [hdn]; rfl] at hup
    have hnm := names_down ⟨#[]⟩ hup
    rw [hdn] at q5
    have HK := Lib.hid hk01
    clear hd1 h1 hup hk01
    refine hnm.out.mono ?_
    rintro e w' ⟨rfl, rfl⟩
    go_wp2_with fail
    go_ret
    exact ⟨rfl, HK.out⟩
  | false =>
    rw [hdn] at q5
    have hnm := names_calls hd1 ⟨#[]⟩ hdn HT.out.snow (fun p hp => by have := HT.out.names p hp; unfold maxLen; omega) (by have := HT.out.lnow; omega)
    rw [namesOf_empty] at hnm
    refine hnm.mono ?_
    rintro e w2 ⟨v2, rfl, hs2, k2⟩
    obtain ⟨a2, c2, rfl⟩ := hs2.form
    rw [List.length_map]
    have hk02 : Keeps (fun _ => False) w w2 := hk01.trans k2 (fun _ _ e => e)
    have hd2 := hd1.keeps k2 (fun _ _ e => e)
    have hlt2 : ∀ b, F b → b < w2.heap.size := fun b hb => by have := hlt1 b hb; have := k2.size; omega
    have h2 := h1.quiet k2 (G := F) (fun _ h _ => h) hlt2
    have q1 := h2.cells.c1
    have q5 := h2.cells.c5
    rw [hdn] at q5
    have i1 : (m.now.length : Int) ≤ 549755813888 := by have := HT.out.lnow; omega
    have H2 := Lib.hid h2
    have HD2 := Lib.hid hd2
    have HS2 := Lib.hid hs2
    have HK02 := Lib.hid hk02
    clear hd1 h1 hnm hk01 hk02 hd2 h2 hs2 k2
    go_wp2_with fail
    clear q1 q5
    go_loopw [73] (fun i wx => ∃ (k : Nat), k ≤ m.now.length ∧ i = .int .i64 (k : Int) ∧ Keeps (fun _ => False) w2 wx) (fun i _ => m.now.length - (intOf i).toNat)
    case atStart => exact ⟨0, Nat.zero_le _, rfl, Keeps.refl _ _⟩
    case round =>
      obtain ⟨k, hk, rfl, hq⟩ := hrel
      have j0 : (0 : Int) ≤ k := by omega
      by_cases hlt : k < m.now.length
      · obtain ⟨f, hf⟩ : ∃ f, m.now[k]? = some f := ⟨m.now[k], List.getElem?_eq_getElem hlt⟩
        have j1 : (k : Int) < m.now.length := by omega
        obtain ⟨g, cap', p, e, hc1, hc2, hB⟩ := (H2.out.now.quiet hq (G := F) (fun _ h _ => h)).cell hf
        simp only [Value.slice.injEq] at e
        obtain ⟨rfl, -, rfl⟩ := e
        obtain ⟨pa, pc, rfl, _, _⟩ := hB.form
        obtain ⟨g2, rfl, hl1, hl2, _⟩ := (HS2.out.keep hq).cell (i := k) (s := f.1) (by rw [List.getElem?_map, hf]; rfl)
        obtain ⟨w5, hw5⟩ : ∃ w5, w5 = wr.alloc (.cells #[.string f.1, .slice pa f.2.length pc] 86) := ⟨_, rfl⟩
        have hk5 : Keeps (fun _ => False) wr w5 := by rw [hw5]; exact (Keeps.refl _ wr).alloc _
        have hb5 : w5.heap[wr.heap.size]? = some (.cells #[.string f.1, .slice pa f.2.length pc] 86 (0, 0)) := by rw [hw5]; exact heap_alloc_new _ _
        have g5 : w5.cell? ⟨wr.heap.size, 0, none⟩ = some (.string f.1) := cell_at hb5 rfl
        have hq5 := hq.trans hk5 (fun _ _ e => e)
        have hd5 := HD2.out.keeps hq5 (fun _ _ e => e)
        have hg : fget m.now f.1 = some f.2 := fget_mem HT.out.good.nnow (List.mem_of_getElem? hf)
        have hth : thereOf m f.1 = 0 := by simp [thereOf, hdn, hg]
        have hsz := size_runs hd5 f.1
        rw [show sizeCode m f.1 = (f.2.length : Int) by simp [sizeCode, hth, hg], hth] at hsz
        have hgl := HT.out.good.get f.1
        obtain ⟨v6, w6, hrd, hB6, hk6⟩ := read_runs hd5 f.1 0 (f.2.length : Int) (by omega)
        rw [show readCode m f.1 0 (f.2.length : Int) = 0 by unfold readCode; rw [if_pos hth, if_neg (by omega)]] at hrd
        rw [show readBytes m f.1 0 (f.2.length : Int) = f.2 by unfold readBytes; rw [if_pos hth, if_neg (by omega), hg]; simp [pieceOf]] at hB6
        obtain ⟨a6, c6, rfl, _, _⟩ := hB6.form
        have hb6 := hk6.at hb5 (fun e => e)
        have g60 : w6.cell? ⟨wr.heap.size, 0, none⟩ = some (.string f.1) := cell_at hb6 rfl
        have g61 : w6.cell? ⟨wr.heap.size, 1, none⟩ = some (.slice pa f.2.length pc) := cell_at hb6 rfl
        have hk56 := hk5.trans hk6 (fun _ _ e => e)
        have hl6 : w6.cell? ⟨g2, k, none⟩ = some (.string f.1) := (World.cell?_of_block (hk56.block _ (World.block_lt_of_cell? wr _ hl1) (fun e => e))).trans hl1
        have hsm := same_calls (w := w6.drew) (hB6.reads.keep (Keeps.refl _ w6).drew) ((hB.reads.keep hk56).keep (Keeps.refl _ w6).drew)
        rw [decide_eq_true rfl] at hsm
        have HSM := Lib.hid hsm
        have HQ6 := Lib.hid (hq.trans hk56 (fun _ _ e => e))
        have hcc : ∀ w7, Keeps (fun _ => False) w6.drew w7 → w7.cell? ⟨g2, k, none⟩ = some (.string f.1) ∧ w7.cell? ⟨wr.heap.size, 0, none⟩ = some (.string f.1) ∧ w7.cell? ⟨wr.heap.size, 1, none⟩ = some (.slice pa f.2.length pc) := fun w7 hk7 =>
          ⟨(World.cell?_of_block (hk7.undrew.block _ (World.block_lt_of_cell? w6 _ hl6) (fun e => e))).trans hl6, cell_at (hk7.undrew.at hb6 (fun e => e)) rfl, cell_at (hk7.undrew.at hb6 (fun e => e)) rfl⟩
        have HCC := Lib.hid hcc
        clear hq hB hk5 hb5 hq5 hd5 hg hth hgl hB6 hk6 hb6 hk56 hsm hcc hf H2 HD2 HS2
        go_wp2_with fail
        rw [← hw5]
        clear hw5
        refine hsz.out.mono ?_
        rintro e w' ⟨rfl, rfl⟩
        go_wp2_with fail
        refine hrd.out.mono ?_
        rintro e w' ⟨rfl, rfl⟩
        go_wp2_with fail
        go_region_held3 (fun w' => w'.cell? ⟨g2, k, none⟩ = some (.string f.1) ∧ w'.cell? ⟨wr.heap.size, 0, none⟩ = some (.string f.1) ∧ w'.cell? ⟨wr.heap.size, 1, none⟩ = some (.slice pa f.2.length pc)) (first | exact ⟨hl6, g60, g61⟩ | exact HCC.out _ hk7 | go_keep) (first | (go_at_call 28; refine HSM.out.mono ?_; rintro e w7 ⟨rfl, hk7⟩))
        have HQ7 := Lib.hid (HQ6.out.trans hk7.undrew (fun _ _ e => e))
        clear hk7
        go_wp2_with fail
        go_roundw
        case rel => exact ⟨k + 1, by omega, rfl, HQ7.out⟩
        case measure => simp [intOf]; omega
      · obtain rfl : k = m.now.length := by omega
        have HQ := Lib.hid (HK02.out.trans hq (fun _ _ e => e))
        clear hq H2 HD2 HS2
        go_wp2_with fail
        go_ret
        exact ⟨rfl, HQ.out⟩
end Go.Proofs.Ytlinkpjneehnbaa
