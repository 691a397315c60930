/- The store of bytes: Adopt, where it takes the file. -/
import Derived.Test.YtlinkpjneehnbaaAdoptA
namespace Go.Proofs.Ytlinkpjneehnbaa
set_option linter.unusedVariables false
set_option linter.unusedSimpArgs false
open Go.RowKit Go.MapKept

section
variable {w wr : World} {d st : Nat} {m : DM} {rs : List (Res w.heap.size)}
set_option maxRecDepth 100000 in
set_option maxHeartbeats 1000000 in
theorem badopt_there (h : Own w wr (rDisk w.heap.size d m :: rs)) (hst : rObj w.heap.size st (.cells #[.pointer (some ⟨d, 0, none⟩)] 146) ∈ rs) {n : Nat} (hg : Good m n) (hn : n + 10 < 1099511627776) (nm : ByteArray) (dg : List UInt8) (hl : dg.length = 32) (h0 : thereOf m nm = 0) (he : sumOf (contOf m nm) = dg) (ht : thereOf m (fileOf dg) = 0) (hx : (removeOf m nm).1 = 0) :
    Calls Try.prog 49 #[.pointer (some ⟨st, 0, none⟩), .string nm, .agg (dg.map u8v).toArray] wr (DOwn w d rs (syncOf (removeOf m nm).2)) := by
  obtain ⟨cl, hcl⟩ : ∃ cl : List Value, cl = dg.map u8v := ⟨_, rfl⟩
  have hund := Try.underlying58
  have hinfo : (Try.prog.info? 58).map (·.size) = some cl.length := by rw [hcl, List.length_map, hl]; kernel_rfl
  have heq := fun W => dig_eq dg dg hl hl W
  rw [decide_eq_true rfl, ← hcl] at heq
  have hfile := fun W => file_calls W dg hl
  rw [← hcl] at hfile ⊢
  have hA := h.alloc2 (.cells cl.toArray 58)
  have hask : ∀ W, Own w W (rDisk w.heap.size d m :: rObj w.heap.size wr.heap.size (.cells cl.toArray 58) :: rs) → AskS st d wr.heap.size cl W := fun W ho => by
    refine ⟨cell_at (i := 0) (ho.at (b := st) (o := .cells #[.pointer (some ⟨d, 0, none⟩)] 146) (by simp [hst])).1 rfl, fun k v hv => ?_⟩
    rw [Nat.zero_add]
    exact cell_at (ho.at (b := wr.heap.size) (o := .cells cl.toArray 58) (by simp)).1 (by rw [List.getElem?_toArray]; exact hv)
  have hz := hA.size nm
  rw [h0] at hz
  obtain ⟨a, c, w2, hr, hk, hs⟩ := adopt_read h hst hg nm cl h0
  rw [he, ← hcl] at hs
  have h2 := hA.quiet hk
  have hc1 := (hask _ hA).1
  have hc2 := (hask _ h2).1
  have hs2 := hs w2.drew ((Keeps.refl _ w2).drew)
  have HZ := Lib.hid hz
  have HR := Lib.hid hr
  have HS := Lib.hid hs2
  have HF := Lib.hid hfile
  have H2 := Lib.hid (h2.drew)
  have HG := Lib.hid hg
  have HN := Lib.hid hn
  have HC := Lib.hid (fun (W : World) (hkW : Keeps (fun _ => False) w2.drew W) => (hask W (h2.drew.quiet hkW)))
  have HSZ := Lib.hid (fun (W : World) (hkW : Keeps (fun _ => False) w2.drew W) => (h2.drew.quiet hkW).size (fileOf dg))
  have HT := Lib.hid ht
  have HX := Lib.hid hx
  have hdo : ∀ W, Keeps (fun _ => False) w2.drew W → ∃ w', Runs 23 #[.pointer (some ⟨d, 0, none⟩), .string nm] W (.int .i64 0) w' ∧ w'.cell? ⟨st, 0, none⟩ = some (.pointer (some ⟨d, 0, none⟩)) ∧ Calls Try.prog 24 #[.pointer (some ⟨d, 0, none⟩)] w' (DOwn w d (rObj w.heap.size wr.heap.size (.cells cl.toArray 58) :: rs) (syncOf (removeOf m nm).2)) := fun W hkW => by
    obtain ⟨w', hr', ho'⟩ := (h2.drew.quiet hkW).remove nm hg.fuse (by have := hg.len; omega)
    rw [hx] at hr'
    exact ⟨w', hr', cell_at (i := 0) (ho'.at (b := st) (o := .cells #[.pointer (some ⟨d, 0, none⟩)] 146) (by simp [hst])).1 rfl, ho'.sync (hg.remove nm).fuse (hg.remove nm).fits1⟩
  have HDO := Lib.hid hdo
  generalize syncOf (removeOf m nm).2 = q at HDO ⊢
  clear hdo
  generalize (contOf m nm).length = n2 at HR HS
  generalize sizeCode m nm = sc at HZ HR
  clear h hst h0 hg hn hz hr hk hs hl he hA h2 hs2 hask hfile hcl ht hx
  go_enter Try.func49, Try.ntmps49
  go_wp2_with fail
  refine HZ.out.out.mono ?_
  rintro e w' ⟨rfl, rfl⟩
  go_wp2_with fail
  refine HR.out.out.mono ?_
  rintro e w' ⟨rfl, rfl⟩
  clear hc1 HZ HR
  go_wp2_with fail
  go_region_held3 (fun w' => w'.rangeAt wr.heap.size 0 cl) (first | exact (HC.out _ (Keeps.refl _ _)).2 | exact (HC.out _ hk4).2 | go_keep) (first | (go_at_call 45; refine HS.out.mono ?_; rintro e w4 ⟨rfl, hk4⟩))
  all_goals
    have hd4 : Keeps (fun _ => False) w2.drew w4.drew := hk4.drew
    have HC4 := Lib.hid (fun (W : World) (hkW : Keeps (fun _ => False) w4.drew W) => HC.out W (hd4.trans hkW (fun _ _ e => e)))
    have hsz4 := fun (W : World) (hkW : Keeps (fun _ => False) w4.drew W) => HSZ.out W (hd4.trans hkW (fun _ _ e => e))
    rw [HT.out] at hsz4
    generalize sizeCode m (fileOf dg) = sc2 at hsz4
    generalize fileOf dg = fl at hsz4 HF
    have HSZ4 := Lib.hid hsz4
    have HD4 := Lib.hid hd4
    clear hk4 hd4 hc2 hsz4 HS
    go_wp2_with fail
    go_region_held3 (fun w' => w'.cell? ⟨st, 0, none⟩ = some (.pointer (some ⟨d, 0, none⟩)) ∧ w'.rangeAt wr.heap.size 0 cl) (first | exact HC4.out _ (Keeps.refl _ _) | exact HC4.out _ hk5 | go_keep) (first | (go_at_call 69; refine (HF.out _).mono ?_; rintro e w5 ⟨rfl, hk5⟩) | (go_at_call 59; refine (HSZ4.out _ hk5).out.mono ?_; rintro e w' ⟨rfl, rfl⟩))
  all_goals
    obtain ⟨w6, hr6, hc6, hsy⟩ := HDO.out w5 (HD4.out.trans hk5 (fun _ _ e => e))
    have hc5 := (HC4.out _ hk5).1
    have HR6 := Lib.hid hr6
    have HSY := Lib.hid hsy
    clear hk5 hr6 hsy
    go_wp2_with fail
    refine HR6.out.out.mono ?_
    rintro e w' ⟨rfl, rfl⟩
    clear hc5
    go_wp2_with fail
    refine HSY.out.mono ?_
    rintro e w7 ⟨rfl, h7⟩
    have H7 := Lib.hid h7.drop2
    clear h7
    go_wp2_with fail
    go_ret
    exact ⟨rfl, H7.out⟩
set_option maxRecDepth 100000 in
set_option maxHeartbeats 1000000 in
theorem badopt_new (h : Own w wr (rDisk w.heap.size d m :: rs)) (hst : rObj w.heap.size st (.cells #[.pointer (some ⟨d, 0, none⟩)] 146) ∈ rs) {n : Nat} (hg : Good m n) (hn : n + 10 < 1099511627776) (nm : ByteArray) (dg : List UInt8) (hl : dg.length = 32) (h0 : thereOf m nm = 0) (he : sumOf (contOf m nm) = dg) (ht : ¬ thereOf m (fileOf dg) = 0) (hx : (renameOf m nm (fileOf dg)).1 = 0) :
    Calls Try.prog 49 #[.pointer (some ⟨st, 0, none⟩), .string nm, .agg (dg.map u8v).toArray] wr (DOwn w d rs (syncOf (renameOf m nm (fileOf dg)).2)) := by
  obtain ⟨cl, hcl⟩ : ∃ cl : List Value, cl = dg.map u8v := ⟨_, rfl⟩
  have hund := Try.underlying58
  have hinfo : (Try.prog.info? 58).map (·.size) = some cl.length := by rw [hcl, List.length_map, hl]; kernel_rfl
  have heq := fun W => dig_eq dg dg hl hl W
  rw [decide_eq_true rfl, ← hcl] at heq
  have hfile := fun W => file_calls W dg hl
  rw [← hcl] at hfile ⊢
  have hA := h.alloc2 (.cells cl.toArray 58)
  have hask : ∀ W, Own w W (rDisk w.heap.size d m :: rObj w.heap.size wr.heap.size (.cells cl.toArray 58) :: rs) → AskS st d wr.heap.size cl W := fun W ho => by
    refine ⟨cell_at (i := 0) (ho.at (b := st) (o := .cells #[.pointer (some ⟨d, 0, none⟩)] 146) (by simp [hst])).1 rfl, fun k v hv => ?_⟩
    rw [Nat.zero_add]
    exact cell_at (ho.at (b := wr.heap.size) (o := .cells cl.toArray 58) (by simp)).1 (by rw [List.getElem?_toArray]; exact hv)
  have hz := hA.size nm
  rw [h0] at hz
  obtain ⟨a, c, w2, hr, hk, hs⟩ := adopt_read h hst hg nm cl h0
  rw [he, ← hcl] at hs
  have h2 := hA.quiet hk
  have hc1 := (hask _ hA).1
  have hc2 := (hask _ h2).1
  have hs2 := hs w2.drew ((Keeps.refl _ w2).drew)
  have HZ := Lib.hid hz
  have HR := Lib.hid hr
  have HS := Lib.hid hs2
  have HF := Lib.hid hfile
  have H2 := Lib.hid (h2.drew)
  have HG := Lib.hid hg
  have HN := Lib.hid hn
  have HC := Lib.hid (fun (W : World) (hkW : Keeps (fun _ => False) w2.drew W) => (hask W (h2.drew.quiet hkW)))
  have HSZ := Lib.hid (fun (W : World) (hkW : Keeps (fun _ => False) w2.drew W) => (h2.drew.quiet hkW).size (fileOf dg))
  have HT := Lib.hid ht
  have HX := Lib.hid hx
  have hdo : ∀ W, Keeps (fun _ => False) w2.drew W → ∃ w', Runs 60 #[.pointer (some ⟨d, 0, none⟩), .string nm, .string (fileOf dg)] W (.int .i64 0) w' ∧ AskS st d wr.heap.size cl w' ∧ Calls Try.prog 24 #[.pointer (some ⟨d, 0, none⟩)] w' (DOwn w d (rObj w.heap.size wr.heap.size (.cells cl.toArray 58) :: rs) (syncOf (renameOf m nm (fileOf dg)).2)) := fun W hkW => by
    obtain ⟨w', hr', ho'⟩ := (h2.drew.quiet hkW).rename nm (fileOf dg) hg.fuse (by have := hg.len; omega)
    rw [hx] at hr'
    refine ⟨w', hr', ⟨cell_at (i := 0) (ho'.at (b := st) (o := .cells #[.pointer (some ⟨d, 0, none⟩)] 146) (by simp [hst])).1 rfl, fun k v hv => ?_⟩, ho'.sync (hg.rename nm (fileOf dg)).fuse (hg.rename nm (fileOf dg)).fits1⟩
    rw [Nat.zero_add]
    exact cell_at (ho'.at (b := wr.heap.size) (o := .cells cl.toArray 58) (by simp)).1 (by rw [List.getElem?_toArray]; exact hv)
  have HDO := Lib.hid hdo
  generalize syncOf (renameOf m nm (fileOf dg)).2 = q at HDO ⊢
  have hb0 : (thereOf m (fileOf dg) == 0) = false := by simpa using ht
  clear hdo
  generalize (contOf m nm).length = n2 at HR HS
  generalize sizeCode m nm = sc at HZ HR
  clear h hst h0 hg hn hz hr hk hs hl he hA h2 hs2 hask hfile hcl ht hx
  go_enter Try.func49, Try.ntmps49
  go_wp2_with fail
  refine HZ.out.out.mono ?_
  rintro e w' ⟨rfl, rfl⟩
  go_wp2_with fail
  refine HR.out.out.mono ?_
  rintro e w' ⟨rfl, rfl⟩
  clear hc1 HZ HR
  go_wp2_with fail
  go_region_held3 (fun w' => w'.rangeAt wr.heap.size 0 cl) (first | exact (HC.out _ (Keeps.refl _ _)).2 | exact (HC.out _ hk4).2 | go_keep) (first | (go_at_call 45; refine HS.out.mono ?_; rintro e w4 ⟨rfl, hk4⟩))
  all_goals
    have hd4 : Keeps (fun _ => False) w2.drew w4.drew := hk4.drew
    have HC4 := Lib.hid (fun (W : World) (hkW : Keeps (fun _ => False) w4.drew W) => HC.out W (hd4.trans hkW (fun _ _ e => e)))
    have hsz4 := fun (W : World) (hkW : Keeps (fun _ => False) w4.drew W) => HSZ.out W (hd4.trans hkW (fun _ _ e => e))
    generalize thereOf m (fileOf dg) = t at hsz4 hb0
    generalize sizeCode m (fileOf dg) = sc2 at hsz4
    generalize fileOf dg = fl at hsz4 HF HDO
    have HSZ4 := Lib.hid hsz4
    have HD4 := Lib.hid hd4
    clear hk4 hd4 hc2 hsz4 HS
    go_wp2_with fail
    go_region_held3 (fun w' => w'.cell? ⟨st, 0, none⟩ = some (.pointer (some ⟨d, 0, none⟩)) ∧ w'.rangeAt wr.heap.size 0 cl) (first | exact HC4.out _ (Keeps.refl _ _) | exact HC4.out _ hk5 | go_keep) (first | (go_at_call 69; refine (HF.out _).mono ?_; rintro e w5 ⟨rfl, hk5⟩) | (go_at_call 59; refine (HSZ4.out _ hk5).out.mono ?_; rintro e w' ⟨rfl, rfl⟩))
  all_goals
    have hk5d : Keeps (fun _ => False) w4.drew w5.drew := hk5.drew
    have HC5 := Lib.hid (fun (W : World) (hkW : Keeps (fun _ => False) w5.drew W) => HC4.out W (hk5d.trans hkW (fun _ _ e => e)))
    have HDO5 := Lib.hid (fun (W : World) (hkW : Keeps (fun _ => False) w5.drew W) => HDO.out W (HD4.out.trans (hk5d.trans hkW (fun _ _ e => e)) (fun _ _ e => e)))
    clear hk5 hk5d HSZ4
    go_wp2_with fail
    go_region_held3 (fun w' => w'.cell? ⟨st, 0, none⟩ = some (.pointer (some ⟨d, 0, none⟩)) ∧ w'.rangeAt wr.heap.size 0 cl) (first | exact HC5.out _ (Keeps.refl _ _) | exact hc6 | exact HC5.out _ hk6 | go_keep) (first | (go_at_call 69; refine (HF.out _).mono ?_; rintro e w6 ⟨rfl, hk6⟩) | (go_at_call 60; obtain ⟨w7, hr6, hc6, hsy⟩ := HDO5.out _ hk6; refine hr6.out.mono ?_; rintro e w' ⟨rfl, rfl⟩))
  all_goals
    have HSY := Lib.hid hsy
    have hc7 := hc6.1
    clear hk6 hr6 hsy hc6
    go_wp2_with fail
    refine HSY.out.mono ?_
    rintro e w8 ⟨rfl, h7⟩
    have H7 := Lib.hid h7.drop2
    clear h7
    go_wp2_with fail
    go_ret
    exact ⟨rfl, H7.out⟩
end
end Go.Proofs.Ytlinkpjneehnbaa
