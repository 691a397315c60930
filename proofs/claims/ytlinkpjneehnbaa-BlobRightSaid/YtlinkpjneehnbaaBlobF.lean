/- The store of bytes: Whole. -/
import Derived.Test.YtlinkpjneehnbaaBlobG
namespace Go.Proofs.Ytlinkpjneehnbaa
set_option linter.unusedVariables false
set_option linter.unusedSimpArgs false
open Go.RowKit Go.MapKept

def contOf (m : DM) (n : ByteArray) : List UInt8 := (fget m.now n).getD []
def wholeOf (m : DM) (dg : List UInt8) : Bool := decide (thereOf m (fileOf dg) = 0) && decide (sumOf (contOf m (fileOf dg)) = dg)
section
variable {w wr : World} {d st : Nat} {m : DM} {rs : List (Res w.heap.size)}
set_option maxRecDepth 100000 in
set_option maxHeartbeats 1000000 in
theorem bwhole_calls (h : Own w wr (rDisk w.heap.size d m :: rs)) (hst : rObj w.heap.size st (.cells #[.pointer (some ⟨d, 0, none⟩)] 146) ∈ rs) {n : Nat} (hg : Good m n) {dg : List UInt8} (hl : dg.length = 32) :
    Calls Try.prog 50 #[.pointer (some ⟨st, 0, none⟩), .agg (dg.map u8v).toArray] wr (QuietP wr (.bool (wholeOf m dg))) := by
  obtain ⟨cl, hcl⟩ : ∃ cl : List Value, cl = dg.map u8v := ⟨_, rfl⟩
  have hdz : cl.toArray.size = 32 := by rw [hcl]; simp [hl]
  have hinfo : (Try.prog.info? 58).map (·.size) = some cl.length := by rw [hcl, List.length_map, hl]; kernel_rfl
  have hund := Try.underlying58
  have h1 := h.alloc2 (.cells cl.toArray 58)
  have hsz := bsize_calls h1 (st := st) (by simp [hst]) hl
  rw [← hcl] at hsz ⊢
  obtain ⟨R, hR⟩ : ∃ R, R = wholeOf m dg := ⟨_, rfl⟩
  rw [← hR]
  have hk1 : Keeps (fun _ => False) wr (wr.alloc (.cells cl.toArray 58)) := (Keeps.refl _ wr).alloc _
  have hb := heap_alloc_new wr (.cells cl.toArray 58)
  have HK1 := Lib.hid hk1
  have HB := Lib.hid hb
  have HSZ := Lib.hid hsz
  have HI := Lib.hid (dig_info hdz)
  have hg2 := hg.get (fileOf dg)
  obtain ⟨tt, htt⟩ : ∃ tt, tt = thereOf m (fileOf dg) := ⟨_, rfl⟩
  have hrds := fun (W : World) (hk : Keeps (fun _ => False) (wr.alloc (.cells cl.toArray 58)) W) => bread_calls (h1.quiet hk) (st := st) (by simp [hst]) hl 0 (sizeCode m (fileOf dg)) hg
  by_cases h0 : thereOf m (fileOf dg) = 0
  · have hsc : sizeCode m (fileOf dg) = ((contOf m (fileOf dg)).length : Int) := by unfold sizeCode; rw [if_pos h0]; rfl
    have hrc : readCode m (fileOf dg) 0 (sizeCode m (fileOf dg)) = 0 := by unfold readCode; rw [if_pos h0, if_neg (by rw [hsc]; omega)]
    have hrb : readBytes m (fileOf dg) 0 (sizeCode m (fileOf dg)) = contOf m (fileOf dg) := by unfold readBytes; rw [if_pos h0, if_neg (by rw [hsc]; omega), hsc]; exact open_piece _
    have hRe : R = decide (sumOf (contOf m (fileOf dg)) = dg) := by rw [hR, wholeOf, h0]; simp
    rw [h0] at HSZ
    rw [hrc, hrb, ← hcl] at hrds
    have hcl2 : (contOf m (fileOf dg)).length ≤ 67108864 := hg2
    generalize sizeCode m (fileOf dg) = sc at HSZ hrds
    generalize contOf m (fileOf dg) = C at hrds hRe hcl2
    have HRD := Lib.hid hrds
    have HRE := Lib.hid hRe
    have HCL := Lib.hid hcl
    have HC2 := Lib.hid hcl2
    have HL := Lib.hid hl
    clear h h1 hst hg hsz hk1 hb hrds hRe hcl hR htt h0 hsc hrc hrb hg2 hdz hcl2 hl
    go_enter Try.func50, Try.ntmps50
    go_wp2_with (first | (refine wpList_load_row rfl 58 _ rfl wr.heap.size rfl 58 cl.toArray (0, 0) _ HB.out Try.underlying58 rfl HI.out ?_))
    refine HSZ.out.mono ?_
    rintro e w2 ⟨rfl, hk2⟩
    have hb2 := hk2.at HB.out (fun e => e)
    have HB2 := Lib.hid hb2
    have HR2 := Lib.hid (HRD.out w2 hk2)
    have HK2 := Lib.hid (HK1.out.trans hk2 (fun _ _ e => e))
    clear hb2 hk2 HSZ HRD
    go_wp2_with (first | (refine wpList_load_row rfl 58 _ rfl wr.heap.size rfl 58 cl.toArray (0, 0) _ HB2.out Try.underlying58 rfl HI.out ?_))
    refine HR2.out.mono ?_
    rintro e w3 ⟨v, rfl, hrd, hk3⟩
    have hb3 := hk3.at HB2.out (fun e => e)
    obtain ⟨ra, rc, rfl, _, _⟩ := hrd.form
    have hsum := fun (W : World) (hk : Keeps (fun _ => False) w3 W) => sum_calls (hrd.keep hk) (by have := HC2.out; omega)
    have hck : ∀ W, Keeps (fun _ => False) w3.drew W → W.rangeAt wr.heap.size 0 cl := fun W hk k v hv => by
      rw [Nat.zero_add]
      exact cell_at (hk.at (w := w3.drew) hb3 (fun e => e)) (by rw [List.getElem?_toArray]; exact hv)
    have HS := Lib.hid (hsum w3.drew ((Keeps.refl _ w3).drew))
    have HCK := Lib.hid hck
    have HK3 := Lib.hid (HK2.out.trans hk3 (fun _ _ e => e))
    clear hb3 hk3 hrd hsum hck HR2 HB2 HB
    have heq := fun W => dig_eq (sumOf C) dg (sumOf_length C) HL.out W
    rw [← HCL.out] at heq
    generalize C.length = clen at HS ⊢
    go_wp2_with fail
    go_region_held3 (fun w' => w'.rangeAt wr.heap.size 0 cl) (first | exact HCK.out _ (Keeps.refl _ _) | exact HCK.out _ hk4 | go_keep) (first | (go_at_call 45; refine HS.out.mono ?_; rintro e w4 ⟨rfl, hk4⟩))
    all_goals
      have HK4 := Lib.hid (HK3.out.trans hk4.undrew (fun _ _ e => e))
      clear hk4
      go_wp2_with fail
      go_ret
      exact ⟨by rw [HRE.out]; rfl, HK4.out⟩
  · have hRe : R = false := by rw [hR, wholeOf, decide_eq_false h0]; rfl
    have hb0 : (thereOf m (fileOf dg) != 0) = true := by simpa using h0
    generalize sizeCode m (fileOf dg) = sc at HSZ
    generalize thereOf m (fileOf dg) = t at HSZ hb0
    have HRE := Lib.hid hRe
    clear h h1 hst hg hsz hk1 hb hrds hRe hcl hR htt h0 hg2 hdz hl
    go_enter Try.func50, Try.ntmps50
    go_wp2_with (first | (refine wpList_load_row rfl 58 _ rfl wr.heap.size rfl 58 cl.toArray (0, 0) _ HB.out Try.underlying58 rfl HI.out ?_))
    refine HSZ.out.mono ?_
    rintro e w2 ⟨rfl, hk2⟩
    have HK2 := Lib.hid (HK1.out.trans hk2 (fun _ _ e => e))
    clear hk2 HSZ
    go_wp2_with fail
    go_ret
    exact ⟨by rw [HRE.out]; rfl, HK2.out⟩
end
end Go.Proofs.Ytlinkpjneehnbaa
