/- The store of bytes: Adopt. -/
import Derived.Test.YtlinkpjneehnbaaBlobF
namespace Go.Proofs.Ytlinkpjneehnbaa
set_option linter.unusedVariables false
set_option linter.unusedSimpArgs false
open Go.RowKit Go.MapKept

section
variable {w wr : World} {d st : Nat} {m : DM} {rs : List (Res w.heap.size)}
theorem askT (h : Own w wr (rDisk w.heap.size d m :: rs)) (hst : rObj w.heap.size st (.cells #[.pointer (some ⟨d, 0, none⟩)] 146) ∈ rs) (cl : List Value) :
    ∀ w1, Keeps (fun _ => False) (wr.alloc (.cells cl.toArray 58)) w1 → AskS st d wr.heap.size cl w1 ∧ Own w w1 (rDisk w.heap.size d m :: rs) := fun w1 hk => by
  have h1 : Own w w1 (rObj w.heap.size wr.heap.size (.cells cl.toArray 58) :: rDisk w.heap.size d m :: rs) := (h.alloc (.cells cl.toArray 58)).quiet hk
  refine ⟨⟨cell_at (i := 0) (h1.at (b := st) (o := .cells #[.pointer (some ⟨d, 0, none⟩)] 146) (by simp [hst])).1 rfl, fun k v hv => ?_⟩, h1.drop⟩
  rw [Nat.zero_add]
  exact cell_at (h1.at (List.mem_cons_self ..)).1 (by rw [List.getElem?_toArray]; exact hv)
set_option maxRecDepth 100000 in
set_option maxHeartbeats 1000000 in
theorem badopt_none (h : Own w wr (rDisk w.heap.size d m :: rs)) (hst : rObj w.heap.size st (.cells #[.pointer (some ⟨d, 0, none⟩)] 146) ∈ rs) (nm : ByteArray) (dg : List UInt8) (h0 : ¬ thereOf m nm = 0) :
    Calls Try.prog 49 #[.pointer (some ⟨st, 0, none⟩), .string nm, .agg (dg.map u8v).toArray] wr (QuietP wr (.int .i64 (thereOf m nm))) := by
  obtain ⟨cl, hcl⟩ : ∃ cl : List Value, cl = dg.map u8v := ⟨_, rfl⟩
  rw [← hcl]
  obtain ⟨⟨hc, _⟩, ho⟩ := askT h hst cl _ (Keeps.refl _ _)
  have HZ := Lib.hid (ho.size nm)
  have HK := Lib.hid ((Keeps.refl (fun _ => False) wr).alloc (.cells cl.toArray 58))
  have hb0 : (thereOf m nm != 0) = true := by simpa using h0
  generalize sizeCode m nm = sc at HZ
  generalize thereOf m nm = t at HZ hb0 ⊢
  clear h hst ho h0 hcl
  go_enter Try.func49, Try.ntmps49
  go_wp2_with fail
  refine HZ.out.out.mono ?_
  rintro e w' ⟨rfl, rfl⟩
  go_wp2_with fail
  go_ret
  exact ⟨rfl, HK.out⟩
/-- What Adopt reads of its file, and the sum of it. -/
theorem adopt_read (h : Own w wr (rDisk w.heap.size d m :: rs)) (hst : rObj w.heap.size st (.cells #[.pointer (some ⟨d, 0, none⟩)] 146) ∈ rs) {n : Nat} (hg : Good m n) (nm : ByteArray) (cl : List Value) (h0 : thereOf m nm = 0) :
    ∃ a c w2, Runs 27 #[.pointer (some ⟨d, 0, none⟩), .string nm, .int .i64 0, .int .i64 (sizeCode m nm)] (wr.alloc (.cells cl.toArray 58)) (.tuple #[.slice a (contOf m nm).length c, .int .i64 0]) w2 ∧ Keeps (fun _ => False) (wr.alloc (.cells cl.toArray 58)) w2 ∧
      ∀ W, Keeps (fun _ => False) w2 W → Calls Try.prog 45 #[.slice a (contOf m nm).length c] W (QuietP W (.agg ((sumOf (contOf m nm)).map u8v).toArray)) := by
  have hsc : sizeCode m nm = ((contOf m nm).length : Int) := by unfold sizeCode; rw [if_pos h0]; rfl
  have hrc : readCode m nm 0 (sizeCode m nm) = 0 := by unfold readCode; rw [if_pos h0, if_neg (by rw [hsc]; omega)]
  have hrb : readBytes m nm 0 (sizeCode m nm) = contOf m nm := by unfold readBytes; rw [if_pos h0, if_neg (by rw [hsc]; omega), hsc]; exact open_piece _
  have hl2 : (contOf m nm).length ≤ 67108864 := hg.get nm
  obtain ⟨_, ho⟩ := askT h hst cl _ (Keeps.refl _ _)
  obtain ⟨v, w2, hr, hB, hk, _⟩ := ho.read nm 0 (sizeCode m nm) (by have := hg.get nm; omega)
  rw [hrc] at hr
  rw [hrb] at hB
  obtain ⟨a, c, rfl, _, _⟩ := hB.form
  exact ⟨a, c, w2, hr, hk, fun W hkW => sum_calls (hB.reads.keep hkW) (by omega)⟩
set_option maxRecDepth 100000 in
set_option maxHeartbeats 1000000 in
theorem badopt_other (h : Own w wr (rDisk w.heap.size d m :: rs)) (hst : rObj w.heap.size st (.cells #[.pointer (some ⟨d, 0, none⟩)] 146) ∈ rs) {n : Nat} (hg : Good m n) (nm : ByteArray) (dg : List UInt8) (hl : dg.length = 32) (h0 : thereOf m nm = 0) (hne : ¬ sumOf (contOf m nm) = dg) :
    Calls Try.prog 49 #[.pointer (some ⟨st, 0, none⟩), .string nm, .agg (dg.map u8v).toArray] wr (QuietP wr (.int .i64 20)) := by
  obtain ⟨cl, hcl⟩ : ∃ cl : List Value, cl = dg.map u8v := ⟨_, rfl⟩
  have hund := Try.underlying58
  have hinfo : (Try.prog.info? 58).map (·.size) = some cl.length := by rw [hcl, List.length_map, hl]; kernel_rfl
  have heq := fun W => dig_eq (sumOf (contOf m nm)) dg (sumOf_length _) hl W
  rw [decide_eq_false hne, ← hcl] at heq
  rw [← hcl]
  obtain ⟨⟨hc, _⟩, ho⟩ := askT h hst cl _ (Keeps.refl _ _)
  have hz := ho.size nm
  rw [h0] at hz
  obtain ⟨a, c, w2, hr, hk, hs⟩ := adopt_read h hst hg nm cl h0
  have hask := fun W hkW => (askT h hst cl W hkW).1
  have hc2 := (hask w2 hk).1
  obtain ⟨sm, hsm⟩ : ∃ sm : List Value, sm = (sumOf (contOf m nm)).map u8v := ⟨_, rfl⟩
  rw [← hsm] at hs heq
  have HZ := Lib.hid hz
  have HR := Lib.hid hr
  have HS := Lib.hid (hs w2.drew ((Keeps.refl _ w2).drew))
  have HC := Lib.hid (fun (W : World) (hkW : Keeps (fun _ => False) w2.drew W) => (hask W (hk.trans (((Keeps.refl _ w2).drew).trans hkW (fun _ _ e => e)) (fun _ _ e => e))).2)
  have HK := Lib.hid ((((Keeps.refl (fun _ => False) wr).alloc (.cells cl.toArray 58)).trans hk (fun _ _ e => e)).drew)
  generalize (contOf m nm).length = n2 at HR HS
  generalize sizeCode m nm = sc at HZ HR
  clear h hst ho h0 hcl hg hne hz hr hk hs hask hsm hl
  go_enter Try.func49, Try.ntmps49
  go_wp2_with fail
  refine HZ.out.out.mono ?_
  rintro e w' ⟨rfl, rfl⟩
  go_wp2_with fail
  refine HR.out.out.mono ?_
  rintro e w' ⟨rfl, rfl⟩
  go_wp2_with fail
  go_region_held3 (fun w' => w'.rangeAt wr.heap.size 0 cl) (first | exact HC.out _ (Keeps.refl _ _) | exact HC.out _ hk4 | go_keep) (first | (go_at_call 45; refine HS.out.mono ?_; rintro e w4 ⟨rfl, hk4⟩))
  all_goals
    have HK4 := Lib.hid (HK.out.trans hk4 (fun _ _ e => e))
    clear hk4
    go_wp2_with fail
    go_ret
    exact ⟨rfl, HK4.out⟩
end
end Go.Proofs.Ytlinkpjneehnbaa
