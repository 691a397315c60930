/- The store of bytes: Delete and List. -/
import Derived.Test.YtlinkpjneehnbaaUnhex
namespace Go.Proofs.Ytlinkpjneehnbaa
set_option linter.unusedVariables false
set_option linter.unusedSimpArgs false
open Go.RowKit Go.MapKept

section
variable {w wr : World} {d st : Nat} {m : DM} {rs : List (Res w.heap.size)}
set_option maxRecDepth 100000 in
set_option maxHeartbeats 1000000 in
theorem bdelete_calls (h : Own w wr (rDisk w.heap.size d m :: rs)) (hst : rObj w.heap.size st (.cells #[.pointer (some ⟨d, 0, none⟩)] 146) ∈ rs) {n : Nat} (hg : Good m n) (hn : n + 2 < 1099511627776) {dg : List UInt8} (hl : dg.length = 32) :
    Calls Try.prog 68 #[.pointer (some ⟨st, 0, none⟩), .agg (dg.map u8v).toArray] wr (DOwn w d rs (bDeleteOf m dg)) := by
  have hfile := fun W => file_calls W dg hl
  obtain ⟨cl, hcl⟩ : ∃ cl : List Value, cl = dg.map u8v := ⟨_, rfl⟩
  have hinfo : (Try.prog.info? 58).map (·.size) = some cl.length := by rw [hcl, List.length_map, hl]; kernel_rfl
  have hund := Try.underlying58
  rw [← hcl] at hfile ⊢
  have hB := h.alloc2 (.cells cl.toArray 58)
  have hck : ∀ (w1 : World) (m1 : DM), Own w w1 (rDisk w.heap.size d m1 :: rObj w.heap.size wr.heap.size (.cells cl.toArray 58) :: rs) → w1.cell? ⟨st, 0, none⟩ = some (.pointer (some ⟨d, 0, none⟩)) ∧ w1.rangeAt wr.heap.size 0 cl := fun w1 m1 ho => by
    refine ⟨cell_at (i := 0) (ho.at (b := st) (o := .cells #[.pointer (some ⟨d, 0, none⟩)] 146) (by simp [hst])).1 rfl, fun k v hv => ?_⟩
    rw [Nat.zero_add]
    exact cell_at (ho.at (b := wr.heap.size) (o := .cells cl.toArray 58) (by simp)).1 (by rw [List.getElem?_toArray]; exact hv)
  have hrem : ∀ w1, Keeps (fun _ => False) (wr.alloc (.cells cl.toArray 58)).drew w1 → ∃ w2, Runs 23 #[.pointer (some ⟨d, 0, none⟩), .string (fileOf dg)] w1 (.int .i64 (removeOf m (fileOf dg)).1) w2 ∧ Own w w2 (rDisk w.heap.size d (removeOf m (fileOf dg)).2 :: rObj w.heap.size wr.heap.size (.cells cl.toArray 58) :: rs) := fun w1 hk => (hB.drew.quiet hk).remove _ hg.fuse (hg.loose (by omega))
  have hg2 := hg.remove (fileOf dg)
  have hR : bDeleteOf m dg = if (removeOf m (fileOf dg)).1 = 0 then syncOf (removeOf m (fileOf dg)).2 else removeOf m (fileOf dg) := rfl
  generalize removeOf m (fileOf dg) = q at hrem hg2 hR
  obtain ⟨qc, qm⟩ := q
  simp only at hrem hg2 hR
  generalize bDeleteOf m dg = R at hR ⊢
  have HCK := Lib.hid hck
  have HC0 := Lib.hid (fun (w1 : World) (hk : Keeps (fun _ => False) (wr.alloc (.cells cl.toArray 58)).drew w1) => hck w1 m (hB.drew.quiet hk))
  have HF := Lib.hid hfile
  have HREM := Lib.hid hrem
  have HG2 := Lib.hid hg2
  have HR := Lib.hid hR
  generalize fileOf dg = nm at HF HREM
  clear h hst hg hn hl hfile hcl hB hck hrem hg2 hR
  go_enter Try.func68, Try.ntmps68
  go_wp2_with fail
  go_region_held3 (fun w' => w'.cell? ⟨st, 0, none⟩ = some (.pointer (some ⟨d, 0, none⟩)) ∧ w'.rangeAt wr.heap.size 0 cl) (first | exact HC0.out _ (Keeps.refl _ _) | exact HC0.out _ hk1 | exact HCK.out _ _ ho2 | go_keep) (first | (go_at_call 69; refine (HF.out _).mono ?_; rintro e w1 ⟨rfl, hk1⟩; obtain ⟨w2, hrun, ho2⟩ := HREM.out _ hk1) | (go_at_call 23; refine hrun.out.mono ?_; rintro e w' ⟨rfl, rfl⟩))
  all_goals
    have hst2 := (HCK.out _ _ ho2).1
    by_cases hq : qc = 0
    · subst hq
      have hsy := ho2.sync HG2.out.fuse HG2.out.fits1
      have HSY := Lib.hid hsy
      have hR := HR.out
      rw [if_pos rfl] at hR
      have HR2 := Lib.hid hR
      clear hsy hR HR hrun hk1 ho2
      go_wp2_with fail
      refine HSY.out.mono ?_
      rintro e w4 ⟨rfl, ho4⟩
      have HO := Lib.hid (ho4.swap.drop)
      clear ho4
      go_wp2_with fail
      go_ret
      rw [HR2.out]
      exact ⟨rfl, HO.out⟩
    · have hR := HR.out
      rw [if_neg hq] at hR
      have HR2 := Lib.hid hR
      have HO := Lib.hid (ho2.swap.drop)
      have hne : (qc != 0) = true := by simpa using hq
      clear hR HR hq hrun hk1 ho2
      go_wp2_with fail
      go_ret
      rw [HR2.out]
      exact ⟨rfl, HO.out⟩
theorem file_tail (x : List UInt8) (hx : x.length = 32) : (fileOf x).extract 2 (fileOf x).size = ⟨(hexOf x).toArray⟩ := by
  rw [fileOf_size x hx]
  unfold fileOf
  have h2 : (⟨(hexOf x).toArray⟩ : ByteArray).size = 64 := by
    show ((hexOf x).toArray).size = 64
    rw [List.size_toArray, hexOf_length, hx]
  have h3 : (⟨#[98, 47]⟩ : ByteArray).size = 2 := rfl
  exact ByteArray.extract_append_eq_right h3.symm (by rw [h3, h2])
/-- '[32]byte(b)', the pointer. -/
theorem wpList_s2a {ops : Array Oper} {rest : List Oper} {o : Oper} {a : Act} {w : World} {Q : Exit → Act → World → Prop} (hg : o.guard = none) (x : Operand) (ho : o.op = .sliceToArrayPointer 58 x) (g c : Nat) (hx : a.eval x = .slice (some ⟨g, 0, none⟩) 32 c)
    (h : wpList Try.prog ops Q rest (a.put o.dst (.pointer (some ⟨g, 0, none⟩))) w) : wpList Try.prog ops Q (o :: rest) a w := by
  refine wpList_plain hg fun K hK => ?_
  have hu := Try.underlying58
  unfold Oper.wp
  have hrun : (Instr.arrayAt 58 (.slice (some ⟨g, 0, none⟩) 32 c)).run Try.prog w = .ok (.pointer (some ⟨g, 0, none⟩)) w := by
    simp only [Instr.arrayAt, Sem.run_bind, run_underlying hu, Result.andThen_ok]
    rw [if_neg (by decide)]
    exact Sem.run_pure ..
  simp only [execOp, ho, hx, Sem.run_bind, hrun, Result.andThen_ok, Sem.run_pure]
  exact hK _ _ h
/-- What List tells. -/
def ListPost (w : World) (L : List (List UInt8)) (e : Ending) (w' : World) : Prop := ∃ (a : Option Addr) (c : Nat), e = .returned (.tuple #[.slice a L.length c, .int .i64 0]) ∧ Digs w.heap.size w' (.slice a L.length c) L ∧ Keeps (fun _ => False) w w'
set_option maxRecDepth 100000 in
set_option maxHeartbeats 2000000 in
theorem blist_calls {wo : World} (h : Own w wo (rDisk w.heap.size d m :: rs)) (hst : rObj w.heap.size st (.cells #[.pointer (some ⟨d, 0, none⟩)] 146) ∈ rs) {n : Nat} (ht : Tidy m n n) (hn : n < 549755813888) (hdn : m.down = false) {L : List (List UInt8)} (hL : Len32 L) (hE : namesOf m.now ⟨#[98, 47]⟩ = L.map fileOf) :
    Calls Try.prog 67 #[.pointer (some ⟨st, 0, none⟩)] wo (ListPost wo L) := by
  obtain ⟨F, hdi, _⟩ := h.disk
  have hsc := cell_at (i := 0) (h.at (b := st) (o := .cells #[.pointer (some ⟨d, 0, none⟩)] 146) (List.mem_cons_of_mem _ hst)).1 rfl
  have hnm := names_calls hdi ⟨#[98, 47]⟩ hdn ht.snow (fun p hp => by have := ht.names p hp; unfold maxLen; omega) (by have := ht.lnow; omega)
  rw [hE] at hnm
  have hlen : L.length ≤ n := by
    have h1 : (namesOf m.now ⟨#[98, 47]⟩).length ≤ m.now.length := by unfold namesOf; rw [List.length_map]; exact List.length_filter_le _ _
    rw [hE, List.length_map] at h1
    exact Nat.le_trans h1 ht.lnow
  have hlb : L.length < 549755813888 := by omega
  have HNM := Lib.hid hnm
  have HLL := Lib.hid hL
  clear h hst ht hn hdn hE hdi hnm hL hlen
  have j1 : (L.length : Int) ≤ 9223372036854775807 := by omega
  have HLB := Lib.hid hlb
  clear hlb
  go_enter Try.func67, Try.ntmps67
  go_wp2_with fail
  refine HNM.out.mono ?_
  rintro e w1 ⟨nv, rfl, hstr, hk1⟩
  obtain ⟨na, nc, hnv⟩ := hstr.form
  rw [List.length_map] at hnv
  subst hnv
  have HS := Lib.hid hstr
  have HK1 := Lib.hid hk1
  have hz1 := hk1.size
  have HZ1 := Lib.hid hz1
  clear hstr hk1 hz1 HNM hsc
  go_wp2_with fail
  go_loopw [6, 23] (fun ov iv wx => ∃ k : Nat, iv = .int .i64 (k : Int) ∧ k ≤ L.length ∧ Keeps (fun _ => False) w1 wx ∧ Digs w1.heap.size wx ov (L.take k)) (fun _ iv _ => L.length - (intOf iv).toNat)
  case atStart => exact ⟨0, rfl, Nat.zero_le _, Keeps.refl _ _, Digs.nil _ _⟩
  case round =>
    obtain ⟨k, rfl, hk, hkp, hout⟩ := hrel
    have j0 : (0 : Int) ≤ k := by omega
    by_cases hlt : k < L.length
    · obtain ⟨x, hx⟩ : ∃ x, L[k]? = some x := ⟨L[k], List.getElem?_eq_getElem hlt⟩
      have j2 : (k : Int) < L.length := by omega
      have hxl := HLL.out x (List.mem_of_getElem? hx)
      obtain ⟨g, rfl, hcell, hnc, _⟩ := StrsAt.cell HS.out (i := k) (s := fileOf x) (by rw [List.getElem?_map, hx]; rfl)
      have hcell2 : wr.cell? ⟨g, k, none⟩ = some (.string (fileOf x)) := (World.cell?_of_block (hkp.block _ (World.block_lt_of_cell? w1 _ hcell) (fun e => e))).trans hcell
      have hsz : ((fileOf x).size : Int) = 66 := by rw [fileOf_size x hxl]; rfl
      have hext := file_tail x hxl
      have hun := fun W => unhex_calls W hxl
      obtain ⟨oa, oc, rfl, _, _⟩ := hout.form
      have htk : L.take k ++ [x] = L.take (k + 1) := by rw [List.take_add_one, hx]; rfl
      have htl : (L.take k).length < 1099511627776 := by rw [List.length_take]; have := HLB.out; omega
      have hkl : (L.take (k + 1)).length = (L.take k).length + 1 := by rw [List.length_take, List.length_take]; omega
      generalize L.take k = D at hout htk htl hkl ⊢
      generalize fileOf x = s at hcell2 hsz hext hcell
      generalize (⟨(hexOf x).toArray⟩ : ByteArray) = y at hext hun
      have HUN := Lib.hid hun
      have HOUT := Lib.hid hout
      have HKP := Lib.hid hkp
      have HX := Lib.hid hxl
      have HTK := Lib.hid htk
      have HTL := Lib.hid htl
      have HLT := Lib.hid hlt
      clear hout hkp hxl htk htl hkl hun hcell hx hk hlt
      obtain ⟨xl, hxl2⟩ : ∃ xl : List Value, xl = x.map u8v := ⟨_, rfl⟩
      have HXL := Lib.hid (by rw [hxl2, List.length_map, HX.out] : xl.length = 32)
      have HXI := Lib.hid (by rw [HXL.out]; kernel_rfl : (Try.prog.info? 58).map (·.size) = some xl.length)
      have HX2 := Lib.hid hxl2
      clear hxl2
      go_wp2_with fail
      refine (HUN.out _).mono ?_
      rintro e w4 ⟨g4, rfl, hrg, hk4⟩
      rw [← HX2.out] at hrg
      have hsz1 := HKP.out.size
      have hsz4 := hk4.size
      obtain ⟨a5, c5, w5, hrun, ho5, hk5, _⟩ := (HOUT.out.quiet hk4).push (by omega) HX.out HTL.out
      rw [← HX2.out] at hrun
      have hkw : Keeps (fun _ => False) w1 w5 := (HKP.out.trans hk4 (fun _ _ e => e)).trans hk5 (fun b hb e => by
        have := (HOUT.out.lt b e).2
        omega)
      have HRUN := Lib.hid hrun
      have HRG := Lib.hid hrg
      have HO5 := Lib.hid ho5
      have HKW := Lib.hid hkw
      clear hrg hk4 hsz1 hsz4 hrun ho5 hk5 hkw HUN HOUT
      go_wp2_with (first | (refine wpList_s2a rfl _ rfl g4 32 rfl ?_) | (refine wpList_load_mid rfl 58 _ rfl g4 0 rfl xl _ HRG.out Try.underlying58 rfl HXI.out ?_) | (refine wpList_buildDig rfl _ rfl xl HXL.out rfl ?_) | (at_builtin; refine wpList_append_run rfl _ _ _ _ rfl rfl rfl HRUN.out ?_))
      go_roundw
      case rel => exact ⟨k + 1, rfl, HLT.out, HKW.out, by rw [← HTK.out]; exact HO5.out⟩
      case measure => have := HLT.out; simp [intOf]; omega
    · obtain rfl : k = L.length := by omega
      rw [List.take_length] at hout
      obtain ⟨oa, oc, rfl, _, _⟩ := hout.form
      have HO := Lib.hid (hout.base (base' := wo.heap.size) HZ1.out)
      have HKP := Lib.hid (HK1.out.trans hkp (fun _ _ e => e))
      clear hkp hlt hk hout
      go_wp2_with fail
      go_ret2
      exact ⟨oa, oc, rfl, HO.out, HKP.out⟩
end
end Go.Proofs.Ytlinkpjneehnbaa
