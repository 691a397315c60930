/- The walk of BlobRight. -/
import Derived.Test.YtlinkpjneehnbaaBRo
import Derived.Test.YtlinkpjneehnbaaLastsP
import Derived.Test.YtlinkpjneehnbaaAwakeB
import Derived.Deep.DeepCutAuto
import Derived.Deep.CutBlock
namespace Go.Proofs.Ytlinkpjneehnbaa
set_option linter.unusedVariables false
set_option linter.unusedSimpArgs false
open Go.RowKit Go.MapKept Go.Deep

theorem Own.front {w wr : World} {l₁ l₂ : List (Res w.heap.size)} (h : Own w wr (l₁ ++ l₂)) : Own w wr l₁ := by
  have h' := h.perm (List.perm_append_comm (l₁ := l₁) (l₂ := l₂))
  clear h
  induction l₂ with
  | nil => exact h'
  | cons x l ih => exact ih h'.drop

/-! ### What came in -/
structure OpB where
  kind : Int
  nm : ByteArray
  p : List UInt8
  n : Int
  m : Int
structure OpBAt (W : World) (x : Addr) (i : Nat) (o : OpB) (pv : Value) : Prop where
  c0 : W.cell? (x.add (i * 5)) = some (.int .i64 o.kind)
  c1 : W.cell? (x.add (i * 5 + 1)) = some (.string o.nm)
  c2 : W.cell? (x.add (i * 5 + 2)) = some pv
  c3 : W.cell? (x.add (i * 5 + 3)) = some (.int .i64 o.n)
  c4 : W.cell? (x.add (i * 5 + 4)) = some (.int .i64 o.m)
  p : Reads W pv o.p
  n : o.n ≤ 9223372036854775807 ∧ -9223372036854775808 ≤ o.n
  m : o.m ≤ 9223372036854775807 ∧ -9223372036854775808 ≤ o.m
def OpsBIn (W : World) (a : Option Addr) (len : Nat) : Prop := ∀ i, i < len → ∃ x o pv, a = some x ∧ OpBAt W x i o pv
theorem in_opsB {H : Type} {enc : TypeId × Value → H} {W : World} {a : Option Addr} {len cap : Nat} {d : DataW H} {p : List MemPlace} (h : DataW.Trod enc Try.prog W 0 (fun _ => true) true 115 (.slice a len cap) d p) : len ≤ cap ∧ cap ≤ maxLen ∧ OpsBIn W a len := by
  obtain ⟨h1, h2, h3⟩ := in_structs Try.underlying115 Try.underlying117 (by kernel_rfl) (by kernel_rfl) h
  refine ⟨h1, h2, fun i hi => ?_⟩
  obtain ⟨x, rfl, hf⟩ := h3 i hi
  obtain ⟨v0, _, _, k0, n0, t0⟩ := hf 0 _ rfl
  obtain ⟨v1, _, _, k1, n1, t1⟩ := hf 1 _ rfl
  obtain ⟨v2, _, _, k2, n2, t2⟩ := hf 2 _ rfl
  obtain ⟨v3, _, _, k3, n3, t3⟩ := hf 3 _ rfl
  obtain ⟨v4, _, _, k4, n4, t4⟩ := hf 4 _ rfl
  obtain ⟨a0, rfl, _⟩ := in_int t0
  obtain ⟨s1, rfl, _⟩ := in_str t1
  obtain ⟨l2, r2⟩ := in_bytesV t2
  obtain ⟨a3, rfl, w3⟩ := in_int t3
  obtain ⟨a4, rfl, w4⟩ := in_int t4
  exact ⟨x, ⟨a0, s1, l2, a3, a4⟩, v2, rfl, k0, k1, k2, k3, k4, r2, w3, w4⟩
theorem spot_noneB {w : World} {b o : Nat} {sp : Option Nat} {v : Value} (h : w.cell? ⟨b, o, sp⟩ = some v) : sp = none := by
  cases sp with
  | none => rfl
  | some x =>
    unfold World.cell? at h
    split at h <;> simp at h
theorem opB_cells {W wr : World} {a : Option Addr} {len i : Nat} (h : OpsBIn W a len) (hi : i < len) (hk : Keeps (fun _ => False) W wr) : ∃ (b f : Nat) (o : OpB) (pv : Value), a = some ⟨b, f, none⟩ ∧ wr.cell? ⟨b, f + i * 5, none⟩ = some (.int .i64 o.kind) ∧ wr.cell? ⟨b, f + i * 5 + 1, none⟩ = some (.string o.nm) ∧ wr.cell? ⟨b, f + i * 5 + 2, none⟩ = some pv ∧ wr.cell? ⟨b, f + i * 5 + 3, none⟩ = some (.int .i64 o.n) ∧ wr.cell? ⟨b, f + i * 5 + 4, none⟩ = some (.int .i64 o.m) ∧
    Reads W pv o.p ∧ (o.n ≤ 9223372036854775807 ∧ -9223372036854775808 ≤ o.n) := by
  obtain ⟨x, o0, _, rfl, h0⟩ := h 0 (by omega)
  obtain ⟨x', o, pv, e, ho⟩ := h i hi
  cases e
  obtain ⟨b, f, sp⟩ := x
  obtain rfl : sp = none := spot_noneB (b := b) (o := f) h0.c0
  have still : ∀ (y : Addr) (v : Value), W.cell? y = some v → wr.cell? y = some v := fun y v hy => (World.cell?_of_block (hk.block _ (World.block_lt_of_cell? W _ hy) (fun e => e))).trans hy
  have c0 := ho.c0
  have c1 := ho.c1
  have c2 := ho.c2
  have c3 := ho.c3
  have c4 := ho.c4
  rw [Addr.add_lit] at c0 c1 c2 c3 c4
  exact ⟨b, f, o, pv, rfl, still _ _ c0, still _ _ c1, still _ _ c2, still _ _ c3, still _ _ c4, ho.p, ho.n⟩
/-- The block of a step, filled. -/
def opBObj (k : Int) (nm : ByteArray) (pv : Value) (n m : Int) : Obj := .cells #[.int .i64 k, .string nm, pv, .int .i64 n, .int .i64 m] 117 (0, 0)
theorem opB_at {w : World} {t : Nat} {k n m : Int} {nm : ByteArray} {pv : Value} (hb : w.heap[t]? = some (opBObj k nm pv n m)) :
    w.cell? ⟨t, 0, none⟩ = some (.int .i64 k) ∧ w.cell? ⟨t, 2, none⟩ = some pv ∧ w.cell? ⟨t, 3, none⟩ = some (.int .i64 n) ∧ w.cell? ⟨t, 4, none⟩ = some (.int .i64 m) :=
  ⟨cell_at hb rfl, cell_at hb rfl, cell_at hb rfl, cell_at hb rfl⟩
theorem BSt.box {w0 wx : World} {d : Nat} {H S : List (List UInt8)} {m : DM} {n : Nat} {sv hv uv : Value} {rs : List (Res w0.heap.size)} (h : BSt w0 wx d H S m n sv hv uv rs) (o : Obj) : BSt w0 (wx.alloc o) d H S m n sv hv uv (rObj w0.heap.size wx.heap.size o :: rs) := by
  obtain ⟨st, e, hb, l1, l2, ho⟩ := h
  exact ⟨st, e, hb, l1, l2, (ho.alloc o).perm ((List.perm_append_comm (l₁ := [_]) (l₂ := [_, _, _, _])).append_right rs)⟩
theorem BSt.quiet {w0 wx wy : World} {d : Nat} {H S : List (List UInt8)} {m : DM} {n : Nat} {sv hv uv : Value} {rs : List (Res w0.heap.size)} (h : BSt w0 wx d H S m n sv hv uv rs) (hk : Keeps (fun _ => False) wx wy) : BSt w0 wy d H S m n sv hv uv rs := by
  obtain ⟨st, e, hb, l1, l2, ho⟩ := h
  exact ⟨st, e, hb, l1, l2, ho.quiet hk⟩
theorem BSt.front {w0 wx : World} {d : Nat} {H S : List (List UInt8)} {m : DM} {n k : Nat} {sv hv uv : Value} {rs : List (Res w0.heap.size)} (h : BSt w0 wx d H S m n sv hv uv rs) (hk : n ≤ k) : BSt w0 wx d H S m k sv hv uv [] := by
  obtain ⟨st, e, hb, l1, l2, ho⟩ := h
  exact ⟨st, e, hb.mono hk, Nat.le_trans l1 hk, Nat.le_trans l2 hk, Own.front (l₁ := [_, _, _, _]) ho⟩
theorem BSt.keeps {w0 wx : World} {d : Nat} {H S : List (List UInt8)} {m : DM} {n : Nat} {sv hv uv : Value} {rs : List (Res w0.heap.size)} (h : BSt w0 wx d H S m n sv hv uv rs) : Keeps (fun _ => False) w0 wx := by
  obtain ⟨st, e, hb, l1, l2, ho⟩ := h
  exact ho.keeps
theorem BSt.obj {w0 wx : World} {d : Nat} {H S : List (List UInt8)} {m : DM} {n : Nat} {sv hv uv : Value} {rs : List (Res w0.heap.size)} (h : BSt w0 wx d H S m n sv hv uv rs) {t : Nat} {o : Obj} (hm : rObj w0.heap.size t o ∈ rs) : wx.heap[t]? = some o := by
  obtain ⟨st, e, hb, l1, l2, ho⟩ := h
  exact (ho.at (b := t) (o := o) (by simp [hm])).1
theorem bput_len (m : DM) (p : List UInt8) : (bPutOf m p).1.length = 32 := by
  unfold bPutOf
  split
  · rfl
  · generalize (if thereOf m (fileOf (sumOf p)) = 6 then bLayOf m (sumOf p) p else (thereOf m (fileOf (sumOf p)), m)) = r
    unfold bPutRes
    split
    · exact sumOf_length p
    · rfl
theorem wpList_load_rowH {P : Program} {ops : Array Oper} {rest : List Oper} {o : Oper} {a : Act} {w : World} {Q : Exit → Act → World → Prop} (hgd : Region.wanted o (yielded ops a.tmps) = true) (ty : TypeId) (x : Operand) (ho : o.op = .load ty x)
    (g : Nat) (hx : a.eval x = .pointer (some ⟨g, 0, none⟩)) (t : TypeId) (cs : Array Value) (fr : Nat × Nat) (d : TypeDesc) (hg : w.heap[g]? = some (.cells cs t fr))
    (hu : P.underlying ty = some d) (hd : (match d with | .struct _ | .array _ _ => true | _ => false) = true) (hi : (P.info? ty).map (·.size) = some cs.size)
    (h : wpList P ops Q rest (a.put o.dst (.agg cs)) w) : wpList P ops Q (o :: rest) a w := by
  refine wpList_step fun K hK => ?_
  rw [if_pos hgd]
  exact wp_load_row ty x ho g hx t cs fr d hg hu hd hi (hK _ _ h)
theorem without_len (H : List (List UInt8)) (D : List UInt8) : (withoutOf H D).length ≤ H.length := List.length_filter_le _ _

set_option maxRecDepth 100000 in
set_option maxHeartbeats 8000000 in
theorem blobRight_walk (room : Int) (a : Option Addr) (len cap : Nat) (w0 : World) (hlc : len ≤ cap) (hcm : cap ≤ maxLen) (hops : OpsBIn w0 a len) :
    Calls Try.prog 17 #[.int .i64 room, .slice a len cap] w0 fun e w' => e = .returned (.bool true) ∧ Below w0.heap.size w0 w' := by
  have jl : (len : Int) ≤ 9223372036854775807 := by unfold maxLen at hcm; omega
  obtain ⟨r0, hr, hr0, hr1⟩ : ∃ r : Int, wrap64 ((IntKind.u64.wrap room).tmod 10000) = r ∧ 0 ≤ r ∧ r < 10000 := by
    obtain ⟨n, e, h⟩ := uint_mod room 10000 (by omega) (by omega)
    exact ⟨n, e, by omega, by omega⟩
  obtain ⟨d, w1, hnew, ho1⟩ := (Own.start w0).new r0 hr0 (by omega)
  have hbi := BI.start hr0 (by omega)
  have hbn := bnew_calls ho1 hbi.tidy.good (by omega)
  rw [bnew_new] at hbn
  have HOPS := Lib.hid hops
  have HBN := Lib.hid hbn
  have HBI := Lib.hid hbi
  clear hops hlc hcm ho1 hbi hbn
  go_enter Try.func17, Try.ntmps17
  go_wp2_with fail
  refine hnew.out.mono ?_; rintro e w' ⟨rfl, rfl⟩
  go_wp2_with fail
  refine HBN.out.mono ?_
  rintro e w2 (⟨hnn, _⟩ | ⟨_, st0, rfl, h2⟩)
  · exact absurd rfl hnn
  go_wp2_with fail
  refine (awakeB_calls _).mono ?_; rintro e w3 ⟨rfl, hk3⟩
  have h3 : BSt w0 w3 d [] [] (newOf r0) 0 (.pointer (some ⟨st0, 0, none⟩)) (.slice none 0 0) (.slice none 0 0) [] :=
    ⟨st0, rfl, HBI.out, Nat.zero_le _, Nat.zero_le _, ((h2.quiet hk3).nilDigs.nilDigs).perm (List.perm_append_comm (l₁ := [_, _]) (l₂ := [_, _]))⟩
  have H3 := Lib.hid h3
  clear HBN hnew h2 hk3 h3 HBI
  go_wp2_with fail
  go_loopw [7, 9, 10, 51] (fun sv hv uv iv wx => ∃ (k : Nat) (H S : List (List UInt8)) (m : DM), iv = .int .i64 (k : Int) ∧ k ≤ len ∧ k ≤ 60 ∧ BSt w0 wx d H S m (8 * k) sv hv uv []) (fun _ _ _ i _ => len - (intOf i).toNat)
  case atStart => exact ⟨0, [], [], _, rfl, Nat.zero_le _, Nat.zero_le _, H3.out⟩
  case round =>
    obtain ⟨k, HH, SS, m, rfl, hk, hk60, hst⟩ := hrel
    clear H3
    have j0 : (0 : Int) ≤ k := by omega
    by_cases hlt : k < len
    · obtain ⟨xb, xf, o, pv, rfl, c0, c1, c2, c3, c4, hp, hon⟩ := opB_cells HOPS.out hlt hst.keeps
      obtain ⟨pa, pc, rfl, _, _⟩ := hp.form
      obtain ⟨oK, oNm, oP, oN, oM⟩ := o
      simp only at c0 c1 c2 c3 c4 hp hon
      have j2 : (k : Int) < len := by omega
      have hbx := hst.box (opBObj oK oNm (.slice pa oP.length pc) oN oM)
      have HBX := Lib.hid hbx
      have HP := Lib.hid hp
      have HON := Lib.hid hon
      have HLT := Lib.hid hlt
      clear hst hp hon hbx hk hlt
      by_cases h60 : k = 60
      · have j3 : (60 : Int) ≤ k := by omega
        have HB := Lib.hid HBX.out.keeps.below
        clear h60
        go_wp2_with fail
        go_ret
        exact ⟨rfl, HB.out⟩
      · have j3 : ¬ (60 : Int) ≤ k := by omega
        have HK60 := Lib.hid (by omega : k < 60)
        clear h60
        by_cases h3k : 3000 < oP.length
        · have j4 : (3000 : Int) < (oP.length : Int) := by omega
          have HB := Lib.hid HBX.out.keeps.below
          clear h3k
          go_wp2_with fail
          go_ret
          exact ⟨rfl, HB.out⟩
        · have j4 : ¬ (3000 : Int) < (oP.length : Int) := by omega
          have HPL := Lib.hid (by omega : oP.length ≤ 3000)
          obtain ⟨W, hW⟩ : ∃ W, W = wr.alloc (opBObj oK oNm (.slice pa oP.length pc) oN oM) := ⟨_, rfl⟩
          have hsum := sum_calls (w := wr.alloc (opBObj oK oNm (.slice pa oP.length pc) oN oM)) (HP.out.keep HBX.out.keeps) (by omega)
          obtain ⟨DD, hDD⟩ : ∃ DD, DD = sumOf oP := ⟨_, rfl⟩
          have hD32 : DD.length = 32 := by rw [hDD]; exact sumOf_length _
          obtain ⟨cl, hcl⟩ : ∃ cl : List Value, cl = DD.map u8v := ⟨_, rfl⟩
          rw [← hDD, ← hcl] at hsum
          have hdz : cl.toArray.size = 32 := by rw [hcl]; simp [hD32]
          have hone : cl.toArray.all (·.oneCell') = true := all_oneCell_toArray (by rw [hcl]; exact dig_oneCell DD)
          have HSUM := Lib.hid hsum
          have HCL := Lib.hid hcl
          have HDD := Lib.hid hDD
          have HD32 := Lib.hid hD32
          have HDZ := Lib.hid hdz
          have HI := Lib.hid (dig_info hdz)
          have HC32 := Lib.hid (by rw [hcl, List.length_map, hD32] : cl.length = 32)
          have HCI := Lib.hid (by rw [HC32.out]; kernel_rfl : (Try.prog.info? 58).map (·.size) = some cl.length)
          have HONE := Lib.hid hone
          clear h3k hsum hcl hDD hD32 hdz hone hW
          go_wp2_with fail
          refine HSUM.out.mono ?_
          rintro e w5 ⟨rfl, hk5⟩
          have HZ := Lib.hid (heap_alloc_new w5 (.cells zeroC 58))
          have H6 := Lib.hid ((HBX.out.quiet hk5).box (.cells cl.toArray 58))
          generalize hob : wr.heap.size = ob at *
          clear hk5 HSUM HBX
          obtain ⟨q0, q2, q3, q4⟩ := opB_at (H6.out.obj (t := ob) (o := opBObj oK oNm (.slice pa oP.length pc) oN oM) (by simp))
          go_upto_block 2 with (first | (refine wpList_store_row rfl 58 _ _ rfl w5.heap.size cl.toArray rfl rfl 58 _ HZ.out HI.out (by rw [HDZ.out]; kernel_rfl) HONE.out ?_; rw [World.setRow_alloc_new]))
          clear HZ
          generalize w5.alloc (Obj.cells cl.toArray 58) = wX at *
          generalize w5.heap.size = sb at *
          go_cut [7, 9, 10, 14, 15, 16, 17, 18] from 52 to 214 (fun sv hv uv _ _ _ _ _ wx => ∃ H' S' m', BSt w0 wx d H' S' m' (8 * k + 8) sv hv uv [rObj w0.heap.size sb (.cells cl.toArray 58), rObj w0.heap.size ob (opBObj oK oNm (.slice pa oP.length pc) oN oM)])
          case first =>
            as_aux_lemma =>
              obtain ⟨st, rfl, hbi, l1, l2, ho⟩ := H6.out
              obtain ⟨ha, hc, rfl, _, _⟩ := (ho.digs (v := u9) (L := HH) (by simp)).form
              obtain ⟨ua, uc, rfl, _, _⟩ := (ho.digs (v := u10) (L := SS) (by simp)).form
              have HLN := Lib.hid (by have := HK60.out; omega : HH.length ≤ 480 ∧ SS.length ≤ 480)
              have HLW := Lib.hid (Nat.le_trans (without_len HH DD) HLN.out.1)
              have HL12 := Lib.hid (⟨l1, l2⟩ : HH.length ≤ 8 * k ∧ SS.length ≤ 8 * k)
              have hwo : ∀ (wy : World) (rs : List (Res w0.heap.size)) (v : Value) (L : List (List UInt8)), Own w0 wy rs → rDigs w0.heap.size v L ∈ rs → L.length < 1099511627776 → Calls Try.prog 71 #[v, .agg cl.toArray] wy fun e w1 => ∃ (a : Option Addr) (c : Nat), e = .returned (.slice a (withoutOf L DD).length c) ∧ Own w0 w1 (rDigs w0.heap.size (.slice a (withoutOf L DD).length c) (withoutOf L DD) :: rs) := by
                rw [HCL.out]
                exact fun wy rs v L h hm hl => h.without hm HD32.out hl
              have hpu : ∀ (wy : World) (rs : List (Res w0.heap.size)) (v : Value) (L : List (List UInt8)) (b : Nat), Own w0 wy (rDigs w0.heap.size v L :: rs) → wy.rangeAt b 0 cl → L.length < 1099511627776 → ∃ a c w', (Builtin.append_ #[108, 108] 108 #[v, .slice (some ⟨b, 0, none⟩) 1 1]).run Try.prog wy = .ok (.slice a (L.length + 1) c) w' ∧ Own w0 w' (rDigs w0.heap.size (.slice a (L.length + 1) c) (L ++ [DD]) :: rs) := by
                rw [HCL.out]
                exact fun wy rs v L b h hr hl => h.pushDig HD32.out hr hl
              have hfin : ∀ (wx : World) (st' : Nat) (H' S' : List (List UInt8)) (m' : DM) (n' : Nat) (hv' uv' : Value), BI H' S' m' n' → n' ≤ 8 * k + 8 → H'.length ≤ 8 * k + 8 → S'.length ≤ 8 * k + 8 → Own w0 wx [rDisk w0.heap.size d m', rObj w0.heap.size st' (.cells #[.pointer (some ⟨d, 0, none⟩)] 146), rDigs w0.heap.size hv' H', rDigs w0.heap.size uv' S', rObj w0.heap.size sb (.cells cl.toArray 58), rObj w0.heap.size ob (opBObj oK oNm (.slice pa oP.length pc) oN oM)] →
                  ∃ H' S' m', BSt w0 wx d H' S' m' (8 * k + 8) (.pointer (some ⟨st', 0, none⟩)) hv' uv' [rObj w0.heap.size sb (.cells cl.toArray 58), rObj w0.heap.size ob (opBObj oK oNm (.slice pa oP.length pc) oN oM)] :=
                fun wx st' H' S' m' n' hv' uv' hb hn hl hs h => ⟨H', S', m', st', rfl, hb.mono hn, hl, hs, h⟩
              have HWO := Lib.hid hwo
              have HPU := Lib.hid hpu
              have HFIN := Lib.hid hfin
              have HBI := Lib.hid hbi
              have HOX := Lib.hid ho
              have hgood := hbi.tidy.good
              clear hwo hpu hfin hbi ho l1 l2 H6
              by_cases e0 : oK = 0
              · subst e0
                have hput := bput_calls HOX.out (st := st) (by simp) hgood (by have := HK60.out; omega) (pv := .slice pa oP.length pc) (p := oP) (fun W m' h => HP.out.keep h.keeps) (by have := HPL.out; omega)
                have hrl := bput_len m oP
                have hres := HBI.out.put oP HPL.out
                rw [← HDD.out] at hres
                generalize bPutOf m oP = R at hput hrl hres
                obtain ⟨R1, R2, R3⟩ := R
                simp only at hput hrl hres
                obtain ⟨rl, hrl2⟩ : ∃ rl : List Value, rl = R1.map u8v := ⟨_, rfl⟩
                have hput2 : Calls Try.prog 43 #[.pointer (some ⟨st, 0, none⟩), .slice pa oP.length pc] wX fun e w' => e = .returned (.tuple #[.agg rl.toArray, .int .i64 R2]) ∧ Own w0 w' [rDisk w0.heap.size d R3, rObj w0.heap.size st (.cells #[.pointer (some ⟨d, 0, none⟩)] 146), rDigs w0.heap.size (.slice ha HH.length hc) HH, rDigs w0.heap.size (.slice ua SS.length uc) SS, rObj w0.heap.size sb (.cells cl.toArray 58), rObj w0.heap.size ob (opBObj 0 oNm (.slice pa oP.length pc) oN oM)] := by
                  rw [hrl2]; exact hput
                have HPUT := Lib.hid hput2
                have hrz : rl.toArray.size = 32 := by rw [hrl2]; simp [hrl]
                have HRZ := Lib.hid hrz
                have HRI := Lib.hid (dig_info hrz)
                have HRONE := Lib.hid (show rl.toArray.all (·.oneCell') = true from all_oneCell_toArray (by rw [hrl2]; exact dig_oneCell R1))
                have HRL := Lib.hid hrl
                have HRL2 := Lib.hid hrl2
                clear hput hput2 hrz hrl hrl2 hgood
                go_wp2_with fail
                refine HPUT.out.mono ?_
                rintro e w6 ⟨rfl, h6⟩
                have h7 := Own.alloc h6 (.cells rl.toArray 58)
                have HZ6 := Lib.hid (heap_alloc_new w6 (.cells zeroC 58))
                have HB14 := Lib.hid (heap_alloc_new w6 (.cells rl.toArray 58))
                have HB13 := Lib.hid (h7.at (b := sb) (o := .cells cl.toArray 58) (by simp)).1
                have H7 := Lib.hid h7
                clear h6 h7 HPUT
                rcases hres with ⟨rfl, e2, hb2⟩ | ⟨rfl, hb2⟩ | ⟨rfl, hb2⟩
                · have heq := fun W => dig_eq R1 DD HRL.out HD32.out W
                  rw [← HRL2.out, ← HCL.out, decide_eq_true e2] at heq
                  have HGO := Lib.hid (fun (wx : World) (hv' : Value) h => HFIN.out wx st (withoutOf HH DD ++ [DD]) SS R3 _ hv' (.slice ua SS.length uc) hb2 (by omega) (by have := HL12.out; have := without_len HH DD; rw [List.length_append]; simp; omega) (by have := HL12.out; omega) h)
                  clear e2 hb2
                  go_wp2_with (first | (refine wpList_store_row rfl 58 _ _ rfl w6.heap.size rl.toArray rfl rfl 58 _ HZ6.out HRI.out (by rw [HRZ.out]; kernel_rfl) HRONE.out ?_; rw [World.setRow_alloc_new]) | (refine wpList_load_row rfl 58 _ rfl w6.heap.size rfl 58 rl.toArray (0, 0) _ HB14.out Try.underlying58 rfl HRI.out ?_) | (refine wpList_load_row rfl 58 _ rfl sb rfl 58 cl.toArray (0, 0) _ HB13.out Try.underlying58 rfl HI.out ?_))
                  clear heq HZ6 HB14 HB13
                  generalize w6.alloc (Obj.cells rl.toArray 58) = wY at *
                  have HOW := Lib.hid H7.out.drew
                  refine wp_region_held_drew (S := fun w' => w'.rangeAt sb 0 cl) (by kernel_rfl) (Own.range (t := 58) HOW.out (by simp)) (fun hHeld => ?_)
                  refine wpAnyH_take (i := 0) (oi := { dst := some 83, op := _, type := _, pos := _, after := _, guard := _ }) (v := .slice ha HH.length hc) rfl (by kernel_rfl) (by kernel_rfl) (by kernel_rfl) (fun _ _ _ h => h) (Or.inl ⟨by rfl, by intro w hSw; go_simp⟩) hHeld ?_
                  try simp only [Act.put, List.setIfInBounds_toArray, List.set_cons_zero, List.set_cons_succ]
                  refine wpAnyH_take (i := 1) (oi := { dst := some 84, op := _, type := _, pos := _, after := _, guard := _ }) (v := .agg cl.toArray) rfl (by kernel_rfl) (by kernel_rfl) (by kernel_rfl) (fun _ _ _ h => h) (yieldsIf_load_mid (by rfl) _ _ rfl sb 0 rfl cl _ (fun _ h => h) Try.underlying58 rfl HCI.out) hHeld ?_
                  try simp only [Act.put, List.setIfInBounds_toArray, List.set_cons_zero, List.set_cons_succ]
                  refine wpAnyH_take (i := 3) (oi := { dst := some 86, op := _, type := _, pos := _, after := _, guard := _ }) (v := .agg cl.toArray) rfl (by kernel_rfl) (by kernel_rfl) (by kernel_rfl) (fun _ _ _ h => h) (yieldsIf_load_mid (by rfl) _ _ rfl sb 0 rfl cl _ (fun _ h => h) Try.underlying58 rfl HCI.out) hHeld ?_
                  try simp only [Act.put, List.setIfInBounds_toArray, List.set_cons_zero, List.set_cons_succ]
                  refine wpAnyH_ready (rs := [2, 4]) (by kernel_rfl) (by simp) ?_
                  refine AllReadyH.cons (o := { dst := some 85, op := _, type := _, pos := _, after := _, guard := _ }) rfl (fun K hK => ?_) ?_
                  · refine step_wantedR rfl ?_
                    go_simp
                    go_at_call 71
                    refine (HWO.out _ _ (.slice ha HH.length hc) HH HOW.out (by simp) (by have := HLN.out; omega)).mono ?_
                    rintro e w11 ⟨a1, c1, rfl, ho1⟩
                    refine hK.out _ _ (Own.range (t := 58) ho1 (by simp)) (fun hHeld1 => ?_)
                    clear hK K
                    try simp only [Act.put, List.setIfInBounds_toArray, List.set_cons_zero, List.set_cons_succ]
                    refine wpAnyH_ready (rs := [4]) (by kernel_rfl) (by simp) ?_
                    refine AllReadyH.cons (o := { dst := some 87, op := _, type := _, pos := _, after := _, guard := _ }) rfl (fun K hK => ?_) AllReadyH.nil
                    refine step_wantedR rfl ?_
                    refine wp_buildDig _ rfl cl HC32.out rfl ?_
                    have ho2 := Own.alloc ho1 (.cells cl.toArray 58)
                    refine hK.out _ _ (Own.range (t := 58) ho2 (by simp)) (fun hHeld2 => ?_)
                    clear hK K
                    try simp only [Act.put, List.setIfInBounds_toArray, List.set_cons_zero, List.set_cons_succ]
                    refine wpAnyH_ready (rs := [5]) (by kernel_rfl) (by simp) ?_
                    refine AllReadyH.cons (o := { dst := some 88, op := _, type := _, pos := _, after := _, guard := _ }) rfl (fun K hK => ?_) AllReadyH.nil
                    obtain ⟨a3, c3, w13, hrun3, ho3⟩ := HPU.out _ _ (.slice a1 (withoutOf HH DD).length c1) (withoutOf HH DD) ((World.heap (w11)).size) (Own.pick (l₁ := [_]) ho2) (Own.range (t := 58) (Own.pick (l₁ := [_]) ho2) (by simp)) (by have := HLW.out; omega)
                    have HRUN := Lib.hid hrun3
                    clear hrun3
                    refine step_append_run rfl _ _ _ _ rfl rfl rfl HRUN.out ?_
                    refine hK.out _ _ (Own.range (t := 58) ho3 (by simp)) (fun hHeld3 => ?_)
                    clear hK K
                    try simp only [Act.put, List.setIfInBounds_toArray, List.set_cons_zero, List.set_cons_succ]
                    refine wpAnyH_take (i := 6) (oi := { dst := some 9, op := _, type := _, pos := _, after := _, guard := _ }) (v := .slice a3 ((withoutOf HH DD).length + 1) c3) rfl (by kernel_rfl) (by kernel_rfl) (by kernel_rfl) (fun _ _ _ h => h) (Or.inl ⟨by rfl, by intro w hSw; go_simp⟩) hHeld3 ?_
                    try simp only [Act.put, List.setIfInBounds_toArray, List.set_cons_zero, List.set_cons_succ]
                    refine wpAnyH_done (by kernel_rfl) ?_ _
                    have HF := Lib.hid (HGO.out _ _ (Own.front (l₁ := [_, _, _, _, _, _]) (Own.pick (l₁ := [_, _, _, _, _, _, _]) (Own.pick (l₁ := [_, _, _, _, _, _, _]) (Own.pick (l₁ := [_, _, _]) (Own.pick (l₁ := [_, _, _, _, _, _, _, _]) (Own.pick (l₁ := [_, _, _, _, _, _, _, _]) (Own.pick (l₁ := [_, _, _, _, _, _, _, _]) ho3))))))))
                    go_wp2_with fail
                    go_meet
                    exact HF.out
                  · refine AllReadyH.cons (o := { dst := some 87, op := _, type := _, pos := _, after := _, guard := _ }) rfl (fun K hK => ?_) AllReadyH.nil
                    refine step_wantedR rfl ?_
                    refine wp_buildDig _ rfl cl HC32.out rfl ?_
                    have ho1 := Own.alloc HOW.out (.cells cl.toArray 58)
                    refine hK.out _ _ (Own.range (t := 58) ho1 (by simp)) (fun hHeld1 => ?_)
                    clear hK K
                    try simp only [Act.put, List.setIfInBounds_toArray, List.set_cons_zero, List.set_cons_succ]
                    refine wpAnyH_ready (rs := [2]) (by kernel_rfl) (by simp) ?_
                    refine AllReadyH.cons (o := { dst := some 85, op := _, type := _, pos := _, after := _, guard := _ }) rfl (fun K hK => ?_) AllReadyH.nil
                    refine step_wantedR rfl ?_
                    go_simp
                    go_at_call 71
                    refine (HWO.out _ _ (.slice ha HH.length hc) HH ho1 (by simp) (by have := HLN.out; omega)).mono ?_
                    rintro e w12 ⟨a2, c2, rfl, ho2⟩
                    refine hK.out _ _ (Own.range (t := 58) ho2 (by simp)) (fun hHeld2 => ?_)
                    clear hK K
                    try simp only [Act.put, List.setIfInBounds_toArray, List.set_cons_zero, List.set_cons_succ]
                    refine wpAnyH_ready (rs := [5]) (by kernel_rfl) (by simp) ?_
                    refine AllReadyH.cons (o := { dst := some 88, op := _, type := _, pos := _, after := _, guard := _ }) rfl (fun K hK => ?_) AllReadyH.nil
                    obtain ⟨a3, c3, w13, hrun3, ho3⟩ := HPU.out _ _ (.slice a2 (withoutOf HH DD).length c2) (withoutOf HH DD) ((World.heap (World.drew wY)).size) ho2 (Own.range (t := 58) ho2 (by simp)) (by have := HLW.out; omega)
                    have HRUN := Lib.hid hrun3
                    clear hrun3
                    refine step_append_run rfl _ _ _ _ rfl rfl rfl HRUN.out ?_
                    refine hK.out _ _ (Own.range (t := 58) ho3 (by simp)) (fun hHeld3 => ?_)
                    clear hK K
                    try simp only [Act.put, List.setIfInBounds_toArray, List.set_cons_zero, List.set_cons_succ]
                    refine wpAnyH_take (i := 6) (oi := { dst := some 9, op := _, type := _, pos := _, after := _, guard := _ }) (v := .slice a3 ((withoutOf HH DD).length + 1) c3) rfl (by kernel_rfl) (by kernel_rfl) (by kernel_rfl) (fun _ _ _ h => h) (Or.inl ⟨by rfl, by intro w hSw; go_simp⟩) hHeld3 ?_
                    try simp only [Act.put, List.setIfInBounds_toArray, List.set_cons_zero, List.set_cons_succ]
                    refine wpAnyH_done (by kernel_rfl) ?_ _
                    have HF := Lib.hid (HGO.out _ _ (Own.front (l₁ := [_, _, _, _, _, _]) (Own.pick (l₁ := [_, _, _, _, _, _, _]) (Own.pick (l₁ := [_, _, _, _, _, _, _]) (Own.pick (l₁ := [_, _, _]) (Own.pick (l₁ := [_, _, _, _, _, _, _, _]) (Own.pick (l₁ := [_, _, _, _, _, _, _, _]) (Own.pick (l₁ := [_, _, _, _, _, _, _, _]) ho3))))))))
                    go_wp2_with fail
                    go_meet
                    exact HF.out
                · have h8 := Own.alloc H7.out (.cells cl.toArray 58)
                  have h9 := Own.pick (l₁ := [_, _, _, _, _]) h8
                  obtain ⟨a9, c9, w9, hrun, h10⟩ := HPU.out _ _ (.slice ua SS.length uc) SS _ h9 (Own.range (t := 58) (b := (w6.alloc (.cells rl.toArray 58)).heap.size) h9 (by simp)) (by have := HLN.out; omega)
                  have HG := Lib.hid (HFIN.out w9 st HH (SS ++ [DD]) R3 _ _ _ hb2 (by omega) (by have := HL12.out; omega) (by have := HL12.out; rw [List.length_append]; simp; omega) (Own.front (l₁ := [_, _, _, _, _, _]) (Own.pick (l₁ := [_, _, _, _, _, _, _]) (Own.pick (l₁ := [_, _, _, _, _, _, _]) (Own.pick (l₁ := [_, _, _, _, _, _, _]) (Own.pick (l₁ := [_, _]) (Own.pick (l₁ := [_, _, _, _, _, _, _]) (Own.pick (l₁ := [_, _, _, _, _, _, _]) h10))))))))
                  have HRUN := Lib.hid hrun
                  clear h8 h9 h10 hrun hb2
                  go_wp2_with (first | (refine wpList_store_row rfl 58 _ _ rfl w6.heap.size rl.toArray rfl rfl 58 _ HZ6.out HRI.out (by rw [HRZ.out]; kernel_rfl) HRONE.out ?_; rw [World.setRow_alloc_new]) | (refine wpList_load_row rfl 58 _ rfl w6.heap.size rfl 58 rl.toArray (0, 0) _ HB14.out Try.underlying58 rfl HRI.out ?_) | (refine wpList_load_row rfl 58 _ rfl sb rfl 58 cl.toArray (0, 0) _ HB13.out Try.underlying58 rfl HI.out ?_) | (refine wpList_buildDig rfl _ rfl cl HC32.out rfl ?_) | (at_builtin; refine wpList_append_run rfl _ _ _ _ rfl rfl rfl HRUN.out ?_))
                  go_meet
                  exact HG.out
                · have HG := Lib.hid (HFIN.out _ st HH SS R3 _ _ _ hb2 (by omega) (by have := HL12.out; omega) (by have := HL12.out; omega) (Own.drop H7.out))
                  clear hb2
                  go_wp2_with (first | (refine wpList_store_row rfl 58 _ _ rfl w6.heap.size rl.toArray rfl rfl 58 _ HZ6.out HRI.out (by rw [HRZ.out]; kernel_rfl) HRONE.out ?_; rw [World.setRow_alloc_new]) | (refine wpList_load_row rfl 58 _ rfl w6.heap.size rfl 58 rl.toArray (0, 0) _ HB14.out Try.underlying58 rfl HRI.out ?_) | (refine wpList_load_row rfl 58 _ rfl sb rfl 58 cl.toArray (0, 0) _ HB13.out Try.underlying58 rfl HI.out ?_))
                  go_meet
                  exact HG.out
              · have b0 : (oK == 0) = false := by rw [beq_eq_false_iff_ne]; exact e0
                by_cases e1 : oK = 1
                · subst e1
                  have hdel := bdelete_calls HOX.out (st := st) (by simp) hgood (by have := HK60.out; omega) HD32.out
                  rw [← HCL.out] at hdel
                  have hres := HBI.out.delete HD32.out
                  generalize bDeleteOf m DD = R at hdel hres
                  obtain ⟨R2, R3⟩ := R
                  simp only at hres
                  have hdel2 : Calls Try.prog 68 #[.pointer (some ⟨st, 0, none⟩), .agg cl.toArray] wX fun e w' => e = .returned (.int .i64 R2) ∧ Own w0 w' [rDisk w0.heap.size d R3, rObj w0.heap.size st (.cells #[.pointer (some ⟨d, 0, none⟩)] 146), rDigs w0.heap.size (.slice ha HH.length hc) HH, rDigs w0.heap.size (.slice ua SS.length uc) SS, rObj w0.heap.size sb (.cells cl.toArray 58), rObj w0.heap.size ob (opBObj 1 oNm (.slice pa oP.length pc) oN oM)] := hdel
                  have HDEL := Lib.hid hdel2
                  have HB13 := Lib.hid (HOX.out.at (b := sb) (o := .cells cl.toArray 58) (by simp)).1
                  clear hdel hdel2 hgood e0
                  go_wp2_with (first | (refine wpList_load_row rfl 58 _ rfl sb rfl 58 cl.toArray (0, 0) _ HB13.out Try.underlying58 rfl HI.out ?_))
                  refine HDEL.out.mono ?_
                  rintro e w6 ⟨rfl, h6⟩
                  clear HDEL HB13
                  have H6 := Lib.hid h6
                  clear h6
                  rcases hres with ⟨rfl, hb2⟩ | ⟨rfl, hb2, hb3⟩ | ⟨rfl, hb2⟩
                  · have HGO := Lib.hid (fun (wx : World) (hv' uv' : Value) h => HFIN.out wx st (withoutOf HH DD) (withoutOf SS DD) R3 _ hv' uv' hb2 (by omega) (by have := HL12.out; have := without_len HH DD; omega) (by have := HL12.out; have := without_len SS DD; omega) h)
                    clear hb2
                    go_wp2_with fail
                    have HOW := Lib.hid H6.out.drew
                    refine wp_region_held_drew (S := fun w' => w'.rangeAt sb 0 cl) (by kernel_rfl) (Own.range (t := 58) HOW.out (by simp)) (fun hHeld => ?_)
                    refine wpAnyH_take (i := 0) (oi := { dst := some 104, op := _, type := _, pos := _, after := _, guard := _ }) (v := .slice ha HH.length hc) rfl (by kernel_rfl) (by kernel_rfl) (by kernel_rfl) (fun _ _ _ h => h) (Or.inl ⟨by rfl, by intro w hSw; go_simp⟩) hHeld ?_
                    try simp only [Act.put, List.setIfInBounds_toArray, List.set_cons_zero, List.set_cons_succ]
                    refine wpAnyH_take (i := 1) (oi := { dst := some 105, op := _, type := _, pos := _, after := _, guard := _ }) (v := .agg cl.toArray) rfl (by kernel_rfl) (by kernel_rfl) (by kernel_rfl) (fun _ _ _ h => h) (yieldsIf_load_mid (by rfl) _ _ rfl sb 0 rfl cl _ (fun _ h => h) Try.underlying58 rfl HCI.out) hHeld ?_
                    try simp only [Act.put, List.setIfInBounds_toArray, List.set_cons_zero, List.set_cons_succ]
                    refine wpAnyH_take (i := 3) (oi := { dst := some 107, op := _, type := _, pos := _, after := _, guard := _ }) (v := .slice ua SS.length uc) rfl (by kernel_rfl) (by kernel_rfl) (by kernel_rfl) (fun _ _ _ h => h) (Or.inl ⟨by rfl, by intro w hSw; go_simp⟩) hHeld ?_
                    try simp only [Act.put, List.setIfInBounds_toArray, List.set_cons_zero, List.set_cons_succ]
                    refine wpAnyH_take (i := 4) (oi := { dst := some 108, op := _, type := _, pos := _, after := _, guard := _ }) (v := .agg cl.toArray) rfl (by kernel_rfl) (by kernel_rfl) (by kernel_rfl) (fun _ _ _ h => h) (yieldsIf_load_mid (by rfl) _ _ rfl sb 0 rfl cl _ (fun _ h => h) Try.underlying58 rfl HCI.out) hHeld ?_
                    try simp only [Act.put, List.setIfInBounds_toArray, List.set_cons_zero, List.set_cons_succ]
                    refine wpAnyH_ready (rs := [2]) (by kernel_rfl) (by simp) ?_
                    refine AllReadyH.cons (o := { dst := some 106, op := _, type := _, pos := _, after := _, guard := _ }) rfl (fun K hK => ?_) AllReadyH.nil
                    refine step_wantedR rfl ?_
                    go_simp
                    go_at_call 71
                    refine (HWO.out _ _ (.slice ha HH.length hc) HH HOW.out (by simp) (by have := HLN.out; omega)).mono ?_
                    rintro e w11 ⟨a1, c1, rfl, ho1⟩
                    refine hK.out _ _ (Own.range (t := 58) ho1 (by simp)) (fun hHeld1 => ?_)
                    clear hK K
                    try simp only [Act.put, List.setIfInBounds_toArray, List.set_cons_zero, List.set_cons_succ]
                    refine wpAnyH_ready (rs := [5]) (by kernel_rfl) (by simp) ?_
                    refine AllReadyH.cons (o := { dst := some 109, op := _, type := _, pos := _, after := _, guard := _ }) rfl (fun K hK => ?_) AllReadyH.nil
                    refine step_wantedR rfl ?_
                    go_simp
                    go_at_call 71
                    refine (HWO.out _ _ (.slice ua SS.length uc) SS ho1 (by simp) (by have := HLN.out; omega)).mono ?_
                    rintro e w12 ⟨a2, c2, rfl, ho2⟩
                    refine hK.out _ _ (Own.range (t := 58) ho2 (by simp)) (fun hHeld2 => ?_)
                    clear hK K
                    try simp only [Act.put, List.setIfInBounds_toArray, List.set_cons_zero, List.set_cons_succ]
                    refine wpAnyH_take (i := 6) (oi := { dst := some 9, op := _, type := _, pos := _, after := _, guard := _ }) (v := .slice a1 (withoutOf HH DD).length c1) rfl (by kernel_rfl) (by kernel_rfl) (by kernel_rfl) (fun _ _ _ h => h) (Or.inl ⟨by rfl, by intro w hSw; go_simp⟩) hHeld2 ?_
                    try simp only [Act.put, List.setIfInBounds_toArray, List.set_cons_zero, List.set_cons_succ]
                    refine wpAnyH_take (i := 7) (oi := { dst := some 10, op := _, type := _, pos := _, after := _, guard := _ }) (v := .slice a2 (withoutOf SS DD).length c2) rfl (by kernel_rfl) (by kernel_rfl) (by kernel_rfl) (fun _ _ _ h => h) (Or.inl ⟨by rfl, by intro w hSw; go_simp⟩) hHeld2 ?_
                    try simp only [Act.put, List.setIfInBounds_toArray, List.set_cons_zero, List.set_cons_succ]
                    refine wpAnyH_done (by kernel_rfl) ?_ _
                    have HF := Lib.hid (HGO.out _ _ _ (Own.front (l₁ := [_, _, _, _, _, _]) (Own.pick (l₁ := [_, _, _, _, _]) (Own.pick (l₁ := [_, _, _, _, _]) (Own.pick (l₁ := [_, _, _]) (Own.pick (l₁ := [_, _]) (Own.pick (l₁ := [_, _, _, _, _, _, _]) (Own.pick (l₁ := [_, _, _, _, _, _, _]) ho2))))))))
                    go_wp2_with fail
                    go_meet
                    exact HF.out
                  · have hhas := has_calls (H6.out.digs (v := .slice ha HH.length hc) (L := HH) (by simp)) HD32.out (by have := HLN.out; omega)
                    rw [← HCL.out] at hhas
                    have HB13 := Lib.hid (H6.out.at (b := sb) (o := .cells cl.toArray 58) (by simp)).1
                    by_cases hm : DD ∈ HH
                    · rw [decide_eq_true hm] at hhas
                      have HHAS := Lib.hid hhas
                      have HGO := Lib.hid (fun (wx : World) (hv' uv' : Value) h => HFIN.out wx st (withoutOf HH DD) (SS ++ [DD]) R3 _ hv' uv' hb2 (by omega) (by have := HL12.out; have := without_len HH DD; omega) (by have := HL12.out; rw [List.length_append]; simp; omega) h)
                      clear hb2 hb3 hm hhas
                      go_wp2_with (first | (refine wpList_load_rowH (by rfl) 58 _ rfl sb rfl 58 cl.toArray (0, 0) _ HB13.out Try.underlying58 rfl HI.out ?_))
                      refine HHAS.out.mono ?_
                      rintro e w7 ⟨rfl, hk7⟩
                      have HOW := Lib.hid (H6.out.quiet hk7).drew
                      clear hk7 HHAS HB13
                      go_wp2_with fail
                      refine wp_region_held_drew (S := fun w' => w'.rangeAt sb 0 cl) (by kernel_rfl) (Own.range (t := 58) HOW.out (by simp)) (fun hHeld => ?_)
                      refine wpAnyH_take (i := 0) (oi := { dst := some 117, op := _, type := _, pos := _, after := _, guard := _ }) (v := .slice ha HH.length hc) rfl (by kernel_rfl) (by kernel_rfl) (by kernel_rfl) (fun _ _ _ h => h) (Or.inl ⟨by rfl, by intro w hSw; go_simp⟩) hHeld ?_
                      try simp only [Act.put, List.setIfInBounds_toArray, List.set_cons_zero, List.set_cons_succ]
                      refine wpAnyH_take (i := 1) (oi := { dst := some 118, op := _, type := _, pos := _, after := _, guard := _ }) (v := .agg cl.toArray) rfl (by kernel_rfl) (by kernel_rfl) (by kernel_rfl) (fun _ _ _ h => h) (yieldsIf_load_mid (by rfl) _ _ rfl sb 0 rfl cl _ (fun _ h => h) Try.underlying58 rfl HCI.out) hHeld ?_
                      try simp only [Act.put, List.setIfInBounds_toArray, List.set_cons_zero, List.set_cons_succ]
                      refine wpAnyH_take (i := 3) (oi := { dst := some 120, op := _, type := _, pos := _, after := _, guard := _ }) (v := .slice ua SS.length uc) rfl (by kernel_rfl) (by kernel_rfl) (by kernel_rfl) (fun _ _ _ h => h) (Or.inl ⟨by rfl, by intro w hSw; go_simp⟩) hHeld ?_
                      try simp only [Act.put, List.setIfInBounds_toArray, List.set_cons_zero, List.set_cons_succ]
                      refine wpAnyH_take (i := 4) (oi := { dst := some 121, op := _, type := _, pos := _, after := _, guard := _ }) (v := .agg cl.toArray) rfl (by kernel_rfl) (by kernel_rfl) (by kernel_rfl) (fun _ _ _ h => h) (yieldsIf_load_mid (by rfl) _ _ rfl sb 0 rfl cl _ (fun _ h => h) Try.underlying58 rfl HCI.out) hHeld ?_
                      try simp only [Act.put, List.setIfInBounds_toArray, List.set_cons_zero, List.set_cons_succ]
                      refine wpAnyH_ready (rs := [2, 5]) (by kernel_rfl) (by simp) ?_
                      refine AllReadyH.cons (o := { dst := some 119, op := _, type := _, pos := _, after := _, guard := _ }) rfl (fun K hK => ?_) ?_
                      · refine step_wantedR rfl ?_
                        go_simp
                        go_at_call 71
                        refine (HWO.out _ _ (.slice ha HH.length hc) HH HOW.out (by simp) (by have := HLN.out; omega)).mono ?_
                        rintro e w11 ⟨a1, c1, rfl, ho1⟩
                        refine hK.out _ _ (Own.range (t := 58) ho1 (by simp)) (fun hHeld1 => ?_)
                        clear hK K
                        try simp only [Act.put, List.setIfInBounds_toArray, List.set_cons_zero, List.set_cons_succ]
                        refine wpAnyH_ready (rs := [5]) (by kernel_rfl) (by simp) ?_
                        refine AllReadyH.cons (o := { dst := some 122, op := _, type := _, pos := _, after := _, guard := _ }) rfl (fun K hK => ?_) AllReadyH.nil
                        refine step_wantedR rfl ?_
                        refine wp_buildDig _ rfl cl HC32.out rfl ?_
                        have ho2 := Own.alloc ho1 (.cells cl.toArray 58)
                        refine hK.out _ _ (Own.range (t := 58) ho2 (by simp)) (fun hHeld2 => ?_)
                        clear hK K
                        try simp only [Act.put, List.setIfInBounds_toArray, List.set_cons_zero, List.set_cons_succ]
                        refine wpAnyH_ready (rs := [6]) (by kernel_rfl) (by simp) ?_
                        refine AllReadyH.cons (o := { dst := some 123, op := _, type := _, pos := _, after := _, guard := _ }) rfl (fun K hK => ?_) AllReadyH.nil
                        obtain ⟨a3, c3, w13, hrun3, ho3⟩ := HPU.out _ _ (.slice ua SS.length uc) (SS) ((World.heap (w11)).size) (Own.pick (l₁ := [_, _, _, _, _]) ho2) (Own.range (t := 58) (Own.pick (l₁ := [_, _, _, _, _]) ho2) (by simp)) (by have := HLN.out; omega)
                        have HRUN := Lib.hid hrun3
                        clear hrun3
                        refine step_append_run rfl _ _ _ _ rfl rfl rfl HRUN.out ?_
                        refine hK.out _ _ (Own.range (t := 58) ho3 (by simp)) (fun hHeld3 => ?_)
                        clear hK K
                        try simp only [Act.put, List.setIfInBounds_toArray, List.set_cons_zero, List.set_cons_succ]
                        refine wpAnyH_take (i := 7) (oi := { dst := some 9, op := _, type := _, pos := _, after := _, guard := _ }) (v := .slice a1 (withoutOf HH DD).length c1) rfl (by kernel_rfl) (by kernel_rfl) (by kernel_rfl) (fun _ _ _ h => h) (Or.inl ⟨by rfl, by intro w hSw; go_simp⟩) hHeld3 ?_
                        try simp only [Act.put, List.setIfInBounds_toArray, List.set_cons_zero, List.set_cons_succ]
                        refine wpAnyH_take (i := 8) (oi := { dst := some 10, op := _, type := _, pos := _, after := _, guard := _ }) (v := .slice a3 ((SS).length + 1) c3) rfl (by kernel_rfl) (by kernel_rfl) (by kernel_rfl) (fun _ _ _ h => h) (Or.inl ⟨by rfl, by intro w hSw; go_simp⟩) hHeld3 ?_
                        try simp only [Act.put, List.setIfInBounds_toArray, List.set_cons_zero, List.set_cons_succ]
                        refine wpAnyH_done (by kernel_rfl) ?_ _
                        have HF := Lib.hid (HGO.out _ _ _ (Own.front (l₁ := [_, _, _, _, _, _]) (Own.pick (l₁ := [_, _, _, _, _, _]) (Own.pick (l₁ := [_, _, _, _, _, _]) (Own.pick (l₁ := [_, _, _, _]) (Own.pick (l₁ := [_, _]) (Own.pick (l₁ := [_, _, _, _, _, _, _]) (Own.pick (l₁ := [_, _, _, _, _, _, _]) ho3))))))))
                        go_wp2_with fail
                        go_meet
                        exact HF.out
                      · refine AllReadyH.cons (o := { dst := some 122, op := _, type := _, pos := _, after := _, guard := _ }) rfl (fun K hK => ?_) AllReadyH.nil
                        refine step_wantedR rfl ?_
                        refine wp_buildDig _ rfl cl HC32.out rfl ?_
                        have ho1 := Own.alloc HOW.out (.cells cl.toArray 58)
                        refine hK.out _ _ (Own.range (t := 58) ho1 (by simp)) (fun hHeld1 => ?_)
                        clear hK K
                        try simp only [Act.put, List.setIfInBounds_toArray, List.set_cons_zero, List.set_cons_succ]
                        refine wpAnyH_ready (rs := [2]) (by kernel_rfl) (by simp) ?_
                        refine AllReadyH.cons (o := { dst := some 119, op := _, type := _, pos := _, after := _, guard := _ }) rfl (fun K hK => ?_) AllReadyH.nil
                        refine step_wantedR rfl ?_
                        go_simp
                        go_at_call 71
                        refine (HWO.out _ _ (.slice ha HH.length hc) HH ho1 (by simp) (by have := HLN.out; omega)).mono ?_
                        rintro e w12 ⟨a2, c2, rfl, ho2⟩
                        refine hK.out _ _ (Own.range (t := 58) ho2 (by simp)) (fun hHeld2 => ?_)
                        clear hK K
                        try simp only [Act.put, List.setIfInBounds_toArray, List.set_cons_zero, List.set_cons_succ]
                        refine wpAnyH_ready (rs := [6]) (by kernel_rfl) (by simp) ?_
                        refine AllReadyH.cons (o := { dst := some 123, op := _, type := _, pos := _, after := _, guard := _ }) rfl (fun K hK => ?_) AllReadyH.nil
                        obtain ⟨a3, c3, w13, hrun3, ho3⟩ := HPU.out _ _ (.slice ua SS.length uc) (SS) ((World.heap (World.drew w7)).size) (Own.pick (l₁ := [_, _, _, _, _]) ho2) (Own.range (t := 58) (Own.pick (l₁ := [_, _, _, _, _]) ho2) (by simp)) (by have := HLN.out; omega)
                        have HRUN := Lib.hid hrun3
                        clear hrun3
                        refine step_append_run rfl _ _ _ _ rfl rfl rfl HRUN.out ?_
                        refine hK.out _ _ (Own.range (t := 58) ho3 (by simp)) (fun hHeld3 => ?_)
                        clear hK K
                        try simp only [Act.put, List.setIfInBounds_toArray, List.set_cons_zero, List.set_cons_succ]
                        refine wpAnyH_take (i := 7) (oi := { dst := some 9, op := _, type := _, pos := _, after := _, guard := _ }) (v := .slice a2 (withoutOf HH DD).length c2) rfl (by kernel_rfl) (by kernel_rfl) (by kernel_rfl) (fun _ _ _ h => h) (Or.inl ⟨by rfl, by intro w hSw; go_simp⟩) hHeld3 ?_
                        try simp only [Act.put, List.setIfInBounds_toArray, List.set_cons_zero, List.set_cons_succ]
                        refine wpAnyH_take (i := 8) (oi := { dst := some 10, op := _, type := _, pos := _, after := _, guard := _ }) (v := .slice a3 ((SS).length + 1) c3) rfl (by kernel_rfl) (by kernel_rfl) (by kernel_rfl) (fun _ _ _ h => h) (Or.inl ⟨by rfl, by intro w hSw; go_simp⟩) hHeld3 ?_
                        try simp only [Act.put, List.setIfInBounds_toArray, List.set_cons_zero, List.set_cons_succ]
                        refine wpAnyH_done (by kernel_rfl) ?_ _
                        have HF := Lib.hid (HGO.out _ _ _ (Own.front (l₁ := [_, _, _, _, _, _]) (Own.pick (l₁ := [_, _, _, _, _, _]) (Own.pick (l₁ := [_, _, _, _, _, _]) (Own.pick (l₁ := [_, _, _]) (Own.pick (l₁ := [_, _]) (Own.pick (l₁ := [_, _, _, _, _, _, _]) (Own.pick (l₁ := [_, _, _, _, _, _, _]) ho3))))))))
                        go_wp2_with fail
                        go_meet
                        exact HF.out
                    · rw [decide_eq_false hm] at hhas
                      have HHAS := Lib.hid hhas
                      have hb4 := hb3 hm
                      have HG := Lib.hid (fun (w7 : World) (hk : Keeps (fun _ => False) w6 w7) => HFIN.out w7 st HH SS R3 _ _ _ hb4 (by omega) (by have := HL12.out; omega) (by have := HL12.out; omega) (H6.out.quiet hk))
                      clear hb2 hb3 hb4 hm hhas
                      go_wp2_with (first | (refine wpList_load_rowH (by rfl) 58 _ rfl sb rfl 58 cl.toArray (0, 0) _ HB13.out Try.underlying58 rfl HI.out ?_))
                      refine HHAS.out.mono ?_
                      rintro e w7 ⟨rfl, hk7⟩
                      have HG2 := Lib.hid (HG.out w7 hk7)
                      clear hk7 HHAS HB13
                      go_wp2_with fail
                      go_meet
                      exact HG2.out
                  · have HG := Lib.hid (HFIN.out w6 st HH SS R3 _ _ _ hb2 (by omega) (by have := HL12.out; omega) (by have := HL12.out; omega) H6.out)
                    clear hb2
                    go_wp2_with fail
                    go_meet
                    exact HG.out
                · have b1 : (oK == 1) = false := by rw [beq_eq_false_iff_ne]; exact e1
                  by_cases e5 : oK = 5
                  · subst e5
                    obtain ⟨w6, hfu, h6⟩ := HOX.out.fuse oN
                    have HG := Lib.hid (HFIN.out _ _ _ _ _ _ _ _ (HBI.out.fuse oN HON.out.1) (Nat.le_add_right _ _) (by have := HL12.out; omega) (by have := HL12.out; omega) h6)
                    have HFU := Lib.hid hfu
                    clear h6 hfu hgood e0 e1
                    go_wp2_with fail
                    refine HFU.out.out.mono ?_; rintro e w' ⟨rfl, rfl⟩
                    go_wp2_with fail
                    go_meet
                    exact HG.out
                  · have b5 : (oK == 5) = false := by rw [beq_eq_false_iff_ne]; exact e5
                    by_cases e6 : oK = 6
                    · subst e6
                      have hlast : ∀ (w9 : World) (m9 : DM) (n9 : Nat), BI HH SS m9 n9 → n9 ≤ 8 * k + 4 → m9.down = false → m9.fuse = -1 → Own w0 w9 [rDisk w0.heap.size d m9, rObj w0.heap.size st (.cells #[.pointer (some ⟨d, 0, none⟩)] 146), rDigs w0.heap.size (.slice ha HH.length hc) HH, rDigs w0.heap.size (.slice ua SS.length uc) SS, rObj w0.heap.size sb (.cells cl.toArray 58), rObj w0.heap.size ob (opBObj 6 oNm (.slice pa oP.length pc) oN oM)] →
                          Calls Try.prog 41 #[.pointer (some ⟨d, 0, none⟩)] w9 fun e w' => ∃ st', e = .returned (.tuple #[.pointer (some ⟨st', 0, none⟩), .int .i64 0]) ∧ ∃ H' S' m', BSt w0 w' d H' S' m' (8 * k + 8) (.pointer (some ⟨st', 0, none⟩)) (.slice ha HH.length hc) (.slice ua SS.length uc) [rObj w0.heap.size sb (.cells cl.toArray 58), rObj w0.heap.size ob (opBObj 6 oNm (.slice pa oP.length pc) oN oM)] := fun w9 m9 n9 hb hn hd hf h => by
                        obtain ⟨hb2, hok⟩ := hb.new
                        obtain ⟨h0, _⟩ := hok hd hf
                        refine (bnew_calls h hb.tidy.good (by have := HK60.out; omega)).mono ?_
                        rintro e w' (⟨hne, _⟩ | ⟨_, st', rfl, hq⟩)
                        · exact absurd h0 hne
                        · exact ⟨st', rfl, HFIN.out _ st' HH SS _ _ _ _ hb2 (by omega) (by have := HL12.out; omega) (by have := HL12.out; omega) (Own.front (l₁ := [_, _, _, _, _, _]) (Own.pick (l₁ := [_, _, _, _, _]) (Own.pick (l₁ := [_, _, _, _, _]) (Own.pick (l₁ := [_, _, _, _, _, _]) (Own.pick (l₁ := [_, _, _, _, _, _]) (Own.pick (l₁ := [_, _, _, _, _, _]) (Own.pick (l₁ := [_, _, _, _, _, _]) hq)))))))⟩
                      have HLAST := Lib.hid hlast
                      have hcr := HOX.out.crash oN oM hgood.fits
                      have HCR := Lib.hid hcr
                      clear hlast hcr hgood e0 e1 e5
                      go_wp2_with fail
                      refine HCR.out.mono ?_
                      rintro e w6 ⟨rfl, h6⟩
                      replace h6 : Own w0 w6 [rDisk w0.heap.size d (crashOf m oN oM), rObj w0.heap.size st (.cells #[.pointer (some ⟨d, 0, none⟩)] 146), rDigs w0.heap.size (.slice ha HH.length hc) HH, rDigs w0.heap.size (.slice ua SS.length uc) SS, rObj w0.heap.size sb (.cells cl.toArray 58), rObj w0.heap.size ob (opBObj 6 oNm (.slice pa oP.length pc) oN oM)] := h6
                      have hb6 := HBI.out.crash oN oM
                      obtain ⟨-, -, p3, p4⟩ := opB_at (h6.at (b := ob) (o := opBObj 6 oNm (.slice pa oP.length pc) oN oM) (by simp)).1
                      have H6 := Lib.hid h6
                      have HB6 := Lib.hid hb6
                      clear h6 hb6 HCR q0 q2 q3 q4
                      by_cases hm : oM.tmod 2 = 1
                      · have bm : (oM.tmod 2 == 1) = true := by rw [beq_iff_eq]; exact hm
                        obtain ⟨x, hx, hx4⟩ := uint_mod oM 4 (by omega) (by omega)
                        have hx' : wrap64 ((IntKind.u64.wrap oM).tmod 4) = (x : Int) := hx
                        have j5 : (0 : Int) ≤ (x : Int) := by omega
                        have j6 : (x : Int) < 4 := by omega
                        obtain ⟨w7, hfu, h7⟩ := H6.out.fuse (x : Int)
                        have hb7 := HB6.out.fuse (x : Int) (by omega)
                        generalize (fuseOf (crashOf m oN oM) (x : Int)).2 = m7 at h7 hb7
                        generalize (fuseOf (crashOf m oN oM) (x : Int)).1 = fc at hfu
                        have hn7 : Calls Try.prog 41 #[.pointer (some ⟨d, 0, none⟩)] w7 fun e w' => ∃ t, e = .returned t ∧ Own w0 w' [rDisk w0.heap.size d (bNewOf m7).2, rObj w0.heap.size st (.cells #[.pointer (some ⟨d, 0, none⟩)] 146), rDigs w0.heap.size (.slice ha HH.length hc) HH, rDigs w0.heap.size (.slice ua SS.length uc) SS, rObj w0.heap.size sb (.cells cl.toArray 58), rObj w0.heap.size ob (opBObj 6 oNm (.slice pa oP.length pc) oN oM)] := by
                          refine (bnew_calls h7 hb7.tidy.good (by have := HK60.out; omega)).mono ?_
                          rintro e w' (⟨_, rfl, h'⟩ | ⟨_, st', rfl, h'⟩)
                          · exact ⟨_, rfl, h'⟩
                          · exact ⟨_, rfl, h'.swap.drop⟩
                        have hb8 := hb7.new.1
                        generalize (bNewOf m7).2 = m8 at hn7 hb8
                        obtain ⟨-, -, p37, p47⟩ := opB_at (h7.at (b := ob) (o := opBObj 6 oNm (.slice pa oP.length pc) oN oM) (by simp)).1
                        have HFU := Lib.hid hfu
                        have HN7 := Lib.hid hn7
                        have HB8 := Lib.hid hb8
                        clear hfu hn7 hb7 hb8 h7 hx hm H6
                        go_wp2_with fail
                        refine HFU.out.out.mono ?_; rintro e w' ⟨rfl, rfl⟩
                        go_wp2_with fail
                        refine HN7.out.mono ?_
                        rintro e w8 ⟨t8, rfl, h8⟩
                        obtain ⟨-, -, p38, p48⟩ := opB_at (h8.at (b := ob) (o := opBObj 6 oNm (.slice pa oP.length pc) oN oM) (by simp)).1
                        have hcr2 := fun a b => h8.crash a b HB8.out.tidy.good.fits
                        have HCR2 := Lib.hid hcr2
                        clear hcr2 h8 HFU HN7 p3 p4 p37 p47
                        go_wp2_with fail
                        refine (HCR2.out _ _).mono ?_
                        rintro e w9 ⟨rfl, h9⟩
                        have hb9 := HB8.out.crash (wrap64 (oN.tdiv 2)) (wrap64 (oM.tdiv 2))
                        have hl9 := HLAST.out w9 _ _ hb9 (by omega) rfl rfl h9
                        have HL9 := Lib.hid hl9
                        clear hl9 hb9 h9 HCR2 p38 p48
                        go_wp2_with fail
                        refine HL9.out.mono ?_
                        rintro e w10 ⟨st', rfl, hfin⟩
                        have HG := Lib.hid hfin
                        clear hfin HL9
                        go_wp2_with fail
                        go_meet
                        exact HG.out
                      · have bm : (oM.tmod 2 == 1) = false := by rw [beq_eq_false_iff_ne]; exact hm
                        have hl9 := HLAST.out w6 _ _ HB6.out (by omega) rfl rfl H6.out
                        have HL9 := Lib.hid hl9
                        clear hl9 hm H6
                        go_wp2_with fail
                        refine HL9.out.mono ?_
                        rintro e w10 ⟨st', rfl, hfin⟩
                        have HG := Lib.hid hfin
                        clear hfin HL9
                        go_wp2_with fail
                        go_meet
                        exact HG.out
                    · have b6 : (oK == 6) = false := by rw [beq_eq_false_iff_ne]; exact e6
                      have HG := Lib.hid (HFIN.out _ _ _ _ _ _ _ _ HBI.out (Nat.le_add_right _ _) (by have := HL12.out; omega) (by have := HL12.out; omega) HOX.out)
                      clear hgood e0 e1 e5 e6
                      go_wp2_with fail
                      go_meet
                      exact HG.out
          case rest =>
            obtain ⟨H2, S2, m2, st, rfl, hbi, l1, l2, ho⟩ := hcut
            obtain ⟨ha, hc, rfl, _, _⟩ := (ho.digs (v := u9) (L := H2) (by simp)).form
            obtain ⟨ua, uc, rfl, _, _⟩ := (ho.digs (v := u10) (L := S2) (by simp)).form
            have hdn := ho.down
            have hb2 : BSt w0 wc d H2 S2 m2 (8 * k + 8) (.pointer (some ⟨st, 0, none⟩)) (.slice ha H2.length hc) (.slice ua S2.length uc) _ := ⟨st, rfl, hbi, l1, l2, ho⟩
            have hrl : ∀ wx, Keeps (fun _ => False) wc wx → ∃ (k' : Nat) (H S : List (List UInt8)) (m : DM), Value.int .i64 ((k + 1 : Nat) : Int) = .int .i64 (k' : Int) ∧ k' ≤ len ∧ k' ≤ 60 ∧ BSt w0 wx d H S m (8 * k') (.pointer (some ⟨st, 0, none⟩)) (.slice ha H2.length hc) (.slice ua S2.length uc) [] := fun wx hk => ⟨k + 1, H2, S2, m2, rfl, HLT.out, HK60.out, (hb2.quiet hk).front (by omega)⟩
            have HREL := Lib.hid hrl
            have HOC := Lib.hid ho
            have HBI := Lib.hid hbi
            have HLN := Lib.hid (by have := HK60.out; omega : H2.length ≤ 488 ∧ S2.length ≤ 488)
            have jH : (H2.length : Int) ≤ 488 := by have := HLN.out; omega
            clear hb2 hrl H6 q0 q2 q3 q4 c0 c1 c2 c3 c4 HP HON HPL HCL HDD HD32 HDZ HI HC32 HCI HONE
            by_cases hd : m2.down = true
            · rw [hd] at hdn
              have HDN := Lib.hid hdn
              have HG := Lib.hid (HREL.out wc (Keeps.refl _ wc))
              clear hdn hd hbi l1 l2 ho
              go_wp2_with fail
              refine HDN.out.out.mono ?_
              rintro e w' ⟨rfl, rfl⟩
              go_wp2_with fail
              go_roundw
              case rel => exact HG.out
              case measure => have := HLT.out; simp [intOf]; omega
            · have hdf : m2.down = false := by simpa using hd
              rw [hdf] at hdn
              obtain ⟨L, hL32, hE, hT1, hT2⟩ := hbi.told hdf
              have hli := blist_calls ho (st := st) (by simp) hbi.tidy (by have := HK60.out; omega) hdf hL32 hE
              have hln : L.length ≤ 8 * k + 8 := by
                have h1 : (namesOf m2.now ⟨#[98, 47]⟩).length ≤ m2.now.length := by unfold namesOf; rw [List.length_map]; exact List.length_filter_le _ _
                rw [hE, List.length_map] at h1
                exact Nat.le_trans h1 hbi.tidy.lnow
              have HLB := Lib.hid (by have := HK60.out; omega : L.length ≤ 1099511627776)
              have HLI := Lib.hid hli
              have HT1 := Lib.hid hT1
              have HT2 := Lib.hid hT2
              have HDN := Lib.hid hdn
              clear hln hli hT1 hT2 hdn hd hdf hbi l1 l2 ho hE hL32
              go_wp2_with fail
              refine HDN.out.out.mono ?_
              rintro e w' ⟨rfl, rfl⟩
              go_wp2_with fail
              refine HLI.out.mono ?_
              rintro e w7 ⟨la, lc, rfl, hld, hk7⟩
              have jL : (L.length : Int) ≤ 9223372036854775807 := by
                obtain ⟨_, _, hle, hlc1, hlc2⟩ := hld.form
                unfold maxLen at hlc2
                omega
              have HLD := Lib.hid (hld.base (Nat.zero_le _))
              have HK7 := Lib.hid hk7
              clear hld hk7 HLI HDN
              go_wp2_with fail
              go_loopw [182] (fun iv wx => ∃ j : Nat, iv = .int .i64 (j : Int) ∧ j ≤ L.length ∧ Keeps (fun _ => False) w7 wx) (fun iv _ => L.length - (intOf iv).toNat)
              case atStart => exact ⟨0, rfl, Nat.zero_le _, Keeps.refl _ _⟩
              case round =>
                obtain ⟨j, rfl, hj, hkp⟩ := hrel
                have i0 : (0 : Int) ≤ j := by omega
                by_cases hjl : j < L.length
                · obtain ⟨x, hx⟩ : ∃ x, L[j]? = some x := ⟨L[j], List.getElem?_eq_getElem hjl⟩
                  obtain ⟨g, c, hv, hrg⟩ := (HLD.out.quiet hkp).cell hx
                  cases hv
                  have i1 : (j : Int) < L.length := by omega
                  have hx32 := HLD.out.2 x (List.mem_of_getElem? hx)
                  obtain ⟨hwh, hmem⟩ := HT1.out x (List.mem_of_getElem? hx)
                  obtain ⟨xl, hxl2⟩ : ∃ xl : List Value, xl = x.map u8v := ⟨_, rfl⟩
                  rw [← hxl2] at hrg
                  have hxs : xl.toArray.size = 32 := by rw [hxl2]; simp [hx32]
                  have hkb := (HK7.out.trans hkp (fun _ _ e => e)).trans ((Keeps.refl (fun _ => False) wr).alloc (.cells xl.toArray 58)) (fun _ _ e => e)
                  have hwc := bwhole_calls (HOC.out.quiet hkb) (st := st) (by simp) HBI.out.tidy.good hx32
                  rw [hwh, ← hxl2] at hwc
                  have hh1 : ∀ W, Keeps (fun _ => False) (wr.alloc (.cells xl.toArray 58)) W → Calls Try.prog 72 #[.slice ha H2.length hc, .agg xl.toArray] W (QuietP W (.bool (decide (x ∈ H2)))) := fun W hk => by
                    have := has_calls ((HOC.out.quiet (hkb.trans hk (fun _ _ e => e))).digs (v := .slice ha H2.length hc) (L := H2) (by simp)) hx32 (by have := HLN.out; omega)
                    rw [← hxl2] at this
                    exact this
                  have hh2 : ∀ W, Keeps (fun _ => False) (wr.alloc (.cells xl.toArray 58)) W → Calls Try.prog 72 #[.slice ua S2.length uc, .agg xl.toArray] W (QuietP W (.bool (decide (x ∈ S2)))) := fun W hk => by
                    have := has_calls ((HOC.out.quiet (hkb.trans hk (fun _ _ e => e))).digs (v := .slice ua S2.length uc) (L := S2) (by simp)) hx32 (by have := HLN.out; omega)
                    rw [← hxl2] at this
                    exact this
                  have HWC := Lib.hid hwc
                  have HRG := Lib.hid hrg
                  have HXI := Lib.hid (by rw [hxl2, List.length_map, hx32]; kernel_rfl : (Try.prog.info? 58).map (·.size) = some xl.length)
                  have HXI2 := Lib.hid (dig_info hxs)
                  have HXS := Lib.hid hxs
                  have HONE := Lib.hid (show xl.toArray.all (·.oneCell') = true from all_oneCell_toArray (by rw [hxl2]; exact dig_oneCell x))
                  have HZ := Lib.hid (heap_alloc_new wr (.cells zeroC 58))
                  have HB4 := Lib.hid (heap_alloc_new wr (.cells xl.toArray 58))
                  have HKB := Lib.hid (hkp.trans ((Keeps.refl (fun _ => False) wr).alloc (.cells xl.toArray 58)) (fun _ _ e => e))
                  have HJ := Lib.hid hjl
                  by_cases hxH : x ∈ H2
                  · rw [decide_eq_true hxH] at hh1
                    have HH1 := Lib.hid hh1
                    clear hwc hrg hxs hkb hh1 hh2 hwh hmem hxH hx hkp hx32 hxl2 hj hjl
                    go_wp2_with (first | (refine wpList_load_mid rfl 58 _ rfl g (j * 32) rfl xl _ HRG.out Try.underlying58 rfl HXI.out ?_) | (refine wpList_store_row rfl 58 _ _ rfl wr.heap.size xl.toArray rfl rfl 58 _ HZ.out HXI2.out (by rw [HXS.out]; kernel_rfl) HONE.out ?_; rw [World.setRow_alloc_new]) | (refine wpList_load_row rfl 58 _ rfl wr.heap.size rfl 58 xl.toArray (0, 0) _ HB4.out Try.underlying58 rfl HXI2.out ?_))
                    refine HWC.out.mono ?_
                    rintro e w9 ⟨rfl, hk9⟩
                    have HB9 := Lib.hid (hk9.at HB4.out (fun e => e))
                    have HH2 := Lib.hid (HH1.out _ hk9)
                    have HK9 := Lib.hid (HKB.out.trans hk9 (fun _ _ e => e))
                    clear hk9 HWC HZ HB4 HRG
                    go_wp2_with (first | (refine wpList_load_rowH (by rfl) 58 _ rfl wr.heap.size rfl 58 xl.toArray (0, 0) _ HB9.out Try.underlying58 rfl HXI2.out ?_))
                    refine HH2.out.mono ?_
                    rintro e w10 ⟨rfl, hk10⟩
                    have HK10 := Lib.hid (HK9.out.trans hk10 (fun _ _ e => e))
                    clear hk10 HB9
                    go_wp2_with fail
                    go_roundw
                    case rel => exact ⟨j + 1, rfl, HJ.out, HK10.out⟩
                    case measure => have := HJ.out; simp [intOf]; omega
                  · have hxS := hmem.resolve_left hxH
                    rw [decide_eq_false hxH] at hh1
                    rw [decide_eq_true hxS] at hh2
                    have HH1 := Lib.hid hh1
                    have HS1 := Lib.hid hh2
                    clear hwc hrg hxs hkb hh1 hh2 hwh hmem hxH hxS hx hkp hx32 hxl2 hj hjl
                    go_wp2_with (first | (refine wpList_load_mid rfl 58 _ rfl g (j * 32) rfl xl _ HRG.out Try.underlying58 rfl HXI.out ?_) | (refine wpList_store_row rfl 58 _ _ rfl wr.heap.size xl.toArray rfl rfl 58 _ HZ.out HXI2.out (by rw [HXS.out]; kernel_rfl) HONE.out ?_; rw [World.setRow_alloc_new]) | (refine wpList_load_row rfl 58 _ rfl wr.heap.size rfl 58 xl.toArray (0, 0) _ HB4.out Try.underlying58 rfl HXI2.out ?_))
                    refine HWC.out.mono ?_
                    rintro e w9 ⟨rfl, hk9⟩
                    have HB9 := Lib.hid (hk9.at HB4.out (fun e => e))
                    have HH2 := Lib.hid (HH1.out _ hk9)
                    have HK9 := Lib.hid (HKB.out.trans hk9 (fun _ _ e => e))
                    have HKA := Lib.hid hk9
                    clear hk9 HWC HZ HB4 HRG
                    go_wp2_with (first | (refine wpList_load_rowH (by rfl) 58 _ rfl wr.heap.size rfl 58 xl.toArray (0, 0) _ HB9.out Try.underlying58 rfl HXI2.out ?_))
                    refine HH2.out.mono ?_
                    rintro e w10 ⟨rfl, hk10⟩
                    have HK10 := Lib.hid (HK9.out.trans hk10 (fun _ _ e => e))
                    have HB10 := Lib.hid (hk10.at HB9.out (fun e => e))
                    have HS2 := Lib.hid (HS1.out _ (HKA.out.trans hk10 (fun _ _ e => e)))
                    clear hk10 HB9
                    go_wp2_with (first | (refine wpList_load_rowH (by rfl) 58 _ rfl wr.heap.size rfl 58 xl.toArray (0, 0) _ HB10.out Try.underlying58 rfl HXI2.out ?_))
                    refine HS2.out.mono ?_
                    rintro e w11 ⟨rfl, hk11⟩
                    have HK11 := Lib.hid (HK10.out.trans hk11 (fun _ _ e => e))
                    clear hk11 HB10
                    go_wp2_with fail
                    go_roundw
                    case rel => exact ⟨j + 1, rfl, HJ.out, HK11.out⟩
                    case measure => have := HJ.out; simp [intOf]; omega
                · obtain rfl : j = L.length := by omega
                  have HKQ := Lib.hid hkp
                  clear hkp hj hjl
                  go_wp2_with fail
                  go_loopw [205] (fun iv wx => ∃ j : Nat, iv = .int .i64 (j : Int) ∧ j ≤ H2.length ∧ Keeps (fun _ => False) w7 wx) (fun iv _ => H2.length - (intOf iv).toNat)
                  case atStart => exact ⟨0, rfl, Nat.zero_le _, HKQ.out⟩
                  case round =>
                    obtain ⟨j, rfl, hj, hkp⟩ := hrel
                    have i0 : (0 : Int) ≤ j := by omega
                    by_cases hjl : j < H2.length
                    · obtain ⟨x, hx⟩ : ∃ x, H2[j]? = some x := ⟨H2[j], List.getElem?_eq_getElem hjl⟩
                      have hkc := HK7.out.trans hkp (fun _ _ e => e)
                      have hdg := (HOC.out.quiet hkc).digs (v := .slice ha H2.length hc) (L := H2) (by simp)
                      obtain ⟨g, c, hv, hrg⟩ := hdg.cell hx
                      cases hv
                      have i1 : (j : Int) < H2.length := by omega
                      have hx32 := hdg.2 x (List.mem_of_getElem? hx)
                      have hxL := HT2.out x (List.mem_of_getElem? hx)
                      obtain ⟨xl, hxl2⟩ : ∃ xl : List Value, xl = x.map u8v := ⟨_, rfl⟩
                      rw [← hxl2] at hrg
                      have hxs : xl.toArray.size = 32 := by rw [hxl2]; simp [hx32]
                      have hkb := hkp.trans ((Keeps.refl (fun _ => False) wr).alloc (.cells xl.toArray 58)) (fun _ _ e => e)
                      have hh := has_calls (HLD.out.quiet hkb) hx32 HLB.out
                      rw [decide_eq_true hxL, ← hxl2] at hh
                      have HHL := Lib.hid hh
                      have HRG := Lib.hid hrg
                      have HXI := Lib.hid (by rw [hxl2, List.length_map, hx32]; kernel_rfl : (Try.prog.info? 58).map (·.size) = some xl.length)
                      have HXI2 := Lib.hid (dig_info hxs)
                      have HXS := Lib.hid hxs
                      have HONE := Lib.hid (show xl.toArray.all (·.oneCell') = true from all_oneCell_toArray (by rw [hxl2]; exact dig_oneCell x))
                      have HZ := Lib.hid (heap_alloc_new wr (.cells zeroC 58))
                      have HB4 := Lib.hid (heap_alloc_new wr (.cells xl.toArray 58))
                      have HKB := Lib.hid hkb
                      have HJ := Lib.hid hjl
                      clear hrg hxs hkb hh hxL hx hkp hx32 hxl2 hj hjl hdg hkc
                      go_wp2_with (first | (refine wpList_load_mid rfl 58 _ rfl g (j * 32) rfl xl _ HRG.out Try.underlying58 rfl HXI.out ?_) | (refine wpList_store_row rfl 58 _ _ rfl wr.heap.size xl.toArray rfl rfl 58 _ HZ.out HXI2.out (by rw [HXS.out]; kernel_rfl) HONE.out ?_; rw [World.setRow_alloc_new]) | (refine wpList_load_row rfl 58 _ rfl wr.heap.size rfl 58 xl.toArray (0, 0) _ HB4.out Try.underlying58 rfl HXI2.out ?_))
                      refine HHL.out.mono ?_
                      rintro e w9 ⟨rfl, hk9⟩
                      have HK9 := Lib.hid (HKB.out.trans hk9 (fun _ _ e => e))
                      clear hk9 HZ HB4 HRG
                      go_wp2_with fail
                      go_roundw
                      case rel => exact ⟨j + 1, rfl, HJ.out, HK9.out⟩
                      case measure => have := HJ.out; simp [intOf]; omega
                    · obtain rfl : j = H2.length := by omega
                      have HG := Lib.hid (HREL.out wr (HK7.out.trans hkp (fun _ _ e => e)))
                      clear hkp hj hjl
                      go_wp2_with fail
                      go_roundw
                      case rel => exact HG.out
                      case measure => have := HLT.out; simp [intOf]; omega
    · obtain rfl : k = len := by omega
      have HB := Lib.hid hst.keeps.below
      clear hst hlt hk
      go_wp2_with fail
      go_ret
      exact ⟨rfl, HB.out⟩
end Go.Proofs.Ytlinkpjneehnbaa
