/- The walk of JournalPlays. -/
import Derived.Test.YtlinkpjneehnbaaJPairs
import Derived.Deep.DeepCutAuto
import Derived.Deep.CutBlock
namespace Go.Proofs.Ytlinkpjneehnbaa
set_option linter.unusedVariables false
open Go.RowKit Go.MapKept

/-- Both disks, and both journals, if there are any. -/
def JSt (w0 w : World) (d r : Nat) (nm : ByteArray) (m : DM) (i : Nat) (rs : List (Res w0.heap.size)) (jv kv : Value) : Prop :=
  (jv = .pointer none ∧ kv = .pointer none ∧ JI m none i ∧ Own w0 w (rDisk w0.heap.size d m :: rRef w0.heap.size r m :: rs)) ∨
    ∃ (j q : Nat) (l : List (List UInt8)) (v : Value), jv = .pointer (some ⟨j, 0, none⟩) ∧ kv = .pointer (some ⟨q, 0, none⟩) ∧ JI m (some l) i ∧ JTwo w0 w d r j q nm m l v rs
theorem JSt.of_opened {w0 w : World} {d r : Nat} {nm : ByteArray} {m : DM} {i : Nat} {rs : List (Res w0.heap.size)} {st : Option (List (List UInt8))} {jp kp ra : Option Addr} {n rc : Nat} (h : Opened w0 w d r nm m rs st jp kp ra n rc) (hi : JI m st i) : JSt w0 w d r nm m i rs (.pointer jp) (.pointer kp) := by
  rcases h with ⟨rfl, rfl, rfl, rfl, h⟩ | ⟨l, j, q, v, rfl, rfl, rfl, rfl, _, _, h⟩
  · exact .inl ⟨rfl, rfl, hi, h⟩
  · exact .inr ⟨j, q, l, v, rfl, rfl, hi, h.unbox⟩
/-- What the loop holds to. -/
def JRel (w0 : World) (nm : ByteArray) (d r len : Nat) (jv kv iv : Value) (wx : World) : Prop :=
  ∃ (m : DM) (k : Nat), iv = .int .i64 (k : Int) ∧ k ≤ len ∧ k ≤ 40 ∧ JSt w0 wx d r nm m (2 * k + 1) [] jv kv
theorem JSt.box {w0 w : World} {d r : Nat} {nm : ByteArray} {m : DM} {i : Nat} {jv kv : Value} (h : JSt w0 w d r nm m i [] jv kv) (o : Obj) : JSt w0 (w.alloc o) d r nm m i [rObj w0.heap.size w.heap.size o] jv kv := by
  rcases h with ⟨rfl, rfl, hi, h⟩ | ⟨j, q, l, v, rfl, rfl, hi, h⟩
  · exact .inl ⟨rfl, rfl, hi, (h.alloc o).perm (List.perm_append_comm (l₁ := [_]) (l₂ := [_, _]))⟩
  · exact .inr ⟨j, q, l, v, rfl, rfl, hi, h.box o⟩
theorem JSt.own {w0 w : World} {d r : Nat} {nm : ByteArray} {m : DM} {i : Nat} {jv kv : Value} {rs : List (Res w0.heap.size)} (h : JSt w0 w d r nm m i rs jv kv) : Own w0 w (rDisk w0.heap.size d m :: rRef w0.heap.size r m :: rs) := by
  rcases h with ⟨rfl, rfl, hi, h⟩ | ⟨j, q, l, v, rfl, rfl, hi, h⟩
  · exact h
  · exact h.drop3
theorem JSt.obj {w0 w : World} {d r : Nat} {nm : ByteArray} {m : DM} {i : Nat} {jv kv : Value} {rs : List (Res w0.heap.size)} (h : JSt w0 w d r nm m i rs jv kv) {t : Nat} {o : Obj} (hm : rObj w0.heap.size t o ∈ rs) : w.heap[t]? = some o :=
  (h.own.at (b := t) (o := o) (by simp [hm])).1
theorem JSt.ji {w0 w : World} {d r : Nat} {nm : ByteArray} {m : DM} {i : Nat} {jv kv : Value} {rs : List (Res w0.heap.size)} (h : JSt w0 w d r nm m i rs jv kv) : ∃ st, JI m st i := by
  rcases h with ⟨rfl, rfl, hi, h⟩ | ⟨j, q, l, v, rfl, rfl, hi, h⟩
  · exact ⟨_, hi⟩
  · exact ⟨_, hi⟩
theorem JSt.does {w0 w : World} {d r : Nat} {nm : ByteArray} {m : DM} {i : Nat} {jv kv : Value} {rs : List (Res w0.heap.size)} (h : JSt w0 w d r nm m i rs jv kv) (hi : i ≤ 100) (kd n mm : Int) (hn : n ≤ 9223372036854775807) :
    Calls Try.prog 57 #[.pointer (some ⟨d, 0, none⟩), .pointer (some ⟨r, 0, none⟩), .agg #[.int .i64 kd, .string ⟨#[]⟩, .string ⟨#[]⟩, .slice none 0 0, .int .i64 n, .int .i64 mm]] w fun e w' => e = .returned (.bool true) ∧ ∃ m', JSt w0 w' d r nm m' (i + 1) rs jv kv := by
  rcases h with ⟨rfl, rfl, hji, h⟩ | ⟨j, q, l, v, rfl, rfl, hji, h⟩
  · refine (does9_calls h hji.tidy (by omega) (by omega) ⟨kd, ⟨#[]⟩, ⟨#[]⟩, [], n, mm⟩ (reads_nil w0) (by simp)).mono ?_
    rintro e w' ⟨rfl, ho⟩
    exact ⟨rfl, _, .inl ⟨rfl, rfl, hji.does _ hn, ho⟩⟩
  · refine (does9_calls h hji.tidy (by omega) (by omega) ⟨kd, ⟨#[]⟩, ⟨#[]⟩, [], n, mm⟩ (reads_nil w0) (by simp)).mono ?_
    rintro e w' ⟨rfl, ho⟩
    exact ⟨rfl, _, .inr ⟨j, q, l, v, rfl, rfl, hji.does _ hn, ho⟩⟩
theorem JSt.next {w0 w : World} {d r : Nat} {nm : ByteArray} {m : DM} {i : Nat} {jv kv : Value} {rs : List (Res w0.heap.size)} (h : JSt w0 w d r nm m i rs jv kv) : JSt w0 w d r nm m (i + 1) rs jv kv := by
  rcases h with ⟨rfl, rfl, hji, h⟩ | ⟨j, q, l, v, rfl, rfl, hji, h⟩
  · exact .inl ⟨rfl, rfl, hji.next, h⟩
  · exact .inr ⟨j, q, l, v, rfl, rfl, hji.next, h⟩
theorem JSt.quiet {w0 w w' : World} {d r : Nat} {nm : ByteArray} {m : DM} {i : Nat} {jv kv : Value} {rs : List (Res w0.heap.size)} (h : JSt w0 w d r nm m i rs jv kv) (hk : Keeps (fun _ => False) w w') : JSt w0 w' d r nm m i rs jv kv := by
  rcases h with ⟨rfl, rfl, hji, h⟩ | ⟨j, q, l, v, rfl, rfl, hji, h⟩
  · exact .inl ⟨rfl, rfl, hji, h.quiet hk⟩
  · exact .inr ⟨j, q, l, v, rfl, rfl, hji, Own.quiet h hk⟩
theorem JSt.unbox {w0 w : World} {d r : Nat} {nm : ByteArray} {m : DM} {i : Nat} {jv kv : Value} {x : Res w0.heap.size} {rs : List (Res w0.heap.size)} (h : JSt w0 w d r nm m i (x :: rs) jv kv) : JSt w0 w d r nm m i rs jv kv := by
  rcases h with ⟨rfl, rfl, hji, h⟩ | ⟨j, q, l, v, rfl, rfl, hji, h⟩
  · exact .inl ⟨rfl, rfl, hji, Own.drop (r := x) (h.perm ((List.perm_append_comm (l₁ := [_, _]) (l₂ := [x])).append_right rs))⟩
  · exact .inr ⟨j, q, l, v, rfl, rfl, hji, h.unbox⟩
/-- The block of a step, filled. -/
def opJObj (k : Int) (pv rv : Value) (n m : Int) : Obj := .cells #[.int .i64 k, pv, rv, .int .i64 n, .int .i64 m] 67 (0, 0)
theorem opJ_at {w : World} {t : Nat} {k n m : Int} {pv rv : Value} (hb : w.heap[t]? = some (opJObj k pv rv n m)) :
    w.cell? ⟨t, 0, none⟩ = some (.int .i64 k) ∧ w.cell? ⟨t, 1, none⟩ = some pv ∧ w.cell? ⟨t, 2, none⟩ = some rv ∧ w.cell? ⟨t, 3, none⟩ = some (.int .i64 n) ∧ w.cell? ⟨t, 4, none⟩ = some (.int .i64 m) :=
  ⟨cell_at hb rfl, cell_at hb rfl, cell_at hb rfl, cell_at hb rfl, cell_at hb rfl⟩
theorem opJ_cells {W wr : World} {a : Option Addr} {len i : Nat} (h : OpsIn W a len) (hi : i < len) (hk : Keeps (fun _ => False) W wr) : ∃ (b f : Nat) (o : OpJ) (pv rv : Value), a = some ⟨b, f, none⟩ ∧ wr.cell? ⟨b, f + i * 5, none⟩ = some (.int .i64 o.kind) ∧ wr.cell? ⟨b, f + i * 5 + 1, none⟩ = some pv ∧ wr.cell? ⟨b, f + i * 5 + 2, none⟩ = some rv ∧ wr.cell? ⟨b, f + i * 5 + 3, none⟩ = some (.int .i64 o.n) ∧ wr.cell? ⟨b, f + i * 5 + 4, none⟩ = some (.int .i64 o.m) ∧
    Reads W pv o.p ∧ RowsIn W rv o.recs ∧ (∃ a c, rv = .slice a o.recs.length c ∧ o.recs.length ≤ c ∧ c ≤ maxLen) ∧ o.n ≤ 9223372036854775807 := by
  obtain ⟨x, o0, _, _, rfl, h0⟩ := h 0 (by omega)
  obtain ⟨x', o, pv, rv, e, ho⟩ := h i hi
  cases e
  obtain ⟨b, f, sp⟩ := x
  obtain rfl : sp = none := spot_none9 (b := b) (o := f) h0.c0
  have still : ∀ (y : Addr) (v : Value), W.cell? y = some v → wr.cell? y = some v := fun y v hy => (World.cell?_of_block (hk.block _ (World.block_lt_of_cell? W _ hy) (fun e => e))).trans hy
  have c0 := ho.c0
  have c1 := ho.c1
  have c2 := ho.c2
  have c3 := ho.c3
  have c4 := ho.c4
  rw [Addr.add_lit] at c0 c1 c2 c3 c4
  exact ⟨b, f, o, pv, rv, rfl, still _ _ c0, still _ _ c1, still _ _ c2, still _ _ c3, still _ _ c4, ho.p, ho.r.1, ho.r.2, ho.n.1⟩

set_option maxRecDepth 100000 in
set_option maxHeartbeats 4000000 in
theorem jplays_long (room : Int) (nm : ByteArray) (a : Option Addr) (len cap : Nat) (w0 : World) (hnm : 200 < nm.size) :
    Calls Try.prog 15 #[.int .i64 room, .string nm, .slice a len cap] w0 fun e w' => e = .returned (.bool true) ∧ Below w0.heap.size w0 w' := by
  have haw := awakeJ_calls w0
  have haw2 := fun w => awakeJ_calls w
  have j1 : (200 : Int) < (nm.size : Int) := by omega
  have HA := Lib.hid haw2
  clear haw2 hnm
  go_enter Try.func15, Try.ntmps15
  go_wp2_with fail
  refine haw.mono ?_; rintro e w1 ⟨rfl, hk1⟩
  go_wp2_with fail
  refine (HA.out _).mono ?_; rintro e w2 ⟨rfl, hk2⟩
  have HB := Lib.hid ((hk1.trans hk2 (fun _ _ e => e)).below)
  clear hk1 hk2 haw HA
  go_wp2_with fail
  go_ret
  exact ⟨rfl, HB.out⟩

set_option maxRecDepth 100000 in
set_option maxHeartbeats 8000000 in
theorem jplays_walk (room : Int) (nm : ByteArray) (a : Option Addr) (len cap : Nat) (w0 : World) (hlc : len ≤ cap) (hcm : cap ≤ maxLen) (hops : OpsIn w0 a len) (hnm : ¬ 200 < nm.size) :
    Calls Try.prog 15 #[.int .i64 room, .string nm, .slice a len cap] w0 fun e w' => e = .returned (.bool true) ∧ Below w0.heap.size w0 w' := by
  have jl : (len : Int) ≤ 9223372036854775807 := by unfold maxLen at hcm; omega
  have j1 : ¬ (200 : Int) < (nm.size : Int) := by omega
  obtain ⟨r0, hr, hr0, hr1⟩ : ∃ r : Int, wrap64 ((IntKind.u64.wrap room).tmod 4000) = r ∧ 0 ≤ r ∧ r < 4000 := by
    obtain ⟨n, e, h⟩ := uint_mod room 4000 (by omega) (by omega)
    exact ⟨n, e, by omega, by omega⟩
  have haw := awakeJ_calls w0
  have HOPS := Lib.hid hops
  have HNM := Lib.hid (by omega : nm.size ≤ 200)
  clear hops hnm hlc hcm
  go_enter Try.func15, Try.ntmps15
  go_wp2_with fail
  refine haw.mono ?_; rintro e w1 ⟨rfl, hk1⟩
  obtain ⟨d, w2, hnew, ho2⟩ := ((Own.start w0).quiet hk1).new r0 hr0 (by omega)
  obtain ⟨r, w3, hrn, ho3⟩ := ho2.rnew r0
  have ht0 : JI (newOf r0) none 0 := ⟨Tidy.new hr0 (by omega), fun l e => by cases e⟩
  obtain ⟨c, m', st', hji, hfr, hop⟩ := open_both ho3.swap ht0 (by omega) (nm := nm) (by omega)
  have hst0 : st' = some [] ∨ st' = none := by
    cases hs : st' with
    | none => exact .inr rfl
    | some l => rw [hfr r0 rfl l hs]; exact .inl rfl
  have HOP := Lib.hid hop
  have HJI := Lib.hid hji
  clear ho2 hk1 haw hji hop hfr ho3 ht0
  go_wp2_with fail
  refine hnew.out.mono ?_; rintro e w' ⟨rfl, rfl⟩
  go_wp2_with fail
  refine hrn.out.mono ?_; rintro e w' ⟨rfl, rfl⟩
  clear hnew hrn
  go_wp2_with fail
  refine HOP.out.mono ?_; rintro e w4 ⟨jp, ra, n, rc, rfl, hn, -, hop2⟩
  obtain rfl := hn hst0
  have HOP2 := Lib.hid (hop2 _ (.inl rfl))
  clear hop2 HOP hst0 hn
  go_wp2_with fail
  refine HOP2.out.mono ?_; rintro e w5 ⟨kp, rfl, hjk, hopd⟩
  have HR0 := Lib.hid (⟨m', 0, rfl, Nat.zero_le _, Nat.zero_le _, JSt.of_opened hopd HJI.out⟩ : JRel w0 nm d r len (.pointer jp) (.pointer kp) (.int .i64 0) w5)
  clear HOP2 hopd HJI
  go_wp2_with fail
  go_loopw [10, 13, 69] (fun jv kv iv wx => JRel w0 nm d r len jv kv iv wx) (fun _ _ i _ => len - (intOf i).toNat)
  case atStart => exact HR0.out
  case round =>
    obtain ⟨m, k, rfl, hk, hk40, hst⟩ := hrel
    clear HR0 hjk
    have j0 : (0 : Int) ≤ k := by omega
    by_cases hlt : k < len
    · obtain ⟨xb, xf, o, pv, rv, rfl, c0, c1, c2, c3, c4, hp, hr, ⟨qa, qc, rfl, hr1, hr2⟩, hon⟩ := opJ_cells HOPS.out hlt hst.own.keeps
      obtain ⟨pa, pc, rfl, _, _⟩ := hp.form
      obtain ⟨oK, oP, oR, oN, oM⟩ := o
      simp only at c0 c1 c2 c3 c4 hp hr hr1 hr2 hon
      have j2 : (k : Int) < len := by omega
      have hbx := hst.box (opJObj oK (.slice pa oP.length pc) (.slice qa oR.length qc) oN oM)
      have hsm := small_calls (hr.keep hbx.own.keeps) ⟨qa, rfl⟩ hr1 hr2
      have HBX := Lib.hid hbx
      have HSM := Lib.hid hsm
      have HP := Lib.hid hp
      have HR := Lib.hid hr
      have HON := Lib.hid hon
      have HLT := Lib.hid hlt
      clear hst hp hr hr1 hr2 hon hbx hsm hk hlt
      by_cases h40 : k = 40
      · have j3 : (40 : Int) ≤ k := by omega
        have HB := Lib.hid HBX.out.own.below
        clear h40
        go_wp2_with fail
        go_ret
        exact ⟨rfl, HB.out⟩
      · have j3 : ¬ (40 : Int) ≤ k := by omega
        have HK40 := Lib.hid (by omega : k < 40)
        clear h40
        go_wp2_with fail
        refine HSM.out.mono ?_
        rintro e w5 ⟨rfl, hw⟩
        have h5 := HBX.out
        rw [hw] at h5
        generalize hwb : wr.heap.size = wb at *
        have H5 := Lib.hid h5
        obtain ⟨q0, q1, q2, q3, q4⟩ := opJ_at (h5.obj (t := wb) (o := opJObj oK (.slice pa oP.length pc) (.slice qa oR.length qc) oN oM) (List.mem_cons_self ..))
        clear HSM HBX hw h5
        by_cases hs : smallOf oR = true
        · rw [hs]
          by_cases h2k : 2000 < oP.length
          · have j4 : (2000 : Int) < (oP.length : Int) := by omega
            have HB := Lib.hid H5.out.own.below
            clear h2k hs
            go_wp2_with fail
            go_ret
            exact ⟨rfl, HB.out⟩
          · have j4 : ¬ (2000 : Int) < (oP.length : Int) := by omega
            have HS := Lib.hid (⟨hs, by omega⟩ : smallOf oR = true ∧ oP.length ≤ 2000)
            clear h2k hs
            go_upto_region 16 with fail
            go_cut [17] from 70 to 218 (fun s wx => s = .bool (oK == 3 || oK == 5) ∧ wx = w5)
            case first =>
              by_cases e3 : oK = 3
              · subst e3
                go_wp2_with fail
                go_meet
                exact ⟨rfl, rfl⟩
              · have b3 : (oK == 3) = false := by rw [beq_eq_false_iff_ne]; exact e3
                go_wp2_with fail
                go_meet
                simp [b3]
            case rest =>
              obtain ⟨rfl, rfl⟩ := hcut
              generalize (oK == 3 || oK == 5) = op
              go_upto_block 2 with fail
              go_cut [17] from 70 to 218 (fun s wx => s = .bool op ∧ ∃ m2, JSt w0 wx d r nm m2 (2 * k + 2) [rObj w0.heap.size wb (opJObj oK (.slice pa oP.length pc) (.slice qa oR.length qc) oN oM)] u10 u13)
              case first =>
                as_aux_lemma =>
                  have hgo : ∀ (m2 : DM) (wx : World), JSt w0 wx d r nm m2 (2 * k + 2) [rObj w0.heap.size wb (opJObj oK (.slice pa oP.length pc) (.slice qa oR.length qc) oN oM)] u10 u13 → ∃ m2, JSt w0 wx d r nm m2 (2 * k + 2) [rObj w0.heap.size wb (opJObj oK (.slice pa oP.length pc) (.slice qa oR.length qc) oN oM)] u10 u13 := fun m2 wx h => ⟨m2, h⟩
                  have HGO := Lib.hid hgo
                  clear hgo
                  by_cases e45 : oK = 4 ∨ oK = 5
                  · have hdo := fun kd => H5.out.does (by have := HK40.out; omega) kd oN oM HON.out
                    rcases e45 with rfl | rfl
                    · have HDO := Lib.hid (hdo 5)
                      clear hdo
                      go_wp2_with fail
                      refine HDO.out.mono ?_
                      rintro e w6 ⟨rfl, m2, h6⟩
                      have HG := Lib.hid (HGO.out m2 w6 h6)
                      clear h6
                      go_wp2_with fail
                      go_meet
                      exact ⟨rfl, HG.out⟩
                    · have HDO := Lib.hid (hdo 6)
                      clear hdo
                      go_wp2_with fail
                      refine HDO.out.mono ?_
                      rintro e w6 ⟨rfl, m2, h6⟩
                      have HG := Lib.hid (HGO.out m2 w6 h6)
                      clear h6
                      go_wp2_with fail
                      go_meet
                      exact ⟨rfl, HG.out⟩
                  · have n4 : (oK == 4) = false := by rw [beq_eq_false_iff_ne]; exact fun e => e45 (.inl e)
                    have n5 : (oK == 5) = false := by rw [beq_eq_false_iff_ne]; exact fun e => e45 (.inr e)
                    clear e45
                    rcases id H5.out with ⟨rfl, rfl, hji, hown⟩ | ⟨j, q, l, v, rfl, rfl, hji, htwo⟩
                    · have HN := Lib.hid (HGO.out m wc (.inl ⟨rfl, rfl, hji.next, hown⟩))
                      have HND := Lib.hid (HGO.out m wc.drew (.inl ⟨rfl, rfl, hji.next, hown.drew⟩))
                      clear hji hown
                      by_cases e0 : oK = 0
                      · subst e0
                        go_wp2_with fail
                        go_region
                        go_wp2_with fail
                        go_meet
                        exact ⟨rfl, HND.out⟩
                      · have b0 : (oK == 0) = false := by rw [beq_eq_false_iff_ne]; exact e0
                        by_cases e1 : oK = 1
                        · subst e1
                          clear e0
                          go_wp2_with fail
                          go_meet
                          exact ⟨rfl, HN.out⟩
                        · have b1 : (oK == 1) = false := by rw [beq_eq_false_iff_ne]; exact e1
                          by_cases e2 : oK = 2
                          · subst e2
                            clear e0 e1
                            go_wp2_with fail
                            go_region
                            go_wp2_with fail
                            go_meet
                            exact ⟨rfl, HND.out⟩
                          · have b2 : (oK == 2) = false := by rw [beq_eq_false_iff_ne]; exact e2
                            clear e0 e1 e2
                            go_wp2_with fail
                            go_meet
                            exact ⟨rfl, HN.out⟩
                    · have HJI := Lib.hid hji
                      have HTWO := Lib.hid htwo
                      have HN := Lib.hid (HGO.out m wc (.inr ⟨j, q, l, v, rfl, rfl, hji.next, htwo⟩))
                      clear hji htwo
                      by_cases e0 : oK = 0
                      · subst e0
                        obtain ⟨c', m2, l2, hi2, htw⟩ := twice_append (Own.drew HTWO.out) HJI.out (by have := HK40.out; omega) HP.out HS.out.2
                        have HTW := Lib.hid htw
                        have HI2 := Lib.hid hi2
                        clear htw hi2
                        go_wp2_with fail
                        go_region_held3 (fun w' => w'.cell? ⟨wb, 1, none⟩ = some (.slice pa oP.length pc)) (first | exact q1 | exact q1' | exact q1'' | go_keep) (first | (go_at_call 37; refine HTW.out.mono ?_; rintro e w6 ⟨rfl, hob, hnext⟩; have q1' := (opJ_at (hob wb _ (List.mem_cons_self ..))).2.1; have HNX := Lib.hid (hnext _ (.inl rfl)); clear hob hnext) | (go_at_call 62; refine HNX.out.mono ?_; rintro e w7 ⟨rfl, v', h7⟩; have q1'' := (opJ_at (objs_of h7 wb _ (List.mem_cons_self ..))).2.1))
                        all_goals
                          have HG := Lib.hid (HGO.out m2 w7 (.inr ⟨j, q, l2, v', rfl, rfl, HI2.out, h7⟩))
                          clear h7 q1' q1''
                          go_wp2_with fail
                          go_meet
                          exact ⟨rfl, HG.out⟩
                      · have b0 : (oK == 0) = false := by rw [beq_eq_false_iff_ne]; exact e0
                        by_cases e1 : oK = 1
                        · subst e1
                          clear e0
                          obtain ⟨c', m2, hi2, htw⟩ := twice_sync HTWO.out HJI.out
                          have HTW := Lib.hid htw
                          have HI2 := Lib.hid hi2
                          clear htw hi2
                          go_wp2_with fail
                          refine HTW.out.mono ?_
                          rintro e w6 ⟨rfl, -, hnext⟩
                          have HNX := Lib.hid (hnext _ (.inl rfl))
                          clear hnext
                          go_wp2_with fail
                          refine HNX.out.mono ?_
                          rintro e w7 ⟨rfl, v', h7⟩
                          have HG := Lib.hid (HGO.out m2 w7 (.inr ⟨j, q, l, v', rfl, rfl, HI2.out, h7⟩))
                          clear h7
                          go_wp2_with fail
                          go_meet
                          exact ⟨rfl, HG.out⟩
                        · have b1 : (oK == 1) = false := by rw [beq_eq_false_iff_ne]; exact e1
                          by_cases e2 : oK = 2
                          · subst e2
                            clear e0 e1
                            obtain ⟨c', m2, l2, hi2, htw⟩ := twice_rewrite (Own.drew HTWO.out) HJI.out (by have := HK40.out; omega) HNM.out HR.out HS.out.1
                            have HTW := Lib.hid htw
                            have HI2 := Lib.hid hi2
                            clear htw hi2
                            go_wp2_with fail
                            go_region_held3 (fun w' => w'.cell? ⟨wb, 2, none⟩ = some (.slice qa oR.length qc)) (first | exact q2 | exact q1' | exact q1'' | go_keep) (first | (go_at_call 40; refine HTW.out.mono ?_; rintro e w6 ⟨rfl, hob, hnext⟩; have q1' := (opJ_at (hob wb _ (List.mem_cons_self ..))).2.2.1; have HNX := Lib.hid (hnext _ (.inl rfl)); clear hob hnext) | (go_at_call 64; refine HNX.out.mono ?_; rintro e w7 ⟨rfl, v', h7⟩; have q1'' := (opJ_at (objs_of h7 wb _ (List.mem_cons_self ..))).2.2.1))
                            all_goals
                              have HG := Lib.hid (HGO.out m2 w7 (.inr ⟨j, q, l2, v', rfl, rfl, HI2.out, h7⟩))
                              clear h7 q1' q1''
                              go_wp2_with fail
                              go_meet
                              exact ⟨rfl, HG.out⟩
                          · have b2 : (oK == 2) = false := by rw [beq_eq_false_iff_ne]; exact e2
                            clear e0 e1 e2
                            go_wp2_with fail
                            go_meet
                            exact ⟨rfl, HN.out⟩
              case rest =>
                obtain ⟨rfl, m2, h2⟩ := hcut
                have H2 := Lib.hid h2
                clear h2 H5 q0 q1 q2 q3 q4 HP HR HS HON c0 c1 c2 c3 c4
                go_upto_if 154 with fail
                go_cut [10, 11, 12, 13, 14] from 70 to 218 (fun jv _ _ kv _ wx => ∃ m3, JSt w0 wx d r nm m3 (2 * k + 3) [rObj w0.heap.size wb (opJObj oK (.slice pa oP.length pc) (.slice qa oR.length qc) oN oM)] jv kv)
                case first =>
                  as_aux_lemma =>
                    cases op with
                    | false =>
                      have HG := Lib.hid (⟨m2, H2.out.next⟩ : ∃ m3, JSt w0 wc d r nm m3 (2 * k + 3) [rObj w0.heap.size wb (opJObj oK (.slice pa oP.length pc) (.slice qa oR.length qc) oN oM)] u10 u13)
                      go_wp2_with fail
                      go_meet
                      exact HG.out
                    | true =>
                      obtain ⟨st2, hj2⟩ := H2.out.ji
                      obtain ⟨c', m3, st3, hji3, -, hop⟩ := open_both H2.out.own hj2 (by have := HK40.out; omega) (nm := nm) HNM.out
                      have HOP := Lib.hid hop
                      have HJ3 := Lib.hid hji3
                      clear hop hji3 hj2
                      go_wp2_with fail
                      refine HOP.out.mono ?_; rintro e w6 ⟨jp2, ra2, n2, rc2, rfl, -, -, hop2⟩
                      have HOP2 := Lib.hid (hop2 _ (.inl rfl))
                      clear hop2 HOP
                      go_wp2_with fail
                      refine HOP2.out.mono ?_; rintro e w7 ⟨kp2, rfl, hjk2, hopd⟩
                      have HG := Lib.hid (⟨m3, JSt.of_opened hopd HJ3.out⟩ : ∃ m3, JSt w0 w7 d r nm m3 (2 * k + 3) [rObj w0.heap.size wb (opJObj oK (.slice pa oP.length pc) (.slice qa oR.length qc) oN oM)] (.pointer jp2) (.pointer kp2))
                      clear hjk2 HOP2
                      rcases hopd with ⟨rfl, rfl, rfl, rfl, h7⟩ | ⟨l, j, q, v, rfl, rfl, rfl, rfl, hc1, hc2, h7⟩
                      · clear h7
                        go_wp2_with fail
                        go_meet
                        exact HG.out
                      · have hrw := (Own.rows h7 (v := .slice ra2 l.length rc2) (ll := l) (by simp)).1
                        have hrk := (Own.rows h7 (v := v) (ll := l) (by simp))
                        obtain ⟨va, vc, rfl⟩ := hrk.2
                        have hrk := hrk.1
                        obtain ⟨-, -, k2, -⟩ := rj_cells (Own.at h7 (b := q) (o := rjObj r nm (.slice va l.length vc)) (by simp)).1
                        have hsame := rsame_calls hrw hrk (Nat.le_trans hc1 hc2)
                        have hd9 : decide (l = l) = true := decide_eq_true rfl
                        rw [hd9] at hsame
                        have HSA := Lib.hid hsame
                        have HG2 := Lib.hid (fun (wx : World) (hk : Keeps (fun _ => False) w7 wx) => (⟨m3, .inr ⟨j, q, l, _, rfl, rfl, HJ3.out, JTwo.unbox (Own.quiet h7 hk)⟩⟩ : ∃ m3, JSt w0 wx d r nm m3 (2 * k + 3) [rObj w0.heap.size wb (opJObj oK (.slice pa oP.length pc) (.slice qa oR.length qc) oN oM)] (.pointer (some ⟨j, 0, none⟩)) (.pointer (some ⟨q, 0, none⟩))))
                        clear h7 hrw hrk hsame hd9 hc1 hc2
                        go_wp2_with fail
                        refine HSA.out.mono ?_
                        rintro e w8 ⟨rfl, hk8⟩
                        have HG3 := Lib.hid (HG2.out _ hk8)
                        clear hk8
                        go_wp2_with fail
                        go_meet
                        exact HG3.out
                case rest =>
                  obtain ⟨m3, h3⟩ := hcut
                  have hrel : ∀ wx, Keeps (fun _ => False) wc wx → JRel w0 nm d r len u10 u13 (.int .i64 ((k + 1 : Nat) : Int)) wx := fun wx hk => ⟨m3, k + 1, rfl, HLT.out, HK40.out, (h3.quiet hk).unbox⟩
                  have HREL := Lib.hid hrel
                  clear hrel H2
                  rcases h3 with ⟨rfl, rfl, hji, hown⟩ | ⟨j, q, l, v, rfl, rfl, hji, htwo⟩
                  · have hI := is_calls hown.drew hji.tidy (by have := HK40.out; omega)
                    have HI := Lib.hid hI
                    clear hI hji hown
                    go_wp2_with fail
                    refine wp_region_held_drew (S := fun _ => True) (by kernel_rfl) trivial (fun hHeld => ?_)
                    refine wpAnyH_take (i := 0) (oi := { dst := some 200, op := _, type := _, pos := _, after := _, guard := _ }) (v := .pointer (some ⟨d, 0, none⟩)) rfl (by kernel_rfl) (by kernel_rfl) (by kernel_rfl) (fun _ _ _ h => h) (Or.inl ⟨by rfl, by intro w hSw; go_simp⟩) hHeld ?_
                    try simp only [Act.put, List.setIfInBounds_toArray, List.set_cons_zero, List.set_cons_succ]
                    refine wpAnyH_take (i := 1) (oi := { dst := some 201, op := _, type := _, pos := _, after := _, guard := _ }) (v := .pointer (some ⟨r, 0, none⟩)) rfl (by kernel_rfl) (by kernel_rfl) (by kernel_rfl) (fun _ _ _ h => h) (Or.inl ⟨by rfl, by intro w hSw; go_simp⟩) hHeld ?_
                    try simp only [Act.put, List.setIfInBounds_toArray, List.set_cons_zero, List.set_cons_succ]
                    refine wpAnyH_ready (rs := [2]) (by kernel_rfl) (by simp) ?_
                    refine AllReadyH.cons (o := { dst := some 202, op := _, type := _, pos := _, after := _, guard := _ }) rfl (fun K hK => ?_) AllReadyH.nil
                    refine step_wantedR rfl ?_
                    go_simp
                    go_at_call 58
                    refine HI.out.mono ?_
                    rintro e w8 ⟨rfl, hk8⟩
                    refine hK.out _ _ trivial (fun hHeld1 => ?_)
                    clear hK K
                    try simp only [Act.put, List.setIfInBounds_toArray, List.set_cons_zero, List.set_cons_succ]
                    refine wpAnyH_take (i := 3) (oi := { dst := some 203, op := _, type := _, pos := _, after := _, guard := _ }) (v := .bool false) rfl (by kernel_rfl) (by kernel_rfl) (by kernel_rfl) (fun _ _ _ h => h) (Or.inl ⟨by rfl, by intro w hSw; go_simp⟩) hHeld1 ?_
                    try simp only [Act.put, List.setIfInBounds_toArray, List.set_cons_zero, List.set_cons_succ]
                    refine wpAnyH_take (i := 4) (oi := { dst := some 204, op := _, type := _, pos := _, after := _, guard := _ }) (v := .bool false) rfl (by kernel_rfl) (by kernel_rfl) (by kernel_rfl) (fun _ _ _ h => h) (Or.inl ⟨by rfl, by intro w hSw; go_simp⟩) hHeld1 ?_
                    try simp only [Act.put, List.setIfInBounds_toArray, List.set_cons_zero, List.set_cons_succ]
                    refine wpAnyH_take (i := 5) (oi := { dst := some 205, op := _, type := _, pos := _, after := _, guard := _ }) (v := .pointer none) rfl (by kernel_rfl) (by kernel_rfl) (by kernel_rfl) (fun _ _ _ h => h) (Or.inl ⟨by rfl, by intro w hSw; go_simp⟩) hHeld1 ?_
                    try simp only [Act.put, List.setIfInBounds_toArray, List.set_cons_zero, List.set_cons_succ]
                    refine wpAnyH_take (i := 6) (oi := { dst := some 206, op := _, type := _, pos := _, after := _, guard := _ }) (v := .bool false) rfl (by kernel_rfl) (by kernel_rfl) (by kernel_rfl) (fun _ _ _ h => h) (Or.inl ⟨by rfl, by intro w hSw; go_simp⟩) hHeld1 ?_
                    try simp only [Act.put, List.setIfInBounds_toArray, List.set_cons_zero, List.set_cons_succ]
                    refine wpAnyH_take (i := 7) (oi := { dst := some 207, op := _, type := _, pos := _, after := _, guard := _ }) (v := .bool false) rfl (by kernel_rfl) (by kernel_rfl) (by kernel_rfl) (fun _ _ _ h => h) (Or.inl ⟨by rfl, by intro w hSw; go_simp⟩) hHeld1 ?_
                    try simp only [Act.put, List.setIfInBounds_toArray, List.set_cons_zero, List.set_cons_succ]
                    refine wpAnyH_take (i := 8) (oi := { dst := some 208, op := _, type := _, pos := _, after := _, guard := _ }) (v := undef) rfl (by kernel_rfl) (by kernel_rfl) (by kernel_rfl) (fun _ _ _ h => h) (Or.inr ⟨by kernel_rfl, rfl⟩) hHeld1 ?_
                    try simp only [Act.put, List.setIfInBounds_toArray, List.set_cons_zero, List.set_cons_succ]
                    refine wpAnyH_take (i := 9) (oi := { dst := some 209, op := _, type := _, pos := _, after := _, guard := _ }) (v := undef) rfl (by kernel_rfl) (by kernel_rfl) (by kernel_rfl) (fun _ _ _ h => h) (Or.inr ⟨by kernel_rfl, rfl⟩) hHeld1 ?_
                    try simp only [Act.put, List.setIfInBounds_toArray, List.set_cons_zero, List.set_cons_succ]
                    refine wpAnyH_take (i := 10) (oi := { dst := some 210, op := _, type := _, pos := _, after := _, guard := _ }) (v := undef) rfl (by kernel_rfl) (by kernel_rfl) (by kernel_rfl) (fun _ _ _ h => h) (Or.inr ⟨by kernel_rfl, rfl⟩) hHeld1 ?_
                    try simp only [Act.put, List.setIfInBounds_toArray, List.set_cons_zero, List.set_cons_succ]
                    refine wpAnyH_take (i := 11) (oi := { dst := some 211, op := _, type := _, pos := _, after := _, guard := _ }) (v := undef) rfl (by kernel_rfl) (by kernel_rfl) (by kernel_rfl) (fun _ _ _ h => h) (Or.inr ⟨by kernel_rfl, rfl⟩) hHeld1 ?_
                    try simp only [Act.put, List.setIfInBounds_toArray, List.set_cons_zero, List.set_cons_succ]
                    refine wpAnyH_take (i := 12) (oi := { dst := some 212, op := _, type := _, pos := _, after := _, guard := _ }) (v := undef) rfl (by kernel_rfl) (by kernel_rfl) (by kernel_rfl) (fun _ _ _ h => h) (Or.inr ⟨by kernel_rfl, rfl⟩) hHeld1 ?_
                    try simp only [Act.put, List.setIfInBounds_toArray, List.set_cons_zero, List.set_cons_succ]
                    refine wpAnyH_take (i := 13) (oi := { dst := some 213, op := _, type := _, pos := _, after := _, guard := _ }) (v := undef) rfl (by kernel_rfl) (by kernel_rfl) (by kernel_rfl) (fun _ _ _ h => h) (Or.inr ⟨by kernel_rfl, rfl⟩) hHeld1 ?_
                    try simp only [Act.put, List.setIfInBounds_toArray, List.set_cons_zero, List.set_cons_succ]
                    refine wpAnyH_take (i := 14) (oi := { dst := some 214, op := _, type := _, pos := _, after := _, guard := _ }) (v := undef) rfl (by kernel_rfl) (by kernel_rfl) (by kernel_rfl) (fun _ _ _ h => h) (Or.inr ⟨by kernel_rfl, rfl⟩) hHeld1 ?_
                    try simp only [Act.put, List.setIfInBounds_toArray, List.set_cons_zero, List.set_cons_succ]
                    refine wpAnyH_take (i := 15) (oi := { dst := some 215, op := _, type := _, pos := _, after := _, guard := _ }) (v := undef) rfl (by kernel_rfl) (by kernel_rfl) (by kernel_rfl) (fun _ _ _ h => h) (Or.inr ⟨by kernel_rfl, rfl⟩) hHeld1 ?_
                    try simp only [Act.put, List.setIfInBounds_toArray, List.set_cons_zero, List.set_cons_succ]
                    refine wpAnyH_take (i := 16) (oi := { dst := some 216, op := _, type := _, pos := _, after := _, guard := _ }) (v := .bool false) rfl (by kernel_rfl) (by kernel_rfl) (by kernel_rfl) (fun _ _ _ h => h) (Or.inl ⟨by rfl, by intro w hSw; go_simp⟩) hHeld1 ?_
                    try simp only [Act.put, List.setIfInBounds_toArray, List.set_cons_zero, List.set_cons_succ]
                    refine wpAnyH_take (i := 17) (oi := { dst := some 217, op := _, type := _, pos := _, after := _, guard := _ }) (v := .bool false) rfl (by kernel_rfl) (by kernel_rfl) (by kernel_rfl) (fun _ _ _ h => h) (Or.inl ⟨by rfl, by intro w hSw; go_simp⟩) hHeld1 ?_
                    try simp only [Act.put, List.setIfInBounds_toArray, List.set_cons_zero, List.set_cons_succ]
                    refine wpAnyH_done (by kernel_rfl) ?_ _
                    all_goals
                      have HG := Lib.hid (HREL.out _ ((Keeps.refl _ wc).drew.trans hk8 (fun _ _ e => e)))
                      clear hk8
                      go_wp2_with fail
                      go_roundw
                      case rel => exact HG.out
                      case measure => have := HLT.out; simp [intOf]; omega
                  · have hI := is_calls htwo.drop3.drew hji.tidy (by have := HK40.out; omega)
                    have hrk := Own.rows htwo (v := v) (ll := l) (by simp)
                    obtain ⟨va, vc, rfl⟩ := hrk.2
                    have hrk := hrk.1
                    have hqb := (Own.at htwo (b := q) (o := rjObj r nm (.slice va l.length vc)) (by simp)).1
                    have hjb := (Own.at htwo (b := j) (o := jrnObj d nm (framesOf l).length) (by simp)).1
                    have hfl := hji.recs l rfl
                    have k2 : wc.cell? ⟨q, 2, none⟩ = some (.slice va l.length vc) := (rj_cells hqb).2.2.1
                    have hck : ∀ wx, Keeps (fun _ => False) wc.drew wx → wx.cell? ⟨q, 2, none⟩ = some (.slice va l.length vc) ∧ Runs 39 #[.pointer (some ⟨j, 0, none⟩)] wx (.int .i64 ((framesOf l).length : Int)) wx ∧ Runs 65 #[.slice va l.length vc] wx (.int .i64 ((framesOf l).length : Int)) wx := fun wx hk =>
                      ⟨(rj_cells (hk.undrew.at hqb (fun e => e))).2.2.1, jsize_runs (hk.undrew.at hjb (fun e => e)), rsize_runs (hrk.keep hk.undrew) (by have := HK40.out; omega)⟩
                    have HCK := Lib.hid hck
                    have HI := Lib.hid hI
                    clear hI hji htwo hrk hqb hjb hfl hck
                    generalize ((framesOf l).length : Int) = z at HCK
                    go_wp2_with fail
                    go_region_held3 (fun w' => w'.cell? ⟨q, 2, none⟩ = some (.slice va l.length vc)) (first | exact k2 | exact k2' | go_keep) (first | (go_at_call 58; refine HI.out.mono ?_; rintro e w8 ⟨rfl, hk8⟩; obtain ⟨k2', hz1, hz2⟩ := HCK.out _ hk8) | (go_at_call 39; refine hz1.mono ?_; rintro e w' ⟨rfl, rfl⟩) | (go_at_call 65; refine hz2.mono ?_; rintro e w' ⟨rfl, rfl⟩))
                    all_goals
                      have HG := Lib.hid (HREL.out _ ((Keeps.refl _ wc).drew.trans hk8 (fun _ _ e => e)))
                      clear hk8 hz1 hz2 k2 k2' HCK HI
                      go_wp2_with fail
                      go_roundw
                      case rel => exact HG.out
                      case measure => have := HLT.out; simp [intOf]; omega
        · have hs2 : smallOf oR = false := by simpa using hs
          rw [hs2]
          have HB := Lib.hid H5.out.own.below
          clear hs hs2
          go_wp2_with fail
          go_ret
          exact ⟨rfl, HB.out⟩
    · obtain rfl : k = len := by omega
      have HB := Lib.hid hst.own.below
      clear hst hlt hk
      go_wp2_with fail
      go_ret
      exact ⟨rfl, HB.out⟩
end Go.Proofs.Ytlinkpjneehnbaa
